/- The walks of the functions: each returns what its plain function says. -/
import Derived.Test.YtpjcfmpfiadkgaaGreatSDefs
import Derived.Test.YtpjcfmpfiadkgaaGreatRows
import Derived.Test.YtpjcfmpfiadkgaaGreatSSort
namespace Go.Proofs.YtpjcfmpfiadkgaaGreat
open Go.Gx Go.Gx.F Go.RowKit
set_option linter.all false
set_option maxRecDepth 10000

theorem inf48 : inf Tryz.prog 48 = some (1, 24, [nilS.v]) := by kernel_rfl
theorem inf52 : inf Tryz.prog 52 = some (2, 32, [nilS.v, (.int .i64 0)]) := by kernel_rfl
theorem sz5 : szOf Tryz.prog 5 = some 1 := by kernel_rfl
theorem sz22 : szOf Tryz.prog 22 = some 1 := by kernel_rfl
theorem sz27 : szOf Tryz.prog 27 = some 3 := by kernel_rfl
theorem sz39 : szOf Tryz.prog 39 = some 1 := by kernel_rfl
theorem sz52 : szOf Tryz.prog 52 = some 2 := by kernel_rfl
theorem sz76 : szOf Tryz.prog 76 = some 4 := by kernel_rfl

theorem c_spec_l1Cur_next (p_c : spec_l1Cur) (r : Int × spec_l1Cur) (hr : spec_l1Cur_next p_c = some r) (w0 : World) (m : Mem) (b_p_c : Nat) (s1 : Sl) (h1 : Rd m s1 p_c.code) (X : List Nat) (hS : St X w0 w0 m [[⟨b_p_c,[s1.v,(iV p_c.at_),(.int .u64 p_c.seed.v)],41⟩]]) :
  RetX Tryz.prog 67 [(pP b_p_c 0)] w0 (fun v w=>v = (iV r.1)∧St X w0 w m [[⟨b_p_c,[s1.v,(iV r.2.at_),(.int .u64 r.2.seed.v)],41⟩]]∧r.2.code = p_c.code):=by
 unfold spec_l1Cur_next at hr
 refine ret_startX Tryz.func67 rfl 62 rfl rfl fun a hF=>q_sr (q_s hF rfl fun a hF=>q_end (n_sq (q_sr (q_s hF rfl fun a hF=>q_end (n_sq (q_seq (q_seq (e_region ⟨[],[],m⟩ mixed fun w' hw'=>?_))))))))
 have hS:=hS.below hw'
 refine e_P (v:=(pP b_p_c 0)) 0 hF rfl (ex_move rfl) fun a hF=>e_P (v:=(pP b_p_c 0)) 1 hF rfl (ex_nilCheck rfl) fun a hF=>e_P (v:=(pP b_p_c 1)) 2 hF rfl (ex_fieldAddr U41 rfl sz3 rfl rfl) fun a hF=>e_X (v:=(iV p_c.at_)) 3 hF hS rfl (ex_load1 0 0 U3 rfl rfl rfl rfl) fun a hF=>e_P (v:=(pP b_p_c 0)) 4 hF rfl (ex_move rfl) fun a hF=>e_P (v:=(pP b_p_c 0)) 5 hF rfl (ex_nilCheck rfl) fun a hF=>e_P (v:=(pP b_p_c 0)) 6 hF rfl (ex_fieldAddr U41 rfl sz22 rfl rfl) fun a hF=>e_X (v:=s1.v) 7 hF hS rfl (ex_load1 0 0 U22 rfl rfl rfl rfl) fun a hF=>e_P (v:=(iV (goLen p_c.code))) 8 hF rfl (ex_len U22 rfl h1.len) fun a hF=>e_P (v:=(.bool (decide (p_c.at_ < (goLen p_c.code))))) 9 hF rfl (ex_ibin rfl rfl rfl) fun a hF=>e_end (by kernel_rfl) (n_sq ?_) _
 obtain ⟨b_4,hj1,hr⟩:=bindS hr
 refine q_join (fun a w=>Fr a 62 [(0,(pP b_p_c 0)),(3,(iV b_4))]∧St X w0 w m [[⟨b_p_c,[s1.v,(iV p_c.at_),(.int .u64 p_c.seed.v)],41⟩]]) ?_ ?_
 ·rcases bcase (decide (p_c.at_ < (goLen p_c.code))) with hc2 | hc2
  ·have hj1:=cond_f hc2 hj1
   refine q_cond_f hF rfl hc2 (q_skipc (n_jn ?_))
   obtain rfl:=someI hj1
   exact ⟨hF.sub ⟨rfl,rfl,trivial⟩,hS⟩
  ·have hj1:=cond_t hc2 hj1
   refine q_cond_t hF rfl hc2 (e_region ⟨[],[],m⟩ mixed fun w' hw'=>?_)
   have hS:=hS.below hw'
   refine e_P (v:=(pP b_p_c 0)) 0 hF rfl (ex_move rfl) fun a hF=>e_P (v:=(pP b_p_c 0)) 1 hF rfl (ex_nilCheck rfl) fun a hF=>e_P (v:=(pP b_p_c 0)) 2 hF rfl (ex_fieldAddr U41 rfl sz22 rfl rfl) fun a hF=>e_X (v:=s1.v) 3 hF hS rfl (ex_load1 0 0 U22 rfl rfl rfl rfl) fun a hF=>e_P (v:=(pP b_p_c 0)) 4 hF rfl (ex_move rfl) fun a hF=>e_P (v:=(pP b_p_c 0)) 5 hF rfl (ex_nilCheck rfl) fun a hF=>e_P (v:=(pP b_p_c 1)) 6 hF rfl (ex_fieldAddr U41 rfl sz3 rfl rfl) fun a hF=>e_X (v:=(iV p_c.at_)) 7 hF hS rfl (ex_load1 0 0 U3 rfl rfl rfl rfl) fun a hF=>?_
   obtain ⟨e_2,he_2,hj1⟩:=bindS hj1
   obtain ⟨vs3,at3,d3⟩:=h1.at he_2 1 rfl
   obtain rfl : vs3 = [(.int .u8 e_2.v)]:=d3
   refine e_P (v:=(elP s1 (p_c.at_.toNat * 1))) 8 hF rfl (ex_indexAddr U22 sz5 rfl rfl (h1.idx he_2)) fun a hF=>e_xm (v:=(.int .u8 e_2.v)) 9 hF hS (Mem.le.refl _) rfl (ex_loadE1 0 U5 rfl rfl ((at3).at) rfl rfl) rfl rfl (by kernel_rfl) (by kernel_rfl) (by kernel_rfl) fun a hF=>e_P (v:=(iV (w64 e_2.v))) 10 hF rfl (ex_conv U5 U3 rfl) fun a hF=>e_P (v:=(iV (w64 e_2.v))) 11 hF rfl (ex_assign rfl) fun a hF=>e_end (by kernel_rfl) (n_jn ?_) _
   obtain rfl:=someI hj1
   exact ⟨hF.sub ⟨rfl,rfl,trivial⟩,hS⟩
 ·rintro a w ⟨hF,hS⟩
  refine n_sq ?_
  refine q_sr (q_m hF rfl fun a hF=>q_y (v:=(pP b_p_c 0)) hF hS (ex_nilCheck rfl) fun a hF=>q_y (v:=(pP b_p_c 1)) hF hS (ex_fieldAddr U41 rfl sz3 rfl rfl) fun a hF=>q_y (v:=(iV p_c.at_)) hF hS (ex_load1 0 0 U3 rfl rfl rfl rfl) fun a hF=>q_y (v:=(iV (w64 (p_c.at_ + 1)))) hF hS (ex_ibin rfl rfl rfl) fun a hF=>q_y (v:=(pP b_p_c 0)) hF hS (ex_nilCheck rfl) fun a hF=>q_y (v:=(pP b_p_c 1)) hF hS (ex_fieldAddr U41 rfl sz3 rfl rfl) fun a hF=>q_store (vs:=[(iV (w64 (p_c.at_ + 1)))]) (cs':=[s1.v,(iV (w64 (p_c.at_ + 1))),(.int .u64 p_c.seed.v)]) 0 0 hF hS sz3 rfl rfl rfl rfl rfl rfl rfl rfl fun a w hF hS=>q_end (n_sq (q_sr (q_m hF rfl fun a hF=>q_m hF rfl fun a hF=>q_y (v:=(pP b_p_c 0)) hF hS (ex_nilCheck rfl) fun a hF=>q_y (v:=(pP b_p_c 2)) hF hS (ex_fieldAddr U41 rfl sz39 rfl rfl) fun a hF=>q_y (v:=(.int .u64 p_c.seed.v)) hF hS (ex_load1 0 0 U39 rfl rfl rfl rfl) fun a hF=>q_y (v:=(.int .u64 (IntKind.wrap .u64 (p_c.seed.v * 6364136223846793005)))) hF hS (ex_ibin rfl rfl rfl) fun a hF=>q_m hF rfl fun a hF=>q_y (v:=(.int .u64 (IntKind.wrap .u64 b_4))) hF hS (ex_conv U3 U39 rfl) fun a hF=>q_y (v:=(.int .u64 (IntKind.wrap .u64 ((IntKind.wrap .u64 (p_c.seed.v * 6364136223846793005)) + (IntKind.wrap .u64 b_4))))) hF hS (ex_ibin rfl rfl rfl) fun a hF=>q_y (v:=(.int .u64 (IntKind.wrap .u64 ((IntKind.wrap .u64 ((IntKind.wrap .u64 (p_c.seed.v * 6364136223846793005)) + (IntKind.wrap .u64 b_4))) + 1442695040888963407)))) hF hS (ex_ibin rfl rfl rfl) fun a hF=>q_y (v:=(pP b_p_c 0)) hF hS (ex_nilCheck rfl) fun a hF=>q_y (v:=(pP b_p_c 2)) hF hS (ex_fieldAddr U41 rfl sz39 rfl rfl) fun a hF=>?_))))
  refine q_store (vs:=[(.int .u64 (IntKind.wrap .u64 ((IntKind.wrap .u64 ((IntKind.wrap .u64 (p_c.seed.v * 6364136223846793005)) + (IntKind.wrap .u64 b_4))) + 1442695040888963407)))]) (cs':=[s1.v,(iV (w64 (p_c.at_ + 1))),(.int .u64 (IntKind.wrap .u64 ((IntKind.wrap .u64 ((IntKind.wrap .u64 (p_c.seed.v * 6364136223846793005)) + (IntKind.wrap .u64 b_4))) + 1442695040888963407)))]) 0 0 hF hS sz39 rfl rfl rfl rfl rfl rfl rfl rfl fun a w hF hS=>q_end (n_sq (q_seq (q_seq (e_region ⟨[],[],m⟩ mixed fun w' hw'=>?_))))
  have hS:=hS.below hw'
  refine e_P (v:=(pP b_p_c 0)) 0 hF rfl (ex_move rfl) fun a hF=>e_P (v:=(pP b_p_c 0)) 1 hF rfl (ex_nilCheck rfl) fun a hF=>e_P (v:=(pP b_p_c 1)) 2 hF rfl (ex_fieldAddr U41 rfl sz3 rfl rfl) fun a hF=>e_X (v:=(iV (w64 (p_c.at_ + 1)))) 3 hF hS rfl (ex_load1 0 0 U3 rfl rfl rfl rfl) fun a hF=>e_P (v:=(pP b_p_c 0)) 4 hF rfl (ex_move rfl) fun a hF=>e_P (v:=(pP b_p_c 0)) 5 hF rfl (ex_nilCheck rfl) fun a hF=>e_P (v:=(pP b_p_c 0)) 6 hF rfl (ex_fieldAddr U41 rfl sz22 rfl rfl) fun a hF=>e_X (v:=s1.v) 7 hF hS rfl (ex_load1 0 0 U22 rfl rfl rfl rfl) fun a hF=>e_P (v:=(iV (goLen p_c.code))) 8 hF rfl (ex_len U22 rfl h1.len) fun a hF=>e_P (v:=(.bool (decide ((w64 (p_c.at_ + 1)) ≤ (goLen p_c.code))))) 9 hF rfl (ex_ibin rfl rfl rfl) fun a hF=>e_end (by kernel_rfl) (n_sq ?_) _
  rcases bcase (decide ((w64 (p_c.at_ + 1)) ≤ (goLen p_c.code))) with hc3 | hc3
  ·have hr:=cond_f hc3 hr
   refine q_cond_f hF rfl hc3 (q_skipc (n_sq (q_sr (q_m hF rfl fun a hF=>q_y (v:=(pP b_p_c 0)) hF hS (ex_nilCheck rfl) fun a hF=>q_y (v:=(pP b_p_c 2)) hF hS (ex_fieldAddr U41 rfl sz39 rfl rfl) fun a hF=>q_y (v:=(.int .u64 (IntKind.wrap .u64 ((IntKind.wrap .u64 ((IntKind.wrap .u64 (p_c.seed.v * 6364136223846793005)) + (IntKind.wrap .u64 b_4))) + 1442695040888963407)))) hF hS (ex_load1 0 0 U39 rfl rfl rfl rfl) fun a hF=>?_))))
   obtain ⟨t_5,ht_5,hr⟩:=bindS hr
   refine q_y (v:=(.int .u64 t_5)) hF hS (ex_shr rfl rfl ht_5) fun a hF=>q_y (v:=(.int .u64 (goBits .and .u64 t_5 255))) hF hS (ex_bits rfl rfl rfl) fun a hF=>q_y (v:=(iV (w64 (goBits .and .u64 t_5 255)))) hF hS (ex_conv U39 U3 rfl) fun a hF=>q_s hF rfl fun a hF=>q_end (n_sq (q_ret ?_))
   obtain rfl:=someI hr
   exact ret_ofX hF hS rfl (.tmp rfl .nil) ⟨rfl,hS.sel [0] (by decide),rfl⟩
  ·have hr:=cond_t hc3 hr
   refine q_cond_t hF rfl hc3 (q_sr (q_m hF rfl fun a hF=>q_s hF rfl fun a hF=>q_end (n_sq (q_ret (r_sq ?_)))))
   obtain rfl:=someI hr
   exact ret_ofX hF hS rfl (.tmp rfl .nil) ⟨rfl,hS.sel [0] (by decide),rfl⟩

theorem c_spec_l1Cur_pick (p_c : spec_l1Cur) (p_n : Int) (r : Int × spec_l1Cur) (hr : spec_l1Cur_pick p_c p_n = some r) (w0 : World) (m : Mem) (b_p_c : Nat) (s1 : Sl) (h1 : Rd m s1 p_c.code) (X : List Nat) (hS : St X w0 w0 m [[⟨b_p_c,[s1.v,(iV p_c.at_),(.int .u64 p_c.seed.v)],41⟩]]) :
  RetX Tryz.prog 36 [(pP b_p_c 0),(iV p_n)] w0 (fun v w=>v = (iV r.1)∧St X w0 w m [[⟨b_p_c,[s1.v,(iV r.2.at_),(.int .u64 r.2.seed.v)],41⟩]]∧r.2.code = p_c.code):=by
 unfold spec_l1Cur_pick at hr
 refine ret_startX Tryz.func36 rfl 20 rfl rfl fun a hF=>q_sr (q_s hF rfl fun a hF=>q_end (n_sq (q_seq (q_sr (q_m hF rfl fun a hF=>q_y (v:=(.bool (decide (p_n ≤ 1)))) hF hS (ex_ibin rfl rfl rfl) fun a hF=>q_end (n_sq ?_))))))
 rcases bcase (decide (p_n ≤ 1)) with hc1 | hc1
 ·have hr:=cond_f hc1 hr
  refine q_cond_f hF rfl hc1 (q_skipc (n_sq (q_sr (q_m hF rfl fun a hF=>?_))))
  have hS2 : St _ _ _ _ ([[⟨b_p_c,[s1.v,(iV p_c.at_),(.int .u64 p_c.seed.v)],41⟩]]++[]):=hS
  have hE2:=hS2.enter
  obtain ⟨t_3,ht_3,hr⟩:=bindS hr
  refine q_do rfl fun _ hK=>wp_callX (vs:=[(pP b_p_c 0)]) hF Tryz.func67 (by kernel_rfl) rfl rfl rfl (c_spec_l1Cur_next p_c t_3 ht_3 _ m b_p_c s1 h1 _ hE2) fun a w _ hR hF=>hK _ _ ?_
  obtain ⟨rfl,hR2,hk4⟩:=hR
  have hS : St _ _ _ _ [[⟨b_p_c,[s1.v,(iV t_3.2.at_),(.int .u64 t_3.2.seed.v)],41⟩]]:=hS2.leaveF hR2
  have h4 : Rd m s1 t_3.2.code:=by rw [hk4]; exact h1
  refine q_s hF rfl fun a hF=>q_end (n_sq (q_seq (q_sr (q_m hF rfl fun a hF=>q_y (v:=(.bool (decide (200 < p_n)))) hF hS (ex_ibin rfl rfl rfl) fun a hF=>q_end (n_sq ?_)))))
  obtain ⟨j2,hj2,hr⟩:=bindS hr
  refine q_join (fun a w=>∃ x_8,∃ p_c_9,j2 = (x_8,p_c_9)∧Fr a 20 [(1,(iV p_n)),(5,(iV x_8))]∧St X w0 w m [[⟨b_p_c,[s1.v,(iV p_c_9.at_),(.int .u64 p_c_9.seed.v)],41⟩]]∧Rd m s1 p_c_9.code∧p_c_9.code = p_c.code) ?_ ?_
  ·rcases bcase (decide (200 < p_n)) with hc3 | hc3
   ·have hj2:=cond_f hc3 hj2
    refine q_cond_f hF rfl hc3 (q_skipc (n_jn ?_))
    obtain rfl:=someI hj2
    exact ⟨_,_,rfl,hF.sub ⟨rfl,rfl,trivial⟩,hS,h4,hk4⟩
   ·have hj2:=cond_t hc3 hj2
    refine q_cond_t hF rfl hc3 (q_region (q_m hF rfl fun a hF=>q_y (v:=(iV (w64 (t_3.1 * 256)))) hF hS (ex_ibin rfl rfl rfl) fun a hF=>q_m hF rfl fun a hF=>?_))
    have hS5 : St _ _ _ _ ([[⟨b_p_c,[s1.v,(iV t_3.2.at_),(.int .u64 t_3.2.seed.v)],41⟩]]++[]):=hS
    have hE5:=hS5.enter
    obtain ⟨t_6,ht_6,hj2⟩:=bindS hj2
    refine q_do rfl fun _ hK=>wp_callX (vs:=[(pP b_p_c 0)]) hF Tryz.func67 (by kernel_rfl) rfl rfl rfl (c_spec_l1Cur_next t_3.2 t_6 ht_6 _ m b_p_c s1 h4 _ hE5) fun a w _ hR hF=>hK _ _ ?_
    obtain ⟨rfl,hR5,hk7⟩:=hR
    have hS : St _ _ _ _ [[⟨b_p_c,[s1.v,(iV t_6.2.at_),(.int .u64 t_6.2.seed.v)],41⟩]]:=hS5.leaveF hR5
    have h7 : Rd m s1 t_6.2.code:=by rw [hk7]; exact h4
    refine q_y (v:=(iV (w64 ((w64 (t_3.1 * 256)) + t_6.1)))) hF hS (ex_ibin rfl rfl rfl) fun a hF=>q_s hF rfl fun a hF=>q_end (n_jn ?_)
    obtain rfl:=someI hj2
    exact ⟨_,_,rfl,hF.sub ⟨rfl,rfl,trivial⟩,hS,h7,(hk7.trans hk4)⟩
  ·rintro a w ⟨x_8,p_c_9,rfl,hF,hS,h10,h10k⟩
   refine n_sq ?_
   refine q_sr (q_m hF rfl fun a hF=>q_m hF rfl fun a hF=>?_)
   obtain ⟨t_11,ht_11,hr⟩:=bindS hr
   refine q_y (v:=(iV t_11)) hF hS (ex_rem rfl rfl ht_11) fun a hF=>q_s hF rfl fun a hF=>q_end (n_sq (q_ret ?_))
   obtain rfl:=someI hr
   exact ret_ofX hF hS rfl (.tmp rfl .nil) ⟨rfl,hS.sel [0] (by decide),h10k⟩
 ·have hr:=cond_t hc1 hr
  refine q_cond_t hF rfl hc1 (q_sr (q_s hF rfl fun a hF=>q_end (n_sq (q_ret (r_sq ?_)))))
  obtain rfl:=someI hr
  exact ret_ofX hF hS rfl (.tmp rfl .nil) ⟨rfl,hS.sel [0] (by decide),rfl⟩

theorem c_spec_l1Cur_among (p_c : spec_l1Cur) (p_list : List Int) (r : Int × spec_l1Cur) (hr : spec_l1Cur_among p_c p_list = some r) (w0 : World) (m : Mem) (b_p_c : Nat) (s1 : Sl) (h1 : Rd m s1 p_c.code) (s2 : Sl) (h2 : Rd m s2 p_list) (X : List Nat) (hS : St X w0 w0 m [[⟨b_p_c,[s1.v,(iV p_c.at_),(.int .u64 p_c.seed.v)],41⟩]]) :
  RetX Tryz.prog 54 [(pP b_p_c 0),s2.v] w0 (fun v w=>v = (iV r.1)∧St X w0 w m [[⟨b_p_c,[s1.v,(iV r.2.at_),(.int .u64 r.2.seed.v)],41⟩]]∧r.2.code = p_c.code):=by
 unfold spec_l1Cur_among at hr
 refine ret_startX Tryz.func54 rfl 12 rfl rfl fun a hF=>q_sr (q_s hF rfl fun a hF=>q_end (n_sq (q_sr (q_m hF rfl fun a hF=>q_m hF rfl fun a hF=>q_m hF rfl fun a hF=>q_y (v:=(iV (goLen p_list))) hF hS (ex_len U48 rfl h2.len) fun a hF=>?_))))
 have hS3 : St _ _ _ _ ([[⟨b_p_c,[s1.v,(iV p_c.at_),(.int .u64 p_c.seed.v)],41⟩]]++[]):=hS
 have hE3:=hS3.enter
 obtain ⟨t_4,ht_4,hr⟩:=bindS hr
 refine q_do rfl fun _ hK=>wp_callX (vs:=[(pP b_p_c 0),(iV (goLen p_list))]) hF Tryz.func36 (by kernel_rfl) rfl rfl rfl (c_spec_l1Cur_pick p_c (goLen p_list) t_4 ht_4 _ m b_p_c s1 h1 _ hE3) fun a w _ hR hF=>hK _ _ ?_
 obtain ⟨rfl,hR3,hk5⟩:=hR
 have hS : St _ _ _ _ [[⟨b_p_c,[s1.v,(iV t_4.2.at_),(.int .u64 t_4.2.seed.v)],41⟩]]:=hS3.leaveF hR3
 have h5 : Rd m s1 t_4.2.code:=by rw [hk5]; exact h1
 obtain ⟨e_6,he_6,hr⟩:=bindS hr
 obtain ⟨vs7,at7,d7⟩:=h2.at he_6 1 rfl
 obtain rfl : vs7 = [(iV e_6)]:=d7
 refine q_y (v:=(elP s2 (t_4.1.toNat * 1))) hF hS (ex_indexAddr U48 sz3 rfl rfl (h2.idx he_6)) fun a hF=>q_y (v:=(iV e_6)) hF hS (ex_loadE1 0 U3 rfl rfl ((at7).at) rfl rfl) fun a hF=>q_s hF rfl fun a hF=>q_end (n_sq (q_ret ?_))
 obtain rfl:=someI hr
 exact ret_ofX hF hS rfl (.tmp rfl .nil) ⟨rfl,hS.sel [0] (by decide),hk5⟩

theorem c_spec_l1Cur_twoWay (p_c : spec_l1Cur) (r : (List (List Int)) × spec_l1Cur) (hr : spec_l1Cur_twoWay p_c = some r) (w0 : World) (m : Mem) (b_p_c : Nat) (s1 : Sl) (h1 : Rd m s1 p_c.code) (X : List Nat) (hS : St X w0 w0 m [[⟨b_p_c,[s1.v,(iV p_c.at_),(.int .u64 p_c.seed.v)],41⟩]]) :
  RetX Tryz.prog 73 [(pP b_p_c 0)] w0 (fun v w=>∃ (q0' : Piece) (s0' : Sl),v = s0'.v∧St X w0 w m [[⟨b_p_c,[s1.v,(iV r.2.at_),(.int .u64 r.2.seed.v)],41⟩],q0']∧OwnD m 48 3 q0' s0' r.1∧r.2.code = p_c.code):=by
 unfold spec_l1Cur_twoWay at hr
 refine ret_startX Tryz.func73 rfl 38 rfl rfl fun a hF=>q_sr (q_s hF rfl fun a hF=>q_end (n_sq (q_sr (q_m hF rfl fun a hF=>?_))))
 have hS2 : St _ _ _ _ ([[⟨b_p_c,[s1.v,(iV p_c.at_),(.int .u64 p_c.seed.v)],41⟩]]++[]):=hS
 have hE2:=hS2.enter
 obtain ⟨t_3,ht_3,hr⟩:=bindS hr
 refine q_do rfl fun _ hK=>wp_callX (vs:=[(pP b_p_c 0),(iV 4)]) hF Tryz.func36 (by kernel_rfl) rfl rfl rfl (c_spec_l1Cur_pick p_c 4 t_3 ht_3 _ m b_p_c s1 h1 _ hE2) fun a w _ hR hF=>hK _ _ ?_
 obtain ⟨rfl,hR2,hk4⟩:=hR
 have hS : St _ _ _ _ [[⟨b_p_c,[s1.v,(iV t_3.2.at_),(.int .u64 t_3.2.seed.v)],41⟩]]:=hS2.leaveF hR2
 have h4 : Rd m s1 t_3.2.code:=by rw [hk4]; exact h1
 refine q_y (v:=(iV (w64 (1 + t_3.1)))) hF hS (ex_ibin rfl rfl rfl) fun a hF=>q_m hF rfl fun a hF=>?_
 have hS5 : St _ _ _ _ ([[⟨b_p_c,[s1.v,(iV t_3.2.at_),(.int .u64 t_3.2.seed.v)],41⟩]]++[]):=hS
 have hE5:=hS5.enter
 obtain ⟨t_6,ht_6,hr⟩:=bindS hr
 refine q_do rfl fun _ hK=>wp_callX (vs:=[(pP b_p_c 0),(iV 4)]) hF Tryz.func36 (by kernel_rfl) rfl rfl rfl (c_spec_l1Cur_pick t_3.2 4 t_6 ht_6 _ m b_p_c s1 h4 _ hE5) fun a w _ hR hF=>hK _ _ ?_
 obtain ⟨rfl,hR5,hk7⟩:=hR
 have hS : St _ _ _ _ [[⟨b_p_c,[s1.v,(iV t_6.2.at_),(.int .u64 t_6.2.seed.v)],41⟩]]:=hS5.leaveF hR5
 have h7 : Rd m s1 t_6.2.code:=by rw [hk7]; exact h4
 refine q_y (v:=(iV (w64 (1 + t_6.1)))) hF hS (ex_ibin rfl rfl rfl) fun a hF=>q_s hF rfl fun a hF=>q_s hF rfl fun a hF=>q_end (n_sq (q_sr (q_s hF rfl fun a hF=>q_end (n_sq (q_seq (q_sr (q_s hF rfl fun a hF=>q_end (n_sq (q_block ?_)))))))))
 obtain ⟨o1,hl1,hr⟩:=bindS hr
 refine q_loop (fun (s : (List (List Int)) × Int × spec_l1Cur) a w=>∃ (q9 : Piece),∃ (s9 : Sl),∃ out_8,∃ i_10,∃ p_c_11,s = (out_8,i_10,p_c_11)∧Fr a 38 [(0,(pP b_p_c 0)),(3,(iV (w64 (1 + t_3.1)))),(4,(iV (w64 (1 + t_6.1)))),(5,s9.v),(6,(iV i_10))]∧St X w0 w m [q9,[⟨b_p_c,[s1.v,(iV p_c_11.at_),(.int .u64 p_c_11.seed.v)],41⟩]]∧OwnD m 48 3 q9 s9 out_8∧Rd m s1 p_c_11.code∧p_c_11.code = p_c.code) (fun (o : (List (List Int)) × spec_l1Cur) e a w=>∃ (q36 : Piece),∃ (s36 : Sl),∃ out_35,∃ p_c_37,o = (out_35,p_c_37)∧e = .exit 0∧Fr a 38 [(5,s36.v)]∧St X w0 w m [q36,[⟨b_p_c,[s1.v,(iV p_c_37.at_),(.int .u64 p_c_37.seed.v)],41⟩]]∧OwnD m 48 3 q36 s36 out_35∧Rd m s1 p_c_37.code∧p_c_37.code = p_c.code) hl1 ⟨[],nilS,_,_,_,rfl,hF.sub ⟨rfl,rfl,rfl,rfl,rfl,trivial⟩,hS.sel [1,0] (by decide),(OwnD.nil (β:=Int) m 48 3),h7,(hk7.trans hk4)⟩ ?_ ?_
 ·clear hF hS
  rintro s a w st ⟨q9,s9,out_8,i_10,p_c_11,rfl,hF,hS,h9,h12,h12k⟩ hb1
  unfold spec_l1Cur_twoWay_l1 at hb1
  refine q_seq (q_sr (q_m hF rfl fun a hF=>q_m hF rfl fun a hF=>q_y (v:=(.bool (decide (i_10 < (w64 (1 + t_3.1)))))) hF hS (ex_ibin rfl rfl rfl) fun a hF=>q_end (n_sq ?_)))
  rcases bcase (decide (i_10 < (w64 (1 + t_3.1)))) with hc2 | hc2
  ·have hb1:=cond_f hc2 hb1
   refine q_cond_f hF rfl hc2 (q_exit (x_sq ?_))
   obtain rfl:=someI hb1
   exact ⟨nofun,.inl ⟨q9,s9,_,_,rfl,rfl,hF.sub ⟨rfl,trivial⟩,hS,h9,h12,h12k⟩⟩
  ·have hb1:=cond_t hc2 hb1
   refine q_cond_t hF rfl hc2 (q_skipc (n_sq (q_seq (q_block (q_sr (q_s hF rfl fun a hF=>q_end (n_sq (q_seq (q_sr (q_s hF rfl fun a hF=>q_end (n_sq (q_block ?_))))))))))))
   obtain ⟨o3,hl3,hb1⟩:=bindS hb1
   refine q_loop (fun (s : (List Int) × Int × spec_l1Cur) a w=>∃ (q14 : Piece),∃ (s14 : Sl),∃ row_13,∃ j_15,∃ p_c_16,s = (row_13,j_15,p_c_16)∧Fr a 38 [(0,(pP b_p_c 0)),(3,(iV (w64 (1 + t_3.1)))),(4,(iV (w64 (1 + t_6.1)))),(5,s9.v),(6,(iV i_10)),(7,s14.v),(8,(iV j_15))]∧St X w0 w m [q14,q9,[⟨b_p_c,[s1.v,(iV p_c_16.at_),(.int .u64 p_c_16.seed.v)],41⟩]]∧OwnL m 3 q14 s14 row_13∧Rd m s1 p_c_16.code∧p_c_16.code = p_c.code) (fun (o : (List Int) × spec_l1Cur) e a w=>∃ (q29 : Piece),∃ (s29 : Sl),∃ row_28,∃ p_c_30,o = (row_28,p_c_30)∧e = .exit 2∧Fr a 38 [(0,(pP b_p_c 0)),(3,(iV (w64 (1 + t_3.1)))),(4,(iV (w64 (1 + t_6.1)))),(5,s9.v),(6,(iV i_10)),(7,s29.v)]∧St X w0 w m [q9,q29,[⟨b_p_c,[s1.v,(iV p_c_30.at_),(.int .u64 p_c_30.seed.v)],41⟩]]∧OwnL m 3 q29 s29 row_28∧Rd m s1 p_c_30.code∧p_c_30.code = p_c.code) hl3 ⟨[],nilS,_,_,_,rfl,hF.sub ⟨rfl,rfl,rfl,rfl,rfl,rfl,rfl,trivial⟩,hS.sel [2,0,1] (by decide),(OwnL.nil (α:=Int) m 3),h12,h12k⟩ ?_ ?_
   ·clear hF hS
    rintro s a w st ⟨q14,s14,row_13,j_15,p_c_16,rfl,hF,hS,h14,h17,h17k⟩ hb3
    unfold spec_l1Cur_twoWay_l2 at hb3
    refine q_seq (q_sr (q_m hF rfl fun a hF=>q_m hF rfl fun a hF=>q_y (v:=(.bool (decide (j_15 < (w64 (1 + t_6.1)))))) hF hS (ex_ibin rfl rfl rfl) fun a hF=>q_end (n_sq ?_)))
    rcases bcase (decide (j_15 < (w64 (1 + t_6.1)))) with hc4 | hc4
    ·have hb3:=cond_f hc4 hb3
     refine q_cond_f hF rfl hc4 (q_exit (x_sq ?_))
     obtain rfl:=someI hb3
     exact ⟨nofun,.inl ⟨q14,s14,_,_,rfl,rfl,hF.sub ⟨rfl,rfl,rfl,rfl,rfl,rfl,trivial⟩,hS.sel [1,0,2] (by decide),h14,h17,h17k⟩⟩
    ·have hb3:=cond_t hc4 hb3
     refine q_cond_t hF rfl hc4 (q_skipc (n_sq (q_seq (q_block (q_region (q_m hF rfl fun a hF=>q_m hF rfl fun a hF=>q_m hF rfl fun a hF=>?_))))))
     have hS : St _ _ _ _ [[⟨b_p_c,[s1.v,(iV p_c_16.at_),(.int .u64 p_c_16.seed.v)],41⟩],q14,q9]:=hS.sel [2,0,1] (by decide)
     have hS18 : St _ _ _ _ ([[⟨b_p_c,[s1.v,(iV p_c_16.at_),(.int .u64 p_c_16.seed.v)],41⟩]]++[q14,q9]):=hS
     have hE18:=hS18.enter
     obtain ⟨t_19,ht_19,hb3⟩:=bindS hb3
     refine q_do rfl fun _ hK=>wp_callX (vs:=[(pP b_p_c 0),(iV 30)]) hF Tryz.func36 (by kernel_rfl) rfl rfl rfl (c_spec_l1Cur_pick p_c_16 30 t_19 ht_19 _ m b_p_c s1 h17 _ hE18) fun a w _ hR hF=>hK _ _ ?_
     obtain ⟨rfl,hR18,hk20⟩:=hR
     have hS : St _ _ _ _ [[⟨b_p_c,[s1.v,(iV t_19.2.at_),(.int .u64 t_19.2.seed.v)],41⟩],q14,q9]:=hS18.leaveF hR18
     have h20 : Rd m s1 t_19.2.code:=by rw [hk20]; exact h17
     refine q_do rfl fun _ hK=>wp_buildSlice' (l:=([0,1,2,3,5,9,t_19.1] : List Int)) (cells:=[(iV 0),(iV 1),(iV 2),(iV 3),(iV 5),(iV 9),(iV t_19.1)]) hF hS U48 inf3 rfl rfl (by kernel_rfl) rfl rfl rfl ⟨rfl,rfl,rfl,rfl,rfl,rfl,rfl,rfl⟩ rfl rfl fun a w q21 s21 hF hS h21 _=>hK _ _ ?_
     have hS : St _ _ _ _ [[⟨b_p_c,[s1.v,(iV t_19.2.at_),(.int .u64 t_19.2.seed.v)],41⟩],q21,q14,q9]:=hS.sel [1,0,2,3] (by decide)
     have hS22 : St _ _ _ _ ([[⟨b_p_c,[s1.v,(iV t_19.2.at_),(.int .u64 t_19.2.seed.v)],41⟩]]++[q21,q14,q9]):=hS
     obtain ⟨m22,hl22,hE22,hz22⟩:=hS22.lendX
     obtain ⟨t_23,ht_23,hb3⟩:=bindS hb3
     refine q_do rfl fun _ hK=>wp_callX (vs:=[(pP b_p_c 0),s21.v]) hF Tryz.func54 (by kernel_rfl) rfl rfl rfl (c_spec_l1Cur_among t_19.2 ([0,1,2,3,5,9,t_19.1] : List Int) t_23 ht_23 _ m22 b_p_c s1 (h20.mono hl22) s21 (h21.froz hl22 (hz22 0 _ rfl)) _ hE22) fun a w _ hR hF=>hK _ _ ?_
     obtain ⟨rfl,hR22,hk24⟩:=hR
     have hS : St _ _ _ _ [[⟨b_p_c,[s1.v,(iV t_23.2.at_),(.int .u64 t_23.2.seed.v)],41⟩],q21,q14,q9]:=hS22.leaveF hR22
     have h24 : Rd m s1 t_23.2.code:=by rw [hk24]; exact h20
     refine q_do rfl fun _ hK=>wp_buildSlice' (l:=([t_23.1] : List Int)) (cells:=[(iV t_23.1)]) hF hS U48 inf3 rfl rfl (by kernel_rfl) rfl rfl rfl ⟨rfl,rfl⟩ rfl rfl fun a w q25 s25 hF hS h25 _=>hK _ _ ?_
     have hS : St _ _ _ _ [q14,q25,[⟨b_p_c,[s1.v,(iV t_23.2.at_),(.int .u64 t_23.2.seed.v)],41⟩],q21,q9]:=hS.sel [3,0,1,2,4] (by decide)
     obtain ⟨l_26,hl_26,hb3⟩:=bindS hb3
     refine q_do rfl fun _ hK=>wp_append hF hS h14 U48 inf3 rfl rfl rfl rfl (h25.vw hS (j:=1) rfl) rfl (by decide) hl_26 rfl fun a w q27 s27 hF hS h27=>hK _ _ (q_s hF rfl fun a hF=>q_end (n_ib (n_sq (q_region (q_m hF rfl fun a hF=>q_y (v:=(iV (w64 (j_15 + 1)))) hF hS (ex_ibin rfl rfl rfl) fun a hF=>q_s hF rfl fun a hF=>q_end ?_)))))
     obtain rfl:=someI hb3
     exact ⟨rfl,q27,s27,_,_,_,rfl,hF.sub ⟨rfl,rfl,rfl,rfl,rfl,rfl,rfl,trivial⟩,hS.sel [0,4,2] (by decide),h27,h24,(hk24.trans (hk20.trans h17k))⟩
   ·rintro e a w ⟨q29,s29,row_28,p_c_30,rfl,rfl,hF,hS,h29,h31,h31k⟩
    refine x_ib (n_sq ?_)
    refine q_region (q_m hF rfl fun a hF=>q_m hF rfl fun a hF=>?_)
    have hS : St _ _ _ _ [q29,q9,[⟨b_p_c,[s1.v,(iV p_c_30.at_),(.int .u64 p_c_30.seed.v)],41⟩]]:=hS.sel [1,0,2] (by decide)
    refine q_do rfl fun _ hK=>wp_build1D hF hS h29 U23 inf48 rfl rfl rfl fun a w q32 s32 hF hS h32 _=>hK _ _ ?_
    have hS : St _ _ _ _ [q9,q32,[⟨b_p_c,[s1.v,(iV p_c_30.at_),(.int .u64 p_c_30.seed.v)],41⟩]]:=hS.sel [1,0,2] (by decide)
    obtain ⟨l_33,hl_33,hb1⟩:=bindS hb1
    refine q_do rfl fun _ hK=>wp_appendD hF hS h9 h32 U23 inf48 rfl rfl rfl (by decide) hl_33 rfl fun a w q34 s34 hF hS h34=>hK _ _ (q_s hF rfl fun a hF=>q_end (n_ib (n_sq (q_region (q_m hF rfl fun a hF=>q_y (v:=(iV (w64 (i_10 + 1)))) hF hS (ex_ibin rfl rfl rfl) fun a hF=>q_s hF rfl fun a hF=>q_end ?_)))))
    obtain rfl:=someI hb1
    exact ⟨rfl,q34,s34,_,_,_,rfl,hF.sub ⟨rfl,rfl,rfl,rfl,rfl,trivial⟩,hS,h34,h31,h31k⟩
 ·rintro e a w ⟨q36,s36,out_35,p_c_37,rfl,rfl,hF,hS,h36,h38,h38k⟩
  refine x_ib (n_sq ?_)
  refine q_sr (q_m hF rfl fun a hF=>q_s hF rfl fun a hF=>q_end (n_sq (q_ret ?_)))
  obtain rfl:=someI hr
  exact ret_ofX hF hS rfl (.tmp rfl .nil) ⟨q36,s36,rfl,hS.sel [1,0] (by decide),h36,h38k⟩

theorem c_spec_l1Cur_anyTwoWay (p_c : spec_l1Cur) (r : (List (List Int)) × spec_l1Cur) (hr : spec_l1Cur_anyTwoWay p_c = some r) (w0 : World) (m : Mem) (b_p_c : Nat) (s1 : Sl) (h1 : Rd m s1 p_c.code) (X : List Nat) (hS : St X w0 w0 m [[⟨b_p_c,[s1.v,(iV p_c.at_),(.int .u64 p_c.seed.v)],41⟩]]) :
  RetX Tryz.prog 52 [(pP b_p_c 0)] w0 (fun v w=>∃ (q0' : Piece) (s0' : Sl),v = s0'.v∧St X w0 w m [[⟨b_p_c,[s1.v,(iV r.2.at_),(.int .u64 r.2.seed.v)],41⟩],q0']∧OwnD m 48 3 q0' s0' r.1∧r.2.code = p_c.code):=by
 unfold spec_l1Cur_anyTwoWay at hr
 refine ret_startX Tryz.func52 rfl 35 rfl rfl fun a hF=>q_sr (q_s hF rfl fun a hF=>q_end (n_sq (q_sr (q_m hF rfl fun a hF=>?_))))
 have hS2 : St _ _ _ _ ([[⟨b_p_c,[s1.v,(iV p_c.at_),(.int .u64 p_c.seed.v)],41⟩]]++[]):=hS
 have hE2:=hS2.enter
 obtain ⟨t_3,ht_3,hr⟩:=bindS hr
 refine q_do rfl fun _ hK=>wp_callX (vs:=[(pP b_p_c 0)]) hF Tryz.func73 (by kernel_rfl) rfl rfl rfl (c_spec_l1Cur_twoWay p_c t_3 ht_3 _ m b_p_c s1 h1 _ hE2) fun a w _ hR hF=>hK _ _ ?_
 obtain ⟨q4,s4,rfl,hR2,h4,hk5⟩:=hR
 have hS : St _ _ _ _ [[⟨b_p_c,[s1.v,(iV t_3.2.at_),(.int .u64 t_3.2.seed.v)],41⟩],q4]:=hS2.leaveF hR2
 have h5 : Rd m s1 t_3.2.code:=by rw [hk5]; exact h1
 refine q_s hF rfl fun a hF=>q_end (n_sq (q_seq (q_sr (q_m hF rfl fun a hF=>?_))))
 have hS6 : St _ _ _ _ ([[⟨b_p_c,[s1.v,(iV t_3.2.at_),(.int .u64 t_3.2.seed.v)],41⟩]]++[q4]):=hS
 have hE6:=hS6.enter
 obtain ⟨t_7,ht_7,hr⟩:=bindS hr
 refine q_do rfl fun _ hK=>wp_callX (vs:=[(pP b_p_c 0),(iV 24)]) hF Tryz.func36 (by kernel_rfl) rfl rfl rfl (c_spec_l1Cur_pick t_3.2 24 t_7 ht_7 _ m b_p_c s1 h5 _ hE6) fun a w _ hR hF=>hK _ _ ?_
 obtain ⟨rfl,hR6,hk8⟩:=hR
 have hS : St _ _ _ _ [[⟨b_p_c,[s1.v,(iV t_7.2.at_),(.int .u64 t_7.2.seed.v)],41⟩],q4]:=hS6.leaveF hR6
 have h8 : Rd m s1 t_7.2.code:=by rw [hk8]; exact h5
 refine q_end (n_sq (q_block (q_sr (q_y (v:=(.bool (t_7.1 == 0))) hF hS (ex_ibin rfl rfl rfl) fun a hF=>q_s hF rfl fun a hF=>q_end (n_sq ?_)))))
 obtain ⟨j1,hj1,hr⟩:=bindS hr
 refine q_join (fun a w=>∃ (q24 : Piece),∃ x_23,∃ p_c_25,j1 = .inl (x_23,p_c_25)∧Fr a 35 [(3,s4.v)]∧St X w0 w m [q24,[⟨b_p_c,[s1.v,(iV p_c_25.at_),(.int .u64 p_c_25.seed.v)],41⟩]]∧OwnD m 48 3 q24 s4 x_23∧Rd m s1 p_c_25.code∧p_c_25.code = p_c.code) ?_ ?_
 ·rcases bcase (t_7.1 == 0) with hc2 | hc2
  ·have hj1:=cond_f hc2 hj1
   refine q_cond_f hF rfl hc2 (q_sr (q_y (v:=(.bool (t_7.1 == 1))) hF hS (ex_ibin rfl rfl rfl) fun a hF=>q_s hF rfl fun a hF=>q_end (n_sq ?_)))
   obtain ⟨j3,hj3,hj1⟩:=bindS hj1
   refine q_join (fun a w=>∃ (q19 : Piece),∃ x_18,j3 = .inl x_18∧Fr a 35 [(3,s4.v)]∧St X w0 w m [q19,[⟨b_p_c,[s1.v,(iV t_7.2.at_),(.int .u64 t_7.2.seed.v)],41⟩]]∧OwnD m 48 3 q19 s4 x_18) ?_ ?_
   ·rcases bcase (t_7.1 == 1) with hc4 | hc4
    ·have hj3:=cond_f hc4 hj3
     refine q_cond_f hF rfl hc4 (q_sr (q_y (v:=(.bool (t_7.1 == 2))) hF hS (ex_ibin rfl rfl rfl) fun a hF=>q_s hF rfl fun a hF=>q_end (n_sq ?_)))
     rcases bcase (t_7.1 == 2) with hc5 | hc5
     ·have hj3:=cond_f hc5 hj3
      refine q_cond_f hF rfl hc5 (q_sr (q_y (v:=(.bool (t_7.1 == 3))) hF hS (ex_ibin rfl rfl rfl) fun a hF=>q_s hF rfl fun a hF=>q_end (n_sq ?_)))
      rcases bcase (t_7.1 == 3) with hc6 | hc6
      ·have hj3:=cond_f hc6 hj3
       refine q_cond_f hF rfl hc6 (q_skipc (n_jn ?_))
       obtain rfl:=someI hj3
       exact ⟨q4,_,rfl,hF.sub ⟨rfl,trivial⟩,hS.sel [1,0] (by decide),h4⟩
      ·have hj3:=cond_t hc6 hj3
       refine q_cond_t hF rfl hc6 (q_sr (q_m hF rfl fun a hF=>?_))
       have hS9 : St _ _ _ _ ([[⟨b_p_c,[s1.v,(iV t_7.2.at_),(.int .u64 t_7.2.seed.v)],41⟩]]++[q4]):=hS
       have hE9:=hS9.enter
       obtain ⟨t_10,ht_10,hj3⟩:=bindS hj3
       refine q_do rfl fun _ hK=>wp_callX (vs:=[(pP b_p_c 0),(iV 2)]) hF Tryz.func36 (by kernel_rfl) rfl rfl rfl (c_spec_l1Cur_pick t_7.2 2 t_10 ht_10 _ m b_p_c s1 h8 _ hE9) fun a w _ hR hF=>hK _ _ ?_
       obtain ⟨rfl,hR9,hk11⟩:=hR
       have hS : St _ _ _ _ [[⟨b_p_c,[s1.v,(iV t_10.2.at_),(.int .u64 t_10.2.seed.v)],41⟩],q4]:=hS9.leaveF hR9
       have h11 : Rd m s1 t_10.2.code:=by rw [hk11]; exact h8
       refine q_y (v:=(iV (w64 (1 + t_10.1)))) hF hS (ex_ibin rfl rfl rfl) fun a hF=>?_
       obtain ⟨l_12,hl_12,hj3⟩:=bindS hj3
       refine q_do rfl fun _ hK=>wp_makeD (Ei:=3) hF hS U23 inf48 rfl rfl rfl (by decide) hl_12 rfl fun a w q13 s13 hF hS h13 _=>hK _ _ (q_s hF rfl fun a hF=>q_end (n_sq (q_ret (r_jn ?_))))
       obtain rfl:=someI hj3
       refine r_jn ?_
       obtain rfl:=someI hj1
       refine r_ib (r_sq ?_)
       obtain rfl:=someI hr
       exact ret_ofX hF hS rfl (.tmp rfl .nil) ⟨q13,s13,rfl,hS.sel [1,0] (by decide),h13,(hk11.trans (hk8.trans hk5))⟩
     ·have hj3:=cond_t hc5 hj3
      refine q_cond_t hF rfl hc5 (q_sr (q_s hF rfl fun a hF=>q_end (n_sq (q_ret (r_jn ?_)))))
      obtain rfl:=someI hj3
      refine r_jn ?_
      obtain rfl:=someI hj1
      refine r_ib (r_sq ?_)
      obtain rfl:=someI hr
      exact ret_ofX hF hS rfl (.tmp rfl .nil) ⟨[],nilS,rfl,hS.sel [0,2] (by decide),(OwnD.nil (β:=Int) m 48 3),(hk8.trans hk5)⟩
    ·have hj3:=cond_t hc4 hj3
     refine q_cond_t hF rfl hc4 (q_region (q_m hF rfl fun a hF=>q_m hF rfl fun a hF=>?_))
     obtain ⟨e_9,he_9,hj3⟩:=bindS hj3
     obtain ⟨s10,hV10⟩:=h4.view he_9
     refine q_y (v:=(elP s4 ((0 : Int).toNat * 1))) hF hS (ex_indexAddr U23 sz48 rfl rfl (h4.idx he_9)) fun a hF=>q_y (v:=s10.v) hF hS (ex_loadE1 0 U48 rfl rfl ((hV10.atH he_9).at 1 rfl) rfl rfl) fun a hF=>q_do rfl fun _ hK=>wp_buildSlice' (l:=([0] : List Int)) (cells:=[(iV 0)]) hF hS U48 inf3 rfl rfl (by kernel_rfl) rfl rfl rfl ⟨rfl,rfl⟩ rfl rfl fun a w q11 s11 hF hS h11 _=>hK _ _ ?_
     have hS : St _ _ _ _ [q4,q11,[⟨b_p_c,[s1.v,(iV t_7.2.at_),(.int .u64 t_7.2.seed.v)],41⟩]]:=hS.sel [2,0,1] (by decide)
     obtain ⟨q12,q12',hS,h12,h12'⟩:=hS.takeV hV10 he_9
     obtain ⟨l_13,hl_13,hj3⟩:=bindS hj3
     refine q_do rfl fun _ hK=>wp_append hF hS h12 U48 inf3 rfl rfl rfl rfl (h11.vw hS (j:=2) rfl) rfl (by decide) hl_13 rfl fun a w q14 s14 hF hS h14=>hK _ _ ?_
     obtain ⟨e_15,he_15,hj3⟩:=bindS hj3
     refine q_y (v:=(elP s4 ((0 : Int).toNat * 1))) hF hS (ex_indexAddr U23 sz48 rfl rfl (h12'.idx he_15)) fun a hF=>?_
     have hS : St _ _ _ _ [q12',q14,q11,[⟨b_p_c,[s1.v,(iV t_7.2.at_),(.int .u64 t_7.2.seed.v)],41⟩]]:=hS.sel [1,0,2,3] (by decide)
     refine q_do rfl fun _ hK=>wp_storeH hF hS h12' h14 sz48 rfl rfl he_15 rfl fun w q17 hS h17=>hK _ _ (q_end (n_jn ?_))
     obtain rfl:=someI hj3
     exact ⟨q17,_,rfl,hF.sub ⟨rfl,trivial⟩,hS.mask [true,false,true],h17⟩
   ·rintro a w ⟨q19,x_18,rfl,hF,hS,h19⟩
    refine n_jn ?_
    obtain rfl:=someI hj1
    exact ⟨q19,_,_,rfl,hF.sub ⟨rfl,trivial⟩,hS,h19,h8,(hk8.trans hk5)⟩
  ·have hj1:=cond_t hc2 hj1
   refine q_cond_t hF rfl hc2 ?_
   obtain ⟨j7,hj7,hj1⟩:=bindS hj1
   refine q_join (fun a w=>∃ (q20 : Piece),∃ x_19,∃ p_c_21,j7 = (x_19,p_c_21)∧Fr a 35 [(3,s4.v)]∧St X w0 w m [q20,[⟨b_p_c,[s1.v,(iV p_c_21.at_),(.int .u64 p_c_21.seed.v)],41⟩]]∧OwnD m 48 3 q20 s4 x_19∧Rd m s1 p_c_21.code∧p_c_21.code = p_c.code) ?_ ?_
   ·refine e_region ⟨[5,7],[],m⟩ mixed fun w' hw'=>?_
    have hS:=hS.below hw'
    refine e_P (v:=s4.v) 0 hF rfl (ex_move rfl) fun a hF=>?_
    obtain ⟨e_9,he_9,hj7⟩:=bindS hj7
    obtain ⟨s10,hV10⟩:=h4.view he_9
    refine e_P (v:=(elP s4 ((0 : Int).toNat * 1))) 1 hF rfl (ex_indexAddr U23 sz48 rfl rfl (h4.idx he_9)) fun a hF=>e_P (v:=(pP b_p_c 0)) 3 hF rfl (ex_move rfl) fun a hF=>?_
    obtain ⟨t_14,ht_14,hj7⟩:=bindS hj7
    obtain ⟨e_16,he_16,hj7⟩:=bindS hj7
    refine e_all [2,4] (by kernel_rfl) rfl ⟨?_,?_,trivial⟩
    ·refine e_lx (v:=s10.v) hF hS rfl (ex_loadE1 0 U48 rfl rfl ((hV10.atH he_9).at 1 rfl) rfl rfl) rfl rfl fun a hF=>e_one 4 (by kernel_rfl) (e_op rfl rfl fun _ hK=>wp_buildSlice' (l:=([-1,1000,1001] : List Int)) (cells:=[(iV (-1)),(iV 1000),(iV 1001)]) hF hS U48 inf3 rfl rfl (by kernel_rfl) rfl rfl rfl ⟨rfl,rfl,rfl,rfl⟩ rfl rfl fun a w q12 s12 hF hS h12 hb=>hK _ _ hb (e_one 5 (by kernel_rfl) ?_))
     have hS : St _ _ _ _ [[⟨b_p_c,[s1.v,(iV t_7.2.at_),(.int .u64 t_7.2.seed.v)],41⟩],q12,q4]:=hS.sel [1,0,2] (by decide)
     have hS13 : St _ _ _ _ ([[⟨b_p_c,[s1.v,(iV t_7.2.at_),(.int .u64 t_7.2.seed.v)],41⟩]]++[q12,q4]):=hS
     obtain ⟨m13,hl13,hE13,hz13⟩:=hS13.lendX
     refine e_opl rfl rfl rfl fun _ hK=>wp_callX (vs:=[(pP b_p_c 0),s12.v]) hF Tryz.func54 (by kernel_rfl) rfl rfl rfl (c_spec_l1Cur_among t_7.2 ([-1,1000,1001] : List Int) t_14 ht_14 _ m13 b_p_c s1 (h8.mono hl13) s12 (h12.froz hl13 (hz13 0 _ rfl)) _ hE13) fun a w _ hR hF=>hK _ _ ?_
     obtain ⟨rfl,hR13,hk15⟩:=hR
     have hS : St _ _ _ _ [[⟨b_p_c,[s1.v,(iV t_14.2.at_),(.int .u64 t_14.2.seed.v)],41⟩],q12,q4]:=hS13.leaveF hR13
     have h15 : Rd m s1 t_14.2.code:=by rw [hk15]; exact h8
     refine ⟨⟨kpN,fun _=>hS.vis.of_le (Mem.le.refl _)⟩,?_⟩
     obtain ⟨vs17,at17,d17⟩:=hV10.at he_9 he_16 1 rfl
     obtain rfl : vs17 = [(iV e_16)]:=d17
     refine e_P (v:=(elP s10 ((0 : Int).toNat * 1))) 6 hF rfl (ex_indexAddr U48 sz3 rfl rfl (hV10.idx he_9 he_16)) fun a hF=>e_one 7 (by kernel_rfl) ?_
     have hS : St _ _ _ _ [q4,[⟨b_p_c,[s1.v,(iV t_14.2.at_),(.int .u64 t_14.2.seed.v)],41⟩],q12]:=hS.sel [2,0,1] (by decide)
     refine e_opl rfl rfl rfl fun _ hK=>wp_storeV (e':=t_14.1) (us:=[(iV t_14.1)]) (vs:=[(iV e_16)]) 0 hF hS hV10 he_9 sz3 rfl rfl rfl rfl rfl rfl rfl he_16 at17 rfl rfl rfl fun w q18 hS h18=>hK _ _ (⟨⟨kpN,fun _=>hS.vis.of_le (Mem.le.refl _)⟩,?_⟩)
     refine e_end (by kernel_rfl) (n_jn ?_) _
     obtain rfl:=someI hj7
     exact ⟨q18,_,_,rfl,hF.sub ⟨rfl,trivial⟩,hS.mask [true,true,false],h18.own,h15,(hk15.trans (hk8.trans hk5))⟩
    ·refine e_op rfl rfl fun _ hK=>wp_buildSlice' (l:=([-1,1000,1001] : List Int)) (cells:=[(iV (-1)),(iV 1000),(iV 1001)]) hF hS U48 inf3 rfl rfl (by kernel_rfl) rfl rfl rfl ⟨rfl,rfl,rfl,rfl⟩ rfl rfl fun a w q12 s12 hF hS h12 hb=>hK _ _ hb (e_all [2,5] (by kernel_rfl) rfl ⟨?_,?_,trivial⟩)
     ·refine e_lx (v:=s10.v) hF hS rfl (ex_loadE1 0 U48 rfl rfl ((hV10.atH he_9).at 2 rfl) rfl rfl) rfl rfl fun a hF=>e_one 5 (by kernel_rfl) ?_
      have hS : St _ _ _ _ [[⟨b_p_c,[s1.v,(iV t_7.2.at_),(.int .u64 t_7.2.seed.v)],41⟩],q12,q4]:=hS.sel [1,0,2] (by decide)
      have hS13 : St _ _ _ _ ([[⟨b_p_c,[s1.v,(iV t_7.2.at_),(.int .u64 t_7.2.seed.v)],41⟩]]++[q12,q4]):=hS
      obtain ⟨m13,hl13,hE13,hz13⟩:=hS13.lendX
      refine e_opl rfl rfl rfl fun _ hK=>wp_callX (vs:=[(pP b_p_c 0),s12.v]) hF Tryz.func54 (by kernel_rfl) rfl rfl rfl (c_spec_l1Cur_among t_7.2 ([-1,1000,1001] : List Int) t_14 ht_14 _ m13 b_p_c s1 (h8.mono hl13) s12 (h12.froz hl13 (hz13 0 _ rfl)) _ hE13) fun a w _ hR hF=>hK _ _ ?_
      obtain ⟨rfl,hR13,hk15⟩:=hR
      have hS : St _ _ _ _ [[⟨b_p_c,[s1.v,(iV t_14.2.at_),(.int .u64 t_14.2.seed.v)],41⟩],q12,q4]:=hS13.leaveF hR13
      have h15 : Rd m s1 t_14.2.code:=by rw [hk15]; exact h8
      refine ⟨⟨kpN,fun _=>hS.vis.of_le (Mem.le.refl _)⟩,?_⟩
      obtain ⟨vs17,at17,d17⟩:=hV10.at he_9 he_16 1 rfl
      obtain rfl : vs17 = [(iV e_16)]:=d17
      refine e_P (v:=(elP s10 ((0 : Int).toNat * 1))) 6 hF rfl (ex_indexAddr U48 sz3 rfl rfl (hV10.idx he_9 he_16)) fun a hF=>e_one 7 (by kernel_rfl) ?_
      have hS : St _ _ _ _ [q4,[⟨b_p_c,[s1.v,(iV t_14.2.at_),(.int .u64 t_14.2.seed.v)],41⟩],q12]:=hS.sel [2,0,1] (by decide)
      refine e_opl rfl rfl rfl fun _ hK=>wp_storeV (e':=t_14.1) (us:=[(iV t_14.1)]) (vs:=[(iV e_16)]) 0 hF hS hV10 he_9 sz3 rfl rfl rfl rfl rfl rfl rfl he_16 at17 rfl rfl rfl fun w q18 hS h18=>hK _ _ (⟨⟨kpN,fun _=>hS.vis.of_le (Mem.le.refl _)⟩,?_⟩)
      refine e_end (by kernel_rfl) (n_jn ?_) _
      obtain rfl:=someI hj7
      exact ⟨q18,_,_,rfl,hF.sub ⟨rfl,trivial⟩,hS.mask [true,true,false],h18.own,h15,(hk15.trans (hk8.trans hk5))⟩
     ·have hS : St _ _ _ _ [[⟨b_p_c,[s1.v,(iV t_7.2.at_),(.int .u64 t_7.2.seed.v)],41⟩],q12,q4]:=hS.sel [1,0,2] (by decide)
      have hS13 : St _ _ _ _ ([[⟨b_p_c,[s1.v,(iV t_7.2.at_),(.int .u64 t_7.2.seed.v)],41⟩]]++[q12,q4]):=hS
      obtain ⟨m13,hl13,hE13,hz13⟩:=hS13.lendX
      refine e_opl rfl rfl rfl fun _ hK=>wp_callX (vs:=[(pP b_p_c 0),s12.v]) hF Tryz.func54 (by kernel_rfl) rfl rfl rfl (c_spec_l1Cur_among t_7.2 ([-1,1000,1001] : List Int) t_14 ht_14 _ m13 b_p_c s1 (h8.mono hl13) s12 (h12.froz hl13 (hz13 0 _ rfl)) _ hE13) fun a w _ hR hF=>hK _ _ ?_
      obtain ⟨rfl,hR13,hk15⟩:=hR
      have hS : St _ _ _ _ [[⟨b_p_c,[s1.v,(iV t_14.2.at_),(.int .u64 t_14.2.seed.v)],41⟩],q12,q4]:=hS13.leaveF hR13
      have h15 : Rd m s1 t_14.2.code:=by rw [hk15]; exact h8
      refine ⟨⟨kpN,fun _=>hS.vis.of_le (Mem.le.refl _)⟩,?_⟩
      refine e_X (v:=s10.v) 2 hF hS rfl (ex_loadE1 0 U48 rfl rfl ((hV10.atH he_9).at 2 rfl) rfl rfl) fun a hF=>?_
      obtain ⟨vs17,at17,d17⟩:=hV10.at he_9 he_16 1 rfl
      obtain rfl : vs17 = [(iV e_16)]:=d17
      refine e_P (v:=(elP s10 ((0 : Int).toNat * 1))) 6 hF rfl (ex_indexAddr U48 sz3 rfl rfl (hV10.idx he_9 he_16)) fun a hF=>e_one 7 (by kernel_rfl) ?_
      have hS : St _ _ _ _ [q4,[⟨b_p_c,[s1.v,(iV t_14.2.at_),(.int .u64 t_14.2.seed.v)],41⟩],q12]:=hS.sel [2,0,1] (by decide)
      refine e_opl rfl rfl rfl fun _ hK=>wp_storeV (e':=t_14.1) (us:=[(iV t_14.1)]) (vs:=[(iV e_16)]) 0 hF hS hV10 he_9 sz3 rfl rfl rfl rfl rfl rfl rfl he_16 at17 rfl rfl rfl fun w q18 hS h18=>hK _ _ (⟨⟨kpN,fun _=>hS.vis.of_le (Mem.le.refl _)⟩,?_⟩)
      refine e_end (by kernel_rfl) (n_jn ?_) _
      obtain rfl:=someI hj7
      exact ⟨q18,_,_,rfl,hF.sub ⟨rfl,trivial⟩,hS.mask [true,true,false],h18.own,h15,(hk15.trans (hk8.trans hk5))⟩
   ·rintro a w ⟨q20,x_19,p_c_21,rfl,hF,hS,h20,h22,h22k⟩
    refine n_jn ?_
    obtain rfl:=someI hj1
    exact ⟨q20,_,_,rfl,hF.sub ⟨rfl,trivial⟩,hS,h20,h22,h22k⟩
 ·rintro a w ⟨q24,x_23,p_c_25,rfl,hF,hS,h24,h26,h26k⟩
  refine n_ib (n_sq ?_)
  refine q_sr (q_m hF rfl fun a hF=>q_s hF rfl fun a hF=>q_end (n_sq (q_ret ?_)))
  obtain rfl:=someI hr
  exact ret_ofX hF hS rfl (.tmp rfl .nil) ⟨q24,s4,rfl,hS.sel [1,0] (by decide),h24,h26k⟩

theorem c_spec_l1Cur_one (p_c : spec_l1Cur) (p_n : Int) (r : Bool × spec_l1Cur) (hr : spec_l1Cur_one p_c p_n = some r) (w0 : World) (m : Mem) (b_p_c : Nat) (s1 : Sl) (h1 : Rd m s1 p_c.code) (X : List Nat) (hS : St X w0 w0 m [[⟨b_p_c,[s1.v,(iV p_c.at_),(.int .u64 p_c.seed.v)],41⟩]]) :
  RetX Tryz.prog 53 [(pP b_p_c 0),(iV p_n)] w0 (fun v w=>v = (.bool r.1)∧St X w0 w m [[⟨b_p_c,[s1.v,(iV r.2.at_),(.int .u64 r.2.seed.v)],41⟩]]∧r.2.code = p_c.code):=by
 unfold spec_l1Cur_one at hr
 refine ret_startX Tryz.func53 rfl 9 rfl rfl fun a hF=>q_sr (q_s hF rfl fun a hF=>q_end (n_sq (q_sr (q_m hF rfl fun a hF=>q_m hF rfl fun a hF=>?_))))
 have hS2 : St _ _ _ _ ([[⟨b_p_c,[s1.v,(iV p_c.at_),(.int .u64 p_c.seed.v)],41⟩]]++[]):=hS
 have hE2:=hS2.enter
 obtain ⟨t_3,ht_3,hr⟩:=bindS hr
 refine q_do rfl fun _ hK=>wp_callX (vs:=[(pP b_p_c 0),(iV p_n)]) hF Tryz.func36 (by kernel_rfl) rfl rfl rfl (c_spec_l1Cur_pick p_c p_n t_3 ht_3 _ m b_p_c s1 h1 _ hE2) fun a w _ hR hF=>hK _ _ ?_
 obtain ⟨rfl,hR2,hk4⟩:=hR
 have hS : St _ _ _ _ [[⟨b_p_c,[s1.v,(iV t_3.2.at_),(.int .u64 t_3.2.seed.v)],41⟩]]:=hS2.leaveF hR2
 have h4 : Rd m s1 t_3.2.code:=by rw [hk4]; exact h1
 refine q_y (v:=(.bool (t_3.1 == 0))) hF hS (ex_ibin rfl rfl rfl) fun a hF=>q_s hF rfl fun a hF=>q_end (n_sq (q_ret ?_))
 obtain rfl:=someI hr
 exact ret_ofX hF hS rfl (.tmp rfl .nil) ⟨rfl,hS.sel [0] (by decide),hk4⟩

theorem c_spec_l1Cur_protection (p_c : spec_l1Cur) (r : (List (List Int)) × (List (List Int)) × Int × Int × spec_l1Cur) (hr : spec_l1Cur_protection p_c = some r) (w0 : World) (m : Mem) (b_p_c : Nat) (s1 : Sl) (h1 : Rd m s1 p_c.code) (X : List Nat) (hS : St X w0 w0 m [[⟨b_p_c,[s1.v,(iV p_c.at_),(.int .u64 p_c.seed.v)],41⟩]]) :
  RetX Tryz.prog 14 [(pP b_p_c 0)] w0 (fun v w=>∃ (q0' : Piece) (q1' : Piece) (s0' : Sl) (s1' : Sl),v = (.tuple #[s0'.v,s1'.v,(iV r.2.2.1),(iV r.2.2.2.1)])∧St X w0 w m [[⟨b_p_c,[s1.v,(iV r.2.2.2.2.at_),(.int .u64 r.2.2.2.2.seed.v)],41⟩],q0',q1']∧OwnD m 48 3 q0' s0' r.1∧OwnD m 48 3 q1' s1' r.2.1∧r.2.2.2.2.code = p_c.code):=by
 unfold spec_l1Cur_protection at hr
 refine ret_startX Tryz.func14 rfl 79 rfl rfl fun a hF=>q_sr (q_s hF rfl fun a hF=>q_s hF rfl fun a hF=>q_s hF rfl fun a hF=>q_s hF rfl fun a hF=>q_end (n_sq (q_sr (q_m hF rfl fun a hF=>?_))))
 have hS2 : St _ _ _ _ ([[⟨b_p_c,[s1.v,(iV p_c.at_),(.int .u64 p_c.seed.v)],41⟩]]++[]):=hS
 have hE2:=hS2.enter
 obtain ⟨t_3,ht_3,hr⟩:=bindS hr
 refine q_do rfl fun _ hK=>wp_callX (vs:=[(pP b_p_c 0)]) hF Tryz.func52 (by kernel_rfl) rfl rfl rfl (c_spec_l1Cur_anyTwoWay p_c t_3 ht_3 _ m b_p_c s1 h1 _ hE2) fun a w _ hR hF=>hK _ _ ?_
 obtain ⟨q4,s4,rfl,hR2,h4,hk5⟩:=hR
 have hS : St _ _ _ _ [[⟨b_p_c,[s1.v,(iV t_3.2.at_),(.int .u64 t_3.2.seed.v)],41⟩],q4]:=hS2.leaveF hR2
 have h5 : Rd m s1 t_3.2.code:=by rw [hk5]; exact h1
 refine q_s hF rfl fun a hF=>q_end (n_sq (q_sr (q_s hF rfl fun a hF=>q_end (n_sq (q_seq (q_sr (q_m hF rfl fun a hF=>q_y (v:=(iV (goLen t_3.1))) hF hS (ex_len U23 rfl h4.len) fun a hF=>q_m hF rfl fun a hF=>q_end (n_sq (q_block ?_)))))))))
 obtain ⟨o1,hl1,hr⟩:=bindS hr
 refine q_loop (fun (s : (List (List Int)) × Int × spec_l1Cur) a w=>∃ (q7 : Piece),∃ (s7 : Sl),∃ p_6,∃ t_8,∃ p_c_9,s = (p_6,t_8,p_c_9)∧Fr a 79 [(0,(pP b_p_c 0)),(6,s4.v),(7,s7.v),(14,s4.v),(15,(iV (goLen t_3.1))),(16,(iV t_8))]∧St X w0 w m [q7,[⟨b_p_c,[s1.v,(iV p_c_9.at_),(.int .u64 p_c_9.seed.v)],41⟩],q4]∧OwnD m 48 3 q7 s7 p_6∧Rd m s1 p_c_9.code∧p_c_9.code = p_c.code) (fun (o : (List (List Int)) × spec_l1Cur) e a w=>∃ (q43 : Piece),∃ (s43 : Sl),∃ p_42,∃ p_c_44,o = (p_42,p_c_44)∧e = .exit 0∧Fr a 79 [(0,(pP b_p_c 0)),(6,s4.v),(7,s43.v)]∧St X w0 w m [q4,q43,[⟨b_p_c,[s1.v,(iV p_c_44.at_),(.int .u64 p_c_44.seed.v)],41⟩]]∧OwnD m 48 3 q43 s43 p_42∧Rd m s1 p_c_44.code∧p_c_44.code = p_c.code) hl1 ⟨[],nilS,_,_,_,rfl,hF.sub ⟨rfl,rfl,rfl,rfl,rfl,rfl,trivial⟩,hS.sel [2,0,1] (by decide),(OwnD.nil (β:=Int) m 48 3),h5,hk5⟩ ?_ ?_
 ·clear hF hS
  rintro s a w st ⟨q7,s7,p_6,t_8,p_c_9,rfl,hF,hS,h7,h10,h10k⟩ hb1
  unfold spec_l1Cur_protection_l1 at hb1
  refine q_sr (q_y (v:=(.bool (decide (t_8 < (goLen t_3.1))))) hF hS (ex_ibin rfl rfl rfl) fun a hF=>q_end (n_sq (q_seq ?_)))
  rcases bcase (decide (t_8 < (goLen t_3.1))) with hc2 | hc2
  ·have hb1:=cond_f hc2 hb1
   refine q_cond_f hF rfl hc2 (q_exit (x_sq ?_))
   obtain rfl:=someI hb1
   exact ⟨nofun,.inl ⟨q7,s7,_,_,rfl,rfl,hF.sub ⟨rfl,rfl,rfl,trivial⟩,hS.sel [2,0,1] (by decide),h7,h10,h10k⟩⟩
  ·have hb1:=cond_t hc2 hb1
   refine q_cond_t hF rfl hc2 (q_skipc (n_sq (q_seq (q_block (q_seq (q_region ?_))))))
   obtain ⟨e_11,he_11,hb1⟩:=bindS hb1
   obtain ⟨s12,hV12⟩:=h4.view he_11
   refine q_y (v:=(elP s4 (t_8.toNat * 1))) hF hS (ex_indexAddr U23 sz48 rfl rfl (h4.idx he_11)) fun a hF=>q_y (v:=s12.v) hF hS (ex_loadE1 0 U48 rfl rfl ((hV12.atH he_11).at 2 rfl) rfl rfl) fun a hF=>q_s hF rfl fun a hF=>q_end (n_sq (q_sr (q_m hF rfl fun a hF=>q_y (v:=(iV (goLen e_11))) hF hS (ex_len U48 rfl (hV12.len he_11)) fun a hF=>?_)))
   obtain ⟨l_13,hl_13,hb1⟩:=bindS hb1
   refine q_do rfl fun _ hK=>wp_make (z:=(0 : Int)) hF hS U48 inf3 rfl rfl rfl rfl rfl (by decide) hl_13 rfl fun a w q14 s14 hF hS h14 _=>hK _ _ (q_s hF rfl fun a hF=>q_end (n_sq (q_seq (q_sr (q_m hF rfl fun a hF=>q_y (v:=(iV (goLen l_13))) hF hS (ex_len U48 rfl h14.len) fun a hF=>q_m hF rfl fun a hF=>q_end (n_sq (q_block ?_)))))))
   obtain ⟨o3,hl3,hb1⟩:=bindS hb1
   refine q_loop (fun (s : (List Int) × Int × spec_l1Cur) a w=>∃ (q16 : Piece),∃ l_15,∃ t_17,∃ p_c_18,s = (l_15,t_17,p_c_18)∧Fr a 79 [(0,(pP b_p_c 0)),(6,s4.v),(7,s7.v),(9,s12.v),(10,s14.v),(14,s4.v),(15,(iV (goLen t_3.1))),(16,(iV t_8)),(24,(iV (goLen l_13))),(25,(iV t_17))]∧St X w0 w m [q16,q7,[⟨b_p_c,[s1.v,(iV p_c_18.at_),(.int .u64 p_c_18.seed.v)],41⟩],q4]∧OwnL m 3 q16 s14 l_15∧Rd m s1 p_c_18.code∧p_c_18.code = p_c.code) (fun (o : (List Int) × spec_l1Cur) e a w=>∃ (q36 : Piece),∃ l_35,∃ p_c_37,o = (l_35,p_c_37)∧e = .exit 2∧Fr a 79 [(0,(pP b_p_c 0)),(6,s4.v),(7,s7.v),(10,s14.v),(14,s4.v),(15,(iV (goLen t_3.1))),(16,(iV t_8))]∧St X w0 w m [q4,q7,q36,[⟨b_p_c,[s1.v,(iV p_c_37.at_),(.int .u64 p_c_37.seed.v)],41⟩]]∧OwnL m 3 q36 s14 l_35∧Rd m s1 p_c_37.code∧p_c_37.code = p_c.code) hl3 ⟨q14,_,_,_,rfl,hF.sub ⟨rfl,rfl,rfl,rfl,rfl,rfl,rfl,rfl,rfl,rfl,trivial⟩,hS,h14,h10,h10k⟩ ?_ ?_
   ·clear hF hS
    rintro s a w st ⟨q16,l_15,t_17,p_c_18,rfl,hF,hS,h16,h19,h19k⟩ hb3
    unfold spec_l1Cur_protection_l2 at hb3
    refine q_sr (q_y (v:=(.bool (decide (t_17 < (goLen l_13))))) hF hS (ex_ibin rfl rfl rfl) fun a hF=>q_end (n_sq (q_seq ?_)))
    rcases bcase (decide (t_17 < (goLen l_13))) with hc4 | hc4
    ·have hb3:=cond_f hc4 hb3
     refine q_cond_f hF rfl hc4 (q_exit (x_sq ?_))
     obtain rfl:=someI hb3
     exact ⟨nofun,.inl ⟨q16,_,_,rfl,rfl,hF.sub ⟨rfl,rfl,rfl,rfl,rfl,rfl,rfl,trivial⟩,hS.sel [3,1,0,2] (by decide),h16,h19,h19k⟩⟩
    ·have hb3:=cond_t hc4 hb3
     refine q_cond_t hF rfl hc4 (q_skipc (n_sq (q_seq (q_block (q_sr (q_m hF rfl fun a hF=>q_s hF rfl fun a hF=>q_end (n_sq (q_seq ?_))))))))
     obtain ⟨j5,hj5,hb3⟩:=bindS hb3
     refine q_join (fun a w=>∃ t_27,∃ p_c_28,j5 = (t_27,p_c_28)∧Fr a 79 [(0,(pP b_p_c 0)),(6,s4.v),(7,s7.v),(9,s12.v),(10,s14.v),(11,(iV t_17)),(14,s4.v),(15,(iV (goLen t_3.1))),(16,(iV t_8)),(24,(iV (goLen l_13))),(25,(iV t_17)),(43,(.bool t_27))]∧St X w0 w m [q4,q7,q16,[⟨b_p_c,[s1.v,(iV p_c_28.at_),(.int .u64 p_c_28.seed.v)],41⟩]]∧Rd m s1 p_c_28.code∧p_c_28.code = p_c.code) ?_ ?_
     ·refine q_region (q_m hF rfl fun a hF=>q_m hF rfl fun a hF=>?_)
      obtain ⟨e_20,he_20,hj5⟩:=bindS hj5
      obtain ⟨vs21,at21,d21⟩:=hV12.at he_11 he_20 1 rfl
      obtain rfl : vs21 = [(iV e_20)]:=d21
      refine q_y (v:=(elP s12 (t_17.toNat * 1))) hF hS (ex_indexAddr U48 sz3 rfl rfl (hV12.idx he_11 he_20)) fun a hF=>q_y (v:=(iV e_20)) hF hS (ex_loadE1 0 U3 rfl rfl (at21.at 3 rfl) rfl rfl) fun a hF=>q_y (v:=(.bool (decide (0 < e_20)))) hF hS (ex_ibin rfl rfl rfl) fun a hF=>q_m hF rfl fun a hF=>?_
      rcases bcase (decide (0 < e_20)) with hc6 | hc6
      ·have hj5:=cond_f hc6 hj5
       refine q_k hF hc6 fun a hF=>q_k hF hc6 fun a hF=>q_k hF hc6 fun a hF=>q_k hF hc6 fun a hF=>q_k hF hc6 fun a hF=>q_y (v:=(.bool false)) hF hS (ex_pick_f rfl rfl hc6) fun a hF=>q_m hF rfl fun a hF=>q_g (v:=(pP b_p_c 0)) hF hS (ex_move rfl) rfl fun a hF=>?_
       have hS : St _ _ _ _ [[⟨b_p_c,[s1.v,(iV p_c_18.at_),(.int .u64 p_c_18.seed.v)],41⟩],q16,q7,q4]:=hS.sel [2,0,1,3] (by decide)
       have hS22 : St _ _ _ _ ([[⟨b_p_c,[s1.v,(iV p_c_18.at_),(.int .u64 p_c_18.seed.v)],41⟩]]++[q16,q7,q4]):=hS
       have hE22:=hS22.enter
       obtain ⟨t_23,ht_23,hj5⟩:=bindS hj5
       refine q_dog (wanted_t hF rfl rfl rfl rfl) fun _ hK=>wp_callX (vs:=[(pP b_p_c 0),(iV 5)]) hF Tryz.func53 (by kernel_rfl) rfl rfl rfl (c_spec_l1Cur_one p_c_18 5 t_23 ht_23 _ m b_p_c s1 h19 _ hE22) fun a w _ hR hF=>hK _ _ ?_
       obtain ⟨rfl,hR22,hk24⟩:=hR
       have hS : St _ _ _ _ [[⟨b_p_c,[s1.v,(iV t_23.2.at_),(.int .u64 t_23.2.seed.v)],41⟩],q16,q7,q4]:=hS22.leaveF hR22
       have h24 : Rd m s1 t_23.2.code:=by rw [hk24]; exact h19
       refine q_y (v:=(.bool t_23.1)) hF hS (ex_pick_f rfl rfl rfl) fun a hF=>q_end (n_jn ?_)
       obtain rfl:=someI hj5
       exact ⟨_,_,rfl,hF.sub ⟨rfl,rfl,rfl,rfl,rfl,rfl,rfl,rfl,rfl,rfl,rfl,rfl,trivial⟩,hS.sel [3,2,1,0] (by decide),h24,(hk24.trans h19k)⟩
      ·have hj5:=cond_t hc6 hj5
       refine q_g (v:=s12.v) hF hS (ex_move rfl) hc6 fun a hF=>q_g (v:=(iV t_17)) hF hS (ex_move rfl) hc6 fun a hF=>?_
       obtain ⟨e_22,he_22,hj5⟩:=bindS hj5
       obtain ⟨vs23,at23,d23⟩:=hV12.at he_11 he_22 1 rfl
       obtain rfl : vs23 = [(iV e_22)]:=d23
       refine q_g (v:=(elP s12 (t_17.toNat * 1))) hF hS (ex_indexAddr U48 sz3 rfl rfl (hV12.idx he_11 he_22)) hc6 fun a hF=>q_g (v:=(iV e_22)) hF hS (ex_loadE1 0 U3 rfl rfl (at23.at 3 rfl) rfl rfl) hc6 fun a hF=>q_g (v:=(.bool (decide (e_22 < 3)))) hF hS (ex_ibin rfl rfl rfl) hc6 fun a hF=>q_y (v:=(.bool (decide (e_22 < 3)))) hF hS (ex_pick_t rfl rfl hc6) fun a hF=>q_m hF rfl fun a hF=>?_
       rcases bcase (decide (e_22 < 3)) with hc7 | hc7
       ·have hj5:=cond_f hc7 hj5
        refine q_g (v:=(pP b_p_c 0)) hF hS (ex_move rfl) hc7 fun a hF=>?_
        have hS : St _ _ _ _ [[⟨b_p_c,[s1.v,(iV p_c_18.at_),(.int .u64 p_c_18.seed.v)],41⟩],q16,q7,q4]:=hS.sel [2,0,1,3] (by decide)
        have hS24 : St _ _ _ _ ([[⟨b_p_c,[s1.v,(iV p_c_18.at_),(.int .u64 p_c_18.seed.v)],41⟩]]++[q16,q7,q4]):=hS
        have hE24:=hS24.enter
        obtain ⟨t_25,ht_25,hj5⟩:=bindS hj5
        refine q_dog (wanted_t hF rfl rfl rfl hc7) fun _ hK=>wp_callX (vs:=[(pP b_p_c 0),(iV 5)]) hF Tryz.func53 (by kernel_rfl) rfl rfl rfl (c_spec_l1Cur_one p_c_18 5 t_25 ht_25 _ m b_p_c s1 h19 _ hE24) fun a w _ hR hF=>hK _ _ ?_
        obtain ⟨rfl,hR24,hk26⟩:=hR
        have hS : St _ _ _ _ [[⟨b_p_c,[s1.v,(iV t_25.2.at_),(.int .u64 t_25.2.seed.v)],41⟩],q16,q7,q4]:=hS24.leaveF hR24
        have h26 : Rd m s1 t_25.2.code:=by rw [hk26]; exact h19
        refine q_y (v:=(.bool t_25.1)) hF hS (ex_pick_f rfl rfl hc7) fun a hF=>q_end (n_jn ?_)
        obtain rfl:=someI hj5
        exact ⟨_,_,rfl,hF.sub ⟨rfl,rfl,rfl,rfl,rfl,rfl,rfl,rfl,rfl,rfl,rfl,rfl,trivial⟩,hS.sel [3,2,1,0] (by decide),h26,(hk26.trans h19k)⟩
       ·have hj5:=cond_t hc7 hj5
        refine q_k hF hc7 fun a hF=>q_k hF hc7 fun a hF=>q_y (v:=(.bool true)) hF hS (ex_pick_t rfl rfl hc7) fun a hF=>q_end (n_jn ?_)
        obtain rfl:=someI hj5
        exact ⟨_,_,rfl,hF.sub ⟨rfl,rfl,rfl,rfl,rfl,rfl,rfl,rfl,rfl,rfl,rfl,rfl,trivial⟩,hS.sel [3,1,0,2] (by decide),h19,h19k⟩
     ·rintro a w ⟨t_27,p_c_28,rfl,hF,hS,h29,h29k⟩
      refine n_sq ?_
      obtain ⟨l_33,hj8,hb3⟩:=bindS hb3
      refine q_join (fun a w=>∃ (q34 : Piece),Fr a 79 [(0,(pP b_p_c 0)),(6,s4.v),(7,s7.v),(9,s12.v),(10,s14.v),(14,s4.v),(15,(iV (goLen t_3.1))),(16,(iV t_8)),(24,(iV (goLen l_13))),(25,(iV t_17))]∧St X w0 w m [q4,q7,q34,[⟨b_p_c,[s1.v,(iV p_c_28.at_),(.int .u64 p_c_28.seed.v)],41⟩]]∧OwnL m 3 q34 s14 l_33) ?_ ?_
      ·rcases bcase (t_27) with hc9 | hc9
       ·have hj8:=cond_f hc9 hj8
        refine q_cond_f hF rfl hc9 (q_skipc (n_jn ?_))
        obtain rfl:=someI hj8
        exact ⟨q16,hF.sub ⟨rfl,rfl,rfl,rfl,rfl,rfl,rfl,rfl,rfl,rfl,trivial⟩,hS,h16⟩
       ·have hj8:=cond_t hc9 hj8
        refine q_cond_t hF rfl hc9 (q_region (q_m hF rfl fun a hF=>q_m hF rfl fun a hF=>?_))
        obtain ⟨e_30,he_30,hj8⟩:=bindS hj8
        obtain ⟨vs31,at31,d31⟩:=h16.at he_30 1 rfl
        obtain rfl : vs31 = [(iV e_30)]:=d31
        refine q_y (v:=(elP s14 (t_17.toNat * 1))) hF hS (ex_indexAddr U48 sz3 rfl rfl (h16.idx he_30)) fun a hF=>?_
        have hS : St _ _ _ _ [q16,q4,q7,[⟨b_p_c,[s1.v,(iV p_c_28.at_),(.int .u64 p_c_28.seed.v)],41⟩]]:=hS.sel [2,0,1,3] (by decide)
        refine q_do rfl fun _ hK=>wp_storeE (e':=1) (us:=[(iV 1)]) (vs:=[(iV e_30)]) 0 hF hS h16 sz3 rfl rfl rfl rfl rfl rfl rfl he_30 at31 rfl rfl rfl fun w q32 hS h32=>hK _ _ (q_end (n_jn ?_))
        obtain rfl:=someI hj8
        exact ⟨q32,hF.sub ⟨rfl,rfl,rfl,rfl,rfl,rfl,rfl,rfl,rfl,rfl,trivial⟩,hS.sel [1,2,0,3] (by decide),h32⟩
      ·rintro a w ⟨q34,hF,hS,h34⟩
       refine n_ib (n_sq ?_)
       refine q_region (q_y (v:=(iV (w64 (t_17 + 1)))) hF hS (ex_ibin rfl rfl rfl) fun a hF=>q_m hF rfl fun a hF=>q_end ?_)
       obtain rfl:=someI hb3
       exact ⟨rfl,q34,_,_,_,rfl,hF.sub ⟨rfl,rfl,rfl,rfl,rfl,rfl,rfl,rfl,rfl,rfl,trivial⟩,hS.sel [2,1,3,0] (by decide),h34,h29,h29k⟩
   ·rintro e a w ⟨q36,l_35,p_c_37,rfl,rfl,hF,hS,h36,h38,h38k⟩
    refine x_ib (n_sq ?_)
    refine q_region (q_m hF rfl fun a hF=>q_m hF rfl fun a hF=>?_)
    have hS : St _ _ _ _ [q36,q4,q7,[⟨b_p_c,[s1.v,(iV p_c_37.at_),(.int .u64 p_c_37.seed.v)],41⟩]]:=hS.sel [2,0,1,3] (by decide)
    refine q_do rfl fun _ hK=>wp_build1D hF hS h36 U23 inf48 rfl rfl rfl fun a w q39 s39 hF hS h39 _=>hK _ _ ?_
    have hS : St _ _ _ _ [q7,q39,q4,[⟨b_p_c,[s1.v,(iV p_c_37.at_),(.int .u64 p_c_37.seed.v)],41⟩]]:=hS.sel [2,0,1,3] (by decide)
    obtain ⟨l_40,hl_40,hb1⟩:=bindS hb1
    refine q_do rfl fun _ hK=>wp_appendD hF hS h7 h39 U23 inf48 rfl rfl rfl (by decide) hl_40 rfl fun a w q41 s41 hF hS h41=>hK _ _ (q_s hF rfl fun a hF=>q_end (n_ib (n_sq (q_region (q_y (v:=(iV (w64 (t_8 + 1)))) hF hS (ex_ibin rfl rfl rfl) fun a hF=>q_m hF rfl fun a hF=>q_end ?_)))))
    obtain rfl:=someI hb1
    exact ⟨rfl,q41,s41,_,_,_,rfl,hF.sub ⟨rfl,rfl,rfl,rfl,rfl,rfl,trivial⟩,hS.sel [0,2,1] (by decide),h41,h38,h38k⟩
 ·rintro e a w ⟨q43,s43,p_42,p_c_44,rfl,rfl,hF,hS,h43,h45,h45k⟩
  refine x_ib (n_sq ?_)
  refine q_seq (q_seq ?_)
  obtain ⟨j10,hj10,hr⟩:=bindS hr
  refine q_join (fun a w=>∃ t_51,∃ p_c_52,j10 = (t_51,p_c_52)∧Fr a 79 [(0,(pP b_p_c 0)),(6,s4.v),(7,s43.v),(66,(.bool t_51))]∧St X w0 w m [q4,q43,[⟨b_p_c,[s1.v,(iV p_c_52.at_),(.int .u64 p_c_52.seed.v)],41⟩]]∧Rd m s1 p_c_52.code∧p_c_52.code = p_c.code) ?_ ?_
  ·refine q_region (q_m hF rfl fun a hF=>q_y (v:=(iV (goLen p_42))) hF hS (ex_len U23 rfl h43.len) fun a hF=>q_y (v:=(.bool (decide (0 < (goLen p_42))))) hF hS (ex_ibin rfl rfl rfl) fun a hF=>q_m hF rfl fun a hF=>?_)
   rcases bcase (decide (0 < (goLen p_42))) with hc11 | hc11
   ·have hj10:=cond_f hc11 hj10
    refine q_k hF hc11 fun a hF=>q_k hF hc11 fun a hF=>q_k hF hc11 fun a hF=>q_k hF hc11 fun a hF=>q_k hF hc11 fun a hF=>q_y (v:=(.bool false)) hF hS (ex_pick_f rfl rfl hc11) fun a hF=>q_m hF rfl fun a hF=>q_k hF rfl fun a hF=>q_k hF rfl fun a hF=>q_y (v:=(.bool false)) hF hS (ex_pick_f rfl rfl rfl) fun a hF=>q_end (n_jn ?_)
    obtain rfl:=someI hj10
    exact ⟨_,_,rfl,hF.sub ⟨rfl,rfl,rfl,rfl,trivial⟩,hS,h45,h45k⟩
   ·have hj10:=cond_t hc11 hj10
    refine q_g (v:=s43.v) hF hS (ex_move rfl) hc11 fun a hF=>?_
    obtain ⟨e_46,he_46,hj10⟩:=bindS hj10
    obtain ⟨s47,hV47⟩:=h43.view he_46
    refine q_g (v:=(elP s43 ((0 : Int).toNat * 1))) hF hS (ex_indexAddr U23 sz48 rfl rfl (h43.idx he_46)) hc11 fun a hF=>q_g (v:=s47.v) hF hS (ex_loadE1 0 U48 rfl rfl ((hV47.atH he_46).at 1 rfl) rfl rfl) hc11 fun a hF=>q_g (v:=(iV (goLen e_46))) hF hS (ex_len U48 rfl (hV47.len he_46)) hc11 fun a hF=>q_g (v:=(.bool (decide (0 < (goLen e_46))))) hF hS (ex_ibin rfl rfl rfl) hc11 fun a hF=>q_y (v:=(.bool (decide (0 < (goLen e_46))))) hF hS (ex_pick_t rfl rfl hc11) fun a hF=>q_m hF rfl fun a hF=>?_
    rcases bcase (decide (0 < (goLen e_46))) with hc12 | hc12
    ·have hj10:=cond_f hc12 hj10
     refine q_k hF hc12 fun a hF=>q_k hF hc12 fun a hF=>q_y (v:=(.bool false)) hF hS (ex_pick_f rfl rfl hc12) fun a hF=>q_end (n_jn ?_)
     obtain rfl:=someI hj10
     exact ⟨_,_,rfl,hF.sub ⟨rfl,rfl,rfl,rfl,trivial⟩,hS,h45,h45k⟩
    ·have hj10:=cond_t hc12 hj10
     refine q_g (v:=(pP b_p_c 0)) hF hS (ex_move rfl) hc12 fun a hF=>?_
     have hS : St _ _ _ _ [[⟨b_p_c,[s1.v,(iV p_c_44.at_),(.int .u64 p_c_44.seed.v)],41⟩],q4,q43]:=hS.sel [2,0,1] (by decide)
     have hS48 : St _ _ _ _ ([[⟨b_p_c,[s1.v,(iV p_c_44.at_),(.int .u64 p_c_44.seed.v)],41⟩]]++[q4,q43]):=hS
     have hE48:=hS48.enter
     obtain ⟨t_49,ht_49,hj10⟩:=bindS hj10
     refine q_dog (wanted_t hF rfl rfl rfl hc12) fun _ hK=>wp_callX (vs:=[(pP b_p_c 0),(iV 30)]) hF Tryz.func53 (by kernel_rfl) rfl rfl rfl (c_spec_l1Cur_one p_c_44 30 t_49 ht_49 _ m b_p_c s1 h45 _ hE48) fun a w _ hR hF=>hK _ _ ?_
     obtain ⟨rfl,hR48,hk50⟩:=hR
     have hS : St _ _ _ _ [[⟨b_p_c,[s1.v,(iV t_49.2.at_),(.int .u64 t_49.2.seed.v)],41⟩],q4,q43]:=hS48.leaveF hR48
     have h50 : Rd m s1 t_49.2.code:=by rw [hk50]; exact h45
     refine q_y (v:=(.bool t_49.1)) hF hS (ex_pick_t rfl rfl hc12) fun a hF=>q_end (n_jn ?_)
     obtain rfl:=someI hj10
     exact ⟨_,_,rfl,hF.sub ⟨rfl,rfl,rfl,rfl,trivial⟩,hS.sel [1,2,0] (by decide),h50,(hk50.trans h45k)⟩
  ·rintro a w ⟨t_51,p_c_52,rfl,hF,hS,h53,h53k⟩
   refine n_sq ?_
   obtain ⟨p_59,hj13,hr⟩:=bindS hr
   refine q_join (fun a w=>∃ (q60 : Piece),Fr a 79 [(0,(pP b_p_c 0)),(6,s4.v),(7,s43.v)]∧St X w0 w m [q4,q60,[⟨b_p_c,[s1.v,(iV p_c_52.at_),(.int .u64 p_c_52.seed.v)],41⟩]]∧OwnD m 48 3 q60 s43 p_59) ?_ ?_
   ·rcases bcase (t_51) with hc14 | hc14
    ·have hj13:=cond_f hc14 hj13
     refine q_cond_f hF rfl hc14 (q_skipc (n_jn ?_))
     obtain rfl:=someI hj13
     exact ⟨q43,hF.sub ⟨rfl,rfl,rfl,trivial⟩,hS,h43⟩
    ·have hj13:=cond_t hc14 hj13
     refine q_cond_t hF rfl hc14 (q_region (q_m hF rfl fun a hF=>?_))
     obtain ⟨e_54,he_54,hj13⟩:=bindS hj13
     obtain ⟨s55,hV55⟩:=h43.view he_54
     refine q_y (v:=(elP s43 ((0 : Int).toNat * 1))) hF hS (ex_indexAddr U23 sz48 rfl rfl (h43.idx he_54)) fun a hF=>q_y (v:=s55.v) hF hS (ex_loadE1 0 U48 rfl rfl ((hV55.atH he_54).at 1 rfl) rfl rfl) fun a hF=>?_
     obtain ⟨e_56,he_56,hj13⟩:=bindS hj13
     obtain ⟨vs57,at57,d57⟩:=hV55.at he_54 he_56 1 rfl
     obtain rfl : vs57 = [(iV e_56)]:=d57
     refine q_y (v:=(elP s55 ((0 : Int).toNat * 1))) hF hS (ex_indexAddr U48 sz3 rfl rfl (hV55.idx he_54 he_56)) fun a hF=>?_
     have hS : St _ _ _ _ [q43,q4,[⟨b_p_c,[s1.v,(iV p_c_52.at_),(.int .u64 p_c_52.seed.v)],41⟩]]:=hS.sel [1,0,2] (by decide)
     refine q_do rfl fun _ hK=>wp_storeV (e':=2) (us:=[(iV 2)]) (vs:=[(iV e_56)]) 0 hF hS hV55 he_54 sz3 rfl rfl rfl rfl rfl rfl rfl he_56 at57 rfl rfl rfl fun w q58 hS h58=>hK _ _ (q_end (n_jn ?_))
     obtain rfl:=someI hj13
     exact ⟨q58,hF.sub ⟨rfl,rfl,rfl,trivial⟩,hS.sel [1,0,2] (by decide),h58.own⟩
   ·rintro a w ⟨q60,hF,hS,h60⟩
    refine n_sq ?_
    refine q_sr (q_m hF rfl fun a hF=>q_m hF rfl fun a hF=>q_m hF rfl fun a hF=>q_do rfl fun _ hK=>wp_buildSlice' (l:=([0,1,1,2,5,-1,1001] : List Int)) (cells:=[(iV 0),(iV 1),(iV 1),(iV 2),(iV 5),(iV (-1)),(iV 1001)]) hF hS U48 inf3 rfl rfl (by kernel_rfl) rfl rfl rfl ⟨rfl,rfl,rfl,rfl,rfl,rfl,rfl,rfl⟩ rfl rfl fun a w q61 s61 hF hS h61 _=>hK _ _ ?_)
    have hS : St _ _ _ _ [[⟨b_p_c,[s1.v,(iV p_c_52.at_),(.int .u64 p_c_52.seed.v)],41⟩],q61,q4,q60]:=hS.sel [3,0,1,2] (by decide)
    have hS62 : St _ _ _ _ ([[⟨b_p_c,[s1.v,(iV p_c_52.at_),(.int .u64 p_c_52.seed.v)],41⟩]]++[q61,q4,q60]):=hS
    obtain ⟨m62,hl62,hE62,hz62⟩:=hS62.lendX
    obtain ⟨t_63,ht_63,hr⟩:=bindS hr
    refine q_do rfl fun _ hK=>wp_callX (vs:=[(pP b_p_c 0),s61.v]) hF Tryz.func54 (by kernel_rfl) rfl rfl rfl (c_spec_l1Cur_among p_c_52 ([0,1,1,2,5,-1,1001] : List Int) t_63 ht_63 _ m62 b_p_c s1 (h53.mono hl62) s61 (h61.froz hl62 (hz62 0 _ rfl)) _ hE62) fun a w _ hR hF=>hK _ _ ?_
    obtain ⟨rfl,hR62,hk64⟩:=hR
    have hS : St _ _ _ _ [[⟨b_p_c,[s1.v,(iV t_63.2.at_),(.int .u64 t_63.2.seed.v)],41⟩],q61,q4,q60]:=hS62.leaveF hR62
    have h64 : Rd m s1 t_63.2.code:=by rw [hk64]; exact h53
    refine q_m hF rfl fun a hF=>q_do rfl fun _ hK=>wp_buildSlice' (l:=([0,1,1,2,5,1000] : List Int)) (cells:=[(iV 0),(iV 1),(iV 1),(iV 2),(iV 5),(iV 1000)]) hF hS U48 inf3 rfl rfl (by kernel_rfl) rfl rfl rfl ⟨rfl,rfl,rfl,rfl,rfl,rfl,rfl⟩ rfl rfl fun a w q65 s65 hF hS h65 _=>hK _ _ ?_
    have hS : St _ _ _ _ [[⟨b_p_c,[s1.v,(iV t_63.2.at_),(.int .u64 t_63.2.seed.v)],41⟩],q65,q61,q4,q60]:=hS.sel [1,0,2,3,4] (by decide)
    have hS66 : St _ _ _ _ ([[⟨b_p_c,[s1.v,(iV t_63.2.at_),(.int .u64 t_63.2.seed.v)],41⟩]]++[q65,q61,q4,q60]):=hS
    obtain ⟨m66,hl66,hE66,hz66⟩:=hS66.lendX
    obtain ⟨t_67,ht_67,hr⟩:=bindS hr
    refine q_do rfl fun _ hK=>wp_callX (vs:=[(pP b_p_c 0),s65.v]) hF Tryz.func54 (by kernel_rfl) rfl rfl rfl (c_spec_l1Cur_among t_63.2 ([0,1,1,2,5,1000] : List Int) t_67 ht_67 _ m66 b_p_c s1 (h64.mono hl66) s65 (h65.froz hl66 (hz66 0 _ rfl)) _ hE66) fun a w _ hR hF=>hK _ _ ?_
    obtain ⟨rfl,hR66,hk68⟩:=hR
    have hS : St _ _ _ _ [[⟨b_p_c,[s1.v,(iV t_67.2.at_),(.int .u64 t_67.2.seed.v)],41⟩],q65,q61,q4,q60]:=hS66.leaveF hR66
    have h68 : Rd m s1 t_67.2.code:=by rw [hk68]; exact h64
    refine q_s hF rfl fun a hF=>q_s hF rfl fun a hF=>q_s hF rfl fun a hF=>q_s hF rfl fun a hF=>q_end (n_sq (q_ret ?_))
    obtain rfl:=someI hr
    exact ret_ofX hF hS rfl (.tmp rfl (.tmp rfl (.tmp rfl (.tmp rfl .nil)))) ⟨q4,q60,s4,s43,rfl,hS.sel [0,3,4] (by decide),h4,h60,(hk68.trans (hk64.trans h53k))⟩

theorem c_spec_DrawLeastPlan (p_code : List (K .u8)) (r : (List (List Int)) × (List (List Int)) × Int × Int) (hr : spec_DrawLeastPlan p_code = some r) (w0 : World) (m : Mem) (hv : Vis m w0) (s1 : Sl) (h1 : Rd m s1 p_code) :
  Ret Tryz.prog 4 [s1.v] w0 (fun v w=>∃ (m' : Mem) (s0' : Sl) (s1' : Sl),v = (.tuple #[s0'.v,s1'.v,(iV r.2.2.1),(iV r.2.2.2)])∧MLe [] w0.heap.size m m'∧St [] w0 w m' []∧Rd m' s0' r.1∧Rd m' s1' r.2.1):=by
 unfold spec_DrawLeastPlan at hr
 refine ret_start Tryz.func4 rfl 32 rfl rfl m hv fun a hF hS=>q_sr (q_s hF rfl fun a hF=>q_s hF rfl fun a hF=>q_s hF rfl fun a hF=>q_s hF rfl fun a hF=>q_end (n_sq (q_sr (q_m hF rfl fun a hF=>q_y (v:=(.agg #[s1.v,(iV 0),(.int .u64 0)])) hF hS (ex_build (cells:=[s1.v,(iV 0),(.int .u64 0)]) rfl (by kernel_rfl)) fun a hF=>q_box (cs:=[s1.v,(iV 0),(.int .u64 0)]) hF hS rfl rfl rfl fun a w b2 hF hS=>q_s hF rfl fun a hF=>q_end (n_sq (q_sr (q_m hF rfl fun a hF=>?_)))))))
 have hS3 : St _ _ _ _ ([[⟨b2,[s1.v,(iV 0),(.int .u64 0)],41⟩]]++[]):=hS
 have hE3:=hS3.enter
 obtain ⟨t_4,ht_4,hr⟩:=bindS hr
 refine q_do rfl fun _ hK=>wp_callX (vs:=[(pP b2 0)]) hF Tryz.func14 (by kernel_rfl) rfl rfl rfl (c_spec_l1Cur_protection (spec_l1Cur.mk p_code 0 (⟨0⟩ : K .u64)) t_4 ht_4 _ m b2 s1 h1 _ hE3) fun a w _ hR hF=>hK _ _ ?_
 obtain ⟨q5,q6,s5,s6,rfl,hR3,h5,h6,hk7⟩:=hR
 have hS : St _ _ _ _ [[⟨b2,[s1.v,(iV t_4.2.2.2.2.at_),(.int .u64 t_4.2.2.2.2.seed.v)],41⟩],q5,q6]:=hS3.leaveF hR3
 have h7 : Rd m s1 t_4.2.2.2.2.code:=by rw [hk7]; exact h1
 refine q_m hF rfl fun a hF=>q_y (v:=s5.v) hF hS (ex_extract rfl rfl) fun a hF=>q_y (v:=s6.v) hF hS (ex_extract rfl rfl) fun a hF=>q_y (v:=(iV t_4.2.2.1)) hF hS (ex_extract rfl rfl) fun a hF=>q_y (v:=(iV t_4.2.2.2.1)) hF hS (ex_extract rfl rfl) fun a hF=>q_s hF rfl fun a hF=>q_s hF rfl fun a hF=>q_s hF rfl fun a hF=>q_s hF rfl fun a hF=>q_end (n_sq (q_seq (q_sr (q_m hF rfl fun a hF=>q_y (v:=(iV (goLen t_4.1))) hF hS (ex_len U23 rfl h5.len) fun a hF=>q_y (v:=(.bool (decide (3 < (goLen t_4.1))))) hF hS (ex_ibin rfl rfl rfl) fun a hF=>q_end (n_sq ?_)))))
 obtain ⟨j1,hj1,hr⟩:=bindS hr
 refine q_join (fun a w=>∃ (m18 : Mem),∃ (s15 : Sl),∃ (s17 : Sl),∃ x_14,∃ p_16,j1 = (x_14,p_16)∧Fr a 32 [(7,s15.v),(8,s17.v),(9,(iV t_4.2.2.1)),(10,(iV t_4.2.2.2.1))]∧St [] w0 w m18 []∧MLe [] w0.heap.size m m18∧Rd m18 s15 x_14∧Rd m18 s17 p_16) ?_ ?_
 ·rcases bcase (decide (3 < (goLen t_4.1))) with hc2 | hc2
  ·have hj1:=cond_f hc2 hj1
   refine q_cond_f hF rfl hc2 (q_skipc (n_jn ?_))
   obtain rfl:=someI hj1
   have hS : St _ _ _ _ [q5,[⟨b2,[s1.v,(iV t_4.2.2.2.2.at_),(.int .u64 t_4.2.2.2.2.seed.v)],41⟩],q6]:=hS.sel [1,0,2] (by decide)
   obtain ⟨mf1,hmf1,hS,hzf1⟩:=hS.freeze
   have hf1:=h5.froz hmf1.le hzf1
   have hS : St _ _ _ _ [q6,[⟨b2,[s1.v,(iV t_4.2.2.2.2.at_),(.int .u64 t_4.2.2.2.2.seed.v)],41⟩]]:=hS.sel [1,0] (by decide)
   obtain ⟨mf2,hmf2,hS,hzf2⟩:=hS.freeze
   have hf2:=(h6.mono hmf1.le).froz hmf2.le hzf2
   exact ⟨mf2,s5,s6,_,_,rfl,hF.sub ⟨rfl,rfl,rfl,rfl,trivial⟩,hS.mask [false],(hmf1.trans hmf2),(hf1.mono hmf2.le),hf2⟩
  ·have hj1:=cond_t hc2 hj1
   refine q_cond_t hF rfl hc2 (q_sr (q_m hF rfl fun a hF=>?_))
   have hS : St _ _ _ _ [q5,[⟨b2,[s1.v,(iV t_4.2.2.2.2.at_),(.int .u64 t_4.2.2.2.2.seed.v)],41⟩],q6]:=hS.sel [1,0,2] (by decide)
   obtain ⟨m8,hm8,hS,hz8⟩:=hS.freeze
   have h8:=h5.froz hm8.le hz8
   obtain ⟨l_9,hl_9,hj1⟩:=bindS hj1
   have h10 : Rd m8 (subS s5 1 (0 : Int).toNat (3 : Int).toNat s5.cap) l_9:=h8.sub' hl_9 1 rfl
   refine q_y (v:=(subS s5 1 (0 : Int).toNat (3 : Int).toNat s5.cap).v) hF hS (ex_slice U23 sz48 rfl rfl rfl (.inl ⟨rfl,rfl⟩) (.inr ⟨_,rfl⟩) (h8.subok hl_9)) fun a hF=>q_s hF rfl fun a hF=>q_end (n_sq (q_region (q_m hF rfl fun a hF=>?_)))
   have hS : St _ _ _ _ [q6,[⟨b2,[s1.v,(iV t_4.2.2.2.2.at_),(.int .u64 t_4.2.2.2.2.seed.v)],41⟩]]:=hS.sel [1,0] (by decide)
   obtain ⟨m11,hm11,hS,hz11⟩:=hS.freeze
   have h11:=(h6.mono hm8.le).froz hm11.le hz11
   obtain ⟨l_12,hl_12,hj1⟩:=bindS hj1
   have h13 : Rd m11 (subS s6 1 (0 : Int).toNat (3 : Int).toNat s6.cap) l_12:=h11.sub' hl_12 1 rfl
   refine q_y (v:=(subS s6 1 (0 : Int).toNat (3 : Int).toNat s6.cap).v) hF hS (ex_slice U23 sz48 rfl rfl rfl (.inl ⟨rfl,rfl⟩) (.inr ⟨_,rfl⟩) (h11.subok hl_12)) fun a hF=>q_s hF rfl fun a hF=>q_end (n_jn ?_)
   obtain rfl:=someI hj1
   exact ⟨m11,(subS s5 1 (0 : Int).toNat (3 : Int).toNat s5.cap),(subS s6 1 (0 : Int).toNat (3 : Int).toNat s6.cap),_,_,rfl,hF.sub ⟨rfl,rfl,rfl,rfl,trivial⟩,hS.mask [false],(hm8.trans hm11),(h10.mono hm11.le),h13⟩
 ·rintro a w ⟨m18,s15,s17,x_14,p_16,rfl,hF,hS,hm18,h15,h17⟩
  refine n_sq ?_
  refine q_sr (q_m hF rfl fun a hF=>q_m hF rfl fun a hF=>q_m hF rfl fun a hF=>q_m hF rfl fun a hF=>q_s hF rfl fun a hF=>q_s hF rfl fun a hF=>q_s hF rfl fun a hF=>q_s hF rfl fun a hF=>q_end (n_sq (q_ret ?_)))
  obtain rfl:=someI hr
  exact ret_of hF hS rfl (.tmp rfl (.tmp rfl (.tmp rfl (.tmp rfl .nil)))) ⟨m18,s15,s17,rfl,hm18,hS.sel [] (by decide),h15,h17⟩

theorem c_impl_hasShape (p_x : List (List Int)) (p_rows : Int) (p_cols : Int) (r : Bool) (hr : impl_hasShape p_x p_rows p_cols = some r) (w0 : World) (m : Mem) (hv : Vis m w0) (s1 : Sl) (h1 : Rd m s1 p_x) :
  Ret Tryz.prog 70 [s1.v,(iV p_rows),(iV p_cols)] w0 (fun v _=>v = (.bool r)):=by
 unfold impl_hasShape at hr
 refine ret_start Tryz.func70 rfl 24 rfl rfl m hv fun a hF hS=>q_sr (q_s hF rfl fun a hF=>q_end (n_sq (q_seq (q_sr (q_m hF rfl fun a hF=>q_y (v:=(iV (goLen p_x))) hF hS (ex_len U23 rfl h1.len) fun a hF=>q_m hF rfl fun a hF=>q_y (v:=(.bool ((goLen p_x) != p_rows))) hF hS (ex_ibin rfl rfl rfl) fun a hF=>q_end (n_sq ?_))))))
 rcases bcase ((goLen p_x) != p_rows) with hc1 | hc1
 ·have hr:=cond_f hc1 hr
  refine q_cond_f hF rfl hc1 (q_skipc (n_sq (q_seq (q_sr (q_m hF rfl fun a hF=>q_y (v:=(iV (goLen p_x))) hF hS (ex_len U23 rfl h1.len) fun a hF=>q_m hF rfl fun a hF=>q_end (n_sq (q_block ?_)))))))
  obtain ⟨o2,hl2,hr⟩:=bindS hr
  refine q_loop (fun (t_2 : Int) a w=>Fr a 24 [(2,(iV p_cols)),(13,s1.v),(14,(iV (goLen p_x))),(15,(iV t_2))]∧St [] w0 w m []) (fun (o : (Unit) ⊕ (Bool)) e a w=>o = .inl ()∧e = .exit 0∧Fr a 24 []∧St [] w0 w m []) hl2 ⟨hF.sub ⟨rfl,rfl,rfl,rfl,trivial⟩,hS⟩ ?_ ?_
  ·clear hF hS
   rintro t_2 a w st ⟨hF,hS⟩ hb2
   unfold impl_hasShape_l1 at hb2
   refine q_sr (q_y (v:=(.bool (decide (t_2 < (goLen p_x))))) hF hS (ex_ibin rfl rfl rfl) fun a hF=>q_end (n_sq (q_seq ?_)))
   rcases bcase (decide (t_2 < (goLen p_x))) with hc3 | hc3
   ·have hb2:=cond_f hc3 hb2
    refine q_cond_f hF rfl hc3 (q_exit (x_sq ?_))
    obtain rfl:=someI hb2
    exact ⟨nofun,.inl ⟨rfl,rfl,hF.sub trivial,hS⟩⟩
   ·have hb2:=cond_t hc3 hb2
    refine q_cond_t hF rfl hc3 (q_skipc (n_sq (q_seq (q_block (q_seq (q_region ?_))))))
    obtain ⟨e_3,he_3,hb2⟩:=bindS hb2
    obtain ⟨vs4,at4,d4⟩:=h1.at he_3 1 rfl
    obtain ⟨s5,rfl,h5⟩ : ∃ s5 : Sl,vs4 = [s5.v]∧Rd m s5 e_3:=d4
    refine q_y (v:=(elP s1 (t_2.toNat * 1))) hF hS (ex_indexAddr U23 sz48 rfl rfl (h1.idx he_3)) fun a hF=>q_y (v:=s5.v) hF hS (ex_loadE1 0 U48 rfl rfl ((at4).at) rfl rfl) fun a hF=>q_s hF rfl fun a hF=>q_end (n_sq (q_sr (q_m hF rfl fun a hF=>q_y (v:=(iV (goLen e_3))) hF hS (ex_len U48 rfl h5.len) fun a hF=>q_m hF rfl fun a hF=>q_y (v:=(.bool ((goLen e_3) != p_cols))) hF hS (ex_ibin rfl rfl rfl) fun a hF=>q_end (n_sq ?_))))
    rcases bcase ((goLen e_3) != p_cols) with hc4 | hc4
    ·have hb2:=cond_f hc4 hb2
     refine q_cond_f hF rfl hc4 (q_skipc (n_ib (n_sq (q_region (q_y (v:=(iV (w64 (t_2 + 1)))) hF hS (ex_ibin rfl rfl rfl) fun a hF=>q_m hF rfl fun a hF=>q_end ?_)))))
     obtain rfl:=someI hb2
     exact ⟨rfl,hF.sub ⟨rfl,rfl,rfl,rfl,trivial⟩,hS⟩
    ·have hb2:=cond_t hc4 hb2
     refine q_cond_t hF rfl hc4 (q_sr (q_s hF rfl fun a hF=>q_end (n_sq (q_ret (r_ib (r_sq ?_))))))
     obtain rfl:=someI hb2
     refine ⟨nofun,.inr fun ho=>?_⟩
     subst ho
     refine r_ib (r_sq ?_)
     obtain rfl:=someI hr
     exact ret_of hF hS rfl (.tmp rfl .nil) rfl
  ·rintro e a w ⟨rfl,rfl,hF,hS⟩
   refine x_ib (n_sq ?_)
   refine q_sr (q_s hF rfl fun a hF=>q_end (n_sq (q_ret ?_)))
   obtain rfl:=someI hr
   exact ret_of hF hS rfl (.tmp rfl .nil) rfl
 ·have hr:=cond_t hc1 hr
  refine q_cond_t hF rfl hc1 (q_sr (q_s hF rfl fun a hF=>q_end (n_sq (q_ret (r_sq ?_)))))
  obtain rfl:=someI hr
  exact ret_of hF hS rfl (.tmp rfl .nil) rfl

theorem c_impl_isGrid (p_x : List (List Int)) (p_most : Int) (r : Bool) (hr : impl_isGrid p_x p_most = some r) (w0 : World) (m : Mem) (hv : Vis m w0) (s1 : Sl) (h1 : Rd m s1 p_x) :
  Ret Tryz.prog 69 [s1.v,(iV p_most)] w0 (fun v _=>v = (.bool r)):=by
 unfold impl_isGrid at hr
 refine ret_start Tryz.func69 rfl 63 rfl rfl m hv fun a hF hS=>q_sr (q_s hF rfl fun a hF=>q_end (n_sq (q_seq (q_seq ?_))))
 obtain ⟨t_12,hj1,hr⟩:=bindS hr
 refine q_join (fun a w=>Fr a 63 [(0,s1.v),(1,(iV p_most)),(41,(.bool t_12))]∧St [] w0 w m []) ?_ ?_
 ·refine q_region (q_m hF rfl fun a hF=>q_y (v:=(iV (goLen p_x))) hF hS (ex_len U23 rfl h1.len) fun a hF=>q_y (v:=(.bool (decide ((goLen p_x) < 1)))) hF hS (ex_ibin rfl rfl rfl) fun a hF=>q_m hF rfl fun a hF=>?_)
  rcases bcase (decide ((goLen p_x) < 1)) with hc2 | hc2
  ·have hj1:=cond_f hc2 hj1
   refine q_g (v:=s1.v) hF hS (ex_move rfl) hc2 fun a hF=>q_g (v:=(iV (goLen p_x))) hF hS (ex_len U23 rfl h1.len) hc2 fun a hF=>q_g (v:=(.bool (decide (8 < (goLen p_x))))) hF hS (ex_ibin rfl rfl rfl) hc2 fun a hF=>q_y (v:=(.bool (decide (8 < (goLen p_x))))) hF hS (ex_pick_f rfl rfl hc2) fun a hF=>q_m hF rfl fun a hF=>?_
   rcases bcase (decide (8 < (goLen p_x))) with hc3 | hc3
   ·have hj1:=cond_f hc3 hj1
    refine q_g (v:=s1.v) hF hS (ex_move rfl) hc3 fun a hF=>?_
    obtain ⟨e_2,he_2,hj1⟩:=bindS hj1
    obtain ⟨vs3,at3,d3⟩:=h1.at he_2 1 rfl
    obtain ⟨s4,rfl,h4⟩ : ∃ s4 : Sl,vs3 = [s4.v]∧Rd m s4 e_2:=d3
    refine q_g (v:=(elP s1 ((0 : Int).toNat * 1))) hF hS (ex_indexAddr U23 sz48 rfl rfl (h1.idx he_2)) hc3 fun a hF=>q_g (v:=s4.v) hF hS (ex_loadE1 0 U48 rfl rfl ((at3).at) rfl rfl) hc3 fun a hF=>q_g (v:=(iV (goLen e_2))) hF hS (ex_len U48 rfl h4.len) hc3 fun a hF=>q_g (v:=(.bool (decide ((goLen e_2) < 1)))) hF hS (ex_ibin rfl rfl rfl) hc3 fun a hF=>q_y (v:=(.bool (decide ((goLen e_2) < 1)))) hF hS (ex_pick_f rfl rfl hc3) fun a hF=>q_m hF rfl fun a hF=>?_
    rcases bcase (decide ((goLen e_2) < 1)) with hc4 | hc4
    ·have hj1:=cond_f hc4 hj1
     refine q_g (v:=s1.v) hF hS (ex_move rfl) hc4 fun a hF=>?_
     obtain ⟨e_5,he_5,hj1⟩:=bindS hj1
     obtain ⟨vs6,at6,d6⟩:=h1.at he_5 1 rfl
     obtain ⟨s7,rfl,h7⟩ : ∃ s7 : Sl,vs6 = [s7.v]∧Rd m s7 e_5:=d6
     refine q_g (v:=(elP s1 ((0 : Int).toNat * 1))) hF hS (ex_indexAddr U23 sz48 rfl rfl (h1.idx he_5)) hc4 fun a hF=>q_g (v:=s7.v) hF hS (ex_loadE1 0 U48 rfl rfl ((at6).at) rfl rfl) hc4 fun a hF=>q_g (v:=(iV (goLen e_5))) hF hS (ex_len U48 rfl h7.len) hc4 fun a hF=>q_g (v:=(.bool (decide (8 < (goLen e_5))))) hF hS (ex_ibin rfl rfl rfl) hc4 fun a hF=>q_y (v:=(.bool (decide (8 < (goLen e_5))))) hF hS (ex_pick_f rfl rfl hc4) fun a hF=>q_m hF rfl fun a hF=>?_
     rcases bcase (decide (8 < (goLen e_5))) with hc5 | hc5
     ·have hj1:=cond_f hc5 hj1
      refine q_g (v:=s1.v) hF hS (ex_move rfl) hc5 fun a hF=>q_g (v:=s1.v) hF hS (ex_move rfl) hc5 fun a hF=>q_g (v:=(iV (goLen p_x))) hF hS (ex_len U23 rfl h1.len) hc5 fun a hF=>q_g (v:=s1.v) hF hS (ex_move rfl) hc5 fun a hF=>?_
      obtain ⟨e_8,he_8,hj1⟩:=bindS hj1
      obtain ⟨vs9,at9,d9⟩:=h1.at he_8 1 rfl
      obtain ⟨s10,rfl,h10⟩ : ∃ s10 : Sl,vs9 = [s10.v]∧Rd m s10 e_8:=d9
      refine q_g (v:=(elP s1 ((0 : Int).toNat * 1))) hF hS (ex_indexAddr U23 sz48 rfl rfl (h1.idx he_8)) hc5 fun a hF=>q_g (v:=s10.v) hF hS (ex_loadE1 0 U48 rfl rfl ((at9).at) rfl rfl) hc5 fun a hF=>q_g (v:=(iV (goLen e_8))) hF hS (ex_len U48 rfl h10.len) hc5 fun a hF=>?_
      obtain ⟨t_11,ht_11,hj1⟩:=bindS hj1
      refine q_callg (vs:=[s1.v,(iV (goLen p_x)),(iV (goLen e_8))]) hF hS (wanted_t hF rfl rfl rfl hc5) Tryz.func70 (by kernel_rfl) rfl rfl rfl (c_impl_hasShape p_x (goLen p_x) (goLen e_8) t_11 ht_11 _ m hS.vis s1 h1) ?_
      rintro a w _ rfl hF hS
      refine q_g (v:=(.bool (!t_11))) hF hS (ex_not rfl) hc5 fun a hF=>q_y (v:=(.bool (!t_11))) hF hS (ex_pick_f rfl rfl hc5) fun a hF=>q_end (n_jn ?_)
      obtain rfl:=someI hj1
      exact ⟨hF.sub ⟨rfl,rfl,rfl,trivial⟩,hS⟩
     ·have hj1:=cond_t hc5 hj1
      refine q_k hF hc5 fun a hF=>q_k hF hc5 fun a hF=>q_k hF hc5 fun a hF=>q_k hF hc5 fun a hF=>q_k hF hc5 fun a hF=>q_k hF hc5 fun a hF=>q_k hF hc5 fun a hF=>q_k hF hc5 fun a hF=>q_k hF hc5 fun a hF=>q_y (v:=(.bool true)) hF hS (ex_pick_t rfl rfl hc5) fun a hF=>q_end (n_jn ?_)
      obtain rfl:=someI hj1
      exact ⟨hF.sub ⟨rfl,rfl,rfl,trivial⟩,hS⟩
    ·have hj1:=cond_t hc4 hj1
     refine q_k hF hc4 fun a hF=>q_k hF hc4 fun a hF=>q_k hF hc4 fun a hF=>q_k hF hc4 fun a hF=>q_k hF hc4 fun a hF=>q_y (v:=(.bool true)) hF hS (ex_pick_t rfl rfl hc4) fun a hF=>q_m hF rfl fun a hF=>q_k hF rfl fun a hF=>q_k hF rfl fun a hF=>q_k hF rfl fun a hF=>q_k hF rfl fun a hF=>q_k hF rfl fun a hF=>q_k hF rfl fun a hF=>q_k hF rfl fun a hF=>q_k hF rfl fun a hF=>q_k hF rfl fun a hF=>q_y (v:=(.bool true)) hF hS (ex_pick_t rfl rfl rfl) fun a hF=>q_end (n_jn ?_)
     obtain rfl:=someI hj1
     exact ⟨hF.sub ⟨rfl,rfl,rfl,trivial⟩,hS⟩
   ·have hj1:=cond_t hc3 hj1
    refine q_k hF hc3 fun a hF=>q_k hF hc3 fun a hF=>q_k hF hc3 fun a hF=>q_k hF hc3 fun a hF=>q_k hF hc3 fun a hF=>q_y (v:=(.bool true)) hF hS (ex_pick_t rfl rfl hc3) fun a hF=>q_m hF rfl fun a hF=>q_k hF rfl fun a hF=>q_k hF rfl fun a hF=>q_k hF rfl fun a hF=>q_k hF rfl fun a hF=>q_k hF rfl fun a hF=>q_y (v:=(.bool true)) hF hS (ex_pick_t rfl rfl rfl) fun a hF=>q_m hF rfl fun a hF=>q_k hF rfl fun a hF=>q_k hF rfl fun a hF=>q_k hF rfl fun a hF=>q_k hF rfl fun a hF=>q_k hF rfl fun a hF=>q_k hF rfl fun a hF=>q_k hF rfl fun a hF=>q_k hF rfl fun a hF=>q_k hF rfl fun a hF=>q_y (v:=(.bool true)) hF hS (ex_pick_t rfl rfl rfl) fun a hF=>q_end (n_jn ?_)
    obtain rfl:=someI hj1
    exact ⟨hF.sub ⟨rfl,rfl,rfl,trivial⟩,hS⟩
  ·have hj1:=cond_t hc2 hj1
   refine q_k hF hc2 fun a hF=>q_k hF hc2 fun a hF=>q_k hF hc2 fun a hF=>q_y (v:=(.bool true)) hF hS (ex_pick_t rfl rfl hc2) fun a hF=>q_m hF rfl fun a hF=>q_k hF rfl fun a hF=>q_k hF rfl fun a hF=>q_k hF rfl fun a hF=>q_k hF rfl fun a hF=>q_k hF rfl fun a hF=>q_y (v:=(.bool true)) hF hS (ex_pick_t rfl rfl rfl) fun a hF=>q_m hF rfl fun a hF=>q_k hF rfl fun a hF=>q_k hF rfl fun a hF=>q_k hF rfl fun a hF=>q_k hF rfl fun a hF=>q_k hF rfl fun a hF=>q_y (v:=(.bool true)) hF hS (ex_pick_t rfl rfl rfl) fun a hF=>q_m hF rfl fun a hF=>q_k hF rfl fun a hF=>q_k hF rfl fun a hF=>q_k hF rfl fun a hF=>q_k hF rfl fun a hF=>q_k hF rfl fun a hF=>q_k hF rfl fun a hF=>?_
   refine q_k hF rfl fun a hF=>q_k hF rfl fun a hF=>q_k hF rfl fun a hF=>q_y (v:=(.bool true)) hF hS (ex_pick_t rfl rfl rfl) fun a hF=>q_end (n_jn ?_)
   obtain rfl:=someI hj1
   exact ⟨hF.sub ⟨rfl,rfl,rfl,trivial⟩,hS⟩
 ·rintro a w ⟨hF,hS⟩
  refine n_sq ?_
  rcases bcase (t_12) with hc6 | hc6
  ·have hr:=cond_f hc6 hr
   refine q_cond_f hF rfl hc6 (q_skipc (n_sq (q_seq (q_sr (q_m hF rfl fun a hF=>q_y (v:=(iV (goLen p_x))) hF hS (ex_len U23 rfl h1.len) fun a hF=>q_m hF rfl fun a hF=>q_end (n_sq (q_block ?_)))))))
   obtain ⟨o7,hl7,hr⟩:=bindS hr
   refine q_loop (fun (t_13 : Int) a w=>Fr a 63 [(1,(iV p_most)),(42,s1.v),(43,(iV (goLen p_x))),(44,(iV t_13))]∧St [] w0 w m []) (fun (o : (Unit) ⊕ (Bool)) e a w=>o = .inl ()∧e = .exit 0∧Fr a 63 []∧St [] w0 w m []) hl7 ⟨hF.sub ⟨rfl,rfl,rfl,rfl,trivial⟩,hS⟩ ?_ ?_
   ·clear hF hS
    rintro t_13 a w st ⟨hF,hS⟩ hb7
    unfold impl_isGrid_l1 at hb7
    refine q_sr (q_y (v:=(.bool (decide (t_13 < (goLen p_x))))) hF hS (ex_ibin rfl rfl rfl) fun a hF=>q_end (n_sq (q_seq ?_)))
    rcases bcase (decide (t_13 < (goLen p_x))) with hc8 | hc8
    ·have hb7:=cond_f hc8 hb7
     refine q_cond_f hF rfl hc8 (q_exit (x_sq ?_))
     obtain rfl:=someI hb7
     exact ⟨nofun,.inl ⟨rfl,rfl,hF.sub trivial,hS⟩⟩
    ·have hb7:=cond_t hc8 hb7
     refine q_cond_t hF rfl hc8 (q_skipc (n_sq (q_seq (q_block (q_seq (q_region ?_))))))
     obtain ⟨e_14,he_14,hb7⟩:=bindS hb7
     obtain ⟨vs15,at15,d15⟩:=h1.at he_14 1 rfl
     obtain ⟨s16,rfl,h16⟩ : ∃ s16 : Sl,vs15 = [s16.v]∧Rd m s16 e_14:=d15
     refine q_y (v:=(elP s1 (t_13.toNat * 1))) hF hS (ex_indexAddr U23 sz48 rfl rfl (h1.idx he_14)) fun a hF=>q_y (v:=s16.v) hF hS (ex_loadE1 0 U48 rfl rfl ((at15).at) rfl rfl) fun a hF=>q_s hF rfl fun a hF=>q_end (n_sq (q_sr (q_m hF rfl fun a hF=>q_y (v:=(iV (goLen e_14))) hF hS (ex_len U48 rfl h16.len) fun a hF=>q_m hF rfl fun a hF=>q_end (n_sq (q_block ?_)))))
     obtain ⟨o9,hl9,hb7⟩:=bindS hb7
     refine q_loop (fun (t_17 : Int) a w=>Fr a 63 [(1,(iV p_most)),(42,s1.v),(43,(iV (goLen p_x))),(44,(iV t_13)),(48,s16.v),(49,(iV (goLen e_14))),(50,(iV t_17))]∧St [] w0 w m []) (fun (o : (Unit) ⊕ (Stp (Int) ((Unit) ⊕ (Bool)))) e a w=>o = .inl ()∧e = .exit 2∧Fr a 63 [(1,(iV p_most)),(42,s1.v),(43,(iV (goLen p_x))),(44,(iV t_13))]∧St [] w0 w m []) hl9 ⟨hF.sub ⟨rfl,rfl,rfl,rfl,rfl,rfl,rfl,trivial⟩,hS⟩ ?_ ?_
     ·clear hF hS
      rintro t_17 a w st ⟨hF,hS⟩ hb9
      unfold impl_isGrid_l2 at hb9
      refine q_sr (q_y (v:=(.bool (decide (t_17 < (goLen e_14))))) hF hS (ex_ibin rfl rfl rfl) fun a hF=>q_end (n_sq (q_seq ?_)))
      rcases bcase (decide (t_17 < (goLen e_14))) with hc10 | hc10
      ·have hb9:=cond_f hc10 hb9
       refine q_cond_f hF rfl hc10 (q_exit (x_sq ?_))
       obtain rfl:=someI hb9
       exact ⟨nofun,.inl ⟨rfl,rfl,hF.sub ⟨rfl,rfl,rfl,rfl,trivial⟩,hS⟩⟩
      ·have hb9:=cond_t hc10 hb9
       refine q_cond_t hF rfl hc10 (q_skipc (n_sq (q_seq (q_block (q_seq (q_region ?_))))))
       obtain ⟨e_18,he_18,hb9⟩:=bindS hb9
       obtain ⟨vs19,at19,d19⟩:=h16.at he_18 1 rfl
       obtain rfl : vs19 = [(iV e_18)]:=d19
       refine q_y (v:=(elP s16 (t_17.toNat * 1))) hF hS (ex_indexAddr U48 sz3 rfl rfl (h16.idx he_18)) fun a hF=>q_y (v:=(iV e_18)) hF hS (ex_loadE1 0 U3 rfl rfl ((at19).at) rfl rfl) fun a hF=>q_s hF rfl fun a hF=>q_end (n_sq (q_seq ?_))
       obtain ⟨t_20,hj11,hb9⟩:=bindS hb9
       refine q_join (fun a w=>Fr a 63 [(1,(iV p_most)),(42,s1.v),(43,(iV (goLen p_x))),(44,(iV t_13)),(48,s16.v),(49,(iV (goLen e_14))),(50,(iV t_17)),(60,(.bool t_20))]∧St [] w0 w m []) ?_ ?_
       ·refine q_region (q_m hF rfl fun a hF=>q_y (v:=(.bool (decide (e_18 < 0)))) hF hS (ex_ibin rfl rfl rfl) fun a hF=>q_m hF rfl fun a hF=>?_)
        rcases bcase (decide (e_18 < 0)) with hc12 | hc12
        ·have hj11:=cond_f hc12 hj11
         refine q_g (v:=(iV e_18)) hF hS (ex_move rfl) hc12 fun a hF=>q_g (v:=(iV p_most)) hF hS (ex_move rfl) hc12 fun a hF=>q_g (v:=(.bool (decide (p_most < e_18)))) hF hS (ex_ibin rfl rfl rfl) hc12 fun a hF=>q_y (v:=(.bool (decide (p_most < e_18)))) hF hS (ex_pick_f rfl rfl hc12) fun a hF=>q_end (n_jn ?_)
         obtain rfl:=someI hj11
         exact ⟨hF.sub ⟨rfl,rfl,rfl,rfl,rfl,rfl,rfl,rfl,trivial⟩,hS⟩
        ·have hj11:=cond_t hc12 hj11
         refine q_k hF hc12 fun a hF=>q_k hF hc12 fun a hF=>q_k hF hc12 fun a hF=>q_y (v:=(.bool true)) hF hS (ex_pick_t rfl rfl hc12) fun a hF=>q_end (n_jn ?_)
         obtain rfl:=someI hj11
         exact ⟨hF.sub ⟨rfl,rfl,rfl,rfl,rfl,rfl,rfl,rfl,trivial⟩,hS⟩
       ·rintro a w ⟨hF,hS⟩
        refine n_sq ?_
        rcases bcase (t_20) with hc13 | hc13
        ·have hb9:=cond_f hc13 hb9
         refine q_cond_f hF rfl hc13 (q_skipc (n_ib (n_sq (q_region (q_y (v:=(iV (w64 (t_17 + 1)))) hF hS (ex_ibin rfl rfl rfl) fun a hF=>q_m hF rfl fun a hF=>q_end ?_)))))
         obtain rfl:=someI hb9
         exact ⟨rfl,hF.sub ⟨rfl,rfl,rfl,rfl,rfl,rfl,rfl,trivial⟩,hS⟩
        ·have hb9:=cond_t hc13 hb9
         refine q_cond_t hF rfl hc13 (q_sr (q_s hF rfl fun a hF=>q_end (n_sq (q_ret (r_ib (r_sq ?_))))))
         obtain rfl:=someI hb9
         refine ⟨nofun,.inr fun ho=>?_⟩
         subst ho
         refine r_ib (r_ib (r_sq ?_))
         obtain rfl:=someI hb7
         refine ⟨nofun,.inr fun ho=>?_⟩
         subst ho
         refine r_ib (r_sq ?_)
         obtain rfl:=someI hr
         exact ret_of hF hS rfl (.tmp rfl .nil) rfl
     ·rintro e a w ⟨rfl,rfl,hF,hS⟩
      refine x_ib (n_ib (n_sq ?_))
      refine q_region (q_y (v:=(iV (w64 (t_13 + 1)))) hF hS (ex_ibin rfl rfl rfl) fun a hF=>q_m hF rfl fun a hF=>q_end ?_)
      obtain rfl:=someI hb7
      exact ⟨rfl,hF.sub ⟨rfl,rfl,rfl,rfl,trivial⟩,hS⟩
   ·rintro e a w ⟨rfl,rfl,hF,hS⟩
    refine x_ib (n_sq ?_)
    refine q_sr (q_s hF rfl fun a hF=>q_end (n_sq (q_ret ?_)))
    obtain rfl:=someI hr
    exact ret_of hF hS rfl (.tmp rfl .nil) rfl
  ·have hr:=cond_t hc6 hr
   refine q_cond_t hF rfl hc6 (q_sr (q_s hF rfl fun a hF=>q_end (n_sq (q_ret (r_sq ?_)))))
   obtain rfl:=someI hr
   exact ret_of hF hS rfl (.tmp rfl .nil) rfl

theorem c_impl_IsTwoWay (p_x : List (List Int)) (r : Bool) (hr : impl_IsTwoWay p_x = some r) (w0 : World) (m : Mem) (hv : Vis m w0) (s1 : Sl) (h1 : Rd m s1 p_x) :
  Ret Tryz.prog 55 [s1.v] w0 (fun v _=>v = (.bool r)):=by
 unfold impl_IsTwoWay at hr
 refine ret_start Tryz.func55 rfl 5 rfl rfl m hv fun a hF hS=>q_sr (q_s hF rfl fun a hF=>q_end (n_sq (q_sr (q_m hF rfl fun a hF=>?_))))
 obtain ⟨t_2,ht_2,hr⟩:=bindS hr
 refine q_call (vs:=[s1.v,(iV 1000)]) hF hS Tryz.func69 (by kernel_rfl) rfl rfl rfl (c_impl_isGrid p_x 1000 t_2 ht_2 _ m hS.vis s1 h1) ?_
 rintro a w _ rfl hF hS
 refine q_s hF rfl fun a hF=>q_end (n_sq (q_ret ?_))
 obtain rfl:=someI hr
 exact ret_of hF hS rfl (.tmp rfl .nil) rfl

theorem c_impl_isPattern (p_x : List (List Int)) (p_p : List (List Int)) (r : Bool) (hr : impl_isPattern p_x p_p = some r) (w0 : World) (m : Mem) (hv : Vis m w0) (s1 : Sl) (h1 : Rd m s1 p_x) (s2 : Sl) (h2 : Rd m s2 p_p) :
  Ret Tryz.prog 38 [s1.v,s2.v] w0 (fun v _=>v = (.bool r)):=by
 unfold impl_isPattern at hr
 refine ret_start Tryz.func38 rfl 17 rfl rfl m hv fun a hF hS=>q_sr (q_s hF rfl fun a hF=>q_end (n_sq (q_seq ?_)))
 obtain ⟨t_8,hj1,hr⟩:=bindS hr
 refine q_join (fun a w=>Fr a 17 [(4,(.bool t_8))]∧St [] w0 w m []) ?_ ?_
 ·refine q_region (q_m hF rfl fun a hF=>?_)
  obtain ⟨t_3,ht_3,hj1⟩:=bindS hj1
  refine q_call (vs:=[s2.v,(iV 1)]) hF hS Tryz.func69 (by kernel_rfl) rfl rfl rfl (c_impl_isGrid p_p 1 t_3 ht_3 _ m hS.vis s2 h2) ?_
  rintro a w _ rfl hF hS
  refine q_m hF rfl fun a hF=>?_
  rcases bcase (t_3) with hc2 | hc2
  ·have hj1:=cond_f hc2 hj1
   refine q_k hF hc2 fun a hF=>q_k hF hc2 fun a hF=>q_k hF hc2 fun a hF=>q_k hF hc2 fun a hF=>q_k hF hc2 fun a hF=>q_k hF hc2 fun a hF=>q_k hF hc2 fun a hF=>q_k hF hc2 fun a hF=>q_y (v:=(.bool false)) hF hS (ex_pick_f rfl rfl hc2) fun a hF=>q_s hF rfl fun a hF=>q_end (n_jn ?_)
   obtain rfl:=someI hj1
   exact ⟨hF.sub ⟨rfl,trivial⟩,hS⟩
  ·have hj1:=cond_t hc2 hj1
   refine q_g (v:=s2.v) hF hS (ex_move rfl) hc2 fun a hF=>q_g (v:=s1.v) hF hS (ex_move rfl) hc2 fun a hF=>q_g (v:=(iV (goLen p_x))) hF hS (ex_len U23 rfl h1.len) hc2 fun a hF=>q_g (v:=s1.v) hF hS (ex_move rfl) hc2 fun a hF=>?_
   obtain ⟨e_4,he_4,hj1⟩:=bindS hj1
   obtain ⟨vs5,at5,d5⟩:=h1.at he_4 1 rfl
   obtain ⟨s6,rfl,h6⟩ : ∃ s6 : Sl,vs5 = [s6.v]∧Rd m s6 e_4:=d5
   refine q_g (v:=(elP s1 ((0 : Int).toNat * 1))) hF hS (ex_indexAddr U23 sz48 rfl rfl (h1.idx he_4)) hc2 fun a hF=>q_g (v:=s6.v) hF hS (ex_loadE1 0 U48 rfl rfl ((at5).at) rfl rfl) hc2 fun a hF=>q_g (v:=(iV (goLen e_4))) hF hS (ex_len U48 rfl h6.len) hc2 fun a hF=>?_
   obtain ⟨t_7,ht_7,hj1⟩:=bindS hj1
   refine q_callg (vs:=[s2.v,(iV (goLen p_x)),(iV (goLen e_4))]) hF hS (wanted_t hF rfl rfl rfl hc2) Tryz.func70 (by kernel_rfl) rfl rfl rfl (c_impl_hasShape p_p (goLen p_x) (goLen e_4) t_7 ht_7 _ m hS.vis s2 h2) ?_
   rintro a w _ rfl hF hS
   refine q_y (v:=(.bool t_7)) hF hS (ex_pick_t rfl rfl hc2) fun a hF=>q_s hF rfl fun a hF=>q_end (n_jn ?_)
   obtain rfl:=someI hj1
   exact ⟨hF.sub ⟨rfl,trivial⟩,hS⟩
 ·rintro a w ⟨hF,hS⟩
  refine n_sq (q_ret ?_)
  obtain rfl:=someI hr
  exact ret_of hF hS rfl (.tmp rfl .nil) rfl

theorem c_impl_areSuppressed (p_x : List (List Int)) (p_p : List (List Int)) (r : Bool) (hr : impl_areSuppressed p_x p_p = some r) (w0 : World) (m : Mem) (hv : Vis m w0) (s1 : Sl) (h1 : Rd m s1 p_x) (s2 : Sl) (h2 : Rd m s2 p_p) :
  Ret Tryz.prog 15 [s1.v,s2.v] w0 (fun v _=>v = (.bool r)):=by
 unfold impl_areSuppressed at hr
 refine ret_start Tryz.func15 rfl 12 rfl rfl m hv fun a hF hS=>q_sr (q_s hF rfl fun a hF=>q_end (n_sq (q_seq ?_)))
 obtain ⟨t_5,hj1,hr⟩:=bindS hr
 refine q_join (fun a w=>Fr a 12 [(4,(.bool t_5))]∧St [] w0 w m []) ?_ ?_
 ·refine q_region (q_m hF rfl fun a hF=>?_)
  obtain ⟨t_3,ht_3,hj1⟩:=bindS hj1
  refine q_call (vs:=[s1.v]) hF hS Tryz.func55 (by kernel_rfl) rfl rfl rfl (c_impl_IsTwoWay p_x t_3 ht_3 _ m hS.vis s1 h1) ?_
  rintro a w _ rfl hF hS
  refine q_m hF rfl fun a hF=>?_
  rcases bcase (t_3) with hc2 | hc2
  ·have hj1:=cond_f hc2 hj1
   refine q_k hF hc2 fun a hF=>q_k hF hc2 fun a hF=>q_k hF hc2 fun a hF=>q_y (v:=(.bool false)) hF hS (ex_pick_f rfl rfl hc2) fun a hF=>q_s hF rfl fun a hF=>q_end (n_jn ?_)
   obtain rfl:=someI hj1
   exact ⟨hF.sub ⟨rfl,trivial⟩,hS⟩
  ·have hj1:=cond_t hc2 hj1
   refine q_g (v:=s1.v) hF hS (ex_move rfl) hc2 fun a hF=>q_g (v:=s2.v) hF hS (ex_move rfl) hc2 fun a hF=>?_
   obtain ⟨t_4,ht_4,hj1⟩:=bindS hj1
   refine q_callg (vs:=[s1.v,s2.v]) hF hS (wanted_t hF rfl rfl rfl hc2) Tryz.func38 (by kernel_rfl) rfl rfl rfl (c_impl_isPattern p_x p_p t_4 ht_4 _ m hS.vis s1 h1 s2 h2) ?_
   rintro a w _ rfl hF hS
   refine q_y (v:=(.bool t_4)) hF hS (ex_pick_t rfl rfl hc2) fun a hF=>q_s hF rfl fun a hF=>q_end (n_jn ?_)
   obtain rfl:=someI hj1
   exact ⟨hF.sub ⟨rfl,trivial⟩,hS⟩
 ·rintro a w ⟨hF,hS⟩
  refine n_sq (q_ret ?_)
  obtain rfl:=someI hr
  exact ret_of hF hS rfl (.tmp rfl .nil) rfl

theorem c_impl_areMargins (p_down : Int) (p_up : Int) (r : Bool) (hr : impl_areMargins p_down p_up = some r) (w0 : World) (m : Mem) (hv : Vis m w0) :
  Ret Tryz.prog 16 [(iV p_down),(iV p_up)] w0 (fun v _=>v = (.bool r)):=by
 unfold impl_areMargins at hr
 refine ret_start Tryz.func16 rfl 19 rfl rfl m hv fun a hF hS=>q_sr (q_s hF rfl fun a hF=>q_end (n_sq (q_seq ?_)))
 obtain ⟨t_1,hj1,hr⟩:=bindS hr
 refine q_join (fun a w=>Fr a 19 [(4,(.bool t_1))]∧St [] w0 w m []) ?_ ?_
 ·refine q_region (q_m hF rfl fun a hF=>q_y (v:=(.bool (decide (0 ≤ p_down)))) hF hS (ex_ibin rfl rfl rfl) fun a hF=>q_m hF rfl fun a hF=>?_)
  rcases bcase (decide (0 ≤ p_down)) with hc2 | hc2
  ·have hj1:=cond_f hc2 hj1
   refine q_k hF hc2 fun a hF=>q_k hF hc2 fun a hF=>q_y (v:=(.bool false)) hF hS (ex_pick_f rfl rfl hc2) fun a hF=>q_m hF rfl fun a hF=>q_k hF rfl fun a hF=>q_k hF rfl fun a hF=>q_y (v:=(.bool false)) hF hS (ex_pick_f rfl rfl rfl) fun a hF=>q_m hF rfl fun a hF=>q_k hF rfl fun a hF=>q_k hF rfl fun a hF=>q_y (v:=(.bool false)) hF hS (ex_pick_f rfl rfl rfl) fun a hF=>q_s hF rfl fun a hF=>q_end (n_jn ?_)
   obtain rfl:=someI hj1
   exact ⟨hF.sub ⟨rfl,trivial⟩,hS⟩
  ·have hj1:=cond_t hc2 hj1
   refine q_g (v:=(iV p_down)) hF hS (ex_move rfl) hc2 fun a hF=>q_g (v:=(.bool (decide (p_down ≤ 1000)))) hF hS (ex_ibin rfl rfl rfl) hc2 fun a hF=>q_y (v:=(.bool (decide (p_down ≤ 1000)))) hF hS (ex_pick_t rfl rfl hc2) fun a hF=>q_m hF rfl fun a hF=>?_
   rcases bcase (decide (p_down ≤ 1000)) with hc3 | hc3
   ·have hj1:=cond_f hc3 hj1
    refine q_k hF hc3 fun a hF=>q_k hF hc3 fun a hF=>q_y (v:=(.bool false)) hF hS (ex_pick_f rfl rfl hc3) fun a hF=>q_m hF rfl fun a hF=>q_k hF rfl fun a hF=>q_k hF rfl fun a hF=>q_y (v:=(.bool false)) hF hS (ex_pick_f rfl rfl rfl) fun a hF=>q_s hF rfl fun a hF=>q_end (n_jn ?_)
    obtain rfl:=someI hj1
    exact ⟨hF.sub ⟨rfl,trivial⟩,hS⟩
   ·have hj1:=cond_t hc3 hj1
    refine q_g (v:=(iV p_up)) hF hS (ex_move rfl) hc3 fun a hF=>q_g (v:=(.bool (decide (0 ≤ p_up)))) hF hS (ex_ibin rfl rfl rfl) hc3 fun a hF=>q_y (v:=(.bool (decide (0 ≤ p_up)))) hF hS (ex_pick_t rfl rfl hc3) fun a hF=>q_m hF rfl fun a hF=>?_
    rcases bcase (decide (0 ≤ p_up)) with hc4 | hc4
    ·have hj1:=cond_f hc4 hj1
     refine q_k hF hc4 fun a hF=>q_k hF hc4 fun a hF=>q_y (v:=(.bool false)) hF hS (ex_pick_f rfl rfl hc4) fun a hF=>q_s hF rfl fun a hF=>q_end (n_jn ?_)
     obtain rfl:=someI hj1
     exact ⟨hF.sub ⟨rfl,trivial⟩,hS⟩
    ·have hj1:=cond_t hc4 hj1
     refine q_g (v:=(iV p_up)) hF hS (ex_move rfl) hc4 fun a hF=>q_g (v:=(.bool (decide (p_up ≤ 1000)))) hF hS (ex_ibin rfl rfl rfl) hc4 fun a hF=>q_y (v:=(.bool (decide (p_up ≤ 1000)))) hF hS (ex_pick_t rfl rfl hc4) fun a hF=>q_s hF rfl fun a hF=>q_end (n_jn ?_)
     obtain rfl:=someI hj1
     exact ⟨hF.sub ⟨rfl,trivial⟩,hS⟩
 ·rintro a w ⟨hF,hS⟩
  refine n_sq (q_ret ?_)
  obtain rfl:=someI hr
  exact ret_of hF hS rfl (.tmp rfl .nil) rfl

theorem c_slices_Clone_int_int (p_s : List Int) (r : (List Int)) (hr : slices_Clone_int_int p_s = some r) (w0 : World) (m : Mem) (hv : Vis m w0) (s1 : Sl) (h1 : Rd m s1 p_s) :
  Ret Tryz.prog 72 [s1.v] w0 (fun v w=>∃ (q0' : Piece) (s0' : Sl),v = s0'.v∧St [] w0 w m [q0']∧OwnL m 3 q0' s0' r):=by
 unfold slices_Clone_int_int at hr
 refine ret_start Tryz.func72 rfl 8 rfl rfl m hv fun a hF hS=>q_sr (q_s hF rfl fun a hF=>q_end (n_sq (q_seq (q_sr (q_m hF rfl fun a hF=>q_y (v:=(.bool s1.p.isNone)) hF hS (ex_eqNil U48 rfl rfl) fun a hF=>q_end (n_sq ?_))))))
 rcases bcase (s1.p.isNone) with hc1 | hc1
 ·refine q_cond_f hF rfl hc1 (q_skipc (n_sq (q_sr (q_do rfl fun _ hK=>wp_build0 (α:=Int) hF hS U48 inf3 rfl fun a w q2 s2 hF hS h2 _=>hK _ _ (q_m hF rfl fun a hF=>?_)))))
  obtain ⟨l_3,hl_3,hr⟩:=bindS hr
  refine q_do rfl fun _ hK=>wp_append hF hS h2 U48 inf3 rfl rfl rfl rfl (h1.vw hS.vis) rfl (by decide) hl_3 rfl fun a w q4 s4 hF hS h4=>hK _ _ (q_s hF rfl fun a hF=>q_end (n_sq (q_ret ?_)))
  obtain rfl:=someI hr
  exact ret_of hF hS rfl (.tmp rfl .nil) ⟨q4,s4,rfl,hS.sel [0] (by decide),h4⟩
 ·have hnhc1:=h1.nilE hc1
  have hr : (some ([] : List Int)) = some r:=by rw [hnhc1] at hr; exact hr
  refine q_cond_t hF rfl hc1 (q_sr (q_s hF rfl fun a hF=>q_end (n_sq (q_ret (r_sq ?_)))))
  obtain rfl:=someI hr
  exact ret_of hF hS rfl (.tmp rfl .nil) ⟨[],nilS,rfl,hS.sel [0] (by decide),(OwnL.nil (α:=Int) m 3)⟩

theorem c_impl_copyMatrix (p_x : List (List Int)) (r : (List (List Int))) (hr : impl_copyMatrix p_x = some r) (w0 : World) (m : Mem) (hv : Vis m w0) (s1 : Sl) (h1 : Rd m s1 p_x) :
  Ret Tryz.prog 44 [s1.v] w0 (fun v w=>∃ (q0' : Piece) (s0' : Sl),v = s0'.v∧St [] w0 w m [q0']∧OwnD m 48 3 q0' s0' r∧NF s0' r):=by
 unfold impl_copyMatrix at hr
 refine ret_start Tryz.func44 rfl 23 rfl rfl m hv fun a hF hS=>q_sr (q_s hF rfl fun a hF=>q_end (n_sq (q_sr (q_m hF rfl fun a hF=>q_y (v:=(iV (goLen p_x))) hF hS (ex_len U23 rfl h1.len) fun a hF=>?_))))
 obtain ⟨l_2,hl_2,hr⟩:=bindS hr
 obtain ⟨u_4,hu_4,hr⟩:=bindS hr
 refine q_do rfl fun _ hK=>wp_makeD (Ei:=3) hF hS U23 inf48 rfl rfl rfl (by decide) hl_2 rfl fun a w q3 s3 hF hS h3 _=>hK _ _ (q_s hF rfl fun a hF=>q_end (n_sq (q_seq (q_sr (q_m hF rfl fun a hF=>q_y (v:=(iV (goLen p_x))) hF hS (ex_len U23 rfl h1.len) fun a hF=>q_m hF rfl fun a hF=>q_end (n_sq (q_block ?_)))))))
 obtain ⟨out_17,hl1,hr⟩:=bindS hr
 refine q_loop (fun (s : (List (List Int)) × Int) a w=>∃ (q6 : Piece),∃ out_5,∃ t_7,s = (out_5,t_7)∧Fr a 23 [(3,s3.v),(9,s1.v),(10,(iV (goLen p_x))),(11,(iV t_7))]∧St [] w0 w m [q6]∧OwnD m 48 3 q6 s3 out_5∧NF s3 out_5) (fun (out_17 : (List (List Int))) e a w=>∃ (q18 : Piece),e = .exit 0∧Fr a 23 [(3,s3.v)]∧St [] w0 w m [q18]∧OwnD m 48 3 q18 s3 out_17∧NF s3 out_17) hl1 ⟨q3,_,_,rfl,hF.sub ⟨rfl,rfl,rfl,rfl,trivial⟩,hS,h3,(NF.goNE hu_4)⟩ ?_ ?_
 ·clear hF hS
  rintro s a w st ⟨q6,out_5,t_7,rfl,hF,hS,h6,h6n⟩ hb1
  unfold impl_copyMatrix_l1 at hb1
  refine q_sr (q_y (v:=(.bool (decide (t_7 < (goLen p_x))))) hF hS (ex_ibin rfl rfl rfl) fun a hF=>q_end (n_sq (q_seq ?_)))
  rcases bcase (decide (t_7 < (goLen p_x))) with hc2 | hc2
  ·have hb1:=cond_f hc2 hb1
   refine q_cond_f hF rfl hc2 (q_exit (x_sq ?_))
   obtain rfl:=someI hb1
   exact ⟨nofun,.inl ⟨q6,rfl,hF.sub ⟨rfl,trivial⟩,hS,h6,h6n⟩⟩
  ·have hb1:=cond_t hc2 hb1
   refine q_cond_t hF rfl hc2 (q_skipc (n_sq (q_seq (q_block (q_sr (q_m hF rfl fun a hF=>?_))))))
   obtain ⟨e_8,he_8,hb1⟩:=bindS hb1
   obtain ⟨vs9,at9,d9⟩:=h1.at he_8 1 rfl
   obtain ⟨s10,rfl,h10⟩ : ∃ s10 : Sl,vs9 = [s10.v]∧Rd m s10 e_8:=d9
   refine q_y (v:=(elP s1 (t_7.toNat * 1))) hF hS (ex_indexAddr U23 sz48 rfl rfl (h1.idx he_8)) fun a hF=>q_y (v:=s10.v) hF hS (ex_loadE1 0 U48 rfl rfl ((at9).at) rfl rfl) fun a hF=>q_s hF rfl fun a hF=>q_s hF rfl fun a hF=>q_end (n_sq (q_region (q_m hF rfl fun a hF=>q_m hF rfl fun a hF=>q_m hF rfl fun a hF=>?_)))
   obtain ⟨t_11,ht_11,hb1⟩:=bindS hb1
   refine q_call (vs:=[s10.v]) hF hS Tryz.func72 (by kernel_rfl) rfl rfl rfl (c_slices_Clone_int_int e_8 t_11 ht_11 _ m hS.vis s10 h10) ?_
   rintro a w _ ⟨q13,s13,rfl,hR12,h13⟩ hF hS2
   have hS : St _ _ _ _ [q13,q6]:=hS.joinF hR12
   obtain ⟨e_14,he_14,hb1⟩:=bindS hb1
   obtain ⟨s15,hV15⟩:=h6.view he_14
   refine q_y (v:=(elP s3 (t_7.toNat * 1))) hF hS (ex_indexAddr U23 sz48 rfl rfl (h6.idx he_14)) fun a hF=>?_
   have hS : St _ _ _ _ [q6,q13]:=hS.sel [1,0] (by decide)
   refine q_do rfl fun _ hK=>wp_storeD hF hS h6 h13 sz48 rfl rfl he_14 rfl fun w q16 hS h16=>hK _ _ (q_end (n_ib (n_sq (q_region (q_y (v:=(iV (w64 (t_7 + 1)))) hF hS (ex_ibin rfl rfl rfl) fun a hF=>q_m hF rfl fun a hF=>q_end ?_)))))
   obtain rfl:=someI hb1
   exact ⟨rfl,q16,_,_,rfl,hF.sub ⟨rfl,rfl,rfl,rfl,trivial⟩,hS,h16,(NF.set h6n)⟩
 ·rintro e a w ⟨q18,rfl,hF,hS,h18,h18n⟩
  refine x_ib (n_sq ?_)
  refine q_sr (q_m hF rfl fun a hF=>q_s hF rfl fun a hF=>q_end (n_sq (q_ret ?_)))
  obtain rfl:=someI hr
  exact ret_of hF hS rfl (.tmp rfl .nil) ⟨q18,s3,rfl,hS.sel [0] (by decide),h18,h18n⟩

theorem c_impl_positions (p_p : List (List Int)) (r : (List (List Int))) (hr : impl_positions p_p = some r) (w0 : World) (m : Mem) (hv : Vis m w0) (s1 : Sl) (h1 : Rd m s1 p_p) :
  Ret Tryz.prog 40 [s1.v] w0 (fun v w=>∃ (m' : Mem) (q0' : Piece) (s0' : Sl),v = s0'.v∧MLe [] w0.heap.size m m'∧St [] w0 w m' [q0']∧OwnL m' 48 q0' s0' r):=by
 unfold impl_positions at hr
 refine ret_start Tryz.func40 rfl 33 rfl rfl m hv fun a hF hS=>q_sr (q_s hF rfl fun a hF=>q_end (n_sq (q_sr (q_s hF rfl fun a hF=>q_end (n_sq (q_seq (q_sr (q_m hF rfl fun a hF=>q_y (v:=(iV (goLen p_p))) hF hS (ex_len U23 rfl h1.len) fun a hF=>q_m hF rfl fun a hF=>q_end (n_sq (q_block ?_))))))))))
 obtain ⟨out_26,hl1,hr⟩:=bindS hr
 refine q_loop (fun (s : (List (List Int)) × Int) a w=>∃ (m5 : Mem),∃ (q3 : Piece),∃ (s3 : Sl),∃ out_2,∃ t_4,s = (out_2,t_4)∧Fr a 33 [(3,s3.v),(8,s1.v),(9,(iV (goLen p_p))),(10,(iV t_4))]∧St [] w0 w m5 [q3]∧MLe [] w0.heap.size m m5∧OwnL m5 48 q3 s3 out_2) (fun (out_26 : (List (List Int))) e a w=>∃ (m28 : Mem),∃ (q27 : Piece),∃ (s27 : Sl),e = .exit 0∧Fr a 33 [(3,s27.v)]∧St [] w0 w m28 [q27]∧MLe [] w0.heap.size m m28∧OwnL m28 48 q27 s27 out_26) hl1 ⟨m,[],nilS,_,_,rfl,hF.sub ⟨rfl,rfl,rfl,rfl,trivial⟩,hS.sel [0] (by decide),(MLe.refl _ _),(OwnL.nil (α:=List Int) m 48)⟩ ?_ ?_
 ·clear hF hS
  rintro s a w st ⟨m5,q3,s3,out_2,t_4,rfl,hF,hS,hm5,h3⟩ hb1
  unfold impl_positions_l1 at hb1
  refine q_sr (q_y (v:=(.bool (decide (t_4 < (goLen p_p))))) hF hS (ex_ibin rfl rfl rfl) fun a hF=>q_end (n_sq (q_seq ?_)))
  rcases bcase (decide (t_4 < (goLen p_p))) with hc2 | hc2
  ·have hb1:=cond_f hc2 hb1
   refine q_cond_f hF rfl hc2 (q_exit (x_sq ?_))
   obtain rfl:=someI hb1
   exact ⟨nofun,.inl ⟨m5,q3,s3,rfl,hF.sub ⟨rfl,trivial⟩,hS,hm5,h3⟩⟩
  ·have hb1:=cond_t hc2 hb1
   refine q_cond_t hF rfl hc2 (q_skipc (n_sq (q_seq (q_block (q_sr (q_m hF rfl fun a hF=>?_))))))
   obtain ⟨e_6,he_6,hb1⟩:=bindS hb1
   obtain ⟨vs7,at7,d7⟩:=h1.at he_6 1 rfl
   obtain ⟨s8,rfl,h8⟩ : ∃ s8 : Sl,vs7 = [s8.v]∧Rd m s8 e_6:=d7
   refine q_y (v:=(elP s1 (t_4.toNat * 1))) hF hS (ex_indexAddr U23 sz48 rfl rfl ((h1.mono hm5.le).idx he_6)) fun a hF=>q_y (v:=s8.v) hF hS (ex_loadE1 0 U48 rfl rfl (((at7.mono hm5.le)).at) rfl rfl) fun a hF=>q_s hF rfl fun a hF=>q_s hF rfl fun a hF=>q_end (n_sq (q_sr (q_m hF rfl fun a hF=>q_y (v:=(iV (goLen e_6))) hF hS (ex_len U48 rfl (h8.mono hm5.le).len) fun a hF=>q_m hF rfl fun a hF=>q_end (n_sq (q_block ?_)))))
   obtain ⟨out_23,hl3,hb1⟩:=bindS hb1
   refine q_loop (fun (s : (List (List Int)) × Int) a w=>∃ (m12 : Mem),∃ (q10 : Piece),∃ (s10 : Sl),∃ out_9,∃ t_11,s = (out_9,t_11)∧Fr a 33 [(3,s10.v),(4,(iV t_4)),(8,s1.v),(9,(iV (goLen p_p))),(10,(iV t_4)),(15,s8.v),(16,(iV (goLen e_6))),(17,(iV t_11))]∧St [] w0 w m12 [q10]∧MLe [] w0.heap.size m5 m12∧OwnL m12 48 q10 s10 out_9) (fun (out_23 : (List (List Int))) e a w=>∃ (m25 : Mem),∃ (q24 : Piece),∃ (s24 : Sl),e = .exit 2∧Fr a 33 [(3,s24.v),(8,s1.v),(9,(iV (goLen p_p))),(10,(iV t_4))]∧St [] w0 w m25 [q24]∧MLe [] w0.heap.size m5 m25∧OwnL m25 48 q24 s24 out_23) hl3 ⟨m5,q3,s3,_,_,rfl,hF.sub ⟨rfl,rfl,rfl,rfl,rfl,rfl,rfl,rfl,trivial⟩,hS,(MLe.refl _ _),h3⟩ ?_ ?_
   ·clear hF hS
    rintro s a w st ⟨m12,q10,s10,out_9,t_11,rfl,hF,hS,hm12,h10⟩ hb3
    unfold impl_positions_l2 at hb3
    refine q_sr (q_y (v:=(.bool (decide (t_11 < (goLen e_6))))) hF hS (ex_ibin rfl rfl rfl) fun a hF=>q_end (n_sq (q_seq ?_)))
    rcases bcase (decide (t_11 < (goLen e_6))) with hc4 | hc4
    ·have hb3:=cond_f hc4 hb3
     refine q_cond_f hF rfl hc4 (q_exit (x_sq ?_))
     obtain rfl:=someI hb3
     exact ⟨nofun,.inl ⟨m12,q10,s10,rfl,hF.sub ⟨rfl,rfl,rfl,rfl,trivial⟩,hS,hm12,h10⟩⟩
    ·have hb3:=cond_t hc4 hb3
     refine q_cond_t hF rfl hc4 (q_skipc (n_sq (q_seq (q_block (q_sr (q_m hF rfl fun a hF=>?_))))))
     obtain ⟨e_13,he_13,hb3⟩:=bindS hb3
     obtain ⟨vs14,at14,d14⟩:=h8.at he_13 1 rfl
     obtain rfl : vs14 = [(iV e_13)]:=d14
     refine q_y (v:=(elP s8 (t_11.toNat * 1))) hF hS (ex_indexAddr U48 sz3 rfl rfl (((h8.mono hm5.le).mono hm12.le).idx he_13)) fun a hF=>q_y (v:=(iV e_13)) hF hS (ex_loadE1 0 U3 rfl rfl ((((at14.mono hm5.le).mono hm12.le)).at) rfl rfl) fun a hF=>q_s hF rfl fun a hF=>q_s hF rfl fun a hF=>q_end (n_sq (q_sr (q_m hF rfl fun a hF=>q_y (v:=(.bool (e_13 == 1))) hF hS (ex_ibin rfl rfl rfl) fun a hF=>q_end (n_sq ?_))))
     obtain ⟨out_20,hj5,hb3⟩:=bindS hb3
     refine q_join (fun a w=>∃ (m22 : Mem),∃ (q21 : Piece),∃ (s21 : Sl),Fr a 33 [(3,s21.v),(4,(iV t_4)),(8,s1.v),(9,(iV (goLen p_p))),(10,(iV t_4)),(15,s8.v),(16,(iV (goLen e_6))),(17,(iV t_11))]∧St [] w0 w m22 [q21]∧MLe [] w0.heap.size m12 m22∧OwnL m22 48 q21 s21 out_20) ?_ ?_
     ·rcases bcase (e_13 == 1) with hc6 | hc6
      ·have hj5:=cond_f hc6 hj5
       refine q_cond_f hF rfl hc6 (q_skipc (n_jn ?_))
       obtain rfl:=someI hj5
       exact ⟨m12,q10,s10,hF.sub ⟨rfl,rfl,rfl,rfl,rfl,rfl,rfl,rfl,trivial⟩,hS,(MLe.refl _ _),h10⟩
      ·have hj5:=cond_t hc6 hj5
       refine q_cond_t hF rfl hc6 (q_region (q_m hF rfl fun a hF=>q_m hF rfl fun a hF=>q_m hF rfl fun a hF=>q_do rfl fun _ hK=>wp_buildSlice' (l:=([t_4,t_11] : List Int)) (cells:=[(iV t_4),(iV t_11)]) hF hS U48 inf3 rfl rfl (by kernel_rfl) rfl rfl rfl ⟨rfl,rfl,rfl⟩ rfl rfl fun a w q15 s15 hF hS h15 _=>hK _ _ ?_))
       obtain ⟨m17,hm17,hS,hz17⟩:=hS.freeze
       have h17:=h15.froz hm17.le hz17
       refine q_do rfl fun _ hK=>wp_buildSlice' (l:=([([t_4,t_11] : List Int)] : List (List Int))) (cells:=[s15.v]) hF hS U23 inf48 rfl rfl (by kernel_rfl) rfl rfl rfl ⟨⟨s15,rfl,h17⟩,rfl⟩ rfl rfl fun a w q16 s16 hF hS h16 _=>hK _ _ ?_
       have hS : St _ _ _ _ [q10,q16]:=hS.sel [1,0] (by decide)
       obtain ⟨l_18,hl_18,hj5⟩:=bindS hj5
       refine q_do rfl fun _ hK=>wp_append hF hS (h10.mono hm17.le) U23 inf48 rfl rfl rfl rfl (h16.vw hS (j:=1) rfl) rfl (by decide) hl_18 rfl fun a w q19 s19 hF hS h19=>hK _ _ (q_s hF rfl fun a hF=>q_end (n_jn ?_))
       obtain rfl:=someI hj5
       exact ⟨m17,q19,s19,hF.sub ⟨rfl,rfl,rfl,rfl,rfl,rfl,rfl,rfl,trivial⟩,hS.mask [true,false],hm17,h19⟩
     ·rintro a w ⟨m22,q21,s21,hF,hS,hm22,h21⟩
      refine n_ib (n_sq ?_)
      refine q_region (q_y (v:=(iV (w64 (t_11 + 1)))) hF hS (ex_ibin rfl rfl rfl) fun a hF=>q_m hF rfl fun a hF=>q_end ?_)
      obtain rfl:=someI hb3
      exact ⟨rfl,m22,q21,s21,_,_,rfl,hF.sub ⟨rfl,rfl,rfl,rfl,rfl,rfl,rfl,rfl,trivial⟩,hS,(hm12.trans hm22),h21⟩
   ·rintro e a w ⟨m25,q24,s24,rfl,hF,hS,hm25,h24⟩
    refine x_ib (n_ib (n_sq ?_))
    refine q_region (q_y (v:=(iV (w64 (t_4 + 1)))) hF hS (ex_ibin rfl rfl rfl) fun a hF=>q_m hF rfl fun a hF=>q_end ?_)
    obtain rfl:=someI hb1
    exact ⟨rfl,m25,q24,s24,_,_,rfl,hF.sub ⟨rfl,rfl,rfl,rfl,trivial⟩,hS,(hm5.trans hm25),h24⟩
 ·rintro e a w ⟨m28,q27,s27,rfl,hF,hS,hm28,h27⟩
  refine x_ib (n_sq ?_)
  refine q_sr (q_m hF rfl fun a hF=>q_s hF rfl fun a hF=>q_end (n_sq (q_ret ?_)))
  obtain rfl:=someI hr
  exact ret_of hF hS rfl (.tmp rfl .nil) ⟨m28,q27,s27,rfl,hm28,hS.sel [0] (by decide),h27⟩

theorem c_impl_freeCells (p_p : List (List Int)) (r : (List (List Int))) (hr : impl_freeCells p_p = some r) (w0 : World) (m : Mem) (hv : Vis m w0) (s1 : Sl) (h1 : Rd m s1 p_p) :
  Ret Tryz.prog 17 [s1.v] w0 (fun v w=>∃ (m' : Mem) (q0' : Piece) (s0' : Sl),v = s0'.v∧MLe [] w0.heap.size m m'∧St [] w0 w m' [q0']∧OwnL m' 48 q0' s0' r):=by
 unfold impl_freeCells at hr
 refine ret_start Tryz.func17 rfl 32 rfl rfl m hv fun a hF hS=>q_sr (q_s hF rfl fun a hF=>q_end (n_sq (q_sr (q_m hF rfl fun a hF=>?_))))
 obtain ⟨t_2,ht_2,hr⟩:=bindS hr
 refine q_call (vs:=[s1.v]) hF hS Tryz.func44 (by kernel_rfl) rfl rfl rfl (c_impl_copyMatrix p_p t_2 ht_2 _ m hS.vis s1 h1) ?_
 rintro a w _ ⟨q4,s4,rfl,hR3,h4,h4n⟩ hF hS2
 have hS : St _ _ _ _ [q4]:=hS.joinF hR3
 refine q_s hF rfl fun a hF=>q_end (n_sq (q_seq (q_sr (q_m hF rfl fun a hF=>q_y (v:=(iV (goLen t_2))) hF hS (ex_len U23 rfl h4.len) fun a hF=>q_m hF rfl fun a hF=>q_end (n_sq (q_block ?_))))))
 obtain ⟨inverse_22,hl1,hr⟩:=bindS hr
 refine q_loop (fun (s : (List (List Int)) × Int) a w=>∃ (q6 : Piece),∃ inverse_5,∃ t_7,s = (inverse_5,t_7)∧Fr a 32 [(3,s4.v),(9,s4.v),(10,(iV (goLen t_2))),(11,(iV t_7))]∧St [] w0 w m [q6]∧OwnD m 48 3 q6 s4 inverse_5) (fun (inverse_22 : (List (List Int))) e a w=>∃ (q23 : Piece),e = .exit 0∧Fr a 32 [(3,s4.v)]∧St [] w0 w m [q23]∧OwnD m 48 3 q23 s4 inverse_22) hl1 ⟨q4,_,_,rfl,hF.sub ⟨rfl,rfl,rfl,rfl,trivial⟩,hS,h4⟩ ?_ ?_
 ·clear hF hS
  rintro s a w st ⟨q6,inverse_5,t_7,rfl,hF,hS,h6⟩ hb1
  unfold impl_freeCells_l1 at hb1
  refine q_sr (q_y (v:=(.bool (decide (t_7 < (goLen t_2))))) hF hS (ex_ibin rfl rfl rfl) fun a hF=>q_end (n_sq (q_seq ?_)))
  rcases bcase (decide (t_7 < (goLen t_2))) with hc2 | hc2
  ·have hb1:=cond_f hc2 hb1
   refine q_cond_f hF rfl hc2 (q_exit (x_sq ?_))
   obtain rfl:=someI hb1
   exact ⟨nofun,.inl ⟨q6,rfl,hF.sub ⟨rfl,trivial⟩,hS,h6⟩⟩
  ·have hb1:=cond_t hc2 hb1
   refine q_cond_t hF rfl hc2 (q_skipc (n_sq (q_seq (q_block (q_seq (q_region ?_))))))
   obtain ⟨e_8,he_8,hb1⟩:=bindS hb1
   obtain ⟨s9,hV9⟩:=h6.view he_8
   refine q_y (v:=(elP s4 (t_7.toNat * 1))) hF hS (ex_indexAddr U23 sz48 rfl rfl (h6.idx he_8)) fun a hF=>q_y (v:=s9.v) hF hS (ex_loadE1 0 U48 rfl rfl ((hV9.atH he_8).at 0 rfl) rfl rfl) fun a hF=>q_s hF rfl fun a hF=>q_end (n_sq (q_sr (q_m hF rfl fun a hF=>q_y (v:=(iV (goLen e_8))) hF hS (ex_len U48 rfl (hV9.len he_8)) fun a hF=>q_m hF rfl fun a hF=>q_end (n_sq (q_block ?_)))))
   obtain ⟨inverse_20,hl3,hb1⟩:=bindS hb1
   refine q_loop (fun (s : (List (List Int)) × Int × (List Int)) a w=>∃ (q11 : Piece),∃ inverse_10,∃ t_12,∃ row_13,s = (inverse_10,t_12,row_13)∧Fr a 32 [(3,s4.v),(5,s9.v),(9,s4.v),(10,(iV (goLen t_2))),(11,(iV t_7)),(16,(iV (goLen e_8))),(17,(iV t_12))]∧St [] w0 w m [q11]∧OwnD m 48 3 q11 s4 inverse_10∧ViewD m 48 3 q11 s4 inverse_10 t_7 s9∧goAt inverse_10 t_7 = some row_13) (fun (inverse_20 : (List (List Int))) e a w=>∃ (q21 : Piece),e = .exit 2∧Fr a 32 [(3,s4.v),(9,s4.v),(10,(iV (goLen t_2))),(11,(iV t_7))]∧St [] w0 w m [q21]∧OwnD m 48 3 q21 s4 inverse_20) hl3 ⟨q6,_,_,_,rfl,hF.sub ⟨rfl,rfl,rfl,rfl,rfl,rfl,rfl,trivial⟩,hS,h6,hV9,he_8⟩ ?_ ?_
   ·clear hF hS
    rintro s a w st ⟨q11,inverse_10,t_12,row_13,rfl,hF,hS,h11,h14,h14x⟩ hb3
    unfold impl_freeCells_l2 at hb3
    refine q_sr (q_y (v:=(.bool (decide (t_12 < (goLen e_8))))) hF hS (ex_ibin rfl rfl rfl) fun a hF=>q_end (n_sq (q_seq ?_)))
    rcases bcase (decide (t_12 < (goLen e_8))) with hc4 | hc4
    ·have hb3:=cond_f hc4 hb3
     refine q_cond_f hF rfl hc4 (q_exit (x_sq ?_))
     obtain rfl:=someI hb3
     exact ⟨nofun,.inl ⟨q11,rfl,hF.sub ⟨rfl,rfl,rfl,rfl,trivial⟩,hS,h11⟩⟩
    ·have hb3:=cond_t hc4 hb3
     refine q_cond_t hF rfl hc4 (q_skipc (n_sq (q_seq (q_block (q_sr (q_m hF rfl fun a hF=>q_s hF rfl fun a hF=>q_end (n_sq (q_region (q_m hF rfl fun a hF=>q_m hF rfl fun a hF=>q_m hF rfl fun a hF=>q_m hF rfl fun a hF=>?_)))))))))
     obtain ⟨e_15,he_15,hb3⟩:=bindS hb3
     obtain ⟨vs16,at16,d16⟩:=h14.at h14x he_15 1 rfl
     obtain rfl : vs16 = [(iV e_15)]:=d16
     refine q_y (v:=(elP s9 (t_12.toNat * 1))) hF hS (ex_indexAddr U48 sz3 rfl rfl (h14.idx h14x he_15)) fun a hF=>q_y (v:=(iV e_15)) hF hS (ex_loadE1 0 U3 rfl rfl (at16.at 0 rfl) rfl rfl) fun a hF=>q_y (v:=(iV (w64 (1 - e_15)))) hF hS (ex_ibin rfl rfl rfl) fun a hF=>?_
     obtain ⟨e_17,he_17,hb3⟩:=bindS hb3
     obtain ⟨vs18,at18,d18⟩:=h14.at h14x he_17 1 rfl
     obtain rfl : vs18 = [(iV e_17)]:=d18
     refine q_y (v:=(elP s9 (t_12.toNat * 1))) hF hS (ex_indexAddr U48 sz3 rfl rfl (h14.idx h14x he_17)) fun a hF=>q_do rfl fun _ hK=>wp_storeV (e':=(w64 (1 - e_15))) (us:=[(iV (w64 (1 - e_15)))]) (vs:=[(iV e_17)]) 0 hF hS h14 h14x sz3 rfl rfl rfl rfl rfl rfl rfl he_17 at18 rfl rfl rfl fun w q19 hS h19=>hK _ _ (q_end (n_ib (n_sq (q_region (q_y (v:=(iV (w64 (t_12 + 1)))) hF hS (ex_ibin rfl rfl rfl) fun a hF=>q_m hF rfl fun a hF=>q_end ?_)))))
     obtain rfl:=someI hb3
     exact ⟨rfl,q19,_,_,_,rfl,hF.sub ⟨rfl,rfl,rfl,rfl,rfl,rfl,rfl,trivial⟩,hS,h19.own,h19,(goAt_goSet h14x)⟩
   ·rintro e a w ⟨q21,rfl,hF,hS,h21⟩
    refine x_ib (n_ib (n_sq ?_))
    refine q_region (q_y (v:=(iV (w64 (t_7 + 1)))) hF hS (ex_ibin rfl rfl rfl) fun a hF=>q_m hF rfl fun a hF=>q_end ?_)
    obtain rfl:=someI hb1
    exact ⟨rfl,q21,_,_,rfl,hF.sub ⟨rfl,rfl,rfl,rfl,trivial⟩,hS,h21⟩
 ·rintro e a w ⟨q23,rfl,hF,hS,h23⟩
  refine x_ib (n_sq ?_)
  refine q_sr (q_m hF rfl fun a hF=>?_)
  obtain ⟨m24,hm24,hS,hz24⟩:=hS.freeze
  have h24:=h23.froz hm24.le hz24
  obtain ⟨t_25,ht_25,hr⟩:=bindS hr
  refine q_call (vs:=[s4.v]) hF hS Tryz.func40 (by kernel_rfl) rfl rfl rfl (c_impl_positions inverse_22 t_25 ht_25 _ m24 hS.vis s4 h24) ?_
  have hT:=hS
  rintro a w _ ⟨m26,q27,s27,rfl,hm26,hR26,h27⟩ hF hS2
  have hS : St _ _ _ _ [q27]:=hS.join hR26 hm26
  have hm26:=MLe.weakX (O0:=[]) hT hm26
  refine q_s hF rfl fun a hF=>q_end (n_sq (q_ret ?_))
  obtain rfl:=someI hr
  exact ret_of hF hS rfl (.tmp rfl .nil) ⟨m26,q27,s27,rfl,(hm24.trans hm26),hS.sel [0] (by decide),h27⟩

theorem c_impl_with (p_p : List (List Int)) (p_cells : List (List Int)) (r : (List (List Int))) (hr : impl_with p_p p_cells = some r) (w0 : World) (m : Mem) (hv : Vis m w0) (s1 : Sl) (h1 : Rd m s1 p_p) (s2 : Sl) (h2 : Rd m s2 p_cells) :
  Ret Tryz.prog 19 [s1.v,s2.v] w0 (fun v w=>∃ (q0' : Piece) (s0' : Sl),v = s0'.v∧St [] w0 w m [q0']∧OwnD m 48 3 q0' s0' r):=by
 unfold impl_with at hr
 refine ret_start Tryz.func19 rfl 28 rfl rfl m hv fun a hF hS=>q_sr (q_s hF rfl fun a hF=>q_end (n_sq (q_sr (q_m hF rfl fun a hF=>?_))))
 obtain ⟨t_3,ht_3,hr⟩:=bindS hr
 refine q_call (vs:=[s1.v]) hF hS Tryz.func44 (by kernel_rfl) rfl rfl rfl (c_impl_copyMatrix p_p t_3 ht_3 _ m hS.vis s1 h1) ?_
 rintro a w _ ⟨q5,s5,rfl,hR4,h5,h5n⟩ hF hS2
 have hS : St _ _ _ _ [q5]:=hS.joinF hR4
 refine q_s hF rfl fun a hF=>q_end (n_sq (q_seq (q_sr (q_m hF rfl fun a hF=>q_y (v:=(iV (goLen p_cells))) hF hS (ex_len U23 rfl h2.len) fun a hF=>q_m hF rfl fun a hF=>q_end (n_sq (q_block ?_))))))
 obtain ⟨out_21,hl1,hr⟩:=bindS hr
 refine q_loop (fun (s : (List (List Int)) × Int) a w=>∃ (q7 : Piece),∃ out_6,∃ t_8,s = (out_6,t_8)∧Fr a 28 [(5,s5.v),(10,s2.v),(11,(iV (goLen p_cells))),(12,(iV t_8))]∧St [] w0 w m [q7]∧OwnD m 48 3 q7 s5 out_6) (fun (out_21 : (List (List Int))) e a w=>∃ (q22 : Piece),e = .exit 0∧Fr a 28 [(5,s5.v)]∧St [] w0 w m [q22]∧OwnD m 48 3 q22 s5 out_21) hl1 ⟨q5,_,_,rfl,hF.sub ⟨rfl,rfl,rfl,rfl,trivial⟩,hS,h5⟩ ?_ ?_
 ·clear hF hS
  rintro s a w st ⟨q7,out_6,t_8,rfl,hF,hS,h7⟩ hb1
  unfold impl_with_l1 at hb1
  refine q_sr (q_y (v:=(.bool (decide (t_8 < (goLen p_cells))))) hF hS (ex_ibin rfl rfl rfl) fun a hF=>q_end (n_sq (q_seq ?_)))
  rcases bcase (decide (t_8 < (goLen p_cells))) with hc2 | hc2
  ·have hb1:=cond_f hc2 hb1
   refine q_cond_f hF rfl hc2 (q_exit (x_sq ?_))
   obtain rfl:=someI hb1
   exact ⟨nofun,.inl ⟨q7,rfl,hF.sub ⟨rfl,trivial⟩,hS,h7⟩⟩
  ·have hb1:=cond_t hc2 hb1
   refine q_cond_t hF rfl hc2 (q_skipc (n_sq (q_seq (q_block (q_seq (q_region ?_))))))
   obtain ⟨e_9,he_9,hb1⟩:=bindS hb1
   obtain ⟨vs10,at10,d10⟩:=h2.at he_9 1 rfl
   obtain ⟨s11,rfl,h11⟩ : ∃ s11 : Sl,vs10 = [s11.v]∧Rd m s11 e_9:=d10
   refine q_y (v:=(elP s2 (t_8.toNat * 1))) hF hS (ex_indexAddr U23 sz48 rfl rfl (h2.idx he_9)) fun a hF=>q_y (v:=s11.v) hF hS (ex_loadE1 0 U48 rfl rfl ((at10).at) rfl rfl) fun a hF=>q_s hF rfl fun a hF=>q_end (n_sq (e_region ⟨[10],[],m⟩ mixed fun w' hw'=>?_))
   have hS:=hS.below hw'
   refine e_P (v:=s5.v) 0 hF rfl (ex_move rfl) fun a hF=>e_P (v:=s11.v) 1 hF rfl (ex_move rfl) fun a hF=>?_
   obtain ⟨e_12,he_12,hb1⟩:=bindS hb1
   obtain ⟨vs13,at13,d13⟩:=h11.at he_12 1 rfl
   obtain rfl : vs13 = [(iV e_12)]:=d13
   refine e_P (v:=(elP s11 ((0 : Int).toNat * 1))) 2 hF rfl (ex_indexAddr U48 sz3 rfl rfl (h11.idx he_12)) fun a hF=>e_xm (v:=(iV e_12)) 3 hF hS (Mem.le.refl _) rfl (ex_loadE1 0 U3 rfl rfl ((at13).at) rfl rfl) rfl rfl (by kernel_rfl) (by kernel_rfl) (by kernel_rfl) fun a hF=>?_
   obtain ⟨e_14,he_14,hb1⟩:=bindS hb1
   obtain ⟨s15,hV15⟩:=h7.view he_14
   refine e_P (v:=(elP s5 (e_12.toNat * 1))) 4 hF rfl (ex_indexAddr U23 sz48 rfl rfl (h7.idx he_14)) fun a hF=>e_X (v:=s15.v) 5 hF hS rfl (ex_loadE1 0 U48 rfl rfl ((hV15.atH he_14).at 0 rfl) rfl rfl) fun a hF=>e_P (v:=s11.v) 6 hF rfl (ex_move rfl) fun a hF=>?_
   obtain ⟨e_16,he_16,hb1⟩:=bindS hb1
   obtain ⟨vs17,at17,d17⟩:=h11.at he_16 1 rfl
   obtain rfl : vs17 = [(iV e_16)]:=d17
   refine e_P (v:=(elP s11 ((1 : Int).toNat * 1))) 7 hF rfl (ex_indexAddr U48 sz3 rfl rfl (h11.idx he_16)) fun a hF=>e_xm (v:=(iV e_16)) 8 hF hS (Mem.le.refl _) rfl (ex_loadE1 0 U3 rfl rfl ((at17).at) rfl rfl) rfl rfl (by kernel_rfl) (by kernel_rfl) (by kernel_rfl) fun a hF=>?_
   obtain ⟨e_18,he_18,hb1⟩:=bindS hb1
   obtain ⟨vs19,at19,d19⟩:=hV15.at he_14 he_18 1 rfl
   obtain rfl : vs19 = [(iV e_18)]:=d19
   refine e_P (v:=(elP s15 (e_16.toNat * 1))) 9 hF rfl (ex_indexAddr U48 sz3 rfl rfl (hV15.idx he_14 he_18)) fun a hF=>e_one 10 (by kernel_rfl) (e_opl rfl rfl rfl fun _ hK=>wp_storeV (e':=1) (us:=[(iV 1)]) (vs:=[(iV e_18)]) 0 hF hS hV15 he_14 sz3 rfl rfl rfl rfl rfl rfl rfl he_18 at19 rfl rfl rfl fun w q20 hS h20=>hK _ _ (⟨⟨kpN,fun _=>hS.vis.of_le (Mem.le.refl _)⟩,?_⟩))
   refine e_end (by kernel_rfl) (n_ib (n_sq ?_)) _
   refine q_region (q_y (v:=(iV (w64 (t_8 + 1)))) hF hS (ex_ibin rfl rfl rfl) fun a hF=>q_m hF rfl fun a hF=>q_end ?_)
   obtain rfl:=someI hb1
   exact ⟨rfl,q20,_,_,rfl,hF.sub ⟨rfl,rfl,rfl,rfl,trivial⟩,hS,h20.own⟩
 ·rintro e a w ⟨q22,rfl,hF,hS,h22⟩
  refine x_ib (n_sq ?_)
  refine q_sr (q_m hF rfl fun a hF=>q_s hF rfl fun a hF=>q_end (n_sq (q_ret ?_)))
  obtain rfl:=someI hr
  exact ret_of hF hS rfl (.tmp rfl .nil) ⟨q22,s5,rfl,hS.sel [0] (by decide),h22⟩

theorem c_impl_rowSums (p_x : List (List Int)) (r : (List Int)) (hr : impl_rowSums p_x = some r) (w0 : World) (m : Mem) (hv : Vis m w0) (s1 : Sl) (h1 : Rd m s1 p_x) :
  Ret Tryz.prog 74 [s1.v] w0 (fun v w=>∃ (q0' : Piece) (s0' : Sl),v = s0'.v∧St [] w0 w m [q0']∧OwnL m 3 q0' s0' r):=by
 unfold impl_rowSums at hr
 refine ret_start Tryz.func74 rfl 34 rfl rfl m hv fun a hF hS=>q_sr (q_s hF rfl fun a hF=>q_end (n_sq (q_sr (q_m hF rfl fun a hF=>q_y (v:=(iV (goLen p_x))) hF hS (ex_len U23 rfl h1.len) fun a hF=>?_))))
 obtain ⟨l_2,hl_2,hr⟩:=bindS hr
 refine q_do rfl fun _ hK=>wp_make (z:=(0 : Int)) hF hS U48 inf3 rfl rfl rfl rfl rfl (by decide) hl_2 rfl fun a w q3 s3 hF hS h3 _=>hK _ _ (q_s hF rfl fun a hF=>q_end (n_sq (q_seq (q_sr (q_m hF rfl fun a hF=>q_y (v:=(iV (goLen p_x))) hF hS (ex_len U23 rfl h1.len) fun a hF=>q_m hF rfl fun a hF=>q_end (n_sq (q_block ?_)))))))
 obtain ⟨sums_22,hl1,hr⟩:=bindS hr
 refine q_loop (fun (s : (List Int) × Int) a w=>∃ (q5 : Piece),∃ sums_4,∃ t_6,s = (sums_4,t_6)∧Fr a 34 [(3,s3.v),(11,s1.v),(12,(iV (goLen p_x))),(13,(iV t_6))]∧St [] w0 w m [q5]∧OwnL m 3 q5 s3 sums_4) (fun (sums_22 : (List Int)) e a w=>∃ (q23 : Piece),e = .exit 0∧Fr a 34 [(3,s3.v)]∧St [] w0 w m [q23]∧OwnL m 3 q23 s3 sums_22) hl1 ⟨q3,_,_,rfl,hF.sub ⟨rfl,rfl,rfl,rfl,trivial⟩,hS,h3⟩ ?_ ?_
 ·clear hF hS
  rintro s a w st ⟨q5,sums_4,t_6,rfl,hF,hS,h5⟩ hb1
  unfold impl_rowSums_l1 at hb1
  refine q_sr (q_y (v:=(.bool (decide (t_6 < (goLen p_x))))) hF hS (ex_ibin rfl rfl rfl) fun a hF=>q_end (n_sq (q_seq ?_)))
  rcases bcase (decide (t_6 < (goLen p_x))) with hc2 | hc2
  ·have hb1:=cond_f hc2 hb1
   refine q_cond_f hF rfl hc2 (q_exit (x_sq ?_))
   obtain rfl:=someI hb1
   exact ⟨nofun,.inl ⟨q5,rfl,hF.sub ⟨rfl,trivial⟩,hS,h5⟩⟩
  ·have hb1:=cond_t hc2 hb1
   refine q_cond_t hF rfl hc2 (q_skipc (n_sq (q_seq (q_block (q_sr (q_m hF rfl fun a hF=>?_))))))
   obtain ⟨e_7,he_7,hb1⟩:=bindS hb1
   obtain ⟨vs8,at8,d8⟩:=h1.at he_7 1 rfl
   obtain ⟨s9,rfl,h9⟩ : ∃ s9 : Sl,vs8 = [s9.v]∧Rd m s9 e_7:=d8
   refine q_y (v:=(elP s1 (t_6.toNat * 1))) hF hS (ex_indexAddr U23 sz48 rfl rfl (h1.idx he_7)) fun a hF=>q_y (v:=s9.v) hF hS (ex_loadE1 0 U48 rfl rfl ((at8).at) rfl rfl) fun a hF=>q_s hF rfl fun a hF=>q_s hF rfl fun a hF=>q_end (n_sq (q_sr (q_m hF rfl fun a hF=>q_y (v:=(iV (goLen e_7))) hF hS (ex_len U48 rfl h9.len) fun a hF=>q_m hF rfl fun a hF=>q_end (n_sq (q_block ?_)))))
   obtain ⟨sums_20,hl3,hb1⟩:=bindS hb1
   refine q_loop (fun (s : (List Int) × Int) a w=>∃ (q11 : Piece),∃ sums_10,∃ t_12,s = (sums_10,t_12)∧Fr a 34 [(3,s3.v),(4,(iV t_6)),(11,s1.v),(12,(iV (goLen p_x))),(13,(iV t_6)),(18,s9.v),(19,(iV (goLen e_7))),(20,(iV t_12))]∧St [] w0 w m [q11]∧OwnL m 3 q11 s3 sums_10) (fun (sums_20 : (List Int)) e a w=>∃ (q21 : Piece),e = .exit 2∧Fr a 34 [(3,s3.v),(11,s1.v),(12,(iV (goLen p_x))),(13,(iV t_6))]∧St [] w0 w m [q21]∧OwnL m 3 q21 s3 sums_20) hl3 ⟨q5,_,_,rfl,hF.sub ⟨rfl,rfl,rfl,rfl,rfl,rfl,rfl,rfl,trivial⟩,hS,h5⟩ ?_ ?_
   ·clear hF hS
    rintro s a w st ⟨q11,sums_10,t_12,rfl,hF,hS,h11⟩ hb3
    unfold impl_rowSums_l2 at hb3
    refine q_sr (q_y (v:=(.bool (decide (t_12 < (goLen e_7))))) hF hS (ex_ibin rfl rfl rfl) fun a hF=>q_end (n_sq (q_seq ?_)))
    rcases bcase (decide (t_12 < (goLen e_7))) with hc4 | hc4
    ·have hb3:=cond_f hc4 hb3
     refine q_cond_f hF rfl hc4 (q_exit (x_sq ?_))
     obtain rfl:=someI hb3
     exact ⟨nofun,.inl ⟨q11,rfl,hF.sub ⟨rfl,rfl,rfl,rfl,trivial⟩,hS,h11⟩⟩
    ·have hb3:=cond_t hc4 hb3
     refine q_cond_t hF rfl hc4 (q_skipc (n_sq (q_seq (q_block (q_seq (q_region ?_))))))
     obtain ⟨e_13,he_13,hb3⟩:=bindS hb3
     obtain ⟨vs14,at14,d14⟩:=h9.at he_13 1 rfl
     obtain rfl : vs14 = [(iV e_13)]:=d14
     refine q_y (v:=(elP s9 (t_12.toNat * 1))) hF hS (ex_indexAddr U48 sz3 rfl rfl (h9.idx he_13)) fun a hF=>q_y (v:=(iV e_13)) hF hS (ex_loadE1 0 U3 rfl rfl ((at14).at) rfl rfl) fun a hF=>q_s hF rfl fun a hF=>q_end (n_sq (q_region (q_m hF rfl fun a hF=>q_m hF rfl fun a hF=>?_)))
     obtain ⟨e_15,he_15,hb3⟩:=bindS hb3
     obtain ⟨vs16,at16,d16⟩:=h11.at he_15 1 rfl
     obtain rfl : vs16 = [(iV e_15)]:=d16
     refine q_y (v:=(elP s3 (t_6.toNat * 1))) hF hS (ex_indexAddr U48 sz3 rfl rfl (h11.idx he_15)) fun a hF=>q_y (v:=(iV e_15)) hF hS (ex_loadE1 0 U3 rfl rfl (at16.at 0 rfl) rfl rfl) fun a hF=>q_m hF rfl fun a hF=>q_y (v:=(iV (w64 (e_15 + e_13)))) hF hS (ex_ibin rfl rfl rfl) fun a hF=>?_
     obtain ⟨e_17,he_17,hb3⟩:=bindS hb3
     obtain ⟨vs18,at18,d18⟩:=h11.at he_17 1 rfl
     obtain rfl : vs18 = [(iV e_17)]:=d18
     refine q_y (v:=(elP s3 (t_6.toNat * 1))) hF hS (ex_indexAddr U48 sz3 rfl rfl (h11.idx he_17)) fun a hF=>q_do rfl fun _ hK=>wp_storeE (e':=(w64 (e_15 + e_13))) (us:=[(iV (w64 (e_15 + e_13)))]) (vs:=[(iV e_17)]) 0 hF hS h11 sz3 rfl rfl rfl rfl rfl rfl rfl he_17 at18 rfl rfl rfl fun w q19 hS h19=>hK _ _ (q_end (n_ib (n_sq (q_region (q_y (v:=(iV (w64 (t_12 + 1)))) hF hS (ex_ibin rfl rfl rfl) fun a hF=>q_m hF rfl fun a hF=>q_end ?_)))))
     obtain rfl:=someI hb3
     exact ⟨rfl,q19,_,_,rfl,hF.sub ⟨rfl,rfl,rfl,rfl,rfl,rfl,rfl,rfl,trivial⟩,hS,h19⟩
   ·rintro e a w ⟨q21,rfl,hF,hS,h21⟩
    refine x_ib (n_ib (n_sq ?_))
    refine q_region (q_y (v:=(iV (w64 (t_6 + 1)))) hF hS (ex_ibin rfl rfl rfl) fun a hF=>q_m hF rfl fun a hF=>q_end ?_)
    obtain rfl:=someI hb1
    exact ⟨rfl,q21,_,_,rfl,hF.sub ⟨rfl,rfl,rfl,rfl,trivial⟩,hS,h21⟩
 ·rintro e a w ⟨q23,rfl,hF,hS,h23⟩
  refine x_ib (n_sq ?_)
  refine q_sr (q_m hF rfl fun a hF=>q_s hF rfl fun a hF=>q_end (n_sq (q_ret ?_)))
  obtain rfl:=someI hr
  exact ret_of hF hS rfl (.tmp rfl .nil) ⟨q23,s3,rfl,hS.sel [0] (by decide),h23⟩

theorem c_impl_colSums (p_x : List (List Int)) (r : (List Int)) (hr : impl_colSums p_x = some r) (w0 : World) (m : Mem) (hv : Vis m w0) (s1 : Sl) (h1 : Rd m s1 p_x) :
  Ret Tryz.prog 75 [s1.v] w0 (fun v w=>∃ (q0' : Piece) (s0' : Sl),v = s0'.v∧St [] w0 w m [q0']∧OwnL m 3 q0' s0' r):=by
 unfold impl_colSums at hr
 refine ret_start Tryz.func75 rfl 36 rfl rfl m hv fun a hF hS=>q_sr (q_s hF rfl fun a hF=>q_end (n_sq (q_sr (q_m hF rfl fun a hF=>?_))))
 obtain ⟨e_2,he_2,hr⟩:=bindS hr
 obtain ⟨vs3,at3,d3⟩:=h1.at he_2 1 rfl
 obtain ⟨s4,rfl,h4⟩ : ∃ s4 : Sl,vs3 = [s4.v]∧Rd m s4 e_2:=d3
 refine q_y (v:=(elP s1 ((0 : Int).toNat * 1))) hF hS (ex_indexAddr U23 sz48 rfl rfl (h1.idx he_2)) fun a hF=>q_y (v:=s4.v) hF hS (ex_loadE1 0 U48 rfl rfl ((at3).at) rfl rfl) fun a hF=>q_y (v:=(iV (goLen e_2))) hF hS (ex_len U48 rfl h4.len) fun a hF=>?_
 obtain ⟨l_5,hl_5,hr⟩:=bindS hr
 refine q_do rfl fun _ hK=>wp_make (z:=(0 : Int)) hF hS U48 inf3 rfl rfl rfl rfl rfl (by decide) hl_5 rfl fun a w q6 s6 hF hS h6 _=>hK _ _ (q_s hF rfl fun a hF=>q_end (n_sq (q_seq (q_sr (q_m hF rfl fun a hF=>q_y (v:=(iV (goLen p_x))) hF hS (ex_len U23 rfl h1.len) fun a hF=>q_m hF rfl fun a hF=>q_end (n_sq (q_block ?_)))))))
 obtain ⟨sums_25,hl1,hr⟩:=bindS hr
 refine q_loop (fun (s : (List Int) × Int) a w=>∃ (q8 : Piece),∃ sums_7,∃ t_9,s = (sums_7,t_9)∧Fr a 36 [(3,s6.v),(13,s1.v),(14,(iV (goLen p_x))),(15,(iV t_9))]∧St [] w0 w m [q8]∧OwnL m 3 q8 s6 sums_7) (fun (sums_25 : (List Int)) e a w=>∃ (q26 : Piece),e = .exit 0∧Fr a 36 [(3,s6.v)]∧St [] w0 w m [q26]∧OwnL m 3 q26 s6 sums_25) hl1 ⟨q6,_,_,rfl,hF.sub ⟨rfl,rfl,rfl,rfl,trivial⟩,hS,h6⟩ ?_ ?_
 ·clear hF hS
  rintro s a w st ⟨q8,sums_7,t_9,rfl,hF,hS,h8⟩ hb1
  unfold impl_colSums_l1 at hb1
  refine q_sr (q_y (v:=(.bool (decide (t_9 < (goLen p_x))))) hF hS (ex_ibin rfl rfl rfl) fun a hF=>q_end (n_sq (q_seq ?_)))
  rcases bcase (decide (t_9 < (goLen p_x))) with hc2 | hc2
  ·have hb1:=cond_f hc2 hb1
   refine q_cond_f hF rfl hc2 (q_exit (x_sq ?_))
   obtain rfl:=someI hb1
   exact ⟨nofun,.inl ⟨q8,rfl,hF.sub ⟨rfl,trivial⟩,hS,h8⟩⟩
  ·have hb1:=cond_t hc2 hb1
   refine q_cond_t hF rfl hc2 (q_skipc (n_sq (q_seq (q_block (q_seq (q_region ?_))))))
   obtain ⟨e_10,he_10,hb1⟩:=bindS hb1
   obtain ⟨vs11,at11,d11⟩:=h1.at he_10 1 rfl
   obtain ⟨s12,rfl,h12⟩ : ∃ s12 : Sl,vs11 = [s12.v]∧Rd m s12 e_10:=d11
   refine q_y (v:=(elP s1 (t_9.toNat * 1))) hF hS (ex_indexAddr U23 sz48 rfl rfl (h1.idx he_10)) fun a hF=>q_y (v:=s12.v) hF hS (ex_loadE1 0 U48 rfl rfl ((at11).at) rfl rfl) fun a hF=>q_s hF rfl fun a hF=>q_end (n_sq (q_sr (q_m hF rfl fun a hF=>q_y (v:=(iV (goLen e_10))) hF hS (ex_len U48 rfl h12.len) fun a hF=>q_m hF rfl fun a hF=>q_end (n_sq (q_block ?_)))))
   obtain ⟨sums_23,hl3,hb1⟩:=bindS hb1
   refine q_loop (fun (s : (List Int) × Int) a w=>∃ (q14 : Piece),∃ sums_13,∃ t_15,s = (sums_13,t_15)∧Fr a 36 [(3,s6.v),(13,s1.v),(14,(iV (goLen p_x))),(15,(iV t_9)),(19,s12.v),(20,(iV (goLen e_10))),(21,(iV t_15))]∧St [] w0 w m [q14]∧OwnL m 3 q14 s6 sums_13) (fun (sums_23 : (List Int)) e a w=>∃ (q24 : Piece),e = .exit 2∧Fr a 36 [(3,s6.v),(13,s1.v),(14,(iV (goLen p_x))),(15,(iV t_9))]∧St [] w0 w m [q24]∧OwnL m 3 q24 s6 sums_23) hl3 ⟨q8,_,_,rfl,hF.sub ⟨rfl,rfl,rfl,rfl,rfl,rfl,rfl,trivial⟩,hS,h8⟩ ?_ ?_
   ·clear hF hS
    rintro s a w st ⟨q14,sums_13,t_15,rfl,hF,hS,h14⟩ hb3
    unfold impl_colSums_l2 at hb3
    refine q_sr (q_y (v:=(.bool (decide (t_15 < (goLen e_10))))) hF hS (ex_ibin rfl rfl rfl) fun a hF=>q_end (n_sq (q_seq ?_)))
    rcases bcase (decide (t_15 < (goLen e_10))) with hc4 | hc4
    ·have hb3:=cond_f hc4 hb3
     refine q_cond_f hF rfl hc4 (q_exit (x_sq ?_))
     obtain rfl:=someI hb3
     exact ⟨nofun,.inl ⟨q14,rfl,hF.sub ⟨rfl,rfl,rfl,rfl,trivial⟩,hS,h14⟩⟩
    ·have hb3:=cond_t hc4 hb3
     refine q_cond_t hF rfl hc4 (q_skipc (n_sq (q_seq (q_block (q_sr (q_m hF rfl fun a hF=>?_))))))
     obtain ⟨e_16,he_16,hb3⟩:=bindS hb3
     obtain ⟨vs17,at17,d17⟩:=h12.at he_16 1 rfl
     obtain rfl : vs17 = [(iV e_16)]:=d17
     refine q_y (v:=(elP s12 (t_15.toNat * 1))) hF hS (ex_indexAddr U48 sz3 rfl rfl (h12.idx he_16)) fun a hF=>q_y (v:=(iV e_16)) hF hS (ex_loadE1 0 U3 rfl rfl ((at17).at) rfl rfl) fun a hF=>q_s hF rfl fun a hF=>q_s hF rfl fun a hF=>q_end (n_sq (q_region (q_m hF rfl fun a hF=>q_m hF rfl fun a hF=>?_)))
     obtain ⟨e_18,he_18,hb3⟩:=bindS hb3
     obtain ⟨vs19,at19,d19⟩:=h14.at he_18 1 rfl
     obtain rfl : vs19 = [(iV e_18)]:=d19
     refine q_y (v:=(elP s6 (t_15.toNat * 1))) hF hS (ex_indexAddr U48 sz3 rfl rfl (h14.idx he_18)) fun a hF=>q_y (v:=(iV e_18)) hF hS (ex_loadE1 0 U3 rfl rfl (at19.at 0 rfl) rfl rfl) fun a hF=>q_m hF rfl fun a hF=>q_y (v:=(iV (w64 (e_18 + e_16)))) hF hS (ex_ibin rfl rfl rfl) fun a hF=>?_
     obtain ⟨e_20,he_20,hb3⟩:=bindS hb3
     obtain ⟨vs21,at21,d21⟩:=h14.at he_20 1 rfl
     obtain rfl : vs21 = [(iV e_20)]:=d21
     refine q_y (v:=(elP s6 (t_15.toNat * 1))) hF hS (ex_indexAddr U48 sz3 rfl rfl (h14.idx he_20)) fun a hF=>q_do rfl fun _ hK=>wp_storeE (e':=(w64 (e_18 + e_16))) (us:=[(iV (w64 (e_18 + e_16)))]) (vs:=[(iV e_20)]) 0 hF hS h14 sz3 rfl rfl rfl rfl rfl rfl rfl he_20 at21 rfl rfl rfl fun w q22 hS h22=>hK _ _ (q_end (n_ib (n_sq (q_region (q_y (v:=(iV (w64 (t_15 + 1)))) hF hS (ex_ibin rfl rfl rfl) fun a hF=>q_m hF rfl fun a hF=>q_end ?_)))))
     obtain rfl:=someI hb3
     exact ⟨rfl,q22,_,_,rfl,hF.sub ⟨rfl,rfl,rfl,rfl,rfl,rfl,rfl,trivial⟩,hS,h22⟩
   ·rintro e a w ⟨q24,rfl,hF,hS,h24⟩
    refine x_ib (n_ib (n_sq ?_))
    refine q_region (q_y (v:=(iV (w64 (t_9 + 1)))) hF hS (ex_ibin rfl rfl rfl) fun a hF=>q_m hF rfl fun a hF=>q_end ?_)
    obtain rfl:=someI hb1
    exact ⟨rfl,q24,_,_,rfl,hF.sub ⟨rfl,rfl,rfl,rfl,trivial⟩,hS,h24⟩
 ·rintro e a w ⟨q26,rfl,hF,hS,h26⟩
  refine x_ib (n_sq ?_)
  refine q_sr (q_m hF rfl fun a hF=>q_s hF rfl fun a hF=>q_end (n_sq (q_ret ?_)))
  obtain rfl:=someI hr
  exact ret_of hF hS rfl (.tmp rfl .nil) ⟨q26,s6,rfl,hS.sel [0] (by decide),h26⟩

theorem c_impl_attackNetwork (p_x : List (List Int)) (p_p : List (List Int)) (r : impl_Transport) (hr : impl_attackNetwork p_x p_p = some r) (w0 : World) (m : Mem) (hv : Vis m w0) (s1 : Sl) (h1 : Rd m s1 p_x) (s2 : Sl) (h2 : Rd m s2 p_p) :
  Ret Tryz.prog 56 [s1.v,s2.v] w0 (fun v w=>∃ (q0' : Piece) (q1' : Piece) (q2' : Piece) (q3' : Piece) (s0' : Sl) (s1' : Sl) (s2' : Sl) (s3' : Sl),v = (.agg #[s0'.v,s1'.v,s2'.v,s3'.v])∧St [] w0 w m [q0',q1',q2',q3']∧OwnL m 3 q0' s0' r.Rows∧OwnL m 3 q1' s1' r.Cols∧OwnD m 48 3 q2' s2' r.Lo∧OwnD m 48 3 q3' s3' r.Hi):=by
 unfold impl_attackNetwork at hr
 refine ret_start Tryz.func56 rfl 52 rfl rfl m hv fun a hF hS=>q_sr (q_alloc (cs:=[nilS.v,nilS.v,nilS.v,nilS.v]) hF hS rfl rfl rfl fun a w b3 hF hS=>q_end (n_sq (q_sr (q_m hF rfl fun a hF=>?_))))
 obtain ⟨t_4,ht_4,hr⟩:=bindS hr
 refine q_call (vs:=[s1.v]) hF hS Tryz.func74 (by kernel_rfl) rfl rfl rfl (c_impl_rowSums p_x t_4 ht_4 _ m hS.vis s1 h1) ?_
 rintro a w _ ⟨q6,s6,rfl,hR5,h6⟩ hF hS2
 have hS : St _ _ _ _ [q6,[⟨b3,[nilS.v,nilS.v,nilS.v,nilS.v],76⟩]]:=hS.joinF hR5
 refine q_m hF rfl fun a hF=>?_
 obtain ⟨t_7,ht_7,hr⟩:=bindS hr
 refine q_call (vs:=[s1.v]) hF hS Tryz.func75 (by kernel_rfl) rfl rfl rfl (c_impl_colSums p_x t_7 ht_7 _ m hS.vis s1 h1) ?_
 rintro a w _ ⟨q9,s9,rfl,hR8,h9⟩ hF hS2
 have hS : St _ _ _ _ [q9,q6,[⟨b3,[nilS.v,nilS.v,nilS.v,nilS.v],76⟩]]:=hS.joinF hR8
 refine q_m hF rfl fun a hF=>?_
 obtain ⟨t_10,ht_10,hr⟩:=bindS hr
 refine q_call (vs:=[s1.v]) hF hS Tryz.func44 (by kernel_rfl) rfl rfl rfl (c_impl_copyMatrix p_x t_10 ht_10 _ m hS.vis s1 h1) ?_
 rintro a w _ ⟨q12,s12,rfl,hR11,h12,h12n⟩ hF hS2
 have hS : St _ _ _ _ [q12,q9,q6,[⟨b3,[nilS.v,nilS.v,nilS.v,nilS.v],76⟩]]:=hS.joinF hR11
 refine q_m hF rfl fun a hF=>?_
 obtain ⟨t_13,ht_13,hr⟩:=bindS hr
 refine q_call (vs:=[s1.v]) hF hS Tryz.func44 (by kernel_rfl) rfl rfl rfl (c_impl_copyMatrix p_x t_13 ht_13 _ m hS.vis s1 h1) ?_
 rintro a w _ ⟨q15,s15,rfl,hR14,h15,h15n⟩ hF hS2
 have hS : St _ _ _ _ [q15,q12,q9,q6,[⟨b3,[nilS.v,nilS.v,nilS.v,nilS.v],76⟩]]:=hS.joinF hR14
 refine q_y (v:=(.agg #[s6.v,s9.v,s12.v,s15.v])) hF hS (ex_build (cells:=[s6.v,s9.v,s12.v,s15.v]) rfl (by kernel_rfl)) fun a hF=>q_alloc (cs:=[nilS.v,nilS.v,nilS.v,nilS.v]) hF hS rfl rfl rfl fun a w b16 hF hS=>q_store (vs:=[s6.v,s9.v,s12.v,s15.v]) (cs':=[s6.v,s9.v,s12.v,s15.v]) 0 0 hF hS sz76 rfl rfl rfl rfl rfl rfl rfl rfl fun a w hF hS=>q_end (n_sq (q_seq (q_sr (q_m hF rfl fun a hF=>q_y (v:=(iV (goLen p_p))) hF hS (ex_len U23 rfl h2.len) fun a hF=>q_m hF rfl fun a hF=>q_end (n_sq (q_block ?_))))))
 obtain ⟨t_54,hl1,hr⟩:=bindS hr
 refine q_loop (fun (s : Int × impl_Transport) a w=>∃ (q21 : Piece),∃ (q22 : Piece),∃ t_17,∃ t_18,s = (t_17,t_18)∧Fr a 52 [(4,(pP b3 0)),(5,(pP b16 0)),(19,s2.v),(20,(iV (goLen p_p))),(21,(iV t_17))]∧St [] w0 w m [q21,q22,[⟨b16,[s6.v,s9.v,s12.v,s15.v],76⟩],q9,q6,[⟨b3,[nilS.v,nilS.v,nilS.v,nilS.v],76⟩]]∧OwnL m 3 q6 s6 t_18.Rows∧t_18.Rows = t_4∧OwnL m 3 q9 s9 t_18.Cols∧t_18.Cols = t_7∧OwnD m 48 3 q21 s12 t_18.Lo∧OwnD m 48 3 q22 s15 t_18.Hi) (fun (t_54 : impl_Transport) e a w=>∃ (q57 : Piece),∃ (q58 : Piece),e = .exit 0∧Fr a 52 [(4,(pP b3 0)),(5,(pP b16 0))]∧St [] w0 w m [q6,q9,q57,q58,[⟨b16,[s6.v,s9.v,s12.v,s15.v],76⟩],[⟨b3,[nilS.v,nilS.v,nilS.v,nilS.v],76⟩]]∧OwnL m 3 q6 s6 t_54.Rows∧t_54.Rows = t_4∧OwnL m 3 q9 s9 t_54.Cols∧t_54.Cols = t_7∧OwnD m 48 3 q57 s12 t_54.Lo∧OwnD m 48 3 q58 s15 t_54.Hi) hl1 ⟨q12,q15,_,_,rfl,hF.sub ⟨rfl,rfl,rfl,rfl,rfl,trivial⟩,hS.sel [2,1,0,3,4,5] (by decide),h6,rfl,h9,rfl,h12,h15⟩ ?_ ?_
 ·clear hF hS
  rintro s a w st ⟨q21,q22,t_17,t_18,rfl,hF,hS,h19,h19k,h20,h20k,h21,h22⟩ hb1
  unfold impl_attackNetwork_l1 at hb1
  refine q_sr (q_y (v:=(.bool (decide (t_17 < (goLen p_p))))) hF hS (ex_ibin rfl rfl rfl) fun a hF=>q_end (n_sq (q_seq ?_)))
  rcases bcase (decide (t_17 < (goLen p_p))) with hc2 | hc2
  ·have hb1:=cond_f hc2 hb1
   refine q_cond_f hF rfl hc2 (q_exit (x_sq ?_))
   obtain rfl:=someI hb1
   exact ⟨nofun,.inl ⟨q21,q22,rfl,hF.sub ⟨rfl,rfl,trivial⟩,hS.sel [4,3,0,1,2,5] (by decide),h19,h19k,h20,h20k,h21,h22⟩⟩
  ·have hb1:=cond_t hc2 hb1
   refine q_cond_t hF rfl hc2 (q_skipc (n_sq (q_seq (q_block (q_sr (q_m hF rfl fun a hF=>?_))))))
   obtain ⟨e_23,he_23,hb1⟩:=bindS hb1
   obtain ⟨vs24,at24,d24⟩:=h2.at he_23 1 rfl
   obtain ⟨s25,rfl,h25⟩ : ∃ s25 : Sl,vs24 = [s25.v]∧Rd m s25 e_23:=d24
   refine q_y (v:=(elP s2 (t_17.toNat * 1))) hF hS (ex_indexAddr U23 sz48 rfl rfl (h2.idx he_23)) fun a hF=>q_y (v:=s25.v) hF hS (ex_loadE1 0 U48 rfl rfl ((at24).at) rfl rfl) fun a hF=>q_s hF rfl fun a hF=>q_s hF rfl fun a hF=>q_end (n_sq (q_sr (q_m hF rfl fun a hF=>q_y (v:=(iV (goLen e_23))) hF hS (ex_len U48 rfl h25.len) fun a hF=>q_m hF rfl fun a hF=>q_end (n_sq (q_block ?_)))))
   obtain ⟨t_49,hl3,hb1⟩:=bindS hb1
   refine q_loop (fun (s : Int × impl_Transport) a w=>∃ (q30 : Piece),∃ (q31 : Piece),∃ t_26,∃ t_27,s = (t_26,t_27)∧Fr a 52 [(4,(pP b3 0)),(5,(pP b16 0)),(6,(iV t_17)),(19,s2.v),(20,(iV (goLen p_p))),(21,(iV t_17)),(26,s25.v),(27,(iV (goLen e_23))),(28,(iV t_26))]∧St [] w0 w m [q30,q31,[⟨b16,[s6.v,s9.v,s12.v,s15.v],76⟩],q9,q6,[⟨b3,[nilS.v,nilS.v,nilS.v,nilS.v],76⟩]]∧OwnL m 3 q6 s6 t_27.Rows∧t_27.Rows = t_4∧OwnL m 3 q9 s9 t_27.Cols∧t_27.Cols = t_7∧OwnD m 48 3 q30 s12 t_27.Lo∧OwnD m 48 3 q31 s15 t_27.Hi) (fun (t_49 : impl_Transport) e a w=>∃ (q52 : Piece),∃ (q53 : Piece),e = .exit 2∧Fr a 52 [(4,(pP b3 0)),(5,(pP b16 0)),(19,s2.v),(20,(iV (goLen p_p))),(21,(iV t_17))]∧St [] w0 w m [q6,q9,q52,q53,[⟨b16,[s6.v,s9.v,s12.v,s15.v],76⟩],[⟨b3,[nilS.v,nilS.v,nilS.v,nilS.v],76⟩]]∧OwnL m 3 q6 s6 t_49.Rows∧t_49.Rows = t_4∧OwnL m 3 q9 s9 t_49.Cols∧t_49.Cols = t_7∧OwnD m 48 3 q52 s12 t_49.Lo∧OwnD m 48 3 q53 s15 t_49.Hi) hl3 ⟨q21,q22,_,_,rfl,hF.sub ⟨rfl,rfl,rfl,rfl,rfl,rfl,rfl,rfl,rfl,trivial⟩,hS,h19,h19k,h20,h20k,h21,h22⟩ ?_ ?_
   ·clear hF hS
    rintro s a w st ⟨q30,q31,t_26,t_27,rfl,hF,hS,h28,h28k,h29,h29k,h30,h31⟩ hb3
    unfold impl_attackNetwork_l2 at hb3
    refine q_sr (q_y (v:=(.bool (decide (t_26 < (goLen e_23))))) hF hS (ex_ibin rfl rfl rfl) fun a hF=>q_end (n_sq (q_seq ?_)))
    rcases bcase (decide (t_26 < (goLen e_23))) with hc4 | hc4
    ·have hb3:=cond_f hc4 hb3
     refine q_cond_f hF rfl hc4 (q_exit (x_sq ?_))
     obtain rfl:=someI hb3
     exact ⟨nofun,.inl ⟨q30,q31,rfl,hF.sub ⟨rfl,rfl,rfl,rfl,rfl,trivial⟩,hS.sel [4,3,0,1,2,5] (by decide),h28,h28k,h29,h29k,h30,h31⟩⟩
    ·have hb3:=cond_t hc4 hb3
     refine q_cond_t hF rfl hc4 (q_skipc (n_sq (q_seq (q_block (q_sr (q_m hF rfl fun a hF=>?_))))))
     obtain ⟨e_32,he_32,hb3⟩:=bindS hb3
     obtain ⟨vs33,at33,d33⟩:=h25.at he_32 1 rfl
     obtain rfl : vs33 = [(iV e_32)]:=d33
     refine q_y (v:=(elP s25 (t_26.toNat * 1))) hF hS (ex_indexAddr U48 sz3 rfl rfl (h25.idx he_32)) fun a hF=>q_y (v:=(iV e_32)) hF hS (ex_loadE1 0 U3 rfl rfl ((at33).at) rfl rfl) fun a hF=>q_s hF rfl fun a hF=>q_s hF rfl fun a hF=>q_end (n_sq (q_sr (q_m hF rfl fun a hF=>q_y (v:=(.bool (e_32 == 1))) hF hS (ex_ibin rfl rfl rfl) fun a hF=>q_end (n_sq ?_))))
     obtain ⟨t_44,hj5,hb3⟩:=bindS hb3
     refine q_join (fun a w=>∃ (q47 : Piece),∃ (q48 : Piece),Fr a 52 [(4,(pP b3 0)),(5,(pP b16 0)),(6,(iV t_17)),(19,s2.v),(20,(iV (goLen p_p))),(21,(iV t_17)),(26,s25.v),(27,(iV (goLen e_23))),(28,(iV t_26))]∧St [] w0 w m [q6,q9,q47,q48,[⟨b16,[s6.v,s9.v,s12.v,s15.v],76⟩],[⟨b3,[nilS.v,nilS.v,nilS.v,nilS.v],76⟩]]∧OwnL m 3 q6 s6 t_44.Rows∧t_44.Rows = t_4∧OwnL m 3 q9 s9 t_44.Cols∧t_44.Cols = t_7∧OwnD m 48 3 q47 s12 t_44.Lo∧OwnD m 48 3 q48 s15 t_44.Hi) ?_ ?_
     ·rcases bcase (e_32 == 1) with hc6 | hc6
      ·have hj5:=cond_f hc6 hj5
       refine q_cond_f hF rfl hc6 (q_skipc (n_jn ?_))
       obtain rfl:=someI hj5
       exact ⟨q30,q31,hF.sub ⟨rfl,rfl,rfl,rfl,rfl,rfl,rfl,rfl,rfl,trivial⟩,hS.sel [4,3,0,1,2,5] (by decide),h28,h28k,h29,h29k,h30,h31⟩
      ·have hj5:=cond_t hc6 hj5
       refine q_cond_t hF rfl hc6 (e_region ⟨[13,15],[b16],m⟩ mixed fun w' hw'=>?_)
       have hS:=hS.below hw'
       refine e_P (v:=(pP b16 2)) 0 hF rfl (ex_fieldAddr U76 rfl sz23 rfl rfl) fun a hF=>e_xb (v:=s12.v) 1 2 hF hS (.head _) rfl rfl (ex_load1 0 0 U23 rfl rfl rfl rfl) rfl rfl (by kernel_rfl) (by kernel_rfl) (by kernel_rfl) fun a hF=>e_P (v:=(iV t_17)) 2 hF rfl (ex_move rfl) fun a hF=>?_
       obtain ⟨e_34,he_34,hj5⟩:=bindS hj5
       obtain ⟨s35,hV35⟩:=h30.view he_34
       refine e_P (v:=(elP s12 (t_17.toNat * 1))) 3 hF rfl (ex_indexAddr U23 sz48 rfl rfl (h30.idx he_34)) fun a hF=>e_X (v:=s35.v) 4 hF hS rfl (ex_loadE1 0 U48 rfl rfl ((hV35.atH he_34).at 0 rfl) rfl rfl) fun a hF=>e_P (v:=(iV t_26)) 5 hF rfl (ex_move rfl) fun a hF=>e_P (v:=(pP b16 3)) 6 hF rfl (ex_fieldAddr U76 rfl sz23 rfl rfl) fun a hF=>e_xb (v:=s15.v) 7 2 hF hS (.head _) rfl rfl (ex_load1 0 0 U23 rfl rfl rfl rfl) rfl rfl (by kernel_rfl) (by kernel_rfl) (by kernel_rfl) fun a hF=>e_P (v:=(iV t_17)) 8 hF rfl (ex_move rfl) fun a hF=>?_
       obtain ⟨e_36,he_36,hj5⟩:=bindS hj5
       obtain ⟨s37,hV37⟩:=h31.view he_36
       refine e_P (v:=(elP s15 (t_17.toNat * 1))) 9 hF rfl (ex_indexAddr U23 sz48 rfl rfl (h31.idx he_36)) fun a hF=>e_X (v:=s37.v) 10 hF hS rfl (ex_loadE1 0 U48 rfl rfl ((hV37.atH he_36).at 1 rfl) rfl rfl) fun a hF=>e_P (v:=(iV t_26)) 11 hF rfl (ex_move rfl) fun a hF=>?_
       obtain ⟨e_38,he_38,hj5⟩:=bindS hj5
       obtain ⟨vs39,at39,d39⟩:=hV35.at he_34 he_38 1 rfl
       obtain rfl : vs39 = [(iV e_38)]:=d39
       refine e_P (v:=(elP s35 (t_26.toNat * 1))) 12 hF rfl (ex_indexAddr U48 sz3 rfl rfl (hV35.idx he_34 he_38)) fun a hF=>e_one 13 (by kernel_rfl) ?_
       have hSo:=hS
       refine e_opl rfl rfl rfl fun _ hK=>wp_storeV (e':=0) (us:=[(iV 0)]) (vs:=[(iV e_38)]) 0 hF hS hV35 he_34 sz3 rfl rfl rfl rfl rfl rfl rfl he_38 at39 rfl rfl rfl fun w q40 hS h40=>hK _ _ (⟨⟨kpC hSo hS 2 2 rfl rfl kpN,fun _=>hS.vis.of_le (Mem.le.refl _)⟩,?_⟩)
       obtain ⟨e_41,he_41,hj5⟩:=bindS hj5
       obtain ⟨vs42,at42,d42⟩:=hV37.at he_36 he_41 1 rfl
       obtain rfl : vs42 = [(iV e_41)]:=d42
       refine e_P (v:=(elP s37 (t_26.toNat * 1))) 14 hF rfl (ex_indexAddr U48 sz3 rfl rfl (hV37.idx he_36 he_41)) fun a hF=>e_one 15 (by kernel_rfl) ?_
       have hS : St _ _ _ _ [q31,q40,[⟨b16,[s6.v,s9.v,s12.v,s15.v],76⟩],q9,q6,[⟨b3,[nilS.v,nilS.v,nilS.v,nilS.v],76⟩]]:=hS.sel [1,0,2,3,4,5] (by decide)
       have hSo:=hS
       refine e_opl rfl rfl rfl fun _ hK=>wp_storeV (e':=100000) (us:=[(iV 100000)]) (vs:=[(iV e_41)]) 0 hF hS hV37 he_36 sz3 rfl rfl rfl rfl rfl rfl rfl he_41 at42 rfl rfl rfl fun w q43 hS h43=>hK _ _ (⟨⟨kpC hSo hS 2 2 rfl rfl kpN,fun _=>hS.vis.of_le (Mem.le.refl _)⟩,?_⟩)
       refine e_end (by kernel_rfl) (n_jn ?_) _
       obtain rfl:=someI hj5
       exact ⟨q40,q43,hF.sub ⟨rfl,rfl,rfl,rfl,rfl,rfl,rfl,rfl,rfl,trivial⟩,hS.sel [4,3,1,0,2,5] (by decide),h28,h28k,h29,h29k,h40.own,h43.own⟩
     ·rintro a w ⟨q47,q48,hF,hS,h45,h45k,h46,h46k,h47,h48⟩
      refine n_ib (n_sq ?_)
      refine q_region (q_y (v:=(iV (w64 (t_26 + 1)))) hF hS (ex_ibin rfl rfl rfl) fun a hF=>q_m hF rfl fun a hF=>q_end ?_)
      obtain rfl:=someI hb3
      exact ⟨rfl,q47,q48,_,_,rfl,hF.sub ⟨rfl,rfl,rfl,rfl,rfl,rfl,rfl,rfl,rfl,trivial⟩,hS.sel [2,3,4,1,0,5] (by decide),h45,h45k,h46,h46k,h47,h48⟩
   ·rintro e a w ⟨q52,q53,rfl,hF,hS,h50,h50k,h51,h51k,h52,h53⟩
    refine x_ib (n_ib (n_sq ?_))
    refine q_region (q_y (v:=(iV (w64 (t_17 + 1)))) hF hS (ex_ibin rfl rfl rfl) fun a hF=>q_m hF rfl fun a hF=>q_end ?_)
    obtain rfl:=someI hb1
    exact ⟨rfl,q52,q53,_,_,rfl,hF.sub ⟨rfl,rfl,rfl,rfl,rfl,trivial⟩,hS.sel [2,3,4,1,0,5] (by decide),h50,h50k,h51,h51k,h52,h53⟩
 ·rintro e a w ⟨q57,q58,rfl,hF,hS,h55,h55k,h56,h56k,h57,h58⟩
  refine x_ib (n_sq ?_)
  refine q_sr (q_y (v:=(.agg #[s6.v,s9.v,s12.v,s15.v])) hF hS (ex_loadA (vs:=[s6.v,s9.v,s12.v,s15.v]) 4 0 U76 rfl sz76 rfl rfl rfl rfl) fun a hF=>q_store (vs:=[s6.v,s9.v,s12.v,s15.v]) (cs':=[s6.v,s9.v,s12.v,s15.v]) 5 0 hF hS sz76 rfl rfl rfl rfl rfl rfl rfl rfl fun a w hF hS=>q_end (n_sq (q_ret ?_)))
  obtain rfl:=someI hr
  exact ret_of hF hS rfl (.cellA (us:=[s6.v,s9.v,s12.v,s15.v]) 5 0 U76 rfl sz76 rfl rfl rfl rfl .nil) ⟨q6,q9,q57,q58,s6,s9,s12,s15,rfl,hS.sel [0,1,2,3] (by decide),h55,h56,h57,h58⟩

theorem c_impl_push (p_r : List (List Int)) (p_from : Int) (p_to : Int) (p_limit : Int) (r : Int × (List (List Int))) (hr : impl_push p_r p_from p_to p_limit = some r) (w0 : World) (m : Mem) (s1 : Sl) (q1 : Piece) (h1 : OwnD m 48 3 q1 s1 p_r) (X : List Nat) (hS : St X w0 w0 m [q1]) :
  RetX Tryz.prog 96 [s1.v,(iV p_from),(iV p_to),(iV p_limit)] w0 (fun v w=>∃ (qp0 : Piece),v = (iV r.1)∧St X w0 w m [qp0]∧OwnD m 48 3 qp0 s1 r.2):=by
 unfold impl_push at hr
 refine ret_startX Tryz.func96 rfl 149 rfl rfl fun a hF=>q_sr (q_s hF rfl fun a hF=>q_end (n_sq (q_sr (q_s hF rfl fun a hF=>q_end (n_sq (q_seq (q_block ?_)))))))
 obtain ⟨o1,hl1,hr⟩:=bindS hr
 refine q_loop (fun (s : (List (List Int)) × Int) a w=>∃ (q3 : Piece),∃ r_2,∃ sent_4,s = (r_2,sent_4)∧Fr a 149 [(0,s1.v),(1,(iV p_from)),(2,(iV p_to)),(3,(iV p_limit)),(9,(iV sent_4))]∧St X w0 w m [q3]∧OwnD m 48 3 q3 s1 r_2) (fun (o : (List (List Int)) × Int) e a w=>∃ (q97 : Piece),∃ r_96,∃ sent_98,o = (r_96,sent_98)∧e = .exit 0∧Fr a 149 [(9,(iV sent_98))]∧St X w0 w m [q97]∧OwnD m 48 3 q97 s1 r_96) hl1 ⟨q1,_,_,rfl,hF.sub ⟨rfl,rfl,rfl,rfl,rfl,trivial⟩,hS,h1⟩ ?_ ?_
 ·clear hF hS
  rintro s a w st ⟨q3,r_2,sent_4,rfl,hF,hS,h3⟩ hb1
  unfold impl_push_l1 at hb1
  refine q_seq (q_sr (q_m hF rfl fun a hF=>q_m hF rfl fun a hF=>q_y (v:=(.bool (decide (sent_4 < p_limit)))) hF hS (ex_ibin rfl rfl rfl) fun a hF=>q_end (n_sq ?_)))
  rcases bcase (decide (sent_4 < p_limit)) with hc2 | hc2
  ·have hb1:=cond_f hc2 hb1
   refine q_cond_f hF rfl hc2 (q_exit (x_sq ?_))
   obtain rfl:=someI hb1
   exact ⟨nofun,.inl ⟨q3,_,_,rfl,rfl,hF.sub ⟨rfl,trivial⟩,hS,h3⟩⟩
  ·have hb1:=cond_t hc2 hb1
   refine q_cond_t hF rfl hc2 (q_skipc (n_sq (q_block (q_sr (q_m hF rfl fun a hF=>q_y (v:=(iV (goLen r_2))) hF hS (ex_len U23 rfl h3.len) fun a hF=>?_)))))
   obtain ⟨l_5,hl_5,hb1⟩:=bindS hb1
   refine q_do rfl fun _ hK=>wp_make (z:=(0 : Int)) hF hS U48 inf3 rfl rfl rfl rfl rfl (by decide) hl_5 rfl fun a w q6 s6 hF hS h6 _=>hK _ _ (q_s hF rfl fun a hF=>q_end (n_sq (q_seq (q_sr (q_m hF rfl fun a hF=>q_y (v:=(iV (goLen l_5))) hF hS (ex_len U48 rfl h6.len) fun a hF=>q_m hF rfl fun a hF=>q_end (n_sq (q_block ?_)))))))
   obtain ⟨back_13,hl3,hb1⟩:=bindS hb1
   refine q_loop (fun (s : (List Int) × Int) a w=>∃ (q8 : Piece),∃ back_7,∃ t_9,s = (back_7,t_9)∧Fr a 149 [(0,s1.v),(1,(iV p_from)),(2,(iV p_to)),(3,(iV p_limit)),(9,(iV sent_4)),(10,s6.v),(26,(iV (goLen l_5))),(27,(iV t_9))]∧St X w0 w m [q8,q3]∧OwnL m 3 q8 s6 back_7) (fun (back_13 : (List Int)) e a w=>∃ (q14 : Piece),e = .exit 2∧Fr a 149 [(0,s1.v),(1,(iV p_from)),(2,(iV p_to)),(3,(iV p_limit)),(9,(iV sent_4)),(10,s6.v)]∧St X w0 w m [q3,q14]∧OwnL m 3 q14 s6 back_13) hl3 ⟨q6,_,_,rfl,hF.sub ⟨rfl,rfl,rfl,rfl,rfl,rfl,rfl,rfl,trivial⟩,hS,h6⟩ ?_ ?_
   ·clear hF hS
    rintro s a w st ⟨q8,back_7,t_9,rfl,hF,hS,h8⟩ hb3
    unfold impl_push_l2 at hb3
    refine q_sr (q_y (v:=(.bool (decide (t_9 < (goLen l_5))))) hF hS (ex_ibin rfl rfl rfl) fun a hF=>q_end (n_sq (q_seq ?_)))
    rcases bcase (decide (t_9 < (goLen l_5))) with hc4 | hc4
    ·have hb3:=cond_f hc4 hb3
     refine q_cond_f hF rfl hc4 (q_exit (x_sq ?_))
     obtain rfl:=someI hb3
     exact ⟨nofun,.inl ⟨q8,rfl,hF.sub ⟨rfl,rfl,rfl,rfl,rfl,rfl,trivial⟩,hS.sel [1,0] (by decide),h8⟩⟩
    ·have hb3:=cond_t hc4 hb3
     refine q_cond_t hF rfl hc4 (q_skipc (n_sq (q_seq (q_block (q_sr (q_m hF rfl fun a hF=>q_s hF rfl fun a hF=>q_end (n_sq (q_region (q_m hF rfl fun a hF=>q_m hF rfl fun a hF=>?_)))))))))
     obtain ⟨e_10,he_10,hb3⟩:=bindS hb3
     obtain ⟨vs11,at11,d11⟩:=h8.at he_10 1 rfl
     obtain rfl : vs11 = [(iV e_10)]:=d11
     refine q_y (v:=(elP s6 (t_9.toNat * 1))) hF hS (ex_indexAddr U48 sz3 rfl rfl (h8.idx he_10)) fun a hF=>q_do rfl fun _ hK=>wp_storeE (e':=-1) (us:=[(iV (-1))]) (vs:=[(iV e_10)]) 0 hF hS h8 sz3 rfl rfl rfl rfl rfl rfl rfl he_10 at11 rfl rfl rfl fun w q12 hS h12=>hK _ _ (q_end (n_ib (n_sq (q_region (q_y (v:=(iV (w64 (t_9 + 1)))) hF hS (ex_ibin rfl rfl rfl) fun a hF=>q_m hF rfl fun a hF=>q_end ?_)))))
     obtain rfl:=someI hb3
     exact ⟨rfl,q12,_,_,rfl,hF.sub ⟨rfl,rfl,rfl,rfl,rfl,rfl,rfl,rfl,trivial⟩,hS,h12⟩
   ·rintro e a w ⟨q14,rfl,hF,hS,h14⟩
    refine x_ib (n_sq ?_)
    refine q_sr (q_m hF rfl fun a hF=>q_m hF rfl fun a hF=>q_m hF rfl fun a hF=>?_)
    obtain ⟨e_15,he_15,hb1⟩:=bindS hb1
    obtain ⟨vs16,at16,d16⟩:=h14.at he_15 1 rfl
    obtain rfl : vs16 = [(iV e_15)]:=d16
    refine q_y (v:=(elP s6 (p_from.toNat * 1))) hF hS (ex_indexAddr U48 sz3 rfl rfl (h14.idx he_15)) fun a hF=>?_
    have hS : St _ _ _ _ [q14,q3]:=hS.sel [1,0] (by decide)
    refine q_do rfl fun _ hK=>wp_storeE (e':=p_from) (us:=[(iV p_from)]) (vs:=[(iV e_15)]) 0 hF hS h14 sz3 rfl rfl rfl rfl rfl rfl rfl he_15 at16 rfl rfl rfl fun w q17 hS h17=>hK _ _ (q_end (n_sq (q_sr (q_m hF rfl fun a hF=>q_do rfl fun _ hK=>wp_buildSlice' (l:=([p_from] : List Int)) (cells:=[(iV p_from)]) hF hS U48 inf3 rfl rfl (by kernel_rfl) rfl rfl rfl ⟨rfl,rfl⟩ rfl rfl fun a w q18 s18 hF hS h18 _=>hK _ _ ?_))))
    replace h18:=h18.toT (List.cons_ne_nil _ _)
    refine q_s hF rfl fun a hF=>q_end (n_sq (q_seq (q_block ?_)))
    obtain ⟨back_56,hl5,hb1⟩:=bindS hb1
    refine q_loop (fun (s : (List Int) × (List Int)) a w=>∃ (q20 : Piece),∃ (q22 : Piece),∃ (s22 : Sl),∃ back_19,∃ queue_21,s = (back_19,queue_21)∧Fr a 149 [(0,s1.v),(1,(iV p_from)),(2,(iV p_to)),(3,(iV p_limit)),(9,(iV sent_4)),(10,s6.v),(12,s22.v)]∧St X w0 w m [q20,q22,q3]∧OwnL m 3 q20 s6 back_19∧OwnT m 3 q22 s22 queue_21) (fun (back_56 : (List Int)) e a w=>∃ (q57 : Piece),e = .exit 4∧Fr a 149 [(0,s1.v),(1,(iV p_from)),(2,(iV p_to)),(3,(iV p_limit)),(9,(iV sent_4)),(10,s6.v)]∧St X w0 w m [q3,q57]∧OwnL m 3 q57 s6 back_56) hl5 ⟨q17,q18,s18,_,_,rfl,hF.sub ⟨rfl,rfl,rfl,rfl,rfl,rfl,rfl,trivial⟩,hS.sel [1,0,2] (by decide),h17,h18⟩ ?_ ?_
    ·clear hF hS
     rintro s a w st ⟨q20,q22,s22,back_19,queue_21,rfl,hF,hS,h20,h22⟩ hb5
     unfold impl_push_l3 at hb5
     refine q_seq (q_seq ?_)
     obtain ⟨t_25,hj6,hb5⟩:=bindS hb5
     refine q_join (fun a w=>Fr a 149 [(0,s1.v),(1,(iV p_from)),(2,(iV p_to)),(3,(iV p_limit)),(9,(iV sent_4)),(10,s6.v),(12,s22.v),(49,(.bool t_25))]∧St X w0 w m [q3,q20,q22]) ?_ ?_
     ·refine q_region (q_m hF rfl fun a hF=>q_y (v:=(iV (goLen queue_21))) hF hS (ex_len U48 rfl h22.len) fun a hF=>q_y (v:=(.bool (decide (0 < (goLen queue_21))))) hF hS (ex_ibin rfl rfl rfl) fun a hF=>q_m hF rfl fun a hF=>?_)
      rcases bcase (decide (0 < (goLen queue_21))) with hc7 | hc7
      ·have hj6:=cond_f hc7 hj6
       refine q_k hF hc7 fun a hF=>q_k hF hc7 fun a hF=>q_k hF hc7 fun a hF=>q_k hF hc7 fun a hF=>q_k hF hc7 fun a hF=>q_y (v:=(.bool false)) hF hS (ex_pick_f rfl rfl hc7) fun a hF=>q_end (n_jn ?_)
       obtain rfl:=someI hj6
       exact ⟨hF.sub ⟨rfl,rfl,rfl,rfl,rfl,rfl,rfl,rfl,trivial⟩,hS.sel [2,0,1] (by decide)⟩
      ·have hj6:=cond_t hc7 hj6
       refine q_g (v:=s6.v) hF hS (ex_move rfl) hc7 fun a hF=>q_g (v:=(iV p_to)) hF hS (ex_move rfl) hc7 fun a hF=>?_
       obtain ⟨e_23,he_23,hj6⟩:=bindS hj6
       obtain ⟨vs24,at24,d24⟩:=h20.at he_23 1 rfl
       obtain rfl : vs24 = [(iV e_23)]:=d24
       refine q_g (v:=(elP s6 (p_to.toNat * 1))) hF hS (ex_indexAddr U48 sz3 rfl rfl (h20.idx he_23)) hc7 fun a hF=>q_g (v:=(iV e_23)) hF hS (ex_loadE1 0 U3 rfl rfl (at24.at 0 rfl) rfl rfl) hc7 fun a hF=>q_g (v:=(.bool (decide (e_23 < 0)))) hF hS (ex_ibin rfl rfl rfl) hc7 fun a hF=>q_y (v:=(.bool (decide (e_23 < 0)))) hF hS (ex_pick_t rfl rfl hc7) fun a hF=>q_end (n_jn ?_)
       obtain rfl:=someI hj6
       exact ⟨hF.sub ⟨rfl,rfl,rfl,rfl,rfl,rfl,rfl,rfl,trivial⟩,hS.sel [2,0,1] (by decide)⟩
     ·rintro a w ⟨hF,hS⟩
      refine n_sq ?_
      rcases bcase (t_25) with hc8 | hc8
      ·have hb5:=cond_f hc8 hb5
       refine q_cond_f hF rfl hc8 (q_exit (x_sq ?_))
       obtain rfl:=someI hb5
       exact ⟨nofun,.inl ⟨q20,rfl,hF.sub ⟨rfl,rfl,rfl,rfl,rfl,rfl,trivial⟩,hS.mask [true,true,false],h20⟩⟩
      ·have hb5:=cond_t hc8 hb5
       refine q_cond_t hF rfl hc8 (q_skipc (n_sq (q_block (q_sr (q_m hF rfl fun a hF=>?_)))))
       obtain ⟨e_26,he_26,hb5⟩:=bindS hb5
       obtain ⟨vs27,at27,d27⟩:=h22.at he_26 1 rfl
       obtain rfl : vs27 = [(iV e_26)]:=d27
       refine q_y (v:=(elP s22 ((0 : Int).toNat * 1))) hF hS (ex_indexAddr U48 sz3 rfl rfl (h22.idx he_26)) fun a hF=>q_y (v:=(iV e_26)) hF hS (ex_loadE1 0 U3 rfl rfl (at27.at 2 rfl) rfl rfl) fun a hF=>q_s hF rfl fun a hF=>q_end (n_sq (q_sr (q_m hF rfl fun a hF=>?_)))
       obtain ⟨l_28,hl_28,hb5⟩:=bindS hb5
       have h29 : OwnT m 3 q22 (subS s22 1 (1 : Int).toNat (goLen queue_21).toNat s22.cap) l_28:=h22.sub1 hl_28
       refine q_y (v:=(subS s22 1 (1 : Int).toNat (goLen queue_21).toNat s22.cap).v) hF hS (ex_slice U48 sz3 rfl rfl rfl (.inr ⟨_,rfl⟩) (.inl ⟨rfl,h22.jlen⟩) (h22.subok hl_28)) fun a hF=>q_s hF rfl fun a hF=>q_end (n_sq (q_sr (q_m hF rfl fun a hF=>q_m hF rfl fun a hF=>?_)))
       obtain ⟨e_30,he_30,hb5⟩:=bindS hb5
       obtain ⟨s31,hV31⟩:=h3.view he_30
       refine q_y (v:=(elP s1 (e_26.toNat * 1))) hF hS (ex_indexAddr U23 sz48 rfl rfl (h3.idx he_30)) fun a hF=>q_y (v:=s31.v) hF hS (ex_loadE1 0 U48 rfl rfl ((hV31.atH he_30).at 0 rfl) rfl rfl) fun a hF=>q_y (v:=(iV (goLen e_30))) hF hS (ex_len U48 rfl (hV31.len he_30)) fun a hF=>q_m hF rfl fun a hF=>q_end (n_sq (q_block ?_))
       obtain ⟨o9,hl9,hb5⟩:=bindS hb5
       refine q_loop (fun (s : (List Int) × (List Int) × Int) a w=>∃ (q33 : Piece),∃ (q35 : Piece),∃ (s35 : Sl),∃ back_32,∃ queue_34,∃ t_36,s = (back_32,queue_34,t_36)∧Fr a 149 [(0,s1.v),(1,(iV p_from)),(2,(iV p_to)),(3,(iV p_limit)),(9,(iV sent_4)),(10,s6.v),(12,s35.v),(13,(iV e_26)),(58,s31.v),(59,(iV (goLen e_30))),(60,(iV t_36))]∧St X w0 w m [q33,q35,q3]∧OwnL m 3 q33 s6 back_32∧OwnT m 3 q35 s35 queue_34) (fun (o : (List Int) × (List Int)) e a w=>∃ (q53 : Piece),∃ (q55 : Piece),∃ (s55 : Sl),∃ back_52,∃ queue_54,o = (back_52,queue_54)∧e = .exit 6∧Fr a 149 [(0,s1.v),(1,(iV p_from)),(2,(iV p_to)),(3,(iV p_limit)),(9,(iV sent_4)),(10,s6.v),(12,s55.v)]∧St X w0 w m [q3,q53,q55]∧OwnL m 3 q53 s6 back_52∧OwnT m 3 q55 s55 queue_54) hl9 ⟨q20,q22,(subS s22 1 (1 : Int).toNat (goLen queue_21).toNat s22.cap),_,_,_,rfl,hF.sub ⟨rfl,rfl,rfl,rfl,rfl,rfl,rfl,rfl,rfl,rfl,rfl,trivial⟩,hS.sel [1,2,0] (by decide),h20,h29⟩ ?_ ?_
       ·clear hF hS
        rintro s a w st ⟨q33,q35,s35,back_32,queue_34,t_36,rfl,hF,hS,h33,h35⟩ hb9
        unfold impl_push_l4 at hb9
        refine q_sr (q_y (v:=(.bool (decide (t_36 < (goLen e_30))))) hF hS (ex_ibin rfl rfl rfl) fun a hF=>q_end (n_sq (q_seq ?_)))
        rcases bcase (decide (t_36 < (goLen e_30))) with hc10 | hc10
        ·have hb9:=cond_f hc10 hb9
         refine q_cond_f hF rfl hc10 (q_exit (x_sq ?_))
         obtain rfl:=someI hb9
         exact ⟨nofun,.inl ⟨q33,q35,s35,_,_,rfl,rfl,hF.sub ⟨rfl,rfl,rfl,rfl,rfl,rfl,rfl,trivial⟩,hS.sel [2,0,1] (by decide),h33,h35⟩⟩
        ·have hb9:=cond_t hc10 hb9
         refine q_cond_t hF rfl hc10 (q_skipc (n_sq (q_seq (q_block (q_sr (q_m hF rfl fun a hF=>?_))))))
         obtain ⟨e_37,he_37,hb9⟩:=bindS hb9
         obtain ⟨vs38,at38,d38⟩:=hV31.at he_30 he_37 1 rfl
         obtain rfl : vs38 = [(iV e_37)]:=d38
         refine q_y (v:=(elP s31 (t_36.toNat * 1))) hF hS (ex_indexAddr U48 sz3 rfl rfl (hV31.idx he_30 he_37)) fun a hF=>q_y (v:=(iV e_37)) hF hS (ex_loadE1 0 U3 rfl rfl (at38.at 2 rfl) rfl rfl) fun a hF=>q_s hF rfl fun a hF=>q_s hF rfl fun a hF=>q_end (n_sq (q_seq ?_))
         obtain ⟨t_41,hj11,hb9⟩:=bindS hb9
         refine q_join (fun a w=>Fr a 149 [(0,s1.v),(1,(iV p_from)),(2,(iV p_to)),(3,(iV p_limit)),(9,(iV sent_4)),(10,s6.v),(12,s35.v),(13,(iV e_26)),(14,(iV t_36)),(58,s31.v),(59,(iV (goLen e_30))),(60,(iV t_36)),(73,(.bool t_41))]∧St X w0 w m [q3,q33,q35]) ?_ ?_
         ·refine q_region (q_m hF rfl fun a hF=>q_y (v:=(.bool (decide (0 < e_37)))) hF hS (ex_ibin rfl rfl rfl) fun a hF=>q_m hF rfl fun a hF=>?_)
          rcases bcase (decide (0 < e_37)) with hc12 | hc12
          ·have hj11:=cond_f hc12 hj11
           refine q_k hF hc12 fun a hF=>q_k hF hc12 fun a hF=>q_k hF hc12 fun a hF=>q_k hF hc12 fun a hF=>q_k hF hc12 fun a hF=>q_y (v:=(.bool false)) hF hS (ex_pick_f rfl rfl hc12) fun a hF=>q_end (n_jn ?_)
           obtain rfl:=someI hj11
           exact ⟨hF.sub ⟨rfl,rfl,rfl,rfl,rfl,rfl,rfl,rfl,rfl,rfl,rfl,rfl,rfl,trivial⟩,hS.sel [2,0,1] (by decide)⟩
          ·have hj11:=cond_t hc12 hj11
           refine q_g (v:=s6.v) hF hS (ex_move rfl) hc12 fun a hF=>q_g (v:=(iV t_36)) hF hS (ex_move rfl) hc12 fun a hF=>?_
           obtain ⟨e_39,he_39,hj11⟩:=bindS hj11
           obtain ⟨vs40,at40,d40⟩:=h33.at he_39 1 rfl
           obtain rfl : vs40 = [(iV e_39)]:=d40
           refine q_g (v:=(elP s6 (t_36.toNat * 1))) hF hS (ex_indexAddr U48 sz3 rfl rfl (h33.idx he_39)) hc12 fun a hF=>q_g (v:=(iV e_39)) hF hS (ex_loadE1 0 U3 rfl rfl (at40.at 0 rfl) rfl rfl) hc12 fun a hF=>q_g (v:=(.bool (decide (e_39 < 0)))) hF hS (ex_ibin rfl rfl rfl) hc12 fun a hF=>q_y (v:=(.bool (decide (e_39 < 0)))) hF hS (ex_pick_t rfl rfl hc12) fun a hF=>q_end (n_jn ?_)
           obtain rfl:=someI hj11
           exact ⟨hF.sub ⟨rfl,rfl,rfl,rfl,rfl,rfl,rfl,rfl,rfl,rfl,rfl,rfl,rfl,trivial⟩,hS.sel [2,0,1] (by decide)⟩
         ·rintro a w ⟨hF,hS⟩
          refine n_sq ?_
          obtain ⟨j13,hj13,hb9⟩:=bindS hb9
          refine q_join (fun a w=>∃ (q49 : Piece),∃ (q51 : Piece),∃ (s51 : Sl),∃ back_48,∃ queue_50,j13 = (back_48,queue_50)∧Fr a 149 [(0,s1.v),(1,(iV p_from)),(2,(iV p_to)),(3,(iV p_limit)),(9,(iV sent_4)),(10,s6.v),(12,s51.v),(13,(iV e_26)),(58,s31.v),(59,(iV (goLen e_30))),(60,(iV t_36))]∧St X w0 w m [q3,q49,q51]∧OwnL m 3 q49 s6 back_48∧OwnT m 3 q51 s51 queue_50) ?_ ?_
          ·rcases bcase (t_41) with hc14 | hc14
           ·have hj13:=cond_f hc14 hj13
            refine q_cond_f hF rfl hc14 (q_skipc (n_jn ?_))
            obtain rfl:=someI hj13
            exact ⟨q33,q35,s35,_,_,rfl,hF.sub ⟨rfl,rfl,rfl,rfl,rfl,rfl,rfl,rfl,rfl,rfl,rfl,trivial⟩,hS,h33,h35⟩
           ·have hj13:=cond_t hc14 hj13
            refine q_cond_t hF rfl hc14 (q_sr (q_m hF rfl fun a hF=>q_m hF rfl fun a hF=>q_m hF rfl fun a hF=>?_))
            obtain ⟨e_42,he_42,hj13⟩:=bindS hj13
            obtain ⟨vs43,at43,d43⟩:=h33.at he_42 1 rfl
            obtain rfl : vs43 = [(iV e_42)]:=d43
            refine q_y (v:=(elP s6 (t_36.toNat * 1))) hF hS (ex_indexAddr U48 sz3 rfl rfl (h33.idx he_42)) fun a hF=>?_
            have hS : St _ _ _ _ [q33,q3,q35]:=hS.sel [1,0,2] (by decide)
            refine q_do rfl fun _ hK=>wp_storeE (e':=e_26) (us:=[(iV e_26)]) (vs:=[(iV e_42)]) 0 hF hS h33 sz3 rfl rfl rfl rfl rfl rfl rfl he_42 at43 rfl rfl rfl fun w q44 hS h44=>hK _ _ (q_end (n_sq (q_region (q_m hF rfl fun a hF=>q_m hF rfl fun a hF=>q_do rfl fun _ hK=>wp_buildSlice' (l:=([t_36] : List Int)) (cells:=[(iV t_36)]) hF hS U48 inf3 rfl rfl (by kernel_rfl) rfl rfl rfl ⟨rfl,rfl⟩ rfl rfl fun a w q45 s45 hF hS h45 _=>hK _ _ ?_))))
            have hS : St _ _ _ _ [q35,q45,q44,q3]:=hS.sel [3,0,1,2] (by decide)
            obtain ⟨l_46,hl_46,hj13⟩:=bindS hj13
            refine q_do rfl fun _ hK=>wp_appendT hF hS h35 U48 inf3 rfl rfl rfl rfl (h45.vw hS (j:=1) rfl) (by decide) hl_46 rfl fun a w q47 s47 hF hS h47=>hK _ _ (q_s hF rfl fun a hF=>q_end (n_jn ?_))
            obtain rfl:=someI hj13
            exact ⟨q44,q47,s47,_,_,rfl,hF.sub ⟨rfl,rfl,rfl,rfl,rfl,rfl,rfl,rfl,rfl,rfl,rfl,trivial⟩,hS.sel [3,2,0] (by decide),h44,h47⟩
          ·rintro a w ⟨q49,q51,s51,back_48,queue_50,rfl,hF,hS,h49,h51⟩
           refine n_ib (n_sq ?_)
           refine q_region (q_y (v:=(iV (w64 (t_36 + 1)))) hF hS (ex_ibin rfl rfl rfl) fun a hF=>q_m hF rfl fun a hF=>q_end ?_)
           obtain rfl:=someI hb9
           exact ⟨rfl,q49,q51,s51,_,_,_,rfl,hF.sub ⟨rfl,rfl,rfl,rfl,rfl,rfl,rfl,rfl,rfl,rfl,rfl,trivial⟩,hS.sel [1,2,0] (by decide),h49,h51⟩
       ·rintro e a w ⟨q53,q55,s55,back_52,queue_54,rfl,rfl,hF,hS,h53,h55⟩
        refine x_ib (n_ib ?_)
        obtain rfl:=someI hb5
        exact ⟨rfl,q53,q55,s55,_,_,rfl,hF.sub ⟨rfl,rfl,rfl,rfl,rfl,rfl,rfl,trivial⟩,hS.sel [1,2,0] (by decide),h53,h55⟩
    ·rintro e a w ⟨q57,rfl,hF,hS,h57⟩
     refine x_ib (n_sq ?_)
     refine q_seq (q_sr (q_m hF rfl fun a hF=>q_m hF rfl fun a hF=>?_))
     obtain ⟨e_58,he_58,hb1⟩:=bindS hb1
     obtain ⟨vs59,at59,d59⟩:=h57.at he_58 1 rfl
     obtain rfl : vs59 = [(iV e_58)]:=d59
     refine q_y (v:=(elP s6 (p_to.toNat * 1))) hF hS (ex_indexAddr U48 sz3 rfl rfl (h57.idx he_58)) fun a hF=>q_y (v:=(iV e_58)) hF hS (ex_loadE1 0 U3 rfl rfl (at59.at 1 rfl) rfl rfl) fun a hF=>q_y (v:=(.bool (decide (e_58 < 0)))) hF hS (ex_ibin rfl rfl rfl) fun a hF=>q_end (n_sq ?_)
     rcases bcase (decide (e_58 < 0)) with hc15 | hc15
     ·have hb1:=cond_f hc15 hb1
      refine q_cond_f hF rfl hc15 (q_skipc (n_sq (q_sr (q_m hF rfl fun a hF=>q_m hF rfl fun a hF=>q_y (v:=(iV (w64 (p_limit - sent_4)))) hF hS (ex_ibin rfl rfl rfl) fun a hF=>q_s hF rfl fun a hF=>q_end (n_sq (q_seq (q_sr (q_m hF rfl fun a hF=>q_s hF rfl fun a hF=>q_end (n_sq (q_block ?_))))))))))
      obtain ⟨step_70,hl16,hb1⟩:=bindS hb1
      refine q_loop (fun (s : Int × Int) a w=>∃ step_60,∃ v_61,s = (step_60,v_61)∧Fr a 149 [(0,s1.v),(1,(iV p_from)),(2,(iV p_to)),(3,(iV p_limit)),(9,(iV sent_4)),(10,s6.v),(16,(iV step_60)),(17,(iV v_61))]∧St X w0 w m [q3,q57]) (fun (step_70 : Int) e a w=>e = .exit 8∧Fr a 149 [(0,s1.v),(1,(iV p_from)),(2,(iV p_to)),(3,(iV p_limit)),(9,(iV sent_4)),(10,s6.v),(16,(iV step_70))]∧St X w0 w m [q3,q57]) hl16 ⟨_,_,rfl,hF.sub ⟨rfl,rfl,rfl,rfl,rfl,rfl,rfl,rfl,trivial⟩,hS⟩ ?_ ?_
      ·clear hF hS
       rintro s a w st ⟨step_60,v_61,rfl,hF,hS⟩ hb16
       unfold impl_push_l5 at hb16
       refine q_seq (q_sr (q_m hF rfl fun a hF=>q_m hF rfl fun a hF=>q_y (v:=(.bool (v_61 != p_from))) hF hS (ex_ibin rfl rfl rfl) fun a hF=>q_end (n_sq ?_)))
       rcases bcase (v_61 != p_from) with hc17 | hc17
       ·have hb16:=cond_f hc17 hb16
        refine q_cond_f hF rfl hc17 (q_exit (x_sq ?_))
        obtain rfl:=someI hb16
        exact ⟨nofun,.inl ⟨rfl,hF.sub ⟨rfl,rfl,rfl,rfl,rfl,rfl,rfl,trivial⟩,hS⟩⟩
       ·have hb16:=cond_t hc17 hb16
        refine q_cond_t hF rfl hc17 (q_skipc (n_sq (q_seq (q_block (q_region (q_m hF rfl fun a hF=>q_m hF rfl fun a hF=>q_m hF rfl fun a hF=>q_m hF rfl fun a hF=>?_))))))
        obtain ⟨e_62,he_62,hb16⟩:=bindS hb16
        obtain ⟨vs63,at63,d63⟩:=h57.at he_62 1 rfl
        obtain rfl : vs63 = [(iV e_62)]:=d63
        refine q_y (v:=(elP s6 (v_61.toNat * 1))) hF hS (ex_indexAddr U48 sz3 rfl rfl (h57.idx he_62)) fun a hF=>q_y (v:=(iV e_62)) hF hS (ex_loadE1 0 U3 rfl rfl (at63.at 1 rfl) rfl rfl) fun a hF=>?_
        obtain ⟨e_64,he_64,hb16⟩:=bindS hb16
        obtain ⟨s65,hV65⟩:=h3.view he_64
        refine q_y (v:=(elP s1 (e_62.toNat * 1))) hF hS (ex_indexAddr U23 sz48 rfl rfl (h3.idx he_64)) fun a hF=>q_y (v:=s65.v) hF hS (ex_loadE1 0 U48 rfl rfl ((hV65.atH he_64).at 0 rfl) rfl rfl) fun a hF=>q_m hF rfl fun a hF=>?_
        obtain ⟨e_66,he_66,hb16⟩:=bindS hb16
        obtain ⟨vs67,at67,d67⟩:=hV65.at he_64 he_66 1 rfl
        obtain rfl : vs67 = [(iV e_66)]:=d67
        refine q_y (v:=(elP s65 (v_61.toNat * 1))) hF hS (ex_indexAddr U48 sz3 rfl rfl (hV65.idx he_64 he_66)) fun a hF=>q_y (v:=(iV e_66)) hF hS (ex_loadE1 0 U3 rfl rfl (at67.at 0 rfl) rfl rfl) fun a hF=>q_y (v:=(iV (min step_60 e_66))) hF hS (ex_min rfl rfl) fun a hF=>q_s hF rfl fun a hF=>q_end (n_ib (n_sq (q_region (q_m hF rfl fun a hF=>q_m hF rfl fun a hF=>?_))))
        obtain ⟨e_68,he_68,hb16⟩:=bindS hb16
        obtain ⟨vs69,at69,d69⟩:=h57.at he_68 1 rfl
        obtain rfl : vs69 = [(iV e_68)]:=d69
        refine q_y (v:=(elP s6 (v_61.toNat * 1))) hF hS (ex_indexAddr U48 sz3 rfl rfl (h57.idx he_68)) fun a hF=>q_y (v:=(iV e_68)) hF hS (ex_loadE1 0 U3 rfl rfl (at69.at 1 rfl) rfl rfl) fun a hF=>q_s hF rfl fun a hF=>q_end ?_
        obtain rfl:=someI hb16
        exact ⟨rfl,_,_,rfl,hF.sub ⟨rfl,rfl,rfl,rfl,rfl,rfl,rfl,rfl,trivial⟩,hS⟩
      ·rintro e a w ⟨rfl,hF,hS⟩
       refine x_ib (n_sq ?_)
       refine q_seq (q_sr (q_m hF rfl fun a hF=>q_s hF rfl fun a hF=>q_end (n_sq (q_block ?_))))
       obtain ⟨r_94,hl18,hb1⟩:=bindS hb1
       refine q_loop (fun (s : (List (List Int)) × Int) a w=>∃ (q72 : Piece),∃ r_71,∃ v_73,s = (r_71,v_73)∧Fr a 149 [(0,s1.v),(1,(iV p_from)),(2,(iV p_to)),(3,(iV p_limit)),(9,(iV sent_4)),(10,s6.v),(16,(iV step_70)),(18,(iV v_73))]∧St X w0 w m [q72,q57]∧OwnD m 48 3 q72 s1 r_71) (fun (r_94 : (List (List Int))) e a w=>∃ (q95 : Piece),e = .exit 10∧Fr a 149 [(0,s1.v),(1,(iV p_from)),(2,(iV p_to)),(3,(iV p_limit)),(9,(iV sent_4)),(16,(iV step_70))]∧St X w0 w m [q95]∧OwnD m 48 3 q95 s1 r_94) hl18 ⟨q3,_,_,rfl,hF.sub ⟨rfl,rfl,rfl,rfl,rfl,rfl,rfl,rfl,trivial⟩,hS,h3⟩ ?_ ?_
       ·clear hF hS
        rintro s a w st ⟨q72,r_71,v_73,rfl,hF,hS,h72⟩ hb18
        unfold impl_push_l6 at hb18
        refine q_seq (q_sr (q_m hF rfl fun a hF=>q_m hF rfl fun a hF=>q_y (v:=(.bool (v_73 != p_from))) hF hS (ex_ibin rfl rfl rfl) fun a hF=>q_end (n_sq ?_)))
        rcases bcase (v_73 != p_from) with hc19 | hc19
        ·have hb18:=cond_f hc19 hb18
         refine q_cond_f hF rfl hc19 (q_exit (x_sq ?_))
         obtain rfl:=someI hb18
         exact ⟨nofun,.inl ⟨q72,rfl,hF.sub ⟨rfl,rfl,rfl,rfl,rfl,rfl,trivial⟩,hS.mask [true,false],h72⟩⟩
        ·have hb18:=cond_t hc19 hb18
         refine q_cond_t hF rfl hc19 (q_skipc (n_sq (q_seq (q_block (q_sr (q_m hF rfl fun a hF=>q_m hF rfl fun a hF=>q_m hF rfl fun a hF=>?_))))))
         obtain ⟨e_74,he_74,hb18⟩:=bindS hb18
         obtain ⟨vs75,at75,d75⟩:=h57.at he_74 1 rfl
         obtain rfl : vs75 = [(iV e_74)]:=d75
         refine q_y (v:=(elP s6 (v_73.toNat * 1))) hF hS (ex_indexAddr U48 sz3 rfl rfl (h57.idx he_74)) fun a hF=>q_y (v:=(iV e_74)) hF hS (ex_loadE1 0 U3 rfl rfl (at75.at 1 rfl) rfl rfl) fun a hF=>?_
         obtain ⟨e_76,he_76,hb18⟩:=bindS hb18
         obtain ⟨s77,hV77⟩:=h72.view he_76
         refine q_y (v:=(elP s1 (e_74.toNat * 1))) hF hS (ex_indexAddr U23 sz48 rfl rfl (h72.idx he_76)) fun a hF=>q_y (v:=s77.v) hF hS (ex_loadE1 0 U48 rfl rfl ((hV77.atH he_76).at 0 rfl) rfl rfl) fun a hF=>q_m hF rfl fun a hF=>?_
         obtain ⟨e_78,he_78,hb18⟩:=bindS hb18
         obtain ⟨vs79,at79,d79⟩:=hV77.at he_76 he_78 1 rfl
         obtain rfl : vs79 = [(iV e_78)]:=d79
         refine q_y (v:=(elP s77 (v_73.toNat * 1))) hF hS (ex_indexAddr U48 sz3 rfl rfl (hV77.idx he_76 he_78)) fun a hF=>q_y (v:=(iV e_78)) hF hS (ex_loadE1 0 U3 rfl rfl (at79.at 0 rfl) rfl rfl) fun a hF=>q_m hF rfl fun a hF=>q_y (v:=(iV (w64 (e_78 - step_70)))) hF hS (ex_ibin rfl rfl rfl) fun a hF=>?_
         obtain ⟨e_80,he_80,hb18⟩:=bindS hb18
         obtain ⟨vs81,at81,d81⟩:=hV77.at he_76 he_80 1 rfl
         obtain rfl : vs81 = [(iV e_80)]:=d81
         refine q_y (v:=(elP s77 (v_73.toNat * 1))) hF hS (ex_indexAddr U48 sz3 rfl rfl (hV77.idx he_76 he_80)) fun a hF=>q_do rfl fun _ hK=>wp_storeV (e':=(w64 (e_78 - step_70))) (us:=[(iV (w64 (e_78 - step_70)))]) (vs:=[(iV e_80)]) 0 hF hS hV77 he_76 sz3 rfl rfl rfl rfl rfl rfl rfl he_80 at81 rfl rfl rfl fun w q82 hS h82=>hK _ _ (q_end (n_sq (e_region ⟨[13],[],m⟩ mixed fun w' hw'=>?_)))
         have hS:=hS.below hw'
         refine e_P (v:=s1.v) 0 hF rfl (ex_move rfl) fun a hF=>e_P (v:=(iV v_73)) 1 hF rfl (ex_move rfl) fun a hF=>?_
         obtain ⟨e_83,he_83,hb18⟩:=bindS hb18
         obtain ⟨s84,hV84⟩:=h82.own.view he_83
         refine e_P (v:=(elP s1 (v_73.toNat * 1))) 2 hF rfl (ex_indexAddr U23 sz48 rfl rfl (h82.own.idx he_83)) fun a hF=>e_X (v:=s84.v) 3 hF hS rfl (ex_loadE1 0 U48 rfl rfl ((hV84.atH he_83).at 0 rfl) rfl rfl) fun a hF=>e_P (v:=s6.v) 4 hF rfl (ex_move rfl) fun a hF=>e_P (v:=(iV v_73)) 5 hF rfl (ex_move rfl) fun a hF=>?_
         obtain ⟨e_85,he_85,hb18⟩:=bindS hb18
         obtain ⟨vs86,at86,d86⟩:=h57.at he_85 1 rfl
         obtain rfl : vs86 = [(iV e_85)]:=d86
         refine e_P (v:=(elP s6 (v_73.toNat * 1))) 6 hF rfl (ex_indexAddr U48 sz3 rfl rfl (h57.idx he_85)) fun a hF=>e_X (v:=(iV e_85)) 7 hF hS rfl (ex_loadE1 0 U3 rfl rfl (at86.at 1 rfl) rfl rfl) fun a hF=>?_
         obtain ⟨e_87,he_87,hb18⟩:=bindS hb18
         obtain ⟨vs88,at88,d88⟩:=hV84.at he_83 he_87 1 rfl
         obtain rfl : vs88 = [(iV e_87)]:=d88
         refine e_P (v:=(elP s84 (e_85.toNat * 1))) 8 hF rfl (ex_indexAddr U48 sz3 rfl rfl (hV84.idx he_83 he_87)) fun a hF=>e_X (v:=(iV e_87)) 9 hF hS rfl (ex_loadE1 0 U3 rfl rfl (at88.at 0 rfl) rfl rfl) fun a hF=>e_P (v:=(iV step_70)) 10 hF rfl (ex_move rfl) fun a hF=>e_P (v:=(iV (w64 (e_87 + step_70)))) 11 hF rfl (ex_ibin rfl rfl rfl) fun a hF=>?_
         obtain ⟨e_89,he_89,hb18⟩:=bindS hb18
         obtain ⟨vs90,at90,d90⟩:=hV84.at he_83 he_89 1 rfl
         obtain rfl : vs90 = [(iV e_89)]:=d90
         refine e_P (v:=(elP s84 (e_85.toNat * 1))) 12 hF rfl (ex_indexAddr U48 sz3 rfl rfl (hV84.idx he_83 he_89)) fun a hF=>e_one 13 (by kernel_rfl) (e_opl rfl rfl rfl fun _ hK=>wp_storeV (e':=(w64 (e_87 + step_70))) (us:=[(iV (w64 (e_87 + step_70)))]) (vs:=[(iV e_89)]) 0 hF hS hV84 he_83 sz3 rfl rfl rfl rfl rfl rfl rfl he_89 at90 rfl rfl rfl fun w q91 hS h91=>hK _ _ (⟨⟨kpN,fun _=>hS.vis.of_le (Mem.le.refl _)⟩,?_⟩))
         refine e_end (by kernel_rfl) (n_ib (n_sq ?_)) _
         refine q_region (q_m hF rfl fun a hF=>q_m hF rfl fun a hF=>?_)
         obtain ⟨e_92,he_92,hb18⟩:=bindS hb18
         obtain ⟨vs93,at93,d93⟩:=h57.at he_92 1 rfl
         obtain rfl : vs93 = [(iV e_92)]:=d93
         refine q_y (v:=(elP s6 (v_73.toNat * 1))) hF hS (ex_indexAddr U48 sz3 rfl rfl (h57.idx he_92)) fun a hF=>q_y (v:=(iV e_92)) hF hS (ex_loadE1 0 U3 rfl rfl (at93.at 1 rfl) rfl rfl) fun a hF=>q_s hF rfl fun a hF=>q_end ?_
         obtain rfl:=someI hb18
         exact ⟨rfl,q91,_,_,rfl,hF.sub ⟨rfl,rfl,rfl,rfl,rfl,rfl,rfl,rfl,trivial⟩,hS,h91.own⟩
       ·rintro e a w ⟨q95,rfl,hF,hS,h95⟩
        refine x_ib (n_sq ?_)
        refine q_region (q_m hF rfl fun a hF=>q_m hF rfl fun a hF=>q_y (v:=(iV (w64 (sent_4 + step_70)))) hF hS (ex_ibin rfl rfl rfl) fun a hF=>q_s hF rfl fun a hF=>q_end (n_ib ?_))
        obtain rfl:=someI hb1
        exact ⟨rfl,q95,_,_,rfl,hF.sub ⟨rfl,rfl,rfl,rfl,rfl,trivial⟩,hS,h95⟩
     ·have hb1:=cond_t hc15 hb1
      refine q_cond_t hF rfl hc15 (q_exit (x_sq (x_ibn rfl ?_)))
      obtain rfl:=someI hb1
      exact ⟨nofun,.inl ⟨q3,_,_,rfl,rfl,hF.sub ⟨rfl,trivial⟩,hS.mask [true,false],h3⟩⟩
 ·rintro e a w ⟨q97,r_96,sent_98,rfl,rfl,hF,hS,h97⟩
  refine x_ib (n_sq ?_)
  refine q_sr (q_m hF rfl fun a hF=>q_s hF rfl fun a hF=>q_end (n_sq (q_ret ?_)))
  obtain rfl:=someI hr
  exact ret_ofX hF hS rfl (.tmp rfl .nil) ⟨q97,rfl,hS.sel [0] (by decide),h97⟩

theorem c_impl_residual (p_t : impl_Transport) (p_x : List (List Int)) (p_fixed : Int) (r : (List (List Int))) (hr : impl_residual p_t p_x p_fixed = some r) (w0 : World) (m : Mem) (hv : Vis m w0) (s1 : Sl) (h1 : Rd m s1 p_t.Rows) (s2 : Sl) (h2 : Rd m s2 p_t.Cols) (s3 : Sl) (h3 : Rd m s3 p_t.Lo) (s4 : Sl) (h4 : Rd m s4 p_t.Hi) (s5 : Sl) (h5 : Rd m s5 p_x) :
  Ret Tryz.prog 95 [(.agg #[s1.v,s2.v,s3.v,s4.v]),s5.v,(iV p_fixed)] w0 (fun v w=>∃ (q0' : Piece) (s0' : Sl),v = s0'.v∧St [] w0 w m [q0']∧OwnD m 48 3 q0' s0' r):=by
 unfold impl_residual at hr
 refine ret_start Tryz.func95 rfl 98 rfl rfl m hv fun a hF hS=>q_sr (q_box (cs:=[s1.v,s2.v,s3.v,s4.v]) hF hS rfl rfl rfl fun a w b6 hF hS=>q_s hF rfl fun a hF=>q_end (n_sq (q_seq (e_region ⟨[],[],m⟩ mixed fun w' hw'=>?_))))
 have hS:=hS.below hw'
 refine e_P (v:=(pP b6 0)) 0 hF rfl (ex_fieldAddr U76 rfl sz48 rfl rfl) fun a hF=>e_X (v:=s1.v) 1 hF hS rfl (ex_load1 0 0 U48 rfl rfl rfl rfl) fun a hF=>e_P (v:=(iV (goLen p_t.Rows))) 2 hF rfl (ex_len U48 rfl h1.len) fun a hF=>e_P (v:=(pP b6 1)) 3 hF rfl (ex_fieldAddr U76 rfl sz48 rfl rfl) fun a hF=>e_X (v:=s2.v) 4 hF hS rfl (ex_load1 0 0 U48 rfl rfl rfl rfl) fun a hF=>e_P (v:=(iV (goLen p_t.Cols))) 5 hF rfl (ex_len U48 rfl h2.len) fun a hF=>e_P (v:=(iV (goLen p_t.Rows))) 6 hF rfl (ex_assign rfl) fun a hF=>e_P (v:=(iV (goLen p_t.Cols))) 7 hF rfl (ex_assign rfl) fun a hF=>e_end (by kernel_rfl) (n_sq ?_) _
 refine q_sr (q_m hF rfl fun a hF=>q_m hF rfl fun a hF=>q_y (v:=(iV (w64 ((goLen p_t.Rows) + (goLen p_t.Cols))))) hF hS (ex_ibin rfl rfl rfl) fun a hF=>?_)
 obtain ⟨l_7,hl_7,hr⟩:=bindS hr
 refine q_do rfl fun _ hK=>wp_makeD (Ei:=3) hF hS U23 inf48 rfl rfl rfl (by decide) hl_7 rfl fun a w q8 s8 hF hS h8 _=>hK _ _ (q_s hF rfl fun a hF=>q_end (n_sq (q_seq (q_sr (q_m hF rfl fun a hF=>q_y (v:=(iV (goLen l_7))) hF hS (ex_len U23 rfl h8.len) fun a hF=>q_m hF rfl fun a hF=>q_end (n_sq (q_block ?_)))))))
 obtain ⟨r_17,hl1,hr⟩:=bindS hr
 refine q_loop (fun (s : (List (List Int)) × Int) a w=>∃ (q10 : Piece),∃ r_9,∃ t_11,s = (r_9,t_11)∧Fr a 98 [(1,s5.v),(2,(iV p_fixed)),(3,(pP b6 0)),(7,(iV (goLen p_t.Rows))),(8,(iV (goLen p_t.Cols))),(9,s8.v),(26,(iV (goLen l_7))),(27,(iV t_11))]∧St [] w0 w m [q10,[⟨b6,[s1.v,s2.v,s3.v,s4.v],76⟩]]∧OwnD m 48 3 q10 s8 r_9) (fun (r_17 : (List (List Int))) e a w=>∃ (q18 : Piece),e = .exit 0∧Fr a 98 [(1,s5.v),(2,(iV p_fixed)),(3,(pP b6 0)),(7,(iV (goLen p_t.Rows))),(8,(iV (goLen p_t.Cols))),(9,s8.v)]∧St [] w0 w m [q18,[⟨b6,[s1.v,s2.v,s3.v,s4.v],76⟩]]∧OwnD m 48 3 q18 s8 r_17) hl1 ⟨q8,_,_,rfl,hF.sub ⟨rfl,rfl,rfl,rfl,rfl,rfl,rfl,rfl,trivial⟩,hS,h8⟩ ?_ ?_
 ·clear hF hS
  rintro s a w st ⟨q10,r_9,t_11,rfl,hF,hS,h10⟩ hb1
  unfold impl_residual_l1 at hb1
  refine q_sr (q_y (v:=(.bool (decide (t_11 < (goLen l_7))))) hF hS (ex_ibin rfl rfl rfl) fun a hF=>q_end (n_sq (q_seq ?_)))
  rcases bcase (decide (t_11 < (goLen l_7))) with hc2 | hc2
  ·have hb1:=cond_f hc2 hb1
   refine q_cond_f hF rfl hc2 (q_exit (x_sq ?_))
   obtain rfl:=someI hb1
   exact ⟨nofun,.inl ⟨q10,rfl,hF.sub ⟨rfl,rfl,rfl,rfl,rfl,rfl,trivial⟩,hS,h10⟩⟩
  ·have hb1:=cond_t hc2 hb1
   refine q_cond_t hF rfl hc2 (q_skipc (n_sq (q_seq (q_block (q_sr (q_m hF rfl fun a hF=>q_s hF rfl fun a hF=>q_end (n_sq (q_region (q_m hF rfl fun a hF=>q_m hF rfl fun a hF=>q_m hF rfl fun a hF=>q_m hF rfl fun a hF=>q_y (v:=(iV (w64 ((goLen p_t.Rows) + (goLen p_t.Cols))))) hF hS (ex_ibin rfl rfl rfl) fun a hF=>?_)))))))))
   obtain ⟨l_12,hl_12,hb1⟩:=bindS hb1
   refine q_do rfl fun _ hK=>wp_make (z:=(0 : Int)) hF hS U48 inf3 rfl rfl rfl rfl rfl (by decide) hl_12 rfl fun a w q13 s13 hF hS h13 _=>hK _ _ ?_
   obtain ⟨e_14,he_14,hb1⟩:=bindS hb1
   obtain ⟨s15,hV15⟩:=h10.view he_14
   refine q_y (v:=(elP s8 (t_11.toNat * 1))) hF hS (ex_indexAddr U23 sz48 rfl rfl (h10.idx he_14)) fun a hF=>?_
   have hS : St _ _ _ _ [q10,q13,[⟨b6,[s1.v,s2.v,s3.v,s4.v],76⟩]]:=hS.sel [1,0,2] (by decide)
   refine q_do rfl fun _ hK=>wp_storeD hF hS h10 h13 sz48 rfl rfl he_14 rfl fun w q16 hS h16=>hK _ _ (q_end (n_ib (n_sq (q_region (q_y (v:=(iV (w64 (t_11 + 1)))) hF hS (ex_ibin rfl rfl rfl) fun a hF=>q_m hF rfl fun a hF=>q_end ?_)))))
   obtain rfl:=someI hb1
   exact ⟨rfl,q16,_,_,rfl,hF.sub ⟨rfl,rfl,rfl,rfl,rfl,rfl,rfl,rfl,trivial⟩,hS,h16⟩
 ·rintro e a w ⟨q18,rfl,hF,hS,h18⟩
  refine x_ib (n_sq ?_)
  refine q_seq (q_sr (q_m hF rfl fun a hF=>q_y (v:=(iV (goLen p_x))) hF hS (ex_len U23 rfl h5.len) fun a hF=>q_m hF rfl fun a hF=>q_end (n_sq (q_block ?_))))
  obtain ⟨r_54,hl3,hr⟩:=bindS hr
  refine q_loop (fun (s : (List (List Int)) × Int) a w=>∃ (q20 : Piece),∃ r_19,∃ t_21,s = (r_19,t_21)∧Fr a 98 [(2,(iV p_fixed)),(3,(pP b6 0)),(7,(iV (goLen p_t.Rows))),(8,(iV (goLen p_t.Cols))),(9,s8.v),(38,s5.v),(39,(iV (goLen p_x))),(40,(iV t_21))]∧St [] w0 w m [q20,[⟨b6,[s1.v,s2.v,s3.v,s4.v],76⟩]]∧OwnD m 48 3 q20 s8 r_19) (fun (r_54 : (List (List Int))) e a w=>∃ (q55 : Piece),e = .exit 2∧Fr a 98 [(9,s8.v)]∧St [] w0 w m [q55]∧OwnD m 48 3 q55 s8 r_54) hl3 ⟨q18,_,_,rfl,hF.sub ⟨rfl,rfl,rfl,rfl,rfl,rfl,rfl,rfl,trivial⟩,hS,h18⟩ ?_ ?_
  ·clear hF hS
   rintro s a w st ⟨q20,r_19,t_21,rfl,hF,hS,h20⟩ hb3
   unfold impl_residual_l2 at hb3
   refine q_sr (q_y (v:=(.bool (decide (t_21 < (goLen p_x))))) hF hS (ex_ibin rfl rfl rfl) fun a hF=>q_end (n_sq (q_seq ?_)))
   rcases bcase (decide (t_21 < (goLen p_x))) with hc4 | hc4
   ·have hb3:=cond_f hc4 hb3
    refine q_cond_f hF rfl hc4 (q_exit (x_sq ?_))
    obtain rfl:=someI hb3
    exact ⟨nofun,.inl ⟨q20,rfl,hF.sub ⟨rfl,trivial⟩,hS.mask [true,false],h20⟩⟩
   ·have hb3:=cond_t hc4 hb3
    refine q_cond_t hF rfl hc4 (q_skipc (n_sq (q_seq (q_block (q_sr (q_m hF rfl fun a hF=>?_))))))
    obtain ⟨e_22,he_22,hb3⟩:=bindS hb3
    obtain ⟨vs23,at23,d23⟩:=h5.at he_22 1 rfl
    obtain ⟨s24,rfl,h24⟩ : ∃ s24 : Sl,vs23 = [s24.v]∧Rd m s24 e_22:=d23
    refine q_y (v:=(elP s5 (t_21.toNat * 1))) hF hS (ex_indexAddr U23 sz48 rfl rfl (h5.idx he_22)) fun a hF=>q_y (v:=s24.v) hF hS (ex_loadE1 0 U48 rfl rfl ((at23).at) rfl rfl) fun a hF=>q_s hF rfl fun a hF=>q_s hF rfl fun a hF=>q_end (n_sq (q_sr (q_m hF rfl fun a hF=>q_y (v:=(iV (goLen e_22))) hF hS (ex_len U48 rfl h24.len) fun a hF=>q_m hF rfl fun a hF=>q_end (n_sq (q_block ?_)))))
    obtain ⟨r_52,hl5,hb3⟩:=bindS hb3
    refine q_loop (fun (s : (List (List Int)) × Int) a w=>∃ (q26 : Piece),∃ r_25,∃ t_27,s = (r_25,t_27)∧Fr a 98 [(2,(iV p_fixed)),(3,(pP b6 0)),(7,(iV (goLen p_t.Rows))),(8,(iV (goLen p_t.Cols))),(9,s8.v),(11,(iV t_21)),(38,s5.v),(39,(iV (goLen p_x))),(40,(iV t_21)),(45,s24.v),(46,(iV (goLen e_22))),(47,(iV t_27))]∧St [] w0 w m [q26,[⟨b6,[s1.v,s2.v,s3.v,s4.v],76⟩]]∧OwnD m 48 3 q26 s8 r_25) (fun (r_52 : (List (List Int))) e a w=>∃ (q53 : Piece),e = .exit 4∧Fr a 98 [(2,(iV p_fixed)),(3,(pP b6 0)),(7,(iV (goLen p_t.Rows))),(8,(iV (goLen p_t.Cols))),(9,s8.v),(38,s5.v),(39,(iV (goLen p_x))),(40,(iV t_21))]∧St [] w0 w m [q53,[⟨b6,[s1.v,s2.v,s3.v,s4.v],76⟩]]∧OwnD m 48 3 q53 s8 r_52) hl5 ⟨q20,_,_,rfl,hF.sub ⟨rfl,rfl,rfl,rfl,rfl,rfl,rfl,rfl,rfl,rfl,rfl,rfl,trivial⟩,hS,h20⟩ ?_ ?_
    ·clear hF hS
     rintro s a w st ⟨q26,r_25,t_27,rfl,hF,hS,h26⟩ hb5
     unfold impl_residual_l3 at hb5
     refine q_sr (q_y (v:=(.bool (decide (t_27 < (goLen e_22))))) hF hS (ex_ibin rfl rfl rfl) fun a hF=>q_end (n_sq (q_seq ?_)))
     rcases bcase (decide (t_27 < (goLen e_22))) with hc6 | hc6
     ·have hb5:=cond_f hc6 hb5
      refine q_cond_f hF rfl hc6 (q_exit (x_sq ?_))
      obtain rfl:=someI hb5
      exact ⟨nofun,.inl ⟨q26,rfl,hF.sub ⟨rfl,rfl,rfl,rfl,rfl,rfl,rfl,rfl,trivial⟩,hS,h26⟩⟩
     ·have hb5:=cond_t hc6 hb5
      refine q_cond_t hF rfl hc6 (q_skipc (n_sq (q_seq (q_block (q_sr (q_m hF rfl fun a hF=>?_))))))
      obtain ⟨e_28,he_28,hb5⟩:=bindS hb5
      obtain ⟨vs29,at29,d29⟩:=h24.at he_28 1 rfl
      obtain rfl : vs29 = [(iV e_28)]:=d29
      refine q_y (v:=(elP s24 (t_27.toNat * 1))) hF hS (ex_indexAddr U48 sz3 rfl rfl (h24.idx he_28)) fun a hF=>q_y (v:=(iV e_28)) hF hS (ex_loadE1 0 U3 rfl rfl ((at29).at) rfl rfl) fun a hF=>q_s hF rfl fun a hF=>q_s hF rfl fun a hF=>q_end (n_sq (q_sr (q_m hF rfl fun a hF=>q_m hF rfl fun a hF=>q_y (v:=(iV (w64 (t_21 * (goLen p_t.Cols))))) hF hS (ex_ibin rfl rfl rfl) fun a hF=>q_m hF rfl fun a hF=>q_y (v:=(iV (w64 ((w64 (t_21 * (goLen p_t.Cols))) + t_27)))) hF hS (ex_ibin rfl rfl rfl) fun a hF=>q_m hF rfl fun a hF=>q_y (v:=(.bool (decide (p_fixed < (w64 ((w64 (t_21 * (goLen p_t.Cols))) + t_27)))))) hF hS (ex_ibin rfl rfl rfl) fun a hF=>q_end (n_sq ?_))))
      obtain ⟨r_50,hj7,hb5⟩:=bindS hb5
      refine q_join (fun a w=>∃ (q51 : Piece),Fr a 98 [(2,(iV p_fixed)),(3,(pP b6 0)),(7,(iV (goLen p_t.Rows))),(8,(iV (goLen p_t.Cols))),(9,s8.v),(11,(iV t_21)),(38,s5.v),(39,(iV (goLen p_x))),(40,(iV t_21)),(45,s24.v),(46,(iV (goLen e_22))),(47,(iV t_27))]∧St [] w0 w m [q51,[⟨b6,[s1.v,s2.v,s3.v,s4.v],76⟩]]∧OwnD m 48 3 q51 s8 r_50) ?_ ?_
      ·rcases bcase (decide (p_fixed < (w64 ((w64 (t_21 * (goLen p_t.Cols))) + t_27)))) with hc8 | hc8
       ·have hj7:=cond_f hc8 hj7
        refine q_cond_f hF rfl hc8 (q_skipc (n_jn ?_))
        obtain rfl:=someI hj7
        exact ⟨q26,hF.sub ⟨rfl,rfl,rfl,rfl,rfl,rfl,rfl,rfl,rfl,rfl,rfl,rfl,trivial⟩,hS,h26⟩
       ·have hj7:=cond_t hc8 hj7
        refine q_cond_t hF rfl hc8 (q_seq (e_region ⟨[18],[b6],m⟩ mixed fun w' hw'=>?_))
        have hS:=hS.below hw'
        refine e_P (v:=s8.v) 0 hF rfl (ex_move rfl) fun a hF=>e_P (v:=(iV t_21)) 1 hF rfl (ex_move rfl) fun a hF=>?_
        obtain ⟨e_30,he_30,hj7⟩:=bindS hj7
        obtain ⟨s31,hV31⟩:=h26.view he_30
        refine e_P (v:=(elP s8 (t_21.toNat * 1))) 2 hF rfl (ex_indexAddr U23 sz48 rfl rfl (h26.idx he_30)) fun a hF=>e_X (v:=s31.v) 3 hF hS rfl (ex_loadE1 0 U48 rfl rfl ((hV31.atH he_30).at 0 rfl) rfl rfl) fun a hF=>e_P (v:=(iV (goLen p_t.Rows))) 4 hF rfl (ex_move rfl) fun a hF=>e_P (v:=(iV t_27)) 5 hF rfl (ex_move rfl) fun a hF=>e_P (v:=(iV (w64 ((goLen p_t.Rows) + t_27)))) 6 hF rfl (ex_ibin rfl rfl rfl) fun a hF=>e_P (v:=(pP b6 3)) 7 hF rfl (ex_fieldAddr U76 rfl sz23 rfl rfl) fun a hF=>e_xb (v:=s4.v) 8 1 hF hS (.head _) rfl rfl (ex_load1 0 0 U23 rfl rfl rfl rfl) rfl rfl (by kernel_rfl) (by kernel_rfl) (by kernel_rfl) fun a hF=>e_P (v:=(iV t_21)) 9 hF rfl (ex_move rfl) fun a hF=>?_
        obtain ⟨e_32,he_32,hj7⟩:=bindS hj7
        obtain ⟨vs33,at33,d33⟩:=h4.at he_32 1 rfl
        obtain ⟨s34,rfl,h34⟩ : ∃ s34 : Sl,vs33 = [s34.v]∧Rd m s34 e_32:=d33
        refine e_P (v:=(elP s4 (t_21.toNat * 1))) 10 hF rfl (ex_indexAddr U23 sz48 rfl rfl (h4.idx he_32)) fun a hF=>e_xm (v:=s34.v) 11 hF hS (Mem.le.refl _) rfl (ex_loadE1 0 U48 rfl rfl ((at33).at) rfl rfl) rfl rfl (by kernel_rfl) (by kernel_rfl) (by kernel_rfl) fun a hF=>e_P (v:=(iV t_27)) 12 hF rfl (ex_move rfl) fun a hF=>?_
        obtain ⟨e_35,he_35,hj7⟩:=bindS hj7
        obtain ⟨vs36,at36,d36⟩:=h34.at he_35 1 rfl
        obtain rfl : vs36 = [(iV e_35)]:=d36
        refine e_P (v:=(elP s34 (t_27.toNat * 1))) 13 hF rfl (ex_indexAddr U48 sz3 rfl rfl (h34.idx he_35)) fun a hF=>e_xm (v:=(iV e_35)) 14 hF hS (Mem.le.refl _) rfl (ex_loadE1 0 U3 rfl rfl ((at36).at) rfl rfl) rfl rfl (by kernel_rfl) (by kernel_rfl) (by kernel_rfl) fun a hF=>e_P (v:=(iV e_28)) 15 hF rfl (ex_move rfl) fun a hF=>e_P (v:=(iV (w64 (e_35 - e_28)))) 16 hF rfl (ex_ibin rfl rfl rfl) fun a hF=>?_
        obtain ⟨e_37,he_37,hj7⟩:=bindS hj7
        obtain ⟨vs38,at38,d38⟩:=hV31.at he_30 he_37 1 rfl
        obtain rfl : vs38 = [(iV e_37)]:=d38
        refine e_P (v:=(elP s31 ((w64 ((goLen p_t.Rows) + t_27)).toNat * 1))) 17 hF rfl (ex_indexAddr U48 sz3 rfl rfl (hV31.idx he_30 he_37)) fun a hF=>e_one 18 (by kernel_rfl) ?_
        have hSo:=hS
        refine e_opl rfl rfl rfl fun _ hK=>wp_storeV (e':=(w64 (e_35 - e_28))) (us:=[(iV (w64 (e_35 - e_28)))]) (vs:=[(iV e_37)]) 0 hF hS hV31 he_30 sz3 rfl rfl rfl rfl rfl rfl rfl he_37 at38 rfl rfl rfl fun w q39 hS h39=>hK _ _ (⟨⟨kpC hSo hS 1 1 rfl rfl kpN,fun _=>hS.vis.of_le (Mem.le.refl _)⟩,?_⟩)
        refine e_end (by kernel_rfl) (n_sq ?_) _
        refine e_region ⟨[18],[b6],m⟩ mixed fun w' hw'=>?_
        have hS:=hS.below hw'
        refine e_P (v:=s8.v) 0 hF rfl (ex_move rfl) fun a hF=>e_P (v:=(iV (goLen p_t.Rows))) 1 hF rfl (ex_move rfl) fun a hF=>e_P (v:=(iV t_27)) 2 hF rfl (ex_move rfl) fun a hF=>e_P (v:=(iV (w64 ((goLen p_t.Rows) + t_27)))) 3 hF rfl (ex_ibin rfl rfl rfl) fun a hF=>?_
        obtain ⟨e_40,he_40,hj7⟩:=bindS hj7
        obtain ⟨s41,hV41⟩:=h39.own.view he_40
        refine e_P (v:=(elP s8 ((w64 ((goLen p_t.Rows) + t_27)).toNat * 1))) 4 hF rfl (ex_indexAddr U23 sz48 rfl rfl (h39.own.idx he_40)) fun a hF=>e_X (v:=s41.v) 5 hF hS rfl (ex_loadE1 0 U48 rfl rfl ((hV41.atH he_40).at 0 rfl) rfl rfl) fun a hF=>e_P (v:=(iV t_21)) 6 hF rfl (ex_move rfl) fun a hF=>e_P (v:=(iV e_28)) 7 hF rfl (ex_move rfl) fun a hF=>e_P (v:=(pP b6 2)) 8 hF rfl (ex_fieldAddr U76 rfl sz23 rfl rfl) fun a hF=>e_xb (v:=s3.v) 9 1 hF hS (.head _) rfl rfl (ex_load1 0 0 U23 rfl rfl rfl rfl) rfl rfl (by kernel_rfl) (by kernel_rfl) (by kernel_rfl) fun a hF=>e_P (v:=(iV t_21)) 10 hF rfl (ex_move rfl) fun a hF=>?_
        obtain ⟨e_42,he_42,hj7⟩:=bindS hj7
        obtain ⟨vs43,at43,d43⟩:=h3.at he_42 1 rfl
        obtain ⟨s44,rfl,h44⟩ : ∃ s44 : Sl,vs43 = [s44.v]∧Rd m s44 e_42:=d43
        refine e_P (v:=(elP s3 (t_21.toNat * 1))) 11 hF rfl (ex_indexAddr U23 sz48 rfl rfl (h3.idx he_42)) fun a hF=>e_xm (v:=s44.v) 12 hF hS (Mem.le.refl _) rfl (ex_loadE1 0 U48 rfl rfl ((at43).at) rfl rfl) rfl rfl (by kernel_rfl) (by kernel_rfl) (by kernel_rfl) fun a hF=>e_P (v:=(iV t_27)) 13 hF rfl (ex_move rfl) fun a hF=>?_
        obtain ⟨e_45,he_45,hj7⟩:=bindS hj7
        obtain ⟨vs46,at46,d46⟩:=h44.at he_45 1 rfl
        obtain rfl : vs46 = [(iV e_45)]:=d46
        refine e_P (v:=(elP s44 (t_27.toNat * 1))) 14 hF rfl (ex_indexAddr U48 sz3 rfl rfl (h44.idx he_45)) fun a hF=>e_xm (v:=(iV e_45)) 15 hF hS (Mem.le.refl _) rfl (ex_loadE1 0 U3 rfl rfl ((at46).at) rfl rfl) rfl rfl (by kernel_rfl) (by kernel_rfl) (by kernel_rfl) fun a hF=>e_P (v:=(iV (w64 (e_28 - e_45)))) 16 hF rfl (ex_ibin rfl rfl rfl) fun a hF=>?_
        obtain ⟨e_47,he_47,hj7⟩:=bindS hj7
        obtain ⟨vs48,at48,d48⟩:=hV41.at he_40 he_47 1 rfl
        obtain rfl : vs48 = [(iV e_47)]:=d48
        refine e_P (v:=(elP s41 (t_21.toNat * 1))) 17 hF rfl (ex_indexAddr U48 sz3 rfl rfl (hV41.idx he_40 he_47)) fun a hF=>e_one 18 (by kernel_rfl) ?_
        have hSo:=hS
        refine e_opl rfl rfl rfl fun _ hK=>wp_storeV (e':=(w64 (e_28 - e_45))) (us:=[(iV (w64 (e_28 - e_45)))]) (vs:=[(iV e_47)]) 0 hF hS hV41 he_40 sz3 rfl rfl rfl rfl rfl rfl rfl he_47 at48 rfl rfl rfl fun w q49 hS h49=>hK _ _ (⟨⟨kpC hSo hS 1 1 rfl rfl kpN,fun _=>hS.vis.of_le (Mem.le.refl _)⟩,?_⟩)
        refine e_end (by kernel_rfl) (n_jn ?_) _
        obtain rfl:=someI hj7
        exact ⟨q49,hF.sub ⟨rfl,rfl,rfl,rfl,rfl,rfl,rfl,rfl,rfl,rfl,rfl,rfl,trivial⟩,hS,h49.own⟩
      ·rintro a w ⟨q51,hF,hS,h51⟩
       refine n_ib (n_sq ?_)
       refine q_region (q_y (v:=(iV (w64 (t_27 + 1)))) hF hS (ex_ibin rfl rfl rfl) fun a hF=>q_m hF rfl fun a hF=>q_end ?_)
       obtain rfl:=someI hb5
       exact ⟨rfl,q51,_,_,rfl,hF.sub ⟨rfl,rfl,rfl,rfl,rfl,rfl,rfl,rfl,rfl,rfl,rfl,rfl,trivial⟩,hS,h51⟩
    ·rintro e a w ⟨q53,rfl,hF,hS,h53⟩
     refine x_ib (n_ib (n_sq ?_))
     refine q_region (q_y (v:=(iV (w64 (t_21 + 1)))) hF hS (ex_ibin rfl rfl rfl) fun a hF=>q_m hF rfl fun a hF=>q_end ?_)
     obtain rfl:=someI hb3
     exact ⟨rfl,q53,_,_,rfl,hF.sub ⟨rfl,rfl,rfl,rfl,rfl,rfl,rfl,rfl,trivial⟩,hS,h53⟩
  ·rintro e a w ⟨q55,rfl,hF,hS,h55⟩
   refine x_ib (n_sq ?_)
   refine q_sr (q_m hF rfl fun a hF=>q_s hF rfl fun a hF=>q_end (n_sq (q_ret ?_)))
   obtain rfl:=someI hr
   exact ret_of hF hS rfl (.tmp rfl .nil) ⟨q55,s8,rfl,hS.sel [0] (by decide),h55⟩

theorem c_impl_rangeOf_1 (p_x0 : impl_Transport) (p_x1 : List (List Int)) (p_x2 : Int) (p_x3 : Int) (p_x4 : Int) (r : (List (List Int))) (hr : impl_rangeOf_1 p_x0 p_x1 p_x2 p_x3 p_x4 = some r) (w0 : World) (m : Mem) (b_p_x0 : Nat) (b_p_x1 : Nat) (b_p_x2 : Nat) (b_p_x3 : Nat) (b_p_x4 : Nat) (s1 : Sl) (h1 : Rd m s1 p_x0.Rows) (s2 : Sl) (h2 : Rd m s2 p_x0.Cols) (s3 : Sl) (h3 : Rd m s3 p_x0.Lo) (s4 : Sl) (h4 : Rd m s4 p_x0.Hi) (s5 : Sl) (h5 : Rd m s5 p_x1) (X : List Nat) (hS : St X w0 w0 m [[⟨b_p_x0,[s1.v,s2.v,s3.v,s4.v],76⟩],[⟨b_p_x1,[s5.v],23⟩],[⟨b_p_x2,[(iV p_x2)],3⟩],[⟨b_p_x3,[(iV p_x3)],3⟩],[⟨b_p_x4,[(iV p_x4)],3⟩]]) :
  RetX Tryz.prog 94 [(pP b_p_x0 0),(pP b_p_x1 0),(pP b_p_x2 0),(pP b_p_x3 0),(pP b_p_x4 0)] w0 (fun v w=>∃ (q0' : Piece) (s0' : Sl),v = s0'.v∧St X w0 w m [[⟨b_p_x0,[s1.v,s2.v,s3.v,s4.v],76⟩],[⟨b_p_x1,[s5.v],23⟩],[⟨b_p_x2,[(iV p_x2)],3⟩],[⟨b_p_x3,[(iV p_x3)],3⟩],[⟨b_p_x4,[(iV p_x4)],3⟩],q0']∧OwnD m 48 3 q0' s0' r):=by
 unfold impl_rangeOf_1 at hr
 refine ret_startX Tryz.func94 rfl 27 rfl rfl fun a hF=>q_sr (q_s hF rfl fun a hF=>q_end (n_sq (q_sr (q_y (v:=(.agg #[s1.v,s2.v,s3.v,s4.v])) hF hS (ex_loadA (vs:=[s1.v,s2.v,s3.v,s4.v]) 0 0 U76 rfl sz76 rfl rfl rfl rfl) fun a hF=>q_y (v:=s5.v) hF hS (ex_load1 1 0 U23 rfl rfl rfl rfl) fun a hF=>?_))))
 obtain ⟨t_6,ht_6,hr⟩:=bindS hr
 refine q_call (vs:=[(.agg #[s1.v,s2.v,s3.v,s4.v]),s5.v,(iV (-1))]) hF hS Tryz.func95 (by kernel_rfl) rfl rfl rfl (c_impl_residual p_x0 p_x1 (-1) t_6 ht_6 _ m hS.vis s1 h1 s2 h2 s3 h3 s4 h4 s5 h5) ?_
 rintro a w _ ⟨q8,s8,rfl,hR7,h8⟩ hF hS2
 have hS : St _ _ _ _ [q8,[⟨b_p_x0,[s1.v,s2.v,s3.v,s4.v],76⟩],[⟨b_p_x1,[s5.v],23⟩],[⟨b_p_x2,[(iV p_x2)],3⟩],[⟨b_p_x3,[(iV p_x3)],3⟩],[⟨b_p_x4,[(iV p_x4)],3⟩]]:=hS.joinF hR7
 refine q_s hF rfl fun a hF=>q_end (n_sq (q_seq (e_region ⟨[15,17],[b_p_x2,b_p_x3,b_p_x4],m⟩ mixed fun w' hw'=>?_)))
 have hS:=hS.below hw'
 refine e_P (v:=s8.v) 0 hF rfl (ex_move rfl) fun a hF=>e_xb (v:=(iV p_x2)) 1 3 hF hS (.head _) rfl rfl (ex_load1 0 0 U3 rfl rfl rfl rfl) rfl rfl (by kernel_rfl) (by kernel_rfl) (by kernel_rfl) fun a hF=>?_
 obtain ⟨e_9,he_9,hr⟩:=bindS hr
 obtain ⟨s10,hV10⟩:=h8.view he_9
 refine e_P (v:=(elP s8 (p_x2.toNat * 1))) 2 hF rfl (ex_indexAddr U23 sz48 rfl rfl (h8.idx he_9)) fun a hF=>e_X (v:=s10.v) 3 hF hS rfl (ex_loadE1 0 U48 rfl rfl ((hV10.atH he_9).at 0 rfl) rfl rfl) fun a hF=>e_xb (v:=(iV p_x3)) 4 4 hF hS (.tail _ (.head _)) rfl rfl (ex_load1 0 0 U3 rfl rfl rfl rfl) rfl rfl (by kernel_rfl) (by kernel_rfl) (by kernel_rfl) fun a hF=>e_xb (v:=(iV p_x4)) 5 5 hF hS (.tail _ (.tail _ (.head _))) rfl rfl (ex_load1 0 0 U3 rfl rfl rfl rfl) rfl rfl (by kernel_rfl) (by kernel_rfl) (by kernel_rfl) fun a hF=>e_P (v:=(iV (w64 (p_x3 + p_x4)))) 6 hF rfl (ex_ibin rfl rfl rfl) fun a hF=>e_P (v:=s8.v) 7 hF rfl (ex_move rfl) fun a hF=>e_xb (v:=(iV p_x3)) 8 4 hF hS (.tail _ (.head _)) rfl rfl (ex_load1 0 0 U3 rfl rfl rfl rfl) rfl rfl (by kernel_rfl) (by kernel_rfl) (by kernel_rfl) fun a hF=>e_xb (v:=(iV p_x4)) 9 5 hF hS (.tail _ (.tail _ (.head _))) rfl rfl (ex_load1 0 0 U3 rfl rfl rfl rfl) rfl rfl (by kernel_rfl) (by kernel_rfl) (by kernel_rfl) fun a hF=>e_P (v:=(iV (w64 (p_x3 + p_x4)))) 10 hF rfl (ex_ibin rfl rfl rfl) fun a hF=>?_
 obtain ⟨e_11,he_11,hr⟩:=bindS hr
 obtain ⟨s12,hV12⟩:=h8.view he_11
 refine e_P (v:=(elP s8 ((w64 (p_x3 + p_x4)).toNat * 1))) 11 hF rfl (ex_indexAddr U23 sz48 rfl rfl (h8.idx he_11)) fun a hF=>e_X (v:=s12.v) 12 hF hS rfl (ex_loadE1 0 U48 rfl rfl ((hV12.atH he_11).at 0 rfl) rfl rfl) fun a hF=>e_xb (v:=(iV p_x2)) 13 3 hF hS (.head _) rfl rfl (ex_load1 0 0 U3 rfl rfl rfl rfl) rfl rfl (by kernel_rfl) (by kernel_rfl) (by kernel_rfl) fun a hF=>?_
 obtain ⟨e_13,he_13,hr⟩:=bindS hr
 obtain ⟨vs14,at14,d14⟩:=hV10.at he_9 he_13 1 rfl
 obtain rfl : vs14 = [(iV e_13)]:=d14
 refine e_P (v:=(elP s10 ((w64 (p_x3 + p_x4)).toNat * 1))) 14 hF rfl (ex_indexAddr U48 sz3 rfl rfl (hV10.idx he_9 he_13)) fun a hF=>e_one 15 (by kernel_rfl) ?_
 obtain ⟨e_16,he_16,hr⟩:=bindS hr
 have hSo:=hS
 refine e_opl rfl rfl rfl fun _ hK=>wp_storeVk (e':=0) (us:=[(iV 0)]) (vs:=[(iV e_13)]) 0 hF hS hV10 hV12 he_9 sz3 rfl rfl rfl rfl rfl rfl rfl he_13 at14 rfl rfl rfl fun w q15 hS h15 h15k=>hK _ _ (⟨⟨kpC hSo hS 3 3 rfl rfl (kpC hSo hS 4 4 rfl rfl (kpC hSo hS 5 5 rfl rfl kpN)),fun _=>hS.vis.of_le (Mem.le.refl _)⟩,?_⟩)
 obtain ⟨e_17,he_17,hr⟩:=bindS hr
 obtain ⟨vs18,at18,d18⟩:=h15k.at he_16 he_17 1 rfl
 obtain rfl : vs18 = [(iV e_17)]:=d18
 refine e_P (v:=(elP s12 (p_x2.toNat * 1))) 16 hF rfl (ex_indexAddr U48 sz3 rfl rfl (h15k.idx he_16 he_17)) fun a hF=>e_one 17 (by kernel_rfl) ?_
 obtain ⟨e_20,he_20,hr⟩:=bindS hr
 have hSo:=hS
 refine e_opl rfl rfl rfl fun _ hK=>wp_storeVk (e':=0) (us:=[(iV 0)]) (vs:=[(iV e_17)]) 0 hF hS h15k h15 he_16 sz3 rfl rfl rfl rfl rfl rfl rfl he_17 at18 rfl rfl rfl fun w q19 hS h19 h19k=>hK _ _ (⟨⟨kpC hSo hS 3 3 rfl rfl (kpC hSo hS 4 4 rfl rfl (kpC hSo hS 5 5 rfl rfl kpN)),fun _=>hS.vis.of_le (Mem.le.refl _)⟩,?_⟩)
 refine e_end (by kernel_rfl) (n_sq ?_) _
 refine q_sr (q_m hF rfl fun a hF=>q_s hF rfl fun a hF=>q_end (n_sq (q_ret ?_)))
 obtain rfl:=someI hr
 exact ret_ofX hF hS rfl (.tmp rfl .nil) ⟨q19,s8,rfl,hS.sel [1,2,3,4,5,0] (by decide),h19.own⟩

end Go.Proofs.YtpjcfmpfiadkgaaGreat
