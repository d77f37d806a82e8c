/- The walks of the functions: each returns what its plain function says. -/
import Derived.Test.YtpjcfmpfiadkgaaRDefs
import Derived.Test.YtpjcfmpfiadkgaaRows
namespace Go.Proofs.Ytpjcfmpfiadkgaa
open Go.Gx Go.Gx.F Go.RowKit
set_option linter.all false
set_option maxRecDepth 10000

def U3 := @Try.underlying3
def U4 := @Try.underlying4
def U5 := @Try.underlying5
def U22 := @Try.underlying22
def U23 := @Try.underlying23
def U28 := @Try.underlying28
def U50 := @Try.underlying50
def U74 := @Try.underlying74
def U88 := @Try.underlying88
def U90 := @Try.underlying90
def U150 := @Try.underlying150
theorem mixed : Try.prog.follows .mixedOrders = true := by kernel_rfl
theorem inf3 : inf Try.prog 3 = some (1, 8, [(.int .i64 0)]) := by kernel_rfl
theorem inf28 : inf Try.prog 28 = some (1, 24, [nilS.v]) := by kernel_rfl
theorem sz3 : szOf Try.prog 3 = some 1 := by kernel_rfl
theorem sz5 : szOf Try.prog 5 = some 1 := by kernel_rfl
theorem sz22 : szOf Try.prog 22 = some 1 := by kernel_rfl
theorem sz23 : szOf Try.prog 23 = some 1 := by kernel_rfl
theorem sz28 : szOf Try.prog 28 = some 1 := by kernel_rfl
theorem sz50 : szOf Try.prog 50 = some 4 := by kernel_rfl
theorem sz74 : szOf Try.prog 74 = some 4 := by kernel_rfl
theorem sz88 : szOf Try.prog 88 = some 1 := by kernel_rfl

theorem c_laws_big (p_code : List (K .u8)) (p_more : List (K .u8)) (r : Bool) (hr : laws_big p_code p_more = some r) (w0 : World) (m : Mem) (hv : Vis m w0) (s1 : Sl) (h1 : Rd m s1 p_code) (s2 : Sl) (h2 : Rd m s2 p_more) :
  Ret Try.prog 43 [s1.v,s2.v] w0 (fun v _=>v = (.bool r)):=by
 unfold laws_big at hr
 refine ret_start Try.func43 rfl 16 rfl rfl m hv fun a hF hS=>q_sr (q_s hF rfl fun a hF=>q_end (n_sq (q_seq ?_)))
 obtain ⟨t_3,hj1,hr⟩:=bindS hr
 refine q_join (fun a w=>Fr a 16 [(4,(.bool t_3))]∧St [] w0 w m []) ?_ ?_
 ·refine q_region (q_m hF rfl fun a hF=>q_y (v:=(iV (goLen p_code))) hF hS (ex_len U22 rfl h1.len) fun a hF=>q_y (v:=(.bool (decide (1048576 < (goLen p_code))))) hF hS (ex_ibin rfl rfl rfl) fun a hF=>q_m hF rfl fun a hF=>?_)
  rcases bcase (decide (1048576 < (goLen p_code))) with hc2 | hc2
  ·have hj1:=cond_f hc2 hj1
   refine q_g (v:=s2.v) hF hS (ex_move rfl) hc2 fun a hF=>q_g (v:=(iV (goLen p_more))) hF hS (ex_len U22 rfl h2.len) hc2 fun a hF=>q_g (v:=s1.v) hF hS (ex_move rfl) hc2 fun a hF=>q_g (v:=(iV (goLen p_code))) hF hS (ex_len U22 rfl h1.len) hc2 fun a hF=>q_g (v:=(iV (w64 (1048576 - (goLen p_code))))) hF hS (ex_ibin rfl rfl rfl) hc2 fun a hF=>q_g (v:=(.bool (decide ((w64 (1048576 - (goLen p_code))) < (goLen p_more))))) hF hS (ex_ibin rfl rfl rfl) hc2 fun a hF=>q_y (v:=(.bool (decide ((w64 (1048576 - (goLen p_code))) < (goLen p_more))))) hF hS (ex_pick_f rfl rfl hc2) fun a hF=>q_s hF rfl fun a hF=>q_end (n_jn ?_)
   obtain rfl:=someI hj1
   exact ⟨hF.sub ⟨rfl,trivial⟩,hS⟩
  ·have hj1:=cond_t hc2 hj1
   refine q_k hF hc2 fun a hF=>q_k hF hc2 fun a hF=>q_k hF hc2 fun a hF=>q_k hF hc2 fun a hF=>q_k hF hc2 fun a hF=>q_k hF hc2 fun a hF=>q_y (v:=(.bool true)) hF hS (ex_pick_t rfl rfl hc2) fun a hF=>q_s hF rfl fun a hF=>q_end (n_jn ?_)
   obtain rfl:=someI hj1
   exact ⟨hF.sub ⟨rfl,trivial⟩,hS⟩
 ·rintro a w ⟨hF,hS⟩
  refine n_sq (q_ret ?_)
  obtain rfl:=someI hr
  exact ret_of hF hS rfl (.tmp rfl .nil) rfl

theorem c_spec_l1Cur_next (p_c : spec_l1Cur) (r : Int × spec_l1Cur) (hr : spec_l1Cur_next p_c = some r) (w0 : World) (m : Mem) (b_p_c : Nat) (s1 : Sl) (h1 : Rd m s1 p_c.code) (X : List Nat) (hS : St X w0 w0 m [[⟨b_p_c,[s1.v,(iV p_c.at_),(.int .u64 p_c.seed.v)],90⟩]]) :
  RetX Try.prog 157 [(pP b_p_c 0)] w0 (fun v w=>v = (iV r.1)∧St X w0 w m [[⟨b_p_c,[s1.v,(iV r.2.at_),(.int .u64 r.2.seed.v)],90⟩]]∧r.2.code = p_c.code):=by
 unfold spec_l1Cur_next at hr
 refine ret_startX Try.func157 rfl 62 rfl rfl fun a hF=>q_sr (q_s hF rfl fun a hF=>q_end (n_sq (q_sr (q_s hF rfl fun a hF=>q_end (n_sq (q_seq (q_seq (e_region ⟨[],[],m⟩ mixed fun w' hw'=>?_))))))))
 have hS:=hS.below hw'
 refine e_P (v:=(pP b_p_c 0)) 0 hF rfl (ex_move rfl) fun a hF=>e_P (v:=(pP b_p_c 0)) 1 hF rfl (ex_nilCheck rfl) fun a hF=>e_P (v:=(pP b_p_c 1)) 2 hF rfl (ex_fieldAddr U90 rfl sz3 rfl rfl) fun a hF=>e_X (v:=(iV p_c.at_)) 3 hF hS rfl (ex_load1 0 0 U3 rfl rfl rfl rfl) fun a hF=>e_P (v:=(pP b_p_c 0)) 4 hF rfl (ex_move rfl) fun a hF=>e_P (v:=(pP b_p_c 0)) 5 hF rfl (ex_nilCheck rfl) fun a hF=>e_P (v:=(pP b_p_c 0)) 6 hF rfl (ex_fieldAddr U90 rfl sz22 rfl rfl) fun a hF=>e_X (v:=s1.v) 7 hF hS rfl (ex_load1 0 0 U22 rfl rfl rfl rfl) fun a hF=>e_P (v:=(iV (goLen p_c.code))) 8 hF rfl (ex_len U22 rfl h1.len) fun a hF=>e_P (v:=(.bool (decide (p_c.at_ < (goLen p_c.code))))) 9 hF rfl (ex_ibin rfl rfl rfl) fun a hF=>e_end (by kernel_rfl) (n_sq ?_) _
 obtain ⟨b_4,hj1,hr⟩:=bindS hr
 refine q_join (fun a w=>Fr a 62 [(0,(pP b_p_c 0)),(3,(iV b_4))]∧St X w0 w m [[⟨b_p_c,[s1.v,(iV p_c.at_),(.int .u64 p_c.seed.v)],90⟩]]) ?_ ?_
 ·rcases bcase (decide (p_c.at_ < (goLen p_c.code))) with hc2 | hc2
  ·have hj1:=cond_f hc2 hj1
   refine q_cond_f hF rfl hc2 (q_skipc (n_jn ?_))
   obtain rfl:=someI hj1
   exact ⟨hF.sub ⟨rfl,rfl,trivial⟩,hS⟩
  ·have hj1:=cond_t hc2 hj1
   refine q_cond_t hF rfl hc2 (e_region ⟨[],[],m⟩ mixed fun w' hw'=>?_)
   have hS:=hS.below hw'
   refine e_P (v:=(pP b_p_c 0)) 0 hF rfl (ex_move rfl) fun a hF=>e_P (v:=(pP b_p_c 0)) 1 hF rfl (ex_nilCheck rfl) fun a hF=>e_P (v:=(pP b_p_c 0)) 2 hF rfl (ex_fieldAddr U90 rfl sz22 rfl rfl) fun a hF=>e_X (v:=s1.v) 3 hF hS rfl (ex_load1 0 0 U22 rfl rfl rfl rfl) fun a hF=>e_P (v:=(pP b_p_c 0)) 4 hF rfl (ex_move rfl) fun a hF=>e_P (v:=(pP b_p_c 0)) 5 hF rfl (ex_nilCheck rfl) fun a hF=>e_P (v:=(pP b_p_c 1)) 6 hF rfl (ex_fieldAddr U90 rfl sz3 rfl rfl) fun a hF=>e_X (v:=(iV p_c.at_)) 7 hF hS rfl (ex_load1 0 0 U3 rfl rfl rfl rfl) fun a hF=>?_
   obtain ⟨e_2,he_2,hj1⟩:=bindS hj1
   obtain ⟨vs3,at3,d3⟩:=h1.at he_2 1 rfl
   obtain rfl : vs3 = [(.int .u8 e_2.v)]:=d3
   refine e_P (v:=(elP s1 (p_c.at_.toNat * 1))) 8 hF rfl (ex_indexAddr U22 sz5 rfl rfl (h1.idx he_2)) fun a hF=>e_xm (v:=(.int .u8 e_2.v)) 9 hF hS (Mem.le.refl _) rfl (ex_loadE1 0 U5 rfl rfl ((at3).at) rfl rfl) rfl rfl (by kernel_rfl) (by kernel_rfl) (by kernel_rfl) fun a hF=>e_P (v:=(iV (w64 e_2.v))) 10 hF rfl (ex_conv U5 U3 rfl) fun a hF=>e_P (v:=(iV (w64 e_2.v))) 11 hF rfl (ex_assign rfl) fun a hF=>e_end (by kernel_rfl) (n_jn ?_) _
   obtain rfl:=someI hj1
   exact ⟨hF.sub ⟨rfl,rfl,trivial⟩,hS⟩
 ·rintro a w ⟨hF,hS⟩
  refine n_sq ?_
  refine q_sr (q_m hF rfl fun a hF=>q_y (v:=(pP b_p_c 0)) hF hS (ex_nilCheck rfl) fun a hF=>q_y (v:=(pP b_p_c 1)) hF hS (ex_fieldAddr U90 rfl sz3 rfl rfl) fun a hF=>q_y (v:=(iV p_c.at_)) hF hS (ex_load1 0 0 U3 rfl rfl rfl rfl) fun a hF=>q_y (v:=(iV (w64 (p_c.at_ + 1)))) hF hS (ex_ibin rfl rfl rfl) fun a hF=>q_y (v:=(pP b_p_c 0)) hF hS (ex_nilCheck rfl) fun a hF=>q_y (v:=(pP b_p_c 1)) hF hS (ex_fieldAddr U90 rfl sz3 rfl rfl) fun a hF=>q_store (vs:=[(iV (w64 (p_c.at_ + 1)))]) (cs':=[s1.v,(iV (w64 (p_c.at_ + 1))),(.int .u64 p_c.seed.v)]) 0 0 hF hS sz3 rfl rfl rfl rfl rfl rfl rfl rfl fun a w hF hS=>q_end (n_sq (q_sr (q_m hF rfl fun a hF=>q_m hF rfl fun a hF=>q_y (v:=(pP b_p_c 0)) hF hS (ex_nilCheck rfl) fun a hF=>q_y (v:=(pP b_p_c 2)) hF hS (ex_fieldAddr U90 rfl sz88 rfl rfl) fun a hF=>q_y (v:=(.int .u64 p_c.seed.v)) hF hS (ex_load1 0 0 U88 rfl rfl rfl rfl) fun a hF=>q_y (v:=(.int .u64 (IntKind.wrap .u64 (p_c.seed.v * 6364136223846793005)))) hF hS (ex_ibin rfl rfl rfl) fun a hF=>q_m hF rfl fun a hF=>q_y (v:=(.int .u64 (IntKind.wrap .u64 b_4))) hF hS (ex_conv U3 U88 rfl) fun a hF=>q_y (v:=(.int .u64 (IntKind.wrap .u64 ((IntKind.wrap .u64 (p_c.seed.v * 6364136223846793005)) + (IntKind.wrap .u64 b_4))))) hF hS (ex_ibin rfl rfl rfl) fun a hF=>q_y (v:=(.int .u64 (IntKind.wrap .u64 ((IntKind.wrap .u64 ((IntKind.wrap .u64 (p_c.seed.v * 6364136223846793005)) + (IntKind.wrap .u64 b_4))) + 1442695040888963407)))) hF hS (ex_ibin rfl rfl rfl) fun a hF=>q_y (v:=(pP b_p_c 0)) hF hS (ex_nilCheck rfl) fun a hF=>q_y (v:=(pP b_p_c 2)) hF hS (ex_fieldAddr U90 rfl sz88 rfl rfl) fun a hF=>?_))))
  refine q_store (vs:=[(.int .u64 (IntKind.wrap .u64 ((IntKind.wrap .u64 ((IntKind.wrap .u64 (p_c.seed.v * 6364136223846793005)) + (IntKind.wrap .u64 b_4))) + 1442695040888963407)))]) (cs':=[s1.v,(iV (w64 (p_c.at_ + 1))),(.int .u64 (IntKind.wrap .u64 ((IntKind.wrap .u64 ((IntKind.wrap .u64 (p_c.seed.v * 6364136223846793005)) + (IntKind.wrap .u64 b_4))) + 1442695040888963407)))]) 0 0 hF hS sz88 rfl rfl rfl rfl rfl rfl rfl rfl fun a w hF hS=>q_end (n_sq (q_seq (q_seq (e_region ⟨[],[],m⟩ mixed fun w' hw'=>?_))))
  have hS:=hS.below hw'
  refine e_P (v:=(pP b_p_c 0)) 0 hF rfl (ex_move rfl) fun a hF=>e_P (v:=(pP b_p_c 0)) 1 hF rfl (ex_nilCheck rfl) fun a hF=>e_P (v:=(pP b_p_c 1)) 2 hF rfl (ex_fieldAddr U90 rfl sz3 rfl rfl) fun a hF=>e_X (v:=(iV (w64 (p_c.at_ + 1)))) 3 hF hS rfl (ex_load1 0 0 U3 rfl rfl rfl rfl) fun a hF=>e_P (v:=(pP b_p_c 0)) 4 hF rfl (ex_move rfl) fun a hF=>e_P (v:=(pP b_p_c 0)) 5 hF rfl (ex_nilCheck rfl) fun a hF=>e_P (v:=(pP b_p_c 0)) 6 hF rfl (ex_fieldAddr U90 rfl sz22 rfl rfl) fun a hF=>e_X (v:=s1.v) 7 hF hS rfl (ex_load1 0 0 U22 rfl rfl rfl rfl) fun a hF=>e_P (v:=(iV (goLen p_c.code))) 8 hF rfl (ex_len U22 rfl h1.len) fun a hF=>e_P (v:=(.bool (decide ((w64 (p_c.at_ + 1)) ≤ (goLen p_c.code))))) 9 hF rfl (ex_ibin rfl rfl rfl) fun a hF=>e_end (by kernel_rfl) (n_sq ?_) _
  rcases bcase (decide ((w64 (p_c.at_ + 1)) ≤ (goLen p_c.code))) with hc3 | hc3
  ·have hr:=cond_f hc3 hr
   refine q_cond_f hF rfl hc3 (q_skipc (n_sq (q_sr (q_m hF rfl fun a hF=>q_y (v:=(pP b_p_c 0)) hF hS (ex_nilCheck rfl) fun a hF=>q_y (v:=(pP b_p_c 2)) hF hS (ex_fieldAddr U90 rfl sz88 rfl rfl) fun a hF=>q_y (v:=(.int .u64 (IntKind.wrap .u64 ((IntKind.wrap .u64 ((IntKind.wrap .u64 (p_c.seed.v * 6364136223846793005)) + (IntKind.wrap .u64 b_4))) + 1442695040888963407)))) hF hS (ex_load1 0 0 U88 rfl rfl rfl rfl) fun a hF=>?_))))
   obtain ⟨t_5,ht_5,hr⟩:=bindS hr
   refine q_y (v:=(.int .u64 t_5)) hF hS (ex_shr rfl rfl ht_5) fun a hF=>q_y (v:=(.int .u64 (goBits .and .u64 t_5 255))) hF hS (ex_bits rfl rfl rfl) fun a hF=>q_y (v:=(iV (w64 (goBits .and .u64 t_5 255)))) hF hS (ex_conv U88 U3 rfl) fun a hF=>q_s hF rfl fun a hF=>q_end (n_sq (q_ret ?_))
   obtain rfl:=someI hr
   exact ret_ofX hF hS rfl (.tmp rfl .nil) ⟨rfl,hS.sel [0] (by decide),rfl⟩
  ·have hr:=cond_t hc3 hr
   refine q_cond_t hF rfl hc3 (q_sr (q_m hF rfl fun a hF=>q_s hF rfl fun a hF=>q_end (n_sq (q_ret (r_sq ?_)))))
   obtain rfl:=someI hr
   exact ret_ofX hF hS rfl (.tmp rfl .nil) ⟨rfl,hS.sel [0] (by decide),rfl⟩

theorem c_spec_l1Cur_pick (p_c : spec_l1Cur) (p_n : Int) (r : Int × spec_l1Cur) (hr : spec_l1Cur_pick p_c p_n = some r) (w0 : World) (m : Mem) (b_p_c : Nat) (s1 : Sl) (h1 : Rd m s1 p_c.code) (X : List Nat) (hS : St X w0 w0 m [[⟨b_p_c,[s1.v,(iV p_c.at_),(.int .u64 p_c.seed.v)],90⟩]]) :
  RetX Try.prog 106 [(pP b_p_c 0),(iV p_n)] w0 (fun v w=>v = (iV r.1)∧St X w0 w m [[⟨b_p_c,[s1.v,(iV r.2.at_),(.int .u64 r.2.seed.v)],90⟩]]∧r.2.code = p_c.code):=by
 unfold spec_l1Cur_pick at hr
 refine ret_startX Try.func106 rfl 20 rfl rfl fun a hF=>q_sr (q_s hF rfl fun a hF=>q_end (n_sq (q_seq (q_sr (q_m hF rfl fun a hF=>q_y (v:=(.bool (decide (p_n ≤ 1)))) hF hS (ex_ibin rfl rfl rfl) fun a hF=>q_end (n_sq ?_))))))
 rcases bcase (decide (p_n ≤ 1)) with hc1 | hc1
 ·have hr:=cond_f hc1 hr
  refine q_cond_f hF rfl hc1 (q_skipc (n_sq (q_sr (q_m hF rfl fun a hF=>?_))))
  have hS2 : St _ _ _ _ ([[⟨b_p_c,[s1.v,(iV p_c.at_),(.int .u64 p_c.seed.v)],90⟩]]++[]):=hS
  have hE2:=hS2.enter
  obtain ⟨t_3,ht_3,hr⟩:=bindS hr
  refine q_do rfl fun _ hK=>wp_callX (vs:=[(pP b_p_c 0)]) hF Try.func157 (by kernel_rfl) rfl rfl rfl (c_spec_l1Cur_next p_c t_3 ht_3 _ m b_p_c s1 h1 _ hE2) fun a w _ hR hF=>hK _ _ ?_
  obtain ⟨rfl,hR2,hk4⟩:=hR
  have hS : St _ _ _ _ [[⟨b_p_c,[s1.v,(iV t_3.2.at_),(.int .u64 t_3.2.seed.v)],90⟩]]:=hS2.leaveF hR2
  have h4 : Rd m s1 t_3.2.code:=by rw [hk4]; exact h1
  refine q_s hF rfl fun a hF=>q_end (n_sq (q_seq (q_sr (q_m hF rfl fun a hF=>q_y (v:=(.bool (decide (200 < p_n)))) hF hS (ex_ibin rfl rfl rfl) fun a hF=>q_end (n_sq ?_)))))
  obtain ⟨j2,hj2,hr⟩:=bindS hr
  refine q_join (fun a w=>∃ x_8,∃ p_c_9,j2 = (x_8,p_c_9)∧Fr a 20 [(1,(iV p_n)),(5,(iV x_8))]∧St X w0 w m [[⟨b_p_c,[s1.v,(iV p_c_9.at_),(.int .u64 p_c_9.seed.v)],90⟩]]∧Rd m s1 p_c_9.code∧p_c_9.code = p_c.code) ?_ ?_
  ·rcases bcase (decide (200 < p_n)) with hc3 | hc3
   ·have hj2:=cond_f hc3 hj2
    refine q_cond_f hF rfl hc3 (q_skipc (n_jn ?_))
    obtain rfl:=someI hj2
    exact ⟨_,_,rfl,hF.sub ⟨rfl,rfl,trivial⟩,hS,h4,hk4⟩
   ·have hj2:=cond_t hc3 hj2
    refine q_cond_t hF rfl hc3 (q_region (q_m hF rfl fun a hF=>q_y (v:=(iV (w64 (t_3.1 * 256)))) hF hS (ex_ibin rfl rfl rfl) fun a hF=>q_m hF rfl fun a hF=>?_))
    have hS5 : St _ _ _ _ ([[⟨b_p_c,[s1.v,(iV t_3.2.at_),(.int .u64 t_3.2.seed.v)],90⟩]]++[]):=hS
    have hE5:=hS5.enter
    obtain ⟨t_6,ht_6,hj2⟩:=bindS hj2
    refine q_do rfl fun _ hK=>wp_callX (vs:=[(pP b_p_c 0)]) hF Try.func157 (by kernel_rfl) rfl rfl rfl (c_spec_l1Cur_next t_3.2 t_6 ht_6 _ m b_p_c s1 h4 _ hE5) fun a w _ hR hF=>hK _ _ ?_
    obtain ⟨rfl,hR5,hk7⟩:=hR
    have hS : St _ _ _ _ [[⟨b_p_c,[s1.v,(iV t_6.2.at_),(.int .u64 t_6.2.seed.v)],90⟩]]:=hS5.leaveF hR5
    have h7 : Rd m s1 t_6.2.code:=by rw [hk7]; exact h4
    refine q_y (v:=(iV (w64 ((w64 (t_3.1 * 256)) + t_6.1)))) hF hS (ex_ibin rfl rfl rfl) fun a hF=>q_s hF rfl fun a hF=>q_end (n_jn ?_)
    obtain rfl:=someI hj2
    exact ⟨_,_,rfl,hF.sub ⟨rfl,rfl,trivial⟩,hS,h7,(hk7.trans hk4)⟩
  ·rintro a w ⟨x_8,p_c_9,rfl,hF,hS,h10,h10k⟩
   refine n_sq ?_
   refine q_sr (q_m hF rfl fun a hF=>q_m hF rfl fun a hF=>?_)
   obtain ⟨t_11,ht_11,hr⟩:=bindS hr
   refine q_y (v:=(iV t_11)) hF hS (ex_rem rfl rfl ht_11) fun a hF=>q_s hF rfl fun a hF=>q_end (n_sq (q_ret ?_))
   obtain rfl:=someI hr
   exact ret_ofX hF hS rfl (.tmp rfl .nil) ⟨rfl,hS.sel [0] (by decide),h10k⟩
 ·have hr:=cond_t hc1 hr
  refine q_cond_t hF rfl hc1 (q_sr (q_s hF rfl fun a hF=>q_end (n_sq (q_ret (r_sq ?_)))))
  obtain rfl:=someI hr
  exact ret_ofX hF hS rfl (.tmp rfl .nil) ⟨rfl,hS.sel [0] (by decide),rfl⟩

theorem c_spec_l1Cur_grid (p_c : spec_l1Cur) (r : (List (List Int)) × spec_l1Cur) (hr : spec_l1Cur_grid p_c = some r) (w0 : World) (m : Mem) (b_p_c : Nat) (s1 : Sl) (h1 : Rd m s1 p_c.code) (X : List Nat) (hS : St X w0 w0 m [[⟨b_p_c,[s1.v,(iV p_c.at_),(.int .u64 p_c.seed.v)],90⟩]]) :
  RetX Try.prog 179 [(pP b_p_c 0)] w0 (fun v w=>∃ (q0' : Piece) (s0' : Sl),v = s0'.v∧St X w0 w m [[⟨b_p_c,[s1.v,(iV r.2.at_),(.int .u64 r.2.seed.v)],90⟩],q0']∧OwnD m 28 3 q0' s0' r.1∧r.2.code = p_c.code):=by
 unfold spec_l1Cur_grid at hr
 refine ret_startX Try.func179 rfl 35 rfl rfl fun a hF=>q_sr (q_s hF rfl fun a hF=>q_end (n_sq (q_sr (q_m hF rfl fun a hF=>?_))))
 have hS2 : St _ _ _ _ ([[⟨b_p_c,[s1.v,(iV p_c.at_),(.int .u64 p_c.seed.v)],90⟩]]++[]):=hS
 have hE2:=hS2.enter
 obtain ⟨t_3,ht_3,hr⟩:=bindS hr
 refine q_do rfl fun _ hK=>wp_callX (vs:=[(pP b_p_c 0),(iV 3)]) hF Try.func106 (by kernel_rfl) rfl rfl rfl (c_spec_l1Cur_pick p_c 3 t_3 ht_3 _ m b_p_c s1 h1 _ hE2) fun a w _ hR hF=>hK _ _ ?_
 obtain ⟨rfl,hR2,hk4⟩:=hR
 have hS : St _ _ _ _ [[⟨b_p_c,[s1.v,(iV t_3.2.at_),(.int .u64 t_3.2.seed.v)],90⟩]]:=hS2.leaveF hR2
 have h4 : Rd m s1 t_3.2.code:=by rw [hk4]; exact h1
 refine q_y (v:=(iV (w64 (1 + t_3.1)))) hF hS (ex_ibin rfl rfl rfl) fun a hF=>q_m hF rfl fun a hF=>?_
 have hS5 : St _ _ _ _ ([[⟨b_p_c,[s1.v,(iV t_3.2.at_),(.int .u64 t_3.2.seed.v)],90⟩]]++[]):=hS
 have hE5:=hS5.enter
 obtain ⟨t_6,ht_6,hr⟩:=bindS hr
 refine q_do rfl fun _ hK=>wp_callX (vs:=[(pP b_p_c 0),(iV 3)]) hF Try.func106 (by kernel_rfl) rfl rfl rfl (c_spec_l1Cur_pick t_3.2 3 t_6 ht_6 _ m b_p_c s1 h4 _ hE5) fun a w _ hR hF=>hK _ _ ?_
 obtain ⟨rfl,hR5,hk7⟩:=hR
 have hS : St _ _ _ _ [[⟨b_p_c,[s1.v,(iV t_6.2.at_),(.int .u64 t_6.2.seed.v)],90⟩]]:=hS5.leaveF hR5
 have h7 : Rd m s1 t_6.2.code:=by rw [hk7]; exact h4
 refine q_y (v:=(iV (w64 (1 + t_6.1)))) hF hS (ex_ibin rfl rfl rfl) fun a hF=>q_s hF rfl fun a hF=>q_s hF rfl fun a hF=>q_end (n_sq (q_sr (q_s hF rfl fun a hF=>q_end (n_sq (q_seq (q_sr (q_s hF rfl fun a hF=>q_end (n_sq (q_block ?_)))))))))
 obtain ⟨o1,hl1,hr⟩:=bindS hr
 refine q_loop (fun (s : (List (List Int)) × Int × spec_l1Cur) a w=>∃ (q9 : Piece),∃ (s9 : Sl),∃ x_8,∃ i_10,∃ p_c_11,s = (x_8,i_10,p_c_11)∧Fr a 35 [(0,(pP b_p_c 0)),(3,(iV (w64 (1 + t_3.1)))),(4,(iV (w64 (1 + t_6.1)))),(5,s9.v),(6,(iV i_10))]∧St X w0 w m [q9,[⟨b_p_c,[s1.v,(iV p_c_11.at_),(.int .u64 p_c_11.seed.v)],90⟩]]∧OwnD m 28 3 q9 s9 x_8∧Rd m s1 p_c_11.code∧p_c_11.code = p_c.code) (fun (o : (List (List Int)) × spec_l1Cur) e a w=>∃ (q32 : Piece),∃ (s32 : Sl),∃ x_31,∃ p_c_33,o = (x_31,p_c_33)∧e = .exit 0∧Fr a 35 [(5,s32.v)]∧St X w0 w m [q32,[⟨b_p_c,[s1.v,(iV p_c_33.at_),(.int .u64 p_c_33.seed.v)],90⟩]]∧OwnD m 28 3 q32 s32 x_31∧Rd m s1 p_c_33.code∧p_c_33.code = p_c.code) hl1 ⟨[],nilS,_,_,_,rfl,hF.sub ⟨rfl,rfl,rfl,rfl,rfl,trivial⟩,hS.sel [1,0] (by decide),(OwnD.nil (β:=Int) m 28 3),h7,(hk7.trans hk4)⟩ ?_ ?_
 ·clear hF hS
  rintro s a w st ⟨q9,s9,x_8,i_10,p_c_11,rfl,hF,hS,h9,h12,h12k⟩ hb1
  unfold spec_l1Cur_grid_l1 at hb1
  refine q_seq (q_sr (q_m hF rfl fun a hF=>q_m hF rfl fun a hF=>q_y (v:=(.bool (decide (i_10 < (w64 (1 + t_3.1)))))) hF hS (ex_ibin rfl rfl rfl) fun a hF=>q_end (n_sq ?_)))
  rcases bcase (decide (i_10 < (w64 (1 + t_3.1)))) with hc2 | hc2
  ·have hb1:=cond_f hc2 hb1
   refine q_cond_f hF rfl hc2 (q_exit (x_sq ?_))
   obtain rfl:=someI hb1
   exact ⟨nofun,.inl ⟨q9,s9,_,_,rfl,rfl,hF.sub ⟨rfl,trivial⟩,hS,h9,h12,h12k⟩⟩
  ·have hb1:=cond_t hc2 hb1
   refine q_cond_t hF rfl hc2 (q_skipc (n_sq (q_seq (q_block (q_sr (q_s hF rfl fun a hF=>q_end (n_sq (q_seq (q_sr (q_s hF rfl fun a hF=>q_end (n_sq (q_block ?_))))))))))))
   obtain ⟨o3,hl3,hb1⟩:=bindS hb1
   refine q_loop (fun (s : (List Int) × Int × spec_l1Cur) a w=>∃ (q14 : Piece),∃ (s14 : Sl),∃ row_13,∃ j_15,∃ p_c_16,s = (row_13,j_15,p_c_16)∧Fr a 35 [(0,(pP b_p_c 0)),(3,(iV (w64 (1 + t_3.1)))),(4,(iV (w64 (1 + t_6.1)))),(5,s9.v),(6,(iV i_10)),(7,s14.v),(8,(iV j_15))]∧St X w0 w m [q14,q9,[⟨b_p_c,[s1.v,(iV p_c_16.at_),(.int .u64 p_c_16.seed.v)],90⟩]]∧OwnL m 3 q14 s14 row_13∧Rd m s1 p_c_16.code∧p_c_16.code = p_c.code) (fun (o : (List Int) × spec_l1Cur) e a w=>∃ (q25 : Piece),∃ (s25 : Sl),∃ row_24,∃ p_c_26,o = (row_24,p_c_26)∧e = .exit 2∧Fr a 35 [(0,(pP b_p_c 0)),(3,(iV (w64 (1 + t_3.1)))),(4,(iV (w64 (1 + t_6.1)))),(5,s9.v),(6,(iV i_10)),(7,s25.v)]∧St X w0 w m [q9,q25,[⟨b_p_c,[s1.v,(iV p_c_26.at_),(.int .u64 p_c_26.seed.v)],90⟩]]∧OwnL m 3 q25 s25 row_24∧Rd m s1 p_c_26.code∧p_c_26.code = p_c.code) hl3 ⟨[],nilS,_,_,_,rfl,hF.sub ⟨rfl,rfl,rfl,rfl,rfl,rfl,rfl,trivial⟩,hS.sel [2,0,1] (by decide),(OwnL.nil (α:=Int) m 3),h12,h12k⟩ ?_ ?_
   ·clear hF hS
    rintro s a w st ⟨q14,s14,row_13,j_15,p_c_16,rfl,hF,hS,h14,h17,h17k⟩ hb3
    unfold spec_l1Cur_grid_l2 at hb3
    refine q_seq (q_sr (q_m hF rfl fun a hF=>q_m hF rfl fun a hF=>q_y (v:=(.bool (decide (j_15 < (w64 (1 + t_6.1)))))) hF hS (ex_ibin rfl rfl rfl) fun a hF=>q_end (n_sq ?_)))
    rcases bcase (decide (j_15 < (w64 (1 + t_6.1)))) with hc4 | hc4
    ·have hb3:=cond_f hc4 hb3
     refine q_cond_f hF rfl hc4 (q_exit (x_sq ?_))
     obtain rfl:=someI hb3
     exact ⟨nofun,.inl ⟨q14,s14,_,_,rfl,rfl,hF.sub ⟨rfl,rfl,rfl,rfl,rfl,rfl,trivial⟩,hS.sel [1,0,2] (by decide),h14,h17,h17k⟩⟩
    ·have hb3:=cond_t hc4 hb3
     refine q_cond_t hF rfl hc4 (q_skipc (n_sq (q_seq (q_block (q_region (q_m hF rfl fun a hF=>q_m hF rfl fun a hF=>?_))))))
     have hS : St _ _ _ _ [[⟨b_p_c,[s1.v,(iV p_c_16.at_),(.int .u64 p_c_16.seed.v)],90⟩],q14,q9]:=hS.sel [2,0,1] (by decide)
     have hS18 : St _ _ _ _ ([[⟨b_p_c,[s1.v,(iV p_c_16.at_),(.int .u64 p_c_16.seed.v)],90⟩]]++[q14,q9]):=hS
     have hE18:=hS18.enter
     obtain ⟨t_19,ht_19,hb3⟩:=bindS hb3
     refine q_do rfl fun _ hK=>wp_callX (vs:=[(pP b_p_c 0),(iV 14)]) hF Try.func106 (by kernel_rfl) rfl rfl rfl (c_spec_l1Cur_pick p_c_16 14 t_19 ht_19 _ m b_p_c s1 h17 _ hE18) fun a w _ hR hF=>hK _ _ ?_
     obtain ⟨rfl,hR18,hk20⟩:=hR
     have hS : St _ _ _ _ [[⟨b_p_c,[s1.v,(iV t_19.2.at_),(.int .u64 t_19.2.seed.v)],90⟩],q14,q9]:=hS18.leaveF hR18
     have h20 : Rd m s1 t_19.2.code:=by rw [hk20]; exact h17
     refine q_do rfl fun _ hK=>wp_buildSlice' (l:=([t_19.1] : List Int)) (cells:=[(iV t_19.1)]) hF hS U28 inf3 rfl rfl (by kernel_rfl) rfl rfl rfl ⟨rfl,rfl⟩ rfl rfl fun a w q21 s21 hF hS h21 _=>hK _ _ ?_
     have hS : St _ _ _ _ [q14,q21,[⟨b_p_c,[s1.v,(iV t_19.2.at_),(.int .u64 t_19.2.seed.v)],90⟩],q9]:=hS.sel [2,0,1,3] (by decide)
     obtain ⟨l_22,hl_22,hb3⟩:=bindS hb3
     refine q_do rfl fun _ hK=>wp_append hF hS h14 U28 inf3 rfl rfl rfl rfl (h21.vw hS (j:=1) rfl) rfl (by decide) hl_22 rfl fun a w q23 s23 hF hS h23=>hK _ _ (q_s hF rfl fun a hF=>q_end (n_ib (n_sq (q_region (q_m hF rfl fun a hF=>q_y (v:=(iV (w64 (j_15 + 1)))) hF hS (ex_ibin rfl rfl rfl) fun a hF=>q_s hF rfl fun a hF=>q_end ?_)))))
     obtain rfl:=someI hb3
     exact ⟨rfl,q23,s23,_,_,_,rfl,hF.sub ⟨rfl,rfl,rfl,rfl,rfl,rfl,rfl,trivial⟩,hS.sel [0,3,2] (by decide),h23,h20,(hk20.trans h17k)⟩
   ·rintro e a w ⟨q25,s25,row_24,p_c_26,rfl,rfl,hF,hS,h25,h27,h27k⟩
    refine x_ib (n_sq ?_)
    refine q_region (q_m hF rfl fun a hF=>q_m hF rfl fun a hF=>?_)
    have hS : St _ _ _ _ [q25,q9,[⟨b_p_c,[s1.v,(iV p_c_26.at_),(.int .u64 p_c_26.seed.v)],90⟩]]:=hS.sel [1,0,2] (by decide)
    refine q_do rfl fun _ hK=>wp_build1D hF hS h25 U23 inf28 rfl rfl rfl fun a w q28 s28 hF hS h28 _=>hK _ _ ?_
    have hS : St _ _ _ _ [q9,q28,[⟨b_p_c,[s1.v,(iV p_c_26.at_),(.int .u64 p_c_26.seed.v)],90⟩]]:=hS.sel [1,0,2] (by decide)
    obtain ⟨l_29,hl_29,hb1⟩:=bindS hb1
    refine q_do rfl fun _ hK=>wp_appendD hF hS h9 h28 U23 inf28 rfl rfl rfl (by decide) hl_29 rfl fun a w q30 s30 hF hS h30=>hK _ _ (q_s hF rfl fun a hF=>q_end (n_ib (n_sq (q_region (q_m hF rfl fun a hF=>q_y (v:=(iV (w64 (i_10 + 1)))) hF hS (ex_ibin rfl rfl rfl) fun a hF=>q_s hF rfl fun a hF=>q_end ?_)))))
    obtain rfl:=someI hb1
    exact ⟨rfl,q30,s30,_,_,_,rfl,hF.sub ⟨rfl,rfl,rfl,rfl,rfl,trivial⟩,hS,h30,h27,h27k⟩
 ·rintro e a w ⟨q32,s32,x_31,p_c_33,rfl,rfl,hF,hS,h32,h34,h34k⟩
  refine x_ib (n_sq ?_)
  refine q_sr (q_m hF rfl fun a hF=>q_s hF rfl fun a hF=>q_end (n_sq (q_ret ?_)))
  obtain rfl:=someI hr
  exact ret_ofX hF hS rfl (.tmp rfl .nil) ⟨q32,s32,rfl,hS.sel [1,0] (by decide),h32,h34k⟩

theorem c_spec_l1Cur_among (p_c : spec_l1Cur) (p_list : List Int) (r : Int × spec_l1Cur) (hr : spec_l1Cur_among p_c p_list = some r) (w0 : World) (m : Mem) (b_p_c : Nat) (s1 : Sl) (h1 : Rd m s1 p_c.code) (s2 : Sl) (h2 : Rd m s2 p_list) (X : List Nat) (hS : St X w0 w0 m [[⟨b_p_c,[s1.v,(iV p_c.at_),(.int .u64 p_c.seed.v)],90⟩]]) :
  RetX Try.prog 74 [(pP b_p_c 0),s2.v] w0 (fun v w=>v = (iV r.1)∧St X w0 w m [[⟨b_p_c,[s1.v,(iV r.2.at_),(.int .u64 r.2.seed.v)],90⟩]]∧r.2.code = p_c.code):=by
 unfold spec_l1Cur_among at hr
 refine ret_startX Try.func74 rfl 12 rfl rfl fun a hF=>q_sr (q_s hF rfl fun a hF=>q_end (n_sq (q_sr (q_m hF rfl fun a hF=>q_m hF rfl fun a hF=>q_m hF rfl fun a hF=>q_y (v:=(iV (goLen p_list))) hF hS (ex_len U28 rfl h2.len) fun a hF=>?_))))
 have hS3 : St _ _ _ _ ([[⟨b_p_c,[s1.v,(iV p_c.at_),(.int .u64 p_c.seed.v)],90⟩]]++[]):=hS
 have hE3:=hS3.enter
 obtain ⟨t_4,ht_4,hr⟩:=bindS hr
 refine q_do rfl fun _ hK=>wp_callX (vs:=[(pP b_p_c 0),(iV (goLen p_list))]) hF Try.func106 (by kernel_rfl) rfl rfl rfl (c_spec_l1Cur_pick p_c (goLen p_list) t_4 ht_4 _ m b_p_c s1 h1 _ hE3) fun a w _ hR hF=>hK _ _ ?_
 obtain ⟨rfl,hR3,hk5⟩:=hR
 have hS : St _ _ _ _ [[⟨b_p_c,[s1.v,(iV t_4.2.at_),(.int .u64 t_4.2.seed.v)],90⟩]]:=hS3.leaveF hR3
 have h5 : Rd m s1 t_4.2.code:=by rw [hk5]; exact h1
 obtain ⟨e_6,he_6,hr⟩:=bindS hr
 obtain ⟨vs7,at7,d7⟩:=h2.at he_6 1 rfl
 obtain rfl : vs7 = [(iV e_6)]:=d7
 refine q_y (v:=(elP s2 (t_4.1.toNat * 1))) hF hS (ex_indexAddr U28 sz3 rfl rfl (h2.idx he_6)) fun a hF=>q_y (v:=(iV e_6)) hF hS (ex_loadE1 0 U3 rfl rfl ((at7).at) rfl rfl) fun a hF=>q_s hF rfl fun a hF=>q_end (n_sq (q_ret ?_))
 obtain rfl:=someI hr
 exact ret_ofX hF hS rfl (.tmp rfl .nil) ⟨rfl,hS.sel [0] (by decide),hk5⟩

theorem c_spec_l1Own (p_l : List Int) (r : (List Int)) (hr : spec_l1Own p_l = some r) (w0 : World) (m : Mem) (hv : Vis m w0) (s1 : Sl) (h1 : Rd m s1 p_l) :
  Ret Try.prog 153 [s1.v] w0 (fun v w=>∃ (q0' : Piece) (s0' : Sl),v = s0'.v∧St [] w0 w m [q0']∧OwnL m 3 q0' s0' r):=by
 unfold spec_l1Own at hr
 refine ret_start Try.func153 rfl 6 rfl rfl m hv fun a hF hS=>q_sr (q_s hF rfl fun a hF=>q_end (n_sq (q_sr (q_do rfl fun _ hK=>wp_build0 (α:=Int) hF hS U28 inf3 rfl fun a w q2 s2 hF hS h2 _=>hK _ _ (q_m hF rfl fun a hF=>?_)))))
 obtain ⟨l_3,hl_3,hr⟩:=bindS hr
 refine q_do rfl fun _ hK=>wp_append hF hS h2 U28 inf3 rfl rfl rfl rfl (h1.vw hS.vis) rfl (by decide) hl_3 rfl fun a w q4 s4 hF hS h4=>hK _ _ (q_s hF rfl fun a hF=>q_end (n_sq (q_ret ?_)))
 obtain rfl:=someI hr
 exact ret_of hF hS rfl (.tmp rfl .nil) ⟨q4,s4,rfl,hS.sel [0] (by decide),h4⟩

theorem c_spec_l1Cur_anyGrid (p_c : spec_l1Cur) (r : (List (List Int)) × spec_l1Cur) (hr : spec_l1Cur_anyGrid p_c = some r) (w0 : World) (m : Mem) (b_p_c : Nat) (s1 : Sl) (h1 : Rd m s1 p_c.code) (X : List Nat) (hS : St X w0 w0 m [[⟨b_p_c,[s1.v,(iV p_c.at_),(.int .u64 p_c.seed.v)],90⟩]]) :
  RetX Try.prog 146 [(pP b_p_c 0)] w0 (fun v w=>∃ (q0' : Piece) (s0' : Sl),v = s0'.v∧St X w0 w m [[⟨b_p_c,[s1.v,(iV r.2.at_),(.int .u64 r.2.seed.v)],90⟩],q0']∧OwnD m 28 3 q0' s0' r.1∧r.2.code = p_c.code):=by
 unfold spec_l1Cur_anyGrid at hr
 refine ret_startX Try.func146 rfl 44 rfl rfl fun a hF=>q_sr (q_s hF rfl fun a hF=>q_end (n_sq (q_sr (q_m hF rfl fun a hF=>?_))))
 have hS2 : St _ _ _ _ ([[⟨b_p_c,[s1.v,(iV p_c.at_),(.int .u64 p_c.seed.v)],90⟩]]++[]):=hS
 have hE2:=hS2.enter
 obtain ⟨t_3,ht_3,hr⟩:=bindS hr
 refine q_do rfl fun _ hK=>wp_callX (vs:=[(pP b_p_c 0)]) hF Try.func179 (by kernel_rfl) rfl rfl rfl (c_spec_l1Cur_grid p_c t_3 ht_3 _ m b_p_c s1 h1 _ hE2) fun a w _ hR hF=>hK _ _ ?_
 obtain ⟨q4,s4,rfl,hR2,h4,hk5⟩:=hR
 have hS : St _ _ _ _ [[⟨b_p_c,[s1.v,(iV t_3.2.at_),(.int .u64 t_3.2.seed.v)],90⟩],q4]:=hS2.leaveF hR2
 have h5 : Rd m s1 t_3.2.code:=by rw [hk5]; exact h1
 refine q_s hF rfl fun a hF=>q_end (n_sq (q_seq (q_sr (q_m hF rfl fun a hF=>?_))))
 have hS6 : St _ _ _ _ ([[⟨b_p_c,[s1.v,(iV t_3.2.at_),(.int .u64 t_3.2.seed.v)],90⟩]]++[q4]):=hS
 have hE6:=hS6.enter
 obtain ⟨t_7,ht_7,hr⟩:=bindS hr
 refine q_do rfl fun _ hK=>wp_callX (vs:=[(pP b_p_c 0),(iV 24)]) hF Try.func106 (by kernel_rfl) rfl rfl rfl (c_spec_l1Cur_pick t_3.2 24 t_7 ht_7 _ m b_p_c s1 h5 _ hE6) fun a w _ hR hF=>hK _ _ ?_
 obtain ⟨rfl,hR6,hk8⟩:=hR
 have hS : St _ _ _ _ [[⟨b_p_c,[s1.v,(iV t_7.2.at_),(.int .u64 t_7.2.seed.v)],90⟩],q4]:=hS6.leaveF hR6
 have h8 : Rd m s1 t_7.2.code:=by rw [hk8]; exact h5
 refine q_end (n_sq (q_block (q_sr (q_y (v:=(.bool (t_7.1 == 0))) hF hS (ex_ibin rfl rfl rfl) fun a hF=>q_s hF rfl fun a hF=>q_end (n_sq ?_)))))
 obtain ⟨j1,hj1,hr⟩:=bindS hr
 refine q_join (fun a w=>∃ (q38 : Piece),∃ (s38 : Sl),∃ x_37,∃ p_c_39,j1 = .inl (x_37,p_c_39)∧Fr a 44 [(3,s38.v)]∧St X w0 w m [q38,[⟨b_p_c,[s1.v,(iV p_c_39.at_),(.int .u64 p_c_39.seed.v)],90⟩]]∧OwnD m 28 3 q38 s38 x_37∧Rd m s1 p_c_39.code∧p_c_39.code = p_c.code) ?_ ?_
 ·rcases bcase (t_7.1 == 0) with hc2 | hc2
  ·have hj1:=cond_f hc2 hj1
   refine q_cond_f hF rfl hc2 (q_sr (q_y (v:=(.bool (t_7.1 == 1))) hF hS (ex_ibin rfl rfl rfl) fun a hF=>q_s hF rfl fun a hF=>q_end (n_sq ?_)))
   obtain ⟨j3,hj3,hj1⟩:=bindS hj1
   refine q_join (fun a w=>∃ (q34 : Piece),∃ (s34 : Sl),∃ x_33,∃ p_c_35,j3 = .inl (x_33,p_c_35)∧Fr a 44 [(3,s34.v)]∧St X w0 w m [q34,[⟨b_p_c,[s1.v,(iV p_c_35.at_),(.int .u64 p_c_35.seed.v)],90⟩]]∧OwnD m 28 3 q34 s34 x_33∧Rd m s1 p_c_35.code∧p_c_35.code = p_c.code) ?_ ?_
   ·rcases bcase (t_7.1 == 1) with hc4 | hc4
    ·have hj3:=cond_f hc4 hj3
     refine q_cond_f hF rfl hc4 (q_sr (q_y (v:=(.bool (t_7.1 == 2))) hF hS (ex_ibin rfl rfl rfl) fun a hF=>q_s hF rfl fun a hF=>q_end (n_sq ?_)))
     rcases bcase (t_7.1 == 2) with hc5 | hc5
     ·have hj3:=cond_f hc5 hj3
      refine q_cond_f hF rfl hc5 (q_sr (q_y (v:=(.bool (t_7.1 == 3))) hF hS (ex_ibin rfl rfl rfl) fun a hF=>q_s hF rfl fun a hF=>q_end (n_sq ?_)))
      obtain ⟨j6,hj6,hj3⟩:=bindS hj3
      refine q_join (fun a w=>∃ (q30 : Piece),∃ (s30 : Sl),∃ x_29,∃ p_c_31,j6 = (x_29,p_c_31)∧Fr a 44 [(3,s30.v)]∧St X w0 w m [q30,[⟨b_p_c,[s1.v,(iV p_c_31.at_),(.int .u64 p_c_31.seed.v)],90⟩]]∧OwnD m 28 3 q30 s30 x_29∧Rd m s1 p_c_31.code∧p_c_31.code = p_c.code) ?_ ?_
      ·rcases bcase (t_7.1 == 3) with hc7 | hc7
       ·have hj6:=cond_f hc7 hj6
        refine q_cond_f hF rfl hc7 (q_skipc (n_jn ?_))
        obtain rfl:=someI hj6
        exact ⟨q4,s4,_,_,rfl,hF.sub ⟨rfl,trivial⟩,hS.sel [1,0] (by decide),h4,h8,(hk8.trans hk5)⟩
       ·have hj6:=cond_t hc7 hj6
        refine q_cond_t hF rfl hc7 (q_block ?_)
        obtain ⟨o8,hl8,hj6⟩:=bindS hj6
        refine q_loop (fun (s : (List (List Int)) × spec_l1Cur) a w=>∃ (q10 : Piece),∃ (s10 : Sl),∃ x_9,∃ p_c_11,s = (x_9,p_c_11)∧Fr a 44 [(0,(pP b_p_c 0)),(3,s10.v)]∧St X w0 w m [q10,[⟨b_p_c,[s1.v,(iV p_c_11.at_),(.int .u64 p_c_11.seed.v)],90⟩]]∧OwnD m 28 3 q10 s10 x_9∧Rd m s1 p_c_11.code∧p_c_11.code = p_c.code) (fun (o : (List (List Int)) × spec_l1Cur) e a w=>∃ (q26 : Piece),∃ (s26 : Sl),∃ x_25,∃ p_c_27,o = (x_25,p_c_27)∧e = .exit 1∧Fr a 44 [(3,s26.v)]∧St X w0 w m [q26,[⟨b_p_c,[s1.v,(iV p_c_27.at_),(.int .u64 p_c_27.seed.v)],90⟩]]∧OwnD m 28 3 q26 s26 x_25∧Rd m s1 p_c_27.code∧p_c_27.code = p_c.code) hl8 ⟨q4,s4,_,_,rfl,hF.sub ⟨rfl,rfl,trivial⟩,hS.sel [1,0] (by decide),h4,h8,(hk8.trans hk5)⟩ ?_ ?_
        ·clear hF hS
         rintro s a w st ⟨q10,s10,x_9,p_c_11,rfl,hF,hS,h10,h12,h12k⟩ hb8
         unfold spec_l1Cur_anyGrid_l1 at hb8
         refine q_seq (q_sr (q_m hF rfl fun a hF=>q_y (v:=(iV (goLen x_9))) hF hS (ex_len U23 rfl h10.len) fun a hF=>q_m hF rfl fun a hF=>?_))
         have hS : St _ _ _ _ [[⟨b_p_c,[s1.v,(iV p_c_11.at_),(.int .u64 p_c_11.seed.v)],90⟩],q10]:=hS.sel [1,0] (by decide)
         have hS13 : St _ _ _ _ ([[⟨b_p_c,[s1.v,(iV p_c_11.at_),(.int .u64 p_c_11.seed.v)],90⟩]]++[q10]):=hS
         have hE13:=hS13.enter
         obtain ⟨t_14,ht_14,hb8⟩:=bindS hb8
         refine q_do rfl fun _ hK=>wp_callX (vs:=[(pP b_p_c 0),(iV 2)]) hF Try.func106 (by kernel_rfl) rfl rfl rfl (c_spec_l1Cur_pick p_c_11 2 t_14 ht_14 _ m b_p_c s1 h12 _ hE13) fun a w _ hR hF=>hK _ _ ?_
         obtain ⟨rfl,hR13,hk15⟩:=hR
         have hS : St _ _ _ _ [[⟨b_p_c,[s1.v,(iV t_14.2.at_),(.int .u64 t_14.2.seed.v)],90⟩],q10]:=hS13.leaveF hR13
         have h15 : Rd m s1 t_14.2.code:=by rw [hk15]; exact h12
         refine q_y (v:=(iV (w64 (7 + t_14.1)))) hF hS (ex_ibin rfl rfl rfl) fun a hF=>q_y (v:=(.bool (decide ((goLen x_9) < (w64 (7 + t_14.1)))))) hF hS (ex_ibin rfl rfl rfl) fun a hF=>q_end (n_sq ?_)
         rcases bcase (decide ((goLen x_9) < (w64 (7 + t_14.1)))) with hc9 | hc9
         ·have hb8:=cond_f hc9 hb8
          refine q_cond_f hF rfl hc9 (q_exit (x_sq ?_))
          obtain rfl:=someI hb8
          exact ⟨nofun,.inl ⟨q10,s10,_,_,rfl,rfl,hF.sub ⟨rfl,trivial⟩,hS.sel [1,0] (by decide),h10,h15,(hk15.trans h12k)⟩⟩
         ·have hb8:=cond_t hc9 hb8
          refine q_cond_t hF rfl hc9 (q_skipc (n_sq (q_block (q_region (q_m hF rfl fun a hF=>q_m hF rfl fun a hF=>?_)))))
          obtain ⟨e_16,he_16,hb8⟩:=bindS hb8
          obtain ⟨s17,hV17⟩:=h10.view he_16
          refine q_y (v:=(elP s10 ((0 : Int).toNat * 1))) hF hS (ex_indexAddr U23 sz28 rfl rfl (h10.idx he_16)) fun a hF=>q_y (v:=s17.v) hF hS (ex_loadE1 0 U28 rfl rfl ((hV17.atH he_16).at 1 rfl) rfl rfl) fun a hF=>?_
          obtain ⟨m19,hl19,hv19,hz19⟩:=hS.lend
          obtain ⟨t_18,ht_18,hb8⟩:=bindS hb8
          refine q_call (vs:=[s17.v]) hF hS Try.func153 (by kernel_rfl) rfl rfl rfl (c_spec_l1Own e_16 t_18 ht_18 _ m19 hv19 s17 (hV17.froz he_16 hl19 (hz19 1 _ rfl))) ?_
          rintro a w _ ⟨q21,s21,rfl,hR20,h21⟩ hF hS2
          have hS : St _ _ _ _ [q21,[⟨b_p_c,[s1.v,(iV t_14.2.at_),(.int .u64 t_14.2.seed.v)],90⟩],q10]:=hS.joinF hR20
          have h21:=h21.any m
          refine q_do rfl fun _ hK=>wp_build1D hF hS h21 U23 inf28 rfl rfl rfl fun a w q22 s22 hF hS h22 _=>hK _ _ ?_
          have hS : St _ _ _ _ [q10,q22,[⟨b_p_c,[s1.v,(iV t_14.2.at_),(.int .u64 t_14.2.seed.v)],90⟩]]:=hS.sel [2,0,1] (by decide)
          obtain ⟨l_23,hl_23,hb8⟩:=bindS hb8
          refine q_do rfl fun _ hK=>wp_appendD hF hS h10 h22 U23 inf28 rfl rfl rfl (by decide) hl_23 rfl fun a w q24 s24 hF hS h24=>hK _ _ (q_s hF rfl fun a hF=>q_end (n_ib ?_))
          obtain rfl:=someI hb8
          exact ⟨rfl,q24,s24,_,_,rfl,hF.sub ⟨rfl,rfl,trivial⟩,hS,h24,h15,(hk15.trans h12k)⟩
        ·rintro e a w ⟨q26,s26,x_25,p_c_27,rfl,rfl,hF,hS,h26,h28,h28k⟩
         refine x_ib (n_jn ?_)
         obtain rfl:=someI hj6
         exact ⟨q26,s26,_,_,rfl,hF.sub ⟨rfl,trivial⟩,hS,h26,h28,h28k⟩
      ·rintro a w ⟨q30,s30,x_29,p_c_31,rfl,hF,hS,h30,h32,h32k⟩
       refine n_jn ?_
       obtain rfl:=someI hj3
       exact ⟨q30,s30,_,_,rfl,hF.sub ⟨rfl,trivial⟩,hS,h30,h32,h32k⟩
     ·have hj3:=cond_t hc5 hj3
      refine q_cond_t hF rfl hc5 (q_sr (q_s hF rfl fun a hF=>q_end (n_sq (q_ret (r_jn ?_)))))
      obtain rfl:=someI hj3
      refine r_jn ?_
      obtain rfl:=someI hj1
      refine r_ib (r_sq ?_)
      obtain rfl:=someI hr
      exact ret_ofX hF hS rfl (.tmp rfl .nil) ⟨[],nilS,rfl,hS.sel [0,2] (by decide),(OwnD.nil (β:=Int) m 28 3),(hk8.trans hk5)⟩
    ·have hj3:=cond_t hc4 hj3
     refine q_cond_t hF rfl hc4 (q_region (q_m hF rfl fun a hF=>q_m hF rfl fun a hF=>?_))
     obtain ⟨e_9,he_9,hj3⟩:=bindS hj3
     obtain ⟨s10,hV10⟩:=h4.view he_9
     refine q_y (v:=(elP s4 ((0 : Int).toNat * 1))) hF hS (ex_indexAddr U23 sz28 rfl rfl (h4.idx he_9)) fun a hF=>q_y (v:=s10.v) hF hS (ex_loadE1 0 U28 rfl rfl ((hV10.atH he_9).at 1 rfl) rfl rfl) fun a hF=>q_do rfl fun _ hK=>wp_buildSlice' (l:=([1] : List Int)) (cells:=[(iV 1)]) hF hS U28 inf3 rfl rfl (by kernel_rfl) rfl rfl rfl ⟨rfl,rfl⟩ rfl rfl fun a w q11 s11 hF hS h11 _=>hK _ _ ?_
     have hS : St _ _ _ _ [q4,q11,[⟨b_p_c,[s1.v,(iV t_7.2.at_),(.int .u64 t_7.2.seed.v)],90⟩]]:=hS.sel [2,0,1] (by decide)
     obtain ⟨q12,q12',hS,h12,h12'⟩:=hS.takeV hV10 he_9
     obtain ⟨l_13,hl_13,hj3⟩:=bindS hj3
     refine q_do rfl fun _ hK=>wp_append hF hS h12 U28 inf3 rfl rfl rfl rfl (h11.vw hS (j:=2) rfl) rfl (by decide) hl_13 rfl fun a w q14 s14 hF hS h14=>hK _ _ ?_
     obtain ⟨e_15,he_15,hj3⟩:=bindS hj3
     refine q_y (v:=(elP s4 ((0 : Int).toNat * 1))) hF hS (ex_indexAddr U23 sz28 rfl rfl (h12'.idx he_15)) fun a hF=>?_
     have hS : St _ _ _ _ [q12',q14,q11,[⟨b_p_c,[s1.v,(iV t_7.2.at_),(.int .u64 t_7.2.seed.v)],90⟩]]:=hS.sel [1,0,2,3] (by decide)
     refine q_do rfl fun _ hK=>wp_storeH hF hS h12' h14 sz28 rfl rfl he_15 rfl fun w q17 hS h17=>hK _ _ (q_end (n_jn ?_))
     obtain rfl:=someI hj3
     exact ⟨q17,s4,_,_,rfl,hF.sub ⟨rfl,trivial⟩,hS.mask [true,false,true],h17,h8,(hk8.trans hk5)⟩
   ·rintro a w ⟨q34,s34,x_33,p_c_35,rfl,hF,hS,h34,h36,h36k⟩
    refine n_jn ?_
    obtain rfl:=someI hj1
    exact ⟨q34,s34,_,_,rfl,hF.sub ⟨rfl,trivial⟩,hS,h34,h36,h36k⟩
  ·have hj1:=cond_t hc2 hj1
   refine q_cond_t hF rfl hc2 ?_
   obtain ⟨j10,hj10,hj1⟩:=bindS hj1
   refine q_join (fun a w=>∃ (q20 : Piece),∃ x_19,∃ p_c_21,j10 = (x_19,p_c_21)∧Fr a 44 [(3,s4.v)]∧St X w0 w m [q20,[⟨b_p_c,[s1.v,(iV p_c_21.at_),(.int .u64 p_c_21.seed.v)],90⟩]]∧OwnD m 28 3 q20 s4 x_19∧Rd m s1 p_c_21.code∧p_c_21.code = p_c.code) ?_ ?_
   ·refine e_region ⟨[5,7],[],m⟩ mixed fun w' hw'=>?_
    have hS:=hS.below hw'
    refine e_P (v:=s4.v) 0 hF rfl (ex_move rfl) fun a hF=>?_
    obtain ⟨e_9,he_9,hj10⟩:=bindS hj10
    obtain ⟨s10,hV10⟩:=h4.view he_9
    refine e_P (v:=(elP s4 ((0 : Int).toNat * 1))) 1 hF rfl (ex_indexAddr U23 sz28 rfl rfl (h4.idx he_9)) fun a hF=>e_P (v:=(pP b_p_c 0)) 3 hF rfl (ex_move rfl) fun a hF=>?_
    obtain ⟨t_14,ht_14,hj10⟩:=bindS hj10
    obtain ⟨e_16,he_16,hj10⟩:=bindS hj10
    refine e_all [2,4] (by kernel_rfl) rfl ⟨?_,?_,trivial⟩
    ·refine e_lx (v:=s10.v) hF hS rfl (ex_loadE1 0 U28 rfl rfl ((hV10.atH he_9).at 1 rfl) rfl rfl) rfl rfl fun a hF=>e_one 4 (by kernel_rfl) (e_op rfl rfl fun _ hK=>wp_buildSlice' (l:=([-1,10000,10001] : List Int)) (cells:=[(iV (-1)),(iV 10000),(iV 10001)]) hF hS U28 inf3 rfl rfl (by kernel_rfl) rfl rfl rfl ⟨rfl,rfl,rfl,rfl⟩ rfl rfl fun a w q12 s12 hF hS h12 hb=>hK _ _ hb (e_one 5 (by kernel_rfl) ?_))
     have hS : St _ _ _ _ [[⟨b_p_c,[s1.v,(iV t_7.2.at_),(.int .u64 t_7.2.seed.v)],90⟩],q12,q4]:=hS.sel [1,0,2] (by decide)
     have hS13 : St _ _ _ _ ([[⟨b_p_c,[s1.v,(iV t_7.2.at_),(.int .u64 t_7.2.seed.v)],90⟩]]++[q12,q4]):=hS
     obtain ⟨m13,hl13,hE13,hz13⟩:=hS13.lendX
     refine e_opl rfl rfl rfl fun _ hK=>wp_callX (vs:=[(pP b_p_c 0),s12.v]) hF Try.func74 (by kernel_rfl) rfl rfl rfl (c_spec_l1Cur_among t_7.2 ([-1,10000,10001] : List Int) t_14 ht_14 _ m13 b_p_c s1 (h8.mono hl13) s12 (h12.froz hl13 (hz13 0 _ rfl)) _ hE13) fun a w _ hR hF=>hK _ _ ?_
     obtain ⟨rfl,hR13,hk15⟩:=hR
     have hS : St _ _ _ _ [[⟨b_p_c,[s1.v,(iV t_14.2.at_),(.int .u64 t_14.2.seed.v)],90⟩],q12,q4]:=hS13.leaveF hR13
     have h15 : Rd m s1 t_14.2.code:=by rw [hk15]; exact h8
     refine ⟨⟨kpN,fun _=>hS.vis.of_le (Mem.le.refl _)⟩,?_⟩
     obtain ⟨vs17,at17,d17⟩:=hV10.at he_9 he_16 1 rfl
     obtain rfl : vs17 = [(iV e_16)]:=d17
     refine e_P (v:=(elP s10 ((0 : Int).toNat * 1))) 6 hF rfl (ex_indexAddr U28 sz3 rfl rfl (hV10.idx he_9 he_16)) fun a hF=>e_one 7 (by kernel_rfl) ?_
     have hS : St _ _ _ _ [q4,[⟨b_p_c,[s1.v,(iV t_14.2.at_),(.int .u64 t_14.2.seed.v)],90⟩],q12]:=hS.sel [2,0,1] (by decide)
     refine e_opl rfl rfl rfl fun _ hK=>wp_storeV (e':=t_14.1) (us:=[(iV t_14.1)]) (vs:=[(iV e_16)]) 0 hF hS hV10 he_9 sz3 rfl rfl rfl rfl rfl rfl rfl he_16 at17 rfl rfl rfl fun w q18 hS h18=>hK _ _ (⟨⟨kpN,fun _=>hS.vis.of_le (Mem.le.refl _)⟩,?_⟩)
     refine e_end (by kernel_rfl) (n_jn ?_) _
     obtain rfl:=someI hj10
     exact ⟨q18,_,_,rfl,hF.sub ⟨rfl,trivial⟩,hS.mask [true,true,false],h18.own,h15,(hk15.trans (hk8.trans hk5))⟩
    ·refine e_op rfl rfl fun _ hK=>wp_buildSlice' (l:=([-1,10000,10001] : List Int)) (cells:=[(iV (-1)),(iV 10000),(iV 10001)]) hF hS U28 inf3 rfl rfl (by kernel_rfl) rfl rfl rfl ⟨rfl,rfl,rfl,rfl⟩ rfl rfl fun a w q12 s12 hF hS h12 hb=>hK _ _ hb (e_all [2,5] (by kernel_rfl) rfl ⟨?_,?_,trivial⟩)
     ·refine e_lx (v:=s10.v) hF hS rfl (ex_loadE1 0 U28 rfl rfl ((hV10.atH he_9).at 2 rfl) rfl rfl) rfl rfl fun a hF=>e_one 5 (by kernel_rfl) ?_
      have hS : St _ _ _ _ [[⟨b_p_c,[s1.v,(iV t_7.2.at_),(.int .u64 t_7.2.seed.v)],90⟩],q12,q4]:=hS.sel [1,0,2] (by decide)
      have hS13 : St _ _ _ _ ([[⟨b_p_c,[s1.v,(iV t_7.2.at_),(.int .u64 t_7.2.seed.v)],90⟩]]++[q12,q4]):=hS
      obtain ⟨m13,hl13,hE13,hz13⟩:=hS13.lendX
      refine e_opl rfl rfl rfl fun _ hK=>wp_callX (vs:=[(pP b_p_c 0),s12.v]) hF Try.func74 (by kernel_rfl) rfl rfl rfl (c_spec_l1Cur_among t_7.2 ([-1,10000,10001] : List Int) t_14 ht_14 _ m13 b_p_c s1 (h8.mono hl13) s12 (h12.froz hl13 (hz13 0 _ rfl)) _ hE13) fun a w _ hR hF=>hK _ _ ?_
      obtain ⟨rfl,hR13,hk15⟩:=hR
      have hS : St _ _ _ _ [[⟨b_p_c,[s1.v,(iV t_14.2.at_),(.int .u64 t_14.2.seed.v)],90⟩],q12,q4]:=hS13.leaveF hR13
      have h15 : Rd m s1 t_14.2.code:=by rw [hk15]; exact h8
      refine ⟨⟨kpN,fun _=>hS.vis.of_le (Mem.le.refl _)⟩,?_⟩
      obtain ⟨vs17,at17,d17⟩:=hV10.at he_9 he_16 1 rfl
      obtain rfl : vs17 = [(iV e_16)]:=d17
      refine e_P (v:=(elP s10 ((0 : Int).toNat * 1))) 6 hF rfl (ex_indexAddr U28 sz3 rfl rfl (hV10.idx he_9 he_16)) fun a hF=>e_one 7 (by kernel_rfl) ?_
      have hS : St _ _ _ _ [q4,[⟨b_p_c,[s1.v,(iV t_14.2.at_),(.int .u64 t_14.2.seed.v)],90⟩],q12]:=hS.sel [2,0,1] (by decide)
      refine e_opl rfl rfl rfl fun _ hK=>wp_storeV (e':=t_14.1) (us:=[(iV t_14.1)]) (vs:=[(iV e_16)]) 0 hF hS hV10 he_9 sz3 rfl rfl rfl rfl rfl rfl rfl he_16 at17 rfl rfl rfl fun w q18 hS h18=>hK _ _ (⟨⟨kpN,fun _=>hS.vis.of_le (Mem.le.refl _)⟩,?_⟩)
      refine e_end (by kernel_rfl) (n_jn ?_) _
      obtain rfl:=someI hj10
      exact ⟨q18,_,_,rfl,hF.sub ⟨rfl,trivial⟩,hS.mask [true,true,false],h18.own,h15,(hk15.trans (hk8.trans hk5))⟩
     ·have hS : St _ _ _ _ [[⟨b_p_c,[s1.v,(iV t_7.2.at_),(.int .u64 t_7.2.seed.v)],90⟩],q12,q4]:=hS.sel [1,0,2] (by decide)
      have hS13 : St _ _ _ _ ([[⟨b_p_c,[s1.v,(iV t_7.2.at_),(.int .u64 t_7.2.seed.v)],90⟩]]++[q12,q4]):=hS
      obtain ⟨m13,hl13,hE13,hz13⟩:=hS13.lendX
      refine e_opl rfl rfl rfl fun _ hK=>wp_callX (vs:=[(pP b_p_c 0),s12.v]) hF Try.func74 (by kernel_rfl) rfl rfl rfl (c_spec_l1Cur_among t_7.2 ([-1,10000,10001] : List Int) t_14 ht_14 _ m13 b_p_c s1 (h8.mono hl13) s12 (h12.froz hl13 (hz13 0 _ rfl)) _ hE13) fun a w _ hR hF=>hK _ _ ?_
      obtain ⟨rfl,hR13,hk15⟩:=hR
      have hS : St _ _ _ _ [[⟨b_p_c,[s1.v,(iV t_14.2.at_),(.int .u64 t_14.2.seed.v)],90⟩],q12,q4]:=hS13.leaveF hR13
      have h15 : Rd m s1 t_14.2.code:=by rw [hk15]; exact h8
      refine ⟨⟨kpN,fun _=>hS.vis.of_le (Mem.le.refl _)⟩,?_⟩
      refine e_X (v:=s10.v) 2 hF hS rfl (ex_loadE1 0 U28 rfl rfl ((hV10.atH he_9).at 2 rfl) rfl rfl) fun a hF=>?_
      obtain ⟨vs17,at17,d17⟩:=hV10.at he_9 he_16 1 rfl
      obtain rfl : vs17 = [(iV e_16)]:=d17
      refine e_P (v:=(elP s10 ((0 : Int).toNat * 1))) 6 hF rfl (ex_indexAddr U28 sz3 rfl rfl (hV10.idx he_9 he_16)) fun a hF=>e_one 7 (by kernel_rfl) ?_
      have hS : St _ _ _ _ [q4,[⟨b_p_c,[s1.v,(iV t_14.2.at_),(.int .u64 t_14.2.seed.v)],90⟩],q12]:=hS.sel [2,0,1] (by decide)
      refine e_opl rfl rfl rfl fun _ hK=>wp_storeV (e':=t_14.1) (us:=[(iV t_14.1)]) (vs:=[(iV e_16)]) 0 hF hS hV10 he_9 sz3 rfl rfl rfl rfl rfl rfl rfl he_16 at17 rfl rfl rfl fun w q18 hS h18=>hK _ _ (⟨⟨kpN,fun _=>hS.vis.of_le (Mem.le.refl _)⟩,?_⟩)
      refine e_end (by kernel_rfl) (n_jn ?_) _
      obtain rfl:=someI hj10
      exact ⟨q18,_,_,rfl,hF.sub ⟨rfl,trivial⟩,hS.mask [true,true,false],h18.own,h15,(hk15.trans (hk8.trans hk5))⟩
   ·rintro a w ⟨q20,x_19,p_c_21,rfl,hF,hS,h20,h22,h22k⟩
    refine n_jn ?_
    obtain rfl:=someI hj1
    exact ⟨q20,s4,_,_,rfl,hF.sub ⟨rfl,trivial⟩,hS,h20,h22,h22k⟩
 ·rintro a w ⟨q38,s38,x_37,p_c_39,rfl,hF,hS,h38,h40,h40k⟩
  refine n_ib (n_sq ?_)
  refine q_sr (q_m hF rfl fun a hF=>q_s hF rfl fun a hF=>q_end (n_sq (q_ret ?_)))
  obtain rfl:=someI hr
  exact ret_ofX hF hS rfl (.tmp rfl .nil) ⟨q38,s38,rfl,hS.sel [1,0] (by decide),h38,h40k⟩

theorem c_spec_l1Cur_base (p_c : spec_l1Cur) (r : Int × spec_l1Cur) (hr : spec_l1Cur_base p_c = some r) (w0 : World) (m : Mem) (b_p_c : Nat) (s1 : Sl) (h1 : Rd m s1 p_c.code) (X : List Nat) (hS : St X w0 w0 m [[⟨b_p_c,[s1.v,(iV p_c.at_),(.int .u64 p_c.seed.v)],90⟩]]) :
  RetX Try.prog 147 [(pP b_p_c 0)] w0 (fun v w=>v = (iV r.1)∧St X w0 w m [[⟨b_p_c,[s1.v,(iV r.2.at_),(.int .u64 r.2.seed.v)],90⟩]]∧r.2.code = p_c.code):=by
 unfold spec_l1Cur_base at hr
 refine ret_startX Try.func147 rfl 6 rfl rfl fun a hF=>q_sr (q_s hF rfl fun a hF=>q_end (n_sq (q_sr (q_m hF rfl fun a hF=>q_do rfl fun _ hK=>wp_buildSlice' (l:=([2,3,5,5,10,100,101,1] : List Int)) (cells:=[(iV 2),(iV 3),(iV 5),(iV 5),(iV 10),(iV 100),(iV 101),(iV 1)]) hF hS U28 inf3 rfl rfl (by kernel_rfl) rfl rfl rfl ⟨rfl,rfl,rfl,rfl,rfl,rfl,rfl,rfl,rfl⟩ rfl rfl fun a w q2 s2 hF hS h2 _=>hK _ _ ?_))))
 have hS : St _ _ _ _ [[⟨b_p_c,[s1.v,(iV p_c.at_),(.int .u64 p_c.seed.v)],90⟩],q2]:=hS.sel [1,0] (by decide)
 have hS3 : St _ _ _ _ ([[⟨b_p_c,[s1.v,(iV p_c.at_),(.int .u64 p_c.seed.v)],90⟩]]++[q2]):=hS
 obtain ⟨m3,hl3,hE3,hz3⟩:=hS3.lendX
 obtain ⟨t_4,ht_4,hr⟩:=bindS hr
 refine q_do rfl fun _ hK=>wp_callX (vs:=[(pP b_p_c 0),s2.v]) hF Try.func74 (by kernel_rfl) rfl rfl rfl (c_spec_l1Cur_among p_c ([2,3,5,5,10,100,101,1] : List Int) t_4 ht_4 _ m3 b_p_c s1 (h1.mono hl3) s2 (h2.froz hl3 (hz3 0 _ rfl)) _ hE3) fun a w _ hR hF=>hK _ _ ?_
 obtain ⟨rfl,hR3,hk5⟩:=hR
 have hS : St _ _ _ _ [[⟨b_p_c,[s1.v,(iV t_4.2.at_),(.int .u64 t_4.2.seed.v)],90⟩],q2]:=hS3.leaveF hR3
 have h5 : Rd m s1 t_4.2.code:=by rw [hk5]; exact h1
 refine q_s hF rfl fun a hF=>q_end (n_sq (q_ret ?_))
 obtain rfl:=someI hr
 exact ret_ofX hF hS rfl (.tmp rfl .nil) ⟨rfl,hS.sel [0] (by decide),hk5⟩

theorem c_spec_DrawRoundingNetwork (p_code : List (K .u8)) (r : (List (List Int)) × Int) (hr : spec_DrawRoundingNetwork p_code = some r) (w0 : World) (m : Mem) (hv : Vis m w0) (s1 : Sl) (h1 : Rd m s1 p_code) :
  Ret Try.prog 134 [s1.v] w0 (fun v w=>∃ (q0' : Piece) (s0' : Sl),v = (.tuple #[s0'.v,(iV r.2)])∧St [] w0 w m [q0']∧OwnD m 28 3 q0' s0' r.1):=by
 unfold spec_DrawRoundingNetwork at hr
 refine ret_start Try.func134 rfl 12 rfl rfl m hv fun a hF hS=>q_sr (q_s hF rfl fun a hF=>q_s hF rfl fun a hF=>q_end (n_sq (q_sr (q_m hF rfl fun a hF=>q_y (v:=(.agg #[s1.v,(iV 0),(.int .u64 0)])) hF hS (ex_build (cells:=[s1.v,(iV 0),(.int .u64 0)]) rfl (by kernel_rfl)) fun a hF=>q_box (cs:=[s1.v,(iV 0),(.int .u64 0)]) hF hS rfl rfl rfl fun a w b2 hF hS=>q_s hF rfl fun a hF=>q_end (n_sq (q_sr (q_m hF rfl fun a hF=>?_)))))))
 have hS3 : St _ _ _ _ ([[⟨b2,[s1.v,(iV 0),(.int .u64 0)],90⟩]]++[]):=hS
 have hE3:=hS3.enter
 obtain ⟨t_4,ht_4,hr⟩:=bindS hr
 refine q_do rfl fun _ hK=>wp_callX (vs:=[(pP b2 0)]) hF Try.func146 (by kernel_rfl) rfl rfl rfl (c_spec_l1Cur_anyGrid (spec_l1Cur.mk p_code 0 (⟨0⟩ : K .u64)) t_4 ht_4 _ m b2 s1 h1 _ hE3) fun a w _ hR hF=>hK _ _ ?_
 obtain ⟨q5,s5,rfl,hR3,h5,hk6⟩:=hR
 have hS : St _ _ _ _ [[⟨b2,[s1.v,(iV t_4.2.at_),(.int .u64 t_4.2.seed.v)],90⟩],q5]:=hS3.leaveF hR3
 have h6 : Rd m s1 t_4.2.code:=by rw [hk6]; exact h1
 refine q_m hF rfl fun a hF=>?_
 have hS7 : St _ _ _ _ ([[⟨b2,[s1.v,(iV t_4.2.at_),(.int .u64 t_4.2.seed.v)],90⟩]]++[q5]):=hS
 have hE7:=hS7.enter
 obtain ⟨t_8,ht_8,hr⟩:=bindS hr
 refine q_do rfl fun _ hK=>wp_callX (vs:=[(pP b2 0)]) hF Try.func147 (by kernel_rfl) rfl rfl rfl (c_spec_l1Cur_base t_4.2 t_8 ht_8 _ m b2 s1 h6 _ hE7) fun a w _ hR hF=>hK _ _ ?_
 obtain ⟨rfl,hR7,hk9⟩:=hR
 have hS : St _ _ _ _ [[⟨b2,[s1.v,(iV t_8.2.at_),(.int .u64 t_8.2.seed.v)],90⟩],q5]:=hS7.leaveF hR7
 have h9 : Rd m s1 t_8.2.code:=by rw [hk9]; exact h6
 refine q_s hF rfl fun a hF=>q_s hF rfl fun a hF=>q_end (n_sq (q_ret ?_))
 obtain rfl:=someI hr
 exact ret_of hF hS rfl (.tmp rfl (.tmp rfl .nil)) ⟨q5,s5,rfl,hS.sel [1] (by decide),h5⟩

theorem c_spec_DrawFirstRounding (p_code : List (K .u8)) (r : (List (List Int)) × Int) (hr : spec_DrawFirstRounding p_code = some r) (w0 : World) (m : Mem) (hv : Vis m w0) (s1 : Sl) (h1 : Rd m s1 p_code) :
  Ret Try.prog 58 [s1.v] w0 (fun v w=>∃ (q0' : Piece) (s0' : Sl),v = (.tuple #[s0'.v,(iV r.2)])∧St [] w0 w m [q0']∧OwnD m 28 3 q0' s0' r.1):=by
 unfold spec_DrawFirstRounding at hr
 refine ret_start Try.func58 rfl 8 rfl rfl m hv fun a hF hS=>q_sr (q_s hF rfl fun a hF=>q_s hF rfl fun a hF=>q_end (n_sq (q_sr (q_m hF rfl fun a hF=>?_))))
 obtain ⟨t_2,ht_2,hr⟩:=bindS hr
 refine q_call (vs:=[s1.v]) hF hS Try.func134 (by kernel_rfl) rfl rfl rfl (c_spec_DrawRoundingNetwork p_code t_2 ht_2 _ m hS.vis s1 h1) ?_
 rintro a w _ ⟨q4,s4,rfl,hR3,h4⟩ hF hS2
 have hS : St _ _ _ _ [q4]:=hS.joinF hR3
 refine q_y (v:=s4.v) hF hS (ex_extract rfl rfl) fun a hF=>q_y (v:=(iV t_2.2)) hF hS (ex_extract rfl rfl) fun a hF=>q_s hF rfl fun a hF=>q_s hF rfl fun a hF=>q_end (n_sq (q_ret ?_))
 obtain rfl:=someI hr
 exact ret_of hF hS rfl (.tmp rfl (.tmp rfl .nil)) ⟨q4,s4,rfl,hS.sel [0] (by decide),h4⟩

theorem c_impl_hasShape (p_x : List (List Int)) (p_rows : Int) (p_cols : Int) (r : Bool) (hr : impl_hasShape p_x p_rows p_cols = some r) (w0 : World) (m : Mem) (hv : Vis m w0) (s1 : Sl) (h1 : Rd m s1 p_x) :
  Ret Try.prog 88 [s1.v,(iV p_rows),(iV p_cols)] w0 (fun v _=>v = (.bool r)):=by
 unfold impl_hasShape at hr
 refine ret_start Try.func88 rfl 24 rfl rfl m hv fun a hF hS=>q_sr (q_s hF rfl fun a hF=>q_end (n_sq (q_seq (q_sr (q_m hF rfl fun a hF=>q_y (v:=(iV (goLen p_x))) hF hS (ex_len U23 rfl h1.len) fun a hF=>q_m hF rfl fun a hF=>q_y (v:=(.bool ((goLen p_x) != p_rows))) hF hS (ex_ibin rfl rfl rfl) fun a hF=>q_end (n_sq ?_))))))
 rcases bcase ((goLen p_x) != p_rows) with hc1 | hc1
 ·have hr:=cond_f hc1 hr
  refine q_cond_f hF rfl hc1 (q_skipc (n_sq (q_seq (q_sr (q_m hF rfl fun a hF=>q_y (v:=(iV (goLen p_x))) hF hS (ex_len U23 rfl h1.len) fun a hF=>q_m hF rfl fun a hF=>q_end (n_sq (q_block ?_)))))))
  obtain ⟨o2,hl2,hr⟩:=bindS hr
  refine q_loop (fun (t_2 : Int) a w=>Fr a 24 [(2,(iV p_cols)),(13,s1.v),(14,(iV (goLen p_x))),(15,(iV t_2))]∧St [] w0 w m []) (fun (o : (Unit) ⊕ (Bool)) e a w=>o = .inl ()∧e = .exit 0∧Fr a 24 []∧St [] w0 w m []) hl2 ⟨hF.sub ⟨rfl,rfl,rfl,rfl,trivial⟩,hS⟩ ?_ ?_
  ·clear hF hS
   rintro t_2 a w st ⟨hF,hS⟩ hb2
   unfold impl_hasShape_l1 at hb2
   refine q_sr (q_y (v:=(.bool (decide (t_2 < (goLen p_x))))) hF hS (ex_ibin rfl rfl rfl) fun a hF=>q_end (n_sq (q_seq ?_)))
   rcases bcase (decide (t_2 < (goLen p_x))) with hc3 | hc3
   ·have hb2:=cond_f hc3 hb2
    refine q_cond_f hF rfl hc3 (q_exit (x_sq ?_))
    obtain rfl:=someI hb2
    exact ⟨nofun,.inl ⟨rfl,rfl,hF.sub trivial,hS⟩⟩
   ·have hb2:=cond_t hc3 hb2
    refine q_cond_t hF rfl hc3 (q_skipc (n_sq (q_seq (q_block (q_seq (q_region ?_))))))
    obtain ⟨e_3,he_3,hb2⟩:=bindS hb2
    obtain ⟨vs4,at4,d4⟩:=h1.at he_3 1 rfl
    obtain ⟨s5,rfl,h5⟩ : ∃ s5 : Sl,vs4 = [s5.v]∧Rd m s5 e_3:=d4
    refine q_y (v:=(elP s1 (t_2.toNat * 1))) hF hS (ex_indexAddr U23 sz28 rfl rfl (h1.idx he_3)) fun a hF=>q_y (v:=s5.v) hF hS (ex_loadE1 0 U28 rfl rfl ((at4).at) rfl rfl) fun a hF=>q_s hF rfl fun a hF=>q_end (n_sq (q_sr (q_m hF rfl fun a hF=>q_y (v:=(iV (goLen e_3))) hF hS (ex_len U28 rfl h5.len) fun a hF=>q_m hF rfl fun a hF=>q_y (v:=(.bool ((goLen e_3) != p_cols))) hF hS (ex_ibin rfl rfl rfl) fun a hF=>q_end (n_sq ?_))))
    rcases bcase ((goLen e_3) != p_cols) with hc4 | hc4
    ·have hb2:=cond_f hc4 hb2
     refine q_cond_f hF rfl hc4 (q_skipc (n_ib (n_sq (q_region (q_y (v:=(iV (w64 (t_2 + 1)))) hF hS (ex_ibin rfl rfl rfl) fun a hF=>q_m hF rfl fun a hF=>q_end ?_)))))
     obtain rfl:=someI hb2
     exact ⟨rfl,hF.sub ⟨rfl,rfl,rfl,rfl,trivial⟩,hS⟩
    ·have hb2:=cond_t hc4 hb2
     refine q_cond_t hF rfl hc4 (q_sr (q_s hF rfl fun a hF=>q_end (n_sq (q_ret (r_ib (r_sq ?_))))))
     obtain rfl:=someI hb2
     refine ⟨nofun,.inr fun ho=>?_⟩
     subst ho
     refine r_ib (r_sq ?_)
     obtain rfl:=someI hr
     exact ret_of hF hS rfl (.tmp rfl .nil) rfl
  ·rintro e a w ⟨rfl,rfl,hF,hS⟩
   refine x_ib (n_sq ?_)
   refine q_sr (q_s hF rfl fun a hF=>q_end (n_sq (q_ret ?_)))
   obtain rfl:=someI hr
   exact ret_of hF hS rfl (.tmp rfl .nil) rfl
 ·have hr:=cond_t hc1 hr
  refine q_cond_t hF rfl hc1 (q_sr (q_s hF rfl fun a hF=>q_end (n_sq (q_ret (r_sq ?_)))))
  obtain rfl:=someI hr
  exact ret_of hF hS rfl (.tmp rfl .nil) rfl

theorem c_impl_isGridOf (p_x : List (List Int)) (p_most : Int) (r : Bool) (hr : impl_isGridOf p_x p_most = some r) (w0 : World) (m : Mem) (hv : Vis m w0) (s1 : Sl) (h1 : Rd m s1 p_x) :
  Ret Try.prog 172 [s1.v,(iV p_most)] w0 (fun v _=>v = (.bool r)):=by
 unfold impl_isGridOf at hr
 refine ret_start Try.func172 rfl 51 rfl rfl m hv fun a hF hS=>q_sr (q_s hF rfl fun a hF=>q_end (n_sq (q_seq (q_seq ?_))))
 obtain ⟨t_9,hj1,hr⟩:=bindS hr
 refine q_join (fun a w=>Fr a 51 [(0,s1.v),(1,(iV p_most)),(29,(.bool t_9))]∧St [] w0 w m []) ?_ ?_
 ·refine q_region (q_m hF rfl fun a hF=>q_y (v:=(iV (goLen p_x))) hF hS (ex_len U23 rfl h1.len) fun a hF=>q_y (v:=(.bool ((goLen p_x) == 0))) hF hS (ex_ibin rfl rfl rfl) fun a hF=>q_m hF rfl fun a hF=>?_)
  rcases bcase ((goLen p_x) == 0) with hc2 | hc2
  ·have hj1:=cond_f hc2 hj1
   refine q_g (v:=s1.v) hF hS (ex_move rfl) hc2 fun a hF=>?_
   obtain ⟨e_2,he_2,hj1⟩:=bindS hj1
   obtain ⟨vs3,at3,d3⟩:=h1.at he_2 1 rfl
   obtain ⟨s4,rfl,h4⟩ : ∃ s4 : Sl,vs3 = [s4.v]∧Rd m s4 e_2:=d3
   refine q_g (v:=(elP s1 ((0 : Int).toNat * 1))) hF hS (ex_indexAddr U23 sz28 rfl rfl (h1.idx he_2)) hc2 fun a hF=>q_g (v:=s4.v) hF hS (ex_loadE1 0 U28 rfl rfl ((at3).at) rfl rfl) hc2 fun a hF=>q_g (v:=(iV (goLen e_2))) hF hS (ex_len U28 rfl h4.len) hc2 fun a hF=>q_g (v:=(.bool ((goLen e_2) == 0))) hF hS (ex_ibin rfl rfl rfl) hc2 fun a hF=>q_y (v:=(.bool ((goLen e_2) == 0))) hF hS (ex_pick_f rfl rfl hc2) fun a hF=>q_m hF rfl fun a hF=>?_
   rcases bcase ((goLen e_2) == 0) with hc3 | hc3
   ·have hj1:=cond_f hc3 hj1
    refine q_g (v:=s1.v) hF hS (ex_move rfl) hc3 fun a hF=>q_g (v:=s1.v) hF hS (ex_move rfl) hc3 fun a hF=>q_g (v:=(iV (goLen p_x))) hF hS (ex_len U23 rfl h1.len) hc3 fun a hF=>q_g (v:=s1.v) hF hS (ex_move rfl) hc3 fun a hF=>?_
    obtain ⟨e_5,he_5,hj1⟩:=bindS hj1
    obtain ⟨vs6,at6,d6⟩:=h1.at he_5 1 rfl
    obtain ⟨s7,rfl,h7⟩ : ∃ s7 : Sl,vs6 = [s7.v]∧Rd m s7 e_5:=d6
    refine q_g (v:=(elP s1 ((0 : Int).toNat * 1))) hF hS (ex_indexAddr U23 sz28 rfl rfl (h1.idx he_5)) hc3 fun a hF=>q_g (v:=s7.v) hF hS (ex_loadE1 0 U28 rfl rfl ((at6).at) rfl rfl) hc3 fun a hF=>q_g (v:=(iV (goLen e_5))) hF hS (ex_len U28 rfl h7.len) hc3 fun a hF=>?_
    obtain ⟨t_8,ht_8,hj1⟩:=bindS hj1
    refine q_callg (vs:=[s1.v,(iV (goLen p_x)),(iV (goLen e_5))]) hF hS (wanted_t hF rfl rfl rfl hc3) Try.func88 (by kernel_rfl) rfl rfl rfl (c_impl_hasShape p_x (goLen p_x) (goLen e_5) t_8 ht_8 _ m hS.vis s1 h1) ?_
    rintro a w _ rfl hF hS
    refine q_g (v:=(.bool (!t_8))) hF hS (ex_not rfl) hc3 fun a hF=>q_y (v:=(.bool (!t_8))) hF hS (ex_pick_f rfl rfl hc3) fun a hF=>q_end (n_jn ?_)
    obtain rfl:=someI hj1
    exact ⟨hF.sub ⟨rfl,rfl,rfl,trivial⟩,hS⟩
   ·have hj1:=cond_t hc3 hj1
    refine q_k hF hc3 fun a hF=>q_k hF hc3 fun a hF=>q_k hF hc3 fun a hF=>q_k hF hc3 fun a hF=>q_k hF hc3 fun a hF=>q_k hF hc3 fun a hF=>q_k hF hc3 fun a hF=>q_k hF hc3 fun a hF=>q_k hF hc3 fun a hF=>q_y (v:=(.bool true)) hF hS (ex_pick_t rfl rfl hc3) fun a hF=>q_end (n_jn ?_)
    obtain rfl:=someI hj1
    exact ⟨hF.sub ⟨rfl,rfl,rfl,trivial⟩,hS⟩
  ·have hj1:=cond_t hc2 hj1
   refine q_k hF hc2 fun a hF=>q_k hF hc2 fun a hF=>q_k hF hc2 fun a hF=>q_k hF hc2 fun a hF=>q_k hF hc2 fun a hF=>q_y (v:=(.bool true)) hF hS (ex_pick_t rfl rfl hc2) fun a hF=>q_m hF rfl fun a hF=>q_k hF rfl fun a hF=>q_k hF rfl fun a hF=>q_k hF rfl fun a hF=>q_k hF rfl fun a hF=>q_k hF rfl fun a hF=>q_k hF rfl fun a hF=>q_k hF rfl fun a hF=>q_k hF rfl fun a hF=>q_k hF rfl fun a hF=>q_y (v:=(.bool true)) hF hS (ex_pick_t rfl rfl rfl) fun a hF=>q_end (n_jn ?_)
   obtain rfl:=someI hj1
   exact ⟨hF.sub ⟨rfl,rfl,rfl,trivial⟩,hS⟩
 ·rintro a w ⟨hF,hS⟩
  refine n_sq ?_
  rcases bcase (t_9) with hc4 | hc4
  ·have hr:=cond_f hc4 hr
   refine q_cond_f hF rfl hc4 (q_skipc (n_sq (q_seq (q_sr (q_m hF rfl fun a hF=>q_y (v:=(iV (goLen p_x))) hF hS (ex_len U23 rfl h1.len) fun a hF=>q_m hF rfl fun a hF=>q_end (n_sq (q_block ?_)))))))
   obtain ⟨o5,hl5,hr⟩:=bindS hr
   refine q_loop (fun (t_10 : Int) a w=>Fr a 51 [(1,(iV p_most)),(30,s1.v),(31,(iV (goLen p_x))),(32,(iV t_10))]∧St [] w0 w m []) (fun (o : (Unit) ⊕ (Bool)) e a w=>o = .inl ()∧e = .exit 0∧Fr a 51 []∧St [] w0 w m []) hl5 ⟨hF.sub ⟨rfl,rfl,rfl,rfl,trivial⟩,hS⟩ ?_ ?_
   ·clear hF hS
    rintro t_10 a w st ⟨hF,hS⟩ hb5
    unfold impl_isGridOf_l1 at hb5
    refine q_sr (q_y (v:=(.bool (decide (t_10 < (goLen p_x))))) hF hS (ex_ibin rfl rfl rfl) fun a hF=>q_end (n_sq (q_seq ?_)))
    rcases bcase (decide (t_10 < (goLen p_x))) with hc6 | hc6
    ·have hb5:=cond_f hc6 hb5
     refine q_cond_f hF rfl hc6 (q_exit (x_sq ?_))
     obtain rfl:=someI hb5
     exact ⟨nofun,.inl ⟨rfl,rfl,hF.sub trivial,hS⟩⟩
    ·have hb5:=cond_t hc6 hb5
     refine q_cond_t hF rfl hc6 (q_skipc (n_sq (q_seq (q_block (q_seq (q_region ?_))))))
     obtain ⟨e_11,he_11,hb5⟩:=bindS hb5
     obtain ⟨vs12,at12,d12⟩:=h1.at he_11 1 rfl
     obtain ⟨s13,rfl,h13⟩ : ∃ s13 : Sl,vs12 = [s13.v]∧Rd m s13 e_11:=d12
     refine q_y (v:=(elP s1 (t_10.toNat * 1))) hF hS (ex_indexAddr U23 sz28 rfl rfl (h1.idx he_11)) fun a hF=>q_y (v:=s13.v) hF hS (ex_loadE1 0 U28 rfl rfl ((at12).at) rfl rfl) fun a hF=>q_s hF rfl fun a hF=>q_end (n_sq (q_sr (q_m hF rfl fun a hF=>q_y (v:=(iV (goLen e_11))) hF hS (ex_len U28 rfl h13.len) fun a hF=>q_m hF rfl fun a hF=>q_end (n_sq (q_block ?_)))))
     obtain ⟨o7,hl7,hb5⟩:=bindS hb5
     refine q_loop (fun (t_14 : Int) a w=>Fr a 51 [(1,(iV p_most)),(30,s1.v),(31,(iV (goLen p_x))),(32,(iV t_10)),(36,s13.v),(37,(iV (goLen e_11))),(38,(iV t_14))]∧St [] w0 w m []) (fun (o : (Unit) ⊕ (Stp (Int) ((Unit) ⊕ (Bool)))) e a w=>o = .inl ()∧e = .exit 2∧Fr a 51 [(1,(iV p_most)),(30,s1.v),(31,(iV (goLen p_x))),(32,(iV t_10))]∧St [] w0 w m []) hl7 ⟨hF.sub ⟨rfl,rfl,rfl,rfl,rfl,rfl,rfl,trivial⟩,hS⟩ ?_ ?_
     ·clear hF hS
      rintro t_14 a w st ⟨hF,hS⟩ hb7
      unfold impl_isGridOf_l2 at hb7
      refine q_sr (q_y (v:=(.bool (decide (t_14 < (goLen e_11))))) hF hS (ex_ibin rfl rfl rfl) fun a hF=>q_end (n_sq (q_seq ?_)))
      rcases bcase (decide (t_14 < (goLen e_11))) with hc8 | hc8
      ·have hb7:=cond_f hc8 hb7
       refine q_cond_f hF rfl hc8 (q_exit (x_sq ?_))
       obtain rfl:=someI hb7
       exact ⟨nofun,.inl ⟨rfl,rfl,hF.sub ⟨rfl,rfl,rfl,rfl,trivial⟩,hS⟩⟩
      ·have hb7:=cond_t hc8 hb7
       refine q_cond_t hF rfl hc8 (q_skipc (n_sq (q_seq (q_block (q_seq (q_region ?_))))))
       obtain ⟨e_15,he_15,hb7⟩:=bindS hb7
       obtain ⟨vs16,at16,d16⟩:=h13.at he_15 1 rfl
       obtain rfl : vs16 = [(iV e_15)]:=d16
       refine q_y (v:=(elP s13 (t_14.toNat * 1))) hF hS (ex_indexAddr U28 sz3 rfl rfl (h13.idx he_15)) fun a hF=>q_y (v:=(iV e_15)) hF hS (ex_loadE1 0 U3 rfl rfl ((at16).at) rfl rfl) fun a hF=>q_s hF rfl fun a hF=>q_end (n_sq (q_seq ?_))
       obtain ⟨t_17,hj9,hb7⟩:=bindS hb7
       refine q_join (fun a w=>Fr a 51 [(1,(iV p_most)),(30,s1.v),(31,(iV (goLen p_x))),(32,(iV t_10)),(36,s13.v),(37,(iV (goLen e_11))),(38,(iV t_14)),(48,(.bool t_17))]∧St [] w0 w m []) ?_ ?_
       ·refine q_region (q_m hF rfl fun a hF=>q_y (v:=(.bool (decide (e_15 < 0)))) hF hS (ex_ibin rfl rfl rfl) fun a hF=>q_m hF rfl fun a hF=>?_)
        rcases bcase (decide (e_15 < 0)) with hc10 | hc10
        ·have hj9:=cond_f hc10 hj9
         refine q_g (v:=(iV e_15)) hF hS (ex_move rfl) hc10 fun a hF=>q_g (v:=(iV p_most)) hF hS (ex_move rfl) hc10 fun a hF=>q_g (v:=(.bool (decide (p_most < e_15)))) hF hS (ex_ibin rfl rfl rfl) hc10 fun a hF=>q_y (v:=(.bool (decide (p_most < e_15)))) hF hS (ex_pick_f rfl rfl hc10) fun a hF=>q_end (n_jn ?_)
         obtain rfl:=someI hj9
         exact ⟨hF.sub ⟨rfl,rfl,rfl,rfl,rfl,rfl,rfl,rfl,trivial⟩,hS⟩
        ·have hj9:=cond_t hc10 hj9
         refine q_k hF hc10 fun a hF=>q_k hF hc10 fun a hF=>q_k hF hc10 fun a hF=>q_y (v:=(.bool true)) hF hS (ex_pick_t rfl rfl hc10) fun a hF=>q_end (n_jn ?_)
         obtain rfl:=someI hj9
         exact ⟨hF.sub ⟨rfl,rfl,rfl,rfl,rfl,rfl,rfl,rfl,trivial⟩,hS⟩
       ·rintro a w ⟨hF,hS⟩
        refine n_sq ?_
        rcases bcase (t_17) with hc11 | hc11
        ·have hb7:=cond_f hc11 hb7
         refine q_cond_f hF rfl hc11 (q_skipc (n_ib (n_sq (q_region (q_y (v:=(iV (w64 (t_14 + 1)))) hF hS (ex_ibin rfl rfl rfl) fun a hF=>q_m hF rfl fun a hF=>q_end ?_)))))
         obtain rfl:=someI hb7
         exact ⟨rfl,hF.sub ⟨rfl,rfl,rfl,rfl,rfl,rfl,rfl,trivial⟩,hS⟩
        ·have hb7:=cond_t hc11 hb7
         refine q_cond_t hF rfl hc11 (q_sr (q_s hF rfl fun a hF=>q_end (n_sq (q_ret (r_ib (r_sq ?_))))))
         obtain rfl:=someI hb7
         refine ⟨nofun,.inr fun ho=>?_⟩
         subst ho
         refine r_ib (r_ib (r_sq ?_))
         obtain rfl:=someI hb5
         refine ⟨nofun,.inr fun ho=>?_⟩
         subst ho
         refine r_ib (r_sq ?_)
         obtain rfl:=someI hr
         exact ret_of hF hS rfl (.tmp rfl .nil) rfl
     ·rintro e a w ⟨rfl,rfl,hF,hS⟩
      refine x_ib (n_ib (n_sq ?_))
      refine q_region (q_y (v:=(iV (w64 (t_10 + 1)))) hF hS (ex_ibin rfl rfl rfl) fun a hF=>q_m hF rfl fun a hF=>q_end ?_)
      obtain rfl:=someI hb5
      exact ⟨rfl,hF.sub ⟨rfl,rfl,rfl,rfl,trivial⟩,hS⟩
   ·rintro e a w ⟨rfl,rfl,hF,hS⟩
    refine x_ib (n_sq ?_)
    refine q_sr (q_s hF rfl fun a hF=>q_end (n_sq (q_ret ?_)))
    obtain rfl:=someI hr
    exact ret_of hF hS rfl (.tmp rfl .nil) rfl
  ·have hr:=cond_t hc4 hr
   refine q_cond_t hF rfl hc4 (q_sr (q_s hF rfl fun a hF=>q_end (n_sq (q_ret (r_sq ?_)))))
   obtain rfl:=someI hr
   exact ret_of hF hS rfl (.tmp rfl .nil) rfl

theorem c_impl_isMatrix (p_x : List (List Int)) (r : Bool) (hr : impl_isMatrix p_x = some r) (w0 : World) (m : Mem) (hv : Vis m w0) (s1 : Sl) (h1 : Rd m s1 p_x) :
  Ret Try.prog 135 [s1.v] w0 (fun v _=>v = (.bool r)):=by
 unfold impl_isMatrix at hr
 refine ret_start Try.func135 rfl 20 rfl rfl m hv fun a hF hS=>q_sr (q_s hF rfl fun a hF=>q_end (n_sq (q_seq (q_seq ?_))))
 obtain ⟨t_5,hj1,hr⟩:=bindS hr
 refine q_join (fun a w=>Fr a 20 [(0,s1.v),(17,(.bool t_5))]∧St [] w0 w m []) ?_ ?_
 ·refine q_region (q_m hF rfl fun a hF=>q_y (v:=(iV (goLen p_x))) hF hS (ex_len U23 rfl h1.len) fun a hF=>q_y (v:=(.bool (decide ((goLen p_x) < 1)))) hF hS (ex_ibin rfl rfl rfl) fun a hF=>q_m hF rfl fun a hF=>?_)
  rcases bcase (decide ((goLen p_x) < 1)) with hc2 | hc2
  ·have hj1:=cond_f hc2 hj1
   refine q_g (v:=s1.v) hF hS (ex_move rfl) hc2 fun a hF=>q_g (v:=(iV (goLen p_x))) hF hS (ex_len U23 rfl h1.len) hc2 fun a hF=>q_g (v:=(.bool (decide (7 < (goLen p_x))))) hF hS (ex_ibin rfl rfl rfl) hc2 fun a hF=>q_y (v:=(.bool (decide (7 < (goLen p_x))))) hF hS (ex_pick_f rfl rfl hc2) fun a hF=>q_m hF rfl fun a hF=>?_
   rcases bcase (decide (7 < (goLen p_x))) with hc3 | hc3
   ·have hj1:=cond_f hc3 hj1
    refine q_g (v:=s1.v) hF hS (ex_move rfl) hc3 fun a hF=>?_
    obtain ⟨e_2,he_2,hj1⟩:=bindS hj1
    obtain ⟨vs3,at3,d3⟩:=h1.at he_2 1 rfl
    obtain ⟨s4,rfl,h4⟩ : ∃ s4 : Sl,vs3 = [s4.v]∧Rd m s4 e_2:=d3
    refine q_g (v:=(elP s1 ((0 : Int).toNat * 1))) hF hS (ex_indexAddr U23 sz28 rfl rfl (h1.idx he_2)) hc3 fun a hF=>q_g (v:=s4.v) hF hS (ex_loadE1 0 U28 rfl rfl ((at3).at) rfl rfl) hc3 fun a hF=>q_g (v:=(iV (goLen e_2))) hF hS (ex_len U28 rfl h4.len) hc3 fun a hF=>q_g (v:=(.bool (decide (7 < (goLen e_2))))) hF hS (ex_ibin rfl rfl rfl) hc3 fun a hF=>q_y (v:=(.bool (decide (7 < (goLen e_2))))) hF hS (ex_pick_f rfl rfl hc3) fun a hF=>q_end (n_jn ?_)
    obtain rfl:=someI hj1
    exact ⟨hF.sub ⟨rfl,rfl,trivial⟩,hS⟩
   ·have hj1:=cond_t hc3 hj1
    refine q_k hF hc3 fun a hF=>q_k hF hc3 fun a hF=>q_k hF hc3 fun a hF=>q_k hF hc3 fun a hF=>q_k hF hc3 fun a hF=>q_y (v:=(.bool true)) hF hS (ex_pick_t rfl rfl hc3) fun a hF=>q_end (n_jn ?_)
    obtain rfl:=someI hj1
    exact ⟨hF.sub ⟨rfl,rfl,trivial⟩,hS⟩
  ·have hj1:=cond_t hc2 hj1
   refine q_k hF hc2 fun a hF=>q_k hF hc2 fun a hF=>q_k hF hc2 fun a hF=>q_y (v:=(.bool true)) hF hS (ex_pick_t rfl rfl hc2) fun a hF=>q_m hF rfl fun a hF=>q_k hF rfl fun a hF=>q_k hF rfl fun a hF=>q_k hF rfl fun a hF=>q_k hF rfl fun a hF=>q_k hF rfl fun a hF=>q_y (v:=(.bool true)) hF hS (ex_pick_t rfl rfl rfl) fun a hF=>q_end (n_jn ?_)
   obtain rfl:=someI hj1
   exact ⟨hF.sub ⟨rfl,rfl,trivial⟩,hS⟩
 ·rintro a w ⟨hF,hS⟩
  refine n_sq ?_
  rcases bcase (t_5) with hc4 | hc4
  ·have hr:=cond_f hc4 hr
   refine q_cond_f hF rfl hc4 (q_skipc (n_sq (q_sr (q_m hF rfl fun a hF=>?_))))
   obtain ⟨t_6,ht_6,hr⟩:=bindS hr
   refine q_call (vs:=[s1.v,(iV 10000)]) hF hS Try.func172 (by kernel_rfl) rfl rfl rfl (c_impl_isGridOf p_x 10000 t_6 ht_6 _ m hS.vis s1 h1) ?_
   rintro a w _ rfl hF hS
   refine q_s hF rfl fun a hF=>q_end (n_sq (q_ret ?_))
   obtain rfl:=someI hr
   exact ret_of hF hS rfl (.tmp rfl .nil) rfl
  ·have hr:=cond_t hc4 hr
   refine q_cond_t hF rfl hc4 (q_sr (q_s hF rfl fun a hF=>q_end (n_sq (q_ret (r_sq ?_)))))
   obtain rfl:=someI hr
   exact ret_of hF hS rfl (.tmp rfl .nil) rfl

theorem c_impl_isBaseOf (p_base : Int) (r : Bool) (hr : impl_isBaseOf p_base = some r) (w0 : World) (m : Mem) (hv : Vis m w0) :
  Ret Try.prog 136 [(iV p_base)] w0 (fun v _=>v = (.bool r)):=by
 unfold impl_isBaseOf at hr
 refine ret_start Try.func136 rfl 9 rfl rfl m hv fun a hF hS=>q_sr (q_s hF rfl fun a hF=>q_end (n_sq (q_seq ?_)))
 obtain ⟨t_1,hj1,hr⟩:=bindS hr
 refine q_join (fun a w=>Fr a 9 [(2,(.bool t_1))]∧St [] w0 w m []) ?_ ?_
 ·refine q_region (q_m hF rfl fun a hF=>q_y (v:=(.bool (decide (2 ≤ p_base)))) hF hS (ex_ibin rfl rfl rfl) fun a hF=>q_m hF rfl fun a hF=>?_)
  rcases bcase (decide (2 ≤ p_base)) with hc2 | hc2
  ·have hj1:=cond_f hc2 hj1
   refine q_k hF hc2 fun a hF=>q_k hF hc2 fun a hF=>q_y (v:=(.bool false)) hF hS (ex_pick_f rfl rfl hc2) fun a hF=>q_s hF rfl fun a hF=>q_end (n_jn ?_)
   obtain rfl:=someI hj1
   exact ⟨hF.sub ⟨rfl,trivial⟩,hS⟩
  ·have hj1:=cond_t hc2 hj1
   refine q_g (v:=(iV p_base)) hF hS (ex_move rfl) hc2 fun a hF=>q_g (v:=(.bool (decide (p_base ≤ 100)))) hF hS (ex_ibin rfl rfl rfl) hc2 fun a hF=>q_y (v:=(.bool (decide (p_base ≤ 100)))) hF hS (ex_pick_t rfl rfl hc2) fun a hF=>q_s hF rfl fun a hF=>q_end (n_jn ?_)
   obtain rfl:=someI hj1
   exact ⟨hF.sub ⟨rfl,trivial⟩,hS⟩
 ·rintro a w ⟨hF,hS⟩
  refine n_sq (q_ret ?_)
  obtain rfl:=someI hr
  exact ret_of hF hS rfl (.tmp rfl .nil) rfl

theorem c_impl_rowSums (p_x : List (List Int)) (r : (List Int)) (hr : impl_rowSums p_x = some r) (w0 : World) (m : Mem) (hv : Vis m w0) (s1 : Sl) (h1 : Rd m s1 p_x) :
  Ret Try.prog 104 [s1.v] w0 (fun v w=>∃ (q0' : Piece) (s0' : Sl),v = s0'.v∧St [] w0 w m [q0']∧OwnL m 3 q0' s0' r):=by
 unfold impl_rowSums at hr
 refine ret_start Try.func104 rfl 34 rfl rfl m hv fun a hF hS=>q_sr (q_s hF rfl fun a hF=>q_end (n_sq (q_sr (q_m hF rfl fun a hF=>q_y (v:=(iV (goLen p_x))) hF hS (ex_len U23 rfl h1.len) fun a hF=>?_))))
 obtain ⟨l_2,hl_2,hr⟩:=bindS hr
 refine q_do rfl fun _ hK=>wp_make (z:=(0 : Int)) hF hS U28 inf3 rfl rfl rfl rfl rfl (by decide) hl_2 rfl fun a w q3 s3 hF hS h3 _=>hK _ _ (q_s hF rfl fun a hF=>q_end (n_sq (q_seq (q_sr (q_m hF rfl fun a hF=>q_y (v:=(iV (goLen p_x))) hF hS (ex_len U23 rfl h1.len) fun a hF=>q_m hF rfl fun a hF=>q_end (n_sq (q_block ?_)))))))
 obtain ⟨sums_22,hl1,hr⟩:=bindS hr
 refine q_loop (fun (s : (List Int) × Int) a w=>∃ (q5 : Piece),∃ sums_4,∃ t_6,s = (sums_4,t_6)∧Fr a 34 [(3,s3.v),(11,s1.v),(12,(iV (goLen p_x))),(13,(iV t_6))]∧St [] w0 w m [q5]∧OwnL m 3 q5 s3 sums_4) (fun (sums_22 : (List Int)) e a w=>∃ (q23 : Piece),e = .exit 0∧Fr a 34 [(3,s3.v)]∧St [] w0 w m [q23]∧OwnL m 3 q23 s3 sums_22) hl1 ⟨q3,_,_,rfl,hF.sub ⟨rfl,rfl,rfl,rfl,trivial⟩,hS,h3⟩ ?_ ?_
 ·clear hF hS
  rintro s a w st ⟨q5,sums_4,t_6,rfl,hF,hS,h5⟩ hb1
  unfold impl_rowSums_l1 at hb1
  refine q_sr (q_y (v:=(.bool (decide (t_6 < (goLen p_x))))) hF hS (ex_ibin rfl rfl rfl) fun a hF=>q_end (n_sq (q_seq ?_)))
  rcases bcase (decide (t_6 < (goLen p_x))) with hc2 | hc2
  ·have hb1:=cond_f hc2 hb1
   refine q_cond_f hF rfl hc2 (q_exit (x_sq ?_))
   obtain rfl:=someI hb1
   exact ⟨nofun,.inl ⟨q5,rfl,hF.sub ⟨rfl,trivial⟩,hS,h5⟩⟩
  ·have hb1:=cond_t hc2 hb1
   refine q_cond_t hF rfl hc2 (q_skipc (n_sq (q_seq (q_block (q_sr (q_m hF rfl fun a hF=>?_))))))
   obtain ⟨e_7,he_7,hb1⟩:=bindS hb1
   obtain ⟨vs8,at8,d8⟩:=h1.at he_7 1 rfl
   obtain ⟨s9,rfl,h9⟩ : ∃ s9 : Sl,vs8 = [s9.v]∧Rd m s9 e_7:=d8
   refine q_y (v:=(elP s1 (t_6.toNat * 1))) hF hS (ex_indexAddr U23 sz28 rfl rfl (h1.idx he_7)) fun a hF=>q_y (v:=s9.v) hF hS (ex_loadE1 0 U28 rfl rfl ((at8).at) rfl rfl) fun a hF=>q_s hF rfl fun a hF=>q_s hF rfl fun a hF=>q_end (n_sq (q_sr (q_m hF rfl fun a hF=>q_y (v:=(iV (goLen e_7))) hF hS (ex_len U28 rfl h9.len) fun a hF=>q_m hF rfl fun a hF=>q_end (n_sq (q_block ?_)))))
   obtain ⟨sums_20,hl3,hb1⟩:=bindS hb1
   refine q_loop (fun (s : (List Int) × Int) a w=>∃ (q11 : Piece),∃ sums_10,∃ t_12,s = (sums_10,t_12)∧Fr a 34 [(3,s3.v),(4,(iV t_6)),(11,s1.v),(12,(iV (goLen p_x))),(13,(iV t_6)),(18,s9.v),(19,(iV (goLen e_7))),(20,(iV t_12))]∧St [] w0 w m [q11]∧OwnL m 3 q11 s3 sums_10) (fun (sums_20 : (List Int)) e a w=>∃ (q21 : Piece),e = .exit 2∧Fr a 34 [(3,s3.v),(11,s1.v),(12,(iV (goLen p_x))),(13,(iV t_6))]∧St [] w0 w m [q21]∧OwnL m 3 q21 s3 sums_20) hl3 ⟨q5,_,_,rfl,hF.sub ⟨rfl,rfl,rfl,rfl,rfl,rfl,rfl,rfl,trivial⟩,hS,h5⟩ ?_ ?_
   ·clear hF hS
    rintro s a w st ⟨q11,sums_10,t_12,rfl,hF,hS,h11⟩ hb3
    unfold impl_rowSums_l2 at hb3
    refine q_sr (q_y (v:=(.bool (decide (t_12 < (goLen e_7))))) hF hS (ex_ibin rfl rfl rfl) fun a hF=>q_end (n_sq (q_seq ?_)))
    rcases bcase (decide (t_12 < (goLen e_7))) with hc4 | hc4
    ·have hb3:=cond_f hc4 hb3
     refine q_cond_f hF rfl hc4 (q_exit (x_sq ?_))
     obtain rfl:=someI hb3
     exact ⟨nofun,.inl ⟨q11,rfl,hF.sub ⟨rfl,rfl,rfl,rfl,trivial⟩,hS,h11⟩⟩
    ·have hb3:=cond_t hc4 hb3
     refine q_cond_t hF rfl hc4 (q_skipc (n_sq (q_seq (q_block (q_seq (q_region ?_))))))
     obtain ⟨e_13,he_13,hb3⟩:=bindS hb3
     obtain ⟨vs14,at14,d14⟩:=h9.at he_13 1 rfl
     obtain rfl : vs14 = [(iV e_13)]:=d14
     refine q_y (v:=(elP s9 (t_12.toNat * 1))) hF hS (ex_indexAddr U28 sz3 rfl rfl (h9.idx he_13)) fun a hF=>q_y (v:=(iV e_13)) hF hS (ex_loadE1 0 U3 rfl rfl ((at14).at) rfl rfl) fun a hF=>q_s hF rfl fun a hF=>q_end (n_sq (q_region (q_m hF rfl fun a hF=>q_m hF rfl fun a hF=>?_)))
     obtain ⟨e_15,he_15,hb3⟩:=bindS hb3
     obtain ⟨vs16,at16,d16⟩:=h11.at he_15 1 rfl
     obtain rfl : vs16 = [(iV e_15)]:=d16
     refine q_y (v:=(elP s3 (t_6.toNat * 1))) hF hS (ex_indexAddr U28 sz3 rfl rfl (h11.idx he_15)) fun a hF=>q_y (v:=(iV e_15)) hF hS (ex_loadE1 0 U3 rfl rfl (at16.at 0 rfl) rfl rfl) fun a hF=>q_m hF rfl fun a hF=>q_y (v:=(iV (w64 (e_15 + e_13)))) hF hS (ex_ibin rfl rfl rfl) fun a hF=>?_
     obtain ⟨e_17,he_17,hb3⟩:=bindS hb3
     obtain ⟨vs18,at18,d18⟩:=h11.at he_17 1 rfl
     obtain rfl : vs18 = [(iV e_17)]:=d18
     refine q_y (v:=(elP s3 (t_6.toNat * 1))) hF hS (ex_indexAddr U28 sz3 rfl rfl (h11.idx he_17)) fun a hF=>q_do rfl fun _ hK=>wp_storeE (e':=(w64 (e_15 + e_13))) (us:=[(iV (w64 (e_15 + e_13)))]) (vs:=[(iV e_17)]) 0 hF hS h11 sz3 rfl rfl rfl rfl rfl rfl rfl he_17 at18 rfl rfl rfl fun w q19 hS h19=>hK _ _ (q_end (n_ib (n_sq (q_region (q_y (v:=(iV (w64 (t_12 + 1)))) hF hS (ex_ibin rfl rfl rfl) fun a hF=>q_m hF rfl fun a hF=>q_end ?_)))))
     obtain rfl:=someI hb3
     exact ⟨rfl,q19,_,_,rfl,hF.sub ⟨rfl,rfl,rfl,rfl,rfl,rfl,rfl,rfl,trivial⟩,hS,h19⟩
   ·rintro e a w ⟨q21,rfl,hF,hS,h21⟩
    refine x_ib (n_ib (n_sq ?_))
    refine q_region (q_y (v:=(iV (w64 (t_6 + 1)))) hF hS (ex_ibin rfl rfl rfl) fun a hF=>q_m hF rfl fun a hF=>q_end ?_)
    obtain rfl:=someI hb1
    exact ⟨rfl,q21,_,_,rfl,hF.sub ⟨rfl,rfl,rfl,rfl,trivial⟩,hS,h21⟩
 ·rintro e a w ⟨q23,rfl,hF,hS,h23⟩
  refine x_ib (n_sq ?_)
  refine q_sr (q_m hF rfl fun a hF=>q_s hF rfl fun a hF=>q_end (n_sq (q_ret ?_)))
  obtain rfl:=someI hr
  exact ret_of hF hS rfl (.tmp rfl .nil) ⟨q23,s3,rfl,hS.sel [0] (by decide),h23⟩

theorem c_impl_colSums (p_x : List (List Int)) (r : (List Int)) (hr : impl_colSums p_x = some r) (w0 : World) (m : Mem) (hv : Vis m w0) (s1 : Sl) (h1 : Rd m s1 p_x) :
  Ret Try.prog 105 [s1.v] w0 (fun v w=>∃ (q0' : Piece) (s0' : Sl),v = s0'.v∧St [] w0 w m [q0']∧OwnL m 3 q0' s0' r):=by
 unfold impl_colSums at hr
 refine ret_start Try.func105 rfl 36 rfl rfl m hv fun a hF hS=>q_sr (q_s hF rfl fun a hF=>q_end (n_sq (q_sr (q_m hF rfl fun a hF=>?_))))
 obtain ⟨e_2,he_2,hr⟩:=bindS hr
 obtain ⟨vs3,at3,d3⟩:=h1.at he_2 1 rfl
 obtain ⟨s4,rfl,h4⟩ : ∃ s4 : Sl,vs3 = [s4.v]∧Rd m s4 e_2:=d3
 refine q_y (v:=(elP s1 ((0 : Int).toNat * 1))) hF hS (ex_indexAddr U23 sz28 rfl rfl (h1.idx he_2)) fun a hF=>q_y (v:=s4.v) hF hS (ex_loadE1 0 U28 rfl rfl ((at3).at) rfl rfl) fun a hF=>q_y (v:=(iV (goLen e_2))) hF hS (ex_len U28 rfl h4.len) fun a hF=>?_
 obtain ⟨l_5,hl_5,hr⟩:=bindS hr
 refine q_do rfl fun _ hK=>wp_make (z:=(0 : Int)) hF hS U28 inf3 rfl rfl rfl rfl rfl (by decide) hl_5 rfl fun a w q6 s6 hF hS h6 _=>hK _ _ (q_s hF rfl fun a hF=>q_end (n_sq (q_seq (q_sr (q_m hF rfl fun a hF=>q_y (v:=(iV (goLen p_x))) hF hS (ex_len U23 rfl h1.len) fun a hF=>q_m hF rfl fun a hF=>q_end (n_sq (q_block ?_)))))))
 obtain ⟨sums_25,hl1,hr⟩:=bindS hr
 refine q_loop (fun (s : (List Int) × Int) a w=>∃ (q8 : Piece),∃ sums_7,∃ t_9,s = (sums_7,t_9)∧Fr a 36 [(3,s6.v),(13,s1.v),(14,(iV (goLen p_x))),(15,(iV t_9))]∧St [] w0 w m [q8]∧OwnL m 3 q8 s6 sums_7) (fun (sums_25 : (List Int)) e a w=>∃ (q26 : Piece),e = .exit 0∧Fr a 36 [(3,s6.v)]∧St [] w0 w m [q26]∧OwnL m 3 q26 s6 sums_25) hl1 ⟨q6,_,_,rfl,hF.sub ⟨rfl,rfl,rfl,rfl,trivial⟩,hS,h6⟩ ?_ ?_
 ·clear hF hS
  rintro s a w st ⟨q8,sums_7,t_9,rfl,hF,hS,h8⟩ hb1
  unfold impl_colSums_l1 at hb1
  refine q_sr (q_y (v:=(.bool (decide (t_9 < (goLen p_x))))) hF hS (ex_ibin rfl rfl rfl) fun a hF=>q_end (n_sq (q_seq ?_)))
  rcases bcase (decide (t_9 < (goLen p_x))) with hc2 | hc2
  ·have hb1:=cond_f hc2 hb1
   refine q_cond_f hF rfl hc2 (q_exit (x_sq ?_))
   obtain rfl:=someI hb1
   exact ⟨nofun,.inl ⟨q8,rfl,hF.sub ⟨rfl,trivial⟩,hS,h8⟩⟩
  ·have hb1:=cond_t hc2 hb1
   refine q_cond_t hF rfl hc2 (q_skipc (n_sq (q_seq (q_block (q_seq (q_region ?_))))))
   obtain ⟨e_10,he_10,hb1⟩:=bindS hb1
   obtain ⟨vs11,at11,d11⟩:=h1.at he_10 1 rfl
   obtain ⟨s12,rfl,h12⟩ : ∃ s12 : Sl,vs11 = [s12.v]∧Rd m s12 e_10:=d11
   refine q_y (v:=(elP s1 (t_9.toNat * 1))) hF hS (ex_indexAddr U23 sz28 rfl rfl (h1.idx he_10)) fun a hF=>q_y (v:=s12.v) hF hS (ex_loadE1 0 U28 rfl rfl ((at11).at) rfl rfl) fun a hF=>q_s hF rfl fun a hF=>q_end (n_sq (q_sr (q_m hF rfl fun a hF=>q_y (v:=(iV (goLen e_10))) hF hS (ex_len U28 rfl h12.len) fun a hF=>q_m hF rfl fun a hF=>q_end (n_sq (q_block ?_)))))
   obtain ⟨sums_23,hl3,hb1⟩:=bindS hb1
   refine q_loop (fun (s : (List Int) × Int) a w=>∃ (q14 : Piece),∃ sums_13,∃ t_15,s = (sums_13,t_15)∧Fr a 36 [(3,s6.v),(13,s1.v),(14,(iV (goLen p_x))),(15,(iV t_9)),(19,s12.v),(20,(iV (goLen e_10))),(21,(iV t_15))]∧St [] w0 w m [q14]∧OwnL m 3 q14 s6 sums_13) (fun (sums_23 : (List Int)) e a w=>∃ (q24 : Piece),e = .exit 2∧Fr a 36 [(3,s6.v),(13,s1.v),(14,(iV (goLen p_x))),(15,(iV t_9))]∧St [] w0 w m [q24]∧OwnL m 3 q24 s6 sums_23) hl3 ⟨q8,_,_,rfl,hF.sub ⟨rfl,rfl,rfl,rfl,rfl,rfl,rfl,trivial⟩,hS,h8⟩ ?_ ?_
   ·clear hF hS
    rintro s a w st ⟨q14,sums_13,t_15,rfl,hF,hS,h14⟩ hb3
    unfold impl_colSums_l2 at hb3
    refine q_sr (q_y (v:=(.bool (decide (t_15 < (goLen e_10))))) hF hS (ex_ibin rfl rfl rfl) fun a hF=>q_end (n_sq (q_seq ?_)))
    rcases bcase (decide (t_15 < (goLen e_10))) with hc4 | hc4
    ·have hb3:=cond_f hc4 hb3
     refine q_cond_f hF rfl hc4 (q_exit (x_sq ?_))
     obtain rfl:=someI hb3
     exact ⟨nofun,.inl ⟨q14,rfl,hF.sub ⟨rfl,rfl,rfl,rfl,trivial⟩,hS,h14⟩⟩
    ·have hb3:=cond_t hc4 hb3
     refine q_cond_t hF rfl hc4 (q_skipc (n_sq (q_seq (q_block (q_sr (q_m hF rfl fun a hF=>?_))))))
     obtain ⟨e_16,he_16,hb3⟩:=bindS hb3
     obtain ⟨vs17,at17,d17⟩:=h12.at he_16 1 rfl
     obtain rfl : vs17 = [(iV e_16)]:=d17
     refine q_y (v:=(elP s12 (t_15.toNat * 1))) hF hS (ex_indexAddr U28 sz3 rfl rfl (h12.idx he_16)) fun a hF=>q_y (v:=(iV e_16)) hF hS (ex_loadE1 0 U3 rfl rfl ((at17).at) rfl rfl) fun a hF=>q_s hF rfl fun a hF=>q_s hF rfl fun a hF=>q_end (n_sq (q_region (q_m hF rfl fun a hF=>q_m hF rfl fun a hF=>?_)))
     obtain ⟨e_18,he_18,hb3⟩:=bindS hb3
     obtain ⟨vs19,at19,d19⟩:=h14.at he_18 1 rfl
     obtain rfl : vs19 = [(iV e_18)]:=d19
     refine q_y (v:=(elP s6 (t_15.toNat * 1))) hF hS (ex_indexAddr U28 sz3 rfl rfl (h14.idx he_18)) fun a hF=>q_y (v:=(iV e_18)) hF hS (ex_loadE1 0 U3 rfl rfl (at19.at 0 rfl) rfl rfl) fun a hF=>q_m hF rfl fun a hF=>q_y (v:=(iV (w64 (e_18 + e_16)))) hF hS (ex_ibin rfl rfl rfl) fun a hF=>?_
     obtain ⟨e_20,he_20,hb3⟩:=bindS hb3
     obtain ⟨vs21,at21,d21⟩:=h14.at he_20 1 rfl
     obtain rfl : vs21 = [(iV e_20)]:=d21
     refine q_y (v:=(elP s6 (t_15.toNat * 1))) hF hS (ex_indexAddr U28 sz3 rfl rfl (h14.idx he_20)) fun a hF=>q_do rfl fun _ hK=>wp_storeE (e':=(w64 (e_18 + e_16))) (us:=[(iV (w64 (e_18 + e_16)))]) (vs:=[(iV e_20)]) 0 hF hS h14 sz3 rfl rfl rfl rfl rfl rfl rfl he_20 at21 rfl rfl rfl fun w q22 hS h22=>hK _ _ (q_end (n_ib (n_sq (q_region (q_y (v:=(iV (w64 (t_15 + 1)))) hF hS (ex_ibin rfl rfl rfl) fun a hF=>q_m hF rfl fun a hF=>q_end ?_)))))
     obtain rfl:=someI hb3
     exact ⟨rfl,q22,_,_,rfl,hF.sub ⟨rfl,rfl,rfl,rfl,rfl,rfl,rfl,trivial⟩,hS,h22⟩
   ·rintro e a w ⟨q24,rfl,hF,hS,h24⟩
    refine x_ib (n_ib (n_sq ?_))
    refine q_region (q_y (v:=(iV (w64 (t_9 + 1)))) hF hS (ex_ibin rfl rfl rfl) fun a hF=>q_m hF rfl fun a hF=>q_end ?_)
    obtain rfl:=someI hb1
    exact ⟨rfl,q24,_,_,rfl,hF.sub ⟨rfl,rfl,rfl,rfl,trivial⟩,hS,h24⟩
 ·rintro e a w ⟨q26,rfl,hF,hS,h26⟩
  refine x_ib (n_sq ?_)
  refine q_sr (q_m hF rfl fun a hF=>q_s hF rfl fun a hF=>q_end (n_sq (q_ret ?_)))
  obtain rfl:=someI hr
  exact ret_of hF hS rfl (.tmp rfl .nil) ⟨q26,s6,rfl,hS.sel [0] (by decide),h26⟩

theorem c_impl_total (p_l : List Int) (r : Int) (hr : impl_total p_l = some r) (w0 : World) (m : Mem) (hv : Vis m w0) (s1 : Sl) (h1 : Rd m s1 p_l) :
  Ret Try.prog 80 [s1.v] w0 (fun v _=>v = (iV r)):=by
 unfold impl_total at hr
 refine ret_start Try.func80 rfl 17 rfl rfl m hv fun a hF hS=>q_sr (q_s hF rfl fun a hF=>q_end (n_sq (q_sr (q_s hF rfl fun a hF=>q_end (n_sq (q_seq (q_sr (q_m hF rfl fun a hF=>q_y (v:=(iV (goLen p_l))) hF hS (ex_len U28 rfl h1.len) fun a hF=>q_m hF rfl fun a hF=>q_end (n_sq (q_block ?_))))))))))
 obtain ⟨sum_6,hl1,hr⟩:=bindS hr
 refine q_loop (fun (s : Int × Int) a w=>∃ sum_2,∃ t_3,s = (sum_2,t_3)∧Fr a 17 [(3,(iV sum_2)),(6,s1.v),(7,(iV (goLen p_l))),(8,(iV t_3))]∧St [] w0 w m []) (fun (sum_6 : Int) e a w=>e = .exit 0∧Fr a 17 [(3,(iV sum_6))]∧St [] w0 w m []) hl1 ⟨_,_,rfl,hF.sub ⟨rfl,rfl,rfl,rfl,trivial⟩,hS⟩ ?_ ?_
 ·clear hF hS
  rintro s a w st ⟨sum_2,t_3,rfl,hF,hS⟩ hb1
  unfold impl_total_l1 at hb1
  refine q_sr (q_y (v:=(.bool (decide (t_3 < (goLen p_l))))) hF hS (ex_ibin rfl rfl rfl) fun a hF=>q_end (n_sq (q_seq ?_)))
  rcases bcase (decide (t_3 < (goLen p_l))) with hc2 | hc2
  ·have hb1:=cond_f hc2 hb1
   refine q_cond_f hF rfl hc2 (q_exit (x_sq ?_))
   obtain rfl:=someI hb1
   exact ⟨nofun,.inl ⟨rfl,hF.sub ⟨rfl,trivial⟩,hS⟩⟩
  ·have hb1:=cond_t hc2 hb1
   refine q_cond_t hF rfl hc2 (q_skipc (n_sq (q_seq (q_block (q_seq (q_region ?_))))))
   obtain ⟨e_4,he_4,hb1⟩:=bindS hb1
   obtain ⟨vs5,at5,d5⟩:=h1.at he_4 1 rfl
   obtain rfl : vs5 = [(iV e_4)]:=d5
   refine q_y (v:=(elP s1 (t_3.toNat * 1))) hF hS (ex_indexAddr U28 sz3 rfl rfl (h1.idx he_4)) fun a hF=>q_y (v:=(iV e_4)) hF hS (ex_loadE1 0 U3 rfl rfl ((at5).at) rfl rfl) fun a hF=>q_s hF rfl fun a hF=>q_end (n_sq (q_region (q_m hF rfl fun a hF=>q_m hF rfl fun a hF=>q_y (v:=(iV (w64 (sum_2 + e_4)))) hF hS (ex_ibin rfl rfl rfl) fun a hF=>q_s hF rfl fun a hF=>q_end (n_ib (n_sq (q_region (q_y (v:=(iV (w64 (t_3 + 1)))) hF hS (ex_ibin rfl rfl rfl) fun a hF=>q_m hF rfl fun a hF=>q_end ?_)))))))
   obtain rfl:=someI hb1
   exact ⟨rfl,_,_,rfl,hF.sub ⟨rfl,rfl,rfl,rfl,trivial⟩,hS⟩
 ·rintro e a w ⟨rfl,hF,hS⟩
  refine x_ib (n_sq ?_)
  refine q_sr (q_m hF rfl fun a hF=>q_s hF rfl fun a hF=>q_end (n_sq (q_ret ?_)))
  obtain rfl:=someI hr
  exact ret_of hF hS rfl (.tmp rfl .nil) rfl

theorem c_impl_roundingNetwork_1 (p_n : Int) (p_x1 : Int) (r : Int) (hr : impl_roundingNetwork_1 p_n p_x1 = some r) (w0 : World) (m : Mem) (b_p_x1 : Nat) (X : List Nat) (hS : St X w0 w0 m [[⟨b_p_x1,[(iV p_x1)],3⟩]]) :
  RetX Try.prog 173 [(iV p_n),(pP b_p_x1 0)] w0 (fun v w=>v = (iV r)∧St X w0 w m [[⟨b_p_x1,[(iV p_x1)],3⟩]]):=by
 unfold impl_roundingNetwork_1 at hr
 refine ret_startX Try.func173 rfl 7 rfl rfl fun a hF=>q_sr (q_s hF rfl fun a hF=>q_end (n_sq (q_sr (q_m hF rfl fun a hF=>q_y (v:=(iV p_x1)) hF hS (ex_load1 0 0 U3 rfl rfl rfl rfl) fun a hF=>?_))))
 obtain ⟨t_1,ht_1,hr⟩:=bindS hr
 refine q_y (v:=(iV t_1)) hF hS (ex_quo rfl rfl ht_1) fun a hF=>q_s hF rfl fun a hF=>q_end (n_sq (q_ret ?_))
 obtain rfl:=someI hr
 exact ret_ofX hF hS rfl (.tmp rfl .nil) ⟨rfl,hS.sel [0] (by decide)⟩

theorem c_impl_roundingNetwork_2 (p_n : Int) (p_x1 : Int) (r : Int) (hr : impl_roundingNetwork_2 p_n p_x1 = some r) (w0 : World) (m : Mem) (b_p_x1 : Nat) (X : List Nat) (hS : St X w0 w0 m [[⟨b_p_x1,[(iV p_x1)],3⟩]]) :
  RetX Try.prog 174 [(iV p_n),(pP b_p_x1 0)] w0 (fun v w=>v = (iV r)∧St X w0 w m [[⟨b_p_x1,[(iV p_x1)],3⟩]]):=by
 unfold impl_roundingNetwork_2 at hr
 refine ret_startX Try.func174 rfl 10 rfl rfl fun a hF=>q_sr (q_s hF rfl fun a hF=>q_end (n_sq (q_sr (q_m hF rfl fun a hF=>q_y (v:=(iV p_x1)) hF hS (ex_load1 0 0 U3 rfl rfl rfl rfl) fun a hF=>q_y (v:=(iV (w64 (p_n + p_x1)))) hF hS (ex_ibin rfl rfl rfl) fun a hF=>q_y (v:=(iV (w64 ((w64 (p_n + p_x1)) - 1)))) hF hS (ex_ibin rfl rfl rfl) fun a hF=>q_y (v:=(iV p_x1)) hF hS (ex_load1 0 0 U3 rfl rfl rfl rfl) fun a hF=>?_))))
 obtain ⟨t_1,ht_1,hr⟩:=bindS hr
 refine q_y (v:=(iV t_1)) hF hS (ex_quo rfl rfl ht_1) fun a hF=>q_s hF rfl fun a hF=>q_end (n_sq (q_ret ?_))
 obtain rfl:=someI hr
 exact ret_ofX hF hS rfl (.tmp rfl .nil) ⟨rfl,hS.sel [0] (by decide)⟩

end Go.Proofs.Ytpjcfmpfiadkgaa
