/- The walks of the functions: each returns what its plain function says. -/
import Derived.Test.YtpjcfmpfiadkgaaFDefs
import Derived.Test.YtpjcfmpfiadkgaaRows
namespace Go.Proofs.Ytpjcfmpfiadkgaa
open Go.Gx Go.Gx.F Go.RowKit
set_option linter.all false
set_option maxRecDepth 10000

theorem mixed : Try.prog.follows .mixedOrders = true := by kernel_rfl
theorem inf3 : inf Try.prog 3 = some (1, 8, [(.int .i64 0)]) := by kernel_rfl
theorem inf28 : inf Try.prog 28 = some (1, 24, [nilS.v]) := by kernel_rfl
theorem sz3 : szOf Try.prog 3 = some 1 := by kernel_rfl
theorem sz5 : szOf Try.prog 5 = some 1 := by kernel_rfl
theorem sz22 : szOf Try.prog 22 = some 1 := by kernel_rfl
theorem sz23 : szOf Try.prog 23 = some 1 := by kernel_rfl
theorem sz28 : szOf Try.prog 28 = some 1 := by kernel_rfl
theorem sz50 : szOf Try.prog 50 = some 4 := by kernel_rfl
theorem sz88 : szOf Try.prog 88 = some 1 := by kernel_rfl

theorem c_laws_big (p_code : List (K .u8)) (p_more : List (K .u8)) (r : Bool) (hr : laws_big p_code p_more = some r) (w0 : World) (m : Mem) (hv : Vis m w0) (s1 : Sl) (h1 : Rd m s1 p_code) (s2 : Sl) (h2 : Rd m s2 p_more) :
  Ret Try.prog 43 [s1.v,s2.v] w0 (fun v _=>v = (.bool r)):=by
 unfold laws_big at hr
 refine ret_start Try.func43 rfl 16 rfl rfl m hv fun a hF hS=>q_seq (q_region (q_x (v:=(.bool false)) hF hS (ex_assign rfl) rfl rfl fun a hF=>q_end (n_sq (q_seq ?_))))
 obtain ⟨t_3,hj1,hr⟩:=bindS hr
 refine q_join (fun a w=>Fr a 16 [(4,(.bool t_3))]∧St [] w0 w m []) ?_ ?_
 ·refine q_region (q_x (v:=s1.v) hF hS (ex_move rfl) rfl rfl fun a hF=>q_x (v:=(iV (goLen p_code))) hF hS (ex_len Try.underlying22 rfl h1.len) rfl rfl fun a hF=>q_x (v:=(.bool (decide (1048576 < (goLen p_code))))) hF hS (ex_ibin rfl rfl rfl) rfl rfl fun a hF=>q_x (v:=(.bool (decide (1048576 < (goLen p_code))))) hF hS (ex_move rfl) rfl rfl fun a hF=>?_)
  rcases bcase (decide (1048576 < (goLen p_code))) with hc2 | hc2
  ·have hj1:=cond_f hc2 hj1
   refine q_xg (v:=s2.v) hF hS (ex_move rfl) (wanted_t hF rfl rfl rfl hc2) rfl fun a hF=>q_xg (v:=(iV (goLen p_more))) hF hS (ex_len Try.underlying22 rfl h2.len) (wanted_t hF rfl rfl rfl hc2) rfl fun a hF=>q_xg (v:=s1.v) hF hS (ex_move rfl) (wanted_t hF rfl rfl rfl hc2) rfl fun a hF=>q_xg (v:=(iV (goLen p_code))) hF hS (ex_len Try.underlying22 rfl h1.len) (wanted_t hF rfl rfl rfl hc2) rfl fun a hF=>q_xg (v:=(iV (w64 (1048576 - (goLen p_code))))) hF hS (ex_ibin rfl rfl rfl) (wanted_t hF rfl rfl rfl hc2) rfl fun a hF=>q_xg (v:=(.bool (decide ((w64 (1048576 - (goLen p_code))) < (goLen p_more))))) hF hS (ex_ibin rfl rfl rfl) (wanted_t hF rfl rfl rfl hc2) rfl fun a hF=>q_x (v:=(.bool (decide ((w64 (1048576 - (goLen p_code))) < (goLen p_more))))) hF hS (ex_pick_f rfl rfl hc2) rfl rfl fun a hF=>q_x (v:=(.bool (decide ((w64 (1048576 - (goLen p_code))) < (goLen p_more))))) hF hS (ex_assign rfl) rfl rfl fun a hF=>q_end (n_jn ?_)
   obtain rfl:=someI hj1
   exact ⟨hF.sub ⟨rfl,trivial⟩,hS⟩
  ·have hj1:=cond_t hc2 hj1
   refine q_skip hF (wanted_f hF rfl rfl rfl hc2 rfl) rfl fun a hF=>q_skip hF (wanted_f hF rfl rfl rfl hc2 rfl) rfl fun a hF=>q_skip hF (wanted_f hF rfl rfl rfl hc2 rfl) rfl fun a hF=>q_skip hF (wanted_f hF rfl rfl rfl hc2 rfl) rfl fun a hF=>q_skip hF (wanted_f hF rfl rfl rfl hc2 rfl) rfl fun a hF=>q_skip hF (wanted_f hF rfl rfl rfl hc2 rfl) rfl fun a hF=>q_x (v:=(.bool true)) hF hS (ex_pick_t rfl rfl hc2) rfl rfl fun a hF=>q_x (v:=(.bool true)) hF hS (ex_assign rfl) rfl rfl fun a hF=>q_end (n_jn ?_)
   obtain rfl:=someI hj1
   exact ⟨hF.sub ⟨rfl,trivial⟩,hS⟩
 ·rintro a w ⟨hF,hS⟩
  refine n_sq (q_ret ?_)
  obtain rfl:=someI hr
  exact ret_of hF hS rfl (.tmp rfl .nil) rfl

theorem c_spec_l1Cur_next (p_c : spec_l1Cur) (r : Int × spec_l1Cur) (hr : spec_l1Cur_next p_c = some r) (w0 : World) (m : Mem) (b_p_c : Nat) (s1 : Sl) (h1 : Rd m s1 p_c.code) (X : List Nat) (hS : St X w0 w0 m [[⟨b_p_c,[s1.v,(iV p_c.at_),(.int .u64 p_c.seed.v)],90⟩]]) :
  RetX Try.prog 157 [(.pointer (some ⟨b_p_c,0,none⟩))] w0 (fun v w=>v = (iV r.1)∧St X w0 w m [[⟨b_p_c,[s1.v,(iV r.2.at_),(.int .u64 r.2.seed.v)],90⟩]]∧r.2.code = p_c.code):=by
 unfold spec_l1Cur_next at hr
 refine ret_startX Try.func157 rfl 62 rfl rfl fun a hF=>q_seq (q_region (q_x (v:=(iV 0)) hF hS (ex_assign rfl) rfl rfl fun a hF=>q_end (n_sq (q_seq (q_region (q_x (v:=(iV 0)) hF hS (ex_assign rfl) rfl rfl fun a hF=>q_end (n_sq (q_seq (q_seq (e_region ⟨[],[],m⟩ mixed fun w' hw'=>?_))))))))))
 have hS:=hS.below hw'
 refine e_p (v:=(.pointer (some ⟨b_p_c,0,none⟩))) 0 hF rfl (ex_move rfl) rfl rfl (by kernel_rfl) (by kernel_rfl) (by kernel_rfl) fun a hF=>e_p (v:=(.pointer (some ⟨b_p_c,0,none⟩))) 1 hF rfl (ex_nilCheck rfl) rfl rfl (by kernel_rfl) (by kernel_rfl) (by kernel_rfl) fun a hF=>e_p (v:=(.pointer (some ⟨b_p_c,1,none⟩))) 2 hF rfl (ex_fieldAddr Try.underlying90 rfl sz3 rfl rfl) rfl rfl (by kernel_rfl) (by kernel_rfl) (by kernel_rfl) fun a hF=>e_x (v:=(iV p_c.at_)) 3 hF hS rfl (ex_load1 0 0 Try.underlying3 rfl rfl rfl rfl) rfl rfl (by kernel_rfl) (by kernel_rfl) (by kernel_rfl) (by kernel_rfl) fun a hF=>e_p (v:=(.pointer (some ⟨b_p_c,0,none⟩))) 4 hF rfl (ex_move rfl) rfl rfl (by kernel_rfl) (by kernel_rfl) (by kernel_rfl) fun a hF=>e_p (v:=(.pointer (some ⟨b_p_c,0,none⟩))) 5 hF rfl (ex_nilCheck rfl) rfl rfl (by kernel_rfl) (by kernel_rfl) (by kernel_rfl) fun a hF=>e_p (v:=(.pointer (some ⟨b_p_c,0,none⟩))) 6 hF rfl (ex_fieldAddr Try.underlying90 rfl sz22 rfl rfl) rfl rfl (by kernel_rfl) (by kernel_rfl) (by kernel_rfl) fun a hF=>e_x (v:=s1.v) 7 hF hS rfl (ex_load1 0 0 Try.underlying22 rfl rfl rfl rfl) rfl rfl (by kernel_rfl) (by kernel_rfl) (by kernel_rfl) (by kernel_rfl) fun a hF=>e_p (v:=(iV (goLen p_c.code))) 8 hF rfl (ex_len Try.underlying22 rfl h1.len) rfl rfl (by kernel_rfl) (by kernel_rfl) (by kernel_rfl) fun a hF=>e_p (v:=(.bool (decide (p_c.at_ < (goLen p_c.code))))) 9 hF rfl (ex_ibin rfl rfl rfl) rfl rfl (by kernel_rfl) (by kernel_rfl) (by kernel_rfl) fun a hF=>e_end (by kernel_rfl) (n_sq ?_) _
 obtain ⟨b_4,hj1,hr⟩:=bindS hr
 refine q_join (fun a w=>Fr a 62 [(0,(.pointer (some ⟨b_p_c,0,none⟩))),(3,(iV b_4))]∧St X w0 w m [[⟨b_p_c,[s1.v,(iV p_c.at_),(.int .u64 p_c.seed.v)],90⟩]]) ?_ ?_
 ·rcases bcase (decide (p_c.at_ < (goLen p_c.code))) with hc2 | hc2
  ·have hj1:=cond_f hc2 hj1
   refine q_cond_f hF rfl hc2 (q_skipc (n_jn ?_))
   obtain rfl:=someI hj1
   exact ⟨hF.sub ⟨rfl,rfl,trivial⟩,hS⟩
  ·have hj1:=cond_t hc2 hj1
   refine q_cond_t hF rfl hc2 (e_region ⟨[],[],m⟩ mixed fun w' hw'=>?_)
   have hS:=hS.below hw'
   refine e_p (v:=(.pointer (some ⟨b_p_c,0,none⟩))) 0 hF rfl (ex_move rfl) rfl rfl (by kernel_rfl) (by kernel_rfl) (by kernel_rfl) fun a hF=>e_p (v:=(.pointer (some ⟨b_p_c,0,none⟩))) 1 hF rfl (ex_nilCheck rfl) rfl rfl (by kernel_rfl) (by kernel_rfl) (by kernel_rfl) fun a hF=>e_p (v:=(.pointer (some ⟨b_p_c,0,none⟩))) 2 hF rfl (ex_fieldAddr Try.underlying90 rfl sz22 rfl rfl) rfl rfl (by kernel_rfl) (by kernel_rfl) (by kernel_rfl) fun a hF=>e_x (v:=s1.v) 3 hF hS rfl (ex_load1 0 0 Try.underlying22 rfl rfl rfl rfl) rfl rfl (by kernel_rfl) (by kernel_rfl) (by kernel_rfl) (by kernel_rfl) fun a hF=>e_p (v:=(.pointer (some ⟨b_p_c,0,none⟩))) 4 hF rfl (ex_move rfl) rfl rfl (by kernel_rfl) (by kernel_rfl) (by kernel_rfl) fun a hF=>e_p (v:=(.pointer (some ⟨b_p_c,0,none⟩))) 5 hF rfl (ex_nilCheck rfl) rfl rfl (by kernel_rfl) (by kernel_rfl) (by kernel_rfl) fun a hF=>e_p (v:=(.pointer (some ⟨b_p_c,1,none⟩))) 6 hF rfl (ex_fieldAddr Try.underlying90 rfl sz3 rfl rfl) rfl rfl (by kernel_rfl) (by kernel_rfl) (by kernel_rfl) fun a hF=>e_x (v:=(iV p_c.at_)) 7 hF hS rfl (ex_load1 0 0 Try.underlying3 rfl rfl rfl rfl) rfl rfl (by kernel_rfl) (by kernel_rfl) (by kernel_rfl) (by kernel_rfl) fun a hF=>?_
   obtain ⟨e_2,he_2,hj1⟩:=bindS hj1
   obtain ⟨vs3,at3,d3⟩:=h1.at he_2 1 rfl
   obtain rfl : vs3 = [(.int .u8 e_2.v)]:=d3
   refine e_p (v:=(elP s1 (p_c.at_.toNat * 1))) 8 hF rfl (ex_indexAddr Try.underlying22 sz5 rfl rfl (h1.idx he_2)) rfl rfl (by kernel_rfl) (by kernel_rfl) (by kernel_rfl) fun a hF=>e_xm (v:=(.int .u8 e_2.v)) 9 hF hS (Mem.le.refl _) rfl (ex_loadE1 0 Try.underlying5 rfl rfl ((at3).at) rfl rfl) rfl rfl (by kernel_rfl) (by kernel_rfl) (by kernel_rfl) fun a hF=>e_p (v:=(iV (w64 e_2.v))) 10 hF rfl (ex_conv Try.underlying5 Try.underlying3 rfl) rfl rfl (by kernel_rfl) (by kernel_rfl) (by kernel_rfl) fun a hF=>e_p (v:=(iV (w64 e_2.v))) 11 hF rfl (ex_assign rfl) rfl rfl (by kernel_rfl) (by kernel_rfl) (by kernel_rfl) fun a hF=>e_end (by kernel_rfl) (n_jn ?_) _
   obtain rfl:=someI hj1
   exact ⟨hF.sub ⟨rfl,rfl,trivial⟩,hS⟩
 ·rintro a w ⟨hF,hS⟩
  refine n_sq ?_
  refine q_seq (q_region (q_x (v:=(.pointer (some ⟨b_p_c,0,none⟩))) hF hS (ex_move rfl) rfl rfl fun a hF=>q_x (v:=(.pointer (some ⟨b_p_c,0,none⟩))) hF hS (ex_nilCheck rfl) rfl rfl fun a hF=>q_x (v:=(.pointer (some ⟨b_p_c,1,none⟩))) hF hS (ex_fieldAddr Try.underlying90 rfl sz3 rfl rfl) rfl rfl fun a hF=>q_x (v:=(iV p_c.at_)) hF hS (ex_load1 0 0 Try.underlying3 rfl rfl rfl rfl) rfl rfl fun a hF=>q_x (v:=(iV (w64 (p_c.at_ + 1)))) hF hS (ex_ibin rfl rfl rfl) rfl rfl fun a hF=>q_x (v:=(.pointer (some ⟨b_p_c,0,none⟩))) hF hS (ex_nilCheck rfl) rfl rfl fun a hF=>q_x (v:=(.pointer (some ⟨b_p_c,1,none⟩))) hF hS (ex_fieldAddr Try.underlying90 rfl sz3 rfl rfl) rfl rfl fun a hF=>q_store (vs:=[(iV (w64 (p_c.at_ + 1)))]) (cs':=[s1.v,(iV (w64 (p_c.at_ + 1))),(.int .u64 p_c.seed.v)]) 0 0 hF hS sz3 rfl rfl rfl rfl rfl rfl rfl rfl fun a w hF hS=>q_end (n_sq (q_seq (q_region (q_x (v:=(.pointer (some ⟨b_p_c,0,none⟩))) hF hS (ex_move rfl) rfl rfl fun a hF=>q_x (v:=(.pointer (some ⟨b_p_c,0,none⟩))) hF hS (ex_move rfl) rfl rfl fun a hF=>q_x (v:=(.pointer (some ⟨b_p_c,0,none⟩))) hF hS (ex_nilCheck rfl) rfl rfl fun a hF=>q_x (v:=(.pointer (some ⟨b_p_c,2,none⟩))) hF hS (ex_fieldAddr Try.underlying90 rfl sz88 rfl rfl) rfl rfl fun a hF=>q_x (v:=(.int .u64 p_c.seed.v)) hF hS (ex_load1 0 0 Try.underlying88 rfl rfl rfl rfl) rfl rfl fun a hF=>q_x (v:=(.int .u64 (IntKind.wrap .u64 (p_c.seed.v * 6364136223846793005)))) hF hS (ex_ibin rfl rfl rfl) rfl rfl fun a hF=>q_x (v:=(iV b_4)) hF hS (ex_move rfl) rfl rfl fun a hF=>q_x (v:=(.int .u64 (IntKind.wrap .u64 b_4))) hF hS (ex_conv Try.underlying3 Try.underlying88 rfl) rfl rfl fun a hF=>q_x (v:=(.int .u64 (IntKind.wrap .u64 ((IntKind.wrap .u64 (p_c.seed.v * 6364136223846793005)) + (IntKind.wrap .u64 b_4))))) hF hS (ex_ibin rfl rfl rfl) rfl rfl fun a hF=>q_x (v:=(.int .u64 (IntKind.wrap .u64 ((IntKind.wrap .u64 ((IntKind.wrap .u64 (p_c.seed.v * 6364136223846793005)) + (IntKind.wrap .u64 b_4))) + 1442695040888963407)))) hF hS (ex_ibin rfl rfl rfl) rfl rfl fun a hF=>q_x (v:=(.pointer (some ⟨b_p_c,0,none⟩))) hF hS (ex_nilCheck rfl) rfl rfl fun a hF=>q_x (v:=(.pointer (some ⟨b_p_c,2,none⟩))) hF hS (ex_fieldAddr Try.underlying90 rfl sz88 rfl rfl) rfl rfl fun a hF=>?_))))))
  refine q_store (vs:=[(.int .u64 (IntKind.wrap .u64 ((IntKind.wrap .u64 ((IntKind.wrap .u64 (p_c.seed.v * 6364136223846793005)) + (IntKind.wrap .u64 b_4))) + 1442695040888963407)))]) (cs':=[s1.v,(iV (w64 (p_c.at_ + 1))),(.int .u64 (IntKind.wrap .u64 ((IntKind.wrap .u64 ((IntKind.wrap .u64 (p_c.seed.v * 6364136223846793005)) + (IntKind.wrap .u64 b_4))) + 1442695040888963407)))]) 0 0 hF hS sz88 rfl rfl rfl rfl rfl rfl rfl rfl fun a w hF hS=>q_end (n_sq (q_seq (q_seq (e_region ⟨[],[],m⟩ mixed fun w' hw'=>?_))))
  have hS:=hS.below hw'
  refine e_p (v:=(.pointer (some ⟨b_p_c,0,none⟩))) 0 hF rfl (ex_move rfl) rfl rfl (by kernel_rfl) (by kernel_rfl) (by kernel_rfl) fun a hF=>e_p (v:=(.pointer (some ⟨b_p_c,0,none⟩))) 1 hF rfl (ex_nilCheck rfl) rfl rfl (by kernel_rfl) (by kernel_rfl) (by kernel_rfl) fun a hF=>e_p (v:=(.pointer (some ⟨b_p_c,1,none⟩))) 2 hF rfl (ex_fieldAddr Try.underlying90 rfl sz3 rfl rfl) rfl rfl (by kernel_rfl) (by kernel_rfl) (by kernel_rfl) fun a hF=>e_x (v:=(iV (w64 (p_c.at_ + 1)))) 3 hF hS rfl (ex_load1 0 0 Try.underlying3 rfl rfl rfl rfl) rfl rfl (by kernel_rfl) (by kernel_rfl) (by kernel_rfl) (by kernel_rfl) fun a hF=>e_p (v:=(.pointer (some ⟨b_p_c,0,none⟩))) 4 hF rfl (ex_move rfl) rfl rfl (by kernel_rfl) (by kernel_rfl) (by kernel_rfl) fun a hF=>e_p (v:=(.pointer (some ⟨b_p_c,0,none⟩))) 5 hF rfl (ex_nilCheck rfl) rfl rfl (by kernel_rfl) (by kernel_rfl) (by kernel_rfl) fun a hF=>e_p (v:=(.pointer (some ⟨b_p_c,0,none⟩))) 6 hF rfl (ex_fieldAddr Try.underlying90 rfl sz22 rfl rfl) rfl rfl (by kernel_rfl) (by kernel_rfl) (by kernel_rfl) fun a hF=>e_x (v:=s1.v) 7 hF hS rfl (ex_load1 0 0 Try.underlying22 rfl rfl rfl rfl) rfl rfl (by kernel_rfl) (by kernel_rfl) (by kernel_rfl) (by kernel_rfl) fun a hF=>e_p (v:=(iV (goLen p_c.code))) 8 hF rfl (ex_len Try.underlying22 rfl h1.len) rfl rfl (by kernel_rfl) (by kernel_rfl) (by kernel_rfl) fun a hF=>e_p (v:=(.bool (decide ((w64 (p_c.at_ + 1)) ≤ (goLen p_c.code))))) 9 hF rfl (ex_ibin rfl rfl rfl) rfl rfl (by kernel_rfl) (by kernel_rfl) (by kernel_rfl) fun a hF=>e_end (by kernel_rfl) (n_sq ?_) _
  rcases bcase (decide ((w64 (p_c.at_ + 1)) ≤ (goLen p_c.code))) with hc3 | hc3
  ·have hr:=cond_f hc3 hr
   refine q_cond_f hF rfl hc3 (q_skipc (n_sq (q_seq (q_region (q_x (v:=(.pointer (some ⟨b_p_c,0,none⟩))) hF hS (ex_move rfl) rfl rfl fun a hF=>q_x (v:=(.pointer (some ⟨b_p_c,0,none⟩))) hF hS (ex_nilCheck rfl) rfl rfl fun a hF=>q_x (v:=(.pointer (some ⟨b_p_c,2,none⟩))) hF hS (ex_fieldAddr Try.underlying90 rfl sz88 rfl rfl) rfl rfl fun a hF=>q_x (v:=(.int .u64 (IntKind.wrap .u64 ((IntKind.wrap .u64 ((IntKind.wrap .u64 (p_c.seed.v * 6364136223846793005)) + (IntKind.wrap .u64 b_4))) + 1442695040888963407)))) hF hS (ex_load1 0 0 Try.underlying88 rfl rfl rfl rfl) rfl rfl fun a hF=>?_)))))
   obtain ⟨t_5,ht_5,hr⟩:=bindS hr
   refine q_x (v:=(.int .u64 t_5)) hF hS (ex_shr rfl rfl ht_5) rfl rfl fun a hF=>q_x (v:=(.int .u64 (goBits .and .u64 t_5 255))) hF hS (ex_bits rfl rfl rfl) rfl rfl fun a hF=>q_x (v:=(iV (w64 (goBits .and .u64 t_5 255)))) hF hS (ex_conv Try.underlying88 Try.underlying3 rfl) rfl rfl fun a hF=>q_x (v:=(iV (w64 (goBits .and .u64 t_5 255)))) hF hS (ex_assign rfl) rfl rfl fun a hF=>q_end (n_sq (q_ret ?_))
   obtain rfl:=someI hr
   exact ret_ofX hF hS rfl (.tmp rfl .nil) ⟨rfl,hS.sel [0] (by decide),rfl⟩
  ·have hr:=cond_t hc3 hr
   refine q_cond_t hF rfl hc3 (q_seq (q_region (q_x (v:=(iV b_4)) hF hS (ex_move rfl) rfl rfl fun a hF=>q_x (v:=(iV b_4)) hF hS (ex_assign rfl) rfl rfl fun a hF=>q_end (n_sq (q_ret (r_sq ?_))))))
   obtain rfl:=someI hr
   exact ret_ofX hF hS rfl (.tmp rfl .nil) ⟨rfl,hS.sel [0] (by decide),rfl⟩

theorem c_spec_l1Cur_pick (p_c : spec_l1Cur) (p_n : Int) (r : Int × spec_l1Cur) (hr : spec_l1Cur_pick p_c p_n = some r) (w0 : World) (m : Mem) (b_p_c : Nat) (s1 : Sl) (h1 : Rd m s1 p_c.code) (X : List Nat) (hS : St X w0 w0 m [[⟨b_p_c,[s1.v,(iV p_c.at_),(.int .u64 p_c.seed.v)],90⟩]]) :
  RetX Try.prog 106 [(.pointer (some ⟨b_p_c,0,none⟩)),(iV p_n)] w0 (fun v w=>v = (iV r.1)∧St X w0 w m [[⟨b_p_c,[s1.v,(iV r.2.at_),(.int .u64 r.2.seed.v)],90⟩]]∧r.2.code = p_c.code):=by
 unfold spec_l1Cur_pick at hr
 refine ret_startX Try.func106 rfl 20 rfl rfl fun a hF=>q_seq (q_region (q_x (v:=(iV 0)) hF hS (ex_assign rfl) rfl rfl fun a hF=>q_end (n_sq (q_seq (q_seq (q_region (q_x (v:=(iV p_n)) hF hS (ex_move rfl) rfl rfl fun a hF=>q_x (v:=(.bool (decide (p_n ≤ 1)))) hF hS (ex_ibin rfl rfl rfl) rfl rfl fun a hF=>q_end (n_sq ?_))))))))
 rcases bcase (decide (p_n ≤ 1)) with hc1 | hc1
 ·have hr:=cond_f hc1 hr
  refine q_cond_f hF rfl hc1 (q_skipc (n_sq (q_seq (q_region (q_x (v:=(.pointer (some ⟨b_p_c,0,none⟩))) hF hS (ex_move rfl) rfl rfl fun a hF=>?_)))))
  have hS2 : St _ _ _ _ ([[⟨b_p_c,[s1.v,(iV p_c.at_),(.int .u64 p_c.seed.v)],90⟩]]++[]):=hS
  have hE2:=hS2.enter
  obtain ⟨t_3,ht_3,hr⟩:=bindS hr
  refine q_do rfl fun _ hK=>wp_callX (vs:=[(.pointer (some ⟨b_p_c,0,none⟩))]) hF Try.func157 (by kernel_rfl) rfl rfl rfl (c_spec_l1Cur_next p_c t_3 ht_3 _ m b_p_c s1 h1 _ hE2) fun a w _ hR hF=>hK _ _ ?_
  obtain ⟨rfl,hR2,hk4⟩:=hR
  have hS : St _ _ _ _ [[⟨b_p_c,[s1.v,(iV t_3.2.at_),(.int .u64 t_3.2.seed.v)],90⟩]]:=hS2.leaveF hR2
  have h4 : Rd m s1 t_3.2.code:=by rw [hk4]; exact h1
  refine q_x (v:=(iV t_3.1)) hF hS (ex_assign rfl) rfl rfl fun a hF=>q_end (n_sq (q_seq (q_seq (q_region (q_x (v:=(iV p_n)) hF hS (ex_move rfl) rfl rfl fun a hF=>q_x (v:=(.bool (decide (200 < p_n)))) hF hS (ex_ibin rfl rfl rfl) rfl rfl fun a hF=>q_end (n_sq ?_))))))
  obtain ⟨j2,hj2,hr⟩:=bindS hr
  refine q_join (fun a w=>∃ x_8,∃ p_c_9,j2 = (x_8,p_c_9)∧Fr a 20 [(1,(iV p_n)),(5,(iV x_8))]∧St X w0 w m [[⟨b_p_c,[s1.v,(iV p_c_9.at_),(.int .u64 p_c_9.seed.v)],90⟩]]∧Rd m s1 p_c_9.code∧p_c_9.code = p_c.code) ?_ ?_
  ·rcases bcase (decide (200 < p_n)) with hc3 | hc3
   ·have hj2:=cond_f hc3 hj2
    refine q_cond_f hF rfl hc3 (q_skipc (n_jn ?_))
    obtain rfl:=someI hj2
    exact ⟨_,_,rfl,hF.sub ⟨rfl,rfl,trivial⟩,hS,h4,hk4⟩
   ·have hj2:=cond_t hc3 hj2
    refine q_cond_t hF rfl hc3 (q_region (q_x (v:=(iV t_3.1)) hF hS (ex_move rfl) rfl rfl fun a hF=>q_x (v:=(iV (w64 (t_3.1 * 256)))) hF hS (ex_ibin rfl rfl rfl) rfl rfl fun a hF=>q_x (v:=(.pointer (some ⟨b_p_c,0,none⟩))) hF hS (ex_move rfl) rfl rfl fun a hF=>?_))
    have hS5 : St _ _ _ _ ([[⟨b_p_c,[s1.v,(iV t_3.2.at_),(.int .u64 t_3.2.seed.v)],90⟩]]++[]):=hS
    have hE5:=hS5.enter
    obtain ⟨t_6,ht_6,hj2⟩:=bindS hj2
    refine q_do rfl fun _ hK=>wp_callX (vs:=[(.pointer (some ⟨b_p_c,0,none⟩))]) hF Try.func157 (by kernel_rfl) rfl rfl rfl (c_spec_l1Cur_next t_3.2 t_6 ht_6 _ m b_p_c s1 h4 _ hE5) fun a w _ hR hF=>hK _ _ ?_
    obtain ⟨rfl,hR5,hk7⟩:=hR
    have hS : St _ _ _ _ [[⟨b_p_c,[s1.v,(iV t_6.2.at_),(.int .u64 t_6.2.seed.v)],90⟩]]:=hS5.leaveF hR5
    have h7 : Rd m s1 t_6.2.code:=by rw [hk7]; exact h4
    refine q_x (v:=(iV (w64 ((w64 (t_3.1 * 256)) + t_6.1)))) hF hS (ex_ibin rfl rfl rfl) rfl rfl fun a hF=>q_x (v:=(iV (w64 ((w64 (t_3.1 * 256)) + t_6.1)))) hF hS (ex_assign rfl) rfl rfl fun a hF=>q_end (n_jn ?_)
    obtain rfl:=someI hj2
    exact ⟨_,_,rfl,hF.sub ⟨rfl,rfl,trivial⟩,hS,h7,(hk7.trans hk4)⟩
  ·rintro a w ⟨x_8,p_c_9,rfl,hF,hS,h10,h10k⟩
   refine n_sq ?_
   refine q_seq (q_region (q_x (v:=(iV x_8)) hF hS (ex_move rfl) rfl rfl fun a hF=>q_x (v:=(iV p_n)) hF hS (ex_move rfl) rfl rfl fun a hF=>?_))
   obtain ⟨t_11,ht_11,hr⟩:=bindS hr
   refine q_x (v:=(iV t_11)) hF hS (ex_rem rfl rfl ht_11) rfl rfl fun a hF=>q_x (v:=(iV t_11)) hF hS (ex_assign rfl) rfl rfl fun a hF=>q_end (n_sq (q_ret ?_))
   obtain rfl:=someI hr
   exact ret_ofX hF hS rfl (.tmp rfl .nil) ⟨rfl,hS.sel [0] (by decide),h10k⟩
 ·have hr:=cond_t hc1 hr
  refine q_cond_t hF rfl hc1 (q_seq (q_region (q_x (v:=(iV 0)) hF hS (ex_assign rfl) rfl rfl fun a hF=>q_end (n_sq (q_ret (r_sq ?_))))))
  obtain rfl:=someI hr
  exact ret_ofX hF hS rfl (.tmp rfl .nil) ⟨rfl,hS.sel [0] (by decide),rfl⟩

theorem c_spec_l1Most (p_a : Int) (p_b : Int) (r : Int) (hr : spec_l1Most p_a p_b = some r) (w0 : World) (m : Mem) (hv : Vis m w0) :
  Ret Try.prog 91 [(iV p_a),(iV p_b)] w0 (fun v _=>v = (iV r)):=by
 unfold spec_l1Most at hr
 refine ret_start Try.func91 rfl 10 rfl rfl m hv fun a hF hS=>q_seq (q_region (q_x (v:=(iV 0)) hF hS (ex_assign rfl) rfl rfl fun a hF=>q_end (n_sq (q_seq (q_seq (q_region (q_x (v:=(iV p_a)) hF hS (ex_move rfl) rfl rfl fun a hF=>q_x (v:=(iV p_b)) hF hS (ex_move rfl) rfl rfl fun a hF=>q_x (v:=(.bool (decide (p_b < p_a)))) hF hS (ex_ibin rfl rfl rfl) rfl rfl fun a hF=>q_end (n_sq ?_))))))))
 rcases bcase (decide (p_b < p_a)) with hc1 | hc1
 ·have hr:=cond_f hc1 hr
  refine q_cond_f hF rfl hc1 (q_skipc (n_sq (q_seq (q_region (q_x (v:=(iV p_b)) hF hS (ex_move rfl) rfl rfl fun a hF=>q_x (v:=(iV p_b)) hF hS (ex_assign rfl) rfl rfl fun a hF=>q_end (n_sq (q_ret ?_)))))))
  obtain rfl:=someI hr
  exact ret_of hF hS rfl (.tmp rfl .nil) rfl
 ·have hr:=cond_t hc1 hr
  refine q_cond_t hF rfl hc1 (q_seq (q_region (q_x (v:=(iV p_a)) hF hS (ex_move rfl) rfl rfl fun a hF=>q_x (v:=(iV p_a)) hF hS (ex_assign rfl) rfl rfl fun a hF=>q_end (n_sq (q_ret (r_sq ?_))))))
  obtain rfl:=someI hr
  exact ret_of hF hS rfl (.tmp rfl .nil) rfl

theorem c_spec_l1Cur_transport (p_c : spec_l1Cur) (r : impl_Transport × spec_l1Cur) (hr : spec_l1Cur_transport p_c = some r) (w0 : World) (m : Mem) (b_p_c : Nat) (s1 : Sl) (h1 : Rd m s1 p_c.code) (X : List Nat) (hS : St X w0 w0 m [[⟨b_p_c,[s1.v,(iV p_c.at_),(.int .u64 p_c.seed.v)],90⟩]]) :
  RetX Try.prog 184 [(.pointer (some ⟨b_p_c,0,none⟩))] w0 (fun v w=>∃ (q0' : Piece) (q1' : Piece) (q2' : Piece) (q3' : Piece) (s0' : Sl) (s1' : Sl) (s2' : Sl) (s3' : Sl),v = (.agg #[s0'.v,s1'.v,s2'.v,s3'.v])∧St X w0 w m [[⟨b_p_c,[s1.v,(iV r.2.at_),(.int .u64 r.2.seed.v)],90⟩],q0',q1',q2',q3']∧OwnL m 3 q0' s0' r.1.Rows∧OwnL m 3 q1' s1' r.1.Cols∧OwnD m 28 3 q2' s2' r.1.Lo∧OwnD m 28 3 q3' s3' r.1.Hi∧r.2.code = p_c.code):=by
 unfold spec_l1Cur_transport at hr
 refine ret_startX Try.func184 rfl 120 rfl rfl fun a hF=>q_seq (q_region (q_alloc (cs:=[nilS.v,nilS.v,nilS.v,nilS.v]) hF hS rfl rfl rfl fun a w b2 hF hS=>q_end (n_sq (q_seq (q_region (q_x (v:=(.pointer (some ⟨b_p_c,0,none⟩))) hF hS (ex_move rfl) rfl rfl fun a hF=>?_))))))
 have hS : St _ _ _ _ [[⟨b_p_c,[s1.v,(iV p_c.at_),(.int .u64 p_c.seed.v)],90⟩],[⟨b2,[nilS.v,nilS.v,nilS.v,nilS.v],50⟩]]:=hS.sel [1,0] (by decide)
 have hS3 : St _ _ _ _ ([[⟨b_p_c,[s1.v,(iV p_c.at_),(.int .u64 p_c.seed.v)],90⟩]]++[[⟨b2,[nilS.v,nilS.v,nilS.v,nilS.v],50⟩]]):=hS
 have hE3:=hS3.enter
 obtain ⟨t_4,ht_4,hr⟩:=bindS hr
 refine q_do rfl fun _ hK=>wp_callX (vs:=[(.pointer (some ⟨b_p_c,0,none⟩)),(iV 3)]) hF Try.func106 (by kernel_rfl) rfl rfl rfl (c_spec_l1Cur_pick p_c 3 t_4 ht_4 _ m b_p_c s1 h1 _ hE3) fun a w _ hR hF=>hK _ _ ?_
 obtain ⟨rfl,hR3,hk5⟩:=hR
 have hS : St _ _ _ _ [[⟨b_p_c,[s1.v,(iV t_4.2.at_),(.int .u64 t_4.2.seed.v)],90⟩],[⟨b2,[nilS.v,nilS.v,nilS.v,nilS.v],50⟩]]:=hS3.leaveF hR3
 have h5 : Rd m s1 t_4.2.code:=by rw [hk5]; exact h1
 refine q_x (v:=(iV (w64 (1 + t_4.1)))) hF hS (ex_ibin rfl rfl rfl) rfl rfl fun a hF=>q_x (v:=(.pointer (some ⟨b_p_c,0,none⟩))) hF hS (ex_move rfl) rfl rfl fun a hF=>?_
 have hS6 : St _ _ _ _ ([[⟨b_p_c,[s1.v,(iV t_4.2.at_),(.int .u64 t_4.2.seed.v)],90⟩]]++[[⟨b2,[nilS.v,nilS.v,nilS.v,nilS.v],50⟩]]):=hS
 have hE6:=hS6.enter
 obtain ⟨t_7,ht_7,hr⟩:=bindS hr
 refine q_do rfl fun _ hK=>wp_callX (vs:=[(.pointer (some ⟨b_p_c,0,none⟩)),(iV 3)]) hF Try.func106 (by kernel_rfl) rfl rfl rfl (c_spec_l1Cur_pick t_4.2 3 t_7 ht_7 _ m b_p_c s1 h5 _ hE6) fun a w _ hR hF=>hK _ _ ?_
 obtain ⟨rfl,hR6,hk8⟩:=hR
 have hS : St _ _ _ _ [[⟨b_p_c,[s1.v,(iV t_7.2.at_),(.int .u64 t_7.2.seed.v)],90⟩],[⟨b2,[nilS.v,nilS.v,nilS.v,nilS.v],50⟩]]:=hS6.leaveF hR6
 have h8 : Rd m s1 t_7.2.code:=by rw [hk8]; exact h5
 refine q_x (v:=(iV (w64 (1 + t_7.1)))) hF hS (ex_ibin rfl rfl rfl) rfl rfl fun a hF=>q_x (v:=(iV (w64 (1 + t_4.1)))) hF hS (ex_assign rfl) rfl rfl fun a hF=>q_x (v:=(iV (w64 (1 + t_7.1)))) hF hS (ex_assign rfl) rfl rfl fun a hF=>q_end (n_sq (q_seq ?_))
 obtain ⟨t_20,hj1,hr⟩:=bindS hr
 refine q_join (fun a w=>∃ b19,∃ (q21 : Piece),∃ (s21 : Sl),∃ (q22 : Piece),∃ (s22 : Sl),Fr a 120 [(0,(.pointer (some ⟨b_p_c,0,none⟩))),(2,(.pointer (some ⟨b2,0,none⟩))),(3,(iV (w64 (1 + t_4.1)))),(4,(iV (w64 (1 + t_7.1)))),(5,(.pointer (some ⟨b19,0,none⟩)))]∧St X w0 w m [q21,q22,[⟨b19,[s21.v,s22.v,nilS.v,nilS.v],50⟩],[⟨b_p_c,[s1.v,(iV t_7.2.at_),(.int .u64 t_7.2.seed.v)],90⟩],[⟨b2,[nilS.v,nilS.v,nilS.v,nilS.v],50⟩]]∧OwnL m 3 q21 s21 t_20.Rows∧OwnL m 3 q22 s22 t_20.Cols) ?_ ?_
 ·refine e_region ⟨[6],[],m⟩ mixed fun w' hw'=>?_
  have hS:=hS.below hw'
  refine e_p (v:=(iV (w64 (1 + t_4.1)))) 0 hF rfl (ex_move rfl) rfl rfl (by kernel_rfl) (by kernel_rfl) (by kernel_rfl) fun a hF=>e_p (v:=(iV (w64 (1 + t_7.1)))) 2 hF rfl (ex_move rfl) rfl rfl (by kernel_rfl) (by kernel_rfl) (by kernel_rfl) fun a hF=>?_
  obtain ⟨l_15,hl_15,hj1⟩:=bindS hj1
  obtain ⟨l_17,hl_17,hj1⟩:=bindS hj1
  refine e_all [1,3,5] (by kernel_rfl) rfl ⟨?_,?_,?_,trivial⟩
  ·refine e_op rfl rfl fun _ hK=>wp_make (z:=(0 : Int)) hF hS Try.underlying28 inf3 rfl rfl rfl rfl rfl (by decide) hl_15 rfl fun a w q16 s16 hF hS h16 hb=>hK _ _ hb (e_all [3,5] (by kernel_rfl) rfl ⟨?_,?_,trivial⟩)
   ·refine e_op rfl rfl fun _ hK=>wp_make (z:=(0 : Int)) hF hS Try.underlying28 inf3 rfl rfl rfl rfl rfl (by decide) hl_17 rfl fun a w q18 s18 hF hS h18 hb=>hK _ _ hb (e_p (v:=(.agg #[s16.v,s18.v,nilS.v,nilS.v])) 4 hF rfl (ex_build (cells:=[s16.v,s18.v,nilS.v,nilS.v]) rfl (by kernel_rfl)) rfl rfl (by kernel_rfl) (by kernel_rfl) (by kernel_rfl) fun a hF=>e_one 5 (by kernel_rfl) (e_alloc (cs:=[nilS.v,nilS.v,nilS.v,nilS.v]) hF hS rfl rfl rfl rfl fun a w b19 hF hS=>e_one 6 (by kernel_rfl) (e_store (vs:=[s16.v,s18.v,nilS.v,nilS.v]) (cs':=[s16.v,s18.v,nilS.v,nilS.v]) 0 0 hF hS rfl rfl sz50 rfl rfl rfl rfl rfl rfl rfl rfl fun a w hF hS=>⟨⟨kpN,fun _=>hS.vis.of_le (Mem.le.refl _)⟩,?_⟩)))
    refine e_end (by kernel_rfl) (n_jn ?_) _
    obtain rfl:=someI hj1
    exact ⟨b19,q16,s16,q18,s18,hF.sub ⟨rfl,rfl,rfl,rfl,rfl,trivial⟩,hS.sel [2,1,0,3,4] (by decide),h16,h18⟩
   ·refine e_alloc (cs:=[nilS.v,nilS.v,nilS.v,nilS.v]) hF hS rfl rfl rfl rfl fun a w b19 hF hS=>e_one 3 (by kernel_rfl) (e_op rfl rfl fun _ hK=>wp_make (z:=(0 : Int)) hF hS Try.underlying28 inf3 rfl rfl rfl rfl rfl (by decide) hl_17 rfl fun a w q18 s18 hF hS h18 hb=>hK _ _ hb (e_p (v:=(.agg #[s16.v,s18.v,nilS.v,nilS.v])) 4 hF rfl (ex_build (cells:=[s16.v,s18.v,nilS.v,nilS.v]) rfl (by kernel_rfl)) rfl rfl (by kernel_rfl) (by kernel_rfl) (by kernel_rfl) fun a hF=>e_one 6 (by kernel_rfl) (e_store (vs:=[s16.v,s18.v,nilS.v,nilS.v]) (cs':=[s16.v,s18.v,nilS.v,nilS.v]) 1 0 hF hS rfl rfl sz50 rfl rfl rfl rfl rfl rfl rfl rfl fun a w hF hS=>⟨⟨kpN,fun _=>hS.vis.of_le (Mem.le.refl _)⟩,?_⟩)))
    refine e_end (by kernel_rfl) (n_jn ?_) _
    obtain rfl:=someI hj1
    exact ⟨b19,q16,s16,q18,s18,hF.sub ⟨rfl,rfl,rfl,rfl,rfl,trivial⟩,hS.sel [2,0,1,3,4] (by decide),h16,h18⟩
  ·refine e_op rfl rfl fun _ hK=>wp_make (z:=(0 : Int)) hF hS Try.underlying28 inf3 rfl rfl rfl rfl rfl (by decide) hl_17 rfl fun a w q18 s18 hF hS h18 hb=>hK _ _ hb (e_all [1,5] (by kernel_rfl) rfl ⟨?_,?_,trivial⟩)
   ·refine e_op rfl rfl fun _ hK=>wp_make (z:=(0 : Int)) hF hS Try.underlying28 inf3 rfl rfl rfl rfl rfl (by decide) hl_15 rfl fun a w q16 s16 hF hS h16 hb=>hK _ _ hb (e_p (v:=(.agg #[s16.v,s18.v,nilS.v,nilS.v])) 4 hF rfl (ex_build (cells:=[s16.v,s18.v,nilS.v,nilS.v]) rfl (by kernel_rfl)) rfl rfl (by kernel_rfl) (by kernel_rfl) (by kernel_rfl) fun a hF=>e_one 5 (by kernel_rfl) (e_alloc (cs:=[nilS.v,nilS.v,nilS.v,nilS.v]) hF hS rfl rfl rfl rfl fun a w b19 hF hS=>e_one 6 (by kernel_rfl) (e_store (vs:=[s16.v,s18.v,nilS.v,nilS.v]) (cs':=[s16.v,s18.v,nilS.v,nilS.v]) 0 0 hF hS rfl rfl sz50 rfl rfl rfl rfl rfl rfl rfl rfl fun a w hF hS=>⟨⟨kpN,fun _=>hS.vis.of_le (Mem.le.refl _)⟩,?_⟩)))
    refine e_end (by kernel_rfl) (n_jn ?_) _
    obtain rfl:=someI hj1
    exact ⟨b19,q16,s16,q18,s18,hF.sub ⟨rfl,rfl,rfl,rfl,rfl,trivial⟩,hS.sel [1,2,0,3,4] (by decide),h16,h18⟩
   ·refine e_alloc (cs:=[nilS.v,nilS.v,nilS.v,nilS.v]) hF hS rfl rfl rfl rfl fun a w b19 hF hS=>e_one 1 (by kernel_rfl) (e_op rfl rfl fun _ hK=>wp_make (z:=(0 : Int)) hF hS Try.underlying28 inf3 rfl rfl rfl rfl rfl (by decide) hl_15 rfl fun a w q16 s16 hF hS h16 hb=>hK _ _ hb (e_p (v:=(.agg #[s16.v,s18.v,nilS.v,nilS.v])) 4 hF rfl (ex_build (cells:=[s16.v,s18.v,nilS.v,nilS.v]) rfl (by kernel_rfl)) rfl rfl (by kernel_rfl) (by kernel_rfl) (by kernel_rfl) fun a hF=>e_one 6 (by kernel_rfl) (e_store (vs:=[s16.v,s18.v,nilS.v,nilS.v]) (cs':=[s16.v,s18.v,nilS.v,nilS.v]) 1 0 hF hS rfl rfl sz50 rfl rfl rfl rfl rfl rfl rfl rfl fun a w hF hS=>⟨⟨kpN,fun _=>hS.vis.of_le (Mem.le.refl _)⟩,?_⟩)))
    refine e_end (by kernel_rfl) (n_jn ?_) _
    obtain rfl:=someI hj1
    exact ⟨b19,q16,s16,q18,s18,hF.sub ⟨rfl,rfl,rfl,rfl,rfl,trivial⟩,hS.sel [0,2,1,3,4] (by decide),h16,h18⟩
  ·refine e_alloc (cs:=[nilS.v,nilS.v,nilS.v,nilS.v]) hF hS rfl rfl rfl rfl fun a w b19 hF hS=>e_all [1,3] (by kernel_rfl) rfl ⟨?_,?_,trivial⟩
   ·refine e_op rfl rfl fun _ hK=>wp_make (z:=(0 : Int)) hF hS Try.underlying28 inf3 rfl rfl rfl rfl rfl (by decide) hl_15 rfl fun a w q16 s16 hF hS h16 hb=>hK _ _ hb (e_one 3 (by kernel_rfl) (e_op rfl rfl fun _ hK=>wp_make (z:=(0 : Int)) hF hS Try.underlying28 inf3 rfl rfl rfl rfl rfl (by decide) hl_17 rfl fun a w q18 s18 hF hS h18 hb=>hK _ _ hb (e_p (v:=(.agg #[s16.v,s18.v,nilS.v,nilS.v])) 4 hF rfl (ex_build (cells:=[s16.v,s18.v,nilS.v,nilS.v]) rfl (by kernel_rfl)) rfl rfl (by kernel_rfl) (by kernel_rfl) (by kernel_rfl) fun a hF=>e_one 6 (by kernel_rfl) (e_store (vs:=[s16.v,s18.v,nilS.v,nilS.v]) (cs':=[s16.v,s18.v,nilS.v,nilS.v]) 2 0 hF hS rfl rfl sz50 rfl rfl rfl rfl rfl rfl rfl rfl fun a w hF hS=>⟨⟨kpN,fun _=>hS.vis.of_le (Mem.le.refl _)⟩,?_⟩))))
    refine e_end (by kernel_rfl) (n_jn ?_) _
    obtain rfl:=someI hj1
    exact ⟨b19,q16,s16,q18,s18,hF.sub ⟨rfl,rfl,rfl,rfl,rfl,trivial⟩,hS.sel [1,0,2,3,4] (by decide),h16,h18⟩
   ·refine e_op rfl rfl fun _ hK=>wp_make (z:=(0 : Int)) hF hS Try.underlying28 inf3 rfl rfl rfl rfl rfl (by decide) hl_17 rfl fun a w q18 s18 hF hS h18 hb=>hK _ _ hb (e_one 1 (by kernel_rfl) (e_op rfl rfl fun _ hK=>wp_make (z:=(0 : Int)) hF hS Try.underlying28 inf3 rfl rfl rfl rfl rfl (by decide) hl_15 rfl fun a w q16 s16 hF hS h16 hb=>hK _ _ hb (e_p (v:=(.agg #[s16.v,s18.v,nilS.v,nilS.v])) 4 hF rfl (ex_build (cells:=[s16.v,s18.v,nilS.v,nilS.v]) rfl (by kernel_rfl)) rfl rfl (by kernel_rfl) (by kernel_rfl) (by kernel_rfl) fun a hF=>e_one 6 (by kernel_rfl) (e_store (vs:=[s16.v,s18.v,nilS.v,nilS.v]) (cs':=[s16.v,s18.v,nilS.v,nilS.v]) 2 0 hF hS rfl rfl sz50 rfl rfl rfl rfl rfl rfl rfl rfl fun a w hF hS=>⟨⟨kpN,fun _=>hS.vis.of_le (Mem.le.refl _)⟩,?_⟩))))
    refine e_end (by kernel_rfl) (n_jn ?_) _
    obtain rfl:=someI hj1
    exact ⟨b19,q16,s16,q18,s18,hF.sub ⟨rfl,rfl,rfl,rfl,rfl,trivial⟩,hS,h16,h18⟩
 ·rintro a w ⟨b19,q21,s21,q22,s22,hF,hS,h21,h22⟩
  refine n_sq ?_
  refine q_seq (q_seq (q_region (q_x (v:=(iV 0)) hF hS (ex_assign rfl) rfl rfl fun a hF=>q_end (n_sq (q_block ?_)))))
  obtain ⟨o2,hl2,hr⟩:=bindS hr
  refine q_loop (fun (s : Int × impl_Transport × spec_l1Cur) a w=>∃ (q25 : Piece),∃ (q26 : Piece),∃ (q27 : Piece),∃ (s27 : Sl),∃ (q28 : Piece),∃ (s28 : Sl),∃ i_23,∃ t_24,∃ p_c_29,s = (i_23,t_24,p_c_29)∧Fr a 120 [(0,(.pointer (some ⟨b_p_c,0,none⟩))),(2,(.pointer (some ⟨b2,0,none⟩))),(3,(iV (w64 (1 + t_4.1)))),(4,(iV (w64 (1 + t_7.1)))),(5,(.pointer (some ⟨b19,0,none⟩))),(6,(iV i_23))]∧St X w0 w m [q25,q26,q27,q28,[⟨b19,[s21.v,s22.v,s27.v,s28.v],50⟩],[⟨b_p_c,[s1.v,(iV p_c_29.at_),(.int .u64 p_c_29.seed.v)],90⟩],[⟨b2,[nilS.v,nilS.v,nilS.v,nilS.v],50⟩]]∧OwnL m 3 q25 s21 t_24.Rows∧OwnL m 3 q26 s22 t_24.Cols∧OwnD m 28 3 q27 s27 t_24.Lo∧OwnD m 28 3 q28 s28 t_24.Hi∧Rd m s1 p_c_29.code∧p_c_29.code = p_c.code) (fun (o : impl_Transport × spec_l1Cur) e a w=>∃ (q87 : Piece),∃ (q88 : Piece),∃ (q89 : Piece),∃ (s89 : Sl),∃ (q90 : Piece),∃ (s90 : Sl),∃ t_86,∃ p_c_91,o = (t_86,p_c_91)∧e = .exit 0∧Fr a 120 [(0,(.pointer (some ⟨b_p_c,0,none⟩))),(2,(.pointer (some ⟨b2,0,none⟩))),(3,(iV (w64 (1 + t_4.1)))),(4,(iV (w64 (1 + t_7.1)))),(5,(.pointer (some ⟨b19,0,none⟩)))]∧St X w0 w m [q87,q88,q89,q90,[⟨b19,[s21.v,s22.v,s89.v,s90.v],50⟩],[⟨b_p_c,[s1.v,(iV p_c_91.at_),(.int .u64 p_c_91.seed.v)],90⟩],[⟨b2,[nilS.v,nilS.v,nilS.v,nilS.v],50⟩]]∧OwnL m 3 q87 s21 t_86.Rows∧OwnL m 3 q88 s22 t_86.Cols∧OwnD m 28 3 q89 s89 t_86.Lo∧OwnD m 28 3 q90 s90 t_86.Hi∧Rd m s1 p_c_91.code∧p_c_91.code = p_c.code) hl2 ⟨q21,q22,[],nilS,[],nilS,_,_,_,rfl,hF.sub ⟨rfl,rfl,rfl,rfl,rfl,rfl,trivial⟩,hS.sel [0,1,5,6,2,3,4] (by decide),h21,h22,(OwnD.nil (β:=Int) m 28 3),(OwnD.nil (β:=Int) m 28 3),h8,(hk8.trans hk5)⟩ ?_ ?_
  ·clear hF hS
   rintro s a w st ⟨q25,q26,q27,s27,q28,s28,i_23,t_24,p_c_29,rfl,hF,hS,h25,h26,h27,h28,h30,h30k⟩ hb2
   unfold spec_l1Cur_transport_l1 at hb2
   refine q_seq (q_seq (q_region (q_x (v:=(iV i_23)) hF hS (ex_move rfl) rfl rfl fun a hF=>q_x (v:=(iV (w64 (1 + t_4.1)))) hF hS (ex_move rfl) rfl rfl fun a hF=>q_x (v:=(.bool (decide (i_23 < (w64 (1 + t_4.1)))))) hF hS (ex_ibin rfl rfl rfl) rfl rfl fun a hF=>q_end (n_sq ?_))))
   rcases bcase (decide (i_23 < (w64 (1 + t_4.1)))) with hc3 | hc3
   ·have hb2:=cond_f hc3 hb2
    refine q_cond_f hF rfl hc3 (q_exit (x_sq ?_))
    obtain rfl:=someI hb2
    exact ⟨nofun,.inl ⟨q25,q26,q27,s27,q28,s28,_,_,rfl,rfl,hF.sub ⟨rfl,rfl,rfl,rfl,rfl,trivial⟩,hS,h25,h26,h27,h28,h30,h30k⟩⟩
   ·have hb2:=cond_t hc3 hb2
    refine q_cond_t hF rfl hc3 (q_skipc (n_sq (q_seq (q_block (q_seq (q_region (q_x (v:=nilS.v) hF hS (ex_assign rfl) rfl rfl fun a hF=>q_x (v:=nilS.v) hF hS (ex_assign rfl) rfl rfl fun a hF=>q_end (n_sq (q_seq (q_seq (q_region (q_x (v:=(iV 0)) hF hS (ex_assign rfl) rfl rfl fun a hF=>q_end (n_sq (q_block ?_))))))))))))))
    obtain ⟨o4,hl4,hb2⟩:=bindS hb2
    refine q_loop (fun (s : (List Int) × (List Int) × Int × impl_Transport × spec_l1Cur) a w=>∃ (q32 : Piece),∃ (s32 : Sl),∃ (q34 : Piece),∃ (s34 : Sl),∃ (q37 : Piece),∃ (q38 : Piece),∃ lo_31,∃ hi_33,∃ j_35,∃ t_36,∃ p_c_41,s = (lo_31,hi_33,j_35,t_36,p_c_41)∧Fr a 120 [(0,(.pointer (some ⟨b_p_c,0,none⟩))),(2,(.pointer (some ⟨b2,0,none⟩))),(3,(iV (w64 (1 + t_4.1)))),(4,(iV (w64 (1 + t_7.1)))),(5,(.pointer (some ⟨b19,0,none⟩))),(6,(iV i_23)),(7,s32.v),(8,s34.v),(9,(iV j_35))]∧St X w0 w m [q32,q34,q37,q38,q27,q28,[⟨b19,[s21.v,s22.v,s27.v,s28.v],50⟩],[⟨b_p_c,[s1.v,(iV p_c_41.at_),(.int .u64 p_c_41.seed.v)],90⟩],[⟨b2,[nilS.v,nilS.v,nilS.v,nilS.v],50⟩]]∧OwnL m 3 q32 s32 lo_31∧OwnL m 3 q34 s34 hi_33∧OwnL m 3 q37 s21 t_36.Rows∧OwnL m 3 q38 s22 t_36.Cols∧OwnD m 28 3 q27 s27 t_36.Lo∧t_36.Lo = t_24.Lo∧OwnD m 28 3 q28 s28 t_36.Hi∧t_36.Hi = t_24.Hi∧Rd m s1 p_c_41.code∧p_c_41.code = p_c.code) (fun (o : (List Int) × (List Int) × impl_Transport × spec_l1Cur) e a w=>∃ (q70 : Piece),∃ (s70 : Sl),∃ (q72 : Piece),∃ (s72 : Sl),∃ (q74 : Piece),∃ (q75 : Piece),∃ lo_69,∃ hi_71,∃ t_73,∃ p_c_78,o = (lo_69,hi_71,t_73,p_c_78)∧e = .exit 2∧Fr a 120 [(0,(.pointer (some ⟨b_p_c,0,none⟩))),(2,(.pointer (some ⟨b2,0,none⟩))),(3,(iV (w64 (1 + t_4.1)))),(4,(iV (w64 (1 + t_7.1)))),(5,(.pointer (some ⟨b19,0,none⟩))),(6,(iV i_23)),(7,s70.v),(8,s72.v)]∧St X w0 w m [q70,q72,q74,q75,q27,q28,[⟨b19,[s21.v,s22.v,s27.v,s28.v],50⟩],[⟨b_p_c,[s1.v,(iV p_c_78.at_),(.int .u64 p_c_78.seed.v)],90⟩],[⟨b2,[nilS.v,nilS.v,nilS.v,nilS.v],50⟩]]∧OwnL m 3 q70 s70 lo_69∧OwnL m 3 q72 s72 hi_71∧OwnL m 3 q74 s21 t_73.Rows∧OwnL m 3 q75 s22 t_73.Cols∧OwnD m 28 3 q27 s27 t_73.Lo∧t_73.Lo = t_24.Lo∧OwnD m 28 3 q28 s28 t_73.Hi∧t_73.Hi = t_24.Hi∧Rd m s1 p_c_78.code∧p_c_78.code = p_c.code) hl4 ⟨[],nilS,[],nilS,q25,q26,_,_,_,_,_,rfl,hF.sub ⟨rfl,rfl,rfl,rfl,rfl,rfl,rfl,rfl,rfl,trivial⟩,hS.sel [7,8,0,1,2,3,4,5,6] (by decide),(OwnL.nil (α:=Int) m 3),(OwnL.nil (α:=Int) m 3),h25,h26,h27,rfl,h28,rfl,h30,h30k⟩ ?_ ?_
    ·clear hF hS
     rintro s a w st ⟨q32,s32,q34,s34,q37,q38,lo_31,hi_33,j_35,t_36,p_c_41,rfl,hF,hS,h32,h34,h37,h38,h39,h39k,h40,h40k,h42,h42k⟩ hb4
     unfold spec_l1Cur_transport_l2 at hb4
     refine q_seq (q_seq (q_region (q_x (v:=(iV j_35)) hF hS (ex_move rfl) rfl rfl fun a hF=>q_x (v:=(iV (w64 (1 + t_7.1)))) hF hS (ex_move rfl) rfl rfl fun a hF=>q_x (v:=(.bool (decide (j_35 < (w64 (1 + t_7.1)))))) hF hS (ex_ibin rfl rfl rfl) rfl rfl fun a hF=>q_end (n_sq ?_))))
     rcases bcase (decide (j_35 < (w64 (1 + t_7.1)))) with hc5 | hc5
     ·have hb4:=cond_f hc5 hb4
      refine q_cond_f hF rfl hc5 (q_exit (x_sq ?_))
      obtain rfl:=someI hb4
      exact ⟨nofun,.inl ⟨q32,s32,q34,s34,q37,q38,_,_,_,_,rfl,rfl,hF.sub ⟨rfl,rfl,rfl,rfl,rfl,rfl,rfl,rfl,trivial⟩,hS,h32,h34,h37,h38,h39,h39k,h40,h40k,h42,h42k⟩⟩
     ·have hb4:=cond_t hc5 hb4
      refine q_cond_t hF rfl hc5 (q_skipc (n_sq (q_seq (q_block (q_seq (q_region (q_x (v:=(.pointer (some ⟨b_p_c,0,none⟩))) hF hS (ex_move rfl) rfl rfl fun a hF=>?_)))))))
      have hS : St _ _ _ _ [[⟨b_p_c,[s1.v,(iV p_c_41.at_),(.int .u64 p_c_41.seed.v)],90⟩],q32,q34,q37,q38,q27,q28,[⟨b19,[s21.v,s22.v,s27.v,s28.v],50⟩],[⟨b2,[nilS.v,nilS.v,nilS.v,nilS.v],50⟩]]:=hS.sel [7,0,1,2,3,4,5,6,8] (by decide)
      have hS43 : St _ _ _ _ ([[⟨b_p_c,[s1.v,(iV p_c_41.at_),(.int .u64 p_c_41.seed.v)],90⟩]]++[q32,q34,q37,q38,q27,q28,[⟨b19,[s21.v,s22.v,s27.v,s28.v],50⟩],[⟨b2,[nilS.v,nilS.v,nilS.v,nilS.v],50⟩]]):=hS
      have hE43:=hS43.enter
      obtain ⟨t_44,ht_44,hb4⟩:=bindS hb4
      refine q_do rfl fun _ hK=>wp_callX (vs:=[(.pointer (some ⟨b_p_c,0,none⟩)),(iV 5)]) hF Try.func106 (by kernel_rfl) rfl rfl rfl (c_spec_l1Cur_pick p_c_41 5 t_44 ht_44 _ m b_p_c s1 h42 _ hE43) fun a w _ hR hF=>hK _ _ ?_
      obtain ⟨rfl,hR43,hk45⟩:=hR
      have hS : St _ _ _ _ [[⟨b_p_c,[s1.v,(iV t_44.2.at_),(.int .u64 t_44.2.seed.v)],90⟩],q32,q34,q37,q38,q27,q28,[⟨b19,[s21.v,s22.v,s27.v,s28.v],50⟩],[⟨b2,[nilS.v,nilS.v,nilS.v,nilS.v],50⟩]]:=hS43.leaveF hR43
      have h45 : Rd m s1 t_44.2.code:=by rw [hk45]; exact h42
      refine q_x (v:=(iV t_44.1)) hF hS (ex_assign rfl) rfl rfl fun a hF=>q_end (n_sq (q_seq (q_region (q_x (v:=(iV t_44.1)) hF hS (ex_move rfl) rfl rfl fun a hF=>q_x (v:=(.pointer (some ⟨b_p_c,0,none⟩))) hF hS (ex_move rfl) rfl rfl fun a hF=>?_))))
      have hS46 : St _ _ _ _ ([[⟨b_p_c,[s1.v,(iV t_44.2.at_),(.int .u64 t_44.2.seed.v)],90⟩]]++[q32,q34,q37,q38,q27,q28,[⟨b19,[s21.v,s22.v,s27.v,s28.v],50⟩],[⟨b2,[nilS.v,nilS.v,nilS.v,nilS.v],50⟩]]):=hS
      have hE46:=hS46.enter
      obtain ⟨t_47,ht_47,hb4⟩:=bindS hb4
      refine q_do rfl fun _ hK=>wp_callX (vs:=[(.pointer (some ⟨b_p_c,0,none⟩)),(iV 4)]) hF Try.func106 (by kernel_rfl) rfl rfl rfl (c_spec_l1Cur_pick t_44.2 4 t_47 ht_47 _ m b_p_c s1 h45 _ hE46) fun a w _ hR hF=>hK _ _ ?_
      obtain ⟨rfl,hR46,hk48⟩:=hR
      have hS : St _ _ _ _ [[⟨b_p_c,[s1.v,(iV t_47.2.at_),(.int .u64 t_47.2.seed.v)],90⟩],q32,q34,q37,q38,q27,q28,[⟨b19,[s21.v,s22.v,s27.v,s28.v],50⟩],[⟨b2,[nilS.v,nilS.v,nilS.v,nilS.v],50⟩]]:=hS46.leaveF hR46
      have h48 : Rd m s1 t_47.2.code:=by rw [hk48]; exact h45
      refine q_x (v:=(iV (w64 (t_44.1 - t_47.1)))) hF hS (ex_ibin rfl rfl rfl) rfl rfl fun a hF=>?_
      obtain ⟨t_49,ht_49,hb4⟩:=bindS hb4
      refine q_call (vs:=[(iV 0),(iV (w64 (t_44.1 - t_47.1)))]) hF hS Try.func91 (by kernel_rfl) rfl rfl rfl (c_spec_l1Most 0 (w64 (t_44.1 - t_47.1)) t_49 ht_49 _ m hS.vis) ?_
      rintro a w _ rfl hF hS
      refine q_x (v:=(iV t_44.1)) hF hS (ex_move rfl) rfl rfl fun a hF=>q_x (v:=(.pointer (some ⟨b_p_c,0,none⟩))) hF hS (ex_move rfl) rfl rfl fun a hF=>?_
      have hS50 : St _ _ _ _ ([[⟨b_p_c,[s1.v,(iV t_47.2.at_),(.int .u64 t_47.2.seed.v)],90⟩]]++[q32,q34,q37,q38,q27,q28,[⟨b19,[s21.v,s22.v,s27.v,s28.v],50⟩],[⟨b2,[nilS.v,nilS.v,nilS.v,nilS.v],50⟩]]):=hS
      have hE50:=hS50.enter
      obtain ⟨t_51,ht_51,hb4⟩:=bindS hb4
      refine q_do rfl fun _ hK=>wp_callX (vs:=[(.pointer (some ⟨b_p_c,0,none⟩)),(iV 4)]) hF Try.func106 (by kernel_rfl) rfl rfl rfl (c_spec_l1Cur_pick t_47.2 4 t_51 ht_51 _ m b_p_c s1 h48 _ hE50) fun a w _ hR hF=>hK _ _ ?_
      obtain ⟨rfl,hR50,hk52⟩:=hR
      have hS : St _ _ _ _ [[⟨b_p_c,[s1.v,(iV t_51.2.at_),(.int .u64 t_51.2.seed.v)],90⟩],q32,q34,q37,q38,q27,q28,[⟨b19,[s21.v,s22.v,s27.v,s28.v],50⟩],[⟨b2,[nilS.v,nilS.v,nilS.v,nilS.v],50⟩]]:=hS50.leaveF hR50
      have h52 : Rd m s1 t_51.2.code:=by rw [hk52]; exact h48
      refine q_x (v:=(iV (w64 (t_44.1 + t_51.1)))) hF hS (ex_ibin rfl rfl rfl) rfl rfl fun a hF=>q_x (v:=(iV t_49)) hF hS (ex_assign rfl) rfl rfl fun a hF=>q_x (v:=(iV (w64 (t_44.1 + t_51.1)))) hF hS (ex_assign rfl) rfl rfl fun a hF=>q_end (n_sq (q_seq (q_region (q_x (v:=s32.v) hF hS (ex_move rfl) rfl rfl fun a hF=>q_x (v:=(iV t_49)) hF hS (ex_move rfl) rfl rfl fun a hF=>q_do rfl fun _ hK=>wp_buildSlice' (l:=([t_49] : List Int)) (cells:=[(iV t_49)]) hF hS Try.underlying28 inf3 rfl rfl (by kernel_rfl) rfl rfl rfl ⟨rfl,rfl⟩ rfl rfl fun a w q53 s53 hF hS h53 _=>hK _ _ ?_))))
      have hS : St _ _ _ _ [q32,q53,[⟨b_p_c,[s1.v,(iV t_51.2.at_),(.int .u64 t_51.2.seed.v)],90⟩],q34,q37,q38,q27,q28,[⟨b19,[s21.v,s22.v,s27.v,s28.v],50⟩],[⟨b2,[nilS.v,nilS.v,nilS.v,nilS.v],50⟩]]:=hS.sel [2,0,1,3,4,5,6,7,8,9] (by decide)
      obtain ⟨l_54,hl_54,hb4⟩:=bindS hb4
      refine q_do rfl fun _ hK=>wp_append hF hS h32 Try.underlying28 inf3 rfl rfl rfl rfl (h53.vw hS (j:=1) rfl) rfl (by decide) hl_54 rfl fun a w q55 s55 hF hS h55=>hK _ _ (q_x (v:=s55.v) hF hS (ex_assign rfl) rfl rfl fun a hF=>q_end (n_sq (q_seq (q_region (q_x (v:=s34.v) hF hS (ex_move rfl) rfl rfl fun a hF=>q_x (v:=(iV (w64 (t_44.1 + t_51.1)))) hF hS (ex_move rfl) rfl rfl fun a hF=>q_do rfl fun _ hK=>wp_buildSlice' (l:=([(w64 (t_44.1 + t_51.1))] : List Int)) (cells:=[(iV (w64 (t_44.1 + t_51.1)))]) hF hS Try.underlying28 inf3 rfl rfl (by kernel_rfl) rfl rfl rfl ⟨rfl,rfl⟩ rfl rfl fun a w q56 s56 hF hS h56 _=>hK _ _ ?_)))))
      have hS : St _ _ _ _ [q34,q56,q55,q53,[⟨b_p_c,[s1.v,(iV t_51.2.at_),(.int .u64 t_51.2.seed.v)],90⟩],q37,q38,q27,q28,[⟨b19,[s21.v,s22.v,s27.v,s28.v],50⟩],[⟨b2,[nilS.v,nilS.v,nilS.v,nilS.v],50⟩]]:=hS.sel [4,0,1,2,3,5,6,7,8,9,10] (by decide)
      obtain ⟨l_57,hl_57,hb4⟩:=bindS hb4
      refine q_do rfl fun _ hK=>wp_append hF hS h34 Try.underlying28 inf3 rfl rfl rfl rfl (h56.vw hS (j:=1) rfl) rfl (by decide) hl_57 rfl fun a w q58 s58 hF hS h58=>hK _ _ (q_x (v:=s58.v) hF hS (ex_assign rfl) rfl rfl fun a hF=>q_end (n_sq (q_seq (q_region (q_x (v:=(.pointer (some ⟨b19,0,none⟩))) hF hS (ex_fieldAddr Try.underlying50 rfl sz28 rfl rfl) rfl rfl fun a hF=>q_x (v:=s21.v) hF hS (ex_load1 9 0 Try.underlying28 rfl rfl rfl rfl) rfl rfl fun a hF=>q_x (v:=(iV i_23)) hF hS (ex_move rfl) rfl rfl fun a hF=>?_)))))
      obtain ⟨e_59,he_59,hb4⟩:=bindS hb4
      obtain ⟨vs60,at60,d60⟩:=h37.at he_59 1 rfl
      obtain rfl : vs60 = [(iV e_59)]:=d60
      refine q_x (v:=(elP s21 (i_23.toNat * 1))) hF hS (ex_indexAddr Try.underlying28 sz3 rfl rfl (h37.idx he_59)) rfl rfl fun a hF=>q_x (v:=(iV e_59)) hF hS (ex_loadE1 0 Try.underlying3 rfl rfl (at60.at 5 rfl) rfl rfl) rfl rfl fun a hF=>q_x (v:=(iV t_44.1)) hF hS (ex_move rfl) rfl rfl fun a hF=>q_x (v:=(iV (w64 (e_59 + t_44.1)))) hF hS (ex_ibin rfl rfl rfl) rfl rfl fun a hF=>?_
      obtain ⟨e_61,he_61,hb4⟩:=bindS hb4
      obtain ⟨vs62,at62,d62⟩:=h37.at he_61 1 rfl
      obtain rfl : vs62 = [(iV e_61)]:=d62
      refine q_x (v:=(elP s21 (i_23.toNat * 1))) hF hS (ex_indexAddr Try.underlying28 sz3 rfl rfl (h37.idx he_61)) rfl rfl fun a hF=>?_
      have hS : St _ _ _ _ [q37,q58,q56,q55,q53,[⟨b_p_c,[s1.v,(iV t_51.2.at_),(.int .u64 t_51.2.seed.v)],90⟩],q38,q27,q28,[⟨b19,[s21.v,s22.v,s27.v,s28.v],50⟩],[⟨b2,[nilS.v,nilS.v,nilS.v,nilS.v],50⟩]]:=hS.sel [5,0,1,2,3,4,6,7,8,9,10] (by decide)
      refine q_do rfl fun _ hK=>wp_storeE (e':=(w64 (e_59 + t_44.1))) (us:=[(iV (w64 (e_59 + t_44.1)))]) (vs:=[(iV e_61)]) 0 hF hS h37 sz3 rfl rfl rfl rfl rfl rfl rfl he_61 at62 rfl rfl rfl fun w q63 hS h63=>hK _ _ (q_end (n_sq (q_region (q_x (v:=(.pointer (some ⟨b19,1,none⟩))) hF hS (ex_fieldAddr Try.underlying50 rfl sz28 rfl rfl) rfl rfl fun a hF=>q_x (v:=s22.v) hF hS (ex_load1 9 0 Try.underlying28 rfl rfl rfl rfl) rfl rfl fun a hF=>q_x (v:=(iV j_35)) hF hS (ex_move rfl) rfl rfl fun a hF=>?_))))
      obtain ⟨e_64,he_64,hb4⟩:=bindS hb4
      obtain ⟨vs65,at65,d65⟩:=h38.at he_64 1 rfl
      obtain rfl : vs65 = [(iV e_64)]:=d65
      refine q_x (v:=(elP s22 (j_35.toNat * 1))) hF hS (ex_indexAddr Try.underlying28 sz3 rfl rfl (h38.idx he_64)) rfl rfl fun a hF=>q_x (v:=(iV e_64)) hF hS (ex_loadE1 0 Try.underlying3 rfl rfl (at65.at 6 rfl) rfl rfl) rfl rfl fun a hF=>q_x (v:=(iV t_44.1)) hF hS (ex_move rfl) rfl rfl fun a hF=>q_x (v:=(iV (w64 (e_64 + t_44.1)))) hF hS (ex_ibin rfl rfl rfl) rfl rfl fun a hF=>?_
      obtain ⟨e_66,he_66,hb4⟩:=bindS hb4
      obtain ⟨vs67,at67,d67⟩:=h38.at he_66 1 rfl
      obtain rfl : vs67 = [(iV e_66)]:=d67
      refine q_x (v:=(elP s22 (j_35.toNat * 1))) hF hS (ex_indexAddr Try.underlying28 sz3 rfl rfl (h38.idx he_66)) rfl rfl fun a hF=>?_
      have hS : St _ _ _ _ [q38,q63,q58,q56,q55,q53,[⟨b_p_c,[s1.v,(iV t_51.2.at_),(.int .u64 t_51.2.seed.v)],90⟩],q27,q28,[⟨b19,[s21.v,s22.v,s27.v,s28.v],50⟩],[⟨b2,[nilS.v,nilS.v,nilS.v,nilS.v],50⟩]]:=hS.sel [6,0,1,2,3,4,5,7,8,9,10] (by decide)
      refine q_do rfl fun _ hK=>wp_storeE (e':=(w64 (e_64 + t_44.1))) (us:=[(iV (w64 (e_64 + t_44.1)))]) (vs:=[(iV e_66)]) 0 hF hS h38 sz3 rfl rfl rfl rfl rfl rfl rfl he_66 at67 rfl rfl rfl fun w q68 hS h68=>hK _ _ (q_end (n_ib (n_sq (q_region (q_x (v:=(iV j_35)) hF hS (ex_move rfl) rfl rfl fun a hF=>q_x (v:=(iV (w64 (j_35 + 1)))) hF hS (ex_ibin rfl rfl rfl) rfl rfl fun a hF=>q_x (v:=(iV (w64 (j_35 + 1)))) hF hS (ex_assign rfl) rfl rfl fun a hF=>q_end ?_)))))
      obtain rfl:=someI hb4
      exact ⟨rfl,q55,s55,q58,s58,q63,q68,_,_,_,_,_,rfl,hF.sub ⟨rfl,rfl,rfl,rfl,rfl,rfl,rfl,rfl,rfl,trivial⟩,hS.sel [4,2,1,0,7,8,9,6,10] (by decide),h55,h58,h63,h68,h39,h39k,h40,h40k,h52,(hk52.trans (hk48.trans (hk45.trans h42k)))⟩
    ·rintro e a w ⟨q70,s70,q72,s72,q74,q75,lo_69,hi_71,t_73,p_c_78,rfl,rfl,hF,hS,h70,h72,h74,h75,h76,h76k,h77,h77k,h79,h79k⟩
     refine x_ib (n_sq ?_)
     refine q_seq (q_region (q_x (v:=(.pointer (some ⟨b19,2,none⟩))) hF hS (ex_fieldAddr Try.underlying50 rfl sz23 rfl rfl) rfl rfl fun a hF=>q_x (v:=s27.v) hF hS (ex_load1 6 0 Try.underlying23 rfl rfl rfl rfl) rfl rfl fun a hF=>q_x (v:=s70.v) hF hS (ex_move rfl) rfl rfl fun a hF=>q_do rfl fun _ hK=>wp_build1D hF hS h70 Try.underlying23 inf28 rfl rfl rfl fun a w q80 s80 hF hS h80 _=>hK _ _ ?_))
     have hS : St _ _ _ _ [q27,q80,q72,q74,q75,q28,[⟨b19,[s21.v,s22.v,s27.v,s28.v],50⟩],[⟨b_p_c,[s1.v,(iV p_c_78.at_),(.int .u64 p_c_78.seed.v)],90⟩],[⟨b2,[nilS.v,nilS.v,nilS.v,nilS.v],50⟩]]:=hS.sel [4,0,1,2,3,5,6,7,8] (by decide)
     obtain ⟨l_81,hl_81,hb2⟩:=bindS hb2
     refine q_do rfl fun _ hK=>wp_appendD hF hS h76 h80 Try.underlying23 inf28 rfl rfl rfl (by decide) hl_81 rfl fun a w q82 s82 hF hS h82=>hK _ _ (q_x (v:=(.pointer (some ⟨b19,2,none⟩))) hF hS (ex_fieldAddr Try.underlying50 rfl sz23 rfl rfl) rfl rfl fun a hF=>q_store (vs:=[s82.v]) (cs':=[s21.v,s22.v,s82.v,s28.v]) 5 0 hF hS sz23 rfl rfl rfl rfl rfl rfl rfl rfl fun a w hF hS=>q_end (n_sq (q_region (q_x (v:=(.pointer (some ⟨b19,3,none⟩))) hF hS (ex_fieldAddr Try.underlying50 rfl sz23 rfl rfl) rfl rfl fun a hF=>q_x (v:=s28.v) hF hS (ex_load1 5 0 Try.underlying23 rfl rfl rfl rfl) rfl rfl fun a hF=>q_x (v:=s72.v) hF hS (ex_move rfl) rfl rfl fun a hF=>?_))))
     have hS : St _ _ _ _ [q72,q82,q74,q75,q28,[⟨b19,[s21.v,s22.v,s82.v,s28.v],50⟩],[⟨b_p_c,[s1.v,(iV p_c_78.at_),(.int .u64 p_c_78.seed.v)],90⟩],[⟨b2,[nilS.v,nilS.v,nilS.v,nilS.v],50⟩]]:=hS.sel [1,0,2,3,4,5,6,7] (by decide)
     refine q_do rfl fun _ hK=>wp_build1D hF hS h72 Try.underlying23 inf28 rfl rfl rfl fun a w q83 s83 hF hS h83 _=>hK _ _ ?_
     have hS : St _ _ _ _ [q28,q83,q82,q74,q75,[⟨b19,[s21.v,s22.v,s82.v,s28.v],50⟩],[⟨b_p_c,[s1.v,(iV p_c_78.at_),(.int .u64 p_c_78.seed.v)],90⟩],[⟨b2,[nilS.v,nilS.v,nilS.v,nilS.v],50⟩]]:=hS.sel [4,0,1,2,3,5,6,7] (by decide)
     obtain ⟨l_84,hl_84,hb2⟩:=bindS hb2
     refine q_do rfl fun _ hK=>wp_appendD hF hS h77 h83 Try.underlying23 inf28 rfl rfl rfl (by decide) hl_84 rfl fun a w q85 s85 hF hS h85=>hK _ _ (q_x (v:=(.pointer (some ⟨b19,3,none⟩))) hF hS (ex_fieldAddr Try.underlying50 rfl sz23 rfl rfl) rfl rfl fun a hF=>q_store (vs:=[s85.v]) (cs':=[s21.v,s22.v,s82.v,s85.v]) 4 0 hF hS sz23 rfl rfl rfl rfl rfl rfl rfl rfl fun a w hF hS=>q_end (n_ib (n_sq (q_region (q_x (v:=(iV i_23)) hF hS (ex_move rfl) rfl rfl fun a hF=>q_x (v:=(iV (w64 (i_23 + 1)))) hF hS (ex_ibin rfl rfl rfl) rfl rfl fun a hF=>q_x (v:=(iV (w64 (i_23 + 1)))) hF hS (ex_assign rfl) rfl rfl fun a hF=>q_end ?_)))))
     obtain rfl:=someI hb2
     exact ⟨rfl,q74,q75,q82,s82,q85,s85,_,_,_,rfl,hF.sub ⟨rfl,rfl,rfl,rfl,rfl,rfl,trivial⟩,hS.sel [2,3,1,0,4,5,6] (by decide),h74,h75,h82,h85,h79,h79k⟩
  ·rintro e a w ⟨q87,q88,q89,s89,q90,s90,t_86,p_c_91,rfl,rfl,hF,hS,h87,h88,h89,h90,h92,h92k⟩
   refine x_ib (n_sq ?_)
   refine q_seq (q_seq (q_region (q_x (v:=(.pointer (some ⟨b_p_c,0,none⟩))) hF hS (ex_move rfl) rfl rfl fun a hF=>?_)))
   have hS : St _ _ _ _ [[⟨b_p_c,[s1.v,(iV p_c_91.at_),(.int .u64 p_c_91.seed.v)],90⟩],q87,q88,q89,q90,[⟨b19,[s21.v,s22.v,s89.v,s90.v],50⟩],[⟨b2,[nilS.v,nilS.v,nilS.v,nilS.v],50⟩]]:=hS.sel [5,0,1,2,3,4,6] (by decide)
   have hS93 : St _ _ _ _ ([[⟨b_p_c,[s1.v,(iV p_c_91.at_),(.int .u64 p_c_91.seed.v)],90⟩]]++[q87,q88,q89,q90,[⟨b19,[s21.v,s22.v,s89.v,s90.v],50⟩],[⟨b2,[nilS.v,nilS.v,nilS.v,nilS.v],50⟩]]):=hS
   have hE93:=hS93.enter
   obtain ⟨t_94,ht_94,hr⟩:=bindS hr
   refine q_do rfl fun _ hK=>wp_callX (vs:=[(.pointer (some ⟨b_p_c,0,none⟩)),(iV 6)]) hF Try.func106 (by kernel_rfl) rfl rfl rfl (c_spec_l1Cur_pick p_c_91 6 t_94 ht_94 _ m b_p_c s1 h92 _ hE93) fun a w _ hR hF=>hK _ _ ?_
   obtain ⟨rfl,hR93,hk95⟩:=hR
   have hS : St _ _ _ _ [[⟨b_p_c,[s1.v,(iV t_94.2.at_),(.int .u64 t_94.2.seed.v)],90⟩],q87,q88,q89,q90,[⟨b19,[s21.v,s22.v,s89.v,s90.v],50⟩],[⟨b2,[nilS.v,nilS.v,nilS.v,nilS.v],50⟩]]:=hS93.leaveF hR93
   have h95 : Rd m s1 t_94.2.code:=by rw [hk95]; exact h92
   refine q_end (n_sq (q_block (q_seq (q_region (q_x (v:=(.bool (t_94.1 == 0))) hF hS (ex_ibin rfl rfl rfl) rfl rfl fun a hF=>q_x (v:=(.bool (t_94.1 == 0))) hF hS (ex_assign rfl) rfl rfl fun a hF=>q_end (n_sq ?_))))))
   obtain ⟨j6,hj6,hr⟩:=bindS hr
   refine q_join (fun a w=>∃ (q124 : Piece),∃ (q125 : Piece),∃ p_c_121,∃ t_123,j6 = (p_c_121,t_123)∧Fr a 120 [(2,(.pointer (some ⟨b2,0,none⟩))),(5,(.pointer (some ⟨b19,0,none⟩)))]∧St X w0 w m [q124,q125,q89,q90,[⟨b_p_c,[s1.v,(iV p_c_121.at_),(.int .u64 p_c_121.seed.v)],90⟩],[⟨b19,[s21.v,s22.v,s89.v,s90.v],50⟩],[⟨b2,[nilS.v,nilS.v,nilS.v,nilS.v],50⟩]]∧Rd m s1 p_c_121.code∧p_c_121.code = p_c.code∧OwnL m 3 q124 s21 t_123.Rows∧OwnL m 3 q125 s22 t_123.Cols∧OwnD m 28 3 q89 s89 t_123.Lo∧OwnD m 28 3 q90 s90 t_123.Hi) ?_ ?_
   ·rcases bcase (t_94.1 == 0) with hc7 | hc7
    ·have hj6:=cond_f hc7 hj6
     refine q_cond_f hF rfl hc7 (q_seq (q_region (q_x (v:=(.bool (t_94.1 == 1))) hF hS (ex_ibin rfl rfl rfl) rfl rfl fun a hF=>q_x (v:=(.bool (t_94.1 == 1))) hF hS (ex_assign rfl) rfl rfl fun a hF=>q_end (n_sq ?_))))
     obtain ⟨j8,hj8,hj6⟩:=bindS hj6
     refine q_join (fun a w=>∃ (q107 : Piece),∃ p_c_104,∃ t_106,j8 = (p_c_104,t_106)∧Fr a 120 [(2,(.pointer (some ⟨b2,0,none⟩))),(5,(.pointer (some ⟨b19,0,none⟩)))]∧St X w0 w m [q107,q88,q89,q90,[⟨b_p_c,[s1.v,(iV p_c_104.at_),(.int .u64 p_c_104.seed.v)],90⟩],[⟨b19,[s21.v,s22.v,s89.v,s90.v],50⟩],[⟨b2,[nilS.v,nilS.v,nilS.v,nilS.v],50⟩]]∧Rd m s1 p_c_104.code∧p_c_104.code = p_c.code∧OwnL m 3 q107 s21 t_106.Rows∧OwnL m 3 q88 s22 t_106.Cols∧OwnD m 28 3 q89 s89 t_106.Lo∧OwnD m 28 3 q90 s90 t_106.Hi) ?_ ?_
     ·rcases bcase (t_94.1 == 1) with hc9 | hc9
      ·have hj8:=cond_f hc9 hj8
       refine q_cond_f hF rfl hc9 (q_skipc (n_jn ?_))
       obtain rfl:=someI hj8
       exact ⟨q87,_,_,rfl,hF.sub ⟨rfl,rfl,trivial⟩,hS.sel [1,2,3,4,0,5,6] (by decide),h95,(hk95.trans h92k),h87,h88,h89,h90⟩
      ·have hj8:=cond_t hc9 hj8
       refine q_cond_t hF rfl hc9 (e_region ⟨[4,9],[b19],m⟩ mixed fun w' hw'=>?_)
       have hS:=hS.below hw'
       refine e_p (v:=(.pointer (some ⟨b19,0,none⟩))) 0 hF rfl (ex_fieldAddr Try.underlying50 rfl sz28 rfl rfl) rfl rfl (by kernel_rfl) (by kernel_rfl) (by kernel_rfl) fun a hF=>e_xb (v:=s21.v) 1 5 hF hS (.head _) rfl rfl (ex_load1 0 0 Try.underlying28 rfl rfl rfl rfl) rfl rfl (by kernel_rfl) (by kernel_rfl) (by kernel_rfl) fun a hF=>e_p (v:=(.pointer (some ⟨b_p_c,0,none⟩))) 2 hF rfl (ex_move rfl) rfl rfl (by kernel_rfl) (by kernel_rfl) (by kernel_rfl) fun a hF=>e_p (v:=(iV (w64 (1 + t_4.1)))) 3 hF rfl (ex_move rfl) rfl rfl (by kernel_rfl) (by kernel_rfl) (by kernel_rfl) fun a hF=>e_one 4 (by kernel_rfl) ?_
       have hS96 : St _ _ _ _ ([[⟨b_p_c,[s1.v,(iV t_94.2.at_),(.int .u64 t_94.2.seed.v)],90⟩]]++[q87,q88,q89,q90,[⟨b19,[s21.v,s22.v,s89.v,s90.v],50⟩],[⟨b2,[nilS.v,nilS.v,nilS.v,nilS.v],50⟩]]):=hS
       have hE96:=hS96.enter
       obtain ⟨t_97,ht_97,hj8⟩:=bindS hj8
       have hSo:=hS
       refine e_opl rfl rfl rfl fun _ hK=>wp_callX (vs:=[(.pointer (some ⟨b_p_c,0,none⟩)),(iV (w64 (1 + t_4.1)))]) hF Try.func106 (by kernel_rfl) rfl rfl rfl (c_spec_l1Cur_pick t_94.2 (w64 (1 + t_4.1)) t_97 ht_97 _ m b_p_c s1 h95 _ hE96) fun a w _ hR hF=>hK _ _ ?_
       obtain ⟨rfl,hR96,hk98⟩:=hR
       have hS : St _ _ _ _ [[⟨b_p_c,[s1.v,(iV t_97.2.at_),(.int .u64 t_97.2.seed.v)],90⟩],q87,q88,q89,q90,[⟨b19,[s21.v,s22.v,s89.v,s90.v],50⟩],[⟨b2,[nilS.v,nilS.v,nilS.v,nilS.v],50⟩]]:=hS96.leaveF hR96
       have h98 : Rd m s1 t_97.2.code:=by rw [hk98]; exact h95
       refine ⟨⟨kpC hSo hS 5 5 rfl rfl kpN,fun _=>hS.vis.of_le (Mem.le.refl _)⟩,?_⟩
       obtain ⟨e_99,he_99,hj8⟩:=bindS hj8
       obtain ⟨vs100,at100,d100⟩:=h87.at he_99 1 rfl
       obtain rfl : vs100 = [(iV e_99)]:=d100
       refine e_p (v:=(elP s21 (t_97.1.toNat * 1))) 5 hF rfl (ex_indexAddr Try.underlying28 sz3 rfl rfl (h87.idx he_99)) rfl rfl (by kernel_rfl) (by kernel_rfl) (by kernel_rfl) fun a hF=>e_x (v:=(iV e_99)) 6 hF hS rfl (ex_loadE1 0 Try.underlying3 rfl rfl (at100.at 1 rfl) rfl rfl) rfl rfl (by kernel_rfl) (by kernel_rfl) (by kernel_rfl) (by kernel_rfl) fun a hF=>e_p (v:=(iV (w64 (e_99 + 1)))) 7 hF rfl (ex_ibin rfl rfl rfl) rfl rfl (by kernel_rfl) (by kernel_rfl) (by kernel_rfl) fun a hF=>?_
       obtain ⟨e_101,he_101,hj8⟩:=bindS hj8
       obtain ⟨vs102,at102,d102⟩:=h87.at he_101 1 rfl
       obtain rfl : vs102 = [(iV e_101)]:=d102
       refine e_p (v:=(elP s21 (t_97.1.toNat * 1))) 8 hF rfl (ex_indexAddr Try.underlying28 sz3 rfl rfl (h87.idx he_101)) rfl rfl (by kernel_rfl) (by kernel_rfl) (by kernel_rfl) fun a hF=>e_one 9 (by kernel_rfl) ?_
       have hS : St _ _ _ _ [q87,[⟨b_p_c,[s1.v,(iV t_97.2.at_),(.int .u64 t_97.2.seed.v)],90⟩],q88,q89,q90,[⟨b19,[s21.v,s22.v,s89.v,s90.v],50⟩],[⟨b2,[nilS.v,nilS.v,nilS.v,nilS.v],50⟩]]:=hS.sel [1,0,2,3,4,5,6] (by decide)
       have hSo:=hS
       refine e_opl rfl rfl rfl fun _ hK=>wp_storeE (e':=(w64 (e_99 + 1))) (us:=[(iV (w64 (e_99 + 1)))]) (vs:=[(iV e_101)]) 0 hF hS h87 sz3 rfl rfl rfl rfl rfl rfl rfl he_101 at102 rfl rfl rfl fun w q103 hS h103=>hK _ _ (⟨⟨kpC hSo hS 5 5 rfl rfl kpN,fun _=>hS.vis.of_le (Mem.le.refl _)⟩,?_⟩)
       refine e_end (by kernel_rfl) (n_jn ?_) _
       obtain rfl:=someI hj8
       exact ⟨q103,_,_,rfl,hF.sub ⟨rfl,rfl,trivial⟩,hS.sel [0,2,3,4,1,5,6] (by decide),h98,(hk98.trans (hk95.trans h92k)),h103,h88,h89,h90⟩
     ·rintro a w ⟨q107,p_c_104,t_106,rfl,hF,hS,h105,h105k,h107,h108,h109,h110⟩
      refine n_jn ?_
      obtain rfl:=someI hj6
      exact ⟨q107,q88,_,_,rfl,hF.sub ⟨rfl,rfl,trivial⟩,hS,h105,h105k,h107,h108,h109,h110⟩
    ·have hj6:=cond_t hc7 hj6
     refine q_cond_t hF rfl hc7 (q_seq (q_region (q_x (v:=(.pointer (some ⟨b_p_c,0,none⟩))) hF hS (ex_move rfl) rfl rfl fun a hF=>?_)))
     have hS96 : St _ _ _ _ ([[⟨b_p_c,[s1.v,(iV t_94.2.at_),(.int .u64 t_94.2.seed.v)],90⟩]]++[q87,q88,q89,q90,[⟨b19,[s21.v,s22.v,s89.v,s90.v],50⟩],[⟨b2,[nilS.v,nilS.v,nilS.v,nilS.v],50⟩]]):=hS
     have hE96:=hS96.enter
     obtain ⟨t_97,ht_97,hj6⟩:=bindS hj6
     refine q_do rfl fun _ hK=>wp_callX (vs:=[(.pointer (some ⟨b_p_c,0,none⟩)),(iV 3)]) hF Try.func106 (by kernel_rfl) rfl rfl rfl (c_spec_l1Cur_pick t_94.2 3 t_97 ht_97 _ m b_p_c s1 h95 _ hE96) fun a w _ hR hF=>hK _ _ ?_
     obtain ⟨rfl,hR96,hk98⟩:=hR
     have hS : St _ _ _ _ [[⟨b_p_c,[s1.v,(iV t_97.2.at_),(.int .u64 t_97.2.seed.v)],90⟩],q87,q88,q89,q90,[⟨b19,[s21.v,s22.v,s89.v,s90.v],50⟩],[⟨b2,[nilS.v,nilS.v,nilS.v,nilS.v],50⟩]]:=hS96.leaveF hR96
     have h98 : Rd m s1 t_97.2.code:=by rw [hk98]; exact h95
     refine q_x (v:=(iV t_97.1)) hF hS (ex_assign rfl) rfl rfl fun a hF=>q_end (n_sq (q_seq (e_region ⟨[4,10],[b19],m⟩ mixed fun w' hw'=>?_)))
     have hS:=hS.below hw'
     refine e_p (v:=(.pointer (some ⟨b19,0,none⟩))) 0 hF rfl (ex_fieldAddr Try.underlying50 rfl sz28 rfl rfl) rfl rfl (by kernel_rfl) (by kernel_rfl) (by kernel_rfl) fun a hF=>e_xb (v:=s21.v) 1 5 hF hS (.head _) rfl rfl (ex_load1 0 0 Try.underlying28 rfl rfl rfl rfl) rfl rfl (by kernel_rfl) (by kernel_rfl) (by kernel_rfl) fun a hF=>e_p (v:=(.pointer (some ⟨b_p_c,0,none⟩))) 2 hF rfl (ex_move rfl) rfl rfl (by kernel_rfl) (by kernel_rfl) (by kernel_rfl) fun a hF=>e_p (v:=(iV (w64 (1 + t_4.1)))) 3 hF rfl (ex_move rfl) rfl rfl (by kernel_rfl) (by kernel_rfl) (by kernel_rfl) fun a hF=>e_p (v:=(iV t_97.1)) 7 hF rfl (ex_move rfl) rfl rfl (by kernel_rfl) (by kernel_rfl) (by kernel_rfl) fun a hF=>e_one 4 (by kernel_rfl) ?_
     have hS102 : St _ _ _ _ ([[⟨b_p_c,[s1.v,(iV t_97.2.at_),(.int .u64 t_97.2.seed.v)],90⟩]]++[q87,q88,q89,q90,[⟨b19,[s21.v,s22.v,s89.v,s90.v],50⟩],[⟨b2,[nilS.v,nilS.v,nilS.v,nilS.v],50⟩]]):=hS
     have hE102:=hS102.enter
     obtain ⟨t_103,ht_103,hj6⟩:=bindS hj6
     have hSo:=hS
     refine e_opl rfl rfl rfl fun _ hK=>wp_callX (vs:=[(.pointer (some ⟨b_p_c,0,none⟩)),(iV (w64 (1 + t_4.1)))]) hF Try.func106 (by kernel_rfl) rfl rfl rfl (c_spec_l1Cur_pick t_97.2 (w64 (1 + t_4.1)) t_103 ht_103 _ m b_p_c s1 h98 _ hE102) fun a w _ hR hF=>hK _ _ ?_
     obtain ⟨rfl,hR102,hk104⟩:=hR
     have hS : St _ _ _ _ [[⟨b_p_c,[s1.v,(iV t_103.2.at_),(.int .u64 t_103.2.seed.v)],90⟩],q87,q88,q89,q90,[⟨b19,[s21.v,s22.v,s89.v,s90.v],50⟩],[⟨b2,[nilS.v,nilS.v,nilS.v,nilS.v],50⟩]]:=hS102.leaveF hR102
     have h104 : Rd m s1 t_103.2.code:=by rw [hk104]; exact h98
     refine ⟨⟨kpC hSo hS 5 5 rfl rfl kpN,fun _=>hS.vis.of_le (Mem.le.refl _)⟩,?_⟩
     obtain ⟨e_105,he_105,hj6⟩:=bindS hj6
     obtain ⟨vs106,at106,d106⟩:=h87.at he_105 1 rfl
     obtain rfl : vs106 = [(iV e_105)]:=d106
     refine e_p (v:=(elP s21 (t_103.1.toNat * 1))) 5 hF rfl (ex_indexAddr Try.underlying28 sz3 rfl rfl (h87.idx he_105)) rfl rfl (by kernel_rfl) (by kernel_rfl) (by kernel_rfl) fun a hF=>e_x (v:=(iV e_105)) 6 hF hS rfl (ex_loadE1 0 Try.underlying3 rfl rfl (at106.at 1 rfl) rfl rfl) rfl rfl (by kernel_rfl) (by kernel_rfl) (by kernel_rfl) (by kernel_rfl) fun a hF=>e_p (v:=(iV (w64 (e_105 + t_97.1)))) 8 hF rfl (ex_ibin rfl rfl rfl) rfl rfl (by kernel_rfl) (by kernel_rfl) (by kernel_rfl) fun a hF=>?_
     obtain ⟨e_107,he_107,hj6⟩:=bindS hj6
     obtain ⟨vs108,at108,d108⟩:=h87.at he_107 1 rfl
     obtain rfl : vs108 = [(iV e_107)]:=d108
     refine e_p (v:=(elP s21 (t_103.1.toNat * 1))) 9 hF rfl (ex_indexAddr Try.underlying28 sz3 rfl rfl (h87.idx he_107)) rfl rfl (by kernel_rfl) (by kernel_rfl) (by kernel_rfl) fun a hF=>e_one 10 (by kernel_rfl) ?_
     have hS : St _ _ _ _ [q87,[⟨b_p_c,[s1.v,(iV t_103.2.at_),(.int .u64 t_103.2.seed.v)],90⟩],q88,q89,q90,[⟨b19,[s21.v,s22.v,s89.v,s90.v],50⟩],[⟨b2,[nilS.v,nilS.v,nilS.v,nilS.v],50⟩]]:=hS.sel [1,0,2,3,4,5,6] (by decide)
     have hSo:=hS
     refine e_opl rfl rfl rfl fun _ hK=>wp_storeE (e':=(w64 (e_105 + t_97.1))) (us:=[(iV (w64 (e_105 + t_97.1)))]) (vs:=[(iV e_107)]) 0 hF hS h87 sz3 rfl rfl rfl rfl rfl rfl rfl he_107 at108 rfl rfl rfl fun w q109 hS h109=>hK _ _ (⟨⟨kpC hSo hS 5 5 rfl rfl kpN,fun _=>hS.vis.of_le (Mem.le.refl _)⟩,?_⟩)
     refine e_end (by kernel_rfl) (n_sq ?_) _
     refine e_region ⟨[4,10],[b19],m⟩ mixed fun w' hw'=>?_
     have hS:=hS.below hw'
     refine e_p (v:=(.pointer (some ⟨b19,1,none⟩))) 0 hF rfl (ex_fieldAddr Try.underlying50 rfl sz28 rfl rfl) rfl rfl (by kernel_rfl) (by kernel_rfl) (by kernel_rfl) fun a hF=>e_xb (v:=s22.v) 1 5 hF hS (.head _) rfl rfl (ex_load1 0 0 Try.underlying28 rfl rfl rfl rfl) rfl rfl (by kernel_rfl) (by kernel_rfl) (by kernel_rfl) fun a hF=>e_p (v:=(.pointer (some ⟨b_p_c,0,none⟩))) 2 hF rfl (ex_move rfl) rfl rfl (by kernel_rfl) (by kernel_rfl) (by kernel_rfl) fun a hF=>e_p (v:=(iV (w64 (1 + t_7.1)))) 3 hF rfl (ex_move rfl) rfl rfl (by kernel_rfl) (by kernel_rfl) (by kernel_rfl) fun a hF=>e_p (v:=(iV t_97.1)) 7 hF rfl (ex_move rfl) rfl rfl (by kernel_rfl) (by kernel_rfl) (by kernel_rfl) fun a hF=>e_one 4 (by kernel_rfl) ?_
     have hS : St _ _ _ _ [[⟨b_p_c,[s1.v,(iV t_103.2.at_),(.int .u64 t_103.2.seed.v)],90⟩],q109,q88,q89,q90,[⟨b19,[s21.v,s22.v,s89.v,s90.v],50⟩],[⟨b2,[nilS.v,nilS.v,nilS.v,nilS.v],50⟩]]:=hS.sel [1,0,2,3,4,5,6] (by decide)
     have hS113 : St _ _ _ _ ([[⟨b_p_c,[s1.v,(iV t_103.2.at_),(.int .u64 t_103.2.seed.v)],90⟩]]++[q109,q88,q89,q90,[⟨b19,[s21.v,s22.v,s89.v,s90.v],50⟩],[⟨b2,[nilS.v,nilS.v,nilS.v,nilS.v],50⟩]]):=hS
     have hE113:=hS113.enter
     obtain ⟨t_114,ht_114,hj6⟩:=bindS hj6
     have hSo:=hS
     refine e_opl rfl rfl rfl fun _ hK=>wp_callX (vs:=[(.pointer (some ⟨b_p_c,0,none⟩)),(iV (w64 (1 + t_7.1)))]) hF Try.func106 (by kernel_rfl) rfl rfl rfl (c_spec_l1Cur_pick t_103.2 (w64 (1 + t_7.1)) t_114 ht_114 _ m b_p_c s1 h104 _ hE113) fun a w _ hR hF=>hK _ _ ?_
     obtain ⟨rfl,hR113,hk115⟩:=hR
     have hS : St _ _ _ _ [[⟨b_p_c,[s1.v,(iV t_114.2.at_),(.int .u64 t_114.2.seed.v)],90⟩],q109,q88,q89,q90,[⟨b19,[s21.v,s22.v,s89.v,s90.v],50⟩],[⟨b2,[nilS.v,nilS.v,nilS.v,nilS.v],50⟩]]:=hS113.leaveF hR113
     have h115 : Rd m s1 t_114.2.code:=by rw [hk115]; exact h104
     refine ⟨⟨kpC hSo hS 5 5 rfl rfl kpN,fun _=>hS.vis.of_le (Mem.le.refl _)⟩,?_⟩
     obtain ⟨e_116,he_116,hj6⟩:=bindS hj6
     obtain ⟨vs117,at117,d117⟩:=h88.at he_116 1 rfl
     obtain rfl : vs117 = [(iV e_116)]:=d117
     refine e_p (v:=(elP s22 (t_114.1.toNat * 1))) 5 hF rfl (ex_indexAddr Try.underlying28 sz3 rfl rfl (h88.idx he_116)) rfl rfl (by kernel_rfl) (by kernel_rfl) (by kernel_rfl) fun a hF=>e_x (v:=(iV e_116)) 6 hF hS rfl (ex_loadE1 0 Try.underlying3 rfl rfl (at117.at 2 rfl) rfl rfl) rfl rfl (by kernel_rfl) (by kernel_rfl) (by kernel_rfl) (by kernel_rfl) fun a hF=>e_p (v:=(iV (w64 (e_116 + t_97.1)))) 8 hF rfl (ex_ibin rfl rfl rfl) rfl rfl (by kernel_rfl) (by kernel_rfl) (by kernel_rfl) fun a hF=>?_
     obtain ⟨e_118,he_118,hj6⟩:=bindS hj6
     obtain ⟨vs119,at119,d119⟩:=h88.at he_118 1 rfl
     obtain rfl : vs119 = [(iV e_118)]:=d119
     refine e_p (v:=(elP s22 (t_114.1.toNat * 1))) 9 hF rfl (ex_indexAddr Try.underlying28 sz3 rfl rfl (h88.idx he_118)) rfl rfl (by kernel_rfl) (by kernel_rfl) (by kernel_rfl) fun a hF=>e_one 10 (by kernel_rfl) ?_
     have hS : St _ _ _ _ [q88,[⟨b_p_c,[s1.v,(iV t_114.2.at_),(.int .u64 t_114.2.seed.v)],90⟩],q109,q89,q90,[⟨b19,[s21.v,s22.v,s89.v,s90.v],50⟩],[⟨b2,[nilS.v,nilS.v,nilS.v,nilS.v],50⟩]]:=hS.sel [2,0,1,3,4,5,6] (by decide)
     have hSo:=hS
     refine e_opl rfl rfl rfl fun _ hK=>wp_storeE (e':=(w64 (e_116 + t_97.1))) (us:=[(iV (w64 (e_116 + t_97.1)))]) (vs:=[(iV e_118)]) 0 hF hS h88 sz3 rfl rfl rfl rfl rfl rfl rfl he_118 at119 rfl rfl rfl fun w q120 hS h120=>hK _ _ (⟨⟨kpC hSo hS 5 5 rfl rfl kpN,fun _=>hS.vis.of_le (Mem.le.refl _)⟩,?_⟩)
     refine e_end (by kernel_rfl) (n_jn ?_) _
     obtain rfl:=someI hj6
     exact ⟨q109,q120,_,_,rfl,hF.sub ⟨rfl,rfl,trivial⟩,hS.sel [2,0,3,4,1,5,6] (by decide),h115,(hk115.trans (hk104.trans (hk98.trans (hk95.trans h92k)))),h109,h120,h89,h90⟩
   ·rintro a w ⟨q124,q125,p_c_121,t_123,rfl,hF,hS,h122,h122k,h124,h125,h126,h127⟩
    refine n_ib (n_sq ?_)
    refine q_seq (q_region (q_x (v:=(.agg #[s21.v,s22.v,s89.v,s90.v])) hF hS (ex_loadA (vs:=[s21.v,s22.v,s89.v,s90.v]) 5 0 Try.underlying50 rfl sz50 rfl rfl rfl rfl) rfl rfl fun a hF=>q_store (vs:=[s21.v,s22.v,s89.v,s90.v]) (cs':=[s21.v,s22.v,s89.v,s90.v]) 6 0 hF hS sz50 rfl rfl rfl rfl rfl rfl rfl rfl fun a w hF hS=>q_end (n_sq (q_ret ?_))))
    obtain rfl:=someI hr
    exact ret_ofX hF hS rfl (.cellA (us:=[s21.v,s22.v,s89.v,s90.v]) 6 0 Try.underlying50 rfl sz50 rfl rfl rfl rfl .nil) ⟨q124,q125,q89,q90,s21,s22,s89,s90,rfl,hS.sel [4,0,1,2,3] (by decide),h124,h125,h126,h127,h122k⟩

theorem c_spec_l1Cur_among (p_c : spec_l1Cur) (p_list : List Int) (r : Int × spec_l1Cur) (hr : spec_l1Cur_among p_c p_list = some r) (w0 : World) (m : Mem) (b_p_c : Nat) (s1 : Sl) (h1 : Rd m s1 p_c.code) (s2 : Sl) (h2 : Rd m s2 p_list) (X : List Nat) (hS : St X w0 w0 m [[⟨b_p_c,[s1.v,(iV p_c.at_),(.int .u64 p_c.seed.v)],90⟩]]) :
  RetX Try.prog 74 [(.pointer (some ⟨b_p_c,0,none⟩)),s2.v] w0 (fun v w=>v = (iV r.1)∧St X w0 w m [[⟨b_p_c,[s1.v,(iV r.2.at_),(.int .u64 r.2.seed.v)],90⟩]]∧r.2.code = p_c.code):=by
 unfold spec_l1Cur_among at hr
 refine ret_startX Try.func74 rfl 12 rfl rfl fun a hF=>q_seq (q_region (q_x (v:=(iV 0)) hF hS (ex_assign rfl) rfl rfl fun a hF=>q_end (n_sq (q_seq (q_region (q_x (v:=s2.v) hF hS (ex_move rfl) rfl rfl fun a hF=>q_x (v:=(.pointer (some ⟨b_p_c,0,none⟩))) hF hS (ex_move rfl) rfl rfl fun a hF=>q_x (v:=s2.v) hF hS (ex_move rfl) rfl rfl fun a hF=>q_x (v:=(iV (goLen p_list))) hF hS (ex_len Try.underlying28 rfl h2.len) rfl rfl fun a hF=>?_))))))
 have hS3 : St _ _ _ _ ([[⟨b_p_c,[s1.v,(iV p_c.at_),(.int .u64 p_c.seed.v)],90⟩]]++[]):=hS
 have hE3:=hS3.enter
 obtain ⟨t_4,ht_4,hr⟩:=bindS hr
 refine q_do rfl fun _ hK=>wp_callX (vs:=[(.pointer (some ⟨b_p_c,0,none⟩)),(iV (goLen p_list))]) hF Try.func106 (by kernel_rfl) rfl rfl rfl (c_spec_l1Cur_pick p_c (goLen p_list) t_4 ht_4 _ m b_p_c s1 h1 _ hE3) fun a w _ hR hF=>hK _ _ ?_
 obtain ⟨rfl,hR3,hk5⟩:=hR
 have hS : St _ _ _ _ [[⟨b_p_c,[s1.v,(iV t_4.2.at_),(.int .u64 t_4.2.seed.v)],90⟩]]:=hS3.leaveF hR3
 have h5 : Rd m s1 t_4.2.code:=by rw [hk5]; exact h1
 obtain ⟨e_6,he_6,hr⟩:=bindS hr
 obtain ⟨vs7,at7,d7⟩:=h2.at he_6 1 rfl
 obtain rfl : vs7 = [(iV e_6)]:=d7
 refine q_x (v:=(elP s2 (t_4.1.toNat * 1))) hF hS (ex_indexAddr Try.underlying28 sz3 rfl rfl (h2.idx he_6)) rfl rfl fun a hF=>q_x (v:=(iV e_6)) hF hS (ex_loadE1 0 Try.underlying3 rfl rfl ((at7).at) rfl rfl) rfl rfl fun a hF=>q_x (v:=(iV e_6)) hF hS (ex_assign rfl) rfl rfl fun a hF=>q_end (n_sq (q_ret ?_))
 obtain rfl:=someI hr
 exact ret_ofX hF hS rfl (.tmp rfl .nil) ⟨rfl,hS.sel [0] (by decide),hk5⟩

theorem c_spec_filled (p_m : Int) (p_n : Int) (p_sum : Int) (r : impl_Transport) (hr : spec_filled p_m p_n p_sum = some r) (w0 : World) (m : Mem) (hv : Vis m w0) :
  Ret Try.prog 185 [(iV p_m),(iV p_n),(iV p_sum)] w0 (fun v w=>∃ (m' : Mem) (q0' : Piece) (q1' : Piece) (q2' : Piece) (q3' : Piece) (s0' : Sl) (s1' : Sl) (s2' : Sl) (s3' : Sl),v = (.agg #[s0'.v,s1'.v,s2'.v,s3'.v])∧MLe [] w0.heap.size m m'∧St [] w0 w m' [q0',q1',q2',q3']∧OwnL m' 3 q0' s0' r.Rows∧OwnL m' 3 q1' s1' r.Cols∧OwnL m' 28 q2' s2' r.Lo∧OwnL m' 28 q3' s3' r.Hi):=by
 unfold spec_filled at hr
 refine ret_start Try.func185 rfl 69 rfl rfl m hv fun a hF hS=>q_seq (q_region (q_alloc (cs:=[nilS.v,nilS.v,nilS.v,nilS.v]) hF hS rfl rfl rfl fun a w b1 hF hS=>q_end (n_sq (q_seq (q_region (q_x (v:=(iV p_n)) hF hS (ex_move rfl) rfl rfl fun a hF=>?_))))))
 obtain ⟨l_2,hl_2,hr⟩:=bindS hr
 refine q_do rfl fun _ hK=>wp_make (z:=(0 : Int)) hF hS Try.underlying28 inf3 rfl rfl rfl rfl rfl (by decide) hl_2 rfl fun a w q3 s3 hF hS h3 _=>hK _ _ (q_x (v:=(.agg #[nilS.v,s3.v,nilS.v,nilS.v])) hF hS (ex_build (cells:=[nilS.v,s3.v,nilS.v,nilS.v]) rfl (by kernel_rfl)) rfl rfl fun a hF=>q_alloc (cs:=[nilS.v,nilS.v,nilS.v,nilS.v]) hF hS rfl rfl rfl fun a w b4 hF hS=>q_store (vs:=[nilS.v,s3.v,nilS.v,nilS.v]) (cs':=[nilS.v,s3.v,nilS.v,nilS.v]) 0 0 hF hS sz50 rfl rfl rfl rfl rfl rfl rfl rfl fun a w hF hS=>q_end (n_sq (q_seq (q_seq (q_region (q_x (v:=(iV 0)) hF hS (ex_assign rfl) rfl rfl fun a hF=>q_end (n_sq (q_block ?_))))))))
 obtain ⟨t_62,hl1,hr⟩:=bindS hr
 refine q_loop (fun (s : Int × impl_Transport) a w=>∃ (m11 : Mem),∃ (q7 : Piece),∃ (s7 : Sl),∃ (q8 : Piece),∃ (q9 : Piece),∃ (s9 : Sl),∃ (q10 : Piece),∃ (s10 : Sl),∃ i_5,∃ t_6,s = (i_5,t_6)∧Fr a 69 [(0,(iV p_m)),(1,(iV p_n)),(2,(iV p_sum)),(6,(.pointer (some ⟨b1,0,none⟩))),(7,(.pointer (some ⟨b4,0,none⟩))),(8,(iV i_5))]∧St [] w0 w m11 [q7,q8,q9,q10,[⟨b4,[s7.v,s3.v,s9.v,s10.v],50⟩],[⟨b1,[nilS.v,nilS.v,nilS.v,nilS.v],50⟩]]∧MLe [] w0.heap.size m m11∧OwnL m11 3 q7 s7 t_6.Rows∧OwnL m11 3 q8 s3 t_6.Cols∧OwnL m11 28 q9 s9 t_6.Lo∧OwnL m11 28 q10 s10 t_6.Hi) (fun (t_62 : impl_Transport) e a w=>∃ (m67 : Mem),∃ (q63 : Piece),∃ (s63 : Sl),∃ (q64 : Piece),∃ (q65 : Piece),∃ (s65 : Sl),∃ (q66 : Piece),∃ (s66 : Sl),e = .exit 0∧Fr a 69 [(6,(.pointer (some ⟨b1,0,none⟩))),(7,(.pointer (some ⟨b4,0,none⟩)))]∧St [] w0 w m67 [q63,q64,q65,q66,[⟨b4,[s63.v,s3.v,s65.v,s66.v],50⟩],[⟨b1,[nilS.v,nilS.v,nilS.v,nilS.v],50⟩]]∧MLe [] w0.heap.size m m67∧OwnL m67 3 q63 s63 t_62.Rows∧OwnL m67 3 q64 s3 t_62.Cols∧OwnL m67 28 q65 s65 t_62.Lo∧OwnL m67 28 q66 s66 t_62.Hi) hl1 ⟨m,[],nilS,q3,[],nilS,[],nilS,_,_,rfl,hF.sub ⟨rfl,rfl,rfl,rfl,rfl,rfl,trivial⟩,hS.sel [3,1,4,5,0,2] (by decide),(MLe.refl _ _),(OwnL.nil (α:=Int) m 3),h3,(OwnL.nil (α:=List Int) m 28),(OwnL.nil (α:=List Int) m 28)⟩ ?_ ?_
 ·clear hF hS
  rintro s a w st ⟨m11,q7,s7,q8,q9,s9,q10,s10,i_5,t_6,rfl,hF,hS,hm11,h7,h8,h9,h10⟩ hb1
  unfold spec_filled_l1 at hb1
  refine q_seq (q_seq (q_region (q_x (v:=(iV i_5)) hF hS (ex_move rfl) rfl rfl fun a hF=>q_x (v:=(iV p_m)) hF hS (ex_move rfl) rfl rfl fun a hF=>q_x (v:=(.bool (decide (i_5 < p_m)))) hF hS (ex_ibin rfl rfl rfl) rfl rfl fun a hF=>q_end (n_sq ?_))))
  rcases bcase (decide (i_5 < p_m)) with hc2 | hc2
  ·have hb1:=cond_f hc2 hb1
   refine q_cond_f hF rfl hc2 (q_exit (x_sq ?_))
   obtain rfl:=someI hb1
   exact ⟨nofun,.inl ⟨m11,q7,s7,q8,q9,s9,q10,s10,rfl,hF.sub ⟨rfl,rfl,trivial⟩,hS,hm11,h7,h8,h9,h10⟩⟩
  ·have hb1:=cond_t hc2 hb1
   refine q_cond_t hF rfl hc2 (q_skipc (n_sq (q_seq (q_block (q_seq (q_region (q_x (v:=(.pointer (some ⟨b4,0,none⟩))) hF hS (ex_fieldAddr Try.underlying50 rfl sz28 rfl rfl) rfl rfl fun a hF=>q_x (v:=s7.v) hF hS (ex_load1 4 0 Try.underlying28 rfl rfl rfl rfl) rfl rfl fun a hF=>q_x (v:=(iV p_sum)) hF hS (ex_move rfl) rfl rfl fun a hF=>q_do rfl fun _ hK=>wp_buildSlice' (l:=([p_sum] : List Int)) (cells:=[(iV p_sum)]) hF hS Try.underlying28 inf3 rfl rfl (by kernel_rfl) rfl rfl rfl ⟨rfl,rfl⟩ rfl rfl fun a w q12 s12 hF hS h12 _=>hK _ _ ?_)))))))
   have hS : St _ _ _ _ [q7,q12,q8,q9,q10,[⟨b4,[s7.v,s3.v,s9.v,s10.v],50⟩],[⟨b1,[nilS.v,nilS.v,nilS.v,nilS.v],50⟩]]:=hS.sel [1,0,2,3,4,5,6] (by decide)
   obtain ⟨l_13,hl_13,hb1⟩:=bindS hb1
   refine q_do rfl fun _ hK=>wp_append hF hS h7 Try.underlying28 inf3 rfl rfl rfl rfl (h12.vw hS (j:=1) rfl) rfl (by decide) hl_13 rfl fun a w q14 s14 hF hS h14=>hK _ _ (q_x (v:=(.pointer (some ⟨b4,0,none⟩))) hF hS (ex_fieldAddr Try.underlying50 rfl sz28 rfl rfl) rfl rfl fun a hF=>q_store (vs:=[s14.v]) (cs':=[s14.v,s3.v,s9.v,s10.v]) 5 0 hF hS sz28 rfl rfl rfl rfl rfl rfl rfl rfl fun a w hF hS=>q_end (n_sq (q_seq ?_)))
   obtain ⟨j3,hj3,hb1⟩:=bindS hb1
   refine q_join (fun a w=>∃ (q26 : Piece),∃ (s26 : Sl),∃ (q28 : Piece),∃ (s28 : Sl),∃ lo_25,∃ hi_27,j3 = (lo_25,hi_27)∧Fr a 69 [(0,(iV p_m)),(1,(iV p_n)),(2,(iV p_sum)),(6,(.pointer (some ⟨b1,0,none⟩))),(7,(.pointer (some ⟨b4,0,none⟩))),(8,(iV i_5)),(9,s26.v),(10,s28.v)]∧St [] w0 w m11 [q26,q28,q14,q8,q9,q10,[⟨b4,[s14.v,s3.v,s9.v,s10.v],50⟩],[⟨b1,[nilS.v,nilS.v,nilS.v,nilS.v],50⟩]]∧OwnL m11 3 q26 s26 lo_25∧OwnL m11 3 q28 s28 hi_27) ?_ ?_
   ·refine e_region ⟨[],[],m11⟩ mixed fun w' hw'=>?_
    have hS:=hS.below hw'
    refine e_p (v:=(iV p_n)) 0 hF rfl (ex_move rfl) rfl rfl (by kernel_rfl) (by kernel_rfl) (by kernel_rfl) fun a hF=>e_p (v:=(iV p_n)) 2 hF rfl (ex_move rfl) rfl rfl (by kernel_rfl) (by kernel_rfl) (by kernel_rfl) fun a hF=>?_
    obtain ⟨l_21,hl_21,hj3⟩:=bindS hj3
    obtain ⟨l_23,hl_23,hj3⟩:=bindS hj3
    refine e_all [1,3] (by kernel_rfl) rfl ⟨?_,?_,trivial⟩
    ·refine e_op rfl rfl fun _ hK=>wp_make (z:=(0 : Int)) hF hS Try.underlying28 inf3 rfl rfl rfl rfl rfl (by decide) hl_21 rfl fun a w q22 s22 hF hS h22 hb=>hK _ _ hb (e_p (v:=s22.v) 4 hF rfl (ex_assign rfl) rfl rfl (by kernel_rfl) (by kernel_rfl) (by kernel_rfl) fun a hF=>e_one 3 (by kernel_rfl) (e_op rfl rfl fun _ hK=>wp_make (z:=(0 : Int)) hF hS Try.underlying28 inf3 rfl rfl rfl rfl rfl (by decide) hl_23 rfl fun a w q24 s24 hF hS h24 hb=>hK _ _ hb (e_p (v:=s24.v) 5 hF rfl (ex_assign rfl) rfl rfl (by kernel_rfl) (by kernel_rfl) (by kernel_rfl) fun a hF=>e_end (by kernel_rfl) (n_jn ?_) _)))
     obtain rfl:=someI hj3
     exact ⟨q22,s22,q24,s24,_,_,rfl,hF.sub ⟨rfl,rfl,rfl,rfl,rfl,rfl,rfl,rfl,trivial⟩,hS.sel [1,0,2,4,5,6,7,8] (by decide),h22,h24⟩
    ·refine e_op rfl rfl fun _ hK=>wp_make (z:=(0 : Int)) hF hS Try.underlying28 inf3 rfl rfl rfl rfl rfl (by decide) hl_23 rfl fun a w q24 s24 hF hS h24 hb=>hK _ _ hb (e_one 1 (by kernel_rfl) (e_op rfl rfl fun _ hK=>wp_make (z:=(0 : Int)) hF hS Try.underlying28 inf3 rfl rfl rfl rfl rfl (by decide) hl_21 rfl fun a w q22 s22 hF hS h22 hb=>hK _ _ hb (e_p (v:=s22.v) 4 hF rfl (ex_assign rfl) rfl rfl (by kernel_rfl) (by kernel_rfl) (by kernel_rfl) fun a hF=>e_p (v:=s24.v) 5 hF rfl (ex_assign rfl) rfl rfl (by kernel_rfl) (by kernel_rfl) (by kernel_rfl) fun a hF=>e_end (by kernel_rfl) (n_jn ?_) _)))
     obtain rfl:=someI hj3
     exact ⟨q22,s22,q24,s24,_,_,rfl,hF.sub ⟨rfl,rfl,rfl,rfl,rfl,rfl,rfl,rfl,trivial⟩,hS.mask [true,true,true,false,true,true,true,true,true],h22,h24⟩
   ·rintro a w ⟨q26,s26,q28,s28,lo_25,hi_27,rfl,hF,hS,h26,h28⟩
    refine n_sq ?_
    refine q_seq (q_seq (q_region (q_x (v:=s28.v) hF hS (ex_move rfl) rfl rfl fun a hF=>q_x (v:=(iV (goLen hi_27))) hF hS (ex_len Try.underlying28 rfl h28.len) rfl rfl fun a hF=>q_x (v:=(iV 0)) hF hS (ex_move rfl) rfl rfl fun a hF=>q_end (n_sq (q_block ?_)))))
    obtain ⟨hi_35,hl4,hb1⟩:=bindS hb1
    refine q_loop (fun (s : (List Int) × Int) a w=>∃ (q30 : Piece),∃ hi_29,∃ t_31,s = (hi_29,t_31)∧Fr a 69 [(0,(iV p_m)),(1,(iV p_n)),(2,(iV p_sum)),(6,(.pointer (some ⟨b1,0,none⟩))),(7,(.pointer (some ⟨b4,0,none⟩))),(8,(iV i_5)),(9,s26.v),(10,s28.v),(32,(iV (goLen hi_27))),(33,(iV t_31))]∧St [] w0 w m11 [q30,q26,q14,q8,q9,q10,[⟨b4,[s14.v,s3.v,s9.v,s10.v],50⟩],[⟨b1,[nilS.v,nilS.v,nilS.v,nilS.v],50⟩]]∧OwnL m11 3 q30 s28 hi_29) (fun (hi_35 : (List Int)) e a w=>∃ (q36 : Piece),e = .exit 2∧Fr a 69 [(0,(iV p_m)),(1,(iV p_n)),(2,(iV p_sum)),(6,(.pointer (some ⟨b1,0,none⟩))),(7,(.pointer (some ⟨b4,0,none⟩))),(8,(iV i_5)),(9,s26.v),(10,s28.v)]∧St [] w0 w m11 [q26,q36,q14,q8,q9,q10,[⟨b4,[s14.v,s3.v,s9.v,s10.v],50⟩],[⟨b1,[nilS.v,nilS.v,nilS.v,nilS.v],50⟩]]∧OwnL m11 3 q36 s28 hi_35) hl4 ⟨q28,_,_,rfl,hF.sub ⟨rfl,rfl,rfl,rfl,rfl,rfl,rfl,rfl,rfl,rfl,trivial⟩,hS.sel [1,0,2,3,4,5,6,7] (by decide),h28⟩ ?_ ?_
    ·clear hF hS
     rintro s a w st ⟨q30,hi_29,t_31,rfl,hF,hS,h30⟩ hb4
     unfold spec_filled_l2 at hb4
     refine q_seq (q_region (q_x (v:=(.bool (decide (t_31 < (goLen hi_27))))) hF hS (ex_ibin rfl rfl rfl) rfl rfl fun a hF=>q_end (n_sq (q_seq ?_))))
     rcases bcase (decide (t_31 < (goLen hi_27))) with hc5 | hc5
     ·have hb4:=cond_f hc5 hb4
      refine q_cond_f hF rfl hc5 (q_exit (x_sq ?_))
      obtain rfl:=someI hb4
      exact ⟨nofun,.inl ⟨q30,rfl,hF.sub ⟨rfl,rfl,rfl,rfl,rfl,rfl,rfl,rfl,trivial⟩,hS.sel [1,0,2,3,4,5,6,7] (by decide),h30⟩⟩
     ·have hb4:=cond_t hc5 hb4
      refine q_cond_t hF rfl hc5 (q_skipc (n_sq (q_seq (q_block (q_seq (q_region (q_x (v:=(iV t_31)) hF hS (ex_move rfl) rfl rfl fun a hF=>q_x (v:=(iV t_31)) hF hS (ex_assign rfl) rfl rfl fun a hF=>q_end (n_sq (q_region (q_x (v:=s28.v) hF hS (ex_move rfl) rfl rfl fun a hF=>q_x (v:=(iV t_31)) hF hS (ex_move rfl) rfl rfl fun a hF=>?_))))))))))
      obtain ⟨e_32,he_32,hb4⟩:=bindS hb4
      obtain ⟨vs33,at33,d33⟩:=h30.at he_32 1 rfl
      obtain rfl : vs33 = [(iV e_32)]:=d33
      refine q_x (v:=(elP s28 (t_31.toNat * 1))) hF hS (ex_indexAddr Try.underlying28 sz3 rfl rfl (h30.idx he_32)) rfl rfl fun a hF=>q_do rfl fun _ hK=>wp_storeE (e':=1) (us:=[(iV 1)]) (vs:=[(iV e_32)]) 0 hF hS h30 sz3 rfl rfl rfl rfl rfl rfl rfl he_32 at33 rfl rfl rfl fun w q34 hS h34=>hK _ _ (q_end (n_ib (n_sq (q_region (q_x (v:=(iV (w64 (t_31 + 1)))) hF hS (ex_ibin rfl rfl rfl) rfl rfl fun a hF=>q_x (v:=(iV (w64 (t_31 + 1)))) hF hS (ex_move rfl) rfl rfl fun a hF=>q_end ?_)))))
      obtain rfl:=someI hb4
      exact ⟨rfl,q34,_,_,rfl,hF.sub ⟨rfl,rfl,rfl,rfl,rfl,rfl,rfl,rfl,rfl,rfl,trivial⟩,hS,h34⟩
    ·rintro e a w ⟨q36,rfl,hF,hS,h36⟩
     refine x_ib (n_sq ?_)
     refine q_seq (q_region (q_x (v:=(.pointer (some ⟨b4,2,none⟩))) hF hS (ex_fieldAddr Try.underlying50 rfl sz23 rfl rfl) rfl rfl fun a hF=>q_x (v:=s9.v) hF hS (ex_load1 6 0 Try.underlying23 rfl rfl rfl rfl) rfl rfl fun a hF=>q_x (v:=s26.v) hF hS (ex_move rfl) rfl rfl fun a hF=>?_))
     obtain ⟨m38,hm38,hS,hz38⟩:=hS.freeze
     have h38:=h26.froz hm38.le hz38
     refine q_do rfl fun _ hK=>wp_buildSlice' (l:=([lo_25] : List (List Int))) (cells:=[s26.v]) hF hS Try.underlying23 inf28 rfl rfl (by kernel_rfl) rfl rfl rfl ⟨⟨s26,rfl,h38⟩,rfl⟩ rfl rfl fun a w q37 s37 hF hS h37 _=>hK _ _ ?_
     have hS : St _ _ _ _ [q9,q37,q36,q14,q8,q10,[⟨b4,[s14.v,s3.v,s9.v,s10.v],50⟩],[⟨b1,[nilS.v,nilS.v,nilS.v,nilS.v],50⟩]]:=hS.sel [4,0,1,2,3,5,6,7] (by decide)
     obtain ⟨l_39,hl_39,hb1⟩:=bindS hb1
     refine q_do rfl fun _ hK=>wp_append hF hS (h9.mono hm38.le) Try.underlying23 inf28 rfl rfl rfl rfl (h37.vw hS (j:=1) rfl) rfl (by decide) hl_39 rfl fun a w q40 s40 hF hS h40=>hK _ _ (q_x (v:=(.pointer (some ⟨b4,2,none⟩))) hF hS (ex_fieldAddr Try.underlying50 rfl sz23 rfl rfl) rfl rfl fun a hF=>q_store (vs:=[s40.v]) (cs':=[s14.v,s3.v,s40.v,s10.v]) 6 0 hF hS sz23 rfl rfl rfl rfl rfl rfl rfl rfl fun a w hF hS=>q_end (n_sq (q_seq (q_region (q_x (v:=(.pointer (some ⟨b4,3,none⟩))) hF hS (ex_fieldAddr Try.underlying50 rfl sz23 rfl rfl) rfl rfl fun a hF=>q_x (v:=s10.v) hF hS (ex_load1 6 0 Try.underlying23 rfl rfl rfl rfl) rfl rfl fun a hF=>q_x (v:=s28.v) hF hS (ex_move rfl) rfl rfl fun a hF=>?_)))))
     have hS : St _ _ _ _ [q36,q40,q37,q14,q8,q10,[⟨b4,[s14.v,s3.v,s40.v,s10.v],50⟩],[⟨b1,[nilS.v,nilS.v,nilS.v,nilS.v],50⟩]]:=hS.sel [2,0,1,3,4,5,6,7] (by decide)
     obtain ⟨m42,hm42,hS,hz42⟩:=hS.freeze
     have h42:=(h36.mono hm38.le).froz hm42.le hz42
     refine q_do rfl fun _ hK=>wp_buildSlice' (l:=([hi_35] : List (List Int))) (cells:=[s28.v]) hF hS Try.underlying23 inf28 rfl rfl (by kernel_rfl) rfl rfl rfl ⟨⟨s28,rfl,h42⟩,rfl⟩ rfl rfl fun a w q41 s41 hF hS h41 _=>hK _ _ ?_
     have hS : St _ _ _ _ [q10,q41,q40,q37,q14,q8,[⟨b4,[s14.v,s3.v,s40.v,s10.v],50⟩],[⟨b1,[nilS.v,nilS.v,nilS.v,nilS.v],50⟩]]:=hS.sel [5,0,1,2,3,4,6,7] (by decide)
     obtain ⟨l_43,hl_43,hb1⟩:=bindS hb1
     refine q_do rfl fun _ hK=>wp_append hF hS ((h10.mono hm38.le).mono hm42.le) Try.underlying23 inf28 rfl rfl rfl rfl (h41.vw hS (j:=1) rfl) rfl (by decide) hl_43 rfl fun a w q44 s44 hF hS h44=>hK _ _ (q_x (v:=(.pointer (some ⟨b4,3,none⟩))) hF hS (ex_fieldAddr Try.underlying50 rfl sz23 rfl rfl) rfl rfl fun a hF=>q_store (vs:=[s44.v]) (cs':=[s14.v,s3.v,s40.v,s44.v]) 6 0 hF hS sz23 rfl rfl rfl rfl rfl rfl rfl rfl fun a w hF hS=>q_end (n_sq (q_seq (q_region (q_x (v:=(iV 0)) hF hS (ex_assign rfl) rfl rfl fun a hF=>q_end (n_sq (q_block ?_)))))))
     obtain ⟨t_57,hl6,hb1⟩:=bindS hb1
     refine q_loop (fun (s : Int × impl_Transport) a w=>∃ (q48 : Piece),∃ k_45,∃ t_46,s = (k_45,t_46)∧Fr a 69 [(0,(iV p_m)),(1,(iV p_n)),(2,(iV p_sum)),(6,(.pointer (some ⟨b1,0,none⟩))),(7,(.pointer (some ⟨b4,0,none⟩))),(8,(iV i_5)),(12,(iV k_45))]∧St [] w0 w m42 [q48,q44,q40,q14,[⟨b4,[s14.v,s3.v,s40.v,s44.v],50⟩],[⟨b1,[nilS.v,nilS.v,nilS.v,nilS.v],50⟩]]∧OwnL m42 3 q14 s14 t_46.Rows∧t_46.Rows = l_13∧OwnL m42 3 q48 s3 t_46.Cols∧OwnL m42 28 q40 s40 t_46.Lo∧t_46.Lo = l_39∧OwnL m42 28 q44 s44 t_46.Hi∧t_46.Hi = l_43) (fun (t_57 : impl_Transport) e a w=>∃ (q59 : Piece),e = .exit 4∧Fr a 69 [(0,(iV p_m)),(1,(iV p_n)),(2,(iV p_sum)),(6,(.pointer (some ⟨b1,0,none⟩))),(7,(.pointer (some ⟨b4,0,none⟩))),(8,(iV i_5))]∧St [] w0 w m42 [q14,q59,q40,q44,[⟨b4,[s14.v,s3.v,s40.v,s44.v],50⟩],[⟨b1,[nilS.v,nilS.v,nilS.v,nilS.v],50⟩]]∧OwnL m42 3 q14 s14 t_57.Rows∧t_57.Rows = l_13∧OwnL m42 3 q59 s3 t_57.Cols∧OwnL m42 28 q40 s40 t_57.Lo∧t_57.Lo = l_39∧OwnL m42 28 q44 s44 t_57.Hi∧t_57.Hi = l_43) hl6 ⟨q8,_,_,rfl,hF.sub ⟨rfl,rfl,rfl,rfl,rfl,rfl,rfl,trivial⟩,hS.sel [5,0,2,4,6,7] (by decide),((h14.mono hm38.le).mono hm42.le),rfl,((h8.mono hm38.le).mono hm42.le),(h40.mono hm42.le),rfl,h44,rfl⟩ ?_ ?_
     ·clear hF hS
      rintro s a w st ⟨q48,k_45,t_46,rfl,hF,hS,h47,h47k,h48,h49,h49k,h50,h50k⟩ hb6
      unfold spec_filled_l3 at hb6
      refine q_seq (q_seq (q_region (q_x (v:=(iV k_45)) hF hS (ex_move rfl) rfl rfl fun a hF=>q_x (v:=(iV p_sum)) hF hS (ex_move rfl) rfl rfl fun a hF=>q_x (v:=(.bool (decide (k_45 < p_sum)))) hF hS (ex_ibin rfl rfl rfl) rfl rfl fun a hF=>q_end (n_sq ?_))))
      rcases bcase (decide (k_45 < p_sum)) with hc7 | hc7
      ·have hb6:=cond_f hc7 hb6
       refine q_cond_f hF rfl hc7 (q_exit (x_sq ?_))
       obtain rfl:=someI hb6
       exact ⟨nofun,.inl ⟨q48,rfl,hF.sub ⟨rfl,rfl,rfl,rfl,rfl,rfl,trivial⟩,hS.sel [3,0,2,1,4,5] (by decide),h47,h47k,h48,h49,h49k,h50,h50k⟩⟩
      ·have hb6:=cond_t hc7 hb6
       refine q_cond_t hF rfl hc7 (q_skipc (n_sq (q_seq (q_block (e_region ⟨[11],[b4],m42⟩ mixed fun w' hw'=>?_)))))
       have hS:=hS.below hw'
       refine e_p (v:=(.pointer (some ⟨b4,1,none⟩))) 0 hF rfl (ex_fieldAddr Try.underlying50 rfl sz28 rfl rfl) rfl rfl (by kernel_rfl) (by kernel_rfl) (by kernel_rfl) fun a hF=>e_xb (v:=s3.v) 1 4 hF hS (.head _) rfl rfl (ex_load1 0 0 Try.underlying28 rfl rfl rfl rfl) rfl rfl (by kernel_rfl) (by kernel_rfl) (by kernel_rfl) fun a hF=>e_p (v:=(iV i_5)) 2 hF rfl (ex_move rfl) rfl rfl (by kernel_rfl) (by kernel_rfl) (by kernel_rfl) fun a hF=>e_p (v:=(iV k_45)) 3 hF rfl (ex_move rfl) rfl rfl (by kernel_rfl) (by kernel_rfl) (by kernel_rfl) fun a hF=>e_p (v:=(iV (w64 (i_5 + k_45)))) 4 hF rfl (ex_ibin rfl rfl rfl) rfl rfl (by kernel_rfl) (by kernel_rfl) (by kernel_rfl) fun a hF=>e_p (v:=(iV p_n)) 5 hF rfl (ex_move rfl) rfl rfl (by kernel_rfl) (by kernel_rfl) (by kernel_rfl) fun a hF=>?_
       obtain ⟨t_51,ht_51,hb6⟩:=bindS hb6
       refine e_p (v:=(iV t_51)) 6 hF rfl (ex_rem rfl rfl ht_51) rfl rfl (by kernel_rfl) (by kernel_rfl) (by kernel_rfl) fun a hF=>?_
       obtain ⟨e_52,he_52,hb6⟩:=bindS hb6
       obtain ⟨vs53,at53,d53⟩:=h48.at he_52 1 rfl
       obtain rfl : vs53 = [(iV e_52)]:=d53
       refine e_p (v:=(elP s3 (t_51.toNat * 1))) 7 hF rfl (ex_indexAddr Try.underlying28 sz3 rfl rfl (h48.idx he_52)) rfl rfl (by kernel_rfl) (by kernel_rfl) (by kernel_rfl) fun a hF=>e_x (v:=(iV e_52)) 8 hF hS rfl (ex_loadE1 0 Try.underlying3 rfl rfl (at53.at 0 rfl) rfl rfl) rfl rfl (by kernel_rfl) (by kernel_rfl) (by kernel_rfl) (by kernel_rfl) fun a hF=>e_p (v:=(iV (w64 (e_52 + 1)))) 9 hF rfl (ex_ibin rfl rfl rfl) rfl rfl (by kernel_rfl) (by kernel_rfl) (by kernel_rfl) fun a hF=>?_
       obtain ⟨e_54,he_54,hb6⟩:=bindS hb6
       obtain ⟨vs55,at55,d55⟩:=h48.at he_54 1 rfl
       obtain rfl : vs55 = [(iV e_54)]:=d55
       refine e_p (v:=(elP s3 (t_51.toNat * 1))) 10 hF rfl (ex_indexAddr Try.underlying28 sz3 rfl rfl (h48.idx he_54)) rfl rfl (by kernel_rfl) (by kernel_rfl) (by kernel_rfl) fun a hF=>e_one 11 (by kernel_rfl) ?_
       have hSo:=hS
       refine e_opl rfl rfl rfl fun _ hK=>wp_storeE (e':=(w64 (e_52 + 1))) (us:=[(iV (w64 (e_52 + 1)))]) (vs:=[(iV e_54)]) 0 hF hS h48 sz3 rfl rfl rfl rfl rfl rfl rfl he_54 at55 rfl rfl rfl fun w q56 hS h56=>hK _ _ (⟨⟨kpC hSo hS 4 4 rfl rfl kpN,fun _=>hS.vis.of_le (Mem.le.refl _)⟩,?_⟩)
       refine e_end (by kernel_rfl) (n_ib (n_sq ?_)) _
       refine q_region (q_x (v:=(iV k_45)) hF hS (ex_move rfl) rfl rfl fun a hF=>q_x (v:=(iV (w64 (k_45 + 1)))) hF hS (ex_ibin rfl rfl rfl) rfl rfl fun a hF=>q_x (v:=(iV (w64 (k_45 + 1)))) hF hS (ex_assign rfl) rfl rfl fun a hF=>q_end ?_)
       obtain rfl:=someI hb6
       exact ⟨rfl,q56,_,_,rfl,hF.sub ⟨rfl,rfl,rfl,rfl,rfl,rfl,rfl,trivial⟩,hS,h47,h47k,h56,h49,h49k,h50,h50k⟩
     ·rintro e a w ⟨q59,rfl,hF,hS,h58,h58k,h59,h60,h60k,h61,h61k⟩
      refine x_ib (n_ib (n_sq ?_))
      refine q_region (q_x (v:=(iV i_5)) hF hS (ex_move rfl) rfl rfl fun a hF=>q_x (v:=(iV (w64 (i_5 + 1)))) hF hS (ex_ibin rfl rfl rfl) rfl rfl fun a hF=>q_x (v:=(iV (w64 (i_5 + 1)))) hF hS (ex_assign rfl) rfl rfl fun a hF=>q_end ?_)
      obtain rfl:=someI hb1
      exact ⟨rfl,m42,q14,s14,q59,q40,s40,q44,s44,_,_,rfl,hF.sub ⟨rfl,rfl,rfl,rfl,rfl,rfl,trivial⟩,hS,((hm11.trans hm38).trans hm42),h58,h59,h60,h61⟩
 ·rintro e a w ⟨m67,q63,s63,q64,q65,s65,q66,s66,rfl,hF,hS,hm67,h63,h64,h65,h66⟩
  refine x_ib (n_sq ?_)
  refine q_seq (q_region (q_x (v:=(.agg #[s63.v,s3.v,s65.v,s66.v])) hF hS (ex_loadA (vs:=[s63.v,s3.v,s65.v,s66.v]) 4 0 Try.underlying50 rfl sz50 rfl rfl rfl rfl) rfl rfl fun a hF=>q_store (vs:=[s63.v,s3.v,s65.v,s66.v]) (cs':=[s63.v,s3.v,s65.v,s66.v]) 5 0 hF hS sz50 rfl rfl rfl rfl rfl rfl rfl rfl fun a w hF hS=>q_end (n_sq (q_ret ?_))))
  obtain rfl:=someI hr
  exact ret_of hF hS rfl (.cellA (us:=[s63.v,s3.v,s65.v,s66.v]) 5 0 Try.underlying50 rfl sz50 rfl rfl rfl rfl .nil) ⟨m67,q63,q64,q65,q66,s63,s3,s65,s66,rfl,hm67,hS.sel [0,1,2,3] (by decide),h63,h64,h65,h66⟩

theorem c_spec_l1Cur_anyTransport (p_c : spec_l1Cur) (r : impl_Transport × spec_l1Cur) (hr : spec_l1Cur_anyTransport p_c = some r) (w0 : World) (m : Mem) (b_p_c : Nat) (s1 : Sl) (h1 : Rd m s1 p_c.code) (X : List Nat) (hS : St X w0 w0 m [[⟨b_p_c,[s1.v,(iV p_c.at_),(.int .u64 p_c.seed.v)],90⟩]]) :
  RetX Try.prog 166 [(.pointer (some ⟨b_p_c,0,none⟩))] w0 (fun v w=>∃ (m' : Mem) (q0' : Piece) (q1' : Piece) (q3' : Piece) (s0' : Sl) (s1' : Sl) (s2' : Sl) (s3' : Sl),v = (.agg #[s0'.v,s1'.v,s2'.v,s3'.v])∧MLe X w0.heap.size m m'∧St X w0 w m' [[⟨b_p_c,[s1.v,(iV r.2.at_),(.int .u64 r.2.seed.v)],90⟩],q0',q1',q3']∧OwnL m' 3 q0' s0' r.1.Rows∧OwnL m' 3 q1' s1' r.1.Cols∧Rd m' s2' r.1.Lo∧OwnL m' 28 q3' s3' r.1.Hi∧r.2.code = p_c.code):=by
 unfold spec_l1Cur_anyTransport at hr
 refine ret_startX Try.func166 rfl 66 rfl rfl fun a hF=>q_seq (q_region (q_alloc (cs:=[nilS.v,nilS.v,nilS.v,nilS.v]) hF hS rfl rfl rfl fun a w b2 hF hS=>q_end (n_sq (q_seq (q_region (q_x (v:=(.pointer (some ⟨b_p_c,0,none⟩))) hF hS (ex_move rfl) rfl rfl fun a hF=>?_))))))
 have hS : St _ _ _ _ [[⟨b_p_c,[s1.v,(iV p_c.at_),(.int .u64 p_c.seed.v)],90⟩],[⟨b2,[nilS.v,nilS.v,nilS.v,nilS.v],50⟩]]:=hS.sel [1,0] (by decide)
 have hS3 : St _ _ _ _ ([[⟨b_p_c,[s1.v,(iV p_c.at_),(.int .u64 p_c.seed.v)],90⟩]]++[[⟨b2,[nilS.v,nilS.v,nilS.v,nilS.v],50⟩]]):=hS
 have hE3:=hS3.enter
 obtain ⟨t_4,ht_4,hr⟩:=bindS hr
 refine q_do rfl fun _ hK=>wp_callX (vs:=[(.pointer (some ⟨b_p_c,0,none⟩))]) hF Try.func184 (by kernel_rfl) rfl rfl rfl (c_spec_l1Cur_transport p_c t_4 ht_4 _ m b_p_c s1 h1 _ hE3) fun a w _ hR hF=>hK _ _ ?_
 obtain ⟨q5,q6,q7,q8,s5,s6,s7,s8,rfl,hR3,h5,h6,h7,h8,hk9⟩:=hR
 have hS : St _ _ _ _ [[⟨b_p_c,[s1.v,(iV t_4.2.at_),(.int .u64 t_4.2.seed.v)],90⟩],q5,q6,q7,q8,[⟨b2,[nilS.v,nilS.v,nilS.v,nilS.v],50⟩]]:=hS3.leaveF hR3
 have h9 : Rd m s1 t_4.2.code:=by rw [hk9]; exact h1
 refine q_alloc (cs:=[nilS.v,nilS.v,nilS.v,nilS.v]) hF hS rfl rfl rfl fun a w b10 hF hS=>q_store (vs:=[s5.v,s6.v,s7.v,s8.v]) (cs':=[s5.v,s6.v,s7.v,s8.v]) 0 0 hF hS sz50 rfl rfl rfl rfl rfl rfl rfl rfl fun a w hF hS=>q_end (n_sq (q_seq (q_seq (q_region (q_x (v:=(.pointer (some ⟨b_p_c,0,none⟩))) hF hS (ex_move rfl) rfl rfl fun a hF=>?_)))))
 have hS : St _ _ _ _ [[⟨b_p_c,[s1.v,(iV t_4.2.at_),(.int .u64 t_4.2.seed.v)],90⟩],[⟨b10,[s5.v,s6.v,s7.v,s8.v],50⟩],q5,q6,q7,q8,[⟨b2,[nilS.v,nilS.v,nilS.v,nilS.v],50⟩]]:=hS.sel [1,0,2,3,4,5,6] (by decide)
 have hS11 : St _ _ _ _ ([[⟨b_p_c,[s1.v,(iV t_4.2.at_),(.int .u64 t_4.2.seed.v)],90⟩]]++[[⟨b10,[s5.v,s6.v,s7.v,s8.v],50⟩],q5,q6,q7,q8,[⟨b2,[nilS.v,nilS.v,nilS.v,nilS.v],50⟩]]):=hS
 have hE11:=hS11.enter
 obtain ⟨t_12,ht_12,hr⟩:=bindS hr
 refine q_do rfl fun _ hK=>wp_callX (vs:=[(.pointer (some ⟨b_p_c,0,none⟩)),(iV 24)]) hF Try.func106 (by kernel_rfl) rfl rfl rfl (c_spec_l1Cur_pick t_4.2 24 t_12 ht_12 _ m b_p_c s1 h9 _ hE11) fun a w _ hR hF=>hK _ _ ?_
 obtain ⟨rfl,hR11,hk13⟩:=hR
 have hS : St _ _ _ _ [[⟨b_p_c,[s1.v,(iV t_12.2.at_),(.int .u64 t_12.2.seed.v)],90⟩],[⟨b10,[s5.v,s6.v,s7.v,s8.v],50⟩],q5,q6,q7,q8,[⟨b2,[nilS.v,nilS.v,nilS.v,nilS.v],50⟩]]:=hS11.leaveF hR11
 have h13 : Rd m s1 t_12.2.code:=by rw [hk13]; exact h9
 refine q_end (n_sq (q_block (q_seq (q_region (q_x (v:=(.bool (t_12.1 == 0))) hF hS (ex_ibin rfl rfl rfl) rfl rfl fun a hF=>q_x (v:=(.bool (t_12.1 == 0))) hF hS (ex_assign rfl) rfl rfl fun a hF=>q_end (n_sq ?_))))))
 obtain ⟨j1,hj1,hr⟩:=bindS hr
 refine q_join (fun a w=>∃ (m68 : Mem),∃ (q64 : Piece),∃ (q65 : Piece),∃ (s65 : Sl),∃ (s66 : Sl),∃ (q67 : Piece),∃ p_c_61,∃ t_63,j1 = .inl (p_c_61,t_63)∧Fr a 66 [(2,(.pointer (some ⟨b2,0,none⟩))),(3,(.pointer (some ⟨b10,0,none⟩)))]∧St X w0 w m68 [q64,q65,q67,[⟨b_p_c,[s1.v,(iV p_c_61.at_),(.int .u64 p_c_61.seed.v)],90⟩],[⟨b10,[s5.v,s65.v,s66.v,s8.v],50⟩],[⟨b2,[nilS.v,nilS.v,nilS.v,nilS.v],50⟩]]∧MLe X w0.heap.size m m68∧Rd m68 s1 p_c_61.code∧p_c_61.code = p_c.code∧OwnL m68 3 q64 s5 t_63.Rows∧OwnL m68 3 q65 s65 t_63.Cols∧Rd m68 s66 t_63.Lo∧OwnD m68 28 3 q67 s8 t_63.Hi) ?_ ?_
 ·rcases bcase (t_12.1 == 0) with hc2 | hc2
  ·have hj1:=cond_f hc2 hj1
   refine q_cond_f hF rfl hc2 (q_seq (q_region (q_x (v:=(.bool (t_12.1 == 1))) hF hS (ex_ibin rfl rfl rfl) rfl rfl fun a hF=>q_x (v:=(.bool (t_12.1 == 1))) hF hS (ex_assign rfl) rfl rfl fun a hF=>q_end (n_sq ?_))))
   obtain ⟨j3,hj3,hj1⟩:=bindS hj1
   refine q_join (fun a w=>∃ (m60 : Mem),∃ (q57 : Piece),∃ (s57 : Sl),∃ (s58 : Sl),∃ (q59 : Piece),∃ p_c_53,∃ t_55,j3 = .inl (p_c_53,t_55)∧Fr a 66 [(2,(.pointer (some ⟨b2,0,none⟩))),(3,(.pointer (some ⟨b10,0,none⟩)))]∧St X w0 w m60 [q5,q57,q59,[⟨b_p_c,[s1.v,(iV p_c_53.at_),(.int .u64 p_c_53.seed.v)],90⟩],[⟨b10,[s5.v,s57.v,s58.v,s8.v],50⟩],[⟨b2,[nilS.v,nilS.v,nilS.v,nilS.v],50⟩]]∧MLe X w0.heap.size m m60∧Rd m60 s1 p_c_53.code∧p_c_53.code = p_c.code∧OwnL m60 3 q5 s5 t_55.Rows∧OwnL m60 3 q57 s57 t_55.Cols∧Rd m60 s58 t_55.Lo∧OwnD m60 28 3 q59 s8 t_55.Hi) ?_ ?_
   ·rcases bcase (t_12.1 == 1) with hc4 | hc4
    ·have hj3:=cond_f hc4 hj3
     refine q_cond_f hF rfl hc4 (q_seq (q_region (q_x (v:=(.bool (t_12.1 == 2))) hF hS (ex_ibin rfl rfl rfl) rfl rfl fun a hF=>q_x (v:=(.bool (t_12.1 == 2))) hF hS (ex_assign rfl) rfl rfl fun a hF=>q_end (n_sq ?_))))
     obtain ⟨j5,hj5,hj3⟩:=bindS hj3
     refine q_join (fun a w=>∃ (m52 : Mem),∃ (q49 : Piece),∃ (s49 : Sl),∃ (s50 : Sl),∃ (q51 : Piece),∃ p_c_45,∃ t_47,j5 = .inl (p_c_45,t_47)∧Fr a 66 [(2,(.pointer (some ⟨b2,0,none⟩))),(3,(.pointer (some ⟨b10,0,none⟩)))]∧St X w0 w m52 [q5,q49,q51,[⟨b_p_c,[s1.v,(iV p_c_45.at_),(.int .u64 p_c_45.seed.v)],90⟩],[⟨b10,[s5.v,s49.v,s50.v,s8.v],50⟩],[⟨b2,[nilS.v,nilS.v,nilS.v,nilS.v],50⟩]]∧MLe X w0.heap.size m m52∧Rd m52 s1 p_c_45.code∧p_c_45.code = p_c.code∧OwnL m52 3 q5 s5 t_47.Rows∧OwnL m52 3 q49 s49 t_47.Cols∧Rd m52 s50 t_47.Lo∧OwnD m52 28 3 q51 s8 t_47.Hi) ?_ ?_
     ·rcases bcase (t_12.1 == 2) with hc6 | hc6
      ·have hj5:=cond_f hc6 hj5
       refine q_cond_f hF rfl hc6 (q_seq (q_region (q_x (v:=(.bool (t_12.1 == 3))) hF hS (ex_ibin rfl rfl rfl) rfl rfl fun a hF=>q_x (v:=(.bool (t_12.1 == 3))) hF hS (ex_assign rfl) rfl rfl fun a hF=>q_end (n_sq ?_))))
       obtain ⟨j7,hj7,hj5⟩:=bindS hj5
       refine q_join (fun a w=>∃ (q42 : Piece),∃ (s42 : Sl),∃ (q44 : Piece),∃ p_c_38,∃ t_40,j7 = .inl (p_c_38,t_40)∧Fr a 66 [(2,(.pointer (some ⟨b2,0,none⟩))),(3,(.pointer (some ⟨b10,0,none⟩)))]∧St X w0 w m [q5,q42,q7,q44,[⟨b_p_c,[s1.v,(iV p_c_38.at_),(.int .u64 p_c_38.seed.v)],90⟩],[⟨b10,[s5.v,s42.v,s7.v,s8.v],50⟩],[⟨b2,[nilS.v,nilS.v,nilS.v,nilS.v],50⟩]]∧Rd m s1 p_c_38.code∧p_c_38.code = p_c.code∧OwnL m 3 q5 s5 t_40.Rows∧OwnL m 3 q42 s42 t_40.Cols∧OwnD m 28 3 q7 s7 t_40.Lo∧OwnD m 28 3 q44 s8 t_40.Hi) ?_ ?_
       ·rcases bcase (t_12.1 == 3) with hc8 | hc8
        ·have hj7:=cond_f hc8 hj7
         refine q_cond_f hF rfl hc8 (q_seq (q_region (q_x (v:=(.bool (t_12.1 == 4))) hF hS (ex_ibin rfl rfl rfl) rfl rfl fun a hF=>q_x (v:=(.bool (t_12.1 == 4))) hF hS (ex_assign rfl) rfl rfl fun a hF=>q_end (n_sq ?_))))
         obtain ⟨j9,hj9,hj7⟩:=bindS hj7
         refine q_join (fun a w=>∃ (q37 : Piece),∃ p_c_31,∃ t_33,j9 = .inl (p_c_31,t_33)∧Fr a 66 [(2,(.pointer (some ⟨b2,0,none⟩))),(3,(.pointer (some ⟨b10,0,none⟩)))]∧St X w0 w m [q5,q6,q7,q37,[⟨b_p_c,[s1.v,(iV p_c_31.at_),(.int .u64 p_c_31.seed.v)],90⟩],[⟨b10,[s5.v,s6.v,s7.v,s8.v],50⟩],[⟨b2,[nilS.v,nilS.v,nilS.v,nilS.v],50⟩]]∧Rd m s1 p_c_31.code∧p_c_31.code = p_c.code∧OwnL m 3 q5 s5 t_33.Rows∧OwnL m 3 q6 s6 t_33.Cols∧OwnD m 28 3 q7 s7 t_33.Lo∧OwnD m 28 3 q37 s8 t_33.Hi) ?_ ?_
         ·rcases bcase (t_12.1 == 4) with hc10 | hc10
          ·have hj9:=cond_f hc10 hj9
           refine q_cond_f hF rfl hc10 (q_seq (q_region (q_x (v:=(.bool (t_12.1 == 5))) hF hS (ex_ibin rfl rfl rfl) rfl rfl fun a hF=>q_x (v:=(.bool (t_12.1 == 5))) hF hS (ex_assign rfl) rfl rfl fun a hF=>q_end (n_sq ?_))))
           rcases bcase (t_12.1 == 5) with hc11 | hc11
           ·have hj9:=cond_f hc11 hj9
            refine q_cond_f hF rfl hc11 (q_seq (q_region (q_x (v:=(.bool (t_12.1 == 6))) hF hS (ex_ibin rfl rfl rfl) rfl rfl fun a hF=>q_x (v:=(.bool (t_12.1 == 6))) hF hS (ex_assign rfl) rfl rfl fun a hF=>q_end (n_sq ?_))))
            rcases bcase (t_12.1 == 6) with hc12 | hc12
            ·have hj9:=cond_f hc12 hj9
             refine q_cond_f hF rfl hc12 (q_skipc (n_jn ?_))
             obtain rfl:=someI hj9
             exact ⟨q8,_,_,rfl,hF.sub ⟨rfl,rfl,trivial⟩,hS.sel [2,3,4,5,0,1,6] (by decide),h13,(hk13.trans hk9),h5,h6,h7,h8⟩
            ·have hj9:=cond_t hc12 hj9
             refine q_cond_t hF rfl hc12 (q_seq (q_region (q_x (v:=(.pointer (some ⟨b_p_c,0,none⟩))) hF hS (ex_move rfl) rfl rfl fun a hF=>?_)))
             have hS14 : St _ _ _ _ ([[⟨b_p_c,[s1.v,(iV t_12.2.at_),(.int .u64 t_12.2.seed.v)],90⟩]]++[[⟨b10,[s5.v,s6.v,s7.v,s8.v],50⟩],q5,q6,q7,q8,[⟨b2,[nilS.v,nilS.v,nilS.v,nilS.v],50⟩]]):=hS
             have hE14:=hS14.enter
             obtain ⟨t_15,ht_15,hj9⟩:=bindS hj9
             refine q_do rfl fun _ hK=>wp_callX (vs:=[(.pointer (some ⟨b_p_c,0,none⟩)),(iV 2)]) hF Try.func106 (by kernel_rfl) rfl rfl rfl (c_spec_l1Cur_pick t_12.2 2 t_15 ht_15 _ m b_p_c s1 h13 _ hE14) fun a w _ hR hF=>hK _ _ ?_
             obtain ⟨rfl,hR14,hk16⟩:=hR
             have hS : St _ _ _ _ [[⟨b_p_c,[s1.v,(iV t_15.2.at_),(.int .u64 t_15.2.seed.v)],90⟩],[⟨b10,[s5.v,s6.v,s7.v,s8.v],50⟩],q5,q6,q7,q8,[⟨b2,[nilS.v,nilS.v,nilS.v,nilS.v],50⟩]]:=hS14.leaveF hR14
             have h16 : Rd m s1 t_15.2.code:=by rw [hk16]; exact h13
             refine q_x (v:=(iV (w64 (8 + t_15.1)))) hF hS (ex_ibin rfl rfl rfl) rfl rfl fun a hF=>?_
             obtain ⟨t_17,ht_17,hj9⟩:=bindS hj9
             refine q_call (vs:=[(iV (w64 (8 + t_15.1))),(iV 1),(iV 1)]) hF hS Try.func185 (by kernel_rfl) rfl rfl rfl (c_spec_filled (w64 (8 + t_15.1)) 1 1 t_17 ht_17 _ m hS.vis) ?_
             have hT:=hS
             rintro a w _ ⟨m18,q19,q20,q21,q22,s19,s20,s21,s22,rfl,hm18,hR18,h19,h20,h21,h22⟩ hF hS2
             have hS : St _ _ _ _ [q19,q20,q21,q22,[⟨b_p_c,[s1.v,(iV t_15.2.at_),(.int .u64 t_15.2.seed.v)],90⟩],[⟨b10,[s5.v,s6.v,s7.v,s8.v],50⟩],q5,q6,q7,q8,[⟨b2,[nilS.v,nilS.v,nilS.v,nilS.v],50⟩]]:=hS.join hR18 hm18
             have hm18:=MLe.weakX (O0:=[]) hT hm18
             refine q_store (vs:=[s19.v,s20.v,s21.v,s22.v]) (cs':=[s19.v,s20.v,s21.v,s22.v]) 10 0 hF hS sz50 rfl rfl rfl rfl rfl rfl rfl rfl fun a w hF hS=>q_end (n_sq (q_ret (r_jn ?_)))
             obtain rfl:=someI hj9
             refine r_jn ?_
             obtain rfl:=someI hj7
             refine r_jn ?_
             obtain rfl:=someI hj5
             refine r_jn ?_
             obtain rfl:=someI hj3
             refine r_jn ?_
             obtain rfl:=someI hj1
             refine r_ib (r_sq ?_)
             obtain rfl:=someI hr
             have hS : St _ _ _ _ [q21,q19,q20,q22,[⟨b_p_c,[s1.v,(iV t_15.2.at_),(.int .u64 t_15.2.seed.v)],90⟩],[⟨b10,[s5.v,s6.v,s7.v,s8.v],50⟩],q5,q6,q7,q8,[⟨b2,[s19.v,s20.v,s21.v,s22.v],50⟩]]:=hS.sel [2,0,1,3,4,5,6,7,8,9,10] (by decide)
             obtain ⟨m23,hm23,hS,hz23⟩:=hS.freeze
             have h23:=h21.froz hm23.le hz23
             exact ret_ofX hF hS rfl (.cellA (us:=[s19.v,s20.v,s21.v,s22.v]) 9 0 Try.underlying50 rfl sz50 rfl rfl rfl rfl .nil) ⟨m23,q19,q20,q22,s19,s20,s21,s22,rfl,(hm18.trans hm23),hS.sel [3,0,1,2] (by decide),(h19.mono hm23.le),(h20.mono hm23.le),h23,(h22.mono hm23.le),(hk16.trans (hk13.trans hk9))⟩
           ·have hj9:=cond_t hc11 hj9
            refine q_cond_t hF rfl hc11 (q_seq (q_region (q_x (v:=(.pointer (some ⟨b_p_c,0,none⟩))) hF hS (ex_move rfl) rfl rfl fun a hF=>?_)))
            have hS14 : St _ _ _ _ ([[⟨b_p_c,[s1.v,(iV t_12.2.at_),(.int .u64 t_12.2.seed.v)],90⟩]]++[[⟨b10,[s5.v,s6.v,s7.v,s8.v],50⟩],q5,q6,q7,q8,[⟨b2,[nilS.v,nilS.v,nilS.v,nilS.v],50⟩]]):=hS
            have hE14:=hS14.enter
            obtain ⟨t_15,ht_15,hj9⟩:=bindS hj9
            refine q_do rfl fun _ hK=>wp_callX (vs:=[(.pointer (some ⟨b_p_c,0,none⟩)),(iV 2)]) hF Try.func106 (by kernel_rfl) rfl rfl rfl (c_spec_l1Cur_pick t_12.2 2 t_15 ht_15 _ m b_p_c s1 h13 _ hE14) fun a w _ hR hF=>hK _ _ ?_
            obtain ⟨rfl,hR14,hk16⟩:=hR
            have hS : St _ _ _ _ [[⟨b_p_c,[s1.v,(iV t_15.2.at_),(.int .u64 t_15.2.seed.v)],90⟩],[⟨b10,[s5.v,s6.v,s7.v,s8.v],50⟩],q5,q6,q7,q8,[⟨b2,[nilS.v,nilS.v,nilS.v,nilS.v],50⟩]]:=hS14.leaveF hR14
            have h16 : Rd m s1 t_15.2.code:=by rw [hk16]; exact h13
            refine q_x (v:=(iV (w64 (4 + t_15.1)))) hF hS (ex_ibin rfl rfl rfl) rfl rfl fun a hF=>?_
            obtain ⟨t_17,ht_17,hj9⟩:=bindS hj9
            refine q_call (vs:=[(iV 4),(iV (w64 (4 + t_15.1))),(iV 2)]) hF hS Try.func185 (by kernel_rfl) rfl rfl rfl (c_spec_filled 4 (w64 (4 + t_15.1)) 2 t_17 ht_17 _ m hS.vis) ?_
            have hT:=hS
            rintro a w _ ⟨m18,q19,q20,q21,q22,s19,s20,s21,s22,rfl,hm18,hR18,h19,h20,h21,h22⟩ hF hS2
            have hS : St _ _ _ _ [q19,q20,q21,q22,[⟨b_p_c,[s1.v,(iV t_15.2.at_),(.int .u64 t_15.2.seed.v)],90⟩],[⟨b10,[s5.v,s6.v,s7.v,s8.v],50⟩],q5,q6,q7,q8,[⟨b2,[nilS.v,nilS.v,nilS.v,nilS.v],50⟩]]:=hS.join hR18 hm18
            have hm18:=MLe.weakX (O0:=[]) hT hm18
            refine q_store (vs:=[s19.v,s20.v,s21.v,s22.v]) (cs':=[s19.v,s20.v,s21.v,s22.v]) 10 0 hF hS sz50 rfl rfl rfl rfl rfl rfl rfl rfl fun a w hF hS=>q_end (n_sq (q_ret (r_jn ?_)))
            obtain rfl:=someI hj9
            refine r_jn ?_
            obtain rfl:=someI hj7
            refine r_jn ?_
            obtain rfl:=someI hj5
            refine r_jn ?_
            obtain rfl:=someI hj3
            refine r_jn ?_
            obtain rfl:=someI hj1
            refine r_ib (r_sq ?_)
            obtain rfl:=someI hr
            have hS : St _ _ _ _ [q21,q19,q20,q22,[⟨b_p_c,[s1.v,(iV t_15.2.at_),(.int .u64 t_15.2.seed.v)],90⟩],[⟨b10,[s5.v,s6.v,s7.v,s8.v],50⟩],q5,q6,q7,q8,[⟨b2,[s19.v,s20.v,s21.v,s22.v],50⟩]]:=hS.sel [2,0,1,3,4,5,6,7,8,9,10] (by decide)
            obtain ⟨m23,hm23,hS,hz23⟩:=hS.freeze
            have h23:=h21.froz hm23.le hz23
            exact ret_ofX hF hS rfl (.cellA (us:=[s19.v,s20.v,s21.v,s22.v]) 9 0 Try.underlying50 rfl sz50 rfl rfl rfl rfl .nil) ⟨m23,q19,q20,q22,s19,s20,s21,s22,rfl,(hm18.trans hm23),hS.sel [3,0,1,2] (by decide),(h19.mono hm23.le),(h20.mono hm23.le),h23,(h22.mono hm23.le),(hk16.trans (hk13.trans hk9))⟩
          ·have hj9:=cond_t hc10 hj9
           refine q_cond_t hF rfl hc10 ?_
           obtain ⟨j13,hj13,hj9⟩:=bindS hj9
           refine q_join (fun a w=>∃ (q30 : Piece),∃ p_c_24,∃ t_26,j13 = (p_c_24,t_26)∧Fr a 66 [(2,(.pointer (some ⟨b2,0,none⟩))),(3,(.pointer (some ⟨b10,0,none⟩)))]∧St X w0 w m [q5,q6,q7,q30,[⟨b_p_c,[s1.v,(iV p_c_24.at_),(.int .u64 p_c_24.seed.v)],90⟩],[⟨b10,[s5.v,s6.v,s7.v,s8.v],50⟩],[⟨b2,[nilS.v,nilS.v,nilS.v,nilS.v],50⟩]]∧Rd m s1 p_c_24.code∧p_c_24.code = p_c.code∧OwnL m 3 q5 s5 t_26.Rows∧OwnL m 3 q6 s6 t_26.Cols∧OwnD m 28 3 q7 s7 t_26.Lo∧OwnD m 28 3 q30 s8 t_26.Hi) ?_ ?_
           ·refine e_region ⟨[6,8],[b10],m⟩ mixed fun w' hw'=>?_
            have hS:=hS.below hw'
            refine e_p (v:=(.pointer (some ⟨b10,3,none⟩))) 0 hF rfl (ex_fieldAddr Try.underlying50 rfl sz23 rfl rfl) rfl rfl (by kernel_rfl) (by kernel_rfl) (by kernel_rfl) fun a hF=>e_xb (v:=s8.v) 1 1 hF hS (.head _) rfl rfl (ex_load1 0 0 Try.underlying23 rfl rfl rfl rfl) rfl rfl (by kernel_rfl) (by kernel_rfl) (by kernel_rfl) fun a hF=>?_
            obtain ⟨e_14,he_14,hj13⟩:=bindS hj13
            obtain ⟨s15,hV15⟩:=h8.view he_14
            refine e_p (v:=(elP s8 ((0 : Int).toNat * 1))) 2 hF rfl (ex_indexAddr Try.underlying23 sz28 rfl rfl (h8.idx he_14)) rfl rfl (by kernel_rfl) (by kernel_rfl) (by kernel_rfl) fun a hF=>e_p (v:=(.pointer (some ⟨b_p_c,0,none⟩))) 4 hF rfl (ex_move rfl) rfl rfl (by kernel_rfl) (by kernel_rfl) (by kernel_rfl) fun a hF=>?_
            obtain ⟨t_19,ht_19,hj13⟩:=bindS hj13
            obtain ⟨e_21,he_21,hj13⟩:=bindS hj13
            refine e_all [3,5] (by kernel_rfl) rfl ⟨?_,?_,trivial⟩
            ·refine e_lx (v:=s15.v) hF hS rfl (ex_loadE1 0 Try.underlying28 rfl rfl ((hV15.atH he_14).at 5 rfl) rfl rfl) rfl rfl fun a hF=>e_one 5 (by kernel_rfl) (e_op rfl rfl fun _ hK=>wp_buildSlice' (l:=([100000,100001] : List Int)) (cells:=[(iV 100000),(iV 100001)]) hF hS Try.underlying28 inf3 rfl rfl (by kernel_rfl) rfl rfl rfl ⟨rfl,rfl,rfl⟩ rfl rfl fun a w q17 s17 hF hS h17 hb=>hK _ _ hb (e_one 6 (by kernel_rfl) ?_))
             have hS : St _ _ _ _ [[⟨b_p_c,[s1.v,(iV t_12.2.at_),(.int .u64 t_12.2.seed.v)],90⟩],q17,[⟨b10,[s5.v,s6.v,s7.v,s8.v],50⟩],q5,q6,q7,q8,[⟨b2,[nilS.v,nilS.v,nilS.v,nilS.v],50⟩]]:=hS.sel [1,0,2,3,4,5,6,7] (by decide)
             have hS18 : St _ _ _ _ ([[⟨b_p_c,[s1.v,(iV t_12.2.at_),(.int .u64 t_12.2.seed.v)],90⟩]]++[q17,[⟨b10,[s5.v,s6.v,s7.v,s8.v],50⟩],q5,q6,q7,q8,[⟨b2,[nilS.v,nilS.v,nilS.v,nilS.v],50⟩]]):=hS
             obtain ⟨m18,hl18,hE18,hz18⟩:=hS18.lendX
             have hSo:=hS
             refine e_opl rfl rfl rfl fun _ hK=>wp_callX (vs:=[(.pointer (some ⟨b_p_c,0,none⟩)),s17.v]) hF Try.func74 (by kernel_rfl) rfl rfl rfl (c_spec_l1Cur_among t_12.2 ([100000,100001] : List Int) t_19 ht_19 _ m18 b_p_c s1 (h13.mono hl18) s17 (h17.froz hl18 (hz18 0 _ rfl)) _ hE18) fun a w _ hR hF=>hK _ _ ?_
             obtain ⟨rfl,hR18,hk20⟩:=hR
             have hS : St _ _ _ _ [[⟨b_p_c,[s1.v,(iV t_19.2.at_),(.int .u64 t_19.2.seed.v)],90⟩],q17,[⟨b10,[s5.v,s6.v,s7.v,s8.v],50⟩],q5,q6,q7,q8,[⟨b2,[nilS.v,nilS.v,nilS.v,nilS.v],50⟩]]:=hS18.leaveF hR18
             have h20 : Rd m s1 t_19.2.code:=by rw [hk20]; exact h13
             refine ⟨⟨kpC hSo hS 2 2 rfl rfl kpN,fun _=>hS.vis.of_le (Mem.le.refl _)⟩,?_⟩
             obtain ⟨vs22,at22,d22⟩:=hV15.at he_14 he_21 1 rfl
             obtain rfl : vs22 = [(iV e_21)]:=d22
             refine e_p (v:=(elP s15 ((0 : Int).toNat * 1))) 7 hF rfl (ex_indexAddr Try.underlying28 sz3 rfl rfl (hV15.idx he_14 he_21)) rfl rfl (by kernel_rfl) (by kernel_rfl) (by kernel_rfl) fun a hF=>e_one 8 (by kernel_rfl) ?_
             have hS : St _ _ _ _ [q8,[⟨b_p_c,[s1.v,(iV t_19.2.at_),(.int .u64 t_19.2.seed.v)],90⟩],q17,[⟨b10,[s5.v,s6.v,s7.v,s8.v],50⟩],q5,q6,q7,[⟨b2,[nilS.v,nilS.v,nilS.v,nilS.v],50⟩]]:=hS.sel [6,0,1,2,3,4,5,7] (by decide)
             have hSo:=hS
             refine e_opl rfl rfl rfl fun _ hK=>wp_storeV (e':=t_19.1) (us:=[(iV t_19.1)]) (vs:=[(iV e_21)]) 0 hF hS hV15 he_14 sz3 rfl rfl rfl rfl rfl rfl rfl he_21 at22 rfl rfl rfl fun w q23 hS h23=>hK _ _ (⟨⟨kpC hSo hS 3 3 rfl rfl kpN,fun _=>hS.vis.of_le (Mem.le.refl _)⟩,?_⟩)
             refine e_end (by kernel_rfl) (n_jn ?_) _
             obtain rfl:=someI hj13
             exact ⟨q23,_,_,rfl,hF.sub ⟨rfl,rfl,trivial⟩,hS.sel [4,5,6,0,1,3,7] (by decide),h20,(hk20.trans (hk13.trans hk9)),h5,h6,h7,h23.own⟩
            ·refine e_op rfl rfl fun _ hK=>wp_buildSlice' (l:=([100000,100001] : List Int)) (cells:=[(iV 100000),(iV 100001)]) hF hS Try.underlying28 inf3 rfl rfl (by kernel_rfl) rfl rfl rfl ⟨rfl,rfl,rfl⟩ rfl rfl fun a w q17 s17 hF hS h17 hb=>hK _ _ hb (e_all [3,6] (by kernel_rfl) rfl ⟨?_,?_,trivial⟩)
             ·refine e_lx (v:=s15.v) hF hS rfl (ex_loadE1 0 Try.underlying28 rfl rfl ((hV15.atH he_14).at 6 rfl) rfl rfl) rfl rfl fun a hF=>e_one 6 (by kernel_rfl) ?_
              have hS : St _ _ _ _ [[⟨b_p_c,[s1.v,(iV t_12.2.at_),(.int .u64 t_12.2.seed.v)],90⟩],q17,[⟨b10,[s5.v,s6.v,s7.v,s8.v],50⟩],q5,q6,q7,q8,[⟨b2,[nilS.v,nilS.v,nilS.v,nilS.v],50⟩]]:=hS.sel [1,0,2,3,4,5,6,7] (by decide)
              have hS18 : St _ _ _ _ ([[⟨b_p_c,[s1.v,(iV t_12.2.at_),(.int .u64 t_12.2.seed.v)],90⟩]]++[q17,[⟨b10,[s5.v,s6.v,s7.v,s8.v],50⟩],q5,q6,q7,q8,[⟨b2,[nilS.v,nilS.v,nilS.v,nilS.v],50⟩]]):=hS
              obtain ⟨m18,hl18,hE18,hz18⟩:=hS18.lendX
              have hSo:=hS
              refine e_opl rfl rfl rfl fun _ hK=>wp_callX (vs:=[(.pointer (some ⟨b_p_c,0,none⟩)),s17.v]) hF Try.func74 (by kernel_rfl) rfl rfl rfl (c_spec_l1Cur_among t_12.2 ([100000,100001] : List Int) t_19 ht_19 _ m18 b_p_c s1 (h13.mono hl18) s17 (h17.froz hl18 (hz18 0 _ rfl)) _ hE18) fun a w _ hR hF=>hK _ _ ?_
              obtain ⟨rfl,hR18,hk20⟩:=hR
              have hS : St _ _ _ _ [[⟨b_p_c,[s1.v,(iV t_19.2.at_),(.int .u64 t_19.2.seed.v)],90⟩],q17,[⟨b10,[s5.v,s6.v,s7.v,s8.v],50⟩],q5,q6,q7,q8,[⟨b2,[nilS.v,nilS.v,nilS.v,nilS.v],50⟩]]:=hS18.leaveF hR18
              have h20 : Rd m s1 t_19.2.code:=by rw [hk20]; exact h13
              refine ⟨⟨kpC hSo hS 2 2 rfl rfl kpN,fun _=>hS.vis.of_le (Mem.le.refl _)⟩,?_⟩
              obtain ⟨vs22,at22,d22⟩:=hV15.at he_14 he_21 1 rfl
              obtain rfl : vs22 = [(iV e_21)]:=d22
              refine e_p (v:=(elP s15 ((0 : Int).toNat * 1))) 7 hF rfl (ex_indexAddr Try.underlying28 sz3 rfl rfl (hV15.idx he_14 he_21)) rfl rfl (by kernel_rfl) (by kernel_rfl) (by kernel_rfl) fun a hF=>e_one 8 (by kernel_rfl) ?_
              have hS : St _ _ _ _ [q8,[⟨b_p_c,[s1.v,(iV t_19.2.at_),(.int .u64 t_19.2.seed.v)],90⟩],q17,[⟨b10,[s5.v,s6.v,s7.v,s8.v],50⟩],q5,q6,q7,[⟨b2,[nilS.v,nilS.v,nilS.v,nilS.v],50⟩]]:=hS.sel [6,0,1,2,3,4,5,7] (by decide)
              have hSo:=hS
              refine e_opl rfl rfl rfl fun _ hK=>wp_storeV (e':=t_19.1) (us:=[(iV t_19.1)]) (vs:=[(iV e_21)]) 0 hF hS hV15 he_14 sz3 rfl rfl rfl rfl rfl rfl rfl he_21 at22 rfl rfl rfl fun w q23 hS h23=>hK _ _ (⟨⟨kpC hSo hS 3 3 rfl rfl kpN,fun _=>hS.vis.of_le (Mem.le.refl _)⟩,?_⟩)
              refine e_end (by kernel_rfl) (n_jn ?_) _
              obtain rfl:=someI hj13
              exact ⟨q23,_,_,rfl,hF.sub ⟨rfl,rfl,trivial⟩,hS.sel [4,5,6,0,1,3,7] (by decide),h20,(hk20.trans (hk13.trans hk9)),h5,h6,h7,h23.own⟩
             ·have hS : St _ _ _ _ [[⟨b_p_c,[s1.v,(iV t_12.2.at_),(.int .u64 t_12.2.seed.v)],90⟩],q17,[⟨b10,[s5.v,s6.v,s7.v,s8.v],50⟩],q5,q6,q7,q8,[⟨b2,[nilS.v,nilS.v,nilS.v,nilS.v],50⟩]]:=hS.sel [1,0,2,3,4,5,6,7] (by decide)
              have hS18 : St _ _ _ _ ([[⟨b_p_c,[s1.v,(iV t_12.2.at_),(.int .u64 t_12.2.seed.v)],90⟩]]++[q17,[⟨b10,[s5.v,s6.v,s7.v,s8.v],50⟩],q5,q6,q7,q8,[⟨b2,[nilS.v,nilS.v,nilS.v,nilS.v],50⟩]]):=hS
              obtain ⟨m18,hl18,hE18,hz18⟩:=hS18.lendX
              have hSo:=hS
              refine e_opl rfl rfl rfl fun _ hK=>wp_callX (vs:=[(.pointer (some ⟨b_p_c,0,none⟩)),s17.v]) hF Try.func74 (by kernel_rfl) rfl rfl rfl (c_spec_l1Cur_among t_12.2 ([100000,100001] : List Int) t_19 ht_19 _ m18 b_p_c s1 (h13.mono hl18) s17 (h17.froz hl18 (hz18 0 _ rfl)) _ hE18) fun a w _ hR hF=>hK _ _ ?_
              obtain ⟨rfl,hR18,hk20⟩:=hR
              have hS : St _ _ _ _ [[⟨b_p_c,[s1.v,(iV t_19.2.at_),(.int .u64 t_19.2.seed.v)],90⟩],q17,[⟨b10,[s5.v,s6.v,s7.v,s8.v],50⟩],q5,q6,q7,q8,[⟨b2,[nilS.v,nilS.v,nilS.v,nilS.v],50⟩]]:=hS18.leaveF hR18
              have h20 : Rd m s1 t_19.2.code:=by rw [hk20]; exact h13
              refine ⟨⟨kpC hSo hS 2 2 rfl rfl kpN,fun _=>hS.vis.of_le (Mem.le.refl _)⟩,?_⟩
              refine e_x (v:=s15.v) 3 hF hS rfl (ex_loadE1 0 Try.underlying28 rfl rfl ((hV15.atH he_14).at 6 rfl) rfl rfl) rfl rfl (by kernel_rfl) (by kernel_rfl) (by kernel_rfl) (by kernel_rfl) fun a hF=>?_
              obtain ⟨vs22,at22,d22⟩:=hV15.at he_14 he_21 1 rfl
              obtain rfl : vs22 = [(iV e_21)]:=d22
              refine e_p (v:=(elP s15 ((0 : Int).toNat * 1))) 7 hF rfl (ex_indexAddr Try.underlying28 sz3 rfl rfl (hV15.idx he_14 he_21)) rfl rfl (by kernel_rfl) (by kernel_rfl) (by kernel_rfl) fun a hF=>e_one 8 (by kernel_rfl) ?_
              have hS : St _ _ _ _ [q8,[⟨b_p_c,[s1.v,(iV t_19.2.at_),(.int .u64 t_19.2.seed.v)],90⟩],q17,[⟨b10,[s5.v,s6.v,s7.v,s8.v],50⟩],q5,q6,q7,[⟨b2,[nilS.v,nilS.v,nilS.v,nilS.v],50⟩]]:=hS.sel [6,0,1,2,3,4,5,7] (by decide)
              have hSo:=hS
              refine e_opl rfl rfl rfl fun _ hK=>wp_storeV (e':=t_19.1) (us:=[(iV t_19.1)]) (vs:=[(iV e_21)]) 0 hF hS hV15 he_14 sz3 rfl rfl rfl rfl rfl rfl rfl he_21 at22 rfl rfl rfl fun w q23 hS h23=>hK _ _ (⟨⟨kpC hSo hS 3 3 rfl rfl kpN,fun _=>hS.vis.of_le (Mem.le.refl _)⟩,?_⟩)
              refine e_end (by kernel_rfl) (n_jn ?_) _
              obtain rfl:=someI hj13
              exact ⟨q23,_,_,rfl,hF.sub ⟨rfl,rfl,trivial⟩,hS.sel [4,5,6,0,1,3,7] (by decide),h20,(hk20.trans (hk13.trans hk9)),h5,h6,h7,h23.own⟩
           ·rintro a w ⟨q30,p_c_24,t_26,rfl,hF,hS,h25,h25k,h27,h28,h29,h30⟩
            refine n_jn ?_
            obtain rfl:=someI hj9
            exact ⟨q30,_,_,rfl,hF.sub ⟨rfl,rfl,trivial⟩,hS,h25,h25k,h27,h28,h29,h30⟩
         ·rintro a w ⟨q37,p_c_31,t_33,rfl,hF,hS,h32,h32k,h34,h35,h36,h37⟩
          refine n_jn ?_
          obtain rfl:=someI hj7
          exact ⟨q6,s6,q37,_,_,rfl,hF.sub ⟨rfl,rfl,trivial⟩,hS,h32,h32k,h34,h35,h36,h37⟩
        ·have hj7:=cond_t hc8 hj7
         refine q_cond_t hF rfl hc8 (q_region (q_x (v:=(.pointer (some ⟨b10,1,none⟩))) hF hS (ex_fieldAddr Try.underlying50 rfl sz28 rfl rfl) rfl rfl fun a hF=>q_x (v:=s6.v) hF hS (ex_load1 1 0 Try.underlying28 rfl rfl rfl rfl) rfl rfl fun a hF=>q_do rfl fun _ hK=>wp_buildSlice' (l:=([0] : List Int)) (cells:=[(iV 0)]) hF hS Try.underlying28 inf3 rfl rfl (by kernel_rfl) rfl rfl rfl ⟨rfl,rfl⟩ rfl rfl fun a w q14 s14 hF hS h14 _=>hK _ _ ?_))
         have hS : St _ _ _ _ [q6,q14,[⟨b_p_c,[s1.v,(iV t_12.2.at_),(.int .u64 t_12.2.seed.v)],90⟩],[⟨b10,[s5.v,s6.v,s7.v,s8.v],50⟩],q5,q7,q8,[⟨b2,[nilS.v,nilS.v,nilS.v,nilS.v],50⟩]]:=hS.sel [4,0,1,2,3,5,6,7] (by decide)
         obtain ⟨l_15,hl_15,hj7⟩:=bindS hj7
         refine q_do rfl fun _ hK=>wp_append hF hS h6 Try.underlying28 inf3 rfl rfl rfl rfl (h14.vw hS (j:=1) rfl) rfl (by decide) hl_15 rfl fun a w q16 s16 hF hS h16=>hK _ _ (q_x (v:=(.pointer (some ⟨b10,1,none⟩))) hF hS (ex_fieldAddr Try.underlying50 rfl sz28 rfl rfl) rfl rfl fun a hF=>q_store (vs:=[s16.v]) (cs':=[s5.v,s16.v,s7.v,s8.v]) 3 0 hF hS sz28 rfl rfl rfl rfl rfl rfl rfl rfl fun a w hF hS=>q_end (n_jn ?_))
         obtain rfl:=someI hj7
         exact ⟨q16,s16,q8,_,_,rfl,hF.sub ⟨rfl,rfl,trivial⟩,hS.sel [4,0,5,6,2,3,7] (by decide),h13,(hk13.trans hk9),h5,h16,h7,h8⟩
       ·rintro a w ⟨q42,s42,q44,p_c_38,t_40,rfl,hF,hS,h39,h39k,h41,h42,h43,h44⟩
        refine n_jn ?_
        obtain rfl:=someI hj5
        have hS : St _ _ _ _ [q7,q5,q42,q44,[⟨b_p_c,[s1.v,(iV p_c_38.at_),(.int .u64 p_c_38.seed.v)],90⟩],[⟨b10,[s5.v,s42.v,s7.v,s8.v],50⟩],[⟨b2,[nilS.v,nilS.v,nilS.v,nilS.v],50⟩]]:=hS.sel [2,0,1,3,4,5,6] (by decide)
        obtain ⟨mf24,hmf24,hS,hzf24⟩:=hS.freeze
        have hf24:=h43.froz hmf24.le hzf24
        exact ⟨mf24,q42,s42,s7,q44,_,_,rfl,hF.sub ⟨rfl,rfl,trivial⟩,hS,hmf24,(h39.mono hmf24.le),h39k,(h41.mono hmf24.le),(h42.mono hmf24.le),hf24,(h44.mono hmf24.le)⟩
      ·have hj5:=cond_t hc6 hj5
       refine q_cond_t hF rfl hc6 (q_region (q_x (v:=(.pointer (some ⟨b10,2,none⟩))) hF hS (ex_fieldAddr Try.underlying50 rfl sz23 rfl rfl) rfl rfl fun a hF=>q_x (v:=s7.v) hF hS (ex_load1 1 0 Try.underlying23 rfl rfl rfl rfl) rfl rfl fun a hF=>?_))
       have hS : St _ _ _ _ [q7,[⟨b_p_c,[s1.v,(iV t_12.2.at_),(.int .u64 t_12.2.seed.v)],90⟩],[⟨b10,[s5.v,s6.v,s7.v,s8.v],50⟩],q5,q6,q8,[⟨b2,[nilS.v,nilS.v,nilS.v,nilS.v],50⟩]]:=hS.sel [4,0,1,2,3,5,6] (by decide)
       obtain ⟨m14,hm14,hS,hz14⟩:=hS.freeze
       have h14:=h7.froz hm14.le hz14
       obtain ⟨l_15,hl_15,hj5⟩:=bindS hj5
       have h16 : Rd m14 (subS s7 1 (1 : Int).toNat (goLen t_4.1.Lo).toNat s7.cap) l_15:=h14.sub' hl_15 1 rfl
       refine q_x (v:=(subS s7 1 (1 : Int).toNat (goLen t_4.1.Lo).toNat s7.cap).v) hF hS (ex_slice Try.underlying23 sz28 rfl rfl rfl (.inr ⟨_,rfl⟩) (.inl ⟨rfl,h14.jlen⟩) (h14.subok hl_15)) rfl rfl fun a hF=>q_x (v:=(.pointer (some ⟨b10,2,none⟩))) hF hS (ex_fieldAddr Try.underlying50 rfl sz23 rfl rfl) rfl rfl fun a hF=>q_store (vs:=[(subS s7 1 (1 : Int).toNat (goLen t_4.1.Lo).toNat s7.cap).v]) (cs':=[s5.v,s6.v,(subS s7 1 (1 : Int).toNat (goLen t_4.1.Lo).toNat s7.cap).v,s8.v]) 1 0 hF hS sz23 rfl rfl rfl rfl rfl rfl rfl rfl fun a w hF hS=>q_end (n_jn ?_)
       obtain rfl:=someI hj5
       exact ⟨m14,q6,s6,(subS s7 1 (1 : Int).toNat (goLen t_4.1.Lo).toNat s7.cap),q8,_,_,rfl,hF.sub ⟨rfl,rfl,trivial⟩,hS.sel [2,3,4,0,1,5] (by decide),hm14,(h13.mono hm14.le),(hk13.trans hk9),(h5.mono hm14.le),(h6.mono hm14.le),h16,(h8.mono hm14.le)⟩
     ·rintro a w ⟨m52,q49,s49,s50,q51,p_c_45,t_47,rfl,hF,hS,hm52,h46,h46k,h48,h49,h50,h51⟩
      refine n_jn ?_
      obtain rfl:=someI hj3
      exact ⟨m52,q49,s49,s50,q51,_,_,rfl,hF.sub ⟨rfl,rfl,trivial⟩,hS,hm52,h46,h46k,h48,h49,h50,h51⟩
    ·have hj3:=cond_t hc4 hj3
     refine q_cond_t hF rfl hc4 (e_region ⟨[12],[b10],m⟩ mixed fun w' hw'=>?_)
     have hS:=hS.below hw'
     refine e_p (v:=(.pointer (some ⟨b10,2,none⟩))) 0 hF rfl (ex_fieldAddr Try.underlying50 rfl sz23 rfl rfl) rfl rfl (by kernel_rfl) (by kernel_rfl) (by kernel_rfl) fun a hF=>e_xb (v:=s7.v) 1 1 hF hS (.head _) rfl rfl (ex_load1 0 0 Try.underlying23 rfl rfl rfl rfl) rfl rfl (by kernel_rfl) (by kernel_rfl) (by kernel_rfl) fun a hF=>?_
     obtain ⟨e_14,he_14,hj3⟩:=bindS hj3
     obtain ⟨s15,hV15⟩:=h7.view he_14
     refine e_p (v:=(elP s7 ((0 : Int).toNat * 1))) 2 hF rfl (ex_indexAddr Try.underlying23 sz28 rfl rfl (h7.idx he_14)) rfl rfl (by kernel_rfl) (by kernel_rfl) (by kernel_rfl) fun a hF=>e_x (v:=s15.v) 3 hF hS rfl (ex_loadE1 0 Try.underlying28 rfl rfl ((hV15.atH he_14).at 4 rfl) rfl rfl) rfl rfl (by kernel_rfl) (by kernel_rfl) (by kernel_rfl) (by kernel_rfl) fun a hF=>e_p (v:=(.pointer (some ⟨b10,3,none⟩))) 4 hF rfl (ex_fieldAddr Try.underlying50 rfl sz23 rfl rfl) rfl rfl (by kernel_rfl) (by kernel_rfl) (by kernel_rfl) fun a hF=>e_xb (v:=s8.v) 5 1 hF hS (.head _) rfl rfl (ex_load1 0 0 Try.underlying23 rfl rfl rfl rfl) rfl rfl (by kernel_rfl) (by kernel_rfl) (by kernel_rfl) fun a hF=>?_
     obtain ⟨e_16,he_16,hj3⟩:=bindS hj3
     obtain ⟨s17,hV17⟩:=h8.view he_16
     refine e_p (v:=(elP s8 ((0 : Int).toNat * 1))) 6 hF rfl (ex_indexAddr Try.underlying23 sz28 rfl rfl (h8.idx he_16)) rfl rfl (by kernel_rfl) (by kernel_rfl) (by kernel_rfl) fun a hF=>e_x (v:=s17.v) 7 hF hS rfl (ex_loadE1 0 Try.underlying28 rfl rfl ((hV17.atH he_16).at 5 rfl) rfl rfl) rfl rfl (by kernel_rfl) (by kernel_rfl) (by kernel_rfl) (by kernel_rfl) fun a hF=>?_
     obtain ⟨e_18,he_18,hj3⟩:=bindS hj3
     obtain ⟨vs19,at19,d19⟩:=hV17.at he_16 he_18 1 rfl
     obtain rfl : vs19 = [(iV e_18)]:=d19
     refine e_p (v:=(elP s17 ((0 : Int).toNat * 1))) 8 hF rfl (ex_indexAddr Try.underlying28 sz3 rfl rfl (hV17.idx he_16 he_18)) rfl rfl (by kernel_rfl) (by kernel_rfl) (by kernel_rfl) fun a hF=>e_x (v:=(iV e_18)) 9 hF hS rfl (ex_loadE1 0 Try.underlying3 rfl rfl (at19.at 5 rfl) rfl rfl) rfl rfl (by kernel_rfl) (by kernel_rfl) (by kernel_rfl) (by kernel_rfl) fun a hF=>e_p (v:=(iV (w64 (e_18 + 1)))) 10 hF rfl (ex_ibin rfl rfl rfl) rfl rfl (by kernel_rfl) (by kernel_rfl) (by kernel_rfl) fun a hF=>?_
     obtain ⟨e_20,he_20,hj3⟩:=bindS hj3
     obtain ⟨vs21,at21,d21⟩:=hV15.at he_14 he_20 1 rfl
     obtain rfl : vs21 = [(iV e_20)]:=d21
     refine e_p (v:=(elP s15 ((0 : Int).toNat * 1))) 11 hF rfl (ex_indexAddr Try.underlying28 sz3 rfl rfl (hV15.idx he_14 he_20)) rfl rfl (by kernel_rfl) (by kernel_rfl) (by kernel_rfl) fun a hF=>e_one 12 (by kernel_rfl) ?_
     have hS : St _ _ _ _ [q7,[⟨b_p_c,[s1.v,(iV t_12.2.at_),(.int .u64 t_12.2.seed.v)],90⟩],[⟨b10,[s5.v,s6.v,s7.v,s8.v],50⟩],q5,q6,q8,[⟨b2,[nilS.v,nilS.v,nilS.v,nilS.v],50⟩]]:=hS.sel [4,0,1,2,3,5,6] (by decide)
     have hSo:=hS
     refine e_opl rfl rfl rfl fun _ hK=>wp_storeV (e':=(w64 (e_18 + 1))) (us:=[(iV (w64 (e_18 + 1)))]) (vs:=[(iV e_20)]) 0 hF hS hV15 he_14 sz3 rfl rfl rfl rfl rfl rfl rfl he_20 at21 rfl rfl rfl fun w q22 hS h22=>hK _ _ (⟨⟨kpC hSo hS 2 2 rfl rfl kpN,fun _=>hS.vis.of_le (Mem.le.refl _)⟩,?_⟩)
     refine e_end (by kernel_rfl) (n_jn ?_) _
     obtain rfl:=someI hj3
     obtain ⟨mf25,hmf25,hS,hzf25⟩:=hS.freeze
     have hf25:=h22.own.froz hmf25.le hzf25
     have hf25_1:=(h22.froz (goAt_goSet he_14) hmf25.le (hzf25))
     exact ⟨mf25,q6,s6,s7,q8,_,_,rfl,hF.sub ⟨rfl,rfl,trivial⟩,hS.sel [2,3,4,0,1,5] (by decide),hmf25,(h13.mono hmf25.le),(hk13.trans hk9),(h5.mono hmf25.le),(h6.mono hmf25.le),hf25,(h8.mono hmf25.le)⟩
   ·rintro a w ⟨m60,q57,s57,s58,q59,p_c_53,t_55,rfl,hF,hS,hm60,h54,h54k,h56,h57,h58,h59⟩
    refine n_jn ?_
    obtain rfl:=someI hj1
    exact ⟨m60,q5,q57,s57,s58,q59,_,_,rfl,hF.sub ⟨rfl,rfl,trivial⟩,hS,hm60,h54,h54k,h56,h57,h58,h59⟩
  ·have hj1:=cond_t hc2 hj1
   refine q_cond_t hF rfl hc2 (e_region ⟨[4,6],[b10],m⟩ mixed fun w' hw'=>?_)
   have hS:=hS.below hw'
   refine e_p (v:=(.pointer (some ⟨b10,0,none⟩))) 0 hF rfl (ex_fieldAddr Try.underlying50 rfl sz28 rfl rfl) rfl rfl (by kernel_rfl) (by kernel_rfl) (by kernel_rfl) fun a hF=>e_xb (v:=s5.v) 1 1 hF hS (.head _) rfl rfl (ex_load1 0 0 Try.underlying28 rfl rfl rfl rfl) rfl rfl (by kernel_rfl) (by kernel_rfl) (by kernel_rfl) fun a hF=>e_p (v:=(.pointer (some ⟨b_p_c,0,none⟩))) 2 hF rfl (ex_move rfl) rfl rfl (by kernel_rfl) (by kernel_rfl) (by kernel_rfl) fun a hF=>e_one 3 (by kernel_rfl) (e_op rfl rfl fun _ hK=>wp_buildSlice' (l:=([-1,100000,100001] : List Int)) (cells:=[(iV (-1)),(iV 100000),(iV 100001)]) hF hS Try.underlying28 inf3 rfl rfl (by kernel_rfl) rfl rfl rfl ⟨rfl,rfl,rfl,rfl⟩ rfl rfl fun a w q14 s14 hF hS h14 hb=>hK _ _ hb (e_one 4 (by kernel_rfl) ?_))
   have hS : St _ _ _ _ [[⟨b_p_c,[s1.v,(iV t_12.2.at_),(.int .u64 t_12.2.seed.v)],90⟩],q14,[⟨b10,[s5.v,s6.v,s7.v,s8.v],50⟩],q5,q6,q7,q8,[⟨b2,[nilS.v,nilS.v,nilS.v,nilS.v],50⟩]]:=hS.sel [1,0,2,3,4,5,6,7] (by decide)
   have hS15 : St _ _ _ _ ([[⟨b_p_c,[s1.v,(iV t_12.2.at_),(.int .u64 t_12.2.seed.v)],90⟩]]++[q14,[⟨b10,[s5.v,s6.v,s7.v,s8.v],50⟩],q5,q6,q7,q8,[⟨b2,[nilS.v,nilS.v,nilS.v,nilS.v],50⟩]]):=hS
   obtain ⟨m15,hl15,hE15,hz15⟩:=hS15.lendX
   obtain ⟨t_16,ht_16,hj1⟩:=bindS hj1
   have hSo:=hS
   refine e_opl rfl rfl rfl fun _ hK=>wp_callX (vs:=[(.pointer (some ⟨b_p_c,0,none⟩)),s14.v]) hF Try.func74 (by kernel_rfl) rfl rfl rfl (c_spec_l1Cur_among t_12.2 ([-1,100000,100001] : List Int) t_16 ht_16 _ m15 b_p_c s1 (h13.mono hl15) s14 (h14.froz hl15 (hz15 0 _ rfl)) _ hE15) fun a w _ hR hF=>hK _ _ ?_
   obtain ⟨rfl,hR15,hk17⟩:=hR
   have hS : St _ _ _ _ [[⟨b_p_c,[s1.v,(iV t_16.2.at_),(.int .u64 t_16.2.seed.v)],90⟩],q14,[⟨b10,[s5.v,s6.v,s7.v,s8.v],50⟩],q5,q6,q7,q8,[⟨b2,[nilS.v,nilS.v,nilS.v,nilS.v],50⟩]]:=hS15.leaveF hR15
   have h17 : Rd m s1 t_16.2.code:=by rw [hk17]; exact h13
   refine ⟨⟨kpC hSo hS 2 2 rfl rfl kpN,fun _=>hS.vis.of_le (Mem.le.refl _)⟩,?_⟩
   obtain ⟨e_18,he_18,hj1⟩:=bindS hj1
   obtain ⟨vs19,at19,d19⟩:=h5.at he_18 1 rfl
   obtain rfl : vs19 = [(iV e_18)]:=d19
   refine e_p (v:=(elP s5 ((0 : Int).toNat * 1))) 5 hF rfl (ex_indexAddr Try.underlying28 sz3 rfl rfl (h5.idx he_18)) rfl rfl (by kernel_rfl) (by kernel_rfl) (by kernel_rfl) fun a hF=>e_one 6 (by kernel_rfl) ?_
   have hS : St _ _ _ _ [q5,[⟨b_p_c,[s1.v,(iV t_16.2.at_),(.int .u64 t_16.2.seed.v)],90⟩],q14,[⟨b10,[s5.v,s6.v,s7.v,s8.v],50⟩],q6,q7,q8,[⟨b2,[nilS.v,nilS.v,nilS.v,nilS.v],50⟩]]:=hS.sel [3,0,1,2,4,5,6,7] (by decide)
   have hSo:=hS
   refine e_opl rfl rfl rfl fun _ hK=>wp_storeE (e':=t_16.1) (us:=[(iV t_16.1)]) (vs:=[(iV e_18)]) 0 hF hS h5 sz3 rfl rfl rfl rfl rfl rfl rfl he_18 at19 rfl rfl rfl fun w q20 hS h20=>hK _ _ (⟨⟨kpC hSo hS 3 3 rfl rfl kpN,fun _=>hS.vis.of_le (Mem.le.refl _)⟩,?_⟩)
   refine e_end (by kernel_rfl) (n_jn ?_) _
   obtain rfl:=someI hj1
   have hS : St _ _ _ _ [q7,q20,[⟨b_p_c,[s1.v,(iV t_16.2.at_),(.int .u64 t_16.2.seed.v)],90⟩],q14,[⟨b10,[s5.v,s6.v,s7.v,s8.v],50⟩],q6,q8,[⟨b2,[nilS.v,nilS.v,nilS.v,nilS.v],50⟩]]:=hS.sel [5,0,1,2,3,4,6,7] (by decide)
   obtain ⟨mf26,hmf26,hS,hzf26⟩:=hS.freeze
   have hf26:=h7.froz hmf26.le hzf26
   exact ⟨mf26,q20,q6,s6,s7,q8,_,_,rfl,hF.sub ⟨rfl,rfl,trivial⟩,hS.sel [0,4,5,1,3,6] (by decide),hmf26,(h17.mono hmf26.le),(hk17.trans (hk13.trans hk9)),(h20.mono hmf26.le),(h6.mono hmf26.le),hf26,(h8.mono hmf26.le)⟩
 ·rintro a w ⟨m68,q64,q65,s65,s66,q67,p_c_61,t_63,rfl,hF,hS,hm68,h62,h62k,h64,h65,h66,h67⟩
  refine n_ib (n_sq ?_)
  refine q_seq (q_region (q_x (v:=(.agg #[s5.v,s65.v,s66.v,s8.v])) hF hS (ex_loadA (vs:=[s5.v,s65.v,s66.v,s8.v]) 4 0 Try.underlying50 rfl sz50 rfl rfl rfl rfl) rfl rfl fun a hF=>q_store (vs:=[s5.v,s65.v,s66.v,s8.v]) (cs':=[s5.v,s65.v,s66.v,s8.v]) 5 0 hF hS sz50 rfl rfl rfl rfl rfl rfl rfl rfl fun a w hF hS=>q_end (n_sq (q_ret ?_))))
  obtain rfl:=someI hr
  have hS : St _ _ _ _ [q67,q64,q65,[⟨b_p_c,[s1.v,(iV p_c_61.at_),(.int .u64 p_c_61.seed.v)],90⟩],[⟨b10,[s5.v,s65.v,s66.v,s8.v],50⟩],[⟨b2,[s5.v,s65.v,s66.v,s8.v],50⟩]]:=hS.sel [2,0,1,3,4,5] (by decide)
  obtain ⟨m69,q69,hm69,hS,h69⟩:=hS.shallow h67
  exact ret_ofX hF hS rfl (.cellA (us:=[s5.v,s65.v,s66.v,s8.v]) 5 0 Try.underlying50 rfl sz50 rfl rfl rfl rfl .nil) ⟨m69,q64,q65,q69,s5,s65,s66,s8,rfl,(hm68.trans hm69),hS.sel [3,1,2,0] (by decide),(h64.mono hm69.le),(h65.mono hm69.le),(h66.mono hm69.le),h69,h62k⟩

theorem c_spec_DrawIsTransport (p_code : List (K .u8)) (r : impl_Transport) (hr : spec_DrawIsTransport p_code = some r) (w0 : World) (m : Mem) (hv : Vis m w0) (s1 : Sl) (h1 : Rd m s1 p_code) :
  Ret Try.prog 122 [s1.v] w0 (fun v w=>∃ (m' : Mem) (q0' : Piece) (q1' : Piece) (q3' : Piece) (s0' : Sl) (s1' : Sl) (s2' : Sl) (s3' : Sl),v = (.agg #[s0'.v,s1'.v,s2'.v,s3'.v])∧MLe [] w0.heap.size m m'∧St [] w0 w m' [q0',q1',q3']∧OwnL m' 3 q0' s0' r.Rows∧OwnL m' 3 q1' s1' r.Cols∧Rd m' s2' r.Lo∧OwnL m' 28 q3' s3' r.Hi):=by
 unfold spec_DrawIsTransport at hr
 refine ret_start Try.func122 rfl 9 rfl rfl m hv fun a hF hS=>q_seq (q_region (q_alloc (cs:=[nilS.v,nilS.v,nilS.v,nilS.v]) hF hS rfl rfl rfl fun a w b2 hF hS=>q_end (n_sq (q_seq (q_region (q_x (v:=s1.v) hF hS (ex_move rfl) rfl rfl fun a hF=>q_x (v:=(.agg #[s1.v,(iV 0),(.int .u64 0)])) hF hS (ex_build (cells:=[s1.v,(iV 0),(.int .u64 0)]) rfl (by kernel_rfl)) rfl rfl fun a hF=>q_box (cs:=[s1.v,(iV 0),(.int .u64 0)]) hF hS rfl rfl rfl fun a w b3 hF hS=>q_x (v:=(.pointer (some ⟨b3,0,none⟩))) hF hS (ex_assign rfl) rfl rfl fun a hF=>q_end (n_sq (q_seq (q_region (q_x (v:=(.pointer (some ⟨b3,0,none⟩))) hF hS (ex_move rfl) rfl rfl fun a hF=>?_))))))))))
 have hS4 : St _ _ _ _ ([[⟨b3,[s1.v,(iV 0),(.int .u64 0)],90⟩]]++[[⟨b2,[nilS.v,nilS.v,nilS.v,nilS.v],50⟩]]):=hS
 have hE4:=hS4.enter
 obtain ⟨t_5,ht_5,hr⟩:=bindS hr
 refine q_do rfl fun _ hK=>wp_callX (vs:=[(.pointer (some ⟨b3,0,none⟩))]) hF Try.func166 (by kernel_rfl) rfl rfl rfl (c_spec_l1Cur_anyTransport (spec_l1Cur.mk p_code 0 (⟨0⟩ : K .u64)) t_5 ht_5 _ m b3 s1 h1 _ hE4) fun a w _ hR hF=>hK _ _ ?_
 obtain ⟨m4',q6,q7,q9,s6,s7,s8,s9,rfl,hm4,hR4,h6,h7,h8,h9,hk10⟩:=hR
 have hS : St _ _ _ _ [[⟨b3,[s1.v,(iV t_5.2.at_),(.int .u64 t_5.2.seed.v)],90⟩],q6,q7,q9,[⟨b2,[nilS.v,nilS.v,nilS.v,nilS.v],50⟩]]:=hS4.leave hR4 hm4
 have hm4:=MLe.weakX hS4 hm4
 have h10 : Rd m4' s1 t_5.2.code:=by rw [hk10]; exact (h1.mono hm4.le)
 refine q_store (vs:=[s6.v,s7.v,s8.v,s9.v]) (cs':=[s6.v,s7.v,s8.v,s9.v]) 4 0 hF hS sz50 rfl rfl rfl rfl rfl rfl rfl rfl fun a w hF hS=>q_end (n_sq (q_ret ?_))
 obtain rfl:=someI hr
 exact ret_of hF hS rfl (.cellA (us:=[s6.v,s7.v,s8.v,s9.v]) 4 0 Try.underlying50 rfl sz50 rfl rfl rfl rfl .nil) ⟨m4',q6,q7,q9,s6,s7,s8,s9,rfl,hm4,hS.sel [1,2,3] (by decide),h6,h7,h8,h9⟩

theorem c_spec_DrawFirstFlow (p_code : List (K .u8)) (r : impl_Transport) (hr : spec_DrawFirstFlow p_code = some r) (w0 : World) (m : Mem) (hv : Vis m w0) (s1 : Sl) (h1 : Rd m s1 p_code) :
  Ret Try.prog 44 [s1.v] w0 (fun v w=>∃ (m' : Mem) (q0' : Piece) (q1' : Piece) (q3' : Piece) (s0' : Sl) (s1' : Sl) (s2' : Sl) (s3' : Sl),v = (.agg #[s0'.v,s1'.v,s2'.v,s3'.v])∧MLe [] w0.heap.size m m'∧St [] w0 w m' [q0',q1',q3']∧OwnL m' 3 q0' s0' r.Rows∧OwnL m' 3 q1' s1' r.Cols∧Rd m' s2' r.Lo∧OwnL m' 28 q3' s3' r.Hi):=by
 unfold spec_DrawFirstFlow at hr
 refine ret_start Try.func44 rfl 5 rfl rfl m hv fun a hF hS=>q_seq (q_region (q_alloc (cs:=[nilS.v,nilS.v,nilS.v,nilS.v]) hF hS rfl rfl rfl fun a w b2 hF hS=>q_end (n_sq (q_seq (q_region (q_x (v:=s1.v) hF hS (ex_move rfl) rfl rfl fun a hF=>?_))))))
 obtain ⟨t_3,ht_3,hr⟩:=bindS hr
 refine q_call (vs:=[s1.v]) hF hS Try.func122 (by kernel_rfl) rfl rfl rfl (c_spec_DrawIsTransport p_code t_3 ht_3 _ m hS.vis s1 h1) ?_
 have hT:=hS
 rintro a w _ ⟨m4,q5,q6,q8,s5,s6,s7,s8,rfl,hm4,hR4,h5,h6,h7,h8⟩ hF hS2
 have hS : St _ _ _ _ [q5,q6,q8,[⟨b2,[nilS.v,nilS.v,nilS.v,nilS.v],50⟩]]:=hS.join hR4 hm4
 have hm4:=MLe.weakX (O0:=[]) hT hm4
 refine q_store (vs:=[s5.v,s6.v,s7.v,s8.v]) (cs':=[s5.v,s6.v,s7.v,s8.v]) 3 0 hF hS sz50 rfl rfl rfl rfl rfl rfl rfl rfl fun a w hF hS=>q_end (n_sq (q_ret ?_))
 obtain rfl:=someI hr
 exact ret_of hF hS rfl (.cellA (us:=[s5.v,s6.v,s7.v,s8.v]) 3 0 Try.underlying50 rfl sz50 rfl rfl rfl rfl .nil) ⟨m4,q5,q6,q8,s5,s6,s7,s8,rfl,hm4,hS.sel [0,1,2] (by decide),h5,h6,h7,h8⟩

theorem c_impl_areSums (p_l : List Int) (r : Bool) (hr : impl_areSums p_l = some r) (w0 : World) (m : Mem) (hv : Vis m w0) (s1 : Sl) (h1 : Rd m s1 p_l) :
  Ret Try.prog 144 [s1.v] w0 (fun v _=>v = (.bool r)):=by
 unfold impl_areSums at hr
 refine ret_start Try.func144 rfl 26 rfl rfl m hv fun a hF hS=>q_seq (q_region (q_x (v:=(.bool false)) hF hS (ex_assign rfl) rfl rfl fun a hF=>q_end (n_sq (q_seq (q_seq ?_)))))
 obtain ⟨t_2,hj1,hr⟩:=bindS hr
 refine q_join (fun a w=>Fr a 26 [(0,s1.v),(12,(.bool t_2))]∧St [] w0 w m []) ?_ ?_
 ·refine q_region (q_x (v:=s1.v) hF hS (ex_move rfl) rfl rfl fun a hF=>q_x (v:=(iV (goLen p_l))) hF hS (ex_len Try.underlying28 rfl h1.len) rfl rfl fun a hF=>q_x (v:=(.bool (decide ((goLen p_l) < 1)))) hF hS (ex_ibin rfl rfl rfl) rfl rfl fun a hF=>q_x (v:=(.bool (decide ((goLen p_l) < 1)))) hF hS (ex_move rfl) rfl rfl fun a hF=>?_)
  rcases bcase (decide ((goLen p_l) < 1)) with hc2 | hc2
  ·have hj1:=cond_f hc2 hj1
   refine q_xg (v:=s1.v) hF hS (ex_move rfl) (wanted_t hF rfl rfl rfl hc2) rfl fun a hF=>q_xg (v:=(iV (goLen p_l))) hF hS (ex_len Try.underlying28 rfl h1.len) (wanted_t hF rfl rfl rfl hc2) rfl fun a hF=>q_xg (v:=(.bool (decide (8 < (goLen p_l))))) hF hS (ex_ibin rfl rfl rfl) (wanted_t hF rfl rfl rfl hc2) rfl fun a hF=>q_x (v:=(.bool (decide (8 < (goLen p_l))))) hF hS (ex_pick_f rfl rfl hc2) rfl rfl fun a hF=>q_end (n_jn ?_)
   obtain rfl:=someI hj1
   exact ⟨hF.sub ⟨rfl,rfl,trivial⟩,hS⟩
  ·have hj1:=cond_t hc2 hj1
   refine q_skip hF (wanted_f hF rfl rfl rfl hc2 rfl) rfl fun a hF=>q_skip hF (wanted_f hF rfl rfl rfl hc2 rfl) rfl fun a hF=>q_skip hF (wanted_f hF rfl rfl rfl hc2 rfl) rfl fun a hF=>q_x (v:=(.bool true)) hF hS (ex_pick_t rfl rfl hc2) rfl rfl fun a hF=>q_end (n_jn ?_)
   obtain rfl:=someI hj1
   exact ⟨hF.sub ⟨rfl,rfl,trivial⟩,hS⟩
 ·rintro a w ⟨hF,hS⟩
  refine n_sq ?_
  rcases bcase (t_2) with hc3 | hc3
  ·have hr:=cond_f hc3 hr
   refine q_cond_f hF rfl hc3 (q_skipc (n_sq (q_seq (q_seq (q_region (q_x (v:=s1.v) hF hS (ex_move rfl) rfl rfl fun a hF=>q_x (v:=(iV (goLen p_l))) hF hS (ex_len Try.underlying28 rfl h1.len) rfl rfl fun a hF=>q_x (v:=(iV 0)) hF hS (ex_move rfl) rfl rfl fun a hF=>q_end (n_sq (q_block ?_))))))))
   obtain ⟨o4,hl4,hr⟩:=bindS hr
   refine q_loop (fun (t_3 : Int) a w=>Fr a 26 [(13,s1.v),(14,(iV (goLen p_l))),(15,(iV t_3))]∧St [] w0 w m []) (fun (o : (Unit) ⊕ (Bool)) e a w=>o = .inl ()∧e = .exit 0∧Fr a 26 []∧St [] w0 w m []) hl4 ⟨hF.sub ⟨rfl,rfl,rfl,trivial⟩,hS⟩ ?_ ?_
   ·clear hF hS
    rintro t_3 a w st ⟨hF,hS⟩ hb4
    unfold impl_areSums_l1 at hb4
    refine q_seq (q_region (q_x (v:=(.bool (decide (t_3 < (goLen p_l))))) hF hS (ex_ibin rfl rfl rfl) rfl rfl fun a hF=>q_end (n_sq (q_seq ?_))))
    rcases bcase (decide (t_3 < (goLen p_l))) with hc5 | hc5
    ·have hb4:=cond_f hc5 hb4
     refine q_cond_f hF rfl hc5 (q_exit (x_sq ?_))
     obtain rfl:=someI hb4
     exact ⟨nofun,.inl ⟨rfl,rfl,hF.sub trivial,hS⟩⟩
    ·have hb4:=cond_t hc5 hb4
     refine q_cond_t hF rfl hc5 (q_skipc (n_sq (q_seq (q_block (q_seq (q_region ?_))))))
     obtain ⟨e_4,he_4,hb4⟩:=bindS hb4
     obtain ⟨vs5,at5,d5⟩:=h1.at he_4 1 rfl
     obtain rfl : vs5 = [(iV e_4)]:=d5
     refine q_x (v:=(elP s1 (t_3.toNat * 1))) hF hS (ex_indexAddr Try.underlying28 sz3 rfl rfl (h1.idx he_4)) rfl rfl fun a hF=>q_x (v:=(iV e_4)) hF hS (ex_loadE1 0 Try.underlying3 rfl rfl ((at5).at) rfl rfl) rfl rfl fun a hF=>q_x (v:=(iV e_4)) hF hS (ex_assign rfl) rfl rfl fun a hF=>q_end (n_sq (q_seq ?_))
     obtain ⟨t_6,hj6,hb4⟩:=bindS hb4
     refine q_join (fun a w=>Fr a 26 [(13,s1.v),(14,(iV (goLen p_l))),(15,(iV t_3)),(24,(.bool t_6))]∧St [] w0 w m []) ?_ ?_
     ·refine q_region (q_x (v:=(iV e_4)) hF hS (ex_move rfl) rfl rfl fun a hF=>q_x (v:=(.bool (decide (e_4 < 0)))) hF hS (ex_ibin rfl rfl rfl) rfl rfl fun a hF=>q_x (v:=(.bool (decide (e_4 < 0)))) hF hS (ex_move rfl) rfl rfl fun a hF=>?_)
      rcases bcase (decide (e_4 < 0)) with hc7 | hc7
      ·have hj6:=cond_f hc7 hj6
       refine q_xg (v:=(iV e_4)) hF hS (ex_move rfl) (wanted_t hF rfl rfl rfl hc7) rfl fun a hF=>q_xg (v:=(.bool (decide (100000 < e_4)))) hF hS (ex_ibin rfl rfl rfl) (wanted_t hF rfl rfl rfl hc7) rfl fun a hF=>q_x (v:=(.bool (decide (100000 < e_4)))) hF hS (ex_pick_f rfl rfl hc7) rfl rfl fun a hF=>q_end (n_jn ?_)
       obtain rfl:=someI hj6
       exact ⟨hF.sub ⟨rfl,rfl,rfl,rfl,trivial⟩,hS⟩
      ·have hj6:=cond_t hc7 hj6
       refine q_skip hF (wanted_f hF rfl rfl rfl hc7 rfl) rfl fun a hF=>q_skip hF (wanted_f hF rfl rfl rfl hc7 rfl) rfl fun a hF=>q_x (v:=(.bool true)) hF hS (ex_pick_t rfl rfl hc7) rfl rfl fun a hF=>q_end (n_jn ?_)
       obtain rfl:=someI hj6
       exact ⟨hF.sub ⟨rfl,rfl,rfl,rfl,trivial⟩,hS⟩
     ·rintro a w ⟨hF,hS⟩
      refine n_sq ?_
      rcases bcase (t_6) with hc8 | hc8
      ·have hb4:=cond_f hc8 hb4
       refine q_cond_f hF rfl hc8 (q_skipc (n_ib (n_sq (q_region (q_x (v:=(iV (w64 (t_3 + 1)))) hF hS (ex_ibin rfl rfl rfl) rfl rfl fun a hF=>q_x (v:=(iV (w64 (t_3 + 1)))) hF hS (ex_move rfl) rfl rfl fun a hF=>q_end ?_)))))
       obtain rfl:=someI hb4
       exact ⟨rfl,hF.sub ⟨rfl,rfl,rfl,trivial⟩,hS⟩
      ·have hb4:=cond_t hc8 hb4
       refine q_cond_t hF rfl hc8 (q_seq (q_region (q_x (v:=(.bool false)) hF hS (ex_assign rfl) rfl rfl fun a hF=>q_end (n_sq (q_ret (r_ib (r_sq ?_)))))))
       obtain rfl:=someI hb4
       refine ⟨nofun,.inr fun ho=>?_⟩
       subst ho
       refine r_ib (r_sq ?_)
       obtain rfl:=someI hr
       exact ret_of hF hS rfl (.tmp rfl .nil) rfl
   ·rintro e a w ⟨rfl,rfl,hF,hS⟩
    refine x_ib (n_sq ?_)
    refine q_seq (q_region (q_x (v:=(.bool true)) hF hS (ex_assign rfl) rfl rfl fun a hF=>q_end (n_sq (q_ret ?_))))
    obtain rfl:=someI hr
    exact ret_of hF hS rfl (.tmp rfl .nil) rfl
  ·have hr:=cond_t hc3 hr
   refine q_cond_t hF rfl hc3 (q_seq (q_region (q_x (v:=(.bool false)) hF hS (ex_assign rfl) rfl rfl fun a hF=>q_end (n_sq (q_ret (r_sq ?_))))))
   obtain rfl:=someI hr
   exact ret_of hF hS rfl (.tmp rfl .nil) rfl

theorem c_impl_hasShape (p_x : List (List Int)) (p_rows : Int) (p_cols : Int) (r : Bool) (hr : impl_hasShape p_x p_rows p_cols = some r) (w0 : World) (m : Mem) (hv : Vis m w0) (s1 : Sl) (h1 : Rd m s1 p_x) :
  Ret Try.prog 88 [s1.v,(iV p_rows),(iV p_cols)] w0 (fun v _=>v = (.bool r)):=by
 unfold impl_hasShape at hr
 refine ret_start Try.func88 rfl 24 rfl rfl m hv fun a hF hS=>q_seq (q_region (q_x (v:=(.bool false)) hF hS (ex_assign rfl) rfl rfl fun a hF=>q_end (n_sq (q_seq (q_seq (q_region (q_x (v:=s1.v) hF hS (ex_move rfl) rfl rfl fun a hF=>q_x (v:=(iV (goLen p_x))) hF hS (ex_len Try.underlying23 rfl h1.len) rfl rfl fun a hF=>q_x (v:=(iV p_rows)) hF hS (ex_move rfl) rfl rfl fun a hF=>q_x (v:=(.bool ((goLen p_x) != p_rows))) hF hS (ex_ibin rfl rfl rfl) rfl rfl fun a hF=>q_end (n_sq ?_))))))))
 rcases bcase ((goLen p_x) != p_rows) with hc1 | hc1
 ·have hr:=cond_f hc1 hr
  refine q_cond_f hF rfl hc1 (q_skipc (n_sq (q_seq (q_seq (q_region (q_x (v:=s1.v) hF hS (ex_move rfl) rfl rfl fun a hF=>q_x (v:=(iV (goLen p_x))) hF hS (ex_len Try.underlying23 rfl h1.len) rfl rfl fun a hF=>q_x (v:=(iV 0)) hF hS (ex_move rfl) rfl rfl fun a hF=>q_end (n_sq (q_block ?_))))))))
  obtain ⟨o2,hl2,hr⟩:=bindS hr
  refine q_loop (fun (t_2 : Int) a w=>Fr a 24 [(2,(iV p_cols)),(13,s1.v),(14,(iV (goLen p_x))),(15,(iV t_2))]∧St [] w0 w m []) (fun (o : (Unit) ⊕ (Bool)) e a w=>o = .inl ()∧e = .exit 0∧Fr a 24 []∧St [] w0 w m []) hl2 ⟨hF.sub ⟨rfl,rfl,rfl,rfl,trivial⟩,hS⟩ ?_ ?_
  ·clear hF hS
   rintro t_2 a w st ⟨hF,hS⟩ hb2
   unfold impl_hasShape_l1 at hb2
   refine q_seq (q_region (q_x (v:=(.bool (decide (t_2 < (goLen p_x))))) hF hS (ex_ibin rfl rfl rfl) rfl rfl fun a hF=>q_end (n_sq (q_seq ?_))))
   rcases bcase (decide (t_2 < (goLen p_x))) with hc3 | hc3
   ·have hb2:=cond_f hc3 hb2
    refine q_cond_f hF rfl hc3 (q_exit (x_sq ?_))
    obtain rfl:=someI hb2
    exact ⟨nofun,.inl ⟨rfl,rfl,hF.sub trivial,hS⟩⟩
   ·have hb2:=cond_t hc3 hb2
    refine q_cond_t hF rfl hc3 (q_skipc (n_sq (q_seq (q_block (q_seq (q_region ?_))))))
    obtain ⟨e_3,he_3,hb2⟩:=bindS hb2
    obtain ⟨vs4,at4,d4⟩:=h1.at he_3 1 rfl
    obtain ⟨s5,rfl,h5⟩ : ∃ s5 : Sl,vs4 = [s5.v]∧Rd m s5 e_3:=d4
    refine q_x (v:=(elP s1 (t_2.toNat * 1))) hF hS (ex_indexAddr Try.underlying23 sz28 rfl rfl (h1.idx he_3)) rfl rfl fun a hF=>q_x (v:=s5.v) hF hS (ex_loadE1 0 Try.underlying28 rfl rfl ((at4).at) rfl rfl) rfl rfl fun a hF=>q_x (v:=s5.v) hF hS (ex_assign rfl) rfl rfl fun a hF=>q_end (n_sq (q_seq (q_region (q_x (v:=s5.v) hF hS (ex_move rfl) rfl rfl fun a hF=>q_x (v:=(iV (goLen e_3))) hF hS (ex_len Try.underlying28 rfl h5.len) rfl rfl fun a hF=>q_x (v:=(iV p_cols)) hF hS (ex_move rfl) rfl rfl fun a hF=>q_x (v:=(.bool ((goLen e_3) != p_cols))) hF hS (ex_ibin rfl rfl rfl) rfl rfl fun a hF=>q_end (n_sq ?_)))))
    rcases bcase ((goLen e_3) != p_cols) with hc4 | hc4
    ·have hb2:=cond_f hc4 hb2
     refine q_cond_f hF rfl hc4 (q_skipc (n_ib (n_sq (q_region (q_x (v:=(iV (w64 (t_2 + 1)))) hF hS (ex_ibin rfl rfl rfl) rfl rfl fun a hF=>q_x (v:=(iV (w64 (t_2 + 1)))) hF hS (ex_move rfl) rfl rfl fun a hF=>q_end ?_)))))
     obtain rfl:=someI hb2
     exact ⟨rfl,hF.sub ⟨rfl,rfl,rfl,rfl,trivial⟩,hS⟩
    ·have hb2:=cond_t hc4 hb2
     refine q_cond_t hF rfl hc4 (q_seq (q_region (q_x (v:=(.bool false)) hF hS (ex_assign rfl) rfl rfl fun a hF=>q_end (n_sq (q_ret (r_ib (r_sq ?_)))))))
     obtain rfl:=someI hb2
     refine ⟨nofun,.inr fun ho=>?_⟩
     subst ho
     refine r_ib (r_sq ?_)
     obtain rfl:=someI hr
     exact ret_of hF hS rfl (.tmp rfl .nil) rfl
  ·rintro e a w ⟨rfl,rfl,hF,hS⟩
   refine x_ib (n_sq ?_)
   refine q_seq (q_region (q_x (v:=(.bool true)) hF hS (ex_assign rfl) rfl rfl fun a hF=>q_end (n_sq (q_ret ?_))))
   obtain rfl:=someI hr
   exact ret_of hF hS rfl (.tmp rfl .nil) rfl
 ·have hr:=cond_t hc1 hr
  refine q_cond_t hF rfl hc1 (q_seq (q_region (q_x (v:=(.bool false)) hF hS (ex_assign rfl) rfl rfl fun a hF=>q_end (n_sq (q_ret (r_sq ?_))))))
  obtain rfl:=someI hr
  exact ret_of hF hS rfl (.tmp rfl .nil) rfl

theorem c_impl_IsTransport (p_t : impl_Transport) (r : Bool) (hr : impl_IsTransport p_t = some r) (w0 : World) (m : Mem) (hv : Vis m w0) (s1 : Sl) (h1 : Rd m s1 p_t.Rows) (s2 : Sl) (h2 : Rd m s2 p_t.Cols) (s3 : Sl) (h3 : Rd m s3 p_t.Lo) (s4 : Sl) (h4 : Rd m s4 p_t.Hi) :
  Ret Try.prog 67 [(.agg #[s1.v,s2.v,s3.v,s4.v])] w0 (fun v _=>v = (.bool r)):=by
 unfold impl_IsTransport at hr
 refine ret_start Try.func67 rfl 83 rfl rfl m hv fun a hF hS=>q_seq (q_region (q_box (cs:=[s1.v,s2.v,s3.v,s4.v]) hF hS rfl rfl rfl fun a w b5 hF hS=>q_x (v:=(.bool false)) hF hS (ex_assign rfl) rfl rfl fun a hF=>q_end (n_sq (q_seq (q_seq ?_)))))
 obtain ⟨t_10,hj1,hr⟩:=bindS hr
 refine q_join (fun a w=>Fr a 83 [(1,(.pointer (some ⟨b5,0,none⟩))),(40,(.bool t_10))]∧St [] w0 w m [[⟨b5,[s1.v,s2.v,s3.v,s4.v],50⟩]]) ?_ ?_
 ·refine q_region (q_x (v:=(.pointer (some ⟨b5,0,none⟩))) hF hS (ex_fieldAddr Try.underlying50 rfl sz28 rfl rfl) rfl rfl fun a hF=>q_x (v:=s1.v) hF hS (ex_load1 0 0 Try.underlying28 rfl rfl rfl rfl) rfl rfl fun a hF=>?_)
  obtain ⟨t_6,ht_6,hj1⟩:=bindS hj1
  refine q_call (vs:=[s1.v]) hF hS Try.func144 (by kernel_rfl) rfl rfl rfl (c_impl_areSums p_t.Rows t_6 ht_6 _ m hS.vis s1 h1) ?_
  rintro a w _ rfl hF hS
  refine q_x (v:=(.bool (!t_6))) hF hS (ex_not rfl) rfl rfl fun a hF=>q_x (v:=(.bool (!t_6))) hF hS (ex_move rfl) rfl rfl fun a hF=>?_
  rcases bcase (!t_6) with hc2 | hc2
  ·have hj1:=cond_f hc2 hj1
   refine q_xg (v:=(.pointer (some ⟨b5,1,none⟩))) hF hS (ex_fieldAddr Try.underlying50 rfl sz28 rfl rfl) (wanted_t hF rfl rfl rfl hc2) rfl fun a hF=>q_xg (v:=s2.v) hF hS (ex_load1 0 0 Try.underlying28 rfl rfl rfl rfl) (wanted_t hF rfl rfl rfl hc2) rfl fun a hF=>?_
   obtain ⟨t_7,ht_7,hj1⟩:=bindS hj1
   refine q_callg (vs:=[s2.v]) hF hS (wanted_t hF rfl rfl rfl hc2) Try.func144 (by kernel_rfl) rfl rfl rfl (c_impl_areSums p_t.Cols t_7 ht_7 _ m hS.vis s2 h2) ?_
   rintro a w _ rfl hF hS
   refine q_xg (v:=(.bool (!t_7))) hF hS (ex_not rfl) (wanted_t hF rfl rfl rfl hc2) rfl fun a hF=>q_x (v:=(.bool (!t_7))) hF hS (ex_pick_f rfl rfl hc2) rfl rfl fun a hF=>q_x (v:=(.bool (!t_7))) hF hS (ex_move rfl) rfl rfl fun a hF=>?_
   rcases bcase (!t_7) with hc3 | hc3
   ·have hj1:=cond_f hc3 hj1
    refine q_xg (v:=(.pointer (some ⟨b5,2,none⟩))) hF hS (ex_fieldAddr Try.underlying50 rfl sz23 rfl rfl) (wanted_t hF rfl rfl rfl hc3) rfl fun a hF=>q_xg (v:=s3.v) hF hS (ex_load1 0 0 Try.underlying23 rfl rfl rfl rfl) (wanted_t hF rfl rfl rfl hc3) rfl fun a hF=>q_xg (v:=(.pointer (some ⟨b5,0,none⟩))) hF hS (ex_fieldAddr Try.underlying50 rfl sz28 rfl rfl) (wanted_t hF rfl rfl rfl hc3) rfl fun a hF=>q_xg (v:=s1.v) hF hS (ex_load1 0 0 Try.underlying28 rfl rfl rfl rfl) (wanted_t hF rfl rfl rfl hc3) rfl fun a hF=>q_xg (v:=(iV (goLen p_t.Rows))) hF hS (ex_len Try.underlying28 rfl h1.len) (wanted_t hF rfl rfl rfl hc3) rfl fun a hF=>q_xg (v:=(.pointer (some ⟨b5,1,none⟩))) hF hS (ex_fieldAddr Try.underlying50 rfl sz28 rfl rfl) (wanted_t hF rfl rfl rfl hc3) rfl fun a hF=>q_xg (v:=s2.v) hF hS (ex_load1 0 0 Try.underlying28 rfl rfl rfl rfl) (wanted_t hF rfl rfl rfl hc3) rfl fun a hF=>q_xg (v:=(iV (goLen p_t.Cols))) hF hS (ex_len Try.underlying28 rfl h2.len) (wanted_t hF rfl rfl rfl hc3) rfl fun a hF=>?_
    obtain ⟨t_8,ht_8,hj1⟩:=bindS hj1
    refine q_callg (vs:=[s3.v,(iV (goLen p_t.Rows)),(iV (goLen p_t.Cols))]) hF hS (wanted_t hF rfl rfl rfl hc3) Try.func88 (by kernel_rfl) rfl rfl rfl (c_impl_hasShape p_t.Lo (goLen p_t.Rows) (goLen p_t.Cols) t_8 ht_8 _ m hS.vis s3 h3) ?_
    rintro a w _ rfl hF hS
    refine q_xg (v:=(.bool (!t_8))) hF hS (ex_not rfl) (wanted_t hF rfl rfl rfl hc3) rfl fun a hF=>q_x (v:=(.bool (!t_8))) hF hS (ex_pick_f rfl rfl hc3) rfl rfl fun a hF=>q_x (v:=(.bool (!t_8))) hF hS (ex_move rfl) rfl rfl fun a hF=>?_
    rcases bcase (!t_8) with hc4 | hc4
    ·have hj1:=cond_f hc4 hj1
     refine q_xg (v:=(.pointer (some ⟨b5,3,none⟩))) hF hS (ex_fieldAddr Try.underlying50 rfl sz23 rfl rfl) (wanted_t hF rfl rfl rfl hc4) rfl fun a hF=>q_xg (v:=s4.v) hF hS (ex_load1 0 0 Try.underlying23 rfl rfl rfl rfl) (wanted_t hF rfl rfl rfl hc4) rfl fun a hF=>q_xg (v:=(.pointer (some ⟨b5,0,none⟩))) hF hS (ex_fieldAddr Try.underlying50 rfl sz28 rfl rfl) (wanted_t hF rfl rfl rfl hc4) rfl fun a hF=>q_xg (v:=s1.v) hF hS (ex_load1 0 0 Try.underlying28 rfl rfl rfl rfl) (wanted_t hF rfl rfl rfl hc4) rfl fun a hF=>q_xg (v:=(iV (goLen p_t.Rows))) hF hS (ex_len Try.underlying28 rfl h1.len) (wanted_t hF rfl rfl rfl hc4) rfl fun a hF=>q_xg (v:=(.pointer (some ⟨b5,1,none⟩))) hF hS (ex_fieldAddr Try.underlying50 rfl sz28 rfl rfl) (wanted_t hF rfl rfl rfl hc4) rfl fun a hF=>q_xg (v:=s2.v) hF hS (ex_load1 0 0 Try.underlying28 rfl rfl rfl rfl) (wanted_t hF rfl rfl rfl hc4) rfl fun a hF=>q_xg (v:=(iV (goLen p_t.Cols))) hF hS (ex_len Try.underlying28 rfl h2.len) (wanted_t hF rfl rfl rfl hc4) rfl fun a hF=>?_
     obtain ⟨t_9,ht_9,hj1⟩:=bindS hj1
     refine q_callg (vs:=[s4.v,(iV (goLen p_t.Rows)),(iV (goLen p_t.Cols))]) hF hS (wanted_t hF rfl rfl rfl hc4) Try.func88 (by kernel_rfl) rfl rfl rfl (c_impl_hasShape p_t.Hi (goLen p_t.Rows) (goLen p_t.Cols) t_9 ht_9 _ m hS.vis s4 h4) ?_
     rintro a w _ rfl hF hS
     refine q_xg (v:=(.bool (!t_9))) hF hS (ex_not rfl) (wanted_t hF rfl rfl rfl hc4) rfl fun a hF=>q_x (v:=(.bool (!t_9))) hF hS (ex_pick_f rfl rfl hc4) rfl rfl fun a hF=>q_end (n_jn ?_)
     obtain rfl:=someI hj1
     exact ⟨hF.sub ⟨rfl,rfl,trivial⟩,hS⟩
    ·have hj1:=cond_t hc4 hj1
     refine q_skip hF (wanted_f hF rfl rfl rfl hc4 rfl) rfl fun a hF=>q_skip hF (wanted_f hF rfl rfl rfl hc4 rfl) rfl fun a hF=>q_skip hF (wanted_f hF rfl rfl rfl hc4 rfl) rfl fun a hF=>q_skip hF (wanted_f hF rfl rfl rfl hc4 rfl) rfl fun a hF=>q_skip hF (wanted_f hF rfl rfl rfl hc4 rfl) rfl fun a hF=>q_skip hF (wanted_f hF rfl rfl rfl hc4 rfl) rfl fun a hF=>q_skip hF (wanted_f hF rfl rfl rfl hc4 rfl) rfl fun a hF=>q_skip hF (wanted_f hF rfl rfl rfl hc4 rfl) rfl fun a hF=>q_skip hF (wanted_f hF rfl rfl rfl hc4 rfl) rfl fun a hF=>q_skip hF (wanted_f hF rfl rfl rfl hc4 rfl) rfl fun a hF=>q_x (v:=(.bool true)) hF hS (ex_pick_t rfl rfl hc4) rfl rfl fun a hF=>q_end (n_jn ?_)
     obtain rfl:=someI hj1
     exact ⟨hF.sub ⟨rfl,rfl,trivial⟩,hS⟩
   ·have hj1:=cond_t hc3 hj1
    refine q_skip hF (wanted_f hF rfl rfl rfl hc3 rfl) rfl fun a hF=>q_skip hF (wanted_f hF rfl rfl rfl hc3 rfl) rfl fun a hF=>q_skip hF (wanted_f hF rfl rfl rfl hc3 rfl) rfl fun a hF=>q_skip hF (wanted_f hF rfl rfl rfl hc3 rfl) rfl fun a hF=>q_skip hF (wanted_f hF rfl rfl rfl hc3 rfl) rfl fun a hF=>q_skip hF (wanted_f hF rfl rfl rfl hc3 rfl) rfl fun a hF=>q_skip hF (wanted_f hF rfl rfl rfl hc3 rfl) rfl fun a hF=>q_skip hF (wanted_f hF rfl rfl rfl hc3 rfl) rfl fun a hF=>q_skip hF (wanted_f hF rfl rfl rfl hc3 rfl) rfl fun a hF=>q_skip hF (wanted_f hF rfl rfl rfl hc3 rfl) rfl fun a hF=>q_x (v:=(.bool true)) hF hS (ex_pick_t rfl rfl hc3) rfl rfl fun a hF=>q_x (v:=(.bool true)) hF hS (ex_move rfl) rfl rfl fun a hF=>q_skip hF (wanted_f hF rfl rfl rfl rfl rfl) rfl fun a hF=>q_skip hF (wanted_f hF rfl rfl rfl rfl rfl) rfl fun a hF=>q_skip hF (wanted_f hF rfl rfl rfl rfl rfl) rfl fun a hF=>q_skip hF (wanted_f hF rfl rfl rfl rfl rfl) rfl fun a hF=>q_skip hF (wanted_f hF rfl rfl rfl rfl rfl) rfl fun a hF=>q_skip hF (wanted_f hF rfl rfl rfl rfl rfl) rfl fun a hF=>q_skip hF (wanted_f hF rfl rfl rfl rfl rfl) rfl fun a hF=>q_skip hF (wanted_f hF rfl rfl rfl rfl rfl) rfl fun a hF=>q_skip hF (wanted_f hF rfl rfl rfl rfl rfl) rfl fun a hF=>q_skip hF (wanted_f hF rfl rfl rfl rfl rfl) rfl fun a hF=>q_x (v:=(.bool true)) hF hS (ex_pick_t rfl rfl rfl) rfl rfl fun a hF=>q_end (n_jn ?_)
    obtain rfl:=someI hj1
    exact ⟨hF.sub ⟨rfl,rfl,trivial⟩,hS⟩
  ·have hj1:=cond_t hc2 hj1
   refine q_skip hF (wanted_f hF rfl rfl rfl hc2 rfl) rfl fun a hF=>q_skip hF (wanted_f hF rfl rfl rfl hc2 rfl) rfl fun a hF=>q_skip hF (wanted_f hF rfl rfl rfl hc2 rfl) rfl fun a hF=>q_skip hF (wanted_f hF rfl rfl rfl hc2 rfl) rfl fun a hF=>q_x (v:=(.bool true)) hF hS (ex_pick_t rfl rfl hc2) rfl rfl fun a hF=>q_x (v:=(.bool true)) hF hS (ex_move rfl) rfl rfl fun a hF=>q_skip hF (wanted_f hF rfl rfl rfl rfl rfl) rfl fun a hF=>q_skip hF (wanted_f hF rfl rfl rfl rfl rfl) rfl fun a hF=>q_skip hF (wanted_f hF rfl rfl rfl rfl rfl) rfl fun a hF=>q_skip hF (wanted_f hF rfl rfl rfl rfl rfl) rfl fun a hF=>q_skip hF (wanted_f hF rfl rfl rfl rfl rfl) rfl fun a hF=>q_skip hF (wanted_f hF rfl rfl rfl rfl rfl) rfl fun a hF=>q_skip hF (wanted_f hF rfl rfl rfl rfl rfl) rfl fun a hF=>q_skip hF (wanted_f hF rfl rfl rfl rfl rfl) rfl fun a hF=>q_skip hF (wanted_f hF rfl rfl rfl rfl rfl) rfl fun a hF=>q_skip hF (wanted_f hF rfl rfl rfl rfl rfl) rfl fun a hF=>q_x (v:=(.bool true)) hF hS (ex_pick_t rfl rfl rfl) rfl rfl fun a hF=>q_x (v:=(.bool true)) hF hS (ex_move rfl) rfl rfl fun a hF=>q_skip hF (wanted_f hF rfl rfl rfl rfl rfl) rfl fun a hF=>q_skip hF (wanted_f hF rfl rfl rfl rfl rfl) rfl fun a hF=>q_skip hF (wanted_f hF rfl rfl rfl rfl rfl) rfl fun a hF=>q_skip hF (wanted_f hF rfl rfl rfl rfl rfl) rfl fun a hF=>q_skip hF (wanted_f hF rfl rfl rfl rfl rfl) rfl fun a hF=>q_skip hF (wanted_f hF rfl rfl rfl rfl rfl) rfl fun a hF=>q_skip hF (wanted_f hF rfl rfl rfl rfl rfl) rfl fun a hF=>?_
   refine q_skip hF (wanted_f hF rfl rfl rfl rfl rfl) rfl fun a hF=>q_skip hF (wanted_f hF rfl rfl rfl rfl rfl) rfl fun a hF=>q_skip hF (wanted_f hF rfl rfl rfl rfl rfl) rfl fun a hF=>q_x (v:=(.bool true)) hF hS (ex_pick_t rfl rfl rfl) rfl rfl fun a hF=>q_end (n_jn ?_)
   obtain rfl:=someI hj1
   exact ⟨hF.sub ⟨rfl,rfl,trivial⟩,hS⟩
 ·rintro a w ⟨hF,hS⟩
  refine n_sq ?_
  rcases bcase (t_10) with hc5 | hc5
  ·have hr:=cond_f hc5 hr
   refine q_cond_f hF rfl hc5 (q_skipc (n_sq (q_seq (q_seq (q_region (q_x (v:=(.pointer (some ⟨b5,2,none⟩))) hF hS (ex_fieldAddr Try.underlying50 rfl sz23 rfl rfl) rfl rfl fun a hF=>q_x (v:=s3.v) hF hS (ex_load1 0 0 Try.underlying23 rfl rfl rfl rfl) rfl rfl fun a hF=>q_x (v:=(iV (goLen p_t.Lo))) hF hS (ex_len Try.underlying23 rfl h3.len) rfl rfl fun a hF=>q_x (v:=(iV 0)) hF hS (ex_move rfl) rfl rfl fun a hF=>q_end (n_sq (q_block ?_))))))))
   obtain ⟨o6,hl6,hr⟩:=bindS hr
   refine q_loop (fun (t_11 : Int) a w=>Fr a 83 [(1,(.pointer (some ⟨b5,0,none⟩))),(42,s3.v),(43,(iV (goLen p_t.Lo))),(44,(iV t_11))]∧St [] w0 w m [[⟨b5,[s1.v,s2.v,s3.v,s4.v],50⟩]]) (fun (o : (Unit) ⊕ (Bool)) e a w=>o = .inl ()∧e = .exit 0∧Fr a 83 []∧St [] w0 w m []) hl6 ⟨hF.sub ⟨rfl,rfl,rfl,rfl,trivial⟩,hS⟩ ?_ ?_
   ·clear hF hS
    rintro t_11 a w st ⟨hF,hS⟩ hb6
    unfold impl_IsTransport_l1 at hb6
    refine q_seq (q_region (q_x (v:=(.bool (decide (t_11 < (goLen p_t.Lo))))) hF hS (ex_ibin rfl rfl rfl) rfl rfl fun a hF=>q_end (n_sq (q_seq ?_))))
    rcases bcase (decide (t_11 < (goLen p_t.Lo))) with hc7 | hc7
    ·have hb6:=cond_f hc7 hb6
     refine q_cond_f hF rfl hc7 (q_exit (x_sq ?_))
     obtain rfl:=someI hb6
     exact ⟨nofun,.inl ⟨rfl,rfl,hF.sub trivial,hS.mask [false]⟩⟩
    ·have hb6:=cond_t hc7 hb6
     refine q_cond_t hF rfl hc7 (q_skipc (n_sq (q_seq (q_block (q_seq (q_region (q_x (v:=(iV t_11)) hF hS (ex_move rfl) rfl rfl fun a hF=>?_)))))))
     obtain ⟨e_12,he_12,hb6⟩:=bindS hb6
     obtain ⟨vs13,at13,d13⟩:=h3.at he_12 1 rfl
     obtain ⟨s14,rfl,h14⟩ : ∃ s14 : Sl,vs13 = [s14.v]∧Rd m s14 e_12:=d13
     refine q_x (v:=(elP s3 (t_11.toNat * 1))) hF hS (ex_indexAddr Try.underlying23 sz28 rfl rfl (h3.idx he_12)) rfl rfl fun a hF=>q_x (v:=s14.v) hF hS (ex_loadE1 0 Try.underlying28 rfl rfl ((at13).at) rfl rfl) rfl rfl fun a hF=>q_x (v:=(iV t_11)) hF hS (ex_assign rfl) rfl rfl fun a hF=>q_x (v:=s14.v) hF hS (ex_assign rfl) rfl rfl fun a hF=>q_end (n_sq (q_seq (q_region (q_x (v:=s14.v) hF hS (ex_move rfl) rfl rfl fun a hF=>q_x (v:=(iV (goLen e_12))) hF hS (ex_len Try.underlying28 rfl h14.len) rfl rfl fun a hF=>q_x (v:=(iV 0)) hF hS (ex_move rfl) rfl rfl fun a hF=>q_end (n_sq (q_block ?_))))))
     obtain ⟨o8,hl8,hb6⟩:=bindS hb6
     refine q_loop (fun (t_15 : Int) a w=>Fr a 83 [(1,(.pointer (some ⟨b5,0,none⟩))),(3,(iV t_11)),(42,s3.v),(43,(iV (goLen p_t.Lo))),(44,(iV t_11)),(49,s14.v),(50,(iV (goLen e_12))),(51,(iV t_15))]∧St [] w0 w m [[⟨b5,[s1.v,s2.v,s3.v,s4.v],50⟩]]) (fun (o : (Unit) ⊕ (Stp (Int) ((Unit) ⊕ (Bool)))) e a w=>o = .inl ()∧e = .exit 2∧Fr a 83 [(1,(.pointer (some ⟨b5,0,none⟩))),(42,s3.v),(43,(iV (goLen p_t.Lo))),(44,(iV t_11))]∧St [] w0 w m [[⟨b5,[s1.v,s2.v,s3.v,s4.v],50⟩]]) hl8 ⟨hF.sub ⟨rfl,rfl,rfl,rfl,rfl,rfl,rfl,rfl,trivial⟩,hS⟩ ?_ ?_
     ·clear hF hS
      rintro t_15 a w st ⟨hF,hS⟩ hb8
      unfold impl_IsTransport_l2 at hb8
      refine q_seq (q_region (q_x (v:=(.bool (decide (t_15 < (goLen e_12))))) hF hS (ex_ibin rfl rfl rfl) rfl rfl fun a hF=>q_end (n_sq (q_seq ?_))))
      rcases bcase (decide (t_15 < (goLen e_12))) with hc9 | hc9
      ·have hb8:=cond_f hc9 hb8
       refine q_cond_f hF rfl hc9 (q_exit (x_sq ?_))
       obtain rfl:=someI hb8
       exact ⟨nofun,.inl ⟨rfl,rfl,hF.sub ⟨rfl,rfl,rfl,rfl,trivial⟩,hS⟩⟩
      ·have hb8:=cond_t hc9 hb8
       refine q_cond_t hF rfl hc9 (q_skipc (n_sq (q_seq (q_block (q_seq (q_region (q_x (v:=(iV t_15)) hF hS (ex_move rfl) rfl rfl fun a hF=>?_)))))))
       obtain ⟨e_16,he_16,hb8⟩:=bindS hb8
       obtain ⟨vs17,at17,d17⟩:=h14.at he_16 1 rfl
       obtain rfl : vs17 = [(iV e_16)]:=d17
       refine q_x (v:=(elP s14 (t_15.toNat * 1))) hF hS (ex_indexAddr Try.underlying28 sz3 rfl rfl (h14.idx he_16)) rfl rfl fun a hF=>q_x (v:=(iV e_16)) hF hS (ex_loadE1 0 Try.underlying3 rfl rfl ((at17).at) rfl rfl) rfl rfl fun a hF=>q_x (v:=(iV t_15)) hF hS (ex_assign rfl) rfl rfl fun a hF=>q_x (v:=(iV e_16)) hF hS (ex_assign rfl) rfl rfl fun a hF=>q_end (n_sq (q_seq ?_))
       obtain ⟨t_28,hj10,hb8⟩:=bindS hb8
       refine q_join (fun a w=>Fr a 83 [(1,(.pointer (some ⟨b5,0,none⟩))),(3,(iV t_11)),(42,s3.v),(43,(iV (goLen p_t.Lo))),(44,(iV t_11)),(49,s14.v),(50,(iV (goLen e_12))),(51,(iV t_15)),(80,(.bool t_28))]∧St [] w0 w m [[⟨b5,[s1.v,s2.v,s3.v,s4.v],50⟩]]) ?_ ?_
       ·refine q_region (q_x (v:=(iV e_16)) hF hS (ex_move rfl) rfl rfl fun a hF=>q_x (v:=(.bool (decide (e_16 < 0)))) hF hS (ex_ibin rfl rfl rfl) rfl rfl fun a hF=>q_x (v:=(.bool (decide (e_16 < 0)))) hF hS (ex_move rfl) rfl rfl fun a hF=>?_)
        rcases bcase (decide (e_16 < 0)) with hc11 | hc11
        ·have hj10:=cond_f hc11 hj10
         refine q_xg (v:=(iV e_16)) hF hS (ex_move rfl) (wanted_t hF rfl rfl rfl hc11) rfl fun a hF=>q_xg (v:=(.pointer (some ⟨b5,3,none⟩))) hF hS (ex_fieldAddr Try.underlying50 rfl sz23 rfl rfl) (wanted_t hF rfl rfl rfl hc11) rfl fun a hF=>q_xg (v:=s4.v) hF hS (ex_load1 0 0 Try.underlying23 rfl rfl rfl rfl) (wanted_t hF rfl rfl rfl hc11) rfl fun a hF=>q_xg (v:=(iV t_11)) hF hS (ex_move rfl) (wanted_t hF rfl rfl rfl hc11) rfl fun a hF=>?_
         obtain ⟨e_18,he_18,hj10⟩:=bindS hj10
         obtain ⟨vs19,at19,d19⟩:=h4.at he_18 1 rfl
         obtain ⟨s20,rfl,h20⟩ : ∃ s20 : Sl,vs19 = [s20.v]∧Rd m s20 e_18:=d19
         refine q_xg (v:=(elP s4 (t_11.toNat * 1))) hF hS (ex_indexAddr Try.underlying23 sz28 rfl rfl (h4.idx he_18)) (wanted_t hF rfl rfl rfl hc11) rfl fun a hF=>q_xg (v:=s20.v) hF hS (ex_loadE1 0 Try.underlying28 rfl rfl ((at19).at) rfl rfl) (wanted_t hF rfl rfl rfl hc11) rfl fun a hF=>q_xg (v:=(iV t_15)) hF hS (ex_move rfl) (wanted_t hF rfl rfl rfl hc11) rfl fun a hF=>?_
         obtain ⟨e_21,he_21,hj10⟩:=bindS hj10
         obtain ⟨vs22,at22,d22⟩:=h20.at he_21 1 rfl
         obtain rfl : vs22 = [(iV e_21)]:=d22
         refine q_xg (v:=(elP s20 (t_15.toNat * 1))) hF hS (ex_indexAddr Try.underlying28 sz3 rfl rfl (h20.idx he_21)) (wanted_t hF rfl rfl rfl hc11) rfl fun a hF=>q_xg (v:=(iV e_21)) hF hS (ex_loadE1 0 Try.underlying3 rfl rfl ((at22).at) rfl rfl) (wanted_t hF rfl rfl rfl hc11) rfl fun a hF=>q_xg (v:=(.bool (decide (e_21 < e_16)))) hF hS (ex_ibin rfl rfl rfl) (wanted_t hF rfl rfl rfl hc11) rfl fun a hF=>q_x (v:=(.bool (decide (e_21 < e_16)))) hF hS (ex_pick_f rfl rfl hc11) rfl rfl fun a hF=>q_x (v:=(.bool (decide (e_21 < e_16)))) hF hS (ex_move rfl) rfl rfl fun a hF=>?_
         rcases bcase (decide (e_21 < e_16)) with hc12 | hc12
         ·have hj10:=cond_f hc12 hj10
          refine q_xg (v:=(.pointer (some ⟨b5,3,none⟩))) hF hS (ex_fieldAddr Try.underlying50 rfl sz23 rfl rfl) (wanted_t hF rfl rfl rfl hc12) rfl fun a hF=>q_xg (v:=s4.v) hF hS (ex_load1 0 0 Try.underlying23 rfl rfl rfl rfl) (wanted_t hF rfl rfl rfl hc12) rfl fun a hF=>q_xg (v:=(iV t_11)) hF hS (ex_move rfl) (wanted_t hF rfl rfl rfl hc12) rfl fun a hF=>?_
          obtain ⟨e_23,he_23,hj10⟩:=bindS hj10
          obtain ⟨vs24,at24,d24⟩:=h4.at he_23 1 rfl
          obtain ⟨s25,rfl,h25⟩ : ∃ s25 : Sl,vs24 = [s25.v]∧Rd m s25 e_23:=d24
          refine q_xg (v:=(elP s4 (t_11.toNat * 1))) hF hS (ex_indexAddr Try.underlying23 sz28 rfl rfl (h4.idx he_23)) (wanted_t hF rfl rfl rfl hc12) rfl fun a hF=>q_xg (v:=s25.v) hF hS (ex_loadE1 0 Try.underlying28 rfl rfl ((at24).at) rfl rfl) (wanted_t hF rfl rfl rfl hc12) rfl fun a hF=>q_xg (v:=(iV t_15)) hF hS (ex_move rfl) (wanted_t hF rfl rfl rfl hc12) rfl fun a hF=>?_
          obtain ⟨e_26,he_26,hj10⟩:=bindS hj10
          obtain ⟨vs27,at27,d27⟩:=h25.at he_26 1 rfl
          obtain rfl : vs27 = [(iV e_26)]:=d27
          refine q_xg (v:=(elP s25 (t_15.toNat * 1))) hF hS (ex_indexAddr Try.underlying28 sz3 rfl rfl (h25.idx he_26)) (wanted_t hF rfl rfl rfl hc12) rfl fun a hF=>q_xg (v:=(iV e_26)) hF hS (ex_loadE1 0 Try.underlying3 rfl rfl ((at27).at) rfl rfl) (wanted_t hF rfl rfl rfl hc12) rfl fun a hF=>q_xg (v:=(.bool (decide (100000 < e_26)))) hF hS (ex_ibin rfl rfl rfl) (wanted_t hF rfl rfl rfl hc12) rfl fun a hF=>q_x (v:=(.bool (decide (100000 < e_26)))) hF hS (ex_pick_f rfl rfl hc12) rfl rfl fun a hF=>q_end (n_jn ?_)
          obtain rfl:=someI hj10
          exact ⟨hF.sub ⟨rfl,rfl,rfl,rfl,rfl,rfl,rfl,rfl,rfl,trivial⟩,hS⟩
         ·have hj10:=cond_t hc12 hj10
          refine q_skip hF (wanted_f hF rfl rfl rfl hc12 rfl) rfl fun a hF=>q_skip hF (wanted_f hF rfl rfl rfl hc12 rfl) rfl fun a hF=>q_skip hF (wanted_f hF rfl rfl rfl hc12 rfl) rfl fun a hF=>q_skip hF (wanted_f hF rfl rfl rfl hc12 rfl) rfl fun a hF=>q_skip hF (wanted_f hF rfl rfl rfl hc12 rfl) rfl fun a hF=>q_skip hF (wanted_f hF rfl rfl rfl hc12 rfl) rfl fun a hF=>q_skip hF (wanted_f hF rfl rfl rfl hc12 rfl) rfl fun a hF=>q_skip hF (wanted_f hF rfl rfl rfl hc12 rfl) rfl fun a hF=>q_skip hF (wanted_f hF rfl rfl rfl hc12 rfl) rfl fun a hF=>q_x (v:=(.bool true)) hF hS (ex_pick_t rfl rfl hc12) rfl rfl fun a hF=>q_end (n_jn ?_)
          obtain rfl:=someI hj10
          exact ⟨hF.sub ⟨rfl,rfl,rfl,rfl,rfl,rfl,rfl,rfl,rfl,trivial⟩,hS⟩
        ·have hj10:=cond_t hc11 hj10
         refine q_skip hF (wanted_f hF rfl rfl rfl hc11 rfl) rfl fun a hF=>q_skip hF (wanted_f hF rfl rfl rfl hc11 rfl) rfl fun a hF=>q_skip hF (wanted_f hF rfl rfl rfl hc11 rfl) rfl fun a hF=>q_skip hF (wanted_f hF rfl rfl rfl hc11 rfl) rfl fun a hF=>q_skip hF (wanted_f hF rfl rfl rfl hc11 rfl) rfl fun a hF=>q_skip hF (wanted_f hF rfl rfl rfl hc11 rfl) rfl fun a hF=>q_skip hF (wanted_f hF rfl rfl rfl hc11 rfl) rfl fun a hF=>q_skip hF (wanted_f hF rfl rfl rfl hc11 rfl) rfl fun a hF=>q_skip hF (wanted_f hF rfl rfl rfl hc11 rfl) rfl fun a hF=>q_skip hF (wanted_f hF rfl rfl rfl hc11 rfl) rfl fun a hF=>q_x (v:=(.bool true)) hF hS (ex_pick_t rfl rfl hc11) rfl rfl fun a hF=>q_x (v:=(.bool true)) hF hS (ex_move rfl) rfl rfl fun a hF=>q_skip hF (wanted_f hF rfl rfl rfl rfl rfl) rfl fun a hF=>q_skip hF (wanted_f hF rfl rfl rfl rfl rfl) rfl fun a hF=>q_skip hF (wanted_f hF rfl rfl rfl rfl rfl) rfl fun a hF=>q_skip hF (wanted_f hF rfl rfl rfl rfl rfl) rfl fun a hF=>q_skip hF (wanted_f hF rfl rfl rfl rfl rfl) rfl fun a hF=>q_skip hF (wanted_f hF rfl rfl rfl rfl rfl) rfl fun a hF=>q_skip hF (wanted_f hF rfl rfl rfl rfl rfl) rfl fun a hF=>q_skip hF (wanted_f hF rfl rfl rfl rfl rfl) rfl fun a hF=>q_skip hF (wanted_f hF rfl rfl rfl rfl rfl) rfl fun a hF=>q_x (v:=(.bool true)) hF hS (ex_pick_t rfl rfl rfl) rfl rfl fun a hF=>q_end (n_jn ?_)
         obtain rfl:=someI hj10
         exact ⟨hF.sub ⟨rfl,rfl,rfl,rfl,rfl,rfl,rfl,rfl,rfl,trivial⟩,hS⟩
       ·rintro a w ⟨hF,hS⟩
        refine n_sq ?_
        rcases bcase (t_28) with hc13 | hc13
        ·have hb8:=cond_f hc13 hb8
         refine q_cond_f hF rfl hc13 (q_skipc (n_ib (n_sq (q_region (q_x (v:=(iV (w64 (t_15 + 1)))) hF hS (ex_ibin rfl rfl rfl) rfl rfl fun a hF=>q_x (v:=(iV (w64 (t_15 + 1)))) hF hS (ex_move rfl) rfl rfl fun a hF=>q_end ?_)))))
         obtain rfl:=someI hb8
         exact ⟨rfl,hF.sub ⟨rfl,rfl,rfl,rfl,rfl,rfl,rfl,rfl,trivial⟩,hS⟩
        ·have hb8:=cond_t hc13 hb8
         refine q_cond_t hF rfl hc13 (q_seq (q_region (q_x (v:=(.bool false)) hF hS (ex_assign rfl) rfl rfl fun a hF=>q_end (n_sq (q_ret (r_ib (r_sq ?_)))))))
         obtain rfl:=someI hb8
         refine ⟨nofun,.inr fun ho=>?_⟩
         subst ho
         refine r_ib (r_ib (r_sq ?_))
         obtain rfl:=someI hb6
         refine ⟨nofun,.inr fun ho=>?_⟩
         subst ho
         refine r_ib (r_sq ?_)
         obtain rfl:=someI hr
         exact ret_of hF hS rfl (.tmp rfl .nil) rfl
     ·rintro e a w ⟨rfl,rfl,hF,hS⟩
      refine x_ib (n_ib (n_sq ?_))
      refine q_region (q_x (v:=(iV (w64 (t_11 + 1)))) hF hS (ex_ibin rfl rfl rfl) rfl rfl fun a hF=>q_x (v:=(iV (w64 (t_11 + 1)))) hF hS (ex_move rfl) rfl rfl fun a hF=>q_end ?_)
      obtain rfl:=someI hb6
      exact ⟨rfl,hF.sub ⟨rfl,rfl,rfl,rfl,trivial⟩,hS⟩
   ·rintro e a w ⟨rfl,rfl,hF,hS⟩
    refine x_ib (n_sq ?_)
    refine q_seq (q_region (q_x (v:=(.bool true)) hF hS (ex_assign rfl) rfl rfl fun a hF=>q_end (n_sq (q_ret ?_))))
    obtain rfl:=someI hr
    exact ret_of hF hS rfl (.tmp rfl .nil) rfl
  ·have hr:=cond_t hc5 hr
   refine q_cond_t hF rfl hc5 (q_seq (q_region (q_x (v:=(.bool false)) hF hS (ex_assign rfl) rfl rfl fun a hF=>q_end (n_sq (q_ret (r_sq ?_))))))
   obtain rfl:=someI hr
   exact ret_of hF hS rfl (.tmp rfl .nil) rfl

theorem c_impl_total (p_l : List Int) (r : Int) (hr : impl_total p_l = some r) (w0 : World) (m : Mem) (hv : Vis m w0) (s1 : Sl) (h1 : Rd m s1 p_l) :
  Ret Try.prog 80 [s1.v] w0 (fun v _=>v = (iV r)):=by
 unfold impl_total at hr
 refine ret_start Try.func80 rfl 17 rfl rfl m hv fun a hF hS=>q_seq (q_region (q_x (v:=(iV 0)) hF hS (ex_assign rfl) rfl rfl fun a hF=>q_end (n_sq (q_seq (q_region (q_x (v:=(iV 0)) hF hS (ex_assign rfl) rfl rfl fun a hF=>q_end (n_sq (q_seq (q_seq (q_region (q_x (v:=s1.v) hF hS (ex_move rfl) rfl rfl fun a hF=>q_x (v:=(iV (goLen p_l))) hF hS (ex_len Try.underlying28 rfl h1.len) rfl rfl fun a hF=>q_x (v:=(iV 0)) hF hS (ex_move rfl) rfl rfl fun a hF=>q_end (n_sq (q_block ?_)))))))))))))
 obtain ⟨sum_6,hl1,hr⟩:=bindS hr
 refine q_loop (fun (s : Int × Int) a w=>∃ sum_2,∃ t_3,s = (sum_2,t_3)∧Fr a 17 [(3,(iV sum_2)),(6,s1.v),(7,(iV (goLen p_l))),(8,(iV t_3))]∧St [] w0 w m []) (fun (sum_6 : Int) e a w=>e = .exit 0∧Fr a 17 [(3,(iV sum_6))]∧St [] w0 w m []) hl1 ⟨_,_,rfl,hF.sub ⟨rfl,rfl,rfl,rfl,trivial⟩,hS⟩ ?_ ?_
 ·clear hF hS
  rintro s a w st ⟨sum_2,t_3,rfl,hF,hS⟩ hb1
  unfold impl_total_l1 at hb1
  refine q_seq (q_region (q_x (v:=(.bool (decide (t_3 < (goLen p_l))))) hF hS (ex_ibin rfl rfl rfl) rfl rfl fun a hF=>q_end (n_sq (q_seq ?_))))
  rcases bcase (decide (t_3 < (goLen p_l))) with hc2 | hc2
  ·have hb1:=cond_f hc2 hb1
   refine q_cond_f hF rfl hc2 (q_exit (x_sq ?_))
   obtain rfl:=someI hb1
   exact ⟨nofun,.inl ⟨rfl,hF.sub ⟨rfl,trivial⟩,hS⟩⟩
  ·have hb1:=cond_t hc2 hb1
   refine q_cond_t hF rfl hc2 (q_skipc (n_sq (q_seq (q_block (q_seq (q_region ?_))))))
   obtain ⟨e_4,he_4,hb1⟩:=bindS hb1
   obtain ⟨vs5,at5,d5⟩:=h1.at he_4 1 rfl
   obtain rfl : vs5 = [(iV e_4)]:=d5
   refine q_x (v:=(elP s1 (t_3.toNat * 1))) hF hS (ex_indexAddr Try.underlying28 sz3 rfl rfl (h1.idx he_4)) rfl rfl fun a hF=>q_x (v:=(iV e_4)) hF hS (ex_loadE1 0 Try.underlying3 rfl rfl ((at5).at) rfl rfl) rfl rfl fun a hF=>q_x (v:=(iV e_4)) hF hS (ex_assign rfl) rfl rfl fun a hF=>q_end (n_sq (q_region (q_x (v:=(iV sum_2)) hF hS (ex_move rfl) rfl rfl fun a hF=>q_x (v:=(iV e_4)) hF hS (ex_move rfl) rfl rfl fun a hF=>q_x (v:=(iV (w64 (sum_2 + e_4)))) hF hS (ex_ibin rfl rfl rfl) rfl rfl fun a hF=>q_x (v:=(iV (w64 (sum_2 + e_4)))) hF hS (ex_assign rfl) rfl rfl fun a hF=>q_end (n_ib (n_sq (q_region (q_x (v:=(iV (w64 (t_3 + 1)))) hF hS (ex_ibin rfl rfl rfl) rfl rfl fun a hF=>q_x (v:=(iV (w64 (t_3 + 1)))) hF hS (ex_move rfl) rfl rfl fun a hF=>q_end ?_)))))))
   obtain rfl:=someI hb1
   exact ⟨rfl,_,_,rfl,hF.sub ⟨rfl,rfl,rfl,rfl,trivial⟩,hS⟩
 ·rintro e a w ⟨rfl,hF,hS⟩
  refine x_ib (n_sq ?_)
  refine q_seq (q_region (q_x (v:=(iV sum_6)) hF hS (ex_move rfl) rfl rfl fun a hF=>q_x (v:=(iV sum_6)) hF hS (ex_assign rfl) rfl rfl fun a hF=>q_end (n_sq (q_ret ?_))))
  obtain rfl:=someI hr
  exact ret_of hF hS rfl (.tmp rfl .nil) rfl

theorem c_impl_residual (p_t : impl_Transport) (p_x : List (List Int)) (p_fixed : Int) (r : (List (List Int))) (hr : impl_residual p_t p_x p_fixed = some r) (w0 : World) (m : Mem) (hv : Vis m w0) (s1 : Sl) (h1 : Rd m s1 p_t.Rows) (s2 : Sl) (h2 : Rd m s2 p_t.Cols) (s3 : Sl) (h3 : Rd m s3 p_t.Lo) (s4 : Sl) (h4 : Rd m s4 p_t.Hi) (s5 : Sl) (h5 : Rd m s5 p_x) :
  Ret Try.prog 155 [(.agg #[s1.v,s2.v,s3.v,s4.v]),s5.v,(iV p_fixed)] w0 (fun v w=>∃ (q0' : Piece) (s0' : Sl),v = s0'.v∧St [] w0 w m [q0']∧OwnD m 28 3 q0' s0' r):=by
 unfold impl_residual at hr
 refine ret_start Try.func155 rfl 98 rfl rfl m hv fun a hF hS=>q_seq (q_region (q_box (cs:=[s1.v,s2.v,s3.v,s4.v]) hF hS rfl rfl rfl fun a w b6 hF hS=>q_x (v:=nilS.v) hF hS (ex_assign rfl) rfl rfl fun a hF=>q_end (n_sq (q_seq (e_region ⟨[],[],m⟩ mixed fun w' hw'=>?_)))))
 have hS:=hS.below hw'
 refine e_p (v:=(.pointer (some ⟨b6,0,none⟩))) 0 hF rfl (ex_fieldAddr Try.underlying50 rfl sz28 rfl rfl) rfl rfl (by kernel_rfl) (by kernel_rfl) (by kernel_rfl) fun a hF=>e_x (v:=s1.v) 1 hF hS rfl (ex_load1 0 0 Try.underlying28 rfl rfl rfl rfl) rfl rfl (by kernel_rfl) (by kernel_rfl) (by kernel_rfl) (by kernel_rfl) fun a hF=>e_p (v:=(iV (goLen p_t.Rows))) 2 hF rfl (ex_len Try.underlying28 rfl h1.len) rfl rfl (by kernel_rfl) (by kernel_rfl) (by kernel_rfl) fun a hF=>e_p (v:=(.pointer (some ⟨b6,1,none⟩))) 3 hF rfl (ex_fieldAddr Try.underlying50 rfl sz28 rfl rfl) rfl rfl (by kernel_rfl) (by kernel_rfl) (by kernel_rfl) fun a hF=>e_x (v:=s2.v) 4 hF hS rfl (ex_load1 0 0 Try.underlying28 rfl rfl rfl rfl) rfl rfl (by kernel_rfl) (by kernel_rfl) (by kernel_rfl) (by kernel_rfl) fun a hF=>e_p (v:=(iV (goLen p_t.Cols))) 5 hF rfl (ex_len Try.underlying28 rfl h2.len) rfl rfl (by kernel_rfl) (by kernel_rfl) (by kernel_rfl) fun a hF=>e_p (v:=(iV (goLen p_t.Rows))) 6 hF rfl (ex_assign rfl) rfl rfl (by kernel_rfl) (by kernel_rfl) (by kernel_rfl) fun a hF=>e_p (v:=(iV (goLen p_t.Cols))) 7 hF rfl (ex_assign rfl) rfl rfl (by kernel_rfl) (by kernel_rfl) (by kernel_rfl) fun a hF=>e_end (by kernel_rfl) (n_sq ?_) _
 refine q_seq (q_region (q_x (v:=(iV (goLen p_t.Rows))) hF hS (ex_move rfl) rfl rfl fun a hF=>q_x (v:=(iV (goLen p_t.Cols))) hF hS (ex_move rfl) rfl rfl fun a hF=>q_x (v:=(iV (w64 ((goLen p_t.Rows) + (goLen p_t.Cols))))) hF hS (ex_ibin rfl rfl rfl) rfl rfl fun a hF=>?_))
 obtain ⟨l_7,hl_7,hr⟩:=bindS hr
 refine q_do rfl fun _ hK=>wp_makeD (Ei:=3) hF hS Try.underlying23 inf28 rfl rfl rfl (by decide) hl_7 rfl fun a w q8 s8 hF hS h8 _=>hK _ _ (q_x (v:=s8.v) hF hS (ex_assign rfl) rfl rfl fun a hF=>q_end (n_sq (q_seq (q_seq (q_region (q_x (v:=s8.v) hF hS (ex_move rfl) rfl rfl fun a hF=>q_x (v:=(iV (goLen l_7))) hF hS (ex_len Try.underlying23 rfl h8.len) rfl rfl fun a hF=>q_x (v:=(iV 0)) hF hS (ex_move rfl) rfl rfl fun a hF=>q_end (n_sq (q_block ?_))))))))
 obtain ⟨r_17,hl1,hr⟩:=bindS hr
 refine q_loop (fun (s : (List (List Int)) × Int) a w=>∃ (q10 : Piece),∃ r_9,∃ t_11,s = (r_9,t_11)∧Fr a 98 [(1,s5.v),(2,(iV p_fixed)),(3,(.pointer (some ⟨b6,0,none⟩))),(7,(iV (goLen p_t.Rows))),(8,(iV (goLen p_t.Cols))),(9,s8.v),(26,(iV (goLen l_7))),(27,(iV t_11))]∧St [] w0 w m [q10,[⟨b6,[s1.v,s2.v,s3.v,s4.v],50⟩]]∧OwnD m 28 3 q10 s8 r_9) (fun (r_17 : (List (List Int))) e a w=>∃ (q18 : Piece),e = .exit 0∧Fr a 98 [(1,s5.v),(2,(iV p_fixed)),(3,(.pointer (some ⟨b6,0,none⟩))),(7,(iV (goLen p_t.Rows))),(8,(iV (goLen p_t.Cols))),(9,s8.v)]∧St [] w0 w m [q18,[⟨b6,[s1.v,s2.v,s3.v,s4.v],50⟩]]∧OwnD m 28 3 q18 s8 r_17) hl1 ⟨q8,_,_,rfl,hF.sub ⟨rfl,rfl,rfl,rfl,rfl,rfl,rfl,rfl,trivial⟩,hS,h8⟩ ?_ ?_
 ·clear hF hS
  rintro s a w st ⟨q10,r_9,t_11,rfl,hF,hS,h10⟩ hb1
  unfold impl_residual_l1 at hb1
  refine q_seq (q_region (q_x (v:=(.bool (decide (t_11 < (goLen l_7))))) hF hS (ex_ibin rfl rfl rfl) rfl rfl fun a hF=>q_end (n_sq (q_seq ?_))))
  rcases bcase (decide (t_11 < (goLen l_7))) with hc2 | hc2
  ·have hb1:=cond_f hc2 hb1
   refine q_cond_f hF rfl hc2 (q_exit (x_sq ?_))
   obtain rfl:=someI hb1
   exact ⟨nofun,.inl ⟨q10,rfl,hF.sub ⟨rfl,rfl,rfl,rfl,rfl,rfl,trivial⟩,hS,h10⟩⟩
  ·have hb1:=cond_t hc2 hb1
   refine q_cond_t hF rfl hc2 (q_skipc (n_sq (q_seq (q_block (q_seq (q_region (q_x (v:=(iV t_11)) hF hS (ex_move rfl) rfl rfl fun a hF=>q_x (v:=(iV t_11)) hF hS (ex_assign rfl) rfl rfl fun a hF=>q_end (n_sq (q_region (q_x (v:=s8.v) hF hS (ex_move rfl) rfl rfl fun a hF=>q_x (v:=(iV t_11)) hF hS (ex_move rfl) rfl rfl fun a hF=>q_x (v:=(iV (goLen p_t.Rows))) hF hS (ex_move rfl) rfl rfl fun a hF=>q_x (v:=(iV (goLen p_t.Cols))) hF hS (ex_move rfl) rfl rfl fun a hF=>q_x (v:=(iV (w64 ((goLen p_t.Rows) + (goLen p_t.Cols))))) hF hS (ex_ibin rfl rfl rfl) rfl rfl fun a hF=>?_))))))))))
   obtain ⟨l_12,hl_12,hb1⟩:=bindS hb1
   refine q_do rfl fun _ hK=>wp_make (z:=(0 : Int)) hF hS Try.underlying28 inf3 rfl rfl rfl rfl rfl (by decide) hl_12 rfl fun a w q13 s13 hF hS h13 _=>hK _ _ ?_
   obtain ⟨e_14,he_14,hb1⟩:=bindS hb1
   obtain ⟨s15,hV15⟩:=h10.view he_14
   refine q_x (v:=(elP s8 (t_11.toNat * 1))) hF hS (ex_indexAddr Try.underlying23 sz28 rfl rfl (h10.idx he_14)) rfl rfl fun a hF=>?_
   have hS : St _ _ _ _ [q10,q13,[⟨b6,[s1.v,s2.v,s3.v,s4.v],50⟩]]:=hS.sel [1,0,2] (by decide)
   refine q_do rfl fun _ hK=>wp_storeD hF hS h10 h13 sz28 rfl rfl he_14 rfl fun w q16 hS h16=>hK _ _ (q_end (n_ib (n_sq (q_region (q_x (v:=(iV (w64 (t_11 + 1)))) hF hS (ex_ibin rfl rfl rfl) rfl rfl fun a hF=>q_x (v:=(iV (w64 (t_11 + 1)))) hF hS (ex_move rfl) rfl rfl fun a hF=>q_end ?_)))))
   obtain rfl:=someI hb1
   exact ⟨rfl,q16,_,_,rfl,hF.sub ⟨rfl,rfl,rfl,rfl,rfl,rfl,rfl,rfl,trivial⟩,hS,h16⟩
 ·rintro e a w ⟨q18,rfl,hF,hS,h18⟩
  refine x_ib (n_sq ?_)
  refine q_seq (q_seq (q_region (q_x (v:=s5.v) hF hS (ex_move rfl) rfl rfl fun a hF=>q_x (v:=(iV (goLen p_x))) hF hS (ex_len Try.underlying23 rfl h5.len) rfl rfl fun a hF=>q_x (v:=(iV 0)) hF hS (ex_move rfl) rfl rfl fun a hF=>q_end (n_sq (q_block ?_)))))
  obtain ⟨r_54,hl3,hr⟩:=bindS hr
  refine q_loop (fun (s : (List (List Int)) × Int) a w=>∃ (q20 : Piece),∃ r_19,∃ t_21,s = (r_19,t_21)∧Fr a 98 [(2,(iV p_fixed)),(3,(.pointer (some ⟨b6,0,none⟩))),(7,(iV (goLen p_t.Rows))),(8,(iV (goLen p_t.Cols))),(9,s8.v),(38,s5.v),(39,(iV (goLen p_x))),(40,(iV t_21))]∧St [] w0 w m [q20,[⟨b6,[s1.v,s2.v,s3.v,s4.v],50⟩]]∧OwnD m 28 3 q20 s8 r_19) (fun (r_54 : (List (List Int))) e a w=>∃ (q55 : Piece),e = .exit 2∧Fr a 98 [(9,s8.v)]∧St [] w0 w m [q55]∧OwnD m 28 3 q55 s8 r_54) hl3 ⟨q18,_,_,rfl,hF.sub ⟨rfl,rfl,rfl,rfl,rfl,rfl,rfl,rfl,trivial⟩,hS,h18⟩ ?_ ?_
  ·clear hF hS
   rintro s a w st ⟨q20,r_19,t_21,rfl,hF,hS,h20⟩ hb3
   unfold impl_residual_l2 at hb3
   refine q_seq (q_region (q_x (v:=(.bool (decide (t_21 < (goLen p_x))))) hF hS (ex_ibin rfl rfl rfl) rfl rfl fun a hF=>q_end (n_sq (q_seq ?_))))
   rcases bcase (decide (t_21 < (goLen p_x))) with hc4 | hc4
   ·have hb3:=cond_f hc4 hb3
    refine q_cond_f hF rfl hc4 (q_exit (x_sq ?_))
    obtain rfl:=someI hb3
    exact ⟨nofun,.inl ⟨q20,rfl,hF.sub ⟨rfl,trivial⟩,hS.mask [true,false],h20⟩⟩
   ·have hb3:=cond_t hc4 hb3
    refine q_cond_t hF rfl hc4 (q_skipc (n_sq (q_seq (q_block (q_seq (q_region (q_x (v:=(iV t_21)) hF hS (ex_move rfl) rfl rfl fun a hF=>?_)))))))
    obtain ⟨e_22,he_22,hb3⟩:=bindS hb3
    obtain ⟨vs23,at23,d23⟩:=h5.at he_22 1 rfl
    obtain ⟨s24,rfl,h24⟩ : ∃ s24 : Sl,vs23 = [s24.v]∧Rd m s24 e_22:=d23
    refine q_x (v:=(elP s5 (t_21.toNat * 1))) hF hS (ex_indexAddr Try.underlying23 sz28 rfl rfl (h5.idx he_22)) rfl rfl fun a hF=>q_x (v:=s24.v) hF hS (ex_loadE1 0 Try.underlying28 rfl rfl ((at23).at) rfl rfl) rfl rfl fun a hF=>q_x (v:=(iV t_21)) hF hS (ex_assign rfl) rfl rfl fun a hF=>q_x (v:=s24.v) hF hS (ex_assign rfl) rfl rfl fun a hF=>q_end (n_sq (q_seq (q_region (q_x (v:=s24.v) hF hS (ex_move rfl) rfl rfl fun a hF=>q_x (v:=(iV (goLen e_22))) hF hS (ex_len Try.underlying28 rfl h24.len) rfl rfl fun a hF=>q_x (v:=(iV 0)) hF hS (ex_move rfl) rfl rfl fun a hF=>q_end (n_sq (q_block ?_))))))
    obtain ⟨r_52,hl5,hb3⟩:=bindS hb3
    refine q_loop (fun (s : (List (List Int)) × Int) a w=>∃ (q26 : Piece),∃ r_25,∃ t_27,s = (r_25,t_27)∧Fr a 98 [(2,(iV p_fixed)),(3,(.pointer (some ⟨b6,0,none⟩))),(7,(iV (goLen p_t.Rows))),(8,(iV (goLen p_t.Cols))),(9,s8.v),(11,(iV t_21)),(38,s5.v),(39,(iV (goLen p_x))),(40,(iV t_21)),(45,s24.v),(46,(iV (goLen e_22))),(47,(iV t_27))]∧St [] w0 w m [q26,[⟨b6,[s1.v,s2.v,s3.v,s4.v],50⟩]]∧OwnD m 28 3 q26 s8 r_25) (fun (r_52 : (List (List Int))) e a w=>∃ (q53 : Piece),e = .exit 4∧Fr a 98 [(2,(iV p_fixed)),(3,(.pointer (some ⟨b6,0,none⟩))),(7,(iV (goLen p_t.Rows))),(8,(iV (goLen p_t.Cols))),(9,s8.v),(38,s5.v),(39,(iV (goLen p_x))),(40,(iV t_21))]∧St [] w0 w m [q53,[⟨b6,[s1.v,s2.v,s3.v,s4.v],50⟩]]∧OwnD m 28 3 q53 s8 r_52) hl5 ⟨q20,_,_,rfl,hF.sub ⟨rfl,rfl,rfl,rfl,rfl,rfl,rfl,rfl,rfl,rfl,rfl,rfl,trivial⟩,hS,h20⟩ ?_ ?_
    ·clear hF hS
     rintro s a w st ⟨q26,r_25,t_27,rfl,hF,hS,h26⟩ hb5
     unfold impl_residual_l3 at hb5
     refine q_seq (q_region (q_x (v:=(.bool (decide (t_27 < (goLen e_22))))) hF hS (ex_ibin rfl rfl rfl) rfl rfl fun a hF=>q_end (n_sq (q_seq ?_))))
     rcases bcase (decide (t_27 < (goLen e_22))) with hc6 | hc6
     ·have hb5:=cond_f hc6 hb5
      refine q_cond_f hF rfl hc6 (q_exit (x_sq ?_))
      obtain rfl:=someI hb5
      exact ⟨nofun,.inl ⟨q26,rfl,hF.sub ⟨rfl,rfl,rfl,rfl,rfl,rfl,rfl,rfl,trivial⟩,hS,h26⟩⟩
     ·have hb5:=cond_t hc6 hb5
      refine q_cond_t hF rfl hc6 (q_skipc (n_sq (q_seq (q_block (q_seq (q_region (q_x (v:=(iV t_27)) hF hS (ex_move rfl) rfl rfl fun a hF=>?_)))))))
      obtain ⟨e_28,he_28,hb5⟩:=bindS hb5
      obtain ⟨vs29,at29,d29⟩:=h24.at he_28 1 rfl
      obtain rfl : vs29 = [(iV e_28)]:=d29
      refine q_x (v:=(elP s24 (t_27.toNat * 1))) hF hS (ex_indexAddr Try.underlying28 sz3 rfl rfl (h24.idx he_28)) rfl rfl fun a hF=>q_x (v:=(iV e_28)) hF hS (ex_loadE1 0 Try.underlying3 rfl rfl ((at29).at) rfl rfl) rfl rfl fun a hF=>q_x (v:=(iV t_27)) hF hS (ex_assign rfl) rfl rfl fun a hF=>q_x (v:=(iV e_28)) hF hS (ex_assign rfl) rfl rfl fun a hF=>q_end (n_sq (q_seq (q_region (q_x (v:=(iV t_21)) hF hS (ex_move rfl) rfl rfl fun a hF=>q_x (v:=(iV (goLen p_t.Cols))) hF hS (ex_move rfl) rfl rfl fun a hF=>q_x (v:=(iV (w64 (t_21 * (goLen p_t.Cols))))) hF hS (ex_ibin rfl rfl rfl) rfl rfl fun a hF=>q_x (v:=(iV t_27)) hF hS (ex_move rfl) rfl rfl fun a hF=>q_x (v:=(iV (w64 ((w64 (t_21 * (goLen p_t.Cols))) + t_27)))) hF hS (ex_ibin rfl rfl rfl) rfl rfl fun a hF=>q_x (v:=(iV p_fixed)) hF hS (ex_move rfl) rfl rfl fun a hF=>q_x (v:=(.bool (decide (p_fixed < (w64 ((w64 (t_21 * (goLen p_t.Cols))) + t_27)))))) hF hS (ex_ibin rfl rfl rfl) rfl rfl fun a hF=>q_end (n_sq ?_)))))
      obtain ⟨r_50,hj7,hb5⟩:=bindS hb5
      refine q_join (fun a w=>∃ (q51 : Piece),Fr a 98 [(2,(iV p_fixed)),(3,(.pointer (some ⟨b6,0,none⟩))),(7,(iV (goLen p_t.Rows))),(8,(iV (goLen p_t.Cols))),(9,s8.v),(11,(iV t_21)),(38,s5.v),(39,(iV (goLen p_x))),(40,(iV t_21)),(45,s24.v),(46,(iV (goLen e_22))),(47,(iV t_27))]∧St [] w0 w m [q51,[⟨b6,[s1.v,s2.v,s3.v,s4.v],50⟩]]∧OwnD m 28 3 q51 s8 r_50) ?_ ?_
      ·rcases bcase (decide (p_fixed < (w64 ((w64 (t_21 * (goLen p_t.Cols))) + t_27)))) with hc8 | hc8
       ·have hj7:=cond_f hc8 hj7
        refine q_cond_f hF rfl hc8 (q_skipc (n_jn ?_))
        obtain rfl:=someI hj7
        exact ⟨q26,hF.sub ⟨rfl,rfl,rfl,rfl,rfl,rfl,rfl,rfl,rfl,rfl,rfl,rfl,trivial⟩,hS,h26⟩
       ·have hj7:=cond_t hc8 hj7
        refine q_cond_t hF rfl hc8 (q_seq (e_region ⟨[18],[b6],m⟩ mixed fun w' hw'=>?_))
        have hS:=hS.below hw'
        refine e_p (v:=s8.v) 0 hF rfl (ex_move rfl) rfl rfl (by kernel_rfl) (by kernel_rfl) (by kernel_rfl) fun a hF=>e_p (v:=(iV t_21)) 1 hF rfl (ex_move rfl) rfl rfl (by kernel_rfl) (by kernel_rfl) (by kernel_rfl) fun a hF=>?_
        obtain ⟨e_30,he_30,hj7⟩:=bindS hj7
        obtain ⟨s31,hV31⟩:=h26.view he_30
        refine e_p (v:=(elP s8 (t_21.toNat * 1))) 2 hF rfl (ex_indexAddr Try.underlying23 sz28 rfl rfl (h26.idx he_30)) rfl rfl (by kernel_rfl) (by kernel_rfl) (by kernel_rfl) fun a hF=>e_x (v:=s31.v) 3 hF hS rfl (ex_loadE1 0 Try.underlying28 rfl rfl ((hV31.atH he_30).at 0 rfl) rfl rfl) rfl rfl (by kernel_rfl) (by kernel_rfl) (by kernel_rfl) (by kernel_rfl) fun a hF=>e_p (v:=(iV (goLen p_t.Rows))) 4 hF rfl (ex_move rfl) rfl rfl (by kernel_rfl) (by kernel_rfl) (by kernel_rfl) fun a hF=>e_p (v:=(iV t_27)) 5 hF rfl (ex_move rfl) rfl rfl (by kernel_rfl) (by kernel_rfl) (by kernel_rfl) fun a hF=>e_p (v:=(iV (w64 ((goLen p_t.Rows) + t_27)))) 6 hF rfl (ex_ibin rfl rfl rfl) rfl rfl (by kernel_rfl) (by kernel_rfl) (by kernel_rfl) fun a hF=>e_p (v:=(.pointer (some ⟨b6,3,none⟩))) 7 hF rfl (ex_fieldAddr Try.underlying50 rfl sz23 rfl rfl) rfl rfl (by kernel_rfl) (by kernel_rfl) (by kernel_rfl) fun a hF=>e_xb (v:=s4.v) 8 1 hF hS (.head _) rfl rfl (ex_load1 0 0 Try.underlying23 rfl rfl rfl rfl) rfl rfl (by kernel_rfl) (by kernel_rfl) (by kernel_rfl) fun a hF=>e_p (v:=(iV t_21)) 9 hF rfl (ex_move rfl) rfl rfl (by kernel_rfl) (by kernel_rfl) (by kernel_rfl) fun a hF=>?_
        obtain ⟨e_32,he_32,hj7⟩:=bindS hj7
        obtain ⟨vs33,at33,d33⟩:=h4.at he_32 1 rfl
        obtain ⟨s34,rfl,h34⟩ : ∃ s34 : Sl,vs33 = [s34.v]∧Rd m s34 e_32:=d33
        refine e_p (v:=(elP s4 (t_21.toNat * 1))) 10 hF rfl (ex_indexAddr Try.underlying23 sz28 rfl rfl (h4.idx he_32)) rfl rfl (by kernel_rfl) (by kernel_rfl) (by kernel_rfl) fun a hF=>e_xm (v:=s34.v) 11 hF hS (Mem.le.refl _) rfl (ex_loadE1 0 Try.underlying28 rfl rfl ((at33).at) rfl rfl) rfl rfl (by kernel_rfl) (by kernel_rfl) (by kernel_rfl) fun a hF=>e_p (v:=(iV t_27)) 12 hF rfl (ex_move rfl) rfl rfl (by kernel_rfl) (by kernel_rfl) (by kernel_rfl) fun a hF=>?_
        obtain ⟨e_35,he_35,hj7⟩:=bindS hj7
        obtain ⟨vs36,at36,d36⟩:=h34.at he_35 1 rfl
        obtain rfl : vs36 = [(iV e_35)]:=d36
        refine e_p (v:=(elP s34 (t_27.toNat * 1))) 13 hF rfl (ex_indexAddr Try.underlying28 sz3 rfl rfl (h34.idx he_35)) rfl rfl (by kernel_rfl) (by kernel_rfl) (by kernel_rfl) fun a hF=>e_xm (v:=(iV e_35)) 14 hF hS (Mem.le.refl _) rfl (ex_loadE1 0 Try.underlying3 rfl rfl ((at36).at) rfl rfl) rfl rfl (by kernel_rfl) (by kernel_rfl) (by kernel_rfl) fun a hF=>e_p (v:=(iV e_28)) 15 hF rfl (ex_move rfl) rfl rfl (by kernel_rfl) (by kernel_rfl) (by kernel_rfl) fun a hF=>e_p (v:=(iV (w64 (e_35 - e_28)))) 16 hF rfl (ex_ibin rfl rfl rfl) rfl rfl (by kernel_rfl) (by kernel_rfl) (by kernel_rfl) fun a hF=>?_
        obtain ⟨e_37,he_37,hj7⟩:=bindS hj7
        obtain ⟨vs38,at38,d38⟩:=hV31.at he_30 he_37 1 rfl
        obtain rfl : vs38 = [(iV e_37)]:=d38
        refine e_p (v:=(elP s31 ((w64 ((goLen p_t.Rows) + t_27)).toNat * 1))) 17 hF rfl (ex_indexAddr Try.underlying28 sz3 rfl rfl (hV31.idx he_30 he_37)) rfl rfl (by kernel_rfl) (by kernel_rfl) (by kernel_rfl) fun a hF=>e_one 18 (by kernel_rfl) ?_
        have hSo:=hS
        refine e_opl rfl rfl rfl fun _ hK=>wp_storeV (e':=(w64 (e_35 - e_28))) (us:=[(iV (w64 (e_35 - e_28)))]) (vs:=[(iV e_37)]) 0 hF hS hV31 he_30 sz3 rfl rfl rfl rfl rfl rfl rfl he_37 at38 rfl rfl rfl fun w q39 hS h39=>hK _ _ (⟨⟨kpC hSo hS 1 1 rfl rfl kpN,fun _=>hS.vis.of_le (Mem.le.refl _)⟩,?_⟩)
        refine e_end (by kernel_rfl) (n_sq ?_) _
        refine e_region ⟨[18],[b6],m⟩ mixed fun w' hw'=>?_
        have hS:=hS.below hw'
        refine e_p (v:=s8.v) 0 hF rfl (ex_move rfl) rfl rfl (by kernel_rfl) (by kernel_rfl) (by kernel_rfl) fun a hF=>e_p (v:=(iV (goLen p_t.Rows))) 1 hF rfl (ex_move rfl) rfl rfl (by kernel_rfl) (by kernel_rfl) (by kernel_rfl) fun a hF=>e_p (v:=(iV t_27)) 2 hF rfl (ex_move rfl) rfl rfl (by kernel_rfl) (by kernel_rfl) (by kernel_rfl) fun a hF=>e_p (v:=(iV (w64 ((goLen p_t.Rows) + t_27)))) 3 hF rfl (ex_ibin rfl rfl rfl) rfl rfl (by kernel_rfl) (by kernel_rfl) (by kernel_rfl) fun a hF=>?_
        obtain ⟨e_40,he_40,hj7⟩:=bindS hj7
        obtain ⟨s41,hV41⟩:=h39.own.view he_40
        refine e_p (v:=(elP s8 ((w64 ((goLen p_t.Rows) + t_27)).toNat * 1))) 4 hF rfl (ex_indexAddr Try.underlying23 sz28 rfl rfl (h39.own.idx he_40)) rfl rfl (by kernel_rfl) (by kernel_rfl) (by kernel_rfl) fun a hF=>e_x (v:=s41.v) 5 hF hS rfl (ex_loadE1 0 Try.underlying28 rfl rfl ((hV41.atH he_40).at 0 rfl) rfl rfl) rfl rfl (by kernel_rfl) (by kernel_rfl) (by kernel_rfl) (by kernel_rfl) fun a hF=>e_p (v:=(iV t_21)) 6 hF rfl (ex_move rfl) rfl rfl (by kernel_rfl) (by kernel_rfl) (by kernel_rfl) fun a hF=>e_p (v:=(iV e_28)) 7 hF rfl (ex_move rfl) rfl rfl (by kernel_rfl) (by kernel_rfl) (by kernel_rfl) fun a hF=>e_p (v:=(.pointer (some ⟨b6,2,none⟩))) 8 hF rfl (ex_fieldAddr Try.underlying50 rfl sz23 rfl rfl) rfl rfl (by kernel_rfl) (by kernel_rfl) (by kernel_rfl) fun a hF=>e_xb (v:=s3.v) 9 1 hF hS (.head _) rfl rfl (ex_load1 0 0 Try.underlying23 rfl rfl rfl rfl) rfl rfl (by kernel_rfl) (by kernel_rfl) (by kernel_rfl) fun a hF=>e_p (v:=(iV t_21)) 10 hF rfl (ex_move rfl) rfl rfl (by kernel_rfl) (by kernel_rfl) (by kernel_rfl) fun a hF=>?_
        obtain ⟨e_42,he_42,hj7⟩:=bindS hj7
        obtain ⟨vs43,at43,d43⟩:=h3.at he_42 1 rfl
        obtain ⟨s44,rfl,h44⟩ : ∃ s44 : Sl,vs43 = [s44.v]∧Rd m s44 e_42:=d43
        refine e_p (v:=(elP s3 (t_21.toNat * 1))) 11 hF rfl (ex_indexAddr Try.underlying23 sz28 rfl rfl (h3.idx he_42)) rfl rfl (by kernel_rfl) (by kernel_rfl) (by kernel_rfl) fun a hF=>e_xm (v:=s44.v) 12 hF hS (Mem.le.refl _) rfl (ex_loadE1 0 Try.underlying28 rfl rfl ((at43).at) rfl rfl) rfl rfl (by kernel_rfl) (by kernel_rfl) (by kernel_rfl) fun a hF=>e_p (v:=(iV t_27)) 13 hF rfl (ex_move rfl) rfl rfl (by kernel_rfl) (by kernel_rfl) (by kernel_rfl) fun a hF=>?_
        obtain ⟨e_45,he_45,hj7⟩:=bindS hj7
        obtain ⟨vs46,at46,d46⟩:=h44.at he_45 1 rfl
        obtain rfl : vs46 = [(iV e_45)]:=d46
        refine e_p (v:=(elP s44 (t_27.toNat * 1))) 14 hF rfl (ex_indexAddr Try.underlying28 sz3 rfl rfl (h44.idx he_45)) rfl rfl (by kernel_rfl) (by kernel_rfl) (by kernel_rfl) fun a hF=>e_xm (v:=(iV e_45)) 15 hF hS (Mem.le.refl _) rfl (ex_loadE1 0 Try.underlying3 rfl rfl ((at46).at) rfl rfl) rfl rfl (by kernel_rfl) (by kernel_rfl) (by kernel_rfl) fun a hF=>e_p (v:=(iV (w64 (e_28 - e_45)))) 16 hF rfl (ex_ibin rfl rfl rfl) rfl rfl (by kernel_rfl) (by kernel_rfl) (by kernel_rfl) fun a hF=>?_
        obtain ⟨e_47,he_47,hj7⟩:=bindS hj7
        obtain ⟨vs48,at48,d48⟩:=hV41.at he_40 he_47 1 rfl
        obtain rfl : vs48 = [(iV e_47)]:=d48
        refine e_p (v:=(elP s41 (t_21.toNat * 1))) 17 hF rfl (ex_indexAddr Try.underlying28 sz3 rfl rfl (hV41.idx he_40 he_47)) rfl rfl (by kernel_rfl) (by kernel_rfl) (by kernel_rfl) fun a hF=>e_one 18 (by kernel_rfl) ?_
        have hSo:=hS
        refine e_opl rfl rfl rfl fun _ hK=>wp_storeV (e':=(w64 (e_28 - e_45))) (us:=[(iV (w64 (e_28 - e_45)))]) (vs:=[(iV e_47)]) 0 hF hS hV41 he_40 sz3 rfl rfl rfl rfl rfl rfl rfl he_47 at48 rfl rfl rfl fun w q49 hS h49=>hK _ _ (⟨⟨kpC hSo hS 1 1 rfl rfl kpN,fun _=>hS.vis.of_le (Mem.le.refl _)⟩,?_⟩)
        refine e_end (by kernel_rfl) (n_jn ?_) _
        obtain rfl:=someI hj7
        exact ⟨q49,hF.sub ⟨rfl,rfl,rfl,rfl,rfl,rfl,rfl,rfl,rfl,rfl,rfl,rfl,trivial⟩,hS,h49.own⟩
      ·rintro a w ⟨q51,hF,hS,h51⟩
       refine n_ib (n_sq ?_)
       refine q_region (q_x (v:=(iV (w64 (t_27 + 1)))) hF hS (ex_ibin rfl rfl rfl) rfl rfl fun a hF=>q_x (v:=(iV (w64 (t_27 + 1)))) hF hS (ex_move rfl) rfl rfl fun a hF=>q_end ?_)
       obtain rfl:=someI hb5
       exact ⟨rfl,q51,_,_,rfl,hF.sub ⟨rfl,rfl,rfl,rfl,rfl,rfl,rfl,rfl,rfl,rfl,rfl,rfl,trivial⟩,hS,h51⟩
    ·rintro e a w ⟨q53,rfl,hF,hS,h53⟩
     refine x_ib (n_ib (n_sq ?_))
     refine q_region (q_x (v:=(iV (w64 (t_21 + 1)))) hF hS (ex_ibin rfl rfl rfl) rfl rfl fun a hF=>q_x (v:=(iV (w64 (t_21 + 1)))) hF hS (ex_move rfl) rfl rfl fun a hF=>q_end ?_)
     obtain rfl:=someI hb3
     exact ⟨rfl,q53,_,_,rfl,hF.sub ⟨rfl,rfl,rfl,rfl,rfl,rfl,rfl,rfl,trivial⟩,hS,h53⟩
  ·rintro e a w ⟨q55,rfl,hF,hS,h55⟩
   refine x_ib (n_sq ?_)
   refine q_seq (q_region (q_x (v:=s8.v) hF hS (ex_move rfl) rfl rfl fun a hF=>q_x (v:=s8.v) hF hS (ex_assign rfl) rfl rfl fun a hF=>q_end (n_sq (q_ret ?_))))
   obtain rfl:=someI hr
   exact ret_of hF hS rfl (.tmp rfl .nil) ⟨q55,s8,rfl,hS.sel [0] (by decide),h55⟩

theorem c_impl_rowSums (p_x : List (List Int)) (r : (List Int)) (hr : impl_rowSums p_x = some r) (w0 : World) (m : Mem) (hv : Vis m w0) (s1 : Sl) (h1 : Rd m s1 p_x) :
  Ret Try.prog 104 [s1.v] w0 (fun v w=>∃ (q0' : Piece) (s0' : Sl),v = s0'.v∧St [] w0 w m [q0']∧OwnL m 3 q0' s0' r):=by
 unfold impl_rowSums at hr
 refine ret_start Try.func104 rfl 34 rfl rfl m hv fun a hF hS=>q_seq (q_region (q_x (v:=nilS.v) hF hS (ex_assign rfl) rfl rfl fun a hF=>q_end (n_sq (q_seq (q_region (q_x (v:=s1.v) hF hS (ex_move rfl) rfl rfl fun a hF=>q_x (v:=(iV (goLen p_x))) hF hS (ex_len Try.underlying23 rfl h1.len) rfl rfl fun a hF=>?_))))))
 obtain ⟨l_2,hl_2,hr⟩:=bindS hr
 refine q_do rfl fun _ hK=>wp_make (z:=(0 : Int)) hF hS Try.underlying28 inf3 rfl rfl rfl rfl rfl (by decide) hl_2 rfl fun a w q3 s3 hF hS h3 _=>hK _ _ (q_x (v:=s3.v) hF hS (ex_assign rfl) rfl rfl fun a hF=>q_end (n_sq (q_seq (q_seq (q_region (q_x (v:=s1.v) hF hS (ex_move rfl) rfl rfl fun a hF=>q_x (v:=(iV (goLen p_x))) hF hS (ex_len Try.underlying23 rfl h1.len) rfl rfl fun a hF=>q_x (v:=(iV 0)) hF hS (ex_move rfl) rfl rfl fun a hF=>q_end (n_sq (q_block ?_))))))))
 obtain ⟨sums_22,hl1,hr⟩:=bindS hr
 refine q_loop (fun (s : (List Int) × Int) a w=>∃ (q5 : Piece),∃ sums_4,∃ t_6,s = (sums_4,t_6)∧Fr a 34 [(3,s3.v),(11,s1.v),(12,(iV (goLen p_x))),(13,(iV t_6))]∧St [] w0 w m [q5]∧OwnL m 3 q5 s3 sums_4) (fun (sums_22 : (List Int)) e a w=>∃ (q23 : Piece),e = .exit 0∧Fr a 34 [(3,s3.v)]∧St [] w0 w m [q23]∧OwnL m 3 q23 s3 sums_22) hl1 ⟨q3,_,_,rfl,hF.sub ⟨rfl,rfl,rfl,rfl,trivial⟩,hS,h3⟩ ?_ ?_
 ·clear hF hS
  rintro s a w st ⟨q5,sums_4,t_6,rfl,hF,hS,h5⟩ hb1
  unfold impl_rowSums_l1 at hb1
  refine q_seq (q_region (q_x (v:=(.bool (decide (t_6 < (goLen p_x))))) hF hS (ex_ibin rfl rfl rfl) rfl rfl fun a hF=>q_end (n_sq (q_seq ?_))))
  rcases bcase (decide (t_6 < (goLen p_x))) with hc2 | hc2
  ·have hb1:=cond_f hc2 hb1
   refine q_cond_f hF rfl hc2 (q_exit (x_sq ?_))
   obtain rfl:=someI hb1
   exact ⟨nofun,.inl ⟨q5,rfl,hF.sub ⟨rfl,trivial⟩,hS,h5⟩⟩
  ·have hb1:=cond_t hc2 hb1
   refine q_cond_t hF rfl hc2 (q_skipc (n_sq (q_seq (q_block (q_seq (q_region (q_x (v:=(iV t_6)) hF hS (ex_move rfl) rfl rfl fun a hF=>?_)))))))
   obtain ⟨e_7,he_7,hb1⟩:=bindS hb1
   obtain ⟨vs8,at8,d8⟩:=h1.at he_7 1 rfl
   obtain ⟨s9,rfl,h9⟩ : ∃ s9 : Sl,vs8 = [s9.v]∧Rd m s9 e_7:=d8
   refine q_x (v:=(elP s1 (t_6.toNat * 1))) hF hS (ex_indexAddr Try.underlying23 sz28 rfl rfl (h1.idx he_7)) rfl rfl fun a hF=>q_x (v:=s9.v) hF hS (ex_loadE1 0 Try.underlying28 rfl rfl ((at8).at) rfl rfl) rfl rfl fun a hF=>q_x (v:=(iV t_6)) hF hS (ex_assign rfl) rfl rfl fun a hF=>q_x (v:=s9.v) hF hS (ex_assign rfl) rfl rfl fun a hF=>q_end (n_sq (q_seq (q_region (q_x (v:=s9.v) hF hS (ex_move rfl) rfl rfl fun a hF=>q_x (v:=(iV (goLen e_7))) hF hS (ex_len Try.underlying28 rfl h9.len) rfl rfl fun a hF=>q_x (v:=(iV 0)) hF hS (ex_move rfl) rfl rfl fun a hF=>q_end (n_sq (q_block ?_))))))
   obtain ⟨sums_20,hl3,hb1⟩:=bindS hb1
   refine q_loop (fun (s : (List Int) × Int) a w=>∃ (q11 : Piece),∃ sums_10,∃ t_12,s = (sums_10,t_12)∧Fr a 34 [(3,s3.v),(4,(iV t_6)),(11,s1.v),(12,(iV (goLen p_x))),(13,(iV t_6)),(18,s9.v),(19,(iV (goLen e_7))),(20,(iV t_12))]∧St [] w0 w m [q11]∧OwnL m 3 q11 s3 sums_10) (fun (sums_20 : (List Int)) e a w=>∃ (q21 : Piece),e = .exit 2∧Fr a 34 [(3,s3.v),(11,s1.v),(12,(iV (goLen p_x))),(13,(iV t_6))]∧St [] w0 w m [q21]∧OwnL m 3 q21 s3 sums_20) hl3 ⟨q5,_,_,rfl,hF.sub ⟨rfl,rfl,rfl,rfl,rfl,rfl,rfl,rfl,trivial⟩,hS,h5⟩ ?_ ?_
   ·clear hF hS
    rintro s a w st ⟨q11,sums_10,t_12,rfl,hF,hS,h11⟩ hb3
    unfold impl_rowSums_l2 at hb3
    refine q_seq (q_region (q_x (v:=(.bool (decide (t_12 < (goLen e_7))))) hF hS (ex_ibin rfl rfl rfl) rfl rfl fun a hF=>q_end (n_sq (q_seq ?_))))
    rcases bcase (decide (t_12 < (goLen e_7))) with hc4 | hc4
    ·have hb3:=cond_f hc4 hb3
     refine q_cond_f hF rfl hc4 (q_exit (x_sq ?_))
     obtain rfl:=someI hb3
     exact ⟨nofun,.inl ⟨q11,rfl,hF.sub ⟨rfl,rfl,rfl,rfl,trivial⟩,hS,h11⟩⟩
    ·have hb3:=cond_t hc4 hb3
     refine q_cond_t hF rfl hc4 (q_skipc (n_sq (q_seq (q_block (q_seq (q_region ?_))))))
     obtain ⟨e_13,he_13,hb3⟩:=bindS hb3
     obtain ⟨vs14,at14,d14⟩:=h9.at he_13 1 rfl
     obtain rfl : vs14 = [(iV e_13)]:=d14
     refine q_x (v:=(elP s9 (t_12.toNat * 1))) hF hS (ex_indexAddr Try.underlying28 sz3 rfl rfl (h9.idx he_13)) rfl rfl fun a hF=>q_x (v:=(iV e_13)) hF hS (ex_loadE1 0 Try.underlying3 rfl rfl ((at14).at) rfl rfl) rfl rfl fun a hF=>q_x (v:=(iV e_13)) hF hS (ex_assign rfl) rfl rfl fun a hF=>q_end (n_sq (q_region (q_x (v:=s3.v) hF hS (ex_move rfl) rfl rfl fun a hF=>q_x (v:=(iV t_6)) hF hS (ex_move rfl) rfl rfl fun a hF=>?_)))
     obtain ⟨e_15,he_15,hb3⟩:=bindS hb3
     obtain ⟨vs16,at16,d16⟩:=h11.at he_15 1 rfl
     obtain rfl : vs16 = [(iV e_15)]:=d16
     refine q_x (v:=(elP s3 (t_6.toNat * 1))) hF hS (ex_indexAddr Try.underlying28 sz3 rfl rfl (h11.idx he_15)) rfl rfl fun a hF=>q_x (v:=(iV e_15)) hF hS (ex_loadE1 0 Try.underlying3 rfl rfl (at16.at 0 rfl) rfl rfl) rfl rfl fun a hF=>q_x (v:=(iV e_13)) hF hS (ex_move rfl) rfl rfl fun a hF=>q_x (v:=(iV (w64 (e_15 + e_13)))) hF hS (ex_ibin rfl rfl rfl) rfl rfl fun a hF=>?_
     obtain ⟨e_17,he_17,hb3⟩:=bindS hb3
     obtain ⟨vs18,at18,d18⟩:=h11.at he_17 1 rfl
     obtain rfl : vs18 = [(iV e_17)]:=d18
     refine q_x (v:=(elP s3 (t_6.toNat * 1))) hF hS (ex_indexAddr Try.underlying28 sz3 rfl rfl (h11.idx he_17)) rfl rfl fun a hF=>q_do rfl fun _ hK=>wp_storeE (e':=(w64 (e_15 + e_13))) (us:=[(iV (w64 (e_15 + e_13)))]) (vs:=[(iV e_17)]) 0 hF hS h11 sz3 rfl rfl rfl rfl rfl rfl rfl he_17 at18 rfl rfl rfl fun w q19 hS h19=>hK _ _ (q_end (n_ib (n_sq (q_region (q_x (v:=(iV (w64 (t_12 + 1)))) hF hS (ex_ibin rfl rfl rfl) rfl rfl fun a hF=>q_x (v:=(iV (w64 (t_12 + 1)))) hF hS (ex_move rfl) rfl rfl fun a hF=>q_end ?_)))))
     obtain rfl:=someI hb3
     exact ⟨rfl,q19,_,_,rfl,hF.sub ⟨rfl,rfl,rfl,rfl,rfl,rfl,rfl,rfl,trivial⟩,hS,h19⟩
   ·rintro e a w ⟨q21,rfl,hF,hS,h21⟩
    refine x_ib (n_ib (n_sq ?_))
    refine q_region (q_x (v:=(iV (w64 (t_6 + 1)))) hF hS (ex_ibin rfl rfl rfl) rfl rfl fun a hF=>q_x (v:=(iV (w64 (t_6 + 1)))) hF hS (ex_move rfl) rfl rfl fun a hF=>q_end ?_)
    obtain rfl:=someI hb1
    exact ⟨rfl,q21,_,_,rfl,hF.sub ⟨rfl,rfl,rfl,rfl,trivial⟩,hS,h21⟩
 ·rintro e a w ⟨q23,rfl,hF,hS,h23⟩
  refine x_ib (n_sq ?_)
  refine q_seq (q_region (q_x (v:=s3.v) hF hS (ex_move rfl) rfl rfl fun a hF=>q_x (v:=s3.v) hF hS (ex_assign rfl) rfl rfl fun a hF=>q_end (n_sq (q_ret ?_))))
  obtain rfl:=someI hr
  exact ret_of hF hS rfl (.tmp rfl .nil) ⟨q23,s3,rfl,hS.sel [0] (by decide),h23⟩

theorem c_impl_colSums (p_x : List (List Int)) (r : (List Int)) (hr : impl_colSums p_x = some r) (w0 : World) (m : Mem) (hv : Vis m w0) (s1 : Sl) (h1 : Rd m s1 p_x) :
  Ret Try.prog 105 [s1.v] w0 (fun v w=>∃ (q0' : Piece) (s0' : Sl),v = s0'.v∧St [] w0 w m [q0']∧OwnL m 3 q0' s0' r):=by
 unfold impl_colSums at hr
 refine ret_start Try.func105 rfl 36 rfl rfl m hv fun a hF hS=>q_seq (q_region (q_x (v:=nilS.v) hF hS (ex_assign rfl) rfl rfl fun a hF=>q_end (n_sq (q_seq (q_region (q_x (v:=s1.v) hF hS (ex_move rfl) rfl rfl fun a hF=>?_))))))
 obtain ⟨e_2,he_2,hr⟩:=bindS hr
 obtain ⟨vs3,at3,d3⟩:=h1.at he_2 1 rfl
 obtain ⟨s4,rfl,h4⟩ : ∃ s4 : Sl,vs3 = [s4.v]∧Rd m s4 e_2:=d3
 refine q_x (v:=(elP s1 ((0 : Int).toNat * 1))) hF hS (ex_indexAddr Try.underlying23 sz28 rfl rfl (h1.idx he_2)) rfl rfl fun a hF=>q_x (v:=s4.v) hF hS (ex_loadE1 0 Try.underlying28 rfl rfl ((at3).at) rfl rfl) rfl rfl fun a hF=>q_x (v:=(iV (goLen e_2))) hF hS (ex_len Try.underlying28 rfl h4.len) rfl rfl fun a hF=>?_
 obtain ⟨l_5,hl_5,hr⟩:=bindS hr
 refine q_do rfl fun _ hK=>wp_make (z:=(0 : Int)) hF hS Try.underlying28 inf3 rfl rfl rfl rfl rfl (by decide) hl_5 rfl fun a w q6 s6 hF hS h6 _=>hK _ _ (q_x (v:=s6.v) hF hS (ex_assign rfl) rfl rfl fun a hF=>q_end (n_sq (q_seq (q_seq (q_region (q_x (v:=s1.v) hF hS (ex_move rfl) rfl rfl fun a hF=>q_x (v:=(iV (goLen p_x))) hF hS (ex_len Try.underlying23 rfl h1.len) rfl rfl fun a hF=>q_x (v:=(iV 0)) hF hS (ex_move rfl) rfl rfl fun a hF=>q_end (n_sq (q_block ?_))))))))
 obtain ⟨sums_25,hl1,hr⟩:=bindS hr
 refine q_loop (fun (s : (List Int) × Int) a w=>∃ (q8 : Piece),∃ sums_7,∃ t_9,s = (sums_7,t_9)∧Fr a 36 [(3,s6.v),(13,s1.v),(14,(iV (goLen p_x))),(15,(iV t_9))]∧St [] w0 w m [q8]∧OwnL m 3 q8 s6 sums_7) (fun (sums_25 : (List Int)) e a w=>∃ (q26 : Piece),e = .exit 0∧Fr a 36 [(3,s6.v)]∧St [] w0 w m [q26]∧OwnL m 3 q26 s6 sums_25) hl1 ⟨q6,_,_,rfl,hF.sub ⟨rfl,rfl,rfl,rfl,trivial⟩,hS,h6⟩ ?_ ?_
 ·clear hF hS
  rintro s a w st ⟨q8,sums_7,t_9,rfl,hF,hS,h8⟩ hb1
  unfold impl_colSums_l1 at hb1
  refine q_seq (q_region (q_x (v:=(.bool (decide (t_9 < (goLen p_x))))) hF hS (ex_ibin rfl rfl rfl) rfl rfl fun a hF=>q_end (n_sq (q_seq ?_))))
  rcases bcase (decide (t_9 < (goLen p_x))) with hc2 | hc2
  ·have hb1:=cond_f hc2 hb1
   refine q_cond_f hF rfl hc2 (q_exit (x_sq ?_))
   obtain rfl:=someI hb1
   exact ⟨nofun,.inl ⟨q8,rfl,hF.sub ⟨rfl,trivial⟩,hS,h8⟩⟩
  ·have hb1:=cond_t hc2 hb1
   refine q_cond_t hF rfl hc2 (q_skipc (n_sq (q_seq (q_block (q_seq (q_region ?_))))))
   obtain ⟨e_10,he_10,hb1⟩:=bindS hb1
   obtain ⟨vs11,at11,d11⟩:=h1.at he_10 1 rfl
   obtain ⟨s12,rfl,h12⟩ : ∃ s12 : Sl,vs11 = [s12.v]∧Rd m s12 e_10:=d11
   refine q_x (v:=(elP s1 (t_9.toNat * 1))) hF hS (ex_indexAddr Try.underlying23 sz28 rfl rfl (h1.idx he_10)) rfl rfl fun a hF=>q_x (v:=s12.v) hF hS (ex_loadE1 0 Try.underlying28 rfl rfl ((at11).at) rfl rfl) rfl rfl fun a hF=>q_x (v:=s12.v) hF hS (ex_assign rfl) rfl rfl fun a hF=>q_end (n_sq (q_seq (q_region (q_x (v:=s12.v) hF hS (ex_move rfl) rfl rfl fun a hF=>q_x (v:=(iV (goLen e_10))) hF hS (ex_len Try.underlying28 rfl h12.len) rfl rfl fun a hF=>q_x (v:=(iV 0)) hF hS (ex_move rfl) rfl rfl fun a hF=>q_end (n_sq (q_block ?_))))))
   obtain ⟨sums_23,hl3,hb1⟩:=bindS hb1
   refine q_loop (fun (s : (List Int) × Int) a w=>∃ (q14 : Piece),∃ sums_13,∃ t_15,s = (sums_13,t_15)∧Fr a 36 [(3,s6.v),(13,s1.v),(14,(iV (goLen p_x))),(15,(iV t_9)),(19,s12.v),(20,(iV (goLen e_10))),(21,(iV t_15))]∧St [] w0 w m [q14]∧OwnL m 3 q14 s6 sums_13) (fun (sums_23 : (List Int)) e a w=>∃ (q24 : Piece),e = .exit 2∧Fr a 36 [(3,s6.v),(13,s1.v),(14,(iV (goLen p_x))),(15,(iV t_9))]∧St [] w0 w m [q24]∧OwnL m 3 q24 s6 sums_23) hl3 ⟨q8,_,_,rfl,hF.sub ⟨rfl,rfl,rfl,rfl,rfl,rfl,rfl,trivial⟩,hS,h8⟩ ?_ ?_
   ·clear hF hS
    rintro s a w st ⟨q14,sums_13,t_15,rfl,hF,hS,h14⟩ hb3
    unfold impl_colSums_l2 at hb3
    refine q_seq (q_region (q_x (v:=(.bool (decide (t_15 < (goLen e_10))))) hF hS (ex_ibin rfl rfl rfl) rfl rfl fun a hF=>q_end (n_sq (q_seq ?_))))
    rcases bcase (decide (t_15 < (goLen e_10))) with hc4 | hc4
    ·have hb3:=cond_f hc4 hb3
     refine q_cond_f hF rfl hc4 (q_exit (x_sq ?_))
     obtain rfl:=someI hb3
     exact ⟨nofun,.inl ⟨q14,rfl,hF.sub ⟨rfl,rfl,rfl,rfl,trivial⟩,hS,h14⟩⟩
    ·have hb3:=cond_t hc4 hb3
     refine q_cond_t hF rfl hc4 (q_skipc (n_sq (q_seq (q_block (q_seq (q_region (q_x (v:=(iV t_15)) hF hS (ex_move rfl) rfl rfl fun a hF=>?_)))))))
     obtain ⟨e_16,he_16,hb3⟩:=bindS hb3
     obtain ⟨vs17,at17,d17⟩:=h12.at he_16 1 rfl
     obtain rfl : vs17 = [(iV e_16)]:=d17
     refine q_x (v:=(elP s12 (t_15.toNat * 1))) hF hS (ex_indexAddr Try.underlying28 sz3 rfl rfl (h12.idx he_16)) rfl rfl fun a hF=>q_x (v:=(iV e_16)) hF hS (ex_loadE1 0 Try.underlying3 rfl rfl ((at17).at) rfl rfl) rfl rfl fun a hF=>q_x (v:=(iV t_15)) hF hS (ex_assign rfl) rfl rfl fun a hF=>q_x (v:=(iV e_16)) hF hS (ex_assign rfl) rfl rfl fun a hF=>q_end (n_sq (q_region (q_x (v:=s6.v) hF hS (ex_move rfl) rfl rfl fun a hF=>q_x (v:=(iV t_15)) hF hS (ex_move rfl) rfl rfl fun a hF=>?_)))
     obtain ⟨e_18,he_18,hb3⟩:=bindS hb3
     obtain ⟨vs19,at19,d19⟩:=h14.at he_18 1 rfl
     obtain rfl : vs19 = [(iV e_18)]:=d19
     refine q_x (v:=(elP s6 (t_15.toNat * 1))) hF hS (ex_indexAddr Try.underlying28 sz3 rfl rfl (h14.idx he_18)) rfl rfl fun a hF=>q_x (v:=(iV e_18)) hF hS (ex_loadE1 0 Try.underlying3 rfl rfl (at19.at 0 rfl) rfl rfl) rfl rfl fun a hF=>q_x (v:=(iV e_16)) hF hS (ex_move rfl) rfl rfl fun a hF=>q_x (v:=(iV (w64 (e_18 + e_16)))) hF hS (ex_ibin rfl rfl rfl) rfl rfl fun a hF=>?_
     obtain ⟨e_20,he_20,hb3⟩:=bindS hb3
     obtain ⟨vs21,at21,d21⟩:=h14.at he_20 1 rfl
     obtain rfl : vs21 = [(iV e_20)]:=d21
     refine q_x (v:=(elP s6 (t_15.toNat * 1))) hF hS (ex_indexAddr Try.underlying28 sz3 rfl rfl (h14.idx he_20)) rfl rfl fun a hF=>q_do rfl fun _ hK=>wp_storeE (e':=(w64 (e_18 + e_16))) (us:=[(iV (w64 (e_18 + e_16)))]) (vs:=[(iV e_20)]) 0 hF hS h14 sz3 rfl rfl rfl rfl rfl rfl rfl he_20 at21 rfl rfl rfl fun w q22 hS h22=>hK _ _ (q_end (n_ib (n_sq (q_region (q_x (v:=(iV (w64 (t_15 + 1)))) hF hS (ex_ibin rfl rfl rfl) rfl rfl fun a hF=>q_x (v:=(iV (w64 (t_15 + 1)))) hF hS (ex_move rfl) rfl rfl fun a hF=>q_end ?_)))))
     obtain rfl:=someI hb3
     exact ⟨rfl,q22,_,_,rfl,hF.sub ⟨rfl,rfl,rfl,rfl,rfl,rfl,rfl,trivial⟩,hS,h22⟩
   ·rintro e a w ⟨q24,rfl,hF,hS,h24⟩
    refine x_ib (n_ib (n_sq ?_))
    refine q_region (q_x (v:=(iV (w64 (t_9 + 1)))) hF hS (ex_ibin rfl rfl rfl) rfl rfl fun a hF=>q_x (v:=(iV (w64 (t_9 + 1)))) hF hS (ex_move rfl) rfl rfl fun a hF=>q_end ?_)
    obtain rfl:=someI hb1
    exact ⟨rfl,q24,_,_,rfl,hF.sub ⟨rfl,rfl,rfl,rfl,trivial⟩,hS,h24⟩
 ·rintro e a w ⟨q26,rfl,hF,hS,h26⟩
  refine x_ib (n_sq ?_)
  refine q_seq (q_region (q_x (v:=s6.v) hF hS (ex_move rfl) rfl rfl fun a hF=>q_x (v:=s6.v) hF hS (ex_assign rfl) rfl rfl fun a hF=>q_end (n_sq (q_ret ?_))))
  obtain rfl:=someI hr
  exact ret_of hF hS rfl (.tmp rfl .nil) ⟨q26,s6,rfl,hS.sel [0] (by decide),h26⟩

theorem c_impl_push (p_r : List (List Int)) (p_from : Int) (p_to : Int) (p_limit : Int) (r : Int × (List (List Int))) (hr : impl_push p_r p_from p_to p_limit = some r) (w0 : World) (m : Mem) (s1 : Sl) (q1 : Piece) (h1 : OwnD m 28 3 q1 s1 p_r) (X : List Nat) (hS : St X w0 w0 m [q1]) :
  RetX Try.prog 156 [s1.v,(iV p_from),(iV p_to),(iV p_limit)] w0 (fun v w=>∃ (qp0 : Piece),v = (iV r.1)∧St X w0 w m [qp0]∧OwnD m 28 3 qp0 s1 r.2):=by
 unfold impl_push at hr
 refine ret_startX Try.func156 rfl 149 rfl rfl fun a hF=>q_seq (q_region (q_x (v:=(iV 0)) hF hS (ex_assign rfl) rfl rfl fun a hF=>q_end (n_sq (q_seq (q_region (q_x (v:=(iV 0)) hF hS (ex_assign rfl) rfl rfl fun a hF=>q_end (n_sq (q_seq (q_block ?_)))))))))
 obtain ⟨o1,hl1,hr⟩:=bindS hr
 refine q_loop (fun (s : (List (List Int)) × Int) a w=>∃ (q3 : Piece),∃ r_2,∃ sent_4,s = (r_2,sent_4)∧Fr a 149 [(0,s1.v),(1,(iV p_from)),(2,(iV p_to)),(3,(iV p_limit)),(9,(iV sent_4))]∧St X w0 w m [q3]∧OwnD m 28 3 q3 s1 r_2) (fun (o : (List (List Int)) × Int) e a w=>∃ (q97 : Piece),∃ r_96,∃ sent_98,o = (r_96,sent_98)∧e = .exit 0∧Fr a 149 [(9,(iV sent_98))]∧St X w0 w m [q97]∧OwnD m 28 3 q97 s1 r_96) hl1 ⟨q1,_,_,rfl,hF.sub ⟨rfl,rfl,rfl,rfl,rfl,trivial⟩,hS,h1⟩ ?_ ?_
 ·clear hF hS
  rintro s a w st ⟨q3,r_2,sent_4,rfl,hF,hS,h3⟩ hb1
  unfold impl_push_l1 at hb1
  refine q_seq (q_seq (q_region (q_x (v:=(iV sent_4)) hF hS (ex_move rfl) rfl rfl fun a hF=>q_x (v:=(iV p_limit)) hF hS (ex_move rfl) rfl rfl fun a hF=>q_x (v:=(.bool (decide (sent_4 < p_limit)))) hF hS (ex_ibin rfl rfl rfl) rfl rfl fun a hF=>q_end (n_sq ?_))))
  rcases bcase (decide (sent_4 < p_limit)) with hc2 | hc2
  ·have hb1:=cond_f hc2 hb1
   refine q_cond_f hF rfl hc2 (q_exit (x_sq ?_))
   obtain rfl:=someI hb1
   exact ⟨nofun,.inl ⟨q3,_,_,rfl,rfl,hF.sub ⟨rfl,trivial⟩,hS,h3⟩⟩
  ·have hb1:=cond_t hc2 hb1
   refine q_cond_t hF rfl hc2 (q_skipc (n_sq (q_block (q_seq (q_region (q_x (v:=s1.v) hF hS (ex_move rfl) rfl rfl fun a hF=>q_x (v:=(iV (goLen r_2))) hF hS (ex_len Try.underlying23 rfl h3.len) rfl rfl fun a hF=>?_))))))
   obtain ⟨l_5,hl_5,hb1⟩:=bindS hb1
   refine q_do rfl fun _ hK=>wp_make (z:=(0 : Int)) hF hS Try.underlying28 inf3 rfl rfl rfl rfl rfl (by decide) hl_5 rfl fun a w q6 s6 hF hS h6 _=>hK _ _ (q_x (v:=s6.v) hF hS (ex_assign rfl) rfl rfl fun a hF=>q_end (n_sq (q_seq (q_seq (q_region (q_x (v:=s6.v) hF hS (ex_move rfl) rfl rfl fun a hF=>q_x (v:=(iV (goLen l_5))) hF hS (ex_len Try.underlying28 rfl h6.len) rfl rfl fun a hF=>q_x (v:=(iV 0)) hF hS (ex_move rfl) rfl rfl fun a hF=>q_end (n_sq (q_block ?_))))))))
   obtain ⟨back_13,hl3,hb1⟩:=bindS hb1
   refine q_loop (fun (s : (List Int) × Int) a w=>∃ (q8 : Piece),∃ back_7,∃ t_9,s = (back_7,t_9)∧Fr a 149 [(0,s1.v),(1,(iV p_from)),(2,(iV p_to)),(3,(iV p_limit)),(9,(iV sent_4)),(10,s6.v),(26,(iV (goLen l_5))),(27,(iV t_9))]∧St X w0 w m [q8,q3]∧OwnL m 3 q8 s6 back_7) (fun (back_13 : (List Int)) e a w=>∃ (q14 : Piece),e = .exit 2∧Fr a 149 [(0,s1.v),(1,(iV p_from)),(2,(iV p_to)),(3,(iV p_limit)),(9,(iV sent_4)),(10,s6.v)]∧St X w0 w m [q3,q14]∧OwnL m 3 q14 s6 back_13) hl3 ⟨q6,_,_,rfl,hF.sub ⟨rfl,rfl,rfl,rfl,rfl,rfl,rfl,rfl,trivial⟩,hS,h6⟩ ?_ ?_
   ·clear hF hS
    rintro s a w st ⟨q8,back_7,t_9,rfl,hF,hS,h8⟩ hb3
    unfold impl_push_l2 at hb3
    refine q_seq (q_region (q_x (v:=(.bool (decide (t_9 < (goLen l_5))))) hF hS (ex_ibin rfl rfl rfl) rfl rfl fun a hF=>q_end (n_sq (q_seq ?_))))
    rcases bcase (decide (t_9 < (goLen l_5))) with hc4 | hc4
    ·have hb3:=cond_f hc4 hb3
     refine q_cond_f hF rfl hc4 (q_exit (x_sq ?_))
     obtain rfl:=someI hb3
     exact ⟨nofun,.inl ⟨q8,rfl,hF.sub ⟨rfl,rfl,rfl,rfl,rfl,rfl,trivial⟩,hS.sel [1,0] (by decide),h8⟩⟩
    ·have hb3:=cond_t hc4 hb3
     refine q_cond_t hF rfl hc4 (q_skipc (n_sq (q_seq (q_block (q_seq (q_region (q_x (v:=(iV t_9)) hF hS (ex_move rfl) rfl rfl fun a hF=>q_x (v:=(iV t_9)) hF hS (ex_assign rfl) rfl rfl fun a hF=>q_end (n_sq (q_region (q_x (v:=s6.v) hF hS (ex_move rfl) rfl rfl fun a hF=>q_x (v:=(iV t_9)) hF hS (ex_move rfl) rfl rfl fun a hF=>?_))))))))))
     obtain ⟨e_10,he_10,hb3⟩:=bindS hb3
     obtain ⟨vs11,at11,d11⟩:=h8.at he_10 1 rfl
     obtain rfl : vs11 = [(iV e_10)]:=d11
     refine q_x (v:=(elP s6 (t_9.toNat * 1))) hF hS (ex_indexAddr Try.underlying28 sz3 rfl rfl (h8.idx he_10)) rfl rfl fun a hF=>q_do rfl fun _ hK=>wp_storeE (e':=-1) (us:=[(iV (-1))]) (vs:=[(iV e_10)]) 0 hF hS h8 sz3 rfl rfl rfl rfl rfl rfl rfl he_10 at11 rfl rfl rfl fun w q12 hS h12=>hK _ _ (q_end (n_ib (n_sq (q_region (q_x (v:=(iV (w64 (t_9 + 1)))) hF hS (ex_ibin rfl rfl rfl) rfl rfl fun a hF=>q_x (v:=(iV (w64 (t_9 + 1)))) hF hS (ex_move rfl) rfl rfl fun a hF=>q_end ?_)))))
     obtain rfl:=someI hb3
     exact ⟨rfl,q12,_,_,rfl,hF.sub ⟨rfl,rfl,rfl,rfl,rfl,rfl,rfl,rfl,trivial⟩,hS,h12⟩
   ·rintro e a w ⟨q14,rfl,hF,hS,h14⟩
    refine x_ib (n_sq ?_)
    refine q_seq (q_region (q_x (v:=s6.v) hF hS (ex_move rfl) rfl rfl fun a hF=>q_x (v:=(iV p_from)) hF hS (ex_move rfl) rfl rfl fun a hF=>q_x (v:=(iV p_from)) hF hS (ex_move rfl) rfl rfl fun a hF=>?_))
    obtain ⟨e_15,he_15,hb1⟩:=bindS hb1
    obtain ⟨vs16,at16,d16⟩:=h14.at he_15 1 rfl
    obtain rfl : vs16 = [(iV e_15)]:=d16
    refine q_x (v:=(elP s6 (p_from.toNat * 1))) hF hS (ex_indexAddr Try.underlying28 sz3 rfl rfl (h14.idx he_15)) rfl rfl fun a hF=>?_
    have hS : St _ _ _ _ [q14,q3]:=hS.sel [1,0] (by decide)
    refine q_do rfl fun _ hK=>wp_storeE (e':=p_from) (us:=[(iV p_from)]) (vs:=[(iV e_15)]) 0 hF hS h14 sz3 rfl rfl rfl rfl rfl rfl rfl he_15 at16 rfl rfl rfl fun w q17 hS h17=>hK _ _ (q_end (n_sq (q_seq (q_region (q_x (v:=(iV p_from)) hF hS (ex_move rfl) rfl rfl fun a hF=>q_do rfl fun _ hK=>wp_buildSlice' (l:=([p_from] : List Int)) (cells:=[(iV p_from)]) hF hS Try.underlying28 inf3 rfl rfl (by kernel_rfl) rfl rfl rfl ⟨rfl,rfl⟩ rfl rfl fun a w q18 s18 hF hS h18 _=>hK _ _ ?_)))))
    replace h18:=h18.toT (List.cons_ne_nil _ _)
    refine q_x (v:=s18.v) hF hS (ex_assign rfl) rfl rfl fun a hF=>q_end (n_sq (q_seq (q_block ?_)))
    obtain ⟨back_56,hl5,hb1⟩:=bindS hb1
    refine q_loop (fun (s : (List Int) × (List Int)) a w=>∃ (q20 : Piece),∃ (q22 : Piece),∃ (s22 : Sl),∃ back_19,∃ queue_21,s = (back_19,queue_21)∧Fr a 149 [(0,s1.v),(1,(iV p_from)),(2,(iV p_to)),(3,(iV p_limit)),(9,(iV sent_4)),(10,s6.v),(12,s22.v)]∧St X w0 w m [q20,q22,q3]∧OwnL m 3 q20 s6 back_19∧OwnT m 3 q22 s22 queue_21) (fun (back_56 : (List Int)) e a w=>∃ (q57 : Piece),e = .exit 4∧Fr a 149 [(0,s1.v),(1,(iV p_from)),(2,(iV p_to)),(3,(iV p_limit)),(9,(iV sent_4)),(10,s6.v)]∧St X w0 w m [q3,q57]∧OwnL m 3 q57 s6 back_56) hl5 ⟨q17,q18,s18,_,_,rfl,hF.sub ⟨rfl,rfl,rfl,rfl,rfl,rfl,rfl,trivial⟩,hS.sel [1,0,2] (by decide),h17,h18⟩ ?_ ?_
    ·clear hF hS
     rintro s a w st ⟨q20,q22,s22,back_19,queue_21,rfl,hF,hS,h20,h22⟩ hb5
     unfold impl_push_l3 at hb5
     refine q_seq (q_seq ?_)
     obtain ⟨t_25,hj6,hb5⟩:=bindS hb5
     refine q_join (fun a w=>Fr a 149 [(0,s1.v),(1,(iV p_from)),(2,(iV p_to)),(3,(iV p_limit)),(9,(iV sent_4)),(10,s6.v),(12,s22.v),(49,(.bool t_25))]∧St X w0 w m [q3,q20,q22]) ?_ ?_
     ·refine q_region (q_x (v:=s22.v) hF hS (ex_move rfl) rfl rfl fun a hF=>q_x (v:=(iV (goLen queue_21))) hF hS (ex_len Try.underlying28 rfl h22.len) rfl rfl fun a hF=>q_x (v:=(.bool (decide (0 < (goLen queue_21))))) hF hS (ex_ibin rfl rfl rfl) rfl rfl fun a hF=>q_x (v:=(.bool (decide (0 < (goLen queue_21))))) hF hS (ex_move rfl) rfl rfl fun a hF=>?_)
      rcases bcase (decide (0 < (goLen queue_21))) with hc7 | hc7
      ·have hj6:=cond_f hc7 hj6
       refine q_skip hF (wanted_f hF rfl rfl rfl hc7 rfl) rfl fun a hF=>q_skip hF (wanted_f hF rfl rfl rfl hc7 rfl) rfl fun a hF=>q_skip hF (wanted_f hF rfl rfl rfl hc7 rfl) rfl fun a hF=>q_skip hF (wanted_f hF rfl rfl rfl hc7 rfl) rfl fun a hF=>q_skip hF (wanted_f hF rfl rfl rfl hc7 rfl) rfl fun a hF=>q_x (v:=(.bool false)) hF hS (ex_pick_f rfl rfl hc7) rfl rfl fun a hF=>q_end (n_jn ?_)
       obtain rfl:=someI hj6
       exact ⟨hF.sub ⟨rfl,rfl,rfl,rfl,rfl,rfl,rfl,rfl,trivial⟩,hS.sel [2,0,1] (by decide)⟩
      ·have hj6:=cond_t hc7 hj6
       refine q_xg (v:=s6.v) hF hS (ex_move rfl) (wanted_t hF rfl rfl rfl hc7) rfl fun a hF=>q_xg (v:=(iV p_to)) hF hS (ex_move rfl) (wanted_t hF rfl rfl rfl hc7) rfl fun a hF=>?_
       obtain ⟨e_23,he_23,hj6⟩:=bindS hj6
       obtain ⟨vs24,at24,d24⟩:=h20.at he_23 1 rfl
       obtain rfl : vs24 = [(iV e_23)]:=d24
       refine q_xg (v:=(elP s6 (p_to.toNat * 1))) hF hS (ex_indexAddr Try.underlying28 sz3 rfl rfl (h20.idx he_23)) (wanted_t hF rfl rfl rfl hc7) rfl fun a hF=>q_xg (v:=(iV e_23)) hF hS (ex_loadE1 0 Try.underlying3 rfl rfl (at24.at 0 rfl) rfl rfl) (wanted_t hF rfl rfl rfl hc7) rfl fun a hF=>q_xg (v:=(.bool (decide (e_23 < 0)))) hF hS (ex_ibin rfl rfl rfl) (wanted_t hF rfl rfl rfl hc7) rfl fun a hF=>q_x (v:=(.bool (decide (e_23 < 0)))) hF hS (ex_pick_t rfl rfl hc7) rfl rfl fun a hF=>q_end (n_jn ?_)
       obtain rfl:=someI hj6
       exact ⟨hF.sub ⟨rfl,rfl,rfl,rfl,rfl,rfl,rfl,rfl,trivial⟩,hS.sel [2,0,1] (by decide)⟩
     ·rintro a w ⟨hF,hS⟩
      refine n_sq ?_
      rcases bcase (t_25) with hc8 | hc8
      ·have hb5:=cond_f hc8 hb5
       refine q_cond_f hF rfl hc8 (q_exit (x_sq ?_))
       obtain rfl:=someI hb5
       exact ⟨nofun,.inl ⟨q20,rfl,hF.sub ⟨rfl,rfl,rfl,rfl,rfl,rfl,trivial⟩,hS.mask [true,true,false],h20⟩⟩
      ·have hb5:=cond_t hc8 hb5
       refine q_cond_t hF rfl hc8 (q_skipc (n_sq (q_block (q_seq (q_region (q_x (v:=s22.v) hF hS (ex_move rfl) rfl rfl fun a hF=>?_))))))
       obtain ⟨e_26,he_26,hb5⟩:=bindS hb5
       obtain ⟨vs27,at27,d27⟩:=h22.at he_26 1 rfl
       obtain rfl : vs27 = [(iV e_26)]:=d27
       refine q_x (v:=(elP s22 ((0 : Int).toNat * 1))) hF hS (ex_indexAddr Try.underlying28 sz3 rfl rfl (h22.idx he_26)) rfl rfl fun a hF=>q_x (v:=(iV e_26)) hF hS (ex_loadE1 0 Try.underlying3 rfl rfl (at27.at 2 rfl) rfl rfl) rfl rfl fun a hF=>q_x (v:=(iV e_26)) hF hS (ex_assign rfl) rfl rfl fun a hF=>q_end (n_sq (q_seq (q_region (q_x (v:=s22.v) hF hS (ex_move rfl) rfl rfl fun a hF=>?_))))
       obtain ⟨l_28,hl_28,hb5⟩:=bindS hb5
       have h29 : OwnT m 3 q22 (subS s22 1 (1 : Int).toNat (goLen queue_21).toNat s22.cap) l_28:=h22.sub1 hl_28
       refine q_x (v:=(subS s22 1 (1 : Int).toNat (goLen queue_21).toNat s22.cap).v) hF hS (ex_slice Try.underlying28 sz3 rfl rfl rfl (.inr ⟨_,rfl⟩) (.inl ⟨rfl,h22.jlen⟩) (h22.subok hl_28)) rfl rfl fun a hF=>q_x (v:=(subS s22 1 (1 : Int).toNat (goLen queue_21).toNat s22.cap).v) hF hS (ex_assign rfl) rfl rfl fun a hF=>q_end (n_sq (q_seq (q_region (q_x (v:=s1.v) hF hS (ex_move rfl) rfl rfl fun a hF=>q_x (v:=(iV e_26)) hF hS (ex_move rfl) rfl rfl fun a hF=>?_))))
       obtain ⟨e_30,he_30,hb5⟩:=bindS hb5
       obtain ⟨s31,hV31⟩:=h3.view he_30
       refine q_x (v:=(elP s1 (e_26.toNat * 1))) hF hS (ex_indexAddr Try.underlying23 sz28 rfl rfl (h3.idx he_30)) rfl rfl fun a hF=>q_x (v:=s31.v) hF hS (ex_loadE1 0 Try.underlying28 rfl rfl ((hV31.atH he_30).at 0 rfl) rfl rfl) rfl rfl fun a hF=>q_x (v:=(iV (goLen e_30))) hF hS (ex_len Try.underlying28 rfl (hV31.len he_30)) rfl rfl fun a hF=>q_x (v:=(iV 0)) hF hS (ex_move rfl) rfl rfl fun a hF=>q_end (n_sq (q_block ?_))
       obtain ⟨o9,hl9,hb5⟩:=bindS hb5
       refine q_loop (fun (s : (List Int) × (List Int) × Int) a w=>∃ (q33 : Piece),∃ (q35 : Piece),∃ (s35 : Sl),∃ back_32,∃ queue_34,∃ t_36,s = (back_32,queue_34,t_36)∧Fr a 149 [(0,s1.v),(1,(iV p_from)),(2,(iV p_to)),(3,(iV p_limit)),(9,(iV sent_4)),(10,s6.v),(12,s35.v),(13,(iV e_26)),(58,s31.v),(59,(iV (goLen e_30))),(60,(iV t_36))]∧St X w0 w m [q33,q35,q3]∧OwnL m 3 q33 s6 back_32∧OwnT m 3 q35 s35 queue_34) (fun (o : (List Int) × (List Int)) e a w=>∃ (q53 : Piece),∃ (q55 : Piece),∃ (s55 : Sl),∃ back_52,∃ queue_54,o = (back_52,queue_54)∧e = .exit 6∧Fr a 149 [(0,s1.v),(1,(iV p_from)),(2,(iV p_to)),(3,(iV p_limit)),(9,(iV sent_4)),(10,s6.v),(12,s55.v)]∧St X w0 w m [q3,q53,q55]∧OwnL m 3 q53 s6 back_52∧OwnT m 3 q55 s55 queue_54) hl9 ⟨q20,q22,(subS s22 1 (1 : Int).toNat (goLen queue_21).toNat s22.cap),_,_,_,rfl,hF.sub ⟨rfl,rfl,rfl,rfl,rfl,rfl,rfl,rfl,rfl,rfl,rfl,trivial⟩,hS.sel [1,2,0] (by decide),h20,h29⟩ ?_ ?_
       ·clear hF hS
        rintro s a w st ⟨q33,q35,s35,back_32,queue_34,t_36,rfl,hF,hS,h33,h35⟩ hb9
        unfold impl_push_l4 at hb9
        refine q_seq (q_region (q_x (v:=(.bool (decide (t_36 < (goLen e_30))))) hF hS (ex_ibin rfl rfl rfl) rfl rfl fun a hF=>q_end (n_sq (q_seq ?_))))
        rcases bcase (decide (t_36 < (goLen e_30))) with hc10 | hc10
        ·have hb9:=cond_f hc10 hb9
         refine q_cond_f hF rfl hc10 (q_exit (x_sq ?_))
         obtain rfl:=someI hb9
         exact ⟨nofun,.inl ⟨q33,q35,s35,_,_,rfl,rfl,hF.sub ⟨rfl,rfl,rfl,rfl,rfl,rfl,rfl,trivial⟩,hS.sel [2,0,1] (by decide),h33,h35⟩⟩
        ·have hb9:=cond_t hc10 hb9
         refine q_cond_t hF rfl hc10 (q_skipc (n_sq (q_seq (q_block (q_seq (q_region (q_x (v:=(iV t_36)) hF hS (ex_move rfl) rfl rfl fun a hF=>?_)))))))
         obtain ⟨e_37,he_37,hb9⟩:=bindS hb9
         obtain ⟨vs38,at38,d38⟩:=hV31.at he_30 he_37 1 rfl
         obtain rfl : vs38 = [(iV e_37)]:=d38
         refine q_x (v:=(elP s31 (t_36.toNat * 1))) hF hS (ex_indexAddr Try.underlying28 sz3 rfl rfl (hV31.idx he_30 he_37)) rfl rfl fun a hF=>q_x (v:=(iV e_37)) hF hS (ex_loadE1 0 Try.underlying3 rfl rfl (at38.at 2 rfl) rfl rfl) rfl rfl fun a hF=>q_x (v:=(iV t_36)) hF hS (ex_assign rfl) rfl rfl fun a hF=>q_x (v:=(iV e_37)) hF hS (ex_assign rfl) rfl rfl fun a hF=>q_end (n_sq (q_seq ?_))
         obtain ⟨t_41,hj11,hb9⟩:=bindS hb9
         refine q_join (fun a w=>Fr a 149 [(0,s1.v),(1,(iV p_from)),(2,(iV p_to)),(3,(iV p_limit)),(9,(iV sent_4)),(10,s6.v),(12,s35.v),(13,(iV e_26)),(14,(iV t_36)),(58,s31.v),(59,(iV (goLen e_30))),(60,(iV t_36)),(73,(.bool t_41))]∧St X w0 w m [q3,q33,q35]) ?_ ?_
         ·refine q_region (q_x (v:=(iV e_37)) hF hS (ex_move rfl) rfl rfl fun a hF=>q_x (v:=(.bool (decide (0 < e_37)))) hF hS (ex_ibin rfl rfl rfl) rfl rfl fun a hF=>q_x (v:=(.bool (decide (0 < e_37)))) hF hS (ex_move rfl) rfl rfl fun a hF=>?_)
          rcases bcase (decide (0 < e_37)) with hc12 | hc12
          ·have hj11:=cond_f hc12 hj11
           refine q_skip hF (wanted_f hF rfl rfl rfl hc12 rfl) rfl fun a hF=>q_skip hF (wanted_f hF rfl rfl rfl hc12 rfl) rfl fun a hF=>q_skip hF (wanted_f hF rfl rfl rfl hc12 rfl) rfl fun a hF=>q_skip hF (wanted_f hF rfl rfl rfl hc12 rfl) rfl fun a hF=>q_skip hF (wanted_f hF rfl rfl rfl hc12 rfl) rfl fun a hF=>q_x (v:=(.bool false)) hF hS (ex_pick_f rfl rfl hc12) rfl rfl fun a hF=>q_end (n_jn ?_)
           obtain rfl:=someI hj11
           exact ⟨hF.sub ⟨rfl,rfl,rfl,rfl,rfl,rfl,rfl,rfl,rfl,rfl,rfl,rfl,rfl,trivial⟩,hS.sel [2,0,1] (by decide)⟩
          ·have hj11:=cond_t hc12 hj11
           refine q_xg (v:=s6.v) hF hS (ex_move rfl) (wanted_t hF rfl rfl rfl hc12) rfl fun a hF=>q_xg (v:=(iV t_36)) hF hS (ex_move rfl) (wanted_t hF rfl rfl rfl hc12) rfl fun a hF=>?_
           obtain ⟨e_39,he_39,hj11⟩:=bindS hj11
           obtain ⟨vs40,at40,d40⟩:=h33.at he_39 1 rfl
           obtain rfl : vs40 = [(iV e_39)]:=d40
           refine q_xg (v:=(elP s6 (t_36.toNat * 1))) hF hS (ex_indexAddr Try.underlying28 sz3 rfl rfl (h33.idx he_39)) (wanted_t hF rfl rfl rfl hc12) rfl fun a hF=>q_xg (v:=(iV e_39)) hF hS (ex_loadE1 0 Try.underlying3 rfl rfl (at40.at 0 rfl) rfl rfl) (wanted_t hF rfl rfl rfl hc12) rfl fun a hF=>q_xg (v:=(.bool (decide (e_39 < 0)))) hF hS (ex_ibin rfl rfl rfl) (wanted_t hF rfl rfl rfl hc12) rfl fun a hF=>q_x (v:=(.bool (decide (e_39 < 0)))) hF hS (ex_pick_t rfl rfl hc12) rfl rfl fun a hF=>q_end (n_jn ?_)
           obtain rfl:=someI hj11
           exact ⟨hF.sub ⟨rfl,rfl,rfl,rfl,rfl,rfl,rfl,rfl,rfl,rfl,rfl,rfl,rfl,trivial⟩,hS.sel [2,0,1] (by decide)⟩
         ·rintro a w ⟨hF,hS⟩
          refine n_sq ?_
          obtain ⟨j13,hj13,hb9⟩:=bindS hb9
          refine q_join (fun a w=>∃ (q49 : Piece),∃ (q51 : Piece),∃ (s51 : Sl),∃ back_48,∃ queue_50,j13 = (back_48,queue_50)∧Fr a 149 [(0,s1.v),(1,(iV p_from)),(2,(iV p_to)),(3,(iV p_limit)),(9,(iV sent_4)),(10,s6.v),(12,s51.v),(13,(iV e_26)),(58,s31.v),(59,(iV (goLen e_30))),(60,(iV t_36))]∧St X w0 w m [q3,q49,q51]∧OwnL m 3 q49 s6 back_48∧OwnT m 3 q51 s51 queue_50) ?_ ?_
          ·rcases bcase (t_41) with hc14 | hc14
           ·have hj13:=cond_f hc14 hj13
            refine q_cond_f hF rfl hc14 (q_skipc (n_jn ?_))
            obtain rfl:=someI hj13
            exact ⟨q33,q35,s35,_,_,rfl,hF.sub ⟨rfl,rfl,rfl,rfl,rfl,rfl,rfl,rfl,rfl,rfl,rfl,trivial⟩,hS,h33,h35⟩
           ·have hj13:=cond_t hc14 hj13
            refine q_cond_t hF rfl hc14 (q_seq (q_region (q_x (v:=s6.v) hF hS (ex_move rfl) rfl rfl fun a hF=>q_x (v:=(iV t_36)) hF hS (ex_move rfl) rfl rfl fun a hF=>q_x (v:=(iV e_26)) hF hS (ex_move rfl) rfl rfl fun a hF=>?_)))
            obtain ⟨e_42,he_42,hj13⟩:=bindS hj13
            obtain ⟨vs43,at43,d43⟩:=h33.at he_42 1 rfl
            obtain rfl : vs43 = [(iV e_42)]:=d43
            refine q_x (v:=(elP s6 (t_36.toNat * 1))) hF hS (ex_indexAddr Try.underlying28 sz3 rfl rfl (h33.idx he_42)) rfl rfl fun a hF=>?_
            have hS : St _ _ _ _ [q33,q3,q35]:=hS.sel [1,0,2] (by decide)
            refine q_do rfl fun _ hK=>wp_storeE (e':=e_26) (us:=[(iV e_26)]) (vs:=[(iV e_42)]) 0 hF hS h33 sz3 rfl rfl rfl rfl rfl rfl rfl he_42 at43 rfl rfl rfl fun w q44 hS h44=>hK _ _ (q_end (n_sq (q_region (q_x (v:=s35.v) hF hS (ex_move rfl) rfl rfl fun a hF=>q_x (v:=(iV t_36)) hF hS (ex_move rfl) rfl rfl fun a hF=>q_do rfl fun _ hK=>wp_buildSlice' (l:=([t_36] : List Int)) (cells:=[(iV t_36)]) hF hS Try.underlying28 inf3 rfl rfl (by kernel_rfl) rfl rfl rfl ⟨rfl,rfl⟩ rfl rfl fun a w q45 s45 hF hS h45 _=>hK _ _ ?_))))
            have hS : St _ _ _ _ [q35,q45,q44,q3]:=hS.sel [3,0,1,2] (by decide)
            obtain ⟨l_46,hl_46,hj13⟩:=bindS hj13
            refine q_do rfl fun _ hK=>wp_appendT hF hS h35 Try.underlying28 inf3 rfl rfl rfl rfl (h45.vw hS (j:=1) rfl) (by decide) hl_46 rfl fun a w q47 s47 hF hS h47=>hK _ _ (q_x (v:=s47.v) hF hS (ex_assign rfl) rfl rfl fun a hF=>q_end (n_jn ?_))
            obtain rfl:=someI hj13
            exact ⟨q44,q47,s47,_,_,rfl,hF.sub ⟨rfl,rfl,rfl,rfl,rfl,rfl,rfl,rfl,rfl,rfl,rfl,trivial⟩,hS.sel [3,2,0] (by decide),h44,h47⟩
          ·rintro a w ⟨q49,q51,s51,back_48,queue_50,rfl,hF,hS,h49,h51⟩
           refine n_ib (n_sq ?_)
           refine q_region (q_x (v:=(iV (w64 (t_36 + 1)))) hF hS (ex_ibin rfl rfl rfl) rfl rfl fun a hF=>q_x (v:=(iV (w64 (t_36 + 1)))) hF hS (ex_move rfl) rfl rfl fun a hF=>q_end ?_)
           obtain rfl:=someI hb9
           exact ⟨rfl,q49,q51,s51,_,_,_,rfl,hF.sub ⟨rfl,rfl,rfl,rfl,rfl,rfl,rfl,rfl,rfl,rfl,rfl,trivial⟩,hS.sel [1,2,0] (by decide),h49,h51⟩
       ·rintro e a w ⟨q53,q55,s55,back_52,queue_54,rfl,rfl,hF,hS,h53,h55⟩
        refine x_ib (n_ib ?_)
        obtain rfl:=someI hb5
        exact ⟨rfl,q53,q55,s55,_,_,rfl,hF.sub ⟨rfl,rfl,rfl,rfl,rfl,rfl,rfl,trivial⟩,hS.sel [1,2,0] (by decide),h53,h55⟩
    ·rintro e a w ⟨q57,rfl,hF,hS,h57⟩
     refine x_ib (n_sq ?_)
     refine q_seq (q_seq (q_region (q_x (v:=s6.v) hF hS (ex_move rfl) rfl rfl fun a hF=>q_x (v:=(iV p_to)) hF hS (ex_move rfl) rfl rfl fun a hF=>?_)))
     obtain ⟨e_58,he_58,hb1⟩:=bindS hb1
     obtain ⟨vs59,at59,d59⟩:=h57.at he_58 1 rfl
     obtain rfl : vs59 = [(iV e_58)]:=d59
     refine q_x (v:=(elP s6 (p_to.toNat * 1))) hF hS (ex_indexAddr Try.underlying28 sz3 rfl rfl (h57.idx he_58)) rfl rfl fun a hF=>q_x (v:=(iV e_58)) hF hS (ex_loadE1 0 Try.underlying3 rfl rfl (at59.at 1 rfl) rfl rfl) rfl rfl fun a hF=>q_x (v:=(.bool (decide (e_58 < 0)))) hF hS (ex_ibin rfl rfl rfl) rfl rfl fun a hF=>q_end (n_sq ?_)
     rcases bcase (decide (e_58 < 0)) with hc15 | hc15
     ·have hb1:=cond_f hc15 hb1
      refine q_cond_f hF rfl hc15 (q_skipc (n_sq (q_seq (q_region (q_x (v:=(iV p_limit)) hF hS (ex_move rfl) rfl rfl fun a hF=>q_x (v:=(iV sent_4)) hF hS (ex_move rfl) rfl rfl fun a hF=>q_x (v:=(iV (w64 (p_limit - sent_4)))) hF hS (ex_ibin rfl rfl rfl) rfl rfl fun a hF=>q_x (v:=(iV (w64 (p_limit - sent_4)))) hF hS (ex_assign rfl) rfl rfl fun a hF=>q_end (n_sq (q_seq (q_seq (q_region (q_x (v:=(iV p_to)) hF hS (ex_move rfl) rfl rfl fun a hF=>q_x (v:=(iV p_to)) hF hS (ex_assign rfl) rfl rfl fun a hF=>q_end (n_sq (q_block ?_))))))))))))
      obtain ⟨step_70,hl16,hb1⟩:=bindS hb1
      refine q_loop (fun (s : Int × Int) a w=>∃ step_60,∃ v_61,s = (step_60,v_61)∧Fr a 149 [(0,s1.v),(1,(iV p_from)),(2,(iV p_to)),(3,(iV p_limit)),(9,(iV sent_4)),(10,s6.v),(16,(iV step_60)),(17,(iV v_61))]∧St X w0 w m [q3,q57]) (fun (step_70 : Int) e a w=>e = .exit 8∧Fr a 149 [(0,s1.v),(1,(iV p_from)),(2,(iV p_to)),(3,(iV p_limit)),(9,(iV sent_4)),(10,s6.v),(16,(iV step_70))]∧St X w0 w m [q3,q57]) hl16 ⟨_,_,rfl,hF.sub ⟨rfl,rfl,rfl,rfl,rfl,rfl,rfl,rfl,trivial⟩,hS⟩ ?_ ?_
      ·clear hF hS
       rintro s a w st ⟨step_60,v_61,rfl,hF,hS⟩ hb16
       unfold impl_push_l5 at hb16
       refine q_seq (q_seq (q_region (q_x (v:=(iV v_61)) hF hS (ex_move rfl) rfl rfl fun a hF=>q_x (v:=(iV p_from)) hF hS (ex_move rfl) rfl rfl fun a hF=>q_x (v:=(.bool (v_61 != p_from))) hF hS (ex_ibin rfl rfl rfl) rfl rfl fun a hF=>q_end (n_sq ?_))))
       rcases bcase (v_61 != p_from) with hc17 | hc17
       ·have hb16:=cond_f hc17 hb16
        refine q_cond_f hF rfl hc17 (q_exit (x_sq ?_))
        obtain rfl:=someI hb16
        exact ⟨nofun,.inl ⟨rfl,hF.sub ⟨rfl,rfl,rfl,rfl,rfl,rfl,rfl,trivial⟩,hS⟩⟩
       ·have hb16:=cond_t hc17 hb16
        refine q_cond_t hF rfl hc17 (q_skipc (n_sq (q_seq (q_block (q_region (q_x (v:=(iV step_60)) hF hS (ex_move rfl) rfl rfl fun a hF=>q_x (v:=s1.v) hF hS (ex_move rfl) rfl rfl fun a hF=>q_x (v:=s6.v) hF hS (ex_move rfl) rfl rfl fun a hF=>q_x (v:=(iV v_61)) hF hS (ex_move rfl) rfl rfl fun a hF=>?_))))))
        obtain ⟨e_62,he_62,hb16⟩:=bindS hb16
        obtain ⟨vs63,at63,d63⟩:=h57.at he_62 1 rfl
        obtain rfl : vs63 = [(iV e_62)]:=d63
        refine q_x (v:=(elP s6 (v_61.toNat * 1))) hF hS (ex_indexAddr Try.underlying28 sz3 rfl rfl (h57.idx he_62)) rfl rfl fun a hF=>q_x (v:=(iV e_62)) hF hS (ex_loadE1 0 Try.underlying3 rfl rfl (at63.at 1 rfl) rfl rfl) rfl rfl fun a hF=>?_
        obtain ⟨e_64,he_64,hb16⟩:=bindS hb16
        obtain ⟨s65,hV65⟩:=h3.view he_64
        refine q_x (v:=(elP s1 (e_62.toNat * 1))) hF hS (ex_indexAddr Try.underlying23 sz28 rfl rfl (h3.idx he_64)) rfl rfl fun a hF=>q_x (v:=s65.v) hF hS (ex_loadE1 0 Try.underlying28 rfl rfl ((hV65.atH he_64).at 0 rfl) rfl rfl) rfl rfl fun a hF=>q_x (v:=(iV v_61)) hF hS (ex_move rfl) rfl rfl fun a hF=>?_
        obtain ⟨e_66,he_66,hb16⟩:=bindS hb16
        obtain ⟨vs67,at67,d67⟩:=hV65.at he_64 he_66 1 rfl
        obtain rfl : vs67 = [(iV e_66)]:=d67
        refine q_x (v:=(elP s65 (v_61.toNat * 1))) hF hS (ex_indexAddr Try.underlying28 sz3 rfl rfl (hV65.idx he_64 he_66)) rfl rfl fun a hF=>q_x (v:=(iV e_66)) hF hS (ex_loadE1 0 Try.underlying3 rfl rfl (at67.at 0 rfl) rfl rfl) rfl rfl fun a hF=>q_x (v:=(iV (min step_60 e_66))) hF hS (ex_min rfl rfl) rfl rfl fun a hF=>q_x (v:=(iV (min step_60 e_66))) hF hS (ex_assign rfl) rfl rfl fun a hF=>q_end (n_ib (n_sq (q_region (q_x (v:=s6.v) hF hS (ex_move rfl) rfl rfl fun a hF=>q_x (v:=(iV v_61)) hF hS (ex_move rfl) rfl rfl fun a hF=>?_))))
        obtain ⟨e_68,he_68,hb16⟩:=bindS hb16
        obtain ⟨vs69,at69,d69⟩:=h57.at he_68 1 rfl
        obtain rfl : vs69 = [(iV e_68)]:=d69
        refine q_x (v:=(elP s6 (v_61.toNat * 1))) hF hS (ex_indexAddr Try.underlying28 sz3 rfl rfl (h57.idx he_68)) rfl rfl fun a hF=>q_x (v:=(iV e_68)) hF hS (ex_loadE1 0 Try.underlying3 rfl rfl (at69.at 1 rfl) rfl rfl) rfl rfl fun a hF=>q_x (v:=(iV e_68)) hF hS (ex_assign rfl) rfl rfl fun a hF=>q_end ?_
        obtain rfl:=someI hb16
        exact ⟨rfl,_,_,rfl,hF.sub ⟨rfl,rfl,rfl,rfl,rfl,rfl,rfl,rfl,trivial⟩,hS⟩
      ·rintro e a w ⟨rfl,hF,hS⟩
       refine x_ib (n_sq ?_)
       refine q_seq (q_seq (q_region (q_x (v:=(iV p_to)) hF hS (ex_move rfl) rfl rfl fun a hF=>q_x (v:=(iV p_to)) hF hS (ex_assign rfl) rfl rfl fun a hF=>q_end (n_sq (q_block ?_)))))
       obtain ⟨r_94,hl18,hb1⟩:=bindS hb1
       refine q_loop (fun (s : (List (List Int)) × Int) a w=>∃ (q72 : Piece),∃ r_71,∃ v_73,s = (r_71,v_73)∧Fr a 149 [(0,s1.v),(1,(iV p_from)),(2,(iV p_to)),(3,(iV p_limit)),(9,(iV sent_4)),(10,s6.v),(16,(iV step_70)),(18,(iV v_73))]∧St X w0 w m [q72,q57]∧OwnD m 28 3 q72 s1 r_71) (fun (r_94 : (List (List Int))) e a w=>∃ (q95 : Piece),e = .exit 10∧Fr a 149 [(0,s1.v),(1,(iV p_from)),(2,(iV p_to)),(3,(iV p_limit)),(9,(iV sent_4)),(16,(iV step_70))]∧St X w0 w m [q95]∧OwnD m 28 3 q95 s1 r_94) hl18 ⟨q3,_,_,rfl,hF.sub ⟨rfl,rfl,rfl,rfl,rfl,rfl,rfl,rfl,trivial⟩,hS,h3⟩ ?_ ?_
       ·clear hF hS
        rintro s a w st ⟨q72,r_71,v_73,rfl,hF,hS,h72⟩ hb18
        unfold impl_push_l6 at hb18
        refine q_seq (q_seq (q_region (q_x (v:=(iV v_73)) hF hS (ex_move rfl) rfl rfl fun a hF=>q_x (v:=(iV p_from)) hF hS (ex_move rfl) rfl rfl fun a hF=>q_x (v:=(.bool (v_73 != p_from))) hF hS (ex_ibin rfl rfl rfl) rfl rfl fun a hF=>q_end (n_sq ?_))))
        rcases bcase (v_73 != p_from) with hc19 | hc19
        ·have hb18:=cond_f hc19 hb18
         refine q_cond_f hF rfl hc19 (q_exit (x_sq ?_))
         obtain rfl:=someI hb18
         exact ⟨nofun,.inl ⟨q72,rfl,hF.sub ⟨rfl,rfl,rfl,rfl,rfl,rfl,trivial⟩,hS.mask [true,false],h72⟩⟩
        ·have hb18:=cond_t hc19 hb18
         refine q_cond_t hF rfl hc19 (q_skipc (n_sq (q_seq (q_block (q_seq (q_region (q_x (v:=s1.v) hF hS (ex_move rfl) rfl rfl fun a hF=>q_x (v:=s6.v) hF hS (ex_move rfl) rfl rfl fun a hF=>q_x (v:=(iV v_73)) hF hS (ex_move rfl) rfl rfl fun a hF=>?_)))))))
         obtain ⟨e_74,he_74,hb18⟩:=bindS hb18
         obtain ⟨vs75,at75,d75⟩:=h57.at he_74 1 rfl
         obtain rfl : vs75 = [(iV e_74)]:=d75
         refine q_x (v:=(elP s6 (v_73.toNat * 1))) hF hS (ex_indexAddr Try.underlying28 sz3 rfl rfl (h57.idx he_74)) rfl rfl fun a hF=>q_x (v:=(iV e_74)) hF hS (ex_loadE1 0 Try.underlying3 rfl rfl (at75.at 1 rfl) rfl rfl) rfl rfl fun a hF=>?_
         obtain ⟨e_76,he_76,hb18⟩:=bindS hb18
         obtain ⟨s77,hV77⟩:=h72.view he_76
         refine q_x (v:=(elP s1 (e_74.toNat * 1))) hF hS (ex_indexAddr Try.underlying23 sz28 rfl rfl (h72.idx he_76)) rfl rfl fun a hF=>q_x (v:=s77.v) hF hS (ex_loadE1 0 Try.underlying28 rfl rfl ((hV77.atH he_76).at 0 rfl) rfl rfl) rfl rfl fun a hF=>q_x (v:=(iV v_73)) hF hS (ex_move rfl) rfl rfl fun a hF=>?_
         obtain ⟨e_78,he_78,hb18⟩:=bindS hb18
         obtain ⟨vs79,at79,d79⟩:=hV77.at he_76 he_78 1 rfl
         obtain rfl : vs79 = [(iV e_78)]:=d79
         refine q_x (v:=(elP s77 (v_73.toNat * 1))) hF hS (ex_indexAddr Try.underlying28 sz3 rfl rfl (hV77.idx he_76 he_78)) rfl rfl fun a hF=>q_x (v:=(iV e_78)) hF hS (ex_loadE1 0 Try.underlying3 rfl rfl (at79.at 0 rfl) rfl rfl) rfl rfl fun a hF=>q_x (v:=(iV step_70)) hF hS (ex_move rfl) rfl rfl fun a hF=>q_x (v:=(iV (w64 (e_78 - step_70)))) hF hS (ex_ibin rfl rfl rfl) rfl rfl fun a hF=>?_
         obtain ⟨e_80,he_80,hb18⟩:=bindS hb18
         obtain ⟨vs81,at81,d81⟩:=hV77.at he_76 he_80 1 rfl
         obtain rfl : vs81 = [(iV e_80)]:=d81
         refine q_x (v:=(elP s77 (v_73.toNat * 1))) hF hS (ex_indexAddr Try.underlying28 sz3 rfl rfl (hV77.idx he_76 he_80)) rfl rfl fun a hF=>q_do rfl fun _ hK=>wp_storeV (e':=(w64 (e_78 - step_70))) (us:=[(iV (w64 (e_78 - step_70)))]) (vs:=[(iV e_80)]) 0 hF hS hV77 he_76 sz3 rfl rfl rfl rfl rfl rfl rfl he_80 at81 rfl rfl rfl fun w q82 hS h82=>hK _ _ (q_end (n_sq (e_region ⟨[13],[],m⟩ mixed fun w' hw'=>?_)))
         have hS:=hS.below hw'
         refine e_p (v:=s1.v) 0 hF rfl (ex_move rfl) rfl rfl (by kernel_rfl) (by kernel_rfl) (by kernel_rfl) fun a hF=>e_p (v:=(iV v_73)) 1 hF rfl (ex_move rfl) rfl rfl (by kernel_rfl) (by kernel_rfl) (by kernel_rfl) fun a hF=>?_
         obtain ⟨e_83,he_83,hb18⟩:=bindS hb18
         obtain ⟨s84,hV84⟩:=h82.own.view he_83
         refine e_p (v:=(elP s1 (v_73.toNat * 1))) 2 hF rfl (ex_indexAddr Try.underlying23 sz28 rfl rfl (h82.own.idx he_83)) rfl rfl (by kernel_rfl) (by kernel_rfl) (by kernel_rfl) fun a hF=>e_x (v:=s84.v) 3 hF hS rfl (ex_loadE1 0 Try.underlying28 rfl rfl ((hV84.atH he_83).at 0 rfl) rfl rfl) rfl rfl (by kernel_rfl) (by kernel_rfl) (by kernel_rfl) (by kernel_rfl) fun a hF=>e_p (v:=s6.v) 4 hF rfl (ex_move rfl) rfl rfl (by kernel_rfl) (by kernel_rfl) (by kernel_rfl) fun a hF=>e_p (v:=(iV v_73)) 5 hF rfl (ex_move rfl) rfl rfl (by kernel_rfl) (by kernel_rfl) (by kernel_rfl) fun a hF=>?_
         obtain ⟨e_85,he_85,hb18⟩:=bindS hb18
         obtain ⟨vs86,at86,d86⟩:=h57.at he_85 1 rfl
         obtain rfl : vs86 = [(iV e_85)]:=d86
         refine e_p (v:=(elP s6 (v_73.toNat * 1))) 6 hF rfl (ex_indexAddr Try.underlying28 sz3 rfl rfl (h57.idx he_85)) rfl rfl (by kernel_rfl) (by kernel_rfl) (by kernel_rfl) fun a hF=>e_x (v:=(iV e_85)) 7 hF hS rfl (ex_loadE1 0 Try.underlying3 rfl rfl (at86.at 1 rfl) rfl rfl) rfl rfl (by kernel_rfl) (by kernel_rfl) (by kernel_rfl) (by kernel_rfl) fun a hF=>?_
         obtain ⟨e_87,he_87,hb18⟩:=bindS hb18
         obtain ⟨vs88,at88,d88⟩:=hV84.at he_83 he_87 1 rfl
         obtain rfl : vs88 = [(iV e_87)]:=d88
         refine e_p (v:=(elP s84 (e_85.toNat * 1))) 8 hF rfl (ex_indexAddr Try.underlying28 sz3 rfl rfl (hV84.idx he_83 he_87)) rfl rfl (by kernel_rfl) (by kernel_rfl) (by kernel_rfl) fun a hF=>e_x (v:=(iV e_87)) 9 hF hS rfl (ex_loadE1 0 Try.underlying3 rfl rfl (at88.at 0 rfl) rfl rfl) rfl rfl (by kernel_rfl) (by kernel_rfl) (by kernel_rfl) (by kernel_rfl) fun a hF=>e_p (v:=(iV step_70)) 10 hF rfl (ex_move rfl) rfl rfl (by kernel_rfl) (by kernel_rfl) (by kernel_rfl) fun a hF=>e_p (v:=(iV (w64 (e_87 + step_70)))) 11 hF rfl (ex_ibin rfl rfl rfl) rfl rfl (by kernel_rfl) (by kernel_rfl) (by kernel_rfl) fun a hF=>?_
         obtain ⟨e_89,he_89,hb18⟩:=bindS hb18
         obtain ⟨vs90,at90,d90⟩:=hV84.at he_83 he_89 1 rfl
         obtain rfl : vs90 = [(iV e_89)]:=d90
         refine e_p (v:=(elP s84 (e_85.toNat * 1))) 12 hF rfl (ex_indexAddr Try.underlying28 sz3 rfl rfl (hV84.idx he_83 he_89)) rfl rfl (by kernel_rfl) (by kernel_rfl) (by kernel_rfl) fun a hF=>e_one 13 (by kernel_rfl) (e_opl rfl rfl rfl fun _ hK=>wp_storeV (e':=(w64 (e_87 + step_70))) (us:=[(iV (w64 (e_87 + step_70)))]) (vs:=[(iV e_89)]) 0 hF hS hV84 he_83 sz3 rfl rfl rfl rfl rfl rfl rfl he_89 at90 rfl rfl rfl fun w q91 hS h91=>hK _ _ (⟨⟨kpN,fun _=>hS.vis.of_le (Mem.le.refl _)⟩,?_⟩))
         refine e_end (by kernel_rfl) (n_ib (n_sq ?_)) _
         refine q_region (q_x (v:=s6.v) hF hS (ex_move rfl) rfl rfl fun a hF=>q_x (v:=(iV v_73)) hF hS (ex_move rfl) rfl rfl fun a hF=>?_)
         obtain ⟨e_92,he_92,hb18⟩:=bindS hb18
         obtain ⟨vs93,at93,d93⟩:=h57.at he_92 1 rfl
         obtain rfl : vs93 = [(iV e_92)]:=d93
         refine q_x (v:=(elP s6 (v_73.toNat * 1))) hF hS (ex_indexAddr Try.underlying28 sz3 rfl rfl (h57.idx he_92)) rfl rfl fun a hF=>q_x (v:=(iV e_92)) hF hS (ex_loadE1 0 Try.underlying3 rfl rfl (at93.at 1 rfl) rfl rfl) rfl rfl fun a hF=>q_x (v:=(iV e_92)) hF hS (ex_assign rfl) rfl rfl fun a hF=>q_end ?_
         obtain rfl:=someI hb18
         exact ⟨rfl,q91,_,_,rfl,hF.sub ⟨rfl,rfl,rfl,rfl,rfl,rfl,rfl,rfl,trivial⟩,hS,h91.own⟩
       ·rintro e a w ⟨q95,rfl,hF,hS,h95⟩
        refine x_ib (n_sq ?_)
        refine q_region (q_x (v:=(iV sent_4)) hF hS (ex_move rfl) rfl rfl fun a hF=>q_x (v:=(iV step_70)) hF hS (ex_move rfl) rfl rfl fun a hF=>q_x (v:=(iV (w64 (sent_4 + step_70)))) hF hS (ex_ibin rfl rfl rfl) rfl rfl fun a hF=>q_x (v:=(iV (w64 (sent_4 + step_70)))) hF hS (ex_assign rfl) rfl rfl fun a hF=>q_end (n_ib ?_))
        obtain rfl:=someI hb1
        exact ⟨rfl,q95,_,_,rfl,hF.sub ⟨rfl,rfl,rfl,rfl,rfl,trivial⟩,hS,h95⟩
     ·have hb1:=cond_t hc15 hb1
      refine q_cond_t hF rfl hc15 (q_exit (x_sq (x_ibn rfl ?_)))
      obtain rfl:=someI hb1
      exact ⟨nofun,.inl ⟨q3,_,_,rfl,rfl,hF.sub ⟨rfl,trivial⟩,hS.mask [true,false],h3⟩⟩
 ·rintro e a w ⟨q97,r_96,sent_98,rfl,rfl,hF,hS,h97⟩
  refine x_ib (n_sq ?_)
  refine q_seq (q_region (q_x (v:=(iV sent_98)) hF hS (ex_move rfl) rfl rfl fun a hF=>q_x (v:=(iV sent_98)) hF hS (ex_assign rfl) rfl rfl fun a hF=>q_end (n_sq (q_ret ?_))))
  obtain rfl:=someI hr
  exact ret_ofX hF hS rfl (.tmp rfl .nil) ⟨q97,rfl,hS.sel [0] (by decide),h97⟩

end Go.Proofs.Ytpjcfmpfiadkgaa
