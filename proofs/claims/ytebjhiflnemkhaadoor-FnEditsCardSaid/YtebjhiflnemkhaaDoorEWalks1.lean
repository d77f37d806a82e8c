/- The walks of the functions: each returns what its plain function says. -/
import Derived.Test.YtebjhiflnemkhaaDoorEDefs
import Derived.Test.YtebjhiflnemkhaaDoorRows
import Derived.Test.YtebjhiflnemkhaaDoorEItoa
namespace Go.Proofs.YtebjhiflnemkhaaDoor
open Go.Gx Go.Gx.F Go.RowKit
set_option linter.all false
set_option maxRecDepth 10000

theorem mixed : Tryd.prog.follows .mixedOrders = true := by kernel_rfl
theorem inf3 : inf Tryd.prog 3 = some (1, 8, [(.int .i64 0)]) := by kernel_rfl
theorem inf5 : inf Tryd.prog 5 = some (1, 1, [(.int .u8 0)]) := by kernel_rfl
theorem inf9 : inf Tryd.prog 9 = some (1, 16, [(strV ([] : List UInt8))]) := by kernel_rfl
theorem inf27 : inf Tryd.prog 27 = some (1, 24, [nilS.v]) := by kernel_rfl
theorem inf63 : inf Tryd.prog 63 = some (2, 24, [(strV ([] : List UInt8)), (.int .i64 0)]) := by kernel_rfl
theorem sz3 : szOf Tryd.prog 3 = some 1 := by kernel_rfl
theorem sz4 : szOf Tryd.prog 4 = some 1 := by kernel_rfl
theorem sz5 : szOf Tryd.prog 5 = some 1 := by kernel_rfl
theorem sz9 : szOf Tryd.prog 9 = some 1 := by kernel_rfl
theorem sz22 : szOf Tryd.prog 22 = some 1 := by kernel_rfl
theorem sz25 : szOf Tryd.prog 25 = some 1 := by kernel_rfl
theorem sz27 : szOf Tryd.prog 27 = some 1 := by kernel_rfl
theorem sz51 : szOf Tryd.prog 51 = some 1 := by kernel_rfl
theorem sz63 : szOf Tryd.prog 63 = some 2 := by kernel_rfl

theorem c_laws_big (p_code : List (K .u8)) (p_more : List (K .u8)) (r : Bool) (hr : laws_big p_code p_more = some r) (w0 : World) (m : Mem) (hv : Vis m w0) (s1 : Sl) (h1 : Rd m s1 p_code) (s2 : Sl) (h2 : Rd m s2 p_more) :
  Ret Tryd.prog 4 [s1.v,s2.v] w0 (fun v _=>v = (.bool r)):=by
 unfold laws_big at hr
 refine ret_start Tryd.func4 rfl 16 rfl rfl m hv fun a hF hS=>q_seq (q_region (q_x (v:=(.bool false)) hF hS (ex_assign rfl) rfl rfl fun a hF=>q_end (n_sq (q_seq ?_))))
 obtain ⟨t_3,hj1,hr⟩:=bindS hr
 refine q_join (fun a w=>Fr a 16 [(4,(.bool t_3))]∧St [] w0 w m []) ?_ ?_
 ·refine q_region (q_x (v:=s1.v) hF hS (ex_move rfl) rfl rfl fun a hF=>q_x (v:=(iV (goLen p_code))) hF hS (ex_len Tryd.underlying22 rfl h1.len) rfl rfl fun a hF=>q_x (v:=(.bool (decide (1048576 < (goLen p_code))))) hF hS (ex_ibin rfl rfl rfl) rfl rfl fun a hF=>q_x (v:=(.bool (decide (1048576 < (goLen p_code))))) hF hS (ex_move rfl) rfl rfl fun a hF=>?_)
  rcases bcase (decide (1048576 < (goLen p_code))) with hc2 | hc2
  ·have hj1:=cond_f hc2 hj1
   refine q_xg (v:=s2.v) hF hS (ex_move rfl) (wanted_t hF rfl rfl rfl hc2) rfl fun a hF=>q_xg (v:=(iV (goLen p_more))) hF hS (ex_len Tryd.underlying22 rfl h2.len) (wanted_t hF rfl rfl rfl hc2) rfl fun a hF=>q_xg (v:=s1.v) hF hS (ex_move rfl) (wanted_t hF rfl rfl rfl hc2) rfl fun a hF=>q_xg (v:=(iV (goLen p_code))) hF hS (ex_len Tryd.underlying22 rfl h1.len) (wanted_t hF rfl rfl rfl hc2) rfl fun a hF=>q_xg (v:=(iV (w64 (1048576 - (goLen p_code))))) hF hS (ex_ibin rfl rfl rfl) (wanted_t hF rfl rfl rfl hc2) rfl fun a hF=>q_xg (v:=(.bool (decide ((w64 (1048576 - (goLen p_code))) < (goLen p_more))))) hF hS (ex_ibin rfl rfl rfl) (wanted_t hF rfl rfl rfl hc2) rfl fun a hF=>q_x (v:=(.bool (decide ((w64 (1048576 - (goLen p_code))) < (goLen p_more))))) hF hS (ex_pick_f rfl rfl hc2) rfl rfl fun a hF=>q_x (v:=(.bool (decide ((w64 (1048576 - (goLen p_code))) < (goLen p_more))))) hF hS (ex_assign rfl) rfl rfl fun a hF=>q_end (n_jn ?_)
   obtain rfl:=someI hj1
   exact ⟨hF.sub ⟨rfl,trivial⟩,hS⟩
  ·have hj1:=cond_t hc2 hj1
   refine q_skip hF (wanted_f hF rfl rfl rfl hc2 rfl) rfl fun a hF=>q_skip hF (wanted_f hF rfl rfl rfl hc2 rfl) rfl fun a hF=>q_skip hF (wanted_f hF rfl rfl rfl hc2 rfl) rfl fun a hF=>q_skip hF (wanted_f hF rfl rfl rfl hc2 rfl) rfl fun a hF=>q_skip hF (wanted_f hF rfl rfl rfl hc2 rfl) rfl fun a hF=>q_skip hF (wanted_f hF rfl rfl rfl hc2 rfl) rfl fun a hF=>q_x (v:=(.bool true)) hF hS (ex_pick_t rfl rfl hc2) rfl rfl fun a hF=>q_x (v:=(.bool true)) hF hS (ex_assign rfl) rfl rfl fun a hF=>q_end (n_jn ?_)
   obtain rfl:=someI hj1
   exact ⟨hF.sub ⟨rfl,trivial⟩,hS⟩
 ·rintro a w ⟨hF,hS⟩
  refine n_sq (q_ret ?_)
  obtain rfl:=someI hr
  exact ret_of hF hS rfl (.tmp rfl .nil) rfl

theorem c_spec_l1Cur_next (p_c : spec_l1Cur) (r : Int × spec_l1Cur) (hr : spec_l1Cur_next p_c = some r) (w0 : World) (m : Mem) (b_p_c : Nat) (s1 : Sl) (h1 : Rd m s1 p_c.code) (X : List Nat) (hS : St X w0 w0 m [[⟨b_p_c,[s1.v,(iV p_c.at_),(.int .u64 p_c.seed.v)],53⟩]]) :
  RetX Tryd.prog 68 [(.pointer (some ⟨b_p_c,0,none⟩))] w0 (fun v w=>v = (iV r.1)∧St X w0 w m [[⟨b_p_c,[s1.v,(iV r.2.at_),(.int .u64 r.2.seed.v)],53⟩]]∧r.2.code = p_c.code):=by
 unfold spec_l1Cur_next at hr
 refine ret_startX Tryd.func68 rfl 62 rfl rfl fun a hF=>q_seq (q_region (q_x (v:=(iV 0)) hF hS (ex_assign rfl) rfl rfl fun a hF=>q_end (n_sq (q_seq (q_region (q_x (v:=(iV 0)) hF hS (ex_assign rfl) rfl rfl fun a hF=>q_end (n_sq (q_seq (q_seq (e_region ⟨[],[]⟩ mixed fun w' hw'=>?_))))))))))
 have hS:=hS.below hw'
 refine e_p (v:=(.pointer (some ⟨b_p_c,0,none⟩))) 0 hF rfl (ex_move rfl) rfl rfl (by kernel_rfl) (by kernel_rfl) (by kernel_rfl) fun a hF=>e_p (v:=(.pointer (some ⟨b_p_c,0,none⟩))) 1 hF rfl (ex_nilCheck rfl) rfl rfl (by kernel_rfl) (by kernel_rfl) (by kernel_rfl) fun a hF=>e_p (v:=(.pointer (some ⟨b_p_c,1,none⟩))) 2 hF rfl (ex_fieldAddr Tryd.underlying53 rfl sz3 rfl rfl) rfl rfl (by kernel_rfl) (by kernel_rfl) (by kernel_rfl) fun a hF=>e_x (v:=(iV p_c.at_)) 3 hF hS rfl (ex_load1 0 0 Tryd.underlying3 rfl rfl rfl rfl) rfl rfl (by kernel_rfl) (by kernel_rfl) (by kernel_rfl) (by kernel_rfl) fun a hF=>e_p (v:=(.pointer (some ⟨b_p_c,0,none⟩))) 4 hF rfl (ex_move rfl) rfl rfl (by kernel_rfl) (by kernel_rfl) (by kernel_rfl) fun a hF=>e_p (v:=(.pointer (some ⟨b_p_c,0,none⟩))) 5 hF rfl (ex_nilCheck rfl) rfl rfl (by kernel_rfl) (by kernel_rfl) (by kernel_rfl) fun a hF=>e_p (v:=(.pointer (some ⟨b_p_c,0,none⟩))) 6 hF rfl (ex_fieldAddr Tryd.underlying53 rfl sz22 rfl rfl) rfl rfl (by kernel_rfl) (by kernel_rfl) (by kernel_rfl) fun a hF=>e_x (v:=s1.v) 7 hF hS rfl (ex_load1 0 0 Tryd.underlying22 rfl rfl rfl rfl) rfl rfl (by kernel_rfl) (by kernel_rfl) (by kernel_rfl) (by kernel_rfl) fun a hF=>e_p (v:=(iV (goLen p_c.code))) 8 hF rfl (ex_len Tryd.underlying22 rfl h1.len) rfl rfl (by kernel_rfl) (by kernel_rfl) (by kernel_rfl) fun a hF=>e_p (v:=(.bool (decide (p_c.at_ < (goLen p_c.code))))) 9 hF rfl (ex_ibin rfl rfl rfl) rfl rfl (by kernel_rfl) (by kernel_rfl) (by kernel_rfl) fun a hF=>e_end (by kernel_rfl) (n_sq ?_) _
 obtain ⟨b_4,hj1,hr⟩:=bindS hr
 refine q_join (fun a w=>Fr a 62 [(0,(.pointer (some ⟨b_p_c,0,none⟩))),(3,(iV b_4))]∧St X w0 w m [[⟨b_p_c,[s1.v,(iV p_c.at_),(.int .u64 p_c.seed.v)],53⟩]]) ?_ ?_
 ·rcases bcase (decide (p_c.at_ < (goLen p_c.code))) with hc2 | hc2
  ·have hj1:=cond_f hc2 hj1
   refine q_cond_f hF rfl hc2 (q_skipc (n_jn ?_))
   obtain rfl:=someI hj1
   exact ⟨hF.sub ⟨rfl,rfl,trivial⟩,hS⟩
  ·have hj1:=cond_t hc2 hj1
   refine q_cond_t hF rfl hc2 (e_region ⟨[],[]⟩ mixed fun w' hw'=>?_)
   have hS:=hS.below hw'
   refine e_p (v:=(.pointer (some ⟨b_p_c,0,none⟩))) 0 hF rfl (ex_move rfl) rfl rfl (by kernel_rfl) (by kernel_rfl) (by kernel_rfl) fun a hF=>e_p (v:=(.pointer (some ⟨b_p_c,0,none⟩))) 1 hF rfl (ex_nilCheck rfl) rfl rfl (by kernel_rfl) (by kernel_rfl) (by kernel_rfl) fun a hF=>e_p (v:=(.pointer (some ⟨b_p_c,0,none⟩))) 2 hF rfl (ex_fieldAddr Tryd.underlying53 rfl sz22 rfl rfl) rfl rfl (by kernel_rfl) (by kernel_rfl) (by kernel_rfl) fun a hF=>e_x (v:=s1.v) 3 hF hS rfl (ex_load1 0 0 Tryd.underlying22 rfl rfl rfl rfl) rfl rfl (by kernel_rfl) (by kernel_rfl) (by kernel_rfl) (by kernel_rfl) fun a hF=>e_p (v:=(.pointer (some ⟨b_p_c,0,none⟩))) 4 hF rfl (ex_move rfl) rfl rfl (by kernel_rfl) (by kernel_rfl) (by kernel_rfl) fun a hF=>e_p (v:=(.pointer (some ⟨b_p_c,0,none⟩))) 5 hF rfl (ex_nilCheck rfl) rfl rfl (by kernel_rfl) (by kernel_rfl) (by kernel_rfl) fun a hF=>e_p (v:=(.pointer (some ⟨b_p_c,1,none⟩))) 6 hF rfl (ex_fieldAddr Tryd.underlying53 rfl sz3 rfl rfl) rfl rfl (by kernel_rfl) (by kernel_rfl) (by kernel_rfl) fun a hF=>e_x (v:=(iV p_c.at_)) 7 hF hS rfl (ex_load1 0 0 Tryd.underlying3 rfl rfl rfl rfl) rfl rfl (by kernel_rfl) (by kernel_rfl) (by kernel_rfl) (by kernel_rfl) fun a hF=>?_
   obtain ⟨e_2,he_2,hj1⟩:=bindS hj1
   obtain ⟨vs3,at3,d3⟩:=h1.at he_2 1 rfl
   obtain rfl : vs3 = [(.int .u8 e_2.v)]:=d3
   refine e_p (v:=(elP s1 (p_c.at_.toNat * 1))) 8 hF rfl (ex_indexAddr Tryd.underlying22 sz5 rfl rfl (h1.idx he_2)) rfl rfl (by kernel_rfl) (by kernel_rfl) (by kernel_rfl) fun a hF=>e_x (v:=(.int .u8 e_2.v)) 9 hF hS rfl (ex_loadE1 0 Tryd.underlying5 rfl rfl ((at3).at) rfl rfl) rfl rfl (by kernel_rfl) (by kernel_rfl) (by kernel_rfl) (by kernel_rfl) fun a hF=>e_p (v:=(iV (w64 e_2.v))) 10 hF rfl (ex_conv Tryd.underlying5 Tryd.underlying3 rfl) rfl rfl (by kernel_rfl) (by kernel_rfl) (by kernel_rfl) fun a hF=>e_p (v:=(iV (w64 e_2.v))) 11 hF rfl (ex_assign rfl) rfl rfl (by kernel_rfl) (by kernel_rfl) (by kernel_rfl) fun a hF=>e_end (by kernel_rfl) (n_jn ?_) _
   obtain rfl:=someI hj1
   exact ⟨hF.sub ⟨rfl,rfl,trivial⟩,hS⟩
 ·rintro a w ⟨hF,hS⟩
  refine n_sq ?_
  refine q_seq (q_region (q_x (v:=(.pointer (some ⟨b_p_c,0,none⟩))) hF hS (ex_move rfl) rfl rfl fun a hF=>q_x (v:=(.pointer (some ⟨b_p_c,0,none⟩))) hF hS (ex_nilCheck rfl) rfl rfl fun a hF=>q_x (v:=(.pointer (some ⟨b_p_c,1,none⟩))) hF hS (ex_fieldAddr Tryd.underlying53 rfl sz3 rfl rfl) rfl rfl fun a hF=>q_x (v:=(iV p_c.at_)) hF hS (ex_load1 0 0 Tryd.underlying3 rfl rfl rfl rfl) rfl rfl fun a hF=>q_x (v:=(iV (w64 (p_c.at_ + 1)))) hF hS (ex_ibin rfl rfl rfl) rfl rfl fun a hF=>q_x (v:=(.pointer (some ⟨b_p_c,0,none⟩))) hF hS (ex_nilCheck rfl) rfl rfl fun a hF=>q_x (v:=(.pointer (some ⟨b_p_c,1,none⟩))) hF hS (ex_fieldAddr Tryd.underlying53 rfl sz3 rfl rfl) rfl rfl fun a hF=>q_store (vs:=[(iV (w64 (p_c.at_ + 1)))]) (cs':=[s1.v,(iV (w64 (p_c.at_ + 1))),(.int .u64 p_c.seed.v)]) 0 0 hF hS sz3 rfl rfl rfl rfl rfl rfl rfl rfl fun a w hF hS=>q_end (n_sq (q_seq (q_region (q_x (v:=(.pointer (some ⟨b_p_c,0,none⟩))) hF hS (ex_move rfl) rfl rfl fun a hF=>q_x (v:=(.pointer (some ⟨b_p_c,0,none⟩))) hF hS (ex_move rfl) rfl rfl fun a hF=>q_x (v:=(.pointer (some ⟨b_p_c,0,none⟩))) hF hS (ex_nilCheck rfl) rfl rfl fun a hF=>q_x (v:=(.pointer (some ⟨b_p_c,2,none⟩))) hF hS (ex_fieldAddr Tryd.underlying53 rfl sz51 rfl rfl) rfl rfl fun a hF=>q_x (v:=(.int .u64 p_c.seed.v)) hF hS (ex_load1 0 0 Tryd.underlying51 rfl rfl rfl rfl) rfl rfl fun a hF=>q_x (v:=(.int .u64 (IntKind.wrap .u64 (p_c.seed.v * 6364136223846793005)))) hF hS (ex_ibin rfl rfl rfl) rfl rfl fun a hF=>q_x (v:=(iV b_4)) hF hS (ex_move rfl) rfl rfl fun a hF=>q_x (v:=(.int .u64 (IntKind.wrap .u64 b_4))) hF hS (ex_conv Tryd.underlying3 Tryd.underlying51 rfl) rfl rfl fun a hF=>q_x (v:=(.int .u64 (IntKind.wrap .u64 ((IntKind.wrap .u64 (p_c.seed.v * 6364136223846793005)) + (IntKind.wrap .u64 b_4))))) hF hS (ex_ibin rfl rfl rfl) rfl rfl fun a hF=>q_x (v:=(.int .u64 (IntKind.wrap .u64 ((IntKind.wrap .u64 ((IntKind.wrap .u64 (p_c.seed.v * 6364136223846793005)) + (IntKind.wrap .u64 b_4))) + 1442695040888963407)))) hF hS (ex_ibin rfl rfl rfl) rfl rfl fun a hF=>q_x (v:=(.pointer (some ⟨b_p_c,0,none⟩))) hF hS (ex_nilCheck rfl) rfl rfl fun a hF=>q_x (v:=(.pointer (some ⟨b_p_c,2,none⟩))) hF hS (ex_fieldAddr Tryd.underlying53 rfl sz51 rfl rfl) rfl rfl fun a hF=>?_))))))
  refine q_store (vs:=[(.int .u64 (IntKind.wrap .u64 ((IntKind.wrap .u64 ((IntKind.wrap .u64 (p_c.seed.v * 6364136223846793005)) + (IntKind.wrap .u64 b_4))) + 1442695040888963407)))]) (cs':=[s1.v,(iV (w64 (p_c.at_ + 1))),(.int .u64 (IntKind.wrap .u64 ((IntKind.wrap .u64 ((IntKind.wrap .u64 (p_c.seed.v * 6364136223846793005)) + (IntKind.wrap .u64 b_4))) + 1442695040888963407)))]) 0 0 hF hS sz51 rfl rfl rfl rfl rfl rfl rfl rfl fun a w hF hS=>q_end (n_sq (q_seq (q_seq (e_region ⟨[],[]⟩ mixed fun w' hw'=>?_))))
  have hS:=hS.below hw'
  refine e_p (v:=(.pointer (some ⟨b_p_c,0,none⟩))) 0 hF rfl (ex_move rfl) rfl rfl (by kernel_rfl) (by kernel_rfl) (by kernel_rfl) fun a hF=>e_p (v:=(.pointer (some ⟨b_p_c,0,none⟩))) 1 hF rfl (ex_nilCheck rfl) rfl rfl (by kernel_rfl) (by kernel_rfl) (by kernel_rfl) fun a hF=>e_p (v:=(.pointer (some ⟨b_p_c,1,none⟩))) 2 hF rfl (ex_fieldAddr Tryd.underlying53 rfl sz3 rfl rfl) rfl rfl (by kernel_rfl) (by kernel_rfl) (by kernel_rfl) fun a hF=>e_x (v:=(iV (w64 (p_c.at_ + 1)))) 3 hF hS rfl (ex_load1 0 0 Tryd.underlying3 rfl rfl rfl rfl) rfl rfl (by kernel_rfl) (by kernel_rfl) (by kernel_rfl) (by kernel_rfl) fun a hF=>e_p (v:=(.pointer (some ⟨b_p_c,0,none⟩))) 4 hF rfl (ex_move rfl) rfl rfl (by kernel_rfl) (by kernel_rfl) (by kernel_rfl) fun a hF=>e_p (v:=(.pointer (some ⟨b_p_c,0,none⟩))) 5 hF rfl (ex_nilCheck rfl) rfl rfl (by kernel_rfl) (by kernel_rfl) (by kernel_rfl) fun a hF=>e_p (v:=(.pointer (some ⟨b_p_c,0,none⟩))) 6 hF rfl (ex_fieldAddr Tryd.underlying53 rfl sz22 rfl rfl) rfl rfl (by kernel_rfl) (by kernel_rfl) (by kernel_rfl) fun a hF=>e_x (v:=s1.v) 7 hF hS rfl (ex_load1 0 0 Tryd.underlying22 rfl rfl rfl rfl) rfl rfl (by kernel_rfl) (by kernel_rfl) (by kernel_rfl) (by kernel_rfl) fun a hF=>e_p (v:=(iV (goLen p_c.code))) 8 hF rfl (ex_len Tryd.underlying22 rfl h1.len) rfl rfl (by kernel_rfl) (by kernel_rfl) (by kernel_rfl) fun a hF=>e_p (v:=(.bool (decide ((w64 (p_c.at_ + 1)) ≤ (goLen p_c.code))))) 9 hF rfl (ex_ibin rfl rfl rfl) rfl rfl (by kernel_rfl) (by kernel_rfl) (by kernel_rfl) fun a hF=>e_end (by kernel_rfl) (n_sq ?_) _
  rcases bcase (decide ((w64 (p_c.at_ + 1)) ≤ (goLen p_c.code))) with hc3 | hc3
  ·have hr:=cond_f hc3 hr
   refine q_cond_f hF rfl hc3 (q_skipc (n_sq (q_seq (q_region (q_x (v:=(.pointer (some ⟨b_p_c,0,none⟩))) hF hS (ex_move rfl) rfl rfl fun a hF=>q_x (v:=(.pointer (some ⟨b_p_c,0,none⟩))) hF hS (ex_nilCheck rfl) rfl rfl fun a hF=>q_x (v:=(.pointer (some ⟨b_p_c,2,none⟩))) hF hS (ex_fieldAddr Tryd.underlying53 rfl sz51 rfl rfl) rfl rfl fun a hF=>q_x (v:=(.int .u64 (IntKind.wrap .u64 ((IntKind.wrap .u64 ((IntKind.wrap .u64 (p_c.seed.v * 6364136223846793005)) + (IntKind.wrap .u64 b_4))) + 1442695040888963407)))) hF hS (ex_load1 0 0 Tryd.underlying51 rfl rfl rfl rfl) rfl rfl fun a hF=>?_)))))
   obtain ⟨t_5,ht_5,hr⟩:=bindS hr
   refine q_x (v:=(.int .u64 t_5)) hF hS (ex_shr rfl rfl ht_5) rfl rfl fun a hF=>q_x (v:=(.int .u64 (goBits .and .u64 t_5 255))) hF hS (ex_bits rfl rfl rfl) rfl rfl fun a hF=>q_x (v:=(iV (w64 (goBits .and .u64 t_5 255)))) hF hS (ex_conv Tryd.underlying51 Tryd.underlying3 rfl) rfl rfl fun a hF=>q_x (v:=(iV (w64 (goBits .and .u64 t_5 255)))) hF hS (ex_assign rfl) rfl rfl fun a hF=>q_end (n_sq (q_ret ?_))
   obtain rfl:=someI hr
   exact ret_ofX hF hS rfl (.tmp rfl .nil) ⟨rfl,hS.sel [0] (by decide),rfl⟩
  ·have hr:=cond_t hc3 hr
   refine q_cond_t hF rfl hc3 (q_seq (q_region (q_x (v:=(iV b_4)) hF hS (ex_move rfl) rfl rfl fun a hF=>q_x (v:=(iV b_4)) hF hS (ex_assign rfl) rfl rfl fun a hF=>q_end (n_sq (q_ret (r_sq ?_))))))
   obtain rfl:=someI hr
   exact ret_ofX hF hS rfl (.tmp rfl .nil) ⟨rfl,hS.sel [0] (by decide),rfl⟩

theorem c_spec_l1Cur_pick (p_c : spec_l1Cur) (p_n : Int) (r : Int × spec_l1Cur) (hr : spec_l1Cur_pick p_c p_n = some r) (w0 : World) (m : Mem) (b_p_c : Nat) (s1 : Sl) (h1 : Rd m s1 p_c.code) (X : List Nat) (hS : St X w0 w0 m [[⟨b_p_c,[s1.v,(iV p_c.at_),(.int .u64 p_c.seed.v)],53⟩]]) :
  RetX Tryd.prog 50 [(.pointer (some ⟨b_p_c,0,none⟩)),(iV p_n)] w0 (fun v w=>v = (iV r.1)∧St X w0 w m [[⟨b_p_c,[s1.v,(iV r.2.at_),(.int .u64 r.2.seed.v)],53⟩]]∧r.2.code = p_c.code):=by
 unfold spec_l1Cur_pick at hr
 refine ret_startX Tryd.func50 rfl 20 rfl rfl fun a hF=>q_seq (q_region (q_x (v:=(iV 0)) hF hS (ex_assign rfl) rfl rfl fun a hF=>q_end (n_sq (q_seq (q_seq (q_region (q_x (v:=(iV p_n)) hF hS (ex_move rfl) rfl rfl fun a hF=>q_x (v:=(.bool (decide (p_n ≤ 1)))) hF hS (ex_ibin rfl rfl rfl) rfl rfl fun a hF=>q_end (n_sq ?_))))))))
 rcases bcase (decide (p_n ≤ 1)) with hc1 | hc1
 ·have hr:=cond_f hc1 hr
  refine q_cond_f hF rfl hc1 (q_skipc (n_sq (q_seq (q_region (q_x (v:=(.pointer (some ⟨b_p_c,0,none⟩))) hF hS (ex_move rfl) rfl rfl fun a hF=>?_)))))
  have hS2 : St _ _ _ _ ([[⟨b_p_c,[s1.v,(iV p_c.at_),(.int .u64 p_c.seed.v)],53⟩]]++[]):=hS
  have hE2:=hS2.enter
  obtain ⟨t_3,ht_3,hr⟩:=bindS hr
  refine q_do rfl fun _ hK=>wp_callX (vs:=[(.pointer (some ⟨b_p_c,0,none⟩))]) hF Tryd.func68 (by kernel_rfl) rfl rfl rfl (c_spec_l1Cur_next p_c t_3 ht_3 _ m b_p_c s1 h1 _ hE2) fun a w _ hR hF=>hK _ _ ?_
  obtain ⟨rfl,hR2,hk4⟩:=hR
  have hS : St _ _ _ _ [[⟨b_p_c,[s1.v,(iV t_3.2.at_),(.int .u64 t_3.2.seed.v)],53⟩]]:=hS2.leaveF hR2
  have h4 : Rd m s1 t_3.2.code:=by rw [hk4]; exact h1
  refine q_x (v:=(iV t_3.1)) hF hS (ex_assign rfl) rfl rfl fun a hF=>q_end (n_sq (q_seq (q_seq (q_region (q_x (v:=(iV p_n)) hF hS (ex_move rfl) rfl rfl fun a hF=>q_x (v:=(.bool (decide (200 < p_n)))) hF hS (ex_ibin rfl rfl rfl) rfl rfl fun a hF=>q_end (n_sq ?_))))))
  obtain ⟨j2,hj2,hr⟩:=bindS hr
  refine q_join (fun a w=>∃ x_8,∃ p_c_9,j2 = (x_8,p_c_9)∧Fr a 20 [(1,(iV p_n)),(5,(iV x_8))]∧St X w0 w m [[⟨b_p_c,[s1.v,(iV p_c_9.at_),(.int .u64 p_c_9.seed.v)],53⟩]]∧Rd m s1 p_c_9.code∧p_c_9.code = p_c.code) ?_ ?_
  ·rcases bcase (decide (200 < p_n)) with hc3 | hc3
   ·have hj2:=cond_f hc3 hj2
    refine q_cond_f hF rfl hc3 (q_skipc (n_jn ?_))
    obtain rfl:=someI hj2
    exact ⟨_,_,rfl,hF.sub ⟨rfl,rfl,trivial⟩,hS,h4,hk4⟩
   ·have hj2:=cond_t hc3 hj2
    refine q_cond_t hF rfl hc3 (q_region (q_x (v:=(iV t_3.1)) hF hS (ex_move rfl) rfl rfl fun a hF=>q_x (v:=(iV (w64 (t_3.1 * 256)))) hF hS (ex_ibin rfl rfl rfl) rfl rfl fun a hF=>q_x (v:=(.pointer (some ⟨b_p_c,0,none⟩))) hF hS (ex_move rfl) rfl rfl fun a hF=>?_))
    have hS5 : St _ _ _ _ ([[⟨b_p_c,[s1.v,(iV t_3.2.at_),(.int .u64 t_3.2.seed.v)],53⟩]]++[]):=hS
    have hE5:=hS5.enter
    obtain ⟨t_6,ht_6,hj2⟩:=bindS hj2
    refine q_do rfl fun _ hK=>wp_callX (vs:=[(.pointer (some ⟨b_p_c,0,none⟩))]) hF Tryd.func68 (by kernel_rfl) rfl rfl rfl (c_spec_l1Cur_next t_3.2 t_6 ht_6 _ m b_p_c s1 h4 _ hE5) fun a w _ hR hF=>hK _ _ ?_
    obtain ⟨rfl,hR5,hk7⟩:=hR
    have hS : St _ _ _ _ [[⟨b_p_c,[s1.v,(iV t_6.2.at_),(.int .u64 t_6.2.seed.v)],53⟩]]:=hS5.leaveF hR5
    have h7 : Rd m s1 t_6.2.code:=by rw [hk7]; exact h4
    refine q_x (v:=(iV (w64 ((w64 (t_3.1 * 256)) + t_6.1)))) hF hS (ex_ibin rfl rfl rfl) rfl rfl fun a hF=>q_x (v:=(iV (w64 ((w64 (t_3.1 * 256)) + t_6.1)))) hF hS (ex_assign rfl) rfl rfl fun a hF=>q_end (n_jn ?_)
    obtain rfl:=someI hj2
    exact ⟨_,_,rfl,hF.sub ⟨rfl,rfl,trivial⟩,hS,h7,(hk7.trans hk4)⟩
  ·rintro a w ⟨x_8,p_c_9,rfl,hF,hS,h10,h10k⟩
   refine n_sq ?_
   refine q_seq (q_region (q_x (v:=(iV x_8)) hF hS (ex_move rfl) rfl rfl fun a hF=>q_x (v:=(iV p_n)) hF hS (ex_move rfl) rfl rfl fun a hF=>?_))
   obtain ⟨t_11,ht_11,hr⟩:=bindS hr
   refine q_x (v:=(iV t_11)) hF hS (ex_rem rfl rfl ht_11) rfl rfl fun a hF=>q_x (v:=(iV t_11)) hF hS (ex_assign rfl) rfl rfl fun a hF=>q_end (n_sq (q_ret ?_))
   obtain rfl:=someI hr
   exact ret_ofX hF hS rfl (.tmp rfl .nil) ⟨rfl,hS.sel [0] (by decide),h10k⟩
 ·have hr:=cond_t hc1 hr
  refine q_cond_t hF rfl hc1 (q_seq (q_region (q_x (v:=(iV 0)) hF hS (ex_assign rfl) rfl rfl fun a hF=>q_end (n_sq (q_ret (r_sq ?_))))))
  obtain rfl:=someI hr
  exact ret_ofX hF hS rfl (.tmp rfl .nil) ⟨rfl,hS.sel [0] (by decide),rfl⟩

theorem c_spec_l1Cur_schema (p_c : spec_l1Cur) (r : (List impl_Variable) × spec_l1Cur) (hr : spec_l1Cur_schema p_c = some r) (w0 : World) (m : Mem) (b_p_c : Nat) (s1 : Sl) (h1 : Rd m s1 p_c.code) (X : List Nat) (hS : St X w0 w0 m [[⟨b_p_c,[s1.v,(iV p_c.at_),(.int .u64 p_c.seed.v)],53⟩]]) :
  RetX Tryd.prog 49 [(.pointer (some ⟨b_p_c,0,none⟩))] w0 (fun v w=>∃ (q0' : Piece) (s0' : Sl),v = s0'.v∧St X w0 w m [[⟨b_p_c,[s1.v,(iV r.2.at_),(.int .u64 r.2.seed.v)],53⟩],q0']∧OwnL m 63 q0' s0' r.1∧r.2.code = p_c.code):=by
 unfold spec_l1Cur_schema at hr
 refine ret_startX Tryd.func49 rfl 26 rfl rfl fun a hF=>q_seq (q_region (q_x (v:=nilS.v) hF hS (ex_assign rfl) rfl rfl fun a hF=>q_end (n_sq (q_seq (q_region (q_do rfl fun _ hK=>wp_buildSlice' (l:=([([115,101,120] : List UInt8),([97,103,101] : List UInt8),([106,111,98] : List UInt8),([104,111,109,101] : List UInt8),([115,105,122,101] : List UInt8),([108,97,110,103] : List UInt8)] : List (List UInt8))) (cells:=[(strV ([115,101,120] : List UInt8)),(strV ([97,103,101] : List UInt8)),(strV ([106,111,98] : List UInt8)),(strV ([104,111,109,101] : List UInt8)),(strV ([115,105,122,101] : List UInt8)),(strV ([108,97,110,103] : List UInt8))]) hF hS Tryd.underlying61 inf9 rfl rfl (by kernel_rfl) rfl rfl rfl ⟨rfl,rfl,rfl,rfl,rfl,rfl,rfl⟩ rfl rfl fun a w q2 s2 hF hS h2 _=>hK _ _ (q_x (v:=s2.v) hF hS (ex_assign rfl) rfl rfl fun a hF=>q_end (n_sq (q_seq (q_region (q_x (v:=nilS.v) hF hS (ex_assign rfl) rfl rfl fun a hF=>q_end (n_sq (q_seq (q_seq (q_region (q_x (v:=(iV 0)) hF hS (ex_assign rfl) rfl rfl fun a hF=>q_end (n_sq (q_block ?_))))))))))))))))))
 obtain ⟨o1,hl1,hr⟩:=bindS hr
 refine q_loop (fun (s : (List impl_Variable) × Int × spec_l1Cur) a w=>∃ (q4 : Piece),∃ (s4 : Sl),∃ out_3,∃ k_5,∃ p_c_6,s = (out_3,k_5,p_c_6)∧Fr a 26 [(0,(.pointer (some ⟨b_p_c,0,none⟩))),(3,s2.v),(4,s4.v),(5,(iV k_5))]∧St X w0 w m [q4,q2,[⟨b_p_c,[s1.v,(iV p_c_6.at_),(.int .u64 p_c_6.seed.v)],53⟩]]∧OwnL m 63 q4 s4 out_3∧Rd m s1 p_c_6.code∧p_c_6.code = p_c.code) (fun (o : (List impl_Variable) × spec_l1Cur) e a w=>∃ (q27 : Piece),∃ (s27 : Sl),∃ out_26,∃ p_c_28,o = (out_26,p_c_28)∧e = .exit 0∧Fr a 26 [(4,s27.v)]∧St X w0 w m [q27,[⟨b_p_c,[s1.v,(iV p_c_28.at_),(.int .u64 p_c_28.seed.v)],53⟩]]∧OwnL m 63 q27 s27 out_26∧Rd m s1 p_c_28.code∧p_c_28.code = p_c.code) hl1 ⟨[],nilS,_,_,_,rfl,hF.sub ⟨rfl,rfl,rfl,rfl,trivial⟩,hS.sel [2,0,1] (by decide),(OwnL.nil (α:=impl_Variable) m 63),h1,rfl⟩ ?_ ?_
 ·clear hF hS
  rintro s a w st ⟨q4,s4,out_3,k_5,p_c_6,rfl,hF,hS,h4,h7,h7k⟩ hb1
  unfold spec_l1Cur_schema_l1 at hb1
  refine q_seq (q_seq (q_region (q_x (v:=(iV k_5)) hF hS (ex_move rfl) rfl rfl fun a hF=>q_x (v:=(.pointer (some ⟨b_p_c,0,none⟩))) hF hS (ex_move rfl) rfl rfl fun a hF=>?_)))
  have hS : St _ _ _ _ [[⟨b_p_c,[s1.v,(iV p_c_6.at_),(.int .u64 p_c_6.seed.v)],53⟩],q4,q2]:=hS.sel [2,0,1] (by decide)
  have hS8 : St _ _ _ _ ([[⟨b_p_c,[s1.v,(iV p_c_6.at_),(.int .u64 p_c_6.seed.v)],53⟩]]++[q4,q2]):=hS
  have hE8:=hS8.enter
  obtain ⟨t_9,ht_9,hb1⟩:=bindS hb1
  refine q_do rfl fun _ hK=>wp_callX (vs:=[(.pointer (some ⟨b_p_c,0,none⟩)),(iV 3)]) hF Tryd.func50 (by kernel_rfl) rfl rfl rfl (c_spec_l1Cur_pick p_c_6 3 t_9 ht_9 _ m b_p_c s1 h7 _ hE8) fun a w _ hR hF=>hK _ _ ?_
  obtain ⟨rfl,hR8,hk10⟩:=hR
  have hS : St _ _ _ _ [[⟨b_p_c,[s1.v,(iV t_9.2.at_),(.int .u64 t_9.2.seed.v)],53⟩],q4,q2]:=hS8.leaveF hR8
  have h10 : Rd m s1 t_9.2.code:=by rw [hk10]; exact h7
  refine q_x (v:=(iV (w64 (1 + t_9.1)))) hF hS (ex_ibin rfl rfl rfl) rfl rfl fun a hF=>q_x (v:=(.bool (decide (k_5 < (w64 (1 + t_9.1)))))) hF hS (ex_ibin rfl rfl rfl) rfl rfl fun a hF=>q_end (n_sq ?_)
  rcases bcase (decide (k_5 < (w64 (1 + t_9.1)))) with hc2 | hc2
  ·have hb1:=cond_f hc2 hb1
   refine q_cond_f hF rfl hc2 (q_exit (x_sq ?_))
   obtain rfl:=someI hb1
   exact ⟨nofun,.inl ⟨q4,s4,_,_,rfl,rfl,hF.sub ⟨rfl,trivial⟩,hS.sel [1,0] (by decide),h4,h10,(hk10.trans h7k)⟩⟩
  ·have hb1:=cond_t hc2 hb1
   refine q_cond_t hF rfl hc2 (q_skipc (n_sq (q_seq (q_block ?_))))
   obtain ⟨j3,hj3,hb1⟩:=bindS hb1
   refine q_join (fun a w=>∃ (q23 : Piece),∃ (s23 : Sl),∃ out_22,∃ p_c_24,j3 = (out_22,p_c_24)∧Fr a 26 [(0,(.pointer (some ⟨b_p_c,0,none⟩))),(3,s2.v),(4,s23.v),(5,(iV k_5))]∧St X w0 w m [q2,q23,[⟨b_p_c,[s1.v,(iV p_c_24.at_),(.int .u64 p_c_24.seed.v)],53⟩]]∧OwnL m 63 q23 s23 out_22∧Rd m s1 p_c_24.code∧p_c_24.code = p_c.code) ?_ ?_
   ·refine e_region ⟨[6,10],[]⟩ mixed fun w' hw'=>?_
    have hS:=hS.below hw'
    refine e_p (v:=s4.v) 0 hF rfl (ex_move rfl) rfl rfl (by kernel_rfl) (by kernel_rfl) (by kernel_rfl) fun a hF=>e_p (v:=s2.v) 1 hF rfl (ex_move rfl) rfl rfl (by kernel_rfl) (by kernel_rfl) (by kernel_rfl) fun a hF=>e_p (v:=(iV k_5)) 2 hF rfl (ex_move rfl) rfl rfl (by kernel_rfl) (by kernel_rfl) (by kernel_rfl) fun a hF=>?_
    obtain ⟨e_11,he_11,hj3⟩:=bindS hj3
    obtain ⟨vs12,at12,d12⟩:=h2.at he_11 1 rfl
    obtain rfl : vs12 = [(strV e_11)]:=d12
    refine e_p (v:=(elP s2 (k_5.toNat * 1))) 3 hF rfl (ex_indexAddr Tryd.underlying61 sz9 rfl rfl (h2.idx he_11)) rfl rfl (by kernel_rfl) (by kernel_rfl) (by kernel_rfl) fun a hF=>e_p (v:=(.pointer (some ⟨b_p_c,0,none⟩))) 5 hF rfl (ex_move rfl) rfl rfl (by kernel_rfl) (by kernel_rfl) (by kernel_rfl) fun a hF=>?_
    obtain ⟨t_17,ht_17,hj3⟩:=bindS hj3
    obtain ⟨l_20,hl_20,hj3⟩:=bindS hj3
    refine e_all [4,6] (by kernel_rfl) rfl ⟨?_,?_,trivial⟩
    ·refine e_lx (v:=(strV e_11)) hF hS rfl (ex_loadE1 0 Tryd.underlying9 rfl rfl (at12.at 2 rfl) rfl rfl) rfl rfl fun a hF=>e_one 6 (by kernel_rfl) ?_
     have hS16 : St _ _ _ _ ([[⟨b_p_c,[s1.v,(iV t_9.2.at_),(.int .u64 t_9.2.seed.v)],53⟩]]++[q4,q2]):=hS
     have hE16:=hS16.enter
     refine e_opl rfl rfl rfl fun _ hK=>wp_callX (vs:=[(.pointer (some ⟨b_p_c,0,none⟩)),(iV 3)]) hF Tryd.func50 (by kernel_rfl) rfl rfl rfl (c_spec_l1Cur_pick t_9.2 3 t_17 ht_17 _ m b_p_c s1 h10 _ hE16) fun a w _ hR hF=>hK _ _ ?_
     obtain ⟨rfl,hR16,hk18⟩:=hR
     have hS : St _ _ _ _ [[⟨b_p_c,[s1.v,(iV t_17.2.at_),(.int .u64 t_17.2.seed.v)],53⟩],q4,q2]:=hS16.leaveF hR16
     have h18 : Rd m s1 t_17.2.code:=by rw [hk18]; exact h10
     refine ⟨kpN,?_⟩
     refine e_p (v:=(iV (w64 (2 + t_17.1)))) 7 hF rfl (ex_ibin rfl rfl rfl) rfl rfl (by kernel_rfl) (by kernel_rfl) (by kernel_rfl) fun a hF=>e_p (v:=(.agg #[(strV e_11),(iV (w64 (2 + t_17.1)))])) 8 hF rfl (ex_build (cells:=[(strV e_11),(iV (w64 (2 + t_17.1)))]) rfl (by kernel_rfl)) rfl rfl (by kernel_rfl) (by kernel_rfl) (by kernel_rfl) fun a hF=>e_one 9 (by kernel_rfl) (e_op rfl rfl fun _ hK=>wp_buildSlice' (l:=([(impl_Variable.mk e_11 (w64 (2 + t_17.1)))] : List impl_Variable)) (cells:=[(strV e_11),(iV (w64 (2 + t_17.1)))]) hF hS Tryd.underlying24 inf63 rfl rfl (by kernel_rfl) rfl rfl rfl ⟨rfl,rfl⟩ rfl rfl fun a w q19 s19 hF hS h19 hb=>hK _ _ hb (e_one 10 (by kernel_rfl) ?_))
     have hS : St _ _ _ _ [q4,q19,[⟨b_p_c,[s1.v,(iV t_17.2.at_),(.int .u64 t_17.2.seed.v)],53⟩],q2]:=hS.sel [2,0,1,3] (by decide)
     refine e_opl rfl rfl rfl fun _ hK=>wp_append hF hS h4 Tryd.underlying24 inf63 rfl rfl rfl rfl (h19.vw hS (j:=1) rfl) rfl (by decide) hl_20 rfl fun a w q21 s21 hF hS h21=>hK _ _ (⟨kpN,?_⟩)
     refine e_p (v:=s21.v) 11 hF rfl (ex_assign rfl) rfl rfl (by kernel_rfl) (by kernel_rfl) (by kernel_rfl) fun a hF=>e_end (by kernel_rfl) (n_jn ?_) _
     obtain rfl:=someI hj3
     exact ⟨q21,s21,_,_,rfl,hF.sub ⟨rfl,rfl,rfl,rfl,trivial⟩,hS.sel [3,0,2] (by decide),h21,h18,(hk18.trans (hk10.trans h7k))⟩
    ·have hS16 : St _ _ _ _ ([[⟨b_p_c,[s1.v,(iV t_9.2.at_),(.int .u64 t_9.2.seed.v)],53⟩]]++[q4,q2]):=hS
     have hE16:=hS16.enter
     refine e_opl rfl rfl rfl fun _ hK=>wp_callX (vs:=[(.pointer (some ⟨b_p_c,0,none⟩)),(iV 3)]) hF Tryd.func50 (by kernel_rfl) rfl rfl rfl (c_spec_l1Cur_pick t_9.2 3 t_17 ht_17 _ m b_p_c s1 h10 _ hE16) fun a w _ hR hF=>hK _ _ ?_
     obtain ⟨rfl,hR16,hk18⟩:=hR
     have hS : St _ _ _ _ [[⟨b_p_c,[s1.v,(iV t_17.2.at_),(.int .u64 t_17.2.seed.v)],53⟩],q4,q2]:=hS16.leaveF hR16
     have h18 : Rd m s1 t_17.2.code:=by rw [hk18]; exact h10
     refine ⟨kpN,?_⟩
     refine e_p (v:=(iV (w64 (2 + t_17.1)))) 7 hF rfl (ex_ibin rfl rfl rfl) rfl rfl (by kernel_rfl) (by kernel_rfl) (by kernel_rfl) fun a hF=>e_one 4 (by kernel_rfl) (e_lx (v:=(strV e_11)) hF hS rfl (ex_loadE1 0 Tryd.underlying9 rfl rfl (at12.at 2 rfl) rfl rfl) rfl rfl fun a hF=>e_p (v:=(.agg #[(strV e_11),(iV (w64 (2 + t_17.1)))])) 8 hF rfl (ex_build (cells:=[(strV e_11),(iV (w64 (2 + t_17.1)))]) rfl (by kernel_rfl)) rfl rfl (by kernel_rfl) (by kernel_rfl) (by kernel_rfl) fun a hF=>e_one 9 (by kernel_rfl) (e_op rfl rfl fun _ hK=>wp_buildSlice' (l:=([(impl_Variable.mk e_11 (w64 (2 + t_17.1)))] : List impl_Variable)) (cells:=[(strV e_11),(iV (w64 (2 + t_17.1)))]) hF hS Tryd.underlying24 inf63 rfl rfl (by kernel_rfl) rfl rfl rfl ⟨rfl,rfl⟩ rfl rfl fun a w q19 s19 hF hS h19 hb=>hK _ _ hb (e_one 10 (by kernel_rfl) ?_)))
     have hS : St _ _ _ _ [q4,q19,[⟨b_p_c,[s1.v,(iV t_17.2.at_),(.int .u64 t_17.2.seed.v)],53⟩],q2]:=hS.sel [2,0,1,3] (by decide)
     refine e_opl rfl rfl rfl fun _ hK=>wp_append hF hS h4 Tryd.underlying24 inf63 rfl rfl rfl rfl (h19.vw hS (j:=1) rfl) rfl (by decide) hl_20 rfl fun a w q21 s21 hF hS h21=>hK _ _ (⟨kpN,?_⟩)
     refine e_p (v:=s21.v) 11 hF rfl (ex_assign rfl) rfl rfl (by kernel_rfl) (by kernel_rfl) (by kernel_rfl) fun a hF=>e_end (by kernel_rfl) (n_jn ?_) _
     obtain rfl:=someI hj3
     exact ⟨q21,s21,_,_,rfl,hF.sub ⟨rfl,rfl,rfl,rfl,trivial⟩,hS.sel [3,0,2] (by decide),h21,h18,(hk18.trans (hk10.trans h7k))⟩
   ·rintro a w ⟨q23,s23,out_22,p_c_24,rfl,hF,hS,h23,h25,h25k⟩
    refine n_ib (n_sq ?_)
    refine q_region (q_x (v:=(iV k_5)) hF hS (ex_move rfl) rfl rfl fun a hF=>q_x (v:=(iV (w64 (k_5 + 1)))) hF hS (ex_ibin rfl rfl rfl) rfl rfl fun a hF=>q_x (v:=(iV (w64 (k_5 + 1)))) hF hS (ex_assign rfl) rfl rfl fun a hF=>q_end ?_)
    obtain rfl:=someI hb1
    exact ⟨rfl,q23,s23,_,_,_,rfl,hF.sub ⟨rfl,rfl,rfl,rfl,trivial⟩,hS.sel [1,0,2] (by decide),h23,h25,h25k⟩
 ·rintro e a w ⟨q27,s27,out_26,p_c_28,rfl,rfl,hF,hS,h27,h29,h29k⟩
  refine x_ib (n_sq ?_)
  refine q_seq (q_region (q_x (v:=s27.v) hF hS (ex_move rfl) rfl rfl fun a hF=>q_x (v:=s27.v) hF hS (ex_assign rfl) rfl rfl fun a hF=>q_end (n_sq (q_ret ?_))))
  obtain rfl:=someI hr
  exact ret_ofX hF hS rfl (.tmp rfl .nil) ⟨q27,s27,rfl,hS.sel [1,0] (by decide),h27,h29k⟩

theorem c_spec_l1Cur_among (p_c : spec_l1Cur) (p_list : List Int) (r : Int × spec_l1Cur) (hr : spec_l1Cur_among p_c p_list = some r) (w0 : World) (m : Mem) (b_p_c : Nat) (s1 : Sl) (h1 : Rd m s1 p_c.code) (s2 : Sl) (h2 : Rd m s2 p_list) (X : List Nat) (hS : St X w0 w0 m [[⟨b_p_c,[s1.v,(iV p_c.at_),(.int .u64 p_c.seed.v)],53⟩]]) :
  RetX Tryd.prog 51 [(.pointer (some ⟨b_p_c,0,none⟩)),s2.v] w0 (fun v w=>v = (iV r.1)∧St X w0 w m [[⟨b_p_c,[s1.v,(iV r.2.at_),(.int .u64 r.2.seed.v)],53⟩]]∧r.2.code = p_c.code):=by
 unfold spec_l1Cur_among at hr
 refine ret_startX Tryd.func51 rfl 12 rfl rfl fun a hF=>q_seq (q_region (q_x (v:=(iV 0)) hF hS (ex_assign rfl) rfl rfl fun a hF=>q_end (n_sq (q_seq (q_region (q_x (v:=s2.v) hF hS (ex_move rfl) rfl rfl fun a hF=>q_x (v:=(.pointer (some ⟨b_p_c,0,none⟩))) hF hS (ex_move rfl) rfl rfl fun a hF=>q_x (v:=s2.v) hF hS (ex_move rfl) rfl rfl fun a hF=>q_x (v:=(iV (goLen p_list))) hF hS (ex_len Tryd.underlying25 rfl h2.len) rfl rfl fun a hF=>?_))))))
 have hS3 : St _ _ _ _ ([[⟨b_p_c,[s1.v,(iV p_c.at_),(.int .u64 p_c.seed.v)],53⟩]]++[]):=hS
 have hE3:=hS3.enter
 obtain ⟨t_4,ht_4,hr⟩:=bindS hr
 refine q_do rfl fun _ hK=>wp_callX (vs:=[(.pointer (some ⟨b_p_c,0,none⟩)),(iV (goLen p_list))]) hF Tryd.func50 (by kernel_rfl) rfl rfl rfl (c_spec_l1Cur_pick p_c (goLen p_list) t_4 ht_4 _ m b_p_c s1 h1 _ hE3) fun a w _ hR hF=>hK _ _ ?_
 obtain ⟨rfl,hR3,hk5⟩:=hR
 have hS : St _ _ _ _ [[⟨b_p_c,[s1.v,(iV t_4.2.at_),(.int .u64 t_4.2.seed.v)],53⟩]]:=hS3.leaveF hR3
 have h5 : Rd m s1 t_4.2.code:=by rw [hk5]; exact h1
 obtain ⟨e_6,he_6,hr⟩:=bindS hr
 obtain ⟨vs7,at7,d7⟩:=h2.at he_6 1 rfl
 obtain rfl : vs7 = [(iV e_6)]:=d7
 refine q_x (v:=(elP s2 (t_4.1.toNat * 1))) hF hS (ex_indexAddr Tryd.underlying25 sz3 rfl rfl (h2.idx he_6)) rfl rfl fun a hF=>q_x (v:=(iV e_6)) hF hS (ex_loadE1 0 Tryd.underlying3 rfl rfl ((at7).at) rfl rfl) rfl rfl fun a hF=>q_x (v:=(iV e_6)) hF hS (ex_assign rfl) rfl rfl fun a hF=>q_end (n_sq (q_ret ?_))
 obtain rfl:=someI hr
 exact ret_ofX hF hS rfl (.tmp rfl .nil) ⟨rfl,hS.sel [0] (by decide),hk5⟩

theorem c_spec_l1Cur_of (p_c : spec_l1Cur) (p_list : List (List UInt8)) (r : (List UInt8) × spec_l1Cur) (hr : spec_l1Cur_of p_c p_list = some r) (w0 : World) (m : Mem) (b_p_c : Nat) (s1 : Sl) (h1 : Rd m s1 p_c.code) (s2 : Sl) (h2 : Rd m s2 p_list) (X : List Nat) (hS : St X w0 w0 m [[⟨b_p_c,[s1.v,(iV p_c.at_),(.int .u64 p_c.seed.v)],53⟩]]) :
  RetX Tryd.prog 52 [(.pointer (some ⟨b_p_c,0,none⟩)),s2.v] w0 (fun v w=>v = (strV r.1)∧St X w0 w m [[⟨b_p_c,[s1.v,(iV r.2.at_),(.int .u64 r.2.seed.v)],53⟩]]∧r.2.code = p_c.code):=by
 unfold spec_l1Cur_of at hr
 refine ret_startX Tryd.func52 rfl 12 rfl rfl fun a hF=>q_seq (q_region (q_x (v:=(strV ([] : List UInt8))) hF hS (ex_assign rfl) rfl rfl fun a hF=>q_end (n_sq (q_seq (q_region (q_x (v:=s2.v) hF hS (ex_move rfl) rfl rfl fun a hF=>q_x (v:=(.pointer (some ⟨b_p_c,0,none⟩))) hF hS (ex_move rfl) rfl rfl fun a hF=>q_x (v:=s2.v) hF hS (ex_move rfl) rfl rfl fun a hF=>q_x (v:=(iV (goLen p_list))) hF hS (ex_len Tryd.underlying61 rfl h2.len) rfl rfl fun a hF=>?_))))))
 have hS3 : St _ _ _ _ ([[⟨b_p_c,[s1.v,(iV p_c.at_),(.int .u64 p_c.seed.v)],53⟩]]++[]):=hS
 have hE3:=hS3.enter
 obtain ⟨t_4,ht_4,hr⟩:=bindS hr
 refine q_do rfl fun _ hK=>wp_callX (vs:=[(.pointer (some ⟨b_p_c,0,none⟩)),(iV (goLen p_list))]) hF Tryd.func50 (by kernel_rfl) rfl rfl rfl (c_spec_l1Cur_pick p_c (goLen p_list) t_4 ht_4 _ m b_p_c s1 h1 _ hE3) fun a w _ hR hF=>hK _ _ ?_
 obtain ⟨rfl,hR3,hk5⟩:=hR
 have hS : St _ _ _ _ [[⟨b_p_c,[s1.v,(iV t_4.2.at_),(.int .u64 t_4.2.seed.v)],53⟩]]:=hS3.leaveF hR3
 have h5 : Rd m s1 t_4.2.code:=by rw [hk5]; exact h1
 obtain ⟨e_6,he_6,hr⟩:=bindS hr
 obtain ⟨vs7,at7,d7⟩:=h2.at he_6 1 rfl
 obtain rfl : vs7 = [(strV e_6)]:=d7
 refine q_x (v:=(elP s2 (t_4.1.toNat * 1))) hF hS (ex_indexAddr Tryd.underlying61 sz9 rfl rfl (h2.idx he_6)) rfl rfl fun a hF=>q_x (v:=(strV e_6)) hF hS (ex_loadE1 0 Tryd.underlying9 rfl rfl ((at7).at) rfl rfl) rfl rfl fun a hF=>q_x (v:=(strV e_6)) hF hS (ex_assign rfl) rfl rfl fun a hF=>q_end (n_sq (q_ret ?_))
 obtain rfl:=someI hr
 exact ret_ofX hF hS rfl (.tmp rfl .nil) ⟨rfl,hS.sel [0] (by decide),hk5⟩

theorem c_spec_l1Cur_anySchema (p_c : spec_l1Cur) (r : (List impl_Variable) × spec_l1Cur) (hr : spec_l1Cur_anySchema p_c = some r) (w0 : World) (m : Mem) (b_p_c : Nat) (s1 : Sl) (h1 : Rd m s1 p_c.code) (X : List Nat) (hS : St X w0 w0 m [[⟨b_p_c,[s1.v,(iV p_c.at_),(.int .u64 p_c.seed.v)],53⟩]]) :
  RetX Tryd.prog 25 [(.pointer (some ⟨b_p_c,0,none⟩))] w0 (fun v w=>∃ (q0' : Piece) (s0' : Sl),v = s0'.v∧St X w0 w m [[⟨b_p_c,[s1.v,(iV r.2.at_),(.int .u64 r.2.seed.v)],53⟩],q0']∧OwnL m 63 q0' s0' r.1∧r.2.code = p_c.code):=by
 unfold spec_l1Cur_anySchema at hr
 refine ret_startX Tryd.func25 rfl 46 rfl rfl fun a hF=>q_seq (q_region (q_x (v:=nilS.v) hF hS (ex_assign rfl) rfl rfl fun a hF=>q_end (n_sq (q_seq (q_region (q_x (v:=(.pointer (some ⟨b_p_c,0,none⟩))) hF hS (ex_move rfl) rfl rfl fun a hF=>?_))))))
 have hS2 : St _ _ _ _ ([[⟨b_p_c,[s1.v,(iV p_c.at_),(.int .u64 p_c.seed.v)],53⟩]]++[]):=hS
 have hE2:=hS2.enter
 obtain ⟨t_3,ht_3,hr⟩:=bindS hr
 refine q_do rfl fun _ hK=>wp_callX (vs:=[(.pointer (some ⟨b_p_c,0,none⟩))]) hF Tryd.func49 (by kernel_rfl) rfl rfl rfl (c_spec_l1Cur_schema p_c t_3 ht_3 _ m b_p_c s1 h1 _ hE2) fun a w _ hR hF=>hK _ _ ?_
 obtain ⟨q4,s4,rfl,hR2,h4,hk5⟩:=hR
 have hS : St _ _ _ _ [[⟨b_p_c,[s1.v,(iV t_3.2.at_),(.int .u64 t_3.2.seed.v)],53⟩],q4]:=hS2.leaveF hR2
 have h5 : Rd m s1 t_3.2.code:=by rw [hk5]; exact h1
 refine q_x (v:=s4.v) hF hS (ex_assign rfl) rfl rfl fun a hF=>q_end (n_sq (q_seq (q_seq (q_region (q_x (v:=(.pointer (some ⟨b_p_c,0,none⟩))) hF hS (ex_move rfl) rfl rfl fun a hF=>?_)))))
 have hS6 : St _ _ _ _ ([[⟨b_p_c,[s1.v,(iV t_3.2.at_),(.int .u64 t_3.2.seed.v)],53⟩]]++[q4]):=hS
 have hE6:=hS6.enter
 obtain ⟨t_7,ht_7,hr⟩:=bindS hr
 refine q_do rfl fun _ hK=>wp_callX (vs:=[(.pointer (some ⟨b_p_c,0,none⟩)),(iV 24)]) hF Tryd.func50 (by kernel_rfl) rfl rfl rfl (c_spec_l1Cur_pick t_3.2 24 t_7 ht_7 _ m b_p_c s1 h5 _ hE6) fun a w _ hR hF=>hK _ _ ?_
 obtain ⟨rfl,hR6,hk8⟩:=hR
 have hS : St _ _ _ _ [[⟨b_p_c,[s1.v,(iV t_7.2.at_),(.int .u64 t_7.2.seed.v)],53⟩],q4]:=hS6.leaveF hR6
 have h8 : Rd m s1 t_7.2.code:=by rw [hk8]; exact h5
 refine q_end (n_sq (q_block (q_seq (q_region (q_x (v:=(.bool (t_7.1 == 0))) hF hS (ex_ibin rfl rfl rfl) rfl rfl fun a hF=>q_x (v:=(.bool (t_7.1 == 0))) hF hS (ex_assign rfl) rfl rfl fun a hF=>q_end (n_sq ?_))))))
 obtain ⟨j1,hj1,hr⟩:=bindS hr
 refine q_join (fun a w=>∃ (q48 : Piece),∃ (s48 : Sl),∃ s_47,∃ p_c_49,j1 = .inl (s_47,p_c_49)∧Fr a 46 [(3,s48.v)]∧St X w0 w m [q48,[⟨b_p_c,[s1.v,(iV p_c_49.at_),(.int .u64 p_c_49.seed.v)],53⟩]]∧OwnL m 63 q48 s48 s_47∧Rd m s1 p_c_49.code∧p_c_49.code = p_c.code) ?_ ?_
 ·rcases bcase (t_7.1 == 0) with hc2 | hc2
  ·have hj1:=cond_f hc2 hj1
   refine q_cond_f hF rfl hc2 (q_seq (q_region (q_x (v:=(.bool (t_7.1 == 1))) hF hS (ex_ibin rfl rfl rfl) rfl rfl fun a hF=>q_x (v:=(.bool (t_7.1 == 1))) hF hS (ex_assign rfl) rfl rfl fun a hF=>q_end (n_sq ?_))))
   obtain ⟨j3,hj3,hj1⟩:=bindS hj1
   refine q_join (fun a w=>∃ (q37 : Piece),∃ (s37 : Sl),∃ s_36,∃ p_c_38,j3 = .inl (s_36,p_c_38)∧Fr a 46 [(3,s37.v)]∧St X w0 w m [q37,[⟨b_p_c,[s1.v,(iV p_c_38.at_),(.int .u64 p_c_38.seed.v)],53⟩]]∧OwnL m 63 q37 s37 s_36∧Rd m s1 p_c_38.code∧p_c_38.code = p_c.code) ?_ ?_
   ·rcases bcase (t_7.1 == 1) with hc4 | hc4
    ·have hj3:=cond_f hc4 hj3
     refine q_cond_f hF rfl hc4 (q_seq (q_region (q_x (v:=(.bool (t_7.1 == 2))) hF hS (ex_ibin rfl rfl rfl) rfl rfl fun a hF=>q_x (v:=(.bool (t_7.1 == 2))) hF hS (ex_assign rfl) rfl rfl fun a hF=>q_end (n_sq ?_))))
     rcases bcase (t_7.1 == 2) with hc5 | hc5
     ·have hj3:=cond_f hc5 hj3
      refine q_cond_f hF rfl hc5 (q_seq (q_region (q_x (v:=(.bool (t_7.1 == 3))) hF hS (ex_ibin rfl rfl rfl) rfl rfl fun a hF=>q_x (v:=(.bool (t_7.1 == 3))) hF hS (ex_assign rfl) rfl rfl fun a hF=>q_end (n_sq ?_))))
      obtain ⟨j6,hj6,hj3⟩:=bindS hj3
      refine q_join (fun a w=>∃ (q26 : Piece),∃ (s26 : Sl),∃ s_25,∃ p_c_27,j6 = (s_25,p_c_27)∧Fr a 46 [(3,s26.v)]∧St X w0 w m [q26,[⟨b_p_c,[s1.v,(iV p_c_27.at_),(.int .u64 p_c_27.seed.v)],53⟩]]∧OwnL m 63 q26 s26 s_25∧Rd m s1 p_c_27.code∧p_c_27.code = p_c.code) ?_ ?_
      ·rcases bcase (t_7.1 == 3) with hc7 | hc7
       ·have hj6:=cond_f hc7 hj6
        refine q_cond_f hF rfl hc7 (q_skipc (n_jn ?_))
        obtain rfl:=someI hj6
        exact ⟨q4,s4,_,_,rfl,hF.sub ⟨rfl,trivial⟩,hS.sel [1,0] (by decide),h4,h8,(hk8.trans hk5)⟩
       ·have hj6:=cond_t hc7 hj6
        refine q_cond_t hF rfl hc7 (q_block ?_)
        obtain ⟨o8,hl8,hj6⟩:=bindS hj6
        refine q_loop (fun (s : (List impl_Variable) × spec_l1Cur) a w=>∃ (q10 : Piece),∃ (s10 : Sl),∃ s_9,∃ p_c_11,s = (s_9,p_c_11)∧Fr a 46 [(0,(.pointer (some ⟨b_p_c,0,none⟩))),(3,s10.v)]∧St X w0 w m [q10,[⟨b_p_c,[s1.v,(iV p_c_11.at_),(.int .u64 p_c_11.seed.v)],53⟩]]∧OwnL m 63 q10 s10 s_9∧Rd m s1 p_c_11.code∧p_c_11.code = p_c.code) (fun (o : (List impl_Variable) × spec_l1Cur) e a w=>∃ (q22 : Piece),∃ (s22 : Sl),∃ s_21,∃ p_c_23,o = (s_21,p_c_23)∧e = .exit 1∧Fr a 46 [(3,s22.v)]∧St X w0 w m [q22,[⟨b_p_c,[s1.v,(iV p_c_23.at_),(.int .u64 p_c_23.seed.v)],53⟩]]∧OwnL m 63 q22 s22 s_21∧Rd m s1 p_c_23.code∧p_c_23.code = p_c.code) hl8 ⟨q4,s4,_,_,rfl,hF.sub ⟨rfl,rfl,trivial⟩,hS.sel [1,0] (by decide),h4,h8,(hk8.trans hk5)⟩ ?_ ?_
        ·clear hF hS
         rintro s a w st ⟨q10,s10,s_9,p_c_11,rfl,hF,hS,h10,h12,h12k⟩ hb8
         unfold spec_l1Cur_anySchema_l1 at hb8
         refine q_seq (q_seq (q_region (q_x (v:=s10.v) hF hS (ex_move rfl) rfl rfl fun a hF=>q_x (v:=(iV (goLen s_9))) hF hS (ex_len Tryd.underlying24 rfl h10.len) rfl rfl fun a hF=>q_x (v:=(.pointer (some ⟨b_p_c,0,none⟩))) hF hS (ex_move rfl) rfl rfl fun a hF=>?_)))
         have hS : St _ _ _ _ [[⟨b_p_c,[s1.v,(iV p_c_11.at_),(.int .u64 p_c_11.seed.v)],53⟩],q10]:=hS.sel [1,0] (by decide)
         have hS13 : St _ _ _ _ ([[⟨b_p_c,[s1.v,(iV p_c_11.at_),(.int .u64 p_c_11.seed.v)],53⟩]]++[q10]):=hS
         have hE13:=hS13.enter
         obtain ⟨t_14,ht_14,hb8⟩:=bindS hb8
         refine q_do rfl fun _ hK=>wp_callX (vs:=[(.pointer (some ⟨b_p_c,0,none⟩)),(iV 2)]) hF Tryd.func50 (by kernel_rfl) rfl rfl rfl (c_spec_l1Cur_pick p_c_11 2 t_14 ht_14 _ m b_p_c s1 h12 _ hE13) fun a w _ hR hF=>hK _ _ ?_
         obtain ⟨rfl,hR13,hk15⟩:=hR
         have hS : St _ _ _ _ [[⟨b_p_c,[s1.v,(iV t_14.2.at_),(.int .u64 t_14.2.seed.v)],53⟩],q10]:=hS13.leaveF hR13
         have h15 : Rd m s1 t_14.2.code:=by rw [hk15]; exact h12
         refine q_x (v:=(iV (w64 (6 + t_14.1)))) hF hS (ex_ibin rfl rfl rfl) rfl rfl fun a hF=>q_x (v:=(.bool (decide ((goLen s_9) < (w64 (6 + t_14.1)))))) hF hS (ex_ibin rfl rfl rfl) rfl rfl fun a hF=>q_end (n_sq ?_)
         rcases bcase (decide ((goLen s_9) < (w64 (6 + t_14.1)))) with hc9 | hc9
         ·have hb8:=cond_f hc9 hb8
          refine q_cond_f hF rfl hc9 (q_exit (x_sq ?_))
          obtain rfl:=someI hb8
          exact ⟨nofun,.inl ⟨q10,s10,_,_,rfl,rfl,hF.sub ⟨rfl,trivial⟩,hS.sel [1,0] (by decide),h10,h15,(hk15.trans h12k)⟩⟩
         ·have hb8:=cond_t hc9 hb8
          refine q_cond_t hF rfl hc9 (q_skipc (n_sq (q_block (q_region (q_x (v:=s10.v) hF hS (ex_move rfl) rfl rfl fun a hF=>q_x (v:=s10.v) hF hS (ex_move rfl) rfl rfl fun a hF=>q_x (v:=(iV (goLen s_9))) hF hS (ex_len Tryd.underlying24 rfl h10.len) rfl rfl fun a hF=>q_x (v:=(iV (w64 (97 + (goLen s_9))))) hF hS (ex_ibin rfl rfl rfl) rfl rfl fun a hF=>q_x (v:=(.int .u8 (IntKind.wrap .u8 (w64 (97 + (goLen s_9)))))) hF hS (ex_conv Tryd.underlying3 Tryd.underlying5 rfl) rfl rfl fun a hF=>q_do rfl fun _ hK=>wp_buildSlice' (l:=([(⟨(IntKind.wrap .u8 (w64 (97 + (goLen s_9))))⟩ : K .u8)] : List (K .u8))) (cells:=[(.int .u8 (IntKind.wrap .u8 (w64 (97 + (goLen s_9)))))]) hF hS Tryd.underlying22 inf5 rfl rfl (by kernel_rfl) rfl rfl rfl ⟨rfl,rfl⟩ rfl rfl fun a w q16 s16 hF hS h16 _=>hK _ _ (q_x (v:=(strV (goBytes ([(⟨(IntKind.wrap .u8 (w64 (97 + (goLen s_9))))⟩ : K .u8)] : List (K .u8))))) hF hS (ex_toStr Tryd.underlying22 Tryd.underlying5 Tryd.underlying9 rfl (fun X w0 w hS=>h16.vw hS (j:=0) rfl)) rfl rfl fun a hF=>?_))))))
          obtain ⟨t_17,ht_17,hb8⟩:=bindS hb8
          refine q_x (v:=(strV t_17)) hF hS (ex_strCat rfl rfl ht_17) rfl rfl fun a hF=>q_x (v:=(.agg #[(strV t_17),(iV 2)])) hF hS (ex_build (cells:=[(strV t_17),(iV 2)]) rfl (by kernel_rfl)) rfl rfl fun a hF=>q_do rfl fun _ hK=>wp_buildSlice' (l:=([(impl_Variable.mk t_17 2)] : List impl_Variable)) (cells:=[(strV t_17),(iV 2)]) hF hS Tryd.underlying24 inf63 rfl rfl (by kernel_rfl) rfl rfl rfl ⟨rfl,rfl⟩ rfl rfl fun a w q18 s18 hF hS h18 _=>hK _ _ ?_
          have hS : St _ _ _ _ [q10,q18,q16,[⟨b_p_c,[s1.v,(iV t_14.2.at_),(.int .u64 t_14.2.seed.v)],53⟩]]:=hS.sel [3,0,1,2] (by decide)
          obtain ⟨l_19,hl_19,hb8⟩:=bindS hb8
          refine q_do rfl fun _ hK=>wp_append hF hS h10 Tryd.underlying24 inf63 rfl rfl rfl rfl (h18.vw hS (j:=1) rfl) rfl (by decide) hl_19 rfl fun a w q20 s20 hF hS h20=>hK _ _ (q_x (v:=s20.v) hF hS (ex_assign rfl) rfl rfl fun a hF=>q_end (n_ib ?_))
          obtain rfl:=someI hb8
          exact ⟨rfl,q20,s20,_,_,rfl,hF.sub ⟨rfl,rfl,trivial⟩,hS.mask [true,false,false,true],h20,h15,(hk15.trans h12k)⟩
        ·rintro e a w ⟨q22,s22,s_21,p_c_23,rfl,rfl,hF,hS,h22,h24,h24k⟩
         refine x_ib (n_jn ?_)
         obtain rfl:=someI hj6
         exact ⟨q22,s22,_,_,rfl,hF.sub ⟨rfl,trivial⟩,hS,h22,h24,h24k⟩
      ·rintro a w ⟨q26,s26,s_25,p_c_27,rfl,hF,hS,h26,h28,h28k⟩
       refine n_jn ?_
       obtain rfl:=someI hj3
       exact ⟨q26,s26,_,_,rfl,hF.sub ⟨rfl,trivial⟩,hS,h26,h28,h28k⟩
     ·have hj3:=cond_t hc5 hj3
      refine q_cond_t hF rfl hc5 (q_seq (q_region (q_x (v:=nilS.v) hF hS (ex_assign rfl) rfl rfl fun a hF=>q_end (n_sq (q_ret (r_jn ?_))))))
      obtain rfl:=someI hj3
      refine r_jn ?_
      obtain rfl:=someI hj1
      refine r_ib (r_sq ?_)
      obtain rfl:=someI hr
      exact ret_ofX hF hS rfl (.tmp rfl .nil) ⟨[],nilS,rfl,hS.sel [0,2] (by decide),(OwnL.nil (α:=impl_Variable) m 63),(hk8.trans hk5)⟩
    ·have hj3:=cond_t hc4 hj3
     refine q_cond_t hF rfl hc4 (q_region (q_x (v:=s4.v) hF hS (ex_move rfl) rfl rfl fun a hF=>q_x (v:=(.pointer (some ⟨b_p_c,0,none⟩))) hF hS (ex_move rfl) rfl rfl fun a hF=>q_do rfl fun _ hK=>wp_buildSlice' (l:=([([] : List UInt8),([65,103,101] : List UInt8),([97,98,99,100,101,102,103,104,105] : List UInt8),([97,103,101] : List UInt8),([97,98,32,99,100] : List UInt8)] : List (List UInt8))) (cells:=[(strV ([] : List UInt8)),(strV ([65,103,101] : List UInt8)),(strV ([97,98,99,100,101,102,103,104,105] : List UInt8)),(strV ([97,103,101] : List UInt8)),(strV ([97,98,32,99,100] : List UInt8))]) hF hS Tryd.underlying61 inf9 rfl rfl (by kernel_rfl) rfl rfl rfl ⟨rfl,rfl,rfl,rfl,rfl,rfl⟩ rfl rfl fun a w q29 s29 hF hS h29 _=>hK _ _ ?_))
     have hS : St _ _ _ _ [[⟨b_p_c,[s1.v,(iV t_7.2.at_),(.int .u64 t_7.2.seed.v)],53⟩],q29,q4]:=hS.sel [1,0,2] (by decide)
     have hS30 : St _ _ _ _ ([[⟨b_p_c,[s1.v,(iV t_7.2.at_),(.int .u64 t_7.2.seed.v)],53⟩]]++[q29,q4]):=hS
     obtain ⟨m30,hl30,hE30,hz30⟩:=hS30.lendX
     obtain ⟨t_31,ht_31,hj3⟩:=bindS hj3
     refine q_do rfl fun _ hK=>wp_callX (vs:=[(.pointer (some ⟨b_p_c,0,none⟩)),s29.v]) hF Tryd.func52 (by kernel_rfl) rfl rfl rfl (c_spec_l1Cur_of t_7.2 ([([] : List UInt8),([65,103,101] : List UInt8),([97,98,99,100,101,102,103,104,105] : List UInt8),([97,103,101] : List UInt8),([97,98,32,99,100] : List UInt8)] : List (List UInt8)) t_31 ht_31 _ m30 b_p_c s1 (h8.mono hl30) s29 (h29.froz hl30 (hz30 0 _ rfl)) _ hE30) fun a w _ hR hF=>hK _ _ ?_
     obtain ⟨rfl,hR30,hk32⟩:=hR
     have hS : St _ _ _ _ [[⟨b_p_c,[s1.v,(iV t_31.2.at_),(.int .u64 t_31.2.seed.v)],53⟩],q29,q4]:=hS30.leaveF hR30
     have h32 : Rd m s1 t_31.2.code:=by rw [hk32]; exact h8
     obtain ⟨e_33,he_33,hj3⟩:=bindS hj3
     obtain ⟨vs34,at34,d34⟩:=h4.at he_33 2 rfl
     obtain rfl : vs34 = [(strV e_33.Name),(iV e_33.Levels)]:=d34
     refine q_x (v:=(elP s4 ((0 : Int).toNat * 2))) hF hS (ex_indexAddr Tryd.underlying24 sz63 rfl rfl (h4.idx he_33)) rfl rfl fun a hF=>q_x (v:=(elP s4 ((0 : Int).toNat * 2 + 0))) hF hS (ex_fieldAddrE Tryd.underlying63 rfl sz9 rfl (h4.idx he_33) rfl) rfl rfl fun a hF=>?_
     have hS : St _ _ _ _ [q4,[⟨b_p_c,[s1.v,(iV t_31.2.at_),(.int .u64 t_31.2.seed.v)],53⟩],q29]:=hS.sel [2,0,1] (by decide)
     refine q_do rfl fun _ hK=>wp_storeE (e':=(impl_Variable.mk t_31.1 e_33.Levels)) (us:=[(strV t_31.1)]) (vs:=[(strV e_33.Name),(iV e_33.Levels)]) 0 hF hS h4 sz9 rfl rfl rfl rfl rfl rfl rfl he_33 at34 rfl rfl rfl fun w q35 hS h35=>hK _ _ (q_end (n_jn ?_))
     obtain rfl:=someI hj3
     exact ⟨q35,s4,_,_,rfl,hF.sub ⟨rfl,trivial⟩,hS.mask [true,true,false],h35,h32,(hk32.trans (hk8.trans hk5))⟩
   ·rintro a w ⟨q37,s37,s_36,p_c_38,rfl,hF,hS,h37,h39,h39k⟩
    refine n_jn ?_
    obtain rfl:=someI hj1
    exact ⟨q37,s37,_,_,rfl,hF.sub ⟨rfl,trivial⟩,hS,h37,h39,h39k⟩
  ·have hj1:=cond_t hc2 hj1
   refine q_cond_t hF rfl hc2 (q_region (q_x (v:=s4.v) hF hS (ex_move rfl) rfl rfl fun a hF=>q_x (v:=(.pointer (some ⟨b_p_c,0,none⟩))) hF hS (ex_move rfl) rfl rfl fun a hF=>q_do rfl fun _ hK=>wp_buildSlice' (l:=([1,8,9] : List Int)) (cells:=[(iV 1),(iV 8),(iV 9)]) hF hS Tryd.underlying25 inf3 rfl rfl (by kernel_rfl) rfl rfl rfl ⟨rfl,rfl,rfl,rfl⟩ rfl rfl fun a w q40 s40 hF hS h40 _=>hK _ _ ?_))
   have hS : St _ _ _ _ [[⟨b_p_c,[s1.v,(iV t_7.2.at_),(.int .u64 t_7.2.seed.v)],53⟩],q40,q4]:=hS.sel [1,0,2] (by decide)
   have hS41 : St _ _ _ _ ([[⟨b_p_c,[s1.v,(iV t_7.2.at_),(.int .u64 t_7.2.seed.v)],53⟩]]++[q40,q4]):=hS
   obtain ⟨m41,hl41,hE41,hz41⟩:=hS41.lendX
   obtain ⟨t_42,ht_42,hj1⟩:=bindS hj1
   refine q_do rfl fun _ hK=>wp_callX (vs:=[(.pointer (some ⟨b_p_c,0,none⟩)),s40.v]) hF Tryd.func51 (by kernel_rfl) rfl rfl rfl (c_spec_l1Cur_among t_7.2 ([1,8,9] : List Int) t_42 ht_42 _ m41 b_p_c s1 (h8.mono hl41) s40 (h40.froz hl41 (hz41 0 _ rfl)) _ hE41) fun a w _ hR hF=>hK _ _ ?_
   obtain ⟨rfl,hR41,hk43⟩:=hR
   have hS : St _ _ _ _ [[⟨b_p_c,[s1.v,(iV t_42.2.at_),(.int .u64 t_42.2.seed.v)],53⟩],q40,q4]:=hS41.leaveF hR41
   have h43 : Rd m s1 t_42.2.code:=by rw [hk43]; exact h8
   obtain ⟨e_44,he_44,hj1⟩:=bindS hj1
   obtain ⟨vs45,at45,d45⟩:=h4.at he_44 2 rfl
   obtain rfl : vs45 = [(strV e_44.Name),(iV e_44.Levels)]:=d45
   refine q_x (v:=(elP s4 ((0 : Int).toNat * 2))) hF hS (ex_indexAddr Tryd.underlying24 sz63 rfl rfl (h4.idx he_44)) rfl rfl fun a hF=>q_x (v:=(elP s4 ((0 : Int).toNat * 2 + 1))) hF hS (ex_fieldAddrE Tryd.underlying63 rfl sz3 rfl (h4.idx he_44) rfl) rfl rfl fun a hF=>?_
   have hS : St _ _ _ _ [q4,[⟨b_p_c,[s1.v,(iV t_42.2.at_),(.int .u64 t_42.2.seed.v)],53⟩],q40]:=hS.sel [2,0,1] (by decide)
   refine q_do rfl fun _ hK=>wp_storeE (e':=(impl_Variable.mk e_44.Name t_42.1)) (us:=[(iV t_42.1)]) (vs:=[(strV e_44.Name),(iV e_44.Levels)]) 1 hF hS h4 sz3 rfl rfl rfl rfl rfl rfl rfl he_44 at45 rfl rfl rfl fun w q46 hS h46=>hK _ _ (q_end (n_jn ?_))
   obtain rfl:=someI hj1
   exact ⟨q46,s4,_,_,rfl,hF.sub ⟨rfl,trivial⟩,hS.mask [true,true,false],h46,h43,(hk43.trans (hk8.trans hk5))⟩
 ·rintro a w ⟨q48,s48,s_47,p_c_49,rfl,hF,hS,h48,h50,h50k⟩
  refine n_ib (n_sq ?_)
  refine q_seq (q_region (q_x (v:=s48.v) hF hS (ex_move rfl) rfl rfl fun a hF=>q_x (v:=s48.v) hF hS (ex_assign rfl) rfl rfl fun a hF=>q_end (n_sq (q_ret ?_))))
  obtain rfl:=someI hr
  exact ret_ofX hF hS rfl (.tmp rfl .nil) ⟨q48,s48,rfl,hS.sel [1,0] (by decide),h48,h50k⟩

theorem c_spec_l1In (p_n : Int) (p_lo : Int) (p_hi : Int) (r : Bool) (hr : spec_l1In p_n p_lo p_hi = some r) (w0 : World) (m : Mem) (hv : Vis m w0) :
  Ret Tryd.prog 47 [(iV p_n),(iV p_lo),(iV p_hi)] w0 (fun v _=>v = (.bool r)):=by
 unfold spec_l1In at hr
 refine ret_start Tryd.func47 rfl 15 rfl rfl m hv fun a hF hS=>q_seq (q_region (q_x (v:=(.bool false)) hF hS (ex_assign rfl) rfl rfl fun a hF=>q_end (n_sq (q_seq ?_))))
 obtain ⟨t_1,hj1,hr⟩:=bindS hr
 refine q_join (fun a w=>Fr a 15 [(6,(.bool t_1))]∧St [] w0 w m []) ?_ ?_
 ·refine q_region (q_x (v:=(iV p_n)) hF hS (ex_move rfl) rfl rfl fun a hF=>q_x (v:=(iV p_lo)) hF hS (ex_move rfl) rfl rfl fun a hF=>q_x (v:=(.bool (decide (p_lo ≤ p_n)))) hF hS (ex_ibin rfl rfl rfl) rfl rfl fun a hF=>q_x (v:=(.bool (decide (p_lo ≤ p_n)))) hF hS (ex_move rfl) rfl rfl fun a hF=>?_)
  rcases bcase (decide (p_lo ≤ p_n)) with hc2 | hc2
  ·have hj1:=cond_f hc2 hj1
   refine q_skip hF (wanted_f hF rfl rfl rfl hc2 rfl) rfl fun a hF=>q_skip hF (wanted_f hF rfl rfl rfl hc2 rfl) rfl fun a hF=>q_skip hF (wanted_f hF rfl rfl rfl hc2 rfl) rfl fun a hF=>q_x (v:=(.bool false)) hF hS (ex_pick_f rfl rfl hc2) rfl rfl fun a hF=>q_x (v:=(.bool false)) hF hS (ex_assign rfl) rfl rfl fun a hF=>q_end (n_jn ?_)
   obtain rfl:=someI hj1
   exact ⟨hF.sub ⟨rfl,trivial⟩,hS⟩
  ·have hj1:=cond_t hc2 hj1
   refine q_xg (v:=(iV p_n)) hF hS (ex_move rfl) (wanted_t hF rfl rfl rfl hc2) rfl fun a hF=>q_xg (v:=(iV p_hi)) hF hS (ex_move rfl) (wanted_t hF rfl rfl rfl hc2) rfl fun a hF=>q_xg (v:=(.bool (decide (p_n ≤ p_hi)))) hF hS (ex_ibin rfl rfl rfl) (wanted_t hF rfl rfl rfl hc2) rfl fun a hF=>q_x (v:=(.bool (decide (p_n ≤ p_hi)))) hF hS (ex_pick_t rfl rfl hc2) rfl rfl fun a hF=>q_x (v:=(.bool (decide (p_n ≤ p_hi)))) hF hS (ex_assign rfl) rfl rfl fun a hF=>q_end (n_jn ?_)
   obtain rfl:=someI hj1
   exact ⟨hF.sub ⟨rfl,trivial⟩,hS⟩
 ·rintro a w ⟨hF,hS⟩
  refine n_sq (q_ret ?_)
  obtain rfl:=someI hr
  exact ret_of hF hS rfl (.tmp rfl .nil) rfl

theorem c_spec_sName (p_s : List UInt8) (r : Bool) (hr : spec_sName p_s = some r) (w0 : World) (m : Mem) (hv : Vis m w0) :
  Ret Tryd.prog 66 [(strV p_s)] w0 (fun v _=>v = (.bool r)):=by
 unfold spec_sName at hr
 refine ret_start Tryd.func66 rfl 23 rfl rfl m hv fun a hF hS=>q_seq (q_region (q_x (v:=(.bool false)) hF hS (ex_assign rfl) rfl rfl fun a hF=>q_end (n_sq (q_seq (q_seq (q_region (q_x (v:=(iV 0)) hF hS (ex_assign rfl) rfl rfl fun a hF=>q_end (n_sq (q_block ?_)))))))))
 obtain ⟨o1,hl1,hr⟩:=bindS hr
 refine q_loop (fun (i_1 : Int) a w=>Fr a 23 [(0,(strV p_s)),(3,(iV i_1))]∧St [] w0 w m []) (fun (o : (Unit) ⊕ (Bool)) e a w=>o = .inl ()∧e = .exit 0∧Fr a 23 [(0,(strV p_s))]∧St [] w0 w m []) hl1 ⟨hF.sub ⟨rfl,rfl,trivial⟩,hS⟩ ?_ ?_
 ·clear hF hS
  rintro i_1 a w st ⟨hF,hS⟩ hb1
  unfold spec_sName_l1 at hb1
  refine q_seq (q_seq (q_region (q_x (v:=(iV i_1)) hF hS (ex_move rfl) rfl rfl fun a hF=>q_x (v:=(strV p_s)) hF hS (ex_move rfl) rfl rfl fun a hF=>q_x (v:=(iV (goLen p_s))) hF hS (ex_strLen Tryd.underlying9 rfl) rfl rfl fun a hF=>q_x (v:=(.bool (decide (i_1 < (goLen p_s))))) hF hS (ex_ibin rfl rfl rfl) rfl rfl fun a hF=>q_end (n_sq ?_))))
  rcases bcase (decide (i_1 < (goLen p_s))) with hc2 | hc2
  ·have hb1:=cond_f hc2 hb1
   refine q_cond_f hF rfl hc2 (q_exit (x_sq ?_))
   obtain rfl:=someI hb1
   exact ⟨nofun,.inl ⟨rfl,rfl,hF.sub ⟨rfl,trivial⟩,hS⟩⟩
  ·have hb1:=cond_t hc2 hb1
   refine q_cond_t hF rfl hc2 (q_skipc (n_sq (q_seq (q_block (q_seq ?_)))))
   obtain ⟨t_4,hj3,hb1⟩:=bindS hb1
   refine q_join (fun a w=>Fr a 23 [(0,(strV p_s)),(3,(iV i_1)),(19,(.bool t_4))]∧St [] w0 w m []) ?_ ?_
   ·refine q_region (q_x (v:=(strV p_s)) hF hS (ex_move rfl) rfl rfl fun a hF=>q_x (v:=(iV i_1)) hF hS (ex_move rfl) rfl rfl fun a hF=>?_)
    obtain ⟨t_2,ht_2,hj3⟩:=bindS hj3
    refine q_x (v:=(.int .u8 t_2)) hF hS (ex_strIdx Tryd.underlying9 rfl rfl ht_2) rfl rfl fun a hF=>q_x (v:=(.bool (decide (t_2 < 97)))) hF hS (ex_ibin rfl rfl rfl) rfl rfl fun a hF=>q_x (v:=(.bool (decide (t_2 < 97)))) hF hS (ex_move rfl) rfl rfl fun a hF=>?_
    rcases bcase (decide (t_2 < 97)) with hc4 | hc4
    ·have hj3:=cond_f hc4 hj3
     refine q_xg (v:=(strV p_s)) hF hS (ex_move rfl) (wanted_t hF rfl rfl rfl hc4) rfl fun a hF=>q_xg (v:=(iV i_1)) hF hS (ex_move rfl) (wanted_t hF rfl rfl rfl hc4) rfl fun a hF=>?_
     obtain ⟨t_3,ht_3,hj3⟩:=bindS hj3
     refine q_xg (v:=(.int .u8 t_3)) hF hS (ex_strIdx Tryd.underlying9 rfl rfl ht_3) (wanted_t hF rfl rfl rfl hc4) rfl fun a hF=>q_xg (v:=(.bool (decide (122 < t_3)))) hF hS (ex_ibin rfl rfl rfl) (wanted_t hF rfl rfl rfl hc4) rfl fun a hF=>q_x (v:=(.bool (decide (122 < t_3)))) hF hS (ex_pick_f rfl rfl hc4) rfl rfl fun a hF=>q_end (n_jn ?_)
     obtain rfl:=someI hj3
     exact ⟨hF.sub ⟨rfl,rfl,rfl,trivial⟩,hS⟩
    ·have hj3:=cond_t hc4 hj3
     refine q_skip hF (wanted_f hF rfl rfl rfl hc4 rfl) rfl fun a hF=>q_skip hF (wanted_f hF rfl rfl rfl hc4 rfl) rfl fun a hF=>q_skip hF (wanted_f hF rfl rfl rfl hc4 rfl) rfl fun a hF=>q_skip hF (wanted_f hF rfl rfl rfl hc4 rfl) rfl fun a hF=>q_x (v:=(.bool true)) hF hS (ex_pick_t rfl rfl hc4) rfl rfl fun a hF=>q_end (n_jn ?_)
     obtain rfl:=someI hj3
     exact ⟨hF.sub ⟨rfl,rfl,rfl,trivial⟩,hS⟩
   ·rintro a w ⟨hF,hS⟩
    refine n_sq ?_
    rcases bcase (t_4) with hc5 | hc5
    ·have hb1:=cond_f hc5 hb1
     refine q_cond_f hF rfl hc5 (q_skipc (n_ib (n_sq (q_region (q_x (v:=(iV i_1)) hF hS (ex_move rfl) rfl rfl fun a hF=>q_x (v:=(iV (w64 (i_1 + 1)))) hF hS (ex_ibin rfl rfl rfl) rfl rfl fun a hF=>q_x (v:=(iV (w64 (i_1 + 1)))) hF hS (ex_assign rfl) rfl rfl fun a hF=>q_end ?_)))))
     obtain rfl:=someI hb1
     exact ⟨rfl,hF.sub ⟨rfl,rfl,trivial⟩,hS⟩
    ·have hb1:=cond_t hc5 hb1
     refine q_cond_t hF rfl hc5 (q_seq (q_region (q_x (v:=(.bool false)) hF hS (ex_assign rfl) rfl rfl fun a hF=>q_end (n_sq (q_ret (r_ib (r_sq ?_)))))))
     obtain rfl:=someI hb1
     refine ⟨nofun,.inr fun ho=>?_⟩
     subst ho
     refine r_ib (r_sq ?_)
     obtain rfl:=someI hr
     exact ret_of hF hS rfl (.tmp rfl .nil) rfl
 ·rintro e a w ⟨rfl,rfl,hF,hS⟩
  refine x_ib (n_sq ?_)
  refine q_seq (q_region (q_x (v:=(strV p_s)) hF hS (ex_move rfl) rfl rfl fun a hF=>q_x (v:=(iV (goLen p_s))) hF hS (ex_strLen Tryd.underlying9 rfl) rfl rfl fun a hF=>?_))
  obtain ⟨t_5,ht_5,hr⟩:=bindS hr
  refine q_call (vs:=[(iV (goLen p_s)),(iV 1),(iV 8)]) hF hS Tryd.func47 (by kernel_rfl) rfl rfl rfl (c_spec_l1In (goLen p_s) 1 8 t_5 ht_5 _ m hS.vis) ?_
  rintro a w _ rfl hF hS
  refine q_x (v:=(.bool t_5)) hF hS (ex_assign rfl) rfl rfl fun a hF=>q_end (n_sq (q_ret ?_))
  obtain rfl:=someI hr
  exact ret_of hF hS rfl (.tmp rfl .nil) rfl

theorem c_spec_sFind (p_s : List impl_Variable) (p_name : List UInt8) (r : Int) (hr : spec_sFind p_s p_name = some r) (w0 : World) (m : Mem) (hv : Vis m w0) (s1 : Sl) (h1 : Rd m s1 p_s) :
  Ret Tryd.prog 67 [s1.v,(strV p_name)] w0 (fun v _=>v = (iV r)):=by
 unfold spec_sFind at hr
 refine ret_start Tryd.func67 rfl 20 rfl rfl m hv fun a hF hS=>q_seq (q_region (q_x (v:=(iV 0)) hF hS (ex_assign rfl) rfl rfl fun a hF=>q_end (n_sq (q_seq (q_seq (q_region (q_x (v:=s1.v) hF hS (ex_move rfl) rfl rfl fun a hF=>q_x (v:=(iV (goLen p_s))) hF hS (ex_len Tryd.underlying24 rfl h1.len) rfl rfl fun a hF=>q_x (v:=(iV 0)) hF hS (ex_move rfl) rfl rfl fun a hF=>q_end (n_sq (q_block ?_)))))))))
 obtain ⟨o1,hl1,hr⟩:=bindS hr
 refine q_loop (fun (t_2 : Int) a w=>Fr a 20 [(1,(strV p_name)),(7,s1.v),(8,(iV (goLen p_s))),(9,(iV t_2))]∧St [] w0 w m []) (fun (o : (Unit) ⊕ (Int)) e a w=>o = .inl ()∧e = .exit 0∧Fr a 20 []∧St [] w0 w m []) hl1 ⟨hF.sub ⟨rfl,rfl,rfl,rfl,trivial⟩,hS⟩ ?_ ?_
 ·clear hF hS
  rintro t_2 a w st ⟨hF,hS⟩ hb1
  unfold spec_sFind_l1 at hb1
  refine q_seq (q_region (q_x (v:=(.bool (decide (t_2 < (goLen p_s))))) hF hS (ex_ibin rfl rfl rfl) rfl rfl fun a hF=>q_end (n_sq (q_seq ?_))))
  rcases bcase (decide (t_2 < (goLen p_s))) with hc2 | hc2
  ·have hb1:=cond_f hc2 hb1
   refine q_cond_f hF rfl hc2 (q_exit (x_sq ?_))
   obtain rfl:=someI hb1
   exact ⟨nofun,.inl ⟨rfl,rfl,hF.sub trivial,hS⟩⟩
  ·have hb1:=cond_t hc2 hb1
   refine q_cond_t hF rfl hc2 (q_skipc (n_sq (q_seq (q_block (q_seq (q_region (q_x (v:=(iV t_2)) hF hS (ex_move rfl) rfl rfl fun a hF=>?_)))))))
   obtain ⟨e_3,he_3,hb1⟩:=bindS hb1
   obtain ⟨vs4,at4,d4⟩:=h1.at he_3 2 rfl
   obtain rfl : vs4 = [(strV e_3.Name),(iV e_3.Levels)]:=d4
   refine q_x (v:=(elP s1 (t_2.toNat * 2))) hF hS (ex_indexAddr Tryd.underlying24 sz63 rfl rfl (h1.idx he_3)) rfl rfl fun a hF=>q_x (v:=(.agg #[(strV e_3.Name),(iV e_3.Levels)])) hF hS (ex_loadEA (us:=[(strV e_3.Name),(iV e_3.Levels)]) 0 Tryd.underlying63 rfl sz63 rfl ((at4).at) rfl rfl rfl) rfl rfl fun a hF=>q_alloc (cs:=[(strV ([] : List UInt8)),(iV 0)]) hF hS rfl rfl rfl fun a w b5 hF hS=>q_x (v:=(iV t_2)) hF hS (ex_assign rfl) rfl rfl fun a hF=>q_store (vs:=[(strV e_3.Name),(iV e_3.Levels)]) (cs':=[(strV e_3.Name),(iV e_3.Levels)]) 0 0 hF hS sz63 rfl rfl rfl rfl rfl rfl rfl rfl fun a w hF hS=>q_end (n_sq (q_seq (q_region (q_x (v:=(.pointer (some ⟨b5,0,none⟩))) hF hS (ex_fieldAddr Tryd.underlying63 rfl sz9 rfl rfl) rfl rfl fun a hF=>q_x (v:=(strV e_3.Name)) hF hS (ex_load1 0 0 Tryd.underlying9 rfl rfl rfl rfl) rfl rfl fun a hF=>q_x (v:=(strV p_name)) hF hS (ex_move rfl) rfl rfl fun a hF=>q_x (v:=(.bool (e_3.Name == p_name))) hF hS (ex_strEq rfl rfl) rfl rfl fun a hF=>q_end (n_sq ?_)))))
   rcases bcase (e_3.Name == p_name) with hc3 | hc3
   ·have hb1:=cond_f hc3 hb1
    refine q_cond_f hF rfl hc3 (q_skipc (n_ib (n_sq (q_region (q_x (v:=(iV (w64 (t_2 + 1)))) hF hS (ex_ibin rfl rfl rfl) rfl rfl fun a hF=>q_x (v:=(iV (w64 (t_2 + 1)))) hF hS (ex_move rfl) rfl rfl fun a hF=>q_end ?_)))))
    obtain rfl:=someI hb1
    exact ⟨rfl,hF.sub ⟨rfl,rfl,rfl,rfl,trivial⟩,hS.mask [false]⟩
   ·have hb1:=cond_t hc3 hb1
    refine q_cond_t hF rfl hc3 (q_seq (q_region (q_x (v:=(iV t_2)) hF hS (ex_move rfl) rfl rfl fun a hF=>q_x (v:=(iV t_2)) hF hS (ex_assign rfl) rfl rfl fun a hF=>q_end (n_sq (q_ret (r_ib (r_sq ?_)))))))
    obtain rfl:=someI hb1
    refine ⟨nofun,.inr fun ho=>?_⟩
    subst ho
    refine r_ib (r_sq ?_)
    obtain rfl:=someI hr
    exact ret_of hF hS rfl (.tmp rfl .nil) rfl
 ·rintro e a w ⟨rfl,rfl,hF,hS⟩
  refine x_ib (n_sq ?_)
  refine q_seq (q_region (q_x (v:=(iV (-1))) hF hS (ex_assign rfl) rfl rfl fun a hF=>q_end (n_sq (q_ret ?_))))
  obtain rfl:=someI hr
  exact ret_of hF hS rfl (.tmp rfl .nil) rfl

theorem c_spec_sGood (p_s : List impl_Variable) (r : Bool) (hr : spec_sGood p_s = some r) (w0 : World) (m : Mem) (hv : Vis m w0) (s1 : Sl) (h1 : Rd m s1 p_s) :
  Ret Tryd.prog 45 [s1.v] w0 (fun v _=>v = (.bool r)):=by
 unfold spec_sGood at hr
 refine ret_start Tryd.func45 rfl 36 rfl rfl m hv fun a hF hS=>q_seq (q_region (q_x (v:=(.bool false)) hF hS (ex_assign rfl) rfl rfl fun a hF=>q_end (n_sq (q_seq (q_seq (q_region (q_x (v:=s1.v) hF hS (ex_move rfl) rfl rfl fun a hF=>q_x (v:=(iV (goLen p_s))) hF hS (ex_len Tryd.underlying24 rfl h1.len) rfl rfl fun a hF=>?_)))))))
 obtain ⟨t_2,ht_2,hr⟩:=bindS hr
 refine q_call (vs:=[(iV (goLen p_s)),(iV 1),(iV 6)]) hF hS Tryd.func47 (by kernel_rfl) rfl rfl rfl (c_spec_l1In (goLen p_s) 1 6 t_2 ht_2 _ m hS.vis) ?_
 rintro a w _ rfl hF hS
 refine q_x (v:=(.bool (!t_2))) hF hS (ex_not rfl) rfl rfl fun a hF=>q_end (n_sq ?_)
 rcases bcase (!t_2) with hc1 | hc1
 ·have hr:=cond_f hc1 hr
  refine q_cond_f hF rfl hc1 (q_skipc (n_sq (q_seq (q_seq (q_region (q_x (v:=s1.v) hF hS (ex_move rfl) rfl rfl fun a hF=>q_x (v:=(iV (goLen p_s))) hF hS (ex_len Tryd.underlying24 rfl h1.len) rfl rfl fun a hF=>q_x (v:=(iV 0)) hF hS (ex_move rfl) rfl rfl fun a hF=>q_end (n_sq (q_block ?_))))))))
  obtain ⟨o2,hl2,hr⟩:=bindS hr
  refine q_loop (fun (t_3 : Int) a w=>Fr a 36 [(0,s1.v),(9,s1.v),(10,(iV (goLen p_s))),(11,(iV t_3))]∧St [] w0 w m []) (fun (o : (Unit) ⊕ (Bool)) e a w=>o = .inl ()∧e = .exit 0∧Fr a 36 []∧St [] w0 w m []) hl2 ⟨hF.sub ⟨rfl,rfl,rfl,rfl,trivial⟩,hS⟩ ?_ ?_
  ·clear hF hS
   rintro t_3 a w st ⟨hF,hS⟩ hb2
   unfold spec_sGood_l1 at hb2
   refine q_seq (q_region (q_x (v:=(.bool (decide (t_3 < (goLen p_s))))) hF hS (ex_ibin rfl rfl rfl) rfl rfl fun a hF=>q_end (n_sq (q_seq ?_))))
   rcases bcase (decide (t_3 < (goLen p_s))) with hc3 | hc3
   ·have hb2:=cond_f hc3 hb2
    refine q_cond_f hF rfl hc3 (q_exit (x_sq ?_))
    obtain rfl:=someI hb2
    exact ⟨nofun,.inl ⟨rfl,rfl,hF.sub trivial,hS⟩⟩
   ·have hb2:=cond_t hc3 hb2
    refine q_cond_t hF rfl hc3 (q_skipc (n_sq (q_seq (q_block (q_seq (q_region (q_x (v:=(iV t_3)) hF hS (ex_move rfl) rfl rfl fun a hF=>?_)))))))
    obtain ⟨e_4,he_4,hb2⟩:=bindS hb2
    obtain ⟨vs5,at5,d5⟩:=h1.at he_4 2 rfl
    obtain rfl : vs5 = [(strV e_4.Name),(iV e_4.Levels)]:=d5
    refine q_x (v:=(elP s1 (t_3.toNat * 2))) hF hS (ex_indexAddr Tryd.underlying24 sz63 rfl rfl (h1.idx he_4)) rfl rfl fun a hF=>q_x (v:=(.agg #[(strV e_4.Name),(iV e_4.Levels)])) hF hS (ex_loadEA (us:=[(strV e_4.Name),(iV e_4.Levels)]) 0 Tryd.underlying63 rfl sz63 rfl ((at5).at) rfl rfl rfl) rfl rfl fun a hF=>q_alloc (cs:=[(strV ([] : List UInt8)),(iV 0)]) hF hS rfl rfl rfl fun a w b6 hF hS=>q_x (v:=(iV t_3)) hF hS (ex_assign rfl) rfl rfl fun a hF=>q_store (vs:=[(strV e_4.Name),(iV e_4.Levels)]) (cs':=[(strV e_4.Name),(iV e_4.Levels)]) 0 0 hF hS sz63 rfl rfl rfl rfl rfl rfl rfl rfl fun a w hF hS=>q_end (n_sq (q_seq ?_))
    obtain ⟨t_12,hj4,hb2⟩:=bindS hb2
    refine q_join (fun a w=>Fr a 36 [(0,s1.v),(9,s1.v),(10,(iV (goLen p_s))),(11,(iV t_3)),(34,(.bool t_12))]∧St [] w0 w m []) ?_ ?_
    ·refine e_region ⟨[],[]⟩ mixed fun w' hw'=>?_
     have hS:=hS.below hw'
     refine e_p (v:=(.pointer (some ⟨b6,0,none⟩))) 0 hF rfl (ex_fieldAddr Tryd.underlying63 rfl sz9 rfl rfl) rfl rfl (by kernel_rfl) (by kernel_rfl) (by kernel_rfl) fun a hF=>e_x (v:=(strV e_4.Name)) 1 hF hS rfl (ex_load1 0 0 Tryd.underlying9 rfl rfl rfl rfl) rfl rfl (by kernel_rfl) (by kernel_rfl) (by kernel_rfl) (by kernel_rfl) fun a hF=>e_one 2 (by kernel_rfl) ?_
     obtain ⟨t_7,ht_7,hj4⟩:=bindS hj4
     refine e_call (vs:=[(strV e_4.Name)]) hF hS rfl Tryd.func66 (by kernel_rfl) rfl rfl rfl (c_spec_sName e_4.Name t_7 ht_7 _ m hS.vis) ?_
     rintro a w _ rfl hF hS
     refine e_p (v:=(.bool (!t_7))) 3 hF rfl (ex_not rfl) rfl rfl (by kernel_rfl) (by kernel_rfl) (by kernel_rfl) fun a hF=>e_p (v:=(.bool (!t_7))) 4 hF rfl (ex_move rfl) rfl rfl (by kernel_rfl) (by kernel_rfl) (by kernel_rfl) fun a hF=>?_
     rcases bcase (!t_7) with hc5 | hc5
     ·have hj4:=cond_f hc5 hj4
      refine e_pg (v:=(.pointer (some ⟨b6,1,none⟩))) 5 hF rfl (ex_fieldAddr Tryd.underlying63 rfl sz3 rfl rfl) (wanted_t hF rfl rfl rfl hc5) rfl (by kernel_rfl) (by kernel_rfl) (by kernel_rfl) fun a hF=>e_xg (v:=(iV e_4.Levels)) 6 hF hS rfl (ex_load1 0 0 Tryd.underlying3 rfl rfl rfl rfl) (wanted_t hF rfl rfl rfl hc5) rfl (by kernel_rfl) (by kernel_rfl) (by kernel_rfl) (by kernel_rfl) fun a hF=>e_one 7 (by kernel_rfl) ?_
      obtain ⟨t_8,ht_8,hj4⟩:=bindS hj4
      refine e_callg (vs:=[(iV e_4.Levels),(iV 2),(iV 8)]) hF hS rfl (wanted_t hF rfl rfl rfl hc5) Tryd.func47 (by kernel_rfl) rfl rfl rfl (c_spec_l1In e_4.Levels 2 8 t_8 ht_8 _ m hS.vis) ?_
      rintro a w _ rfl hF hS
      refine e_pg (v:=(.bool (!t_8))) 8 hF rfl (ex_not rfl) (wanted_t hF rfl rfl rfl hc5) rfl (by kernel_rfl) (by kernel_rfl) (by kernel_rfl) fun a hF=>e_p (v:=(.bool (!t_8))) 9 hF rfl (ex_pick_f rfl rfl hc5) rfl rfl (by kernel_rfl) (by kernel_rfl) (by kernel_rfl) fun a hF=>e_p (v:=(.bool (!t_8))) 10 hF rfl (ex_move rfl) rfl rfl (by kernel_rfl) (by kernel_rfl) (by kernel_rfl) fun a hF=>?_
      rcases bcase (!t_8) with hc6 | hc6
      ·have hj4:=cond_f hc6 hj4
       refine e_pg (v:=s1.v) 11 hF rfl (ex_move rfl) (wanted_t hF rfl rfl rfl hc6) rfl (by kernel_rfl) (by kernel_rfl) (by kernel_rfl) fun a hF=>e_pg (v:=(iV t_3)) 12 hF rfl (ex_move rfl) (wanted_t hF rfl rfl rfl hc6) rfl (by kernel_rfl) (by kernel_rfl) (by kernel_rfl) fun a hF=>?_
       obtain ⟨l_9,hl_9,hj4⟩:=bindS hj4
       have h10 : Rd m (subS s1 2 (0 : Int).toNat t_3.toNat s1.cap) l_9:=h1.sub' hl_9 2 rfl
       refine e_pg (v:=(subS s1 2 (0 : Int).toNat t_3.toNat s1.cap).v) 13 hF rfl (ex_slice Tryd.underlying24 sz63 rfl rfl rfl (.inl ⟨rfl,rfl⟩) (.inr ⟨_,rfl⟩) (h1.subok hl_9)) (wanted_t hF rfl rfl rfl hc6) rfl (by kernel_rfl) (by kernel_rfl) (by kernel_rfl) fun a hF=>e_pg (v:=(.pointer (some ⟨b6,0,none⟩))) 14 hF rfl (ex_fieldAddr Tryd.underlying63 rfl sz9 rfl rfl) (wanted_t hF rfl rfl rfl hc6) rfl (by kernel_rfl) (by kernel_rfl) (by kernel_rfl) fun a hF=>e_xg (v:=(strV e_4.Name)) 15 hF hS rfl (ex_load1 0 0 Tryd.underlying9 rfl rfl rfl rfl) (wanted_t hF rfl rfl rfl hc6) rfl (by kernel_rfl) (by kernel_rfl) (by kernel_rfl) (by kernel_rfl) fun a hF=>e_one 16 (by kernel_rfl) ?_
       obtain ⟨t_11,ht_11,hj4⟩:=bindS hj4
       refine e_callg (vs:=[(subS s1 2 (0 : Int).toNat t_3.toNat s1.cap).v,(strV e_4.Name)]) hF hS rfl (wanted_t hF rfl rfl rfl hc6) Tryd.func67 (by kernel_rfl) rfl rfl rfl (c_spec_sFind l_9 e_4.Name t_11 ht_11 _ m hS.vis (subS s1 2 (0 : Int).toNat t_3.toNat s1.cap) h10) ?_
       rintro a w _ rfl hF hS
       refine e_pg (v:=(.bool (decide (0 ≤ t_11)))) 17 hF rfl (ex_ibin rfl rfl rfl) (wanted_t hF rfl rfl rfl hc6) rfl (by kernel_rfl) (by kernel_rfl) (by kernel_rfl) fun a hF=>e_p (v:=(.bool (decide (0 ≤ t_11)))) 18 hF rfl (ex_pick_f rfl rfl hc6) rfl rfl (by kernel_rfl) (by kernel_rfl) (by kernel_rfl) fun a hF=>e_end (by kernel_rfl) (n_jn ?_) _
       obtain rfl:=someI hj4
       exact ⟨hF.sub ⟨rfl,rfl,rfl,rfl,rfl,trivial⟩,hS.mask [false]⟩
      ·have hj4:=cond_t hc6 hj4
       refine e_skipP 11 hF rfl (wanted_f hF rfl rfl rfl hc6 rfl) rfl (by kernel_rfl) (by kernel_rfl) (by kernel_rfl) fun a hF=>e_skipP 12 hF rfl (wanted_f hF rfl rfl rfl hc6 rfl) rfl (by kernel_rfl) (by kernel_rfl) (by kernel_rfl) fun a hF=>e_skipP 13 hF rfl (wanted_f hF rfl rfl rfl hc6 rfl) rfl (by kernel_rfl) (by kernel_rfl) (by kernel_rfl) fun a hF=>e_skipP 14 hF rfl (wanted_f hF rfl rfl rfl hc6 rfl) rfl (by kernel_rfl) (by kernel_rfl) (by kernel_rfl) fun a hF=>e_skipP 15 hF rfl (wanted_f hF rfl rfl rfl hc6 rfl) rfl (by kernel_rfl) (by kernel_rfl) (by kernel_rfl) fun a hF=>e_skipP 16 hF rfl (wanted_f hF rfl rfl rfl hc6 rfl) rfl (by kernel_rfl) (by kernel_rfl) (by kernel_rfl) fun a hF=>e_skipP 17 hF rfl (wanted_f hF rfl rfl rfl hc6 rfl) rfl (by kernel_rfl) (by kernel_rfl) (by kernel_rfl) fun a hF=>e_p (v:=(.bool true)) 18 hF rfl (ex_pick_t rfl rfl hc6) rfl rfl (by kernel_rfl) (by kernel_rfl) (by kernel_rfl) fun a hF=>e_end (by kernel_rfl) (n_jn ?_) _
       obtain rfl:=someI hj4
       exact ⟨hF.sub ⟨rfl,rfl,rfl,rfl,rfl,trivial⟩,hS.mask [false]⟩
     ·have hj4:=cond_t hc5 hj4
      refine e_skipP 5 hF rfl (wanted_f hF rfl rfl rfl hc5 rfl) rfl (by kernel_rfl) (by kernel_rfl) (by kernel_rfl) fun a hF=>e_skipP 6 hF rfl (wanted_f hF rfl rfl rfl hc5 rfl) rfl (by kernel_rfl) (by kernel_rfl) (by kernel_rfl) fun a hF=>e_skipP 7 hF rfl (wanted_f hF rfl rfl rfl hc5 rfl) rfl (by kernel_rfl) (by kernel_rfl) (by kernel_rfl) fun a hF=>e_skipP 8 hF rfl (wanted_f hF rfl rfl rfl hc5 rfl) rfl (by kernel_rfl) (by kernel_rfl) (by kernel_rfl) fun a hF=>e_p (v:=(.bool true)) 9 hF rfl (ex_pick_t rfl rfl hc5) rfl rfl (by kernel_rfl) (by kernel_rfl) (by kernel_rfl) fun a hF=>e_p (v:=(.bool true)) 10 hF rfl (ex_move rfl) rfl rfl (by kernel_rfl) (by kernel_rfl) (by kernel_rfl) fun a hF=>e_skipP 11 hF rfl (wanted_f hF rfl rfl rfl rfl rfl) rfl (by kernel_rfl) (by kernel_rfl) (by kernel_rfl) fun a hF=>e_skipP 12 hF rfl (wanted_f hF rfl rfl rfl rfl rfl) rfl (by kernel_rfl) (by kernel_rfl) (by kernel_rfl) fun a hF=>e_skipP 13 hF rfl (wanted_f hF rfl rfl rfl rfl rfl) rfl (by kernel_rfl) (by kernel_rfl) (by kernel_rfl) fun a hF=>e_skipP 14 hF rfl (wanted_f hF rfl rfl rfl rfl rfl) rfl (by kernel_rfl) (by kernel_rfl) (by kernel_rfl) fun a hF=>e_skipP 15 hF rfl (wanted_f hF rfl rfl rfl rfl rfl) rfl (by kernel_rfl) (by kernel_rfl) (by kernel_rfl) fun a hF=>e_skipP 16 hF rfl (wanted_f hF rfl rfl rfl rfl rfl) rfl (by kernel_rfl) (by kernel_rfl) (by kernel_rfl) fun a hF=>e_skipP 17 hF rfl (wanted_f hF rfl rfl rfl rfl rfl) rfl (by kernel_rfl) (by kernel_rfl) (by kernel_rfl) fun a hF=>e_p (v:=(.bool true)) 18 hF rfl (ex_pick_t rfl rfl rfl) rfl rfl (by kernel_rfl) (by kernel_rfl) (by kernel_rfl) fun a hF=>e_end (by kernel_rfl) (n_jn ?_) _
      obtain rfl:=someI hj4
      exact ⟨hF.sub ⟨rfl,rfl,rfl,rfl,rfl,trivial⟩,hS.mask [false]⟩
    ·rintro a w ⟨hF,hS⟩
     refine n_sq ?_
     rcases bcase (t_12) with hc7 | hc7
     ·have hb2:=cond_f hc7 hb2
      refine q_cond_f hF rfl hc7 (q_skipc (n_ib (n_sq (q_region (q_x (v:=(iV (w64 (t_3 + 1)))) hF hS (ex_ibin rfl rfl rfl) rfl rfl fun a hF=>q_x (v:=(iV (w64 (t_3 + 1)))) hF hS (ex_move rfl) rfl rfl fun a hF=>q_end ?_)))))
      obtain rfl:=someI hb2
      exact ⟨rfl,hF.sub ⟨rfl,rfl,rfl,rfl,trivial⟩,hS⟩
     ·have hb2:=cond_t hc7 hb2
      refine q_cond_t hF rfl hc7 (q_seq (q_region (q_x (v:=(.bool false)) hF hS (ex_assign rfl) rfl rfl fun a hF=>q_end (n_sq (q_ret (r_ib (r_sq ?_)))))))
      obtain rfl:=someI hb2
      refine ⟨nofun,.inr fun ho=>?_⟩
      subst ho
      refine r_ib (r_sq ?_)
      obtain rfl:=someI hr
      exact ret_of hF hS rfl (.tmp rfl .nil) rfl
  ·rintro e a w ⟨rfl,rfl,hF,hS⟩
   refine x_ib (n_sq ?_)
   refine q_seq (q_region (q_x (v:=(.bool true)) hF hS (ex_assign rfl) rfl rfl fun a hF=>q_end (n_sq (q_ret ?_))))
   obtain rfl:=someI hr
   exact ret_of hF hS rfl (.tmp rfl .nil) rfl
 ·have hr:=cond_t hc1 hr
  refine q_cond_t hF rfl hc1 (q_seq (q_region (q_x (v:=(.bool false)) hF hS (ex_assign rfl) rfl rfl fun a hF=>q_end (n_sq (q_ret (r_sq ?_))))))
  obtain rfl:=someI hr
  exact ret_of hF hS rfl (.tmp rfl .nil) rfl

theorem c_spec_eFull (p_s : List impl_Variable) (p_v : Int) (r : Int) (hr : spec_eFull p_s p_v = some r) (w0 : World) (m : Mem) (hv : Vis m w0) (s1 : Sl) (h1 : Rd m s1 p_s) :
  Ret Tryd.prog 48 [s1.v,(iV p_v)] w0 (fun v _=>v = (iV r)):=by
 unfold spec_eFull at hr
 refine ret_start Tryd.func48 rfl 13 rfl rfl m hv fun a hF hS=>q_seq (q_region (q_x (v:=(iV 0)) hF hS (ex_assign rfl) rfl rfl fun a hF=>q_end (n_sq (q_seq (q_region (q_x (v:=s1.v) hF hS (ex_move rfl) rfl rfl fun a hF=>q_x (v:=(iV p_v)) hF hS (ex_move rfl) rfl rfl fun a hF=>?_))))))
 obtain ⟨e_2,he_2,hr⟩:=bindS hr
 obtain ⟨vs3,at3,d3⟩:=h1.at he_2 2 rfl
 obtain rfl : vs3 = [(strV e_2.Name),(iV e_2.Levels)]:=d3
 refine q_x (v:=(elP s1 (p_v.toNat * 2))) hF hS (ex_indexAddr Tryd.underlying24 sz63 rfl rfl (h1.idx he_2)) rfl rfl fun a hF=>q_x (v:=(elP s1 (p_v.toNat * 2 + 1))) hF hS (ex_fieldAddrE Tryd.underlying63 rfl sz3 rfl (h1.idx he_2) rfl) rfl rfl fun a hF=>q_x (v:=(iV e_2.Levels)) hF hS (ex_loadE1 1 Tryd.underlying3 rfl rfl ((at3).at) rfl rfl) rfl rfl fun a hF=>q_x (v:=(.int .u64 (IntKind.wrap .u64 e_2.Levels))) hF hS (ex_conv Tryd.underlying3 Tryd.underlying76 rfl) rfl rfl fun a hF=>?_
 obtain ⟨t_4,ht_4,hr⟩:=bindS hr
 refine q_x (v:=(iV t_4)) hF hS (ex_shl rfl rfl ht_4) rfl rfl fun a hF=>q_x (v:=(iV (w64 (t_4 - 1)))) hF hS (ex_ibin rfl rfl rfl) rfl rfl fun a hF=>q_x (v:=(iV (w64 (t_4 - 1)))) hF hS (ex_assign rfl) rfl rfl fun a hF=>q_end (n_sq (q_ret ?_))
 obtain rfl:=someI hr
 exact ret_of hF hS rfl (.tmp rfl .nil) rfl

theorem c_spec_l1Cur_one (p_c : spec_l1Cur) (p_n : Int) (r : Bool × spec_l1Cur) (hr : spec_l1Cur_one p_c p_n = some r) (w0 : World) (m : Mem) (b_p_c : Nat) (s1 : Sl) (h1 : Rd m s1 p_c.code) (X : List Nat) (hS : St X w0 w0 m [[⟨b_p_c,[s1.v,(iV p_c.at_),(.int .u64 p_c.seed.v)],53⟩]]) :
  RetX Tryd.prog 44 [(.pointer (some ⟨b_p_c,0,none⟩)),(iV p_n)] w0 (fun v w=>v = (.bool r.1)∧St X w0 w m [[⟨b_p_c,[s1.v,(iV r.2.at_),(.int .u64 r.2.seed.v)],53⟩]]∧r.2.code = p_c.code):=by
 unfold spec_l1Cur_one at hr
 refine ret_startX Tryd.func44 rfl 9 rfl rfl fun a hF=>q_seq (q_region (q_x (v:=(.bool false)) hF hS (ex_assign rfl) rfl rfl fun a hF=>q_end (n_sq (q_seq (q_region (q_x (v:=(.pointer (some ⟨b_p_c,0,none⟩))) hF hS (ex_move rfl) rfl rfl fun a hF=>q_x (v:=(iV p_n)) hF hS (ex_move rfl) rfl rfl fun a hF=>?_))))))
 have hS2 : St _ _ _ _ ([[⟨b_p_c,[s1.v,(iV p_c.at_),(.int .u64 p_c.seed.v)],53⟩]]++[]):=hS
 have hE2:=hS2.enter
 obtain ⟨t_3,ht_3,hr⟩:=bindS hr
 refine q_do rfl fun _ hK=>wp_callX (vs:=[(.pointer (some ⟨b_p_c,0,none⟩)),(iV p_n)]) hF Tryd.func50 (by kernel_rfl) rfl rfl rfl (c_spec_l1Cur_pick p_c p_n t_3 ht_3 _ m b_p_c s1 h1 _ hE2) fun a w _ hR hF=>hK _ _ ?_
 obtain ⟨rfl,hR2,hk4⟩:=hR
 have hS : St _ _ _ _ [[⟨b_p_c,[s1.v,(iV t_3.2.at_),(.int .u64 t_3.2.seed.v)],53⟩]]:=hS2.leaveF hR2
 have h4 : Rd m s1 t_3.2.code:=by rw [hk4]; exact h1
 refine q_x (v:=(.bool (t_3.1 == 0))) hF hS (ex_ibin rfl rfl rfl) rfl rfl fun a hF=>q_x (v:=(.bool (t_3.1 == 0))) hF hS (ex_assign rfl) rfl rfl fun a hF=>q_end (n_sq (q_ret ?_))
 obtain rfl:=someI hr
 exact ret_ofX hF hS rfl (.tmp rfl .nil) ⟨rfl,hS.sel [0] (by decide),hk4⟩

theorem c_spec_l1Cur_edit (p_c : spec_l1Cur) (p_s : List impl_Variable) (r : impl_Edit × spec_l1Cur) (hr : spec_l1Cur_edit p_c p_s = some r) (w0 : World) (m : Mem) (b_p_c : Nat) (s1 : Sl) (h1 : Rd m s1 p_c.code) (s2 : Sl) (h2 : Rd m s2 p_s) (X : List Nat) (hS : St X w0 w0 m [[⟨b_p_c,[s1.v,(iV p_c.at_),(.int .u64 p_c.seed.v)],53⟩]]) :
  RetX Tryd.prog 53 [(.pointer (some ⟨b_p_c,0,none⟩)),s2.v] w0 (fun v w=>∃ (q0' : Piece) (s0' : Sl),v = (.agg #[s0'.v])∧St X w0 w m [[⟨b_p_c,[s1.v,(iV r.2.at_),(.int .u64 r.2.seed.v)],53⟩],q0']∧OwnL m 3 q0' s0' r.1.Sets∧r.2.code = p_c.code):=by
 unfold spec_l1Cur_edit at hr
 refine ret_startX Tryd.func53 rfl 34 rfl rfl fun a hF=>q_seq (q_region (q_alloc (cs:=[nilS.v]) hF hS rfl rfl rfl fun a w b3 hF hS=>q_end (n_sq (q_seq (q_region (q_x (v:=(.agg #[nilS.v])) hF hS (ex_build (cells:=[nilS.v]) rfl (by kernel_rfl)) rfl rfl fun a hF=>q_alloc (cs:=[nilS.v]) hF hS rfl rfl rfl fun a w b4 hF hS=>q_store (vs:=[nilS.v]) (cs':=[nilS.v]) 0 0 hF hS sz27 rfl rfl rfl rfl rfl rfl rfl rfl fun a w hF hS=>q_end (n_sq (q_seq (q_seq (q_region (q_x (v:=s2.v) hF hS (ex_move rfl) rfl rfl fun a hF=>q_x (v:=(iV (goLen p_s))) hF hS (ex_len Tryd.underlying24 rfl h2.len) rfl rfl fun a hF=>q_x (v:=(iV 0)) hF hS (ex_move rfl) rfl rfl fun a hF=>q_end (n_sq (q_block ?_)))))))))))))
 obtain ⟨o1,hl1,hr⟩:=bindS hr
 refine q_loop (fun (s : Int × impl_Edit × spec_l1Cur) a w=>∃ (q7 : Piece),∃ (s7 : Sl),∃ t_5,∃ e_6,∃ p_c_8,s = (t_5,e_6,p_c_8)∧Fr a 34 [(0,(.pointer (some ⟨b_p_c,0,none⟩))),(1,s2.v),(4,(.pointer (some ⟨b3,0,none⟩))),(5,(.pointer (some ⟨b4,0,none⟩))),(11,(iV (goLen p_s))),(12,(iV t_5))]∧St X w0 w m [q7,[⟨b4,[s7.v],27⟩],[⟨b3,[nilS.v],27⟩],[⟨b_p_c,[s1.v,(iV p_c_8.at_),(.int .u64 p_c_8.seed.v)],53⟩]]∧OwnL m 3 q7 s7 e_6.Sets∧Rd m s1 p_c_8.code∧p_c_8.code = p_c.code) (fun (o : impl_Edit × spec_l1Cur) e a w=>∃ (q24 : Piece),∃ (s24 : Sl),∃ e_23,∃ p_c_25,o = (e_23,p_c_25)∧e = .exit 0∧Fr a 34 [(4,(.pointer (some ⟨b3,0,none⟩))),(5,(.pointer (some ⟨b4,0,none⟩)))]∧St X w0 w m [q24,[⟨b4,[s24.v],27⟩],[⟨b3,[nilS.v],27⟩],[⟨b_p_c,[s1.v,(iV p_c_25.at_),(.int .u64 p_c_25.seed.v)],53⟩]]∧OwnL m 3 q24 s24 e_23.Sets∧Rd m s1 p_c_25.code∧p_c_25.code = p_c.code) hl1 ⟨[],nilS,_,_,_,rfl,hF.sub ⟨rfl,rfl,rfl,rfl,rfl,rfl,trivial⟩,hS.sel [3,0,1,2] (by decide),(OwnL.nil (α:=Int) m 3),h1,rfl⟩ ?_ ?_
 ·clear hF hS
  rintro s a w st ⟨q7,s7,t_5,e_6,p_c_8,rfl,hF,hS,h7,h9,h9k⟩ hb1
  unfold spec_l1Cur_edit_l1 at hb1
  refine q_seq (q_region (q_x (v:=(.bool (decide (t_5 < (goLen p_s))))) hF hS (ex_ibin rfl rfl rfl) rfl rfl fun a hF=>q_end (n_sq (q_seq ?_))))
  rcases bcase (decide (t_5 < (goLen p_s))) with hc2 | hc2
  ·have hb1:=cond_f hc2 hb1
   refine q_cond_f hF rfl hc2 (q_exit (x_sq ?_))
   obtain rfl:=someI hb1
   exact ⟨nofun,.inl ⟨q7,s7,_,_,rfl,rfl,hF.sub ⟨rfl,rfl,trivial⟩,hS,h7,h9,h9k⟩⟩
  ·have hb1:=cond_t hc2 hb1
   refine q_cond_t hF rfl hc2 (q_skipc (n_sq (q_seq (q_block (q_seq (q_region (q_x (v:=(iV t_5)) hF hS (ex_move rfl) rfl rfl fun a hF=>q_x (v:=(iV t_5)) hF hS (ex_assign rfl) rfl rfl fun a hF=>q_end (n_sq (q_seq (q_region (q_x (v:=s2.v) hF hS (ex_move rfl) rfl rfl fun a hF=>q_x (v:=(iV t_5)) hF hS (ex_move rfl) rfl rfl fun a hF=>?_)))))))))))
   obtain ⟨t_10,ht_10,hb1⟩:=bindS hb1
   refine q_call (vs:=[s2.v,(iV t_5)]) hF hS Tryd.func48 (by kernel_rfl) rfl rfl rfl (c_spec_eFull p_s t_5 t_10 ht_10 _ m hS.vis s2 h2) ?_
   rintro a w _ rfl hF hS
   refine q_x (v:=(iV t_10)) hF hS (ex_assign rfl) rfl rfl fun a hF=>q_end (n_sq (q_seq (q_region (q_x (v:=(iV t_10)) hF hS (ex_move rfl) rfl rfl fun a hF=>q_x (v:=(iV t_10)) hF hS (ex_assign rfl) rfl rfl fun a hF=>q_end (n_sq (q_seq (q_seq (q_region (q_x (v:=(.pointer (some ⟨b_p_c,0,none⟩))) hF hS (ex_move rfl) rfl rfl fun a hF=>?_)))))))))
   have hS : St _ _ _ _ [[⟨b_p_c,[s1.v,(iV p_c_8.at_),(.int .u64 p_c_8.seed.v)],53⟩],q7,[⟨b4,[s7.v],27⟩],[⟨b3,[nilS.v],27⟩]]:=hS.sel [3,0,1,2] (by decide)
   have hS11 : St _ _ _ _ ([[⟨b_p_c,[s1.v,(iV p_c_8.at_),(.int .u64 p_c_8.seed.v)],53⟩]]++[q7,[⟨b4,[s7.v],27⟩],[⟨b3,[nilS.v],27⟩]]):=hS
   have hE11:=hS11.enter
   obtain ⟨t_12,ht_12,hb1⟩:=bindS hb1
   refine q_do rfl fun _ hK=>wp_callX (vs:=[(.pointer (some ⟨b_p_c,0,none⟩)),(iV 3)]) hF Tryd.func44 (by kernel_rfl) rfl rfl rfl (c_spec_l1Cur_one p_c_8 3 t_12 ht_12 _ m b_p_c s1 h9 _ hE11) fun a w _ hR hF=>hK _ _ ?_
   obtain ⟨rfl,hR11,hk13⟩:=hR
   have hS : St _ _ _ _ [[⟨b_p_c,[s1.v,(iV t_12.2.at_),(.int .u64 t_12.2.seed.v)],53⟩],q7,[⟨b4,[s7.v],27⟩],[⟨b3,[nilS.v],27⟩]]:=hS11.leaveF hR11
   have h13 : Rd m s1 t_12.2.code:=by rw [hk13]; exact h9
   refine q_x (v:=(.bool (!t_12.1))) hF hS (ex_not rfl) rfl rfl fun a hF=>q_end (n_sq ?_)
   obtain ⟨j3,hj3,hb1⟩:=bindS hb1
   refine q_join (fun a w=>∃ x_17,∃ p_c_18,j3 = (x_17,p_c_18)∧Fr a 34 [(0,(.pointer (some ⟨b_p_c,0,none⟩))),(1,s2.v),(4,(.pointer (some ⟨b3,0,none⟩))),(5,(.pointer (some ⟨b4,0,none⟩))),(8,(iV x_17)),(11,(iV (goLen p_s))),(12,(iV t_5))]∧St X w0 w m [q7,[⟨b_p_c,[s1.v,(iV p_c_18.at_),(.int .u64 p_c_18.seed.v)],53⟩],[⟨b4,[s7.v],27⟩],[⟨b3,[nilS.v],27⟩]]∧Rd m s1 p_c_18.code∧p_c_18.code = p_c.code) ?_ ?_
   ·rcases bcase (!t_12.1) with hc4 | hc4
    ·have hj3:=cond_f hc4 hj3
     refine q_cond_f hF rfl hc4 (q_skipc (n_jn ?_))
     obtain rfl:=someI hj3
     exact ⟨_,_,rfl,hF.sub ⟨rfl,rfl,rfl,rfl,rfl,rfl,rfl,trivial⟩,hS.sel [1,0,2,3] (by decide),h13,(hk13.trans h9k)⟩
    ·have hj3:=cond_t hc4 hj3
     refine q_cond_t hF rfl hc4 (q_region (q_x (v:=(.pointer (some ⟨b_p_c,0,none⟩))) hF hS (ex_move rfl) rfl rfl fun a hF=>q_x (v:=(iV t_10)) hF hS (ex_move rfl) rfl rfl fun a hF=>?_))
     have hS14 : St _ _ _ _ ([[⟨b_p_c,[s1.v,(iV t_12.2.at_),(.int .u64 t_12.2.seed.v)],53⟩]]++[q7,[⟨b4,[s7.v],27⟩],[⟨b3,[nilS.v],27⟩]]):=hS
     have hE14:=hS14.enter
     obtain ⟨t_15,ht_15,hj3⟩:=bindS hj3
     refine q_do rfl fun _ hK=>wp_callX (vs:=[(.pointer (some ⟨b_p_c,0,none⟩)),(iV t_10)]) hF Tryd.func50 (by kernel_rfl) rfl rfl rfl (c_spec_l1Cur_pick t_12.2 t_10 t_15 ht_15 _ m b_p_c s1 h13 _ hE14) fun a w _ hR hF=>hK _ _ ?_
     obtain ⟨rfl,hR14,hk16⟩:=hR
     have hS : St _ _ _ _ [[⟨b_p_c,[s1.v,(iV t_15.2.at_),(.int .u64 t_15.2.seed.v)],53⟩],q7,[⟨b4,[s7.v],27⟩],[⟨b3,[nilS.v],27⟩]]:=hS14.leaveF hR14
     have h16 : Rd m s1 t_15.2.code:=by rw [hk16]; exact h13
     refine q_x (v:=(iV (w64 (1 + t_15.1)))) hF hS (ex_ibin rfl rfl rfl) rfl rfl fun a hF=>q_x (v:=(iV (w64 (1 + t_15.1)))) hF hS (ex_assign rfl) rfl rfl fun a hF=>q_end (n_jn ?_)
     obtain rfl:=someI hj3
     exact ⟨_,_,rfl,hF.sub ⟨rfl,rfl,rfl,rfl,rfl,rfl,rfl,trivial⟩,hS.sel [1,0,2,3] (by decide),h16,(hk16.trans (hk13.trans h9k))⟩
   ·rintro a w ⟨x_17,p_c_18,rfl,hF,hS,h19,h19k⟩
    refine n_sq ?_
    refine q_region (q_x (v:=(.pointer (some ⟨b4,0,none⟩))) hF hS (ex_fieldAddr Tryd.underlying27 rfl sz25 rfl rfl) rfl rfl fun a hF=>q_x (v:=s7.v) hF hS (ex_load1 2 0 Tryd.underlying25 rfl rfl rfl rfl) rfl rfl fun a hF=>q_x (v:=(iV x_17)) hF hS (ex_move rfl) rfl rfl fun a hF=>q_do rfl fun _ hK=>wp_buildSlice' (l:=([x_17] : List Int)) (cells:=[(iV x_17)]) hF hS Tryd.underlying25 inf3 rfl rfl (by kernel_rfl) rfl rfl rfl ⟨rfl,rfl⟩ rfl rfl fun a w q20 s20 hF hS h20 _=>hK _ _ ?_)
    have hS : St _ _ _ _ [q7,q20,[⟨b_p_c,[s1.v,(iV p_c_18.at_),(.int .u64 p_c_18.seed.v)],53⟩],[⟨b4,[s7.v],27⟩],[⟨b3,[nilS.v],27⟩]]:=hS.sel [1,0,2,3,4] (by decide)
    obtain ⟨l_21,hl_21,hb1⟩:=bindS hb1
    refine q_do rfl fun _ hK=>wp_append hF hS h7 Tryd.underlying25 inf3 rfl rfl rfl rfl (h20.vw hS (j:=1) rfl) rfl (by decide) hl_21 rfl fun a w q22 s22 hF hS h22=>hK _ _ (q_x (v:=(.pointer (some ⟨b4,0,none⟩))) hF hS (ex_fieldAddr Tryd.underlying27 rfl sz25 rfl rfl) rfl rfl fun a hF=>q_store (vs:=[s22.v]) (cs':=[s22.v]) 3 0 hF hS sz25 rfl rfl rfl rfl rfl rfl rfl rfl fun a w hF hS=>q_end (n_ib (n_sq (q_region (q_x (v:=(iV (w64 (t_5 + 1)))) hF hS (ex_ibin rfl rfl rfl) rfl rfl fun a hF=>q_x (v:=(iV (w64 (t_5 + 1)))) hF hS (ex_move rfl) rfl rfl fun a hF=>q_end ?_)))))
    obtain rfl:=someI hb1
    exact ⟨rfl,q22,s22,_,_,_,rfl,hF.sub ⟨rfl,rfl,rfl,rfl,rfl,rfl,trivial⟩,hS.sel [0,3,4,2] (by decide),h22,h19,h19k⟩
 ·rintro e a w ⟨q24,s24,e_23,p_c_25,rfl,rfl,hF,hS,h24,h26,h26k⟩
  refine x_ib (n_sq ?_)
  refine q_seq (q_region (q_x (v:=(.agg #[s24.v])) hF hS (ex_loadA (vs:=[s24.v]) 1 0 Tryd.underlying27 rfl sz27 rfl rfl rfl rfl) rfl rfl fun a hF=>q_store (vs:=[s24.v]) (cs':=[s24.v]) 2 0 hF hS sz27 rfl rfl rfl rfl rfl rfl rfl rfl fun a w hF hS=>q_end (n_sq (q_ret ?_))))
  obtain rfl:=someI hr
  exact ret_ofX hF hS rfl (.cellA (us:=[s24.v]) 2 0 Tryd.underlying27 rfl sz27 rfl rfl rfl rfl .nil) ⟨q24,s24,rfl,hS.sel [3,0] (by decide),h24,h26k⟩

theorem c_spec_l1Cur_anyEdit (p_c : spec_l1Cur) (p_s : List impl_Variable) (r : impl_Edit × spec_l1Cur) (hr : spec_l1Cur_anyEdit p_c p_s = some r) (w0 : World) (m : Mem) (b_p_c : Nat) (s1 : Sl) (h1 : Rd m s1 p_c.code) (s2 : Sl) (h2 : Rd m s2 p_s) (X : List Nat) (hS : St X w0 w0 m [[⟨b_p_c,[s1.v,(iV p_c.at_),(.int .u64 p_c.seed.v)],53⟩]]) :
  RetX Tryd.prog 26 [(.pointer (some ⟨b_p_c,0,none⟩)),s2.v] w0 (fun v w=>∃ (q0' : Piece) (s0' : Sl),v = (.agg #[s0'.v])∧St X w0 w m [[⟨b_p_c,[s1.v,(iV r.2.at_),(.int .u64 r.2.seed.v)],53⟩],q0']∧OwnL m 3 q0' s0' r.1.Sets∧r.2.code = p_c.code):=by
 unfold spec_l1Cur_anyEdit at hr
 refine ret_startX Tryd.func26 rfl 37 rfl rfl fun a hF=>q_seq (q_region (q_alloc (cs:=[nilS.v]) hF hS rfl rfl rfl fun a w b3 hF hS=>q_end (n_sq (q_seq (q_seq (q_region (q_x (v:=s2.v) hF hS (ex_move rfl) rfl rfl fun a hF=>?_)))))))
 obtain ⟨t_4,ht_4,hr⟩:=bindS hr
 refine q_call (vs:=[s2.v]) hF hS Tryd.func45 (by kernel_rfl) rfl rfl rfl (c_spec_sGood p_s t_4 ht_4 _ m hS.vis s2 h2) ?_
 rintro a w _ rfl hF hS
 refine q_x (v:=(.bool (!t_4))) hF hS (ex_not rfl) rfl rfl fun a hF=>q_end (n_sq ?_)
 rcases bcase (!t_4) with hc1 | hc1
 ·have hr:=cond_f hc1 hr
  refine q_cond_f hF rfl hc1 (q_skipc (n_sq (q_seq (q_region (q_x (v:=(.pointer (some ⟨b_p_c,0,none⟩))) hF hS (ex_move rfl) rfl rfl fun a hF=>q_x (v:=s2.v) hF hS (ex_move rfl) rfl rfl fun a hF=>?_)))))
  have hS : St _ _ _ _ [[⟨b_p_c,[s1.v,(iV p_c.at_),(.int .u64 p_c.seed.v)],53⟩],[⟨b3,[nilS.v],27⟩]]:=hS.sel [1,0] (by decide)
  have hS5 : St _ _ _ _ ([[⟨b_p_c,[s1.v,(iV p_c.at_),(.int .u64 p_c.seed.v)],53⟩]]++[[⟨b3,[nilS.v],27⟩]]):=hS
  have hE5:=hS5.enter
  obtain ⟨t_6,ht_6,hr⟩:=bindS hr
  refine q_do rfl fun _ hK=>wp_callX (vs:=[(.pointer (some ⟨b_p_c,0,none⟩)),s2.v]) hF Tryd.func53 (by kernel_rfl) rfl rfl rfl (c_spec_l1Cur_edit p_c p_s t_6 ht_6 _ m b_p_c s1 h1 s2 h2 _ hE5) fun a w _ hR hF=>hK _ _ ?_
  obtain ⟨q7,s7,rfl,hR5,h7,hk8⟩:=hR
  have hS : St _ _ _ _ [[⟨b_p_c,[s1.v,(iV t_6.2.at_),(.int .u64 t_6.2.seed.v)],53⟩],q7,[⟨b3,[nilS.v],27⟩]]:=hS5.leaveF hR5
  have h8 : Rd m s1 t_6.2.code:=by rw [hk8]; exact h1
  refine q_alloc (cs:=[nilS.v]) hF hS rfl rfl rfl fun a w b9 hF hS=>q_store (vs:=[s7.v]) (cs':=[s7.v]) 0 0 hF hS sz27 rfl rfl rfl rfl rfl rfl rfl rfl fun a w hF hS=>q_end (n_sq (q_seq (q_seq (q_region (q_x (v:=(.pointer (some ⟨b_p_c,0,none⟩))) hF hS (ex_move rfl) rfl rfl fun a hF=>?_)))))
  have hS : St _ _ _ _ [[⟨b_p_c,[s1.v,(iV t_6.2.at_),(.int .u64 t_6.2.seed.v)],53⟩],[⟨b9,[s7.v],27⟩],q7,[⟨b3,[nilS.v],27⟩]]:=hS.sel [1,0,2,3] (by decide)
  have hS10 : St _ _ _ _ ([[⟨b_p_c,[s1.v,(iV t_6.2.at_),(.int .u64 t_6.2.seed.v)],53⟩]]++[[⟨b9,[s7.v],27⟩],q7,[⟨b3,[nilS.v],27⟩]]):=hS
  have hE10:=hS10.enter
  obtain ⟨t_11,ht_11,hr⟩:=bindS hr
  refine q_do rfl fun _ hK=>wp_callX (vs:=[(.pointer (some ⟨b_p_c,0,none⟩)),(iV 24)]) hF Tryd.func50 (by kernel_rfl) rfl rfl rfl (c_spec_l1Cur_pick t_6.2 24 t_11 ht_11 _ m b_p_c s1 h8 _ hE10) fun a w _ hR hF=>hK _ _ ?_
  obtain ⟨rfl,hR10,hk12⟩:=hR
  have hS : St _ _ _ _ [[⟨b_p_c,[s1.v,(iV t_11.2.at_),(.int .u64 t_11.2.seed.v)],53⟩],[⟨b9,[s7.v],27⟩],q7,[⟨b3,[nilS.v],27⟩]]:=hS10.leaveF hR10
  have h12 : Rd m s1 t_11.2.code:=by rw [hk12]; exact h8
  refine q_end (n_sq (q_block (q_seq (q_region (q_x (v:=(.bool (t_11.1 == 0))) hF hS (ex_ibin rfl rfl rfl) rfl rfl fun a hF=>q_x (v:=(.bool (t_11.1 == 0))) hF hS (ex_assign rfl) rfl rfl fun a hF=>q_end (n_sq ?_))))))
  obtain ⟨j2,hj2,hr⟩:=bindS hr
  refine q_join (fun a w=>∃ (q42 : Piece),∃ (s42 : Sl),∃ p_c_39,∃ e_41,j2 = (p_c_39,e_41)∧Fr a 37 [(4,(.pointer (some ⟨b3,0,none⟩))),(5,(.pointer (some ⟨b9,0,none⟩)))]∧St X w0 w m [q42,[⟨b_p_c,[s1.v,(iV p_c_39.at_),(.int .u64 p_c_39.seed.v)],53⟩],[⟨b9,[s42.v],27⟩],[⟨b3,[nilS.v],27⟩]]∧Rd m s1 p_c_39.code∧p_c_39.code = p_c.code∧OwnL m 3 q42 s42 e_41.Sets) ?_ ?_
  ·rcases bcase (t_11.1 == 0) with hc3 | hc3
   ·have hj2:=cond_f hc3 hj2
    refine q_cond_f hF rfl hc3 (q_seq (q_region (q_x (v:=(.bool (t_11.1 == 1))) hF hS (ex_ibin rfl rfl rfl) rfl rfl fun a hF=>q_x (v:=(.bool (t_11.1 == 1))) hF hS (ex_assign rfl) rfl rfl fun a hF=>q_end (n_sq ?_))))
    obtain ⟨e_16,hj4,hj2⟩:=bindS hj2
    refine q_join (fun a w=>∃ (q17 : Piece),∃ (s17 : Sl),Fr a 37 [(4,(.pointer (some ⟨b3,0,none⟩))),(5,(.pointer (some ⟨b9,0,none⟩)))]∧St X w0 w m [q17,[⟨b_p_c,[s1.v,(iV t_11.2.at_),(.int .u64 t_11.2.seed.v)],53⟩],[⟨b9,[s17.v],27⟩],[⟨b3,[nilS.v],27⟩]]∧OwnL m 3 q17 s17 e_16.Sets) ?_ ?_
    ·rcases bcase (t_11.1 == 1) with hc5 | hc5
     ·have hj4:=cond_f hc5 hj4
      refine q_cond_f hF rfl hc5 (q_skipc (n_jn ?_))
      obtain rfl:=someI hj4
      exact ⟨q7,s7,hF.sub ⟨rfl,rfl,trivial⟩,hS.sel [2,0,1,3] (by decide),h7⟩
     ·have hj4:=cond_t hc5 hj4
      refine q_cond_t hF rfl hc5 (q_region (q_x (v:=(.pointer (some ⟨b9,0,none⟩))) hF hS (ex_fieldAddr Tryd.underlying27 rfl sz25 rfl rfl) rfl rfl fun a hF=>q_x (v:=s7.v) hF hS (ex_load1 1 0 Tryd.underlying25 rfl rfl rfl rfl) rfl rfl fun a hF=>q_do rfl fun _ hK=>wp_buildSlice' (l:=([1] : List Int)) (cells:=[(iV 1)]) hF hS Tryd.underlying25 inf3 rfl rfl (by kernel_rfl) rfl rfl rfl ⟨rfl,rfl⟩ rfl rfl fun a w q13 s13 hF hS h13 _=>hK _ _ ?_))
      have hS : St _ _ _ _ [q7,q13,[⟨b_p_c,[s1.v,(iV t_11.2.at_),(.int .u64 t_11.2.seed.v)],53⟩],[⟨b9,[s7.v],27⟩],[⟨b3,[nilS.v],27⟩]]:=hS.sel [3,0,1,2,4] (by decide)
      obtain ⟨l_14,hl_14,hj4⟩:=bindS hj4
      refine q_do rfl fun _ hK=>wp_append hF hS h7 Tryd.underlying25 inf3 rfl rfl rfl rfl (h13.vw hS (j:=1) rfl) rfl (by decide) hl_14 rfl fun a w q15 s15 hF hS h15=>hK _ _ (q_x (v:=(.pointer (some ⟨b9,0,none⟩))) hF hS (ex_fieldAddr Tryd.underlying27 rfl sz25 rfl rfl) rfl rfl fun a hF=>q_store (vs:=[s15.v]) (cs':=[s15.v]) 3 0 hF hS sz25 rfl rfl rfl rfl rfl rfl rfl rfl fun a w hF hS=>q_end (n_jn ?_))
      obtain rfl:=someI hj4
      exact ⟨q15,s15,hF.sub ⟨rfl,rfl,trivial⟩,hS.mask [true,false,true,true,true],h15⟩
    ·rintro a w ⟨q17,s17,hF,hS,h17⟩
     refine n_jn ?_
     obtain rfl:=someI hj2
     exact ⟨q17,s17,_,_,rfl,hF.sub ⟨rfl,rfl,trivial⟩,hS,h12,(hk12.trans hk8),h17⟩
   ·have hj2:=cond_t hc3 hj2
    refine q_cond_t hF rfl hc3 ?_
    obtain ⟨j6,hj6,hj2⟩:=bindS hj2
    refine q_join (fun a w=>∃ (q38 : Piece),∃ p_c_35,∃ e_37,j6 = (p_c_35,e_37)∧Fr a 37 [(4,(.pointer (some ⟨b3,0,none⟩))),(5,(.pointer (some ⟨b9,0,none⟩)))]∧St X w0 w m [q38,[⟨b_p_c,[s1.v,(iV p_c_35.at_),(.int .u64 p_c_35.seed.v)],53⟩],[⟨b9,[s7.v],27⟩],[⟨b3,[nilS.v],27⟩]]∧Rd m s1 p_c_35.code∧p_c_35.code = p_c.code∧OwnL m 3 q38 s7 e_37.Sets) ?_ ?_
    ·refine e_region ⟨[6,9,11],[b9]⟩ mixed fun w' hw'=>?_
     have hS:=hS.below hw'
     refine e_p (v:=(.pointer (some ⟨b9,0,none⟩))) 0 hF rfl (ex_fieldAddr Tryd.underlying27 rfl sz25 rfl rfl) rfl rfl (by kernel_rfl) (by kernel_rfl) (by kernel_rfl) fun a hF=>e_xb (v:=s7.v) 1 1 hF hS (.head _) rfl rfl (ex_load1 0 0 Tryd.underlying25 rfl rfl rfl rfl) rfl rfl (by kernel_rfl) (by kernel_rfl) (by kernel_rfl) fun a hF=>e_p (v:=(.pointer (some ⟨b_p_c,0,none⟩))) 2 hF rfl (ex_move rfl) rfl rfl (by kernel_rfl) (by kernel_rfl) (by kernel_rfl) fun a hF=>e_p (v:=(.pointer (some ⟨b9,0,none⟩))) 3 hF rfl (ex_fieldAddr Tryd.underlying27 rfl sz25 rfl rfl) rfl rfl (by kernel_rfl) (by kernel_rfl) (by kernel_rfl) fun a hF=>e_xb (v:=s7.v) 4 1 hF hS (.head _) rfl rfl (ex_load1 0 0 Tryd.underlying25 rfl rfl rfl rfl) rfl rfl (by kernel_rfl) (by kernel_rfl) (by kernel_rfl) fun a hF=>e_p (v:=(iV (goLen t_6.1.Sets))) 5 hF rfl (ex_len Tryd.underlying25 rfl h7.len) rfl rfl (by kernel_rfl) (by kernel_rfl) (by kernel_rfl) fun a hF=>e_p (v:=(.pointer (some ⟨b_p_c,0,none⟩))) 7 hF rfl (ex_move rfl) rfl rfl (by kernel_rfl) (by kernel_rfl) (by kernel_rfl) fun a hF=>?_
     obtain ⟨t_26,ht_26,hj6⟩:=bindS hj6
     obtain ⟨t_30,ht_30,hj6⟩:=bindS hj6
     obtain ⟨e_32,he_32,hj6⟩:=bindS hj6
     refine e_all [6,8] (by kernel_rfl) rfl ⟨?_,?_,trivial⟩
     ·have hS25 : St _ _ _ _ ([[⟨b_p_c,[s1.v,(iV t_11.2.at_),(.int .u64 t_11.2.seed.v)],53⟩]]++[[⟨b9,[s7.v],27⟩],q7,[⟨b3,[nilS.v],27⟩]]):=hS
      have hE25:=hS25.enter
      have hSo:=hS
      refine e_opl rfl rfl rfl fun _ hK=>wp_callX (vs:=[(.pointer (some ⟨b_p_c,0,none⟩)),(iV (goLen t_6.1.Sets))]) hF Tryd.func50 (by kernel_rfl) rfl rfl rfl (c_spec_l1Cur_pick t_11.2 (goLen t_6.1.Sets) t_26 ht_26 _ m b_p_c s1 h12 _ hE25) fun a w _ hR hF=>hK _ _ ?_
      obtain ⟨rfl,hR25,hk27⟩:=hR
      have hS : St _ _ _ _ [[⟨b_p_c,[s1.v,(iV t_26.2.at_),(.int .u64 t_26.2.seed.v)],53⟩],[⟨b9,[s7.v],27⟩],q7,[⟨b3,[nilS.v],27⟩]]:=hS25.leaveF hR25
      have h27 : Rd m s1 t_26.2.code:=by rw [hk27]; exact h12
      refine ⟨kpC hSo hS 1 1 rfl rfl kpN,?_⟩
      refine e_one 8 (by kernel_rfl) (e_op rfl rfl fun _ hK=>wp_buildSlice' (l:=([0,-1,256,4] : List Int)) (cells:=[(iV 0),(iV (-1)),(iV 256),(iV 4)]) hF hS Tryd.underlying25 inf3 rfl rfl (by kernel_rfl) rfl rfl rfl ⟨rfl,rfl,rfl,rfl,rfl⟩ rfl rfl fun a w q28 s28 hF hS h28 hb=>hK _ _ hb (e_one 9 (by kernel_rfl) ?_))
      have hS : St _ _ _ _ [[⟨b_p_c,[s1.v,(iV t_26.2.at_),(.int .u64 t_26.2.seed.v)],53⟩],q28,[⟨b9,[s7.v],27⟩],q7,[⟨b3,[nilS.v],27⟩]]:=hS.sel [1,0,2,3,4] (by decide)
      have hS29 : St _ _ _ _ ([[⟨b_p_c,[s1.v,(iV t_26.2.at_),(.int .u64 t_26.2.seed.v)],53⟩]]++[q28,[⟨b9,[s7.v],27⟩],q7,[⟨b3,[nilS.v],27⟩]]):=hS
      obtain ⟨m29,hl29,hE29,hz29⟩:=hS29.lendX
      have hSo:=hS
      refine e_opl rfl rfl rfl fun _ hK=>wp_callX (vs:=[(.pointer (some ⟨b_p_c,0,none⟩)),s28.v]) hF Tryd.func51 (by kernel_rfl) rfl rfl rfl (c_spec_l1Cur_among t_26.2 ([0,-1,256,4] : List Int) t_30 ht_30 _ m29 b_p_c s1 (h27.mono hl29) s28 (h28.froz hl29 (hz29 0 _ rfl)) _ hE29) fun a w _ hR hF=>hK _ _ ?_
      obtain ⟨rfl,hR29,hk31⟩:=hR
      have hS : St _ _ _ _ [[⟨b_p_c,[s1.v,(iV t_30.2.at_),(.int .u64 t_30.2.seed.v)],53⟩],q28,[⟨b9,[s7.v],27⟩],q7,[⟨b3,[nilS.v],27⟩]]:=hS29.leaveF hR29
      have h31 : Rd m s1 t_30.2.code:=by rw [hk31]; exact h27
      refine ⟨kpC hSo hS 2 2 rfl rfl kpN,?_⟩
      obtain ⟨vs33,at33,d33⟩:=h7.at he_32 1 rfl
      obtain rfl : vs33 = [(iV e_32)]:=d33
      refine e_p (v:=(elP s7 (t_26.1.toNat * 1))) 10 hF rfl (ex_indexAddr Tryd.underlying25 sz3 rfl rfl (h7.idx he_32)) rfl rfl (by kernel_rfl) (by kernel_rfl) (by kernel_rfl) fun a hF=>e_one 11 (by kernel_rfl) ?_
      have hS : St _ _ _ _ [q7,[⟨b_p_c,[s1.v,(iV t_30.2.at_),(.int .u64 t_30.2.seed.v)],53⟩],q28,[⟨b9,[s7.v],27⟩],[⟨b3,[nilS.v],27⟩]]:=hS.sel [3,0,1,2,4] (by decide)
      have hSo:=hS
      refine e_opl rfl rfl rfl fun _ hK=>wp_storeE (e':=t_30.1) (us:=[(iV t_30.1)]) (vs:=[(iV e_32)]) 0 hF hS h7 sz3 rfl rfl rfl rfl rfl rfl rfl he_32 at33 rfl rfl rfl fun w q34 hS h34=>hK _ _ (⟨kpC hSo hS 3 3 rfl rfl kpN,?_⟩)
      refine e_end (by kernel_rfl) (n_jn ?_) _
      obtain rfl:=someI hj6
      exact ⟨q34,_,_,rfl,hF.sub ⟨rfl,rfl,trivial⟩,hS.mask [true,true,false,true,true],h31,(hk31.trans (hk27.trans (hk12.trans hk8))),h34⟩
     ·refine e_op rfl rfl fun _ hK=>wp_buildSlice' (l:=([0,-1,256,4] : List Int)) (cells:=[(iV 0),(iV (-1)),(iV 256),(iV 4)]) hF hS Tryd.underlying25 inf3 rfl rfl (by kernel_rfl) rfl rfl rfl ⟨rfl,rfl,rfl,rfl,rfl⟩ rfl rfl fun a w q28 s28 hF hS h28 hb=>hK _ _ hb (e_one 6 (by kernel_rfl) ?_)
      have hS : St _ _ _ _ [[⟨b_p_c,[s1.v,(iV t_11.2.at_),(.int .u64 t_11.2.seed.v)],53⟩],q28,[⟨b9,[s7.v],27⟩],q7,[⟨b3,[nilS.v],27⟩]]:=hS.sel [1,0,2,3,4] (by decide)
      have hS25 : St _ _ _ _ ([[⟨b_p_c,[s1.v,(iV t_11.2.at_),(.int .u64 t_11.2.seed.v)],53⟩]]++[q28,[⟨b9,[s7.v],27⟩],q7,[⟨b3,[nilS.v],27⟩]]):=hS
      have hE25:=hS25.enter
      have hSo:=hS
      refine e_opl rfl rfl rfl fun _ hK=>wp_callX (vs:=[(.pointer (some ⟨b_p_c,0,none⟩)),(iV (goLen t_6.1.Sets))]) hF Tryd.func50 (by kernel_rfl) rfl rfl rfl (c_spec_l1Cur_pick t_11.2 (goLen t_6.1.Sets) t_26 ht_26 _ m b_p_c s1 h12 _ hE25) fun a w _ hR hF=>hK _ _ ?_
      obtain ⟨rfl,hR25,hk27⟩:=hR
      have hS : St _ _ _ _ [[⟨b_p_c,[s1.v,(iV t_26.2.at_),(.int .u64 t_26.2.seed.v)],53⟩],q28,[⟨b9,[s7.v],27⟩],q7,[⟨b3,[nilS.v],27⟩]]:=hS25.leaveF hR25
      have h27 : Rd m s1 t_26.2.code:=by rw [hk27]; exact h12
      refine ⟨kpC hSo hS 2 2 rfl rfl kpN,?_⟩
      refine e_one 9 (by kernel_rfl) ?_
      have hS29 : St _ _ _ _ ([[⟨b_p_c,[s1.v,(iV t_26.2.at_),(.int .u64 t_26.2.seed.v)],53⟩]]++[q28,[⟨b9,[s7.v],27⟩],q7,[⟨b3,[nilS.v],27⟩]]):=hS
      obtain ⟨m29,hl29,hE29,hz29⟩:=hS29.lendX
      have hSo:=hS
      refine e_opl rfl rfl rfl fun _ hK=>wp_callX (vs:=[(.pointer (some ⟨b_p_c,0,none⟩)),s28.v]) hF Tryd.func51 (by kernel_rfl) rfl rfl rfl (c_spec_l1Cur_among t_26.2 ([0,-1,256,4] : List Int) t_30 ht_30 _ m29 b_p_c s1 (h27.mono hl29) s28 (h28.froz hl29 (hz29 0 _ rfl)) _ hE29) fun a w _ hR hF=>hK _ _ ?_
      obtain ⟨rfl,hR29,hk31⟩:=hR
      have hS : St _ _ _ _ [[⟨b_p_c,[s1.v,(iV t_30.2.at_),(.int .u64 t_30.2.seed.v)],53⟩],q28,[⟨b9,[s7.v],27⟩],q7,[⟨b3,[nilS.v],27⟩]]:=hS29.leaveF hR29
      have h31 : Rd m s1 t_30.2.code:=by rw [hk31]; exact h27
      refine ⟨kpC hSo hS 2 2 rfl rfl kpN,?_⟩
      obtain ⟨vs33,at33,d33⟩:=h7.at he_32 1 rfl
      obtain rfl : vs33 = [(iV e_32)]:=d33
      refine e_p (v:=(elP s7 (t_26.1.toNat * 1))) 10 hF rfl (ex_indexAddr Tryd.underlying25 sz3 rfl rfl (h7.idx he_32)) rfl rfl (by kernel_rfl) (by kernel_rfl) (by kernel_rfl) fun a hF=>e_one 11 (by kernel_rfl) ?_
      have hS : St _ _ _ _ [q7,[⟨b_p_c,[s1.v,(iV t_30.2.at_),(.int .u64 t_30.2.seed.v)],53⟩],q28,[⟨b9,[s7.v],27⟩],[⟨b3,[nilS.v],27⟩]]:=hS.sel [3,0,1,2,4] (by decide)
      have hSo:=hS
      refine e_opl rfl rfl rfl fun _ hK=>wp_storeE (e':=t_30.1) (us:=[(iV t_30.1)]) (vs:=[(iV e_32)]) 0 hF hS h7 sz3 rfl rfl rfl rfl rfl rfl rfl he_32 at33 rfl rfl rfl fun w q34 hS h34=>hK _ _ (⟨kpC hSo hS 3 3 rfl rfl kpN,?_⟩)
      refine e_end (by kernel_rfl) (n_jn ?_) _
      obtain rfl:=someI hj6
      exact ⟨q34,_,_,rfl,hF.sub ⟨rfl,rfl,trivial⟩,hS.mask [true,true,false,true,true],h31,(hk31.trans (hk27.trans (hk12.trans hk8))),h34⟩
    ·rintro a w ⟨q38,p_c_35,e_37,rfl,hF,hS,h36,h36k,h38⟩
     refine n_jn ?_
     obtain rfl:=someI hj2
     exact ⟨q38,s7,_,_,rfl,hF.sub ⟨rfl,rfl,trivial⟩,hS,h36,h36k,h38⟩
  ·rintro a w ⟨q42,s42,p_c_39,e_41,rfl,hF,hS,h40,h40k,h42⟩
   refine n_ib (n_sq ?_)
   refine q_seq (q_region (q_x (v:=(.agg #[s42.v])) hF hS (ex_loadA (vs:=[s42.v]) 2 0 Tryd.underlying27 rfl sz27 rfl rfl rfl rfl) rfl rfl fun a hF=>q_store (vs:=[s42.v]) (cs':=[s42.v]) 3 0 hF hS sz27 rfl rfl rfl rfl rfl rfl rfl rfl fun a w hF hS=>q_end (n_sq (q_ret ?_))))
   obtain rfl:=someI hr
   exact ret_ofX hF hS rfl (.cellA (us:=[s42.v]) 3 0 Tryd.underlying27 rfl sz27 rfl rfl rfl rfl .nil) ⟨q42,s42,rfl,hS.sel [1,0] (by decide),h42,h40k⟩
 ·have hr:=cond_t hc1 hr
  refine q_cond_t hF rfl hc1 (q_seq (q_region (q_do rfl fun _ hK=>wp_buildSlice' (l:=([1] : List Int)) (cells:=[(iV 1)]) hF hS Tryd.underlying25 inf3 rfl rfl (by kernel_rfl) rfl rfl rfl ⟨rfl,rfl⟩ rfl rfl fun a w q43 s43 hF hS h43 _=>hK _ _ (q_x (v:=(.agg #[s43.v])) hF hS (ex_build (cells:=[s43.v]) rfl (by kernel_rfl)) rfl rfl fun a hF=>q_store (vs:=[s43.v]) (cs':=[s43.v]) 1 0 hF hS sz27 rfl rfl rfl rfl rfl rfl rfl rfl fun a w hF hS=>q_end (n_sq (q_ret (r_sq ?_)))))))
  obtain rfl:=someI hr
  exact ret_ofX hF hS rfl (.cellA (us:=[s43.v]) 1 0 Tryd.underlying27 rfl sz27 rfl rfl rfl rfl .nil) ⟨q43,s43,rfl,hS.sel [2,0] (by decide),h43,rfl⟩

theorem c_spec_eGood (p_s : List impl_Variable) (p_e : impl_Edit) (r : Bool) (hr : spec_eGood p_s p_e = some r) (w0 : World) (m : Mem) (hv : Vis m w0) (s1 : Sl) (h1 : Rd m s1 p_s) (s2 : Sl) (h2 : Rd m s2 p_e.Sets) :
  Ret Tryd.prog 24 [s1.v,(.agg #[s2.v])] w0 (fun v _=>v = (.bool r)):=by
 unfold spec_eGood at hr
 refine ret_start Tryd.func24 rfl 28 rfl rfl m hv fun a hF hS=>q_seq (q_region (q_box (cs:=[s2.v]) hF hS rfl rfl rfl fun a w b3 hF hS=>q_x (v:=(.bool false)) hF hS (ex_assign rfl) rfl rfl fun a hF=>q_end (n_sq (q_seq (q_seq (q_region (q_x (v:=(.pointer (some ⟨b3,0,none⟩))) hF hS (ex_fieldAddr Tryd.underlying27 rfl sz25 rfl rfl) rfl rfl fun a hF=>q_x (v:=s2.v) hF hS (ex_load1 0 0 Tryd.underlying25 rfl rfl rfl rfl) rfl rfl fun a hF=>q_x (v:=(iV (goLen p_e.Sets))) hF hS (ex_len Tryd.underlying25 rfl h2.len) rfl rfl fun a hF=>q_x (v:=s1.v) hF hS (ex_move rfl) rfl rfl fun a hF=>q_x (v:=(iV (goLen p_s))) hF hS (ex_len Tryd.underlying24 rfl h1.len) rfl rfl fun a hF=>q_x (v:=(.bool ((goLen p_e.Sets) != (goLen p_s)))) hF hS (ex_ibin rfl rfl rfl) rfl rfl fun a hF=>q_end (n_sq ?_))))))))
 rcases bcase ((goLen p_e.Sets) != (goLen p_s)) with hc1 | hc1
 ·have hr:=cond_f hc1 hr
  refine q_cond_f hF rfl hc1 (q_skipc (n_sq (q_seq (q_seq (q_region (q_x (v:=(.pointer (some ⟨b3,0,none⟩))) hF hS (ex_fieldAddr Tryd.underlying27 rfl sz25 rfl rfl) rfl rfl fun a hF=>q_x (v:=s2.v) hF hS (ex_load1 0 0 Tryd.underlying25 rfl rfl rfl rfl) rfl rfl fun a hF=>q_x (v:=(iV (goLen p_e.Sets))) hF hS (ex_len Tryd.underlying25 rfl h2.len) rfl rfl fun a hF=>q_x (v:=(iV 0)) hF hS (ex_move rfl) rfl rfl fun a hF=>q_end (n_sq (q_block ?_))))))))
  obtain ⟨o2,hl2,hr⟩:=bindS hr
  refine q_loop (fun (t_4 : Int) a w=>Fr a 28 [(0,s1.v),(14,s2.v),(15,(iV (goLen p_e.Sets))),(16,(iV t_4))]∧St [] w0 w m []) (fun (o : (Unit) ⊕ (Bool)) e a w=>o = .inl ()∧e = .exit 0∧Fr a 28 []∧St [] w0 w m []) hl2 ⟨hF.sub ⟨rfl,rfl,rfl,rfl,trivial⟩,hS.mask [false]⟩ ?_ ?_
  ·clear hF hS
   rintro t_4 a w st ⟨hF,hS⟩ hb2
   unfold spec_eGood_l1 at hb2
   refine q_seq (q_region (q_x (v:=(.bool (decide (t_4 < (goLen p_e.Sets))))) hF hS (ex_ibin rfl rfl rfl) rfl rfl fun a hF=>q_end (n_sq (q_seq ?_))))
   rcases bcase (decide (t_4 < (goLen p_e.Sets))) with hc3 | hc3
   ·have hb2:=cond_f hc3 hb2
    refine q_cond_f hF rfl hc3 (q_exit (x_sq ?_))
    obtain rfl:=someI hb2
    exact ⟨nofun,.inl ⟨rfl,rfl,hF.sub trivial,hS⟩⟩
   ·have hb2:=cond_t hc3 hb2
    refine q_cond_t hF rfl hc3 (q_skipc (n_sq (q_seq (q_block (q_seq (q_region (q_x (v:=(iV t_4)) hF hS (ex_move rfl) rfl rfl fun a hF=>?_)))))))
    obtain ⟨e_5,he_5,hb2⟩:=bindS hb2
    obtain ⟨vs6,at6,d6⟩:=h2.at he_5 1 rfl
    obtain rfl : vs6 = [(iV e_5)]:=d6
    refine q_x (v:=(elP s2 (t_4.toNat * 1))) hF hS (ex_indexAddr Tryd.underlying25 sz3 rfl rfl (h2.idx he_5)) rfl rfl fun a hF=>q_x (v:=(iV e_5)) hF hS (ex_loadE1 0 Tryd.underlying3 rfl rfl ((at6).at) rfl rfl) rfl rfl fun a hF=>q_x (v:=(iV t_4)) hF hS (ex_assign rfl) rfl rfl fun a hF=>q_x (v:=(iV e_5)) hF hS (ex_assign rfl) rfl rfl fun a hF=>q_end (n_sq (q_seq (q_region (q_x (v:=(iV e_5)) hF hS (ex_move rfl) rfl rfl fun a hF=>q_x (v:=s1.v) hF hS (ex_move rfl) rfl rfl fun a hF=>q_x (v:=(iV t_4)) hF hS (ex_move rfl) rfl rfl fun a hF=>?_))))
    obtain ⟨t_7,ht_7,hb2⟩:=bindS hb2
    refine q_call (vs:=[s1.v,(iV t_4)]) hF hS Tryd.func48 (by kernel_rfl) rfl rfl rfl (c_spec_eFull p_s t_4 t_7 ht_7 _ m hS.vis s1 h1) ?_
    rintro a w _ rfl hF hS
    obtain ⟨t_8,ht_8,hb2⟩:=bindS hb2
    refine q_call (vs:=[(iV e_5),(iV 1),(iV t_7)]) hF hS Tryd.func47 (by kernel_rfl) rfl rfl rfl (c_spec_l1In e_5 1 t_7 t_8 ht_8 _ m hS.vis) ?_
    rintro a w _ rfl hF hS
    refine q_x (v:=(.bool (!t_8))) hF hS (ex_not rfl) rfl rfl fun a hF=>q_end (n_sq ?_)
    rcases bcase (!t_8) with hc4 | hc4
    ·have hb2:=cond_f hc4 hb2
     refine q_cond_f hF rfl hc4 (q_skipc (n_ib (n_sq (q_region (q_x (v:=(iV (w64 (t_4 + 1)))) hF hS (ex_ibin rfl rfl rfl) rfl rfl fun a hF=>q_x (v:=(iV (w64 (t_4 + 1)))) hF hS (ex_move rfl) rfl rfl fun a hF=>q_end ?_)))))
     obtain rfl:=someI hb2
     exact ⟨rfl,hF.sub ⟨rfl,rfl,rfl,rfl,trivial⟩,hS⟩
    ·have hb2:=cond_t hc4 hb2
     refine q_cond_t hF rfl hc4 (q_seq (q_region (q_x (v:=(.bool false)) hF hS (ex_assign rfl) rfl rfl fun a hF=>q_end (n_sq (q_ret (r_ib (r_sq ?_)))))))
     obtain rfl:=someI hb2
     refine ⟨nofun,.inr fun ho=>?_⟩
     subst ho
     refine r_ib (r_sq ?_)
     obtain rfl:=someI hr
     exact ret_of hF hS rfl (.tmp rfl .nil) rfl
  ·rintro e a w ⟨rfl,rfl,hF,hS⟩
   refine x_ib (n_sq ?_)
   refine q_seq (q_region (q_x (v:=(.bool true)) hF hS (ex_assign rfl) rfl rfl fun a hF=>q_end (n_sq (q_ret ?_))))
   obtain rfl:=someI hr
   exact ret_of hF hS rfl (.tmp rfl .nil) rfl
 ·have hr:=cond_t hc1 hr
  refine q_cond_t hF rfl hc1 (q_seq (q_region (q_x (v:=(.bool false)) hF hS (ex_assign rfl) rfl rfl fun a hF=>q_end (n_sq (q_ret (r_sq ?_))))))
  obtain rfl:=someI hr
  exact ret_of hF hS rfl (.tmp rfl .nil) rfl

theorem c_spec_DrawContainsEdit (p_code : List (K .u8)) (r : (List impl_Variable) × impl_Edit × impl_Edit) (hr : spec_DrawContainsEdit p_code = some r) (w0 : World) (m : Mem) (hv : Vis m w0) (s1 : Sl) (h1 : Rd m s1 p_code) :
  Ret Tryd.prog 19 [s1.v] w0 (fun v w=>∃ (q0' : Piece) (q1' : Piece) (q2' : Piece) (s0' : Sl) (s1' : Sl) (s2' : Sl),v = (.tuple #[s0'.v,(.agg #[s1'.v]),(.agg #[s2'.v])])∧St [] w0 w m [q0',q1',q2']∧OwnL m 63 q0' s0' r.1∧OwnL m 3 q1' s1' r.2.1.Sets∧OwnL m 3 q2' s2' r.2.2.Sets):=by
 unfold spec_DrawContainsEdit at hr
 refine ret_start Tryd.func19 rfl 71 rfl rfl m hv fun a hF hS=>q_seq (q_region (q_x (v:=nilS.v) hF hS (ex_assign rfl) rfl rfl fun a hF=>q_alloc (cs:=[nilS.v]) hF hS rfl rfl rfl fun a w b2 hF hS=>q_alloc (cs:=[nilS.v]) hF hS rfl rfl rfl fun a w b3 hF hS=>q_end (n_sq (q_seq (q_region (q_x (v:=s1.v) hF hS (ex_move rfl) rfl rfl fun a hF=>q_x (v:=(.agg #[s1.v,(iV 0),(.int .u64 0)])) hF hS (ex_build (cells:=[s1.v,(iV 0),(.int .u64 0)]) rfl (by kernel_rfl)) rfl rfl fun a hF=>q_box (cs:=[s1.v,(iV 0),(.int .u64 0)]) hF hS rfl rfl rfl fun a w b4 hF hS=>q_x (v:=(.pointer (some ⟨b4,0,none⟩))) hF hS (ex_assign rfl) rfl rfl fun a hF=>q_end (n_sq (q_seq (q_region (q_x (v:=(.pointer (some ⟨b4,0,none⟩))) hF hS (ex_move rfl) rfl rfl fun a hF=>?_))))))))))
 have hS5 : St _ _ _ _ ([[⟨b4,[s1.v,(iV 0),(.int .u64 0)],53⟩]]++[[⟨b3,[nilS.v],27⟩],[⟨b2,[nilS.v],27⟩]]):=hS
 have hE5:=hS5.enter
 obtain ⟨t_6,ht_6,hr⟩:=bindS hr
 refine q_do rfl fun _ hK=>wp_callX (vs:=[(.pointer (some ⟨b4,0,none⟩))]) hF Tryd.func25 (by kernel_rfl) rfl rfl rfl (c_spec_l1Cur_anySchema (spec_l1Cur.mk p_code 0 (⟨0⟩ : K .u64)) t_6 ht_6 _ m b4 s1 h1 _ hE5) fun a w _ hR hF=>hK _ _ ?_
 obtain ⟨q7,s7,rfl,hR5,h7,hk8⟩:=hR
 have hS : St _ _ _ _ [[⟨b4,[s1.v,(iV t_6.2.at_),(.int .u64 t_6.2.seed.v)],53⟩],q7,[⟨b3,[nilS.v],27⟩],[⟨b2,[nilS.v],27⟩]]:=hS5.leaveF hR5
 have h8 : Rd m s1 t_6.2.code:=by rw [hk8]; exact h1
 refine q_x (v:=s7.v) hF hS (ex_assign rfl) rfl rfl fun a hF=>q_end (n_sq (q_seq (q_region (q_x (v:=(.pointer (some ⟨b4,0,none⟩))) hF hS (ex_move rfl) rfl rfl fun a hF=>q_x (v:=s7.v) hF hS (ex_move rfl) rfl rfl fun a hF=>?_))))
 have hS9 : St _ _ _ _ ([[⟨b4,[s1.v,(iV t_6.2.at_),(.int .u64 t_6.2.seed.v)],53⟩]]++[q7,[⟨b3,[nilS.v],27⟩],[⟨b2,[nilS.v],27⟩]]):=hS
 obtain ⟨m9,hl9,hE9,hz9⟩:=hS9.lendX
 obtain ⟨t_10,ht_10,hr⟩:=bindS hr
 refine q_do rfl fun _ hK=>wp_callX (vs:=[(.pointer (some ⟨b4,0,none⟩)),s7.v]) hF Tryd.func26 (by kernel_rfl) rfl rfl rfl (c_spec_l1Cur_anyEdit t_6.2 t_6.1 t_10 ht_10 _ m9 b4 s1 (h8.mono hl9) s7 (h7.froz hl9 (hz9 0 _ rfl)) _ hE9) fun a w _ hR hF=>hK _ _ ?_
 obtain ⟨q11,s11,rfl,hR9,h11,hk12⟩:=hR
 have hS : St _ _ _ _ [[⟨b4,[s1.v,(iV t_10.2.at_),(.int .u64 t_10.2.seed.v)],53⟩],q11,q7,[⟨b3,[nilS.v],27⟩],[⟨b2,[nilS.v],27⟩]]:=hS9.leaveF hR9
 have h11:=h11.any m
 have h12 : Rd m s1 t_10.2.code:=by rw [hk12]; exact h8
 refine q_x (v:=(.pointer (some ⟨b4,0,none⟩))) hF hS (ex_move rfl) rfl rfl fun a hF=>q_x (v:=s7.v) hF hS (ex_move rfl) rfl rfl fun a hF=>?_
 have hS13 : St _ _ _ _ ([[⟨b4,[s1.v,(iV t_10.2.at_),(.int .u64 t_10.2.seed.v)],53⟩]]++[q11,q7,[⟨b3,[nilS.v],27⟩],[⟨b2,[nilS.v],27⟩]]):=hS
 obtain ⟨m13,hl13,hE13,hz13⟩:=hS13.lendX
 obtain ⟨t_14,ht_14,hr⟩:=bindS hr
 refine q_do rfl fun _ hK=>wp_callX (vs:=[(.pointer (some ⟨b4,0,none⟩)),s7.v]) hF Tryd.func26 (by kernel_rfl) rfl rfl rfl (c_spec_l1Cur_anyEdit t_10.2 t_6.1 t_14 ht_14 _ m13 b4 s1 (h12.mono hl13) s7 (h7.froz hl13 (hz13 1 _ rfl)) _ hE13) fun a w _ hR hF=>hK _ _ ?_
 obtain ⟨q15,s15,rfl,hR13,h15,hk16⟩:=hR
 have hS : St _ _ _ _ [[⟨b4,[s1.v,(iV t_14.2.at_),(.int .u64 t_14.2.seed.v)],53⟩],q15,q11,q7,[⟨b3,[nilS.v],27⟩],[⟨b2,[nilS.v],27⟩]]:=hS13.leaveF hR13
 have h15:=h15.any m
 have h16 : Rd m s1 t_14.2.code:=by rw [hk16]; exact h12
 refine q_alloc (cs:=[nilS.v]) hF hS rfl rfl rfl fun a w b17 hF hS=>q_alloc (cs:=[nilS.v]) hF hS rfl rfl rfl fun a w b18 hF hS=>q_store (vs:=[s11.v]) (cs':=[s11.v]) 1 0 hF hS sz27 rfl rfl rfl rfl rfl rfl rfl rfl fun a w hF hS=>q_store (vs:=[s15.v]) (cs':=[s15.v]) 0 0 hF hS sz27 rfl rfl rfl rfl rfl rfl rfl rfl fun a w hF hS=>q_end (n_sq (q_seq (q_seq ?_)))
 obtain ⟨t_28,hj1,hr⟩:=bindS hr
 refine q_join (fun a w=>Fr a 71 [(3,(.pointer (some ⟨b2,0,none⟩))),(4,(.pointer (some ⟨b3,0,none⟩))),(6,s7.v),(7,(.pointer (some ⟨b17,0,none⟩))),(8,(.pointer (some ⟨b18,0,none⟩))),(36,(.bool t_28))]∧St [] w0 w m [q7,q15,q11,[⟨b18,[s15.v],27⟩],[⟨b17,[s11.v],27⟩],[⟨b3,[nilS.v],27⟩],[⟨b2,[nilS.v],27⟩]]) ?_ ?_
 ·refine q_region (q_x (v:=(.pointer (some ⟨b4,0,none⟩))) hF hS (ex_move rfl) rfl rfl fun a hF=>?_)
  have hS : St _ _ _ _ [[⟨b4,[s1.v,(iV t_14.2.at_),(.int .u64 t_14.2.seed.v)],53⟩],[⟨b18,[s15.v],27⟩],[⟨b17,[s11.v],27⟩],q15,q11,q7,[⟨b3,[nilS.v],27⟩],[⟨b2,[nilS.v],27⟩]]:=hS.sel [2,0,1,3,4,5,6,7] (by decide)
  have hS19 : St _ _ _ _ ([[⟨b4,[s1.v,(iV t_14.2.at_),(.int .u64 t_14.2.seed.v)],53⟩]]++[[⟨b18,[s15.v],27⟩],[⟨b17,[s11.v],27⟩],q15,q11,q7,[⟨b3,[nilS.v],27⟩],[⟨b2,[nilS.v],27⟩]]):=hS
  have hE19:=hS19.enter
  obtain ⟨t_20,ht_20,hj1⟩:=bindS hj1
  refine q_do rfl fun _ hK=>wp_callX (vs:=[(.pointer (some ⟨b4,0,none⟩)),(iV 3)]) hF Tryd.func44 (by kernel_rfl) rfl rfl rfl (c_spec_l1Cur_one t_14.2 3 t_20 ht_20 _ m b4 s1 h16 _ hE19) fun a w _ hR hF=>hK _ _ ?_
  obtain ⟨rfl,hR19,hk21⟩:=hR
  have hS : St _ _ _ _ [[⟨b4,[s1.v,(iV t_20.2.at_),(.int .u64 t_20.2.seed.v)],53⟩],[⟨b18,[s15.v],27⟩],[⟨b17,[s11.v],27⟩],q15,q11,q7,[⟨b3,[nilS.v],27⟩],[⟨b2,[nilS.v],27⟩]]:=hS19.leaveF hR19
  have h21 : Rd m s1 t_20.2.code:=by rw [hk21]; exact h16
  refine q_x (v:=(.bool t_20.1)) hF hS (ex_move rfl) rfl rfl fun a hF=>?_
  rcases bcase (t_20.1) with hc2 | hc2
  ·have hj1:=cond_f hc2 hj1
   refine q_skip hF (wanted_f hF rfl rfl rfl hc2 rfl) rfl fun a hF=>q_skip hF (wanted_f hF rfl rfl rfl hc2 rfl) rfl fun a hF=>q_x (v:=(.bool false)) hF hS (ex_pick_f rfl rfl hc2) rfl rfl fun a hF=>q_x (v:=(.bool false)) hF hS (ex_move rfl) rfl rfl fun a hF=>q_skip hF (wanted_f hF rfl rfl rfl rfl rfl) rfl fun a hF=>q_skip hF (wanted_f hF rfl rfl rfl rfl rfl) rfl fun a hF=>q_skip hF (wanted_f hF rfl rfl rfl rfl rfl) rfl fun a hF=>q_x (v:=(.bool false)) hF hS (ex_pick_f rfl rfl rfl) rfl rfl fun a hF=>q_x (v:=(.bool false)) hF hS (ex_move rfl) rfl rfl fun a hF=>q_skip hF (wanted_f hF rfl rfl rfl rfl rfl) rfl fun a hF=>q_skip hF (wanted_f hF rfl rfl rfl rfl rfl) rfl fun a hF=>q_skip hF (wanted_f hF rfl rfl rfl rfl rfl) rfl fun a hF=>q_x (v:=(.bool false)) hF hS (ex_pick_f rfl rfl rfl) rfl rfl fun a hF=>q_end (n_jn ?_)
   obtain rfl:=someI hj1
   exact ⟨hF.sub ⟨rfl,rfl,rfl,rfl,rfl,rfl,trivial⟩,hS.sel [5,3,4,1,2,6,7] (by decide)⟩
  ·have hj1:=cond_t hc2 hj1
   refine q_xg (v:=s7.v) hF hS (ex_move rfl) (wanted_t hF rfl rfl rfl hc2) rfl fun a hF=>?_
   obtain ⟨m23,hl23,hv23,hz23⟩:=hS.lend
   obtain ⟨t_22,ht_22,hj1⟩:=bindS hj1
   refine q_callg (vs:=[s7.v]) hF hS (wanted_t hF rfl rfl rfl hc2) Tryd.func45 (by kernel_rfl) rfl rfl rfl (c_spec_sGood t_6.1 t_22 ht_22 _ m23 hv23 s7 (h7.froz hl23 (hz23 5 _ rfl))) ?_
   rintro a w _ rfl hF hS
   refine q_x (v:=(.bool t_22)) hF hS (ex_pick_t rfl rfl hc2) rfl rfl fun a hF=>q_x (v:=(.bool t_22)) hF hS (ex_move rfl) rfl rfl fun a hF=>?_
   rcases bcase (t_22) with hc3 | hc3
   ·have hj1:=cond_f hc3 hj1
    refine q_skip hF (wanted_f hF rfl rfl rfl hc3 rfl) rfl fun a hF=>q_skip hF (wanted_f hF rfl rfl rfl hc3 rfl) rfl fun a hF=>q_skip hF (wanted_f hF rfl rfl rfl hc3 rfl) rfl fun a hF=>q_x (v:=(.bool false)) hF hS (ex_pick_f rfl rfl hc3) rfl rfl fun a hF=>q_x (v:=(.bool false)) hF hS (ex_move rfl) rfl rfl fun a hF=>q_skip hF (wanted_f hF rfl rfl rfl rfl rfl) rfl fun a hF=>q_skip hF (wanted_f hF rfl rfl rfl rfl rfl) rfl fun a hF=>q_skip hF (wanted_f hF rfl rfl rfl rfl rfl) rfl fun a hF=>q_x (v:=(.bool false)) hF hS (ex_pick_f rfl rfl rfl) rfl rfl fun a hF=>q_end (n_jn ?_)
    obtain rfl:=someI hj1
    exact ⟨hF.sub ⟨rfl,rfl,rfl,rfl,rfl,rfl,trivial⟩,hS.sel [5,3,4,1,2,6,7] (by decide)⟩
   ·have hj1:=cond_t hc3 hj1
    refine q_xg (v:=s7.v) hF hS (ex_move rfl) (wanted_t hF rfl rfl rfl hc3) rfl fun a hF=>q_xg (v:=(.agg #[s11.v])) hF hS (ex_loadA (vs:=[s11.v]) 2 0 Tryd.underlying27 rfl sz27 rfl rfl rfl rfl) (wanted_t hF rfl rfl rfl hc3) rfl fun a hF=>?_
    obtain ⟨m25,hl25,hv25,hz25⟩:=hS.lend
    obtain ⟨t_24,ht_24,hj1⟩:=bindS hj1
    refine q_callg (vs:=[s7.v,(.agg #[s11.v])]) hF hS (wanted_t hF rfl rfl rfl hc3) Tryd.func24 (by kernel_rfl) rfl rfl rfl (c_spec_eGood t_6.1 t_10.1 t_24 ht_24 _ m25 hv25 s7 (h7.froz hl25 (hz25 5 _ rfl)) s11 (h11.froz hl25 (hz25 4 _ rfl))) ?_
    rintro a w _ rfl hF hS
    refine q_x (v:=(.bool t_24)) hF hS (ex_pick_t rfl rfl hc3) rfl rfl fun a hF=>q_x (v:=(.bool t_24)) hF hS (ex_move rfl) rfl rfl fun a hF=>?_
    rcases bcase (t_24) with hc4 | hc4
    ·have hj1:=cond_f hc4 hj1
     refine q_skip hF (wanted_f hF rfl rfl rfl hc4 rfl) rfl fun a hF=>q_skip hF (wanted_f hF rfl rfl rfl hc4 rfl) rfl fun a hF=>q_skip hF (wanted_f hF rfl rfl rfl hc4 rfl) rfl fun a hF=>q_x (v:=(.bool false)) hF hS (ex_pick_f rfl rfl hc4) rfl rfl fun a hF=>q_end (n_jn ?_)
     obtain rfl:=someI hj1
     exact ⟨hF.sub ⟨rfl,rfl,rfl,rfl,rfl,rfl,trivial⟩,hS.sel [5,3,4,1,2,6,7] (by decide)⟩
    ·have hj1:=cond_t hc4 hj1
     refine q_xg (v:=s7.v) hF hS (ex_move rfl) (wanted_t hF rfl rfl rfl hc4) rfl fun a hF=>q_xg (v:=(.agg #[s15.v])) hF hS (ex_loadA (vs:=[s15.v]) 1 0 Tryd.underlying27 rfl sz27 rfl rfl rfl rfl) (wanted_t hF rfl rfl rfl hc4) rfl fun a hF=>?_
     obtain ⟨m27,hl27,hv27,hz27⟩:=hS.lend
     obtain ⟨t_26,ht_26,hj1⟩:=bindS hj1
     refine q_callg (vs:=[s7.v,(.agg #[s15.v])]) hF hS (wanted_t hF rfl rfl rfl hc4) Tryd.func24 (by kernel_rfl) rfl rfl rfl (c_spec_eGood t_6.1 t_14.1 t_26 ht_26 _ m27 hv27 s7 (h7.froz hl27 (hz27 5 _ rfl)) s15 (h15.froz hl27 (hz27 3 _ rfl))) ?_
     rintro a w _ rfl hF hS
     refine q_x (v:=(.bool t_26)) hF hS (ex_pick_t rfl rfl hc4) rfl rfl fun a hF=>q_end (n_jn ?_)
     obtain rfl:=someI hj1
     exact ⟨hF.sub ⟨rfl,rfl,rfl,rfl,rfl,rfl,trivial⟩,hS.sel [5,3,4,1,2,6,7] (by decide)⟩
 ·rintro a w ⟨hF,hS⟩
  refine n_sq ?_
  obtain ⟨f_47,hj5,hr⟩:=bindS hr
  refine q_join (fun a w=>∃ (q48 : Piece),Fr a 71 [(3,(.pointer (some ⟨b2,0,none⟩))),(4,(.pointer (some ⟨b3,0,none⟩))),(6,s7.v),(7,(.pointer (some ⟨b17,0,none⟩))),(8,(.pointer (some ⟨b18,0,none⟩)))]∧St [] w0 w m [q7,q48,q11,[⟨b18,[s15.v],27⟩],[⟨b17,[s11.v],27⟩],[⟨b3,[nilS.v],27⟩],[⟨b2,[nilS.v],27⟩]]∧OwnL m 3 q48 s15 f_47.Sets) ?_ ?_
  ·rcases bcase (t_28) with hc6 | hc6
   ·have hj5:=cond_f hc6 hj5
    refine q_cond_f hF rfl hc6 (q_skipc (n_jn ?_))
    obtain rfl:=someI hj5
    exact ⟨q15,hF.sub ⟨rfl,rfl,rfl,rfl,rfl,trivial⟩,hS,h15⟩
   ·have hj5:=cond_t hc6 hj5
    refine q_cond_t hF rfl hc6 (q_seq (q_region (q_x (v:=(.pointer (some ⟨b18,0,none⟩))) hF hS (ex_fieldAddr Tryd.underlying27 rfl sz25 rfl rfl) rfl rfl fun a hF=>q_x (v:=s15.v) hF hS (ex_load1 3 0 Tryd.underlying25 rfl rfl rfl rfl) rfl rfl fun a hF=>q_x (v:=(iV (goLen t_14.1.Sets))) hF hS (ex_len Tryd.underlying25 rfl h15.len) rfl rfl fun a hF=>q_x (v:=(iV 0)) hF hS (ex_move rfl) rfl rfl fun a hF=>q_end (n_sq (q_block ?_)))))
    obtain ⟨f_45,hl7,hj5⟩:=bindS hj5
    refine q_loop (fun (s : Int × impl_Edit) a w=>∃ (q31 : Piece),∃ t_29,∃ f_30,s = (t_29,f_30)∧Fr a 71 [(3,(.pointer (some ⟨b2,0,none⟩))),(4,(.pointer (some ⟨b3,0,none⟩))),(6,s7.v),(7,(.pointer (some ⟨b17,0,none⟩))),(8,(.pointer (some ⟨b18,0,none⟩))),(39,(iV (goLen t_14.1.Sets))),(40,(iV t_29))]∧St [] w0 w m [q31,q7,q11,[⟨b18,[s15.v],27⟩],[⟨b17,[s11.v],27⟩],[⟨b3,[nilS.v],27⟩],[⟨b2,[nilS.v],27⟩]]∧OwnL m 3 q31 s15 f_30.Sets) (fun (f_45 : impl_Edit) e a w=>∃ (q46 : Piece),e = .exit 0∧Fr a 71 [(3,(.pointer (some ⟨b2,0,none⟩))),(4,(.pointer (some ⟨b3,0,none⟩))),(6,s7.v),(7,(.pointer (some ⟨b17,0,none⟩))),(8,(.pointer (some ⟨b18,0,none⟩)))]∧St [] w0 w m [q7,q46,q11,[⟨b18,[s15.v],27⟩],[⟨b17,[s11.v],27⟩],[⟨b3,[nilS.v],27⟩],[⟨b2,[nilS.v],27⟩]]∧OwnL m 3 q46 s15 f_45.Sets) hl7 ⟨q15,_,_,rfl,hF.sub ⟨rfl,rfl,rfl,rfl,rfl,rfl,rfl,trivial⟩,hS.sel [1,0,2,3,4,5,6] (by decide),h15⟩ ?_ ?_
    ·clear hF hS
     rintro s a w st ⟨q31,t_29,f_30,rfl,hF,hS,h31⟩ hb7
     unfold spec_DrawContainsEdit_l1 at hb7
     refine q_seq (q_region (q_x (v:=(.bool (decide (t_29 < (goLen t_14.1.Sets))))) hF hS (ex_ibin rfl rfl rfl) rfl rfl fun a hF=>q_end (n_sq (q_seq ?_))))
     rcases bcase (decide (t_29 < (goLen t_14.1.Sets))) with hc8 | hc8
     ·have hb7:=cond_f hc8 hb7
      refine q_cond_f hF rfl hc8 (q_exit (x_sq ?_))
      obtain rfl:=someI hb7
      exact ⟨nofun,.inl ⟨q31,rfl,hF.sub ⟨rfl,rfl,rfl,rfl,rfl,trivial⟩,hS.sel [1,0,2,3,4,5,6] (by decide),h31⟩⟩
     ·have hb7:=cond_t hc8 hb7
      refine q_cond_t hF rfl hc8 (q_skipc (n_sq (q_seq (q_block (q_seq (q_region (q_x (v:=(iV t_29)) hF hS (ex_move rfl) rfl rfl fun a hF=>q_x (v:=(iV t_29)) hF hS (ex_assign rfl) rfl rfl fun a hF=>q_end (n_sq (q_seq (e_region ⟨[],[]⟩ mixed fun w' hw'=>?_))))))))))
      have hS:=hS.below hw'
      refine e_p (v:=(.pointer (some ⟨b18,0,none⟩))) 0 hF rfl (ex_fieldAddr Tryd.underlying27 rfl sz25 rfl rfl) rfl rfl (by kernel_rfl) (by kernel_rfl) (by kernel_rfl) fun a hF=>e_x (v:=s15.v) 1 hF hS rfl (ex_load1 3 0 Tryd.underlying25 rfl rfl rfl rfl) rfl rfl (by kernel_rfl) (by kernel_rfl) (by kernel_rfl) (by kernel_rfl) fun a hF=>e_p (v:=(iV t_29)) 2 hF rfl (ex_move rfl) rfl rfl (by kernel_rfl) (by kernel_rfl) (by kernel_rfl) fun a hF=>?_
      obtain ⟨e_32,he_32,hb7⟩:=bindS hb7
      obtain ⟨vs33,at33,d33⟩:=h31.at he_32 1 rfl
      obtain rfl : vs33 = [(iV e_32)]:=d33
      refine e_p (v:=(elP s15 (t_29.toNat * 1))) 3 hF rfl (ex_indexAddr Tryd.underlying25 sz3 rfl rfl (h31.idx he_32)) rfl rfl (by kernel_rfl) (by kernel_rfl) (by kernel_rfl) fun a hF=>e_x (v:=(iV e_32)) 4 hF hS rfl (ex_loadE1 0 Tryd.underlying3 rfl rfl (at33.at 0 rfl) rfl rfl) rfl rfl (by kernel_rfl) (by kernel_rfl) (by kernel_rfl) (by kernel_rfl) fun a hF=>e_p (v:=(.pointer (some ⟨b17,0,none⟩))) 5 hF rfl (ex_fieldAddr Tryd.underlying27 rfl sz25 rfl rfl) rfl rfl (by kernel_rfl) (by kernel_rfl) (by kernel_rfl) fun a hF=>e_x (v:=s11.v) 6 hF hS rfl (ex_load1 4 0 Tryd.underlying25 rfl rfl rfl rfl) rfl rfl (by kernel_rfl) (by kernel_rfl) (by kernel_rfl) (by kernel_rfl) fun a hF=>e_p (v:=(iV t_29)) 7 hF rfl (ex_move rfl) rfl rfl (by kernel_rfl) (by kernel_rfl) (by kernel_rfl) fun a hF=>?_
      obtain ⟨e_34,he_34,hb7⟩:=bindS hb7
      obtain ⟨vs35,at35,d35⟩:=h11.at he_34 1 rfl
      obtain rfl : vs35 = [(iV e_34)]:=d35
      refine e_p (v:=(elP s11 (t_29.toNat * 1))) 8 hF rfl (ex_indexAddr Tryd.underlying25 sz3 rfl rfl (h11.idx he_34)) rfl rfl (by kernel_rfl) (by kernel_rfl) (by kernel_rfl) fun a hF=>e_x (v:=(iV e_34)) 9 hF hS rfl (ex_loadE1 0 Tryd.underlying3 rfl rfl (at35.at 2 rfl) rfl rfl) rfl rfl (by kernel_rfl) (by kernel_rfl) (by kernel_rfl) (by kernel_rfl) fun a hF=>e_p (v:=(iV (goBits .and .i64 e_32 e_34))) 10 hF rfl (ex_bits rfl rfl rfl) rfl rfl (by kernel_rfl) (by kernel_rfl) (by kernel_rfl) fun a hF=>e_p (v:=(.bool (decide (0 < (goBits .and .i64 e_32 e_34))))) 11 hF rfl (ex_ibin rfl rfl rfl) rfl rfl (by kernel_rfl) (by kernel_rfl) (by kernel_rfl) fun a hF=>e_end (by kernel_rfl) (n_sq ?_) _
      obtain ⟨f_43,hj9,hb7⟩:=bindS hb7
      refine q_join (fun a w=>∃ (q44 : Piece),Fr a 71 [(3,(.pointer (some ⟨b2,0,none⟩))),(4,(.pointer (some ⟨b3,0,none⟩))),(6,s7.v),(7,(.pointer (some ⟨b17,0,none⟩))),(8,(.pointer (some ⟨b18,0,none⟩))),(39,(iV (goLen t_14.1.Sets))),(40,(iV t_29))]∧St [] w0 w m [q7,q44,q11,[⟨b18,[s15.v],27⟩],[⟨b17,[s11.v],27⟩],[⟨b3,[nilS.v],27⟩],[⟨b2,[nilS.v],27⟩]]∧OwnL m 3 q44 s15 f_43.Sets) ?_ ?_
      ·rcases bcase (decide (0 < (goBits .and .i64 e_32 e_34))) with hc10 | hc10
       ·have hj9:=cond_f hc10 hj9
        refine q_cond_f hF rfl hc10 (q_skipc (n_jn ?_))
        obtain rfl:=someI hj9
        exact ⟨q31,hF.sub ⟨rfl,rfl,rfl,rfl,rfl,rfl,rfl,trivial⟩,hS.sel [1,0,2,3,4,5,6] (by decide),h31⟩
       ·have hj9:=cond_t hc10 hj9
        refine q_cond_t hF rfl hc10 (e_region ⟨[12],[b18,b17]⟩ mixed fun w' hw'=>?_)
        have hS:=hS.below hw'
        refine e_p (v:=(.pointer (some ⟨b18,0,none⟩))) 0 hF rfl (ex_fieldAddr Tryd.underlying27 rfl sz25 rfl rfl) rfl rfl (by kernel_rfl) (by kernel_rfl) (by kernel_rfl) fun a hF=>e_xb (v:=s15.v) 1 3 hF hS (.head _) rfl rfl (ex_load1 0 0 Tryd.underlying25 rfl rfl rfl rfl) rfl rfl (by kernel_rfl) (by kernel_rfl) (by kernel_rfl) fun a hF=>e_p (v:=(iV t_29)) 2 hF rfl (ex_move rfl) rfl rfl (by kernel_rfl) (by kernel_rfl) (by kernel_rfl) fun a hF=>?_
        obtain ⟨e_36,he_36,hj9⟩:=bindS hj9
        obtain ⟨vs37,at37,d37⟩:=h31.at he_36 1 rfl
        obtain rfl : vs37 = [(iV e_36)]:=d37
        refine e_p (v:=(elP s15 (t_29.toNat * 1))) 3 hF rfl (ex_indexAddr Tryd.underlying25 sz3 rfl rfl (h31.idx he_36)) rfl rfl (by kernel_rfl) (by kernel_rfl) (by kernel_rfl) fun a hF=>e_x (v:=(iV e_36)) 4 hF hS rfl (ex_loadE1 0 Tryd.underlying3 rfl rfl (at37.at 0 rfl) rfl rfl) rfl rfl (by kernel_rfl) (by kernel_rfl) (by kernel_rfl) (by kernel_rfl) fun a hF=>e_p (v:=(.pointer (some ⟨b17,0,none⟩))) 5 hF rfl (ex_fieldAddr Tryd.underlying27 rfl sz25 rfl rfl) rfl rfl (by kernel_rfl) (by kernel_rfl) (by kernel_rfl) fun a hF=>e_xb (v:=s11.v) 6 4 hF hS (.tail _ (.head _)) rfl rfl (ex_load1 0 0 Tryd.underlying25 rfl rfl rfl rfl) rfl rfl (by kernel_rfl) (by kernel_rfl) (by kernel_rfl) fun a hF=>e_p (v:=(iV t_29)) 7 hF rfl (ex_move rfl) rfl rfl (by kernel_rfl) (by kernel_rfl) (by kernel_rfl) fun a hF=>?_
        obtain ⟨e_38,he_38,hj9⟩:=bindS hj9
        obtain ⟨vs39,at39,d39⟩:=h11.at he_38 1 rfl
        obtain rfl : vs39 = [(iV e_38)]:=d39
        refine e_p (v:=(elP s11 (t_29.toNat * 1))) 8 hF rfl (ex_indexAddr Tryd.underlying25 sz3 rfl rfl (h11.idx he_38)) rfl rfl (by kernel_rfl) (by kernel_rfl) (by kernel_rfl) fun a hF=>e_x (v:=(iV e_38)) 9 hF hS rfl (ex_loadE1 0 Tryd.underlying3 rfl rfl (at39.at 2 rfl) rfl rfl) rfl rfl (by kernel_rfl) (by kernel_rfl) (by kernel_rfl) (by kernel_rfl) fun a hF=>e_p (v:=(iV (goBits .and .i64 e_36 e_38))) 10 hF rfl (ex_bits rfl rfl rfl) rfl rfl (by kernel_rfl) (by kernel_rfl) (by kernel_rfl) fun a hF=>?_
        obtain ⟨e_40,he_40,hj9⟩:=bindS hj9
        obtain ⟨vs41,at41,d41⟩:=h31.at he_40 1 rfl
        obtain rfl : vs41 = [(iV e_40)]:=d41
        refine e_p (v:=(elP s15 (t_29.toNat * 1))) 11 hF rfl (ex_indexAddr Tryd.underlying25 sz3 rfl rfl (h31.idx he_40)) rfl rfl (by kernel_rfl) (by kernel_rfl) (by kernel_rfl) fun a hF=>e_one 12 (by kernel_rfl) ?_
        have hSo:=hS
        refine e_opl rfl rfl rfl fun _ hK=>wp_storeE (e':=goBits .and .i64 e_36 e_38) (us:=[(iV (goBits .and .i64 e_36 e_38))]) (vs:=[(iV e_40)]) 0 hF hS h31 sz3 rfl rfl rfl rfl rfl rfl rfl he_40 at41 rfl rfl rfl fun w q42 hS h42=>hK _ _ (⟨kpC hSo hS 3 3 rfl rfl (kpC hSo hS 4 4 rfl rfl kpN),?_⟩)
        refine e_end (by kernel_rfl) (n_jn ?_) _
        obtain rfl:=someI hj9
        exact ⟨q42,hF.sub ⟨rfl,rfl,rfl,rfl,rfl,rfl,rfl,trivial⟩,hS.sel [1,0,2,3,4,5,6] (by decide),h42⟩
      ·rintro a w ⟨q44,hF,hS,h44⟩
       refine n_ib (n_sq ?_)
       refine q_region (q_x (v:=(iV (w64 (t_29 + 1)))) hF hS (ex_ibin rfl rfl rfl) rfl rfl fun a hF=>q_x (v:=(iV (w64 (t_29 + 1)))) hF hS (ex_move rfl) rfl rfl fun a hF=>q_end ?_)
       obtain rfl:=someI hb7
       exact ⟨rfl,q44,_,_,rfl,hF.sub ⟨rfl,rfl,rfl,rfl,rfl,rfl,rfl,trivial⟩,hS.sel [1,0,2,3,4,5,6] (by decide),h44⟩
    ·rintro e a w ⟨q46,rfl,hF,hS,h46⟩
     refine x_ib (n_jn ?_)
     obtain rfl:=someI hj5
     exact ⟨q46,hF.sub ⟨rfl,rfl,rfl,rfl,rfl,trivial⟩,hS,h46⟩
  ·rintro a w ⟨q48,hF,hS,h48⟩
   refine n_sq ?_
   refine q_seq (e_region ⟨[4,5],[b17,b18]⟩ mixed fun w' hw'=>?_)
   have hS:=hS.below hw'
   refine e_p (v:=s7.v) 0 hF rfl (ex_move rfl) rfl rfl (by kernel_rfl) (by kernel_rfl) (by kernel_rfl) fun a hF=>e_xb (v:=(.agg #[s11.v])) 1 4 hF hS (.head _) rfl rfl (ex_loadA (vs:=[s11.v]) 0 0 Tryd.underlying27 rfl sz27 rfl rfl rfl rfl) rfl rfl (by kernel_rfl) (by kernel_rfl) (by kernel_rfl) fun a hF=>e_xb (v:=(.agg #[s15.v])) 2 3 hF hS (.tail _ (.head _)) rfl rfl (ex_loadA (vs:=[s15.v]) 0 0 Tryd.underlying27 rfl sz27 rfl rfl rfl rfl) rfl rfl (by kernel_rfl) (by kernel_rfl) (by kernel_rfl) fun a hF=>e_p (v:=s7.v) 3 hF rfl (ex_assign rfl) rfl rfl (by kernel_rfl) (by kernel_rfl) (by kernel_rfl) fun a hF=>e_one 4 (by kernel_rfl) ?_
   have hSo:=hS
   refine e_store (vs:=[s11.v]) (cs':=[s11.v]) 6 0 hF hS rfl rfl sz27 rfl rfl rfl rfl rfl rfl rfl rfl fun a w hF hS=>⟨kpC hSo hS 4 4 rfl rfl (kpC hSo hS 3 3 rfl rfl kpN),?_⟩
   refine e_one 5 (by kernel_rfl) ?_
   have hSo:=hS
   refine e_store (vs:=[s15.v]) (cs':=[s15.v]) 5 0 hF hS rfl rfl sz27 rfl rfl rfl rfl rfl rfl rfl rfl fun a w hF hS=>⟨kpC hSo hS 4 4 rfl rfl (kpC hSo hS 3 3 rfl rfl kpN),?_⟩
   refine e_end (by kernel_rfl) (n_sq (q_ret ?_)) _
   obtain rfl:=someI hr
   exact ret_of hF hS rfl (.tmp rfl (.cellA (us:=[s11.v]) 6 0 Tryd.underlying27 rfl sz27 rfl rfl rfl rfl (.cellA (us:=[s15.v]) 5 0 Tryd.underlying27 rfl sz27 rfl rfl rfl rfl .nil))) ⟨q7,q11,q48,s7,s11,s15,rfl,hS.sel [0,2,1] (by decide),h7,h11,h48⟩

theorem c_spec_DrawMeetEdits (p_code : List (K .u8)) (r : (List impl_Variable) × impl_Edit × impl_Edit) (hr : spec_DrawMeetEdits p_code = some r) (w0 : World) (m : Mem) (hv : Vis m w0) (s1 : Sl) (h1 : Rd m s1 p_code) :
  Ret Tryd.prog 5 [s1.v] w0 (fun v w=>∃ (q0' : Piece) (q1' : Piece) (q2' : Piece) (s0' : Sl) (s1' : Sl) (s2' : Sl),v = (.tuple #[s0'.v,(.agg #[s1'.v]),(.agg #[s2'.v])])∧St [] w0 w m [q0',q1',q2']∧OwnL m 63 q0' s0' r.1∧OwnL m 3 q1' s1' r.2.1.Sets∧OwnL m 3 q2' s2' r.2.2.Sets):=by
 unfold spec_DrawMeetEdits at hr
 refine ret_start Tryd.func5 rfl 10 rfl rfl m hv fun a hF hS=>q_seq (q_region (q_x (v:=nilS.v) hF hS (ex_assign rfl) rfl rfl fun a hF=>q_alloc (cs:=[nilS.v]) hF hS rfl rfl rfl fun a w b2 hF hS=>q_alloc (cs:=[nilS.v]) hF hS rfl rfl rfl fun a w b3 hF hS=>q_end (n_sq (q_seq (q_region (q_x (v:=s1.v) hF hS (ex_move rfl) rfl rfl fun a hF=>?_))))))
 obtain ⟨t_4,ht_4,hr⟩:=bindS hr
 refine q_call (vs:=[s1.v]) hF hS Tryd.func19 (by kernel_rfl) rfl rfl rfl (c_spec_DrawContainsEdit p_code t_4 ht_4 _ m hS.vis s1 h1) ?_
 rintro a w _ ⟨q6,q7,q8,s6,s7,s8,rfl,hR5,h6,h7,h8⟩ hF hS2
 have hS : St _ _ _ _ [q6,q7,q8,[⟨b3,[nilS.v],27⟩],[⟨b2,[nilS.v],27⟩]]:=hS.joinF hR5
 refine q_x (v:=s6.v) hF hS (ex_extract rfl rfl) rfl rfl fun a hF=>q_x (v:=(.agg #[s7.v])) hF hS (ex_extract rfl rfl) rfl rfl fun a hF=>q_x (v:=(.agg #[s8.v])) hF hS (ex_extract rfl rfl) rfl rfl fun a hF=>q_x (v:=s6.v) hF hS (ex_assign rfl) rfl rfl fun a hF=>q_store (vs:=[s7.v]) (cs':=[s7.v]) 4 0 hF hS sz27 rfl rfl rfl rfl rfl rfl rfl rfl fun a w hF hS=>q_store (vs:=[s8.v]) (cs':=[s8.v]) 3 0 hF hS sz27 rfl rfl rfl rfl rfl rfl rfl rfl fun a w hF hS=>q_end (n_sq (q_ret ?_))
 obtain rfl:=someI hr
 exact ret_of hF hS rfl (.tmp rfl (.cellA (us:=[s7.v]) 4 0 Tryd.underlying27 rfl sz27 rfl rfl rfl rfl (.cellA (us:=[s8.v]) 3 0 Tryd.underlying27 rfl sz27 rfl rfl rfl rfl .nil))) ⟨q6,q7,q8,s6,s7,s8,rfl,hS.sel [0,1,2] (by decide),h6,h7,h8⟩

theorem c_impl_isWord (p_s : List UInt8) (r : Bool) (hr : impl_isWord p_s = some r) (w0 : World) (m : Mem) (hv : Vis m w0) :
  Ret Tryd.prog 46 [(strV p_s)] w0 (fun v _=>v = (.bool r)):=by
 unfold impl_isWord at hr
 refine ret_start Tryd.func46 rfl 28 rfl rfl m hv fun a hF hS=>q_seq (q_region (q_x (v:=(.bool false)) hF hS (ex_assign rfl) rfl rfl fun a hF=>q_end (n_sq (q_seq (q_seq ?_)))))
 obtain ⟨t_1,hj1,hr⟩:=bindS hr
 refine q_join (fun a w=>Fr a 28 [(0,(strV p_s)),(11,(.bool t_1))]∧St [] w0 w m []) ?_ ?_
 ·refine q_region (q_x (v:=(strV p_s)) hF hS (ex_move rfl) rfl rfl fun a hF=>q_x (v:=(iV (goLen p_s))) hF hS (ex_strLen Tryd.underlying9 rfl) rfl rfl fun a hF=>q_x (v:=(.bool (decide ((goLen p_s) < 1)))) hF hS (ex_ibin rfl rfl rfl) rfl rfl fun a hF=>q_x (v:=(.bool (decide ((goLen p_s) < 1)))) hF hS (ex_move rfl) rfl rfl fun a hF=>?_)
  rcases bcase (decide ((goLen p_s) < 1)) with hc2 | hc2
  ·have hj1:=cond_f hc2 hj1
   refine q_xg (v:=(strV p_s)) hF hS (ex_move rfl) (wanted_t hF rfl rfl rfl hc2) rfl fun a hF=>q_xg (v:=(iV (goLen p_s))) hF hS (ex_strLen Tryd.underlying9 rfl) (wanted_t hF rfl rfl rfl hc2) rfl fun a hF=>q_xg (v:=(.bool (decide (8 < (goLen p_s))))) hF hS (ex_ibin rfl rfl rfl) (wanted_t hF rfl rfl rfl hc2) rfl fun a hF=>q_x (v:=(.bool (decide (8 < (goLen p_s))))) hF hS (ex_pick_f rfl rfl hc2) rfl rfl fun a hF=>q_end (n_jn ?_)
   obtain rfl:=someI hj1
   exact ⟨hF.sub ⟨rfl,rfl,trivial⟩,hS⟩
  ·have hj1:=cond_t hc2 hj1
   refine q_skip hF (wanted_f hF rfl rfl rfl hc2 rfl) rfl fun a hF=>q_skip hF (wanted_f hF rfl rfl rfl hc2 rfl) rfl fun a hF=>q_skip hF (wanted_f hF rfl rfl rfl hc2 rfl) rfl fun a hF=>q_x (v:=(.bool true)) hF hS (ex_pick_t rfl rfl hc2) rfl rfl fun a hF=>q_end (n_jn ?_)
   obtain rfl:=someI hj1
   exact ⟨hF.sub ⟨rfl,rfl,trivial⟩,hS⟩
 ·rintro a w ⟨hF,hS⟩
  refine n_sq ?_
  rcases bcase (t_1) with hc3 | hc3
  ·have hr:=cond_f hc3 hr
   refine q_cond_f hF rfl hc3 (q_skipc (n_sq (q_seq (q_seq (q_region (q_x (v:=(strV p_s)) hF hS (ex_move rfl) rfl rfl fun a hF=>q_x (v:=(iV (goLen p_s))) hF hS (ex_strLen Tryd.underlying9 rfl) rfl rfl fun a hF=>q_x (v:=(iV 0)) hF hS (ex_move rfl) rfl rfl fun a hF=>q_end (n_sq (q_block ?_))))))))
   obtain ⟨o4,hl4,hr⟩:=bindS hr
   refine q_loop (fun (t_2 : Int) a w=>Fr a 28 [(0,(strV p_s)),(13,(iV (goLen p_s))),(14,(iV t_2))]∧St [] w0 w m []) (fun (o : (Unit) ⊕ (Bool)) e a w=>o = .inl ()∧e = .exit 0∧Fr a 28 []∧St [] w0 w m []) hl4 ⟨hF.sub ⟨rfl,rfl,rfl,trivial⟩,hS⟩ ?_ ?_
   ·clear hF hS
    rintro t_2 a w st ⟨hF,hS⟩ hb4
    unfold impl_isWord_l1 at hb4
    refine q_seq (q_region (q_x (v:=(.bool (decide (t_2 < (goLen p_s))))) hF hS (ex_ibin rfl rfl rfl) rfl rfl fun a hF=>q_end (n_sq (q_seq ?_))))
    rcases bcase (decide (t_2 < (goLen p_s))) with hc5 | hc5
    ·have hb4:=cond_f hc5 hb4
     refine q_cond_f hF rfl hc5 (q_exit (x_sq ?_))
     obtain rfl:=someI hb4
     exact ⟨nofun,.inl ⟨rfl,rfl,hF.sub trivial,hS⟩⟩
    ·have hb4:=cond_t hc5 hb4
     refine q_cond_t hF rfl hc5 (q_skipc (n_sq (q_seq (q_block (q_seq (q_region (q_x (v:=(iV t_2)) hF hS (ex_move rfl) rfl rfl fun a hF=>q_x (v:=(iV t_2)) hF hS (ex_assign rfl) rfl rfl fun a hF=>q_end (n_sq (q_seq ?_)))))))))
     obtain ⟨t_5,hj6,hb4⟩:=bindS hb4
     refine q_join (fun a w=>Fr a 28 [(0,(strV p_s)),(13,(iV (goLen p_s))),(14,(iV t_2)),(26,(.bool t_5))]∧St [] w0 w m []) ?_ ?_
     ·refine q_region (q_x (v:=(strV p_s)) hF hS (ex_move rfl) rfl rfl fun a hF=>q_x (v:=(iV t_2)) hF hS (ex_move rfl) rfl rfl fun a hF=>?_)
      obtain ⟨t_3,ht_3,hj6⟩:=bindS hj6
      refine q_x (v:=(.int .u8 t_3)) hF hS (ex_strIdx Tryd.underlying9 rfl rfl ht_3) rfl rfl fun a hF=>q_x (v:=(.bool (decide (t_3 < 97)))) hF hS (ex_ibin rfl rfl rfl) rfl rfl fun a hF=>q_x (v:=(.bool (decide (t_3 < 97)))) hF hS (ex_move rfl) rfl rfl fun a hF=>?_
      rcases bcase (decide (t_3 < 97)) with hc7 | hc7
      ·have hj6:=cond_f hc7 hj6
       refine q_xg (v:=(strV p_s)) hF hS (ex_move rfl) (wanted_t hF rfl rfl rfl hc7) rfl fun a hF=>q_xg (v:=(iV t_2)) hF hS (ex_move rfl) (wanted_t hF rfl rfl rfl hc7) rfl fun a hF=>?_
       obtain ⟨t_4,ht_4,hj6⟩:=bindS hj6
       refine q_xg (v:=(.int .u8 t_4)) hF hS (ex_strIdx Tryd.underlying9 rfl rfl ht_4) (wanted_t hF rfl rfl rfl hc7) rfl fun a hF=>q_xg (v:=(.bool (decide (122 < t_4)))) hF hS (ex_ibin rfl rfl rfl) (wanted_t hF rfl rfl rfl hc7) rfl fun a hF=>q_x (v:=(.bool (decide (122 < t_4)))) hF hS (ex_pick_f rfl rfl hc7) rfl rfl fun a hF=>q_end (n_jn ?_)
       obtain rfl:=someI hj6
       exact ⟨hF.sub ⟨rfl,rfl,rfl,rfl,trivial⟩,hS⟩
      ·have hj6:=cond_t hc7 hj6
       refine q_skip hF (wanted_f hF rfl rfl rfl hc7 rfl) rfl fun a hF=>q_skip hF (wanted_f hF rfl rfl rfl hc7 rfl) rfl fun a hF=>q_skip hF (wanted_f hF rfl rfl rfl hc7 rfl) rfl fun a hF=>q_skip hF (wanted_f hF rfl rfl rfl hc7 rfl) rfl fun a hF=>q_x (v:=(.bool true)) hF hS (ex_pick_t rfl rfl hc7) rfl rfl fun a hF=>q_end (n_jn ?_)
       obtain rfl:=someI hj6
       exact ⟨hF.sub ⟨rfl,rfl,rfl,rfl,trivial⟩,hS⟩
     ·rintro a w ⟨hF,hS⟩
      refine n_sq ?_
      rcases bcase (t_5) with hc8 | hc8
      ·have hb4:=cond_f hc8 hb4
       refine q_cond_f hF rfl hc8 (q_skipc (n_ib (n_sq (q_region (q_x (v:=(iV (w64 (t_2 + 1)))) hF hS (ex_ibin rfl rfl rfl) rfl rfl fun a hF=>q_x (v:=(iV (w64 (t_2 + 1)))) hF hS (ex_move rfl) rfl rfl fun a hF=>q_end ?_)))))
       obtain rfl:=someI hb4
       exact ⟨rfl,hF.sub ⟨rfl,rfl,rfl,trivial⟩,hS⟩
      ·have hb4:=cond_t hc8 hb4
       refine q_cond_t hF rfl hc8 (q_seq (q_region (q_x (v:=(.bool false)) hF hS (ex_assign rfl) rfl rfl fun a hF=>q_end (n_sq (q_ret (r_ib (r_sq ?_)))))))
       obtain rfl:=someI hb4
       refine ⟨nofun,.inr fun ho=>?_⟩
       subst ho
       refine r_ib (r_sq ?_)
       obtain rfl:=someI hr
       exact ret_of hF hS rfl (.tmp rfl .nil) rfl
   ·rintro e a w ⟨rfl,rfl,hF,hS⟩
    refine x_ib (n_sq ?_)
    refine q_seq (q_region (q_x (v:=(.bool true)) hF hS (ex_assign rfl) rfl rfl fun a hF=>q_end (n_sq (q_ret ?_))))
    obtain rfl:=someI hr
    exact ret_of hF hS rfl (.tmp rfl .nil) rfl
  ·have hr:=cond_t hc3 hr
   refine q_cond_t hF rfl hc3 (q_seq (q_region (q_x (v:=(.bool false)) hF hS (ex_assign rfl) rfl rfl fun a hF=>q_end (n_sq (q_ret (r_sq ?_))))))
   obtain rfl:=someI hr
   exact ret_of hF hS rfl (.tmp rfl .nil) rfl

theorem c_impl_IsSchema (p_s : List impl_Variable) (r : Bool) (hr : impl_IsSchema p_s = some r) (w0 : World) (m : Mem) (hv : Vis m w0) (s1 : Sl) (h1 : Rd m s1 p_s) :
  Ret Tryd.prog 20 [s1.v] w0 (fun v _=>v = (.bool r)):=by
 unfold impl_IsSchema at hr
 refine ret_start Tryd.func20 rfl 51 rfl rfl m hv fun a hF hS=>q_seq (q_region (q_x (v:=(.bool false)) hF hS (ex_assign rfl) rfl rfl fun a hF=>q_end (n_sq (q_seq (q_seq ?_)))))
 obtain ⟨t_2,hj1,hr⟩:=bindS hr
 refine q_join (fun a w=>Fr a 51 [(0,s1.v),(14,(.bool t_2))]∧St [] w0 w m []) ?_ ?_
 ·refine q_region (q_x (v:=s1.v) hF hS (ex_move rfl) rfl rfl fun a hF=>q_x (v:=(iV (goLen p_s))) hF hS (ex_len Tryd.underlying24 rfl h1.len) rfl rfl fun a hF=>q_x (v:=(.bool (decide ((goLen p_s) < 1)))) hF hS (ex_ibin rfl rfl rfl) rfl rfl fun a hF=>q_x (v:=(.bool (decide ((goLen p_s) < 1)))) hF hS (ex_move rfl) rfl rfl fun a hF=>?_)
  rcases bcase (decide ((goLen p_s) < 1)) with hc2 | hc2
  ·have hj1:=cond_f hc2 hj1
   refine q_xg (v:=s1.v) hF hS (ex_move rfl) (wanted_t hF rfl rfl rfl hc2) rfl fun a hF=>q_xg (v:=(iV (goLen p_s))) hF hS (ex_len Tryd.underlying24 rfl h1.len) (wanted_t hF rfl rfl rfl hc2) rfl fun a hF=>q_xg (v:=(.bool (decide (6 < (goLen p_s))))) hF hS (ex_ibin rfl rfl rfl) (wanted_t hF rfl rfl rfl hc2) rfl fun a hF=>q_x (v:=(.bool (decide (6 < (goLen p_s))))) hF hS (ex_pick_f rfl rfl hc2) rfl rfl fun a hF=>q_end (n_jn ?_)
   obtain rfl:=someI hj1
   exact ⟨hF.sub ⟨rfl,rfl,trivial⟩,hS⟩
  ·have hj1:=cond_t hc2 hj1
   refine q_skip hF (wanted_f hF rfl rfl rfl hc2 rfl) rfl fun a hF=>q_skip hF (wanted_f hF rfl rfl rfl hc2 rfl) rfl fun a hF=>q_skip hF (wanted_f hF rfl rfl rfl hc2 rfl) rfl fun a hF=>q_x (v:=(.bool true)) hF hS (ex_pick_t rfl rfl hc2) rfl rfl fun a hF=>q_end (n_jn ?_)
   obtain rfl:=someI hj1
   exact ⟨hF.sub ⟨rfl,rfl,trivial⟩,hS⟩
 ·rintro a w ⟨hF,hS⟩
  refine n_sq ?_
  rcases bcase (t_2) with hc3 | hc3
  ·have hr:=cond_f hc3 hr
   refine q_cond_f hF rfl hc3 (q_skipc (n_sq (q_seq (q_seq (q_region (q_x (v:=s1.v) hF hS (ex_move rfl) rfl rfl fun a hF=>q_x (v:=(iV (goLen p_s))) hF hS (ex_len Tryd.underlying24 rfl h1.len) rfl rfl fun a hF=>q_x (v:=(iV 0)) hF hS (ex_move rfl) rfl rfl fun a hF=>q_end (n_sq (q_block ?_))))))))
   obtain ⟨o4,hl4,hr⟩:=bindS hr
   refine q_loop (fun (t_3 : Int) a w=>Fr a 51 [(0,s1.v),(15,s1.v),(16,(iV (goLen p_s))),(17,(iV t_3))]∧St [] w0 w m []) (fun (o : (Unit) ⊕ (Bool)) e a w=>o = .inl ()∧e = .exit 0∧Fr a 51 []∧St [] w0 w m []) hl4 ⟨hF.sub ⟨rfl,rfl,rfl,rfl,trivial⟩,hS⟩ ?_ ?_
   ·clear hF hS
    rintro t_3 a w st ⟨hF,hS⟩ hb4
    unfold impl_IsSchema_l1 at hb4
    refine q_seq (q_region (q_x (v:=(.bool (decide (t_3 < (goLen p_s))))) hF hS (ex_ibin rfl rfl rfl) rfl rfl fun a hF=>q_end (n_sq (q_seq ?_))))
    rcases bcase (decide (t_3 < (goLen p_s))) with hc5 | hc5
    ·have hb4:=cond_f hc5 hb4
     refine q_cond_f hF rfl hc5 (q_exit (x_sq ?_))
     obtain rfl:=someI hb4
     exact ⟨nofun,.inl ⟨rfl,rfl,hF.sub trivial,hS⟩⟩
    ·have hb4:=cond_t hc5 hb4
     refine q_cond_t hF rfl hc5 (q_skipc (n_sq (q_seq (q_block (q_seq (q_region (q_x (v:=(iV t_3)) hF hS (ex_move rfl) rfl rfl fun a hF=>?_)))))))
     obtain ⟨e_4,he_4,hb4⟩:=bindS hb4
     obtain ⟨vs5,at5,d5⟩:=h1.at he_4 2 rfl
     obtain rfl : vs5 = [(strV e_4.Name),(iV e_4.Levels)]:=d5
     refine q_x (v:=(elP s1 (t_3.toNat * 2))) hF hS (ex_indexAddr Tryd.underlying24 sz63 rfl rfl (h1.idx he_4)) rfl rfl fun a hF=>q_x (v:=(.agg #[(strV e_4.Name),(iV e_4.Levels)])) hF hS (ex_loadEA (us:=[(strV e_4.Name),(iV e_4.Levels)]) 0 Tryd.underlying63 rfl sz63 rfl ((at5).at) rfl rfl rfl) rfl rfl fun a hF=>q_alloc (cs:=[(strV ([] : List UInt8)),(iV 0)]) hF hS rfl rfl rfl fun a w b6 hF hS=>q_x (v:=(iV t_3)) hF hS (ex_assign rfl) rfl rfl fun a hF=>q_store (vs:=[(strV e_4.Name),(iV e_4.Levels)]) (cs':=[(strV e_4.Name),(iV e_4.Levels)]) 0 0 hF hS sz63 rfl rfl rfl rfl rfl rfl rfl rfl fun a w hF hS=>q_end (n_sq (q_seq (q_seq ?_)))
     obtain ⟨t_8,hj6,hb4⟩:=bindS hb4
     refine q_join (fun a w=>Fr a 51 [(0,s1.v),(3,(iV t_3)),(4,(.pointer (some ⟨b6,0,none⟩))),(15,s1.v),(16,(iV (goLen p_s))),(17,(iV t_3)),(35,(.bool t_8))]∧St [] w0 w m [[⟨b6,[(strV e_4.Name),(iV e_4.Levels)],63⟩]]) ?_ ?_
     ·refine q_region (q_x (v:=(.pointer (some ⟨b6,0,none⟩))) hF hS (ex_fieldAddr Tryd.underlying63 rfl sz9 rfl rfl) rfl rfl fun a hF=>q_x (v:=(strV e_4.Name)) hF hS (ex_load1 0 0 Tryd.underlying9 rfl rfl rfl rfl) rfl rfl fun a hF=>?_)
      obtain ⟨t_7,ht_7,hj6⟩:=bindS hj6
      refine q_call (vs:=[(strV e_4.Name)]) hF hS Tryd.func46 (by kernel_rfl) rfl rfl rfl (c_impl_isWord e_4.Name t_7 ht_7 _ m hS.vis) ?_
      rintro a w _ rfl hF hS
      refine q_x (v:=(.bool (!t_7))) hF hS (ex_not rfl) rfl rfl fun a hF=>q_x (v:=(.bool (!t_7))) hF hS (ex_move rfl) rfl rfl fun a hF=>?_
      rcases bcase (!t_7) with hc7 | hc7
      ·have hj6:=cond_f hc7 hj6
       refine q_xg (v:=(.pointer (some ⟨b6,1,none⟩))) hF hS (ex_fieldAddr Tryd.underlying63 rfl sz3 rfl rfl) (wanted_t hF rfl rfl rfl hc7) rfl fun a hF=>q_xg (v:=(iV e_4.Levels)) hF hS (ex_load1 0 0 Tryd.underlying3 rfl rfl rfl rfl) (wanted_t hF rfl rfl rfl hc7) rfl fun a hF=>q_xg (v:=(.bool (decide (e_4.Levels < 2)))) hF hS (ex_ibin rfl rfl rfl) (wanted_t hF rfl rfl rfl hc7) rfl fun a hF=>q_x (v:=(.bool (decide (e_4.Levels < 2)))) hF hS (ex_pick_f rfl rfl hc7) rfl rfl fun a hF=>q_x (v:=(.bool (decide (e_4.Levels < 2)))) hF hS (ex_move rfl) rfl rfl fun a hF=>?_
       rcases bcase (decide (e_4.Levels < 2)) with hc8 | hc8
       ·have hj6:=cond_f hc8 hj6
        refine q_xg (v:=(.pointer (some ⟨b6,1,none⟩))) hF hS (ex_fieldAddr Tryd.underlying63 rfl sz3 rfl rfl) (wanted_t hF rfl rfl rfl hc8) rfl fun a hF=>q_xg (v:=(iV e_4.Levels)) hF hS (ex_load1 0 0 Tryd.underlying3 rfl rfl rfl rfl) (wanted_t hF rfl rfl rfl hc8) rfl fun a hF=>q_xg (v:=(.bool (decide (8 < e_4.Levels)))) hF hS (ex_ibin rfl rfl rfl) (wanted_t hF rfl rfl rfl hc8) rfl fun a hF=>q_x (v:=(.bool (decide (8 < e_4.Levels)))) hF hS (ex_pick_f rfl rfl hc8) rfl rfl fun a hF=>q_end (n_jn ?_)
        obtain rfl:=someI hj6
        exact ⟨hF.sub ⟨rfl,rfl,rfl,rfl,rfl,rfl,rfl,trivial⟩,hS⟩
       ·have hj6:=cond_t hc8 hj6
        refine q_skip hF (wanted_f hF rfl rfl rfl hc8 rfl) rfl fun a hF=>q_skip hF (wanted_f hF rfl rfl rfl hc8 rfl) rfl fun a hF=>q_skip hF (wanted_f hF rfl rfl rfl hc8 rfl) rfl fun a hF=>q_x (v:=(.bool true)) hF hS (ex_pick_t rfl rfl hc8) rfl rfl fun a hF=>q_end (n_jn ?_)
        obtain rfl:=someI hj6
        exact ⟨hF.sub ⟨rfl,rfl,rfl,rfl,rfl,rfl,rfl,trivial⟩,hS⟩
      ·have hj6:=cond_t hc7 hj6
       refine q_skip hF (wanted_f hF rfl rfl rfl hc7 rfl) rfl fun a hF=>q_skip hF (wanted_f hF rfl rfl rfl hc7 rfl) rfl fun a hF=>q_skip hF (wanted_f hF rfl rfl rfl hc7 rfl) rfl fun a hF=>q_x (v:=(.bool true)) hF hS (ex_pick_t rfl rfl hc7) rfl rfl fun a hF=>q_x (v:=(.bool true)) hF hS (ex_move rfl) rfl rfl fun a hF=>q_skip hF (wanted_f hF rfl rfl rfl rfl rfl) rfl fun a hF=>q_skip hF (wanted_f hF rfl rfl rfl rfl rfl) rfl fun a hF=>q_skip hF (wanted_f hF rfl rfl rfl rfl rfl) rfl fun a hF=>q_x (v:=(.bool true)) hF hS (ex_pick_t rfl rfl rfl) rfl rfl fun a hF=>q_end (n_jn ?_)
       obtain rfl:=someI hj6
       exact ⟨hF.sub ⟨rfl,rfl,rfl,rfl,rfl,rfl,rfl,trivial⟩,hS⟩
     ·rintro a w ⟨hF,hS⟩
      refine n_sq ?_
      rcases bcase (t_8) with hc9 | hc9
      ·have hb4:=cond_f hc9 hb4
       refine q_cond_f hF rfl hc9 (q_skipc (n_sq (q_seq (q_region (q_x (v:=s1.v) hF hS (ex_move rfl) rfl rfl fun a hF=>q_x (v:=(iV t_3)) hF hS (ex_move rfl) rfl rfl fun a hF=>?_)))))
       obtain ⟨l_9,hl_9,hb4⟩:=bindS hb4
       have h10 : Rd m (subS s1 2 (0 : Int).toNat t_3.toNat s1.cap) l_9:=h1.sub' hl_9 2 rfl
       refine q_x (v:=(subS s1 2 (0 : Int).toNat t_3.toNat s1.cap).v) hF hS (ex_slice Tryd.underlying24 sz63 rfl rfl rfl (.inl ⟨rfl,rfl⟩) (.inr ⟨_,rfl⟩) (h1.subok hl_9)) rfl rfl fun a hF=>q_x (v:=(iV (goLen l_9))) hF hS (ex_len Tryd.underlying24 rfl h10.len) rfl rfl fun a hF=>q_x (v:=(iV 0)) hF hS (ex_move rfl) rfl rfl fun a hF=>q_end (n_sq (q_block ?_))
       obtain ⟨o10,hl10,hb4⟩:=bindS hb4
       refine q_loop (fun (t_11 : Int) a w=>Fr a 51 [(0,s1.v),(4,(.pointer (some ⟨b6,0,none⟩))),(15,s1.v),(16,(iV (goLen p_s))),(17,(iV t_3)),(38,(subS s1 2 (0 : Int).toNat t_3.toNat s1.cap).v),(39,(iV (goLen l_9))),(40,(iV t_11))]∧St [] w0 w m [[⟨b6,[(strV e_4.Name),(iV e_4.Levels)],63⟩]]) (fun (o : (Unit) ⊕ (Stp (Int) ((Unit) ⊕ (Bool)))) e a w=>o = .inl ()∧e = .exit 2∧Fr a 51 [(0,s1.v),(15,s1.v),(16,(iV (goLen p_s))),(17,(iV t_3))]∧St [] w0 w m []) hl10 ⟨hF.sub ⟨rfl,rfl,rfl,rfl,rfl,rfl,rfl,rfl,trivial⟩,hS⟩ ?_ ?_
       ·clear hF hS
        rintro t_11 a w st ⟨hF,hS⟩ hb10
        unfold impl_IsSchema_l2 at hb10
        refine q_seq (q_region (q_x (v:=(.bool (decide (t_11 < (goLen l_9))))) hF hS (ex_ibin rfl rfl rfl) rfl rfl fun a hF=>q_end (n_sq (q_seq ?_))))
        rcases bcase (decide (t_11 < (goLen l_9))) with hc11 | hc11
        ·have hb10:=cond_f hc11 hb10
         refine q_cond_f hF rfl hc11 (q_exit (x_sq ?_))
         obtain rfl:=someI hb10
         exact ⟨nofun,.inl ⟨rfl,rfl,hF.sub ⟨rfl,rfl,rfl,rfl,trivial⟩,hS.mask [false]⟩⟩
        ·have hb10:=cond_t hc11 hb10
         refine q_cond_t hF rfl hc11 (q_skipc (n_sq (q_seq (q_block (q_seq (q_region ?_))))))
         obtain ⟨e_12,he_12,hb10⟩:=bindS hb10
         obtain ⟨vs13,at13,d13⟩:=h10.at he_12 2 rfl
         obtain rfl : vs13 = [(strV e_12.Name),(iV e_12.Levels)]:=d13
         refine q_x (v:=(elP (subS s1 2 (0 : Int).toNat t_3.toNat s1.cap) (t_11.toNat * 2))) hF hS (ex_indexAddr Tryd.underlying24 sz63 rfl rfl (h10.idx he_12)) rfl rfl fun a hF=>q_x (v:=(.agg #[(strV e_12.Name),(iV e_12.Levels)])) hF hS (ex_loadEA (us:=[(strV e_12.Name),(iV e_12.Levels)]) 0 Tryd.underlying63 rfl sz63 rfl ((at13).at) rfl rfl rfl) rfl rfl fun a hF=>q_alloc (cs:=[(strV ([] : List UInt8)),(iV 0)]) hF hS rfl rfl rfl fun a w b14 hF hS=>q_store (vs:=[(strV e_12.Name),(iV e_12.Levels)]) (cs':=[(strV e_12.Name),(iV e_12.Levels)]) 0 0 hF hS sz63 rfl rfl rfl rfl rfl rfl rfl rfl fun a w hF hS=>q_end (n_sq (q_seq (q_region (q_x (v:=(.pointer (some ⟨b14,0,none⟩))) hF hS (ex_fieldAddr Tryd.underlying63 rfl sz9 rfl rfl) rfl rfl fun a hF=>q_x (v:=(strV e_12.Name)) hF hS (ex_load1 0 0 Tryd.underlying9 rfl rfl rfl rfl) rfl rfl fun a hF=>q_x (v:=(.pointer (some ⟨b6,0,none⟩))) hF hS (ex_fieldAddr Tryd.underlying63 rfl sz9 rfl rfl) rfl rfl fun a hF=>q_x (v:=(strV e_4.Name)) hF hS (ex_load1 1 0 Tryd.underlying9 rfl rfl rfl rfl) rfl rfl fun a hF=>q_x (v:=(.bool (e_12.Name == e_4.Name))) hF hS (ex_strEq rfl rfl) rfl rfl fun a hF=>q_end (n_sq ?_)))))
         rcases bcase (e_12.Name == e_4.Name) with hc12 | hc12
         ·have hb10:=cond_f hc12 hb10
          refine q_cond_f hF rfl hc12 (q_skipc (n_ib (n_sq (q_region (q_x (v:=(iV (w64 (t_11 + 1)))) hF hS (ex_ibin rfl rfl rfl) rfl rfl fun a hF=>q_x (v:=(iV (w64 (t_11 + 1)))) hF hS (ex_move rfl) rfl rfl fun a hF=>q_end ?_)))))
          obtain rfl:=someI hb10
          exact ⟨rfl,hF.sub ⟨rfl,rfl,rfl,rfl,rfl,rfl,rfl,rfl,trivial⟩,hS.mask [false,true]⟩
         ·have hb10:=cond_t hc12 hb10
          refine q_cond_t hF rfl hc12 (q_seq (q_region (q_x (v:=(.bool false)) hF hS (ex_assign rfl) rfl rfl fun a hF=>q_end (n_sq (q_ret (r_ib (r_sq ?_)))))))
          obtain rfl:=someI hb10
          refine ⟨nofun,.inr fun ho=>?_⟩
          subst ho
          refine r_ib (r_ib (r_sq ?_))
          obtain rfl:=someI hb4
          refine ⟨nofun,.inr fun ho=>?_⟩
          subst ho
          refine r_ib (r_sq ?_)
          obtain rfl:=someI hr
          exact ret_of hF hS rfl (.tmp rfl .nil) rfl
       ·rintro e a w ⟨rfl,rfl,hF,hS⟩
        refine x_ib (n_ib (n_sq ?_))
        refine q_region (q_x (v:=(iV (w64 (t_3 + 1)))) hF hS (ex_ibin rfl rfl rfl) rfl rfl fun a hF=>q_x (v:=(iV (w64 (t_3 + 1)))) hF hS (ex_move rfl) rfl rfl fun a hF=>q_end ?_)
        obtain rfl:=someI hb4
        exact ⟨rfl,hF.sub ⟨rfl,rfl,rfl,rfl,trivial⟩,hS⟩
      ·have hb4:=cond_t hc9 hb4
       refine q_cond_t hF rfl hc9 (q_seq (q_region (q_x (v:=(.bool false)) hF hS (ex_assign rfl) rfl rfl fun a hF=>q_end (n_sq (q_ret (r_sq (r_ib (r_sq ?_))))))))
       obtain rfl:=someI hb4
       refine ⟨nofun,.inr fun ho=>?_⟩
       subst ho
       refine r_ib (r_sq ?_)
       obtain rfl:=someI hr
       exact ret_of hF hS rfl (.tmp rfl .nil) rfl
   ·rintro e a w ⟨rfl,rfl,hF,hS⟩
    refine x_ib (n_sq ?_)
    refine q_seq (q_region (q_x (v:=(.bool true)) hF hS (ex_assign rfl) rfl rfl fun a hF=>q_end (n_sq (q_ret ?_))))
    obtain rfl:=someI hr
    exact ret_of hF hS rfl (.tmp rfl .nil) rfl
  ·have hr:=cond_t hc3 hr
   refine q_cond_t hF rfl hc3 (q_seq (q_region (q_x (v:=(.bool false)) hF hS (ex_assign rfl) rfl rfl fun a hF=>q_end (n_sq (q_ret (r_sq ?_))))))
   obtain rfl:=someI hr
   exact ret_of hF hS rfl (.tmp rfl .nil) rfl

theorem c_impl_fullSet (p_v : impl_Variable) (r : Int) (hr : impl_fullSet p_v = some r) (w0 : World) (m : Mem) (hv : Vis m w0) :
  Ret Tryd.prog 37 [(.agg #[(strV p_v.Name),(iV p_v.Levels)])] w0 (fun v _=>v = (iV r)):=by
 unfold impl_fullSet at hr
 refine ret_start Tryd.func37 rfl 7 rfl rfl m hv fun a hF hS=>q_seq (q_region (q_box (cs:=[(strV p_v.Name),(iV p_v.Levels)]) hF hS rfl rfl rfl fun a w b1 hF hS=>q_x (v:=(iV 0)) hF hS (ex_assign rfl) rfl rfl fun a hF=>q_end (n_sq (q_seq (q_region (q_x (v:=(.pointer (some ⟨b1,1,none⟩))) hF hS (ex_fieldAddr Tryd.underlying63 rfl sz3 rfl rfl) rfl rfl fun a hF=>q_x (v:=(iV p_v.Levels)) hF hS (ex_load1 0 0 Tryd.underlying3 rfl rfl rfl rfl) rfl rfl fun a hF=>?_))))))
 obtain ⟨t_2,ht_2,hr⟩:=bindS hr
 refine q_x (v:=(iV t_2)) hF hS (ex_shl rfl rfl ht_2) rfl rfl fun a hF=>q_x (v:=(iV (w64 (t_2 - 1)))) hF hS (ex_ibin rfl rfl rfl) rfl rfl fun a hF=>q_x (v:=(iV (w64 (t_2 - 1)))) hF hS (ex_assign rfl) rfl rfl fun a hF=>q_end (n_sq (q_ret ?_))
 obtain rfl:=someI hr
 exact ret_of hF hS rfl (.tmp rfl .nil) rfl

theorem c_impl_isEdit (p_s : List impl_Variable) (p_e : impl_Edit) (r : Bool) (hr : impl_isEdit p_s p_e = some r) (w0 : World) (m : Mem) (hv : Vis m w0) (s1 : Sl) (h1 : Rd m s1 p_s) (s2 : Sl) (h2 : Rd m s2 p_e.Sets) :
  Ret Tryd.prog 21 [s1.v,(.agg #[s2.v])] w0 (fun v _=>v = (.bool r)):=by
 unfold impl_isEdit at hr
 refine ret_start Tryd.func21 rfl 33 rfl rfl m hv fun a hF hS=>q_seq (q_region (q_box (cs:=[s2.v]) hF hS rfl rfl rfl fun a w b3 hF hS=>q_x (v:=(.bool false)) hF hS (ex_assign rfl) rfl rfl fun a hF=>q_end (n_sq (q_seq (q_seq (q_region (q_x (v:=(.pointer (some ⟨b3,0,none⟩))) hF hS (ex_fieldAddr Tryd.underlying27 rfl sz25 rfl rfl) rfl rfl fun a hF=>q_x (v:=s2.v) hF hS (ex_load1 0 0 Tryd.underlying25 rfl rfl rfl rfl) rfl rfl fun a hF=>q_x (v:=(iV (goLen p_e.Sets))) hF hS (ex_len Tryd.underlying25 rfl h2.len) rfl rfl fun a hF=>q_x (v:=s1.v) hF hS (ex_move rfl) rfl rfl fun a hF=>q_x (v:=(iV (goLen p_s))) hF hS (ex_len Tryd.underlying24 rfl h1.len) rfl rfl fun a hF=>q_x (v:=(.bool ((goLen p_e.Sets) != (goLen p_s)))) hF hS (ex_ibin rfl rfl rfl) rfl rfl fun a hF=>q_end (n_sq ?_))))))))
 rcases bcase ((goLen p_e.Sets) != (goLen p_s)) with hc1 | hc1
 ·have hr:=cond_f hc1 hr
  refine q_cond_f hF rfl hc1 (q_skipc (n_sq (q_seq (q_seq (q_region (q_x (v:=(.pointer (some ⟨b3,0,none⟩))) hF hS (ex_fieldAddr Tryd.underlying27 rfl sz25 rfl rfl) rfl rfl fun a hF=>q_x (v:=s2.v) hF hS (ex_load1 0 0 Tryd.underlying25 rfl rfl rfl rfl) rfl rfl fun a hF=>q_x (v:=(iV (goLen p_e.Sets))) hF hS (ex_len Tryd.underlying25 rfl h2.len) rfl rfl fun a hF=>q_x (v:=(iV 0)) hF hS (ex_move rfl) rfl rfl fun a hF=>q_end (n_sq (q_block ?_))))))))
  obtain ⟨o2,hl2,hr⟩:=bindS hr
  refine q_loop (fun (t_4 : Int) a w=>Fr a 33 [(0,s1.v),(14,s2.v),(15,(iV (goLen p_e.Sets))),(16,(iV t_4))]∧St [] w0 w m []) (fun (o : (Unit) ⊕ (Bool)) e a w=>o = .inl ()∧e = .exit 0∧Fr a 33 []∧St [] w0 w m []) hl2 ⟨hF.sub ⟨rfl,rfl,rfl,rfl,trivial⟩,hS.mask [false]⟩ ?_ ?_
  ·clear hF hS
   rintro t_4 a w st ⟨hF,hS⟩ hb2
   unfold impl_isEdit_l1 at hb2
   refine q_seq (q_region (q_x (v:=(.bool (decide (t_4 < (goLen p_e.Sets))))) hF hS (ex_ibin rfl rfl rfl) rfl rfl fun a hF=>q_end (n_sq (q_seq ?_))))
   rcases bcase (decide (t_4 < (goLen p_e.Sets))) with hc3 | hc3
   ·have hb2:=cond_f hc3 hb2
    refine q_cond_f hF rfl hc3 (q_exit (x_sq ?_))
    obtain rfl:=someI hb2
    exact ⟨nofun,.inl ⟨rfl,rfl,hF.sub trivial,hS⟩⟩
   ·have hb2:=cond_t hc3 hb2
    refine q_cond_t hF rfl hc3 (q_skipc (n_sq (q_seq (q_block (q_seq (q_region (q_x (v:=(iV t_4)) hF hS (ex_move rfl) rfl rfl fun a hF=>?_)))))))
    obtain ⟨e_5,he_5,hb2⟩:=bindS hb2
    obtain ⟨vs6,at6,d6⟩:=h2.at he_5 1 rfl
    obtain rfl : vs6 = [(iV e_5)]:=d6
    refine q_x (v:=(elP s2 (t_4.toNat * 1))) hF hS (ex_indexAddr Tryd.underlying25 sz3 rfl rfl (h2.idx he_5)) rfl rfl fun a hF=>q_x (v:=(iV e_5)) hF hS (ex_loadE1 0 Tryd.underlying3 rfl rfl ((at6).at) rfl rfl) rfl rfl fun a hF=>q_x (v:=(iV t_4)) hF hS (ex_assign rfl) rfl rfl fun a hF=>q_x (v:=(iV e_5)) hF hS (ex_assign rfl) rfl rfl fun a hF=>q_end (n_sq (q_seq ?_))
    obtain ⟨t_10,hj4,hb2⟩:=bindS hb2
    refine q_join (fun a w=>Fr a 33 [(0,s1.v),(14,s2.v),(15,(iV (goLen p_e.Sets))),(16,(iV t_4)),(31,(.bool t_10))]∧St [] w0 w m []) ?_ ?_
    ·refine q_region (q_x (v:=(iV e_5)) hF hS (ex_move rfl) rfl rfl fun a hF=>q_x (v:=(.bool (decide (e_5 < 1)))) hF hS (ex_ibin rfl rfl rfl) rfl rfl fun a hF=>q_x (v:=(.bool (decide (e_5 < 1)))) hF hS (ex_move rfl) rfl rfl fun a hF=>?_)
     rcases bcase (decide (e_5 < 1)) with hc5 | hc5
     ·have hj4:=cond_f hc5 hj4
      refine q_xg (v:=(iV e_5)) hF hS (ex_move rfl) (wanted_t hF rfl rfl rfl hc5) rfl fun a hF=>q_xg (v:=s1.v) hF hS (ex_move rfl) (wanted_t hF rfl rfl rfl hc5) rfl fun a hF=>q_xg (v:=(iV t_4)) hF hS (ex_move rfl) (wanted_t hF rfl rfl rfl hc5) rfl fun a hF=>?_
      obtain ⟨e_7,he_7,hj4⟩:=bindS hj4
      obtain ⟨vs8,at8,d8⟩:=h1.at he_7 2 rfl
      obtain rfl : vs8 = [(strV e_7.Name),(iV e_7.Levels)]:=d8
      refine q_xg (v:=(elP s1 (t_4.toNat * 2))) hF hS (ex_indexAddr Tryd.underlying24 sz63 rfl rfl (h1.idx he_7)) (wanted_t hF rfl rfl rfl hc5) rfl fun a hF=>q_xg (v:=(.agg #[(strV e_7.Name),(iV e_7.Levels)])) hF hS (ex_loadEA (us:=[(strV e_7.Name),(iV e_7.Levels)]) 0 Tryd.underlying63 rfl sz63 rfl ((at8).at) rfl rfl rfl) (wanted_t hF rfl rfl rfl hc5) rfl fun a hF=>?_
      obtain ⟨t_9,ht_9,hj4⟩:=bindS hj4
      refine q_callg (vs:=[(.agg #[(strV e_7.Name),(iV e_7.Levels)])]) hF hS (wanted_t hF rfl rfl rfl hc5) Tryd.func37 (by kernel_rfl) rfl rfl rfl (c_impl_fullSet e_7 t_9 ht_9 _ m hS.vis) ?_
      rintro a w _ rfl hF hS
      refine q_xg (v:=(.bool (decide (t_9 < e_5)))) hF hS (ex_ibin rfl rfl rfl) (wanted_t hF rfl rfl rfl hc5) rfl fun a hF=>q_x (v:=(.bool (decide (t_9 < e_5)))) hF hS (ex_pick_f rfl rfl hc5) rfl rfl fun a hF=>q_end (n_jn ?_)
      obtain rfl:=someI hj4
      exact ⟨hF.sub ⟨rfl,rfl,rfl,rfl,rfl,trivial⟩,hS⟩
     ·have hj4:=cond_t hc5 hj4
      refine q_skip hF (wanted_f hF rfl rfl rfl hc5 rfl) rfl fun a hF=>q_skip hF (wanted_f hF rfl rfl rfl hc5 rfl) rfl fun a hF=>q_skip hF (wanted_f hF rfl rfl rfl hc5 rfl) rfl fun a hF=>q_skip hF (wanted_f hF rfl rfl rfl hc5 rfl) rfl fun a hF=>q_skip hF (wanted_f hF rfl rfl rfl hc5 rfl) rfl fun a hF=>q_skip hF (wanted_f hF rfl rfl rfl hc5 rfl) rfl fun a hF=>q_skip hF (wanted_f hF rfl rfl rfl hc5 rfl) rfl fun a hF=>q_x (v:=(.bool true)) hF hS (ex_pick_t rfl rfl hc5) rfl rfl fun a hF=>q_end (n_jn ?_)
      obtain rfl:=someI hj4
      exact ⟨hF.sub ⟨rfl,rfl,rfl,rfl,rfl,trivial⟩,hS⟩
    ·rintro a w ⟨hF,hS⟩
     refine n_sq ?_
     rcases bcase (t_10) with hc6 | hc6
     ·have hb2:=cond_f hc6 hb2
      refine q_cond_f hF rfl hc6 (q_skipc (n_ib (n_sq (q_region (q_x (v:=(iV (w64 (t_4 + 1)))) hF hS (ex_ibin rfl rfl rfl) rfl rfl fun a hF=>q_x (v:=(iV (w64 (t_4 + 1)))) hF hS (ex_move rfl) rfl rfl fun a hF=>q_end ?_)))))
      obtain rfl:=someI hb2
      exact ⟨rfl,hF.sub ⟨rfl,rfl,rfl,rfl,trivial⟩,hS⟩
     ·have hb2:=cond_t hc6 hb2
      refine q_cond_t hF rfl hc6 (q_seq (q_region (q_x (v:=(.bool false)) hF hS (ex_assign rfl) rfl rfl fun a hF=>q_end (n_sq (q_ret (r_ib (r_sq ?_)))))))
      obtain rfl:=someI hb2
      refine ⟨nofun,.inr fun ho=>?_⟩
      subst ho
      refine r_ib (r_sq ?_)
      obtain rfl:=someI hr
      exact ret_of hF hS rfl (.tmp rfl .nil) rfl
  ·rintro e a w ⟨rfl,rfl,hF,hS⟩
   refine x_ib (n_sq ?_)
   refine q_seq (q_region (q_x (v:=(.bool true)) hF hS (ex_assign rfl) rfl rfl fun a hF=>q_end (n_sq (q_ret ?_))))
   obtain rfl:=someI hr
   exact ret_of hF hS rfl (.tmp rfl .nil) rfl
 ·have hr:=cond_t hc1 hr
  refine q_cond_t hF rfl hc1 (q_seq (q_region (q_x (v:=(.bool false)) hF hS (ex_assign rfl) rfl rfl fun a hF=>q_end (n_sq (q_ret (r_sq ?_))))))
  obtain rfl:=someI hr
  exact ret_of hF hS rfl (.tmp rfl .nil) rfl

theorem c_slices_Clone_int_int (p_s : List Int) (r : (List Int)) (hr : slices_Clone_int_int p_s = some r) (w0 : World) (m : Mem) (hv : Vis m w0) (s1 : Sl) (h1 : Rd m s1 p_s) :
  Ret Tryd.prog 22 [s1.v] w0 (fun v w=>∃ (q0' : Piece) (s0' : Sl),v = s0'.v∧St [] w0 w m [q0']∧OwnL m 3 q0' s0' r):=by
 unfold slices_Clone_int_int at hr
 refine ret_start Tryd.func22 rfl 8 rfl rfl m hv fun a hF hS=>q_seq (q_region (q_x (v:=nilS.v) hF hS (ex_assign rfl) rfl rfl fun a hF=>q_end (n_sq (q_seq (q_seq (q_region (q_x (v:=s1.v) hF hS (ex_move rfl) rfl rfl fun a hF=>q_x (v:=(.bool s1.p.isNone)) hF hS (ex_eqNil Tryd.underlying25 rfl rfl) rfl rfl fun a hF=>q_end (n_sq ?_))))))))
 rcases bcase (s1.p.isNone) with hc1 | hc1
 ·refine q_cond_f hF rfl hc1 (q_skipc (n_sq (q_seq (q_region (q_do rfl fun _ hK=>wp_build0 (α:=Int) hF hS Tryd.underlying25 inf3 rfl fun a w q2 s2 hF hS h2 _=>hK _ _ (q_x (v:=s1.v) hF hS (ex_move rfl) rfl rfl fun a hF=>?_))))))
  obtain ⟨l_3,hl_3,hr⟩:=bindS hr
  refine q_do rfl fun _ hK=>wp_append hF hS h2 Tryd.underlying25 inf3 rfl rfl rfl rfl (h1.vw hS.vis) rfl (by decide) hl_3 rfl fun a w q4 s4 hF hS h4=>hK _ _ (q_x (v:=s4.v) hF hS (ex_assign rfl) rfl rfl fun a hF=>q_end (n_sq (q_ret ?_)))
  obtain rfl:=someI hr
  exact ret_of hF hS rfl (.tmp rfl .nil) ⟨q4,s4,rfl,hS.sel [0] (by decide),h4⟩
 ·have hnhc1:=h1.nilE hc1
  have hr : (some ([] : List Int)) = some r:=by rw [hnhc1] at hr; exact hr
  refine q_cond_t hF rfl hc1 (q_seq (q_region (q_x (v:=nilS.v) hF hS (ex_assign rfl) rfl rfl fun a hF=>q_end (n_sq (q_ret (r_sq ?_))))))
  obtain rfl:=someI hr
  exact ret_of hF hS rfl (.tmp rfl .nil) ⟨[],nilS,rfl,hS.sel [0] (by decide),(OwnL.nil (α:=Int) m 3)⟩

theorem c_impl_MeetEdits (p_s : List impl_Variable) (p_e : impl_Edit) (p_f : impl_Edit) (r : impl_Edit × Bool) (hr : impl_MeetEdits p_s p_e p_f = some r) (w0 : World) (m : Mem) (hv : Vis m w0) (s1 : Sl) (h1 : Rd m s1 p_s) (s2 : Sl) (h2 : Rd m s2 p_e.Sets) (s3 : Sl) (h3 : Rd m s3 p_f.Sets) :
  Ret Tryd.prog 6 [s1.v,(.agg #[s2.v]),(.agg #[s3.v])] w0 (fun v w=>∃ (q0' : Piece) (s0' : Sl),v = (.tuple #[(.agg #[s0'.v]),(.bool r.2)])∧St [] w0 w m [q0']∧OwnL m 3 q0' s0' r.1.Sets):=by
 unfold impl_MeetEdits at hr
 refine ret_start Tryd.func6 rfl 54 rfl rfl m hv fun a hF hS=>q_seq (q_region (q_box (cs:=[s2.v]) hF hS rfl rfl rfl fun a w b4 hF hS=>q_box (cs:=[s3.v]) hF hS rfl rfl rfl fun a w b5 hF hS=>q_alloc (cs:=[nilS.v]) hF hS rfl rfl rfl fun a w b6 hF hS=>q_x (v:=(.bool false)) hF hS (ex_assign rfl) rfl rfl fun a hF=>q_end (n_sq (q_seq (q_seq ?_)))))
 obtain ⟨t_10,hj1,hr⟩:=bindS hr
 refine q_join (fun a w=>Fr a 54 [(4,(.pointer (some ⟨b4,0,none⟩))),(5,(.pointer (some ⟨b5,0,none⟩))),(6,(.pointer (some ⟨b6,0,none⟩))),(25,(.bool t_10))]∧St [] w0 w m [[⟨b6,[nilS.v],27⟩],[⟨b5,[s3.v],27⟩],[⟨b4,[s2.v],27⟩]]) ?_ ?_
 ·refine q_region (q_x (v:=s1.v) hF hS (ex_move rfl) rfl rfl fun a hF=>?_)
  obtain ⟨t_7,ht_7,hj1⟩:=bindS hj1
  refine q_call (vs:=[s1.v]) hF hS Tryd.func20 (by kernel_rfl) rfl rfl rfl (c_impl_IsSchema p_s t_7 ht_7 _ m hS.vis s1 h1) ?_
  rintro a w _ rfl hF hS
  refine q_x (v:=(.bool (!t_7))) hF hS (ex_not rfl) rfl rfl fun a hF=>q_x (v:=(.bool (!t_7))) hF hS (ex_move rfl) rfl rfl fun a hF=>?_
  rcases bcase (!t_7) with hc2 | hc2
  ·have hj1:=cond_f hc2 hj1
   refine q_xg (v:=s1.v) hF hS (ex_move rfl) (wanted_t hF rfl rfl rfl hc2) rfl fun a hF=>q_xg (v:=(.agg #[s2.v])) hF hS (ex_loadA (vs:=[s2.v]) 2 0 Tryd.underlying27 rfl sz27 rfl rfl rfl rfl) (wanted_t hF rfl rfl rfl hc2) rfl fun a hF=>?_
   obtain ⟨t_8,ht_8,hj1⟩:=bindS hj1
   refine q_callg (vs:=[s1.v,(.agg #[s2.v])]) hF hS (wanted_t hF rfl rfl rfl hc2) Tryd.func21 (by kernel_rfl) rfl rfl rfl (c_impl_isEdit p_s p_e t_8 ht_8 _ m hS.vis s1 h1 s2 h2) ?_
   rintro a w _ rfl hF hS
   refine q_xg (v:=(.bool (!t_8))) hF hS (ex_not rfl) (wanted_t hF rfl rfl rfl hc2) rfl fun a hF=>q_x (v:=(.bool (!t_8))) hF hS (ex_pick_f rfl rfl hc2) rfl rfl fun a hF=>q_x (v:=(.bool (!t_8))) hF hS (ex_move rfl) rfl rfl fun a hF=>?_
   rcases bcase (!t_8) with hc3 | hc3
   ·have hj1:=cond_f hc3 hj1
    refine q_xg (v:=s1.v) hF hS (ex_move rfl) (wanted_t hF rfl rfl rfl hc3) rfl fun a hF=>q_xg (v:=(.agg #[s3.v])) hF hS (ex_loadA (vs:=[s3.v]) 1 0 Tryd.underlying27 rfl sz27 rfl rfl rfl rfl) (wanted_t hF rfl rfl rfl hc3) rfl fun a hF=>?_
    obtain ⟨t_9,ht_9,hj1⟩:=bindS hj1
    refine q_callg (vs:=[s1.v,(.agg #[s3.v])]) hF hS (wanted_t hF rfl rfl rfl hc3) Tryd.func21 (by kernel_rfl) rfl rfl rfl (c_impl_isEdit p_s p_f t_9 ht_9 _ m hS.vis s1 h1 s3 h3) ?_
    rintro a w _ rfl hF hS
    refine q_xg (v:=(.bool (!t_9))) hF hS (ex_not rfl) (wanted_t hF rfl rfl rfl hc3) rfl fun a hF=>q_x (v:=(.bool (!t_9))) hF hS (ex_pick_f rfl rfl hc3) rfl rfl fun a hF=>q_end (n_jn ?_)
    obtain rfl:=someI hj1
    exact ⟨hF.sub ⟨rfl,rfl,rfl,rfl,trivial⟩,hS⟩
   ·have hj1:=cond_t hc3 hj1
    refine q_skip hF (wanted_f hF rfl rfl rfl hc3 rfl) rfl fun a hF=>q_skip hF (wanted_f hF rfl rfl rfl hc3 rfl) rfl fun a hF=>q_skip hF (wanted_f hF rfl rfl rfl hc3 rfl) rfl fun a hF=>q_skip hF (wanted_f hF rfl rfl rfl hc3 rfl) rfl fun a hF=>q_x (v:=(.bool true)) hF hS (ex_pick_t rfl rfl hc3) rfl rfl fun a hF=>q_end (n_jn ?_)
    obtain rfl:=someI hj1
    exact ⟨hF.sub ⟨rfl,rfl,rfl,rfl,trivial⟩,hS⟩
  ·have hj1:=cond_t hc2 hj1
   refine q_skip hF (wanted_f hF rfl rfl rfl hc2 rfl) rfl fun a hF=>q_skip hF (wanted_f hF rfl rfl rfl hc2 rfl) rfl fun a hF=>q_skip hF (wanted_f hF rfl rfl rfl hc2 rfl) rfl fun a hF=>q_skip hF (wanted_f hF rfl rfl rfl hc2 rfl) rfl fun a hF=>q_x (v:=(.bool true)) hF hS (ex_pick_t rfl rfl hc2) rfl rfl fun a hF=>q_x (v:=(.bool true)) hF hS (ex_move rfl) rfl rfl fun a hF=>q_skip hF (wanted_f hF rfl rfl rfl rfl rfl) rfl fun a hF=>q_skip hF (wanted_f hF rfl rfl rfl rfl rfl) rfl fun a hF=>q_skip hF (wanted_f hF rfl rfl rfl rfl rfl) rfl fun a hF=>q_skip hF (wanted_f hF rfl rfl rfl rfl rfl) rfl fun a hF=>q_x (v:=(.bool true)) hF hS (ex_pick_t rfl rfl rfl) rfl rfl fun a hF=>q_end (n_jn ?_)
   obtain rfl:=someI hj1
   exact ⟨hF.sub ⟨rfl,rfl,rfl,rfl,trivial⟩,hS⟩
 ·rintro a w ⟨hF,hS⟩
  refine n_sq ?_
  rcases bcase (t_10) with hc4 | hc4
  ·have hr:=cond_f hc4 hr
   refine q_cond_f hF rfl hc4 (q_skipc (n_sq (q_seq (q_region (q_x (v:=(.pointer (some ⟨b4,0,none⟩))) hF hS (ex_fieldAddr Tryd.underlying27 rfl sz25 rfl rfl) rfl rfl fun a hF=>q_x (v:=s2.v) hF hS (ex_load1 2 0 Tryd.underlying25 rfl rfl rfl rfl) rfl rfl fun a hF=>?_)))))
   obtain ⟨t_11,ht_11,hr⟩:=bindS hr
   refine q_call (vs:=[s2.v]) hF hS Tryd.func22 (by kernel_rfl) rfl rfl rfl (c_slices_Clone_int_int p_e.Sets t_11 ht_11 _ m hS.vis s2 h2) ?_
   rintro a w _ ⟨q13,s13,rfl,hR12,h13⟩ hF hS2
   have hS : St _ _ _ _ [q13,[⟨b6,[nilS.v],27⟩],[⟨b5,[s3.v],27⟩],[⟨b4,[s2.v],27⟩]]:=hS.joinF hR12
   refine q_x (v:=s13.v) hF hS (ex_assign rfl) rfl rfl fun a hF=>q_end (n_sq (q_seq (q_seq (q_region (q_x (v:=(.pointer (some ⟨b5,0,none⟩))) hF hS (ex_fieldAddr Tryd.underlying27 rfl sz25 rfl rfl) rfl rfl fun a hF=>q_x (v:=s3.v) hF hS (ex_load1 2 0 Tryd.underlying25 rfl rfl rfl rfl) rfl rfl fun a hF=>q_x (v:=(iV (goLen p_f.Sets))) hF hS (ex_len Tryd.underlying25 rfl h3.len) rfl rfl fun a hF=>q_x (v:=(iV 0)) hF hS (ex_move rfl) rfl rfl fun a hF=>q_end (n_sq (q_block ?_)))))))
   obtain ⟨o5,hl5,hr⟩:=bindS hr
   refine q_loop (fun (s : (List Int) × Int) a w=>∃ (q15 : Piece),∃ meet_14,∃ t_16,s = (meet_14,t_16)∧Fr a 54 [(6,(.pointer (some ⟨b6,0,none⟩))),(8,s13.v),(31,s3.v),(32,(iV (goLen p_f.Sets))),(33,(iV t_16))]∧St [] w0 w m [q15,[⟨b6,[nilS.v],27⟩]]∧OwnL m 3 q15 s13 meet_14) (fun (o : ((List Int)) ⊕ (impl_Edit × Bool)) e a w=>∃ (q27 : Piece),∃ meet_26,o = .inl meet_26∧e = .exit 0∧Fr a 54 [(6,(.pointer (some ⟨b6,0,none⟩))),(8,s13.v)]∧St [] w0 w m [q27,[⟨b6,[nilS.v],27⟩]]∧OwnL m 3 q27 s13 meet_26) hl5 ⟨q13,_,_,rfl,hF.sub ⟨rfl,rfl,rfl,rfl,rfl,trivial⟩,hS.mask [true,true,false,false],h13⟩ ?_ ?_
   ·clear hF hS
    rintro s a w st ⟨q15,meet_14,t_16,rfl,hF,hS,h15⟩ hb5
    unfold impl_MeetEdits_l1 at hb5
    refine q_seq (q_region (q_x (v:=(.bool (decide (t_16 < (goLen p_f.Sets))))) hF hS (ex_ibin rfl rfl rfl) rfl rfl fun a hF=>q_end (n_sq (q_seq ?_))))
    rcases bcase (decide (t_16 < (goLen p_f.Sets))) with hc6 | hc6
    ·have hb5:=cond_f hc6 hb5
     refine q_cond_f hF rfl hc6 (q_exit (x_sq ?_))
     obtain rfl:=someI hb5
     exact ⟨nofun,.inl ⟨q15,_,rfl,rfl,hF.sub ⟨rfl,rfl,trivial⟩,hS,h15⟩⟩
    ·have hb5:=cond_t hc6 hb5
     refine q_cond_t hF rfl hc6 (q_skipc (n_sq (q_seq (q_block (q_seq (q_region (q_x (v:=(iV t_16)) hF hS (ex_move rfl) rfl rfl fun a hF=>?_)))))))
     obtain ⟨e_17,he_17,hb5⟩:=bindS hb5
     obtain ⟨vs18,at18,d18⟩:=h3.at he_17 1 rfl
     obtain rfl : vs18 = [(iV e_17)]:=d18
     refine q_x (v:=(elP s3 (t_16.toNat * 1))) hF hS (ex_indexAddr Tryd.underlying25 sz3 rfl rfl (h3.idx he_17)) rfl rfl fun a hF=>q_x (v:=(iV e_17)) hF hS (ex_loadE1 0 Tryd.underlying3 rfl rfl ((at18).at) rfl rfl) rfl rfl fun a hF=>q_x (v:=(iV t_16)) hF hS (ex_assign rfl) rfl rfl fun a hF=>q_x (v:=(iV e_17)) hF hS (ex_assign rfl) rfl rfl fun a hF=>q_end (n_sq (q_seq (q_region (q_x (v:=s13.v) hF hS (ex_move rfl) rfl rfl fun a hF=>q_x (v:=(iV t_16)) hF hS (ex_move rfl) rfl rfl fun a hF=>?_))))
     obtain ⟨e_19,he_19,hb5⟩:=bindS hb5
     obtain ⟨vs20,at20,d20⟩:=h15.at he_19 1 rfl
     obtain rfl : vs20 = [(iV e_19)]:=d20
     refine q_x (v:=(elP s13 (t_16.toNat * 1))) hF hS (ex_indexAddr Tryd.underlying25 sz3 rfl rfl (h15.idx he_19)) rfl rfl fun a hF=>q_x (v:=(iV e_19)) hF hS (ex_loadE1 0 Tryd.underlying3 rfl rfl (at20.at 0 rfl) rfl rfl) rfl rfl fun a hF=>q_x (v:=(iV e_17)) hF hS (ex_move rfl) rfl rfl fun a hF=>q_x (v:=(iV (goBits .and .i64 e_19 e_17))) hF hS (ex_bits rfl rfl rfl) rfl rfl fun a hF=>?_
     obtain ⟨e_21,he_21,hb5⟩:=bindS hb5
     obtain ⟨vs22,at22,d22⟩:=h15.at he_21 1 rfl
     obtain rfl : vs22 = [(iV e_21)]:=d22
     refine q_x (v:=(elP s13 (t_16.toNat * 1))) hF hS (ex_indexAddr Tryd.underlying25 sz3 rfl rfl (h15.idx he_21)) rfl rfl fun a hF=>q_do rfl fun _ hK=>wp_storeE (e':=goBits .and .i64 e_19 e_17) (us:=[(iV (goBits .and .i64 e_19 e_17))]) (vs:=[(iV e_21)]) 0 hF hS h15 sz3 rfl rfl rfl rfl rfl rfl rfl he_21 at22 rfl rfl rfl fun w q23 hS h23=>hK _ _ (q_end (n_sq (q_seq (q_region (q_x (v:=s13.v) hF hS (ex_move rfl) rfl rfl fun a hF=>q_x (v:=(iV t_16)) hF hS (ex_move rfl) rfl rfl fun a hF=>?_)))))
     obtain ⟨e_24,he_24,hb5⟩:=bindS hb5
     obtain ⟨vs25,at25,d25⟩:=h23.at he_24 1 rfl
     obtain rfl : vs25 = [(iV e_24)]:=d25
     refine q_x (v:=(elP s13 (t_16.toNat * 1))) hF hS (ex_indexAddr Tryd.underlying25 sz3 rfl rfl (h23.idx he_24)) rfl rfl fun a hF=>q_x (v:=(iV e_24)) hF hS (ex_loadE1 0 Tryd.underlying3 rfl rfl (at25.at 0 rfl) rfl rfl) rfl rfl fun a hF=>q_x (v:=(.bool (e_24 == 0))) hF hS (ex_ibin rfl rfl rfl) rfl rfl fun a hF=>q_end (n_sq ?_)
     rcases bcase (e_24 == 0) with hc7 | hc7
     ·have hb5:=cond_f hc7 hb5
      refine q_cond_f hF rfl hc7 (q_skipc (n_ib (n_sq (q_region (q_x (v:=(iV (w64 (t_16 + 1)))) hF hS (ex_ibin rfl rfl rfl) rfl rfl fun a hF=>q_x (v:=(iV (w64 (t_16 + 1)))) hF hS (ex_move rfl) rfl rfl fun a hF=>q_end ?_)))))
      obtain rfl:=someI hb5
      exact ⟨rfl,q23,_,_,rfl,hF.sub ⟨rfl,rfl,rfl,rfl,rfl,trivial⟩,hS,h23⟩
     ·have hb5:=cond_t hc7 hb5
      refine q_cond_t hF rfl hc7 (q_seq (q_region (q_x (v:=(.agg #[nilS.v])) hF hS (ex_build (cells:=[nilS.v]) rfl (by kernel_rfl)) rfl rfl fun a hF=>q_store (vs:=[nilS.v]) (cs':=[nilS.v]) 1 0 hF hS sz27 rfl rfl rfl rfl rfl rfl rfl rfl fun a w hF hS=>q_x (v:=(.bool false)) hF hS (ex_assign rfl) rfl rfl fun a hF=>q_end (n_sq (q_ret (r_ib (r_sq ?_)))))))
      obtain rfl:=someI hb5
      refine ⟨nofun,.inr fun ho=>?_⟩
      subst ho
      refine r_ib (r_sq ?_)
      obtain rfl:=someI hr
      exact ret_of hF hS rfl (.cellA (us:=[nilS.v]) 1 0 Tryd.underlying27 rfl sz27 rfl rfl rfl rfl (.tmp rfl .nil)) ⟨[],nilS,rfl,hS.sel [2] (by decide),(OwnL.nil (α:=Int) m 3)⟩
   ·rintro e a w ⟨q27,meet_26,rfl,rfl,hF,hS,h27⟩
    refine x_ib (n_sq ?_)
    refine q_seq (q_region (q_x (v:=s13.v) hF hS (ex_move rfl) rfl rfl fun a hF=>q_x (v:=(.agg #[s13.v])) hF hS (ex_build (cells:=[s13.v]) rfl (by kernel_rfl)) rfl rfl fun a hF=>q_store (vs:=[s13.v]) (cs':=[s13.v]) 1 0 hF hS sz27 rfl rfl rfl rfl rfl rfl rfl rfl fun a w hF hS=>q_x (v:=(.bool true)) hF hS (ex_assign rfl) rfl rfl fun a hF=>q_end (n_sq (q_ret ?_))))
    obtain rfl:=someI hr
    exact ret_of hF hS rfl (.cellA (us:=[s13.v]) 1 0 Tryd.underlying27 rfl sz27 rfl rfl rfl rfl (.tmp rfl .nil)) ⟨q27,s13,rfl,hS.sel [0] (by decide),h27⟩
  ·have hr:=cond_t hc4 hr
   refine q_cond_t hF rfl hc4 (q_seq (q_region (q_x (v:=(.agg #[nilS.v])) hF hS (ex_build (cells:=[nilS.v]) rfl (by kernel_rfl)) rfl rfl fun a hF=>q_store (vs:=[nilS.v]) (cs':=[nilS.v]) 0 0 hF hS sz27 rfl rfl rfl rfl rfl rfl rfl rfl fun a w hF hS=>q_x (v:=(.bool false)) hF hS (ex_assign rfl) rfl rfl fun a hF=>q_end (n_sq (q_ret (r_sq ?_))))))
   obtain rfl:=someI hr
   exact ret_of hF hS rfl (.cellA (us:=[nilS.v]) 0 0 Tryd.underlying27 rfl sz27 rfl rfl rfl rfl (.tmp rfl .nil)) ⟨[],nilS,rfl,hS.sel [3] (by decide),(OwnL.nil (α:=Int) m 3)⟩

theorem c_spec_eList (p_s : List impl_Variable) (p_l : List impl_Edit) (r : Bool) (hr : spec_eList p_s p_l = some r) (w0 : World) (m : Mem) (hv : Vis m w0) (s1 : Sl) (h1 : Rd m s1 p_s) (s2 : Sl) (h2 : Rd m s2 p_l) :
  Ret Tryd.prog 23 [s1.v,s2.v] w0 (fun v _=>v = (.bool r)):=by
 unfold spec_eList at hr
 refine ret_start Tryd.func23 rfl 26 rfl rfl m hv fun a hF hS=>q_seq (q_region (q_x (v:=(.bool false)) hF hS (ex_assign rfl) rfl rfl fun a hF=>q_end (n_sq (q_seq (q_seq ?_)))))
 obtain ⟨t_4,hj1,hr⟩:=bindS hr
 refine q_join (fun a w=>Fr a 26 [(0,s1.v),(1,s2.v),(14,(.bool t_4))]∧St [] w0 w m []) ?_ ?_
 ·refine q_region (q_x (v:=s1.v) hF hS (ex_move rfl) rfl rfl fun a hF=>?_)
  obtain ⟨t_3,ht_3,hj1⟩:=bindS hj1
  refine q_call (vs:=[s1.v]) hF hS Tryd.func45 (by kernel_rfl) rfl rfl rfl (c_spec_sGood p_s t_3 ht_3 _ m hS.vis s1 h1) ?_
  rintro a w _ rfl hF hS
  refine q_x (v:=(.bool (!t_3))) hF hS (ex_not rfl) rfl rfl fun a hF=>q_x (v:=(.bool (!t_3))) hF hS (ex_move rfl) rfl rfl fun a hF=>?_
  rcases bcase (!t_3) with hc2 | hc2
  ·have hj1:=cond_f hc2 hj1
   refine q_xg (v:=s2.v) hF hS (ex_move rfl) (wanted_t hF rfl rfl rfl hc2) rfl fun a hF=>q_xg (v:=(iV (goLen p_l))) hF hS (ex_len Tryd.underlying49 rfl h2.len) (wanted_t hF rfl rfl rfl hc2) rfl fun a hF=>q_xg (v:=(.bool (decide (40 < (goLen p_l))))) hF hS (ex_ibin rfl rfl rfl) (wanted_t hF rfl rfl rfl hc2) rfl fun a hF=>q_x (v:=(.bool (decide (40 < (goLen p_l))))) hF hS (ex_pick_f rfl rfl hc2) rfl rfl fun a hF=>q_end (n_jn ?_)
   obtain rfl:=someI hj1
   exact ⟨hF.sub ⟨rfl,rfl,rfl,trivial⟩,hS⟩
  ·have hj1:=cond_t hc2 hj1
   refine q_skip hF (wanted_f hF rfl rfl rfl hc2 rfl) rfl fun a hF=>q_skip hF (wanted_f hF rfl rfl rfl hc2 rfl) rfl fun a hF=>q_skip hF (wanted_f hF rfl rfl rfl hc2 rfl) rfl fun a hF=>q_x (v:=(.bool true)) hF hS (ex_pick_t rfl rfl hc2) rfl rfl fun a hF=>q_end (n_jn ?_)
   obtain rfl:=someI hj1
   exact ⟨hF.sub ⟨rfl,rfl,rfl,trivial⟩,hS⟩
 ·rintro a w ⟨hF,hS⟩
  refine n_sq ?_
  rcases bcase (t_4) with hc3 | hc3
  ·have hr:=cond_f hc3 hr
   refine q_cond_f hF rfl hc3 (q_skipc (n_sq (q_seq (q_seq (q_region (q_x (v:=s2.v) hF hS (ex_move rfl) rfl rfl fun a hF=>q_x (v:=(iV (goLen p_l))) hF hS (ex_len Tryd.underlying49 rfl h2.len) rfl rfl fun a hF=>q_x (v:=(iV 0)) hF hS (ex_move rfl) rfl rfl fun a hF=>q_end (n_sq (q_block ?_))))))))
   obtain ⟨o4,hl4,hr⟩:=bindS hr
   refine q_loop (fun (t_5 : Int) a w=>Fr a 26 [(0,s1.v),(15,s2.v),(16,(iV (goLen p_l))),(17,(iV t_5))]∧St [] w0 w m []) (fun (o : (Unit) ⊕ (Bool)) e a w=>o = .inl ()∧e = .exit 0∧Fr a 26 []∧St [] w0 w m []) hl4 ⟨hF.sub ⟨rfl,rfl,rfl,rfl,trivial⟩,hS⟩ ?_ ?_
   ·clear hF hS
    rintro t_5 a w st ⟨hF,hS⟩ hb4
    unfold spec_eList_l1 at hb4
    refine q_seq (q_region (q_x (v:=(.bool (decide (t_5 < (goLen p_l))))) hF hS (ex_ibin rfl rfl rfl) rfl rfl fun a hF=>q_end (n_sq (q_seq ?_))))
    rcases bcase (decide (t_5 < (goLen p_l))) with hc5 | hc5
    ·have hb4:=cond_f hc5 hb4
     refine q_cond_f hF rfl hc5 (q_exit (x_sq ?_))
     obtain rfl:=someI hb4
     exact ⟨nofun,.inl ⟨rfl,rfl,hF.sub trivial,hS⟩⟩
    ·have hb4:=cond_t hc5 hb4
     refine q_cond_t hF rfl hc5 (q_skipc (n_sq (q_seq (q_block (q_seq (q_region ?_))))))
     obtain ⟨e_6,he_6,hb4⟩:=bindS hb4
     obtain ⟨vs7,at7,d7⟩:=h2.at he_6 1 rfl
     obtain ⟨s8,rfl,h8⟩ : ∃ s8 : Sl,vs7 = [s8.v]∧Rd m s8 e_6.Sets:=d7
     refine q_x (v:=(elP s2 (t_5.toNat * 1))) hF hS (ex_indexAddr Tryd.underlying49 sz27 rfl rfl (h2.idx he_6)) rfl rfl fun a hF=>q_x (v:=(.agg #[s8.v])) hF hS (ex_loadEA (us:=[s8.v]) 0 Tryd.underlying27 rfl sz27 rfl ((at7).at) rfl rfl rfl) rfl rfl fun a hF=>q_alloc (cs:=[nilS.v]) hF hS rfl rfl rfl fun a w b9 hF hS=>q_store (vs:=[s8.v]) (cs':=[s8.v]) 0 0 hF hS sz27 rfl rfl rfl rfl rfl rfl rfl rfl fun a w hF hS=>q_end (n_sq (q_seq (q_region (q_x (v:=s1.v) hF hS (ex_move rfl) rfl rfl fun a hF=>q_x (v:=(.agg #[s8.v])) hF hS (ex_loadA (vs:=[s8.v]) 0 0 Tryd.underlying27 rfl sz27 rfl rfl rfl rfl) rfl rfl fun a hF=>?_))))
     obtain ⟨t_10,ht_10,hb4⟩:=bindS hb4
     refine q_call (vs:=[s1.v,(.agg #[s8.v])]) hF hS Tryd.func24 (by kernel_rfl) rfl rfl rfl (c_spec_eGood p_s e_6 t_10 ht_10 _ m hS.vis s1 h1 s8 h8) ?_
     rintro a w _ rfl hF hS
     refine q_x (v:=(.bool (!t_10))) hF hS (ex_not rfl) rfl rfl fun a hF=>q_end (n_sq ?_)
     rcases bcase (!t_10) with hc6 | hc6
     ·have hb4:=cond_f hc6 hb4
      refine q_cond_f hF rfl hc6 (q_skipc (n_ib (n_sq (q_region (q_x (v:=(iV (w64 (t_5 + 1)))) hF hS (ex_ibin rfl rfl rfl) rfl rfl fun a hF=>q_x (v:=(iV (w64 (t_5 + 1)))) hF hS (ex_move rfl) rfl rfl fun a hF=>q_end ?_)))))
      obtain rfl:=someI hb4
      exact ⟨rfl,hF.sub ⟨rfl,rfl,rfl,rfl,trivial⟩,hS.mask [false]⟩
     ·have hb4:=cond_t hc6 hb4
      refine q_cond_t hF rfl hc6 (q_seq (q_region (q_x (v:=(.bool false)) hF hS (ex_assign rfl) rfl rfl fun a hF=>q_end (n_sq (q_ret (r_ib (r_sq ?_)))))))
      obtain rfl:=someI hb4
      refine ⟨nofun,.inr fun ho=>?_⟩
      subst ho
      refine r_ib (r_sq ?_)
      obtain rfl:=someI hr
      exact ret_of hF hS rfl (.tmp rfl .nil) rfl
   ·rintro e a w ⟨rfl,rfl,hF,hS⟩
    refine x_ib (n_sq ?_)
    refine q_seq (q_region (q_x (v:=(.bool true)) hF hS (ex_assign rfl) rfl rfl fun a hF=>q_end (n_sq (q_ret ?_))))
    obtain rfl:=someI hr
    exact ret_of hF hS rfl (.tmp rfl .nil) rfl
  ·have hr:=cond_t hc3 hr
   refine q_cond_t hF rfl hc3 (q_seq (q_region (q_x (v:=(.bool false)) hF hS (ex_assign rfl) rfl rfl fun a hF=>q_end (n_sq (q_ret (r_sq ?_))))))
   obtain rfl:=someI hr
   exact ret_of hF hS rfl (.tmp rfl .nil) rfl

theorem c_spec_MeetEdits (p_s : List impl_Variable) (p_e : impl_Edit) (p_f : impl_Edit) (r : impl_Edit × Bool) (hr : spec_MeetEdits p_s p_e p_f = some r) (w0 : World) (m : Mem) (hv : Vis m w0) (s1 : Sl) (h1 : Rd m s1 p_s) (s2 : Sl) (h2 : Rd m s2 p_e.Sets) (s3 : Sl) (h3 : Rd m s3 p_f.Sets) :
  Ret Tryd.prog 7 [s1.v,(.agg #[s2.v]),(.agg #[s3.v])] w0 (fun v w=>∃ (q0' : Piece) (s0' : Sl),v = (.tuple #[(.agg #[s0'.v]),(.bool r.2)])∧St [] w0 w m [q0']∧OwnL m 3 q0' s0' r.1.Sets):=by
 unfold spec_MeetEdits at hr
 refine ret_start Tryd.func7 rfl 46 rfl rfl m hv fun a hF hS=>q_seq (q_region (q_box (cs:=[s2.v]) hF hS rfl rfl rfl fun a w b4 hF hS=>q_box (cs:=[s3.v]) hF hS rfl rfl rfl fun a w b5 hF hS=>q_alloc (cs:=[nilS.v]) hF hS rfl rfl rfl fun a w b6 hF hS=>q_x (v:=(.bool false)) hF hS (ex_assign rfl) rfl rfl fun a hF=>q_end (n_sq (q_seq (q_seq (q_region (q_x (v:=s1.v) hF hS (ex_move rfl) rfl rfl fun a hF=>q_x (v:=(.agg #[s2.v])) hF hS (ex_loadA (vs:=[s2.v]) 2 0 Tryd.underlying27 rfl sz27 rfl rfl rfl rfl) rfl rfl fun a hF=>q_x (v:=(.agg #[s3.v])) hF hS (ex_loadA (vs:=[s3.v]) 1 0 Tryd.underlying27 rfl sz27 rfl rfl rfl rfl) rfl rfl fun a hF=>q_do rfl fun _ hK=>wp_buildSlice' (l:=([p_e,p_f] : List impl_Edit)) (cells:=[s2.v,s3.v]) hF hS Tryd.underlying49 inf27 rfl rfl (by kernel_rfl) rfl rfl rfl ⟨⟨s2,rfl,h2⟩,⟨s3,rfl,h3⟩,rfl⟩ rfl rfl fun a w q7 s7 hF hS h7 _=>hK _ _ ?_)))))))
 obtain ⟨m9,hl9,hv9,hz9⟩:=hS.lend
 obtain ⟨t_8,ht_8,hr⟩:=bindS hr
 refine q_call (vs:=[s1.v,s7.v]) hF hS Tryd.func23 (by kernel_rfl) rfl rfl rfl (c_spec_eList p_s ([p_e,p_f] : List impl_Edit) t_8 ht_8 _ m9 hv9 s1 (h1.mono hl9) s7 (h7.froz hl9 (hz9 0 _ rfl))) ?_
 rintro a w _ rfl hF hS
 refine q_x (v:=(.bool (!t_8))) hF hS (ex_not rfl) rfl rfl fun a hF=>q_end (n_sq ?_)
 rcases bcase (!t_8) with hc1 | hc1
 ·have hr:=cond_f hc1 hr
  refine q_cond_f hF rfl hc1 (q_skipc (n_sq (q_seq (q_region (q_x (v:=(.agg #[nilS.v])) hF hS (ex_build (cells:=[nilS.v]) rfl (by kernel_rfl)) rfl rfl fun a hF=>q_alloc (cs:=[nilS.v]) hF hS rfl rfl rfl fun a w b10 hF hS=>q_store (vs:=[nilS.v]) (cs':=[nilS.v]) 0 0 hF hS sz27 rfl rfl rfl rfl rfl rfl rfl rfl fun a w hF hS=>q_end (n_sq (q_seq (q_seq (q_region (q_x (v:=(.pointer (some ⟨b4,0,none⟩))) hF hS (ex_fieldAddr Tryd.underlying27 rfl sz25 rfl rfl) rfl rfl fun a hF=>q_x (v:=s2.v) hF hS (ex_load1 4 0 Tryd.underlying25 rfl rfl rfl rfl) rfl rfl fun a hF=>q_x (v:=(iV (goLen p_e.Sets))) hF hS (ex_len Tryd.underlying25 rfl h2.len) rfl rfl fun a hF=>q_x (v:=(iV 0)) hF hS (ex_move rfl) rfl rfl fun a hF=>q_end (n_sq (q_block ?_))))))))))))
  obtain ⟨out_21,hl2,hr⟩:=bindS hr
  refine q_loop (fun (s : Int × impl_Edit) a w=>∃ (q13 : Piece),∃ (s13 : Sl),∃ t_11,∃ out_12,s = (t_11,out_12)∧Fr a 46 [(0,s1.v),(5,(.pointer (some ⟨b5,0,none⟩))),(6,(.pointer (some ⟨b6,0,none⟩))),(8,(.pointer (some ⟨b10,0,none⟩))),(20,s2.v),(21,(iV (goLen p_e.Sets))),(22,(iV t_11))]∧St [] w0 w m [q13,[⟨b10,[s13.v],27⟩],[⟨b6,[nilS.v],27⟩],[⟨b5,[s3.v],27⟩]]∧OwnL m 3 q13 s13 out_12.Sets) (fun (out_21 : impl_Edit) e a w=>∃ (q22 : Piece),∃ (s22 : Sl),e = .exit 0∧Fr a 46 [(0,s1.v),(6,(.pointer (some ⟨b6,0,none⟩))),(8,(.pointer (some ⟨b10,0,none⟩)))]∧St [] w0 w m [q22,[⟨b10,[s22.v],27⟩],[⟨b6,[nilS.v],27⟩]]∧OwnL m 3 q22 s22 out_21.Sets) hl2 ⟨[],nilS,_,_,rfl,hF.sub ⟨rfl,rfl,rfl,rfl,rfl,rfl,rfl,trivial⟩,hS.sel [5,0,2,3] (by decide),(OwnL.nil (α:=Int) m 3)⟩ ?_ ?_
  ·clear hF hS
   rintro s a w st ⟨q13,s13,t_11,out_12,rfl,hF,hS,h13⟩ hb2
   unfold spec_MeetEdits_l1 at hb2
   refine q_seq (q_region (q_x (v:=(.bool (decide (t_11 < (goLen p_e.Sets))))) hF hS (ex_ibin rfl rfl rfl) rfl rfl fun a hF=>q_end (n_sq (q_seq ?_))))
   rcases bcase (decide (t_11 < (goLen p_e.Sets))) with hc3 | hc3
   ·have hb2:=cond_f hc3 hb2
    refine q_cond_f hF rfl hc3 (q_exit (x_sq ?_))
    obtain rfl:=someI hb2
    exact ⟨nofun,.inl ⟨q13,s13,rfl,hF.sub ⟨rfl,rfl,rfl,trivial⟩,hS.mask [true,true,true,false],h13⟩⟩
   ·have hb2:=cond_t hc3 hb2
    refine q_cond_t hF rfl hc3 (q_skipc (n_sq (q_seq (q_block (q_seq (q_region (q_x (v:=(iV t_11)) hF hS (ex_move rfl) rfl rfl fun a hF=>?_)))))))
    obtain ⟨e_14,he_14,hb2⟩:=bindS hb2
    obtain ⟨vs15,at15,d15⟩:=h2.at he_14 1 rfl
    obtain rfl : vs15 = [(iV e_14)]:=d15
    refine q_x (v:=(elP s2 (t_11.toNat * 1))) hF hS (ex_indexAddr Tryd.underlying25 sz3 rfl rfl (h2.idx he_14)) rfl rfl fun a hF=>q_x (v:=(iV e_14)) hF hS (ex_loadE1 0 Tryd.underlying3 rfl rfl ((at15).at) rfl rfl) rfl rfl fun a hF=>q_x (v:=(iV t_11)) hF hS (ex_assign rfl) rfl rfl fun a hF=>q_x (v:=(iV e_14)) hF hS (ex_assign rfl) rfl rfl fun a hF=>q_end (n_sq (e_region ⟨[10,12],[b5]⟩ mixed fun w' hw'=>?_))
    have hS:=hS.below hw'
    refine e_p (v:=(.pointer (some ⟨b10,0,none⟩))) 0 hF rfl (ex_fieldAddr Tryd.underlying27 rfl sz25 rfl rfl) rfl rfl (by kernel_rfl) (by kernel_rfl) (by kernel_rfl) fun a hF=>e_x (v:=s13.v) 1 hF hS rfl (ex_load1 1 0 Tryd.underlying25 rfl rfl rfl rfl) rfl rfl (by kernel_rfl) (by kernel_rfl) (by kernel_rfl) (by kernel_rfl) fun a hF=>e_p (v:=(iV e_14)) 2 hF rfl (ex_move rfl) rfl rfl (by kernel_rfl) (by kernel_rfl) (by kernel_rfl) fun a hF=>e_p (v:=(.pointer (some ⟨b5,0,none⟩))) 3 hF rfl (ex_fieldAddr Tryd.underlying27 rfl sz25 rfl rfl) rfl rfl (by kernel_rfl) (by kernel_rfl) (by kernel_rfl) fun a hF=>e_xb (v:=s3.v) 4 3 hF hS (.head _) rfl rfl (ex_load1 0 0 Tryd.underlying25 rfl rfl rfl rfl) rfl rfl (by kernel_rfl) (by kernel_rfl) (by kernel_rfl) fun a hF=>e_p (v:=(iV t_11)) 5 hF rfl (ex_move rfl) rfl rfl (by kernel_rfl) (by kernel_rfl) (by kernel_rfl) fun a hF=>?_
    obtain ⟨e_16,he_16,hb2⟩:=bindS hb2
    obtain ⟨vs17,at17,d17⟩:=h3.at he_16 1 rfl
    obtain rfl : vs17 = [(iV e_16)]:=d17
    refine e_p (v:=(elP s3 (t_11.toNat * 1))) 6 hF rfl (ex_indexAddr Tryd.underlying25 sz3 rfl rfl (h3.idx he_16)) rfl rfl (by kernel_rfl) (by kernel_rfl) (by kernel_rfl) fun a hF=>e_one 7 (by kernel_rfl) (e_lx (v:=(iV e_16)) hF hS rfl (ex_loadE1 0 Tryd.underlying3 rfl rfl ((at17).at) rfl rfl) rfl rfl fun a hF=>e_p (v:=(iV (goBits .and .i64 e_14 e_16))) 8 hF rfl (ex_bits rfl rfl rfl) rfl rfl (by kernel_rfl) (by kernel_rfl) (by kernel_rfl) fun a hF=>e_one 9 (by kernel_rfl) (e_op rfl rfl fun _ hK=>wp_buildSlice' (l:=([goBits .and .i64 e_14 e_16] : List Int)) (cells:=[(iV (goBits .and .i64 e_14 e_16))]) hF hS Tryd.underlying25 inf3 rfl rfl (by kernel_rfl) rfl rfl rfl ⟨rfl,rfl⟩ rfl rfl fun a w q18 s18 hF hS h18 hb=>hK _ _ hb (e_one 10 (by kernel_rfl) ?_)))
    have hS : St _ _ _ _ [q13,q18,[⟨b10,[s13.v],27⟩],[⟨b6,[nilS.v],27⟩],[⟨b5,[s3.v],27⟩]]:=hS.sel [1,0,2,3,4] (by decide)
    obtain ⟨l_19,hl_19,hb2⟩:=bindS hb2
    have hSo:=hS
    refine e_opl rfl rfl rfl fun _ hK=>wp_append hF hS h13 Tryd.underlying25 inf3 rfl rfl rfl rfl (h18.vw hS (j:=1) rfl) rfl (by decide) hl_19 rfl fun a w q20 s20 hF hS h20=>hK _ _ (⟨kpC hSo hS 4 4 rfl rfl kpN,?_⟩)
    refine e_p (v:=(.pointer (some ⟨b10,0,none⟩))) 11 hF rfl (ex_fieldAddr Tryd.underlying27 rfl sz25 rfl rfl) rfl rfl (by kernel_rfl) (by kernel_rfl) (by kernel_rfl) fun a hF=>e_one 12 (by kernel_rfl) ?_
    have hSo:=hS
    refine e_store (vs:=[s20.v]) (cs':=[s20.v]) 2 0 hF hS rfl rfl sz25 rfl rfl rfl rfl rfl rfl rfl rfl fun a w hF hS=>⟨kpC hSo hS 4 4 rfl rfl kpN,?_⟩
    refine e_end (by kernel_rfl) (n_ib (n_sq ?_)) _
    refine q_region (q_x (v:=(iV (w64 (t_11 + 1)))) hF hS (ex_ibin rfl rfl rfl) rfl rfl fun a hF=>q_x (v:=(iV (w64 (t_11 + 1)))) hF hS (ex_move rfl) rfl rfl fun a hF=>q_end ?_)
    obtain rfl:=someI hb2
    exact ⟨rfl,q20,s20,_,_,rfl,hF.sub ⟨rfl,rfl,rfl,rfl,rfl,rfl,rfl,trivial⟩,hS.mask [true,false,true,true,true],h20⟩
  ·rintro e a w ⟨q22,s22,rfl,hF,hS,h22⟩
   refine x_ib (n_sq ?_)
   refine q_seq (q_seq (q_region (q_x (v:=s1.v) hF hS (ex_move rfl) rfl rfl fun a hF=>q_x (v:=(.agg #[s22.v])) hF hS (ex_loadA (vs:=[s22.v]) 1 0 Tryd.underlying27 rfl sz27 rfl rfl rfl rfl) rfl rfl fun a hF=>?_)))
   obtain ⟨m24,hl24,hv24,hz24⟩:=hS.lend
   obtain ⟨t_23,ht_23,hr⟩:=bindS hr
   refine q_call (vs:=[s1.v,(.agg #[s22.v])]) hF hS Tryd.func24 (by kernel_rfl) rfl rfl rfl (c_spec_eGood p_s out_21 t_23 ht_23 _ m24 hv24 s1 (h1.mono hl24) s22 (h22.froz hl24 (hz24 0 _ rfl))) ?_
   rintro a w _ rfl hF hS
   refine q_x (v:=(.bool (!t_23))) hF hS (ex_not rfl) rfl rfl fun a hF=>q_end (n_sq ?_)
   rcases bcase (!t_23) with hc4 | hc4
   ·have hr:=cond_f hc4 hr
    refine q_cond_f hF rfl hc4 (q_skipc (n_sq (q_seq (q_region (q_x (v:=(.agg #[s22.v])) hF hS (ex_loadA (vs:=[s22.v]) 1 0 Tryd.underlying27 rfl sz27 rfl rfl rfl rfl) rfl rfl fun a hF=>q_store (vs:=[s22.v]) (cs':=[s22.v]) 2 0 hF hS sz27 rfl rfl rfl rfl rfl rfl rfl rfl fun a w hF hS=>q_x (v:=(.bool true)) hF hS (ex_assign rfl) rfl rfl fun a hF=>q_end (n_sq (q_ret ?_)))))))
    obtain rfl:=someI hr
    exact ret_of hF hS rfl (.cellA (us:=[s22.v]) 2 0 Tryd.underlying27 rfl sz27 rfl rfl rfl rfl (.tmp rfl .nil)) ⟨q22,s22,rfl,hS.sel [0] (by decide),h22⟩
   ·have hr:=cond_t hc4 hr
    refine q_cond_t hF rfl hc4 (q_seq (q_region (q_x (v:=(.agg #[nilS.v])) hF hS (ex_build (cells:=[nilS.v]) rfl (by kernel_rfl)) rfl rfl fun a hF=>q_store (vs:=[nilS.v]) (cs':=[nilS.v]) 2 0 hF hS sz27 rfl rfl rfl rfl rfl rfl rfl rfl fun a w hF hS=>q_x (v:=(.bool false)) hF hS (ex_assign rfl) rfl rfl fun a hF=>q_end (n_sq (q_ret (r_sq ?_))))))
    obtain rfl:=someI hr
    exact ret_of hF hS rfl (.cellA (us:=[nilS.v]) 2 0 Tryd.underlying27 rfl sz27 rfl rfl rfl rfl (.tmp rfl .nil)) ⟨[],nilS,rfl,hS.sel [3] (by decide),(OwnL.nil (α:=Int) m 3)⟩
 ·have hr:=cond_t hc1 hr
  refine q_cond_t hF rfl hc1 (q_seq (q_region (q_x (v:=(.agg #[nilS.v])) hF hS (ex_build (cells:=[nilS.v]) rfl (by kernel_rfl)) rfl rfl fun a hF=>q_store (vs:=[nilS.v]) (cs':=[nilS.v]) 1 0 hF hS sz27 rfl rfl rfl rfl rfl rfl rfl rfl fun a w hF hS=>q_x (v:=(.bool false)) hF hS (ex_assign rfl) rfl rfl fun a hF=>q_end (n_sq (q_ret (r_sq ?_))))))
  obtain rfl:=someI hr
  exact ret_of hF hS rfl (.cellA (us:=[nilS.v]) 1 0 Tryd.underlying27 rfl sz27 rfl rfl rfl rfl (.tmp rfl .nil)) ⟨[],nilS,rfl,hS.sel [4] (by decide),(OwnL.nil (α:=Int) m 3)⟩

theorem c_laws_sameInts (p_a : List Int) (p_b : List Int) (r : Bool) (hr : laws_sameInts p_a p_b = some r) (w0 : World) (m : Mem) (hv : Vis m w0) (s1 : Sl) (h1 : Rd m s1 p_a) (s2 : Sl) (h2 : Rd m s2 p_b) :
  Ret Tryd.prog 8 [s1.v,s2.v] w0 (fun v _=>v = (.bool r)):=by
 unfold laws_sameInts at hr
 refine ret_start Tryd.func8 rfl 26 rfl rfl m hv fun a hF hS=>q_seq (q_region (q_x (v:=(.bool false)) hF hS (ex_assign rfl) rfl rfl fun a hF=>q_end (n_sq (q_seq (q_seq (q_region (q_x (v:=s1.v) hF hS (ex_move rfl) rfl rfl fun a hF=>q_x (v:=(iV (goLen p_a))) hF hS (ex_len Tryd.underlying25 rfl h1.len) rfl rfl fun a hF=>q_x (v:=s2.v) hF hS (ex_move rfl) rfl rfl fun a hF=>q_x (v:=(iV (goLen p_b))) hF hS (ex_len Tryd.underlying25 rfl h2.len) rfl rfl fun a hF=>q_x (v:=(.bool ((goLen p_a) != (goLen p_b)))) hF hS (ex_ibin rfl rfl rfl) rfl rfl fun a hF=>q_end (n_sq ?_))))))))
 rcases bcase ((goLen p_a) != (goLen p_b)) with hc1 | hc1
 ·have hr:=cond_f hc1 hr
  refine q_cond_f hF rfl hc1 (q_skipc (n_sq (q_seq (q_seq (q_region (q_x (v:=s1.v) hF hS (ex_move rfl) rfl rfl fun a hF=>q_x (v:=(iV (goLen p_a))) hF hS (ex_len Tryd.underlying25 rfl h1.len) rfl rfl fun a hF=>q_x (v:=(iV 0)) hF hS (ex_move rfl) rfl rfl fun a hF=>q_end (n_sq (q_block ?_))))))))
  obtain ⟨o2,hl2,hr⟩:=bindS hr
  refine q_loop (fun (t_3 : Int) a w=>Fr a 26 [(0,s1.v),(1,s2.v),(12,(iV (goLen p_a))),(13,(iV t_3))]∧St [] w0 w m []) (fun (o : (Unit) ⊕ (Bool)) e a w=>o = .inl ()∧e = .exit 0∧Fr a 26 []∧St [] w0 w m []) hl2 ⟨hF.sub ⟨rfl,rfl,rfl,rfl,trivial⟩,hS⟩ ?_ ?_
  ·clear hF hS
   rintro t_3 a w st ⟨hF,hS⟩ hb2
   unfold laws_sameInts_l1 at hb2
   refine q_seq (q_region (q_x (v:=(.bool (decide (t_3 < (goLen p_a))))) hF hS (ex_ibin rfl rfl rfl) rfl rfl fun a hF=>q_end (n_sq (q_seq ?_))))
   rcases bcase (decide (t_3 < (goLen p_a))) with hc3 | hc3
   ·have hb2:=cond_f hc3 hb2
    refine q_cond_f hF rfl hc3 (q_exit (x_sq ?_))
    obtain rfl:=someI hb2
    exact ⟨nofun,.inl ⟨rfl,rfl,hF.sub trivial,hS⟩⟩
   ·have hb2:=cond_t hc3 hb2
    refine q_cond_t hF rfl hc3 (q_skipc (n_sq (q_seq (q_block (q_seq (q_region (q_x (v:=(iV t_3)) hF hS (ex_move rfl) rfl rfl fun a hF=>q_x (v:=(iV t_3)) hF hS (ex_assign rfl) rfl rfl fun a hF=>q_end (n_sq (q_seq (e_region ⟨[],[]⟩ mixed fun w' hw'=>?_))))))))))
    have hS:=hS.below hw'
    refine e_p (v:=s1.v) 0 hF rfl (ex_move rfl) rfl rfl (by kernel_rfl) (by kernel_rfl) (by kernel_rfl) fun a hF=>e_p (v:=(iV t_3)) 1 hF rfl (ex_move rfl) rfl rfl (by kernel_rfl) (by kernel_rfl) (by kernel_rfl) fun a hF=>?_
    obtain ⟨e_4,he_4,hb2⟩:=bindS hb2
    obtain ⟨vs5,at5,d5⟩:=h1.at he_4 1 rfl
    obtain rfl : vs5 = [(iV e_4)]:=d5
    refine e_p (v:=(elP s1 (t_3.toNat * 1))) 2 hF rfl (ex_indexAddr Tryd.underlying25 sz3 rfl rfl (h1.idx he_4)) rfl rfl (by kernel_rfl) (by kernel_rfl) (by kernel_rfl) fun a hF=>e_x (v:=(iV e_4)) 3 hF hS rfl (ex_loadE1 0 Tryd.underlying3 rfl rfl ((at5).at) rfl rfl) rfl rfl (by kernel_rfl) (by kernel_rfl) (by kernel_rfl) (by kernel_rfl) fun a hF=>e_p (v:=s2.v) 4 hF rfl (ex_move rfl) rfl rfl (by kernel_rfl) (by kernel_rfl) (by kernel_rfl) fun a hF=>e_p (v:=(iV t_3)) 5 hF rfl (ex_move rfl) rfl rfl (by kernel_rfl) (by kernel_rfl) (by kernel_rfl) fun a hF=>?_
    obtain ⟨e_6,he_6,hb2⟩:=bindS hb2
    obtain ⟨vs7,at7,d7⟩:=h2.at he_6 1 rfl
    obtain rfl : vs7 = [(iV e_6)]:=d7
    refine e_p (v:=(elP s2 (t_3.toNat * 1))) 6 hF rfl (ex_indexAddr Tryd.underlying25 sz3 rfl rfl (h2.idx he_6)) rfl rfl (by kernel_rfl) (by kernel_rfl) (by kernel_rfl) fun a hF=>e_x (v:=(iV e_6)) 7 hF hS rfl (ex_loadE1 0 Tryd.underlying3 rfl rfl ((at7).at) rfl rfl) rfl rfl (by kernel_rfl) (by kernel_rfl) (by kernel_rfl) (by kernel_rfl) fun a hF=>e_p (v:=(.bool (e_4 != e_6))) 8 hF rfl (ex_ibin rfl rfl rfl) rfl rfl (by kernel_rfl) (by kernel_rfl) (by kernel_rfl) fun a hF=>e_end (by kernel_rfl) (n_sq ?_) _
    rcases bcase (e_4 != e_6) with hc4 | hc4
    ·have hb2:=cond_f hc4 hb2
     refine q_cond_f hF rfl hc4 (q_skipc (n_ib (n_sq (q_region (q_x (v:=(iV (w64 (t_3 + 1)))) hF hS (ex_ibin rfl rfl rfl) rfl rfl fun a hF=>q_x (v:=(iV (w64 (t_3 + 1)))) hF hS (ex_move rfl) rfl rfl fun a hF=>q_end ?_)))))
     obtain rfl:=someI hb2
     exact ⟨rfl,hF.sub ⟨rfl,rfl,rfl,rfl,trivial⟩,hS⟩
    ·have hb2:=cond_t hc4 hb2
     refine q_cond_t hF rfl hc4 (q_seq (q_region (q_x (v:=(.bool false)) hF hS (ex_assign rfl) rfl rfl fun a hF=>q_end (n_sq (q_ret (r_ib (r_sq ?_)))))))
     obtain rfl:=someI hb2
     refine ⟨nofun,.inr fun ho=>?_⟩
     subst ho
     refine r_ib (r_sq ?_)
     obtain rfl:=someI hr
     exact ret_of hF hS rfl (.tmp rfl .nil) rfl
  ·rintro e a w ⟨rfl,rfl,hF,hS⟩
   refine x_ib (n_sq ?_)
   refine q_seq (q_region (q_x (v:=(.bool true)) hF hS (ex_assign rfl) rfl rfl fun a hF=>q_end (n_sq (q_ret ?_))))
   obtain rfl:=someI hr
   exact ret_of hF hS rfl (.tmp rfl .nil) rfl
 ·have hr:=cond_t hc1 hr
  refine q_cond_t hF rfl hc1 (q_seq (q_region (q_x (v:=(.bool false)) hF hS (ex_assign rfl) rfl rfl fun a hF=>q_end (n_sq (q_ret (r_sq ?_))))))
  obtain rfl:=someI hr
  exact ret_of hF hS rfl (.tmp rfl .nil) rfl

theorem c_spec_l1Cur_values (p_c : spec_l1Cur) (p_s : List impl_Variable) (r : (List Int) × spec_l1Cur) (hr : spec_l1Cur_values p_c p_s = some r) (w0 : World) (m : Mem) (b_p_c : Nat) (s1 : Sl) (h1 : Rd m s1 p_c.code) (s2 : Sl) (h2 : Rd m s2 p_s) (X : List Nat) (hS : St X w0 w0 m [[⟨b_p_c,[s1.v,(iV p_c.at_),(.int .u64 p_c.seed.v)],53⟩]]) :
  RetX Tryd.prog 54 [(.pointer (some ⟨b_p_c,0,none⟩)),s2.v] w0 (fun v w=>∃ (q0' : Piece) (s0' : Sl),v = s0'.v∧St X w0 w m [[⟨b_p_c,[s1.v,(iV r.2.at_),(.int .u64 r.2.seed.v)],53⟩],q0']∧OwnL m 3 q0' s0' r.1∧r.2.code = p_c.code):=by
 unfold spec_l1Cur_values at hr
 refine ret_startX Tryd.func54 rfl 23 rfl rfl fun a hF=>q_seq (q_region (q_x (v:=nilS.v) hF hS (ex_assign rfl) rfl rfl fun a hF=>q_end (n_sq (q_seq (q_region (q_x (v:=nilS.v) hF hS (ex_assign rfl) rfl rfl fun a hF=>q_end (n_sq (q_seq (q_seq (q_region (q_x (v:=s2.v) hF hS (ex_move rfl) rfl rfl fun a hF=>q_x (v:=(iV (goLen p_s))) hF hS (ex_len Tryd.underlying24 rfl h2.len) rfl rfl fun a hF=>q_x (v:=(iV 0)) hF hS (ex_move rfl) rfl rfl fun a hF=>q_end (n_sq (q_block ?_)))))))))))))
 obtain ⟨o1,hl1,hr⟩:=bindS hr
 refine q_loop (fun (s : (List Int) × Int × spec_l1Cur) a w=>∃ (q4 : Piece),∃ (s4 : Sl),∃ out_3,∃ t_5,∃ p_c_6,s = (out_3,t_5,p_c_6)∧Fr a 23 [(0,(.pointer (some ⟨b_p_c,0,none⟩))),(5,s4.v),(8,s2.v),(9,(iV (goLen p_s))),(10,(iV t_5))]∧St X w0 w m [q4,[⟨b_p_c,[s1.v,(iV p_c_6.at_),(.int .u64 p_c_6.seed.v)],53⟩]]∧OwnL m 3 q4 s4 out_3∧Rd m s1 p_c_6.code∧p_c_6.code = p_c.code) (fun (o : (List Int) × spec_l1Cur) e a w=>∃ (q18 : Piece),∃ (s18 : Sl),∃ out_17,∃ p_c_19,o = (out_17,p_c_19)∧e = .exit 0∧Fr a 23 [(5,s18.v)]∧St X w0 w m [q18,[⟨b_p_c,[s1.v,(iV p_c_19.at_),(.int .u64 p_c_19.seed.v)],53⟩]]∧OwnL m 3 q18 s18 out_17∧Rd m s1 p_c_19.code∧p_c_19.code = p_c.code) hl1 ⟨[],nilS,_,_,_,rfl,hF.sub ⟨rfl,rfl,rfl,rfl,rfl,trivial⟩,hS.sel [1,0] (by decide),(OwnL.nil (α:=Int) m 3),h1,rfl⟩ ?_ ?_
 ·clear hF hS
  rintro s a w st ⟨q4,s4,out_3,t_5,p_c_6,rfl,hF,hS,h4,h7,h7k⟩ hb1
  unfold spec_l1Cur_values_l1 at hb1
  refine q_seq (q_region (q_x (v:=(.bool (decide (t_5 < (goLen p_s))))) hF hS (ex_ibin rfl rfl rfl) rfl rfl fun a hF=>q_end (n_sq (q_seq ?_))))
  rcases bcase (decide (t_5 < (goLen p_s))) with hc2 | hc2
  ·have hb1:=cond_f hc2 hb1
   refine q_cond_f hF rfl hc2 (q_exit (x_sq ?_))
   obtain rfl:=someI hb1
   exact ⟨nofun,.inl ⟨q4,s4,_,_,rfl,rfl,hF.sub ⟨rfl,trivial⟩,hS,h4,h7,h7k⟩⟩
  ·have hb1:=cond_t hc2 hb1
   refine q_cond_t hF rfl hc2 (q_skipc (n_sq (q_seq (q_block (q_seq (q_region ?_))))))
   obtain ⟨e_8,he_8,hb1⟩:=bindS hb1
   obtain ⟨vs9,at9,d9⟩:=h2.at he_8 2 rfl
   obtain rfl : vs9 = [(strV e_8.Name),(iV e_8.Levels)]:=d9
   refine q_x (v:=(elP s2 (t_5.toNat * 2))) hF hS (ex_indexAddr Tryd.underlying24 sz63 rfl rfl (h2.idx he_8)) rfl rfl fun a hF=>q_x (v:=(.agg #[(strV e_8.Name),(iV e_8.Levels)])) hF hS (ex_loadEA (us:=[(strV e_8.Name),(iV e_8.Levels)]) 0 Tryd.underlying63 rfl sz63 rfl ((at9).at) rfl rfl rfl) rfl rfl fun a hF=>q_alloc (cs:=[(strV ([] : List UInt8)),(iV 0)]) hF hS rfl rfl rfl fun a w b10 hF hS=>q_store (vs:=[(strV e_8.Name),(iV e_8.Levels)]) (cs':=[(strV e_8.Name),(iV e_8.Levels)]) 0 0 hF hS sz63 rfl rfl rfl rfl rfl rfl rfl rfl fun a w hF hS=>q_end (n_sq (q_region (q_x (v:=s4.v) hF hS (ex_move rfl) rfl rfl fun a hF=>q_x (v:=(.pointer (some ⟨b_p_c,0,none⟩))) hF hS (ex_move rfl) rfl rfl fun a hF=>q_x (v:=(.pointer (some ⟨b10,1,none⟩))) hF hS (ex_fieldAddr Tryd.underlying63 rfl sz3 rfl rfl) rfl rfl fun a hF=>q_x (v:=(iV e_8.Levels)) hF hS (ex_load1 0 0 Tryd.underlying3 rfl rfl rfl rfl) rfl rfl fun a hF=>?_)))
   have hS : St _ _ _ _ [[⟨b_p_c,[s1.v,(iV p_c_6.at_),(.int .u64 p_c_6.seed.v)],53⟩],[⟨b10,[(strV e_8.Name),(iV e_8.Levels)],63⟩],q4]:=hS.sel [2,0,1] (by decide)
   have hS11 : St _ _ _ _ ([[⟨b_p_c,[s1.v,(iV p_c_6.at_),(.int .u64 p_c_6.seed.v)],53⟩]]++[[⟨b10,[(strV e_8.Name),(iV e_8.Levels)],63⟩],q4]):=hS
   have hE11:=hS11.enter
   obtain ⟨t_12,ht_12,hb1⟩:=bindS hb1
   refine q_do rfl fun _ hK=>wp_callX (vs:=[(.pointer (some ⟨b_p_c,0,none⟩)),(iV e_8.Levels)]) hF Tryd.func50 (by kernel_rfl) rfl rfl rfl (c_spec_l1Cur_pick p_c_6 e_8.Levels t_12 ht_12 _ m b_p_c s1 h7 _ hE11) fun a w _ hR hF=>hK _ _ ?_
   obtain ⟨rfl,hR11,hk13⟩:=hR
   have hS : St _ _ _ _ [[⟨b_p_c,[s1.v,(iV t_12.2.at_),(.int .u64 t_12.2.seed.v)],53⟩],[⟨b10,[(strV e_8.Name),(iV e_8.Levels)],63⟩],q4]:=hS11.leaveF hR11
   have h13 : Rd m s1 t_12.2.code:=by rw [hk13]; exact h7
   refine q_do rfl fun _ hK=>wp_buildSlice' (l:=([t_12.1] : List Int)) (cells:=[(iV t_12.1)]) hF hS Tryd.underlying25 inf3 rfl rfl (by kernel_rfl) rfl rfl rfl ⟨rfl,rfl⟩ rfl rfl fun a w q14 s14 hF hS h14 _=>hK _ _ ?_
   have hS : St _ _ _ _ [q4,q14,[⟨b_p_c,[s1.v,(iV t_12.2.at_),(.int .u64 t_12.2.seed.v)],53⟩],[⟨b10,[(strV e_8.Name),(iV e_8.Levels)],63⟩]]:=hS.sel [3,0,1,2] (by decide)
   obtain ⟨l_15,hl_15,hb1⟩:=bindS hb1
   refine q_do rfl fun _ hK=>wp_append hF hS h4 Tryd.underlying25 inf3 rfl rfl rfl rfl (h14.vw hS (j:=1) rfl) rfl (by decide) hl_15 rfl fun a w q16 s16 hF hS h16=>hK _ _ (q_x (v:=s16.v) hF hS (ex_assign rfl) rfl rfl fun a hF=>q_end (n_ib (n_sq (q_region (q_x (v:=(iV (w64 (t_5 + 1)))) hF hS (ex_ibin rfl rfl rfl) rfl rfl fun a hF=>q_x (v:=(iV (w64 (t_5 + 1)))) hF hS (ex_move rfl) rfl rfl fun a hF=>q_end ?_)))))
   obtain rfl:=someI hb1
   exact ⟨rfl,q16,s16,_,_,_,rfl,hF.sub ⟨rfl,rfl,rfl,rfl,rfl,trivial⟩,hS.mask [true,false,true,false],h16,h13,(hk13.trans h7k)⟩
 ·rintro e a w ⟨q18,s18,out_17,p_c_19,rfl,rfl,hF,hS,h18,h20,h20k⟩
  refine x_ib (n_sq ?_)
  refine q_seq (q_region (q_x (v:=s18.v) hF hS (ex_move rfl) rfl rfl fun a hF=>q_x (v:=s18.v) hF hS (ex_assign rfl) rfl rfl fun a hF=>q_end (n_sq (q_ret ?_))))
  obtain rfl:=someI hr
  exact ret_ofX hF hS rfl (.tmp rfl .nil) ⟨q18,s18,rfl,hS.sel [1,0] (by decide),h18,h20k⟩

theorem c_spec_l1Cur_anyValues (p_c : spec_l1Cur) (p_s : List impl_Variable) (r : (List Int) × spec_l1Cur) (hr : spec_l1Cur_anyValues p_c p_s = some r) (w0 : World) (m : Mem) (b_p_c : Nat) (s1 : Sl) (h1 : Rd m s1 p_c.code) (s2 : Sl) (h2 : Rd m s2 p_s) (X : List Nat) (hS : St X w0 w0 m [[⟨b_p_c,[s1.v,(iV p_c.at_),(.int .u64 p_c.seed.v)],53⟩]]) :
  RetX Tryd.prog 27 [(.pointer (some ⟨b_p_c,0,none⟩)),s2.v] w0 (fun v w=>∃ (q0' : Piece) (s0' : Sl),v = s0'.v∧St X w0 w m [[⟨b_p_c,[s1.v,(iV r.2.at_),(.int .u64 r.2.seed.v)],53⟩],q0']∧OwnL m 3 q0' s0' r.1∧r.2.code = p_c.code):=by
 unfold spec_l1Cur_anyValues at hr
 refine ret_startX Tryd.func27 rfl 33 rfl rfl fun a hF=>q_seq (q_region (q_x (v:=nilS.v) hF hS (ex_assign rfl) rfl rfl fun a hF=>q_end (n_sq (q_seq (q_region (q_x (v:=(.pointer (some ⟨b_p_c,0,none⟩))) hF hS (ex_move rfl) rfl rfl fun a hF=>q_x (v:=s2.v) hF hS (ex_move rfl) rfl rfl fun a hF=>?_))))))
 have hS3 : St _ _ _ _ ([[⟨b_p_c,[s1.v,(iV p_c.at_),(.int .u64 p_c.seed.v)],53⟩]]++[]):=hS
 have hE3:=hS3.enter
 obtain ⟨t_4,ht_4,hr⟩:=bindS hr
 refine q_do rfl fun _ hK=>wp_callX (vs:=[(.pointer (some ⟨b_p_c,0,none⟩)),s2.v]) hF Tryd.func54 (by kernel_rfl) rfl rfl rfl (c_spec_l1Cur_values p_c p_s t_4 ht_4 _ m b_p_c s1 h1 s2 h2 _ hE3) fun a w _ hR hF=>hK _ _ ?_
 obtain ⟨q5,s5,rfl,hR3,h5,hk6⟩:=hR
 have hS : St _ _ _ _ [[⟨b_p_c,[s1.v,(iV t_4.2.at_),(.int .u64 t_4.2.seed.v)],53⟩],q5]:=hS3.leaveF hR3
 have h6 : Rd m s1 t_4.2.code:=by rw [hk6]; exact h1
 refine q_x (v:=s5.v) hF hS (ex_assign rfl) rfl rfl fun a hF=>q_end (n_sq (q_seq (q_block (q_seq ?_))))
 obtain ⟨j1,hj1,hr⟩:=bindS hr
 refine q_join (fun a w=>∃ t_10,∃ p_c_11,j1 = (t_10,p_c_11)∧Fr a 33 [(0,(.pointer (some ⟨b_p_c,0,none⟩))),(5,s5.v),(9,(.bool t_10))]∧St X w0 w m [q5,[⟨b_p_c,[s1.v,(iV p_c_11.at_),(.int .u64 p_c_11.seed.v)],53⟩]]∧Rd m s1 p_c_11.code∧p_c_11.code = p_c.code) ?_ ?_
 ·refine q_region (q_x (v:=s5.v) hF hS (ex_move rfl) rfl rfl fun a hF=>q_x (v:=(iV (goLen t_4.1))) hF hS (ex_len Tryd.underlying25 rfl h5.len) rfl rfl fun a hF=>q_x (v:=(.bool (decide (0 < (goLen t_4.1))))) hF hS (ex_ibin rfl rfl rfl) rfl rfl fun a hF=>q_x (v:=(.bool (decide (0 < (goLen t_4.1))))) hF hS (ex_move rfl) rfl rfl fun a hF=>?_)
  rcases bcase (decide (0 < (goLen t_4.1))) with hc2 | hc2
  ·have hj1:=cond_f hc2 hj1
   refine q_skip hF (wanted_f hF rfl rfl rfl hc2 rfl) rfl fun a hF=>q_skip hF (wanted_f hF rfl rfl rfl hc2 rfl) rfl fun a hF=>q_x (v:=(.bool false)) hF hS (ex_pick_f rfl rfl hc2) rfl rfl fun a hF=>q_x (v:=(.bool false)) hF hS (ex_assign rfl) rfl rfl fun a hF=>q_end (n_jn ?_)
   obtain rfl:=someI hj1
   exact ⟨_,_,rfl,hF.sub ⟨rfl,rfl,rfl,trivial⟩,hS.sel [1,0] (by decide),h6,hk6⟩
  ·have hj1:=cond_t hc2 hj1
   refine q_xg (v:=(.pointer (some ⟨b_p_c,0,none⟩))) hF hS (ex_move rfl) (wanted_t hF rfl rfl rfl hc2) rfl fun a hF=>?_
   have hS7 : St _ _ _ _ ([[⟨b_p_c,[s1.v,(iV t_4.2.at_),(.int .u64 t_4.2.seed.v)],53⟩]]++[q5]):=hS
   have hE7:=hS7.enter
   obtain ⟨t_8,ht_8,hj1⟩:=bindS hj1
   refine q_dog (wanted_t hF rfl rfl rfl hc2) fun _ hK=>wp_callX (vs:=[(.pointer (some ⟨b_p_c,0,none⟩)),(iV 16)]) hF Tryd.func44 (by kernel_rfl) rfl rfl rfl (c_spec_l1Cur_one t_4.2 16 t_8 ht_8 _ m b_p_c s1 h6 _ hE7) fun a w _ hR hF=>hK _ _ ?_
   obtain ⟨rfl,hR7,hk9⟩:=hR
   have hS : St _ _ _ _ [[⟨b_p_c,[s1.v,(iV t_8.2.at_),(.int .u64 t_8.2.seed.v)],53⟩],q5]:=hS7.leaveF hR7
   have h9 : Rd m s1 t_8.2.code:=by rw [hk9]; exact h6
   refine q_x (v:=(.bool t_8.1)) hF hS (ex_pick_t rfl rfl hc2) rfl rfl fun a hF=>q_x (v:=(.bool t_8.1)) hF hS (ex_assign rfl) rfl rfl fun a hF=>q_end (n_jn ?_)
   obtain rfl:=someI hj1
   exact ⟨_,_,rfl,hF.sub ⟨rfl,rfl,rfl,trivial⟩,hS.sel [1,0] (by decide),h9,(hk9.trans hk6)⟩
 ·rintro a w ⟨t_10,p_c_11,rfl,hF,hS,h12,h12k⟩
  refine n_sq ?_
  obtain ⟨j3,hj3,hr⟩:=bindS hr
  refine q_join (fun a w=>∃ (q30 : Piece),∃ out_29,∃ p_c_31,j3 = .inl (out_29,p_c_31)∧Fr a 33 [(5,s5.v)]∧St X w0 w m [q30,[⟨b_p_c,[s1.v,(iV p_c_31.at_),(.int .u64 p_c_31.seed.v)],53⟩]]∧OwnL m 3 q30 s5 out_29∧Rd m s1 p_c_31.code∧p_c_31.code = p_c.code) ?_ ?_
  ·rcases bcase (t_10) with hc4 | hc4
   ·have hj3:=cond_f hc4 hj3
    refine q_cond_f hF rfl hc4 (q_seq (q_region (q_x (v:=(.pointer (some ⟨b_p_c,0,none⟩))) hF hS (ex_move rfl) rfl rfl fun a hF=>?_)))
    have hS : St _ _ _ _ [[⟨b_p_c,[s1.v,(iV p_c_11.at_),(.int .u64 p_c_11.seed.v)],53⟩],q5]:=hS.sel [1,0] (by decide)
    have hS13 : St _ _ _ _ ([[⟨b_p_c,[s1.v,(iV p_c_11.at_),(.int .u64 p_c_11.seed.v)],53⟩]]++[q5]):=hS
    have hE13:=hS13.enter
    obtain ⟨t_14,ht_14,hj3⟩:=bindS hj3
    refine q_do rfl fun _ hK=>wp_callX (vs:=[(.pointer (some ⟨b_p_c,0,none⟩)),(iV 24)]) hF Tryd.func44 (by kernel_rfl) rfl rfl rfl (c_spec_l1Cur_one p_c_11 24 t_14 ht_14 _ m b_p_c s1 h12 _ hE13) fun a w _ hR hF=>hK _ _ ?_
    obtain ⟨rfl,hR13,hk15⟩:=hR
    have hS : St _ _ _ _ [[⟨b_p_c,[s1.v,(iV t_14.2.at_),(.int .u64 t_14.2.seed.v)],53⟩],q5]:=hS13.leaveF hR13
    have h15 : Rd m s1 t_14.2.code:=by rw [hk15]; exact h12
    refine q_x (v:=(.bool t_14.1)) hF hS (ex_assign rfl) rfl rfl fun a hF=>q_end (n_sq ?_)
    rcases bcase (t_14.1) with hc5 | hc5
    ·have hj3:=cond_f hc5 hj3
     refine q_cond_f hF rfl hc5 (q_skipc (n_jn ?_))
     obtain rfl:=someI hj3
     exact ⟨q5,_,_,rfl,hF.sub ⟨rfl,trivial⟩,hS.sel [1,0] (by decide),h5,h15,(hk15.trans h12k)⟩
    ·have hj3:=cond_t hc5 hj3
     refine q_cond_t hF rfl hc5 (q_seq (q_region (q_x (v:=s5.v) hF hS (ex_move rfl) rfl rfl fun a hF=>q_do rfl fun _ hK=>wp_buildSlice' (l:=([0] : List Int)) (cells:=[(iV 0)]) hF hS Tryd.underlying25 inf3 rfl rfl (by kernel_rfl) rfl rfl rfl ⟨rfl,rfl⟩ rfl rfl fun a w q16 s16 hF hS h16 _=>hK _ _ ?_)))
     have hS : St _ _ _ _ [q5,q16,[⟨b_p_c,[s1.v,(iV t_14.2.at_),(.int .u64 t_14.2.seed.v)],53⟩]]:=hS.sel [2,0,1] (by decide)
     obtain ⟨l_17,hl_17,hj3⟩:=bindS hj3
     refine q_do rfl fun _ hK=>wp_append hF hS h5 Tryd.underlying25 inf3 rfl rfl rfl rfl (h16.vw hS (j:=1) rfl) rfl (by decide) hl_17 rfl fun a w q18 s18 hF hS h18=>hK _ _ (q_x (v:=s18.v) hF hS (ex_assign rfl) rfl rfl fun a hF=>q_end (n_sq (q_ret (r_jn ?_))))
     obtain rfl:=someI hj3
     refine r_ib (r_sq ?_)
     obtain rfl:=someI hr
     exact ret_ofX hF hS rfl (.tmp rfl .nil) ⟨q18,s18,rfl,hS.sel [2,0] (by decide),h18,(hk15.trans h12k)⟩
   ·have hj3:=cond_t hc4 hj3
    refine q_cond_t hF rfl hc4 (q_region (q_x (v:=s5.v) hF hS (ex_move rfl) rfl rfl fun a hF=>q_x (v:=(.pointer (some ⟨b_p_c,0,none⟩))) hF hS (ex_move rfl) rfl rfl fun a hF=>q_x (v:=s5.v) hF hS (ex_move rfl) rfl rfl fun a hF=>q_x (v:=(iV (goLen t_4.1))) hF hS (ex_len Tryd.underlying25 rfl h5.len) rfl rfl fun a hF=>?_))
    have hS : St _ _ _ _ [[⟨b_p_c,[s1.v,(iV p_c_11.at_),(.int .u64 p_c_11.seed.v)],53⟩],q5]:=hS.sel [1,0] (by decide)
    have hS19 : St _ _ _ _ ([[⟨b_p_c,[s1.v,(iV p_c_11.at_),(.int .u64 p_c_11.seed.v)],53⟩]]++[q5]):=hS
    have hE19:=hS19.enter
    obtain ⟨t_20,ht_20,hj3⟩:=bindS hj3
    refine q_do rfl fun _ hK=>wp_callX (vs:=[(.pointer (some ⟨b_p_c,0,none⟩)),(iV (goLen t_4.1))]) hF Tryd.func50 (by kernel_rfl) rfl rfl rfl (c_spec_l1Cur_pick p_c_11 (goLen t_4.1) t_20 ht_20 _ m b_p_c s1 h12 _ hE19) fun a w _ hR hF=>hK _ _ ?_
    obtain ⟨rfl,hR19,hk21⟩:=hR
    have hS : St _ _ _ _ [[⟨b_p_c,[s1.v,(iV t_20.2.at_),(.int .u64 t_20.2.seed.v)],53⟩],q5]:=hS19.leaveF hR19
    have h21 : Rd m s1 t_20.2.code:=by rw [hk21]; exact h12
    refine q_x (v:=(.pointer (some ⟨b_p_c,0,none⟩))) hF hS (ex_move rfl) rfl rfl fun a hF=>q_do rfl fun _ hK=>wp_buildSlice' (l:=([-1,2,8] : List Int)) (cells:=[(iV (-1)),(iV 2),(iV 8)]) hF hS Tryd.underlying25 inf3 rfl rfl (by kernel_rfl) rfl rfl rfl ⟨rfl,rfl,rfl,rfl⟩ rfl rfl fun a w q22 s22 hF hS h22 _=>hK _ _ ?_
    have hS : St _ _ _ _ [[⟨b_p_c,[s1.v,(iV t_20.2.at_),(.int .u64 t_20.2.seed.v)],53⟩],q22,q5]:=hS.sel [1,0,2] (by decide)
    have hS23 : St _ _ _ _ ([[⟨b_p_c,[s1.v,(iV t_20.2.at_),(.int .u64 t_20.2.seed.v)],53⟩]]++[q22,q5]):=hS
    obtain ⟨m23,hl23,hE23,hz23⟩:=hS23.lendX
    obtain ⟨t_24,ht_24,hj3⟩:=bindS hj3
    refine q_do rfl fun _ hK=>wp_callX (vs:=[(.pointer (some ⟨b_p_c,0,none⟩)),s22.v]) hF Tryd.func51 (by kernel_rfl) rfl rfl rfl (c_spec_l1Cur_among t_20.2 ([-1,2,8] : List Int) t_24 ht_24 _ m23 b_p_c s1 (h21.mono hl23) s22 (h22.froz hl23 (hz23 0 _ rfl)) _ hE23) fun a w _ hR hF=>hK _ _ ?_
    obtain ⟨rfl,hR23,hk25⟩:=hR
    have hS : St _ _ _ _ [[⟨b_p_c,[s1.v,(iV t_24.2.at_),(.int .u64 t_24.2.seed.v)],53⟩],q22,q5]:=hS23.leaveF hR23
    have h25 : Rd m s1 t_24.2.code:=by rw [hk25]; exact h21
    obtain ⟨e_26,he_26,hj3⟩:=bindS hj3
    obtain ⟨vs27,at27,d27⟩:=h5.at he_26 1 rfl
    obtain rfl : vs27 = [(iV e_26)]:=d27
    refine q_x (v:=(elP s5 (t_20.1.toNat * 1))) hF hS (ex_indexAddr Tryd.underlying25 sz3 rfl rfl (h5.idx he_26)) rfl rfl fun a hF=>?_
    have hS : St _ _ _ _ [q5,[⟨b_p_c,[s1.v,(iV t_24.2.at_),(.int .u64 t_24.2.seed.v)],53⟩],q22]:=hS.sel [2,0,1] (by decide)
    refine q_do rfl fun _ hK=>wp_storeE (e':=t_24.1) (us:=[(iV t_24.1)]) (vs:=[(iV e_26)]) 0 hF hS h5 sz3 rfl rfl rfl rfl rfl rfl rfl he_26 at27 rfl rfl rfl fun w q28 hS h28=>hK _ _ (q_end (n_jn ?_))
    obtain rfl:=someI hj3
    exact ⟨q28,_,_,rfl,hF.sub ⟨rfl,trivial⟩,hS.mask [true,true,false],h28,h25,(hk25.trans (hk21.trans h12k))⟩
  ·rintro a w ⟨q30,out_29,p_c_31,rfl,hF,hS,h30,h32,h32k⟩
   refine n_ib (n_sq ?_)
   refine q_seq (q_region (q_x (v:=s5.v) hF hS (ex_move rfl) rfl rfl fun a hF=>q_x (v:=s5.v) hF hS (ex_assign rfl) rfl rfl fun a hF=>q_end (n_sq (q_ret ?_))))
   obtain rfl:=someI hr
   exact ret_ofX hF hS rfl (.tmp rfl .nil) ⟨q30,s5,rfl,hS.sel [1,0] (by decide),h30,h32k⟩

theorem c_spec_DrawFailsEdit (p_code : List (K .u8)) (r : (List impl_Variable) × impl_Edit × (List Int)) (hr : spec_DrawFailsEdit p_code = some r) (w0 : World) (m : Mem) (hv : Vis m w0) (s1 : Sl) (h1 : Rd m s1 p_code) :
  Ret Tryd.prog 9 [s1.v] w0 (fun v w=>∃ (q0' : Piece) (q1' : Piece) (q2' : Piece) (s0' : Sl) (s1' : Sl) (s2' : Sl),v = (.tuple #[s0'.v,(.agg #[s1'.v]),s2'.v])∧St [] w0 w m [q0',q1',q2']∧OwnL m 63 q0' s0' r.1∧OwnL m 3 q1' s1' r.2.1.Sets∧OwnL m 3 q2' s2' r.2.2):=by
 unfold spec_DrawFailsEdit at hr
 refine ret_start Tryd.func9 rfl 19 rfl rfl m hv fun a hF hS=>q_seq (q_region (q_x (v:=nilS.v) hF hS (ex_assign rfl) rfl rfl fun a hF=>q_alloc (cs:=[nilS.v]) hF hS rfl rfl rfl fun a w b2 hF hS=>q_x (v:=nilS.v) hF hS (ex_assign rfl) rfl rfl fun a hF=>q_end (n_sq (q_seq (q_region (q_x (v:=s1.v) hF hS (ex_move rfl) rfl rfl fun a hF=>q_x (v:=(.agg #[s1.v,(iV 0),(.int .u64 0)])) hF hS (ex_build (cells:=[s1.v,(iV 0),(.int .u64 0)]) rfl (by kernel_rfl)) rfl rfl fun a hF=>q_box (cs:=[s1.v,(iV 0),(.int .u64 0)]) hF hS rfl rfl rfl fun a w b3 hF hS=>q_x (v:=(.pointer (some ⟨b3,0,none⟩))) hF hS (ex_assign rfl) rfl rfl fun a hF=>q_end (n_sq (q_seq (q_region (q_x (v:=(.pointer (some ⟨b3,0,none⟩))) hF hS (ex_move rfl) rfl rfl fun a hF=>?_))))))))))
 have hS4 : St _ _ _ _ ([[⟨b3,[s1.v,(iV 0),(.int .u64 0)],53⟩]]++[[⟨b2,[nilS.v],27⟩]]):=hS
 have hE4:=hS4.enter
 obtain ⟨t_5,ht_5,hr⟩:=bindS hr
 refine q_do rfl fun _ hK=>wp_callX (vs:=[(.pointer (some ⟨b3,0,none⟩))]) hF Tryd.func25 (by kernel_rfl) rfl rfl rfl (c_spec_l1Cur_anySchema (spec_l1Cur.mk p_code 0 (⟨0⟩ : K .u64)) t_5 ht_5 _ m b3 s1 h1 _ hE4) fun a w _ hR hF=>hK _ _ ?_
 obtain ⟨q6,s6,rfl,hR4,h6,hk7⟩:=hR
 have hS : St _ _ _ _ [[⟨b3,[s1.v,(iV t_5.2.at_),(.int .u64 t_5.2.seed.v)],53⟩],q6,[⟨b2,[nilS.v],27⟩]]:=hS4.leaveF hR4
 have h7 : Rd m s1 t_5.2.code:=by rw [hk7]; exact h1
 refine q_x (v:=s6.v) hF hS (ex_assign rfl) rfl rfl fun a hF=>q_end (n_sq (q_seq (q_region (q_x (v:=s6.v) hF hS (ex_move rfl) rfl rfl fun a hF=>q_x (v:=(.pointer (some ⟨b3,0,none⟩))) hF hS (ex_move rfl) rfl rfl fun a hF=>q_x (v:=s6.v) hF hS (ex_move rfl) rfl rfl fun a hF=>?_))))
 have hS8 : St _ _ _ _ ([[⟨b3,[s1.v,(iV t_5.2.at_),(.int .u64 t_5.2.seed.v)],53⟩]]++[q6,[⟨b2,[nilS.v],27⟩]]):=hS
 obtain ⟨m8,hl8,hE8,hz8⟩:=hS8.lendX
 obtain ⟨t_9,ht_9,hr⟩:=bindS hr
 refine q_do rfl fun _ hK=>wp_callX (vs:=[(.pointer (some ⟨b3,0,none⟩)),s6.v]) hF Tryd.func26 (by kernel_rfl) rfl rfl rfl (c_spec_l1Cur_anyEdit t_5.2 t_5.1 t_9 ht_9 _ m8 b3 s1 (h7.mono hl8) s6 (h6.froz hl8 (hz8 0 _ rfl)) _ hE8) fun a w _ hR hF=>hK _ _ ?_
 obtain ⟨q10,s10,rfl,hR8,h10,hk11⟩:=hR
 have hS : St _ _ _ _ [[⟨b3,[s1.v,(iV t_9.2.at_),(.int .u64 t_9.2.seed.v)],53⟩],q10,q6,[⟨b2,[nilS.v],27⟩]]:=hS8.leaveF hR8
 have h10:=h10.any m
 have h11 : Rd m s1 t_9.2.code:=by rw [hk11]; exact h7
 refine q_x (v:=(.pointer (some ⟨b3,0,none⟩))) hF hS (ex_move rfl) rfl rfl fun a hF=>q_x (v:=s6.v) hF hS (ex_move rfl) rfl rfl fun a hF=>?_
 have hS12 : St _ _ _ _ ([[⟨b3,[s1.v,(iV t_9.2.at_),(.int .u64 t_9.2.seed.v)],53⟩]]++[q10,q6,[⟨b2,[nilS.v],27⟩]]):=hS
 obtain ⟨m12,hl12,hE12,hz12⟩:=hS12.lendX
 obtain ⟨t_13,ht_13,hr⟩:=bindS hr
 refine q_do rfl fun _ hK=>wp_callX (vs:=[(.pointer (some ⟨b3,0,none⟩)),s6.v]) hF Tryd.func27 (by kernel_rfl) rfl rfl rfl (c_spec_l1Cur_anyValues t_9.2 t_5.1 t_13 ht_13 _ m12 b3 s1 (h11.mono hl12) s6 (h6.froz hl12 (hz12 1 _ rfl)) _ hE12) fun a w _ hR hF=>hK _ _ ?_
 obtain ⟨q14,s14,rfl,hR12,h14,hk15⟩:=hR
 have hS : St _ _ _ _ [[⟨b3,[s1.v,(iV t_13.2.at_),(.int .u64 t_13.2.seed.v)],53⟩],q14,q10,q6,[⟨b2,[nilS.v],27⟩]]:=hS12.leaveF hR12
 have h14:=h14.any m
 have h15 : Rd m s1 t_13.2.code:=by rw [hk15]; exact h11
 refine q_x (v:=s6.v) hF hS (ex_assign rfl) rfl rfl fun a hF=>q_store (vs:=[s10.v]) (cs':=[s10.v]) 4 0 hF hS sz27 rfl rfl rfl rfl rfl rfl rfl rfl fun a w hF hS=>q_x (v:=s14.v) hF hS (ex_assign rfl) rfl rfl fun a hF=>q_end (n_sq (q_ret ?_))
 obtain rfl:=someI hr
 exact ret_of hF hS rfl (.tmp rfl (.cellA (us:=[s10.v]) 4 0 Tryd.underlying27 rfl sz27 rfl rfl rfl rfl (.tmp rfl .nil))) ⟨q6,q10,q14,s6,s10,s14,rfl,hS.sel [3,2,1] (by decide),h6,h10,h14⟩

theorem c_impl_areValues (p_s : List impl_Variable) (p_values : List Int) (r : Bool) (hr : impl_areValues p_s p_values = some r) (w0 : World) (m : Mem) (hv : Vis m w0) (s1 : Sl) (h1 : Rd m s1 p_s) (s2 : Sl) (h2 : Rd m s2 p_values) :
  Ret Tryd.prog 28 [s1.v,s2.v] w0 (fun v _=>v = (.bool r)):=by
 unfold impl_areValues at hr
 refine ret_start Tryd.func28 rfl 31 rfl rfl m hv fun a hF hS=>q_seq (q_region (q_x (v:=(.bool false)) hF hS (ex_assign rfl) rfl rfl fun a hF=>q_end (n_sq (q_seq (q_seq (q_region (q_x (v:=s2.v) hF hS (ex_move rfl) rfl rfl fun a hF=>q_x (v:=(iV (goLen p_values))) hF hS (ex_len Tryd.underlying25 rfl h2.len) rfl rfl fun a hF=>q_x (v:=s1.v) hF hS (ex_move rfl) rfl rfl fun a hF=>q_x (v:=(iV (goLen p_s))) hF hS (ex_len Tryd.underlying24 rfl h1.len) rfl rfl fun a hF=>q_x (v:=(.bool ((goLen p_values) != (goLen p_s)))) hF hS (ex_ibin rfl rfl rfl) rfl rfl fun a hF=>q_end (n_sq ?_))))))))
 rcases bcase ((goLen p_values) != (goLen p_s)) with hc1 | hc1
 ·have hr:=cond_f hc1 hr
  refine q_cond_f hF rfl hc1 (q_skipc (n_sq (q_seq (q_seq (q_region (q_x (v:=s2.v) hF hS (ex_move rfl) rfl rfl fun a hF=>q_x (v:=(iV (goLen p_values))) hF hS (ex_len Tryd.underlying25 rfl h2.len) rfl rfl fun a hF=>q_x (v:=(iV 0)) hF hS (ex_move rfl) rfl rfl fun a hF=>q_end (n_sq (q_block ?_))))))))
  obtain ⟨o2,hl2,hr⟩:=bindS hr
  refine q_loop (fun (t_3 : Int) a w=>Fr a 31 [(0,s1.v),(12,s2.v),(13,(iV (goLen p_values))),(14,(iV t_3))]∧St [] w0 w m []) (fun (o : (Unit) ⊕ (Bool)) e a w=>o = .inl ()∧e = .exit 0∧Fr a 31 []∧St [] w0 w m []) hl2 ⟨hF.sub ⟨rfl,rfl,rfl,rfl,trivial⟩,hS⟩ ?_ ?_
  ·clear hF hS
   rintro t_3 a w st ⟨hF,hS⟩ hb2
   unfold impl_areValues_l1 at hb2
   refine q_seq (q_region (q_x (v:=(.bool (decide (t_3 < (goLen p_values))))) hF hS (ex_ibin rfl rfl rfl) rfl rfl fun a hF=>q_end (n_sq (q_seq ?_))))
   rcases bcase (decide (t_3 < (goLen p_values))) with hc3 | hc3
   ·have hb2:=cond_f hc3 hb2
    refine q_cond_f hF rfl hc3 (q_exit (x_sq ?_))
    obtain rfl:=someI hb2
    exact ⟨nofun,.inl ⟨rfl,rfl,hF.sub trivial,hS⟩⟩
   ·have hb2:=cond_t hc3 hb2
    refine q_cond_t hF rfl hc3 (q_skipc (n_sq (q_seq (q_block (q_seq (q_region (q_x (v:=(iV t_3)) hF hS (ex_move rfl) rfl rfl fun a hF=>?_)))))))
    obtain ⟨e_4,he_4,hb2⟩:=bindS hb2
    obtain ⟨vs5,at5,d5⟩:=h2.at he_4 1 rfl
    obtain rfl : vs5 = [(iV e_4)]:=d5
    refine q_x (v:=(elP s2 (t_3.toNat * 1))) hF hS (ex_indexAddr Tryd.underlying25 sz3 rfl rfl (h2.idx he_4)) rfl rfl fun a hF=>q_x (v:=(iV e_4)) hF hS (ex_loadE1 0 Tryd.underlying3 rfl rfl ((at5).at) rfl rfl) rfl rfl fun a hF=>q_x (v:=(iV t_3)) hF hS (ex_assign rfl) rfl rfl fun a hF=>q_x (v:=(iV e_4)) hF hS (ex_assign rfl) rfl rfl fun a hF=>q_end (n_sq (q_seq ?_))
    obtain ⟨t_8,hj4,hb2⟩:=bindS hb2
    refine q_join (fun a w=>Fr a 31 [(0,s1.v),(12,s2.v),(13,(iV (goLen p_values))),(14,(iV t_3)),(29,(.bool t_8))]∧St [] w0 w m []) ?_ ?_
    ·refine q_region (q_x (v:=(iV e_4)) hF hS (ex_move rfl) rfl rfl fun a hF=>q_x (v:=(.bool (decide (e_4 < 0)))) hF hS (ex_ibin rfl rfl rfl) rfl rfl fun a hF=>q_x (v:=(.bool (decide (e_4 < 0)))) hF hS (ex_move rfl) rfl rfl fun a hF=>?_)
     rcases bcase (decide (e_4 < 0)) with hc5 | hc5
     ·have hj4:=cond_f hc5 hj4
      refine q_xg (v:=(iV e_4)) hF hS (ex_move rfl) (wanted_t hF rfl rfl rfl hc5) rfl fun a hF=>q_xg (v:=s1.v) hF hS (ex_move rfl) (wanted_t hF rfl rfl rfl hc5) rfl fun a hF=>q_xg (v:=(iV t_3)) hF hS (ex_move rfl) (wanted_t hF rfl rfl rfl hc5) rfl fun a hF=>?_
      obtain ⟨e_6,he_6,hj4⟩:=bindS hj4
      obtain ⟨vs7,at7,d7⟩:=h1.at he_6 2 rfl
      obtain rfl : vs7 = [(strV e_6.Name),(iV e_6.Levels)]:=d7
      refine q_xg (v:=(elP s1 (t_3.toNat * 2))) hF hS (ex_indexAddr Tryd.underlying24 sz63 rfl rfl (h1.idx he_6)) (wanted_t hF rfl rfl rfl hc5) rfl fun a hF=>q_xg (v:=(elP s1 (t_3.toNat * 2 + 1))) hF hS (ex_fieldAddrE Tryd.underlying63 rfl sz3 rfl (h1.idx he_6) rfl) (wanted_t hF rfl rfl rfl hc5) rfl fun a hF=>q_xg (v:=(iV e_6.Levels)) hF hS (ex_loadE1 1 Tryd.underlying3 rfl rfl ((at7).at) rfl rfl) (wanted_t hF rfl rfl rfl hc5) rfl fun a hF=>q_xg (v:=(.bool (decide (e_6.Levels ≤ e_4)))) hF hS (ex_ibin rfl rfl rfl) (wanted_t hF rfl rfl rfl hc5) rfl fun a hF=>q_x (v:=(.bool (decide (e_6.Levels ≤ e_4)))) hF hS (ex_pick_f rfl rfl hc5) rfl rfl fun a hF=>q_end (n_jn ?_)
      obtain rfl:=someI hj4
      exact ⟨hF.sub ⟨rfl,rfl,rfl,rfl,rfl,trivial⟩,hS⟩
     ·have hj4:=cond_t hc5 hj4
      refine q_skip hF (wanted_f hF rfl rfl rfl hc5 rfl) rfl fun a hF=>q_skip hF (wanted_f hF rfl rfl rfl hc5 rfl) rfl fun a hF=>q_skip hF (wanted_f hF rfl rfl rfl hc5 rfl) rfl fun a hF=>q_skip hF (wanted_f hF rfl rfl rfl hc5 rfl) rfl fun a hF=>q_skip hF (wanted_f hF rfl rfl rfl hc5 rfl) rfl fun a hF=>q_skip hF (wanted_f hF rfl rfl rfl hc5 rfl) rfl fun a hF=>q_skip hF (wanted_f hF rfl rfl rfl hc5 rfl) rfl fun a hF=>q_x (v:=(.bool true)) hF hS (ex_pick_t rfl rfl hc5) rfl rfl fun a hF=>q_end (n_jn ?_)
      obtain rfl:=someI hj4
      exact ⟨hF.sub ⟨rfl,rfl,rfl,rfl,rfl,trivial⟩,hS⟩
    ·rintro a w ⟨hF,hS⟩
     refine n_sq ?_
     rcases bcase (t_8) with hc6 | hc6
     ·have hb2:=cond_f hc6 hb2
      refine q_cond_f hF rfl hc6 (q_skipc (n_ib (n_sq (q_region (q_x (v:=(iV (w64 (t_3 + 1)))) hF hS (ex_ibin rfl rfl rfl) rfl rfl fun a hF=>q_x (v:=(iV (w64 (t_3 + 1)))) hF hS (ex_move rfl) rfl rfl fun a hF=>q_end ?_)))))
      obtain rfl:=someI hb2
      exact ⟨rfl,hF.sub ⟨rfl,rfl,rfl,rfl,trivial⟩,hS⟩
     ·have hb2:=cond_t hc6 hb2
      refine q_cond_t hF rfl hc6 (q_seq (q_region (q_x (v:=(.bool false)) hF hS (ex_assign rfl) rfl rfl fun a hF=>q_end (n_sq (q_ret (r_ib (r_sq ?_)))))))
      obtain rfl:=someI hb2
      refine ⟨nofun,.inr fun ho=>?_⟩
      subst ho
      refine r_ib (r_sq ?_)
      obtain rfl:=someI hr
      exact ret_of hF hS rfl (.tmp rfl .nil) rfl
  ·rintro e a w ⟨rfl,rfl,hF,hS⟩
   refine x_ib (n_sq ?_)
   refine q_seq (q_region (q_x (v:=(.bool true)) hF hS (ex_assign rfl) rfl rfl fun a hF=>q_end (n_sq (q_ret ?_))))
   obtain rfl:=someI hr
   exact ret_of hF hS rfl (.tmp rfl .nil) rfl
 ·have hr:=cond_t hc1 hr
  refine q_cond_t hF rfl hc1 (q_seq (q_region (q_x (v:=(.bool false)) hF hS (ex_assign rfl) rfl rfl fun a hF=>q_end (n_sq (q_ret (r_sq ?_))))))
  obtain rfl:=someI hr
  exact ret_of hF hS rfl (.tmp rfl .nil) rfl

theorem c_impl_fails (p_e : impl_Edit) (p_values : List Int) (r : Bool) (hr : impl_fails p_e p_values = some r) (w0 : World) (m : Mem) (hv : Vis m w0) (s1 : Sl) (h1 : Rd m s1 p_e.Sets) (s2 : Sl) (h2 : Rd m s2 p_values) :
  Ret Tryd.prog 29 [(.agg #[s1.v]),s2.v] w0 (fun v _=>v = (.bool r)):=by
 unfold impl_fails at hr
 refine ret_start Tryd.func29 rfl 24 rfl rfl m hv fun a hF hS=>q_seq (q_region (q_box (cs:=[s1.v]) hF hS rfl rfl rfl fun a w b3 hF hS=>q_x (v:=(.bool false)) hF hS (ex_assign rfl) rfl rfl fun a hF=>q_end (n_sq (q_seq (q_seq (q_region (q_x (v:=s2.v) hF hS (ex_move rfl) rfl rfl fun a hF=>q_x (v:=(iV (goLen p_values))) hF hS (ex_len Tryd.underlying25 rfl h2.len) rfl rfl fun a hF=>q_x (v:=(iV 0)) hF hS (ex_move rfl) rfl rfl fun a hF=>q_end (n_sq (q_block ?_)))))))))
 obtain ⟨o1,hl1,hr⟩:=bindS hr
 refine q_loop (fun (t_4 : Int) a w=>Fr a 24 [(2,(.pointer (some ⟨b3,0,none⟩))),(7,s2.v),(8,(iV (goLen p_values))),(9,(iV t_4))]∧St [] w0 w m [[⟨b3,[s1.v],27⟩]]) (fun (o : (Unit) ⊕ (Bool)) e a w=>o = .inl ()∧e = .exit 0∧Fr a 24 []∧St [] w0 w m []) hl1 ⟨hF.sub ⟨rfl,rfl,rfl,rfl,trivial⟩,hS⟩ ?_ ?_
 ·clear hF hS
  rintro t_4 a w st ⟨hF,hS⟩ hb1
  unfold impl_fails_l1 at hb1
  refine q_seq (q_region (q_x (v:=(.bool (decide (t_4 < (goLen p_values))))) hF hS (ex_ibin rfl rfl rfl) rfl rfl fun a hF=>q_end (n_sq (q_seq ?_))))
  rcases bcase (decide (t_4 < (goLen p_values))) with hc2 | hc2
  ·have hb1:=cond_f hc2 hb1
   refine q_cond_f hF rfl hc2 (q_exit (x_sq ?_))
   obtain rfl:=someI hb1
   exact ⟨nofun,.inl ⟨rfl,rfl,hF.sub trivial,hS.mask [false]⟩⟩
  ·have hb1:=cond_t hc2 hb1
   refine q_cond_t hF rfl hc2 (q_skipc (n_sq (q_seq (q_block (q_seq (q_region (q_x (v:=(iV t_4)) hF hS (ex_move rfl) rfl rfl fun a hF=>?_)))))))
   obtain ⟨e_5,he_5,hb1⟩:=bindS hb1
   obtain ⟨vs6,at6,d6⟩:=h2.at he_5 1 rfl
   obtain rfl : vs6 = [(iV e_5)]:=d6
   refine q_x (v:=(elP s2 (t_4.toNat * 1))) hF hS (ex_indexAddr Tryd.underlying25 sz3 rfl rfl (h2.idx he_5)) rfl rfl fun a hF=>q_x (v:=(iV e_5)) hF hS (ex_loadE1 0 Tryd.underlying3 rfl rfl ((at6).at) rfl rfl) rfl rfl fun a hF=>q_x (v:=(iV t_4)) hF hS (ex_assign rfl) rfl rfl fun a hF=>q_x (v:=(iV e_5)) hF hS (ex_assign rfl) rfl rfl fun a hF=>q_end (n_sq (q_seq (q_region (q_x (v:=(.pointer (some ⟨b3,0,none⟩))) hF hS (ex_fieldAddr Tryd.underlying27 rfl sz25 rfl rfl) rfl rfl fun a hF=>q_x (v:=s1.v) hF hS (ex_load1 0 0 Tryd.underlying25 rfl rfl rfl rfl) rfl rfl fun a hF=>q_x (v:=(iV t_4)) hF hS (ex_move rfl) rfl rfl fun a hF=>?_))))
   obtain ⟨e_7,he_7,hb1⟩:=bindS hb1
   obtain ⟨vs8,at8,d8⟩:=h1.at he_7 1 rfl
   obtain rfl : vs8 = [(iV e_7)]:=d8
   refine q_x (v:=(elP s1 (t_4.toNat * 1))) hF hS (ex_indexAddr Tryd.underlying25 sz3 rfl rfl (h1.idx he_7)) rfl rfl fun a hF=>q_x (v:=(iV e_7)) hF hS (ex_loadE1 0 Tryd.underlying3 rfl rfl ((at8).at) rfl rfl) rfl rfl fun a hF=>q_x (v:=(iV e_5)) hF hS (ex_move rfl) rfl rfl fun a hF=>?_
   obtain ⟨t_9,ht_9,hb1⟩:=bindS hb1
   refine q_x (v:=(iV t_9)) hF hS (ex_shr rfl rfl ht_9) rfl rfl fun a hF=>q_x (v:=(iV (goBits .and .i64 t_9 1))) hF hS (ex_bits rfl rfl rfl) rfl rfl fun a hF=>q_x (v:=(.bool ((goBits .and .i64 t_9 1) == 0))) hF hS (ex_ibin rfl rfl rfl) rfl rfl fun a hF=>q_end (n_sq ?_)
   rcases bcase ((goBits .and .i64 t_9 1) == 0) with hc3 | hc3
   ·have hb1:=cond_f hc3 hb1
    refine q_cond_f hF rfl hc3 (q_skipc (n_ib (n_sq (q_region (q_x (v:=(iV (w64 (t_4 + 1)))) hF hS (ex_ibin rfl rfl rfl) rfl rfl fun a hF=>q_x (v:=(iV (w64 (t_4 + 1)))) hF hS (ex_move rfl) rfl rfl fun a hF=>q_end ?_)))))
    obtain rfl:=someI hb1
    exact ⟨rfl,hF.sub ⟨rfl,rfl,rfl,rfl,trivial⟩,hS⟩
   ·have hb1:=cond_t hc3 hb1
    refine q_cond_t hF rfl hc3 (q_seq (q_region (q_x (v:=(.bool false)) hF hS (ex_assign rfl) rfl rfl fun a hF=>q_end (n_sq (q_ret (r_ib (r_sq ?_)))))))
    obtain rfl:=someI hb1
    refine ⟨nofun,.inr fun ho=>?_⟩
    subst ho
    refine r_ib (r_sq ?_)
    obtain rfl:=someI hr
    exact ret_of hF hS rfl (.tmp rfl .nil) rfl
 ·rintro e a w ⟨rfl,rfl,hF,hS⟩
  refine x_ib (n_sq ?_)
  refine q_seq (q_region (q_x (v:=(.bool true)) hF hS (ex_assign rfl) rfl rfl fun a hF=>q_end (n_sq (q_ret ?_))))
  obtain rfl:=someI hr
  exact ret_of hF hS rfl (.tmp rfl .nil) rfl

theorem c_impl_FailsEdit (p_s : List impl_Variable) (p_e : impl_Edit) (p_values : List Int) (r : Bool × Bool) (hr : impl_FailsEdit p_s p_e p_values = some r) (w0 : World) (m : Mem) (hv : Vis m w0) (s1 : Sl) (h1 : Rd m s1 p_s) (s2 : Sl) (h2 : Rd m s2 p_e.Sets) (s3 : Sl) (h3 : Rd m s3 p_values) :
  Ret Tryd.prog 10 [s1.v,(.agg #[s2.v]),s3.v] w0 (fun v _=>v = (.tuple #[(.bool r.1),(.bool r.2)])):=by
 unfold impl_FailsEdit at hr
 refine ret_start Tryd.func10 rfl 26 rfl rfl m hv fun a hF hS=>q_seq (q_region (q_box (cs:=[s2.v]) hF hS rfl rfl rfl fun a w b4 hF hS=>q_x (v:=(.bool false)) hF hS (ex_assign rfl) rfl rfl fun a hF=>q_x (v:=(.bool false)) hF hS (ex_assign rfl) rfl rfl fun a hF=>q_end (n_sq (q_seq (q_seq ?_)))))
 obtain ⟨t_8,hj1,hr⟩:=bindS hr
 refine q_join (fun a w=>Fr a 26 [(2,s3.v),(4,(.pointer (some ⟨b4,0,none⟩))),(22,(.bool t_8))]∧St [] w0 w m [[⟨b4,[s2.v],27⟩]]) ?_ ?_
 ·refine q_region (q_x (v:=s1.v) hF hS (ex_move rfl) rfl rfl fun a hF=>?_)
  obtain ⟨t_5,ht_5,hj1⟩:=bindS hj1
  refine q_call (vs:=[s1.v]) hF hS Tryd.func20 (by kernel_rfl) rfl rfl rfl (c_impl_IsSchema p_s t_5 ht_5 _ m hS.vis s1 h1) ?_
  rintro a w _ rfl hF hS
  refine q_x (v:=(.bool (!t_5))) hF hS (ex_not rfl) rfl rfl fun a hF=>q_x (v:=(.bool (!t_5))) hF hS (ex_move rfl) rfl rfl fun a hF=>?_
  rcases bcase (!t_5) with hc2 | hc2
  ·have hj1:=cond_f hc2 hj1
   refine q_xg (v:=s1.v) hF hS (ex_move rfl) (wanted_t hF rfl rfl rfl hc2) rfl fun a hF=>q_xg (v:=(.agg #[s2.v])) hF hS (ex_loadA (vs:=[s2.v]) 0 0 Tryd.underlying27 rfl sz27 rfl rfl rfl rfl) (wanted_t hF rfl rfl rfl hc2) rfl fun a hF=>?_
   obtain ⟨t_6,ht_6,hj1⟩:=bindS hj1
   refine q_callg (vs:=[s1.v,(.agg #[s2.v])]) hF hS (wanted_t hF rfl rfl rfl hc2) Tryd.func21 (by kernel_rfl) rfl rfl rfl (c_impl_isEdit p_s p_e t_6 ht_6 _ m hS.vis s1 h1 s2 h2) ?_
   rintro a w _ rfl hF hS
   refine q_xg (v:=(.bool (!t_6))) hF hS (ex_not rfl) (wanted_t hF rfl rfl rfl hc2) rfl fun a hF=>q_x (v:=(.bool (!t_6))) hF hS (ex_pick_f rfl rfl hc2) rfl rfl fun a hF=>q_x (v:=(.bool (!t_6))) hF hS (ex_move rfl) rfl rfl fun a hF=>?_
   rcases bcase (!t_6) with hc3 | hc3
   ·have hj1:=cond_f hc3 hj1
    refine q_xg (v:=s1.v) hF hS (ex_move rfl) (wanted_t hF rfl rfl rfl hc3) rfl fun a hF=>q_xg (v:=s3.v) hF hS (ex_move rfl) (wanted_t hF rfl rfl rfl hc3) rfl fun a hF=>?_
    obtain ⟨t_7,ht_7,hj1⟩:=bindS hj1
    refine q_callg (vs:=[s1.v,s3.v]) hF hS (wanted_t hF rfl rfl rfl hc3) Tryd.func28 (by kernel_rfl) rfl rfl rfl (c_impl_areValues p_s p_values t_7 ht_7 _ m hS.vis s1 h1 s3 h3) ?_
    rintro a w _ rfl hF hS
    refine q_xg (v:=(.bool (!t_7))) hF hS (ex_not rfl) (wanted_t hF rfl rfl rfl hc3) rfl fun a hF=>q_x (v:=(.bool (!t_7))) hF hS (ex_pick_f rfl rfl hc3) rfl rfl fun a hF=>q_end (n_jn ?_)
    obtain rfl:=someI hj1
    exact ⟨hF.sub ⟨rfl,rfl,rfl,trivial⟩,hS⟩
   ·have hj1:=cond_t hc3 hj1
    refine q_skip hF (wanted_f hF rfl rfl rfl hc3 rfl) rfl fun a hF=>q_skip hF (wanted_f hF rfl rfl rfl hc3 rfl) rfl fun a hF=>q_skip hF (wanted_f hF rfl rfl rfl hc3 rfl) rfl fun a hF=>q_skip hF (wanted_f hF rfl rfl rfl hc3 rfl) rfl fun a hF=>q_x (v:=(.bool true)) hF hS (ex_pick_t rfl rfl hc3) rfl rfl fun a hF=>q_end (n_jn ?_)
    obtain rfl:=someI hj1
    exact ⟨hF.sub ⟨rfl,rfl,rfl,trivial⟩,hS⟩
  ·have hj1:=cond_t hc2 hj1
   refine q_skip hF (wanted_f hF rfl rfl rfl hc2 rfl) rfl fun a hF=>q_skip hF (wanted_f hF rfl rfl rfl hc2 rfl) rfl fun a hF=>q_skip hF (wanted_f hF rfl rfl rfl hc2 rfl) rfl fun a hF=>q_skip hF (wanted_f hF rfl rfl rfl hc2 rfl) rfl fun a hF=>q_x (v:=(.bool true)) hF hS (ex_pick_t rfl rfl hc2) rfl rfl fun a hF=>q_x (v:=(.bool true)) hF hS (ex_move rfl) rfl rfl fun a hF=>q_skip hF (wanted_f hF rfl rfl rfl rfl rfl) rfl fun a hF=>q_skip hF (wanted_f hF rfl rfl rfl rfl rfl) rfl fun a hF=>q_skip hF (wanted_f hF rfl rfl rfl rfl rfl) rfl fun a hF=>q_skip hF (wanted_f hF rfl rfl rfl rfl rfl) rfl fun a hF=>q_x (v:=(.bool true)) hF hS (ex_pick_t rfl rfl rfl) rfl rfl fun a hF=>q_end (n_jn ?_)
   obtain rfl:=someI hj1
   exact ⟨hF.sub ⟨rfl,rfl,rfl,trivial⟩,hS⟩
 ·rintro a w ⟨hF,hS⟩
  refine n_sq ?_
  rcases bcase (t_8) with hc4 | hc4
  ·have hr:=cond_f hc4 hr
   refine q_cond_f hF rfl hc4 (q_skipc (n_sq (q_seq (q_region (q_x (v:=(.agg #[s2.v])) hF hS (ex_loadA (vs:=[s2.v]) 0 0 Tryd.underlying27 rfl sz27 rfl rfl rfl rfl) rfl rfl fun a hF=>q_x (v:=s3.v) hF hS (ex_move rfl) rfl rfl fun a hF=>?_)))))
   obtain ⟨t_9,ht_9,hr⟩:=bindS hr
   refine q_call (vs:=[(.agg #[s2.v]),s3.v]) hF hS Tryd.func29 (by kernel_rfl) rfl rfl rfl (c_impl_fails p_e p_values t_9 ht_9 _ m hS.vis s2 h2 s3 h3) ?_
   rintro a w _ rfl hF hS
   refine q_x (v:=(.bool t_9)) hF hS (ex_assign rfl) rfl rfl fun a hF=>q_x (v:=(.bool true)) hF hS (ex_assign rfl) rfl rfl fun a hF=>q_end (n_sq (q_ret ?_))
   obtain rfl:=someI hr
   exact ret_of hF hS rfl (.tmp rfl (.tmp rfl .nil)) rfl
  ·have hr:=cond_t hc4 hr
   refine q_cond_t hF rfl hc4 (q_seq (q_region (q_x (v:=(.bool false)) hF hS (ex_assign rfl) rfl rfl fun a hF=>q_x (v:=(.bool false)) hF hS (ex_assign rfl) rfl rfl fun a hF=>q_end (n_sq (q_ret (r_sq ?_))))))
   obtain rfl:=someI hr
   exact ret_of hF hS rfl (.tmp rfl (.tmp rfl .nil)) rfl

theorem c_impl_contains (p_e : impl_Edit) (p_f : impl_Edit) (r : Bool) (hr : impl_contains p_e p_f = some r) (w0 : World) (m : Mem) (hv : Vis m w0) (s1 : Sl) (h1 : Rd m s1 p_e.Sets) (s2 : Sl) (h2 : Rd m s2 p_f.Sets) :
  Ret Tryd.prog 30 [(.agg #[s1.v]),(.agg #[s2.v])] w0 (fun v _=>v = (.bool r)):=by
 unfold impl_contains at hr
 refine ret_start Tryd.func30 rfl 24 rfl rfl m hv fun a hF hS=>q_seq (q_region (q_box (cs:=[s1.v]) hF hS rfl rfl rfl fun a w b3 hF hS=>q_box (cs:=[s2.v]) hF hS rfl rfl rfl fun a w b4 hF hS=>q_x (v:=(.bool false)) hF hS (ex_assign rfl) rfl rfl fun a hF=>q_end (n_sq (q_seq (q_seq (q_region (q_x (v:=(.pointer (some ⟨b4,0,none⟩))) hF hS (ex_fieldAddr Tryd.underlying27 rfl sz25 rfl rfl) rfl rfl fun a hF=>q_x (v:=s2.v) hF hS (ex_load1 0 0 Tryd.underlying25 rfl rfl rfl rfl) rfl rfl fun a hF=>q_x (v:=(iV (goLen p_f.Sets))) hF hS (ex_len Tryd.underlying25 rfl h2.len) rfl rfl fun a hF=>q_x (v:=(iV 0)) hF hS (ex_move rfl) rfl rfl fun a hF=>q_end (n_sq (q_block ?_)))))))))
 obtain ⟨o1,hl1,hr⟩:=bindS hr
 refine q_loop (fun (t_5 : Int) a w=>Fr a 24 [(2,(.pointer (some ⟨b3,0,none⟩))),(8,s2.v),(9,(iV (goLen p_f.Sets))),(10,(iV t_5))]∧St [] w0 w m [[⟨b3,[s1.v],27⟩]]) (fun (o : (Unit) ⊕ (Bool)) e a w=>o = .inl ()∧e = .exit 0∧Fr a 24 []∧St [] w0 w m []) hl1 ⟨hF.sub ⟨rfl,rfl,rfl,rfl,trivial⟩,hS.mask [false,true]⟩ ?_ ?_
 ·clear hF hS
  rintro t_5 a w st ⟨hF,hS⟩ hb1
  unfold impl_contains_l1 at hb1
  refine q_seq (q_region (q_x (v:=(.bool (decide (t_5 < (goLen p_f.Sets))))) hF hS (ex_ibin rfl rfl rfl) rfl rfl fun a hF=>q_end (n_sq (q_seq ?_))))
  rcases bcase (decide (t_5 < (goLen p_f.Sets))) with hc2 | hc2
  ·have hb1:=cond_f hc2 hb1
   refine q_cond_f hF rfl hc2 (q_exit (x_sq ?_))
   obtain rfl:=someI hb1
   exact ⟨nofun,.inl ⟨rfl,rfl,hF.sub trivial,hS.mask [false]⟩⟩
  ·have hb1:=cond_t hc2 hb1
   refine q_cond_t hF rfl hc2 (q_skipc (n_sq (q_seq (q_block (q_seq (q_region (q_x (v:=(iV t_5)) hF hS (ex_move rfl) rfl rfl fun a hF=>?_)))))))
   obtain ⟨e_6,he_6,hb1⟩:=bindS hb1
   obtain ⟨vs7,at7,d7⟩:=h2.at he_6 1 rfl
   obtain rfl : vs7 = [(iV e_6)]:=d7
   refine q_x (v:=(elP s2 (t_5.toNat * 1))) hF hS (ex_indexAddr Tryd.underlying25 sz3 rfl rfl (h2.idx he_6)) rfl rfl fun a hF=>q_x (v:=(iV e_6)) hF hS (ex_loadE1 0 Tryd.underlying3 rfl rfl ((at7).at) rfl rfl) rfl rfl fun a hF=>q_x (v:=(iV t_5)) hF hS (ex_assign rfl) rfl rfl fun a hF=>q_x (v:=(iV e_6)) hF hS (ex_assign rfl) rfl rfl fun a hF=>q_end (n_sq (q_seq (q_region (q_x (v:=(iV e_6)) hF hS (ex_move rfl) rfl rfl fun a hF=>q_x (v:=(.pointer (some ⟨b3,0,none⟩))) hF hS (ex_fieldAddr Tryd.underlying27 rfl sz25 rfl rfl) rfl rfl fun a hF=>q_x (v:=s1.v) hF hS (ex_load1 0 0 Tryd.underlying25 rfl rfl rfl rfl) rfl rfl fun a hF=>q_x (v:=(iV t_5)) hF hS (ex_move rfl) rfl rfl fun a hF=>?_))))
   obtain ⟨e_8,he_8,hb1⟩:=bindS hb1
   obtain ⟨vs9,at9,d9⟩:=h1.at he_8 1 rfl
   obtain rfl : vs9 = [(iV e_8)]:=d9
   refine q_x (v:=(elP s1 (t_5.toNat * 1))) hF hS (ex_indexAddr Tryd.underlying25 sz3 rfl rfl (h1.idx he_8)) rfl rfl fun a hF=>q_x (v:=(iV e_8)) hF hS (ex_loadE1 0 Tryd.underlying3 rfl rfl ((at9).at) rfl rfl) rfl rfl fun a hF=>q_x (v:=(iV (goBits .andNot .i64 e_6 e_8))) hF hS (ex_bits rfl rfl rfl) rfl rfl fun a hF=>q_x (v:=(.bool ((goBits .andNot .i64 e_6 e_8) != 0))) hF hS (ex_ibin rfl rfl rfl) rfl rfl fun a hF=>q_end (n_sq ?_)
   rcases bcase ((goBits .andNot .i64 e_6 e_8) != 0) with hc3 | hc3
   ·have hb1:=cond_f hc3 hb1
    refine q_cond_f hF rfl hc3 (q_skipc (n_ib (n_sq (q_region (q_x (v:=(iV (w64 (t_5 + 1)))) hF hS (ex_ibin rfl rfl rfl) rfl rfl fun a hF=>q_x (v:=(iV (w64 (t_5 + 1)))) hF hS (ex_move rfl) rfl rfl fun a hF=>q_end ?_)))))
    obtain rfl:=someI hb1
    exact ⟨rfl,hF.sub ⟨rfl,rfl,rfl,rfl,trivial⟩,hS⟩
   ·have hb1:=cond_t hc3 hb1
    refine q_cond_t hF rfl hc3 (q_seq (q_region (q_x (v:=(.bool false)) hF hS (ex_assign rfl) rfl rfl fun a hF=>q_end (n_sq (q_ret (r_ib (r_sq ?_)))))))
    obtain rfl:=someI hb1
    refine ⟨nofun,.inr fun ho=>?_⟩
    subst ho
    refine r_ib (r_sq ?_)
    obtain rfl:=someI hr
    exact ret_of hF hS rfl (.tmp rfl .nil) rfl
 ·rintro e a w ⟨rfl,rfl,hF,hS⟩
  refine x_ib (n_sq ?_)
  refine q_seq (q_region (q_x (v:=(.bool true)) hF hS (ex_assign rfl) rfl rfl fun a hF=>q_end (n_sq (q_ret ?_))))
  obtain rfl:=someI hr
  exact ret_of hF hS rfl (.tmp rfl .nil) rfl

end Go.Proofs.YtebjhiflnemkhaaDoor
