/- The walks of the functions: each returns what its plain function says. -/
import Derived.Test.YtpjcfmpfiadkgaaRWalks3
namespace Go.Proofs.Ytpjcfmpfiadkgaa
open Go.Gx Go.Gx.F Go.RowKit
set_option linter.all false
set_option maxRecDepth 10000


theorem c_spec_tFill_room (p_f : spec_tFill) (p_v : Int) (p_k : Int) (r : Int) (hr : spec_tFill_room p_f p_v p_k = some r) (w0 : World) (m : Mem) (b_p_f : Nat) (s1 : Sl) (h1 : Rd m s1 p_f.t.Rows) (s2 : Sl) (h2 : Rd m s2 p_f.t.Cols) (s3 : Sl) (h3 : Rd m s3 p_f.t.Lo) (s4 : Sl) (h4 : Rd m s4 p_f.t.Hi) (s5 : Sl) (h5 : Rd m s5 p_f.x) (s6 : Sl) (h6 : Rd m s6 p_f.rows) (s7 : Sl) (h7 : Rd m s7 p_f.cols) (X : List Nat) (hS : St X w0 w0 m [[⟨b_p_f,[s1.v,s2.v,s3.v,s4.v,s5.v,s6.v,s7.v],150⟩]]) :
  RetX Try.prog 207 [(pP b_p_f 0),(iV p_v),(iV p_k)] w0 (fun v w=>v = (iV r)∧St X w0 w m [[⟨b_p_f,[s1.v,s2.v,s3.v,s4.v,s5.v,s6.v,s7.v],150⟩]]):=by
 unfold spec_tFill_room at hr
 refine ret_startX Try.func207 rfl 83 rfl rfl fun a hF=>q_sr (q_s hF rfl fun a hF=>q_end (n_sq (q_sr (q_m hF rfl fun a hF=>q_y (v:=(pP b_p_f 0)) hF hS (ex_nilCheck rfl) fun a hF=>q_y (v:=(pP b_p_f 5)) hF hS (ex_fieldAddr U150 rfl sz28 rfl rfl) fun a hF=>q_y (v:=s6.v) hF hS (ex_load1 0 0 U28 rfl rfl rfl rfl) fun a hF=>q_y (v:=(iV (goLen p_f.rows))) hF hS (ex_len U28 rfl h6.len) fun a hF=>q_s hF rfl fun a hF=>q_end (n_sq (q_seq (q_block (q_seq ?_))))))))
 obtain ⟨t_8,hj1,hr⟩:=bindS hr
 refine q_join (fun a w=>Fr a 83 [(0,(pP b_p_f 0)),(1,(iV p_v)),(2,(iV p_k)),(7,(iV (goLen p_f.rows))),(13,(.bool t_8))]∧St X w0 w m [[⟨b_p_f,[s1.v,s2.v,s3.v,s4.v,s5.v,s6.v,s7.v],150⟩]]) ?_ ?_
 ·refine q_region (q_m hF rfl fun a hF=>q_m hF rfl fun a hF=>q_y (v:=(.bool (decide (p_v < (goLen p_f.rows))))) hF hS (ex_ibin rfl rfl rfl) fun a hF=>q_m hF rfl fun a hF=>?_)
  rcases bcase (decide (p_v < (goLen p_f.rows))) with hc2 | hc2
  ·have hj1:=cond_f hc2 hj1
   refine q_k hF hc2 fun a hF=>q_k hF hc2 fun a hF=>q_k hF hc2 fun a hF=>q_y (v:=(.bool false)) hF hS (ex_pick_f rfl rfl hc2) fun a hF=>q_s hF rfl fun a hF=>q_end (n_jn ?_)
   obtain rfl:=someI hj1
   exact ⟨hF.sub ⟨rfl,rfl,rfl,rfl,rfl,trivial⟩,hS⟩
  ·have hj1:=cond_t hc2 hj1
   refine q_g (v:=(iV p_k)) hF hS (ex_move rfl) hc2 fun a hF=>q_g (v:=(iV (goLen p_f.rows))) hF hS (ex_move rfl) hc2 fun a hF=>q_g (v:=(.bool (decide ((goLen p_f.rows) ≤ p_k)))) hF hS (ex_ibin rfl rfl rfl) hc2 fun a hF=>q_y (v:=(.bool (decide ((goLen p_f.rows) ≤ p_k)))) hF hS (ex_pick_t rfl rfl hc2) fun a hF=>q_s hF rfl fun a hF=>q_end (n_jn ?_)
   obtain rfl:=someI hj1
   exact ⟨hF.sub ⟨rfl,rfl,rfl,rfl,rfl,trivial⟩,hS⟩
 ·rintro a w ⟨hF,hS⟩
  refine n_sq ?_
  rcases bcase (t_8) with hc3 | hc3
  ·have hr:=cond_f hc3 hr
   refine q_cond_f hF rfl hc3 (q_seq ?_)
   obtain ⟨t_9,hj4,hr⟩:=bindS hr
   refine q_join (fun a w=>Fr a 83 [(0,(pP b_p_f 0)),(1,(iV p_v)),(2,(iV p_k)),(7,(iV (goLen p_f.rows))),(48,(.bool t_9))]∧St X w0 w m [[⟨b_p_f,[s1.v,s2.v,s3.v,s4.v,s5.v,s6.v,s7.v],150⟩]]) ?_ ?_
   ·refine q_region (q_m hF rfl fun a hF=>q_m hF rfl fun a hF=>q_y (v:=(.bool (decide ((goLen p_f.rows) ≤ p_v)))) hF hS (ex_ibin rfl rfl rfl) fun a hF=>q_m hF rfl fun a hF=>?_)
    rcases bcase (decide ((goLen p_f.rows) ≤ p_v)) with hc5 | hc5
    ·have hj4:=cond_f hc5 hj4
     refine q_k hF hc5 fun a hF=>q_k hF hc5 fun a hF=>q_k hF hc5 fun a hF=>q_y (v:=(.bool false)) hF hS (ex_pick_f rfl rfl hc5) fun a hF=>q_s hF rfl fun a hF=>q_end (n_jn ?_)
     obtain rfl:=someI hj4
     exact ⟨hF.sub ⟨rfl,rfl,rfl,rfl,rfl,trivial⟩,hS⟩
    ·have hj4:=cond_t hc5 hj4
     refine q_g (v:=(iV p_k)) hF hS (ex_move rfl) hc5 fun a hF=>q_g (v:=(iV (goLen p_f.rows))) hF hS (ex_move rfl) hc5 fun a hF=>q_g (v:=(.bool (decide (p_k < (goLen p_f.rows))))) hF hS (ex_ibin rfl rfl rfl) hc5 fun a hF=>q_y (v:=(.bool (decide (p_k < (goLen p_f.rows))))) hF hS (ex_pick_t rfl rfl hc5) fun a hF=>q_s hF rfl fun a hF=>q_end (n_jn ?_)
     obtain rfl:=someI hj4
     exact ⟨hF.sub ⟨rfl,rfl,rfl,rfl,rfl,trivial⟩,hS⟩
   ·rintro a w ⟨hF,hS⟩
    refine n_sq ?_
    rcases bcase (t_9) with hc6 | hc6
    ·have hr:=cond_f hc6 hr
     refine q_cond_f hF rfl hc6 (q_skipc (n_ib (n_sq (q_sr (q_s hF rfl fun a hF=>q_end (n_sq (q_ret ?_)))))))
     obtain rfl:=someI hr
     exact ret_ofX hF hS rfl (.tmp rfl .nil) ⟨rfl,hS.sel [0] (by decide)⟩
    ·have hr:=cond_t hc6 hr
     refine q_cond_t hF rfl hc6 (q_seq (e_region ⟨[],[],m⟩ mixed fun w' hw'=>?_))
     have hS:=hS.below hw'
     refine e_P (v:=(pP b_p_f 0)) 0 hF rfl (ex_move rfl) fun a hF=>e_P (v:=(pP b_p_f 0)) 1 hF rfl (ex_nilCheck rfl) fun a hF=>e_P (v:=(pP b_p_f 4)) 2 hF rfl (ex_fieldAddr U150 rfl sz23 rfl rfl) fun a hF=>e_X (v:=s5.v) 3 hF hS rfl (ex_load1 0 0 U23 rfl rfl rfl rfl) fun a hF=>e_P (v:=(iV p_k)) 4 hF rfl (ex_move rfl) fun a hF=>?_
     obtain ⟨e_10,he_10,hr⟩:=bindS hr
     obtain ⟨vs11,at11,d11⟩:=h5.at he_10 1 rfl
     obtain ⟨s12,rfl,h12⟩ : ∃ s12 : Sl,vs11 = [s12.v]∧Rd m s12 e_10:=d11
     refine e_P (v:=(elP s5 (p_k.toNat * 1))) 5 hF rfl (ex_indexAddr U23 sz28 rfl rfl (h5.idx he_10)) fun a hF=>e_xm (v:=s12.v) 6 hF hS (Mem.le.refl _) rfl (ex_loadE1 0 U28 rfl rfl ((at11).at) rfl rfl) rfl rfl (by kernel_rfl) (by kernel_rfl) (by kernel_rfl) fun a hF=>e_P (v:=(iV p_v)) 7 hF rfl (ex_move rfl) fun a hF=>e_P (v:=(iV (goLen p_f.rows))) 8 hF rfl (ex_move rfl) fun a hF=>e_P (v:=(iV (w64 (p_v - (goLen p_f.rows))))) 9 hF rfl (ex_ibin rfl rfl rfl) fun a hF=>?_
     obtain ⟨e_13,he_13,hr⟩:=bindS hr
     obtain ⟨vs14,at14,d14⟩:=h12.at he_13 1 rfl
     obtain rfl : vs14 = [(iV e_13)]:=d14
     refine e_P (v:=(elP s12 ((w64 (p_v - (goLen p_f.rows))).toNat * 1))) 10 hF rfl (ex_indexAddr U28 sz3 rfl rfl (h12.idx he_13)) fun a hF=>e_xm (v:=(iV e_13)) 11 hF hS (Mem.le.refl _) rfl (ex_loadE1 0 U3 rfl rfl ((at14).at) rfl rfl) rfl rfl (by kernel_rfl) (by kernel_rfl) (by kernel_rfl) fun a hF=>e_P (v:=(pP b_p_f 0)) 12 hF rfl (ex_move rfl) fun a hF=>e_P (v:=(pP b_p_f 0)) 13 hF rfl (ex_nilCheck rfl) fun a hF=>e_P (v:=(pP b_p_f 0)) 14 hF rfl (ex_fieldAddr U150 rfl sz50 rfl rfl) fun a hF=>e_P (v:=(pP b_p_f 2)) 15 hF rfl (ex_fieldAddr U50 rfl sz23 rfl rfl) fun a hF=>e_X (v:=s3.v) 16 hF hS rfl (ex_load1 0 0 U23 rfl rfl rfl rfl) fun a hF=>e_P (v:=(iV p_k)) 17 hF rfl (ex_move rfl) fun a hF=>?_
     obtain ⟨e_15,he_15,hr⟩:=bindS hr
     obtain ⟨vs16,at16,d16⟩:=h3.at he_15 1 rfl
     obtain ⟨s17,rfl,h17⟩ : ∃ s17 : Sl,vs16 = [s17.v]∧Rd m s17 e_15:=d16
     refine e_P (v:=(elP s3 (p_k.toNat * 1))) 18 hF rfl (ex_indexAddr U23 sz28 rfl rfl (h3.idx he_15)) fun a hF=>e_xm (v:=s17.v) 19 hF hS (Mem.le.refl _) rfl (ex_loadE1 0 U28 rfl rfl ((at16).at) rfl rfl) rfl rfl (by kernel_rfl) (by kernel_rfl) (by kernel_rfl) fun a hF=>e_P (v:=(iV p_v)) 20 hF rfl (ex_move rfl) fun a hF=>e_P (v:=(iV (goLen p_f.rows))) 21 hF rfl (ex_move rfl) fun a hF=>e_P (v:=(iV (w64 (p_v - (goLen p_f.rows))))) 22 hF rfl (ex_ibin rfl rfl rfl) fun a hF=>?_
     obtain ⟨e_18,he_18,hr⟩:=bindS hr
     obtain ⟨vs19,at19,d19⟩:=h17.at he_18 1 rfl
     obtain rfl : vs19 = [(iV e_18)]:=d19
     refine e_P (v:=(elP s17 ((w64 (p_v - (goLen p_f.rows))).toNat * 1))) 23 hF rfl (ex_indexAddr U28 sz3 rfl rfl (h17.idx he_18)) fun a hF=>e_xm (v:=(iV e_18)) 24 hF hS (Mem.le.refl _) rfl (ex_loadE1 0 U3 rfl rfl ((at19).at) rfl rfl) rfl rfl (by kernel_rfl) (by kernel_rfl) (by kernel_rfl) fun a hF=>e_P (v:=(iV (w64 (e_13 - e_18)))) 25 hF rfl (ex_ibin rfl rfl rfl) fun a hF=>e_P (v:=(iV (w64 (e_13 - e_18)))) 26 hF rfl (ex_assign rfl) fun a hF=>e_end (by kernel_rfl) (n_sq (q_ret (r_ib (r_sq ?_)))) _
     obtain rfl:=someI hr
     exact ret_ofX hF hS rfl (.tmp rfl .nil) ⟨rfl,hS.sel [0] (by decide)⟩
  ·have hr:=cond_t hc3 hr
   refine q_cond_t hF rfl hc3 (q_seq (e_region ⟨[],[],m⟩ mixed fun w' hw'=>?_))
   have hS:=hS.below hw'
   refine e_P (v:=(pP b_p_f 0)) 0 hF rfl (ex_move rfl) fun a hF=>e_P (v:=(pP b_p_f 0)) 1 hF rfl (ex_nilCheck rfl) fun a hF=>e_P (v:=(pP b_p_f 0)) 2 hF rfl (ex_fieldAddr U150 rfl sz50 rfl rfl) fun a hF=>e_P (v:=(pP b_p_f 3)) 3 hF rfl (ex_fieldAddr U50 rfl sz23 rfl rfl) fun a hF=>e_X (v:=s4.v) 4 hF hS rfl (ex_load1 0 0 U23 rfl rfl rfl rfl) fun a hF=>e_P (v:=(iV p_v)) 5 hF rfl (ex_move rfl) fun a hF=>?_
   obtain ⟨e_9,he_9,hr⟩:=bindS hr
   obtain ⟨vs10,at10,d10⟩:=h4.at he_9 1 rfl
   obtain ⟨s11,rfl,h11⟩ : ∃ s11 : Sl,vs10 = [s11.v]∧Rd m s11 e_9:=d10
   refine e_P (v:=(elP s4 (p_v.toNat * 1))) 6 hF rfl (ex_indexAddr U23 sz28 rfl rfl (h4.idx he_9)) fun a hF=>e_xm (v:=s11.v) 7 hF hS (Mem.le.refl _) rfl (ex_loadE1 0 U28 rfl rfl ((at10).at) rfl rfl) rfl rfl (by kernel_rfl) (by kernel_rfl) (by kernel_rfl) fun a hF=>e_P (v:=(iV p_k)) 8 hF rfl (ex_move rfl) fun a hF=>e_P (v:=(iV (goLen p_f.rows))) 9 hF rfl (ex_move rfl) fun a hF=>e_P (v:=(iV (w64 (p_k - (goLen p_f.rows))))) 10 hF rfl (ex_ibin rfl rfl rfl) fun a hF=>?_
   obtain ⟨e_12,he_12,hr⟩:=bindS hr
   obtain ⟨vs13,at13,d13⟩:=h11.at he_12 1 rfl
   obtain rfl : vs13 = [(iV e_12)]:=d13
   refine e_P (v:=(elP s11 ((w64 (p_k - (goLen p_f.rows))).toNat * 1))) 11 hF rfl (ex_indexAddr U28 sz3 rfl rfl (h11.idx he_12)) fun a hF=>e_xm (v:=(iV e_12)) 12 hF hS (Mem.le.refl _) rfl (ex_loadE1 0 U3 rfl rfl ((at13).at) rfl rfl) rfl rfl (by kernel_rfl) (by kernel_rfl) (by kernel_rfl) fun a hF=>e_P (v:=(pP b_p_f 0)) 13 hF rfl (ex_move rfl) fun a hF=>e_P (v:=(pP b_p_f 0)) 14 hF rfl (ex_nilCheck rfl) fun a hF=>e_P (v:=(pP b_p_f 4)) 15 hF rfl (ex_fieldAddr U150 rfl sz23 rfl rfl) fun a hF=>e_X (v:=s5.v) 16 hF hS rfl (ex_load1 0 0 U23 rfl rfl rfl rfl) fun a hF=>e_P (v:=(iV p_v)) 17 hF rfl (ex_move rfl) fun a hF=>?_
   obtain ⟨e_14,he_14,hr⟩:=bindS hr
   obtain ⟨vs15,at15,d15⟩:=h5.at he_14 1 rfl
   obtain ⟨s16,rfl,h16⟩ : ∃ s16 : Sl,vs15 = [s16.v]∧Rd m s16 e_14:=d15
   refine e_P (v:=(elP s5 (p_v.toNat * 1))) 18 hF rfl (ex_indexAddr U23 sz28 rfl rfl (h5.idx he_14)) fun a hF=>e_xm (v:=s16.v) 19 hF hS (Mem.le.refl _) rfl (ex_loadE1 0 U28 rfl rfl ((at15).at) rfl rfl) rfl rfl (by kernel_rfl) (by kernel_rfl) (by kernel_rfl) fun a hF=>e_P (v:=(iV p_k)) 20 hF rfl (ex_move rfl) fun a hF=>e_P (v:=(iV (goLen p_f.rows))) 21 hF rfl (ex_move rfl) fun a hF=>e_P (v:=(iV (w64 (p_k - (goLen p_f.rows))))) 22 hF rfl (ex_ibin rfl rfl rfl) fun a hF=>?_
   obtain ⟨e_17,he_17,hr⟩:=bindS hr
   obtain ⟨vs18,at18,d18⟩:=h16.at he_17 1 rfl
   obtain rfl : vs18 = [(iV e_17)]:=d18
   refine e_P (v:=(elP s16 ((w64 (p_k - (goLen p_f.rows))).toNat * 1))) 23 hF rfl (ex_indexAddr U28 sz3 rfl rfl (h16.idx he_17)) fun a hF=>e_xm (v:=(iV e_17)) 24 hF hS (Mem.le.refl _) rfl (ex_loadE1 0 U3 rfl rfl ((at18).at) rfl rfl) rfl rfl (by kernel_rfl) (by kernel_rfl) (by kernel_rfl) fun a hF=>e_P (v:=(iV (w64 (e_12 - e_17)))) 25 hF rfl (ex_ibin rfl rfl rfl) fun a hF=>e_P (v:=(iV (w64 (e_12 - e_17)))) 26 hF rfl (ex_assign rfl) fun a hF=>e_end (by kernel_rfl) (n_sq (q_ret (r_ib (r_sq ?_)))) _
   obtain rfl:=someI hr
   exact ret_ofX hF hS rfl (.tmp rfl .nil) ⟨rfl,hS.sel [0] (by decide)⟩

theorem c_spec_l1Least (p_a : Int) (p_b : Int) (r : Int) (hr : spec_l1Least p_a p_b = some r) (w0 : World) (m : Mem) (hv : Vis m w0) :
  Ret Try.prog 209 [(iV p_a),(iV p_b)] w0 (fun v _=>v = (iV r)):=by
 unfold spec_l1Least at hr
 refine ret_start Try.func209 rfl 10 rfl rfl m hv fun a hF hS=>q_sr (q_s hF rfl fun a hF=>q_end (n_sq (q_seq (q_sr (q_m hF rfl fun a hF=>q_m hF rfl fun a hF=>q_y (v:=(.bool (decide (p_a < p_b)))) hF hS (ex_ibin rfl rfl rfl) fun a hF=>q_end (n_sq ?_))))))
 rcases bcase (decide (p_a < p_b)) with hc1 | hc1
 ·have hr:=cond_f hc1 hr
  refine q_cond_f hF rfl hc1 (q_skipc (n_sq (q_sr (q_m hF rfl fun a hF=>q_s hF rfl fun a hF=>q_end (n_sq (q_ret ?_))))))
  obtain rfl:=someI hr
  exact ret_of hF hS rfl (.tmp rfl .nil) rfl
 ·have hr:=cond_t hc1 hr
  refine q_cond_t hF rfl hc1 (q_sr (q_m hF rfl fun a hF=>q_s hF rfl fun a hF=>q_end (n_sq (q_ret (r_sq ?_)))))
  obtain rfl:=someI hr
  exact ret_of hF hS rfl (.tmp rfl .nil) rfl

theorem c_spec_tFill_push (p_f : spec_tFill) (p_from : List Int) (p_end : Int) (r : spec_tFill) (hr : spec_tFill_push p_f p_from p_end = some r) (w0 : World) (m : Mem) (b_p_f : Nat) (s1 : Sl) (h1 : Rd m s1 p_f.t.Rows) (s2 : Sl) (h2 : Rd m s2 p_f.t.Cols) (s3 : Sl) (h3 : Rd m s3 p_f.t.Lo) (s4 : Sl) (h4 : Rd m s4 p_f.t.Hi) (s5 : Sl) (q5 : Piece) (h5 : OwnD m 28 3 q5 s5 p_f.x) (s6 : Sl) (q6 : Piece) (h6 : OwnL m 3 q6 s6 p_f.rows) (s7 : Sl) (q7 : Piece) (h7 : OwnL m 3 q7 s7 p_f.cols) (s8 : Sl) (h8 : Rd m s8 p_from) (X : List Nat) (hS : St X w0 w0 m [[⟨b_p_f,[s1.v,s2.v,s3.v,s4.v,s5.v,s6.v,s7.v],150⟩],q5,q6,q7]) :
  RetX Try.prog 206 [(pP b_p_f 0),s8.v,(iV p_end)] w0 (fun v w=>∃ (q4' : Piece) (q5' : Piece) (q6' : Piece) (s4' : Sl) (s5' : Sl) (s6' : Sl),v = (.tuple #[])∧St X w0 w m [[⟨b_p_f,[s1.v,s2.v,s3.v,s4.v,s4'.v,s5'.v,s6'.v],150⟩],q4',q5',q6']∧r.t.Rows = p_f.t.Rows∧r.t.Cols = p_f.t.Cols∧r.t.Lo = p_f.t.Lo∧r.t.Hi = p_f.t.Hi∧OwnD m 28 3 q4' s4' r.x∧OwnL m 3 q5' s5' r.rows∧OwnL m 3 q6' s6' r.cols):=by
 unfold spec_tFill_push at hr
 refine ret_startX Try.func206 rfl 123 rfl rfl fun a hF=>q_sr (q_m hF rfl fun a hF=>q_y (v:=(pP b_p_f 0)) hF hS (ex_nilCheck rfl) fun a hF=>q_y (v:=(pP b_p_f 5)) hF hS (ex_fieldAddr U150 rfl sz28 rfl rfl) fun a hF=>q_y (v:=s6.v) hF hS (ex_load1 0 0 U28 rfl rfl rfl rfl) fun a hF=>q_y (v:=(iV (goLen p_f.rows))) hF hS (ex_len U28 rfl h6.len) fun a hF=>q_s hF rfl fun a hF=>q_end (n_sq (q_sr (q_m hF rfl fun a hF=>q_y (v:=(pP b_p_f 0)) hF hS (ex_nilCheck rfl) fun a hF=>q_y (v:=(pP b_p_f 6)) hF hS (ex_fieldAddr U150 rfl sz28 rfl rfl) fun a hF=>q_y (v:=s7.v) hF hS (ex_load1 0 0 U28 rfl rfl rfl rfl) fun a hF=>q_m hF rfl fun a hF=>q_m hF rfl fun a hF=>q_y (v:=(iV (w64 (p_end - (goLen p_f.rows))))) hF hS (ex_ibin rfl rfl rfl) fun a hF=>?_))))
 obtain ⟨e_9,he_9,hr⟩:=bindS hr
 obtain ⟨vs10,at10,d10⟩:=h7.at he_9 1 rfl
 obtain rfl : vs10 = [(iV e_9)]:=d10
 refine q_y (v:=(elP s7 ((w64 (p_end - (goLen p_f.rows))).toNat * 1))) hF hS (ex_indexAddr U28 sz3 rfl rfl (h7.idx he_9)) fun a hF=>q_y (v:=(iV e_9)) hF hS (ex_loadE1 0 U3 rfl rfl (at10.at 3 rfl) rfl rfl) fun a hF=>q_s hF rfl fun a hF=>q_end (n_sq (q_sr (q_m hF rfl fun a hF=>q_s hF rfl fun a hF=>q_end (n_sq (q_seq (q_block ?_))))))
 obtain ⟨o1,hl1,hr⟩:=bindS hr
 refine q_loop (fun (s : Int × Int) a w=>∃ most_11,∃ start_12,s = (most_11,start_12)∧Fr a 123 [(0,(pP b_p_f 0)),(1,s8.v),(2,(iV p_end)),(6,(iV (goLen p_f.rows))),(7,(iV most_11)),(8,(iV start_12))]∧St X w0 w m [[⟨b_p_f,[s1.v,s2.v,s3.v,s4.v,s5.v,s6.v,s7.v],150⟩],q5,q6,q7]) (fun (o : Int × Int) e a w=>∃ most_22,∃ start_23,o = (most_22,start_23)∧e = .exit 0∧Fr a 123 [(0,(pP b_p_f 0)),(1,s8.v),(2,(iV p_end)),(6,(iV (goLen p_f.rows))),(7,(iV most_22)),(8,(iV start_23))]∧St X w0 w m [q5,q6,q7,[⟨b_p_f,[s1.v,s2.v,s3.v,s4.v,s5.v,s6.v,s7.v],150⟩]]) hl1 ⟨_,_,rfl,hF.sub ⟨rfl,rfl,rfl,rfl,rfl,rfl,trivial⟩,hS⟩ ?_ ?_
 ·clear hF hS
  rintro s a w st ⟨most_11,start_12,rfl,hF,hS⟩ hb1
  unfold spec_tFill_push_l1 at hb1
  refine q_seq (q_sr (q_m hF rfl fun a hF=>q_m hF rfl fun a hF=>?_))
  obtain ⟨e_13,he_13,hb1⟩:=bindS hb1
  obtain ⟨vs14,at14,d14⟩:=h8.at he_13 1 rfl
  obtain rfl : vs14 = [(iV e_13)]:=d14
  refine q_y (v:=(elP s8 (start_12.toNat * 1))) hF hS (ex_indexAddr U28 sz3 rfl rfl (h8.idx he_13)) fun a hF=>q_y (v:=(iV e_13)) hF hS (ex_loadE1 0 U3 rfl rfl ((at14).at) rfl rfl) fun a hF=>q_y (v:=(.bool (decide (0 ≤ e_13)))) hF hS (ex_ibin rfl rfl rfl) fun a hF=>q_end (n_sq ?_)
  rcases bcase (decide (0 ≤ e_13)) with hc2 | hc2
  ·have hb1:=cond_f hc2 hb1
   refine q_cond_f hF rfl hc2 (q_exit (x_sq ?_))
   obtain rfl:=someI hb1
   exact ⟨nofun,.inl ⟨_,_,rfl,rfl,hF.sub ⟨rfl,rfl,rfl,rfl,rfl,rfl,trivial⟩,hS.sel [1,2,3,0] (by decide)⟩⟩
  ·have hb1:=cond_t hc2 hb1
   refine q_cond_t hF rfl hc2 (q_skipc (n_sq (q_block (q_sr (q_m hF rfl fun a hF=>q_m hF rfl fun a hF=>q_m hF rfl fun a hF=>q_m hF rfl fun a hF=>?_)))))
   obtain ⟨e_15,he_15,hb1⟩:=bindS hb1
   obtain ⟨vs16,at16,d16⟩:=h8.at he_15 1 rfl
   obtain rfl : vs16 = [(iV e_15)]:=d16
   refine q_y (v:=(elP s8 (start_12.toNat * 1))) hF hS (ex_indexAddr U28 sz3 rfl rfl (h8.idx he_15)) fun a hF=>q_y (v:=(iV e_15)) hF hS (ex_loadE1 0 U3 rfl rfl ((at16).at) rfl rfl) fun a hF=>q_m hF rfl fun a hF=>?_
   have hS17 : St _ _ _ _ ([[⟨b_p_f,[s1.v,s2.v,s3.v,s4.v,s5.v,s6.v,s7.v],150⟩]]++[q5,q6,q7]):=hS
   obtain ⟨m17,hl17,hE17,hz17⟩:=hS17.lendX
   obtain ⟨t_18,ht_18,hb1⟩:=bindS hb1
   refine q_do rfl fun _ hK=>wp_callX (vs:=[(pP b_p_f 0),(iV e_15),(iV start_12)]) hF Try.func207 (by kernel_rfl) rfl rfl rfl (c_spec_tFill_room p_f e_15 start_12 t_18 ht_18 _ m17 b_p_f s1 (h1.mono hl17) s2 (h2.mono hl17) s3 (h3.mono hl17) s4 (h4.mono hl17) s5 (h5.froz hl17 (hz17 0 _ rfl)) s6 (h6.froz hl17 (hz17 1 _ rfl)) s7 (h7.froz hl17 (hz17 2 _ rfl)) _ hE17) fun a w _ hR hF=>hK _ _ ?_
   obtain ⟨rfl,hR17⟩:=hR
   have hS : St _ _ _ _ [[⟨b_p_f,[s1.v,s2.v,s3.v,s4.v,s5.v,s6.v,s7.v],150⟩],q5,q6,q7]:=hS17.leaveF hR17
   obtain ⟨t_19,ht_19,hb1⟩:=bindS hb1
   refine q_call (vs:=[(iV most_11),(iV t_18)]) hF hS Try.func209 (by kernel_rfl) rfl rfl rfl (c_spec_l1Least most_11 t_18 t_19 ht_19 _ m hS.vis) ?_
   rintro a w _ rfl hF hS
   refine q_s hF rfl fun a hF=>q_end (n_sq (q_region (q_m hF rfl fun a hF=>q_m hF rfl fun a hF=>?_)))
   obtain ⟨e_20,he_20,hb1⟩:=bindS hb1
   obtain ⟨vs21,at21,d21⟩:=h8.at he_20 1 rfl
   obtain rfl : vs21 = [(iV e_20)]:=d21
   refine q_y (v:=(elP s8 (start_12.toNat * 1))) hF hS (ex_indexAddr U28 sz3 rfl rfl (h8.idx he_20)) fun a hF=>q_y (v:=(iV e_20)) hF hS (ex_loadE1 0 U3 rfl rfl ((at21).at) rfl rfl) fun a hF=>q_s hF rfl fun a hF=>q_end (n_ib ?_)
   obtain rfl:=someI hb1
   exact ⟨rfl,_,_,rfl,hF.sub ⟨rfl,rfl,rfl,rfl,rfl,rfl,trivial⟩,hS⟩
 ·rintro e a w ⟨most_22,start_23,rfl,rfl,hF,hS⟩
  refine x_ib (n_sq ?_)
  refine q_sr (q_m hF rfl fun a hF=>q_m hF rfl fun a hF=>q_y (v:=(pP b_p_f 0)) hF hS (ex_nilCheck rfl) fun a hF=>q_y (v:=(pP b_p_f 5)) hF hS (ex_fieldAddr U150 rfl sz28 rfl rfl) fun a hF=>q_y (v:=s6.v) hF hS (ex_load1 3 0 U28 rfl rfl rfl rfl) fun a hF=>q_m hF rfl fun a hF=>?_)
  obtain ⟨e_24,he_24,hr⟩:=bindS hr
  obtain ⟨vs25,at25,d25⟩:=h6.at he_24 1 rfl
  obtain rfl : vs25 = [(iV e_24)]:=d25
  refine q_y (v:=(elP s6 (start_23.toNat * 1))) hF hS (ex_indexAddr U28 sz3 rfl rfl (h6.idx he_24)) fun a hF=>q_y (v:=(iV e_24)) hF hS (ex_loadE1 0 U3 rfl rfl (at25.at 1 rfl) rfl rfl) fun a hF=>?_
  obtain ⟨t_26,ht_26,hr⟩:=bindS hr
  refine q_call (vs:=[(iV most_22),(iV e_24)]) hF hS Try.func209 (by kernel_rfl) rfl rfl rfl (c_spec_l1Least most_22 e_24 t_26 ht_26 _ m hS.vis) ?_
  rintro a w _ rfl hF hS
  refine q_s hF rfl fun a hF=>q_end (n_sq (q_seq (q_sr (q_m hF rfl fun a hF=>q_s hF rfl fun a hF=>q_end (n_sq (q_block ?_))))))
  obtain ⟨p_f_57,hl3,hr⟩:=bindS hr
  refine q_loop (fun (s : Int × spec_tFill) a w=>∃ (q33 : Piece),∃ v_27,∃ p_f_28,s = (v_27,p_f_28)∧Fr a 123 [(0,(pP b_p_f 0)),(1,s8.v),(2,(iV p_end)),(6,(iV (goLen p_f.rows))),(7,(iV t_26)),(8,(iV start_23)),(9,(iV v_27))]∧St X w0 w m [q33,q6,q7,[⟨b_p_f,[s1.v,s2.v,s3.v,s4.v,s5.v,s6.v,s7.v],150⟩]]∧Rd m s1 p_f_28.t.Rows∧p_f_28.t.Rows = p_f.t.Rows∧Rd m s2 p_f_28.t.Cols∧p_f_28.t.Cols = p_f.t.Cols∧Rd m s3 p_f_28.t.Lo∧p_f_28.t.Lo = p_f.t.Lo∧Rd m s4 p_f_28.t.Hi∧p_f_28.t.Hi = p_f.t.Hi∧OwnD m 28 3 q33 s5 p_f_28.x∧OwnL m 3 q6 s6 p_f_28.rows∧p_f_28.rows = p_f.rows∧OwnL m 3 q7 s7 p_f_28.cols∧p_f_28.cols = p_f.cols) (fun (p_f_57 : spec_tFill) e a w=>∃ (q62 : Piece),e = .exit 2∧Fr a 123 [(0,(pP b_p_f 0)),(2,(iV p_end)),(6,(iV (goLen p_f.rows))),(7,(iV t_26)),(8,(iV start_23))]∧St X w0 w m [q62,q6,q7,[⟨b_p_f,[s1.v,s2.v,s3.v,s4.v,s5.v,s6.v,s7.v],150⟩]]∧Rd m s1 p_f_57.t.Rows∧p_f_57.t.Rows = p_f.t.Rows∧Rd m s2 p_f_57.t.Cols∧p_f_57.t.Cols = p_f.t.Cols∧Rd m s3 p_f_57.t.Lo∧p_f_57.t.Lo = p_f.t.Lo∧Rd m s4 p_f_57.t.Hi∧p_f_57.t.Hi = p_f.t.Hi∧OwnD m 28 3 q62 s5 p_f_57.x∧OwnL m 3 q6 s6 p_f_57.rows∧p_f_57.rows = p_f.rows∧OwnL m 3 q7 s7 p_f_57.cols∧p_f_57.cols = p_f.cols) hl3 ⟨q5,_,_,rfl,hF.sub ⟨rfl,rfl,rfl,rfl,rfl,rfl,rfl,trivial⟩,hS,h1,rfl,h2,rfl,h3,rfl,h4,rfl,h5,h6,rfl,h7,rfl⟩ ?_ ?_
  ·clear hF hS
   rintro s a w st ⟨q33,v_27,p_f_28,rfl,hF,hS,h29,h29k,h30,h30k,h31,h31k,h32,h32k,h33,h34,h34k,h35,h35k⟩ hb3
   unfold spec_tFill_push_l2 at hb3
   refine q_seq (q_sr (q_m hF rfl fun a hF=>q_m hF rfl fun a hF=>?_))
   obtain ⟨e_36,he_36,hb3⟩:=bindS hb3
   obtain ⟨vs37,at37,d37⟩:=h8.at he_36 1 rfl
   obtain rfl : vs37 = [(iV e_36)]:=d37
   refine q_y (v:=(elP s8 (v_27.toNat * 1))) hF hS (ex_indexAddr U28 sz3 rfl rfl (h8.idx he_36)) fun a hF=>q_y (v:=(iV e_36)) hF hS (ex_loadE1 0 U3 rfl rfl ((at37).at) rfl rfl) fun a hF=>q_y (v:=(.bool (decide (0 ≤ e_36)))) hF hS (ex_ibin rfl rfl rfl) fun a hF=>q_end (n_sq ?_)
   rcases bcase (decide (0 ≤ e_36)) with hc4 | hc4
   ·have hb3:=cond_f hc4 hb3
    refine q_cond_f hF rfl hc4 (q_exit (x_sq ?_))
    obtain rfl:=someI hb3
    exact ⟨nofun,.inl ⟨q33,rfl,hF.sub ⟨rfl,rfl,rfl,rfl,rfl,trivial⟩,hS,h29,h29k,h30,h30k,h31,h31k,h32,h32k,h33,h34,h34k,h35,h35k⟩⟩
   ·have hb3:=cond_t hc4 hb3
    refine q_cond_t hF rfl hc4 (q_skipc (n_sq (q_seq (q_block (q_sr (q_m hF rfl fun a hF=>q_m hF rfl fun a hF=>q_y (v:=(.bool (decide ((goLen p_f.rows) ≤ v_27)))) hF hS (ex_ibin rfl rfl rfl) fun a hF=>q_end (n_sq ?_)))))))
    obtain ⟨p_f_47,hj5,hb3⟩:=bindS hb3
    refine q_join (fun a w=>∃ (q52 : Piece),Fr a 123 [(0,(pP b_p_f 0)),(1,s8.v),(2,(iV p_end)),(6,(iV (goLen p_f.rows))),(7,(iV t_26)),(8,(iV start_23)),(9,(iV v_27))]∧St X w0 w m [q52,q6,q7,[⟨b_p_f,[s1.v,s2.v,s3.v,s4.v,s5.v,s6.v,s7.v],150⟩]]∧Rd m s1 p_f_47.t.Rows∧p_f_47.t.Rows = p_f.t.Rows∧Rd m s2 p_f_47.t.Cols∧p_f_47.t.Cols = p_f.t.Cols∧Rd m s3 p_f_47.t.Lo∧p_f_47.t.Lo = p_f.t.Lo∧Rd m s4 p_f_47.t.Hi∧p_f_47.t.Hi = p_f.t.Hi∧OwnD m 28 3 q52 s5 p_f_47.x∧OwnL m 3 q6 s6 p_f_47.rows∧p_f_47.rows = p_f.rows∧OwnL m 3 q7 s7 p_f_47.cols∧p_f_47.cols = p_f.cols) ?_ ?_
    ·rcases bcase (decide ((goLen p_f.rows) ≤ v_27)) with hc6 | hc6
     ·have hj5:=cond_f hc6 hj5
      refine q_cond_f hF rfl hc6 (e_region ⟨[18],[],m⟩ mixed fun w' hw'=>?_)
      have hS:=hS.below hw'
      refine e_P (v:=(pP b_p_f 0)) 0 hF rfl (ex_move rfl) fun a hF=>e_P (v:=(pP b_p_f 0)) 1 hF rfl (ex_nilCheck rfl) fun a hF=>e_P (v:=(pP b_p_f 4)) 2 hF rfl (ex_fieldAddr U150 rfl sz23 rfl rfl) fun a hF=>e_X (v:=s5.v) 3 hF hS rfl (ex_load1 3 0 U23 rfl rfl rfl rfl) fun a hF=>e_P (v:=(iV v_27)) 4 hF rfl (ex_move rfl) fun a hF=>?_
      obtain ⟨e_38,he_38,hj5⟩:=bindS hj5
      obtain ⟨s39,hV39⟩:=h33.view he_38
      refine e_P (v:=(elP s5 (v_27.toNat * 1))) 5 hF rfl (ex_indexAddr U23 sz28 rfl rfl (h33.idx he_38)) fun a hF=>e_X (v:=s39.v) 6 hF hS rfl (ex_loadE1 0 U28 rfl rfl ((hV39.atH he_38).at 0 rfl) rfl rfl) fun a hF=>e_P (v:=s8.v) 7 hF rfl (ex_move rfl) fun a hF=>e_P (v:=(iV v_27)) 8 hF rfl (ex_move rfl) fun a hF=>?_
      obtain ⟨e_40,he_40,hj5⟩:=bindS hj5
      obtain ⟨vs41,at41,d41⟩:=h8.at he_40 1 rfl
      obtain rfl : vs41 = [(iV e_40)]:=d41
      refine e_P (v:=(elP s8 (v_27.toNat * 1))) 9 hF rfl (ex_indexAddr U28 sz3 rfl rfl (h8.idx he_40)) fun a hF=>e_xm (v:=(iV e_40)) 10 hF hS (Mem.le.refl _) rfl (ex_loadE1 0 U3 rfl rfl ((at41).at) rfl rfl) rfl rfl (by kernel_rfl) (by kernel_rfl) (by kernel_rfl) fun a hF=>e_P (v:=(iV (goLen p_f.rows))) 11 hF rfl (ex_move rfl) fun a hF=>e_P (v:=(iV (w64 (e_40 - (goLen p_f.rows))))) 12 hF rfl (ex_ibin rfl rfl rfl) fun a hF=>?_
      obtain ⟨e_42,he_42,hj5⟩:=bindS hj5
      obtain ⟨vs43,at43,d43⟩:=hV39.at he_38 he_42 1 rfl
      obtain rfl : vs43 = [(iV e_42)]:=d43
      refine e_P (v:=(elP s39 ((w64 (e_40 - (goLen p_f.rows))).toNat * 1))) 13 hF rfl (ex_indexAddr U28 sz3 rfl rfl (hV39.idx he_38 he_42)) fun a hF=>e_X (v:=(iV e_42)) 14 hF hS rfl (ex_loadE1 0 U3 rfl rfl (at43.at 0 rfl) rfl rfl) fun a hF=>e_P (v:=(iV t_26)) 15 hF rfl (ex_move rfl) fun a hF=>e_P (v:=(iV (w64 (e_42 - t_26)))) 16 hF rfl (ex_ibin rfl rfl rfl) fun a hF=>?_
      obtain ⟨e_44,he_44,hj5⟩:=bindS hj5
      obtain ⟨vs45,at45,d45⟩:=hV39.at he_38 he_44 1 rfl
      obtain rfl : vs45 = [(iV e_44)]:=d45
      refine e_P (v:=(elP s39 ((w64 (e_40 - (goLen p_f.rows))).toNat * 1))) 17 hF rfl (ex_indexAddr U28 sz3 rfl rfl (hV39.idx he_38 he_44)) fun a hF=>e_one 18 (by kernel_rfl) (e_opl rfl rfl rfl fun _ hK=>wp_storeV (e':=(w64 (e_42 - t_26))) (us:=[(iV (w64 (e_42 - t_26)))]) (vs:=[(iV e_44)]) 0 hF hS hV39 he_38 sz3 rfl rfl rfl rfl rfl rfl rfl he_44 at45 rfl rfl rfl fun w q46 hS h46=>hK _ _ (⟨⟨kpN,fun _=>hS.vis.of_le (Mem.le.refl _)⟩,?_⟩))
      refine e_end (by kernel_rfl) (n_jn ?_) _
      obtain rfl:=someI hj5
      exact ⟨q46,hF.sub ⟨rfl,rfl,rfl,rfl,rfl,rfl,rfl,trivial⟩,hS,h29,h29k,h30,h30k,h31,h31k,h32,h32k,h46.own,h34,h34k,h35,h35k⟩
     ·have hj5:=cond_t hc6 hj5
      refine q_cond_t hF rfl hc6 (e_region ⟨[18],[],m⟩ mixed fun w' hw'=>?_)
      have hS:=hS.below hw'
      refine e_P (v:=(pP b_p_f 0)) 0 hF rfl (ex_move rfl) fun a hF=>e_P (v:=(pP b_p_f 0)) 1 hF rfl (ex_nilCheck rfl) fun a hF=>e_P (v:=(pP b_p_f 4)) 2 hF rfl (ex_fieldAddr U150 rfl sz23 rfl rfl) fun a hF=>e_X (v:=s5.v) 3 hF hS rfl (ex_load1 3 0 U23 rfl rfl rfl rfl) fun a hF=>e_P (v:=s8.v) 4 hF rfl (ex_move rfl) fun a hF=>e_P (v:=(iV v_27)) 5 hF rfl (ex_move rfl) fun a hF=>?_
      obtain ⟨e_38,he_38,hj5⟩:=bindS hj5
      obtain ⟨vs39,at39,d39⟩:=h8.at he_38 1 rfl
      obtain rfl : vs39 = [(iV e_38)]:=d39
      refine e_P (v:=(elP s8 (v_27.toNat * 1))) 6 hF rfl (ex_indexAddr U28 sz3 rfl rfl (h8.idx he_38)) fun a hF=>e_xm (v:=(iV e_38)) 7 hF hS (Mem.le.refl _) rfl (ex_loadE1 0 U3 rfl rfl ((at39).at) rfl rfl) rfl rfl (by kernel_rfl) (by kernel_rfl) (by kernel_rfl) fun a hF=>?_
      obtain ⟨e_40,he_40,hj5⟩:=bindS hj5
      obtain ⟨s41,hV41⟩:=h33.view he_40
      refine e_P (v:=(elP s5 (e_38.toNat * 1))) 8 hF rfl (ex_indexAddr U23 sz28 rfl rfl (h33.idx he_40)) fun a hF=>e_X (v:=s41.v) 9 hF hS rfl (ex_loadE1 0 U28 rfl rfl ((hV41.atH he_40).at 0 rfl) rfl rfl) fun a hF=>e_P (v:=(iV v_27)) 10 hF rfl (ex_move rfl) fun a hF=>e_P (v:=(iV (goLen p_f.rows))) 11 hF rfl (ex_move rfl) fun a hF=>e_P (v:=(iV (w64 (v_27 - (goLen p_f.rows))))) 12 hF rfl (ex_ibin rfl rfl rfl) fun a hF=>?_
      obtain ⟨e_42,he_42,hj5⟩:=bindS hj5
      obtain ⟨vs43,at43,d43⟩:=hV41.at he_40 he_42 1 rfl
      obtain rfl : vs43 = [(iV e_42)]:=d43
      refine e_P (v:=(elP s41 ((w64 (v_27 - (goLen p_f.rows))).toNat * 1))) 13 hF rfl (ex_indexAddr U28 sz3 rfl rfl (hV41.idx he_40 he_42)) fun a hF=>e_X (v:=(iV e_42)) 14 hF hS rfl (ex_loadE1 0 U3 rfl rfl (at43.at 0 rfl) rfl rfl) fun a hF=>e_P (v:=(iV t_26)) 15 hF rfl (ex_move rfl) fun a hF=>e_P (v:=(iV (w64 (e_42 + t_26)))) 16 hF rfl (ex_ibin rfl rfl rfl) fun a hF=>?_
      obtain ⟨e_44,he_44,hj5⟩:=bindS hj5
      obtain ⟨vs45,at45,d45⟩:=hV41.at he_40 he_44 1 rfl
      obtain rfl : vs45 = [(iV e_44)]:=d45
      refine e_P (v:=(elP s41 ((w64 (v_27 - (goLen p_f.rows))).toNat * 1))) 17 hF rfl (ex_indexAddr U28 sz3 rfl rfl (hV41.idx he_40 he_44)) fun a hF=>e_one 18 (by kernel_rfl) (e_opl rfl rfl rfl fun _ hK=>wp_storeV (e':=(w64 (e_42 + t_26))) (us:=[(iV (w64 (e_42 + t_26)))]) (vs:=[(iV e_44)]) 0 hF hS hV41 he_40 sz3 rfl rfl rfl rfl rfl rfl rfl he_44 at45 rfl rfl rfl fun w q46 hS h46=>hK _ _ (⟨⟨kpN,fun _=>hS.vis.of_le (Mem.le.refl _)⟩,?_⟩))
      refine e_end (by kernel_rfl) (n_jn ?_) _
      obtain rfl:=someI hj5
      exact ⟨q46,hF.sub ⟨rfl,rfl,rfl,rfl,rfl,rfl,rfl,trivial⟩,hS,h29,h29k,h30,h30k,h31,h31k,h32,h32k,h46.own,h34,h34k,h35,h35k⟩
    ·rintro a w ⟨q52,hF,hS,h48,h48k,h49,h49k,h50,h50k,h51,h51k,h52,h53,h53k,h54,h54k⟩
     refine n_ib (n_sq ?_)
     refine q_region (q_m hF rfl fun a hF=>q_m hF rfl fun a hF=>?_)
     obtain ⟨e_55,he_55,hb3⟩:=bindS hb3
     obtain ⟨vs56,at56,d56⟩:=h8.at he_55 1 rfl
     obtain rfl : vs56 = [(iV e_55)]:=d56
     refine q_y (v:=(elP s8 (v_27.toNat * 1))) hF hS (ex_indexAddr U28 sz3 rfl rfl (h8.idx he_55)) fun a hF=>q_y (v:=(iV e_55)) hF hS (ex_loadE1 0 U3 rfl rfl ((at56).at) rfl rfl) fun a hF=>q_s hF rfl fun a hF=>q_end ?_
     obtain rfl:=someI hb3
     exact ⟨rfl,q52,_,_,rfl,hF.sub ⟨rfl,rfl,rfl,rfl,rfl,rfl,rfl,trivial⟩,hS,h48,h48k,h49,h49k,h50,h50k,h51,h51k,h52,h53,h53k,h54,h54k⟩
  ·rintro e a w ⟨q62,rfl,hF,hS,h58,h58k,h59,h59k,h60,h60k,h61,h61k,h62,h63,h63k,h64,h64k⟩
   refine x_ib (n_sq ?_)
   refine q_sr (q_m hF rfl fun a hF=>q_y (v:=(pP b_p_f 0)) hF hS (ex_nilCheck rfl) fun a hF=>q_y (v:=(pP b_p_f 5)) hF hS (ex_fieldAddr U150 rfl sz28 rfl rfl) fun a hF=>q_y (v:=s6.v) hF hS (ex_load1 3 0 U28 rfl rfl rfl rfl) fun a hF=>q_m hF rfl fun a hF=>?_)
   obtain ⟨e_65,he_65,hr⟩:=bindS hr
   obtain ⟨vs66,at66,d66⟩:=h63.at he_65 1 rfl
   obtain rfl : vs66 = [(iV e_65)]:=d66
   refine q_y (v:=(elP s6 (start_23.toNat * 1))) hF hS (ex_indexAddr U28 sz3 rfl rfl (h63.idx he_65)) fun a hF=>q_y (v:=(iV e_65)) hF hS (ex_loadE1 0 U3 rfl rfl (at66.at 1 rfl) rfl rfl) fun a hF=>q_m hF rfl fun a hF=>q_y (v:=(iV (w64 (e_65 - t_26)))) hF hS (ex_ibin rfl rfl rfl) fun a hF=>?_
   obtain ⟨e_67,he_67,hr⟩:=bindS hr
   obtain ⟨vs68,at68,d68⟩:=h63.at he_67 1 rfl
   obtain rfl : vs68 = [(iV e_67)]:=d68
   refine q_y (v:=(elP s6 (start_23.toNat * 1))) hF hS (ex_indexAddr U28 sz3 rfl rfl (h63.idx he_67)) fun a hF=>?_
   have hS : St _ _ _ _ [q6,q62,q7,[⟨b_p_f,[s1.v,s2.v,s3.v,s4.v,s5.v,s6.v,s7.v],150⟩]]:=hS.sel [1,0,2,3] (by decide)
   refine q_do rfl fun _ hK=>wp_storeE (e':=(w64 (e_65 - t_26))) (us:=[(iV (w64 (e_65 - t_26)))]) (vs:=[(iV e_67)]) 0 hF hS h63 sz3 rfl rfl rfl rfl rfl rfl rfl he_67 at68 rfl rfl rfl fun w q69 hS h69=>hK _ _ (q_end (n_sq (q_region (q_m hF rfl fun a hF=>q_y (v:=(pP b_p_f 0)) hF hS (ex_nilCheck rfl) fun a hF=>q_y (v:=(pP b_p_f 6)) hF hS (ex_fieldAddr U150 rfl sz28 rfl rfl) fun a hF=>q_y (v:=s7.v) hF hS (ex_load1 3 0 U28 rfl rfl rfl rfl) fun a hF=>q_m hF rfl fun a hF=>q_m hF rfl fun a hF=>q_y (v:=(iV (w64 (p_end - (goLen p_f.rows))))) hF hS (ex_ibin rfl rfl rfl) fun a hF=>?_))))
   obtain ⟨e_70,he_70,hr⟩:=bindS hr
   obtain ⟨vs71,at71,d71⟩:=h64.at he_70 1 rfl
   obtain rfl : vs71 = [(iV e_70)]:=d71
   refine q_y (v:=(elP s7 ((w64 (p_end - (goLen p_f.rows))).toNat * 1))) hF hS (ex_indexAddr U28 sz3 rfl rfl (h64.idx he_70)) fun a hF=>q_y (v:=(iV e_70)) hF hS (ex_loadE1 0 U3 rfl rfl (at71.at 2 rfl) rfl rfl) fun a hF=>q_m hF rfl fun a hF=>q_y (v:=(iV (w64 (e_70 - t_26)))) hF hS (ex_ibin rfl rfl rfl) fun a hF=>?_
   obtain ⟨e_72,he_72,hr⟩:=bindS hr
   obtain ⟨vs73,at73,d73⟩:=h64.at he_72 1 rfl
   obtain rfl : vs73 = [(iV e_72)]:=d73
   refine q_y (v:=(elP s7 ((w64 (p_end - (goLen p_f.rows))).toNat * 1))) hF hS (ex_indexAddr U28 sz3 rfl rfl (h64.idx he_72)) fun a hF=>?_
   have hS : St _ _ _ _ [q7,q69,q62,[⟨b_p_f,[s1.v,s2.v,s3.v,s4.v,s5.v,s6.v,s7.v],150⟩]]:=hS.sel [2,0,1,3] (by decide)
   refine q_do rfl fun _ hK=>wp_storeE (e':=(w64 (e_70 - t_26))) (us:=[(iV (w64 (e_70 - t_26)))]) (vs:=[(iV e_72)]) 0 hF hS h64 sz3 rfl rfl rfl rfl rfl rfl rfl he_72 at73 rfl rfl rfl fun w q74 hS h74=>hK _ _ (q_end (normal_ret ?_))
   obtain rfl:=someI hr
   exact ret_ofX hF hS rfl .nil ⟨q62,q69,q74,s5,s6,s7,rfl,hS.sel [3,2,1,0] (by decide),h58k,h59k,h60k,h61k,h62,h69,h74⟩

theorem c_spec_tFill_augment (p_f : spec_tFill) (r : Bool × spec_tFill) (hr : spec_tFill_augment p_f = some r) (w0 : World) (m : Mem) (b_p_f : Nat) (s1 : Sl) (h1 : Rd m s1 p_f.t.Rows) (s2 : Sl) (h2 : Rd m s2 p_f.t.Cols) (s3 : Sl) (h3 : Rd m s3 p_f.t.Lo) (s4 : Sl) (h4 : Rd m s4 p_f.t.Hi) (s5 : Sl) (q5 : Piece) (h5 : OwnD m 28 3 q5 s5 p_f.x) (s6 : Sl) (q6 : Piece) (h6 : OwnL m 3 q6 s6 p_f.rows) (s7 : Sl) (q7 : Piece) (h7 : OwnL m 3 q7 s7 p_f.cols) (X : List Nat) (hS : St X w0 w0 m [[⟨b_p_f,[s1.v,s2.v,s3.v,s4.v,s5.v,s6.v,s7.v],150⟩],q5,q6,q7]) :
  RetX Try.prog 199 [(pP b_p_f 0)] w0 (fun v w=>∃ (q4' : Piece) (q5' : Piece) (q6' : Piece) (s4' : Sl) (s5' : Sl) (s6' : Sl),v = (.bool r.1)∧St X w0 w m [[⟨b_p_f,[s1.v,s2.v,s3.v,s4.v,s4'.v,s5'.v,s6'.v],150⟩],q4',q5',q6']∧r.2.t.Rows = p_f.t.Rows∧r.2.t.Cols = p_f.t.Cols∧r.2.t.Lo = p_f.t.Lo∧r.2.t.Hi = p_f.t.Hi∧OwnD m 28 3 q4' s4' r.2.x∧OwnL m 3 q5' s5' r.2.rows∧OwnL m 3 q6' s6' r.2.cols):=by
 unfold spec_tFill_augment at hr
 refine ret_startX Try.func199 rfl 110 rfl rfl fun a hF=>q_sr (q_s hF rfl fun a hF=>q_end (n_sq (q_seq (e_region ⟨[],[],m⟩ mixed fun w' hw'=>?_))))
 have hS:=hS.below hw'
 refine e_P (v:=(pP b_p_f 0)) 0 hF rfl (ex_move rfl) fun a hF=>e_P (v:=(pP b_p_f 0)) 1 hF rfl (ex_nilCheck rfl) fun a hF=>e_P (v:=(pP b_p_f 5)) 2 hF rfl (ex_fieldAddr U150 rfl sz28 rfl rfl) fun a hF=>e_X (v:=s6.v) 3 hF hS rfl (ex_load1 0 0 U28 rfl rfl rfl rfl) fun a hF=>e_P (v:=(iV (goLen p_f.rows))) 4 hF rfl (ex_len U28 rfl h6.len) fun a hF=>e_P (v:=(pP b_p_f 0)) 5 hF rfl (ex_move rfl) fun a hF=>e_P (v:=(pP b_p_f 0)) 6 hF rfl (ex_nilCheck rfl) fun a hF=>e_P (v:=(pP b_p_f 6)) 7 hF rfl (ex_fieldAddr U150 rfl sz28 rfl rfl) fun a hF=>e_X (v:=s7.v) 8 hF hS rfl (ex_load1 0 0 U28 rfl rfl rfl rfl) fun a hF=>e_P (v:=(iV (goLen p_f.cols))) 9 hF rfl (ex_len U28 rfl h7.len) fun a hF=>e_P (v:=(iV (goLen p_f.rows))) 10 hF rfl (ex_assign rfl) fun a hF=>e_P (v:=(iV (goLen p_f.cols))) 11 hF rfl (ex_assign rfl) fun a hF=>e_end (by kernel_rfl) (n_sq ?_) _
 refine q_sr (q_m hF rfl fun a hF=>q_m hF rfl fun a hF=>q_y (v:=(iV (w64 ((goLen p_f.rows) + (goLen p_f.cols))))) hF hS (ex_ibin rfl rfl rfl) fun a hF=>?_)
 obtain ⟨l_8,hl_8,hr⟩:=bindS hr
 refine q_do rfl fun _ hK=>wp_make (z:=(0 : Int)) hF hS U28 inf3 rfl rfl rfl rfl rfl (by decide) hl_8 rfl fun a w q9 s9 hF hS h9 _=>hK _ _ (q_s hF rfl fun a hF=>q_end (n_sq (q_sr (q_s hF rfl fun a hF=>q_end (n_sq (q_seq (q_sr (q_m hF rfl fun a hF=>q_y (v:=(iV (goLen l_8))) hF hS (ex_len U28 rfl h9.len) fun a hF=>q_m hF rfl fun a hF=>q_end (n_sq (q_block ?_))))))))))
 obtain ⟨o1,hl1,hr⟩:=bindS hr
 refine q_loop (fun (s : (List Int) × (List Int) × Int) a w=>∃ (q11 : Piece),∃ (q13 : Piece),∃ (s13 : Sl),∃ from_10,∃ queue_12,∃ t_14,s = (from_10,queue_12,t_14)∧Fr a 110 [(0,(pP b_p_f 0)),(3,(iV (goLen p_f.rows))),(4,(iV (goLen p_f.cols))),(5,s9.v),(6,s13.v),(26,(iV (goLen l_8))),(27,(iV t_14))]∧St X w0 w m [q11,q13,[⟨b_p_f,[s1.v,s2.v,s3.v,s4.v,s5.v,s6.v,s7.v],150⟩],q5,q6,q7]∧OwnL m 3 q11 s9 from_10∧OwnL m 3 q13 s13 queue_12) (fun (o : (List Int) × (List Int)) e a w=>∃ (q32 : Piece),∃ (q34 : Piece),∃ (s34 : Sl),∃ from_31,∃ queue_33,o = (from_31,queue_33)∧e = .exit 0∧Fr a 110 [(0,(pP b_p_f 0)),(3,(iV (goLen p_f.rows))),(4,(iV (goLen p_f.cols))),(5,s9.v),(6,s34.v)]∧St X w0 w m [q32,q34,q5,q6,q7,[⟨b_p_f,[s1.v,s2.v,s3.v,s4.v,s5.v,s6.v,s7.v],150⟩]]∧OwnL m 3 q32 s9 from_31∧OwnL m 3 q34 s34 queue_33) hl1 ⟨q9,[],nilS,_,_,_,rfl,hF.sub ⟨rfl,rfl,rfl,rfl,rfl,rfl,rfl,trivial⟩,hS.sel [0,5,1,2,3,4] (by decide),h9,(OwnL.nil (α:=Int) m 3)⟩ ?_ ?_
 ·clear hF hS
  rintro s a w st ⟨q11,q13,s13,from_10,queue_12,t_14,rfl,hF,hS,h11,h13⟩ hb1
  unfold spec_tFill_augment_l1 at hb1
  refine q_sr (q_y (v:=(.bool (decide (t_14 < (goLen l_8))))) hF hS (ex_ibin rfl rfl rfl) fun a hF=>q_end (n_sq (q_seq ?_)))
  rcases bcase (decide (t_14 < (goLen l_8))) with hc2 | hc2
  ·have hb1:=cond_f hc2 hb1
   refine q_cond_f hF rfl hc2 (q_exit (x_sq ?_))
   obtain rfl:=someI hb1
   exact ⟨nofun,.inl ⟨q11,q13,s13,_,_,rfl,rfl,hF.sub ⟨rfl,rfl,rfl,rfl,rfl,trivial⟩,hS.sel [0,1,3,4,5,2] (by decide),h11,h13⟩⟩
  ·have hb1:=cond_t hc2 hb1
   refine q_cond_t hF rfl hc2 (q_skipc (n_sq (q_seq (q_block (q_sr (q_m hF rfl fun a hF=>q_s hF rfl fun a hF=>q_end (n_sq (q_sr (q_m hF rfl fun a hF=>q_m hF rfl fun a hF=>?_)))))))))
   obtain ⟨e_15,he_15,hb1⟩:=bindS hb1
   obtain ⟨vs16,at16,d16⟩:=h11.at he_15 1 rfl
   obtain rfl : vs16 = [(iV e_15)]:=d16
   refine q_y (v:=(elP s9 (t_14.toNat * 1))) hF hS (ex_indexAddr U28 sz3 rfl rfl (h11.idx he_15)) fun a hF=>q_do rfl fun _ hK=>wp_storeE (e':=-2) (us:=[(iV (-2))]) (vs:=[(iV e_15)]) 0 hF hS h11 sz3 rfl rfl rfl rfl rfl rfl rfl he_15 at16 rfl rfl rfl fun w q17 hS h17=>hK _ _ (q_end (n_sq (q_seq ?_)))
   obtain ⟨t_20,hj3,hb1⟩:=bindS hb1
   refine q_join (fun a w=>Fr a 110 [(0,(pP b_p_f 0)),(3,(iV (goLen p_f.rows))),(4,(iV (goLen p_f.cols))),(5,s9.v),(6,s13.v),(7,(iV t_14)),(26,(iV (goLen l_8))),(27,(iV t_14)),(45,(.bool t_20))]∧St X w0 w m [q17,q13,q5,q6,q7,[⟨b_p_f,[s1.v,s2.v,s3.v,s4.v,s5.v,s6.v,s7.v],150⟩]]) ?_ ?_
   ·refine q_region (q_m hF rfl fun a hF=>q_m hF rfl fun a hF=>q_y (v:=(.bool (decide (t_14 < (goLen p_f.rows))))) hF hS (ex_ibin rfl rfl rfl) fun a hF=>q_m hF rfl fun a hF=>?_)
    rcases bcase (decide (t_14 < (goLen p_f.rows))) with hc4 | hc4
    ·have hj3:=cond_f hc4 hj3
     refine q_k hF hc4 fun a hF=>q_k hF hc4 fun a hF=>q_k hF hc4 fun a hF=>q_k hF hc4 fun a hF=>q_k hF hc4 fun a hF=>q_k hF hc4 fun a hF=>q_k hF hc4 fun a hF=>q_k hF hc4 fun a hF=>q_y (v:=(.bool false)) hF hS (ex_pick_f rfl rfl hc4) fun a hF=>q_end (n_jn ?_)
     obtain rfl:=someI hj3
     exact ⟨hF.sub ⟨rfl,rfl,rfl,rfl,rfl,rfl,rfl,rfl,rfl,trivial⟩,hS.sel [0,1,3,4,5,2] (by decide)⟩
    ·have hj3:=cond_t hc4 hj3
     refine q_g (v:=(pP b_p_f 0)) hF hS (ex_move rfl) hc4 fun a hF=>q_g (v:=(pP b_p_f 0)) hF hS (ex_nilCheck rfl) hc4 fun a hF=>q_g (v:=(pP b_p_f 5)) hF hS (ex_fieldAddr U150 rfl sz28 rfl rfl) hc4 fun a hF=>q_g (v:=s6.v) hF hS (ex_load1 2 0 U28 rfl rfl rfl rfl) hc4 fun a hF=>q_g (v:=(iV t_14)) hF hS (ex_move rfl) hc4 fun a hF=>?_
     obtain ⟨e_18,he_18,hj3⟩:=bindS hj3
     obtain ⟨vs19,at19,d19⟩:=h6.at he_18 1 rfl
     obtain rfl : vs19 = [(iV e_18)]:=d19
     refine q_g (v:=(elP s6 (t_14.toNat * 1))) hF hS (ex_indexAddr U28 sz3 rfl rfl (h6.idx he_18)) hc4 fun a hF=>q_g (v:=(iV e_18)) hF hS (ex_loadE1 0 U3 rfl rfl (at19.at 4 rfl) rfl rfl) hc4 fun a hF=>q_g (v:=(.bool (decide (0 < e_18)))) hF hS (ex_ibin rfl rfl rfl) hc4 fun a hF=>q_y (v:=(.bool (decide (0 < e_18)))) hF hS (ex_pick_t rfl rfl hc4) fun a hF=>q_end (n_jn ?_)
     obtain rfl:=someI hj3
     exact ⟨hF.sub ⟨rfl,rfl,rfl,rfl,rfl,rfl,rfl,rfl,rfl,trivial⟩,hS.sel [0,1,3,4,5,2] (by decide)⟩
   ·rintro a w ⟨hF,hS⟩
    refine n_sq ?_
    obtain ⟨j5,hj5,hb1⟩:=bindS hb1
    refine q_join (fun a w=>∃ (q28 : Piece),∃ (q30 : Piece),∃ (s30 : Sl),∃ from_27,∃ queue_29,j5 = (from_27,queue_29)∧Fr a 110 [(0,(pP b_p_f 0)),(3,(iV (goLen p_f.rows))),(4,(iV (goLen p_f.cols))),(5,s9.v),(6,s30.v),(26,(iV (goLen l_8))),(27,(iV t_14))]∧St X w0 w m [q28,q30,q5,q6,q7,[⟨b_p_f,[s1.v,s2.v,s3.v,s4.v,s5.v,s6.v,s7.v],150⟩]]∧OwnL m 3 q28 s9 from_27∧OwnL m 3 q30 s30 queue_29) ?_ ?_
    ·rcases bcase (t_20) with hc6 | hc6
     ·have hj5:=cond_f hc6 hj5
      refine q_cond_f hF rfl hc6 (q_skipc (n_jn ?_))
      obtain rfl:=someI hj5
      exact ⟨q17,q13,s13,_,_,rfl,hF.sub ⟨rfl,rfl,rfl,rfl,rfl,rfl,rfl,trivial⟩,hS,h17,h13⟩
     ·have hj5:=cond_t hc6 hj5
      refine q_cond_t hF rfl hc6 (q_sr (q_m hF rfl fun a hF=>q_m hF rfl fun a hF=>?_))
      obtain ⟨e_21,he_21,hj5⟩:=bindS hj5
      obtain ⟨vs22,at22,d22⟩:=h17.at he_21 1 rfl
      obtain rfl : vs22 = [(iV e_21)]:=d22
      refine q_y (v:=(elP s9 (t_14.toNat * 1))) hF hS (ex_indexAddr U28 sz3 rfl rfl (h17.idx he_21)) fun a hF=>q_do rfl fun _ hK=>wp_storeE (e':=-1) (us:=[(iV (-1))]) (vs:=[(iV e_21)]) 0 hF hS h17 sz3 rfl rfl rfl rfl rfl rfl rfl he_21 at22 rfl rfl rfl fun w q23 hS h23=>hK _ _ (q_end (n_sq (q_region (q_m hF rfl fun a hF=>q_m hF rfl fun a hF=>q_do rfl fun _ hK=>wp_buildSlice' (l:=([t_14] : List Int)) (cells:=[(iV t_14)]) hF hS U28 inf3 rfl rfl (by kernel_rfl) rfl rfl rfl ⟨rfl,rfl⟩ rfl rfl fun a w q24 s24 hF hS h24 _=>hK _ _ ?_))))
      have hS : St _ _ _ _ [q13,q24,q23,q5,q6,q7,[⟨b_p_f,[s1.v,s2.v,s3.v,s4.v,s5.v,s6.v,s7.v],150⟩]]:=hS.sel [2,0,1,3,4,5,6] (by decide)
      obtain ⟨l_25,hl_25,hj5⟩:=bindS hj5
      refine q_do rfl fun _ hK=>wp_append hF hS h13 U28 inf3 rfl rfl rfl rfl (h24.vw hS (j:=1) rfl) rfl (by decide) hl_25 rfl fun a w q26 s26 hF hS h26=>hK _ _ (q_s hF rfl fun a hF=>q_end (n_jn ?_))
      obtain rfl:=someI hj5
      exact ⟨q23,q26,s26,_,_,rfl,hF.sub ⟨rfl,rfl,rfl,rfl,rfl,rfl,rfl,trivial⟩,hS.sel [2,0,3,4,5,6] (by decide),h23,h26⟩
    ·rintro a w ⟨q28,q30,s30,from_27,queue_29,rfl,hF,hS,h28,h30⟩
     refine n_ib (n_sq ?_)
     refine q_region (q_y (v:=(iV (w64 (t_14 + 1)))) hF hS (ex_ibin rfl rfl rfl) fun a hF=>q_m hF rfl fun a hF=>q_end ?_)
     obtain rfl:=someI hb1
     exact ⟨rfl,q28,q30,s30,_,_,_,rfl,hF.sub ⟨rfl,rfl,rfl,rfl,rfl,rfl,rfl,trivial⟩,hS.sel [0,1,5,2,3,4] (by decide),h28,h30⟩
 ·rintro e a w ⟨q32,q34,s34,from_31,queue_33,rfl,rfl,hF,hS,h32,h34⟩
  refine x_ib (n_sq ?_)
  refine q_seq (q_sr (q_s hF rfl fun a hF=>q_end (n_sq (q_block ?_))))
  obtain ⟨o7,hl7,hr⟩:=bindS hr
  refine q_loop (fun (s : (List Int) × (List Int) × Int) a w=>∃ (q36 : Piece),∃ (q38 : Piece),∃ (s38 : Sl),∃ from_35,∃ queue_37,∃ at_39,s = (from_35,queue_37,at_39)∧Fr a 110 [(0,(pP b_p_f 0)),(3,(iV (goLen p_f.rows))),(4,(iV (goLen p_f.cols))),(5,s9.v),(6,s38.v),(8,(iV at_39))]∧St X w0 w m [q36,q38,q5,q6,q7,[⟨b_p_f,[s1.v,s2.v,s3.v,s4.v,s5.v,s6.v,s7.v],150⟩]]∧OwnL m 3 q36 s9 from_35∧OwnL m 3 q38 s38 queue_37) (fun (o : (Unit) ⊕ (Bool × spec_tFill)) e a w=>o = .inl ()∧e = .exit 2∧Fr a 110 []∧St X w0 w m [q5,q6,q7,[⟨b_p_f,[s1.v,s2.v,s3.v,s4.v,s5.v,s6.v,s7.v],150⟩]]) hl7 ⟨q32,q34,s34,_,_,_,rfl,hF.sub ⟨rfl,rfl,rfl,rfl,rfl,rfl,trivial⟩,hS,h32,h34⟩ ?_ ?_
  ·clear hF hS
   rintro s a w st ⟨q36,q38,s38,from_35,queue_37,at_39,rfl,hF,hS,h36,h38⟩ hb7
   unfold spec_tFill_augment_l2 at hb7
   refine q_seq (q_sr (q_m hF rfl fun a hF=>q_m hF rfl fun a hF=>q_y (v:=(iV (goLen queue_37))) hF hS (ex_len U28 rfl h38.len) fun a hF=>q_y (v:=(.bool (decide (at_39 < (goLen queue_37))))) hF hS (ex_ibin rfl rfl rfl) fun a hF=>q_end (n_sq ?_)))
   rcases bcase (decide (at_39 < (goLen queue_37))) with hc8 | hc8
   ·have hb7:=cond_f hc8 hb7
    refine q_cond_f hF rfl hc8 (q_exit (x_sq ?_))
    obtain rfl:=someI hb7
    exact ⟨nofun,.inl ⟨rfl,rfl,hF.sub trivial,hS.mask [false,false,true,true,true,true]⟩⟩
   ·have hb7:=cond_t hc8 hb7
    refine q_cond_t hF rfl hc8 (q_skipc (n_sq (q_seq (q_block (q_sr (q_m hF rfl fun a hF=>q_m hF rfl fun a hF=>?_))))))
    obtain ⟨e_40,he_40,hb7⟩:=bindS hb7
    obtain ⟨vs41,at41,d41⟩:=h38.at he_40 1 rfl
    obtain rfl : vs41 = [(iV e_40)]:=d41
    refine q_y (v:=(elP s38 (at_39.toNat * 1))) hF hS (ex_indexAddr U28 sz3 rfl rfl (h38.idx he_40)) fun a hF=>q_y (v:=(iV e_40)) hF hS (ex_loadE1 0 U3 rfl rfl (at41.at 1 rfl) rfl rfl) fun a hF=>q_s hF rfl fun a hF=>q_end (n_sq (q_seq (q_seq ?_)))
    obtain ⟨t_44,hj9,hb7⟩:=bindS hb7
    refine q_join (fun a w=>Fr a 110 [(0,(pP b_p_f 0)),(3,(iV (goLen p_f.rows))),(4,(iV (goLen p_f.cols))),(5,s9.v),(6,s38.v),(8,(iV at_39)),(9,(iV e_40)),(78,(.bool t_44))]∧St X w0 w m [q36,q38,q5,q6,q7,[⟨b_p_f,[s1.v,s2.v,s3.v,s4.v,s5.v,s6.v,s7.v],150⟩]]) ?_ ?_
    ·refine q_region (q_m hF rfl fun a hF=>q_m hF rfl fun a hF=>q_y (v:=(.bool (decide ((goLen p_f.rows) ≤ e_40)))) hF hS (ex_ibin rfl rfl rfl) fun a hF=>q_m hF rfl fun a hF=>?_)
     rcases bcase (decide ((goLen p_f.rows) ≤ e_40)) with hc10 | hc10
     ·have hj9:=cond_f hc10 hj9
      refine q_k hF hc10 fun a hF=>q_k hF hc10 fun a hF=>q_k hF hc10 fun a hF=>q_k hF hc10 fun a hF=>q_k hF hc10 fun a hF=>q_k hF hc10 fun a hF=>q_k hF hc10 fun a hF=>q_k hF hc10 fun a hF=>q_k hF hc10 fun a hF=>q_k hF hc10 fun a hF=>q_y (v:=(.bool false)) hF hS (ex_pick_f rfl rfl hc10) fun a hF=>q_end (n_jn ?_)
      obtain rfl:=someI hj9
      exact ⟨hF.sub ⟨rfl,rfl,rfl,rfl,rfl,rfl,rfl,rfl,trivial⟩,hS⟩
     ·have hj9:=cond_t hc10 hj9
      refine q_g (v:=(pP b_p_f 0)) hF hS (ex_move rfl) hc10 fun a hF=>q_g (v:=(pP b_p_f 0)) hF hS (ex_nilCheck rfl) hc10 fun a hF=>q_g (v:=(pP b_p_f 6)) hF hS (ex_fieldAddr U150 rfl sz28 rfl rfl) hc10 fun a hF=>q_g (v:=s7.v) hF hS (ex_load1 5 0 U28 rfl rfl rfl rfl) hc10 fun a hF=>q_g (v:=(iV e_40)) hF hS (ex_move rfl) hc10 fun a hF=>q_g (v:=(iV (goLen p_f.rows))) hF hS (ex_move rfl) hc10 fun a hF=>q_g (v:=(iV (w64 (e_40 - (goLen p_f.rows))))) hF hS (ex_ibin rfl rfl rfl) hc10 fun a hF=>?_
      obtain ⟨e_42,he_42,hj9⟩:=bindS hj9
      obtain ⟨vs43,at43,d43⟩:=h7.at he_42 1 rfl
      obtain rfl : vs43 = [(iV e_42)]:=d43
      refine q_g (v:=(elP s7 ((w64 (e_40 - (goLen p_f.rows))).toNat * 1))) hF hS (ex_indexAddr U28 sz3 rfl rfl (h7.idx he_42)) hc10 fun a hF=>q_g (v:=(iV e_42)) hF hS (ex_loadE1 0 U3 rfl rfl (at43.at 4 rfl) rfl rfl) hc10 fun a hF=>q_g (v:=(.bool (decide (0 < e_42)))) hF hS (ex_ibin rfl rfl rfl) hc10 fun a hF=>q_y (v:=(.bool (decide (0 < e_42)))) hF hS (ex_pick_t rfl rfl hc10) fun a hF=>q_end (n_jn ?_)
      obtain rfl:=someI hj9
      exact ⟨hF.sub ⟨rfl,rfl,rfl,rfl,rfl,rfl,rfl,rfl,trivial⟩,hS⟩
    ·rintro a w ⟨hF,hS⟩
     refine n_sq ?_
     rcases bcase (t_44) with hc11 | hc11
     ·have hb7:=cond_f hc11 hb7
      refine q_cond_f hF rfl hc11 (q_skipc (n_sq (q_sr (q_s hF rfl fun a hF=>q_end (n_sq (q_block ?_))))))
      obtain ⟨o12,hl12,hb7⟩:=bindS hb7
      refine q_loop (fun (s : (List Int) × (List Int) × Int) a w=>∃ (q46 : Piece),∃ (q48 : Piece),∃ (s48 : Sl),∃ from_45,∃ queue_47,∃ k_49,s = (from_45,queue_47,k_49)∧Fr a 110 [(0,(pP b_p_f 0)),(3,(iV (goLen p_f.rows))),(4,(iV (goLen p_f.cols))),(5,s9.v),(6,s48.v),(8,(iV at_39)),(9,(iV e_40)),(10,(iV k_49))]∧St X w0 w m [q46,q48,q5,q6,q7,[⟨b_p_f,[s1.v,s2.v,s3.v,s4.v,s5.v,s6.v,s7.v],150⟩]]∧OwnL m 3 q46 s9 from_45∧OwnL m 3 q48 s48 queue_47) (fun (o : (List Int) × (List Int)) e a w=>∃ (q66 : Piece),∃ (q68 : Piece),∃ (s68 : Sl),∃ from_65,∃ queue_67,o = (from_65,queue_67)∧e = .exit 4∧Fr a 110 [(0,(pP b_p_f 0)),(3,(iV (goLen p_f.rows))),(4,(iV (goLen p_f.cols))),(5,s9.v),(6,s68.v),(8,(iV at_39))]∧St X w0 w m [q66,q68,q5,q6,q7,[⟨b_p_f,[s1.v,s2.v,s3.v,s4.v,s5.v,s6.v,s7.v],150⟩]]∧OwnL m 3 q66 s9 from_65∧OwnL m 3 q68 s68 queue_67) hl12 ⟨q36,q38,s38,_,_,_,rfl,hF.sub ⟨rfl,rfl,rfl,rfl,rfl,rfl,rfl,rfl,trivial⟩,hS,h36,h38⟩ ?_ ?_
      ·clear hF hS
       rintro s a w st ⟨q46,q48,s48,from_45,queue_47,k_49,rfl,hF,hS,h46,h48⟩ hb12
       unfold spec_tFill_augment_l3 at hb12
       refine q_seq (q_sr (q_m hF rfl fun a hF=>q_m hF rfl fun a hF=>q_m hF rfl fun a hF=>q_y (v:=(iV (w64 ((goLen p_f.rows) + (goLen p_f.cols))))) hF hS (ex_ibin rfl rfl rfl) fun a hF=>q_y (v:=(.bool (decide (k_49 < (w64 ((goLen p_f.rows) + (goLen p_f.cols))))))) hF hS (ex_ibin rfl rfl rfl) fun a hF=>q_end (n_sq ?_)))
       rcases bcase (decide (k_49 < (w64 ((goLen p_f.rows) + (goLen p_f.cols))))) with hc13 | hc13
       ·have hb12:=cond_f hc13 hb12
        refine q_cond_f hF rfl hc13 (q_exit (x_sq ?_))
        obtain rfl:=someI hb12
        exact ⟨nofun,.inl ⟨q46,q48,s48,_,_,rfl,rfl,hF.sub ⟨rfl,rfl,rfl,rfl,rfl,rfl,trivial⟩,hS,h46,h48⟩⟩
       ·have hb12:=cond_t hc13 hb12
        refine q_cond_t hF rfl hc13 (q_skipc (n_sq (q_seq (q_block (q_seq ?_)))))
        obtain ⟨t_54,hj14,hb12⟩:=bindS hb12
        refine q_join (fun a w=>Fr a 110 [(0,(pP b_p_f 0)),(3,(iV (goLen p_f.rows))),(4,(iV (goLen p_f.cols))),(5,s9.v),(6,s48.v),(8,(iV at_39)),(9,(iV e_40)),(10,(iV k_49)),(101,(.bool t_54))]∧St X w0 w m [q46,q48,q5,q6,q7,[⟨b_p_f,[s1.v,s2.v,s3.v,s4.v,s5.v,s6.v,s7.v],150⟩]]) ?_ ?_
        ·refine q_region (q_m hF rfl fun a hF=>q_m hF rfl fun a hF=>?_)
         obtain ⟨e_50,he_50,hj14⟩:=bindS hj14
         obtain ⟨vs51,at51,d51⟩:=h46.at he_50 1 rfl
         obtain rfl : vs51 = [(iV e_50)]:=d51
         refine q_y (v:=(elP s9 (k_49.toNat * 1))) hF hS (ex_indexAddr U28 sz3 rfl rfl (h46.idx he_50)) fun a hF=>q_y (v:=(iV e_50)) hF hS (ex_loadE1 0 U3 rfl rfl (at51.at 0 rfl) rfl rfl) fun a hF=>q_y (v:=(.bool (e_50 == (-2)))) hF hS (ex_ibin rfl rfl rfl) fun a hF=>q_m hF rfl fun a hF=>?_
         rcases bcase (e_50 == (-2)) with hc15 | hc15
         ·have hj14:=cond_f hc15 hj14
          refine q_k hF hc15 fun a hF=>q_k hF hc15 fun a hF=>q_k hF hc15 fun a hF=>q_k hF hc15 fun a hF=>q_k hF hc15 fun a hF=>q_y (v:=(.bool false)) hF hS (ex_pick_f rfl rfl hc15) fun a hF=>q_end (n_jn ?_)
          obtain rfl:=someI hj14
          exact ⟨hF.sub ⟨rfl,rfl,rfl,rfl,rfl,rfl,rfl,rfl,rfl,trivial⟩,hS⟩
         ·have hj14:=cond_t hc15 hj14
          refine q_g (v:=(pP b_p_f 0)) hF hS (ex_move rfl) hc15 fun a hF=>q_g (v:=(iV e_40)) hF hS (ex_move rfl) hc15 fun a hF=>q_g (v:=(iV k_49)) hF hS (ex_move rfl) hc15 fun a hF=>?_
          have hS : St _ _ _ _ [[⟨b_p_f,[s1.v,s2.v,s3.v,s4.v,s5.v,s6.v,s7.v],150⟩],q46,q48,q5,q6,q7]:=hS.sel [5,0,1,2,3,4] (by decide)
          have hS52 : St _ _ _ _ ([[⟨b_p_f,[s1.v,s2.v,s3.v,s4.v,s5.v,s6.v,s7.v],150⟩]]++[q46,q48,q5,q6,q7]):=hS
          obtain ⟨m52,hl52,hE52,hz52⟩:=hS52.lendX
          obtain ⟨t_53,ht_53,hj14⟩:=bindS hj14
          refine q_dog (wanted_t hF rfl rfl rfl hc15) fun _ hK=>wp_callX (vs:=[(pP b_p_f 0),(iV e_40),(iV k_49)]) hF Try.func207 (by kernel_rfl) rfl rfl rfl (c_spec_tFill_room p_f e_40 k_49 t_53 ht_53 _ m52 b_p_f s1 (h1.mono hl52) s2 (h2.mono hl52) s3 (h3.mono hl52) s4 (h4.mono hl52) s5 (h5.froz hl52 (hz52 2 _ rfl)) s6 (h6.froz hl52 (hz52 3 _ rfl)) s7 (h7.froz hl52 (hz52 4 _ rfl)) _ hE52) fun a w _ hR hF=>hK _ _ ?_
          obtain ⟨rfl,hR52⟩:=hR
          have hS : St _ _ _ _ [[⟨b_p_f,[s1.v,s2.v,s3.v,s4.v,s5.v,s6.v,s7.v],150⟩],q46,q48,q5,q6,q7]:=hS52.leaveF hR52
          refine q_g (v:=(.bool (decide (0 < t_53)))) hF hS (ex_ibin rfl rfl rfl) hc15 fun a hF=>q_y (v:=(.bool (decide (0 < t_53)))) hF hS (ex_pick_t rfl rfl hc15) fun a hF=>q_end (n_jn ?_)
          obtain rfl:=someI hj14
          exact ⟨hF.sub ⟨rfl,rfl,rfl,rfl,rfl,rfl,rfl,rfl,rfl,trivial⟩,hS.sel [1,2,3,4,5,0] (by decide)⟩
        ·rintro a w ⟨hF,hS⟩
         refine n_sq ?_
         obtain ⟨j16,hj16,hb12⟩:=bindS hb12
         refine q_join (fun a w=>∃ (q62 : Piece),∃ (q64 : Piece),∃ (s64 : Sl),∃ from_61,∃ queue_63,j16 = (from_61,queue_63)∧Fr a 110 [(0,(pP b_p_f 0)),(3,(iV (goLen p_f.rows))),(4,(iV (goLen p_f.cols))),(5,s9.v),(6,s64.v),(8,(iV at_39)),(9,(iV e_40)),(10,(iV k_49))]∧St X w0 w m [q62,q64,q5,q6,q7,[⟨b_p_f,[s1.v,s2.v,s3.v,s4.v,s5.v,s6.v,s7.v],150⟩]]∧OwnL m 3 q62 s9 from_61∧OwnL m 3 q64 s64 queue_63) ?_ ?_
         ·rcases bcase (t_54) with hc17 | hc17
          ·have hj16:=cond_f hc17 hj16
           refine q_cond_f hF rfl hc17 (q_skipc (n_jn ?_))
           obtain rfl:=someI hj16
           exact ⟨q46,q48,s48,_,_,rfl,hF.sub ⟨rfl,rfl,rfl,rfl,rfl,rfl,rfl,rfl,trivial⟩,hS,h46,h48⟩
          ·have hj16:=cond_t hc17 hj16
           refine q_cond_t hF rfl hc17 (q_sr (q_m hF rfl fun a hF=>q_m hF rfl fun a hF=>q_m hF rfl fun a hF=>?_))
           obtain ⟨e_55,he_55,hj16⟩:=bindS hj16
           obtain ⟨vs56,at56,d56⟩:=h46.at he_55 1 rfl
           obtain rfl : vs56 = [(iV e_55)]:=d56
           refine q_y (v:=(elP s9 (k_49.toNat * 1))) hF hS (ex_indexAddr U28 sz3 rfl rfl (h46.idx he_55)) fun a hF=>q_do rfl fun _ hK=>wp_storeE (e':=e_40) (us:=[(iV e_40)]) (vs:=[(iV e_55)]) 0 hF hS h46 sz3 rfl rfl rfl rfl rfl rfl rfl he_55 at56 rfl rfl rfl fun w q57 hS h57=>hK _ _ (q_end (n_sq (q_region (q_m hF rfl fun a hF=>q_m hF rfl fun a hF=>q_do rfl fun _ hK=>wp_buildSlice' (l:=([k_49] : List Int)) (cells:=[(iV k_49)]) hF hS U28 inf3 rfl rfl (by kernel_rfl) rfl rfl rfl ⟨rfl,rfl⟩ rfl rfl fun a w q58 s58 hF hS h58 _=>hK _ _ ?_))))
           have hS : St _ _ _ _ [q48,q58,q57,q5,q6,q7,[⟨b_p_f,[s1.v,s2.v,s3.v,s4.v,s5.v,s6.v,s7.v],150⟩]]:=hS.sel [2,0,1,3,4,5,6] (by decide)
           obtain ⟨l_59,hl_59,hj16⟩:=bindS hj16
           refine q_do rfl fun _ hK=>wp_append hF hS h48 U28 inf3 rfl rfl rfl rfl (h58.vw hS (j:=1) rfl) rfl (by decide) hl_59 rfl fun a w q60 s60 hF hS h60=>hK _ _ (q_s hF rfl fun a hF=>q_end (n_jn ?_))
           obtain rfl:=someI hj16
           exact ⟨q57,q60,s60,_,_,rfl,hF.sub ⟨rfl,rfl,rfl,rfl,rfl,rfl,rfl,rfl,trivial⟩,hS.sel [2,0,3,4,5,6] (by decide),h57,h60⟩
         ·rintro a w ⟨q62,q64,s64,from_61,queue_63,rfl,hF,hS,h62,h64⟩
          refine n_ib (n_sq ?_)
          refine q_region (q_m hF rfl fun a hF=>q_y (v:=(iV (w64 (k_49 + 1)))) hF hS (ex_ibin rfl rfl rfl) fun a hF=>q_s hF rfl fun a hF=>q_end ?_)
          obtain rfl:=someI hb12
          exact ⟨rfl,q62,q64,s64,_,_,_,rfl,hF.sub ⟨rfl,rfl,rfl,rfl,rfl,rfl,rfl,rfl,trivial⟩,hS,h62,h64⟩
      ·rintro e a w ⟨q66,q68,s68,from_65,queue_67,rfl,rfl,hF,hS,h66,h68⟩
       refine x_ib (n_ib (n_sq ?_))
       refine q_region (q_m hF rfl fun a hF=>q_y (v:=(iV (w64 (at_39 + 1)))) hF hS (ex_ibin rfl rfl rfl) fun a hF=>q_s hF rfl fun a hF=>q_end ?_)
       obtain rfl:=someI hb7
       exact ⟨rfl,q66,q68,s68,_,_,_,rfl,hF.sub ⟨rfl,rfl,rfl,rfl,rfl,rfl,trivial⟩,hS,h66,h68⟩
     ·have hb7:=cond_t hc11 hb7
      refine q_cond_t hF rfl hc11 (q_sr (q_m hF rfl fun a hF=>q_m hF rfl fun a hF=>q_m hF rfl fun a hF=>?_))
      have hS : St _ _ _ _ [[⟨b_p_f,[s1.v,s2.v,s3.v,s4.v,s5.v,s6.v,s7.v],150⟩],q5,q6,q7,q36,q38]:=hS.sel [5,2,3,4,0,1] (by decide)
      have hS45 : St _ _ _ _ ([[⟨b_p_f,[s1.v,s2.v,s3.v,s4.v,s5.v,s6.v,s7.v],150⟩],q5,q6,q7]++[q36,q38]):=hS
      obtain ⟨m45,hl45,hE45,hz45⟩:=hS45.lendX
      obtain ⟨t_46,ht_46,hb7⟩:=bindS hb7
      refine q_do rfl fun _ hK=>wp_callX (vs:=[(pP b_p_f 0),s9.v,(iV e_40)]) hF Try.func206 (by kernel_rfl) rfl rfl rfl (c_spec_tFill_push p_f from_35 e_40 t_46 ht_46 _ m45 b_p_f s1 (h1.mono hl45) s2 (h2.mono hl45) s3 (h3.mono hl45) s4 (h4.mono hl45) s5 q5 (h5.mono hl45) s6 q6 (h6.mono hl45) s7 q7 (h7.mono hl45) s9 (h36.froz hl45 (hz45 0 _ rfl)) _ hE45) fun a w _ hR hF=>hK _ _ ?_
      obtain ⟨q51,q52,q53,s51,s52,s53,rfl,hR45,hk47,hk48,hk49,hk50,h51,h52,h53⟩:=hR
      have hS : St _ _ _ _ [[⟨b_p_f,[s1.v,s2.v,s3.v,s4.v,s51.v,s52.v,s53.v],150⟩],q51,q52,q53,q36,q38]:=hS45.leaveF hR45
      have h51:=h51.any m
      have h52:=h52.any m
      have h53:=h53.any m
      have h47 : Rd m s1 t_46.t.Rows:=by rw [hk47]; exact h1
      have h48 : Rd m s2 t_46.t.Cols:=by rw [hk48]; exact h2
      have h49 : Rd m s3 t_46.t.Lo:=by rw [hk49]; exact h3
      have h50 : Rd m s4 t_46.t.Hi:=by rw [hk50]; exact h4
      refine q_end (n_sq (q_sr (q_s hF rfl fun a hF=>q_end (n_sq (q_ret (r_sq (r_ib (r_sq ?_))))))))
      obtain rfl:=someI hb7
      refine ⟨nofun,.inr fun ho=>?_⟩
      subst ho
      refine r_ib (r_sq ?_)
      obtain rfl:=someI hr
      exact ret_ofX hF hS rfl (.tmp rfl .nil) ⟨q51,q52,q53,s51,s52,s53,rfl,hS.sel [0,1,2,3] (by decide),hk47,hk48,hk49,hk50,h51,h52,h53⟩
  ·rintro e a w ⟨rfl,rfl,hF,hS⟩
   refine x_ib (n_sq ?_)
   refine q_sr (q_s hF rfl fun a hF=>q_end (n_sq (q_ret ?_)))
   obtain rfl:=someI hr
   exact ret_ofX hF hS rfl (.tmp rfl .nil) ⟨q5,q6,q7,s5,s6,s7,rfl,hS.sel [3,0,1,2] (by decide),rfl,rfl,rfl,rfl,h5,h6,h7⟩

theorem c_spec_tFilled (p_t : impl_Transport) (r : spec_tFill × Bool) (hr : spec_tFilled p_t = some r) (w0 : World) (m : Mem) (hv : Vis m w0) (s1 : Sl) (h1 : Rd m s1 p_t.Rows) (s2 : Sl) (h2 : Rd m s2 p_t.Cols) (s3 : Sl) (h3 : Rd m s3 p_t.Lo) (s4 : Sl) (h4 : Rd m s4 p_t.Hi) :
  Ret Try.prog 182 [(.agg #[s1.v,s2.v,s3.v,s4.v])] w0 (fun v w=>∃ (m' : Mem) (b0' : Nat) (q4' : Piece) (q5' : Piece) (q6' : Piece) (s0' : Sl) (s1' : Sl) (s2' : Sl) (s3' : Sl) (s4' : Sl) (s5' : Sl) (s6' : Sl),v = (.tuple #[(.pointer (some ⟨b0',0,none⟩)),(.bool r.2)])∧MLe [] w0.heap.size m m'∧St [] w0 w m' [[⟨b0',[s0'.v,s1'.v,s2'.v,s3'.v,s4'.v,s5'.v,s6'.v],150⟩],q4',q5',q6']∧Rd m' s0' r.1.t.Rows∧Rd m' s1' r.1.t.Cols∧Rd m' s2' r.1.t.Lo∧Rd m' s3' r.1.t.Hi∧OwnD m' 28 3 q4' s4' r.1.x∧OwnL m' 3 q5' s5' r.1.rows∧OwnL m' 3 q6' s6' r.1.cols):=by
 unfold spec_tFilled at hr
 refine ret_start Try.func182 rfl 17 rfl rfl m hv fun a hF hS=>q_sr (q_box (cs:=[s1.v,s2.v,s3.v,s4.v]) hF hS rfl rfl rfl fun a w b5 hF hS=>q_s hF rfl fun a hF=>q_s hF rfl fun a hF=>q_end (n_sq (q_sr (q_y (v:=(.agg #[s1.v,s2.v,s3.v,s4.v])) hF hS (ex_loadA (vs:=[s1.v,s2.v,s3.v,s4.v]) 0 0 U50 rfl sz50 rfl rfl rfl rfl) fun a hF=>?_))))
 obtain ⟨t_6,ht_6,hr⟩:=bindS hr
 refine q_call (vs:=[(.agg #[s1.v,s2.v,s3.v,s4.v])]) hF hS Try.func198 (by kernel_rfl) rfl rfl rfl (c_spec_tStart p_t t_6 ht_6 _ m hS.vis s1 h1 s2 h2 s3 h3 s4 h4) ?_
 have hT:=hS
 rintro a w _ ⟨m7,b15,q12,q13,q14,s8,s9,s10,s11,s12,s13,s14,rfl,hm7,hR7,h8,h9,h10,h11,h12,h13,h14⟩ hF hS2
 have hS : St _ _ _ _ [[⟨b15,[s8.v,s9.v,s10.v,s11.v,s12.v,s13.v,s14.v],150⟩],q12,q13,q14,[⟨b5,[s1.v,s2.v,s3.v,s4.v],50⟩]]:=hS.join hR7 hm7
 have hm7:=MLe.weakX (O0:=[]) hT hm7
 refine q_m hF rfl fun a hF=>q_y (v:=(pP b15 0)) hF hS (ex_extract rfl rfl) fun a hF=>q_y (v:=(.bool t_6.2)) hF hS (ex_extract rfl rfl) fun a hF=>q_s hF rfl fun a hF=>q_s hF rfl fun a hF=>q_end (n_sq (q_seq (q_sr (q_m hF rfl fun a hF=>q_y (v:=(.bool (!t_6.2))) hF hS (ex_not rfl) fun a hF=>q_end (n_sq ?_)))))
 rcases bcase (!t_6.2) with hc1 | hc1
 ·have hr:=cond_f hc1 hr
  refine q_cond_f hF rfl hc1 (q_skipc (n_sq (q_seq (q_block ?_))))
  obtain ⟨f_33,hl2,hr⟩:=bindS hr
  refine q_loop (fun (f_16 : spec_tFill) a w=>∃ (q21 : Piece),∃ (s21 : Sl),∃ (q22 : Piece),∃ (s22 : Sl),∃ (q23 : Piece),∃ (s23 : Sl),Fr a 17 [(4,(pP b15 0))]∧St [] w0 w m7 [q21,q22,q23,[⟨b15,[s8.v,s9.v,s10.v,s11.v,s21.v,s22.v,s23.v],150⟩]]∧Rd m7 s8 f_16.t.Rows∧f_16.t.Rows = t_6.1.t.Rows∧Rd m7 s9 f_16.t.Cols∧f_16.t.Cols = t_6.1.t.Cols∧Rd m7 s10 f_16.t.Lo∧f_16.t.Lo = t_6.1.t.Lo∧Rd m7 s11 f_16.t.Hi∧f_16.t.Hi = t_6.1.t.Hi∧OwnD m7 28 3 q21 s21 f_16.x∧OwnL m7 3 q22 s22 f_16.rows∧OwnL m7 3 q23 s23 f_16.cols) (fun (f_33 : spec_tFill) e a w=>∃ (q38 : Piece),∃ (s38 : Sl),∃ (q39 : Piece),∃ (s39 : Sl),∃ (q40 : Piece),∃ (s40 : Sl),e = .exit 0∧Fr a 17 [(4,(pP b15 0))]∧St [] w0 w m7 [q38,q39,q40,[⟨b15,[s8.v,s9.v,s10.v,s11.v,s38.v,s39.v,s40.v],150⟩]]∧Rd m7 s8 f_33.t.Rows∧f_33.t.Rows = t_6.1.t.Rows∧Rd m7 s9 f_33.t.Cols∧f_33.t.Cols = t_6.1.t.Cols∧Rd m7 s10 f_33.t.Lo∧f_33.t.Lo = t_6.1.t.Lo∧Rd m7 s11 f_33.t.Hi∧f_33.t.Hi = t_6.1.t.Hi∧OwnD m7 28 3 q38 s38 f_33.x∧OwnL m7 3 q39 s39 f_33.rows∧OwnL m7 3 q40 s40 f_33.cols) hl2 ⟨q12,s12,q13,s13,q14,s14,hF.sub ⟨rfl,trivial⟩,hS.sel [1,2,3,0] (by decide),h8,rfl,h9,rfl,h10,rfl,h11,rfl,h12,h13,h14⟩ ?_ ?_
  ·clear hF hS
   rintro f_16 a w st ⟨q21,s21,q22,s22,q23,s23,hF,hS,h17,h17k,h18,h18k,h19,h19k,h20,h20k,h21,h22,h23⟩ hb2
   unfold spec_tFilled_l1 at hb2
   refine q_seq (q_sr (q_m hF rfl fun a hF=>?_))
   have hS : St _ _ _ _ [[⟨b15,[s8.v,s9.v,s10.v,s11.v,s21.v,s22.v,s23.v],150⟩],q21,q22,q23]:=hS.sel [3,0,1,2] (by decide)
   have hS24 : St _ _ _ _ ([[⟨b15,[s8.v,s9.v,s10.v,s11.v,s21.v,s22.v,s23.v],150⟩],q21,q22,q23]++[]):=hS
   have hE24:=hS24.enter
   obtain ⟨t_25,ht_25,hb2⟩:=bindS hb2
   refine q_do rfl fun _ hK=>wp_callX (vs:=[(pP b15 0)]) hF Try.func199 (by kernel_rfl) rfl rfl rfl (c_spec_tFill_augment f_16 t_25 ht_25 _ m7 b15 s8 h17 s9 h18 s10 h19 s11 h20 s21 q21 h21 s22 q22 h22 s23 q23 h23 _ hE24) fun a w _ hR hF=>hK _ _ ?_
   obtain ⟨q30,q31,q32,s30,s31,s32,rfl,hR24,hk26,hk27,hk28,hk29,h30,h31,h32⟩:=hR
   have hS : St _ _ _ _ [[⟨b15,[s8.v,s9.v,s10.v,s11.v,s30.v,s31.v,s32.v],150⟩],q30,q31,q32]:=hS24.leaveF hR24
   have h26 : Rd m7 s8 t_25.2.t.Rows:=by rw [hk26]; exact h17
   have h27 : Rd m7 s9 t_25.2.t.Cols:=by rw [hk27]; exact h18
   have h28 : Rd m7 s10 t_25.2.t.Lo:=by rw [hk28]; exact h19
   have h29 : Rd m7 s11 t_25.2.t.Hi:=by rw [hk29]; exact h20
   refine q_end (n_sq ?_)
   rcases bcase (t_25.1) with hc3 | hc3
   ·have hb2:=cond_f hc3 hb2
    refine q_cond_f hF rfl hc3 (q_exit (x_sq ?_))
    obtain rfl:=someI hb2
    exact ⟨nofun,.inl ⟨q30,s30,q31,s31,q32,s32,rfl,hF.sub ⟨rfl,trivial⟩,hS.sel [1,2,3,0] (by decide),h26,(hk26.trans h17k),h27,(hk27.trans h18k),h28,(hk28.trans h19k),h29,(hk29.trans h20k),h30,h31,h32⟩⟩
   ·have hb2:=cond_t hc3 hb2
    refine q_cond_t hF rfl hc3 (q_skipc (n_sq (q_block (q_skipc (n_ib ?_)))))
    obtain rfl:=someI hb2
    exact ⟨rfl,q30,s30,q31,s31,q32,s32,hF.sub ⟨rfl,trivial⟩,hS.sel [1,2,3,0] (by decide),h26,(hk26.trans h17k),h27,(hk27.trans h18k),h28,(hk28.trans h19k),h29,(hk29.trans h20k),h30,h31,h32⟩
  ·rintro e a w ⟨q38,s38,q39,s39,q40,s40,rfl,hF,hS,h34,h34k,h35,h35k,h36,h36k,h37,h37k,h38,h39,h40⟩
   refine x_ib (n_sq ?_)
   refine q_sr (q_m hF rfl fun a hF=>q_s hF rfl fun a hF=>q_s hF rfl fun a hF=>q_end (n_sq (q_ret ?_)))
   obtain rfl:=someI hr
   exact ret_of hF hS rfl (.tmp rfl (.tmp rfl .nil)) ⟨m7,b15,q38,q39,q40,s8,s9,s10,s11,s38,s39,s40,rfl,hm7,hS.sel [3,0,1,2] (by decide),h34,h35,h36,h37,h38,h39,h40⟩
 ·have hr:=cond_t hc1 hr
  refine q_cond_t hF rfl hc1 (q_sr (q_m hF rfl fun a hF=>q_s hF rfl fun a hF=>q_s hF rfl fun a hF=>q_end (n_sq (q_ret (r_sq ?_)))))
  obtain rfl:=someI hr
  exact ret_of hF hS rfl (.tmp rfl (.tmp rfl .nil)) ⟨m7,b15,q12,q13,q14,s8,s9,s10,s11,s12,s13,s14,rfl,hm7,hS.sel [0,1,2,3] (by decide),h8,h9,h10,h11,h12,h13,h14⟩

theorem c_spec_tFeasible (p_t : impl_Transport) (r : (List (List Int)) × Bool) (hr : spec_tFeasible p_t = some r) (w0 : World) (m : Mem) (hv : Vis m w0) (s1 : Sl) (h1 : Rd m s1 p_t.Rows) (s2 : Sl) (h2 : Rd m s2 p_t.Cols) (s3 : Sl) (h3 : Rd m s3 p_t.Lo) (s4 : Sl) (h4 : Rd m s4 p_t.Hi) :
  Ret Try.prog 158 [(.agg #[s1.v,s2.v,s3.v,s4.v])] w0 (fun v w=>∃ (m' : Mem) (q0' : Piece) (s0' : Sl),v = (.tuple #[s0'.v,(.bool r.2)])∧MLe [] w0.heap.size m m'∧St [] w0 w m' [q0']∧OwnD m' 28 3 q0' s0' r.1):=by
 unfold spec_tFeasible at hr
 refine ret_start Try.func158 rfl 32 rfl rfl m hv fun a hF hS=>q_sr (q_box (cs:=[s1.v,s2.v,s3.v,s4.v]) hF hS rfl rfl rfl fun a w b5 hF hS=>q_s hF rfl fun a hF=>q_s hF rfl fun a hF=>q_end (n_sq (q_seq (q_seq (e_region ⟨[],[],m⟩ mixed fun w' hw'=>?_)))))
 have hS:=hS.below hw'
 refine e_P (v:=(pP b5 0)) 0 hF rfl (ex_fieldAddr U50 rfl sz28 rfl rfl) fun a hF=>e_X (v:=s1.v) 1 hF hS rfl (ex_load1 0 0 U28 rfl rfl rfl rfl) fun a hF=>e_P (v:=(pP b5 1)) 3 hF rfl (ex_fieldAddr U50 rfl sz28 rfl rfl) fun a hF=>e_X (v:=s2.v) 4 hF hS rfl (ex_load1 0 0 U28 rfl rfl rfl rfl) fun a hF=>e_one 2 (by kernel_rfl) ?_
 obtain ⟨t_8,ht_8,hr⟩:=bindS hr
 refine e_call (vs:=[s1.v]) hF hS rfl Try.func83 (by kernel_rfl) rfl rfl rfl (c_spec_tSum p_t.Rows t_8 ht_8 _ m hS.vis s1 h1) ?_
 rintro a w _ rfl hF hS
 refine e_one 5 (by kernel_rfl) ?_
 obtain ⟨t_9,ht_9,hr⟩:=bindS hr
 refine e_call (vs:=[s2.v]) hF hS rfl Try.func83 (by kernel_rfl) rfl rfl rfl (c_spec_tSum p_t.Cols t_9 ht_9 _ m hS.vis s2 h2) ?_
 rintro a w _ rfl hF hS
 refine e_P (v:=(.bool (t_8 != t_9))) 6 hF rfl (ex_ibin rfl rfl rfl) fun a hF=>e_end (by kernel_rfl) (n_sq ?_) _
 rcases bcase (t_8 != t_9) with hc1 | hc1
 ·have hr:=cond_f hc1 hr
  refine q_cond_f hF rfl hc1 (q_skipc (n_sq (q_sr (q_y (v:=(.agg #[s1.v,s2.v,s3.v,s4.v])) hF hS (ex_loadA (vs:=[s1.v,s2.v,s3.v,s4.v]) 0 0 U50 rfl sz50 rfl rfl rfl rfl) fun a hF=>?_))))
  obtain ⟨t_10,ht_10,hr⟩:=bindS hr
  refine q_call (vs:=[(.agg #[s1.v,s2.v,s3.v,s4.v])]) hF hS Try.func182 (by kernel_rfl) rfl rfl rfl (c_spec_tFilled p_t t_10 ht_10 _ m hS.vis s1 h1 s2 h2 s3 h3 s4 h4) ?_
  have hT:=hS
  rintro a w _ ⟨m11,b19,q16,q17,q18,s12,s13,s14,s15,s16,s17,s18,rfl,hm11,hR11,h12,h13,h14,h15,h16,h17,h18⟩ hF hS2
  have hS : St _ _ _ _ [[⟨b19,[s12.v,s13.v,s14.v,s15.v,s16.v,s17.v,s18.v],150⟩],q16,q17,q18,[⟨b5,[s1.v,s2.v,s3.v,s4.v],50⟩]]:=hS.join hR11 hm11
  have hm11:=MLe.weakX (O0:=[]) hT hm11
  refine q_m hF rfl fun a hF=>q_y (v:=(pP b19 0)) hF hS (ex_extract rfl rfl) fun a hF=>q_y (v:=(.bool t_10.2)) hF hS (ex_extract rfl rfl) fun a hF=>q_s hF rfl fun a hF=>q_s hF rfl fun a hF=>q_end (n_sq (q_seq (q_seq ?_)))
  obtain ⟨t_22,hj2,hr⟩:=bindS hr
  refine q_join (fun a w=>Fr a 32 [(4,(pP b19 0)),(27,(.bool t_22))]∧St [] w0 w m11 [q16,q17,q18,[⟨b19,[s12.v,s13.v,s14.v,s15.v,s16.v,s17.v,s18.v],150⟩]]) ?_ ?_
  ·refine q_region (q_m hF rfl fun a hF=>q_y (v:=(.bool (!t_10.2))) hF hS (ex_not rfl) fun a hF=>q_m hF rfl fun a hF=>?_)
   rcases bcase (!t_10.2) with hc3 | hc3
   ·have hj2:=cond_f hc3 hj2
    refine q_g (v:=(pP b19 0)) hF hS (ex_move rfl) hc3 fun a hF=>q_g (v:=(pP b19 0)) hF hS (ex_nilCheck rfl) hc3 fun a hF=>q_g (v:=(pP b19 5)) hF hS (ex_fieldAddr U150 rfl sz28 rfl rfl) hc3 fun a hF=>q_g (v:=s17.v) hF hS (ex_load1 0 0 U28 rfl rfl rfl rfl) hc3 fun a hF=>?_
    obtain ⟨m21,hl21,hv21,hz21⟩:=hS.lend
    obtain ⟨t_20,ht_20,hj2⟩:=bindS hj2
    refine q_callg (vs:=[s17.v]) hF hS (wanted_t hF rfl rfl rfl hc3) Try.func83 (by kernel_rfl) rfl rfl rfl (c_spec_tSum t_10.1.rows t_20 ht_20 _ m21 hv21 s17 (h17.froz hl21 (hz21 2 _ rfl))) ?_
    rintro a w _ rfl hF hS
    refine q_g (v:=(.bool (decide (0 < t_20)))) hF hS (ex_ibin rfl rfl rfl) hc3 fun a hF=>q_y (v:=(.bool (decide (0 < t_20)))) hF hS (ex_pick_f rfl rfl hc3) fun a hF=>q_end (n_jn ?_)
    obtain rfl:=someI hj2
    exact ⟨hF.sub ⟨rfl,rfl,trivial⟩,hS.sel [1,2,3,0] (by decide)⟩
   ·have hj2:=cond_t hc3 hj2
    refine q_k hF hc3 fun a hF=>q_k hF hc3 fun a hF=>q_k hF hc3 fun a hF=>q_k hF hc3 fun a hF=>q_k hF hc3 fun a hF=>q_k hF hc3 fun a hF=>q_y (v:=(.bool true)) hF hS (ex_pick_t rfl rfl hc3) fun a hF=>q_end (n_jn ?_)
    obtain rfl:=someI hj2
    exact ⟨hF.sub ⟨rfl,rfl,trivial⟩,hS.sel [1,2,3,0] (by decide)⟩
  ·rintro a w ⟨hF,hS⟩
   refine n_sq ?_
   rcases bcase (t_22) with hc4 | hc4
   ·have hr:=cond_f hc4 hr
    refine q_cond_f hF rfl hc4 (q_skipc (n_sq (q_sr (q_m hF rfl fun a hF=>q_y (v:=(pP b19 0)) hF hS (ex_nilCheck rfl) fun a hF=>q_y (v:=(pP b19 4)) hF hS (ex_fieldAddr U150 rfl sz23 rfl rfl) fun a hF=>q_y (v:=s16.v) hF hS (ex_load1 3 0 U23 rfl rfl rfl rfl) fun a hF=>q_s hF rfl fun a hF=>q_s hF rfl fun a hF=>q_end (n_sq (q_ret ?_))))))
    obtain rfl:=someI hr
    exact ret_of hF hS rfl (.tmp rfl (.tmp rfl .nil)) ⟨m11,q16,s16,rfl,hm11,hS.sel [0] (by decide),h16⟩
   ·have hr:=cond_t hc4 hr
    refine q_cond_t hF rfl hc4 (q_sr (q_s hF rfl fun a hF=>q_s hF rfl fun a hF=>q_end (n_sq (q_ret (r_sq ?_)))))
    obtain rfl:=someI hr
    exact ret_of hF hS rfl (.tmp rfl (.tmp rfl .nil)) ⟨m11,[],nilS,rfl,hm11,hS.sel [4] (by decide),(OwnD.nil (β:=Int) m11 28 3)⟩
 ·have hr:=cond_t hc1 hr
  refine q_cond_t hF rfl hc1 (q_sr (q_s hF rfl fun a hF=>q_s hF rfl fun a hF=>q_end (n_sq (q_ret (r_sq ?_)))))
  obtain rfl:=someI hr
  exact ret_of hF hS rfl (.tmp rfl (.tmp rfl .nil)) ⟨m,[],nilS,rfl,(MLe.refl _ _),hS.sel [1] (by decide),(OwnD.nil (β:=Int) m 28 3)⟩

theorem c_spec_tWith (p_t : impl_Transport) (p_i : Int) (p_j : Int) (p_lo : Int) (p_hi : Int) (r : impl_Transport) (hr : spec_tWith p_t p_i p_j p_lo p_hi = some r) (w0 : World) (m : Mem) (hv : Vis m w0) (s1 : Sl) (h1 : Rd m s1 p_t.Rows) (s2 : Sl) (h2 : Rd m s2 p_t.Cols) (s3 : Sl) (h3 : Rd m s3 p_t.Lo) (s4 : Sl) (h4 : Rd m s4 p_t.Hi) :
  Ret Try.prog 121 [(.agg #[s1.v,s2.v,s3.v,s4.v]),(iV p_i),(iV p_j),(iV p_lo),(iV p_hi)] w0 (fun v w=>∃ (m' : Mem) (q2' : Piece) (q3' : Piece) (s0' : Sl) (s1' : Sl) (s2' : Sl) (s3' : Sl),v = (.agg #[s0'.v,s1'.v,s2'.v,s3'.v])∧MLe [] w0.heap.size m m'∧St [] w0 w m' [q2',q3']∧Rd m' s0' r.Rows∧Rd m' s1' r.Cols∧OwnD m' 28 3 q2' s2' r.Lo∧OwnD m' 28 3 q3' s3' r.Hi):=by
 unfold spec_tWith at hr
 refine ret_start Try.func121 rfl 40 rfl rfl m hv fun a hF hS=>q_sr (q_box (cs:=[s1.v,s2.v,s3.v,s4.v]) hF hS rfl rfl rfl fun a w b5 hF hS=>q_alloc (cs:=[nilS.v,nilS.v,nilS.v,nilS.v]) hF hS rfl rfl rfl fun a w b6 hF hS=>q_end (n_sq (q_seq ?_)))
 obtain ⟨out_23,hj1,hr⟩:=bindS hr
 refine q_join (fun a w=>∃ b22,∃ (q26 : Piece),∃ (s26 : Sl),∃ (q27 : Piece),∃ (s27 : Sl),Fr a 40 [(1,(iV p_i)),(2,(iV p_j)),(3,(iV p_lo)),(4,(iV p_hi)),(10,(pP b6 0)),(11,(pP b22 0))]∧St [] w0 w m [q26,q27,[⟨b22,[s1.v,s2.v,s26.v,s27.v],50⟩],[⟨b6,[nilS.v,nilS.v,nilS.v,nilS.v],50⟩]]∧Rd m s1 out_23.Rows∧Rd m s2 out_23.Cols∧OwnD m 28 3 q26 s26 out_23.Lo∧OwnD m 28 3 q27 s27 out_23.Hi) ?_ ?_
 ·refine e_region ⟨[12],[b5],m⟩ mixed fun w' hw'=>?_
  have hS:=hS.below hw'
  refine e_P (v:=(pP b5 0)) 0 hF rfl (ex_fieldAddr U50 rfl sz28 rfl rfl) fun a hF=>e_xb (v:=s1.v) 1 1 hF hS (.head _) rfl rfl (ex_load1 0 0 U28 rfl rfl rfl rfl) rfl rfl (by kernel_rfl) (by kernel_rfl) (by kernel_rfl) fun a hF=>e_P (v:=(pP b5 1)) 2 hF rfl (ex_fieldAddr U50 rfl sz28 rfl rfl) fun a hF=>e_xb (v:=s2.v) 3 1 hF hS (.head _) rfl rfl (ex_load1 0 0 U28 rfl rfl rfl rfl) rfl rfl (by kernel_rfl) (by kernel_rfl) (by kernel_rfl) fun a hF=>e_P (v:=(pP b5 2)) 4 hF rfl (ex_fieldAddr U50 rfl sz23 rfl rfl) fun a hF=>e_xb (v:=s3.v) 5 1 hF hS (.head _) rfl rfl (ex_load1 0 0 U23 rfl rfl rfl rfl) rfl rfl (by kernel_rfl) (by kernel_rfl) (by kernel_rfl) fun a hF=>e_P (v:=(pP b5 3)) 7 hF rfl (ex_fieldAddr U50 rfl sz23 rfl rfl) fun a hF=>e_xb (v:=s4.v) 8 1 hF hS (.head _) rfl rfl (ex_load1 0 0 U23 rfl rfl rfl rfl) rfl rfl (by kernel_rfl) (by kernel_rfl) (by kernel_rfl) fun a hF=>?_
  obtain ⟨t_16,ht_16,hj1⟩:=bindS hj1
  obtain ⟨t_19,ht_19,hj1⟩:=bindS hj1
  refine e_all [6,11] (by kernel_rfl) rfl ⟨?_,?_,trivial⟩
  ·refine e_call (vs:=[s3.v]) hF hS rfl Try.func145 (by kernel_rfl) rfl rfl rfl (c_spec_tOwn p_t.Lo t_16 ht_16 _ m hS.vis s3 h3) ?_
   rintro a w _ ⟨q18,s18,rfl,hR17,h18⟩ hF hS2
   have hS : St _ _ _ _ [q18,[⟨b6,[nilS.v,nilS.v,nilS.v,nilS.v],50⟩],[⟨b5,[s1.v,s2.v,s3.v,s4.v],50⟩]]:=hS.joinF hR17
   refine e_all [9,11] (by kernel_rfl) rfl ⟨?_,?_,trivial⟩
   ·refine e_call (vs:=[s4.v]) hF hS rfl Try.func145 (by kernel_rfl) rfl rfl rfl (c_spec_tOwn p_t.Hi t_19 ht_19 _ m hS.vis s4 h4) ?_
    rintro a w _ ⟨q21,s21,rfl,hR20,h21⟩ hF hS2
    have hS : St _ _ _ _ [q21,q18,[⟨b6,[nilS.v,nilS.v,nilS.v,nilS.v],50⟩],[⟨b5,[s1.v,s2.v,s3.v,s4.v],50⟩]]:=hS.joinF hR20
    refine e_P (v:=(.agg #[s1.v,s2.v,s18.v,s21.v])) 10 hF rfl (ex_build (cells:=[s1.v,s2.v,s18.v,s21.v]) rfl (by kernel_rfl)) fun a hF=>e_one 11 (by kernel_rfl) (e_alloc (cs:=[nilS.v,nilS.v,nilS.v,nilS.v]) hF hS rfl rfl rfl rfl fun a w b22 hF hS=>e_one 12 (by kernel_rfl) ?_)
    have hSo:=hS
    refine e_store (vs:=[s1.v,s2.v,s18.v,s21.v]) (cs':=[s1.v,s2.v,s18.v,s21.v]) 0 0 hF hS rfl rfl sz50 rfl rfl rfl rfl rfl rfl rfl rfl fun a w hF hS=>⟨⟨kpC hSo hS 4 4 rfl rfl kpN,fun _=>hS.vis.of_le (Mem.le.refl _)⟩,?_⟩
    refine e_end (by kernel_rfl) (n_jn ?_) _
    obtain rfl:=someI hj1
    exact ⟨b22,q18,s18,q21,s21,hF.sub ⟨rfl,rfl,rfl,rfl,rfl,rfl,trivial⟩,hS.sel [2,1,0,3] (by decide),h1,h2,h18,h21⟩
   ·refine e_alloc (cs:=[nilS.v,nilS.v,nilS.v,nilS.v]) hF hS rfl rfl rfl rfl fun a w b22 hF hS=>e_one 9 (by kernel_rfl) (e_call (vs:=[s4.v]) hF hS rfl Try.func145 (by kernel_rfl) rfl rfl rfl (c_spec_tOwn p_t.Hi t_19 ht_19 _ m hS.vis s4 h4) ?_)
    rintro a w _ ⟨q21,s21,rfl,hR20,h21⟩ hF hS2
    have hS : St _ _ _ _ [q21,[⟨b22,[nilS.v,nilS.v,nilS.v,nilS.v],50⟩],q18,[⟨b6,[nilS.v,nilS.v,nilS.v,nilS.v],50⟩],[⟨b5,[s1.v,s2.v,s3.v,s4.v],50⟩]]:=hS.joinF hR20
    refine e_P (v:=(.agg #[s1.v,s2.v,s18.v,s21.v])) 10 hF rfl (ex_build (cells:=[s1.v,s2.v,s18.v,s21.v]) rfl (by kernel_rfl)) fun a hF=>e_one 12 (by kernel_rfl) ?_
    have hSo:=hS
    refine e_store (vs:=[s1.v,s2.v,s18.v,s21.v]) (cs':=[s1.v,s2.v,s18.v,s21.v]) 1 0 hF hS rfl rfl sz50 rfl rfl rfl rfl rfl rfl rfl rfl fun a w hF hS=>⟨⟨kpC hSo hS 4 4 rfl rfl kpN,fun _=>hS.vis.of_le (Mem.le.refl _)⟩,?_⟩
    refine e_end (by kernel_rfl) (n_jn ?_) _
    obtain rfl:=someI hj1
    exact ⟨b22,q18,s18,q21,s21,hF.sub ⟨rfl,rfl,rfl,rfl,rfl,rfl,trivial⟩,hS.sel [2,0,1,3] (by decide),h1,h2,h18,h21⟩
  ·refine e_alloc (cs:=[nilS.v,nilS.v,nilS.v,nilS.v]) hF hS rfl rfl rfl rfl fun a w b22 hF hS=>e_one 6 (by kernel_rfl) (e_call (vs:=[s3.v]) hF hS rfl Try.func145 (by kernel_rfl) rfl rfl rfl (c_spec_tOwn p_t.Lo t_16 ht_16 _ m hS.vis s3 h3) ?_)
   rintro a w _ ⟨q18,s18,rfl,hR17,h18⟩ hF hS2
   have hS : St _ _ _ _ [q18,[⟨b22,[nilS.v,nilS.v,nilS.v,nilS.v],50⟩],[⟨b6,[nilS.v,nilS.v,nilS.v,nilS.v],50⟩],[⟨b5,[s1.v,s2.v,s3.v,s4.v],50⟩]]:=hS.joinF hR17
   refine e_one 9 (by kernel_rfl) (e_call (vs:=[s4.v]) hF hS rfl Try.func145 (by kernel_rfl) rfl rfl rfl (c_spec_tOwn p_t.Hi t_19 ht_19 _ m hS.vis s4 h4) ?_)
   rintro a w _ ⟨q21,s21,rfl,hR20,h21⟩ hF hS2
   have hS : St _ _ _ _ [q21,q18,[⟨b22,[nilS.v,nilS.v,nilS.v,nilS.v],50⟩],[⟨b6,[nilS.v,nilS.v,nilS.v,nilS.v],50⟩],[⟨b5,[s1.v,s2.v,s3.v,s4.v],50⟩]]:=hS.joinF hR20
   refine e_P (v:=(.agg #[s1.v,s2.v,s18.v,s21.v])) 10 hF rfl (ex_build (cells:=[s1.v,s2.v,s18.v,s21.v]) rfl (by kernel_rfl)) fun a hF=>e_one 12 (by kernel_rfl) ?_
   have hSo:=hS
   refine e_store (vs:=[s1.v,s2.v,s18.v,s21.v]) (cs':=[s1.v,s2.v,s18.v,s21.v]) 2 0 hF hS rfl rfl sz50 rfl rfl rfl rfl rfl rfl rfl rfl fun a w hF hS=>⟨⟨kpC hSo hS 4 4 rfl rfl kpN,fun _=>hS.vis.of_le (Mem.le.refl _)⟩,?_⟩
   refine e_end (by kernel_rfl) (n_jn ?_) _
   obtain rfl:=someI hj1
   exact ⟨b22,q18,s18,q21,s21,hF.sub ⟨rfl,rfl,rfl,rfl,rfl,rfl,trivial⟩,hS.sel [1,0,2,3] (by decide),h1,h2,h18,h21⟩
 ·rintro a w ⟨b22,q26,s26,q27,s27,hF,hS,h24,h25,h26,h27⟩
  refine n_sq ?_
  refine q_sr (q_y (v:=(pP b22 2)) hF hS (ex_fieldAddr U50 rfl sz23 rfl rfl) fun a hF=>q_y (v:=s26.v) hF hS (ex_load1 2 0 U23 rfl rfl rfl rfl) fun a hF=>q_m hF rfl fun a hF=>?_)
  obtain ⟨e_28,he_28,hr⟩:=bindS hr
  obtain ⟨s29,hV29⟩:=h26.view he_28
  refine q_y (v:=(elP s26 (p_i.toNat * 1))) hF hS (ex_indexAddr U23 sz28 rfl rfl (h26.idx he_28)) fun a hF=>q_y (v:=s29.v) hF hS (ex_loadE1 0 U28 rfl rfl ((hV29.atH he_28).at 0 rfl) rfl rfl) fun a hF=>q_m hF rfl fun a hF=>q_m hF rfl fun a hF=>?_
  obtain ⟨e_30,he_30,hr⟩:=bindS hr
  obtain ⟨vs31,at31,d31⟩:=hV29.at he_28 he_30 1 rfl
  obtain rfl : vs31 = [(iV e_30)]:=d31
  refine q_y (v:=(elP s29 (p_j.toNat * 1))) hF hS (ex_indexAddr U28 sz3 rfl rfl (hV29.idx he_28 he_30)) fun a hF=>q_do rfl fun _ hK=>wp_storeV (e':=p_lo) (us:=[(iV p_lo)]) (vs:=[(iV e_30)]) 0 hF hS hV29 he_28 sz3 rfl rfl rfl rfl rfl rfl rfl he_30 at31 rfl rfl rfl fun w q32 hS h32=>hK _ _ (q_end (n_sq (q_sr (q_y (v:=(pP b22 3)) hF hS (ex_fieldAddr U50 rfl sz23 rfl rfl) fun a hF=>q_y (v:=s27.v) hF hS (ex_load1 2 0 U23 rfl rfl rfl rfl) fun a hF=>q_m hF rfl fun a hF=>?_))))
  obtain ⟨e_33,he_33,hr⟩:=bindS hr
  obtain ⟨s34,hV34⟩:=h27.view he_33
  refine q_y (v:=(elP s27 (p_i.toNat * 1))) hF hS (ex_indexAddr U23 sz28 rfl rfl (h27.idx he_33)) fun a hF=>q_y (v:=s34.v) hF hS (ex_loadE1 0 U28 rfl rfl ((hV34.atH he_33).at 1 rfl) rfl rfl) fun a hF=>q_m hF rfl fun a hF=>q_m hF rfl fun a hF=>?_
  obtain ⟨e_35,he_35,hr⟩:=bindS hr
  obtain ⟨vs36,at36,d36⟩:=hV34.at he_33 he_35 1 rfl
  obtain rfl : vs36 = [(iV e_35)]:=d36
  refine q_y (v:=(elP s34 (p_j.toNat * 1))) hF hS (ex_indexAddr U28 sz3 rfl rfl (hV34.idx he_33 he_35)) fun a hF=>?_
  have hS : St _ _ _ _ [q27,q32,[⟨b22,[s1.v,s2.v,s26.v,s27.v],50⟩],[⟨b6,[nilS.v,nilS.v,nilS.v,nilS.v],50⟩]]:=hS.sel [1,0,2,3] (by decide)
  refine q_do rfl fun _ hK=>wp_storeV (e':=p_hi) (us:=[(iV p_hi)]) (vs:=[(iV e_35)]) 0 hF hS hV34 he_33 sz3 rfl rfl rfl rfl rfl rfl rfl he_35 at36 rfl rfl rfl fun w q37 hS h37=>hK _ _ (q_end (n_sq (q_sr (q_y (v:=(.agg #[s1.v,s2.v,s26.v,s27.v])) hF hS (ex_loadA (vs:=[s1.v,s2.v,s26.v,s27.v]) 2 0 U50 rfl sz50 rfl rfl rfl rfl) fun a hF=>q_store (vs:=[s1.v,s2.v,s26.v,s27.v]) (cs':=[s1.v,s2.v,s26.v,s27.v]) 3 0 hF hS sz50 rfl rfl rfl rfl rfl rfl rfl rfl fun a w hF hS=>q_end (n_sq (q_ret ?_))))))
  obtain rfl:=someI hr
  exact ret_of hF hS rfl (.cellA (us:=[s1.v,s2.v,s26.v,s27.v]) 3 0 U50 rfl sz50 rfl rfl rfl rfl .nil) ⟨m,q32,q37,s1,s2,s26,s27,rfl,(MLe.refl _ _),hS.sel [1,0] (by decide),h24,h25,h32.own,h37.own⟩

theorem c_spec_tLow (p_t : impl_Transport) (p_i : Int) (p_j : Int) (r : Int) (hr : spec_tLow p_t p_i p_j = some r) (w0 : World) (m : Mem) (hv : Vis m w0) (s1 : Sl) (h1 : Rd m s1 p_t.Rows) (s2 : Sl) (h2 : Rd m s2 p_t.Cols) (s3 : Sl) (h3 : Rd m s3 p_t.Lo) (s4 : Sl) (h4 : Rd m s4 p_t.Hi) :
  Ret Try.prog 164 [(.agg #[s1.v,s2.v,s3.v,s4.v]),(iV p_i),(iV p_j)] w0 (fun v _=>v = (iV r)):=by
 unfold spec_tLow at hr
 refine ret_start Try.func164 rfl 57 rfl rfl m hv fun a hF hS=>q_sr (q_box (cs:=[s1.v,s2.v,s3.v,s4.v]) hF hS rfl rfl rfl fun a w b5 hF hS=>q_s hF rfl fun a hF=>q_end (n_sq (q_seq (e_region ⟨[],[],m⟩ mixed fun w' hw'=>?_))))
 have hS:=hS.below hw'
 refine e_P (v:=(pP b5 2)) 0 hF rfl (ex_fieldAddr U50 rfl sz23 rfl rfl) fun a hF=>e_X (v:=s3.v) 1 hF hS rfl (ex_load1 0 0 U23 rfl rfl rfl rfl) fun a hF=>e_P (v:=(iV p_i)) 2 hF rfl (ex_move rfl) fun a hF=>?_
 obtain ⟨e_6,he_6,hr⟩:=bindS hr
 obtain ⟨vs7,at7,d7⟩:=h3.at he_6 1 rfl
 obtain ⟨s8,rfl,h8⟩ : ∃ s8 : Sl,vs7 = [s8.v]∧Rd m s8 e_6:=d7
 refine e_P (v:=(elP s3 (p_i.toNat * 1))) 3 hF rfl (ex_indexAddr U23 sz28 rfl rfl (h3.idx he_6)) fun a hF=>e_xm (v:=s8.v) 4 hF hS (Mem.le.refl _) rfl (ex_loadE1 0 U28 rfl rfl ((at7).at) rfl rfl) rfl rfl (by kernel_rfl) (by kernel_rfl) (by kernel_rfl) fun a hF=>e_P (v:=(iV p_j)) 5 hF rfl (ex_move rfl) fun a hF=>?_
 obtain ⟨e_9,he_9,hr⟩:=bindS hr
 obtain ⟨vs10,at10,d10⟩:=h8.at he_9 1 rfl
 obtain rfl : vs10 = [(iV e_9)]:=d10
 refine e_P (v:=(elP s8 (p_j.toNat * 1))) 6 hF rfl (ex_indexAddr U28 sz3 rfl rfl (h8.idx he_9)) fun a hF=>e_xm (v:=(iV e_9)) 7 hF hS (Mem.le.refl _) rfl (ex_loadE1 0 U3 rfl rfl ((at10).at) rfl rfl) rfl rfl (by kernel_rfl) (by kernel_rfl) (by kernel_rfl) fun a hF=>e_P (v:=(pP b5 3)) 8 hF rfl (ex_fieldAddr U50 rfl sz23 rfl rfl) fun a hF=>e_X (v:=s4.v) 9 hF hS rfl (ex_load1 0 0 U23 rfl rfl rfl rfl) fun a hF=>e_P (v:=(iV p_i)) 10 hF rfl (ex_move rfl) fun a hF=>?_
 obtain ⟨e_11,he_11,hr⟩:=bindS hr
 obtain ⟨vs12,at12,d12⟩:=h4.at he_11 1 rfl
 obtain ⟨s13,rfl,h13⟩ : ∃ s13 : Sl,vs12 = [s13.v]∧Rd m s13 e_11:=d12
 refine e_P (v:=(elP s4 (p_i.toNat * 1))) 11 hF rfl (ex_indexAddr U23 sz28 rfl rfl (h4.idx he_11)) fun a hF=>e_xm (v:=s13.v) 12 hF hS (Mem.le.refl _) rfl (ex_loadE1 0 U28 rfl rfl ((at12).at) rfl rfl) rfl rfl (by kernel_rfl) (by kernel_rfl) (by kernel_rfl) fun a hF=>e_P (v:=(iV p_j)) 13 hF rfl (ex_move rfl) fun a hF=>?_
 obtain ⟨e_14,he_14,hr⟩:=bindS hr
 obtain ⟨vs15,at15,d15⟩:=h13.at he_14 1 rfl
 obtain rfl : vs15 = [(iV e_14)]:=d15
 refine e_P (v:=(elP s13 (p_j.toNat * 1))) 14 hF rfl (ex_indexAddr U28 sz3 rfl rfl (h13.idx he_14)) fun a hF=>e_xm (v:=(iV e_14)) 15 hF hS (Mem.le.refl _) rfl (ex_loadE1 0 U3 rfl rfl ((at15).at) rfl rfl) rfl rfl (by kernel_rfl) (by kernel_rfl) (by kernel_rfl) fun a hF=>e_P (v:=(iV e_9)) 16 hF rfl (ex_assign rfl) fun a hF=>e_P (v:=(iV e_14)) 17 hF rfl (ex_assign rfl) fun a hF=>e_end (by kernel_rfl) (n_sq ?_) _
 refine q_seq (q_block ?_)
 obtain ⟨lo_38,hl1,hr⟩:=bindS hr
 refine q_loop (fun (s : Int × Int) a w=>∃ (m18 : Mem),∃ lo_16,∃ hi_17,s = (lo_16,hi_17)∧Fr a 57 [(1,(iV p_i)),(2,(iV p_j)),(3,(pP b5 0)),(7,(iV lo_16)),(8,(iV hi_17))]∧St [] w0 w m18 [[⟨b5,[s1.v,s2.v,s3.v,s4.v],50⟩]]∧MLe [] w0.heap.size m m18) (fun (lo_38 : Int) e a w=>∃ (m39 : Mem),e = .exit 0∧Fr a 57 [(7,(iV lo_38))]∧St [] w0 w m39 []∧MLe [] w0.heap.size m m39) hl1 ⟨m,_,_,rfl,hF.sub ⟨rfl,rfl,rfl,rfl,rfl,trivial⟩,hS,(MLe.refl _ _)⟩ ?_ ?_
 ·clear hF hS
  rintro s a w st ⟨m18,lo_16,hi_17,rfl,hF,hS,hm18⟩ hb1
  unfold spec_tLow_l1 at hb1
  refine q_seq (q_sr (q_m hF rfl fun a hF=>q_m hF rfl fun a hF=>q_y (v:=(.bool (decide (lo_16 < hi_17)))) hF hS (ex_ibin rfl rfl rfl) fun a hF=>q_end (n_sq ?_)))
  rcases bcase (decide (lo_16 < hi_17)) with hc2 | hc2
  ·have hb1:=cond_f hc2 hb1
   refine q_cond_f hF rfl hc2 (q_exit (x_sq ?_))
   obtain rfl:=someI hb1
   exact ⟨nofun,.inl ⟨m18,rfl,hF.sub ⟨rfl,trivial⟩,hS.mask [false],hm18⟩⟩
  ·have hb1:=cond_t hc2 hb1
   refine q_cond_t hF rfl hc2 (q_skipc (n_sq (q_block (q_sr (q_m hF rfl fun a hF=>q_m hF rfl fun a hF=>q_y (v:=(iV (w64 (lo_16 + hi_17)))) hF hS (ex_ibin rfl rfl rfl) fun a hF=>?_)))))
   obtain ⟨t_19,ht_19,hb1⟩:=bindS hb1
   refine q_y (v:=(iV t_19)) hF hS (ex_quo rfl rfl ht_19) fun a hF=>q_s hF rfl fun a hF=>q_end (n_sq (q_seq (e_region ⟨[],[],m18⟩ mixed fun w' hw'=>?_)))
   have hS:=hS.below hw'
   refine e_X (v:=(.agg #[s1.v,s2.v,s3.v,s4.v])) 0 hF hS rfl (ex_loadA (vs:=[s1.v,s2.v,s3.v,s4.v]) 0 0 U50 rfl sz50 rfl rfl rfl rfl) fun a hF=>e_P (v:=(iV p_i)) 1 hF rfl (ex_move rfl) fun a hF=>e_P (v:=(iV p_j)) 2 hF rfl (ex_move rfl) fun a hF=>e_P (v:=(pP b5 2)) 3 hF rfl (ex_fieldAddr U50 rfl sz23 rfl rfl) fun a hF=>e_X (v:=s3.v) 4 hF hS rfl (ex_load1 0 0 U23 rfl rfl rfl rfl) fun a hF=>e_P (v:=(iV p_i)) 5 hF rfl (ex_move rfl) fun a hF=>?_
   obtain ⟨e_20,he_20,hb1⟩:=bindS hb1
   obtain ⟨vs21,at21,d21⟩:=h3.at he_20 1 rfl
   obtain ⟨s22,rfl,h22⟩ : ∃ s22 : Sl,vs21 = [s22.v]∧Rd m s22 e_20:=d21
   refine e_P (v:=(elP s3 (p_i.toNat * 1))) 6 hF rfl (ex_indexAddr U23 sz28 rfl rfl ((h3.mono hm18.le).idx he_20)) fun a hF=>e_xm (v:=s22.v) 7 hF hS (Mem.le.refl _) rfl (ex_loadE1 0 U28 rfl rfl (((at21.mono hm18.le)).at) rfl rfl) rfl rfl (by kernel_rfl) (by kernel_rfl) (by kernel_rfl) fun a hF=>e_P (v:=(iV p_j)) 8 hF rfl (ex_move rfl) fun a hF=>?_
   obtain ⟨e_23,he_23,hb1⟩:=bindS hb1
   obtain ⟨vs24,at24,d24⟩:=h22.at he_23 1 rfl
   obtain rfl : vs24 = [(iV e_23)]:=d24
   refine e_P (v:=(elP s22 (p_j.toNat * 1))) 9 hF rfl (ex_indexAddr U28 sz3 rfl rfl ((h22.mono hm18.le).idx he_23)) fun a hF=>e_xm (v:=(iV e_23)) 10 hF hS (Mem.le.refl _) rfl (ex_loadE1 0 U3 rfl rfl (((at24.mono hm18.le)).at) rfl rfl) rfl rfl (by kernel_rfl) (by kernel_rfl) (by kernel_rfl) fun a hF=>e_P (v:=(iV t_19)) 11 hF rfl (ex_move rfl) fun a hF=>e_one 12 (by kernel_rfl) ?_
   obtain ⟨t_25,ht_25,hb1⟩:=bindS hb1
   refine e_call (vs:=[(.agg #[s1.v,s2.v,s3.v,s4.v]),(iV p_i),(iV p_j),(iV e_23),(iV t_19)]) hF hS rfl Try.func121 (by kernel_rfl) rfl rfl rfl (c_spec_tWith p_t p_i p_j e_23 t_19 t_25 ht_25 _ m18 hS.vis s1 (h1.mono hm18.le) s2 (h2.mono hm18.le) s3 (h3.mono hm18.le) s4 (h4.mono hm18.le)) ?_
   have hT:=hS
   rintro a w _ ⟨m26,q29,q30,s27,s28,s29,s30,rfl,hm26,hR26,h27,h28,h29,h30⟩ hF hS2
   have hS : St _ _ _ _ [q29,q30,[⟨b5,[s1.v,s2.v,s3.v,s4.v],50⟩]]:=hS.join hR26 hm26
   have hm26:=MLe.weakX (O0:=[]) hT hm26
   refine e_one 13 (by kernel_rfl) ?_
   obtain ⟨m31,hm31,hS,hz31⟩:=hS.freeze
   have h31:=h29.froz hm31.le hz31
   obtain ⟨m32,hm32,hS,hz32⟩:=hS.freeze
   have h32:=(h30.mono hm31.le).froz hm32.le hz32
   obtain ⟨t_33,ht_33,hb1⟩:=bindS hb1
   refine e_call (vs:=[(.agg #[s27.v,s28.v,s29.v,s30.v])]) hF hS rfl Try.func158 (by kernel_rfl) rfl rfl rfl (c_spec_tFeasible t_25 t_33 ht_33 _ m32 hS.vis s27 ((h27.mono hm31.le).mono hm32.le) s28 ((h28.mono hm31.le).mono hm32.le) s29 (h31.mono hm32.le) s30 h32) ?_
   have hT:=hS
   rintro a w _ ⟨m34,q35,s35,rfl,hm34,hR34,h35⟩ hF hS2
   have hS : St _ _ _ _ [q35,[⟨b5,[s1.v,s2.v,s3.v,s4.v],50⟩]]:=hS.join hR34 hm34
   have hm34:=MLe.weakX (O0:=[]) hT hm34
   refine e_P (v:=(.tuple #[s35.v,(.bool t_33.2)])) 14 hF rfl (ex_move rfl) fun a hF=>e_P (v:=s35.v) 15 hF rfl (ex_extract rfl rfl) fun a hF=>e_P (v:=(.bool t_33.2)) 16 hF rfl (ex_extract rfl rfl) fun a hF=>e_P (v:=s35.v) 17 hF rfl (ex_assign rfl) fun a hF=>e_P (v:=(.bool t_33.2)) 18 hF rfl (ex_assign rfl) fun a hF=>e_end (by kernel_rfl) (n_sq ?_) _
   refine q_sr (q_m hF rfl fun a hF=>q_end (n_sq ?_))
   obtain ⟨j3,hj3,hb1⟩:=bindS hb1
   refine q_join (fun a w=>∃ lo_36,∃ hi_37,j3 = (lo_36,hi_37)∧Fr a 57 [(1,(iV p_i)),(2,(iV p_j)),(3,(pP b5 0)),(7,(iV lo_36)),(8,(iV hi_37))]∧St [] w0 w m34 [[⟨b5,[s1.v,s2.v,s3.v,s4.v],50⟩]]) ?_ ?_
   ·rcases bcase (t_33.2) with hc4 | hc4
    ·have hj3:=cond_f hc4 hj3
     refine q_cond_f hF rfl hc4 (q_region (q_m hF rfl fun a hF=>q_y (v:=(iV (w64 (t_19 + 1)))) hF hS (ex_ibin rfl rfl rfl) fun a hF=>q_s hF rfl fun a hF=>q_end (n_jn ?_)))
     obtain rfl:=someI hj3
     exact ⟨_,_,rfl,hF.sub ⟨rfl,rfl,rfl,rfl,rfl,trivial⟩,hS.mask [false,true]⟩
    ·have hj3:=cond_t hc4 hj3
     refine q_cond_t hF rfl hc4 (q_region (q_m hF rfl fun a hF=>q_s hF rfl fun a hF=>q_end (n_jn ?_)))
     obtain rfl:=someI hj3
     exact ⟨_,_,rfl,hF.sub ⟨rfl,rfl,rfl,rfl,rfl,trivial⟩,hS.mask [false,true]⟩
   ·rintro a w ⟨lo_36,hi_37,rfl,hF,hS⟩
    refine n_ib ?_
    obtain rfl:=someI hb1
    exact ⟨rfl,m34,_,_,rfl,hF.sub ⟨rfl,rfl,rfl,rfl,rfl,trivial⟩,hS,((((hm18.trans hm26).trans hm31).trans hm32).trans hm34)⟩
 ·rintro e a w ⟨m39,rfl,hF,hS,hm39⟩
  refine x_ib (n_sq ?_)
  refine q_sr (q_m hF rfl fun a hF=>q_s hF rfl fun a hF=>q_end (n_sq (q_ret ?_)))
  obtain rfl:=someI hr
  exact ret_of hF hS rfl (.tmp rfl .nil) rfl

theorem c_spec_tFirst (p_t : impl_Transport) (r : (List (List Int)) × Bool) (hr : spec_tFirst p_t = some r) (w0 : World) (m : Mem) (hv : Vis m w0) (s1 : Sl) (h1 : Rd m s1 p_t.Rows) (s2 : Sl) (h2 : Rd m s2 p_t.Cols) (s3 : Sl) (h3 : Rd m s3 p_t.Lo) (s4 : Sl) (h4 : Rd m s4 p_t.Hi) :
  Ret Try.prog 120 [(.agg #[s1.v,s2.v,s3.v,s4.v])] w0 (fun v w=>∃ (m' : Mem) (q0' : Piece) (s0' : Sl),v = (.tuple #[s0'.v,(.bool r.2)])∧MLe [] w0.heap.size m m'∧St [] w0 w m' [q0']∧OwnD m' 28 3 q0' s0' r.1):=by
 unfold spec_tFirst at hr
 refine ret_start Try.func120 rfl 43 rfl rfl m hv fun a hF hS=>q_sr (q_box (cs:=[s1.v,s2.v,s3.v,s4.v]) hF hS rfl rfl rfl fun a w b5 hF hS=>q_s hF rfl fun a hF=>q_s hF rfl fun a hF=>q_end (n_sq (q_seq (q_sr (q_y (v:=(.agg #[s1.v,s2.v,s3.v,s4.v])) hF hS (ex_loadA (vs:=[s1.v,s2.v,s3.v,s4.v]) 0 0 U50 rfl sz50 rfl rfl rfl rfl) fun a hF=>?_)))))
 obtain ⟨t_6,ht_6,hr⟩:=bindS hr
 refine q_call (vs:=[(.agg #[s1.v,s2.v,s3.v,s4.v])]) hF hS Try.func158 (by kernel_rfl) rfl rfl rfl (c_spec_tFeasible p_t t_6 ht_6 _ m hS.vis s1 h1 s2 h2 s3 h3 s4 h4) ?_
 have hT:=hS
 rintro a w _ ⟨m7,q8,s8,rfl,hm7,hR7,h8⟩ hF hS2
 have hS : St _ _ _ _ [q8,[⟨b5,[s1.v,s2.v,s3.v,s4.v],50⟩]]:=hS.join hR7 hm7
 have hm7:=MLe.weakX (O0:=[]) hT hm7
 refine q_m hF rfl fun a hF=>q_y (v:=s8.v) hF hS (ex_extract rfl rfl) fun a hF=>q_y (v:=(.bool t_6.2)) hF hS (ex_extract rfl rfl) fun a hF=>q_s hF rfl fun a hF=>q_s hF rfl fun a hF=>q_end (n_sq (q_sr (q_m hF rfl fun a hF=>q_y (v:=(.bool (!t_6.2))) hF hS (ex_not rfl) fun a hF=>q_end (n_sq ?_))))
 rcases bcase (!t_6.2) with hc1 | hc1
 ·have hr:=cond_f hc1 hr
  refine q_cond_f hF rfl hc1 (q_skipc (n_sq (q_seq (q_sr (q_y (v:=(pP b5 0)) hF hS (ex_fieldAddr U50 rfl sz28 rfl rfl) fun a hF=>q_y (v:=s1.v) hF hS (ex_load1 1 0 U28 rfl rfl rfl rfl) fun a hF=>q_y (v:=(iV (goLen p_t.Rows))) hF hS (ex_len U28 rfl (h1.mono hm7.le).len) fun a hF=>q_m hF rfl fun a hF=>q_end (n_sq (q_block ?_)))))))
  obtain ⟨t_36,hl2,hr⟩:=bindS hr
  refine q_loop (fun (s : Int × impl_Transport) a w=>∃ (m15 : Mem),∃ (s11 : Sl),∃ (s12 : Sl),∃ (s13 : Sl),∃ (s14 : Sl),∃ t_9,∃ t_10,s = (t_9,t_10)∧Fr a 43 [(1,(pP b5 0)),(18,(iV (goLen p_t.Rows))),(19,(iV t_9))]∧St [] w0 w m15 [[⟨b5,[s11.v,s12.v,s13.v,s14.v],50⟩]]∧MLe [] w0.heap.size m7 m15∧Rd m15 s11 t_10.Rows∧Rd m15 s12 t_10.Cols∧Rd m15 s13 t_10.Lo∧Rd m15 s14 t_10.Hi) (fun (t_36 : impl_Transport) e a w=>∃ (m41 : Mem),∃ (s37 : Sl),∃ (s38 : Sl),∃ (s39 : Sl),∃ (s40 : Sl),e = .exit 0∧Fr a 43 [(1,(pP b5 0))]∧St [] w0 w m41 [[⟨b5,[s37.v,s38.v,s39.v,s40.v],50⟩]]∧MLe [] w0.heap.size m7 m41∧Rd m41 s37 t_36.Rows∧Rd m41 s38 t_36.Cols∧Rd m41 s39 t_36.Lo∧Rd m41 s40 t_36.Hi) hl2 ⟨m7,s1,s2,s3,s4,_,_,rfl,hF.sub ⟨rfl,rfl,rfl,trivial⟩,hS.mask [false,true],(MLe.refl _ _),(h1.mono hm7.le),(h2.mono hm7.le),(h3.mono hm7.le),(h4.mono hm7.le)⟩ ?_ ?_
  ·clear hF hS
   rintro s a w st ⟨m15,s11,s12,s13,s14,t_9,t_10,rfl,hF,hS,hm15,h11,h12,h13,h14⟩ hb2
   unfold spec_tFirst_l1 at hb2
   refine q_sr (q_y (v:=(.bool (decide (t_9 < (goLen p_t.Rows))))) hF hS (ex_ibin rfl rfl rfl) fun a hF=>q_end (n_sq (q_seq ?_)))
   rcases bcase (decide (t_9 < (goLen p_t.Rows))) with hc3 | hc3
   ·have hb2:=cond_f hc3 hb2
    refine q_cond_f hF rfl hc3 (q_exit (x_sq ?_))
    obtain rfl:=someI hb2
    exact ⟨nofun,.inl ⟨m15,s11,s12,s13,s14,rfl,hF.sub ⟨rfl,trivial⟩,hS,hm15,h11,h12,h13,h14⟩⟩
   ·have hb2:=cond_t hc3 hb2
    refine q_cond_t hF rfl hc3 (q_skipc (n_sq (q_seq (q_block (q_sr (q_m hF rfl fun a hF=>q_s hF rfl fun a hF=>q_end (n_sq (q_sr (q_y (v:=(pP b5 1)) hF hS (ex_fieldAddr U50 rfl sz28 rfl rfl) fun a hF=>q_y (v:=s12.v) hF hS (ex_load1 0 0 U28 rfl rfl rfl rfl) fun a hF=>q_y (v:=(iV (goLen t_10.Cols))) hF hS (ex_len U28 rfl h12.len) fun a hF=>q_m hF rfl fun a hF=>q_end (n_sq (q_block ?_)))))))))))
    obtain ⟨t_30,hl4,hb2⟩:=bindS hb2
    refine q_loop (fun (s : Int × impl_Transport) a w=>∃ (m22 : Mem),∃ (s18 : Sl),∃ (s19 : Sl),∃ (s20 : Sl),∃ (s21 : Sl),∃ t_16,∃ t_17,s = (t_16,t_17)∧Fr a 43 [(1,(pP b5 0)),(6,(iV t_9)),(18,(iV (goLen p_t.Rows))),(19,(iV t_9)),(24,(iV (goLen t_10.Cols))),(25,(iV t_16))]∧St [] w0 w m22 [[⟨b5,[s18.v,s19.v,s20.v,s21.v],50⟩]]∧MLe [] w0.heap.size m15 m22∧Rd m22 s18 t_17.Rows∧Rd m22 s19 t_17.Cols∧Rd m22 s20 t_17.Lo∧Rd m22 s21 t_17.Hi) (fun (t_30 : impl_Transport) e a w=>∃ (m35 : Mem),∃ (s31 : Sl),∃ (s32 : Sl),∃ (s33 : Sl),∃ (s34 : Sl),e = .exit 2∧Fr a 43 [(1,(pP b5 0)),(18,(iV (goLen p_t.Rows))),(19,(iV t_9))]∧St [] w0 w m35 [[⟨b5,[s31.v,s32.v,s33.v,s34.v],50⟩]]∧MLe [] w0.heap.size m15 m35∧Rd m35 s31 t_30.Rows∧Rd m35 s32 t_30.Cols∧Rd m35 s33 t_30.Lo∧Rd m35 s34 t_30.Hi) hl4 ⟨m15,s11,s12,s13,s14,_,_,rfl,hF.sub ⟨rfl,rfl,rfl,rfl,rfl,rfl,trivial⟩,hS,(MLe.refl _ _),h11,h12,h13,h14⟩ ?_ ?_
    ·clear hF hS
     rintro s a w st ⟨m22,s18,s19,s20,s21,t_16,t_17,rfl,hF,hS,hm22,h18,h19,h20,h21⟩ hb4
     unfold spec_tFirst_l2 at hb4
     refine q_sr (q_y (v:=(.bool (decide (t_16 < (goLen t_10.Cols))))) hF hS (ex_ibin rfl rfl rfl) fun a hF=>q_end (n_sq (q_seq ?_)))
     rcases bcase (decide (t_16 < (goLen t_10.Cols))) with hc5 | hc5
     ·have hb4:=cond_f hc5 hb4
      refine q_cond_f hF rfl hc5 (q_exit (x_sq ?_))
      obtain rfl:=someI hb4
      exact ⟨nofun,.inl ⟨m22,s18,s19,s20,s21,rfl,hF.sub ⟨rfl,rfl,rfl,trivial⟩,hS,hm22,h18,h19,h20,h21⟩⟩
     ·have hb4:=cond_t hc5 hb4
      refine q_cond_t hF rfl hc5 (q_skipc (n_sq (q_seq (q_block (q_sr (q_m hF rfl fun a hF=>q_s hF rfl fun a hF=>q_end (n_sq (q_sr (q_y (v:=(.agg #[s18.v,s19.v,s20.v,s21.v])) hF hS (ex_loadA (vs:=[s18.v,s19.v,s20.v,s21.v]) 0 0 U50 rfl sz50 rfl rfl rfl rfl) fun a hF=>q_m hF rfl fun a hF=>q_m hF rfl fun a hF=>?_)))))))))
      obtain ⟨t_23,ht_23,hb4⟩:=bindS hb4
      refine q_call (vs:=[(.agg #[s18.v,s19.v,s20.v,s21.v]),(iV t_9),(iV t_16)]) hF hS Try.func164 (by kernel_rfl) rfl rfl rfl (c_spec_tLow t_17 t_9 t_16 t_23 ht_23 _ m22 hS.vis s18 h18 s19 h19 s20 h20 s21 h21) ?_
      rintro a w _ rfl hF hS
      refine q_s hF rfl fun a hF=>q_end (n_sq (q_region (q_y (v:=(.agg #[s18.v,s19.v,s20.v,s21.v])) hF hS (ex_loadA (vs:=[s18.v,s19.v,s20.v,s21.v]) 0 0 U50 rfl sz50 rfl rfl rfl rfl) fun a hF=>q_m hF rfl fun a hF=>q_m hF rfl fun a hF=>q_m hF rfl fun a hF=>q_m hF rfl fun a hF=>?_)))
      obtain ⟨t_24,ht_24,hb4⟩:=bindS hb4
      refine q_call (vs:=[(.agg #[s18.v,s19.v,s20.v,s21.v]),(iV t_9),(iV t_16),(iV t_23),(iV t_23)]) hF hS Try.func121 (by kernel_rfl) rfl rfl rfl (c_spec_tWith t_17 t_9 t_16 t_23 t_23 t_24 ht_24 _ m22 hS.vis s18 h18 s19 h19 s20 h20 s21 h21) ?_
      have hT:=hS
      rintro a w _ ⟨m25,q28,q29,s26,s27,s28,s29,rfl,hm25,hR25,h26,h27,h28,h29⟩ hF hS2
      have hS : St _ _ _ _ [q28,q29,[⟨b5,[s18.v,s19.v,s20.v,s21.v],50⟩]]:=hS.join hR25 hm25
      have hm25:=MLe.weakX (O0:=[]) hT hm25
      refine q_store (vs:=[s26.v,s27.v,s28.v,s29.v]) (cs':=[s26.v,s27.v,s28.v,s29.v]) 2 0 hF hS sz50 rfl rfl rfl rfl rfl rfl rfl rfl fun a w hF hS=>q_end (n_ib (n_sq (q_region (q_y (v:=(iV (w64 (t_16 + 1)))) hF hS (ex_ibin rfl rfl rfl) fun a hF=>q_m hF rfl fun a hF=>q_end ?_))))
      obtain rfl:=someI hb4
      obtain ⟨mf63,hmf63,hS,hzf63⟩:=hS.freeze
      have hf63:=h28.froz hmf63.le hzf63
      obtain ⟨mf64,hmf64,hS,hzf64⟩:=hS.freeze
      have hf64:=(h29.mono hmf63.le).froz hmf64.le hzf64
      exact ⟨rfl,mf64,s26,s27,s28,s29,_,_,rfl,hF.sub ⟨rfl,rfl,rfl,rfl,rfl,rfl,trivial⟩,hS,(((hm22.trans hm25).trans hmf63).trans hmf64),((h26.mono hmf63.le).mono hmf64.le),((h27.mono hmf63.le).mono hmf64.le),(hf63.mono hmf64.le),hf64⟩
    ·rintro e a w ⟨m35,s31,s32,s33,s34,rfl,hF,hS,hm35,h31,h32,h33,h34⟩
     refine x_ib (n_ib (n_sq ?_))
     refine q_region (q_y (v:=(iV (w64 (t_9 + 1)))) hF hS (ex_ibin rfl rfl rfl) fun a hF=>q_m hF rfl fun a hF=>q_end ?_)
     obtain rfl:=someI hb2
     exact ⟨rfl,m35,s31,s32,s33,s34,_,_,rfl,hF.sub ⟨rfl,rfl,rfl,trivial⟩,hS,(hm15.trans hm35),h31,h32,h33,h34⟩
  ·rintro e a w ⟨m41,s37,s38,s39,s40,rfl,hF,hS,hm41,h37,h38,h39,h40⟩
   refine x_ib (n_sq ?_)
   refine q_sr (q_y (v:=(pP b5 2)) hF hS (ex_fieldAddr U50 rfl sz23 rfl rfl) fun a hF=>q_y (v:=s39.v) hF hS (ex_load1 0 0 U23 rfl rfl rfl rfl) fun a hF=>?_)
   obtain ⟨t_42,ht_42,hr⟩:=bindS hr
   refine q_call (vs:=[s39.v]) hF hS Try.func145 (by kernel_rfl) rfl rfl rfl (c_spec_tOwn t_36.Lo t_42 ht_42 _ m41 hS.vis s39 h39) ?_
   rintro a w _ ⟨q44,s44,rfl,hR43,h44⟩ hF hS2
   have hS : St _ _ _ _ [q44,[⟨b5,[s37.v,s38.v,s39.v,s40.v],50⟩]]:=hS.joinF hR43
   refine q_s hF rfl fun a hF=>q_s hF rfl fun a hF=>q_end (n_sq (q_ret ?_))
   obtain rfl:=someI hr
   exact ret_of hF hS rfl (.tmp rfl (.tmp rfl .nil)) ⟨m41,q44,s44,rfl,(hm7.trans hm41),hS.sel [0] (by decide),h44⟩
 ·have hr:=cond_t hc1 hr
  refine q_cond_t hF rfl hc1 (q_sr (q_s hF rfl fun a hF=>q_s hF rfl fun a hF=>q_end (n_sq (q_ret (r_sq ?_)))))
  obtain rfl:=someI hr
  exact ret_of hF hS rfl (.tmp rfl (.tmp rfl .nil)) ⟨m7,[],nilS,rfl,hm7,hS.sel [2] (by decide),(OwnD.nil (β:=Int) m7 28 3)⟩

theorem c_spec_oFrom (p_flow : List (List Int)) (p_base : Int) (r : impl_Rounding) (hr : spec_oFrom p_flow p_base = some r) (w0 : World) (m : Mem) (hv : Vis m w0) (s1 : Sl) (h1 : Rd m s1 p_flow) :
  Ret Try.prog 141 [s1.v,(iV p_base)] w0 (fun v w=>∃ (m' : Mem) (q0' : Piece) (q1' : Piece) (q2' : Piece) (s0' : Sl) (s1' : Sl) (s2' : Sl),v = (.agg #[s0'.v,s1'.v,s2'.v,(iV r.Total)])∧MLe [] w0.heap.size m m'∧St [] w0 w m' [q0',q1',q2']∧OwnD m' 28 3 q0' s0' r.Cells∧OwnL m' 3 q1' s1' r.Rows∧OwnL m' 3 q2' s2' r.Cols):=by
 unfold spec_oFrom at hr
 refine ret_start Try.func141 rfl 45 rfl rfl m hv fun a hF hS=>q_sr (q_alloc (cs:=[nilS.v,nilS.v,nilS.v,(iV 0)]) hF hS rfl rfl rfl fun a w b2 hF hS=>q_end (n_sq (q_sr (q_s hF rfl fun a hF=>q_end (n_sq (q_seq (q_sr (q_m hF rfl fun a hF=>q_m hF rfl fun a hF=>q_y (v:=(iV (goLen p_flow))) hF hS (ex_len U23 rfl h1.len) fun a hF=>q_y (v:=(iV (w64 ((goLen p_flow) - 1)))) hF hS (ex_ibin rfl rfl rfl) fun a hF=>?_))))))))
 obtain ⟨l_3,hl_3,hr⟩:=bindS hr
 have h4 : Rd m (subS s1 1 (0 : Int).toNat (w64 ((goLen p_flow) - 1)).toNat s1.cap) l_3:=h1.sub' hl_3 1 rfl
 refine q_y (v:=(subS s1 1 (0 : Int).toNat (w64 ((goLen p_flow) - 1)).toNat s1.cap).v) hF hS (ex_slice U23 sz28 rfl rfl rfl (.inl ⟨rfl,rfl⟩) (.inr ⟨_,rfl⟩) (h1.subok hl_3)) fun a hF=>q_y (v:=(iV (goLen l_3))) hF hS (ex_len U23 rfl h4.len) fun a hF=>q_m hF rfl fun a hF=>q_end (n_sq (q_block ?_))
 obtain ⟨cells_28,hl1,hr⟩:=bindS hr
 refine q_loop (fun (s : (List (List Int)) × Int) a w=>∃ (m8 : Mem),∃ (q6 : Piece),∃ (s6 : Sl),∃ cells_5,∃ t_7,s = (cells_5,t_7)∧Fr a 45 [(1,(iV p_base)),(4,(pP b2 0)),(5,s6.v),(15,(subS s1 1 (0 : Int).toNat (w64 ((goLen p_flow) - 1)).toNat s1.cap).v),(16,(iV (goLen l_3))),(17,(iV t_7))]∧St [] w0 w m8 [q6,[⟨b2,[nilS.v,nilS.v,nilS.v,(iV 0)],74⟩]]∧MLe [] w0.heap.size m m8∧OwnL m8 28 q6 s6 cells_5) (fun (cells_28 : (List (List Int))) e a w=>∃ (m30 : Mem),∃ (q29 : Piece),∃ (s29 : Sl),e = .exit 0∧Fr a 45 [(4,(pP b2 0)),(5,s29.v)]∧St [] w0 w m30 [q29,[⟨b2,[nilS.v,nilS.v,nilS.v,(iV 0)],74⟩]]∧MLe [] w0.heap.size m m30∧OwnL m30 28 q29 s29 cells_28) hl1 ⟨m,[],nilS,_,_,rfl,hF.sub ⟨rfl,rfl,rfl,rfl,rfl,rfl,trivial⟩,hS.sel [1,0] (by decide),(MLe.refl _ _),(OwnL.nil (α:=List Int) m 28)⟩ ?_ ?_
 ·clear hF hS
  rintro s a w st ⟨m8,q6,s6,cells_5,t_7,rfl,hF,hS,hm8,h6⟩ hb1
  unfold spec_oFrom_l1 at hb1
  refine q_sr (q_y (v:=(.bool (decide (t_7 < (goLen l_3))))) hF hS (ex_ibin rfl rfl rfl) fun a hF=>q_end (n_sq (q_seq ?_)))
  rcases bcase (decide (t_7 < (goLen l_3))) with hc2 | hc2
  ·have hb1:=cond_f hc2 hb1
   refine q_cond_f hF rfl hc2 (q_exit (x_sq ?_))
   obtain rfl:=someI hb1
   exact ⟨nofun,.inl ⟨m8,q6,s6,rfl,hF.sub ⟨rfl,rfl,trivial⟩,hS,hm8,h6⟩⟩
  ·have hb1:=cond_t hc2 hb1
   refine q_cond_t hF rfl hc2 (q_skipc (n_sq (q_seq (q_block (q_seq (q_region ?_))))))
   obtain ⟨e_9,he_9,hb1⟩:=bindS hb1
   obtain ⟨vs10,at10,d10⟩:=h4.at he_9 1 rfl
   obtain ⟨s11,rfl,h11⟩ : ∃ s11 : Sl,vs10 = [s11.v]∧Rd m s11 e_9:=d10
   refine q_y (v:=(elP (subS s1 1 (0 : Int).toNat (w64 ((goLen p_flow) - 1)).toNat s1.cap) (t_7.toNat * 1))) hF hS (ex_indexAddr U23 sz28 rfl rfl ((h4.mono hm8.le).idx he_9)) fun a hF=>q_y (v:=s11.v) hF hS (ex_loadE1 0 U28 rfl rfl (((at10.mono hm8.le)).at) rfl rfl) fun a hF=>q_s hF rfl fun a hF=>q_end (n_sq (q_sr (q_s hF rfl fun a hF=>q_end (n_sq (q_seq (q_sr (q_m hF rfl fun a hF=>q_m hF rfl fun a hF=>q_y (v:=(iV (goLen e_9))) hF hS (ex_len U28 rfl (h11.mono hm8.le).len) fun a hF=>q_y (v:=(iV (w64 ((goLen e_9) - 1)))) hF hS (ex_ibin rfl rfl rfl) fun a hF=>?_)))))))
   obtain ⟨l_12,hl_12,hb1⟩:=bindS hb1
   have h13 : Rd m8 (subS s11 1 (0 : Int).toNat (w64 ((goLen e_9) - 1)).toNat s11.cap) l_12:=(h11.mono hm8.le).sub' hl_12 1 rfl
   refine q_y (v:=(subS s11 1 (0 : Int).toNat (w64 ((goLen e_9) - 1)).toNat s11.cap).v) hF hS (ex_slice U28 sz3 rfl rfl rfl (.inl ⟨rfl,rfl⟩) (.inr ⟨_,rfl⟩) ((h11.mono hm8.le).subok hl_12)) fun a hF=>q_y (v:=(iV (goLen l_12))) hF hS (ex_len U28 rfl h13.len) fun a hF=>q_m hF rfl fun a hF=>q_end (n_sq (q_block ?_))
   obtain ⟨out_22,hl3,hb1⟩:=bindS hb1
   refine q_loop (fun (s : (List Int) × Int) a w=>∃ (q15 : Piece),∃ (s15 : Sl),∃ out_14,∃ t_16,s = (out_14,t_16)∧Fr a 45 [(1,(iV p_base)),(4,(pP b2 0)),(5,s6.v),(8,s15.v),(15,(subS s1 1 (0 : Int).toNat (w64 ((goLen p_flow) - 1)).toNat s1.cap).v),(16,(iV (goLen l_3))),(17,(iV t_7)),(25,(subS s11 1 (0 : Int).toNat (w64 ((goLen e_9) - 1)).toNat s11.cap).v),(26,(iV (goLen l_12))),(27,(iV t_16))]∧St [] w0 w m8 [q15,q6,[⟨b2,[nilS.v,nilS.v,nilS.v,(iV 0)],74⟩]]∧OwnL m8 3 q15 s15 out_14) (fun (out_22 : (List Int)) e a w=>∃ (q23 : Piece),∃ (s23 : Sl),e = .exit 2∧Fr a 45 [(1,(iV p_base)),(4,(pP b2 0)),(5,s6.v),(8,s23.v),(15,(subS s1 1 (0 : Int).toNat (w64 ((goLen p_flow) - 1)).toNat s1.cap).v),(16,(iV (goLen l_3))),(17,(iV t_7))]∧St [] w0 w m8 [q6,q23,[⟨b2,[nilS.v,nilS.v,nilS.v,(iV 0)],74⟩]]∧OwnL m8 3 q23 s23 out_22) hl3 ⟨[],nilS,_,_,rfl,hF.sub ⟨rfl,rfl,rfl,rfl,rfl,rfl,rfl,rfl,rfl,rfl,trivial⟩,hS.sel [2,0,1] (by decide),(OwnL.nil (α:=Int) m8 3)⟩ ?_ ?_
   ·clear hF hS
    rintro s a w st ⟨q15,s15,out_14,t_16,rfl,hF,hS,h15⟩ hb3
    unfold spec_oFrom_l2 at hb3
    refine q_sr (q_y (v:=(.bool (decide (t_16 < (goLen l_12))))) hF hS (ex_ibin rfl rfl rfl) fun a hF=>q_end (n_sq (q_seq ?_)))
    rcases bcase (decide (t_16 < (goLen l_12))) with hc4 | hc4
    ·have hb3:=cond_f hc4 hb3
     refine q_cond_f hF rfl hc4 (q_exit (x_sq ?_))
     obtain rfl:=someI hb3
     exact ⟨nofun,.inl ⟨q15,s15,rfl,hF.sub ⟨rfl,rfl,rfl,rfl,rfl,rfl,rfl,trivial⟩,hS.sel [1,0,2] (by decide),h15⟩⟩
    ·have hb3:=cond_t hc4 hb3
     refine q_cond_t hF rfl hc4 (q_skipc (n_sq (q_seq (q_block (q_seq (q_region ?_))))))
     obtain ⟨e_17,he_17,hb3⟩:=bindS hb3
     obtain ⟨vs18,at18,d18⟩:=h13.at he_17 1 rfl
     obtain rfl : vs18 = [(iV e_17)]:=d18
     refine q_y (v:=(elP (subS s11 1 (0 : Int).toNat (w64 ((goLen e_9) - 1)).toNat s11.cap) (t_16.toNat * 1))) hF hS (ex_indexAddr U28 sz3 rfl rfl (h13.idx he_17)) fun a hF=>q_y (v:=(iV e_17)) hF hS (ex_loadE1 0 U3 rfl rfl ((at18).at) rfl rfl) fun a hF=>q_s hF rfl fun a hF=>q_end (n_sq (q_region (q_m hF rfl fun a hF=>q_m hF rfl fun a hF=>q_m hF rfl fun a hF=>q_y (v:=(iV (w64 (e_17 * p_base)))) hF hS (ex_ibin rfl rfl rfl) fun a hF=>q_do rfl fun _ hK=>wp_buildSlice' (l:=([(w64 (e_17 * p_base))] : List Int)) (cells:=[(iV (w64 (e_17 * p_base)))]) hF hS U28 inf3 rfl rfl (by kernel_rfl) rfl rfl rfl ⟨rfl,rfl⟩ rfl rfl fun a w q19 s19 hF hS h19 _=>hK _ _ ?_)))
     have hS : St _ _ _ _ [q15,q19,q6,[⟨b2,[nilS.v,nilS.v,nilS.v,(iV 0)],74⟩]]:=hS.sel [1,0,2,3] (by decide)
     obtain ⟨l_20,hl_20,hb3⟩:=bindS hb3
     refine q_do rfl fun _ hK=>wp_append hF hS h15 U28 inf3 rfl rfl rfl rfl (h19.vw hS (j:=1) rfl) rfl (by decide) hl_20 rfl fun a w q21 s21 hF hS h21=>hK _ _ (q_s hF rfl fun a hF=>q_end (n_ib (n_sq (q_region (q_y (v:=(iV (w64 (t_16 + 1)))) hF hS (ex_ibin rfl rfl rfl) fun a hF=>q_m hF rfl fun a hF=>q_end ?_)))))
     obtain rfl:=someI hb3
     exact ⟨rfl,q21,s21,_,_,rfl,hF.sub ⟨rfl,rfl,rfl,rfl,rfl,rfl,rfl,rfl,rfl,rfl,trivial⟩,hS.mask [true,false,true,true],h21⟩
   ·rintro e a w ⟨q23,s23,rfl,hF,hS,h23⟩
    refine x_ib (n_sq ?_)
    refine q_region (q_m hF rfl fun a hF=>q_m hF rfl fun a hF=>?_)
    have hS : St _ _ _ _ [q23,q6,[⟨b2,[nilS.v,nilS.v,nilS.v,(iV 0)],74⟩]]:=hS.sel [1,0,2] (by decide)
    obtain ⟨m25,hm25,hS,hz25⟩:=hS.freeze
    have h25:=h23.froz hm25.le hz25
    refine q_do rfl fun _ hK=>wp_buildSlice' (l:=([out_22] : List (List Int))) (cells:=[s23.v]) hF hS U23 inf28 rfl rfl (by kernel_rfl) rfl rfl rfl ⟨⟨s23,rfl,h25⟩,rfl⟩ rfl rfl fun a w q24 s24 hF hS h24 _=>hK _ _ ?_
    have hS : St _ _ _ _ [q6,q24,[⟨b2,[nilS.v,nilS.v,nilS.v,(iV 0)],74⟩]]:=hS.sel [1,0,2] (by decide)
    obtain ⟨l_26,hl_26,hb1⟩:=bindS hb1
    refine q_do rfl fun _ hK=>wp_append hF hS (h6.mono hm25.le) U23 inf28 rfl rfl rfl rfl (h24.vw hS (j:=1) rfl) rfl (by decide) hl_26 rfl fun a w q27 s27 hF hS h27=>hK _ _ (q_s hF rfl fun a hF=>q_end (n_ib (n_sq (q_region (q_y (v:=(iV (w64 (t_7 + 1)))) hF hS (ex_ibin rfl rfl rfl) fun a hF=>q_m hF rfl fun a hF=>q_end ?_)))))
    obtain rfl:=someI hb1
    exact ⟨rfl,m25,q27,s27,_,_,rfl,hF.sub ⟨rfl,rfl,rfl,rfl,rfl,rfl,trivial⟩,hS.mask [true,false,true],(hm8.trans hm25),h27⟩
 ·rintro e a w ⟨m30,q29,s29,rfl,hF,hS,hm30,h29⟩
  refine x_ib (n_sq ?_)
  refine q_sr (q_m hF rfl fun a hF=>?_)
  obtain ⟨m32,hl32,hv32,hz32⟩:=hS.lend
  obtain ⟨t_31,ht_31,hr⟩:=bindS hr
  refine q_call (vs:=[s29.v]) hF hS Try.func176 (by kernel_rfl) rfl rfl rfl (c_spec_oMargins cells_28 t_31 ht_31 _ m32 hv32 s29 (h29.froz hl32 (hz32 0 _ rfl))) ?_
  rintro a w _ ⟨q34,q35,q36,s34,s35,s36,rfl,hR33,h34,h35,h36⟩ hF hS2
  have hS : St _ _ _ _ [q34,q35,q36,q29,[⟨b2,[nilS.v,nilS.v,nilS.v,(iV 0)],74⟩]]:=hS.joinF hR33
  have h34:=h34.any m30
  have h35:=h35.any m30
  have h36:=h36.any m30
  refine q_store (vs:=[s34.v,s35.v,s36.v,(iV t_31.Total)]) (cs':=[s34.v,s35.v,s36.v,(iV t_31.Total)]) 4 0 hF hS sz74 rfl rfl rfl rfl rfl rfl rfl rfl fun a w hF hS=>q_end (n_sq (q_ret ?_))
  obtain rfl:=someI hr
  exact ret_of hF hS rfl (.cellA (us:=[s34.v,s35.v,s36.v,(iV t_31.Total)]) 4 0 U74 rfl sz74 rfl rfl rfl rfl .nil) ⟨m30,q34,q35,q36,s34,s35,s36,rfl,hm30,hS.sel [0,1,2] (by decide),h34,h35,h36⟩

theorem c_spec_FirstRounding (p_x : List (List Int)) (p_base : Int) (r : impl_Rounding × Bool) (hr : spec_FirstRounding p_x p_base = some r) (w0 : World) (m : Mem) (hv : Vis m w0) (s1 : Sl) (h1 : Rd m s1 p_x) :
  Ret Try.prog 60 [s1.v,(iV p_base)] w0 (fun v w=>∃ (m' : Mem) (q0' : Piece) (q1' : Piece) (q2' : Piece) (s0' : Sl) (s1' : Sl) (s2' : Sl),v = (.tuple #[(.agg #[s0'.v,s1'.v,s2'.v,(iV r.1.Total)]),(.bool r.2)])∧MLe [] w0.heap.size m m'∧St [] w0 w m' [q0',q1',q2']∧OwnD m' 28 3 q0' s0' r.1.Cells∧OwnL m' 3 q1' s1' r.1.Rows∧OwnL m' 3 q2' s2' r.1.Cols):=by
 unfold spec_FirstRounding at hr
 refine ret_start Try.func60 rfl 26 rfl rfl m hv fun a hF hS=>q_sr (q_alloc (cs:=[nilS.v,nilS.v,nilS.v,(iV 0)]) hF hS rfl rfl rfl fun a w b2 hF hS=>q_s hF rfl fun a hF=>q_end (n_sq (q_seq (q_sr (q_m hF rfl fun a hF=>q_m hF rfl fun a hF=>?_)))))
 obtain ⟨t_3,ht_3,hr⟩:=bindS hr
 refine q_call (vs:=[s1.v,(iV p_base)]) hF hS Try.func139 (by kernel_rfl) rfl rfl rfl (c_spec_oGood p_x p_base t_3 ht_3 _ m hS.vis s1 h1) ?_
 rintro a w _ rfl hF hS
 refine q_y (v:=(.bool (!t_3))) hF hS (ex_not rfl) fun a hF=>q_end (n_sq ?_)
 rcases bcase (!t_3) with hc1 | hc1
 ·have hr:=cond_f hc1 hr
  refine q_cond_f hF rfl hc1 (q_skipc (n_sq (q_sr (q_m hF rfl fun a hF=>q_m hF rfl fun a hF=>?_))))
  obtain ⟨t_4,ht_4,hr⟩:=bindS hr
  refine q_call (vs:=[s1.v,(iV p_base)]) hF hS Try.func140 (by kernel_rfl) rfl rfl rfl (c_spec_oNetwork p_x p_base t_4 ht_4 _ m hS.vis s1 h1) ?_
  have hT:=hS
  rintro a w _ ⟨m5,q6,q7,q8,q9,s6,s7,s8,s9,rfl,hm5,hR5,h6,h7,h8,h9⟩ hF hS2
  have hS : St _ _ _ _ [q6,q7,q8,q9,[⟨b2,[nilS.v,nilS.v,nilS.v,(iV 0)],74⟩]]:=hS.join hR5 hm5
  have hm5:=MLe.weakX (O0:=[]) hT hm5
  obtain ⟨m10,hm10,hS,hz10⟩:=hS.freeze
  have h10:=h6.froz hm10.le hz10
  obtain ⟨m11,hm11,hS,hz11⟩:=hS.freeze
  have h11:=(h7.mono hm10.le).froz hm11.le hz11
  obtain ⟨m12,hm12,hS,hz12⟩:=hS.freeze
  have h12:=((h8.mono hm10.le).mono hm11.le).froz hm12.le hz12
  obtain ⟨m13,hm13,hS,hz13⟩:=hS.freeze
  have h13:=(((h9.mono hm10.le).mono hm11.le).mono hm12.le).froz hm13.le hz13
  obtain ⟨t_14,ht_14,hr⟩:=bindS hr
  refine q_call (vs:=[(.agg #[s6.v,s7.v,s8.v,s9.v])]) hF hS Try.func120 (by kernel_rfl) rfl rfl rfl (c_spec_tFirst t_4 t_14 ht_14 _ m13 hS.vis s6 (((h10.mono hm11.le).mono hm12.le).mono hm13.le) s7 ((h11.mono hm12.le).mono hm13.le) s8 (h12.mono hm13.le) s9 h13) ?_
  have hT:=hS
  rintro a w _ ⟨m15,q16,s16,rfl,hm15,hR15,h16⟩ hF hS2
  have hS : St _ _ _ _ [q16,[⟨b2,[nilS.v,nilS.v,nilS.v,(iV 0)],74⟩]]:=hS.join hR15 hm15
  have hm15:=MLe.weakX (O0:=[]) hT hm15
  refine q_m hF rfl fun a hF=>q_y (v:=s16.v) hF hS (ex_extract rfl rfl) fun a hF=>q_y (v:=(.bool t_14.2)) hF hS (ex_extract rfl rfl) fun a hF=>q_s hF rfl fun a hF=>q_s hF rfl fun a hF=>q_end (n_sq (q_seq (q_sr (q_m hF rfl fun a hF=>q_y (v:=(.bool (!t_14.2))) hF hS (ex_not rfl) fun a hF=>q_end (n_sq ?_)))))
  rcases bcase (!t_14.2) with hc2 | hc2
  ·have hr:=cond_f hc2 hr
   refine q_cond_f hF rfl hc2 (q_skipc (n_sq (q_sr (q_m hF rfl fun a hF=>q_m hF rfl fun a hF=>?_))))
   obtain ⟨m17,hm17,hS,hz17⟩:=hS.freeze
   have h17:=h16.froz hm17.le hz17
   obtain ⟨t_18,ht_18,hr⟩:=bindS hr
   refine q_call (vs:=[s16.v,(iV p_base)]) hF hS Try.func141 (by kernel_rfl) rfl rfl rfl (c_spec_oFrom t_14.1 p_base t_18 ht_18 _ m17 hS.vis s16 h17) ?_
   have hT:=hS
   rintro a w _ ⟨m19,q20,q21,q22,s20,s21,s22,rfl,hm19,hR19,h20,h21,h22⟩ hF hS2
   have hS : St _ _ _ _ [q20,q21,q22,[⟨b2,[nilS.v,nilS.v,nilS.v,(iV 0)],74⟩]]:=hS.join hR19 hm19
   have hm19:=MLe.weakX (O0:=[]) hT hm19
   refine q_store (vs:=[s20.v,s21.v,s22.v,(iV t_18.Total)]) (cs':=[s20.v,s21.v,s22.v,(iV t_18.Total)]) 3 0 hF hS sz74 rfl rfl rfl rfl rfl rfl rfl rfl fun a w hF hS=>q_s hF rfl fun a hF=>q_end (n_sq (q_ret ?_))
   obtain rfl:=someI hr
   exact ret_of hF hS rfl (.cellA (us:=[s20.v,s21.v,s22.v,(iV t_18.Total)]) 3 0 U74 rfl sz74 rfl rfl rfl rfl (.tmp rfl .nil)) ⟨m19,q20,q21,q22,s20,s21,s22,rfl,(((((((hm5.trans hm10).trans hm11).trans hm12).trans hm13).trans hm15).trans hm17).trans hm19),hS.sel [0,1,2] (by decide),h20,h21,h22⟩
  ·have hr:=cond_t hc2 hr
   refine q_cond_t hF rfl hc2 (q_sr (q_y (v:=(.agg #[nilS.v,nilS.v,nilS.v,(iV 0)])) hF hS (ex_build (cells:=[nilS.v,nilS.v,nilS.v,(iV 0)]) rfl (by kernel_rfl)) fun a hF=>q_store (vs:=[nilS.v,nilS.v,nilS.v,(iV 0)]) (cs':=[nilS.v,nilS.v,nilS.v,(iV 0)]) 1 0 hF hS sz74 rfl rfl rfl rfl rfl rfl rfl rfl fun a w hF hS=>q_s hF rfl fun a hF=>q_end (n_sq (q_ret (r_sq ?_)))))
   obtain rfl:=someI hr
   exact ret_of hF hS rfl (.cellA (us:=[nilS.v,nilS.v,nilS.v,(iV 0)]) 1 0 U74 rfl sz74 rfl rfl rfl rfl (.tmp rfl .nil)) ⟨m15,[],[],[],nilS,nilS,nilS,rfl,(((((hm5.trans hm10).trans hm11).trans hm12).trans hm13).trans hm15),hS.sel [2,3,4] (by decide),(OwnD.nil (β:=Int) m15 28 3),(OwnL.nil (α:=Int) m15 3),(OwnL.nil (α:=Int) m15 3)⟩
 ·have hr:=cond_t hc1 hr
  refine q_cond_t hF rfl hc1 (q_sr (q_y (v:=(.agg #[nilS.v,nilS.v,nilS.v,(iV 0)])) hF hS (ex_build (cells:=[nilS.v,nilS.v,nilS.v,(iV 0)]) rfl (by kernel_rfl)) fun a hF=>q_store (vs:=[nilS.v,nilS.v,nilS.v,(iV 0)]) (cs':=[nilS.v,nilS.v,nilS.v,(iV 0)]) 0 0 hF hS sz74 rfl rfl rfl rfl rfl rfl rfl rfl fun a w hF hS=>q_s hF rfl fun a hF=>q_end (n_sq (q_ret (r_sq ?_)))))
  obtain rfl:=someI hr
  exact ret_of hF hS rfl (.cellA (us:=[nilS.v,nilS.v,nilS.v,(iV 0)]) 0 0 U74 rfl sz74 rfl rfl rfl rfl (.tmp rfl .nil)) ⟨m,[],[],[],nilS,nilS,nilS,rfl,(MLe.refl _ _),hS.sel [1,2,3] (by decide),(OwnD.nil (β:=Int) m 28 3),(OwnL.nil (α:=Int) m 3),(OwnL.nil (α:=Int) m 3)⟩

theorem c_laws_sameInts (p_a : List Int) (p_b : List Int) (r : Bool) (hr : laws_sameInts p_a p_b = some r) (w0 : World) (m : Mem) (hv : Vis m w0) (s1 : Sl) (h1 : Rd m s1 p_a) (s2 : Sl) (h2 : Rd m s2 p_b) :
  Ret Try.prog 55 [s1.v,s2.v] w0 (fun v _=>v = (.bool r)):=by
 unfold laws_sameInts at hr
 refine ret_start Try.func55 rfl 26 rfl rfl m hv fun a hF hS=>q_sr (q_s hF rfl fun a hF=>q_end (n_sq (q_seq (q_sr (q_m hF rfl fun a hF=>q_y (v:=(iV (goLen p_a))) hF hS (ex_len U28 rfl h1.len) fun a hF=>q_m hF rfl fun a hF=>q_y (v:=(iV (goLen p_b))) hF hS (ex_len U28 rfl h2.len) fun a hF=>q_y (v:=(.bool ((goLen p_a) != (goLen p_b)))) hF hS (ex_ibin rfl rfl rfl) fun a hF=>q_end (n_sq ?_))))))
 rcases bcase ((goLen p_a) != (goLen p_b)) with hc1 | hc1
 ·have hr:=cond_f hc1 hr
  refine q_cond_f hF rfl hc1 (q_skipc (n_sq (q_seq (q_sr (q_m hF rfl fun a hF=>q_y (v:=(iV (goLen p_a))) hF hS (ex_len U28 rfl h1.len) fun a hF=>q_m hF rfl fun a hF=>q_end (n_sq (q_block ?_)))))))
  obtain ⟨o2,hl2,hr⟩:=bindS hr
  refine q_loop (fun (t_3 : Int) a w=>Fr a 26 [(0,s1.v),(1,s2.v),(12,(iV (goLen p_a))),(13,(iV t_3))]∧St [] w0 w m []) (fun (o : (Unit) ⊕ (Bool)) e a w=>o = .inl ()∧e = .exit 0∧Fr a 26 []∧St [] w0 w m []) hl2 ⟨hF.sub ⟨rfl,rfl,rfl,rfl,trivial⟩,hS⟩ ?_ ?_
  ·clear hF hS
   rintro t_3 a w st ⟨hF,hS⟩ hb2
   unfold laws_sameInts_l1 at hb2
   refine q_sr (q_y (v:=(.bool (decide (t_3 < (goLen p_a))))) hF hS (ex_ibin rfl rfl rfl) fun a hF=>q_end (n_sq (q_seq ?_)))
   rcases bcase (decide (t_3 < (goLen p_a))) with hc3 | hc3
   ·have hb2:=cond_f hc3 hb2
    refine q_cond_f hF rfl hc3 (q_exit (x_sq ?_))
    obtain rfl:=someI hb2
    exact ⟨nofun,.inl ⟨rfl,rfl,hF.sub trivial,hS⟩⟩
   ·have hb2:=cond_t hc3 hb2
    refine q_cond_t hF rfl hc3 (q_skipc (n_sq (q_seq (q_block (q_sr (q_m hF rfl fun a hF=>q_s hF rfl fun a hF=>q_end (n_sq (q_seq (e_region ⟨[],[],m⟩ mixed fun w' hw'=>?_)))))))))
    have hS:=hS.below hw'
    refine e_P (v:=s1.v) 0 hF rfl (ex_move rfl) fun a hF=>e_P (v:=(iV t_3)) 1 hF rfl (ex_move rfl) fun a hF=>?_
    obtain ⟨e_4,he_4,hb2⟩:=bindS hb2
    obtain ⟨vs5,at5,d5⟩:=h1.at he_4 1 rfl
    obtain rfl : vs5 = [(iV e_4)]:=d5
    refine e_P (v:=(elP s1 (t_3.toNat * 1))) 2 hF rfl (ex_indexAddr U28 sz3 rfl rfl (h1.idx he_4)) fun a hF=>e_xm (v:=(iV e_4)) 3 hF hS (Mem.le.refl _) rfl (ex_loadE1 0 U3 rfl rfl ((at5).at) rfl rfl) rfl rfl (by kernel_rfl) (by kernel_rfl) (by kernel_rfl) fun a hF=>e_P (v:=s2.v) 4 hF rfl (ex_move rfl) fun a hF=>e_P (v:=(iV t_3)) 5 hF rfl (ex_move rfl) fun a hF=>?_
    obtain ⟨e_6,he_6,hb2⟩:=bindS hb2
    obtain ⟨vs7,at7,d7⟩:=h2.at he_6 1 rfl
    obtain rfl : vs7 = [(iV e_6)]:=d7
    refine e_P (v:=(elP s2 (t_3.toNat * 1))) 6 hF rfl (ex_indexAddr U28 sz3 rfl rfl (h2.idx he_6)) fun a hF=>e_xm (v:=(iV e_6)) 7 hF hS (Mem.le.refl _) rfl (ex_loadE1 0 U3 rfl rfl ((at7).at) rfl rfl) rfl rfl (by kernel_rfl) (by kernel_rfl) (by kernel_rfl) fun a hF=>e_P (v:=(.bool (e_4 != e_6))) 8 hF rfl (ex_ibin rfl rfl rfl) fun a hF=>e_end (by kernel_rfl) (n_sq ?_) _
    rcases bcase (e_4 != e_6) with hc4 | hc4
    ·have hb2:=cond_f hc4 hb2
     refine q_cond_f hF rfl hc4 (q_skipc (n_ib (n_sq (q_region (q_y (v:=(iV (w64 (t_3 + 1)))) hF hS (ex_ibin rfl rfl rfl) fun a hF=>q_m hF rfl fun a hF=>q_end ?_)))))
     obtain rfl:=someI hb2
     exact ⟨rfl,hF.sub ⟨rfl,rfl,rfl,rfl,trivial⟩,hS⟩
    ·have hb2:=cond_t hc4 hb2
     refine q_cond_t hF rfl hc4 (q_sr (q_s hF rfl fun a hF=>q_end (n_sq (q_ret (r_ib (r_sq ?_))))))
     obtain rfl:=someI hb2
     refine ⟨nofun,.inr fun ho=>?_⟩
     subst ho
     refine r_ib (r_sq ?_)
     obtain rfl:=someI hr
     exact ret_of hF hS rfl (.tmp rfl .nil) rfl
  ·rintro e a w ⟨rfl,rfl,hF,hS⟩
   refine x_ib (n_sq ?_)
   refine q_sr (q_s hF rfl fun a hF=>q_end (n_sq (q_ret ?_)))
   obtain rfl:=someI hr
   exact ret_of hF hS rfl (.tmp rfl .nil) rfl
 ·have hr:=cond_t hc1 hr
  refine q_cond_t hF rfl hc1 (q_sr (q_s hF rfl fun a hF=>q_end (n_sq (q_ret (r_sq ?_)))))
  obtain rfl:=someI hr
  exact ret_of hF hS rfl (.tmp rfl .nil) rfl

theorem c_laws_sameLists (p_a : List (List Int)) (p_b : List (List Int)) (r : Bool) (hr : laws_sameLists p_a p_b = some r) (w0 : World) (m : Mem) (hv : Vis m w0) (s1 : Sl) (h1 : Rd m s1 p_a) (s2 : Sl) (h2 : Rd m s2 p_b) :
  Ret Try.prog 47 [s1.v,s2.v] w0 (fun v _=>v = (.bool r)):=by
 unfold laws_sameLists at hr
 refine ret_start Try.func47 rfl 27 rfl rfl m hv fun a hF hS=>q_sr (q_s hF rfl fun a hF=>q_end (n_sq (q_seq (q_sr (q_m hF rfl fun a hF=>q_y (v:=(iV (goLen p_a))) hF hS (ex_len U23 rfl h1.len) fun a hF=>q_m hF rfl fun a hF=>q_y (v:=(iV (goLen p_b))) hF hS (ex_len U23 rfl h2.len) fun a hF=>q_y (v:=(.bool ((goLen p_a) != (goLen p_b)))) hF hS (ex_ibin rfl rfl rfl) fun a hF=>q_end (n_sq ?_))))))
 rcases bcase ((goLen p_a) != (goLen p_b)) with hc1 | hc1
 ·have hr:=cond_f hc1 hr
  refine q_cond_f hF rfl hc1 (q_skipc (n_sq (q_seq (q_sr (q_m hF rfl fun a hF=>q_y (v:=(iV (goLen p_a))) hF hS (ex_len U23 rfl h1.len) fun a hF=>q_m hF rfl fun a hF=>q_end (n_sq (q_block ?_)))))))
  obtain ⟨o2,hl2,hr⟩:=bindS hr
  refine q_loop (fun (t_3 : Int) a w=>Fr a 27 [(0,s1.v),(1,s2.v),(12,(iV (goLen p_a))),(13,(iV t_3))]∧St [] w0 w m []) (fun (o : (Unit) ⊕ (Bool)) e a w=>o = .inl ()∧e = .exit 0∧Fr a 27 []∧St [] w0 w m []) hl2 ⟨hF.sub ⟨rfl,rfl,rfl,rfl,trivial⟩,hS⟩ ?_ ?_
  ·clear hF hS
   rintro t_3 a w st ⟨hF,hS⟩ hb2
   unfold laws_sameLists_l1 at hb2
   refine q_sr (q_y (v:=(.bool (decide (t_3 < (goLen p_a))))) hF hS (ex_ibin rfl rfl rfl) fun a hF=>q_end (n_sq (q_seq ?_)))
   rcases bcase (decide (t_3 < (goLen p_a))) with hc3 | hc3
   ·have hb2:=cond_f hc3 hb2
    refine q_cond_f hF rfl hc3 (q_exit (x_sq ?_))
    obtain rfl:=someI hb2
    exact ⟨nofun,.inl ⟨rfl,rfl,hF.sub trivial,hS⟩⟩
   ·have hb2:=cond_t hc3 hb2
    refine q_cond_t hF rfl hc3 (q_skipc (n_sq (q_seq (q_block (q_sr (q_m hF rfl fun a hF=>q_s hF rfl fun a hF=>q_end (n_sq (q_seq (e_region ⟨[],[],m⟩ mixed fun w' hw'=>?_)))))))))
    have hS:=hS.below hw'
    refine e_P (v:=s1.v) 0 hF rfl (ex_move rfl) fun a hF=>e_P (v:=(iV t_3)) 1 hF rfl (ex_move rfl) fun a hF=>?_
    obtain ⟨e_4,he_4,hb2⟩:=bindS hb2
    obtain ⟨vs5,at5,d5⟩:=h1.at he_4 1 rfl
    obtain ⟨s6,rfl,h6⟩ : ∃ s6 : Sl,vs5 = [s6.v]∧Rd m s6 e_4:=d5
    refine e_P (v:=(elP s1 (t_3.toNat * 1))) 2 hF rfl (ex_indexAddr U23 sz28 rfl rfl (h1.idx he_4)) fun a hF=>e_xm (v:=s6.v) 3 hF hS (Mem.le.refl _) rfl (ex_loadE1 0 U28 rfl rfl ((at5).at) rfl rfl) rfl rfl (by kernel_rfl) (by kernel_rfl) (by kernel_rfl) fun a hF=>e_P (v:=s2.v) 4 hF rfl (ex_move rfl) fun a hF=>e_P (v:=(iV t_3)) 5 hF rfl (ex_move rfl) fun a hF=>?_
    obtain ⟨e_7,he_7,hb2⟩:=bindS hb2
    obtain ⟨vs8,at8,d8⟩:=h2.at he_7 1 rfl
    obtain ⟨s9,rfl,h9⟩ : ∃ s9 : Sl,vs8 = [s9.v]∧Rd m s9 e_7:=d8
    refine e_P (v:=(elP s2 (t_3.toNat * 1))) 6 hF rfl (ex_indexAddr U23 sz28 rfl rfl (h2.idx he_7)) fun a hF=>e_xm (v:=s9.v) 7 hF hS (Mem.le.refl _) rfl (ex_loadE1 0 U28 rfl rfl ((at8).at) rfl rfl) rfl rfl (by kernel_rfl) (by kernel_rfl) (by kernel_rfl) fun a hF=>e_one 8 (by kernel_rfl) ?_
    obtain ⟨t_10,ht_10,hb2⟩:=bindS hb2
    refine e_call (vs:=[s6.v,s9.v]) hF hS rfl Try.func55 (by kernel_rfl) rfl rfl rfl (c_laws_sameInts e_4 e_7 t_10 ht_10 _ m hS.vis s6 h6 s9 h9) ?_
    rintro a w _ rfl hF hS
    refine e_P (v:=(.bool (!t_10))) 9 hF rfl (ex_not rfl) fun a hF=>e_end (by kernel_rfl) (n_sq ?_) _
    rcases bcase (!t_10) with hc4 | hc4
    ·have hb2:=cond_f hc4 hb2
     refine q_cond_f hF rfl hc4 (q_skipc (n_ib (n_sq (q_region (q_y (v:=(iV (w64 (t_3 + 1)))) hF hS (ex_ibin rfl rfl rfl) fun a hF=>q_m hF rfl fun a hF=>q_end ?_)))))
     obtain rfl:=someI hb2
     exact ⟨rfl,hF.sub ⟨rfl,rfl,rfl,rfl,trivial⟩,hS⟩
    ·have hb2:=cond_t hc4 hb2
     refine q_cond_t hF rfl hc4 (q_sr (q_s hF rfl fun a hF=>q_end (n_sq (q_ret (r_ib (r_sq ?_))))))
     obtain rfl:=someI hb2
     refine ⟨nofun,.inr fun ho=>?_⟩
     subst ho
     refine r_ib (r_sq ?_)
     obtain rfl:=someI hr
     exact ret_of hF hS rfl (.tmp rfl .nil) rfl
  ·rintro e a w ⟨rfl,rfl,hF,hS⟩
   refine x_ib (n_sq ?_)
   refine q_sr (q_s hF rfl fun a hF=>q_end (n_sq (q_ret ?_)))
   obtain rfl:=someI hr
   exact ret_of hF hS rfl (.tmp rfl .nil) rfl
 ·have hr:=cond_t hc1 hr
  refine q_cond_t hF rfl hc1 (q_sr (q_s hF rfl fun a hF=>q_end (n_sq (q_ret (r_sq ?_)))))
  obtain rfl:=someI hr
  exact ret_of hF hS rfl (.tmp rfl .nil) rfl

theorem c_laws_pSameRounding (p_a : impl_Rounding) (p_b : impl_Rounding) (r : Bool) (hr : laws_pSameRounding p_a p_b = some r) (w0 : World) (m : Mem) (hv : Vis m w0) (s1 : Sl) (h1 : Rd m s1 p_a.Cells) (s2 : Sl) (h2 : Rd m s2 p_a.Rows) (s3 : Sl) (h3 : Rd m s3 p_a.Cols) (s4 : Sl) (h4 : Rd m s4 p_b.Cells) (s5 : Sl) (h5 : Rd m s5 p_b.Rows) (s6 : Sl) (h6 : Rd m s6 p_b.Cols) :
  Ret Try.prog 61 [(.agg #[s1.v,s2.v,s3.v,(iV p_a.Total)]),(.agg #[s4.v,s5.v,s6.v,(iV p_b.Total)])] w0 (fun v _=>v = (.bool r)):=by
 unfold laws_pSameRounding at hr
 refine ret_start Try.func61 rfl 31 rfl rfl m hv fun a hF hS=>q_sr (q_box (cs:=[s1.v,s2.v,s3.v,(iV p_a.Total)]) hF hS rfl rfl rfl fun a w b7 hF hS=>q_box (cs:=[s4.v,s5.v,s6.v,(iV p_b.Total)]) hF hS rfl rfl rfl fun a w b8 hF hS=>q_s hF rfl fun a hF=>q_end (n_sq (q_seq ?_)))
 obtain ⟨t_12,hj1,hr⟩:=bindS hr
 refine q_join (fun a w=>Fr a 31 [(4,(.bool t_12))]∧St [] w0 w m []) ?_ ?_
 ·refine q_region (q_y (v:=(pP b7 0)) hF hS (ex_fieldAddr U74 rfl sz23 rfl rfl) fun a hF=>q_y (v:=s1.v) hF hS (ex_load1 1 0 U23 rfl rfl rfl rfl) fun a hF=>q_y (v:=(pP b8 0)) hF hS (ex_fieldAddr U74 rfl sz23 rfl rfl) fun a hF=>q_y (v:=s4.v) hF hS (ex_load1 0 0 U23 rfl rfl rfl rfl) fun a hF=>?_)
  obtain ⟨t_9,ht_9,hj1⟩:=bindS hj1
  refine q_call (vs:=[s1.v,s4.v]) hF hS Try.func47 (by kernel_rfl) rfl rfl rfl (c_laws_sameLists p_a.Cells p_b.Cells t_9 ht_9 _ m hS.vis s1 h1 s4 h4) ?_
  rintro a w _ rfl hF hS
  refine q_m hF rfl fun a hF=>?_
  rcases bcase (t_9) with hc2 | hc2
  ·have hj1:=cond_f hc2 hj1
   refine q_k hF hc2 fun a hF=>q_k hF hc2 fun a hF=>q_k hF hc2 fun a hF=>q_k hF hc2 fun a hF=>q_k hF hc2 fun a hF=>q_y (v:=(.bool false)) hF hS (ex_pick_f rfl rfl hc2) fun a hF=>q_m hF rfl fun a hF=>q_k hF rfl fun a hF=>q_k hF rfl fun a hF=>q_k hF rfl fun a hF=>q_k hF rfl fun a hF=>q_k hF rfl fun a hF=>q_y (v:=(.bool false)) hF hS (ex_pick_f rfl rfl rfl) fun a hF=>q_m hF rfl fun a hF=>q_k hF rfl fun a hF=>q_k hF rfl fun a hF=>q_k hF rfl fun a hF=>q_k hF rfl fun a hF=>q_k hF rfl fun a hF=>q_y (v:=(.bool false)) hF hS (ex_pick_f rfl rfl rfl) fun a hF=>q_s hF rfl fun a hF=>q_end (n_jn ?_)
   obtain rfl:=someI hj1
   exact ⟨hF.sub ⟨rfl,trivial⟩,hS.mask [false,false]⟩
  ·have hj1:=cond_t hc2 hj1
   refine q_g (v:=(pP b7 1)) hF hS (ex_fieldAddr U74 rfl sz28 rfl rfl) hc2 fun a hF=>q_g (v:=s2.v) hF hS (ex_load1 1 0 U28 rfl rfl rfl rfl) hc2 fun a hF=>q_g (v:=(pP b8 1)) hF hS (ex_fieldAddr U74 rfl sz28 rfl rfl) hc2 fun a hF=>q_g (v:=s5.v) hF hS (ex_load1 0 0 U28 rfl rfl rfl rfl) hc2 fun a hF=>?_
   obtain ⟨t_10,ht_10,hj1⟩:=bindS hj1
   refine q_callg (vs:=[s2.v,s5.v]) hF hS (wanted_t hF rfl rfl rfl hc2) Try.func55 (by kernel_rfl) rfl rfl rfl (c_laws_sameInts p_a.Rows p_b.Rows t_10 ht_10 _ m hS.vis s2 h2 s5 h5) ?_
   rintro a w _ rfl hF hS
   refine q_y (v:=(.bool t_10)) hF hS (ex_pick_t rfl rfl hc2) fun a hF=>q_m hF rfl fun a hF=>?_
   rcases bcase (t_10) with hc3 | hc3
   ·have hj1:=cond_f hc3 hj1
    refine q_k hF hc3 fun a hF=>q_k hF hc3 fun a hF=>q_k hF hc3 fun a hF=>q_k hF hc3 fun a hF=>q_k hF hc3 fun a hF=>q_y (v:=(.bool false)) hF hS (ex_pick_f rfl rfl hc3) fun a hF=>q_m hF rfl fun a hF=>q_k hF rfl fun a hF=>q_k hF rfl fun a hF=>q_k hF rfl fun a hF=>q_k hF rfl fun a hF=>q_k hF rfl fun a hF=>q_y (v:=(.bool false)) hF hS (ex_pick_f rfl rfl rfl) fun a hF=>q_s hF rfl fun a hF=>q_end (n_jn ?_)
    obtain rfl:=someI hj1
    exact ⟨hF.sub ⟨rfl,trivial⟩,hS.mask [false,false]⟩
   ·have hj1:=cond_t hc3 hj1
    refine q_g (v:=(pP b7 2)) hF hS (ex_fieldAddr U74 rfl sz28 rfl rfl) hc3 fun a hF=>q_g (v:=s3.v) hF hS (ex_load1 1 0 U28 rfl rfl rfl rfl) hc3 fun a hF=>q_g (v:=(pP b8 2)) hF hS (ex_fieldAddr U74 rfl sz28 rfl rfl) hc3 fun a hF=>q_g (v:=s6.v) hF hS (ex_load1 0 0 U28 rfl rfl rfl rfl) hc3 fun a hF=>?_
    obtain ⟨t_11,ht_11,hj1⟩:=bindS hj1
    refine q_callg (vs:=[s3.v,s6.v]) hF hS (wanted_t hF rfl rfl rfl hc3) Try.func55 (by kernel_rfl) rfl rfl rfl (c_laws_sameInts p_a.Cols p_b.Cols t_11 ht_11 _ m hS.vis s3 h3 s6 h6) ?_
    rintro a w _ rfl hF hS
    refine q_y (v:=(.bool t_11)) hF hS (ex_pick_t rfl rfl hc3) fun a hF=>q_m hF rfl fun a hF=>?_
    rcases bcase (t_11) with hc4 | hc4
    ·have hj1:=cond_f hc4 hj1
     refine q_k hF hc4 fun a hF=>q_k hF hc4 fun a hF=>q_k hF hc4 fun a hF=>q_k hF hc4 fun a hF=>q_k hF hc4 fun a hF=>q_y (v:=(.bool false)) hF hS (ex_pick_f rfl rfl hc4) fun a hF=>q_s hF rfl fun a hF=>q_end (n_jn ?_)
     obtain rfl:=someI hj1
     exact ⟨hF.sub ⟨rfl,trivial⟩,hS.mask [false,false]⟩
    ·have hj1:=cond_t hc4 hj1
     refine q_g (v:=(pP b7 3)) hF hS (ex_fieldAddr U74 rfl sz3 rfl rfl) hc4 fun a hF=>q_g (v:=(iV p_a.Total)) hF hS (ex_load1 1 0 U3 rfl rfl rfl rfl) hc4 fun a hF=>q_g (v:=(pP b8 3)) hF hS (ex_fieldAddr U74 rfl sz3 rfl rfl) hc4 fun a hF=>q_g (v:=(iV p_b.Total)) hF hS (ex_load1 0 0 U3 rfl rfl rfl rfl) hc4 fun a hF=>q_g (v:=(.bool (p_a.Total == p_b.Total))) hF hS (ex_ibin rfl rfl rfl) hc4 fun a hF=>q_y (v:=(.bool (p_a.Total == p_b.Total))) hF hS (ex_pick_t rfl rfl hc4) fun a hF=>q_s hF rfl fun a hF=>q_end (n_jn ?_)
     obtain rfl:=someI hj1
     exact ⟨hF.sub ⟨rfl,trivial⟩,hS.mask [false,false]⟩
 ·rintro a w ⟨hF,hS⟩
  refine n_sq (q_ret ?_)
  obtain rfl:=someI hr
  exact ret_of hF hS rfl (.tmp rfl .nil) rfl

theorem c_impl_isRounded (p_n : Int) (p_base : Int) (p_y : Int) (r : Bool) (hr : impl_isRounded p_n p_base p_y = some r) (w0 : World) (m : Mem) (hv : Vis m w0) :
  Ret Try.prog 143 [(iV p_n),(iV p_base),(iV p_y)] w0 (fun v _=>v = (.bool r)):=by
 unfold impl_isRounded at hr
 refine ret_start Try.func143 rfl 25 rfl rfl m hv fun a hF hS=>q_sr (q_s hF rfl fun a hF=>q_end (n_sq (q_seq ?_)))
 obtain ⟨t_2,hj1,hr⟩:=bindS hr
 refine q_join (fun a w=>Fr a 25 [(6,(.bool t_2))]∧St [] w0 w m []) ?_ ?_
 ·refine q_region (q_m hF rfl fun a hF=>q_m hF rfl fun a hF=>?_)
  obtain ⟨t_1,ht_1,hj1⟩:=bindS hj1
  refine q_y (v:=(iV t_1)) hF hS (ex_rem rfl rfl ht_1) fun a hF=>q_y (v:=(.bool (t_1 == 0))) hF hS (ex_ibin rfl rfl rfl) fun a hF=>q_m hF rfl fun a hF=>?_
  rcases bcase (t_1 == 0) with hc2 | hc2
  ·have hj1:=cond_f hc2 hj1
   refine q_k hF hc2 fun a hF=>q_k hF hc2 fun a hF=>q_k hF hc2 fun a hF=>q_k hF hc2 fun a hF=>q_k hF hc2 fun a hF=>q_y (v:=(.bool false)) hF hS (ex_pick_f rfl rfl hc2) fun a hF=>q_m hF rfl fun a hF=>q_k hF rfl fun a hF=>q_k hF rfl fun a hF=>q_k hF rfl fun a hF=>q_k hF rfl fun a hF=>q_k hF rfl fun a hF=>q_y (v:=(.bool false)) hF hS (ex_pick_f rfl rfl rfl) fun a hF=>q_s hF rfl fun a hF=>q_end (n_jn ?_)
   obtain rfl:=someI hj1
   exact ⟨hF.sub ⟨rfl,trivial⟩,hS⟩
  ·have hj1:=cond_t hc2 hj1
   refine q_g (v:=(iV p_y)) hF hS (ex_move rfl) hc2 fun a hF=>q_g (v:=(iV p_n)) hF hS (ex_move rfl) hc2 fun a hF=>q_g (v:=(iV p_base)) hF hS (ex_move rfl) hc2 fun a hF=>q_g (v:=(iV (w64 (p_n - p_base)))) hF hS (ex_ibin rfl rfl rfl) hc2 fun a hF=>q_g (v:=(.bool (decide ((w64 (p_n - p_base)) < p_y)))) hF hS (ex_ibin rfl rfl rfl) hc2 fun a hF=>q_y (v:=(.bool (decide ((w64 (p_n - p_base)) < p_y)))) hF hS (ex_pick_t rfl rfl hc2) fun a hF=>q_m hF rfl fun a hF=>?_
   rcases bcase (decide ((w64 (p_n - p_base)) < p_y)) with hc3 | hc3
   ·have hj1:=cond_f hc3 hj1
    refine q_k hF hc3 fun a hF=>q_k hF hc3 fun a hF=>q_k hF hc3 fun a hF=>q_k hF hc3 fun a hF=>q_k hF hc3 fun a hF=>q_y (v:=(.bool false)) hF hS (ex_pick_f rfl rfl hc3) fun a hF=>q_s hF rfl fun a hF=>q_end (n_jn ?_)
    obtain rfl:=someI hj1
    exact ⟨hF.sub ⟨rfl,trivial⟩,hS⟩
   ·have hj1:=cond_t hc3 hj1
    refine q_g (v:=(iV p_y)) hF hS (ex_move rfl) hc3 fun a hF=>q_g (v:=(iV p_n)) hF hS (ex_move rfl) hc3 fun a hF=>q_g (v:=(iV p_base)) hF hS (ex_move rfl) hc3 fun a hF=>q_g (v:=(iV (w64 (p_n + p_base)))) hF hS (ex_ibin rfl rfl rfl) hc3 fun a hF=>q_g (v:=(.bool (decide (p_y < (w64 (p_n + p_base)))))) hF hS (ex_ibin rfl rfl rfl) hc3 fun a hF=>q_y (v:=(.bool (decide (p_y < (w64 (p_n + p_base)))))) hF hS (ex_pick_t rfl rfl hc3) fun a hF=>q_s hF rfl fun a hF=>q_end (n_jn ?_)
    obtain rfl:=someI hj1
    exact ⟨hF.sub ⟨rfl,trivial⟩,hS⟩
 ·rintro a w ⟨hF,hS⟩
  refine n_sq (q_ret ?_)
  obtain rfl:=someI hr
  exact ret_of hF hS rfl (.tmp rfl .nil) rfl

theorem c_impl_IsRounding (p_x : List (List Int)) (p_base : Int) (p_y : impl_Rounding) (r : Bool × Bool) (hr : impl_IsRounding p_x p_base p_y = some r) (w0 : World) (m : Mem) (hv : Vis m w0) (s1 : Sl) (h1 : Rd m s1 p_x) (s2 : Sl) (h2 : Rd m s2 p_y.Cells) (s3 : Sl) (h3 : Rd m s3 p_y.Rows) (s4 : Sl) (h4 : Rd m s4 p_y.Cols) :
  Ret Try.prog 62 [s1.v,(iV p_base),(.agg #[s2.v,s3.v,s4.v,(iV p_y.Total)])] w0 (fun v _=>v = (.tuple #[(.bool r.1),(.bool r.2)])):=by
 unfold impl_IsRounding at hr
 refine ret_start Try.func62 rfl 150 rfl rfl m hv fun a hF hS=>q_sr (q_box (cs:=[s2.v,s3.v,s4.v,(iV p_y.Total)]) hF hS rfl rfl rfl fun a w b5 hF hS=>q_s hF rfl fun a hF=>q_s hF rfl fun a hF=>q_end (n_sq (q_seq (q_seq ?_))))
 obtain ⟨t_8,hj1,hr⟩:=bindS hr
 refine q_join (fun a w=>Fr a 150 [(0,s1.v),(1,(iV p_base)),(5,(pP b5 0)),(25,(.bool t_8))]∧St [] w0 w m [[⟨b5,[s2.v,s3.v,s4.v,(iV p_y.Total)],74⟩]]) ?_ ?_
 ·refine q_region (q_m hF rfl fun a hF=>?_)
  obtain ⟨t_6,ht_6,hj1⟩:=bindS hj1
  refine q_call (vs:=[s1.v]) hF hS Try.func135 (by kernel_rfl) rfl rfl rfl (c_impl_isMatrix p_x t_6 ht_6 _ m hS.vis s1 h1) ?_
  rintro a w _ rfl hF hS
  refine q_y (v:=(.bool (!t_6))) hF hS (ex_not rfl) fun a hF=>q_m hF rfl fun a hF=>?_
  rcases bcase (!t_6) with hc2 | hc2
  ·have hj1:=cond_f hc2 hj1
   refine q_g (v:=(iV p_base)) hF hS (ex_move rfl) hc2 fun a hF=>?_
   obtain ⟨t_7,ht_7,hj1⟩:=bindS hj1
   refine q_callg (vs:=[(iV p_base)]) hF hS (wanted_t hF rfl rfl rfl hc2) Try.func136 (by kernel_rfl) rfl rfl rfl (c_impl_isBaseOf p_base t_7 ht_7 _ m hS.vis) ?_
   rintro a w _ rfl hF hS
   refine q_g (v:=(.bool (!t_7))) hF hS (ex_not rfl) hc2 fun a hF=>q_y (v:=(.bool (!t_7))) hF hS (ex_pick_f rfl rfl hc2) fun a hF=>q_end (n_jn ?_)
   obtain rfl:=someI hj1
   exact ⟨hF.sub ⟨rfl,rfl,rfl,rfl,trivial⟩,hS⟩
  ·have hj1:=cond_t hc2 hj1
   refine q_k hF hc2 fun a hF=>q_k hF hc2 fun a hF=>q_k hF hc2 fun a hF=>q_y (v:=(.bool true)) hF hS (ex_pick_t rfl rfl hc2) fun a hF=>q_end (n_jn ?_)
   obtain rfl:=someI hj1
   exact ⟨hF.sub ⟨rfl,rfl,rfl,rfl,trivial⟩,hS⟩
 ·rintro a w ⟨hF,hS⟩
  refine n_sq ?_
  rcases bcase (t_8) with hc3 | hc3
  ·have hr:=cond_f hc3 hr
   refine q_cond_f hF rfl hc3 (q_skipc (n_sq (q_seq (q_seq ?_))))
   obtain ⟨t_16,hj4,hr⟩:=bindS hr
   refine q_join (fun a w=>Fr a 150 [(0,s1.v),(1,(iV p_base)),(5,(pP b5 0)),(53,(.bool t_16))]∧St [] w0 w m [[⟨b5,[s2.v,s3.v,s4.v,(iV p_y.Total)],74⟩]]) ?_ ?_
   ·refine e_region ⟨[],[],m⟩ mixed fun w' hw'=>?_
    have hS:=hS.below hw'
    refine e_P (v:=(pP b5 0)) 0 hF rfl (ex_fieldAddr U74 rfl sz23 rfl rfl) fun a hF=>e_X (v:=s2.v) 1 hF hS rfl (ex_load1 0 0 U23 rfl rfl rfl rfl) fun a hF=>e_P (v:=s1.v) 2 hF rfl (ex_move rfl) fun a hF=>e_P (v:=(iV (goLen p_x))) 3 hF rfl (ex_len U23 rfl h1.len) fun a hF=>e_P (v:=s1.v) 4 hF rfl (ex_move rfl) fun a hF=>?_
    obtain ⟨e_9,he_9,hj4⟩:=bindS hj4
    obtain ⟨vs10,at10,d10⟩:=h1.at he_9 1 rfl
    obtain ⟨s11,rfl,h11⟩ : ∃ s11 : Sl,vs10 = [s11.v]∧Rd m s11 e_9:=d10
    refine e_P (v:=(elP s1 ((0 : Int).toNat * 1))) 5 hF rfl (ex_indexAddr U23 sz28 rfl rfl (h1.idx he_9)) fun a hF=>e_xm (v:=s11.v) 6 hF hS (Mem.le.refl _) rfl (ex_loadE1 0 U28 rfl rfl ((at10).at) rfl rfl) rfl rfl (by kernel_rfl) (by kernel_rfl) (by kernel_rfl) fun a hF=>e_P (v:=(iV (goLen e_9))) 7 hF rfl (ex_len U28 rfl h11.len) fun a hF=>e_one 8 (by kernel_rfl) ?_
    obtain ⟨t_12,ht_12,hj4⟩:=bindS hj4
    refine e_call (vs:=[s2.v,(iV (goLen p_x)),(iV (goLen e_9))]) hF hS rfl Try.func88 (by kernel_rfl) rfl rfl rfl (c_impl_hasShape p_y.Cells (goLen p_x) (goLen e_9) t_12 ht_12 _ m hS.vis s2 h2) ?_
    rintro a w _ rfl hF hS
    refine e_P (v:=(.bool (!t_12))) 9 hF rfl (ex_not rfl) fun a hF=>e_P (v:=(.bool (!t_12))) 10 hF rfl (ex_move rfl) fun a hF=>?_
    rcases bcase (!t_12) with hc5 | hc5
    ·have hj4:=cond_f hc5 hj4
     refine e_pg (v:=(pP b5 1)) 11 hF rfl (ex_fieldAddr U74 rfl sz28 rfl rfl) (wanted_t hF rfl rfl rfl hc5) rfl (by kernel_rfl) (by kernel_rfl) (by kernel_rfl) fun a hF=>e_xg (v:=s3.v) 12 hF hS rfl (ex_load1 0 0 U28 rfl rfl rfl rfl) (wanted_t hF rfl rfl rfl hc5) rfl (by kernel_rfl) (by kernel_rfl) (by kernel_rfl) (by kernel_rfl) fun a hF=>e_pg (v:=(iV (goLen p_y.Rows))) 13 hF rfl (ex_len U28 rfl h3.len) (wanted_t hF rfl rfl rfl hc5) rfl (by kernel_rfl) (by kernel_rfl) (by kernel_rfl) fun a hF=>e_pg (v:=s1.v) 14 hF rfl (ex_move rfl) (wanted_t hF rfl rfl rfl hc5) rfl (by kernel_rfl) (by kernel_rfl) (by kernel_rfl) fun a hF=>e_pg (v:=(iV (goLen p_x))) 15 hF rfl (ex_len U23 rfl h1.len) (wanted_t hF rfl rfl rfl hc5) rfl (by kernel_rfl) (by kernel_rfl) (by kernel_rfl) fun a hF=>e_pg (v:=(.bool ((goLen p_y.Rows) != (goLen p_x)))) 16 hF rfl (ex_ibin rfl rfl rfl) (wanted_t hF rfl rfl rfl hc5) rfl (by kernel_rfl) (by kernel_rfl) (by kernel_rfl) fun a hF=>e_P (v:=(.bool ((goLen p_y.Rows) != (goLen p_x)))) 17 hF rfl (ex_pick_f rfl rfl hc5) fun a hF=>e_P (v:=(.bool ((goLen p_y.Rows) != (goLen p_x)))) 18 hF rfl (ex_move rfl) fun a hF=>?_
     rcases bcase ((goLen p_y.Rows) != (goLen p_x)) with hc6 | hc6
     ·have hj4:=cond_f hc6 hj4
      refine e_pg (v:=(pP b5 2)) 19 hF rfl (ex_fieldAddr U74 rfl sz28 rfl rfl) (wanted_t hF rfl rfl rfl hc6) rfl (by kernel_rfl) (by kernel_rfl) (by kernel_rfl) fun a hF=>e_xg (v:=s4.v) 20 hF hS rfl (ex_load1 0 0 U28 rfl rfl rfl rfl) (wanted_t hF rfl rfl rfl hc6) rfl (by kernel_rfl) (by kernel_rfl) (by kernel_rfl) (by kernel_rfl) fun a hF=>e_pg (v:=(iV (goLen p_y.Cols))) 21 hF rfl (ex_len U28 rfl h4.len) (wanted_t hF rfl rfl rfl hc6) rfl (by kernel_rfl) (by kernel_rfl) (by kernel_rfl) fun a hF=>e_pg (v:=s1.v) 22 hF rfl (ex_move rfl) (wanted_t hF rfl rfl rfl hc6) rfl (by kernel_rfl) (by kernel_rfl) (by kernel_rfl) fun a hF=>?_
      obtain ⟨e_13,he_13,hj4⟩:=bindS hj4
      obtain ⟨vs14,at14,d14⟩:=h1.at he_13 1 rfl
      obtain ⟨s15,rfl,h15⟩ : ∃ s15 : Sl,vs14 = [s15.v]∧Rd m s15 e_13:=d14
      refine e_pg (v:=(elP s1 ((0 : Int).toNat * 1))) 23 hF rfl (ex_indexAddr U23 sz28 rfl rfl (h1.idx he_13)) (wanted_t hF rfl rfl rfl hc6) rfl (by kernel_rfl) (by kernel_rfl) (by kernel_rfl) fun a hF=>e_xg (v:=s15.v) 24 hF hS rfl (ex_loadE1 0 U28 rfl rfl ((at14).at) rfl rfl) (wanted_t hF rfl rfl rfl hc6) rfl (by kernel_rfl) (by kernel_rfl) (by kernel_rfl) (by kernel_rfl) fun a hF=>e_pg (v:=(iV (goLen e_13))) 25 hF rfl (ex_len U28 rfl h15.len) (wanted_t hF rfl rfl rfl hc6) rfl (by kernel_rfl) (by kernel_rfl) (by kernel_rfl) fun a hF=>e_pg (v:=(.bool ((goLen p_y.Cols) != (goLen e_13)))) 26 hF rfl (ex_ibin rfl rfl rfl) (wanted_t hF rfl rfl rfl hc6) rfl (by kernel_rfl) (by kernel_rfl) (by kernel_rfl) fun a hF=>e_P (v:=(.bool ((goLen p_y.Cols) != (goLen e_13)))) 27 hF rfl (ex_pick_f rfl rfl hc6) fun a hF=>e_end (by kernel_rfl) (n_jn ?_) _
      obtain rfl:=someI hj4
      exact ⟨hF.sub ⟨rfl,rfl,rfl,rfl,trivial⟩,hS⟩
     ·have hj4:=cond_t hc6 hj4
      refine e_skipP 19 hF rfl (wanted_f hF rfl rfl rfl hc6 rfl) rfl (by kernel_rfl) (by kernel_rfl) (by kernel_rfl) fun a hF=>e_skipP 20 hF rfl (wanted_f hF rfl rfl rfl hc6 rfl) rfl (by kernel_rfl) (by kernel_rfl) (by kernel_rfl) fun a hF=>e_skipP 21 hF rfl (wanted_f hF rfl rfl rfl hc6 rfl) rfl (by kernel_rfl) (by kernel_rfl) (by kernel_rfl) fun a hF=>e_skipP 22 hF rfl (wanted_f hF rfl rfl rfl hc6 rfl) rfl (by kernel_rfl) (by kernel_rfl) (by kernel_rfl) fun a hF=>e_skipP 23 hF rfl (wanted_f hF rfl rfl rfl hc6 rfl) rfl (by kernel_rfl) (by kernel_rfl) (by kernel_rfl) fun a hF=>e_skipP 24 hF rfl (wanted_f hF rfl rfl rfl hc6 rfl) rfl (by kernel_rfl) (by kernel_rfl) (by kernel_rfl) fun a hF=>e_skipP 25 hF rfl (wanted_f hF rfl rfl rfl hc6 rfl) rfl (by kernel_rfl) (by kernel_rfl) (by kernel_rfl) fun a hF=>e_skipP 26 hF rfl (wanted_f hF rfl rfl rfl hc6 rfl) rfl (by kernel_rfl) (by kernel_rfl) (by kernel_rfl) fun a hF=>e_P (v:=(.bool true)) 27 hF rfl (ex_pick_t rfl rfl hc6) fun a hF=>e_end (by kernel_rfl) (n_jn ?_) _
      obtain rfl:=someI hj4
      exact ⟨hF.sub ⟨rfl,rfl,rfl,rfl,trivial⟩,hS⟩
    ·have hj4:=cond_t hc5 hj4
     refine e_skipP 11 hF rfl (wanted_f hF rfl rfl rfl hc5 rfl) rfl (by kernel_rfl) (by kernel_rfl) (by kernel_rfl) fun a hF=>e_skipP 12 hF rfl (wanted_f hF rfl rfl rfl hc5 rfl) rfl (by kernel_rfl) (by kernel_rfl) (by kernel_rfl) fun a hF=>e_skipP 13 hF rfl (wanted_f hF rfl rfl rfl hc5 rfl) rfl (by kernel_rfl) (by kernel_rfl) (by kernel_rfl) fun a hF=>e_skipP 14 hF rfl (wanted_f hF rfl rfl rfl hc5 rfl) rfl (by kernel_rfl) (by kernel_rfl) (by kernel_rfl) fun a hF=>e_skipP 15 hF rfl (wanted_f hF rfl rfl rfl hc5 rfl) rfl (by kernel_rfl) (by kernel_rfl) (by kernel_rfl) fun a hF=>e_skipP 16 hF rfl (wanted_f hF rfl rfl rfl hc5 rfl) rfl (by kernel_rfl) (by kernel_rfl) (by kernel_rfl) fun a hF=>e_P (v:=(.bool true)) 17 hF rfl (ex_pick_t rfl rfl hc5) fun a hF=>e_P (v:=(.bool true)) 18 hF rfl (ex_move rfl) fun a hF=>e_skipP 19 hF rfl (wanted_f hF rfl rfl rfl rfl rfl) rfl (by kernel_rfl) (by kernel_rfl) (by kernel_rfl) fun a hF=>e_skipP 20 hF rfl (wanted_f hF rfl rfl rfl rfl rfl) rfl (by kernel_rfl) (by kernel_rfl) (by kernel_rfl) fun a hF=>e_skipP 21 hF rfl (wanted_f hF rfl rfl rfl rfl rfl) rfl (by kernel_rfl) (by kernel_rfl) (by kernel_rfl) fun a hF=>e_skipP 22 hF rfl (wanted_f hF rfl rfl rfl rfl rfl) rfl (by kernel_rfl) (by kernel_rfl) (by kernel_rfl) fun a hF=>e_skipP 23 hF rfl (wanted_f hF rfl rfl rfl rfl rfl) rfl (by kernel_rfl) (by kernel_rfl) (by kernel_rfl) fun a hF=>e_skipP 24 hF rfl (wanted_f hF rfl rfl rfl rfl rfl) rfl (by kernel_rfl) (by kernel_rfl) (by kernel_rfl) fun a hF=>e_skipP 25 hF rfl (wanted_f hF rfl rfl rfl rfl rfl) rfl (by kernel_rfl) (by kernel_rfl) (by kernel_rfl) fun a hF=>e_skipP 26 hF rfl (wanted_f hF rfl rfl rfl rfl rfl) rfl (by kernel_rfl) (by kernel_rfl) (by kernel_rfl) fun a hF=>e_P (v:=(.bool true)) 27 hF rfl (ex_pick_t rfl rfl rfl) fun a hF=>e_end (by kernel_rfl) (n_jn ?_) _
     obtain rfl:=someI hj4
     exact ⟨hF.sub ⟨rfl,rfl,rfl,rfl,trivial⟩,hS⟩
   ·rintro a w ⟨hF,hS⟩
    refine n_sq ?_
    rcases bcase (t_16) with hc7 | hc7
    ·have hr:=cond_f hc7 hr
     refine q_cond_f hF rfl hc7 (q_skipc (n_sq (q_sr (q_m hF rfl fun a hF=>?_))))
     obtain ⟨t_17,ht_17,hr⟩:=bindS hr
     refine q_call (vs:=[s1.v]) hF hS Try.func142 (by kernel_rfl) rfl rfl rfl (c_impl_summed p_x t_17 ht_17 _ m hS.vis s1 h1) ?_
     rintro a w _ ⟨q19,q20,q21,s19,s20,s21,rfl,hR18,h19,h20,h21⟩ hF hS2
     have hS : St _ _ _ _ [q19,q20,q21,[⟨b5,[s2.v,s3.v,s4.v,(iV p_y.Total)],74⟩]]:=hS.joinF hR18
     refine q_alloc (cs:=[nilS.v,nilS.v,nilS.v,(iV 0)]) hF hS rfl rfl rfl fun a w b22 hF hS=>q_store (vs:=[s19.v,s20.v,s21.v,(iV t_17.Total)]) (cs':=[s19.v,s20.v,s21.v,(iV t_17.Total)]) 0 0 hF hS sz74 rfl rfl rfl rfl rfl rfl rfl rfl fun a w hF hS=>q_end (n_sq (q_seq (q_sr (q_m hF rfl fun a hF=>q_y (v:=(iV (goLen p_x))) hF hS (ex_len U23 rfl h1.len) fun a hF=>q_m hF rfl fun a hF=>q_end (n_sq (q_block ?_))))))
     obtain ⟨o8,hl8,hr⟩:=bindS hr
     refine q_loop (fun (t_23 : Int) a w=>Fr a 150 [(1,(iV p_base)),(5,(pP b5 0)),(8,(pP b22 0)),(56,s1.v),(57,(iV (goLen p_x))),(58,(iV t_23))]∧St [] w0 w m [[⟨b22,[s19.v,s20.v,s21.v,(iV t_17.Total)],74⟩],q19,q20,q21,[⟨b5,[s2.v,s3.v,s4.v,(iV p_y.Total)],74⟩]]) (fun (o : (Unit) ⊕ (Bool × Bool)) e a w=>o = .inl ()∧e = .exit 0∧Fr a 150 [(1,(iV p_base)),(5,(pP b5 0)),(8,(pP b22 0))]∧St [] w0 w m [q19,q20,q21,[⟨b22,[s19.v,s20.v,s21.v,(iV t_17.Total)],74⟩],[⟨b5,[s2.v,s3.v,s4.v,(iV p_y.Total)],74⟩]]) hl8 ⟨hF.sub ⟨rfl,rfl,rfl,rfl,rfl,rfl,trivial⟩,hS⟩ ?_ ?_
     ·clear hF hS
      rintro t_23 a w st ⟨hF,hS⟩ hb8
      unfold impl_IsRounding_l1 at hb8
      refine q_sr (q_y (v:=(.bool (decide (t_23 < (goLen p_x))))) hF hS (ex_ibin rfl rfl rfl) fun a hF=>q_end (n_sq (q_seq ?_)))
      rcases bcase (decide (t_23 < (goLen p_x))) with hc9 | hc9
      ·have hb8:=cond_f hc9 hb8
       refine q_cond_f hF rfl hc9 (q_exit (x_sq ?_))
       obtain rfl:=someI hb8
       exact ⟨nofun,.inl ⟨rfl,rfl,hF.sub ⟨rfl,rfl,rfl,trivial⟩,hS.sel [1,2,3,0,4] (by decide)⟩⟩
      ·have hb8:=cond_t hc9 hb8
       refine q_cond_t hF rfl hc9 (q_skipc (n_sq (q_seq (q_block (q_sr (q_m hF rfl fun a hF=>?_))))))
       obtain ⟨e_24,he_24,hb8⟩:=bindS hb8
       obtain ⟨vs25,at25,d25⟩:=h1.at he_24 1 rfl
       obtain ⟨s26,rfl,h26⟩ : ∃ s26 : Sl,vs25 = [s26.v]∧Rd m s26 e_24:=d25
       refine q_y (v:=(elP s1 (t_23.toNat * 1))) hF hS (ex_indexAddr U23 sz28 rfl rfl (h1.idx he_24)) fun a hF=>q_y (v:=s26.v) hF hS (ex_loadE1 0 U28 rfl rfl ((at25).at) rfl rfl) fun a hF=>q_s hF rfl fun a hF=>q_s hF rfl fun a hF=>q_end (n_sq (q_sr (q_m hF rfl fun a hF=>q_y (v:=(iV (goLen e_24))) hF hS (ex_len U28 rfl h26.len) fun a hF=>q_m hF rfl fun a hF=>q_end (n_sq (q_block ?_)))))
       obtain ⟨o10,hl10,hb8⟩:=bindS hb8
       refine q_loop (fun (t_27 : Int) a w=>Fr a 150 [(1,(iV p_base)),(5,(pP b5 0)),(8,(pP b22 0)),(9,(iV t_23)),(56,s1.v),(57,(iV (goLen p_x))),(58,(iV t_23)),(63,s26.v),(64,(iV (goLen e_24))),(65,(iV t_27))]∧St [] w0 w m [[⟨b22,[s19.v,s20.v,s21.v,(iV t_17.Total)],74⟩],q19,q20,q21,[⟨b5,[s2.v,s3.v,s4.v,(iV p_y.Total)],74⟩]]) (fun (o : (Unit) ⊕ (Stp (Int) ((Unit) ⊕ (Bool × Bool)))) e a w=>o = .inl ()∧e = .exit 2∧Fr a 150 [(1,(iV p_base)),(5,(pP b5 0)),(8,(pP b22 0)),(56,s1.v),(57,(iV (goLen p_x))),(58,(iV t_23))]∧St [] w0 w m [q19,q20,q21,[⟨b22,[s19.v,s20.v,s21.v,(iV t_17.Total)],74⟩],[⟨b5,[s2.v,s3.v,s4.v,(iV p_y.Total)],74⟩]]) hl10 ⟨hF.sub ⟨rfl,rfl,rfl,rfl,rfl,rfl,rfl,rfl,rfl,rfl,trivial⟩,hS⟩ ?_ ?_
       ·clear hF hS
        rintro t_27 a w st ⟨hF,hS⟩ hb10
        unfold impl_IsRounding_l2 at hb10
        refine q_sr (q_y (v:=(.bool (decide (t_27 < (goLen e_24))))) hF hS (ex_ibin rfl rfl rfl) fun a hF=>q_end (n_sq (q_seq ?_)))
        rcases bcase (decide (t_27 < (goLen e_24))) with hc11 | hc11
        ·have hb10:=cond_f hc11 hb10
         refine q_cond_f hF rfl hc11 (q_exit (x_sq ?_))
         obtain rfl:=someI hb10
         exact ⟨nofun,.inl ⟨rfl,rfl,hF.sub ⟨rfl,rfl,rfl,rfl,rfl,rfl,trivial⟩,hS.sel [1,2,3,0,4] (by decide)⟩⟩
        ·have hb10:=cond_t hc11 hb10
         refine q_cond_t hF rfl hc11 (q_skipc (n_sq (q_seq (q_block (q_sr (q_m hF rfl fun a hF=>?_))))))
         obtain ⟨e_28,he_28,hb10⟩:=bindS hb10
         obtain ⟨vs29,at29,d29⟩:=h26.at he_28 1 rfl
         obtain rfl : vs29 = [(iV e_28)]:=d29
         refine q_y (v:=(elP s26 (t_27.toNat * 1))) hF hS (ex_indexAddr U28 sz3 rfl rfl (h26.idx he_28)) fun a hF=>q_y (v:=(iV e_28)) hF hS (ex_loadE1 0 U3 rfl rfl ((at29).at) rfl rfl) fun a hF=>q_s hF rfl fun a hF=>q_s hF rfl fun a hF=>q_end (n_sq (q_sr (q_m hF rfl fun a hF=>q_m hF rfl fun a hF=>q_y (v:=(pP b5 0)) hF hS (ex_fieldAddr U74 rfl sz23 rfl rfl) fun a hF=>q_y (v:=s2.v) hF hS (ex_load1 4 0 U23 rfl rfl rfl rfl) fun a hF=>q_m hF rfl fun a hF=>?_)))
         obtain ⟨e_30,he_30,hb10⟩:=bindS hb10
         obtain ⟨vs31,at31,d31⟩:=h2.at he_30 1 rfl
         obtain ⟨s32,rfl,h32⟩ : ∃ s32 : Sl,vs31 = [s32.v]∧Rd m s32 e_30:=d31
         refine q_y (v:=(elP s2 (t_23.toNat * 1))) hF hS (ex_indexAddr U23 sz28 rfl rfl (h2.idx he_30)) fun a hF=>q_y (v:=s32.v) hF hS (ex_loadE1 0 U28 rfl rfl ((at31).at) rfl rfl) fun a hF=>q_m hF rfl fun a hF=>?_
         obtain ⟨e_33,he_33,hb10⟩:=bindS hb10
         obtain ⟨vs34,at34,d34⟩:=h32.at he_33 1 rfl
         obtain rfl : vs34 = [(iV e_33)]:=d34
         refine q_y (v:=(elP s32 (t_27.toNat * 1))) hF hS (ex_indexAddr U28 sz3 rfl rfl (h32.idx he_33)) fun a hF=>q_y (v:=(iV e_33)) hF hS (ex_loadE1 0 U3 rfl rfl ((at34).at) rfl rfl) fun a hF=>?_
         obtain ⟨t_35,ht_35,hb10⟩:=bindS hb10
         refine q_call (vs:=[(iV e_28),(iV p_base),(iV e_33)]) hF hS Try.func143 (by kernel_rfl) rfl rfl rfl (c_impl_isRounded e_28 p_base e_33 t_35 ht_35 _ m hS.vis) ?_
         rintro a w _ rfl hF hS
         refine q_y (v:=(.bool (!t_35))) hF hS (ex_not rfl) fun a hF=>q_end (n_sq ?_)
         rcases bcase (!t_35) with hc12 | hc12
         ·have hb10:=cond_f hc12 hb10
          refine q_cond_f hF rfl hc12 (q_skipc (n_ib (n_sq (q_region (q_y (v:=(iV (w64 (t_27 + 1)))) hF hS (ex_ibin rfl rfl rfl) fun a hF=>q_m hF rfl fun a hF=>q_end ?_)))))
          obtain rfl:=someI hb10
          exact ⟨rfl,hF.sub ⟨rfl,rfl,rfl,rfl,rfl,rfl,rfl,rfl,rfl,rfl,trivial⟩,hS⟩
         ·have hb10:=cond_t hc12 hb10
          refine q_cond_t hF rfl hc12 (q_sr (q_s hF rfl fun a hF=>q_s hF rfl fun a hF=>q_end (n_sq (q_ret (r_ib (r_sq ?_))))))
          obtain rfl:=someI hb10
          refine ⟨nofun,.inr fun ho=>?_⟩
          subst ho
          refine r_ib (r_ib (r_sq ?_))
          obtain rfl:=someI hb8
          refine ⟨nofun,.inr fun ho=>?_⟩
          subst ho
          refine r_ib (r_sq ?_)
          obtain rfl:=someI hr
          exact ret_of hF hS rfl (.tmp rfl (.tmp rfl .nil)) rfl
       ·rintro e a w ⟨rfl,rfl,hF,hS⟩
        refine x_ib (n_ib (n_sq ?_))
        refine q_region (q_y (v:=(iV (w64 (t_23 + 1)))) hF hS (ex_ibin rfl rfl rfl) fun a hF=>q_m hF rfl fun a hF=>q_end ?_)
        obtain rfl:=someI hb8
        exact ⟨rfl,hF.sub ⟨rfl,rfl,rfl,rfl,rfl,rfl,trivial⟩,hS.sel [3,0,1,2,4] (by decide)⟩
     ·rintro e a w ⟨rfl,rfl,hF,hS⟩
      refine x_ib (n_sq ?_)
      refine q_sr (q_y (v:=(pP b5 0)) hF hS (ex_fieldAddr U74 rfl sz23 rfl rfl) fun a hF=>q_y (v:=s2.v) hF hS (ex_load1 4 0 U23 rfl rfl rfl rfl) fun a hF=>?_)
      obtain ⟨t_36,ht_36,hr⟩:=bindS hr
      refine q_call (vs:=[s2.v]) hF hS Try.func142 (by kernel_rfl) rfl rfl rfl (c_impl_summed p_y.Cells t_36 ht_36 _ m hS.vis s2 h2) ?_
      rintro a w _ ⟨q38,q39,q40,s38,s39,s40,rfl,hR37,h38,h39,h40⟩ hF hS2
      have hS : St _ _ _ _ [q38,q39,q40,q19,q20,q21,[⟨b22,[s19.v,s20.v,s21.v,(iV t_17.Total)],74⟩],[⟨b5,[s2.v,s3.v,s4.v,(iV p_y.Total)],74⟩]]:=hS.joinF hR37
      refine q_alloc (cs:=[nilS.v,nilS.v,nilS.v,(iV 0)]) hF hS rfl rfl rfl fun a w b41 hF hS=>q_store (vs:=[s38.v,s39.v,s40.v,(iV t_36.Total)]) (cs':=[s38.v,s39.v,s40.v,(iV t_36.Total)]) 0 0 hF hS sz74 rfl rfl rfl rfl rfl rfl rfl rfl fun a w hF hS=>q_end (n_sq (q_seq (q_seq ?_)))
      obtain ⟨t_46,hj13,hr⟩:=bindS hr
      refine q_join (fun a w=>Fr a 150 [(1,(iV p_base)),(5,(pP b5 0)),(8,(pP b22 0)),(107,(.bool t_46))]∧St [] w0 w m [q19,q20,q21,[⟨b22,[s19.v,s20.v,s21.v,(iV t_17.Total)],74⟩],[⟨b5,[s2.v,s3.v,s4.v,(iV p_y.Total)],74⟩]]) ?_ ?_
      ·refine q_region (q_y (v:=(pP b41 1)) hF hS (ex_fieldAddr U74 rfl sz28 rfl rfl) fun a hF=>q_y (v:=s39.v) hF hS (ex_load1 0 0 U28 rfl rfl rfl rfl) fun a hF=>q_y (v:=(pP b5 1)) hF hS (ex_fieldAddr U74 rfl sz28 rfl rfl) fun a hF=>q_y (v:=s3.v) hF hS (ex_load1 8 0 U28 rfl rfl rfl rfl) fun a hF=>?_)
       obtain ⟨m43,hl43,hv43,hz43⟩:=hS.lend
       obtain ⟨t_42,ht_42,hj13⟩:=bindS hj13
       refine q_call (vs:=[s39.v,s3.v]) hF hS Try.func103 (by kernel_rfl) rfl rfl rfl (c_slices_Equal_int_int t_36.Rows p_y.Rows t_42 ht_42 _ m43 hv43 s39 (h39.froz hl43 (hz43 2 _ rfl)) s3 (h3.mono hl43)) ?_
       rintro a w _ rfl hF hS
       refine q_y (v:=(.bool (!t_42))) hF hS (ex_not rfl) fun a hF=>q_m hF rfl fun a hF=>?_
       rcases bcase (!t_42) with hc14 | hc14
       ·have hj13:=cond_f hc14 hj13
        refine q_g (v:=(pP b41 2)) hF hS (ex_fieldAddr U74 rfl sz28 rfl rfl) hc14 fun a hF=>q_g (v:=s40.v) hF hS (ex_load1 0 0 U28 rfl rfl rfl rfl) hc14 fun a hF=>q_g (v:=(pP b5 2)) hF hS (ex_fieldAddr U74 rfl sz28 rfl rfl) hc14 fun a hF=>q_g (v:=s4.v) hF hS (ex_load1 8 0 U28 rfl rfl rfl rfl) hc14 fun a hF=>?_
        obtain ⟨m45,hl45,hv45,hz45⟩:=hS.lend
        obtain ⟨t_44,ht_44,hj13⟩:=bindS hj13
        refine q_callg (vs:=[s40.v,s4.v]) hF hS (wanted_t hF rfl rfl rfl hc14) Try.func103 (by kernel_rfl) rfl rfl rfl (c_slices_Equal_int_int t_36.Cols p_y.Cols t_44 ht_44 _ m45 hv45 s40 (h40.froz hl45 (hz45 3 _ rfl)) s4 (h4.mono hl45)) ?_
        rintro a w _ rfl hF hS
        refine q_g (v:=(.bool (!t_44))) hF hS (ex_not rfl) hc14 fun a hF=>q_y (v:=(.bool (!t_44))) hF hS (ex_pick_f rfl rfl hc14) fun a hF=>q_m hF rfl fun a hF=>?_
        rcases bcase (!t_44) with hc15 | hc15
        ·have hj13:=cond_f hc15 hj13
         refine q_g (v:=(pP b41 3)) hF hS (ex_fieldAddr U74 rfl sz3 rfl rfl) hc15 fun a hF=>q_g (v:=(iV t_36.Total)) hF hS (ex_load1 0 0 U3 rfl rfl rfl rfl) hc15 fun a hF=>q_g (v:=(pP b5 3)) hF hS (ex_fieldAddr U74 rfl sz3 rfl rfl) hc15 fun a hF=>q_g (v:=(iV p_y.Total)) hF hS (ex_load1 8 0 U3 rfl rfl rfl rfl) hc15 fun a hF=>q_g (v:=(.bool (t_36.Total != p_y.Total))) hF hS (ex_ibin rfl rfl rfl) hc15 fun a hF=>q_y (v:=(.bool (t_36.Total != p_y.Total))) hF hS (ex_pick_f rfl rfl hc15) fun a hF=>q_end (n_jn ?_)
         obtain rfl:=someI hj13
         exact ⟨hF.sub ⟨rfl,rfl,rfl,rfl,trivial⟩,hS.mask [false,false,false,false,true,true,true,true,true]⟩
        ·have hj13:=cond_t hc15 hj13
         refine q_k hF hc15 fun a hF=>q_k hF hc15 fun a hF=>q_k hF hc15 fun a hF=>q_k hF hc15 fun a hF=>q_k hF hc15 fun a hF=>q_y (v:=(.bool true)) hF hS (ex_pick_t rfl rfl hc15) fun a hF=>q_end (n_jn ?_)
         obtain rfl:=someI hj13
         exact ⟨hF.sub ⟨rfl,rfl,rfl,rfl,trivial⟩,hS.mask [false,false,false,false,true,true,true,true,true]⟩
       ·have hj13:=cond_t hc14 hj13
        refine q_k hF hc14 fun a hF=>q_k hF hc14 fun a hF=>q_k hF hc14 fun a hF=>q_k hF hc14 fun a hF=>q_k hF hc14 fun a hF=>q_k hF hc14 fun a hF=>q_y (v:=(.bool true)) hF hS (ex_pick_t rfl rfl hc14) fun a hF=>q_m hF rfl fun a hF=>q_k hF rfl fun a hF=>q_k hF rfl fun a hF=>q_k hF rfl fun a hF=>q_k hF rfl fun a hF=>q_k hF rfl fun a hF=>q_y (v:=(.bool true)) hF hS (ex_pick_t rfl rfl rfl) fun a hF=>q_end (n_jn ?_)
        obtain rfl:=someI hj13
        exact ⟨hF.sub ⟨rfl,rfl,rfl,rfl,trivial⟩,hS.mask [false,false,false,false,true,true,true,true,true]⟩
      ·rintro a w ⟨hF,hS⟩
       refine n_sq ?_
       rcases bcase (t_46) with hc16 | hc16
       ·have hr:=cond_f hc16 hr
        refine q_cond_f hF rfl hc16 (q_skipc (n_sq (q_seq (q_sr (q_y (v:=(pP b22 1)) hF hS (ex_fieldAddr U74 rfl sz28 rfl rfl) fun a hF=>q_y (v:=s20.v) hF hS (ex_load1 3 0 U28 rfl rfl rfl rfl) fun a hF=>q_y (v:=(iV (goLen t_17.Rows))) hF hS (ex_len U28 rfl h20.len) fun a hF=>q_m hF rfl fun a hF=>q_end (n_sq (q_block ?_)))))))
        obtain ⟨o17,hl17,hr⟩:=bindS hr
        refine q_loop (fun (t_47 : Int) a w=>Fr a 150 [(1,(iV p_base)),(5,(pP b5 0)),(8,(pP b22 0)),(109,s20.v),(110,(iV (goLen t_17.Rows))),(111,(iV t_47))]∧St [] w0 w m [q19,q20,q21,[⟨b22,[s19.v,s20.v,s21.v,(iV t_17.Total)],74⟩],[⟨b5,[s2.v,s3.v,s4.v,(iV p_y.Total)],74⟩]]) (fun (o : (Unit) ⊕ (Bool × Bool)) e a w=>o = .inl ()∧e = .exit 4∧Fr a 150 [(1,(iV p_base)),(5,(pP b5 0)),(8,(pP b22 0))]∧St [] w0 w m [q19,q20,q21,[⟨b22,[s19.v,s20.v,s21.v,(iV t_17.Total)],74⟩],[⟨b5,[s2.v,s3.v,s4.v,(iV p_y.Total)],74⟩]]) hl17 ⟨hF.sub ⟨rfl,rfl,rfl,rfl,rfl,rfl,trivial⟩,hS⟩ ?_ ?_
        ·clear hF hS
         rintro t_47 a w st ⟨hF,hS⟩ hb17
         unfold impl_IsRounding_l3 at hb17
         refine q_sr (q_y (v:=(.bool (decide (t_47 < (goLen t_17.Rows))))) hF hS (ex_ibin rfl rfl rfl) fun a hF=>q_end (n_sq (q_seq ?_)))
         rcases bcase (decide (t_47 < (goLen t_17.Rows))) with hc18 | hc18
         ·have hb17:=cond_f hc18 hb17
          refine q_cond_f hF rfl hc18 (q_exit (x_sq ?_))
          obtain rfl:=someI hb17
          exact ⟨nofun,.inl ⟨rfl,rfl,hF.sub ⟨rfl,rfl,rfl,trivial⟩,hS⟩⟩
         ·have hb17:=cond_t hc18 hb17
          refine q_cond_t hF rfl hc18 (q_skipc (n_sq (q_seq (q_block (q_sr (q_m hF rfl fun a hF=>?_))))))
          obtain ⟨e_48,he_48,hb17⟩:=bindS hb17
          obtain ⟨vs49,at49,d49⟩:=h20.at he_48 1 rfl
          obtain rfl : vs49 = [(iV e_48)]:=d49
          refine q_y (v:=(elP s20 (t_47.toNat * 1))) hF hS (ex_indexAddr U28 sz3 rfl rfl (h20.idx he_48)) fun a hF=>q_y (v:=(iV e_48)) hF hS (ex_loadE1 0 U3 rfl rfl (at49.at 1 rfl) rfl rfl) fun a hF=>q_s hF rfl fun a hF=>q_s hF rfl fun a hF=>q_end (n_sq (q_sr (q_m hF rfl fun a hF=>q_m hF rfl fun a hF=>q_y (v:=(pP b5 1)) hF hS (ex_fieldAddr U74 rfl sz28 rfl rfl) fun a hF=>q_y (v:=s3.v) hF hS (ex_load1 4 0 U28 rfl rfl rfl rfl) fun a hF=>q_m hF rfl fun a hF=>?_)))
          obtain ⟨e_50,he_50,hb17⟩:=bindS hb17
          obtain ⟨vs51,at51,d51⟩:=h3.at he_50 1 rfl
          obtain rfl : vs51 = [(iV e_50)]:=d51
          refine q_y (v:=(elP s3 (t_47.toNat * 1))) hF hS (ex_indexAddr U28 sz3 rfl rfl (h3.idx he_50)) fun a hF=>q_y (v:=(iV e_50)) hF hS (ex_loadE1 0 U3 rfl rfl ((at51).at) rfl rfl) fun a hF=>?_
          obtain ⟨t_52,ht_52,hb17⟩:=bindS hb17
          refine q_call (vs:=[(iV e_48),(iV p_base),(iV e_50)]) hF hS Try.func143 (by kernel_rfl) rfl rfl rfl (c_impl_isRounded e_48 p_base e_50 t_52 ht_52 _ m hS.vis) ?_
          rintro a w _ rfl hF hS
          refine q_y (v:=(.bool (!t_52))) hF hS (ex_not rfl) fun a hF=>q_end (n_sq ?_)
          rcases bcase (!t_52) with hc19 | hc19
          ·have hb17:=cond_f hc19 hb17
           refine q_cond_f hF rfl hc19 (q_skipc (n_ib (n_sq (q_region (q_y (v:=(iV (w64 (t_47 + 1)))) hF hS (ex_ibin rfl rfl rfl) fun a hF=>q_m hF rfl fun a hF=>q_end ?_)))))
           obtain rfl:=someI hb17
           exact ⟨rfl,hF.sub ⟨rfl,rfl,rfl,rfl,rfl,rfl,trivial⟩,hS⟩
          ·have hb17:=cond_t hc19 hb17
           refine q_cond_t hF rfl hc19 (q_sr (q_s hF rfl fun a hF=>q_s hF rfl fun a hF=>q_end (n_sq (q_ret (r_ib (r_sq ?_))))))
           obtain rfl:=someI hb17
           refine ⟨nofun,.inr fun ho=>?_⟩
           subst ho
           refine r_ib (r_sq ?_)
           obtain rfl:=someI hr
           exact ret_of hF hS rfl (.tmp rfl (.tmp rfl .nil)) rfl
        ·rintro e a w ⟨rfl,rfl,hF,hS⟩
         refine x_ib (n_sq ?_)
         refine q_seq (q_sr (q_y (v:=(pP b22 2)) hF hS (ex_fieldAddr U74 rfl sz28 rfl rfl) fun a hF=>q_y (v:=s21.v) hF hS (ex_load1 3 0 U28 rfl rfl rfl rfl) fun a hF=>q_y (v:=(iV (goLen t_17.Cols))) hF hS (ex_len U28 rfl h21.len) fun a hF=>q_m hF rfl fun a hF=>q_end (n_sq (q_block ?_))))
         obtain ⟨o20,hl20,hr⟩:=bindS hr
         refine q_loop (fun (t_53 : Int) a w=>Fr a 150 [(1,(iV p_base)),(5,(pP b5 0)),(8,(pP b22 0)),(127,s21.v),(128,(iV (goLen t_17.Cols))),(129,(iV t_53))]∧St [] w0 w m [q19,q20,q21,[⟨b22,[s19.v,s20.v,s21.v,(iV t_17.Total)],74⟩],[⟨b5,[s2.v,s3.v,s4.v,(iV p_y.Total)],74⟩]]) (fun (o : (Unit) ⊕ (Bool × Bool)) e a w=>o = .inl ()∧e = .exit 6∧Fr a 150 [(1,(iV p_base)),(5,(pP b5 0)),(8,(pP b22 0))]∧St [] w0 w m [q19,q20,q21,[⟨b22,[s19.v,s20.v,s21.v,(iV t_17.Total)],74⟩],[⟨b5,[s2.v,s3.v,s4.v,(iV p_y.Total)],74⟩]]) hl20 ⟨hF.sub ⟨rfl,rfl,rfl,rfl,rfl,rfl,trivial⟩,hS⟩ ?_ ?_
         ·clear hF hS
          rintro t_53 a w st ⟨hF,hS⟩ hb20
          unfold impl_IsRounding_l4 at hb20
          refine q_sr (q_y (v:=(.bool (decide (t_53 < (goLen t_17.Cols))))) hF hS (ex_ibin rfl rfl rfl) fun a hF=>q_end (n_sq (q_seq ?_)))
          rcases bcase (decide (t_53 < (goLen t_17.Cols))) with hc21 | hc21
          ·have hb20:=cond_f hc21 hb20
           refine q_cond_f hF rfl hc21 (q_exit (x_sq ?_))
           obtain rfl:=someI hb20
           exact ⟨nofun,.inl ⟨rfl,rfl,hF.sub ⟨rfl,rfl,rfl,trivial⟩,hS⟩⟩
          ·have hb20:=cond_t hc21 hb20
           refine q_cond_t hF rfl hc21 (q_skipc (n_sq (q_seq (q_block (q_sr (q_m hF rfl fun a hF=>?_))))))
           obtain ⟨e_54,he_54,hb20⟩:=bindS hb20
           obtain ⟨vs55,at55,d55⟩:=h21.at he_54 1 rfl
           obtain rfl : vs55 = [(iV e_54)]:=d55
           refine q_y (v:=(elP s21 (t_53.toNat * 1))) hF hS (ex_indexAddr U28 sz3 rfl rfl (h21.idx he_54)) fun a hF=>q_y (v:=(iV e_54)) hF hS (ex_loadE1 0 U3 rfl rfl (at55.at 2 rfl) rfl rfl) fun a hF=>q_s hF rfl fun a hF=>q_s hF rfl fun a hF=>q_end (n_sq (q_sr (q_m hF rfl fun a hF=>q_m hF rfl fun a hF=>q_y (v:=(pP b5 2)) hF hS (ex_fieldAddr U74 rfl sz28 rfl rfl) fun a hF=>q_y (v:=s4.v) hF hS (ex_load1 4 0 U28 rfl rfl rfl rfl) fun a hF=>q_m hF rfl fun a hF=>?_)))
           obtain ⟨e_56,he_56,hb20⟩:=bindS hb20
           obtain ⟨vs57,at57,d57⟩:=h4.at he_56 1 rfl
           obtain rfl : vs57 = [(iV e_56)]:=d57
           refine q_y (v:=(elP s4 (t_53.toNat * 1))) hF hS (ex_indexAddr U28 sz3 rfl rfl (h4.idx he_56)) fun a hF=>q_y (v:=(iV e_56)) hF hS (ex_loadE1 0 U3 rfl rfl ((at57).at) rfl rfl) fun a hF=>?_
           obtain ⟨t_58,ht_58,hb20⟩:=bindS hb20
           refine q_call (vs:=[(iV e_54),(iV p_base),(iV e_56)]) hF hS Try.func143 (by kernel_rfl) rfl rfl rfl (c_impl_isRounded e_54 p_base e_56 t_58 ht_58 _ m hS.vis) ?_
           rintro a w _ rfl hF hS
           refine q_y (v:=(.bool (!t_58))) hF hS (ex_not rfl) fun a hF=>q_end (n_sq ?_)
           rcases bcase (!t_58) with hc22 | hc22
           ·have hb20:=cond_f hc22 hb20
            refine q_cond_f hF rfl hc22 (q_skipc (n_ib (n_sq (q_region (q_y (v:=(iV (w64 (t_53 + 1)))) hF hS (ex_ibin rfl rfl rfl) fun a hF=>q_m hF rfl fun a hF=>q_end ?_)))))
            obtain rfl:=someI hb20
            exact ⟨rfl,hF.sub ⟨rfl,rfl,rfl,rfl,rfl,rfl,trivial⟩,hS⟩
           ·have hb20:=cond_t hc22 hb20
            refine q_cond_t hF rfl hc22 (q_sr (q_s hF rfl fun a hF=>q_s hF rfl fun a hF=>q_end (n_sq (q_ret (r_ib (r_sq ?_))))))
            obtain rfl:=someI hb20
            refine ⟨nofun,.inr fun ho=>?_⟩
            subst ho
            refine r_ib (r_sq ?_)
            obtain rfl:=someI hr
            exact ret_of hF hS rfl (.tmp rfl (.tmp rfl .nil)) rfl
         ·rintro e a w ⟨rfl,rfl,hF,hS⟩
          refine x_ib (n_sq ?_)
          refine q_sr (q_y (v:=(pP b22 3)) hF hS (ex_fieldAddr U74 rfl sz3 rfl rfl) fun a hF=>q_y (v:=(iV t_17.Total)) hF hS (ex_load1 3 0 U3 rfl rfl rfl rfl) fun a hF=>q_m hF rfl fun a hF=>q_y (v:=(pP b5 3)) hF hS (ex_fieldAddr U74 rfl sz3 rfl rfl) fun a hF=>q_y (v:=(iV p_y.Total)) hF hS (ex_load1 4 0 U3 rfl rfl rfl rfl) fun a hF=>?_)
          obtain ⟨t_59,ht_59,hr⟩:=bindS hr
          refine q_call (vs:=[(iV t_17.Total),(iV p_base),(iV p_y.Total)]) hF hS Try.func143 (by kernel_rfl) rfl rfl rfl (c_impl_isRounded t_17.Total p_base p_y.Total t_59 ht_59 _ m hS.vis) ?_
          rintro a w _ rfl hF hS
          refine q_s hF rfl fun a hF=>q_s hF rfl fun a hF=>q_end (n_sq (q_ret ?_))
          obtain rfl:=someI hr
          exact ret_of hF hS rfl (.tmp rfl (.tmp rfl .nil)) rfl
       ·have hr:=cond_t hc16 hr
        refine q_cond_t hF rfl hc16 (q_sr (q_s hF rfl fun a hF=>q_s hF rfl fun a hF=>q_end (n_sq (q_ret (r_sq ?_)))))
        obtain rfl:=someI hr
        exact ret_of hF hS rfl (.tmp rfl (.tmp rfl .nil)) rfl
    ·have hr:=cond_t hc7 hr
     refine q_cond_t hF rfl hc7 (q_sr (q_s hF rfl fun a hF=>q_s hF rfl fun a hF=>q_end (n_sq (q_ret (r_sq ?_)))))
     obtain rfl:=someI hr
     exact ret_of hF hS rfl (.tmp rfl (.tmp rfl .nil)) rfl
  ·have hr:=cond_t hc3 hr
   refine q_cond_t hF rfl hc3 (q_sr (q_s hF rfl fun a hF=>q_s hF rfl fun a hF=>q_end (n_sq (q_ret (r_sq ?_)))))
   obtain rfl:=someI hr
   exact ret_of hF hS rfl (.tmp rfl (.tmp rfl .nil)) rfl

theorem c_impl_RoundingNetwork (p_x : List (List Int)) (p_base : Int) (r : impl_Transport × Bool) (hr : impl_RoundingNetwork p_x p_base = some r) (w0 : World) (m : Mem) (hv : Vis m w0) (s1 : Sl) (h1 : Rd m s1 p_x) :
  Ret Try.prog 63 [s1.v,(iV p_base)] w0 (fun v w=>∃ (q0' : Piece) (q1' : Piece) (q2' : Piece) (q3' : Piece) (s0' : Sl) (s1' : Sl) (s2' : Sl) (s3' : Sl),v = (.tuple #[(.agg #[s0'.v,s1'.v,s2'.v,s3'.v]),(.bool r.2)])∧St [] w0 w m [q0',q1',q2',q3']∧OwnL m 3 q0' s0' r.1.Rows∧OwnL m 3 q1' s1' r.1.Cols∧OwnD m 28 3 q2' s2' r.1.Lo∧OwnD m 28 3 q3' s3' r.1.Hi):=by
 unfold impl_RoundingNetwork at hr
 refine ret_start Try.func63 rfl 18 rfl rfl m hv fun a hF hS=>q_sr (q_alloc (cs:=[nilS.v,nilS.v,nilS.v,nilS.v]) hF hS rfl rfl rfl fun a w b2 hF hS=>q_s hF rfl fun a hF=>q_end (n_sq (q_seq (q_seq ?_))))
 obtain ⟨t_5,hj1,hr⟩:=bindS hr
 refine q_join (fun a w=>Fr a 18 [(0,s1.v),(1,(iV p_base)),(4,(pP b2 0)),(13,(.bool t_5))]∧St [] w0 w m [[⟨b2,[nilS.v,nilS.v,nilS.v,nilS.v],50⟩]]) ?_ ?_
 ·refine q_region (q_m hF rfl fun a hF=>?_)
  obtain ⟨t_3,ht_3,hj1⟩:=bindS hj1
  refine q_call (vs:=[s1.v]) hF hS Try.func135 (by kernel_rfl) rfl rfl rfl (c_impl_isMatrix p_x t_3 ht_3 _ m hS.vis s1 h1) ?_
  rintro a w _ rfl hF hS
  refine q_y (v:=(.bool (!t_3))) hF hS (ex_not rfl) fun a hF=>q_m hF rfl fun a hF=>?_
  rcases bcase (!t_3) with hc2 | hc2
  ·have hj1:=cond_f hc2 hj1
   refine q_g (v:=(iV p_base)) hF hS (ex_move rfl) hc2 fun a hF=>?_
   obtain ⟨t_4,ht_4,hj1⟩:=bindS hj1
   refine q_callg (vs:=[(iV p_base)]) hF hS (wanted_t hF rfl rfl rfl hc2) Try.func136 (by kernel_rfl) rfl rfl rfl (c_impl_isBaseOf p_base t_4 ht_4 _ m hS.vis) ?_
   rintro a w _ rfl hF hS
   refine q_g (v:=(.bool (!t_4))) hF hS (ex_not rfl) hc2 fun a hF=>q_y (v:=(.bool (!t_4))) hF hS (ex_pick_f rfl rfl hc2) fun a hF=>q_end (n_jn ?_)
   obtain rfl:=someI hj1
   exact ⟨hF.sub ⟨rfl,rfl,rfl,rfl,trivial⟩,hS⟩
  ·have hj1:=cond_t hc2 hj1
   refine q_k hF hc2 fun a hF=>q_k hF hc2 fun a hF=>q_k hF hc2 fun a hF=>q_y (v:=(.bool true)) hF hS (ex_pick_t rfl rfl hc2) fun a hF=>q_end (n_jn ?_)
   obtain rfl:=someI hj1
   exact ⟨hF.sub ⟨rfl,rfl,rfl,rfl,trivial⟩,hS⟩
 ·rintro a w ⟨hF,hS⟩
  refine n_sq ?_
  rcases bcase (t_5) with hc3 | hc3
  ·have hr:=cond_f hc3 hr
   refine q_cond_f hF rfl hc3 (q_skipc (n_sq (q_sr (q_m hF rfl fun a hF=>q_m hF rfl fun a hF=>?_))))
   obtain ⟨t_6,ht_6,hr⟩:=bindS hr
   refine q_call (vs:=[s1.v,(iV p_base)]) hF hS Try.func137 (by kernel_rfl) rfl rfl rfl (c_impl_roundingNetwork p_x p_base t_6 ht_6 _ m hS.vis s1 h1) ?_
   rintro a w _ ⟨q8,q9,q10,q11,s8,s9,s10,s11,rfl,hR7,h8,h9,h10,h11⟩ hF hS2
   have hS : St _ _ _ _ [q8,q9,q10,q11,[⟨b2,[nilS.v,nilS.v,nilS.v,nilS.v],50⟩]]:=hS.joinF hR7
   refine q_store (vs:=[s8.v,s9.v,s10.v,s11.v]) (cs':=[s8.v,s9.v,s10.v,s11.v]) 4 0 hF hS sz50 rfl rfl rfl rfl rfl rfl rfl rfl fun a w hF hS=>q_s hF rfl fun a hF=>q_end (n_sq (q_ret ?_))
   obtain rfl:=someI hr
   exact ret_of hF hS rfl (.cellA (us:=[s8.v,s9.v,s10.v,s11.v]) 4 0 U50 rfl sz50 rfl rfl rfl rfl (.tmp rfl .nil)) ⟨q8,q9,q10,q11,s8,s9,s10,s11,rfl,hS.sel [0,1,2,3] (by decide),h8,h9,h10,h11⟩
  ·have hr:=cond_t hc3 hr
   refine q_cond_t hF rfl hc3 (q_sr (q_y (v:=(.agg #[nilS.v,nilS.v,nilS.v,nilS.v])) hF hS (ex_build (cells:=[nilS.v,nilS.v,nilS.v,nilS.v]) rfl (by kernel_rfl)) fun a hF=>q_store (vs:=[nilS.v,nilS.v,nilS.v,nilS.v]) (cs':=[nilS.v,nilS.v,nilS.v,nilS.v]) 0 0 hF hS sz50 rfl rfl rfl rfl rfl rfl rfl rfl fun a w hF hS=>q_s hF rfl fun a hF=>q_end (n_sq (q_ret (r_sq ?_)))))
   obtain rfl:=someI hr
   exact ret_of hF hS rfl (.cellA (us:=[nilS.v,nilS.v,nilS.v,nilS.v]) 0 0 U50 rfl sz50 rfl rfl rfl rfl (.tmp rfl .nil)) ⟨[],[],[],[],nilS,nilS,nilS,nilS,rfl,hS.sel [1,2,3,4] (by decide),(OwnL.nil (α:=Int) m 3),(OwnL.nil (α:=Int) m 3),(OwnD.nil (β:=Int) m 28 3),(OwnD.nil (β:=Int) m 28 3)⟩

theorem c_spec_RoundingNetwork (p_x : List (List Int)) (p_base : Int) (r : impl_Transport × Bool) (hr : spec_RoundingNetwork p_x p_base = some r) (w0 : World) (m : Mem) (hv : Vis m w0) (s1 : Sl) (h1 : Rd m s1 p_x) :
  Ret Try.prog 64 [s1.v,(iV p_base)] w0 (fun v w=>∃ (m' : Mem) (q0' : Piece) (q1' : Piece) (q2' : Piece) (q3' : Piece) (s0' : Sl) (s1' : Sl) (s2' : Sl) (s3' : Sl),v = (.tuple #[(.agg #[s0'.v,s1'.v,s2'.v,s3'.v]),(.bool r.2)])∧MLe [] w0.heap.size m m'∧St [] w0 w m' [q0',q1',q2',q3']∧OwnL m' 3 q0' s0' r.1.Rows∧OwnL m' 3 q1' s1' r.1.Cols∧OwnL m' 28 q2' s2' r.1.Lo∧OwnL m' 28 q3' s3' r.1.Hi):=by
 unfold spec_RoundingNetwork at hr
 refine ret_start Try.func64 rfl 14 rfl rfl m hv fun a hF hS=>q_sr (q_alloc (cs:=[nilS.v,nilS.v,nilS.v,nilS.v]) hF hS rfl rfl rfl fun a w b2 hF hS=>q_s hF rfl fun a hF=>q_end (n_sq (q_seq (q_sr (q_m hF rfl fun a hF=>q_m hF rfl fun a hF=>?_)))))
 obtain ⟨t_3,ht_3,hr⟩:=bindS hr
 refine q_call (vs:=[s1.v,(iV p_base)]) hF hS Try.func139 (by kernel_rfl) rfl rfl rfl (c_spec_oGood p_x p_base t_3 ht_3 _ m hS.vis s1 h1) ?_
 rintro a w _ rfl hF hS
 refine q_y (v:=(.bool (!t_3))) hF hS (ex_not rfl) fun a hF=>q_end (n_sq ?_)
 rcases bcase (!t_3) with hc1 | hc1
 ·have hr:=cond_f hc1 hr
  refine q_cond_f hF rfl hc1 (q_skipc (n_sq (q_sr (q_m hF rfl fun a hF=>q_m hF rfl fun a hF=>?_))))
  obtain ⟨t_4,ht_4,hr⟩:=bindS hr
  refine q_call (vs:=[s1.v,(iV p_base)]) hF hS Try.func140 (by kernel_rfl) rfl rfl rfl (c_spec_oNetwork p_x p_base t_4 ht_4 _ m hS.vis s1 h1) ?_
  have hT:=hS
  rintro a w _ ⟨m5,q6,q7,q8,q9,s6,s7,s8,s9,rfl,hm5,hR5,h6,h7,h8,h9⟩ hF hS2
  have hS : St _ _ _ _ [q6,q7,q8,q9,[⟨b2,[nilS.v,nilS.v,nilS.v,nilS.v],50⟩]]:=hS.join hR5 hm5
  have hm5:=MLe.weakX (O0:=[]) hT hm5
  refine q_store (vs:=[s6.v,s7.v,s8.v,s9.v]) (cs':=[s6.v,s7.v,s8.v,s9.v]) 4 0 hF hS sz50 rfl rfl rfl rfl rfl rfl rfl rfl fun a w hF hS=>q_s hF rfl fun a hF=>q_end (n_sq (q_ret ?_))
  obtain rfl:=someI hr
  exact ret_of hF hS rfl (.cellA (us:=[s6.v,s7.v,s8.v,s9.v]) 4 0 U50 rfl sz50 rfl rfl rfl rfl (.tmp rfl .nil)) ⟨m5,q6,q7,q8,q9,s6,s7,s8,s9,rfl,hm5,hS.sel [0,1,2,3] (by decide),h6,h7,h8,h9⟩
 ·have hr:=cond_t hc1 hr
  refine q_cond_t hF rfl hc1 (q_sr (q_y (v:=(.agg #[nilS.v,nilS.v,nilS.v,nilS.v])) hF hS (ex_build (cells:=[nilS.v,nilS.v,nilS.v,nilS.v]) rfl (by kernel_rfl)) fun a hF=>q_store (vs:=[nilS.v,nilS.v,nilS.v,nilS.v]) (cs':=[nilS.v,nilS.v,nilS.v,nilS.v]) 0 0 hF hS sz50 rfl rfl rfl rfl rfl rfl rfl rfl fun a w hF hS=>q_s hF rfl fun a hF=>q_end (n_sq (q_ret (r_sq ?_)))))
  obtain rfl:=someI hr
  exact ret_of hF hS rfl (.cellA (us:=[nilS.v,nilS.v,nilS.v,nilS.v]) 0 0 U50 rfl sz50 rfl rfl rfl rfl (.tmp rfl .nil)) ⟨m,[],[],[],[],nilS,nilS,nilS,nilS,rfl,(MLe.refl _ _),hS.sel [1,2,3,4] (by decide),(OwnL.nil (α:=Int) m 3),(OwnL.nil (α:=Int) m 3),(OwnL.nil (α:=List Int) m 28),(OwnL.nil (α:=List Int) m 28)⟩

theorem c_impl_OriginalBounds (p_y : List (List Int)) (p_base : Int) (r : (List (List Int)) × (List (List Int)) × Bool) (hr : impl_OriginalBounds p_y p_base = some r) (w0 : World) (m : Mem) (hv : Vis m w0) (s1 : Sl) (h1 : Rd m s1 p_y) :
  Ret Try.prog 65 [s1.v,(iV p_base)] w0 (fun v w=>∃ (q0' : Piece) (q1' : Piece) (s0' : Sl) (s1' : Sl),v = (.tuple #[s0'.v,s1'.v,(.bool r.2.2)])∧St [] w0 w m [q0',q1']∧OwnD m 28 3 q0' s0' r.1∧OwnD m 28 3 q1' s1' r.2.1):=by
 unfold impl_OriginalBounds at hr
 refine ret_start Try.func65 rfl 68 rfl rfl m hv fun a hF hS=>q_sr (q_s hF rfl fun a hF=>q_s hF rfl fun a hF=>q_s hF rfl fun a hF=>q_end (n_sq (q_seq (q_seq ?_))))
 obtain ⟨t_4,hj1,hr⟩:=bindS hr
 refine q_join (fun a w=>Fr a 68 [(0,s1.v),(1,(iV p_base)),(20,(.bool t_4))]∧St [] w0 w m []) ?_ ?_
 ·refine q_region (q_m hF rfl fun a hF=>?_)
  obtain ⟨t_2,ht_2,hj1⟩:=bindS hj1
  refine q_call (vs:=[s1.v]) hF hS Try.func135 (by kernel_rfl) rfl rfl rfl (c_impl_isMatrix p_y t_2 ht_2 _ m hS.vis s1 h1) ?_
  rintro a w _ rfl hF hS
  refine q_y (v:=(.bool (!t_2))) hF hS (ex_not rfl) fun a hF=>q_m hF rfl fun a hF=>?_
  rcases bcase (!t_2) with hc2 | hc2
  ·have hj1:=cond_f hc2 hj1
   refine q_g (v:=(iV p_base)) hF hS (ex_move rfl) hc2 fun a hF=>?_
   obtain ⟨t_3,ht_3,hj1⟩:=bindS hj1
   refine q_callg (vs:=[(iV p_base)]) hF hS (wanted_t hF rfl rfl rfl hc2) Try.func136 (by kernel_rfl) rfl rfl rfl (c_impl_isBaseOf p_base t_3 ht_3 _ m hS.vis) ?_
   rintro a w _ rfl hF hS
   refine q_g (v:=(.bool (!t_3))) hF hS (ex_not rfl) hc2 fun a hF=>q_y (v:=(.bool (!t_3))) hF hS (ex_pick_f rfl rfl hc2) fun a hF=>q_end (n_jn ?_)
   obtain rfl:=someI hj1
   exact ⟨hF.sub ⟨rfl,rfl,rfl,trivial⟩,hS⟩
  ·have hj1:=cond_t hc2 hj1
   refine q_k hF hc2 fun a hF=>q_k hF hc2 fun a hF=>q_k hF hc2 fun a hF=>q_y (v:=(.bool true)) hF hS (ex_pick_t rfl rfl hc2) fun a hF=>q_end (n_jn ?_)
   obtain rfl:=someI hj1
   exact ⟨hF.sub ⟨rfl,rfl,rfl,trivial⟩,hS⟩
 ·rintro a w ⟨hF,hS⟩
  refine n_sq ?_
  rcases bcase (t_4) with hc3 | hc3
  ·have hr:=cond_f hc3 hr
   refine q_cond_f hF rfl hc3 (q_skipc (n_sq (q_sr (q_m hF rfl fun a hF=>?_))))
   obtain ⟨t_5,ht_5,hr⟩:=bindS hr
   refine q_call (vs:=[s1.v]) hF hS Try.func75 (by kernel_rfl) rfl rfl rfl (c_impl_copyMatrix p_y t_5 ht_5 _ m hS.vis s1 h1) ?_
   rintro a w _ ⟨q7,s7,rfl,hR6,h7,h7n⟩ hF hS2
   have hS : St _ _ _ _ [q7]:=hS.joinF hR6
   refine q_m hF rfl fun a hF=>?_
   obtain ⟨t_8,ht_8,hr⟩:=bindS hr
   refine q_call (vs:=[s1.v]) hF hS Try.func75 (by kernel_rfl) rfl rfl rfl (c_impl_copyMatrix p_y t_8 ht_8 _ m hS.vis s1 h1) ?_
   rintro a w _ ⟨q10,s10,rfl,hR9,h10,h10n⟩ hF hS2
   have hS : St _ _ _ _ [q10,q7]:=hS.joinF hR9
   refine q_s hF rfl fun a hF=>q_s hF rfl fun a hF=>q_end (n_sq (q_seq (q_sr (q_m hF rfl fun a hF=>q_y (v:=(iV (goLen p_y))) hF hS (ex_len U23 rfl h1.len) fun a hF=>q_m hF rfl fun a hF=>q_end (n_sq (q_block ?_))))))
   obtain ⟨o4,hl4,hr⟩:=bindS hr
   refine q_loop (fun (s : (List (List Int)) × (List (List Int)) × Int) a w=>∃ (q12 : Piece),∃ (q14 : Piece),∃ lo_11,∃ hi_13,∃ t_15,s = (lo_11,hi_13,t_15)∧Fr a 68 [(1,(iV p_base)),(7,s7.v),(8,s10.v),(25,s1.v),(26,(iV (goLen p_y))),(27,(iV t_15))]∧St [] w0 w m [q12,q14]∧OwnD m 28 3 q12 s7 lo_11∧OwnD m 28 3 q14 s10 hi_13) (fun (o : ((List (List Int)) × (List (List Int))) ⊕ ((List (List Int)) × (List (List Int)) × Bool)) e a w=>∃ (q42 : Piece),∃ (q44 : Piece),∃ lo_41,∃ hi_43,o = .inl (lo_41,hi_43)∧e = .exit 0∧Fr a 68 [(7,s7.v),(8,s10.v)]∧St [] w0 w m [q42,q44]∧OwnD m 28 3 q42 s7 lo_41∧OwnD m 28 3 q44 s10 hi_43) hl4 ⟨q7,q10,_,_,_,rfl,hF.sub ⟨rfl,rfl,rfl,rfl,rfl,rfl,trivial⟩,hS.sel [1,0] (by decide),h7,h10⟩ ?_ ?_
   ·clear hF hS
    rintro s a w st ⟨q12,q14,lo_11,hi_13,t_15,rfl,hF,hS,h12,h14⟩ hb4
    unfold impl_OriginalBounds_l1 at hb4
    refine q_sr (q_y (v:=(.bool (decide (t_15 < (goLen p_y))))) hF hS (ex_ibin rfl rfl rfl) fun a hF=>q_end (n_sq (q_seq ?_)))
    rcases bcase (decide (t_15 < (goLen p_y))) with hc5 | hc5
    ·have hb4:=cond_f hc5 hb4
     refine q_cond_f hF rfl hc5 (q_exit (x_sq ?_))
     obtain rfl:=someI hb4
     exact ⟨nofun,.inl ⟨q12,q14,_,_,rfl,rfl,hF.sub ⟨rfl,rfl,trivial⟩,hS,h12,h14⟩⟩
    ·have hb4:=cond_t hc5 hb4
     refine q_cond_t hF rfl hc5 (q_skipc (n_sq (q_seq (q_block (q_sr (q_m hF rfl fun a hF=>?_))))))
     obtain ⟨e_16,he_16,hb4⟩:=bindS hb4
     obtain ⟨vs17,at17,d17⟩:=h1.at he_16 1 rfl
     obtain ⟨s18,rfl,h18⟩ : ∃ s18 : Sl,vs17 = [s18.v]∧Rd m s18 e_16:=d17
     refine q_y (v:=(elP s1 (t_15.toNat * 1))) hF hS (ex_indexAddr U23 sz28 rfl rfl (h1.idx he_16)) fun a hF=>q_y (v:=s18.v) hF hS (ex_loadE1 0 U28 rfl rfl ((at17).at) rfl rfl) fun a hF=>q_s hF rfl fun a hF=>q_s hF rfl fun a hF=>q_end (n_sq (q_sr (q_m hF rfl fun a hF=>q_y (v:=(iV (goLen e_16))) hF hS (ex_len U28 rfl h18.len) fun a hF=>q_m hF rfl fun a hF=>q_end (n_sq (q_block ?_)))))
     obtain ⟨o6,hl6,hb4⟩:=bindS hb4
     refine q_loop (fun (s : (List (List Int)) × (List (List Int)) × Int) a w=>∃ (q20 : Piece),∃ (q22 : Piece),∃ lo_19,∃ hi_21,∃ t_23,s = (lo_19,hi_21,t_23)∧Fr a 68 [(1,(iV p_base)),(7,s7.v),(8,s10.v),(9,(iV t_15)),(25,s1.v),(26,(iV (goLen p_y))),(27,(iV t_15)),(32,s18.v),(33,(iV (goLen e_16))),(34,(iV t_23))]∧St [] w0 w m [q20,q22]∧OwnD m 28 3 q20 s7 lo_19∧OwnD m 28 3 q22 s10 hi_21) (fun (o : ((List (List Int)) × (List (List Int))) ⊕ (Stp ((List (List Int)) × (List (List Int)) × Int) (((List (List Int)) × (List (List Int))) ⊕ ((List (List Int)) × (List (List Int)) × Bool)))) e a w=>∃ (q38 : Piece),∃ (q40 : Piece),∃ lo_37,∃ hi_39,o = .inl (lo_37,hi_39)∧e = .exit 2∧Fr a 68 [(1,(iV p_base)),(7,s7.v),(8,s10.v),(25,s1.v),(26,(iV (goLen p_y))),(27,(iV t_15))]∧St [] w0 w m [q38,q40]∧OwnD m 28 3 q38 s7 lo_37∧OwnD m 28 3 q40 s10 hi_39) hl6 ⟨q12,q14,_,_,_,rfl,hF.sub ⟨rfl,rfl,rfl,rfl,rfl,rfl,rfl,rfl,rfl,rfl,trivial⟩,hS,h12,h14⟩ ?_ ?_
     ·clear hF hS
      rintro s a w st ⟨q20,q22,lo_19,hi_21,t_23,rfl,hF,hS,h20,h22⟩ hb6
      unfold impl_OriginalBounds_l2 at hb6
      refine q_sr (q_y (v:=(.bool (decide (t_23 < (goLen e_16))))) hF hS (ex_ibin rfl rfl rfl) fun a hF=>q_end (n_sq (q_seq ?_)))
      rcases bcase (decide (t_23 < (goLen e_16))) with hc7 | hc7
      ·have hb6:=cond_f hc7 hb6
       refine q_cond_f hF rfl hc7 (q_exit (x_sq ?_))
       obtain rfl:=someI hb6
       exact ⟨nofun,.inl ⟨q20,q22,_,_,rfl,rfl,hF.sub ⟨rfl,rfl,rfl,rfl,rfl,rfl,trivial⟩,hS,h20,h22⟩⟩
      ·have hb6:=cond_t hc7 hb6
       refine q_cond_t hF rfl hc7 (q_skipc (n_sq (q_seq (q_block (q_sr (q_m hF rfl fun a hF=>?_))))))
       obtain ⟨e_24,he_24,hb6⟩:=bindS hb6
       obtain ⟨vs25,at25,d25⟩:=h18.at he_24 1 rfl
       obtain rfl : vs25 = [(iV e_24)]:=d25
       refine q_y (v:=(elP s18 (t_23.toNat * 1))) hF hS (ex_indexAddr U28 sz3 rfl rfl (h18.idx he_24)) fun a hF=>q_y (v:=(iV e_24)) hF hS (ex_loadE1 0 U3 rfl rfl ((at25).at) rfl rfl) fun a hF=>q_s hF rfl fun a hF=>q_s hF rfl fun a hF=>q_end (n_sq (q_seq (q_sr (q_m hF rfl fun a hF=>q_m hF rfl fun a hF=>?_))))
       obtain ⟨t_26,ht_26,hb6⟩:=bindS hb6
       refine q_y (v:=(iV t_26)) hF hS (ex_rem rfl rfl ht_26) fun a hF=>q_y (v:=(.bool (t_26 != 0))) hF hS (ex_ibin rfl rfl rfl) fun a hF=>q_end (n_sq ?_)
       rcases bcase (t_26 != 0) with hc8 | hc8
       ·have hb6:=cond_f hc8 hb6
        refine q_cond_f hF rfl hc8 (q_skipc (n_sq (q_sr (q_m hF rfl fun a hF=>q_m hF rfl fun a hF=>?_))))
        obtain ⟨e_27,he_27,hb6⟩:=bindS hb6
        obtain ⟨s28,hV28⟩:=h20.view he_27
        refine q_y (v:=(elP s7 (t_15.toNat * 1))) hF hS (ex_indexAddr U23 sz28 rfl rfl (h20.idx he_27)) fun a hF=>q_y (v:=s28.v) hF hS (ex_loadE1 0 U28 rfl rfl ((hV28.atH he_27).at 0 rfl) rfl rfl) fun a hF=>q_m hF rfl fun a hF=>q_m hF rfl fun a hF=>q_m hF rfl fun a hF=>q_y (v:=(iV (w64 (e_24 - p_base)))) hF hS (ex_ibin rfl rfl rfl) fun a hF=>q_y (v:=(iV (w64 ((w64 (e_24 - p_base)) + 1)))) hF hS (ex_ibin rfl rfl rfl) fun a hF=>q_y (v:=(iV (max 0 (w64 ((w64 (e_24 - p_base)) + 1))))) hF hS (ex_max rfl rfl) fun a hF=>?_
        obtain ⟨e_29,he_29,hb6⟩:=bindS hb6
        obtain ⟨vs30,at30,d30⟩:=hV28.at he_27 he_29 1 rfl
        obtain rfl : vs30 = [(iV e_29)]:=d30
        refine q_y (v:=(elP s28 (t_23.toNat * 1))) hF hS (ex_indexAddr U28 sz3 rfl rfl (hV28.idx he_27 he_29)) fun a hF=>q_do rfl fun _ hK=>wp_storeV (e':=max 0 (w64 ((w64 (e_24 - p_base)) + 1))) (us:=[(iV (max 0 (w64 ((w64 (e_24 - p_base)) + 1))))]) (vs:=[(iV e_29)]) 0 hF hS hV28 he_27 sz3 rfl rfl rfl rfl rfl rfl rfl he_29 at30 rfl rfl rfl fun w q31 hS h31=>hK _ _ (q_end (n_sq (q_region (q_m hF rfl fun a hF=>q_m hF rfl fun a hF=>?_))))
        obtain ⟨e_32,he_32,hb6⟩:=bindS hb6
        obtain ⟨s33,hV33⟩:=h22.view he_32
        refine q_y (v:=(elP s10 (t_15.toNat * 1))) hF hS (ex_indexAddr U23 sz28 rfl rfl (h22.idx he_32)) fun a hF=>q_y (v:=s33.v) hF hS (ex_loadE1 0 U28 rfl rfl ((hV33.atH he_32).at 1 rfl) rfl rfl) fun a hF=>q_m hF rfl fun a hF=>q_m hF rfl fun a hF=>q_m hF rfl fun a hF=>q_y (v:=(iV (w64 (e_24 + p_base)))) hF hS (ex_ibin rfl rfl rfl) fun a hF=>q_y (v:=(iV (w64 ((w64 (e_24 + p_base)) - 1)))) hF hS (ex_ibin rfl rfl rfl) fun a hF=>?_
        obtain ⟨e_34,he_34,hb6⟩:=bindS hb6
        obtain ⟨vs35,at35,d35⟩:=hV33.at he_32 he_34 1 rfl
        obtain rfl : vs35 = [(iV e_34)]:=d35
        refine q_y (v:=(elP s33 (t_23.toNat * 1))) hF hS (ex_indexAddr U28 sz3 rfl rfl (hV33.idx he_32 he_34)) fun a hF=>?_
        have hS : St _ _ _ _ [q22,q31]:=hS.sel [1,0] (by decide)
        refine q_do rfl fun _ hK=>wp_storeV (e':=(w64 ((w64 (e_24 + p_base)) - 1))) (us:=[(iV (w64 ((w64 (e_24 + p_base)) - 1)))]) (vs:=[(iV e_34)]) 0 hF hS hV33 he_32 sz3 rfl rfl rfl rfl rfl rfl rfl he_34 at35 rfl rfl rfl fun w q36 hS h36=>hK _ _ (q_end (n_ib (n_sq (q_region (q_y (v:=(iV (w64 (t_23 + 1)))) hF hS (ex_ibin rfl rfl rfl) fun a hF=>q_m hF rfl fun a hF=>q_end ?_)))))
        obtain rfl:=someI hb6
        exact ⟨rfl,q31,q36,_,_,_,rfl,hF.sub ⟨rfl,rfl,rfl,rfl,rfl,rfl,rfl,rfl,rfl,rfl,trivial⟩,hS.sel [1,0] (by decide),h31.own,h36.own⟩
       ·have hb6:=cond_t hc8 hb6
        refine q_cond_t hF rfl hc8 (q_sr (q_s hF rfl fun a hF=>q_s hF rfl fun a hF=>q_s hF rfl fun a hF=>q_end (n_sq (q_ret (r_sq (r_ib (r_sq ?_)))))))
        obtain rfl:=someI hb6
        refine ⟨nofun,.inr fun ho=>?_⟩
        subst ho
        refine r_ib (r_ib (r_sq ?_))
        obtain rfl:=someI hb4
        refine ⟨nofun,.inr fun ho=>?_⟩
        subst ho
        refine r_ib (r_sq ?_)
        obtain rfl:=someI hr
        exact ret_of hF hS rfl (.tmp rfl (.tmp rfl (.tmp rfl .nil))) ⟨[],[],nilS,nilS,rfl,hS.sel [2,3] (by decide),(OwnD.nil (β:=Int) m 28 3),(OwnD.nil (β:=Int) m 28 3)⟩
     ·rintro e a w ⟨q38,q40,lo_37,hi_39,rfl,rfl,hF,hS,h38,h40⟩
      refine x_ib (n_ib (n_sq ?_))
      refine q_region (q_y (v:=(iV (w64 (t_15 + 1)))) hF hS (ex_ibin rfl rfl rfl) fun a hF=>q_m hF rfl fun a hF=>q_end ?_)
      obtain rfl:=someI hb4
      exact ⟨rfl,q38,q40,_,_,_,rfl,hF.sub ⟨rfl,rfl,rfl,rfl,rfl,rfl,trivial⟩,hS,h38,h40⟩
   ·rintro e a w ⟨q42,q44,lo_41,hi_43,rfl,rfl,hF,hS,h42,h44⟩
    refine x_ib (n_sq ?_)
    refine q_sr (q_m hF rfl fun a hF=>q_m hF rfl fun a hF=>q_s hF rfl fun a hF=>q_s hF rfl fun a hF=>q_s hF rfl fun a hF=>q_end (n_sq (q_ret ?_)))
    obtain rfl:=someI hr
    exact ret_of hF hS rfl (.tmp rfl (.tmp rfl (.tmp rfl .nil))) ⟨q42,q44,s7,s10,rfl,hS.sel [0,1] (by decide),h42,h44⟩
  ·have hr:=cond_t hc3 hr
   refine q_cond_t hF rfl hc3 (q_sr (q_s hF rfl fun a hF=>q_s hF rfl fun a hF=>q_s hF rfl fun a hF=>q_end (n_sq (q_ret (r_sq ?_)))))
   obtain rfl:=someI hr
   exact ret_of hF hS rfl (.tmp rfl (.tmp rfl (.tmp rfl .nil))) ⟨[],[],nilS,nilS,rfl,hS.sel [0,1] (by decide),(OwnD.nil (β:=Int) m 28 3),(OwnD.nil (β:=Int) m 28 3)⟩

theorem c_laws_pSameNetwork (p_a : impl_Transport) (p_b : impl_Transport) (r : Bool) (hr : laws_pSameNetwork p_a p_b = some r) (w0 : World) (m : Mem) (hv : Vis m w0) (s1 : Sl) (h1 : Rd m s1 p_a.Rows) (s2 : Sl) (h2 : Rd m s2 p_a.Cols) (s3 : Sl) (h3 : Rd m s3 p_a.Lo) (s4 : Sl) (h4 : Rd m s4 p_a.Hi) (s5 : Sl) (h5 : Rd m s5 p_b.Rows) (s6 : Sl) (h6 : Rd m s6 p_b.Cols) (s7 : Sl) (h7 : Rd m s7 p_b.Lo) (s8 : Sl) (h8 : Rd m s8 p_b.Hi) :
  Ret Try.prog 66 [(.agg #[s1.v,s2.v,s3.v,s4.v]),(.agg #[s5.v,s6.v,s7.v,s8.v])] w0 (fun v _=>v = (.bool r)):=by
 unfold laws_pSameNetwork at hr
 refine ret_start Try.func66 rfl 31 rfl rfl m hv fun a hF hS=>q_sr (q_box (cs:=[s1.v,s2.v,s3.v,s4.v]) hF hS rfl rfl rfl fun a w b9 hF hS=>q_box (cs:=[s5.v,s6.v,s7.v,s8.v]) hF hS rfl rfl rfl fun a w b10 hF hS=>q_s hF rfl fun a hF=>q_end (n_sq (q_seq ?_)))
 obtain ⟨t_15,hj1,hr⟩:=bindS hr
 refine q_join (fun a w=>Fr a 31 [(4,(.bool t_15))]∧St [] w0 w m []) ?_ ?_
 ·refine q_region (q_y (v:=(pP b9 0)) hF hS (ex_fieldAddr U50 rfl sz28 rfl rfl) fun a hF=>q_y (v:=s1.v) hF hS (ex_load1 1 0 U28 rfl rfl rfl rfl) fun a hF=>q_y (v:=(pP b10 0)) hF hS (ex_fieldAddr U50 rfl sz28 rfl rfl) fun a hF=>q_y (v:=s5.v) hF hS (ex_load1 0 0 U28 rfl rfl rfl rfl) fun a hF=>?_)
  obtain ⟨t_11,ht_11,hj1⟩:=bindS hj1
  refine q_call (vs:=[s1.v,s5.v]) hF hS Try.func55 (by kernel_rfl) rfl rfl rfl (c_laws_sameInts p_a.Rows p_b.Rows t_11 ht_11 _ m hS.vis s1 h1 s5 h5) ?_
  rintro a w _ rfl hF hS
  refine q_m hF rfl fun a hF=>?_
  rcases bcase (t_11) with hc2 | hc2
  ·have hj1:=cond_f hc2 hj1
   refine q_k hF hc2 fun a hF=>q_k hF hc2 fun a hF=>q_k hF hc2 fun a hF=>q_k hF hc2 fun a hF=>q_k hF hc2 fun a hF=>q_y (v:=(.bool false)) hF hS (ex_pick_f rfl rfl hc2) fun a hF=>q_m hF rfl fun a hF=>q_k hF rfl fun a hF=>q_k hF rfl fun a hF=>q_k hF rfl fun a hF=>q_k hF rfl fun a hF=>q_k hF rfl fun a hF=>q_y (v:=(.bool false)) hF hS (ex_pick_f rfl rfl rfl) fun a hF=>q_m hF rfl fun a hF=>q_k hF rfl fun a hF=>q_k hF rfl fun a hF=>q_k hF rfl fun a hF=>q_k hF rfl fun a hF=>q_k hF rfl fun a hF=>q_y (v:=(.bool false)) hF hS (ex_pick_f rfl rfl rfl) fun a hF=>q_s hF rfl fun a hF=>q_end (n_jn ?_)
   obtain rfl:=someI hj1
   exact ⟨hF.sub ⟨rfl,trivial⟩,hS.mask [false,false]⟩
  ·have hj1:=cond_t hc2 hj1
   refine q_g (v:=(pP b9 1)) hF hS (ex_fieldAddr U50 rfl sz28 rfl rfl) hc2 fun a hF=>q_g (v:=s2.v) hF hS (ex_load1 1 0 U28 rfl rfl rfl rfl) hc2 fun a hF=>q_g (v:=(pP b10 1)) hF hS (ex_fieldAddr U50 rfl sz28 rfl rfl) hc2 fun a hF=>q_g (v:=s6.v) hF hS (ex_load1 0 0 U28 rfl rfl rfl rfl) hc2 fun a hF=>?_
   obtain ⟨t_12,ht_12,hj1⟩:=bindS hj1
   refine q_callg (vs:=[s2.v,s6.v]) hF hS (wanted_t hF rfl rfl rfl hc2) Try.func55 (by kernel_rfl) rfl rfl rfl (c_laws_sameInts p_a.Cols p_b.Cols t_12 ht_12 _ m hS.vis s2 h2 s6 h6) ?_
   rintro a w _ rfl hF hS
   refine q_y (v:=(.bool t_12)) hF hS (ex_pick_t rfl rfl hc2) fun a hF=>q_m hF rfl fun a hF=>?_
   rcases bcase (t_12) with hc3 | hc3
   ·have hj1:=cond_f hc3 hj1
    refine q_k hF hc3 fun a hF=>q_k hF hc3 fun a hF=>q_k hF hc3 fun a hF=>q_k hF hc3 fun a hF=>q_k hF hc3 fun a hF=>q_y (v:=(.bool false)) hF hS (ex_pick_f rfl rfl hc3) fun a hF=>q_m hF rfl fun a hF=>q_k hF rfl fun a hF=>q_k hF rfl fun a hF=>q_k hF rfl fun a hF=>q_k hF rfl fun a hF=>q_k hF rfl fun a hF=>q_y (v:=(.bool false)) hF hS (ex_pick_f rfl rfl rfl) fun a hF=>q_s hF rfl fun a hF=>q_end (n_jn ?_)
    obtain rfl:=someI hj1
    exact ⟨hF.sub ⟨rfl,trivial⟩,hS.mask [false,false]⟩
   ·have hj1:=cond_t hc3 hj1
    refine q_g (v:=(pP b9 2)) hF hS (ex_fieldAddr U50 rfl sz23 rfl rfl) hc3 fun a hF=>q_g (v:=s3.v) hF hS (ex_load1 1 0 U23 rfl rfl rfl rfl) hc3 fun a hF=>q_g (v:=(pP b10 2)) hF hS (ex_fieldAddr U50 rfl sz23 rfl rfl) hc3 fun a hF=>q_g (v:=s7.v) hF hS (ex_load1 0 0 U23 rfl rfl rfl rfl) hc3 fun a hF=>?_
    obtain ⟨t_13,ht_13,hj1⟩:=bindS hj1
    refine q_callg (vs:=[s3.v,s7.v]) hF hS (wanted_t hF rfl rfl rfl hc3) Try.func47 (by kernel_rfl) rfl rfl rfl (c_laws_sameLists p_a.Lo p_b.Lo t_13 ht_13 _ m hS.vis s3 h3 s7 h7) ?_
    rintro a w _ rfl hF hS
    refine q_y (v:=(.bool t_13)) hF hS (ex_pick_t rfl rfl hc3) fun a hF=>q_m hF rfl fun a hF=>?_
    rcases bcase (t_13) with hc4 | hc4
    ·have hj1:=cond_f hc4 hj1
     refine q_k hF hc4 fun a hF=>q_k hF hc4 fun a hF=>q_k hF hc4 fun a hF=>q_k hF hc4 fun a hF=>q_k hF hc4 fun a hF=>q_y (v:=(.bool false)) hF hS (ex_pick_f rfl rfl hc4) fun a hF=>q_s hF rfl fun a hF=>q_end (n_jn ?_)
     obtain rfl:=someI hj1
     exact ⟨hF.sub ⟨rfl,trivial⟩,hS.mask [false,false]⟩
    ·have hj1:=cond_t hc4 hj1
     refine q_g (v:=(pP b9 3)) hF hS (ex_fieldAddr U50 rfl sz23 rfl rfl) hc4 fun a hF=>q_g (v:=s4.v) hF hS (ex_load1 1 0 U23 rfl rfl rfl rfl) hc4 fun a hF=>q_g (v:=(pP b10 3)) hF hS (ex_fieldAddr U50 rfl sz23 rfl rfl) hc4 fun a hF=>q_g (v:=s8.v) hF hS (ex_load1 0 0 U23 rfl rfl rfl rfl) hc4 fun a hF=>?_
     obtain ⟨t_14,ht_14,hj1⟩:=bindS hj1
     refine q_callg (vs:=[s4.v,s8.v]) hF hS (wanted_t hF rfl rfl rfl hc4) Try.func47 (by kernel_rfl) rfl rfl rfl (c_laws_sameLists p_a.Hi p_b.Hi t_14 ht_14 _ m hS.vis s4 h4 s8 h8) ?_
     rintro a w _ rfl hF hS
     refine q_y (v:=(.bool t_14)) hF hS (ex_pick_t rfl rfl hc4) fun a hF=>q_s hF rfl fun a hF=>q_end (n_jn ?_)
     obtain rfl:=someI hj1
     exact ⟨hF.sub ⟨rfl,trivial⟩,hS.mask [false,false]⟩
 ·rintro a w ⟨hF,hS⟩
  refine n_sq (q_ret ?_)
  obtain rfl:=someI hr
  exact ret_of hF hS rfl (.tmp rfl .nil) rfl

end Go.Proofs.Ytpjcfmpfiadkgaa
