/- The walks of the functions: each returns what its plain function says. -/
import Derived.Test.YtpjcfmpfiadkgaaFWalks2
namespace Go.Proofs.Ytpjcfmpfiadkgaa
open Go.Gx Go.Gx.F Go.RowKit
set_option linter.all false
set_option maxRecDepth 10000


theorem c_spec_tFilled (p_t : impl_Transport) (r : spec_tFill × Bool) (hr : spec_tFilled p_t = some r) (w0 : World) (m : Mem) (hv : Vis m w0) (s1 : Sl) (h1 : Rd m s1 p_t.Rows) (s2 : Sl) (h2 : Rd m s2 p_t.Cols) (s3 : Sl) (h3 : Rd m s3 p_t.Lo) (s4 : Sl) (h4 : Rd m s4 p_t.Hi) :
  Ret Try.prog 182 [(.agg #[s1.v,s2.v,s3.v,s4.v])] w0 (fun v w=>∃ (m' : Mem) (b0' : Nat) (q4' : Piece) (q5' : Piece) (q6' : Piece) (s0' : Sl) (s1' : Sl) (s2' : Sl) (s3' : Sl) (s4' : Sl) (s5' : Sl) (s6' : Sl),v = (.tuple #[(.pointer (some ⟨b0',0,none⟩)),(.bool r.2)])∧MLe [] w0.heap.size m m'∧St [] w0 w m' [[⟨b0',[s0'.v,s1'.v,s2'.v,s3'.v,s4'.v,s5'.v,s6'.v],150⟩],q4',q5',q6']∧Rd m' s0' r.1.t.Rows∧Rd m' s1' r.1.t.Cols∧Rd m' s2' r.1.t.Lo∧Rd m' s3' r.1.t.Hi∧OwnD m' 28 3 q4' s4' r.1.x∧OwnL m' 3 q5' s5' r.1.rows∧OwnL m' 3 q6' s6' r.1.cols):=by
 unfold spec_tFilled at hr
 refine ret_start Try.func182 rfl 17 rfl rfl m hv fun a hF hS=>q_seq (q_region (q_box (cs:=[s1.v,s2.v,s3.v,s4.v]) hF hS rfl rfl rfl fun a w b5 hF hS=>q_x (v:=(.pointer none)) hF hS (ex_assign rfl) rfl rfl fun a hF=>q_x (v:=(.bool false)) hF hS (ex_assign rfl) rfl rfl fun a hF=>q_end (n_sq (q_seq (q_region (q_x (v:=(.agg #[s1.v,s2.v,s3.v,s4.v])) hF hS (ex_loadA (vs:=[s1.v,s2.v,s3.v,s4.v]) 0 0 Try.underlying50 rfl sz50 rfl rfl rfl rfl) rfl rfl fun a hF=>?_))))))
 obtain ⟨t_6,ht_6,hr⟩:=bindS hr
 refine q_call (vs:=[(.agg #[s1.v,s2.v,s3.v,s4.v])]) hF hS Try.func198 (by kernel_rfl) rfl rfl rfl (c_spec_tStart p_t t_6 ht_6 _ m hS.vis s1 h1 s2 h2 s3 h3 s4 h4) ?_
 have hT:=hS
 rintro a w _ ⟨m7,b15,q12,q13,q14,s8,s9,s10,s11,s12,s13,s14,rfl,hm7,hR7,h8,h9,h10,h11,h12,h13,h14⟩ hF hS2
 have hS : St _ _ _ _ [[⟨b15,[s8.v,s9.v,s10.v,s11.v,s12.v,s13.v,s14.v],150⟩],q12,q13,q14,[⟨b5,[s1.v,s2.v,s3.v,s4.v],50⟩]]:=hS.join hR7 hm7
 have hm7:=MLe.weakX (O0:=[]) hT hm7
 refine q_x (v:=(.tuple #[(.pointer (some ⟨b15,0,none⟩)),(.bool t_6.2)])) hF hS (ex_move rfl) rfl rfl fun a hF=>q_x (v:=(.pointer (some ⟨b15,0,none⟩))) hF hS (ex_extract rfl rfl) rfl rfl fun a hF=>q_x (v:=(.bool t_6.2)) hF hS (ex_extract rfl rfl) rfl rfl fun a hF=>q_x (v:=(.pointer (some ⟨b15,0,none⟩))) hF hS (ex_assign rfl) rfl rfl fun a hF=>q_x (v:=(.bool t_6.2)) hF hS (ex_assign rfl) rfl rfl fun a hF=>q_end (n_sq (q_seq (q_seq (q_region (q_x (v:=(.bool t_6.2)) hF hS (ex_move rfl) rfl rfl fun a hF=>q_x (v:=(.bool (!t_6.2))) hF hS (ex_not rfl) rfl rfl fun a hF=>q_end (n_sq ?_))))))
 rcases bcase (!t_6.2) with hc1 | hc1
 ·have hr:=cond_f hc1 hr
  refine q_cond_f hF rfl hc1 (q_skipc (n_sq (q_seq (q_block ?_))))
  obtain ⟨f_33,hl2,hr⟩:=bindS hr
  refine q_loop (fun (f_16 : spec_tFill) a w=>∃ (q21 : Piece),∃ (s21 : Sl),∃ (q22 : Piece),∃ (s22 : Sl),∃ (q23 : Piece),∃ (s23 : Sl),Fr a 17 [(4,(.pointer (some ⟨b15,0,none⟩)))]∧St [] w0 w m7 [q21,q22,q23,[⟨b15,[s8.v,s9.v,s10.v,s11.v,s21.v,s22.v,s23.v],150⟩]]∧Rd m7 s8 f_16.t.Rows∧f_16.t.Rows = t_6.1.t.Rows∧Rd m7 s9 f_16.t.Cols∧f_16.t.Cols = t_6.1.t.Cols∧Rd m7 s10 f_16.t.Lo∧f_16.t.Lo = t_6.1.t.Lo∧Rd m7 s11 f_16.t.Hi∧f_16.t.Hi = t_6.1.t.Hi∧OwnD m7 28 3 q21 s21 f_16.x∧OwnL m7 3 q22 s22 f_16.rows∧OwnL m7 3 q23 s23 f_16.cols) (fun (f_33 : spec_tFill) e a w=>∃ (q38 : Piece),∃ (s38 : Sl),∃ (q39 : Piece),∃ (s39 : Sl),∃ (q40 : Piece),∃ (s40 : Sl),e = .exit 0∧Fr a 17 [(4,(.pointer (some ⟨b15,0,none⟩)))]∧St [] w0 w m7 [q38,q39,q40,[⟨b15,[s8.v,s9.v,s10.v,s11.v,s38.v,s39.v,s40.v],150⟩]]∧Rd m7 s8 f_33.t.Rows∧f_33.t.Rows = t_6.1.t.Rows∧Rd m7 s9 f_33.t.Cols∧f_33.t.Cols = t_6.1.t.Cols∧Rd m7 s10 f_33.t.Lo∧f_33.t.Lo = t_6.1.t.Lo∧Rd m7 s11 f_33.t.Hi∧f_33.t.Hi = t_6.1.t.Hi∧OwnD m7 28 3 q38 s38 f_33.x∧OwnL m7 3 q39 s39 f_33.rows∧OwnL m7 3 q40 s40 f_33.cols) hl2 ⟨q12,s12,q13,s13,q14,s14,hF.sub ⟨rfl,trivial⟩,hS.sel [1,2,3,0] (by decide),h8,rfl,h9,rfl,h10,rfl,h11,rfl,h12,h13,h14⟩ ?_ ?_
  ·clear hF hS
   rintro f_16 a w st ⟨q21,s21,q22,s22,q23,s23,hF,hS,h17,h17k,h18,h18k,h19,h19k,h20,h20k,h21,h22,h23⟩ hb2
   unfold spec_tFilled_l1 at hb2
   refine q_seq (q_seq (q_region (q_x (v:=(.pointer (some ⟨b15,0,none⟩))) hF hS (ex_move rfl) rfl rfl fun a hF=>?_)))
   have hS : St _ _ _ _ [[⟨b15,[s8.v,s9.v,s10.v,s11.v,s21.v,s22.v,s23.v],150⟩],q21,q22,q23]:=hS.sel [3,0,1,2] (by decide)
   have hS24 : St _ _ _ _ ([[⟨b15,[s8.v,s9.v,s10.v,s11.v,s21.v,s22.v,s23.v],150⟩],q21,q22,q23]++[]):=hS
   have hE24:=hS24.enter
   obtain ⟨t_25,ht_25,hb2⟩:=bindS hb2
   refine q_do rfl fun _ hK=>wp_callX (vs:=[(.pointer (some ⟨b15,0,none⟩))]) hF Try.func199 (by kernel_rfl) rfl rfl rfl (c_spec_tFill_augment f_16 t_25 ht_25 _ m7 b15 s8 h17 s9 h18 s10 h19 s11 h20 s21 q21 h21 s22 q22 h22 s23 q23 h23 _ hE24) fun a w _ hR hF=>hK _ _ ?_
   obtain ⟨q30,q31,q32,s30,s31,s32,rfl,hR24,hk26,hk27,hk28,hk29,h30,h31,h32⟩:=hR
   have hS : St _ _ _ _ [[⟨b15,[s8.v,s9.v,s10.v,s11.v,s30.v,s31.v,s32.v],150⟩],q30,q31,q32]:=hS24.leaveF hR24
   have h26 : Rd m7 s8 t_25.2.t.Rows:=by rw [hk26]; exact h17
   have h27 : Rd m7 s9 t_25.2.t.Cols:=by rw [hk27]; exact h18
   have h28 : Rd m7 s10 t_25.2.t.Lo:=by rw [hk28]; exact h19
   have h29 : Rd m7 s11 t_25.2.t.Hi:=by rw [hk29]; exact h20
   refine q_end (n_sq ?_)
   rcases bcase (t_25.1) with hc3 | hc3
   ·have hb2:=cond_f hc3 hb2
    refine q_cond_f hF rfl hc3 (q_exit (x_sq ?_))
    obtain rfl:=someI hb2
    exact ⟨nofun,.inl ⟨q30,s30,q31,s31,q32,s32,rfl,hF.sub ⟨rfl,trivial⟩,hS.sel [1,2,3,0] (by decide),h26,(hk26.trans h17k),h27,(hk27.trans h18k),h28,(hk28.trans h19k),h29,(hk29.trans h20k),h30,h31,h32⟩⟩
   ·have hb2:=cond_t hc3 hb2
    refine q_cond_t hF rfl hc3 (q_skipc (n_sq (q_block (q_skipc (n_ib ?_)))))
    obtain rfl:=someI hb2
    exact ⟨rfl,q30,s30,q31,s31,q32,s32,hF.sub ⟨rfl,trivial⟩,hS.sel [1,2,3,0] (by decide),h26,(hk26.trans h17k),h27,(hk27.trans h18k),h28,(hk28.trans h19k),h29,(hk29.trans h20k),h30,h31,h32⟩
  ·rintro e a w ⟨q38,s38,q39,s39,q40,s40,rfl,hF,hS,h34,h34k,h35,h35k,h36,h36k,h37,h37k,h38,h39,h40⟩
   refine x_ib (n_sq ?_)
   refine q_seq (q_region (q_x (v:=(.pointer (some ⟨b15,0,none⟩))) hF hS (ex_move rfl) rfl rfl fun a hF=>q_x (v:=(.pointer (some ⟨b15,0,none⟩))) hF hS (ex_assign rfl) rfl rfl fun a hF=>q_x (v:=(.bool true)) hF hS (ex_assign rfl) rfl rfl fun a hF=>q_end (n_sq (q_ret ?_))))
   obtain rfl:=someI hr
   exact ret_of hF hS rfl (.tmp rfl (.tmp rfl .nil)) ⟨m7,b15,q38,q39,q40,s8,s9,s10,s11,s38,s39,s40,rfl,hm7,hS.sel [3,0,1,2] (by decide),h34,h35,h36,h37,h38,h39,h40⟩
 ·have hr:=cond_t hc1 hr
  refine q_cond_t hF rfl hc1 (q_seq (q_region (q_x (v:=(.pointer (some ⟨b15,0,none⟩))) hF hS (ex_move rfl) rfl rfl fun a hF=>q_x (v:=(.pointer (some ⟨b15,0,none⟩))) hF hS (ex_assign rfl) rfl rfl fun a hF=>q_x (v:=(.bool false)) hF hS (ex_assign rfl) rfl rfl fun a hF=>q_end (n_sq (q_ret (r_sq ?_))))))
  obtain rfl:=someI hr
  exact ret_of hF hS rfl (.tmp rfl (.tmp rfl .nil)) ⟨m7,b15,q12,q13,q14,s8,s9,s10,s11,s12,s13,s14,rfl,hm7,hS.sel [0,1,2,3] (by decide),h8,h9,h10,h11,h12,h13,h14⟩

theorem c_spec_tFeasible (p_t : impl_Transport) (r : (List (List Int)) × Bool) (hr : spec_tFeasible p_t = some r) (w0 : World) (m : Mem) (hv : Vis m w0) (s1 : Sl) (h1 : Rd m s1 p_t.Rows) (s2 : Sl) (h2 : Rd m s2 p_t.Cols) (s3 : Sl) (h3 : Rd m s3 p_t.Lo) (s4 : Sl) (h4 : Rd m s4 p_t.Hi) :
  Ret Try.prog 158 [(.agg #[s1.v,s2.v,s3.v,s4.v])] w0 (fun v w=>∃ (m' : Mem) (q0' : Piece) (s0' : Sl),v = (.tuple #[s0'.v,(.bool r.2)])∧MLe [] w0.heap.size m m'∧St [] w0 w m' [q0']∧OwnD m' 28 3 q0' s0' r.1):=by
 unfold spec_tFeasible at hr
 refine ret_start Try.func158 rfl 32 rfl rfl m hv fun a hF hS=>q_seq (q_region (q_box (cs:=[s1.v,s2.v,s3.v,s4.v]) hF hS rfl rfl rfl fun a w b5 hF hS=>q_x (v:=nilS.v) hF hS (ex_assign rfl) rfl rfl fun a hF=>q_x (v:=(.bool false)) hF hS (ex_assign rfl) rfl rfl fun a hF=>q_end (n_sq (q_seq (q_seq (e_region ⟨[],[],m⟩ mixed fun w' hw'=>?_))))))
 have hS:=hS.below hw'
 refine e_p (v:=(.pointer (some ⟨b5,0,none⟩))) 0 hF rfl (ex_fieldAddr Try.underlying50 rfl sz28 rfl rfl) rfl rfl (by kernel_rfl) (by kernel_rfl) (by kernel_rfl) fun a hF=>e_x (v:=s1.v) 1 hF hS rfl (ex_load1 0 0 Try.underlying28 rfl rfl rfl rfl) rfl rfl (by kernel_rfl) (by kernel_rfl) (by kernel_rfl) (by kernel_rfl) fun a hF=>e_p (v:=(.pointer (some ⟨b5,1,none⟩))) 3 hF rfl (ex_fieldAddr Try.underlying50 rfl sz28 rfl rfl) rfl rfl (by kernel_rfl) (by kernel_rfl) (by kernel_rfl) fun a hF=>e_x (v:=s2.v) 4 hF hS rfl (ex_load1 0 0 Try.underlying28 rfl rfl rfl rfl) rfl rfl (by kernel_rfl) (by kernel_rfl) (by kernel_rfl) (by kernel_rfl) fun a hF=>e_one 2 (by kernel_rfl) ?_
 obtain ⟨t_8,ht_8,hr⟩:=bindS hr
 refine e_call (vs:=[s1.v]) hF hS rfl Try.func83 (by kernel_rfl) rfl rfl rfl (c_spec_tSum p_t.Rows t_8 ht_8 _ m hS.vis s1 h1) ?_
 rintro a w _ rfl hF hS
 refine e_one 5 (by kernel_rfl) ?_
 obtain ⟨t_9,ht_9,hr⟩:=bindS hr
 refine e_call (vs:=[s2.v]) hF hS rfl Try.func83 (by kernel_rfl) rfl rfl rfl (c_spec_tSum p_t.Cols t_9 ht_9 _ m hS.vis s2 h2) ?_
 rintro a w _ rfl hF hS
 refine e_p (v:=(.bool (t_8 != t_9))) 6 hF rfl (ex_ibin rfl rfl rfl) rfl rfl (by kernel_rfl) (by kernel_rfl) (by kernel_rfl) fun a hF=>e_end (by kernel_rfl) (n_sq ?_) _
 rcases bcase (t_8 != t_9) with hc1 | hc1
 ·have hr:=cond_f hc1 hr
  refine q_cond_f hF rfl hc1 (q_skipc (n_sq (q_seq (q_region (q_x (v:=(.agg #[s1.v,s2.v,s3.v,s4.v])) hF hS (ex_loadA (vs:=[s1.v,s2.v,s3.v,s4.v]) 0 0 Try.underlying50 rfl sz50 rfl rfl rfl rfl) rfl rfl fun a hF=>?_)))))
  obtain ⟨t_10,ht_10,hr⟩:=bindS hr
  refine q_call (vs:=[(.agg #[s1.v,s2.v,s3.v,s4.v])]) hF hS Try.func182 (by kernel_rfl) rfl rfl rfl (c_spec_tFilled p_t t_10 ht_10 _ m hS.vis s1 h1 s2 h2 s3 h3 s4 h4) ?_
  have hT:=hS
  rintro a w _ ⟨m11,b19,q16,q17,q18,s12,s13,s14,s15,s16,s17,s18,rfl,hm11,hR11,h12,h13,h14,h15,h16,h17,h18⟩ hF hS2
  have hS : St _ _ _ _ [[⟨b19,[s12.v,s13.v,s14.v,s15.v,s16.v,s17.v,s18.v],150⟩],q16,q17,q18,[⟨b5,[s1.v,s2.v,s3.v,s4.v],50⟩]]:=hS.join hR11 hm11
  have hm11:=MLe.weakX (O0:=[]) hT hm11
  refine q_x (v:=(.tuple #[(.pointer (some ⟨b19,0,none⟩)),(.bool t_10.2)])) hF hS (ex_move rfl) rfl rfl fun a hF=>q_x (v:=(.pointer (some ⟨b19,0,none⟩))) hF hS (ex_extract rfl rfl) rfl rfl fun a hF=>q_x (v:=(.bool t_10.2)) hF hS (ex_extract rfl rfl) rfl rfl fun a hF=>q_x (v:=(.pointer (some ⟨b19,0,none⟩))) hF hS (ex_assign rfl) rfl rfl fun a hF=>q_x (v:=(.bool t_10.2)) hF hS (ex_assign rfl) rfl rfl fun a hF=>q_end (n_sq (q_seq (q_seq ?_)))
  obtain ⟨t_22,hj2,hr⟩:=bindS hr
  refine q_join (fun a w=>Fr a 32 [(4,(.pointer (some ⟨b19,0,none⟩))),(27,(.bool t_22))]∧St [] w0 w m11 [q16,q17,q18,[⟨b19,[s12.v,s13.v,s14.v,s15.v,s16.v,s17.v,s18.v],150⟩]]) ?_ ?_
  ·refine q_region (q_x (v:=(.bool t_10.2)) hF hS (ex_move rfl) rfl rfl fun a hF=>q_x (v:=(.bool (!t_10.2))) hF hS (ex_not rfl) rfl rfl fun a hF=>q_x (v:=(.bool (!t_10.2))) hF hS (ex_move rfl) rfl rfl fun a hF=>?_)
   rcases bcase (!t_10.2) with hc3 | hc3
   ·have hj2:=cond_f hc3 hj2
    refine q_xg (v:=(.pointer (some ⟨b19,0,none⟩))) hF hS (ex_move rfl) (wanted_t hF rfl rfl rfl hc3) rfl fun a hF=>q_xg (v:=(.pointer (some ⟨b19,0,none⟩))) hF hS (ex_nilCheck rfl) (wanted_t hF rfl rfl rfl hc3) rfl fun a hF=>q_xg (v:=(.pointer (some ⟨b19,5,none⟩))) hF hS (ex_fieldAddr Try.underlying150 rfl sz28 rfl rfl) (wanted_t hF rfl rfl rfl hc3) rfl fun a hF=>q_xg (v:=s17.v) hF hS (ex_load1 0 0 Try.underlying28 rfl rfl rfl rfl) (wanted_t hF rfl rfl rfl hc3) rfl fun a hF=>?_
    obtain ⟨m21,hl21,hv21,hz21⟩:=hS.lend
    obtain ⟨t_20,ht_20,hj2⟩:=bindS hj2
    refine q_callg (vs:=[s17.v]) hF hS (wanted_t hF rfl rfl rfl hc3) Try.func83 (by kernel_rfl) rfl rfl rfl (c_spec_tSum t_10.1.rows t_20 ht_20 _ m21 hv21 s17 (h17.froz hl21 (hz21 2 _ rfl))) ?_
    rintro a w _ rfl hF hS
    refine q_xg (v:=(.bool (decide (0 < t_20)))) hF hS (ex_ibin rfl rfl rfl) (wanted_t hF rfl rfl rfl hc3) rfl fun a hF=>q_x (v:=(.bool (decide (0 < t_20)))) hF hS (ex_pick_f rfl rfl hc3) rfl rfl fun a hF=>q_end (n_jn ?_)
    obtain rfl:=someI hj2
    exact ⟨hF.sub ⟨rfl,rfl,trivial⟩,hS.sel [1,2,3,0] (by decide)⟩
   ·have hj2:=cond_t hc3 hj2
    refine q_skip hF (wanted_f hF rfl rfl rfl hc3 rfl) rfl fun a hF=>q_skip hF (wanted_f hF rfl rfl rfl hc3 rfl) rfl fun a hF=>q_skip hF (wanted_f hF rfl rfl rfl hc3 rfl) rfl fun a hF=>q_skip hF (wanted_f hF rfl rfl rfl hc3 rfl) rfl fun a hF=>q_skip hF (wanted_f hF rfl rfl rfl hc3 rfl) rfl fun a hF=>q_skip hF (wanted_f hF rfl rfl rfl hc3 rfl) rfl fun a hF=>q_x (v:=(.bool true)) hF hS (ex_pick_t rfl rfl hc3) rfl rfl fun a hF=>q_end (n_jn ?_)
    obtain rfl:=someI hj2
    exact ⟨hF.sub ⟨rfl,rfl,trivial⟩,hS.sel [1,2,3,0] (by decide)⟩
  ·rintro a w ⟨hF,hS⟩
   refine n_sq ?_
   rcases bcase (t_22) with hc4 | hc4
   ·have hr:=cond_f hc4 hr
    refine q_cond_f hF rfl hc4 (q_skipc (n_sq (q_seq (q_region (q_x (v:=(.pointer (some ⟨b19,0,none⟩))) hF hS (ex_move rfl) rfl rfl fun a hF=>q_x (v:=(.pointer (some ⟨b19,0,none⟩))) hF hS (ex_nilCheck rfl) rfl rfl fun a hF=>q_x (v:=(.pointer (some ⟨b19,4,none⟩))) hF hS (ex_fieldAddr Try.underlying150 rfl sz23 rfl rfl) rfl rfl fun a hF=>q_x (v:=s16.v) hF hS (ex_load1 3 0 Try.underlying23 rfl rfl rfl rfl) rfl rfl fun a hF=>q_x (v:=s16.v) hF hS (ex_assign rfl) rfl rfl fun a hF=>q_x (v:=(.bool true)) hF hS (ex_assign rfl) rfl rfl fun a hF=>q_end (n_sq (q_ret ?_)))))))
    obtain rfl:=someI hr
    exact ret_of hF hS rfl (.tmp rfl (.tmp rfl .nil)) ⟨m11,q16,s16,rfl,hm11,hS.sel [0] (by decide),h16⟩
   ·have hr:=cond_t hc4 hr
    refine q_cond_t hF rfl hc4 (q_seq (q_region (q_x (v:=nilS.v) hF hS (ex_assign rfl) rfl rfl fun a hF=>q_x (v:=(.bool false)) hF hS (ex_assign rfl) rfl rfl fun a hF=>q_end (n_sq (q_ret (r_sq ?_))))))
    obtain rfl:=someI hr
    exact ret_of hF hS rfl (.tmp rfl (.tmp rfl .nil)) ⟨m11,[],nilS,rfl,hm11,hS.sel [4] (by decide),(OwnD.nil (β:=Int) m11 28 3)⟩
 ·have hr:=cond_t hc1 hr
  refine q_cond_t hF rfl hc1 (q_seq (q_region (q_x (v:=nilS.v) hF hS (ex_assign rfl) rfl rfl fun a hF=>q_x (v:=(.bool false)) hF hS (ex_assign rfl) rfl rfl fun a hF=>q_end (n_sq (q_ret (r_sq ?_))))))
  obtain rfl:=someI hr
  exact ret_of hF hS rfl (.tmp rfl (.tmp rfl .nil)) ⟨m,[],nilS,rfl,(MLe.refl _ _),hS.sel [1] (by decide),(OwnD.nil (β:=Int) m 28 3)⟩

theorem c_spec_tWith (p_t : impl_Transport) (p_i : Int) (p_j : Int) (p_lo : Int) (p_hi : Int) (r : impl_Transport) (hr : spec_tWith p_t p_i p_j p_lo p_hi = some r) (w0 : World) (m : Mem) (hv : Vis m w0) (s1 : Sl) (h1 : Rd m s1 p_t.Rows) (s2 : Sl) (h2 : Rd m s2 p_t.Cols) (s3 : Sl) (h3 : Rd m s3 p_t.Lo) (s4 : Sl) (h4 : Rd m s4 p_t.Hi) :
  Ret Try.prog 121 [(.agg #[s1.v,s2.v,s3.v,s4.v]),(iV p_i),(iV p_j),(iV p_lo),(iV p_hi)] w0 (fun v w=>∃ (m' : Mem) (q2' : Piece) (q3' : Piece) (s0' : Sl) (s1' : Sl) (s2' : Sl) (s3' : Sl),v = (.agg #[s0'.v,s1'.v,s2'.v,s3'.v])∧MLe [] w0.heap.size m m'∧St [] w0 w m' [q2',q3']∧Rd m' s0' r.Rows∧Rd m' s1' r.Cols∧OwnD m' 28 3 q2' s2' r.Lo∧OwnD m' 28 3 q3' s3' r.Hi):=by
 unfold spec_tWith at hr
 refine ret_start Try.func121 rfl 40 rfl rfl m hv fun a hF hS=>q_seq (q_region (q_box (cs:=[s1.v,s2.v,s3.v,s4.v]) hF hS rfl rfl rfl fun a w b5 hF hS=>q_alloc (cs:=[nilS.v,nilS.v,nilS.v,nilS.v]) hF hS rfl rfl rfl fun a w b6 hF hS=>q_end (n_sq (q_seq ?_))))
 obtain ⟨out_23,hj1,hr⟩:=bindS hr
 refine q_join (fun a w=>∃ b22,∃ (q26 : Piece),∃ (s26 : Sl),∃ (q27 : Piece),∃ (s27 : Sl),Fr a 40 [(1,(iV p_i)),(2,(iV p_j)),(3,(iV p_lo)),(4,(iV p_hi)),(10,(.pointer (some ⟨b6,0,none⟩))),(11,(.pointer (some ⟨b22,0,none⟩)))]∧St [] w0 w m [q26,q27,[⟨b22,[s1.v,s2.v,s26.v,s27.v],50⟩],[⟨b6,[nilS.v,nilS.v,nilS.v,nilS.v],50⟩]]∧Rd m s1 out_23.Rows∧Rd m s2 out_23.Cols∧OwnD m 28 3 q26 s26 out_23.Lo∧OwnD m 28 3 q27 s27 out_23.Hi) ?_ ?_
 ·refine e_region ⟨[12],[b5],m⟩ mixed fun w' hw'=>?_
  have hS:=hS.below hw'
  refine e_p (v:=(.pointer (some ⟨b5,0,none⟩))) 0 hF rfl (ex_fieldAddr Try.underlying50 rfl sz28 rfl rfl) rfl rfl (by kernel_rfl) (by kernel_rfl) (by kernel_rfl) fun a hF=>e_xb (v:=s1.v) 1 1 hF hS (.head _) rfl rfl (ex_load1 0 0 Try.underlying28 rfl rfl rfl rfl) rfl rfl (by kernel_rfl) (by kernel_rfl) (by kernel_rfl) fun a hF=>e_p (v:=(.pointer (some ⟨b5,1,none⟩))) 2 hF rfl (ex_fieldAddr Try.underlying50 rfl sz28 rfl rfl) rfl rfl (by kernel_rfl) (by kernel_rfl) (by kernel_rfl) fun a hF=>e_xb (v:=s2.v) 3 1 hF hS (.head _) rfl rfl (ex_load1 0 0 Try.underlying28 rfl rfl rfl rfl) rfl rfl (by kernel_rfl) (by kernel_rfl) (by kernel_rfl) fun a hF=>e_p (v:=(.pointer (some ⟨b5,2,none⟩))) 4 hF rfl (ex_fieldAddr Try.underlying50 rfl sz23 rfl rfl) rfl rfl (by kernel_rfl) (by kernel_rfl) (by kernel_rfl) fun a hF=>e_xb (v:=s3.v) 5 1 hF hS (.head _) rfl rfl (ex_load1 0 0 Try.underlying23 rfl rfl rfl rfl) rfl rfl (by kernel_rfl) (by kernel_rfl) (by kernel_rfl) fun a hF=>e_p (v:=(.pointer (some ⟨b5,3,none⟩))) 7 hF rfl (ex_fieldAddr Try.underlying50 rfl sz23 rfl rfl) rfl rfl (by kernel_rfl) (by kernel_rfl) (by kernel_rfl) fun a hF=>e_xb (v:=s4.v) 8 1 hF hS (.head _) rfl rfl (ex_load1 0 0 Try.underlying23 rfl rfl rfl rfl) rfl rfl (by kernel_rfl) (by kernel_rfl) (by kernel_rfl) fun a hF=>?_
  obtain ⟨t_16,ht_16,hj1⟩:=bindS hj1
  obtain ⟨t_19,ht_19,hj1⟩:=bindS hj1
  refine e_all [6,11] (by kernel_rfl) rfl ⟨?_,?_,trivial⟩
  ·refine e_call (vs:=[s3.v]) hF hS rfl Try.func145 (by kernel_rfl) rfl rfl rfl (c_spec_tOwn p_t.Lo t_16 ht_16 _ m hS.vis s3 h3) ?_
   rintro a w _ ⟨q18,s18,rfl,hR17,h18⟩ hF hS2
   have hS : St _ _ _ _ [q18,[⟨b6,[nilS.v,nilS.v,nilS.v,nilS.v],50⟩],[⟨b5,[s1.v,s2.v,s3.v,s4.v],50⟩]]:=hS.joinF hR17
   refine e_all [9,11] (by kernel_rfl) rfl ⟨?_,?_,trivial⟩
   ·refine e_call (vs:=[s4.v]) hF hS rfl Try.func145 (by kernel_rfl) rfl rfl rfl (c_spec_tOwn p_t.Hi t_19 ht_19 _ m hS.vis s4 h4) ?_
    rintro a w _ ⟨q21,s21,rfl,hR20,h21⟩ hF hS2
    have hS : St _ _ _ _ [q21,q18,[⟨b6,[nilS.v,nilS.v,nilS.v,nilS.v],50⟩],[⟨b5,[s1.v,s2.v,s3.v,s4.v],50⟩]]:=hS.joinF hR20
    refine e_p (v:=(.agg #[s1.v,s2.v,s18.v,s21.v])) 10 hF rfl (ex_build (cells:=[s1.v,s2.v,s18.v,s21.v]) rfl (by kernel_rfl)) rfl rfl (by kernel_rfl) (by kernel_rfl) (by kernel_rfl) fun a hF=>e_one 11 (by kernel_rfl) (e_alloc (cs:=[nilS.v,nilS.v,nilS.v,nilS.v]) hF hS rfl rfl rfl rfl fun a w b22 hF hS=>e_one 12 (by kernel_rfl) ?_)
    have hSo:=hS
    refine e_store (vs:=[s1.v,s2.v,s18.v,s21.v]) (cs':=[s1.v,s2.v,s18.v,s21.v]) 0 0 hF hS rfl rfl sz50 rfl rfl rfl rfl rfl rfl rfl rfl fun a w hF hS=>⟨⟨kpC hSo hS 4 4 rfl rfl kpN,fun _=>hS.vis.of_le (Mem.le.refl _)⟩,?_⟩
    refine e_end (by kernel_rfl) (n_jn ?_) _
    obtain rfl:=someI hj1
    exact ⟨b22,q18,s18,q21,s21,hF.sub ⟨rfl,rfl,rfl,rfl,rfl,rfl,trivial⟩,hS.sel [2,1,0,3] (by decide),h1,h2,h18,h21⟩
   ·refine e_alloc (cs:=[nilS.v,nilS.v,nilS.v,nilS.v]) hF hS rfl rfl rfl rfl fun a w b22 hF hS=>e_one 9 (by kernel_rfl) (e_call (vs:=[s4.v]) hF hS rfl Try.func145 (by kernel_rfl) rfl rfl rfl (c_spec_tOwn p_t.Hi t_19 ht_19 _ m hS.vis s4 h4) ?_)
    rintro a w _ ⟨q21,s21,rfl,hR20,h21⟩ hF hS2
    have hS : St _ _ _ _ [q21,[⟨b22,[nilS.v,nilS.v,nilS.v,nilS.v],50⟩],q18,[⟨b6,[nilS.v,nilS.v,nilS.v,nilS.v],50⟩],[⟨b5,[s1.v,s2.v,s3.v,s4.v],50⟩]]:=hS.joinF hR20
    refine e_p (v:=(.agg #[s1.v,s2.v,s18.v,s21.v])) 10 hF rfl (ex_build (cells:=[s1.v,s2.v,s18.v,s21.v]) rfl (by kernel_rfl)) rfl rfl (by kernel_rfl) (by kernel_rfl) (by kernel_rfl) fun a hF=>e_one 12 (by kernel_rfl) ?_
    have hSo:=hS
    refine e_store (vs:=[s1.v,s2.v,s18.v,s21.v]) (cs':=[s1.v,s2.v,s18.v,s21.v]) 1 0 hF hS rfl rfl sz50 rfl rfl rfl rfl rfl rfl rfl rfl fun a w hF hS=>⟨⟨kpC hSo hS 4 4 rfl rfl kpN,fun _=>hS.vis.of_le (Mem.le.refl _)⟩,?_⟩
    refine e_end (by kernel_rfl) (n_jn ?_) _
    obtain rfl:=someI hj1
    exact ⟨b22,q18,s18,q21,s21,hF.sub ⟨rfl,rfl,rfl,rfl,rfl,rfl,trivial⟩,hS.sel [2,0,1,3] (by decide),h1,h2,h18,h21⟩
  ·refine e_alloc (cs:=[nilS.v,nilS.v,nilS.v,nilS.v]) hF hS rfl rfl rfl rfl fun a w b22 hF hS=>e_one 6 (by kernel_rfl) (e_call (vs:=[s3.v]) hF hS rfl Try.func145 (by kernel_rfl) rfl rfl rfl (c_spec_tOwn p_t.Lo t_16 ht_16 _ m hS.vis s3 h3) ?_)
   rintro a w _ ⟨q18,s18,rfl,hR17,h18⟩ hF hS2
   have hS : St _ _ _ _ [q18,[⟨b22,[nilS.v,nilS.v,nilS.v,nilS.v],50⟩],[⟨b6,[nilS.v,nilS.v,nilS.v,nilS.v],50⟩],[⟨b5,[s1.v,s2.v,s3.v,s4.v],50⟩]]:=hS.joinF hR17
   refine e_one 9 (by kernel_rfl) (e_call (vs:=[s4.v]) hF hS rfl Try.func145 (by kernel_rfl) rfl rfl rfl (c_spec_tOwn p_t.Hi t_19 ht_19 _ m hS.vis s4 h4) ?_)
   rintro a w _ ⟨q21,s21,rfl,hR20,h21⟩ hF hS2
   have hS : St _ _ _ _ [q21,q18,[⟨b22,[nilS.v,nilS.v,nilS.v,nilS.v],50⟩],[⟨b6,[nilS.v,nilS.v,nilS.v,nilS.v],50⟩],[⟨b5,[s1.v,s2.v,s3.v,s4.v],50⟩]]:=hS.joinF hR20
   refine e_p (v:=(.agg #[s1.v,s2.v,s18.v,s21.v])) 10 hF rfl (ex_build (cells:=[s1.v,s2.v,s18.v,s21.v]) rfl (by kernel_rfl)) rfl rfl (by kernel_rfl) (by kernel_rfl) (by kernel_rfl) fun a hF=>e_one 12 (by kernel_rfl) ?_
   have hSo:=hS
   refine e_store (vs:=[s1.v,s2.v,s18.v,s21.v]) (cs':=[s1.v,s2.v,s18.v,s21.v]) 2 0 hF hS rfl rfl sz50 rfl rfl rfl rfl rfl rfl rfl rfl fun a w hF hS=>⟨⟨kpC hSo hS 4 4 rfl rfl kpN,fun _=>hS.vis.of_le (Mem.le.refl _)⟩,?_⟩
   refine e_end (by kernel_rfl) (n_jn ?_) _
   obtain rfl:=someI hj1
   exact ⟨b22,q18,s18,q21,s21,hF.sub ⟨rfl,rfl,rfl,rfl,rfl,rfl,trivial⟩,hS.sel [1,0,2,3] (by decide),h1,h2,h18,h21⟩
 ·rintro a w ⟨b22,q26,s26,q27,s27,hF,hS,h24,h25,h26,h27⟩
  refine n_sq ?_
  refine q_seq (q_region (q_x (v:=(.pointer (some ⟨b22,2,none⟩))) hF hS (ex_fieldAddr Try.underlying50 rfl sz23 rfl rfl) rfl rfl fun a hF=>q_x (v:=s26.v) hF hS (ex_load1 2 0 Try.underlying23 rfl rfl rfl rfl) rfl rfl fun a hF=>q_x (v:=(iV p_i)) hF hS (ex_move rfl) rfl rfl fun a hF=>?_))
  obtain ⟨e_28,he_28,hr⟩:=bindS hr
  obtain ⟨s29,hV29⟩:=h26.view he_28
  refine q_x (v:=(elP s26 (p_i.toNat * 1))) hF hS (ex_indexAddr Try.underlying23 sz28 rfl rfl (h26.idx he_28)) rfl rfl fun a hF=>q_x (v:=s29.v) hF hS (ex_loadE1 0 Try.underlying28 rfl rfl ((hV29.atH he_28).at 0 rfl) rfl rfl) rfl rfl fun a hF=>q_x (v:=(iV p_j)) hF hS (ex_move rfl) rfl rfl fun a hF=>q_x (v:=(iV p_lo)) hF hS (ex_move rfl) rfl rfl fun a hF=>?_
  obtain ⟨e_30,he_30,hr⟩:=bindS hr
  obtain ⟨vs31,at31,d31⟩:=hV29.at he_28 he_30 1 rfl
  obtain rfl : vs31 = [(iV e_30)]:=d31
  refine q_x (v:=(elP s29 (p_j.toNat * 1))) hF hS (ex_indexAddr Try.underlying28 sz3 rfl rfl (hV29.idx he_28 he_30)) rfl rfl fun a hF=>q_do rfl fun _ hK=>wp_storeV (e':=p_lo) (us:=[(iV p_lo)]) (vs:=[(iV e_30)]) 0 hF hS hV29 he_28 sz3 rfl rfl rfl rfl rfl rfl rfl he_30 at31 rfl rfl rfl fun w q32 hS h32=>hK _ _ (q_end (n_sq (q_seq (q_region (q_x (v:=(.pointer (some ⟨b22,3,none⟩))) hF hS (ex_fieldAddr Try.underlying50 rfl sz23 rfl rfl) rfl rfl fun a hF=>q_x (v:=s27.v) hF hS (ex_load1 2 0 Try.underlying23 rfl rfl rfl rfl) rfl rfl fun a hF=>q_x (v:=(iV p_i)) hF hS (ex_move rfl) rfl rfl fun a hF=>?_)))))
  obtain ⟨e_33,he_33,hr⟩:=bindS hr
  obtain ⟨s34,hV34⟩:=h27.view he_33
  refine q_x (v:=(elP s27 (p_i.toNat * 1))) hF hS (ex_indexAddr Try.underlying23 sz28 rfl rfl (h27.idx he_33)) rfl rfl fun a hF=>q_x (v:=s34.v) hF hS (ex_loadE1 0 Try.underlying28 rfl rfl ((hV34.atH he_33).at 1 rfl) rfl rfl) rfl rfl fun a hF=>q_x (v:=(iV p_j)) hF hS (ex_move rfl) rfl rfl fun a hF=>q_x (v:=(iV p_hi)) hF hS (ex_move rfl) rfl rfl fun a hF=>?_
  obtain ⟨e_35,he_35,hr⟩:=bindS hr
  obtain ⟨vs36,at36,d36⟩:=hV34.at he_33 he_35 1 rfl
  obtain rfl : vs36 = [(iV e_35)]:=d36
  refine q_x (v:=(elP s34 (p_j.toNat * 1))) hF hS (ex_indexAddr Try.underlying28 sz3 rfl rfl (hV34.idx he_33 he_35)) rfl rfl fun a hF=>?_
  have hS : St _ _ _ _ [q27,q32,[⟨b22,[s1.v,s2.v,s26.v,s27.v],50⟩],[⟨b6,[nilS.v,nilS.v,nilS.v,nilS.v],50⟩]]:=hS.sel [1,0,2,3] (by decide)
  refine q_do rfl fun _ hK=>wp_storeV (e':=p_hi) (us:=[(iV p_hi)]) (vs:=[(iV e_35)]) 0 hF hS hV34 he_33 sz3 rfl rfl rfl rfl rfl rfl rfl he_35 at36 rfl rfl rfl fun w q37 hS h37=>hK _ _ (q_end (n_sq (q_seq (q_region (q_x (v:=(.agg #[s1.v,s2.v,s26.v,s27.v])) hF hS (ex_loadA (vs:=[s1.v,s2.v,s26.v,s27.v]) 2 0 Try.underlying50 rfl sz50 rfl rfl rfl rfl) rfl rfl fun a hF=>q_store (vs:=[s1.v,s2.v,s26.v,s27.v]) (cs':=[s1.v,s2.v,s26.v,s27.v]) 3 0 hF hS sz50 rfl rfl rfl rfl rfl rfl rfl rfl fun a w hF hS=>q_end (n_sq (q_ret ?_)))))))
  obtain rfl:=someI hr
  exact ret_of hF hS rfl (.cellA (us:=[s1.v,s2.v,s26.v,s27.v]) 3 0 Try.underlying50 rfl sz50 rfl rfl rfl rfl .nil) ⟨m,q32,q37,s1,s2,s26,s27,rfl,(MLe.refl _ _),hS.sel [1,0] (by decide),h24,h25,h32.own,h37.own⟩

theorem c_spec_tLow (p_t : impl_Transport) (p_i : Int) (p_j : Int) (r : Int) (hr : spec_tLow p_t p_i p_j = some r) (w0 : World) (m : Mem) (hv : Vis m w0) (s1 : Sl) (h1 : Rd m s1 p_t.Rows) (s2 : Sl) (h2 : Rd m s2 p_t.Cols) (s3 : Sl) (h3 : Rd m s3 p_t.Lo) (s4 : Sl) (h4 : Rd m s4 p_t.Hi) :
  Ret Try.prog 164 [(.agg #[s1.v,s2.v,s3.v,s4.v]),(iV p_i),(iV p_j)] w0 (fun v _=>v = (iV r)):=by
 unfold spec_tLow at hr
 refine ret_start Try.func164 rfl 57 rfl rfl m hv fun a hF hS=>q_seq (q_region (q_box (cs:=[s1.v,s2.v,s3.v,s4.v]) hF hS rfl rfl rfl fun a w b5 hF hS=>q_x (v:=(iV 0)) hF hS (ex_assign rfl) rfl rfl fun a hF=>q_end (n_sq (q_seq (e_region ⟨[],[],m⟩ mixed fun w' hw'=>?_)))))
 have hS:=hS.below hw'
 refine e_p (v:=(.pointer (some ⟨b5,2,none⟩))) 0 hF rfl (ex_fieldAddr Try.underlying50 rfl sz23 rfl rfl) rfl rfl (by kernel_rfl) (by kernel_rfl) (by kernel_rfl) fun a hF=>e_x (v:=s3.v) 1 hF hS rfl (ex_load1 0 0 Try.underlying23 rfl rfl rfl rfl) rfl rfl (by kernel_rfl) (by kernel_rfl) (by kernel_rfl) (by kernel_rfl) fun a hF=>e_p (v:=(iV p_i)) 2 hF rfl (ex_move rfl) rfl rfl (by kernel_rfl) (by kernel_rfl) (by kernel_rfl) fun a hF=>?_
 obtain ⟨e_6,he_6,hr⟩:=bindS hr
 obtain ⟨vs7,at7,d7⟩:=h3.at he_6 1 rfl
 obtain ⟨s8,rfl,h8⟩ : ∃ s8 : Sl,vs7 = [s8.v]∧Rd m s8 e_6:=d7
 refine e_p (v:=(elP s3 (p_i.toNat * 1))) 3 hF rfl (ex_indexAddr Try.underlying23 sz28 rfl rfl (h3.idx he_6)) rfl rfl (by kernel_rfl) (by kernel_rfl) (by kernel_rfl) fun a hF=>e_xm (v:=s8.v) 4 hF hS (Mem.le.refl _) rfl (ex_loadE1 0 Try.underlying28 rfl rfl ((at7).at) rfl rfl) rfl rfl (by kernel_rfl) (by kernel_rfl) (by kernel_rfl) fun a hF=>e_p (v:=(iV p_j)) 5 hF rfl (ex_move rfl) rfl rfl (by kernel_rfl) (by kernel_rfl) (by kernel_rfl) fun a hF=>?_
 obtain ⟨e_9,he_9,hr⟩:=bindS hr
 obtain ⟨vs10,at10,d10⟩:=h8.at he_9 1 rfl
 obtain rfl : vs10 = [(iV e_9)]:=d10
 refine e_p (v:=(elP s8 (p_j.toNat * 1))) 6 hF rfl (ex_indexAddr Try.underlying28 sz3 rfl rfl (h8.idx he_9)) rfl rfl (by kernel_rfl) (by kernel_rfl) (by kernel_rfl) fun a hF=>e_xm (v:=(iV e_9)) 7 hF hS (Mem.le.refl _) rfl (ex_loadE1 0 Try.underlying3 rfl rfl ((at10).at) rfl rfl) rfl rfl (by kernel_rfl) (by kernel_rfl) (by kernel_rfl) fun a hF=>e_p (v:=(.pointer (some ⟨b5,3,none⟩))) 8 hF rfl (ex_fieldAddr Try.underlying50 rfl sz23 rfl rfl) rfl rfl (by kernel_rfl) (by kernel_rfl) (by kernel_rfl) fun a hF=>e_x (v:=s4.v) 9 hF hS rfl (ex_load1 0 0 Try.underlying23 rfl rfl rfl rfl) rfl rfl (by kernel_rfl) (by kernel_rfl) (by kernel_rfl) (by kernel_rfl) fun a hF=>e_p (v:=(iV p_i)) 10 hF rfl (ex_move rfl) rfl rfl (by kernel_rfl) (by kernel_rfl) (by kernel_rfl) fun a hF=>?_
 obtain ⟨e_11,he_11,hr⟩:=bindS hr
 obtain ⟨vs12,at12,d12⟩:=h4.at he_11 1 rfl
 obtain ⟨s13,rfl,h13⟩ : ∃ s13 : Sl,vs12 = [s13.v]∧Rd m s13 e_11:=d12
 refine e_p (v:=(elP s4 (p_i.toNat * 1))) 11 hF rfl (ex_indexAddr Try.underlying23 sz28 rfl rfl (h4.idx he_11)) rfl rfl (by kernel_rfl) (by kernel_rfl) (by kernel_rfl) fun a hF=>e_xm (v:=s13.v) 12 hF hS (Mem.le.refl _) rfl (ex_loadE1 0 Try.underlying28 rfl rfl ((at12).at) rfl rfl) rfl rfl (by kernel_rfl) (by kernel_rfl) (by kernel_rfl) fun a hF=>e_p (v:=(iV p_j)) 13 hF rfl (ex_move rfl) rfl rfl (by kernel_rfl) (by kernel_rfl) (by kernel_rfl) fun a hF=>?_
 obtain ⟨e_14,he_14,hr⟩:=bindS hr
 obtain ⟨vs15,at15,d15⟩:=h13.at he_14 1 rfl
 obtain rfl : vs15 = [(iV e_14)]:=d15
 refine e_p (v:=(elP s13 (p_j.toNat * 1))) 14 hF rfl (ex_indexAddr Try.underlying28 sz3 rfl rfl (h13.idx he_14)) rfl rfl (by kernel_rfl) (by kernel_rfl) (by kernel_rfl) fun a hF=>e_xm (v:=(iV e_14)) 15 hF hS (Mem.le.refl _) rfl (ex_loadE1 0 Try.underlying3 rfl rfl ((at15).at) rfl rfl) rfl rfl (by kernel_rfl) (by kernel_rfl) (by kernel_rfl) fun a hF=>e_p (v:=(iV e_9)) 16 hF rfl (ex_assign rfl) rfl rfl (by kernel_rfl) (by kernel_rfl) (by kernel_rfl) fun a hF=>e_p (v:=(iV e_14)) 17 hF rfl (ex_assign rfl) rfl rfl (by kernel_rfl) (by kernel_rfl) (by kernel_rfl) fun a hF=>e_end (by kernel_rfl) (n_sq ?_) _
 refine q_seq (q_block ?_)
 obtain ⟨lo_38,hl1,hr⟩:=bindS hr
 refine q_loop (fun (s : Int × Int) a w=>∃ (m18 : Mem),∃ lo_16,∃ hi_17,s = (lo_16,hi_17)∧Fr a 57 [(1,(iV p_i)),(2,(iV p_j)),(3,(.pointer (some ⟨b5,0,none⟩))),(7,(iV lo_16)),(8,(iV hi_17))]∧St [] w0 w m18 [[⟨b5,[s1.v,s2.v,s3.v,s4.v],50⟩]]∧MLe [] w0.heap.size m m18) (fun (lo_38 : Int) e a w=>∃ (m39 : Mem),e = .exit 0∧Fr a 57 [(7,(iV lo_38))]∧St [] w0 w m39 []∧MLe [] w0.heap.size m m39) hl1 ⟨m,_,_,rfl,hF.sub ⟨rfl,rfl,rfl,rfl,rfl,trivial⟩,hS,(MLe.refl _ _)⟩ ?_ ?_
 ·clear hF hS
  rintro s a w st ⟨m18,lo_16,hi_17,rfl,hF,hS,hm18⟩ hb1
  unfold spec_tLow_l1 at hb1
  refine q_seq (q_seq (q_region (q_x (v:=(iV lo_16)) hF hS (ex_move rfl) rfl rfl fun a hF=>q_x (v:=(iV hi_17)) hF hS (ex_move rfl) rfl rfl fun a hF=>q_x (v:=(.bool (decide (lo_16 < hi_17)))) hF hS (ex_ibin rfl rfl rfl) rfl rfl fun a hF=>q_end (n_sq ?_))))
  rcases bcase (decide (lo_16 < hi_17)) with hc2 | hc2
  ·have hb1:=cond_f hc2 hb1
   refine q_cond_f hF rfl hc2 (q_exit (x_sq ?_))
   obtain rfl:=someI hb1
   exact ⟨nofun,.inl ⟨m18,rfl,hF.sub ⟨rfl,trivial⟩,hS.mask [false],hm18⟩⟩
  ·have hb1:=cond_t hc2 hb1
   refine q_cond_t hF rfl hc2 (q_skipc (n_sq (q_block (q_seq (q_region (q_x (v:=(iV lo_16)) hF hS (ex_move rfl) rfl rfl fun a hF=>q_x (v:=(iV hi_17)) hF hS (ex_move rfl) rfl rfl fun a hF=>q_x (v:=(iV (w64 (lo_16 + hi_17)))) hF hS (ex_ibin rfl rfl rfl) rfl rfl fun a hF=>?_))))))
   obtain ⟨t_19,ht_19,hb1⟩:=bindS hb1
   refine q_x (v:=(iV t_19)) hF hS (ex_quo rfl rfl ht_19) rfl rfl fun a hF=>q_x (v:=(iV t_19)) hF hS (ex_assign rfl) rfl rfl fun a hF=>q_end (n_sq (q_seq (e_region ⟨[],[],m18⟩ mixed fun w' hw'=>?_)))
   have hS:=hS.below hw'
   refine e_x (v:=(.agg #[s1.v,s2.v,s3.v,s4.v])) 0 hF hS rfl (ex_loadA (vs:=[s1.v,s2.v,s3.v,s4.v]) 0 0 Try.underlying50 rfl sz50 rfl rfl rfl rfl) rfl rfl (by kernel_rfl) (by kernel_rfl) (by kernel_rfl) (by kernel_rfl) fun a hF=>e_p (v:=(iV p_i)) 1 hF rfl (ex_move rfl) rfl rfl (by kernel_rfl) (by kernel_rfl) (by kernel_rfl) fun a hF=>e_p (v:=(iV p_j)) 2 hF rfl (ex_move rfl) rfl rfl (by kernel_rfl) (by kernel_rfl) (by kernel_rfl) fun a hF=>e_p (v:=(.pointer (some ⟨b5,2,none⟩))) 3 hF rfl (ex_fieldAddr Try.underlying50 rfl sz23 rfl rfl) rfl rfl (by kernel_rfl) (by kernel_rfl) (by kernel_rfl) fun a hF=>e_x (v:=s3.v) 4 hF hS rfl (ex_load1 0 0 Try.underlying23 rfl rfl rfl rfl) rfl rfl (by kernel_rfl) (by kernel_rfl) (by kernel_rfl) (by kernel_rfl) fun a hF=>e_p (v:=(iV p_i)) 5 hF rfl (ex_move rfl) rfl rfl (by kernel_rfl) (by kernel_rfl) (by kernel_rfl) fun a hF=>?_
   obtain ⟨e_20,he_20,hb1⟩:=bindS hb1
   obtain ⟨vs21,at21,d21⟩:=h3.at he_20 1 rfl
   obtain ⟨s22,rfl,h22⟩ : ∃ s22 : Sl,vs21 = [s22.v]∧Rd m s22 e_20:=d21
   refine e_p (v:=(elP s3 (p_i.toNat * 1))) 6 hF rfl (ex_indexAddr Try.underlying23 sz28 rfl rfl ((h3.mono hm18.le).idx he_20)) rfl rfl (by kernel_rfl) (by kernel_rfl) (by kernel_rfl) fun a hF=>e_xm (v:=s22.v) 7 hF hS (Mem.le.refl _) rfl (ex_loadE1 0 Try.underlying28 rfl rfl (((at21.mono hm18.le)).at) rfl rfl) rfl rfl (by kernel_rfl) (by kernel_rfl) (by kernel_rfl) fun a hF=>e_p (v:=(iV p_j)) 8 hF rfl (ex_move rfl) rfl rfl (by kernel_rfl) (by kernel_rfl) (by kernel_rfl) fun a hF=>?_
   obtain ⟨e_23,he_23,hb1⟩:=bindS hb1
   obtain ⟨vs24,at24,d24⟩:=h22.at he_23 1 rfl
   obtain rfl : vs24 = [(iV e_23)]:=d24
   refine e_p (v:=(elP s22 (p_j.toNat * 1))) 9 hF rfl (ex_indexAddr Try.underlying28 sz3 rfl rfl ((h22.mono hm18.le).idx he_23)) rfl rfl (by kernel_rfl) (by kernel_rfl) (by kernel_rfl) fun a hF=>e_xm (v:=(iV e_23)) 10 hF hS (Mem.le.refl _) rfl (ex_loadE1 0 Try.underlying3 rfl rfl (((at24.mono hm18.le)).at) rfl rfl) rfl rfl (by kernel_rfl) (by kernel_rfl) (by kernel_rfl) fun a hF=>e_p (v:=(iV t_19)) 11 hF rfl (ex_move rfl) rfl rfl (by kernel_rfl) (by kernel_rfl) (by kernel_rfl) fun a hF=>e_one 12 (by kernel_rfl) ?_
   obtain ⟨t_25,ht_25,hb1⟩:=bindS hb1
   refine e_call (vs:=[(.agg #[s1.v,s2.v,s3.v,s4.v]),(iV p_i),(iV p_j),(iV e_23),(iV t_19)]) hF hS rfl Try.func121 (by kernel_rfl) rfl rfl rfl (c_spec_tWith p_t p_i p_j e_23 t_19 t_25 ht_25 _ m18 hS.vis s1 (h1.mono hm18.le) s2 (h2.mono hm18.le) s3 (h3.mono hm18.le) s4 (h4.mono hm18.le)) ?_
   have hT:=hS
   rintro a w _ ⟨m26,q29,q30,s27,s28,s29,s30,rfl,hm26,hR26,h27,h28,h29,h30⟩ hF hS2
   have hS : St _ _ _ _ [q29,q30,[⟨b5,[s1.v,s2.v,s3.v,s4.v],50⟩]]:=hS.join hR26 hm26
   have hm26:=MLe.weakX (O0:=[]) hT hm26
   refine e_one 13 (by kernel_rfl) ?_
   obtain ⟨m31,hm31,hS,hz31⟩:=hS.freeze
   have h31:=h29.froz hm31.le hz31
   obtain ⟨m32,hm32,hS,hz32⟩:=hS.freeze
   have h32:=(h30.mono hm31.le).froz hm32.le hz32
   obtain ⟨t_33,ht_33,hb1⟩:=bindS hb1
   refine e_call (vs:=[(.agg #[s27.v,s28.v,s29.v,s30.v])]) hF hS rfl Try.func158 (by kernel_rfl) rfl rfl rfl (c_spec_tFeasible t_25 t_33 ht_33 _ m32 hS.vis s27 ((h27.mono hm31.le).mono hm32.le) s28 ((h28.mono hm31.le).mono hm32.le) s29 (h31.mono hm32.le) s30 h32) ?_
   have hT:=hS
   rintro a w _ ⟨m34,q35,s35,rfl,hm34,hR34,h35⟩ hF hS2
   have hS : St _ _ _ _ [q35,[⟨b5,[s1.v,s2.v,s3.v,s4.v],50⟩]]:=hS.join hR34 hm34
   have hm34:=MLe.weakX (O0:=[]) hT hm34
   refine e_p (v:=(.tuple #[s35.v,(.bool t_33.2)])) 14 hF rfl (ex_move rfl) rfl rfl (by kernel_rfl) (by kernel_rfl) (by kernel_rfl) fun a hF=>e_p (v:=s35.v) 15 hF rfl (ex_extract rfl rfl) rfl rfl (by kernel_rfl) (by kernel_rfl) (by kernel_rfl) fun a hF=>e_p (v:=(.bool t_33.2)) 16 hF rfl (ex_extract rfl rfl) rfl rfl (by kernel_rfl) (by kernel_rfl) (by kernel_rfl) fun a hF=>e_p (v:=s35.v) 17 hF rfl (ex_assign rfl) rfl rfl (by kernel_rfl) (by kernel_rfl) (by kernel_rfl) fun a hF=>e_p (v:=(.bool t_33.2)) 18 hF rfl (ex_assign rfl) rfl rfl (by kernel_rfl) (by kernel_rfl) (by kernel_rfl) fun a hF=>e_end (by kernel_rfl) (n_sq ?_) _
   refine q_seq (q_region (q_x (v:=(.bool t_33.2)) hF hS (ex_move rfl) rfl rfl fun a hF=>q_end (n_sq ?_)))
   obtain ⟨j3,hj3,hb1⟩:=bindS hb1
   refine q_join (fun a w=>∃ lo_36,∃ hi_37,j3 = (lo_36,hi_37)∧Fr a 57 [(1,(iV p_i)),(2,(iV p_j)),(3,(.pointer (some ⟨b5,0,none⟩))),(7,(iV lo_36)),(8,(iV hi_37))]∧St [] w0 w m34 [[⟨b5,[s1.v,s2.v,s3.v,s4.v],50⟩]]) ?_ ?_
   ·rcases bcase (t_33.2) with hc4 | hc4
    ·have hj3:=cond_f hc4 hj3
     refine q_cond_f hF rfl hc4 (q_region (q_x (v:=(iV t_19)) hF hS (ex_move rfl) rfl rfl fun a hF=>q_x (v:=(iV (w64 (t_19 + 1)))) hF hS (ex_ibin rfl rfl rfl) rfl rfl fun a hF=>q_x (v:=(iV (w64 (t_19 + 1)))) hF hS (ex_assign rfl) rfl rfl fun a hF=>q_end (n_jn ?_)))
     obtain rfl:=someI hj3
     exact ⟨_,_,rfl,hF.sub ⟨rfl,rfl,rfl,rfl,rfl,trivial⟩,hS.mask [false,true]⟩
    ·have hj3:=cond_t hc4 hj3
     refine q_cond_t hF rfl hc4 (q_region (q_x (v:=(iV t_19)) hF hS (ex_move rfl) rfl rfl fun a hF=>q_x (v:=(iV t_19)) hF hS (ex_assign rfl) rfl rfl fun a hF=>q_end (n_jn ?_)))
     obtain rfl:=someI hj3
     exact ⟨_,_,rfl,hF.sub ⟨rfl,rfl,rfl,rfl,rfl,trivial⟩,hS.mask [false,true]⟩
   ·rintro a w ⟨lo_36,hi_37,rfl,hF,hS⟩
    refine n_ib ?_
    obtain rfl:=someI hb1
    exact ⟨rfl,m34,_,_,rfl,hF.sub ⟨rfl,rfl,rfl,rfl,rfl,trivial⟩,hS,((((hm18.trans hm26).trans hm31).trans hm32).trans hm34)⟩
 ·rintro e a w ⟨m39,rfl,hF,hS,hm39⟩
  refine x_ib (n_sq ?_)
  refine q_seq (q_region (q_x (v:=(iV lo_38)) hF hS (ex_move rfl) rfl rfl fun a hF=>q_x (v:=(iV lo_38)) hF hS (ex_assign rfl) rfl rfl fun a hF=>q_end (n_sq (q_ret ?_))))
  obtain rfl:=someI hr
  exact ret_of hF hS rfl (.tmp rfl .nil) rfl

theorem c_spec_tFirst (p_t : impl_Transport) (r : (List (List Int)) × Bool) (hr : spec_tFirst p_t = some r) (w0 : World) (m : Mem) (hv : Vis m w0) (s1 : Sl) (h1 : Rd m s1 p_t.Rows) (s2 : Sl) (h2 : Rd m s2 p_t.Cols) (s3 : Sl) (h3 : Rd m s3 p_t.Lo) (s4 : Sl) (h4 : Rd m s4 p_t.Hi) :
  Ret Try.prog 120 [(.agg #[s1.v,s2.v,s3.v,s4.v])] w0 (fun v w=>∃ (m' : Mem) (q0' : Piece) (s0' : Sl),v = (.tuple #[s0'.v,(.bool r.2)])∧MLe [] w0.heap.size m m'∧St [] w0 w m' [q0']∧OwnD m' 28 3 q0' s0' r.1):=by
 unfold spec_tFirst at hr
 refine ret_start Try.func120 rfl 43 rfl rfl m hv fun a hF hS=>q_seq (q_region (q_box (cs:=[s1.v,s2.v,s3.v,s4.v]) hF hS rfl rfl rfl fun a w b5 hF hS=>q_x (v:=nilS.v) hF hS (ex_assign rfl) rfl rfl fun a hF=>q_x (v:=(.bool false)) hF hS (ex_assign rfl) rfl rfl fun a hF=>q_end (n_sq (q_seq (q_seq (q_region (q_x (v:=(.agg #[s1.v,s2.v,s3.v,s4.v])) hF hS (ex_loadA (vs:=[s1.v,s2.v,s3.v,s4.v]) 0 0 Try.underlying50 rfl sz50 rfl rfl rfl rfl) rfl rfl fun a hF=>?_)))))))
 obtain ⟨t_6,ht_6,hr⟩:=bindS hr
 refine q_call (vs:=[(.agg #[s1.v,s2.v,s3.v,s4.v])]) hF hS Try.func158 (by kernel_rfl) rfl rfl rfl (c_spec_tFeasible p_t t_6 ht_6 _ m hS.vis s1 h1 s2 h2 s3 h3 s4 h4) ?_
 have hT:=hS
 rintro a w _ ⟨m7,q8,s8,rfl,hm7,hR7,h8⟩ hF hS2
 have hS : St _ _ _ _ [q8,[⟨b5,[s1.v,s2.v,s3.v,s4.v],50⟩]]:=hS.join hR7 hm7
 have hm7:=MLe.weakX (O0:=[]) hT hm7
 refine q_x (v:=(.tuple #[s8.v,(.bool t_6.2)])) hF hS (ex_move rfl) rfl rfl fun a hF=>q_x (v:=s8.v) hF hS (ex_extract rfl rfl) rfl rfl fun a hF=>q_x (v:=(.bool t_6.2)) hF hS (ex_extract rfl rfl) rfl rfl fun a hF=>q_x (v:=s8.v) hF hS (ex_assign rfl) rfl rfl fun a hF=>q_x (v:=(.bool t_6.2)) hF hS (ex_assign rfl) rfl rfl fun a hF=>q_end (n_sq (q_seq (q_region (q_x (v:=(.bool t_6.2)) hF hS (ex_move rfl) rfl rfl fun a hF=>q_x (v:=(.bool (!t_6.2))) hF hS (ex_not rfl) rfl rfl fun a hF=>q_end (n_sq ?_)))))
 rcases bcase (!t_6.2) with hc1 | hc1
 ·have hr:=cond_f hc1 hr
  refine q_cond_f hF rfl hc1 (q_skipc (n_sq (q_seq (q_seq (q_region (q_x (v:=(.pointer (some ⟨b5,0,none⟩))) hF hS (ex_fieldAddr Try.underlying50 rfl sz28 rfl rfl) rfl rfl fun a hF=>q_x (v:=s1.v) hF hS (ex_load1 1 0 Try.underlying28 rfl rfl rfl rfl) rfl rfl fun a hF=>q_x (v:=(iV (goLen p_t.Rows))) hF hS (ex_len Try.underlying28 rfl (h1.mono hm7.le).len) rfl rfl fun a hF=>q_x (v:=(iV 0)) hF hS (ex_move rfl) rfl rfl fun a hF=>q_end (n_sq (q_block ?_))))))))
  obtain ⟨t_36,hl2,hr⟩:=bindS hr
  refine q_loop (fun (s : Int × impl_Transport) a w=>∃ (m15 : Mem),∃ (s11 : Sl),∃ (s12 : Sl),∃ (s13 : Sl),∃ (s14 : Sl),∃ t_9,∃ t_10,s = (t_9,t_10)∧Fr a 43 [(1,(.pointer (some ⟨b5,0,none⟩))),(18,(iV (goLen p_t.Rows))),(19,(iV t_9))]∧St [] w0 w m15 [[⟨b5,[s11.v,s12.v,s13.v,s14.v],50⟩]]∧MLe [] w0.heap.size m7 m15∧Rd m15 s11 t_10.Rows∧Rd m15 s12 t_10.Cols∧Rd m15 s13 t_10.Lo∧Rd m15 s14 t_10.Hi) (fun (t_36 : impl_Transport) e a w=>∃ (m41 : Mem),∃ (s37 : Sl),∃ (s38 : Sl),∃ (s39 : Sl),∃ (s40 : Sl),e = .exit 0∧Fr a 43 [(1,(.pointer (some ⟨b5,0,none⟩)))]∧St [] w0 w m41 [[⟨b5,[s37.v,s38.v,s39.v,s40.v],50⟩]]∧MLe [] w0.heap.size m7 m41∧Rd m41 s37 t_36.Rows∧Rd m41 s38 t_36.Cols∧Rd m41 s39 t_36.Lo∧Rd m41 s40 t_36.Hi) hl2 ⟨m7,s1,s2,s3,s4,_,_,rfl,hF.sub ⟨rfl,rfl,rfl,trivial⟩,hS.mask [false,true],(MLe.refl _ _),(h1.mono hm7.le),(h2.mono hm7.le),(h3.mono hm7.le),(h4.mono hm7.le)⟩ ?_ ?_
  ·clear hF hS
   rintro s a w st ⟨m15,s11,s12,s13,s14,t_9,t_10,rfl,hF,hS,hm15,h11,h12,h13,h14⟩ hb2
   unfold spec_tFirst_l1 at hb2
   refine q_seq (q_region (q_x (v:=(.bool (decide (t_9 < (goLen p_t.Rows))))) hF hS (ex_ibin rfl rfl rfl) rfl rfl fun a hF=>q_end (n_sq (q_seq ?_))))
   rcases bcase (decide (t_9 < (goLen p_t.Rows))) with hc3 | hc3
   ·have hb2:=cond_f hc3 hb2
    refine q_cond_f hF rfl hc3 (q_exit (x_sq ?_))
    obtain rfl:=someI hb2
    exact ⟨nofun,.inl ⟨m15,s11,s12,s13,s14,rfl,hF.sub ⟨rfl,trivial⟩,hS,hm15,h11,h12,h13,h14⟩⟩
   ·have hb2:=cond_t hc3 hb2
    refine q_cond_t hF rfl hc3 (q_skipc (n_sq (q_seq (q_block (q_seq (q_region (q_x (v:=(iV t_9)) hF hS (ex_move rfl) rfl rfl fun a hF=>q_x (v:=(iV t_9)) hF hS (ex_assign rfl) rfl rfl fun a hF=>q_end (n_sq (q_seq (q_region (q_x (v:=(.pointer (some ⟨b5,1,none⟩))) hF hS (ex_fieldAddr Try.underlying50 rfl sz28 rfl rfl) rfl rfl fun a hF=>q_x (v:=s12.v) hF hS (ex_load1 0 0 Try.underlying28 rfl rfl rfl rfl) rfl rfl fun a hF=>q_x (v:=(iV (goLen t_10.Cols))) hF hS (ex_len Try.underlying28 rfl h12.len) rfl rfl fun a hF=>q_x (v:=(iV 0)) hF hS (ex_move rfl) rfl rfl fun a hF=>q_end (n_sq (q_block ?_)))))))))))))
    obtain ⟨t_30,hl4,hb2⟩:=bindS hb2
    refine q_loop (fun (s : Int × impl_Transport) a w=>∃ (m22 : Mem),∃ (s18 : Sl),∃ (s19 : Sl),∃ (s20 : Sl),∃ (s21 : Sl),∃ t_16,∃ t_17,s = (t_16,t_17)∧Fr a 43 [(1,(.pointer (some ⟨b5,0,none⟩))),(6,(iV t_9)),(18,(iV (goLen p_t.Rows))),(19,(iV t_9)),(24,(iV (goLen t_10.Cols))),(25,(iV t_16))]∧St [] w0 w m22 [[⟨b5,[s18.v,s19.v,s20.v,s21.v],50⟩]]∧MLe [] w0.heap.size m15 m22∧Rd m22 s18 t_17.Rows∧Rd m22 s19 t_17.Cols∧Rd m22 s20 t_17.Lo∧Rd m22 s21 t_17.Hi) (fun (t_30 : impl_Transport) e a w=>∃ (m35 : Mem),∃ (s31 : Sl),∃ (s32 : Sl),∃ (s33 : Sl),∃ (s34 : Sl),e = .exit 2∧Fr a 43 [(1,(.pointer (some ⟨b5,0,none⟩))),(18,(iV (goLen p_t.Rows))),(19,(iV t_9))]∧St [] w0 w m35 [[⟨b5,[s31.v,s32.v,s33.v,s34.v],50⟩]]∧MLe [] w0.heap.size m15 m35∧Rd m35 s31 t_30.Rows∧Rd m35 s32 t_30.Cols∧Rd m35 s33 t_30.Lo∧Rd m35 s34 t_30.Hi) hl4 ⟨m15,s11,s12,s13,s14,_,_,rfl,hF.sub ⟨rfl,rfl,rfl,rfl,rfl,rfl,trivial⟩,hS,(MLe.refl _ _),h11,h12,h13,h14⟩ ?_ ?_
    ·clear hF hS
     rintro s a w st ⟨m22,s18,s19,s20,s21,t_16,t_17,rfl,hF,hS,hm22,h18,h19,h20,h21⟩ hb4
     unfold spec_tFirst_l2 at hb4
     refine q_seq (q_region (q_x (v:=(.bool (decide (t_16 < (goLen t_10.Cols))))) hF hS (ex_ibin rfl rfl rfl) rfl rfl fun a hF=>q_end (n_sq (q_seq ?_))))
     rcases bcase (decide (t_16 < (goLen t_10.Cols))) with hc5 | hc5
     ·have hb4:=cond_f hc5 hb4
      refine q_cond_f hF rfl hc5 (q_exit (x_sq ?_))
      obtain rfl:=someI hb4
      exact ⟨nofun,.inl ⟨m22,s18,s19,s20,s21,rfl,hF.sub ⟨rfl,rfl,rfl,trivial⟩,hS,hm22,h18,h19,h20,h21⟩⟩
     ·have hb4:=cond_t hc5 hb4
      refine q_cond_t hF rfl hc5 (q_skipc (n_sq (q_seq (q_block (q_seq (q_region (q_x (v:=(iV t_16)) hF hS (ex_move rfl) rfl rfl fun a hF=>q_x (v:=(iV t_16)) hF hS (ex_assign rfl) rfl rfl fun a hF=>q_end (n_sq (q_seq (q_region (q_x (v:=(.agg #[s18.v,s19.v,s20.v,s21.v])) hF hS (ex_loadA (vs:=[s18.v,s19.v,s20.v,s21.v]) 0 0 Try.underlying50 rfl sz50 rfl rfl rfl rfl) rfl rfl fun a hF=>q_x (v:=(iV t_9)) hF hS (ex_move rfl) rfl rfl fun a hF=>q_x (v:=(iV t_16)) hF hS (ex_move rfl) rfl rfl fun a hF=>?_)))))))))))
      obtain ⟨t_23,ht_23,hb4⟩:=bindS hb4
      refine q_call (vs:=[(.agg #[s18.v,s19.v,s20.v,s21.v]),(iV t_9),(iV t_16)]) hF hS Try.func164 (by kernel_rfl) rfl rfl rfl (c_spec_tLow t_17 t_9 t_16 t_23 ht_23 _ m22 hS.vis s18 h18 s19 h19 s20 h20 s21 h21) ?_
      rintro a w _ rfl hF hS
      refine q_x (v:=(iV t_23)) hF hS (ex_assign rfl) rfl rfl fun a hF=>q_end (n_sq (q_region (q_x (v:=(.agg #[s18.v,s19.v,s20.v,s21.v])) hF hS (ex_loadA (vs:=[s18.v,s19.v,s20.v,s21.v]) 0 0 Try.underlying50 rfl sz50 rfl rfl rfl rfl) rfl rfl fun a hF=>q_x (v:=(iV t_9)) hF hS (ex_move rfl) rfl rfl fun a hF=>q_x (v:=(iV t_16)) hF hS (ex_move rfl) rfl rfl fun a hF=>q_x (v:=(iV t_23)) hF hS (ex_move rfl) rfl rfl fun a hF=>q_x (v:=(iV t_23)) hF hS (ex_move rfl) rfl rfl fun a hF=>?_)))
      obtain ⟨t_24,ht_24,hb4⟩:=bindS hb4
      refine q_call (vs:=[(.agg #[s18.v,s19.v,s20.v,s21.v]),(iV t_9),(iV t_16),(iV t_23),(iV t_23)]) hF hS Try.func121 (by kernel_rfl) rfl rfl rfl (c_spec_tWith t_17 t_9 t_16 t_23 t_23 t_24 ht_24 _ m22 hS.vis s18 h18 s19 h19 s20 h20 s21 h21) ?_
      have hT:=hS
      rintro a w _ ⟨m25,q28,q29,s26,s27,s28,s29,rfl,hm25,hR25,h26,h27,h28,h29⟩ hF hS2
      have hS : St _ _ _ _ [q28,q29,[⟨b5,[s18.v,s19.v,s20.v,s21.v],50⟩]]:=hS.join hR25 hm25
      have hm25:=MLe.weakX (O0:=[]) hT hm25
      refine q_store (vs:=[s26.v,s27.v,s28.v,s29.v]) (cs':=[s26.v,s27.v,s28.v,s29.v]) 2 0 hF hS sz50 rfl rfl rfl rfl rfl rfl rfl rfl fun a w hF hS=>q_end (n_ib (n_sq (q_region (q_x (v:=(iV (w64 (t_16 + 1)))) hF hS (ex_ibin rfl rfl rfl) rfl rfl fun a hF=>q_x (v:=(iV (w64 (t_16 + 1)))) hF hS (ex_move rfl) rfl rfl fun a hF=>q_end ?_))))
      obtain rfl:=someI hb4
      obtain ⟨mf63,hmf63,hS,hzf63⟩:=hS.freeze
      have hf63:=h28.froz hmf63.le hzf63
      obtain ⟨mf64,hmf64,hS,hzf64⟩:=hS.freeze
      have hf64:=(h29.mono hmf63.le).froz hmf64.le hzf64
      exact ⟨rfl,mf64,s26,s27,s28,s29,_,_,rfl,hF.sub ⟨rfl,rfl,rfl,rfl,rfl,rfl,trivial⟩,hS,(((hm22.trans hm25).trans hmf63).trans hmf64),((h26.mono hmf63.le).mono hmf64.le),((h27.mono hmf63.le).mono hmf64.le),(hf63.mono hmf64.le),hf64⟩
    ·rintro e a w ⟨m35,s31,s32,s33,s34,rfl,hF,hS,hm35,h31,h32,h33,h34⟩
     refine x_ib (n_ib (n_sq ?_))
     refine q_region (q_x (v:=(iV (w64 (t_9 + 1)))) hF hS (ex_ibin rfl rfl rfl) rfl rfl fun a hF=>q_x (v:=(iV (w64 (t_9 + 1)))) hF hS (ex_move rfl) rfl rfl fun a hF=>q_end ?_)
     obtain rfl:=someI hb2
     exact ⟨rfl,m35,s31,s32,s33,s34,_,_,rfl,hF.sub ⟨rfl,rfl,rfl,trivial⟩,hS,(hm15.trans hm35),h31,h32,h33,h34⟩
  ·rintro e a w ⟨m41,s37,s38,s39,s40,rfl,hF,hS,hm41,h37,h38,h39,h40⟩
   refine x_ib (n_sq ?_)
   refine q_seq (q_region (q_x (v:=(.pointer (some ⟨b5,2,none⟩))) hF hS (ex_fieldAddr Try.underlying50 rfl sz23 rfl rfl) rfl rfl fun a hF=>q_x (v:=s39.v) hF hS (ex_load1 0 0 Try.underlying23 rfl rfl rfl rfl) rfl rfl fun a hF=>?_))
   obtain ⟨t_42,ht_42,hr⟩:=bindS hr
   refine q_call (vs:=[s39.v]) hF hS Try.func145 (by kernel_rfl) rfl rfl rfl (c_spec_tOwn t_36.Lo t_42 ht_42 _ m41 hS.vis s39 h39) ?_
   rintro a w _ ⟨q44,s44,rfl,hR43,h44⟩ hF hS2
   have hS : St _ _ _ _ [q44,[⟨b5,[s37.v,s38.v,s39.v,s40.v],50⟩]]:=hS.joinF hR43
   refine q_x (v:=s44.v) hF hS (ex_assign rfl) rfl rfl fun a hF=>q_x (v:=(.bool true)) hF hS (ex_assign rfl) rfl rfl fun a hF=>q_end (n_sq (q_ret ?_))
   obtain rfl:=someI hr
   exact ret_of hF hS rfl (.tmp rfl (.tmp rfl .nil)) ⟨m41,q44,s44,rfl,(hm7.trans hm41),hS.sel [0] (by decide),h44⟩
 ·have hr:=cond_t hc1 hr
  refine q_cond_t hF rfl hc1 (q_seq (q_region (q_x (v:=nilS.v) hF hS (ex_assign rfl) rfl rfl fun a hF=>q_x (v:=(.bool false)) hF hS (ex_assign rfl) rfl rfl fun a hF=>q_end (n_sq (q_ret (r_sq ?_))))))
  obtain rfl:=someI hr
  exact ret_of hF hS rfl (.tmp rfl (.tmp rfl .nil)) ⟨m7,[],nilS,rfl,hm7,hS.sel [2] (by decide),(OwnD.nil (β:=Int) m7 28 3)⟩

theorem c_spec_FirstFlow (p_t : impl_Transport) (r : (List (List Int)) × Bool) (hr : spec_FirstFlow p_t = some r) (w0 : World) (m : Mem) (hv : Vis m w0) (s1 : Sl) (h1 : Rd m s1 p_t.Rows) (s2 : Sl) (h2 : Rd m s2 p_t.Cols) (s3 : Sl) (h3 : Rd m s3 p_t.Lo) (s4 : Sl) (h4 : Rd m s4 p_t.Hi) :
  Ret Try.prog 46 [(.agg #[s1.v,s2.v,s3.v,s4.v])] w0 (fun v w=>∃ (m' : Mem) (q0' : Piece) (s0' : Sl),v = (.tuple #[s0'.v,(.bool r.2)])∧MLe [] w0.heap.size m m'∧St [] w0 w m' [q0']∧OwnD m' 28 3 q0' s0' r.1):=by
 unfold spec_FirstFlow at hr
 refine ret_start Try.func46 rfl 11 rfl rfl m hv fun a hF hS=>q_seq (q_region (q_box (cs:=[s1.v,s2.v,s3.v,s4.v]) hF hS rfl rfl rfl fun a w b5 hF hS=>q_x (v:=nilS.v) hF hS (ex_assign rfl) rfl rfl fun a hF=>q_x (v:=(.bool false)) hF hS (ex_assign rfl) rfl rfl fun a hF=>q_end (n_sq (q_seq (q_seq (q_region (q_x (v:=(.agg #[s1.v,s2.v,s3.v,s4.v])) hF hS (ex_loadA (vs:=[s1.v,s2.v,s3.v,s4.v]) 0 0 Try.underlying50 rfl sz50 rfl rfl rfl rfl) rfl rfl fun a hF=>?_)))))))
 obtain ⟨t_6,ht_6,hr⟩:=bindS hr
 refine q_call (vs:=[(.agg #[s1.v,s2.v,s3.v,s4.v])]) hF hS Try.func123 (by kernel_rfl) rfl rfl rfl (c_spec_tGood p_t t_6 ht_6 _ m hS.vis s1 h1 s2 h2 s3 h3 s4 h4) ?_
 rintro a w _ rfl hF hS
 refine q_x (v:=(.bool (!t_6))) hF hS (ex_not rfl) rfl rfl fun a hF=>q_end (n_sq ?_)
 rcases bcase (!t_6) with hc1 | hc1
 ·have hr:=cond_f hc1 hr
  refine q_cond_f hF rfl hc1 (q_skipc (n_sq (q_seq (q_region (q_x (v:=(.agg #[s1.v,s2.v,s3.v,s4.v])) hF hS (ex_loadA (vs:=[s1.v,s2.v,s3.v,s4.v]) 0 0 Try.underlying50 rfl sz50 rfl rfl rfl rfl) rfl rfl fun a hF=>?_)))))
  obtain ⟨t_7,ht_7,hr⟩:=bindS hr
  refine q_call (vs:=[(.agg #[s1.v,s2.v,s3.v,s4.v])]) hF hS Try.func120 (by kernel_rfl) rfl rfl rfl (c_spec_tFirst p_t t_7 ht_7 _ m hS.vis s1 h1 s2 h2 s3 h3 s4 h4) ?_
  have hT:=hS
  rintro a w _ ⟨m8,q9,s9,rfl,hm8,hR8,h9⟩ hF hS2
  have hS : St _ _ _ _ [q9,[⟨b5,[s1.v,s2.v,s3.v,s4.v],50⟩]]:=hS.join hR8 hm8
  have hm8:=MLe.weakX (O0:=[]) hT hm8
  refine q_x (v:=s9.v) hF hS (ex_extract rfl rfl) rfl rfl fun a hF=>q_x (v:=(.bool t_7.2)) hF hS (ex_extract rfl rfl) rfl rfl fun a hF=>q_x (v:=s9.v) hF hS (ex_assign rfl) rfl rfl fun a hF=>q_x (v:=(.bool t_7.2)) hF hS (ex_assign rfl) rfl rfl fun a hF=>q_end (n_sq (q_ret ?_))
  obtain rfl:=someI hr
  exact ret_of hF hS rfl (.tmp rfl (.tmp rfl .nil)) ⟨m8,q9,s9,rfl,hm8,hS.sel [0] (by decide),h9⟩
 ·have hr:=cond_t hc1 hr
  refine q_cond_t hF rfl hc1 (q_seq (q_region (q_x (v:=nilS.v) hF hS (ex_assign rfl) rfl rfl fun a hF=>q_x (v:=(.bool false)) hF hS (ex_assign rfl) rfl rfl fun a hF=>q_end (n_sq (q_ret (r_sq ?_))))))
  obtain rfl:=someI hr
  exact ret_of hF hS rfl (.tmp rfl (.tmp rfl .nil)) ⟨m,[],nilS,rfl,(MLe.refl _ _),hS.sel [1] (by decide),(OwnD.nil (β:=Int) m 28 3)⟩

theorem c_laws_sameInts (p_a : List Int) (p_b : List Int) (r : Bool) (hr : laws_sameInts p_a p_b = some r) (w0 : World) (m : Mem) (hv : Vis m w0) (s1 : Sl) (h1 : Rd m s1 p_a) (s2 : Sl) (h2 : Rd m s2 p_b) :
  Ret Try.prog 55 [s1.v,s2.v] w0 (fun v _=>v = (.bool r)):=by
 unfold laws_sameInts at hr
 refine ret_start Try.func55 rfl 26 rfl rfl m hv fun a hF hS=>q_seq (q_region (q_x (v:=(.bool false)) hF hS (ex_assign rfl) rfl rfl fun a hF=>q_end (n_sq (q_seq (q_seq (q_region (q_x (v:=s1.v) hF hS (ex_move rfl) rfl rfl fun a hF=>q_x (v:=(iV (goLen p_a))) hF hS (ex_len Try.underlying28 rfl h1.len) rfl rfl fun a hF=>q_x (v:=s2.v) hF hS (ex_move rfl) rfl rfl fun a hF=>q_x (v:=(iV (goLen p_b))) hF hS (ex_len Try.underlying28 rfl h2.len) rfl rfl fun a hF=>q_x (v:=(.bool ((goLen p_a) != (goLen p_b)))) hF hS (ex_ibin rfl rfl rfl) rfl rfl fun a hF=>q_end (n_sq ?_))))))))
 rcases bcase ((goLen p_a) != (goLen p_b)) with hc1 | hc1
 ·have hr:=cond_f hc1 hr
  refine q_cond_f hF rfl hc1 (q_skipc (n_sq (q_seq (q_seq (q_region (q_x (v:=s1.v) hF hS (ex_move rfl) rfl rfl fun a hF=>q_x (v:=(iV (goLen p_a))) hF hS (ex_len Try.underlying28 rfl h1.len) rfl rfl fun a hF=>q_x (v:=(iV 0)) hF hS (ex_move rfl) rfl rfl fun a hF=>q_end (n_sq (q_block ?_))))))))
  obtain ⟨o2,hl2,hr⟩:=bindS hr
  refine q_loop (fun (t_3 : Int) a w=>Fr a 26 [(0,s1.v),(1,s2.v),(12,(iV (goLen p_a))),(13,(iV t_3))]∧St [] w0 w m []) (fun (o : (Unit) ⊕ (Bool)) e a w=>o = .inl ()∧e = .exit 0∧Fr a 26 []∧St [] w0 w m []) hl2 ⟨hF.sub ⟨rfl,rfl,rfl,rfl,trivial⟩,hS⟩ ?_ ?_
  ·clear hF hS
   rintro t_3 a w st ⟨hF,hS⟩ hb2
   unfold laws_sameInts_l1 at hb2
   refine q_seq (q_region (q_x (v:=(.bool (decide (t_3 < (goLen p_a))))) hF hS (ex_ibin rfl rfl rfl) rfl rfl fun a hF=>q_end (n_sq (q_seq ?_))))
   rcases bcase (decide (t_3 < (goLen p_a))) with hc3 | hc3
   ·have hb2:=cond_f hc3 hb2
    refine q_cond_f hF rfl hc3 (q_exit (x_sq ?_))
    obtain rfl:=someI hb2
    exact ⟨nofun,.inl ⟨rfl,rfl,hF.sub trivial,hS⟩⟩
   ·have hb2:=cond_t hc3 hb2
    refine q_cond_t hF rfl hc3 (q_skipc (n_sq (q_seq (q_block (q_seq (q_region (q_x (v:=(iV t_3)) hF hS (ex_move rfl) rfl rfl fun a hF=>q_x (v:=(iV t_3)) hF hS (ex_assign rfl) rfl rfl fun a hF=>q_end (n_sq (q_seq (e_region ⟨[],[],m⟩ mixed fun w' hw'=>?_))))))))))
    have hS:=hS.below hw'
    refine e_p (v:=s1.v) 0 hF rfl (ex_move rfl) rfl rfl (by kernel_rfl) (by kernel_rfl) (by kernel_rfl) fun a hF=>e_p (v:=(iV t_3)) 1 hF rfl (ex_move rfl) rfl rfl (by kernel_rfl) (by kernel_rfl) (by kernel_rfl) fun a hF=>?_
    obtain ⟨e_4,he_4,hb2⟩:=bindS hb2
    obtain ⟨vs5,at5,d5⟩:=h1.at he_4 1 rfl
    obtain rfl : vs5 = [(iV e_4)]:=d5
    refine e_p (v:=(elP s1 (t_3.toNat * 1))) 2 hF rfl (ex_indexAddr Try.underlying28 sz3 rfl rfl (h1.idx he_4)) rfl rfl (by kernel_rfl) (by kernel_rfl) (by kernel_rfl) fun a hF=>e_xm (v:=(iV e_4)) 3 hF hS (Mem.le.refl _) rfl (ex_loadE1 0 Try.underlying3 rfl rfl ((at5).at) rfl rfl) rfl rfl (by kernel_rfl) (by kernel_rfl) (by kernel_rfl) fun a hF=>e_p (v:=s2.v) 4 hF rfl (ex_move rfl) rfl rfl (by kernel_rfl) (by kernel_rfl) (by kernel_rfl) fun a hF=>e_p (v:=(iV t_3)) 5 hF rfl (ex_move rfl) rfl rfl (by kernel_rfl) (by kernel_rfl) (by kernel_rfl) fun a hF=>?_
    obtain ⟨e_6,he_6,hb2⟩:=bindS hb2
    obtain ⟨vs7,at7,d7⟩:=h2.at he_6 1 rfl
    obtain rfl : vs7 = [(iV e_6)]:=d7
    refine e_p (v:=(elP s2 (t_3.toNat * 1))) 6 hF rfl (ex_indexAddr Try.underlying28 sz3 rfl rfl (h2.idx he_6)) rfl rfl (by kernel_rfl) (by kernel_rfl) (by kernel_rfl) fun a hF=>e_xm (v:=(iV e_6)) 7 hF hS (Mem.le.refl _) rfl (ex_loadE1 0 Try.underlying3 rfl rfl ((at7).at) rfl rfl) rfl rfl (by kernel_rfl) (by kernel_rfl) (by kernel_rfl) fun a hF=>e_p (v:=(.bool (e_4 != e_6))) 8 hF rfl (ex_ibin rfl rfl rfl) rfl rfl (by kernel_rfl) (by kernel_rfl) (by kernel_rfl) fun a hF=>e_end (by kernel_rfl) (n_sq ?_) _
    rcases bcase (e_4 != e_6) with hc4 | hc4
    ·have hb2:=cond_f hc4 hb2
     refine q_cond_f hF rfl hc4 (q_skipc (n_ib (n_sq (q_region (q_x (v:=(iV (w64 (t_3 + 1)))) hF hS (ex_ibin rfl rfl rfl) rfl rfl fun a hF=>q_x (v:=(iV (w64 (t_3 + 1)))) hF hS (ex_move rfl) rfl rfl fun a hF=>q_end ?_)))))
     obtain rfl:=someI hb2
     exact ⟨rfl,hF.sub ⟨rfl,rfl,rfl,rfl,trivial⟩,hS⟩
    ·have hb2:=cond_t hc4 hb2
     refine q_cond_t hF rfl hc4 (q_seq (q_region (q_x (v:=(.bool false)) hF hS (ex_assign rfl) rfl rfl fun a hF=>q_end (n_sq (q_ret (r_ib (r_sq ?_)))))))
     obtain rfl:=someI hb2
     refine ⟨nofun,.inr fun ho=>?_⟩
     subst ho
     refine r_ib (r_sq ?_)
     obtain rfl:=someI hr
     exact ret_of hF hS rfl (.tmp rfl .nil) rfl
  ·rintro e a w ⟨rfl,rfl,hF,hS⟩
   refine x_ib (n_sq ?_)
   refine q_seq (q_region (q_x (v:=(.bool true)) hF hS (ex_assign rfl) rfl rfl fun a hF=>q_end (n_sq (q_ret ?_))))
   obtain rfl:=someI hr
   exact ret_of hF hS rfl (.tmp rfl .nil) rfl
 ·have hr:=cond_t hc1 hr
  refine q_cond_t hF rfl hc1 (q_seq (q_region (q_x (v:=(.bool false)) hF hS (ex_assign rfl) rfl rfl fun a hF=>q_end (n_sq (q_ret (r_sq ?_))))))
  obtain rfl:=someI hr
  exact ret_of hF hS rfl (.tmp rfl .nil) rfl

theorem c_laws_sameLists (p_a : List (List Int)) (p_b : List (List Int)) (r : Bool) (hr : laws_sameLists p_a p_b = some r) (w0 : World) (m : Mem) (hv : Vis m w0) (s1 : Sl) (h1 : Rd m s1 p_a) (s2 : Sl) (h2 : Rd m s2 p_b) :
  Ret Try.prog 47 [s1.v,s2.v] w0 (fun v _=>v = (.bool r)):=by
 unfold laws_sameLists at hr
 refine ret_start Try.func47 rfl 27 rfl rfl m hv fun a hF hS=>q_seq (q_region (q_x (v:=(.bool false)) hF hS (ex_assign rfl) rfl rfl fun a hF=>q_end (n_sq (q_seq (q_seq (q_region (q_x (v:=s1.v) hF hS (ex_move rfl) rfl rfl fun a hF=>q_x (v:=(iV (goLen p_a))) hF hS (ex_len Try.underlying23 rfl h1.len) rfl rfl fun a hF=>q_x (v:=s2.v) hF hS (ex_move rfl) rfl rfl fun a hF=>q_x (v:=(iV (goLen p_b))) hF hS (ex_len Try.underlying23 rfl h2.len) rfl rfl fun a hF=>q_x (v:=(.bool ((goLen p_a) != (goLen p_b)))) hF hS (ex_ibin rfl rfl rfl) rfl rfl fun a hF=>q_end (n_sq ?_))))))))
 rcases bcase ((goLen p_a) != (goLen p_b)) with hc1 | hc1
 ·have hr:=cond_f hc1 hr
  refine q_cond_f hF rfl hc1 (q_skipc (n_sq (q_seq (q_seq (q_region (q_x (v:=s1.v) hF hS (ex_move rfl) rfl rfl fun a hF=>q_x (v:=(iV (goLen p_a))) hF hS (ex_len Try.underlying23 rfl h1.len) rfl rfl fun a hF=>q_x (v:=(iV 0)) hF hS (ex_move rfl) rfl rfl fun a hF=>q_end (n_sq (q_block ?_))))))))
  obtain ⟨o2,hl2,hr⟩:=bindS hr
  refine q_loop (fun (t_3 : Int) a w=>Fr a 27 [(0,s1.v),(1,s2.v),(12,(iV (goLen p_a))),(13,(iV t_3))]∧St [] w0 w m []) (fun (o : (Unit) ⊕ (Bool)) e a w=>o = .inl ()∧e = .exit 0∧Fr a 27 []∧St [] w0 w m []) hl2 ⟨hF.sub ⟨rfl,rfl,rfl,rfl,trivial⟩,hS⟩ ?_ ?_
  ·clear hF hS
   rintro t_3 a w st ⟨hF,hS⟩ hb2
   unfold laws_sameLists_l1 at hb2
   refine q_seq (q_region (q_x (v:=(.bool (decide (t_3 < (goLen p_a))))) hF hS (ex_ibin rfl rfl rfl) rfl rfl fun a hF=>q_end (n_sq (q_seq ?_))))
   rcases bcase (decide (t_3 < (goLen p_a))) with hc3 | hc3
   ·have hb2:=cond_f hc3 hb2
    refine q_cond_f hF rfl hc3 (q_exit (x_sq ?_))
    obtain rfl:=someI hb2
    exact ⟨nofun,.inl ⟨rfl,rfl,hF.sub trivial,hS⟩⟩
   ·have hb2:=cond_t hc3 hb2
    refine q_cond_t hF rfl hc3 (q_skipc (n_sq (q_seq (q_block (q_seq (q_region (q_x (v:=(iV t_3)) hF hS (ex_move rfl) rfl rfl fun a hF=>q_x (v:=(iV t_3)) hF hS (ex_assign rfl) rfl rfl fun a hF=>q_end (n_sq (q_seq (e_region ⟨[],[],m⟩ mixed fun w' hw'=>?_))))))))))
    have hS:=hS.below hw'
    refine e_p (v:=s1.v) 0 hF rfl (ex_move rfl) rfl rfl (by kernel_rfl) (by kernel_rfl) (by kernel_rfl) fun a hF=>e_p (v:=(iV t_3)) 1 hF rfl (ex_move rfl) rfl rfl (by kernel_rfl) (by kernel_rfl) (by kernel_rfl) fun a hF=>?_
    obtain ⟨e_4,he_4,hb2⟩:=bindS hb2
    obtain ⟨vs5,at5,d5⟩:=h1.at he_4 1 rfl
    obtain ⟨s6,rfl,h6⟩ : ∃ s6 : Sl,vs5 = [s6.v]∧Rd m s6 e_4:=d5
    refine e_p (v:=(elP s1 (t_3.toNat * 1))) 2 hF rfl (ex_indexAddr Try.underlying23 sz28 rfl rfl (h1.idx he_4)) rfl rfl (by kernel_rfl) (by kernel_rfl) (by kernel_rfl) fun a hF=>e_xm (v:=s6.v) 3 hF hS (Mem.le.refl _) rfl (ex_loadE1 0 Try.underlying28 rfl rfl ((at5).at) rfl rfl) rfl rfl (by kernel_rfl) (by kernel_rfl) (by kernel_rfl) fun a hF=>e_p (v:=s2.v) 4 hF rfl (ex_move rfl) rfl rfl (by kernel_rfl) (by kernel_rfl) (by kernel_rfl) fun a hF=>e_p (v:=(iV t_3)) 5 hF rfl (ex_move rfl) rfl rfl (by kernel_rfl) (by kernel_rfl) (by kernel_rfl) fun a hF=>?_
    obtain ⟨e_7,he_7,hb2⟩:=bindS hb2
    obtain ⟨vs8,at8,d8⟩:=h2.at he_7 1 rfl
    obtain ⟨s9,rfl,h9⟩ : ∃ s9 : Sl,vs8 = [s9.v]∧Rd m s9 e_7:=d8
    refine e_p (v:=(elP s2 (t_3.toNat * 1))) 6 hF rfl (ex_indexAddr Try.underlying23 sz28 rfl rfl (h2.idx he_7)) rfl rfl (by kernel_rfl) (by kernel_rfl) (by kernel_rfl) fun a hF=>e_xm (v:=s9.v) 7 hF hS (Mem.le.refl _) rfl (ex_loadE1 0 Try.underlying28 rfl rfl ((at8).at) rfl rfl) rfl rfl (by kernel_rfl) (by kernel_rfl) (by kernel_rfl) fun a hF=>e_one 8 (by kernel_rfl) ?_
    obtain ⟨t_10,ht_10,hb2⟩:=bindS hb2
    refine e_call (vs:=[s6.v,s9.v]) hF hS rfl Try.func55 (by kernel_rfl) rfl rfl rfl (c_laws_sameInts e_4 e_7 t_10 ht_10 _ m hS.vis s6 h6 s9 h9) ?_
    rintro a w _ rfl hF hS
    refine e_p (v:=(.bool (!t_10))) 9 hF rfl (ex_not rfl) rfl rfl (by kernel_rfl) (by kernel_rfl) (by kernel_rfl) fun a hF=>e_end (by kernel_rfl) (n_sq ?_) _
    rcases bcase (!t_10) with hc4 | hc4
    ·have hb2:=cond_f hc4 hb2
     refine q_cond_f hF rfl hc4 (q_skipc (n_ib (n_sq (q_region (q_x (v:=(iV (w64 (t_3 + 1)))) hF hS (ex_ibin rfl rfl rfl) rfl rfl fun a hF=>q_x (v:=(iV (w64 (t_3 + 1)))) hF hS (ex_move rfl) rfl rfl fun a hF=>q_end ?_)))))
     obtain rfl:=someI hb2
     exact ⟨rfl,hF.sub ⟨rfl,rfl,rfl,rfl,trivial⟩,hS⟩
    ·have hb2:=cond_t hc4 hb2
     refine q_cond_t hF rfl hc4 (q_seq (q_region (q_x (v:=(.bool false)) hF hS (ex_assign rfl) rfl rfl fun a hF=>q_end (n_sq (q_ret (r_ib (r_sq ?_)))))))
     obtain rfl:=someI hb2
     refine ⟨nofun,.inr fun ho=>?_⟩
     subst ho
     refine r_ib (r_sq ?_)
     obtain rfl:=someI hr
     exact ret_of hF hS rfl (.tmp rfl .nil) rfl
  ·rintro e a w ⟨rfl,rfl,hF,hS⟩
   refine x_ib (n_sq ?_)
   refine q_seq (q_region (q_x (v:=(.bool true)) hF hS (ex_assign rfl) rfl rfl fun a hF=>q_end (n_sq (q_ret ?_))))
   obtain rfl:=someI hr
   exact ret_of hF hS rfl (.tmp rfl .nil) rfl
 ·have hr:=cond_t hc1 hr
  refine q_cond_t hF rfl hc1 (q_seq (q_region (q_x (v:=(.bool false)) hF hS (ex_assign rfl) rfl rfl fun a hF=>q_end (n_sq (q_ret (r_sq ?_))))))
  obtain rfl:=someI hr
  exact ret_of hF hS rfl (.tmp rfl .nil) rfl

theorem c_impl_HasFlow (p_t : impl_Transport) (r : Bool × Bool) (hr : impl_HasFlow p_t = some r) (w0 : World) (m : Mem) (hv : Vis m w0) (s1 : Sl) (h1 : Rd m s1 p_t.Rows) (s2 : Sl) (h2 : Rd m s2 p_t.Cols) (s3 : Sl) (h3 : Rd m s3 p_t.Lo) (s4 : Sl) (h4 : Rd m s4 p_t.Hi) :
  Ret Try.prog 48 [(.agg #[s1.v,s2.v,s3.v,s4.v])] w0 (fun v _=>v = (.tuple #[(.bool r.1),(.bool r.2)])):=by
 unfold impl_HasFlow at hr
 refine ret_start Try.func48 rfl 10 rfl rfl m hv fun a hF hS=>q_seq (q_region (q_box (cs:=[s1.v,s2.v,s3.v,s4.v]) hF hS rfl rfl rfl fun a w b5 hF hS=>q_x (v:=(.bool false)) hF hS (ex_assign rfl) rfl rfl fun a hF=>q_x (v:=(.bool false)) hF hS (ex_assign rfl) rfl rfl fun a hF=>q_end (n_sq (q_seq (q_seq (q_region (q_x (v:=(.agg #[s1.v,s2.v,s3.v,s4.v])) hF hS (ex_loadA (vs:=[s1.v,s2.v,s3.v,s4.v]) 0 0 Try.underlying50 rfl sz50 rfl rfl rfl rfl) rfl rfl fun a hF=>?_)))))))
 obtain ⟨t_6,ht_6,hr⟩:=bindS hr
 refine q_call (vs:=[(.agg #[s1.v,s2.v,s3.v,s4.v])]) hF hS Try.func67 (by kernel_rfl) rfl rfl rfl (c_impl_IsTransport p_t t_6 ht_6 _ m hS.vis s1 h1 s2 h2 s3 h3 s4 h4) ?_
 rintro a w _ rfl hF hS
 refine q_x (v:=(.bool (!t_6))) hF hS (ex_not rfl) rfl rfl fun a hF=>q_end (n_sq ?_)
 rcases bcase (!t_6) with hc1 | hc1
 ·have hr:=cond_f hc1 hr
  refine q_cond_f hF rfl hc1 (q_skipc (n_sq (q_seq (q_region (q_x (v:=(.agg #[s1.v,s2.v,s3.v,s4.v])) hF hS (ex_loadA (vs:=[s1.v,s2.v,s3.v,s4.v]) 0 0 Try.underlying50 rfl sz50 rfl rfl rfl rfl) rfl rfl fun a hF=>?_)))))
  obtain ⟨t_7,ht_7,hr⟩:=bindS hr
  refine q_call (vs:=[(.agg #[s1.v,s2.v,s3.v,s4.v])]) hF hS Try.func124 (by kernel_rfl) rfl rfl rfl (c_impl_anyFlow p_t t_7 ht_7 _ m hS.vis s1 h1 s2 h2 s3 h3 s4 h4) ?_
  rintro a w _ ⟨q9,s9,rfl,hR8,h9,h9n⟩ hF hS2
  have hS : St _ _ _ _ [q9,[⟨b5,[s1.v,s2.v,s3.v,s4.v],50⟩]]:=hS.joinF hR8
  refine q_x (v:=(.bool (!t_7.isEmpty))) hF hS (ex_neNilF Try.underlying23 h9n h9.nilE rfl rfl) rfl rfl fun a hF=>q_x (v:=(.bool (!t_7.isEmpty))) hF hS (ex_assign rfl) rfl rfl fun a hF=>q_x (v:=(.bool true)) hF hS (ex_assign rfl) rfl rfl fun a hF=>q_end (n_sq (q_ret ?_))
  obtain rfl:=someI hr
  exact ret_of hF hS rfl (.tmp rfl (.tmp rfl .nil)) rfl
 ·have hr:=cond_t hc1 hr
  refine q_cond_t hF rfl hc1 (q_seq (q_region (q_x (v:=(.bool false)) hF hS (ex_assign rfl) rfl rfl fun a hF=>q_x (v:=(.bool false)) hF hS (ex_assign rfl) rfl rfl fun a hF=>q_end (n_sq (q_ret (r_sq ?_))))))
  obtain rfl:=someI hr
  exact ret_of hF hS rfl (.tmp rfl (.tmp rfl .nil)) rfl

theorem c_impl_IsFlow (p_t : impl_Transport) (p_x : List (List Int)) (r : Bool × Bool) (hr : impl_IsFlow p_t p_x = some r) (w0 : World) (m : Mem) (hv : Vis m w0) (s1 : Sl) (h1 : Rd m s1 p_t.Rows) (s2 : Sl) (h2 : Rd m s2 p_t.Cols) (s3 : Sl) (h3 : Rd m s3 p_t.Lo) (s4 : Sl) (h4 : Rd m s4 p_t.Hi) (s5 : Sl) (h5 : Rd m s5 p_x) :
  Ret Try.prog 31 [(.agg #[s1.v,s2.v,s3.v,s4.v]),s5.v] w0 (fun v _=>v = (.tuple #[(.bool r.1),(.bool r.2)])):=by
 unfold impl_IsFlow at hr
 refine ret_start Try.func31 rfl 72 rfl rfl m hv fun a hF hS=>q_seq (q_region (q_box (cs:=[s1.v,s2.v,s3.v,s4.v]) hF hS rfl rfl rfl fun a w b6 hF hS=>q_x (v:=(.bool false)) hF hS (ex_assign rfl) rfl rfl fun a hF=>q_x (v:=(.bool false)) hF hS (ex_assign rfl) rfl rfl fun a hF=>q_end (n_sq (q_seq (q_seq (q_region (q_x (v:=(.agg #[s1.v,s2.v,s3.v,s4.v])) hF hS (ex_loadA (vs:=[s1.v,s2.v,s3.v,s4.v]) 0 0 Try.underlying50 rfl sz50 rfl rfl rfl rfl) rfl rfl fun a hF=>?_)))))))
 obtain ⟨t_7,ht_7,hr⟩:=bindS hr
 refine q_call (vs:=[(.agg #[s1.v,s2.v,s3.v,s4.v])]) hF hS Try.func67 (by kernel_rfl) rfl rfl rfl (c_impl_IsTransport p_t t_7 ht_7 _ m hS.vis s1 h1 s2 h2 s3 h3 s4 h4) ?_
 rintro a w _ rfl hF hS
 refine q_x (v:=(.bool (!t_7))) hF hS (ex_not rfl) rfl rfl fun a hF=>q_end (n_sq ?_)
 rcases bcase (!t_7) with hc1 | hc1
 ·have hr:=cond_f hc1 hr
  refine q_cond_f hF rfl hc1 (q_skipc (n_sq (q_seq (q_seq (q_region (q_x (v:=s5.v) hF hS (ex_move rfl) rfl rfl fun a hF=>q_x (v:=(.pointer (some ⟨b6,0,none⟩))) hF hS (ex_fieldAddr Try.underlying50 rfl sz28 rfl rfl) rfl rfl fun a hF=>q_x (v:=s1.v) hF hS (ex_load1 0 0 Try.underlying28 rfl rfl rfl rfl) rfl rfl fun a hF=>q_x (v:=(iV (goLen p_t.Rows))) hF hS (ex_len Try.underlying28 rfl h1.len) rfl rfl fun a hF=>q_x (v:=(.pointer (some ⟨b6,1,none⟩))) hF hS (ex_fieldAddr Try.underlying50 rfl sz28 rfl rfl) rfl rfl fun a hF=>q_x (v:=s2.v) hF hS (ex_load1 0 0 Try.underlying28 rfl rfl rfl rfl) rfl rfl fun a hF=>q_x (v:=(iV (goLen p_t.Cols))) hF hS (ex_len Try.underlying28 rfl h2.len) rfl rfl fun a hF=>?_))))))
  obtain ⟨t_8,ht_8,hr⟩:=bindS hr
  refine q_call (vs:=[s5.v,(iV (goLen p_t.Rows)),(iV (goLen p_t.Cols))]) hF hS Try.func88 (by kernel_rfl) rfl rfl rfl (c_impl_hasShape p_x (goLen p_t.Rows) (goLen p_t.Cols) t_8 ht_8 _ m hS.vis s5 h5) ?_
  rintro a w _ rfl hF hS
  refine q_x (v:=(.bool (!t_8))) hF hS (ex_not rfl) rfl rfl fun a hF=>q_end (n_sq ?_)
  rcases bcase (!t_8) with hc2 | hc2
  ·have hr:=cond_f hc2 hr
   refine q_cond_f hF rfl hc2 (q_skipc (n_sq (q_seq (q_seq (q_region (q_x (v:=s5.v) hF hS (ex_move rfl) rfl rfl fun a hF=>q_x (v:=(iV (goLen p_x))) hF hS (ex_len Try.underlying23 rfl h5.len) rfl rfl fun a hF=>q_x (v:=(iV 0)) hF hS (ex_move rfl) rfl rfl fun a hF=>q_end (n_sq (q_block ?_))))))))
   obtain ⟨o3,hl3,hr⟩:=bindS hr
   refine q_loop (fun (t_9 : Int) a w=>Fr a 72 [(1,s5.v),(2,(.pointer (some ⟨b6,0,none⟩))),(22,s5.v),(23,(iV (goLen p_x))),(24,(iV t_9))]∧St [] w0 w m [[⟨b6,[s1.v,s2.v,s3.v,s4.v],50⟩]]) (fun (o : (Unit) ⊕ (Bool × Bool)) e a w=>o = .inl ()∧e = .exit 0∧Fr a 72 [(1,s5.v),(2,(.pointer (some ⟨b6,0,none⟩)))]∧St [] w0 w m [[⟨b6,[s1.v,s2.v,s3.v,s4.v],50⟩]]) hl3 ⟨hF.sub ⟨rfl,rfl,rfl,rfl,rfl,trivial⟩,hS⟩ ?_ ?_
   ·clear hF hS
    rintro t_9 a w st ⟨hF,hS⟩ hb3
    unfold impl_IsFlow_l1 at hb3
    refine q_seq (q_region (q_x (v:=(.bool (decide (t_9 < (goLen p_x))))) hF hS (ex_ibin rfl rfl rfl) rfl rfl fun a hF=>q_end (n_sq (q_seq ?_))))
    rcases bcase (decide (t_9 < (goLen p_x))) with hc4 | hc4
    ·have hb3:=cond_f hc4 hb3
     refine q_cond_f hF rfl hc4 (q_exit (x_sq ?_))
     obtain rfl:=someI hb3
     exact ⟨nofun,.inl ⟨rfl,rfl,hF.sub ⟨rfl,rfl,trivial⟩,hS⟩⟩
    ·have hb3:=cond_t hc4 hb3
     refine q_cond_t hF rfl hc4 (q_skipc (n_sq (q_seq (q_block (q_seq (q_region (q_x (v:=(iV t_9)) hF hS (ex_move rfl) rfl rfl fun a hF=>?_)))))))
     obtain ⟨e_10,he_10,hb3⟩:=bindS hb3
     obtain ⟨vs11,at11,d11⟩:=h5.at he_10 1 rfl
     obtain ⟨s12,rfl,h12⟩ : ∃ s12 : Sl,vs11 = [s12.v]∧Rd m s12 e_10:=d11
     refine q_x (v:=(elP s5 (t_9.toNat * 1))) hF hS (ex_indexAddr Try.underlying23 sz28 rfl rfl (h5.idx he_10)) rfl rfl fun a hF=>q_x (v:=s12.v) hF hS (ex_loadE1 0 Try.underlying28 rfl rfl ((at11).at) rfl rfl) rfl rfl fun a hF=>q_x (v:=(iV t_9)) hF hS (ex_assign rfl) rfl rfl fun a hF=>q_x (v:=s12.v) hF hS (ex_assign rfl) rfl rfl fun a hF=>q_end (n_sq (q_seq (q_region (q_x (v:=s12.v) hF hS (ex_move rfl) rfl rfl fun a hF=>q_x (v:=(iV (goLen e_10))) hF hS (ex_len Try.underlying28 rfl h12.len) rfl rfl fun a hF=>q_x (v:=(iV 0)) hF hS (ex_move rfl) rfl rfl fun a hF=>q_end (n_sq (q_block ?_))))))
     obtain ⟨o5,hl5,hb3⟩:=bindS hb3
     refine q_loop (fun (t_13 : Int) a w=>Fr a 72 [(1,s5.v),(2,(.pointer (some ⟨b6,0,none⟩))),(6,(iV t_9)),(22,s5.v),(23,(iV (goLen p_x))),(24,(iV t_9)),(29,s12.v),(30,(iV (goLen e_10))),(31,(iV t_13))]∧St [] w0 w m [[⟨b6,[s1.v,s2.v,s3.v,s4.v],50⟩]]) (fun (o : (Unit) ⊕ (Stp (Int) ((Unit) ⊕ (Bool × Bool)))) e a w=>o = .inl ()∧e = .exit 2∧Fr a 72 [(1,s5.v),(2,(.pointer (some ⟨b6,0,none⟩))),(22,s5.v),(23,(iV (goLen p_x))),(24,(iV t_9))]∧St [] w0 w m [[⟨b6,[s1.v,s2.v,s3.v,s4.v],50⟩]]) hl5 ⟨hF.sub ⟨rfl,rfl,rfl,rfl,rfl,rfl,rfl,rfl,rfl,trivial⟩,hS⟩ ?_ ?_
     ·clear hF hS
      rintro t_13 a w st ⟨hF,hS⟩ hb5
      unfold impl_IsFlow_l2 at hb5
      refine q_seq (q_region (q_x (v:=(.bool (decide (t_13 < (goLen e_10))))) hF hS (ex_ibin rfl rfl rfl) rfl rfl fun a hF=>q_end (n_sq (q_seq ?_))))
      rcases bcase (decide (t_13 < (goLen e_10))) with hc6 | hc6
      ·have hb5:=cond_f hc6 hb5
       refine q_cond_f hF rfl hc6 (q_exit (x_sq ?_))
       obtain rfl:=someI hb5
       exact ⟨nofun,.inl ⟨rfl,rfl,hF.sub ⟨rfl,rfl,rfl,rfl,rfl,trivial⟩,hS⟩⟩
      ·have hb5:=cond_t hc6 hb5
       refine q_cond_t hF rfl hc6 (q_skipc (n_sq (q_seq (q_block (q_seq (q_region (q_x (v:=(iV t_13)) hF hS (ex_move rfl) rfl rfl fun a hF=>?_)))))))
       obtain ⟨e_14,he_14,hb5⟩:=bindS hb5
       obtain ⟨vs15,at15,d15⟩:=h12.at he_14 1 rfl
       obtain rfl : vs15 = [(iV e_14)]:=d15
       refine q_x (v:=(elP s12 (t_13.toNat * 1))) hF hS (ex_indexAddr Try.underlying28 sz3 rfl rfl (h12.idx he_14)) rfl rfl fun a hF=>q_x (v:=(iV e_14)) hF hS (ex_loadE1 0 Try.underlying3 rfl rfl ((at15).at) rfl rfl) rfl rfl fun a hF=>q_x (v:=(iV t_13)) hF hS (ex_assign rfl) rfl rfl fun a hF=>q_x (v:=(iV e_14)) hF hS (ex_assign rfl) rfl rfl fun a hF=>q_end (n_sq (q_seq ?_))
       obtain ⟨t_26,hj7,hb5⟩:=bindS hb5
       refine q_join (fun a w=>Fr a 72 [(1,s5.v),(2,(.pointer (some ⟨b6,0,none⟩))),(6,(iV t_9)),(22,s5.v),(23,(iV (goLen p_x))),(24,(iV t_9)),(29,s12.v),(30,(iV (goLen e_10))),(31,(iV t_13)),(57,(.bool t_26))]∧St [] w0 w m [[⟨b6,[s1.v,s2.v,s3.v,s4.v],50⟩]]) ?_ ?_
       ·refine q_region (q_x (v:=(iV e_14)) hF hS (ex_move rfl) rfl rfl fun a hF=>q_x (v:=(.pointer (some ⟨b6,2,none⟩))) hF hS (ex_fieldAddr Try.underlying50 rfl sz23 rfl rfl) rfl rfl fun a hF=>q_x (v:=s3.v) hF hS (ex_load1 0 0 Try.underlying23 rfl rfl rfl rfl) rfl rfl fun a hF=>q_x (v:=(iV t_9)) hF hS (ex_move rfl) rfl rfl fun a hF=>?_)
        obtain ⟨e_16,he_16,hj7⟩:=bindS hj7
        obtain ⟨vs17,at17,d17⟩:=h3.at he_16 1 rfl
        obtain ⟨s18,rfl,h18⟩ : ∃ s18 : Sl,vs17 = [s18.v]∧Rd m s18 e_16:=d17
        refine q_x (v:=(elP s3 (t_9.toNat * 1))) hF hS (ex_indexAddr Try.underlying23 sz28 rfl rfl (h3.idx he_16)) rfl rfl fun a hF=>q_x (v:=s18.v) hF hS (ex_loadE1 0 Try.underlying28 rfl rfl ((at17).at) rfl rfl) rfl rfl fun a hF=>q_x (v:=(iV t_13)) hF hS (ex_move rfl) rfl rfl fun a hF=>?_
        obtain ⟨e_19,he_19,hj7⟩:=bindS hj7
        obtain ⟨vs20,at20,d20⟩:=h18.at he_19 1 rfl
        obtain rfl : vs20 = [(iV e_19)]:=d20
        refine q_x (v:=(elP s18 (t_13.toNat * 1))) hF hS (ex_indexAddr Try.underlying28 sz3 rfl rfl (h18.idx he_19)) rfl rfl fun a hF=>q_x (v:=(iV e_19)) hF hS (ex_loadE1 0 Try.underlying3 rfl rfl ((at20).at) rfl rfl) rfl rfl fun a hF=>q_x (v:=(.bool (decide (e_14 < e_19)))) hF hS (ex_ibin rfl rfl rfl) rfl rfl fun a hF=>q_x (v:=(.bool (decide (e_14 < e_19)))) hF hS (ex_move rfl) rfl rfl fun a hF=>?_
        rcases bcase (decide (e_14 < e_19)) with hc8 | hc8
        ·have hj7:=cond_f hc8 hj7
         refine q_xg (v:=(iV e_14)) hF hS (ex_move rfl) (wanted_t hF rfl rfl rfl hc8) rfl fun a hF=>q_xg (v:=(.pointer (some ⟨b6,3,none⟩))) hF hS (ex_fieldAddr Try.underlying50 rfl sz23 rfl rfl) (wanted_t hF rfl rfl rfl hc8) rfl fun a hF=>q_xg (v:=s4.v) hF hS (ex_load1 0 0 Try.underlying23 rfl rfl rfl rfl) (wanted_t hF rfl rfl rfl hc8) rfl fun a hF=>q_xg (v:=(iV t_9)) hF hS (ex_move rfl) (wanted_t hF rfl rfl rfl hc8) rfl fun a hF=>?_
         obtain ⟨e_21,he_21,hj7⟩:=bindS hj7
         obtain ⟨vs22,at22,d22⟩:=h4.at he_21 1 rfl
         obtain ⟨s23,rfl,h23⟩ : ∃ s23 : Sl,vs22 = [s23.v]∧Rd m s23 e_21:=d22
         refine q_xg (v:=(elP s4 (t_9.toNat * 1))) hF hS (ex_indexAddr Try.underlying23 sz28 rfl rfl (h4.idx he_21)) (wanted_t hF rfl rfl rfl hc8) rfl fun a hF=>q_xg (v:=s23.v) hF hS (ex_loadE1 0 Try.underlying28 rfl rfl ((at22).at) rfl rfl) (wanted_t hF rfl rfl rfl hc8) rfl fun a hF=>q_xg (v:=(iV t_13)) hF hS (ex_move rfl) (wanted_t hF rfl rfl rfl hc8) rfl fun a hF=>?_
         obtain ⟨e_24,he_24,hj7⟩:=bindS hj7
         obtain ⟨vs25,at25,d25⟩:=h23.at he_24 1 rfl
         obtain rfl : vs25 = [(iV e_24)]:=d25
         refine q_xg (v:=(elP s23 (t_13.toNat * 1))) hF hS (ex_indexAddr Try.underlying28 sz3 rfl rfl (h23.idx he_24)) (wanted_t hF rfl rfl rfl hc8) rfl fun a hF=>q_xg (v:=(iV e_24)) hF hS (ex_loadE1 0 Try.underlying3 rfl rfl ((at25).at) rfl rfl) (wanted_t hF rfl rfl rfl hc8) rfl fun a hF=>q_xg (v:=(.bool (decide (e_24 < e_14)))) hF hS (ex_ibin rfl rfl rfl) (wanted_t hF rfl rfl rfl hc8) rfl fun a hF=>q_x (v:=(.bool (decide (e_24 < e_14)))) hF hS (ex_pick_f rfl rfl hc8) rfl rfl fun a hF=>q_end (n_jn ?_)
         obtain rfl:=someI hj7
         exact ⟨hF.sub ⟨rfl,rfl,rfl,rfl,rfl,rfl,rfl,rfl,rfl,rfl,trivial⟩,hS⟩
        ·have hj7:=cond_t hc8 hj7
         refine q_skip hF (wanted_f hF rfl rfl rfl hc8 rfl) rfl fun a hF=>q_skip hF (wanted_f hF rfl rfl rfl hc8 rfl) rfl fun a hF=>q_skip hF (wanted_f hF rfl rfl rfl hc8 rfl) rfl fun a hF=>q_skip hF (wanted_f hF rfl rfl rfl hc8 rfl) rfl fun a hF=>q_skip hF (wanted_f hF rfl rfl rfl hc8 rfl) rfl fun a hF=>q_skip hF (wanted_f hF rfl rfl rfl hc8 rfl) rfl fun a hF=>q_skip hF (wanted_f hF rfl rfl rfl hc8 rfl) rfl fun a hF=>q_skip hF (wanted_f hF rfl rfl rfl hc8 rfl) rfl fun a hF=>q_skip hF (wanted_f hF rfl rfl rfl hc8 rfl) rfl fun a hF=>q_skip hF (wanted_f hF rfl rfl rfl hc8 rfl) rfl fun a hF=>q_x (v:=(.bool true)) hF hS (ex_pick_t rfl rfl hc8) rfl rfl fun a hF=>q_end (n_jn ?_)
         obtain rfl:=someI hj7
         exact ⟨hF.sub ⟨rfl,rfl,rfl,rfl,rfl,rfl,rfl,rfl,rfl,rfl,trivial⟩,hS⟩
       ·rintro a w ⟨hF,hS⟩
        refine n_sq ?_
        rcases bcase (t_26) with hc9 | hc9
        ·have hb5:=cond_f hc9 hb5
         refine q_cond_f hF rfl hc9 (q_skipc (n_ib (n_sq (q_region (q_x (v:=(iV (w64 (t_13 + 1)))) hF hS (ex_ibin rfl rfl rfl) rfl rfl fun a hF=>q_x (v:=(iV (w64 (t_13 + 1)))) hF hS (ex_move rfl) rfl rfl fun a hF=>q_end ?_)))))
         obtain rfl:=someI hb5
         exact ⟨rfl,hF.sub ⟨rfl,rfl,rfl,rfl,rfl,rfl,rfl,rfl,rfl,trivial⟩,hS⟩
        ·have hb5:=cond_t hc9 hb5
         refine q_cond_t hF rfl hc9 (q_seq (q_region (q_x (v:=(.bool false)) hF hS (ex_assign rfl) rfl rfl fun a hF=>q_x (v:=(.bool true)) hF hS (ex_assign rfl) rfl rfl fun a hF=>q_end (n_sq (q_ret (r_ib (r_sq ?_)))))))
         obtain rfl:=someI hb5
         refine ⟨nofun,.inr fun ho=>?_⟩
         subst ho
         refine r_ib (r_ib (r_sq ?_))
         obtain rfl:=someI hb3
         refine ⟨nofun,.inr fun ho=>?_⟩
         subst ho
         refine r_ib (r_sq ?_)
         obtain rfl:=someI hr
         exact ret_of hF hS rfl (.tmp rfl (.tmp rfl .nil)) rfl
     ·rintro e a w ⟨rfl,rfl,hF,hS⟩
      refine x_ib (n_ib (n_sq ?_))
      refine q_region (q_x (v:=(iV (w64 (t_9 + 1)))) hF hS (ex_ibin rfl rfl rfl) rfl rfl fun a hF=>q_x (v:=(iV (w64 (t_9 + 1)))) hF hS (ex_move rfl) rfl rfl fun a hF=>q_end ?_)
      obtain rfl:=someI hb3
      exact ⟨rfl,hF.sub ⟨rfl,rfl,rfl,rfl,rfl,trivial⟩,hS⟩
   ·rintro e a w ⟨rfl,rfl,hF,hS⟩
    refine x_ib (n_sq ?_)
    refine q_seq ?_
    obtain ⟨t_49,hj10,hr⟩:=bindS hr
    refine q_join (fun a w=>Fr a 72 [(4,(.bool t_49)),(5,(.bool true))]∧St [] w0 w m []) ?_ ?_
    ·refine e_region ⟨[],[],m⟩ mixed fun w' hw'=>?_
     have hS:=hS.below hw'
     refine e_p (v:=s5.v) 0 hF rfl (ex_move rfl) rfl rfl (by kernel_rfl) (by kernel_rfl) (by kernel_rfl) fun a hF=>e_p (v:=(.pointer (some ⟨b6,0,none⟩))) 2 hF rfl (ex_fieldAddr Try.underlying50 rfl sz28 rfl rfl) rfl rfl (by kernel_rfl) (by kernel_rfl) (by kernel_rfl) fun a hF=>e_x (v:=s1.v) 3 hF hS rfl (ex_load1 0 0 Try.underlying28 rfl rfl rfl rfl) rfl rfl (by kernel_rfl) (by kernel_rfl) (by kernel_rfl) (by kernel_rfl) fun a hF=>e_one 1 (by kernel_rfl) ?_
     obtain ⟨t_33,ht_33,hj10⟩:=bindS hj10
     refine e_call (vs:=[s5.v]) hF hS rfl Try.func104 (by kernel_rfl) rfl rfl rfl (c_impl_rowSums p_x t_33 ht_33 _ m hS.vis s5 h5) ?_
     rintro a w _ ⟨q35,s35,rfl,hR34,h35⟩ hF hS2
     have hS : St _ _ _ _ [q35,[⟨b6,[s1.v,s2.v,s3.v,s4.v],50⟩]]:=hS.joinF hR34
     refine e_one 4 (by kernel_rfl) ?_
     obtain ⟨m37,hl37,hv37,hz37⟩:=hS.lend
     obtain ⟨t_36,ht_36,hj10⟩:=bindS hj10
     refine e_call (vs:=[s35.v,s1.v]) hF hS rfl Try.func103 (by kernel_rfl) rfl rfl rfl (c_slices_Equal_int_int t_33 p_t.Rows t_36 ht_36 _ m37 hv37 s35 (h35.froz hl37 (hz37 0 _ rfl)) s1 (h1.mono hl37)) ?_
     rintro a w _ rfl hF hS
     refine e_p (v:=(.bool t_36)) 5 hF rfl (ex_move rfl) rfl rfl (by kernel_rfl) (by kernel_rfl) (by kernel_rfl) fun a hF=>?_
     rcases bcase (t_36) with hc11 | hc11
     ·have hj10:=cond_f hc11 hj10
      refine e_skipP 6 hF rfl (wanted_f hF rfl rfl rfl hc11 rfl) rfl (by kernel_rfl) (by kernel_rfl) (by kernel_rfl) fun a hF=>e_skipP 7 hF rfl (wanted_f hF rfl rfl rfl hc11 rfl) rfl (by kernel_rfl) (by kernel_rfl) (by kernel_rfl) fun a hF=>e_skipP 8 hF rfl (wanted_f hF rfl rfl rfl hc11 rfl) rfl (by kernel_rfl) (by kernel_rfl) (by kernel_rfl) fun a hF=>e_skipP 9 hF rfl (wanted_f hF rfl rfl rfl hc11 rfl) rfl (by kernel_rfl) (by kernel_rfl) (by kernel_rfl) fun a hF=>e_skipP 10 hF rfl (wanted_f hF rfl rfl rfl hc11 rfl) rfl (by kernel_rfl) (by kernel_rfl) (by kernel_rfl) fun a hF=>e_p (v:=(.bool false)) 11 hF rfl (ex_pick_f rfl rfl hc11) rfl rfl (by kernel_rfl) (by kernel_rfl) (by kernel_rfl) fun a hF=>e_p (v:=(.bool false)) 12 hF rfl (ex_assign rfl) rfl rfl (by kernel_rfl) (by kernel_rfl) (by kernel_rfl) fun a hF=>e_p (v:=(.bool true)) 13 hF rfl (ex_assign rfl) rfl rfl (by kernel_rfl) (by kernel_rfl) (by kernel_rfl) fun a hF=>e_end (by kernel_rfl) (n_jn ?_) _
      obtain rfl:=someI hj10
      exact ⟨hF.sub ⟨rfl,rfl,trivial⟩,hS.mask [false,false]⟩
     ·have hj10:=cond_t hc11 hj10
      refine e_pg (v:=s5.v) 6 hF rfl (ex_move rfl) (wanted_t hF rfl rfl rfl hc11) rfl (by kernel_rfl) (by kernel_rfl) (by kernel_rfl) fun a hF=>e_pg (v:=(.pointer (some ⟨b6,1,none⟩))) 8 hF rfl (ex_fieldAddr Try.underlying50 rfl sz28 rfl rfl) (wanted_t hF rfl rfl rfl hc11) rfl (by kernel_rfl) (by kernel_rfl) (by kernel_rfl) fun a hF=>e_xg (v:=s2.v) 9 hF hS rfl (ex_load1 1 0 Try.underlying28 rfl rfl rfl rfl) (wanted_t hF rfl rfl rfl hc11) rfl (by kernel_rfl) (by kernel_rfl) (by kernel_rfl) (by kernel_rfl) fun a hF=>e_one 7 (by kernel_rfl) ?_
      obtain ⟨t_44,ht_44,hj10⟩:=bindS hj10
      refine e_callg (vs:=[s5.v]) hF hS rfl (wanted_t hF rfl rfl rfl hc11) Try.func105 (by kernel_rfl) rfl rfl rfl (c_impl_colSums p_x t_44 ht_44 _ m hS.vis s5 h5) ?_
      rintro a w _ ⟨q46,s46,rfl,hR45,h46⟩ hF hS2
      have hS : St _ _ _ _ [q46,q35,[⟨b6,[s1.v,s2.v,s3.v,s4.v],50⟩]]:=hS.joinF hR45
      refine e_one 10 (by kernel_rfl) ?_
      obtain ⟨m48,hl48,hv48,hz48⟩:=hS.lend
      obtain ⟨t_47,ht_47,hj10⟩:=bindS hj10
      refine e_callg (vs:=[s46.v,s2.v]) hF hS rfl (wanted_t hF rfl rfl rfl hc11) Try.func103 (by kernel_rfl) rfl rfl rfl (c_slices_Equal_int_int t_44 p_t.Cols t_47 ht_47 _ m48 hv48 s46 (h46.froz hl48 (hz48 0 _ rfl)) s2 (h2.mono hl48)) ?_
      rintro a w _ rfl hF hS
      refine e_p (v:=(.bool t_47)) 11 hF rfl (ex_pick_t rfl rfl hc11) rfl rfl (by kernel_rfl) (by kernel_rfl) (by kernel_rfl) fun a hF=>e_p (v:=(.bool t_47)) 12 hF rfl (ex_assign rfl) rfl rfl (by kernel_rfl) (by kernel_rfl) (by kernel_rfl) fun a hF=>e_p (v:=(.bool true)) 13 hF rfl (ex_assign rfl) rfl rfl (by kernel_rfl) (by kernel_rfl) (by kernel_rfl) fun a hF=>e_end (by kernel_rfl) (n_jn ?_) _
      obtain rfl:=someI hj10
      exact ⟨hF.sub ⟨rfl,rfl,trivial⟩,hS.mask [false,false,false]⟩
    ·rintro a w ⟨hF,hS⟩
     refine n_sq (q_ret ?_)
     obtain rfl:=someI hr
     exact ret_of hF hS rfl (.tmp rfl (.tmp rfl .nil)) rfl
  ·have hr:=cond_t hc2 hr
   refine q_cond_t hF rfl hc2 (q_seq (q_region (q_x (v:=(.bool false)) hF hS (ex_assign rfl) rfl rfl fun a hF=>q_x (v:=(.bool true)) hF hS (ex_assign rfl) rfl rfl fun a hF=>q_end (n_sq (q_ret (r_sq ?_))))))
   obtain rfl:=someI hr
   exact ret_of hF hS rfl (.tmp rfl (.tmp rfl .nil)) rfl
 ·have hr:=cond_t hc1 hr
  refine q_cond_t hF rfl hc1 (q_seq (q_region (q_x (v:=(.bool false)) hF hS (ex_assign rfl) rfl rfl fun a hF=>q_x (v:=(.bool false)) hF hS (ex_assign rfl) rfl rfl fun a hF=>q_end (n_sq (q_ret (r_sq ?_))))))
  obtain rfl:=someI hr
  exact ret_of hF hS rfl (.tmp rfl (.tmp rfl .nil)) rfl

theorem c_impl_nextFlow (p_t : impl_Transport) (p_x : List (List Int)) (r : (List (List Int))) (hr : impl_nextFlow p_t p_x = some r) (w0 : World) (m : Mem) (hv : Vis m w0) (s1 : Sl) (h1 : Rd m s1 p_t.Rows) (s2 : Sl) (h2 : Rd m s2 p_t.Cols) (s3 : Sl) (h3 : Rd m s3 p_t.Lo) (s4 : Sl) (h4 : Rd m s4 p_t.Hi) (s5 : Sl) (h5 : Rd m s5 p_x) :
  Ret Try.prog 125 [(.agg #[s1.v,s2.v,s3.v,s4.v]),s5.v] w0 (fun v w=>∃ (q0' : Piece) (s0' : Sl),v = s0'.v∧St [] w0 w m [q0']∧OwnD m 28 3 q0' s0' r∧NF s0' r):=by
 unfold impl_nextFlow at hr
 refine ret_start Try.func125 rfl 77 rfl rfl m hv fun a hF hS=>q_seq (q_region (q_box (cs:=[s1.v,s2.v,s3.v,s4.v]) hF hS rfl rfl rfl fun a w b6 hF hS=>q_x (v:=nilS.v) hF hS (ex_assign rfl) rfl rfl fun a hF=>q_end (n_sq (q_seq (e_region ⟨[],[],m⟩ mixed fun w' hw'=>?_)))))
 have hS:=hS.below hw'
 refine e_p (v:=(.pointer (some ⟨b6,0,none⟩))) 0 hF rfl (ex_fieldAddr Try.underlying50 rfl sz28 rfl rfl) rfl rfl (by kernel_rfl) (by kernel_rfl) (by kernel_rfl) fun a hF=>e_x (v:=s1.v) 1 hF hS rfl (ex_load1 0 0 Try.underlying28 rfl rfl rfl rfl) rfl rfl (by kernel_rfl) (by kernel_rfl) (by kernel_rfl) (by kernel_rfl) fun a hF=>e_p (v:=(iV (goLen p_t.Rows))) 2 hF rfl (ex_len Try.underlying28 rfl h1.len) rfl rfl (by kernel_rfl) (by kernel_rfl) (by kernel_rfl) fun a hF=>e_p (v:=(.pointer (some ⟨b6,1,none⟩))) 3 hF rfl (ex_fieldAddr Try.underlying50 rfl sz28 rfl rfl) rfl rfl (by kernel_rfl) (by kernel_rfl) (by kernel_rfl) fun a hF=>e_x (v:=s2.v) 4 hF hS rfl (ex_load1 0 0 Try.underlying28 rfl rfl rfl rfl) rfl rfl (by kernel_rfl) (by kernel_rfl) (by kernel_rfl) (by kernel_rfl) fun a hF=>e_p (v:=(iV (goLen p_t.Cols))) 5 hF rfl (ex_len Try.underlying28 rfl h2.len) rfl rfl (by kernel_rfl) (by kernel_rfl) (by kernel_rfl) fun a hF=>e_p (v:=(iV (goLen p_t.Rows))) 6 hF rfl (ex_assign rfl) rfl rfl (by kernel_rfl) (by kernel_rfl) (by kernel_rfl) fun a hF=>e_p (v:=(iV (goLen p_t.Cols))) 7 hF rfl (ex_assign rfl) rfl rfl (by kernel_rfl) (by kernel_rfl) (by kernel_rfl) fun a hF=>e_end (by kernel_rfl) (n_sq ?_) _
 refine q_seq (q_seq (q_region (q_x (v:=(iV (goLen p_t.Rows))) hF hS (ex_move rfl) rfl rfl fun a hF=>q_x (v:=(iV (goLen p_t.Cols))) hF hS (ex_move rfl) rfl rfl fun a hF=>q_x (v:=(iV (w64 ((goLen p_t.Rows) * (goLen p_t.Cols))))) hF hS (ex_ibin rfl rfl rfl) rfl rfl fun a hF=>q_x (v:=(iV (w64 ((w64 ((goLen p_t.Rows) * (goLen p_t.Cols))) - 1)))) hF hS (ex_ibin rfl rfl rfl) rfl rfl fun a hF=>q_x (v:=(iV (w64 ((w64 ((goLen p_t.Rows) * (goLen p_t.Cols))) - 1)))) hF hS (ex_assign rfl) rfl rfl fun a hF=>q_end (n_sq (q_block ?_)))))
 obtain ⟨o1,hl1,hr⟩:=bindS hr
 refine q_loop (fun (p_7 : Int) a w=>Fr a 77 [(1,s5.v),(2,(.pointer (some ⟨b6,0,none⟩))),(5,(iV (goLen p_t.Rows))),(6,(iV (goLen p_t.Cols))),(7,(iV p_7))]∧St [] w0 w m [[⟨b6,[s1.v,s2.v,s3.v,s4.v],50⟩]]) (fun (o : (Unit) ⊕ ((List (List Int)))) e a w=>o = .inl ()∧e = .exit 0∧Fr a 77 []∧St [] w0 w m []) hl1 ⟨hF.sub ⟨rfl,rfl,rfl,rfl,rfl,trivial⟩,hS⟩ ?_ ?_
 ·clear hF hS
  rintro p_7 a w st ⟨hF,hS⟩ hb1
  unfold impl_nextFlow_l1 at hb1
  refine q_seq (q_seq (q_region (q_x (v:=(iV p_7)) hF hS (ex_move rfl) rfl rfl fun a hF=>q_x (v:=(.bool (decide (0 ≤ p_7)))) hF hS (ex_ibin rfl rfl rfl) rfl rfl fun a hF=>q_end (n_sq ?_))))
  rcases bcase (decide (0 ≤ p_7)) with hc2 | hc2
  ·have hb1:=cond_f hc2 hb1
   refine q_cond_f hF rfl hc2 (q_exit (x_sq ?_))
   obtain rfl:=someI hb1
   exact ⟨nofun,.inl ⟨rfl,rfl,hF.sub trivial,hS.mask [false]⟩⟩
  ·have hb1:=cond_t hc2 hb1
   refine q_cond_t hF rfl hc2 (q_skipc (n_sq (q_seq ?_)))
   obtain ⟨j3,hj3,hb1⟩:=bindS hb1
   refine q_join (fun a w=>j3 = .inl ()∧Fr a 77 [(1,s5.v),(2,(.pointer (some ⟨b6,0,none⟩))),(5,(iV (goLen p_t.Rows))),(6,(iV (goLen p_t.Cols))),(7,(iV p_7))]∧St [] w0 w m [[⟨b6,[s1.v,s2.v,s3.v,s4.v],50⟩]]) ?_ ?_
   ·refine q_block (q_seq (e_region ⟨[],[],m⟩ mixed fun w' hw'=>?_))
    have hS:=hS.below hw'
    refine e_p (v:=(iV p_7)) 0 hF rfl (ex_move rfl) rfl rfl (by kernel_rfl) (by kernel_rfl) (by kernel_rfl) fun a hF=>e_p (v:=(iV (goLen p_t.Cols))) 1 hF rfl (ex_move rfl) rfl rfl (by kernel_rfl) (by kernel_rfl) (by kernel_rfl) fun a hF=>?_
    obtain ⟨t_8,ht_8,hj3⟩:=bindS hj3
    refine e_p (v:=(iV t_8)) 2 hF rfl (ex_quo rfl rfl ht_8) rfl rfl (by kernel_rfl) (by kernel_rfl) (by kernel_rfl) fun a hF=>e_p (v:=(iV p_7)) 3 hF rfl (ex_move rfl) rfl rfl (by kernel_rfl) (by kernel_rfl) (by kernel_rfl) fun a hF=>e_p (v:=(iV (goLen p_t.Cols))) 4 hF rfl (ex_move rfl) rfl rfl (by kernel_rfl) (by kernel_rfl) (by kernel_rfl) fun a hF=>?_
    obtain ⟨t_9,ht_9,hj3⟩:=bindS hj3
    refine e_p (v:=(iV t_9)) 5 hF rfl (ex_rem rfl rfl ht_9) rfl rfl (by kernel_rfl) (by kernel_rfl) (by kernel_rfl) fun a hF=>e_p (v:=(iV t_8)) 6 hF rfl (ex_assign rfl) rfl rfl (by kernel_rfl) (by kernel_rfl) (by kernel_rfl) fun a hF=>e_p (v:=(iV t_9)) 7 hF rfl (ex_assign rfl) rfl rfl (by kernel_rfl) (by kernel_rfl) (by kernel_rfl) fun a hF=>e_end (by kernel_rfl) (n_sq ?_) _
    refine q_seq (q_seq (e_region ⟨[],[],m⟩ mixed fun w' hw'=>?_))
    have hS:=hS.below hw'
    refine e_p (v:=s5.v) 0 hF rfl (ex_move rfl) rfl rfl (by kernel_rfl) (by kernel_rfl) (by kernel_rfl) fun a hF=>e_p (v:=(iV t_8)) 1 hF rfl (ex_move rfl) rfl rfl (by kernel_rfl) (by kernel_rfl) (by kernel_rfl) fun a hF=>?_
    obtain ⟨e_10,he_10,hj3⟩:=bindS hj3
    obtain ⟨vs11,at11,d11⟩:=h5.at he_10 1 rfl
    obtain ⟨s12,rfl,h12⟩ : ∃ s12 : Sl,vs11 = [s12.v]∧Rd m s12 e_10:=d11
    refine e_p (v:=(elP s5 (t_8.toNat * 1))) 2 hF rfl (ex_indexAddr Try.underlying23 sz28 rfl rfl (h5.idx he_10)) rfl rfl (by kernel_rfl) (by kernel_rfl) (by kernel_rfl) fun a hF=>e_xm (v:=s12.v) 3 hF hS (Mem.le.refl _) rfl (ex_loadE1 0 Try.underlying28 rfl rfl ((at11).at) rfl rfl) rfl rfl (by kernel_rfl) (by kernel_rfl) (by kernel_rfl) fun a hF=>e_p (v:=(iV t_9)) 4 hF rfl (ex_move rfl) rfl rfl (by kernel_rfl) (by kernel_rfl) (by kernel_rfl) fun a hF=>?_
    obtain ⟨e_13,he_13,hj3⟩:=bindS hj3
    obtain ⟨vs14,at14,d14⟩:=h12.at he_13 1 rfl
    obtain rfl : vs14 = [(iV e_13)]:=d14
    refine e_p (v:=(elP s12 (t_9.toNat * 1))) 5 hF rfl (ex_indexAddr Try.underlying28 sz3 rfl rfl (h12.idx he_13)) rfl rfl (by kernel_rfl) (by kernel_rfl) (by kernel_rfl) fun a hF=>e_xm (v:=(iV e_13)) 6 hF hS (Mem.le.refl _) rfl (ex_loadE1 0 Try.underlying3 rfl rfl ((at14).at) rfl rfl) rfl rfl (by kernel_rfl) (by kernel_rfl) (by kernel_rfl) fun a hF=>e_p (v:=(.pointer (some ⟨b6,3,none⟩))) 7 hF rfl (ex_fieldAddr Try.underlying50 rfl sz23 rfl rfl) rfl rfl (by kernel_rfl) (by kernel_rfl) (by kernel_rfl) fun a hF=>e_x (v:=s4.v) 8 hF hS rfl (ex_load1 0 0 Try.underlying23 rfl rfl rfl rfl) rfl rfl (by kernel_rfl) (by kernel_rfl) (by kernel_rfl) (by kernel_rfl) fun a hF=>e_p (v:=(iV t_8)) 9 hF rfl (ex_move rfl) rfl rfl (by kernel_rfl) (by kernel_rfl) (by kernel_rfl) fun a hF=>?_
    obtain ⟨e_15,he_15,hj3⟩:=bindS hj3
    obtain ⟨vs16,at16,d16⟩:=h4.at he_15 1 rfl
    obtain ⟨s17,rfl,h17⟩ : ∃ s17 : Sl,vs16 = [s17.v]∧Rd m s17 e_15:=d16
    refine e_p (v:=(elP s4 (t_8.toNat * 1))) 10 hF rfl (ex_indexAddr Try.underlying23 sz28 rfl rfl (h4.idx he_15)) rfl rfl (by kernel_rfl) (by kernel_rfl) (by kernel_rfl) fun a hF=>e_xm (v:=s17.v) 11 hF hS (Mem.le.refl _) rfl (ex_loadE1 0 Try.underlying28 rfl rfl ((at16).at) rfl rfl) rfl rfl (by kernel_rfl) (by kernel_rfl) (by kernel_rfl) fun a hF=>e_p (v:=(iV t_9)) 12 hF rfl (ex_move rfl) rfl rfl (by kernel_rfl) (by kernel_rfl) (by kernel_rfl) fun a hF=>?_
    obtain ⟨e_18,he_18,hj3⟩:=bindS hj3
    obtain ⟨vs19,at19,d19⟩:=h17.at he_18 1 rfl
    obtain rfl : vs19 = [(iV e_18)]:=d19
    refine e_p (v:=(elP s17 (t_9.toNat * 1))) 13 hF rfl (ex_indexAddr Try.underlying28 sz3 rfl rfl (h17.idx he_18)) rfl rfl (by kernel_rfl) (by kernel_rfl) (by kernel_rfl) fun a hF=>e_xm (v:=(iV e_18)) 14 hF hS (Mem.le.refl _) rfl (ex_loadE1 0 Try.underlying3 rfl rfl ((at19).at) rfl rfl) rfl rfl (by kernel_rfl) (by kernel_rfl) (by kernel_rfl) fun a hF=>e_p (v:=(.bool (e_13 == e_18))) 15 hF rfl (ex_ibin rfl rfl rfl) rfl rfl (by kernel_rfl) (by kernel_rfl) (by kernel_rfl) fun a hF=>e_end (by kernel_rfl) (n_sq ?_) _
    rcases bcase (e_13 == e_18) with hc4 | hc4
    ·have hj3:=cond_f hc4 hj3
     refine q_cond_f hF rfl hc4 (q_skipc (n_sq (q_seq (q_region (q_x (v:=(.agg #[s1.v,s2.v,s3.v,s4.v])) hF hS (ex_loadA (vs:=[s1.v,s2.v,s3.v,s4.v]) 0 0 Try.underlying50 rfl sz50 rfl rfl rfl rfl) rfl rfl fun a hF=>q_x (v:=s5.v) hF hS (ex_move rfl) rfl rfl fun a hF=>q_x (v:=(iV p_7)) hF hS (ex_move rfl) rfl rfl fun a hF=>?_)))))
     obtain ⟨t_20,ht_20,hj3⟩:=bindS hj3
     refine q_call (vs:=[(.agg #[s1.v,s2.v,s3.v,s4.v]),s5.v,(iV p_7)]) hF hS Try.func155 (by kernel_rfl) rfl rfl rfl (c_impl_residual p_t p_x p_7 t_20 ht_20 _ m hS.vis s1 h1 s2 h2 s3 h3 s4 h4 s5 h5) ?_
     rintro a w _ ⟨q22,s22,rfl,hR21,h22⟩ hF hS2
     have hS : St _ _ _ _ [q22,[⟨b6,[s1.v,s2.v,s3.v,s4.v],50⟩]]:=hS.joinF hR21
     refine q_x (v:=s22.v) hF hS (ex_assign rfl) rfl rfl fun a hF=>q_end (n_sq (q_seq (q_seq (q_region (q_x (v:=s22.v) hF hS (ex_move rfl) rfl rfl fun a hF=>q_x (v:=(iV (goLen p_t.Rows))) hF hS (ex_move rfl) rfl rfl fun a hF=>q_x (v:=(iV t_9)) hF hS (ex_move rfl) rfl rfl fun a hF=>q_x (v:=(iV (w64 ((goLen p_t.Rows) + t_9)))) hF hS (ex_ibin rfl rfl rfl) rfl rfl fun a hF=>q_x (v:=(iV t_8)) hF hS (ex_move rfl) rfl rfl fun a hF=>?_)))))
     have hS23 : St _ _ _ _ ([q22]++[[⟨b6,[s1.v,s2.v,s3.v,s4.v],50⟩]]):=hS
     have hE23:=hS23.enter
     obtain ⟨t_24,ht_24,hj3⟩:=bindS hj3
     refine q_do rfl fun _ hK=>wp_callX (vs:=[s22.v,(iV (w64 ((goLen p_t.Rows) + t_9))),(iV t_8),(iV 1)]) hF Try.func156 (by kernel_rfl) rfl rfl rfl (c_impl_push t_20 (w64 ((goLen p_t.Rows) + t_9)) t_8 1 t_24 ht_24 _ m s22 q22 h22 _ hE23) fun a w _ hR hF=>hK _ _ ?_
     obtain ⟨q25,rfl,hR23,h25⟩:=hR
     have hS : St _ _ _ _ [q25,[⟨b6,[s1.v,s2.v,s3.v,s4.v],50⟩]]:=hS23.leaveF hR23
     refine q_x (v:=(.bool (t_24.1 == 0))) hF hS (ex_ibin rfl rfl rfl) rfl rfl fun a hF=>q_end (n_sq ?_)
     rcases bcase (t_24.1 == 0) with hc5 | hc5
     ·have hj3:=cond_f hc5 hj3
      refine q_cond_f hF rfl hc5 (q_skipc (n_sq (q_seq (q_region (q_x (v:=(.agg #[s1.v,s2.v,s3.v,s4.v])) hF hS (ex_loadA (vs:=[s1.v,s2.v,s3.v,s4.v]) 1 0 Try.underlying50 rfl sz50 rfl rfl rfl rfl) rfl rfl fun a hF=>q_x (v:=s5.v) hF hS (ex_move rfl) rfl rfl fun a hF=>q_x (v:=s22.v) hF hS (ex_move rfl) rfl rfl fun a hF=>q_x (v:=(iV p_7)) hF hS (ex_move rfl) rfl rfl fun a hF=>?_)))))
      obtain ⟨m27,hl27,hv27,hz27⟩:=hS.lend
      obtain ⟨t_26,ht_26,hj3⟩:=bindS hj3
      refine q_call (vs:=[(.agg #[s1.v,s2.v,s3.v,s4.v]),s5.v,s22.v,(iV p_7)]) hF hS Try.func169 (by kernel_rfl) rfl rfl rfl (c_impl_restore p_t p_x t_24.2 p_7 t_26 ht_26 _ m27 hv27 s1 (h1.mono hl27) s2 (h2.mono hl27) s3 (h3.mono hl27) s4 (h4.mono hl27) s5 (h5.mono hl27) s22 (h25.froz hl27 (hz27 0 _ rfl))) ?_
      rintro a w _ ⟨q29,s29,rfl,hR28,h29,h29n⟩ hF hS2
      have hS : St _ _ _ _ [q29,q25,[⟨b6,[s1.v,s2.v,s3.v,s4.v],50⟩]]:=hS.joinF hR28
      have h29:=h29.any m
      refine q_x (v:=s29.v) hF hS (ex_assign rfl) rfl rfl fun a hF=>q_end (n_sq (q_seq (q_region (q_x (v:=s29.v) hF hS (ex_move rfl) rfl rfl fun a hF=>q_x (v:=(iV t_8)) hF hS (ex_move rfl) rfl rfl fun a hF=>?_))))
      obtain ⟨e_30,he_30,hj3⟩:=bindS hj3
      obtain ⟨s31,hV31⟩:=h29.view he_30
      refine q_x (v:=(elP s29 (t_8.toNat * 1))) hF hS (ex_indexAddr Try.underlying23 sz28 rfl rfl (h29.idx he_30)) rfl rfl fun a hF=>q_x (v:=s31.v) hF hS (ex_loadE1 0 Try.underlying28 rfl rfl ((hV31.atH he_30).at 0 rfl) rfl rfl) rfl rfl fun a hF=>q_x (v:=(iV t_9)) hF hS (ex_move rfl) rfl rfl fun a hF=>?_
      obtain ⟨e_32,he_32,hj3⟩:=bindS hj3
      obtain ⟨vs33,at33,d33⟩:=hV31.at he_30 he_32 1 rfl
      obtain rfl : vs33 = [(iV e_32)]:=d33
      refine q_x (v:=(elP s31 (t_9.toNat * 1))) hF hS (ex_indexAddr Try.underlying28 sz3 rfl rfl (hV31.idx he_30 he_32)) rfl rfl fun a hF=>q_x (v:=(iV e_32)) hF hS (ex_loadE1 0 Try.underlying3 rfl rfl (at33.at 0 rfl) rfl rfl) rfl rfl fun a hF=>q_x (v:=(iV (w64 (e_32 + 1)))) hF hS (ex_ibin rfl rfl rfl) rfl rfl fun a hF=>?_
      obtain ⟨e_34,he_34,hj3⟩:=bindS hj3
      obtain ⟨vs35,at35,d35⟩:=hV31.at he_30 he_34 1 rfl
      obtain rfl : vs35 = [(iV e_34)]:=d35
      refine q_x (v:=(elP s31 (t_9.toNat * 1))) hF hS (ex_indexAddr Try.underlying28 sz3 rfl rfl (hV31.idx he_30 he_34)) rfl rfl fun a hF=>q_do rfl fun _ hK=>wp_storeV (e':=(w64 (e_32 + 1))) (us:=[(iV (w64 (e_32 + 1)))]) (vs:=[(iV e_34)]) 0 hF hS hV31 he_30 sz3 rfl rfl rfl rfl rfl rfl rfl he_34 at35 rfl rfl rfl fun w q36 hS h36=>hK _ _ (q_end (n_sq (q_seq (q_region (q_x (v:=(.agg #[s1.v,s2.v,s3.v,s4.v])) hF hS (ex_loadA (vs:=[s1.v,s2.v,s3.v,s4.v]) 2 0 Try.underlying50 rfl sz50 rfl rfl rfl rfl) rfl rfl fun a hF=>q_x (v:=s29.v) hF hS (ex_move rfl) rfl rfl fun a hF=>q_x (v:=(iV p_7)) hF hS (ex_move rfl) rfl rfl fun a hF=>?_)))))
      have hS37 : St _ _ _ _ ([q36]++[q25,[⟨b6,[s1.v,s2.v,s3.v,s4.v],50⟩]]):=hS
      have hE37:=hS37.enter
      obtain ⟨t_38,ht_38,hj3⟩:=bindS hj3
      refine q_do rfl fun _ hK=>wp_callX (vs:=[(.agg #[s1.v,s2.v,s3.v,s4.v]),s29.v,(iV p_7)]) hF Try.func163 (by kernel_rfl) rfl rfl rfl (c_impl_firstFrom p_t (goSet t_26 t_8 (goSet e_30 t_9 (w64 (e_32 + 1)))) p_7 t_38 ht_38 _ m s1 h1 s2 h2 s3 h3 s4 h4 s29 q36 h36.own _ hE37) fun a w _ hR hF=>hK _ _ ?_
      obtain ⟨q39,s39,rfl,hR37,h39,h39n⟩:=hR
      have hS : St _ _ _ _ [q39,q25,[⟨b6,[s1.v,s2.v,s3.v,s4.v],50⟩]]:=hS37.leaveF hR37
      refine q_x (v:=s39.v) hF hS (ex_assign rfl) rfl rfl fun a hF=>q_end (n_sq (q_ret (r_ib (r_jn ?_))))
      obtain rfl:=someI hj3
      refine r_sq ?_
      obtain rfl:=someI hb1
      refine ⟨nofun,.inr fun ho=>?_⟩
      subst ho
      refine r_ib (r_sq ?_)
      obtain rfl:=someI hr
      exact ret_of hF hS rfl (.tmp rfl .nil) ⟨q39,s39,rfl,hS.sel [0] (by decide),h39,h39n⟩
     ·have hj3:=cond_t hc5 hj3
      refine q_cond_t hF rfl hc5 (q_exit (x_sq (x_ib (n_jn ?_))))
      obtain rfl:=someI hj3
      exact ⟨rfl,hF.sub ⟨rfl,rfl,rfl,rfl,rfl,trivial⟩,hS.mask [false,true]⟩
    ·have hj3:=cond_t hc4 hj3
     refine q_cond_t hF rfl hc4 (q_exit (x_sq (x_ib (n_jn ?_))))
     obtain rfl:=someI hj3
     exact ⟨rfl,hF.sub ⟨rfl,rfl,rfl,rfl,rfl,trivial⟩,hS⟩
   ·rintro a w ⟨rfl,hF,hS⟩
    refine n_sq ?_
    refine q_region (q_x (v:=(iV p_7)) hF hS (ex_move rfl) rfl rfl fun a hF=>q_x (v:=(iV (w64 (p_7 - 1)))) hF hS (ex_ibin rfl rfl rfl) rfl rfl fun a hF=>q_x (v:=(iV (w64 (p_7 - 1)))) hF hS (ex_assign rfl) rfl rfl fun a hF=>q_end ?_)
    obtain rfl:=someI hb1
    exact ⟨rfl,hF.sub ⟨rfl,rfl,rfl,rfl,rfl,trivial⟩,hS⟩
 ·rintro e a w ⟨rfl,rfl,hF,hS⟩
  refine x_ib (n_sq ?_)
  refine q_seq (q_region (q_x (v:=nilS.v) hF hS (ex_assign rfl) rfl rfl fun a hF=>q_end (n_sq (q_ret ?_))))
  obtain rfl:=someI hr
  exact ret_of hF hS rfl (.tmp rfl .nil) ⟨[],nilS,rfl,hS.sel [0] (by decide),(OwnD.nil (β:=Int) m 28 3),(NF.nil)⟩

theorem c_impl_NextFlow (p_t : impl_Transport) (p_x : List (List Int)) (r : (List (List Int)) × Bool) (hr : impl_NextFlow p_t p_x = some r) (w0 : World) (m : Mem) (hv : Vis m w0) (s1 : Sl) (h1 : Rd m s1 p_t.Rows) (s2 : Sl) (h2 : Rd m s2 p_t.Cols) (s3 : Sl) (h3 : Rd m s3 p_t.Lo) (s4 : Sl) (h4 : Rd m s4 p_t.Hi) (s5 : Sl) (h5 : Rd m s5 p_x) :
  Ret Try.prog 49 [(.agg #[s1.v,s2.v,s3.v,s4.v]),s5.v] w0 (fun v w=>∃ (q0' : Piece) (s0' : Sl),v = (.tuple #[s0'.v,(.bool r.2)])∧St [] w0 w m [q0']∧OwnD m 28 3 q0' s0' r.1∧NF s0' r.1):=by
 unfold impl_NextFlow at hr
 refine ret_start Try.func49 rfl 27 rfl rfl m hv fun a hF hS=>q_seq (q_region (q_box (cs:=[s1.v,s2.v,s3.v,s4.v]) hF hS rfl rfl rfl fun a w b6 hF hS=>q_x (v:=nilS.v) hF hS (ex_assign rfl) rfl rfl fun a hF=>q_x (v:=(.bool false)) hF hS (ex_assign rfl) rfl rfl fun a hF=>q_end (n_sq (q_seq (q_seq (q_region (q_x (v:=(.agg #[s1.v,s2.v,s3.v,s4.v])) hF hS (ex_loadA (vs:=[s1.v,s2.v,s3.v,s4.v]) 0 0 Try.underlying50 rfl sz50 rfl rfl rfl rfl) rfl rfl fun a hF=>q_x (v:=s5.v) hF hS (ex_move rfl) rfl rfl fun a hF=>?_)))))))
 obtain ⟨t_7,ht_7,hr⟩:=bindS hr
 refine q_call (vs:=[(.agg #[s1.v,s2.v,s3.v,s4.v]),s5.v]) hF hS Try.func31 (by kernel_rfl) rfl rfl rfl (c_impl_IsFlow p_t p_x t_7 ht_7 _ m hS.vis s1 h1 s2 h2 s3 h3 s4 h4 s5 h5) ?_
 rintro a w _ rfl hF hS
 refine q_x (v:=(.tuple #[(.bool t_7.1),(.bool t_7.2)])) hF hS (ex_move rfl) rfl rfl fun a hF=>q_x (v:=(.bool t_7.1)) hF hS (ex_extract rfl rfl) rfl rfl fun a hF=>q_x (v:=(.bool t_7.2)) hF hS (ex_extract rfl rfl) rfl rfl fun a hF=>q_x (v:=(.bool t_7.1)) hF hS (ex_assign rfl) rfl rfl fun a hF=>q_x (v:=(.bool t_7.2)) hF hS (ex_assign rfl) rfl rfl fun a hF=>q_end (n_sq (q_seq ?_))
 obtain ⟨t_8,hj1,hr⟩:=bindS hr
 refine q_join (fun a w=>Fr a 27 [(1,s5.v),(2,(.pointer (some ⟨b6,0,none⟩))),(20,(.bool t_8))]∧St [] w0 w m [[⟨b6,[s1.v,s2.v,s3.v,s4.v],50⟩]]) ?_ ?_
 ·refine q_region (q_x (v:=(.bool t_7.1)) hF hS (ex_move rfl) rfl rfl fun a hF=>q_x (v:=(.bool (!t_7.1))) hF hS (ex_not rfl) rfl rfl fun a hF=>q_x (v:=(.bool (!t_7.1))) hF hS (ex_move rfl) rfl rfl fun a hF=>?_)
  rcases bcase (!t_7.1) with hc2 | hc2
  ·have hj1:=cond_f hc2 hj1
   refine q_xg (v:=(.bool t_7.2)) hF hS (ex_move rfl) (wanted_t hF rfl rfl rfl hc2) rfl fun a hF=>q_xg (v:=(.bool (!t_7.2))) hF hS (ex_not rfl) (wanted_t hF rfl rfl rfl hc2) rfl fun a hF=>q_x (v:=(.bool (!t_7.2))) hF hS (ex_pick_f rfl rfl hc2) rfl rfl fun a hF=>q_end (n_jn ?_)
   obtain rfl:=someI hj1
   exact ⟨hF.sub ⟨rfl,rfl,rfl,trivial⟩,hS⟩
  ·have hj1:=cond_t hc2 hj1
   refine q_skip hF (wanted_f hF rfl rfl rfl hc2 rfl) rfl fun a hF=>q_skip hF (wanted_f hF rfl rfl rfl hc2 rfl) rfl fun a hF=>q_x (v:=(.bool true)) hF hS (ex_pick_t rfl rfl hc2) rfl rfl fun a hF=>q_end (n_jn ?_)
   obtain rfl:=someI hj1
   exact ⟨hF.sub ⟨rfl,rfl,rfl,trivial⟩,hS⟩
 ·rintro a w ⟨hF,hS⟩
  refine n_sq ?_
  rcases bcase (t_8) with hc3 | hc3
  ·have hr:=cond_f hc3 hr
   refine q_cond_f hF rfl hc3 (q_skipc (n_sq (q_seq (q_region (q_x (v:=(.agg #[s1.v,s2.v,s3.v,s4.v])) hF hS (ex_loadA (vs:=[s1.v,s2.v,s3.v,s4.v]) 0 0 Try.underlying50 rfl sz50 rfl rfl rfl rfl) rfl rfl fun a hF=>q_x (v:=s5.v) hF hS (ex_move rfl) rfl rfl fun a hF=>?_)))))
   obtain ⟨t_9,ht_9,hr⟩:=bindS hr
   refine q_call (vs:=[(.agg #[s1.v,s2.v,s3.v,s4.v]),s5.v]) hF hS Try.func125 (by kernel_rfl) rfl rfl rfl (c_impl_nextFlow p_t p_x t_9 ht_9 _ m hS.vis s1 h1 s2 h2 s3 h3 s4 h4 s5 h5) ?_
   rintro a w _ ⟨q11,s11,rfl,hR10,h11,h11n⟩ hF hS2
   have hS : St _ _ _ _ [q11,[⟨b6,[s1.v,s2.v,s3.v,s4.v],50⟩]]:=hS.joinF hR10
   refine q_x (v:=s11.v) hF hS (ex_assign rfl) rfl rfl fun a hF=>q_end (n_sq (q_seq (q_region (q_x (v:=s11.v) hF hS (ex_move rfl) rfl rfl fun a hF=>q_x (v:=s11.v) hF hS (ex_move rfl) rfl rfl fun a hF=>q_x (v:=(.bool (!t_9.isEmpty))) hF hS (ex_neNilF Try.underlying23 h11n h11.nilE rfl rfl) rfl rfl fun a hF=>q_x (v:=s11.v) hF hS (ex_assign rfl) rfl rfl fun a hF=>q_x (v:=(.bool (!t_9.isEmpty))) hF hS (ex_assign rfl) rfl rfl fun a hF=>q_end (n_sq (q_ret ?_))))))
   obtain rfl:=someI hr
   exact ret_of hF hS rfl (.tmp rfl (.tmp rfl .nil)) ⟨q11,s11,rfl,hS.sel [0] (by decide),h11,h11n⟩
  ·have hr:=cond_t hc3 hr
   refine q_cond_t hF rfl hc3 (q_seq (q_region (q_x (v:=nilS.v) hF hS (ex_assign rfl) rfl rfl fun a hF=>q_x (v:=(.bool false)) hF hS (ex_assign rfl) rfl rfl fun a hF=>q_end (n_sq (q_ret (r_sq ?_))))))
   obtain rfl:=someI hr
   exact ret_of hF hS rfl (.tmp rfl (.tmp rfl .nil)) ⟨[],nilS,rfl,hS.sel [1] (by decide),(OwnD.nil (β:=Int) m 28 3),(NF.nil)⟩

theorem c_spec_tFits (p_t : impl_Transport) (p_x : List (List Int)) (r : Bool) (hr : spec_tFits p_t p_x = some r) (w0 : World) (m : Mem) (hv : Vis m w0) (s1 : Sl) (h1 : Rd m s1 p_t.Rows) (s2 : Sl) (h2 : Rd m s2 p_t.Cols) (s3 : Sl) (h3 : Rd m s3 p_t.Lo) (s4 : Sl) (h4 : Rd m s4 p_t.Hi) (s5 : Sl) (h5 : Rd m s5 p_x) :
  Ret Try.prog 126 [(.agg #[s1.v,s2.v,s3.v,s4.v]),s5.v] w0 (fun v _=>v = (.bool r)):=by
 unfold spec_tFits at hr
 refine ret_start Try.func126 rfl 73 rfl rfl m hv fun a hF hS=>q_seq (q_region (q_box (cs:=[s1.v,s2.v,s3.v,s4.v]) hF hS rfl rfl rfl fun a w b6 hF hS=>q_x (v:=(.bool false)) hF hS (ex_assign rfl) rfl rfl fun a hF=>q_end (n_sq (q_seq (q_seq (q_region (q_x (v:=(.agg #[s1.v,s2.v,s3.v,s4.v])) hF hS (ex_loadA (vs:=[s1.v,s2.v,s3.v,s4.v]) 0 0 Try.underlying50 rfl sz50 rfl rfl rfl rfl) rfl rfl fun a hF=>q_x (v:=s5.v) hF hS (ex_move rfl) rfl rfl fun a hF=>?_)))))))
 obtain ⟨t_7,ht_7,hr⟩:=bindS hr
 refine q_call (vs:=[(.agg #[s1.v,s2.v,s3.v,s4.v]),s5.v]) hF hS Try.func167 (by kernel_rfl) rfl rfl rfl (c_spec_tSize p_t p_x t_7 ht_7 _ m hS.vis s1 h1 s2 h2 s3 h3 s4 h4 s5 h5) ?_
 rintro a w _ rfl hF hS
 refine q_x (v:=(.bool (!t_7))) hF hS (ex_not rfl) rfl rfl fun a hF=>q_end (n_sq ?_)
 rcases bcase (!t_7) with hc1 | hc1
 ·have hr:=cond_f hc1 hr
  refine q_cond_f hF rfl hc1 (q_skipc (n_sq (q_seq (q_seq (q_region (q_x (v:=s5.v) hF hS (ex_move rfl) rfl rfl fun a hF=>q_x (v:=(iV (goLen p_x))) hF hS (ex_len Try.underlying23 rfl h5.len) rfl rfl fun a hF=>q_x (v:=(iV 0)) hF hS (ex_move rfl) rfl rfl fun a hF=>q_end (n_sq (q_block ?_))))))))
  obtain ⟨o2,hl2,hr⟩:=bindS hr
  refine q_loop (fun (t_8 : Int) a w=>Fr a 73 [(1,s5.v),(2,(.pointer (some ⟨b6,0,none⟩))),(15,s5.v),(16,(iV (goLen p_x))),(17,(iV t_8))]∧St [] w0 w m [[⟨b6,[s1.v,s2.v,s3.v,s4.v],50⟩]]) (fun (o : (Unit) ⊕ (Bool)) e a w=>o = .inl ()∧e = .exit 0∧Fr a 73 [(1,s5.v),(2,(.pointer (some ⟨b6,0,none⟩)))]∧St [] w0 w m [[⟨b6,[s1.v,s2.v,s3.v,s4.v],50⟩]]) hl2 ⟨hF.sub ⟨rfl,rfl,rfl,rfl,rfl,trivial⟩,hS⟩ ?_ ?_
  ·clear hF hS
   rintro t_8 a w st ⟨hF,hS⟩ hb2
   unfold spec_tFits_l1 at hb2
   refine q_seq (q_region (q_x (v:=(.bool (decide (t_8 < (goLen p_x))))) hF hS (ex_ibin rfl rfl rfl) rfl rfl fun a hF=>q_end (n_sq (q_seq ?_))))
   rcases bcase (decide (t_8 < (goLen p_x))) with hc3 | hc3
   ·have hb2:=cond_f hc3 hb2
    refine q_cond_f hF rfl hc3 (q_exit (x_sq ?_))
    obtain rfl:=someI hb2
    exact ⟨nofun,.inl ⟨rfl,rfl,hF.sub ⟨rfl,rfl,trivial⟩,hS⟩⟩
   ·have hb2:=cond_t hc3 hb2
    refine q_cond_t hF rfl hc3 (q_skipc (n_sq (q_seq (q_block (q_seq (q_region (q_x (v:=(iV t_8)) hF hS (ex_move rfl) rfl rfl fun a hF=>?_)))))))
    obtain ⟨e_9,he_9,hb2⟩:=bindS hb2
    obtain ⟨vs10,at10,d10⟩:=h5.at he_9 1 rfl
    obtain ⟨s11,rfl,h11⟩ : ∃ s11 : Sl,vs10 = [s11.v]∧Rd m s11 e_9:=d10
    refine q_x (v:=(elP s5 (t_8.toNat * 1))) hF hS (ex_indexAddr Try.underlying23 sz28 rfl rfl (h5.idx he_9)) rfl rfl fun a hF=>q_x (v:=s11.v) hF hS (ex_loadE1 0 Try.underlying28 rfl rfl ((at10).at) rfl rfl) rfl rfl fun a hF=>q_x (v:=(iV t_8)) hF hS (ex_assign rfl) rfl rfl fun a hF=>q_x (v:=s11.v) hF hS (ex_assign rfl) rfl rfl fun a hF=>q_end (n_sq (q_seq (q_seq (q_region (q_x (v:=s11.v) hF hS (ex_move rfl) rfl rfl fun a hF=>q_x (v:=(iV (goLen e_9))) hF hS (ex_len Try.underlying28 rfl h11.len) rfl rfl fun a hF=>q_x (v:=(iV 0)) hF hS (ex_move rfl) rfl rfl fun a hF=>q_end (n_sq (q_block ?_)))))))
    obtain ⟨o4,hl4,hb2⟩:=bindS hb2
    refine q_loop (fun (t_12 : Int) a w=>Fr a 73 [(1,s5.v),(2,(.pointer (some ⟨b6,0,none⟩))),(5,(iV t_8)),(6,s11.v),(15,s5.v),(16,(iV (goLen p_x))),(17,(iV t_8)),(22,s11.v),(23,(iV (goLen e_9))),(24,(iV t_12))]∧St [] w0 w m [[⟨b6,[s1.v,s2.v,s3.v,s4.v],50⟩]]) (fun (o : (Unit) ⊕ (Stp (Int) ((Unit) ⊕ (Bool)))) e a w=>o = .inl ()∧e = .exit 2∧Fr a 73 [(1,s5.v),(2,(.pointer (some ⟨b6,0,none⟩))),(5,(iV t_8)),(6,s11.v),(15,s5.v),(16,(iV (goLen p_x))),(17,(iV t_8))]∧St [] w0 w m [[⟨b6,[s1.v,s2.v,s3.v,s4.v],50⟩]]) hl4 ⟨hF.sub ⟨rfl,rfl,rfl,rfl,rfl,rfl,rfl,rfl,rfl,rfl,trivial⟩,hS⟩ ?_ ?_
    ·clear hF hS
     rintro t_12 a w st ⟨hF,hS⟩ hb4
     unfold spec_tFits_l2 at hb4
     refine q_seq (q_region (q_x (v:=(.bool (decide (t_12 < (goLen e_9))))) hF hS (ex_ibin rfl rfl rfl) rfl rfl fun a hF=>q_end (n_sq (q_seq ?_))))
     rcases bcase (decide (t_12 < (goLen e_9))) with hc5 | hc5
     ·have hb4:=cond_f hc5 hb4
      refine q_cond_f hF rfl hc5 (q_exit (x_sq ?_))
      obtain rfl:=someI hb4
      exact ⟨nofun,.inl ⟨rfl,rfl,hF.sub ⟨rfl,rfl,rfl,rfl,rfl,rfl,rfl,trivial⟩,hS⟩⟩
     ·have hb4:=cond_t hc5 hb4
      refine q_cond_t hF rfl hc5 (q_skipc (n_sq (q_seq (q_block (q_seq (q_region (q_x (v:=(iV t_12)) hF hS (ex_move rfl) rfl rfl fun a hF=>?_)))))))
      obtain ⟨e_13,he_13,hb4⟩:=bindS hb4
      obtain ⟨vs14,at14,d14⟩:=h11.at he_13 1 rfl
      obtain rfl : vs14 = [(iV e_13)]:=d14
      refine q_x (v:=(elP s11 (t_12.toNat * 1))) hF hS (ex_indexAddr Try.underlying28 sz3 rfl rfl (h11.idx he_13)) rfl rfl fun a hF=>q_x (v:=(iV e_13)) hF hS (ex_loadE1 0 Try.underlying3 rfl rfl ((at14).at) rfl rfl) rfl rfl fun a hF=>q_x (v:=(iV t_12)) hF hS (ex_assign rfl) rfl rfl fun a hF=>q_x (v:=(iV e_13)) hF hS (ex_assign rfl) rfl rfl fun a hF=>q_end (n_sq (q_seq (e_region ⟨[],[],m⟩ mixed fun w' hw'=>?_)))
      have hS:=hS.below hw'
      refine e_p (v:=(iV e_13)) 0 hF rfl (ex_move rfl) rfl rfl (by kernel_rfl) (by kernel_rfl) (by kernel_rfl) fun a hF=>e_p (v:=(.pointer (some ⟨b6,2,none⟩))) 1 hF rfl (ex_fieldAddr Try.underlying50 rfl sz23 rfl rfl) rfl rfl (by kernel_rfl) (by kernel_rfl) (by kernel_rfl) fun a hF=>e_x (v:=s3.v) 2 hF hS rfl (ex_load1 0 0 Try.underlying23 rfl rfl rfl rfl) rfl rfl (by kernel_rfl) (by kernel_rfl) (by kernel_rfl) (by kernel_rfl) fun a hF=>e_p (v:=(iV t_8)) 3 hF rfl (ex_move rfl) rfl rfl (by kernel_rfl) (by kernel_rfl) (by kernel_rfl) fun a hF=>?_
      obtain ⟨e_15,he_15,hb4⟩:=bindS hb4
      obtain ⟨vs16,at16,d16⟩:=h3.at he_15 1 rfl
      obtain ⟨s17,rfl,h17⟩ : ∃ s17 : Sl,vs16 = [s17.v]∧Rd m s17 e_15:=d16
      refine e_p (v:=(elP s3 (t_8.toNat * 1))) 4 hF rfl (ex_indexAddr Try.underlying23 sz28 rfl rfl (h3.idx he_15)) rfl rfl (by kernel_rfl) (by kernel_rfl) (by kernel_rfl) fun a hF=>e_xm (v:=s17.v) 5 hF hS (Mem.le.refl _) rfl (ex_loadE1 0 Try.underlying28 rfl rfl ((at16).at) rfl rfl) rfl rfl (by kernel_rfl) (by kernel_rfl) (by kernel_rfl) fun a hF=>e_p (v:=(iV t_12)) 6 hF rfl (ex_move rfl) rfl rfl (by kernel_rfl) (by kernel_rfl) (by kernel_rfl) fun a hF=>?_
      obtain ⟨e_18,he_18,hb4⟩:=bindS hb4
      obtain ⟨vs19,at19,d19⟩:=h17.at he_18 1 rfl
      obtain rfl : vs19 = [(iV e_18)]:=d19
      refine e_p (v:=(elP s17 (t_12.toNat * 1))) 7 hF rfl (ex_indexAddr Try.underlying28 sz3 rfl rfl (h17.idx he_18)) rfl rfl (by kernel_rfl) (by kernel_rfl) (by kernel_rfl) fun a hF=>e_xm (v:=(iV e_18)) 8 hF hS (Mem.le.refl _) rfl (ex_loadE1 0 Try.underlying3 rfl rfl ((at19).at) rfl rfl) rfl rfl (by kernel_rfl) (by kernel_rfl) (by kernel_rfl) fun a hF=>e_p (v:=(.pointer (some ⟨b6,3,none⟩))) 9 hF rfl (ex_fieldAddr Try.underlying50 rfl sz23 rfl rfl) rfl rfl (by kernel_rfl) (by kernel_rfl) (by kernel_rfl) fun a hF=>e_x (v:=s4.v) 10 hF hS rfl (ex_load1 0 0 Try.underlying23 rfl rfl rfl rfl) rfl rfl (by kernel_rfl) (by kernel_rfl) (by kernel_rfl) (by kernel_rfl) fun a hF=>e_p (v:=(iV t_8)) 11 hF rfl (ex_move rfl) rfl rfl (by kernel_rfl) (by kernel_rfl) (by kernel_rfl) fun a hF=>?_
      obtain ⟨e_20,he_20,hb4⟩:=bindS hb4
      obtain ⟨vs21,at21,d21⟩:=h4.at he_20 1 rfl
      obtain ⟨s22,rfl,h22⟩ : ∃ s22 : Sl,vs21 = [s22.v]∧Rd m s22 e_20:=d21
      refine e_p (v:=(elP s4 (t_8.toNat * 1))) 12 hF rfl (ex_indexAddr Try.underlying23 sz28 rfl rfl (h4.idx he_20)) rfl rfl (by kernel_rfl) (by kernel_rfl) (by kernel_rfl) fun a hF=>e_xm (v:=s22.v) 13 hF hS (Mem.le.refl _) rfl (ex_loadE1 0 Try.underlying28 rfl rfl ((at21).at) rfl rfl) rfl rfl (by kernel_rfl) (by kernel_rfl) (by kernel_rfl) fun a hF=>e_p (v:=(iV t_12)) 14 hF rfl (ex_move rfl) rfl rfl (by kernel_rfl) (by kernel_rfl) (by kernel_rfl) fun a hF=>?_
      obtain ⟨e_23,he_23,hb4⟩:=bindS hb4
      obtain ⟨vs24,at24,d24⟩:=h22.at he_23 1 rfl
      obtain rfl : vs24 = [(iV e_23)]:=d24
      refine e_p (v:=(elP s22 (t_12.toNat * 1))) 15 hF rfl (ex_indexAddr Try.underlying28 sz3 rfl rfl (h22.idx he_23)) rfl rfl (by kernel_rfl) (by kernel_rfl) (by kernel_rfl) fun a hF=>e_xm (v:=(iV e_23)) 16 hF hS (Mem.le.refl _) rfl (ex_loadE1 0 Try.underlying3 rfl rfl ((at24).at) rfl rfl) rfl rfl (by kernel_rfl) (by kernel_rfl) (by kernel_rfl) fun a hF=>e_one 17 (by kernel_rfl) ?_
      obtain ⟨t_25,ht_25,hb4⟩:=bindS hb4
      refine e_call (vs:=[(iV e_13),(iV e_18),(iV e_23)]) hF hS rfl Try.func77 (by kernel_rfl) rfl rfl rfl (c_spec_l1In e_13 e_18 e_23 t_25 ht_25 _ m hS.vis) ?_
      rintro a w _ rfl hF hS
      refine e_p (v:=(.bool (!t_25))) 18 hF rfl (ex_not rfl) rfl rfl (by kernel_rfl) (by kernel_rfl) (by kernel_rfl) fun a hF=>e_end (by kernel_rfl) (n_sq ?_) _
      rcases bcase (!t_25) with hc6 | hc6
      ·have hb4:=cond_f hc6 hb4
       refine q_cond_f hF rfl hc6 (q_skipc (n_ib (n_sq (q_region (q_x (v:=(iV (w64 (t_12 + 1)))) hF hS (ex_ibin rfl rfl rfl) rfl rfl fun a hF=>q_x (v:=(iV (w64 (t_12 + 1)))) hF hS (ex_move rfl) rfl rfl fun a hF=>q_end ?_)))))
       obtain rfl:=someI hb4
       exact ⟨rfl,hF.sub ⟨rfl,rfl,rfl,rfl,rfl,rfl,rfl,rfl,rfl,rfl,trivial⟩,hS⟩
      ·have hb4:=cond_t hc6 hb4
       refine q_cond_t hF rfl hc6 (q_seq (q_region (q_x (v:=(.bool false)) hF hS (ex_assign rfl) rfl rfl fun a hF=>q_end (n_sq (q_ret (r_ib (r_sq ?_)))))))
       obtain rfl:=someI hb4
       refine ⟨nofun,.inr fun ho=>?_⟩
       subst ho
       refine r_ib (r_sq (r_ib (r_sq ?_)))
       obtain rfl:=someI hb2
       refine ⟨nofun,.inr fun ho=>?_⟩
       subst ho
       refine r_ib (r_sq ?_)
       obtain rfl:=someI hr
       exact ret_of hF hS rfl (.tmp rfl .nil) rfl
    ·rintro e a w ⟨rfl,rfl,hF,hS⟩
     refine x_ib (n_sq ?_)
     refine q_seq (e_region ⟨[],[],m⟩ mixed fun w' hw'=>?_)
     have hS:=hS.below hw'
     refine e_p (v:=s11.v) 0 hF rfl (ex_move rfl) rfl rfl (by kernel_rfl) (by kernel_rfl) (by kernel_rfl) fun a hF=>e_p (v:=(.pointer (some ⟨b6,0,none⟩))) 2 hF rfl (ex_fieldAddr Try.underlying50 rfl sz28 rfl rfl) rfl rfl (by kernel_rfl) (by kernel_rfl) (by kernel_rfl) fun a hF=>e_x (v:=s1.v) 3 hF hS rfl (ex_load1 0 0 Try.underlying28 rfl rfl rfl rfl) rfl rfl (by kernel_rfl) (by kernel_rfl) (by kernel_rfl) (by kernel_rfl) fun a hF=>e_p (v:=(iV t_8)) 4 hF rfl (ex_move rfl) rfl rfl (by kernel_rfl) (by kernel_rfl) (by kernel_rfl) fun a hF=>?_
     obtain ⟨e_30,he_30,hb2⟩:=bindS hb2
     obtain ⟨vs31,at31,d31⟩:=h1.at he_30 1 rfl
     obtain rfl : vs31 = [(iV e_30)]:=d31
     refine e_p (v:=(elP s1 (t_8.toNat * 1))) 5 hF rfl (ex_indexAddr Try.underlying28 sz3 rfl rfl (h1.idx he_30)) rfl rfl (by kernel_rfl) (by kernel_rfl) (by kernel_rfl) fun a hF=>e_xm (v:=(iV e_30)) 6 hF hS (Mem.le.refl _) rfl (ex_loadE1 0 Try.underlying3 rfl rfl ((at31).at) rfl rfl) rfl rfl (by kernel_rfl) (by kernel_rfl) (by kernel_rfl) fun a hF=>e_one 1 (by kernel_rfl) ?_
     obtain ⟨t_33,ht_33,hb2⟩:=bindS hb2
     refine e_call (vs:=[s11.v]) hF hS rfl Try.func83 (by kernel_rfl) rfl rfl rfl (c_spec_tSum e_9 t_33 ht_33 _ m hS.vis s11 h11) ?_
     rintro a w _ rfl hF hS
     refine e_p (v:=(.bool (t_33 != e_30))) 7 hF rfl (ex_ibin rfl rfl rfl) rfl rfl (by kernel_rfl) (by kernel_rfl) (by kernel_rfl) fun a hF=>e_end (by kernel_rfl) (n_sq ?_) _
     rcases bcase (t_33 != e_30) with hc7 | hc7
     ·have hb2:=cond_f hc7 hb2
      refine q_cond_f hF rfl hc7 (q_skipc (n_ib (n_sq (q_region (q_x (v:=(iV (w64 (t_8 + 1)))) hF hS (ex_ibin rfl rfl rfl) rfl rfl fun a hF=>q_x (v:=(iV (w64 (t_8 + 1)))) hF hS (ex_move rfl) rfl rfl fun a hF=>q_end ?_)))))
      obtain rfl:=someI hb2
      exact ⟨rfl,hF.sub ⟨rfl,rfl,rfl,rfl,rfl,trivial⟩,hS⟩
     ·have hb2:=cond_t hc7 hb2
      refine q_cond_t hF rfl hc7 (q_seq (q_region (q_x (v:=(.bool false)) hF hS (ex_assign rfl) rfl rfl fun a hF=>q_end (n_sq (q_ret (r_ib (r_sq ?_)))))))
      obtain rfl:=someI hb2
      refine ⟨nofun,.inr fun ho=>?_⟩
      subst ho
      refine r_ib (r_sq ?_)
      obtain rfl:=someI hr
      exact ret_of hF hS rfl (.tmp rfl .nil) rfl
  ·rintro e a w ⟨rfl,rfl,hF,hS⟩
   refine x_ib (n_sq ?_)
   refine q_seq (q_seq (q_region (q_x (v:=(.pointer (some ⟨b6,1,none⟩))) hF hS (ex_fieldAddr Try.underlying50 rfl sz28 rfl rfl) rfl rfl fun a hF=>q_x (v:=s2.v) hF hS (ex_load1 0 0 Try.underlying28 rfl rfl rfl rfl) rfl rfl fun a hF=>q_x (v:=(iV (goLen p_t.Cols))) hF hS (ex_len Try.underlying28 rfl h2.len) rfl rfl fun a hF=>q_x (v:=(iV 0)) hF hS (ex_move rfl) rfl rfl fun a hF=>q_end (n_sq (q_block ?_)))))
   obtain ⟨o8,hl8,hr⟩:=bindS hr
   refine q_loop (fun (t_34 : Int) a w=>Fr a 73 [(1,s5.v),(59,s2.v),(60,(iV (goLen p_t.Cols))),(61,(iV t_34))]∧St [] w0 w m []) (fun (o : (Unit) ⊕ (Bool)) e a w=>o = .inl ()∧e = .exit 4∧Fr a 73 []∧St [] w0 w m []) hl8 ⟨hF.sub ⟨rfl,rfl,rfl,rfl,trivial⟩,hS.mask [false]⟩ ?_ ?_
   ·clear hF hS
    rintro t_34 a w st ⟨hF,hS⟩ hb8
    unfold spec_tFits_l3 at hb8
    refine q_seq (q_region (q_x (v:=(.bool (decide (t_34 < (goLen p_t.Cols))))) hF hS (ex_ibin rfl rfl rfl) rfl rfl fun a hF=>q_end (n_sq (q_seq ?_))))
    rcases bcase (decide (t_34 < (goLen p_t.Cols))) with hc9 | hc9
    ·have hb8:=cond_f hc9 hb8
     refine q_cond_f hF rfl hc9 (q_exit (x_sq ?_))
     obtain rfl:=someI hb8
     exact ⟨nofun,.inl ⟨rfl,rfl,hF.sub trivial,hS⟩⟩
    ·have hb8:=cond_t hc9 hb8
     refine q_cond_t hF rfl hc9 (q_skipc (n_sq (q_seq (q_block (q_seq (q_region (q_x (v:=(iV t_34)) hF hS (ex_move rfl) rfl rfl fun a hF=>?_)))))))
     obtain ⟨e_35,he_35,hb8⟩:=bindS hb8
     obtain ⟨vs36,at36,d36⟩:=h2.at he_35 1 rfl
     obtain rfl : vs36 = [(iV e_35)]:=d36
     refine q_x (v:=(elP s2 (t_34.toNat * 1))) hF hS (ex_indexAddr Try.underlying28 sz3 rfl rfl (h2.idx he_35)) rfl rfl fun a hF=>q_x (v:=(iV e_35)) hF hS (ex_loadE1 0 Try.underlying3 rfl rfl ((at36).at) rfl rfl) rfl rfl fun a hF=>q_x (v:=(iV t_34)) hF hS (ex_assign rfl) rfl rfl fun a hF=>q_x (v:=(iV e_35)) hF hS (ex_assign rfl) rfl rfl fun a hF=>q_end (n_sq (q_seq (q_region (q_x (v:=s5.v) hF hS (ex_move rfl) rfl rfl fun a hF=>q_x (v:=(iV t_34)) hF hS (ex_move rfl) rfl rfl fun a hF=>?_))))
     obtain ⟨t_37,ht_37,hb8⟩:=bindS hb8
     refine q_call (vs:=[s5.v,(iV t_34)]) hF hS Try.func162 (by kernel_rfl) rfl rfl rfl (c_spec_tColumn p_x t_34 t_37 ht_37 _ m hS.vis s5 h5) ?_
     rintro a w _ ⟨q39,s39,rfl,hR38,h39⟩ hF hS2
     have hS : St _ _ _ _ [q39]:=hS.joinF hR38
     obtain ⟨m41,hl41,hv41,hz41⟩:=hS.lend
     obtain ⟨t_40,ht_40,hb8⟩:=bindS hb8
     refine q_call (vs:=[s39.v]) hF hS Try.func83 (by kernel_rfl) rfl rfl rfl (c_spec_tSum t_37 t_40 ht_40 _ m41 hv41 s39 (h39.froz hl41 (hz41 0 _ rfl))) ?_
     rintro a w _ rfl hF hS
     refine q_x (v:=(iV e_35)) hF hS (ex_move rfl) rfl rfl fun a hF=>q_x (v:=(.bool (t_40 != e_35))) hF hS (ex_ibin rfl rfl rfl) rfl rfl fun a hF=>q_end (n_sq ?_)
     rcases bcase (t_40 != e_35) with hc10 | hc10
     ·have hb8:=cond_f hc10 hb8
      refine q_cond_f hF rfl hc10 (q_skipc (n_ib (n_sq (q_region (q_x (v:=(iV (w64 (t_34 + 1)))) hF hS (ex_ibin rfl rfl rfl) rfl rfl fun a hF=>q_x (v:=(iV (w64 (t_34 + 1)))) hF hS (ex_move rfl) rfl rfl fun a hF=>q_end ?_)))))
      obtain rfl:=someI hb8
      exact ⟨rfl,hF.sub ⟨rfl,rfl,rfl,rfl,trivial⟩,hS.mask [false]⟩
     ·have hb8:=cond_t hc10 hb8
      refine q_cond_t hF rfl hc10 (q_seq (q_region (q_x (v:=(.bool false)) hF hS (ex_assign rfl) rfl rfl fun a hF=>q_end (n_sq (q_ret (r_ib (r_sq ?_)))))))
      obtain rfl:=someI hb8
      refine ⟨nofun,.inr fun ho=>?_⟩
      subst ho
      refine r_ib (r_sq ?_)
      obtain rfl:=someI hr
      exact ret_of hF hS rfl (.tmp rfl .nil) rfl
   ·rintro e a w ⟨rfl,rfl,hF,hS⟩
    refine x_ib (n_sq ?_)
    refine q_seq (q_region (q_x (v:=(.bool true)) hF hS (ex_assign rfl) rfl rfl fun a hF=>q_end (n_sq (q_ret ?_))))
    obtain rfl:=someI hr
    exact ret_of hF hS rfl (.tmp rfl .nil) rfl
 ·have hr:=cond_t hc1 hr
  refine q_cond_t hF rfl hc1 (q_seq (q_region (q_x (v:=(.bool false)) hF hS (ex_assign rfl) rfl rfl fun a hF=>q_end (n_sq (q_ret (r_sq ?_))))))
  obtain rfl:=someI hr
  exact ret_of hF hS rfl (.tmp rfl .nil) rfl

theorem c_spec_tNext (p_t : impl_Transport) (p_x : List (List Int)) (r : (List (List Int)) × Bool) (hr : spec_tNext p_t p_x = some r) (w0 : World) (m : Mem) (hv : Vis m w0) (s1 : Sl) (h1 : Rd m s1 p_t.Rows) (s2 : Sl) (h2 : Rd m s2 p_t.Cols) (s3 : Sl) (h3 : Rd m s3 p_t.Lo) (s4 : Sl) (h4 : Rd m s4 p_t.Hi) (s5 : Sl) (h5 : Rd m s5 p_x) :
  Ret Try.prog 127 [(.agg #[s1.v,s2.v,s3.v,s4.v]),s5.v] w0 (fun v w=>∃ (m' : Mem) (q0' : Piece) (s0' : Sl),v = (.tuple #[s0'.v,(.bool r.2)])∧MLe [] w0.heap.size m m'∧St [] w0 w m' [q0']∧OwnD m' 28 3 q0' s0' r.1):=by
 unfold spec_tNext at hr
 refine ret_start Try.func127 rfl 127 rfl rfl m hv fun a hF hS=>q_seq (q_region (q_box (cs:=[s1.v,s2.v,s3.v,s4.v]) hF hS rfl rfl rfl fun a w b6 hF hS=>q_x (v:=nilS.v) hF hS (ex_assign rfl) rfl rfl fun a hF=>q_x (v:=(.bool false)) hF hS (ex_assign rfl) rfl rfl fun a hF=>q_end (n_sq (q_seq (e_region ⟨[],[],m⟩ mixed fun w' hw'=>?_)))))
 have hS:=hS.below hw'
 refine e_p (v:=(.pointer (some ⟨b6,0,none⟩))) 0 hF rfl (ex_fieldAddr Try.underlying50 rfl sz28 rfl rfl) rfl rfl (by kernel_rfl) (by kernel_rfl) (by kernel_rfl) fun a hF=>e_x (v:=s1.v) 1 hF hS rfl (ex_load1 0 0 Try.underlying28 rfl rfl rfl rfl) rfl rfl (by kernel_rfl) (by kernel_rfl) (by kernel_rfl) (by kernel_rfl) fun a hF=>e_p (v:=(iV (goLen p_t.Rows))) 2 hF rfl (ex_len Try.underlying28 rfl h1.len) rfl rfl (by kernel_rfl) (by kernel_rfl) (by kernel_rfl) fun a hF=>e_p (v:=(.pointer (some ⟨b6,1,none⟩))) 3 hF rfl (ex_fieldAddr Try.underlying50 rfl sz28 rfl rfl) rfl rfl (by kernel_rfl) (by kernel_rfl) (by kernel_rfl) fun a hF=>e_x (v:=s2.v) 4 hF hS rfl (ex_load1 0 0 Try.underlying28 rfl rfl rfl rfl) rfl rfl (by kernel_rfl) (by kernel_rfl) (by kernel_rfl) (by kernel_rfl) fun a hF=>e_p (v:=(iV (goLen p_t.Cols))) 5 hF rfl (ex_len Try.underlying28 rfl h2.len) rfl rfl (by kernel_rfl) (by kernel_rfl) (by kernel_rfl) fun a hF=>e_p (v:=(iV (goLen p_t.Rows))) 6 hF rfl (ex_assign rfl) rfl rfl (by kernel_rfl) (by kernel_rfl) (by kernel_rfl) fun a hF=>e_p (v:=(iV (goLen p_t.Cols))) 7 hF rfl (ex_assign rfl) rfl rfl (by kernel_rfl) (by kernel_rfl) (by kernel_rfl) fun a hF=>e_end (by kernel_rfl) (n_sq ?_) _
 refine q_seq (q_seq (q_region (q_x (v:=(iV (goLen p_t.Rows))) hF hS (ex_move rfl) rfl rfl fun a hF=>q_x (v:=(iV (goLen p_t.Cols))) hF hS (ex_move rfl) rfl rfl fun a hF=>q_x (v:=(iV (w64 ((goLen p_t.Rows) * (goLen p_t.Cols))))) hF hS (ex_ibin rfl rfl rfl) rfl rfl fun a hF=>q_x (v:=(iV (w64 ((w64 ((goLen p_t.Rows) * (goLen p_t.Cols))) - 1)))) hF hS (ex_ibin rfl rfl rfl) rfl rfl fun a hF=>q_x (v:=(iV (w64 ((w64 ((goLen p_t.Rows) * (goLen p_t.Cols))) - 1)))) hF hS (ex_assign rfl) rfl rfl fun a hF=>q_end (n_sq (q_block ?_)))))
 obtain ⟨o1,hl1,hr⟩:=bindS hr
 refine q_loop (fun (k_7 : Int) a w=>∃ (m8 : Mem),Fr a 127 [(1,s5.v),(2,(.pointer (some ⟨b6,0,none⟩))),(7,(iV (goLen p_t.Cols))),(8,(iV k_7))]∧St [] w0 w m8 [[⟨b6,[s1.v,s2.v,s3.v,s4.v],50⟩]]∧MLe [] w0.heap.size m m8) (fun (o : (Unit) ⊕ ((List (List Int)) × Bool)) e a w=>∃ (m95 : Mem),o = .inl ()∧e = .exit 0∧Fr a 127 []∧St [] w0 w m95 []∧MLe [] w0.heap.size m m95) hl1 ⟨m,hF.sub ⟨rfl,rfl,rfl,rfl,trivial⟩,hS,(MLe.refl _ _)⟩ ?_ ?_
 ·clear hF hS
  rintro k_7 a w st ⟨m8,hF,hS,hm8⟩ hb1
  unfold spec_tNext_l1 at hb1
  refine q_seq (q_seq (q_region (q_x (v:=(iV k_7)) hF hS (ex_move rfl) rfl rfl fun a hF=>q_x (v:=(.bool (decide (0 ≤ k_7)))) hF hS (ex_ibin rfl rfl rfl) rfl rfl fun a hF=>q_end (n_sq ?_))))
  rcases bcase (decide (0 ≤ k_7)) with hc2 | hc2
  ·have hb1:=cond_f hc2 hb1
   refine q_cond_f hF rfl hc2 (q_exit (x_sq ?_))
   obtain rfl:=someI hb1
   exact ⟨nofun,.inl ⟨m8,rfl,rfl,hF.sub trivial,hS.mask [false],hm8⟩⟩
  ·have hb1:=cond_t hc2 hb1
   refine q_cond_t hF rfl hc2 (q_skipc (n_sq (q_seq ?_)))
   obtain ⟨j3,hj3,hb1⟩:=bindS hb1
   refine q_join (fun a w=>∃ (m94 : Mem),j3 = .inl ()∧Fr a 127 [(1,s5.v),(2,(.pointer (some ⟨b6,0,none⟩))),(7,(iV (goLen p_t.Cols))),(8,(iV k_7))]∧St [] w0 w m94 [[⟨b6,[s1.v,s2.v,s3.v,s4.v],50⟩]]∧MLe [] w0.heap.size m8 m94) ?_ ?_
   ·refine q_block (q_seq (e_region ⟨[],[],m8⟩ mixed fun w' hw'=>?_))
    have hS:=hS.below hw'
    refine e_p (v:=(iV k_7)) 0 hF rfl (ex_move rfl) rfl rfl (by kernel_rfl) (by kernel_rfl) (by kernel_rfl) fun a hF=>e_p (v:=(iV (goLen p_t.Cols))) 1 hF rfl (ex_move rfl) rfl rfl (by kernel_rfl) (by kernel_rfl) (by kernel_rfl) fun a hF=>?_
    obtain ⟨t_9,ht_9,hj3⟩:=bindS hj3
    refine e_p (v:=(iV t_9)) 2 hF rfl (ex_quo rfl rfl ht_9) rfl rfl (by kernel_rfl) (by kernel_rfl) (by kernel_rfl) fun a hF=>e_p (v:=(iV k_7)) 3 hF rfl (ex_move rfl) rfl rfl (by kernel_rfl) (by kernel_rfl) (by kernel_rfl) fun a hF=>e_p (v:=(iV (goLen p_t.Cols))) 4 hF rfl (ex_move rfl) rfl rfl (by kernel_rfl) (by kernel_rfl) (by kernel_rfl) fun a hF=>?_
    obtain ⟨t_10,ht_10,hj3⟩:=bindS hj3
    refine e_p (v:=(iV t_10)) 5 hF rfl (ex_rem rfl rfl ht_10) rfl rfl (by kernel_rfl) (by kernel_rfl) (by kernel_rfl) fun a hF=>e_p (v:=(iV t_9)) 6 hF rfl (ex_assign rfl) rfl rfl (by kernel_rfl) (by kernel_rfl) (by kernel_rfl) fun a hF=>e_p (v:=(iV t_10)) 7 hF rfl (ex_assign rfl) rfl rfl (by kernel_rfl) (by kernel_rfl) (by kernel_rfl) fun a hF=>e_end (by kernel_rfl) (n_sq ?_) _
    refine q_seq (q_seq (e_region ⟨[],[],m8⟩ mixed fun w' hw'=>?_))
    have hS:=hS.below hw'
    refine e_p (v:=s5.v) 0 hF rfl (ex_move rfl) rfl rfl (by kernel_rfl) (by kernel_rfl) (by kernel_rfl) fun a hF=>e_p (v:=(iV t_9)) 1 hF rfl (ex_move rfl) rfl rfl (by kernel_rfl) (by kernel_rfl) (by kernel_rfl) fun a hF=>?_
    obtain ⟨e_11,he_11,hj3⟩:=bindS hj3
    obtain ⟨vs12,at12,d12⟩:=h5.at he_11 1 rfl
    obtain ⟨s13,rfl,h13⟩ : ∃ s13 : Sl,vs12 = [s13.v]∧Rd m s13 e_11:=d12
    refine e_p (v:=(elP s5 (t_9.toNat * 1))) 2 hF rfl (ex_indexAddr Try.underlying23 sz28 rfl rfl ((h5.mono hm8.le).idx he_11)) rfl rfl (by kernel_rfl) (by kernel_rfl) (by kernel_rfl) fun a hF=>e_xm (v:=s13.v) 3 hF hS (Mem.le.refl _) rfl (ex_loadE1 0 Try.underlying28 rfl rfl (((at12.mono hm8.le)).at) rfl rfl) rfl rfl (by kernel_rfl) (by kernel_rfl) (by kernel_rfl) fun a hF=>e_p (v:=(iV t_10)) 4 hF rfl (ex_move rfl) rfl rfl (by kernel_rfl) (by kernel_rfl) (by kernel_rfl) fun a hF=>?_
    obtain ⟨e_14,he_14,hj3⟩:=bindS hj3
    obtain ⟨vs15,at15,d15⟩:=h13.at he_14 1 rfl
    obtain rfl : vs15 = [(iV e_14)]:=d15
    refine e_p (v:=(elP s13 (t_10.toNat * 1))) 5 hF rfl (ex_indexAddr Try.underlying28 sz3 rfl rfl ((h13.mono hm8.le).idx he_14)) rfl rfl (by kernel_rfl) (by kernel_rfl) (by kernel_rfl) fun a hF=>e_xm (v:=(iV e_14)) 6 hF hS (Mem.le.refl _) rfl (ex_loadE1 0 Try.underlying3 rfl rfl (((at15.mono hm8.le)).at) rfl rfl) rfl rfl (by kernel_rfl) (by kernel_rfl) (by kernel_rfl) fun a hF=>e_p (v:=(.pointer (some ⟨b6,3,none⟩))) 7 hF rfl (ex_fieldAddr Try.underlying50 rfl sz23 rfl rfl) rfl rfl (by kernel_rfl) (by kernel_rfl) (by kernel_rfl) fun a hF=>e_x (v:=s4.v) 8 hF hS rfl (ex_load1 0 0 Try.underlying23 rfl rfl rfl rfl) rfl rfl (by kernel_rfl) (by kernel_rfl) (by kernel_rfl) (by kernel_rfl) fun a hF=>e_p (v:=(iV t_9)) 9 hF rfl (ex_move rfl) rfl rfl (by kernel_rfl) (by kernel_rfl) (by kernel_rfl) fun a hF=>?_
    obtain ⟨e_16,he_16,hj3⟩:=bindS hj3
    obtain ⟨vs17,at17,d17⟩:=h4.at he_16 1 rfl
    obtain ⟨s18,rfl,h18⟩ : ∃ s18 : Sl,vs17 = [s18.v]∧Rd m s18 e_16:=d17
    refine e_p (v:=(elP s4 (t_9.toNat * 1))) 10 hF rfl (ex_indexAddr Try.underlying23 sz28 rfl rfl ((h4.mono hm8.le).idx he_16)) rfl rfl (by kernel_rfl) (by kernel_rfl) (by kernel_rfl) fun a hF=>e_xm (v:=s18.v) 11 hF hS (Mem.le.refl _) rfl (ex_loadE1 0 Try.underlying28 rfl rfl (((at17.mono hm8.le)).at) rfl rfl) rfl rfl (by kernel_rfl) (by kernel_rfl) (by kernel_rfl) fun a hF=>e_p (v:=(iV t_10)) 12 hF rfl (ex_move rfl) rfl rfl (by kernel_rfl) (by kernel_rfl) (by kernel_rfl) fun a hF=>?_
    obtain ⟨e_19,he_19,hj3⟩:=bindS hj3
    obtain ⟨vs20,at20,d20⟩:=h18.at he_19 1 rfl
    obtain rfl : vs20 = [(iV e_19)]:=d20
    refine e_p (v:=(elP s18 (t_10.toNat * 1))) 13 hF rfl (ex_indexAddr Try.underlying28 sz3 rfl rfl ((h18.mono hm8.le).idx he_19)) rfl rfl (by kernel_rfl) (by kernel_rfl) (by kernel_rfl) fun a hF=>e_xm (v:=(iV e_19)) 14 hF hS (Mem.le.refl _) rfl (ex_loadE1 0 Try.underlying3 rfl rfl (((at20.mono hm8.le)).at) rfl rfl) rfl rfl (by kernel_rfl) (by kernel_rfl) (by kernel_rfl) fun a hF=>e_p (v:=(.bool (e_14 == e_19))) 15 hF rfl (ex_ibin rfl rfl rfl) rfl rfl (by kernel_rfl) (by kernel_rfl) (by kernel_rfl) fun a hF=>e_end (by kernel_rfl) (n_sq ?_) _
    rcases bcase (e_14 == e_19) with hc4 | hc4
    ·have hj3:=cond_f hc4 hj3
     refine q_cond_f hF rfl hc4 (q_skipc (n_sq (q_seq ?_)))
     obtain ⟨u_44,hj5,hj3⟩:=bindS hj3
     refine q_join (fun a w=>∃ b43,∃ (m49 : Mem),∃ (s45 : Sl),∃ (s46 : Sl),∃ (q47 : Piece),∃ (s47 : Sl),∃ (q48 : Piece),∃ (s48 : Sl),Fr a 127 [(1,s5.v),(2,(.pointer (some ⟨b6,0,none⟩))),(7,(iV (goLen p_t.Cols))),(8,(iV k_7)),(11,(.pointer (some ⟨b43,0,none⟩)))]∧St [] w0 w m49 [q47,q48,[⟨b43,[s45.v,s46.v,s47.v,s48.v],50⟩],[⟨b6,[s1.v,s2.v,s3.v,s4.v],50⟩]]∧MLe [] w0.heap.size m8 m49∧Rd m49 s45 u_44.Rows∧Rd m49 s46 u_44.Cols∧OwnD m49 28 3 q47 s47 u_44.Lo∧OwnD m49 28 3 q48 s48 u_44.Hi) ?_ ?_
     ·refine e_region ⟨[21],[b6],m8⟩ mixed fun w' hw'=>?_
      have hS:=hS.below hw'
      refine e_xb (v:=(.agg #[s1.v,s2.v,s3.v,s4.v])) 0 0 hF hS (.head _) rfl rfl (ex_loadA (vs:=[s1.v,s2.v,s3.v,s4.v]) 0 0 Try.underlying50 rfl sz50 rfl rfl rfl rfl) rfl rfl (by kernel_rfl) (by kernel_rfl) (by kernel_rfl) fun a hF=>e_p (v:=(iV t_9)) 1 hF rfl (ex_move rfl) rfl rfl (by kernel_rfl) (by kernel_rfl) (by kernel_rfl) fun a hF=>e_p (v:=(iV t_10)) 2 hF rfl (ex_move rfl) rfl rfl (by kernel_rfl) (by kernel_rfl) (by kernel_rfl) fun a hF=>e_p (v:=s5.v) 3 hF rfl (ex_move rfl) rfl rfl (by kernel_rfl) (by kernel_rfl) (by kernel_rfl) fun a hF=>e_p (v:=(iV t_9)) 4 hF rfl (ex_move rfl) rfl rfl (by kernel_rfl) (by kernel_rfl) (by kernel_rfl) fun a hF=>?_
      obtain ⟨e_21,he_21,hj5⟩:=bindS hj5
      obtain ⟨vs22,at22,d22⟩:=h5.at he_21 1 rfl
      obtain ⟨s23,rfl,h23⟩ : ∃ s23 : Sl,vs22 = [s23.v]∧Rd m s23 e_21:=d22
      refine e_p (v:=(elP s5 (t_9.toNat * 1))) 5 hF rfl (ex_indexAddr Try.underlying23 sz28 rfl rfl ((h5.mono hm8.le).idx he_21)) rfl rfl (by kernel_rfl) (by kernel_rfl) (by kernel_rfl) fun a hF=>e_xm (v:=s23.v) 6 hF hS (Mem.le.refl _) rfl (ex_loadE1 0 Try.underlying28 rfl rfl (((at22.mono hm8.le)).at) rfl rfl) rfl rfl (by kernel_rfl) (by kernel_rfl) (by kernel_rfl) fun a hF=>e_p (v:=(iV t_10)) 7 hF rfl (ex_move rfl) rfl rfl (by kernel_rfl) (by kernel_rfl) (by kernel_rfl) fun a hF=>?_
      obtain ⟨e_24,he_24,hj5⟩:=bindS hj5
      obtain ⟨vs25,at25,d25⟩:=h23.at he_24 1 rfl
      obtain rfl : vs25 = [(iV e_24)]:=d25
      refine e_p (v:=(elP s23 (t_10.toNat * 1))) 8 hF rfl (ex_indexAddr Try.underlying28 sz3 rfl rfl ((h23.mono hm8.le).idx he_24)) rfl rfl (by kernel_rfl) (by kernel_rfl) (by kernel_rfl) fun a hF=>e_xm (v:=(iV e_24)) 9 hF hS (Mem.le.refl _) rfl (ex_loadE1 0 Try.underlying3 rfl rfl (((at25.mono hm8.le)).at) rfl rfl) rfl rfl (by kernel_rfl) (by kernel_rfl) (by kernel_rfl) fun a hF=>e_p (v:=(iV (w64 (e_24 + 1)))) 10 hF rfl (ex_ibin rfl rfl rfl) rfl rfl (by kernel_rfl) (by kernel_rfl) (by kernel_rfl) fun a hF=>e_p (v:=(.pointer (some ⟨b6,3,none⟩))) 11 hF rfl (ex_fieldAddr Try.underlying50 rfl sz23 rfl rfl) rfl rfl (by kernel_rfl) (by kernel_rfl) (by kernel_rfl) fun a hF=>e_xb (v:=s4.v) 12 0 hF hS (.head _) rfl rfl (ex_load1 0 0 Try.underlying23 rfl rfl rfl rfl) rfl rfl (by kernel_rfl) (by kernel_rfl) (by kernel_rfl) fun a hF=>e_p (v:=(iV t_9)) 13 hF rfl (ex_move rfl) rfl rfl (by kernel_rfl) (by kernel_rfl) (by kernel_rfl) fun a hF=>?_
      obtain ⟨e_26,he_26,hj5⟩:=bindS hj5
      obtain ⟨vs27,at27,d27⟩:=h4.at he_26 1 rfl
      obtain ⟨s28,rfl,h28⟩ : ∃ s28 : Sl,vs27 = [s28.v]∧Rd m s28 e_26:=d27
      refine e_p (v:=(elP s4 (t_9.toNat * 1))) 14 hF rfl (ex_indexAddr Try.underlying23 sz28 rfl rfl ((h4.mono hm8.le).idx he_26)) rfl rfl (by kernel_rfl) (by kernel_rfl) (by kernel_rfl) fun a hF=>e_xm (v:=s28.v) 15 hF hS (Mem.le.refl _) rfl (ex_loadE1 0 Try.underlying28 rfl rfl (((at27.mono hm8.le)).at) rfl rfl) rfl rfl (by kernel_rfl) (by kernel_rfl) (by kernel_rfl) fun a hF=>e_p (v:=(iV t_10)) 16 hF rfl (ex_move rfl) rfl rfl (by kernel_rfl) (by kernel_rfl) (by kernel_rfl) fun a hF=>?_
      obtain ⟨e_29,he_29,hj5⟩:=bindS hj5
      obtain ⟨vs30,at30,d30⟩:=h28.at he_29 1 rfl
      obtain rfl : vs30 = [(iV e_29)]:=d30
      refine e_p (v:=(elP s28 (t_10.toNat * 1))) 17 hF rfl (ex_indexAddr Try.underlying28 sz3 rfl rfl ((h28.mono hm8.le).idx he_29)) rfl rfl (by kernel_rfl) (by kernel_rfl) (by kernel_rfl) fun a hF=>e_xm (v:=(iV e_29)) 18 hF hS (Mem.le.refl _) rfl (ex_loadE1 0 Try.underlying3 rfl rfl (((at30.mono hm8.le)).at) rfl rfl) rfl rfl (by kernel_rfl) (by kernel_rfl) (by kernel_rfl) fun a hF=>?_
      obtain ⟨t_37,ht_37,hj5⟩:=bindS hj5
      refine e_all [19,20] (by kernel_rfl) rfl ⟨?_,?_,trivial⟩
      ·refine e_call (vs:=[(.agg #[s1.v,s2.v,s3.v,s4.v]),(iV t_9),(iV t_10),(iV (w64 (e_24 + 1))),(iV e_29)]) hF hS rfl Try.func121 (by kernel_rfl) rfl rfl rfl (c_spec_tWith p_t t_9 t_10 (w64 (e_24 + 1)) e_29 t_37 ht_37 _ m8 hS.vis s1 (h1.mono hm8.le) s2 (h2.mono hm8.le) s3 (h3.mono hm8.le) s4 (h4.mono hm8.le)) ?_
       have hT:=hS
       rintro a w _ ⟨m38,q41,q42,s39,s40,s41,s42,rfl,hm38,hR38,h39,h40,h41,h42⟩ hF hS2
       have hS : St _ _ _ _ [q41,q42,[⟨b6,[s1.v,s2.v,s3.v,s4.v],50⟩]]:=hS.join hR38 hm38
       have hm38:=MLe.weakX (O0:=[]) hT hm38
       refine e_one 20 (by kernel_rfl) (e_alloc (cs:=[nilS.v,nilS.v,nilS.v,nilS.v]) hF hS rfl rfl rfl rfl fun a w b43 hF hS=>e_one 21 (by kernel_rfl) ?_)
       have hSo:=hS
       refine e_store (vs:=[s39.v,s40.v,s41.v,s42.v]) (cs':=[s39.v,s40.v,s41.v,s42.v]) 0 0 hF hS rfl rfl sz50 rfl rfl rfl rfl rfl rfl rfl rfl fun a w hF hS=>⟨⟨kpC hSo hS 3 3 rfl rfl kpN,fun _=>hS.vis.of_le hm38.le⟩,?_⟩
       refine e_end (by kernel_rfl) (n_jn ?_) _
       obtain rfl:=someI hj5
       exact ⟨b43,m38,s39,s40,q41,s41,q42,s42,hF.sub ⟨rfl,rfl,rfl,rfl,rfl,trivial⟩,hS.sel [1,2,0,3] (by decide),hm38,h39,h40,h41,h42⟩
      ·refine e_alloc (cs:=[nilS.v,nilS.v,nilS.v,nilS.v]) hF hS rfl rfl rfl rfl fun a w b43 hF hS=>e_one 19 (by kernel_rfl) (e_call (vs:=[(.agg #[s1.v,s2.v,s3.v,s4.v]),(iV t_9),(iV t_10),(iV (w64 (e_24 + 1))),(iV e_29)]) hF hS rfl Try.func121 (by kernel_rfl) rfl rfl rfl (c_spec_tWith p_t t_9 t_10 (w64 (e_24 + 1)) e_29 t_37 ht_37 _ m8 hS.vis s1 (h1.mono hm8.le) s2 (h2.mono hm8.le) s3 (h3.mono hm8.le) s4 (h4.mono hm8.le)) ?_)
       have hT:=hS
       rintro a w _ ⟨m38,q41,q42,s39,s40,s41,s42,rfl,hm38,hR38,h39,h40,h41,h42⟩ hF hS2
       have hS : St _ _ _ _ [q41,q42,[⟨b43,[nilS.v,nilS.v,nilS.v,nilS.v],50⟩],[⟨b6,[s1.v,s2.v,s3.v,s4.v],50⟩]]:=hS.join hR38 hm38
       have hm38:=MLe.weakX (O0:=[]) hT hm38
       refine e_one 21 (by kernel_rfl) ?_
       have hSo:=hS
       refine e_store (vs:=[s39.v,s40.v,s41.v,s42.v]) (cs':=[s39.v,s40.v,s41.v,s42.v]) 2 0 hF hS rfl rfl sz50 rfl rfl rfl rfl rfl rfl rfl rfl fun a w hF hS=>⟨⟨kpC hSo hS 3 3 rfl rfl kpN,fun _=>hS.vis.of_le hm38.le⟩,?_⟩
       refine e_end (by kernel_rfl) (n_jn ?_) _
       obtain rfl:=someI hj5
       exact ⟨b43,m38,s39,s40,q41,s41,q42,s42,hF.sub ⟨rfl,rfl,rfl,rfl,rfl,trivial⟩,hS,hm38,h39,h40,h41,h42⟩
     ·rintro a w ⟨b43,m49,s45,s46,q47,s47,q48,s48,hF,hS,hm49,h45,h46,h47,h48⟩
      refine n_sq ?_
      refine q_seq (q_seq (q_region (q_x (v:=(iV 0)) hF hS (ex_assign rfl) rfl rfl fun a hF=>q_end (n_sq (q_block ?_)))))
      obtain ⟨u_84,hl6,hj3⟩:=bindS hj3
      refine q_loop (fun (s : Int × impl_Transport) a w=>∃ (q54 : Piece),∃ (q55 : Piece),∃ b_50,∃ u_51,s = (b_50,u_51)∧Fr a 127 [(1,s5.v),(2,(.pointer (some ⟨b6,0,none⟩))),(7,(iV (goLen p_t.Cols))),(8,(iV k_7)),(11,(.pointer (some ⟨b43,0,none⟩))),(12,(iV b_50))]∧St [] w0 w m49 [q54,q55,[⟨b43,[s45.v,s46.v,s47.v,s48.v],50⟩],[⟨b6,[s1.v,s2.v,s3.v,s4.v],50⟩]]∧Rd m49 s45 u_51.Rows∧u_51.Rows = u_44.Rows∧Rd m49 s46 u_51.Cols∧u_51.Cols = u_44.Cols∧OwnD m49 28 3 q54 s47 u_51.Lo∧OwnD m49 28 3 q55 s48 u_51.Hi) (fun (u_84 : impl_Transport) e a w=>∃ (q87 : Piece),∃ (q88 : Piece),e = .exit 2∧Fr a 127 [(1,s5.v),(2,(.pointer (some ⟨b6,0,none⟩))),(7,(iV (goLen p_t.Cols))),(8,(iV k_7)),(11,(.pointer (some ⟨b43,0,none⟩)))]∧St [] w0 w m49 [q87,q88,[⟨b43,[s45.v,s46.v,s47.v,s48.v],50⟩],[⟨b6,[s1.v,s2.v,s3.v,s4.v],50⟩]]∧Rd m49 s45 u_84.Rows∧u_84.Rows = u_44.Rows∧Rd m49 s46 u_84.Cols∧u_84.Cols = u_44.Cols∧OwnD m49 28 3 q87 s47 u_84.Lo∧OwnD m49 28 3 q88 s48 u_84.Hi) hl6 ⟨q47,q48,_,_,rfl,hF.sub ⟨rfl,rfl,rfl,rfl,rfl,rfl,trivial⟩,hS,h45,rfl,h46,rfl,h47,h48⟩ ?_ ?_
      ·clear hF hS
       rintro s a w st ⟨q54,q55,b_50,u_51,rfl,hF,hS,h52,h52k,h53,h53k,h54,h55⟩ hb6
       unfold spec_tNext_l2 at hb6
       refine q_seq (q_seq (q_region (q_x (v:=(iV b_50)) hF hS (ex_move rfl) rfl rfl fun a hF=>q_x (v:=(iV k_7)) hF hS (ex_move rfl) rfl rfl fun a hF=>q_x (v:=(.bool (decide (b_50 < k_7)))) hF hS (ex_ibin rfl rfl rfl) rfl rfl fun a hF=>q_end (n_sq ?_))))
       rcases bcase (decide (b_50 < k_7)) with hc7 | hc7
       ·have hb6:=cond_f hc7 hb6
        refine q_cond_f hF rfl hc7 (q_exit (x_sq ?_))
        obtain rfl:=someI hb6
        exact ⟨nofun,.inl ⟨q54,q55,rfl,hF.sub ⟨rfl,rfl,rfl,rfl,rfl,trivial⟩,hS,h52,h52k,h53,h53k,h54,h55⟩⟩
       ·have hb6:=cond_t hc7 hb6
        refine q_cond_t hF rfl hc7 (q_skipc (n_sq (q_seq (q_block (q_seq (e_region ⟨[22],[b43],m49⟩ mixed fun w' hw'=>?_))))))
        have hS:=hS.below hw'
        refine e_p (v:=(.pointer (some ⟨b43,2,none⟩))) 0 hF rfl (ex_fieldAddr Try.underlying50 rfl sz23 rfl rfl) rfl rfl (by kernel_rfl) (by kernel_rfl) (by kernel_rfl) fun a hF=>e_xb (v:=s47.v) 1 2 hF hS (.head _) rfl rfl (ex_load1 0 0 Try.underlying23 rfl rfl rfl rfl) rfl rfl (by kernel_rfl) (by kernel_rfl) (by kernel_rfl) fun a hF=>e_p (v:=(iV b_50)) 2 hF rfl (ex_move rfl) rfl rfl (by kernel_rfl) (by kernel_rfl) (by kernel_rfl) fun a hF=>e_p (v:=(iV (goLen p_t.Cols))) 3 hF rfl (ex_move rfl) rfl rfl (by kernel_rfl) (by kernel_rfl) (by kernel_rfl) fun a hF=>?_
        obtain ⟨t_56,ht_56,hb6⟩:=bindS hb6
        refine e_p (v:=(iV t_56)) 4 hF rfl (ex_quo rfl rfl ht_56) rfl rfl (by kernel_rfl) (by kernel_rfl) (by kernel_rfl) fun a hF=>?_
        obtain ⟨e_57,he_57,hb6⟩:=bindS hb6
        obtain ⟨s58,hV58⟩:=h54.view he_57
        refine e_p (v:=(elP s47 (t_56.toNat * 1))) 5 hF rfl (ex_indexAddr Try.underlying23 sz28 rfl rfl (h54.idx he_57)) rfl rfl (by kernel_rfl) (by kernel_rfl) (by kernel_rfl) fun a hF=>e_x (v:=s58.v) 6 hF hS rfl (ex_loadE1 0 Try.underlying28 rfl rfl ((hV58.atH he_57).at 0 rfl) rfl rfl) rfl rfl (by kernel_rfl) (by kernel_rfl) (by kernel_rfl) (by kernel_rfl) fun a hF=>e_p (v:=(iV b_50)) 7 hF rfl (ex_move rfl) rfl rfl (by kernel_rfl) (by kernel_rfl) (by kernel_rfl) fun a hF=>e_p (v:=(iV (goLen p_t.Cols))) 8 hF rfl (ex_move rfl) rfl rfl (by kernel_rfl) (by kernel_rfl) (by kernel_rfl) fun a hF=>?_
        obtain ⟨t_59,ht_59,hb6⟩:=bindS hb6
        refine e_p (v:=(iV t_59)) 9 hF rfl (ex_rem rfl rfl ht_59) rfl rfl (by kernel_rfl) (by kernel_rfl) (by kernel_rfl) fun a hF=>e_p (v:=s5.v) 10 hF rfl (ex_move rfl) rfl rfl (by kernel_rfl) (by kernel_rfl) (by kernel_rfl) fun a hF=>e_p (v:=(iV b_50)) 11 hF rfl (ex_move rfl) rfl rfl (by kernel_rfl) (by kernel_rfl) (by kernel_rfl) fun a hF=>e_p (v:=(iV (goLen p_t.Cols))) 12 hF rfl (ex_move rfl) rfl rfl (by kernel_rfl) (by kernel_rfl) (by kernel_rfl) fun a hF=>?_
        obtain ⟨t_60,ht_60,hb6⟩:=bindS hb6
        refine e_p (v:=(iV t_60)) 13 hF rfl (ex_quo rfl rfl ht_60) rfl rfl (by kernel_rfl) (by kernel_rfl) (by kernel_rfl) fun a hF=>?_
        obtain ⟨e_61,he_61,hb6⟩:=bindS hb6
        obtain ⟨vs62,at62,d62⟩:=h5.at he_61 1 rfl
        obtain ⟨s63,rfl,h63⟩ : ∃ s63 : Sl,vs62 = [s63.v]∧Rd m s63 e_61:=d62
        refine e_p (v:=(elP s5 (t_60.toNat * 1))) 14 hF rfl (ex_indexAddr Try.underlying23 sz28 rfl rfl (((h5.mono hm8.le).mono hm49.le).idx he_61)) rfl rfl (by kernel_rfl) (by kernel_rfl) (by kernel_rfl) fun a hF=>e_xm (v:=s63.v) 15 hF hS (Mem.le.refl _) rfl (ex_loadE1 0 Try.underlying28 rfl rfl ((((at62.mono hm8.le).mono hm49.le)).at) rfl rfl) rfl rfl (by kernel_rfl) (by kernel_rfl) (by kernel_rfl) fun a hF=>e_p (v:=(iV b_50)) 16 hF rfl (ex_move rfl) rfl rfl (by kernel_rfl) (by kernel_rfl) (by kernel_rfl) fun a hF=>e_p (v:=(iV (goLen p_t.Cols))) 17 hF rfl (ex_move rfl) rfl rfl (by kernel_rfl) (by kernel_rfl) (by kernel_rfl) fun a hF=>?_
        obtain ⟨t_64,ht_64,hb6⟩:=bindS hb6
        refine e_p (v:=(iV t_64)) 18 hF rfl (ex_rem rfl rfl ht_64) rfl rfl (by kernel_rfl) (by kernel_rfl) (by kernel_rfl) fun a hF=>?_
        obtain ⟨e_65,he_65,hb6⟩:=bindS hb6
        obtain ⟨vs66,at66,d66⟩:=h63.at he_65 1 rfl
        obtain rfl : vs66 = [(iV e_65)]:=d66
        refine e_p (v:=(elP s63 (t_64.toNat * 1))) 19 hF rfl (ex_indexAddr Try.underlying28 sz3 rfl rfl (((h63.mono hm8.le).mono hm49.le).idx he_65)) rfl rfl (by kernel_rfl) (by kernel_rfl) (by kernel_rfl) fun a hF=>e_xm (v:=(iV e_65)) 20 hF hS (Mem.le.refl _) rfl (ex_loadE1 0 Try.underlying3 rfl rfl ((((at66.mono hm8.le).mono hm49.le)).at) rfl rfl) rfl rfl (by kernel_rfl) (by kernel_rfl) (by kernel_rfl) fun a hF=>?_
        obtain ⟨e_67,he_67,hb6⟩:=bindS hb6
        obtain ⟨vs68,at68,d68⟩:=hV58.at he_57 he_67 1 rfl
        obtain rfl : vs68 = [(iV e_67)]:=d68
        refine e_p (v:=(elP s58 (t_59.toNat * 1))) 21 hF rfl (ex_indexAddr Try.underlying28 sz3 rfl rfl (hV58.idx he_57 he_67)) rfl rfl (by kernel_rfl) (by kernel_rfl) (by kernel_rfl) fun a hF=>e_one 22 (by kernel_rfl) ?_
        have hSo:=hS
        refine e_opl rfl rfl rfl fun _ hK=>wp_storeV (e':=e_65) (us:=[(iV e_65)]) (vs:=[(iV e_67)]) 0 hF hS hV58 he_57 sz3 rfl rfl rfl rfl rfl rfl rfl he_67 at68 rfl rfl rfl fun w q69 hS h69=>hK _ _ (⟨⟨kpC hSo hS 2 2 rfl rfl kpN,fun _=>hS.vis.of_le (Mem.le.refl _)⟩,?_⟩)
        refine e_end (by kernel_rfl) (n_sq ?_) _
        refine e_region ⟨[22],[b43],m49⟩ mixed fun w' hw'=>?_
        have hS:=hS.below hw'
        refine e_p (v:=(.pointer (some ⟨b43,3,none⟩))) 0 hF rfl (ex_fieldAddr Try.underlying50 rfl sz23 rfl rfl) rfl rfl (by kernel_rfl) (by kernel_rfl) (by kernel_rfl) fun a hF=>e_xb (v:=s48.v) 1 2 hF hS (.head _) rfl rfl (ex_load1 0 0 Try.underlying23 rfl rfl rfl rfl) rfl rfl (by kernel_rfl) (by kernel_rfl) (by kernel_rfl) fun a hF=>e_p (v:=(iV b_50)) 2 hF rfl (ex_move rfl) rfl rfl (by kernel_rfl) (by kernel_rfl) (by kernel_rfl) fun a hF=>e_p (v:=(iV (goLen p_t.Cols))) 3 hF rfl (ex_move rfl) rfl rfl (by kernel_rfl) (by kernel_rfl) (by kernel_rfl) fun a hF=>?_
        obtain ⟨t_70,ht_70,hb6⟩:=bindS hb6
        refine e_p (v:=(iV t_70)) 4 hF rfl (ex_quo rfl rfl ht_70) rfl rfl (by kernel_rfl) (by kernel_rfl) (by kernel_rfl) fun a hF=>?_
        obtain ⟨e_71,he_71,hb6⟩:=bindS hb6
        obtain ⟨s72,hV72⟩:=h55.view he_71
        refine e_p (v:=(elP s48 (t_70.toNat * 1))) 5 hF rfl (ex_indexAddr Try.underlying23 sz28 rfl rfl (h55.idx he_71)) rfl rfl (by kernel_rfl) (by kernel_rfl) (by kernel_rfl) fun a hF=>e_x (v:=s72.v) 6 hF hS rfl (ex_loadE1 0 Try.underlying28 rfl rfl ((hV72.atH he_71).at 1 rfl) rfl rfl) rfl rfl (by kernel_rfl) (by kernel_rfl) (by kernel_rfl) (by kernel_rfl) fun a hF=>e_p (v:=(iV b_50)) 7 hF rfl (ex_move rfl) rfl rfl (by kernel_rfl) (by kernel_rfl) (by kernel_rfl) fun a hF=>e_p (v:=(iV (goLen p_t.Cols))) 8 hF rfl (ex_move rfl) rfl rfl (by kernel_rfl) (by kernel_rfl) (by kernel_rfl) fun a hF=>?_
        obtain ⟨t_73,ht_73,hb6⟩:=bindS hb6
        refine e_p (v:=(iV t_73)) 9 hF rfl (ex_rem rfl rfl ht_73) rfl rfl (by kernel_rfl) (by kernel_rfl) (by kernel_rfl) fun a hF=>e_p (v:=s5.v) 10 hF rfl (ex_move rfl) rfl rfl (by kernel_rfl) (by kernel_rfl) (by kernel_rfl) fun a hF=>e_p (v:=(iV b_50)) 11 hF rfl (ex_move rfl) rfl rfl (by kernel_rfl) (by kernel_rfl) (by kernel_rfl) fun a hF=>e_p (v:=(iV (goLen p_t.Cols))) 12 hF rfl (ex_move rfl) rfl rfl (by kernel_rfl) (by kernel_rfl) (by kernel_rfl) fun a hF=>?_
        obtain ⟨t_74,ht_74,hb6⟩:=bindS hb6
        refine e_p (v:=(iV t_74)) 13 hF rfl (ex_quo rfl rfl ht_74) rfl rfl (by kernel_rfl) (by kernel_rfl) (by kernel_rfl) fun a hF=>?_
        obtain ⟨e_75,he_75,hb6⟩:=bindS hb6
        obtain ⟨vs76,at76,d76⟩:=h5.at he_75 1 rfl
        obtain ⟨s77,rfl,h77⟩ : ∃ s77 : Sl,vs76 = [s77.v]∧Rd m s77 e_75:=d76
        refine e_p (v:=(elP s5 (t_74.toNat * 1))) 14 hF rfl (ex_indexAddr Try.underlying23 sz28 rfl rfl (((h5.mono hm8.le).mono hm49.le).idx he_75)) rfl rfl (by kernel_rfl) (by kernel_rfl) (by kernel_rfl) fun a hF=>e_xm (v:=s77.v) 15 hF hS (Mem.le.refl _) rfl (ex_loadE1 0 Try.underlying28 rfl rfl ((((at76.mono hm8.le).mono hm49.le)).at) rfl rfl) rfl rfl (by kernel_rfl) (by kernel_rfl) (by kernel_rfl) fun a hF=>e_p (v:=(iV b_50)) 16 hF rfl (ex_move rfl) rfl rfl (by kernel_rfl) (by kernel_rfl) (by kernel_rfl) fun a hF=>e_p (v:=(iV (goLen p_t.Cols))) 17 hF rfl (ex_move rfl) rfl rfl (by kernel_rfl) (by kernel_rfl) (by kernel_rfl) fun a hF=>?_
        obtain ⟨t_78,ht_78,hb6⟩:=bindS hb6
        refine e_p (v:=(iV t_78)) 18 hF rfl (ex_rem rfl rfl ht_78) rfl rfl (by kernel_rfl) (by kernel_rfl) (by kernel_rfl) fun a hF=>?_
        obtain ⟨e_79,he_79,hb6⟩:=bindS hb6
        obtain ⟨vs80,at80,d80⟩:=h77.at he_79 1 rfl
        obtain rfl : vs80 = [(iV e_79)]:=d80
        refine e_p (v:=(elP s77 (t_78.toNat * 1))) 19 hF rfl (ex_indexAddr Try.underlying28 sz3 rfl rfl (((h77.mono hm8.le).mono hm49.le).idx he_79)) rfl rfl (by kernel_rfl) (by kernel_rfl) (by kernel_rfl) fun a hF=>e_xm (v:=(iV e_79)) 20 hF hS (Mem.le.refl _) rfl (ex_loadE1 0 Try.underlying3 rfl rfl ((((at80.mono hm8.le).mono hm49.le)).at) rfl rfl) rfl rfl (by kernel_rfl) (by kernel_rfl) (by kernel_rfl) fun a hF=>?_
        obtain ⟨e_81,he_81,hb6⟩:=bindS hb6
        obtain ⟨vs82,at82,d82⟩:=hV72.at he_71 he_81 1 rfl
        obtain rfl : vs82 = [(iV e_81)]:=d82
        refine e_p (v:=(elP s72 (t_73.toNat * 1))) 21 hF rfl (ex_indexAddr Try.underlying28 sz3 rfl rfl (hV72.idx he_71 he_81)) rfl rfl (by kernel_rfl) (by kernel_rfl) (by kernel_rfl) fun a hF=>e_one 22 (by kernel_rfl) ?_
        have hS : St _ _ _ _ [q55,q69,[⟨b43,[s45.v,s46.v,s47.v,s48.v],50⟩],[⟨b6,[s1.v,s2.v,s3.v,s4.v],50⟩]]:=hS.sel [1,0,2,3] (by decide)
        have hSo:=hS
        refine e_opl rfl rfl rfl fun _ hK=>wp_storeV (e':=e_79) (us:=[(iV e_79)]) (vs:=[(iV e_81)]) 0 hF hS hV72 he_71 sz3 rfl rfl rfl rfl rfl rfl rfl he_81 at82 rfl rfl rfl fun w q83 hS h83=>hK _ _ (⟨⟨kpC hSo hS 2 2 rfl rfl kpN,fun _=>hS.vis.of_le (Mem.le.refl _)⟩,?_⟩)
        refine e_end (by kernel_rfl) (n_ib (n_sq ?_)) _
        refine q_region (q_x (v:=(iV b_50)) hF hS (ex_move rfl) rfl rfl fun a hF=>q_x (v:=(iV (w64 (b_50 + 1)))) hF hS (ex_ibin rfl rfl rfl) rfl rfl fun a hF=>q_x (v:=(iV (w64 (b_50 + 1)))) hF hS (ex_assign rfl) rfl rfl fun a hF=>q_end ?_)
        obtain rfl:=someI hb6
        exact ⟨rfl,q69,q83,_,_,rfl,hF.sub ⟨rfl,rfl,rfl,rfl,rfl,rfl,trivial⟩,hS.sel [1,0,2,3] (by decide),h52,h52k,h53,h53k,h69.own,h83.own⟩
      ·rintro e a w ⟨q87,q88,rfl,hF,hS,h85,h85k,h86,h86k,h87,h88⟩
       refine x_ib (n_sq ?_)
       refine q_seq (q_region (q_x (v:=(.agg #[s45.v,s46.v,s47.v,s48.v])) hF hS (ex_loadA (vs:=[s45.v,s46.v,s47.v,s48.v]) 2 0 Try.underlying50 rfl sz50 rfl rfl rfl rfl) rfl rfl fun a hF=>?_))
       obtain ⟨m89,hm89,hS,hz89⟩:=hS.freeze
       have h89:=h87.froz hm89.le hz89
       obtain ⟨m90,hm90,hS,hz90⟩:=hS.freeze
       have h90:=(h88.mono hm89.le).froz hm90.le hz90
       obtain ⟨t_91,ht_91,hj3⟩:=bindS hj3
       refine q_call (vs:=[(.agg #[s45.v,s46.v,s47.v,s48.v])]) hF hS Try.func120 (by kernel_rfl) rfl rfl rfl (c_spec_tFirst u_84 t_91 ht_91 _ m90 hS.vis s45 ((h85.mono hm89.le).mono hm90.le) s46 ((h86.mono hm89.le).mono hm90.le) s47 (h89.mono hm90.le) s48 h90) ?_
       have hT:=hS
       rintro a w _ ⟨m92,q93,s93,rfl,hm92,hR92,h93⟩ hF hS2
       have hS : St _ _ _ _ [q93,[⟨b43,[s45.v,s46.v,s47.v,s48.v],50⟩],[⟨b6,[s1.v,s2.v,s3.v,s4.v],50⟩]]:=hS.join hR92 hm92
       have hm92:=MLe.weakX (O0:=[]) hT hm92
       refine q_x (v:=(.tuple #[s93.v,(.bool t_91.2)])) hF hS (ex_move rfl) rfl rfl fun a hF=>q_x (v:=s93.v) hF hS (ex_extract rfl rfl) rfl rfl fun a hF=>q_x (v:=(.bool t_91.2)) hF hS (ex_extract rfl rfl) rfl rfl fun a hF=>q_x (v:=s93.v) hF hS (ex_assign rfl) rfl rfl fun a hF=>q_x (v:=(.bool t_91.2)) hF hS (ex_assign rfl) rfl rfl fun a hF=>q_end (n_sq (q_seq (q_region (q_x (v:=(.bool t_91.2)) hF hS (ex_move rfl) rfl rfl fun a hF=>q_end (n_sq ?_)))))
       rcases bcase (t_91.2) with hc8 | hc8
       ·have hj3:=cond_f hc8 hj3
        refine q_cond_f hF rfl hc8 (q_skipc (n_ib (n_jn ?_)))
        obtain rfl:=someI hj3
        exact ⟨m92,rfl,hF.sub ⟨rfl,rfl,rfl,rfl,trivial⟩,hS.mask [false,false,true],(((hm49.trans hm89).trans hm90).trans hm92)⟩
       ·have hj3:=cond_t hc8 hj3
        refine q_cond_t hF rfl hc8 (q_seq (q_region (q_x (v:=s93.v) hF hS (ex_move rfl) rfl rfl fun a hF=>q_x (v:=s93.v) hF hS (ex_assign rfl) rfl rfl fun a hF=>q_x (v:=(.bool true)) hF hS (ex_assign rfl) rfl rfl fun a hF=>q_end (n_sq (q_ret (r_ib (r_jn ?_)))))))
        obtain rfl:=someI hj3
        refine r_sq ?_
        obtain rfl:=someI hb1
        refine ⟨nofun,.inr fun ho=>?_⟩
        subst ho
        refine r_ib (r_sq ?_)
        obtain rfl:=someI hr
        exact ret_of hF hS rfl (.tmp rfl (.tmp rfl .nil)) ⟨m92,q93,s93,rfl,((((hm8.trans hm49).trans hm89).trans hm90).trans hm92),hS.sel [0] (by decide),h93⟩
    ·have hj3:=cond_t hc4 hj3
     refine q_cond_t hF rfl hc4 (q_exit (x_sq (x_ib (n_jn ?_))))
     obtain rfl:=someI hj3
     exact ⟨m8,rfl,hF.sub ⟨rfl,rfl,rfl,rfl,trivial⟩,hS,(MLe.refl _ _)⟩
   ·rintro a w ⟨m94,rfl,hF,hS,hm94⟩
    refine n_sq ?_
    refine q_region (q_x (v:=(iV k_7)) hF hS (ex_move rfl) rfl rfl fun a hF=>q_x (v:=(iV (w64 (k_7 - 1)))) hF hS (ex_ibin rfl rfl rfl) rfl rfl fun a hF=>q_x (v:=(iV (w64 (k_7 - 1)))) hF hS (ex_assign rfl) rfl rfl fun a hF=>q_end ?_)
    obtain rfl:=someI hb1
    exact ⟨rfl,m94,hF.sub ⟨rfl,rfl,rfl,rfl,trivial⟩,hS,(hm8.trans hm94)⟩
 ·rintro e a w ⟨m95,rfl,rfl,hF,hS,hm95⟩
  refine x_ib (n_sq ?_)
  refine q_seq (q_region (q_x (v:=nilS.v) hF hS (ex_assign rfl) rfl rfl fun a hF=>q_x (v:=(.bool false)) hF hS (ex_assign rfl) rfl rfl fun a hF=>q_end (n_sq (q_ret ?_))))
  obtain rfl:=someI hr
  exact ret_of hF hS rfl (.tmp rfl (.tmp rfl .nil)) ⟨m95,[],nilS,rfl,hm95,hS.sel [0] (by decide),(OwnD.nil (β:=Int) m95 28 3)⟩

theorem c_spec_NextFlow (p_t : impl_Transport) (p_x : List (List Int)) (r : (List (List Int)) × Bool) (hr : spec_NextFlow p_t p_x = some r) (w0 : World) (m : Mem) (hv : Vis m w0) (s1 : Sl) (h1 : Rd m s1 p_t.Rows) (s2 : Sl) (h2 : Rd m s2 p_t.Cols) (s3 : Sl) (h3 : Rd m s3 p_t.Lo) (s4 : Sl) (h4 : Rd m s4 p_t.Hi) (s5 : Sl) (h5 : Rd m s5 p_x) :
  Ret Try.prog 50 [(.agg #[s1.v,s2.v,s3.v,s4.v]),s5.v] w0 (fun v w=>∃ (m' : Mem) (q0' : Piece) (s0' : Sl),v = (.tuple #[s0'.v,(.bool r.2)])∧MLe [] w0.heap.size m m'∧St [] w0 w m' [q0']∧OwnD m' 28 3 q0' s0' r.1):=by
 unfold spec_NextFlow at hr
 refine ret_start Try.func50 rfl 20 rfl rfl m hv fun a hF hS=>q_seq (q_region (q_box (cs:=[s1.v,s2.v,s3.v,s4.v]) hF hS rfl rfl rfl fun a w b6 hF hS=>q_x (v:=nilS.v) hF hS (ex_assign rfl) rfl rfl fun a hF=>q_x (v:=(.bool false)) hF hS (ex_assign rfl) rfl rfl fun a hF=>q_end (n_sq (q_seq (q_seq ?_)))))
 obtain ⟨t_9,hj1,hr⟩:=bindS hr
 refine q_join (fun a w=>Fr a 20 [(1,s5.v),(2,(.pointer (some ⟨b6,0,none⟩))),(14,(.bool t_9))]∧St [] w0 w m [[⟨b6,[s1.v,s2.v,s3.v,s4.v],50⟩]]) ?_ ?_
 ·refine q_region (q_x (v:=(.agg #[s1.v,s2.v,s3.v,s4.v])) hF hS (ex_loadA (vs:=[s1.v,s2.v,s3.v,s4.v]) 0 0 Try.underlying50 rfl sz50 rfl rfl rfl rfl) rfl rfl fun a hF=>?_)
  obtain ⟨t_7,ht_7,hj1⟩:=bindS hj1
  refine q_call (vs:=[(.agg #[s1.v,s2.v,s3.v,s4.v])]) hF hS Try.func123 (by kernel_rfl) rfl rfl rfl (c_spec_tGood p_t t_7 ht_7 _ m hS.vis s1 h1 s2 h2 s3 h3 s4 h4) ?_
  rintro a w _ rfl hF hS
  refine q_x (v:=(.bool (!t_7))) hF hS (ex_not rfl) rfl rfl fun a hF=>q_x (v:=(.bool (!t_7))) hF hS (ex_move rfl) rfl rfl fun a hF=>?_
  rcases bcase (!t_7) with hc2 | hc2
  ·have hj1:=cond_f hc2 hj1
   refine q_xg (v:=(.agg #[s1.v,s2.v,s3.v,s4.v])) hF hS (ex_loadA (vs:=[s1.v,s2.v,s3.v,s4.v]) 0 0 Try.underlying50 rfl sz50 rfl rfl rfl rfl) (wanted_t hF rfl rfl rfl hc2) rfl fun a hF=>q_xg (v:=s5.v) hF hS (ex_move rfl) (wanted_t hF rfl rfl rfl hc2) rfl fun a hF=>?_
   obtain ⟨t_8,ht_8,hj1⟩:=bindS hj1
   refine q_callg (vs:=[(.agg #[s1.v,s2.v,s3.v,s4.v]),s5.v]) hF hS (wanted_t hF rfl rfl rfl hc2) Try.func126 (by kernel_rfl) rfl rfl rfl (c_spec_tFits p_t p_x t_8 ht_8 _ m hS.vis s1 h1 s2 h2 s3 h3 s4 h4 s5 h5) ?_
   rintro a w _ rfl hF hS
   refine q_xg (v:=(.bool (!t_8))) hF hS (ex_not rfl) (wanted_t hF rfl rfl rfl hc2) rfl fun a hF=>q_x (v:=(.bool (!t_8))) hF hS (ex_pick_f rfl rfl hc2) rfl rfl fun a hF=>q_end (n_jn ?_)
   obtain rfl:=someI hj1
   exact ⟨hF.sub ⟨rfl,rfl,rfl,trivial⟩,hS⟩
  ·have hj1:=cond_t hc2 hj1
   refine q_skip hF (wanted_f hF rfl rfl rfl hc2 rfl) rfl fun a hF=>q_skip hF (wanted_f hF rfl rfl rfl hc2 rfl) rfl fun a hF=>q_skip hF (wanted_f hF rfl rfl rfl hc2 rfl) rfl fun a hF=>q_skip hF (wanted_f hF rfl rfl rfl hc2 rfl) rfl fun a hF=>q_x (v:=(.bool true)) hF hS (ex_pick_t rfl rfl hc2) rfl rfl fun a hF=>q_end (n_jn ?_)
   obtain rfl:=someI hj1
   exact ⟨hF.sub ⟨rfl,rfl,rfl,trivial⟩,hS⟩
 ·rintro a w ⟨hF,hS⟩
  refine n_sq ?_
  rcases bcase (t_9) with hc3 | hc3
  ·have hr:=cond_f hc3 hr
   refine q_cond_f hF rfl hc3 (q_skipc (n_sq (q_seq (q_region (q_x (v:=(.agg #[s1.v,s2.v,s3.v,s4.v])) hF hS (ex_loadA (vs:=[s1.v,s2.v,s3.v,s4.v]) 0 0 Try.underlying50 rfl sz50 rfl rfl rfl rfl) rfl rfl fun a hF=>q_x (v:=s5.v) hF hS (ex_move rfl) rfl rfl fun a hF=>?_)))))
   obtain ⟨t_10,ht_10,hr⟩:=bindS hr
   refine q_call (vs:=[(.agg #[s1.v,s2.v,s3.v,s4.v]),s5.v]) hF hS Try.func127 (by kernel_rfl) rfl rfl rfl (c_spec_tNext p_t p_x t_10 ht_10 _ m hS.vis s1 h1 s2 h2 s3 h3 s4 h4 s5 h5) ?_
   have hT:=hS
   rintro a w _ ⟨m11,q12,s12,rfl,hm11,hR11,h12⟩ hF hS2
   have hS : St _ _ _ _ [q12,[⟨b6,[s1.v,s2.v,s3.v,s4.v],50⟩]]:=hS.join hR11 hm11
   have hm11:=MLe.weakX (O0:=[]) hT hm11
   refine q_x (v:=s12.v) hF hS (ex_extract rfl rfl) rfl rfl fun a hF=>q_x (v:=(.bool t_10.2)) hF hS (ex_extract rfl rfl) rfl rfl fun a hF=>q_x (v:=s12.v) hF hS (ex_assign rfl) rfl rfl fun a hF=>q_x (v:=(.bool t_10.2)) hF hS (ex_assign rfl) rfl rfl fun a hF=>q_end (n_sq (q_ret ?_))
   obtain rfl:=someI hr
   exact ret_of hF hS rfl (.tmp rfl (.tmp rfl .nil)) ⟨m11,q12,s12,rfl,hm11,hS.sel [0] (by decide),h12⟩
  ·have hr:=cond_t hc3 hr
   refine q_cond_t hF rfl hc3 (q_seq (q_region (q_x (v:=nilS.v) hF hS (ex_assign rfl) rfl rfl fun a hF=>q_x (v:=(.bool false)) hF hS (ex_assign rfl) rfl rfl fun a hF=>q_end (n_sq (q_ret (r_sq ?_))))))
   obtain rfl:=someI hr
   exact ret_of hF hS rfl (.tmp rfl (.tmp rfl .nil)) ⟨m,[],nilS,rfl,(MLe.refl _ _),hS.sel [1] (by decide),(OwnD.nil (β:=Int) m 28 3)⟩

theorem c_laws_pBefore (p_a : List (List Int)) (p_b : List (List Int)) (r : Bool) (hr : laws_pBefore p_a p_b = some r) (w0 : World) (m : Mem) (hv : Vis m w0) (s1 : Sl) (h1 : Rd m s1 p_a) (s2 : Sl) (h2 : Rd m s2 p_b) :
  Ret Try.prog 51 [s1.v,s2.v] w0 (fun v _=>v = (.bool r)):=by
 unfold laws_pBefore at hr
 refine ret_start Try.func51 rfl 52 rfl rfl m hv fun a hF hS=>q_seq (q_region (q_x (v:=(.bool false)) hF hS (ex_assign rfl) rfl rfl fun a hF=>q_end (n_sq (q_seq (q_seq (q_region (q_x (v:=s1.v) hF hS (ex_move rfl) rfl rfl fun a hF=>q_x (v:=(iV (goLen p_a))) hF hS (ex_len Try.underlying23 rfl h1.len) rfl rfl fun a hF=>q_x (v:=(iV 0)) hF hS (ex_move rfl) rfl rfl fun a hF=>q_end (n_sq (q_block ?_)))))))))
 obtain ⟨o1,hl1,hr⟩:=bindS hr
 refine q_loop (fun (t_3 : Int) a w=>Fr a 52 [(0,s1.v),(1,s2.v),(8,(iV (goLen p_a))),(9,(iV t_3))]∧St [] w0 w m []) (fun (o : (Unit) ⊕ (Bool)) e a w=>o = .inl ()∧e = .exit 0∧Fr a 52 []∧St [] w0 w m []) hl1 ⟨hF.sub ⟨rfl,rfl,rfl,rfl,trivial⟩,hS⟩ ?_ ?_
 ·clear hF hS
  rintro t_3 a w st ⟨hF,hS⟩ hb1
  unfold laws_pBefore_l1 at hb1
  refine q_seq (q_region (q_x (v:=(.bool (decide (t_3 < (goLen p_a))))) hF hS (ex_ibin rfl rfl rfl) rfl rfl fun a hF=>q_end (n_sq (q_seq ?_))))
  rcases bcase (decide (t_3 < (goLen p_a))) with hc2 | hc2
  ·have hb1:=cond_f hc2 hb1
   refine q_cond_f hF rfl hc2 (q_exit (x_sq ?_))
   obtain rfl:=someI hb1
   exact ⟨nofun,.inl ⟨rfl,rfl,hF.sub trivial,hS⟩⟩
  ·have hb1:=cond_t hc2 hb1
   refine q_cond_t hF rfl hc2 (q_skipc (n_sq (q_seq (q_block (q_seq (q_region (q_x (v:=(iV t_3)) hF hS (ex_move rfl) rfl rfl fun a hF=>q_x (v:=(iV t_3)) hF hS (ex_assign rfl) rfl rfl fun a hF=>q_end (n_sq (q_seq (q_region (q_x (v:=s1.v) hF hS (ex_move rfl) rfl rfl fun a hF=>q_x (v:=(iV t_3)) hF hS (ex_move rfl) rfl rfl fun a hF=>?_)))))))))))
   obtain ⟨e_4,he_4,hb1⟩:=bindS hb1
   obtain ⟨vs5,at5,d5⟩:=h1.at he_4 1 rfl
   obtain ⟨s6,rfl,h6⟩ : ∃ s6 : Sl,vs5 = [s6.v]∧Rd m s6 e_4:=d5
   refine q_x (v:=(elP s1 (t_3.toNat * 1))) hF hS (ex_indexAddr Try.underlying23 sz28 rfl rfl (h1.idx he_4)) rfl rfl fun a hF=>q_x (v:=s6.v) hF hS (ex_loadE1 0 Try.underlying28 rfl rfl ((at5).at) rfl rfl) rfl rfl fun a hF=>q_x (v:=(iV (goLen e_4))) hF hS (ex_len Try.underlying28 rfl h6.len) rfl rfl fun a hF=>q_x (v:=(iV 0)) hF hS (ex_move rfl) rfl rfl fun a hF=>q_end (n_sq (q_block ?_))
   obtain ⟨o3,hl3,hb1⟩:=bindS hb1
   refine q_loop (fun (t_7 : Int) a w=>Fr a 52 [(0,s1.v),(1,s2.v),(5,(iV t_3)),(8,(iV (goLen p_a))),(9,(iV t_3)),(16,(iV (goLen e_4))),(17,(iV t_7))]∧St [] w0 w m []) (fun (o : (Unit) ⊕ (Stp (Int) ((Unit) ⊕ (Bool)))) e a w=>o = .inl ()∧e = .exit 2∧Fr a 52 [(0,s1.v),(1,s2.v),(8,(iV (goLen p_a))),(9,(iV t_3))]∧St [] w0 w m []) hl3 ⟨hF.sub ⟨rfl,rfl,rfl,rfl,rfl,rfl,rfl,trivial⟩,hS⟩ ?_ ?_
   ·clear hF hS
    rintro t_7 a w st ⟨hF,hS⟩ hb3
    unfold laws_pBefore_l2 at hb3
    refine q_seq (q_region (q_x (v:=(.bool (decide (t_7 < (goLen e_4))))) hF hS (ex_ibin rfl rfl rfl) rfl rfl fun a hF=>q_end (n_sq (q_seq ?_))))
    rcases bcase (decide (t_7 < (goLen e_4))) with hc4 | hc4
    ·have hb3:=cond_f hc4 hb3
     refine q_cond_f hF rfl hc4 (q_exit (x_sq ?_))
     obtain rfl:=someI hb3
     exact ⟨nofun,.inl ⟨rfl,rfl,hF.sub ⟨rfl,rfl,rfl,rfl,trivial⟩,hS⟩⟩
    ·have hb3:=cond_t hc4 hb3
     refine q_cond_t hF rfl hc4 (q_skipc (n_sq (q_seq (q_block (q_seq (q_region (q_x (v:=(iV t_7)) hF hS (ex_move rfl) rfl rfl fun a hF=>q_x (v:=(iV t_7)) hF hS (ex_assign rfl) rfl rfl fun a hF=>q_end (n_sq (q_seq (e_region ⟨[],[],m⟩ mixed fun w' hw'=>?_))))))))))
     have hS:=hS.below hw'
     refine e_p (v:=s1.v) 0 hF rfl (ex_move rfl) rfl rfl (by kernel_rfl) (by kernel_rfl) (by kernel_rfl) fun a hF=>e_p (v:=(iV t_3)) 1 hF rfl (ex_move rfl) rfl rfl (by kernel_rfl) (by kernel_rfl) (by kernel_rfl) fun a hF=>?_
     obtain ⟨e_8,he_8,hb3⟩:=bindS hb3
     obtain ⟨vs9,at9,d9⟩:=h1.at he_8 1 rfl
     obtain ⟨s10,rfl,h10⟩ : ∃ s10 : Sl,vs9 = [s10.v]∧Rd m s10 e_8:=d9
     refine e_p (v:=(elP s1 (t_3.toNat * 1))) 2 hF rfl (ex_indexAddr Try.underlying23 sz28 rfl rfl (h1.idx he_8)) rfl rfl (by kernel_rfl) (by kernel_rfl) (by kernel_rfl) fun a hF=>e_xm (v:=s10.v) 3 hF hS (Mem.le.refl _) rfl (ex_loadE1 0 Try.underlying28 rfl rfl ((at9).at) rfl rfl) rfl rfl (by kernel_rfl) (by kernel_rfl) (by kernel_rfl) fun a hF=>e_p (v:=(iV t_7)) 4 hF rfl (ex_move rfl) rfl rfl (by kernel_rfl) (by kernel_rfl) (by kernel_rfl) fun a hF=>?_
     obtain ⟨e_11,he_11,hb3⟩:=bindS hb3
     obtain ⟨vs12,at12,d12⟩:=h10.at he_11 1 rfl
     obtain rfl : vs12 = [(iV e_11)]:=d12
     refine e_p (v:=(elP s10 (t_7.toNat * 1))) 5 hF rfl (ex_indexAddr Try.underlying28 sz3 rfl rfl (h10.idx he_11)) rfl rfl (by kernel_rfl) (by kernel_rfl) (by kernel_rfl) fun a hF=>e_xm (v:=(iV e_11)) 6 hF hS (Mem.le.refl _) rfl (ex_loadE1 0 Try.underlying3 rfl rfl ((at12).at) rfl rfl) rfl rfl (by kernel_rfl) (by kernel_rfl) (by kernel_rfl) fun a hF=>e_p (v:=s2.v) 7 hF rfl (ex_move rfl) rfl rfl (by kernel_rfl) (by kernel_rfl) (by kernel_rfl) fun a hF=>e_p (v:=(iV t_3)) 8 hF rfl (ex_move rfl) rfl rfl (by kernel_rfl) (by kernel_rfl) (by kernel_rfl) fun a hF=>?_
     obtain ⟨e_13,he_13,hb3⟩:=bindS hb3
     obtain ⟨vs14,at14,d14⟩:=h2.at he_13 1 rfl
     obtain ⟨s15,rfl,h15⟩ : ∃ s15 : Sl,vs14 = [s15.v]∧Rd m s15 e_13:=d14
     refine e_p (v:=(elP s2 (t_3.toNat * 1))) 9 hF rfl (ex_indexAddr Try.underlying23 sz28 rfl rfl (h2.idx he_13)) rfl rfl (by kernel_rfl) (by kernel_rfl) (by kernel_rfl) fun a hF=>e_xm (v:=s15.v) 10 hF hS (Mem.le.refl _) rfl (ex_loadE1 0 Try.underlying28 rfl rfl ((at14).at) rfl rfl) rfl rfl (by kernel_rfl) (by kernel_rfl) (by kernel_rfl) fun a hF=>e_p (v:=(iV t_7)) 11 hF rfl (ex_move rfl) rfl rfl (by kernel_rfl) (by kernel_rfl) (by kernel_rfl) fun a hF=>?_
     obtain ⟨e_16,he_16,hb3⟩:=bindS hb3
     obtain ⟨vs17,at17,d17⟩:=h15.at he_16 1 rfl
     obtain rfl : vs17 = [(iV e_16)]:=d17
     refine e_p (v:=(elP s15 (t_7.toNat * 1))) 12 hF rfl (ex_indexAddr Try.underlying28 sz3 rfl rfl (h15.idx he_16)) rfl rfl (by kernel_rfl) (by kernel_rfl) (by kernel_rfl) fun a hF=>e_xm (v:=(iV e_16)) 13 hF hS (Mem.le.refl _) rfl (ex_loadE1 0 Try.underlying3 rfl rfl ((at17).at) rfl rfl) rfl rfl (by kernel_rfl) (by kernel_rfl) (by kernel_rfl) fun a hF=>e_p (v:=(.bool (e_11 != e_16))) 14 hF rfl (ex_ibin rfl rfl rfl) rfl rfl (by kernel_rfl) (by kernel_rfl) (by kernel_rfl) fun a hF=>e_end (by kernel_rfl) (n_sq ?_) _
     rcases bcase (e_11 != e_16) with hc5 | hc5
     ·have hb3:=cond_f hc5 hb3
      refine q_cond_f hF rfl hc5 (q_skipc (n_ib (n_sq (q_region (q_x (v:=(iV (w64 (t_7 + 1)))) hF hS (ex_ibin rfl rfl rfl) rfl rfl fun a hF=>q_x (v:=(iV (w64 (t_7 + 1)))) hF hS (ex_move rfl) rfl rfl fun a hF=>q_end ?_)))))
      obtain rfl:=someI hb3
      exact ⟨rfl,hF.sub ⟨rfl,rfl,rfl,rfl,rfl,rfl,rfl,trivial⟩,hS⟩
     ·have hb3:=cond_t hc5 hb3
      refine q_cond_t hF rfl hc5 (q_seq (e_region ⟨[],[],m⟩ mixed fun w' hw'=>?_))
      have hS:=hS.below hw'
      refine e_p (v:=s1.v) 0 hF rfl (ex_move rfl) rfl rfl (by kernel_rfl) (by kernel_rfl) (by kernel_rfl) fun a hF=>e_p (v:=(iV t_3)) 1 hF rfl (ex_move rfl) rfl rfl (by kernel_rfl) (by kernel_rfl) (by kernel_rfl) fun a hF=>?_
      obtain ⟨e_18,he_18,hb3⟩:=bindS hb3
      obtain ⟨vs19,at19,d19⟩:=h1.at he_18 1 rfl
      obtain ⟨s20,rfl,h20⟩ : ∃ s20 : Sl,vs19 = [s20.v]∧Rd m s20 e_18:=d19
      refine e_p (v:=(elP s1 (t_3.toNat * 1))) 2 hF rfl (ex_indexAddr Try.underlying23 sz28 rfl rfl (h1.idx he_18)) rfl rfl (by kernel_rfl) (by kernel_rfl) (by kernel_rfl) fun a hF=>e_xm (v:=s20.v) 3 hF hS (Mem.le.refl _) rfl (ex_loadE1 0 Try.underlying28 rfl rfl ((at19).at) rfl rfl) rfl rfl (by kernel_rfl) (by kernel_rfl) (by kernel_rfl) fun a hF=>e_p (v:=(iV t_7)) 4 hF rfl (ex_move rfl) rfl rfl (by kernel_rfl) (by kernel_rfl) (by kernel_rfl) fun a hF=>?_
      obtain ⟨e_21,he_21,hb3⟩:=bindS hb3
      obtain ⟨vs22,at22,d22⟩:=h20.at he_21 1 rfl
      obtain rfl : vs22 = [(iV e_21)]:=d22
      refine e_p (v:=(elP s20 (t_7.toNat * 1))) 5 hF rfl (ex_indexAddr Try.underlying28 sz3 rfl rfl (h20.idx he_21)) rfl rfl (by kernel_rfl) (by kernel_rfl) (by kernel_rfl) fun a hF=>e_xm (v:=(iV e_21)) 6 hF hS (Mem.le.refl _) rfl (ex_loadE1 0 Try.underlying3 rfl rfl ((at22).at) rfl rfl) rfl rfl (by kernel_rfl) (by kernel_rfl) (by kernel_rfl) fun a hF=>e_p (v:=s2.v) 7 hF rfl (ex_move rfl) rfl rfl (by kernel_rfl) (by kernel_rfl) (by kernel_rfl) fun a hF=>e_p (v:=(iV t_3)) 8 hF rfl (ex_move rfl) rfl rfl (by kernel_rfl) (by kernel_rfl) (by kernel_rfl) fun a hF=>?_
      obtain ⟨e_23,he_23,hb3⟩:=bindS hb3
      obtain ⟨vs24,at24,d24⟩:=h2.at he_23 1 rfl
      obtain ⟨s25,rfl,h25⟩ : ∃ s25 : Sl,vs24 = [s25.v]∧Rd m s25 e_23:=d24
      refine e_p (v:=(elP s2 (t_3.toNat * 1))) 9 hF rfl (ex_indexAddr Try.underlying23 sz28 rfl rfl (h2.idx he_23)) rfl rfl (by kernel_rfl) (by kernel_rfl) (by kernel_rfl) fun a hF=>e_xm (v:=s25.v) 10 hF hS (Mem.le.refl _) rfl (ex_loadE1 0 Try.underlying28 rfl rfl ((at24).at) rfl rfl) rfl rfl (by kernel_rfl) (by kernel_rfl) (by kernel_rfl) fun a hF=>e_p (v:=(iV t_7)) 11 hF rfl (ex_move rfl) rfl rfl (by kernel_rfl) (by kernel_rfl) (by kernel_rfl) fun a hF=>?_
      obtain ⟨e_26,he_26,hb3⟩:=bindS hb3
      obtain ⟨vs27,at27,d27⟩:=h25.at he_26 1 rfl
      obtain rfl : vs27 = [(iV e_26)]:=d27
      refine e_p (v:=(elP s25 (t_7.toNat * 1))) 12 hF rfl (ex_indexAddr Try.underlying28 sz3 rfl rfl (h25.idx he_26)) rfl rfl (by kernel_rfl) (by kernel_rfl) (by kernel_rfl) fun a hF=>e_xm (v:=(iV e_26)) 13 hF hS (Mem.le.refl _) rfl (ex_loadE1 0 Try.underlying3 rfl rfl ((at27).at) rfl rfl) rfl rfl (by kernel_rfl) (by kernel_rfl) (by kernel_rfl) fun a hF=>e_p (v:=(.bool (decide (e_21 < e_26)))) 14 hF rfl (ex_ibin rfl rfl rfl) rfl rfl (by kernel_rfl) (by kernel_rfl) (by kernel_rfl) fun a hF=>e_p (v:=(.bool (decide (e_21 < e_26)))) 15 hF rfl (ex_assign rfl) rfl rfl (by kernel_rfl) (by kernel_rfl) (by kernel_rfl) fun a hF=>e_end (by kernel_rfl) (n_sq (q_ret (r_ib (r_sq ?_)))) _
      obtain rfl:=someI hb3
      refine ⟨nofun,.inr fun ho=>?_⟩
      subst ho
      refine r_ib (r_ib (r_sq ?_))
      obtain rfl:=someI hb1
      refine ⟨nofun,.inr fun ho=>?_⟩
      subst ho
      refine r_ib (r_sq ?_)
      obtain rfl:=someI hr
      exact ret_of hF hS rfl (.tmp rfl .nil) rfl
   ·rintro e a w ⟨rfl,rfl,hF,hS⟩
    refine x_ib (n_ib (n_sq ?_))
    refine q_region (q_x (v:=(iV (w64 (t_3 + 1)))) hF hS (ex_ibin rfl rfl rfl) rfl rfl fun a hF=>q_x (v:=(iV (w64 (t_3 + 1)))) hF hS (ex_move rfl) rfl rfl fun a hF=>q_end ?_)
    obtain rfl:=someI hb1
    exact ⟨rfl,hF.sub ⟨rfl,rfl,rfl,rfl,trivial⟩,hS⟩
 ·rintro e a w ⟨rfl,rfl,hF,hS⟩
  refine x_ib (n_sq ?_)
  refine q_seq (q_region (q_x (v:=(.bool false)) hF hS (ex_assign rfl) rfl rfl fun a hF=>q_end (n_sq (q_ret ?_))))
  obtain rfl:=someI hr
  exact ret_of hF hS rfl (.tmp rfl .nil) rfl

theorem c_spec_DrawFindCut (p_code : List (K .u8)) (r : impl_Transport) (hr : spec_DrawFindCut p_code = some r) (w0 : World) (m : Mem) (hv : Vis m w0) (s1 : Sl) (h1 : Rd m s1 p_code) :
  Ret Try.prog 52 [s1.v] w0 (fun v w=>∃ (m' : Mem) (q0' : Piece) (q1' : Piece) (q3' : Piece) (s0' : Sl) (s1' : Sl) (s2' : Sl) (s3' : Sl),v = (.agg #[s0'.v,s1'.v,s2'.v,s3'.v])∧MLe [] w0.heap.size m m'∧St [] w0 w m' [q0',q1',q3']∧OwnL m' 3 q0' s0' r.Rows∧OwnL m' 3 q1' s1' r.Cols∧Rd m' s2' r.Lo∧OwnL m' 28 q3' s3' r.Hi):=by
 unfold spec_DrawFindCut at hr
 refine ret_start Try.func52 rfl 5 rfl rfl m hv fun a hF hS=>q_seq (q_region (q_alloc (cs:=[nilS.v,nilS.v,nilS.v,nilS.v]) hF hS rfl rfl rfl fun a w b2 hF hS=>q_end (n_sq (q_seq (q_region (q_x (v:=s1.v) hF hS (ex_move rfl) rfl rfl fun a hF=>?_))))))
 obtain ⟨t_3,ht_3,hr⟩:=bindS hr
 refine q_call (vs:=[s1.v]) hF hS Try.func122 (by kernel_rfl) rfl rfl rfl (c_spec_DrawIsTransport p_code t_3 ht_3 _ m hS.vis s1 h1) ?_
 have hT:=hS
 rintro a w _ ⟨m4,q5,q6,q8,s5,s6,s7,s8,rfl,hm4,hR4,h5,h6,h7,h8⟩ hF hS2
 have hS : St _ _ _ _ [q5,q6,q8,[⟨b2,[nilS.v,nilS.v,nilS.v,nilS.v],50⟩]]:=hS.join hR4 hm4
 have hm4:=MLe.weakX (O0:=[]) hT hm4
 refine q_store (vs:=[s5.v,s6.v,s7.v,s8.v]) (cs':=[s5.v,s6.v,s7.v,s8.v]) 3 0 hF hS sz50 rfl rfl rfl rfl rfl rfl rfl rfl fun a w hF hS=>q_end (n_sq (q_ret ?_))
 obtain rfl:=someI hr
 exact ret_of hF hS rfl (.cellA (us:=[s5.v,s6.v,s7.v,s8.v]) 3 0 Try.underlying50 rfl sz50 rfl rfl rfl rfl .nil) ⟨m4,q5,q6,q8,s5,s6,s7,s8,rfl,hm4,hS.sel [0,1,2] (by decide),h5,h6,h7,h8⟩

theorem c_impl_membersOf (p_mask : Int) (r : (List Int)) (hr : impl_membersOf p_mask = some r) (w0 : World) (m : Mem) (hv : Vis m w0) :
  Ret Try.prog 128 [(iV p_mask)] w0 (fun v w=>∃ (q0' : Piece) (s0' : Sl),v = s0'.v∧St [] w0 w m [q0']∧OwnL m 3 q0' s0' r):=by
 unfold impl_membersOf at hr
 refine ret_start Try.func128 rfl 21 rfl rfl m hv fun a hF hS=>q_seq (q_region (q_x (v:=nilS.v) hF hS (ex_assign rfl) rfl rfl fun a hF=>q_end (n_sq (q_seq (q_region (q_x (v:=nilS.v) hF hS (ex_assign rfl) rfl rfl fun a hF=>q_end (n_sq (q_seq (q_seq (q_region (q_x (v:=(iV 0)) hF hS (ex_assign rfl) rfl rfl fun a hF=>q_end (n_sq (q_block ?_)))))))))))))
 obtain ⟨out_11,hl1,hr⟩:=bindS hr
 refine q_loop (fun (s : (List Int) × Int) a w=>∃ (q2 : Piece),∃ (s2 : Sl),∃ out_1,∃ i_3,s = (out_1,i_3)∧Fr a 21 [(0,(iV p_mask)),(3,s2.v),(4,(iV i_3))]∧St [] w0 w m [q2]∧OwnL m 3 q2 s2 out_1) (fun (out_11 : (List Int)) e a w=>∃ (q12 : Piece),∃ (s12 : Sl),e = .exit 0∧Fr a 21 [(3,s12.v)]∧St [] w0 w m [q12]∧OwnL m 3 q12 s12 out_11) hl1 ⟨[],nilS,_,_,rfl,hF.sub ⟨rfl,rfl,rfl,trivial⟩,hS.sel [0] (by decide),(OwnL.nil (α:=Int) m 3)⟩ ?_ ?_
 ·clear hF hS
  rintro s a w st ⟨q2,s2,out_1,i_3,rfl,hF,hS,h2⟩ hb1
  unfold impl_membersOf_l1 at hb1
  refine q_seq (q_seq (q_region (q_x (v:=(iV p_mask)) hF hS (ex_move rfl) rfl rfl fun a hF=>q_x (v:=(iV i_3)) hF hS (ex_move rfl) rfl rfl fun a hF=>?_)))
  obtain ⟨t_4,ht_4,hb1⟩:=bindS hb1
  refine q_x (v:=(iV t_4)) hF hS (ex_shr rfl rfl ht_4) rfl rfl fun a hF=>q_x (v:=(.bool (t_4 != 0))) hF hS (ex_ibin rfl rfl rfl) rfl rfl fun a hF=>q_end (n_sq ?_)
  rcases bcase (t_4 != 0) with hc2 | hc2
  ·have hb1:=cond_f hc2 hb1
   refine q_cond_f hF rfl hc2 (q_exit (x_sq ?_))
   obtain rfl:=someI hb1
   exact ⟨nofun,.inl ⟨q2,s2,rfl,hF.sub ⟨rfl,trivial⟩,hS,h2⟩⟩
  ·have hb1:=cond_t hc2 hb1
   refine q_cond_t hF rfl hc2 (q_skipc (n_sq (q_seq (q_block (q_seq (q_region (q_x (v:=(iV p_mask)) hF hS (ex_move rfl) rfl rfl fun a hF=>q_x (v:=(iV i_3)) hF hS (ex_move rfl) rfl rfl fun a hF=>?_)))))))
   obtain ⟨t_5,ht_5,hb1⟩:=bindS hb1
   refine q_x (v:=(iV t_5)) hF hS (ex_shr rfl rfl ht_5) rfl rfl fun a hF=>q_x (v:=(iV (goBits .and .i64 t_5 1))) hF hS (ex_bits rfl rfl rfl) rfl rfl fun a hF=>q_x (v:=(.bool ((goBits .and .i64 t_5 1) == 1))) hF hS (ex_ibin rfl rfl rfl) rfl rfl fun a hF=>q_end (n_sq ?_)
   obtain ⟨out_9,hj3,hb1⟩:=bindS hb1
   refine q_join (fun a w=>∃ (q10 : Piece),∃ (s10 : Sl),Fr a 21 [(0,(iV p_mask)),(3,s10.v),(4,(iV i_3))]∧St [] w0 w m [q10]∧OwnL m 3 q10 s10 out_9) ?_ ?_
   ·rcases bcase ((goBits .and .i64 t_5 1) == 1) with hc4 | hc4
    ·have hj3:=cond_f hc4 hj3
     refine q_cond_f hF rfl hc4 (q_skipc (n_jn ?_))
     obtain rfl:=someI hj3
     exact ⟨q2,s2,hF.sub ⟨rfl,rfl,rfl,trivial⟩,hS,h2⟩
    ·have hj3:=cond_t hc4 hj3
     refine q_cond_t hF rfl hc4 (q_region (q_x (v:=s2.v) hF hS (ex_move rfl) rfl rfl fun a hF=>q_x (v:=(iV i_3)) hF hS (ex_move rfl) rfl rfl fun a hF=>q_do rfl fun _ hK=>wp_buildSlice' (l:=([i_3] : List Int)) (cells:=[(iV i_3)]) hF hS Try.underlying28 inf3 rfl rfl (by kernel_rfl) rfl rfl rfl ⟨rfl,rfl⟩ rfl rfl fun a w q6 s6 hF hS h6 _=>hK _ _ ?_))
     have hS : St _ _ _ _ [q2,q6]:=hS.sel [1,0] (by decide)
     obtain ⟨l_7,hl_7,hj3⟩:=bindS hj3
     refine q_do rfl fun _ hK=>wp_append hF hS h2 Try.underlying28 inf3 rfl rfl rfl rfl (h6.vw hS (j:=1) rfl) rfl (by decide) hl_7 rfl fun a w q8 s8 hF hS h8=>hK _ _ (q_x (v:=s8.v) hF hS (ex_assign rfl) rfl rfl fun a hF=>q_end (n_jn ?_))
     obtain rfl:=someI hj3
     exact ⟨q8,s8,hF.sub ⟨rfl,rfl,rfl,trivial⟩,hS.mask [true,false],h8⟩
   ·rintro a w ⟨q10,s10,hF,hS,h10⟩
    refine n_ib (n_sq ?_)
    refine q_region (q_x (v:=(iV i_3)) hF hS (ex_move rfl) rfl rfl fun a hF=>q_x (v:=(iV (w64 (i_3 + 1)))) hF hS (ex_ibin rfl rfl rfl) rfl rfl fun a hF=>q_x (v:=(iV (w64 (i_3 + 1)))) hF hS (ex_assign rfl) rfl rfl fun a hF=>q_end ?_)
    obtain rfl:=someI hb1
    exact ⟨rfl,q10,s10,_,_,rfl,hF.sub ⟨rfl,rfl,rfl,trivial⟩,hS,h10⟩
 ·rintro e a w ⟨q12,s12,rfl,hF,hS,h12⟩
  refine x_ib (n_sq ?_)
  refine q_seq (q_region (q_x (v:=s12.v) hF hS (ex_move rfl) rfl rfl fun a hF=>q_x (v:=s12.v) hF hS (ex_assign rfl) rfl rfl fun a hF=>q_end (n_sq (q_ret ?_))))
  obtain rfl:=someI hr
  exact ret_of hF hS rfl (.tmp rfl .nil) ⟨q12,s12,rfl,hS.sel [0] (by decide),h12⟩

theorem c_slices_Index_int_int (p_s : List Int) (p_v : Int) (r : Int) (hr : slices_Index_int_int p_s p_v = some r) (w0 : World) (m : Mem) (hv : Vis m w0) (s1 : Sl) (h1 : Rd m s1 p_s) :
  Ret Try.prog 186 [s1.v,(iV p_v)] w0 (fun v _=>v = (iV r)):=by
 unfold slices_Index_int_int at hr
 refine ret_start Try.func186 rfl 19 rfl rfl m hv fun a hF hS=>q_seq (q_region (q_x (v:=(iV 0)) hF hS (ex_assign rfl) rfl rfl fun a hF=>q_end (n_sq (q_seq (q_seq (q_region (q_x (v:=s1.v) hF hS (ex_move rfl) rfl rfl fun a hF=>q_x (v:=(iV (goLen p_s))) hF hS (ex_len Try.underlying28 rfl h1.len) rfl rfl fun a hF=>q_x (v:=(iV 0)) hF hS (ex_move rfl) rfl rfl fun a hF=>q_end (n_sq (q_block ?_)))))))))
 obtain ⟨o1,hl1,hr⟩:=bindS hr
 refine q_loop (fun (t_2 : Int) a w=>Fr a 19 [(0,s1.v),(1,(iV p_v)),(7,(iV (goLen p_s))),(8,(iV t_2))]∧St [] w0 w m []) (fun (o : (Unit) ⊕ (Int)) e a w=>o = .inl ()∧e = .exit 0∧Fr a 19 []∧St [] w0 w m []) hl1 ⟨hF.sub ⟨rfl,rfl,rfl,rfl,trivial⟩,hS⟩ ?_ ?_
 ·clear hF hS
  rintro t_2 a w st ⟨hF,hS⟩ hb1
  unfold slices_Index_int_int_l1 at hb1
  refine q_seq (q_region (q_x (v:=(.bool (decide (t_2 < (goLen p_s))))) hF hS (ex_ibin rfl rfl rfl) rfl rfl fun a hF=>q_end (n_sq (q_seq ?_))))
  rcases bcase (decide (t_2 < (goLen p_s))) with hc2 | hc2
  ·have hb1:=cond_f hc2 hb1
   refine q_cond_f hF rfl hc2 (q_exit (x_sq ?_))
   obtain rfl:=someI hb1
   exact ⟨nofun,.inl ⟨rfl,rfl,hF.sub trivial,hS⟩⟩
  ·have hb1:=cond_t hc2 hb1
   refine q_cond_t hF rfl hc2 (q_skipc (n_sq (q_seq (q_block (q_seq (q_region (q_x (v:=(iV t_2)) hF hS (ex_move rfl) rfl rfl fun a hF=>q_x (v:=(iV t_2)) hF hS (ex_assign rfl) rfl rfl fun a hF=>q_end (n_sq (q_seq (q_region (q_x (v:=(iV p_v)) hF hS (ex_move rfl) rfl rfl fun a hF=>q_x (v:=s1.v) hF hS (ex_move rfl) rfl rfl fun a hF=>q_x (v:=(iV t_2)) hF hS (ex_move rfl) rfl rfl fun a hF=>?_)))))))))))
   obtain ⟨e_3,he_3,hb1⟩:=bindS hb1
   obtain ⟨vs4,at4,d4⟩:=h1.at he_3 1 rfl
   obtain rfl : vs4 = [(iV e_3)]:=d4
   refine q_x (v:=(elP s1 (t_2.toNat * 1))) hF hS (ex_indexAddr Try.underlying28 sz3 rfl rfl (h1.idx he_3)) rfl rfl fun a hF=>q_x (v:=(iV e_3)) hF hS (ex_loadE1 0 Try.underlying3 rfl rfl ((at4).at) rfl rfl) rfl rfl fun a hF=>q_x (v:=(.bool (p_v == e_3))) hF hS (ex_ibin rfl rfl rfl) rfl rfl fun a hF=>q_end (n_sq ?_)
   rcases bcase (p_v == e_3) with hc3 | hc3
   ·have hb1:=cond_f hc3 hb1
    refine q_cond_f hF rfl hc3 (q_skipc (n_ib (n_sq (q_region (q_x (v:=(iV (w64 (t_2 + 1)))) hF hS (ex_ibin rfl rfl rfl) rfl rfl fun a hF=>q_x (v:=(iV (w64 (t_2 + 1)))) hF hS (ex_move rfl) rfl rfl fun a hF=>q_end ?_)))))
    obtain rfl:=someI hb1
    exact ⟨rfl,hF.sub ⟨rfl,rfl,rfl,rfl,trivial⟩,hS⟩
   ·have hb1:=cond_t hc3 hb1
    refine q_cond_t hF rfl hc3 (q_seq (q_region (q_x (v:=(iV t_2)) hF hS (ex_move rfl) rfl rfl fun a hF=>q_x (v:=(iV t_2)) hF hS (ex_assign rfl) rfl rfl fun a hF=>q_end (n_sq (q_ret (r_ib (r_sq ?_)))))))
    obtain rfl:=someI hb1
    refine ⟨nofun,.inr fun ho=>?_⟩
    subst ho
    refine r_ib (r_sq ?_)
    obtain rfl:=someI hr
    exact ret_of hF hS rfl (.tmp rfl .nil) rfl
 ·rintro e a w ⟨rfl,rfl,hF,hS⟩
  refine x_ib (n_sq ?_)
  refine q_seq (q_region (q_x (v:=(iV (-1))) hF hS (ex_assign rfl) rfl rfl fun a hF=>q_end (n_sq (q_ret ?_))))
  obtain rfl:=someI hr
  exact ret_of hF hS rfl (.tmp rfl .nil) rfl

theorem c_slices_Contains_int_int (p_s : List Int) (p_v : Int) (r : Bool) (hr : slices_Contains_int_int p_s p_v = some r) (w0 : World) (m : Mem) (hv : Vis m w0) (s1 : Sl) (h1 : Rd m s1 p_s) :
  Ret Try.prog 170 [s1.v,(iV p_v)] w0 (fun v _=>v = (.bool r)):=by
 unfold slices_Contains_int_int at hr
 refine ret_start Try.func170 rfl 9 rfl rfl m hv fun a hF hS=>q_seq (q_region (q_x (v:=(.bool false)) hF hS (ex_assign rfl) rfl rfl fun a hF=>q_end (n_sq (q_seq (q_region (q_x (v:=s1.v) hF hS (ex_move rfl) rfl rfl fun a hF=>q_x (v:=(iV p_v)) hF hS (ex_move rfl) rfl rfl fun a hF=>?_))))))
 obtain ⟨t_2,ht_2,hr⟩:=bindS hr
 refine q_call (vs:=[s1.v,(iV p_v)]) hF hS Try.func186 (by kernel_rfl) rfl rfl rfl (c_slices_Index_int_int p_s p_v t_2 ht_2 _ m hS.vis s1 h1) ?_
 rintro a w _ rfl hF hS
 refine q_x (v:=(.bool (decide (0 ≤ t_2)))) hF hS (ex_ibin rfl rfl rfl) rfl rfl fun a hF=>q_x (v:=(.bool (decide (0 ≤ t_2)))) hF hS (ex_assign rfl) rfl rfl fun a hF=>q_end (n_sq (q_ret ?_))
 obtain rfl:=someI hr
 exact ret_of hF hS rfl (.tmp rfl .nil) rfl

theorem c_impl_colsFor (p_t : impl_Transport) (p_rows : List Int) (r : (List Int)) (hr : impl_colsFor p_t p_rows = some r) (w0 : World) (m : Mem) (hv : Vis m w0) (s1 : Sl) (h1 : Rd m s1 p_t.Rows) (s2 : Sl) (h2 : Rd m s2 p_t.Cols) (s3 : Sl) (h3 : Rd m s3 p_t.Lo) (s4 : Sl) (h4 : Rd m s4 p_t.Hi) (s5 : Sl) (h5 : Rd m s5 p_rows) :
  Ret Try.prog 129 [(.agg #[s1.v,s2.v,s3.v,s4.v]),s5.v] w0 (fun v w=>∃ (q0' : Piece) (s0' : Sl),v = s0'.v∧St [] w0 w m [q0']∧OwnL m 3 q0' s0' r):=by
 unfold impl_colsFor at hr
 refine ret_start Try.func129 rfl 57 rfl rfl m hv fun a hF hS=>q_seq (q_region (q_box (cs:=[s1.v,s2.v,s3.v,s4.v]) hF hS rfl rfl rfl fun a w b6 hF hS=>q_x (v:=nilS.v) hF hS (ex_assign rfl) rfl rfl fun a hF=>q_end (n_sq (q_seq (q_region (q_x (v:=nilS.v) hF hS (ex_assign rfl) rfl rfl fun a hF=>q_end (n_sq (q_seq (q_seq (q_region (q_x (v:=(.pointer (some ⟨b6,1,none⟩))) hF hS (ex_fieldAddr Try.underlying50 rfl sz28 rfl rfl) rfl rfl fun a hF=>q_x (v:=s2.v) hF hS (ex_load1 0 0 Try.underlying28 rfl rfl rfl rfl) rfl rfl fun a hF=>q_x (v:=(iV (goLen p_t.Cols))) hF hS (ex_len Try.underlying28 rfl h2.len) rfl rfl fun a hF=>q_x (v:=(iV 0)) hF hS (ex_move rfl) rfl rfl fun a hF=>q_end (n_sq (q_block ?_)))))))))))))
 obtain ⟨cols_30,hl1,hr⟩:=bindS hr
 refine q_loop (fun (s : (List Int) × Int) a w=>∃ (q8 : Piece),∃ (s8 : Sl),∃ cols_7,∃ t_9,s = (cols_7,t_9)∧Fr a 57 [(1,s5.v),(2,(.pointer (some ⟨b6,0,none⟩))),(5,s8.v),(11,s2.v),(12,(iV (goLen p_t.Cols))),(13,(iV t_9))]∧St [] w0 w m [q8,[⟨b6,[s1.v,s2.v,s3.v,s4.v],50⟩]]∧OwnL m 3 q8 s8 cols_7) (fun (cols_30 : (List Int)) e a w=>∃ (q31 : Piece),∃ (s31 : Sl),e = .exit 0∧Fr a 57 [(5,s31.v)]∧St [] w0 w m [q31]∧OwnL m 3 q31 s31 cols_30) hl1 ⟨[],nilS,_,_,rfl,hF.sub ⟨rfl,rfl,rfl,rfl,rfl,rfl,trivial⟩,hS.sel [1,0] (by decide),(OwnL.nil (α:=Int) m 3)⟩ ?_ ?_
 ·clear hF hS
  rintro s a w st ⟨q8,s8,cols_7,t_9,rfl,hF,hS,h8⟩ hb1
  unfold impl_colsFor_l1 at hb1
  refine q_seq (q_region (q_x (v:=(.bool (decide (t_9 < (goLen p_t.Cols))))) hF hS (ex_ibin rfl rfl rfl) rfl rfl fun a hF=>q_end (n_sq (q_seq ?_))))
  rcases bcase (decide (t_9 < (goLen p_t.Cols))) with hc2 | hc2
  ·have hb1:=cond_f hc2 hb1
   refine q_cond_f hF rfl hc2 (q_exit (x_sq ?_))
   obtain rfl:=someI hb1
   exact ⟨nofun,.inl ⟨q8,s8,rfl,hF.sub ⟨rfl,trivial⟩,hS.mask [true,false],h8⟩⟩
  ·have hb1:=cond_t hc2 hb1
   refine q_cond_t hF rfl hc2 (q_skipc (n_sq (q_seq (q_block (q_seq (q_region (q_x (v:=(iV t_9)) hF hS (ex_move rfl) rfl rfl fun a hF=>?_)))))))
   obtain ⟨e_10,he_10,hb1⟩:=bindS hb1
   obtain ⟨vs11,at11,d11⟩:=h2.at he_10 1 rfl
   obtain rfl : vs11 = [(iV e_10)]:=d11
   refine q_x (v:=(elP s2 (t_9.toNat * 1))) hF hS (ex_indexAddr Try.underlying28 sz3 rfl rfl (h2.idx he_10)) rfl rfl fun a hF=>q_x (v:=(iV e_10)) hF hS (ex_loadE1 0 Try.underlying3 rfl rfl ((at11).at) rfl rfl) rfl rfl fun a hF=>q_x (v:=(iV t_9)) hF hS (ex_assign rfl) rfl rfl fun a hF=>q_x (v:=(iV e_10)) hF hS (ex_assign rfl) rfl rfl fun a hF=>q_end (n_sq (q_seq (q_region (q_x (v:=(iV 0)) hF hS (ex_assign rfl) rfl rfl fun a hF=>q_end (n_sq (q_seq (q_seq (q_region (q_x (v:=(.pointer (some ⟨b6,0,none⟩))) hF hS (ex_fieldAddr Try.underlying50 rfl sz28 rfl rfl) rfl rfl fun a hF=>q_x (v:=s1.v) hF hS (ex_load1 1 0 Try.underlying28 rfl rfl rfl rfl) rfl rfl fun a hF=>q_x (v:=(iV (goLen p_t.Rows))) hF hS (ex_len Try.underlying28 rfl h1.len) rfl rfl fun a hF=>q_x (v:=(iV 0)) hF hS (ex_move rfl) rfl rfl fun a hF=>q_end (n_sq (q_block ?_)))))))))))
   obtain ⟨o3,hl3,hb1⟩:=bindS hb1
   refine q_loop (fun (s : Int × Int × Int) a w=>∃ sum_12,∃ own_13,∃ t_14,s = (sum_12,own_13,t_14)∧Fr a 57 [(1,s5.v),(2,(.pointer (some ⟨b6,0,none⟩))),(5,s8.v),(6,(iV t_9)),(7,(iV sum_12)),(8,(iV own_13)),(11,s2.v),(12,(iV (goLen p_t.Cols))),(13,(iV t_9)),(20,(iV (goLen p_t.Rows))),(21,(iV t_14))]∧St [] w0 w m [q8,[⟨b6,[s1.v,s2.v,s3.v,s4.v],50⟩]]) (fun (o : Int × Int) e a w=>∃ sum_23,∃ own_24,o = (sum_23,own_24)∧e = .exit 2∧Fr a 57 [(1,s5.v),(2,(.pointer (some ⟨b6,0,none⟩))),(5,s8.v),(6,(iV t_9)),(7,(iV sum_23)),(8,(iV own_24)),(11,s2.v),(12,(iV (goLen p_t.Cols))),(13,(iV t_9))]∧St [] w0 w m [q8,[⟨b6,[s1.v,s2.v,s3.v,s4.v],50⟩]]) hl3 ⟨_,_,_,rfl,hF.sub ⟨rfl,rfl,rfl,rfl,rfl,rfl,rfl,rfl,rfl,rfl,rfl,trivial⟩,hS⟩ ?_ ?_
   ·clear hF hS
    rintro s a w st ⟨sum_12,own_13,t_14,rfl,hF,hS⟩ hb3
    unfold impl_colsFor_l2 at hb3
    refine q_seq (q_region (q_x (v:=(.bool (decide (t_14 < (goLen p_t.Rows))))) hF hS (ex_ibin rfl rfl rfl) rfl rfl fun a hF=>q_end (n_sq (q_seq ?_))))
    rcases bcase (decide (t_14 < (goLen p_t.Rows))) with hc4 | hc4
    ·have hb3:=cond_f hc4 hb3
     refine q_cond_f hF rfl hc4 (q_exit (x_sq ?_))
     obtain rfl:=someI hb3
     exact ⟨nofun,.inl ⟨_,_,rfl,rfl,hF.sub ⟨rfl,rfl,rfl,rfl,rfl,rfl,rfl,rfl,rfl,trivial⟩,hS⟩⟩
    ·have hb3:=cond_t hc4 hb3
     refine q_cond_t hF rfl hc4 (q_skipc (n_sq (q_seq (q_block (q_seq (q_region (q_x (v:=(iV t_14)) hF hS (ex_move rfl) rfl rfl fun a hF=>q_x (v:=(iV t_14)) hF hS (ex_assign rfl) rfl rfl fun a hF=>q_end (n_sq (q_seq (q_region (q_x (v:=s5.v) hF hS (ex_move rfl) rfl rfl fun a hF=>q_x (v:=(iV t_14)) hF hS (ex_move rfl) rfl rfl fun a hF=>?_)))))))))))
     obtain ⟨t_15,ht_15,hb3⟩:=bindS hb3
     refine q_call (vs:=[s5.v,(iV t_14)]) hF hS Try.func170 (by kernel_rfl) rfl rfl rfl (c_slices_Contains_int_int p_rows t_14 t_15 ht_15 _ m hS.vis s5 h5) ?_
     rintro a w _ rfl hF hS
     refine q_end (n_sq ?_)
     obtain ⟨j5,hj5,hb3⟩:=bindS hb3
     refine q_join (fun a w=>∃ sum_21,∃ own_22,j5 = (sum_21,own_22)∧Fr a 57 [(1,s5.v),(2,(.pointer (some ⟨b6,0,none⟩))),(5,s8.v),(6,(iV t_9)),(7,(iV sum_21)),(8,(iV own_22)),(11,s2.v),(12,(iV (goLen p_t.Cols))),(13,(iV t_9)),(20,(iV (goLen p_t.Rows))),(21,(iV t_14))]∧St [] w0 w m [q8,[⟨b6,[s1.v,s2.v,s3.v,s4.v],50⟩]]) ?_ ?_
     ·rcases bcase (t_15) with hc6 | hc6
      ·have hj5:=cond_f hc6 hj5
       refine q_cond_f hF rfl hc6 (q_region (q_x (v:=(iV sum_12)) hF hS (ex_move rfl) rfl rfl fun a hF=>q_x (v:=(.pointer (some ⟨b6,2,none⟩))) hF hS (ex_fieldAddr Try.underlying50 rfl sz23 rfl rfl) rfl rfl fun a hF=>q_x (v:=s3.v) hF hS (ex_load1 1 0 Try.underlying23 rfl rfl rfl rfl) rfl rfl fun a hF=>q_x (v:=(iV t_14)) hF hS (ex_move rfl) rfl rfl fun a hF=>?_))
       obtain ⟨e_16,he_16,hj5⟩:=bindS hj5
       obtain ⟨vs17,at17,d17⟩:=h3.at he_16 1 rfl
       obtain ⟨s18,rfl,h18⟩ : ∃ s18 : Sl,vs17 = [s18.v]∧Rd m s18 e_16:=d17
       refine q_x (v:=(elP s3 (t_14.toNat * 1))) hF hS (ex_indexAddr Try.underlying23 sz28 rfl rfl (h3.idx he_16)) rfl rfl fun a hF=>q_x (v:=s18.v) hF hS (ex_loadE1 0 Try.underlying28 rfl rfl ((at17).at) rfl rfl) rfl rfl fun a hF=>q_x (v:=(iV t_9)) hF hS (ex_move rfl) rfl rfl fun a hF=>?_
       obtain ⟨e_19,he_19,hj5⟩:=bindS hj5
       obtain ⟨vs20,at20,d20⟩:=h18.at he_19 1 rfl
       obtain rfl : vs20 = [(iV e_19)]:=d20
       refine q_x (v:=(elP s18 (t_9.toNat * 1))) hF hS (ex_indexAddr Try.underlying28 sz3 rfl rfl (h18.idx he_19)) rfl rfl fun a hF=>q_x (v:=(iV e_19)) hF hS (ex_loadE1 0 Try.underlying3 rfl rfl ((at20).at) rfl rfl) rfl rfl fun a hF=>q_x (v:=(iV (w64 (sum_12 - e_19)))) hF hS (ex_ibin rfl rfl rfl) rfl rfl fun a hF=>q_x (v:=(iV (w64 (sum_12 - e_19)))) hF hS (ex_assign rfl) rfl rfl fun a hF=>q_end (n_jn ?_)
       obtain rfl:=someI hj5
       exact ⟨_,_,rfl,hF.sub ⟨rfl,rfl,rfl,rfl,rfl,rfl,rfl,rfl,rfl,rfl,rfl,trivial⟩,hS⟩
      ·have hj5:=cond_t hc6 hj5
       refine q_cond_t hF rfl hc6 (q_region (q_x (v:=(iV own_13)) hF hS (ex_move rfl) rfl rfl fun a hF=>q_x (v:=(.pointer (some ⟨b6,3,none⟩))) hF hS (ex_fieldAddr Try.underlying50 rfl sz23 rfl rfl) rfl rfl fun a hF=>q_x (v:=s4.v) hF hS (ex_load1 1 0 Try.underlying23 rfl rfl rfl rfl) rfl rfl fun a hF=>q_x (v:=(iV t_14)) hF hS (ex_move rfl) rfl rfl fun a hF=>?_))
       obtain ⟨e_16,he_16,hj5⟩:=bindS hj5
       obtain ⟨vs17,at17,d17⟩:=h4.at he_16 1 rfl
       obtain ⟨s18,rfl,h18⟩ : ∃ s18 : Sl,vs17 = [s18.v]∧Rd m s18 e_16:=d17
       refine q_x (v:=(elP s4 (t_14.toNat * 1))) hF hS (ex_indexAddr Try.underlying23 sz28 rfl rfl (h4.idx he_16)) rfl rfl fun a hF=>q_x (v:=s18.v) hF hS (ex_loadE1 0 Try.underlying28 rfl rfl ((at17).at) rfl rfl) rfl rfl fun a hF=>q_x (v:=(iV t_9)) hF hS (ex_move rfl) rfl rfl fun a hF=>?_
       obtain ⟨e_19,he_19,hj5⟩:=bindS hj5
       obtain ⟨vs20,at20,d20⟩:=h18.at he_19 1 rfl
       obtain rfl : vs20 = [(iV e_19)]:=d20
       refine q_x (v:=(elP s18 (t_9.toNat * 1))) hF hS (ex_indexAddr Try.underlying28 sz3 rfl rfl (h18.idx he_19)) rfl rfl fun a hF=>q_x (v:=(iV e_19)) hF hS (ex_loadE1 0 Try.underlying3 rfl rfl ((at20).at) rfl rfl) rfl rfl fun a hF=>q_x (v:=(iV (w64 (own_13 + e_19)))) hF hS (ex_ibin rfl rfl rfl) rfl rfl fun a hF=>q_x (v:=(iV (w64 (own_13 + e_19)))) hF hS (ex_assign rfl) rfl rfl fun a hF=>q_end (n_jn ?_)
       obtain rfl:=someI hj5
       exact ⟨_,_,rfl,hF.sub ⟨rfl,rfl,rfl,rfl,rfl,rfl,rfl,rfl,rfl,rfl,rfl,trivial⟩,hS⟩
     ·rintro a w ⟨sum_21,own_22,rfl,hF,hS⟩
      refine n_ib (n_sq ?_)
      refine q_region (q_x (v:=(iV (w64 (t_14 + 1)))) hF hS (ex_ibin rfl rfl rfl) rfl rfl fun a hF=>q_x (v:=(iV (w64 (t_14 + 1)))) hF hS (ex_move rfl) rfl rfl fun a hF=>q_end ?_)
      obtain rfl:=someI hb3
      exact ⟨rfl,_,_,_,rfl,hF.sub ⟨rfl,rfl,rfl,rfl,rfl,rfl,rfl,rfl,rfl,rfl,rfl,trivial⟩,hS⟩
   ·rintro e a w ⟨sum_23,own_24,rfl,rfl,hF,hS⟩
    refine x_ib (n_sq ?_)
    refine q_seq (q_region (q_x (v:=(iV sum_23)) hF hS (ex_move rfl) rfl rfl fun a hF=>q_x (v:=(iV own_24)) hF hS (ex_move rfl) rfl rfl fun a hF=>q_x (v:=(.bool (decide (sum_23 < own_24)))) hF hS (ex_ibin rfl rfl rfl) rfl rfl fun a hF=>q_end (n_sq ?_)))
    obtain ⟨cols_28,hj7,hb1⟩:=bindS hb1
    refine q_join (fun a w=>∃ (q29 : Piece),∃ (s29 : Sl),Fr a 57 [(1,s5.v),(2,(.pointer (some ⟨b6,0,none⟩))),(5,s29.v),(11,s2.v),(12,(iV (goLen p_t.Cols))),(13,(iV t_9))]∧St [] w0 w m [q29,[⟨b6,[s1.v,s2.v,s3.v,s4.v],50⟩]]∧OwnL m 3 q29 s29 cols_28) ?_ ?_
    ·rcases bcase (decide (sum_23 < own_24)) with hc8 | hc8
     ·have hj7:=cond_f hc8 hj7
      refine q_cond_f hF rfl hc8 (q_skipc (n_jn ?_))
      obtain rfl:=someI hj7
      exact ⟨q8,s8,hF.sub ⟨rfl,rfl,rfl,rfl,rfl,rfl,trivial⟩,hS,h8⟩
     ·have hj7:=cond_t hc8 hj7
      refine q_cond_t hF rfl hc8 (q_region (q_x (v:=s8.v) hF hS (ex_move rfl) rfl rfl fun a hF=>q_x (v:=(iV t_9)) hF hS (ex_move rfl) rfl rfl fun a hF=>q_do rfl fun _ hK=>wp_buildSlice' (l:=([t_9] : List Int)) (cells:=[(iV t_9)]) hF hS Try.underlying28 inf3 rfl rfl (by kernel_rfl) rfl rfl rfl ⟨rfl,rfl⟩ rfl rfl fun a w q25 s25 hF hS h25 _=>hK _ _ ?_))
      have hS : St _ _ _ _ [q8,q25,[⟨b6,[s1.v,s2.v,s3.v,s4.v],50⟩]]:=hS.sel [1,0,2] (by decide)
      obtain ⟨l_26,hl_26,hj7⟩:=bindS hj7
      refine q_do rfl fun _ hK=>wp_append hF hS h8 Try.underlying28 inf3 rfl rfl rfl rfl (h25.vw hS (j:=1) rfl) rfl (by decide) hl_26 rfl fun a w q27 s27 hF hS h27=>hK _ _ (q_x (v:=s27.v) hF hS (ex_assign rfl) rfl rfl fun a hF=>q_end (n_jn ?_))
      obtain rfl:=someI hj7
      exact ⟨q27,s27,hF.sub ⟨rfl,rfl,rfl,rfl,rfl,rfl,trivial⟩,hS.mask [true,false,true],h27⟩
    ·rintro a w ⟨q29,s29,hF,hS,h29⟩
     refine n_ib (n_sq ?_)
     refine q_region (q_x (v:=(iV (w64 (t_9 + 1)))) hF hS (ex_ibin rfl rfl rfl) rfl rfl fun a hF=>q_x (v:=(iV (w64 (t_9 + 1)))) hF hS (ex_move rfl) rfl rfl fun a hF=>q_end ?_)
     obtain rfl:=someI hb1
     exact ⟨rfl,q29,s29,_,_,rfl,hF.sub ⟨rfl,rfl,rfl,rfl,rfl,rfl,trivial⟩,hS,h29⟩
 ·rintro e a w ⟨q31,s31,rfl,hF,hS,h31⟩
  refine x_ib (n_sq ?_)
  refine q_seq (q_region (q_x (v:=s31.v) hF hS (ex_move rfl) rfl rfl fun a hF=>q_x (v:=s31.v) hF hS (ex_assign rfl) rfl rfl fun a hF=>q_end (n_sq (q_ret ?_))))
  obtain rfl:=someI hr
  exact ret_of hF hS rfl (.tmp rfl .nil) ⟨q31,s31,rfl,hS.sel [0] (by decide),h31⟩

theorem c_impl_isCut (p_t : impl_Transport) (p_rows : List Int) (p_cols : List Int) (r : Bool) (hr : impl_isCut p_t p_rows p_cols = some r) (w0 : World) (m : Mem) (hv : Vis m w0) (s1 : Sl) (h1 : Rd m s1 p_t.Rows) (s2 : Sl) (h2 : Rd m s2 p_t.Cols) (s3 : Sl) (h3 : Rd m s3 p_t.Lo) (s4 : Sl) (h4 : Rd m s4 p_t.Hi) (s5 : Sl) (h5 : Rd m s5 p_rows) (s6 : Sl) (h6 : Rd m s6 p_cols) :
  Ret Try.prog 130 [(.agg #[s1.v,s2.v,s3.v,s4.v]),s5.v,s6.v] w0 (fun v _=>v = (.bool r)):=by
 unfold impl_isCut at hr
 refine ret_start Try.func130 rfl 91 rfl rfl m hv fun a hF hS=>q_seq (q_region (q_box (cs:=[s1.v,s2.v,s3.v,s4.v]) hF hS rfl rfl rfl fun a w b7 hF hS=>q_x (v:=(.bool false)) hF hS (ex_assign rfl) rfl rfl fun a hF=>q_end (n_sq (q_seq (q_region (q_x (v:=(iV 0)) hF hS (ex_assign rfl) rfl rfl fun a hF=>q_x (v:=(iV 0)) hF hS (ex_assign rfl) rfl rfl fun a hF=>q_end (n_sq (q_seq (q_seq (q_region (q_x (v:=(.pointer (some ⟨b7,0,none⟩))) hF hS (ex_fieldAddr Try.underlying50 rfl sz28 rfl rfl) rfl rfl fun a hF=>q_x (v:=s1.v) hF hS (ex_load1 0 0 Try.underlying28 rfl rfl rfl rfl) rfl rfl fun a hF=>q_x (v:=(iV (goLen p_t.Rows))) hF hS (ex_len Try.underlying28 rfl h1.len) rfl rfl fun a hF=>q_x (v:=(iV 0)) hF hS (ex_move rfl) rfl rfl fun a hF=>q_end (n_sq (q_block ?_)))))))))))))
 obtain ⟨o1,hl1,hr⟩:=bindS hr
 refine q_loop (fun (s : Int × Int × Int) a w=>∃ left_8,∃ right_9,∃ t_10,s = (left_8,right_9,t_10)∧Fr a 91 [(1,s5.v),(2,s6.v),(3,(.pointer (some ⟨b7,0,none⟩))),(7,(iV left_8)),(8,(iV right_9)),(17,s1.v),(18,(iV (goLen p_t.Rows))),(19,(iV t_10))]∧St [] w0 w m [[⟨b7,[s1.v,s2.v,s3.v,s4.v],50⟩]]) (fun (o : Int × Int) e a w=>∃ left_28,∃ right_29,o = (left_28,right_29)∧e = .exit 0∧Fr a 91 [(2,s6.v),(3,(.pointer (some ⟨b7,0,none⟩))),(7,(iV left_28)),(8,(iV right_29))]∧St [] w0 w m [[⟨b7,[s1.v,s2.v,s3.v,s4.v],50⟩]]) hl1 ⟨_,_,_,rfl,hF.sub ⟨rfl,rfl,rfl,rfl,rfl,rfl,rfl,rfl,trivial⟩,hS⟩ ?_ ?_
 ·clear hF hS
  rintro s a w st ⟨left_8,right_9,t_10,rfl,hF,hS⟩ hb1
  unfold impl_isCut_l1 at hb1
  refine q_seq (q_region (q_x (v:=(.bool (decide (t_10 < (goLen p_t.Rows))))) hF hS (ex_ibin rfl rfl rfl) rfl rfl fun a hF=>q_end (n_sq (q_seq ?_))))
  rcases bcase (decide (t_10 < (goLen p_t.Rows))) with hc2 | hc2
  ·have hb1:=cond_f hc2 hb1
   refine q_cond_f hF rfl hc2 (q_exit (x_sq ?_))
   obtain rfl:=someI hb1
   exact ⟨nofun,.inl ⟨_,_,rfl,rfl,hF.sub ⟨rfl,rfl,rfl,rfl,trivial⟩,hS⟩⟩
  ·have hb1:=cond_t hc2 hb1
   refine q_cond_t hF rfl hc2 (q_skipc (n_sq (q_seq (q_block (q_seq (q_region (q_x (v:=(iV t_10)) hF hS (ex_move rfl) rfl rfl fun a hF=>?_)))))))
   obtain ⟨e_11,he_11,hb1⟩:=bindS hb1
   obtain ⟨vs12,at12,d12⟩:=h1.at he_11 1 rfl
   obtain rfl : vs12 = [(iV e_11)]:=d12
   refine q_x (v:=(elP s1 (t_10.toNat * 1))) hF hS (ex_indexAddr Try.underlying28 sz3 rfl rfl (h1.idx he_11)) rfl rfl fun a hF=>q_x (v:=(iV e_11)) hF hS (ex_loadE1 0 Try.underlying3 rfl rfl ((at12).at) rfl rfl) rfl rfl fun a hF=>q_x (v:=(iV t_10)) hF hS (ex_assign rfl) rfl rfl fun a hF=>q_x (v:=(iV e_11)) hF hS (ex_assign rfl) rfl rfl fun a hF=>q_end (n_sq (q_seq (q_region (q_x (v:=s5.v) hF hS (ex_move rfl) rfl rfl fun a hF=>q_x (v:=(iV t_10)) hF hS (ex_move rfl) rfl rfl fun a hF=>?_))))
   obtain ⟨t_13,ht_13,hb1⟩:=bindS hb1
   refine q_call (vs:=[s5.v,(iV t_10)]) hF hS Try.func170 (by kernel_rfl) rfl rfl rfl (c_slices_Contains_int_int p_rows t_10 t_13 ht_13 _ m hS.vis s5 h5) ?_
   rintro a w _ rfl hF hS
   refine q_x (v:=(.bool t_13)) hF hS (ex_assign rfl) rfl rfl fun a hF=>q_end (n_sq (q_seq (q_seq (q_region (q_x (v:=(.bool t_13)) hF hS (ex_move rfl) rfl rfl fun a hF=>q_end (n_sq ?_))))))
   obtain ⟨left_14,hj3,hb1⟩:=bindS hb1
   refine q_join (fun a w=>Fr a 91 [(1,s5.v),(2,s6.v),(3,(.pointer (some ⟨b7,0,none⟩))),(7,(iV left_14)),(8,(iV right_9)),(9,(iV t_10)),(11,(.bool t_13)),(17,s1.v),(18,(iV (goLen p_t.Rows))),(19,(iV t_10))]∧St [] w0 w m [[⟨b7,[s1.v,s2.v,s3.v,s4.v],50⟩]]) ?_ ?_
   ·rcases bcase (t_13) with hc4 | hc4
    ·have hj3:=cond_f hc4 hj3
     refine q_cond_f hF rfl hc4 (q_skipc (n_jn ?_))
     obtain rfl:=someI hj3
     exact ⟨hF.sub ⟨rfl,rfl,rfl,rfl,rfl,rfl,rfl,rfl,rfl,rfl,trivial⟩,hS⟩
    ·have hj3:=cond_t hc4 hj3
     refine q_cond_t hF rfl hc4 (q_region (q_x (v:=(iV left_8)) hF hS (ex_move rfl) rfl rfl fun a hF=>q_x (v:=(iV e_11)) hF hS (ex_move rfl) rfl rfl fun a hF=>q_x (v:=(iV (w64 (left_8 + e_11)))) hF hS (ex_ibin rfl rfl rfl) rfl rfl fun a hF=>q_x (v:=(iV (w64 (left_8 + e_11)))) hF hS (ex_assign rfl) rfl rfl fun a hF=>q_end (n_jn ?_)))
     obtain rfl:=someI hj3
     exact ⟨hF.sub ⟨rfl,rfl,rfl,rfl,rfl,rfl,rfl,rfl,rfl,rfl,trivial⟩,hS⟩
   ·rintro a w ⟨hF,hS⟩
    refine n_sq ?_
    refine q_seq (q_region (q_x (v:=(.pointer (some ⟨b7,1,none⟩))) hF hS (ex_fieldAddr Try.underlying50 rfl sz28 rfl rfl) rfl rfl fun a hF=>q_x (v:=s2.v) hF hS (ex_load1 0 0 Try.underlying28 rfl rfl rfl rfl) rfl rfl fun a hF=>q_x (v:=(iV (goLen p_t.Cols))) hF hS (ex_len Try.underlying28 rfl h2.len) rfl rfl fun a hF=>q_x (v:=(iV 0)) hF hS (ex_move rfl) rfl rfl fun a hF=>q_end (n_sq (q_block ?_))))
    obtain ⟨right_27,hl5,hb1⟩:=bindS hb1
    refine q_loop (fun (s : Int × Int) a w=>∃ right_15,∃ t_16,s = (right_15,t_16)∧Fr a 91 [(1,s5.v),(2,s6.v),(3,(.pointer (some ⟨b7,0,none⟩))),(7,(iV left_14)),(8,(iV right_15)),(9,(iV t_10)),(11,(.bool t_13)),(17,s1.v),(18,(iV (goLen p_t.Rows))),(19,(iV t_10)),(33,(iV (goLen p_t.Cols))),(34,(iV t_16))]∧St [] w0 w m [[⟨b7,[s1.v,s2.v,s3.v,s4.v],50⟩]]) (fun (right_27 : Int) e a w=>e = .exit 2∧Fr a 91 [(1,s5.v),(2,s6.v),(3,(.pointer (some ⟨b7,0,none⟩))),(7,(iV left_14)),(8,(iV right_27)),(17,s1.v),(18,(iV (goLen p_t.Rows))),(19,(iV t_10))]∧St [] w0 w m [[⟨b7,[s1.v,s2.v,s3.v,s4.v],50⟩]]) hl5 ⟨_,_,rfl,hF.sub ⟨rfl,rfl,rfl,rfl,rfl,rfl,rfl,rfl,rfl,rfl,rfl,rfl,trivial⟩,hS⟩ ?_ ?_
    ·clear hF hS
     rintro s a w st ⟨right_15,t_16,rfl,hF,hS⟩ hb5
     unfold impl_isCut_l2 at hb5
     refine q_seq (q_region (q_x (v:=(.bool (decide (t_16 < (goLen p_t.Cols))))) hF hS (ex_ibin rfl rfl rfl) rfl rfl fun a hF=>q_end (n_sq (q_seq ?_))))
     rcases bcase (decide (t_16 < (goLen p_t.Cols))) with hc6 | hc6
     ·have hb5:=cond_f hc6 hb5
      refine q_cond_f hF rfl hc6 (q_exit (x_sq ?_))
      obtain rfl:=someI hb5
      exact ⟨nofun,.inl ⟨rfl,hF.sub ⟨rfl,rfl,rfl,rfl,rfl,rfl,rfl,rfl,trivial⟩,hS⟩⟩
     ·have hb5:=cond_t hc6 hb5
      refine q_cond_t hF rfl hc6 (q_skipc (n_sq (q_seq (q_block (q_seq (q_region (q_x (v:=(iV t_16)) hF hS (ex_move rfl) rfl rfl fun a hF=>q_x (v:=(iV t_16)) hF hS (ex_assign rfl) rfl rfl fun a hF=>q_end (n_sq (q_seq (q_region (q_x (v:=s6.v) hF hS (ex_move rfl) rfl rfl fun a hF=>q_x (v:=(iV t_16)) hF hS (ex_move rfl) rfl rfl fun a hF=>?_)))))))))))
      obtain ⟨t_17,ht_17,hb5⟩:=bindS hb5
      refine q_call (vs:=[s6.v,(iV t_16)]) hF hS Try.func170 (by kernel_rfl) rfl rfl rfl (c_slices_Contains_int_int p_cols t_16 t_17 ht_17 _ m hS.vis s6 h6) ?_
      rintro a w _ rfl hF hS
      refine q_x (v:=(.bool t_17)) hF hS (ex_assign rfl) rfl rfl fun a hF=>q_end (n_sq (q_block (q_seq ?_)))
      obtain ⟨t_18,hj7,hb5⟩:=bindS hb5
      refine q_join (fun a w=>Fr a 91 [(1,s5.v),(2,s6.v),(3,(.pointer (some ⟨b7,0,none⟩))),(7,(iV left_14)),(8,(iV right_15)),(9,(iV t_10)),(11,(.bool t_13)),(12,(iV t_16)),(13,(.bool t_17)),(17,s1.v),(18,(iV (goLen p_t.Rows))),(19,(iV t_10)),(33,(iV (goLen p_t.Cols))),(34,(iV t_16)),(40,(.bool t_18))]∧St [] w0 w m [[⟨b7,[s1.v,s2.v,s3.v,s4.v],50⟩]]) ?_ ?_
      ·refine q_region (q_x (v:=(.bool t_13)) hF hS (ex_move rfl) rfl rfl fun a hF=>q_x (v:=(.bool t_13)) hF hS (ex_move rfl) rfl rfl fun a hF=>?_)
       rcases bcase (t_13) with hc8 | hc8
       ·have hj7:=cond_f hc8 hj7
        refine q_skip hF (wanted_f hF rfl rfl rfl hc8 rfl) rfl fun a hF=>q_skip hF (wanted_f hF rfl rfl rfl hc8 rfl) rfl fun a hF=>q_x (v:=(.bool false)) hF hS (ex_pick_f rfl rfl hc8) rfl rfl fun a hF=>q_x (v:=(.bool false)) hF hS (ex_assign rfl) rfl rfl fun a hF=>q_end (n_jn ?_)
        obtain rfl:=someI hj7
        exact ⟨hF.sub ⟨rfl,rfl,rfl,rfl,rfl,rfl,rfl,rfl,rfl,rfl,rfl,rfl,rfl,rfl,rfl,trivial⟩,hS⟩
       ·have hj7:=cond_t hc8 hj7
        refine q_xg (v:=(.bool t_17)) hF hS (ex_move rfl) (wanted_t hF rfl rfl rfl hc8) rfl fun a hF=>q_xg (v:=(.bool (!t_17))) hF hS (ex_not rfl) (wanted_t hF rfl rfl rfl hc8) rfl fun a hF=>q_x (v:=(.bool (!t_17))) hF hS (ex_pick_t rfl rfl hc8) rfl rfl fun a hF=>q_x (v:=(.bool (!t_17))) hF hS (ex_assign rfl) rfl rfl fun a hF=>q_end (n_jn ?_)
        obtain rfl:=someI hj7
        exact ⟨hF.sub ⟨rfl,rfl,rfl,rfl,rfl,rfl,rfl,rfl,rfl,rfl,rfl,rfl,rfl,rfl,rfl,trivial⟩,hS⟩
      ·rintro a w ⟨hF,hS⟩
       refine n_sq ?_
       obtain ⟨right_26,hj9,hb5⟩:=bindS hb5
       refine q_join (fun a w=>Fr a 91 [(1,s5.v),(2,s6.v),(3,(.pointer (some ⟨b7,0,none⟩))),(7,(iV left_14)),(8,(iV right_26)),(9,(iV t_10)),(11,(.bool t_13)),(17,s1.v),(18,(iV (goLen p_t.Rows))),(19,(iV t_10)),(33,(iV (goLen p_t.Cols))),(34,(iV t_16))]∧St [] w0 w m [[⟨b7,[s1.v,s2.v,s3.v,s4.v],50⟩]]) ?_ ?_
       ·rcases bcase (t_18) with hc10 | hc10
        ·have hj9:=cond_f hc10 hj9
         refine q_cond_f hF rfl hc10 (q_seq ?_)
         obtain ⟨t_19,hj11,hj9⟩:=bindS hj9
         refine q_join (fun a w=>Fr a 91 [(1,s5.v),(2,s6.v),(3,(.pointer (some ⟨b7,0,none⟩))),(7,(iV left_14)),(8,(iV right_15)),(9,(iV t_10)),(11,(.bool t_13)),(12,(iV t_16)),(17,s1.v),(18,(iV (goLen p_t.Rows))),(19,(iV t_10)),(33,(iV (goLen p_t.Cols))),(34,(iV t_16)),(56,(.bool t_19))]∧St [] w0 w m [[⟨b7,[s1.v,s2.v,s3.v,s4.v],50⟩]]) ?_ ?_
         ·refine q_region (q_x (v:=(.bool t_13)) hF hS (ex_move rfl) rfl rfl fun a hF=>q_x (v:=(.bool (!t_13))) hF hS (ex_not rfl) rfl rfl fun a hF=>q_x (v:=(.bool (!t_13))) hF hS (ex_move rfl) rfl rfl fun a hF=>?_)
          rcases bcase (!t_13) with hc12 | hc12
          ·have hj11:=cond_f hc12 hj11
           refine q_skip hF (wanted_f hF rfl rfl rfl hc12 rfl) rfl fun a hF=>q_x (v:=(.bool false)) hF hS (ex_pick_f rfl rfl hc12) rfl rfl fun a hF=>q_x (v:=(.bool false)) hF hS (ex_assign rfl) rfl rfl fun a hF=>q_end (n_jn ?_)
           obtain rfl:=someI hj11
           exact ⟨hF.sub ⟨rfl,rfl,rfl,rfl,rfl,rfl,rfl,rfl,rfl,rfl,rfl,rfl,rfl,rfl,trivial⟩,hS⟩
          ·have hj11:=cond_t hc12 hj11
           refine q_xg (v:=(.bool t_17)) hF hS (ex_move rfl) (wanted_t hF rfl rfl rfl hc12) rfl fun a hF=>q_x (v:=(.bool t_17)) hF hS (ex_pick_t rfl rfl hc12) rfl rfl fun a hF=>q_x (v:=(.bool t_17)) hF hS (ex_assign rfl) rfl rfl fun a hF=>q_end (n_jn ?_)
           obtain rfl:=someI hj11
           exact ⟨hF.sub ⟨rfl,rfl,rfl,rfl,rfl,rfl,rfl,rfl,rfl,rfl,rfl,rfl,rfl,rfl,trivial⟩,hS⟩
         ·rintro a w ⟨hF,hS⟩
          refine n_sq ?_
          obtain ⟨right_25,hj13,hj9⟩:=bindS hj9
          refine q_join (fun a w=>Fr a 91 [(1,s5.v),(2,s6.v),(3,(.pointer (some ⟨b7,0,none⟩))),(7,(iV left_14)),(8,(iV right_25)),(9,(iV t_10)),(11,(.bool t_13)),(17,s1.v),(18,(iV (goLen p_t.Rows))),(19,(iV t_10)),(33,(iV (goLen p_t.Cols))),(34,(iV t_16))]∧St [] w0 w m [[⟨b7,[s1.v,s2.v,s3.v,s4.v],50⟩]]) ?_ ?_
          ·rcases bcase (t_19) with hc14 | hc14
           ·have hj13:=cond_f hc14 hj13
            refine q_cond_f hF rfl hc14 (q_skipc (n_jn ?_))
            obtain rfl:=someI hj13
            exact ⟨hF.sub ⟨rfl,rfl,rfl,rfl,rfl,rfl,rfl,rfl,rfl,rfl,rfl,rfl,trivial⟩,hS⟩
           ·have hj13:=cond_t hc14 hj13
            refine q_cond_t hF rfl hc14 (q_region (q_x (v:=(iV right_15)) hF hS (ex_move rfl) rfl rfl fun a hF=>q_x (v:=(.pointer (some ⟨b7,2,none⟩))) hF hS (ex_fieldAddr Try.underlying50 rfl sz23 rfl rfl) rfl rfl fun a hF=>q_x (v:=s3.v) hF hS (ex_load1 0 0 Try.underlying23 rfl rfl rfl rfl) rfl rfl fun a hF=>q_x (v:=(iV t_10)) hF hS (ex_move rfl) rfl rfl fun a hF=>?_))
            obtain ⟨e_20,he_20,hj13⟩:=bindS hj13
            obtain ⟨vs21,at21,d21⟩:=h3.at he_20 1 rfl
            obtain ⟨s22,rfl,h22⟩ : ∃ s22 : Sl,vs21 = [s22.v]∧Rd m s22 e_20:=d21
            refine q_x (v:=(elP s3 (t_10.toNat * 1))) hF hS (ex_indexAddr Try.underlying23 sz28 rfl rfl (h3.idx he_20)) rfl rfl fun a hF=>q_x (v:=s22.v) hF hS (ex_loadE1 0 Try.underlying28 rfl rfl ((at21).at) rfl rfl) rfl rfl fun a hF=>q_x (v:=(iV t_16)) hF hS (ex_move rfl) rfl rfl fun a hF=>?_
            obtain ⟨e_23,he_23,hj13⟩:=bindS hj13
            obtain ⟨vs24,at24,d24⟩:=h22.at he_23 1 rfl
            obtain rfl : vs24 = [(iV e_23)]:=d24
            refine q_x (v:=(elP s22 (t_16.toNat * 1))) hF hS (ex_indexAddr Try.underlying28 sz3 rfl rfl (h22.idx he_23)) rfl rfl fun a hF=>q_x (v:=(iV e_23)) hF hS (ex_loadE1 0 Try.underlying3 rfl rfl ((at24).at) rfl rfl) rfl rfl fun a hF=>q_x (v:=(iV (w64 (right_15 - e_23)))) hF hS (ex_ibin rfl rfl rfl) rfl rfl fun a hF=>q_x (v:=(iV (w64 (right_15 - e_23)))) hF hS (ex_assign rfl) rfl rfl fun a hF=>q_end (n_jn ?_)
            obtain rfl:=someI hj13
            exact ⟨hF.sub ⟨rfl,rfl,rfl,rfl,rfl,rfl,rfl,rfl,rfl,rfl,rfl,rfl,trivial⟩,hS⟩
          ·rintro a w ⟨hF,hS⟩
           refine n_jn ?_
           obtain rfl:=someI hj9
           exact ⟨hF.sub ⟨rfl,rfl,rfl,rfl,rfl,rfl,rfl,rfl,rfl,rfl,rfl,rfl,trivial⟩,hS⟩
        ·have hj9:=cond_t hc10 hj9
         refine q_cond_t hF rfl hc10 (q_region (q_x (v:=(iV right_15)) hF hS (ex_move rfl) rfl rfl fun a hF=>q_x (v:=(.pointer (some ⟨b7,3,none⟩))) hF hS (ex_fieldAddr Try.underlying50 rfl sz23 rfl rfl) rfl rfl fun a hF=>q_x (v:=s4.v) hF hS (ex_load1 0 0 Try.underlying23 rfl rfl rfl rfl) rfl rfl fun a hF=>q_x (v:=(iV t_10)) hF hS (ex_move rfl) rfl rfl fun a hF=>?_))
         obtain ⟨e_19,he_19,hj9⟩:=bindS hj9
         obtain ⟨vs20,at20,d20⟩:=h4.at he_19 1 rfl
         obtain ⟨s21,rfl,h21⟩ : ∃ s21 : Sl,vs20 = [s21.v]∧Rd m s21 e_19:=d20
         refine q_x (v:=(elP s4 (t_10.toNat * 1))) hF hS (ex_indexAddr Try.underlying23 sz28 rfl rfl (h4.idx he_19)) rfl rfl fun a hF=>q_x (v:=s21.v) hF hS (ex_loadE1 0 Try.underlying28 rfl rfl ((at20).at) rfl rfl) rfl rfl fun a hF=>q_x (v:=(iV t_16)) hF hS (ex_move rfl) rfl rfl fun a hF=>?_
         obtain ⟨e_22,he_22,hj9⟩:=bindS hj9
         obtain ⟨vs23,at23,d23⟩:=h21.at he_22 1 rfl
         obtain rfl : vs23 = [(iV e_22)]:=d23
         refine q_x (v:=(elP s21 (t_16.toNat * 1))) hF hS (ex_indexAddr Try.underlying28 sz3 rfl rfl (h21.idx he_22)) rfl rfl fun a hF=>q_x (v:=(iV e_22)) hF hS (ex_loadE1 0 Try.underlying3 rfl rfl ((at23).at) rfl rfl) rfl rfl fun a hF=>q_x (v:=(iV (w64 (right_15 + e_22)))) hF hS (ex_ibin rfl rfl rfl) rfl rfl fun a hF=>q_x (v:=(iV (w64 (right_15 + e_22)))) hF hS (ex_assign rfl) rfl rfl fun a hF=>q_end (n_jn ?_)
         obtain rfl:=someI hj9
         exact ⟨hF.sub ⟨rfl,rfl,rfl,rfl,rfl,rfl,rfl,rfl,rfl,rfl,rfl,rfl,trivial⟩,hS⟩
       ·rintro a w ⟨hF,hS⟩
        refine n_ib (n_ib (n_sq ?_))
        refine q_region (q_x (v:=(iV (w64 (t_16 + 1)))) hF hS (ex_ibin rfl rfl rfl) rfl rfl fun a hF=>q_x (v:=(iV (w64 (t_16 + 1)))) hF hS (ex_move rfl) rfl rfl fun a hF=>q_end ?_)
        obtain rfl:=someI hb5
        exact ⟨rfl,_,_,rfl,hF.sub ⟨rfl,rfl,rfl,rfl,rfl,rfl,rfl,rfl,rfl,rfl,rfl,rfl,trivial⟩,hS⟩
    ·rintro e a w ⟨rfl,hF,hS⟩
     refine x_ib (n_ib (n_sq ?_))
     refine q_region (q_x (v:=(iV (w64 (t_10 + 1)))) hF hS (ex_ibin rfl rfl rfl) rfl rfl fun a hF=>q_x (v:=(iV (w64 (t_10 + 1)))) hF hS (ex_move rfl) rfl rfl fun a hF=>q_end ?_)
     obtain rfl:=someI hb1
     exact ⟨rfl,_,_,_,rfl,hF.sub ⟨rfl,rfl,rfl,rfl,rfl,rfl,rfl,rfl,trivial⟩,hS⟩
 ·rintro e a w ⟨left_28,right_29,rfl,rfl,hF,hS⟩
  refine x_ib (n_sq ?_)
  refine q_seq (q_seq (q_region (q_x (v:=s6.v) hF hS (ex_move rfl) rfl rfl fun a hF=>q_x (v:=(iV (goLen p_cols))) hF hS (ex_len Try.underlying28 rfl h6.len) rfl rfl fun a hF=>q_x (v:=(iV 0)) hF hS (ex_move rfl) rfl rfl fun a hF=>q_end (n_sq (q_block ?_)))))
  obtain ⟨right_36,hl15,hr⟩:=bindS hr
  refine q_loop (fun (s : Int × Int) a w=>∃ right_30,∃ t_31,s = (right_30,t_31)∧Fr a 91 [(3,(.pointer (some ⟨b7,0,none⟩))),(7,(iV left_28)),(8,(iV right_30)),(74,s6.v),(75,(iV (goLen p_cols))),(76,(iV t_31))]∧St [] w0 w m [[⟨b7,[s1.v,s2.v,s3.v,s4.v],50⟩]]) (fun (right_36 : Int) e a w=>e = .exit 5∧Fr a 91 [(7,(iV left_28)),(8,(iV right_36))]∧St [] w0 w m []) hl15 ⟨_,_,rfl,hF.sub ⟨rfl,rfl,rfl,rfl,rfl,rfl,trivial⟩,hS⟩ ?_ ?_
  ·clear hF hS
   rintro s a w st ⟨right_30,t_31,rfl,hF,hS⟩ hb15
   unfold impl_isCut_l3 at hb15
   refine q_seq (q_region (q_x (v:=(.bool (decide (t_31 < (goLen p_cols))))) hF hS (ex_ibin rfl rfl rfl) rfl rfl fun a hF=>q_end (n_sq (q_seq ?_))))
   rcases bcase (decide (t_31 < (goLen p_cols))) with hc16 | hc16
   ·have hb15:=cond_f hc16 hb15
    refine q_cond_f hF rfl hc16 (q_exit (x_sq ?_))
    obtain rfl:=someI hb15
    exact ⟨nofun,.inl ⟨rfl,hF.sub ⟨rfl,rfl,trivial⟩,hS.mask [false]⟩⟩
   ·have hb15:=cond_t hc16 hb15
    refine q_cond_t hF rfl hc16 (q_skipc (n_sq (q_seq (q_block (q_seq (q_region ?_))))))
    obtain ⟨e_32,he_32,hb15⟩:=bindS hb15
    obtain ⟨vs33,at33,d33⟩:=h6.at he_32 1 rfl
    obtain rfl : vs33 = [(iV e_32)]:=d33
    refine q_x (v:=(elP s6 (t_31.toNat * 1))) hF hS (ex_indexAddr Try.underlying28 sz3 rfl rfl (h6.idx he_32)) rfl rfl fun a hF=>q_x (v:=(iV e_32)) hF hS (ex_loadE1 0 Try.underlying3 rfl rfl ((at33).at) rfl rfl) rfl rfl fun a hF=>q_x (v:=(iV e_32)) hF hS (ex_assign rfl) rfl rfl fun a hF=>q_end (n_sq (q_region (q_x (v:=(iV right_30)) hF hS (ex_move rfl) rfl rfl fun a hF=>q_x (v:=(.pointer (some ⟨b7,1,none⟩))) hF hS (ex_fieldAddr Try.underlying50 rfl sz28 rfl rfl) rfl rfl fun a hF=>q_x (v:=s2.v) hF hS (ex_load1 0 0 Try.underlying28 rfl rfl rfl rfl) rfl rfl fun a hF=>q_x (v:=(iV e_32)) hF hS (ex_move rfl) rfl rfl fun a hF=>?_)))
    obtain ⟨e_34,he_34,hb15⟩:=bindS hb15
    obtain ⟨vs35,at35,d35⟩:=h2.at he_34 1 rfl
    obtain rfl : vs35 = [(iV e_34)]:=d35
    refine q_x (v:=(elP s2 (e_32.toNat * 1))) hF hS (ex_indexAddr Try.underlying28 sz3 rfl rfl (h2.idx he_34)) rfl rfl fun a hF=>q_x (v:=(iV e_34)) hF hS (ex_loadE1 0 Try.underlying3 rfl rfl ((at35).at) rfl rfl) rfl rfl fun a hF=>q_x (v:=(iV (w64 (right_30 + e_34)))) hF hS (ex_ibin rfl rfl rfl) rfl rfl fun a hF=>q_x (v:=(iV (w64 (right_30 + e_34)))) hF hS (ex_assign rfl) rfl rfl fun a hF=>q_end (n_ib (n_sq (q_region (q_x (v:=(iV (w64 (t_31 + 1)))) hF hS (ex_ibin rfl rfl rfl) rfl rfl fun a hF=>q_x (v:=(iV (w64 (t_31 + 1)))) hF hS (ex_move rfl) rfl rfl fun a hF=>q_end ?_))))
    obtain rfl:=someI hb15
    exact ⟨rfl,_,_,rfl,hF.sub ⟨rfl,rfl,rfl,rfl,rfl,rfl,trivial⟩,hS⟩
  ·rintro e a w ⟨rfl,hF,hS⟩
   refine x_ib (n_sq ?_)
   refine q_seq (q_region (q_x (v:=(iV left_28)) hF hS (ex_move rfl) rfl rfl fun a hF=>q_x (v:=(iV right_36)) hF hS (ex_move rfl) rfl rfl fun a hF=>q_x (v:=(.bool (decide (right_36 < left_28)))) hF hS (ex_ibin rfl rfl rfl) rfl rfl fun a hF=>q_x (v:=(.bool (decide (right_36 < left_28)))) hF hS (ex_assign rfl) rfl rfl fun a hF=>q_end (n_sq (q_ret ?_))))
   obtain rfl:=someI hr
   exact ret_of hF hS rfl (.tmp rfl .nil) rfl

theorem c_impl_FindCut (p_t : impl_Transport) (r : (List Int) × (List Int) × Bool) (hr : impl_FindCut p_t = some r) (w0 : World) (m : Mem) (hv : Vis m w0) (s1 : Sl) (h1 : Rd m s1 p_t.Rows) (s2 : Sl) (h2 : Rd m s2 p_t.Cols) (s3 : Sl) (h3 : Rd m s3 p_t.Lo) (s4 : Sl) (h4 : Rd m s4 p_t.Hi) :
  Ret Try.prog 53 [(.agg #[s1.v,s2.v,s3.v,s4.v])] w0 (fun v w=>∃ (q0' : Piece) (q1' : Piece) (s0' : Sl) (s1' : Sl),v = (.tuple #[s0'.v,s1'.v,(.bool r.2.2)])∧St [] w0 w m [q0',q1']∧OwnL m 3 q0' s0' r.1∧OwnL m 3 q1' s1' r.2.1):=by
 unfold impl_FindCut at hr
 refine ret_start Try.func53 rfl 44 rfl rfl m hv fun a hF hS=>q_seq (q_region (q_box (cs:=[s1.v,s2.v,s3.v,s4.v]) hF hS rfl rfl rfl fun a w b5 hF hS=>q_x (v:=nilS.v) hF hS (ex_assign rfl) rfl rfl fun a hF=>q_x (v:=nilS.v) hF hS (ex_assign rfl) rfl rfl fun a hF=>q_x (v:=(.bool false)) hF hS (ex_assign rfl) rfl rfl fun a hF=>q_end (n_sq (q_seq (q_seq ?_)))))
 obtain ⟨t_14,hj1,hr⟩:=bindS hr
 refine q_join (fun a w=>Fr a 44 [(1,(.pointer (some ⟨b5,0,none⟩))),(24,(.bool t_14))]∧St [] w0 w m [[⟨b5,[s1.v,s2.v,s3.v,s4.v],50⟩]]) ?_ ?_
 ·refine e_region ⟨[],[],m⟩ mixed fun w' hw'=>?_
  have hS:=hS.below hw'
  refine e_x (v:=(.agg #[s1.v,s2.v,s3.v,s4.v])) 0 hF hS rfl (ex_loadA (vs:=[s1.v,s2.v,s3.v,s4.v]) 0 0 Try.underlying50 rfl sz50 rfl rfl rfl rfl) rfl rfl (by kernel_rfl) (by kernel_rfl) (by kernel_rfl) (by kernel_rfl) fun a hF=>e_one 1 (by kernel_rfl) ?_
  obtain ⟨t_6,ht_6,hj1⟩:=bindS hj1
  refine e_call (vs:=[(.agg #[s1.v,s2.v,s3.v,s4.v])]) hF hS rfl Try.func67 (by kernel_rfl) rfl rfl rfl (c_impl_IsTransport p_t t_6 ht_6 _ m hS.vis s1 h1 s2 h2 s3 h3 s4 h4) ?_
  rintro a w _ rfl hF hS
  refine e_p (v:=(.bool (!t_6))) 2 hF rfl (ex_not rfl) rfl rfl (by kernel_rfl) (by kernel_rfl) (by kernel_rfl) fun a hF=>e_p (v:=(.bool (!t_6))) 3 hF rfl (ex_move rfl) rfl rfl (by kernel_rfl) (by kernel_rfl) (by kernel_rfl) fun a hF=>?_
  rcases bcase (!t_6) with hc2 | hc2
  ·have hj1:=cond_f hc2 hj1
   refine e_pg (v:=(.pointer (some ⟨b5,0,none⟩))) 4 hF rfl (ex_fieldAddr Try.underlying50 rfl sz28 rfl rfl) (wanted_t hF rfl rfl rfl hc2) rfl (by kernel_rfl) (by kernel_rfl) (by kernel_rfl) fun a hF=>e_xg (v:=s1.v) 5 hF hS rfl (ex_load1 0 0 Try.underlying28 rfl rfl rfl rfl) (wanted_t hF rfl rfl rfl hc2) rfl (by kernel_rfl) (by kernel_rfl) (by kernel_rfl) (by kernel_rfl) fun a hF=>e_pg (v:=(.pointer (some ⟨b5,1,none⟩))) 7 hF rfl (ex_fieldAddr Try.underlying50 rfl sz28 rfl rfl) (wanted_t hF rfl rfl rfl hc2) rfl (by kernel_rfl) (by kernel_rfl) (by kernel_rfl) fun a hF=>e_xg (v:=s2.v) 8 hF hS rfl (ex_load1 0 0 Try.underlying28 rfl rfl rfl rfl) (wanted_t hF rfl rfl rfl hc2) rfl (by kernel_rfl) (by kernel_rfl) (by kernel_rfl) (by kernel_rfl) fun a hF=>e_one 6 (by kernel_rfl) ?_
   obtain ⟨t_9,ht_9,hj1⟩:=bindS hj1
   refine e_callg (vs:=[s1.v]) hF hS rfl (wanted_t hF rfl rfl rfl hc2) Try.func80 (by kernel_rfl) rfl rfl rfl (c_impl_total p_t.Rows t_9 ht_9 _ m hS.vis s1 h1) ?_
   rintro a w _ rfl hF hS
   refine e_one 9 (by kernel_rfl) ?_
   obtain ⟨t_10,ht_10,hj1⟩:=bindS hj1
   refine e_callg (vs:=[s2.v]) hF hS rfl (wanted_t hF rfl rfl rfl hc2) Try.func80 (by kernel_rfl) rfl rfl rfl (c_impl_total p_t.Cols t_10 ht_10 _ m hS.vis s2 h2) ?_
   rintro a w _ rfl hF hS
   refine e_pg (v:=(.bool (t_9 != t_10))) 10 hF rfl (ex_ibin rfl rfl rfl) (wanted_t hF rfl rfl rfl hc2) rfl (by kernel_rfl) (by kernel_rfl) (by kernel_rfl) fun a hF=>e_p (v:=(.bool (t_9 != t_10))) 11 hF rfl (ex_pick_f rfl rfl hc2) rfl rfl (by kernel_rfl) (by kernel_rfl) (by kernel_rfl) fun a hF=>e_p (v:=(.bool (t_9 != t_10))) 12 hF rfl (ex_move rfl) rfl rfl (by kernel_rfl) (by kernel_rfl) (by kernel_rfl) fun a hF=>?_
   rcases bcase (t_9 != t_10) with hc3 | hc3
   ·have hj1:=cond_f hc3 hj1
    refine e_xg (v:=(.agg #[s1.v,s2.v,s3.v,s4.v])) 13 hF hS rfl (ex_loadA (vs:=[s1.v,s2.v,s3.v,s4.v]) 0 0 Try.underlying50 rfl sz50 rfl rfl rfl rfl) (wanted_t hF rfl rfl rfl hc3) rfl (by kernel_rfl) (by kernel_rfl) (by kernel_rfl) (by kernel_rfl) fun a hF=>e_one 14 (by kernel_rfl) ?_
    obtain ⟨t_11,ht_11,hj1⟩:=bindS hj1
    refine e_callg (vs:=[(.agg #[s1.v,s2.v,s3.v,s4.v])]) hF hS rfl (wanted_t hF rfl rfl rfl hc3) Try.func124 (by kernel_rfl) rfl rfl rfl (c_impl_anyFlow p_t t_11 ht_11 _ m hS.vis s1 h1 s2 h2 s3 h3 s4 h4) ?_
    rintro a w _ ⟨q13,s13,rfl,hR12,h13,h13n⟩ hF hS2
    have hS : St _ _ _ _ [q13,[⟨b5,[s1.v,s2.v,s3.v,s4.v],50⟩]]:=hS.joinF hR12
    refine e_pg (v:=(.bool (!t_11.isEmpty))) 15 hF rfl (ex_neNilF Try.underlying23 h13n h13.nilE rfl rfl) (wanted_t hF rfl rfl rfl hc3) rfl (by kernel_rfl) (by kernel_rfl) (by kernel_rfl) fun a hF=>e_p (v:=(.bool (!t_11.isEmpty))) 16 hF rfl (ex_pick_f rfl rfl hc3) rfl rfl (by kernel_rfl) (by kernel_rfl) (by kernel_rfl) fun a hF=>e_end (by kernel_rfl) (n_jn ?_) _
    obtain rfl:=someI hj1
    exact ⟨hF.sub ⟨rfl,rfl,trivial⟩,hS.mask [false,true]⟩
   ·have hj1:=cond_t hc3 hj1
    refine e_skipP 13 hF rfl (wanted_f hF rfl rfl rfl hc3 rfl) rfl (by kernel_rfl) (by kernel_rfl) (by kernel_rfl) fun a hF=>e_skipP 14 hF rfl (wanted_f hF rfl rfl rfl hc3 rfl) rfl (by kernel_rfl) (by kernel_rfl) (by kernel_rfl) fun a hF=>e_skipP 15 hF rfl (wanted_f hF rfl rfl rfl hc3 rfl) rfl (by kernel_rfl) (by kernel_rfl) (by kernel_rfl) fun a hF=>e_p (v:=(.bool true)) 16 hF rfl (ex_pick_t rfl rfl hc3) rfl rfl (by kernel_rfl) (by kernel_rfl) (by kernel_rfl) fun a hF=>e_end (by kernel_rfl) (n_jn ?_) _
    obtain rfl:=someI hj1
    exact ⟨hF.sub ⟨rfl,rfl,trivial⟩,hS⟩
  ·have hj1:=cond_t hc2 hj1
   refine e_skipP 4 hF rfl (wanted_f hF rfl rfl rfl hc2 rfl) rfl (by kernel_rfl) (by kernel_rfl) (by kernel_rfl) fun a hF=>e_skipP 5 hF rfl (wanted_f hF rfl rfl rfl hc2 rfl) rfl (by kernel_rfl) (by kernel_rfl) (by kernel_rfl) fun a hF=>e_skipP 6 hF rfl (wanted_f hF rfl rfl rfl hc2 rfl) rfl (by kernel_rfl) (by kernel_rfl) (by kernel_rfl) fun a hF=>e_skipP 7 hF rfl (wanted_f hF rfl rfl rfl hc2 rfl) rfl (by kernel_rfl) (by kernel_rfl) (by kernel_rfl) fun a hF=>e_skipP 8 hF rfl (wanted_f hF rfl rfl rfl hc2 rfl) rfl (by kernel_rfl) (by kernel_rfl) (by kernel_rfl) fun a hF=>e_skipP 9 hF rfl (wanted_f hF rfl rfl rfl hc2 rfl) rfl (by kernel_rfl) (by kernel_rfl) (by kernel_rfl) fun a hF=>e_skipP 10 hF rfl (wanted_f hF rfl rfl rfl hc2 rfl) rfl (by kernel_rfl) (by kernel_rfl) (by kernel_rfl) fun a hF=>e_p (v:=(.bool true)) 11 hF rfl (ex_pick_t rfl rfl hc2) rfl rfl (by kernel_rfl) (by kernel_rfl) (by kernel_rfl) fun a hF=>e_p (v:=(.bool true)) 12 hF rfl (ex_move rfl) rfl rfl (by kernel_rfl) (by kernel_rfl) (by kernel_rfl) fun a hF=>e_skipP 13 hF rfl (wanted_f hF rfl rfl rfl rfl rfl) rfl (by kernel_rfl) (by kernel_rfl) (by kernel_rfl) fun a hF=>e_skipP 14 hF rfl (wanted_f hF rfl rfl rfl rfl rfl) rfl (by kernel_rfl) (by kernel_rfl) (by kernel_rfl) fun a hF=>e_skipP 15 hF rfl (wanted_f hF rfl rfl rfl rfl rfl) rfl (by kernel_rfl) (by kernel_rfl) (by kernel_rfl) fun a hF=>e_p (v:=(.bool true)) 16 hF rfl (ex_pick_t rfl rfl rfl) rfl rfl (by kernel_rfl) (by kernel_rfl) (by kernel_rfl) fun a hF=>e_end (by kernel_rfl) (n_jn ?_) _
   obtain rfl:=someI hj1
   exact ⟨hF.sub ⟨rfl,rfl,trivial⟩,hS⟩
 ·rintro a w ⟨hF,hS⟩
  refine n_sq ?_
  rcases bcase (t_14) with hc4 | hc4
  ·have hr:=cond_f hc4 hr
   refine q_cond_f hF rfl hc4 (q_skipc (n_sq (q_seq (q_seq (q_region (q_x (v:=(.pointer (some ⟨b5,0,none⟩))) hF hS (ex_fieldAddr Try.underlying50 rfl sz28 rfl rfl) rfl rfl fun a hF=>q_x (v:=s1.v) hF hS (ex_load1 0 0 Try.underlying28 rfl rfl rfl rfl) rfl rfl fun a hF=>q_x (v:=(iV (goLen p_t.Rows))) hF hS (ex_len Try.underlying28 rfl h1.len) rfl rfl fun a hF=>?_))))))
   obtain ⟨t_15,ht_15,hr⟩:=bindS hr
   refine q_x (v:=(iV t_15)) hF hS (ex_shl rfl rfl ht_15) rfl rfl fun a hF=>q_x (v:=(iV 0)) hF hS (ex_move rfl) rfl rfl fun a hF=>q_end (n_sq (q_block ?_))
   obtain ⟨o5,hl5,hr⟩:=bindS hr
   refine q_loop (fun (t_16 : Int) a w=>Fr a 44 [(1,(.pointer (some ⟨b5,0,none⟩))),(28,(iV t_15)),(29,(iV t_16))]∧St [] w0 w m [[⟨b5,[s1.v,s2.v,s3.v,s4.v],50⟩]]) (fun (o : (Unit) ⊕ ((List Int) × (List Int) × Bool)) e a w=>o = .inl ()∧e = .exit 0∧Fr a 44 []∧St [] w0 w m []) hl5 ⟨hF.sub ⟨rfl,rfl,rfl,trivial⟩,hS⟩ ?_ ?_
   ·clear hF hS
    rintro t_16 a w st ⟨hF,hS⟩ hb5
    unfold impl_FindCut_l1 at hb5
    refine q_seq (q_region (q_x (v:=(.bool (decide (t_16 < t_15)))) hF hS (ex_ibin rfl rfl rfl) rfl rfl fun a hF=>q_end (n_sq (q_seq ?_))))
    rcases bcase (decide (t_16 < t_15)) with hc6 | hc6
    ·have hb5:=cond_f hc6 hb5
     refine q_cond_f hF rfl hc6 (q_exit (x_sq ?_))
     obtain rfl:=someI hb5
     exact ⟨nofun,.inl ⟨rfl,rfl,hF.sub trivial,hS.mask [false]⟩⟩
    ·have hb5:=cond_t hc6 hb5
     refine q_cond_t hF rfl hc6 (q_skipc (n_sq (q_seq (q_block (q_seq (q_region (q_x (v:=(iV t_16)) hF hS (ex_move rfl) rfl rfl fun a hF=>q_x (v:=(iV t_16)) hF hS (ex_assign rfl) rfl rfl fun a hF=>q_end (n_sq (q_seq (q_region (q_x (v:=(iV t_16)) hF hS (ex_move rfl) rfl rfl fun a hF=>?_)))))))))))
     obtain ⟨t_17,ht_17,hb5⟩:=bindS hb5
     refine q_call (vs:=[(iV t_16)]) hF hS Try.func128 (by kernel_rfl) rfl rfl rfl (c_impl_membersOf t_16 t_17 ht_17 _ m hS.vis) ?_
     rintro a w _ ⟨q19,s19,rfl,hR18,h19⟩ hF hS2
     have hS : St _ _ _ _ [q19,[⟨b5,[s1.v,s2.v,s3.v,s4.v],50⟩]]:=hS.joinF hR18
     refine q_x (v:=s19.v) hF hS (ex_assign rfl) rfl rfl fun a hF=>q_end (n_sq (q_seq (q_region (q_x (v:=(.agg #[s1.v,s2.v,s3.v,s4.v])) hF hS (ex_loadA (vs:=[s1.v,s2.v,s3.v,s4.v]) 1 0 Try.underlying50 rfl sz50 rfl rfl rfl rfl) rfl rfl fun a hF=>q_x (v:=s19.v) hF hS (ex_move rfl) rfl rfl fun a hF=>?_))))
     obtain ⟨m21,hl21,hv21,hz21⟩:=hS.lend
     obtain ⟨t_20,ht_20,hb5⟩:=bindS hb5
     refine q_call (vs:=[(.agg #[s1.v,s2.v,s3.v,s4.v]),s19.v]) hF hS Try.func129 (by kernel_rfl) rfl rfl rfl (c_impl_colsFor p_t t_17 t_20 ht_20 _ m21 hv21 s1 (h1.mono hl21) s2 (h2.mono hl21) s3 (h3.mono hl21) s4 (h4.mono hl21) s19 (h19.froz hl21 (hz21 0 _ rfl))) ?_
     rintro a w _ ⟨q23,s23,rfl,hR22,h23⟩ hF hS2
     have hS : St _ _ _ _ [q23,q19,[⟨b5,[s1.v,s2.v,s3.v,s4.v],50⟩]]:=hS.joinF hR22
     have h23:=h23.any m
     refine q_x (v:=s23.v) hF hS (ex_assign rfl) rfl rfl fun a hF=>q_end (n_sq (q_seq (q_region (q_x (v:=(.agg #[s1.v,s2.v,s3.v,s4.v])) hF hS (ex_loadA (vs:=[s1.v,s2.v,s3.v,s4.v]) 2 0 Try.underlying50 rfl sz50 rfl rfl rfl rfl) rfl rfl fun a hF=>q_x (v:=s19.v) hF hS (ex_move rfl) rfl rfl fun a hF=>q_x (v:=s23.v) hF hS (ex_move rfl) rfl rfl fun a hF=>?_))))
     obtain ⟨m25,hl25,hv25,hz25⟩:=hS.lend
     obtain ⟨t_24,ht_24,hb5⟩:=bindS hb5
     refine q_call (vs:=[(.agg #[s1.v,s2.v,s3.v,s4.v]),s19.v,s23.v]) hF hS Try.func130 (by kernel_rfl) rfl rfl rfl (c_impl_isCut p_t t_17 t_20 t_24 ht_24 _ m25 hv25 s1 (h1.mono hl25) s2 (h2.mono hl25) s3 (h3.mono hl25) s4 (h4.mono hl25) s19 (h19.froz hl25 (hz25 1 _ rfl)) s23 (h23.froz hl25 (hz25 0 _ rfl))) ?_
     rintro a w _ rfl hF hS
     refine q_end (n_sq ?_)
     rcases bcase (t_24) with hc7 | hc7
     ·have hb5:=cond_f hc7 hb5
      refine q_cond_f hF rfl hc7 (q_skipc (n_ib (n_sq (q_region (q_x (v:=(iV (w64 (t_16 + 1)))) hF hS (ex_ibin rfl rfl rfl) rfl rfl fun a hF=>q_x (v:=(iV (w64 (t_16 + 1)))) hF hS (ex_move rfl) rfl rfl fun a hF=>q_end ?_)))))
      obtain rfl:=someI hb5
      exact ⟨rfl,hF.sub ⟨rfl,rfl,rfl,trivial⟩,hS.mask [false,false,true]⟩
     ·have hb5:=cond_t hc7 hb5
      refine q_cond_t hF rfl hc7 (q_seq (q_region (q_x (v:=s19.v) hF hS (ex_move rfl) rfl rfl fun a hF=>q_x (v:=s23.v) hF hS (ex_move rfl) rfl rfl fun a hF=>q_x (v:=s19.v) hF hS (ex_assign rfl) rfl rfl fun a hF=>q_x (v:=s23.v) hF hS (ex_assign rfl) rfl rfl fun a hF=>q_x (v:=(.bool true)) hF hS (ex_assign rfl) rfl rfl fun a hF=>q_end (n_sq (q_ret (r_ib (r_sq ?_)))))))
      obtain rfl:=someI hb5
      refine ⟨nofun,.inr fun ho=>?_⟩
      subst ho
      refine r_ib (r_sq ?_)
      obtain rfl:=someI hr
      exact ret_of hF hS rfl (.tmp rfl (.tmp rfl (.tmp rfl .nil))) ⟨q19,q23,s19,s23,rfl,hS.sel [1,0] (by decide),h19,h23⟩
   ·rintro e a w ⟨rfl,rfl,hF,hS⟩
    refine x_ib (n_sq ?_)
    refine q_seq (q_region (q_x (v:=nilS.v) hF hS (ex_assign rfl) rfl rfl fun a hF=>q_x (v:=nilS.v) hF hS (ex_assign rfl) rfl rfl fun a hF=>q_x (v:=(.bool false)) hF hS (ex_assign rfl) rfl rfl fun a hF=>q_end (n_sq (q_ret ?_))))
    obtain rfl:=someI hr
    exact ret_of hF hS rfl (.tmp rfl (.tmp rfl (.tmp rfl .nil))) ⟨[],[],nilS,nilS,rfl,hS.sel [0,1] (by decide),(OwnL.nil (α:=Int) m 3),(OwnL.nil (α:=Int) m 3)⟩
  ·have hr:=cond_t hc4 hr
   refine q_cond_t hF rfl hc4 (q_seq (q_region (q_x (v:=nilS.v) hF hS (ex_assign rfl) rfl rfl fun a hF=>q_x (v:=nilS.v) hF hS (ex_assign rfl) rfl rfl fun a hF=>q_x (v:=(.bool false)) hF hS (ex_assign rfl) rfl rfl fun a hF=>q_end (n_sq (q_ret (r_sq ?_))))))
   obtain rfl:=someI hr
   exact ret_of hF hS rfl (.tmp rfl (.tmp rfl (.tmp rfl .nil))) ⟨[],[],nilS,nilS,rfl,hS.sel [1,2] (by decide),(OwnL.nil (α:=Int) m 3),(OwnL.nil (α:=Int) m 3)⟩

theorem c_spec_l1Has (p_l : List Int) (p_n : Int) (r : Bool) (hr : spec_l1Has p_l p_n = some r) (w0 : World) (m : Mem) (hv : Vis m w0) (s1 : Sl) (h1 : Rd m s1 p_l) :
  Ret Try.prog 171 [s1.v,(iV p_n)] w0 (fun v _=>v = (.bool r)):=by
 unfold spec_l1Has at hr
 refine ret_start Try.func171 rfl 17 rfl rfl m hv fun a hF hS=>q_seq (q_region (q_x (v:=(.bool false)) hF hS (ex_assign rfl) rfl rfl fun a hF=>q_end (n_sq (q_seq (q_seq (q_region (q_x (v:=s1.v) hF hS (ex_move rfl) rfl rfl fun a hF=>q_x (v:=(iV (goLen p_l))) hF hS (ex_len Try.underlying28 rfl h1.len) rfl rfl fun a hF=>q_x (v:=(iV 0)) hF hS (ex_move rfl) rfl rfl fun a hF=>q_end (n_sq (q_block ?_)))))))))
 obtain ⟨o1,hl1,hr⟩:=bindS hr
 refine q_loop (fun (t_2 : Int) a w=>Fr a 17 [(1,(iV p_n)),(7,s1.v),(8,(iV (goLen p_l))),(9,(iV t_2))]∧St [] w0 w m []) (fun (o : (Unit) ⊕ (Bool)) e a w=>o = .inl ()∧e = .exit 0∧Fr a 17 []∧St [] w0 w m []) hl1 ⟨hF.sub ⟨rfl,rfl,rfl,rfl,trivial⟩,hS⟩ ?_ ?_
 ·clear hF hS
  rintro t_2 a w st ⟨hF,hS⟩ hb1
  unfold spec_l1Has_l1 at hb1
  refine q_seq (q_region (q_x (v:=(.bool (decide (t_2 < (goLen p_l))))) hF hS (ex_ibin rfl rfl rfl) rfl rfl fun a hF=>q_end (n_sq (q_seq ?_))))
  rcases bcase (decide (t_2 < (goLen p_l))) with hc2 | hc2
  ·have hb1:=cond_f hc2 hb1
   refine q_cond_f hF rfl hc2 (q_exit (x_sq ?_))
   obtain rfl:=someI hb1
   exact ⟨nofun,.inl ⟨rfl,rfl,hF.sub trivial,hS⟩⟩
  ·have hb1:=cond_t hc2 hb1
   refine q_cond_t hF rfl hc2 (q_skipc (n_sq (q_seq (q_block (q_seq (q_region ?_))))))
   obtain ⟨e_3,he_3,hb1⟩:=bindS hb1
   obtain ⟨vs4,at4,d4⟩:=h1.at he_3 1 rfl
   obtain rfl : vs4 = [(iV e_3)]:=d4
   refine q_x (v:=(elP s1 (t_2.toNat * 1))) hF hS (ex_indexAddr Try.underlying28 sz3 rfl rfl (h1.idx he_3)) rfl rfl fun a hF=>q_x (v:=(iV e_3)) hF hS (ex_loadE1 0 Try.underlying3 rfl rfl ((at4).at) rfl rfl) rfl rfl fun a hF=>q_x (v:=(iV e_3)) hF hS (ex_assign rfl) rfl rfl fun a hF=>q_end (n_sq (q_seq (q_region (q_x (v:=(iV e_3)) hF hS (ex_move rfl) rfl rfl fun a hF=>q_x (v:=(iV p_n)) hF hS (ex_move rfl) rfl rfl fun a hF=>q_x (v:=(.bool (e_3 == p_n))) hF hS (ex_ibin rfl rfl rfl) rfl rfl fun a hF=>q_end (n_sq ?_)))))
   rcases bcase (e_3 == p_n) with hc3 | hc3
   ·have hb1:=cond_f hc3 hb1
    refine q_cond_f hF rfl hc3 (q_skipc (n_ib (n_sq (q_region (q_x (v:=(iV (w64 (t_2 + 1)))) hF hS (ex_ibin rfl rfl rfl) rfl rfl fun a hF=>q_x (v:=(iV (w64 (t_2 + 1)))) hF hS (ex_move rfl) rfl rfl fun a hF=>q_end ?_)))))
    obtain rfl:=someI hb1
    exact ⟨rfl,hF.sub ⟨rfl,rfl,rfl,rfl,trivial⟩,hS⟩
   ·have hb1:=cond_t hc3 hb1
    refine q_cond_t hF rfl hc3 (q_seq (q_region (q_x (v:=(.bool true)) hF hS (ex_assign rfl) rfl rfl fun a hF=>q_end (n_sq (q_ret (r_ib (r_sq ?_)))))))
    obtain rfl:=someI hb1
    refine ⟨nofun,.inr fun ho=>?_⟩
    subst ho
    refine r_ib (r_sq ?_)
    obtain rfl:=someI hr
    exact ret_of hF hS rfl (.tmp rfl .nil) rfl
 ·rintro e a w ⟨rfl,rfl,hF,hS⟩
  refine x_ib (n_sq ?_)
  refine q_seq (q_region (q_x (v:=(.bool false)) hF hS (ex_assign rfl) rfl rfl fun a hF=>q_end (n_sq (q_ret ?_))))
  obtain rfl:=someI hr
  exact ret_of hF hS rfl (.tmp rfl .nil) rfl

end Go.Proofs.Ytpjcfmpfiadkgaa
