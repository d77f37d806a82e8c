/- The walks of the functions: each returns what its plain function says. -/
import Derived.Test.YtpjcfmpfiadkgaaGreatSWalks2
namespace Go.Proofs.YtpjcfmpfiadkgaaGreat
open Go.Gx Go.Gx.F Go.RowKit
set_option linter.all false
set_option maxRecDepth 10000

theorem c_spec_l1Least (p_a : Int) (p_b : Int) (r : Int) (hr : spec_l1Least p_a p_b = some r) (w0 : World) (m : Mem) (hv : Vis m w0) :
  Ret Tryz.prog 109 [(iV p_a),(iV p_b)] w0 (fun v _=>v = (iV r)):=by
 unfold spec_l1Least at hr
 refine ret_start Tryz.func109 rfl 10 rfl rfl m hv fun a hF hS=>q_sr (q_s hF rfl fun a hF=>q_end (n_sq (q_seq (q_sr (q_m hF rfl fun a hF=>q_m hF rfl fun a hF=>q_y (v:=(.bool (decide (p_a < p_b)))) hF hS (ex_ibin rfl rfl rfl) fun a hF=>q_end (n_sq ?_))))))
 rcases bcase (decide (p_a < p_b)) with hc1 | hc1
 ·have hr:=cond_f hc1 hr
  refine q_cond_f hF rfl hc1 (q_skipc (n_sq (q_sr (q_m hF rfl fun a hF=>q_s hF rfl fun a hF=>q_end (n_sq (q_ret ?_))))))
  obtain rfl:=someI hr
  exact ret_of hF hS rfl (.tmp rfl .nil) rfl
 ·have hr:=cond_t hc1 hr
  refine q_cond_t hF rfl hc1 (q_sr (q_m hF rfl fun a hF=>q_s hF rfl fun a hF=>q_end (n_sq (q_ret (r_sq ?_)))))
  obtain rfl:=someI hr
  exact ret_of hF hS rfl (.tmp rfl .nil) rfl

theorem c_spec_tFill_push (p_f : spec_tFill) (p_from : List Int) (p_end : Int) (r : spec_tFill) (hr : spec_tFill_push p_f p_from p_end = some r) (w0 : World) (m : Mem) (b_p_f : Nat) (s1 : Sl) (h1 : Rd m s1 p_f.t.Rows) (s2 : Sl) (h2 : Rd m s2 p_f.t.Cols) (s3 : Sl) (h3 : Rd m s3 p_f.t.Lo) (s4 : Sl) (h4 : Rd m s4 p_f.t.Hi) (s5 : Sl) (q5 : Piece) (h5 : OwnD m 48 3 q5 s5 p_f.x) (s6 : Sl) (q6 : Piece) (h6 : OwnL m 3 q6 s6 p_f.rows) (s7 : Sl) (q7 : Piece) (h7 : OwnL m 3 q7 s7 p_f.cols) (s8 : Sl) (h8 : Rd m s8 p_from) (X : List Nat) (hS : St X w0 w0 m [[⟨b_p_f,[s1.v,s2.v,s3.v,s4.v,s5.v,s6.v,s7.v],116⟩],q5,q6,q7]) :
  RetX Tryz.prog 107 [(pP b_p_f 0),s8.v,(iV p_end)] w0 (fun v w=>∃ (q4' : Piece) (q5' : Piece) (q6' : Piece) (s4' : Sl) (s5' : Sl) (s6' : Sl),v = (.tuple #[])∧St X w0 w m [[⟨b_p_f,[s1.v,s2.v,s3.v,s4.v,s4'.v,s5'.v,s6'.v],116⟩],q4',q5',q6']∧r.t.Rows = p_f.t.Rows∧r.t.Cols = p_f.t.Cols∧r.t.Lo = p_f.t.Lo∧r.t.Hi = p_f.t.Hi∧OwnD m 48 3 q4' s4' r.x∧OwnL m 3 q5' s5' r.rows∧OwnL m 3 q6' s6' r.cols):=by
 unfold spec_tFill_push at hr
 refine ret_startX Tryz.func107 rfl 123 rfl rfl fun a hF=>q_sr (q_m hF rfl fun a hF=>q_y (v:=(pP b_p_f 0)) hF hS (ex_nilCheck rfl) fun a hF=>q_y (v:=(pP b_p_f 5)) hF hS (ex_fieldAddr U116 rfl sz48 rfl rfl) fun a hF=>q_y (v:=s6.v) hF hS (ex_load1 0 0 U48 rfl rfl rfl rfl) fun a hF=>q_y (v:=(iV (goLen p_f.rows))) hF hS (ex_len U48 rfl h6.len) fun a hF=>q_s hF rfl fun a hF=>q_end (n_sq (q_sr (q_m hF rfl fun a hF=>q_y (v:=(pP b_p_f 0)) hF hS (ex_nilCheck rfl) fun a hF=>q_y (v:=(pP b_p_f 6)) hF hS (ex_fieldAddr U116 rfl sz48 rfl rfl) fun a hF=>q_y (v:=s7.v) hF hS (ex_load1 0 0 U48 rfl rfl rfl rfl) fun a hF=>q_m hF rfl fun a hF=>q_m hF rfl fun a hF=>q_y (v:=(iV (w64 (p_end - (goLen p_f.rows))))) hF hS (ex_ibin rfl rfl rfl) fun a hF=>?_))))
 obtain ⟨e_9,he_9,hr⟩:=bindS hr
 obtain ⟨vs10,at10,d10⟩:=h7.at he_9 1 rfl
 obtain rfl : vs10 = [(iV e_9)]:=d10
 refine q_y (v:=(elP s7 ((w64 (p_end - (goLen p_f.rows))).toNat * 1))) hF hS (ex_indexAddr U48 sz3 rfl rfl (h7.idx he_9)) fun a hF=>q_y (v:=(iV e_9)) hF hS (ex_loadE1 0 U3 rfl rfl (at10.at 3 rfl) rfl rfl) fun a hF=>q_s hF rfl fun a hF=>q_end (n_sq (q_sr (q_m hF rfl fun a hF=>q_s hF rfl fun a hF=>q_end (n_sq (q_seq (q_block ?_))))))
 obtain ⟨o1,hl1,hr⟩:=bindS hr
 refine q_loop (fun (s : Int × Int) a w=>∃ most_11,∃ start_12,s = (most_11,start_12)∧Fr a 123 [(0,(pP b_p_f 0)),(1,s8.v),(2,(iV p_end)),(6,(iV (goLen p_f.rows))),(7,(iV most_11)),(8,(iV start_12))]∧St X w0 w m [[⟨b_p_f,[s1.v,s2.v,s3.v,s4.v,s5.v,s6.v,s7.v],116⟩],q5,q6,q7]) (fun (o : Int × Int) e a w=>∃ most_22,∃ start_23,o = (most_22,start_23)∧e = .exit 0∧Fr a 123 [(0,(pP b_p_f 0)),(1,s8.v),(2,(iV p_end)),(6,(iV (goLen p_f.rows))),(7,(iV most_22)),(8,(iV start_23))]∧St X w0 w m [q5,q6,q7,[⟨b_p_f,[s1.v,s2.v,s3.v,s4.v,s5.v,s6.v,s7.v],116⟩]]) hl1 ⟨_,_,rfl,hF.sub ⟨rfl,rfl,rfl,rfl,rfl,rfl,trivial⟩,hS⟩ ?_ ?_
 ·clear hF hS
  rintro s a w st ⟨most_11,start_12,rfl,hF,hS⟩ hb1
  unfold spec_tFill_push_l1 at hb1
  refine q_seq (q_sr (q_m hF rfl fun a hF=>q_m hF rfl fun a hF=>?_))
  obtain ⟨e_13,he_13,hb1⟩:=bindS hb1
  obtain ⟨vs14,at14,d14⟩:=h8.at he_13 1 rfl
  obtain rfl : vs14 = [(iV e_13)]:=d14
  refine q_y (v:=(elP s8 (start_12.toNat * 1))) hF hS (ex_indexAddr U48 sz3 rfl rfl (h8.idx he_13)) fun a hF=>q_y (v:=(iV e_13)) hF hS (ex_loadE1 0 U3 rfl rfl ((at14).at) rfl rfl) fun a hF=>q_y (v:=(.bool (decide (0 ≤ e_13)))) hF hS (ex_ibin rfl rfl rfl) fun a hF=>q_end (n_sq ?_)
  rcases bcase (decide (0 ≤ e_13)) with hc2 | hc2
  ·have hb1:=cond_f hc2 hb1
   refine q_cond_f hF rfl hc2 (q_exit (x_sq ?_))
   obtain rfl:=someI hb1
   exact ⟨nofun,.inl ⟨_,_,rfl,rfl,hF.sub ⟨rfl,rfl,rfl,rfl,rfl,rfl,trivial⟩,hS.sel [1,2,3,0] (by decide)⟩⟩
  ·have hb1:=cond_t hc2 hb1
   refine q_cond_t hF rfl hc2 (q_skipc (n_sq (q_block (q_sr (q_m hF rfl fun a hF=>q_m hF rfl fun a hF=>q_m hF rfl fun a hF=>q_m hF rfl fun a hF=>?_)))))
   obtain ⟨e_15,he_15,hb1⟩:=bindS hb1
   obtain ⟨vs16,at16,d16⟩:=h8.at he_15 1 rfl
   obtain rfl : vs16 = [(iV e_15)]:=d16
   refine q_y (v:=(elP s8 (start_12.toNat * 1))) hF hS (ex_indexAddr U48 sz3 rfl rfl (h8.idx he_15)) fun a hF=>q_y (v:=(iV e_15)) hF hS (ex_loadE1 0 U3 rfl rfl ((at16).at) rfl rfl) fun a hF=>q_m hF rfl fun a hF=>?_
   have hS17 : St _ _ _ _ ([[⟨b_p_f,[s1.v,s2.v,s3.v,s4.v,s5.v,s6.v,s7.v],116⟩]]++[q5,q6,q7]):=hS
   obtain ⟨m17,hl17,hE17,hz17⟩:=hS17.lendX
   obtain ⟨t_18,ht_18,hb1⟩:=bindS hb1
   refine q_do rfl fun _ hK=>wp_callX (vs:=[(pP b_p_f 0),(iV e_15),(iV start_12)]) hF Tryz.func108 (by kernel_rfl) rfl rfl rfl (c_spec_tFill_room p_f e_15 start_12 t_18 ht_18 _ m17 b_p_f s1 (h1.mono hl17) s2 (h2.mono hl17) s3 (h3.mono hl17) s4 (h4.mono hl17) s5 (h5.froz hl17 (hz17 0 _ rfl)) s6 (h6.froz hl17 (hz17 1 _ rfl)) s7 (h7.froz hl17 (hz17 2 _ rfl)) _ hE17) fun a w _ hR hF=>hK _ _ ?_
   obtain ⟨rfl,hR17⟩:=hR
   have hS : St _ _ _ _ [[⟨b_p_f,[s1.v,s2.v,s3.v,s4.v,s5.v,s6.v,s7.v],116⟩],q5,q6,q7]:=hS17.leaveF hR17
   obtain ⟨t_19,ht_19,hb1⟩:=bindS hb1
   refine q_call (vs:=[(iV most_11),(iV t_18)]) hF hS Tryz.func109 (by kernel_rfl) rfl rfl rfl (c_spec_l1Least most_11 t_18 t_19 ht_19 _ m hS.vis) ?_
   rintro a w _ rfl hF hS
   refine q_s hF rfl fun a hF=>q_end (n_sq (q_region (q_m hF rfl fun a hF=>q_m hF rfl fun a hF=>?_)))
   obtain ⟨e_20,he_20,hb1⟩:=bindS hb1
   obtain ⟨vs21,at21,d21⟩:=h8.at he_20 1 rfl
   obtain rfl : vs21 = [(iV e_20)]:=d21
   refine q_y (v:=(elP s8 (start_12.toNat * 1))) hF hS (ex_indexAddr U48 sz3 rfl rfl (h8.idx he_20)) fun a hF=>q_y (v:=(iV e_20)) hF hS (ex_loadE1 0 U3 rfl rfl ((at21).at) rfl rfl) fun a hF=>q_s hF rfl fun a hF=>q_end (n_ib ?_)
   obtain rfl:=someI hb1
   exact ⟨rfl,_,_,rfl,hF.sub ⟨rfl,rfl,rfl,rfl,rfl,rfl,trivial⟩,hS⟩
 ·rintro e a w ⟨most_22,start_23,rfl,rfl,hF,hS⟩
  refine x_ib (n_sq ?_)
  refine q_sr (q_m hF rfl fun a hF=>q_m hF rfl fun a hF=>q_y (v:=(pP b_p_f 0)) hF hS (ex_nilCheck rfl) fun a hF=>q_y (v:=(pP b_p_f 5)) hF hS (ex_fieldAddr U116 rfl sz48 rfl rfl) fun a hF=>q_y (v:=s6.v) hF hS (ex_load1 3 0 U48 rfl rfl rfl rfl) fun a hF=>q_m hF rfl fun a hF=>?_)
  obtain ⟨e_24,he_24,hr⟩:=bindS hr
  obtain ⟨vs25,at25,d25⟩:=h6.at he_24 1 rfl
  obtain rfl : vs25 = [(iV e_24)]:=d25
  refine q_y (v:=(elP s6 (start_23.toNat * 1))) hF hS (ex_indexAddr U48 sz3 rfl rfl (h6.idx he_24)) fun a hF=>q_y (v:=(iV e_24)) hF hS (ex_loadE1 0 U3 rfl rfl (at25.at 1 rfl) rfl rfl) fun a hF=>?_
  obtain ⟨t_26,ht_26,hr⟩:=bindS hr
  refine q_call (vs:=[(iV most_22),(iV e_24)]) hF hS Tryz.func109 (by kernel_rfl) rfl rfl rfl (c_spec_l1Least most_22 e_24 t_26 ht_26 _ m hS.vis) ?_
  rintro a w _ rfl hF hS
  refine q_s hF rfl fun a hF=>q_end (n_sq (q_seq (q_sr (q_m hF rfl fun a hF=>q_s hF rfl fun a hF=>q_end (n_sq (q_block ?_))))))
  obtain ⟨p_f_57,hl3,hr⟩:=bindS hr
  refine q_loop (fun (s : Int × spec_tFill) a w=>∃ (q33 : Piece),∃ v_27,∃ p_f_28,s = (v_27,p_f_28)∧Fr a 123 [(0,(pP b_p_f 0)),(1,s8.v),(2,(iV p_end)),(6,(iV (goLen p_f.rows))),(7,(iV t_26)),(8,(iV start_23)),(9,(iV v_27))]∧St X w0 w m [q33,q6,q7,[⟨b_p_f,[s1.v,s2.v,s3.v,s4.v,s5.v,s6.v,s7.v],116⟩]]∧Rd m s1 p_f_28.t.Rows∧p_f_28.t.Rows = p_f.t.Rows∧Rd m s2 p_f_28.t.Cols∧p_f_28.t.Cols = p_f.t.Cols∧Rd m s3 p_f_28.t.Lo∧p_f_28.t.Lo = p_f.t.Lo∧Rd m s4 p_f_28.t.Hi∧p_f_28.t.Hi = p_f.t.Hi∧OwnD m 48 3 q33 s5 p_f_28.x∧OwnL m 3 q6 s6 p_f_28.rows∧p_f_28.rows = p_f.rows∧OwnL m 3 q7 s7 p_f_28.cols∧p_f_28.cols = p_f.cols) (fun (p_f_57 : spec_tFill) e a w=>∃ (q62 : Piece),e = .exit 2∧Fr a 123 [(0,(pP b_p_f 0)),(2,(iV p_end)),(6,(iV (goLen p_f.rows))),(7,(iV t_26)),(8,(iV start_23))]∧St X w0 w m [q62,q6,q7,[⟨b_p_f,[s1.v,s2.v,s3.v,s4.v,s5.v,s6.v,s7.v],116⟩]]∧Rd m s1 p_f_57.t.Rows∧p_f_57.t.Rows = p_f.t.Rows∧Rd m s2 p_f_57.t.Cols∧p_f_57.t.Cols = p_f.t.Cols∧Rd m s3 p_f_57.t.Lo∧p_f_57.t.Lo = p_f.t.Lo∧Rd m s4 p_f_57.t.Hi∧p_f_57.t.Hi = p_f.t.Hi∧OwnD m 48 3 q62 s5 p_f_57.x∧OwnL m 3 q6 s6 p_f_57.rows∧p_f_57.rows = p_f.rows∧OwnL m 3 q7 s7 p_f_57.cols∧p_f_57.cols = p_f.cols) hl3 ⟨q5,_,_,rfl,hF.sub ⟨rfl,rfl,rfl,rfl,rfl,rfl,rfl,trivial⟩,hS,h1,rfl,h2,rfl,h3,rfl,h4,rfl,h5,h6,rfl,h7,rfl⟩ ?_ ?_
  ·clear hF hS
   rintro s a w st ⟨q33,v_27,p_f_28,rfl,hF,hS,h29,h29k,h30,h30k,h31,h31k,h32,h32k,h33,h34,h34k,h35,h35k⟩ hb3
   unfold spec_tFill_push_l2 at hb3
   refine q_seq (q_sr (q_m hF rfl fun a hF=>q_m hF rfl fun a hF=>?_))
   obtain ⟨e_36,he_36,hb3⟩:=bindS hb3
   obtain ⟨vs37,at37,d37⟩:=h8.at he_36 1 rfl
   obtain rfl : vs37 = [(iV e_36)]:=d37
   refine q_y (v:=(elP s8 (v_27.toNat * 1))) hF hS (ex_indexAddr U48 sz3 rfl rfl (h8.idx he_36)) fun a hF=>q_y (v:=(iV e_36)) hF hS (ex_loadE1 0 U3 rfl rfl ((at37).at) rfl rfl) fun a hF=>q_y (v:=(.bool (decide (0 ≤ e_36)))) hF hS (ex_ibin rfl rfl rfl) fun a hF=>q_end (n_sq ?_)
   rcases bcase (decide (0 ≤ e_36)) with hc4 | hc4
   ·have hb3:=cond_f hc4 hb3
    refine q_cond_f hF rfl hc4 (q_exit (x_sq ?_))
    obtain rfl:=someI hb3
    exact ⟨nofun,.inl ⟨q33,rfl,hF.sub ⟨rfl,rfl,rfl,rfl,rfl,trivial⟩,hS,h29,h29k,h30,h30k,h31,h31k,h32,h32k,h33,h34,h34k,h35,h35k⟩⟩
   ·have hb3:=cond_t hc4 hb3
    refine q_cond_t hF rfl hc4 (q_skipc (n_sq (q_seq (q_block (q_sr (q_m hF rfl fun a hF=>q_m hF rfl fun a hF=>q_y (v:=(.bool (decide ((goLen p_f.rows) ≤ v_27)))) hF hS (ex_ibin rfl rfl rfl) fun a hF=>q_end (n_sq ?_)))))))
    obtain ⟨p_f_47,hj5,hb3⟩:=bindS hb3
    refine q_join (fun a w=>∃ (q52 : Piece),Fr a 123 [(0,(pP b_p_f 0)),(1,s8.v),(2,(iV p_end)),(6,(iV (goLen p_f.rows))),(7,(iV t_26)),(8,(iV start_23)),(9,(iV v_27))]∧St X w0 w m [q52,q6,q7,[⟨b_p_f,[s1.v,s2.v,s3.v,s4.v,s5.v,s6.v,s7.v],116⟩]]∧Rd m s1 p_f_47.t.Rows∧p_f_47.t.Rows = p_f.t.Rows∧Rd m s2 p_f_47.t.Cols∧p_f_47.t.Cols = p_f.t.Cols∧Rd m s3 p_f_47.t.Lo∧p_f_47.t.Lo = p_f.t.Lo∧Rd m s4 p_f_47.t.Hi∧p_f_47.t.Hi = p_f.t.Hi∧OwnD m 48 3 q52 s5 p_f_47.x∧OwnL m 3 q6 s6 p_f_47.rows∧p_f_47.rows = p_f.rows∧OwnL m 3 q7 s7 p_f_47.cols∧p_f_47.cols = p_f.cols) ?_ ?_
    ·rcases bcase (decide ((goLen p_f.rows) ≤ v_27)) with hc6 | hc6
     ·have hj5:=cond_f hc6 hj5
      refine q_cond_f hF rfl hc6 (e_region ⟨[18],[],m⟩ mixed fun w' hw'=>?_)
      have hS:=hS.below hw'
      refine e_P (v:=(pP b_p_f 0)) 0 hF rfl (ex_move rfl) fun a hF=>e_P (v:=(pP b_p_f 0)) 1 hF rfl (ex_nilCheck rfl) fun a hF=>e_P (v:=(pP b_p_f 4)) 2 hF rfl (ex_fieldAddr U116 rfl sz23 rfl rfl) fun a hF=>e_X (v:=s5.v) 3 hF hS rfl (ex_load1 3 0 U23 rfl rfl rfl rfl) fun a hF=>e_P (v:=(iV v_27)) 4 hF rfl (ex_move rfl) fun a hF=>?_
      obtain ⟨e_38,he_38,hj5⟩:=bindS hj5
      obtain ⟨s39,hV39⟩:=h33.view he_38
      refine e_P (v:=(elP s5 (v_27.toNat * 1))) 5 hF rfl (ex_indexAddr U23 sz48 rfl rfl (h33.idx he_38)) fun a hF=>e_X (v:=s39.v) 6 hF hS rfl (ex_loadE1 0 U48 rfl rfl ((hV39.atH he_38).at 0 rfl) rfl rfl) fun a hF=>e_P (v:=s8.v) 7 hF rfl (ex_move rfl) fun a hF=>e_P (v:=(iV v_27)) 8 hF rfl (ex_move rfl) fun a hF=>?_
      obtain ⟨e_40,he_40,hj5⟩:=bindS hj5
      obtain ⟨vs41,at41,d41⟩:=h8.at he_40 1 rfl
      obtain rfl : vs41 = [(iV e_40)]:=d41
      refine e_P (v:=(elP s8 (v_27.toNat * 1))) 9 hF rfl (ex_indexAddr U48 sz3 rfl rfl (h8.idx he_40)) fun a hF=>e_xm (v:=(iV e_40)) 10 hF hS (Mem.le.refl _) rfl (ex_loadE1 0 U3 rfl rfl ((at41).at) rfl rfl) rfl rfl (by kernel_rfl) (by kernel_rfl) (by kernel_rfl) fun a hF=>e_P (v:=(iV (goLen p_f.rows))) 11 hF rfl (ex_move rfl) fun a hF=>e_P (v:=(iV (w64 (e_40 - (goLen p_f.rows))))) 12 hF rfl (ex_ibin rfl rfl rfl) fun a hF=>?_
      obtain ⟨e_42,he_42,hj5⟩:=bindS hj5
      obtain ⟨vs43,at43,d43⟩:=hV39.at he_38 he_42 1 rfl
      obtain rfl : vs43 = [(iV e_42)]:=d43
      refine e_P (v:=(elP s39 ((w64 (e_40 - (goLen p_f.rows))).toNat * 1))) 13 hF rfl (ex_indexAddr U48 sz3 rfl rfl (hV39.idx he_38 he_42)) fun a hF=>e_X (v:=(iV e_42)) 14 hF hS rfl (ex_loadE1 0 U3 rfl rfl (at43.at 0 rfl) rfl rfl) fun a hF=>e_P (v:=(iV t_26)) 15 hF rfl (ex_move rfl) fun a hF=>e_P (v:=(iV (w64 (e_42 - t_26)))) 16 hF rfl (ex_ibin rfl rfl rfl) fun a hF=>?_
      obtain ⟨e_44,he_44,hj5⟩:=bindS hj5
      obtain ⟨vs45,at45,d45⟩:=hV39.at he_38 he_44 1 rfl
      obtain rfl : vs45 = [(iV e_44)]:=d45
      refine e_P (v:=(elP s39 ((w64 (e_40 - (goLen p_f.rows))).toNat * 1))) 17 hF rfl (ex_indexAddr U48 sz3 rfl rfl (hV39.idx he_38 he_44)) fun a hF=>e_one 18 (by kernel_rfl) (e_opl rfl rfl rfl fun _ hK=>wp_storeV (e':=(w64 (e_42 - t_26))) (us:=[(iV (w64 (e_42 - t_26)))]) (vs:=[(iV e_44)]) 0 hF hS hV39 he_38 sz3 rfl rfl rfl rfl rfl rfl rfl he_44 at45 rfl rfl rfl fun w q46 hS h46=>hK _ _ (⟨⟨kpN,fun _=>hS.vis.of_le (Mem.le.refl _)⟩,?_⟩))
      refine e_end (by kernel_rfl) (n_jn ?_) _
      obtain rfl:=someI hj5
      exact ⟨q46,hF.sub ⟨rfl,rfl,rfl,rfl,rfl,rfl,rfl,trivial⟩,hS,h29,h29k,h30,h30k,h31,h31k,h32,h32k,h46.own,h34,h34k,h35,h35k⟩
     ·have hj5:=cond_t hc6 hj5
      refine q_cond_t hF rfl hc6 (e_region ⟨[18],[],m⟩ mixed fun w' hw'=>?_)
      have hS:=hS.below hw'
      refine e_P (v:=(pP b_p_f 0)) 0 hF rfl (ex_move rfl) fun a hF=>e_P (v:=(pP b_p_f 0)) 1 hF rfl (ex_nilCheck rfl) fun a hF=>e_P (v:=(pP b_p_f 4)) 2 hF rfl (ex_fieldAddr U116 rfl sz23 rfl rfl) fun a hF=>e_X (v:=s5.v) 3 hF hS rfl (ex_load1 3 0 U23 rfl rfl rfl rfl) fun a hF=>e_P (v:=s8.v) 4 hF rfl (ex_move rfl) fun a hF=>e_P (v:=(iV v_27)) 5 hF rfl (ex_move rfl) fun a hF=>?_
      obtain ⟨e_38,he_38,hj5⟩:=bindS hj5
      obtain ⟨vs39,at39,d39⟩:=h8.at he_38 1 rfl
      obtain rfl : vs39 = [(iV e_38)]:=d39
      refine e_P (v:=(elP s8 (v_27.toNat * 1))) 6 hF rfl (ex_indexAddr U48 sz3 rfl rfl (h8.idx he_38)) fun a hF=>e_xm (v:=(iV e_38)) 7 hF hS (Mem.le.refl _) rfl (ex_loadE1 0 U3 rfl rfl ((at39).at) rfl rfl) rfl rfl (by kernel_rfl) (by kernel_rfl) (by kernel_rfl) fun a hF=>?_
      obtain ⟨e_40,he_40,hj5⟩:=bindS hj5
      obtain ⟨s41,hV41⟩:=h33.view he_40
      refine e_P (v:=(elP s5 (e_38.toNat * 1))) 8 hF rfl (ex_indexAddr U23 sz48 rfl rfl (h33.idx he_40)) fun a hF=>e_X (v:=s41.v) 9 hF hS rfl (ex_loadE1 0 U48 rfl rfl ((hV41.atH he_40).at 0 rfl) rfl rfl) fun a hF=>e_P (v:=(iV v_27)) 10 hF rfl (ex_move rfl) fun a hF=>e_P (v:=(iV (goLen p_f.rows))) 11 hF rfl (ex_move rfl) fun a hF=>e_P (v:=(iV (w64 (v_27 - (goLen p_f.rows))))) 12 hF rfl (ex_ibin rfl rfl rfl) fun a hF=>?_
      obtain ⟨e_42,he_42,hj5⟩:=bindS hj5
      obtain ⟨vs43,at43,d43⟩:=hV41.at he_40 he_42 1 rfl
      obtain rfl : vs43 = [(iV e_42)]:=d43
      refine e_P (v:=(elP s41 ((w64 (v_27 - (goLen p_f.rows))).toNat * 1))) 13 hF rfl (ex_indexAddr U48 sz3 rfl rfl (hV41.idx he_40 he_42)) fun a hF=>e_X (v:=(iV e_42)) 14 hF hS rfl (ex_loadE1 0 U3 rfl rfl (at43.at 0 rfl) rfl rfl) fun a hF=>e_P (v:=(iV t_26)) 15 hF rfl (ex_move rfl) fun a hF=>e_P (v:=(iV (w64 (e_42 + t_26)))) 16 hF rfl (ex_ibin rfl rfl rfl) fun a hF=>?_
      obtain ⟨e_44,he_44,hj5⟩:=bindS hj5
      obtain ⟨vs45,at45,d45⟩:=hV41.at he_40 he_44 1 rfl
      obtain rfl : vs45 = [(iV e_44)]:=d45
      refine e_P (v:=(elP s41 ((w64 (v_27 - (goLen p_f.rows))).toNat * 1))) 17 hF rfl (ex_indexAddr U48 sz3 rfl rfl (hV41.idx he_40 he_44)) fun a hF=>e_one 18 (by kernel_rfl) (e_opl rfl rfl rfl fun _ hK=>wp_storeV (e':=(w64 (e_42 + t_26))) (us:=[(iV (w64 (e_42 + t_26)))]) (vs:=[(iV e_44)]) 0 hF hS hV41 he_40 sz3 rfl rfl rfl rfl rfl rfl rfl he_44 at45 rfl rfl rfl fun w q46 hS h46=>hK _ _ (⟨⟨kpN,fun _=>hS.vis.of_le (Mem.le.refl _)⟩,?_⟩))
      refine e_end (by kernel_rfl) (n_jn ?_) _
      obtain rfl:=someI hj5
      exact ⟨q46,hF.sub ⟨rfl,rfl,rfl,rfl,rfl,rfl,rfl,trivial⟩,hS,h29,h29k,h30,h30k,h31,h31k,h32,h32k,h46.own,h34,h34k,h35,h35k⟩
    ·rintro a w ⟨q52,hF,hS,h48,h48k,h49,h49k,h50,h50k,h51,h51k,h52,h53,h53k,h54,h54k⟩
     refine n_ib (n_sq ?_)
     refine q_region (q_m hF rfl fun a hF=>q_m hF rfl fun a hF=>?_)
     obtain ⟨e_55,he_55,hb3⟩:=bindS hb3
     obtain ⟨vs56,at56,d56⟩:=h8.at he_55 1 rfl
     obtain rfl : vs56 = [(iV e_55)]:=d56
     refine q_y (v:=(elP s8 (v_27.toNat * 1))) hF hS (ex_indexAddr U48 sz3 rfl rfl (h8.idx he_55)) fun a hF=>q_y (v:=(iV e_55)) hF hS (ex_loadE1 0 U3 rfl rfl ((at56).at) rfl rfl) fun a hF=>q_s hF rfl fun a hF=>q_end ?_
     obtain rfl:=someI hb3
     exact ⟨rfl,q52,_,_,rfl,hF.sub ⟨rfl,rfl,rfl,rfl,rfl,rfl,rfl,trivial⟩,hS,h48,h48k,h49,h49k,h50,h50k,h51,h51k,h52,h53,h53k,h54,h54k⟩
  ·rintro e a w ⟨q62,rfl,hF,hS,h58,h58k,h59,h59k,h60,h60k,h61,h61k,h62,h63,h63k,h64,h64k⟩
   refine x_ib (n_sq ?_)
   refine q_sr (q_m hF rfl fun a hF=>q_y (v:=(pP b_p_f 0)) hF hS (ex_nilCheck rfl) fun a hF=>q_y (v:=(pP b_p_f 5)) hF hS (ex_fieldAddr U116 rfl sz48 rfl rfl) fun a hF=>q_y (v:=s6.v) hF hS (ex_load1 3 0 U48 rfl rfl rfl rfl) fun a hF=>q_m hF rfl fun a hF=>?_)
   obtain ⟨e_65,he_65,hr⟩:=bindS hr
   obtain ⟨vs66,at66,d66⟩:=h63.at he_65 1 rfl
   obtain rfl : vs66 = [(iV e_65)]:=d66
   refine q_y (v:=(elP s6 (start_23.toNat * 1))) hF hS (ex_indexAddr U48 sz3 rfl rfl (h63.idx he_65)) fun a hF=>q_y (v:=(iV e_65)) hF hS (ex_loadE1 0 U3 rfl rfl (at66.at 1 rfl) rfl rfl) fun a hF=>q_m hF rfl fun a hF=>q_y (v:=(iV (w64 (e_65 - t_26)))) hF hS (ex_ibin rfl rfl rfl) fun a hF=>?_
   obtain ⟨e_67,he_67,hr⟩:=bindS hr
   obtain ⟨vs68,at68,d68⟩:=h63.at he_67 1 rfl
   obtain rfl : vs68 = [(iV e_67)]:=d68
   refine q_y (v:=(elP s6 (start_23.toNat * 1))) hF hS (ex_indexAddr U48 sz3 rfl rfl (h63.idx he_67)) fun a hF=>?_
   have hS : St _ _ _ _ [q6,q62,q7,[⟨b_p_f,[s1.v,s2.v,s3.v,s4.v,s5.v,s6.v,s7.v],116⟩]]:=hS.sel [1,0,2,3] (by decide)
   refine q_do rfl fun _ hK=>wp_storeE (e':=(w64 (e_65 - t_26))) (us:=[(iV (w64 (e_65 - t_26)))]) (vs:=[(iV e_67)]) 0 hF hS h63 sz3 rfl rfl rfl rfl rfl rfl rfl he_67 at68 rfl rfl rfl fun w q69 hS h69=>hK _ _ (q_end (n_sq (q_region (q_m hF rfl fun a hF=>q_y (v:=(pP b_p_f 0)) hF hS (ex_nilCheck rfl) fun a hF=>q_y (v:=(pP b_p_f 6)) hF hS (ex_fieldAddr U116 rfl sz48 rfl rfl) fun a hF=>q_y (v:=s7.v) hF hS (ex_load1 3 0 U48 rfl rfl rfl rfl) fun a hF=>q_m hF rfl fun a hF=>q_m hF rfl fun a hF=>q_y (v:=(iV (w64 (p_end - (goLen p_f.rows))))) hF hS (ex_ibin rfl rfl rfl) fun a hF=>?_))))
   obtain ⟨e_70,he_70,hr⟩:=bindS hr
   obtain ⟨vs71,at71,d71⟩:=h64.at he_70 1 rfl
   obtain rfl : vs71 = [(iV e_70)]:=d71
   refine q_y (v:=(elP s7 ((w64 (p_end - (goLen p_f.rows))).toNat * 1))) hF hS (ex_indexAddr U48 sz3 rfl rfl (h64.idx he_70)) fun a hF=>q_y (v:=(iV e_70)) hF hS (ex_loadE1 0 U3 rfl rfl (at71.at 2 rfl) rfl rfl) fun a hF=>q_m hF rfl fun a hF=>q_y (v:=(iV (w64 (e_70 - t_26)))) hF hS (ex_ibin rfl rfl rfl) fun a hF=>?_
   obtain ⟨e_72,he_72,hr⟩:=bindS hr
   obtain ⟨vs73,at73,d73⟩:=h64.at he_72 1 rfl
   obtain rfl : vs73 = [(iV e_72)]:=d73
   refine q_y (v:=(elP s7 ((w64 (p_end - (goLen p_f.rows))).toNat * 1))) hF hS (ex_indexAddr U48 sz3 rfl rfl (h64.idx he_72)) fun a hF=>?_
   have hS : St _ _ _ _ [q7,q69,q62,[⟨b_p_f,[s1.v,s2.v,s3.v,s4.v,s5.v,s6.v,s7.v],116⟩]]:=hS.sel [2,0,1,3] (by decide)
   refine q_do rfl fun _ hK=>wp_storeE (e':=(w64 (e_70 - t_26))) (us:=[(iV (w64 (e_70 - t_26)))]) (vs:=[(iV e_72)]) 0 hF hS h64 sz3 rfl rfl rfl rfl rfl rfl rfl he_72 at73 rfl rfl rfl fun w q74 hS h74=>hK _ _ (q_end (normal_ret ?_))
   obtain rfl:=someI hr
   exact ret_ofX hF hS rfl .nil ⟨q62,q69,q74,s5,s6,s7,rfl,hS.sel [3,2,1,0] (by decide),h58k,h59k,h60k,h61k,h62,h69,h74⟩

theorem c_spec_tFill_augment (p_f : spec_tFill) (r : Bool × spec_tFill) (hr : spec_tFill_augment p_f = some r) (w0 : World) (m : Mem) (b_p_f : Nat) (s1 : Sl) (h1 : Rd m s1 p_f.t.Rows) (s2 : Sl) (h2 : Rd m s2 p_f.t.Cols) (s3 : Sl) (h3 : Rd m s3 p_f.t.Lo) (s4 : Sl) (h4 : Rd m s4 p_f.t.Hi) (s5 : Sl) (q5 : Piece) (h5 : OwnD m 48 3 q5 s5 p_f.x) (s6 : Sl) (q6 : Piece) (h6 : OwnL m 3 q6 s6 p_f.rows) (s7 : Sl) (q7 : Piece) (h7 : OwnL m 3 q7 s7 p_f.cols) (X : List Nat) (hS : St X w0 w0 m [[⟨b_p_f,[s1.v,s2.v,s3.v,s4.v,s5.v,s6.v,s7.v],116⟩],q5,q6,q7]) :
  RetX Tryz.prog 106 [(pP b_p_f 0)] w0 (fun v w=>∃ (q4' : Piece) (q5' : Piece) (q6' : Piece) (s4' : Sl) (s5' : Sl) (s6' : Sl),v = (.bool r.1)∧St X w0 w m [[⟨b_p_f,[s1.v,s2.v,s3.v,s4.v,s4'.v,s5'.v,s6'.v],116⟩],q4',q5',q6']∧r.2.t.Rows = p_f.t.Rows∧r.2.t.Cols = p_f.t.Cols∧r.2.t.Lo = p_f.t.Lo∧r.2.t.Hi = p_f.t.Hi∧OwnD m 48 3 q4' s4' r.2.x∧OwnL m 3 q5' s5' r.2.rows∧OwnL m 3 q6' s6' r.2.cols):=by
 unfold spec_tFill_augment at hr
 refine ret_startX Tryz.func106 rfl 110 rfl rfl fun a hF=>q_sr (q_s hF rfl fun a hF=>q_end (n_sq (q_seq (e_region ⟨[],[],m⟩ mixed fun w' hw'=>?_))))
 have hS:=hS.below hw'
 refine e_P (v:=(pP b_p_f 0)) 0 hF rfl (ex_move rfl) fun a hF=>e_P (v:=(pP b_p_f 0)) 1 hF rfl (ex_nilCheck rfl) fun a hF=>e_P (v:=(pP b_p_f 5)) 2 hF rfl (ex_fieldAddr U116 rfl sz48 rfl rfl) fun a hF=>e_X (v:=s6.v) 3 hF hS rfl (ex_load1 0 0 U48 rfl rfl rfl rfl) fun a hF=>e_P (v:=(iV (goLen p_f.rows))) 4 hF rfl (ex_len U48 rfl h6.len) fun a hF=>e_P (v:=(pP b_p_f 0)) 5 hF rfl (ex_move rfl) fun a hF=>e_P (v:=(pP b_p_f 0)) 6 hF rfl (ex_nilCheck rfl) fun a hF=>e_P (v:=(pP b_p_f 6)) 7 hF rfl (ex_fieldAddr U116 rfl sz48 rfl rfl) fun a hF=>e_X (v:=s7.v) 8 hF hS rfl (ex_load1 0 0 U48 rfl rfl rfl rfl) fun a hF=>e_P (v:=(iV (goLen p_f.cols))) 9 hF rfl (ex_len U48 rfl h7.len) fun a hF=>e_P (v:=(iV (goLen p_f.rows))) 10 hF rfl (ex_assign rfl) fun a hF=>e_P (v:=(iV (goLen p_f.cols))) 11 hF rfl (ex_assign rfl) fun a hF=>e_end (by kernel_rfl) (n_sq ?_) _
 refine q_sr (q_m hF rfl fun a hF=>q_m hF rfl fun a hF=>q_y (v:=(iV (w64 ((goLen p_f.rows) + (goLen p_f.cols))))) hF hS (ex_ibin rfl rfl rfl) fun a hF=>?_)
 obtain ⟨l_8,hl_8,hr⟩:=bindS hr
 refine q_do rfl fun _ hK=>wp_make (z:=(0 : Int)) hF hS U48 inf3 rfl rfl rfl rfl rfl (by decide) hl_8 rfl fun a w q9 s9 hF hS h9 _=>hK _ _ (q_s hF rfl fun a hF=>q_end (n_sq (q_sr (q_s hF rfl fun a hF=>q_end (n_sq (q_seq (q_sr (q_m hF rfl fun a hF=>q_y (v:=(iV (goLen l_8))) hF hS (ex_len U48 rfl h9.len) fun a hF=>q_m hF rfl fun a hF=>q_end (n_sq (q_block ?_))))))))))
 obtain ⟨o1,hl1,hr⟩:=bindS hr
 refine q_loop (fun (s : (List Int) × (List Int) × Int) a w=>∃ (q11 : Piece),∃ (q13 : Piece),∃ (s13 : Sl),∃ from_10,∃ queue_12,∃ t_14,s = (from_10,queue_12,t_14)∧Fr a 110 [(0,(pP b_p_f 0)),(3,(iV (goLen p_f.rows))),(4,(iV (goLen p_f.cols))),(5,s9.v),(6,s13.v),(26,(iV (goLen l_8))),(27,(iV t_14))]∧St X w0 w m [q11,q13,[⟨b_p_f,[s1.v,s2.v,s3.v,s4.v,s5.v,s6.v,s7.v],116⟩],q5,q6,q7]∧OwnL m 3 q11 s9 from_10∧OwnL m 3 q13 s13 queue_12) (fun (o : (List Int) × (List Int)) e a w=>∃ (q32 : Piece),∃ (q34 : Piece),∃ (s34 : Sl),∃ from_31,∃ queue_33,o = (from_31,queue_33)∧e = .exit 0∧Fr a 110 [(0,(pP b_p_f 0)),(3,(iV (goLen p_f.rows))),(4,(iV (goLen p_f.cols))),(5,s9.v),(6,s34.v)]∧St X w0 w m [q32,q34,q5,q6,q7,[⟨b_p_f,[s1.v,s2.v,s3.v,s4.v,s5.v,s6.v,s7.v],116⟩]]∧OwnL m 3 q32 s9 from_31∧OwnL m 3 q34 s34 queue_33) hl1 ⟨q9,[],nilS,_,_,_,rfl,hF.sub ⟨rfl,rfl,rfl,rfl,rfl,rfl,rfl,trivial⟩,hS.sel [0,5,1,2,3,4] (by decide),h9,(OwnL.nil (α:=Int) m 3)⟩ ?_ ?_
 ·clear hF hS
  rintro s a w st ⟨q11,q13,s13,from_10,queue_12,t_14,rfl,hF,hS,h11,h13⟩ hb1
  unfold spec_tFill_augment_l1 at hb1
  refine q_sr (q_y (v:=(.bool (decide (t_14 < (goLen l_8))))) hF hS (ex_ibin rfl rfl rfl) fun a hF=>q_end (n_sq (q_seq ?_)))
  rcases bcase (decide (t_14 < (goLen l_8))) with hc2 | hc2
  ·have hb1:=cond_f hc2 hb1
   refine q_cond_f hF rfl hc2 (q_exit (x_sq ?_))
   obtain rfl:=someI hb1
   exact ⟨nofun,.inl ⟨q11,q13,s13,_,_,rfl,rfl,hF.sub ⟨rfl,rfl,rfl,rfl,rfl,trivial⟩,hS.sel [0,1,3,4,5,2] (by decide),h11,h13⟩⟩
  ·have hb1:=cond_t hc2 hb1
   refine q_cond_t hF rfl hc2 (q_skipc (n_sq (q_seq (q_block (q_sr (q_m hF rfl fun a hF=>q_s hF rfl fun a hF=>q_end (n_sq (q_sr (q_m hF rfl fun a hF=>q_m hF rfl fun a hF=>?_)))))))))
   obtain ⟨e_15,he_15,hb1⟩:=bindS hb1
   obtain ⟨vs16,at16,d16⟩:=h11.at he_15 1 rfl
   obtain rfl : vs16 = [(iV e_15)]:=d16
   refine q_y (v:=(elP s9 (t_14.toNat * 1))) hF hS (ex_indexAddr U48 sz3 rfl rfl (h11.idx he_15)) fun a hF=>q_do rfl fun _ hK=>wp_storeE (e':=-2) (us:=[(iV (-2))]) (vs:=[(iV e_15)]) 0 hF hS h11 sz3 rfl rfl rfl rfl rfl rfl rfl he_15 at16 rfl rfl rfl fun w q17 hS h17=>hK _ _ (q_end (n_sq (q_seq ?_)))
   obtain ⟨t_20,hj3,hb1⟩:=bindS hb1
   refine q_join (fun a w=>Fr a 110 [(0,(pP b_p_f 0)),(3,(iV (goLen p_f.rows))),(4,(iV (goLen p_f.cols))),(5,s9.v),(6,s13.v),(7,(iV t_14)),(26,(iV (goLen l_8))),(27,(iV t_14)),(45,(.bool t_20))]∧St X w0 w m [q17,q13,q5,q6,q7,[⟨b_p_f,[s1.v,s2.v,s3.v,s4.v,s5.v,s6.v,s7.v],116⟩]]) ?_ ?_
   ·refine q_region (q_m hF rfl fun a hF=>q_m hF rfl fun a hF=>q_y (v:=(.bool (decide (t_14 < (goLen p_f.rows))))) hF hS (ex_ibin rfl rfl rfl) fun a hF=>q_m hF rfl fun a hF=>?_)
    rcases bcase (decide (t_14 < (goLen p_f.rows))) with hc4 | hc4
    ·have hj3:=cond_f hc4 hj3
     refine q_k hF hc4 fun a hF=>q_k hF hc4 fun a hF=>q_k hF hc4 fun a hF=>q_k hF hc4 fun a hF=>q_k hF hc4 fun a hF=>q_k hF hc4 fun a hF=>q_k hF hc4 fun a hF=>q_k hF hc4 fun a hF=>q_y (v:=(.bool false)) hF hS (ex_pick_f rfl rfl hc4) fun a hF=>q_end (n_jn ?_)
     obtain rfl:=someI hj3
     exact ⟨hF.sub ⟨rfl,rfl,rfl,rfl,rfl,rfl,rfl,rfl,rfl,trivial⟩,hS.sel [0,1,3,4,5,2] (by decide)⟩
    ·have hj3:=cond_t hc4 hj3
     refine q_g (v:=(pP b_p_f 0)) hF hS (ex_move rfl) hc4 fun a hF=>q_g (v:=(pP b_p_f 0)) hF hS (ex_nilCheck rfl) hc4 fun a hF=>q_g (v:=(pP b_p_f 5)) hF hS (ex_fieldAddr U116 rfl sz48 rfl rfl) hc4 fun a hF=>q_g (v:=s6.v) hF hS (ex_load1 2 0 U48 rfl rfl rfl rfl) hc4 fun a hF=>q_g (v:=(iV t_14)) hF hS (ex_move rfl) hc4 fun a hF=>?_
     obtain ⟨e_18,he_18,hj3⟩:=bindS hj3
     obtain ⟨vs19,at19,d19⟩:=h6.at he_18 1 rfl
     obtain rfl : vs19 = [(iV e_18)]:=d19
     refine q_g (v:=(elP s6 (t_14.toNat * 1))) hF hS (ex_indexAddr U48 sz3 rfl rfl (h6.idx he_18)) hc4 fun a hF=>q_g (v:=(iV e_18)) hF hS (ex_loadE1 0 U3 rfl rfl (at19.at 4 rfl) rfl rfl) hc4 fun a hF=>q_g (v:=(.bool (decide (0 < e_18)))) hF hS (ex_ibin rfl rfl rfl) hc4 fun a hF=>q_y (v:=(.bool (decide (0 < e_18)))) hF hS (ex_pick_t rfl rfl hc4) fun a hF=>q_end (n_jn ?_)
     obtain rfl:=someI hj3
     exact ⟨hF.sub ⟨rfl,rfl,rfl,rfl,rfl,rfl,rfl,rfl,rfl,trivial⟩,hS.sel [0,1,3,4,5,2] (by decide)⟩
   ·rintro a w ⟨hF,hS⟩
    refine n_sq ?_
    obtain ⟨j5,hj5,hb1⟩:=bindS hb1
    refine q_join (fun a w=>∃ (q28 : Piece),∃ (q30 : Piece),∃ (s30 : Sl),∃ from_27,∃ queue_29,j5 = (from_27,queue_29)∧Fr a 110 [(0,(pP b_p_f 0)),(3,(iV (goLen p_f.rows))),(4,(iV (goLen p_f.cols))),(5,s9.v),(6,s30.v),(26,(iV (goLen l_8))),(27,(iV t_14))]∧St X w0 w m [q28,q30,q5,q6,q7,[⟨b_p_f,[s1.v,s2.v,s3.v,s4.v,s5.v,s6.v,s7.v],116⟩]]∧OwnL m 3 q28 s9 from_27∧OwnL m 3 q30 s30 queue_29) ?_ ?_
    ·rcases bcase (t_20) with hc6 | hc6
     ·have hj5:=cond_f hc6 hj5
      refine q_cond_f hF rfl hc6 (q_skipc (n_jn ?_))
      obtain rfl:=someI hj5
      exact ⟨q17,q13,s13,_,_,rfl,hF.sub ⟨rfl,rfl,rfl,rfl,rfl,rfl,rfl,trivial⟩,hS,h17,h13⟩
     ·have hj5:=cond_t hc6 hj5
      refine q_cond_t hF rfl hc6 (q_sr (q_m hF rfl fun a hF=>q_m hF rfl fun a hF=>?_))
      obtain ⟨e_21,he_21,hj5⟩:=bindS hj5
      obtain ⟨vs22,at22,d22⟩:=h17.at he_21 1 rfl
      obtain rfl : vs22 = [(iV e_21)]:=d22
      refine q_y (v:=(elP s9 (t_14.toNat * 1))) hF hS (ex_indexAddr U48 sz3 rfl rfl (h17.idx he_21)) fun a hF=>q_do rfl fun _ hK=>wp_storeE (e':=-1) (us:=[(iV (-1))]) (vs:=[(iV e_21)]) 0 hF hS h17 sz3 rfl rfl rfl rfl rfl rfl rfl he_21 at22 rfl rfl rfl fun w q23 hS h23=>hK _ _ (q_end (n_sq (q_region (q_m hF rfl fun a hF=>q_m hF rfl fun a hF=>q_do rfl fun _ hK=>wp_buildSlice' (l:=([t_14] : List Int)) (cells:=[(iV t_14)]) hF hS U48 inf3 rfl rfl (by kernel_rfl) rfl rfl rfl ⟨rfl,rfl⟩ rfl rfl fun a w q24 s24 hF hS h24 _=>hK _ _ ?_))))
      have hS : St _ _ _ _ [q13,q24,q23,q5,q6,q7,[⟨b_p_f,[s1.v,s2.v,s3.v,s4.v,s5.v,s6.v,s7.v],116⟩]]:=hS.sel [2,0,1,3,4,5,6] (by decide)
      obtain ⟨l_25,hl_25,hj5⟩:=bindS hj5
      refine q_do rfl fun _ hK=>wp_append hF hS h13 U48 inf3 rfl rfl rfl rfl (h24.vw hS (j:=1) rfl) rfl (by decide) hl_25 rfl fun a w q26 s26 hF hS h26=>hK _ _ (q_s hF rfl fun a hF=>q_end (n_jn ?_))
      obtain rfl:=someI hj5
      exact ⟨q23,q26,s26,_,_,rfl,hF.sub ⟨rfl,rfl,rfl,rfl,rfl,rfl,rfl,trivial⟩,hS.sel [2,0,3,4,5,6] (by decide),h23,h26⟩
    ·rintro a w ⟨q28,q30,s30,from_27,queue_29,rfl,hF,hS,h28,h30⟩
     refine n_ib (n_sq ?_)
     refine q_region (q_y (v:=(iV (w64 (t_14 + 1)))) hF hS (ex_ibin rfl rfl rfl) fun a hF=>q_m hF rfl fun a hF=>q_end ?_)
     obtain rfl:=someI hb1
     exact ⟨rfl,q28,q30,s30,_,_,_,rfl,hF.sub ⟨rfl,rfl,rfl,rfl,rfl,rfl,rfl,trivial⟩,hS.sel [0,1,5,2,3,4] (by decide),h28,h30⟩
 ·rintro e a w ⟨q32,q34,s34,from_31,queue_33,rfl,rfl,hF,hS,h32,h34⟩
  refine x_ib (n_sq ?_)
  refine q_seq (q_sr (q_s hF rfl fun a hF=>q_end (n_sq (q_block ?_))))
  obtain ⟨o7,hl7,hr⟩:=bindS hr
  refine q_loop (fun (s : (List Int) × (List Int) × Int) a w=>∃ (q36 : Piece),∃ (q38 : Piece),∃ (s38 : Sl),∃ from_35,∃ queue_37,∃ at_39,s = (from_35,queue_37,at_39)∧Fr a 110 [(0,(pP b_p_f 0)),(3,(iV (goLen p_f.rows))),(4,(iV (goLen p_f.cols))),(5,s9.v),(6,s38.v),(8,(iV at_39))]∧St X w0 w m [q36,q38,q5,q6,q7,[⟨b_p_f,[s1.v,s2.v,s3.v,s4.v,s5.v,s6.v,s7.v],116⟩]]∧OwnL m 3 q36 s9 from_35∧OwnL m 3 q38 s38 queue_37) (fun (o : (Unit) ⊕ (Bool × spec_tFill)) e a w=>o = .inl ()∧e = .exit 2∧Fr a 110 []∧St X w0 w m [q5,q6,q7,[⟨b_p_f,[s1.v,s2.v,s3.v,s4.v,s5.v,s6.v,s7.v],116⟩]]) hl7 ⟨q32,q34,s34,_,_,_,rfl,hF.sub ⟨rfl,rfl,rfl,rfl,rfl,rfl,trivial⟩,hS,h32,h34⟩ ?_ ?_
  ·clear hF hS
   rintro s a w st ⟨q36,q38,s38,from_35,queue_37,at_39,rfl,hF,hS,h36,h38⟩ hb7
   unfold spec_tFill_augment_l2 at hb7
   refine q_seq (q_sr (q_m hF rfl fun a hF=>q_m hF rfl fun a hF=>q_y (v:=(iV (goLen queue_37))) hF hS (ex_len U48 rfl h38.len) fun a hF=>q_y (v:=(.bool (decide (at_39 < (goLen queue_37))))) hF hS (ex_ibin rfl rfl rfl) fun a hF=>q_end (n_sq ?_)))
   rcases bcase (decide (at_39 < (goLen queue_37))) with hc8 | hc8
   ·have hb7:=cond_f hc8 hb7
    refine q_cond_f hF rfl hc8 (q_exit (x_sq ?_))
    obtain rfl:=someI hb7
    exact ⟨nofun,.inl ⟨rfl,rfl,hF.sub trivial,hS.mask [false,false,true,true,true,true]⟩⟩
   ·have hb7:=cond_t hc8 hb7
    refine q_cond_t hF rfl hc8 (q_skipc (n_sq (q_seq (q_block (q_sr (q_m hF rfl fun a hF=>q_m hF rfl fun a hF=>?_))))))
    obtain ⟨e_40,he_40,hb7⟩:=bindS hb7
    obtain ⟨vs41,at41,d41⟩:=h38.at he_40 1 rfl
    obtain rfl : vs41 = [(iV e_40)]:=d41
    refine q_y (v:=(elP s38 (at_39.toNat * 1))) hF hS (ex_indexAddr U48 sz3 rfl rfl (h38.idx he_40)) fun a hF=>q_y (v:=(iV e_40)) hF hS (ex_loadE1 0 U3 rfl rfl (at41.at 1 rfl) rfl rfl) fun a hF=>q_s hF rfl fun a hF=>q_end (n_sq (q_seq (q_seq ?_)))
    obtain ⟨t_44,hj9,hb7⟩:=bindS hb7
    refine q_join (fun a w=>Fr a 110 [(0,(pP b_p_f 0)),(3,(iV (goLen p_f.rows))),(4,(iV (goLen p_f.cols))),(5,s9.v),(6,s38.v),(8,(iV at_39)),(9,(iV e_40)),(78,(.bool t_44))]∧St X w0 w m [q36,q38,q5,q6,q7,[⟨b_p_f,[s1.v,s2.v,s3.v,s4.v,s5.v,s6.v,s7.v],116⟩]]) ?_ ?_
    ·refine q_region (q_m hF rfl fun a hF=>q_m hF rfl fun a hF=>q_y (v:=(.bool (decide ((goLen p_f.rows) ≤ e_40)))) hF hS (ex_ibin rfl rfl rfl) fun a hF=>q_m hF rfl fun a hF=>?_)
     rcases bcase (decide ((goLen p_f.rows) ≤ e_40)) with hc10 | hc10
     ·have hj9:=cond_f hc10 hj9
      refine q_k hF hc10 fun a hF=>q_k hF hc10 fun a hF=>q_k hF hc10 fun a hF=>q_k hF hc10 fun a hF=>q_k hF hc10 fun a hF=>q_k hF hc10 fun a hF=>q_k hF hc10 fun a hF=>q_k hF hc10 fun a hF=>q_k hF hc10 fun a hF=>q_k hF hc10 fun a hF=>q_y (v:=(.bool false)) hF hS (ex_pick_f rfl rfl hc10) fun a hF=>q_end (n_jn ?_)
      obtain rfl:=someI hj9
      exact ⟨hF.sub ⟨rfl,rfl,rfl,rfl,rfl,rfl,rfl,rfl,trivial⟩,hS⟩
     ·have hj9:=cond_t hc10 hj9
      refine q_g (v:=(pP b_p_f 0)) hF hS (ex_move rfl) hc10 fun a hF=>q_g (v:=(pP b_p_f 0)) hF hS (ex_nilCheck rfl) hc10 fun a hF=>q_g (v:=(pP b_p_f 6)) hF hS (ex_fieldAddr U116 rfl sz48 rfl rfl) hc10 fun a hF=>q_g (v:=s7.v) hF hS (ex_load1 5 0 U48 rfl rfl rfl rfl) hc10 fun a hF=>q_g (v:=(iV e_40)) hF hS (ex_move rfl) hc10 fun a hF=>q_g (v:=(iV (goLen p_f.rows))) hF hS (ex_move rfl) hc10 fun a hF=>q_g (v:=(iV (w64 (e_40 - (goLen p_f.rows))))) hF hS (ex_ibin rfl rfl rfl) hc10 fun a hF=>?_
      obtain ⟨e_42,he_42,hj9⟩:=bindS hj9
      obtain ⟨vs43,at43,d43⟩:=h7.at he_42 1 rfl
      obtain rfl : vs43 = [(iV e_42)]:=d43
      refine q_g (v:=(elP s7 ((w64 (e_40 - (goLen p_f.rows))).toNat * 1))) hF hS (ex_indexAddr U48 sz3 rfl rfl (h7.idx he_42)) hc10 fun a hF=>q_g (v:=(iV e_42)) hF hS (ex_loadE1 0 U3 rfl rfl (at43.at 4 rfl) rfl rfl) hc10 fun a hF=>q_g (v:=(.bool (decide (0 < e_42)))) hF hS (ex_ibin rfl rfl rfl) hc10 fun a hF=>q_y (v:=(.bool (decide (0 < e_42)))) hF hS (ex_pick_t rfl rfl hc10) fun a hF=>q_end (n_jn ?_)
      obtain rfl:=someI hj9
      exact ⟨hF.sub ⟨rfl,rfl,rfl,rfl,rfl,rfl,rfl,rfl,trivial⟩,hS⟩
    ·rintro a w ⟨hF,hS⟩
     refine n_sq ?_
     rcases bcase (t_44) with hc11 | hc11
     ·have hb7:=cond_f hc11 hb7
      refine q_cond_f hF rfl hc11 (q_skipc (n_sq (q_sr (q_s hF rfl fun a hF=>q_end (n_sq (q_block ?_))))))
      obtain ⟨o12,hl12,hb7⟩:=bindS hb7
      refine q_loop (fun (s : (List Int) × (List Int) × Int) a w=>∃ (q46 : Piece),∃ (q48 : Piece),∃ (s48 : Sl),∃ from_45,∃ queue_47,∃ k_49,s = (from_45,queue_47,k_49)∧Fr a 110 [(0,(pP b_p_f 0)),(3,(iV (goLen p_f.rows))),(4,(iV (goLen p_f.cols))),(5,s9.v),(6,s48.v),(8,(iV at_39)),(9,(iV e_40)),(10,(iV k_49))]∧St X w0 w m [q46,q48,q5,q6,q7,[⟨b_p_f,[s1.v,s2.v,s3.v,s4.v,s5.v,s6.v,s7.v],116⟩]]∧OwnL m 3 q46 s9 from_45∧OwnL m 3 q48 s48 queue_47) (fun (o : (List Int) × (List Int)) e a w=>∃ (q66 : Piece),∃ (q68 : Piece),∃ (s68 : Sl),∃ from_65,∃ queue_67,o = (from_65,queue_67)∧e = .exit 4∧Fr a 110 [(0,(pP b_p_f 0)),(3,(iV (goLen p_f.rows))),(4,(iV (goLen p_f.cols))),(5,s9.v),(6,s68.v),(8,(iV at_39))]∧St X w0 w m [q66,q68,q5,q6,q7,[⟨b_p_f,[s1.v,s2.v,s3.v,s4.v,s5.v,s6.v,s7.v],116⟩]]∧OwnL m 3 q66 s9 from_65∧OwnL m 3 q68 s68 queue_67) hl12 ⟨q36,q38,s38,_,_,_,rfl,hF.sub ⟨rfl,rfl,rfl,rfl,rfl,rfl,rfl,rfl,trivial⟩,hS,h36,h38⟩ ?_ ?_
      ·clear hF hS
       rintro s a w st ⟨q46,q48,s48,from_45,queue_47,k_49,rfl,hF,hS,h46,h48⟩ hb12
       unfold spec_tFill_augment_l3 at hb12
       refine q_seq (q_sr (q_m hF rfl fun a hF=>q_m hF rfl fun a hF=>q_m hF rfl fun a hF=>q_y (v:=(iV (w64 ((goLen p_f.rows) + (goLen p_f.cols))))) hF hS (ex_ibin rfl rfl rfl) fun a hF=>q_y (v:=(.bool (decide (k_49 < (w64 ((goLen p_f.rows) + (goLen p_f.cols))))))) hF hS (ex_ibin rfl rfl rfl) fun a hF=>q_end (n_sq ?_)))
       rcases bcase (decide (k_49 < (w64 ((goLen p_f.rows) + (goLen p_f.cols))))) with hc13 | hc13
       ·have hb12:=cond_f hc13 hb12
        refine q_cond_f hF rfl hc13 (q_exit (x_sq ?_))
        obtain rfl:=someI hb12
        exact ⟨nofun,.inl ⟨q46,q48,s48,_,_,rfl,rfl,hF.sub ⟨rfl,rfl,rfl,rfl,rfl,rfl,trivial⟩,hS,h46,h48⟩⟩
       ·have hb12:=cond_t hc13 hb12
        refine q_cond_t hF rfl hc13 (q_skipc (n_sq (q_seq (q_block (q_seq ?_)))))
        obtain ⟨t_54,hj14,hb12⟩:=bindS hb12
        refine q_join (fun a w=>Fr a 110 [(0,(pP b_p_f 0)),(3,(iV (goLen p_f.rows))),(4,(iV (goLen p_f.cols))),(5,s9.v),(6,s48.v),(8,(iV at_39)),(9,(iV e_40)),(10,(iV k_49)),(101,(.bool t_54))]∧St X w0 w m [q46,q48,q5,q6,q7,[⟨b_p_f,[s1.v,s2.v,s3.v,s4.v,s5.v,s6.v,s7.v],116⟩]]) ?_ ?_
        ·refine q_region (q_m hF rfl fun a hF=>q_m hF rfl fun a hF=>?_)
         obtain ⟨e_50,he_50,hj14⟩:=bindS hj14
         obtain ⟨vs51,at51,d51⟩:=h46.at he_50 1 rfl
         obtain rfl : vs51 = [(iV e_50)]:=d51
         refine q_y (v:=(elP s9 (k_49.toNat * 1))) hF hS (ex_indexAddr U48 sz3 rfl rfl (h46.idx he_50)) fun a hF=>q_y (v:=(iV e_50)) hF hS (ex_loadE1 0 U3 rfl rfl (at51.at 0 rfl) rfl rfl) fun a hF=>q_y (v:=(.bool (e_50 == (-2)))) hF hS (ex_ibin rfl rfl rfl) fun a hF=>q_m hF rfl fun a hF=>?_
         rcases bcase (e_50 == (-2)) with hc15 | hc15
         ·have hj14:=cond_f hc15 hj14
          refine q_k hF hc15 fun a hF=>q_k hF hc15 fun a hF=>q_k hF hc15 fun a hF=>q_k hF hc15 fun a hF=>q_k hF hc15 fun a hF=>q_y (v:=(.bool false)) hF hS (ex_pick_f rfl rfl hc15) fun a hF=>q_end (n_jn ?_)
          obtain rfl:=someI hj14
          exact ⟨hF.sub ⟨rfl,rfl,rfl,rfl,rfl,rfl,rfl,rfl,rfl,trivial⟩,hS⟩
         ·have hj14:=cond_t hc15 hj14
          refine q_g (v:=(pP b_p_f 0)) hF hS (ex_move rfl) hc15 fun a hF=>q_g (v:=(iV e_40)) hF hS (ex_move rfl) hc15 fun a hF=>q_g (v:=(iV k_49)) hF hS (ex_move rfl) hc15 fun a hF=>?_
          have hS : St _ _ _ _ [[⟨b_p_f,[s1.v,s2.v,s3.v,s4.v,s5.v,s6.v,s7.v],116⟩],q46,q48,q5,q6,q7]:=hS.sel [5,0,1,2,3,4] (by decide)
          have hS52 : St _ _ _ _ ([[⟨b_p_f,[s1.v,s2.v,s3.v,s4.v,s5.v,s6.v,s7.v],116⟩]]++[q46,q48,q5,q6,q7]):=hS
          obtain ⟨m52,hl52,hE52,hz52⟩:=hS52.lendX
          obtain ⟨t_53,ht_53,hj14⟩:=bindS hj14
          refine q_dog (wanted_t hF rfl rfl rfl hc15) fun _ hK=>wp_callX (vs:=[(pP b_p_f 0),(iV e_40),(iV k_49)]) hF Tryz.func108 (by kernel_rfl) rfl rfl rfl (c_spec_tFill_room p_f e_40 k_49 t_53 ht_53 _ m52 b_p_f s1 (h1.mono hl52) s2 (h2.mono hl52) s3 (h3.mono hl52) s4 (h4.mono hl52) s5 (h5.froz hl52 (hz52 2 _ rfl)) s6 (h6.froz hl52 (hz52 3 _ rfl)) s7 (h7.froz hl52 (hz52 4 _ rfl)) _ hE52) fun a w _ hR hF=>hK _ _ ?_
          obtain ⟨rfl,hR52⟩:=hR
          have hS : St _ _ _ _ [[⟨b_p_f,[s1.v,s2.v,s3.v,s4.v,s5.v,s6.v,s7.v],116⟩],q46,q48,q5,q6,q7]:=hS52.leaveF hR52
          refine q_g (v:=(.bool (decide (0 < t_53)))) hF hS (ex_ibin rfl rfl rfl) hc15 fun a hF=>q_y (v:=(.bool (decide (0 < t_53)))) hF hS (ex_pick_t rfl rfl hc15) fun a hF=>q_end (n_jn ?_)
          obtain rfl:=someI hj14
          exact ⟨hF.sub ⟨rfl,rfl,rfl,rfl,rfl,rfl,rfl,rfl,rfl,trivial⟩,hS.sel [1,2,3,4,5,0] (by decide)⟩
        ·rintro a w ⟨hF,hS⟩
         refine n_sq ?_
         obtain ⟨j16,hj16,hb12⟩:=bindS hb12
         refine q_join (fun a w=>∃ (q62 : Piece),∃ (q64 : Piece),∃ (s64 : Sl),∃ from_61,∃ queue_63,j16 = (from_61,queue_63)∧Fr a 110 [(0,(pP b_p_f 0)),(3,(iV (goLen p_f.rows))),(4,(iV (goLen p_f.cols))),(5,s9.v),(6,s64.v),(8,(iV at_39)),(9,(iV e_40)),(10,(iV k_49))]∧St X w0 w m [q62,q64,q5,q6,q7,[⟨b_p_f,[s1.v,s2.v,s3.v,s4.v,s5.v,s6.v,s7.v],116⟩]]∧OwnL m 3 q62 s9 from_61∧OwnL m 3 q64 s64 queue_63) ?_ ?_
         ·rcases bcase (t_54) with hc17 | hc17
          ·have hj16:=cond_f hc17 hj16
           refine q_cond_f hF rfl hc17 (q_skipc (n_jn ?_))
           obtain rfl:=someI hj16
           exact ⟨q46,q48,s48,_,_,rfl,hF.sub ⟨rfl,rfl,rfl,rfl,rfl,rfl,rfl,rfl,trivial⟩,hS,h46,h48⟩
          ·have hj16:=cond_t hc17 hj16
           refine q_cond_t hF rfl hc17 (q_sr (q_m hF rfl fun a hF=>q_m hF rfl fun a hF=>q_m hF rfl fun a hF=>?_))
           obtain ⟨e_55,he_55,hj16⟩:=bindS hj16
           obtain ⟨vs56,at56,d56⟩:=h46.at he_55 1 rfl
           obtain rfl : vs56 = [(iV e_55)]:=d56
           refine q_y (v:=(elP s9 (k_49.toNat * 1))) hF hS (ex_indexAddr U48 sz3 rfl rfl (h46.idx he_55)) fun a hF=>q_do rfl fun _ hK=>wp_storeE (e':=e_40) (us:=[(iV e_40)]) (vs:=[(iV e_55)]) 0 hF hS h46 sz3 rfl rfl rfl rfl rfl rfl rfl he_55 at56 rfl rfl rfl fun w q57 hS h57=>hK _ _ (q_end (n_sq (q_region (q_m hF rfl fun a hF=>q_m hF rfl fun a hF=>q_do rfl fun _ hK=>wp_buildSlice' (l:=([k_49] : List Int)) (cells:=[(iV k_49)]) hF hS U48 inf3 rfl rfl (by kernel_rfl) rfl rfl rfl ⟨rfl,rfl⟩ rfl rfl fun a w q58 s58 hF hS h58 _=>hK _ _ ?_))))
           have hS : St _ _ _ _ [q48,q58,q57,q5,q6,q7,[⟨b_p_f,[s1.v,s2.v,s3.v,s4.v,s5.v,s6.v,s7.v],116⟩]]:=hS.sel [2,0,1,3,4,5,6] (by decide)
           obtain ⟨l_59,hl_59,hj16⟩:=bindS hj16
           refine q_do rfl fun _ hK=>wp_append hF hS h48 U48 inf3 rfl rfl rfl rfl (h58.vw hS (j:=1) rfl) rfl (by decide) hl_59 rfl fun a w q60 s60 hF hS h60=>hK _ _ (q_s hF rfl fun a hF=>q_end (n_jn ?_))
           obtain rfl:=someI hj16
           exact ⟨q57,q60,s60,_,_,rfl,hF.sub ⟨rfl,rfl,rfl,rfl,rfl,rfl,rfl,rfl,trivial⟩,hS.sel [2,0,3,4,5,6] (by decide),h57,h60⟩
         ·rintro a w ⟨q62,q64,s64,from_61,queue_63,rfl,hF,hS,h62,h64⟩
          refine n_ib (n_sq ?_)
          refine q_region (q_m hF rfl fun a hF=>q_y (v:=(iV (w64 (k_49 + 1)))) hF hS (ex_ibin rfl rfl rfl) fun a hF=>q_s hF rfl fun a hF=>q_end ?_)
          obtain rfl:=someI hb12
          exact ⟨rfl,q62,q64,s64,_,_,_,rfl,hF.sub ⟨rfl,rfl,rfl,rfl,rfl,rfl,rfl,rfl,trivial⟩,hS,h62,h64⟩
      ·rintro e a w ⟨q66,q68,s68,from_65,queue_67,rfl,rfl,hF,hS,h66,h68⟩
       refine x_ib (n_ib (n_sq ?_))
       refine q_region (q_m hF rfl fun a hF=>q_y (v:=(iV (w64 (at_39 + 1)))) hF hS (ex_ibin rfl rfl rfl) fun a hF=>q_s hF rfl fun a hF=>q_end ?_)
       obtain rfl:=someI hb7
       exact ⟨rfl,q66,q68,s68,_,_,_,rfl,hF.sub ⟨rfl,rfl,rfl,rfl,rfl,rfl,trivial⟩,hS,h66,h68⟩
     ·have hb7:=cond_t hc11 hb7
      refine q_cond_t hF rfl hc11 (q_sr (q_m hF rfl fun a hF=>q_m hF rfl fun a hF=>q_m hF rfl fun a hF=>?_))
      have hS : St _ _ _ _ [[⟨b_p_f,[s1.v,s2.v,s3.v,s4.v,s5.v,s6.v,s7.v],116⟩],q5,q6,q7,q36,q38]:=hS.sel [5,2,3,4,0,1] (by decide)
      have hS45 : St _ _ _ _ ([[⟨b_p_f,[s1.v,s2.v,s3.v,s4.v,s5.v,s6.v,s7.v],116⟩],q5,q6,q7]++[q36,q38]):=hS
      obtain ⟨m45,hl45,hE45,hz45⟩:=hS45.lendX
      obtain ⟨t_46,ht_46,hb7⟩:=bindS hb7
      refine q_do rfl fun _ hK=>wp_callX (vs:=[(pP b_p_f 0),s9.v,(iV e_40)]) hF Tryz.func107 (by kernel_rfl) rfl rfl rfl (c_spec_tFill_push p_f from_35 e_40 t_46 ht_46 _ m45 b_p_f s1 (h1.mono hl45) s2 (h2.mono hl45) s3 (h3.mono hl45) s4 (h4.mono hl45) s5 q5 (h5.mono hl45) s6 q6 (h6.mono hl45) s7 q7 (h7.mono hl45) s9 (h36.froz hl45 (hz45 0 _ rfl)) _ hE45) fun a w _ hR hF=>hK _ _ ?_
      obtain ⟨q51,q52,q53,s51,s52,s53,rfl,hR45,hk47,hk48,hk49,hk50,h51,h52,h53⟩:=hR
      have hS : St _ _ _ _ [[⟨b_p_f,[s1.v,s2.v,s3.v,s4.v,s51.v,s52.v,s53.v],116⟩],q51,q52,q53,q36,q38]:=hS45.leaveF hR45
      have h51:=h51.any m
      have h52:=h52.any m
      have h53:=h53.any m
      have h47 : Rd m s1 t_46.t.Rows:=by rw [hk47]; exact h1
      have h48 : Rd m s2 t_46.t.Cols:=by rw [hk48]; exact h2
      have h49 : Rd m s3 t_46.t.Lo:=by rw [hk49]; exact h3
      have h50 : Rd m s4 t_46.t.Hi:=by rw [hk50]; exact h4
      refine q_end (n_sq (q_sr (q_s hF rfl fun a hF=>q_end (n_sq (q_ret (r_sq (r_ib (r_sq ?_))))))))
      obtain rfl:=someI hb7
      refine ⟨nofun,.inr fun ho=>?_⟩
      subst ho
      refine r_ib (r_sq ?_)
      obtain rfl:=someI hr
      exact ret_ofX hF hS rfl (.tmp rfl .nil) ⟨q51,q52,q53,s51,s52,s53,rfl,hS.sel [0,1,2,3] (by decide),hk47,hk48,hk49,hk50,h51,h52,h53⟩
  ·rintro e a w ⟨rfl,rfl,hF,hS⟩
   refine x_ib (n_sq ?_)
   refine q_sr (q_s hF rfl fun a hF=>q_end (n_sq (q_ret ?_)))
   obtain rfl:=someI hr
   exact ret_ofX hF hS rfl (.tmp rfl .nil) ⟨q5,q6,q7,s5,s6,s7,rfl,hS.sel [3,0,1,2] (by decide),rfl,rfl,rfl,rfl,h5,h6,h7⟩

theorem c_spec_tFilled (p_t : impl_Transport) (r : spec_tFill × Bool) (hr : spec_tFilled p_t = some r) (w0 : World) (m : Mem) (hv : Vis m w0) (s1 : Sl) (h1 : Rd m s1 p_t.Rows) (s2 : Sl) (h2 : Rd m s2 p_t.Cols) (s3 : Sl) (h3 : Rd m s3 p_t.Lo) (s4 : Sl) (h4 : Rd m s4 p_t.Hi) :
  Ret Tryz.prog 102 [(.agg #[s1.v,s2.v,s3.v,s4.v])] w0 (fun v w=>∃ (m' : Mem) (b0' : Nat) (q4' : Piece) (q5' : Piece) (q6' : Piece) (s0' : Sl) (s1' : Sl) (s2' : Sl) (s3' : Sl) (s4' : Sl) (s5' : Sl) (s6' : Sl),v = (.tuple #[(.pointer (some ⟨b0',0,none⟩)),(.bool r.2)])∧MLe [] w0.heap.size m m'∧St [] w0 w m' [[⟨b0',[s0'.v,s1'.v,s2'.v,s3'.v,s4'.v,s5'.v,s6'.v],116⟩],q4',q5',q6']∧Rd m' s0' r.1.t.Rows∧Rd m' s1' r.1.t.Cols∧Rd m' s2' r.1.t.Lo∧Rd m' s3' r.1.t.Hi∧OwnD m' 48 3 q4' s4' r.1.x∧OwnL m' 3 q5' s5' r.1.rows∧OwnL m' 3 q6' s6' r.1.cols):=by
 unfold spec_tFilled at hr
 refine ret_start Tryz.func102 rfl 17 rfl rfl m hv fun a hF hS=>q_sr (q_box (cs:=[s1.v,s2.v,s3.v,s4.v]) hF hS rfl rfl rfl fun a w b5 hF hS=>q_s hF rfl fun a hF=>q_s hF rfl fun a hF=>q_end (n_sq (q_sr (q_y (v:=(.agg #[s1.v,s2.v,s3.v,s4.v])) hF hS (ex_loadA (vs:=[s1.v,s2.v,s3.v,s4.v]) 0 0 U76 rfl sz76 rfl rfl rfl rfl) fun a hF=>?_))))
 obtain ⟨t_6,ht_6,hr⟩:=bindS hr
 refine q_call (vs:=[(.agg #[s1.v,s2.v,s3.v,s4.v])]) hF hS Tryz.func105 (by kernel_rfl) rfl rfl rfl (c_spec_tStart p_t t_6 ht_6 _ m hS.vis s1 h1 s2 h2 s3 h3 s4 h4) ?_
 have hT:=hS
 rintro a w _ ⟨m7,b15,q12,q13,q14,s8,s9,s10,s11,s12,s13,s14,rfl,hm7,hR7,h8,h9,h10,h11,h12,h13,h14⟩ hF hS2
 have hS : St _ _ _ _ [[⟨b15,[s8.v,s9.v,s10.v,s11.v,s12.v,s13.v,s14.v],116⟩],q12,q13,q14,[⟨b5,[s1.v,s2.v,s3.v,s4.v],76⟩]]:=hS.join hR7 hm7
 have hm7:=MLe.weakX (O0:=[]) hT hm7
 refine q_m hF rfl fun a hF=>q_y (v:=(pP b15 0)) hF hS (ex_extract rfl rfl) fun a hF=>q_y (v:=(.bool t_6.2)) hF hS (ex_extract rfl rfl) fun a hF=>q_s hF rfl fun a hF=>q_s hF rfl fun a hF=>q_end (n_sq (q_seq (q_sr (q_m hF rfl fun a hF=>q_y (v:=(.bool (!t_6.2))) hF hS (ex_not rfl) fun a hF=>q_end (n_sq ?_)))))
 rcases bcase (!t_6.2) with hc1 | hc1
 ·have hr:=cond_f hc1 hr
  refine q_cond_f hF rfl hc1 (q_skipc (n_sq (q_seq (q_block ?_))))
  obtain ⟨f_33,hl2,hr⟩:=bindS hr
  refine q_loop (fun (f_16 : spec_tFill) a w=>∃ (q21 : Piece),∃ (s21 : Sl),∃ (q22 : Piece),∃ (s22 : Sl),∃ (q23 : Piece),∃ (s23 : Sl),Fr a 17 [(4,(pP b15 0))]∧St [] w0 w m7 [q21,q22,q23,[⟨b15,[s8.v,s9.v,s10.v,s11.v,s21.v,s22.v,s23.v],116⟩]]∧Rd m7 s8 f_16.t.Rows∧f_16.t.Rows = t_6.1.t.Rows∧Rd m7 s9 f_16.t.Cols∧f_16.t.Cols = t_6.1.t.Cols∧Rd m7 s10 f_16.t.Lo∧f_16.t.Lo = t_6.1.t.Lo∧Rd m7 s11 f_16.t.Hi∧f_16.t.Hi = t_6.1.t.Hi∧OwnD m7 48 3 q21 s21 f_16.x∧OwnL m7 3 q22 s22 f_16.rows∧OwnL m7 3 q23 s23 f_16.cols) (fun (f_33 : spec_tFill) e a w=>∃ (q38 : Piece),∃ (s38 : Sl),∃ (q39 : Piece),∃ (s39 : Sl),∃ (q40 : Piece),∃ (s40 : Sl),e = .exit 0∧Fr a 17 [(4,(pP b15 0))]∧St [] w0 w m7 [q38,q39,q40,[⟨b15,[s8.v,s9.v,s10.v,s11.v,s38.v,s39.v,s40.v],116⟩]]∧Rd m7 s8 f_33.t.Rows∧f_33.t.Rows = t_6.1.t.Rows∧Rd m7 s9 f_33.t.Cols∧f_33.t.Cols = t_6.1.t.Cols∧Rd m7 s10 f_33.t.Lo∧f_33.t.Lo = t_6.1.t.Lo∧Rd m7 s11 f_33.t.Hi∧f_33.t.Hi = t_6.1.t.Hi∧OwnD m7 48 3 q38 s38 f_33.x∧OwnL m7 3 q39 s39 f_33.rows∧OwnL m7 3 q40 s40 f_33.cols) hl2 ⟨q12,s12,q13,s13,q14,s14,hF.sub ⟨rfl,trivial⟩,hS.sel [1,2,3,0] (by decide),h8,rfl,h9,rfl,h10,rfl,h11,rfl,h12,h13,h14⟩ ?_ ?_
  ·clear hF hS
   rintro f_16 a w st ⟨q21,s21,q22,s22,q23,s23,hF,hS,h17,h17k,h18,h18k,h19,h19k,h20,h20k,h21,h22,h23⟩ hb2
   unfold spec_tFilled_l1 at hb2
   refine q_seq (q_sr (q_m hF rfl fun a hF=>?_))
   have hS : St _ _ _ _ [[⟨b15,[s8.v,s9.v,s10.v,s11.v,s21.v,s22.v,s23.v],116⟩],q21,q22,q23]:=hS.sel [3,0,1,2] (by decide)
   have hS24 : St _ _ _ _ ([[⟨b15,[s8.v,s9.v,s10.v,s11.v,s21.v,s22.v,s23.v],116⟩],q21,q22,q23]++[]):=hS
   have hE24:=hS24.enter
   obtain ⟨t_25,ht_25,hb2⟩:=bindS hb2
   refine q_do rfl fun _ hK=>wp_callX (vs:=[(pP b15 0)]) hF Tryz.func106 (by kernel_rfl) rfl rfl rfl (c_spec_tFill_augment f_16 t_25 ht_25 _ m7 b15 s8 h17 s9 h18 s10 h19 s11 h20 s21 q21 h21 s22 q22 h22 s23 q23 h23 _ hE24) fun a w _ hR hF=>hK _ _ ?_
   obtain ⟨q30,q31,q32,s30,s31,s32,rfl,hR24,hk26,hk27,hk28,hk29,h30,h31,h32⟩:=hR
   have hS : St _ _ _ _ [[⟨b15,[s8.v,s9.v,s10.v,s11.v,s30.v,s31.v,s32.v],116⟩],q30,q31,q32]:=hS24.leaveF hR24
   have h26 : Rd m7 s8 t_25.2.t.Rows:=by rw [hk26]; exact h17
   have h27 : Rd m7 s9 t_25.2.t.Cols:=by rw [hk27]; exact h18
   have h28 : Rd m7 s10 t_25.2.t.Lo:=by rw [hk28]; exact h19
   have h29 : Rd m7 s11 t_25.2.t.Hi:=by rw [hk29]; exact h20
   refine q_end (n_sq ?_)
   rcases bcase (t_25.1) with hc3 | hc3
   ·have hb2:=cond_f hc3 hb2
    refine q_cond_f hF rfl hc3 (q_exit (x_sq ?_))
    obtain rfl:=someI hb2
    exact ⟨nofun,.inl ⟨q30,s30,q31,s31,q32,s32,rfl,hF.sub ⟨rfl,trivial⟩,hS.sel [1,2,3,0] (by decide),h26,(hk26.trans h17k),h27,(hk27.trans h18k),h28,(hk28.trans h19k),h29,(hk29.trans h20k),h30,h31,h32⟩⟩
   ·have hb2:=cond_t hc3 hb2
    refine q_cond_t hF rfl hc3 (q_skipc (n_sq (q_block (q_skipc (n_ib ?_)))))
    obtain rfl:=someI hb2
    exact ⟨rfl,q30,s30,q31,s31,q32,s32,hF.sub ⟨rfl,trivial⟩,hS.sel [1,2,3,0] (by decide),h26,(hk26.trans h17k),h27,(hk27.trans h18k),h28,(hk28.trans h19k),h29,(hk29.trans h20k),h30,h31,h32⟩
  ·rintro e a w ⟨q38,s38,q39,s39,q40,s40,rfl,hF,hS,h34,h34k,h35,h35k,h36,h36k,h37,h37k,h38,h39,h40⟩
   refine x_ib (n_sq ?_)
   refine q_sr (q_m hF rfl fun a hF=>q_s hF rfl fun a hF=>q_s hF rfl fun a hF=>q_end (n_sq (q_ret ?_)))
   obtain rfl:=someI hr
   exact ret_of hF hS rfl (.tmp rfl (.tmp rfl .nil)) ⟨m7,b15,q38,q39,q40,s8,s9,s10,s11,s38,s39,s40,rfl,hm7,hS.sel [3,0,1,2] (by decide),h34,h35,h36,h37,h38,h39,h40⟩
 ·have hr:=cond_t hc1 hr
  refine q_cond_t hF rfl hc1 (q_sr (q_m hF rfl fun a hF=>q_s hF rfl fun a hF=>q_s hF rfl fun a hF=>q_end (n_sq (q_ret (r_sq ?_)))))
  obtain rfl:=someI hr
  exact ret_of hF hS rfl (.tmp rfl (.tmp rfl .nil)) ⟨m7,b15,q12,q13,q14,s8,s9,s10,s11,s12,s13,s14,rfl,hm7,hS.sel [0,1,2,3] (by decide),h8,h9,h10,h11,h12,h13,h14⟩

theorem c_spec_tFeasible (p_t : impl_Transport) (r : (List (List Int)) × Bool) (hr : spec_tFeasible p_t = some r) (w0 : World) (m : Mem) (hv : Vis m w0) (s1 : Sl) (h1 : Rd m s1 p_t.Rows) (s2 : Sl) (h2 : Rd m s2 p_t.Cols) (s3 : Sl) (h3 : Rd m s3 p_t.Lo) (s4 : Sl) (h4 : Rd m s4 p_t.Hi) :
  Ret Tryz.prog 91 [(.agg #[s1.v,s2.v,s3.v,s4.v])] w0 (fun v w=>∃ (m' : Mem) (q0' : Piece) (s0' : Sl),v = (.tuple #[s0'.v,(.bool r.2)])∧MLe [] w0.heap.size m m'∧St [] w0 w m' [q0']∧OwnD m' 48 3 q0' s0' r.1):=by
 unfold spec_tFeasible at hr
 refine ret_start Tryz.func91 rfl 32 rfl rfl m hv fun a hF hS=>q_sr (q_box (cs:=[s1.v,s2.v,s3.v,s4.v]) hF hS rfl rfl rfl fun a w b5 hF hS=>q_s hF rfl fun a hF=>q_s hF rfl fun a hF=>q_end (n_sq (q_seq (q_seq (e_region ⟨[],[],m⟩ mixed fun w' hw'=>?_)))))
 have hS:=hS.below hw'
 refine e_P (v:=(pP b5 0)) 0 hF rfl (ex_fieldAddr U76 rfl sz48 rfl rfl) fun a hF=>e_X (v:=s1.v) 1 hF hS rfl (ex_load1 0 0 U48 rfl rfl rfl rfl) fun a hF=>e_P (v:=(pP b5 1)) 3 hF rfl (ex_fieldAddr U76 rfl sz48 rfl rfl) fun a hF=>e_X (v:=s2.v) 4 hF hS rfl (ex_load1 0 0 U48 rfl rfl rfl rfl) fun a hF=>e_one 2 (by kernel_rfl) ?_
 obtain ⟨t_8,ht_8,hr⟩:=bindS hr
 refine e_call (vs:=[s1.v]) hF hS rfl Tryz.func88 (by kernel_rfl) rfl rfl rfl (c_spec_tSum p_t.Rows t_8 ht_8 _ m hS.vis s1 h1) ?_
 rintro a w _ rfl hF hS
 refine e_one 5 (by kernel_rfl) ?_
 obtain ⟨t_9,ht_9,hr⟩:=bindS hr
 refine e_call (vs:=[s2.v]) hF hS rfl Tryz.func88 (by kernel_rfl) rfl rfl rfl (c_spec_tSum p_t.Cols t_9 ht_9 _ m hS.vis s2 h2) ?_
 rintro a w _ rfl hF hS
 refine e_P (v:=(.bool (t_8 != t_9))) 6 hF rfl (ex_ibin rfl rfl rfl) fun a hF=>e_end (by kernel_rfl) (n_sq ?_) _
 rcases bcase (t_8 != t_9) with hc1 | hc1
 ·have hr:=cond_f hc1 hr
  refine q_cond_f hF rfl hc1 (q_skipc (n_sq (q_sr (q_y (v:=(.agg #[s1.v,s2.v,s3.v,s4.v])) hF hS (ex_loadA (vs:=[s1.v,s2.v,s3.v,s4.v]) 0 0 U76 rfl sz76 rfl rfl rfl rfl) fun a hF=>?_))))
  obtain ⟨t_10,ht_10,hr⟩:=bindS hr
  refine q_call (vs:=[(.agg #[s1.v,s2.v,s3.v,s4.v])]) hF hS Tryz.func102 (by kernel_rfl) rfl rfl rfl (c_spec_tFilled p_t t_10 ht_10 _ m hS.vis s1 h1 s2 h2 s3 h3 s4 h4) ?_
  have hT:=hS
  rintro a w _ ⟨m11,b19,q16,q17,q18,s12,s13,s14,s15,s16,s17,s18,rfl,hm11,hR11,h12,h13,h14,h15,h16,h17,h18⟩ hF hS2
  have hS : St _ _ _ _ [[⟨b19,[s12.v,s13.v,s14.v,s15.v,s16.v,s17.v,s18.v],116⟩],q16,q17,q18,[⟨b5,[s1.v,s2.v,s3.v,s4.v],76⟩]]:=hS.join hR11 hm11
  have hm11:=MLe.weakX (O0:=[]) hT hm11
  refine q_m hF rfl fun a hF=>q_y (v:=(pP b19 0)) hF hS (ex_extract rfl rfl) fun a hF=>q_y (v:=(.bool t_10.2)) hF hS (ex_extract rfl rfl) fun a hF=>q_s hF rfl fun a hF=>q_s hF rfl fun a hF=>q_end (n_sq (q_seq (q_seq ?_)))
  obtain ⟨t_22,hj2,hr⟩:=bindS hr
  refine q_join (fun a w=>Fr a 32 [(4,(pP b19 0)),(27,(.bool t_22))]∧St [] w0 w m11 [q16,q17,q18,[⟨b19,[s12.v,s13.v,s14.v,s15.v,s16.v,s17.v,s18.v],116⟩]]) ?_ ?_
  ·refine q_region (q_m hF rfl fun a hF=>q_y (v:=(.bool (!t_10.2))) hF hS (ex_not rfl) fun a hF=>q_m hF rfl fun a hF=>?_)
   rcases bcase (!t_10.2) with hc3 | hc3
   ·have hj2:=cond_f hc3 hj2
    refine q_g (v:=(pP b19 0)) hF hS (ex_move rfl) hc3 fun a hF=>q_g (v:=(pP b19 0)) hF hS (ex_nilCheck rfl) hc3 fun a hF=>q_g (v:=(pP b19 5)) hF hS (ex_fieldAddr U116 rfl sz48 rfl rfl) hc3 fun a hF=>q_g (v:=s17.v) hF hS (ex_load1 0 0 U48 rfl rfl rfl rfl) hc3 fun a hF=>?_
    obtain ⟨m21,hl21,hv21,hz21⟩:=hS.lend
    obtain ⟨t_20,ht_20,hj2⟩:=bindS hj2
    refine q_callg (vs:=[s17.v]) hF hS (wanted_t hF rfl rfl rfl hc3) Tryz.func88 (by kernel_rfl) rfl rfl rfl (c_spec_tSum t_10.1.rows t_20 ht_20 _ m21 hv21 s17 (h17.froz hl21 (hz21 2 _ rfl))) ?_
    rintro a w _ rfl hF hS
    refine q_g (v:=(.bool (decide (0 < t_20)))) hF hS (ex_ibin rfl rfl rfl) hc3 fun a hF=>q_y (v:=(.bool (decide (0 < t_20)))) hF hS (ex_pick_f rfl rfl hc3) fun a hF=>q_end (n_jn ?_)
    obtain rfl:=someI hj2
    exact ⟨hF.sub ⟨rfl,rfl,trivial⟩,hS.sel [1,2,3,0] (by decide)⟩
   ·have hj2:=cond_t hc3 hj2
    refine q_k hF hc3 fun a hF=>q_k hF hc3 fun a hF=>q_k hF hc3 fun a hF=>q_k hF hc3 fun a hF=>q_k hF hc3 fun a hF=>q_k hF hc3 fun a hF=>q_y (v:=(.bool true)) hF hS (ex_pick_t rfl rfl hc3) fun a hF=>q_end (n_jn ?_)
    obtain rfl:=someI hj2
    exact ⟨hF.sub ⟨rfl,rfl,trivial⟩,hS.sel [1,2,3,0] (by decide)⟩
  ·rintro a w ⟨hF,hS⟩
   refine n_sq ?_
   rcases bcase (t_22) with hc4 | hc4
   ·have hr:=cond_f hc4 hr
    refine q_cond_f hF rfl hc4 (q_skipc (n_sq (q_sr (q_m hF rfl fun a hF=>q_y (v:=(pP b19 0)) hF hS (ex_nilCheck rfl) fun a hF=>q_y (v:=(pP b19 4)) hF hS (ex_fieldAddr U116 rfl sz23 rfl rfl) fun a hF=>q_y (v:=s16.v) hF hS (ex_load1 3 0 U23 rfl rfl rfl rfl) fun a hF=>q_s hF rfl fun a hF=>q_s hF rfl fun a hF=>q_end (n_sq (q_ret ?_))))))
    obtain rfl:=someI hr
    exact ret_of hF hS rfl (.tmp rfl (.tmp rfl .nil)) ⟨m11,q16,s16,rfl,hm11,hS.sel [0] (by decide),h16⟩
   ·have hr:=cond_t hc4 hr
    refine q_cond_t hF rfl hc4 (q_sr (q_s hF rfl fun a hF=>q_s hF rfl fun a hF=>q_end (n_sq (q_ret (r_sq ?_)))))
    obtain rfl:=someI hr
    exact ret_of hF hS rfl (.tmp rfl (.tmp rfl .nil)) ⟨m11,[],nilS,rfl,hm11,hS.sel [4] (by decide),(OwnD.nil (β:=Int) m11 48 3)⟩
 ·have hr:=cond_t hc1 hr
  refine q_cond_t hF rfl hc1 (q_sr (q_s hF rfl fun a hF=>q_s hF rfl fun a hF=>q_end (n_sq (q_ret (r_sq ?_)))))
  obtain rfl:=someI hr
  exact ret_of hF hS rfl (.tmp rfl (.tmp rfl .nil)) ⟨m,[],nilS,rfl,(MLe.refl _ _),hS.sel [1] (by decide),(OwnD.nil (β:=Int) m 48 3)⟩

theorem c_spec_vProtected (p_x : List (List Int)) (p_p : List (List Int)) (p_i : Int) (p_j : Int) (p_down : Int) (p_up : Int) (r : Bool) (hr : spec_vProtected p_x p_p p_i p_j p_down p_up = some r) (w0 : World) (m : Mem) (hv : Vis m w0) (s1 : Sl) (h1 : Rd m s1 p_x) (s2 : Sl) (h2 : Rd m s2 p_p) :
  Ret Tryz.prog 66 [s1.v,s2.v,(iV p_i),(iV p_j),(iV p_down),(iV p_up)] w0 (fun v _=>v = (.bool r)):=by
 unfold spec_vProtected at hr
 refine ret_start Tryz.func66 rfl 58 rfl rfl m hv fun a hF hS=>q_sr (q_s hF rfl fun a hF=>q_end (n_sq (q_sr (q_m hF rfl fun a hF=>q_m hF rfl fun a hF=>?_))))
 obtain ⟨t_3,ht_3,hr⟩:=bindS hr
 refine q_call (vs:=[s1.v,s2.v]) hF hS Tryz.func90 (by kernel_rfl) rfl rfl rfl (c_spec_qNetwork p_x p_p t_3 ht_3 _ m hS.vis s1 h1 s2 h2) ?_
 have hT:=hS
 rintro a w _ ⟨m4,q5,q6,q7,q8,s5,s6,s7,s8,rfl,hm4,hR4,h5,h6,h7,h8⟩ hF hS2
 have hS : St _ _ _ _ [q5,q6,q7,q8]:=hS.join hR4 hm4
 have hm4:=MLe.weakX (O0:=[]) hT hm4
 refine q_alloc (cs:=[nilS.v,nilS.v,nilS.v,nilS.v]) hF hS rfl rfl rfl fun a w b9 hF hS=>q_store (vs:=[s5.v,s6.v,s7.v,s8.v]) (cs':=[s5.v,s6.v,s7.v,s8.v]) 0 0 hF hS sz76 rfl rfl rfl rfl rfl rfl rfl rfl fun a w hF hS=>q_end (n_sq (q_seq (q_seq (e_region ⟨[],[],m4⟩ mixed fun w' hw'=>?_))))
 have hS:=hS.below hw'
 refine e_X (v:=(.agg #[s5.v,s6.v,s7.v,s8.v])) 0 hF hS rfl (ex_loadA (vs:=[s5.v,s6.v,s7.v,s8.v]) 0 0 U76 rfl sz76 rfl rfl rfl rfl) fun a hF=>e_P (v:=(iV p_i)) 1 hF rfl (ex_move rfl) fun a hF=>e_P (v:=(iV p_j)) 2 hF rfl (ex_move rfl) fun a hF=>e_P (v:=s1.v) 3 hF rfl (ex_move rfl) fun a hF=>e_P (v:=(iV p_i)) 4 hF rfl (ex_move rfl) fun a hF=>?_
 obtain ⟨e_10,he_10,hr⟩:=bindS hr
 obtain ⟨vs11,at11,d11⟩:=h1.at he_10 1 rfl
 obtain ⟨s12,rfl,h12⟩ : ∃ s12 : Sl,vs11 = [s12.v]∧Rd m s12 e_10:=d11
 refine e_P (v:=(elP s1 (p_i.toNat * 1))) 5 hF rfl (ex_indexAddr U23 sz48 rfl rfl ((h1.mono hm4.le).idx he_10)) fun a hF=>e_xm (v:=s12.v) 6 hF hS (Mem.le.refl _) rfl (ex_loadE1 0 U48 rfl rfl (((at11.mono hm4.le)).at) rfl rfl) rfl rfl (by kernel_rfl) (by kernel_rfl) (by kernel_rfl) fun a hF=>e_P (v:=(iV p_j)) 7 hF rfl (ex_move rfl) fun a hF=>?_
 obtain ⟨e_13,he_13,hr⟩:=bindS hr
 obtain ⟨vs14,at14,d14⟩:=h12.at he_13 1 rfl
 obtain rfl : vs14 = [(iV e_13)]:=d14
 refine e_P (v:=(elP s12 (p_j.toNat * 1))) 8 hF rfl (ex_indexAddr U48 sz3 rfl rfl ((h12.mono hm4.le).idx he_13)) fun a hF=>e_xm (v:=(iV e_13)) 9 hF hS (Mem.le.refl _) rfl (ex_loadE1 0 U3 rfl rfl (((at14.mono hm4.le)).at) rfl rfl) rfl rfl (by kernel_rfl) (by kernel_rfl) (by kernel_rfl) fun a hF=>e_P (v:=(iV p_down)) 10 hF rfl (ex_move rfl) fun a hF=>e_one 11 (by kernel_rfl) ?_
 obtain ⟨t_15,ht_15,hr⟩:=bindS hr
 refine e_call (vs:=[(iV e_13),(iV p_down)]) hF hS rfl Tryz.func93 (by kernel_rfl) rfl rfl rfl (c_spec_vGoal e_13 p_down t_15 ht_15 _ m4 hS.vis) ?_
 rintro a w _ rfl hF hS
 refine e_one 12 (by kernel_rfl) ?_
 have hS : St _ _ _ _ [q5,[⟨b9,[s5.v,s6.v,s7.v,s8.v],76⟩],q6,q7,q8]:=hS.sel [1,0,2,3,4] (by decide)
 obtain ⟨m16,hm16,hS,hz16⟩:=hS.freeze
 have h16:=h5.froz hm16.le hz16
 have hS : St _ _ _ _ [q6,[⟨b9,[s5.v,s6.v,s7.v,s8.v],76⟩],q7,q8]:=hS.sel [1,0,2,3] (by decide)
 obtain ⟨m17,hm17,hS,hz17⟩:=hS.freeze
 have h17:=(h6.mono hm16.le).froz hm17.le hz17
 have hS : St _ _ _ _ [q7,[⟨b9,[s5.v,s6.v,s7.v,s8.v],76⟩],q8]:=hS.sel [1,0,2] (by decide)
 obtain ⟨m18,hm18,hS,hz18⟩:=hS.freeze
 have h18:=((h7.mono hm16.le).mono hm17.le).froz hm18.le hz18
 have hS : St _ _ _ _ [q8,[⟨b9,[s5.v,s6.v,s7.v,s8.v],76⟩]]:=hS.sel [1,0] (by decide)
 obtain ⟨m19,hm19,hS,hz19⟩:=hS.freeze
 have h19:=(((h8.mono hm16.le).mono hm17.le).mono hm18.le).froz hm19.le hz19
 obtain ⟨t_20,ht_20,hr⟩:=bindS hr
 refine e_call (vs:=[(.agg #[s5.v,s6.v,s7.v,s8.v]),(iV p_i),(iV p_j),(iV 0),(iV t_15)]) hF hS rfl Tryz.func92 (by kernel_rfl) rfl rfl rfl (c_spec_tWith t_3 p_i p_j 0 t_15 t_20 ht_20 _ m19 hS.vis s5 (((h16.mono hm17.le).mono hm18.le).mono hm19.le) s6 ((h17.mono hm18.le).mono hm19.le) s7 (h18.mono hm19.le) s8 h19) ?_
 have hT:=hS
 rintro a w _ ⟨m21,q24,q25,s22,s23,s24,s25,rfl,hm21,hR21,h22,h23,h24,h25⟩ hF hS2
 have hS : St _ _ _ _ [q24,q25,[⟨b9,[s5.v,s6.v,s7.v,s8.v],76⟩]]:=hS.join hR21 hm21
 have hm21:=MLe.weakX (O0:=[]) hT hm21
 refine e_one 13 (by kernel_rfl) ?_
 obtain ⟨m26,hm26,hS,hz26⟩:=hS.freeze
 have h26:=h24.froz hm26.le hz26
 obtain ⟨m27,hm27,hS,hz27⟩:=hS.freeze
 have h27:=(h25.mono hm26.le).froz hm27.le hz27
 obtain ⟨t_28,ht_28,hr⟩:=bindS hr
 refine e_call (vs:=[(.agg #[s22.v,s23.v,s24.v,s25.v])]) hF hS rfl Tryz.func91 (by kernel_rfl) rfl rfl rfl (c_spec_tFeasible t_20 t_28 ht_28 _ m27 hS.vis s22 ((h22.mono hm26.le).mono hm27.le) s23 ((h23.mono hm26.le).mono hm27.le) s24 (h26.mono hm27.le) s25 h27) ?_
 have hT:=hS
 rintro a w _ ⟨m29,q30,s30,rfl,hm29,hR29,h30⟩ hF hS2
 have hS : St _ _ _ _ [q30,[⟨b9,[s5.v,s6.v,s7.v,s8.v],76⟩]]:=hS.join hR29 hm29
 have hm29:=MLe.weakX (O0:=[]) hT hm29
 refine e_P (v:=(.tuple #[s30.v,(.bool t_28.2)])) 14 hF rfl (ex_move rfl) fun a hF=>e_P (v:=s30.v) 15 hF rfl (ex_extract rfl rfl) fun a hF=>e_P (v:=(.bool t_28.2)) 16 hF rfl (ex_extract rfl rfl) fun a hF=>e_P (v:=s30.v) 17 hF rfl (ex_assign rfl) fun a hF=>e_P (v:=(.bool t_28.2)) 18 hF rfl (ex_assign rfl) fun a hF=>e_end (by kernel_rfl) (n_sq ?_) _
 refine q_sr (q_m hF rfl fun a hF=>q_y (v:=(.bool (!t_28.2))) hF hS (ex_not rfl) fun a hF=>q_end (n_sq ?_))
 rcases bcase (!t_28.2) with hc1 | hc1
 ·have hr:=cond_f hc1 hr
  refine q_cond_f hF rfl hc1 (q_skipc (n_sq (q_seq (e_region ⟨[],[],m29⟩ mixed fun w' hw'=>?_))))
  have hS:=hS.below hw'
  refine e_X (v:=(.agg #[s5.v,s6.v,s7.v,s8.v])) 0 hF hS rfl (ex_loadA (vs:=[s5.v,s6.v,s7.v,s8.v]) 1 0 U76 rfl sz76 rfl rfl rfl rfl) fun a hF=>e_P (v:=(iV p_i)) 1 hF rfl (ex_move rfl) fun a hF=>e_P (v:=(iV p_j)) 2 hF rfl (ex_move rfl) fun a hF=>e_P (v:=s1.v) 3 hF rfl (ex_move rfl) fun a hF=>e_P (v:=(iV p_i)) 4 hF rfl (ex_move rfl) fun a hF=>?_
  obtain ⟨e_31,he_31,hr⟩:=bindS hr
  obtain ⟨vs32,at32,d32⟩:=h1.at he_31 1 rfl
  obtain ⟨s33,rfl,h33⟩ : ∃ s33 : Sl,vs32 = [s33.v]∧Rd m s33 e_31:=d32
  refine e_P (v:=(elP s1 (p_i.toNat * 1))) 5 hF rfl (ex_indexAddr U23 sz48 rfl rfl ((((((((((h1.mono hm4.le).mono hm16.le).mono hm17.le).mono hm18.le).mono hm19.le).mono hm21.le).mono hm26.le).mono hm27.le).mono hm29.le).idx he_31)) fun a hF=>e_xm (v:=s33.v) 6 hF hS (Mem.le.refl _) rfl (ex_loadE1 0 U48 rfl rfl (((((((((((at32.mono hm4.le).mono hm16.le).mono hm17.le).mono hm18.le).mono hm19.le).mono hm21.le).mono hm26.le).mono hm27.le).mono hm29.le)).at) rfl rfl) rfl rfl (by kernel_rfl) (by kernel_rfl) (by kernel_rfl) fun a hF=>e_P (v:=(iV p_j)) 7 hF rfl (ex_move rfl) fun a hF=>?_
  obtain ⟨e_34,he_34,hr⟩:=bindS hr
  obtain ⟨vs35,at35,d35⟩:=h33.at he_34 1 rfl
  obtain rfl : vs35 = [(iV e_34)]:=d35
  refine e_P (v:=(elP s33 (p_j.toNat * 1))) 8 hF rfl (ex_indexAddr U48 sz3 rfl rfl ((((((((((h33.mono hm4.le).mono hm16.le).mono hm17.le).mono hm18.le).mono hm19.le).mono hm21.le).mono hm26.le).mono hm27.le).mono hm29.le).idx he_34)) fun a hF=>e_xm (v:=(iV e_34)) 9 hF hS (Mem.le.refl _) rfl (ex_loadE1 0 U3 rfl rfl (((((((((((at35.mono hm4.le).mono hm16.le).mono hm17.le).mono hm18.le).mono hm19.le).mono hm21.le).mono hm26.le).mono hm27.le).mono hm29.le)).at) rfl rfl) rfl rfl (by kernel_rfl) (by kernel_rfl) (by kernel_rfl) fun a hF=>e_P (v:=(iV p_up)) 10 hF rfl (ex_move rfl) fun a hF=>e_P (v:=(iV (w64 (e_34 + p_up)))) 11 hF rfl (ex_ibin rfl rfl rfl) fun a hF=>e_one 12 (by kernel_rfl) ?_
  obtain ⟨t_36,ht_36,hr⟩:=bindS hr
  refine e_call (vs:=[(.agg #[s5.v,s6.v,s7.v,s8.v]),(iV p_i),(iV p_j),(iV (w64 (e_34 + p_up))),(iV 100000)]) hF hS rfl Tryz.func92 (by kernel_rfl) rfl rfl rfl (c_spec_tWith t_3 p_i p_j (w64 (e_34 + p_up)) 100000 t_36 ht_36 _ m29 hS.vis s5 (((((((h16.mono hm17.le).mono hm18.le).mono hm19.le).mono hm21.le).mono hm26.le).mono hm27.le).mono hm29.le) s6 ((((((h17.mono hm18.le).mono hm19.le).mono hm21.le).mono hm26.le).mono hm27.le).mono hm29.le) s7 (((((h18.mono hm19.le).mono hm21.le).mono hm26.le).mono hm27.le).mono hm29.le) s8 ((((h19.mono hm21.le).mono hm26.le).mono hm27.le).mono hm29.le)) ?_
  have hT:=hS
  rintro a w _ ⟨m37,q40,q41,s38,s39,s40,s41,rfl,hm37,hR37,h38,h39,h40,h41⟩ hF hS2
  have hS : St _ _ _ _ [q40,q41,q30,[⟨b9,[s5.v,s6.v,s7.v,s8.v],76⟩]]:=hS.join hR37 hm37
  have hm37:=MLe.weakX (O0:=[]) hT hm37
  refine e_one 13 (by kernel_rfl) ?_
  obtain ⟨m42,hm42,hS,hz42⟩:=hS.freeze
  have h42:=h40.froz hm42.le hz42
  obtain ⟨m43,hm43,hS,hz43⟩:=hS.freeze
  have h43:=(h41.mono hm42.le).froz hm43.le hz43
  obtain ⟨t_44,ht_44,hr⟩:=bindS hr
  refine e_call (vs:=[(.agg #[s38.v,s39.v,s40.v,s41.v])]) hF hS rfl Tryz.func91 (by kernel_rfl) rfl rfl rfl (c_spec_tFeasible t_36 t_44 ht_44 _ m43 hS.vis s38 ((h38.mono hm42.le).mono hm43.le) s39 ((h39.mono hm42.le).mono hm43.le) s40 (h42.mono hm43.le) s41 h43) ?_
  have hT:=hS
  rintro a w _ ⟨m45,q46,s46,rfl,hm45,hR45,h46⟩ hF hS2
  have hS : St _ _ _ _ [q46,q30,[⟨b9,[s5.v,s6.v,s7.v,s8.v],76⟩]]:=hS.join hR45 hm45
  have hm45:=MLe.weakX (O0:=[]) hT hm45
  refine e_P (v:=(.tuple #[s46.v,(.bool t_44.2)])) 14 hF rfl (ex_move rfl) fun a hF=>e_P (v:=s46.v) 15 hF rfl (ex_extract rfl rfl) fun a hF=>e_P (v:=(.bool t_44.2)) 16 hF rfl (ex_extract rfl rfl) fun a hF=>e_P (v:=s46.v) 17 hF rfl (ex_assign rfl) fun a hF=>e_P (v:=(.bool t_44.2)) 18 hF rfl (ex_assign rfl) fun a hF=>e_end (by kernel_rfl) (n_sq ?_) _
  refine q_sr (q_m hF rfl fun a hF=>q_s hF rfl fun a hF=>q_end (n_sq (q_ret ?_)))
  obtain rfl:=someI hr
  exact ret_of hF hS rfl (.tmp rfl .nil) rfl
 ·have hr:=cond_t hc1 hr
  refine q_cond_t hF rfl hc1 (q_sr (q_s hF rfl fun a hF=>q_end (n_sq (q_ret (r_sq ?_)))))
  obtain rfl:=someI hr
  exact ret_of hF hS rfl (.tmp rfl .nil) rfl

theorem c_spec_vOpen (p_x : List (List Int)) (p_p : List (List Int)) (p_primary : List (List Int)) (p_down : Int) (p_up : Int) (r : (List (List Int))) (hr : spec_vOpen p_x p_p p_primary p_down p_up = some r) (w0 : World) (m : Mem) (hv : Vis m w0) (s1 : Sl) (h1 : Rd m s1 p_x) (s2 : Sl) (h2 : Rd m s2 p_p) (s3 : Sl) (h3 : Rd m s3 p_primary) :
  Ret Tryz.prog 50 [s1.v,s2.v,s3.v,(iV p_down),(iV p_up)] w0 (fun v w=>∃ (m' : Mem) (q0' : Piece) (s0' : Sl),v = s0'.v∧MLe [] w0.heap.size m m'∧St [] w0 w m' [q0']∧OwnL m' 48 q0' s0' r):=by
 unfold spec_vOpen at hr
 refine ret_start Tryz.func50 rfl 51 rfl rfl m hv fun a hF hS=>q_sr (q_s hF rfl fun a hF=>q_end (n_sq (q_sr (q_s hF rfl fun a hF=>q_end (n_sq (q_seq (q_sr (q_m hF rfl fun a hF=>q_y (v:=(iV (goLen p_primary))) hF hS (ex_len U23 rfl h3.len) fun a hF=>q_m hF rfl fun a hF=>q_end (n_sq (q_block ?_))))))))))
 obtain ⟨out_30,hl1,hr⟩:=bindS hr
 refine q_loop (fun (s : (List (List Int)) × Int) a w=>∃ (m7 : Mem),∃ (q5 : Piece),∃ (s5 : Sl),∃ out_4,∃ t_6,s = (out_4,t_6)∧Fr a 51 [(0,s1.v),(1,s2.v),(3,(iV p_down)),(4,(iV p_up)),(11,s5.v),(16,s3.v),(17,(iV (goLen p_primary))),(18,(iV t_6))]∧St [] w0 w m7 [q5]∧MLe [] w0.heap.size m m7∧OwnL m7 48 q5 s5 out_4) (fun (out_30 : (List (List Int))) e a w=>∃ (m32 : Mem),∃ (q31 : Piece),∃ (s31 : Sl),e = .exit 0∧Fr a 51 [(11,s31.v)]∧St [] w0 w m32 [q31]∧MLe [] w0.heap.size m m32∧OwnL m32 48 q31 s31 out_30) hl1 ⟨m,[],nilS,_,_,rfl,hF.sub ⟨rfl,rfl,rfl,rfl,rfl,rfl,rfl,rfl,trivial⟩,hS.sel [0] (by decide),(MLe.refl _ _),(OwnL.nil (α:=List Int) m 48)⟩ ?_ ?_
 ·clear hF hS
  rintro s a w st ⟨m7,q5,s5,out_4,t_6,rfl,hF,hS,hm7,h5⟩ hb1
  unfold spec_vOpen_l1 at hb1
  refine q_sr (q_y (v:=(.bool (decide (t_6 < (goLen p_primary))))) hF hS (ex_ibin rfl rfl rfl) fun a hF=>q_end (n_sq (q_seq ?_)))
  rcases bcase (decide (t_6 < (goLen p_primary))) with hc2 | hc2
  ·have hb1:=cond_f hc2 hb1
   refine q_cond_f hF rfl hc2 (q_exit (x_sq ?_))
   obtain rfl:=someI hb1
   exact ⟨nofun,.inl ⟨m7,q5,s5,rfl,hF.sub ⟨rfl,trivial⟩,hS,hm7,h5⟩⟩
  ·have hb1:=cond_t hc2 hb1
   refine q_cond_t hF rfl hc2 (q_skipc (n_sq (q_seq (q_block (q_sr (q_m hF rfl fun a hF=>?_))))))
   obtain ⟨e_8,he_8,hb1⟩:=bindS hb1
   obtain ⟨vs9,at9,d9⟩:=h3.at he_8 1 rfl
   obtain ⟨s10,rfl,h10⟩ : ∃ s10 : Sl,vs9 = [s10.v]∧Rd m s10 e_8:=d9
   refine q_y (v:=(elP s3 (t_6.toNat * 1))) hF hS (ex_indexAddr U23 sz48 rfl rfl ((h3.mono hm7.le).idx he_8)) fun a hF=>q_y (v:=s10.v) hF hS (ex_loadE1 0 U48 rfl rfl (((at9.mono hm7.le)).at) rfl rfl) fun a hF=>q_s hF rfl fun a hF=>q_s hF rfl fun a hF=>q_end (n_sq (q_sr (q_m hF rfl fun a hF=>q_y (v:=(iV (goLen e_8))) hF hS (ex_len U48 rfl (h10.mono hm7.le).len) fun a hF=>q_m hF rfl fun a hF=>q_end (n_sq (q_block ?_)))))
   obtain ⟨out_27,hl3,hb1⟩:=bindS hb1
   refine q_loop (fun (s : (List (List Int)) × Int) a w=>∃ (m14 : Mem),∃ (q12 : Piece),∃ (s12 : Sl),∃ out_11,∃ t_13,s = (out_11,t_13)∧Fr a 51 [(0,s1.v),(1,s2.v),(3,(iV p_down)),(4,(iV p_up)),(11,s12.v),(12,(iV t_6)),(16,s3.v),(17,(iV (goLen p_primary))),(18,(iV t_6)),(23,s10.v),(24,(iV (goLen e_8))),(25,(iV t_13))]∧St [] w0 w m14 [q12]∧MLe [] w0.heap.size m7 m14∧OwnL m14 48 q12 s12 out_11) (fun (out_27 : (List (List Int))) e a w=>∃ (m29 : Mem),∃ (q28 : Piece),∃ (s28 : Sl),e = .exit 2∧Fr a 51 [(0,s1.v),(1,s2.v),(3,(iV p_down)),(4,(iV p_up)),(11,s28.v),(16,s3.v),(17,(iV (goLen p_primary))),(18,(iV t_6))]∧St [] w0 w m29 [q28]∧MLe [] w0.heap.size m7 m29∧OwnL m29 48 q28 s28 out_27) hl3 ⟨m7,q5,s5,_,_,rfl,hF.sub ⟨rfl,rfl,rfl,rfl,rfl,rfl,rfl,rfl,rfl,rfl,rfl,rfl,trivial⟩,hS,(MLe.refl _ _),h5⟩ ?_ ?_
   ·clear hF hS
    rintro s a w st ⟨m14,q12,s12,out_11,t_13,rfl,hF,hS,hm14,h12⟩ hb3
    unfold spec_vOpen_l2 at hb3
    refine q_sr (q_y (v:=(.bool (decide (t_13 < (goLen e_8))))) hF hS (ex_ibin rfl rfl rfl) fun a hF=>q_end (n_sq (q_seq ?_)))
    rcases bcase (decide (t_13 < (goLen e_8))) with hc4 | hc4
    ·have hb3:=cond_f hc4 hb3
     refine q_cond_f hF rfl hc4 (q_exit (x_sq ?_))
     obtain rfl:=someI hb3
     exact ⟨nofun,.inl ⟨m14,q12,s12,rfl,hF.sub ⟨rfl,rfl,rfl,rfl,rfl,rfl,rfl,rfl,trivial⟩,hS,hm14,h12⟩⟩
    ·have hb3:=cond_t hc4 hb3
     refine q_cond_t hF rfl hc4 (q_skipc (n_sq (q_seq (q_block (q_sr (q_m hF rfl fun a hF=>?_))))))
     obtain ⟨e_15,he_15,hb3⟩:=bindS hb3
     obtain ⟨vs16,at16,d16⟩:=h10.at he_15 1 rfl
     obtain rfl : vs16 = [(iV e_15)]:=d16
     refine q_y (v:=(elP s10 (t_13.toNat * 1))) hF hS (ex_indexAddr U48 sz3 rfl rfl (((h10.mono hm7.le).mono hm14.le).idx he_15)) fun a hF=>q_y (v:=(iV e_15)) hF hS (ex_loadE1 0 U3 rfl rfl ((((at16.mono hm7.le).mono hm14.le)).at) rfl rfl) fun a hF=>q_s hF rfl fun a hF=>q_s hF rfl fun a hF=>q_end (n_sq (q_seq ?_))
     obtain ⟨t_18,hj5,hb3⟩:=bindS hb3
     refine q_join (fun a w=>Fr a 51 [(0,s1.v),(1,s2.v),(3,(iV p_down)),(4,(iV p_up)),(11,s12.v),(12,(iV t_6)),(14,(iV t_13)),(16,s3.v),(17,(iV (goLen p_primary))),(18,(iV t_6)),(23,s10.v),(24,(iV (goLen e_8))),(25,(iV t_13)),(41,(.bool t_18))]∧St [] w0 w m14 [q12]) ?_ ?_
     ·refine q_region (q_m hF rfl fun a hF=>q_y (v:=(.bool (e_15 == 1))) hF hS (ex_ibin rfl rfl rfl) fun a hF=>q_m hF rfl fun a hF=>?_)
      rcases bcase (e_15 == 1) with hc6 | hc6
      ·have hj5:=cond_f hc6 hj5
       refine q_k hF hc6 fun a hF=>q_k hF hc6 fun a hF=>q_k hF hc6 fun a hF=>q_k hF hc6 fun a hF=>q_k hF hc6 fun a hF=>q_k hF hc6 fun a hF=>q_k hF hc6 fun a hF=>q_k hF hc6 fun a hF=>q_y (v:=(.bool false)) hF hS (ex_pick_f rfl rfl hc6) fun a hF=>q_end (n_jn ?_)
       obtain rfl:=someI hj5
       exact ⟨hF.sub ⟨rfl,rfl,rfl,rfl,rfl,rfl,rfl,rfl,rfl,rfl,rfl,rfl,rfl,rfl,trivial⟩,hS⟩
      ·have hj5:=cond_t hc6 hj5
       refine q_g (v:=s1.v) hF hS (ex_move rfl) hc6 fun a hF=>q_g (v:=s2.v) hF hS (ex_move rfl) hc6 fun a hF=>q_g (v:=(iV t_6)) hF hS (ex_move rfl) hc6 fun a hF=>q_g (v:=(iV t_13)) hF hS (ex_move rfl) hc6 fun a hF=>q_g (v:=(iV p_down)) hF hS (ex_move rfl) hc6 fun a hF=>q_g (v:=(iV p_up)) hF hS (ex_move rfl) hc6 fun a hF=>?_
       obtain ⟨t_17,ht_17,hj5⟩:=bindS hj5
       refine q_callg (vs:=[s1.v,s2.v,(iV t_6),(iV t_13),(iV p_down),(iV p_up)]) hF hS (wanted_t hF rfl rfl rfl hc6) Tryz.func66 (by kernel_rfl) rfl rfl rfl (c_spec_vProtected p_x p_p t_6 t_13 p_down p_up t_17 ht_17 _ m14 hS.vis s1 ((h1.mono hm7.le).mono hm14.le) s2 ((h2.mono hm7.le).mono hm14.le)) ?_
       rintro a w _ rfl hF hS
       refine q_g (v:=(.bool (!t_17))) hF hS (ex_not rfl) hc6 fun a hF=>q_y (v:=(.bool (!t_17))) hF hS (ex_pick_t rfl rfl hc6) fun a hF=>q_end (n_jn ?_)
       obtain rfl:=someI hj5
       exact ⟨hF.sub ⟨rfl,rfl,rfl,rfl,rfl,rfl,rfl,rfl,rfl,rfl,rfl,rfl,rfl,rfl,trivial⟩,hS⟩
     ·rintro a w ⟨hF,hS⟩
      refine n_sq ?_
      obtain ⟨out_24,hj7,hb3⟩:=bindS hb3
      refine q_join (fun a w=>∃ (m26 : Mem),∃ (q25 : Piece),∃ (s25 : Sl),Fr a 51 [(0,s1.v),(1,s2.v),(3,(iV p_down)),(4,(iV p_up)),(11,s25.v),(12,(iV t_6)),(16,s3.v),(17,(iV (goLen p_primary))),(18,(iV t_6)),(23,s10.v),(24,(iV (goLen e_8))),(25,(iV t_13))]∧St [] w0 w m26 [q25]∧MLe [] w0.heap.size m14 m26∧OwnL m26 48 q25 s25 out_24) ?_ ?_
      ·rcases bcase (t_18) with hc8 | hc8
       ·have hj7:=cond_f hc8 hj7
        refine q_cond_f hF rfl hc8 (q_skipc (n_jn ?_))
        obtain rfl:=someI hj7
        exact ⟨m14,q12,s12,hF.sub ⟨rfl,rfl,rfl,rfl,rfl,rfl,rfl,rfl,rfl,rfl,rfl,rfl,trivial⟩,hS,(MLe.refl _ _),h12⟩
       ·have hj7:=cond_t hc8 hj7
        refine q_cond_t hF rfl hc8 (q_region (q_m hF rfl fun a hF=>q_m hF rfl fun a hF=>q_m hF rfl fun a hF=>q_do rfl fun _ hK=>wp_buildSlice' (l:=([t_6,t_13] : List Int)) (cells:=[(iV t_6),(iV t_13)]) hF hS U48 inf3 rfl rfl (by kernel_rfl) rfl rfl rfl ⟨rfl,rfl,rfl⟩ rfl rfl fun a w q19 s19 hF hS h19 _=>hK _ _ ?_))
        obtain ⟨m21,hm21,hS,hz21⟩:=hS.freeze
        have h21:=h19.froz hm21.le hz21
        refine q_do rfl fun _ hK=>wp_buildSlice' (l:=([([t_6,t_13] : List Int)] : List (List Int))) (cells:=[s19.v]) hF hS U23 inf48 rfl rfl (by kernel_rfl) rfl rfl rfl ⟨⟨s19,rfl,h21⟩,rfl⟩ rfl rfl fun a w q20 s20 hF hS h20 _=>hK _ _ ?_
        have hS : St _ _ _ _ [q12,q20]:=hS.sel [1,0] (by decide)
        obtain ⟨l_22,hl_22,hj7⟩:=bindS hj7
        refine q_do rfl fun _ hK=>wp_append hF hS (h12.mono hm21.le) U23 inf48 rfl rfl rfl rfl (h20.vw hS (j:=1) rfl) rfl (by decide) hl_22 rfl fun a w q23 s23 hF hS h23=>hK _ _ (q_s hF rfl fun a hF=>q_end (n_jn ?_))
        obtain rfl:=someI hj7
        exact ⟨m21,q23,s23,hF.sub ⟨rfl,rfl,rfl,rfl,rfl,rfl,rfl,rfl,rfl,rfl,rfl,rfl,trivial⟩,hS.mask [true,false],hm21,h23⟩
      ·rintro a w ⟨m26,q25,s25,hF,hS,hm26,h25⟩
       refine n_ib (n_sq ?_)
       refine q_region (q_y (v:=(iV (w64 (t_13 + 1)))) hF hS (ex_ibin rfl rfl rfl) fun a hF=>q_m hF rfl fun a hF=>q_end ?_)
       obtain rfl:=someI hb3
       exact ⟨rfl,m26,q25,s25,_,_,rfl,hF.sub ⟨rfl,rfl,rfl,rfl,rfl,rfl,rfl,rfl,rfl,rfl,rfl,rfl,trivial⟩,hS,(hm14.trans hm26),h25⟩
   ·rintro e a w ⟨m29,q28,s28,rfl,hF,hS,hm29,h28⟩
    refine x_ib (n_ib (n_sq ?_))
    refine q_region (q_y (v:=(iV (w64 (t_6 + 1)))) hF hS (ex_ibin rfl rfl rfl) fun a hF=>q_m hF rfl fun a hF=>q_end ?_)
    obtain rfl:=someI hb1
    exact ⟨rfl,m29,q28,s28,_,_,rfl,hF.sub ⟨rfl,rfl,rfl,rfl,rfl,rfl,rfl,rfl,trivial⟩,hS,(hm7.trans hm29),h28⟩
 ·rintro e a w ⟨m32,q31,s31,rfl,hF,hS,hm32,h31⟩
  refine x_ib (n_sq ?_)
  refine q_sr (q_m hF rfl fun a hF=>q_s hF rfl fun a hF=>q_end (n_sq (q_ret ?_)))
  obtain rfl:=someI hr
  exact ret_of hF hS rfl (.tmp rfl .nil) ⟨m32,q31,s31,rfl,hm32,hS.sel [0] (by decide),h31⟩

theorem c_spec_vSafe (p_x : List (List Int)) (p_p : List (List Int)) (p_primary : List (List Int)) (p_down : Int) (p_up : Int) (r : Bool) (hr : spec_vSafe p_x p_p p_primary p_down p_up = some r) (w0 : World) (m : Mem) (hv : Vis m w0) (s1 : Sl) (h1 : Rd m s1 p_x) (s2 : Sl) (h2 : Rd m s2 p_p) (s3 : Sl) (h3 : Rd m s3 p_primary) :
  Ret Tryz.prog 34 [s1.v,s2.v,s3.v,(iV p_down),(iV p_up)] w0 (fun v _=>v = (.bool r)):=by
 unfold spec_vSafe at hr
 refine ret_start Tryz.func34 rfl 60 rfl rfl m hv fun a hF hS=>q_sr (q_s hF rfl fun a hF=>q_end (n_sq (q_seq (q_seq ?_))))
 obtain ⟨t_5,hj1,hr⟩:=bindS hr
 refine q_join (fun a w=>Fr a 60 [(0,s1.v),(1,s2.v),(2,s3.v),(3,(iV p_down)),(4,(iV p_up)),(23,(.bool t_5))]∧St [] w0 w m []) ?_ ?_
 ·refine q_region (q_m hF rfl fun a hF=>q_m hF rfl fun a hF=>q_y (v:=(iV (w64 (p_down + p_up)))) hF hS (ex_ibin rfl rfl rfl) fun a hF=>q_y (v:=(.bool (decide (0 < (w64 (p_down + p_up)))))) hF hS (ex_ibin rfl rfl rfl) fun a hF=>q_m hF rfl fun a hF=>?_)
  rcases bcase (decide (0 < (w64 (p_down + p_up)))) with hc2 | hc2
  ·have hj1:=cond_f hc2 hj1
   refine q_k hF hc2 fun a hF=>q_k hF hc2 fun a hF=>q_k hF hc2 fun a hF=>q_y (v:=(.bool false)) hF hS (ex_pick_f rfl rfl hc2) fun a hF=>q_end (n_jn ?_)
   obtain rfl:=someI hj1
   exact ⟨hF.sub ⟨rfl,rfl,rfl,rfl,rfl,rfl,trivial⟩,hS⟩
  ·have hj1:=cond_t hc2 hj1
   refine q_g (v:=s2.v) hF hS (ex_move rfl) hc2 fun a hF=>q_g (v:=s3.v) hF hS (ex_move rfl) hc2 fun a hF=>?_
   obtain ⟨t_4,ht_4,hj1⟩:=bindS hj1
   refine q_callg (vs:=[s2.v,s3.v]) hF hS (wanted_t hF rfl rfl rfl hc2) Tryz.func65 (by kernel_rfl) rfl rfl rfl (c_spec_vAlone p_p p_primary t_4 ht_4 _ m hS.vis s2 h2 s3 h3) ?_
   rintro a w _ rfl hF hS
   refine q_y (v:=(.bool t_4)) hF hS (ex_pick_t rfl rfl hc2) fun a hF=>q_end (n_jn ?_)
   obtain rfl:=someI hj1
   exact ⟨hF.sub ⟨rfl,rfl,rfl,rfl,rfl,rfl,trivial⟩,hS⟩
 ·rintro a w ⟨hF,hS⟩
  refine n_sq ?_
  rcases bcase (t_5) with hc3 | hc3
  ·have hr:=cond_f hc3 hr
   refine q_cond_f hF rfl hc3 (q_skipc (n_sq (q_seq (q_sr (q_m hF rfl fun a hF=>q_y (v:=(iV (goLen p_primary))) hF hS (ex_len U23 rfl h3.len) fun a hF=>q_m hF rfl fun a hF=>q_end (n_sq (q_block ?_)))))))
   obtain ⟨o4,hl4,hr⟩:=bindS hr
   refine q_loop (fun (t_6 : Int) a w=>Fr a 60 [(0,s1.v),(1,s2.v),(3,(iV p_down)),(4,(iV p_up)),(32,s3.v),(33,(iV (goLen p_primary))),(34,(iV t_6))]∧St [] w0 w m []) (fun (o : (Unit) ⊕ (Bool)) e a w=>o = .inl ()∧e = .exit 0∧Fr a 60 []∧St [] w0 w m []) hl4 ⟨hF.sub ⟨rfl,rfl,rfl,rfl,rfl,rfl,rfl,trivial⟩,hS⟩ ?_ ?_
   ·clear hF hS
    rintro t_6 a w st ⟨hF,hS⟩ hb4
    unfold spec_vSafe_l1 at hb4
    refine q_sr (q_y (v:=(.bool (decide (t_6 < (goLen p_primary))))) hF hS (ex_ibin rfl rfl rfl) fun a hF=>q_end (n_sq (q_seq ?_)))
    rcases bcase (decide (t_6 < (goLen p_primary))) with hc5 | hc5
    ·have hb4:=cond_f hc5 hb4
     refine q_cond_f hF rfl hc5 (q_exit (x_sq ?_))
     obtain rfl:=someI hb4
     exact ⟨nofun,.inl ⟨rfl,rfl,hF.sub trivial,hS⟩⟩
    ·have hb4:=cond_t hc5 hb4
     refine q_cond_t hF rfl hc5 (q_skipc (n_sq (q_seq (q_block (q_sr (q_m hF rfl fun a hF=>?_))))))
     obtain ⟨e_7,he_7,hb4⟩:=bindS hb4
     obtain ⟨vs8,at8,d8⟩:=h3.at he_7 1 rfl
     obtain ⟨s9,rfl,h9⟩ : ∃ s9 : Sl,vs8 = [s9.v]∧Rd m s9 e_7:=d8
     refine q_y (v:=(elP s3 (t_6.toNat * 1))) hF hS (ex_indexAddr U23 sz48 rfl rfl (h3.idx he_7)) fun a hF=>q_y (v:=s9.v) hF hS (ex_loadE1 0 U48 rfl rfl ((at8).at) rfl rfl) fun a hF=>q_s hF rfl fun a hF=>q_s hF rfl fun a hF=>q_end (n_sq (q_sr (q_m hF rfl fun a hF=>q_y (v:=(iV (goLen e_7))) hF hS (ex_len U48 rfl h9.len) fun a hF=>q_m hF rfl fun a hF=>q_end (n_sq (q_block ?_)))))
     obtain ⟨o6,hl6,hb4⟩:=bindS hb4
     refine q_loop (fun (t_10 : Int) a w=>Fr a 60 [(0,s1.v),(1,s2.v),(3,(iV p_down)),(4,(iV p_up)),(11,(iV t_6)),(32,s3.v),(33,(iV (goLen p_primary))),(34,(iV t_6)),(39,s9.v),(40,(iV (goLen e_7))),(41,(iV t_10))]∧St [] w0 w m []) (fun (o : (Unit) ⊕ (Stp (Int) ((Unit) ⊕ (Bool)))) e a w=>o = .inl ()∧e = .exit 2∧Fr a 60 [(0,s1.v),(1,s2.v),(3,(iV p_down)),(4,(iV p_up)),(32,s3.v),(33,(iV (goLen p_primary))),(34,(iV t_6))]∧St [] w0 w m []) hl6 ⟨hF.sub ⟨rfl,rfl,rfl,rfl,rfl,rfl,rfl,rfl,rfl,rfl,rfl,trivial⟩,hS⟩ ?_ ?_
     ·clear hF hS
      rintro t_10 a w st ⟨hF,hS⟩ hb6
      unfold spec_vSafe_l2 at hb6
      refine q_sr (q_y (v:=(.bool (decide (t_10 < (goLen e_7))))) hF hS (ex_ibin rfl rfl rfl) fun a hF=>q_end (n_sq (q_seq ?_)))
      rcases bcase (decide (t_10 < (goLen e_7))) with hc7 | hc7
      ·have hb6:=cond_f hc7 hb6
       refine q_cond_f hF rfl hc7 (q_exit (x_sq ?_))
       obtain rfl:=someI hb6
       exact ⟨nofun,.inl ⟨rfl,rfl,hF.sub ⟨rfl,rfl,rfl,rfl,rfl,rfl,rfl,trivial⟩,hS⟩⟩
      ·have hb6:=cond_t hc7 hb6
       refine q_cond_t hF rfl hc7 (q_skipc (n_sq (q_seq (q_block (q_sr (q_m hF rfl fun a hF=>?_))))))
       obtain ⟨e_11,he_11,hb6⟩:=bindS hb6
       obtain ⟨vs12,at12,d12⟩:=h9.at he_11 1 rfl
       obtain rfl : vs12 = [(iV e_11)]:=d12
       refine q_y (v:=(elP s9 (t_10.toNat * 1))) hF hS (ex_indexAddr U48 sz3 rfl rfl (h9.idx he_11)) fun a hF=>q_y (v:=(iV e_11)) hF hS (ex_loadE1 0 U3 rfl rfl ((at12).at) rfl rfl) fun a hF=>q_s hF rfl fun a hF=>q_s hF rfl fun a hF=>q_end (n_sq (q_seq ?_))
       obtain ⟨t_14,hj8,hb6⟩:=bindS hb6
       refine q_join (fun a w=>Fr a 60 [(0,s1.v),(1,s2.v),(3,(iV p_down)),(4,(iV p_up)),(11,(iV t_6)),(32,s3.v),(33,(iV (goLen p_primary))),(34,(iV t_6)),(39,s9.v),(40,(iV (goLen e_7))),(41,(iV t_10)),(57,(.bool t_14))]∧St [] w0 w m []) ?_ ?_
       ·refine q_region (q_m hF rfl fun a hF=>q_y (v:=(.bool (e_11 == 1))) hF hS (ex_ibin rfl rfl rfl) fun a hF=>q_m hF rfl fun a hF=>?_)
        rcases bcase (e_11 == 1) with hc9 | hc9
        ·have hj8:=cond_f hc9 hj8
         refine q_k hF hc9 fun a hF=>q_k hF hc9 fun a hF=>q_k hF hc9 fun a hF=>q_k hF hc9 fun a hF=>q_k hF hc9 fun a hF=>q_k hF hc9 fun a hF=>q_k hF hc9 fun a hF=>q_k hF hc9 fun a hF=>q_y (v:=(.bool false)) hF hS (ex_pick_f rfl rfl hc9) fun a hF=>q_end (n_jn ?_)
         obtain rfl:=someI hj8
         exact ⟨hF.sub ⟨rfl,rfl,rfl,rfl,rfl,rfl,rfl,rfl,rfl,rfl,rfl,rfl,trivial⟩,hS⟩
        ·have hj8:=cond_t hc9 hj8
         refine q_g (v:=s1.v) hF hS (ex_move rfl) hc9 fun a hF=>q_g (v:=s2.v) hF hS (ex_move rfl) hc9 fun a hF=>q_g (v:=(iV t_6)) hF hS (ex_move rfl) hc9 fun a hF=>q_g (v:=(iV t_10)) hF hS (ex_move rfl) hc9 fun a hF=>q_g (v:=(iV p_down)) hF hS (ex_move rfl) hc9 fun a hF=>q_g (v:=(iV p_up)) hF hS (ex_move rfl) hc9 fun a hF=>?_
         obtain ⟨t_13,ht_13,hj8⟩:=bindS hj8
         refine q_callg (vs:=[s1.v,s2.v,(iV t_6),(iV t_10),(iV p_down),(iV p_up)]) hF hS (wanted_t hF rfl rfl rfl hc9) Tryz.func66 (by kernel_rfl) rfl rfl rfl (c_spec_vProtected p_x p_p t_6 t_10 p_down p_up t_13 ht_13 _ m hS.vis s1 h1 s2 h2) ?_
         rintro a w _ rfl hF hS
         refine q_g (v:=(.bool (!t_13))) hF hS (ex_not rfl) hc9 fun a hF=>q_y (v:=(.bool (!t_13))) hF hS (ex_pick_t rfl rfl hc9) fun a hF=>q_end (n_jn ?_)
         obtain rfl:=someI hj8
         exact ⟨hF.sub ⟨rfl,rfl,rfl,rfl,rfl,rfl,rfl,rfl,rfl,rfl,rfl,rfl,trivial⟩,hS⟩
       ·rintro a w ⟨hF,hS⟩
        refine n_sq ?_
        rcases bcase (t_14) with hc10 | hc10
        ·have hb6:=cond_f hc10 hb6
         refine q_cond_f hF rfl hc10 (q_skipc (n_ib (n_sq (q_region (q_y (v:=(iV (w64 (t_10 + 1)))) hF hS (ex_ibin rfl rfl rfl) fun a hF=>q_m hF rfl fun a hF=>q_end ?_)))))
         obtain rfl:=someI hb6
         exact ⟨rfl,hF.sub ⟨rfl,rfl,rfl,rfl,rfl,rfl,rfl,rfl,rfl,rfl,rfl,trivial⟩,hS⟩
        ·have hb6:=cond_t hc10 hb6
         refine q_cond_t hF rfl hc10 (q_sr (q_s hF rfl fun a hF=>q_end (n_sq (q_ret (r_ib (r_sq ?_))))))
         obtain rfl:=someI hb6
         refine ⟨nofun,.inr fun ho=>?_⟩
         subst ho
         refine r_ib (r_ib (r_sq ?_))
         obtain rfl:=someI hb4
         refine ⟨nofun,.inr fun ho=>?_⟩
         subst ho
         refine r_ib (r_sq ?_)
         obtain rfl:=someI hr
         exact ret_of hF hS rfl (.tmp rfl .nil) rfl
     ·rintro e a w ⟨rfl,rfl,hF,hS⟩
      refine x_ib (n_ib (n_sq ?_))
      refine q_region (q_y (v:=(iV (w64 (t_6 + 1)))) hF hS (ex_ibin rfl rfl rfl) fun a hF=>q_m hF rfl fun a hF=>q_end ?_)
      obtain rfl:=someI hb4
      exact ⟨rfl,hF.sub ⟨rfl,rfl,rfl,rfl,rfl,rfl,rfl,trivial⟩,hS⟩
   ·rintro e a w ⟨rfl,rfl,hF,hS⟩
    refine x_ib (n_sq ?_)
    refine q_sr (q_s hF rfl fun a hF=>q_end (n_sq (q_ret ?_)))
    obtain rfl:=someI hr
    exact ret_of hF hS rfl (.tmp rfl .nil) rfl
  ·have hr:=cond_t hc3 hr
   refine q_cond_t hF rfl hc3 (q_sr (q_m hF rfl fun a hF=>q_m hF rfl fun a hF=>q_m hF rfl fun a hF=>q_m hF rfl fun a hF=>q_m hF rfl fun a hF=>?_))
   obtain ⟨t_6,ht_6,hr⟩:=bindS hr
   refine q_call (vs:=[s1.v,s2.v,s3.v,(iV p_down),(iV p_up)]) hF hS Tryz.func50 (by kernel_rfl) rfl rfl rfl (c_spec_vOpen p_x p_p p_primary p_down p_up t_6 ht_6 _ m hS.vis s1 h1 s2 h2 s3 h3) ?_
   have hT:=hS
   rintro a w _ ⟨m7,q8,s8,rfl,hm7,hR7,h8⟩ hF hS2
   have hS : St _ _ _ _ [q8]:=hS.join hR7 hm7
   have hm7:=MLe.weakX (O0:=[]) hT hm7
   refine q_y (v:=(iV (goLen t_6))) hF hS (ex_len U23 rfl h8.len) fun a hF=>q_y (v:=(.bool ((goLen t_6) == 0))) hF hS (ex_ibin rfl rfl rfl) fun a hF=>q_s hF rfl fun a hF=>q_end (n_sq (q_ret (r_sq ?_)))
   obtain rfl:=someI hr
   exact ret_of hF hS rfl (.tmp rfl .nil) rfl

theorem c_spec_LeastPlan (p_x : List (List Int)) (p_primary : List (List Int)) (p_down : Int) (p_up : Int) (r : impl_Plan × Bool) (hr : spec_LeastPlan p_x p_primary p_down p_up = some r) (w0 : World) (m : Mem) (hv : Vis m w0) (s1 : Sl) (h1 : Rd m s1 p_x) (s2 : Sl) (h2 : Rd m s2 p_primary) :
  Ret Tryz.prog 6 [s1.v,s2.v,(iV p_down),(iV p_up)] w0 (fun v w=>∃ (q0' : Piece) (s0' : Sl),v = (.tuple #[(.agg #[s0'.v,(iV r.1.Added),(iV r.1.Value)]),(.bool r.2)])∧St [] w0 w m [q0']∧OwnD m 48 3 q0' s0' r.1.Pattern):=by
 unfold spec_LeastPlan at hr
 refine ret_start Tryz.func6 rfl 131 rfl rfl m hv fun a hF hS=>q_sr (q_alloc (cs:=[nilS.v,(iV 0),(iV 0)]) hF hS rfl rfl rfl fun a w b3 hF hS=>q_s hF rfl fun a hF=>q_end (n_sq (q_seq (q_seq ?_))))
 obtain ⟨t_6,hj1,hr⟩:=bindS hr
 refine q_join (fun a w=>Fr a 131 [(0,s1.v),(1,s2.v),(2,(iV p_down)),(3,(iV p_up)),(8,(pP b3 0)),(26,(.bool t_6))]∧St [] w0 w m [[⟨b3,[nilS.v,(iV 0),(iV 0)],27⟩]]) ?_ ?_
 ·refine q_region (q_m hF rfl fun a hF=>q_m hF rfl fun a hF=>?_)
  obtain ⟨t_4,ht_4,hj1⟩:=bindS hj1
  refine q_call (vs:=[s1.v,s2.v]) hF hS Tryz.func28 (by kernel_rfl) rfl rfl rfl (c_spec_qPattern p_x p_primary t_4 ht_4 _ m hS.vis s1 h1 s2 h2) ?_
  rintro a w _ rfl hF hS
  refine q_y (v:=(.bool (!t_4))) hF hS (ex_not rfl) fun a hF=>q_m hF rfl fun a hF=>?_
  rcases bcase (!t_4) with hc2 | hc2
  ·have hj1:=cond_f hc2 hj1
   refine q_g (v:=(iV p_down)) hF hS (ex_move rfl) hc2 fun a hF=>q_g (v:=(iV p_up)) hF hS (ex_move rfl) hc2 fun a hF=>?_
   obtain ⟨t_5,ht_5,hj1⟩:=bindS hj1
   refine q_callg (vs:=[(iV p_down),(iV p_up)]) hF hS (wanted_t hF rfl rfl rfl hc2) Tryz.func29 (by kernel_rfl) rfl rfl rfl (c_spec_vLevels p_down p_up t_5 ht_5 _ m hS.vis) ?_
   rintro a w _ rfl hF hS
   refine q_g (v:=(.bool (!t_5))) hF hS (ex_not rfl) hc2 fun a hF=>q_y (v:=(.bool (!t_5))) hF hS (ex_pick_f rfl rfl hc2) fun a hF=>q_end (n_jn ?_)
   obtain rfl:=someI hj1
   exact ⟨hF.sub ⟨rfl,rfl,rfl,rfl,rfl,rfl,trivial⟩,hS⟩
  ·have hj1:=cond_t hc2 hj1
   refine q_k hF hc2 fun a hF=>q_k hF hc2 fun a hF=>q_k hF hc2 fun a hF=>q_k hF hc2 fun a hF=>q_y (v:=(.bool true)) hF hS (ex_pick_t rfl rfl hc2) fun a hF=>q_end (n_jn ?_)
   obtain rfl:=someI hj1
   exact ⟨hF.sub ⟨rfl,rfl,rfl,rfl,rfl,rfl,trivial⟩,hS⟩
 ·rintro a w ⟨hF,hS⟩
  refine n_sq ?_
  rcases bcase (t_6) with hc3 | hc3
  ·have hr:=cond_f hc3 hr
   refine q_cond_f hF rfl hc3 (q_skipc (n_sq (q_sr (q_s hF rfl fun a hF=>q_end (n_sq (q_seq (q_sr (q_s hF rfl fun a hF=>q_end (n_sq (q_block ?_))))))))))
   obtain ⟨free_31,hl4,hr⟩:=bindS hr
   refine q_loop (fun (s : (List Int) × Int) a w=>∃ (q8 : Piece),∃ (s8 : Sl),∃ free_7,∃ k_9,s = (free_7,k_9)∧Fr a 131 [(0,s1.v),(1,s2.v),(2,(iV p_down)),(3,(iV p_up)),(8,(pP b3 0)),(10,s8.v),(11,(iV k_9))]∧St [] w0 w m [q8,[⟨b3,[nilS.v,(iV 0),(iV 0)],27⟩]]∧OwnL m 3 q8 s8 free_7) (fun (free_31 : (List Int)) e a w=>∃ (q32 : Piece),∃ (s32 : Sl),e = .exit 0∧Fr a 131 [(0,s1.v),(1,s2.v),(2,(iV p_down)),(3,(iV p_up)),(8,(pP b3 0)),(10,s32.v)]∧St [] w0 w m [q32,[⟨b3,[nilS.v,(iV 0),(iV 0)],27⟩]]∧OwnL m 3 q32 s32 free_31) hl4 ⟨[],nilS,_,_,rfl,hF.sub ⟨rfl,rfl,rfl,rfl,rfl,rfl,rfl,trivial⟩,hS.sel [1,0] (by decide),(OwnL.nil (α:=Int) m 3)⟩ ?_ ?_
   ·clear hF hS
    rintro s a w st ⟨q8,s8,free_7,k_9,rfl,hF,hS,h8⟩ hb4
    unfold spec_LeastPlan_l1 at hb4
    refine q_seq (q_sr (q_m hF rfl fun a hF=>q_m hF rfl fun a hF=>q_y (v:=(iV (goLen p_x))) hF hS (ex_len U23 rfl h1.len) fun a hF=>q_m hF rfl fun a hF=>?_))
    obtain ⟨e_10,he_10,hb4⟩:=bindS hb4
    obtain ⟨vs11,at11,d11⟩:=h1.at he_10 1 rfl
    obtain ⟨s12,rfl,h12⟩ : ∃ s12 : Sl,vs11 = [s12.v]∧Rd m s12 e_10:=d11
    refine q_y (v:=(elP s1 ((0 : Int).toNat * 1))) hF hS (ex_indexAddr U23 sz48 rfl rfl (h1.idx he_10)) fun a hF=>q_y (v:=s12.v) hF hS (ex_loadE1 0 U48 rfl rfl ((at11).at) rfl rfl) fun a hF=>q_y (v:=(iV (goLen e_10))) hF hS (ex_len U48 rfl h12.len) fun a hF=>q_y (v:=(iV (w64 ((goLen p_x) * (goLen e_10))))) hF hS (ex_ibin rfl rfl rfl) fun a hF=>q_y (v:=(.bool (decide (k_9 < (w64 ((goLen p_x) * (goLen e_10))))))) hF hS (ex_ibin rfl rfl rfl) fun a hF=>q_end (n_sq ?_)
    rcases bcase (decide (k_9 < (w64 ((goLen p_x) * (goLen e_10))))) with hc5 | hc5
    ·have hb4:=cond_f hc5 hb4
     refine q_cond_f hF rfl hc5 (q_exit (x_sq ?_))
     obtain rfl:=someI hb4
     exact ⟨nofun,.inl ⟨q8,s8,rfl,hF.sub ⟨rfl,rfl,rfl,rfl,rfl,rfl,trivial⟩,hS,h8⟩⟩
    ·have hb4:=cond_t hc5 hb4
     refine q_cond_t hF rfl hc5 (q_skipc (n_sq (q_seq (q_block (q_seq (e_region ⟨[],[],m⟩ mixed fun w' hw'=>?_))))))
     have hS:=hS.below hw'
     refine e_P (v:=s2.v) 0 hF rfl (ex_move rfl) fun a hF=>e_P (v:=(iV k_9)) 1 hF rfl (ex_move rfl) fun a hF=>e_P (v:=s1.v) 2 hF rfl (ex_move rfl) fun a hF=>?_
     obtain ⟨e_13,he_13,hb4⟩:=bindS hb4
     obtain ⟨vs14,at14,d14⟩:=h1.at he_13 1 rfl
     obtain ⟨s15,rfl,h15⟩ : ∃ s15 : Sl,vs14 = [s15.v]∧Rd m s15 e_13:=d14
     refine e_P (v:=(elP s1 ((0 : Int).toNat * 1))) 3 hF rfl (ex_indexAddr U23 sz48 rfl rfl (h1.idx he_13)) fun a hF=>e_xm (v:=s15.v) 4 hF hS (Mem.le.refl _) rfl (ex_loadE1 0 U48 rfl rfl ((at14).at) rfl rfl) rfl rfl (by kernel_rfl) (by kernel_rfl) (by kernel_rfl) fun a hF=>e_P (v:=(iV (goLen e_13))) 5 hF rfl (ex_len U48 rfl h15.len) fun a hF=>?_
     obtain ⟨t_16,ht_16,hb4⟩:=bindS hb4
     refine e_P (v:=(iV t_16)) 6 hF rfl (ex_quo rfl rfl ht_16) fun a hF=>?_
     obtain ⟨e_17,he_17,hb4⟩:=bindS hb4
     obtain ⟨vs18,at18,d18⟩:=h2.at he_17 1 rfl
     obtain ⟨s19,rfl,h19⟩ : ∃ s19 : Sl,vs18 = [s19.v]∧Rd m s19 e_17:=d18
     refine e_P (v:=(elP s2 (t_16.toNat * 1))) 7 hF rfl (ex_indexAddr U23 sz48 rfl rfl (h2.idx he_17)) fun a hF=>e_xm (v:=s19.v) 8 hF hS (Mem.le.refl _) rfl (ex_loadE1 0 U48 rfl rfl ((at18).at) rfl rfl) rfl rfl (by kernel_rfl) (by kernel_rfl) (by kernel_rfl) fun a hF=>e_P (v:=(iV k_9)) 9 hF rfl (ex_move rfl) fun a hF=>e_P (v:=s1.v) 10 hF rfl (ex_move rfl) fun a hF=>?_
     obtain ⟨e_20,he_20,hb4⟩:=bindS hb4
     obtain ⟨vs21,at21,d21⟩:=h1.at he_20 1 rfl
     obtain ⟨s22,rfl,h22⟩ : ∃ s22 : Sl,vs21 = [s22.v]∧Rd m s22 e_20:=d21
     refine e_P (v:=(elP s1 ((0 : Int).toNat * 1))) 11 hF rfl (ex_indexAddr U23 sz48 rfl rfl (h1.idx he_20)) fun a hF=>e_xm (v:=s22.v) 12 hF hS (Mem.le.refl _) rfl (ex_loadE1 0 U48 rfl rfl ((at21).at) rfl rfl) rfl rfl (by kernel_rfl) (by kernel_rfl) (by kernel_rfl) fun a hF=>e_P (v:=(iV (goLen e_20))) 13 hF rfl (ex_len U48 rfl h22.len) fun a hF=>?_
     obtain ⟨t_23,ht_23,hb4⟩:=bindS hb4
     refine e_P (v:=(iV t_23)) 14 hF rfl (ex_rem rfl rfl ht_23) fun a hF=>?_
     obtain ⟨e_24,he_24,hb4⟩:=bindS hb4
     obtain ⟨vs25,at25,d25⟩:=h19.at he_24 1 rfl
     obtain rfl : vs25 = [(iV e_24)]:=d25
     refine e_P (v:=(elP s19 (t_23.toNat * 1))) 15 hF rfl (ex_indexAddr U48 sz3 rfl rfl (h19.idx he_24)) fun a hF=>e_xm (v:=(iV e_24)) 16 hF hS (Mem.le.refl _) rfl (ex_loadE1 0 U3 rfl rfl ((at25).at) rfl rfl) rfl rfl (by kernel_rfl) (by kernel_rfl) (by kernel_rfl) fun a hF=>e_P (v:=(.bool (e_24 == 0))) 17 hF rfl (ex_ibin rfl rfl rfl) fun a hF=>e_end (by kernel_rfl) (n_sq ?_) _
     obtain ⟨free_29,hj6,hb4⟩:=bindS hb4
     refine q_join (fun a w=>∃ (q30 : Piece),∃ (s30 : Sl),Fr a 131 [(0,s1.v),(1,s2.v),(2,(iV p_down)),(3,(iV p_up)),(8,(pP b3 0)),(10,s30.v),(11,(iV k_9))]∧St [] w0 w m [q30,[⟨b3,[nilS.v,(iV 0),(iV 0)],27⟩]]∧OwnL m 3 q30 s30 free_29) ?_ ?_
     ·rcases bcase (e_24 == 0) with hc7 | hc7
      ·have hj6:=cond_f hc7 hj6
       refine q_cond_f hF rfl hc7 (q_skipc (n_jn ?_))
       obtain rfl:=someI hj6
       exact ⟨q8,s8,hF.sub ⟨rfl,rfl,rfl,rfl,rfl,rfl,rfl,trivial⟩,hS,h8⟩
      ·have hj6:=cond_t hc7 hj6
       refine q_cond_t hF rfl hc7 (q_region (q_m hF rfl fun a hF=>q_m hF rfl fun a hF=>q_do rfl fun _ hK=>wp_buildSlice' (l:=([k_9] : List Int)) (cells:=[(iV k_9)]) hF hS U48 inf3 rfl rfl (by kernel_rfl) rfl rfl rfl ⟨rfl,rfl⟩ rfl rfl fun a w q26 s26 hF hS h26 _=>hK _ _ ?_))
       have hS : St _ _ _ _ [q8,q26,[⟨b3,[nilS.v,(iV 0),(iV 0)],27⟩]]:=hS.sel [1,0,2] (by decide)
       obtain ⟨l_27,hl_27,hj6⟩:=bindS hj6
       refine q_do rfl fun _ hK=>wp_append hF hS h8 U48 inf3 rfl rfl rfl rfl (h26.vw hS (j:=1) rfl) rfl (by decide) hl_27 rfl fun a w q28 s28 hF hS h28=>hK _ _ (q_s hF rfl fun a hF=>q_end (n_jn ?_))
       obtain rfl:=someI hj6
       exact ⟨q28,s28,hF.sub ⟨rfl,rfl,rfl,rfl,rfl,rfl,rfl,trivial⟩,hS.mask [true,false,true],h28⟩
     ·rintro a w ⟨q30,s30,hF,hS,h30⟩
      refine n_ib (n_sq ?_)
      refine q_region (q_m hF rfl fun a hF=>q_y (v:=(iV (w64 (k_9 + 1)))) hF hS (ex_ibin rfl rfl rfl) fun a hF=>q_s hF rfl fun a hF=>q_end ?_)
      obtain rfl:=someI hb4
      exact ⟨rfl,q30,s30,_,_,rfl,hF.sub ⟨rfl,rfl,rfl,rfl,rfl,rfl,rfl,trivial⟩,hS,h30⟩
   ·rintro e a w ⟨q32,s32,rfl,hF,hS,h32⟩
    refine x_ib (n_sq ?_)
    refine q_seq (q_sr (q_m hF rfl fun a hF=>q_y (v:=(iV (goLen free_31))) hF hS (ex_len U48 rfl h32.len) fun a hF=>q_y (v:=(.bool (decide (10 < (goLen free_31))))) hF hS (ex_ibin rfl rfl rfl) fun a hF=>q_end (n_sq ?_)))
    rcases bcase (decide (10 < (goLen free_31))) with hc8 | hc8
    ·have hr:=cond_f hc8 hr
     refine q_cond_f hF rfl hc8 (q_skipc (n_sq (q_seq (q_sr (q_s hF rfl fun a hF=>q_end (n_sq (q_block ?_)))))))
     obtain ⟨o9,hl9,hr⟩:=bindS hr
     refine q_loop (fun (size_33 : Int) a w=>Fr a 131 [(0,s1.v),(1,s2.v),(2,(iV p_down)),(3,(iV p_up)),(8,(pP b3 0)),(10,s32.v),(12,(iV size_33))]∧St [] w0 w m [q32,[⟨b3,[nilS.v,(iV 0),(iV 0)],27⟩]]) (fun (o : (Unit) ⊕ (impl_Plan × Bool)) e a w=>o = .inl ()∧e = .exit 2∧Fr a 131 [(8,(pP b3 0))]∧St [] w0 w m [[⟨b3,[nilS.v,(iV 0),(iV 0)],27⟩]]) hl9 ⟨hF.sub ⟨rfl,rfl,rfl,rfl,rfl,rfl,rfl,trivial⟩,hS⟩ ?_ ?_
     ·clear hF hS
      rintro size_33 a w st ⟨hF,hS⟩ hb9
      unfold spec_LeastPlan_l2 at hb9
      refine q_seq (q_sr (q_m hF rfl fun a hF=>q_m hF rfl fun a hF=>q_y (v:=(iV (goLen free_31))) hF hS (ex_len U48 rfl h32.len) fun a hF=>q_y (v:=(.bool (decide (size_33 ≤ (goLen free_31))))) hF hS (ex_ibin rfl rfl rfl) fun a hF=>q_end (n_sq ?_)))
      rcases bcase (decide (size_33 ≤ (goLen free_31))) with hc10 | hc10
      ·have hb9:=cond_f hc10 hb9
       refine q_cond_f hF rfl hc10 (q_exit (x_sq ?_))
       obtain rfl:=someI hb9
       exact ⟨nofun,.inl ⟨rfl,rfl,hF.sub ⟨rfl,trivial⟩,hS.mask [false,true]⟩⟩
      ·have hb9:=cond_t hc10 hb9
       refine q_cond_t hF rfl hc10 (q_skipc (n_sq (q_seq (q_block (q_sr (q_s hF rfl fun a hF=>q_end (n_sq (q_sr (q_s hF rfl fun a hF=>q_end (n_sq (q_seq (q_sr (q_s hF rfl fun a hF=>q_end (n_sq (q_block ?_)))))))))))))))
       obtain ⟨o11,hl11,hb9⟩:=bindS hb9
       refine q_loop (fun (s : (List Int) × Bool × Int) a w=>∃ (q35 : Piece),∃ (s35 : Sl),∃ best_34,∃ found_36,∃ mask_37,s = (best_34,found_36,mask_37)∧Fr a 131 [(0,s1.v),(1,s2.v),(2,(iV p_down)),(3,(iV p_up)),(8,(pP b3 0)),(10,s32.v),(12,(iV size_33)),(13,s35.v),(14,(.bool found_36)),(15,(iV mask_37))]∧St [] w0 w m [q35,q32,[⟨b3,[nilS.v,(iV 0),(iV 0)],27⟩]]∧OwnL m 3 q35 s35 best_34) (fun (o : (List Int) × Bool) e a w=>∃ (q70 : Piece),∃ (s70 : Sl),∃ best_69,∃ found_71,o = (best_69,found_71)∧e = .exit 4∧Fr a 131 [(0,s1.v),(1,s2.v),(2,(iV p_down)),(3,(iV p_up)),(8,(pP b3 0)),(10,s32.v),(12,(iV size_33)),(13,s70.v),(14,(.bool found_71))]∧St [] w0 w m [q32,q70,[⟨b3,[nilS.v,(iV 0),(iV 0)],27⟩]]∧OwnL m 3 q70 s70 best_69) hl11 ⟨[],nilS,_,_,_,rfl,hF.sub ⟨rfl,rfl,rfl,rfl,rfl,rfl,rfl,rfl,rfl,rfl,trivial⟩,hS.sel [2,0,1] (by decide),(OwnL.nil (α:=Int) m 3)⟩ ?_ ?_
       ·clear hF hS
        rintro s a w st ⟨q35,s35,best_34,found_36,mask_37,rfl,hF,hS,h35⟩ hb11
        unfold spec_LeastPlan_l3 at hb11
        refine q_seq (q_sr (q_m hF rfl fun a hF=>q_m hF rfl fun a hF=>q_y (v:=(iV (goLen free_31))) hF hS (ex_len U48 rfl h32.len) fun a hF=>q_y (v:=(.int .u64 (IntKind.wrap .u64 (goLen free_31)))) hF hS (ex_conv U3 U59 rfl) fun a hF=>?_))
        obtain ⟨t_38,ht_38,hb11⟩:=bindS hb11
        refine q_y (v:=(iV t_38)) hF hS (ex_shl rfl rfl ht_38) fun a hF=>q_y (v:=(.bool (decide (mask_37 < t_38)))) hF hS (ex_ibin rfl rfl rfl) fun a hF=>q_end (n_sq ?_)
        rcases bcase (decide (mask_37 < t_38)) with hc12 | hc12
        ·have hb11:=cond_f hc12 hb11
         refine q_cond_f hF rfl hc12 (q_exit (x_sq ?_))
         obtain rfl:=someI hb11
         exact ⟨nofun,.inl ⟨q35,s35,_,_,rfl,rfl,hF.sub ⟨rfl,rfl,rfl,rfl,rfl,rfl,rfl,rfl,rfl,trivial⟩,hS.sel [1,0,2] (by decide),h35⟩⟩
        ·have hb11:=cond_t hc12 hb11
         refine q_cond_t hF rfl hc12 (q_skipc (n_sq (q_seq ?_)))
         obtain ⟨j13,hj13,hb11⟩:=bindS hb11
         refine q_join (fun a w=>∃ (q67 : Piece),∃ (s67 : Sl),∃ best_66,∃ found_68,j13 = (best_66,found_68)∧Fr a 131 [(0,s1.v),(1,s2.v),(2,(iV p_down)),(3,(iV p_up)),(8,(pP b3 0)),(10,s32.v),(12,(iV size_33)),(13,s67.v),(14,(.bool found_68)),(15,(iV mask_37))]∧St [] w0 w m [q32,q67,[⟨b3,[nilS.v,(iV 0),(iV 0)],27⟩]]∧OwnL m 3 q67 s67 best_66) ?_ ?_
         ·refine q_block (q_sr (q_m hF rfl fun a hF=>q_m hF rfl fun a hF=>?_))
          obtain ⟨t_39,ht_39,hj13⟩:=bindS hj13
          refine q_call (vs:=[(iV mask_37)]) hF hS Tryz.func31 (by kernel_rfl) rfl rfl rfl (c_spec_iBits mask_37 t_39 ht_39 _ m hS.vis) ?_
          rintro a w _ ⟨q41,s41,rfl,hR40,h41⟩ hF hS2
          have hS : St _ _ _ _ [q41,q35,q32,[⟨b3,[nilS.v,(iV 0),(iV 0)],27⟩]]:=hS.joinF hR40
          obtain ⟨m43,hl43,hv43,hz43⟩:=hS.lend
          obtain ⟨t_42,ht_42,hj13⟩:=bindS hj13
          refine q_call (vs:=[s32.v,s41.v]) hF hS Tryz.func30 (by kernel_rfl) rfl rfl rfl (c_spec_sPick free_31 t_39 t_42 ht_42 _ m43 hv43 s32 (h32.froz hl43 (hz43 2 _ rfl)) s41 (h41.froz hl43 (hz43 0 _ rfl))) ?_
          rintro a w _ ⟨q45,s45,rfl,hR44,h45⟩ hF hS2
          have hS : St _ _ _ _ [q45,q41,q35,q32,[⟨b3,[nilS.v,(iV 0),(iV 0)],27⟩]]:=hS.joinF hR44
          have h45:=h45.any m
          refine q_s hF rfl fun a hF=>q_end (n_sq (q_seq (q_sr (q_m hF rfl fun a hF=>q_y (v:=(iV (goLen t_42))) hF hS (ex_len U48 rfl h45.len) fun a hF=>q_m hF rfl fun a hF=>q_y (v:=(.bool ((goLen t_42) != size_33))) hF hS (ex_ibin rfl rfl rfl) fun a hF=>q_end (n_sq ?_)))))
          rcases bcase ((goLen t_42) != size_33) with hc14 | hc14
          ·have hj13:=cond_f hc14 hj13
           refine q_cond_f hF rfl hc14 (q_skipc (n_sq (q_seq (q_seq ?_))))
           obtain ⟨t_56,hj15,hj13⟩:=bindS hj13
           refine q_join (fun a w=>Fr a 131 [(0,s1.v),(1,s2.v),(2,(iV p_down)),(3,(iV p_up)),(8,(pP b3 0)),(10,s32.v),(12,(iV size_33)),(13,s35.v),(14,(.bool found_36)),(15,(iV mask_37)),(16,s45.v),(111,(.bool t_56))]∧St [] w0 w m [q32,q35,q45,[⟨b3,[nilS.v,(iV 0),(iV 0)],27⟩]]) ?_ ?_
           ·refine q_region (q_m hF rfl fun a hF=>q_m hF rfl fun a hF=>?_)
            rcases bcase (found_36) with hc16 | hc16
            ·have hj15:=cond_f hc16 hj15
             refine q_k hF hc16 fun a hF=>q_k hF hc16 fun a hF=>q_k hF hc16 fun a hF=>q_k hF hc16 fun a hF=>q_k hF hc16 fun a hF=>q_k hF hc16 fun a hF=>q_k hF hc16 fun a hF=>q_k hF hc16 fun a hF=>q_skip hF (wanted_u hF rfl rfl rfl) rfl fun a hF=>q_skip hF (wanted_u hF rfl rfl rfl) rfl fun a hF=>q_skip hF (wanted_u hF rfl rfl rfl) rfl fun a hF=>q_skip hF (wanted_u hF rfl rfl rfl) rfl fun a hF=>q_skip hF (wanted_u hF rfl rfl rfl) rfl fun a hF=>q_skip hF (wanted_u hF rfl rfl rfl) rfl fun a hF=>q_skip hF (wanted_u hF rfl rfl rfl) rfl fun a hF=>q_skip hF (wanted_u hF rfl rfl rfl) rfl fun a hF=>q_skip hF (wanted_u hF rfl rfl rfl) rfl fun a hF=>q_skip hF (wanted_u hF rfl rfl rfl) rfl fun a hF=>q_skip hF (wanted_u hF rfl rfl rfl) rfl fun a hF=>q_skip hF (wanted_u hF rfl rfl rfl) rfl fun a hF=>q_skip hF (wanted_u hF rfl rfl rfl) rfl fun a hF=>q_k hF hc16 fun a hF=>q_y (v:=(.bool false)) hF hS (ex_pick_f rfl rfl hc16) fun a hF=>q_end (n_jn ?_)
             obtain rfl:=someI hj15
             exact ⟨hF.sub ⟨rfl,rfl,rfl,rfl,rfl,rfl,rfl,rfl,rfl,rfl,rfl,rfl,trivial⟩,hS.sel [3,2,0,4] (by decide)⟩
            ·have hj15:=cond_t hc16 hj15
             refine q_g (v:=s1.v) hF hS (ex_move rfl) hc16 fun a hF=>q_g (v:=s45.v) hF hS (ex_move rfl) hc16 fun a hF=>?_
             obtain ⟨m47,hl47,hv47,hz47⟩:=hS.lend
             obtain ⟨t_46,ht_46,hj15⟩:=bindS hj15
             refine q_callg (vs:=[s1.v,s45.v]) hF hS (wanted_t hF rfl rfl rfl hc16) Tryz.func32 (by kernel_rfl) rfl rfl rfl (c_spec_vValue p_x t_42 t_46 ht_46 _ m47 hv47 s1 (h1.mono hl47) s45 (h45.froz hl47 (hz47 0 _ rfl))) ?_
             rintro a w _ rfl hF hS
             refine q_g (v:=s1.v) hF hS (ex_move rfl) hc16 fun a hF=>q_g (v:=s35.v) hF hS (ex_move rfl) hc16 fun a hF=>?_
             obtain ⟨m49,hl49,hv49,hz49⟩:=hS.lend
             obtain ⟨t_48,ht_48,hj15⟩:=bindS hj15
             refine q_callg (vs:=[s1.v,s35.v]) hF hS (wanted_t hF rfl rfl rfl hc16) Tryz.func32 (by kernel_rfl) rfl rfl rfl (c_spec_vValue p_x best_34 t_48 ht_48 _ m49 hv49 s1 (h1.mono hl49) s35 (h35.froz hl49 (hz49 2 _ rfl))) ?_
             rintro a w _ rfl hF hS
             refine q_g (v:=(.bool (decide (t_48 < t_46)))) hF hS (ex_ibin rfl rfl rfl) hc16 fun a hF=>q_g (v:=(.bool (decide (t_48 < t_46)))) hF hS (ex_move rfl) hc16 fun a hF=>?_
             rcases bcase (decide (t_48 < t_46)) with hc17 | hc17
             ·have hj15:=cond_f hc17 hj15
              refine q_g (v:=s1.v) hF hS (ex_move rfl) hc17 fun a hF=>q_g (v:=s45.v) hF hS (ex_move rfl) hc17 fun a hF=>?_
              obtain ⟨m51,hl51,hv51,hz51⟩:=hS.lend
              obtain ⟨t_50,ht_50,hj15⟩:=bindS hj15
              refine q_callg (vs:=[s1.v,s45.v]) hF hS (wanted_t hF rfl rfl rfl hc17) Tryz.func32 (by kernel_rfl) rfl rfl rfl (c_spec_vValue p_x t_42 t_50 ht_50 _ m51 hv51 s1 (h1.mono hl51) s45 (h45.froz hl51 (hz51 0 _ rfl))) ?_
              rintro a w _ rfl hF hS
              refine q_g (v:=s1.v) hF hS (ex_move rfl) hc17 fun a hF=>q_g (v:=s35.v) hF hS (ex_move rfl) hc17 fun a hF=>?_
              obtain ⟨m53,hl53,hv53,hz53⟩:=hS.lend
              obtain ⟨t_52,ht_52,hj15⟩:=bindS hj15
              refine q_callg (vs:=[s1.v,s35.v]) hF hS (wanted_t hF rfl rfl rfl hc17) Tryz.func32 (by kernel_rfl) rfl rfl rfl (c_spec_vValue p_x best_34 t_52 ht_52 _ m53 hv53 s1 (h1.mono hl53) s35 (h35.froz hl53 (hz53 2 _ rfl))) ?_
              rintro a w _ rfl hF hS
              refine q_g (v:=(.bool (t_50 == t_52))) hF hS (ex_ibin rfl rfl rfl) hc17 fun a hF=>q_g (v:=(.bool (t_50 == t_52))) hF hS (ex_move rfl) hc17 fun a hF=>?_
              rcases bcase (t_50 == t_52) with hc18 | hc18
              ·have hj15:=cond_f hc18 hj15
               refine q_k hF hc18 fun a hF=>q_k hF hc18 fun a hF=>q_k hF hc18 fun a hF=>q_k hF hc18 fun a hF=>q_g (v:=(.bool false)) hF hS (ex_pick_f rfl rfl hc18) hc17 fun a hF=>q_g (v:=(.bool false)) hF hS (ex_pick_f rfl rfl hc17) hc16 fun a hF=>q_y (v:=(.bool false)) hF hS (ex_pick_t rfl rfl hc16) fun a hF=>q_end (n_jn ?_)
               obtain rfl:=someI hj15
               exact ⟨hF.sub ⟨rfl,rfl,rfl,rfl,rfl,rfl,rfl,rfl,rfl,rfl,rfl,rfl,trivial⟩,hS.sel [3,2,0,4] (by decide)⟩
              ·have hj15:=cond_t hc18 hj15
               refine q_g (v:=s45.v) hF hS (ex_move rfl) hc18 fun a hF=>q_g (v:=s35.v) hF hS (ex_move rfl) hc18 fun a hF=>?_
               obtain ⟨m55,hl55,hv55,hz55⟩:=hS.lend
               obtain ⟨t_54,ht_54,hj15⟩:=bindS hj15
               refine q_callg (vs:=[s45.v,s35.v]) hF hS (wanted_t hF rfl rfl rfl hc18) Tryz.func33 (by kernel_rfl) rfl rfl rfl (c_spec_l1Less t_42 best_34 t_54 ht_54 _ m55 hv55 s45 (h45.froz hl55 (hz55 0 _ rfl)) s35 (h35.froz hl55 (hz55 2 _ rfl))) ?_
               rintro a w _ rfl hF hS
               refine q_g (v:=(.bool (decide (0 ≤ t_54)))) hF hS (ex_ibin rfl rfl rfl) hc18 fun a hF=>q_g (v:=(.bool (decide (0 ≤ t_54)))) hF hS (ex_pick_t rfl rfl hc18) hc17 fun a hF=>q_g (v:=(.bool (decide (0 ≤ t_54)))) hF hS (ex_pick_f rfl rfl hc17) hc16 fun a hF=>q_y (v:=(.bool (decide (0 ≤ t_54)))) hF hS (ex_pick_t rfl rfl hc16) fun a hF=>q_end (n_jn ?_)
               obtain rfl:=someI hj15
               exact ⟨hF.sub ⟨rfl,rfl,rfl,rfl,rfl,rfl,rfl,rfl,rfl,rfl,rfl,rfl,trivial⟩,hS.sel [3,2,0,4] (by decide)⟩
             ·have hj15:=cond_t hc17 hj15
              refine q_k hF hc17 fun a hF=>q_k hF hc17 fun a hF=>q_k hF hc17 fun a hF=>q_k hF hc17 fun a hF=>q_k hF hc17 fun a hF=>q_k hF hc17 fun a hF=>q_k hF hc17 fun a hF=>q_k hF hc17 fun a hF=>q_skip hF (wanted_u hF rfl rfl rfl) rfl fun a hF=>q_skip hF (wanted_u hF rfl rfl rfl) rfl fun a hF=>q_skip hF (wanted_u hF rfl rfl rfl) rfl fun a hF=>q_skip hF (wanted_u hF rfl rfl rfl) rfl fun a hF=>q_k hF hc17 fun a hF=>q_g (v:=(.bool true)) hF hS (ex_pick_t rfl rfl hc17) hc16 fun a hF=>q_y (v:=(.bool true)) hF hS (ex_pick_t rfl rfl hc16) fun a hF=>q_end (n_jn ?_)
              obtain rfl:=someI hj15
              exact ⟨hF.sub ⟨rfl,rfl,rfl,rfl,rfl,rfl,rfl,rfl,rfl,rfl,rfl,rfl,trivial⟩,hS.sel [3,2,0,4] (by decide)⟩
           ·rintro a w ⟨hF,hS⟩
            refine n_sq ?_
            rcases bcase (t_56) with hc19 | hc19
            ·have hj13:=cond_f hc19 hj13
             refine q_cond_f hF rfl hc19 (q_skipc (n_sq (q_sr (q_m hF rfl fun a hF=>q_m hF rfl fun a hF=>q_m hF rfl fun a hF=>?_))))
             obtain ⟨m58,hl58,hv58,hz58⟩:=hS.lend
             obtain ⟨t_57,ht_57,hj13⟩:=bindS hj13
             refine q_call (vs:=[s2.v,s45.v]) hF hS Tryz.func35 (by kernel_rfl) rfl rfl rfl (c_spec_vWith p_primary t_42 t_57 ht_57 _ m58 hv58 s2 (h2.mono hl58) s45 (h45.froz hl58 (hz58 2 _ rfl))) ?_
             rintro a w _ ⟨q60,s60,rfl,hR59,h60⟩ hF hS2
             have hS : St _ _ _ _ [q60,q32,q35,q45,[⟨b3,[nilS.v,(iV 0),(iV 0)],27⟩]]:=hS.joinF hR59
             have h60:=h60.any m
             refine q_m hF rfl fun a hF=>q_m hF rfl fun a hF=>q_m hF rfl fun a hF=>?_
             obtain ⟨m62,hl62,hv62,hz62⟩:=hS.lend
             obtain ⟨t_61,ht_61,hj13⟩:=bindS hj13
             refine q_call (vs:=[s1.v,s60.v,s2.v,(iV p_down),(iV p_up)]) hF hS Tryz.func34 (by kernel_rfl) rfl rfl rfl (c_spec_vSafe p_x t_57 p_primary p_down p_up t_61 ht_61 _ m62 hv62 s1 (h1.mono hl62) s60 (h60.froz hl62 (hz62 0 _ rfl)) s2 (h2.mono hl62)) ?_
             rintro a w _ rfl hF hS
             refine q_end (n_sq ?_)
             obtain ⟨j20,hj20,hj13⟩:=bindS hj13
             refine q_join (fun a w=>∃ (q64 : Piece),∃ (s64 : Sl),∃ best_63,∃ found_65,j20 = (best_63,found_65)∧Fr a 131 [(0,s1.v),(1,s2.v),(2,(iV p_down)),(3,(iV p_up)),(8,(pP b3 0)),(10,s32.v),(12,(iV size_33)),(13,s64.v),(14,(.bool found_65)),(15,(iV mask_37))]∧St [] w0 w m [q32,q64,[⟨b3,[nilS.v,(iV 0),(iV 0)],27⟩]]∧OwnL m 3 q64 s64 best_63) ?_ ?_
             ·rcases bcase (t_61) with hc21 | hc21
              ·have hj20:=cond_f hc21 hj20
               refine q_cond_f hF rfl hc21 (q_skipc (n_jn ?_))
               obtain rfl:=someI hj20
               exact ⟨q35,s35,_,_,rfl,hF.sub ⟨rfl,rfl,rfl,rfl,rfl,rfl,rfl,rfl,rfl,rfl,trivial⟩,hS.mask [false,true,true,false,true],h35⟩
              ·have hj20:=cond_t hc21 hj20
               refine q_cond_t hF rfl hc21 (q_sr (q_m hF rfl fun a hF=>q_s hF rfl fun a hF=>q_end (n_sq (q_region (q_s hF rfl fun a hF=>q_end (n_jn ?_))))))
               obtain rfl:=someI hj20
               exact ⟨q45,s45,_,_,rfl,hF.sub ⟨rfl,rfl,rfl,rfl,rfl,rfl,rfl,rfl,rfl,rfl,trivial⟩,hS.mask [false,true,false,true,true],h45⟩
             ·rintro a w ⟨q64,s64,best_63,found_65,rfl,hF,hS,h64⟩
              refine n_ib (n_jn ?_)
              obtain rfl:=someI hj13
              exact ⟨q64,s64,_,_,rfl,hF.sub ⟨rfl,rfl,rfl,rfl,rfl,rfl,rfl,rfl,rfl,rfl,trivial⟩,hS,h64⟩
            ·have hj13:=cond_t hc19 hj13
             refine q_cond_t hF rfl hc19 (q_exit (x_sq (x_ib (n_jn ?_))))
             obtain rfl:=someI hj13
             exact ⟨q35,s35,_,_,rfl,hF.sub ⟨rfl,rfl,rfl,rfl,rfl,rfl,rfl,rfl,rfl,rfl,trivial⟩,hS.mask [true,true,false,true],h35⟩
          ·have hj13:=cond_t hc14 hj13
           refine q_cond_t hF rfl hc14 (q_exit (x_sq (x_ib (n_jn ?_))))
           obtain rfl:=someI hj13
           exact ⟨q35,s35,_,_,rfl,hF.sub ⟨rfl,rfl,rfl,rfl,rfl,rfl,rfl,rfl,rfl,rfl,trivial⟩,hS.sel [3,2,4] (by decide),h35⟩
         ·rintro a w ⟨q67,s67,best_66,found_68,rfl,hF,hS,h67⟩
          refine n_sq ?_
          refine q_region (q_m hF rfl fun a hF=>q_y (v:=(iV (w64 (mask_37 + 1)))) hF hS (ex_ibin rfl rfl rfl) fun a hF=>q_s hF rfl fun a hF=>q_end ?_)
          obtain rfl:=someI hb11
          exact ⟨rfl,q67,s67,_,_,_,rfl,hF.sub ⟨rfl,rfl,rfl,rfl,rfl,rfl,rfl,rfl,rfl,rfl,trivial⟩,hS.sel [1,0,2] (by decide),h67⟩
       ·rintro e a w ⟨q70,s70,best_69,found_71,rfl,rfl,hF,hS,h70⟩
        refine x_ib (n_sq ?_)
        refine q_sr (q_m hF rfl fun a hF=>q_end (n_sq ?_))
        rcases bcase (found_71) with hc22 | hc22
        ·have hb9:=cond_f hc22 hb9
         refine q_cond_f hF rfl hc22 (q_skipc (n_ib (n_sq (q_region (q_m hF rfl fun a hF=>q_y (v:=(iV (w64 (size_33 + 1)))) hF hS (ex_ibin rfl rfl rfl) fun a hF=>q_s hF rfl fun a hF=>q_end ?_)))))
         obtain rfl:=someI hb9
         exact ⟨rfl,hF.sub ⟨rfl,rfl,rfl,rfl,rfl,rfl,rfl,trivial⟩,hS.mask [true,false,true]⟩
        ·have hb9:=cond_t hc22 hb9
         refine q_cond_t hF rfl hc22 (q_sr (q_m hF rfl fun a hF=>q_m hF rfl fun a hF=>?_))
         obtain ⟨m73,hl73,hv73,hz73⟩:=hS.lend
         obtain ⟨t_72,ht_72,hb9⟩:=bindS hb9
         refine q_call (vs:=[s2.v,s70.v]) hF hS Tryz.func35 (by kernel_rfl) rfl rfl rfl (c_spec_vWith p_primary best_69 t_72 ht_72 _ m73 hv73 s2 (h2.mono hl73) s70 (h70.froz hl73 (hz73 1 _ rfl))) ?_
         rintro a w _ ⟨q75,s75,rfl,hR74,h75⟩ hF hS2
         have hS : St _ _ _ _ [q75,q32,q70,[⟨b3,[nilS.v,(iV 0),(iV 0)],27⟩]]:=hS.joinF hR74
         have h75:=h75.any m
         refine q_m hF rfl fun a hF=>q_m hF rfl fun a hF=>q_m hF rfl fun a hF=>?_
         obtain ⟨m77,hl77,hv77,hz77⟩:=hS.lend
         obtain ⟨t_76,ht_76,hb9⟩:=bindS hb9
         refine q_call (vs:=[s1.v,s70.v]) hF hS Tryz.func32 (by kernel_rfl) rfl rfl rfl (c_spec_vValue p_x best_69 t_76 ht_76 _ m77 hv77 s1 (h1.mono hl77) s70 (h70.froz hl77 (hz77 2 _ rfl))) ?_
         rintro a w _ rfl hF hS
         refine q_y (v:=(.agg #[s75.v,(iV size_33),(iV t_76)])) hF hS (ex_build (cells:=[s75.v,(iV size_33),(iV t_76)]) rfl (by kernel_rfl)) fun a hF=>q_store (vs:=[s75.v,(iV size_33),(iV t_76)]) (cs':=[s75.v,(iV size_33),(iV t_76)]) 3 0 hF hS sz27 rfl rfl rfl rfl rfl rfl rfl rfl fun a w hF hS=>q_s hF rfl fun a hF=>q_end (n_sq (q_ret (r_ib (r_sq ?_))))
         obtain rfl:=someI hb9
         refine ⟨nofun,.inr fun ho=>?_⟩
         subst ho
         refine r_ib (r_sq ?_)
         obtain rfl:=someI hr
         exact ret_of hF hS rfl (.cellA (us:=[s75.v,(iV size_33),(iV t_76)]) 3 0 U27 rfl sz27 rfl rfl rfl rfl (.tmp rfl .nil)) ⟨q75,s75,rfl,hS.sel [0] (by decide),h75⟩
     ·rintro e a w ⟨rfl,rfl,hF,hS⟩
      refine x_ib (n_sq ?_)
      refine q_sr (q_y (v:=(.agg #[nilS.v,(iV 0),(iV 0)])) hF hS (ex_build (cells:=[nilS.v,(iV 0),(iV 0)]) rfl (by kernel_rfl)) fun a hF=>q_store (vs:=[nilS.v,(iV 0),(iV 0)]) (cs':=[nilS.v,(iV 0),(iV 0)]) 0 0 hF hS sz27 rfl rfl rfl rfl rfl rfl rfl rfl fun a w hF hS=>q_s hF rfl fun a hF=>q_end (n_sq (q_ret ?_)))
      obtain rfl:=someI hr
      exact ret_of hF hS rfl (.cellA (us:=[nilS.v,(iV 0),(iV 0)]) 0 0 U27 rfl sz27 rfl rfl rfl rfl (.tmp rfl .nil)) ⟨[],nilS,rfl,hS.sel [1] (by decide),(OwnD.nil (β:=Int) m 48 3)⟩
    ·have hr:=cond_t hc8 hr
     refine q_cond_t hF rfl hc8 (q_sr (q_y (v:=(.agg #[nilS.v,(iV 0),(iV 0)])) hF hS (ex_build (cells:=[nilS.v,(iV 0),(iV 0)]) rfl (by kernel_rfl)) fun a hF=>q_store (vs:=[nilS.v,(iV 0),(iV 0)]) (cs':=[nilS.v,(iV 0),(iV 0)]) 1 0 hF hS sz27 rfl rfl rfl rfl rfl rfl rfl rfl fun a w hF hS=>q_s hF rfl fun a hF=>q_end (n_sq (q_ret (r_sq ?_)))))
     obtain rfl:=someI hr
     exact ret_of hF hS rfl (.cellA (us:=[nilS.v,(iV 0),(iV 0)]) 1 0 U27 rfl sz27 rfl rfl rfl rfl (.tmp rfl .nil)) ⟨[],nilS,rfl,hS.sel [2] (by decide),(OwnD.nil (β:=Int) m 48 3)⟩
  ·have hr:=cond_t hc3 hr
   refine q_cond_t hF rfl hc3 (q_sr (q_y (v:=(.agg #[nilS.v,(iV 0),(iV 0)])) hF hS (ex_build (cells:=[nilS.v,(iV 0),(iV 0)]) rfl (by kernel_rfl)) fun a hF=>q_store (vs:=[nilS.v,(iV 0),(iV 0)]) (cs':=[nilS.v,(iV 0),(iV 0)]) 0 0 hF hS sz27 rfl rfl rfl rfl rfl rfl rfl rfl fun a w hF hS=>q_s hF rfl fun a hF=>q_end (n_sq (q_ret (r_sq ?_)))))
   obtain rfl:=someI hr
   exact ret_of hF hS rfl (.cellA (us:=[nilS.v,(iV 0),(iV 0)]) 0 0 U27 rfl sz27 rfl rfl rfl rfl (.tmp rfl .nil)) ⟨[],nilS,rfl,hS.sel [1] (by decide),(OwnD.nil (β:=Int) m 48 3)⟩

theorem c_spec_vPlan (p_x : List (List Int)) (p_primary : List (List Int)) (p_p : List (List Int)) (r : impl_Plan) (hr : spec_vPlan p_x p_primary p_p = some r) (w0 : World) (m : Mem) (hv : Vis m w0) (s1 : Sl) (h1 : Rd m s1 p_x) (s2 : Sl) (h2 : Rd m s2 p_primary) (s3 : Sl) (h3 : Rd m s3 p_p) :
  Ret Tryz.prog 42 [s1.v,s2.v,s3.v] w0 (fun v w=>∃ (q0' : Piece) (s0' : Sl),v = (.agg #[s0'.v,(iV r.Added),(iV r.Value)])∧St [] w0 w m [q0']∧OwnD m 48 3 q0' s0' r.Pattern):=by
 unfold spec_vPlan at hr
 refine ret_start Tryz.func42 rfl 59 rfl rfl m hv fun a hF hS=>q_sr (q_alloc (cs:=[nilS.v,(iV 0),(iV 0)]) hF hS rfl rfl rfl fun a w b4 hF hS=>q_end (n_sq (q_sr (q_m hF rfl fun a hF=>?_))))
 obtain ⟨t_5,ht_5,hr⟩:=bindS hr
 refine q_call (vs:=[s3.v]) hF hS Tryz.func37 (by kernel_rfl) rfl rfl rfl (c_spec_tOwn p_p t_5 ht_5 _ m hS.vis s3 h3) ?_
 rintro a w _ ⟨q7,s7,rfl,hR6,h7⟩ hF hS2
 have hS : St _ _ _ _ [q7,[⟨b4,[nilS.v,(iV 0),(iV 0)],27⟩]]:=hS.joinF hR6
 refine q_y (v:=(.agg #[s7.v,(iV 0),(iV 0)])) hF hS (ex_build (cells:=[s7.v,(iV 0),(iV 0)]) rfl (by kernel_rfl)) fun a hF=>q_alloc (cs:=[nilS.v,(iV 0),(iV 0)]) hF hS rfl rfl rfl fun a w b8 hF hS=>q_store (vs:=[s7.v,(iV 0),(iV 0)]) (cs':=[s7.v,(iV 0),(iV 0)]) 0 0 hF hS sz27 rfl rfl rfl rfl rfl rfl rfl rfl fun a w hF hS=>q_end (n_sq (q_seq (q_sr (q_m hF rfl fun a hF=>q_y (v:=(iV (goLen p_p))) hF hS (ex_len U23 rfl h3.len) fun a hF=>q_m hF rfl fun a hF=>q_end (n_sq (q_block ?_))))))
 obtain ⟨plan_35,hl1,hr⟩:=bindS hr
 refine q_loop (fun (s : Int × impl_Plan) a w=>∃ t_9,∃ plan_10,s = (t_9,plan_10)∧Fr a 59 [(0,s1.v),(1,s2.v),(6,(pP b4 0)),(7,(pP b8 0)),(15,s3.v),(16,(iV (goLen p_p))),(17,(iV t_9))]∧St [] w0 w m [[⟨b8,[s7.v,(iV plan_10.Added),(iV plan_10.Value)],27⟩],q7,[⟨b4,[nilS.v,(iV 0),(iV 0)],27⟩]]∧OwnD m 48 3 q7 s7 plan_10.Pattern∧plan_10.Pattern = t_5) (fun (plan_35 : impl_Plan) e a w=>e = .exit 0∧Fr a 59 [(6,(pP b4 0)),(7,(pP b8 0))]∧St [] w0 w m [q7,[⟨b8,[s7.v,(iV plan_35.Added),(iV plan_35.Value)],27⟩],[⟨b4,[nilS.v,(iV 0),(iV 0)],27⟩]]∧OwnD m 48 3 q7 s7 plan_35.Pattern∧plan_35.Pattern = t_5) hl1 ⟨_,_,rfl,hF.sub ⟨rfl,rfl,rfl,rfl,rfl,rfl,rfl,trivial⟩,hS,h7,rfl⟩ ?_ ?_
 ·clear hF hS
  rintro s a w st ⟨t_9,plan_10,rfl,hF,hS,h11,h11k⟩ hb1
  unfold spec_vPlan_l1 at hb1
  refine q_sr (q_y (v:=(.bool (decide (t_9 < (goLen p_p))))) hF hS (ex_ibin rfl rfl rfl) fun a hF=>q_end (n_sq (q_seq ?_)))
  rcases bcase (decide (t_9 < (goLen p_p))) with hc2 | hc2
  ·have hb1:=cond_f hc2 hb1
   refine q_cond_f hF rfl hc2 (q_exit (x_sq ?_))
   obtain rfl:=someI hb1
   exact ⟨nofun,.inl ⟨rfl,hF.sub ⟨rfl,rfl,trivial⟩,hS.sel [1,0,2] (by decide),h11,h11k⟩⟩
  ·have hb1:=cond_t hc2 hb1
   refine q_cond_t hF rfl hc2 (q_skipc (n_sq (q_seq (q_block (q_sr (q_m hF rfl fun a hF=>?_))))))
   obtain ⟨e_12,he_12,hb1⟩:=bindS hb1
   obtain ⟨vs13,at13,d13⟩:=h3.at he_12 1 rfl
   obtain ⟨s14,rfl,h14⟩ : ∃ s14 : Sl,vs13 = [s14.v]∧Rd m s14 e_12:=d13
   refine q_y (v:=(elP s3 (t_9.toNat * 1))) hF hS (ex_indexAddr U23 sz48 rfl rfl (h3.idx he_12)) fun a hF=>q_y (v:=s14.v) hF hS (ex_loadE1 0 U48 rfl rfl ((at13).at) rfl rfl) fun a hF=>q_s hF rfl fun a hF=>q_s hF rfl fun a hF=>q_end (n_sq (q_sr (q_m hF rfl fun a hF=>q_y (v:=(iV (goLen e_12))) hF hS (ex_len U48 rfl h14.len) fun a hF=>q_m hF rfl fun a hF=>q_end (n_sq (q_block ?_)))))
   obtain ⟨plan_33,hl3,hb1⟩:=bindS hb1
   refine q_loop (fun (s : Int × impl_Plan) a w=>∃ t_15,∃ plan_16,s = (t_15,plan_16)∧Fr a 59 [(0,s1.v),(1,s2.v),(6,(pP b4 0)),(7,(pP b8 0)),(8,(iV t_9)),(15,s3.v),(16,(iV (goLen p_p))),(17,(iV t_9)),(22,s14.v),(23,(iV (goLen e_12))),(24,(iV t_15))]∧St [] w0 w m [[⟨b8,[s7.v,(iV plan_16.Added),(iV plan_16.Value)],27⟩],q7,[⟨b4,[nilS.v,(iV 0),(iV 0)],27⟩]]∧OwnD m 48 3 q7 s7 plan_16.Pattern∧plan_16.Pattern = t_5) (fun (plan_33 : impl_Plan) e a w=>e = .exit 2∧Fr a 59 [(0,s1.v),(1,s2.v),(6,(pP b4 0)),(7,(pP b8 0)),(15,s3.v),(16,(iV (goLen p_p))),(17,(iV t_9))]∧St [] w0 w m [q7,[⟨b8,[s7.v,(iV plan_33.Added),(iV plan_33.Value)],27⟩],[⟨b4,[nilS.v,(iV 0),(iV 0)],27⟩]]∧OwnD m 48 3 q7 s7 plan_33.Pattern∧plan_33.Pattern = t_5) hl3 ⟨_,_,rfl,hF.sub ⟨rfl,rfl,rfl,rfl,rfl,rfl,rfl,rfl,rfl,rfl,rfl,trivial⟩,hS,h11,h11k⟩ ?_ ?_
   ·clear hF hS
    rintro s a w st ⟨t_15,plan_16,rfl,hF,hS,h17,h17k⟩ hb3
    unfold spec_vPlan_l2 at hb3
    refine q_sr (q_y (v:=(.bool (decide (t_15 < (goLen e_12))))) hF hS (ex_ibin rfl rfl rfl) fun a hF=>q_end (n_sq (q_seq ?_)))
    rcases bcase (decide (t_15 < (goLen e_12))) with hc4 | hc4
    ·have hb3:=cond_f hc4 hb3
     refine q_cond_f hF rfl hc4 (q_exit (x_sq ?_))
     obtain rfl:=someI hb3
     exact ⟨nofun,.inl ⟨rfl,hF.sub ⟨rfl,rfl,rfl,rfl,rfl,rfl,rfl,trivial⟩,hS.sel [1,0,2] (by decide),h17,h17k⟩⟩
    ·have hb3:=cond_t hc4 hb3
     refine q_cond_t hF rfl hc4 (q_skipc (n_sq (q_seq (q_block (q_sr (q_m hF rfl fun a hF=>?_))))))
     obtain ⟨e_18,he_18,hb3⟩:=bindS hb3
     obtain ⟨vs19,at19,d19⟩:=h14.at he_18 1 rfl
     obtain rfl : vs19 = [(iV e_18)]:=d19
     refine q_y (v:=(elP s14 (t_15.toNat * 1))) hF hS (ex_indexAddr U48 sz3 rfl rfl (h14.idx he_18)) fun a hF=>q_y (v:=(iV e_18)) hF hS (ex_loadE1 0 U3 rfl rfl ((at19).at) rfl rfl) fun a hF=>q_s hF rfl fun a hF=>q_s hF rfl fun a hF=>q_end (n_sq (q_seq ?_))
     obtain ⟨t_25,hj5,hb3⟩:=bindS hb3
     refine q_join (fun a w=>Fr a 59 [(0,s1.v),(1,s2.v),(6,(pP b4 0)),(7,(pP b8 0)),(8,(iV t_9)),(10,(iV t_15)),(15,s3.v),(16,(iV (goLen p_p))),(17,(iV t_9)),(22,s14.v),(23,(iV (goLen e_12))),(24,(iV t_15)),(40,(.bool t_25))]∧St [] w0 w m [q7,[⟨b8,[s7.v,(iV plan_16.Added),(iV plan_16.Value)],27⟩],[⟨b4,[nilS.v,(iV 0),(iV 0)],27⟩]]) ?_ ?_
     ·refine q_region (q_m hF rfl fun a hF=>q_y (v:=(.bool (e_18 == 1))) hF hS (ex_ibin rfl rfl rfl) fun a hF=>q_m hF rfl fun a hF=>?_)
      rcases bcase (e_18 == 1) with hc6 | hc6
      ·have hj5:=cond_f hc6 hj5
       refine q_k hF hc6 fun a hF=>q_k hF hc6 fun a hF=>q_k hF hc6 fun a hF=>q_k hF hc6 fun a hF=>q_k hF hc6 fun a hF=>q_k hF hc6 fun a hF=>q_k hF hc6 fun a hF=>q_k hF hc6 fun a hF=>q_y (v:=(.bool false)) hF hS (ex_pick_f rfl rfl hc6) fun a hF=>q_end (n_jn ?_)
       obtain rfl:=someI hj5
       exact ⟨hF.sub ⟨rfl,rfl,rfl,rfl,rfl,rfl,rfl,rfl,rfl,rfl,rfl,rfl,rfl,trivial⟩,hS.sel [1,0,2] (by decide)⟩
      ·have hj5:=cond_t hc6 hj5
       refine q_g (v:=s2.v) hF hS (ex_move rfl) hc6 fun a hF=>q_g (v:=(iV t_9)) hF hS (ex_move rfl) hc6 fun a hF=>?_
       obtain ⟨e_20,he_20,hj5⟩:=bindS hj5
       obtain ⟨vs21,at21,d21⟩:=h2.at he_20 1 rfl
       obtain ⟨s22,rfl,h22⟩ : ∃ s22 : Sl,vs21 = [s22.v]∧Rd m s22 e_20:=d21
       refine q_g (v:=(elP s2 (t_9.toNat * 1))) hF hS (ex_indexAddr U23 sz48 rfl rfl (h2.idx he_20)) hc6 fun a hF=>q_g (v:=s22.v) hF hS (ex_loadE1 0 U48 rfl rfl ((at21).at) rfl rfl) hc6 fun a hF=>q_g (v:=(iV t_15)) hF hS (ex_move rfl) hc6 fun a hF=>?_
       obtain ⟨e_23,he_23,hj5⟩:=bindS hj5
       obtain ⟨vs24,at24,d24⟩:=h22.at he_23 1 rfl
       obtain rfl : vs24 = [(iV e_23)]:=d24
       refine q_g (v:=(elP s22 (t_15.toNat * 1))) hF hS (ex_indexAddr U48 sz3 rfl rfl (h22.idx he_23)) hc6 fun a hF=>q_g (v:=(iV e_23)) hF hS (ex_loadE1 0 U3 rfl rfl ((at24).at) rfl rfl) hc6 fun a hF=>q_g (v:=(.bool (e_23 == 0))) hF hS (ex_ibin rfl rfl rfl) hc6 fun a hF=>q_y (v:=(.bool (e_23 == 0))) hF hS (ex_pick_t rfl rfl hc6) fun a hF=>q_end (n_jn ?_)
       obtain rfl:=someI hj5
       exact ⟨hF.sub ⟨rfl,rfl,rfl,rfl,rfl,rfl,rfl,rfl,rfl,rfl,rfl,rfl,rfl,trivial⟩,hS.sel [1,0,2] (by decide)⟩
     ·rintro a w ⟨hF,hS⟩
      refine n_sq ?_
      obtain ⟨plan_31,hj7,hb3⟩:=bindS hb3
      refine q_join (fun a w=>Fr a 59 [(0,s1.v),(1,s2.v),(6,(pP b4 0)),(7,(pP b8 0)),(8,(iV t_9)),(15,s3.v),(16,(iV (goLen p_p))),(17,(iV t_9)),(22,s14.v),(23,(iV (goLen e_12))),(24,(iV t_15))]∧St [] w0 w m [q7,[⟨b8,[s7.v,(iV plan_31.Added),(iV plan_31.Value)],27⟩],[⟨b4,[nilS.v,(iV 0),(iV 0)],27⟩]]∧OwnD m 48 3 q7 s7 plan_31.Pattern∧plan_31.Pattern = t_5) ?_ ?_
      ·rcases bcase (t_25) with hc8 | hc8
       ·have hj7:=cond_f hc8 hj7
        refine q_cond_f hF rfl hc8 (q_skipc (n_jn ?_))
        obtain rfl:=someI hj7
        exact ⟨hF.sub ⟨rfl,rfl,rfl,rfl,rfl,rfl,rfl,rfl,rfl,rfl,rfl,trivial⟩,hS,h17,h17k⟩
       ·have hj7:=cond_t hc8 hj7
        refine q_cond_t hF rfl hc8 (q_sr (q_y (v:=(pP b8 1)) hF hS (ex_fieldAddr U27 rfl sz3 rfl rfl) fun a hF=>q_y (v:=(iV plan_16.Added)) hF hS (ex_load1 1 0 U3 rfl rfl rfl rfl) fun a hF=>q_y (v:=(iV (w64 (plan_16.Added + 1)))) hF hS (ex_ibin rfl rfl rfl) fun a hF=>q_y (v:=(pP b8 1)) hF hS (ex_fieldAddr U27 rfl sz3 rfl rfl) fun a hF=>q_store (vs:=[(iV (w64 (plan_16.Added + 1)))]) (cs':=[s7.v,(iV (w64 (plan_16.Added + 1))),(iV plan_16.Value)]) 1 0 hF hS sz3 rfl rfl rfl rfl rfl rfl rfl rfl fun a w hF hS=>q_end (n_sq (e_region ⟨[11],[],m⟩ mixed fun w' hw'=>?_))))
        have hS:=hS.below hw'
        refine e_P (v:=(pP b8 2)) 0 hF rfl (ex_fieldAddr U27 rfl sz3 rfl rfl) fun a hF=>e_X (v:=(iV plan_16.Value)) 1 hF hS rfl (ex_load1 1 0 U3 rfl rfl rfl rfl) fun a hF=>e_P (v:=s1.v) 2 hF rfl (ex_move rfl) fun a hF=>e_P (v:=(iV t_9)) 3 hF rfl (ex_move rfl) fun a hF=>?_
        obtain ⟨e_26,he_26,hj7⟩:=bindS hj7
        obtain ⟨vs27,at27,d27⟩:=h1.at he_26 1 rfl
        obtain ⟨s28,rfl,h28⟩ : ∃ s28 : Sl,vs27 = [s28.v]∧Rd m s28 e_26:=d27
        refine e_P (v:=(elP s1 (t_9.toNat * 1))) 4 hF rfl (ex_indexAddr U23 sz48 rfl rfl (h1.idx he_26)) fun a hF=>e_xm (v:=s28.v) 5 hF hS (Mem.le.refl _) rfl (ex_loadE1 0 U48 rfl rfl ((at27).at) rfl rfl) rfl rfl (by kernel_rfl) (by kernel_rfl) (by kernel_rfl) fun a hF=>e_P (v:=(iV t_15)) 6 hF rfl (ex_move rfl) fun a hF=>?_
        obtain ⟨e_29,he_29,hj7⟩:=bindS hj7
        obtain ⟨vs30,at30,d30⟩:=h28.at he_29 1 rfl
        obtain rfl : vs30 = [(iV e_29)]:=d30
        refine e_P (v:=(elP s28 (t_15.toNat * 1))) 7 hF rfl (ex_indexAddr U48 sz3 rfl rfl (h28.idx he_29)) fun a hF=>e_xm (v:=(iV e_29)) 8 hF hS (Mem.le.refl _) rfl (ex_loadE1 0 U3 rfl rfl ((at30).at) rfl rfl) rfl rfl (by kernel_rfl) (by kernel_rfl) (by kernel_rfl) fun a hF=>e_P (v:=(iV (w64 (plan_16.Value + e_29)))) 9 hF rfl (ex_ibin rfl rfl rfl) fun a hF=>e_P (v:=(pP b8 2)) 10 hF rfl (ex_fieldAddr U27 rfl sz3 rfl rfl) fun a hF=>e_one 11 (by kernel_rfl) (e_store (vs:=[(iV (w64 (plan_16.Value + e_29)))]) (cs':=[s7.v,(iV (w64 (plan_16.Added + 1))),(iV (w64 (plan_16.Value + e_29)))]) 1 0 hF hS rfl rfl sz3 rfl rfl rfl rfl rfl rfl rfl rfl fun a w hF hS=>⟨⟨kpN,fun _=>hS.vis.of_le (Mem.le.refl _)⟩,?_⟩)
        refine e_end (by kernel_rfl) (n_jn ?_) _
        obtain rfl:=someI hj7
        exact ⟨hF.sub ⟨rfl,rfl,rfl,rfl,rfl,rfl,rfl,rfl,rfl,rfl,rfl,trivial⟩,hS,h17,h17k⟩
      ·rintro a w ⟨hF,hS,h32,h32k⟩
       refine n_ib (n_sq ?_)
       refine q_region (q_y (v:=(iV (w64 (t_15 + 1)))) hF hS (ex_ibin rfl rfl rfl) fun a hF=>q_m hF rfl fun a hF=>q_end ?_)
       obtain rfl:=someI hb3
       exact ⟨rfl,_,_,rfl,hF.sub ⟨rfl,rfl,rfl,rfl,rfl,rfl,rfl,rfl,rfl,rfl,rfl,trivial⟩,hS.sel [1,0,2] (by decide),h32,h32k⟩
   ·rintro e a w ⟨rfl,hF,hS,h34,h34k⟩
    refine x_ib (n_ib (n_sq ?_))
    refine q_region (q_y (v:=(iV (w64 (t_9 + 1)))) hF hS (ex_ibin rfl rfl rfl) fun a hF=>q_m hF rfl fun a hF=>q_end ?_)
    obtain rfl:=someI hb1
    exact ⟨rfl,_,_,rfl,hF.sub ⟨rfl,rfl,rfl,rfl,rfl,rfl,rfl,trivial⟩,hS.sel [1,0,2] (by decide),h34,h34k⟩
 ·rintro e a w ⟨rfl,hF,hS,h36,h36k⟩
  refine x_ib (n_sq ?_)
  refine q_sr (q_y (v:=(.agg #[s7.v,(iV plan_35.Added),(iV plan_35.Value)])) hF hS (ex_loadA (vs:=[s7.v,(iV plan_35.Added),(iV plan_35.Value)]) 1 0 U27 rfl sz27 rfl rfl rfl rfl) fun a hF=>q_store (vs:=[s7.v,(iV plan_35.Added),(iV plan_35.Value)]) (cs':=[s7.v,(iV plan_35.Added),(iV plan_35.Value)]) 2 0 hF hS sz27 rfl rfl rfl rfl rfl rfl rfl rfl fun a w hF hS=>q_end (n_sq (q_ret ?_)))
  obtain rfl:=someI hr
  exact ret_of hF hS rfl (.cellA (us:=[s7.v,(iV plan_35.Added),(iV plan_35.Value)]) 2 0 U27 rfl sz27 rfl rfl rfl rfl .nil) ⟨q7,s7,rfl,hS.sel [0] (by decide),h36⟩

theorem c_spec_vNext (p_x : List (List Int)) (p_p : List (List Int)) (p_i : Int) (p_j : Int) (r : Int) (hr : spec_vNext p_x p_p p_i p_j = some r) (w0 : World) (m : Mem) (hv : Vis m w0) (s1 : Sl) (h1 : Rd m s1 p_x) (s2 : Sl) (h2 : Rd m s2 p_p) :
  Ret Tryz.prog 51 [s1.v,s2.v,(iV p_i),(iV p_j)] w0 (fun v _=>v = (iV r)):=by
 unfold spec_vNext at hr
 refine ret_start Tryz.func51 rfl 94 rfl rfl m hv fun a hF hS=>q_sr (q_s hF rfl fun a hF=>q_end (n_sq (q_sr (q_m hF rfl fun a hF=>?_))))
 obtain ⟨e_3,he_3,hr⟩:=bindS hr
 obtain ⟨vs4,at4,d4⟩:=h1.at he_3 1 rfl
 obtain ⟨s5,rfl,h5⟩ : ∃ s5 : Sl,vs4 = [s5.v]∧Rd m s5 e_3:=d4
 refine q_y (v:=(elP s1 ((0 : Int).toNat * 1))) hF hS (ex_indexAddr U23 sz48 rfl rfl (h1.idx he_3)) fun a hF=>q_y (v:=s5.v) hF hS (ex_loadE1 0 U48 rfl rfl ((at4).at) rfl rfl) fun a hF=>q_y (v:=(iV (goLen e_3))) hF hS (ex_len U48 rfl h5.len) fun a hF=>q_s hF rfl fun a hF=>q_end (n_sq (q_seq (q_sr (q_s hF rfl fun a hF=>q_end (n_sq (q_block ?_))))))
 obtain ⟨o1,hl1,hr⟩:=bindS hr
 refine q_loop (fun (stage_6 : Int) a w=>Fr a 94 [(0,s1.v),(1,s2.v),(2,(iV p_i)),(3,(iV p_j)),(9,(iV (goLen e_3))),(10,(iV stage_6))]∧St [] w0 w m []) (fun (o : (Unit) ⊕ (Int)) e a w=>o = .inl ()∧e = .exit 0∧Fr a 94 []∧St [] w0 w m []) hl1 ⟨hF.sub ⟨rfl,rfl,rfl,rfl,rfl,rfl,trivial⟩,hS⟩ ?_ ?_
 ·clear hF hS
  rintro stage_6 a w st ⟨hF,hS⟩ hb1
  unfold spec_vNext_l1 at hb1
  refine q_seq (q_sr (q_m hF rfl fun a hF=>q_y (v:=(.bool (decide (stage_6 < 3)))) hF hS (ex_ibin rfl rfl rfl) fun a hF=>q_end (n_sq ?_)))
  rcases bcase (decide (stage_6 < 3)) with hc2 | hc2
  ·have hb1:=cond_f hc2 hb1
   refine q_cond_f hF rfl hc2 (q_exit (x_sq ?_))
   obtain rfl:=someI hb1
   exact ⟨nofun,.inl ⟨rfl,rfl,hF.sub trivial,hS⟩⟩
  ·have hb1:=cond_t hc2 hb1
   refine q_cond_t hF rfl hc2 (q_skipc (n_sq (q_seq (q_block (q_sr (q_s hF rfl fun a hF=>q_end (n_sq (q_seq (q_sr (q_s hF rfl fun a hF=>q_end (n_sq (q_block ?_))))))))))))
   obtain ⟨best_36,hl3,hb1⟩:=bindS hb1
   refine q_loop (fun (s : Int × Int) a w=>∃ best_7,∃ k_8,s = (best_7,k_8)∧Fr a 94 [(0,s1.v),(1,s2.v),(2,(iV p_i)),(3,(iV p_j)),(9,(iV (goLen e_3))),(10,(iV stage_6)),(11,(iV best_7)),(12,(iV k_8))]∧St [] w0 w m []) (fun (best_36 : Int) e a w=>e = .exit 2∧Fr a 94 [(0,s1.v),(1,s2.v),(2,(iV p_i)),(3,(iV p_j)),(9,(iV (goLen e_3))),(10,(iV stage_6)),(11,(iV best_36))]∧St [] w0 w m []) hl3 ⟨_,_,rfl,hF.sub ⟨rfl,rfl,rfl,rfl,rfl,rfl,rfl,rfl,trivial⟩,hS⟩ ?_ ?_
   ·clear hF hS
    rintro s a w st ⟨best_7,k_8,rfl,hF,hS⟩ hb3
    unfold spec_vNext_l2 at hb3
    refine q_seq (q_sr (q_m hF rfl fun a hF=>q_m hF rfl fun a hF=>q_y (v:=(iV (goLen p_x))) hF hS (ex_len U23 rfl h1.len) fun a hF=>q_m hF rfl fun a hF=>q_y (v:=(iV (w64 ((goLen p_x) * (goLen e_3))))) hF hS (ex_ibin rfl rfl rfl) fun a hF=>q_y (v:=(.bool (decide (k_8 < (w64 ((goLen p_x) * (goLen e_3))))))) hF hS (ex_ibin rfl rfl rfl) fun a hF=>q_end (n_sq ?_)))
    rcases bcase (decide (k_8 < (w64 ((goLen p_x) * (goLen e_3))))) with hc4 | hc4
    ·have hb3:=cond_f hc4 hb3
     refine q_cond_f hF rfl hc4 (q_exit (x_sq ?_))
     obtain rfl:=someI hb3
     exact ⟨nofun,.inl ⟨rfl,hF.sub ⟨rfl,rfl,rfl,rfl,rfl,rfl,rfl,trivial⟩,hS⟩⟩
    ·have hb3:=cond_t hc4 hb3
     refine q_cond_t hF rfl hc4 (q_skipc (n_sq (q_seq ?_)))
     obtain ⟨best_35,hj5,hb3⟩:=bindS hb3
     refine q_join (fun a w=>Fr a 94 [(0,s1.v),(1,s2.v),(2,(iV p_i)),(3,(iV p_j)),(9,(iV (goLen e_3))),(10,(iV stage_6)),(11,(iV best_35)),(12,(iV k_8))]∧St [] w0 w m []) ?_ ?_
     ·refine q_block (q_seq (q_seq ?_))
      obtain ⟨t_18,hj6,hj5⟩:=bindS hj5
      refine q_join (fun a w=>Fr a 94 [(0,s1.v),(1,s2.v),(2,(iV p_i)),(3,(iV p_j)),(9,(iV (goLen e_3))),(10,(iV stage_6)),(11,(iV best_7)),(12,(iV k_8)),(62,(.bool t_18))]∧St [] w0 w m []) ?_ ?_
      ·refine e_region ⟨[],[],m⟩ mixed fun w' hw'=>?_
       have hS:=hS.below hw'
       refine e_P (v:=s2.v) 0 hF rfl (ex_move rfl) fun a hF=>e_P (v:=(iV k_8)) 1 hF rfl (ex_move rfl) fun a hF=>e_P (v:=(iV (goLen e_3))) 2 hF rfl (ex_move rfl) fun a hF=>?_
       obtain ⟨t_9,ht_9,hj6⟩:=bindS hj6
       refine e_P (v:=(iV t_9)) 3 hF rfl (ex_quo rfl rfl ht_9) fun a hF=>?_
       obtain ⟨e_10,he_10,hj6⟩:=bindS hj6
       obtain ⟨vs11,at11,d11⟩:=h2.at he_10 1 rfl
       obtain ⟨s12,rfl,h12⟩ : ∃ s12 : Sl,vs11 = [s12.v]∧Rd m s12 e_10:=d11
       refine e_P (v:=(elP s2 (t_9.toNat * 1))) 4 hF rfl (ex_indexAddr U23 sz48 rfl rfl (h2.idx he_10)) fun a hF=>e_xm (v:=s12.v) 5 hF hS (Mem.le.refl _) rfl (ex_loadE1 0 U48 rfl rfl ((at11).at) rfl rfl) rfl rfl (by kernel_rfl) (by kernel_rfl) (by kernel_rfl) fun a hF=>e_P (v:=(iV k_8)) 6 hF rfl (ex_move rfl) fun a hF=>e_P (v:=(iV (goLen e_3))) 7 hF rfl (ex_move rfl) fun a hF=>?_
       obtain ⟨t_13,ht_13,hj6⟩:=bindS hj6
       refine e_P (v:=(iV t_13)) 8 hF rfl (ex_rem rfl rfl ht_13) fun a hF=>?_
       obtain ⟨e_14,he_14,hj6⟩:=bindS hj6
       obtain ⟨vs15,at15,d15⟩:=h12.at he_14 1 rfl
       obtain rfl : vs15 = [(iV e_14)]:=d15
       refine e_P (v:=(elP s12 (t_13.toNat * 1))) 9 hF rfl (ex_indexAddr U48 sz3 rfl rfl (h12.idx he_14)) fun a hF=>e_xm (v:=(iV e_14)) 10 hF hS (Mem.le.refl _) rfl (ex_loadE1 0 U3 rfl rfl ((at15).at) rfl rfl) rfl rfl (by kernel_rfl) (by kernel_rfl) (by kernel_rfl) fun a hF=>e_P (v:=(.bool (e_14 == 1))) 11 hF rfl (ex_ibin rfl rfl rfl) fun a hF=>e_P (v:=(.bool (e_14 == 1))) 12 hF rfl (ex_move rfl) fun a hF=>?_
       rcases bcase (e_14 == 1) with hc7 | hc7
       ·have hj6:=cond_f hc7 hj6
        refine e_G (v:=(iV stage_6)) 13 hF rfl (ex_move rfl) hc7 fun a hF=>e_G (v:=(.bool (stage_6 == 0))) 14 hF rfl (ex_ibin rfl rfl rfl) hc7 fun a hF=>e_G (v:=(.bool (stage_6 == 0))) 15 hF rfl (ex_move rfl) hc7 fun a hF=>?_
        rcases bcase (stage_6 == 0) with hc8 | hc8
        ·have hj6:=cond_f hc8 hj6
         refine e_K 16 hF rfl hc8 fun a hF=>e_K 17 hF rfl hc8 fun a hF=>e_K 18 hF rfl hc8 fun a hF=>e_K 19 hF rfl hc8 fun a hF=>e_K 20 hF rfl hc8 fun a hF=>e_G (v:=(.bool false)) 21 hF rfl (ex_pick_f rfl rfl hc8) hc7 fun a hF=>e_P (v:=(.bool false)) 22 hF rfl (ex_pick_f rfl rfl hc7) fun a hF=>e_P (v:=(.bool false)) 23 hF rfl (ex_move rfl) fun a hF=>e_G (v:=(iV stage_6)) 24 hF rfl (ex_move rfl) rfl fun a hF=>e_G (v:=(.bool (stage_6 == 1))) 25 hF rfl (ex_ibin rfl rfl rfl) rfl fun a hF=>e_G (v:=(.bool (stage_6 == 1))) 26 hF rfl (ex_move rfl) rfl fun a hF=>?_
         rcases bcase (stage_6 == 1) with hc9 | hc9
         ·have hj6:=cond_f hc9 hj6
          refine e_K 27 hF rfl hc9 fun a hF=>e_K 28 hF rfl hc9 fun a hF=>e_K 29 hF rfl hc9 fun a hF=>e_K 30 hF rfl hc9 fun a hF=>e_K 31 hF rfl hc9 fun a hF=>e_G (v:=(.bool false)) 32 hF rfl (ex_pick_f rfl rfl hc9) rfl fun a hF=>e_P (v:=(.bool false)) 33 hF rfl (ex_pick_f rfl rfl rfl) fun a hF=>e_end (by kernel_rfl) (n_jn ?_) _
          obtain rfl:=someI hj6
          exact ⟨hF.sub ⟨rfl,rfl,rfl,rfl,rfl,rfl,rfl,rfl,rfl,trivial⟩,hS⟩
         ·have hj6:=cond_t hc9 hj6
          refine e_G (v:=(iV k_8)) 27 hF rfl (ex_move rfl) hc9 fun a hF=>e_G (v:=(iV (goLen e_3))) 28 hF rfl (ex_move rfl) hc9 fun a hF=>?_
          obtain ⟨t_16,ht_16,hj6⟩:=bindS hj6
          refine e_G (v:=(iV t_16)) 29 hF rfl (ex_rem rfl rfl ht_16) hc9 fun a hF=>e_G (v:=(iV p_j)) 30 hF rfl (ex_move rfl) hc9 fun a hF=>e_G (v:=(.bool (t_16 != p_j))) 31 hF rfl (ex_ibin rfl rfl rfl) hc9 fun a hF=>e_G (v:=(.bool (t_16 != p_j))) 32 hF rfl (ex_pick_t rfl rfl hc9) rfl fun a hF=>e_P (v:=(.bool (t_16 != p_j))) 33 hF rfl (ex_pick_f rfl rfl rfl) fun a hF=>e_end (by kernel_rfl) (n_jn ?_) _
          obtain rfl:=someI hj6
          exact ⟨hF.sub ⟨rfl,rfl,rfl,rfl,rfl,rfl,rfl,rfl,rfl,trivial⟩,hS⟩
        ·have hj6:=cond_t hc8 hj6
         refine e_G (v:=(iV k_8)) 16 hF rfl (ex_move rfl) hc8 fun a hF=>e_G (v:=(iV (goLen e_3))) 17 hF rfl (ex_move rfl) hc8 fun a hF=>?_
         obtain ⟨t_16,ht_16,hj6⟩:=bindS hj6
         refine e_G (v:=(iV t_16)) 18 hF rfl (ex_quo rfl rfl ht_16) hc8 fun a hF=>e_G (v:=(iV p_i)) 19 hF rfl (ex_move rfl) hc8 fun a hF=>e_G (v:=(.bool (t_16 != p_i))) 20 hF rfl (ex_ibin rfl rfl rfl) hc8 fun a hF=>e_G (v:=(.bool (t_16 != p_i))) 21 hF rfl (ex_pick_t rfl rfl hc8) hc7 fun a hF=>e_P (v:=(.bool (t_16 != p_i))) 22 hF rfl (ex_pick_f rfl rfl hc7) fun a hF=>e_P (v:=(.bool (t_16 != p_i))) 23 hF rfl (ex_move rfl) fun a hF=>?_
         rcases bcase (t_16 != p_i) with hc10 | hc10
         ·have hj6:=cond_f hc10 hj6
          refine e_G (v:=(iV stage_6)) 24 hF rfl (ex_move rfl) hc10 fun a hF=>e_G (v:=(.bool (stage_6 == 1))) 25 hF rfl (ex_ibin rfl rfl rfl) hc10 fun a hF=>e_G (v:=(.bool (stage_6 == 1))) 26 hF rfl (ex_move rfl) hc10 fun a hF=>?_
          rcases bcase (stage_6 == 1) with hc11 | hc11
          ·have hj6:=cond_f hc11 hj6
           refine e_K 27 hF rfl hc11 fun a hF=>e_K 28 hF rfl hc11 fun a hF=>e_K 29 hF rfl hc11 fun a hF=>e_K 30 hF rfl hc11 fun a hF=>e_K 31 hF rfl hc11 fun a hF=>e_G (v:=(.bool false)) 32 hF rfl (ex_pick_f rfl rfl hc11) hc10 fun a hF=>e_P (v:=(.bool false)) 33 hF rfl (ex_pick_f rfl rfl hc10) fun a hF=>e_end (by kernel_rfl) (n_jn ?_) _
           obtain rfl:=someI hj6
           exact ⟨hF.sub ⟨rfl,rfl,rfl,rfl,rfl,rfl,rfl,rfl,rfl,trivial⟩,hS⟩
          ·have hj6:=cond_t hc11 hj6
           refine e_G (v:=(iV k_8)) 27 hF rfl (ex_move rfl) hc11 fun a hF=>e_G (v:=(iV (goLen e_3))) 28 hF rfl (ex_move rfl) hc11 fun a hF=>?_
           obtain ⟨t_17,ht_17,hj6⟩:=bindS hj6
           refine e_G (v:=(iV t_17)) 29 hF rfl (ex_rem rfl rfl ht_17) hc11 fun a hF=>e_G (v:=(iV p_j)) 30 hF rfl (ex_move rfl) hc11 fun a hF=>e_G (v:=(.bool (t_17 != p_j))) 31 hF rfl (ex_ibin rfl rfl rfl) hc11 fun a hF=>e_G (v:=(.bool (t_17 != p_j))) 32 hF rfl (ex_pick_t rfl rfl hc11) hc10 fun a hF=>e_P (v:=(.bool (t_17 != p_j))) 33 hF rfl (ex_pick_f rfl rfl hc10) fun a hF=>e_end (by kernel_rfl) (n_jn ?_) _
           obtain rfl:=someI hj6
           exact ⟨hF.sub ⟨rfl,rfl,rfl,rfl,rfl,rfl,rfl,rfl,rfl,trivial⟩,hS⟩
         ·have hj6:=cond_t hc10 hj6
          refine e_K 24 hF rfl hc10 fun a hF=>e_K 25 hF rfl hc10 fun a hF=>e_K 26 hF rfl hc10 fun a hF=>e_skipP 27 hF rfl (wanted_u hF rfl rfl rfl) rfl (by kernel_rfl) (by kernel_rfl) (by kernel_rfl) fun a hF=>e_skipP 28 hF rfl (wanted_u hF rfl rfl rfl) rfl (by kernel_rfl) (by kernel_rfl) (by kernel_rfl) fun a hF=>e_skipP 29 hF rfl (wanted_u hF rfl rfl rfl) rfl (by kernel_rfl) (by kernel_rfl) (by kernel_rfl) fun a hF=>e_skipP 30 hF rfl (wanted_u hF rfl rfl rfl) rfl (by kernel_rfl) (by kernel_rfl) (by kernel_rfl) fun a hF=>e_skipP 31 hF rfl (wanted_u hF rfl rfl rfl) rfl (by kernel_rfl) (by kernel_rfl) (by kernel_rfl) fun a hF=>e_K 32 hF rfl hc10 fun a hF=>e_P (v:=(.bool true)) 33 hF rfl (ex_pick_t rfl rfl hc10) fun a hF=>e_end (by kernel_rfl) (n_jn ?_) _
          obtain rfl:=someI hj6
          exact ⟨hF.sub ⟨rfl,rfl,rfl,rfl,rfl,rfl,rfl,rfl,rfl,trivial⟩,hS⟩
       ·have hj6:=cond_t hc7 hj6
        refine e_K 13 hF rfl hc7 fun a hF=>e_K 14 hF rfl hc7 fun a hF=>e_K 15 hF rfl hc7 fun a hF=>e_skipP 16 hF rfl (wanted_u hF rfl rfl rfl) rfl (by kernel_rfl) (by kernel_rfl) (by kernel_rfl) fun a hF=>e_skipP 17 hF rfl (wanted_u hF rfl rfl rfl) rfl (by kernel_rfl) (by kernel_rfl) (by kernel_rfl) fun a hF=>e_skipP 18 hF rfl (wanted_u hF rfl rfl rfl) rfl (by kernel_rfl) (by kernel_rfl) (by kernel_rfl) fun a hF=>e_skipP 19 hF rfl (wanted_u hF rfl rfl rfl) rfl (by kernel_rfl) (by kernel_rfl) (by kernel_rfl) fun a hF=>e_skipP 20 hF rfl (wanted_u hF rfl rfl rfl) rfl (by kernel_rfl) (by kernel_rfl) (by kernel_rfl) fun a hF=>e_K 21 hF rfl hc7 fun a hF=>e_P (v:=(.bool true)) 22 hF rfl (ex_pick_t rfl rfl hc7) fun a hF=>e_P (v:=(.bool true)) 23 hF rfl (ex_move rfl) fun a hF=>e_K 24 hF rfl rfl fun a hF=>e_K 25 hF rfl rfl fun a hF=>e_K 26 hF rfl rfl fun a hF=>e_skipP 27 hF rfl (wanted_u hF rfl rfl rfl) rfl (by kernel_rfl) (by kernel_rfl) (by kernel_rfl) fun a hF=>e_skipP 28 hF rfl (wanted_u hF rfl rfl rfl) rfl (by kernel_rfl) (by kernel_rfl) (by kernel_rfl) fun a hF=>e_skipP 29 hF rfl (wanted_u hF rfl rfl rfl) rfl (by kernel_rfl) (by kernel_rfl) (by kernel_rfl) fun a hF=>e_skipP 30 hF rfl (wanted_u hF rfl rfl rfl) rfl (by kernel_rfl) (by kernel_rfl) (by kernel_rfl) fun a hF=>e_skipP 31 hF rfl (wanted_u hF rfl rfl rfl) rfl (by kernel_rfl) (by kernel_rfl) (by kernel_rfl) fun a hF=>e_K 32 hF rfl rfl fun a hF=>e_P (v:=(.bool true)) 33 hF rfl (ex_pick_t rfl rfl rfl) fun a hF=>e_end (by kernel_rfl) (n_jn ?_) _
        obtain rfl:=someI hj6
        exact ⟨hF.sub ⟨rfl,rfl,rfl,rfl,rfl,rfl,rfl,rfl,rfl,trivial⟩,hS⟩
      ·rintro a w ⟨hF,hS⟩
       refine n_sq ?_
       rcases bcase (t_18) with hc12 | hc12
       ·have hj5:=cond_f hc12 hj5
        refine q_cond_f hF rfl hc12 (q_skipc (n_sq (q_seq ?_)))
        obtain ⟨t_33,hj13,hj5⟩:=bindS hj5
        refine q_join (fun a w=>Fr a 94 [(0,s1.v),(1,s2.v),(2,(iV p_i)),(3,(iV p_j)),(9,(iV (goLen e_3))),(10,(iV stage_6)),(11,(iV best_7)),(12,(iV k_8)),(89,(.bool t_33))]∧St [] w0 w m []) ?_ ?_
        ·refine e_region ⟨[],[],m⟩ mixed fun w' hw'=>?_
         have hS:=hS.below hw'
         refine e_P (v:=(iV best_7)) 0 hF rfl (ex_move rfl) fun a hF=>e_P (v:=(.bool (decide (best_7 < 0)))) 1 hF rfl (ex_ibin rfl rfl rfl) fun a hF=>e_P (v:=(.bool (decide (best_7 < 0)))) 2 hF rfl (ex_move rfl) fun a hF=>?_
         rcases bcase (decide (best_7 < 0)) with hc14 | hc14
         ·have hj13:=cond_f hc14 hj13
          refine e_G (v:=s1.v) 3 hF rfl (ex_move rfl) hc14 fun a hF=>e_G (v:=(iV k_8)) 4 hF rfl (ex_move rfl) hc14 fun a hF=>e_G (v:=(iV (goLen e_3))) 5 hF rfl (ex_move rfl) hc14 fun a hF=>?_
          obtain ⟨t_19,ht_19,hj13⟩:=bindS hj13
          refine e_G (v:=(iV t_19)) 6 hF rfl (ex_quo rfl rfl ht_19) hc14 fun a hF=>?_
          obtain ⟨e_20,he_20,hj13⟩:=bindS hj13
          obtain ⟨vs21,at21,d21⟩:=h1.at he_20 1 rfl
          obtain ⟨s22,rfl,h22⟩ : ∃ s22 : Sl,vs21 = [s22.v]∧Rd m s22 e_20:=d21
          refine e_G (v:=(elP s1 (t_19.toNat * 1))) 7 hF rfl (ex_indexAddr U23 sz48 rfl rfl (h1.idx he_20)) hc14 fun a hF=>e_xg (v:=s22.v) 8 hF hS rfl (ex_loadE1 0 U48 rfl rfl ((at21).at) rfl rfl) (wanted_t hF rfl rfl rfl hc14) rfl (by kernel_rfl) (by kernel_rfl) (by kernel_rfl) (by kernel_rfl) fun a hF=>e_G (v:=(iV k_8)) 9 hF rfl (ex_move rfl) hc14 fun a hF=>e_G (v:=(iV (goLen e_3))) 10 hF rfl (ex_move rfl) hc14 fun a hF=>?_
          obtain ⟨t_23,ht_23,hj13⟩:=bindS hj13
          refine e_G (v:=(iV t_23)) 11 hF rfl (ex_rem rfl rfl ht_23) hc14 fun a hF=>?_
          obtain ⟨e_24,he_24,hj13⟩:=bindS hj13
          obtain ⟨vs25,at25,d25⟩:=h22.at he_24 1 rfl
          obtain rfl : vs25 = [(iV e_24)]:=d25
          refine e_G (v:=(elP s22 (t_23.toNat * 1))) 12 hF rfl (ex_indexAddr U48 sz3 rfl rfl (h22.idx he_24)) hc14 fun a hF=>e_xg (v:=(iV e_24)) 13 hF hS rfl (ex_loadE1 0 U3 rfl rfl ((at25).at) rfl rfl) (wanted_t hF rfl rfl rfl hc14) rfl (by kernel_rfl) (by kernel_rfl) (by kernel_rfl) (by kernel_rfl) fun a hF=>e_G (v:=s1.v) 14 hF rfl (ex_move rfl) hc14 fun a hF=>e_G (v:=(iV best_7)) 15 hF rfl (ex_move rfl) hc14 fun a hF=>e_G (v:=(iV (goLen e_3))) 16 hF rfl (ex_move rfl) hc14 fun a hF=>?_
          obtain ⟨t_26,ht_26,hj13⟩:=bindS hj13
          refine e_G (v:=(iV t_26)) 17 hF rfl (ex_quo rfl rfl ht_26) hc14 fun a hF=>?_
          obtain ⟨e_27,he_27,hj13⟩:=bindS hj13
          obtain ⟨vs28,at28,d28⟩:=h1.at he_27 1 rfl
          obtain ⟨s29,rfl,h29⟩ : ∃ s29 : Sl,vs28 = [s29.v]∧Rd m s29 e_27:=d28
          refine e_G (v:=(elP s1 (t_26.toNat * 1))) 18 hF rfl (ex_indexAddr U23 sz48 rfl rfl (h1.idx he_27)) hc14 fun a hF=>e_xg (v:=s29.v) 19 hF hS rfl (ex_loadE1 0 U48 rfl rfl ((at28).at) rfl rfl) (wanted_t hF rfl rfl rfl hc14) rfl (by kernel_rfl) (by kernel_rfl) (by kernel_rfl) (by kernel_rfl) fun a hF=>e_G (v:=(iV best_7)) 20 hF rfl (ex_move rfl) hc14 fun a hF=>e_G (v:=(iV (goLen e_3))) 21 hF rfl (ex_move rfl) hc14 fun a hF=>?_
          obtain ⟨t_30,ht_30,hj13⟩:=bindS hj13
          refine e_G (v:=(iV t_30)) 22 hF rfl (ex_rem rfl rfl ht_30) hc14 fun a hF=>?_
          obtain ⟨e_31,he_31,hj13⟩:=bindS hj13
          obtain ⟨vs32,at32,d32⟩:=h29.at he_31 1 rfl
          obtain rfl : vs32 = [(iV e_31)]:=d32
          refine e_G (v:=(elP s29 (t_30.toNat * 1))) 23 hF rfl (ex_indexAddr U48 sz3 rfl rfl (h29.idx he_31)) hc14 fun a hF=>e_xg (v:=(iV e_31)) 24 hF hS rfl (ex_loadE1 0 U3 rfl rfl ((at32).at) rfl rfl) (wanted_t hF rfl rfl rfl hc14) rfl (by kernel_rfl) (by kernel_rfl) (by kernel_rfl) (by kernel_rfl) fun a hF=>e_G (v:=(.bool (decide (e_24 < e_31)))) 25 hF rfl (ex_ibin rfl rfl rfl) hc14 fun a hF=>e_P (v:=(.bool (decide (e_24 < e_31)))) 26 hF rfl (ex_pick_f rfl rfl hc14) fun a hF=>e_end (by kernel_rfl) (n_jn ?_) _
          obtain rfl:=someI hj13
          exact ⟨hF.sub ⟨rfl,rfl,rfl,rfl,rfl,rfl,rfl,rfl,rfl,trivial⟩,hS⟩
         ·have hj13:=cond_t hc14 hj13
          refine e_K 3 hF rfl hc14 fun a hF=>e_K 4 hF rfl hc14 fun a hF=>e_K 5 hF rfl hc14 fun a hF=>e_K 6 hF rfl hc14 fun a hF=>e_K 7 hF rfl hc14 fun a hF=>e_K 8 hF rfl hc14 fun a hF=>e_K 9 hF rfl hc14 fun a hF=>e_K 10 hF rfl hc14 fun a hF=>e_K 11 hF rfl hc14 fun a hF=>e_K 12 hF rfl hc14 fun a hF=>e_K 13 hF rfl hc14 fun a hF=>e_K 14 hF rfl hc14 fun a hF=>e_K 15 hF rfl hc14 fun a hF=>e_K 16 hF rfl hc14 fun a hF=>e_K 17 hF rfl hc14 fun a hF=>e_K 18 hF rfl hc14 fun a hF=>e_K 19 hF rfl hc14 fun a hF=>e_K 20 hF rfl hc14 fun a hF=>e_K 21 hF rfl hc14 fun a hF=>e_K 22 hF rfl hc14 fun a hF=>e_K 23 hF rfl hc14 fun a hF=>e_K 24 hF rfl hc14 fun a hF=>e_K 25 hF rfl hc14 fun a hF=>e_P (v:=(.bool true)) 26 hF rfl (ex_pick_t rfl rfl hc14) fun a hF=>e_end (by kernel_rfl) (n_jn ?_) _
          obtain rfl:=someI hj13
          exact ⟨hF.sub ⟨rfl,rfl,rfl,rfl,rfl,rfl,rfl,rfl,rfl,trivial⟩,hS⟩
        ·rintro a w ⟨hF,hS⟩
         refine n_sq ?_
         obtain ⟨best_34,hj15,hj5⟩:=bindS hj5
         refine q_join (fun a w=>Fr a 94 [(0,s1.v),(1,s2.v),(2,(iV p_i)),(3,(iV p_j)),(9,(iV (goLen e_3))),(10,(iV stage_6)),(11,(iV best_34)),(12,(iV k_8))]∧St [] w0 w m []) ?_ ?_
         ·rcases bcase (t_33) with hc16 | hc16
          ·have hj15:=cond_f hc16 hj15
           refine q_cond_f hF rfl hc16 (q_skipc (n_jn ?_))
           obtain rfl:=someI hj15
           exact ⟨hF.sub ⟨rfl,rfl,rfl,rfl,rfl,rfl,rfl,rfl,trivial⟩,hS⟩
          ·have hj15:=cond_t hc16 hj15
           refine q_cond_t hF rfl hc16 (q_region (q_m hF rfl fun a hF=>q_s hF rfl fun a hF=>q_end (n_jn ?_)))
           obtain rfl:=someI hj15
           exact ⟨hF.sub ⟨rfl,rfl,rfl,rfl,rfl,rfl,rfl,rfl,trivial⟩,hS⟩
         ·rintro a w ⟨hF,hS⟩
          refine n_ib (n_jn ?_)
          obtain rfl:=someI hj5
          exact ⟨hF.sub ⟨rfl,rfl,rfl,rfl,rfl,rfl,rfl,rfl,trivial⟩,hS⟩
       ·have hj5:=cond_t hc12 hj5
        refine q_cond_t hF rfl hc12 (q_exit (x_sq (x_ib (n_jn ?_))))
        obtain rfl:=someI hj5
        exact ⟨hF.sub ⟨rfl,rfl,rfl,rfl,rfl,rfl,rfl,rfl,trivial⟩,hS⟩
     ·rintro a w ⟨hF,hS⟩
      refine n_sq ?_
      refine q_region (q_m hF rfl fun a hF=>q_y (v:=(iV (w64 (k_8 + 1)))) hF hS (ex_ibin rfl rfl rfl) fun a hF=>q_s hF rfl fun a hF=>q_end ?_)
      obtain rfl:=someI hb3
      exact ⟨rfl,_,_,rfl,hF.sub ⟨rfl,rfl,rfl,rfl,rfl,rfl,rfl,rfl,trivial⟩,hS⟩
   ·rintro e a w ⟨rfl,hF,hS⟩
    refine x_ib (n_sq ?_)
    refine q_sr (q_m hF rfl fun a hF=>q_y (v:=(.bool (decide (0 ≤ best_36)))) hF hS (ex_ibin rfl rfl rfl) fun a hF=>q_end (n_sq ?_))
    rcases bcase (decide (0 ≤ best_36)) with hc17 | hc17
    ·have hb1:=cond_f hc17 hb1
     refine q_cond_f hF rfl hc17 (q_skipc (n_ib (n_sq (q_region (q_m hF rfl fun a hF=>q_y (v:=(iV (w64 (stage_6 + 1)))) hF hS (ex_ibin rfl rfl rfl) fun a hF=>q_s hF rfl fun a hF=>q_end ?_)))))
     obtain rfl:=someI hb1
     exact ⟨rfl,hF.sub ⟨rfl,rfl,rfl,rfl,rfl,rfl,trivial⟩,hS⟩
    ·have hb1:=cond_t hc17 hb1
     refine q_cond_t hF rfl hc17 (q_sr (q_m hF rfl fun a hF=>q_s hF rfl fun a hF=>q_end (n_sq (q_ret (r_ib (r_sq ?_))))))
     obtain rfl:=someI hb1
     refine ⟨nofun,.inr fun ho=>?_⟩
     subst ho
     refine r_ib (r_sq ?_)
     obtain rfl:=someI hr
     exact ret_of hF hS rfl (.tmp rfl .nil) rfl
 ·rintro e a w ⟨rfl,rfl,hF,hS⟩
  refine x_ib (n_sq ?_)
  refine q_sr (q_s hF rfl fun a hF=>q_end (n_sq (q_ret ?_)))
  obtain rfl:=someI hr
  exact ret_of hF hS rfl (.tmp rfl .nil) rfl

theorem c_spec_GreedyPlan (p_x : List (List Int)) (p_primary : List (List Int)) (p_down : Int) (p_up : Int) (r : impl_Plan × Bool) (hr : spec_GreedyPlan p_x p_primary p_down p_up = some r) (w0 : World) (m : Mem) (hv : Vis m w0) (s1 : Sl) (h1 : Rd m s1 p_x) (s2 : Sl) (h2 : Rd m s2 p_primary) :
  Ret Tryz.prog 12 [s1.v,s2.v,(iV p_down),(iV p_up)] w0 (fun v w=>∃ (m' : Mem) (q0' : Piece) (s0' : Sl),v = (.tuple #[(.agg #[s0'.v,(iV r.1.Added),(iV r.1.Value)]),(.bool r.2)])∧MLe [] w0.heap.size m m'∧St [] w0 w m' [q0']∧OwnD m' 48 3 q0' s0' r.1.Pattern):=by
 unfold spec_GreedyPlan at hr
 refine ret_start Tryz.func12 rfl 59 rfl rfl m hv fun a hF hS=>q_sr (q_alloc (cs:=[nilS.v,(iV 0),(iV 0)]) hF hS rfl rfl rfl fun a w b3 hF hS=>q_s hF rfl fun a hF=>q_end (n_sq (q_seq (q_seq ?_))))
 obtain ⟨t_6,hj1,hr⟩:=bindS hr
 refine q_join (fun a w=>Fr a 59 [(0,s1.v),(1,s2.v),(2,(iV p_down)),(3,(iV p_up)),(8,(pP b3 0)),(22,(.bool t_6))]∧St [] w0 w m [[⟨b3,[nilS.v,(iV 0),(iV 0)],27⟩]]) ?_ ?_
 ·refine q_region (q_m hF rfl fun a hF=>q_m hF rfl fun a hF=>?_)
  obtain ⟨t_4,ht_4,hj1⟩:=bindS hj1
  refine q_call (vs:=[s1.v,s2.v]) hF hS Tryz.func28 (by kernel_rfl) rfl rfl rfl (c_spec_qPattern p_x p_primary t_4 ht_4 _ m hS.vis s1 h1 s2 h2) ?_
  rintro a w _ rfl hF hS
  refine q_y (v:=(.bool (!t_4))) hF hS (ex_not rfl) fun a hF=>q_m hF rfl fun a hF=>?_
  rcases bcase (!t_4) with hc2 | hc2
  ·have hj1:=cond_f hc2 hj1
   refine q_g (v:=(iV p_down)) hF hS (ex_move rfl) hc2 fun a hF=>q_g (v:=(iV p_up)) hF hS (ex_move rfl) hc2 fun a hF=>?_
   obtain ⟨t_5,ht_5,hj1⟩:=bindS hj1
   refine q_callg (vs:=[(iV p_down),(iV p_up)]) hF hS (wanted_t hF rfl rfl rfl hc2) Tryz.func29 (by kernel_rfl) rfl rfl rfl (c_spec_vLevels p_down p_up t_5 ht_5 _ m hS.vis) ?_
   rintro a w _ rfl hF hS
   refine q_g (v:=(.bool (!t_5))) hF hS (ex_not rfl) hc2 fun a hF=>q_y (v:=(.bool (!t_5))) hF hS (ex_pick_f rfl rfl hc2) fun a hF=>q_end (n_jn ?_)
   obtain rfl:=someI hj1
   exact ⟨hF.sub ⟨rfl,rfl,rfl,rfl,rfl,rfl,trivial⟩,hS⟩
  ·have hj1:=cond_t hc2 hj1
   refine q_k hF hc2 fun a hF=>q_k hF hc2 fun a hF=>q_k hF hc2 fun a hF=>q_k hF hc2 fun a hF=>q_y (v:=(.bool true)) hF hS (ex_pick_t rfl rfl hc2) fun a hF=>q_end (n_jn ?_)
   obtain rfl:=someI hj1
   exact ⟨hF.sub ⟨rfl,rfl,rfl,rfl,rfl,rfl,trivial⟩,hS⟩
 ·rintro a w ⟨hF,hS⟩
  refine n_sq ?_
  rcases bcase (t_6) with hc3 | hc3
  ·have hr:=cond_f hc3 hr
   refine q_cond_f hF rfl hc3 (q_skipc (n_sq (q_sr (q_m hF rfl fun a hF=>?_))))
   obtain ⟨t_7,ht_7,hr⟩:=bindS hr
   refine q_call (vs:=[s2.v]) hF hS Tryz.func37 (by kernel_rfl) rfl rfl rfl (c_spec_tOwn p_primary t_7 ht_7 _ m hS.vis s2 h2) ?_
   rintro a w _ ⟨q9,s9,rfl,hR8,h9⟩ hF hS2
   have hS : St _ _ _ _ [q9,[⟨b3,[nilS.v,(iV 0),(iV 0)],27⟩]]:=hS.joinF hR8
   refine q_s hF rfl fun a hF=>q_end (n_sq (q_block ?_))
   obtain ⟨o4,hl4,hr⟩:=bindS hr
   refine q_loop (fun (p_10 : (List (List Int))) a w=>∃ (m12 : Mem),∃ (q11 : Piece),∃ (s11 : Sl),Fr a 59 [(0,s1.v),(1,s2.v),(2,(iV p_down)),(3,(iV p_up)),(8,(pP b3 0)),(10,s11.v)]∧St [] w0 w m12 [q11,[⟨b3,[nilS.v,(iV 0),(iV 0)],27⟩]]∧MLe [] w0.heap.size m m12∧OwnD m12 48 3 q11 s11 p_10) (fun (o : Unit ⊕ (impl_Plan × Bool)) e a w=>False) hl4 ⟨m,q9,s9,hF.sub ⟨rfl,rfl,rfl,rfl,rfl,rfl,trivial⟩,hS,(MLe.refl _ _),h9⟩ ?_ ?_
   ·clear hF hS
    rintro p_10 a w st ⟨m12,q11,s11,hF,hS,hm12,h11⟩ hb4
    unfold spec_GreedyPlan_l1 at hb4
    refine q_block (q_sr (q_m hF rfl fun a hF=>q_m hF rfl fun a hF=>q_m hF rfl fun a hF=>q_m hF rfl fun a hF=>q_m hF rfl fun a hF=>?_))
    obtain ⟨m13,hm13,hS,hz13⟩:=hS.freeze
    have h13:=h11.froz hm13.le hz13
    obtain ⟨t_14,ht_14,hb4⟩:=bindS hb4
    refine q_call (vs:=[s1.v,s11.v,s2.v,(iV p_down),(iV p_up)]) hF hS Tryz.func50 (by kernel_rfl) rfl rfl rfl (c_spec_vOpen p_x p_10 p_primary p_down p_up t_14 ht_14 _ m13 hS.vis s1 ((h1.mono hm12.le).mono hm13.le) s11 h13 s2 ((h2.mono hm12.le).mono hm13.le)) ?_
    have hT:=hS
    rintro a w _ ⟨m15,q16,s16,rfl,hm15,hR15,h16⟩ hF hS2
    have hS : St _ _ _ _ [q16,[⟨b3,[nilS.v,(iV 0),(iV 0)],27⟩]]:=hS.join hR15 hm15
    have hm15:=MLe.weakX (O0:=[]) hT hm15
    refine q_s hF rfl fun a hF=>q_end (n_sq (q_seq (q_sr (q_m hF rfl fun a hF=>q_y (v:=(iV (goLen t_14))) hF hS (ex_len U23 rfl h16.len) fun a hF=>q_y (v:=(.bool ((goLen t_14) == 0))) hF hS (ex_ibin rfl rfl rfl) fun a hF=>q_end (n_sq ?_)))))
    rcases bcase ((goLen t_14) == 0) with hc5 | hc5
    ·have hb4:=cond_f hc5 hb4
     refine q_cond_f hF rfl hc5 (q_skipc (n_sq (q_seq (e_region ⟨[],[],m15⟩ mixed fun w' hw'=>?_))))
     have hS:=hS.below hw'
     refine e_P (v:=s1.v) 0 hF rfl (ex_move rfl) fun a hF=>e_P (v:=s11.v) 1 hF rfl (ex_move rfl) fun a hF=>e_P (v:=s16.v) 2 hF rfl (ex_move rfl) fun a hF=>?_
     obtain ⟨e_17,he_17,hb4⟩:=bindS hb4
     obtain ⟨vs18,at18,d18⟩:=h16.at he_17 1 rfl
     obtain ⟨s19,rfl,h19⟩ : ∃ s19 : Sl,vs18 = [s19.v]∧Rd m15 s19 e_17:=d18
     refine e_P (v:=(elP s16 ((0 : Int).toNat * 1))) 3 hF rfl (ex_indexAddr U23 sz48 rfl rfl (h16.idx he_17)) fun a hF=>e_X (v:=s19.v) 4 hF hS rfl (ex_loadE1 0 U48 rfl rfl (at18.at 0 rfl) rfl rfl) fun a hF=>?_
     obtain ⟨e_20,he_20,hb4⟩:=bindS hb4
     obtain ⟨vs21,at21,d21⟩:=h19.at he_20 1 rfl
     obtain rfl : vs21 = [(iV e_20)]:=d21
     refine e_P (v:=(elP s19 ((0 : Int).toNat * 1))) 5 hF rfl (ex_indexAddr U48 sz3 rfl rfl (h19.idx he_20)) fun a hF=>e_xm (v:=(iV e_20)) 6 hF hS (Mem.le.refl _) rfl (ex_loadE1 0 U3 rfl rfl ((at21).at) rfl rfl) rfl rfl (by kernel_rfl) (by kernel_rfl) (by kernel_rfl) fun a hF=>e_P (v:=s16.v) 7 hF rfl (ex_move rfl) fun a hF=>?_
     obtain ⟨e_22,he_22,hb4⟩:=bindS hb4
     obtain ⟨vs23,at23,d23⟩:=h16.at he_22 1 rfl
     obtain ⟨s24,rfl,h24⟩ : ∃ s24 : Sl,vs23 = [s24.v]∧Rd m15 s24 e_22:=d23
     refine e_P (v:=(elP s16 ((0 : Int).toNat * 1))) 8 hF rfl (ex_indexAddr U23 sz48 rfl rfl (h16.idx he_22)) fun a hF=>e_X (v:=s24.v) 9 hF hS rfl (ex_loadE1 0 U48 rfl rfl (at23.at 0 rfl) rfl rfl) fun a hF=>?_
     obtain ⟨e_25,he_25,hb4⟩:=bindS hb4
     obtain ⟨vs26,at26,d26⟩:=h24.at he_25 1 rfl
     obtain rfl : vs26 = [(iV e_25)]:=d26
     refine e_P (v:=(elP s24 ((1 : Int).toNat * 1))) 10 hF rfl (ex_indexAddr U48 sz3 rfl rfl (h24.idx he_25)) fun a hF=>e_xm (v:=(iV e_25)) 11 hF hS (Mem.le.refl _) rfl (ex_loadE1 0 U3 rfl rfl ((at26).at) rfl rfl) rfl rfl (by kernel_rfl) (by kernel_rfl) (by kernel_rfl) fun a hF=>e_one 12 (by kernel_rfl) ?_
     obtain ⟨t_27,ht_27,hb4⟩:=bindS hb4
     refine e_call (vs:=[s1.v,s11.v,(iV e_20),(iV e_25)]) hF hS rfl Tryz.func51 (by kernel_rfl) rfl rfl rfl (c_spec_vNext p_x p_10 e_20 e_25 t_27 ht_27 _ m15 hS.vis s1 (((h1.mono hm12.le).mono hm13.le).mono hm15.le) s11 (h13.mono hm15.le)) ?_
     rintro a w _ rfl hF hS
     refine e_P (v:=(iV t_27)) 13 hF rfl (ex_assign rfl) fun a hF=>e_end (by kernel_rfl) (n_sq ?_) _
     refine q_seq (q_sr (q_m hF rfl fun a hF=>q_y (v:=(.bool (decide (t_27 < 0)))) hF hS (ex_ibin rfl rfl rfl) fun a hF=>q_end (n_sq ?_)))
     rcases bcase (decide (t_27 < 0)) with hc6 | hc6
     ·have hb4:=cond_f hc6 hb4
      refine q_cond_f hF rfl hc6 (q_skipc (n_sq (q_region (q_m hF rfl fun a hF=>q_m hF rfl fun a hF=>q_do rfl fun _ hK=>wp_buildSlice' (l:=([t_27] : List Int)) (cells:=[(iV t_27)]) hF hS U48 inf3 rfl rfl (by kernel_rfl) rfl rfl rfl ⟨rfl,rfl⟩ rfl rfl fun a w q28 s28 hF hS h28 _=>hK _ _ ?_))))
      obtain ⟨m30,hl30,hv30,hz30⟩:=hS.lend
      obtain ⟨t_29,ht_29,hb4⟩:=bindS hb4
      refine q_call (vs:=[s11.v,s28.v]) hF hS Tryz.func35 (by kernel_rfl) rfl rfl rfl (c_spec_vWith p_10 ([t_27] : List Int) t_29 ht_29 _ m30 hv30 s11 ((h13.mono hm15.le).mono hl30) s28 (h28.froz hl30 (hz30 0 _ rfl))) ?_
      rintro a w _ ⟨q32,s32,rfl,hR31,h32⟩ hF hS2
      have hS : St _ _ _ _ [q32,q28,q16,[⟨b3,[nilS.v,(iV 0),(iV 0)],27⟩]]:=hS.joinF hR31
      have h32:=h32.any m15
      refine q_s hF rfl fun a hF=>q_end (n_ib ?_)
      obtain rfl:=someI hb4
      exact ⟨rfl,m15,q32,s32,hF.sub ⟨rfl,rfl,rfl,rfl,rfl,rfl,trivial⟩,hS.mask [true,false,false,true],((hm12.trans hm13).trans hm15),h32⟩
     ·have hb4:=cond_t hc6 hb4
      refine q_cond_t hF rfl hc6 (q_sr (q_y (v:=(.agg #[nilS.v,(iV 0),(iV 0)])) hF hS (ex_build (cells:=[nilS.v,(iV 0),(iV 0)]) rfl (by kernel_rfl)) fun a hF=>q_store (vs:=[nilS.v,(iV 0),(iV 0)]) (cs':=[nilS.v,(iV 0),(iV 0)]) 1 0 hF hS sz27 rfl rfl rfl rfl rfl rfl rfl rfl fun a w hF hS=>q_s hF rfl fun a hF=>q_end (n_sq (q_ret (r_sq (r_ib ?_))))))
      obtain rfl:=someI hb4
      refine ⟨nofun,.inr fun ho=>?_⟩
      subst ho
      refine r_ib ?_
      obtain rfl:=someI hr
      exact ret_of hF hS rfl (.cellA (us:=[nilS.v,(iV 0),(iV 0)]) 1 0 U27 rfl sz27 rfl rfl rfl rfl (.tmp rfl .nil)) ⟨m15,[],nilS,rfl,((hm12.trans hm13).trans hm15),hS.sel [2] (by decide),(OwnD.nil (β:=Int) m15 48 3)⟩
    ·have hb4:=cond_t hc5 hb4
     refine q_cond_t hF rfl hc5 (q_sr (q_m hF rfl fun a hF=>q_m hF rfl fun a hF=>q_m hF rfl fun a hF=>?_))
     obtain ⟨t_17,ht_17,hb4⟩:=bindS hb4
     refine q_call (vs:=[s1.v,s2.v,s11.v]) hF hS Tryz.func42 (by kernel_rfl) rfl rfl rfl (c_spec_vPlan p_x p_primary p_10 t_17 ht_17 _ m15 hS.vis s1 (((h1.mono hm12.le).mono hm13.le).mono hm15.le) s2 (((h2.mono hm12.le).mono hm13.le).mono hm15.le) s11 (h13.mono hm15.le)) ?_
     rintro a w _ ⟨q19,s19,rfl,hR18,h19⟩ hF hS2
     have hS : St _ _ _ _ [q19,q16,[⟨b3,[nilS.v,(iV 0),(iV 0)],27⟩]]:=hS.joinF hR18
     refine q_store (vs:=[s19.v,(iV t_17.Added),(iV t_17.Value)]) (cs':=[s19.v,(iV t_17.Added),(iV t_17.Value)]) 2 0 hF hS sz27 rfl rfl rfl rfl rfl rfl rfl rfl fun a w hF hS=>q_s hF rfl fun a hF=>q_end (n_sq (q_ret (r_sq (r_ib ?_))))
     obtain rfl:=someI hb4
     refine ⟨nofun,.inr fun ho=>?_⟩
     subst ho
     refine r_ib ?_
     obtain rfl:=someI hr
     exact ret_of hF hS rfl (.cellA (us:=[s19.v,(iV t_17.Added),(iV t_17.Value)]) 2 0 U27 rfl sz27 rfl rfl rfl rfl (.tmp rfl .nil)) ⟨m15,q19,s19,rfl,((hm12.trans hm13).trans hm15),hS.sel [0] (by decide),h19⟩
   ·rintro e a w h
    exact h.elim
  ·have hr:=cond_t hc3 hr
   refine q_cond_t hF rfl hc3 (q_sr (q_y (v:=(.agg #[nilS.v,(iV 0),(iV 0)])) hF hS (ex_build (cells:=[nilS.v,(iV 0),(iV 0)]) rfl (by kernel_rfl)) fun a hF=>q_store (vs:=[nilS.v,(iV 0),(iV 0)]) (cs':=[nilS.v,(iV 0),(iV 0)]) 0 0 hF hS sz27 rfl rfl rfl rfl rfl rfl rfl rfl fun a w hF hS=>q_s hF rfl fun a hF=>q_end (n_sq (q_ret (r_sq ?_)))))
   obtain rfl:=someI hr
   exact ret_of hF hS rfl (.cellA (us:=[nilS.v,(iV 0),(iV 0)]) 0 0 U27 rfl sz27 rfl rfl rfl rfl (.tmp rfl .nil)) ⟨m,[],nilS,rfl,(MLe.refl _ _),hS.sel [1] (by decide),(OwnD.nil (β:=Int) m 48 3)⟩

theorem c_spec_DrawCheckPlan (p_code : List (K .u8)) (r : (List (List Int)) × (List (List Int)) × Int × Int × impl_Plan) (hr : spec_DrawCheckPlan p_code = some r) (w0 : World) (m : Mem) (hv : Vis m w0) (s1 : Sl) (h1 : Rd m s1 p_code) :
  Ret Tryz.prog 7 [s1.v] w0 (fun v w=>∃ (m' : Mem) (s0' : Sl) (s1' : Sl) (s2' : Sl),v = (.tuple #[s0'.v,s1'.v,(iV r.2.2.1),(iV r.2.2.2.1),(.agg #[s2'.v,(iV r.2.2.2.2.Added),(iV r.2.2.2.2.Value)])])∧MLe [] w0.heap.size m m'∧St [] w0 w m' []∧Rd m' s0' r.1∧Rd m' s1' r.2.1∧Rd m' s2' r.2.2.2.2.Pattern):=by
 unfold spec_DrawCheckPlan at hr
 refine ret_start Tryz.func7 rfl 72 rfl rfl m hv fun a hF hS=>q_sr (q_s hF rfl fun a hF=>q_s hF rfl fun a hF=>q_s hF rfl fun a hF=>q_s hF rfl fun a hF=>q_alloc (cs:=[nilS.v,(iV 0),(iV 0)]) hF hS rfl rfl rfl fun a w b2 hF hS=>q_end (n_sq (q_sr (q_m hF rfl fun a hF=>q_y (v:=(.agg #[s1.v,(iV 0),(.int .u64 0)])) hF hS (ex_build (cells:=[s1.v,(iV 0),(.int .u64 0)]) rfl (by kernel_rfl)) fun a hF=>q_box (cs:=[s1.v,(iV 0),(.int .u64 0)]) hF hS rfl rfl rfl fun a w b3 hF hS=>q_s hF rfl fun a hF=>q_end (n_sq (q_sr (q_m hF rfl fun a hF=>?_)))))))
 have hS4 : St _ _ _ _ ([[⟨b3,[s1.v,(iV 0),(.int .u64 0)],41⟩]]++[[⟨b2,[nilS.v,(iV 0),(iV 0)],27⟩]]):=hS
 have hE4:=hS4.enter
 obtain ⟨t_5,ht_5,hr⟩:=bindS hr
 refine q_do rfl fun _ hK=>wp_callX (vs:=[(pP b3 0)]) hF Tryz.func14 (by kernel_rfl) rfl rfl rfl (c_spec_l1Cur_protection (spec_l1Cur.mk p_code 0 (⟨0⟩ : K .u64)) t_5 ht_5 _ m b3 s1 h1 _ hE4) fun a w _ hR hF=>hK _ _ ?_
 obtain ⟨q6,q7,s6,s7,rfl,hR4,h6,h7,hk8⟩:=hR
 have hS : St _ _ _ _ [[⟨b3,[s1.v,(iV t_5.2.2.2.2.at_),(.int .u64 t_5.2.2.2.2.seed.v)],41⟩],q6,q7,[⟨b2,[nilS.v,(iV 0),(iV 0)],27⟩]]:=hS4.leaveF hR4
 have h8 : Rd m s1 t_5.2.2.2.2.code:=by rw [hk8]; exact h1
 refine q_m hF rfl fun a hF=>q_y (v:=s6.v) hF hS (ex_extract rfl rfl) fun a hF=>q_y (v:=s7.v) hF hS (ex_extract rfl rfl) fun a hF=>q_y (v:=(iV t_5.2.2.1)) hF hS (ex_extract rfl rfl) fun a hF=>q_y (v:=(iV t_5.2.2.2.1)) hF hS (ex_extract rfl rfl) fun a hF=>q_s hF rfl fun a hF=>q_s hF rfl fun a hF=>q_s hF rfl fun a hF=>q_s hF rfl fun a hF=>q_end (n_sq (q_sr (q_m hF rfl fun a hF=>q_m hF rfl fun a hF=>q_m hF rfl fun a hF=>q_m hF rfl fun a hF=>?_)))
 have hS : St _ _ _ _ [q6,[⟨b3,[s1.v,(iV t_5.2.2.2.2.at_),(.int .u64 t_5.2.2.2.2.seed.v)],41⟩],q7,[⟨b2,[nilS.v,(iV 0),(iV 0)],27⟩]]:=hS.sel [1,0,2,3] (by decide)
 obtain ⟨m9,hm9,hS,hz9⟩:=hS.freeze
 have h9:=h6.froz hm9.le hz9
 have hS : St _ _ _ _ [q7,[⟨b3,[s1.v,(iV t_5.2.2.2.2.at_),(.int .u64 t_5.2.2.2.2.seed.v)],41⟩],[⟨b2,[nilS.v,(iV 0),(iV 0)],27⟩]]:=hS.sel [1,0,2] (by decide)
 obtain ⟨m10,hm10,hS,hz10⟩:=hS.freeze
 have h10:=(h7.mono hm9.le).froz hm10.le hz10
 obtain ⟨t_11,ht_11,hr⟩:=bindS hr
 refine q_call (vs:=[s6.v,s7.v,(iV t_5.2.2.1),(iV t_5.2.2.2.1)]) hF hS Tryz.func12 (by kernel_rfl) rfl rfl rfl (c_spec_GreedyPlan t_5.1 t_5.2.1 t_5.2.2.1 t_5.2.2.2.1 t_11 ht_11 _ m10 hS.vis s6 (h9.mono hm10.le) s7 h10) ?_
 have hT:=hS
 rintro a w _ ⟨m12,q13,s13,rfl,hm12,hR12,h13⟩ hF hS2
 have hS : St _ _ _ _ [q13,[⟨b3,[s1.v,(iV t_5.2.2.2.2.at_),(.int .u64 t_5.2.2.2.2.seed.v)],41⟩],[⟨b2,[nilS.v,(iV 0),(iV 0)],27⟩]]:=hS.join hR12 hm12
 have hm12:=MLe.weakX (O0:=[]) hT hm12
 refine q_m hF rfl fun a hF=>q_y (v:=(.agg #[s13.v,(iV t_11.1.Added),(iV t_11.1.Value)])) hF hS (ex_extract rfl rfl) fun a hF=>q_y (v:=(.bool t_11.2)) hF hS (ex_extract rfl rfl) fun a hF=>q_alloc (cs:=[nilS.v,(iV 0),(iV 0)]) hF hS rfl rfl rfl fun a w b14 hF hS=>q_store (vs:=[s13.v,(iV t_11.1.Added),(iV t_11.1.Value)]) (cs':=[s13.v,(iV t_11.1.Added),(iV t_11.1.Value)]) 0 0 hF hS sz27 rfl rfl rfl rfl rfl rfl rfl rfl fun a w hF hS=>q_s hF rfl fun a hF=>q_end (n_sq (q_seq (q_sr (q_m hF rfl fun a hF=>q_y (v:=(.bool (!t_11.2))) hF hS (ex_not rfl) fun a hF=>q_end (n_sq ?_)))))
 rcases bcase (!t_11.2) with hc1 | hc1
 ·have hr:=cond_f hc1 hr
  refine q_cond_f hF rfl hc1 (q_skipc (n_sq (q_seq (q_sr (q_m hF rfl fun a hF=>?_)))))
  have hS : St _ _ _ _ [[⟨b3,[s1.v,(iV t_5.2.2.2.2.at_),(.int .u64 t_5.2.2.2.2.seed.v)],41⟩],[⟨b14,[s13.v,(iV t_11.1.Added),(iV t_11.1.Value)],27⟩],q13,[⟨b2,[nilS.v,(iV 0),(iV 0)],27⟩]]:=hS.sel [2,0,1,3] (by decide)
  have hS15 : St _ _ _ _ ([[⟨b3,[s1.v,(iV t_5.2.2.2.2.at_),(.int .u64 t_5.2.2.2.2.seed.v)],41⟩]]++[[⟨b14,[s13.v,(iV t_11.1.Added),(iV t_11.1.Value)],27⟩],q13,[⟨b2,[nilS.v,(iV 0),(iV 0)],27⟩]]):=hS
  have hE15:=hS15.enter
  obtain ⟨t_16,ht_16,hr⟩:=bindS hr
  refine q_do rfl fun _ hK=>wp_callX (vs:=[(pP b3 0),(iV 6)]) hF Tryz.func36 (by kernel_rfl) rfl rfl rfl (c_spec_l1Cur_pick t_5.2.2.2.2 6 t_16 ht_16 _ m12 b3 s1 (((h8.mono hm9.le).mono hm10.le).mono hm12.le) _ hE15) fun a w _ hR hF=>hK _ _ ?_
  obtain ⟨rfl,hR15,hk17⟩:=hR
  have hS : St _ _ _ _ [[⟨b3,[s1.v,(iV t_16.2.at_),(.int .u64 t_16.2.seed.v)],41⟩],[⟨b14,[s13.v,(iV t_11.1.Added),(iV t_11.1.Value)],27⟩],q13,[⟨b2,[nilS.v,(iV 0),(iV 0)],27⟩]]:=hS15.leaveF hR15
  have h17 : Rd m12 s1 t_16.2.code:=by rw [hk17]; exact (((h8.mono hm9.le).mono hm10.le).mono hm12.le)
  refine q_end (n_sq (q_block (q_sr (q_y (v:=(.bool (t_16.1 == 0))) hF hS (ex_ibin rfl rfl rfl) fun a hF=>q_s hF rfl fun a hF=>q_end (n_sq ?_)))))
  obtain ⟨plan_27,hj2,hr⟩:=bindS hr
  refine q_join (fun a w=>∃ (q28 : Piece),∃ (s28 : Sl),Fr a 72 [(6,(pP b2 0)),(8,s6.v),(9,s7.v),(10,(iV t_5.2.2.1)),(11,(iV t_5.2.2.2.1)),(12,(pP b14 0))]∧St [] w0 w m12 [q28,[⟨b14,[s28.v,(iV plan_27.Added),(iV plan_27.Value)],27⟩],[⟨b2,[nilS.v,(iV 0),(iV 0)],27⟩]]∧OwnD m12 48 3 q28 s28 plan_27.Pattern) ?_ ?_
  ·rcases bcase (t_16.1 == 0) with hc3 | hc3
   ·have hj2:=cond_f hc3 hj2
    refine q_cond_f hF rfl hc3 (q_sr (q_y (v:=(.bool (t_16.1 == 1))) hF hS (ex_ibin rfl rfl rfl) fun a hF=>q_s hF rfl fun a hF=>q_end (n_sq ?_)))
    obtain ⟨plan_23,hj4,hj2⟩:=bindS hj2
    refine q_join (fun a w=>∃ (q24 : Piece),∃ (s24 : Sl),Fr a 72 [(6,(pP b2 0)),(8,s6.v),(9,s7.v),(10,(iV t_5.2.2.1)),(11,(iV t_5.2.2.2.1)),(12,(pP b14 0))]∧St [] w0 w m12 [q24,[⟨b14,[s24.v,(iV plan_23.Added),(iV plan_23.Value)],27⟩],[⟨b2,[nilS.v,(iV 0),(iV 0)],27⟩]]∧OwnD m12 48 3 q24 s24 plan_23.Pattern) ?_ ?_
    ·rcases bcase (t_16.1 == 1) with hc5 | hc5
     ·have hj4:=cond_f hc5 hj4
      refine q_cond_f hF rfl hc5 (q_sr (q_y (v:=(.bool (t_16.1 == 2))) hF hS (ex_ibin rfl rfl rfl) fun a hF=>q_s hF rfl fun a hF=>q_end (n_sq ?_)))
      obtain ⟨plan_21,hj6,hj4⟩:=bindS hj4
      refine q_join (fun a w=>∃ (q22 : Piece),∃ (s22 : Sl),Fr a 72 [(6,(pP b2 0)),(8,s6.v),(9,s7.v),(10,(iV t_5.2.2.1)),(11,(iV t_5.2.2.2.1)),(12,(pP b14 0))]∧St [] w0 w m12 [q22,[⟨b14,[s22.v,(iV plan_21.Added),(iV plan_21.Value)],27⟩],[⟨b2,[nilS.v,(iV 0),(iV 0)],27⟩]]∧OwnD m12 48 3 q22 s22 plan_21.Pattern) ?_ ?_
      ·rcases bcase (t_16.1 == 2) with hc7 | hc7
       ·have hj6:=cond_f hc7 hj6
        refine q_cond_f hF rfl hc7 (q_skipc (n_jn ?_))
        obtain rfl:=someI hj6
        exact ⟨q13,s13,hF.sub ⟨rfl,rfl,rfl,rfl,rfl,rfl,trivial⟩,hS.sel [2,1,3] (by decide),h13⟩
       ·have hj6:=cond_t hc7 hj6
        refine q_cond_t hF rfl hc7 (q_region (q_m hF rfl fun a hF=>?_))
        obtain ⟨t_18,ht_18,hj6⟩:=bindS hj6
        refine q_call (vs:=[s7.v]) hF hS Tryz.func37 (by kernel_rfl) rfl rfl rfl (c_spec_tOwn t_5.2.1 t_18 ht_18 _ m12 hS.vis s7 (h10.mono hm12.le)) ?_
        rintro a w _ ⟨q20,s20,rfl,hR19,h20⟩ hF hS2
        have hS : St _ _ _ _ [q20,[⟨b3,[s1.v,(iV t_16.2.at_),(.int .u64 t_16.2.seed.v)],41⟩],[⟨b14,[s13.v,(iV t_11.1.Added),(iV t_11.1.Value)],27⟩],q13,[⟨b2,[nilS.v,(iV 0),(iV 0)],27⟩]]:=hS.joinF hR19
        refine q_y (v:=(pP b14 0)) hF hS (ex_fieldAddr U27 rfl sz23 rfl rfl) fun a hF=>q_store (vs:=[s20.v]) (cs':=[s20.v,(iV t_11.1.Added),(iV t_11.1.Value)]) 2 0 hF hS sz23 rfl rfl rfl rfl rfl rfl rfl rfl fun a w hF hS=>q_end (n_jn ?_)
        obtain rfl:=someI hj6
        exact ⟨q20,s20,hF.sub ⟨rfl,rfl,rfl,rfl,rfl,rfl,trivial⟩,hS.mask [true,false,true,false,true],h20⟩
      ·rintro a w ⟨q22,s22,hF,hS,h22⟩
       refine n_jn ?_
       obtain rfl:=someI hj4
       exact ⟨q22,s22,hF.sub ⟨rfl,rfl,rfl,rfl,rfl,rfl,trivial⟩,hS,h22⟩
     ·have hj4:=cond_t hc5 hj4
      refine q_cond_t hF rfl hc5 (q_region (q_y (v:=(pP b14 1)) hF hS (ex_fieldAddr U27 rfl sz3 rfl rfl) fun a hF=>q_y (v:=(iV t_11.1.Added)) hF hS (ex_load1 1 0 U3 rfl rfl rfl rfl) fun a hF=>q_y (v:=(iV (w64 (t_11.1.Added + 1)))) hF hS (ex_ibin rfl rfl rfl) fun a hF=>q_y (v:=(pP b14 1)) hF hS (ex_fieldAddr U27 rfl sz3 rfl rfl) fun a hF=>q_store (vs:=[(iV (w64 (t_11.1.Added + 1)))]) (cs':=[s13.v,(iV (w64 (t_11.1.Added + 1))),(iV t_11.1.Value)]) 1 0 hF hS sz3 rfl rfl rfl rfl rfl rfl rfl rfl fun a w hF hS=>q_end (n_jn ?_)))
      obtain rfl:=someI hj4
      exact ⟨q13,s13,hF.sub ⟨rfl,rfl,rfl,rfl,rfl,rfl,trivial⟩,hS.sel [2,1,3] (by decide),h13⟩
    ·rintro a w ⟨q24,s24,hF,hS,h24⟩
     refine n_jn ?_
     obtain rfl:=someI hj2
     exact ⟨q24,s24,hF.sub ⟨rfl,rfl,rfl,rfl,rfl,rfl,trivial⟩,hS,h24⟩
   ·have hj2:=cond_t hc3 hj2
    refine q_cond_t hF rfl hc3 (e_region ⟨[12],[b14],m12⟩ mixed fun w' hw'=>?_)
    have hS:=hS.below hw'
    refine e_P (v:=(pP b14 0)) 0 hF rfl (ex_fieldAddr U27 rfl sz23 rfl rfl) fun a hF=>e_xb (v:=s13.v) 1 1 hF hS (.head _) rfl rfl (ex_load1 0 0 U23 rfl rfl rfl rfl) rfl rfl (by kernel_rfl) (by kernel_rfl) (by kernel_rfl) fun a hF=>?_
    obtain ⟨e_18,he_18,hj2⟩:=bindS hj2
    obtain ⟨s19,hV19⟩:=h13.view he_18
    refine e_P (v:=(elP s13 ((0 : Int).toNat * 1))) 2 hF rfl (ex_indexAddr U23 sz48 rfl rfl (h13.idx he_18)) fun a hF=>e_X (v:=s19.v) 3 hF hS rfl (ex_loadE1 0 U48 rfl rfl ((hV19.atH he_18).at 2 rfl) rfl rfl) fun a hF=>e_P (v:=(pP b14 0)) 4 hF rfl (ex_fieldAddr U27 rfl sz23 rfl rfl) fun a hF=>e_xb (v:=s13.v) 5 1 hF hS (.head _) rfl rfl (ex_load1 0 0 U23 rfl rfl rfl rfl) rfl rfl (by kernel_rfl) (by kernel_rfl) (by kernel_rfl) fun a hF=>?_
    obtain ⟨e_20,he_20,hj2⟩:=bindS hj2
    obtain ⟨s21,hV21⟩:=h13.view he_20
    refine e_P (v:=(elP s13 ((0 : Int).toNat * 1))) 6 hF rfl (ex_indexAddr U23 sz48 rfl rfl (h13.idx he_20)) fun a hF=>e_X (v:=s21.v) 7 hF hS rfl (ex_loadE1 0 U48 rfl rfl ((hV21.atH he_20).at 2 rfl) rfl rfl) fun a hF=>?_
    obtain ⟨e_22,he_22,hj2⟩:=bindS hj2
    obtain ⟨vs23,at23,d23⟩:=hV21.at he_20 he_22 1 rfl
    obtain rfl : vs23 = [(iV e_22)]:=d23
    refine e_P (v:=(elP s21 ((0 : Int).toNat * 1))) 8 hF rfl (ex_indexAddr U48 sz3 rfl rfl (hV21.idx he_20 he_22)) fun a hF=>e_X (v:=(iV e_22)) 9 hF hS rfl (ex_loadE1 0 U3 rfl rfl (at23.at 2 rfl) rfl rfl) fun a hF=>e_P (v:=(iV (w64 (1 - e_22)))) 10 hF rfl (ex_ibin rfl rfl rfl) fun a hF=>?_
    obtain ⟨e_24,he_24,hj2⟩:=bindS hj2
    obtain ⟨vs25,at25,d25⟩:=hV19.at he_18 he_24 1 rfl
    obtain rfl : vs25 = [(iV e_24)]:=d25
    refine e_P (v:=(elP s19 ((0 : Int).toNat * 1))) 11 hF rfl (ex_indexAddr U48 sz3 rfl rfl (hV19.idx he_18 he_24)) fun a hF=>e_one 12 (by kernel_rfl) ?_
    have hS : St _ _ _ _ [q13,[⟨b3,[s1.v,(iV t_16.2.at_),(.int .u64 t_16.2.seed.v)],41⟩],[⟨b14,[s13.v,(iV t_11.1.Added),(iV t_11.1.Value)],27⟩],[⟨b2,[nilS.v,(iV 0),(iV 0)],27⟩]]:=hS.sel [2,0,1,3] (by decide)
    have hSo:=hS
    refine e_opl rfl rfl rfl fun _ hK=>wp_storeV (e':=(w64 (1 - e_22))) (us:=[(iV (w64 (1 - e_22)))]) (vs:=[(iV e_24)]) 0 hF hS hV19 he_18 sz3 rfl rfl rfl rfl rfl rfl rfl he_24 at25 rfl rfl rfl fun w q26 hS h26=>hK _ _ (⟨⟨kpC hSo hS 2 2 rfl rfl kpN,fun _=>hS.vis.of_le (Mem.le.refl _)⟩,?_⟩)
    refine e_end (by kernel_rfl) (n_jn ?_) _
    obtain rfl:=someI hj2
    exact ⟨q26,s13,hF.sub ⟨rfl,rfl,rfl,rfl,rfl,rfl,trivial⟩,hS.mask [true,false,true,true],h26.own⟩
  ·rintro a w ⟨q28,s28,hF,hS,h28⟩
   refine n_ib (n_sq ?_)
   refine q_seq (e_region ⟨[9],[b14],m12⟩ mixed fun w' hw'=>?_)
   have hS:=hS.below hw'
   refine e_P (v:=s6.v) 0 hF rfl (ex_move rfl) fun a hF=>e_P (v:=s7.v) 1 hF rfl (ex_move rfl) fun a hF=>e_P (v:=(iV t_5.2.2.1)) 2 hF rfl (ex_move rfl) fun a hF=>e_P (v:=(iV t_5.2.2.2.1)) 3 hF rfl (ex_move rfl) fun a hF=>e_xb (v:=(.agg #[s28.v,(iV plan_27.Added),(iV plan_27.Value)])) 4 1 hF hS (.head _) rfl rfl (ex_loadA (vs:=[s28.v,(iV plan_27.Added),(iV plan_27.Value)]) 0 0 U27 rfl sz27 rfl rfl rfl rfl) rfl rfl (by kernel_rfl) (by kernel_rfl) (by kernel_rfl) fun a hF=>e_P (v:=s6.v) 5 hF rfl (ex_assign rfl) fun a hF=>e_P (v:=s7.v) 6 hF rfl (ex_assign rfl) fun a hF=>e_P (v:=(iV t_5.2.2.1)) 7 hF rfl (ex_assign rfl) fun a hF=>e_P (v:=(iV t_5.2.2.2.1)) 8 hF rfl (ex_assign rfl) fun a hF=>e_one 9 (by kernel_rfl) ?_
   have hSo:=hS
   refine e_store (vs:=[s28.v,(iV plan_27.Added),(iV plan_27.Value)]) (cs':=[s28.v,(iV plan_27.Added),(iV plan_27.Value)]) 2 0 hF hS rfl rfl sz27 rfl rfl rfl rfl rfl rfl rfl rfl fun a w hF hS=>⟨⟨kpC hSo hS 1 1 rfl rfl kpN,fun _=>hS.vis.of_le (Mem.le.refl _)⟩,?_⟩
   refine e_end (by kernel_rfl) (n_sq (q_ret ?_)) _
   obtain rfl:=someI hr
   obtain ⟨m29,hm29,hS,hz29⟩:=hS.freeze
   have h29:=h28.froz hm29.le hz29
   exact ret_of hF hS rfl (.tmp rfl (.tmp rfl (.tmp rfl (.tmp rfl (.cellA (us:=[s28.v,(iV plan_27.Added),(iV plan_27.Value)]) 1 0 U27 rfl sz27 rfl rfl rfl rfl .nil))))) ⟨m29,s6,s7,s28,rfl,(((hm9.trans hm10).trans hm12).trans hm29),hS.sel [] (by decide),(((h9.mono hm10.le).mono hm12.le).mono hm29.le),((h10.mono hm12.le).mono hm29.le),h29⟩
 ·have hr:=cond_t hc1 hr
  refine q_cond_t hF rfl hc1 (q_sr (q_m hF rfl fun a hF=>q_m hF rfl fun a hF=>q_m hF rfl fun a hF=>q_m hF rfl fun a hF=>q_m hF rfl fun a hF=>q_y (v:=(.agg #[s7.v,(iV 0),(iV 0)])) hF hS (ex_build (cells:=[s7.v,(iV 0),(iV 0)]) rfl (by kernel_rfl)) fun a hF=>q_s hF rfl fun a hF=>q_s hF rfl fun a hF=>q_s hF rfl fun a hF=>q_s hF rfl fun a hF=>q_store (vs:=[s7.v,(iV 0),(iV 0)]) (cs':=[s7.v,(iV 0),(iV 0)]) 3 0 hF hS sz27 rfl rfl rfl rfl rfl rfl rfl rfl fun a w hF hS=>q_end (n_sq (q_ret (r_sq ?_)))))
  obtain rfl:=someI hr
  exact ret_of hF hS rfl (.tmp rfl (.tmp rfl (.tmp rfl (.tmp rfl (.cellA (us:=[s7.v,(iV 0),(iV 0)]) 3 0 U27 rfl sz27 rfl rfl rfl rfl .nil))))) ⟨m12,s6,s7,s7,rfl,((hm9.trans hm10).trans hm12),hS.sel [] (by decide),((h9.mono hm10.le).mono hm12.le),(h10.mono hm12.le),(h10.mono hm12.le)⟩

theorem c_impl_covers (p_p : List (List Int)) (p_primary : List (List Int)) (r : Bool) (hr : impl_covers p_p p_primary = some r) (w0 : World) (m : Mem) (hv : Vis m w0) (s1 : Sl) (h1 : Rd m s1 p_p) (s2 : Sl) (h2 : Rd m s2 p_primary) :
  Ret Tryz.prog 39 [s1.v,s2.v] w0 (fun v _=>v = (.bool r)):=by
 unfold impl_covers at hr
 refine ret_start Tryz.func39 rfl 27 rfl rfl m hv fun a hF hS=>q_sr (q_s hF rfl fun a hF=>q_end (n_sq (q_seq (q_sr (q_m hF rfl fun a hF=>?_)))))
 obtain ⟨t_3,ht_3,hr⟩:=bindS hr
 refine q_call (vs:=[s2.v]) hF hS Tryz.func40 (by kernel_rfl) rfl rfl rfl (c_impl_positions p_primary t_3 ht_3 _ m hS.vis s2 h2) ?_
 have hT:=hS
 rintro a w _ ⟨m4,q5,s5,rfl,hm4,hR4,h5⟩ hF hS2
 have hS : St _ _ _ _ [q5]:=hS.join hR4 hm4
 have hm4:=MLe.weakX (O0:=[]) hT hm4
 refine q_y (v:=(iV (goLen t_3))) hF hS (ex_len U23 rfl h5.len) fun a hF=>q_m hF rfl fun a hF=>q_end (n_sq (q_block ?_))
 obtain ⟨o1,hl1,hr⟩:=bindS hr
 refine q_loop (fun (t_6 : Int) a w=>Fr a 27 [(0,s1.v),(8,s5.v),(9,(iV (goLen t_3))),(10,(iV t_6))]∧St [] w0 w m4 [q5]) (fun (o : (Unit) ⊕ (Bool)) e a w=>o = .inl ()∧e = .exit 0∧Fr a 27 []∧St [] w0 w m4 []) hl1 ⟨hF.sub ⟨rfl,rfl,rfl,rfl,trivial⟩,hS⟩ ?_ ?_
 ·clear hF hS
  rintro t_6 a w st ⟨hF,hS⟩ hb1
  unfold impl_covers_l1 at hb1
  refine q_sr (q_y (v:=(.bool (decide (t_6 < (goLen t_3))))) hF hS (ex_ibin rfl rfl rfl) fun a hF=>q_end (n_sq (q_seq ?_)))
  rcases bcase (decide (t_6 < (goLen t_3))) with hc2 | hc2
  ·have hb1:=cond_f hc2 hb1
   refine q_cond_f hF rfl hc2 (q_exit (x_sq ?_))
   obtain rfl:=someI hb1
   exact ⟨nofun,.inl ⟨rfl,rfl,hF.sub trivial,hS.mask [false]⟩⟩
  ·have hb1:=cond_t hc2 hb1
   refine q_cond_t hF rfl hc2 (q_skipc (n_sq (q_seq (q_block (q_seq (q_region ?_))))))
   obtain ⟨e_7,he_7,hb1⟩:=bindS hb1
   obtain ⟨vs8,at8,d8⟩:=h5.at he_7 1 rfl
   obtain ⟨s9,rfl,h9⟩ : ∃ s9 : Sl,vs8 = [s9.v]∧Rd m4 s9 e_7:=d8
   refine q_y (v:=(elP s5 (t_6.toNat * 1))) hF hS (ex_indexAddr U23 sz48 rfl rfl (h5.idx he_7)) fun a hF=>q_y (v:=s9.v) hF hS (ex_loadE1 0 U48 rfl rfl (at8.at 0 rfl) rfl rfl) fun a hF=>q_s hF rfl fun a hF=>q_end (n_sq (q_seq (e_region ⟨[],[],m4⟩ mixed fun w' hw'=>?_)))
   have hS:=hS.below hw'
   refine e_P (v:=s1.v) 0 hF rfl (ex_move rfl) fun a hF=>e_P (v:=s9.v) 1 hF rfl (ex_move rfl) fun a hF=>?_
   obtain ⟨e_10,he_10,hb1⟩:=bindS hb1
   obtain ⟨vs11,at11,d11⟩:=h9.at he_10 1 rfl
   obtain rfl : vs11 = [(iV e_10)]:=d11
   refine e_P (v:=(elP s9 ((0 : Int).toNat * 1))) 2 hF rfl (ex_indexAddr U48 sz3 rfl rfl (h9.idx he_10)) fun a hF=>e_xm (v:=(iV e_10)) 3 hF hS (Mem.le.refl _) rfl (ex_loadE1 0 U3 rfl rfl ((at11).at) rfl rfl) rfl rfl (by kernel_rfl) (by kernel_rfl) (by kernel_rfl) fun a hF=>?_
   obtain ⟨e_12,he_12,hb1⟩:=bindS hb1
   obtain ⟨vs13,at13,d13⟩:=h1.at he_12 1 rfl
   obtain ⟨s14,rfl,h14⟩ : ∃ s14 : Sl,vs13 = [s14.v]∧Rd m s14 e_12:=d13
   refine e_P (v:=(elP s1 (e_10.toNat * 1))) 4 hF rfl (ex_indexAddr U23 sz48 rfl rfl ((h1.mono hm4.le).idx he_12)) fun a hF=>e_xm (v:=s14.v) 5 hF hS (Mem.le.refl _) rfl (ex_loadE1 0 U48 rfl rfl (((at13.mono hm4.le)).at) rfl rfl) rfl rfl (by kernel_rfl) (by kernel_rfl) (by kernel_rfl) fun a hF=>e_P (v:=s9.v) 6 hF rfl (ex_move rfl) fun a hF=>?_
   obtain ⟨e_15,he_15,hb1⟩:=bindS hb1
   obtain ⟨vs16,at16,d16⟩:=h9.at he_15 1 rfl
   obtain rfl : vs16 = [(iV e_15)]:=d16
   refine e_P (v:=(elP s9 ((1 : Int).toNat * 1))) 7 hF rfl (ex_indexAddr U48 sz3 rfl rfl (h9.idx he_15)) fun a hF=>e_xm (v:=(iV e_15)) 8 hF hS (Mem.le.refl _) rfl (ex_loadE1 0 U3 rfl rfl ((at16).at) rfl rfl) rfl rfl (by kernel_rfl) (by kernel_rfl) (by kernel_rfl) fun a hF=>?_
   obtain ⟨e_17,he_17,hb1⟩:=bindS hb1
   obtain ⟨vs18,at18,d18⟩:=h14.at he_17 1 rfl
   obtain rfl : vs18 = [(iV e_17)]:=d18
   refine e_P (v:=(elP s14 (e_15.toNat * 1))) 9 hF rfl (ex_indexAddr U48 sz3 rfl rfl ((h14.mono hm4.le).idx he_17)) fun a hF=>e_xm (v:=(iV e_17)) 10 hF hS (Mem.le.refl _) rfl (ex_loadE1 0 U3 rfl rfl (((at18.mono hm4.le)).at) rfl rfl) rfl rfl (by kernel_rfl) (by kernel_rfl) (by kernel_rfl) fun a hF=>e_P (v:=(.bool (e_17 == 0))) 11 hF rfl (ex_ibin rfl rfl rfl) fun a hF=>e_end (by kernel_rfl) (n_sq ?_) _
   rcases bcase (e_17 == 0) with hc3 | hc3
   ·have hb1:=cond_f hc3 hb1
    refine q_cond_f hF rfl hc3 (q_skipc (n_ib (n_sq (q_region (q_y (v:=(iV (w64 (t_6 + 1)))) hF hS (ex_ibin rfl rfl rfl) fun a hF=>q_m hF rfl fun a hF=>q_end ?_)))))
    obtain rfl:=someI hb1
    exact ⟨rfl,hF.sub ⟨rfl,rfl,rfl,rfl,trivial⟩,hS⟩
   ·have hb1:=cond_t hc3 hb1
    refine q_cond_t hF rfl hc3 (q_sr (q_s hF rfl fun a hF=>q_end (n_sq (q_ret (r_ib (r_sq ?_))))))
    obtain rfl:=someI hb1
    refine ⟨nofun,.inr fun ho=>?_⟩
    subst ho
    refine r_ib (r_sq ?_)
    obtain rfl:=someI hr
    exact ret_of hF hS rfl (.tmp rfl .nil) rfl
 ·rintro e a w ⟨rfl,rfl,hF,hS⟩
  refine x_ib (n_sq ?_)
  refine q_sr (q_s hF rfl fun a hF=>q_end (n_sq (q_ret ?_)))
  obtain rfl:=someI hr
  exact ret_of hF hS rfl (.tmp rfl .nil) rfl

end Go.Proofs.YtpjcfmpfiadkgaaGreat
