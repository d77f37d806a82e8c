/- The walks of the functions: each returns what its plain function says. -/
import Derived.Test.YtpjcfmpfiadkgaaRWalks2
namespace Go.Proofs.Ytpjcfmpfiadkgaa
open Go.Gx Go.Gx.F Go.RowKit
set_option linter.all false
set_option maxRecDepth 10000


theorem c_impl_fill (p_t : impl_Transport) (r : (List (List Int))) (hr : impl_fill p_t = some r) (w0 : World) (m : Mem) (hv : Vis m w0) (s1 : Sl) (h1 : Rd m s1 p_t.Rows) (s2 : Sl) (h2 : Rd m s2 p_t.Cols) (s3 : Sl) (h3 : Rd m s3 p_t.Lo) (s4 : Sl) (h4 : Rd m s4 p_t.Hi) :
  Ret Try.prog 168 [(.agg #[s1.v,s2.v,s3.v,s4.v])] w0 (fun v w=>∃ (q0' : Piece) (s0' : Sl),v = s0'.v∧St [] w0 w m [q0']∧OwnD m 28 3 q0' s0' r∧NF s0' r):=by
 unfold impl_fill at hr
 refine ret_start Try.func168 rfl 141 rfl rfl m hv fun a hF hS=>q_sr (q_box (cs:=[s1.v,s2.v,s3.v,s4.v]) hF hS rfl rfl rfl fun a w b5 hF hS=>q_s hF rfl fun a hF=>q_end (n_sq (q_seq (e_region ⟨[],[],m⟩ mixed fun w' hw'=>?_))))
 have hS:=hS.below hw'
 refine e_P (v:=(pP b5 0)) 0 hF rfl (ex_fieldAddr U50 rfl sz28 rfl rfl) fun a hF=>e_X (v:=s1.v) 1 hF hS rfl (ex_load1 0 0 U28 rfl rfl rfl rfl) fun a hF=>e_P (v:=(iV (goLen p_t.Rows))) 2 hF rfl (ex_len U28 rfl h1.len) fun a hF=>e_P (v:=(pP b5 1)) 3 hF rfl (ex_fieldAddr U50 rfl sz28 rfl rfl) fun a hF=>e_X (v:=s2.v) 4 hF hS rfl (ex_load1 0 0 U28 rfl rfl rfl rfl) fun a hF=>e_P (v:=(iV (goLen p_t.Cols))) 5 hF rfl (ex_len U28 rfl h2.len) fun a hF=>e_P (v:=(iV (goLen p_t.Rows))) 6 hF rfl (ex_assign rfl) fun a hF=>e_P (v:=(iV (goLen p_t.Cols))) 7 hF rfl (ex_assign rfl) fun a hF=>e_end (by kernel_rfl) (n_sq ?_) _
 refine q_sr (q_y (v:=(.agg #[s1.v,s2.v,s3.v,s4.v])) hF hS (ex_loadA (vs:=[s1.v,s2.v,s3.v,s4.v]) 0 0 U50 rfl sz50 rfl rfl rfl rfl) fun a hF=>q_y (v:=(pP b5 2)) hF hS (ex_fieldAddr U50 rfl sz23 rfl rfl) fun a hF=>q_y (v:=s3.v) hF hS (ex_load1 0 0 U23 rfl rfl rfl rfl) fun a hF=>?_)
 obtain ⟨t_6,ht_6,hr⟩:=bindS hr
 refine q_call (vs:=[(.agg #[s1.v,s2.v,s3.v,s4.v]),s3.v,(iV (-1))]) hF hS Try.func155 (by kernel_rfl) rfl rfl rfl (c_impl_residual p_t p_t.Lo (-1) t_6 ht_6 _ m hS.vis s1 h1 s2 h2 s3 h3 s4 h4 s3 h3) ?_
 rintro a w _ ⟨q8,s8,rfl,hR7,h8⟩ hF hS2
 have hS : St _ _ _ _ [q8,[⟨b5,[s1.v,s2.v,s3.v,s4.v],50⟩]]:=hS.joinF hR7
 refine q_s hF rfl fun a hF=>q_end (n_sq (q_sr (q_m hF rfl fun a hF=>q_m hF rfl fun a hF=>q_y (v:=(iV (w64 ((goLen p_t.Rows) + (goLen p_t.Cols))))) hF hS (ex_ibin rfl rfl rfl) fun a hF=>q_y (v:=(iV (w64 ((w64 ((goLen p_t.Rows) + (goLen p_t.Cols))) + 2)))) hF hS (ex_ibin rfl rfl rfl) fun a hF=>?_)))
 obtain ⟨l_9,hl_9,hr⟩:=bindS hr
 refine q_do rfl fun _ hK=>wp_makeD (Ei:=3) hF hS U23 inf28 rfl rfl rfl (by decide) hl_9 rfl fun a w q10 s10 hF hS h10 _=>hK _ _ (q_s hF rfl fun a hF=>q_end (n_sq (q_seq (q_sr (q_m hF rfl fun a hF=>q_y (v:=(iV (goLen l_9))) hF hS (ex_len U23 rfl h10.len) fun a hF=>q_m hF rfl fun a hF=>q_end (n_sq (q_block ?_)))))))
 obtain ⟨r_27,hl1,hr⟩:=bindS hr
 refine q_loop (fun (s : (List (List Int)) × Int) a w=>∃ (q12 : Piece),∃ r_11,∃ t_13,s = (r_11,t_13)∧Fr a 141 [(1,(pP b5 0)),(3,(iV (goLen p_t.Rows))),(4,(iV (goLen p_t.Cols))),(5,s8.v),(6,s10.v),(30,(iV (goLen l_9))),(31,(iV t_13))]∧St [] w0 w m [q12,q8,[⟨b5,[s1.v,s2.v,s3.v,s4.v],50⟩]]∧OwnD m 28 3 q12 s10 r_11) (fun (r_27 : (List (List Int))) e a w=>∃ (q28 : Piece),e = .exit 0∧Fr a 141 [(1,(pP b5 0)),(3,(iV (goLen p_t.Rows))),(4,(iV (goLen p_t.Cols))),(6,s10.v)]∧St [] w0 w m [q28,[⟨b5,[s1.v,s2.v,s3.v,s4.v],50⟩]]∧OwnD m 28 3 q28 s10 r_27) hl1 ⟨q10,_,_,rfl,hF.sub ⟨rfl,rfl,rfl,rfl,rfl,rfl,rfl,trivial⟩,hS,h10⟩ ?_ ?_
 ·clear hF hS
  rintro s a w st ⟨q12,r_11,t_13,rfl,hF,hS,h12⟩ hb1
  unfold impl_fill_l1 at hb1
  refine q_sr (q_y (v:=(.bool (decide (t_13 < (goLen l_9))))) hF hS (ex_ibin rfl rfl rfl) fun a hF=>q_end (n_sq (q_seq ?_)))
  rcases bcase (decide (t_13 < (goLen l_9))) with hc2 | hc2
  ·have hb1:=cond_f hc2 hb1
   refine q_cond_f hF rfl hc2 (q_exit (x_sq ?_))
   obtain rfl:=someI hb1
   exact ⟨nofun,.inl ⟨q12,rfl,hF.sub ⟨rfl,rfl,rfl,rfl,trivial⟩,hS.mask [true,false,true],h12⟩⟩
  ·have hb1:=cond_t hc2 hb1
   refine q_cond_t hF rfl hc2 (q_skipc (n_sq (q_seq (q_block (q_sr (q_m hF rfl fun a hF=>q_s hF rfl fun a hF=>q_end (n_sq (q_sr (q_m hF rfl fun a hF=>q_m hF rfl fun a hF=>q_m hF rfl fun a hF=>q_m hF rfl fun a hF=>q_y (v:=(iV (w64 ((goLen p_t.Rows) + (goLen p_t.Cols))))) hF hS (ex_ibin rfl rfl rfl) fun a hF=>q_y (v:=(iV (w64 ((w64 ((goLen p_t.Rows) + (goLen p_t.Cols))) + 2)))) hF hS (ex_ibin rfl rfl rfl) fun a hF=>?_)))))))))
   obtain ⟨l_14,hl_14,hb1⟩:=bindS hb1
   refine q_do rfl fun _ hK=>wp_make (z:=(0 : Int)) hF hS U28 inf3 rfl rfl rfl rfl rfl (by decide) hl_14 rfl fun a w q15 s15 hF hS h15 _=>hK _ _ ?_
   obtain ⟨e_16,he_16,hb1⟩:=bindS hb1
   obtain ⟨s17,hV17⟩:=h12.view he_16
   refine q_y (v:=(elP s10 (t_13.toNat * 1))) hF hS (ex_indexAddr U23 sz28 rfl rfl (h12.idx he_16)) fun a hF=>?_
   have hS : St _ _ _ _ [q12,q15,q8,[⟨b5,[s1.v,s2.v,s3.v,s4.v],50⟩]]:=hS.sel [1,0,2,3] (by decide)
   refine q_do rfl fun _ hK=>wp_storeD hF hS h12 h15 sz28 rfl rfl he_16 rfl fun w q18 hS h18=>hK _ _ (q_end (n_sq (q_sr (q_m hF rfl fun a hF=>q_m hF rfl fun a hF=>q_m hF rfl fun a hF=>q_y (v:=(iV (w64 ((goLen p_t.Rows) + (goLen p_t.Cols))))) hF hS (ex_ibin rfl rfl rfl) fun a hF=>q_y (v:=(.bool (decide (t_13 < (w64 ((goLen p_t.Rows) + (goLen p_t.Cols))))))) hF hS (ex_ibin rfl rfl rfl) fun a hF=>q_end (n_sq ?_)))))
   obtain ⟨r_25,hj3,hb1⟩:=bindS hb1
   refine q_join (fun a w=>∃ (q26 : Piece),Fr a 141 [(1,(pP b5 0)),(3,(iV (goLen p_t.Rows))),(4,(iV (goLen p_t.Cols))),(5,s8.v),(6,s10.v),(30,(iV (goLen l_9))),(31,(iV t_13))]∧St [] w0 w m [q8,q26,[⟨b5,[s1.v,s2.v,s3.v,s4.v],50⟩]]∧OwnD m 28 3 q26 s10 r_25) ?_ ?_
   ·rcases bcase (decide (t_13 < (w64 ((goLen p_t.Rows) + (goLen p_t.Cols))))) with hc4 | hc4
    ·have hj3:=cond_f hc4 hj3
     refine q_cond_f hF rfl hc4 (q_skipc (n_jn ?_))
     obtain rfl:=someI hj3
     exact ⟨q18,hF.sub ⟨rfl,rfl,rfl,rfl,rfl,rfl,rfl,trivial⟩,hS.sel [1,0,2] (by decide),h18⟩
    ·have hj3:=cond_t hc4 hj3
     refine q_cond_t hF rfl hc4 (e_region ⟨[8],[],m⟩ mixed fun w' hw'=>?_)
     have hS:=hS.below hw'
     refine e_P (v:=s10.v) 0 hF rfl (ex_move rfl) fun a hF=>e_P (v:=(iV t_13)) 1 hF rfl (ex_move rfl) fun a hF=>?_
     obtain ⟨e_19,he_19,hj3⟩:=bindS hj3
     obtain ⟨s20,hV20⟩:=h18.view he_19
     refine e_P (v:=(elP s10 (t_13.toNat * 1))) 2 hF rfl (ex_indexAddr U23 sz28 rfl rfl (h18.idx he_19)) fun a hF=>e_X (v:=s20.v) 3 hF hS rfl (ex_loadE1 0 U28 rfl rfl ((hV20.atH he_19).at 0 rfl) rfl rfl) fun a hF=>e_P (v:=s8.v) 4 hF rfl (ex_move rfl) fun a hF=>e_P (v:=(iV t_13)) 5 hF rfl (ex_move rfl) fun a hF=>?_
     obtain ⟨e_21,he_21,hj3⟩:=bindS hj3
     obtain ⟨s22,hV22⟩:=h8.view he_21
     refine e_P (v:=(elP s8 (t_13.toNat * 1))) 6 hF rfl (ex_indexAddr U23 sz28 rfl rfl (h8.idx he_21)) fun a hF=>e_X (v:=s22.v) 7 hF hS rfl (ex_loadE1 0 U28 rfl rfl ((hV22.atH he_21).at 1 rfl) rfl rfl) fun a hF=>e_one 8 (by kernel_rfl) ?_
     obtain ⟨l_23,hl_23,hj3⟩:=bindS hj3
     refine e_opl rfl rfl rfl fun _ hK=>wp_copyV hF hS hV20 he_19 U28 sz3 rfl rfl (hV22.vw he_21 hS (j:=1) rfl) hl_23 rfl fun a w q24 hF hS h24=>hK _ _ (⟨⟨kpN,fun _=>hS.vis.of_le (Mem.le.refl _)⟩,?_⟩)
     refine e_end (by kernel_rfl) (n_jn ?_) _
     obtain rfl:=someI hj3
     exact ⟨q24,hF.sub ⟨rfl,rfl,rfl,rfl,rfl,rfl,rfl,trivial⟩,hS.sel [1,0,2] (by decide),h24.own⟩
   ·rintro a w ⟨q26,hF,hS,h26⟩
    refine n_ib (n_sq ?_)
    refine q_region (q_y (v:=(iV (w64 (t_13 + 1)))) hF hS (ex_ibin rfl rfl rfl) fun a hF=>q_m hF rfl fun a hF=>q_end ?_)
    obtain rfl:=someI hb1
    exact ⟨rfl,q26,_,_,rfl,hF.sub ⟨rfl,rfl,rfl,rfl,rfl,rfl,rfl,trivial⟩,hS.sel [1,0,2] (by decide),h26⟩
 ·rintro e a w ⟨q28,rfl,hF,hS,h28⟩
  refine x_ib (n_sq ?_)
  refine q_seq (e_region ⟨[],[],m⟩ mixed fun w' hw'=>?_)
  have hS:=hS.below hw'
  refine e_P (v:=(pP b5 2)) 0 hF rfl (ex_fieldAddr U50 rfl sz23 rfl rfl) fun a hF=>e_X (v:=s3.v) 1 hF hS rfl (ex_load1 1 0 U23 rfl rfl rfl rfl) fun a hF=>e_P (v:=(pP b5 2)) 3 hF rfl (ex_fieldAddr U50 rfl sz23 rfl rfl) fun a hF=>e_X (v:=s3.v) 4 hF hS rfl (ex_load1 1 0 U23 rfl rfl rfl rfl) fun a hF=>e_one 2 (by kernel_rfl) ?_
  obtain ⟨t_35,ht_35,hr⟩:=bindS hr
  refine e_call (vs:=[s3.v]) hF hS rfl Try.func104 (by kernel_rfl) rfl rfl rfl (c_impl_rowSums p_t.Lo t_35 ht_35 _ m hS.vis s3 h3) ?_
  rintro a w _ ⟨q37,s37,rfl,hR36,h37⟩ hF hS2
  have hS : St _ _ _ _ [q37,q28,[⟨b5,[s1.v,s2.v,s3.v,s4.v],50⟩]]:=hS.joinF hR36
  refine e_one 5 (by kernel_rfl) ?_
  obtain ⟨t_38,ht_38,hr⟩:=bindS hr
  refine e_call (vs:=[s3.v]) hF hS rfl Try.func105 (by kernel_rfl) rfl rfl rfl (c_impl_colSums p_t.Lo t_38 ht_38 _ m hS.vis s3 h3) ?_
  rintro a w _ ⟨q40,s40,rfl,hR39,h40⟩ hF hS2
  have hS : St _ _ _ _ [q40,q37,q28,[⟨b5,[s1.v,s2.v,s3.v,s4.v],50⟩]]:=hS.joinF hR39
  refine e_P (v:=s37.v) 6 hF rfl (ex_assign rfl) fun a hF=>e_P (v:=s40.v) 7 hF rfl (ex_assign rfl) fun a hF=>e_end (by kernel_rfl) (n_sq ?_) _
  refine q_seq (q_sr (q_y (v:=(pP b5 0)) hF hS (ex_fieldAddr U50 rfl sz28 rfl rfl) fun a hF=>q_y (v:=s1.v) hF hS (ex_load1 3 0 U28 rfl rfl rfl rfl) fun a hF=>q_y (v:=(iV (goLen p_t.Rows))) hF hS (ex_len U28 rfl h1.len) fun a hF=>q_m hF rfl fun a hF=>q_end (n_sq (q_block ?_))))
  obtain ⟨o5,hl5,hr⟩:=bindS hr
  refine q_loop (fun (s : (List (List Int)) × Int) a w=>∃ (q42 : Piece),∃ r_41,∃ t_43,s = (r_41,t_43)∧Fr a 141 [(1,(pP b5 0)),(3,(iV (goLen p_t.Rows))),(4,(iV (goLen p_t.Cols))),(6,s10.v),(8,s37.v),(9,s40.v),(64,s1.v),(65,(iV (goLen p_t.Rows))),(66,(iV t_43))]∧St [] w0 w m [q42,q40,q37,[⟨b5,[s1.v,s2.v,s3.v,s4.v],50⟩]]∧OwnD m 28 3 q42 s10 r_41) (fun (o : ((List (List Int))) ⊕ ((List (List Int)))) e a w=>∃ (q56 : Piece),∃ r_55,o = .inl r_55∧e = .exit 2∧Fr a 141 [(1,(pP b5 0)),(3,(iV (goLen p_t.Rows))),(4,(iV (goLen p_t.Cols))),(6,s10.v),(9,s40.v)]∧St [] w0 w m [q56,q40,[⟨b5,[s1.v,s2.v,s3.v,s4.v],50⟩]]∧OwnD m 28 3 q56 s10 r_55) hl5 ⟨q28,_,_,rfl,hF.sub ⟨rfl,rfl,rfl,rfl,rfl,rfl,rfl,rfl,rfl,trivial⟩,hS.sel [2,0,1,3] (by decide),h28⟩ ?_ ?_
  ·clear hF hS
   rintro s a w st ⟨q42,r_41,t_43,rfl,hF,hS,h42⟩ hb5
   unfold impl_fill_l2 at hb5
   refine q_sr (q_y (v:=(.bool (decide (t_43 < (goLen p_t.Rows))))) hF hS (ex_ibin rfl rfl rfl) fun a hF=>q_end (n_sq (q_seq ?_)))
   rcases bcase (decide (t_43 < (goLen p_t.Rows))) with hc6 | hc6
   ·have hb5:=cond_f hc6 hb5
    refine q_cond_f hF rfl hc6 (q_exit (x_sq ?_))
    obtain rfl:=someI hb5
    exact ⟨nofun,.inl ⟨q42,_,rfl,rfl,hF.sub ⟨rfl,rfl,rfl,rfl,rfl,trivial⟩,hS.mask [true,true,false,true],h42⟩⟩
   ·have hb5:=cond_t hc6 hb5
    refine q_cond_t hF rfl hc6 (q_skipc (n_sq (q_seq (q_block (q_sr (q_m hF rfl fun a hF=>?_))))))
    obtain ⟨e_44,he_44,hb5⟩:=bindS hb5
    obtain ⟨vs45,at45,d45⟩:=h1.at he_44 1 rfl
    obtain rfl : vs45 = [(iV e_44)]:=d45
    refine q_y (v:=(elP s1 (t_43.toNat * 1))) hF hS (ex_indexAddr U28 sz3 rfl rfl (h1.idx he_44)) fun a hF=>q_y (v:=(iV e_44)) hF hS (ex_loadE1 0 U3 rfl rfl ((at45).at) rfl rfl) fun a hF=>q_s hF rfl fun a hF=>q_s hF rfl fun a hF=>q_end (n_sq (q_seq (q_sr (q_m hF rfl fun a hF=>q_m hF rfl fun a hF=>q_m hF rfl fun a hF=>?_))))
    obtain ⟨e_46,he_46,hb5⟩:=bindS hb5
    obtain ⟨vs47,at47,d47⟩:=h37.at he_46 1 rfl
    obtain rfl : vs47 = [(iV e_46)]:=d47
    refine q_y (v:=(elP s37 (t_43.toNat * 1))) hF hS (ex_indexAddr U28 sz3 rfl rfl (h37.idx he_46)) fun a hF=>q_y (v:=(iV e_46)) hF hS (ex_loadE1 0 U3 rfl rfl (at47.at 2 rfl) rfl rfl) fun a hF=>q_y (v:=(.bool (decide (e_44 < e_46)))) hF hS (ex_ibin rfl rfl rfl) fun a hF=>q_end (n_sq ?_)
    rcases bcase (decide (e_44 < e_46)) with hc7 | hc7
    ·have hb5:=cond_f hc7 hb5
     refine q_cond_f hF rfl hc7 (q_skipc (n_sq (e_region ⟨[14],[],m⟩ mixed fun w' hw'=>?_)))
     have hS:=hS.below hw'
     refine e_P (v:=s10.v) 0 hF rfl (ex_move rfl) fun a hF=>e_P (v:=(iV (goLen p_t.Rows))) 1 hF rfl (ex_move rfl) fun a hF=>e_P (v:=(iV (goLen p_t.Cols))) 2 hF rfl (ex_move rfl) fun a hF=>e_P (v:=(iV (w64 ((goLen p_t.Rows) + (goLen p_t.Cols))))) 3 hF rfl (ex_ibin rfl rfl rfl) fun a hF=>?_
     obtain ⟨e_48,he_48,hb5⟩:=bindS hb5
     obtain ⟨s49,hV49⟩:=h42.view he_48
     refine e_P (v:=(elP s10 ((w64 ((goLen p_t.Rows) + (goLen p_t.Cols))).toNat * 1))) 4 hF rfl (ex_indexAddr U23 sz28 rfl rfl (h42.idx he_48)) fun a hF=>e_X (v:=s49.v) 5 hF hS rfl (ex_loadE1 0 U28 rfl rfl ((hV49.atH he_48).at 0 rfl) rfl rfl) fun a hF=>e_P (v:=(iV t_43)) 6 hF rfl (ex_move rfl) fun a hF=>e_P (v:=(iV e_44)) 7 hF rfl (ex_move rfl) fun a hF=>e_P (v:=s37.v) 8 hF rfl (ex_move rfl) fun a hF=>e_P (v:=(iV t_43)) 9 hF rfl (ex_move rfl) fun a hF=>?_
     obtain ⟨e_50,he_50,hb5⟩:=bindS hb5
     obtain ⟨vs51,at51,d51⟩:=h37.at he_50 1 rfl
     obtain rfl : vs51 = [(iV e_50)]:=d51
     refine e_P (v:=(elP s37 (t_43.toNat * 1))) 10 hF rfl (ex_indexAddr U28 sz3 rfl rfl (h37.idx he_50)) fun a hF=>e_X (v:=(iV e_50)) 11 hF hS rfl (ex_loadE1 0 U3 rfl rfl (at51.at 2 rfl) rfl rfl) fun a hF=>e_P (v:=(iV (w64 (e_44 - e_50)))) 12 hF rfl (ex_ibin rfl rfl rfl) fun a hF=>?_
     obtain ⟨e_52,he_52,hb5⟩:=bindS hb5
     obtain ⟨vs53,at53,d53⟩:=hV49.at he_48 he_52 1 rfl
     obtain rfl : vs53 = [(iV e_52)]:=d53
     refine e_P (v:=(elP s49 (t_43.toNat * 1))) 13 hF rfl (ex_indexAddr U28 sz3 rfl rfl (hV49.idx he_48 he_52)) fun a hF=>e_one 14 (by kernel_rfl) (e_opl rfl rfl rfl fun _ hK=>wp_storeV (e':=(w64 (e_44 - e_50))) (us:=[(iV (w64 (e_44 - e_50)))]) (vs:=[(iV e_52)]) 0 hF hS hV49 he_48 sz3 rfl rfl rfl rfl rfl rfl rfl he_52 at53 rfl rfl rfl fun w q54 hS h54=>hK _ _ (⟨⟨kpN,fun _=>hS.vis.of_le (Mem.le.refl _)⟩,?_⟩))
     refine e_end (by kernel_rfl) (n_ib (n_sq ?_)) _
     refine q_region (q_y (v:=(iV (w64 (t_43 + 1)))) hF hS (ex_ibin rfl rfl rfl) fun a hF=>q_m hF rfl fun a hF=>q_end ?_)
     obtain rfl:=someI hb5
     exact ⟨rfl,q54,_,_,rfl,hF.sub ⟨rfl,rfl,rfl,rfl,rfl,rfl,rfl,rfl,rfl,trivial⟩,hS,h54.own⟩
    ·have hb5:=cond_t hc7 hb5
     refine q_cond_t hF rfl hc7 (q_sr (q_s hF rfl fun a hF=>q_end (n_sq (q_ret (r_sq (r_ib (r_sq ?_)))))))
     obtain rfl:=someI hb5
     refine ⟨nofun,.inr fun ho=>?_⟩
     subst ho
     refine r_ib (r_sq ?_)
     obtain rfl:=someI hr
     exact ret_of hF hS rfl (.tmp rfl .nil) ⟨[],nilS,rfl,hS.sel [4] (by decide),(OwnD.nil (β:=Int) m 28 3),(NF.nil)⟩
  ·rintro e a w ⟨q56,r_55,rfl,rfl,hF,hS,h56⟩
   refine x_ib (n_sq ?_)
   refine q_seq (q_sr (q_y (v:=(pP b5 1)) hF hS (ex_fieldAddr U50 rfl sz28 rfl rfl) fun a hF=>q_y (v:=s2.v) hF hS (ex_load1 2 0 U28 rfl rfl rfl rfl) fun a hF=>q_y (v:=(iV (goLen p_t.Cols))) hF hS (ex_len U28 rfl h2.len) fun a hF=>q_m hF rfl fun a hF=>q_end (n_sq (q_block ?_))))
   obtain ⟨o8,hl8,hr⟩:=bindS hr
   refine q_loop (fun (s : (List (List Int)) × Int) a w=>∃ (q58 : Piece),∃ r_57,∃ t_59,s = (r_57,t_59)∧Fr a 141 [(1,(pP b5 0)),(3,(iV (goLen p_t.Rows))),(4,(iV (goLen p_t.Cols))),(6,s10.v),(9,s40.v),(93,s2.v),(94,(iV (goLen p_t.Cols))),(95,(iV t_59))]∧St [] w0 w m [q58,q40,[⟨b5,[s1.v,s2.v,s3.v,s4.v],50⟩]]∧OwnD m 28 3 q58 s10 r_57) (fun (o : ((List (List Int))) ⊕ ((List (List Int)))) e a w=>∃ (q72 : Piece),∃ r_71,o = .inl r_71∧e = .exit 4∧Fr a 141 [(1,(pP b5 0)),(3,(iV (goLen p_t.Rows))),(4,(iV (goLen p_t.Cols))),(6,s10.v)]∧St [] w0 w m [q72,[⟨b5,[s1.v,s2.v,s3.v,s4.v],50⟩]]∧OwnD m 28 3 q72 s10 r_71) hl8 ⟨q56,_,_,rfl,hF.sub ⟨rfl,rfl,rfl,rfl,rfl,rfl,rfl,rfl,trivial⟩,hS,h56⟩ ?_ ?_
   ·clear hF hS
    rintro s a w st ⟨q58,r_57,t_59,rfl,hF,hS,h58⟩ hb8
    unfold impl_fill_l3 at hb8
    refine q_sr (q_y (v:=(.bool (decide (t_59 < (goLen p_t.Cols))))) hF hS (ex_ibin rfl rfl rfl) fun a hF=>q_end (n_sq (q_seq ?_)))
    rcases bcase (decide (t_59 < (goLen p_t.Cols))) with hc9 | hc9
    ·have hb8:=cond_f hc9 hb8
     refine q_cond_f hF rfl hc9 (q_exit (x_sq ?_))
     obtain rfl:=someI hb8
     exact ⟨nofun,.inl ⟨q58,_,rfl,rfl,hF.sub ⟨rfl,rfl,rfl,rfl,trivial⟩,hS.mask [true,false,true],h58⟩⟩
    ·have hb8:=cond_t hc9 hb8
     refine q_cond_t hF rfl hc9 (q_skipc (n_sq (q_seq (q_block (q_sr (q_m hF rfl fun a hF=>?_))))))
     obtain ⟨e_60,he_60,hb8⟩:=bindS hb8
     obtain ⟨vs61,at61,d61⟩:=h2.at he_60 1 rfl
     obtain rfl : vs61 = [(iV e_60)]:=d61
     refine q_y (v:=(elP s2 (t_59.toNat * 1))) hF hS (ex_indexAddr U28 sz3 rfl rfl (h2.idx he_60)) fun a hF=>q_y (v:=(iV e_60)) hF hS (ex_loadE1 0 U3 rfl rfl ((at61).at) rfl rfl) fun a hF=>q_s hF rfl fun a hF=>q_s hF rfl fun a hF=>q_end (n_sq (q_seq (q_sr (q_m hF rfl fun a hF=>q_m hF rfl fun a hF=>q_m hF rfl fun a hF=>?_))))
     obtain ⟨e_62,he_62,hb8⟩:=bindS hb8
     obtain ⟨vs63,at63,d63⟩:=h40.at he_62 1 rfl
     obtain rfl : vs63 = [(iV e_62)]:=d63
     refine q_y (v:=(elP s40 (t_59.toNat * 1))) hF hS (ex_indexAddr U28 sz3 rfl rfl (h40.idx he_62)) fun a hF=>q_y (v:=(iV e_62)) hF hS (ex_loadE1 0 U3 rfl rfl (at63.at 1 rfl) rfl rfl) fun a hF=>q_y (v:=(.bool (decide (e_60 < e_62)))) hF hS (ex_ibin rfl rfl rfl) fun a hF=>q_end (n_sq ?_)
     rcases bcase (decide (e_60 < e_62)) with hc10 | hc10
     ·have hb8:=cond_f hc10 hb8
      refine q_cond_f hF rfl hc10 (q_skipc (n_sq (e_region ⟨[17],[],m⟩ mixed fun w' hw'=>?_)))
      have hS:=hS.below hw'
      refine e_P (v:=s10.v) 0 hF rfl (ex_move rfl) fun a hF=>e_P (v:=(iV (goLen p_t.Rows))) 1 hF rfl (ex_move rfl) fun a hF=>e_P (v:=(iV t_59)) 2 hF rfl (ex_move rfl) fun a hF=>e_P (v:=(iV (w64 ((goLen p_t.Rows) + t_59)))) 3 hF rfl (ex_ibin rfl rfl rfl) fun a hF=>?_
      obtain ⟨e_64,he_64,hb8⟩:=bindS hb8
      obtain ⟨s65,hV65⟩:=h58.view he_64
      refine e_P (v:=(elP s10 ((w64 ((goLen p_t.Rows) + t_59)).toNat * 1))) 4 hF rfl (ex_indexAddr U23 sz28 rfl rfl (h58.idx he_64)) fun a hF=>e_X (v:=s65.v) 5 hF hS rfl (ex_loadE1 0 U28 rfl rfl ((hV65.atH he_64).at 0 rfl) rfl rfl) fun a hF=>e_P (v:=(iV (goLen p_t.Rows))) 6 hF rfl (ex_move rfl) fun a hF=>e_P (v:=(iV (goLen p_t.Cols))) 7 hF rfl (ex_move rfl) fun a hF=>e_P (v:=(iV (w64 ((goLen p_t.Rows) + (goLen p_t.Cols))))) 8 hF rfl (ex_ibin rfl rfl rfl) fun a hF=>e_P (v:=(iV (w64 ((w64 ((goLen p_t.Rows) + (goLen p_t.Cols))) + 1)))) 9 hF rfl (ex_ibin rfl rfl rfl) fun a hF=>e_P (v:=(iV e_60)) 10 hF rfl (ex_move rfl) fun a hF=>e_P (v:=s40.v) 11 hF rfl (ex_move rfl) fun a hF=>e_P (v:=(iV t_59)) 12 hF rfl (ex_move rfl) fun a hF=>?_
      obtain ⟨e_66,he_66,hb8⟩:=bindS hb8
      obtain ⟨vs67,at67,d67⟩:=h40.at he_66 1 rfl
      obtain rfl : vs67 = [(iV e_66)]:=d67
      refine e_P (v:=(elP s40 (t_59.toNat * 1))) 13 hF rfl (ex_indexAddr U28 sz3 rfl rfl (h40.idx he_66)) fun a hF=>e_X (v:=(iV e_66)) 14 hF hS rfl (ex_loadE1 0 U3 rfl rfl (at67.at 1 rfl) rfl rfl) fun a hF=>e_P (v:=(iV (w64 (e_60 - e_66)))) 15 hF rfl (ex_ibin rfl rfl rfl) fun a hF=>?_
      obtain ⟨e_68,he_68,hb8⟩:=bindS hb8
      obtain ⟨vs69,at69,d69⟩:=hV65.at he_64 he_68 1 rfl
      obtain rfl : vs69 = [(iV e_68)]:=d69
      refine e_P (v:=(elP s65 ((w64 ((w64 ((goLen p_t.Rows) + (goLen p_t.Cols))) + 1)).toNat * 1))) 16 hF rfl (ex_indexAddr U28 sz3 rfl rfl (hV65.idx he_64 he_68)) fun a hF=>e_one 17 (by kernel_rfl) (e_opl rfl rfl rfl fun _ hK=>wp_storeV (e':=(w64 (e_60 - e_66))) (us:=[(iV (w64 (e_60 - e_66)))]) (vs:=[(iV e_68)]) 0 hF hS hV65 he_64 sz3 rfl rfl rfl rfl rfl rfl rfl he_68 at69 rfl rfl rfl fun w q70 hS h70=>hK _ _ (⟨⟨kpN,fun _=>hS.vis.of_le (Mem.le.refl _)⟩,?_⟩))
      refine e_end (by kernel_rfl) (n_ib (n_sq ?_)) _
      refine q_region (q_y (v:=(iV (w64 (t_59 + 1)))) hF hS (ex_ibin rfl rfl rfl) fun a hF=>q_m hF rfl fun a hF=>q_end ?_)
      obtain rfl:=someI hb8
      exact ⟨rfl,q70,_,_,rfl,hF.sub ⟨rfl,rfl,rfl,rfl,rfl,rfl,rfl,rfl,trivial⟩,hS,h70.own⟩
     ·have hb8:=cond_t hc10 hb8
      refine q_cond_t hF rfl hc10 (q_sr (q_s hF rfl fun a hF=>q_end (n_sq (q_ret (r_sq (r_ib (r_sq ?_)))))))
      obtain rfl:=someI hb8
      refine ⟨nofun,.inr fun ho=>?_⟩
      subst ho
      refine r_ib (r_sq ?_)
      obtain rfl:=someI hr
      exact ret_of hF hS rfl (.tmp rfl .nil) ⟨[],nilS,rfl,hS.sel [3] (by decide),(OwnD.nil (β:=Int) m 28 3),(NF.nil)⟩
   ·rintro e a w ⟨q72,r_71,rfl,rfl,hF,hS,h72⟩
    refine x_ib (n_sq ?_)
    refine q_sr (q_m hF rfl fun a hF=>q_m hF rfl fun a hF=>q_m hF rfl fun a hF=>q_y (v:=(iV (w64 ((goLen p_t.Rows) + (goLen p_t.Cols))))) hF hS (ex_ibin rfl rfl rfl) fun a hF=>q_m hF rfl fun a hF=>q_m hF rfl fun a hF=>q_y (v:=(iV (w64 ((goLen p_t.Rows) + (goLen p_t.Cols))))) hF hS (ex_ibin rfl rfl rfl) fun a hF=>q_y (v:=(iV (w64 ((w64 ((goLen p_t.Rows) + (goLen p_t.Cols))) + 1)))) hF hS (ex_ibin rfl rfl rfl) fun a hF=>q_y (v:=(pP b5 0)) hF hS (ex_fieldAddr U50 rfl sz28 rfl rfl) fun a hF=>q_y (v:=s1.v) hF hS (ex_load1 1 0 U28 rfl rfl rfl rfl) fun a hF=>?_)
    obtain ⟨t_73,ht_73,hr⟩:=bindS hr
    refine q_call (vs:=[s1.v]) hF hS Try.func80 (by kernel_rfl) rfl rfl rfl (c_impl_total p_t.Rows t_73 ht_73 _ m hS.vis s1 h1) ?_
    rintro a w _ rfl hF hS
    have hS74 : St _ _ _ _ ([q72]++[[⟨b5,[s1.v,s2.v,s3.v,s4.v],50⟩]]):=hS
    have hE74:=hS74.enter
    obtain ⟨t_75,ht_75,hr⟩:=bindS hr
    refine q_do rfl fun _ hK=>wp_callX (vs:=[s10.v,(iV (w64 ((goLen p_t.Rows) + (goLen p_t.Cols)))),(iV (w64 ((w64 ((goLen p_t.Rows) + (goLen p_t.Cols))) + 1))),(iV t_73)]) hF Try.func156 (by kernel_rfl) rfl rfl rfl (c_impl_push r_71 (w64 ((goLen p_t.Rows) + (goLen p_t.Cols))) (w64 ((w64 ((goLen p_t.Rows) + (goLen p_t.Cols))) + 1)) t_73 t_75 ht_75 _ m s10 q72 h72 _ hE74) fun a w _ hR hF=>hK _ _ ?_
    obtain ⟨q76,rfl,hR74,h76⟩:=hR
    have hS : St _ _ _ _ [q76,[⟨b5,[s1.v,s2.v,s3.v,s4.v],50⟩]]:=hS74.leaveF hR74
    refine q_end (n_sq (q_sr (q_y (v:=(.agg #[s1.v,s2.v,s3.v,s4.v])) hF hS (ex_loadA (vs:=[s1.v,s2.v,s3.v,s4.v]) 1 0 U50 rfl sz50 rfl rfl rfl rfl) fun a hF=>q_y (v:=(pP b5 2)) hF hS (ex_fieldAddr U50 rfl sz23 rfl rfl) fun a hF=>q_y (v:=s3.v) hF hS (ex_load1 1 0 U23 rfl rfl rfl rfl) fun a hF=>q_m hF rfl fun a hF=>?_)))
    obtain ⟨m78,hl78,hv78,hz78⟩:=hS.lend
    obtain ⟨t_77,ht_77,hr⟩:=bindS hr
    refine q_call (vs:=[(.agg #[s1.v,s2.v,s3.v,s4.v]),s3.v,s10.v,(iV (-1))]) hF hS Try.func169 (by kernel_rfl) rfl rfl rfl (c_impl_restore p_t p_t.Lo t_75.2 (-1) t_77 ht_77 _ m78 hv78 s1 (h1.mono hl78) s2 (h2.mono hl78) s3 (h3.mono hl78) s4 (h4.mono hl78) s3 (h3.mono hl78) s10 (h76.froz hl78 (hz78 0 _ rfl))) ?_
    rintro a w _ ⟨q80,s80,rfl,hR79,h80,h80n⟩ hF hS2
    have hS : St _ _ _ _ [q80,q76,[⟨b5,[s1.v,s2.v,s3.v,s4.v],50⟩]]:=hS.joinF hR79
    have h80:=h80.any m
    refine q_s hF rfl fun a hF=>q_end (n_sq (q_ret ?_))
    obtain rfl:=someI hr
    exact ret_of hF hS rfl (.tmp rfl .nil) ⟨q80,s80,rfl,hS.sel [0] (by decide),h80,h80n⟩

theorem c_slices_Equal_int_int (p_s1 : List Int) (p_s2 : List Int) (r : Bool) (hr : slices_Equal_int_int p_s1 p_s2 = some r) (w0 : World) (m : Mem) (hv : Vis m w0) (s1 : Sl) (h1 : Rd m s1 p_s1) (s2 : Sl) (h2 : Rd m s2 p_s2) :
  Ret Try.prog 103 [s1.v,s2.v] w0 (fun v _=>v = (.bool r)):=by
 unfold slices_Equal_int_int at hr
 refine ret_start Try.func103 rfl 26 rfl rfl m hv fun a hF hS=>q_sr (q_s hF rfl fun a hF=>q_end (n_sq (q_seq (q_sr (q_m hF rfl fun a hF=>q_y (v:=(iV (goLen p_s1))) hF hS (ex_len U28 rfl h1.len) fun a hF=>q_m hF rfl fun a hF=>q_y (v:=(iV (goLen p_s2))) hF hS (ex_len U28 rfl h2.len) fun a hF=>q_y (v:=(.bool ((goLen p_s1) != (goLen p_s2)))) hF hS (ex_ibin rfl rfl rfl) fun a hF=>q_end (n_sq ?_))))))
 rcases bcase ((goLen p_s1) != (goLen p_s2)) with hc1 | hc1
 ·have hr:=cond_f hc1 hr
  refine q_cond_f hF rfl hc1 (q_skipc (n_sq (q_seq (q_sr (q_m hF rfl fun a hF=>q_y (v:=(iV (goLen p_s1))) hF hS (ex_len U28 rfl h1.len) fun a hF=>q_m hF rfl fun a hF=>q_end (n_sq (q_block ?_)))))))
  obtain ⟨o2,hl2,hr⟩:=bindS hr
  refine q_loop (fun (t_3 : Int) a w=>Fr a 26 [(0,s1.v),(1,s2.v),(12,(iV (goLen p_s1))),(13,(iV t_3))]∧St [] w0 w m []) (fun (o : (Unit) ⊕ (Bool)) e a w=>o = .inl ()∧e = .exit 0∧Fr a 26 []∧St [] w0 w m []) hl2 ⟨hF.sub ⟨rfl,rfl,rfl,rfl,trivial⟩,hS⟩ ?_ ?_
  ·clear hF hS
   rintro t_3 a w st ⟨hF,hS⟩ hb2
   unfold slices_Equal_int_int_l1 at hb2
   refine q_sr (q_y (v:=(.bool (decide (t_3 < (goLen p_s1))))) hF hS (ex_ibin rfl rfl rfl) fun a hF=>q_end (n_sq (q_seq ?_)))
   rcases bcase (decide (t_3 < (goLen p_s1))) with hc3 | hc3
   ·have hb2:=cond_f hc3 hb2
    refine q_cond_f hF rfl hc3 (q_exit (x_sq ?_))
    obtain rfl:=someI hb2
    exact ⟨nofun,.inl ⟨rfl,rfl,hF.sub trivial,hS⟩⟩
   ·have hb2:=cond_t hc3 hb2
    refine q_cond_t hF rfl hc3 (q_skipc (n_sq (q_seq (q_block (q_sr (q_m hF rfl fun a hF=>q_s hF rfl fun a hF=>q_end (n_sq (q_seq (e_region ⟨[],[],m⟩ mixed fun w' hw'=>?_)))))))))
    have hS:=hS.below hw'
    refine e_P (v:=s1.v) 0 hF rfl (ex_move rfl) fun a hF=>e_P (v:=(iV t_3)) 1 hF rfl (ex_move rfl) fun a hF=>?_
    obtain ⟨e_4,he_4,hb2⟩:=bindS hb2
    obtain ⟨vs5,at5,d5⟩:=h1.at he_4 1 rfl
    obtain rfl : vs5 = [(iV e_4)]:=d5
    refine e_P (v:=(elP s1 (t_3.toNat * 1))) 2 hF rfl (ex_indexAddr U28 sz3 rfl rfl (h1.idx he_4)) fun a hF=>e_xm (v:=(iV e_4)) 3 hF hS (Mem.le.refl _) rfl (ex_loadE1 0 U3 rfl rfl ((at5).at) rfl rfl) rfl rfl (by kernel_rfl) (by kernel_rfl) (by kernel_rfl) fun a hF=>e_P (v:=s2.v) 4 hF rfl (ex_move rfl) fun a hF=>e_P (v:=(iV t_3)) 5 hF rfl (ex_move rfl) fun a hF=>?_
    obtain ⟨e_6,he_6,hb2⟩:=bindS hb2
    obtain ⟨vs7,at7,d7⟩:=h2.at he_6 1 rfl
    obtain rfl : vs7 = [(iV e_6)]:=d7
    refine e_P (v:=(elP s2 (t_3.toNat * 1))) 6 hF rfl (ex_indexAddr U28 sz3 rfl rfl (h2.idx he_6)) fun a hF=>e_xm (v:=(iV e_6)) 7 hF hS (Mem.le.refl _) rfl (ex_loadE1 0 U3 rfl rfl ((at7).at) rfl rfl) rfl rfl (by kernel_rfl) (by kernel_rfl) (by kernel_rfl) fun a hF=>e_P (v:=(.bool (e_4 != e_6))) 8 hF rfl (ex_ibin rfl rfl rfl) fun a hF=>e_end (by kernel_rfl) (n_sq ?_) _
    rcases bcase (e_4 != e_6) with hc4 | hc4
    ·have hb2:=cond_f hc4 hb2
     refine q_cond_f hF rfl hc4 (q_skipc (n_ib (n_sq (q_region (q_y (v:=(iV (w64 (t_3 + 1)))) hF hS (ex_ibin rfl rfl rfl) fun a hF=>q_m hF rfl fun a hF=>q_end ?_)))))
     obtain rfl:=someI hb2
     exact ⟨rfl,hF.sub ⟨rfl,rfl,rfl,rfl,trivial⟩,hS⟩
    ·have hb2:=cond_t hc4 hb2
     refine q_cond_t hF rfl hc4 (q_sr (q_s hF rfl fun a hF=>q_end (n_sq (q_ret (r_ib (r_sq ?_))))))
     obtain rfl:=someI hb2
     refine ⟨nofun,.inr fun ho=>?_⟩
     subst ho
     refine r_ib (r_sq ?_)
     obtain rfl:=someI hr
     exact ret_of hF hS rfl (.tmp rfl .nil) rfl
  ·rintro e a w ⟨rfl,rfl,hF,hS⟩
   refine x_ib (n_sq ?_)
   refine q_sr (q_s hF rfl fun a hF=>q_end (n_sq (q_ret ?_)))
   obtain rfl:=someI hr
   exact ret_of hF hS rfl (.tmp rfl .nil) rfl
 ·have hr:=cond_t hc1 hr
  refine q_cond_t hF rfl hc1 (q_sr (q_s hF rfl fun a hF=>q_end (n_sq (q_ret (r_sq ?_)))))
  obtain rfl:=someI hr
  exact ret_of hF hS rfl (.tmp rfl .nil) rfl

theorem c_impl_anyFlow (p_t : impl_Transport) (r : (List (List Int))) (hr : impl_anyFlow p_t = some r) (w0 : World) (m : Mem) (hv : Vis m w0) (s1 : Sl) (h1 : Rd m s1 p_t.Rows) (s2 : Sl) (h2 : Rd m s2 p_t.Cols) (s3 : Sl) (h3 : Rd m s3 p_t.Lo) (s4 : Sl) (h4 : Rd m s4 p_t.Hi) :
  Ret Try.prog 124 [(.agg #[s1.v,s2.v,s3.v,s4.v])] w0 (fun v w=>∃ (q0' : Piece) (s0' : Sl),v = s0'.v∧St [] w0 w m [q0']∧OwnD m 28 3 q0' s0' r∧NF s0' r):=by
 unfold impl_anyFlow at hr
 refine ret_start Try.func124 rfl 24 rfl rfl m hv fun a hF hS=>q_sr (q_box (cs:=[s1.v,s2.v,s3.v,s4.v]) hF hS rfl rfl rfl fun a w b5 hF hS=>q_s hF rfl fun a hF=>q_end (n_sq (q_seq (q_seq (e_region ⟨[],[],m⟩ mixed fun w' hw'=>?_)))))
 have hS:=hS.below hw'
 refine e_P (v:=(pP b5 0)) 0 hF rfl (ex_fieldAddr U50 rfl sz28 rfl rfl) fun a hF=>e_X (v:=s1.v) 1 hF hS rfl (ex_load1 0 0 U28 rfl rfl rfl rfl) fun a hF=>e_P (v:=(pP b5 1)) 3 hF rfl (ex_fieldAddr U50 rfl sz28 rfl rfl) fun a hF=>e_X (v:=s2.v) 4 hF hS rfl (ex_load1 0 0 U28 rfl rfl rfl rfl) fun a hF=>e_one 2 (by kernel_rfl) ?_
 obtain ⟨t_8,ht_8,hr⟩:=bindS hr
 refine e_call (vs:=[s1.v]) hF hS rfl Try.func80 (by kernel_rfl) rfl rfl rfl (c_impl_total p_t.Rows t_8 ht_8 _ m hS.vis s1 h1) ?_
 rintro a w _ rfl hF hS
 refine e_one 5 (by kernel_rfl) ?_
 obtain ⟨t_9,ht_9,hr⟩:=bindS hr
 refine e_call (vs:=[s2.v]) hF hS rfl Try.func80 (by kernel_rfl) rfl rfl rfl (c_impl_total p_t.Cols t_9 ht_9 _ m hS.vis s2 h2) ?_
 rintro a w _ rfl hF hS
 refine e_P (v:=(.bool (t_8 != t_9))) 6 hF rfl (ex_ibin rfl rfl rfl) fun a hF=>e_end (by kernel_rfl) (n_sq ?_) _
 rcases bcase (t_8 != t_9) with hc1 | hc1
 ·have hr:=cond_f hc1 hr
  refine q_cond_f hF rfl hc1 (q_skipc (n_sq (q_sr (q_y (v:=(.agg #[s1.v,s2.v,s3.v,s4.v])) hF hS (ex_loadA (vs:=[s1.v,s2.v,s3.v,s4.v]) 0 0 U50 rfl sz50 rfl rfl rfl rfl) fun a hF=>?_))))
  obtain ⟨t_10,ht_10,hr⟩:=bindS hr
  refine q_call (vs:=[(.agg #[s1.v,s2.v,s3.v,s4.v])]) hF hS Try.func168 (by kernel_rfl) rfl rfl rfl (c_impl_fill p_t t_10 ht_10 _ m hS.vis s1 h1 s2 h2 s3 h3 s4 h4) ?_
  rintro a w _ ⟨q12,s12,rfl,hR11,h12,h12n⟩ hF hS2
  have hS : St _ _ _ _ [q12,[⟨b5,[s1.v,s2.v,s3.v,s4.v],50⟩]]:=hS.joinF hR11
  refine q_s hF rfl fun a hF=>q_end (n_sq (q_seq (q_seq ?_)))
  obtain ⟨t_27,hj2,hr⟩:=bindS hr
  refine q_join (fun a w=>Fr a 24 [(3,s12.v),(22,(.bool t_27))]∧St [] w0 w m [q12]) ?_ ?_
  ·refine e_region ⟨[],[],m⟩ mixed fun w' hw'=>?_
   have hS:=hS.below hw'
   refine e_P (v:=s12.v) 0 hF rfl (ex_move rfl) fun a hF=>e_P (v:=(.bool t_10.isEmpty)) 1 hF rfl (ex_eqNilF U23 h12n h12.nilE rfl rfl) fun a hF=>e_P (v:=(.bool t_10.isEmpty)) 2 hF rfl (ex_move rfl) fun a hF=>?_
   rcases bcase (t_10.isEmpty) with hc3 | hc3
   ·have hj2:=cond_f hc3 hj2
    refine e_pg (v:=s12.v) 3 hF rfl (ex_move rfl) (wanted_t hF rfl rfl rfl hc3) rfl (by kernel_rfl) (by kernel_rfl) (by kernel_rfl) fun a hF=>e_pg (v:=(pP b5 0)) 5 hF rfl (ex_fieldAddr U50 rfl sz28 rfl rfl) (wanted_t hF rfl rfl rfl hc3) rfl (by kernel_rfl) (by kernel_rfl) (by kernel_rfl) fun a hF=>e_xg (v:=s1.v) 6 hF hS rfl (ex_load1 1 0 U28 rfl rfl rfl rfl) (wanted_t hF rfl rfl rfl hc3) rfl (by kernel_rfl) (by kernel_rfl) (by kernel_rfl) (by kernel_rfl) fun a hF=>e_one 4 (by kernel_rfl) ?_
    obtain ⟨m22,hl22,hv22,hz22⟩:=hS.lend
    obtain ⟨t_21,ht_21,hj2⟩:=bindS hj2
    refine e_callg (vs:=[s12.v]) hF hS rfl (wanted_t hF rfl rfl rfl hc3) Try.func104 (by kernel_rfl) rfl rfl rfl (c_impl_rowSums t_10 t_21 ht_21 _ m22 hv22 s12 (h12.froz hl22 (hz22 0 _ rfl))) ?_
    rintro a w _ ⟨q24,s24,rfl,hR23,h24⟩ hF hS2
    have hS : St _ _ _ _ [q24,q12,[⟨b5,[s1.v,s2.v,s3.v,s4.v],50⟩]]:=hS.joinF hR23
    have h24:=h24.any m
    refine e_one 7 (by kernel_rfl) ?_
    obtain ⟨m26,hl26,hv26,hz26⟩:=hS.lend
    obtain ⟨t_25,ht_25,hj2⟩:=bindS hj2
    refine e_callg (vs:=[s24.v,s1.v]) hF hS rfl (wanted_t hF rfl rfl rfl hc3) Try.func103 (by kernel_rfl) rfl rfl rfl (c_slices_Equal_int_int t_21 p_t.Rows t_25 ht_25 _ m26 hv26 s24 (h24.froz hl26 (hz26 0 _ rfl)) s1 (h1.mono hl26)) ?_
    rintro a w _ rfl hF hS
    refine e_pg (v:=(.bool (!t_25))) 8 hF rfl (ex_not rfl) (wanted_t hF rfl rfl rfl hc3) rfl (by kernel_rfl) (by kernel_rfl) (by kernel_rfl) fun a hF=>e_P (v:=(.bool (!t_25))) 9 hF rfl (ex_pick_f rfl rfl hc3) fun a hF=>e_end (by kernel_rfl) (n_jn ?_) _
    obtain rfl:=someI hj2
    exact ⟨hF.sub ⟨rfl,rfl,trivial⟩,hS.mask [false,true,false]⟩
   ·have hj2:=cond_t hc3 hj2
    refine e_skipP 3 hF rfl (wanted_f hF rfl rfl rfl hc3 rfl) rfl (by kernel_rfl) (by kernel_rfl) (by kernel_rfl) fun a hF=>e_skipP 4 hF rfl (wanted_f hF rfl rfl rfl hc3 rfl) rfl (by kernel_rfl) (by kernel_rfl) (by kernel_rfl) fun a hF=>e_skipP 5 hF rfl (wanted_f hF rfl rfl rfl hc3 rfl) rfl (by kernel_rfl) (by kernel_rfl) (by kernel_rfl) fun a hF=>e_skipP 6 hF rfl (wanted_f hF rfl rfl rfl hc3 rfl) rfl (by kernel_rfl) (by kernel_rfl) (by kernel_rfl) fun a hF=>e_skipP 7 hF rfl (wanted_f hF rfl rfl rfl hc3 rfl) rfl (by kernel_rfl) (by kernel_rfl) (by kernel_rfl) fun a hF=>e_skipP 8 hF rfl (wanted_f hF rfl rfl rfl hc3 rfl) rfl (by kernel_rfl) (by kernel_rfl) (by kernel_rfl) fun a hF=>e_P (v:=(.bool true)) 9 hF rfl (ex_pick_t rfl rfl hc3) fun a hF=>e_end (by kernel_rfl) (n_jn ?_) _
    obtain rfl:=someI hj2
    exact ⟨hF.sub ⟨rfl,rfl,trivial⟩,hS.mask [true,false]⟩
  ·rintro a w ⟨hF,hS⟩
   refine n_sq ?_
   rcases bcase (t_27) with hc4 | hc4
   ·have hr:=cond_f hc4 hr
    refine q_cond_f hF rfl hc4 (q_skipc (n_sq (q_sr (q_m hF rfl fun a hF=>q_s hF rfl fun a hF=>q_end (n_sq (q_ret ?_))))))
    obtain rfl:=someI hr
    exact ret_of hF hS rfl (.tmp rfl .nil) ⟨q12,s12,rfl,hS.sel [0] (by decide),h12,h12n⟩
   ·have hr:=cond_t hc4 hr
    refine q_cond_t hF rfl hc4 (q_sr (q_s hF rfl fun a hF=>q_end (n_sq (q_ret (r_sq ?_)))))
    obtain rfl:=someI hr
    exact ret_of hF hS rfl (.tmp rfl .nil) ⟨[],nilS,rfl,hS.sel [1] (by decide),(OwnD.nil (β:=Int) m 28 3),(NF.nil)⟩
 ·have hr:=cond_t hc1 hr
  refine q_cond_t hF rfl hc1 (q_sr (q_s hF rfl fun a hF=>q_end (n_sq (q_ret (r_sq ?_)))))
  obtain rfl:=someI hr
  exact ret_of hF hS rfl (.tmp rfl .nil) ⟨[],nilS,rfl,hS.sel [1] (by decide),(OwnD.nil (β:=Int) m 28 3),(NF.nil)⟩

theorem c_impl_lowered (p_t : impl_Transport) (p_x : List (List Int)) (p_i : Int) (p_j : Int) (r : (List (List Int))) (hr : impl_lowered p_t p_x p_i p_j = some r) (w0 : World) (m : Mem) (hv : Vis m w0) (s1 : Sl) (h1 : Rd m s1 p_t.Rows) (s2 : Sl) (h2 : Rd m s2 p_t.Cols) (s3 : Sl) (h3 : Rd m s3 p_t.Lo) (s4 : Sl) (h4 : Rd m s4 p_t.Hi) (s5 : Sl) (h5 : Rd m s5 p_x) :
  Ret Try.prog 183 [(.agg #[s1.v,s2.v,s3.v,s4.v]),s5.v,(iV p_i),(iV p_j)] w0 (fun v w=>∃ (q0' : Piece) (s0' : Sl),v = s0'.v∧St [] w0 w m [q0']∧OwnD m 28 3 q0' s0' r∧NF s0' r):=by
 unfold impl_lowered at hr
 refine ret_start Try.func183 rfl 66 rfl rfl m hv fun a hF hS=>q_sr (q_box (cs:=[s1.v,s2.v,s3.v,s4.v]) hF hS rfl rfl rfl fun a w b6 hF hS=>q_s hF rfl fun a hF=>q_end (n_sq (q_seq (e_region ⟨[],[],m⟩ mixed fun w' hw'=>?_))))
 have hS:=hS.below hw'
 refine e_P (v:=(pP b6 0)) 0 hF rfl (ex_fieldAddr U50 rfl sz28 rfl rfl) fun a hF=>e_X (v:=s1.v) 1 hF hS rfl (ex_load1 0 0 U28 rfl rfl rfl rfl) fun a hF=>e_P (v:=(iV (goLen p_t.Rows))) 2 hF rfl (ex_len U28 rfl h1.len) fun a hF=>e_P (v:=(iV p_i)) 3 hF rfl (ex_move rfl) fun a hF=>e_P (v:=(pP b6 1)) 4 hF rfl (ex_fieldAddr U50 rfl sz28 rfl rfl) fun a hF=>e_X (v:=s2.v) 5 hF hS rfl (ex_load1 0 0 U28 rfl rfl rfl rfl) fun a hF=>e_P (v:=(iV (goLen p_t.Cols))) 6 hF rfl (ex_len U28 rfl h2.len) fun a hF=>e_P (v:=(iV (w64 (p_i * (goLen p_t.Cols))))) 7 hF rfl (ex_ibin rfl rfl rfl) fun a hF=>e_P (v:=(iV p_j)) 8 hF rfl (ex_move rfl) fun a hF=>e_P (v:=(iV (w64 ((w64 (p_i * (goLen p_t.Cols))) + p_j)))) 9 hF rfl (ex_ibin rfl rfl rfl) fun a hF=>e_P (v:=(iV (goLen p_t.Rows))) 10 hF rfl (ex_assign rfl) fun a hF=>e_P (v:=(iV (w64 ((w64 (p_i * (goLen p_t.Cols))) + p_j)))) 11 hF rfl (ex_assign rfl) fun a hF=>e_end (by kernel_rfl) (n_sq ?_) _
 refine q_sr (q_y (v:=(.agg #[s1.v,s2.v,s3.v,s4.v])) hF hS (ex_loadA (vs:=[s1.v,s2.v,s3.v,s4.v]) 0 0 U50 rfl sz50 rfl rfl rfl rfl) fun a hF=>q_m hF rfl fun a hF=>q_m hF rfl fun a hF=>?_)
 obtain ⟨t_7,ht_7,hr⟩:=bindS hr
 refine q_call (vs:=[(.agg #[s1.v,s2.v,s3.v,s4.v]),s5.v,(iV (w64 ((w64 (p_i * (goLen p_t.Cols))) + p_j)))]) hF hS Try.func155 (by kernel_rfl) rfl rfl rfl (c_impl_residual p_t p_x (w64 ((w64 (p_i * (goLen p_t.Cols))) + p_j)) t_7 ht_7 _ m hS.vis s1 h1 s2 h2 s3 h3 s4 h4 s5 h5) ?_
 rintro a w _ ⟨q9,s9,rfl,hR8,h9⟩ hF hS2
 have hS : St _ _ _ _ [q9,[⟨b6,[s1.v,s2.v,s3.v,s4.v],50⟩]]:=hS.joinF hR8
 refine q_s hF rfl fun a hF=>q_end (n_sq (q_seq (e_region ⟨[21],[b6],m⟩ mixed fun w' hw'=>?_)))
 have hS:=hS.below hw'
 refine e_P (v:=s9.v) 0 hF rfl (ex_move rfl) fun a hF=>e_P (v:=(iV p_i)) 1 hF rfl (ex_move rfl) fun a hF=>e_P (v:=(iV (goLen p_t.Rows))) 2 hF rfl (ex_move rfl) fun a hF=>e_P (v:=(iV p_j)) 3 hF rfl (ex_move rfl) fun a hF=>e_P (v:=(iV (w64 ((goLen p_t.Rows) + p_j)))) 4 hF rfl (ex_ibin rfl rfl rfl) fun a hF=>e_P (v:=s5.v) 5 hF rfl (ex_move rfl) fun a hF=>e_P (v:=(iV p_i)) 6 hF rfl (ex_move rfl) fun a hF=>?_
 obtain ⟨e_10,he_10,hr⟩:=bindS hr
 obtain ⟨vs11,at11,d11⟩:=h5.at he_10 1 rfl
 obtain ⟨s12,rfl,h12⟩ : ∃ s12 : Sl,vs11 = [s12.v]∧Rd m s12 e_10:=d11
 refine e_P (v:=(elP s5 (p_i.toNat * 1))) 7 hF rfl (ex_indexAddr U23 sz28 rfl rfl (h5.idx he_10)) fun a hF=>e_xm (v:=s12.v) 8 hF hS (Mem.le.refl _) rfl (ex_loadE1 0 U28 rfl rfl ((at11).at) rfl rfl) rfl rfl (by kernel_rfl) (by kernel_rfl) (by kernel_rfl) fun a hF=>e_P (v:=(iV p_j)) 9 hF rfl (ex_move rfl) fun a hF=>?_
 obtain ⟨e_13,he_13,hr⟩:=bindS hr
 obtain ⟨vs14,at14,d14⟩:=h12.at he_13 1 rfl
 obtain rfl : vs14 = [(iV e_13)]:=d14
 refine e_P (v:=(elP s12 (p_j.toNat * 1))) 10 hF rfl (ex_indexAddr U28 sz3 rfl rfl (h12.idx he_13)) fun a hF=>e_xm (v:=(iV e_13)) 11 hF hS (Mem.le.refl _) rfl (ex_loadE1 0 U3 rfl rfl ((at14).at) rfl rfl) rfl rfl (by kernel_rfl) (by kernel_rfl) (by kernel_rfl) fun a hF=>e_P (v:=(pP b6 2)) 12 hF rfl (ex_fieldAddr U50 rfl sz23 rfl rfl) fun a hF=>e_xb (v:=s3.v) 13 1 hF hS (.head _) rfl rfl (ex_load1 0 0 U23 rfl rfl rfl rfl) rfl rfl (by kernel_rfl) (by kernel_rfl) (by kernel_rfl) fun a hF=>e_P (v:=(iV p_i)) 14 hF rfl (ex_move rfl) fun a hF=>?_
 obtain ⟨e_15,he_15,hr⟩:=bindS hr
 obtain ⟨vs16,at16,d16⟩:=h3.at he_15 1 rfl
 obtain ⟨s17,rfl,h17⟩ : ∃ s17 : Sl,vs16 = [s17.v]∧Rd m s17 e_15:=d16
 refine e_P (v:=(elP s3 (p_i.toNat * 1))) 15 hF rfl (ex_indexAddr U23 sz28 rfl rfl (h3.idx he_15)) fun a hF=>e_xm (v:=s17.v) 16 hF hS (Mem.le.refl _) rfl (ex_loadE1 0 U28 rfl rfl ((at16).at) rfl rfl) rfl rfl (by kernel_rfl) (by kernel_rfl) (by kernel_rfl) fun a hF=>e_P (v:=(iV p_j)) 17 hF rfl (ex_move rfl) fun a hF=>?_
 obtain ⟨e_18,he_18,hr⟩:=bindS hr
 obtain ⟨vs19,at19,d19⟩:=h17.at he_18 1 rfl
 obtain rfl : vs19 = [(iV e_18)]:=d19
 refine e_P (v:=(elP s17 (p_j.toNat * 1))) 18 hF rfl (ex_indexAddr U28 sz3 rfl rfl (h17.idx he_18)) fun a hF=>e_xm (v:=(iV e_18)) 19 hF hS (Mem.le.refl _) rfl (ex_loadE1 0 U3 rfl rfl ((at19).at) rfl rfl) rfl rfl (by kernel_rfl) (by kernel_rfl) (by kernel_rfl) fun a hF=>e_P (v:=(iV (w64 (e_13 - e_18)))) 20 hF rfl (ex_ibin rfl rfl rfl) fun a hF=>e_one 21 (by kernel_rfl) ?_
 have hS20 : St _ _ _ _ ([q9]++[[⟨b6,[s1.v,s2.v,s3.v,s4.v],50⟩]]):=hS
 have hE20:=hS20.enter
 obtain ⟨t_21,ht_21,hr⟩:=bindS hr
 have hSo:=hS
 refine e_opl rfl rfl rfl fun _ hK=>wp_callX (vs:=[s9.v,(iV p_i),(iV (w64 ((goLen p_t.Rows) + p_j))),(iV (w64 (e_13 - e_18)))]) hF Try.func156 (by kernel_rfl) rfl rfl rfl (c_impl_push t_7 p_i (w64 ((goLen p_t.Rows) + p_j)) (w64 (e_13 - e_18)) t_21 ht_21 _ m s9 q9 h9 _ hE20) fun a w _ hR hF=>hK _ _ ?_
 obtain ⟨q22,rfl,hR20,h22⟩:=hR
 have hS : St _ _ _ _ [q22,[⟨b6,[s1.v,s2.v,s3.v,s4.v],50⟩]]:=hS20.leaveF hR20
 refine ⟨⟨kpC hSo hS 1 1 rfl rfl kpN,fun _=>hS.vis.of_le (Mem.le.refl _)⟩,?_⟩
 refine e_P (v:=(iV t_21.1)) 22 hF rfl (ex_assign rfl) fun a hF=>e_end (by kernel_rfl) (n_sq ?_) _
 refine q_sr (q_y (v:=(.agg #[s1.v,s2.v,s3.v,s4.v])) hF hS (ex_loadA (vs:=[s1.v,s2.v,s3.v,s4.v]) 1 0 U50 rfl sz50 rfl rfl rfl rfl) fun a hF=>q_m hF rfl fun a hF=>q_m hF rfl fun a hF=>q_m hF rfl fun a hF=>?_)
 obtain ⟨m24,hl24,hv24,hz24⟩:=hS.lend
 obtain ⟨t_23,ht_23,hr⟩:=bindS hr
 refine q_call (vs:=[(.agg #[s1.v,s2.v,s3.v,s4.v]),s5.v,s9.v,(iV (w64 ((w64 (p_i * (goLen p_t.Cols))) + p_j)))]) hF hS Try.func169 (by kernel_rfl) rfl rfl rfl (c_impl_restore p_t p_x t_21.2 (w64 ((w64 (p_i * (goLen p_t.Cols))) + p_j)) t_23 ht_23 _ m24 hv24 s1 (h1.mono hl24) s2 (h2.mono hl24) s3 (h3.mono hl24) s4 (h4.mono hl24) s5 (h5.mono hl24) s9 (h22.froz hl24 (hz24 0 _ rfl))) ?_
 rintro a w _ ⟨q26,s26,rfl,hR25,h26,h26n⟩ hF hS2
 have hS : St _ _ _ _ [q26,q22,[⟨b6,[s1.v,s2.v,s3.v,s4.v],50⟩]]:=hS.joinF hR25
 have h26:=h26.any m
 refine q_s hF rfl fun a hF=>q_end (n_sq (q_sr (q_m hF rfl fun a hF=>q_m hF rfl fun a hF=>?_)))
 obtain ⟨e_27,he_27,hr⟩:=bindS hr
 obtain ⟨s28,hV28⟩:=h26.view he_27
 refine q_y (v:=(elP s26 (p_i.toNat * 1))) hF hS (ex_indexAddr U23 sz28 rfl rfl (h26.idx he_27)) fun a hF=>q_y (v:=s28.v) hF hS (ex_loadE1 0 U28 rfl rfl ((hV28.atH he_27).at 0 rfl) rfl rfl) fun a hF=>q_m hF rfl fun a hF=>?_
 obtain ⟨e_29,he_29,hr⟩:=bindS hr
 obtain ⟨vs30,at30,d30⟩:=hV28.at he_27 he_29 1 rfl
 obtain rfl : vs30 = [(iV e_29)]:=d30
 refine q_y (v:=(elP s28 (p_j.toNat * 1))) hF hS (ex_indexAddr U28 sz3 rfl rfl (hV28.idx he_27 he_29)) fun a hF=>q_y (v:=(iV e_29)) hF hS (ex_loadE1 0 U3 rfl rfl (at30.at 0 rfl) rfl rfl) fun a hF=>q_m hF rfl fun a hF=>q_y (v:=(iV (w64 (e_29 - t_21.1)))) hF hS (ex_ibin rfl rfl rfl) fun a hF=>?_
 obtain ⟨e_31,he_31,hr⟩:=bindS hr
 obtain ⟨vs32,at32,d32⟩:=hV28.at he_27 he_31 1 rfl
 obtain rfl : vs32 = [(iV e_31)]:=d32
 refine q_y (v:=(elP s28 (p_j.toNat * 1))) hF hS (ex_indexAddr U28 sz3 rfl rfl (hV28.idx he_27 he_31)) fun a hF=>q_do rfl fun _ hK=>wp_storeV (e':=(w64 (e_29 - t_21.1))) (us:=[(iV (w64 (e_29 - t_21.1)))]) (vs:=[(iV e_31)]) 0 hF hS hV28 he_27 sz3 rfl rfl rfl rfl rfl rfl rfl he_31 at32 rfl rfl rfl fun w q33 hS h33=>hK _ _ (q_end (n_sq (q_sr (q_m hF rfl fun a hF=>q_s hF rfl fun a hF=>q_end (n_sq (q_ret ?_))))))
 obtain rfl:=someI hr
 exact ret_of hF hS rfl (.tmp rfl .nil) ⟨q33,s26,rfl,hS.sel [0] (by decide),h33.own,(NF.set h26n)⟩

theorem c_impl_firstFrom (p_t : impl_Transport) (p_x : List (List Int)) (p_from : Int) (r : (List (List Int))) (hr : impl_firstFrom p_t p_x p_from = some r) (w0 : World) (m : Mem) (s1 : Sl) (h1 : Rd m s1 p_t.Rows) (s2 : Sl) (h2 : Rd m s2 p_t.Cols) (s3 : Sl) (h3 : Rd m s3 p_t.Lo) (s4 : Sl) (h4 : Rd m s4 p_t.Hi) (s5 : Sl) (q5 : Piece) (h5 : OwnD m 28 3 q5 s5 p_x) (X : List Nat) (hS : St X w0 w0 m [q5]) :
  RetX Try.prog 163 [(.agg #[s1.v,s2.v,s3.v,s4.v]),s5.v,(iV p_from)] w0 (fun v w=>∃ (q0' : Piece) (s0' : Sl),v = s0'.v∧St X w0 w m [q0']∧OwnD m 28 3 q0' s0' r∧NF s0' r):=by
 unfold impl_firstFrom at hr
 refine ret_startX Try.func163 rfl 33 rfl rfl fun a hF=>?_
 obtain ⟨_,hne1,hr⟩:=bindS hr
 refine q_sr (q_box (cs:=[s1.v,s2.v,s3.v,s4.v]) hF hS rfl rfl rfl fun a w b6 hF hS=>q_s hF rfl fun a hF=>q_end (n_sq (q_sr (q_y (v:=(pP b6 1)) hF hS (ex_fieldAddr U50 rfl sz28 rfl rfl) fun a hF=>q_y (v:=s2.v) hF hS (ex_load1 0 0 U28 rfl rfl rfl rfl) fun a hF=>q_y (v:=(iV (goLen p_t.Cols))) hF hS (ex_len U28 rfl h2.len) fun a hF=>q_s hF rfl fun a hF=>q_end (n_sq (q_seq (q_sr (q_m hF rfl fun a hF=>q_y (v:=(iV (w64 (p_from + 1)))) hF hS (ex_ibin rfl rfl rfl) fun a hF=>q_s hF rfl fun a hF=>q_end (n_sq (q_block ?_))))))))))
 obtain ⟨x_16,hl1,hr⟩:=bindS hr
 refine q_loop (fun (s : (List (List Int)) × Int) a w=>∃ (q8 : Piece),∃ (s8 : Sl),∃ x_7,∃ p_9,s = (x_7,p_9)∧Fr a 33 [(1,s8.v),(3,(pP b6 0)),(7,(iV (goLen p_t.Cols))),(8,(iV p_9))]∧St X w0 w m [q8,[⟨b6,[s1.v,s2.v,s3.v,s4.v],50⟩]]∧OwnD m 28 3 q8 s8 x_7∧NF s8 x_7) (fun (x_16 : (List (List Int))) e a w=>∃ (q17 : Piece),∃ (s17 : Sl),e = .exit 0∧Fr a 33 [(1,s17.v)]∧St X w0 w m [q17]∧OwnD m 28 3 q17 s17 x_16∧NF s17 x_16) hl1 ⟨q5,s5,_,_,rfl,hF.sub ⟨rfl,rfl,rfl,rfl,trivial⟩,hS.sel [1,0] (by decide),h5,(NF.goNE hne1)⟩ ?_ ?_
 ·clear hF hS
  rintro s a w st ⟨q8,s8,x_7,p_9,rfl,hF,hS,h8,h8n⟩ hb1
  unfold impl_firstFrom_l1 at hb1
  refine q_seq (q_sr (q_m hF rfl fun a hF=>q_y (v:=(pP b6 0)) hF hS (ex_fieldAddr U50 rfl sz28 rfl rfl) fun a hF=>q_y (v:=s1.v) hF hS (ex_load1 1 0 U28 rfl rfl rfl rfl) fun a hF=>q_y (v:=(iV (goLen p_t.Rows))) hF hS (ex_len U28 rfl h1.len) fun a hF=>q_m hF rfl fun a hF=>q_y (v:=(iV (w64 ((goLen p_t.Rows) * (goLen p_t.Cols))))) hF hS (ex_ibin rfl rfl rfl) fun a hF=>q_y (v:=(.bool (decide (p_9 < (w64 ((goLen p_t.Rows) * (goLen p_t.Cols))))))) hF hS (ex_ibin rfl rfl rfl) fun a hF=>q_end (n_sq ?_)))
  rcases bcase (decide (p_9 < (w64 ((goLen p_t.Rows) * (goLen p_t.Cols))))) with hc2 | hc2
  ·have hb1:=cond_f hc2 hb1
   refine q_cond_f hF rfl hc2 (q_exit (x_sq ?_))
   obtain rfl:=someI hb1
   exact ⟨nofun,.inl ⟨q8,s8,rfl,hF.sub ⟨rfl,trivial⟩,hS.mask [true,false],h8,h8n⟩⟩
  ·have hb1:=cond_t hc2 hb1
   refine q_cond_t hF rfl hc2 (q_skipc (n_sq (q_seq (q_block (e_region ⟨[],[],m⟩ mixed fun w' hw'=>?_)))))
   have hS:=hS.below hw'
   refine e_X (v:=(.agg #[s1.v,s2.v,s3.v,s4.v])) 0 hF hS rfl (ex_loadA (vs:=[s1.v,s2.v,s3.v,s4.v]) 1 0 U50 rfl sz50 rfl rfl rfl rfl) fun a hF=>e_P (v:=s8.v) 1 hF rfl (ex_move rfl) fun a hF=>e_P (v:=(iV p_9)) 2 hF rfl (ex_move rfl) fun a hF=>e_P (v:=(iV (goLen p_t.Cols))) 3 hF rfl (ex_move rfl) fun a hF=>?_
   obtain ⟨t_10,ht_10,hb1⟩:=bindS hb1
   refine e_P (v:=(iV t_10)) 4 hF rfl (ex_quo rfl rfl ht_10) fun a hF=>e_P (v:=(iV p_9)) 5 hF rfl (ex_move rfl) fun a hF=>e_P (v:=(iV (goLen p_t.Cols))) 6 hF rfl (ex_move rfl) fun a hF=>?_
   obtain ⟨t_11,ht_11,hb1⟩:=bindS hb1
   refine e_P (v:=(iV t_11)) 7 hF rfl (ex_rem rfl rfl ht_11) fun a hF=>e_one 8 (by kernel_rfl) ?_
   obtain ⟨m13,hl13,hv13,hz13⟩:=hS.lend
   obtain ⟨t_12,ht_12,hb1⟩:=bindS hb1
   refine e_call (vs:=[(.agg #[s1.v,s2.v,s3.v,s4.v]),s8.v,(iV t_10),(iV t_11)]) hF hS rfl Try.func183 (by kernel_rfl) rfl rfl rfl (c_impl_lowered p_t x_7 t_10 t_11 t_12 ht_12 _ m13 hv13 s1 (h1.mono hl13) s2 (h2.mono hl13) s3 (h3.mono hl13) s4 (h4.mono hl13) s8 (h8.froz hl13 (hz13 0 _ rfl))) ?_
   rintro a w _ ⟨q15,s15,rfl,hR14,h15,h15n⟩ hF hS2
   have hS : St _ _ _ _ [q15,q8,[⟨b6,[s1.v,s2.v,s3.v,s4.v],50⟩]]:=hS.joinF hR14
   have h15:=h15.any m
   refine e_P (v:=s15.v) 9 hF rfl (ex_assign rfl) fun a hF=>e_end (by kernel_rfl) (n_ib (n_sq ?_)) _
   refine q_region (q_m hF rfl fun a hF=>q_y (v:=(iV (w64 (p_9 + 1)))) hF hS (ex_ibin rfl rfl rfl) fun a hF=>q_s hF rfl fun a hF=>q_end ?_)
   obtain rfl:=someI hb1
   exact ⟨rfl,q15,s15,_,_,rfl,hF.sub ⟨rfl,rfl,rfl,rfl,trivial⟩,hS.mask [true,false,true],h15,h15n⟩
 ·rintro e a w ⟨q17,s17,rfl,hF,hS,h17,h17n⟩
  refine x_ib (n_sq ?_)
  refine q_sr (q_m hF rfl fun a hF=>q_s hF rfl fun a hF=>q_end (n_sq (q_ret ?_)))
  obtain rfl:=someI hr
  exact ret_ofX hF hS rfl (.tmp rfl .nil) ⟨q17,s17,rfl,hS.sel [0] (by decide),h17,h17n⟩

theorem c_impl_firstFlow (p_t : impl_Transport) (r : (List (List Int))) (hr : impl_firstFlow p_t = some r) (w0 : World) (m : Mem) (hv : Vis m w0) (s1 : Sl) (h1 : Rd m s1 p_t.Rows) (s2 : Sl) (h2 : Rd m s2 p_t.Cols) (s3 : Sl) (h3 : Rd m s3 p_t.Lo) (s4 : Sl) (h4 : Rd m s4 p_t.Hi) :
  Ret Try.prog 117 [(.agg #[s1.v,s2.v,s3.v,s4.v])] w0 (fun v w=>∃ (q0' : Piece) (s0' : Sl),v = s0'.v∧St [] w0 w m [q0']∧OwnD m 28 3 q0' s0' r∧NF s0' r):=by
 unfold impl_firstFlow at hr
 refine ret_start Try.func117 rfl 11 rfl rfl m hv fun a hF hS=>q_sr (q_box (cs:=[s1.v,s2.v,s3.v,s4.v]) hF hS rfl rfl rfl fun a w b5 hF hS=>q_s hF rfl fun a hF=>q_end (n_sq (q_sr (q_y (v:=(.agg #[s1.v,s2.v,s3.v,s4.v])) hF hS (ex_loadA (vs:=[s1.v,s2.v,s3.v,s4.v]) 0 0 U50 rfl sz50 rfl rfl rfl rfl) fun a hF=>?_))))
 obtain ⟨t_6,ht_6,hr⟩:=bindS hr
 refine q_call (vs:=[(.agg #[s1.v,s2.v,s3.v,s4.v])]) hF hS Try.func124 (by kernel_rfl) rfl rfl rfl (c_impl_anyFlow p_t t_6 ht_6 _ m hS.vis s1 h1 s2 h2 s3 h3 s4 h4) ?_
 rintro a w _ ⟨q8,s8,rfl,hR7,h8,h8n⟩ hF hS2
 have hS : St _ _ _ _ [q8,[⟨b5,[s1.v,s2.v,s3.v,s4.v],50⟩]]:=hS.joinF hR7
 refine q_s hF rfl fun a hF=>q_end (n_sq (q_seq (q_sr (q_m hF rfl fun a hF=>q_y (v:=(.bool t_6.isEmpty)) hF hS (ex_eqNilF U23 h8n h8.nilE rfl rfl) fun a hF=>q_end (n_sq ?_)))))
 rcases bcase (t_6.isEmpty) with hc1 | hc1
 ·have hr:=cond_f hc1 hr
  refine q_cond_f hF rfl hc1 (q_skipc (n_sq (q_sr (q_y (v:=(.agg #[s1.v,s2.v,s3.v,s4.v])) hF hS (ex_loadA (vs:=[s1.v,s2.v,s3.v,s4.v]) 1 0 U50 rfl sz50 rfl rfl rfl rfl) fun a hF=>q_m hF rfl fun a hF=>?_))))
  have hS9 : St _ _ _ _ ([q8]++[[⟨b5,[s1.v,s2.v,s3.v,s4.v],50⟩]]):=hS
  have hE9:=hS9.enter
  obtain ⟨t_10,ht_10,hr⟩:=bindS hr
  refine q_do rfl fun _ hK=>wp_callX (vs:=[(.agg #[s1.v,s2.v,s3.v,s4.v]),s8.v,(iV (-1))]) hF Try.func163 (by kernel_rfl) rfl rfl rfl (c_impl_firstFrom p_t t_6 (-1) t_10 ht_10 _ m s1 h1 s2 h2 s3 h3 s4 h4 s8 q8 h8 _ hE9) fun a w _ hR hF=>hK _ _ ?_
  obtain ⟨q11,s11,rfl,hR9,h11,h11n⟩:=hR
  have hS : St _ _ _ _ [q11,[⟨b5,[s1.v,s2.v,s3.v,s4.v],50⟩]]:=hS9.leaveF hR9
  refine q_s hF rfl fun a hF=>q_end (n_sq (q_ret ?_))
  obtain rfl:=someI hr
  exact ret_of hF hS rfl (.tmp rfl .nil) ⟨q11,s11,rfl,hS.sel [0] (by decide),h11,h11n⟩
 ·have hr:=cond_t hc1 hr
  refine q_cond_t hF rfl hc1 (q_sr (q_s hF rfl fun a hF=>q_end (n_sq (q_ret (r_sq ?_)))))
  obtain rfl:=someI hr
  exact ret_of hF hS rfl (.tmp rfl .nil) ⟨[],nilS,rfl,hS.sel [2] (by decide),(OwnD.nil (β:=Int) m 28 3),(NF.nil)⟩

theorem c_impl_summed (p_x : List (List Int)) (r : impl_Rounding) (hr : impl_summed p_x = some r) (w0 : World) (m : Mem) (hv : Vis m w0) (s1 : Sl) (h1 : Rd m s1 p_x) :
  Ret Try.prog 142 [s1.v] w0 (fun v w=>∃ (q0' : Piece) (q1' : Piece) (q2' : Piece) (s0' : Sl) (s1' : Sl) (s2' : Sl),v = (.agg #[s0'.v,s1'.v,s2'.v,(iV r.Total)])∧St [] w0 w m [q0',q1',q2']∧OwnD m 28 3 q0' s0' r.Cells∧OwnL m 3 q1' s1' r.Rows∧OwnL m 3 q2' s2' r.Cols):=by
 unfold impl_summed at hr
 refine ret_start Try.func142 rfl 14 rfl rfl m hv fun a hF hS=>q_sr (q_alloc (cs:=[nilS.v,nilS.v,nilS.v,(iV 0)]) hF hS rfl rfl rfl fun a w b2 hF hS=>q_end (n_sq (q_sr (q_m hF rfl fun a hF=>?_))))
 obtain ⟨t_3,ht_3,hr⟩:=bindS hr
 refine q_call (vs:=[s1.v]) hF hS Try.func104 (by kernel_rfl) rfl rfl rfl (c_impl_rowSums p_x t_3 ht_3 _ m hS.vis s1 h1) ?_
 rintro a w _ ⟨q5,s5,rfl,hR4,h5⟩ hF hS2
 have hS : St _ _ _ _ [q5,[⟨b2,[nilS.v,nilS.v,nilS.v,(iV 0)],74⟩]]:=hS.joinF hR4
 refine q_s hF rfl fun a hF=>q_end (n_sq (q_sr (q_m hF rfl fun a hF=>?_)))
 obtain ⟨t_6,ht_6,hr⟩:=bindS hr
 refine q_call (vs:=[s1.v]) hF hS Try.func75 (by kernel_rfl) rfl rfl rfl (c_impl_copyMatrix p_x t_6 ht_6 _ m hS.vis s1 h1) ?_
 rintro a w _ ⟨q8,s8,rfl,hR7,h8,h8n⟩ hF hS2
 have hS : St _ _ _ _ [q8,q5,[⟨b2,[nilS.v,nilS.v,nilS.v,(iV 0)],74⟩]]:=hS.joinF hR7
 refine q_m hF rfl fun a hF=>q_m hF rfl fun a hF=>?_
 obtain ⟨t_9,ht_9,hr⟩:=bindS hr
 refine q_call (vs:=[s1.v]) hF hS Try.func105 (by kernel_rfl) rfl rfl rfl (c_impl_colSums p_x t_9 ht_9 _ m hS.vis s1 h1) ?_
 rintro a w _ ⟨q11,s11,rfl,hR10,h11⟩ hF hS2
 have hS : St _ _ _ _ [q11,q8,q5,[⟨b2,[nilS.v,nilS.v,nilS.v,(iV 0)],74⟩]]:=hS.joinF hR10
 refine q_m hF rfl fun a hF=>?_
 obtain ⟨m13,hl13,hv13,hz13⟩:=hS.lend
 obtain ⟨t_12,ht_12,hr⟩:=bindS hr
 refine q_call (vs:=[s5.v]) hF hS Try.func80 (by kernel_rfl) rfl rfl rfl (c_impl_total t_3 t_12 ht_12 _ m13 hv13 s5 (h5.froz hl13 (hz13 2 _ rfl))) ?_
 rintro a w _ rfl hF hS
 refine q_y (v:=(.agg #[s8.v,s5.v,s11.v,(iV t_12)])) hF hS (ex_build (cells:=[s8.v,s5.v,s11.v,(iV t_12)]) rfl (by kernel_rfl)) fun a hF=>q_store (vs:=[s8.v,s5.v,s11.v,(iV t_12)]) (cs':=[s8.v,s5.v,s11.v,(iV t_12)]) 3 0 hF hS sz74 rfl rfl rfl rfl rfl rfl rfl rfl fun a w hF hS=>q_end (n_sq (q_ret ?_))
 obtain rfl:=someI hr
 exact ret_of hF hS rfl (.cellA (us:=[s8.v,s5.v,s11.v,(iV t_12)]) 3 0 U74 rfl sz74 rfl rfl rfl rfl .nil) ⟨q8,q5,q11,s8,s5,s11,rfl,hS.sel [1,2,0] (by decide),h8,h5,h11⟩

theorem c_impl_roundingOf (p_x : List (List Int)) (p_base : Int) (p_flow : List (List Int)) (r : impl_Rounding) (hr : impl_roundingOf p_x p_base p_flow = some r) (w0 : World) (m : Mem) (hv : Vis m w0) (s1 : Sl) (h1 : Rd m s1 p_x) (s2 : Sl) (h2 : Rd m s2 p_flow) :
  Ret Try.prog 138 [s1.v,(iV p_base),s2.v] w0 (fun v w=>∃ (q0' : Piece) (q1' : Piece) (q2' : Piece) (s0' : Sl) (s1' : Sl) (s2' : Sl),v = (.agg #[s0'.v,s1'.v,s2'.v,(iV r.Total)])∧St [] w0 w m [q0',q1',q2']∧OwnD m 28 3 q0' s0' r.Cells∧OwnL m 3 q1' s1' r.Rows∧OwnL m 3 q2' s2' r.Cols):=by
 unfold impl_roundingOf at hr
 refine ret_start Try.func138 rfl 41 rfl rfl m hv fun a hF hS=>q_sr (q_alloc (cs:=[nilS.v,nilS.v,nilS.v,(iV 0)]) hF hS rfl rfl rfl fun a w b3 hF hS=>q_end (n_sq (q_sr (q_m hF rfl fun a hF=>?_))))
 obtain ⟨t_4,ht_4,hr⟩:=bindS hr
 refine q_call (vs:=[s1.v]) hF hS Try.func75 (by kernel_rfl) rfl rfl rfl (c_impl_copyMatrix p_x t_4 ht_4 _ m hS.vis s1 h1) ?_
 rintro a w _ ⟨q6,s6,rfl,hR5,h6,h6n⟩ hF hS2
 have hS : St _ _ _ _ [q6,[⟨b3,[nilS.v,nilS.v,nilS.v,(iV 0)],74⟩]]:=hS.joinF hR5
 refine q_s hF rfl fun a hF=>q_end (n_sq (q_seq (q_sr (q_m hF rfl fun a hF=>q_y (v:=(iV (goLen t_4))) hF hS (ex_len U23 rfl h6.len) fun a hF=>q_m hF rfl fun a hF=>q_end (n_sq (q_block ?_))))))
 obtain ⟨cells_27,hl1,hr⟩:=bindS hr
 refine q_loop (fun (s : (List (List Int)) × Int) a w=>∃ (q8 : Piece),∃ cells_7,∃ t_9,s = (cells_7,t_9)∧Fr a 41 [(1,(iV p_base)),(2,s2.v),(6,(pP b3 0)),(7,s6.v),(13,s6.v),(14,(iV (goLen t_4))),(15,(iV t_9))]∧St [] w0 w m [q8,[⟨b3,[nilS.v,nilS.v,nilS.v,(iV 0)],74⟩]]∧OwnD m 28 3 q8 s6 cells_7) (fun (cells_27 : (List (List Int))) e a w=>∃ (q28 : Piece),e = .exit 0∧Fr a 41 [(6,(pP b3 0)),(7,s6.v)]∧St [] w0 w m [q28,[⟨b3,[nilS.v,nilS.v,nilS.v,(iV 0)],74⟩]]∧OwnD m 28 3 q28 s6 cells_27) hl1 ⟨q6,_,_,rfl,hF.sub ⟨rfl,rfl,rfl,rfl,rfl,rfl,rfl,trivial⟩,hS,h6⟩ ?_ ?_
 ·clear hF hS
  rintro s a w st ⟨q8,cells_7,t_9,rfl,hF,hS,h8⟩ hb1
  unfold impl_roundingOf_l1 at hb1
  refine q_sr (q_y (v:=(.bool (decide (t_9 < (goLen t_4))))) hF hS (ex_ibin rfl rfl rfl) fun a hF=>q_end (n_sq (q_seq ?_)))
  rcases bcase (decide (t_9 < (goLen t_4))) with hc2 | hc2
  ·have hb1:=cond_f hc2 hb1
   refine q_cond_f hF rfl hc2 (q_exit (x_sq ?_))
   obtain rfl:=someI hb1
   exact ⟨nofun,.inl ⟨q8,rfl,hF.sub ⟨rfl,rfl,trivial⟩,hS,h8⟩⟩
  ·have hb1:=cond_t hc2 hb1
   refine q_cond_t hF rfl hc2 (q_skipc (n_sq (q_seq (q_block (q_sr (q_m hF rfl fun a hF=>?_))))))
   obtain ⟨e_10,he_10,hb1⟩:=bindS hb1
   obtain ⟨s11,hV11⟩:=h8.view he_10
   refine q_y (v:=(elP s6 (t_9.toNat * 1))) hF hS (ex_indexAddr U23 sz28 rfl rfl (h8.idx he_10)) fun a hF=>q_y (v:=s11.v) hF hS (ex_loadE1 0 U28 rfl rfl ((hV11.atH he_10).at 0 rfl) rfl rfl) fun a hF=>q_s hF rfl fun a hF=>q_s hF rfl fun a hF=>q_end (n_sq (q_sr (q_m hF rfl fun a hF=>q_y (v:=(iV (goLen e_10))) hF hS (ex_len U28 rfl (hV11.len he_10)) fun a hF=>q_m hF rfl fun a hF=>q_end (n_sq (q_block ?_)))))
   obtain ⟨cells_25,hl3,hb1⟩:=bindS hb1
   refine q_loop (fun (s : (List (List Int)) × Int × (List Int)) a w=>∃ (q13 : Piece),∃ cells_12,∃ t_14,∃ row_15,s = (cells_12,t_14,row_15)∧Fr a 41 [(1,(iV p_base)),(2,s2.v),(6,(pP b3 0)),(7,s6.v),(8,(iV t_9)),(9,s11.v),(13,s6.v),(14,(iV (goLen t_4))),(15,(iV t_9)),(21,(iV (goLen e_10))),(22,(iV t_14))]∧St [] w0 w m [q13,[⟨b3,[nilS.v,nilS.v,nilS.v,(iV 0)],74⟩]]∧OwnD m 28 3 q13 s6 cells_12∧ViewD m 28 3 q13 s6 cells_12 t_9 s11∧goAt cells_12 t_9 = some row_15) (fun (cells_25 : (List (List Int))) e a w=>∃ (q26 : Piece),e = .exit 2∧Fr a 41 [(1,(iV p_base)),(2,s2.v),(6,(pP b3 0)),(7,s6.v),(13,s6.v),(14,(iV (goLen t_4))),(15,(iV t_9))]∧St [] w0 w m [q26,[⟨b3,[nilS.v,nilS.v,nilS.v,(iV 0)],74⟩]]∧OwnD m 28 3 q26 s6 cells_25) hl3 ⟨q8,_,_,_,rfl,hF.sub ⟨rfl,rfl,rfl,rfl,rfl,rfl,rfl,rfl,rfl,rfl,rfl,trivial⟩,hS,h8,hV11,he_10⟩ ?_ ?_
   ·clear hF hS
    rintro s a w st ⟨q13,cells_12,t_14,row_15,rfl,hF,hS,h13,h16,h16x⟩ hb3
    unfold impl_roundingOf_l2 at hb3
    refine q_sr (q_y (v:=(.bool (decide (t_14 < (goLen e_10))))) hF hS (ex_ibin rfl rfl rfl) fun a hF=>q_end (n_sq (q_seq ?_)))
    rcases bcase (decide (t_14 < (goLen e_10))) with hc4 | hc4
    ·have hb3:=cond_f hc4 hb3
     refine q_cond_f hF rfl hc4 (q_exit (x_sq ?_))
     obtain rfl:=someI hb3
     exact ⟨nofun,.inl ⟨q13,rfl,hF.sub ⟨rfl,rfl,rfl,rfl,rfl,rfl,rfl,trivial⟩,hS,h13⟩⟩
    ·have hb3:=cond_t hc4 hb3
     refine q_cond_t hF rfl hc4 (q_skipc (n_sq (q_seq (q_block (q_sr (q_m hF rfl fun a hF=>q_s hF rfl fun a hF=>q_end (n_sq (q_region (q_m hF rfl fun a hF=>q_m hF rfl fun a hF=>q_m hF rfl fun a hF=>q_m hF rfl fun a hF=>?_)))))))))
     obtain ⟨e_17,he_17,hb3⟩:=bindS hb3
     obtain ⟨vs18,at18,d18⟩:=h2.at he_17 1 rfl
     obtain ⟨s19,rfl,h19⟩ : ∃ s19 : Sl,vs18 = [s19.v]∧Rd m s19 e_17:=d18
     refine q_y (v:=(elP s2 (t_9.toNat * 1))) hF hS (ex_indexAddr U23 sz28 rfl rfl (h2.idx he_17)) fun a hF=>q_y (v:=s19.v) hF hS (ex_loadE1 0 U28 rfl rfl ((at18).at) rfl rfl) fun a hF=>q_m hF rfl fun a hF=>?_
     obtain ⟨e_20,he_20,hb3⟩:=bindS hb3
     obtain ⟨vs21,at21,d21⟩:=h19.at he_20 1 rfl
     obtain rfl : vs21 = [(iV e_20)]:=d21
     refine q_y (v:=(elP s19 (t_14.toNat * 1))) hF hS (ex_indexAddr U28 sz3 rfl rfl (h19.idx he_20)) fun a hF=>q_y (v:=(iV e_20)) hF hS (ex_loadE1 0 U3 rfl rfl ((at21).at) rfl rfl) fun a hF=>q_m hF rfl fun a hF=>q_y (v:=(iV (w64 (e_20 * p_base)))) hF hS (ex_ibin rfl rfl rfl) fun a hF=>?_
     obtain ⟨e_22,he_22,hb3⟩:=bindS hb3
     obtain ⟨vs23,at23,d23⟩:=h16.at h16x he_22 1 rfl
     obtain rfl : vs23 = [(iV e_22)]:=d23
     refine q_y (v:=(elP s11 (t_14.toNat * 1))) hF hS (ex_indexAddr U28 sz3 rfl rfl (h16.idx h16x he_22)) fun a hF=>q_do rfl fun _ hK=>wp_storeV (e':=(w64 (e_20 * p_base))) (us:=[(iV (w64 (e_20 * p_base)))]) (vs:=[(iV e_22)]) 0 hF hS h16 h16x sz3 rfl rfl rfl rfl rfl rfl rfl he_22 at23 rfl rfl rfl fun w q24 hS h24=>hK _ _ (q_end (n_ib (n_sq (q_region (q_y (v:=(iV (w64 (t_14 + 1)))) hF hS (ex_ibin rfl rfl rfl) fun a hF=>q_m hF rfl fun a hF=>q_end ?_)))))
     obtain rfl:=someI hb3
     exact ⟨rfl,q24,_,_,_,rfl,hF.sub ⟨rfl,rfl,rfl,rfl,rfl,rfl,rfl,rfl,rfl,rfl,rfl,trivial⟩,hS,h24.own,h24,(goAt_goSet h16x)⟩
   ·rintro e a w ⟨q26,rfl,hF,hS,h26⟩
    refine x_ib (n_ib (n_sq ?_))
    refine q_region (q_y (v:=(iV (w64 (t_9 + 1)))) hF hS (ex_ibin rfl rfl rfl) fun a hF=>q_m hF rfl fun a hF=>q_end ?_)
    obtain rfl:=someI hb1
    exact ⟨rfl,q26,_,_,rfl,hF.sub ⟨rfl,rfl,rfl,rfl,rfl,rfl,rfl,trivial⟩,hS,h26⟩
 ·rintro e a w ⟨q28,rfl,hF,hS,h28⟩
  refine x_ib (n_sq ?_)
  refine q_sr (q_m hF rfl fun a hF=>?_)
  obtain ⟨m30,hl30,hv30,hz30⟩:=hS.lend
  obtain ⟨t_29,ht_29,hr⟩:=bindS hr
  refine q_call (vs:=[s6.v]) hF hS Try.func142 (by kernel_rfl) rfl rfl rfl (c_impl_summed cells_27 t_29 ht_29 _ m30 hv30 s6 (h28.froz hl30 (hz30 0 _ rfl))) ?_
  rintro a w _ ⟨q32,q33,q34,s32,s33,s34,rfl,hR31,h32,h33,h34⟩ hF hS2
  have hS : St _ _ _ _ [q32,q33,q34,q28,[⟨b3,[nilS.v,nilS.v,nilS.v,(iV 0)],74⟩]]:=hS.joinF hR31
  have h32:=h32.any m
  have h33:=h33.any m
  have h34:=h34.any m
  refine q_store (vs:=[s32.v,s33.v,s34.v,(iV t_29.Total)]) (cs':=[s32.v,s33.v,s34.v,(iV t_29.Total)]) 4 0 hF hS sz74 rfl rfl rfl rfl rfl rfl rfl rfl fun a w hF hS=>q_end (n_sq (q_ret ?_))
  obtain rfl:=someI hr
  exact ret_of hF hS rfl (.cellA (us:=[s32.v,s33.v,s34.v,(iV t_29.Total)]) 4 0 U74 rfl sz74 rfl rfl rfl rfl .nil) ⟨q32,q33,q34,s32,s33,s34,rfl,hS.sel [0,1,2] (by decide),h32,h33,h34⟩

theorem c_impl_FirstRounding (p_x : List (List Int)) (p_base : Int) (r : impl_Rounding × Bool) (hr : impl_FirstRounding p_x p_base = some r) (w0 : World) (m : Mem) (hv : Vis m w0) (s1 : Sl) (h1 : Rd m s1 p_x) :
  Ret Try.prog 59 [s1.v,(iV p_base)] w0 (fun v w=>∃ (q0' : Piece) (q1' : Piece) (q2' : Piece) (s0' : Sl) (s1' : Sl) (s2' : Sl),v = (.tuple #[(.agg #[s0'.v,s1'.v,s2'.v,(iV r.1.Total)]),(.bool r.2)])∧St [] w0 w m [q0',q1',q2']∧OwnD m 28 3 q0' s0' r.1.Cells∧OwnL m 3 q1' s1' r.1.Rows∧OwnL m 3 q2' s2' r.1.Cols):=by
 unfold impl_FirstRounding at hr
 refine ret_start Try.func59 rfl 27 rfl rfl m hv fun a hF hS=>q_sr (q_alloc (cs:=[nilS.v,nilS.v,nilS.v,(iV 0)]) hF hS rfl rfl rfl fun a w b2 hF hS=>q_s hF rfl fun a hF=>q_end (n_sq (q_seq (q_seq ?_))))
 obtain ⟨t_5,hj1,hr⟩:=bindS hr
 refine q_join (fun a w=>Fr a 27 [(0,s1.v),(1,(iV p_base)),(4,(pP b2 0)),(14,(.bool t_5))]∧St [] w0 w m [[⟨b2,[nilS.v,nilS.v,nilS.v,(iV 0)],74⟩]]) ?_ ?_
 ·refine q_region (q_m hF rfl fun a hF=>?_)
  obtain ⟨t_3,ht_3,hj1⟩:=bindS hj1
  refine q_call (vs:=[s1.v]) hF hS Try.func135 (by kernel_rfl) rfl rfl rfl (c_impl_isMatrix p_x t_3 ht_3 _ m hS.vis s1 h1) ?_
  rintro a w _ rfl hF hS
  refine q_y (v:=(.bool (!t_3))) hF hS (ex_not rfl) fun a hF=>q_m hF rfl fun a hF=>?_
  rcases bcase (!t_3) with hc2 | hc2
  ·have hj1:=cond_f hc2 hj1
   refine q_g (v:=(iV p_base)) hF hS (ex_move rfl) hc2 fun a hF=>?_
   obtain ⟨t_4,ht_4,hj1⟩:=bindS hj1
   refine q_callg (vs:=[(iV p_base)]) hF hS (wanted_t hF rfl rfl rfl hc2) Try.func136 (by kernel_rfl) rfl rfl rfl (c_impl_isBaseOf p_base t_4 ht_4 _ m hS.vis) ?_
   rintro a w _ rfl hF hS
   refine q_g (v:=(.bool (!t_4))) hF hS (ex_not rfl) hc2 fun a hF=>q_y (v:=(.bool (!t_4))) hF hS (ex_pick_f rfl rfl hc2) fun a hF=>q_end (n_jn ?_)
   obtain rfl:=someI hj1
   exact ⟨hF.sub ⟨rfl,rfl,rfl,rfl,trivial⟩,hS⟩
  ·have hj1:=cond_t hc2 hj1
   refine q_k hF hc2 fun a hF=>q_k hF hc2 fun a hF=>q_k hF hc2 fun a hF=>q_y (v:=(.bool true)) hF hS (ex_pick_t rfl rfl hc2) fun a hF=>q_end (n_jn ?_)
   obtain rfl:=someI hj1
   exact ⟨hF.sub ⟨rfl,rfl,rfl,rfl,trivial⟩,hS⟩
 ·rintro a w ⟨hF,hS⟩
  refine n_sq ?_
  rcases bcase (t_5) with hc3 | hc3
  ·have hr:=cond_f hc3 hr
   refine q_cond_f hF rfl hc3 (q_skipc (n_sq (q_sr (q_m hF rfl fun a hF=>q_m hF rfl fun a hF=>?_))))
   obtain ⟨t_6,ht_6,hr⟩:=bindS hr
   refine q_call (vs:=[s1.v,(iV p_base)]) hF hS Try.func137 (by kernel_rfl) rfl rfl rfl (c_impl_roundingNetwork p_x p_base t_6 ht_6 _ m hS.vis s1 h1) ?_
   rintro a w _ ⟨q8,q9,q10,q11,s8,s9,s10,s11,rfl,hR7,h8,h9,h10,h11⟩ hF hS2
   have hS : St _ _ _ _ [q8,q9,q10,q11,[⟨b2,[nilS.v,nilS.v,nilS.v,(iV 0)],74⟩]]:=hS.joinF hR7
   obtain ⟨m13,hl13,hv13,hz13⟩:=hS.lend
   obtain ⟨t_12,ht_12,hr⟩:=bindS hr
   refine q_call (vs:=[(.agg #[s8.v,s9.v,s10.v,s11.v])]) hF hS Try.func117 (by kernel_rfl) rfl rfl rfl (c_impl_firstFlow t_6 t_12 ht_12 _ m13 hv13 s8 (h8.froz hl13 (hz13 0 _ rfl)) s9 (h9.froz hl13 (hz13 1 _ rfl)) s10 (h10.froz hl13 (hz13 2 _ rfl)) s11 (h11.froz hl13 (hz13 3 _ rfl))) ?_
   rintro a w _ ⟨q15,s15,rfl,hR14,h15,h15n⟩ hF hS2
   have hS : St _ _ _ _ [q15,q8,q9,q10,q11,[⟨b2,[nilS.v,nilS.v,nilS.v,(iV 0)],74⟩]]:=hS.joinF hR14
   have h15:=h15.any m
   refine q_s hF rfl fun a hF=>q_end (n_sq (q_seq (q_sr (q_m hF rfl fun a hF=>q_y (v:=(.bool t_12.isEmpty)) hF hS (ex_eqNilF U23 h15n h15.nilE rfl rfl) fun a hF=>q_end (n_sq ?_)))))
   rcases bcase (t_12.isEmpty) with hc4 | hc4
   ·have hr:=cond_f hc4 hr
    refine q_cond_f hF rfl hc4 (q_skipc (n_sq (q_sr (q_m hF rfl fun a hF=>q_m hF rfl fun a hF=>q_m hF rfl fun a hF=>?_))))
    obtain ⟨m17,hl17,hv17,hz17⟩:=hS.lend
    obtain ⟨t_16,ht_16,hr⟩:=bindS hr
    refine q_call (vs:=[s1.v,(iV p_base),s15.v]) hF hS Try.func138 (by kernel_rfl) rfl rfl rfl (c_impl_roundingOf p_x p_base t_12 t_16 ht_16 _ m17 hv17 s1 (h1.mono hl17) s15 (h15.froz hl17 (hz17 0 _ rfl))) ?_
    rintro a w _ ⟨q19,q20,q21,s19,s20,s21,rfl,hR18,h19,h20,h21⟩ hF hS2
    have hS : St _ _ _ _ [q19,q20,q21,q15,q8,q9,q10,q11,[⟨b2,[nilS.v,nilS.v,nilS.v,(iV 0)],74⟩]]:=hS.joinF hR18
    have h19:=h19.any m
    have h20:=h20.any m
    have h21:=h21.any m
    refine q_store (vs:=[s19.v,s20.v,s21.v,(iV t_16.Total)]) (cs':=[s19.v,s20.v,s21.v,(iV t_16.Total)]) 8 0 hF hS sz74 rfl rfl rfl rfl rfl rfl rfl rfl fun a w hF hS=>q_s hF rfl fun a hF=>q_end (n_sq (q_ret ?_))
    obtain rfl:=someI hr
    exact ret_of hF hS rfl (.cellA (us:=[s19.v,s20.v,s21.v,(iV t_16.Total)]) 8 0 U74 rfl sz74 rfl rfl rfl rfl (.tmp rfl .nil)) ⟨q19,q20,q21,s19,s20,s21,rfl,hS.sel [0,1,2] (by decide),h19,h20,h21⟩
   ·have hr:=cond_t hc4 hr
    refine q_cond_t hF rfl hc4 (q_sr (q_y (v:=(.agg #[nilS.v,nilS.v,nilS.v,(iV 0)])) hF hS (ex_build (cells:=[nilS.v,nilS.v,nilS.v,(iV 0)]) rfl (by kernel_rfl)) fun a hF=>q_store (vs:=[nilS.v,nilS.v,nilS.v,(iV 0)]) (cs':=[nilS.v,nilS.v,nilS.v,(iV 0)]) 5 0 hF hS sz74 rfl rfl rfl rfl rfl rfl rfl rfl fun a w hF hS=>q_s hF rfl fun a hF=>q_end (n_sq (q_ret (r_sq ?_)))))
    obtain rfl:=someI hr
    exact ret_of hF hS rfl (.cellA (us:=[nilS.v,nilS.v,nilS.v,(iV 0)]) 5 0 U74 rfl sz74 rfl rfl rfl rfl (.tmp rfl .nil)) ⟨[],[],[],nilS,nilS,nilS,rfl,hS.sel [6,7,8] (by decide),(OwnD.nil (β:=Int) m 28 3),(OwnL.nil (α:=Int) m 3),(OwnL.nil (α:=Int) m 3)⟩
  ·have hr:=cond_t hc3 hr
   refine q_cond_t hF rfl hc3 (q_sr (q_y (v:=(.agg #[nilS.v,nilS.v,nilS.v,(iV 0)])) hF hS (ex_build (cells:=[nilS.v,nilS.v,nilS.v,(iV 0)]) rfl (by kernel_rfl)) fun a hF=>q_store (vs:=[nilS.v,nilS.v,nilS.v,(iV 0)]) (cs':=[nilS.v,nilS.v,nilS.v,(iV 0)]) 0 0 hF hS sz74 rfl rfl rfl rfl rfl rfl rfl rfl fun a w hF hS=>q_s hF rfl fun a hF=>q_end (n_sq (q_ret (r_sq ?_)))))
   obtain rfl:=someI hr
   exact ret_of hF hS rfl (.cellA (us:=[nilS.v,nilS.v,nilS.v,(iV 0)]) 0 0 U74 rfl sz74 rfl rfl rfl rfl (.tmp rfl .nil)) ⟨[],[],[],nilS,nilS,nilS,rfl,hS.sel [1,2,3] (by decide),(OwnD.nil (β:=Int) m 28 3),(OwnL.nil (α:=Int) m 3),(OwnL.nil (α:=Int) m 3)⟩

theorem c_spec_l1In (p_n : Int) (p_lo : Int) (p_hi : Int) (r : Bool) (hr : spec_l1In p_n p_lo p_hi = some r) (w0 : World) (m : Mem) (hv : Vis m w0) :
  Ret Try.prog 77 [(iV p_n),(iV p_lo),(iV p_hi)] w0 (fun v _=>v = (.bool r)):=by
 unfold spec_l1In at hr
 refine ret_start Try.func77 rfl 15 rfl rfl m hv fun a hF hS=>q_sr (q_s hF rfl fun a hF=>q_end (n_sq (q_seq ?_)))
 obtain ⟨t_1,hj1,hr⟩:=bindS hr
 refine q_join (fun a w=>Fr a 15 [(6,(.bool t_1))]∧St [] w0 w m []) ?_ ?_
 ·refine q_region (q_m hF rfl fun a hF=>q_m hF rfl fun a hF=>q_y (v:=(.bool (decide (p_lo ≤ p_n)))) hF hS (ex_ibin rfl rfl rfl) fun a hF=>q_m hF rfl fun a hF=>?_)
  rcases bcase (decide (p_lo ≤ p_n)) with hc2 | hc2
  ·have hj1:=cond_f hc2 hj1
   refine q_k hF hc2 fun a hF=>q_k hF hc2 fun a hF=>q_k hF hc2 fun a hF=>q_y (v:=(.bool false)) hF hS (ex_pick_f rfl rfl hc2) fun a hF=>q_s hF rfl fun a hF=>q_end (n_jn ?_)
   obtain rfl:=someI hj1
   exact ⟨hF.sub ⟨rfl,trivial⟩,hS⟩
  ·have hj1:=cond_t hc2 hj1
   refine q_g (v:=(iV p_n)) hF hS (ex_move rfl) hc2 fun a hF=>q_g (v:=(iV p_hi)) hF hS (ex_move rfl) hc2 fun a hF=>q_g (v:=(.bool (decide (p_n ≤ p_hi)))) hF hS (ex_ibin rfl rfl rfl) hc2 fun a hF=>q_y (v:=(.bool (decide (p_n ≤ p_hi)))) hF hS (ex_pick_t rfl rfl hc2) fun a hF=>q_s hF rfl fun a hF=>q_end (n_jn ?_)
   obtain rfl:=someI hj1
   exact ⟨hF.sub ⟨rfl,trivial⟩,hS⟩
 ·rintro a w ⟨hF,hS⟩
  refine n_sq (q_ret ?_)
  obtain rfl:=someI hr
  exact ret_of hF hS rfl (.tmp rfl .nil) rfl

theorem c_spec_l1All (p_l : List Int) (p_lo : Int) (p_hi : Int) (r : Bool) (hr : spec_l1All p_l p_lo p_hi = some r) (w0 : World) (m : Mem) (hv : Vis m w0) (s1 : Sl) (h1 : Rd m s1 p_l) :
  Ret Try.prog 152 [s1.v,(iV p_lo),(iV p_hi)] w0 (fun v _=>v = (.bool r)):=by
 unfold spec_l1All at hr
 refine ret_start Try.func152 rfl 21 rfl rfl m hv fun a hF hS=>q_sr (q_s hF rfl fun a hF=>q_end (n_sq (q_seq (q_sr (q_m hF rfl fun a hF=>q_y (v:=(iV (goLen p_l))) hF hS (ex_len U28 rfl h1.len) fun a hF=>q_m hF rfl fun a hF=>q_end (n_sq (q_block ?_)))))))
 obtain ⟨o1,hl1,hr⟩:=bindS hr
 refine q_loop (fun (t_2 : Int) a w=>Fr a 21 [(1,(iV p_lo)),(2,(iV p_hi)),(9,s1.v),(10,(iV (goLen p_l))),(11,(iV t_2))]∧St [] w0 w m []) (fun (o : (Unit) ⊕ (Bool)) e a w=>o = .inl ()∧e = .exit 0∧Fr a 21 []∧St [] w0 w m []) hl1 ⟨hF.sub ⟨rfl,rfl,rfl,rfl,rfl,trivial⟩,hS⟩ ?_ ?_
 ·clear hF hS
  rintro t_2 a w st ⟨hF,hS⟩ hb1
  unfold spec_l1All_l1 at hb1
  refine q_sr (q_y (v:=(.bool (decide (t_2 < (goLen p_l))))) hF hS (ex_ibin rfl rfl rfl) fun a hF=>q_end (n_sq (q_seq ?_)))
  rcases bcase (decide (t_2 < (goLen p_l))) with hc2 | hc2
  ·have hb1:=cond_f hc2 hb1
   refine q_cond_f hF rfl hc2 (q_exit (x_sq ?_))
   obtain rfl:=someI hb1
   exact ⟨nofun,.inl ⟨rfl,rfl,hF.sub trivial,hS⟩⟩
  ·have hb1:=cond_t hc2 hb1
   refine q_cond_t hF rfl hc2 (q_skipc (n_sq (q_seq (q_block (q_seq (q_region ?_))))))
   obtain ⟨e_3,he_3,hb1⟩:=bindS hb1
   obtain ⟨vs4,at4,d4⟩:=h1.at he_3 1 rfl
   obtain rfl : vs4 = [(iV e_3)]:=d4
   refine q_y (v:=(elP s1 (t_2.toNat * 1))) hF hS (ex_indexAddr U28 sz3 rfl rfl (h1.idx he_3)) fun a hF=>q_y (v:=(iV e_3)) hF hS (ex_loadE1 0 U3 rfl rfl ((at4).at) rfl rfl) fun a hF=>q_s hF rfl fun a hF=>q_end (n_sq (q_sr (q_m hF rfl fun a hF=>q_m hF rfl fun a hF=>q_m hF rfl fun a hF=>?_)))
   obtain ⟨t_5,ht_5,hb1⟩:=bindS hb1
   refine q_call (vs:=[(iV e_3),(iV p_lo),(iV p_hi)]) hF hS Try.func77 (by kernel_rfl) rfl rfl rfl (c_spec_l1In e_3 p_lo p_hi t_5 ht_5 _ m hS.vis) ?_
   rintro a w _ rfl hF hS
   refine q_y (v:=(.bool (!t_5))) hF hS (ex_not rfl) fun a hF=>q_end (n_sq ?_)
   rcases bcase (!t_5) with hc3 | hc3
   ·have hb1:=cond_f hc3 hb1
    refine q_cond_f hF rfl hc3 (q_skipc (n_ib (n_sq (q_region (q_y (v:=(iV (w64 (t_2 + 1)))) hF hS (ex_ibin rfl rfl rfl) fun a hF=>q_m hF rfl fun a hF=>q_end ?_)))))
    obtain rfl:=someI hb1
    exact ⟨rfl,hF.sub ⟨rfl,rfl,rfl,rfl,rfl,trivial⟩,hS⟩
   ·have hb1:=cond_t hc3 hb1
    refine q_cond_t hF rfl hc3 (q_sr (q_s hF rfl fun a hF=>q_end (n_sq (q_ret (r_ib (r_sq ?_))))))
    obtain rfl:=someI hb1
    refine ⟨nofun,.inr fun ho=>?_⟩
    subst ho
    refine r_ib (r_sq ?_)
    obtain rfl:=someI hr
    exact ret_of hF hS rfl (.tmp rfl .nil) rfl
 ·rintro e a w ⟨rfl,rfl,hF,hS⟩
  refine x_ib (n_sq ?_)
  refine q_sr (q_s hF rfl fun a hF=>q_end (n_sq (q_ret ?_)))
  obtain rfl:=someI hr
  exact ret_of hF hS rfl (.tmp rfl .nil) rfl

theorem c_spec_oMatrix (p_x : List (List Int)) (r : Bool) (hr : spec_oMatrix p_x = some r) (w0 : World) (m : Mem) (hv : Vis m w0) (s1 : Sl) (h1 : Rd m s1 p_x) :
  Ret Try.prog 175 [s1.v] w0 (fun v _=>v = (.bool r)):=by
 unfold spec_oMatrix at hr
 refine ret_start Try.func175 rfl 36 rfl rfl m hv fun a hF hS=>q_sr (q_s hF rfl fun a hF=>q_end (n_sq (q_seq (q_seq ?_))))
 obtain ⟨t_7,hj1,hr⟩:=bindS hr
 refine q_join (fun a w=>Fr a 36 [(0,s1.v),(16,(.bool t_7))]∧St [] w0 w m []) ?_ ?_
 ·refine q_region (q_m hF rfl fun a hF=>q_y (v:=(iV (goLen p_x))) hF hS (ex_len U23 rfl h1.len) fun a hF=>?_)
  obtain ⟨t_2,ht_2,hj1⟩:=bindS hj1
  refine q_call (vs:=[(iV (goLen p_x)),(iV 1),(iV 7)]) hF hS Try.func77 (by kernel_rfl) rfl rfl rfl (c_spec_l1In (goLen p_x) 1 7 t_2 ht_2 _ m hS.vis) ?_
  rintro a w _ rfl hF hS
  refine q_y (v:=(.bool (!t_2))) hF hS (ex_not rfl) fun a hF=>q_m hF rfl fun a hF=>?_
  rcases bcase (!t_2) with hc2 | hc2
  ·have hj1:=cond_f hc2 hj1
   refine q_g (v:=s1.v) hF hS (ex_move rfl) hc2 fun a hF=>?_
   obtain ⟨e_3,he_3,hj1⟩:=bindS hj1
   obtain ⟨vs4,at4,d4⟩:=h1.at he_3 1 rfl
   obtain ⟨s5,rfl,h5⟩ : ∃ s5 : Sl,vs4 = [s5.v]∧Rd m s5 e_3:=d4
   refine q_g (v:=(elP s1 ((0 : Int).toNat * 1))) hF hS (ex_indexAddr U23 sz28 rfl rfl (h1.idx he_3)) hc2 fun a hF=>q_g (v:=s5.v) hF hS (ex_loadE1 0 U28 rfl rfl ((at4).at) rfl rfl) hc2 fun a hF=>q_g (v:=(iV (goLen e_3))) hF hS (ex_len U28 rfl h5.len) hc2 fun a hF=>?_
   obtain ⟨t_6,ht_6,hj1⟩:=bindS hj1
   refine q_callg (vs:=[(iV (goLen e_3)),(iV 1),(iV 7)]) hF hS (wanted_t hF rfl rfl rfl hc2) Try.func77 (by kernel_rfl) rfl rfl rfl (c_spec_l1In (goLen e_3) 1 7 t_6 ht_6 _ m hS.vis) ?_
   rintro a w _ rfl hF hS
   refine q_g (v:=(.bool (!t_6))) hF hS (ex_not rfl) hc2 fun a hF=>q_y (v:=(.bool (!t_6))) hF hS (ex_pick_f rfl rfl hc2) fun a hF=>q_end (n_jn ?_)
   obtain rfl:=someI hj1
   exact ⟨hF.sub ⟨rfl,rfl,trivial⟩,hS⟩
  ·have hj1:=cond_t hc2 hj1
   refine q_k hF hc2 fun a hF=>q_k hF hc2 fun a hF=>q_k hF hc2 fun a hF=>q_k hF hc2 fun a hF=>q_k hF hc2 fun a hF=>q_k hF hc2 fun a hF=>q_y (v:=(.bool true)) hF hS (ex_pick_t rfl rfl hc2) fun a hF=>q_end (n_jn ?_)
   obtain rfl:=someI hj1
   exact ⟨hF.sub ⟨rfl,rfl,trivial⟩,hS⟩
 ·rintro a w ⟨hF,hS⟩
  refine n_sq ?_
  rcases bcase (t_7) with hc3 | hc3
  ·have hr:=cond_f hc3 hr
   refine q_cond_f hF rfl hc3 (q_skipc (n_sq (q_seq (q_sr (q_m hF rfl fun a hF=>q_y (v:=(iV (goLen p_x))) hF hS (ex_len U23 rfl h1.len) fun a hF=>q_m hF rfl fun a hF=>q_end (n_sq (q_block ?_)))))))
   obtain ⟨o4,hl4,hr⟩:=bindS hr
   refine q_loop (fun (t_8 : Int) a w=>Fr a 36 [(0,s1.v),(17,s1.v),(18,(iV (goLen p_x))),(19,(iV t_8))]∧St [] w0 w m []) (fun (o : (Unit) ⊕ (Bool)) e a w=>o = .inl ()∧e = .exit 0∧Fr a 36 []∧St [] w0 w m []) hl4 ⟨hF.sub ⟨rfl,rfl,rfl,rfl,trivial⟩,hS⟩ ?_ ?_
   ·clear hF hS
    rintro t_8 a w st ⟨hF,hS⟩ hb4
    unfold spec_oMatrix_l1 at hb4
    refine q_sr (q_y (v:=(.bool (decide (t_8 < (goLen p_x))))) hF hS (ex_ibin rfl rfl rfl) fun a hF=>q_end (n_sq (q_seq ?_)))
    rcases bcase (decide (t_8 < (goLen p_x))) with hc5 | hc5
    ·have hb4:=cond_f hc5 hb4
     refine q_cond_f hF rfl hc5 (q_exit (x_sq ?_))
     obtain rfl:=someI hb4
     exact ⟨nofun,.inl ⟨rfl,rfl,hF.sub trivial,hS⟩⟩
    ·have hb4:=cond_t hc5 hb4
     refine q_cond_t hF rfl hc5 (q_skipc (n_sq (q_seq (q_block (q_seq (q_region ?_))))))
     obtain ⟨e_9,he_9,hb4⟩:=bindS hb4
     obtain ⟨vs10,at10,d10⟩:=h1.at he_9 1 rfl
     obtain ⟨s11,rfl,h11⟩ : ∃ s11 : Sl,vs10 = [s11.v]∧Rd m s11 e_9:=d10
     refine q_y (v:=(elP s1 (t_8.toNat * 1))) hF hS (ex_indexAddr U23 sz28 rfl rfl (h1.idx he_9)) fun a hF=>q_y (v:=s11.v) hF hS (ex_loadE1 0 U28 rfl rfl ((at10).at) rfl rfl) fun a hF=>q_s hF rfl fun a hF=>q_end (n_sq (q_seq ?_))
     obtain ⟨t_16,hj6,hb4⟩:=bindS hb4
     refine q_join (fun a w=>Fr a 36 [(0,s1.v),(17,s1.v),(18,(iV (goLen p_x))),(19,(iV t_8)),(34,(.bool t_16))]∧St [] w0 w m []) ?_ ?_
     ·refine q_region (q_m hF rfl fun a hF=>q_y (v:=(iV (goLen e_9))) hF hS (ex_len U28 rfl h11.len) fun a hF=>q_m hF rfl fun a hF=>?_)
      obtain ⟨e_12,he_12,hj6⟩:=bindS hj6
      obtain ⟨vs13,at13,d13⟩:=h1.at he_12 1 rfl
      obtain ⟨s14,rfl,h14⟩ : ∃ s14 : Sl,vs13 = [s14.v]∧Rd m s14 e_12:=d13
      refine q_y (v:=(elP s1 ((0 : Int).toNat * 1))) hF hS (ex_indexAddr U23 sz28 rfl rfl (h1.idx he_12)) fun a hF=>q_y (v:=s14.v) hF hS (ex_loadE1 0 U28 rfl rfl ((at13).at) rfl rfl) fun a hF=>q_y (v:=(iV (goLen e_12))) hF hS (ex_len U28 rfl h14.len) fun a hF=>q_y (v:=(.bool ((goLen e_9) != (goLen e_12)))) hF hS (ex_ibin rfl rfl rfl) fun a hF=>q_m hF rfl fun a hF=>?_
      rcases bcase ((goLen e_9) != (goLen e_12)) with hc7 | hc7
      ·have hj6:=cond_f hc7 hj6
       refine q_g (v:=s11.v) hF hS (ex_move rfl) hc7 fun a hF=>?_
       obtain ⟨t_15,ht_15,hj6⟩:=bindS hj6
       refine q_callg (vs:=[s11.v,(iV 0),(iV 10000)]) hF hS (wanted_t hF rfl rfl rfl hc7) Try.func152 (by kernel_rfl) rfl rfl rfl (c_spec_l1All e_9 0 10000 t_15 ht_15 _ m hS.vis s11 h11) ?_
       rintro a w _ rfl hF hS
       refine q_g (v:=(.bool (!t_15))) hF hS (ex_not rfl) hc7 fun a hF=>q_y (v:=(.bool (!t_15))) hF hS (ex_pick_f rfl rfl hc7) fun a hF=>q_end (n_jn ?_)
       obtain rfl:=someI hj6
       exact ⟨hF.sub ⟨rfl,rfl,rfl,rfl,rfl,trivial⟩,hS⟩
      ·have hj6:=cond_t hc7 hj6
       refine q_k hF hc7 fun a hF=>q_k hF hc7 fun a hF=>q_k hF hc7 fun a hF=>q_y (v:=(.bool true)) hF hS (ex_pick_t rfl rfl hc7) fun a hF=>q_end (n_jn ?_)
       obtain rfl:=someI hj6
       exact ⟨hF.sub ⟨rfl,rfl,rfl,rfl,rfl,trivial⟩,hS⟩
     ·rintro a w ⟨hF,hS⟩
      refine n_sq ?_
      rcases bcase (t_16) with hc8 | hc8
      ·have hb4:=cond_f hc8 hb4
       refine q_cond_f hF rfl hc8 (q_skipc (n_ib (n_sq (q_region (q_y (v:=(iV (w64 (t_8 + 1)))) hF hS (ex_ibin rfl rfl rfl) fun a hF=>q_m hF rfl fun a hF=>q_end ?_)))))
       obtain rfl:=someI hb4
       exact ⟨rfl,hF.sub ⟨rfl,rfl,rfl,rfl,trivial⟩,hS⟩
      ·have hb4:=cond_t hc8 hb4
       refine q_cond_t hF rfl hc8 (q_sr (q_s hF rfl fun a hF=>q_end (n_sq (q_ret (r_ib (r_sq ?_))))))
       obtain rfl:=someI hb4
       refine ⟨nofun,.inr fun ho=>?_⟩
       subst ho
       refine r_ib (r_sq ?_)
       obtain rfl:=someI hr
       exact ret_of hF hS rfl (.tmp rfl .nil) rfl
   ·rintro e a w ⟨rfl,rfl,hF,hS⟩
    refine x_ib (n_sq ?_)
    refine q_sr (q_s hF rfl fun a hF=>q_end (n_sq (q_ret ?_)))
    obtain rfl:=someI hr
    exact ret_of hF hS rfl (.tmp rfl .nil) rfl
  ·have hr:=cond_t hc3 hr
   refine q_cond_t hF rfl hc3 (q_sr (q_s hF rfl fun a hF=>q_end (n_sq (q_ret (r_sq ?_)))))
   obtain rfl:=someI hr
   exact ret_of hF hS rfl (.tmp rfl .nil) rfl

theorem c_spec_oGood (p_x : List (List Int)) (p_base : Int) (r : Bool) (hr : spec_oGood p_x p_base = some r) (w0 : World) (m : Mem) (hv : Vis m w0) (s1 : Sl) (h1 : Rd m s1 p_x) :
  Ret Try.prog 139 [s1.v,(iV p_base)] w0 (fun v _=>v = (.bool r)):=by
 unfold spec_oGood at hr
 refine ret_start Try.func139 rfl 11 rfl rfl m hv fun a hF hS=>q_sr (q_s hF rfl fun a hF=>q_end (n_sq (q_seq ?_)))
 obtain ⟨t_4,hj1,hr⟩:=bindS hr
 refine q_join (fun a w=>Fr a 11 [(4,(.bool t_4))]∧St [] w0 w m []) ?_ ?_
 ·refine q_region (q_m hF rfl fun a hF=>?_)
  obtain ⟨t_2,ht_2,hj1⟩:=bindS hj1
  refine q_call (vs:=[(iV p_base),(iV 2),(iV 100)]) hF hS Try.func77 (by kernel_rfl) rfl rfl rfl (c_spec_l1In p_base 2 100 t_2 ht_2 _ m hS.vis) ?_
  rintro a w _ rfl hF hS
  refine q_m hF rfl fun a hF=>?_
  rcases bcase (t_2) with hc2 | hc2
  ·have hj1:=cond_f hc2 hj1
   refine q_k hF hc2 fun a hF=>q_k hF hc2 fun a hF=>q_y (v:=(.bool false)) hF hS (ex_pick_f rfl rfl hc2) fun a hF=>q_s hF rfl fun a hF=>q_end (n_jn ?_)
   obtain rfl:=someI hj1
   exact ⟨hF.sub ⟨rfl,trivial⟩,hS⟩
  ·have hj1:=cond_t hc2 hj1
   refine q_g (v:=s1.v) hF hS (ex_move rfl) hc2 fun a hF=>?_
   obtain ⟨t_3,ht_3,hj1⟩:=bindS hj1
   refine q_callg (vs:=[s1.v]) hF hS (wanted_t hF rfl rfl rfl hc2) Try.func175 (by kernel_rfl) rfl rfl rfl (c_spec_oMatrix p_x t_3 ht_3 _ m hS.vis s1 h1) ?_
   rintro a w _ rfl hF hS
   refine q_y (v:=(.bool t_3)) hF hS (ex_pick_t rfl rfl hc2) fun a hF=>q_s hF rfl fun a hF=>q_end (n_jn ?_)
   obtain rfl:=someI hj1
   exact ⟨hF.sub ⟨rfl,trivial⟩,hS⟩
 ·rintro a w ⟨hF,hS⟩
  refine n_sq (q_ret ?_)
  obtain rfl:=someI hr
  exact ret_of hF hS rfl (.tmp rfl .nil) rfl

theorem c_spec_tOwn (p_x : List (List Int)) (r : (List (List Int))) (hr : spec_tOwn p_x = some r) (w0 : World) (m : Mem) (hv : Vis m w0) (s1 : Sl) (h1 : Rd m s1 p_x) :
  Ret Try.prog 145 [s1.v] w0 (fun v w=>∃ (q0' : Piece) (s0' : Sl),v = s0'.v∧St [] w0 w m [q0']∧OwnD m 28 3 q0' s0' r):=by
 unfold spec_tOwn at hr
 refine ret_start Try.func145 rfl 19 rfl rfl m hv fun a hF hS=>q_sr (q_s hF rfl fun a hF=>q_end (n_sq (q_sr (q_s hF rfl fun a hF=>q_end (n_sq (q_seq (q_sr (q_m hF rfl fun a hF=>q_y (v:=(iV (goLen p_x))) hF hS (ex_len U23 rfl h1.len) fun a hF=>q_m hF rfl fun a hF=>q_end (n_sq (q_block ?_))))))))))
 obtain ⟨out_14,hl1,hr⟩:=bindS hr
 refine q_loop (fun (s : (List (List Int)) × Int) a w=>∃ (q3 : Piece),∃ (s3 : Sl),∃ out_2,∃ t_4,s = (out_2,t_4)∧Fr a 19 [(3,s3.v),(6,s1.v),(7,(iV (goLen p_x))),(8,(iV t_4))]∧St [] w0 w m [q3]∧OwnD m 28 3 q3 s3 out_2) (fun (out_14 : (List (List Int))) e a w=>∃ (q15 : Piece),∃ (s15 : Sl),e = .exit 0∧Fr a 19 [(3,s15.v)]∧St [] w0 w m [q15]∧OwnD m 28 3 q15 s15 out_14) hl1 ⟨[],nilS,_,_,rfl,hF.sub ⟨rfl,rfl,rfl,rfl,trivial⟩,hS.sel [0] (by decide),(OwnD.nil (β:=Int) m 28 3)⟩ ?_ ?_
 ·clear hF hS
  rintro s a w st ⟨q3,s3,out_2,t_4,rfl,hF,hS,h3⟩ hb1
  unfold spec_tOwn_l1 at hb1
  refine q_sr (q_y (v:=(.bool (decide (t_4 < (goLen p_x))))) hF hS (ex_ibin rfl rfl rfl) fun a hF=>q_end (n_sq (q_seq ?_)))
  rcases bcase (decide (t_4 < (goLen p_x))) with hc2 | hc2
  ·have hb1:=cond_f hc2 hb1
   refine q_cond_f hF rfl hc2 (q_exit (x_sq ?_))
   obtain rfl:=someI hb1
   exact ⟨nofun,.inl ⟨q3,s3,rfl,hF.sub ⟨rfl,trivial⟩,hS,h3⟩⟩
  ·have hb1:=cond_t hc2 hb1
   refine q_cond_t hF rfl hc2 (q_skipc (n_sq (q_seq (q_block (q_seq (q_region ?_))))))
   obtain ⟨e_5,he_5,hb1⟩:=bindS hb1
   obtain ⟨vs6,at6,d6⟩:=h1.at he_5 1 rfl
   obtain ⟨s7,rfl,h7⟩ : ∃ s7 : Sl,vs6 = [s7.v]∧Rd m s7 e_5:=d6
   refine q_y (v:=(elP s1 (t_4.toNat * 1))) hF hS (ex_indexAddr U23 sz28 rfl rfl (h1.idx he_5)) fun a hF=>q_y (v:=s7.v) hF hS (ex_loadE1 0 U28 rfl rfl ((at6).at) rfl rfl) fun a hF=>q_s hF rfl fun a hF=>q_end (n_sq (q_region (q_m hF rfl fun a hF=>q_m hF rfl fun a hF=>?_)))
   obtain ⟨t_8,ht_8,hb1⟩:=bindS hb1
   refine q_call (vs:=[s7.v]) hF hS Try.func153 (by kernel_rfl) rfl rfl rfl (c_spec_l1Own e_5 t_8 ht_8 _ m hS.vis s7 h7) ?_
   rintro a w _ ⟨q10,s10,rfl,hR9,h10⟩ hF hS2
   have hS : St _ _ _ _ [q10,q3]:=hS.joinF hR9
   refine q_do rfl fun _ hK=>wp_build1D hF hS h10 U23 inf28 rfl rfl rfl fun a w q11 s11 hF hS h11 _=>hK _ _ ?_
   have hS : St _ _ _ _ [q3,q11]:=hS.sel [1,0] (by decide)
   obtain ⟨l_12,hl_12,hb1⟩:=bindS hb1
   refine q_do rfl fun _ hK=>wp_appendD hF hS h3 h11 U23 inf28 rfl rfl rfl (by decide) hl_12 rfl fun a w q13 s13 hF hS h13=>hK _ _ (q_s hF rfl fun a hF=>q_end (n_ib (n_sq (q_region (q_y (v:=(iV (w64 (t_4 + 1)))) hF hS (ex_ibin rfl rfl rfl) fun a hF=>q_m hF rfl fun a hF=>q_end ?_)))))
   obtain rfl:=someI hb1
   exact ⟨rfl,q13,s13,_,_,rfl,hF.sub ⟨rfl,rfl,rfl,rfl,trivial⟩,hS,h13⟩
 ·rintro e a w ⟨q15,s15,rfl,hF,hS,h15⟩
  refine x_ib (n_sq ?_)
  refine q_sr (q_m hF rfl fun a hF=>q_s hF rfl fun a hF=>q_end (n_sq (q_ret ?_)))
  obtain rfl:=someI hr
  exact ret_of hF hS rfl (.tmp rfl .nil) ⟨q15,s15,rfl,hS.sel [0] (by decide),h15⟩

theorem c_spec_tSum (p_l : List Int) (r : Int) (hr : spec_tSum p_l = some r) (w0 : World) (m : Mem) (hv : Vis m w0) (s1 : Sl) (h1 : Rd m s1 p_l) :
  Ret Try.prog 83 [s1.v] w0 (fun v _=>v = (iV r)):=by
 unfold spec_tSum at hr
 refine ret_start Try.func83 rfl 17 rfl rfl m hv fun a hF hS=>q_sr (q_s hF rfl fun a hF=>q_end (n_sq (q_sr (q_s hF rfl fun a hF=>q_end (n_sq (q_seq (q_sr (q_m hF rfl fun a hF=>q_y (v:=(iV (goLen p_l))) hF hS (ex_len U28 rfl h1.len) fun a hF=>q_m hF rfl fun a hF=>q_end (n_sq (q_block ?_))))))))))
 obtain ⟨sum_6,hl1,hr⟩:=bindS hr
 refine q_loop (fun (s : Int × Int) a w=>∃ sum_2,∃ t_3,s = (sum_2,t_3)∧Fr a 17 [(3,(iV sum_2)),(6,s1.v),(7,(iV (goLen p_l))),(8,(iV t_3))]∧St [] w0 w m []) (fun (sum_6 : Int) e a w=>e = .exit 0∧Fr a 17 [(3,(iV sum_6))]∧St [] w0 w m []) hl1 ⟨_,_,rfl,hF.sub ⟨rfl,rfl,rfl,rfl,trivial⟩,hS⟩ ?_ ?_
 ·clear hF hS
  rintro s a w st ⟨sum_2,t_3,rfl,hF,hS⟩ hb1
  unfold spec_tSum_l1 at hb1
  refine q_sr (q_y (v:=(.bool (decide (t_3 < (goLen p_l))))) hF hS (ex_ibin rfl rfl rfl) fun a hF=>q_end (n_sq (q_seq ?_)))
  rcases bcase (decide (t_3 < (goLen p_l))) with hc2 | hc2
  ·have hb1:=cond_f hc2 hb1
   refine q_cond_f hF rfl hc2 (q_exit (x_sq ?_))
   obtain rfl:=someI hb1
   exact ⟨nofun,.inl ⟨rfl,hF.sub ⟨rfl,trivial⟩,hS⟩⟩
  ·have hb1:=cond_t hc2 hb1
   refine q_cond_t hF rfl hc2 (q_skipc (n_sq (q_seq (q_block (q_seq (q_region ?_))))))
   obtain ⟨e_4,he_4,hb1⟩:=bindS hb1
   obtain ⟨vs5,at5,d5⟩:=h1.at he_4 1 rfl
   obtain rfl : vs5 = [(iV e_4)]:=d5
   refine q_y (v:=(elP s1 (t_3.toNat * 1))) hF hS (ex_indexAddr U28 sz3 rfl rfl (h1.idx he_4)) fun a hF=>q_y (v:=(iV e_4)) hF hS (ex_loadE1 0 U3 rfl rfl ((at5).at) rfl rfl) fun a hF=>q_s hF rfl fun a hF=>q_end (n_sq (q_region (q_m hF rfl fun a hF=>q_m hF rfl fun a hF=>q_y (v:=(iV (w64 (sum_2 + e_4)))) hF hS (ex_ibin rfl rfl rfl) fun a hF=>q_s hF rfl fun a hF=>q_end (n_ib (n_sq (q_region (q_y (v:=(iV (w64 (t_3 + 1)))) hF hS (ex_ibin rfl rfl rfl) fun a hF=>q_m hF rfl fun a hF=>q_end ?_)))))))
   obtain rfl:=someI hb1
   exact ⟨rfl,_,_,rfl,hF.sub ⟨rfl,rfl,rfl,rfl,trivial⟩,hS⟩
 ·rintro e a w ⟨rfl,hF,hS⟩
  refine x_ib (n_sq ?_)
  refine q_sr (q_m hF rfl fun a hF=>q_s hF rfl fun a hF=>q_end (n_sq (q_ret ?_)))
  obtain rfl:=someI hr
  exact ret_of hF hS rfl (.tmp rfl .nil) rfl

theorem c_spec_tColumn (p_x : List (List Int)) (p_j : Int) (r : (List Int)) (hr : spec_tColumn p_x p_j = some r) (w0 : World) (m : Mem) (hv : Vis m w0) (s1 : Sl) (h1 : Rd m s1 p_x) :
  Ret Try.prog 162 [s1.v,(iV p_j)] w0 (fun v w=>∃ (q0' : Piece) (s0' : Sl),v = s0'.v∧St [] w0 w m [q0']∧OwnL m 3 q0' s0' r):=by
 unfold spec_tColumn at hr
 refine ret_start Try.func162 rfl 23 rfl rfl m hv fun a hF hS=>q_sr (q_s hF rfl fun a hF=>q_end (n_sq (q_sr (q_s hF rfl fun a hF=>q_end (n_sq (q_seq (q_sr (q_m hF rfl fun a hF=>q_y (v:=(iV (goLen p_x))) hF hS (ex_len U23 rfl h1.len) fun a hF=>q_m hF rfl fun a hF=>q_end (n_sq (q_block ?_))))))))))
 obtain ⟨out_13,hl1,hr⟩:=bindS hr
 refine q_loop (fun (s : (List Int) × Int) a w=>∃ (q3 : Piece),∃ (s3 : Sl),∃ out_2,∃ t_4,s = (out_2,t_4)∧Fr a 23 [(1,(iV p_j)),(5,s3.v),(8,s1.v),(9,(iV (goLen p_x))),(10,(iV t_4))]∧St [] w0 w m [q3]∧OwnL m 3 q3 s3 out_2) (fun (out_13 : (List Int)) e a w=>∃ (q14 : Piece),∃ (s14 : Sl),e = .exit 0∧Fr a 23 [(5,s14.v)]∧St [] w0 w m [q14]∧OwnL m 3 q14 s14 out_13) hl1 ⟨[],nilS,_,_,rfl,hF.sub ⟨rfl,rfl,rfl,rfl,rfl,trivial⟩,hS.sel [0] (by decide),(OwnL.nil (α:=Int) m 3)⟩ ?_ ?_
 ·clear hF hS
  rintro s a w st ⟨q3,s3,out_2,t_4,rfl,hF,hS,h3⟩ hb1
  unfold spec_tColumn_l1 at hb1
  refine q_sr (q_y (v:=(.bool (decide (t_4 < (goLen p_x))))) hF hS (ex_ibin rfl rfl rfl) fun a hF=>q_end (n_sq (q_seq ?_)))
  rcases bcase (decide (t_4 < (goLen p_x))) with hc2 | hc2
  ·have hb1:=cond_f hc2 hb1
   refine q_cond_f hF rfl hc2 (q_exit (x_sq ?_))
   obtain rfl:=someI hb1
   exact ⟨nofun,.inl ⟨q3,s3,rfl,hF.sub ⟨rfl,trivial⟩,hS,h3⟩⟩
  ·have hb1:=cond_t hc2 hb1
   refine q_cond_t hF rfl hc2 (q_skipc (n_sq (q_seq (q_block (q_seq (q_region ?_))))))
   obtain ⟨e_5,he_5,hb1⟩:=bindS hb1
   obtain ⟨vs6,at6,d6⟩:=h1.at he_5 1 rfl
   obtain ⟨s7,rfl,h7⟩ : ∃ s7 : Sl,vs6 = [s7.v]∧Rd m s7 e_5:=d6
   refine q_y (v:=(elP s1 (t_4.toNat * 1))) hF hS (ex_indexAddr U23 sz28 rfl rfl (h1.idx he_5)) fun a hF=>q_y (v:=s7.v) hF hS (ex_loadE1 0 U28 rfl rfl ((at6).at) rfl rfl) fun a hF=>q_s hF rfl fun a hF=>q_end (n_sq (q_region (q_m hF rfl fun a hF=>q_m hF rfl fun a hF=>q_m hF rfl fun a hF=>?_)))
   obtain ⟨e_8,he_8,hb1⟩:=bindS hb1
   obtain ⟨vs9,at9,d9⟩:=h7.at he_8 1 rfl
   obtain rfl : vs9 = [(iV e_8)]:=d9
   refine q_y (v:=(elP s7 (p_j.toNat * 1))) hF hS (ex_indexAddr U28 sz3 rfl rfl (h7.idx he_8)) fun a hF=>q_y (v:=(iV e_8)) hF hS (ex_loadE1 0 U3 rfl rfl ((at9).at) rfl rfl) fun a hF=>q_do rfl fun _ hK=>wp_buildSlice' (l:=([e_8] : List Int)) (cells:=[(iV e_8)]) hF hS U28 inf3 rfl rfl (by kernel_rfl) rfl rfl rfl ⟨rfl,rfl⟩ rfl rfl fun a w q10 s10 hF hS h10 _=>hK _ _ ?_
   have hS : St _ _ _ _ [q3,q10]:=hS.sel [1,0] (by decide)
   obtain ⟨l_11,hl_11,hb1⟩:=bindS hb1
   refine q_do rfl fun _ hK=>wp_append hF hS h3 U28 inf3 rfl rfl rfl rfl (h10.vw hS (j:=1) rfl) rfl (by decide) hl_11 rfl fun a w q12 s12 hF hS h12=>hK _ _ (q_s hF rfl fun a hF=>q_end (n_ib (n_sq (q_region (q_y (v:=(iV (w64 (t_4 + 1)))) hF hS (ex_ibin rfl rfl rfl) fun a hF=>q_m hF rfl fun a hF=>q_end ?_)))))
   obtain rfl:=someI hb1
   exact ⟨rfl,q12,s12,_,_,rfl,hF.sub ⟨rfl,rfl,rfl,rfl,rfl,trivial⟩,hS.mask [true,false],h12⟩
 ·rintro e a w ⟨q14,s14,rfl,hF,hS,h14⟩
  refine x_ib (n_sq ?_)
  refine q_sr (q_m hF rfl fun a hF=>q_s hF rfl fun a hF=>q_end (n_sq (q_ret ?_)))
  obtain rfl:=someI hr
  exact ret_of hF hS rfl (.tmp rfl .nil) ⟨q14,s14,rfl,hS.sel [0] (by decide),h14⟩

theorem c_spec_oMargins (p_x : List (List Int)) (r : impl_Rounding) (hr : spec_oMargins p_x = some r) (w0 : World) (m : Mem) (hv : Vis m w0) (s1 : Sl) (h1 : Rd m s1 p_x) :
  Ret Try.prog 176 [s1.v] w0 (fun v w=>∃ (q0' : Piece) (q1' : Piece) (q2' : Piece) (s0' : Sl) (s1' : Sl) (s2' : Sl),v = (.agg #[s0'.v,s1'.v,s2'.v,(iV r.Total)])∧St [] w0 w m [q0',q1',q2']∧OwnD m 28 3 q0' s0' r.Cells∧OwnL m 3 q1' s1' r.Rows∧OwnL m 3 q2' s2' r.Cols):=by
 unfold spec_oMargins at hr
 refine ret_start Try.func176 rfl 46 rfl rfl m hv fun a hF hS=>q_sr (q_alloc (cs:=[nilS.v,nilS.v,nilS.v,(iV 0)]) hF hS rfl rfl rfl fun a w b2 hF hS=>q_end (n_sq (q_sr (q_m hF rfl fun a hF=>?_))))
 obtain ⟨t_3,ht_3,hr⟩:=bindS hr
 refine q_call (vs:=[s1.v]) hF hS Try.func145 (by kernel_rfl) rfl rfl rfl (c_spec_tOwn p_x t_3 ht_3 _ m hS.vis s1 h1) ?_
 rintro a w _ ⟨q5,s5,rfl,hR4,h5⟩ hF hS2
 have hS : St _ _ _ _ [q5,[⟨b2,[nilS.v,nilS.v,nilS.v,(iV 0)],74⟩]]:=hS.joinF hR4
 refine q_y (v:=(.agg #[s5.v,nilS.v,nilS.v,(iV 0)])) hF hS (ex_build (cells:=[s5.v,nilS.v,nilS.v,(iV 0)]) rfl (by kernel_rfl)) fun a hF=>q_alloc (cs:=[nilS.v,nilS.v,nilS.v,(iV 0)]) hF hS rfl rfl rfl fun a w b6 hF hS=>q_store (vs:=[s5.v,nilS.v,nilS.v,(iV 0)]) (cs':=[s5.v,nilS.v,nilS.v,(iV 0)]) 0 0 hF hS sz74 rfl rfl rfl rfl rfl rfl rfl rfl fun a w hF hS=>q_end (n_sq (q_seq (q_sr (q_m hF rfl fun a hF=>q_y (v:=(iV (goLen p_x))) hF hS (ex_len U23 rfl h1.len) fun a hF=>q_m hF rfl fun a hF=>q_end (n_sq (q_block ?_))))))
 obtain ⟨out_18,hl1,hr⟩:=bindS hr
 refine q_loop (fun (s : Int × impl_Rounding) a w=>∃ (q10 : Piece),∃ (s10 : Sl),∃ t_7,∃ out_8,s = (t_7,out_8)∧Fr a 46 [(0,s1.v),(2,(pP b2 0)),(3,(pP b6 0)),(10,s1.v),(11,(iV (goLen p_x))),(12,(iV t_7))]∧St [] w0 w m [q10,[⟨b6,[s5.v,s10.v,nilS.v,(iV out_8.Total)],74⟩],q5,[⟨b2,[nilS.v,nilS.v,nilS.v,(iV 0)],74⟩]]∧OwnD m 28 3 q5 s5 out_8.Cells∧out_8.Cells = t_3∧OwnL m 3 q10 s10 out_8.Rows) (fun (out_18 : impl_Rounding) e a w=>∃ (q20 : Piece),∃ (s20 : Sl),e = .exit 0∧Fr a 46 [(0,s1.v),(2,(pP b2 0)),(3,(pP b6 0))]∧St [] w0 w m [q5,q20,[⟨b6,[s5.v,s20.v,nilS.v,(iV out_18.Total)],74⟩],[⟨b2,[nilS.v,nilS.v,nilS.v,(iV 0)],74⟩]]∧OwnD m 28 3 q5 s5 out_18.Cells∧out_18.Cells = t_3∧OwnL m 3 q20 s20 out_18.Rows) hl1 ⟨[],nilS,_,_,rfl,hF.sub ⟨rfl,rfl,rfl,rfl,rfl,rfl,trivial⟩,hS.sel [3,0,1,2] (by decide),h5,rfl,(OwnL.nil (α:=Int) m 3)⟩ ?_ ?_
 ·clear hF hS
  rintro s a w st ⟨q10,s10,t_7,out_8,rfl,hF,hS,h9,h9k,h10⟩ hb1
  unfold spec_oMargins_l1 at hb1
  refine q_sr (q_y (v:=(.bool (decide (t_7 < (goLen p_x))))) hF hS (ex_ibin rfl rfl rfl) fun a hF=>q_end (n_sq (q_seq ?_)))
  rcases bcase (decide (t_7 < (goLen p_x))) with hc2 | hc2
  ·have hb1:=cond_f hc2 hb1
   refine q_cond_f hF rfl hc2 (q_exit (x_sq ?_))
   obtain rfl:=someI hb1
   exact ⟨nofun,.inl ⟨q10,s10,rfl,hF.sub ⟨rfl,rfl,rfl,trivial⟩,hS.sel [2,0,1,3] (by decide),h9,h9k,h10⟩⟩
  ·have hb1:=cond_t hc2 hb1
   refine q_cond_t hF rfl hc2 (q_skipc (n_sq (q_seq (q_block (q_seq (q_region ?_))))))
   obtain ⟨e_11,he_11,hb1⟩:=bindS hb1
   obtain ⟨vs12,at12,d12⟩:=h1.at he_11 1 rfl
   obtain ⟨s13,rfl,h13⟩ : ∃ s13 : Sl,vs12 = [s13.v]∧Rd m s13 e_11:=d12
   refine q_y (v:=(elP s1 (t_7.toNat * 1))) hF hS (ex_indexAddr U23 sz28 rfl rfl (h1.idx he_11)) fun a hF=>q_y (v:=s13.v) hF hS (ex_loadE1 0 U28 rfl rfl ((at12).at) rfl rfl) fun a hF=>q_s hF rfl fun a hF=>q_end (n_sq (e_region ⟨[5,7],[],m⟩ mixed fun w' hw'=>?_))
   have hS:=hS.below hw'
   refine e_P (v:=(pP b6 1)) 0 hF rfl (ex_fieldAddr U74 rfl sz28 rfl rfl) fun a hF=>e_X (v:=s10.v) 1 hF hS rfl (ex_load1 1 0 U28 rfl rfl rfl rfl) fun a hF=>e_P (v:=s13.v) 2 hF rfl (ex_move rfl) fun a hF=>e_one 3 (by kernel_rfl) ?_
   obtain ⟨t_14,ht_14,hb1⟩:=bindS hb1
   refine e_call (vs:=[s13.v]) hF hS rfl Try.func83 (by kernel_rfl) rfl rfl rfl (c_spec_tSum e_11 t_14 ht_14 _ m hS.vis s13 h13) ?_
   rintro a w _ rfl hF hS
   refine e_one 4 (by kernel_rfl) (e_op rfl rfl fun _ hK=>wp_buildSlice' (l:=([t_14] : List Int)) (cells:=[(iV t_14)]) hF hS U28 inf3 rfl rfl (by kernel_rfl) rfl rfl rfl ⟨rfl,rfl⟩ rfl rfl fun a w q15 s15 hF hS h15 hb=>hK _ _ hb (e_one 5 (by kernel_rfl) ?_))
   have hS : St _ _ _ _ [q10,q15,[⟨b6,[s5.v,s10.v,nilS.v,(iV out_8.Total)],74⟩],q5,[⟨b2,[nilS.v,nilS.v,nilS.v,(iV 0)],74⟩]]:=hS.sel [1,0,2,3,4] (by decide)
   obtain ⟨l_16,hl_16,hb1⟩:=bindS hb1
   refine e_opl rfl rfl rfl fun _ hK=>wp_append hF hS h10 U28 inf3 rfl rfl rfl rfl (h15.vw hS (j:=1) rfl) rfl (by decide) hl_16 rfl fun a w q17 s17 hF hS h17=>hK _ _ (⟨⟨kpN,fun _=>hS.vis.of_le (Mem.le.refl _)⟩,?_⟩)
   refine e_P (v:=(pP b6 1)) 6 hF rfl (ex_fieldAddr U74 rfl sz28 rfl rfl) fun a hF=>e_one 7 (by kernel_rfl) (e_store (vs:=[s17.v]) (cs':=[s5.v,s17.v,nilS.v,(iV out_8.Total)]) 2 0 hF hS rfl rfl sz28 rfl rfl rfl rfl rfl rfl rfl rfl fun a w hF hS=>⟨⟨kpN,fun _=>hS.vis.of_le (Mem.le.refl _)⟩,?_⟩)
   refine e_end (by kernel_rfl) (n_ib (n_sq ?_)) _
   refine q_region (q_y (v:=(iV (w64 (t_7 + 1)))) hF hS (ex_ibin rfl rfl rfl) fun a hF=>q_m hF rfl fun a hF=>q_end ?_)
   obtain rfl:=someI hb1
   exact ⟨rfl,q17,s17,_,_,rfl,hF.sub ⟨rfl,rfl,rfl,rfl,rfl,rfl,trivial⟩,hS.mask [true,false,true,true,true],h9,h9k,h17⟩
 ·rintro e a w ⟨q20,s20,rfl,hF,hS,h19,h19k,h20⟩
  refine x_ib (n_sq ?_)
  refine q_seq (q_sr (q_m hF rfl fun a hF=>?_))
  obtain ⟨e_21,he_21,hr⟩:=bindS hr
  obtain ⟨vs22,at22,d22⟩:=h1.at he_21 1 rfl
  obtain ⟨s23,rfl,h23⟩ : ∃ s23 : Sl,vs22 = [s23.v]∧Rd m s23 e_21:=d22
  refine q_y (v:=(elP s1 ((0 : Int).toNat * 1))) hF hS (ex_indexAddr U23 sz28 rfl rfl (h1.idx he_21)) fun a hF=>q_y (v:=s23.v) hF hS (ex_loadE1 0 U28 rfl rfl ((at22).at) rfl rfl) fun a hF=>q_y (v:=(iV (goLen e_21))) hF hS (ex_len U28 rfl h23.len) fun a hF=>q_m hF rfl fun a hF=>q_end (n_sq (q_block ?_))
  obtain ⟨out_37,hl3,hr⟩:=bindS hr
  refine q_loop (fun (s : Int × impl_Rounding) a w=>∃ (q28 : Piece),∃ (s28 : Sl),∃ t_24,∃ out_25,s = (t_24,out_25)∧Fr a 46 [(0,s1.v),(2,(pP b2 0)),(3,(pP b6 0)),(27,(iV (goLen e_21))),(28,(iV t_24))]∧St [] w0 w m [q28,q5,q20,[⟨b6,[s5.v,s20.v,s28.v,(iV out_25.Total)],74⟩],[⟨b2,[nilS.v,nilS.v,nilS.v,(iV 0)],74⟩]]∧OwnD m 28 3 q5 s5 out_25.Cells∧out_25.Cells = t_3∧OwnL m 3 q20 s20 out_25.Rows∧out_25.Rows = out_18.Rows∧OwnL m 3 q28 s28 out_25.Cols) (fun (out_37 : impl_Rounding) e a w=>∃ (q40 : Piece),∃ (s40 : Sl),e = .exit 2∧Fr a 46 [(2,(pP b2 0)),(3,(pP b6 0))]∧St [] w0 w m [q5,q20,q40,[⟨b6,[s5.v,s20.v,s40.v,(iV out_37.Total)],74⟩],[⟨b2,[nilS.v,nilS.v,nilS.v,(iV 0)],74⟩]]∧OwnD m 28 3 q5 s5 out_37.Cells∧out_37.Cells = t_3∧OwnL m 3 q20 s20 out_37.Rows∧out_37.Rows = out_18.Rows∧OwnL m 3 q40 s40 out_37.Cols) hl3 ⟨[],nilS,_,_,rfl,hF.sub ⟨rfl,rfl,rfl,rfl,rfl,trivial⟩,hS.sel [4,0,1,2,3] (by decide),h19,h19k,h20,rfl,(OwnL.nil (α:=Int) m 3)⟩ ?_ ?_
  ·clear hF hS
   rintro s a w st ⟨q28,s28,t_24,out_25,rfl,hF,hS,h26,h26k,h27,h27k,h28⟩ hb3
   unfold spec_oMargins_l2 at hb3
   refine q_sr (q_y (v:=(.bool (decide (t_24 < (goLen e_21))))) hF hS (ex_ibin rfl rfl rfl) fun a hF=>q_end (n_sq (q_seq ?_)))
   rcases bcase (decide (t_24 < (goLen e_21))) with hc4 | hc4
   ·have hb3:=cond_f hc4 hb3
    refine q_cond_f hF rfl hc4 (q_exit (x_sq ?_))
    obtain rfl:=someI hb3
    exact ⟨nofun,.inl ⟨q28,s28,rfl,hF.sub ⟨rfl,rfl,trivial⟩,hS.sel [1,2,0,3,4] (by decide),h26,h26k,h27,h27k,h28⟩⟩
   ·have hb3:=cond_t hc4 hb3
    refine q_cond_t hF rfl hc4 (q_skipc (n_sq (q_seq (q_block (q_sr (q_m hF rfl fun a hF=>q_s hF rfl fun a hF=>q_end (n_sq (e_region ⟨[7,9],[],m⟩ mixed fun w' hw'=>?_))))))))
    have hS:=hS.below hw'
    refine e_P (v:=(pP b6 2)) 0 hF rfl (ex_fieldAddr U74 rfl sz28 rfl rfl) fun a hF=>e_X (v:=s28.v) 1 hF hS rfl (ex_load1 3 0 U28 rfl rfl rfl rfl) fun a hF=>e_P (v:=s1.v) 2 hF rfl (ex_move rfl) fun a hF=>e_P (v:=(iV t_24)) 3 hF rfl (ex_move rfl) fun a hF=>e_one 4 (by kernel_rfl) ?_
    obtain ⟨t_29,ht_29,hb3⟩:=bindS hb3
    refine e_call (vs:=[s1.v,(iV t_24)]) hF hS rfl Try.func162 (by kernel_rfl) rfl rfl rfl (c_spec_tColumn p_x t_24 t_29 ht_29 _ m hS.vis s1 h1) ?_
    rintro a w _ ⟨q31,s31,rfl,hR30,h31⟩ hF hS2
    have hS : St _ _ _ _ [q31,q28,q5,q20,[⟨b6,[s5.v,s20.v,s28.v,(iV out_25.Total)],74⟩],[⟨b2,[nilS.v,nilS.v,nilS.v,(iV 0)],74⟩]]:=hS.joinF hR30
    refine e_one 5 (by kernel_rfl) ?_
    obtain ⟨m33,hl33,hv33,hz33⟩:=hS.lend
    obtain ⟨t_32,ht_32,hb3⟩:=bindS hb3
    refine e_call (vs:=[s31.v]) hF hS rfl Try.func83 (by kernel_rfl) rfl rfl rfl (c_spec_tSum t_29 t_32 ht_32 _ m33 hv33 s31 (h31.froz hl33 (hz33 0 _ rfl))) ?_
    rintro a w _ rfl hF hS
    refine e_one 6 (by kernel_rfl) (e_op rfl rfl fun _ hK=>wp_buildSlice' (l:=([t_32] : List Int)) (cells:=[(iV t_32)]) hF hS U28 inf3 rfl rfl (by kernel_rfl) rfl rfl rfl ⟨rfl,rfl⟩ rfl rfl fun a w q34 s34 hF hS h34 hb=>hK _ _ hb (e_one 7 (by kernel_rfl) ?_))
    have hS : St _ _ _ _ [q28,q34,q31,q5,q20,[⟨b6,[s5.v,s20.v,s28.v,(iV out_25.Total)],74⟩],[⟨b2,[nilS.v,nilS.v,nilS.v,(iV 0)],74⟩]]:=hS.sel [2,0,1,3,4,5,6] (by decide)
    obtain ⟨l_35,hl_35,hb3⟩:=bindS hb3
    refine e_opl rfl rfl rfl fun _ hK=>wp_append hF hS h28 U28 inf3 rfl rfl rfl rfl (h34.vw hS (j:=1) rfl) rfl (by decide) hl_35 rfl fun a w q36 s36 hF hS h36=>hK _ _ (⟨⟨kpN,fun _=>hS.vis.of_le (Mem.le.refl _)⟩,?_⟩)
    refine e_P (v:=(pP b6 2)) 8 hF rfl (ex_fieldAddr U74 rfl sz28 rfl rfl) fun a hF=>e_one 9 (by kernel_rfl) (e_store (vs:=[s36.v]) (cs':=[s5.v,s20.v,s36.v,(iV out_25.Total)]) 5 0 hF hS rfl rfl sz28 rfl rfl rfl rfl rfl rfl rfl rfl fun a w hF hS=>⟨⟨kpN,fun _=>hS.vis.of_le (Mem.le.refl _)⟩,?_⟩)
    refine e_end (by kernel_rfl) (n_ib (n_sq ?_)) _
    refine q_region (q_y (v:=(iV (w64 (t_24 + 1)))) hF hS (ex_ibin rfl rfl rfl) fun a hF=>q_m hF rfl fun a hF=>q_end ?_)
    obtain rfl:=someI hb3
    exact ⟨rfl,q36,s36,_,_,rfl,hF.sub ⟨rfl,rfl,rfl,rfl,rfl,trivial⟩,hS.mask [true,false,false,true,true,true,true],h26,h26k,h27,h27k,h36⟩
  ·rintro e a w ⟨q40,s40,rfl,hF,hS,h38,h38k,h39,h39k,h40⟩
   refine x_ib (n_sq ?_)
   refine q_sr (q_y (v:=(pP b6 1)) hF hS (ex_fieldAddr U74 rfl sz28 rfl rfl) fun a hF=>q_y (v:=s20.v) hF hS (ex_load1 3 0 U28 rfl rfl rfl rfl) fun a hF=>?_)
   obtain ⟨m42,hl42,hv42,hz42⟩:=hS.lend
   obtain ⟨t_41,ht_41,hr⟩:=bindS hr
   refine q_call (vs:=[s20.v]) hF hS Try.func83 (by kernel_rfl) rfl rfl rfl (c_spec_tSum out_37.Rows t_41 ht_41 _ m42 hv42 s20 (h39.froz hl42 (hz42 1 _ rfl))) ?_
   rintro a w _ rfl hF hS
   refine q_y (v:=(pP b6 3)) hF hS (ex_fieldAddr U74 rfl sz3 rfl rfl) fun a hF=>q_store (vs:=[(iV t_41)]) (cs':=[s5.v,s20.v,s40.v,(iV t_41)]) 3 0 hF hS sz3 rfl rfl rfl rfl rfl rfl rfl rfl fun a w hF hS=>q_end (n_sq (q_sr (q_y (v:=(.agg #[s5.v,s20.v,s40.v,(iV t_41)])) hF hS (ex_loadA (vs:=[s5.v,s20.v,s40.v,(iV t_41)]) 3 0 U74 rfl sz74 rfl rfl rfl rfl) fun a hF=>q_store (vs:=[s5.v,s20.v,s40.v,(iV t_41)]) (cs':=[s5.v,s20.v,s40.v,(iV t_41)]) 4 0 hF hS sz74 rfl rfl rfl rfl rfl rfl rfl rfl fun a w hF hS=>q_end (n_sq (q_ret ?_)))))
   obtain rfl:=someI hr
   exact ret_of hF hS rfl (.cellA (us:=[s5.v,s20.v,s40.v,(iV t_41)]) 4 0 U74 rfl sz74 rfl rfl rfl rfl .nil) ⟨q5,q20,q40,s5,s20,s40,rfl,hS.sel [0,1,2] (by decide),h38,h39,h40⟩

theorem c_spec_oDown (p_n : Int) (p_base : Int) (r : Int) (hr : spec_oDown p_n p_base = some r) (w0 : World) (m : Mem) (hv : Vis m w0) :
  Ret Try.prog 177 [(iV p_n),(iV p_base)] w0 (fun v _=>v = (iV r)):=by
 unfold spec_oDown at hr
 refine ret_start Try.func177 rfl 8 rfl rfl m hv fun a hF hS=>q_sr (q_s hF rfl fun a hF=>q_end (n_sq (q_sr (q_m hF rfl fun a hF=>q_m hF rfl fun a hF=>?_))))
 obtain ⟨t_1,ht_1,hr⟩:=bindS hr
 refine q_y (v:=(iV t_1)) hF hS (ex_quo rfl rfl ht_1) fun a hF=>q_s hF rfl fun a hF=>q_end (n_sq (q_ret ?_))
 obtain rfl:=someI hr
 exact ret_of hF hS rfl (.tmp rfl .nil) rfl

theorem c_spec_oUp (p_n : Int) (p_base : Int) (r : Int) (hr : spec_oUp p_n p_base = some r) (w0 : World) (m : Mem) (hv : Vis m w0) :
  Ret Try.prog 178 [(iV p_n),(iV p_base)] w0 (fun v _=>v = (iV r)):=by
 unfold spec_oUp at hr
 refine ret_start Try.func178 rfl 11 rfl rfl m hv fun a hF hS=>q_sr (q_s hF rfl fun a hF=>q_end (n_sq (q_sr (q_m hF rfl fun a hF=>q_m hF rfl fun a hF=>q_y (v:=(iV (w64 (p_n + p_base)))) hF hS (ex_ibin rfl rfl rfl) fun a hF=>q_y (v:=(iV (w64 ((w64 (p_n + p_base)) - 1)))) hF hS (ex_ibin rfl rfl rfl) fun a hF=>q_m hF rfl fun a hF=>?_))))
 obtain ⟨t_1,ht_1,hr⟩:=bindS hr
 refine q_y (v:=(iV t_1)) hF hS (ex_quo rfl rfl ht_1) fun a hF=>q_s hF rfl fun a hF=>q_end (n_sq (q_ret ?_))
 obtain rfl:=someI hr
 exact ret_of hF hS rfl (.tmp rfl .nil) rfl

theorem c_spec_oNetwork (p_x : List (List Int)) (p_base : Int) (r : impl_Transport) (hr : spec_oNetwork p_x p_base = some r) (w0 : World) (m : Mem) (hv : Vis m w0) (s1 : Sl) (h1 : Rd m s1 p_x) :
  Ret Try.prog 140 [s1.v,(iV p_base)] w0 (fun v w=>∃ (m' : Mem) (q0' : Piece) (q1' : Piece) (q2' : Piece) (q3' : Piece) (s0' : Sl) (s1' : Sl) (s2' : Sl) (s3' : Sl),v = (.agg #[s0'.v,s1'.v,s2'.v,s3'.v])∧MLe [] w0.heap.size m m'∧St [] w0 w m' [q0',q1',q2',q3']∧OwnL m' 3 q0' s0' r.Rows∧OwnL m' 3 q1' s1' r.Cols∧OwnL m' 28 q2' s2' r.Lo∧OwnL m' 28 q3' s3' r.Hi):=by
 unfold spec_oNetwork at hr
 refine ret_start Try.func140 rfl 175 rfl rfl m hv fun a hF hS=>q_sr (q_alloc (cs:=[nilS.v,nilS.v,nilS.v,nilS.v]) hF hS rfl rfl rfl fun a w b2 hF hS=>q_end (n_sq (q_sr (q_m hF rfl fun a hF=>?_))))
 obtain ⟨t_3,ht_3,hr⟩:=bindS hr
 refine q_call (vs:=[s1.v]) hF hS Try.func176 (by kernel_rfl) rfl rfl rfl (c_spec_oMargins p_x t_3 ht_3 _ m hS.vis s1 h1) ?_
 rintro a w _ ⟨q5,q6,q7,s5,s6,s7,rfl,hR4,h5,h6,h7⟩ hF hS2
 have hS : St _ _ _ _ [q5,q6,q7,[⟨b2,[nilS.v,nilS.v,nilS.v,nilS.v],50⟩]]:=hS.joinF hR4
 refine q_alloc (cs:=[nilS.v,nilS.v,nilS.v,(iV 0)]) hF hS rfl rfl rfl fun a w b8 hF hS=>q_store (vs:=[s5.v,s6.v,s7.v,(iV t_3.Total)]) (cs':=[s5.v,s6.v,s7.v,(iV t_3.Total)]) 0 0 hF hS sz74 rfl rfl rfl rfl rfl rfl rfl rfl fun a w hF hS=>q_end (n_sq (q_sr (q_y (v:=(.agg #[nilS.v,nilS.v,nilS.v,nilS.v])) hF hS (ex_build (cells:=[nilS.v,nilS.v,nilS.v,nilS.v]) rfl (by kernel_rfl)) fun a hF=>q_alloc (cs:=[nilS.v,nilS.v,nilS.v,nilS.v]) hF hS rfl rfl rfl fun a w b9 hF hS=>q_store (vs:=[nilS.v,nilS.v,nilS.v,nilS.v]) (cs':=[nilS.v,nilS.v,nilS.v,nilS.v]) 0 0 hF hS sz50 rfl rfl rfl rfl rfl rfl rfl rfl fun a w hF hS=>q_end (n_sq (q_sr (q_do rfl fun _ hK=>wp_build0 (α:=Int) hF hS U28 inf3 rfl fun a w q10 s10 hF hS h10 _=>hK _ _ (q_do rfl fun _ hK=>wp_build0 (α:=Int) hF hS U28 inf3 rfl fun a w q11 s11 hF hS h11 _=>hK _ _ (q_s hF rfl fun a hF=>q_s hF rfl fun a hF=>q_end (n_sq (q_seq (e_region ⟨[],[],m⟩ mixed fun w' hw'=>?_)))))))))))
 have hS:=hS.below hw'
 refine e_P (v:=(pP b8 3)) 0 hF rfl (ex_fieldAddr U74 rfl sz3 rfl rfl) fun a hF=>e_X (v:=(iV t_3.Total)) 1 hF hS rfl (ex_load1 3 0 U3 rfl rfl rfl rfl) fun a hF=>e_P (v:=(iV p_base)) 2 hF rfl (ex_move rfl) fun a hF=>e_P (v:=(pP b8 3)) 5 hF rfl (ex_fieldAddr U74 rfl sz3 rfl rfl) fun a hF=>e_X (v:=(iV t_3.Total)) 6 hF hS rfl (ex_load1 3 0 U3 rfl rfl rfl rfl) fun a hF=>e_P (v:=(iV p_base)) 7 hF rfl (ex_move rfl) fun a hF=>e_one 3 (by kernel_rfl) ?_
 obtain ⟨t_15,ht_15,hr⟩:=bindS hr
 refine e_call (vs:=[(iV t_3.Total),(iV p_base)]) hF hS rfl Try.func177 (by kernel_rfl) rfl rfl rfl (c_spec_oDown t_3.Total p_base t_15 ht_15 _ m hS.vis) ?_
 rintro a w _ rfl hF hS
 refine e_P (v:=(iV (w64 (-t_15)))) 4 hF rfl (ex_neg rfl) fun a hF=>e_one 8 (by kernel_rfl) ?_
 obtain ⟨t_16,ht_16,hr⟩:=bindS hr
 refine e_call (vs:=[(iV t_3.Total),(iV p_base)]) hF hS rfl Try.func177 (by kernel_rfl) rfl rfl rfl (c_spec_oDown t_3.Total p_base t_16 ht_16 _ m hS.vis) ?_
 rintro a w _ rfl hF hS
 refine e_P (v:=(iV (w64 (-t_16)))) 9 hF rfl (ex_neg rfl) fun a hF=>e_P (v:=(iV (w64 (-t_15)))) 10 hF rfl (ex_assign rfl) fun a hF=>e_P (v:=(iV (w64 (-t_16)))) 11 hF rfl (ex_assign rfl) fun a hF=>e_end (by kernel_rfl) (n_sq ?_) _
 refine q_seq (q_sr (q_m hF rfl fun a hF=>q_y (v:=(iV (goLen p_x))) hF hS (ex_len U23 rfl h1.len) fun a hF=>q_m hF rfl fun a hF=>q_end (n_sq (q_block ?_))))
 obtain ⟨o1,hl1,hr⟩:=bindS hr
 refine q_loop (fun (s : Int × Int × impl_Transport) a w=>∃ (m23 : Mem),∃ (q20 : Piece),∃ (s20 : Sl),∃ (q21 : Piece),∃ (s21 : Sl),∃ (q22 : Piece),∃ (s22 : Sl),∃ cols_17,∃ t_18,∃ t_19,s = (cols_17,t_18,t_19)∧Fr a 175 [(1,(iV p_base)),(4,(pP b2 0)),(5,(pP b8 0)),(6,(pP b9 0)),(7,s10.v),(8,s11.v),(9,(iV (w64 (-t_15)))),(10,(iV cols_17)),(35,s1.v),(36,(iV (goLen p_x))),(37,(iV t_18))]∧St [] w0 w m23 [q20,q21,q22,q11,q10,[⟨b9,[s20.v,nilS.v,s21.v,s22.v],50⟩],[⟨b8,[s5.v,s6.v,s7.v,(iV t_3.Total)],74⟩],q5,q6,q7,[⟨b2,[nilS.v,nilS.v,nilS.v,nilS.v],50⟩]]∧MLe [] w0.heap.size m m23∧OwnL m23 3 q20 s20 t_19.Rows∧OwnL m23 28 q21 s21 t_19.Lo∧OwnL m23 28 q22 s22 t_19.Hi) (fun (o : Int × impl_Transport) e a w=>∃ (m88 : Mem),∃ (q85 : Piece),∃ (s85 : Sl),∃ (q86 : Piece),∃ (s86 : Sl),∃ (q87 : Piece),∃ (s87 : Sl),∃ cols_83,∃ t_84,o = (cols_83,t_84)∧e = .exit 0∧Fr a 175 [(1,(iV p_base)),(4,(pP b2 0)),(5,(pP b8 0)),(6,(pP b9 0)),(7,s10.v),(8,s11.v),(9,(iV (w64 (-t_15)))),(10,(iV cols_83))]∧St [] w0 w m88 [q10,q11,q85,q86,q87,q5,q6,q7,[⟨b9,[s85.v,nilS.v,s86.v,s87.v],50⟩],[⟨b8,[s5.v,s6.v,s7.v,(iV t_3.Total)],74⟩],[⟨b2,[nilS.v,nilS.v,nilS.v,nilS.v],50⟩]]∧MLe [] w0.heap.size m m88∧OwnL m88 3 q85 s85 t_84.Rows∧OwnL m88 28 q86 s86 t_84.Lo∧OwnL m88 28 q87 s87 t_84.Hi) hl1 ⟨m,[],nilS,[],nilS,[],nilS,_,_,_,rfl,hF.sub ⟨rfl,rfl,rfl,rfl,rfl,rfl,rfl,rfl,rfl,rfl,rfl,trivial⟩,hS.sel [8,9,10,0,1,2,3,4,5,6,7] (by decide),(MLe.refl _ _),(OwnL.nil (α:=Int) m 3),(OwnL.nil (α:=List Int) m 28),(OwnL.nil (α:=List Int) m 28)⟩ ?_ ?_
 ·clear hF hS
  rintro s a w st ⟨m23,q20,s20,q21,s21,q22,s22,cols_17,t_18,t_19,rfl,hF,hS,hm23,h20,h21,h22⟩ hb1
  unfold spec_oNetwork_l1 at hb1
  refine q_sr (q_y (v:=(.bool (decide (t_18 < (goLen p_x))))) hF hS (ex_ibin rfl rfl rfl) fun a hF=>q_end (n_sq (q_seq ?_)))
  rcases bcase (decide (t_18 < (goLen p_x))) with hc2 | hc2
  ·have hb1:=cond_f hc2 hb1
   refine q_cond_f hF rfl hc2 (q_exit (x_sq ?_))
   obtain rfl:=someI hb1
   exact ⟨nofun,.inl ⟨m23,q20,s20,q21,s21,q22,s22,_,_,rfl,rfl,hF.sub ⟨rfl,rfl,rfl,rfl,rfl,rfl,rfl,rfl,trivial⟩,hS.sel [4,3,0,1,2,7,8,9,5,6,10] (by decide),hm23,h20,h21,h22⟩⟩
  ·have hb1:=cond_t hc2 hb1
   refine q_cond_t hF rfl hc2 (q_skipc (n_sq (q_seq (q_block (q_sr (q_m hF rfl fun a hF=>?_))))))
   obtain ⟨e_24,he_24,hb1⟩:=bindS hb1
   obtain ⟨vs25,at25,d25⟩:=h1.at he_24 1 rfl
   obtain ⟨s26,rfl,h26⟩ : ∃ s26 : Sl,vs25 = [s26.v]∧Rd m s26 e_24:=d25
   refine q_y (v:=(elP s1 (t_18.toNat * 1))) hF hS (ex_indexAddr U23 sz28 rfl rfl ((h1.mono hm23.le).idx he_24)) fun a hF=>q_y (v:=s26.v) hF hS (ex_loadE1 0 U28 rfl rfl (((at25.mono hm23.le)).at) rfl rfl) fun a hF=>q_s hF rfl fun a hF=>q_s hF rfl fun a hF=>q_end (n_sq (q_sr (q_s hF rfl fun a hF=>q_s hF rfl fun a hF=>q_end (n_sq (q_seq (q_sr (q_m hF rfl fun a hF=>q_y (v:=(iV (goLen e_24))) hF hS (ex_len U28 rfl (h26.mono hm23.le).len) fun a hF=>q_m hF rfl fun a hF=>q_end (n_sq (q_block ?_)))))))))
   obtain ⟨o3,hl3,hb1⟩:=bindS hb1
   refine q_loop (fun (s : (List Int) × (List Int) × Int) a w=>∃ (q28 : Piece),∃ (s28 : Sl),∃ (q30 : Piece),∃ (s30 : Sl),∃ lo_27,∃ hi_29,∃ t_31,s = (lo_27,hi_29,t_31)∧Fr a 175 [(1,(iV p_base)),(4,(pP b2 0)),(5,(pP b8 0)),(6,(pP b9 0)),(7,s10.v),(8,s11.v),(9,(iV (w64 (-t_15)))),(10,(iV cols_17)),(11,(iV t_18)),(13,s28.v),(14,s30.v),(35,s1.v),(36,(iV (goLen p_x))),(37,(iV t_18)),(42,s26.v),(43,(iV (goLen e_24))),(44,(iV t_31))]∧St [] w0 w m23 [q28,q30,q20,q21,q22,q11,q10,[⟨b9,[s20.v,nilS.v,s21.v,s22.v],50⟩],[⟨b8,[s5.v,s6.v,s7.v,(iV t_3.Total)],74⟩],q5,q6,q7,[⟨b2,[nilS.v,nilS.v,nilS.v,nilS.v],50⟩]]∧OwnL m23 3 q28 s28 lo_27∧OwnL m23 3 q30 s30 hi_29) (fun (o : (List Int) × (List Int)) e a w=>∃ (q43 : Piece),∃ (s43 : Sl),∃ (q45 : Piece),∃ (s45 : Sl),∃ lo_42,∃ hi_44,o = (lo_42,hi_44)∧e = .exit 2∧Fr a 175 [(1,(iV p_base)),(4,(pP b2 0)),(5,(pP b8 0)),(6,(pP b9 0)),(7,s10.v),(8,s11.v),(9,(iV (w64 (-t_15)))),(10,(iV cols_17)),(11,(iV t_18)),(13,s43.v),(14,s45.v),(35,s1.v),(36,(iV (goLen p_x))),(37,(iV t_18))]∧St [] w0 w m23 [q10,q11,q43,q45,q20,q21,q22,q5,q6,q7,[⟨b9,[s20.v,nilS.v,s21.v,s22.v],50⟩],[⟨b8,[s5.v,s6.v,s7.v,(iV t_3.Total)],74⟩],[⟨b2,[nilS.v,nilS.v,nilS.v,nilS.v],50⟩]]∧OwnL m23 3 q43 s43 lo_42∧OwnL m23 3 q45 s45 hi_44) hl3 ⟨[],nilS,[],nilS,_,_,_,rfl,hF.sub ⟨rfl,rfl,rfl,rfl,rfl,rfl,rfl,rfl,rfl,rfl,rfl,rfl,rfl,rfl,rfl,rfl,rfl,trivial⟩,hS.sel [11,12,0,1,2,3,4,5,6,7,8,9,10] (by decide),(OwnL.nil (α:=Int) m23 3),(OwnL.nil (α:=Int) m23 3)⟩ ?_ ?_
   ·clear hF hS
    rintro s a w st ⟨q28,s28,q30,s30,lo_27,hi_29,t_31,rfl,hF,hS,h28,h30⟩ hb3
    unfold spec_oNetwork_l2 at hb3
    refine q_sr (q_y (v:=(.bool (decide (t_31 < (goLen e_24))))) hF hS (ex_ibin rfl rfl rfl) fun a hF=>q_end (n_sq (q_seq ?_)))
    rcases bcase (decide (t_31 < (goLen e_24))) with hc4 | hc4
    ·have hb3:=cond_f hc4 hb3
     refine q_cond_f hF rfl hc4 (q_exit (x_sq ?_))
     obtain rfl:=someI hb3
     exact ⟨nofun,.inl ⟨q28,s28,q30,s30,_,_,rfl,rfl,hF.sub ⟨rfl,rfl,rfl,rfl,rfl,rfl,rfl,rfl,rfl,rfl,rfl,rfl,rfl,rfl,trivial⟩,hS.sel [6,5,0,1,2,3,4,9,10,11,7,8,12] (by decide),h28,h30⟩⟩
    ·have hb3:=cond_t hc4 hb3
     refine q_cond_t hF rfl hc4 (q_skipc (n_sq (q_seq (q_block (q_seq (q_region ?_))))))
     obtain ⟨e_32,he_32,hb3⟩:=bindS hb3
     obtain ⟨vs33,at33,d33⟩:=h26.at he_32 1 rfl
     obtain rfl : vs33 = [(iV e_32)]:=d33
     refine q_y (v:=(elP s26 (t_31.toNat * 1))) hF hS (ex_indexAddr U28 sz3 rfl rfl ((h26.mono hm23.le).idx he_32)) fun a hF=>q_y (v:=(iV e_32)) hF hS (ex_loadE1 0 U3 rfl rfl (((at33.mono hm23.le)).at) rfl rfl) fun a hF=>q_s hF rfl fun a hF=>q_end (n_sq (q_sr (q_m hF rfl fun a hF=>q_m hF rfl fun a hF=>q_m hF rfl fun a hF=>?_)))
     obtain ⟨t_34,ht_34,hb3⟩:=bindS hb3
     refine q_call (vs:=[(iV e_32),(iV p_base)]) hF hS Try.func177 (by kernel_rfl) rfl rfl rfl (c_spec_oDown e_32 p_base t_34 ht_34 _ m23 hS.vis) ?_
     rintro a w _ rfl hF hS
     refine q_do rfl fun _ hK=>wp_buildSlice' (l:=([t_34] : List Int)) (cells:=[(iV t_34)]) hF hS U28 inf3 rfl rfl (by kernel_rfl) rfl rfl rfl ⟨rfl,rfl⟩ rfl rfl fun a w q35 s35 hF hS h35 _=>hK _ _ ?_
     have hS : St _ _ _ _ [q28,q35,q30,q20,q21,q22,q11,q10,[⟨b9,[s20.v,nilS.v,s21.v,s22.v],50⟩],[⟨b8,[s5.v,s6.v,s7.v,(iV t_3.Total)],74⟩],q5,q6,q7,[⟨b2,[nilS.v,nilS.v,nilS.v,nilS.v],50⟩]]:=hS.sel [1,0,2,3,4,5,6,7,8,9,10,11,12,13] (by decide)
     obtain ⟨l_36,hl_36,hb3⟩:=bindS hb3
     refine q_do rfl fun _ hK=>wp_append hF hS h28 U28 inf3 rfl rfl rfl rfl (h35.vw hS (j:=1) rfl) rfl (by decide) hl_36 rfl fun a w q37 s37 hF hS h37=>hK _ _ (q_s hF rfl fun a hF=>q_end (n_sq (q_region (q_m hF rfl fun a hF=>q_m hF rfl fun a hF=>q_m hF rfl fun a hF=>?_))))
     obtain ⟨t_38,ht_38,hb3⟩:=bindS hb3
     refine q_call (vs:=[(iV e_32),(iV p_base)]) hF hS Try.func178 (by kernel_rfl) rfl rfl rfl (c_spec_oUp e_32 p_base t_38 ht_38 _ m23 hS.vis) ?_
     rintro a w _ rfl hF hS
     refine q_do rfl fun _ hK=>wp_buildSlice' (l:=([t_38] : List Int)) (cells:=[(iV t_38)]) hF hS U28 inf3 rfl rfl (by kernel_rfl) rfl rfl rfl ⟨rfl,rfl⟩ rfl rfl fun a w q39 s39 hF hS h39 _=>hK _ _ ?_
     have hS : St _ _ _ _ [q30,q39,q37,q35,q20,q21,q22,q11,q10,[⟨b9,[s20.v,nilS.v,s21.v,s22.v],50⟩],[⟨b8,[s5.v,s6.v,s7.v,(iV t_3.Total)],74⟩],q5,q6,q7,[⟨b2,[nilS.v,nilS.v,nilS.v,nilS.v],50⟩]]:=hS.sel [3,0,1,2,4,5,6,7,8,9,10,11,12,13,14] (by decide)
     obtain ⟨l_40,hl_40,hb3⟩:=bindS hb3
     refine q_do rfl fun _ hK=>wp_append hF hS h30 U28 inf3 rfl rfl rfl rfl (h39.vw hS (j:=1) rfl) rfl (by decide) hl_40 rfl fun a w q41 s41 hF hS h41=>hK _ _ (q_s hF rfl fun a hF=>q_end (n_ib (n_sq (q_region (q_y (v:=(iV (w64 (t_31 + 1)))) hF hS (ex_ibin rfl rfl rfl) fun a hF=>q_m hF rfl fun a hF=>q_end ?_)))))
     obtain rfl:=someI hb3
     exact ⟨rfl,q37,s37,q41,s41,_,_,_,rfl,hF.sub ⟨rfl,rfl,rfl,rfl,rfl,rfl,rfl,rfl,rfl,rfl,rfl,rfl,rfl,rfl,rfl,rfl,rfl,trivial⟩,hS.sel [2,0,4,5,6,7,8,9,10,11,12,13,14] (by decide),h37,h41⟩
   ·rintro e a w ⟨q43,s43,q45,s45,lo_42,hi_44,rfl,rfl,hF,hS,h43,h45⟩
    refine x_ib (n_sq ?_)
    refine q_sr (q_y (v:=(pP b8 1)) hF hS (ex_fieldAddr U74 rfl sz28 rfl rfl) fun a hF=>q_y (v:=s6.v) hF hS (ex_load1 11 0 U28 rfl rfl rfl rfl) fun a hF=>q_m hF rfl fun a hF=>?_)
    obtain ⟨e_46,he_46,hb1⟩:=bindS hb1
    obtain ⟨vs47,at47,d47⟩:=(h6.mono hm23.le).at he_46 1 rfl
    obtain rfl : vs47 = [(iV e_46)]:=d47
    refine q_y (v:=(elP s6 (t_18.toNat * 1))) hF hS (ex_indexAddr U28 sz3 rfl rfl ((h6.mono hm23.le).idx he_46)) fun a hF=>q_y (v:=(iV e_46)) hF hS (ex_loadE1 0 U3 rfl rfl (at47.at 8 rfl) rfl rfl) fun a hF=>q_s hF rfl fun a hF=>q_end (n_sq (q_seq ?_))
    obtain ⟨t_56,hj5,hb1⟩:=bindS hb1
    refine q_join (fun a w=>∃ (m60 : Mem),∃ (q58 : Piece),∃ (s58 : Sl),Fr a 175 [(1,(iV p_base)),(4,(pP b2 0)),(5,(pP b8 0)),(6,(pP b9 0)),(7,s10.v),(8,s11.v),(9,(iV (w64 (-t_15)))),(10,(iV cols_17)),(14,s45.v),(17,(iV e_46)),(35,s1.v),(36,(iV (goLen p_x))),(37,(iV t_18))]∧St [] w0 w m60 [q10,q11,q45,q20,q58,q22,q5,q6,q7,[⟨b9,[s20.v,nilS.v,s58.v,s22.v],50⟩],[⟨b8,[s5.v,s6.v,s7.v,(iV t_3.Total)],74⟩],[⟨b2,[nilS.v,nilS.v,nilS.v,nilS.v],50⟩]]∧MLe [] w0.heap.size m23 m60∧OwnL m60 3 q20 s20 t_56.Rows∧OwnL m60 28 q58 s58 t_56.Lo∧OwnL m60 28 q22 s22 t_56.Hi) ?_ ?_
    ·refine e_region ⟨[4,6,8],[],m23⟩ mixed fun w' hw'=>?_
     have hS:=hS.below hw'
     refine e_P (v:=(pP b9 2)) 0 hF rfl (ex_fieldAddr U50 rfl sz23 rfl rfl) fun a hF=>e_P (v:=s43.v) 2 hF rfl (ex_move rfl) fun a hF=>?_
     obtain ⟨l_50,hl_50,hj5⟩:=bindS hj5
     obtain ⟨l_54,hl_54,hj5⟩:=bindS hj5
     refine e_all [1,3] (by kernel_rfl) rfl ⟨?_,?_,trivial⟩
     ·refine e_lx (v:=s21.v) hF hS rfl (ex_load1 10 0 U23 rfl rfl rfl rfl) rfl rfl fun a hF=>e_one 3 (by kernel_rfl) (e_op rfl rfl fun _ hK=>wp_buildSlice' (l:=([0] : List Int)) (cells:=[(iV 0)]) hF hS U28 inf3 rfl rfl (by kernel_rfl) rfl rfl rfl ⟨rfl,rfl⟩ rfl rfl fun a w q49 s49 hF hS h49 hb=>hK _ _ hb (e_one 4 (by kernel_rfl) ?_))
      have hS : St _ _ _ _ [q43,q49,q10,q11,q45,q20,q21,q22,q5,q6,q7,[⟨b9,[s20.v,nilS.v,s21.v,s22.v],50⟩],[⟨b8,[s5.v,s6.v,s7.v,(iV t_3.Total)],74⟩],[⟨b2,[nilS.v,nilS.v,nilS.v,nilS.v],50⟩]]:=hS.sel [3,0,1,2,4,5,6,7,8,9,10,11,12,13] (by decide)
      refine e_opl rfl rfl rfl fun _ hK=>wp_append hF hS h43 U28 inf3 rfl rfl rfl rfl (h49.vw hS (j:=1) rfl) rfl (by decide) hl_50 rfl fun a w q51 s51 hF hS h51=>hK _ _ (⟨⟨kpN,fun _=>hS.vis.of_le (Mem.le.refl _)⟩,?_⟩)
      refine e_one 5 (by kernel_rfl) ?_
      obtain ⟨m53,hm53,hS,hz53⟩:=hS.freeze
      have h53:=h51.froz hm53.le hz53
      refine e_op rfl rfl fun _ hK=>wp_buildSlice' (l:=([l_50] : List (List Int))) (cells:=[s51.v]) hF hS U23 inf28 rfl rfl (by kernel_rfl) rfl rfl rfl ⟨⟨s51,rfl,h53⟩,rfl⟩ rfl rfl fun a w q52 s52 hF hS h52 hb=>hK _ _ hb (e_one 6 (by kernel_rfl) ?_)
      have hS : St _ _ _ _ [q21,q52,q49,q10,q11,q45,q20,q22,q5,q6,q7,[⟨b9,[s20.v,nilS.v,s21.v,s22.v],50⟩],[⟨b8,[s5.v,s6.v,s7.v,(iV t_3.Total)],74⟩],[⟨b2,[nilS.v,nilS.v,nilS.v,nilS.v],50⟩]]:=hS.sel [6,0,1,2,3,4,5,7,8,9,10,11,12,13] (by decide)
      refine e_opl rfl rfl rfl fun _ hK=>wp_append hF hS (h21.mono hm53.le) U23 inf28 rfl rfl rfl rfl (h52.vw hS (j:=1) rfl) rfl (by decide) hl_54 rfl fun a w q55 s55 hF hS h55=>hK _ _ (⟨⟨kpN,fun _=>hS.vis.of_le hm53.le⟩,?_⟩)
      refine e_P (v:=(pP b9 2)) 7 hF rfl (ex_fieldAddr U50 rfl sz23 rfl rfl) fun a hF=>e_one 8 (by kernel_rfl) (e_store (vs:=[s55.v]) (cs':=[s20.v,nilS.v,s55.v,s22.v]) 11 0 hF hS rfl rfl sz23 rfl rfl rfl rfl rfl rfl rfl rfl fun a w hF hS=>⟨⟨kpN,fun _=>hS.vis.of_le hm53.le⟩,?_⟩)
      refine e_end (by kernel_rfl) (n_jn ?_) _
      obtain rfl:=someI hj5
      exact ⟨m53,q55,s55,hF.sub ⟨rfl,rfl,rfl,rfl,rfl,rfl,rfl,rfl,rfl,rfl,rfl,rfl,rfl,trivial⟩,hS.sel [3,4,5,6,0,7,8,9,10,11,12,13] (by decide),hm53,(h20.mono hm53.le),h55,(h22.mono hm53.le)⟩
     ·refine e_op rfl rfl fun _ hK=>wp_buildSlice' (l:=([0] : List Int)) (cells:=[(iV 0)]) hF hS U28 inf3 rfl rfl (by kernel_rfl) rfl rfl rfl ⟨rfl,rfl⟩ rfl rfl fun a w q49 s49 hF hS h49 hb=>hK _ _ hb (e_all [1,4] (by kernel_rfl) rfl ⟨?_,?_,trivial⟩)
      ·refine e_lx (v:=s21.v) hF hS rfl (ex_load1 11 0 U23 rfl rfl rfl rfl) rfl rfl fun a hF=>e_one 4 (by kernel_rfl) ?_
       have hS : St _ _ _ _ [q43,q49,q10,q11,q45,q20,q21,q22,q5,q6,q7,[⟨b9,[s20.v,nilS.v,s21.v,s22.v],50⟩],[⟨b8,[s5.v,s6.v,s7.v,(iV t_3.Total)],74⟩],[⟨b2,[nilS.v,nilS.v,nilS.v,nilS.v],50⟩]]:=hS.sel [3,0,1,2,4,5,6,7,8,9,10,11,12,13] (by decide)
       refine e_opl rfl rfl rfl fun _ hK=>wp_append hF hS h43 U28 inf3 rfl rfl rfl rfl (h49.vw hS (j:=1) rfl) rfl (by decide) hl_50 rfl fun a w q51 s51 hF hS h51=>hK _ _ (⟨⟨kpN,fun _=>hS.vis.of_le (Mem.le.refl _)⟩,?_⟩)
       refine e_one 5 (by kernel_rfl) ?_
       obtain ⟨m53,hm53,hS,hz53⟩:=hS.freeze
       have h53:=h51.froz hm53.le hz53
       refine e_op rfl rfl fun _ hK=>wp_buildSlice' (l:=([l_50] : List (List Int))) (cells:=[s51.v]) hF hS U23 inf28 rfl rfl (by kernel_rfl) rfl rfl rfl ⟨⟨s51,rfl,h53⟩,rfl⟩ rfl rfl fun a w q52 s52 hF hS h52 hb=>hK _ _ hb (e_one 6 (by kernel_rfl) ?_)
       have hS : St _ _ _ _ [q21,q52,q49,q10,q11,q45,q20,q22,q5,q6,q7,[⟨b9,[s20.v,nilS.v,s21.v,s22.v],50⟩],[⟨b8,[s5.v,s6.v,s7.v,(iV t_3.Total)],74⟩],[⟨b2,[nilS.v,nilS.v,nilS.v,nilS.v],50⟩]]:=hS.sel [6,0,1,2,3,4,5,7,8,9,10,11,12,13] (by decide)
       refine e_opl rfl rfl rfl fun _ hK=>wp_append hF hS (h21.mono hm53.le) U23 inf28 rfl rfl rfl rfl (h52.vw hS (j:=1) rfl) rfl (by decide) hl_54 rfl fun a w q55 s55 hF hS h55=>hK _ _ (⟨⟨kpN,fun _=>hS.vis.of_le hm53.le⟩,?_⟩)
       refine e_P (v:=(pP b9 2)) 7 hF rfl (ex_fieldAddr U50 rfl sz23 rfl rfl) fun a hF=>e_one 8 (by kernel_rfl) (e_store (vs:=[s55.v]) (cs':=[s20.v,nilS.v,s55.v,s22.v]) 11 0 hF hS rfl rfl sz23 rfl rfl rfl rfl rfl rfl rfl rfl fun a w hF hS=>⟨⟨kpN,fun _=>hS.vis.of_le hm53.le⟩,?_⟩)
       refine e_end (by kernel_rfl) (n_jn ?_) _
       obtain rfl:=someI hj5
       exact ⟨m53,q55,s55,hF.sub ⟨rfl,rfl,rfl,rfl,rfl,rfl,rfl,rfl,rfl,rfl,rfl,rfl,rfl,trivial⟩,hS.sel [3,4,5,6,0,7,8,9,10,11,12,13] (by decide),hm53,(h20.mono hm53.le),h55,(h22.mono hm53.le)⟩
      ·have hS : St _ _ _ _ [q43,q49,q10,q11,q45,q20,q21,q22,q5,q6,q7,[⟨b9,[s20.v,nilS.v,s21.v,s22.v],50⟩],[⟨b8,[s5.v,s6.v,s7.v,(iV t_3.Total)],74⟩],[⟨b2,[nilS.v,nilS.v,nilS.v,nilS.v],50⟩]]:=hS.sel [3,0,1,2,4,5,6,7,8,9,10,11,12,13] (by decide)
       refine e_opl rfl rfl rfl fun _ hK=>wp_append hF hS h43 U28 inf3 rfl rfl rfl rfl (h49.vw hS (j:=1) rfl) rfl (by decide) hl_50 rfl fun a w q51 s51 hF hS h51=>hK _ _ (⟨⟨kpN,fun _=>hS.vis.of_le (Mem.le.refl _)⟩,?_⟩)
       refine e_X (v:=s21.v) 1 hF hS rfl (ex_load1 11 0 U23 rfl rfl rfl rfl) fun a hF=>e_one 5 (by kernel_rfl) ?_
       obtain ⟨m53,hm53,hS,hz53⟩:=hS.freeze
       have h53:=h51.froz hm53.le hz53
       refine e_op rfl rfl fun _ hK=>wp_buildSlice' (l:=([l_50] : List (List Int))) (cells:=[s51.v]) hF hS U23 inf28 rfl rfl (by kernel_rfl) rfl rfl rfl ⟨⟨s51,rfl,h53⟩,rfl⟩ rfl rfl fun a w q52 s52 hF hS h52 hb=>hK _ _ hb (e_one 6 (by kernel_rfl) ?_)
       have hS : St _ _ _ _ [q21,q52,q49,q10,q11,q45,q20,q22,q5,q6,q7,[⟨b9,[s20.v,nilS.v,s21.v,s22.v],50⟩],[⟨b8,[s5.v,s6.v,s7.v,(iV t_3.Total)],74⟩],[⟨b2,[nilS.v,nilS.v,nilS.v,nilS.v],50⟩]]:=hS.sel [6,0,1,2,3,4,5,7,8,9,10,11,12,13] (by decide)
       refine e_opl rfl rfl rfl fun _ hK=>wp_append hF hS (h21.mono hm53.le) U23 inf28 rfl rfl rfl rfl (h52.vw hS (j:=1) rfl) rfl (by decide) hl_54 rfl fun a w q55 s55 hF hS h55=>hK _ _ (⟨⟨kpN,fun _=>hS.vis.of_le hm53.le⟩,?_⟩)
       refine e_P (v:=(pP b9 2)) 7 hF rfl (ex_fieldAddr U50 rfl sz23 rfl rfl) fun a hF=>e_one 8 (by kernel_rfl) (e_store (vs:=[s55.v]) (cs':=[s20.v,nilS.v,s55.v,s22.v]) 11 0 hF hS rfl rfl sz23 rfl rfl rfl rfl rfl rfl rfl rfl fun a w hF hS=>⟨⟨kpN,fun _=>hS.vis.of_le hm53.le⟩,?_⟩)
       refine e_end (by kernel_rfl) (n_jn ?_) _
       obtain rfl:=someI hj5
       exact ⟨m53,q55,s55,hF.sub ⟨rfl,rfl,rfl,rfl,rfl,rfl,rfl,rfl,rfl,rfl,rfl,rfl,rfl,trivial⟩,hS.sel [3,4,5,6,0,7,8,9,10,11,12,13] (by decide),hm53,(h20.mono hm53.le),h55,(h22.mono hm53.le)⟩
    ·rintro a w ⟨m60,q58,s58,hF,hS,hm60,h57,h58,h59⟩
     refine n_sq ?_
     refine q_seq ?_
     obtain ⟨t_73,hj6,hb1⟩:=bindS hb1
     refine q_join (fun a w=>∃ (m77 : Mem),∃ (q76 : Piece),∃ (s76 : Sl),Fr a 175 [(1,(iV p_base)),(4,(pP b2 0)),(5,(pP b8 0)),(6,(pP b9 0)),(7,s10.v),(8,s11.v),(9,(iV (w64 (-t_15)))),(10,(iV cols_17)),(17,(iV e_46)),(35,s1.v),(36,(iV (goLen p_x))),(37,(iV t_18))]∧St [] w0 w m77 [q10,q11,q20,q58,q76,q5,q6,q7,[⟨b9,[s20.v,nilS.v,s58.v,s76.v],50⟩],[⟨b8,[s5.v,s6.v,s7.v,(iV t_3.Total)],74⟩],[⟨b2,[nilS.v,nilS.v,nilS.v,nilS.v],50⟩]]∧MLe [] w0.heap.size m60 m77∧OwnL m77 3 q20 s20 t_73.Rows∧OwnL m77 28 q58 s58 t_73.Lo∧OwnL m77 28 q76 s76 t_73.Hi) ?_ ?_
     ·refine e_region ⟨[11,13,15],[],m60⟩ mixed fun w' hw'=>?_
      have hS:=hS.below hw'
      refine e_P (v:=(pP b9 3)) 0 hF rfl (ex_fieldAddr U50 rfl sz23 rfl rfl) fun a hF=>e_P (v:=s45.v) 2 hF rfl (ex_move rfl) fun a hF=>e_P (v:=(iV e_46)) 3 hF rfl (ex_move rfl) fun a hF=>e_P (v:=(iV p_base)) 4 hF rfl (ex_move rfl) fun a hF=>e_P (v:=(iV e_46)) 6 hF rfl (ex_move rfl) fun a hF=>e_P (v:=(iV p_base)) 7 hF rfl (ex_move rfl) fun a hF=>?_
      obtain ⟨t_64,ht_64,hj6⟩:=bindS hj6
      obtain ⟨t_65,ht_65,hj6⟩:=bindS hj6
      obtain ⟨l_67,hl_67,hj6⟩:=bindS hj6
      obtain ⟨l_71,hl_71,hj6⟩:=bindS hj6
      refine e_all [1,5] (by kernel_rfl) rfl ⟨?_,?_,trivial⟩
      ·refine e_lx (v:=s22.v) hF hS rfl (ex_load1 9 0 U23 rfl rfl rfl rfl) rfl rfl fun a hF=>e_one 5 (by kernel_rfl) (e_call (vs:=[(iV e_46),(iV p_base)]) hF hS rfl Try.func178 (by kernel_rfl) rfl rfl rfl (c_spec_oUp e_46 p_base t_64 ht_64 _ m60 hS.vis) ?_)
       rintro a w _ rfl hF hS
       refine e_one 8 (by kernel_rfl) (e_call (vs:=[(iV e_46),(iV p_base)]) hF hS rfl Try.func177 (by kernel_rfl) rfl rfl rfl (c_spec_oDown e_46 p_base t_65 ht_65 _ m60 hS.vis) ?_)
       rintro a w _ rfl hF hS
       refine e_P (v:=(iV (w64 (t_64 - t_65)))) 9 hF rfl (ex_ibin rfl rfl rfl) fun a hF=>e_one 10 (by kernel_rfl) (e_op rfl rfl fun _ hK=>wp_buildSlice' (l:=([(w64 (t_64 - t_65))] : List Int)) (cells:=[(iV (w64 (t_64 - t_65)))]) hF hS U28 inf3 rfl rfl (by kernel_rfl) rfl rfl rfl ⟨rfl,rfl⟩ rfl rfl fun a w q66 s66 hF hS h66 hb=>hK _ _ hb (e_one 11 (by kernel_rfl) ?_))
       have hS : St _ _ _ _ [q45,q66,q10,q11,q20,q58,q22,q5,q6,q7,[⟨b9,[s20.v,nilS.v,s58.v,s22.v],50⟩],[⟨b8,[s5.v,s6.v,s7.v,(iV t_3.Total)],74⟩],[⟨b2,[nilS.v,nilS.v,nilS.v,nilS.v],50⟩]]:=hS.sel [3,0,1,2,4,5,6,7,8,9,10,11,12] (by decide)
       refine e_opl rfl rfl rfl fun _ hK=>wp_append hF hS (h45.mono hm60.le) U28 inf3 rfl rfl rfl rfl (h66.vw hS (j:=1) rfl) rfl (by decide) hl_67 rfl fun a w q68 s68 hF hS h68=>hK _ _ (⟨⟨kpN,fun _=>hS.vis.of_le (Mem.le.refl _)⟩,?_⟩)
       refine e_one 12 (by kernel_rfl) ?_
       obtain ⟨m70,hm70,hS,hz70⟩:=hS.freeze
       have h70:=h68.froz hm70.le hz70
       refine e_op rfl rfl fun _ hK=>wp_buildSlice' (l:=([l_67] : List (List Int))) (cells:=[s68.v]) hF hS U23 inf28 rfl rfl (by kernel_rfl) rfl rfl rfl ⟨⟨s68,rfl,h70⟩,rfl⟩ rfl rfl fun a w q69 s69 hF hS h69 hb=>hK _ _ hb (e_one 13 (by kernel_rfl) ?_)
       have hS : St _ _ _ _ [q22,q69,q66,q10,q11,q20,q58,q5,q6,q7,[⟨b9,[s20.v,nilS.v,s58.v,s22.v],50⟩],[⟨b8,[s5.v,s6.v,s7.v,(iV t_3.Total)],74⟩],[⟨b2,[nilS.v,nilS.v,nilS.v,nilS.v],50⟩]]:=hS.sel [6,0,1,2,3,4,5,7,8,9,10,11,12] (by decide)
       refine e_opl rfl rfl rfl fun _ hK=>wp_append hF hS (h59.mono hm70.le) U23 inf28 rfl rfl rfl rfl (h69.vw hS (j:=1) rfl) rfl (by decide) hl_71 rfl fun a w q72 s72 hF hS h72=>hK _ _ (⟨⟨kpN,fun _=>hS.vis.of_le hm70.le⟩,?_⟩)
       refine e_P (v:=(pP b9 3)) 14 hF rfl (ex_fieldAddr U50 rfl sz23 rfl rfl) fun a hF=>e_one 15 (by kernel_rfl) (e_store (vs:=[s72.v]) (cs':=[s20.v,nilS.v,s58.v,s72.v]) 10 0 hF hS rfl rfl sz23 rfl rfl rfl rfl rfl rfl rfl rfl fun a w hF hS=>⟨⟨kpN,fun _=>hS.vis.of_le hm70.le⟩,?_⟩)
       refine e_end (by kernel_rfl) (n_jn ?_) _
       obtain rfl:=someI hj6
       exact ⟨m70,q72,s72,hF.sub ⟨rfl,rfl,rfl,rfl,rfl,rfl,rfl,rfl,rfl,rfl,rfl,rfl,trivial⟩,hS.sel [3,4,5,6,0,7,8,9,10,11,12] (by decide),hm70,(h57.mono hm70.le),(h58.mono hm70.le),h72⟩
      ·refine e_call (vs:=[(iV e_46),(iV p_base)]) hF hS rfl Try.func178 (by kernel_rfl) rfl rfl rfl (c_spec_oUp e_46 p_base t_64 ht_64 _ m60 hS.vis) ?_
       rintro a w _ rfl hF hS
       refine e_all [1,8] (by kernel_rfl) rfl ⟨?_,?_,trivial⟩
       ·refine e_lx (v:=s22.v) hF hS rfl (ex_load1 9 0 U23 rfl rfl rfl rfl) rfl rfl fun a hF=>e_one 8 (by kernel_rfl) (e_call (vs:=[(iV e_46),(iV p_base)]) hF hS rfl Try.func177 (by kernel_rfl) rfl rfl rfl (c_spec_oDown e_46 p_base t_65 ht_65 _ m60 hS.vis) ?_)
        rintro a w _ rfl hF hS
        refine e_P (v:=(iV (w64 (t_64 - t_65)))) 9 hF rfl (ex_ibin rfl rfl rfl) fun a hF=>e_one 10 (by kernel_rfl) (e_op rfl rfl fun _ hK=>wp_buildSlice' (l:=([(w64 (t_64 - t_65))] : List Int)) (cells:=[(iV (w64 (t_64 - t_65)))]) hF hS U28 inf3 rfl rfl (by kernel_rfl) rfl rfl rfl ⟨rfl,rfl⟩ rfl rfl fun a w q66 s66 hF hS h66 hb=>hK _ _ hb (e_one 11 (by kernel_rfl) ?_))
        have hS : St _ _ _ _ [q45,q66,q10,q11,q20,q58,q22,q5,q6,q7,[⟨b9,[s20.v,nilS.v,s58.v,s22.v],50⟩],[⟨b8,[s5.v,s6.v,s7.v,(iV t_3.Total)],74⟩],[⟨b2,[nilS.v,nilS.v,nilS.v,nilS.v],50⟩]]:=hS.sel [3,0,1,2,4,5,6,7,8,9,10,11,12] (by decide)
        refine e_opl rfl rfl rfl fun _ hK=>wp_append hF hS (h45.mono hm60.le) U28 inf3 rfl rfl rfl rfl (h66.vw hS (j:=1) rfl) rfl (by decide) hl_67 rfl fun a w q68 s68 hF hS h68=>hK _ _ (⟨⟨kpN,fun _=>hS.vis.of_le (Mem.le.refl _)⟩,?_⟩)
        refine e_one 12 (by kernel_rfl) ?_
        obtain ⟨m70,hm70,hS,hz70⟩:=hS.freeze
        have h70:=h68.froz hm70.le hz70
        refine e_op rfl rfl fun _ hK=>wp_buildSlice' (l:=([l_67] : List (List Int))) (cells:=[s68.v]) hF hS U23 inf28 rfl rfl (by kernel_rfl) rfl rfl rfl ⟨⟨s68,rfl,h70⟩,rfl⟩ rfl rfl fun a w q69 s69 hF hS h69 hb=>hK _ _ hb (e_one 13 (by kernel_rfl) ?_)
        have hS : St _ _ _ _ [q22,q69,q66,q10,q11,q20,q58,q5,q6,q7,[⟨b9,[s20.v,nilS.v,s58.v,s22.v],50⟩],[⟨b8,[s5.v,s6.v,s7.v,(iV t_3.Total)],74⟩],[⟨b2,[nilS.v,nilS.v,nilS.v,nilS.v],50⟩]]:=hS.sel [6,0,1,2,3,4,5,7,8,9,10,11,12] (by decide)
        refine e_opl rfl rfl rfl fun _ hK=>wp_append hF hS (h59.mono hm70.le) U23 inf28 rfl rfl rfl rfl (h69.vw hS (j:=1) rfl) rfl (by decide) hl_71 rfl fun a w q72 s72 hF hS h72=>hK _ _ (⟨⟨kpN,fun _=>hS.vis.of_le hm70.le⟩,?_⟩)
        refine e_P (v:=(pP b9 3)) 14 hF rfl (ex_fieldAddr U50 rfl sz23 rfl rfl) fun a hF=>e_one 15 (by kernel_rfl) (e_store (vs:=[s72.v]) (cs':=[s20.v,nilS.v,s58.v,s72.v]) 10 0 hF hS rfl rfl sz23 rfl rfl rfl rfl rfl rfl rfl rfl fun a w hF hS=>⟨⟨kpN,fun _=>hS.vis.of_le hm70.le⟩,?_⟩)
        refine e_end (by kernel_rfl) (n_jn ?_) _
        obtain rfl:=someI hj6
        exact ⟨m70,q72,s72,hF.sub ⟨rfl,rfl,rfl,rfl,rfl,rfl,rfl,rfl,rfl,rfl,rfl,rfl,trivial⟩,hS.sel [3,4,5,6,0,7,8,9,10,11,12] (by decide),hm70,(h57.mono hm70.le),(h58.mono hm70.le),h72⟩
       ·refine e_call (vs:=[(iV e_46),(iV p_base)]) hF hS rfl Try.func177 (by kernel_rfl) rfl rfl rfl (c_spec_oDown e_46 p_base t_65 ht_65 _ m60 hS.vis) ?_
        rintro a w _ rfl hF hS
        refine e_P (v:=(iV (w64 (t_64 - t_65)))) 9 hF rfl (ex_ibin rfl rfl rfl) fun a hF=>e_all [1,10] (by kernel_rfl) rfl ⟨?_,?_,trivial⟩
        ·refine e_lx (v:=s22.v) hF hS rfl (ex_load1 9 0 U23 rfl rfl rfl rfl) rfl rfl fun a hF=>e_one 10 (by kernel_rfl) (e_op rfl rfl fun _ hK=>wp_buildSlice' (l:=([(w64 (t_64 - t_65))] : List Int)) (cells:=[(iV (w64 (t_64 - t_65)))]) hF hS U28 inf3 rfl rfl (by kernel_rfl) rfl rfl rfl ⟨rfl,rfl⟩ rfl rfl fun a w q66 s66 hF hS h66 hb=>hK _ _ hb (e_one 11 (by kernel_rfl) ?_))
         have hS : St _ _ _ _ [q45,q66,q10,q11,q20,q58,q22,q5,q6,q7,[⟨b9,[s20.v,nilS.v,s58.v,s22.v],50⟩],[⟨b8,[s5.v,s6.v,s7.v,(iV t_3.Total)],74⟩],[⟨b2,[nilS.v,nilS.v,nilS.v,nilS.v],50⟩]]:=hS.sel [3,0,1,2,4,5,6,7,8,9,10,11,12] (by decide)
         refine e_opl rfl rfl rfl fun _ hK=>wp_append hF hS (h45.mono hm60.le) U28 inf3 rfl rfl rfl rfl (h66.vw hS (j:=1) rfl) rfl (by decide) hl_67 rfl fun a w q68 s68 hF hS h68=>hK _ _ (⟨⟨kpN,fun _=>hS.vis.of_le (Mem.le.refl _)⟩,?_⟩)
         refine e_one 12 (by kernel_rfl) ?_
         obtain ⟨m70,hm70,hS,hz70⟩:=hS.freeze
         have h70:=h68.froz hm70.le hz70
         refine e_op rfl rfl fun _ hK=>wp_buildSlice' (l:=([l_67] : List (List Int))) (cells:=[s68.v]) hF hS U23 inf28 rfl rfl (by kernel_rfl) rfl rfl rfl ⟨⟨s68,rfl,h70⟩,rfl⟩ rfl rfl fun a w q69 s69 hF hS h69 hb=>hK _ _ hb (e_one 13 (by kernel_rfl) ?_)
         have hS : St _ _ _ _ [q22,q69,q66,q10,q11,q20,q58,q5,q6,q7,[⟨b9,[s20.v,nilS.v,s58.v,s22.v],50⟩],[⟨b8,[s5.v,s6.v,s7.v,(iV t_3.Total)],74⟩],[⟨b2,[nilS.v,nilS.v,nilS.v,nilS.v],50⟩]]:=hS.sel [6,0,1,2,3,4,5,7,8,9,10,11,12] (by decide)
         refine e_opl rfl rfl rfl fun _ hK=>wp_append hF hS (h59.mono hm70.le) U23 inf28 rfl rfl rfl rfl (h69.vw hS (j:=1) rfl) rfl (by decide) hl_71 rfl fun a w q72 s72 hF hS h72=>hK _ _ (⟨⟨kpN,fun _=>hS.vis.of_le hm70.le⟩,?_⟩)
         refine e_P (v:=(pP b9 3)) 14 hF rfl (ex_fieldAddr U50 rfl sz23 rfl rfl) fun a hF=>e_one 15 (by kernel_rfl) (e_store (vs:=[s72.v]) (cs':=[s20.v,nilS.v,s58.v,s72.v]) 10 0 hF hS rfl rfl sz23 rfl rfl rfl rfl rfl rfl rfl rfl fun a w hF hS=>⟨⟨kpN,fun _=>hS.vis.of_le hm70.le⟩,?_⟩)
         refine e_end (by kernel_rfl) (n_jn ?_) _
         obtain rfl:=someI hj6
         exact ⟨m70,q72,s72,hF.sub ⟨rfl,rfl,rfl,rfl,rfl,rfl,rfl,rfl,rfl,rfl,rfl,rfl,trivial⟩,hS.sel [3,4,5,6,0,7,8,9,10,11,12] (by decide),hm70,(h57.mono hm70.le),(h58.mono hm70.le),h72⟩
        ·refine e_op rfl rfl fun _ hK=>wp_buildSlice' (l:=([(w64 (t_64 - t_65))] : List Int)) (cells:=[(iV (w64 (t_64 - t_65)))]) hF hS U28 inf3 rfl rfl (by kernel_rfl) rfl rfl rfl ⟨rfl,rfl⟩ rfl rfl fun a w q66 s66 hF hS h66 hb=>hK _ _ hb (e_all [1,11] (by kernel_rfl) rfl ⟨?_,?_,trivial⟩)
         ·refine e_lx (v:=s22.v) hF hS rfl (ex_load1 10 0 U23 rfl rfl rfl rfl) rfl rfl fun a hF=>e_one 11 (by kernel_rfl) ?_
          have hS : St _ _ _ _ [q45,q66,q10,q11,q20,q58,q22,q5,q6,q7,[⟨b9,[s20.v,nilS.v,s58.v,s22.v],50⟩],[⟨b8,[s5.v,s6.v,s7.v,(iV t_3.Total)],74⟩],[⟨b2,[nilS.v,nilS.v,nilS.v,nilS.v],50⟩]]:=hS.sel [3,0,1,2,4,5,6,7,8,9,10,11,12] (by decide)
          refine e_opl rfl rfl rfl fun _ hK=>wp_append hF hS (h45.mono hm60.le) U28 inf3 rfl rfl rfl rfl (h66.vw hS (j:=1) rfl) rfl (by decide) hl_67 rfl fun a w q68 s68 hF hS h68=>hK _ _ (⟨⟨kpN,fun _=>hS.vis.of_le (Mem.le.refl _)⟩,?_⟩)
          refine e_one 12 (by kernel_rfl) ?_
          obtain ⟨m70,hm70,hS,hz70⟩:=hS.freeze
          have h70:=h68.froz hm70.le hz70
          refine e_op rfl rfl fun _ hK=>wp_buildSlice' (l:=([l_67] : List (List Int))) (cells:=[s68.v]) hF hS U23 inf28 rfl rfl (by kernel_rfl) rfl rfl rfl ⟨⟨s68,rfl,h70⟩,rfl⟩ rfl rfl fun a w q69 s69 hF hS h69 hb=>hK _ _ hb (e_one 13 (by kernel_rfl) ?_)
          have hS : St _ _ _ _ [q22,q69,q66,q10,q11,q20,q58,q5,q6,q7,[⟨b9,[s20.v,nilS.v,s58.v,s22.v],50⟩],[⟨b8,[s5.v,s6.v,s7.v,(iV t_3.Total)],74⟩],[⟨b2,[nilS.v,nilS.v,nilS.v,nilS.v],50⟩]]:=hS.sel [6,0,1,2,3,4,5,7,8,9,10,11,12] (by decide)
          refine e_opl rfl rfl rfl fun _ hK=>wp_append hF hS (h59.mono hm70.le) U23 inf28 rfl rfl rfl rfl (h69.vw hS (j:=1) rfl) rfl (by decide) hl_71 rfl fun a w q72 s72 hF hS h72=>hK _ _ (⟨⟨kpN,fun _=>hS.vis.of_le hm70.le⟩,?_⟩)
          refine e_P (v:=(pP b9 3)) 14 hF rfl (ex_fieldAddr U50 rfl sz23 rfl rfl) fun a hF=>e_one 15 (by kernel_rfl) (e_store (vs:=[s72.v]) (cs':=[s20.v,nilS.v,s58.v,s72.v]) 10 0 hF hS rfl rfl sz23 rfl rfl rfl rfl rfl rfl rfl rfl fun a w hF hS=>⟨⟨kpN,fun _=>hS.vis.of_le hm70.le⟩,?_⟩)
          refine e_end (by kernel_rfl) (n_jn ?_) _
          obtain rfl:=someI hj6
          exact ⟨m70,q72,s72,hF.sub ⟨rfl,rfl,rfl,rfl,rfl,rfl,rfl,rfl,rfl,rfl,rfl,rfl,trivial⟩,hS.sel [3,4,5,6,0,7,8,9,10,11,12] (by decide),hm70,(h57.mono hm70.le),(h58.mono hm70.le),h72⟩
         ·have hS : St _ _ _ _ [q45,q66,q10,q11,q20,q58,q22,q5,q6,q7,[⟨b9,[s20.v,nilS.v,s58.v,s22.v],50⟩],[⟨b8,[s5.v,s6.v,s7.v,(iV t_3.Total)],74⟩],[⟨b2,[nilS.v,nilS.v,nilS.v,nilS.v],50⟩]]:=hS.sel [3,0,1,2,4,5,6,7,8,9,10,11,12] (by decide)
          refine e_opl rfl rfl rfl fun _ hK=>wp_append hF hS (h45.mono hm60.le) U28 inf3 rfl rfl rfl rfl (h66.vw hS (j:=1) rfl) rfl (by decide) hl_67 rfl fun a w q68 s68 hF hS h68=>hK _ _ (⟨⟨kpN,fun _=>hS.vis.of_le (Mem.le.refl _)⟩,?_⟩)
          refine e_X (v:=s22.v) 1 hF hS rfl (ex_load1 10 0 U23 rfl rfl rfl rfl) fun a hF=>e_one 12 (by kernel_rfl) ?_
          obtain ⟨m70,hm70,hS,hz70⟩:=hS.freeze
          have h70:=h68.froz hm70.le hz70
          refine e_op rfl rfl fun _ hK=>wp_buildSlice' (l:=([l_67] : List (List Int))) (cells:=[s68.v]) hF hS U23 inf28 rfl rfl (by kernel_rfl) rfl rfl rfl ⟨⟨s68,rfl,h70⟩,rfl⟩ rfl rfl fun a w q69 s69 hF hS h69 hb=>hK _ _ hb (e_one 13 (by kernel_rfl) ?_)
          have hS : St _ _ _ _ [q22,q69,q66,q10,q11,q20,q58,q5,q6,q7,[⟨b9,[s20.v,nilS.v,s58.v,s22.v],50⟩],[⟨b8,[s5.v,s6.v,s7.v,(iV t_3.Total)],74⟩],[⟨b2,[nilS.v,nilS.v,nilS.v,nilS.v],50⟩]]:=hS.sel [6,0,1,2,3,4,5,7,8,9,10,11,12] (by decide)
          refine e_opl rfl rfl rfl fun _ hK=>wp_append hF hS (h59.mono hm70.le) U23 inf28 rfl rfl rfl rfl (h69.vw hS (j:=1) rfl) rfl (by decide) hl_71 rfl fun a w q72 s72 hF hS h72=>hK _ _ (⟨⟨kpN,fun _=>hS.vis.of_le hm70.le⟩,?_⟩)
          refine e_P (v:=(pP b9 3)) 14 hF rfl (ex_fieldAddr U50 rfl sz23 rfl rfl) fun a hF=>e_one 15 (by kernel_rfl) (e_store (vs:=[s72.v]) (cs':=[s20.v,nilS.v,s58.v,s72.v]) 10 0 hF hS rfl rfl sz23 rfl rfl rfl rfl rfl rfl rfl rfl fun a w hF hS=>⟨⟨kpN,fun _=>hS.vis.of_le hm70.le⟩,?_⟩)
          refine e_end (by kernel_rfl) (n_jn ?_) _
          obtain rfl:=someI hj6
          exact ⟨m70,q72,s72,hF.sub ⟨rfl,rfl,rfl,rfl,rfl,rfl,rfl,rfl,rfl,rfl,rfl,rfl,trivial⟩,hS.sel [3,4,5,6,0,7,8,9,10,11,12] (by decide),hm70,(h57.mono hm70.le),(h58.mono hm70.le),h72⟩
     ·rintro a w ⟨m77,q76,s76,hF,hS,hm77,h74,h75,h76⟩
      refine n_sq ?_
      refine q_seq (e_region ⟨[6,8],[],m77⟩ mixed fun w' hw'=>?_)
      have hS:=hS.below hw'
      refine e_P (v:=(pP b9 0)) 0 hF rfl (ex_fieldAddr U50 rfl sz28 rfl rfl) fun a hF=>e_X (v:=s20.v) 1 hF hS rfl (ex_load1 8 0 U28 rfl rfl rfl rfl) fun a hF=>e_P (v:=(iV e_46)) 2 hF rfl (ex_move rfl) fun a hF=>e_P (v:=(iV p_base)) 3 hF rfl (ex_move rfl) fun a hF=>e_one 4 (by kernel_rfl) ?_
      obtain ⟨t_78,ht_78,hb1⟩:=bindS hb1
      refine e_call (vs:=[(iV e_46),(iV p_base)]) hF hS rfl Try.func178 (by kernel_rfl) rfl rfl rfl (c_spec_oUp e_46 p_base t_78 ht_78 _ m77 hS.vis) ?_
      rintro a w _ rfl hF hS
      refine e_one 5 (by kernel_rfl) (e_op rfl rfl fun _ hK=>wp_buildSlice' (l:=([t_78] : List Int)) (cells:=[(iV t_78)]) hF hS U28 inf3 rfl rfl (by kernel_rfl) rfl rfl rfl ⟨rfl,rfl⟩ rfl rfl fun a w q79 s79 hF hS h79 hb=>hK _ _ hb (e_one 6 (by kernel_rfl) ?_))
      have hS : St _ _ _ _ [q20,q79,q10,q11,q58,q76,q5,q6,q7,[⟨b9,[s20.v,nilS.v,s58.v,s76.v],50⟩],[⟨b8,[s5.v,s6.v,s7.v,(iV t_3.Total)],74⟩],[⟨b2,[nilS.v,nilS.v,nilS.v,nilS.v],50⟩]]:=hS.sel [3,0,1,2,4,5,6,7,8,9,10,11] (by decide)
      obtain ⟨l_80,hl_80,hb1⟩:=bindS hb1
      refine e_opl rfl rfl rfl fun _ hK=>wp_append hF hS h74 U28 inf3 rfl rfl rfl rfl (h79.vw hS (j:=1) rfl) rfl (by decide) hl_80 rfl fun a w q81 s81 hF hS h81=>hK _ _ (⟨⟨kpN,fun _=>hS.vis.of_le (Mem.le.refl _)⟩,?_⟩)
      refine e_P (v:=(pP b9 0)) 7 hF rfl (ex_fieldAddr U50 rfl sz28 rfl rfl) fun a hF=>e_one 8 (by kernel_rfl) (e_store (vs:=[s81.v]) (cs':=[s81.v,nilS.v,s58.v,s76.v]) 9 0 hF hS rfl rfl sz28 rfl rfl rfl rfl rfl rfl rfl rfl fun a w hF hS=>⟨⟨kpN,fun _=>hS.vis.of_le (Mem.le.refl _)⟩,?_⟩)
      refine e_end (by kernel_rfl) (n_sq ?_) _
      refine q_region (q_m hF rfl fun a hF=>q_m hF rfl fun a hF=>q_m hF rfl fun a hF=>?_)
      obtain ⟨t_82,ht_82,hb1⟩:=bindS hb1
      refine q_call (vs:=[(iV e_46),(iV p_base)]) hF hS Try.func178 (by kernel_rfl) rfl rfl rfl (c_spec_oUp e_46 p_base t_82 ht_82 _ m77 hS.vis) ?_
      rintro a w _ rfl hF hS
      refine q_y (v:=(iV (w64 (cols_17 + t_82)))) hF hS (ex_ibin rfl rfl rfl) fun a hF=>q_s hF rfl fun a hF=>q_end (n_ib (n_sq (q_region (q_y (v:=(iV (w64 (t_18 + 1)))) hF hS (ex_ibin rfl rfl rfl) fun a hF=>q_m hF rfl fun a hF=>q_end ?_))))
      obtain rfl:=someI hb1
      exact ⟨rfl,m77,q81,s81,q58,s58,q76,s76,_,_,_,rfl,hF.sub ⟨rfl,rfl,rfl,rfl,rfl,rfl,rfl,rfl,rfl,rfl,rfl,trivial⟩,hS.sel [0,4,5,3,2,9,10,6,7,8,11] (by decide),((hm23.trans hm60).trans hm77),h81,h75,h76⟩
 ·rintro e a w ⟨m88,q85,s85,q86,s86,q87,s87,cols_83,t_84,rfl,rfl,hF,hS,hm88,h85,h86,h87⟩
  refine x_ib (n_sq ?_)
  refine q_seq (q_sr (q_y (v:=(pP b8 2)) hF hS (ex_fieldAddr U74 rfl sz28 rfl rfl) fun a hF=>q_y (v:=s7.v) hF hS (ex_load1 9 0 U28 rfl rfl rfl rfl) fun a hF=>q_y (v:=(iV (goLen t_3.Cols))) hF hS (ex_len U28 rfl (h7.mono hm88.le).len) fun a hF=>q_m hF rfl fun a hF=>q_end (n_sq (q_block ?_))))
  obtain ⟨o7,hl7,hr⟩:=bindS hr
  refine q_loop (fun (s : (List Int) × (List Int) × Int × Int × impl_Transport) a w=>∃ (q90 : Piece),∃ (s90 : Sl),∃ (q92 : Piece),∃ (s92 : Sl),∃ (q97 : Piece),∃ (s97 : Sl),∃ lastLo_89,∃ lastHi_91,∃ rows_93,∃ t_94,∃ t_95,s = (lastLo_89,lastHi_91,rows_93,t_94,t_95)∧Fr a 175 [(1,(iV p_base)),(4,(pP b2 0)),(5,(pP b8 0)),(6,(pP b9 0)),(7,s90.v),(8,s92.v),(9,(iV rows_93)),(10,(iV cols_83)),(104,s7.v),(105,(iV (goLen t_3.Cols))),(106,(iV t_94))]∧St [] w0 w m88 [q90,q92,q97,q85,q86,q87,q5,q6,q7,[⟨b9,[s85.v,s97.v,s86.v,s87.v],50⟩],[⟨b8,[s5.v,s6.v,s7.v,(iV t_3.Total)],74⟩],[⟨b2,[nilS.v,nilS.v,nilS.v,nilS.v],50⟩]]∧OwnL m88 3 q90 s90 lastLo_89∧OwnL m88 3 q92 s92 lastHi_91∧OwnL m88 3 q85 s85 t_95.Rows∧t_95.Rows = t_84.Rows∧OwnL m88 3 q97 s97 t_95.Cols∧OwnL m88 28 q86 s86 t_95.Lo∧t_95.Lo = t_84.Lo∧OwnL m88 28 q87 s87 t_95.Hi∧t_95.Hi = t_84.Hi) (fun (o : (List Int) × (List Int) × Int × impl_Transport) e a w=>∃ (q116 : Piece),∃ (s116 : Sl),∃ (q118 : Piece),∃ (s118 : Sl),∃ (q122 : Piece),∃ (s122 : Sl),∃ lastLo_115,∃ lastHi_117,∃ rows_119,∃ t_120,o = (lastLo_115,lastHi_117,rows_119,t_120)∧e = .exit 4∧Fr a 175 [(1,(iV p_base)),(4,(pP b2 0)),(5,(pP b8 0)),(6,(pP b9 0)),(7,s116.v),(8,s118.v),(9,(iV rows_119)),(10,(iV cols_83))]∧St [] w0 w m88 [q116,q118,q85,q122,q86,q87,q5,q6,q7,[⟨b9,[s85.v,s122.v,s86.v,s87.v],50⟩],[⟨b8,[s5.v,s6.v,s7.v,(iV t_3.Total)],74⟩],[⟨b2,[nilS.v,nilS.v,nilS.v,nilS.v],50⟩]]∧OwnL m88 3 q116 s116 lastLo_115∧OwnL m88 3 q118 s118 lastHi_117∧OwnL m88 3 q85 s85 t_120.Rows∧t_120.Rows = t_84.Rows∧OwnL m88 3 q122 s122 t_120.Cols∧OwnL m88 28 q86 s86 t_120.Lo∧t_120.Lo = t_84.Lo∧OwnL m88 28 q87 s87 t_120.Hi∧t_120.Hi = t_84.Hi) hl7 ⟨q10,s10,q11,s11,[],nilS,_,_,_,_,_,rfl,hF.sub ⟨rfl,rfl,rfl,rfl,rfl,rfl,rfl,rfl,rfl,rfl,rfl,trivial⟩,hS.sel [0,1,11,2,3,4,5,6,7,8,9,10] (by decide),(h10.mono hm88.le),(h11.mono hm88.le),h85,rfl,(OwnL.nil (α:=Int) m88 3),h86,rfl,h87,rfl⟩ ?_ ?_
  ·clear hF hS
   rintro s a w st ⟨q90,s90,q92,s92,q97,s97,lastLo_89,lastHi_91,rows_93,t_94,t_95,rfl,hF,hS,h90,h92,h96,h96k,h97,h98,h98k,h99,h99k⟩ hb7
   unfold spec_oNetwork_l3 at hb7
   refine q_sr (q_y (v:=(.bool (decide (t_94 < (goLen t_3.Cols))))) hF hS (ex_ibin rfl rfl rfl) fun a hF=>q_end (n_sq (q_seq ?_)))
   rcases bcase (decide (t_94 < (goLen t_3.Cols))) with hc8 | hc8
   ·have hb7:=cond_f hc8 hb7
    refine q_cond_f hF rfl hc8 (q_exit (x_sq ?_))
    obtain rfl:=someI hb7
    exact ⟨nofun,.inl ⟨q90,s90,q92,s92,q97,s97,_,_,_,_,rfl,rfl,hF.sub ⟨rfl,rfl,rfl,rfl,rfl,rfl,rfl,rfl,trivial⟩,hS.sel [0,1,3,2,4,5,6,7,8,9,10,11] (by decide),h90,h92,h96,h96k,h97,h98,h98k,h99,h99k⟩⟩
   ·have hb7:=cond_t hc8 hb7
    refine q_cond_t hF rfl hc8 (q_skipc (n_sq (q_seq (q_block (q_seq (q_region ?_))))))
    obtain ⟨e_100,he_100,hb7⟩:=bindS hb7
    obtain ⟨vs101,at101,d101⟩:=(h7.mono hm88.le).at he_100 1 rfl
    obtain rfl : vs101 = [(iV e_100)]:=d101
    refine q_y (v:=(elP s7 (t_94.toNat * 1))) hF hS (ex_indexAddr U28 sz3 rfl rfl ((h7.mono hm88.le).idx he_100)) fun a hF=>q_y (v:=(iV e_100)) hF hS (ex_loadE1 0 U3 rfl rfl (at101.at 8 rfl) rfl rfl) fun a hF=>q_s hF rfl fun a hF=>q_end (n_sq (q_sr (q_m hF rfl fun a hF=>q_do rfl fun _ hK=>wp_buildSlice' (l:=([0] : List Int)) (cells:=[(iV 0)]) hF hS U28 inf3 rfl rfl (by kernel_rfl) rfl rfl rfl ⟨rfl,rfl⟩ rfl rfl fun a w q102 s102 hF hS h102 _=>hK _ _ ?_)))
    have hS : St _ _ _ _ [q90,q102,q92,q97,q85,q86,q87,q5,q6,q7,[⟨b9,[s85.v,s97.v,s86.v,s87.v],50⟩],[⟨b8,[s5.v,s6.v,s7.v,(iV t_3.Total)],74⟩],[⟨b2,[nilS.v,nilS.v,nilS.v,nilS.v],50⟩]]:=hS.sel [1,0,2,3,4,5,6,7,8,9,10,11,12] (by decide)
    obtain ⟨l_103,hl_103,hb7⟩:=bindS hb7
    refine q_do rfl fun _ hK=>wp_append hF hS h90 U28 inf3 rfl rfl rfl rfl (h102.vw hS (j:=1) rfl) rfl (by decide) hl_103 rfl fun a w q104 s104 hF hS h104=>hK _ _ (q_s hF rfl fun a hF=>q_end (n_sq (q_sr (q_m hF rfl fun a hF=>q_m hF rfl fun a hF=>q_m hF rfl fun a hF=>?_))))
    obtain ⟨t_105,ht_105,hb7⟩:=bindS hb7
    refine q_call (vs:=[(iV e_100),(iV p_base)]) hF hS Try.func178 (by kernel_rfl) rfl rfl rfl (c_spec_oUp e_100 p_base t_105 ht_105 _ m88 hS.vis) ?_
    rintro a w _ rfl hF hS
    refine q_m hF rfl fun a hF=>q_m hF rfl fun a hF=>?_
    obtain ⟨t_106,ht_106,hb7⟩:=bindS hb7
    refine q_call (vs:=[(iV e_100),(iV p_base)]) hF hS Try.func177 (by kernel_rfl) rfl rfl rfl (c_spec_oDown e_100 p_base t_106 ht_106 _ m88 hS.vis) ?_
    rintro a w _ rfl hF hS
    refine q_y (v:=(iV (w64 (t_105 - t_106)))) hF hS (ex_ibin rfl rfl rfl) fun a hF=>q_do rfl fun _ hK=>wp_buildSlice' (l:=([(w64 (t_105 - t_106))] : List Int)) (cells:=[(iV (w64 (t_105 - t_106)))]) hF hS U28 inf3 rfl rfl (by kernel_rfl) rfl rfl rfl ⟨rfl,rfl⟩ rfl rfl fun a w q107 s107 hF hS h107 _=>hK _ _ ?_
    have hS : St _ _ _ _ [q92,q107,q104,q102,q97,q85,q86,q87,q5,q6,q7,[⟨b9,[s85.v,s97.v,s86.v,s87.v],50⟩],[⟨b8,[s5.v,s6.v,s7.v,(iV t_3.Total)],74⟩],[⟨b2,[nilS.v,nilS.v,nilS.v,nilS.v],50⟩]]:=hS.sel [3,0,1,2,4,5,6,7,8,9,10,11,12,13] (by decide)
    obtain ⟨l_108,hl_108,hb7⟩:=bindS hb7
    refine q_do rfl fun _ hK=>wp_append hF hS h92 U28 inf3 rfl rfl rfl rfl (h107.vw hS (j:=1) rfl) rfl (by decide) hl_108 rfl fun a w q109 s109 hF hS h109=>hK _ _ (q_s hF rfl fun a hF=>q_end (n_sq (q_seq (e_region ⟨[6,8],[],m88⟩ mixed fun w' hw'=>?_))))
    have hS:=hS.below hw'
    refine e_P (v:=(pP b9 1)) 0 hF rfl (ex_fieldAddr U50 rfl sz28 rfl rfl) fun a hF=>e_X (v:=s97.v) 1 hF hS rfl (ex_load1 11 0 U28 rfl rfl rfl rfl) fun a hF=>e_P (v:=(iV e_100)) 2 hF rfl (ex_move rfl) fun a hF=>e_P (v:=(iV p_base)) 3 hF rfl (ex_move rfl) fun a hF=>e_one 4 (by kernel_rfl) ?_
    obtain ⟨t_110,ht_110,hb7⟩:=bindS hb7
    refine e_call (vs:=[(iV e_100),(iV p_base)]) hF hS rfl Try.func178 (by kernel_rfl) rfl rfl rfl (c_spec_oUp e_100 p_base t_110 ht_110 _ m88 hS.vis) ?_
    rintro a w _ rfl hF hS
    refine e_one 5 (by kernel_rfl) (e_op rfl rfl fun _ hK=>wp_buildSlice' (l:=([t_110] : List Int)) (cells:=[(iV t_110)]) hF hS U28 inf3 rfl rfl (by kernel_rfl) rfl rfl rfl ⟨rfl,rfl⟩ rfl rfl fun a w q111 s111 hF hS h111 hb=>hK _ _ hb (e_one 6 (by kernel_rfl) ?_))
    have hS : St _ _ _ _ [q97,q111,q109,q107,q104,q102,q85,q86,q87,q5,q6,q7,[⟨b9,[s85.v,s97.v,s86.v,s87.v],50⟩],[⟨b8,[s5.v,s6.v,s7.v,(iV t_3.Total)],74⟩],[⟨b2,[nilS.v,nilS.v,nilS.v,nilS.v],50⟩]]:=hS.sel [5,0,1,2,3,4,6,7,8,9,10,11,12,13,14] (by decide)
    obtain ⟨l_112,hl_112,hb7⟩:=bindS hb7
    refine e_opl rfl rfl rfl fun _ hK=>wp_append hF hS h97 U28 inf3 rfl rfl rfl rfl (h111.vw hS (j:=1) rfl) rfl (by decide) hl_112 rfl fun a w q113 s113 hF hS h113=>hK _ _ (⟨⟨kpN,fun _=>hS.vis.of_le (Mem.le.refl _)⟩,?_⟩)
    refine e_P (v:=(pP b9 1)) 7 hF rfl (ex_fieldAddr U50 rfl sz28 rfl rfl) fun a hF=>e_one 8 (by kernel_rfl) (e_store (vs:=[s113.v]) (cs':=[s85.v,s113.v,s86.v,s87.v]) 12 0 hF hS rfl rfl sz28 rfl rfl rfl rfl rfl rfl rfl rfl fun a w hF hS=>⟨⟨kpN,fun _=>hS.vis.of_le (Mem.le.refl _)⟩,?_⟩)
    refine e_end (by kernel_rfl) (n_sq ?_) _
    refine q_region (q_m hF rfl fun a hF=>q_m hF rfl fun a hF=>q_m hF rfl fun a hF=>?_)
    obtain ⟨t_114,ht_114,hb7⟩:=bindS hb7
    refine q_call (vs:=[(iV e_100),(iV p_base)]) hF hS Try.func178 (by kernel_rfl) rfl rfl rfl (c_spec_oUp e_100 p_base t_114 ht_114 _ m88 hS.vis) ?_
    rintro a w _ rfl hF hS
    refine q_y (v:=(iV (w64 (rows_93 + t_114)))) hF hS (ex_ibin rfl rfl rfl) fun a hF=>q_s hF rfl fun a hF=>q_end (n_ib (n_sq (q_region (q_y (v:=(iV (w64 (t_94 + 1)))) hF hS (ex_ibin rfl rfl rfl) fun a hF=>q_m hF rfl fun a hF=>q_end ?_))))
    obtain rfl:=someI hb7
    exact ⟨rfl,q104,s104,q109,s109,q113,s113,_,_,_,_,_,rfl,hF.sub ⟨rfl,rfl,rfl,rfl,rfl,rfl,rfl,rfl,rfl,rfl,rfl,trivial⟩,hS.sel [4,2,0,6,7,8,9,10,11,12,13,14] (by decide),h104,h109,h96,h96k,h113,h98,h98k,h99,h99k⟩
  ·rintro e a w ⟨q116,s116,q118,s118,q122,s122,lastLo_115,lastHi_117,rows_119,t_120,rfl,rfl,hF,hS,h116,h118,h121,h121k,h122,h123,h123k,h124,h124k⟩
   refine x_ib (n_sq ?_)
   refine q_seq ?_
   obtain ⟨t_133,hj9,hr⟩:=bindS hr
   refine q_join (fun a w=>∃ (m138 : Mem),∃ (q136 : Piece),∃ (s136 : Sl),Fr a 175 [(1,(iV p_base)),(4,(pP b2 0)),(5,(pP b8 0)),(6,(pP b9 0)),(8,s118.v),(9,(iV rows_119)),(10,(iV cols_83))]∧St [] w0 w m138 [q118,q85,q122,q136,q87,q5,q6,q7,[⟨b9,[s85.v,s122.v,s136.v,s87.v],50⟩],[⟨b8,[s5.v,s6.v,s7.v,(iV t_3.Total)],74⟩],[⟨b2,[nilS.v,nilS.v,nilS.v,nilS.v],50⟩]]∧MLe [] w0.heap.size m88 m138∧OwnL m138 3 q85 s85 t_133.Rows∧t_133.Rows = t_84.Rows∧OwnL m138 3 q122 s122 t_133.Cols∧OwnL m138 28 q136 s136 t_133.Lo∧OwnL m138 28 q87 s87 t_133.Hi∧t_133.Hi = t_84.Hi) ?_ ?_
   ·refine e_region ⟨[4,6,8],[],m88⟩ mixed fun w' hw'=>?_
    have hS:=hS.below hw'
    refine e_P (v:=(pP b9 2)) 0 hF rfl (ex_fieldAddr U50 rfl sz23 rfl rfl) fun a hF=>e_P (v:=s116.v) 2 hF rfl (ex_move rfl) fun a hF=>?_
    obtain ⟨l_127,hl_127,hj9⟩:=bindS hj9
    obtain ⟨l_131,hl_131,hj9⟩:=bindS hj9
    refine e_all [1,3] (by kernel_rfl) rfl ⟨?_,?_,trivial⟩
    ·refine e_lx (v:=s86.v) hF hS rfl (ex_load1 9 0 U23 rfl rfl rfl rfl) rfl rfl fun a hF=>e_one 3 (by kernel_rfl) (e_op rfl rfl fun _ hK=>wp_buildSlice' (l:=([0] : List Int)) (cells:=[(iV 0)]) hF hS U28 inf3 rfl rfl (by kernel_rfl) rfl rfl rfl ⟨rfl,rfl⟩ rfl rfl fun a w q126 s126 hF hS h126 hb=>hK _ _ hb (e_one 4 (by kernel_rfl) ?_))
     have hS : St _ _ _ _ [q116,q126,q118,q85,q122,q86,q87,q5,q6,q7,[⟨b9,[s85.v,s122.v,s86.v,s87.v],50⟩],[⟨b8,[s5.v,s6.v,s7.v,(iV t_3.Total)],74⟩],[⟨b2,[nilS.v,nilS.v,nilS.v,nilS.v],50⟩]]:=hS.sel [1,0,2,3,4,5,6,7,8,9,10,11,12] (by decide)
     refine e_opl rfl rfl rfl fun _ hK=>wp_append hF hS h116 U28 inf3 rfl rfl rfl rfl (h126.vw hS (j:=1) rfl) rfl (by decide) hl_127 rfl fun a w q128 s128 hF hS h128=>hK _ _ (⟨⟨kpN,fun _=>hS.vis.of_le (Mem.le.refl _)⟩,?_⟩)
     refine e_one 5 (by kernel_rfl) ?_
     obtain ⟨m130,hm130,hS,hz130⟩:=hS.freeze
     have h130:=h128.froz hm130.le hz130
     refine e_op rfl rfl fun _ hK=>wp_buildSlice' (l:=([l_127] : List (List Int))) (cells:=[s128.v]) hF hS U23 inf28 rfl rfl (by kernel_rfl) rfl rfl rfl ⟨⟨s128,rfl,h130⟩,rfl⟩ rfl rfl fun a w q129 s129 hF hS h129 hb=>hK _ _ hb (e_one 6 (by kernel_rfl) ?_)
     have hS : St _ _ _ _ [q86,q129,q126,q118,q85,q122,q87,q5,q6,q7,[⟨b9,[s85.v,s122.v,s86.v,s87.v],50⟩],[⟨b8,[s5.v,s6.v,s7.v,(iV t_3.Total)],74⟩],[⟨b2,[nilS.v,nilS.v,nilS.v,nilS.v],50⟩]]:=hS.sel [5,0,1,2,3,4,6,7,8,9,10,11,12] (by decide)
     refine e_opl rfl rfl rfl fun _ hK=>wp_append hF hS (h123.mono hm130.le) U23 inf28 rfl rfl rfl rfl (h129.vw hS (j:=1) rfl) rfl (by decide) hl_131 rfl fun a w q132 s132 hF hS h132=>hK _ _ (⟨⟨kpN,fun _=>hS.vis.of_le hm130.le⟩,?_⟩)
     refine e_P (v:=(pP b9 2)) 7 hF rfl (ex_fieldAddr U50 rfl sz23 rfl rfl) fun a hF=>e_one 8 (by kernel_rfl) (e_store (vs:=[s132.v]) (cs':=[s85.v,s122.v,s132.v,s87.v]) 10 0 hF hS rfl rfl sz23 rfl rfl rfl rfl rfl rfl rfl rfl fun a w hF hS=>⟨⟨kpN,fun _=>hS.vis.of_le hm130.le⟩,?_⟩)
     refine e_end (by kernel_rfl) (n_jn ?_) _
     obtain rfl:=someI hj9
     exact ⟨m130,q132,s132,hF.sub ⟨rfl,rfl,rfl,rfl,rfl,rfl,rfl,trivial⟩,hS.sel [3,4,5,0,6,7,8,9,10,11,12] (by decide),hm130,(h121.mono hm130.le),h121k,(h122.mono hm130.le),h132,(h124.mono hm130.le),h124k⟩
    ·refine e_op rfl rfl fun _ hK=>wp_buildSlice' (l:=([0] : List Int)) (cells:=[(iV 0)]) hF hS U28 inf3 rfl rfl (by kernel_rfl) rfl rfl rfl ⟨rfl,rfl⟩ rfl rfl fun a w q126 s126 hF hS h126 hb=>hK _ _ hb (e_all [1,4] (by kernel_rfl) rfl ⟨?_,?_,trivial⟩)
     ·refine e_lx (v:=s86.v) hF hS rfl (ex_load1 10 0 U23 rfl rfl rfl rfl) rfl rfl fun a hF=>e_one 4 (by kernel_rfl) ?_
      have hS : St _ _ _ _ [q116,q126,q118,q85,q122,q86,q87,q5,q6,q7,[⟨b9,[s85.v,s122.v,s86.v,s87.v],50⟩],[⟨b8,[s5.v,s6.v,s7.v,(iV t_3.Total)],74⟩],[⟨b2,[nilS.v,nilS.v,nilS.v,nilS.v],50⟩]]:=hS.sel [1,0,2,3,4,5,6,7,8,9,10,11,12] (by decide)
      refine e_opl rfl rfl rfl fun _ hK=>wp_append hF hS h116 U28 inf3 rfl rfl rfl rfl (h126.vw hS (j:=1) rfl) rfl (by decide) hl_127 rfl fun a w q128 s128 hF hS h128=>hK _ _ (⟨⟨kpN,fun _=>hS.vis.of_le (Mem.le.refl _)⟩,?_⟩)
      refine e_one 5 (by kernel_rfl) ?_
      obtain ⟨m130,hm130,hS,hz130⟩:=hS.freeze
      have h130:=h128.froz hm130.le hz130
      refine e_op rfl rfl fun _ hK=>wp_buildSlice' (l:=([l_127] : List (List Int))) (cells:=[s128.v]) hF hS U23 inf28 rfl rfl (by kernel_rfl) rfl rfl rfl ⟨⟨s128,rfl,h130⟩,rfl⟩ rfl rfl fun a w q129 s129 hF hS h129 hb=>hK _ _ hb (e_one 6 (by kernel_rfl) ?_)
      have hS : St _ _ _ _ [q86,q129,q126,q118,q85,q122,q87,q5,q6,q7,[⟨b9,[s85.v,s122.v,s86.v,s87.v],50⟩],[⟨b8,[s5.v,s6.v,s7.v,(iV t_3.Total)],74⟩],[⟨b2,[nilS.v,nilS.v,nilS.v,nilS.v],50⟩]]:=hS.sel [5,0,1,2,3,4,6,7,8,9,10,11,12] (by decide)
      refine e_opl rfl rfl rfl fun _ hK=>wp_append hF hS (h123.mono hm130.le) U23 inf28 rfl rfl rfl rfl (h129.vw hS (j:=1) rfl) rfl (by decide) hl_131 rfl fun a w q132 s132 hF hS h132=>hK _ _ (⟨⟨kpN,fun _=>hS.vis.of_le hm130.le⟩,?_⟩)
      refine e_P (v:=(pP b9 2)) 7 hF rfl (ex_fieldAddr U50 rfl sz23 rfl rfl) fun a hF=>e_one 8 (by kernel_rfl) (e_store (vs:=[s132.v]) (cs':=[s85.v,s122.v,s132.v,s87.v]) 10 0 hF hS rfl rfl sz23 rfl rfl rfl rfl rfl rfl rfl rfl fun a w hF hS=>⟨⟨kpN,fun _=>hS.vis.of_le hm130.le⟩,?_⟩)
      refine e_end (by kernel_rfl) (n_jn ?_) _
      obtain rfl:=someI hj9
      exact ⟨m130,q132,s132,hF.sub ⟨rfl,rfl,rfl,rfl,rfl,rfl,rfl,trivial⟩,hS.sel [3,4,5,0,6,7,8,9,10,11,12] (by decide),hm130,(h121.mono hm130.le),h121k,(h122.mono hm130.le),h132,(h124.mono hm130.le),h124k⟩
     ·have hS : St _ _ _ _ [q116,q126,q118,q85,q122,q86,q87,q5,q6,q7,[⟨b9,[s85.v,s122.v,s86.v,s87.v],50⟩],[⟨b8,[s5.v,s6.v,s7.v,(iV t_3.Total)],74⟩],[⟨b2,[nilS.v,nilS.v,nilS.v,nilS.v],50⟩]]:=hS.sel [1,0,2,3,4,5,6,7,8,9,10,11,12] (by decide)
      refine e_opl rfl rfl rfl fun _ hK=>wp_append hF hS h116 U28 inf3 rfl rfl rfl rfl (h126.vw hS (j:=1) rfl) rfl (by decide) hl_127 rfl fun a w q128 s128 hF hS h128=>hK _ _ (⟨⟨kpN,fun _=>hS.vis.of_le (Mem.le.refl _)⟩,?_⟩)
      refine e_X (v:=s86.v) 1 hF hS rfl (ex_load1 10 0 U23 rfl rfl rfl rfl) fun a hF=>e_one 5 (by kernel_rfl) ?_
      obtain ⟨m130,hm130,hS,hz130⟩:=hS.freeze
      have h130:=h128.froz hm130.le hz130
      refine e_op rfl rfl fun _ hK=>wp_buildSlice' (l:=([l_127] : List (List Int))) (cells:=[s128.v]) hF hS U23 inf28 rfl rfl (by kernel_rfl) rfl rfl rfl ⟨⟨s128,rfl,h130⟩,rfl⟩ rfl rfl fun a w q129 s129 hF hS h129 hb=>hK _ _ hb (e_one 6 (by kernel_rfl) ?_)
      have hS : St _ _ _ _ [q86,q129,q126,q118,q85,q122,q87,q5,q6,q7,[⟨b9,[s85.v,s122.v,s86.v,s87.v],50⟩],[⟨b8,[s5.v,s6.v,s7.v,(iV t_3.Total)],74⟩],[⟨b2,[nilS.v,nilS.v,nilS.v,nilS.v],50⟩]]:=hS.sel [5,0,1,2,3,4,6,7,8,9,10,11,12] (by decide)
      refine e_opl rfl rfl rfl fun _ hK=>wp_append hF hS (h123.mono hm130.le) U23 inf28 rfl rfl rfl rfl (h129.vw hS (j:=1) rfl) rfl (by decide) hl_131 rfl fun a w q132 s132 hF hS h132=>hK _ _ (⟨⟨kpN,fun _=>hS.vis.of_le hm130.le⟩,?_⟩)
      refine e_P (v:=(pP b9 2)) 7 hF rfl (ex_fieldAddr U50 rfl sz23 rfl rfl) fun a hF=>e_one 8 (by kernel_rfl) (e_store (vs:=[s132.v]) (cs':=[s85.v,s122.v,s132.v,s87.v]) 10 0 hF hS rfl rfl sz23 rfl rfl rfl rfl rfl rfl rfl rfl fun a w hF hS=>⟨⟨kpN,fun _=>hS.vis.of_le hm130.le⟩,?_⟩)
      refine e_end (by kernel_rfl) (n_jn ?_) _
      obtain rfl:=someI hj9
      exact ⟨m130,q132,s132,hF.sub ⟨rfl,rfl,rfl,rfl,rfl,rfl,rfl,trivial⟩,hS.sel [3,4,5,0,6,7,8,9,10,11,12] (by decide),hm130,(h121.mono hm130.le),h121k,(h122.mono hm130.le),h132,(h124.mono hm130.le),h124k⟩
   ·rintro a w ⟨m138,q136,s136,hF,hS,hm138,h134,h134k,h135,h136,h137,h137k⟩
    refine n_sq ?_
    refine q_seq ?_
    obtain ⟨t_152,hj10,hr⟩:=bindS hr
    refine q_join (fun a w=>∃ (m157 : Mem),∃ (q156 : Piece),∃ (s156 : Sl),Fr a 175 [(4,(pP b2 0)),(6,(pP b9 0)),(9,(iV rows_119)),(10,(iV cols_83))]∧St [] w0 w m157 [q85,q122,q136,q156,[⟨b9,[s85.v,s122.v,s136.v,s156.v],50⟩],[⟨b2,[nilS.v,nilS.v,nilS.v,nilS.v],50⟩]]∧MLe [] w0.heap.size m138 m157∧OwnL m157 3 q85 s85 t_152.Rows∧t_152.Rows = t_84.Rows∧OwnL m157 3 q122 s122 t_152.Cols∧OwnL m157 28 q136 s136 t_152.Lo∧OwnL m157 28 q156 s156 t_152.Hi) ?_ ?_
    ·refine e_region ⟨[13,15,17],[b8],m138⟩ mixed fun w' hw'=>?_
     have hS:=hS.below hw'
     refine e_P (v:=(pP b9 3)) 0 hF rfl (ex_fieldAddr U50 rfl sz23 rfl rfl) fun a hF=>e_P (v:=s118.v) 2 hF rfl (ex_move rfl) fun a hF=>e_P (v:=(pP b8 3)) 3 hF rfl (ex_fieldAddr U74 rfl sz3 rfl rfl) fun a hF=>e_xb (v:=(iV t_3.Total)) 4 9 hF hS (.head _) rfl rfl (ex_load1 0 0 U3 rfl rfl rfl rfl) rfl rfl (by kernel_rfl) (by kernel_rfl) (by kernel_rfl) fun a hF=>e_P (v:=(iV p_base)) 5 hF rfl (ex_move rfl) fun a hF=>e_P (v:=(pP b8 3)) 7 hF rfl (ex_fieldAddr U74 rfl sz3 rfl rfl) fun a hF=>e_xb (v:=(iV t_3.Total)) 8 9 hF hS (.head _) rfl rfl (ex_load1 0 0 U3 rfl rfl rfl rfl) rfl rfl (by kernel_rfl) (by kernel_rfl) (by kernel_rfl) fun a hF=>e_P (v:=(iV p_base)) 9 hF rfl (ex_move rfl) fun a hF=>?_
     obtain ⟨t_143,ht_143,hj10⟩:=bindS hj10
     obtain ⟨t_144,ht_144,hj10⟩:=bindS hj10
     obtain ⟨l_146,hl_146,hj10⟩:=bindS hj10
     obtain ⟨l_150,hl_150,hj10⟩:=bindS hj10
     refine e_all [1,6] (by kernel_rfl) rfl ⟨?_,?_,trivial⟩
     ·refine e_lx (v:=s87.v) hF hS rfl (ex_load1 8 0 U23 rfl rfl rfl rfl) rfl rfl fun a hF=>e_one 6 (by kernel_rfl) (e_call (vs:=[(iV t_3.Total),(iV p_base)]) hF hS rfl Try.func178 (by kernel_rfl) rfl rfl rfl (c_spec_oUp t_3.Total p_base t_143 ht_143 _ m138 hS.vis) ?_)
      rintro a w _ rfl hF hS
      refine e_one 10 (by kernel_rfl) (e_call (vs:=[(iV t_3.Total),(iV p_base)]) hF hS rfl Try.func177 (by kernel_rfl) rfl rfl rfl (c_spec_oDown t_3.Total p_base t_144 ht_144 _ m138 hS.vis) ?_)
      rintro a w _ rfl hF hS
      refine e_P (v:=(iV (w64 (t_143 - t_144)))) 11 hF rfl (ex_ibin rfl rfl rfl) fun a hF=>e_one 12 (by kernel_rfl) (e_op rfl rfl fun _ hK=>wp_buildSlice' (l:=([(w64 (t_143 - t_144))] : List Int)) (cells:=[(iV (w64 (t_143 - t_144)))]) hF hS U28 inf3 rfl rfl (by kernel_rfl) rfl rfl rfl ⟨rfl,rfl⟩ rfl rfl fun a w q145 s145 hF hS h145 hb=>hK _ _ hb (e_one 13 (by kernel_rfl) ?_))
      have hS : St _ _ _ _ [q118,q145,q85,q122,q136,q87,q5,q6,q7,[⟨b9,[s85.v,s122.v,s136.v,s87.v],50⟩],[⟨b8,[s5.v,s6.v,s7.v,(iV t_3.Total)],74⟩],[⟨b2,[nilS.v,nilS.v,nilS.v,nilS.v],50⟩]]:=hS.sel [1,0,2,3,4,5,6,7,8,9,10,11] (by decide)
      have hSo:=hS
      refine e_opl rfl rfl rfl fun _ hK=>wp_append hF hS (h118.mono hm138.le) U28 inf3 rfl rfl rfl rfl (h145.vw hS (j:=1) rfl) rfl (by decide) hl_146 rfl fun a w q147 s147 hF hS h147=>hK _ _ (⟨⟨kpC hSo hS 10 10 rfl rfl kpN,fun _=>hS.vis.of_le (Mem.le.refl _)⟩,?_⟩)
      refine e_one 14 (by kernel_rfl) ?_
      obtain ⟨m149,hm149,hS,hz149⟩:=hS.freeze
      have h149:=h147.froz hm149.le hz149
      refine e_op rfl rfl fun _ hK=>wp_buildSlice' (l:=([l_146] : List (List Int))) (cells:=[s147.v]) hF hS U23 inf28 rfl rfl (by kernel_rfl) rfl rfl rfl ⟨⟨s147,rfl,h149⟩,rfl⟩ rfl rfl fun a w q148 s148 hF hS h148 hb=>hK _ _ hb (e_one 15 (by kernel_rfl) ?_)
      have hS : St _ _ _ _ [q87,q148,q145,q85,q122,q136,q5,q6,q7,[⟨b9,[s85.v,s122.v,s136.v,s87.v],50⟩],[⟨b8,[s5.v,s6.v,s7.v,(iV t_3.Total)],74⟩],[⟨b2,[nilS.v,nilS.v,nilS.v,nilS.v],50⟩]]:=hS.sel [5,0,1,2,3,4,6,7,8,9,10,11] (by decide)
      have hSo:=hS
      refine e_opl rfl rfl rfl fun _ hK=>wp_append hF hS (h137.mono hm149.le) U23 inf28 rfl rfl rfl rfl (h148.vw hS (j:=1) rfl) rfl (by decide) hl_150 rfl fun a w q151 s151 hF hS h151=>hK _ _ (⟨⟨kpC hSo hS 10 10 rfl rfl kpN,fun _=>hS.vis.of_le hm149.le⟩,?_⟩)
      refine e_P (v:=(pP b9 3)) 16 hF rfl (ex_fieldAddr U50 rfl sz23 rfl rfl) fun a hF=>e_one 17 (by kernel_rfl) ?_
      have hSo:=hS
      refine e_store (vs:=[s151.v]) (cs':=[s85.v,s122.v,s136.v,s151.v]) 9 0 hF hS rfl rfl sz23 rfl rfl rfl rfl rfl rfl rfl rfl fun a w hF hS=>⟨⟨kpC hSo hS 10 10 rfl rfl kpN,fun _=>hS.vis.of_le hm149.le⟩,?_⟩
      refine e_end (by kernel_rfl) (n_jn ?_) _
      obtain rfl:=someI hj10
      exact ⟨m149,q151,s151,hF.sub ⟨rfl,rfl,rfl,rfl,trivial⟩,hS.sel [3,4,5,0,9,11] (by decide),hm149,(h134.mono hm149.le),h134k,(h135.mono hm149.le),(h136.mono hm149.le),h151⟩
     ·refine e_call (vs:=[(iV t_3.Total),(iV p_base)]) hF hS rfl Try.func178 (by kernel_rfl) rfl rfl rfl (c_spec_oUp t_3.Total p_base t_143 ht_143 _ m138 hS.vis) ?_
      rintro a w _ rfl hF hS
      refine e_all [1,10] (by kernel_rfl) rfl ⟨?_,?_,trivial⟩
      ·refine e_lx (v:=s87.v) hF hS rfl (ex_load1 8 0 U23 rfl rfl rfl rfl) rfl rfl fun a hF=>e_one 10 (by kernel_rfl) (e_call (vs:=[(iV t_3.Total),(iV p_base)]) hF hS rfl Try.func177 (by kernel_rfl) rfl rfl rfl (c_spec_oDown t_3.Total p_base t_144 ht_144 _ m138 hS.vis) ?_)
       rintro a w _ rfl hF hS
       refine e_P (v:=(iV (w64 (t_143 - t_144)))) 11 hF rfl (ex_ibin rfl rfl rfl) fun a hF=>e_one 12 (by kernel_rfl) (e_op rfl rfl fun _ hK=>wp_buildSlice' (l:=([(w64 (t_143 - t_144))] : List Int)) (cells:=[(iV (w64 (t_143 - t_144)))]) hF hS U28 inf3 rfl rfl (by kernel_rfl) rfl rfl rfl ⟨rfl,rfl⟩ rfl rfl fun a w q145 s145 hF hS h145 hb=>hK _ _ hb (e_one 13 (by kernel_rfl) ?_))
       have hS : St _ _ _ _ [q118,q145,q85,q122,q136,q87,q5,q6,q7,[⟨b9,[s85.v,s122.v,s136.v,s87.v],50⟩],[⟨b8,[s5.v,s6.v,s7.v,(iV t_3.Total)],74⟩],[⟨b2,[nilS.v,nilS.v,nilS.v,nilS.v],50⟩]]:=hS.sel [1,0,2,3,4,5,6,7,8,9,10,11] (by decide)
       have hSo:=hS
       refine e_opl rfl rfl rfl fun _ hK=>wp_append hF hS (h118.mono hm138.le) U28 inf3 rfl rfl rfl rfl (h145.vw hS (j:=1) rfl) rfl (by decide) hl_146 rfl fun a w q147 s147 hF hS h147=>hK _ _ (⟨⟨kpC hSo hS 10 10 rfl rfl kpN,fun _=>hS.vis.of_le (Mem.le.refl _)⟩,?_⟩)
       refine e_one 14 (by kernel_rfl) ?_
       obtain ⟨m149,hm149,hS,hz149⟩:=hS.freeze
       have h149:=h147.froz hm149.le hz149
       refine e_op rfl rfl fun _ hK=>wp_buildSlice' (l:=([l_146] : List (List Int))) (cells:=[s147.v]) hF hS U23 inf28 rfl rfl (by kernel_rfl) rfl rfl rfl ⟨⟨s147,rfl,h149⟩,rfl⟩ rfl rfl fun a w q148 s148 hF hS h148 hb=>hK _ _ hb (e_one 15 (by kernel_rfl) ?_)
       have hS : St _ _ _ _ [q87,q148,q145,q85,q122,q136,q5,q6,q7,[⟨b9,[s85.v,s122.v,s136.v,s87.v],50⟩],[⟨b8,[s5.v,s6.v,s7.v,(iV t_3.Total)],74⟩],[⟨b2,[nilS.v,nilS.v,nilS.v,nilS.v],50⟩]]:=hS.sel [5,0,1,2,3,4,6,7,8,9,10,11] (by decide)
       have hSo:=hS
       refine e_opl rfl rfl rfl fun _ hK=>wp_append hF hS (h137.mono hm149.le) U23 inf28 rfl rfl rfl rfl (h148.vw hS (j:=1) rfl) rfl (by decide) hl_150 rfl fun a w q151 s151 hF hS h151=>hK _ _ (⟨⟨kpC hSo hS 10 10 rfl rfl kpN,fun _=>hS.vis.of_le hm149.le⟩,?_⟩)
       refine e_P (v:=(pP b9 3)) 16 hF rfl (ex_fieldAddr U50 rfl sz23 rfl rfl) fun a hF=>e_one 17 (by kernel_rfl) ?_
       have hSo:=hS
       refine e_store (vs:=[s151.v]) (cs':=[s85.v,s122.v,s136.v,s151.v]) 9 0 hF hS rfl rfl sz23 rfl rfl rfl rfl rfl rfl rfl rfl fun a w hF hS=>⟨⟨kpC hSo hS 10 10 rfl rfl kpN,fun _=>hS.vis.of_le hm149.le⟩,?_⟩
       refine e_end (by kernel_rfl) (n_jn ?_) _
       obtain rfl:=someI hj10
       exact ⟨m149,q151,s151,hF.sub ⟨rfl,rfl,rfl,rfl,trivial⟩,hS.sel [3,4,5,0,9,11] (by decide),hm149,(h134.mono hm149.le),h134k,(h135.mono hm149.le),(h136.mono hm149.le),h151⟩
      ·refine e_call (vs:=[(iV t_3.Total),(iV p_base)]) hF hS rfl Try.func177 (by kernel_rfl) rfl rfl rfl (c_spec_oDown t_3.Total p_base t_144 ht_144 _ m138 hS.vis) ?_
       rintro a w _ rfl hF hS
       refine e_P (v:=(iV (w64 (t_143 - t_144)))) 11 hF rfl (ex_ibin rfl rfl rfl) fun a hF=>e_all [1,12] (by kernel_rfl) rfl ⟨?_,?_,trivial⟩
       ·refine e_lx (v:=s87.v) hF hS rfl (ex_load1 8 0 U23 rfl rfl rfl rfl) rfl rfl fun a hF=>e_one 12 (by kernel_rfl) (e_op rfl rfl fun _ hK=>wp_buildSlice' (l:=([(w64 (t_143 - t_144))] : List Int)) (cells:=[(iV (w64 (t_143 - t_144)))]) hF hS U28 inf3 rfl rfl (by kernel_rfl) rfl rfl rfl ⟨rfl,rfl⟩ rfl rfl fun a w q145 s145 hF hS h145 hb=>hK _ _ hb (e_one 13 (by kernel_rfl) ?_))
        have hS : St _ _ _ _ [q118,q145,q85,q122,q136,q87,q5,q6,q7,[⟨b9,[s85.v,s122.v,s136.v,s87.v],50⟩],[⟨b8,[s5.v,s6.v,s7.v,(iV t_3.Total)],74⟩],[⟨b2,[nilS.v,nilS.v,nilS.v,nilS.v],50⟩]]:=hS.sel [1,0,2,3,4,5,6,7,8,9,10,11] (by decide)
        have hSo:=hS
        refine e_opl rfl rfl rfl fun _ hK=>wp_append hF hS (h118.mono hm138.le) U28 inf3 rfl rfl rfl rfl (h145.vw hS (j:=1) rfl) rfl (by decide) hl_146 rfl fun a w q147 s147 hF hS h147=>hK _ _ (⟨⟨kpC hSo hS 10 10 rfl rfl kpN,fun _=>hS.vis.of_le (Mem.le.refl _)⟩,?_⟩)
        refine e_one 14 (by kernel_rfl) ?_
        obtain ⟨m149,hm149,hS,hz149⟩:=hS.freeze
        have h149:=h147.froz hm149.le hz149
        refine e_op rfl rfl fun _ hK=>wp_buildSlice' (l:=([l_146] : List (List Int))) (cells:=[s147.v]) hF hS U23 inf28 rfl rfl (by kernel_rfl) rfl rfl rfl ⟨⟨s147,rfl,h149⟩,rfl⟩ rfl rfl fun a w q148 s148 hF hS h148 hb=>hK _ _ hb (e_one 15 (by kernel_rfl) ?_)
        have hS : St _ _ _ _ [q87,q148,q145,q85,q122,q136,q5,q6,q7,[⟨b9,[s85.v,s122.v,s136.v,s87.v],50⟩],[⟨b8,[s5.v,s6.v,s7.v,(iV t_3.Total)],74⟩],[⟨b2,[nilS.v,nilS.v,nilS.v,nilS.v],50⟩]]:=hS.sel [5,0,1,2,3,4,6,7,8,9,10,11] (by decide)
        have hSo:=hS
        refine e_opl rfl rfl rfl fun _ hK=>wp_append hF hS (h137.mono hm149.le) U23 inf28 rfl rfl rfl rfl (h148.vw hS (j:=1) rfl) rfl (by decide) hl_150 rfl fun a w q151 s151 hF hS h151=>hK _ _ (⟨⟨kpC hSo hS 10 10 rfl rfl kpN,fun _=>hS.vis.of_le hm149.le⟩,?_⟩)
        refine e_P (v:=(pP b9 3)) 16 hF rfl (ex_fieldAddr U50 rfl sz23 rfl rfl) fun a hF=>e_one 17 (by kernel_rfl) ?_
        have hSo:=hS
        refine e_store (vs:=[s151.v]) (cs':=[s85.v,s122.v,s136.v,s151.v]) 9 0 hF hS rfl rfl sz23 rfl rfl rfl rfl rfl rfl rfl rfl fun a w hF hS=>⟨⟨kpC hSo hS 10 10 rfl rfl kpN,fun _=>hS.vis.of_le hm149.le⟩,?_⟩
        refine e_end (by kernel_rfl) (n_jn ?_) _
        obtain rfl:=someI hj10
        exact ⟨m149,q151,s151,hF.sub ⟨rfl,rfl,rfl,rfl,trivial⟩,hS.sel [3,4,5,0,9,11] (by decide),hm149,(h134.mono hm149.le),h134k,(h135.mono hm149.le),(h136.mono hm149.le),h151⟩
       ·refine e_op rfl rfl fun _ hK=>wp_buildSlice' (l:=([(w64 (t_143 - t_144))] : List Int)) (cells:=[(iV (w64 (t_143 - t_144)))]) hF hS U28 inf3 rfl rfl (by kernel_rfl) rfl rfl rfl ⟨rfl,rfl⟩ rfl rfl fun a w q145 s145 hF hS h145 hb=>hK _ _ hb (e_all [1,13] (by kernel_rfl) rfl ⟨?_,?_,trivial⟩)
        ·refine e_lx (v:=s87.v) hF hS rfl (ex_load1 9 0 U23 rfl rfl rfl rfl) rfl rfl fun a hF=>e_one 13 (by kernel_rfl) ?_
         have hS : St _ _ _ _ [q118,q145,q85,q122,q136,q87,q5,q6,q7,[⟨b9,[s85.v,s122.v,s136.v,s87.v],50⟩],[⟨b8,[s5.v,s6.v,s7.v,(iV t_3.Total)],74⟩],[⟨b2,[nilS.v,nilS.v,nilS.v,nilS.v],50⟩]]:=hS.sel [1,0,2,3,4,5,6,7,8,9,10,11] (by decide)
         have hSo:=hS
         refine e_opl rfl rfl rfl fun _ hK=>wp_append hF hS (h118.mono hm138.le) U28 inf3 rfl rfl rfl rfl (h145.vw hS (j:=1) rfl) rfl (by decide) hl_146 rfl fun a w q147 s147 hF hS h147=>hK _ _ (⟨⟨kpC hSo hS 10 10 rfl rfl kpN,fun _=>hS.vis.of_le (Mem.le.refl _)⟩,?_⟩)
         refine e_one 14 (by kernel_rfl) ?_
         obtain ⟨m149,hm149,hS,hz149⟩:=hS.freeze
         have h149:=h147.froz hm149.le hz149
         refine e_op rfl rfl fun _ hK=>wp_buildSlice' (l:=([l_146] : List (List Int))) (cells:=[s147.v]) hF hS U23 inf28 rfl rfl (by kernel_rfl) rfl rfl rfl ⟨⟨s147,rfl,h149⟩,rfl⟩ rfl rfl fun a w q148 s148 hF hS h148 hb=>hK _ _ hb (e_one 15 (by kernel_rfl) ?_)
         have hS : St _ _ _ _ [q87,q148,q145,q85,q122,q136,q5,q6,q7,[⟨b9,[s85.v,s122.v,s136.v,s87.v],50⟩],[⟨b8,[s5.v,s6.v,s7.v,(iV t_3.Total)],74⟩],[⟨b2,[nilS.v,nilS.v,nilS.v,nilS.v],50⟩]]:=hS.sel [5,0,1,2,3,4,6,7,8,9,10,11] (by decide)
         have hSo:=hS
         refine e_opl rfl rfl rfl fun _ hK=>wp_append hF hS (h137.mono hm149.le) U23 inf28 rfl rfl rfl rfl (h148.vw hS (j:=1) rfl) rfl (by decide) hl_150 rfl fun a w q151 s151 hF hS h151=>hK _ _ (⟨⟨kpC hSo hS 10 10 rfl rfl kpN,fun _=>hS.vis.of_le hm149.le⟩,?_⟩)
         refine e_P (v:=(pP b9 3)) 16 hF rfl (ex_fieldAddr U50 rfl sz23 rfl rfl) fun a hF=>e_one 17 (by kernel_rfl) ?_
         have hSo:=hS
         refine e_store (vs:=[s151.v]) (cs':=[s85.v,s122.v,s136.v,s151.v]) 9 0 hF hS rfl rfl sz23 rfl rfl rfl rfl rfl rfl rfl rfl fun a w hF hS=>⟨⟨kpC hSo hS 10 10 rfl rfl kpN,fun _=>hS.vis.of_le hm149.le⟩,?_⟩
         refine e_end (by kernel_rfl) (n_jn ?_) _
         obtain rfl:=someI hj10
         exact ⟨m149,q151,s151,hF.sub ⟨rfl,rfl,rfl,rfl,trivial⟩,hS.sel [3,4,5,0,9,11] (by decide),hm149,(h134.mono hm149.le),h134k,(h135.mono hm149.le),(h136.mono hm149.le),h151⟩
        ·have hS : St _ _ _ _ [q118,q145,q85,q122,q136,q87,q5,q6,q7,[⟨b9,[s85.v,s122.v,s136.v,s87.v],50⟩],[⟨b8,[s5.v,s6.v,s7.v,(iV t_3.Total)],74⟩],[⟨b2,[nilS.v,nilS.v,nilS.v,nilS.v],50⟩]]:=hS.sel [1,0,2,3,4,5,6,7,8,9,10,11] (by decide)
         have hSo:=hS
         refine e_opl rfl rfl rfl fun _ hK=>wp_append hF hS (h118.mono hm138.le) U28 inf3 rfl rfl rfl rfl (h145.vw hS (j:=1) rfl) rfl (by decide) hl_146 rfl fun a w q147 s147 hF hS h147=>hK _ _ (⟨⟨kpC hSo hS 10 10 rfl rfl kpN,fun _=>hS.vis.of_le (Mem.le.refl _)⟩,?_⟩)
         refine e_X (v:=s87.v) 1 hF hS rfl (ex_load1 9 0 U23 rfl rfl rfl rfl) fun a hF=>e_one 14 (by kernel_rfl) ?_
         obtain ⟨m149,hm149,hS,hz149⟩:=hS.freeze
         have h149:=h147.froz hm149.le hz149
         refine e_op rfl rfl fun _ hK=>wp_buildSlice' (l:=([l_146] : List (List Int))) (cells:=[s147.v]) hF hS U23 inf28 rfl rfl (by kernel_rfl) rfl rfl rfl ⟨⟨s147,rfl,h149⟩,rfl⟩ rfl rfl fun a w q148 s148 hF hS h148 hb=>hK _ _ hb (e_one 15 (by kernel_rfl) ?_)
         have hS : St _ _ _ _ [q87,q148,q145,q85,q122,q136,q5,q6,q7,[⟨b9,[s85.v,s122.v,s136.v,s87.v],50⟩],[⟨b8,[s5.v,s6.v,s7.v,(iV t_3.Total)],74⟩],[⟨b2,[nilS.v,nilS.v,nilS.v,nilS.v],50⟩]]:=hS.sel [5,0,1,2,3,4,6,7,8,9,10,11] (by decide)
         have hSo:=hS
         refine e_opl rfl rfl rfl fun _ hK=>wp_append hF hS (h137.mono hm149.le) U23 inf28 rfl rfl rfl rfl (h148.vw hS (j:=1) rfl) rfl (by decide) hl_150 rfl fun a w q151 s151 hF hS h151=>hK _ _ (⟨⟨kpC hSo hS 10 10 rfl rfl kpN,fun _=>hS.vis.of_le hm149.le⟩,?_⟩)
         refine e_P (v:=(pP b9 3)) 16 hF rfl (ex_fieldAddr U50 rfl sz23 rfl rfl) fun a hF=>e_one 17 (by kernel_rfl) ?_
         have hSo:=hS
         refine e_store (vs:=[s151.v]) (cs':=[s85.v,s122.v,s136.v,s151.v]) 9 0 hF hS rfl rfl sz23 rfl rfl rfl rfl rfl rfl rfl rfl fun a w hF hS=>⟨⟨kpC hSo hS 10 10 rfl rfl kpN,fun _=>hS.vis.of_le hm149.le⟩,?_⟩
         refine e_end (by kernel_rfl) (n_jn ?_) _
         obtain rfl:=someI hj10
         exact ⟨m149,q151,s151,hF.sub ⟨rfl,rfl,rfl,rfl,trivial⟩,hS.sel [3,4,5,0,9,11] (by decide),hm149,(h134.mono hm149.le),h134k,(h135.mono hm149.le),(h136.mono hm149.le),h151⟩
    ·rintro a w ⟨m157,q156,s156,hF,hS,hm157,h153,h153k,h154,h155,h156⟩
     refine n_sq ?_
     refine q_sr (q_y (v:=(pP b9 0)) hF hS (ex_fieldAddr U50 rfl sz28 rfl rfl) fun a hF=>q_y (v:=s85.v) hF hS (ex_load1 4 0 U28 rfl rfl rfl rfl) fun a hF=>q_m hF rfl fun a hF=>q_do rfl fun _ hK=>wp_buildSlice' (l:=([rows_119] : List Int)) (cells:=[(iV rows_119)]) hF hS U28 inf3 rfl rfl (by kernel_rfl) rfl rfl rfl ⟨rfl,rfl⟩ rfl rfl fun a w q158 s158 hF hS h158 _=>hK _ _ ?_)
     have hS : St _ _ _ _ [q85,q158,q122,q136,q156,[⟨b9,[s85.v,s122.v,s136.v,s156.v],50⟩],[⟨b2,[nilS.v,nilS.v,nilS.v,nilS.v],50⟩]]:=hS.sel [1,0,2,3,4,5,6] (by decide)
     obtain ⟨l_159,hl_159,hr⟩:=bindS hr
     refine q_do rfl fun _ hK=>wp_append hF hS h153 U28 inf3 rfl rfl rfl rfl (h158.vw hS (j:=1) rfl) rfl (by decide) hl_159 rfl fun a w q160 s160 hF hS h160=>hK _ _ (q_y (v:=(pP b9 0)) hF hS (ex_fieldAddr U50 rfl sz28 rfl rfl) fun a hF=>q_store (vs:=[s160.v]) (cs':=[s160.v,s122.v,s136.v,s156.v]) 5 0 hF hS sz28 rfl rfl rfl rfl rfl rfl rfl rfl fun a w hF hS=>q_end (n_sq (q_sr (q_y (v:=(pP b9 1)) hF hS (ex_fieldAddr U50 rfl sz28 rfl rfl) fun a hF=>q_y (v:=s122.v) hF hS (ex_load1 5 0 U28 rfl rfl rfl rfl) fun a hF=>q_m hF rfl fun a hF=>q_do rfl fun _ hK=>wp_buildSlice' (l:=([cols_83] : List Int)) (cells:=[(iV cols_83)]) hF hS U28 inf3 rfl rfl (by kernel_rfl) rfl rfl rfl ⟨rfl,rfl⟩ rfl rfl fun a w q161 s161 hF hS h161 _=>hK _ _ ?_))))
     have hS : St _ _ _ _ [q122,q161,q160,q158,q136,q156,[⟨b9,[s160.v,s122.v,s136.v,s156.v],50⟩],[⟨b2,[nilS.v,nilS.v,nilS.v,nilS.v],50⟩]]:=hS.sel [3,0,1,2,4,5,6,7] (by decide)
     obtain ⟨l_162,hl_162,hr⟩:=bindS hr
     refine q_do rfl fun _ hK=>wp_append hF hS h154 U28 inf3 rfl rfl rfl rfl (h161.vw hS (j:=1) rfl) rfl (by decide) hl_162 rfl fun a w q163 s163 hF hS h163=>hK _ _ (q_y (v:=(pP b9 1)) hF hS (ex_fieldAddr U50 rfl sz28 rfl rfl) fun a hF=>q_store (vs:=[s163.v]) (cs':=[s160.v,s163.v,s136.v,s156.v]) 6 0 hF hS sz28 rfl rfl rfl rfl rfl rfl rfl rfl fun a w hF hS=>q_end (n_sq (q_sr (q_y (v:=(.agg #[s160.v,s163.v,s136.v,s156.v])) hF hS (ex_loadA (vs:=[s160.v,s163.v,s136.v,s156.v]) 6 0 U50 rfl sz50 rfl rfl rfl rfl) fun a hF=>q_store (vs:=[s160.v,s163.v,s136.v,s156.v]) (cs':=[s160.v,s163.v,s136.v,s156.v]) 7 0 hF hS sz50 rfl rfl rfl rfl rfl rfl rfl rfl fun a w hF hS=>q_end (n_sq (q_ret ?_))))))
     obtain rfl:=someI hr
     exact ret_of hF hS rfl (.cellA (us:=[s160.v,s163.v,s136.v,s156.v]) 7 0 U50 rfl sz50 rfl rfl rfl rfl .nil) ⟨m157,q160,q163,q136,q156,s160,s163,s136,s156,rfl,((hm88.trans hm138).trans hm157),hS.sel [2,0,4,5] (by decide),h160,h163,h155,h156⟩

theorem c_spec_tStart (p_t : impl_Transport) (r : spec_tFill × Bool) (hr : spec_tStart p_t = some r) (w0 : World) (m : Mem) (hv : Vis m w0) (s1 : Sl) (h1 : Rd m s1 p_t.Rows) (s2 : Sl) (h2 : Rd m s2 p_t.Cols) (s3 : Sl) (h3 : Rd m s3 p_t.Lo) (s4 : Sl) (h4 : Rd m s4 p_t.Hi) :
  Ret Try.prog 198 [(.agg #[s1.v,s2.v,s3.v,s4.v])] w0 (fun v w=>∃ (m' : Mem) (b0' : Nat) (q4' : Piece) (q5' : Piece) (q6' : Piece) (s0' : Sl) (s1' : Sl) (s2' : Sl) (s3' : Sl) (s4' : Sl) (s5' : Sl) (s6' : Sl),v = (.tuple #[(.pointer (some ⟨b0',0,none⟩)),(.bool r.2)])∧MLe [] w0.heap.size m m'∧St [] w0 w m' [[⟨b0',[s0'.v,s1'.v,s2'.v,s3'.v,s4'.v,s5'.v,s6'.v],150⟩],q4',q5',q6']∧Rd m' s0' r.1.t.Rows∧Rd m' s1' r.1.t.Cols∧Rd m' s2' r.1.t.Lo∧Rd m' s3' r.1.t.Hi∧OwnD m' 28 3 q4' s4' r.1.x∧OwnL m' 3 q5' s5' r.1.rows∧OwnL m' 3 q6' s6' r.1.cols):=by
 unfold spec_tStart at hr
 refine ret_start Try.func198 rfl 79 rfl rfl m hv fun a hF hS=>q_sr (q_box (cs:=[s1.v,s2.v,s3.v,s4.v]) hF hS rfl rfl rfl fun a w b5 hF hS=>q_s hF rfl fun a hF=>q_s hF rfl fun a hF=>q_end (n_sq (q_seq (e_region ⟨[],[],m⟩ mixed fun w' hw'=>?_))))
 have hS:=hS.below hw'
 refine e_X (v:=(.agg #[s1.v,s2.v,s3.v,s4.v])) 0 hF hS rfl (ex_loadA (vs:=[s1.v,s2.v,s3.v,s4.v]) 0 0 U50 rfl sz50 rfl rfl rfl rfl) fun a hF=>e_P (v:=(pP b5 2)) 1 hF rfl (ex_fieldAddr U50 rfl sz23 rfl rfl) fun a hF=>e_X (v:=s3.v) 2 hF hS rfl (ex_load1 0 0 U23 rfl rfl rfl rfl) fun a hF=>e_one 3 (by kernel_rfl) ?_
 obtain ⟨t_6,ht_6,hr⟩:=bindS hr
 refine e_call (vs:=[s3.v]) hF hS rfl Try.func145 (by kernel_rfl) rfl rfl rfl (c_spec_tOwn p_t.Lo t_6 ht_6 _ m hS.vis s3 h3) ?_
 rintro a w _ ⟨q8,s8,rfl,hR7,h8⟩ hF hS2
 have hS : St _ _ _ _ [q8,[⟨b5,[s1.v,s2.v,s3.v,s4.v],50⟩]]:=hS.joinF hR7
 refine e_P (v:=(.agg #[s1.v,s2.v,s3.v,s4.v,s8.v,nilS.v,nilS.v])) 4 hF rfl (ex_build (cells:=[s1.v,s2.v,s3.v,s4.v,s8.v,nilS.v,nilS.v]) rfl (by kernel_rfl)) fun a hF=>e_one 5 (by kernel_rfl) (e_box (cs:=[s1.v,s2.v,s3.v,s4.v,s8.v,nilS.v,nilS.v]) hF hS rfl rfl rfl rfl fun a w b9 hF hS=>e_P (v:=(pP b9 0)) 6 hF rfl (ex_assign rfl) fun a hF=>e_end (by kernel_rfl) (n_sq ?_) _)
 refine q_seq (q_sr (q_y (v:=(pP b5 0)) hF hS (ex_fieldAddr U50 rfl sz28 rfl rfl) fun a hF=>q_y (v:=s1.v) hF hS (ex_load1 2 0 U28 rfl rfl rfl rfl) fun a hF=>q_y (v:=(iV (goLen p_t.Rows))) hF hS (ex_len U28 rfl h1.len) fun a hF=>q_m hF rfl fun a hF=>q_end (n_sq (q_block ?_))))
 obtain ⟨t_27,hl1,hr⟩:=bindS hr
 refine q_loop (fun (s : Int × spec_tFill) a w=>∃ (q17 : Piece),∃ (s17 : Sl),∃ t_10,∃ t_11,s = (t_10,t_11)∧Fr a 79 [(1,(pP b5 0)),(4,(pP b9 0)),(16,s1.v),(17,(iV (goLen p_t.Rows))),(18,(iV t_10))]∧St [] w0 w m [q17,[⟨b9,[s1.v,s2.v,s3.v,s4.v,s8.v,s17.v,nilS.v],150⟩],q8,[⟨b5,[s1.v,s2.v,s3.v,s4.v],50⟩]]∧Rd m s1 t_11.t.Rows∧t_11.t.Rows = p_t.Rows∧Rd m s2 t_11.t.Cols∧t_11.t.Cols = p_t.Cols∧Rd m s3 t_11.t.Lo∧t_11.t.Lo = p_t.Lo∧Rd m s4 t_11.t.Hi∧t_11.t.Hi = p_t.Hi∧OwnD m 28 3 q8 s8 t_11.x∧t_11.x = t_6∧OwnL m 3 q17 s17 t_11.rows) (fun (t_27 : spec_tFill) e a w=>∃ (q33 : Piece),∃ (s33 : Sl),e = .exit 0∧Fr a 79 [(1,(pP b5 0)),(4,(pP b9 0))]∧St [] w0 w m [q8,q33,[⟨b9,[s1.v,s2.v,s3.v,s4.v,s8.v,s33.v,nilS.v],150⟩],[⟨b5,[s1.v,s2.v,s3.v,s4.v],50⟩]]∧Rd m s1 t_27.t.Rows∧t_27.t.Rows = p_t.Rows∧Rd m s2 t_27.t.Cols∧t_27.t.Cols = p_t.Cols∧Rd m s3 t_27.t.Lo∧t_27.t.Lo = p_t.Lo∧Rd m s4 t_27.t.Hi∧t_27.t.Hi = p_t.Hi∧OwnD m 28 3 q8 s8 t_27.x∧t_27.x = t_6∧OwnL m 3 q33 s33 t_27.rows) hl1 ⟨[],nilS,_,_,rfl,hF.sub ⟨rfl,rfl,rfl,rfl,rfl,trivial⟩,hS.sel [3,0,1,2] (by decide),h1,rfl,h2,rfl,h3,rfl,h4,rfl,h8,rfl,(OwnL.nil (α:=Int) m 3)⟩ ?_ ?_
 ·clear hF hS
  rintro s a w st ⟨q17,s17,t_10,t_11,rfl,hF,hS,h12,h12k,h13,h13k,h14,h14k,h15,h15k,h16,h16k,h17⟩ hb1
  unfold spec_tStart_l1 at hb1
  refine q_sr (q_y (v:=(.bool (decide (t_10 < (goLen p_t.Rows))))) hF hS (ex_ibin rfl rfl rfl) fun a hF=>q_end (n_sq (q_seq ?_)))
  rcases bcase (decide (t_10 < (goLen p_t.Rows))) with hc2 | hc2
  ·have hb1:=cond_f hc2 hb1
   refine q_cond_f hF rfl hc2 (q_exit (x_sq ?_))
   obtain rfl:=someI hb1
   exact ⟨nofun,.inl ⟨q17,s17,rfl,hF.sub ⟨rfl,rfl,trivial⟩,hS.sel [2,0,1,3] (by decide),h12,h12k,h13,h13k,h14,h14k,h15,h15k,h16,h16k,h17⟩⟩
  ·have hb1:=cond_t hc2 hb1
   refine q_cond_t hF rfl hc2 (q_skipc (n_sq (q_seq (q_block (q_sr (q_m hF rfl fun a hF=>?_))))))
   obtain ⟨e_18,he_18,hb1⟩:=bindS hb1
   obtain ⟨vs19,at19,d19⟩:=h1.at he_18 1 rfl
   obtain rfl : vs19 = [(iV e_18)]:=d19
   refine q_y (v:=(elP s1 (t_10.toNat * 1))) hF hS (ex_indexAddr U28 sz3 rfl rfl (h1.idx he_18)) fun a hF=>q_y (v:=(iV e_18)) hF hS (ex_loadE1 0 U3 rfl rfl ((at19).at) rfl rfl) fun a hF=>q_s hF rfl fun a hF=>q_s hF rfl fun a hF=>q_end (n_sq (e_region ⟨[14,17],[],m⟩ mixed fun w' hw'=>?_))
   have hS:=hS.below hw'
   refine e_P (v:=(pP b9 0)) 0 hF rfl (ex_move rfl) fun a hF=>e_P (v:=(pP b9 0)) 1 hF rfl (ex_move rfl) fun a hF=>e_P (v:=(pP b9 0)) 2 hF rfl (ex_nilCheck rfl) fun a hF=>e_P (v:=(pP b9 5)) 3 hF rfl (ex_fieldAddr U150 rfl sz28 rfl rfl) fun a hF=>e_X (v:=s17.v) 4 hF hS rfl (ex_load1 1 0 U28 rfl rfl rfl rfl) fun a hF=>e_P (v:=(iV e_18)) 5 hF rfl (ex_move rfl) fun a hF=>e_P (v:=(pP b5 2)) 6 hF rfl (ex_fieldAddr U50 rfl sz23 rfl rfl) fun a hF=>e_P (v:=(iV t_10)) 8 hF rfl (ex_move rfl) fun a hF=>e_one 7 (by kernel_rfl) (e_lx (v:=s3.v) hF hS rfl (ex_load1 3 0 U23 rfl rfl rfl rfl) rfl rfl fun a hF=>?_)
   obtain ⟨e_20,he_20,hb1⟩:=bindS hb1
   obtain ⟨vs21,at21,d21⟩:=h3.at he_20 1 rfl
   obtain ⟨s22,rfl,h22⟩ : ∃ s22 : Sl,vs21 = [s22.v]∧Rd m s22 e_20:=d21
   refine e_P (v:=(elP s3 (t_10.toNat * 1))) 9 hF rfl (ex_indexAddr U23 sz28 rfl rfl (h3.idx he_20)) fun a hF=>e_xm (v:=s22.v) 10 hF hS (Mem.le.refl _) rfl (ex_loadE1 0 U28 rfl rfl ((at21).at) rfl rfl) rfl rfl (by kernel_rfl) (by kernel_rfl) (by kernel_rfl) fun a hF=>e_one 11 (by kernel_rfl) ?_
   obtain ⟨t_23,ht_23,hb1⟩:=bindS hb1
   refine e_call (vs:=[s22.v]) hF hS rfl Try.func83 (by kernel_rfl) rfl rfl rfl (c_spec_tSum e_20 t_23 ht_23 _ m hS.vis s22 h22) ?_
   rintro a w _ rfl hF hS
   refine e_P (v:=(iV (w64 (e_18 - t_23)))) 12 hF rfl (ex_ibin rfl rfl rfl) fun a hF=>e_one 13 (by kernel_rfl) (e_op rfl rfl fun _ hK=>wp_buildSlice' (l:=([(w64 (e_18 - t_23))] : List Int)) (cells:=[(iV (w64 (e_18 - t_23)))]) hF hS U28 inf3 rfl rfl (by kernel_rfl) rfl rfl rfl ⟨rfl,rfl⟩ rfl rfl fun a w q24 s24 hF hS h24 hb=>hK _ _ hb (e_one 14 (by kernel_rfl) ?_))
   have hS : St _ _ _ _ [q17,q24,[⟨b9,[s1.v,s2.v,s3.v,s4.v,s8.v,s17.v,nilS.v],150⟩],q8,[⟨b5,[s1.v,s2.v,s3.v,s4.v],50⟩]]:=hS.sel [1,0,2,3,4] (by decide)
   obtain ⟨l_25,hl_25,hb1⟩:=bindS hb1
   refine e_opl rfl rfl rfl fun _ hK=>wp_append hF hS h17 U28 inf3 rfl rfl rfl rfl (h24.vw hS (j:=1) rfl) rfl (by decide) hl_25 rfl fun a w q26 s26 hF hS h26=>hK _ _ (⟨⟨kpN,fun _=>hS.vis.of_le (Mem.le.refl _)⟩,?_⟩)
   refine e_P (v:=(pP b9 0)) 15 hF rfl (ex_nilCheck rfl) fun a hF=>e_P (v:=(pP b9 5)) 16 hF rfl (ex_fieldAddr U150 rfl sz28 rfl rfl) fun a hF=>e_one 17 (by kernel_rfl) (e_store (vs:=[s26.v]) (cs':=[s1.v,s2.v,s3.v,s4.v,s8.v,s26.v,nilS.v]) 2 0 hF hS rfl rfl sz28 rfl rfl rfl rfl rfl rfl rfl rfl fun a w hF hS=>⟨⟨kpN,fun _=>hS.vis.of_le (Mem.le.refl _)⟩,?_⟩)
   refine e_end (by kernel_rfl) (n_ib (n_sq ?_)) _
   refine q_region (q_y (v:=(iV (w64 (t_10 + 1)))) hF hS (ex_ibin rfl rfl rfl) fun a hF=>q_m hF rfl fun a hF=>q_end ?_)
   obtain rfl:=someI hb1
   exact ⟨rfl,q26,s26,_,_,rfl,hF.sub ⟨rfl,rfl,rfl,rfl,rfl,trivial⟩,hS.mask [true,false,true,true,true],h12,h12k,h13,h13k,h14,h14k,h15,h15k,h16,h16k,h26⟩
 ·rintro e a w ⟨q33,s33,rfl,hF,hS,h28,h28k,h29,h29k,h30,h30k,h31,h31k,h32,h32k,h33⟩
  refine x_ib (n_sq ?_)
  refine q_seq (q_sr (q_y (v:=(pP b5 1)) hF hS (ex_fieldAddr U50 rfl sz28 rfl rfl) fun a hF=>q_y (v:=s2.v) hF hS (ex_load1 3 0 U28 rfl rfl rfl rfl) fun a hF=>q_y (v:=(iV (goLen p_t.Cols))) hF hS (ex_len U28 rfl h2.len) fun a hF=>q_m hF rfl fun a hF=>q_end (n_sq (q_block ?_))))
  obtain ⟨t_53,hl3,hr⟩:=bindS hr
  refine q_loop (fun (s : Int × spec_tFill) a w=>∃ (q42 : Piece),∃ (s42 : Sl),∃ t_34,∃ t_35,s = (t_34,t_35)∧Fr a 79 [(1,(pP b5 0)),(4,(pP b9 0)),(42,s2.v),(43,(iV (goLen p_t.Cols))),(44,(iV t_34))]∧St [] w0 w m [q42,q8,q33,[⟨b9,[s1.v,s2.v,s3.v,s4.v,s8.v,s33.v,s42.v],150⟩],[⟨b5,[s1.v,s2.v,s3.v,s4.v],50⟩]]∧Rd m s1 t_35.t.Rows∧t_35.t.Rows = p_t.Rows∧Rd m s2 t_35.t.Cols∧t_35.t.Cols = p_t.Cols∧Rd m s3 t_35.t.Lo∧t_35.t.Lo = p_t.Lo∧Rd m s4 t_35.t.Hi∧t_35.t.Hi = p_t.Hi∧OwnD m 28 3 q8 s8 t_35.x∧t_35.x = t_6∧OwnL m 3 q33 s33 t_35.rows∧t_35.rows = t_27.rows∧OwnL m 3 q42 s42 t_35.cols) (fun (t_53 : spec_tFill) e a w=>∃ (q60 : Piece),∃ (s60 : Sl),e = .exit 2∧Fr a 79 [(4,(pP b9 0))]∧St [] w0 w m [q8,q33,q60,[⟨b9,[s1.v,s2.v,s3.v,s4.v,s8.v,s33.v,s60.v],150⟩]]∧Rd m s1 t_53.t.Rows∧t_53.t.Rows = p_t.Rows∧Rd m s2 t_53.t.Cols∧t_53.t.Cols = p_t.Cols∧Rd m s3 t_53.t.Lo∧t_53.t.Lo = p_t.Lo∧Rd m s4 t_53.t.Hi∧t_53.t.Hi = p_t.Hi∧OwnD m 28 3 q8 s8 t_53.x∧t_53.x = t_6∧OwnL m 3 q33 s33 t_53.rows∧t_53.rows = t_27.rows∧OwnL m 3 q60 s60 t_53.cols) hl3 ⟨[],nilS,_,_,rfl,hF.sub ⟨rfl,rfl,rfl,rfl,rfl,trivial⟩,hS.sel [4,0,1,2,3] (by decide),h28,h28k,h29,h29k,h30,h30k,h31,h31k,h32,h32k,h33,rfl,(OwnL.nil (α:=Int) m 3)⟩ ?_ ?_
  ·clear hF hS
   rintro s a w st ⟨q42,s42,t_34,t_35,rfl,hF,hS,h36,h36k,h37,h37k,h38,h38k,h39,h39k,h40,h40k,h41,h41k,h42⟩ hb3
   unfold spec_tStart_l2 at hb3
   refine q_sr (q_y (v:=(.bool (decide (t_34 < (goLen p_t.Cols))))) hF hS (ex_ibin rfl rfl rfl) fun a hF=>q_end (n_sq (q_seq ?_)))
   rcases bcase (decide (t_34 < (goLen p_t.Cols))) with hc4 | hc4
   ·have hb3:=cond_f hc4 hb3
    refine q_cond_f hF rfl hc4 (q_exit (x_sq ?_))
    obtain rfl:=someI hb3
    exact ⟨nofun,.inl ⟨q42,s42,rfl,hF.sub ⟨rfl,trivial⟩,hS.sel [1,2,0,3] (by decide),h36,h36k,h37,h37k,h38,h38k,h39,h39k,h40,h40k,h41,h41k,h42⟩⟩
   ·have hb3:=cond_t hc4 hb3
    refine q_cond_t hF rfl hc4 (q_skipc (n_sq (q_seq (q_block (q_sr (q_m hF rfl fun a hF=>?_))))))
    obtain ⟨e_43,he_43,hb3⟩:=bindS hb3
    obtain ⟨vs44,at44,d44⟩:=h2.at he_43 1 rfl
    obtain rfl : vs44 = [(iV e_43)]:=d44
    refine q_y (v:=(elP s2 (t_34.toNat * 1))) hF hS (ex_indexAddr U28 sz3 rfl rfl (h2.idx he_43)) fun a hF=>q_y (v:=(iV e_43)) hF hS (ex_loadE1 0 U3 rfl rfl ((at44).at) rfl rfl) fun a hF=>q_s hF rfl fun a hF=>q_s hF rfl fun a hF=>q_end (n_sq (e_region ⟨[13,16],[],m⟩ mixed fun w' hw'=>?_))
    have hS:=hS.below hw'
    refine e_P (v:=(pP b9 0)) 0 hF rfl (ex_move rfl) fun a hF=>e_P (v:=(pP b9 0)) 1 hF rfl (ex_move rfl) fun a hF=>e_P (v:=(pP b9 0)) 2 hF rfl (ex_nilCheck rfl) fun a hF=>e_P (v:=(pP b9 6)) 3 hF rfl (ex_fieldAddr U150 rfl sz28 rfl rfl) fun a hF=>e_X (v:=s42.v) 4 hF hS rfl (ex_load1 3 0 U28 rfl rfl rfl rfl) fun a hF=>e_P (v:=(iV e_43)) 5 hF rfl (ex_move rfl) fun a hF=>e_P (v:=(pP b5 2)) 6 hF rfl (ex_fieldAddr U50 rfl sz23 rfl rfl) fun a hF=>e_P (v:=(iV t_34)) 8 hF rfl (ex_move rfl) fun a hF=>e_one 7 (by kernel_rfl) (e_lx (v:=s3.v) hF hS rfl (ex_load1 4 0 U23 rfl rfl rfl rfl) rfl rfl fun a hF=>e_one 9 (by kernel_rfl) ?_)
    obtain ⟨t_45,ht_45,hb3⟩:=bindS hb3
    refine e_call (vs:=[s3.v,(iV t_34)]) hF hS rfl Try.func162 (by kernel_rfl) rfl rfl rfl (c_spec_tColumn p_t.Lo t_34 t_45 ht_45 _ m hS.vis s3 h3) ?_
    rintro a w _ ⟨q47,s47,rfl,hR46,h47⟩ hF hS2
    have hS : St _ _ _ _ [q47,q42,q8,q33,[⟨b9,[s1.v,s2.v,s3.v,s4.v,s8.v,s33.v,s42.v],150⟩],[⟨b5,[s1.v,s2.v,s3.v,s4.v],50⟩]]:=hS.joinF hR46
    refine e_one 10 (by kernel_rfl) ?_
    obtain ⟨m49,hl49,hv49,hz49⟩:=hS.lend
    obtain ⟨t_48,ht_48,hb3⟩:=bindS hb3
    refine e_call (vs:=[s47.v]) hF hS rfl Try.func83 (by kernel_rfl) rfl rfl rfl (c_spec_tSum t_45 t_48 ht_48 _ m49 hv49 s47 (h47.froz hl49 (hz49 0 _ rfl))) ?_
    rintro a w _ rfl hF hS
    refine e_P (v:=(iV (w64 (e_43 - t_48)))) 11 hF rfl (ex_ibin rfl rfl rfl) fun a hF=>e_one 12 (by kernel_rfl) (e_op rfl rfl fun _ hK=>wp_buildSlice' (l:=([(w64 (e_43 - t_48))] : List Int)) (cells:=[(iV (w64 (e_43 - t_48)))]) hF hS U28 inf3 rfl rfl (by kernel_rfl) rfl rfl rfl ⟨rfl,rfl⟩ rfl rfl fun a w q50 s50 hF hS h50 hb=>hK _ _ hb (e_one 13 (by kernel_rfl) ?_))
    have hS : St _ _ _ _ [q42,q50,q47,q8,q33,[⟨b9,[s1.v,s2.v,s3.v,s4.v,s8.v,s33.v,s42.v],150⟩],[⟨b5,[s1.v,s2.v,s3.v,s4.v],50⟩]]:=hS.sel [2,0,1,3,4,5,6] (by decide)
    obtain ⟨l_51,hl_51,hb3⟩:=bindS hb3
    refine e_opl rfl rfl rfl fun _ hK=>wp_append hF hS h42 U28 inf3 rfl rfl rfl rfl (h50.vw hS (j:=1) rfl) rfl (by decide) hl_51 rfl fun a w q52 s52 hF hS h52=>hK _ _ (⟨⟨kpN,fun _=>hS.vis.of_le (Mem.le.refl _)⟩,?_⟩)
    refine e_P (v:=(pP b9 0)) 14 hF rfl (ex_nilCheck rfl) fun a hF=>e_P (v:=(pP b9 6)) 15 hF rfl (ex_fieldAddr U150 rfl sz28 rfl rfl) fun a hF=>e_one 16 (by kernel_rfl) (e_store (vs:=[s52.v]) (cs':=[s1.v,s2.v,s3.v,s4.v,s8.v,s33.v,s52.v]) 5 0 hF hS rfl rfl sz28 rfl rfl rfl rfl rfl rfl rfl rfl fun a w hF hS=>⟨⟨kpN,fun _=>hS.vis.of_le (Mem.le.refl _)⟩,?_⟩)
    refine e_end (by kernel_rfl) (n_ib (n_sq ?_)) _
    refine q_region (q_y (v:=(iV (w64 (t_34 + 1)))) hF hS (ex_ibin rfl rfl rfl) fun a hF=>q_m hF rfl fun a hF=>q_end ?_)
    obtain rfl:=someI hb3
    exact ⟨rfl,q52,s52,_,_,rfl,hF.sub ⟨rfl,rfl,rfl,rfl,rfl,trivial⟩,hS.mask [true,false,false,true,true,true,true],h36,h36k,h37,h37k,h38,h38k,h39,h39k,h40,h40k,h41,h41k,h52⟩
  ·rintro e a w ⟨q60,s60,rfl,hF,hS,h54,h54k,h55,h55k,h56,h56k,h57,h57k,h58,h58k,h59,h59k,h60⟩
   refine x_ib (n_sq ?_)
   refine q_seq ?_
   obtain ⟨t_65,hj5,hr⟩:=bindS hr
   refine q_join (fun a w=>Fr a 79 [(2,(pP b9 0)),(3,(.bool t_65))]∧St [] w0 w m [q8,q33,q60,[⟨b9,[s1.v,s2.v,s3.v,s4.v,s8.v,s33.v,s60.v],150⟩]]) ?_ ?_
   ·refine q_region (q_m hF rfl fun a hF=>q_m hF rfl fun a hF=>q_y (v:=(pP b9 0)) hF hS (ex_nilCheck rfl) fun a hF=>q_y (v:=(pP b9 5)) hF hS (ex_fieldAddr U150 rfl sz28 rfl rfl) fun a hF=>q_y (v:=s33.v) hF hS (ex_load1 3 0 U28 rfl rfl rfl rfl) fun a hF=>?_)
    obtain ⟨m62,hl62,hv62,hz62⟩:=hS.lend
    obtain ⟨t_61,ht_61,hj5⟩:=bindS hj5
    refine q_call (vs:=[s33.v,(iV 0),(iV 100000)]) hF hS Try.func152 (by kernel_rfl) rfl rfl rfl (c_spec_l1All t_53.rows 0 100000 t_61 ht_61 _ m62 hv62 s33 (h59.froz hl62 (hz62 1 _ rfl))) ?_
    rintro a w _ rfl hF hS
    refine q_m hF rfl fun a hF=>?_
    rcases bcase (t_61) with hc6 | hc6
    ·have hj5:=cond_f hc6 hj5
     refine q_k hF hc6 fun a hF=>q_k hF hc6 fun a hF=>q_k hF hc6 fun a hF=>q_k hF hc6 fun a hF=>q_k hF hc6 fun a hF=>q_y (v:=(.bool false)) hF hS (ex_pick_f rfl rfl hc6) fun a hF=>q_s hF rfl fun a hF=>q_s hF rfl fun a hF=>q_end (n_jn ?_)
     obtain rfl:=someI hj5
     exact ⟨hF.sub ⟨rfl,rfl,trivial⟩,hS⟩
    ·have hj5:=cond_t hc6 hj5
     refine q_g (v:=(pP b9 0)) hF hS (ex_move rfl) hc6 fun a hF=>q_g (v:=(pP b9 0)) hF hS (ex_nilCheck rfl) hc6 fun a hF=>q_g (v:=(pP b9 6)) hF hS (ex_fieldAddr U150 rfl sz28 rfl rfl) hc6 fun a hF=>q_g (v:=s60.v) hF hS (ex_load1 3 0 U28 rfl rfl rfl rfl) hc6 fun a hF=>?_
     obtain ⟨m64,hl64,hv64,hz64⟩:=hS.lend
     obtain ⟨t_63,ht_63,hj5⟩:=bindS hj5
     refine q_callg (vs:=[s60.v,(iV 0),(iV 100000)]) hF hS (wanted_t hF rfl rfl rfl hc6) Try.func152 (by kernel_rfl) rfl rfl rfl (c_spec_l1All t_53.cols 0 100000 t_63 ht_63 _ m64 hv64 s60 (h60.froz hl64 (hz64 2 _ rfl))) ?_
     rintro a w _ rfl hF hS
     refine q_y (v:=(.bool t_63)) hF hS (ex_pick_t rfl rfl hc6) fun a hF=>q_s hF rfl fun a hF=>q_s hF rfl fun a hF=>q_end (n_jn ?_)
     obtain rfl:=someI hj5
     exact ⟨hF.sub ⟨rfl,rfl,trivial⟩,hS⟩
   ·rintro a w ⟨hF,hS⟩
    refine n_sq (q_ret ?_)
    obtain rfl:=someI hr
    exact ret_of hF hS rfl (.tmp rfl (.tmp rfl .nil)) ⟨m,b9,q8,q33,q60,s1,s2,s3,s4,s8,s33,s60,rfl,(MLe.refl _ _),hS.sel [3,0,1,2] (by decide),h54,h55,h56,h57,h58,h59,h60⟩

end Go.Proofs.Ytpjcfmpfiadkgaa
