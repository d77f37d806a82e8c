/- The walks of the functions: each returns what its plain function says. -/
import Derived.Test.YtpjcfmpfiadkgaaGreatSWalks3
namespace Go.Proofs.YtpjcfmpfiadkgaaGreat
open Go.Gx Go.Gx.F Go.RowKit
set_option linter.all false
set_option maxRecDepth 10000

theorem c_impl_CheckPlan (p_x : List (List Int)) (p_primary : List (List Int)) (p_down : Int) (p_up : Int) (p_plan : impl_Plan) (r : Int × Bool) (hr : impl_CheckPlan p_x p_primary p_down p_up p_plan = some r) (w0 : World) (m : Mem) (hv : Vis m w0) (s1 : Sl) (h1 : Rd m s1 p_x) (s2 : Sl) (h2 : Rd m s2 p_primary) (s3 : Sl) (h3 : Rd m s3 p_plan.Pattern) :
  Ret Tryz.prog 8 [s1.v,s2.v,(iV p_down),(iV p_up),(.agg #[s3.v,(iV p_plan.Added),(iV p_plan.Value)])] w0 (fun v _=>v = (.tuple #[(iV r.1),(.bool r.2)])):=by
 unfold impl_CheckPlan at hr
 refine ret_start Tryz.func8 rfl 92 rfl rfl m hv fun a hF hS=>q_sr (q_box (cs:=[s3.v,(iV p_plan.Added),(iV p_plan.Value)]) hF hS rfl rfl rfl fun a w b4 hF hS=>q_s hF rfl fun a hF=>q_s hF rfl fun a hF=>q_end (n_sq (q_seq (q_seq ?_))))
 obtain ⟨t_7,hj1,hr⟩:=bindS hr
 refine q_join (fun a w=>Fr a 92 [(0,s1.v),(1,s2.v),(2,(iV p_down)),(3,(iV p_up)),(9,(pP b4 0)),(25,(.bool t_7))]∧St [] w0 w m [[⟨b4,[s3.v,(iV p_plan.Added),(iV p_plan.Value)],27⟩]]) ?_ ?_
 ·refine q_region (q_m hF rfl fun a hF=>q_m hF rfl fun a hF=>?_)
  obtain ⟨t_5,ht_5,hj1⟩:=bindS hj1
  refine q_call (vs:=[s1.v,s2.v]) hF hS Tryz.func15 (by kernel_rfl) rfl rfl rfl (c_impl_areSuppressed p_x p_primary t_5 ht_5 _ m hS.vis s1 h1 s2 h2) ?_
  rintro a w _ rfl hF hS
  refine q_y (v:=(.bool (!t_5))) hF hS (ex_not rfl) fun a hF=>q_m hF rfl fun a hF=>?_
  rcases bcase (!t_5) with hc2 | hc2
  ·have hj1:=cond_f hc2 hj1
   refine q_g (v:=(iV p_down)) hF hS (ex_move rfl) hc2 fun a hF=>q_g (v:=(iV p_up)) hF hS (ex_move rfl) hc2 fun a hF=>?_
   obtain ⟨t_6,ht_6,hj1⟩:=bindS hj1
   refine q_callg (vs:=[(iV p_down),(iV p_up)]) hF hS (wanted_t hF rfl rfl rfl hc2) Tryz.func16 (by kernel_rfl) rfl rfl rfl (c_impl_areMargins p_down p_up t_6 ht_6 _ m hS.vis) ?_
   rintro a w _ rfl hF hS
   refine q_g (v:=(.bool (!t_6))) hF hS (ex_not rfl) hc2 fun a hF=>q_y (v:=(.bool (!t_6))) hF hS (ex_pick_f rfl rfl hc2) fun a hF=>q_end (n_jn ?_)
   obtain rfl:=someI hj1
   exact ⟨hF.sub ⟨rfl,rfl,rfl,rfl,rfl,rfl,trivial⟩,hS⟩
  ·have hj1:=cond_t hc2 hj1
   refine q_k hF hc2 fun a hF=>q_k hF hc2 fun a hF=>q_k hF hc2 fun a hF=>q_k hF hc2 fun a hF=>q_y (v:=(.bool true)) hF hS (ex_pick_t rfl rfl hc2) fun a hF=>q_end (n_jn ?_)
   obtain rfl:=someI hj1
   exact ⟨hF.sub ⟨rfl,rfl,rfl,rfl,rfl,rfl,trivial⟩,hS⟩
 ·rintro a w ⟨hF,hS⟩
  refine n_sq ?_
  rcases bcase (t_7) with hc3 | hc3
  ·have hr:=cond_f hc3 hr
   refine q_cond_f hF rfl hc3 (q_skipc (n_sq (q_seq (q_seq ?_))))
   obtain ⟨t_10,hj4,hr⟩:=bindS hr
   refine q_join (fun a w=>Fr a 92 [(0,s1.v),(1,s2.v),(2,(iV p_down)),(3,(iV p_up)),(9,(pP b4 0)),(37,(.bool t_10))]∧St [] w0 w m [[⟨b4,[s3.v,(iV p_plan.Added),(iV p_plan.Value)],27⟩]]) ?_ ?_
   ·refine q_region (q_m hF rfl fun a hF=>q_y (v:=(pP b4 0)) hF hS (ex_fieldAddr U27 rfl sz23 rfl rfl) fun a hF=>q_y (v:=s3.v) hF hS (ex_load1 0 0 U23 rfl rfl rfl rfl) fun a hF=>?_)
    obtain ⟨t_8,ht_8,hj4⟩:=bindS hj4
    refine q_call (vs:=[s1.v,s3.v]) hF hS Tryz.func38 (by kernel_rfl) rfl rfl rfl (c_impl_isPattern p_x p_plan.Pattern t_8 ht_8 _ m hS.vis s1 h1 s3 h3) ?_
    rintro a w _ rfl hF hS
    refine q_y (v:=(.bool (!t_8))) hF hS (ex_not rfl) fun a hF=>q_m hF rfl fun a hF=>?_
    rcases bcase (!t_8) with hc5 | hc5
    ·have hj4:=cond_f hc5 hj4
     refine q_g (v:=(pP b4 0)) hF hS (ex_fieldAddr U27 rfl sz23 rfl rfl) hc5 fun a hF=>q_g (v:=s3.v) hF hS (ex_load1 0 0 U23 rfl rfl rfl rfl) hc5 fun a hF=>q_g (v:=s2.v) hF hS (ex_move rfl) hc5 fun a hF=>?_
     obtain ⟨t_9,ht_9,hj4⟩:=bindS hj4
     refine q_callg (vs:=[s3.v,s2.v]) hF hS (wanted_t hF rfl rfl rfl hc5) Tryz.func39 (by kernel_rfl) rfl rfl rfl (c_impl_covers p_plan.Pattern p_primary t_9 ht_9 _ m hS.vis s3 h3 s2 h2) ?_
     rintro a w _ rfl hF hS
     refine q_g (v:=(.bool (!t_9))) hF hS (ex_not rfl) hc5 fun a hF=>q_y (v:=(.bool (!t_9))) hF hS (ex_pick_f rfl rfl hc5) fun a hF=>q_end (n_jn ?_)
     obtain rfl:=someI hj4
     exact ⟨hF.sub ⟨rfl,rfl,rfl,rfl,rfl,rfl,trivial⟩,hS⟩
    ·have hj4:=cond_t hc5 hj4
     refine q_k hF hc5 fun a hF=>q_k hF hc5 fun a hF=>q_k hF hc5 fun a hF=>q_k hF hc5 fun a hF=>q_k hF hc5 fun a hF=>q_y (v:=(.bool true)) hF hS (ex_pick_t rfl rfl hc5) fun a hF=>q_end (n_jn ?_)
     obtain rfl:=someI hj4
     exact ⟨hF.sub ⟨rfl,rfl,rfl,rfl,rfl,rfl,trivial⟩,hS⟩
   ·rintro a w ⟨hF,hS⟩
    refine n_sq ?_
    rcases bcase (t_10) with hc6 | hc6
    ·have hr:=cond_f hc6 hr
     refine q_cond_f hF rfl hc6 (q_skipc (n_sq (q_seq (q_sr (q_m hF rfl fun a hF=>q_y (v:=(pP b4 0)) hF hS (ex_fieldAddr U27 rfl sz23 rfl rfl) fun a hF=>q_y (v:=s3.v) hF hS (ex_load1 0 0 U23 rfl rfl rfl rfl) fun a hF=>q_m hF rfl fun a hF=>q_m hF rfl fun a hF=>q_m hF rfl fun a hF=>?_)))))
     obtain ⟨t_11,ht_11,hr⟩:=bindS hr
     refine q_call (vs:=[s1.v,s3.v,s2.v,(iV p_down),(iV p_up)]) hF hS Tryz.func18 (by kernel_rfl) rfl rfl rfl (c_impl_protects p_x p_plan.Pattern p_primary p_down p_up t_11 ht_11 _ m hS.vis s1 h1 s3 h3 s2 h2) ?_
     rintro a w _ rfl hF hS
     refine q_y (v:=(.bool (!t_11))) hF hS (ex_not rfl) fun a hF=>q_end (n_sq ?_)
     rcases bcase (!t_11) with hc7 | hc7
     ·have hr:=cond_f hc7 hr
      refine q_cond_f hF rfl hc7 (q_skipc (n_sq (q_sr (q_s hF rfl fun a hF=>q_s hF rfl fun a hF=>q_end (n_sq (q_seq (q_sr (q_y (v:=(pP b4 0)) hF hS (ex_fieldAddr U27 rfl sz23 rfl rfl) fun a hF=>q_y (v:=s3.v) hF hS (ex_load1 0 0 U23 rfl rfl rfl rfl) fun a hF=>?_))))))))
      obtain ⟨t_12,ht_12,hr⟩:=bindS hr
      refine q_call (vs:=[s3.v]) hF hS Tryz.func40 (by kernel_rfl) rfl rfl rfl (c_impl_positions p_plan.Pattern t_12 ht_12 _ m hS.vis s3 h3) ?_
      have hT:=hS
      rintro a w _ ⟨m13,q14,s14,rfl,hm13,hR13,h14⟩ hF hS2
      have hS : St _ _ _ _ [q14,[⟨b4,[s3.v,(iV p_plan.Added),(iV p_plan.Value)],27⟩]]:=hS.join hR13 hm13
      have hm13:=MLe.weakX (O0:=[]) hT hm13
      refine q_y (v:=(iV (goLen t_12))) hF hS (ex_len U23 rfl h14.len) fun a hF=>q_m hF rfl fun a hF=>q_end (n_sq (q_block ?_))
      obtain ⟨o8,hl8,hr⟩:=bindS hr
      refine q_loop (fun (s : Int × Int × Int) a w=>∃ added_15,∃ value_16,∃ t_17,s = (added_15,value_16,t_17)∧Fr a 92 [(0,s1.v),(1,s2.v),(9,(pP b4 0)),(12,(iV added_15)),(13,(iV value_16)),(48,s14.v),(49,(iV (goLen t_12))),(50,(iV t_17))]∧St [] w0 w m13 [q14,[⟨b4,[s3.v,(iV p_plan.Added),(iV p_plan.Value)],27⟩]]) (fun (o : Int × Int) e a w=>∃ added_41,∃ value_42,o = (added_41,value_42)∧e = .exit 0∧Fr a 92 [(9,(pP b4 0)),(12,(iV added_41)),(13,(iV value_42))]∧St [] w0 w m13 [[⟨b4,[s3.v,(iV p_plan.Added),(iV p_plan.Value)],27⟩]]) hl8 ⟨_,_,_,rfl,hF.sub ⟨rfl,rfl,rfl,rfl,rfl,rfl,rfl,rfl,trivial⟩,hS⟩ ?_ ?_
      ·clear hF hS
       rintro s a w st ⟨added_15,value_16,t_17,rfl,hF,hS⟩ hb8
       unfold impl_CheckPlan_l1 at hb8
       refine q_sr (q_y (v:=(.bool (decide (t_17 < (goLen t_12))))) hF hS (ex_ibin rfl rfl rfl) fun a hF=>q_end (n_sq (q_seq ?_)))
       rcases bcase (decide (t_17 < (goLen t_12))) with hc9 | hc9
       ·have hb8:=cond_f hc9 hb8
        refine q_cond_f hF rfl hc9 (q_exit (x_sq ?_))
        obtain rfl:=someI hb8
        exact ⟨nofun,.inl ⟨_,_,rfl,rfl,hF.sub ⟨rfl,rfl,rfl,trivial⟩,hS.mask [false,true]⟩⟩
       ·have hb8:=cond_t hc9 hb8
        refine q_cond_t hF rfl hc9 (q_skipc (n_sq (q_seq (q_block (q_seq (q_region ?_))))))
        obtain ⟨e_18,he_18,hb8⟩:=bindS hb8
        obtain ⟨vs19,at19,d19⟩:=h14.at he_18 1 rfl
        obtain ⟨s20,rfl,h20⟩ : ∃ s20 : Sl,vs19 = [s20.v]∧Rd m13 s20 e_18:=d19
        refine q_y (v:=(elP s14 (t_17.toNat * 1))) hF hS (ex_indexAddr U23 sz48 rfl rfl (h14.idx he_18)) fun a hF=>q_y (v:=s20.v) hF hS (ex_loadE1 0 U48 rfl rfl (at19.at 0 rfl) rfl rfl) fun a hF=>q_s hF rfl fun a hF=>q_end (n_sq (q_seq (e_region ⟨[],[],m13⟩ mixed fun w' hw'=>?_)))
        have hS:=hS.below hw'
        refine e_P (v:=s2.v) 0 hF rfl (ex_move rfl) fun a hF=>e_P (v:=s20.v) 1 hF rfl (ex_move rfl) fun a hF=>?_
        obtain ⟨e_21,he_21,hb8⟩:=bindS hb8
        obtain ⟨vs22,at22,d22⟩:=h20.at he_21 1 rfl
        obtain rfl : vs22 = [(iV e_21)]:=d22
        refine e_P (v:=(elP s20 ((0 : Int).toNat * 1))) 2 hF rfl (ex_indexAddr U48 sz3 rfl rfl (h20.idx he_21)) fun a hF=>e_xm (v:=(iV e_21)) 3 hF hS (Mem.le.refl _) rfl (ex_loadE1 0 U3 rfl rfl ((at22).at) rfl rfl) rfl rfl (by kernel_rfl) (by kernel_rfl) (by kernel_rfl) fun a hF=>?_
        obtain ⟨e_23,he_23,hb8⟩:=bindS hb8
        obtain ⟨vs24,at24,d24⟩:=h2.at he_23 1 rfl
        obtain ⟨s25,rfl,h25⟩ : ∃ s25 : Sl,vs24 = [s25.v]∧Rd m s25 e_23:=d24
        refine e_P (v:=(elP s2 (e_21.toNat * 1))) 4 hF rfl (ex_indexAddr U23 sz48 rfl rfl ((h2.mono hm13.le).idx he_23)) fun a hF=>e_xm (v:=s25.v) 5 hF hS (Mem.le.refl _) rfl (ex_loadE1 0 U48 rfl rfl (((at24.mono hm13.le)).at) rfl rfl) rfl rfl (by kernel_rfl) (by kernel_rfl) (by kernel_rfl) fun a hF=>e_P (v:=s20.v) 6 hF rfl (ex_move rfl) fun a hF=>?_
        obtain ⟨e_26,he_26,hb8⟩:=bindS hb8
        obtain ⟨vs27,at27,d27⟩:=h20.at he_26 1 rfl
        obtain rfl : vs27 = [(iV e_26)]:=d27
        refine e_P (v:=(elP s20 ((1 : Int).toNat * 1))) 7 hF rfl (ex_indexAddr U48 sz3 rfl rfl (h20.idx he_26)) fun a hF=>e_xm (v:=(iV e_26)) 8 hF hS (Mem.le.refl _) rfl (ex_loadE1 0 U3 rfl rfl ((at27).at) rfl rfl) rfl rfl (by kernel_rfl) (by kernel_rfl) (by kernel_rfl) fun a hF=>?_
        obtain ⟨e_28,he_28,hb8⟩:=bindS hb8
        obtain ⟨vs29,at29,d29⟩:=h25.at he_28 1 rfl
        obtain rfl : vs29 = [(iV e_28)]:=d29
        refine e_P (v:=(elP s25 (e_26.toNat * 1))) 9 hF rfl (ex_indexAddr U48 sz3 rfl rfl ((h25.mono hm13.le).idx he_28)) fun a hF=>e_xm (v:=(iV e_28)) 10 hF hS (Mem.le.refl _) rfl (ex_loadE1 0 U3 rfl rfl (((at29.mono hm13.le)).at) rfl rfl) rfl rfl (by kernel_rfl) (by kernel_rfl) (by kernel_rfl) fun a hF=>e_P (v:=(.bool (e_28 == 0))) 11 hF rfl (ex_ibin rfl rfl rfl) fun a hF=>e_end (by kernel_rfl) (n_sq ?_) _
        obtain ⟨j10,hj10,hb8⟩:=bindS hb8
        refine q_join (fun a w=>∃ added_39,∃ value_40,j10 = (added_39,value_40)∧Fr a 92 [(0,s1.v),(1,s2.v),(9,(pP b4 0)),(12,(iV added_39)),(13,(iV value_40)),(48,s14.v),(49,(iV (goLen t_12))),(50,(iV t_17))]∧St [] w0 w m13 [q14,[⟨b4,[s3.v,(iV p_plan.Added),(iV p_plan.Value)],27⟩]]) ?_ ?_
        ·rcases bcase (e_28 == 0) with hc11 | hc11
         ·have hj10:=cond_f hc11 hj10
          refine q_cond_f hF rfl hc11 (q_skipc (n_jn ?_))
          obtain rfl:=someI hj10
          exact ⟨_,_,rfl,hF.sub ⟨rfl,rfl,rfl,rfl,rfl,rfl,rfl,rfl,trivial⟩,hS⟩
         ·have hj10:=cond_t hc11 hj10
          refine q_cond_t hF rfl hc11 (q_sr (q_m hF rfl fun a hF=>q_y (v:=(iV (w64 (added_15 + 1)))) hF hS (ex_ibin rfl rfl rfl) fun a hF=>q_s hF rfl fun a hF=>q_end (n_sq (e_region ⟨[],[],m13⟩ mixed fun w' hw'=>?_))))
          have hS:=hS.below hw'
          refine e_P (v:=(iV value_16)) 0 hF rfl (ex_move rfl) fun a hF=>e_P (v:=s1.v) 1 hF rfl (ex_move rfl) fun a hF=>e_P (v:=s20.v) 2 hF rfl (ex_move rfl) fun a hF=>?_
          obtain ⟨e_30,he_30,hj10⟩:=bindS hj10
          obtain ⟨vs31,at31,d31⟩:=h20.at he_30 1 rfl
          obtain rfl : vs31 = [(iV e_30)]:=d31
          refine e_P (v:=(elP s20 ((0 : Int).toNat * 1))) 3 hF rfl (ex_indexAddr U48 sz3 rfl rfl (h20.idx he_30)) fun a hF=>e_xm (v:=(iV e_30)) 4 hF hS (Mem.le.refl _) rfl (ex_loadE1 0 U3 rfl rfl ((at31).at) rfl rfl) rfl rfl (by kernel_rfl) (by kernel_rfl) (by kernel_rfl) fun a hF=>?_
          obtain ⟨e_32,he_32,hj10⟩:=bindS hj10
          obtain ⟨vs33,at33,d33⟩:=h1.at he_32 1 rfl
          obtain ⟨s34,rfl,h34⟩ : ∃ s34 : Sl,vs33 = [s34.v]∧Rd m s34 e_32:=d33
          refine e_P (v:=(elP s1 (e_30.toNat * 1))) 5 hF rfl (ex_indexAddr U23 sz48 rfl rfl ((h1.mono hm13.le).idx he_32)) fun a hF=>e_xm (v:=s34.v) 6 hF hS (Mem.le.refl _) rfl (ex_loadE1 0 U48 rfl rfl (((at33.mono hm13.le)).at) rfl rfl) rfl rfl (by kernel_rfl) (by kernel_rfl) (by kernel_rfl) fun a hF=>e_P (v:=s20.v) 7 hF rfl (ex_move rfl) fun a hF=>?_
          obtain ⟨e_35,he_35,hj10⟩:=bindS hj10
          obtain ⟨vs36,at36,d36⟩:=h20.at he_35 1 rfl
          obtain rfl : vs36 = [(iV e_35)]:=d36
          refine e_P (v:=(elP s20 ((1 : Int).toNat * 1))) 8 hF rfl (ex_indexAddr U48 sz3 rfl rfl (h20.idx he_35)) fun a hF=>e_xm (v:=(iV e_35)) 9 hF hS (Mem.le.refl _) rfl (ex_loadE1 0 U3 rfl rfl ((at36).at) rfl rfl) rfl rfl (by kernel_rfl) (by kernel_rfl) (by kernel_rfl) fun a hF=>?_
          obtain ⟨e_37,he_37,hj10⟩:=bindS hj10
          obtain ⟨vs38,at38,d38⟩:=h34.at he_37 1 rfl
          obtain rfl : vs38 = [(iV e_37)]:=d38
          refine e_P (v:=(elP s34 (e_35.toNat * 1))) 10 hF rfl (ex_indexAddr U48 sz3 rfl rfl ((h34.mono hm13.le).idx he_37)) fun a hF=>e_xm (v:=(iV e_37)) 11 hF hS (Mem.le.refl _) rfl (ex_loadE1 0 U3 rfl rfl (((at38.mono hm13.le)).at) rfl rfl) rfl rfl (by kernel_rfl) (by kernel_rfl) (by kernel_rfl) fun a hF=>e_P (v:=(iV (w64 (value_16 + e_37)))) 12 hF rfl (ex_ibin rfl rfl rfl) fun a hF=>e_P (v:=(iV (w64 (value_16 + e_37)))) 13 hF rfl (ex_assign rfl) fun a hF=>e_end (by kernel_rfl) (n_jn ?_) _
          obtain rfl:=someI hj10
          exact ⟨_,_,rfl,hF.sub ⟨rfl,rfl,rfl,rfl,rfl,rfl,rfl,rfl,trivial⟩,hS⟩
        ·rintro a w ⟨added_39,value_40,rfl,hF,hS⟩
         refine n_ib (n_sq ?_)
         refine q_region (q_y (v:=(iV (w64 (t_17 + 1)))) hF hS (ex_ibin rfl rfl rfl) fun a hF=>q_m hF rfl fun a hF=>q_end ?_)
         obtain rfl:=someI hb8
         exact ⟨rfl,_,_,_,rfl,hF.sub ⟨rfl,rfl,rfl,rfl,rfl,rfl,rfl,rfl,trivial⟩,hS⟩
      ·rintro e a w ⟨added_41,value_42,rfl,rfl,hF,hS⟩
       refine x_ib (n_sq ?_)
       refine q_seq (q_seq ?_)
       obtain ⟨t_43,hj12,hr⟩:=bindS hr
       refine q_join (fun a w=>Fr a 92 [(91,(.bool t_43))]∧St [] w0 w m13 []) ?_ ?_
       ·refine q_region (q_y (v:=(pP b4 1)) hF hS (ex_fieldAddr U27 rfl sz3 rfl rfl) fun a hF=>q_y (v:=(iV p_plan.Added)) hF hS (ex_load1 0 0 U3 rfl rfl rfl rfl) fun a hF=>q_m hF rfl fun a hF=>q_y (v:=(.bool (p_plan.Added != added_41))) hF hS (ex_ibin rfl rfl rfl) fun a hF=>q_m hF rfl fun a hF=>?_)
        rcases bcase (p_plan.Added != added_41) with hc13 | hc13
        ·have hj12:=cond_f hc13 hj12
         refine q_g (v:=(pP b4 2)) hF hS (ex_fieldAddr U27 rfl sz3 rfl rfl) hc13 fun a hF=>q_g (v:=(iV p_plan.Value)) hF hS (ex_load1 0 0 U3 rfl rfl rfl rfl) hc13 fun a hF=>q_g (v:=(iV value_42)) hF hS (ex_move rfl) hc13 fun a hF=>q_g (v:=(.bool (p_plan.Value != value_42))) hF hS (ex_ibin rfl rfl rfl) hc13 fun a hF=>q_y (v:=(.bool (p_plan.Value != value_42))) hF hS (ex_pick_f rfl rfl hc13) fun a hF=>q_end (n_jn ?_)
         obtain rfl:=someI hj12
         exact ⟨hF.sub ⟨rfl,trivial⟩,hS.mask [false]⟩
        ·have hj12:=cond_t hc13 hj12
         refine q_k hF hc13 fun a hF=>q_k hF hc13 fun a hF=>q_k hF hc13 fun a hF=>q_k hF hc13 fun a hF=>q_y (v:=(.bool true)) hF hS (ex_pick_t rfl rfl hc13) fun a hF=>q_end (n_jn ?_)
         obtain rfl:=someI hj12
         exact ⟨hF.sub ⟨rfl,trivial⟩,hS.mask [false]⟩
       ·rintro a w ⟨hF,hS⟩
        refine n_sq ?_
        rcases bcase (t_43) with hc14 | hc14
        ·have hr:=cond_f hc14 hr
         refine q_cond_f hF rfl hc14 (q_skipc (n_sq (q_sr (q_s hF rfl fun a hF=>q_s hF rfl fun a hF=>q_end (n_sq (q_ret ?_))))))
         obtain rfl:=someI hr
         exact ret_of hF hS rfl (.tmp rfl (.tmp rfl .nil)) rfl
        ·have hr:=cond_t hc14 hr
         refine q_cond_t hF rfl hc14 (q_sr (q_s hF rfl fun a hF=>q_s hF rfl fun a hF=>q_end (n_sq (q_ret (r_sq ?_)))))
         obtain rfl:=someI hr
         exact ret_of hF hS rfl (.tmp rfl (.tmp rfl .nil)) rfl
     ·have hr:=cond_t hc7 hr
      refine q_cond_t hF rfl hc7 (q_sr (q_s hF rfl fun a hF=>q_s hF rfl fun a hF=>q_end (n_sq (q_ret (r_sq ?_)))))
      obtain rfl:=someI hr
      exact ret_of hF hS rfl (.tmp rfl (.tmp rfl .nil)) rfl
    ·have hr:=cond_t hc6 hr
     refine q_cond_t hF rfl hc6 (q_sr (q_s hF rfl fun a hF=>q_s hF rfl fun a hF=>q_end (n_sq (q_ret (r_sq ?_)))))
     obtain rfl:=someI hr
     exact ret_of hF hS rfl (.tmp rfl (.tmp rfl .nil)) rfl
  ·have hr:=cond_t hc3 hr
   refine q_cond_t hF rfl hc3 (q_sr (q_s hF rfl fun a hF=>q_s hF rfl fun a hF=>q_end (n_sq (q_ret (r_sq ?_)))))
   obtain rfl:=someI hr
   exact ret_of hF hS rfl (.tmp rfl (.tmp rfl .nil)) rfl

theorem c_spec_vContains (p_p : List (List Int)) (p_primary : List (List Int)) (r : Bool) (hr : spec_vContains p_p p_primary = some r) (w0 : World) (m : Mem) (hv : Vis m w0) (s1 : Sl) (h1 : Rd m s1 p_p) (s2 : Sl) (h2 : Rd m s2 p_primary) :
  Ret Tryz.prog 71 [s1.v,s2.v] w0 (fun v _=>v = (.bool r)):=by
 unfold spec_vContains at hr
 refine ret_start Tryz.func71 rfl 37 rfl rfl m hv fun a hF hS=>q_sr (q_s hF rfl fun a hF=>q_end (n_sq (q_seq (q_sr (q_m hF rfl fun a hF=>q_y (v:=(iV (goLen p_primary))) hF hS (ex_len U23 rfl h2.len) fun a hF=>q_m hF rfl fun a hF=>q_end (n_sq (q_block ?_)))))))
 obtain ⟨o1,hl1,hr⟩:=bindS hr
 refine q_loop (fun (t_3 : Int) a w=>Fr a 37 [(0,s1.v),(9,s2.v),(10,(iV (goLen p_primary))),(11,(iV t_3))]∧St [] w0 w m []) (fun (o : (Unit) ⊕ (Bool)) e a w=>o = .inl ()∧e = .exit 0∧Fr a 37 []∧St [] w0 w m []) hl1 ⟨hF.sub ⟨rfl,rfl,rfl,rfl,trivial⟩,hS⟩ ?_ ?_
 ·clear hF hS
  rintro t_3 a w st ⟨hF,hS⟩ hb1
  unfold spec_vContains_l1 at hb1
  refine q_sr (q_y (v:=(.bool (decide (t_3 < (goLen p_primary))))) hF hS (ex_ibin rfl rfl rfl) fun a hF=>q_end (n_sq (q_seq ?_)))
  rcases bcase (decide (t_3 < (goLen p_primary))) with hc2 | hc2
  ·have hb1:=cond_f hc2 hb1
   refine q_cond_f hF rfl hc2 (q_exit (x_sq ?_))
   obtain rfl:=someI hb1
   exact ⟨nofun,.inl ⟨rfl,rfl,hF.sub trivial,hS⟩⟩
  ·have hb1:=cond_t hc2 hb1
   refine q_cond_t hF rfl hc2 (q_skipc (n_sq (q_seq (q_block (q_sr (q_m hF rfl fun a hF=>?_))))))
   obtain ⟨e_4,he_4,hb1⟩:=bindS hb1
   obtain ⟨vs5,at5,d5⟩:=h2.at he_4 1 rfl
   obtain ⟨s6,rfl,h6⟩ : ∃ s6 : Sl,vs5 = [s6.v]∧Rd m s6 e_4:=d5
   refine q_y (v:=(elP s2 (t_3.toNat * 1))) hF hS (ex_indexAddr U23 sz48 rfl rfl (h2.idx he_4)) fun a hF=>q_y (v:=s6.v) hF hS (ex_loadE1 0 U48 rfl rfl ((at5).at) rfl rfl) fun a hF=>q_s hF rfl fun a hF=>q_s hF rfl fun a hF=>q_end (n_sq (q_sr (q_m hF rfl fun a hF=>q_y (v:=(iV (goLen e_4))) hF hS (ex_len U48 rfl h6.len) fun a hF=>q_m hF rfl fun a hF=>q_end (n_sq (q_block ?_)))))
   obtain ⟨o3,hl3,hb1⟩:=bindS hb1
   refine q_loop (fun (t_7 : Int) a w=>Fr a 37 [(0,s1.v),(5,(iV t_3)),(9,s2.v),(10,(iV (goLen p_primary))),(11,(iV t_3)),(16,s6.v),(17,(iV (goLen e_4))),(18,(iV t_7))]∧St [] w0 w m []) (fun (o : (Unit) ⊕ (Stp (Int) ((Unit) ⊕ (Bool)))) e a w=>o = .inl ()∧e = .exit 2∧Fr a 37 [(0,s1.v),(9,s2.v),(10,(iV (goLen p_primary))),(11,(iV t_3))]∧St [] w0 w m []) hl3 ⟨hF.sub ⟨rfl,rfl,rfl,rfl,rfl,rfl,rfl,rfl,trivial⟩,hS⟩ ?_ ?_
   ·clear hF hS
    rintro t_7 a w st ⟨hF,hS⟩ hb3
    unfold spec_vContains_l2 at hb3
    refine q_sr (q_y (v:=(.bool (decide (t_7 < (goLen e_4))))) hF hS (ex_ibin rfl rfl rfl) fun a hF=>q_end (n_sq (q_seq ?_)))
    rcases bcase (decide (t_7 < (goLen e_4))) with hc4 | hc4
    ·have hb3:=cond_f hc4 hb3
     refine q_cond_f hF rfl hc4 (q_exit (x_sq ?_))
     obtain rfl:=someI hb3
     exact ⟨nofun,.inl ⟨rfl,rfl,hF.sub ⟨rfl,rfl,rfl,rfl,trivial⟩,hS⟩⟩
    ·have hb3:=cond_t hc4 hb3
     refine q_cond_t hF rfl hc4 (q_skipc (n_sq (q_seq (q_block (q_sr (q_m hF rfl fun a hF=>?_))))))
     obtain ⟨e_8,he_8,hb3⟩:=bindS hb3
     obtain ⟨vs9,at9,d9⟩:=h6.at he_8 1 rfl
     obtain rfl : vs9 = [(iV e_8)]:=d9
     refine q_y (v:=(elP s6 (t_7.toNat * 1))) hF hS (ex_indexAddr U48 sz3 rfl rfl (h6.idx he_8)) fun a hF=>q_y (v:=(iV e_8)) hF hS (ex_loadE1 0 U3 rfl rfl ((at9).at) rfl rfl) fun a hF=>q_s hF rfl fun a hF=>q_s hF rfl fun a hF=>q_end (n_sq (q_seq ?_))
     obtain ⟨t_15,hj5,hb3⟩:=bindS hb3
     refine q_join (fun a w=>Fr a 37 [(0,s1.v),(5,(iV t_3)),(9,s2.v),(10,(iV (goLen p_primary))),(11,(iV t_3)),(16,s6.v),(17,(iV (goLen e_4))),(18,(iV t_7)),(34,(.bool t_15))]∧St [] w0 w m []) ?_ ?_
     ·refine q_region (q_m hF rfl fun a hF=>q_y (v:=(.bool (e_8 == 1))) hF hS (ex_ibin rfl rfl rfl) fun a hF=>q_m hF rfl fun a hF=>?_)
      rcases bcase (e_8 == 1) with hc6 | hc6
      ·have hj5:=cond_f hc6 hj5
       refine q_k hF hc6 fun a hF=>q_k hF hc6 fun a hF=>q_k hF hc6 fun a hF=>q_k hF hc6 fun a hF=>q_k hF hc6 fun a hF=>q_k hF hc6 fun a hF=>q_k hF hc6 fun a hF=>q_k hF hc6 fun a hF=>q_y (v:=(.bool false)) hF hS (ex_pick_f rfl rfl hc6) fun a hF=>q_end (n_jn ?_)
       obtain rfl:=someI hj5
       exact ⟨hF.sub ⟨rfl,rfl,rfl,rfl,rfl,rfl,rfl,rfl,rfl,trivial⟩,hS⟩
      ·have hj5:=cond_t hc6 hj5
       refine q_g (v:=s1.v) hF hS (ex_move rfl) hc6 fun a hF=>q_g (v:=(iV t_3)) hF hS (ex_move rfl) hc6 fun a hF=>?_
       obtain ⟨e_10,he_10,hj5⟩:=bindS hj5
       obtain ⟨vs11,at11,d11⟩:=h1.at he_10 1 rfl
       obtain ⟨s12,rfl,h12⟩ : ∃ s12 : Sl,vs11 = [s12.v]∧Rd m s12 e_10:=d11
       refine q_g (v:=(elP s1 (t_3.toNat * 1))) hF hS (ex_indexAddr U23 sz48 rfl rfl (h1.idx he_10)) hc6 fun a hF=>q_g (v:=s12.v) hF hS (ex_loadE1 0 U48 rfl rfl ((at11).at) rfl rfl) hc6 fun a hF=>q_g (v:=(iV t_7)) hF hS (ex_move rfl) hc6 fun a hF=>?_
       obtain ⟨e_13,he_13,hj5⟩:=bindS hj5
       obtain ⟨vs14,at14,d14⟩:=h12.at he_13 1 rfl
       obtain rfl : vs14 = [(iV e_13)]:=d14
       refine q_g (v:=(elP s12 (t_7.toNat * 1))) hF hS (ex_indexAddr U48 sz3 rfl rfl (h12.idx he_13)) hc6 fun a hF=>q_g (v:=(iV e_13)) hF hS (ex_loadE1 0 U3 rfl rfl ((at14).at) rfl rfl) hc6 fun a hF=>q_g (v:=(.bool (e_13 == 0))) hF hS (ex_ibin rfl rfl rfl) hc6 fun a hF=>q_y (v:=(.bool (e_13 == 0))) hF hS (ex_pick_t rfl rfl hc6) fun a hF=>q_end (n_jn ?_)
       obtain rfl:=someI hj5
       exact ⟨hF.sub ⟨rfl,rfl,rfl,rfl,rfl,rfl,rfl,rfl,rfl,trivial⟩,hS⟩
     ·rintro a w ⟨hF,hS⟩
      refine n_sq ?_
      rcases bcase (t_15) with hc7 | hc7
      ·have hb3:=cond_f hc7 hb3
       refine q_cond_f hF rfl hc7 (q_skipc (n_ib (n_sq (q_region (q_y (v:=(iV (w64 (t_7 + 1)))) hF hS (ex_ibin rfl rfl rfl) fun a hF=>q_m hF rfl fun a hF=>q_end ?_)))))
       obtain rfl:=someI hb3
       exact ⟨rfl,hF.sub ⟨rfl,rfl,rfl,rfl,rfl,rfl,rfl,rfl,trivial⟩,hS⟩
      ·have hb3:=cond_t hc7 hb3
       refine q_cond_t hF rfl hc7 (q_sr (q_s hF rfl fun a hF=>q_end (n_sq (q_ret (r_ib (r_sq ?_))))))
       obtain rfl:=someI hb3
       refine ⟨nofun,.inr fun ho=>?_⟩
       subst ho
       refine r_ib (r_ib (r_sq ?_))
       obtain rfl:=someI hb1
       refine ⟨nofun,.inr fun ho=>?_⟩
       subst ho
       refine r_ib (r_sq ?_)
       obtain rfl:=someI hr
       exact ret_of hF hS rfl (.tmp rfl .nil) rfl
   ·rintro e a w ⟨rfl,rfl,hF,hS⟩
    refine x_ib (n_ib (n_sq ?_))
    refine q_region (q_y (v:=(iV (w64 (t_3 + 1)))) hF hS (ex_ibin rfl rfl rfl) fun a hF=>q_m hF rfl fun a hF=>q_end ?_)
    obtain rfl:=someI hb1
    exact ⟨rfl,hF.sub ⟨rfl,rfl,rfl,rfl,trivial⟩,hS⟩
 ·rintro e a w ⟨rfl,rfl,hF,hS⟩
  refine x_ib (n_sq ?_)
  refine q_sr (q_s hF rfl fun a hF=>q_end (n_sq (q_ret ?_)))
  obtain rfl:=someI hr
  exact ret_of hF hS rfl (.tmp rfl .nil) rfl

theorem c_spec_vInput (p_x : List (List Int)) (p_p : List (List Int)) (p_primary : List (List Int)) (r : Bool) (hr : spec_vInput p_x p_p p_primary = some r) (w0 : World) (m : Mem) (hv : Vis m w0) (s1 : Sl) (h1 : Rd m s1 p_x) (s2 : Sl) (h2 : Rd m s2 p_p) (s3 : Sl) (h3 : Rd m s3 p_primary) :
  Ret Tryz.prog 41 [s1.v,s2.v,s3.v] w0 (fun v _=>v = (.bool r)):=by
 unfold spec_vInput at hr
 refine ret_start Tryz.func41 rfl 20 rfl rfl m hv fun a hF hS=>q_sr (q_s hF rfl fun a hF=>q_end (n_sq (q_seq ?_)))
 obtain ⟨t_7,hj1,hr⟩:=bindS hr
 refine q_join (fun a w=>Fr a 20 [(6,(.bool t_7))]∧St [] w0 w m []) ?_ ?_
 ·refine q_region (q_m hF rfl fun a hF=>q_m hF rfl fun a hF=>?_)
  obtain ⟨t_4,ht_4,hj1⟩:=bindS hj1
  refine q_call (vs:=[s1.v,s2.v]) hF hS Tryz.func28 (by kernel_rfl) rfl rfl rfl (c_spec_qPattern p_x p_p t_4 ht_4 _ m hS.vis s1 h1 s2 h2) ?_
  rintro a w _ rfl hF hS
  refine q_m hF rfl fun a hF=>?_
  rcases bcase (t_4) with hc2 | hc2
  ·have hj1:=cond_f hc2 hj1
   refine q_k hF hc2 fun a hF=>q_k hF hc2 fun a hF=>q_k hF hc2 fun a hF=>q_y (v:=(.bool false)) hF hS (ex_pick_f rfl rfl hc2) fun a hF=>q_m hF rfl fun a hF=>q_k hF rfl fun a hF=>q_k hF rfl fun a hF=>q_k hF rfl fun a hF=>q_y (v:=(.bool false)) hF hS (ex_pick_f rfl rfl rfl) fun a hF=>q_s hF rfl fun a hF=>q_end (n_jn ?_)
   obtain rfl:=someI hj1
   exact ⟨hF.sub ⟨rfl,trivial⟩,hS⟩
  ·have hj1:=cond_t hc2 hj1
   refine q_g (v:=s1.v) hF hS (ex_move rfl) hc2 fun a hF=>q_g (v:=s3.v) hF hS (ex_move rfl) hc2 fun a hF=>?_
   obtain ⟨t_5,ht_5,hj1⟩:=bindS hj1
   refine q_callg (vs:=[s1.v,s3.v]) hF hS (wanted_t hF rfl rfl rfl hc2) Tryz.func28 (by kernel_rfl) rfl rfl rfl (c_spec_qPattern p_x p_primary t_5 ht_5 _ m hS.vis s1 h1 s3 h3) ?_
   rintro a w _ rfl hF hS
   refine q_y (v:=(.bool t_5)) hF hS (ex_pick_t rfl rfl hc2) fun a hF=>q_m hF rfl fun a hF=>?_
   rcases bcase (t_5) with hc3 | hc3
   ·have hj1:=cond_f hc3 hj1
    refine q_k hF hc3 fun a hF=>q_k hF hc3 fun a hF=>q_k hF hc3 fun a hF=>q_y (v:=(.bool false)) hF hS (ex_pick_f rfl rfl hc3) fun a hF=>q_s hF rfl fun a hF=>q_end (n_jn ?_)
    obtain rfl:=someI hj1
    exact ⟨hF.sub ⟨rfl,trivial⟩,hS⟩
   ·have hj1:=cond_t hc3 hj1
    refine q_g (v:=s2.v) hF hS (ex_move rfl) hc3 fun a hF=>q_g (v:=s3.v) hF hS (ex_move rfl) hc3 fun a hF=>?_
    obtain ⟨t_6,ht_6,hj1⟩:=bindS hj1
    refine q_callg (vs:=[s2.v,s3.v]) hF hS (wanted_t hF rfl rfl rfl hc3) Tryz.func71 (by kernel_rfl) rfl rfl rfl (c_spec_vContains p_p p_primary t_6 ht_6 _ m hS.vis s2 h2 s3 h3) ?_
    rintro a w _ rfl hF hS
    refine q_y (v:=(.bool t_6)) hF hS (ex_pick_t rfl rfl hc3) fun a hF=>q_s hF rfl fun a hF=>q_end (n_jn ?_)
    obtain rfl:=someI hj1
    exact ⟨hF.sub ⟨rfl,trivial⟩,hS⟩
 ·rintro a w ⟨hF,hS⟩
  refine n_sq (q_ret ?_)
  obtain rfl:=someI hr
  exact ret_of hF hS rfl (.tmp rfl .nil) rfl

theorem c_spec_CheckPlan (p_x : List (List Int)) (p_primary : List (List Int)) (p_down : Int) (p_up : Int) (p_plan : impl_Plan) (r : Int × Bool) (hr : spec_CheckPlan p_x p_primary p_down p_up p_plan = some r) (w0 : World) (m : Mem) (hv : Vis m w0) (s1 : Sl) (h1 : Rd m s1 p_x) (s2 : Sl) (h2 : Rd m s2 p_primary) (s3 : Sl) (h3 : Rd m s3 p_plan.Pattern) :
  Ret Tryz.prog 9 [s1.v,s2.v,(iV p_down),(iV p_up),(.agg #[s3.v,(iV p_plan.Added),(iV p_plan.Value)])] w0 (fun v _=>v = (.tuple #[(iV r.1),(.bool r.2)])):=by
 unfold spec_CheckPlan at hr
 refine ret_start Tryz.func9 rfl 54 rfl rfl m hv fun a hF hS=>q_sr (q_box (cs:=[s3.v,(iV p_plan.Added),(iV p_plan.Value)]) hF hS rfl rfl rfl fun a w b4 hF hS=>q_s hF rfl fun a hF=>q_s hF rfl fun a hF=>q_end (n_sq (q_seq (q_seq ?_))))
 obtain ⟨t_7,hj1,hr⟩:=bindS hr
 refine q_join (fun a w=>Fr a 54 [(0,s1.v),(1,s2.v),(2,(iV p_down)),(3,(iV p_up)),(9,(pP b4 0)),(22,(.bool t_7))]∧St [] w0 w m [[⟨b4,[s3.v,(iV p_plan.Added),(iV p_plan.Value)],27⟩]]) ?_ ?_
 ·refine q_region (q_m hF rfl fun a hF=>q_m hF rfl fun a hF=>?_)
  obtain ⟨t_5,ht_5,hj1⟩:=bindS hj1
  refine q_call (vs:=[s1.v,s2.v]) hF hS Tryz.func28 (by kernel_rfl) rfl rfl rfl (c_spec_qPattern p_x p_primary t_5 ht_5 _ m hS.vis s1 h1 s2 h2) ?_
  rintro a w _ rfl hF hS
  refine q_y (v:=(.bool (!t_5))) hF hS (ex_not rfl) fun a hF=>q_m hF rfl fun a hF=>?_
  rcases bcase (!t_5) with hc2 | hc2
  ·have hj1:=cond_f hc2 hj1
   refine q_g (v:=(iV p_down)) hF hS (ex_move rfl) hc2 fun a hF=>q_g (v:=(iV p_up)) hF hS (ex_move rfl) hc2 fun a hF=>?_
   obtain ⟨t_6,ht_6,hj1⟩:=bindS hj1
   refine q_callg (vs:=[(iV p_down),(iV p_up)]) hF hS (wanted_t hF rfl rfl rfl hc2) Tryz.func29 (by kernel_rfl) rfl rfl rfl (c_spec_vLevels p_down p_up t_6 ht_6 _ m hS.vis) ?_
   rintro a w _ rfl hF hS
   refine q_g (v:=(.bool (!t_6))) hF hS (ex_not rfl) hc2 fun a hF=>q_y (v:=(.bool (!t_6))) hF hS (ex_pick_f rfl rfl hc2) fun a hF=>q_end (n_jn ?_)
   obtain rfl:=someI hj1
   exact ⟨hF.sub ⟨rfl,rfl,rfl,rfl,rfl,rfl,trivial⟩,hS⟩
  ·have hj1:=cond_t hc2 hj1
   refine q_k hF hc2 fun a hF=>q_k hF hc2 fun a hF=>q_k hF hc2 fun a hF=>q_k hF hc2 fun a hF=>q_y (v:=(.bool true)) hF hS (ex_pick_t rfl rfl hc2) fun a hF=>q_end (n_jn ?_)
   obtain rfl:=someI hj1
   exact ⟨hF.sub ⟨rfl,rfl,rfl,rfl,rfl,rfl,trivial⟩,hS⟩
 ·rintro a w ⟨hF,hS⟩
  refine n_sq ?_
  rcases bcase (t_7) with hc3 | hc3
  ·have hr:=cond_f hc3 hr
   refine q_cond_f hF rfl hc3 (q_skipc (n_sq (q_seq (q_sr (q_m hF rfl fun a hF=>q_y (v:=(pP b4 0)) hF hS (ex_fieldAddr U27 rfl sz23 rfl rfl) fun a hF=>q_y (v:=s3.v) hF hS (ex_load1 0 0 U23 rfl rfl rfl rfl) fun a hF=>q_m hF rfl fun a hF=>?_)))))
   obtain ⟨t_8,ht_8,hr⟩:=bindS hr
   refine q_call (vs:=[s1.v,s3.v,s2.v]) hF hS Tryz.func41 (by kernel_rfl) rfl rfl rfl (c_spec_vInput p_x p_plan.Pattern p_primary t_8 ht_8 _ m hS.vis s1 h1 s3 h3 s2 h2) ?_
   rintro a w _ rfl hF hS
   refine q_y (v:=(.bool (!t_8))) hF hS (ex_not rfl) fun a hF=>q_end (n_sq ?_)
   rcases bcase (!t_8) with hc4 | hc4
   ·have hr:=cond_f hc4 hr
    refine q_cond_f hF rfl hc4 (q_skipc (n_sq (q_seq (q_sr (q_m hF rfl fun a hF=>q_y (v:=(pP b4 0)) hF hS (ex_fieldAddr U27 rfl sz23 rfl rfl) fun a hF=>q_y (v:=s3.v) hF hS (ex_load1 0 0 U23 rfl rfl rfl rfl) fun a hF=>q_m hF rfl fun a hF=>q_m hF rfl fun a hF=>q_m hF rfl fun a hF=>?_)))))
    obtain ⟨t_9,ht_9,hr⟩:=bindS hr
    refine q_call (vs:=[s1.v,s3.v,s2.v,(iV p_down),(iV p_up)]) hF hS Tryz.func34 (by kernel_rfl) rfl rfl rfl (c_spec_vSafe p_x p_plan.Pattern p_primary p_down p_up t_9 ht_9 _ m hS.vis s1 h1 s3 h3 s2 h2) ?_
    rintro a w _ rfl hF hS
    refine q_y (v:=(.bool (!t_9))) hF hS (ex_not rfl) fun a hF=>q_end (n_sq ?_)
    rcases bcase (!t_9) with hc5 | hc5
    ·have hr:=cond_f hc5 hr
     refine q_cond_f hF rfl hc5 (q_skipc (n_sq (q_sr (q_m hF rfl fun a hF=>q_m hF rfl fun a hF=>q_y (v:=(pP b4 0)) hF hS (ex_fieldAddr U27 rfl sz23 rfl rfl) fun a hF=>q_y (v:=s3.v) hF hS (ex_load1 0 0 U23 rfl rfl rfl rfl) fun a hF=>?_))))
     obtain ⟨t_10,ht_10,hr⟩:=bindS hr
     refine q_call (vs:=[s1.v,s2.v,s3.v]) hF hS Tryz.func42 (by kernel_rfl) rfl rfl rfl (c_spec_vPlan p_x p_primary p_plan.Pattern t_10 ht_10 _ m hS.vis s1 h1 s2 h2 s3 h3) ?_
     rintro a w _ ⟨q12,s12,rfl,hR11,h12⟩ hF hS2
     have hS : St _ _ _ _ [q12,[⟨b4,[s3.v,(iV p_plan.Added),(iV p_plan.Value)],27⟩]]:=hS.joinF hR11
     refine q_alloc (cs:=[nilS.v,(iV 0),(iV 0)]) hF hS rfl rfl rfl fun a w b13 hF hS=>q_store (vs:=[s12.v,(iV t_10.Added),(iV t_10.Value)]) (cs':=[s12.v,(iV t_10.Added),(iV t_10.Value)]) 0 0 hF hS sz27 rfl rfl rfl rfl rfl rfl rfl rfl fun a w hF hS=>q_end (n_sq (q_seq (q_seq ?_)))
     obtain ⟨t_14,hj6,hr⟩:=bindS hr
     refine q_join (fun a w=>Fr a 54 [(53,(.bool t_14))]∧St [] w0 w m []) ?_ ?_
     ·refine q_region (q_y (v:=(pP b13 1)) hF hS (ex_fieldAddr U27 rfl sz3 rfl rfl) fun a hF=>q_y (v:=(iV t_10.Added)) hF hS (ex_load1 0 0 U3 rfl rfl rfl rfl) fun a hF=>q_y (v:=(pP b4 1)) hF hS (ex_fieldAddr U27 rfl sz3 rfl rfl) fun a hF=>q_y (v:=(iV p_plan.Added)) hF hS (ex_load1 2 0 U3 rfl rfl rfl rfl) fun a hF=>q_y (v:=(.bool (t_10.Added != p_plan.Added))) hF hS (ex_ibin rfl rfl rfl) fun a hF=>q_m hF rfl fun a hF=>?_)
      rcases bcase (t_10.Added != p_plan.Added) with hc7 | hc7
      ·have hj6:=cond_f hc7 hj6
       refine q_g (v:=(pP b13 2)) hF hS (ex_fieldAddr U27 rfl sz3 rfl rfl) hc7 fun a hF=>q_g (v:=(iV t_10.Value)) hF hS (ex_load1 0 0 U3 rfl rfl rfl rfl) hc7 fun a hF=>q_g (v:=(pP b4 2)) hF hS (ex_fieldAddr U27 rfl sz3 rfl rfl) hc7 fun a hF=>q_g (v:=(iV p_plan.Value)) hF hS (ex_load1 2 0 U3 rfl rfl rfl rfl) hc7 fun a hF=>q_g (v:=(.bool (t_10.Value != p_plan.Value))) hF hS (ex_ibin rfl rfl rfl) hc7 fun a hF=>q_y (v:=(.bool (t_10.Value != p_plan.Value))) hF hS (ex_pick_f rfl rfl hc7) fun a hF=>q_end (n_jn ?_)
       obtain rfl:=someI hj6
       exact ⟨hF.sub ⟨rfl,trivial⟩,hS.mask [false,false,false]⟩
      ·have hj6:=cond_t hc7 hj6
       refine q_k hF hc7 fun a hF=>q_k hF hc7 fun a hF=>q_k hF hc7 fun a hF=>q_k hF hc7 fun a hF=>q_k hF hc7 fun a hF=>q_y (v:=(.bool true)) hF hS (ex_pick_t rfl rfl hc7) fun a hF=>q_end (n_jn ?_)
       obtain rfl:=someI hj6
       exact ⟨hF.sub ⟨rfl,trivial⟩,hS.mask [false,false,false]⟩
     ·rintro a w ⟨hF,hS⟩
      refine n_sq ?_
      rcases bcase (t_14) with hc8 | hc8
      ·have hr:=cond_f hc8 hr
       refine q_cond_f hF rfl hc8 (q_skipc (n_sq (q_sr (q_s hF rfl fun a hF=>q_s hF rfl fun a hF=>q_end (n_sq (q_ret ?_))))))
       obtain rfl:=someI hr
       exact ret_of hF hS rfl (.tmp rfl (.tmp rfl .nil)) rfl
      ·have hr:=cond_t hc8 hr
       refine q_cond_t hF rfl hc8 (q_sr (q_s hF rfl fun a hF=>q_s hF rfl fun a hF=>q_end (n_sq (q_ret (r_sq ?_)))))
       obtain rfl:=someI hr
       exact ret_of hF hS rfl (.tmp rfl (.tmp rfl .nil)) rfl
    ·have hr:=cond_t hc5 hr
     refine q_cond_t hF rfl hc5 (q_sr (q_s hF rfl fun a hF=>q_s hF rfl fun a hF=>q_end (n_sq (q_ret (r_sq ?_)))))
     obtain rfl:=someI hr
     exact ret_of hF hS rfl (.tmp rfl (.tmp rfl .nil)) rfl
   ·have hr:=cond_t hc4 hr
    refine q_cond_t hF rfl hc4 (q_sr (q_s hF rfl fun a hF=>q_s hF rfl fun a hF=>q_end (n_sq (q_ret (r_sq ?_)))))
    obtain rfl:=someI hr
    exact ret_of hF hS rfl (.tmp rfl (.tmp rfl .nil)) rfl
  ·have hr:=cond_t hc3 hr
   refine q_cond_t hF rfl hc3 (q_sr (q_s hF rfl fun a hF=>q_s hF rfl fun a hF=>q_end (n_sq (q_ret (r_sq ?_)))))
   obtain rfl:=someI hr
   exact ret_of hF hS rfl (.tmp rfl (.tmp rfl .nil)) rfl

theorem c_laws_qInts (p_a : List Int) (p_b : List Int) (r : Bool) (hr : laws_qInts p_a p_b = some r) (w0 : World) (m : Mem) (hv : Vis m w0) (s1 : Sl) (h1 : Rd m s1 p_a) (s2 : Sl) (h2 : Rd m s2 p_b) :
  Ret Tryz.prog 43 [s1.v,s2.v] w0 (fun v _=>v = (.bool r)):=by
 unfold laws_qInts at hr
 refine ret_start Tryz.func43 rfl 26 rfl rfl m hv fun a hF hS=>q_sr (q_s hF rfl fun a hF=>q_end (n_sq (q_seq (q_sr (q_m hF rfl fun a hF=>q_y (v:=(iV (goLen p_a))) hF hS (ex_len U48 rfl h1.len) fun a hF=>q_m hF rfl fun a hF=>q_y (v:=(iV (goLen p_b))) hF hS (ex_len U48 rfl h2.len) fun a hF=>q_y (v:=(.bool ((goLen p_a) != (goLen p_b)))) hF hS (ex_ibin rfl rfl rfl) fun a hF=>q_end (n_sq ?_))))))
 rcases bcase ((goLen p_a) != (goLen p_b)) with hc1 | hc1
 ·have hr:=cond_f hc1 hr
  refine q_cond_f hF rfl hc1 (q_skipc (n_sq (q_seq (q_sr (q_m hF rfl fun a hF=>q_y (v:=(iV (goLen p_a))) hF hS (ex_len U48 rfl h1.len) fun a hF=>q_m hF rfl fun a hF=>q_end (n_sq (q_block ?_)))))))
  obtain ⟨o2,hl2,hr⟩:=bindS hr
  refine q_loop (fun (t_3 : Int) a w=>Fr a 26 [(0,s1.v),(1,s2.v),(12,(iV (goLen p_a))),(13,(iV t_3))]∧St [] w0 w m []) (fun (o : (Unit) ⊕ (Bool)) e a w=>o = .inl ()∧e = .exit 0∧Fr a 26 []∧St [] w0 w m []) hl2 ⟨hF.sub ⟨rfl,rfl,rfl,rfl,trivial⟩,hS⟩ ?_ ?_
  ·clear hF hS
   rintro t_3 a w st ⟨hF,hS⟩ hb2
   unfold laws_qInts_l1 at hb2
   refine q_sr (q_y (v:=(.bool (decide (t_3 < (goLen p_a))))) hF hS (ex_ibin rfl rfl rfl) fun a hF=>q_end (n_sq (q_seq ?_)))
   rcases bcase (decide (t_3 < (goLen p_a))) with hc3 | hc3
   ·have hb2:=cond_f hc3 hb2
    refine q_cond_f hF rfl hc3 (q_exit (x_sq ?_))
    obtain rfl:=someI hb2
    exact ⟨nofun,.inl ⟨rfl,rfl,hF.sub trivial,hS⟩⟩
   ·have hb2:=cond_t hc3 hb2
    refine q_cond_t hF rfl hc3 (q_skipc (n_sq (q_seq (q_block (q_sr (q_m hF rfl fun a hF=>q_s hF rfl fun a hF=>q_end (n_sq (q_seq (e_region ⟨[],[],m⟩ mixed fun w' hw'=>?_)))))))))
    have hS:=hS.below hw'
    refine e_P (v:=s1.v) 0 hF rfl (ex_move rfl) fun a hF=>e_P (v:=(iV t_3)) 1 hF rfl (ex_move rfl) fun a hF=>?_
    obtain ⟨e_4,he_4,hb2⟩:=bindS hb2
    obtain ⟨vs5,at5,d5⟩:=h1.at he_4 1 rfl
    obtain rfl : vs5 = [(iV e_4)]:=d5
    refine e_P (v:=(elP s1 (t_3.toNat * 1))) 2 hF rfl (ex_indexAddr U48 sz3 rfl rfl (h1.idx he_4)) fun a hF=>e_xm (v:=(iV e_4)) 3 hF hS (Mem.le.refl _) rfl (ex_loadE1 0 U3 rfl rfl ((at5).at) rfl rfl) rfl rfl (by kernel_rfl) (by kernel_rfl) (by kernel_rfl) fun a hF=>e_P (v:=s2.v) 4 hF rfl (ex_move rfl) fun a hF=>e_P (v:=(iV t_3)) 5 hF rfl (ex_move rfl) fun a hF=>?_
    obtain ⟨e_6,he_6,hb2⟩:=bindS hb2
    obtain ⟨vs7,at7,d7⟩:=h2.at he_6 1 rfl
    obtain rfl : vs7 = [(iV e_6)]:=d7
    refine e_P (v:=(elP s2 (t_3.toNat * 1))) 6 hF rfl (ex_indexAddr U48 sz3 rfl rfl (h2.idx he_6)) fun a hF=>e_xm (v:=(iV e_6)) 7 hF hS (Mem.le.refl _) rfl (ex_loadE1 0 U3 rfl rfl ((at7).at) rfl rfl) rfl rfl (by kernel_rfl) (by kernel_rfl) (by kernel_rfl) fun a hF=>e_P (v:=(.bool (e_4 != e_6))) 8 hF rfl (ex_ibin rfl rfl rfl) fun a hF=>e_end (by kernel_rfl) (n_sq ?_) _
    rcases bcase (e_4 != e_6) with hc4 | hc4
    ·have hb2:=cond_f hc4 hb2
     refine q_cond_f hF rfl hc4 (q_skipc (n_ib (n_sq (q_region (q_y (v:=(iV (w64 (t_3 + 1)))) hF hS (ex_ibin rfl rfl rfl) fun a hF=>q_m hF rfl fun a hF=>q_end ?_)))))
     obtain rfl:=someI hb2
     exact ⟨rfl,hF.sub ⟨rfl,rfl,rfl,rfl,trivial⟩,hS⟩
    ·have hb2:=cond_t hc4 hb2
     refine q_cond_t hF rfl hc4 (q_sr (q_s hF rfl fun a hF=>q_end (n_sq (q_ret (r_ib (r_sq ?_))))))
     obtain rfl:=someI hb2
     refine ⟨nofun,.inr fun ho=>?_⟩
     subst ho
     refine r_ib (r_sq ?_)
     obtain rfl:=someI hr
     exact ret_of hF hS rfl (.tmp rfl .nil) rfl
  ·rintro e a w ⟨rfl,rfl,hF,hS⟩
   refine x_ib (n_sq ?_)
   refine q_sr (q_s hF rfl fun a hF=>q_end (n_sq (q_ret ?_)))
   obtain rfl:=someI hr
   exact ret_of hF hS rfl (.tmp rfl .nil) rfl
 ·have hr:=cond_t hc1 hr
  refine q_cond_t hF rfl hc1 (q_sr (q_s hF rfl fun a hF=>q_end (n_sq (q_ret (r_sq ?_)))))
  obtain rfl:=someI hr
  exact ret_of hF hS rfl (.tmp rfl .nil) rfl

theorem c_laws_qLists (p_a : List (List Int)) (p_b : List (List Int)) (r : Bool) (hr : laws_qLists p_a p_b = some r) (w0 : World) (m : Mem) (hv : Vis m w0) (s1 : Sl) (h1 : Rd m s1 p_a) (s2 : Sl) (h2 : Rd m s2 p_b) :
  Ret Tryz.prog 10 [s1.v,s2.v] w0 (fun v _=>v = (.bool r)):=by
 unfold laws_qLists at hr
 refine ret_start Tryz.func10 rfl 27 rfl rfl m hv fun a hF hS=>q_sr (q_s hF rfl fun a hF=>q_end (n_sq (q_seq (q_sr (q_m hF rfl fun a hF=>q_y (v:=(iV (goLen p_a))) hF hS (ex_len U23 rfl h1.len) fun a hF=>q_m hF rfl fun a hF=>q_y (v:=(iV (goLen p_b))) hF hS (ex_len U23 rfl h2.len) fun a hF=>q_y (v:=(.bool ((goLen p_a) != (goLen p_b)))) hF hS (ex_ibin rfl rfl rfl) fun a hF=>q_end (n_sq ?_))))))
 rcases bcase ((goLen p_a) != (goLen p_b)) with hc1 | hc1
 ·have hr:=cond_f hc1 hr
  refine q_cond_f hF rfl hc1 (q_skipc (n_sq (q_seq (q_sr (q_m hF rfl fun a hF=>q_y (v:=(iV (goLen p_a))) hF hS (ex_len U23 rfl h1.len) fun a hF=>q_m hF rfl fun a hF=>q_end (n_sq (q_block ?_)))))))
  obtain ⟨o2,hl2,hr⟩:=bindS hr
  refine q_loop (fun (t_3 : Int) a w=>Fr a 27 [(0,s1.v),(1,s2.v),(12,(iV (goLen p_a))),(13,(iV t_3))]∧St [] w0 w m []) (fun (o : (Unit) ⊕ (Bool)) e a w=>o = .inl ()∧e = .exit 0∧Fr a 27 []∧St [] w0 w m []) hl2 ⟨hF.sub ⟨rfl,rfl,rfl,rfl,trivial⟩,hS⟩ ?_ ?_
  ·clear hF hS
   rintro t_3 a w st ⟨hF,hS⟩ hb2
   unfold laws_qLists_l1 at hb2
   refine q_sr (q_y (v:=(.bool (decide (t_3 < (goLen p_a))))) hF hS (ex_ibin rfl rfl rfl) fun a hF=>q_end (n_sq (q_seq ?_)))
   rcases bcase (decide (t_3 < (goLen p_a))) with hc3 | hc3
   ·have hb2:=cond_f hc3 hb2
    refine q_cond_f hF rfl hc3 (q_exit (x_sq ?_))
    obtain rfl:=someI hb2
    exact ⟨nofun,.inl ⟨rfl,rfl,hF.sub trivial,hS⟩⟩
   ·have hb2:=cond_t hc3 hb2
    refine q_cond_t hF rfl hc3 (q_skipc (n_sq (q_seq (q_block (q_sr (q_m hF rfl fun a hF=>q_s hF rfl fun a hF=>q_end (n_sq (q_seq (e_region ⟨[],[],m⟩ mixed fun w' hw'=>?_)))))))))
    have hS:=hS.below hw'
    refine e_P (v:=s1.v) 0 hF rfl (ex_move rfl) fun a hF=>e_P (v:=(iV t_3)) 1 hF rfl (ex_move rfl) fun a hF=>?_
    obtain ⟨e_4,he_4,hb2⟩:=bindS hb2
    obtain ⟨vs5,at5,d5⟩:=h1.at he_4 1 rfl
    obtain ⟨s6,rfl,h6⟩ : ∃ s6 : Sl,vs5 = [s6.v]∧Rd m s6 e_4:=d5
    refine e_P (v:=(elP s1 (t_3.toNat * 1))) 2 hF rfl (ex_indexAddr U23 sz48 rfl rfl (h1.idx he_4)) fun a hF=>e_xm (v:=s6.v) 3 hF hS (Mem.le.refl _) rfl (ex_loadE1 0 U48 rfl rfl ((at5).at) rfl rfl) rfl rfl (by kernel_rfl) (by kernel_rfl) (by kernel_rfl) fun a hF=>e_P (v:=s2.v) 4 hF rfl (ex_move rfl) fun a hF=>e_P (v:=(iV t_3)) 5 hF rfl (ex_move rfl) fun a hF=>?_
    obtain ⟨e_7,he_7,hb2⟩:=bindS hb2
    obtain ⟨vs8,at8,d8⟩:=h2.at he_7 1 rfl
    obtain ⟨s9,rfl,h9⟩ : ∃ s9 : Sl,vs8 = [s9.v]∧Rd m s9 e_7:=d8
    refine e_P (v:=(elP s2 (t_3.toNat * 1))) 6 hF rfl (ex_indexAddr U23 sz48 rfl rfl (h2.idx he_7)) fun a hF=>e_xm (v:=s9.v) 7 hF hS (Mem.le.refl _) rfl (ex_loadE1 0 U48 rfl rfl ((at8).at) rfl rfl) rfl rfl (by kernel_rfl) (by kernel_rfl) (by kernel_rfl) fun a hF=>e_one 8 (by kernel_rfl) ?_
    obtain ⟨t_10,ht_10,hb2⟩:=bindS hb2
    refine e_call (vs:=[s6.v,s9.v]) hF hS rfl Tryz.func43 (by kernel_rfl) rfl rfl rfl (c_laws_qInts e_4 e_7 t_10 ht_10 _ m hS.vis s6 h6 s9 h9) ?_
    rintro a w _ rfl hF hS
    refine e_P (v:=(.bool (!t_10))) 9 hF rfl (ex_not rfl) fun a hF=>e_end (by kernel_rfl) (n_sq ?_) _
    rcases bcase (!t_10) with hc4 | hc4
    ·have hb2:=cond_f hc4 hb2
     refine q_cond_f hF rfl hc4 (q_skipc (n_ib (n_sq (q_region (q_y (v:=(iV (w64 (t_3 + 1)))) hF hS (ex_ibin rfl rfl rfl) fun a hF=>q_m hF rfl fun a hF=>q_end ?_)))))
     obtain rfl:=someI hb2
     exact ⟨rfl,hF.sub ⟨rfl,rfl,rfl,rfl,trivial⟩,hS⟩
    ·have hb2:=cond_t hc4 hb2
     refine q_cond_t hF rfl hc4 (q_sr (q_s hF rfl fun a hF=>q_end (n_sq (q_ret (r_ib (r_sq ?_))))))
     obtain rfl:=someI hb2
     refine ⟨nofun,.inr fun ho=>?_⟩
     subst ho
     refine r_ib (r_sq ?_)
     obtain rfl:=someI hr
     exact ret_of hF hS rfl (.tmp rfl .nil) rfl
  ·rintro e a w ⟨rfl,rfl,hF,hS⟩
   refine x_ib (n_sq ?_)
   refine q_sr (q_s hF rfl fun a hF=>q_end (n_sq (q_ret ?_)))
   obtain rfl:=someI hr
   exact ret_of hF hS rfl (.tmp rfl .nil) rfl
 ·have hr:=cond_t hc1 hr
  refine q_cond_t hF rfl hc1 (q_sr (q_s hF rfl fun a hF=>q_end (n_sq (q_ret (r_sq ?_)))))
  obtain rfl:=someI hr
  exact ret_of hF hS rfl (.tmp rfl .nil) rfl

theorem c_impl_unprotected (p_x : List (List Int)) (p_p : List (List Int)) (p_primary : List (List Int)) (p_down : Int) (p_up : Int) (r : (List (List Int))) (hr : impl_unprotected p_x p_p p_primary p_down p_up = some r) (w0 : World) (m : Mem) (hv : Vis m w0) (s1 : Sl) (h1 : Rd m s1 p_x) (s2 : Sl) (h2 : Rd m s2 p_p) (s3 : Sl) (h3 : Rd m s3 p_primary) :
  Ret Tryz.prog 45 [s1.v,s2.v,s3.v,(iV p_down),(iV p_up)] w0 (fun v w=>∃ (m' : Mem) (q0' : Piece) (s0' : Sl),v = s0'.v∧MLe [] w0.heap.size m m'∧St [] w0 w m' [q0']∧OwnL m' 48 q0' s0' r):=by
 unfold impl_unprotected at hr
 refine ret_start Tryz.func45 rfl 43 rfl rfl m hv fun a hF hS=>q_sr (q_s hF rfl fun a hF=>q_end (n_sq (q_sr (q_m hF rfl fun a hF=>q_m hF rfl fun a hF=>?_))))
 obtain ⟨t_4,ht_4,hr⟩:=bindS hr
 refine q_call (vs:=[s1.v,s2.v]) hF hS Tryz.func56 (by kernel_rfl) rfl rfl rfl (c_impl_attackNetwork p_x p_p t_4 ht_4 _ m hS.vis s1 h1 s2 h2) ?_
 rintro a w _ ⟨q6,q7,q8,q9,s6,s7,s8,s9,rfl,hR5,h6,h7,h8,h9⟩ hF hS2
 have hS : St _ _ _ _ [q6,q7,q8,q9]:=hS.joinF hR5
 refine q_alloc (cs:=[nilS.v,nilS.v,nilS.v,nilS.v]) hF hS rfl rfl rfl fun a w b10 hF hS=>q_store (vs:=[s6.v,s7.v,s8.v,s9.v]) (cs':=[s6.v,s7.v,s8.v,s9.v]) 0 0 hF hS sz76 rfl rfl rfl rfl rfl rfl rfl rfl fun a w hF hS=>q_end (n_sq (q_sr (q_s hF rfl fun a hF=>q_end (n_sq (q_seq (q_sr (q_m hF rfl fun a hF=>?_)))))))
 obtain ⟨t_11,ht_11,hr⟩:=bindS hr
 refine q_call (vs:=[s3.v]) hF hS Tryz.func40 (by kernel_rfl) rfl rfl rfl (c_impl_positions p_primary t_11 ht_11 _ m hS.vis s3 h3) ?_
 have hT:=hS
 rintro a w _ ⟨m12,q13,s13,rfl,hm12,hR12,h13⟩ hF hS2
 have hS : St _ _ _ _ [q13,[⟨b10,[s6.v,s7.v,s8.v,s9.v],76⟩],q6,q7,q8,q9]:=hS.join hR12 hm12
 have hm12:=MLe.weakX (O0:=[]) hT hm12
 refine q_y (v:=(iV (goLen t_11))) hF hS (ex_len U23 rfl h13.len) fun a hF=>q_m hF rfl fun a hF=>q_end (n_sq (q_block ?_))
 obtain ⟨out_31,hl1,hr⟩:=bindS hr
 refine q_loop (fun (s : (List (List Int)) × Int) a w=>∃ (q15 : Piece),∃ (s15 : Sl),∃ out_14,∃ t_16,s = (out_14,t_16)∧Fr a 43 [(0,s1.v),(3,(iV p_down)),(4,(iV p_up)),(11,(pP b10 0)),(12,s15.v),(19,s13.v),(20,(iV (goLen t_11))),(21,(iV t_16))]∧St [] w0 w m12 [q15,q13,[⟨b10,[s6.v,s7.v,s8.v,s9.v],76⟩],q6,q7,q8,q9]∧OwnL m12 48 q15 s15 out_14) (fun (out_31 : (List (List Int))) e a w=>∃ (q32 : Piece),∃ (s32 : Sl),e = .exit 0∧Fr a 43 [(12,s32.v)]∧St [] w0 w m12 [q32]∧OwnL m12 48 q32 s32 out_31) hl1 ⟨[],nilS,_,_,rfl,hF.sub ⟨rfl,rfl,rfl,rfl,rfl,rfl,rfl,rfl,trivial⟩,hS.sel [6,0,1,2,3,4,5] (by decide),(OwnL.nil (α:=List Int) m12 48)⟩ ?_ ?_
 ·clear hF hS
  rintro s a w st ⟨q15,s15,out_14,t_16,rfl,hF,hS,h15⟩ hb1
  unfold impl_unprotected_l1 at hb1
  refine q_sr (q_y (v:=(.bool (decide (t_16 < (goLen t_11))))) hF hS (ex_ibin rfl rfl rfl) fun a hF=>q_end (n_sq (q_seq ?_)))
  rcases bcase (decide (t_16 < (goLen t_11))) with hc2 | hc2
  ·have hb1:=cond_f hc2 hb1
   refine q_cond_f hF rfl hc2 (q_exit (x_sq ?_))
   obtain rfl:=someI hb1
   exact ⟨nofun,.inl ⟨q15,s15,rfl,hF.sub ⟨rfl,trivial⟩,hS.mask [true,false,false,false,false,false,false],h15⟩⟩
  ·have hb1:=cond_t hc2 hb1
   refine q_cond_t hF rfl hc2 (q_skipc (n_sq (q_seq (q_block (q_seq (q_region ?_))))))
   obtain ⟨e_17,he_17,hb1⟩:=bindS hb1
   obtain ⟨vs18,at18,d18⟩:=h13.at he_17 1 rfl
   obtain ⟨s19,rfl,h19⟩ : ∃ s19 : Sl,vs18 = [s19.v]∧Rd m12 s19 e_17:=d18
   refine q_y (v:=(elP s13 (t_16.toNat * 1))) hF hS (ex_indexAddr U23 sz48 rfl rfl (h13.idx he_17)) fun a hF=>q_y (v:=s19.v) hF hS (ex_loadE1 0 U48 rfl rfl (at18.at 1 rfl) rfl rfl) fun a hF=>q_s hF rfl fun a hF=>q_end (n_sq (q_seq (e_region ⟨[],[],m12⟩ mixed fun w' hw'=>?_)))
   have hS:=hS.below hw'
   refine e_X (v:=(.agg #[s6.v,s7.v,s8.v,s9.v])) 0 hF hS rfl (ex_loadA (vs:=[s6.v,s7.v,s8.v,s9.v]) 2 0 U76 rfl sz76 rfl rfl rfl rfl) fun a hF=>e_P (v:=s1.v) 1 hF rfl (ex_move rfl) fun a hF=>e_P (v:=s19.v) 2 hF rfl (ex_move rfl) fun a hF=>?_
   obtain ⟨e_20,he_20,hb1⟩:=bindS hb1
   obtain ⟨vs21,at21,d21⟩:=h19.at he_20 1 rfl
   obtain rfl : vs21 = [(iV e_20)]:=d21
   refine e_P (v:=(elP s19 ((0 : Int).toNat * 1))) 3 hF rfl (ex_indexAddr U48 sz3 rfl rfl (h19.idx he_20)) fun a hF=>e_xm (v:=(iV e_20)) 4 hF hS (Mem.le.refl _) rfl (ex_loadE1 0 U3 rfl rfl ((at21).at) rfl rfl) rfl rfl (by kernel_rfl) (by kernel_rfl) (by kernel_rfl) fun a hF=>e_P (v:=s19.v) 5 hF rfl (ex_move rfl) fun a hF=>?_
   obtain ⟨e_22,he_22,hb1⟩:=bindS hb1
   obtain ⟨vs23,at23,d23⟩:=h19.at he_22 1 rfl
   obtain rfl : vs23 = [(iV e_22)]:=d23
   refine e_P (v:=(elP s19 ((1 : Int).toNat * 1))) 6 hF rfl (ex_indexAddr U48 sz3 rfl rfl (h19.idx he_22)) fun a hF=>e_xm (v:=(iV e_22)) 7 hF hS (Mem.le.refl _) rfl (ex_loadE1 0 U3 rfl rfl ((at23).at) rfl rfl) rfl rfl (by kernel_rfl) (by kernel_rfl) (by kernel_rfl) fun a hF=>e_P (v:=(iV p_down)) 8 hF rfl (ex_move rfl) fun a hF=>e_P (v:=(iV p_up)) 9 hF rfl (ex_move rfl) fun a hF=>e_one 10 (by kernel_rfl) ?_
   obtain ⟨m25,hl25,hv25,hz25⟩:=hS.lend
   obtain ⟨t_24,ht_24,hb1⟩:=bindS hb1
   refine e_call (vs:=[(.agg #[s6.v,s7.v,s8.v,s9.v]),s1.v,(iV e_20),(iV e_22),(iV p_down),(iV p_up)]) hF hS rfl Tryz.func57 (by kernel_rfl) rfl rfl rfl (c_impl_isProtected t_4 p_x e_20 e_22 p_down p_up t_24 ht_24 _ m25 hv25 s6 ((h6.mono hm12.le).froz hl25 (hz25 3 _ rfl)) s7 ((h7.mono hm12.le).froz hl25 (hz25 4 _ rfl)) s8 ((h8.mono hm12.le).froz hl25 (hz25 5 _ rfl)) s9 ((h9.mono hm12.le).froz hl25 (hz25 6 _ rfl)) s1 ((h1.mono hm12.le).mono hl25)) ?_
   rintro a w _ rfl hF hS
   refine e_P (v:=(.bool (!t_24))) 11 hF rfl (ex_not rfl) fun a hF=>e_end (by kernel_rfl) (n_sq ?_) _
   obtain ⟨out_29,hj3,hb1⟩:=bindS hb1
   refine q_join (fun a w=>∃ (q30 : Piece),∃ (s30 : Sl),Fr a 43 [(0,s1.v),(3,(iV p_down)),(4,(iV p_up)),(11,(pP b10 0)),(12,s30.v),(19,s13.v),(20,(iV (goLen t_11))),(21,(iV t_16))]∧St [] w0 w m12 [q30,q13,q6,q7,q8,q9,[⟨b10,[s6.v,s7.v,s8.v,s9.v],76⟩]]∧OwnL m12 48 q30 s30 out_29) ?_ ?_
   ·rcases bcase (!t_24) with hc4 | hc4
    ·have hj3:=cond_f hc4 hj3
     refine q_cond_f hF rfl hc4 (q_skipc (n_jn ?_))
     obtain rfl:=someI hj3
     exact ⟨q15,s15,hF.sub ⟨rfl,rfl,rfl,rfl,rfl,rfl,rfl,rfl,trivial⟩,hS.sel [0,1,3,4,5,6,2] (by decide),h15⟩
    ·have hj3:=cond_t hc4 hj3
     refine q_cond_t hF rfl hc4 (q_region (q_m hF rfl fun a hF=>q_m hF rfl fun a hF=>q_do rfl fun _ hK=>wp_buildSlice' (l:=([e_17] : List (List Int))) (cells:=[s19.v]) hF hS U23 inf48 rfl rfl (by kernel_rfl) rfl rfl rfl ⟨⟨s19,rfl,h19⟩,rfl⟩ rfl rfl fun a w q26 s26 hF hS h26 _=>hK _ _ ?_))
     have hS : St _ _ _ _ [q15,q26,q13,[⟨b10,[s6.v,s7.v,s8.v,s9.v],76⟩],q6,q7,q8,q9]:=hS.sel [1,0,2,3,4,5,6,7] (by decide)
     obtain ⟨l_27,hl_27,hj3⟩:=bindS hj3
     refine q_do rfl fun _ hK=>wp_append hF hS h15 U23 inf48 rfl rfl rfl rfl (h26.vw hS (j:=1) rfl) rfl (by decide) hl_27 rfl fun a w q28 s28 hF hS h28=>hK _ _ (q_s hF rfl fun a hF=>q_end (n_jn ?_))
     obtain rfl:=someI hj3
     exact ⟨q28,s28,hF.sub ⟨rfl,rfl,rfl,rfl,rfl,rfl,rfl,rfl,trivial⟩,hS.sel [0,2,4,5,6,7,3] (by decide),h28⟩
   ·rintro a w ⟨q30,s30,hF,hS,h30⟩
    refine n_ib (n_sq ?_)
    refine q_region (q_y (v:=(iV (w64 (t_16 + 1)))) hF hS (ex_ibin rfl rfl rfl) fun a hF=>q_m hF rfl fun a hF=>q_end ?_)
    obtain rfl:=someI hb1
    exact ⟨rfl,q30,s30,_,_,rfl,hF.sub ⟨rfl,rfl,rfl,rfl,rfl,rfl,rfl,rfl,trivial⟩,hS.sel [0,1,6,2,3,4,5] (by decide),h30⟩
 ·rintro e a w ⟨q32,s32,rfl,hF,hS,h32⟩
  refine x_ib (n_sq ?_)
  refine q_sr (q_m hF rfl fun a hF=>q_s hF rfl fun a hF=>q_end (n_sq (q_ret ?_)))
  obtain rfl:=someI hr
  exact ret_of hF hS rfl (.tmp rfl .nil) ⟨m12,q32,s32,rfl,hm12,hS.sel [0] (by decide),h32⟩

theorem c_impl_unprotected_own (p_x : List (List Int)) (p_p : List (List Int)) (p_primary : List (List Int)) (p_down : Int) (p_up : Int) (r : (List (List Int))) (hr : impl_unprotected_own p_x p_p p_primary p_down p_up = some r) (w0 : World) (m : Mem) (s1 : Sl) (h1 : Rd m s1 p_x) (s2 : Sl) (q2 : Piece) (h2 : OwnD m 48 3 q2 s2 p_p) (s3 : Sl) (h3 : Rd m s3 p_primary) (X : List Nat) (hS : St X w0 w0 m [q2]) :
  RetX Tryz.prog 45 [s1.v,s2.v,s3.v,(iV p_down),(iV p_up)] w0 (fun v w=>∃ (m' : Mem) (q0' : Piece) (s0' : Sl),v = s0'.v∧MLe X w0.heap.size m m'∧St X w0 w m' [q2,q0']∧OwnL m' 48 q0' s0' r):=by
 unfold impl_unprotected_own at hr
 refine ret_startX Tryz.func45 rfl 43 rfl rfl fun a hF=>q_sr (q_s hF rfl fun a hF=>q_end (n_sq (q_sr (q_m hF rfl fun a hF=>q_m hF rfl fun a hF=>?_))))
 obtain ⟨m5,hl5,hv5,hz5⟩:=hS.lend
 obtain ⟨t_4,ht_4,hr⟩:=bindS hr
 refine q_call (vs:=[s1.v,s2.v]) hF hS Tryz.func56 (by kernel_rfl) rfl rfl rfl (c_impl_attackNetwork p_x p_p t_4 ht_4 _ m5 hv5 s1 (h1.mono hl5) s2 (h2.froz hl5 (hz5 0 _ rfl))) ?_
 rintro a w _ ⟨q7,q8,q9,q10,s7,s8,s9,s10,rfl,hR6,h7,h8,h9,h10⟩ hF hS2
 have hS : St _ _ _ _ [q7,q8,q9,q10,q2]:=hS.joinF hR6
 have h7:=h7.any m
 have h8:=h8.any m
 have h9:=h9.any m
 have h10:=h10.any m
 refine q_alloc (cs:=[nilS.v,nilS.v,nilS.v,nilS.v]) hF hS rfl rfl rfl fun a w b11 hF hS=>q_store (vs:=[s7.v,s8.v,s9.v,s10.v]) (cs':=[s7.v,s8.v,s9.v,s10.v]) 0 0 hF hS sz76 rfl rfl rfl rfl rfl rfl rfl rfl fun a w hF hS=>q_end (n_sq (q_sr (q_s hF rfl fun a hF=>q_end (n_sq (q_seq (q_sr (q_m hF rfl fun a hF=>?_)))))))
 obtain ⟨t_12,ht_12,hr⟩:=bindS hr
 refine q_call (vs:=[s3.v]) hF hS Tryz.func40 (by kernel_rfl) rfl rfl rfl (c_impl_positions p_primary t_12 ht_12 _ m hS.vis s3 h3) ?_
 have hT:=hS
 rintro a w _ ⟨m13,q14,s14,rfl,hm13,hR13,h14⟩ hF hS2
 have hS : St _ _ _ _ [q14,[⟨b11,[s7.v,s8.v,s9.v,s10.v],76⟩],q7,q8,q9,q10,q2]:=hS.join hR13 hm13
 have hm13:=MLe.weakX (O0:=[]) hT hm13
 refine q_y (v:=(iV (goLen t_12))) hF hS (ex_len U23 rfl h14.len) fun a hF=>q_m hF rfl fun a hF=>q_end (n_sq (q_block ?_))
 obtain ⟨out_32,hl1,hr⟩:=bindS hr
 refine q_loop (fun (s : (List (List Int)) × Int) a w=>∃ (q16 : Piece),∃ (s16 : Sl),∃ out_15,∃ t_17,s = (out_15,t_17)∧Fr a 43 [(0,s1.v),(3,(iV p_down)),(4,(iV p_up)),(11,(pP b11 0)),(12,s16.v),(19,s14.v),(20,(iV (goLen t_12))),(21,(iV t_17))]∧St X w0 w m13 [q16,q14,[⟨b11,[s7.v,s8.v,s9.v,s10.v],76⟩],q7,q8,q9,q10,q2]∧OwnL m13 48 q16 s16 out_15) (fun (out_32 : (List (List Int))) e a w=>∃ (q33 : Piece),∃ (s33 : Sl),e = .exit 0∧Fr a 43 [(12,s33.v)]∧St X w0 w m13 [q2,q33]∧OwnL m13 48 q33 s33 out_32) hl1 ⟨[],nilS,_,_,rfl,hF.sub ⟨rfl,rfl,rfl,rfl,rfl,rfl,rfl,rfl,trivial⟩,hS.sel [7,0,1,2,3,4,5,6] (by decide),(OwnL.nil (α:=List Int) m13 48)⟩ ?_ ?_
 ·clear hF hS
  rintro s a w st ⟨q16,s16,out_15,t_17,rfl,hF,hS,h16⟩ hb1
  unfold impl_unprotected_own_l1 at hb1
  refine q_sr (q_y (v:=(.bool (decide (t_17 < (goLen t_12))))) hF hS (ex_ibin rfl rfl rfl) fun a hF=>q_end (n_sq (q_seq ?_)))
  rcases bcase (decide (t_17 < (goLen t_12))) with hc2 | hc2
  ·have hb1:=cond_f hc2 hb1
   refine q_cond_f hF rfl hc2 (q_exit (x_sq ?_))
   obtain rfl:=someI hb1
   exact ⟨nofun,.inl ⟨q16,s16,rfl,hF.sub ⟨rfl,trivial⟩,hS.sel [7,0] (by decide),h16⟩⟩
  ·have hb1:=cond_t hc2 hb1
   refine q_cond_t hF rfl hc2 (q_skipc (n_sq (q_seq (q_block (q_seq (q_region ?_))))))
   obtain ⟨e_18,he_18,hb1⟩:=bindS hb1
   obtain ⟨vs19,at19,d19⟩:=h14.at he_18 1 rfl
   obtain ⟨s20,rfl,h20⟩ : ∃ s20 : Sl,vs19 = [s20.v]∧Rd m13 s20 e_18:=d19
   refine q_y (v:=(elP s14 (t_17.toNat * 1))) hF hS (ex_indexAddr U23 sz48 rfl rfl (h14.idx he_18)) fun a hF=>q_y (v:=s20.v) hF hS (ex_loadE1 0 U48 rfl rfl (at19.at 1 rfl) rfl rfl) fun a hF=>q_s hF rfl fun a hF=>q_end (n_sq (q_seq (e_region ⟨[],[],m13⟩ mixed fun w' hw'=>?_)))
   have hS:=hS.below hw'
   refine e_X (v:=(.agg #[s7.v,s8.v,s9.v,s10.v])) 0 hF hS rfl (ex_loadA (vs:=[s7.v,s8.v,s9.v,s10.v]) 2 0 U76 rfl sz76 rfl rfl rfl rfl) fun a hF=>e_P (v:=s1.v) 1 hF rfl (ex_move rfl) fun a hF=>e_P (v:=s20.v) 2 hF rfl (ex_move rfl) fun a hF=>?_
   obtain ⟨e_21,he_21,hb1⟩:=bindS hb1
   obtain ⟨vs22,at22,d22⟩:=h20.at he_21 1 rfl
   obtain rfl : vs22 = [(iV e_21)]:=d22
   refine e_P (v:=(elP s20 ((0 : Int).toNat * 1))) 3 hF rfl (ex_indexAddr U48 sz3 rfl rfl (h20.idx he_21)) fun a hF=>e_xm (v:=(iV e_21)) 4 hF hS (Mem.le.refl _) rfl (ex_loadE1 0 U3 rfl rfl ((at22).at) rfl rfl) rfl rfl (by kernel_rfl) (by kernel_rfl) (by kernel_rfl) fun a hF=>e_P (v:=s20.v) 5 hF rfl (ex_move rfl) fun a hF=>?_
   obtain ⟨e_23,he_23,hb1⟩:=bindS hb1
   obtain ⟨vs24,at24,d24⟩:=h20.at he_23 1 rfl
   obtain rfl : vs24 = [(iV e_23)]:=d24
   refine e_P (v:=(elP s20 ((1 : Int).toNat * 1))) 6 hF rfl (ex_indexAddr U48 sz3 rfl rfl (h20.idx he_23)) fun a hF=>e_xm (v:=(iV e_23)) 7 hF hS (Mem.le.refl _) rfl (ex_loadE1 0 U3 rfl rfl ((at24).at) rfl rfl) rfl rfl (by kernel_rfl) (by kernel_rfl) (by kernel_rfl) fun a hF=>e_P (v:=(iV p_down)) 8 hF rfl (ex_move rfl) fun a hF=>e_P (v:=(iV p_up)) 9 hF rfl (ex_move rfl) fun a hF=>e_one 10 (by kernel_rfl) ?_
   obtain ⟨m26,hl26,hv26,hz26⟩:=hS.lend
   obtain ⟨t_25,ht_25,hb1⟩:=bindS hb1
   refine e_call (vs:=[(.agg #[s7.v,s8.v,s9.v,s10.v]),s1.v,(iV e_21),(iV e_23),(iV p_down),(iV p_up)]) hF hS rfl Tryz.func57 (by kernel_rfl) rfl rfl rfl (c_impl_isProtected t_4 p_x e_21 e_23 p_down p_up t_25 ht_25 _ m26 hv26 s7 ((h7.mono hm13.le).froz hl26 (hz26 3 _ rfl)) s8 ((h8.mono hm13.le).froz hl26 (hz26 4 _ rfl)) s9 ((h9.mono hm13.le).froz hl26 (hz26 5 _ rfl)) s10 ((h10.mono hm13.le).froz hl26 (hz26 6 _ rfl)) s1 ((h1.mono hm13.le).mono hl26)) ?_
   rintro a w _ rfl hF hS
   refine e_P (v:=(.bool (!t_25))) 11 hF rfl (ex_not rfl) fun a hF=>e_end (by kernel_rfl) (n_sq ?_) _
   obtain ⟨out_30,hj3,hb1⟩:=bindS hb1
   refine q_join (fun a w=>∃ (q31 : Piece),∃ (s31 : Sl),Fr a 43 [(0,s1.v),(3,(iV p_down)),(4,(iV p_up)),(11,(pP b11 0)),(12,s31.v),(19,s14.v),(20,(iV (goLen t_12))),(21,(iV t_17))]∧St X w0 w m13 [q2,q31,q14,q7,q8,q9,q10,[⟨b11,[s7.v,s8.v,s9.v,s10.v],76⟩]]∧OwnL m13 48 q31 s31 out_30) ?_ ?_
   ·rcases bcase (!t_25) with hc4 | hc4
    ·have hj3:=cond_f hc4 hj3
     refine q_cond_f hF rfl hc4 (q_skipc (n_jn ?_))
     obtain rfl:=someI hj3
     exact ⟨q16,s16,hF.sub ⟨rfl,rfl,rfl,rfl,rfl,rfl,rfl,rfl,trivial⟩,hS.sel [7,0,1,3,4,5,6,2] (by decide),h16⟩
    ·have hj3:=cond_t hc4 hj3
     refine q_cond_t hF rfl hc4 (q_region (q_m hF rfl fun a hF=>q_m hF rfl fun a hF=>q_do rfl fun _ hK=>wp_buildSlice' (l:=([e_18] : List (List Int))) (cells:=[s20.v]) hF hS U23 inf48 rfl rfl (by kernel_rfl) rfl rfl rfl ⟨⟨s20,rfl,h20⟩,rfl⟩ rfl rfl fun a w q27 s27 hF hS h27 _=>hK _ _ ?_))
     have hS : St _ _ _ _ [q16,q27,q14,[⟨b11,[s7.v,s8.v,s9.v,s10.v],76⟩],q7,q8,q9,q10,q2]:=hS.sel [1,0,2,3,4,5,6,7,8] (by decide)
     obtain ⟨l_28,hl_28,hj3⟩:=bindS hj3
     refine q_do rfl fun _ hK=>wp_append hF hS h16 U23 inf48 rfl rfl rfl rfl (h27.vw hS (j:=1) rfl) rfl (by decide) hl_28 rfl fun a w q29 s29 hF hS h29=>hK _ _ (q_s hF rfl fun a hF=>q_end (n_jn ?_))
     obtain rfl:=someI hj3
     exact ⟨q29,s29,hF.sub ⟨rfl,rfl,rfl,rfl,rfl,rfl,rfl,rfl,trivial⟩,hS.sel [8,0,2,4,5,6,7,3] (by decide),h29⟩
   ·rintro a w ⟨q31,s31,hF,hS,h31⟩
    refine n_ib (n_sq ?_)
    refine q_region (q_y (v:=(iV (w64 (t_17 + 1)))) hF hS (ex_ibin rfl rfl rfl) fun a hF=>q_m hF rfl fun a hF=>q_end ?_)
    obtain rfl:=someI hb1
    exact ⟨rfl,q31,s31,_,_,rfl,hF.sub ⟨rfl,rfl,rfl,rfl,rfl,rfl,rfl,rfl,trivial⟩,hS.sel [1,2,7,3,4,5,6,0] (by decide),h31⟩
 ·rintro e a w ⟨q33,s33,rfl,hF,hS,h33⟩
  refine x_ib (n_sq ?_)
  refine q_sr (q_m hF rfl fun a hF=>q_s hF rfl fun a hF=>q_end (n_sq (q_ret ?_)))
  obtain rfl:=someI hr
  exact ret_ofX hF hS rfl (.tmp rfl .nil) ⟨m13,q33,s33,rfl,hm13,hS.sel [0,1] (by decide),h33⟩

theorem c_impl_freeCells_own (p_p : List (List Int)) (r : (List (List Int))) (hr : impl_freeCells_own p_p = some r) (w0 : World) (m : Mem) (s1 : Sl) (q1 : Piece) (h1 : OwnD m 48 3 q1 s1 p_p) (X : List Nat) (hS : St X w0 w0 m [q1]) :
  RetX Tryz.prog 17 [s1.v] w0 (fun v w=>∃ (m' : Mem) (q0' : Piece) (s0' : Sl),v = s0'.v∧MLe X w0.heap.size m m'∧St X w0 w m' [q1,q0']∧OwnL m' 48 q0' s0' r):=by
 unfold impl_freeCells_own at hr
 refine ret_startX Tryz.func17 rfl 32 rfl rfl fun a hF=>q_sr (q_s hF rfl fun a hF=>q_end (n_sq (q_sr (q_m hF rfl fun a hF=>?_))))
 obtain ⟨m3,hl3,hv3,hz3⟩:=hS.lend
 obtain ⟨t_2,ht_2,hr⟩:=bindS hr
 refine q_call (vs:=[s1.v]) hF hS Tryz.func44 (by kernel_rfl) rfl rfl rfl (c_impl_copyMatrix p_p t_2 ht_2 _ m3 hv3 s1 (h1.froz hl3 (hz3 0 _ rfl))) ?_
 rintro a w _ ⟨q5,s5,rfl,hR4,h5,h5n⟩ hF hS2
 have hS : St _ _ _ _ [q5,q1]:=hS.joinF hR4
 have h5:=h5.any m
 refine q_s hF rfl fun a hF=>q_end (n_sq (q_seq (q_sr (q_m hF rfl fun a hF=>q_y (v:=(iV (goLen t_2))) hF hS (ex_len U23 rfl h5.len) fun a hF=>q_m hF rfl fun a hF=>q_end (n_sq (q_block ?_))))))
 obtain ⟨inverse_23,hl1,hr⟩:=bindS hr
 refine q_loop (fun (s : (List (List Int)) × Int) a w=>∃ (q7 : Piece),∃ inverse_6,∃ t_8,s = (inverse_6,t_8)∧Fr a 32 [(3,s5.v),(9,s5.v),(10,(iV (goLen t_2))),(11,(iV t_8))]∧St X w0 w m [q7,q1]∧OwnD m 48 3 q7 s5 inverse_6) (fun (inverse_23 : (List (List Int))) e a w=>∃ (q24 : Piece),e = .exit 0∧Fr a 32 [(3,s5.v)]∧St X w0 w m [q1,q24]∧OwnD m 48 3 q24 s5 inverse_23) hl1 ⟨q5,_,_,rfl,hF.sub ⟨rfl,rfl,rfl,rfl,trivial⟩,hS,h5⟩ ?_ ?_
 ·clear hF hS
  rintro s a w st ⟨q7,inverse_6,t_8,rfl,hF,hS,h7⟩ hb1
  unfold impl_freeCells_own_l1 at hb1
  refine q_sr (q_y (v:=(.bool (decide (t_8 < (goLen t_2))))) hF hS (ex_ibin rfl rfl rfl) fun a hF=>q_end (n_sq (q_seq ?_)))
  rcases bcase (decide (t_8 < (goLen t_2))) with hc2 | hc2
  ·have hb1:=cond_f hc2 hb1
   refine q_cond_f hF rfl hc2 (q_exit (x_sq ?_))
   obtain rfl:=someI hb1
   exact ⟨nofun,.inl ⟨q7,rfl,hF.sub ⟨rfl,trivial⟩,hS.sel [1,0] (by decide),h7⟩⟩
  ·have hb1:=cond_t hc2 hb1
   refine q_cond_t hF rfl hc2 (q_skipc (n_sq (q_seq (q_block (q_seq (q_region ?_))))))
   obtain ⟨e_9,he_9,hb1⟩:=bindS hb1
   obtain ⟨s10,hV10⟩:=h7.view he_9
   refine q_y (v:=(elP s5 (t_8.toNat * 1))) hF hS (ex_indexAddr U23 sz48 rfl rfl (h7.idx he_9)) fun a hF=>q_y (v:=s10.v) hF hS (ex_loadE1 0 U48 rfl rfl ((hV10.atH he_9).at 0 rfl) rfl rfl) fun a hF=>q_s hF rfl fun a hF=>q_end (n_sq (q_sr (q_m hF rfl fun a hF=>q_y (v:=(iV (goLen e_9))) hF hS (ex_len U48 rfl (hV10.len he_9)) fun a hF=>q_m hF rfl fun a hF=>q_end (n_sq (q_block ?_)))))
   obtain ⟨inverse_21,hl3,hb1⟩:=bindS hb1
   refine q_loop (fun (s : (List (List Int)) × Int × (List Int)) a w=>∃ (q12 : Piece),∃ inverse_11,∃ t_13,∃ row_14,s = (inverse_11,t_13,row_14)∧Fr a 32 [(3,s5.v),(5,s10.v),(9,s5.v),(10,(iV (goLen t_2))),(11,(iV t_8)),(16,(iV (goLen e_9))),(17,(iV t_13))]∧St X w0 w m [q12,q1]∧OwnD m 48 3 q12 s5 inverse_11∧ViewD m 48 3 q12 s5 inverse_11 t_8 s10∧goAt inverse_11 t_8 = some row_14) (fun (inverse_21 : (List (List Int))) e a w=>∃ (q22 : Piece),e = .exit 2∧Fr a 32 [(3,s5.v),(9,s5.v),(10,(iV (goLen t_2))),(11,(iV t_8))]∧St X w0 w m [q1,q22]∧OwnD m 48 3 q22 s5 inverse_21) hl3 ⟨q7,_,_,_,rfl,hF.sub ⟨rfl,rfl,rfl,rfl,rfl,rfl,rfl,trivial⟩,hS,h7,hV10,he_9⟩ ?_ ?_
   ·clear hF hS
    rintro s a w st ⟨q12,inverse_11,t_13,row_14,rfl,hF,hS,h12,h15,h15x⟩ hb3
    unfold impl_freeCells_own_l2 at hb3
    refine q_sr (q_y (v:=(.bool (decide (t_13 < (goLen e_9))))) hF hS (ex_ibin rfl rfl rfl) fun a hF=>q_end (n_sq (q_seq ?_)))
    rcases bcase (decide (t_13 < (goLen e_9))) with hc4 | hc4
    ·have hb3:=cond_f hc4 hb3
     refine q_cond_f hF rfl hc4 (q_exit (x_sq ?_))
     obtain rfl:=someI hb3
     exact ⟨nofun,.inl ⟨q12,rfl,hF.sub ⟨rfl,rfl,rfl,rfl,trivial⟩,hS.sel [1,0] (by decide),h12⟩⟩
    ·have hb3:=cond_t hc4 hb3
     refine q_cond_t hF rfl hc4 (q_skipc (n_sq (q_seq (q_block (q_sr (q_m hF rfl fun a hF=>q_s hF rfl fun a hF=>q_end (n_sq (q_region (q_m hF rfl fun a hF=>q_m hF rfl fun a hF=>q_m hF rfl fun a hF=>q_m hF rfl fun a hF=>?_)))))))))
     obtain ⟨e_16,he_16,hb3⟩:=bindS hb3
     obtain ⟨vs17,at17,d17⟩:=h15.at h15x he_16 1 rfl
     obtain rfl : vs17 = [(iV e_16)]:=d17
     refine q_y (v:=(elP s10 (t_13.toNat * 1))) hF hS (ex_indexAddr U48 sz3 rfl rfl (h15.idx h15x he_16)) fun a hF=>q_y (v:=(iV e_16)) hF hS (ex_loadE1 0 U3 rfl rfl (at17.at 0 rfl) rfl rfl) fun a hF=>q_y (v:=(iV (w64 (1 - e_16)))) hF hS (ex_ibin rfl rfl rfl) fun a hF=>?_
     obtain ⟨e_18,he_18,hb3⟩:=bindS hb3
     obtain ⟨vs19,at19,d19⟩:=h15.at h15x he_18 1 rfl
     obtain rfl : vs19 = [(iV e_18)]:=d19
     refine q_y (v:=(elP s10 (t_13.toNat * 1))) hF hS (ex_indexAddr U48 sz3 rfl rfl (h15.idx h15x he_18)) fun a hF=>q_do rfl fun _ hK=>wp_storeV (e':=(w64 (1 - e_16))) (us:=[(iV (w64 (1 - e_16)))]) (vs:=[(iV e_18)]) 0 hF hS h15 h15x sz3 rfl rfl rfl rfl rfl rfl rfl he_18 at19 rfl rfl rfl fun w q20 hS h20=>hK _ _ (q_end (n_ib (n_sq (q_region (q_y (v:=(iV (w64 (t_13 + 1)))) hF hS (ex_ibin rfl rfl rfl) fun a hF=>q_m hF rfl fun a hF=>q_end ?_)))))
     obtain rfl:=someI hb3
     exact ⟨rfl,q20,_,_,_,rfl,hF.sub ⟨rfl,rfl,rfl,rfl,rfl,rfl,rfl,trivial⟩,hS,h20.own,h20,(goAt_goSet h15x)⟩
   ·rintro e a w ⟨q22,rfl,hF,hS,h22⟩
    refine x_ib (n_ib (n_sq ?_))
    refine q_region (q_y (v:=(iV (w64 (t_8 + 1)))) hF hS (ex_ibin rfl rfl rfl) fun a hF=>q_m hF rfl fun a hF=>q_end ?_)
    obtain rfl:=someI hb1
    exact ⟨rfl,q22,_,_,rfl,hF.sub ⟨rfl,rfl,rfl,rfl,trivial⟩,hS.sel [1,0] (by decide),h22⟩
 ·rintro e a w ⟨q24,rfl,hF,hS,h24⟩
  refine x_ib (n_sq ?_)
  refine q_sr (q_m hF rfl fun a hF=>?_)
  have hS : St _ _ _ _ [q24,q1]:=hS.sel [1,0] (by decide)
  obtain ⟨m25,hm25,hS,hz25⟩:=hS.freeze
  have h25:=h24.froz hm25.le hz25
  obtain ⟨t_26,ht_26,hr⟩:=bindS hr
  refine q_call (vs:=[s5.v]) hF hS Tryz.func40 (by kernel_rfl) rfl rfl rfl (c_impl_positions inverse_23 t_26 ht_26 _ m25 hS.vis s5 h25) ?_
  have hT:=hS
  rintro a w _ ⟨m27,q28,s28,rfl,hm27,hR27,h28⟩ hF hS2
  have hS : St _ _ _ _ [q28,q1]:=hS.join hR27 hm27
  have hm27:=MLe.weakX (O0:=[]) hT hm27
  refine q_s hF rfl fun a hF=>q_end (n_sq (q_ret ?_))
  obtain rfl:=someI hr
  exact ret_ofX hF hS rfl (.tmp rfl .nil) ⟨m27,q28,s28,rfl,(hm25.trans hm27),hS.sel [1,0] (by decide),h28⟩

theorem c_impl_GreedyPlan_1 (p_at : List Int) (p_x1 : Int) (r : Bool) (hr : impl_GreedyPlan_1 p_at p_x1 = some r) (w0 : World) (m : Mem) (b_p_x1 : Nat) (s1 : Sl) (h1 : Rd m s1 p_at) (X : List Nat) (hS : St X w0 w0 m [[⟨b_p_x1,[(iV p_x1)],3⟩]]) :
  RetX Tryz.prog 47 [s1.v,(pP b_p_x1 0)] w0 (fun v w=>v = (.bool r)∧St X w0 w m [[⟨b_p_x1,[(iV p_x1)],3⟩]]):=by
 unfold impl_GreedyPlan_1 at hr
 refine ret_startX Tryz.func47 rfl 9 rfl rfl fun a hF=>q_sr (q_s hF rfl fun a hF=>q_end (n_sq (q_seq (e_region ⟨[],[],m⟩ mixed fun w' hw'=>?_))))
 have hS:=hS.below hw'
 refine e_P (v:=s1.v) 0 hF rfl (ex_move rfl) fun a hF=>?_
 obtain ⟨e_2,he_2,hr⟩:=bindS hr
 obtain ⟨vs3,at3,d3⟩:=h1.at he_2 1 rfl
 obtain rfl : vs3 = [(iV e_2)]:=d3
 refine e_P (v:=(elP s1 ((0 : Int).toNat * 1))) 1 hF rfl (ex_indexAddr U48 sz3 rfl rfl (h1.idx he_2)) fun a hF=>e_xm (v:=(iV e_2)) 2 hF hS (Mem.le.refl _) rfl (ex_loadE1 0 U3 rfl rfl ((at3).at) rfl rfl) rfl rfl (by kernel_rfl) (by kernel_rfl) (by kernel_rfl) fun a hF=>e_X (v:=(iV p_x1)) 3 hF hS rfl (ex_load1 0 0 U3 rfl rfl rfl rfl) fun a hF=>e_P (v:=(.bool (e_2 == p_x1))) 4 hF rfl (ex_ibin rfl rfl rfl) fun a hF=>e_P (v:=(.bool (e_2 == p_x1))) 5 hF rfl (ex_assign rfl) fun a hF=>e_end (by kernel_rfl) (n_sq (q_ret ?_)) _
 obtain rfl:=someI hr
 exact ret_ofX hF hS rfl (.tmp rfl .nil) ⟨rfl,hS.sel [0] (by decide)⟩

theorem c_impl_cheapestCell_own_of_impl_GreedyPlan_1 (p_x : List (List Int)) (p_p : List (List Int)) (p_x300 : Int) (r : (List Int)) (hr : impl_cheapestCell_own_of_impl_GreedyPlan_1 p_x p_p p_x300 = some r) (w0 : World) (m : Mem) (b_p_x300 : Nat) (s1 : Sl) (h1 : Rd m s1 p_x) (s2 : Sl) (q2 : Piece) (h2 : OwnD m 48 3 q2 s2 p_p) (X : List Nat) (hS : St X w0 w0 m [q2,[⟨b_p_x300,[(iV p_x300)],3⟩]]) :
  RetX Tryz.prog 46 [s1.v,s2.v,(.func (.func 47) #[] #[(pP b_p_x300 0)])] w0 (fun v w=>∃ (m' : Mem) (s0' : Sl),v = s0'.v∧MLe X w0.heap.size m m'∧St X w0 w m' [q2,[⟨b_p_x300,[(iV p_x300)],3⟩]]∧Rd m' s0' r∧NF s0' r):=by
 unfold impl_cheapestCell_own_of_impl_GreedyPlan_1 at hr
 refine ret_startX Tryz.func46 rfl 52 rfl rfl fun a hF=>q_sr (q_s hF rfl fun a hF=>q_end (n_sq (q_sr (q_s hF rfl fun a hF=>q_end (n_sq (q_seq (q_sr (q_m hF rfl fun a hF=>?_))))))))
 have hS3 : St _ _ _ _ ([q2]++[[⟨b_p_x300,[(iV p_x300)],3⟩]]):=hS
 have hE3:=hS3.enter
 obtain ⟨t_4,ht_4,hr⟩:=bindS hr
 refine q_do rfl fun _ hK=>wp_callX (vs:=[s2.v]) hF Tryz.func17 (by kernel_rfl) rfl rfl rfl (c_impl_freeCells_own p_p t_4 ht_4 _ m s2 q2 h2 _ hE3) fun a w _ hR hF=>hK _ _ ?_
 obtain ⟨m3',q5,s5,rfl,hm3,hR3,h5⟩:=hR
 have hS : St _ _ _ _ [q2,q5,[⟨b_p_x300,[(iV p_x300)],3⟩]]:=hS3.leave hR3 hm3
 have hm3:=MLe.weakX hS3 hm3
 refine q_y (v:=(iV (goLen t_4))) hF hS (ex_len U23 rfl h5.len) fun a hF=>q_m hF rfl fun a hF=>q_end (n_sq (q_block ?_))
 obtain ⟨best_38,hl1,hr⟩:=bindS hr
 refine q_loop (fun (s : (List Int) × Int) a w=>∃ (s7 : Sl),∃ best_6,∃ t_8,s = (best_6,t_8)∧Fr a 52 [(0,s1.v),(2,(.func (.func 47) #[] #[(pP b_p_x300 0)])),(7,s7.v),(11,s5.v),(12,(iV (goLen t_4))),(13,(iV t_8))]∧St X w0 w m3' [q2,q5,[⟨b_p_x300,[(iV p_x300)],3⟩]]∧Rd m3' s7 best_6∧NF s7 best_6) (fun (best_38 : (List Int)) e a w=>∃ (s39 : Sl),e = .exit 0∧Fr a 52 [(7,s39.v)]∧St X w0 w m3' [q2,[⟨b_p_x300,[(iV p_x300)],3⟩]]∧Rd m3' s39 best_38∧NF s39 best_38) hl1 ⟨nilS,_,_,rfl,hF.sub ⟨rfl,rfl,rfl,rfl,rfl,rfl,trivial⟩,hS,(Rd.nil0 (α:=Int) m3'),(NF.nil)⟩ ?_ ?_
 ·clear hF hS
  rintro s a w st ⟨s7,best_6,t_8,rfl,hF,hS,h7,h7n⟩ hb1
  unfold impl_cheapestCell_own_of_impl_GreedyPlan_1_l1 at hb1
  refine q_sr (q_y (v:=(.bool (decide (t_8 < (goLen t_4))))) hF hS (ex_ibin rfl rfl rfl) fun a hF=>q_end (n_sq (q_seq ?_)))
  rcases bcase (decide (t_8 < (goLen t_4))) with hc2 | hc2
  ·have hb1:=cond_f hc2 hb1
   refine q_cond_f hF rfl hc2 (q_exit (x_sq ?_))
   obtain rfl:=someI hb1
   exact ⟨nofun,.inl ⟨s7,rfl,hF.sub ⟨rfl,trivial⟩,hS.mask [true,false,true],h7,h7n⟩⟩
  ·have hb1:=cond_t hc2 hb1
   refine q_cond_t hF rfl hc2 (q_skipc (n_sq (q_seq (q_block (q_seq (q_region ?_))))))
   obtain ⟨e_9,he_9,hb1⟩:=bindS hb1
   obtain ⟨u_11,hu_11,hb1⟩:=bindS hb1
   obtain ⟨vs10,at10,d10⟩:=h5.at he_9 1 rfl
   obtain ⟨s12,rfl,h12⟩ : ∃ s12 : Sl,vs10 = [s12.v]∧Rd m3' s12 e_9:=d10
   refine q_y (v:=(elP s5 (t_8.toNat * 1))) hF hS (ex_indexAddr U23 sz48 rfl rfl (h5.idx he_9)) fun a hF=>q_y (v:=s12.v) hF hS (ex_loadE1 0 U48 rfl rfl (at10.at 1 rfl) rfl rfl) fun a hF=>q_s hF rfl fun a hF=>q_end (n_sq (q_seq ?_))
   obtain ⟨t_35,hj3,hb1⟩:=bindS hb1
   refine q_join (fun a w=>Fr a 52 [(0,s1.v),(2,(.func (.func 47) #[] #[(pP b_p_x300 0)])),(7,s7.v),(9,s12.v),(11,s5.v),(12,(iV (goLen t_4))),(13,(iV t_8)),(48,(.bool t_35))]∧St X w0 w m3' [q2,q5,[⟨b_p_x300,[(iV p_x300)],3⟩]]) ?_ ?_
   ·refine e_region ⟨[2],[],m3'⟩ mixed fun w' hw'=>?_
    have hS:=hS.below hw'
    refine e_P (v:=(.func (.func 47) #[] #[(pP b_p_x300 0)])) 0 hF rfl (ex_move rfl) fun a hF=>e_P (v:=s12.v) 1 hF rfl (ex_move rfl) fun a hF=>e_one 2 (by kernel_rfl) ?_
    have hS : St _ _ _ _ [[⟨b_p_x300,[(iV p_x300)],3⟩],q2,q5]:=hS.sel [2,0,1] (by decide)
    have hS13 : St _ _ _ _ ([[⟨b_p_x300,[(iV p_x300)],3⟩]]++[q2,q5]):=hS
    have hE13:=hS13.enter
    obtain ⟨t_14,ht_14,hj3⟩:=bindS hj3
    refine e_opl rfl rfl rfl fun _ hK=>wp_callV (vs:=[s12.v]) (cap:=[(pP b_p_x300 0)]) hF rfl Tryz.func47 (by kernel_rfl) rfl rfl rfl (c_impl_GreedyPlan_1 e_9 p_x300 t_14 ht_14 _ m3' b_p_x300 s12 h12 _ hE13) fun a w _ hR hF=>hK _ _ ?_
    obtain ⟨rfl,hR13⟩:=hR
    have hS : St _ _ _ _ [[⟨b_p_x300,[(iV p_x300)],3⟩],q2,q5]:=hS13.leaveF hR13
    refine ⟨⟨kpN,fun _=>hS.vis.of_le (Mem.le.refl _)⟩,?_⟩
    refine e_P (v:=(.bool t_14)) 3 hF rfl (ex_move rfl) fun a hF=>?_
    rcases bcase (t_14) with hc4 | hc4
    ·have hj3:=cond_f hc4 hj3
     refine e_K 4 hF rfl hc4 fun a hF=>e_K 5 hF rfl hc4 fun a hF=>e_K 6 hF rfl hc4 fun a hF=>e_skipP 7 hF rfl (wanted_u hF rfl rfl rfl) rfl (by kernel_rfl) (by kernel_rfl) (by kernel_rfl) fun a hF=>e_skipP 8 hF rfl (wanted_u hF rfl rfl rfl) rfl (by kernel_rfl) (by kernel_rfl) (by kernel_rfl) fun a hF=>e_skipP 9 hF rfl (wanted_u hF rfl rfl rfl) rfl (by kernel_rfl) (by kernel_rfl) (by kernel_rfl) fun a hF=>e_skipP 10 hF rfl (wanted_u hF rfl rfl rfl) rfl (by kernel_rfl) (by kernel_rfl) (by kernel_rfl) fun a hF=>e_skipP 11 hF rfl (wanted_u hF rfl rfl rfl) rfl (by kernel_rfl) (by kernel_rfl) (by kernel_rfl) fun a hF=>e_skipP 12 hF rfl (wanted_u hF rfl rfl rfl) rfl (by kernel_rfl) (by kernel_rfl) (by kernel_rfl) fun a hF=>e_skipP 13 hF rfl (wanted_u hF rfl rfl rfl) rfl (by kernel_rfl) (by kernel_rfl) (by kernel_rfl) fun a hF=>e_skipP 14 hF rfl (wanted_u hF rfl rfl rfl) rfl (by kernel_rfl) (by kernel_rfl) (by kernel_rfl) fun a hF=>e_skipP 15 hF rfl (wanted_u hF rfl rfl rfl) rfl (by kernel_rfl) (by kernel_rfl) (by kernel_rfl) fun a hF=>e_skipP 16 hF rfl (wanted_u hF rfl rfl rfl) rfl (by kernel_rfl) (by kernel_rfl) (by kernel_rfl) fun a hF=>e_skipP 17 hF rfl (wanted_u hF rfl rfl rfl) rfl (by kernel_rfl) (by kernel_rfl) (by kernel_rfl) fun a hF=>e_skipP 18 hF rfl (wanted_u hF rfl rfl rfl) rfl (by kernel_rfl) (by kernel_rfl) (by kernel_rfl) fun a hF=>e_skipP 19 hF rfl (wanted_u hF rfl rfl rfl) rfl (by kernel_rfl) (by kernel_rfl) (by kernel_rfl) fun a hF=>e_skipP 20 hF rfl (wanted_u hF rfl rfl rfl) rfl (by kernel_rfl) (by kernel_rfl) (by kernel_rfl) fun a hF=>e_skipP 21 hF rfl (wanted_u hF rfl rfl rfl) rfl (by kernel_rfl) (by kernel_rfl) (by kernel_rfl) fun a hF=>e_skipP 22 hF rfl (wanted_u hF rfl rfl rfl) rfl (by kernel_rfl) (by kernel_rfl) (by kernel_rfl) fun a hF=>e_skipP 23 hF rfl (wanted_u hF rfl rfl rfl) rfl (by kernel_rfl) (by kernel_rfl) (by kernel_rfl) fun a hF=>e_skipP 24 hF rfl (wanted_u hF rfl rfl rfl) rfl (by kernel_rfl) (by kernel_rfl) (by kernel_rfl) fun a hF=>e_skipP 25 hF rfl (wanted_u hF rfl rfl rfl) rfl (by kernel_rfl) (by kernel_rfl) (by kernel_rfl) fun a hF=>e_skipP 26 hF rfl (wanted_u hF rfl rfl rfl) rfl (by kernel_rfl) (by kernel_rfl) (by kernel_rfl) fun a hF=>e_skipP 27 hF rfl (wanted_u hF rfl rfl rfl) rfl (by kernel_rfl) (by kernel_rfl) (by kernel_rfl) fun a hF=>e_skipP 28 hF rfl (wanted_u hF rfl rfl rfl) rfl (by kernel_rfl) (by kernel_rfl) (by kernel_rfl) fun a hF=>?_
     refine e_skipP 29 hF rfl (wanted_u hF rfl rfl rfl) rfl (by kernel_rfl) (by kernel_rfl) (by kernel_rfl) fun a hF=>e_K 30 hF rfl hc4 fun a hF=>e_P (v:=(.bool false)) 31 hF rfl (ex_pick_f rfl rfl hc4) fun a hF=>e_end (by kernel_rfl) (n_jn ?_) _
     obtain rfl:=someI hj3
     exact ⟨hF.sub ⟨rfl,rfl,rfl,rfl,rfl,rfl,rfl,rfl,trivial⟩,hS.sel [1,2,0] (by decide)⟩
    ·have hj3:=cond_t hc4 hj3
     refine e_G (v:=s7.v) 4 hF rfl (ex_move rfl) hc4 fun a hF=>e_G (v:=(.bool best_6.isEmpty)) 5 hF rfl (ex_eqNilF U48 h7n h7.nilE rfl rfl) hc4 fun a hF=>e_G (v:=(.bool best_6.isEmpty)) 6 hF rfl (ex_move rfl) hc4 fun a hF=>?_
     rcases bcase (best_6.isEmpty) with hc5 | hc5
     ·have hj3:=cond_f hc5 hj3
      refine e_G (v:=s1.v) 7 hF rfl (ex_move rfl) hc5 fun a hF=>e_G (v:=s12.v) 8 hF rfl (ex_move rfl) hc5 fun a hF=>?_
      obtain ⟨e_15,he_15,hj3⟩:=bindS hj3
      obtain ⟨vs16,at16,d16⟩:=h12.at he_15 1 rfl
      obtain rfl : vs16 = [(iV e_15)]:=d16
      refine e_G (v:=(elP s12 ((0 : Int).toNat * 1))) 9 hF rfl (ex_indexAddr U48 sz3 rfl rfl (h12.idx he_15)) hc5 fun a hF=>e_xg (v:=(iV e_15)) 10 hF hS rfl (ex_loadE1 0 U3 rfl rfl ((at16).at) rfl rfl) (wanted_t hF rfl rfl rfl hc5) rfl (by kernel_rfl) (by kernel_rfl) (by kernel_rfl) (by kernel_rfl) fun a hF=>?_
      obtain ⟨e_17,he_17,hj3⟩:=bindS hj3
      obtain ⟨u_19,hu_19,hj3⟩:=bindS hj3
      obtain ⟨vs18,at18,d18⟩:=h1.at he_17 1 rfl
      obtain ⟨s20,rfl,h20⟩ : ∃ s20 : Sl,vs18 = [s20.v]∧Rd m s20 e_17:=d18
      refine e_G (v:=(elP s1 (e_15.toNat * 1))) 11 hF rfl (ex_indexAddr U23 sz48 rfl rfl ((h1.mono hm3.le).idx he_17)) hc5 fun a hF=>e_xg (v:=s20.v) 12 hF hS rfl (ex_loadE1 0 U48 rfl rfl (((at18.mono hm3.le)).at) rfl rfl) (wanted_t hF rfl rfl rfl hc5) rfl (by kernel_rfl) (by kernel_rfl) (by kernel_rfl) (by kernel_rfl) fun a hF=>e_G (v:=s12.v) 13 hF rfl (ex_move rfl) hc5 fun a hF=>?_
      obtain ⟨e_21,he_21,hj3⟩:=bindS hj3
      obtain ⟨vs22,at22,d22⟩:=h12.at he_21 1 rfl
      obtain rfl : vs22 = [(iV e_21)]:=d22
      refine e_G (v:=(elP s12 ((1 : Int).toNat * 1))) 14 hF rfl (ex_indexAddr U48 sz3 rfl rfl (h12.idx he_21)) hc5 fun a hF=>e_xg (v:=(iV e_21)) 15 hF hS rfl (ex_loadE1 0 U3 rfl rfl ((at22).at) rfl rfl) (wanted_t hF rfl rfl rfl hc5) rfl (by kernel_rfl) (by kernel_rfl) (by kernel_rfl) (by kernel_rfl) fun a hF=>?_
      obtain ⟨e_23,he_23,hj3⟩:=bindS hj3
      obtain ⟨vs24,at24,d24⟩:=h20.at he_23 1 rfl
      obtain rfl : vs24 = [(iV e_23)]:=d24
      refine e_G (v:=(elP s20 (e_21.toNat * 1))) 16 hF rfl (ex_indexAddr U48 sz3 rfl rfl ((h20.mono hm3.le).idx he_23)) hc5 fun a hF=>e_xg (v:=(iV e_23)) 17 hF hS rfl (ex_loadE1 0 U3 rfl rfl (((at24.mono hm3.le)).at) rfl rfl) (wanted_t hF rfl rfl rfl hc5) rfl (by kernel_rfl) (by kernel_rfl) (by kernel_rfl) (by kernel_rfl) fun a hF=>e_G (v:=s1.v) 18 hF rfl (ex_move rfl) hc5 fun a hF=>e_G (v:=s7.v) 19 hF rfl (ex_move rfl) hc5 fun a hF=>?_
      obtain ⟨e_25,he_25,hj3⟩:=bindS hj3
      obtain ⟨vs26,at26,d26⟩:=h7.at he_25 1 rfl
      obtain rfl : vs26 = [(iV e_25)]:=d26
      refine e_G (v:=(elP s7 ((0 : Int).toNat * 1))) 20 hF rfl (ex_indexAddr U48 sz3 rfl rfl (h7.idx he_25)) hc5 fun a hF=>e_xg (v:=(iV e_25)) 21 hF hS rfl (ex_loadE1 0 U3 rfl rfl ((at26).at) rfl rfl) (wanted_t hF rfl rfl rfl hc5) rfl (by kernel_rfl) (by kernel_rfl) (by kernel_rfl) (by kernel_rfl) fun a hF=>?_
      obtain ⟨e_27,he_27,hj3⟩:=bindS hj3
      obtain ⟨u_29,hu_29,hj3⟩:=bindS hj3
      obtain ⟨vs28,at28,d28⟩:=h1.at he_27 1 rfl
      obtain ⟨s30,rfl,h30⟩ : ∃ s30 : Sl,vs28 = [s30.v]∧Rd m s30 e_27:=d28
      refine e_G (v:=(elP s1 (e_25.toNat * 1))) 22 hF rfl (ex_indexAddr U23 sz48 rfl rfl ((h1.mono hm3.le).idx he_27)) hc5 fun a hF=>e_xg (v:=s30.v) 23 hF hS rfl (ex_loadE1 0 U48 rfl rfl (((at28.mono hm3.le)).at) rfl rfl) (wanted_t hF rfl rfl rfl hc5) rfl (by kernel_rfl) (by kernel_rfl) (by kernel_rfl) (by kernel_rfl) fun a hF=>e_G (v:=s7.v) 24 hF rfl (ex_move rfl) hc5 fun a hF=>?_
      obtain ⟨e_31,he_31,hj3⟩:=bindS hj3
      obtain ⟨vs32,at32,d32⟩:=h7.at he_31 1 rfl
      obtain rfl : vs32 = [(iV e_31)]:=d32
      refine e_G (v:=(elP s7 ((1 : Int).toNat * 1))) 25 hF rfl (ex_indexAddr U48 sz3 rfl rfl (h7.idx he_31)) hc5 fun a hF=>e_xg (v:=(iV e_31)) 26 hF hS rfl (ex_loadE1 0 U3 rfl rfl ((at32).at) rfl rfl) (wanted_t hF rfl rfl rfl hc5) rfl (by kernel_rfl) (by kernel_rfl) (by kernel_rfl) (by kernel_rfl) fun a hF=>?_
      obtain ⟨e_33,he_33,hj3⟩:=bindS hj3
      obtain ⟨vs34,at34,d34⟩:=h30.at he_33 1 rfl
      obtain rfl : vs34 = [(iV e_33)]:=d34
      refine e_G (v:=(elP s30 (e_31.toNat * 1))) 27 hF rfl (ex_indexAddr U48 sz3 rfl rfl ((h30.mono hm3.le).idx he_33)) hc5 fun a hF=>e_xg (v:=(iV e_33)) 28 hF hS rfl (ex_loadE1 0 U3 rfl rfl (((at34.mono hm3.le)).at) rfl rfl) (wanted_t hF rfl rfl rfl hc5) rfl (by kernel_rfl) (by kernel_rfl) (by kernel_rfl) (by kernel_rfl) fun a hF=>e_G (v:=(.bool (decide (e_23 < e_33)))) 29 hF rfl (ex_ibin rfl rfl rfl) hc5 fun a hF=>e_G (v:=(.bool (decide (e_23 < e_33)))) 30 hF rfl (ex_pick_f rfl rfl hc5) hc4 fun a hF=>e_P (v:=(.bool (decide (e_23 < e_33)))) 31 hF rfl (ex_pick_t rfl rfl hc4) fun a hF=>e_end (by kernel_rfl) (n_jn ?_) _
      obtain rfl:=someI hj3
      exact ⟨hF.sub ⟨rfl,rfl,rfl,rfl,rfl,rfl,rfl,rfl,trivial⟩,hS.sel [1,2,0] (by decide)⟩
     ·have hj3:=cond_t hc5 hj3
      refine e_K 7 hF rfl hc5 fun a hF=>e_K 8 hF rfl hc5 fun a hF=>e_K 9 hF rfl hc5 fun a hF=>e_K 10 hF rfl hc5 fun a hF=>e_K 11 hF rfl hc5 fun a hF=>e_K 12 hF rfl hc5 fun a hF=>e_K 13 hF rfl hc5 fun a hF=>e_K 14 hF rfl hc5 fun a hF=>e_K 15 hF rfl hc5 fun a hF=>e_K 16 hF rfl hc5 fun a hF=>e_K 17 hF rfl hc5 fun a hF=>e_K 18 hF rfl hc5 fun a hF=>e_K 19 hF rfl hc5 fun a hF=>e_K 20 hF rfl hc5 fun a hF=>e_K 21 hF rfl hc5 fun a hF=>e_K 22 hF rfl hc5 fun a hF=>e_K 23 hF rfl hc5 fun a hF=>e_K 24 hF rfl hc5 fun a hF=>e_K 25 hF rfl hc5 fun a hF=>e_K 26 hF rfl hc5 fun a hF=>e_K 27 hF rfl hc5 fun a hF=>e_K 28 hF rfl hc5 fun a hF=>e_K 29 hF rfl hc5 fun a hF=>e_G (v:=(.bool true)) 30 hF rfl (ex_pick_t rfl rfl hc5) hc4 fun a hF=>e_P (v:=(.bool true)) 31 hF rfl (ex_pick_t rfl rfl hc4) fun a hF=>?_
      refine e_end (by kernel_rfl) (n_jn ?_) _
      obtain rfl:=someI hj3
      exact ⟨hF.sub ⟨rfl,rfl,rfl,rfl,rfl,rfl,rfl,rfl,trivial⟩,hS.sel [1,2,0] (by decide)⟩
   ·rintro a w ⟨hF,hS⟩
    refine n_sq ?_
    obtain ⟨best_36,hj6,hb1⟩:=bindS hb1
    refine q_join (fun a w=>∃ (s37 : Sl),Fr a 52 [(0,s1.v),(2,(.func (.func 47) #[] #[(pP b_p_x300 0)])),(7,s37.v),(11,s5.v),(12,(iV (goLen t_4))),(13,(iV t_8))]∧St X w0 w m3' [q2,q5,[⟨b_p_x300,[(iV p_x300)],3⟩]]∧Rd m3' s37 best_36∧NF s37 best_36) ?_ ?_
    ·rcases bcase (t_35) with hc7 | hc7
     ·have hj6:=cond_f hc7 hj6
      refine q_cond_f hF rfl hc7 (q_skipc (n_jn ?_))
      obtain rfl:=someI hj6
      exact ⟨s7,hF.sub ⟨rfl,rfl,rfl,rfl,rfl,rfl,trivial⟩,hS,h7,h7n⟩
     ·have hj6:=cond_t hc7 hj6
      refine q_cond_t hF rfl hc7 (q_region (q_m hF rfl fun a hF=>q_s hF rfl fun a hF=>q_end (n_jn ?_)))
      obtain rfl:=someI hj6
      exact ⟨s12,hF.sub ⟨rfl,rfl,rfl,rfl,rfl,rfl,trivial⟩,hS,h12,(NF.goNE hu_11)⟩
    ·rintro a w ⟨s37,hF,hS,h37,h37n⟩
     refine n_ib (n_sq ?_)
     refine q_region (q_y (v:=(iV (w64 (t_8 + 1)))) hF hS (ex_ibin rfl rfl rfl) fun a hF=>q_m hF rfl fun a hF=>q_end ?_)
     obtain rfl:=someI hb1
     exact ⟨rfl,s37,_,_,rfl,hF.sub ⟨rfl,rfl,rfl,rfl,rfl,rfl,trivial⟩,hS,h37,h37n⟩
 ·rintro e a w ⟨s39,rfl,hF,hS,h39,h39n⟩
  refine x_ib (n_sq ?_)
  refine q_sr (q_m hF rfl fun a hF=>q_s hF rfl fun a hF=>q_end (n_sq (q_ret ?_)))
  obtain rfl:=someI hr
  exact ret_ofX hF hS rfl (.tmp rfl .nil) ⟨m3',s39,rfl,hm3,hS.sel [0,1] (by decide),h39,h39n⟩

theorem c_impl_GreedyPlan_2 (p_at : List Int) (p_x1 : Int) (r : Bool) (hr : impl_GreedyPlan_2 p_at p_x1 = some r) (w0 : World) (m : Mem) (b_p_x1 : Nat) (s1 : Sl) (h1 : Rd m s1 p_at) (X : List Nat) (hS : St X w0 w0 m [[⟨b_p_x1,[(iV p_x1)],3⟩]]) :
  RetX Tryz.prog 48 [s1.v,(pP b_p_x1 0)] w0 (fun v w=>v = (.bool r)∧St X w0 w m [[⟨b_p_x1,[(iV p_x1)],3⟩]]):=by
 unfold impl_GreedyPlan_2 at hr
 refine ret_startX Tryz.func48 rfl 9 rfl rfl fun a hF=>q_sr (q_s hF rfl fun a hF=>q_end (n_sq (q_seq (e_region ⟨[],[],m⟩ mixed fun w' hw'=>?_))))
 have hS:=hS.below hw'
 refine e_P (v:=s1.v) 0 hF rfl (ex_move rfl) fun a hF=>?_
 obtain ⟨e_2,he_2,hr⟩:=bindS hr
 obtain ⟨vs3,at3,d3⟩:=h1.at he_2 1 rfl
 obtain rfl : vs3 = [(iV e_2)]:=d3
 refine e_P (v:=(elP s1 ((1 : Int).toNat * 1))) 1 hF rfl (ex_indexAddr U48 sz3 rfl rfl (h1.idx he_2)) fun a hF=>e_xm (v:=(iV e_2)) 2 hF hS (Mem.le.refl _) rfl (ex_loadE1 0 U3 rfl rfl ((at3).at) rfl rfl) rfl rfl (by kernel_rfl) (by kernel_rfl) (by kernel_rfl) fun a hF=>e_X (v:=(iV p_x1)) 3 hF hS rfl (ex_load1 0 0 U3 rfl rfl rfl rfl) fun a hF=>e_P (v:=(.bool (e_2 == p_x1))) 4 hF rfl (ex_ibin rfl rfl rfl) fun a hF=>e_P (v:=(.bool (e_2 == p_x1))) 5 hF rfl (ex_assign rfl) fun a hF=>e_end (by kernel_rfl) (n_sq (q_ret ?_)) _
 obtain rfl:=someI hr
 exact ret_ofX hF hS rfl (.tmp rfl .nil) ⟨rfl,hS.sel [0] (by decide)⟩

theorem c_impl_cheapestCell_own_of_impl_GreedyPlan_2 (p_x : List (List Int)) (p_p : List (List Int)) (p_x300 : Int) (r : (List Int)) (hr : impl_cheapestCell_own_of_impl_GreedyPlan_2 p_x p_p p_x300 = some r) (w0 : World) (m : Mem) (b_p_x300 : Nat) (s1 : Sl) (h1 : Rd m s1 p_x) (s2 : Sl) (q2 : Piece) (h2 : OwnD m 48 3 q2 s2 p_p) (X : List Nat) (hS : St X w0 w0 m [q2,[⟨b_p_x300,[(iV p_x300)],3⟩]]) :
  RetX Tryz.prog 46 [s1.v,s2.v,(.func (.func 48) #[] #[(pP b_p_x300 0)])] w0 (fun v w=>∃ (m' : Mem) (s0' : Sl),v = s0'.v∧MLe X w0.heap.size m m'∧St X w0 w m' [q2,[⟨b_p_x300,[(iV p_x300)],3⟩]]∧Rd m' s0' r∧NF s0' r):=by
 unfold impl_cheapestCell_own_of_impl_GreedyPlan_2 at hr
 refine ret_startX Tryz.func46 rfl 52 rfl rfl fun a hF=>q_sr (q_s hF rfl fun a hF=>q_end (n_sq (q_sr (q_s hF rfl fun a hF=>q_end (n_sq (q_seq (q_sr (q_m hF rfl fun a hF=>?_))))))))
 have hS3 : St _ _ _ _ ([q2]++[[⟨b_p_x300,[(iV p_x300)],3⟩]]):=hS
 have hE3:=hS3.enter
 obtain ⟨t_4,ht_4,hr⟩:=bindS hr
 refine q_do rfl fun _ hK=>wp_callX (vs:=[s2.v]) hF Tryz.func17 (by kernel_rfl) rfl rfl rfl (c_impl_freeCells_own p_p t_4 ht_4 _ m s2 q2 h2 _ hE3) fun a w _ hR hF=>hK _ _ ?_
 obtain ⟨m3',q5,s5,rfl,hm3,hR3,h5⟩:=hR
 have hS : St _ _ _ _ [q2,q5,[⟨b_p_x300,[(iV p_x300)],3⟩]]:=hS3.leave hR3 hm3
 have hm3:=MLe.weakX hS3 hm3
 refine q_y (v:=(iV (goLen t_4))) hF hS (ex_len U23 rfl h5.len) fun a hF=>q_m hF rfl fun a hF=>q_end (n_sq (q_block ?_))
 obtain ⟨best_38,hl1,hr⟩:=bindS hr
 refine q_loop (fun (s : (List Int) × Int) a w=>∃ (s7 : Sl),∃ best_6,∃ t_8,s = (best_6,t_8)∧Fr a 52 [(0,s1.v),(2,(.func (.func 48) #[] #[(pP b_p_x300 0)])),(7,s7.v),(11,s5.v),(12,(iV (goLen t_4))),(13,(iV t_8))]∧St X w0 w m3' [q2,q5,[⟨b_p_x300,[(iV p_x300)],3⟩]]∧Rd m3' s7 best_6∧NF s7 best_6) (fun (best_38 : (List Int)) e a w=>∃ (s39 : Sl),e = .exit 0∧Fr a 52 [(7,s39.v)]∧St X w0 w m3' [q2,[⟨b_p_x300,[(iV p_x300)],3⟩]]∧Rd m3' s39 best_38∧NF s39 best_38) hl1 ⟨nilS,_,_,rfl,hF.sub ⟨rfl,rfl,rfl,rfl,rfl,rfl,trivial⟩,hS,(Rd.nil0 (α:=Int) m3'),(NF.nil)⟩ ?_ ?_
 ·clear hF hS
  rintro s a w st ⟨s7,best_6,t_8,rfl,hF,hS,h7,h7n⟩ hb1
  unfold impl_cheapestCell_own_of_impl_GreedyPlan_2_l1 at hb1
  refine q_sr (q_y (v:=(.bool (decide (t_8 < (goLen t_4))))) hF hS (ex_ibin rfl rfl rfl) fun a hF=>q_end (n_sq (q_seq ?_)))
  rcases bcase (decide (t_8 < (goLen t_4))) with hc2 | hc2
  ·have hb1:=cond_f hc2 hb1
   refine q_cond_f hF rfl hc2 (q_exit (x_sq ?_))
   obtain rfl:=someI hb1
   exact ⟨nofun,.inl ⟨s7,rfl,hF.sub ⟨rfl,trivial⟩,hS.mask [true,false,true],h7,h7n⟩⟩
  ·have hb1:=cond_t hc2 hb1
   refine q_cond_t hF rfl hc2 (q_skipc (n_sq (q_seq (q_block (q_seq (q_region ?_))))))
   obtain ⟨e_9,he_9,hb1⟩:=bindS hb1
   obtain ⟨u_11,hu_11,hb1⟩:=bindS hb1
   obtain ⟨vs10,at10,d10⟩:=h5.at he_9 1 rfl
   obtain ⟨s12,rfl,h12⟩ : ∃ s12 : Sl,vs10 = [s12.v]∧Rd m3' s12 e_9:=d10
   refine q_y (v:=(elP s5 (t_8.toNat * 1))) hF hS (ex_indexAddr U23 sz48 rfl rfl (h5.idx he_9)) fun a hF=>q_y (v:=s12.v) hF hS (ex_loadE1 0 U48 rfl rfl (at10.at 1 rfl) rfl rfl) fun a hF=>q_s hF rfl fun a hF=>q_end (n_sq (q_seq ?_))
   obtain ⟨t_35,hj3,hb1⟩:=bindS hb1
   refine q_join (fun a w=>Fr a 52 [(0,s1.v),(2,(.func (.func 48) #[] #[(pP b_p_x300 0)])),(7,s7.v),(9,s12.v),(11,s5.v),(12,(iV (goLen t_4))),(13,(iV t_8)),(48,(.bool t_35))]∧St X w0 w m3' [q2,q5,[⟨b_p_x300,[(iV p_x300)],3⟩]]) ?_ ?_
   ·refine e_region ⟨[2],[],m3'⟩ mixed fun w' hw'=>?_
    have hS:=hS.below hw'
    refine e_P (v:=(.func (.func 48) #[] #[(pP b_p_x300 0)])) 0 hF rfl (ex_move rfl) fun a hF=>e_P (v:=s12.v) 1 hF rfl (ex_move rfl) fun a hF=>e_one 2 (by kernel_rfl) ?_
    have hS : St _ _ _ _ [[⟨b_p_x300,[(iV p_x300)],3⟩],q2,q5]:=hS.sel [2,0,1] (by decide)
    have hS13 : St _ _ _ _ ([[⟨b_p_x300,[(iV p_x300)],3⟩]]++[q2,q5]):=hS
    have hE13:=hS13.enter
    obtain ⟨t_14,ht_14,hj3⟩:=bindS hj3
    refine e_opl rfl rfl rfl fun _ hK=>wp_callV (vs:=[s12.v]) (cap:=[(pP b_p_x300 0)]) hF rfl Tryz.func48 (by kernel_rfl) rfl rfl rfl (c_impl_GreedyPlan_2 e_9 p_x300 t_14 ht_14 _ m3' b_p_x300 s12 h12 _ hE13) fun a w _ hR hF=>hK _ _ ?_
    obtain ⟨rfl,hR13⟩:=hR
    have hS : St _ _ _ _ [[⟨b_p_x300,[(iV p_x300)],3⟩],q2,q5]:=hS13.leaveF hR13
    refine ⟨⟨kpN,fun _=>hS.vis.of_le (Mem.le.refl _)⟩,?_⟩
    refine e_P (v:=(.bool t_14)) 3 hF rfl (ex_move rfl) fun a hF=>?_
    rcases bcase (t_14) with hc4 | hc4
    ·have hj3:=cond_f hc4 hj3
     refine e_K 4 hF rfl hc4 fun a hF=>e_K 5 hF rfl hc4 fun a hF=>e_K 6 hF rfl hc4 fun a hF=>e_skipP 7 hF rfl (wanted_u hF rfl rfl rfl) rfl (by kernel_rfl) (by kernel_rfl) (by kernel_rfl) fun a hF=>e_skipP 8 hF rfl (wanted_u hF rfl rfl rfl) rfl (by kernel_rfl) (by kernel_rfl) (by kernel_rfl) fun a hF=>e_skipP 9 hF rfl (wanted_u hF rfl rfl rfl) rfl (by kernel_rfl) (by kernel_rfl) (by kernel_rfl) fun a hF=>e_skipP 10 hF rfl (wanted_u hF rfl rfl rfl) rfl (by kernel_rfl) (by kernel_rfl) (by kernel_rfl) fun a hF=>e_skipP 11 hF rfl (wanted_u hF rfl rfl rfl) rfl (by kernel_rfl) (by kernel_rfl) (by kernel_rfl) fun a hF=>e_skipP 12 hF rfl (wanted_u hF rfl rfl rfl) rfl (by kernel_rfl) (by kernel_rfl) (by kernel_rfl) fun a hF=>e_skipP 13 hF rfl (wanted_u hF rfl rfl rfl) rfl (by kernel_rfl) (by kernel_rfl) (by kernel_rfl) fun a hF=>e_skipP 14 hF rfl (wanted_u hF rfl rfl rfl) rfl (by kernel_rfl) (by kernel_rfl) (by kernel_rfl) fun a hF=>e_skipP 15 hF rfl (wanted_u hF rfl rfl rfl) rfl (by kernel_rfl) (by kernel_rfl) (by kernel_rfl) fun a hF=>e_skipP 16 hF rfl (wanted_u hF rfl rfl rfl) rfl (by kernel_rfl) (by kernel_rfl) (by kernel_rfl) fun a hF=>e_skipP 17 hF rfl (wanted_u hF rfl rfl rfl) rfl (by kernel_rfl) (by kernel_rfl) (by kernel_rfl) fun a hF=>e_skipP 18 hF rfl (wanted_u hF rfl rfl rfl) rfl (by kernel_rfl) (by kernel_rfl) (by kernel_rfl) fun a hF=>e_skipP 19 hF rfl (wanted_u hF rfl rfl rfl) rfl (by kernel_rfl) (by kernel_rfl) (by kernel_rfl) fun a hF=>e_skipP 20 hF rfl (wanted_u hF rfl rfl rfl) rfl (by kernel_rfl) (by kernel_rfl) (by kernel_rfl) fun a hF=>e_skipP 21 hF rfl (wanted_u hF rfl rfl rfl) rfl (by kernel_rfl) (by kernel_rfl) (by kernel_rfl) fun a hF=>e_skipP 22 hF rfl (wanted_u hF rfl rfl rfl) rfl (by kernel_rfl) (by kernel_rfl) (by kernel_rfl) fun a hF=>e_skipP 23 hF rfl (wanted_u hF rfl rfl rfl) rfl (by kernel_rfl) (by kernel_rfl) (by kernel_rfl) fun a hF=>e_skipP 24 hF rfl (wanted_u hF rfl rfl rfl) rfl (by kernel_rfl) (by kernel_rfl) (by kernel_rfl) fun a hF=>e_skipP 25 hF rfl (wanted_u hF rfl rfl rfl) rfl (by kernel_rfl) (by kernel_rfl) (by kernel_rfl) fun a hF=>e_skipP 26 hF rfl (wanted_u hF rfl rfl rfl) rfl (by kernel_rfl) (by kernel_rfl) (by kernel_rfl) fun a hF=>e_skipP 27 hF rfl (wanted_u hF rfl rfl rfl) rfl (by kernel_rfl) (by kernel_rfl) (by kernel_rfl) fun a hF=>e_skipP 28 hF rfl (wanted_u hF rfl rfl rfl) rfl (by kernel_rfl) (by kernel_rfl) (by kernel_rfl) fun a hF=>?_
     refine e_skipP 29 hF rfl (wanted_u hF rfl rfl rfl) rfl (by kernel_rfl) (by kernel_rfl) (by kernel_rfl) fun a hF=>e_K 30 hF rfl hc4 fun a hF=>e_P (v:=(.bool false)) 31 hF rfl (ex_pick_f rfl rfl hc4) fun a hF=>e_end (by kernel_rfl) (n_jn ?_) _
     obtain rfl:=someI hj3
     exact ⟨hF.sub ⟨rfl,rfl,rfl,rfl,rfl,rfl,rfl,rfl,trivial⟩,hS.sel [1,2,0] (by decide)⟩
    ·have hj3:=cond_t hc4 hj3
     refine e_G (v:=s7.v) 4 hF rfl (ex_move rfl) hc4 fun a hF=>e_G (v:=(.bool best_6.isEmpty)) 5 hF rfl (ex_eqNilF U48 h7n h7.nilE rfl rfl) hc4 fun a hF=>e_G (v:=(.bool best_6.isEmpty)) 6 hF rfl (ex_move rfl) hc4 fun a hF=>?_
     rcases bcase (best_6.isEmpty) with hc5 | hc5
     ·have hj3:=cond_f hc5 hj3
      refine e_G (v:=s1.v) 7 hF rfl (ex_move rfl) hc5 fun a hF=>e_G (v:=s12.v) 8 hF rfl (ex_move rfl) hc5 fun a hF=>?_
      obtain ⟨e_15,he_15,hj3⟩:=bindS hj3
      obtain ⟨vs16,at16,d16⟩:=h12.at he_15 1 rfl
      obtain rfl : vs16 = [(iV e_15)]:=d16
      refine e_G (v:=(elP s12 ((0 : Int).toNat * 1))) 9 hF rfl (ex_indexAddr U48 sz3 rfl rfl (h12.idx he_15)) hc5 fun a hF=>e_xg (v:=(iV e_15)) 10 hF hS rfl (ex_loadE1 0 U3 rfl rfl ((at16).at) rfl rfl) (wanted_t hF rfl rfl rfl hc5) rfl (by kernel_rfl) (by kernel_rfl) (by kernel_rfl) (by kernel_rfl) fun a hF=>?_
      obtain ⟨e_17,he_17,hj3⟩:=bindS hj3
      obtain ⟨u_19,hu_19,hj3⟩:=bindS hj3
      obtain ⟨vs18,at18,d18⟩:=h1.at he_17 1 rfl
      obtain ⟨s20,rfl,h20⟩ : ∃ s20 : Sl,vs18 = [s20.v]∧Rd m s20 e_17:=d18
      refine e_G (v:=(elP s1 (e_15.toNat * 1))) 11 hF rfl (ex_indexAddr U23 sz48 rfl rfl ((h1.mono hm3.le).idx he_17)) hc5 fun a hF=>e_xg (v:=s20.v) 12 hF hS rfl (ex_loadE1 0 U48 rfl rfl (((at18.mono hm3.le)).at) rfl rfl) (wanted_t hF rfl rfl rfl hc5) rfl (by kernel_rfl) (by kernel_rfl) (by kernel_rfl) (by kernel_rfl) fun a hF=>e_G (v:=s12.v) 13 hF rfl (ex_move rfl) hc5 fun a hF=>?_
      obtain ⟨e_21,he_21,hj3⟩:=bindS hj3
      obtain ⟨vs22,at22,d22⟩:=h12.at he_21 1 rfl
      obtain rfl : vs22 = [(iV e_21)]:=d22
      refine e_G (v:=(elP s12 ((1 : Int).toNat * 1))) 14 hF rfl (ex_indexAddr U48 sz3 rfl rfl (h12.idx he_21)) hc5 fun a hF=>e_xg (v:=(iV e_21)) 15 hF hS rfl (ex_loadE1 0 U3 rfl rfl ((at22).at) rfl rfl) (wanted_t hF rfl rfl rfl hc5) rfl (by kernel_rfl) (by kernel_rfl) (by kernel_rfl) (by kernel_rfl) fun a hF=>?_
      obtain ⟨e_23,he_23,hj3⟩:=bindS hj3
      obtain ⟨vs24,at24,d24⟩:=h20.at he_23 1 rfl
      obtain rfl : vs24 = [(iV e_23)]:=d24
      refine e_G (v:=(elP s20 (e_21.toNat * 1))) 16 hF rfl (ex_indexAddr U48 sz3 rfl rfl ((h20.mono hm3.le).idx he_23)) hc5 fun a hF=>e_xg (v:=(iV e_23)) 17 hF hS rfl (ex_loadE1 0 U3 rfl rfl (((at24.mono hm3.le)).at) rfl rfl) (wanted_t hF rfl rfl rfl hc5) rfl (by kernel_rfl) (by kernel_rfl) (by kernel_rfl) (by kernel_rfl) fun a hF=>e_G (v:=s1.v) 18 hF rfl (ex_move rfl) hc5 fun a hF=>e_G (v:=s7.v) 19 hF rfl (ex_move rfl) hc5 fun a hF=>?_
      obtain ⟨e_25,he_25,hj3⟩:=bindS hj3
      obtain ⟨vs26,at26,d26⟩:=h7.at he_25 1 rfl
      obtain rfl : vs26 = [(iV e_25)]:=d26
      refine e_G (v:=(elP s7 ((0 : Int).toNat * 1))) 20 hF rfl (ex_indexAddr U48 sz3 rfl rfl (h7.idx he_25)) hc5 fun a hF=>e_xg (v:=(iV e_25)) 21 hF hS rfl (ex_loadE1 0 U3 rfl rfl ((at26).at) rfl rfl) (wanted_t hF rfl rfl rfl hc5) rfl (by kernel_rfl) (by kernel_rfl) (by kernel_rfl) (by kernel_rfl) fun a hF=>?_
      obtain ⟨e_27,he_27,hj3⟩:=bindS hj3
      obtain ⟨u_29,hu_29,hj3⟩:=bindS hj3
      obtain ⟨vs28,at28,d28⟩:=h1.at he_27 1 rfl
      obtain ⟨s30,rfl,h30⟩ : ∃ s30 : Sl,vs28 = [s30.v]∧Rd m s30 e_27:=d28
      refine e_G (v:=(elP s1 (e_25.toNat * 1))) 22 hF rfl (ex_indexAddr U23 sz48 rfl rfl ((h1.mono hm3.le).idx he_27)) hc5 fun a hF=>e_xg (v:=s30.v) 23 hF hS rfl (ex_loadE1 0 U48 rfl rfl (((at28.mono hm3.le)).at) rfl rfl) (wanted_t hF rfl rfl rfl hc5) rfl (by kernel_rfl) (by kernel_rfl) (by kernel_rfl) (by kernel_rfl) fun a hF=>e_G (v:=s7.v) 24 hF rfl (ex_move rfl) hc5 fun a hF=>?_
      obtain ⟨e_31,he_31,hj3⟩:=bindS hj3
      obtain ⟨vs32,at32,d32⟩:=h7.at he_31 1 rfl
      obtain rfl : vs32 = [(iV e_31)]:=d32
      refine e_G (v:=(elP s7 ((1 : Int).toNat * 1))) 25 hF rfl (ex_indexAddr U48 sz3 rfl rfl (h7.idx he_31)) hc5 fun a hF=>e_xg (v:=(iV e_31)) 26 hF hS rfl (ex_loadE1 0 U3 rfl rfl ((at32).at) rfl rfl) (wanted_t hF rfl rfl rfl hc5) rfl (by kernel_rfl) (by kernel_rfl) (by kernel_rfl) (by kernel_rfl) fun a hF=>?_
      obtain ⟨e_33,he_33,hj3⟩:=bindS hj3
      obtain ⟨vs34,at34,d34⟩:=h30.at he_33 1 rfl
      obtain rfl : vs34 = [(iV e_33)]:=d34
      refine e_G (v:=(elP s30 (e_31.toNat * 1))) 27 hF rfl (ex_indexAddr U48 sz3 rfl rfl ((h30.mono hm3.le).idx he_33)) hc5 fun a hF=>e_xg (v:=(iV e_33)) 28 hF hS rfl (ex_loadE1 0 U3 rfl rfl (((at34.mono hm3.le)).at) rfl rfl) (wanted_t hF rfl rfl rfl hc5) rfl (by kernel_rfl) (by kernel_rfl) (by kernel_rfl) (by kernel_rfl) fun a hF=>e_G (v:=(.bool (decide (e_23 < e_33)))) 29 hF rfl (ex_ibin rfl rfl rfl) hc5 fun a hF=>e_G (v:=(.bool (decide (e_23 < e_33)))) 30 hF rfl (ex_pick_f rfl rfl hc5) hc4 fun a hF=>e_P (v:=(.bool (decide (e_23 < e_33)))) 31 hF rfl (ex_pick_t rfl rfl hc4) fun a hF=>e_end (by kernel_rfl) (n_jn ?_) _
      obtain rfl:=someI hj3
      exact ⟨hF.sub ⟨rfl,rfl,rfl,rfl,rfl,rfl,rfl,rfl,trivial⟩,hS.sel [1,2,0] (by decide)⟩
     ·have hj3:=cond_t hc5 hj3
      refine e_K 7 hF rfl hc5 fun a hF=>e_K 8 hF rfl hc5 fun a hF=>e_K 9 hF rfl hc5 fun a hF=>e_K 10 hF rfl hc5 fun a hF=>e_K 11 hF rfl hc5 fun a hF=>e_K 12 hF rfl hc5 fun a hF=>e_K 13 hF rfl hc5 fun a hF=>e_K 14 hF rfl hc5 fun a hF=>e_K 15 hF rfl hc5 fun a hF=>e_K 16 hF rfl hc5 fun a hF=>e_K 17 hF rfl hc5 fun a hF=>e_K 18 hF rfl hc5 fun a hF=>e_K 19 hF rfl hc5 fun a hF=>e_K 20 hF rfl hc5 fun a hF=>e_K 21 hF rfl hc5 fun a hF=>e_K 22 hF rfl hc5 fun a hF=>e_K 23 hF rfl hc5 fun a hF=>e_K 24 hF rfl hc5 fun a hF=>e_K 25 hF rfl hc5 fun a hF=>e_K 26 hF rfl hc5 fun a hF=>e_K 27 hF rfl hc5 fun a hF=>e_K 28 hF rfl hc5 fun a hF=>e_K 29 hF rfl hc5 fun a hF=>e_G (v:=(.bool true)) 30 hF rfl (ex_pick_t rfl rfl hc5) hc4 fun a hF=>e_P (v:=(.bool true)) 31 hF rfl (ex_pick_t rfl rfl hc4) fun a hF=>?_
      refine e_end (by kernel_rfl) (n_jn ?_) _
      obtain rfl:=someI hj3
      exact ⟨hF.sub ⟨rfl,rfl,rfl,rfl,rfl,rfl,rfl,rfl,trivial⟩,hS.sel [1,2,0] (by decide)⟩
   ·rintro a w ⟨hF,hS⟩
    refine n_sq ?_
    obtain ⟨best_36,hj6,hb1⟩:=bindS hb1
    refine q_join (fun a w=>∃ (s37 : Sl),Fr a 52 [(0,s1.v),(2,(.func (.func 48) #[] #[(pP b_p_x300 0)])),(7,s37.v),(11,s5.v),(12,(iV (goLen t_4))),(13,(iV t_8))]∧St X w0 w m3' [q2,q5,[⟨b_p_x300,[(iV p_x300)],3⟩]]∧Rd m3' s37 best_36∧NF s37 best_36) ?_ ?_
    ·rcases bcase (t_35) with hc7 | hc7
     ·have hj6:=cond_f hc7 hj6
      refine q_cond_f hF rfl hc7 (q_skipc (n_jn ?_))
      obtain rfl:=someI hj6
      exact ⟨s7,hF.sub ⟨rfl,rfl,rfl,rfl,rfl,rfl,trivial⟩,hS,h7,h7n⟩
     ·have hj6:=cond_t hc7 hj6
      refine q_cond_t hF rfl hc7 (q_region (q_m hF rfl fun a hF=>q_s hF rfl fun a hF=>q_end (n_jn ?_)))
      obtain rfl:=someI hj6
      exact ⟨s12,hF.sub ⟨rfl,rfl,rfl,rfl,rfl,rfl,trivial⟩,hS,h12,(NF.goNE hu_11)⟩
    ·rintro a w ⟨s37,hF,hS,h37,h37n⟩
     refine n_ib (n_sq ?_)
     refine q_region (q_y (v:=(iV (w64 (t_8 + 1)))) hF hS (ex_ibin rfl rfl rfl) fun a hF=>q_m hF rfl fun a hF=>q_end ?_)
     obtain rfl:=someI hb1
     exact ⟨rfl,s37,_,_,rfl,hF.sub ⟨rfl,rfl,rfl,rfl,rfl,rfl,trivial⟩,hS,h37,h37n⟩
 ·rintro e a w ⟨s39,rfl,hF,hS,h39,h39n⟩
  refine x_ib (n_sq ?_)
  refine q_sr (q_m hF rfl fun a hF=>q_s hF rfl fun a hF=>q_end (n_sq (q_ret ?_)))
  obtain rfl:=someI hr
  exact ret_ofX hF hS rfl (.tmp rfl .nil) ⟨m3',s39,rfl,hm3,hS.sel [0,1] (by decide),h39,h39n⟩

theorem c_impl_GreedyPlan_3 (p_x0 : List Int) (r : Bool) (hr : impl_GreedyPlan_3 p_x0 = some r) (w0 : World) (m : Mem) (hv : Vis m w0) (s1 : Sl) (h1 : Rd m s1 p_x0) :
  Ret Tryz.prog 49 [s1.v] w0 (fun v _=>v = (.bool r)):=by
 unfold impl_GreedyPlan_3 at hr
 refine ret_start Tryz.func49 rfl 3 rfl rfl m hv fun a hF hS=>q_sr (q_s hF rfl fun a hF=>q_end (n_sq (q_sr (q_s hF rfl fun a hF=>q_end (n_sq (q_ret ?_))))))
 obtain rfl:=someI hr
 exact ret_of hF hS rfl (.tmp rfl .nil) rfl

theorem c_impl_cheapestCell_own_of_impl_GreedyPlan_3 (p_x : List (List Int)) (p_p : List (List Int)) (r : (List Int)) (hr : impl_cheapestCell_own_of_impl_GreedyPlan_3 p_x p_p = some r) (w0 : World) (m : Mem) (s1 : Sl) (h1 : Rd m s1 p_x) (s2 : Sl) (q2 : Piece) (h2 : OwnD m 48 3 q2 s2 p_p) (X : List Nat) (hS : St X w0 w0 m [q2]) :
  RetX Tryz.prog 46 [s1.v,s2.v,(.func (.func 49) #[] #[])] w0 (fun v w=>∃ (m' : Mem) (s0' : Sl),v = s0'.v∧MLe X w0.heap.size m m'∧St X w0 w m' [q2]∧Rd m' s0' r∧NF s0' r):=by
 unfold impl_cheapestCell_own_of_impl_GreedyPlan_3 at hr
 refine ret_startX Tryz.func46 rfl 52 rfl rfl fun a hF=>q_sr (q_s hF rfl fun a hF=>q_end (n_sq (q_sr (q_s hF rfl fun a hF=>q_end (n_sq (q_seq (q_sr (q_m hF rfl fun a hF=>?_))))))))
 have hS3 : St _ _ _ _ ([q2]++[]):=hS
 have hE3:=hS3.enter
 obtain ⟨t_4,ht_4,hr⟩:=bindS hr
 refine q_do rfl fun _ hK=>wp_callX (vs:=[s2.v]) hF Tryz.func17 (by kernel_rfl) rfl rfl rfl (c_impl_freeCells_own p_p t_4 ht_4 _ m s2 q2 h2 _ hE3) fun a w _ hR hF=>hK _ _ ?_
 obtain ⟨m3',q5,s5,rfl,hm3,hR3,h5⟩:=hR
 have hS : St _ _ _ _ [q2,q5]:=hS3.leave hR3 hm3
 have hm3:=MLe.weakX hS3 hm3
 refine q_y (v:=(iV (goLen t_4))) hF hS (ex_len U23 rfl h5.len) fun a hF=>q_m hF rfl fun a hF=>q_end (n_sq (q_block ?_))
 obtain ⟨best_37,hl1,hr⟩:=bindS hr
 refine q_loop (fun (s : (List Int) × Int) a w=>∃ (s7 : Sl),∃ best_6,∃ t_8,s = (best_6,t_8)∧Fr a 52 [(0,s1.v),(2,(.func (.func 49) #[] #[])),(7,s7.v),(11,s5.v),(12,(iV (goLen t_4))),(13,(iV t_8))]∧St X w0 w m3' [q2,q5]∧Rd m3' s7 best_6∧NF s7 best_6) (fun (best_37 : (List Int)) e a w=>∃ (s38 : Sl),e = .exit 0∧Fr a 52 [(7,s38.v)]∧St X w0 w m3' [q2]∧Rd m3' s38 best_37∧NF s38 best_37) hl1 ⟨nilS,_,_,rfl,hF.sub ⟨rfl,rfl,rfl,rfl,rfl,rfl,trivial⟩,hS,(Rd.nil0 (α:=Int) m3'),(NF.nil)⟩ ?_ ?_
 ·clear hF hS
  rintro s a w st ⟨s7,best_6,t_8,rfl,hF,hS,h7,h7n⟩ hb1
  unfold impl_cheapestCell_own_of_impl_GreedyPlan_3_l1 at hb1
  refine q_sr (q_y (v:=(.bool (decide (t_8 < (goLen t_4))))) hF hS (ex_ibin rfl rfl rfl) fun a hF=>q_end (n_sq (q_seq ?_)))
  rcases bcase (decide (t_8 < (goLen t_4))) with hc2 | hc2
  ·have hb1:=cond_f hc2 hb1
   refine q_cond_f hF rfl hc2 (q_exit (x_sq ?_))
   obtain rfl:=someI hb1
   exact ⟨nofun,.inl ⟨s7,rfl,hF.sub ⟨rfl,trivial⟩,hS.mask [true,false],h7,h7n⟩⟩
  ·have hb1:=cond_t hc2 hb1
   refine q_cond_t hF rfl hc2 (q_skipc (n_sq (q_seq (q_block (q_seq (q_region ?_))))))
   obtain ⟨e_9,he_9,hb1⟩:=bindS hb1
   obtain ⟨u_11,hu_11,hb1⟩:=bindS hb1
   obtain ⟨vs10,at10,d10⟩:=h5.at he_9 1 rfl
   obtain ⟨s12,rfl,h12⟩ : ∃ s12 : Sl,vs10 = [s12.v]∧Rd m3' s12 e_9:=d10
   refine q_y (v:=(elP s5 (t_8.toNat * 1))) hF hS (ex_indexAddr U23 sz48 rfl rfl (h5.idx he_9)) fun a hF=>q_y (v:=s12.v) hF hS (ex_loadE1 0 U48 rfl rfl (at10.at 1 rfl) rfl rfl) fun a hF=>q_s hF rfl fun a hF=>q_end (n_sq (q_seq ?_))
   obtain ⟨t_34,hj3,hb1⟩:=bindS hb1
   refine q_join (fun a w=>Fr a 52 [(0,s1.v),(2,(.func (.func 49) #[] #[])),(7,s7.v),(9,s12.v),(11,s5.v),(12,(iV (goLen t_4))),(13,(iV t_8)),(48,(.bool t_34))]∧St X w0 w m3' [q2,q5]) ?_ ?_
   ·refine e_region ⟨[2],[],m3'⟩ mixed fun w' hw'=>?_
    have hS:=hS.below hw'
    refine e_P (v:=(.func (.func 49) #[] #[])) 0 hF rfl (ex_move rfl) fun a hF=>e_P (v:=s12.v) 1 hF rfl (ex_move rfl) fun a hF=>e_one 2 (by kernel_rfl) ?_
    obtain ⟨t_13,ht_13,hj3⟩:=bindS hj3
    refine e_callv (vs:=[s12.v]) (cap:=[]) hF hS rfl rfl Tryz.func49 (by kernel_rfl) rfl rfl rfl (c_impl_GreedyPlan_3 e_9 t_13 ht_13 _ m3' hS.vis s12 h12) ?_
    rintro a w _ rfl hF hS
    refine e_P (v:=(.bool t_13)) 3 hF rfl (ex_move rfl) fun a hF=>?_
    rcases bcase (t_13) with hc4 | hc4
    ·have hj3:=cond_f hc4 hj3
     refine e_K 4 hF rfl hc4 fun a hF=>e_K 5 hF rfl hc4 fun a hF=>e_K 6 hF rfl hc4 fun a hF=>e_skipP 7 hF rfl (wanted_u hF rfl rfl rfl) rfl (by kernel_rfl) (by kernel_rfl) (by kernel_rfl) fun a hF=>e_skipP 8 hF rfl (wanted_u hF rfl rfl rfl) rfl (by kernel_rfl) (by kernel_rfl) (by kernel_rfl) fun a hF=>e_skipP 9 hF rfl (wanted_u hF rfl rfl rfl) rfl (by kernel_rfl) (by kernel_rfl) (by kernel_rfl) fun a hF=>e_skipP 10 hF rfl (wanted_u hF rfl rfl rfl) rfl (by kernel_rfl) (by kernel_rfl) (by kernel_rfl) fun a hF=>e_skipP 11 hF rfl (wanted_u hF rfl rfl rfl) rfl (by kernel_rfl) (by kernel_rfl) (by kernel_rfl) fun a hF=>e_skipP 12 hF rfl (wanted_u hF rfl rfl rfl) rfl (by kernel_rfl) (by kernel_rfl) (by kernel_rfl) fun a hF=>e_skipP 13 hF rfl (wanted_u hF rfl rfl rfl) rfl (by kernel_rfl) (by kernel_rfl) (by kernel_rfl) fun a hF=>e_skipP 14 hF rfl (wanted_u hF rfl rfl rfl) rfl (by kernel_rfl) (by kernel_rfl) (by kernel_rfl) fun a hF=>e_skipP 15 hF rfl (wanted_u hF rfl rfl rfl) rfl (by kernel_rfl) (by kernel_rfl) (by kernel_rfl) fun a hF=>e_skipP 16 hF rfl (wanted_u hF rfl rfl rfl) rfl (by kernel_rfl) (by kernel_rfl) (by kernel_rfl) fun a hF=>e_skipP 17 hF rfl (wanted_u hF rfl rfl rfl) rfl (by kernel_rfl) (by kernel_rfl) (by kernel_rfl) fun a hF=>e_skipP 18 hF rfl (wanted_u hF rfl rfl rfl) rfl (by kernel_rfl) (by kernel_rfl) (by kernel_rfl) fun a hF=>e_skipP 19 hF rfl (wanted_u hF rfl rfl rfl) rfl (by kernel_rfl) (by kernel_rfl) (by kernel_rfl) fun a hF=>e_skipP 20 hF rfl (wanted_u hF rfl rfl rfl) rfl (by kernel_rfl) (by kernel_rfl) (by kernel_rfl) fun a hF=>e_skipP 21 hF rfl (wanted_u hF rfl rfl rfl) rfl (by kernel_rfl) (by kernel_rfl) (by kernel_rfl) fun a hF=>e_skipP 22 hF rfl (wanted_u hF rfl rfl rfl) rfl (by kernel_rfl) (by kernel_rfl) (by kernel_rfl) fun a hF=>e_skipP 23 hF rfl (wanted_u hF rfl rfl rfl) rfl (by kernel_rfl) (by kernel_rfl) (by kernel_rfl) fun a hF=>e_skipP 24 hF rfl (wanted_u hF rfl rfl rfl) rfl (by kernel_rfl) (by kernel_rfl) (by kernel_rfl) fun a hF=>e_skipP 25 hF rfl (wanted_u hF rfl rfl rfl) rfl (by kernel_rfl) (by kernel_rfl) (by kernel_rfl) fun a hF=>e_skipP 26 hF rfl (wanted_u hF rfl rfl rfl) rfl (by kernel_rfl) (by kernel_rfl) (by kernel_rfl) fun a hF=>e_skipP 27 hF rfl (wanted_u hF rfl rfl rfl) rfl (by kernel_rfl) (by kernel_rfl) (by kernel_rfl) fun a hF=>e_skipP 28 hF rfl (wanted_u hF rfl rfl rfl) rfl (by kernel_rfl) (by kernel_rfl) (by kernel_rfl) fun a hF=>?_
     refine e_skipP 29 hF rfl (wanted_u hF rfl rfl rfl) rfl (by kernel_rfl) (by kernel_rfl) (by kernel_rfl) fun a hF=>e_K 30 hF rfl hc4 fun a hF=>e_P (v:=(.bool false)) 31 hF rfl (ex_pick_f rfl rfl hc4) fun a hF=>e_end (by kernel_rfl) (n_jn ?_) _
     obtain rfl:=someI hj3
     exact ⟨hF.sub ⟨rfl,rfl,rfl,rfl,rfl,rfl,rfl,rfl,trivial⟩,hS⟩
    ·have hj3:=cond_t hc4 hj3
     refine e_G (v:=s7.v) 4 hF rfl (ex_move rfl) hc4 fun a hF=>e_G (v:=(.bool best_6.isEmpty)) 5 hF rfl (ex_eqNilF U48 h7n h7.nilE rfl rfl) hc4 fun a hF=>e_G (v:=(.bool best_6.isEmpty)) 6 hF rfl (ex_move rfl) hc4 fun a hF=>?_
     rcases bcase (best_6.isEmpty) with hc5 | hc5
     ·have hj3:=cond_f hc5 hj3
      refine e_G (v:=s1.v) 7 hF rfl (ex_move rfl) hc5 fun a hF=>e_G (v:=s12.v) 8 hF rfl (ex_move rfl) hc5 fun a hF=>?_
      obtain ⟨e_14,he_14,hj3⟩:=bindS hj3
      obtain ⟨vs15,at15,d15⟩:=h12.at he_14 1 rfl
      obtain rfl : vs15 = [(iV e_14)]:=d15
      refine e_G (v:=(elP s12 ((0 : Int).toNat * 1))) 9 hF rfl (ex_indexAddr U48 sz3 rfl rfl (h12.idx he_14)) hc5 fun a hF=>e_xg (v:=(iV e_14)) 10 hF hS rfl (ex_loadE1 0 U3 rfl rfl ((at15).at) rfl rfl) (wanted_t hF rfl rfl rfl hc5) rfl (by kernel_rfl) (by kernel_rfl) (by kernel_rfl) (by kernel_rfl) fun a hF=>?_
      obtain ⟨e_16,he_16,hj3⟩:=bindS hj3
      obtain ⟨u_18,hu_18,hj3⟩:=bindS hj3
      obtain ⟨vs17,at17,d17⟩:=h1.at he_16 1 rfl
      obtain ⟨s19,rfl,h19⟩ : ∃ s19 : Sl,vs17 = [s19.v]∧Rd m s19 e_16:=d17
      refine e_G (v:=(elP s1 (e_14.toNat * 1))) 11 hF rfl (ex_indexAddr U23 sz48 rfl rfl ((h1.mono hm3.le).idx he_16)) hc5 fun a hF=>e_xg (v:=s19.v) 12 hF hS rfl (ex_loadE1 0 U48 rfl rfl (((at17.mono hm3.le)).at) rfl rfl) (wanted_t hF rfl rfl rfl hc5) rfl (by kernel_rfl) (by kernel_rfl) (by kernel_rfl) (by kernel_rfl) fun a hF=>e_G (v:=s12.v) 13 hF rfl (ex_move rfl) hc5 fun a hF=>?_
      obtain ⟨e_20,he_20,hj3⟩:=bindS hj3
      obtain ⟨vs21,at21,d21⟩:=h12.at he_20 1 rfl
      obtain rfl : vs21 = [(iV e_20)]:=d21
      refine e_G (v:=(elP s12 ((1 : Int).toNat * 1))) 14 hF rfl (ex_indexAddr U48 sz3 rfl rfl (h12.idx he_20)) hc5 fun a hF=>e_xg (v:=(iV e_20)) 15 hF hS rfl (ex_loadE1 0 U3 rfl rfl ((at21).at) rfl rfl) (wanted_t hF rfl rfl rfl hc5) rfl (by kernel_rfl) (by kernel_rfl) (by kernel_rfl) (by kernel_rfl) fun a hF=>?_
      obtain ⟨e_22,he_22,hj3⟩:=bindS hj3
      obtain ⟨vs23,at23,d23⟩:=h19.at he_22 1 rfl
      obtain rfl : vs23 = [(iV e_22)]:=d23
      refine e_G (v:=(elP s19 (e_20.toNat * 1))) 16 hF rfl (ex_indexAddr U48 sz3 rfl rfl ((h19.mono hm3.le).idx he_22)) hc5 fun a hF=>e_xg (v:=(iV e_22)) 17 hF hS rfl (ex_loadE1 0 U3 rfl rfl (((at23.mono hm3.le)).at) rfl rfl) (wanted_t hF rfl rfl rfl hc5) rfl (by kernel_rfl) (by kernel_rfl) (by kernel_rfl) (by kernel_rfl) fun a hF=>e_G (v:=s1.v) 18 hF rfl (ex_move rfl) hc5 fun a hF=>e_G (v:=s7.v) 19 hF rfl (ex_move rfl) hc5 fun a hF=>?_
      obtain ⟨e_24,he_24,hj3⟩:=bindS hj3
      obtain ⟨vs25,at25,d25⟩:=h7.at he_24 1 rfl
      obtain rfl : vs25 = [(iV e_24)]:=d25
      refine e_G (v:=(elP s7 ((0 : Int).toNat * 1))) 20 hF rfl (ex_indexAddr U48 sz3 rfl rfl (h7.idx he_24)) hc5 fun a hF=>e_xg (v:=(iV e_24)) 21 hF hS rfl (ex_loadE1 0 U3 rfl rfl ((at25).at) rfl rfl) (wanted_t hF rfl rfl rfl hc5) rfl (by kernel_rfl) (by kernel_rfl) (by kernel_rfl) (by kernel_rfl) fun a hF=>?_
      obtain ⟨e_26,he_26,hj3⟩:=bindS hj3
      obtain ⟨u_28,hu_28,hj3⟩:=bindS hj3
      obtain ⟨vs27,at27,d27⟩:=h1.at he_26 1 rfl
      obtain ⟨s29,rfl,h29⟩ : ∃ s29 : Sl,vs27 = [s29.v]∧Rd m s29 e_26:=d27
      refine e_G (v:=(elP s1 (e_24.toNat * 1))) 22 hF rfl (ex_indexAddr U23 sz48 rfl rfl ((h1.mono hm3.le).idx he_26)) hc5 fun a hF=>e_xg (v:=s29.v) 23 hF hS rfl (ex_loadE1 0 U48 rfl rfl (((at27.mono hm3.le)).at) rfl rfl) (wanted_t hF rfl rfl rfl hc5) rfl (by kernel_rfl) (by kernel_rfl) (by kernel_rfl) (by kernel_rfl) fun a hF=>e_G (v:=s7.v) 24 hF rfl (ex_move rfl) hc5 fun a hF=>?_
      obtain ⟨e_30,he_30,hj3⟩:=bindS hj3
      obtain ⟨vs31,at31,d31⟩:=h7.at he_30 1 rfl
      obtain rfl : vs31 = [(iV e_30)]:=d31
      refine e_G (v:=(elP s7 ((1 : Int).toNat * 1))) 25 hF rfl (ex_indexAddr U48 sz3 rfl rfl (h7.idx he_30)) hc5 fun a hF=>e_xg (v:=(iV e_30)) 26 hF hS rfl (ex_loadE1 0 U3 rfl rfl ((at31).at) rfl rfl) (wanted_t hF rfl rfl rfl hc5) rfl (by kernel_rfl) (by kernel_rfl) (by kernel_rfl) (by kernel_rfl) fun a hF=>?_
      obtain ⟨e_32,he_32,hj3⟩:=bindS hj3
      obtain ⟨vs33,at33,d33⟩:=h29.at he_32 1 rfl
      obtain rfl : vs33 = [(iV e_32)]:=d33
      refine e_G (v:=(elP s29 (e_30.toNat * 1))) 27 hF rfl (ex_indexAddr U48 sz3 rfl rfl ((h29.mono hm3.le).idx he_32)) hc5 fun a hF=>e_xg (v:=(iV e_32)) 28 hF hS rfl (ex_loadE1 0 U3 rfl rfl (((at33.mono hm3.le)).at) rfl rfl) (wanted_t hF rfl rfl rfl hc5) rfl (by kernel_rfl) (by kernel_rfl) (by kernel_rfl) (by kernel_rfl) fun a hF=>e_G (v:=(.bool (decide (e_22 < e_32)))) 29 hF rfl (ex_ibin rfl rfl rfl) hc5 fun a hF=>e_G (v:=(.bool (decide (e_22 < e_32)))) 30 hF rfl (ex_pick_f rfl rfl hc5) hc4 fun a hF=>e_P (v:=(.bool (decide (e_22 < e_32)))) 31 hF rfl (ex_pick_t rfl rfl hc4) fun a hF=>e_end (by kernel_rfl) (n_jn ?_) _
      obtain rfl:=someI hj3
      exact ⟨hF.sub ⟨rfl,rfl,rfl,rfl,rfl,rfl,rfl,rfl,trivial⟩,hS⟩
     ·have hj3:=cond_t hc5 hj3
      refine e_K 7 hF rfl hc5 fun a hF=>e_K 8 hF rfl hc5 fun a hF=>e_K 9 hF rfl hc5 fun a hF=>e_K 10 hF rfl hc5 fun a hF=>e_K 11 hF rfl hc5 fun a hF=>e_K 12 hF rfl hc5 fun a hF=>e_K 13 hF rfl hc5 fun a hF=>e_K 14 hF rfl hc5 fun a hF=>e_K 15 hF rfl hc5 fun a hF=>e_K 16 hF rfl hc5 fun a hF=>e_K 17 hF rfl hc5 fun a hF=>e_K 18 hF rfl hc5 fun a hF=>e_K 19 hF rfl hc5 fun a hF=>e_K 20 hF rfl hc5 fun a hF=>e_K 21 hF rfl hc5 fun a hF=>e_K 22 hF rfl hc5 fun a hF=>e_K 23 hF rfl hc5 fun a hF=>e_K 24 hF rfl hc5 fun a hF=>e_K 25 hF rfl hc5 fun a hF=>e_K 26 hF rfl hc5 fun a hF=>e_K 27 hF rfl hc5 fun a hF=>e_K 28 hF rfl hc5 fun a hF=>e_K 29 hF rfl hc5 fun a hF=>e_G (v:=(.bool true)) 30 hF rfl (ex_pick_t rfl rfl hc5) hc4 fun a hF=>e_P (v:=(.bool true)) 31 hF rfl (ex_pick_t rfl rfl hc4) fun a hF=>?_
      refine e_end (by kernel_rfl) (n_jn ?_) _
      obtain rfl:=someI hj3
      exact ⟨hF.sub ⟨rfl,rfl,rfl,rfl,rfl,rfl,rfl,rfl,trivial⟩,hS⟩
   ·rintro a w ⟨hF,hS⟩
    refine n_sq ?_
    obtain ⟨best_35,hj6,hb1⟩:=bindS hb1
    refine q_join (fun a w=>∃ (s36 : Sl),Fr a 52 [(0,s1.v),(2,(.func (.func 49) #[] #[])),(7,s36.v),(11,s5.v),(12,(iV (goLen t_4))),(13,(iV t_8))]∧St X w0 w m3' [q2,q5]∧Rd m3' s36 best_35∧NF s36 best_35) ?_ ?_
    ·rcases bcase (t_34) with hc7 | hc7
     ·have hj6:=cond_f hc7 hj6
      refine q_cond_f hF rfl hc7 (q_skipc (n_jn ?_))
      obtain rfl:=someI hj6
      exact ⟨s7,hF.sub ⟨rfl,rfl,rfl,rfl,rfl,rfl,trivial⟩,hS,h7,h7n⟩
     ·have hj6:=cond_t hc7 hj6
      refine q_cond_t hF rfl hc7 (q_region (q_m hF rfl fun a hF=>q_s hF rfl fun a hF=>q_end (n_jn ?_)))
      obtain rfl:=someI hj6
      exact ⟨s12,hF.sub ⟨rfl,rfl,rfl,rfl,rfl,rfl,trivial⟩,hS,h12,(NF.goNE hu_11)⟩
    ·rintro a w ⟨s36,hF,hS,h36,h36n⟩
     refine n_ib (n_sq ?_)
     refine q_region (q_y (v:=(iV (w64 (t_8 + 1)))) hF hS (ex_ibin rfl rfl rfl) fun a hF=>q_m hF rfl fun a hF=>q_end ?_)
     obtain rfl:=someI hb1
     exact ⟨rfl,s36,_,_,rfl,hF.sub ⟨rfl,rfl,rfl,rfl,rfl,rfl,trivial⟩,hS,h36,h36n⟩
 ·rintro e a w ⟨s38,rfl,hF,hS,h38,h38n⟩
  refine x_ib (n_sq ?_)
  refine q_sr (q_m hF rfl fun a hF=>q_s hF rfl fun a hF=>q_end (n_sq (q_ret ?_)))
  obtain rfl:=someI hr
  exact ret_ofX hF hS rfl (.tmp rfl .nil) ⟨m3',s38,rfl,hm3,hS.sel [0] (by decide),h38,h38n⟩

theorem c_impl_GreedyPlan (p_x : List (List Int)) (p_primary : List (List Int)) (p_down : Int) (p_up : Int) (r : impl_Plan × Bool) (hr : impl_GreedyPlan p_x p_primary p_down p_up = some r) (w0 : World) (m : Mem) (hv : Vis m w0) (s1 : Sl) (h1 : Rd m s1 p_x) (s2 : Sl) (h2 : Rd m s2 p_primary) :
  Ret Tryz.prog 11 [s1.v,s2.v,(iV p_down),(iV p_up)] w0 (fun v w=>∃ (m' : Mem) (q0' : Piece) (s0' : Sl),v = (.tuple #[(.agg #[s0'.v,(iV r.1.Added),(iV r.1.Value)]),(.bool r.2)])∧MLe [] w0.heap.size m m'∧St [] w0 w m' [q0']∧OwnD m' 48 3 q0' s0' r.1.Pattern∧NF s0' r.1.Pattern):=by
 unfold impl_GreedyPlan at hr
 refine ret_start Tryz.func11 rfl 101 rfl rfl m hv fun a hF hS=>q_sr (q_alloc (cs:=[nilS.v,(iV 0),(iV 0)]) hF hS rfl rfl rfl fun a w b3 hF hS=>q_s hF rfl fun a hF=>q_end (n_sq (q_seq (q_seq ?_))))
 obtain ⟨t_6,hj1,hr⟩:=bindS hr
 refine q_join (fun a w=>Fr a 101 [(0,s1.v),(1,s2.v),(2,(iV p_down)),(3,(iV p_up)),(8,(pP b3 0)),(24,(.bool t_6))]∧St [] w0 w m [[⟨b3,[nilS.v,(iV 0),(iV 0)],27⟩]]) ?_ ?_
 ·refine q_region (q_m hF rfl fun a hF=>q_m hF rfl fun a hF=>?_)
  obtain ⟨t_4,ht_4,hj1⟩:=bindS hj1
  refine q_call (vs:=[s1.v,s2.v]) hF hS Tryz.func15 (by kernel_rfl) rfl rfl rfl (c_impl_areSuppressed p_x p_primary t_4 ht_4 _ m hS.vis s1 h1 s2 h2) ?_
  rintro a w _ rfl hF hS
  refine q_y (v:=(.bool (!t_4))) hF hS (ex_not rfl) fun a hF=>q_m hF rfl fun a hF=>?_
  rcases bcase (!t_4) with hc2 | hc2
  ·have hj1:=cond_f hc2 hj1
   refine q_g (v:=(iV p_down)) hF hS (ex_move rfl) hc2 fun a hF=>q_g (v:=(iV p_up)) hF hS (ex_move rfl) hc2 fun a hF=>?_
   obtain ⟨t_5,ht_5,hj1⟩:=bindS hj1
   refine q_callg (vs:=[(iV p_down),(iV p_up)]) hF hS (wanted_t hF rfl rfl rfl hc2) Tryz.func16 (by kernel_rfl) rfl rfl rfl (c_impl_areMargins p_down p_up t_5 ht_5 _ m hS.vis) ?_
   rintro a w _ rfl hF hS
   refine q_g (v:=(.bool (!t_5))) hF hS (ex_not rfl) hc2 fun a hF=>q_y (v:=(.bool (!t_5))) hF hS (ex_pick_f rfl rfl hc2) fun a hF=>q_end (n_jn ?_)
   obtain rfl:=someI hj1
   exact ⟨hF.sub ⟨rfl,rfl,rfl,rfl,rfl,rfl,trivial⟩,hS⟩
  ·have hj1:=cond_t hc2 hj1
   refine q_k hF hc2 fun a hF=>q_k hF hc2 fun a hF=>q_k hF hc2 fun a hF=>q_k hF hc2 fun a hF=>q_y (v:=(.bool true)) hF hS (ex_pick_t rfl rfl hc2) fun a hF=>q_end (n_jn ?_)
   obtain rfl:=someI hj1
   exact ⟨hF.sub ⟨rfl,rfl,rfl,rfl,rfl,rfl,trivial⟩,hS⟩
 ·rintro a w ⟨hF,hS⟩
  refine n_sq ?_
  rcases bcase (t_6) with hc3 | hc3
  ·have hr:=cond_f hc3 hr
   refine q_cond_f hF rfl hc3 (q_skipc (n_sq (q_sr (q_m hF rfl fun a hF=>?_))))
   obtain ⟨t_7,ht_7,hr⟩:=bindS hr
   refine q_call (vs:=[s2.v]) hF hS Tryz.func44 (by kernel_rfl) rfl rfl rfl (c_impl_copyMatrix p_primary t_7 ht_7 _ m hS.vis s2 h2) ?_
   rintro a w _ ⟨q9,s9,rfl,hR8,h9,h9n⟩ hF hS2
   have hS : St _ _ _ _ [q9,[⟨b3,[nilS.v,(iV 0),(iV 0)],27⟩]]:=hS.joinF hR8
   refine q_y (v:=(.agg #[s9.v,(iV 0),(iV 0)])) hF hS (ex_build (cells:=[s9.v,(iV 0),(iV 0)]) rfl (by kernel_rfl)) fun a hF=>q_alloc (cs:=[nilS.v,(iV 0),(iV 0)]) hF hS rfl rfl rfl fun a w b10 hF hS=>q_store (vs:=[s9.v,(iV 0),(iV 0)]) (cs':=[s9.v,(iV 0),(iV 0)]) 0 0 hF hS sz27 rfl rfl rfl rfl rfl rfl rfl rfl fun a w hF hS=>q_end (n_sq (q_block ?_))
   obtain ⟨o4,hl4,hr⟩:=bindS hr
   refine q_loop (fun (plan_11 : impl_Plan) a w=>∃ (m13 : Mem),∃ (q12 : Piece),Fr a 101 [(0,s1.v),(1,s2.v),(2,(iV p_down)),(3,(iV p_up)),(8,(pP b3 0)),(10,(pP b10 0))]∧St [] w0 w m13 [q12,[⟨b10,[s9.v,(iV plan_11.Added),(iV plan_11.Value)],27⟩],[⟨b3,[nilS.v,(iV 0),(iV 0)],27⟩]]∧MLe [] w0.heap.size m m13∧OwnD m13 48 3 q12 s9 plan_11.Pattern∧NF s9 plan_11.Pattern) (fun (o : Unit ⊕ (impl_Plan × Bool)) e a w=>False) hl4 ⟨m,q9,hF.sub ⟨rfl,rfl,rfl,rfl,rfl,rfl,trivial⟩,hS.sel [1,0,2] (by decide),(MLe.refl _ _),h9,h9n⟩ ?_ ?_
   ·clear hF hS
    rintro plan_11 a w st ⟨m13,q12,hF,hS,hm13,h12,h12n⟩ hb4
    unfold impl_GreedyPlan_l1 at hb4
    refine q_block (q_sr (q_m hF rfl fun a hF=>q_y (v:=(pP b10 0)) hF hS (ex_fieldAddr U27 rfl sz23 rfl rfl) fun a hF=>q_y (v:=s9.v) hF hS (ex_load1 1 0 U23 rfl rfl rfl rfl) fun a hF=>q_m hF rfl fun a hF=>q_m hF rfl fun a hF=>q_m hF rfl fun a hF=>?_))
    have hS14 : St _ _ _ _ ([q12]++[[⟨b10,[s9.v,(iV plan_11.Added),(iV plan_11.Value)],27⟩],[⟨b3,[nilS.v,(iV 0),(iV 0)],27⟩]]):=hS
    have hE14:=hS14.enter
    obtain ⟨t_15,ht_15,hb4⟩:=bindS hb4
    refine q_do rfl fun _ hK=>wp_callX (vs:=[s1.v,s9.v,s2.v,(iV p_down),(iV p_up)]) hF Tryz.func45 (by kernel_rfl) rfl rfl rfl (c_impl_unprotected_own p_x plan_11.Pattern p_primary p_down p_up t_15 ht_15 _ m13 s1 (h1.mono hm13.le) s9 q12 h12 s2 (h2.mono hm13.le) _ hE14) fun a w _ hR hF=>hK _ _ ?_
    obtain ⟨m14',q16,s16,rfl,hm14,hR14,h16⟩:=hR
    have hS : St _ _ _ _ [q12,q16,[⟨b10,[s9.v,(iV plan_11.Added),(iV plan_11.Value)],27⟩],[⟨b3,[nilS.v,(iV 0),(iV 0)],27⟩]]:=hS14.leave hR14 hm14
    have hm14:=MLe.weakX hS14 hm14
    refine q_s hF rfl fun a hF=>q_end (n_sq (q_seq (q_sr (q_m hF rfl fun a hF=>q_y (v:=(iV (goLen t_15))) hF hS (ex_len U23 rfl h16.len) fun a hF=>q_y (v:=(.bool ((goLen t_15) == 0))) hF hS (ex_ibin rfl rfl rfl) fun a hF=>q_end (n_sq ?_)))))
    rcases bcase ((goLen t_15) == 0) with hc5 | hc5
    ·have hb4:=cond_f hc5 hb4
     refine q_cond_f hF rfl hc5 (q_skipc (n_sq (q_seq ?_)))
     obtain ⟨j6,hj6,hb4⟩:=bindS hb4
     refine q_join (fun a w=>∃ b28,∃ b27,∃ j_29,∃ i_30,j6 = (j_29,i_30)∧Fr a 101 [(0,s1.v),(1,s2.v),(2,(iV p_down)),(3,(iV p_up)),(8,(pP b3 0)),(10,(pP b10 0)),(12,(pP b27 0)),(13,(pP b28 0))]∧St [] w0 w m14' [q12,[⟨b28,[(iV j_29)],3⟩],[⟨b27,[(iV i_30)],3⟩],[⟨b10,[s9.v,(iV plan_11.Added),(iV plan_11.Value)],27⟩],[⟨b3,[nilS.v,(iV 0),(iV 0)],27⟩]]) ?_ ?_
     ·refine e_region ⟨[12,13],[],m14'⟩ mixed fun w' hw'=>?_
      have hS:=hS.below hw'
      refine e_P (v:=s16.v) 0 hF rfl (ex_move rfl) fun a hF=>?_
      obtain ⟨e_17,he_17,hj6⟩:=bindS hj6
      obtain ⟨vs18,at18,d18⟩:=h16.at he_17 1 rfl
      obtain ⟨s19,rfl,h19⟩ : ∃ s19 : Sl,vs18 = [s19.v]∧Rd m14' s19 e_17:=d18
      refine e_P (v:=(elP s16 ((0 : Int).toNat * 1))) 1 hF rfl (ex_indexAddr U23 sz48 rfl rfl (h16.idx he_17)) fun a hF=>e_X (v:=s19.v) 2 hF hS rfl (ex_loadE1 0 U48 rfl rfl (at18.at 1 rfl) rfl rfl) fun a hF=>?_
      obtain ⟨e_20,he_20,hj6⟩:=bindS hj6
      obtain ⟨vs21,at21,d21⟩:=h19.at he_20 1 rfl
      obtain rfl : vs21 = [(iV e_20)]:=d21
      refine e_P (v:=(elP s19 ((0 : Int).toNat * 1))) 3 hF rfl (ex_indexAddr U48 sz3 rfl rfl (h19.idx he_20)) fun a hF=>e_xm (v:=(iV e_20)) 4 hF hS (Mem.le.refl _) rfl (ex_loadE1 0 U3 rfl rfl ((at21).at) rfl rfl) rfl rfl (by kernel_rfl) (by kernel_rfl) (by kernel_rfl) fun a hF=>e_P (v:=s16.v) 5 hF rfl (ex_move rfl) fun a hF=>?_
      obtain ⟨e_22,he_22,hj6⟩:=bindS hj6
      obtain ⟨vs23,at23,d23⟩:=h16.at he_22 1 rfl
      obtain ⟨s24,rfl,h24⟩ : ∃ s24 : Sl,vs23 = [s24.v]∧Rd m14' s24 e_22:=d23
      refine e_P (v:=(elP s16 ((0 : Int).toNat * 1))) 6 hF rfl (ex_indexAddr U23 sz48 rfl rfl (h16.idx he_22)) fun a hF=>?_
      obtain ⟨e_25,he_25,hj6⟩:=bindS hj6
      refine e_all [7,10,11] (by kernel_rfl) rfl ⟨?_,?_,?_,trivial⟩
      ·refine e_lx (v:=s24.v) hF hS rfl (ex_loadE1 0 U48 rfl rfl (at23.at 1 rfl) rfl rfl) rfl rfl fun a hF=>?_
       obtain ⟨vs26,at26,d26⟩:=h24.at he_25 1 rfl
       obtain rfl : vs26 = [(iV e_25)]:=d26
       refine e_P (v:=(elP s24 ((1 : Int).toNat * 1))) 8 hF rfl (ex_indexAddr U48 sz3 rfl rfl (h24.idx he_25)) fun a hF=>e_xm (v:=(iV e_25)) 9 hF hS (Mem.le.refl _) rfl (ex_loadE1 0 U3 rfl rfl ((at26).at) rfl rfl) rfl rfl (by kernel_rfl) (by kernel_rfl) (by kernel_rfl) fun a hF=>e_all [10,11] (by kernel_rfl) rfl ⟨?_,?_,trivial⟩
       ·refine e_alloc (cs:=[(iV 0)]) hF hS rfl rfl rfl rfl fun a w b27 hF hS=>e_one 11 (by kernel_rfl) (e_alloc (cs:=[(iV 0)]) hF hS rfl rfl rfl rfl fun a w b28 hF hS=>e_one 12 (by kernel_rfl) (e_store (vs:=[(iV e_20)]) (cs':=[(iV e_20)]) 1 0 hF hS rfl rfl sz3 rfl rfl rfl rfl rfl rfl rfl rfl fun a w hF hS=>⟨⟨kpN,fun _=>hS.vis.of_le (Mem.le.refl _)⟩,?_⟩))
        refine e_one 13 (by kernel_rfl) (e_store (vs:=[(iV e_25)]) (cs':=[(iV e_25)]) 0 0 hF hS rfl rfl sz3 rfl rfl rfl rfl rfl rfl rfl rfl fun a w hF hS=>⟨⟨kpN,fun _=>hS.vis.of_le (Mem.le.refl _)⟩,?_⟩)
        refine e_end (by kernel_rfl) (n_jn ?_) _
        obtain rfl:=someI hj6
        exact ⟨b28,b27,_,_,rfl,hF.sub ⟨rfl,rfl,rfl,rfl,rfl,rfl,rfl,rfl,trivial⟩,hS.sel [2,0,1,4,5] (by decide)⟩
       ·refine e_alloc (cs:=[(iV 0)]) hF hS rfl rfl rfl rfl fun a w b28 hF hS=>e_one 10 (by kernel_rfl) (e_alloc (cs:=[(iV 0)]) hF hS rfl rfl rfl rfl fun a w b27 hF hS=>e_one 12 (by kernel_rfl) (e_store (vs:=[(iV e_20)]) (cs':=[(iV e_20)]) 0 0 hF hS rfl rfl sz3 rfl rfl rfl rfl rfl rfl rfl rfl fun a w hF hS=>⟨⟨kpN,fun _=>hS.vis.of_le (Mem.le.refl _)⟩,?_⟩))
        refine e_one 13 (by kernel_rfl) (e_store (vs:=[(iV e_25)]) (cs':=[(iV e_25)]) 1 0 hF hS rfl rfl sz3 rfl rfl rfl rfl rfl rfl rfl rfl fun a w hF hS=>⟨⟨kpN,fun _=>hS.vis.of_le (Mem.le.refl _)⟩,?_⟩)
        refine e_end (by kernel_rfl) (n_jn ?_) _
        obtain rfl:=someI hj6
        exact ⟨b28,b27,_,_,rfl,hF.sub ⟨rfl,rfl,rfl,rfl,rfl,rfl,rfl,rfl,trivial⟩,hS.sel [2,1,0,4,5] (by decide)⟩
      ·refine e_alloc (cs:=[(iV 0)]) hF hS rfl rfl rfl rfl fun a w b27 hF hS=>e_all [7,11] (by kernel_rfl) rfl ⟨?_,?_,trivial⟩
       ·refine e_lx (v:=s24.v) hF hS rfl (ex_loadE1 0 U48 rfl rfl (at23.at 2 rfl) rfl rfl) rfl rfl fun a hF=>?_
        obtain ⟨vs26,at26,d26⟩:=h24.at he_25 1 rfl
        obtain rfl : vs26 = [(iV e_25)]:=d26
        refine e_P (v:=(elP s24 ((1 : Int).toNat * 1))) 8 hF rfl (ex_indexAddr U48 sz3 rfl rfl (h24.idx he_25)) fun a hF=>e_xm (v:=(iV e_25)) 9 hF hS (Mem.le.refl _) rfl (ex_loadE1 0 U3 rfl rfl ((at26).at) rfl rfl) rfl rfl (by kernel_rfl) (by kernel_rfl) (by kernel_rfl) fun a hF=>e_one 11 (by kernel_rfl) (e_alloc (cs:=[(iV 0)]) hF hS rfl rfl rfl rfl fun a w b28 hF hS=>e_one 12 (by kernel_rfl) (e_store (vs:=[(iV e_20)]) (cs':=[(iV e_20)]) 1 0 hF hS rfl rfl sz3 rfl rfl rfl rfl rfl rfl rfl rfl fun a w hF hS=>⟨⟨kpN,fun _=>hS.vis.of_le (Mem.le.refl _)⟩,?_⟩))
        refine e_one 13 (by kernel_rfl) (e_store (vs:=[(iV e_25)]) (cs':=[(iV e_25)]) 0 0 hF hS rfl rfl sz3 rfl rfl rfl rfl rfl rfl rfl rfl fun a w hF hS=>⟨⟨kpN,fun _=>hS.vis.of_le (Mem.le.refl _)⟩,?_⟩)
        refine e_end (by kernel_rfl) (n_jn ?_) _
        obtain rfl:=someI hj6
        exact ⟨b28,b27,_,_,rfl,hF.sub ⟨rfl,rfl,rfl,rfl,rfl,rfl,rfl,rfl,trivial⟩,hS.sel [2,0,1,4,5] (by decide)⟩
       ·refine e_alloc (cs:=[(iV 0)]) hF hS rfl rfl rfl rfl fun a w b28 hF hS=>e_all [7,12] (by kernel_rfl) rfl ⟨?_,?_,trivial⟩
        ·refine e_lx (v:=s24.v) hF hS rfl (ex_loadE1 0 U48 rfl rfl (at23.at 3 rfl) rfl rfl) rfl rfl fun a hF=>?_
         obtain ⟨vs26,at26,d26⟩:=h24.at he_25 1 rfl
         obtain rfl : vs26 = [(iV e_25)]:=d26
         refine e_P (v:=(elP s24 ((1 : Int).toNat * 1))) 8 hF rfl (ex_indexAddr U48 sz3 rfl rfl (h24.idx he_25)) fun a hF=>e_xm (v:=(iV e_25)) 9 hF hS (Mem.le.refl _) rfl (ex_loadE1 0 U3 rfl rfl ((at26).at) rfl rfl) rfl rfl (by kernel_rfl) (by kernel_rfl) (by kernel_rfl) fun a hF=>e_one 12 (by kernel_rfl) (e_store (vs:=[(iV e_20)]) (cs':=[(iV e_20)]) 1 0 hF hS rfl rfl sz3 rfl rfl rfl rfl rfl rfl rfl rfl fun a w hF hS=>⟨⟨kpN,fun _=>hS.vis.of_le (Mem.le.refl _)⟩,?_⟩)
         refine e_one 13 (by kernel_rfl) (e_store (vs:=[(iV e_25)]) (cs':=[(iV e_25)]) 0 0 hF hS rfl rfl sz3 rfl rfl rfl rfl rfl rfl rfl rfl fun a w hF hS=>⟨⟨kpN,fun _=>hS.vis.of_le (Mem.le.refl _)⟩,?_⟩)
         refine e_end (by kernel_rfl) (n_jn ?_) _
         obtain rfl:=someI hj6
         exact ⟨b28,b27,_,_,rfl,hF.sub ⟨rfl,rfl,rfl,rfl,rfl,rfl,rfl,rfl,trivial⟩,hS.sel [2,0,1,4,5] (by decide)⟩
        ·refine e_store (vs:=[(iV e_20)]) (cs':=[(iV e_20)]) 1 0 hF hS rfl rfl sz3 rfl rfl rfl rfl rfl rfl rfl rfl fun a w hF hS=>⟨⟨kpN,fun _=>hS.vis.of_le (Mem.le.refl _)⟩,?_⟩
         refine e_X (v:=s24.v) 7 hF hS rfl (ex_loadE1 0 U48 rfl rfl (at23.at 3 rfl) rfl rfl) fun a hF=>?_
         obtain ⟨vs26,at26,d26⟩:=h24.at he_25 1 rfl
         obtain rfl : vs26 = [(iV e_25)]:=d26
         refine e_P (v:=(elP s24 ((1 : Int).toNat * 1))) 8 hF rfl (ex_indexAddr U48 sz3 rfl rfl (h24.idx he_25)) fun a hF=>e_xm (v:=(iV e_25)) 9 hF hS (Mem.le.refl _) rfl (ex_loadE1 0 U3 rfl rfl ((at26).at) rfl rfl) rfl rfl (by kernel_rfl) (by kernel_rfl) (by kernel_rfl) fun a hF=>e_one 13 (by kernel_rfl) (e_store (vs:=[(iV e_25)]) (cs':=[(iV e_25)]) 0 0 hF hS rfl rfl sz3 rfl rfl rfl rfl rfl rfl rfl rfl fun a w hF hS=>⟨⟨kpN,fun _=>hS.vis.of_le (Mem.le.refl _)⟩,?_⟩)
         refine e_end (by kernel_rfl) (n_jn ?_) _
         obtain rfl:=someI hj6
         exact ⟨b28,b27,_,_,rfl,hF.sub ⟨rfl,rfl,rfl,rfl,rfl,rfl,rfl,rfl,trivial⟩,hS.sel [2,0,1,4,5] (by decide)⟩
      ·refine e_alloc (cs:=[(iV 0)]) hF hS rfl rfl rfl rfl fun a w b28 hF hS=>e_all [7,10] (by kernel_rfl) rfl ⟨?_,?_,trivial⟩
       ·refine e_lx (v:=s24.v) hF hS rfl (ex_loadE1 0 U48 rfl rfl (at23.at 2 rfl) rfl rfl) rfl rfl fun a hF=>?_
        obtain ⟨vs26,at26,d26⟩:=h24.at he_25 1 rfl
        obtain rfl : vs26 = [(iV e_25)]:=d26
        refine e_P (v:=(elP s24 ((1 : Int).toNat * 1))) 8 hF rfl (ex_indexAddr U48 sz3 rfl rfl (h24.idx he_25)) fun a hF=>e_xm (v:=(iV e_25)) 9 hF hS (Mem.le.refl _) rfl (ex_loadE1 0 U3 rfl rfl ((at26).at) rfl rfl) rfl rfl (by kernel_rfl) (by kernel_rfl) (by kernel_rfl) fun a hF=>e_one 10 (by kernel_rfl) (e_alloc (cs:=[(iV 0)]) hF hS rfl rfl rfl rfl fun a w b27 hF hS=>e_one 12 (by kernel_rfl) (e_store (vs:=[(iV e_20)]) (cs':=[(iV e_20)]) 0 0 hF hS rfl rfl sz3 rfl rfl rfl rfl rfl rfl rfl rfl fun a w hF hS=>⟨⟨kpN,fun _=>hS.vis.of_le (Mem.le.refl _)⟩,?_⟩))
        refine e_one 13 (by kernel_rfl) (e_store (vs:=[(iV e_25)]) (cs':=[(iV e_25)]) 1 0 hF hS rfl rfl sz3 rfl rfl rfl rfl rfl rfl rfl rfl fun a w hF hS=>⟨⟨kpN,fun _=>hS.vis.of_le (Mem.le.refl _)⟩,?_⟩)
        refine e_end (by kernel_rfl) (n_jn ?_) _
        obtain rfl:=someI hj6
        exact ⟨b28,b27,_,_,rfl,hF.sub ⟨rfl,rfl,rfl,rfl,rfl,rfl,rfl,rfl,trivial⟩,hS.sel [2,1,0,4,5] (by decide)⟩
       ·refine e_alloc (cs:=[(iV 0)]) hF hS rfl rfl rfl rfl fun a w b27 hF hS=>e_all [7,12] (by kernel_rfl) rfl ⟨?_,?_,trivial⟩
        ·refine e_lx (v:=s24.v) hF hS rfl (ex_loadE1 0 U48 rfl rfl (at23.at 3 rfl) rfl rfl) rfl rfl fun a hF=>?_
         obtain ⟨vs26,at26,d26⟩:=h24.at he_25 1 rfl
         obtain rfl : vs26 = [(iV e_25)]:=d26
         refine e_P (v:=(elP s24 ((1 : Int).toNat * 1))) 8 hF rfl (ex_indexAddr U48 sz3 rfl rfl (h24.idx he_25)) fun a hF=>e_xm (v:=(iV e_25)) 9 hF hS (Mem.le.refl _) rfl (ex_loadE1 0 U3 rfl rfl ((at26).at) rfl rfl) rfl rfl (by kernel_rfl) (by kernel_rfl) (by kernel_rfl) fun a hF=>e_one 12 (by kernel_rfl) (e_store (vs:=[(iV e_20)]) (cs':=[(iV e_20)]) 0 0 hF hS rfl rfl sz3 rfl rfl rfl rfl rfl rfl rfl rfl fun a w hF hS=>⟨⟨kpN,fun _=>hS.vis.of_le (Mem.le.refl _)⟩,?_⟩)
         refine e_one 13 (by kernel_rfl) (e_store (vs:=[(iV e_25)]) (cs':=[(iV e_25)]) 1 0 hF hS rfl rfl sz3 rfl rfl rfl rfl rfl rfl rfl rfl fun a w hF hS=>⟨⟨kpN,fun _=>hS.vis.of_le (Mem.le.refl _)⟩,?_⟩)
         refine e_end (by kernel_rfl) (n_jn ?_) _
         obtain rfl:=someI hj6
         exact ⟨b28,b27,_,_,rfl,hF.sub ⟨rfl,rfl,rfl,rfl,rfl,rfl,rfl,rfl,trivial⟩,hS.sel [2,1,0,4,5] (by decide)⟩
        ·refine e_store (vs:=[(iV e_20)]) (cs':=[(iV e_20)]) 0 0 hF hS rfl rfl sz3 rfl rfl rfl rfl rfl rfl rfl rfl fun a w hF hS=>⟨⟨kpN,fun _=>hS.vis.of_le (Mem.le.refl _)⟩,?_⟩
         refine e_X (v:=s24.v) 7 hF hS rfl (ex_loadE1 0 U48 rfl rfl (at23.at 3 rfl) rfl rfl) fun a hF=>?_
         obtain ⟨vs26,at26,d26⟩:=h24.at he_25 1 rfl
         obtain rfl : vs26 = [(iV e_25)]:=d26
         refine e_P (v:=(elP s24 ((1 : Int).toNat * 1))) 8 hF rfl (ex_indexAddr U48 sz3 rfl rfl (h24.idx he_25)) fun a hF=>e_xm (v:=(iV e_25)) 9 hF hS (Mem.le.refl _) rfl (ex_loadE1 0 U3 rfl rfl ((at26).at) rfl rfl) rfl rfl (by kernel_rfl) (by kernel_rfl) (by kernel_rfl) fun a hF=>e_one 13 (by kernel_rfl) (e_store (vs:=[(iV e_25)]) (cs':=[(iV e_25)]) 1 0 hF hS rfl rfl sz3 rfl rfl rfl rfl rfl rfl rfl rfl fun a w hF hS=>⟨⟨kpN,fun _=>hS.vis.of_le (Mem.le.refl _)⟩,?_⟩)
         refine e_end (by kernel_rfl) (n_jn ?_) _
         obtain rfl:=someI hj6
         exact ⟨b28,b27,_,_,rfl,hF.sub ⟨rfl,rfl,rfl,rfl,rfl,rfl,rfl,rfl,trivial⟩,hS.sel [2,1,0,4,5] (by decide)⟩
     ·rintro a w ⟨b28,b27,j_29,i_30,rfl,hF,hS⟩
      refine n_sq ?_
      refine q_sr (q_m hF rfl fun a hF=>q_y (v:=(pP b10 0)) hF hS (ex_fieldAddr U27 rfl sz23 rfl rfl) fun a hF=>q_y (v:=s9.v) hF hS (ex_load1 3 0 U23 rfl rfl rfl rfl) fun a hF=>q_y (v:=(.func (.func 47) #[] #[(pP b27 0)])) hF hS (ex_makeFunc rfl) fun a hF=>?_)
      have hS : St _ _ _ _ [q12,[⟨b27,[(iV i_30)],3⟩],[⟨b28,[(iV j_29)],3⟩],[⟨b10,[s9.v,(iV plan_11.Added),(iV plan_11.Value)],27⟩],[⟨b3,[nilS.v,(iV 0),(iV 0)],27⟩]]:=hS.sel [0,2,1,3,4] (by decide)
      have hS31 : St _ _ _ _ ([q12,[⟨b27,[(iV i_30)],3⟩]]++[[⟨b28,[(iV j_29)],3⟩],[⟨b10,[s9.v,(iV plan_11.Added),(iV plan_11.Value)],27⟩],[⟨b3,[nilS.v,(iV 0),(iV 0)],27⟩]]):=hS
      have hE31:=hS31.enter
      obtain ⟨t_32,ht_32,hb4⟩:=bindS hb4
      refine q_do rfl fun _ hK=>wp_callX (vs:=[s1.v,s9.v,(.func (.func 47) #[] #[(pP b27 0)])]) hF Tryz.func46 (by kernel_rfl) rfl rfl rfl (c_impl_cheapestCell_own_of_impl_GreedyPlan_1 p_x plan_11.Pattern i_30 t_32 ht_32 _ m14' b27 s1 ((h1.mono hm13.le).mono hm14.le) s9 q12 (h12.mono hm14.le) _ hE31) fun a w _ hR hF=>hK _ _ ?_
      obtain ⟨m31',s33,rfl,hm31,hR31,h33,h33n⟩:=hR
      have hS : St _ _ _ _ [q12,[⟨b27,[(iV i_30)],3⟩],[⟨b28,[(iV j_29)],3⟩],[⟨b10,[s9.v,(iV plan_11.Added),(iV plan_11.Value)],27⟩],[⟨b3,[nilS.v,(iV 0),(iV 0)],27⟩]]:=hS31.leave hR31 hm31
      have hm31:=MLe.weakX hS31 hm31
      refine q_s hF rfl fun a hF=>q_end (n_sq (q_seq (q_sr (q_m hF rfl fun a hF=>q_y (v:=(.bool t_32.isEmpty)) hF hS (ex_eqNilF U48 h33n h33.nilE rfl rfl) fun a hF=>q_end (n_sq ?_)))))
      obtain ⟨next_37,hj7,hb4⟩:=bindS hb4
      refine q_join (fun a w=>∃ (m39 : Mem),∃ (s38 : Sl),Fr a 101 [(0,s1.v),(1,s2.v),(2,(iV p_down)),(3,(iV p_up)),(8,(pP b3 0)),(10,(pP b10 0)),(14,s38.v)]∧St [] w0 w m39 [q12,[⟨b10,[s9.v,(iV plan_11.Added),(iV plan_11.Value)],27⟩],[⟨b3,[nilS.v,(iV 0),(iV 0)],27⟩]]∧MLe [] w0.heap.size m31' m39∧Rd m39 s38 next_37∧NF s38 next_37) ?_ ?_
      ·rcases bcase (t_32.isEmpty) with hc8 | hc8
       ·have hj7:=cond_f hc8 hj7
        refine q_cond_f hF rfl hc8 (q_skipc (n_jn ?_))
        obtain rfl:=someI hj7
        exact ⟨m31',s33,hF.sub ⟨rfl,rfl,rfl,rfl,rfl,rfl,rfl,trivial⟩,hS.mask [true,false,false,true,true],(MLe.refl _ _),h33,h33n⟩
       ·have hj7:=cond_t hc8 hj7
        refine q_cond_t hF rfl hc8 (q_region (q_m hF rfl fun a hF=>q_y (v:=(pP b10 0)) hF hS (ex_fieldAddr U27 rfl sz23 rfl rfl) fun a hF=>q_y (v:=s9.v) hF hS (ex_load1 3 0 U23 rfl rfl rfl rfl) fun a hF=>q_y (v:=(.func (.func 48) #[] #[(pP b28 0)])) hF hS (ex_makeFunc rfl) fun a hF=>?_))
        have hS : St _ _ _ _ [q12,[⟨b28,[(iV j_29)],3⟩],[⟨b27,[(iV i_30)],3⟩],[⟨b10,[s9.v,(iV plan_11.Added),(iV plan_11.Value)],27⟩],[⟨b3,[nilS.v,(iV 0),(iV 0)],27⟩]]:=hS.sel [0,2,1,3,4] (by decide)
        have hS34 : St _ _ _ _ ([q12,[⟨b28,[(iV j_29)],3⟩]]++[[⟨b27,[(iV i_30)],3⟩],[⟨b10,[s9.v,(iV plan_11.Added),(iV plan_11.Value)],27⟩],[⟨b3,[nilS.v,(iV 0),(iV 0)],27⟩]]):=hS
        have hE34:=hS34.enter
        obtain ⟨t_35,ht_35,hj7⟩:=bindS hj7
        refine q_do rfl fun _ hK=>wp_callX (vs:=[s1.v,s9.v,(.func (.func 48) #[] #[(pP b28 0)])]) hF Tryz.func46 (by kernel_rfl) rfl rfl rfl (c_impl_cheapestCell_own_of_impl_GreedyPlan_2 p_x plan_11.Pattern j_29 t_35 ht_35 _ m31' b28 s1 (((h1.mono hm13.le).mono hm14.le).mono hm31.le) s9 q12 ((h12.mono hm14.le).mono hm31.le) _ hE34) fun a w _ hR hF=>hK _ _ ?_
        obtain ⟨m34',s36,rfl,hm34,hR34,h36,h36n⟩:=hR
        have hS : St _ _ _ _ [q12,[⟨b28,[(iV j_29)],3⟩],[⟨b27,[(iV i_30)],3⟩],[⟨b10,[s9.v,(iV plan_11.Added),(iV plan_11.Value)],27⟩],[⟨b3,[nilS.v,(iV 0),(iV 0)],27⟩]]:=hS34.leave hR34 hm34
        have hm34:=MLe.weakX hS34 hm34
        refine q_s hF rfl fun a hF=>q_end (n_jn ?_)
        obtain rfl:=someI hj7
        exact ⟨m34',s36,hF.sub ⟨rfl,rfl,rfl,rfl,rfl,rfl,rfl,trivial⟩,hS.mask [true,false,false,true,true],hm34,h36,h36n⟩
      ·rintro a w ⟨m39,s38,hF,hS,hm39,h38,h38n⟩
       refine n_sq ?_
       refine q_seq (q_sr (q_m hF rfl fun a hF=>q_y (v:=(.bool next_37.isEmpty)) hF hS (ex_eqNilF U48 h38n h38.nilE rfl rfl) fun a hF=>q_end (n_sq ?_)))
       obtain ⟨next_43,hj9,hb4⟩:=bindS hb4
       refine q_join (fun a w=>∃ (m45 : Mem),∃ (s44 : Sl),Fr a 101 [(0,s1.v),(1,s2.v),(2,(iV p_down)),(3,(iV p_up)),(8,(pP b3 0)),(10,(pP b10 0)),(14,s44.v)]∧St [] w0 w m45 [q12,[⟨b10,[s9.v,(iV plan_11.Added),(iV plan_11.Value)],27⟩],[⟨b3,[nilS.v,(iV 0),(iV 0)],27⟩]]∧MLe [] w0.heap.size m39 m45∧Rd m45 s44 next_43∧NF s44 next_43) ?_ ?_
       ·rcases bcase (next_37.isEmpty) with hc10 | hc10
        ·have hj9:=cond_f hc10 hj9
         refine q_cond_f hF rfl hc10 (q_skipc (n_jn ?_))
         obtain rfl:=someI hj9
         exact ⟨m39,s38,hF.sub ⟨rfl,rfl,rfl,rfl,rfl,rfl,rfl,trivial⟩,hS,(MLe.refl _ _),h38,h38n⟩
        ·have hj9:=cond_t hc10 hj9
         refine q_cond_t hF rfl hc10 (q_region (q_m hF rfl fun a hF=>q_y (v:=(pP b10 0)) hF hS (ex_fieldAddr U27 rfl sz23 rfl rfl) fun a hF=>q_y (v:=s9.v) hF hS (ex_load1 1 0 U23 rfl rfl rfl rfl) fun a hF=>?_))
         have hS40 : St _ _ _ _ ([q12]++[[⟨b10,[s9.v,(iV plan_11.Added),(iV plan_11.Value)],27⟩],[⟨b3,[nilS.v,(iV 0),(iV 0)],27⟩]]):=hS
         have hE40:=hS40.enter
         obtain ⟨t_41,ht_41,hj9⟩:=bindS hj9
         refine q_do rfl fun _ hK=>wp_callX (vs:=[s1.v,s9.v,(.func (.func 49) #[] #[])]) hF Tryz.func46 (by kernel_rfl) rfl rfl rfl (c_impl_cheapestCell_own_of_impl_GreedyPlan_3 p_x plan_11.Pattern t_41 ht_41 _ m39 s1 ((((h1.mono hm13.le).mono hm14.le).mono hm31.le).mono hm39.le) s9 q12 (((h12.mono hm14.le).mono hm31.le).mono hm39.le) _ hE40) fun a w _ hR hF=>hK _ _ ?_
         obtain ⟨m40',s42,rfl,hm40,hR40,h42,h42n⟩:=hR
         have hS : St _ _ _ _ [q12,[⟨b10,[s9.v,(iV plan_11.Added),(iV plan_11.Value)],27⟩],[⟨b3,[nilS.v,(iV 0),(iV 0)],27⟩]]:=hS40.leave hR40 hm40
         have hm40:=MLe.weakX hS40 hm40
         refine q_s hF rfl fun a hF=>q_end (n_jn ?_)
         obtain rfl:=someI hj9
         exact ⟨m40',s42,hF.sub ⟨rfl,rfl,rfl,rfl,rfl,rfl,rfl,trivial⟩,hS,hm40,h42,h42n⟩
       ·rintro a w ⟨m45,s44,hF,hS,hm45,h44,h44n⟩
        refine n_sq ?_
        refine q_seq (q_sr (q_m hF rfl fun a hF=>q_y (v:=(.bool next_43.isEmpty)) hF hS (ex_eqNilF U48 h44n h44.nilE rfl rfl) fun a hF=>q_end (n_sq ?_)))
        rcases bcase (next_43.isEmpty) with hc11 | hc11
        ·have hb4:=cond_f hc11 hb4
         refine q_cond_f hF rfl hc11 (q_skipc (n_sq (q_seq (e_region ⟨[11],[b10],m45⟩ mixed fun w' hw'=>?_))))
         have hS:=hS.below hw'
         refine e_P (v:=(pP b10 0)) 0 hF rfl (ex_fieldAddr U27 rfl sz23 rfl rfl) fun a hF=>e_xb (v:=s9.v) 1 1 hF hS (.head _) rfl rfl (ex_load1 0 0 U23 rfl rfl rfl rfl) rfl rfl (by kernel_rfl) (by kernel_rfl) (by kernel_rfl) fun a hF=>e_P (v:=s44.v) 2 hF rfl (ex_move rfl) fun a hF=>?_
         obtain ⟨e_46,he_46,hb4⟩:=bindS hb4
         obtain ⟨vs47,at47,d47⟩:=h44.at he_46 1 rfl
         obtain rfl : vs47 = [(iV e_46)]:=d47
         refine e_P (v:=(elP s44 ((0 : Int).toNat * 1))) 3 hF rfl (ex_indexAddr U48 sz3 rfl rfl (h44.idx he_46)) fun a hF=>e_xm (v:=(iV e_46)) 4 hF hS (Mem.le.refl _) rfl (ex_loadE1 0 U3 rfl rfl ((at47).at) rfl rfl) rfl rfl (by kernel_rfl) (by kernel_rfl) (by kernel_rfl) fun a hF=>?_
         obtain ⟨e_48,he_48,hb4⟩:=bindS hb4
         obtain ⟨s49,hV49⟩:=((((h12.mono hm14.le).mono hm31.le).mono hm39.le).mono hm45.le).view he_48
         refine e_P (v:=(elP s9 (e_46.toNat * 1))) 5 hF rfl (ex_indexAddr U23 sz48 rfl rfl (((((h12.mono hm14.le).mono hm31.le).mono hm39.le).mono hm45.le).idx he_48)) fun a hF=>e_X (v:=s49.v) 6 hF hS rfl (ex_loadE1 0 U48 rfl rfl ((hV49.atH he_48).at 0 rfl) rfl rfl) fun a hF=>e_P (v:=s44.v) 7 hF rfl (ex_move rfl) fun a hF=>?_
         obtain ⟨e_50,he_50,hb4⟩:=bindS hb4
         obtain ⟨vs51,at51,d51⟩:=h44.at he_50 1 rfl
         obtain rfl : vs51 = [(iV e_50)]:=d51
         refine e_P (v:=(elP s44 ((1 : Int).toNat * 1))) 8 hF rfl (ex_indexAddr U48 sz3 rfl rfl (h44.idx he_50)) fun a hF=>e_xm (v:=(iV e_50)) 9 hF hS (Mem.le.refl _) rfl (ex_loadE1 0 U3 rfl rfl ((at51).at) rfl rfl) rfl rfl (by kernel_rfl) (by kernel_rfl) (by kernel_rfl) fun a hF=>?_
         obtain ⟨e_52,he_52,hb4⟩:=bindS hb4
         obtain ⟨vs53,at53,d53⟩:=hV49.at he_48 he_52 1 rfl
         obtain rfl : vs53 = [(iV e_52)]:=d53
         refine e_P (v:=(elP s49 (e_50.toNat * 1))) 10 hF rfl (ex_indexAddr U48 sz3 rfl rfl (hV49.idx he_48 he_52)) fun a hF=>e_one 11 (by kernel_rfl) ?_
         have hSo:=hS
         refine e_opl rfl rfl rfl fun _ hK=>wp_storeV (e':=1) (us:=[(iV 1)]) (vs:=[(iV e_52)]) 0 hF hS hV49 he_48 sz3 rfl rfl rfl rfl rfl rfl rfl he_52 at53 rfl rfl rfl fun w q54 hS h54=>hK _ _ (⟨⟨kpC hSo hS 1 1 rfl rfl kpN,fun _=>hS.vis.of_le (Mem.le.refl _)⟩,?_⟩)
         refine e_end (by kernel_rfl) (n_sq ?_) _
         refine q_sr (q_y (v:=(pP b10 1)) hF hS (ex_fieldAddr U27 rfl sz3 rfl rfl) fun a hF=>q_y (v:=(iV plan_11.Added)) hF hS (ex_load1 1 0 U3 rfl rfl rfl rfl) fun a hF=>q_y (v:=(iV (w64 (plan_11.Added + 1)))) hF hS (ex_ibin rfl rfl rfl) fun a hF=>q_y (v:=(pP b10 1)) hF hS (ex_fieldAddr U27 rfl sz3 rfl rfl) fun a hF=>q_store (vs:=[(iV (w64 (plan_11.Added + 1)))]) (cs':=[s9.v,(iV (w64 (plan_11.Added + 1))),(iV plan_11.Value)]) 1 0 hF hS sz3 rfl rfl rfl rfl rfl rfl rfl rfl fun a w hF hS=>q_end (n_sq (e_region ⟨[15],[],m45⟩ mixed fun w' hw'=>?_)))
         have hS:=hS.below hw'
         refine e_P (v:=(pP b10 2)) 0 hF rfl (ex_fieldAddr U27 rfl sz3 rfl rfl) fun a hF=>e_X (v:=(iV plan_11.Value)) 1 hF hS rfl (ex_load1 1 0 U3 rfl rfl rfl rfl) fun a hF=>e_P (v:=s1.v) 2 hF rfl (ex_move rfl) fun a hF=>e_P (v:=s44.v) 3 hF rfl (ex_move rfl) fun a hF=>?_
         obtain ⟨e_55,he_55,hb4⟩:=bindS hb4
         obtain ⟨vs56,at56,d56⟩:=h44.at he_55 1 rfl
         obtain rfl : vs56 = [(iV e_55)]:=d56
         refine e_P (v:=(elP s44 ((0 : Int).toNat * 1))) 4 hF rfl (ex_indexAddr U48 sz3 rfl rfl (h44.idx he_55)) fun a hF=>e_xm (v:=(iV e_55)) 5 hF hS (Mem.le.refl _) rfl (ex_loadE1 0 U3 rfl rfl ((at56).at) rfl rfl) rfl rfl (by kernel_rfl) (by kernel_rfl) (by kernel_rfl) fun a hF=>?_
         obtain ⟨e_57,he_57,hb4⟩:=bindS hb4
         obtain ⟨vs58,at58,d58⟩:=h1.at he_57 1 rfl
         obtain ⟨s59,rfl,h59⟩ : ∃ s59 : Sl,vs58 = [s59.v]∧Rd m s59 e_57:=d58
         refine e_P (v:=(elP s1 (e_55.toNat * 1))) 6 hF rfl (ex_indexAddr U23 sz48 rfl rfl ((((((h1.mono hm13.le).mono hm14.le).mono hm31.le).mono hm39.le).mono hm45.le).idx he_57)) fun a hF=>e_xm (v:=s59.v) 7 hF hS (Mem.le.refl _) rfl (ex_loadE1 0 U48 rfl rfl (((((((at58.mono hm13.le).mono hm14.le).mono hm31.le).mono hm39.le).mono hm45.le)).at) rfl rfl) rfl rfl (by kernel_rfl) (by kernel_rfl) (by kernel_rfl) fun a hF=>e_P (v:=s44.v) 8 hF rfl (ex_move rfl) fun a hF=>?_
         obtain ⟨e_60,he_60,hb4⟩:=bindS hb4
         obtain ⟨vs61,at61,d61⟩:=h44.at he_60 1 rfl
         obtain rfl : vs61 = [(iV e_60)]:=d61
         refine e_P (v:=(elP s44 ((1 : Int).toNat * 1))) 9 hF rfl (ex_indexAddr U48 sz3 rfl rfl (h44.idx he_60)) fun a hF=>e_xm (v:=(iV e_60)) 10 hF hS (Mem.le.refl _) rfl (ex_loadE1 0 U3 rfl rfl ((at61).at) rfl rfl) rfl rfl (by kernel_rfl) (by kernel_rfl) (by kernel_rfl) fun a hF=>?_
         obtain ⟨e_62,he_62,hb4⟩:=bindS hb4
         obtain ⟨vs63,at63,d63⟩:=h59.at he_62 1 rfl
         obtain rfl : vs63 = [(iV e_62)]:=d63
         refine e_P (v:=(elP s59 (e_60.toNat * 1))) 11 hF rfl (ex_indexAddr U48 sz3 rfl rfl ((((((h59.mono hm13.le).mono hm14.le).mono hm31.le).mono hm39.le).mono hm45.le).idx he_62)) fun a hF=>e_xm (v:=(iV e_62)) 12 hF hS (Mem.le.refl _) rfl (ex_loadE1 0 U3 rfl rfl (((((((at63.mono hm13.le).mono hm14.le).mono hm31.le).mono hm39.le).mono hm45.le)).at) rfl rfl) rfl rfl (by kernel_rfl) (by kernel_rfl) (by kernel_rfl) fun a hF=>e_P (v:=(iV (w64 (plan_11.Value + e_62)))) 13 hF rfl (ex_ibin rfl rfl rfl) fun a hF=>e_P (v:=(pP b10 2)) 14 hF rfl (ex_fieldAddr U27 rfl sz3 rfl rfl) fun a hF=>e_one 15 (by kernel_rfl) (e_store (vs:=[(iV (w64 (plan_11.Value + e_62)))]) (cs':=[s9.v,(iV (w64 (plan_11.Added + 1))),(iV (w64 (plan_11.Value + e_62)))]) 1 0 hF hS rfl rfl sz3 rfl rfl rfl rfl rfl rfl rfl rfl fun a w hF hS=>⟨⟨kpN,fun _=>hS.vis.of_le (Mem.le.refl _)⟩,?_⟩)
         refine e_end (by kernel_rfl) (n_ib ?_) _
         obtain rfl:=someI hb4
         exact ⟨rfl,m45,q54,hF.sub ⟨rfl,rfl,rfl,rfl,rfl,rfl,trivial⟩,hS,((((hm13.trans hm14).trans hm31).trans hm39).trans hm45),h54.own,(NF.set h12n)⟩
        ·have hb4:=cond_t hc11 hb4
         refine q_cond_t hF rfl hc11 (q_sr (q_y (v:=(.agg #[nilS.v,(iV 0),(iV 0)])) hF hS (ex_build (cells:=[nilS.v,(iV 0),(iV 0)]) rfl (by kernel_rfl)) fun a hF=>q_store (vs:=[nilS.v,(iV 0),(iV 0)]) (cs':=[nilS.v,(iV 0),(iV 0)]) 2 0 hF hS sz27 rfl rfl rfl rfl rfl rfl rfl rfl fun a w hF hS=>q_s hF rfl fun a hF=>q_end (n_sq (q_ret (r_sq (r_ib ?_))))))
         obtain rfl:=someI hb4
         refine ⟨nofun,.inr fun ho=>?_⟩
         subst ho
         refine r_ib ?_
         obtain rfl:=someI hr
         exact ret_of hF hS rfl (.cellA (us:=[nilS.v,(iV 0),(iV 0)]) 2 0 U27 rfl sz27 rfl rfl rfl rfl (.tmp rfl .nil)) ⟨m45,[],nilS,rfl,((((hm13.trans hm14).trans hm31).trans hm39).trans hm45),hS.sel [3] (by decide),(OwnD.nil (β:=Int) m45 48 3),(NF.nil)⟩
    ·have hb4:=cond_t hc5 hb4
     refine q_cond_t hF rfl hc5 (q_sr (q_y (v:=(.agg #[s9.v,(iV plan_11.Added),(iV plan_11.Value)])) hF hS (ex_loadA (vs:=[s9.v,(iV plan_11.Added),(iV plan_11.Value)]) 2 0 U27 rfl sz27 rfl rfl rfl rfl) fun a hF=>q_store (vs:=[s9.v,(iV plan_11.Added),(iV plan_11.Value)]) (cs':=[s9.v,(iV plan_11.Added),(iV plan_11.Value)]) 3 0 hF hS sz27 rfl rfl rfl rfl rfl rfl rfl rfl fun a w hF hS=>q_s hF rfl fun a hF=>q_end (n_sq (q_ret (r_sq (r_ib ?_))))))
     obtain rfl:=someI hb4
     refine ⟨nofun,.inr fun ho=>?_⟩
     subst ho
     refine r_ib ?_
     obtain rfl:=someI hr
     exact ret_of hF hS rfl (.cellA (us:=[s9.v,(iV plan_11.Added),(iV plan_11.Value)]) 3 0 U27 rfl sz27 rfl rfl rfl rfl (.tmp rfl .nil)) ⟨m14',q12,s9,rfl,(hm13.trans hm14),hS.sel [0] (by decide),(h12.mono hm14.le),h12n⟩
   ·rintro e a w h
    exact h.elim
  ·have hr:=cond_t hc3 hr
   refine q_cond_t hF rfl hc3 (q_sr (q_y (v:=(.agg #[nilS.v,(iV 0),(iV 0)])) hF hS (ex_build (cells:=[nilS.v,(iV 0),(iV 0)]) rfl (by kernel_rfl)) fun a hF=>q_store (vs:=[nilS.v,(iV 0),(iV 0)]) (cs':=[nilS.v,(iV 0),(iV 0)]) 0 0 hF hS sz27 rfl rfl rfl rfl rfl rfl rfl rfl fun a w hF hS=>q_s hF rfl fun a hF=>q_end (n_sq (q_ret (r_sq ?_)))))
   obtain rfl:=someI hr
   exact ret_of hF hS rfl (.cellA (us:=[nilS.v,(iV 0),(iV 0)]) 0 0 U27 rfl sz27 rfl rfl rfl rfl (.tmp rfl .nil)) ⟨m,[],nilS,rfl,(MLe.refl _ _),hS.sel [1] (by decide),(OwnD.nil (β:=Int) m 48 3),(NF.nil)⟩

theorem c_impl_UnprotectedCells (p_x : List (List Int)) (p_p : List (List Int)) (p_primary : List (List Int)) (p_down : Int) (p_up : Int) (r : (List (List Int)) × Bool) (hr : impl_UnprotectedCells p_x p_p p_primary p_down p_up = some r) (w0 : World) (m : Mem) (hv : Vis m w0) (s1 : Sl) (h1 : Rd m s1 p_x) (s2 : Sl) (h2 : Rd m s2 p_p) (s3 : Sl) (h3 : Rd m s3 p_primary) :
  Ret Tryz.prog 13 [s1.v,s2.v,s3.v,(iV p_down),(iV p_up)] w0 (fun v w=>∃ (m' : Mem) (q0' : Piece) (s0' : Sl),v = (.tuple #[s0'.v,(.bool r.2)])∧MLe [] w0.heap.size m m'∧St [] w0 w m' [q0']∧OwnL m' 48 q0' s0' r.1):=by
 unfold impl_UnprotectedCells at hr
 refine ret_start Tryz.func13 rfl 40 rfl rfl m hv fun a hF hS=>q_sr (q_s hF rfl fun a hF=>q_s hF rfl fun a hF=>q_end (n_sq (q_seq (q_seq ?_))))
 obtain ⟨t_8,hj1,hr⟩:=bindS hr
 refine q_join (fun a w=>Fr a 40 [(0,s1.v),(1,s2.v),(2,s3.v),(3,(iV p_down)),(4,(iV p_up)),(33,(.bool t_8))]∧St [] w0 w m []) ?_ ?_
 ·refine q_region (q_m hF rfl fun a hF=>q_m hF rfl fun a hF=>?_)
  obtain ⟨t_4,ht_4,hj1⟩:=bindS hj1
  refine q_call (vs:=[s1.v,s2.v]) hF hS Tryz.func15 (by kernel_rfl) rfl rfl rfl (c_impl_areSuppressed p_x p_p t_4 ht_4 _ m hS.vis s1 h1 s2 h2) ?_
  rintro a w _ rfl hF hS
  refine q_y (v:=(.bool (!t_4))) hF hS (ex_not rfl) fun a hF=>q_m hF rfl fun a hF=>?_
  rcases bcase (!t_4) with hc2 | hc2
  ·have hj1:=cond_f hc2 hj1
   refine q_g (v:=s1.v) hF hS (ex_move rfl) hc2 fun a hF=>q_g (v:=s3.v) hF hS (ex_move rfl) hc2 fun a hF=>?_
   obtain ⟨t_5,ht_5,hj1⟩:=bindS hj1
   refine q_callg (vs:=[s1.v,s3.v]) hF hS (wanted_t hF rfl rfl rfl hc2) Tryz.func38 (by kernel_rfl) rfl rfl rfl (c_impl_isPattern p_x p_primary t_5 ht_5 _ m hS.vis s1 h1 s3 h3) ?_
   rintro a w _ rfl hF hS
   refine q_g (v:=(.bool (!t_5))) hF hS (ex_not rfl) hc2 fun a hF=>q_y (v:=(.bool (!t_5))) hF hS (ex_pick_f rfl rfl hc2) fun a hF=>q_m hF rfl fun a hF=>?_
   rcases bcase (!t_5) with hc3 | hc3
   ·have hj1:=cond_f hc3 hj1
    refine q_g (v:=(iV p_down)) hF hS (ex_move rfl) hc3 fun a hF=>q_g (v:=(iV p_up)) hF hS (ex_move rfl) hc3 fun a hF=>?_
    obtain ⟨t_6,ht_6,hj1⟩:=bindS hj1
    refine q_callg (vs:=[(iV p_down),(iV p_up)]) hF hS (wanted_t hF rfl rfl rfl hc3) Tryz.func16 (by kernel_rfl) rfl rfl rfl (c_impl_areMargins p_down p_up t_6 ht_6 _ m hS.vis) ?_
    rintro a w _ rfl hF hS
    refine q_g (v:=(.bool (!t_6))) hF hS (ex_not rfl) hc3 fun a hF=>q_y (v:=(.bool (!t_6))) hF hS (ex_pick_f rfl rfl hc3) fun a hF=>q_m hF rfl fun a hF=>?_
    rcases bcase (!t_6) with hc4 | hc4
    ·have hj1:=cond_f hc4 hj1
     refine q_g (v:=s2.v) hF hS (ex_move rfl) hc4 fun a hF=>q_g (v:=s3.v) hF hS (ex_move rfl) hc4 fun a hF=>?_
     obtain ⟨t_7,ht_7,hj1⟩:=bindS hj1
     refine q_callg (vs:=[s2.v,s3.v]) hF hS (wanted_t hF rfl rfl rfl hc4) Tryz.func39 (by kernel_rfl) rfl rfl rfl (c_impl_covers p_p p_primary t_7 ht_7 _ m hS.vis s2 h2 s3 h3) ?_
     rintro a w _ rfl hF hS
     refine q_g (v:=(.bool (!t_7))) hF hS (ex_not rfl) hc4 fun a hF=>q_y (v:=(.bool (!t_7))) hF hS (ex_pick_f rfl rfl hc4) fun a hF=>q_end (n_jn ?_)
     obtain rfl:=someI hj1
     exact ⟨hF.sub ⟨rfl,rfl,rfl,rfl,rfl,rfl,trivial⟩,hS⟩
    ·have hj1:=cond_t hc4 hj1
     refine q_k hF hc4 fun a hF=>q_k hF hc4 fun a hF=>q_k hF hc4 fun a hF=>q_k hF hc4 fun a hF=>q_y (v:=(.bool true)) hF hS (ex_pick_t rfl rfl hc4) fun a hF=>q_end (n_jn ?_)
     obtain rfl:=someI hj1
     exact ⟨hF.sub ⟨rfl,rfl,rfl,rfl,rfl,rfl,trivial⟩,hS⟩
   ·have hj1:=cond_t hc3 hj1
    refine q_k hF hc3 fun a hF=>q_k hF hc3 fun a hF=>q_k hF hc3 fun a hF=>q_k hF hc3 fun a hF=>q_y (v:=(.bool true)) hF hS (ex_pick_t rfl rfl hc3) fun a hF=>q_m hF rfl fun a hF=>q_k hF rfl fun a hF=>q_k hF rfl fun a hF=>q_k hF rfl fun a hF=>q_k hF rfl fun a hF=>q_y (v:=(.bool true)) hF hS (ex_pick_t rfl rfl rfl) fun a hF=>q_end (n_jn ?_)
    obtain rfl:=someI hj1
    exact ⟨hF.sub ⟨rfl,rfl,rfl,rfl,rfl,rfl,trivial⟩,hS⟩
  ·have hj1:=cond_t hc2 hj1
   refine q_k hF hc2 fun a hF=>q_k hF hc2 fun a hF=>q_k hF hc2 fun a hF=>q_k hF hc2 fun a hF=>q_y (v:=(.bool true)) hF hS (ex_pick_t rfl rfl hc2) fun a hF=>q_m hF rfl fun a hF=>q_k hF rfl fun a hF=>q_k hF rfl fun a hF=>q_k hF rfl fun a hF=>q_k hF rfl fun a hF=>q_y (v:=(.bool true)) hF hS (ex_pick_t rfl rfl rfl) fun a hF=>q_m hF rfl fun a hF=>q_k hF rfl fun a hF=>q_k hF rfl fun a hF=>q_k hF rfl fun a hF=>q_k hF rfl fun a hF=>q_y (v:=(.bool true)) hF hS (ex_pick_t rfl rfl rfl) fun a hF=>q_end (n_jn ?_)
   obtain rfl:=someI hj1
   exact ⟨hF.sub ⟨rfl,rfl,rfl,rfl,rfl,rfl,trivial⟩,hS⟩
 ·rintro a w ⟨hF,hS⟩
  refine n_sq ?_
  rcases bcase (t_8) with hc5 | hc5
  ·have hr:=cond_f hc5 hr
   refine q_cond_f hF rfl hc5 (q_skipc (n_sq (q_sr (q_m hF rfl fun a hF=>q_m hF rfl fun a hF=>q_m hF rfl fun a hF=>q_m hF rfl fun a hF=>q_m hF rfl fun a hF=>?_))))
   obtain ⟨t_9,ht_9,hr⟩:=bindS hr
   refine q_call (vs:=[s1.v,s2.v,s3.v,(iV p_down),(iV p_up)]) hF hS Tryz.func45 (by kernel_rfl) rfl rfl rfl (c_impl_unprotected p_x p_p p_primary p_down p_up t_9 ht_9 _ m hS.vis s1 h1 s2 h2 s3 h3) ?_
   have hT:=hS
   rintro a w _ ⟨m10,q11,s11,rfl,hm10,hR10,h11⟩ hF hS2
   have hS : St _ _ _ _ [q11]:=hS.join hR10 hm10
   have hm10:=MLe.weakX (O0:=[]) hT hm10
   refine q_s hF rfl fun a hF=>q_s hF rfl fun a hF=>q_end (n_sq (q_ret ?_))
   obtain rfl:=someI hr
   exact ret_of hF hS rfl (.tmp rfl (.tmp rfl .nil)) ⟨m10,q11,s11,rfl,hm10,hS.sel [0] (by decide),h11⟩
  ·have hr:=cond_t hc5 hr
   refine q_cond_t hF rfl hc5 (q_sr (q_s hF rfl fun a hF=>q_s hF rfl fun a hF=>q_end (n_sq (q_ret (r_sq ?_)))))
   obtain rfl:=someI hr
   exact ret_of hF hS rfl (.tmp rfl (.tmp rfl .nil)) ⟨m,[],nilS,rfl,(MLe.refl _ _),hS.sel [0] (by decide),(OwnL.nil (α:=List Int) m 48)⟩

theorem c_laws_FnSuppressionPlans (p_code : List (K .u8)) (p_more : List (K .u8)) (r : Bool) (hr : laws_FnSuppressionPlans p_code p_more = some r) (w0 : World) (m : Mem) (hv : Vis m w0) (s1 : Sl) (h1 : Rd m s1 p_code) (s2 : Sl) (h2 : Rd m s2 p_more) :
  Ret Tryz.prog 3 [s1.v,s2.v] w0 (fun v _=>v = (.bool r)):=by
 unfold laws_FnSuppressionPlans at hr
 refine ret_start Tryz.func3 rfl 202 rfl rfl m hv fun a hF hS=>q_sr (q_s hF rfl fun a hF=>q_end (n_sq (q_seq (q_sr (q_m hF rfl fun a hF=>q_y (v:=(iV (goLen p_code))) hF hS (ex_len U22 rfl h1.len) fun a hF=>q_m hF rfl fun a hF=>q_y (v:=(iV (goLen p_more))) hF hS (ex_len U22 rfl h2.len) fun a hF=>q_y (v:=(iV (w64 ((goLen p_code) + (goLen p_more))))) hF hS (ex_ibin rfl rfl rfl) fun a hF=>q_y (v:=(.bool (decide (1048576 < (w64 ((goLen p_code) + (goLen p_more))))))) hF hS (ex_ibin rfl rfl rfl) fun a hF=>q_end (n_sq ?_))))))
 rcases bcase (decide (1048576 < (w64 ((goLen p_code) + (goLen p_more))))) with hc1 | hc1
 ·have hr:=cond_f hc1 hr
  refine q_cond_f hF rfl hc1 (q_skipc (n_sq (q_sr (q_m hF rfl fun a hF=>?_))))
  obtain ⟨t_3,ht_3,hr⟩:=bindS hr
  refine q_call (vs:=[s1.v]) hF hS Tryz.func4 (by kernel_rfl) rfl rfl rfl (c_spec_DrawLeastPlan p_code t_3 ht_3 _ m hS.vis s1 h1) ?_
  have hT:=hS
  rintro a w _ ⟨m4,s5,s6,rfl,hm4,hR4,h5,h6⟩ hF hS2
  have hS : St _ _ _ _ []:=hS.join hR4 hm4
  have hm4:=MLe.weakX (O0:=[]) hT hm4
  refine q_m hF rfl fun a hF=>q_y (v:=s5.v) hF hS (ex_extract rfl rfl) fun a hF=>q_y (v:=s6.v) hF hS (ex_extract rfl rfl) fun a hF=>q_y (v:=(iV t_3.2.2.1)) hF hS (ex_extract rfl rfl) fun a hF=>q_y (v:=(iV t_3.2.2.2)) hF hS (ex_extract rfl rfl) fun a hF=>q_s hF rfl fun a hF=>q_s hF rfl fun a hF=>q_s hF rfl fun a hF=>q_s hF rfl fun a hF=>q_end (n_sq (q_sr (q_m hF rfl fun a hF=>q_m hF rfl fun a hF=>q_m hF rfl fun a hF=>q_m hF rfl fun a hF=>?_)))
  obtain ⟨t_7,ht_7,hr⟩:=bindS hr
  refine q_call (vs:=[s5.v,s6.v,(iV t_3.2.2.1),(iV t_3.2.2.2)]) hF hS Tryz.func5 (by kernel_rfl) rfl rfl rfl (c_impl_LeastPlan t_3.1 t_3.2.1 t_3.2.2.1 t_3.2.2.2 t_7 ht_7 _ m4 hS.vis s5 h5 s6 h6) ?_
  have hT:=hS
  rintro a w _ ⟨m8,q9,s9,rfl,hm8,hR8,h9⟩ hF hS2
  have hS : St _ _ _ _ [q9]:=hS.join hR8 hm8
  have hm8:=MLe.weakX (O0:=[]) hT hm8
  refine q_m hF rfl fun a hF=>q_y (v:=(.agg #[s9.v,(iV t_7.1.Added),(iV t_7.1.Value)])) hF hS (ex_extract rfl rfl) fun a hF=>q_y (v:=(.bool t_7.2)) hF hS (ex_extract rfl rfl) fun a hF=>q_alloc (cs:=[nilS.v,(iV 0),(iV 0)]) hF hS rfl rfl rfl fun a w b10 hF hS=>q_store (vs:=[s9.v,(iV t_7.1.Added),(iV t_7.1.Value)]) (cs':=[s9.v,(iV t_7.1.Added),(iV t_7.1.Value)]) 0 0 hF hS sz27 rfl rfl rfl rfl rfl rfl rfl rfl fun a w hF hS=>q_s hF rfl fun a hF=>q_end (n_sq (q_sr (q_m hF rfl fun a hF=>q_m hF rfl fun a hF=>q_m hF rfl fun a hF=>q_m hF rfl fun a hF=>?_)))
  obtain ⟨t_11,ht_11,hr⟩:=bindS hr
  refine q_call (vs:=[s5.v,s6.v,(iV t_3.2.2.1),(iV t_3.2.2.2)]) hF hS Tryz.func6 (by kernel_rfl) rfl rfl rfl (c_spec_LeastPlan t_3.1 t_3.2.1 t_3.2.2.1 t_3.2.2.2 t_11 ht_11 _ m8 hS.vis s5 (h5.mono hm8.le) s6 (h6.mono hm8.le)) ?_
  rintro a w _ ⟨q13,s13,rfl,hR12,h13⟩ hF hS2
  have hS : St _ _ _ _ [q13,[⟨b10,[s9.v,(iV t_7.1.Added),(iV t_7.1.Value)],27⟩],q9]:=hS.joinF hR12
  refine q_m hF rfl fun a hF=>q_y (v:=(.agg #[s13.v,(iV t_11.1.Added),(iV t_11.1.Value)])) hF hS (ex_extract rfl rfl) fun a hF=>q_y (v:=(.bool t_11.2)) hF hS (ex_extract rfl rfl) fun a hF=>q_alloc (cs:=[nilS.v,(iV 0),(iV 0)]) hF hS rfl rfl rfl fun a w b14 hF hS=>q_store (vs:=[s13.v,(iV t_11.1.Added),(iV t_11.1.Value)]) (cs':=[s13.v,(iV t_11.1.Added),(iV t_11.1.Value)]) 0 0 hF hS sz27 rfl rfl rfl rfl rfl rfl rfl rfl fun a w hF hS=>q_s hF rfl fun a hF=>q_end (n_sq (q_sr (q_m hF rfl fun a hF=>?_)))
  obtain ⟨t_15,ht_15,hr⟩:=bindS hr
  refine q_call (vs:=[s2.v]) hF hS Tryz.func7 (by kernel_rfl) rfl rfl rfl (c_spec_DrawCheckPlan p_more t_15 ht_15 _ m8 hS.vis s2 ((h2.mono hm4.le).mono hm8.le)) ?_
  have hT:=hS
  rintro a w _ ⟨m16,s17,s18,s19,rfl,hm16,hR16,h17,h18,h19⟩ hF hS2
  have hS : St _ _ _ _ [[⟨b14,[s13.v,(iV t_11.1.Added),(iV t_11.1.Value)],27⟩],q13,[⟨b10,[s9.v,(iV t_7.1.Added),(iV t_7.1.Value)],27⟩],q9]:=hS.join hR16 hm16
  have hm16:=MLe.weakX (O0:=[]) hT hm16
  refine q_m hF rfl fun a hF=>q_y (v:=s17.v) hF hS (ex_extract rfl rfl) fun a hF=>q_y (v:=s18.v) hF hS (ex_extract rfl rfl) fun a hF=>q_y (v:=(iV t_15.2.2.1)) hF hS (ex_extract rfl rfl) fun a hF=>q_y (v:=(iV t_15.2.2.2.1)) hF hS (ex_extract rfl rfl) fun a hF=>q_y (v:=(.agg #[s19.v,(iV t_15.2.2.2.2.Added),(iV t_15.2.2.2.2.Value)])) hF hS (ex_extract rfl rfl) fun a hF=>q_alloc (cs:=[nilS.v,(iV 0),(iV 0)]) hF hS rfl rfl rfl fun a w b20 hF hS=>q_s hF rfl fun a hF=>q_s hF rfl fun a hF=>q_s hF rfl fun a hF=>q_s hF rfl fun a hF=>q_store (vs:=[s19.v,(iV t_15.2.2.2.2.Added),(iV t_15.2.2.2.2.Value)]) (cs':=[s19.v,(iV t_15.2.2.2.2.Added),(iV t_15.2.2.2.2.Value)]) 0 0 hF hS sz27 rfl rfl rfl rfl rfl rfl rfl rfl fun a w hF hS=>q_end (n_sq (q_sr (q_m hF rfl fun a hF=>q_m hF rfl fun a hF=>q_m hF rfl fun a hF=>q_m hF rfl fun a hF=>q_y (v:=(.agg #[s19.v,(iV t_15.2.2.2.2.Added),(iV t_15.2.2.2.2.Value)])) hF hS (ex_loadA (vs:=[s19.v,(iV t_15.2.2.2.2.Added),(iV t_15.2.2.2.2.Value)]) 0 0 U27 rfl sz27 rfl rfl rfl rfl) fun a hF=>?_)))
  obtain ⟨t_21,ht_21,hr⟩:=bindS hr
  refine q_call (vs:=[s17.v,s18.v,(iV t_15.2.2.1),(iV t_15.2.2.2.1),(.agg #[s19.v,(iV t_15.2.2.2.2.Added),(iV t_15.2.2.2.2.Value)])]) hF hS Tryz.func8 (by kernel_rfl) rfl rfl rfl (c_impl_CheckPlan t_15.1 t_15.2.1 t_15.2.2.1 t_15.2.2.2.1 t_15.2.2.2.2 t_21 ht_21 _ m16 hS.vis s17 h17 s18 h18 s19 h19) ?_
  rintro a w _ rfl hF hS
  refine q_m hF rfl fun a hF=>q_y (v:=(iV t_21.1)) hF hS (ex_extract rfl rfl) fun a hF=>q_y (v:=(.bool t_21.2)) hF hS (ex_extract rfl rfl) fun a hF=>q_s hF rfl fun a hF=>q_s hF rfl fun a hF=>q_end (n_sq (q_sr (q_m hF rfl fun a hF=>q_m hF rfl fun a hF=>q_m hF rfl fun a hF=>q_m hF rfl fun a hF=>q_y (v:=(.agg #[s19.v,(iV t_15.2.2.2.2.Added),(iV t_15.2.2.2.2.Value)])) hF hS (ex_loadA (vs:=[s19.v,(iV t_15.2.2.2.2.Added),(iV t_15.2.2.2.2.Value)]) 0 0 U27 rfl sz27 rfl rfl rfl rfl) fun a hF=>?_)))
  obtain ⟨t_22,ht_22,hr⟩:=bindS hr
  refine q_call (vs:=[s17.v,s18.v,(iV t_15.2.2.1),(iV t_15.2.2.2.1),(.agg #[s19.v,(iV t_15.2.2.2.2.Added),(iV t_15.2.2.2.2.Value)])]) hF hS Tryz.func9 (by kernel_rfl) rfl rfl rfl (c_spec_CheckPlan t_15.1 t_15.2.1 t_15.2.2.1 t_15.2.2.2.1 t_15.2.2.2.2 t_22 ht_22 _ m16 hS.vis s17 h17 s18 h18 s19 h19) ?_
  rintro a w _ rfl hF hS
  refine q_m hF rfl fun a hF=>q_y (v:=(iV t_22.1)) hF hS (ex_extract rfl rfl) fun a hF=>q_y (v:=(.bool t_22.2)) hF hS (ex_extract rfl rfl) fun a hF=>q_s hF rfl fun a hF=>q_s hF rfl fun a hF=>q_end (n_sq (q_seq (q_seq ?_)))
  obtain ⟨t_25,hj2,hr⟩:=bindS hr
  refine q_join (fun a w=>Fr a 202 [(5,s5.v),(6,s6.v),(7,(iV t_3.2.2.1)),(8,(iV t_3.2.2.2)),(9,(pP b10 0)),(10,(.bool t_7.2)),(119,(.bool t_25))]∧St [] w0 w m16 [q9,[⟨b10,[s9.v,(iV t_7.1.Added),(iV t_7.1.Value)],27⟩]]) ?_ ?_
  ·refine q_region (q_m hF rfl fun a hF=>q_m hF rfl fun a hF=>q_y (v:=(.bool (t_7.2 != t_11.2))) hF hS (ex_bne U4 rfl rfl) fun a hF=>q_m hF rfl fun a hF=>?_)
   rcases bcase (t_7.2 != t_11.2) with hc3 | hc3
   ·have hj2:=cond_f hc3 hj2
    refine q_g (v:=(pP b10 0)) hF hS (ex_fieldAddr U27 rfl sz23 rfl rfl) hc3 fun a hF=>q_g (v:=s9.v) hF hS (ex_load1 3 0 U23 rfl rfl rfl rfl) hc3 fun a hF=>q_g (v:=(pP b14 0)) hF hS (ex_fieldAddr U27 rfl sz23 rfl rfl) hc3 fun a hF=>q_g (v:=s13.v) hF hS (ex_load1 1 0 U23 rfl rfl rfl rfl) hc3 fun a hF=>?_
    obtain ⟨m24,hl24,hv24,hz24⟩:=hS.lend
    obtain ⟨t_23,ht_23,hj2⟩:=bindS hj2
    refine q_callg (vs:=[s9.v,s13.v]) hF hS (wanted_t hF rfl rfl rfl hc3) Tryz.func10 (by kernel_rfl) rfl rfl rfl (c_laws_qLists t_7.1.Pattern t_11.1.Pattern t_23 ht_23 _ m24 hv24 s9 ((h9.mono hm16.le).froz hl24 (hz24 4 _ rfl)) s13 ((h13.mono hm16.le).froz hl24 (hz24 2 _ rfl))) ?_
    rintro a w _ rfl hF hS
    refine q_g (v:=(.bool (!t_23))) hF hS (ex_not rfl) hc3 fun a hF=>q_y (v:=(.bool (!t_23))) hF hS (ex_pick_f rfl rfl hc3) fun a hF=>q_m hF rfl fun a hF=>?_
    rcases bcase (!t_23) with hc4 | hc4
    ·have hj2:=cond_f hc4 hj2
     refine q_g (v:=(pP b10 1)) hF hS (ex_fieldAddr U27 rfl sz3 rfl rfl) hc4 fun a hF=>q_g (v:=(iV t_7.1.Added)) hF hS (ex_load1 3 0 U3 rfl rfl rfl rfl) hc4 fun a hF=>q_g (v:=(pP b14 1)) hF hS (ex_fieldAddr U27 rfl sz3 rfl rfl) hc4 fun a hF=>q_g (v:=(iV t_11.1.Added)) hF hS (ex_load1 1 0 U3 rfl rfl rfl rfl) hc4 fun a hF=>q_g (v:=(.bool (t_7.1.Added != t_11.1.Added))) hF hS (ex_ibin rfl rfl rfl) hc4 fun a hF=>q_y (v:=(.bool (t_7.1.Added != t_11.1.Added))) hF hS (ex_pick_f rfl rfl hc4) fun a hF=>q_m hF rfl fun a hF=>?_
     rcases bcase (t_7.1.Added != t_11.1.Added) with hc5 | hc5
     ·have hj2:=cond_f hc5 hj2
      refine q_g (v:=(pP b10 2)) hF hS (ex_fieldAddr U27 rfl sz3 rfl rfl) hc5 fun a hF=>q_g (v:=(iV t_7.1.Value)) hF hS (ex_load1 3 0 U3 rfl rfl rfl rfl) hc5 fun a hF=>q_g (v:=(pP b14 2)) hF hS (ex_fieldAddr U27 rfl sz3 rfl rfl) hc5 fun a hF=>q_g (v:=(iV t_11.1.Value)) hF hS (ex_load1 1 0 U3 rfl rfl rfl rfl) hc5 fun a hF=>q_g (v:=(.bool (t_7.1.Value != t_11.1.Value))) hF hS (ex_ibin rfl rfl rfl) hc5 fun a hF=>q_y (v:=(.bool (t_7.1.Value != t_11.1.Value))) hF hS (ex_pick_f rfl rfl hc5) fun a hF=>q_m hF rfl fun a hF=>?_
      rcases bcase (t_7.1.Value != t_11.1.Value) with hc6 | hc6
      ·have hj2:=cond_f hc6 hj2
       refine q_g (v:=(.bool t_21.2)) hF hS (ex_move rfl) hc6 fun a hF=>q_g (v:=(.bool t_22.2)) hF hS (ex_move rfl) hc6 fun a hF=>q_g (v:=(.bool (t_21.2 != t_22.2))) hF hS (ex_bne U4 rfl rfl) hc6 fun a hF=>q_y (v:=(.bool (t_21.2 != t_22.2))) hF hS (ex_pick_f rfl rfl hc6) fun a hF=>q_m hF rfl fun a hF=>?_
       rcases bcase (t_21.2 != t_22.2) with hc7 | hc7
       ·have hj2:=cond_f hc7 hj2
        refine q_g (v:=(iV t_21.1)) hF hS (ex_move rfl) hc7 fun a hF=>q_g (v:=(iV t_22.1)) hF hS (ex_move rfl) hc7 fun a hF=>q_g (v:=(.bool (t_21.1 != t_22.1))) hF hS (ex_ibin rfl rfl rfl) hc7 fun a hF=>q_y (v:=(.bool (t_21.1 != t_22.1))) hF hS (ex_pick_f rfl rfl hc7) fun a hF=>q_end (n_jn ?_)
        obtain rfl:=someI hj2
        exact ⟨hF.sub ⟨rfl,rfl,rfl,rfl,rfl,rfl,rfl,trivial⟩,hS.sel [4,3] (by decide)⟩
       ·have hj2:=cond_t hc7 hj2
        refine q_k hF hc7 fun a hF=>q_k hF hc7 fun a hF=>q_k hF hc7 fun a hF=>q_y (v:=(.bool true)) hF hS (ex_pick_t rfl rfl hc7) fun a hF=>q_end (n_jn ?_)
        obtain rfl:=someI hj2
        exact ⟨hF.sub ⟨rfl,rfl,rfl,rfl,rfl,rfl,rfl,trivial⟩,hS.sel [4,3] (by decide)⟩
      ·have hj2:=cond_t hc6 hj2
       refine q_k hF hc6 fun a hF=>q_k hF hc6 fun a hF=>q_k hF hc6 fun a hF=>q_y (v:=(.bool true)) hF hS (ex_pick_t rfl rfl hc6) fun a hF=>q_m hF rfl fun a hF=>q_k hF rfl fun a hF=>q_k hF rfl fun a hF=>q_k hF rfl fun a hF=>q_y (v:=(.bool true)) hF hS (ex_pick_t rfl rfl rfl) fun a hF=>q_end (n_jn ?_)
       obtain rfl:=someI hj2
       exact ⟨hF.sub ⟨rfl,rfl,rfl,rfl,rfl,rfl,rfl,trivial⟩,hS.sel [4,3] (by decide)⟩
     ·have hj2:=cond_t hc5 hj2
      refine q_k hF hc5 fun a hF=>q_k hF hc5 fun a hF=>q_k hF hc5 fun a hF=>q_k hF hc5 fun a hF=>q_k hF hc5 fun a hF=>q_y (v:=(.bool true)) hF hS (ex_pick_t rfl rfl hc5) fun a hF=>q_m hF rfl fun a hF=>q_k hF rfl fun a hF=>q_k hF rfl fun a hF=>q_k hF rfl fun a hF=>q_y (v:=(.bool true)) hF hS (ex_pick_t rfl rfl rfl) fun a hF=>q_m hF rfl fun a hF=>q_k hF rfl fun a hF=>q_k hF rfl fun a hF=>q_k hF rfl fun a hF=>q_y (v:=(.bool true)) hF hS (ex_pick_t rfl rfl rfl) fun a hF=>q_end (n_jn ?_)
      obtain rfl:=someI hj2
      exact ⟨hF.sub ⟨rfl,rfl,rfl,rfl,rfl,rfl,rfl,trivial⟩,hS.sel [4,3] (by decide)⟩
    ·have hj2:=cond_t hc4 hj2
     refine q_k hF hc4 fun a hF=>q_k hF hc4 fun a hF=>q_k hF hc4 fun a hF=>q_k hF hc4 fun a hF=>q_k hF hc4 fun a hF=>q_y (v:=(.bool true)) hF hS (ex_pick_t rfl rfl hc4) fun a hF=>q_m hF rfl fun a hF=>q_k hF rfl fun a hF=>q_k hF rfl fun a hF=>q_k hF rfl fun a hF=>q_k hF rfl fun a hF=>q_k hF rfl fun a hF=>q_y (v:=(.bool true)) hF hS (ex_pick_t rfl rfl rfl) fun a hF=>q_m hF rfl fun a hF=>q_k hF rfl fun a hF=>q_k hF rfl fun a hF=>q_k hF rfl fun a hF=>q_y (v:=(.bool true)) hF hS (ex_pick_t rfl rfl rfl) fun a hF=>q_m hF rfl fun a hF=>q_k hF rfl fun a hF=>q_k hF rfl fun a hF=>q_k hF rfl fun a hF=>q_y (v:=(.bool true)) hF hS (ex_pick_t rfl rfl rfl) fun a hF=>q_end (n_jn ?_)
     obtain rfl:=someI hj2
     exact ⟨hF.sub ⟨rfl,rfl,rfl,rfl,rfl,rfl,rfl,trivial⟩,hS.sel [4,3] (by decide)⟩
   ·have hj2:=cond_t hc3 hj2
    refine q_k hF hc3 fun a hF=>q_k hF hc3 fun a hF=>q_k hF hc3 fun a hF=>q_k hF hc3 fun a hF=>q_k hF hc3 fun a hF=>q_k hF hc3 fun a hF=>q_y (v:=(.bool true)) hF hS (ex_pick_t rfl rfl hc3) fun a hF=>q_m hF rfl fun a hF=>q_k hF rfl fun a hF=>q_k hF rfl fun a hF=>q_k hF rfl fun a hF=>q_k hF rfl fun a hF=>q_k hF rfl fun a hF=>q_y (v:=(.bool true)) hF hS (ex_pick_t rfl rfl rfl) fun a hF=>q_m hF rfl fun a hF=>q_k hF rfl fun a hF=>q_k hF rfl fun a hF=>q_k hF rfl fun a hF=>q_k hF rfl fun a hF=>q_k hF rfl fun a hF=>q_y (v:=(.bool true)) hF hS (ex_pick_t rfl rfl rfl) fun a hF=>q_m hF rfl fun a hF=>q_k hF rfl fun a hF=>q_k hF rfl fun a hF=>q_k hF rfl fun a hF=>?_
    refine q_y (v:=(.bool true)) hF hS (ex_pick_t rfl rfl rfl) fun a hF=>q_m hF rfl fun a hF=>q_k hF rfl fun a hF=>q_k hF rfl fun a hF=>q_k hF rfl fun a hF=>q_y (v:=(.bool true)) hF hS (ex_pick_t rfl rfl rfl) fun a hF=>q_end (n_jn ?_)
    obtain rfl:=someI hj2
    exact ⟨hF.sub ⟨rfl,rfl,rfl,rfl,rfl,rfl,rfl,trivial⟩,hS.sel [4,3] (by decide)⟩
  ·rintro a w ⟨hF,hS⟩
   refine n_sq ?_
   rcases bcase (t_25) with hc8 | hc8
   ·have hr:=cond_f hc8 hr
    refine q_cond_f hF rfl hc8 (q_skipc (n_sq (q_sr (q_m hF rfl fun a hF=>q_m hF rfl fun a hF=>q_m hF rfl fun a hF=>q_m hF rfl fun a hF=>?_))))
    obtain ⟨t_26,ht_26,hr⟩:=bindS hr
    refine q_call (vs:=[s5.v,s6.v,(iV t_3.2.2.1),(iV t_3.2.2.2)]) hF hS Tryz.func11 (by kernel_rfl) rfl rfl rfl (c_impl_GreedyPlan t_3.1 t_3.2.1 t_3.2.2.1 t_3.2.2.2 t_26 ht_26 _ m16 hS.vis s5 ((h5.mono hm8.le).mono hm16.le) s6 ((h6.mono hm8.le).mono hm16.le)) ?_
    have hT:=hS
    rintro a w _ ⟨m27,q28,s28,rfl,hm27,hR27,h28,h28n⟩ hF hS2
    have hS : St _ _ _ _ [q28,q9,[⟨b10,[s9.v,(iV t_7.1.Added),(iV t_7.1.Value)],27⟩]]:=hS.join hR27 hm27
    have hm27:=MLe.weakX (O0:=[]) hT hm27
    refine q_m hF rfl fun a hF=>q_y (v:=(.agg #[s28.v,(iV t_26.1.Added),(iV t_26.1.Value)])) hF hS (ex_extract rfl rfl) fun a hF=>q_y (v:=(.bool t_26.2)) hF hS (ex_extract rfl rfl) fun a hF=>q_alloc (cs:=[nilS.v,(iV 0),(iV 0)]) hF hS rfl rfl rfl fun a w b29 hF hS=>q_store (vs:=[s28.v,(iV t_26.1.Added),(iV t_26.1.Value)]) (cs':=[s28.v,(iV t_26.1.Added),(iV t_26.1.Value)]) 0 0 hF hS sz27 rfl rfl rfl rfl rfl rfl rfl rfl fun a w hF hS=>q_s hF rfl fun a hF=>q_end (n_sq (q_sr (q_m hF rfl fun a hF=>q_m hF rfl fun a hF=>q_m hF rfl fun a hF=>q_m hF rfl fun a hF=>?_)))
    obtain ⟨t_30,ht_30,hr⟩:=bindS hr
    refine q_call (vs:=[s5.v,s6.v,(iV t_3.2.2.1),(iV t_3.2.2.2)]) hF hS Tryz.func12 (by kernel_rfl) rfl rfl rfl (c_spec_GreedyPlan t_3.1 t_3.2.1 t_3.2.2.1 t_3.2.2.2 t_30 ht_30 _ m27 hS.vis s5 (((h5.mono hm8.le).mono hm16.le).mono hm27.le) s6 (((h6.mono hm8.le).mono hm16.le).mono hm27.le)) ?_
    have hT:=hS
    rintro a w _ ⟨m31,q32,s32,rfl,hm31,hR31,h32⟩ hF hS2
    have hS : St _ _ _ _ [q32,[⟨b29,[s28.v,(iV t_26.1.Added),(iV t_26.1.Value)],27⟩],q28,q9,[⟨b10,[s9.v,(iV t_7.1.Added),(iV t_7.1.Value)],27⟩]]:=hS.join hR31 hm31
    have hm31:=MLe.weakX (O0:=[]) hT hm31
    refine q_m hF rfl fun a hF=>q_y (v:=(.agg #[s32.v,(iV t_30.1.Added),(iV t_30.1.Value)])) hF hS (ex_extract rfl rfl) fun a hF=>q_y (v:=(.bool t_30.2)) hF hS (ex_extract rfl rfl) fun a hF=>q_alloc (cs:=[nilS.v,(iV 0),(iV 0)]) hF hS rfl rfl rfl fun a w b33 hF hS=>q_store (vs:=[s32.v,(iV t_30.1.Added),(iV t_30.1.Value)]) (cs':=[s32.v,(iV t_30.1.Added),(iV t_30.1.Value)]) 0 0 hF hS sz27 rfl rfl rfl rfl rfl rfl rfl rfl fun a w hF hS=>q_s hF rfl fun a hF=>q_end (n_sq (q_seq (q_seq ?_)))
    obtain ⟨t_36,hj9,hr⟩:=bindS hr
    refine q_join (fun a w=>Fr a 202 [(5,s5.v),(6,s6.v),(7,(iV t_3.2.2.1)),(8,(iV t_3.2.2.2)),(9,(pP b10 0)),(10,(.bool t_7.2)),(167,(.bool t_36))]∧St [] w0 w m31 [q9,[⟨b10,[s9.v,(iV t_7.1.Added),(iV t_7.1.Value)],27⟩]]) ?_ ?_
    ·refine q_region (q_m hF rfl fun a hF=>q_m hF rfl fun a hF=>q_y (v:=(.bool (t_26.2 != t_30.2))) hF hS (ex_bne U4 rfl rfl) fun a hF=>q_m hF rfl fun a hF=>?_)
     rcases bcase (t_26.2 != t_30.2) with hc10 | hc10
     ·have hj9:=cond_f hc10 hj9
      refine q_g (v:=(pP b29 0)) hF hS (ex_fieldAddr U27 rfl sz23 rfl rfl) hc10 fun a hF=>q_g (v:=s28.v) hF hS (ex_load1 2 0 U23 rfl rfl rfl rfl) hc10 fun a hF=>q_g (v:=(pP b33 0)) hF hS (ex_fieldAddr U27 rfl sz23 rfl rfl) hc10 fun a hF=>q_g (v:=s32.v) hF hS (ex_load1 0 0 U23 rfl rfl rfl rfl) hc10 fun a hF=>?_
      obtain ⟨m35,hl35,hv35,hz35⟩:=hS.lend
      obtain ⟨t_34,ht_34,hj9⟩:=bindS hj9
      refine q_callg (vs:=[s28.v,s32.v]) hF hS (wanted_t hF rfl rfl rfl hc10) Tryz.func10 (by kernel_rfl) rfl rfl rfl (c_laws_qLists t_26.1.Pattern t_30.1.Pattern t_34 ht_34 _ m35 hv35 s28 ((h28.mono hm31.le).froz hl35 (hz35 3 _ rfl)) s32 (h32.froz hl35 (hz35 1 _ rfl))) ?_
      rintro a w _ rfl hF hS
      refine q_g (v:=(.bool (!t_34))) hF hS (ex_not rfl) hc10 fun a hF=>q_y (v:=(.bool (!t_34))) hF hS (ex_pick_f rfl rfl hc10) fun a hF=>q_m hF rfl fun a hF=>?_
      rcases bcase (!t_34) with hc11 | hc11
      ·have hj9:=cond_f hc11 hj9
       refine q_g (v:=(pP b29 1)) hF hS (ex_fieldAddr U27 rfl sz3 rfl rfl) hc11 fun a hF=>q_g (v:=(iV t_26.1.Added)) hF hS (ex_load1 2 0 U3 rfl rfl rfl rfl) hc11 fun a hF=>q_g (v:=(pP b33 1)) hF hS (ex_fieldAddr U27 rfl sz3 rfl rfl) hc11 fun a hF=>q_g (v:=(iV t_30.1.Added)) hF hS (ex_load1 0 0 U3 rfl rfl rfl rfl) hc11 fun a hF=>q_g (v:=(.bool (t_26.1.Added != t_30.1.Added))) hF hS (ex_ibin rfl rfl rfl) hc11 fun a hF=>q_y (v:=(.bool (t_26.1.Added != t_30.1.Added))) hF hS (ex_pick_f rfl rfl hc11) fun a hF=>q_m hF rfl fun a hF=>?_
       rcases bcase (t_26.1.Added != t_30.1.Added) with hc12 | hc12
       ·have hj9:=cond_f hc12 hj9
        refine q_g (v:=(.bool t_7.2)) hF hS (ex_move rfl) hc12 fun a hF=>q_g (v:=(.bool t_7.2)) hF hS (ex_move rfl) hc12 fun a hF=>?_
        rcases bcase (t_7.2) with hc13 | hc13
        ·have hj9:=cond_f hc13 hj9
         refine q_k hF hc13 fun a hF=>q_k hF hc13 fun a hF=>q_k hF hc13 fun a hF=>q_skip hF (wanted_u hF rfl rfl rfl) rfl fun a hF=>q_skip hF (wanted_u hF rfl rfl rfl) rfl fun a hF=>q_skip hF (wanted_u hF rfl rfl rfl) rfl fun a hF=>q_skip hF (wanted_u hF rfl rfl rfl) rfl fun a hF=>q_skip hF (wanted_u hF rfl rfl rfl) rfl fun a hF=>q_k hF hc13 fun a hF=>q_g (v:=(.bool false)) hF hS (ex_pick_f rfl rfl hc13) hc12 fun a hF=>q_y (v:=(.bool false)) hF hS (ex_pick_f rfl rfl hc12) fun a hF=>q_end (n_jn ?_)
         obtain rfl:=someI hj9
         exact ⟨hF.sub ⟨rfl,rfl,rfl,rfl,rfl,rfl,rfl,trivial⟩,hS.mask [false,false,false,false,true,true]⟩
        ·have hj9:=cond_t hc13 hj9
         refine q_g (v:=(.bool t_26.2)) hF hS (ex_move rfl) hc13 fun a hF=>q_g (v:=(.bool (!t_26.2))) hF hS (ex_not rfl) hc13 fun a hF=>q_g (v:=(.bool (!t_26.2))) hF hS (ex_move rfl) hc13 fun a hF=>?_
         rcases bcase (!t_26.2) with hc14 | hc14
         ·have hj9:=cond_f hc14 hj9
          refine q_g (v:=(pP b29 1)) hF hS (ex_fieldAddr U27 rfl sz3 rfl rfl) hc14 fun a hF=>q_g (v:=(iV t_26.1.Added)) hF hS (ex_load1 2 0 U3 rfl rfl rfl rfl) hc14 fun a hF=>q_g (v:=(pP b10 1)) hF hS (ex_fieldAddr U27 rfl sz3 rfl rfl) hc14 fun a hF=>q_g (v:=(iV t_7.1.Added)) hF hS (ex_load1 5 0 U3 rfl rfl rfl rfl) hc14 fun a hF=>q_g (v:=(.bool (decide (t_26.1.Added < t_7.1.Added)))) hF hS (ex_ibin rfl rfl rfl) hc14 fun a hF=>q_g (v:=(.bool (decide (t_26.1.Added < t_7.1.Added)))) hF hS (ex_pick_f rfl rfl hc14) hc13 fun a hF=>q_g (v:=(.bool (decide (t_26.1.Added < t_7.1.Added)))) hF hS (ex_pick_t rfl rfl hc13) hc12 fun a hF=>q_y (v:=(.bool (decide (t_26.1.Added < t_7.1.Added)))) hF hS (ex_pick_f rfl rfl hc12) fun a hF=>q_end (n_jn ?_)
          obtain rfl:=someI hj9
          exact ⟨hF.sub ⟨rfl,rfl,rfl,rfl,rfl,rfl,rfl,trivial⟩,hS.mask [false,false,false,false,true,true]⟩
         ·have hj9:=cond_t hc14 hj9
          refine q_k hF hc14 fun a hF=>q_k hF hc14 fun a hF=>q_k hF hc14 fun a hF=>q_k hF hc14 fun a hF=>q_k hF hc14 fun a hF=>q_g (v:=(.bool true)) hF hS (ex_pick_t rfl rfl hc14) hc13 fun a hF=>q_g (v:=(.bool true)) hF hS (ex_pick_t rfl rfl hc13) hc12 fun a hF=>q_y (v:=(.bool true)) hF hS (ex_pick_f rfl rfl hc12) fun a hF=>q_end (n_jn ?_)
          obtain rfl:=someI hj9
          exact ⟨hF.sub ⟨rfl,rfl,rfl,rfl,rfl,rfl,rfl,trivial⟩,hS.mask [false,false,false,false,true,true]⟩
       ·have hj9:=cond_t hc12 hj9
        refine q_k hF hc12 fun a hF=>q_k hF hc12 fun a hF=>q_skip hF (wanted_u hF rfl rfl rfl) rfl fun a hF=>q_skip hF (wanted_u hF rfl rfl rfl) rfl fun a hF=>q_skip hF (wanted_u hF rfl rfl rfl) rfl fun a hF=>q_skip hF (wanted_u hF rfl rfl rfl) rfl fun a hF=>q_skip hF (wanted_u hF rfl rfl rfl) rfl fun a hF=>q_skip hF (wanted_u hF rfl rfl rfl) rfl fun a hF=>q_skip hF (wanted_u hF rfl rfl rfl) rfl fun a hF=>q_skip hF (wanted_u hF rfl rfl rfl) rfl fun a hF=>q_skip hF (wanted_u hF rfl rfl rfl) rfl fun a hF=>q_k hF hc12 fun a hF=>q_y (v:=(.bool true)) hF hS (ex_pick_t rfl rfl hc12) fun a hF=>q_end (n_jn ?_)
        obtain rfl:=someI hj9
        exact ⟨hF.sub ⟨rfl,rfl,rfl,rfl,rfl,rfl,rfl,trivial⟩,hS.mask [false,false,false,false,true,true]⟩
      ·have hj9:=cond_t hc11 hj9
       refine q_k hF hc11 fun a hF=>q_k hF hc11 fun a hF=>q_k hF hc11 fun a hF=>q_k hF hc11 fun a hF=>q_k hF hc11 fun a hF=>q_y (v:=(.bool true)) hF hS (ex_pick_t rfl rfl hc11) fun a hF=>q_m hF rfl fun a hF=>q_k hF rfl fun a hF=>q_k hF rfl fun a hF=>q_skip hF (wanted_u hF rfl rfl rfl) rfl fun a hF=>q_skip hF (wanted_u hF rfl rfl rfl) rfl fun a hF=>q_skip hF (wanted_u hF rfl rfl rfl) rfl fun a hF=>q_skip hF (wanted_u hF rfl rfl rfl) rfl fun a hF=>q_skip hF (wanted_u hF rfl rfl rfl) rfl fun a hF=>q_skip hF (wanted_u hF rfl rfl rfl) rfl fun a hF=>q_skip hF (wanted_u hF rfl rfl rfl) rfl fun a hF=>q_skip hF (wanted_u hF rfl rfl rfl) rfl fun a hF=>q_skip hF (wanted_u hF rfl rfl rfl) rfl fun a hF=>q_k hF rfl fun a hF=>q_y (v:=(.bool true)) hF hS (ex_pick_t rfl rfl rfl) fun a hF=>q_end (n_jn ?_)
       obtain rfl:=someI hj9
       exact ⟨hF.sub ⟨rfl,rfl,rfl,rfl,rfl,rfl,rfl,trivial⟩,hS.mask [false,false,false,false,true,true]⟩
     ·have hj9:=cond_t hc10 hj9
      refine q_k hF hc10 fun a hF=>q_k hF hc10 fun a hF=>q_k hF hc10 fun a hF=>q_k hF hc10 fun a hF=>q_k hF hc10 fun a hF=>q_k hF hc10 fun a hF=>q_y (v:=(.bool true)) hF hS (ex_pick_t rfl rfl hc10) fun a hF=>q_m hF rfl fun a hF=>q_k hF rfl fun a hF=>q_k hF rfl fun a hF=>q_k hF rfl fun a hF=>q_k hF rfl fun a hF=>q_k hF rfl fun a hF=>q_y (v:=(.bool true)) hF hS (ex_pick_t rfl rfl rfl) fun a hF=>q_m hF rfl fun a hF=>q_k hF rfl fun a hF=>q_k hF rfl fun a hF=>q_skip hF (wanted_u hF rfl rfl rfl) rfl fun a hF=>q_skip hF (wanted_u hF rfl rfl rfl) rfl fun a hF=>q_skip hF (wanted_u hF rfl rfl rfl) rfl fun a hF=>q_skip hF (wanted_u hF rfl rfl rfl) rfl fun a hF=>q_skip hF (wanted_u hF rfl rfl rfl) rfl fun a hF=>q_skip hF (wanted_u hF rfl rfl rfl) rfl fun a hF=>q_skip hF (wanted_u hF rfl rfl rfl) rfl fun a hF=>q_skip hF (wanted_u hF rfl rfl rfl) rfl fun a hF=>?_
      refine q_skip hF (wanted_u hF rfl rfl rfl) rfl fun a hF=>q_k hF rfl fun a hF=>q_y (v:=(.bool true)) hF hS (ex_pick_t rfl rfl rfl) fun a hF=>q_end (n_jn ?_)
      obtain rfl:=someI hj9
      exact ⟨hF.sub ⟨rfl,rfl,rfl,rfl,rfl,rfl,rfl,trivial⟩,hS.mask [false,false,false,false,true,true]⟩
    ·rintro a w ⟨hF,hS⟩
     refine n_sq ?_
     rcases bcase (t_36) with hc15 | hc15
     ·have hr:=cond_f hc15 hr
      refine q_cond_f hF rfl hc15 (q_skipc (n_sq (q_seq (q_sr (q_m hF rfl fun a hF=>q_y (v:=(.bool (!t_7.2))) hF hS (ex_not rfl) fun a hF=>q_end (n_sq ?_))))))
      rcases bcase (!t_7.2) with hc16 | hc16
      ·have hr:=cond_f hc16 hr
       refine q_cond_f hF rfl hc16 (q_skipc (n_sq (q_sr (q_m hF rfl fun a hF=>q_m hF rfl fun a hF=>q_m hF rfl fun a hF=>q_m hF rfl fun a hF=>q_y (v:=(.agg #[s9.v,(iV t_7.1.Added),(iV t_7.1.Value)])) hF hS (ex_loadA (vs:=[s9.v,(iV t_7.1.Added),(iV t_7.1.Value)]) 1 0 U27 rfl sz27 rfl rfl rfl rfl) fun a hF=>?_))))
       obtain ⟨m38,hl38,hv38,hz38⟩:=hS.lend
       obtain ⟨t_37,ht_37,hr⟩:=bindS hr
       refine q_call (vs:=[s5.v,s6.v,(iV t_3.2.2.1),(iV t_3.2.2.2),(.agg #[s9.v,(iV t_7.1.Added),(iV t_7.1.Value)])]) hF hS Tryz.func8 (by kernel_rfl) rfl rfl rfl (c_impl_CheckPlan t_3.1 t_3.2.1 t_3.2.2.1 t_3.2.2.2 t_7.1 t_37 ht_37 _ m38 hv38 s5 (((((h5.mono hm8.le).mono hm16.le).mono hm27.le).mono hm31.le).mono hl38) s6 (((((h6.mono hm8.le).mono hm16.le).mono hm27.le).mono hm31.le).mono hl38) s9 ((((h9.mono hm16.le).mono hm27.le).mono hm31.le).froz hl38 (hz38 0 _ rfl))) ?_
       rintro a w _ rfl hF hS
       refine q_m hF rfl fun a hF=>q_y (v:=(iV t_37.1)) hF hS (ex_extract rfl rfl) fun a hF=>q_y (v:=(.bool t_37.2)) hF hS (ex_extract rfl rfl) fun a hF=>q_s hF rfl fun a hF=>q_s hF rfl fun a hF=>q_end (n_sq (q_sr (q_m hF rfl fun a hF=>q_y (v:=(pP b10 0)) hF hS (ex_fieldAddr U27 rfl sz23 rfl rfl) fun a hF=>q_y (v:=s9.v) hF hS (ex_load1 1 0 U23 rfl rfl rfl rfl) fun a hF=>q_m hF rfl fun a hF=>q_m hF rfl fun a hF=>q_m hF rfl fun a hF=>?_)))
       obtain ⟨m39,hm39,hS,hz39⟩:=hS.freeze
       have h39:=(((h9.mono hm16.le).mono hm27.le).mono hm31.le).froz hm39.le hz39
       obtain ⟨t_40,ht_40,hr⟩:=bindS hr
       refine q_call (vs:=[s5.v,s9.v,s6.v,(iV t_3.2.2.1),(iV t_3.2.2.2)]) hF hS Tryz.func13 (by kernel_rfl) rfl rfl rfl (c_impl_UnprotectedCells t_3.1 t_7.1.Pattern t_3.2.1 t_3.2.2.1 t_3.2.2.2 t_40 ht_40 _ m39 hS.vis s5 (((((h5.mono hm8.le).mono hm16.le).mono hm27.le).mono hm31.le).mono hm39.le) s9 h39 s6 (((((h6.mono hm8.le).mono hm16.le).mono hm27.le).mono hm31.le).mono hm39.le)) ?_
       have hT:=hS
       rintro a w _ ⟨m41,q42,s42,rfl,hm41,hR41,h42⟩ hF hS2
       have hS : St _ _ _ _ [q42,[⟨b10,[s9.v,(iV t_7.1.Added),(iV t_7.1.Value)],27⟩]]:=hS.join hR41 hm41
       have hm41:=MLe.weakX (O0:=[]) hT hm41
       refine q_m hF rfl fun a hF=>q_y (v:=s42.v) hF hS (ex_extract rfl rfl) fun a hF=>q_y (v:=(.bool t_40.2)) hF hS (ex_extract rfl rfl) fun a hF=>q_s hF rfl fun a hF=>q_s hF rfl fun a hF=>q_end (n_sq (q_seq ?_))
       obtain ⟨t_43,hj17,hr⟩:=bindS hr
       refine q_join (fun a w=>Fr a 202 [(4,(.bool t_43))]∧St [] w0 w m41 []) ?_ ?_
       ·refine q_region (q_m hF rfl fun a hF=>q_m hF rfl fun a hF=>?_)
        rcases bcase (t_37.2) with hc18 | hc18
        ·have hj17:=cond_f hc18 hj17
         refine q_k hF hc18 fun a hF=>q_y (v:=(.bool false)) hF hS (ex_pick_f rfl rfl hc18) fun a hF=>q_m hF rfl fun a hF=>q_k hF rfl fun a hF=>q_k hF rfl fun a hF=>q_y (v:=(.bool false)) hF hS (ex_pick_f rfl rfl rfl) fun a hF=>q_m hF rfl fun a hF=>q_k hF rfl fun a hF=>q_k hF rfl fun a hF=>q_k hF rfl fun a hF=>q_y (v:=(.bool false)) hF hS (ex_pick_f rfl rfl rfl) fun a hF=>q_s hF rfl fun a hF=>q_end (n_jn ?_)
         obtain rfl:=someI hj17
         exact ⟨hF.sub ⟨rfl,trivial⟩,hS.mask [false,false]⟩
        ·have hj17:=cond_t hc18 hj17
         refine q_g (v:=(.bool t_40.2)) hF hS (ex_move rfl) hc18 fun a hF=>q_y (v:=(.bool t_40.2)) hF hS (ex_pick_t rfl rfl hc18) fun a hF=>q_m hF rfl fun a hF=>?_
         rcases bcase (t_40.2) with hc19 | hc19
         ·have hj17:=cond_f hc19 hj17
          refine q_k hF hc19 fun a hF=>q_k hF hc19 fun a hF=>q_y (v:=(.bool false)) hF hS (ex_pick_f rfl rfl hc19) fun a hF=>q_m hF rfl fun a hF=>q_k hF rfl fun a hF=>q_k hF rfl fun a hF=>q_k hF rfl fun a hF=>q_y (v:=(.bool false)) hF hS (ex_pick_f rfl rfl rfl) fun a hF=>q_s hF rfl fun a hF=>q_end (n_jn ?_)
          obtain rfl:=someI hj17
          exact ⟨hF.sub ⟨rfl,trivial⟩,hS.mask [false,false]⟩
         ·have hj17:=cond_t hc19 hj17
          refine q_g (v:=(iV t_37.1)) hF hS (ex_move rfl) hc19 fun a hF=>q_g (v:=(.bool (t_37.1 == 0))) hF hS (ex_ibin rfl rfl rfl) hc19 fun a hF=>q_y (v:=(.bool (t_37.1 == 0))) hF hS (ex_pick_t rfl rfl hc19) fun a hF=>q_m hF rfl fun a hF=>?_
          rcases bcase (t_37.1 == 0) with hc20 | hc20
          ·have hj17:=cond_f hc20 hj17
           refine q_k hF hc20 fun a hF=>q_k hF hc20 fun a hF=>q_k hF hc20 fun a hF=>q_y (v:=(.bool false)) hF hS (ex_pick_f rfl rfl hc20) fun a hF=>q_s hF rfl fun a hF=>q_end (n_jn ?_)
           obtain rfl:=someI hj17
           exact ⟨hF.sub ⟨rfl,trivial⟩,hS.mask [false,false]⟩
          ·have hj17:=cond_t hc20 hj17
           refine q_g (v:=s42.v) hF hS (ex_move rfl) hc20 fun a hF=>q_g (v:=(iV (goLen t_40.1))) hF hS (ex_len U23 rfl h42.len) hc20 fun a hF=>q_g (v:=(.bool ((goLen t_40.1) == 0))) hF hS (ex_ibin rfl rfl rfl) hc20 fun a hF=>q_y (v:=(.bool ((goLen t_40.1) == 0))) hF hS (ex_pick_t rfl rfl hc20) fun a hF=>q_s hF rfl fun a hF=>q_end (n_jn ?_)
           obtain rfl:=someI hj17
           exact ⟨hF.sub ⟨rfl,trivial⟩,hS.mask [false,false]⟩
       ·rintro a w ⟨hF,hS⟩
        refine n_sq (q_ret ?_)
        obtain rfl:=someI hr
        exact ret_of hF hS rfl (.tmp rfl .nil) rfl
      ·have hr:=cond_t hc16 hr
       refine q_cond_t hF rfl hc16 (q_sr (q_s hF rfl fun a hF=>q_end (n_sq (q_ret (r_sq ?_)))))
       obtain rfl:=someI hr
       exact ret_of hF hS rfl (.tmp rfl .nil) rfl
     ·have hr:=cond_t hc15 hr
      refine q_cond_t hF rfl hc15 (q_sr (q_s hF rfl fun a hF=>q_end (n_sq (q_ret (r_sq ?_)))))
      obtain rfl:=someI hr
      exact ret_of hF hS rfl (.tmp rfl .nil) rfl
   ·have hr:=cond_t hc8 hr
    refine q_cond_t hF rfl hc8 (q_sr (q_s hF rfl fun a hF=>q_end (n_sq (q_ret (r_sq ?_)))))
    obtain rfl:=someI hr
    exact ret_of hF hS rfl (.tmp rfl .nil) rfl
 ·have hr:=cond_t hc1 hr
  refine q_cond_t hF rfl hc1 (q_sr (q_s hF rfl fun a hF=>q_end (n_sq (q_ret (r_sq ?_)))))
  obtain rfl:=someI hr
  exact ret_of hF hS rfl (.tmp rfl .nil) rfl

end Go.Proofs.YtpjcfmpfiadkgaaGreat
