/- The walks of the functions: each returns what its plain function says. -/
import Derived.Test.YtpjcfmpfiadkgaaSWalks2
namespace Go.Proofs.Ytpjcfmpfiadkgaa
open Go.Gx Go.Gx.F Go.RowKit
set_option linter.all false
set_option maxRecDepth 10000


theorem c_laws_FnSensitive (p_code : List (K .u8)) (p_more : List (K .u8)) (r : Bool) (hr : laws_FnSensitive p_code p_more = some r) (w0 : World) (m : Mem) (hv : Vis m w0) (s1 : Sl) (h1 : Rd m s1 p_code) (s2 : Sl) (h2 : Rd m s2 p_more) :
  Ret Try.prog 3 [s1.v,s2.v] w0 (fun v _=>v = (.bool r)):=by
 unfold laws_FnSensitive at hr
 refine ret_start Try.func3 rfl 181 rfl rfl m hv fun a hF hS=>q_seq (q_region (q_x (v:=(.bool false)) hF hS (ex_assign rfl) rfl rfl fun a hF=>q_end (n_sq (q_seq (q_seq (q_region (q_x (v:=s1.v) hF hS (ex_move rfl) rfl rfl fun a hF=>q_x (v:=(iV (goLen p_code))) hF hS (ex_len Try.underlying22 rfl h1.len) rfl rfl fun a hF=>q_x (v:=s2.v) hF hS (ex_move rfl) rfl rfl fun a hF=>q_x (v:=(iV (goLen p_more))) hF hS (ex_len Try.underlying22 rfl h2.len) rfl rfl fun a hF=>q_x (v:=(iV (w64 ((goLen p_code) + (goLen p_more))))) hF hS (ex_ibin rfl rfl rfl) rfl rfl fun a hF=>q_x (v:=(.bool (decide (1048576 < (w64 ((goLen p_code) + (goLen p_more))))))) hF hS (ex_ibin rfl rfl rfl) rfl rfl fun a hF=>q_end (n_sq ?_))))))))
 rcases bcase (decide (1048576 < (w64 ((goLen p_code) + (goLen p_more))))) with hc1 | hc1
 ·have hr:=cond_f hc1 hr
  refine q_cond_f hF rfl hc1 (q_skipc (n_sq (q_seq (q_region (q_x (v:=s1.v) hF hS (ex_move rfl) rfl rfl fun a hF=>?_)))))
  obtain ⟨t_3,ht_3,hr⟩:=bindS hr
  refine q_call (vs:=[s1.v]) hF hS Try.func8 (by kernel_rfl) rfl rfl rfl (c_spec_DrawThresholdCells p_code t_3 ht_3 _ m hS.vis s1 h1) ?_
  rintro a w _ ⟨q5,s5,rfl,hR4,h5⟩ hF hS2
  have hS : St _ _ _ _ [q5]:=hS.joinF hR4
  refine q_x (v:=(.tuple #[s5.v,(iV t_3.2)])) hF hS (ex_move rfl) rfl rfl fun a hF=>q_x (v:=s5.v) hF hS (ex_extract rfl rfl) rfl rfl fun a hF=>q_x (v:=(iV t_3.2)) hF hS (ex_extract rfl rfl) rfl rfl fun a hF=>q_x (v:=s5.v) hF hS (ex_assign rfl) rfl rfl fun a hF=>q_x (v:=(iV t_3.2)) hF hS (ex_assign rfl) rfl rfl fun a hF=>q_end (n_sq (q_seq (q_region (q_x (v:=s5.v) hF hS (ex_move rfl) rfl rfl fun a hF=>q_x (v:=(iV t_3.2)) hF hS (ex_move rfl) rfl rfl fun a hF=>?_))))
  obtain ⟨m7,hl7,hv7,hz7⟩:=hS.lend
  obtain ⟨t_6,ht_6,hr⟩:=bindS hr
  refine q_call (vs:=[s5.v,(iV t_3.2)]) hF hS Try.func9 (by kernel_rfl) rfl rfl rfl (c_impl_ThresholdCells t_3.1 t_3.2 t_6 ht_6 _ m7 hv7 s5 (h5.froz hl7 (hz7 0 _ rfl))) ?_
  rintro a w _ ⟨q9,s9,rfl,hR8,h9⟩ hF hS2
  have hS : St _ _ _ _ [q9,q5]:=hS.joinF hR8
  have h9:=h9.any m
  refine q_x (v:=(.tuple #[s9.v,(.bool t_6.2)])) hF hS (ex_move rfl) rfl rfl fun a hF=>q_x (v:=s9.v) hF hS (ex_extract rfl rfl) rfl rfl fun a hF=>q_x (v:=(.bool t_6.2)) hF hS (ex_extract rfl rfl) rfl rfl fun a hF=>q_x (v:=s9.v) hF hS (ex_assign rfl) rfl rfl fun a hF=>q_x (v:=(.bool t_6.2)) hF hS (ex_assign rfl) rfl rfl fun a hF=>q_end (n_sq (q_seq (q_region (q_x (v:=s5.v) hF hS (ex_move rfl) rfl rfl fun a hF=>q_x (v:=(iV t_3.2)) hF hS (ex_move rfl) rfl rfl fun a hF=>?_))))
  have hS : St _ _ _ _ [q5,q9]:=hS.sel [1,0] (by decide)
  obtain ⟨m10,hm10,hS,hz10⟩:=hS.freeze
  have h10:=h5.froz hm10.le hz10
  obtain ⟨t_11,ht_11,hr⟩:=bindS hr
  refine q_call (vs:=[s5.v,(iV t_3.2)]) hF hS Try.func10 (by kernel_rfl) rfl rfl rfl (c_spec_ThresholdCells t_3.1 t_3.2 t_11 ht_11 _ m10 hS.vis s5 h10) ?_
  have hT:=hS
  rintro a w _ ⟨m12,q13,s13,rfl,hm12,hR12,h13⟩ hF hS2
  have hS : St _ _ _ _ [q13,q9]:=hS.join hR12 hm12
  have hm12:=MLe.weakX (O0:=[]) hT hm12
  refine q_x (v:=(.tuple #[s13.v,(.bool t_11.2)])) hF hS (ex_move rfl) rfl rfl fun a hF=>q_x (v:=s13.v) hF hS (ex_extract rfl rfl) rfl rfl fun a hF=>q_x (v:=(.bool t_11.2)) hF hS (ex_extract rfl rfl) rfl rfl fun a hF=>q_x (v:=s13.v) hF hS (ex_assign rfl) rfl rfl fun a hF=>q_x (v:=(.bool t_11.2)) hF hS (ex_assign rfl) rfl rfl fun a hF=>q_end (n_sq (q_seq (q_region (q_x (v:=s2.v) hF hS (ex_move rfl) rfl rfl fun a hF=>?_))))
  obtain ⟨t_14,ht_14,hr⟩:=bindS hr
  refine q_call (vs:=[s2.v]) hF hS Try.func11 (by kernel_rfl) rfl rfl rfl (c_spec_DrawIsDominated p_more t_14 ht_14 _ m12 hS.vis s2 ((h2.mono hm10.le).mono hm12.le)) ?_
  rintro a w _ ⟨q16,s16,rfl,hR15,h16⟩ hF hS2
  have hS : St _ _ _ _ [q16,q13,q9]:=hS.joinF hR15
  refine q_x (v:=(.tuple #[s16.v,(iV t_14.2.1),(iV t_14.2.2)])) hF hS (ex_move rfl) rfl rfl fun a hF=>q_x (v:=s16.v) hF hS (ex_extract rfl rfl) rfl rfl fun a hF=>q_x (v:=(iV t_14.2.1)) hF hS (ex_extract rfl rfl) rfl rfl fun a hF=>q_x (v:=(iV t_14.2.2)) hF hS (ex_extract rfl rfl) rfl rfl fun a hF=>q_x (v:=s16.v) hF hS (ex_assign rfl) rfl rfl fun a hF=>q_x (v:=(iV t_14.2.1)) hF hS (ex_assign rfl) rfl rfl fun a hF=>q_x (v:=(iV t_14.2.2)) hF hS (ex_assign rfl) rfl rfl fun a hF=>q_end (n_sq (q_seq (q_region (q_x (v:=s16.v) hF hS (ex_move rfl) rfl rfl fun a hF=>q_x (v:=(iV t_14.2.1)) hF hS (ex_move rfl) rfl rfl fun a hF=>q_x (v:=(iV t_14.2.2)) hF hS (ex_move rfl) rfl rfl fun a hF=>?_))))
  obtain ⟨m18,hl18,hv18,hz18⟩:=hS.lend
  obtain ⟨t_17,ht_17,hr⟩:=bindS hr
  refine q_call (vs:=[s16.v,(iV t_14.2.1),(iV t_14.2.2)]) hF hS Try.func12 (by kernel_rfl) rfl rfl rfl (c_impl_IsDominated t_14.1 t_14.2.1 t_14.2.2 t_17 ht_17 _ m18 hv18 s16 (h16.froz hl18 (hz18 0 _ rfl))) ?_
  rintro a w _ rfl hF hS
  refine q_x (v:=(.tuple #[(.bool t_17.1),(.bool t_17.2)])) hF hS (ex_move rfl) rfl rfl fun a hF=>q_x (v:=(.bool t_17.1)) hF hS (ex_extract rfl rfl) rfl rfl fun a hF=>q_x (v:=(.bool t_17.2)) hF hS (ex_extract rfl rfl) rfl rfl fun a hF=>q_x (v:=(.bool t_17.1)) hF hS (ex_assign rfl) rfl rfl fun a hF=>q_x (v:=(.bool t_17.2)) hF hS (ex_assign rfl) rfl rfl fun a hF=>q_end (n_sq (q_seq (q_region (q_x (v:=s16.v) hF hS (ex_move rfl) rfl rfl fun a hF=>q_x (v:=(iV t_14.2.1)) hF hS (ex_move rfl) rfl rfl fun a hF=>q_x (v:=(iV t_14.2.2)) hF hS (ex_move rfl) rfl rfl fun a hF=>?_))))
  obtain ⟨m20,hl20,hv20,hz20⟩:=hS.lend
  obtain ⟨t_19,ht_19,hr⟩:=bindS hr
  refine q_call (vs:=[s16.v,(iV t_14.2.1),(iV t_14.2.2)]) hF hS Try.func13 (by kernel_rfl) rfl rfl rfl (c_spec_IsDominated t_14.1 t_14.2.1 t_14.2.2 t_19 ht_19 _ m20 hv20 s16 (h16.froz hl20 (hz20 0 _ rfl))) ?_
  rintro a w _ rfl hF hS
  refine q_x (v:=(.tuple #[(.bool t_19.1),(.bool t_19.2)])) hF hS (ex_move rfl) rfl rfl fun a hF=>q_x (v:=(.bool t_19.1)) hF hS (ex_extract rfl rfl) rfl rfl fun a hF=>q_x (v:=(.bool t_19.2)) hF hS (ex_extract rfl rfl) rfl rfl fun a hF=>q_x (v:=(.bool t_19.1)) hF hS (ex_assign rfl) rfl rfl fun a hF=>q_x (v:=(.bool t_19.2)) hF hS (ex_assign rfl) rfl rfl fun a hF=>q_end (n_sq (q_seq (q_region (q_x (v:=s2.v) hF hS (ex_move rfl) rfl rfl fun a hF=>?_))))
  obtain ⟨t_21,ht_21,hr⟩:=bindS hr
  refine q_call (vs:=[s2.v]) hF hS Try.func14 (by kernel_rfl) rfl rfl rfl (c_spec_DrawIsExposedShare p_more t_21 ht_21 _ m12 hS.vis s2 ((h2.mono hm10.le).mono hm12.le)) ?_
  rintro a w _ ⟨q23,s23,rfl,hR22,h23⟩ hF hS2
  have hS : St _ _ _ _ [q23,q16,q13,q9]:=hS.joinF hR22
  refine q_x (v:=(.tuple #[s23.v,(iV t_21.2)])) hF hS (ex_move rfl) rfl rfl fun a hF=>q_x (v:=s23.v) hF hS (ex_extract rfl rfl) rfl rfl fun a hF=>q_x (v:=(iV t_21.2)) hF hS (ex_extract rfl rfl) rfl rfl fun a hF=>q_x (v:=s23.v) hF hS (ex_assign rfl) rfl rfl fun a hF=>q_x (v:=(iV t_21.2)) hF hS (ex_assign rfl) rfl rfl fun a hF=>q_end (n_sq (q_seq (q_region (q_x (v:=s23.v) hF hS (ex_move rfl) rfl rfl fun a hF=>q_x (v:=(iV t_21.2)) hF hS (ex_move rfl) rfl rfl fun a hF=>?_))))
  obtain ⟨m25,hl25,hv25,hz25⟩:=hS.lend
  obtain ⟨t_24,ht_24,hr⟩:=bindS hr
  refine q_call (vs:=[s23.v,(iV t_21.2)]) hF hS Try.func15 (by kernel_rfl) rfl rfl rfl (c_impl_IsExposedShare t_21.1 t_21.2 t_24 ht_24 _ m25 hv25 s23 (h23.froz hl25 (hz25 0 _ rfl))) ?_
  rintro a w _ rfl hF hS
  refine q_x (v:=(.tuple #[(.bool t_24.1),(.bool t_24.2)])) hF hS (ex_move rfl) rfl rfl fun a hF=>q_x (v:=(.bool t_24.1)) hF hS (ex_extract rfl rfl) rfl rfl fun a hF=>q_x (v:=(.bool t_24.2)) hF hS (ex_extract rfl rfl) rfl rfl fun a hF=>q_x (v:=(.bool t_24.1)) hF hS (ex_assign rfl) rfl rfl fun a hF=>q_x (v:=(.bool t_24.2)) hF hS (ex_assign rfl) rfl rfl fun a hF=>q_end (n_sq (q_seq (q_region (q_x (v:=s23.v) hF hS (ex_move rfl) rfl rfl fun a hF=>q_x (v:=(iV t_21.2)) hF hS (ex_move rfl) rfl rfl fun a hF=>?_))))
  obtain ⟨m27,hl27,hv27,hz27⟩:=hS.lend
  obtain ⟨t_26,ht_26,hr⟩:=bindS hr
  refine q_call (vs:=[s23.v,(iV t_21.2)]) hF hS Try.func16 (by kernel_rfl) rfl rfl rfl (c_spec_IsExposedShare t_21.1 t_21.2 t_26 ht_26 _ m27 hv27 s23 (h23.froz hl27 (hz27 0 _ rfl))) ?_
  rintro a w _ rfl hF hS
  refine q_x (v:=(.tuple #[(.bool t_26.1),(.bool t_26.2)])) hF hS (ex_move rfl) rfl rfl fun a hF=>q_x (v:=(.bool t_26.1)) hF hS (ex_extract rfl rfl) rfl rfl fun a hF=>q_x (v:=(.bool t_26.2)) hF hS (ex_extract rfl rfl) rfl rfl fun a hF=>q_x (v:=(.bool t_26.1)) hF hS (ex_assign rfl) rfl rfl fun a hF=>q_x (v:=(.bool t_26.2)) hF hS (ex_assign rfl) rfl rfl fun a hF=>q_end (n_sq (q_seq (q_region (q_x (v:=s1.v) hF hS (ex_move rfl) rfl rfl fun a hF=>?_))))
  obtain ⟨t_28,ht_28,hr⟩:=bindS hr
  refine q_call (vs:=[s1.v]) hF hS Try.func17 (by kernel_rfl) rfl rfl rfl (c_spec_DrawJoinPatterns p_code t_28 ht_28 _ m12 hS.vis s1 ((h1.mono hm10.le).mono hm12.le)) ?_
  rintro a w _ ⟨q30,q31,s30,s31,rfl,hR29,h30,h31⟩ hF hS2
  have hS : St _ _ _ _ [q30,q31,q23,q16,q13,q9]:=hS.joinF hR29
  refine q_x (v:=(.tuple #[s30.v,s31.v])) hF hS (ex_move rfl) rfl rfl fun a hF=>q_x (v:=s30.v) hF hS (ex_extract rfl rfl) rfl rfl fun a hF=>q_x (v:=s31.v) hF hS (ex_extract rfl rfl) rfl rfl fun a hF=>q_x (v:=s30.v) hF hS (ex_assign rfl) rfl rfl fun a hF=>q_x (v:=s31.v) hF hS (ex_assign rfl) rfl rfl fun a hF=>q_end (n_sq (q_seq (q_region (q_x (v:=s30.v) hF hS (ex_move rfl) rfl rfl fun a hF=>q_x (v:=s31.v) hF hS (ex_move rfl) rfl rfl fun a hF=>?_))))
  obtain ⟨m33,hl33,hv33,hz33⟩:=hS.lend
  obtain ⟨t_32,ht_32,hr⟩:=bindS hr
  refine q_call (vs:=[s30.v,s31.v]) hF hS Try.func18 (by kernel_rfl) rfl rfl rfl (c_impl_JoinPatterns t_28.1 t_28.2 t_32 ht_32 _ m33 hv33 s30 (h30.froz hl33 (hz33 0 _ rfl)) s31 (h31.froz hl33 (hz33 1 _ rfl))) ?_
  rintro a w _ ⟨q35,s35,rfl,hR34,h35⟩ hF hS2
  have hS : St _ _ _ _ [q35,q30,q31,q23,q16,q13,q9]:=hS.joinF hR34
  have h35:=h35.any m12
  refine q_x (v:=(.tuple #[s35.v,(.bool t_32.2)])) hF hS (ex_move rfl) rfl rfl fun a hF=>q_x (v:=s35.v) hF hS (ex_extract rfl rfl) rfl rfl fun a hF=>q_x (v:=(.bool t_32.2)) hF hS (ex_extract rfl rfl) rfl rfl fun a hF=>q_x (v:=s35.v) hF hS (ex_assign rfl) rfl rfl fun a hF=>q_x (v:=(.bool t_32.2)) hF hS (ex_assign rfl) rfl rfl fun a hF=>q_end (n_sq (q_seq (q_region (q_x (v:=s30.v) hF hS (ex_move rfl) rfl rfl fun a hF=>q_x (v:=s31.v) hF hS (ex_move rfl) rfl rfl fun a hF=>?_))))
  have hS : St _ _ _ _ [q30,q35,q31,q23,q16,q13,q9]:=hS.sel [1,0,2,3,4,5,6] (by decide)
  obtain ⟨m36,hm36,hS,hz36⟩:=hS.freeze
  have h36:=h30.froz hm36.le hz36
  have hS : St _ _ _ _ [q31,q35,q23,q16,q13,q9]:=hS.sel [1,0,2,3,4,5] (by decide)
  obtain ⟨m37,hm37,hS,hz37⟩:=hS.freeze
  have h37:=(h31.mono hm36.le).froz hm37.le hz37
  obtain ⟨t_38,ht_38,hr⟩:=bindS hr
  refine q_call (vs:=[s30.v,s31.v]) hF hS Try.func19 (by kernel_rfl) rfl rfl rfl (c_spec_JoinPatterns t_28.1 t_28.2 t_38 ht_38 _ m37 hS.vis s30 (h36.mono hm37.le) s31 h37) ?_
  have hT:=hS
  rintro a w _ ⟨m39,q40,s40,rfl,hm39,hR39,h40⟩ hF hS2
  have hS : St _ _ _ _ [q40,q35,q23,q16,q13,q9]:=hS.join hR39 hm39
  have hm39:=MLe.weakX (O0:=[]) hT hm39
  refine q_x (v:=(.tuple #[s40.v,(.bool t_38.2)])) hF hS (ex_move rfl) rfl rfl fun a hF=>q_x (v:=s40.v) hF hS (ex_extract rfl rfl) rfl rfl fun a hF=>q_x (v:=(.bool t_38.2)) hF hS (ex_extract rfl rfl) rfl rfl fun a hF=>q_x (v:=s40.v) hF hS (ex_assign rfl) rfl rfl fun a hF=>q_x (v:=(.bool t_38.2)) hF hS (ex_assign rfl) rfl rfl fun a hF=>q_end (n_sq (q_seq (q_seq ?_)))
  obtain ⟨t_45,hj2,hr⟩:=bindS hr
  refine q_join (fun a w=>Fr a 181 [(5,s5.v),(7,s9.v),(8,(.bool t_6.2)),(150,(.bool t_45))]∧St [] w0 w m39 [q9]) ?_ ?_
  ·refine q_region (q_x (v:=(.bool t_6.2)) hF hS (ex_move rfl) rfl rfl fun a hF=>q_x (v:=(.bool t_11.2)) hF hS (ex_move rfl) rfl rfl fun a hF=>q_x (v:=(.bool (t_6.2 != t_11.2))) hF hS (ex_bne Try.underlying4 rfl rfl) rfl rfl fun a hF=>q_x (v:=(.bool (t_6.2 != t_11.2))) hF hS (ex_move rfl) rfl rfl fun a hF=>?_)
   rcases bcase (t_6.2 != t_11.2) with hc3 | hc3
   ·have hj2:=cond_f hc3 hj2
    refine q_xg (v:=s9.v) hF hS (ex_move rfl) (wanted_t hF rfl rfl rfl hc3) rfl fun a hF=>q_xg (v:=s13.v) hF hS (ex_move rfl) (wanted_t hF rfl rfl rfl hc3) rfl fun a hF=>?_
    obtain ⟨m42,hl42,hv42,hz42⟩:=hS.lend
    obtain ⟨t_41,ht_41,hj2⟩:=bindS hj2
    refine q_callg (vs:=[s9.v,s13.v]) hF hS (wanted_t hF rfl rfl rfl hc3) Try.func20 (by kernel_rfl) rfl rfl rfl (c_laws_qLists t_6.1 t_11.1 t_41 ht_41 _ m42 hv42 s9 ((((((h9.mono hm10.le).mono hm12.le).mono hm36.le).mono hm37.le).mono hm39.le).froz hl42 (hz42 5 _ rfl)) s13 ((((h13.mono hm36.le).mono hm37.le).mono hm39.le).froz hl42 (hz42 4 _ rfl))) ?_
    rintro a w _ rfl hF hS
    refine q_xg (v:=(.bool (!t_41))) hF hS (ex_not rfl) (wanted_t hF rfl rfl rfl hc3) rfl fun a hF=>q_x (v:=(.bool (!t_41))) hF hS (ex_pick_f rfl rfl hc3) rfl rfl fun a hF=>q_x (v:=(.bool (!t_41))) hF hS (ex_move rfl) rfl rfl fun a hF=>?_
    rcases bcase (!t_41) with hc4 | hc4
    ·have hj2:=cond_f hc4 hj2
     refine q_xg (v:=(.bool t_17.2)) hF hS (ex_move rfl) (wanted_t hF rfl rfl rfl hc4) rfl fun a hF=>q_xg (v:=(.bool t_19.2)) hF hS (ex_move rfl) (wanted_t hF rfl rfl rfl hc4) rfl fun a hF=>q_xg (v:=(.bool (t_17.2 != t_19.2))) hF hS (ex_bne Try.underlying4 rfl rfl) (wanted_t hF rfl rfl rfl hc4) rfl fun a hF=>q_x (v:=(.bool (t_17.2 != t_19.2))) hF hS (ex_pick_f rfl rfl hc4) rfl rfl fun a hF=>q_x (v:=(.bool (t_17.2 != t_19.2))) hF hS (ex_move rfl) rfl rfl fun a hF=>?_
     rcases bcase (t_17.2 != t_19.2) with hc5 | hc5
     ·have hj2:=cond_f hc5 hj2
      refine q_xg (v:=(.bool t_17.1)) hF hS (ex_move rfl) (wanted_t hF rfl rfl rfl hc5) rfl fun a hF=>q_xg (v:=(.bool t_19.1)) hF hS (ex_move rfl) (wanted_t hF rfl rfl rfl hc5) rfl fun a hF=>q_xg (v:=(.bool (t_17.1 != t_19.1))) hF hS (ex_bne Try.underlying4 rfl rfl) (wanted_t hF rfl rfl rfl hc5) rfl fun a hF=>q_x (v:=(.bool (t_17.1 != t_19.1))) hF hS (ex_pick_f rfl rfl hc5) rfl rfl fun a hF=>q_x (v:=(.bool (t_17.1 != t_19.1))) hF hS (ex_move rfl) rfl rfl fun a hF=>?_
      rcases bcase (t_17.1 != t_19.1) with hc6 | hc6
      ·have hj2:=cond_f hc6 hj2
       refine q_xg (v:=(.bool t_24.2)) hF hS (ex_move rfl) (wanted_t hF rfl rfl rfl hc6) rfl fun a hF=>q_xg (v:=(.bool t_26.2)) hF hS (ex_move rfl) (wanted_t hF rfl rfl rfl hc6) rfl fun a hF=>q_xg (v:=(.bool (t_24.2 != t_26.2))) hF hS (ex_bne Try.underlying4 rfl rfl) (wanted_t hF rfl rfl rfl hc6) rfl fun a hF=>q_x (v:=(.bool (t_24.2 != t_26.2))) hF hS (ex_pick_f rfl rfl hc6) rfl rfl fun a hF=>q_x (v:=(.bool (t_24.2 != t_26.2))) hF hS (ex_move rfl) rfl rfl fun a hF=>?_
       rcases bcase (t_24.2 != t_26.2) with hc7 | hc7
       ·have hj2:=cond_f hc7 hj2
        refine q_xg (v:=(.bool t_24.1)) hF hS (ex_move rfl) (wanted_t hF rfl rfl rfl hc7) rfl fun a hF=>q_xg (v:=(.bool t_26.1)) hF hS (ex_move rfl) (wanted_t hF rfl rfl rfl hc7) rfl fun a hF=>q_xg (v:=(.bool (t_24.1 != t_26.1))) hF hS (ex_bne Try.underlying4 rfl rfl) (wanted_t hF rfl rfl rfl hc7) rfl fun a hF=>q_x (v:=(.bool (t_24.1 != t_26.1))) hF hS (ex_pick_f rfl rfl hc7) rfl rfl fun a hF=>q_x (v:=(.bool (t_24.1 != t_26.1))) hF hS (ex_move rfl) rfl rfl fun a hF=>?_
        rcases bcase (t_24.1 != t_26.1) with hc8 | hc8
        ·have hj2:=cond_f hc8 hj2
         refine q_xg (v:=(.bool t_32.2)) hF hS (ex_move rfl) (wanted_t hF rfl rfl rfl hc8) rfl fun a hF=>q_xg (v:=(.bool t_38.2)) hF hS (ex_move rfl) (wanted_t hF rfl rfl rfl hc8) rfl fun a hF=>q_xg (v:=(.bool (t_32.2 != t_38.2))) hF hS (ex_bne Try.underlying4 rfl rfl) (wanted_t hF rfl rfl rfl hc8) rfl fun a hF=>q_x (v:=(.bool (t_32.2 != t_38.2))) hF hS (ex_pick_f rfl rfl hc8) rfl rfl fun a hF=>q_x (v:=(.bool (t_32.2 != t_38.2))) hF hS (ex_move rfl) rfl rfl fun a hF=>?_
         rcases bcase (t_32.2 != t_38.2) with hc9 | hc9
         ·have hj2:=cond_f hc9 hj2
          refine q_xg (v:=s35.v) hF hS (ex_move rfl) (wanted_t hF rfl rfl rfl hc9) rfl fun a hF=>q_xg (v:=s40.v) hF hS (ex_move rfl) (wanted_t hF rfl rfl rfl hc9) rfl fun a hF=>?_
          obtain ⟨m44,hl44,hv44,hz44⟩:=hS.lend
          obtain ⟨t_43,ht_43,hj2⟩:=bindS hj2
          refine q_callg (vs:=[s35.v,s40.v]) hF hS (wanted_t hF rfl rfl rfl hc9) Try.func20 (by kernel_rfl) rfl rfl rfl (c_laws_qLists t_32.1 t_38.1 t_43 ht_43 _ m44 hv44 s35 ((((h35.mono hm36.le).mono hm37.le).mono hm39.le).froz hl44 (hz44 1 _ rfl)) s40 (h40.froz hl44 (hz44 0 _ rfl))) ?_
          rintro a w _ rfl hF hS
          refine q_xg (v:=(.bool (!t_43))) hF hS (ex_not rfl) (wanted_t hF rfl rfl rfl hc9) rfl fun a hF=>q_x (v:=(.bool (!t_43))) hF hS (ex_pick_f rfl rfl hc9) rfl rfl fun a hF=>q_end (n_jn ?_)
          obtain rfl:=someI hj2
          exact ⟨hF.sub ⟨rfl,rfl,rfl,rfl,trivial⟩,hS.mask [false,false,false,false,false,true]⟩
         ·have hj2:=cond_t hc9 hj2
          refine q_skip hF (wanted_f hF rfl rfl rfl hc9 rfl) rfl fun a hF=>q_skip hF (wanted_f hF rfl rfl rfl hc9 rfl) rfl fun a hF=>q_skip hF (wanted_f hF rfl rfl rfl hc9 rfl) rfl fun a hF=>q_skip hF (wanted_f hF rfl rfl rfl hc9 rfl) rfl fun a hF=>q_x (v:=(.bool true)) hF hS (ex_pick_t rfl rfl hc9) rfl rfl fun a hF=>q_end (n_jn ?_)
          obtain rfl:=someI hj2
          exact ⟨hF.sub ⟨rfl,rfl,rfl,rfl,trivial⟩,hS.mask [false,false,false,false,false,true]⟩
        ·have hj2:=cond_t hc8 hj2
         refine q_skip hF (wanted_f hF rfl rfl rfl hc8 rfl) rfl fun a hF=>q_skip hF (wanted_f hF rfl rfl rfl hc8 rfl) rfl fun a hF=>q_skip hF (wanted_f hF rfl rfl rfl hc8 rfl) rfl fun a hF=>q_x (v:=(.bool true)) hF hS (ex_pick_t rfl rfl hc8) rfl rfl fun a hF=>q_x (v:=(.bool true)) hF hS (ex_move rfl) rfl rfl fun a hF=>q_skip hF (wanted_f hF rfl rfl rfl rfl rfl) rfl fun a hF=>q_skip hF (wanted_f hF rfl rfl rfl rfl rfl) rfl fun a hF=>q_skip hF (wanted_f hF rfl rfl rfl rfl rfl) rfl fun a hF=>q_skip hF (wanted_f hF rfl rfl rfl rfl rfl) rfl fun a hF=>q_x (v:=(.bool true)) hF hS (ex_pick_t rfl rfl rfl) rfl rfl fun a hF=>q_end (n_jn ?_)
         obtain rfl:=someI hj2
         exact ⟨hF.sub ⟨rfl,rfl,rfl,rfl,trivial⟩,hS.mask [false,false,false,false,false,true]⟩
       ·have hj2:=cond_t hc7 hj2
        refine q_skip hF (wanted_f hF rfl rfl rfl hc7 rfl) rfl fun a hF=>q_skip hF (wanted_f hF rfl rfl rfl hc7 rfl) rfl fun a hF=>q_skip hF (wanted_f hF rfl rfl rfl hc7 rfl) rfl fun a hF=>q_x (v:=(.bool true)) hF hS (ex_pick_t rfl rfl hc7) rfl rfl fun a hF=>q_x (v:=(.bool true)) hF hS (ex_move rfl) rfl rfl fun a hF=>q_skip hF (wanted_f hF rfl rfl rfl rfl rfl) rfl fun a hF=>q_skip hF (wanted_f hF rfl rfl rfl rfl rfl) rfl fun a hF=>q_skip hF (wanted_f hF rfl rfl rfl rfl rfl) rfl fun a hF=>q_x (v:=(.bool true)) hF hS (ex_pick_t rfl rfl rfl) rfl rfl fun a hF=>q_x (v:=(.bool true)) hF hS (ex_move rfl) rfl rfl fun a hF=>q_skip hF (wanted_f hF rfl rfl rfl rfl rfl) rfl fun a hF=>q_skip hF (wanted_f hF rfl rfl rfl rfl rfl) rfl fun a hF=>q_skip hF (wanted_f hF rfl rfl rfl rfl rfl) rfl fun a hF=>q_skip hF (wanted_f hF rfl rfl rfl rfl rfl) rfl fun a hF=>q_x (v:=(.bool true)) hF hS (ex_pick_t rfl rfl rfl) rfl rfl fun a hF=>q_end (n_jn ?_)
        obtain rfl:=someI hj2
        exact ⟨hF.sub ⟨rfl,rfl,rfl,rfl,trivial⟩,hS.mask [false,false,false,false,false,true]⟩
      ·have hj2:=cond_t hc6 hj2
       refine q_skip hF (wanted_f hF rfl rfl rfl hc6 rfl) rfl fun a hF=>q_skip hF (wanted_f hF rfl rfl rfl hc6 rfl) rfl fun a hF=>q_skip hF (wanted_f hF rfl rfl rfl hc6 rfl) rfl fun a hF=>q_x (v:=(.bool true)) hF hS (ex_pick_t rfl rfl hc6) rfl rfl fun a hF=>q_x (v:=(.bool true)) hF hS (ex_move rfl) rfl rfl fun a hF=>q_skip hF (wanted_f hF rfl rfl rfl rfl rfl) rfl fun a hF=>q_skip hF (wanted_f hF rfl rfl rfl rfl rfl) rfl fun a hF=>q_skip hF (wanted_f hF rfl rfl rfl rfl rfl) rfl fun a hF=>q_x (v:=(.bool true)) hF hS (ex_pick_t rfl rfl rfl) rfl rfl fun a hF=>q_x (v:=(.bool true)) hF hS (ex_move rfl) rfl rfl fun a hF=>q_skip hF (wanted_f hF rfl rfl rfl rfl rfl) rfl fun a hF=>q_skip hF (wanted_f hF rfl rfl rfl rfl rfl) rfl fun a hF=>q_skip hF (wanted_f hF rfl rfl rfl rfl rfl) rfl fun a hF=>q_x (v:=(.bool true)) hF hS (ex_pick_t rfl rfl rfl) rfl rfl fun a hF=>q_x (v:=(.bool true)) hF hS (ex_move rfl) rfl rfl fun a hF=>q_skip hF (wanted_f hF rfl rfl rfl rfl rfl) rfl fun a hF=>q_skip hF (wanted_f hF rfl rfl rfl rfl rfl) rfl fun a hF=>q_skip hF (wanted_f hF rfl rfl rfl rfl rfl) rfl fun a hF=>q_skip hF (wanted_f hF rfl rfl rfl rfl rfl) rfl fun a hF=>q_x (v:=(.bool true)) hF hS (ex_pick_t rfl rfl rfl) rfl rfl fun a hF=>q_end (n_jn ?_)
       obtain rfl:=someI hj2
       exact ⟨hF.sub ⟨rfl,rfl,rfl,rfl,trivial⟩,hS.mask [false,false,false,false,false,true]⟩
     ·have hj2:=cond_t hc5 hj2
      refine q_skip hF (wanted_f hF rfl rfl rfl hc5 rfl) rfl fun a hF=>q_skip hF (wanted_f hF rfl rfl rfl hc5 rfl) rfl fun a hF=>q_skip hF (wanted_f hF rfl rfl rfl hc5 rfl) rfl fun a hF=>q_x (v:=(.bool true)) hF hS (ex_pick_t rfl rfl hc5) rfl rfl fun a hF=>q_x (v:=(.bool true)) hF hS (ex_move rfl) rfl rfl fun a hF=>q_skip hF (wanted_f hF rfl rfl rfl rfl rfl) rfl fun a hF=>q_skip hF (wanted_f hF rfl rfl rfl rfl rfl) rfl fun a hF=>q_skip hF (wanted_f hF rfl rfl rfl rfl rfl) rfl fun a hF=>q_x (v:=(.bool true)) hF hS (ex_pick_t rfl rfl rfl) rfl rfl fun a hF=>q_x (v:=(.bool true)) hF hS (ex_move rfl) rfl rfl fun a hF=>q_skip hF (wanted_f hF rfl rfl rfl rfl rfl) rfl fun a hF=>q_skip hF (wanted_f hF rfl rfl rfl rfl rfl) rfl fun a hF=>q_skip hF (wanted_f hF rfl rfl rfl rfl rfl) rfl fun a hF=>q_x (v:=(.bool true)) hF hS (ex_pick_t rfl rfl rfl) rfl rfl fun a hF=>q_x (v:=(.bool true)) hF hS (ex_move rfl) rfl rfl fun a hF=>q_skip hF (wanted_f hF rfl rfl rfl rfl rfl) rfl fun a hF=>q_skip hF (wanted_f hF rfl rfl rfl rfl rfl) rfl fun a hF=>q_skip hF (wanted_f hF rfl rfl rfl rfl rfl) rfl fun a hF=>q_x (v:=(.bool true)) hF hS (ex_pick_t rfl rfl rfl) rfl rfl fun a hF=>q_x (v:=(.bool true)) hF hS (ex_move rfl) rfl rfl fun a hF=>q_skip hF (wanted_f hF rfl rfl rfl rfl rfl) rfl fun a hF=>q_skip hF (wanted_f hF rfl rfl rfl rfl rfl) rfl fun a hF=>q_skip hF (wanted_f hF rfl rfl rfl rfl rfl) rfl fun a hF=>q_skip hF (wanted_f hF rfl rfl rfl rfl rfl) rfl fun a hF=>q_x (v:=(.bool true)) hF hS (ex_pick_t rfl rfl rfl) rfl rfl fun a hF=>?_
      refine q_end (n_jn ?_)
      obtain rfl:=someI hj2
      exact ⟨hF.sub ⟨rfl,rfl,rfl,rfl,trivial⟩,hS.mask [false,false,false,false,false,true]⟩
    ·have hj2:=cond_t hc4 hj2
     refine q_skip hF (wanted_f hF rfl rfl rfl hc4 rfl) rfl fun a hF=>q_skip hF (wanted_f hF rfl rfl rfl hc4 rfl) rfl fun a hF=>q_skip hF (wanted_f hF rfl rfl rfl hc4 rfl) rfl fun a hF=>q_x (v:=(.bool true)) hF hS (ex_pick_t rfl rfl hc4) rfl rfl fun a hF=>q_x (v:=(.bool true)) hF hS (ex_move rfl) rfl rfl fun a hF=>q_skip hF (wanted_f hF rfl rfl rfl rfl rfl) rfl fun a hF=>q_skip hF (wanted_f hF rfl rfl rfl rfl rfl) rfl fun a hF=>q_skip hF (wanted_f hF rfl rfl rfl rfl rfl) rfl fun a hF=>q_x (v:=(.bool true)) hF hS (ex_pick_t rfl rfl rfl) rfl rfl fun a hF=>q_x (v:=(.bool true)) hF hS (ex_move rfl) rfl rfl fun a hF=>q_skip hF (wanted_f hF rfl rfl rfl rfl rfl) rfl fun a hF=>q_skip hF (wanted_f hF rfl rfl rfl rfl rfl) rfl fun a hF=>q_skip hF (wanted_f hF rfl rfl rfl rfl rfl) rfl fun a hF=>q_x (v:=(.bool true)) hF hS (ex_pick_t rfl rfl rfl) rfl rfl fun a hF=>q_x (v:=(.bool true)) hF hS (ex_move rfl) rfl rfl fun a hF=>q_skip hF (wanted_f hF rfl rfl rfl rfl rfl) rfl fun a hF=>q_skip hF (wanted_f hF rfl rfl rfl rfl rfl) rfl fun a hF=>q_skip hF (wanted_f hF rfl rfl rfl rfl rfl) rfl fun a hF=>q_x (v:=(.bool true)) hF hS (ex_pick_t rfl rfl rfl) rfl rfl fun a hF=>q_x (v:=(.bool true)) hF hS (ex_move rfl) rfl rfl fun a hF=>q_skip hF (wanted_f hF rfl rfl rfl rfl rfl) rfl fun a hF=>q_skip hF (wanted_f hF rfl rfl rfl rfl rfl) rfl fun a hF=>q_skip hF (wanted_f hF rfl rfl rfl rfl rfl) rfl fun a hF=>q_x (v:=(.bool true)) hF hS (ex_pick_t rfl rfl rfl) rfl rfl fun a hF=>q_x (v:=(.bool true)) hF hS (ex_move rfl) rfl rfl fun a hF=>?_
     refine q_skip hF (wanted_f hF rfl rfl rfl rfl rfl) rfl fun a hF=>q_skip hF (wanted_f hF rfl rfl rfl rfl rfl) rfl fun a hF=>q_skip hF (wanted_f hF rfl rfl rfl rfl rfl) rfl fun a hF=>q_skip hF (wanted_f hF rfl rfl rfl rfl rfl) rfl fun a hF=>q_x (v:=(.bool true)) hF hS (ex_pick_t rfl rfl rfl) rfl rfl fun a hF=>q_end (n_jn ?_)
     obtain rfl:=someI hj2
     exact ⟨hF.sub ⟨rfl,rfl,rfl,rfl,trivial⟩,hS.mask [false,false,false,false,false,true]⟩
   ·have hj2:=cond_t hc3 hj2
    refine q_skip hF (wanted_f hF rfl rfl rfl hc3 rfl) rfl fun a hF=>q_skip hF (wanted_f hF rfl rfl rfl hc3 rfl) rfl fun a hF=>q_skip hF (wanted_f hF rfl rfl rfl hc3 rfl) rfl fun a hF=>q_skip hF (wanted_f hF rfl rfl rfl hc3 rfl) rfl fun a hF=>q_x (v:=(.bool true)) hF hS (ex_pick_t rfl rfl hc3) rfl rfl fun a hF=>q_x (v:=(.bool true)) hF hS (ex_move rfl) rfl rfl fun a hF=>q_skip hF (wanted_f hF rfl rfl rfl rfl rfl) rfl fun a hF=>q_skip hF (wanted_f hF rfl rfl rfl rfl rfl) rfl fun a hF=>q_skip hF (wanted_f hF rfl rfl rfl rfl rfl) rfl fun a hF=>q_x (v:=(.bool true)) hF hS (ex_pick_t rfl rfl rfl) rfl rfl fun a hF=>q_x (v:=(.bool true)) hF hS (ex_move rfl) rfl rfl fun a hF=>q_skip hF (wanted_f hF rfl rfl rfl rfl rfl) rfl fun a hF=>q_skip hF (wanted_f hF rfl rfl rfl rfl rfl) rfl fun a hF=>q_skip hF (wanted_f hF rfl rfl rfl rfl rfl) rfl fun a hF=>q_x (v:=(.bool true)) hF hS (ex_pick_t rfl rfl rfl) rfl rfl fun a hF=>q_x (v:=(.bool true)) hF hS (ex_move rfl) rfl rfl fun a hF=>q_skip hF (wanted_f hF rfl rfl rfl rfl rfl) rfl fun a hF=>q_skip hF (wanted_f hF rfl rfl rfl rfl rfl) rfl fun a hF=>q_skip hF (wanted_f hF rfl rfl rfl rfl rfl) rfl fun a hF=>q_x (v:=(.bool true)) hF hS (ex_pick_t rfl rfl rfl) rfl rfl fun a hF=>q_x (v:=(.bool true)) hF hS (ex_move rfl) rfl rfl fun a hF=>q_skip hF (wanted_f hF rfl rfl rfl rfl rfl) rfl fun a hF=>q_skip hF (wanted_f hF rfl rfl rfl rfl rfl) rfl fun a hF=>q_skip hF (wanted_f hF rfl rfl rfl rfl rfl) rfl fun a hF=>q_x (v:=(.bool true)) hF hS (ex_pick_t rfl rfl rfl) rfl rfl fun a hF=>?_
    refine q_x (v:=(.bool true)) hF hS (ex_move rfl) rfl rfl fun a hF=>q_skip hF (wanted_f hF rfl rfl rfl rfl rfl) rfl fun a hF=>q_skip hF (wanted_f hF rfl rfl rfl rfl rfl) rfl fun a hF=>q_skip hF (wanted_f hF rfl rfl rfl rfl rfl) rfl fun a hF=>q_x (v:=(.bool true)) hF hS (ex_pick_t rfl rfl rfl) rfl rfl fun a hF=>q_x (v:=(.bool true)) hF hS (ex_move rfl) rfl rfl fun a hF=>q_skip hF (wanted_f hF rfl rfl rfl rfl rfl) rfl fun a hF=>q_skip hF (wanted_f hF rfl rfl rfl rfl rfl) rfl fun a hF=>q_skip hF (wanted_f hF rfl rfl rfl rfl rfl) rfl fun a hF=>q_skip hF (wanted_f hF rfl rfl rfl rfl rfl) rfl fun a hF=>q_x (v:=(.bool true)) hF hS (ex_pick_t rfl rfl rfl) rfl rfl fun a hF=>q_end (n_jn ?_)
    obtain rfl:=someI hj2
    exact ⟨hF.sub ⟨rfl,rfl,rfl,rfl,trivial⟩,hS.mask [false,false,false,false,false,true]⟩
  ·rintro a w ⟨hF,hS⟩
   refine n_sq ?_
   rcases bcase (t_45) with hc10 | hc10
   ·have hr:=cond_f hc10 hr
    refine q_cond_f hF rfl hc10 (q_skipc (n_sq (q_seq (q_seq (q_region (q_x (v:=(.bool t_6.2)) hF hS (ex_move rfl) rfl rfl fun a hF=>q_x (v:=(.bool (!t_6.2))) hF hS (ex_not rfl) rfl rfl fun a hF=>q_end (n_sq ?_)))))))
    rcases bcase (!t_6.2) with hc11 | hc11
    ·have hr:=cond_f hc11 hr
     refine q_cond_f hF rfl hc11 (q_skipc (n_sq (q_seq (q_region (q_x (v:=s5.v) hF hS (ex_move rfl) rfl rfl fun a hF=>q_x (v:=s9.v) hF hS (ex_move rfl) rfl rfl fun a hF=>?_)))))
     obtain ⟨m47,hl47,hv47,hz47⟩:=hS.lend
     obtain ⟨t_46,ht_46,hr⟩:=bindS hr
     refine q_call (vs:=[s5.v,s9.v]) hF hS Try.func21 (by kernel_rfl) rfl rfl rfl (c_impl_IsPattern t_3.1 t_6.1 t_46 ht_46 _ m47 hv47 s5 (((((h10.mono hm12.le).mono hm36.le).mono hm37.le).mono hm39.le).mono hl47) s9 ((((((h9.mono hm10.le).mono hm12.le).mono hm36.le).mono hm37.le).mono hm39.le).froz hl47 (hz47 0 _ rfl))) ?_
     rintro a w _ rfl hF hS
     refine q_x (v:=(.tuple #[(.bool t_46.1),(.bool t_46.2)])) hF hS (ex_move rfl) rfl rfl fun a hF=>q_x (v:=(.bool t_46.1)) hF hS (ex_extract rfl rfl) rfl rfl fun a hF=>q_x (v:=(.bool t_46.2)) hF hS (ex_extract rfl rfl) rfl rfl fun a hF=>q_x (v:=(.bool t_46.1)) hF hS (ex_assign rfl) rfl rfl fun a hF=>q_x (v:=(.bool t_46.2)) hF hS (ex_assign rfl) rfl rfl fun a hF=>q_end (n_sq (q_seq (q_region (q_x (v:=s9.v) hF hS (ex_move rfl) rfl rfl fun a hF=>q_x (v:=s9.v) hF hS (ex_move rfl) rfl rfl fun a hF=>?_))))
     obtain ⟨m49,hl49,hv49,hz49⟩:=hS.lend
     obtain ⟨t_48,ht_48,hr⟩:=bindS hr
     refine q_call (vs:=[s9.v,s9.v]) hF hS Try.func18 (by kernel_rfl) rfl rfl rfl (c_impl_JoinPatterns t_6.1 t_6.1 t_48 ht_48 _ m49 hv49 s9 ((((((h9.mono hm10.le).mono hm12.le).mono hm36.le).mono hm37.le).mono hm39.le).froz hl49 (hz49 0 _ rfl)) s9 ((((((h9.mono hm10.le).mono hm12.le).mono hm36.le).mono hm37.le).mono hm39.le).froz hl49 (hz49 0 _ rfl))) ?_
     rintro a w _ ⟨q51,s51,rfl,hR50,h51⟩ hF hS2
     have hS : St _ _ _ _ [q51,q9]:=hS.joinF hR50
     have h51:=h51.any m39
     refine q_x (v:=(.tuple #[s51.v,(.bool t_48.2)])) hF hS (ex_move rfl) rfl rfl fun a hF=>q_x (v:=s51.v) hF hS (ex_extract rfl rfl) rfl rfl fun a hF=>q_x (v:=(.bool t_48.2)) hF hS (ex_extract rfl rfl) rfl rfl fun a hF=>q_x (v:=s51.v) hF hS (ex_assign rfl) rfl rfl fun a hF=>q_x (v:=(.bool t_48.2)) hF hS (ex_assign rfl) rfl rfl fun a hF=>q_end (n_sq (q_seq ?_))
     obtain ⟨t_55,hj12,hr⟩:=bindS hr
     refine q_join (fun a w=>Fr a 181 [(4,(.bool t_55))]∧St [] w0 w m39 []) ?_ ?_
     ·refine q_region (q_x (v:=(.bool t_46.1)) hF hS (ex_move rfl) rfl rfl fun a hF=>q_x (v:=(.bool t_46.1)) hF hS (ex_move rfl) rfl rfl fun a hF=>?_)
      rcases bcase (t_46.1) with hc13 | hc13
      ·have hj12:=cond_f hc13 hj12
       refine q_skip hF (wanted_f hF rfl rfl rfl hc13 rfl) rfl fun a hF=>q_x (v:=(.bool false)) hF hS (ex_pick_f rfl rfl hc13) rfl rfl fun a hF=>q_x (v:=(.bool false)) hF hS (ex_move rfl) rfl rfl fun a hF=>q_skip hF (wanted_f hF rfl rfl rfl rfl rfl) rfl fun a hF=>q_x (v:=(.bool false)) hF hS (ex_pick_f rfl rfl rfl) rfl rfl fun a hF=>q_x (v:=(.bool false)) hF hS (ex_move rfl) rfl rfl fun a hF=>q_skip hF (wanted_f hF rfl rfl rfl rfl rfl) rfl fun a hF=>q_skip hF (wanted_f hF rfl rfl rfl rfl rfl) rfl fun a hF=>q_skip hF (wanted_f hF rfl rfl rfl rfl rfl) rfl fun a hF=>q_x (v:=(.bool false)) hF hS (ex_pick_f rfl rfl rfl) rfl rfl fun a hF=>q_x (v:=(.bool false)) hF hS (ex_move rfl) rfl rfl fun a hF=>q_skip hF (wanted_f hF rfl rfl rfl rfl rfl) rfl fun a hF=>q_skip hF (wanted_f hF rfl rfl rfl rfl rfl) rfl fun a hF=>q_x (v:=(.bool false)) hF hS (ex_pick_f rfl rfl rfl) rfl rfl fun a hF=>q_x (v:=(.bool false)) hF hS (ex_assign rfl) rfl rfl fun a hF=>q_end (n_jn ?_)
       obtain rfl:=someI hj12
       exact ⟨hF.sub ⟨rfl,trivial⟩,hS.mask [false,false]⟩
      ·have hj12:=cond_t hc13 hj12
       refine q_xg (v:=(.bool t_46.2)) hF hS (ex_move rfl) (wanted_t hF rfl rfl rfl hc13) rfl fun a hF=>q_x (v:=(.bool t_46.2)) hF hS (ex_pick_t rfl rfl hc13) rfl rfl fun a hF=>q_x (v:=(.bool t_46.2)) hF hS (ex_move rfl) rfl rfl fun a hF=>?_
       rcases bcase (t_46.2) with hc14 | hc14
       ·have hj12:=cond_f hc14 hj12
        refine q_skip hF (wanted_f hF rfl rfl rfl hc14 rfl) rfl fun a hF=>q_x (v:=(.bool false)) hF hS (ex_pick_f rfl rfl hc14) rfl rfl fun a hF=>q_x (v:=(.bool false)) hF hS (ex_move rfl) rfl rfl fun a hF=>q_skip hF (wanted_f hF rfl rfl rfl rfl rfl) rfl fun a hF=>q_skip hF (wanted_f hF rfl rfl rfl rfl rfl) rfl fun a hF=>q_skip hF (wanted_f hF rfl rfl rfl rfl rfl) rfl fun a hF=>q_x (v:=(.bool false)) hF hS (ex_pick_f rfl rfl rfl) rfl rfl fun a hF=>q_x (v:=(.bool false)) hF hS (ex_move rfl) rfl rfl fun a hF=>q_skip hF (wanted_f hF rfl rfl rfl rfl rfl) rfl fun a hF=>q_skip hF (wanted_f hF rfl rfl rfl rfl rfl) rfl fun a hF=>q_x (v:=(.bool false)) hF hS (ex_pick_f rfl rfl rfl) rfl rfl fun a hF=>q_x (v:=(.bool false)) hF hS (ex_assign rfl) rfl rfl fun a hF=>q_end (n_jn ?_)
        obtain rfl:=someI hj12
        exact ⟨hF.sub ⟨rfl,trivial⟩,hS.mask [false,false]⟩
       ·have hj12:=cond_t hc14 hj12
        refine q_xg (v:=(.bool t_48.2)) hF hS (ex_move rfl) (wanted_t hF rfl rfl rfl hc14) rfl fun a hF=>q_x (v:=(.bool t_48.2)) hF hS (ex_pick_t rfl rfl hc14) rfl rfl fun a hF=>q_x (v:=(.bool t_48.2)) hF hS (ex_move rfl) rfl rfl fun a hF=>?_
        rcases bcase (t_48.2) with hc15 | hc15
        ·have hj12:=cond_f hc15 hj12
         refine q_skip hF (wanted_f hF rfl rfl rfl hc15 rfl) rfl fun a hF=>q_skip hF (wanted_f hF rfl rfl rfl hc15 rfl) rfl fun a hF=>q_skip hF (wanted_f hF rfl rfl rfl hc15 rfl) rfl fun a hF=>q_x (v:=(.bool false)) hF hS (ex_pick_f rfl rfl hc15) rfl rfl fun a hF=>q_x (v:=(.bool false)) hF hS (ex_move rfl) rfl rfl fun a hF=>q_skip hF (wanted_f hF rfl rfl rfl rfl rfl) rfl fun a hF=>q_skip hF (wanted_f hF rfl rfl rfl rfl rfl) rfl fun a hF=>q_x (v:=(.bool false)) hF hS (ex_pick_f rfl rfl rfl) rfl rfl fun a hF=>q_x (v:=(.bool false)) hF hS (ex_assign rfl) rfl rfl fun a hF=>q_end (n_jn ?_)
         obtain rfl:=someI hj12
         exact ⟨hF.sub ⟨rfl,trivial⟩,hS.mask [false,false]⟩
        ·have hj12:=cond_t hc15 hj12
         refine q_xg (v:=s51.v) hF hS (ex_move rfl) (wanted_t hF rfl rfl rfl hc15) rfl fun a hF=>q_xg (v:=s9.v) hF hS (ex_move rfl) (wanted_t hF rfl rfl rfl hc15) rfl fun a hF=>?_
         obtain ⟨m53,hl53,hv53,hz53⟩:=hS.lend
         obtain ⟨t_52,ht_52,hj12⟩:=bindS hj12
         refine q_callg (vs:=[s51.v,s9.v]) hF hS (wanted_t hF rfl rfl rfl hc15) Try.func20 (by kernel_rfl) rfl rfl rfl (c_laws_qLists t_48.1 t_6.1 t_52 ht_52 _ m53 hv53 s51 (h51.froz hl53 (hz53 0 _ rfl)) s9 ((((((h9.mono hm10.le).mono hm12.le).mono hm36.le).mono hm37.le).mono hm39.le).froz hl53 (hz53 1 _ rfl))) ?_
         rintro a w _ rfl hF hS
         refine q_x (v:=(.bool t_52)) hF hS (ex_pick_t rfl rfl hc15) rfl rfl fun a hF=>q_x (v:=(.bool t_52)) hF hS (ex_move rfl) rfl rfl fun a hF=>?_
         rcases bcase (t_52) with hc16 | hc16
         ·have hj12:=cond_f hc16 hj12
          refine q_skip hF (wanted_f hF rfl rfl rfl hc16 rfl) rfl fun a hF=>q_skip hF (wanted_f hF rfl rfl rfl hc16 rfl) rfl fun a hF=>q_x (v:=(.bool false)) hF hS (ex_pick_f rfl rfl hc16) rfl rfl fun a hF=>q_x (v:=(.bool false)) hF hS (ex_assign rfl) rfl rfl fun a hF=>q_end (n_jn ?_)
          obtain rfl:=someI hj12
          exact ⟨hF.sub ⟨rfl,trivial⟩,hS.mask [false,false]⟩
         ·have hj12:=cond_t hc16 hj12
          refine q_xg (v:=s5.v) hF hS (ex_move rfl) (wanted_t hF rfl rfl rfl hc16) rfl fun a hF=>?_
          obtain ⟨t_54,ht_54,hj12⟩:=bindS hj12
          refine q_callg (vs:=[s5.v]) hF hS (wanted_t hF rfl rfl rfl hc16) Try.func22 (by kernel_rfl) rfl rfl rfl (c_impl_IsTwoWay t_3.1 t_54 ht_54 _ m39 hS.vis s5 ((((h10.mono hm12.le).mono hm36.le).mono hm37.le).mono hm39.le)) ?_
          rintro a w _ rfl hF hS
          refine q_x (v:=(.bool t_54)) hF hS (ex_pick_t rfl rfl hc16) rfl rfl fun a hF=>q_x (v:=(.bool t_54)) hF hS (ex_assign rfl) rfl rfl fun a hF=>q_end (n_jn ?_)
          obtain rfl:=someI hj12
          exact ⟨hF.sub ⟨rfl,trivial⟩,hS.mask [false,false]⟩
     ·rintro a w ⟨hF,hS⟩
      refine n_sq (q_ret ?_)
      obtain rfl:=someI hr
      exact ret_of hF hS rfl (.tmp rfl .nil) rfl
    ·have hr:=cond_t hc11 hr
     refine q_cond_t hF rfl hc11 (q_seq (q_region (q_x (v:=(.bool true)) hF hS (ex_assign rfl) rfl rfl fun a hF=>q_end (n_sq (q_ret (r_sq ?_))))))
     obtain rfl:=someI hr
     exact ret_of hF hS rfl (.tmp rfl .nil) rfl
   ·have hr:=cond_t hc10 hr
    refine q_cond_t hF rfl hc10 (q_seq (q_region (q_x (v:=(.bool false)) hF hS (ex_assign rfl) rfl rfl fun a hF=>q_end (n_sq (q_ret (r_sq ?_))))))
    obtain rfl:=someI hr
    exact ret_of hF hS rfl (.tmp rfl .nil) rfl
 ·have hr:=cond_t hc1 hr
  refine q_cond_t hF rfl hc1 (q_seq (q_region (q_x (v:=(.bool true)) hF hS (ex_assign rfl) rfl rfl fun a hF=>q_end (n_sq (q_ret (r_sq ?_))))))
  obtain rfl:=someI hr
  exact ret_of hF hS rfl (.tmp rfl .nil) rfl

end Go.Proofs.Ytpjcfmpfiadkgaa
