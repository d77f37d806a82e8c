/- The walks of the functions: each returns what its plain function says. -/
import Derived.Test.YtpjcfmpfiadkgaaAWalks3
namespace Go.Proofs.Ytpjcfmpfiadkgaa
open Go.Gx Go.Gx.F Go.RowKit
set_option linter.all false
set_option maxRecDepth 10000


theorem c_laws_FnAudits (p_code : List (K .u8)) (p_more : List (K .u8)) (r : Bool) (hr : laws_FnAudits p_code p_more = some r) (w0 : World) (m : Mem) (hv : Vis m w0) (s1 : Sl) (h1 : Rd m s1 p_code) (s2 : Sl) (h2 : Rd m s2 p_more) :
  Ret Try.prog 4 [s1.v,s2.v] w0 (fun v _=>v = (.bool r)):=by
 unfold laws_FnAudits at hr
 refine ret_start Try.func4 rfl 216 rfl rfl m hv fun a hF hS=>q_seq (q_region (q_x (v:=(.bool false)) hF hS (ex_assign rfl) rfl rfl fun a hF=>q_end (n_sq (q_seq (q_seq (q_region (q_x (v:=s1.v) hF hS (ex_move rfl) rfl rfl fun a hF=>q_x (v:=(iV (goLen p_code))) hF hS (ex_len Try.underlying22 rfl h1.len) rfl rfl fun a hF=>q_x (v:=s2.v) hF hS (ex_move rfl) rfl rfl fun a hF=>q_x (v:=(iV (goLen p_more))) hF hS (ex_len Try.underlying22 rfl h2.len) rfl rfl fun a hF=>q_x (v:=(iV (w64 ((goLen p_code) + (goLen p_more))))) hF hS (ex_ibin rfl rfl rfl) rfl rfl fun a hF=>q_x (v:=(.bool (decide (1048576 < (w64 ((goLen p_code) + (goLen p_more))))))) hF hS (ex_ibin rfl rfl rfl) rfl rfl fun a hF=>q_end (n_sq ?_))))))))
 rcases bcase (decide (1048576 < (w64 ((goLen p_code) + (goLen p_more))))) with hc1 | hc1
 ·have hr:=cond_f hc1 hr
  refine q_cond_f hF rfl hc1 (q_skipc (n_sq (q_seq (q_region (q_x (v:=s1.v) hF hS (ex_move rfl) rfl rfl fun a hF=>?_)))))
  obtain ⟨t_3,ht_3,hr⟩:=bindS hr
  refine q_call (vs:=[s1.v]) hF hS Try.func23 (by kernel_rfl) rfl rfl rfl (c_spec_DrawImpliedBounds p_code t_3 ht_3 _ m hS.vis s1 h1) ?_
  rintro a w _ ⟨q5,q6,s5,s6,rfl,hR4,h5,h6⟩ hF hS2
  have hS : St _ _ _ _ [q5,q6]:=hS.joinF hR4
  refine q_x (v:=(.tuple #[s5.v,s6.v])) hF hS (ex_move rfl) rfl rfl fun a hF=>q_x (v:=s5.v) hF hS (ex_extract rfl rfl) rfl rfl fun a hF=>q_x (v:=s6.v) hF hS (ex_extract rfl rfl) rfl rfl fun a hF=>q_x (v:=s5.v) hF hS (ex_assign rfl) rfl rfl fun a hF=>q_x (v:=s6.v) hF hS (ex_assign rfl) rfl rfl fun a hF=>q_end (n_sq (q_seq (q_region (q_x (v:=s5.v) hF hS (ex_move rfl) rfl rfl fun a hF=>q_x (v:=s6.v) hF hS (ex_move rfl) rfl rfl fun a hF=>?_))))
  obtain ⟨m8,hl8,hv8,hz8⟩:=hS.lend
  obtain ⟨t_7,ht_7,hr⟩:=bindS hr
  refine q_call (vs:=[s5.v,s6.v]) hF hS Try.func24 (by kernel_rfl) rfl rfl rfl (c_impl_ImpliedBounds t_3.1 t_3.2 t_7 ht_7 _ m8 hv8 s5 (h5.froz hl8 (hz8 0 _ rfl)) s6 (h6.froz hl8 (hz8 1 _ rfl))) ?_
  rintro a w _ ⟨q10,q11,s10,s11,rfl,hR9,h10,h11⟩ hF hS2
  have hS : St _ _ _ _ [q10,q11,q5,q6]:=hS.joinF hR9
  have h10:=h10.any m
  have h11:=h11.any m
  refine q_x (v:=(.tuple #[(.agg #[s10.v,s11.v]),(.bool t_7.2)])) hF hS (ex_move rfl) rfl rfl fun a hF=>q_x (v:=(.agg #[s10.v,s11.v])) hF hS (ex_extract rfl rfl) rfl rfl fun a hF=>q_x (v:=(.bool t_7.2)) hF hS (ex_extract rfl rfl) rfl rfl fun a hF=>q_alloc (cs:=[nilS.v,nilS.v]) hF hS rfl rfl rfl fun a w b12 hF hS=>q_store (vs:=[s10.v,s11.v]) (cs':=[s10.v,s11.v]) 0 0 hF hS sz44 rfl rfl rfl rfl rfl rfl rfl rfl fun a w hF hS=>q_x (v:=(.bool t_7.2)) hF hS (ex_assign rfl) rfl rfl fun a hF=>q_end (n_sq (q_seq (q_region (q_x (v:=s5.v) hF hS (ex_move rfl) rfl rfl fun a hF=>q_x (v:=s6.v) hF hS (ex_move rfl) rfl rfl fun a hF=>?_))))
  have hS : St _ _ _ _ [q5,[⟨b12,[s10.v,s11.v],44⟩],q10,q11,q6]:=hS.sel [3,0,1,2,4] (by decide)
  obtain ⟨m13,hm13,hS,hz13⟩:=hS.freeze
  have h13:=h5.froz hm13.le hz13
  have hS : St _ _ _ _ [q6,[⟨b12,[s10.v,s11.v],44⟩],q10,q11]:=hS.sel [3,0,1,2] (by decide)
  obtain ⟨m14,hm14,hS,hz14⟩:=hS.freeze
  have h14:=(h6.mono hm13.le).froz hm14.le hz14
  obtain ⟨t_15,ht_15,hr⟩:=bindS hr
  refine q_call (vs:=[s5.v,s6.v]) hF hS Try.func25 (by kernel_rfl) rfl rfl rfl (c_spec_ImpliedBounds t_3.1 t_3.2 t_15 ht_15 _ m14 hS.vis s5 (h13.mono hm14.le) s6 h14) ?_
  have hT:=hS
  rintro a w _ ⟨m16,q17,q18,s17,s18,rfl,hm16,hR16,h17,h18⟩ hF hS2
  have hS : St _ _ _ _ [q17,q18,[⟨b12,[s10.v,s11.v],44⟩],q10,q11]:=hS.join hR16 hm16
  have hm16:=MLe.weakX (O0:=[]) hT hm16
  refine q_x (v:=(.tuple #[(.agg #[s17.v,s18.v]),(.bool t_15.2)])) hF hS (ex_move rfl) rfl rfl fun a hF=>q_x (v:=(.agg #[s17.v,s18.v])) hF hS (ex_extract rfl rfl) rfl rfl fun a hF=>q_x (v:=(.bool t_15.2)) hF hS (ex_extract rfl rfl) rfl rfl fun a hF=>q_alloc (cs:=[nilS.v,nilS.v]) hF hS rfl rfl rfl fun a w b19 hF hS=>q_store (vs:=[s17.v,s18.v]) (cs':=[s17.v,s18.v]) 0 0 hF hS sz44 rfl rfl rfl rfl rfl rfl rfl rfl fun a w hF hS=>q_x (v:=(.bool t_15.2)) hF hS (ex_assign rfl) rfl rfl fun a hF=>q_end (n_sq (q_seq (q_region (q_x (v:=s2.v) hF hS (ex_move rfl) rfl rfl fun a hF=>?_))))
  obtain ⟨t_20,ht_20,hr⟩:=bindS hr
  refine q_call (vs:=[s2.v]) hF hS Try.func26 (by kernel_rfl) rfl rfl rfl (c_spec_DrawExposedCells p_more t_20 ht_20 _ m16 hS.vis s2 (((h2.mono hm13.le).mono hm14.le).mono hm16.le)) ?_
  rintro a w _ ⟨q22,q23,s22,s23,rfl,hR21,h22,h23⟩ hF hS2
  have hS : St _ _ _ _ [q22,q23,[⟨b19,[s17.v,s18.v],44⟩],q17,q18,[⟨b12,[s10.v,s11.v],44⟩],q10,q11]:=hS.joinF hR21
  refine q_x (v:=(.tuple #[s22.v,s23.v])) hF hS (ex_move rfl) rfl rfl fun a hF=>q_x (v:=s22.v) hF hS (ex_extract rfl rfl) rfl rfl fun a hF=>q_x (v:=s23.v) hF hS (ex_extract rfl rfl) rfl rfl fun a hF=>q_x (v:=s22.v) hF hS (ex_assign rfl) rfl rfl fun a hF=>q_x (v:=s23.v) hF hS (ex_assign rfl) rfl rfl fun a hF=>q_end (n_sq (q_seq (q_region (q_x (v:=s22.v) hF hS (ex_move rfl) rfl rfl fun a hF=>q_x (v:=s23.v) hF hS (ex_move rfl) rfl rfl fun a hF=>?_))))
  obtain ⟨m24,hm24,hS,hz24⟩:=hS.freeze
  have h24:=h22.froz hm24.le hz24
  obtain ⟨m25,hm25,hS,hz25⟩:=hS.freeze
  have h25:=(h23.mono hm24.le).froz hm25.le hz25
  obtain ⟨t_26,ht_26,hr⟩:=bindS hr
  refine q_call (vs:=[s22.v,s23.v]) hF hS Try.func27 (by kernel_rfl) rfl rfl rfl (c_impl_ExposedCells t_20.1 t_20.2 t_26 ht_26 _ m25 hS.vis s22 (h24.mono hm25.le) s23 h25) ?_
  have hT:=hS
  rintro a w _ ⟨m27,q28,s28,rfl,hm27,hR27,h28⟩ hF hS2
  have hS : St _ _ _ _ [q28,[⟨b19,[s17.v,s18.v],44⟩],q17,q18,[⟨b12,[s10.v,s11.v],44⟩],q10,q11]:=hS.join hR27 hm27
  have hm27:=MLe.weakX (O0:=[]) hT hm27
  refine q_x (v:=(.tuple #[s28.v,(.bool t_26.2)])) hF hS (ex_move rfl) rfl rfl fun a hF=>q_x (v:=s28.v) hF hS (ex_extract rfl rfl) rfl rfl fun a hF=>q_x (v:=(.bool t_26.2)) hF hS (ex_extract rfl rfl) rfl rfl fun a hF=>q_x (v:=s28.v) hF hS (ex_assign rfl) rfl rfl fun a hF=>q_x (v:=(.bool t_26.2)) hF hS (ex_assign rfl) rfl rfl fun a hF=>q_end (n_sq (q_seq (q_region (q_x (v:=s22.v) hF hS (ex_move rfl) rfl rfl fun a hF=>q_x (v:=s23.v) hF hS (ex_move rfl) rfl rfl fun a hF=>?_))))
  obtain ⟨t_29,ht_29,hr⟩:=bindS hr
  refine q_call (vs:=[s22.v,s23.v]) hF hS Try.func28 (by kernel_rfl) rfl rfl rfl (c_spec_ExposedCells t_20.1 t_20.2 t_29 ht_29 _ m27 hS.vis s22 ((h24.mono hm25.le).mono hm27.le) s23 (h25.mono hm27.le)) ?_
  have hT:=hS
  rintro a w _ ⟨m30,q31,s31,rfl,hm30,hR30,h31⟩ hF hS2
  have hS : St _ _ _ _ [q31,q28,[⟨b19,[s17.v,s18.v],44⟩],q17,q18,[⟨b12,[s10.v,s11.v],44⟩],q10,q11]:=hS.join hR30 hm30
  have hm30:=MLe.weakX (O0:=[]) hT hm30
  refine q_x (v:=(.tuple #[s31.v,(.bool t_29.2)])) hF hS (ex_move rfl) rfl rfl fun a hF=>q_x (v:=s31.v) hF hS (ex_extract rfl rfl) rfl rfl fun a hF=>q_x (v:=(.bool t_29.2)) hF hS (ex_extract rfl rfl) rfl rfl fun a hF=>q_x (v:=s31.v) hF hS (ex_assign rfl) rfl rfl fun a hF=>q_x (v:=(.bool t_29.2)) hF hS (ex_assign rfl) rfl rfl fun a hF=>q_end (n_sq (q_seq (q_seq ?_)))
  obtain ⟨t_38,hj2,hr⟩:=bindS hr
  refine q_join (fun a w=>Fr a 216 [(5,s5.v),(6,s6.v),(7,(.pointer (some ⟨b12,0,none⟩))),(8,(.bool t_7.2)),(101,(.bool t_38))]∧St [] w0 w m30 [q10,q11,[⟨b12,[s10.v,s11.v],44⟩]]) ?_ ?_
  ·refine q_region (q_x (v:=(.bool t_7.2)) hF hS (ex_move rfl) rfl rfl fun a hF=>q_x (v:=(.bool t_15.2)) hF hS (ex_move rfl) rfl rfl fun a hF=>q_x (v:=(.bool (t_7.2 != t_15.2))) hF hS (ex_bne Try.underlying4 rfl rfl) rfl rfl fun a hF=>q_x (v:=(.bool (t_7.2 != t_15.2))) hF hS (ex_move rfl) rfl rfl fun a hF=>?_)
   rcases bcase (t_7.2 != t_15.2) with hc3 | hc3
   ·have hj2:=cond_f hc3 hj2
    refine q_xg (v:=(.pointer (some ⟨b12,0,none⟩))) hF hS (ex_fieldAddr Try.underlying44 rfl sz23 rfl rfl) (wanted_t hF rfl rfl rfl hc3) rfl fun a hF=>q_xg (v:=s10.v) hF hS (ex_load1 5 0 Try.underlying23 rfl rfl rfl rfl) (wanted_t hF rfl rfl rfl hc3) rfl fun a hF=>q_xg (v:=(.pointer (some ⟨b19,0,none⟩))) hF hS (ex_fieldAddr Try.underlying44 rfl sz23 rfl rfl) (wanted_t hF rfl rfl rfl hc3) rfl fun a hF=>q_xg (v:=s17.v) hF hS (ex_load1 2 0 Try.underlying23 rfl rfl rfl rfl) (wanted_t hF rfl rfl rfl hc3) rfl fun a hF=>?_
    obtain ⟨m33,hl33,hv33,hz33⟩:=hS.lend
    obtain ⟨t_32,ht_32,hj2⟩:=bindS hj2
    refine q_callg (vs:=[s10.v,s17.v]) hF hS (wanted_t hF rfl rfl rfl hc3) Try.func20 (by kernel_rfl) rfl rfl rfl (c_laws_qLists t_7.1.Lo t_15.1.Lo t_32 ht_32 _ m33 hv33 s10 ((((((((h10.mono hm13.le).mono hm14.le).mono hm16.le).mono hm24.le).mono hm25.le).mono hm27.le).mono hm30.le).froz hl33 (hz33 6 _ rfl)) s17 (((((h17.mono hm24.le).mono hm25.le).mono hm27.le).mono hm30.le).froz hl33 (hz33 3 _ rfl))) ?_
    rintro a w _ rfl hF hS
    refine q_xg (v:=(.bool (!t_32))) hF hS (ex_not rfl) (wanted_t hF rfl rfl rfl hc3) rfl fun a hF=>q_x (v:=(.bool (!t_32))) hF hS (ex_pick_f rfl rfl hc3) rfl rfl fun a hF=>q_x (v:=(.bool (!t_32))) hF hS (ex_move rfl) rfl rfl fun a hF=>?_
    rcases bcase (!t_32) with hc4 | hc4
    ·have hj2:=cond_f hc4 hj2
     refine q_xg (v:=(.pointer (some ⟨b12,1,none⟩))) hF hS (ex_fieldAddr Try.underlying44 rfl sz23 rfl rfl) (wanted_t hF rfl rfl rfl hc4) rfl fun a hF=>q_xg (v:=s11.v) hF hS (ex_load1 5 0 Try.underlying23 rfl rfl rfl rfl) (wanted_t hF rfl rfl rfl hc4) rfl fun a hF=>q_xg (v:=(.pointer (some ⟨b19,1,none⟩))) hF hS (ex_fieldAddr Try.underlying44 rfl sz23 rfl rfl) (wanted_t hF rfl rfl rfl hc4) rfl fun a hF=>q_xg (v:=s18.v) hF hS (ex_load1 2 0 Try.underlying23 rfl rfl rfl rfl) (wanted_t hF rfl rfl rfl hc4) rfl fun a hF=>?_
     obtain ⟨m35,hl35,hv35,hz35⟩:=hS.lend
     obtain ⟨t_34,ht_34,hj2⟩:=bindS hj2
     refine q_callg (vs:=[s11.v,s18.v]) hF hS (wanted_t hF rfl rfl rfl hc4) Try.func20 (by kernel_rfl) rfl rfl rfl (c_laws_qLists t_7.1.Hi t_15.1.Hi t_34 ht_34 _ m35 hv35 s11 ((((((((h11.mono hm13.le).mono hm14.le).mono hm16.le).mono hm24.le).mono hm25.le).mono hm27.le).mono hm30.le).froz hl35 (hz35 7 _ rfl)) s18 (((((h18.mono hm24.le).mono hm25.le).mono hm27.le).mono hm30.le).froz hl35 (hz35 4 _ rfl))) ?_
     rintro a w _ rfl hF hS
     refine q_xg (v:=(.bool (!t_34))) hF hS (ex_not rfl) (wanted_t hF rfl rfl rfl hc4) rfl fun a hF=>q_x (v:=(.bool (!t_34))) hF hS (ex_pick_f rfl rfl hc4) rfl rfl fun a hF=>q_x (v:=(.bool (!t_34))) hF hS (ex_move rfl) rfl rfl fun a hF=>?_
     rcases bcase (!t_34) with hc5 | hc5
     ·have hj2:=cond_f hc5 hj2
      refine q_xg (v:=(.bool t_26.2)) hF hS (ex_move rfl) (wanted_t hF rfl rfl rfl hc5) rfl fun a hF=>q_xg (v:=(.bool t_29.2)) hF hS (ex_move rfl) (wanted_t hF rfl rfl rfl hc5) rfl fun a hF=>q_xg (v:=(.bool (t_26.2 != t_29.2))) hF hS (ex_bne Try.underlying4 rfl rfl) (wanted_t hF rfl rfl rfl hc5) rfl fun a hF=>q_x (v:=(.bool (t_26.2 != t_29.2))) hF hS (ex_pick_f rfl rfl hc5) rfl rfl fun a hF=>q_x (v:=(.bool (t_26.2 != t_29.2))) hF hS (ex_move rfl) rfl rfl fun a hF=>?_
      rcases bcase (t_26.2 != t_29.2) with hc6 | hc6
      ·have hj2:=cond_f hc6 hj2
       refine q_xg (v:=s28.v) hF hS (ex_move rfl) (wanted_t hF rfl rfl rfl hc6) rfl fun a hF=>q_xg (v:=s31.v) hF hS (ex_move rfl) (wanted_t hF rfl rfl rfl hc6) rfl fun a hF=>?_
       obtain ⟨m37,hl37,hv37,hz37⟩:=hS.lend
       obtain ⟨t_36,ht_36,hj2⟩:=bindS hj2
       refine q_callg (vs:=[s28.v,s31.v]) hF hS (wanted_t hF rfl rfl rfl hc6) Try.func20 (by kernel_rfl) rfl rfl rfl (c_laws_qLists t_26.1 t_29.1 t_36 ht_36 _ m37 hv37 s28 ((h28.mono hm30.le).froz hl37 (hz37 1 _ rfl)) s31 (h31.froz hl37 (hz37 0 _ rfl))) ?_
       rintro a w _ rfl hF hS
       refine q_xg (v:=(.bool (!t_36))) hF hS (ex_not rfl) (wanted_t hF rfl rfl rfl hc6) rfl fun a hF=>q_x (v:=(.bool (!t_36))) hF hS (ex_pick_f rfl rfl hc6) rfl rfl fun a hF=>q_end (n_jn ?_)
       obtain rfl:=someI hj2
       exact ⟨hF.sub ⟨rfl,rfl,rfl,rfl,rfl,trivial⟩,hS.sel [6,7,5] (by decide)⟩
      ·have hj2:=cond_t hc6 hj2
       refine q_skip hF (wanted_f hF rfl rfl rfl hc6 rfl) rfl fun a hF=>q_skip hF (wanted_f hF rfl rfl rfl hc6 rfl) rfl fun a hF=>q_skip hF (wanted_f hF rfl rfl rfl hc6 rfl) rfl fun a hF=>q_skip hF (wanted_f hF rfl rfl rfl hc6 rfl) rfl fun a hF=>q_x (v:=(.bool true)) hF hS (ex_pick_t rfl rfl hc6) rfl rfl fun a hF=>q_end (n_jn ?_)
       obtain rfl:=someI hj2
       exact ⟨hF.sub ⟨rfl,rfl,rfl,rfl,rfl,trivial⟩,hS.sel [6,7,5] (by decide)⟩
     ·have hj2:=cond_t hc5 hj2
      refine q_skip hF (wanted_f hF rfl rfl rfl hc5 rfl) rfl fun a hF=>q_skip hF (wanted_f hF rfl rfl rfl hc5 rfl) rfl fun a hF=>q_skip hF (wanted_f hF rfl rfl rfl hc5 rfl) rfl fun a hF=>q_x (v:=(.bool true)) hF hS (ex_pick_t rfl rfl hc5) rfl rfl fun a hF=>q_x (v:=(.bool true)) hF hS (ex_move rfl) rfl rfl fun a hF=>q_skip hF (wanted_f hF rfl rfl rfl rfl rfl) rfl fun a hF=>q_skip hF (wanted_f hF rfl rfl rfl rfl rfl) rfl fun a hF=>q_skip hF (wanted_f hF rfl rfl rfl rfl rfl) rfl fun a hF=>q_skip hF (wanted_f hF rfl rfl rfl rfl rfl) rfl fun a hF=>q_x (v:=(.bool true)) hF hS (ex_pick_t rfl rfl rfl) rfl rfl fun a hF=>q_end (n_jn ?_)
      obtain rfl:=someI hj2
      exact ⟨hF.sub ⟨rfl,rfl,rfl,rfl,rfl,trivial⟩,hS.sel [6,7,5] (by decide)⟩
    ·have hj2:=cond_t hc4 hj2
     refine q_skip hF (wanted_f hF rfl rfl rfl hc4 rfl) rfl fun a hF=>q_skip hF (wanted_f hF rfl rfl rfl hc4 rfl) rfl fun a hF=>q_skip hF (wanted_f hF rfl rfl rfl hc4 rfl) rfl fun a hF=>q_skip hF (wanted_f hF rfl rfl rfl hc4 rfl) rfl fun a hF=>q_skip hF (wanted_f hF rfl rfl rfl hc4 rfl) rfl fun a hF=>q_skip hF (wanted_f hF rfl rfl rfl hc4 rfl) rfl fun a hF=>q_x (v:=(.bool true)) hF hS (ex_pick_t rfl rfl hc4) rfl rfl fun a hF=>q_x (v:=(.bool true)) hF hS (ex_move rfl) rfl rfl fun a hF=>q_skip hF (wanted_f hF rfl rfl rfl rfl rfl) rfl fun a hF=>q_skip hF (wanted_f hF rfl rfl rfl rfl rfl) rfl fun a hF=>q_skip hF (wanted_f hF rfl rfl rfl rfl rfl) rfl fun a hF=>q_x (v:=(.bool true)) hF hS (ex_pick_t rfl rfl rfl) rfl rfl fun a hF=>q_x (v:=(.bool true)) hF hS (ex_move rfl) rfl rfl fun a hF=>q_skip hF (wanted_f hF rfl rfl rfl rfl rfl) rfl fun a hF=>q_skip hF (wanted_f hF rfl rfl rfl rfl rfl) rfl fun a hF=>q_skip hF (wanted_f hF rfl rfl rfl rfl rfl) rfl fun a hF=>q_skip hF (wanted_f hF rfl rfl rfl rfl rfl) rfl fun a hF=>q_x (v:=(.bool true)) hF hS (ex_pick_t rfl rfl rfl) rfl rfl fun a hF=>q_end (n_jn ?_)
     obtain rfl:=someI hj2
     exact ⟨hF.sub ⟨rfl,rfl,rfl,rfl,rfl,trivial⟩,hS.sel [6,7,5] (by decide)⟩
   ·have hj2:=cond_t hc3 hj2
    refine q_skip hF (wanted_f hF rfl rfl rfl hc3 rfl) rfl fun a hF=>q_skip hF (wanted_f hF rfl rfl rfl hc3 rfl) rfl fun a hF=>q_skip hF (wanted_f hF rfl rfl rfl hc3 rfl) rfl fun a hF=>q_skip hF (wanted_f hF rfl rfl rfl hc3 rfl) rfl fun a hF=>q_skip hF (wanted_f hF rfl rfl rfl hc3 rfl) rfl fun a hF=>q_skip hF (wanted_f hF rfl rfl rfl hc3 rfl) rfl fun a hF=>q_x (v:=(.bool true)) hF hS (ex_pick_t rfl rfl hc3) rfl rfl fun a hF=>q_x (v:=(.bool true)) hF hS (ex_move rfl) rfl rfl fun a hF=>q_skip hF (wanted_f hF rfl rfl rfl rfl rfl) rfl fun a hF=>q_skip hF (wanted_f hF rfl rfl rfl rfl rfl) rfl fun a hF=>q_skip hF (wanted_f hF rfl rfl rfl rfl rfl) rfl fun a hF=>q_skip hF (wanted_f hF rfl rfl rfl rfl rfl) rfl fun a hF=>q_skip hF (wanted_f hF rfl rfl rfl rfl rfl) rfl fun a hF=>q_skip hF (wanted_f hF rfl rfl rfl rfl rfl) rfl fun a hF=>q_x (v:=(.bool true)) hF hS (ex_pick_t rfl rfl rfl) rfl rfl fun a hF=>q_x (v:=(.bool true)) hF hS (ex_move rfl) rfl rfl fun a hF=>q_skip hF (wanted_f hF rfl rfl rfl rfl rfl) rfl fun a hF=>q_skip hF (wanted_f hF rfl rfl rfl rfl rfl) rfl fun a hF=>q_skip hF (wanted_f hF rfl rfl rfl rfl rfl) rfl fun a hF=>q_x (v:=(.bool true)) hF hS (ex_pick_t rfl rfl rfl) rfl rfl fun a hF=>q_x (v:=(.bool true)) hF hS (ex_move rfl) rfl rfl fun a hF=>q_skip hF (wanted_f hF rfl rfl rfl rfl rfl) rfl fun a hF=>q_skip hF (wanted_f hF rfl rfl rfl rfl rfl) rfl fun a hF=>q_skip hF (wanted_f hF rfl rfl rfl rfl rfl) rfl fun a hF=>q_skip hF (wanted_f hF rfl rfl rfl rfl rfl) rfl fun a hF=>?_
    refine q_x (v:=(.bool true)) hF hS (ex_pick_t rfl rfl rfl) rfl rfl fun a hF=>q_end (n_jn ?_)
    obtain rfl:=someI hj2
    exact ⟨hF.sub ⟨rfl,rfl,rfl,rfl,rfl,trivial⟩,hS.sel [6,7,5] (by decide)⟩
  ·rintro a w ⟨hF,hS⟩
   refine n_sq ?_
   rcases bcase (t_38) with hc7 | hc7
   ·have hr:=cond_f hc7 hr
    refine q_cond_f hF rfl hc7 (q_skipc (n_sq (q_seq (q_seq (q_region (q_x (v:=(.bool t_7.2)) hF hS (ex_move rfl) rfl rfl fun a hF=>q_x (v:=(.bool (!t_7.2))) hF hS (ex_not rfl) rfl rfl fun a hF=>q_end (n_sq ?_)))))))
    rcases bcase (!t_7.2) with hc8 | hc8
    ·have hr:=cond_f hc8 hr
     refine q_cond_f hF rfl hc8 (q_skipc (n_sq (q_seq (q_seq (q_region (q_x (v:=s5.v) hF hS (ex_move rfl) rfl rfl fun a hF=>q_x (v:=(iV (goLen t_3.1))) hF hS (ex_len Try.underlying23 rfl ((((((h13.mono hm14.le).mono hm16.le).mono hm24.le).mono hm25.le).mono hm27.le).mono hm30.le).len) rfl rfl fun a hF=>q_x (v:=(iV 0)) hF hS (ex_move rfl) rfl rfl fun a hF=>q_end (n_sq (q_block ?_))))))))
     obtain ⟨o9,hl9,hr⟩:=bindS hr
     refine q_loop (fun (t_39 : Int) a w=>Fr a 216 [(5,s5.v),(6,s6.v),(7,(.pointer (some ⟨b12,0,none⟩))),(105,(iV (goLen t_3.1))),(106,(iV t_39))]∧St [] w0 w m30 [q10,q11,[⟨b12,[s10.v,s11.v],44⟩]]) (fun (o : (Unit) ⊕ (Bool)) e a w=>o = .inl ()∧e = .exit 0∧Fr a 216 [(5,s5.v),(6,s6.v)]∧St [] w0 w m30 []) hl9 ⟨hF.sub ⟨rfl,rfl,rfl,rfl,rfl,trivial⟩,hS⟩ ?_ ?_
     ·clear hF hS
      rintro t_39 a w st ⟨hF,hS⟩ hb9
      unfold laws_FnAudits_l1 at hb9
      refine q_seq (q_region (q_x (v:=(.bool (decide (t_39 < (goLen t_3.1))))) hF hS (ex_ibin rfl rfl rfl) rfl rfl fun a hF=>q_end (n_sq (q_seq ?_))))
      rcases bcase (decide (t_39 < (goLen t_3.1))) with hc10 | hc10
      ·have hb9:=cond_f hc10 hb9
       refine q_cond_f hF rfl hc10 (q_exit (x_sq ?_))
       obtain rfl:=someI hb9
       exact ⟨nofun,.inl ⟨rfl,rfl,hF.sub ⟨rfl,rfl,trivial⟩,hS.mask [false,false,false]⟩⟩
      ·have hb9:=cond_t hc10 hb9
       refine q_cond_t hF rfl hc10 (q_skipc (n_sq (q_seq (q_block (q_seq (q_region (q_x (v:=(iV t_39)) hF hS (ex_move rfl) rfl rfl fun a hF=>q_x (v:=(iV t_39)) hF hS (ex_assign rfl) rfl rfl fun a hF=>q_end (n_sq (q_seq (q_region (q_x (v:=s5.v) hF hS (ex_move rfl) rfl rfl fun a hF=>q_x (v:=(iV t_39)) hF hS (ex_move rfl) rfl rfl fun a hF=>?_)))))))))))
       obtain ⟨e_40,he_40,hb9⟩:=bindS hb9
       obtain ⟨vs41,at41,d41⟩:=h13.at he_40 1 rfl
       obtain ⟨s42,rfl,h42⟩ : ∃ s42 : Sl,vs41 = [s42.v]∧Rd m13 s42 e_40:=d41
       refine q_x (v:=(elP s5 (t_39.toNat * 1))) hF hS (ex_indexAddr Try.underlying23 sz28 rfl rfl (((((((h13.mono hm14.le).mono hm16.le).mono hm24.le).mono hm25.le).mono hm27.le).mono hm30.le).idx he_40)) rfl rfl fun a hF=>q_x (v:=s42.v) hF hS (ex_loadE1 0 Try.underlying28 rfl rfl ((((((((at41.mono hm14.le).mono hm16.le).mono hm24.le).mono hm25.le).mono hm27.le).mono hm30.le)).at) rfl rfl) rfl rfl fun a hF=>q_x (v:=(iV (goLen e_40))) hF hS (ex_len Try.underlying28 rfl ((((((h42.mono hm14.le).mono hm16.le).mono hm24.le).mono hm25.le).mono hm27.le).mono hm30.le).len) rfl rfl fun a hF=>q_x (v:=(iV 0)) hF hS (ex_move rfl) rfl rfl fun a hF=>q_end (n_sq (q_block ?_))
       obtain ⟨o11,hl11,hb9⟩:=bindS hb9
       refine q_loop (fun (t_43 : Int) a w=>Fr a 216 [(5,s5.v),(6,s6.v),(7,(.pointer (some ⟨b12,0,none⟩))),(17,(iV t_39)),(105,(iV (goLen t_3.1))),(106,(iV t_39)),(112,s42.v),(113,(iV (goLen e_40))),(114,(iV t_43))]∧St [] w0 w m30 [q10,q11,[⟨b12,[s10.v,s11.v],44⟩]]) (fun (o : (Unit) ⊕ (Stp (Int) ((Unit) ⊕ (Bool)))) e a w=>o = .inl ()∧e = .exit 2∧Fr a 216 [(5,s5.v),(6,s6.v),(7,(.pointer (some ⟨b12,0,none⟩))),(105,(iV (goLen t_3.1))),(106,(iV t_39))]∧St [] w0 w m30 [q10,q11,[⟨b12,[s10.v,s11.v],44⟩]]) hl11 ⟨hF.sub ⟨rfl,rfl,rfl,rfl,rfl,rfl,rfl,rfl,rfl,trivial⟩,hS⟩ ?_ ?_
       ·clear hF hS
        rintro t_43 a w st ⟨hF,hS⟩ hb11
        unfold laws_FnAudits_l2 at hb11
        refine q_seq (q_region (q_x (v:=(.bool (decide (t_43 < (goLen e_40))))) hF hS (ex_ibin rfl rfl rfl) rfl rfl fun a hF=>q_end (n_sq (q_seq ?_))))
        rcases bcase (decide (t_43 < (goLen e_40))) with hc12 | hc12
        ·have hb11:=cond_f hc12 hb11
         refine q_cond_f hF rfl hc12 (q_exit (x_sq ?_))
         obtain rfl:=someI hb11
         exact ⟨nofun,.inl ⟨rfl,rfl,hF.sub ⟨rfl,rfl,rfl,rfl,rfl,trivial⟩,hS⟩⟩
        ·have hb11:=cond_t hc12 hb11
         refine q_cond_t hF rfl hc12 (q_skipc (n_sq (q_seq (q_block (q_seq (q_region (q_x (v:=(iV t_43)) hF hS (ex_move rfl) rfl rfl fun a hF=>?_)))))))
         obtain ⟨e_44,he_44,hb11⟩:=bindS hb11
         obtain ⟨vs45,at45,d45⟩:=h42.at he_44 1 rfl
         obtain rfl : vs45 = [(iV e_44)]:=d45
         refine q_x (v:=(elP s42 (t_43.toNat * 1))) hF hS (ex_indexAddr Try.underlying28 sz3 rfl rfl (((((((h42.mono hm14.le).mono hm16.le).mono hm24.le).mono hm25.le).mono hm27.le).mono hm30.le).idx he_44)) rfl rfl fun a hF=>q_x (v:=(iV e_44)) hF hS (ex_loadE1 0 Try.underlying3 rfl rfl ((((((((at45.mono hm14.le).mono hm16.le).mono hm24.le).mono hm25.le).mono hm27.le).mono hm30.le)).at) rfl rfl) rfl rfl fun a hF=>q_x (v:=(iV t_43)) hF hS (ex_assign rfl) rfl rfl fun a hF=>q_x (v:=(iV e_44)) hF hS (ex_assign rfl) rfl rfl fun a hF=>q_end (n_sq (q_seq (e_region ⟨[],[],m30⟩ mixed fun w' hw'=>?_)))
         have hS:=hS.below hw'
         refine e_p (v:=(.pointer (some ⟨b12,0,none⟩))) 0 hF rfl (ex_fieldAddr Try.underlying44 rfl sz23 rfl rfl) rfl rfl (by kernel_rfl) (by kernel_rfl) (by kernel_rfl) fun a hF=>e_x (v:=s10.v) 1 hF hS rfl (ex_load1 2 0 Try.underlying23 rfl rfl rfl rfl) rfl rfl (by kernel_rfl) (by kernel_rfl) (by kernel_rfl) (by kernel_rfl) fun a hF=>e_p (v:=(iV t_39)) 2 hF rfl (ex_move rfl) rfl rfl (by kernel_rfl) (by kernel_rfl) (by kernel_rfl) fun a hF=>?_
         obtain ⟨e_46,he_46,hb11⟩:=bindS hb11
         obtain ⟨s47,hV47⟩:=(((((((h10.mono hm13.le).mono hm14.le).mono hm16.le).mono hm24.le).mono hm25.le).mono hm27.le).mono hm30.le).view he_46
         refine e_p (v:=(elP s10 (t_39.toNat * 1))) 3 hF rfl (ex_indexAddr Try.underlying23 sz28 rfl rfl ((((((((h10.mono hm13.le).mono hm14.le).mono hm16.le).mono hm24.le).mono hm25.le).mono hm27.le).mono hm30.le).idx he_46)) rfl rfl (by kernel_rfl) (by kernel_rfl) (by kernel_rfl) fun a hF=>e_x (v:=s47.v) 4 hF hS rfl (ex_loadE1 0 Try.underlying28 rfl rfl ((hV47.atH he_46).at 0 rfl) rfl rfl) rfl rfl (by kernel_rfl) (by kernel_rfl) (by kernel_rfl) (by kernel_rfl) fun a hF=>e_p (v:=(iV t_43)) 5 hF rfl (ex_move rfl) rfl rfl (by kernel_rfl) (by kernel_rfl) (by kernel_rfl) fun a hF=>?_
         obtain ⟨e_48,he_48,hb11⟩:=bindS hb11
         obtain ⟨vs49,at49,d49⟩:=hV47.at he_46 he_48 1 rfl
         obtain rfl : vs49 = [(iV e_48)]:=d49
         refine e_p (v:=(elP s47 (t_43.toNat * 1))) 6 hF rfl (ex_indexAddr Try.underlying28 sz3 rfl rfl (hV47.idx he_46 he_48)) rfl rfl (by kernel_rfl) (by kernel_rfl) (by kernel_rfl) fun a hF=>e_x (v:=(iV e_48)) 7 hF hS rfl (ex_loadE1 0 Try.underlying3 rfl rfl (at49.at 0 rfl) rfl rfl) rfl rfl (by kernel_rfl) (by kernel_rfl) (by kernel_rfl) (by kernel_rfl) fun a hF=>e_p (v:=(.pointer (some ⟨b12,1,none⟩))) 8 hF rfl (ex_fieldAddr Try.underlying44 rfl sz23 rfl rfl) rfl rfl (by kernel_rfl) (by kernel_rfl) (by kernel_rfl) fun a hF=>e_x (v:=s11.v) 9 hF hS rfl (ex_load1 2 0 Try.underlying23 rfl rfl rfl rfl) rfl rfl (by kernel_rfl) (by kernel_rfl) (by kernel_rfl) (by kernel_rfl) fun a hF=>e_p (v:=(iV t_39)) 10 hF rfl (ex_move rfl) rfl rfl (by kernel_rfl) (by kernel_rfl) (by kernel_rfl) fun a hF=>?_
         obtain ⟨e_50,he_50,hb11⟩:=bindS hb11
         obtain ⟨s51,hV51⟩:=(((((((h11.mono hm13.le).mono hm14.le).mono hm16.le).mono hm24.le).mono hm25.le).mono hm27.le).mono hm30.le).view he_50
         refine e_p (v:=(elP s11 (t_39.toNat * 1))) 11 hF rfl (ex_indexAddr Try.underlying23 sz28 rfl rfl ((((((((h11.mono hm13.le).mono hm14.le).mono hm16.le).mono hm24.le).mono hm25.le).mono hm27.le).mono hm30.le).idx he_50)) rfl rfl (by kernel_rfl) (by kernel_rfl) (by kernel_rfl) fun a hF=>e_x (v:=s51.v) 12 hF hS rfl (ex_loadE1 0 Try.underlying28 rfl rfl ((hV51.atH he_50).at 1 rfl) rfl rfl) rfl rfl (by kernel_rfl) (by kernel_rfl) (by kernel_rfl) (by kernel_rfl) fun a hF=>e_p (v:=(iV t_43)) 13 hF rfl (ex_move rfl) rfl rfl (by kernel_rfl) (by kernel_rfl) (by kernel_rfl) fun a hF=>?_
         obtain ⟨e_52,he_52,hb11⟩:=bindS hb11
         obtain ⟨vs53,at53,d53⟩:=hV51.at he_50 he_52 1 rfl
         obtain rfl : vs53 = [(iV e_52)]:=d53
         refine e_p (v:=(elP s51 (t_43.toNat * 1))) 14 hF rfl (ex_indexAddr Try.underlying28 sz3 rfl rfl (hV51.idx he_50 he_52)) rfl rfl (by kernel_rfl) (by kernel_rfl) (by kernel_rfl) fun a hF=>e_x (v:=(iV e_52)) 15 hF hS rfl (ex_loadE1 0 Try.underlying3 rfl rfl (at53.at 1 rfl) rfl rfl) rfl rfl (by kernel_rfl) (by kernel_rfl) (by kernel_rfl) (by kernel_rfl) fun a hF=>e_p (v:=(iV e_48)) 16 hF rfl (ex_assign rfl) rfl rfl (by kernel_rfl) (by kernel_rfl) (by kernel_rfl) fun a hF=>e_p (v:=(iV e_52)) 17 hF rfl (ex_assign rfl) rfl rfl (by kernel_rfl) (by kernel_rfl) (by kernel_rfl) fun a hF=>e_end (by kernel_rfl) (n_sq ?_) _
         refine q_seq ?_
         obtain ⟨t_59,hj13,hb11⟩:=bindS hb11
         refine q_join (fun a w=>Fr a 216 [(5,s5.v),(6,s6.v),(7,(.pointer (some ⟨b12,0,none⟩))),(17,(iV t_39)),(105,(iV (goLen t_3.1))),(106,(iV t_39)),(112,s42.v),(113,(iV (goLen e_40))),(114,(iV t_43)),(157,(.bool t_59))]∧St [] w0 w m30 [q10,q11,[⟨b12,[s10.v,s11.v],44⟩]]) ?_ ?_
         ·refine q_region (q_x (v:=(iV e_48)) hF hS (ex_move rfl) rfl rfl fun a hF=>q_x (v:=(iV e_44)) hF hS (ex_move rfl) rfl rfl fun a hF=>q_x (v:=(.bool (decide (e_44 < e_48)))) hF hS (ex_ibin rfl rfl rfl) rfl rfl fun a hF=>q_x (v:=(.bool (decide (e_44 < e_48)))) hF hS (ex_move rfl) rfl rfl fun a hF=>?_)
          rcases bcase (decide (e_44 < e_48)) with hc14 | hc14
          ·have hj13:=cond_f hc14 hj13
           refine q_xg (v:=(iV e_52)) hF hS (ex_move rfl) (wanted_t hF rfl rfl rfl hc14) rfl fun a hF=>q_xg (v:=(iV e_44)) hF hS (ex_move rfl) (wanted_t hF rfl rfl rfl hc14) rfl fun a hF=>q_xg (v:=(.bool (decide (e_52 < e_44)))) hF hS (ex_ibin rfl rfl rfl) (wanted_t hF rfl rfl rfl hc14) rfl fun a hF=>q_x (v:=(.bool (decide (e_52 < e_44)))) hF hS (ex_pick_f rfl rfl hc14) rfl rfl fun a hF=>q_x (v:=(.bool (decide (e_52 < e_44)))) hF hS (ex_move rfl) rfl rfl fun a hF=>?_
           rcases bcase (decide (e_52 < e_44)) with hc15 | hc15
           ·have hj13:=cond_f hc15 hj13
            refine q_xg (v:=s6.v) hF hS (ex_move rfl) (wanted_t hF rfl rfl rfl hc15) rfl fun a hF=>q_xg (v:=(iV t_39)) hF hS (ex_move rfl) (wanted_t hF rfl rfl rfl hc15) rfl fun a hF=>?_
            obtain ⟨e_54,he_54,hj13⟩:=bindS hj13
            obtain ⟨vs55,at55,d55⟩:=h14.at he_54 1 rfl
            obtain ⟨s56,rfl,h56⟩ : ∃ s56 : Sl,vs55 = [s56.v]∧Rd m14 s56 e_54:=d55
            refine q_xg (v:=(elP s6 (t_39.toNat * 1))) hF hS (ex_indexAddr Try.underlying23 sz28 rfl rfl ((((((h14.mono hm16.le).mono hm24.le).mono hm25.le).mono hm27.le).mono hm30.le).idx he_54)) (wanted_t hF rfl rfl rfl hc15) rfl fun a hF=>q_xg (v:=s56.v) hF hS (ex_loadE1 0 Try.underlying28 rfl rfl (((((((at55.mono hm16.le).mono hm24.le).mono hm25.le).mono hm27.le).mono hm30.le)).at) rfl rfl) (wanted_t hF rfl rfl rfl hc15) rfl fun a hF=>q_xg (v:=(iV t_43)) hF hS (ex_move rfl) (wanted_t hF rfl rfl rfl hc15) rfl fun a hF=>?_
            obtain ⟨e_57,he_57,hj13⟩:=bindS hj13
            obtain ⟨vs58,at58,d58⟩:=h56.at he_57 1 rfl
            obtain rfl : vs58 = [(iV e_57)]:=d58
            refine q_xg (v:=(elP s56 (t_43.toNat * 1))) hF hS (ex_indexAddr Try.underlying28 sz3 rfl rfl ((((((h56.mono hm16.le).mono hm24.le).mono hm25.le).mono hm27.le).mono hm30.le).idx he_57)) (wanted_t hF rfl rfl rfl hc15) rfl fun a hF=>q_xg (v:=(iV e_57)) hF hS (ex_loadE1 0 Try.underlying3 rfl rfl (((((((at58.mono hm16.le).mono hm24.le).mono hm25.le).mono hm27.le).mono hm30.le)).at) rfl rfl) (wanted_t hF rfl rfl rfl hc15) rfl fun a hF=>q_xg (v:=(.bool (e_57 == 0))) hF hS (ex_ibin rfl rfl rfl) (wanted_t hF rfl rfl rfl hc15) rfl fun a hF=>q_xg (v:=(.bool (e_57 == 0))) hF hS (ex_move rfl) (wanted_t hF rfl rfl rfl hc15) rfl fun a hF=>?_
            rcases bcase (e_57 == 0) with hc16 | hc16
            ·have hj13:=cond_f hc16 hj13
             refine q_skip hF (wanted_f hF rfl rfl rfl hc16 rfl) rfl fun a hF=>q_skip hF (wanted_f hF rfl rfl rfl hc16 rfl) rfl fun a hF=>q_skip hF (wanted_f hF rfl rfl rfl hc16 rfl) rfl fun a hF=>q_xg (v:=(.bool false)) hF hS (ex_pick_f rfl rfl hc16) (wanted_t hF rfl rfl rfl hc15) rfl fun a hF=>q_x (v:=(.bool false)) hF hS (ex_pick_f rfl rfl hc15) rfl rfl fun a hF=>q_end (n_jn ?_)
             obtain rfl:=someI hj13
             exact ⟨hF.sub ⟨rfl,rfl,rfl,rfl,rfl,rfl,rfl,rfl,rfl,rfl,trivial⟩,hS⟩
            ·have hj13:=cond_t hc16 hj13
             refine q_xg (v:=(iV e_48)) hF hS (ex_move rfl) (wanted_t hF rfl rfl rfl hc16) rfl fun a hF=>q_xg (v:=(iV e_52)) hF hS (ex_move rfl) (wanted_t hF rfl rfl rfl hc16) rfl fun a hF=>q_xg (v:=(.bool (e_48 != e_52))) hF hS (ex_ibin rfl rfl rfl) (wanted_t hF rfl rfl rfl hc16) rfl fun a hF=>q_xg (v:=(.bool (e_48 != e_52))) hF hS (ex_pick_t rfl rfl hc16) (wanted_t hF rfl rfl rfl hc15) rfl fun a hF=>q_x (v:=(.bool (e_48 != e_52))) hF hS (ex_pick_f rfl rfl hc15) rfl rfl fun a hF=>q_end (n_jn ?_)
             obtain rfl:=someI hj13
             exact ⟨hF.sub ⟨rfl,rfl,rfl,rfl,rfl,rfl,rfl,rfl,rfl,rfl,trivial⟩,hS⟩
           ·have hj13:=cond_t hc15 hj13
            refine q_skip hF (wanted_f hF rfl rfl rfl hc15 rfl) rfl fun a hF=>q_skip hF (wanted_f hF rfl rfl rfl hc15 rfl) rfl fun a hF=>q_skip hF (wanted_f hF rfl rfl rfl hc15 rfl) rfl fun a hF=>q_skip hF (wanted_f hF rfl rfl rfl hc15 rfl) rfl fun a hF=>q_skip hF (wanted_f hF rfl rfl rfl hc15 rfl) rfl fun a hF=>q_skip hF (wanted_f hF rfl rfl rfl hc15 rfl) rfl fun a hF=>q_skip hF (wanted_f hF rfl rfl rfl hc15 rfl) rfl fun a hF=>q_skip hF (wanted_f hF rfl rfl rfl hc15 rfl) rfl fun a hF=>q_skip hF (wanted_f hF rfl rfl rfl hc15 rfl) rfl fun a hF=>q_skip hF (wanted_u hF rfl rfl rfl) rfl fun a hF=>q_skip hF (wanted_u hF rfl rfl rfl) rfl fun a hF=>q_skip hF (wanted_u hF rfl rfl rfl) rfl fun a hF=>q_skip hF (wanted_f hF rfl rfl rfl hc15 rfl) rfl fun a hF=>q_x (v:=(.bool true)) hF hS (ex_pick_t rfl rfl hc15) rfl rfl fun a hF=>q_end (n_jn ?_)
            obtain rfl:=someI hj13
            exact ⟨hF.sub ⟨rfl,rfl,rfl,rfl,rfl,rfl,rfl,rfl,rfl,rfl,trivial⟩,hS⟩
          ·have hj13:=cond_t hc14 hj13
           refine q_skip hF (wanted_f hF rfl rfl rfl hc14 rfl) rfl fun a hF=>q_skip hF (wanted_f hF rfl rfl rfl hc14 rfl) rfl fun a hF=>q_skip hF (wanted_f hF rfl rfl rfl hc14 rfl) rfl fun a hF=>q_x (v:=(.bool true)) hF hS (ex_pick_t rfl rfl hc14) rfl rfl fun a hF=>q_x (v:=(.bool true)) hF hS (ex_move rfl) rfl rfl fun a hF=>q_skip hF (wanted_f hF rfl rfl rfl rfl rfl) rfl fun a hF=>q_skip hF (wanted_f hF rfl rfl rfl rfl rfl) rfl fun a hF=>q_skip hF (wanted_f hF rfl rfl rfl rfl rfl) rfl fun a hF=>q_skip hF (wanted_f hF rfl rfl rfl rfl rfl) rfl fun a hF=>q_skip hF (wanted_f hF rfl rfl rfl rfl rfl) rfl fun a hF=>q_skip hF (wanted_f hF rfl rfl rfl rfl rfl) rfl fun a hF=>q_skip hF (wanted_f hF rfl rfl rfl rfl rfl) rfl fun a hF=>q_skip hF (wanted_f hF rfl rfl rfl rfl rfl) rfl fun a hF=>q_skip hF (wanted_f hF rfl rfl rfl rfl rfl) rfl fun a hF=>q_skip hF (wanted_u hF rfl rfl rfl) rfl fun a hF=>q_skip hF (wanted_u hF rfl rfl rfl) rfl fun a hF=>q_skip hF (wanted_u hF rfl rfl rfl) rfl fun a hF=>q_skip hF (wanted_f hF rfl rfl rfl rfl rfl) rfl fun a hF=>q_x (v:=(.bool true)) hF hS (ex_pick_t rfl rfl rfl) rfl rfl fun a hF=>q_end (n_jn ?_)
           obtain rfl:=someI hj13
           exact ⟨hF.sub ⟨rfl,rfl,rfl,rfl,rfl,rfl,rfl,rfl,rfl,rfl,trivial⟩,hS⟩
         ·rintro a w ⟨hF,hS⟩
          refine n_sq ?_
          rcases bcase (t_59) with hc17 | hc17
          ·have hb11:=cond_f hc17 hb11
           refine q_cond_f hF rfl hc17 (q_skipc (n_ib (n_sq (q_region (q_x (v:=(iV (w64 (t_43 + 1)))) hF hS (ex_ibin rfl rfl rfl) rfl rfl fun a hF=>q_x (v:=(iV (w64 (t_43 + 1)))) hF hS (ex_move rfl) rfl rfl fun a hF=>q_end ?_)))))
           obtain rfl:=someI hb11
           exact ⟨rfl,hF.sub ⟨rfl,rfl,rfl,rfl,rfl,rfl,rfl,rfl,rfl,trivial⟩,hS⟩
          ·have hb11:=cond_t hc17 hb11
           refine q_cond_t hF rfl hc17 (q_seq (q_region (q_x (v:=(.bool false)) hF hS (ex_assign rfl) rfl rfl fun a hF=>q_end (n_sq (q_ret (r_ib (r_sq ?_)))))))
           obtain rfl:=someI hb11
           refine ⟨nofun,.inr fun ho=>?_⟩
           subst ho
           refine r_ib (r_ib (r_sq ?_))
           obtain rfl:=someI hb9
           refine ⟨nofun,.inr fun ho=>?_⟩
           subst ho
           refine r_ib (r_sq ?_)
           obtain rfl:=someI hr
           exact ret_of hF hS rfl (.tmp rfl .nil) rfl
       ·rintro e a w ⟨rfl,rfl,hF,hS⟩
        refine x_ib (n_ib (n_sq ?_))
        refine q_region (q_x (v:=(iV (w64 (t_39 + 1)))) hF hS (ex_ibin rfl rfl rfl) rfl rfl fun a hF=>q_x (v:=(iV (w64 (t_39 + 1)))) hF hS (ex_move rfl) rfl rfl fun a hF=>q_end ?_)
        obtain rfl:=someI hb9
        exact ⟨rfl,hF.sub ⟨rfl,rfl,rfl,rfl,rfl,trivial⟩,hS⟩
     ·rintro e a w ⟨rfl,rfl,hF,hS⟩
      refine x_ib (n_sq ?_)
      refine q_seq (q_region (q_x (v:=s5.v) hF hS (ex_move rfl) rfl rfl fun a hF=>q_x (v:=s6.v) hF hS (ex_move rfl) rfl rfl fun a hF=>?_))
      obtain ⟨t_60,ht_60,hr⟩:=bindS hr
      refine q_call (vs:=[s5.v,s6.v]) hF hS Try.func29 (by kernel_rfl) rfl rfl rfl (c_impl_CountFits t_3.1 t_3.2 t_60 ht_60 _ m30 hS.vis s5 ((((((h13.mono hm14.le).mono hm16.le).mono hm24.le).mono hm25.le).mono hm27.le).mono hm30.le) s6 (((((h14.mono hm16.le).mono hm24.le).mono hm25.le).mono hm27.le).mono hm30.le)) ?_
      rintro a w _ rfl hF hS
      refine q_x (v:=(.tuple #[(iV t_60.1),(.bool t_60.2)])) hF hS (ex_move rfl) rfl rfl fun a hF=>q_x (v:=(iV t_60.1)) hF hS (ex_extract rfl rfl) rfl rfl fun a hF=>q_x (v:=(.bool t_60.2)) hF hS (ex_extract rfl rfl) rfl rfl fun a hF=>q_x (v:=(iV t_60.1)) hF hS (ex_assign rfl) rfl rfl fun a hF=>q_x (v:=(.bool t_60.2)) hF hS (ex_assign rfl) rfl rfl fun a hF=>q_end (n_sq (q_seq (q_region (q_x (v:=s5.v) hF hS (ex_move rfl) rfl rfl fun a hF=>q_x (v:=s6.v) hF hS (ex_move rfl) rfl rfl fun a hF=>?_))))
      obtain ⟨t_61,ht_61,hr⟩:=bindS hr
      refine q_call (vs:=[s5.v,s6.v]) hF hS Try.func30 (by kernel_rfl) rfl rfl rfl (c_impl_AttackNetwork t_3.1 t_3.2 t_61 ht_61 _ m30 hS.vis s5 ((((((h13.mono hm14.le).mono hm16.le).mono hm24.le).mono hm25.le).mono hm27.le).mono hm30.le) s6 (((((h14.mono hm16.le).mono hm24.le).mono hm25.le).mono hm27.le).mono hm30.le)) ?_
      rintro a w _ ⟨q63,q64,q65,q66,s63,s64,s65,s66,rfl,hR62,h63,h64,h65,h66⟩ hF hS2
      have hS : St _ _ _ _ [q63,q64,q65,q66]:=hS.joinF hR62
      refine q_x (v:=(.tuple #[(.agg #[s63.v,s64.v,s65.v,s66.v]),(.bool t_61.2)])) hF hS (ex_move rfl) rfl rfl fun a hF=>q_x (v:=(.agg #[s63.v,s64.v,s65.v,s66.v])) hF hS (ex_extract rfl rfl) rfl rfl fun a hF=>q_x (v:=(.bool t_61.2)) hF hS (ex_extract rfl rfl) rfl rfl fun a hF=>q_alloc (cs:=[nilS.v,nilS.v,nilS.v,nilS.v]) hF hS rfl rfl rfl fun a w b67 hF hS=>q_store (vs:=[s63.v,s64.v,s65.v,s66.v]) (cs':=[s63.v,s64.v,s65.v,s66.v]) 0 0 hF hS sz50 rfl rfl rfl rfl rfl rfl rfl rfl fun a w hF hS=>q_x (v:=(.bool t_61.2)) hF hS (ex_assign rfl) rfl rfl fun a hF=>q_end (n_sq (q_seq (q_region (q_x (v:=(.agg #[s63.v,s64.v,s65.v,s66.v])) hF hS (ex_loadA (vs:=[s63.v,s64.v,s65.v,s66.v]) 0 0 Try.underlying50 rfl sz50 rfl rfl rfl rfl) rfl rfl fun a hF=>q_x (v:=s5.v) hF hS (ex_move rfl) rfl rfl fun a hF=>?_))))
      obtain ⟨m69,hl69,hv69,hz69⟩:=hS.lend
      obtain ⟨t_68,ht_68,hr⟩:=bindS hr
      refine q_call (vs:=[(.agg #[s63.v,s64.v,s65.v,s66.v]),s5.v]) hF hS Try.func31 (by kernel_rfl) rfl rfl rfl (c_impl_IsFlow t_61.1 t_3.1 t_68 ht_68 _ m69 hv69 s63 (h63.froz hl69 (hz69 1 _ rfl)) s64 (h64.froz hl69 (hz69 2 _ rfl)) s65 (h65.froz hl69 (hz69 3 _ rfl)) s66 (h66.froz hl69 (hz69 4 _ rfl)) s5 (((((((h13.mono hm14.le).mono hm16.le).mono hm24.le).mono hm25.le).mono hm27.le).mono hm30.le).mono hl69)) ?_
      rintro a w _ rfl hF hS
      refine q_x (v:=(.tuple #[(.bool t_68.1),(.bool t_68.2)])) hF hS (ex_move rfl) rfl rfl fun a hF=>q_x (v:=(.bool t_68.1)) hF hS (ex_extract rfl rfl) rfl rfl fun a hF=>q_x (v:=(.bool t_68.2)) hF hS (ex_extract rfl rfl) rfl rfl fun a hF=>q_x (v:=(.bool t_68.1)) hF hS (ex_assign rfl) rfl rfl fun a hF=>q_x (v:=(.bool t_68.2)) hF hS (ex_assign rfl) rfl rfl fun a hF=>q_end (n_sq (q_seq (q_region (q_x (v:=s5.v) hF hS (ex_move rfl) rfl rfl fun a hF=>q_x (v:=s6.v) hF hS (ex_move rfl) rfl rfl fun a hF=>?_))))
      obtain ⟨t_70,ht_70,hr⟩:=bindS hr
      refine q_call (vs:=[s5.v,s6.v]) hF hS Try.func32 (by kernel_rfl) rfl rfl rfl (c_impl_PublishedTable t_3.1 t_3.2 t_70 ht_70 _ m30 hS.vis s5 ((((((h13.mono hm14.le).mono hm16.le).mono hm24.le).mono hm25.le).mono hm27.le).mono hm30.le) s6 (((((h14.mono hm16.le).mono hm24.le).mono hm25.le).mono hm27.le).mono hm30.le)) ?_
      rintro a w _ ⟨q72,s72,rfl,hR71,h72⟩ hF hS2
      have hS : St _ _ _ _ [q72,[⟨b67,[s63.v,s64.v,s65.v,s66.v],50⟩],q63,q64,q65,q66]:=hS.joinF hR71
      refine q_x (v:=(.tuple #[s72.v,(.bool t_70.2)])) hF hS (ex_move rfl) rfl rfl fun a hF=>q_x (v:=s72.v) hF hS (ex_extract rfl rfl) rfl rfl fun a hF=>q_x (v:=(.bool t_70.2)) hF hS (ex_extract rfl rfl) rfl rfl fun a hF=>q_x (v:=s72.v) hF hS (ex_assign rfl) rfl rfl fun a hF=>q_x (v:=(.bool t_70.2)) hF hS (ex_assign rfl) rfl rfl fun a hF=>q_end (n_sq (q_seq (q_region (q_x (v:=s5.v) hF hS (ex_move rfl) rfl rfl fun a hF=>q_x (v:=s6.v) hF hS (ex_move rfl) rfl rfl fun a hF=>?_))))
      obtain ⟨t_73,ht_73,hr⟩:=bindS hr
      refine q_call (vs:=[s5.v,s6.v]) hF hS Try.func33 (by kernel_rfl) rfl rfl rfl (c_spec_PublishedTable t_3.1 t_3.2 t_73 ht_73 _ m30 hS.vis s5 ((((((h13.mono hm14.le).mono hm16.le).mono hm24.le).mono hm25.le).mono hm27.le).mono hm30.le) s6 (((((h14.mono hm16.le).mono hm24.le).mono hm25.le).mono hm27.le).mono hm30.le)) ?_
      have hT:=hS
      rintro a w _ ⟨m74,q75,s75,rfl,hm74,hR74,h75⟩ hF hS2
      have hS : St _ _ _ _ [q75,q72,[⟨b67,[s63.v,s64.v,s65.v,s66.v],50⟩],q63,q64,q65,q66]:=hS.join hR74 hm74
      have hm74:=MLe.weakX (O0:=[]) hT hm74
      refine q_x (v:=(.tuple #[s75.v,(.bool t_73.2)])) hF hS (ex_move rfl) rfl rfl fun a hF=>q_x (v:=s75.v) hF hS (ex_extract rfl rfl) rfl rfl fun a hF=>q_x (v:=(.bool t_73.2)) hF hS (ex_extract rfl rfl) rfl rfl fun a hF=>q_x (v:=s75.v) hF hS (ex_assign rfl) rfl rfl fun a hF=>q_x (v:=(.bool t_73.2)) hF hS (ex_assign rfl) rfl rfl fun a hF=>q_end (n_sq (q_seq ?_))
      obtain ⟨t_78,hj18,hr⟩:=bindS hr
      refine q_join (fun a w=>Fr a 216 [(4,(.bool t_78))]∧St [] w0 w m74 []) ?_ ?_
      ·refine q_region (q_x (v:=(.bool t_61.2)) hF hS (ex_move rfl) rfl rfl fun a hF=>q_x (v:=(.bool t_61.2)) hF hS (ex_move rfl) rfl rfl fun a hF=>?_)
       rcases bcase (t_61.2) with hc19 | hc19
       ·have hj18:=cond_f hc19 hj18
        refine q_skip hF (wanted_f hF rfl rfl rfl hc19 rfl) rfl fun a hF=>q_x (v:=(.bool false)) hF hS (ex_pick_f rfl rfl hc19) rfl rfl fun a hF=>q_x (v:=(.bool false)) hF hS (ex_move rfl) rfl rfl fun a hF=>q_skip hF (wanted_f hF rfl rfl rfl rfl rfl) rfl fun a hF=>q_x (v:=(.bool false)) hF hS (ex_pick_f rfl rfl rfl) rfl rfl fun a hF=>q_x (v:=(.bool false)) hF hS (ex_move rfl) rfl rfl fun a hF=>q_skip hF (wanted_f hF rfl rfl rfl rfl rfl) rfl fun a hF=>q_x (v:=(.bool false)) hF hS (ex_pick_f rfl rfl rfl) rfl rfl fun a hF=>q_x (v:=(.bool false)) hF hS (ex_move rfl) rfl rfl fun a hF=>q_skip hF (wanted_f hF rfl rfl rfl rfl rfl) rfl fun a hF=>q_x (v:=(.bool false)) hF hS (ex_pick_f rfl rfl rfl) rfl rfl fun a hF=>q_x (v:=(.bool false)) hF hS (ex_move rfl) rfl rfl fun a hF=>q_skip hF (wanted_f hF rfl rfl rfl rfl rfl) rfl fun a hF=>q_skip hF (wanted_f hF rfl rfl rfl rfl rfl) rfl fun a hF=>q_skip hF (wanted_f hF rfl rfl rfl rfl rfl) rfl fun a hF=>q_x (v:=(.bool false)) hF hS (ex_pick_f rfl rfl rfl) rfl rfl fun a hF=>q_x (v:=(.bool false)) hF hS (ex_move rfl) rfl rfl fun a hF=>q_skip hF (wanted_f hF rfl rfl rfl rfl rfl) rfl fun a hF=>q_skip hF (wanted_f hF rfl rfl rfl rfl rfl) rfl fun a hF=>q_skip hF (wanted_f hF rfl rfl rfl rfl rfl) rfl fun a hF=>q_skip hF (wanted_u hF rfl rfl rfl) rfl fun a hF=>q_skip hF (wanted_u hF rfl rfl rfl) rfl fun a hF=>q_skip hF (wanted_f hF rfl rfl rfl rfl rfl) rfl fun a hF=>q_x (v:=(.bool false)) hF hS (ex_pick_f rfl rfl rfl) rfl rfl fun a hF=>q_x (v:=(.bool false)) hF hS (ex_assign rfl) rfl rfl fun a hF=>?_
        refine q_end (n_jn ?_)
        obtain rfl:=someI hj18
        exact ⟨hF.sub ⟨rfl,trivial⟩,hS.mask [false,false,false,false,false,false,false]⟩
       ·have hj18:=cond_t hc19 hj18
        refine q_xg (v:=(.bool t_68.2)) hF hS (ex_move rfl) (wanted_t hF rfl rfl rfl hc19) rfl fun a hF=>q_x (v:=(.bool t_68.2)) hF hS (ex_pick_t rfl rfl hc19) rfl rfl fun a hF=>q_x (v:=(.bool t_68.2)) hF hS (ex_move rfl) rfl rfl fun a hF=>?_
        rcases bcase (t_68.2) with hc20 | hc20
        ·have hj18:=cond_f hc20 hj18
         refine q_skip hF (wanted_f hF rfl rfl rfl hc20 rfl) rfl fun a hF=>q_x (v:=(.bool false)) hF hS (ex_pick_f rfl rfl hc20) rfl rfl fun a hF=>q_x (v:=(.bool false)) hF hS (ex_move rfl) rfl rfl fun a hF=>q_skip hF (wanted_f hF rfl rfl rfl rfl rfl) rfl fun a hF=>q_x (v:=(.bool false)) hF hS (ex_pick_f rfl rfl rfl) rfl rfl fun a hF=>q_x (v:=(.bool false)) hF hS (ex_move rfl) rfl rfl fun a hF=>q_skip hF (wanted_f hF rfl rfl rfl rfl rfl) rfl fun a hF=>q_x (v:=(.bool false)) hF hS (ex_pick_f rfl rfl rfl) rfl rfl fun a hF=>q_x (v:=(.bool false)) hF hS (ex_move rfl) rfl rfl fun a hF=>q_skip hF (wanted_f hF rfl rfl rfl rfl rfl) rfl fun a hF=>q_skip hF (wanted_f hF rfl rfl rfl rfl rfl) rfl fun a hF=>q_skip hF (wanted_f hF rfl rfl rfl rfl rfl) rfl fun a hF=>q_x (v:=(.bool false)) hF hS (ex_pick_f rfl rfl rfl) rfl rfl fun a hF=>q_x (v:=(.bool false)) hF hS (ex_move rfl) rfl rfl fun a hF=>q_skip hF (wanted_f hF rfl rfl rfl rfl rfl) rfl fun a hF=>q_skip hF (wanted_f hF rfl rfl rfl rfl rfl) rfl fun a hF=>q_skip hF (wanted_f hF rfl rfl rfl rfl rfl) rfl fun a hF=>q_skip hF (wanted_u hF rfl rfl rfl) rfl fun a hF=>q_skip hF (wanted_u hF rfl rfl rfl) rfl fun a hF=>q_skip hF (wanted_f hF rfl rfl rfl rfl rfl) rfl fun a hF=>q_x (v:=(.bool false)) hF hS (ex_pick_f rfl rfl rfl) rfl rfl fun a hF=>q_x (v:=(.bool false)) hF hS (ex_assign rfl) rfl rfl fun a hF=>q_end (n_jn ?_)
         obtain rfl:=someI hj18
         exact ⟨hF.sub ⟨rfl,trivial⟩,hS.mask [false,false,false,false,false,false,false]⟩
        ·have hj18:=cond_t hc20 hj18
         refine q_xg (v:=(.bool t_68.1)) hF hS (ex_move rfl) (wanted_t hF rfl rfl rfl hc20) rfl fun a hF=>q_x (v:=(.bool t_68.1)) hF hS (ex_pick_t rfl rfl hc20) rfl rfl fun a hF=>q_x (v:=(.bool t_68.1)) hF hS (ex_move rfl) rfl rfl fun a hF=>?_
         rcases bcase (t_68.1) with hc21 | hc21
         ·have hj18:=cond_f hc21 hj18
          refine q_skip hF (wanted_f hF rfl rfl rfl hc21 rfl) rfl fun a hF=>q_x (v:=(.bool false)) hF hS (ex_pick_f rfl rfl hc21) rfl rfl fun a hF=>q_x (v:=(.bool false)) hF hS (ex_move rfl) rfl rfl fun a hF=>q_skip hF (wanted_f hF rfl rfl rfl rfl rfl) rfl fun a hF=>q_x (v:=(.bool false)) hF hS (ex_pick_f rfl rfl rfl) rfl rfl fun a hF=>q_x (v:=(.bool false)) hF hS (ex_move rfl) rfl rfl fun a hF=>q_skip hF (wanted_f hF rfl rfl rfl rfl rfl) rfl fun a hF=>q_skip hF (wanted_f hF rfl rfl rfl rfl rfl) rfl fun a hF=>q_skip hF (wanted_f hF rfl rfl rfl rfl rfl) rfl fun a hF=>q_x (v:=(.bool false)) hF hS (ex_pick_f rfl rfl rfl) rfl rfl fun a hF=>q_x (v:=(.bool false)) hF hS (ex_move rfl) rfl rfl fun a hF=>q_skip hF (wanted_f hF rfl rfl rfl rfl rfl) rfl fun a hF=>q_skip hF (wanted_f hF rfl rfl rfl rfl rfl) rfl fun a hF=>q_skip hF (wanted_f hF rfl rfl rfl rfl rfl) rfl fun a hF=>q_skip hF (wanted_u hF rfl rfl rfl) rfl fun a hF=>q_skip hF (wanted_u hF rfl rfl rfl) rfl fun a hF=>q_skip hF (wanted_f hF rfl rfl rfl rfl rfl) rfl fun a hF=>q_x (v:=(.bool false)) hF hS (ex_pick_f rfl rfl rfl) rfl rfl fun a hF=>q_x (v:=(.bool false)) hF hS (ex_assign rfl) rfl rfl fun a hF=>q_end (n_jn ?_)
          obtain rfl:=someI hj18
          exact ⟨hF.sub ⟨rfl,trivial⟩,hS.mask [false,false,false,false,false,false,false]⟩
         ·have hj18:=cond_t hc21 hj18
          refine q_xg (v:=(.bool t_70.2)) hF hS (ex_move rfl) (wanted_t hF rfl rfl rfl hc21) rfl fun a hF=>q_x (v:=(.bool t_70.2)) hF hS (ex_pick_t rfl rfl hc21) rfl rfl fun a hF=>q_x (v:=(.bool t_70.2)) hF hS (ex_move rfl) rfl rfl fun a hF=>?_
          rcases bcase (t_70.2) with hc22 | hc22
          ·have hj18:=cond_f hc22 hj18
           refine q_skip hF (wanted_f hF rfl rfl rfl hc22 rfl) rfl fun a hF=>q_x (v:=(.bool false)) hF hS (ex_pick_f rfl rfl hc22) rfl rfl fun a hF=>q_x (v:=(.bool false)) hF hS (ex_move rfl) rfl rfl fun a hF=>q_skip hF (wanted_f hF rfl rfl rfl rfl rfl) rfl fun a hF=>q_skip hF (wanted_f hF rfl rfl rfl rfl rfl) rfl fun a hF=>q_skip hF (wanted_f hF rfl rfl rfl rfl rfl) rfl fun a hF=>q_x (v:=(.bool false)) hF hS (ex_pick_f rfl rfl rfl) rfl rfl fun a hF=>q_x (v:=(.bool false)) hF hS (ex_move rfl) rfl rfl fun a hF=>q_skip hF (wanted_f hF rfl rfl rfl rfl rfl) rfl fun a hF=>q_skip hF (wanted_f hF rfl rfl rfl rfl rfl) rfl fun a hF=>q_skip hF (wanted_f hF rfl rfl rfl rfl rfl) rfl fun a hF=>q_skip hF (wanted_u hF rfl rfl rfl) rfl fun a hF=>q_skip hF (wanted_u hF rfl rfl rfl) rfl fun a hF=>q_skip hF (wanted_f hF rfl rfl rfl rfl rfl) rfl fun a hF=>q_x (v:=(.bool false)) hF hS (ex_pick_f rfl rfl rfl) rfl rfl fun a hF=>q_x (v:=(.bool false)) hF hS (ex_assign rfl) rfl rfl fun a hF=>q_end (n_jn ?_)
           obtain rfl:=someI hj18
           exact ⟨hF.sub ⟨rfl,trivial⟩,hS.mask [false,false,false,false,false,false,false]⟩
          ·have hj18:=cond_t hc22 hj18
           refine q_xg (v:=(.bool t_73.2)) hF hS (ex_move rfl) (wanted_t hF rfl rfl rfl hc22) rfl fun a hF=>q_x (v:=(.bool t_73.2)) hF hS (ex_pick_t rfl rfl hc22) rfl rfl fun a hF=>q_x (v:=(.bool t_73.2)) hF hS (ex_move rfl) rfl rfl fun a hF=>?_
           rcases bcase (t_73.2) with hc23 | hc23
           ·have hj18:=cond_f hc23 hj18
            refine q_skip hF (wanted_f hF rfl rfl rfl hc23 rfl) rfl fun a hF=>q_skip hF (wanted_f hF rfl rfl rfl hc23 rfl) rfl fun a hF=>q_skip hF (wanted_f hF rfl rfl rfl hc23 rfl) rfl fun a hF=>q_x (v:=(.bool false)) hF hS (ex_pick_f rfl rfl hc23) rfl rfl fun a hF=>q_x (v:=(.bool false)) hF hS (ex_move rfl) rfl rfl fun a hF=>q_skip hF (wanted_f hF rfl rfl rfl rfl rfl) rfl fun a hF=>q_skip hF (wanted_f hF rfl rfl rfl rfl rfl) rfl fun a hF=>q_skip hF (wanted_f hF rfl rfl rfl rfl rfl) rfl fun a hF=>q_skip hF (wanted_u hF rfl rfl rfl) rfl fun a hF=>q_skip hF (wanted_u hF rfl rfl rfl) rfl fun a hF=>q_skip hF (wanted_f hF rfl rfl rfl rfl rfl) rfl fun a hF=>q_x (v:=(.bool false)) hF hS (ex_pick_f rfl rfl rfl) rfl rfl fun a hF=>q_x (v:=(.bool false)) hF hS (ex_assign rfl) rfl rfl fun a hF=>q_end (n_jn ?_)
            obtain rfl:=someI hj18
            exact ⟨hF.sub ⟨rfl,trivial⟩,hS.mask [false,false,false,false,false,false,false]⟩
           ·have hj18:=cond_t hc23 hj18
            refine q_xg (v:=s72.v) hF hS (ex_move rfl) (wanted_t hF rfl rfl rfl hc23) rfl fun a hF=>q_xg (v:=s75.v) hF hS (ex_move rfl) (wanted_t hF rfl rfl rfl hc23) rfl fun a hF=>?_
            obtain ⟨m77,hl77,hv77,hz77⟩:=hS.lend
            obtain ⟨t_76,ht_76,hj18⟩:=bindS hj18
            refine q_callg (vs:=[s72.v,s75.v]) hF hS (wanted_t hF rfl rfl rfl hc23) Try.func20 (by kernel_rfl) rfl rfl rfl (c_laws_qLists t_70.1 t_73.1 t_76 ht_76 _ m77 hv77 s72 ((h72.mono hm74.le).froz hl77 (hz77 1 _ rfl)) s75 (h75.froz hl77 (hz77 0 _ rfl))) ?_
            rintro a w _ rfl hF hS
            refine q_x (v:=(.bool t_76)) hF hS (ex_pick_t rfl rfl hc23) rfl rfl fun a hF=>q_x (v:=(.bool t_76)) hF hS (ex_move rfl) rfl rfl fun a hF=>?_
            rcases bcase (t_76) with hc24 | hc24
            ·have hj18:=cond_f hc24 hj18
             refine q_skip hF (wanted_f hF rfl rfl rfl hc24 rfl) rfl fun a hF=>q_skip hF (wanted_f hF rfl rfl rfl hc24 rfl) rfl fun a hF=>q_skip hF (wanted_f hF rfl rfl rfl hc24 rfl) rfl fun a hF=>q_skip hF (wanted_u hF rfl rfl rfl) rfl fun a hF=>q_skip hF (wanted_u hF rfl rfl rfl) rfl fun a hF=>q_skip hF (wanted_f hF rfl rfl rfl hc24 rfl) rfl fun a hF=>q_x (v:=(.bool false)) hF hS (ex_pick_f rfl rfl hc24) rfl rfl fun a hF=>q_x (v:=(.bool false)) hF hS (ex_assign rfl) rfl rfl fun a hF=>q_end (n_jn ?_)
             obtain rfl:=someI hj18
             exact ⟨hF.sub ⟨rfl,trivial⟩,hS.mask [false,false,false,false,false,false,false]⟩
            ·have hj18:=cond_t hc24 hj18
             refine q_xg (v:=(.bool t_60.2)) hF hS (ex_move rfl) (wanted_t hF rfl rfl rfl hc24) rfl fun a hF=>q_xg (v:=(.bool (!t_60.2))) hF hS (ex_not rfl) (wanted_t hF rfl rfl rfl hc24) rfl fun a hF=>q_xg (v:=(.bool (!t_60.2))) hF hS (ex_move rfl) (wanted_t hF rfl rfl rfl hc24) rfl fun a hF=>?_
             rcases bcase (!t_60.2) with hc25 | hc25
             ·have hj18:=cond_f hc25 hj18
              refine q_xg (v:=(iV t_60.1)) hF hS (ex_move rfl) (wanted_t hF rfl rfl rfl hc25) rfl fun a hF=>q_xg (v:=(.bool (decide (0 < t_60.1)))) hF hS (ex_ibin rfl rfl rfl) (wanted_t hF rfl rfl rfl hc25) rfl fun a hF=>q_xg (v:=(.bool (decide (0 < t_60.1)))) hF hS (ex_pick_f rfl rfl hc25) (wanted_t hF rfl rfl rfl hc24) rfl fun a hF=>q_x (v:=(.bool (decide (0 < t_60.1)))) hF hS (ex_pick_t rfl rfl hc24) rfl rfl fun a hF=>q_x (v:=(.bool (decide (0 < t_60.1)))) hF hS (ex_assign rfl) rfl rfl fun a hF=>q_end (n_jn ?_)
              obtain rfl:=someI hj18
              exact ⟨hF.sub ⟨rfl,trivial⟩,hS.mask [false,false,false,false,false,false,false]⟩
             ·have hj18:=cond_t hc25 hj18
              refine q_skip hF (wanted_f hF rfl rfl rfl hc25 rfl) rfl fun a hF=>q_skip hF (wanted_f hF rfl rfl rfl hc25 rfl) rfl fun a hF=>q_xg (v:=(.bool true)) hF hS (ex_pick_t rfl rfl hc25) (wanted_t hF rfl rfl rfl hc24) rfl fun a hF=>q_x (v:=(.bool true)) hF hS (ex_pick_t rfl rfl hc24) rfl rfl fun a hF=>q_x (v:=(.bool true)) hF hS (ex_assign rfl) rfl rfl fun a hF=>q_end (n_jn ?_)
              obtain rfl:=someI hj18
              exact ⟨hF.sub ⟨rfl,trivial⟩,hS.mask [false,false,false,false,false,false,false]⟩
      ·rintro a w ⟨hF,hS⟩
       refine n_sq (q_ret ?_)
       obtain rfl:=someI hr
       exact ret_of hF hS rfl (.tmp rfl .nil) rfl
    ·have hr:=cond_t hc8 hr
     refine q_cond_t hF rfl hc8 (q_seq (q_region (q_x (v:=(.bool true)) hF hS (ex_assign rfl) rfl rfl fun a hF=>q_end (n_sq (q_ret (r_sq ?_))))))
     obtain rfl:=someI hr
     exact ret_of hF hS rfl (.tmp rfl .nil) rfl
   ·have hr:=cond_t hc7 hr
    refine q_cond_t hF rfl hc7 (q_seq (q_region (q_x (v:=(.bool false)) hF hS (ex_assign rfl) rfl rfl fun a hF=>q_end (n_sq (q_ret (r_sq ?_))))))
    obtain rfl:=someI hr
    exact ret_of hF hS rfl (.tmp rfl .nil) rfl
 ·have hr:=cond_t hc1 hr
  refine q_cond_t hF rfl hc1 (q_seq (q_region (q_x (v:=(.bool true)) hF hS (ex_assign rfl) rfl rfl fun a hF=>q_end (n_sq (q_ret (r_sq ?_))))))
  obtain rfl:=someI hr
  exact ret_of hF hS rfl (.tmp rfl .nil) rfl

end Go.Proofs.Ytpjcfmpfiadkgaa
