/- The walks of the functions: each returns what its plain function says. -/
import Derived.Test.YtmlegfogjdhhkaaGreatWalks4
namespace Go.Proofs.YtmlegfogjdhhkaaGreat
open Go.Gx Go.Gx.F Go.RowKit Go.Proofs.Tryz
set_option linter.all false
set_option maxRecDepth 10000


theorem c_impl_TableOf (p_g:impl_Geo) (p_s:List impl_Variable) (p_t:impl_Table) (p_l:List impl_Record) (r:(List Int) × Bool) (hr:impl_TableOf p_g p_s p_t p_l=some r) (w0:World) (m:Mem) (hv:Vis m w0) (s1:Sl) (h1:Rd m s1 p_g.Parents) (s2:Sl) (h2:Rd m s2 p_s) (s3:Sl) (h3:Rd m s3 p_t.Vars) (s4:Sl) (h4:Rd m s4 p_t.Where) (s5:Sl) (h5:Rd m s5 p_l) :
  Ret prog 16 [(.agg #[s1.v]),s2.v,(.agg #[(iV p_t.Level),s3.v,s4.v,(iV p_t.Sum)]),s5.v] w0 (fun v w=>∃ (q0':Piece) (s0':Sl),v=(.tuple #[s0'.v,(.bool r.2)])∧St [] w0 w m [q0']∧OwnL m 3 q0' s0' r.1):=by
 unfold impl_TableOf at hr
 refine ret_start func16 rfl 27 rfl rfl m hv fun a hF hS=>q_seq (q_region (q_box (cs:=[s1.v]) hF hS rfl rfl rfl fun a w b6 hF hS=>q_box (cs:=[(iV p_t.Level),s3.v,s4.v,(iV p_t.Sum)]) hF hS rfl rfl rfl fun a w b7 hF hS=>q_x (v:=nilS.v) hF hS (ex_assign rfl) rfl rfl fun a hF=>q_x (v:=(.bool false)) hF hS (ex_assign rfl) rfl rfl fun a hF=>q_end (n_sq (q_seq (q_seq ?_)))))
 obtain ⟨t_10,hj1,hr⟩:=bindS hr
 refine q_join (fun a w=>Fr a 27 [(1,s2.v),(3,s5.v),(4,(.pointer (some ⟨b6,0,none⟩))),(6,(.pointer (some ⟨b7,0,none⟩))),(21,(.bool t_10))]∧St [] w0 w m [[⟨b7,[(iV p_t.Level),s3.v,s4.v,(iV p_t.Sum)],28⟩],[⟨b6,[s1.v],25⟩]]) ?_ ?_
 ·refine q_region (q_x (v:=(.agg #[s1.v])) hF hS (ex_loadA (vs:=[s1.v]) 1 0 underlying25 rfl sz25 rfl rfl rfl rfl) rfl rfl fun a hF=>q_x (v:=s2.v) hF hS (ex_move rfl) rfl rfl fun a hF=>q_x (v:=(.agg #[(iV p_t.Level),s3.v,s4.v,(iV p_t.Sum)])) hF hS (ex_loadA (vs:=[(iV p_t.Level),s3.v,s4.v,(iV p_t.Sum)]) 0 0 underlying28 rfl sz28 rfl rfl rfl rfl) rfl rfl fun a hF=>?_)
  obtain ⟨t_8,ht_8,hj1⟩:=bindS hj1
  refine q_call (vs:=[(.agg #[s1.v]),s2.v,(.agg #[(iV p_t.Level),s3.v,s4.v,(iV p_t.Sum)])]) hF hS func18 (by kernel_rfl) rfl rfl rfl (c_impl_areTabled p_g p_s p_t t_8 ht_8 _ m hS.vis s1 h1 s2 h2 s3 h3 s4 h4) ?_
  rintro a w _ rfl hF hS
  refine q_x (v:=(.bool (!t_8))) hF hS (ex_not rfl) rfl rfl fun a hF=>q_x (v:=(.bool (!t_8))) hF hS (ex_move rfl) rfl rfl fun a hF=>?_
  rcases bcase (!t_8) with hc2 | hc2
  ·have hj1:=cond_f hc2 hj1
   refine q_xg (v:=(.agg #[s1.v])) hF hS (ex_loadA (vs:=[s1.v]) 1 0 underlying25 rfl sz25 rfl rfl rfl rfl) (wanted_t hF rfl rfl rfl hc2) rfl fun a hF=>q_xg (v:=s2.v) hF hS (ex_move rfl) (wanted_t hF rfl rfl rfl hc2) rfl fun a hF=>q_xg (v:=s5.v) hF hS (ex_move rfl) (wanted_t hF rfl rfl rfl hc2) rfl fun a hF=>?_
   obtain ⟨t_9,ht_9,hj1⟩:=bindS hj1
   refine q_callg (vs:=[(.agg #[s1.v]),s2.v,s5.v]) hF hS (wanted_t hF rfl rfl rfl hc2) func19 (by kernel_rfl) rfl rfl rfl (c_impl_isSurvey p_g p_s p_l t_9 ht_9 _ m hS.vis s1 h1 s2 h2 s5 h5) ?_
   rintro a w _ rfl hF hS
   refine q_xg (v:=(.bool (!t_9))) hF hS (ex_not rfl) (wanted_t hF rfl rfl rfl hc2) rfl fun a hF=>q_x (v:=(.bool (!t_9))) hF hS (ex_pick_f rfl rfl hc2) rfl rfl fun a hF=>q_end (n_jn ?_)
   obtain rfl:=someI hj1
   exact ⟨hF.sub ⟨rfl,rfl,rfl,rfl,rfl,trivial⟩,hS⟩
  ·have hj1:=cond_t hc2 hj1
   refine q_skip hF (wanted_f hF rfl rfl rfl hc2 rfl) rfl fun a hF=>q_skip hF (wanted_f hF rfl rfl rfl hc2 rfl) rfl fun a hF=>q_skip hF (wanted_f hF rfl rfl rfl hc2 rfl) rfl fun a hF=>q_skip hF (wanted_f hF rfl rfl rfl hc2 rfl) rfl fun a hF=>q_skip hF (wanted_f hF rfl rfl rfl hc2 rfl) rfl fun a hF=>q_x (v:=(.bool true)) hF hS (ex_pick_t rfl rfl hc2) rfl rfl fun a hF=>q_end (n_jn ?_)
   obtain rfl:=someI hj1
   exact ⟨hF.sub ⟨rfl,rfl,rfl,rfl,rfl,trivial⟩,hS⟩
 ·rintro a w ⟨hF,hS⟩
  refine n_sq ?_
  rcases bcase (t_10) with hc3 | hc3
  ·have hr:=cond_f hc3 hr
   refine q_cond_f hF rfl hc3 (q_skipc (n_sq (q_seq (q_region (q_x (v:=(.agg #[s1.v])) hF hS (ex_loadA (vs:=[s1.v]) 1 0 underlying25 rfl sz25 rfl rfl rfl rfl) rfl rfl fun a hF=>q_x (v:=s2.v) hF hS (ex_move rfl) rfl rfl fun a hF=>q_x (v:=(.agg #[(iV p_t.Level),s3.v,s4.v,(iV p_t.Sum)])) hF hS (ex_loadA (vs:=[(iV p_t.Level),s3.v,s4.v,(iV p_t.Sum)]) 0 0 underlying28 rfl sz28 rfl rfl rfl rfl) rfl rfl fun a hF=>q_x (v:=s5.v) hF hS (ex_move rfl) rfl rfl fun a hF=>?_)))))
   obtain ⟨t_11,ht_11,hr⟩:=bindS hr
   refine q_call (vs:=[(.agg #[s1.v]),s2.v,(.agg #[(iV p_t.Level),s3.v,s4.v,(iV p_t.Sum)]),s5.v]) hF hS func23 (by kernel_rfl) rfl rfl rfl (c_impl_tableOf p_g p_s p_t p_l t_11 ht_11 _ m hS.vis s1 h1 s2 h2 s3 h3 s4 h4 s5 h5) ?_
   rintro a w _ ⟨q13,s13,rfl,hR12,h13⟩ hF hS2
   have hS:St _ _ _ _ [q13,[⟨b7,[(iV p_t.Level),s3.v,s4.v,(iV p_t.Sum)],28⟩],[⟨b6,[s1.v],25⟩]]:=hS.joinF hR12
   refine q_x (v:=s13.v) hF hS (ex_assign rfl) rfl rfl fun a hF=>q_x (v:=(.bool true)) hF hS (ex_assign rfl) rfl rfl fun a hF=>q_end (n_sq (q_ret ?_))
   obtain rfl:=someI hr
   exact ret_of hF hS rfl (.tmp rfl (.tmp rfl .nil)) ⟨q13,s13,rfl,hS.sel [0] (by decide),h13⟩
  ·have hr:=cond_t hc3 hr
   refine q_cond_t hF rfl hc3 (q_seq (q_region (q_x (v:=nilS.v) hF hS (ex_assign rfl) rfl rfl fun a hF=>q_x (v:=(.bool false)) hF hS (ex_assign rfl) rfl rfl fun a hF=>q_end (n_sq (q_ret (r_sq ?_))))))
   obtain rfl:=someI hr
   exact ret_of hF hS rfl (.tmp rfl (.tmp rfl .nil)) ⟨[],nilS,rfl,hS.sel [2] (by decide),(OwnL.nil (α:=Int) m 3)⟩

theorem c_laws_FnTotals (p_code:List (K .u8)) (p_more:List (K .u8)) (r:Bool) (hr:laws_FnTotals p_code p_more=some r) (w0:World) (m:Mem) (hv:Vis m w0) (s1:Sl) (h1:Rd m s1 p_code) (s2:Sl) (h2:Rd m s2 p_more) :
  Ret prog 3 [s1.v,s2.v] w0 (fun v _=>v=(.bool r)):=by
 unfold laws_FnTotals at hr
 refine ret_start func3 rfl 222 rfl rfl m hv fun a hF hS=>q_seq (q_region (q_x (v:=(.bool false)) hF hS (ex_assign rfl) rfl rfl fun a hF=>q_end (n_sq (q_seq (q_seq (q_region (q_x (v:=s1.v) hF hS (ex_move rfl) rfl rfl fun a hF=>q_x (v:=(iV (goLen p_code))) hF hS (ex_len underlying22 rfl h1.len) rfl rfl fun a hF=>q_x (v:=s2.v) hF hS (ex_move rfl) rfl rfl fun a hF=>q_x (v:=(iV (goLen p_more))) hF hS (ex_len underlying22 rfl h2.len) rfl rfl fun a hF=>q_x (v:=(iV (w64 ((goLen p_code) + (goLen p_more))))) hF hS (ex_ibin rfl rfl rfl) rfl rfl fun a hF=>q_x (v:=(.bool (decide (1048576<(w64 ((goLen p_code) + (goLen p_more))))))) hF hS (ex_ibin rfl rfl rfl) rfl rfl fun a hF=>q_end (n_sq ?_))))))))
 rcases bcase (decide (1048576<(w64 ((goLen p_code) + (goLen p_more))))) with hc1 | hc1
 ·have hr:=cond_f hc1 hr
  refine q_cond_f hF rfl hc1 (q_skipc (n_sq (q_seq (q_region (q_x (v:=s1.v) hF hS (ex_move rfl) rfl rfl fun a hF=>?_)))))
  obtain ⟨t_3,ht_3,hr⟩:=bindS hr
  refine q_call (vs:=[s1.v]) hF hS func4 (by kernel_rfl) rfl rfl rfl (c_spec_DrawCubeOfTable p_code t_3 ht_3 _ m hS.vis s1 h1) ?_
  have hT:=hS
  rintro a w _ ⟨m4,q5,q7,q8,q9,s5,s6,s7,s8,s9,rfl,hm4,hR4,h5,h6,h7,h8,h9⟩ hF hS2
  have hS:St _ _ _ _ [q5,q7,q8,q9]:=hS.join hR4 hm4
  have hm4:=MLe.weakX (O0:=[]) hT hm4
  refine q_x (v:=(.tuple #[(.agg #[s5.v]),s6.v,(.agg #[(iV t_3.2.2.1.Level),s7.v,s8.v,(iV t_3.2.2.1.Sum)]),s9.v])) hF hS (ex_move rfl) rfl rfl fun a hF=>q_x (v:=(.agg #[s5.v])) hF hS (ex_extract rfl rfl) rfl rfl fun a hF=>q_x (v:=s6.v) hF hS (ex_extract rfl rfl) rfl rfl fun a hF=>q_x (v:=(.agg #[(iV t_3.2.2.1.Level),s7.v,s8.v,(iV t_3.2.2.1.Sum)])) hF hS (ex_extract rfl rfl) rfl rfl fun a hF=>q_x (v:=s9.v) hF hS (ex_extract rfl rfl) rfl rfl fun a hF=>q_alloc (cs:=[nilS.v]) hF hS rfl rfl rfl fun a w b10 hF hS=>q_alloc (cs:=[(iV 0),nilS.v,nilS.v,(iV 0)]) hF hS rfl rfl rfl fun a w b11 hF hS=>q_store (vs:=[s5.v]) (cs':=[s5.v]) 1 0 hF hS sz25 rfl rfl rfl rfl rfl rfl rfl rfl fun a w hF hS=>q_x (v:=s6.v) hF hS (ex_assign rfl) rfl rfl fun a hF=>q_store (vs:=[(iV t_3.2.2.1.Level),s7.v,s8.v,(iV t_3.2.2.1.Sum)]) (cs':=[(iV t_3.2.2.1.Level),s7.v,s8.v,(iV t_3.2.2.1.Sum)]) 0 0 hF hS sz28 rfl rfl rfl rfl rfl rfl rfl rfl fun a w hF hS=>q_x (v:=s9.v) hF hS (ex_assign rfl) rfl rfl fun a hF=>q_end (n_sq (q_seq (q_region (q_x (v:=(.agg #[s5.v])) hF hS (ex_loadA (vs:=[s5.v]) 1 0 underlying25 rfl sz25 rfl rfl rfl rfl) rfl rfl fun a hF=>q_x (v:=s6.v) hF hS (ex_move rfl) rfl rfl fun a hF=>q_x (v:=(.agg #[(iV t_3.2.2.1.Level),s7.v,s8.v,(iV t_3.2.2.1.Sum)])) hF hS (ex_loadA (vs:=[(iV t_3.2.2.1.Level),s7.v,s8.v,(iV t_3.2.2.1.Sum)]) 0 0 underlying28 rfl sz28 rfl rfl rfl rfl) rfl rfl fun a hF=>q_x (v:=s9.v) hF hS (ex_move rfl) rfl rfl fun a hF=>?_))))
  have hS:St _ _ _ _ [q5,[⟨b11,[(iV t_3.2.2.1.Level),s7.v,s8.v,(iV t_3.2.2.1.Sum)],28⟩],[⟨b10,[s5.v],25⟩],q7,q8,q9]:=hS.sel [2,0,1,3,4,5] (by decide)
  obtain ⟨m12,hm12,hS,hz12⟩:=hS.freeze
  have h12:=h5.froz hm12.le hz12
  have hS:St _ _ _ _ [q7,[⟨b11,[(iV t_3.2.2.1.Level),s7.v,s8.v,(iV t_3.2.2.1.Sum)],28⟩],[⟨b10,[s5.v],25⟩],q8,q9]:=hS.sel [2,0,1,3,4] (by decide)
  obtain ⟨m13,hm13,hS,hz13⟩:=hS.freeze
  have h13:=(h7.mono hm12.le).froz hm13.le hz13
  have hS:St _ _ _ _ [q8,[⟨b11,[(iV t_3.2.2.1.Level),s7.v,s8.v,(iV t_3.2.2.1.Sum)],28⟩],[⟨b10,[s5.v],25⟩],q9]:=hS.sel [2,0,1,3] (by decide)
  obtain ⟨m14,hm14,hS,hz14⟩:=hS.freeze
  have h14:=((h8.mono hm12.le).mono hm13.le).froz hm14.le hz14
  have hS:St _ _ _ _ [q9,[⟨b11,[(iV t_3.2.2.1.Level),s7.v,s8.v,(iV t_3.2.2.1.Sum)],28⟩],[⟨b10,[s5.v],25⟩]]:=hS.sel [2,0,1] (by decide)
  obtain ⟨m15,hm15,hS,hz15⟩:=hS.freeze
  have h15:=(((h9.mono hm12.le).mono hm13.le).mono hm14.le).froz hm15.le hz15
  obtain ⟨t_16,ht_16,hr⟩:=bindS hr
  refine q_call (vs:=[(.agg #[s5.v]),s6.v,(.agg #[(iV t_3.2.2.1.Level),s7.v,s8.v,(iV t_3.2.2.1.Sum)]),s9.v]) hF hS func5 (by kernel_rfl) rfl rfl rfl (c_impl_CubeOfTable t_3.1 t_3.2.1 t_3.2.2.1 t_3.2.2.2 t_16 ht_16 _ m15 hS.vis s5 (((h12.mono hm13.le).mono hm14.le).mono hm15.le) s6 ((((h6.mono hm12.le).mono hm13.le).mono hm14.le).mono hm15.le) s7 ((h13.mono hm14.le).mono hm15.le) s8 (h14.mono hm15.le) s9 h15) ?_
  have hT:=hS
  rintro a w _ ⟨m17,q18,q19,s18,s19,rfl,hm17,hR17,h18,h19⟩ hF hS2
  have hS:St _ _ _ _ [q18,q19,[⟨b11,[(iV t_3.2.2.1.Level),s7.v,s8.v,(iV t_3.2.2.1.Sum)],28⟩],[⟨b10,[s5.v],25⟩]]:=hS.join hR17 hm17
  have hm17:=MLe.weakX (O0:=[]) hT hm17
  refine q_x (v:=(.tuple #[(.agg #[s18.v,s19.v]),(.bool t_16.2)])) hF hS (ex_move rfl) rfl rfl fun a hF=>q_x (v:=(.agg #[s18.v,s19.v])) hF hS (ex_extract rfl rfl) rfl rfl fun a hF=>q_x (v:=(.bool t_16.2)) hF hS (ex_extract rfl rfl) rfl rfl fun a hF=>q_alloc (cs:=[nilS.v,nilS.v]) hF hS rfl rfl rfl fun a w b20 hF hS=>q_store (vs:=[s18.v,s19.v]) (cs':=[s18.v,s19.v]) 0 0 hF hS sz33 rfl rfl rfl rfl rfl rfl rfl rfl fun a w hF hS=>q_x (v:=(.bool t_16.2)) hF hS (ex_assign rfl) rfl rfl fun a hF=>q_end (n_sq (q_seq (q_region (q_x (v:=(.agg #[s5.v])) hF hS (ex_loadA (vs:=[s5.v]) 4 0 underlying25 rfl sz25 rfl rfl rfl rfl) rfl rfl fun a hF=>q_x (v:=s6.v) hF hS (ex_move rfl) rfl rfl fun a hF=>q_x (v:=(.agg #[(iV t_3.2.2.1.Level),s7.v,s8.v,(iV t_3.2.2.1.Sum)])) hF hS (ex_loadA (vs:=[(iV t_3.2.2.1.Level),s7.v,s8.v,(iV t_3.2.2.1.Sum)]) 3 0 underlying28 rfl sz28 rfl rfl rfl rfl) rfl rfl fun a hF=>q_x (v:=s9.v) hF hS (ex_move rfl) rfl rfl fun a hF=>?_))))
  obtain ⟨t_21,ht_21,hr⟩:=bindS hr
  refine q_call (vs:=[(.agg #[s5.v]),s6.v,(.agg #[(iV t_3.2.2.1.Level),s7.v,s8.v,(iV t_3.2.2.1.Sum)]),s9.v]) hF hS func6 (by kernel_rfl) rfl rfl rfl (c_spec_CubeOfTable t_3.1 t_3.2.1 t_3.2.2.1 t_3.2.2.2 t_21 ht_21 _ m17 hS.vis s5 ((((h12.mono hm13.le).mono hm14.le).mono hm15.le).mono hm17.le) s6 (((((h6.mono hm12.le).mono hm13.le).mono hm14.le).mono hm15.le).mono hm17.le) s7 (((h13.mono hm14.le).mono hm15.le).mono hm17.le) s8 ((h14.mono hm15.le).mono hm17.le) s9 (h15.mono hm17.le)) ?_
  have hT:=hS
  rintro a w _ ⟨m22,s23,s24,rfl,hm22,hR22,h23,h24⟩ hF hS2
  have hS:St _ _ _ _ [[⟨b20,[s18.v,s19.v],33⟩],q18,q19,[⟨b11,[(iV t_3.2.2.1.Level),s7.v,s8.v,(iV t_3.2.2.1.Sum)],28⟩],[⟨b10,[s5.v],25⟩]]:=hS.join hR22 hm22
  have hm22:=MLe.weakX (O0:=[]) hT hm22
  refine q_x (v:=(.tuple #[(.agg #[s23.v,s24.v]),(.bool t_21.2)])) hF hS (ex_move rfl) rfl rfl fun a hF=>q_x (v:=(.agg #[s23.v,s24.v])) hF hS (ex_extract rfl rfl) rfl rfl fun a hF=>q_x (v:=(.bool t_21.2)) hF hS (ex_extract rfl rfl) rfl rfl fun a hF=>q_alloc (cs:=[nilS.v,nilS.v]) hF hS rfl rfl rfl fun a w b25 hF hS=>q_store (vs:=[s23.v,s24.v]) (cs':=[s23.v,s24.v]) 0 0 hF hS sz33 rfl rfl rfl rfl rfl rfl rfl rfl fun a w hF hS=>q_x (v:=(.bool t_21.2)) hF hS (ex_assign rfl) rfl rfl fun a hF=>q_end (n_sq (q_seq (q_region (q_x (v:=s2.v) hF hS (ex_move rfl) rfl rfl fun a hF=>?_))))
  obtain ⟨t_26,ht_26,hr⟩:=bindS hr
  refine q_call (vs:=[s2.v]) hF hS func7 (by kernel_rfl) rfl rfl rfl (c_spec_DrawPartsOf p_more t_26 ht_26 _ m22 hS.vis s2 (((((((h2.mono hm4.le).mono hm12.le).mono hm13.le).mono hm14.le).mono hm15.le).mono hm17.le).mono hm22.le)) ?_
  have hT:=hS
  rintro a w _ ⟨m27,s28,rfl,hm27,hR27,h28⟩ hF hS2
  have hS:St _ _ _ _ [[⟨b25,[s23.v,s24.v],33⟩],[⟨b20,[s18.v,s19.v],33⟩],q18,q19,[⟨b11,[(iV t_3.2.2.1.Level),s7.v,s8.v,(iV t_3.2.2.1.Sum)],28⟩],[⟨b10,[s5.v],25⟩]]:=hS.join hR27 hm27
  have hm27:=MLe.weakX (O0:=[]) hT hm27
  refine q_x (v:=(.tuple #[s28.v,(iV t_26.2)])) hF hS (ex_move rfl) rfl rfl fun a hF=>q_x (v:=s28.v) hF hS (ex_extract rfl rfl) rfl rfl fun a hF=>q_x (v:=(iV t_26.2)) hF hS (ex_extract rfl rfl) rfl rfl fun a hF=>q_x (v:=s28.v) hF hS (ex_assign rfl) rfl rfl fun a hF=>q_x (v:=(iV t_26.2)) hF hS (ex_assign rfl) rfl rfl fun a hF=>q_end (n_sq (q_seq (q_region (q_x (v:=s28.v) hF hS (ex_move rfl) rfl rfl fun a hF=>q_x (v:=(iV t_26.2)) hF hS (ex_move rfl) rfl rfl fun a hF=>?_))))
  obtain ⟨t_29,ht_29,hr⟩:=bindS hr
  refine q_call (vs:=[s28.v,(iV t_26.2)]) hF hS func8 (by kernel_rfl) rfl rfl rfl (c_impl_PartsOf t_26.1 t_26.2 t_29 ht_29 _ m27 hS.vis s28 h28) ?_
  have hT:=hS
  rintro a w _ ⟨m30,q31,s31,rfl,hm30,hR30,h31⟩ hF hS2
  have hS:St _ _ _ _ [q31,[⟨b25,[s23.v,s24.v],33⟩],[⟨b20,[s18.v,s19.v],33⟩],q18,q19,[⟨b11,[(iV t_3.2.2.1.Level),s7.v,s8.v,(iV t_3.2.2.1.Sum)],28⟩],[⟨b10,[s5.v],25⟩]]:=hS.join hR30 hm30
  have hm30:=MLe.weakX (O0:=[]) hT hm30
  refine q_x (v:=(.tuple #[s31.v,(.bool t_29.2)])) hF hS (ex_move rfl) rfl rfl fun a hF=>q_x (v:=s31.v) hF hS (ex_extract rfl rfl) rfl rfl fun a hF=>q_x (v:=(.bool t_29.2)) hF hS (ex_extract rfl rfl) rfl rfl fun a hF=>q_x (v:=s31.v) hF hS (ex_assign rfl) rfl rfl fun a hF=>q_x (v:=(.bool t_29.2)) hF hS (ex_assign rfl) rfl rfl fun a hF=>q_end (n_sq (q_seq (q_region (q_x (v:=s28.v) hF hS (ex_move rfl) rfl rfl fun a hF=>q_x (v:=(iV t_26.2)) hF hS (ex_move rfl) rfl rfl fun a hF=>?_))))
  obtain ⟨t_32,ht_32,hr⟩:=bindS hr
  refine q_call (vs:=[s28.v,(iV t_26.2)]) hF hS func9 (by kernel_rfl) rfl rfl rfl (c_spec_PartsOf t_26.1 t_26.2 t_32 ht_32 _ m30 hS.vis s28 (h28.mono hm30.le)) ?_
  have hT:=hS
  rintro a w _ ⟨m33,q34,s34,rfl,hm33,hR33,h34⟩ hF hS2
  have hS:St _ _ _ _ [q34,q31,[⟨b25,[s23.v,s24.v],33⟩],[⟨b20,[s18.v,s19.v],33⟩],q18,q19,[⟨b11,[(iV t_3.2.2.1.Level),s7.v,s8.v,(iV t_3.2.2.1.Sum)],28⟩],[⟨b10,[s5.v],25⟩]]:=hS.join hR33 hm33
  have hm33:=MLe.weakX (O0:=[]) hT hm33
  refine q_x (v:=(.tuple #[s34.v,(.bool t_32.2)])) hF hS (ex_move rfl) rfl rfl fun a hF=>q_x (v:=s34.v) hF hS (ex_extract rfl rfl) rfl rfl fun a hF=>q_x (v:=(.bool t_32.2)) hF hS (ex_extract rfl rfl) rfl rfl fun a hF=>q_x (v:=s34.v) hF hS (ex_assign rfl) rfl rfl fun a hF=>q_x (v:=(.bool t_32.2)) hF hS (ex_assign rfl) rfl rfl fun a hF=>q_end (n_sq (q_seq (q_region (q_x (v:=s2.v) hF hS (ex_move rfl) rfl rfl fun a hF=>?_))))
  obtain ⟨t_35,ht_35,hr⟩:=bindS hr
  refine q_call (vs:=[s2.v]) hF hS func10 (by kernel_rfl) rfl rfl rfl (c_spec_DrawDifferenceOf p_more t_35 ht_35 _ m33 hS.vis s2 ((((((((((h2.mono hm4.le).mono hm12.le).mono hm13.le).mono hm14.le).mono hm15.le).mono hm17.le).mono hm22.le).mono hm27.le).mono hm30.le).mono hm33.le)) ?_
  have hT:=hS
  rintro a w _ ⟨m36,q38,q40,s37,s38,s39,s40,rfl,hm36,hR36,h37,h38,h39,h40⟩ hF hS2
  have hS:St _ _ _ _ [q38,q40,q34,q31,[⟨b25,[s23.v,s24.v],33⟩],[⟨b20,[s18.v,s19.v],33⟩],q18,q19,[⟨b11,[(iV t_3.2.2.1.Level),s7.v,s8.v,(iV t_3.2.2.1.Sum)],28⟩],[⟨b10,[s5.v],25⟩]]:=hS.join hR36 hm36
  have hm36:=MLe.weakX (O0:=[]) hT hm36
  refine q_x (v:=(.tuple #[(.agg #[s37.v,s38.v]),(.agg #[s39.v,s40.v])])) hF hS (ex_move rfl) rfl rfl fun a hF=>q_x (v:=(.agg #[s37.v,s38.v])) hF hS (ex_extract rfl rfl) rfl rfl fun a hF=>q_x (v:=(.agg #[s39.v,s40.v])) hF hS (ex_extract rfl rfl) rfl rfl fun a hF=>q_alloc (cs:=[nilS.v,nilS.v]) hF hS rfl rfl rfl fun a w b41 hF hS=>q_alloc (cs:=[nilS.v,nilS.v]) hF hS rfl rfl rfl fun a w b42 hF hS=>q_store (vs:=[s37.v,s38.v]) (cs':=[s37.v,s38.v]) 1 0 hF hS sz33 rfl rfl rfl rfl rfl rfl rfl rfl fun a w hF hS=>q_store (vs:=[s39.v,s40.v]) (cs':=[s39.v,s40.v]) 0 0 hF hS sz33 rfl rfl rfl rfl rfl rfl rfl rfl fun a w hF hS=>q_end (n_sq (q_seq (q_region (q_x (v:=(.agg #[s37.v,s38.v])) hF hS (ex_loadA (vs:=[s37.v,s38.v]) 1 0 underlying33 rfl sz33 rfl rfl rfl rfl) rfl rfl fun a hF=>q_x (v:=(.agg #[s39.v,s40.v])) hF hS (ex_loadA (vs:=[s39.v,s40.v]) 0 0 underlying33 rfl sz33 rfl rfl rfl rfl) rfl rfl fun a hF=>?_))))
  obtain ⟨m44,hl44,hv44,hz44⟩:=hS.lend
  obtain ⟨t_43,ht_43,hr⟩:=bindS hr
  refine q_call (vs:=[(.agg #[s37.v,s38.v]),(.agg #[s39.v,s40.v])]) hF hS func11 (by kernel_rfl) rfl rfl rfl (c_impl_DifferenceOf t_35.1 t_35.2 t_43 ht_43 _ m44 hv44 s37 (h37.mono hl44) s38 (h38.froz hl44 (hz44 2 _ rfl)) s39 (h39.mono hl44) s40 (h40.froz hl44 (hz44 3 _ rfl))) ?_
  rintro a w _ ⟨q46,q47,s46,s47,rfl,hR45,h46,h47⟩ hF hS2
  have hS:St _ _ _ _ [q46,q47,[⟨b42,[s39.v,s40.v],33⟩],[⟨b41,[s37.v,s38.v],33⟩],q38,q40,q34,q31,[⟨b25,[s23.v,s24.v],33⟩],[⟨b20,[s18.v,s19.v],33⟩],q18,q19,[⟨b11,[(iV t_3.2.2.1.Level),s7.v,s8.v,(iV t_3.2.2.1.Sum)],28⟩],[⟨b10,[s5.v],25⟩]]:=hS.joinF hR45
  have h46:=h46.any m36
  have h47:=h47.any m36
  refine q_x (v:=(.tuple #[(.agg #[s46.v,s47.v]),(.bool t_43.2)])) hF hS (ex_move rfl) rfl rfl fun a hF=>q_x (v:=(.agg #[s46.v,s47.v])) hF hS (ex_extract rfl rfl) rfl rfl fun a hF=>q_x (v:=(.bool t_43.2)) hF hS (ex_extract rfl rfl) rfl rfl fun a hF=>q_alloc (cs:=[nilS.v,nilS.v]) hF hS rfl rfl rfl fun a w b48 hF hS=>q_store (vs:=[s46.v,s47.v]) (cs':=[s46.v,s47.v]) 0 0 hF hS sz33 rfl rfl rfl rfl rfl rfl rfl rfl fun a w hF hS=>q_x (v:=(.bool t_43.2)) hF hS (ex_assign rfl) rfl rfl fun a hF=>q_end (n_sq (q_seq (q_region (q_x (v:=(.agg #[s37.v,s38.v])) hF hS (ex_loadA (vs:=[s37.v,s38.v]) 4 0 underlying33 rfl sz33 rfl rfl rfl rfl) rfl rfl fun a hF=>q_x (v:=(.agg #[s39.v,s40.v])) hF hS (ex_loadA (vs:=[s39.v,s40.v]) 3 0 underlying33 rfl sz33 rfl rfl rfl rfl) rfl rfl fun a hF=>?_))))
  have hS:St _ _ _ _ [q38,[⟨b48,[s46.v,s47.v],33⟩],q46,q47,[⟨b42,[s39.v,s40.v],33⟩],[⟨b41,[s37.v,s38.v],33⟩],q40,q34,q31,[⟨b25,[s23.v,s24.v],33⟩],[⟨b20,[s18.v,s19.v],33⟩],q18,q19,[⟨b11,[(iV t_3.2.2.1.Level),s7.v,s8.v,(iV t_3.2.2.1.Sum)],28⟩],[⟨b10,[s5.v],25⟩]]:=hS.sel [5,0,1,2,3,4,6,7,8,9,10,11,12,13,14] (by decide)
  obtain ⟨m49,hm49,hS,hz49⟩:=hS.freeze
  have h49:=h38.froz hm49.le hz49
  have hS:St _ _ _ _ [q40,[⟨b48,[s46.v,s47.v],33⟩],q46,q47,[⟨b42,[s39.v,s40.v],33⟩],[⟨b41,[s37.v,s38.v],33⟩],q34,q31,[⟨b25,[s23.v,s24.v],33⟩],[⟨b20,[s18.v,s19.v],33⟩],q18,q19,[⟨b11,[(iV t_3.2.2.1.Level),s7.v,s8.v,(iV t_3.2.2.1.Sum)],28⟩],[⟨b10,[s5.v],25⟩]]:=hS.sel [5,0,1,2,3,4,6,7,8,9,10,11,12,13] (by decide)
  obtain ⟨m50,hm50,hS,hz50⟩:=hS.freeze
  have h50:=(h40.mono hm49.le).froz hm50.le hz50
  obtain ⟨t_51,ht_51,hr⟩:=bindS hr
  refine q_call (vs:=[(.agg #[s37.v,s38.v]),(.agg #[s39.v,s40.v])]) hF hS func12 (by kernel_rfl) rfl rfl rfl (c_spec_DifferenceOf t_35.1 t_35.2 t_51 ht_51 _ m50 hS.vis s37 ((h37.mono hm49.le).mono hm50.le) s38 (h49.mono hm50.le) s39 ((h39.mono hm49.le).mono hm50.le) s40 h50) ?_
  have hT:=hS
  rintro a w _ ⟨m52,s53,s54,rfl,hm52,hR52,h53,h54⟩ hF hS2
  have hS:St _ _ _ _ [[⟨b48,[s46.v,s47.v],33⟩],q46,q47,[⟨b42,[s39.v,s40.v],33⟩],[⟨b41,[s37.v,s38.v],33⟩],q34,q31,[⟨b25,[s23.v,s24.v],33⟩],[⟨b20,[s18.v,s19.v],33⟩],q18,q19,[⟨b11,[(iV t_3.2.2.1.Level),s7.v,s8.v,(iV t_3.2.2.1.Sum)],28⟩],[⟨b10,[s5.v],25⟩]]:=hS.join hR52 hm52
  have hm52:=MLe.weakX (O0:=[]) hT hm52
  refine q_x (v:=(.tuple #[(.agg #[s53.v,s54.v]),(.bool t_51.2)])) hF hS (ex_move rfl) rfl rfl fun a hF=>q_x (v:=(.agg #[s53.v,s54.v])) hF hS (ex_extract rfl rfl) rfl rfl fun a hF=>q_x (v:=(.bool t_51.2)) hF hS (ex_extract rfl rfl) rfl rfl fun a hF=>q_alloc (cs:=[nilS.v,nilS.v]) hF hS rfl rfl rfl fun a w b55 hF hS=>q_store (vs:=[s53.v,s54.v]) (cs':=[s53.v,s54.v]) 0 0 hF hS sz33 rfl rfl rfl rfl rfl rfl rfl rfl fun a w hF hS=>q_x (v:=(.bool t_51.2)) hF hS (ex_assign rfl) rfl rfl fun a hF=>q_end (n_sq (q_seq (q_seq ?_)))
  obtain ⟨t_64,hj2,hr⟩:=bindS hr
  refine q_join (fun a w=>Fr a 222 [(5,(.pointer (some ⟨b10,0,none⟩))),(6,s6.v),(7,(.pointer (some ⟨b11,0,none⟩))),(8,s9.v),(9,(.pointer (some ⟨b20,0,none⟩))),(10,(.bool t_16.2)),(143,(.bool t_64))]∧St [] w0 w m52 [q18,q19,[⟨b20,[s18.v,s19.v],33⟩],[⟨b11,[(iV t_3.2.2.1.Level),s7.v,s8.v,(iV t_3.2.2.1.Sum)],28⟩],[⟨b10,[s5.v],25⟩]]) ?_ ?_
  ·refine q_region (q_x (v:=(.bool t_16.2)) hF hS (ex_move rfl) rfl rfl fun a hF=>q_x (v:=(.bool t_21.2)) hF hS (ex_move rfl) rfl rfl fun a hF=>q_x (v:=(.bool (t_16.2 != t_21.2))) hF hS (ex_bne underlying4 rfl rfl) rfl rfl fun a hF=>q_x (v:=(.bool (t_16.2 != t_21.2))) hF hS (ex_move rfl) rfl rfl fun a hF=>?_)
   rcases bcase (t_16.2 != t_21.2) with hc3 | hc3
   ·have hj2:=cond_f hc3 hj2
    refine q_xg (v:=(.pointer (some ⟨b20,0,none⟩))) hF hS (ex_fieldAddr underlying33 rfl sz23 rfl rfl) (wanted_t hF rfl rfl rfl hc3) rfl fun a hF=>q_xg (v:=s18.v) hF hS (ex_load1 9 0 underlying23 rfl rfl rfl rfl) (wanted_t hF rfl rfl rfl hc3) rfl fun a hF=>q_xg (v:=(.pointer (some ⟨b25,0,none⟩))) hF hS (ex_fieldAddr underlying33 rfl sz23 rfl rfl) (wanted_t hF rfl rfl rfl hc3) rfl fun a hF=>q_xg (v:=s23.v) hF hS (ex_load1 8 0 underlying23 rfl rfl rfl rfl) (wanted_t hF rfl rfl rfl hc3) rfl fun a hF=>?_
    obtain ⟨m57,hl57,hv57,hz57⟩:=hS.lend
    obtain ⟨t_56,ht_56,hj2⟩:=bindS hj2
    refine q_callg (vs:=[s18.v,s23.v]) hF hS (wanted_t hF rfl rfl rfl hc3) func13 (by kernel_rfl) rfl rfl rfl (c_laws_qInts t_16.1.Sizes t_21.1.Sizes t_56 ht_56 _ m57 hv57 s18 (((((((((h18.mono hm22.le).mono hm27.le).mono hm30.le).mono hm33.le).mono hm36.le).mono hm49.le).mono hm50.le).mono hm52.le).froz hl57 (hz57 10 _ rfl)) s23 ((((((((h23.mono hm27.le).mono hm30.le).mono hm33.le).mono hm36.le).mono hm49.le).mono hm50.le).mono hm52.le).mono hl57)) ?_
    rintro a w _ rfl hF hS
    refine q_xg (v:=(.bool (!t_56))) hF hS (ex_not rfl) (wanted_t hF rfl rfl rfl hc3) rfl fun a hF=>q_x (v:=(.bool (!t_56))) hF hS (ex_pick_f rfl rfl hc3) rfl rfl fun a hF=>q_x (v:=(.bool (!t_56))) hF hS (ex_move rfl) rfl rfl fun a hF=>?_
    rcases bcase (!t_56) with hc4 | hc4
    ·have hj2:=cond_f hc4 hj2
     refine q_xg (v:=(.pointer (some ⟨b20,1,none⟩))) hF hS (ex_fieldAddr underlying33 rfl sz23 rfl rfl) (wanted_t hF rfl rfl rfl hc4) rfl fun a hF=>q_xg (v:=s19.v) hF hS (ex_load1 9 0 underlying23 rfl rfl rfl rfl) (wanted_t hF rfl rfl rfl hc4) rfl fun a hF=>q_xg (v:=(.pointer (some ⟨b25,1,none⟩))) hF hS (ex_fieldAddr underlying33 rfl sz23 rfl rfl) (wanted_t hF rfl rfl rfl hc4) rfl fun a hF=>q_xg (v:=s24.v) hF hS (ex_load1 8 0 underlying23 rfl rfl rfl rfl) (wanted_t hF rfl rfl rfl hc4) rfl fun a hF=>?_
     obtain ⟨m59,hl59,hv59,hz59⟩:=hS.lend
     obtain ⟨t_58,ht_58,hj2⟩:=bindS hj2
     refine q_callg (vs:=[s19.v,s24.v]) hF hS (wanted_t hF rfl rfl rfl hc4) func13 (by kernel_rfl) rfl rfl rfl (c_laws_qInts t_16.1.Cells t_21.1.Cells t_58 ht_58 _ m59 hv59 s19 (((((((((h19.mono hm22.le).mono hm27.le).mono hm30.le).mono hm33.le).mono hm36.le).mono hm49.le).mono hm50.le).mono hm52.le).froz hl59 (hz59 11 _ rfl)) s24 ((((((((h24.mono hm27.le).mono hm30.le).mono hm33.le).mono hm36.le).mono hm49.le).mono hm50.le).mono hm52.le).mono hl59)) ?_
     rintro a w _ rfl hF hS
     refine q_xg (v:=(.bool (!t_58))) hF hS (ex_not rfl) (wanted_t hF rfl rfl rfl hc4) rfl fun a hF=>q_x (v:=(.bool (!t_58))) hF hS (ex_pick_f rfl rfl hc4) rfl rfl fun a hF=>q_x (v:=(.bool (!t_58))) hF hS (ex_move rfl) rfl rfl fun a hF=>?_
     rcases bcase (!t_58) with hc5 | hc5
     ·have hj2:=cond_f hc5 hj2
      refine q_xg (v:=(.bool t_29.2)) hF hS (ex_move rfl) (wanted_t hF rfl rfl rfl hc5) rfl fun a hF=>q_xg (v:=(.bool t_32.2)) hF hS (ex_move rfl) (wanted_t hF rfl rfl rfl hc5) rfl fun a hF=>q_xg (v:=(.bool (t_29.2 != t_32.2))) hF hS (ex_bne underlying4 rfl rfl) (wanted_t hF rfl rfl rfl hc5) rfl fun a hF=>q_x (v:=(.bool (t_29.2 != t_32.2))) hF hS (ex_pick_f rfl rfl hc5) rfl rfl fun a hF=>q_x (v:=(.bool (t_29.2 != t_32.2))) hF hS (ex_move rfl) rfl rfl fun a hF=>?_
      rcases bcase (t_29.2 != t_32.2) with hc6 | hc6
      ·have hj2:=cond_f hc6 hj2
       refine q_xg (v:=s31.v) hF hS (ex_move rfl) (wanted_t hF rfl rfl rfl hc6) rfl fun a hF=>q_xg (v:=s34.v) hF hS (ex_move rfl) (wanted_t hF rfl rfl rfl hc6) rfl fun a hF=>?_
       obtain ⟨m61,hl61,hv61,hz61⟩:=hS.lend
       obtain ⟨t_60,ht_60,hj2⟩:=bindS hj2
       refine q_callg (vs:=[s31.v,s34.v]) hF hS (wanted_t hF rfl rfl rfl hc6) func14 (by kernel_rfl) rfl rfl rfl (c_laws_qLists t_29.1 t_32.1 t_60 ht_60 _ m61 hv61 s31 ((((((h31.mono hm33.le).mono hm36.le).mono hm49.le).mono hm50.le).mono hm52.le).froz hl61 (hz61 7 _ rfl)) s34 (((((h34.mono hm36.le).mono hm49.le).mono hm50.le).mono hm52.le).froz hl61 (hz61 6 _ rfl))) ?_
       rintro a w _ rfl hF hS
       refine q_xg (v:=(.bool (!t_60))) hF hS (ex_not rfl) (wanted_t hF rfl rfl rfl hc6) rfl fun a hF=>q_x (v:=(.bool (!t_60))) hF hS (ex_pick_f rfl rfl hc6) rfl rfl fun a hF=>q_x (v:=(.bool (!t_60))) hF hS (ex_move rfl) rfl rfl fun a hF=>?_
       rcases bcase (!t_60) with hc7 | hc7
       ·have hj2:=cond_f hc7 hj2
        refine q_xg (v:=(.bool t_43.2)) hF hS (ex_move rfl) (wanted_t hF rfl rfl rfl hc7) rfl fun a hF=>q_xg (v:=(.bool t_51.2)) hF hS (ex_move rfl) (wanted_t hF rfl rfl rfl hc7) rfl fun a hF=>q_xg (v:=(.bool (t_43.2 != t_51.2))) hF hS (ex_bne underlying4 rfl rfl) (wanted_t hF rfl rfl rfl hc7) rfl fun a hF=>q_x (v:=(.bool (t_43.2 != t_51.2))) hF hS (ex_pick_f rfl rfl hc7) rfl rfl fun a hF=>q_x (v:=(.bool (t_43.2 != t_51.2))) hF hS (ex_move rfl) rfl rfl fun a hF=>?_
        rcases bcase (t_43.2 != t_51.2) with hc8 | hc8
        ·have hj2:=cond_f hc8 hj2
         refine q_xg (v:=(.pointer (some ⟨b48,1,none⟩))) hF hS (ex_fieldAddr underlying33 rfl sz23 rfl rfl) (wanted_t hF rfl rfl rfl hc8) rfl fun a hF=>q_xg (v:=s47.v) hF hS (ex_load1 1 0 underlying23 rfl rfl rfl rfl) (wanted_t hF rfl rfl rfl hc8) rfl fun a hF=>q_xg (v:=(.pointer (some ⟨b55,1,none⟩))) hF hS (ex_fieldAddr underlying33 rfl sz23 rfl rfl) (wanted_t hF rfl rfl rfl hc8) rfl fun a hF=>q_xg (v:=s54.v) hF hS (ex_load1 0 0 underlying23 rfl rfl rfl rfl) (wanted_t hF rfl rfl rfl hc8) rfl fun a hF=>?_
         obtain ⟨m63,hl63,hv63,hz63⟩:=hS.lend
         obtain ⟨t_62,ht_62,hj2⟩:=bindS hj2
         refine q_callg (vs:=[s47.v,s54.v]) hF hS (wanted_t hF rfl rfl rfl hc8) func13 (by kernel_rfl) rfl rfl rfl (c_laws_qInts t_43.1.Cells t_51.1.Cells t_62 ht_62 _ m63 hv63 s47 ((((h47.mono hm49.le).mono hm50.le).mono hm52.le).froz hl63 (hz63 3 _ rfl)) s54 (h54.mono hl63)) ?_
         rintro a w _ rfl hF hS
         refine q_xg (v:=(.bool (!t_62))) hF hS (ex_not rfl) (wanted_t hF rfl rfl rfl hc8) rfl fun a hF=>q_x (v:=(.bool (!t_62))) hF hS (ex_pick_f rfl rfl hc8) rfl rfl fun a hF=>q_end (n_jn ?_)
         obtain rfl:=someI hj2
         exact ⟨hF.sub ⟨rfl,rfl,rfl,rfl,rfl,rfl,rfl,trivial⟩,hS.sel [10,11,9,12,13] (by decide)⟩
        ·have hj2:=cond_t hc8 hj2
         refine q_skip hF (wanted_f hF rfl rfl rfl hc8 rfl) rfl fun a hF=>q_skip hF (wanted_f hF rfl rfl rfl hc8 rfl) rfl fun a hF=>q_skip hF (wanted_f hF rfl rfl rfl hc8 rfl) rfl fun a hF=>q_skip hF (wanted_f hF rfl rfl rfl hc8 rfl) rfl fun a hF=>q_skip hF (wanted_f hF rfl rfl rfl hc8 rfl) rfl fun a hF=>q_skip hF (wanted_f hF rfl rfl rfl hc8 rfl) rfl fun a hF=>q_x (v:=(.bool true)) hF hS (ex_pick_t rfl rfl hc8) rfl rfl fun a hF=>q_end (n_jn ?_)
         obtain rfl:=someI hj2
         exact ⟨hF.sub ⟨rfl,rfl,rfl,rfl,rfl,rfl,rfl,trivial⟩,hS.sel [10,11,9,12,13] (by decide)⟩
       ·have hj2:=cond_t hc7 hj2
        refine q_skip hF (wanted_f hF rfl rfl rfl hc7 rfl) rfl fun a hF=>q_skip hF (wanted_f hF rfl rfl rfl hc7 rfl) rfl fun a hF=>q_skip hF (wanted_f hF rfl rfl rfl hc7 rfl) rfl fun a hF=>q_x (v:=(.bool true)) hF hS (ex_pick_t rfl rfl hc7) rfl rfl fun a hF=>q_x (v:=(.bool true)) hF hS (ex_move rfl) rfl rfl fun a hF=>q_skip hF (wanted_f hF rfl rfl rfl rfl rfl) rfl fun a hF=>q_skip hF (wanted_f hF rfl rfl rfl rfl rfl) rfl fun a hF=>q_skip hF (wanted_f hF rfl rfl rfl rfl rfl) rfl fun a hF=>q_skip hF (wanted_f hF rfl rfl rfl rfl rfl) rfl fun a hF=>q_skip hF (wanted_f hF rfl rfl rfl rfl rfl) rfl fun a hF=>q_skip hF (wanted_f hF rfl rfl rfl rfl rfl) rfl fun a hF=>q_x (v:=(.bool true)) hF hS (ex_pick_t rfl rfl rfl) rfl rfl fun a hF=>q_end (n_jn ?_)
        obtain rfl:=someI hj2
        exact ⟨hF.sub ⟨rfl,rfl,rfl,rfl,rfl,rfl,rfl,trivial⟩,hS.sel [10,11,9,12,13] (by decide)⟩
      ·have hj2:=cond_t hc6 hj2
       refine q_skip hF (wanted_f hF rfl rfl rfl hc6 rfl) rfl fun a hF=>q_skip hF (wanted_f hF rfl rfl rfl hc6 rfl) rfl fun a hF=>q_skip hF (wanted_f hF rfl rfl rfl hc6 rfl) rfl fun a hF=>q_skip hF (wanted_f hF rfl rfl rfl hc6 rfl) rfl fun a hF=>q_x (v:=(.bool true)) hF hS (ex_pick_t rfl rfl hc6) rfl rfl fun a hF=>q_x (v:=(.bool true)) hF hS (ex_move rfl) rfl rfl fun a hF=>q_skip hF (wanted_f hF rfl rfl rfl rfl rfl) rfl fun a hF=>q_skip hF (wanted_f hF rfl rfl rfl rfl rfl) rfl fun a hF=>q_skip hF (wanted_f hF rfl rfl rfl rfl rfl) rfl fun a hF=>q_x (v:=(.bool true)) hF hS (ex_pick_t rfl rfl rfl) rfl rfl fun a hF=>q_x (v:=(.bool true)) hF hS (ex_move rfl) rfl rfl fun a hF=>q_skip hF (wanted_f hF rfl rfl rfl rfl rfl) rfl fun a hF=>q_skip hF (wanted_f hF rfl rfl rfl rfl rfl) rfl fun a hF=>q_skip hF (wanted_f hF rfl rfl rfl rfl rfl) rfl fun a hF=>q_skip hF (wanted_f hF rfl rfl rfl rfl rfl) rfl fun a hF=>q_skip hF (wanted_f hF rfl rfl rfl rfl rfl) rfl fun a hF=>q_skip hF (wanted_f hF rfl rfl rfl rfl rfl) rfl fun a hF=>q_x (v:=(.bool true)) hF hS (ex_pick_t rfl rfl rfl) rfl rfl fun a hF=>q_end (n_jn ?_)
       obtain rfl:=someI hj2
       exact ⟨hF.sub ⟨rfl,rfl,rfl,rfl,rfl,rfl,rfl,trivial⟩,hS.sel [10,11,9,12,13] (by decide)⟩
     ·have hj2:=cond_t hc5 hj2
      refine q_skip hF (wanted_f hF rfl rfl rfl hc5 rfl) rfl fun a hF=>q_skip hF (wanted_f hF rfl rfl rfl hc5 rfl) rfl fun a hF=>q_skip hF (wanted_f hF rfl rfl rfl hc5 rfl) rfl fun a hF=>q_x (v:=(.bool true)) hF hS (ex_pick_t rfl rfl hc5) rfl rfl fun a hF=>q_x (v:=(.bool true)) hF hS (ex_move rfl) rfl rfl fun a hF=>q_skip hF (wanted_f hF rfl rfl rfl rfl rfl) rfl fun a hF=>q_skip hF (wanted_f hF rfl rfl rfl rfl rfl) rfl fun a hF=>q_skip hF (wanted_f hF rfl rfl rfl rfl rfl) rfl fun a hF=>q_skip hF (wanted_f hF rfl rfl rfl rfl rfl) rfl fun a hF=>q_x (v:=(.bool true)) hF hS (ex_pick_t rfl rfl rfl) rfl rfl fun a hF=>q_x (v:=(.bool true)) hF hS (ex_move rfl) rfl rfl fun a hF=>q_skip hF (wanted_f hF rfl rfl rfl rfl rfl) rfl fun a hF=>q_skip hF (wanted_f hF rfl rfl rfl rfl rfl) rfl fun a hF=>q_skip hF (wanted_f hF rfl rfl rfl rfl rfl) rfl fun a hF=>q_x (v:=(.bool true)) hF hS (ex_pick_t rfl rfl rfl) rfl rfl fun a hF=>q_x (v:=(.bool true)) hF hS (ex_move rfl) rfl rfl fun a hF=>q_skip hF (wanted_f hF rfl rfl rfl rfl rfl) rfl fun a hF=>q_skip hF (wanted_f hF rfl rfl rfl rfl rfl) rfl fun a hF=>q_skip hF (wanted_f hF rfl rfl rfl rfl rfl) rfl fun a hF=>q_skip hF (wanted_f hF rfl rfl rfl rfl rfl) rfl fun a hF=>q_skip hF (wanted_f hF rfl rfl rfl rfl rfl) rfl fun a hF=>q_skip hF (wanted_f hF rfl rfl rfl rfl rfl) rfl fun a hF=>q_x (v:=(.bool true)) hF hS (ex_pick_t rfl rfl rfl) rfl rfl fun a hF=>q_end (n_jn ?_)
      obtain rfl:=someI hj2
      exact ⟨hF.sub ⟨rfl,rfl,rfl,rfl,rfl,rfl,rfl,trivial⟩,hS.sel [10,11,9,12,13] (by decide)⟩
    ·have hj2:=cond_t hc4 hj2
     refine q_skip hF (wanted_f hF rfl rfl rfl hc4 rfl) rfl fun a hF=>q_skip hF (wanted_f hF rfl rfl rfl hc4 rfl) rfl fun a hF=>q_skip hF (wanted_f hF rfl rfl rfl hc4 rfl) rfl fun a hF=>q_skip hF (wanted_f hF rfl rfl rfl hc4 rfl) rfl fun a hF=>q_skip hF (wanted_f hF rfl rfl rfl hc4 rfl) rfl fun a hF=>q_skip hF (wanted_f hF rfl rfl rfl hc4 rfl) rfl fun a hF=>q_x (v:=(.bool true)) hF hS (ex_pick_t rfl rfl hc4) rfl rfl fun a hF=>q_x (v:=(.bool true)) hF hS (ex_move rfl) rfl rfl fun a hF=>q_skip hF (wanted_f hF rfl rfl rfl rfl rfl) rfl fun a hF=>q_skip hF (wanted_f hF rfl rfl rfl rfl rfl) rfl fun a hF=>q_skip hF (wanted_f hF rfl rfl rfl rfl rfl) rfl fun a hF=>q_x (v:=(.bool true)) hF hS (ex_pick_t rfl rfl rfl) rfl rfl fun a hF=>q_x (v:=(.bool true)) hF hS (ex_move rfl) rfl rfl fun a hF=>q_skip hF (wanted_f hF rfl rfl rfl rfl rfl) rfl fun a hF=>q_skip hF (wanted_f hF rfl rfl rfl rfl rfl) rfl fun a hF=>q_skip hF (wanted_f hF rfl rfl rfl rfl rfl) rfl fun a hF=>q_skip hF (wanted_f hF rfl rfl rfl rfl rfl) rfl fun a hF=>q_x (v:=(.bool true)) hF hS (ex_pick_t rfl rfl rfl) rfl rfl fun a hF=>q_x (v:=(.bool true)) hF hS (ex_move rfl) rfl rfl fun a hF=>q_skip hF (wanted_f hF rfl rfl rfl rfl rfl) rfl fun a hF=>q_skip hF (wanted_f hF rfl rfl rfl rfl rfl) rfl fun a hF=>q_skip hF (wanted_f hF rfl rfl rfl rfl rfl) rfl fun a hF=>q_x (v:=(.bool true)) hF hS (ex_pick_t rfl rfl rfl) rfl rfl fun a hF=>q_x (v:=(.bool true)) hF hS (ex_move rfl) rfl rfl fun a hF=>q_skip hF (wanted_f hF rfl rfl rfl rfl rfl) rfl fun a hF=>?_
     refine q_skip hF (wanted_f hF rfl rfl rfl rfl rfl) rfl fun a hF=>q_skip hF (wanted_f hF rfl rfl rfl rfl rfl) rfl fun a hF=>q_skip hF (wanted_f hF rfl rfl rfl rfl rfl) rfl fun a hF=>q_skip hF (wanted_f hF rfl rfl rfl rfl rfl) rfl fun a hF=>q_skip hF (wanted_f hF rfl rfl rfl rfl rfl) rfl fun a hF=>q_x (v:=(.bool true)) hF hS (ex_pick_t rfl rfl rfl) rfl rfl fun a hF=>q_end (n_jn ?_)
     obtain rfl:=someI hj2
     exact ⟨hF.sub ⟨rfl,rfl,rfl,rfl,rfl,rfl,rfl,trivial⟩,hS.sel [10,11,9,12,13] (by decide)⟩
   ·have hj2:=cond_t hc3 hj2
    refine q_skip hF (wanted_f hF rfl rfl rfl hc3 rfl) rfl fun a hF=>q_skip hF (wanted_f hF rfl rfl rfl hc3 rfl) rfl fun a hF=>q_skip hF (wanted_f hF rfl rfl rfl hc3 rfl) rfl fun a hF=>q_skip hF (wanted_f hF rfl rfl rfl hc3 rfl) rfl fun a hF=>q_skip hF (wanted_f hF rfl rfl rfl hc3 rfl) rfl fun a hF=>q_skip hF (wanted_f hF rfl rfl rfl hc3 rfl) rfl fun a hF=>q_x (v:=(.bool true)) hF hS (ex_pick_t rfl rfl hc3) rfl rfl fun a hF=>q_x (v:=(.bool true)) hF hS (ex_move rfl) rfl rfl fun a hF=>q_skip hF (wanted_f hF rfl rfl rfl rfl rfl) rfl fun a hF=>q_skip hF (wanted_f hF rfl rfl rfl rfl rfl) rfl fun a hF=>q_skip hF (wanted_f hF rfl rfl rfl rfl rfl) rfl fun a hF=>q_skip hF (wanted_f hF rfl rfl rfl rfl rfl) rfl fun a hF=>q_skip hF (wanted_f hF rfl rfl rfl rfl rfl) rfl fun a hF=>q_skip hF (wanted_f hF rfl rfl rfl rfl rfl) rfl fun a hF=>q_x (v:=(.bool true)) hF hS (ex_pick_t rfl rfl rfl) rfl rfl fun a hF=>q_x (v:=(.bool true)) hF hS (ex_move rfl) rfl rfl fun a hF=>q_skip hF (wanted_f hF rfl rfl rfl rfl rfl) rfl fun a hF=>q_skip hF (wanted_f hF rfl rfl rfl rfl rfl) rfl fun a hF=>q_skip hF (wanted_f hF rfl rfl rfl rfl rfl) rfl fun a hF=>q_x (v:=(.bool true)) hF hS (ex_pick_t rfl rfl rfl) rfl rfl fun a hF=>q_x (v:=(.bool true)) hF hS (ex_move rfl) rfl rfl fun a hF=>q_skip hF (wanted_f hF rfl rfl rfl rfl rfl) rfl fun a hF=>q_skip hF (wanted_f hF rfl rfl rfl rfl rfl) rfl fun a hF=>q_skip hF (wanted_f hF rfl rfl rfl rfl rfl) rfl fun a hF=>q_skip hF (wanted_f hF rfl rfl rfl rfl rfl) rfl fun a hF=>?_
    refine q_x (v:=(.bool true)) hF hS (ex_pick_t rfl rfl rfl) rfl rfl fun a hF=>q_x (v:=(.bool true)) hF hS (ex_move rfl) rfl rfl fun a hF=>q_skip hF (wanted_f hF rfl rfl rfl rfl rfl) rfl fun a hF=>q_skip hF (wanted_f hF rfl rfl rfl rfl rfl) rfl fun a hF=>q_skip hF (wanted_f hF rfl rfl rfl rfl rfl) rfl fun a hF=>q_x (v:=(.bool true)) hF hS (ex_pick_t rfl rfl rfl) rfl rfl fun a hF=>q_x (v:=(.bool true)) hF hS (ex_move rfl) rfl rfl fun a hF=>q_skip hF (wanted_f hF rfl rfl rfl rfl rfl) rfl fun a hF=>q_skip hF (wanted_f hF rfl rfl rfl rfl rfl) rfl fun a hF=>q_skip hF (wanted_f hF rfl rfl rfl rfl rfl) rfl fun a hF=>q_skip hF (wanted_f hF rfl rfl rfl rfl rfl) rfl fun a hF=>q_skip hF (wanted_f hF rfl rfl rfl rfl rfl) rfl fun a hF=>q_skip hF (wanted_f hF rfl rfl rfl rfl rfl) rfl fun a hF=>q_x (v:=(.bool true)) hF hS (ex_pick_t rfl rfl rfl) rfl rfl fun a hF=>q_end (n_jn ?_)
    obtain rfl:=someI hj2
    exact ⟨hF.sub ⟨rfl,rfl,rfl,rfl,rfl,rfl,rfl,trivial⟩,hS.sel [10,11,9,12,13] (by decide)⟩
  ·rintro a w ⟨hF,hS⟩
   refine n_sq ?_
   rcases bcase (t_64) with hc9 | hc9
   ·have hr:=cond_f hc9 hr
    refine q_cond_f hF rfl hc9 (q_skipc (n_sq (q_seq (q_seq (q_region (q_x (v:=(.bool t_16.2)) hF hS (ex_move rfl) rfl rfl fun a hF=>q_x (v:=(.bool (!t_16.2))) hF hS (ex_not rfl) rfl rfl fun a hF=>q_end (n_sq ?_)))))))
    rcases bcase (!t_16.2) with hc10 | hc10
    ·have hr:=cond_f hc10 hr
     refine q_cond_f hF rfl hc10 (q_skipc (n_sq (q_seq (q_region (q_x (v:=(.agg #[s18.v,s19.v])) hF hS (ex_loadA (vs:=[s18.v,s19.v]) 2 0 underlying33 rfl sz33 rfl rfl rfl rfl) rfl rfl fun a hF=>?_)))))
     obtain ⟨m66,hl66,hv66,hz66⟩:=hS.lend
     obtain ⟨t_65,ht_65,hr⟩:=bindS hr
     refine q_call (vs:=[(.agg #[s18.v,s19.v])]) hF hS func15 (by kernel_rfl) rfl rfl rfl (c_impl_BaseOf t_16.1 t_65 ht_65 _ m66 hv66 s18 (((((((((h18.mono hm22.le).mono hm27.le).mono hm30.le).mono hm33.le).mono hm36.le).mono hm49.le).mono hm50.le).mono hm52.le).froz hl66 (hz66 0 _ rfl)) s19 (((((((((h19.mono hm22.le).mono hm27.le).mono hm30.le).mono hm33.le).mono hm36.le).mono hm49.le).mono hm50.le).mono hm52.le).froz hl66 (hz66 1 _ rfl))) ?_
     rintro a w _ ⟨q68,s68,rfl,hR67,h68⟩ hF hS2
     have hS:St _ _ _ _ [q68,q18,q19,[⟨b20,[s18.v,s19.v],33⟩],[⟨b11,[(iV t_3.2.2.1.Level),s7.v,s8.v,(iV t_3.2.2.1.Sum)],28⟩],[⟨b10,[s5.v],25⟩]]:=hS.joinF hR67
     have h68:=h68.any m52
     refine q_x (v:=(.tuple #[s68.v,(.bool t_65.2)])) hF hS (ex_move rfl) rfl rfl fun a hF=>q_x (v:=s68.v) hF hS (ex_extract rfl rfl) rfl rfl fun a hF=>q_x (v:=(.bool t_65.2)) hF hS (ex_extract rfl rfl) rfl rfl fun a hF=>q_x (v:=s68.v) hF hS (ex_assign rfl) rfl rfl fun a hF=>q_x (v:=(.bool t_65.2)) hF hS (ex_assign rfl) rfl rfl fun a hF=>q_end (n_sq (q_seq (q_region (q_x (v:=(.agg #[s5.v])) hF hS (ex_loadA (vs:=[s5.v]) 5 0 underlying25 rfl sz25 rfl rfl rfl rfl) rfl rfl fun a hF=>q_x (v:=s6.v) hF hS (ex_move rfl) rfl rfl fun a hF=>q_x (v:=(.agg #[(iV t_3.2.2.1.Level),s7.v,s8.v,(iV t_3.2.2.1.Sum)])) hF hS (ex_loadA (vs:=[(iV t_3.2.2.1.Level),s7.v,s8.v,(iV t_3.2.2.1.Sum)]) 4 0 underlying28 rfl sz28 rfl rfl rfl rfl) rfl rfl fun a hF=>q_x (v:=s9.v) hF hS (ex_move rfl) rfl rfl fun a hF=>?_))))
     obtain ⟨t_69,ht_69,hr⟩:=bindS hr
     refine q_call (vs:=[(.agg #[s5.v]),s6.v,(.agg #[(iV t_3.2.2.1.Level),s7.v,s8.v,(iV t_3.2.2.1.Sum)]),s9.v]) hF hS func16 (by kernel_rfl) rfl rfl rfl (c_impl_TableOf t_3.1 t_3.2.1 t_3.2.2.1 t_3.2.2.2 t_69 ht_69 _ m52 hS.vis s5 ((((((((((((h12.mono hm13.le).mono hm14.le).mono hm15.le).mono hm17.le).mono hm22.le).mono hm27.le).mono hm30.le).mono hm33.le).mono hm36.le).mono hm49.le).mono hm50.le).mono hm52.le) s6 (((((((((((((h6.mono hm12.le).mono hm13.le).mono hm14.le).mono hm15.le).mono hm17.le).mono hm22.le).mono hm27.le).mono hm30.le).mono hm33.le).mono hm36.le).mono hm49.le).mono hm50.le).mono hm52.le) s7 (((((((((((h13.mono hm14.le).mono hm15.le).mono hm17.le).mono hm22.le).mono hm27.le).mono hm30.le).mono hm33.le).mono hm36.le).mono hm49.le).mono hm50.le).mono hm52.le) s8 ((((((((((h14.mono hm15.le).mono hm17.le).mono hm22.le).mono hm27.le).mono hm30.le).mono hm33.le).mono hm36.le).mono hm49.le).mono hm50.le).mono hm52.le) s9 (((((((((h15.mono hm17.le).mono hm22.le).mono hm27.le).mono hm30.le).mono hm33.le).mono hm36.le).mono hm49.le).mono hm50.le).mono hm52.le)) ?_
     rintro a w _ ⟨q71,s71,rfl,hR70,h71⟩ hF hS2
     have hS:St _ _ _ _ [q71,q68,q18,q19,[⟨b20,[s18.v,s19.v],33⟩],[⟨b11,[(iV t_3.2.2.1.Level),s7.v,s8.v,(iV t_3.2.2.1.Sum)],28⟩],[⟨b10,[s5.v],25⟩]]:=hS.joinF hR70
     refine q_x (v:=(.tuple #[s71.v,(.bool t_69.2)])) hF hS (ex_move rfl) rfl rfl fun a hF=>q_x (v:=s71.v) hF hS (ex_extract rfl rfl) rfl rfl fun a hF=>q_x (v:=(.bool t_69.2)) hF hS (ex_extract rfl rfl) rfl rfl fun a hF=>q_x (v:=s71.v) hF hS (ex_assign rfl) rfl rfl fun a hF=>q_x (v:=(.bool t_69.2)) hF hS (ex_assign rfl) rfl rfl fun a hF=>q_end (n_sq (q_seq (q_seq ?_)))
     obtain ⟨t_74,hj11,hr⟩:=bindS hr
     refine q_join (fun a w=>Fr a 222 [(9,(.pointer (some ⟨b20,0,none⟩))),(170,(.bool t_74))]∧St [] w0 w m52 [q18,q19,[⟨b20,[s18.v,s19.v],33⟩]]) ?_ ?_
     ·refine q_region (q_x (v:=(.bool t_65.2)) hF hS (ex_move rfl) rfl rfl fun a hF=>q_x (v:=(.bool (!t_65.2))) hF hS (ex_not rfl) rfl rfl fun a hF=>q_x (v:=(.bool (!t_65.2))) hF hS (ex_move rfl) rfl rfl fun a hF=>?_)
      rcases bcase (!t_65.2) with hc12 | hc12
      ·have hj11:=cond_f hc12 hj11
       refine q_xg (v:=(.bool t_69.2)) hF hS (ex_move rfl) (wanted_t hF rfl rfl rfl hc12) rfl fun a hF=>q_xg (v:=(.bool (!t_69.2))) hF hS (ex_not rfl) (wanted_t hF rfl rfl rfl hc12) rfl fun a hF=>q_x (v:=(.bool (!t_69.2))) hF hS (ex_pick_f rfl rfl hc12) rfl rfl fun a hF=>q_x (v:=(.bool (!t_69.2))) hF hS (ex_move rfl) rfl rfl fun a hF=>?_
       rcases bcase (!t_69.2) with hc13 | hc13
       ·have hj11:=cond_f hc13 hj11
        refine q_xg (v:=s68.v) hF hS (ex_move rfl) (wanted_t hF rfl rfl rfl hc13) rfl fun a hF=>q_xg (v:=s71.v) hF hS (ex_move rfl) (wanted_t hF rfl rfl rfl hc13) rfl fun a hF=>?_
        obtain ⟨m73,hl73,hv73,hz73⟩:=hS.lend
        obtain ⟨t_72,ht_72,hj11⟩:=bindS hj11
        refine q_callg (vs:=[s68.v,s71.v]) hF hS (wanted_t hF rfl rfl rfl hc13) func13 (by kernel_rfl) rfl rfl rfl (c_laws_qInts t_65.1 t_69.1 t_72 ht_72 _ m73 hv73 s68 (h68.froz hl73 (hz73 1 _ rfl)) s71 (h71.froz hl73 (hz73 0 _ rfl))) ?_
        rintro a w _ rfl hF hS
        refine q_xg (v:=(.bool (!t_72))) hF hS (ex_not rfl) (wanted_t hF rfl rfl rfl hc13) rfl fun a hF=>q_x (v:=(.bool (!t_72))) hF hS (ex_pick_f rfl rfl hc13) rfl rfl fun a hF=>q_end (n_jn ?_)
        obtain rfl:=someI hj11
        exact ⟨hF.sub ⟨rfl,rfl,trivial⟩,hS.mask [false,false,true,true,true,false,false]⟩
       ·have hj11:=cond_t hc13 hj11
        refine q_skip hF (wanted_f hF rfl rfl rfl hc13 rfl) rfl fun a hF=>q_skip hF (wanted_f hF rfl rfl rfl hc13 rfl) rfl fun a hF=>q_skip hF (wanted_f hF rfl rfl rfl hc13 rfl) rfl fun a hF=>q_skip hF (wanted_f hF rfl rfl rfl hc13 rfl) rfl fun a hF=>q_x (v:=(.bool true)) hF hS (ex_pick_t rfl rfl hc13) rfl rfl fun a hF=>q_end (n_jn ?_)
        obtain rfl:=someI hj11
        exact ⟨hF.sub ⟨rfl,rfl,trivial⟩,hS.mask [false,false,true,true,true,false,false]⟩
      ·have hj11:=cond_t hc12 hj11
       refine q_skip hF (wanted_f hF rfl rfl rfl hc12 rfl) rfl fun a hF=>q_skip hF (wanted_f hF rfl rfl rfl hc12 rfl) rfl fun a hF=>q_x (v:=(.bool true)) hF hS (ex_pick_t rfl rfl hc12) rfl rfl fun a hF=>q_x (v:=(.bool true)) hF hS (ex_move rfl) rfl rfl fun a hF=>q_skip hF (wanted_f hF rfl rfl rfl rfl rfl) rfl fun a hF=>q_skip hF (wanted_f hF rfl rfl rfl rfl rfl) rfl fun a hF=>q_skip hF (wanted_f hF rfl rfl rfl rfl rfl) rfl fun a hF=>q_skip hF (wanted_f hF rfl rfl rfl rfl rfl) rfl fun a hF=>q_x (v:=(.bool true)) hF hS (ex_pick_t rfl rfl rfl) rfl rfl fun a hF=>q_end (n_jn ?_)
       obtain rfl:=someI hj11
       exact ⟨hF.sub ⟨rfl,rfl,trivial⟩,hS.mask [false,false,true,true,true,false,false]⟩
     ·rintro a w ⟨hF,hS⟩
      refine n_sq ?_
      rcases bcase (t_74) with hc14 | hc14
      ·have hr:=cond_f hc14 hr
       refine q_cond_f hF rfl hc14 (q_skipc (n_sq (q_seq (q_seq (q_region (q_x (v:=(.pointer (some ⟨b20,1,none⟩))) hF hS (ex_fieldAddr underlying33 rfl sz23 rfl rfl) rfl rfl fun a hF=>q_x (v:=s19.v) hF hS (ex_load1 2 0 underlying23 rfl rfl rfl rfl) rfl rfl fun a hF=>q_x (v:=(iV (goLen t_16.1.Cells))) hF hS (ex_len underlying23 rfl ((((((((h19.mono hm22.le).mono hm27.le).mono hm30.le).mono hm33.le).mono hm36.le).mono hm49.le).mono hm50.le).mono hm52.le).len) rfl rfl fun a hF=>q_x (v:=(iV 0)) hF hS (ex_move rfl) rfl rfl fun a hF=>q_end (n_sq (q_block ?_))))))))
       obtain ⟨o15,hl15,hr⟩:=bindS hr
       obtain ⟨mf2,hmf2,hS,hzf2⟩:=hS.freeze
       have hf2:=((((((((h18.mono hm22.le).mono hm27.le).mono hm30.le).mono hm33.le).mono hm36.le).mono hm49.le).mono hm50.le).mono hm52.le).froz hmf2.le hzf2
       refine q_loop (fun (s:Int × impl_Cube) a w=>∃ (m79:Mem),∃ t_75,∃ c_76,s=(t_75,c_76)∧Fr a 222 [(9,(.pointer (some ⟨b20,0,none⟩))),(172,s19.v),(173,(iV (goLen t_16.1.Cells))),(174,(iV t_75))]∧St [] w0 w m79 [q19,[⟨b20,[s18.v,s19.v],33⟩]]∧MLe [] w0.heap.size m52 m79∧Rd m79 s18 c_76.Sizes∧OwnL m79 3 q19 s19 c_76.Cells∧c_76.Cells=t_16.1.Cells) (fun (o:(Unit) ⊕ (Bool)) e a w=>∃ (m97:Mem),o=.inl ()∧e=.exit 0∧Fr a 222 []∧St [] w0 w m97 []∧MLe [] w0.heap.size m52 m97) hl15 ⟨mf2,_,_,rfl,hF.sub ⟨rfl,rfl,rfl,rfl,trivial⟩,hS,hmf2,hf2,(((((((((h19.mono hm22.le).mono hm27.le).mono hm30.le).mono hm33.le).mono hm36.le).mono hm49.le).mono hm50.le).mono hm52.le).mono hmf2.le),rfl⟩ ?_ ?_
       ·clear hF hS
        rintro s a w st ⟨m79,t_75,c_76,rfl,hF,hS,hm79,h77,h78,h78k⟩ hb15
        unfold laws_FnTotals_l1 at hb15
        refine q_seq (q_region (q_x (v:=(.bool (decide (t_75<(goLen t_16.1.Cells))))) hF hS (ex_ibin rfl rfl rfl) rfl rfl fun a hF=>q_end (n_sq (q_seq ?_))))
        rcases bcase (decide (t_75<(goLen t_16.1.Cells))) with hc16 | hc16
        ·have hb15:=cond_f hc16 hb15
         refine q_cond_f hF rfl hc16 (q_exit (x_sq ?_))
         obtain rfl:=someI hb15
         exact ⟨nofun,.inl ⟨m79,rfl,rfl,hF.sub trivial,hS.mask [false,false],hm79⟩⟩
        ·have hb15:=cond_t hc16 hb15
         refine q_cond_t hF rfl hc16 (q_skipc (n_sq (q_seq (q_block (q_seq (q_region (q_x (v:=(iV t_75)) hF hS (ex_move rfl) rfl rfl fun a hF=>?_)))))))
         obtain ⟨e_80,he_80,hb15⟩:=bindS hb15
         obtain ⟨vs81,at81,d81⟩:=(((((((((h19.mono hm22.le).mono hm27.le).mono hm30.le).mono hm33.le).mono hm36.le).mono hm49.le).mono hm50.le).mono hm52.le).mono hm79.le).at he_80 1 rfl
         obtain rfl:vs81=[(iV e_80)]:=d81
         refine q_x (v:=(elP s19 (t_75.toNat * 1))) hF hS (ex_indexAddr underlying23 sz3 rfl rfl ((((((((((h19.mono hm22.le).mono hm27.le).mono hm30.le).mono hm33.le).mono hm36.le).mono hm49.le).mono hm50.le).mono hm52.le).mono hm79.le).idx he_80)) rfl rfl fun a hF=>q_x (v:=(iV e_80)) hF hS (ex_loadE1 0 underlying3 rfl rfl (at81.at 0 rfl) rfl rfl) rfl rfl fun a hF=>q_x (v:=(iV t_75)) hF hS (ex_assign rfl) rfl rfl fun a hF=>q_x (v:=(iV e_80)) hF hS (ex_assign rfl) rfl rfl fun a hF=>q_end (n_sq (q_seq (q_region (q_x (v:=(.pointer (some ⟨b20,0,none⟩))) hF hS (ex_fieldAddr underlying33 rfl sz23 rfl rfl) rfl rfl fun a hF=>q_x (v:=s18.v) hF hS (ex_load1 1 0 underlying23 rfl rfl rfl rfl) rfl rfl fun a hF=>q_x (v:=(iV t_75)) hF hS (ex_move rfl) rfl rfl fun a hF=>?_))))
         obtain ⟨t_82,ht_82,hb15⟩:=bindS hb15
         refine q_call (vs:=[s18.v,(iV t_75)]) hF hS func8 (by kernel_rfl) rfl rfl rfl (c_impl_PartsOf c_76.Sizes t_75 t_82 ht_82 _ m79 hS.vis s18 h77) ?_
         have hT:=hS
         rintro a w _ ⟨m83,q84,s84,rfl,hm83,hR83,h84⟩ hF hS2
         have hS:St _ _ _ _ [q84,q19,[⟨b20,[s18.v,s19.v],33⟩]]:=hS.join hR83 hm83
         have hm83:=MLe.weakX (O0:=[]) hT hm83
         refine q_x (v:=(.tuple #[s84.v,(.bool t_82.2)])) hF hS (ex_move rfl) rfl rfl fun a hF=>q_x (v:=s84.v) hF hS (ex_extract rfl rfl) rfl rfl fun a hF=>q_x (v:=(.bool t_82.2)) hF hS (ex_extract rfl rfl) rfl rfl fun a hF=>q_x (v:=s84.v) hF hS (ex_assign rfl) rfl rfl fun a hF=>q_x (v:=(.bool t_82.2)) hF hS (ex_assign rfl) rfl rfl fun a hF=>q_end (n_sq (q_seq (q_seq (q_region (q_x (v:=(.bool t_82.2)) hF hS (ex_move rfl) rfl rfl fun a hF=>q_x (v:=(.bool (!t_82.2))) hF hS (ex_not rfl) rfl rfl fun a hF=>q_end (n_sq ?_))))))
         rcases bcase (!t_82.2) with hc17 | hc17
         ·have hb15:=cond_f hc17 hb15
          refine q_cond_f hF rfl hc17 (q_skipc (n_sq (q_seq (q_region (q_x (v:=s84.v) hF hS (ex_move rfl) rfl rfl fun a hF=>q_x (v:=(iV (goLen t_82.1))) hF hS (ex_len underlying38 rfl h84.len) rfl rfl fun a hF=>q_x (v:=(iV 0)) hF hS (ex_move rfl) rfl rfl fun a hF=>q_end (n_sq (q_block ?_)))))))
          obtain ⟨o18,hl18,hb15⟩:=bindS hb15
          refine q_loop (fun (t_85:Int) a w=>Fr a 222 [(9,(.pointer (some ⟨b20,0,none⟩))),(30,(iV e_80)),(172,s19.v),(173,(iV (goLen t_16.1.Cells))),(174,(iV t_75)),(188,s84.v),(189,(iV (goLen t_82.1))),(190,(iV t_85))]∧St [] w0 w m83 [q84,q19,[⟨b20,[s18.v,s19.v],33⟩]]) (fun (o:(Unit) ⊕ (Stp (Int × impl_Cube) ((Unit) ⊕ (Bool)))) e a w=>o=.inl ()∧e=.exit 2∧Fr a 222 [(9,(.pointer (some ⟨b20,0,none⟩))),(172,s19.v),(173,(iV (goLen t_16.1.Cells))),(174,(iV t_75))]∧St [] w0 w m83 [q19,[⟨b20,[s18.v,s19.v],33⟩]]) hl18 ⟨hF.sub ⟨rfl,rfl,rfl,rfl,rfl,rfl,rfl,rfl,trivial⟩,hS⟩ ?_ ?_
          ·clear hF hS
           rintro t_85 a w st ⟨hF,hS⟩ hb18
           unfold laws_FnTotals_l2 at hb18
           refine q_seq (q_region (q_x (v:=(.bool (decide (t_85<(goLen t_82.1))))) hF hS (ex_ibin rfl rfl rfl) rfl rfl fun a hF=>q_end (n_sq (q_seq ?_))))
           rcases bcase (decide (t_85<(goLen t_82.1))) with hc19 | hc19
           ·have hb18:=cond_f hc19 hb18
            refine q_cond_f hF rfl hc19 (q_exit (x_sq ?_))
            obtain rfl:=someI hb18
            exact ⟨nofun,.inl ⟨rfl,rfl,hF.sub ⟨rfl,rfl,rfl,rfl,trivial⟩,hS.mask [false,true,true]⟩⟩
           ·have hb18:=cond_t hc19 hb18
            refine q_cond_t hF rfl hc19 (q_skipc (n_sq (q_seq (q_block (q_seq (q_region ?_))))))
            obtain ⟨e_86,he_86,hb18⟩:=bindS hb18
            obtain ⟨vs87,at87,d87⟩:=h84.at he_86 1 rfl
            obtain ⟨s88,rfl,h88⟩:∃ s88:Sl,vs87=[s88.v]∧Rd m83 s88 e_86:=d87
            refine q_x (v:=(elP s84 (t_85.toNat * 1))) hF hS (ex_indexAddr underlying38 sz23 rfl rfl (h84.idx he_86)) rfl rfl fun a hF=>q_x (v:=s88.v) hF hS (ex_loadE1 0 underlying23 rfl rfl (at87.at 0 rfl) rfl rfl) rfl rfl fun a hF=>q_x (v:=s88.v) hF hS (ex_assign rfl) rfl rfl fun a hF=>q_end (n_sq (q_seq (q_region (q_x (v:=(iV 0)) hF hS (ex_assign rfl) rfl rfl fun a hF=>q_end (n_sq (q_seq (q_seq (q_region (q_x (v:=s88.v) hF hS (ex_move rfl) rfl rfl fun a hF=>q_x (v:=(iV (goLen e_86))) hF hS (ex_len underlying23 rfl h88.len) rfl rfl fun a hF=>q_x (v:=(iV 0)) hF hS (ex_move rfl) rfl rfl fun a hF=>q_end (n_sq (q_block ?_)))))))))))
            obtain ⟨o20,hl20,hb18⟩:=bindS hb18
            refine q_loop (fun (s:Int × Int) a w=>∃ sum_89,∃ t_90,s=(sum_89,t_90)∧Fr a 222 [(9,(.pointer (some ⟨b20,0,none⟩))),(30,(iV e_80)),(35,(iV sum_89)),(172,s19.v),(173,(iV (goLen t_16.1.Cells))),(174,(iV t_75)),(188,s84.v),(189,(iV (goLen t_82.1))),(190,(iV t_85)),(194,s88.v),(195,(iV (goLen e_86))),(196,(iV t_90))]∧St [] w0 w m83 [q84,q19,[⟨b20,[s18.v,s19.v],33⟩]]) (fun (o:(Int) ⊕ (Stp (Int) ((Unit) ⊕ (Stp (Int × impl_Cube) ((Unit) ⊕ (Bool)))))) e a w=>∃ sum_96,o=.inl sum_96∧e=.exit 4∧Fr a 222 [(9,(.pointer (some ⟨b20,0,none⟩))),(30,(iV e_80)),(35,(iV sum_96)),(172,s19.v),(173,(iV (goLen t_16.1.Cells))),(174,(iV t_75)),(188,s84.v),(189,(iV (goLen t_82.1))),(190,(iV t_85))]∧St [] w0 w m83 [q19,q84,[⟨b20,[s18.v,s19.v],33⟩]]) hl20 ⟨_,_,rfl,hF.sub ⟨rfl,rfl,rfl,rfl,rfl,rfl,rfl,rfl,rfl,rfl,rfl,rfl,trivial⟩,hS⟩ ?_ ?_
            ·clear hF hS
             rintro s a w st ⟨sum_89,t_90,rfl,hF,hS⟩ hb20
             unfold laws_FnTotals_l3 at hb20
             refine q_seq (q_region (q_x (v:=(.bool (decide (t_90<(goLen e_86))))) hF hS (ex_ibin rfl rfl rfl) rfl rfl fun a hF=>q_end (n_sq (q_seq ?_))))
             rcases bcase (decide (t_90<(goLen e_86))) with hc21 | hc21
             ·have hb20:=cond_f hc21 hb20
              refine q_cond_f hF rfl hc21 (q_exit (x_sq ?_))
              obtain rfl:=someI hb20
              exact ⟨nofun,.inl ⟨_,rfl,rfl,hF.sub ⟨rfl,rfl,rfl,rfl,rfl,rfl,rfl,rfl,rfl,trivial⟩,hS.sel [1,0,2] (by decide)⟩⟩
             ·have hb20:=cond_t hc21 hb20
              refine q_cond_t hF rfl hc21 (q_skipc (n_sq (q_seq (q_block (q_seq (q_region ?_))))))
              obtain ⟨e_91,he_91,hb20⟩:=bindS hb20
              obtain ⟨vs92,at92,d92⟩:=h88.at he_91 1 rfl
              obtain rfl:vs92=[(iV e_91)]:=d92
              refine q_x (v:=(elP s88 (t_90.toNat * 1))) hF hS (ex_indexAddr underlying23 sz3 rfl rfl (h88.idx he_91)) rfl rfl fun a hF=>q_x (v:=(iV e_91)) hF hS (ex_loadE1 0 underlying3 rfl rfl ((at92).at) rfl rfl) rfl rfl fun a hF=>q_x (v:=(iV e_91)) hF hS (ex_assign rfl) rfl rfl fun a hF=>q_end (n_sq (q_seq (q_seq ?_)))
              obtain ⟨t_93,hj22,hb20⟩:=bindS hb20
              refine q_join (fun a w=>Fr a 222 [(9,(.pointer (some ⟨b20,0,none⟩))),(30,(iV e_80)),(35,(iV sum_89)),(37,(iV e_91)),(172,s19.v),(173,(iV (goLen t_16.1.Cells))),(174,(iV t_75)),(188,s84.v),(189,(iV (goLen t_82.1))),(190,(iV t_85)),(194,s88.v),(195,(iV (goLen e_86))),(196,(iV t_90)),(208,(.bool t_93))]∧St [] w0 w m83 [q19,q84,[⟨b20,[s18.v,s19.v],33⟩]]) ?_ ?_
              ·refine q_region (q_x (v:=(iV e_91)) hF hS (ex_move rfl) rfl rfl fun a hF=>q_x (v:=(.bool (decide (e_91<0)))) hF hS (ex_ibin rfl rfl rfl) rfl rfl fun a hF=>q_x (v:=(.bool (decide (e_91<0)))) hF hS (ex_move rfl) rfl rfl fun a hF=>?_)
               rcases bcase (decide (e_91<0)) with hc23 | hc23
               ·have hj22:=cond_f hc23 hj22
                refine q_xg (v:=(iV e_91)) hF hS (ex_move rfl) (wanted_t hF rfl rfl rfl hc23) rfl fun a hF=>q_xg (v:=(.pointer (some ⟨b20,1,none⟩))) hF hS (ex_fieldAddr underlying33 rfl sz23 rfl rfl) (wanted_t hF rfl rfl rfl hc23) rfl fun a hF=>q_xg (v:=s19.v) hF hS (ex_load1 2 0 underlying23 rfl rfl rfl rfl) (wanted_t hF rfl rfl rfl hc23) rfl fun a hF=>q_xg (v:=(iV (goLen c_76.Cells))) hF hS (ex_len underlying23 rfl (h78.mono hm83.le).len) (wanted_t hF rfl rfl rfl hc23) rfl fun a hF=>q_xg (v:=(.bool (decide ((goLen c_76.Cells)≤e_91)))) hF hS (ex_ibin rfl rfl rfl) (wanted_t hF rfl rfl rfl hc23) rfl fun a hF=>q_x (v:=(.bool (decide ((goLen c_76.Cells)≤e_91)))) hF hS (ex_pick_f rfl rfl hc23) rfl rfl fun a hF=>q_end (n_jn ?_)
                obtain rfl:=someI hj22
                exact ⟨hF.sub ⟨rfl,rfl,rfl,rfl,rfl,rfl,rfl,rfl,rfl,rfl,rfl,rfl,rfl,rfl,trivial⟩,hS.sel [1,0,2] (by decide)⟩
               ·have hj22:=cond_t hc23 hj22
                refine q_skip hF (wanted_f hF rfl rfl rfl hc23 rfl) rfl fun a hF=>q_skip hF (wanted_f hF rfl rfl rfl hc23 rfl) rfl fun a hF=>q_skip hF (wanted_f hF rfl rfl rfl hc23 rfl) rfl fun a hF=>q_skip hF (wanted_f hF rfl rfl rfl hc23 rfl) rfl fun a hF=>q_skip hF (wanted_f hF rfl rfl rfl hc23 rfl) rfl fun a hF=>q_x (v:=(.bool true)) hF hS (ex_pick_t rfl rfl hc23) rfl rfl fun a hF=>q_end (n_jn ?_)
                obtain rfl:=someI hj22
                exact ⟨hF.sub ⟨rfl,rfl,rfl,rfl,rfl,rfl,rfl,rfl,rfl,rfl,rfl,rfl,rfl,rfl,trivial⟩,hS.sel [1,0,2] (by decide)⟩
              ·rintro a w ⟨hF,hS⟩
               refine n_sq ?_
               rcases bcase (t_93) with hc24 | hc24
               ·have hb20:=cond_f hc24 hb20
                refine q_cond_f hF rfl hc24 (q_skipc (n_sq (q_region (q_x (v:=(iV sum_89)) hF hS (ex_move rfl) rfl rfl fun a hF=>q_x (v:=(.pointer (some ⟨b20,1,none⟩))) hF hS (ex_fieldAddr underlying33 rfl sz23 rfl rfl) rfl rfl fun a hF=>q_x (v:=s19.v) hF hS (ex_load1 2 0 underlying23 rfl rfl rfl rfl) rfl rfl fun a hF=>q_x (v:=(iV e_91)) hF hS (ex_move rfl) rfl rfl fun a hF=>?_))))
                obtain ⟨e_94,he_94,hb20⟩:=bindS hb20
                obtain ⟨vs95,at95,d95⟩:=(h78.mono hm83.le).at he_94 1 rfl
                obtain rfl:vs95=[(iV e_94)]:=d95
                refine q_x (v:=(elP s19 (e_91.toNat * 1))) hF hS (ex_indexAddr underlying23 sz3 rfl rfl ((h78.mono hm83.le).idx he_94)) rfl rfl fun a hF=>q_x (v:=(iV e_94)) hF hS (ex_loadE1 0 underlying3 rfl rfl (at95.at 0 rfl) rfl rfl) rfl rfl fun a hF=>q_x (v:=(iV (w64 (sum_89 + e_94)))) hF hS (ex_ibin rfl rfl rfl) rfl rfl fun a hF=>q_x (v:=(iV (w64 (sum_89 + e_94)))) hF hS (ex_assign rfl) rfl rfl fun a hF=>q_end (n_ib (n_sq (q_region (q_x (v:=(iV (w64 (t_90 + 1)))) hF hS (ex_ibin rfl rfl rfl) rfl rfl fun a hF=>q_x (v:=(iV (w64 (t_90 + 1)))) hF hS (ex_move rfl) rfl rfl fun a hF=>q_end ?_))))
                obtain rfl:=someI hb20
                exact ⟨rfl,_,_,rfl,hF.sub ⟨rfl,rfl,rfl,rfl,rfl,rfl,rfl,rfl,rfl,rfl,rfl,rfl,trivial⟩,hS.sel [1,0,2] (by decide)⟩
               ·have hb20:=cond_t hc24 hb20
                refine q_cond_t hF rfl hc24 (q_seq (q_region (q_x (v:=(.bool false)) hF hS (ex_assign rfl) rfl rfl fun a hF=>q_end (n_sq (q_ret (r_sq (r_ib (r_sq ?_))))))))
                obtain rfl:=someI hb20
                refine ⟨nofun,.inr fun ho=>?_⟩
                subst ho
                refine r_ib (r_sq (r_ib (r_sq ?_)))
                obtain rfl:=someI hb18
                refine ⟨nofun,.inr fun ho=>?_⟩
                subst ho
                refine r_ib (r_ib (r_sq ?_))
                obtain rfl:=someI hb15
                refine ⟨nofun,.inr fun ho=>?_⟩
                subst ho
                refine r_ib (r_sq ?_)
                obtain rfl:=someI hr
                exact ret_of hF hS rfl (.tmp rfl .nil) rfl
            ·rintro e a w ⟨sum_96,rfl,rfl,hF,hS⟩
             refine x_ib (n_sq ?_)
             refine q_seq (q_region (q_x (v:=(iV sum_96)) hF hS (ex_move rfl) rfl rfl fun a hF=>q_x (v:=(iV e_80)) hF hS (ex_move rfl) rfl rfl fun a hF=>q_x (v:=(.bool (sum_96 != e_80))) hF hS (ex_ibin rfl rfl rfl) rfl rfl fun a hF=>q_end (n_sq ?_)))
             rcases bcase (sum_96 != e_80) with hc25 | hc25
             ·have hb18:=cond_f hc25 hb18
              refine q_cond_f hF rfl hc25 (q_skipc (n_ib (n_sq (q_region (q_x (v:=(iV (w64 (t_85 + 1)))) hF hS (ex_ibin rfl rfl rfl) rfl rfl fun a hF=>q_x (v:=(iV (w64 (t_85 + 1)))) hF hS (ex_move rfl) rfl rfl fun a hF=>q_end ?_)))))
              obtain rfl:=someI hb18
              exact ⟨rfl,hF.sub ⟨rfl,rfl,rfl,rfl,rfl,rfl,rfl,rfl,trivial⟩,hS.sel [1,0,2] (by decide)⟩
             ·have hb18:=cond_t hc25 hb18
              refine q_cond_t hF rfl hc25 (q_seq (q_region (q_x (v:=(.bool false)) hF hS (ex_assign rfl) rfl rfl fun a hF=>q_end (n_sq (q_ret (r_ib (r_sq ?_)))))))
              obtain rfl:=someI hb18
              refine ⟨nofun,.inr fun ho=>?_⟩
              subst ho
              refine r_ib (r_ib (r_sq ?_))
              obtain rfl:=someI hb15
              refine ⟨nofun,.inr fun ho=>?_⟩
              subst ho
              refine r_ib (r_sq ?_)
              obtain rfl:=someI hr
              exact ret_of hF hS rfl (.tmp rfl .nil) rfl
          ·rintro e a w ⟨rfl,rfl,hF,hS⟩
           refine x_ib (n_ib (n_sq ?_))
           refine q_region (q_x (v:=(iV (w64 (t_75 + 1)))) hF hS (ex_ibin rfl rfl rfl) rfl rfl fun a hF=>q_x (v:=(iV (w64 (t_75 + 1)))) hF hS (ex_move rfl) rfl rfl fun a hF=>q_end ?_)
           obtain rfl:=someI hb15
           exact ⟨rfl,m83,_,_,rfl,hF.sub ⟨rfl,rfl,rfl,rfl,trivial⟩,hS,(hm79.trans hm83),(h77.mono hm83.le),(h78.mono hm83.le),h78k⟩
         ·have hb15:=cond_t hc17 hb15
          refine q_cond_t hF rfl hc17 (q_seq (q_region (q_x (v:=(.bool false)) hF hS (ex_assign rfl) rfl rfl fun a hF=>q_end (n_sq (q_ret (r_sq (r_ib (r_sq ?_))))))))
          obtain rfl:=someI hb15
          refine ⟨nofun,.inr fun ho=>?_⟩
          subst ho
          refine r_ib (r_sq ?_)
          obtain rfl:=someI hr
          exact ret_of hF hS rfl (.tmp rfl .nil) rfl
       ·rintro e a w ⟨m97,rfl,rfl,hF,hS,hm97⟩
        refine x_ib (n_sq ?_)
        refine q_seq (q_region (q_x (v:=(.bool true)) hF hS (ex_assign rfl) rfl rfl fun a hF=>q_end (n_sq (q_ret ?_))))
        obtain rfl:=someI hr
        exact ret_of hF hS rfl (.tmp rfl .nil) rfl
      ·have hr:=cond_t hc14 hr
       refine q_cond_t hF rfl hc14 (q_seq (q_region (q_x (v:=(.bool false)) hF hS (ex_assign rfl) rfl rfl fun a hF=>q_end (n_sq (q_ret (r_sq ?_))))))
       obtain rfl:=someI hr
       exact ret_of hF hS rfl (.tmp rfl .nil) rfl
    ·have hr:=cond_t hc10 hr
     refine q_cond_t hF rfl hc10 (q_seq (q_region (q_x (v:=(.bool true)) hF hS (ex_assign rfl) rfl rfl fun a hF=>q_end (n_sq (q_ret (r_sq ?_))))))
     obtain rfl:=someI hr
     exact ret_of hF hS rfl (.tmp rfl .nil) rfl
   ·have hr:=cond_t hc9 hr
    refine q_cond_t hF rfl hc9 (q_seq (q_region (q_x (v:=(.bool false)) hF hS (ex_assign rfl) rfl rfl fun a hF=>q_end (n_sq (q_ret (r_sq ?_))))))
    obtain rfl:=someI hr
    exact ret_of hF hS rfl (.tmp rfl .nil) rfl
 ·have hr:=cond_t hc1 hr
  refine q_cond_t hF rfl hc1 (q_seq (q_region (q_x (v:=(.bool true)) hF hS (ex_assign rfl) rfl rfl fun a hF=>q_end (n_sq (q_ret (r_sq ?_))))))
  obtain rfl:=someI hr
  exact ret_of hF hS rfl (.tmp rfl .nil) rfl

end Go.Proofs.YtmlegfogjdhhkaaGreat
