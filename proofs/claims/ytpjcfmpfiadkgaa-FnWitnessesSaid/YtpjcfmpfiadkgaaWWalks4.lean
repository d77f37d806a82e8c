/- The walks of the functions: each returns what its plain function says. -/
import Derived.Test.YtpjcfmpfiadkgaaWWalks3
namespace Go.Proofs.Ytpjcfmpfiadkgaa
open Go.Gx Go.Gx.F Go.RowKit
set_option linter.all false
set_option maxRecDepth 10000


theorem c_spec_tHigh (p_t : impl_Transport) (p_i : Int) (p_j : Int) (r : Int) (hr : spec_tHigh p_t p_i p_j = some r) (w0 : World) (m : Mem) (hv : Vis m w0) (s1 : Sl) (h1 : Rd m s1 p_t.Rows) (s2 : Sl) (h2 : Rd m s2 p_t.Cols) (s3 : Sl) (h3 : Rd m s3 p_t.Lo) (s4 : Sl) (h4 : Rd m s4 p_t.Hi) :
  Ret Try.prog 165 [(.agg #[s1.v,s2.v,s3.v,s4.v]),(iV p_i),(iV p_j)] w0 (fun v _=>v = (iV r)):=by
 unfold spec_tHigh at hr
 refine ret_start Try.func165 rfl 58 rfl rfl m hv fun a hF hS=>q_seq (q_region (q_box (cs:=[s1.v,s2.v,s3.v,s4.v]) hF hS rfl rfl rfl fun a w b5 hF hS=>q_x (v:=(iV 0)) hF hS (ex_assign rfl) rfl rfl fun a hF=>q_end (n_sq (q_seq (e_region ⟨[],[],m⟩ mixed fun w' hw'=>?_)))))
 have hS:=hS.below hw'
 refine e_p (v:=(.pointer (some ⟨b5,2,none⟩))) 0 hF rfl (ex_fieldAddr Try.underlying50 rfl sz23 rfl rfl) rfl rfl (by kernel_rfl) (by kernel_rfl) (by kernel_rfl) fun a hF=>e_x (v:=s3.v) 1 hF hS rfl (ex_load1 0 0 Try.underlying23 rfl rfl rfl rfl) rfl rfl (by kernel_rfl) (by kernel_rfl) (by kernel_rfl) (by kernel_rfl) fun a hF=>e_p (v:=(iV p_i)) 2 hF rfl (ex_move rfl) rfl rfl (by kernel_rfl) (by kernel_rfl) (by kernel_rfl) fun a hF=>?_
 obtain ⟨e_6,he_6,hr⟩:=bindS hr
 obtain ⟨vs7,at7,d7⟩:=h3.at he_6 1 rfl
 obtain ⟨s8,rfl,h8⟩ : ∃ s8 : Sl,vs7 = [s8.v]∧Rd m s8 e_6:=d7
 refine e_p (v:=(elP s3 (p_i.toNat * 1))) 3 hF rfl (ex_indexAddr Try.underlying23 sz28 rfl rfl (h3.idx he_6)) rfl rfl (by kernel_rfl) (by kernel_rfl) (by kernel_rfl) fun a hF=>e_xm (v:=s8.v) 4 hF hS (Mem.le.refl _) rfl (ex_loadE1 0 Try.underlying28 rfl rfl ((at7).at) rfl rfl) rfl rfl (by kernel_rfl) (by kernel_rfl) (by kernel_rfl) fun a hF=>e_p (v:=(iV p_j)) 5 hF rfl (ex_move rfl) rfl rfl (by kernel_rfl) (by kernel_rfl) (by kernel_rfl) fun a hF=>?_
 obtain ⟨e_9,he_9,hr⟩:=bindS hr
 obtain ⟨vs10,at10,d10⟩:=h8.at he_9 1 rfl
 obtain rfl : vs10 = [(iV e_9)]:=d10
 refine e_p (v:=(elP s8 (p_j.toNat * 1))) 6 hF rfl (ex_indexAddr Try.underlying28 sz3 rfl rfl (h8.idx he_9)) rfl rfl (by kernel_rfl) (by kernel_rfl) (by kernel_rfl) fun a hF=>e_xm (v:=(iV e_9)) 7 hF hS (Mem.le.refl _) rfl (ex_loadE1 0 Try.underlying3 rfl rfl ((at10).at) rfl rfl) rfl rfl (by kernel_rfl) (by kernel_rfl) (by kernel_rfl) fun a hF=>e_p (v:=(.pointer (some ⟨b5,3,none⟩))) 8 hF rfl (ex_fieldAddr Try.underlying50 rfl sz23 rfl rfl) rfl rfl (by kernel_rfl) (by kernel_rfl) (by kernel_rfl) fun a hF=>e_x (v:=s4.v) 9 hF hS rfl (ex_load1 0 0 Try.underlying23 rfl rfl rfl rfl) rfl rfl (by kernel_rfl) (by kernel_rfl) (by kernel_rfl) (by kernel_rfl) fun a hF=>e_p (v:=(iV p_i)) 10 hF rfl (ex_move rfl) rfl rfl (by kernel_rfl) (by kernel_rfl) (by kernel_rfl) fun a hF=>?_
 obtain ⟨e_11,he_11,hr⟩:=bindS hr
 obtain ⟨vs12,at12,d12⟩:=h4.at he_11 1 rfl
 obtain ⟨s13,rfl,h13⟩ : ∃ s13 : Sl,vs12 = [s13.v]∧Rd m s13 e_11:=d12
 refine e_p (v:=(elP s4 (p_i.toNat * 1))) 11 hF rfl (ex_indexAddr Try.underlying23 sz28 rfl rfl (h4.idx he_11)) rfl rfl (by kernel_rfl) (by kernel_rfl) (by kernel_rfl) fun a hF=>e_xm (v:=s13.v) 12 hF hS (Mem.le.refl _) rfl (ex_loadE1 0 Try.underlying28 rfl rfl ((at12).at) rfl rfl) rfl rfl (by kernel_rfl) (by kernel_rfl) (by kernel_rfl) fun a hF=>e_p (v:=(iV p_j)) 13 hF rfl (ex_move rfl) rfl rfl (by kernel_rfl) (by kernel_rfl) (by kernel_rfl) fun a hF=>?_
 obtain ⟨e_14,he_14,hr⟩:=bindS hr
 obtain ⟨vs15,at15,d15⟩:=h13.at he_14 1 rfl
 obtain rfl : vs15 = [(iV e_14)]:=d15
 refine e_p (v:=(elP s13 (p_j.toNat * 1))) 14 hF rfl (ex_indexAddr Try.underlying28 sz3 rfl rfl (h13.idx he_14)) rfl rfl (by kernel_rfl) (by kernel_rfl) (by kernel_rfl) fun a hF=>e_xm (v:=(iV e_14)) 15 hF hS (Mem.le.refl _) rfl (ex_loadE1 0 Try.underlying3 rfl rfl ((at15).at) rfl rfl) rfl rfl (by kernel_rfl) (by kernel_rfl) (by kernel_rfl) fun a hF=>e_p (v:=(iV e_9)) 16 hF rfl (ex_assign rfl) rfl rfl (by kernel_rfl) (by kernel_rfl) (by kernel_rfl) fun a hF=>e_p (v:=(iV e_14)) 17 hF rfl (ex_assign rfl) rfl rfl (by kernel_rfl) (by kernel_rfl) (by kernel_rfl) fun a hF=>e_end (by kernel_rfl) (n_sq ?_) _
 refine q_seq (q_block ?_)
 obtain ⟨lo_38,hl1,hr⟩:=bindS hr
 refine q_loop (fun (s : Int × Int) a w=>∃ (m18 : Mem),∃ lo_16,∃ hi_17,s = (lo_16,hi_17)∧Fr a 58 [(1,(iV p_i)),(2,(iV p_j)),(3,(.pointer (some ⟨b5,0,none⟩))),(7,(iV lo_16)),(8,(iV hi_17))]∧St [] w0 w m18 [[⟨b5,[s1.v,s2.v,s3.v,s4.v],50⟩]]∧MLe [] w0.heap.size m m18) (fun (lo_38 : Int) e a w=>∃ (m39 : Mem),e = .exit 0∧Fr a 58 [(7,(iV lo_38))]∧St [] w0 w m39 []∧MLe [] w0.heap.size m m39) hl1 ⟨m,_,_,rfl,hF.sub ⟨rfl,rfl,rfl,rfl,rfl,trivial⟩,hS,(MLe.refl _ _)⟩ ?_ ?_
 ·clear hF hS
  rintro s a w st ⟨m18,lo_16,hi_17,rfl,hF,hS,hm18⟩ hb1
  unfold spec_tHigh_l1 at hb1
  refine q_seq (q_seq (q_region (q_x (v:=(iV lo_16)) hF hS (ex_move rfl) rfl rfl fun a hF=>q_x (v:=(iV hi_17)) hF hS (ex_move rfl) rfl rfl fun a hF=>q_x (v:=(.bool (decide (lo_16 < hi_17)))) hF hS (ex_ibin rfl rfl rfl) rfl rfl fun a hF=>q_end (n_sq ?_))))
  rcases bcase (decide (lo_16 < hi_17)) with hc2 | hc2
  ·have hb1:=cond_f hc2 hb1
   refine q_cond_f hF rfl hc2 (q_exit (x_sq ?_))
   obtain rfl:=someI hb1
   exact ⟨nofun,.inl ⟨m18,rfl,hF.sub ⟨rfl,trivial⟩,hS.mask [false],hm18⟩⟩
  ·have hb1:=cond_t hc2 hb1
   refine q_cond_t hF rfl hc2 (q_skipc (n_sq (q_block (q_seq (q_region (q_x (v:=(iV lo_16)) hF hS (ex_move rfl) rfl rfl fun a hF=>q_x (v:=(iV hi_17)) hF hS (ex_move rfl) rfl rfl fun a hF=>q_x (v:=(iV (w64 (lo_16 + hi_17)))) hF hS (ex_ibin rfl rfl rfl) rfl rfl fun a hF=>q_x (v:=(iV (w64 ((w64 (lo_16 + hi_17)) + 1)))) hF hS (ex_ibin rfl rfl rfl) rfl rfl fun a hF=>?_))))))
   obtain ⟨t_19,ht_19,hb1⟩:=bindS hb1
   refine q_x (v:=(iV t_19)) hF hS (ex_quo rfl rfl ht_19) rfl rfl fun a hF=>q_x (v:=(iV t_19)) hF hS (ex_assign rfl) rfl rfl fun a hF=>q_end (n_sq (q_seq (e_region ⟨[],[],m18⟩ mixed fun w' hw'=>?_)))
   have hS:=hS.below hw'
   refine e_x (v:=(.agg #[s1.v,s2.v,s3.v,s4.v])) 0 hF hS rfl (ex_loadA (vs:=[s1.v,s2.v,s3.v,s4.v]) 0 0 Try.underlying50 rfl sz50 rfl rfl rfl rfl) rfl rfl (by kernel_rfl) (by kernel_rfl) (by kernel_rfl) (by kernel_rfl) fun a hF=>e_p (v:=(iV p_i)) 1 hF rfl (ex_move rfl) rfl rfl (by kernel_rfl) (by kernel_rfl) (by kernel_rfl) fun a hF=>e_p (v:=(iV p_j)) 2 hF rfl (ex_move rfl) rfl rfl (by kernel_rfl) (by kernel_rfl) (by kernel_rfl) fun a hF=>e_p (v:=(iV t_19)) 3 hF rfl (ex_move rfl) rfl rfl (by kernel_rfl) (by kernel_rfl) (by kernel_rfl) fun a hF=>e_p (v:=(.pointer (some ⟨b5,3,none⟩))) 4 hF rfl (ex_fieldAddr Try.underlying50 rfl sz23 rfl rfl) rfl rfl (by kernel_rfl) (by kernel_rfl) (by kernel_rfl) fun a hF=>e_x (v:=s4.v) 5 hF hS rfl (ex_load1 0 0 Try.underlying23 rfl rfl rfl rfl) rfl rfl (by kernel_rfl) (by kernel_rfl) (by kernel_rfl) (by kernel_rfl) fun a hF=>e_p (v:=(iV p_i)) 6 hF rfl (ex_move rfl) rfl rfl (by kernel_rfl) (by kernel_rfl) (by kernel_rfl) fun a hF=>?_
   obtain ⟨e_20,he_20,hb1⟩:=bindS hb1
   obtain ⟨vs21,at21,d21⟩:=h4.at he_20 1 rfl
   obtain ⟨s22,rfl,h22⟩ : ∃ s22 : Sl,vs21 = [s22.v]∧Rd m s22 e_20:=d21
   refine e_p (v:=(elP s4 (p_i.toNat * 1))) 7 hF rfl (ex_indexAddr Try.underlying23 sz28 rfl rfl ((h4.mono hm18.le).idx he_20)) rfl rfl (by kernel_rfl) (by kernel_rfl) (by kernel_rfl) fun a hF=>e_xm (v:=s22.v) 8 hF hS (Mem.le.refl _) rfl (ex_loadE1 0 Try.underlying28 rfl rfl (((at21.mono hm18.le)).at) rfl rfl) rfl rfl (by kernel_rfl) (by kernel_rfl) (by kernel_rfl) fun a hF=>e_p (v:=(iV p_j)) 9 hF rfl (ex_move rfl) rfl rfl (by kernel_rfl) (by kernel_rfl) (by kernel_rfl) fun a hF=>?_
   obtain ⟨e_23,he_23,hb1⟩:=bindS hb1
   obtain ⟨vs24,at24,d24⟩:=h22.at he_23 1 rfl
   obtain rfl : vs24 = [(iV e_23)]:=d24
   refine e_p (v:=(elP s22 (p_j.toNat * 1))) 10 hF rfl (ex_indexAddr Try.underlying28 sz3 rfl rfl ((h22.mono hm18.le).idx he_23)) rfl rfl (by kernel_rfl) (by kernel_rfl) (by kernel_rfl) fun a hF=>e_xm (v:=(iV e_23)) 11 hF hS (Mem.le.refl _) rfl (ex_loadE1 0 Try.underlying3 rfl rfl (((at24.mono hm18.le)).at) rfl rfl) rfl rfl (by kernel_rfl) (by kernel_rfl) (by kernel_rfl) fun a hF=>e_one 12 (by kernel_rfl) ?_
   obtain ⟨t_25,ht_25,hb1⟩:=bindS hb1
   refine e_call (vs:=[(.agg #[s1.v,s2.v,s3.v,s4.v]),(iV p_i),(iV p_j),(iV t_19),(iV e_23)]) hF hS rfl Try.func121 (by kernel_rfl) rfl rfl rfl (c_spec_tWith p_t p_i p_j t_19 e_23 t_25 ht_25 _ m18 hS.vis s1 (h1.mono hm18.le) s2 (h2.mono hm18.le) s3 (h3.mono hm18.le) s4 (h4.mono hm18.le)) ?_
   have hT:=hS
   rintro a w _ ⟨m26,q29,q30,s27,s28,s29,s30,rfl,hm26,hR26,h27,h28,h29,h30⟩ hF hS2
   have hS : St _ _ _ _ [q29,q30,[⟨b5,[s1.v,s2.v,s3.v,s4.v],50⟩]]:=hS.join hR26 hm26
   have hm26:=MLe.weakX (O0:=[]) hT hm26
   refine e_one 13 (by kernel_rfl) ?_
   obtain ⟨m31,hm31,hS,hz31⟩:=hS.freeze
   have h31:=h29.froz hm31.le hz31
   obtain ⟨m32,hm32,hS,hz32⟩:=hS.freeze
   have h32:=(h30.mono hm31.le).froz hm32.le hz32
   obtain ⟨t_33,ht_33,hb1⟩:=bindS hb1
   refine e_call (vs:=[(.agg #[s27.v,s28.v,s29.v,s30.v])]) hF hS rfl Try.func158 (by kernel_rfl) rfl rfl rfl (c_spec_tFeasible t_25 t_33 ht_33 _ m32 hS.vis s27 ((h27.mono hm31.le).mono hm32.le) s28 ((h28.mono hm31.le).mono hm32.le) s29 (h31.mono hm32.le) s30 h32) ?_
   have hT:=hS
   rintro a w _ ⟨m34,q35,s35,rfl,hm34,hR34,h35⟩ hF hS2
   have hS : St _ _ _ _ [q35,[⟨b5,[s1.v,s2.v,s3.v,s4.v],50⟩]]:=hS.join hR34 hm34
   have hm34:=MLe.weakX (O0:=[]) hT hm34
   refine e_p (v:=(.tuple #[s35.v,(.bool t_33.2)])) 14 hF rfl (ex_move rfl) rfl rfl (by kernel_rfl) (by kernel_rfl) (by kernel_rfl) fun a hF=>e_p (v:=s35.v) 15 hF rfl (ex_extract rfl rfl) rfl rfl (by kernel_rfl) (by kernel_rfl) (by kernel_rfl) fun a hF=>e_p (v:=(.bool t_33.2)) 16 hF rfl (ex_extract rfl rfl) rfl rfl (by kernel_rfl) (by kernel_rfl) (by kernel_rfl) fun a hF=>e_p (v:=s35.v) 17 hF rfl (ex_assign rfl) rfl rfl (by kernel_rfl) (by kernel_rfl) (by kernel_rfl) fun a hF=>e_p (v:=(.bool t_33.2)) 18 hF rfl (ex_assign rfl) rfl rfl (by kernel_rfl) (by kernel_rfl) (by kernel_rfl) fun a hF=>e_end (by kernel_rfl) (n_sq ?_) _
   refine q_seq (q_region (q_x (v:=(.bool t_33.2)) hF hS (ex_move rfl) rfl rfl fun a hF=>q_end (n_sq ?_)))
   obtain ⟨j3,hj3,hb1⟩:=bindS hb1
   refine q_join (fun a w=>∃ lo_36,∃ hi_37,j3 = (lo_36,hi_37)∧Fr a 58 [(1,(iV p_i)),(2,(iV p_j)),(3,(.pointer (some ⟨b5,0,none⟩))),(7,(iV lo_36)),(8,(iV hi_37))]∧St [] w0 w m34 [[⟨b5,[s1.v,s2.v,s3.v,s4.v],50⟩]]) ?_ ?_
   ·rcases bcase (t_33.2) with hc4 | hc4
    ·have hj3:=cond_f hc4 hj3
     refine q_cond_f hF rfl hc4 (q_region (q_x (v:=(iV t_19)) hF hS (ex_move rfl) rfl rfl fun a hF=>q_x (v:=(iV (w64 (t_19 - 1)))) hF hS (ex_ibin rfl rfl rfl) rfl rfl fun a hF=>q_x (v:=(iV (w64 (t_19 - 1)))) hF hS (ex_assign rfl) rfl rfl fun a hF=>q_end (n_jn ?_)))
     obtain rfl:=someI hj3
     exact ⟨_,_,rfl,hF.sub ⟨rfl,rfl,rfl,rfl,rfl,trivial⟩,hS.mask [false,true]⟩
    ·have hj3:=cond_t hc4 hj3
     refine q_cond_t hF rfl hc4 (q_region (q_x (v:=(iV t_19)) hF hS (ex_move rfl) rfl rfl fun a hF=>q_x (v:=(iV t_19)) hF hS (ex_assign rfl) rfl rfl fun a hF=>q_end (n_jn ?_)))
     obtain rfl:=someI hj3
     exact ⟨_,_,rfl,hF.sub ⟨rfl,rfl,rfl,rfl,rfl,trivial⟩,hS.mask [false,true]⟩
   ·rintro a w ⟨lo_36,hi_37,rfl,hF,hS⟩
    refine n_ib ?_
    obtain rfl:=someI hb1
    exact ⟨rfl,m34,_,_,rfl,hF.sub ⟨rfl,rfl,rfl,rfl,rfl,trivial⟩,hS,((((hm18.trans hm26).trans hm31).trans hm32).trans hm34)⟩
 ·rintro e a w ⟨m39,rfl,hF,hS,hm39⟩
  refine x_ib (n_sq ?_)
  refine q_seq (q_region (q_x (v:=(iV lo_38)) hF hS (ex_move rfl) rfl rfl fun a hF=>q_x (v:=(iV lo_38)) hF hS (ex_assign rfl) rfl rfl fun a hF=>q_end (n_sq (q_ret ?_))))
  obtain rfl:=someI hr
  exact ret_of hF hS rfl (.tmp rfl .nil) rfl

theorem c_spec_tRange (p_t : impl_Transport) (p_i : Int) (p_j : Int) (r : Int × Int × Bool) (hr : spec_tRange p_t p_i p_j = some r) (w0 : World) (m : Mem) (hv : Vis m w0) (s1 : Sl) (h1 : Rd m s1 p_t.Rows) (s2 : Sl) (h2 : Rd m s2 p_t.Cols) (s3 : Sl) (h3 : Rd m s3 p_t.Lo) (s4 : Sl) (h4 : Rd m s4 p_t.Hi) :
  Ret Try.prog 119 [(.agg #[s1.v,s2.v,s3.v,s4.v]),(iV p_i),(iV p_j)] w0 (fun v _=>v = (.tuple #[(iV r.1),(iV r.2.1),(.bool r.2.2)])):=by
 unfold spec_tRange at hr
 refine ret_start Try.func119 rfl 26 rfl rfl m hv fun a hF hS=>q_seq (q_region (q_box (cs:=[s1.v,s2.v,s3.v,s4.v]) hF hS rfl rfl rfl fun a w b5 hF hS=>q_x (v:=(iV 0)) hF hS (ex_assign rfl) rfl rfl fun a hF=>q_x (v:=(iV 0)) hF hS (ex_assign rfl) rfl rfl fun a hF=>q_x (v:=(.bool false)) hF hS (ex_assign rfl) rfl rfl fun a hF=>q_end (n_sq (q_seq (q_seq (q_region (q_x (v:=(.agg #[s1.v,s2.v,s3.v,s4.v])) hF hS (ex_loadA (vs:=[s1.v,s2.v,s3.v,s4.v]) 0 0 Try.underlying50 rfl sz50 rfl rfl rfl rfl) rfl rfl fun a hF=>?_)))))))
 obtain ⟨t_6,ht_6,hr⟩:=bindS hr
 refine q_call (vs:=[(.agg #[s1.v,s2.v,s3.v,s4.v])]) hF hS Try.func158 (by kernel_rfl) rfl rfl rfl (c_spec_tFeasible p_t t_6 ht_6 _ m hS.vis s1 h1 s2 h2 s3 h3 s4 h4) ?_
 have hT:=hS
 rintro a w _ ⟨m7,q8,s8,rfl,hm7,hR7,h8⟩ hF hS2
 have hS : St _ _ _ _ [q8,[⟨b5,[s1.v,s2.v,s3.v,s4.v],50⟩]]:=hS.join hR7 hm7
 have hm7:=MLe.weakX (O0:=[]) hT hm7
 refine q_x (v:=(.tuple #[s8.v,(.bool t_6.2)])) hF hS (ex_move rfl) rfl rfl fun a hF=>q_x (v:=s8.v) hF hS (ex_extract rfl rfl) rfl rfl fun a hF=>q_x (v:=(.bool t_6.2)) hF hS (ex_extract rfl rfl) rfl rfl fun a hF=>q_x (v:=s8.v) hF hS (ex_assign rfl) rfl rfl fun a hF=>q_x (v:=(.bool t_6.2)) hF hS (ex_assign rfl) rfl rfl fun a hF=>q_end (n_sq (q_seq (q_region (q_x (v:=(.bool t_6.2)) hF hS (ex_move rfl) rfl rfl fun a hF=>q_x (v:=(.bool (!t_6.2))) hF hS (ex_not rfl) rfl rfl fun a hF=>q_end (n_sq ?_)))))
 rcases bcase (!t_6.2) with hc1 | hc1
 ·have hr:=cond_f hc1 hr
  refine q_cond_f hF rfl hc1 (q_skipc (n_sq (q_seq (e_region ⟨[],[],m7⟩ mixed fun w' hw'=>?_))))
  have hS:=hS.below hw'
  refine e_x (v:=(.agg #[s1.v,s2.v,s3.v,s4.v])) 0 hF hS rfl (ex_loadA (vs:=[s1.v,s2.v,s3.v,s4.v]) 1 0 Try.underlying50 rfl sz50 rfl rfl rfl rfl) rfl rfl (by kernel_rfl) (by kernel_rfl) (by kernel_rfl) (by kernel_rfl) fun a hF=>e_p (v:=(iV p_i)) 1 hF rfl (ex_move rfl) rfl rfl (by kernel_rfl) (by kernel_rfl) (by kernel_rfl) fun a hF=>e_p (v:=(iV p_j)) 2 hF rfl (ex_move rfl) rfl rfl (by kernel_rfl) (by kernel_rfl) (by kernel_rfl) fun a hF=>e_x (v:=(.agg #[s1.v,s2.v,s3.v,s4.v])) 4 hF hS rfl (ex_loadA (vs:=[s1.v,s2.v,s3.v,s4.v]) 1 0 Try.underlying50 rfl sz50 rfl rfl rfl rfl) rfl rfl (by kernel_rfl) (by kernel_rfl) (by kernel_rfl) (by kernel_rfl) fun a hF=>e_p (v:=(iV p_i)) 5 hF rfl (ex_move rfl) rfl rfl (by kernel_rfl) (by kernel_rfl) (by kernel_rfl) fun a hF=>e_p (v:=(iV p_j)) 6 hF rfl (ex_move rfl) rfl rfl (by kernel_rfl) (by kernel_rfl) (by kernel_rfl) fun a hF=>e_one 3 (by kernel_rfl) ?_
  obtain ⟨t_12,ht_12,hr⟩:=bindS hr
  refine e_call (vs:=[(.agg #[s1.v,s2.v,s3.v,s4.v]),(iV p_i),(iV p_j)]) hF hS rfl Try.func164 (by kernel_rfl) rfl rfl rfl (c_spec_tLow p_t p_i p_j t_12 ht_12 _ m7 hS.vis s1 (h1.mono hm7.le) s2 (h2.mono hm7.le) s3 (h3.mono hm7.le) s4 (h4.mono hm7.le)) ?_
  rintro a w _ rfl hF hS
  refine e_one 7 (by kernel_rfl) ?_
  obtain ⟨t_13,ht_13,hr⟩:=bindS hr
  refine e_call (vs:=[(.agg #[s1.v,s2.v,s3.v,s4.v]),(iV p_i),(iV p_j)]) hF hS rfl Try.func165 (by kernel_rfl) rfl rfl rfl (c_spec_tHigh p_t p_i p_j t_13 ht_13 _ m7 hS.vis s1 (h1.mono hm7.le) s2 (h2.mono hm7.le) s3 (h3.mono hm7.le) s4 (h4.mono hm7.le)) ?_
  rintro a w _ rfl hF hS
  refine e_p (v:=(iV t_12)) 8 hF rfl (ex_assign rfl) rfl rfl (by kernel_rfl) (by kernel_rfl) (by kernel_rfl) fun a hF=>e_p (v:=(iV t_13)) 9 hF rfl (ex_assign rfl) rfl rfl (by kernel_rfl) (by kernel_rfl) (by kernel_rfl) fun a hF=>e_p (v:=(.bool true)) 10 hF rfl (ex_assign rfl) rfl rfl (by kernel_rfl) (by kernel_rfl) (by kernel_rfl) fun a hF=>e_end (by kernel_rfl) (n_sq (q_ret ?_)) _
  obtain rfl:=someI hr
  exact ret_of hF hS rfl (.tmp rfl (.tmp rfl (.tmp rfl .nil))) rfl
 ·have hr:=cond_t hc1 hr
  refine q_cond_t hF rfl hc1 (q_seq (q_region (q_x (v:=(iV 0)) hF hS (ex_assign rfl) rfl rfl fun a hF=>q_x (v:=(iV 0)) hF hS (ex_assign rfl) rfl rfl fun a hF=>q_x (v:=(.bool false)) hF hS (ex_assign rfl) rfl rfl fun a hF=>q_end (n_sq (q_ret (r_sq ?_))))))
  obtain rfl:=someI hr
  exact ret_of hF hS rfl (.tmp rfl (.tmp rfl (.tmp rfl .nil))) rfl

theorem c_spec_tFirst (p_t : impl_Transport) (r : (List (List Int)) × Bool) (hr : spec_tFirst p_t = some r) (w0 : World) (m : Mem) (hv : Vis m w0) (s1 : Sl) (h1 : Rd m s1 p_t.Rows) (s2 : Sl) (h2 : Rd m s2 p_t.Cols) (s3 : Sl) (h3 : Rd m s3 p_t.Lo) (s4 : Sl) (h4 : Rd m s4 p_t.Hi) :
  Ret Try.prog 120 [(.agg #[s1.v,s2.v,s3.v,s4.v])] w0 (fun v w=>∃ (m' : Mem) (q0' : Piece) (s0' : Sl),v = (.tuple #[s0'.v,(.bool r.2)])∧MLe [] w0.heap.size m m'∧St [] w0 w m' [q0']∧OwnD m' 28 3 q0' s0' r.1):=by
 unfold spec_tFirst at hr
 refine ret_start Try.func120 rfl 43 rfl rfl m hv fun a hF hS=>q_seq (q_region (q_box (cs:=[s1.v,s2.v,s3.v,s4.v]) hF hS rfl rfl rfl fun a w b5 hF hS=>q_x (v:=nilS.v) hF hS (ex_assign rfl) rfl rfl fun a hF=>q_x (v:=(.bool false)) hF hS (ex_assign rfl) rfl rfl fun a hF=>q_end (n_sq (q_seq (q_seq (q_region (q_x (v:=(.agg #[s1.v,s2.v,s3.v,s4.v])) hF hS (ex_loadA (vs:=[s1.v,s2.v,s3.v,s4.v]) 0 0 Try.underlying50 rfl sz50 rfl rfl rfl rfl) rfl rfl fun a hF=>?_)))))))
 obtain ⟨t_6,ht_6,hr⟩:=bindS hr
 refine q_call (vs:=[(.agg #[s1.v,s2.v,s3.v,s4.v])]) hF hS Try.func158 (by kernel_rfl) rfl rfl rfl (c_spec_tFeasible p_t t_6 ht_6 _ m hS.vis s1 h1 s2 h2 s3 h3 s4 h4) ?_
 have hT:=hS
 rintro a w _ ⟨m7,q8,s8,rfl,hm7,hR7,h8⟩ hF hS2
 have hS : St _ _ _ _ [q8,[⟨b5,[s1.v,s2.v,s3.v,s4.v],50⟩]]:=hS.join hR7 hm7
 have hm7:=MLe.weakX (O0:=[]) hT hm7
 refine q_x (v:=(.tuple #[s8.v,(.bool t_6.2)])) hF hS (ex_move rfl) rfl rfl fun a hF=>q_x (v:=s8.v) hF hS (ex_extract rfl rfl) rfl rfl fun a hF=>q_x (v:=(.bool t_6.2)) hF hS (ex_extract rfl rfl) rfl rfl fun a hF=>q_x (v:=s8.v) hF hS (ex_assign rfl) rfl rfl fun a hF=>q_x (v:=(.bool t_6.2)) hF hS (ex_assign rfl) rfl rfl fun a hF=>q_end (n_sq (q_seq (q_region (q_x (v:=(.bool t_6.2)) hF hS (ex_move rfl) rfl rfl fun a hF=>q_x (v:=(.bool (!t_6.2))) hF hS (ex_not rfl) rfl rfl fun a hF=>q_end (n_sq ?_)))))
 rcases bcase (!t_6.2) with hc1 | hc1
 ·have hr:=cond_f hc1 hr
  refine q_cond_f hF rfl hc1 (q_skipc (n_sq (q_seq (q_seq (q_region (q_x (v:=(.pointer (some ⟨b5,0,none⟩))) hF hS (ex_fieldAddr Try.underlying50 rfl sz28 rfl rfl) rfl rfl fun a hF=>q_x (v:=s1.v) hF hS (ex_load1 1 0 Try.underlying28 rfl rfl rfl rfl) rfl rfl fun a hF=>q_x (v:=(iV (goLen p_t.Rows))) hF hS (ex_len Try.underlying28 rfl (h1.mono hm7.le).len) rfl rfl fun a hF=>q_x (v:=(iV 0)) hF hS (ex_move rfl) rfl rfl fun a hF=>q_end (n_sq (q_block ?_))))))))
  obtain ⟨t_36,hl2,hr⟩:=bindS hr
  refine q_loop (fun (s : Int × impl_Transport) a w=>∃ (m15 : Mem),∃ (s11 : Sl),∃ (s12 : Sl),∃ (s13 : Sl),∃ (s14 : Sl),∃ t_9,∃ t_10,s = (t_9,t_10)∧Fr a 43 [(1,(.pointer (some ⟨b5,0,none⟩))),(18,(iV (goLen p_t.Rows))),(19,(iV t_9))]∧St [] w0 w m15 [[⟨b5,[s11.v,s12.v,s13.v,s14.v],50⟩]]∧MLe [] w0.heap.size m7 m15∧Rd m15 s11 t_10.Rows∧Rd m15 s12 t_10.Cols∧Rd m15 s13 t_10.Lo∧Rd m15 s14 t_10.Hi) (fun (t_36 : impl_Transport) e a w=>∃ (m41 : Mem),∃ (s37 : Sl),∃ (s38 : Sl),∃ (s39 : Sl),∃ (s40 : Sl),e = .exit 0∧Fr a 43 [(1,(.pointer (some ⟨b5,0,none⟩)))]∧St [] w0 w m41 [[⟨b5,[s37.v,s38.v,s39.v,s40.v],50⟩]]∧MLe [] w0.heap.size m7 m41∧Rd m41 s37 t_36.Rows∧Rd m41 s38 t_36.Cols∧Rd m41 s39 t_36.Lo∧Rd m41 s40 t_36.Hi) hl2 ⟨m7,s1,s2,s3,s4,_,_,rfl,hF.sub ⟨rfl,rfl,rfl,trivial⟩,hS.mask [false,true],(MLe.refl _ _),(h1.mono hm7.le),(h2.mono hm7.le),(h3.mono hm7.le),(h4.mono hm7.le)⟩ ?_ ?_
  ·clear hF hS
   rintro s a w st ⟨m15,s11,s12,s13,s14,t_9,t_10,rfl,hF,hS,hm15,h11,h12,h13,h14⟩ hb2
   unfold spec_tFirst_l1 at hb2
   refine q_seq (q_region (q_x (v:=(.bool (decide (t_9 < (goLen p_t.Rows))))) hF hS (ex_ibin rfl rfl rfl) rfl rfl fun a hF=>q_end (n_sq (q_seq ?_))))
   rcases bcase (decide (t_9 < (goLen p_t.Rows))) with hc3 | hc3
   ·have hb2:=cond_f hc3 hb2
    refine q_cond_f hF rfl hc3 (q_exit (x_sq ?_))
    obtain rfl:=someI hb2
    exact ⟨nofun,.inl ⟨m15,s11,s12,s13,s14,rfl,hF.sub ⟨rfl,trivial⟩,hS,hm15,h11,h12,h13,h14⟩⟩
   ·have hb2:=cond_t hc3 hb2
    refine q_cond_t hF rfl hc3 (q_skipc (n_sq (q_seq (q_block (q_seq (q_region (q_x (v:=(iV t_9)) hF hS (ex_move rfl) rfl rfl fun a hF=>q_x (v:=(iV t_9)) hF hS (ex_assign rfl) rfl rfl fun a hF=>q_end (n_sq (q_seq (q_region (q_x (v:=(.pointer (some ⟨b5,1,none⟩))) hF hS (ex_fieldAddr Try.underlying50 rfl sz28 rfl rfl) rfl rfl fun a hF=>q_x (v:=s12.v) hF hS (ex_load1 0 0 Try.underlying28 rfl rfl rfl rfl) rfl rfl fun a hF=>q_x (v:=(iV (goLen t_10.Cols))) hF hS (ex_len Try.underlying28 rfl h12.len) rfl rfl fun a hF=>q_x (v:=(iV 0)) hF hS (ex_move rfl) rfl rfl fun a hF=>q_end (n_sq (q_block ?_)))))))))))))
    obtain ⟨t_30,hl4,hb2⟩:=bindS hb2
    refine q_loop (fun (s : Int × impl_Transport) a w=>∃ (m22 : Mem),∃ (s18 : Sl),∃ (s19 : Sl),∃ (s20 : Sl),∃ (s21 : Sl),∃ t_16,∃ t_17,s = (t_16,t_17)∧Fr a 43 [(1,(.pointer (some ⟨b5,0,none⟩))),(6,(iV t_9)),(18,(iV (goLen p_t.Rows))),(19,(iV t_9)),(24,(iV (goLen t_10.Cols))),(25,(iV t_16))]∧St [] w0 w m22 [[⟨b5,[s18.v,s19.v,s20.v,s21.v],50⟩]]∧MLe [] w0.heap.size m15 m22∧Rd m22 s18 t_17.Rows∧Rd m22 s19 t_17.Cols∧Rd m22 s20 t_17.Lo∧Rd m22 s21 t_17.Hi) (fun (t_30 : impl_Transport) e a w=>∃ (m35 : Mem),∃ (s31 : Sl),∃ (s32 : Sl),∃ (s33 : Sl),∃ (s34 : Sl),e = .exit 2∧Fr a 43 [(1,(.pointer (some ⟨b5,0,none⟩))),(18,(iV (goLen p_t.Rows))),(19,(iV t_9))]∧St [] w0 w m35 [[⟨b5,[s31.v,s32.v,s33.v,s34.v],50⟩]]∧MLe [] w0.heap.size m15 m35∧Rd m35 s31 t_30.Rows∧Rd m35 s32 t_30.Cols∧Rd m35 s33 t_30.Lo∧Rd m35 s34 t_30.Hi) hl4 ⟨m15,s11,s12,s13,s14,_,_,rfl,hF.sub ⟨rfl,rfl,rfl,rfl,rfl,rfl,trivial⟩,hS,(MLe.refl _ _),h11,h12,h13,h14⟩ ?_ ?_
    ·clear hF hS
     rintro s a w st ⟨m22,s18,s19,s20,s21,t_16,t_17,rfl,hF,hS,hm22,h18,h19,h20,h21⟩ hb4
     unfold spec_tFirst_l2 at hb4
     refine q_seq (q_region (q_x (v:=(.bool (decide (t_16 < (goLen t_10.Cols))))) hF hS (ex_ibin rfl rfl rfl) rfl rfl fun a hF=>q_end (n_sq (q_seq ?_))))
     rcases bcase (decide (t_16 < (goLen t_10.Cols))) with hc5 | hc5
     ·have hb4:=cond_f hc5 hb4
      refine q_cond_f hF rfl hc5 (q_exit (x_sq ?_))
      obtain rfl:=someI hb4
      exact ⟨nofun,.inl ⟨m22,s18,s19,s20,s21,rfl,hF.sub ⟨rfl,rfl,rfl,trivial⟩,hS,hm22,h18,h19,h20,h21⟩⟩
     ·have hb4:=cond_t hc5 hb4
      refine q_cond_t hF rfl hc5 (q_skipc (n_sq (q_seq (q_block (q_seq (q_region (q_x (v:=(iV t_16)) hF hS (ex_move rfl) rfl rfl fun a hF=>q_x (v:=(iV t_16)) hF hS (ex_assign rfl) rfl rfl fun a hF=>q_end (n_sq (q_seq (q_region (q_x (v:=(.agg #[s18.v,s19.v,s20.v,s21.v])) hF hS (ex_loadA (vs:=[s18.v,s19.v,s20.v,s21.v]) 0 0 Try.underlying50 rfl sz50 rfl rfl rfl rfl) rfl rfl fun a hF=>q_x (v:=(iV t_9)) hF hS (ex_move rfl) rfl rfl fun a hF=>q_x (v:=(iV t_16)) hF hS (ex_move rfl) rfl rfl fun a hF=>?_)))))))))))
      obtain ⟨t_23,ht_23,hb4⟩:=bindS hb4
      refine q_call (vs:=[(.agg #[s18.v,s19.v,s20.v,s21.v]),(iV t_9),(iV t_16)]) hF hS Try.func164 (by kernel_rfl) rfl rfl rfl (c_spec_tLow t_17 t_9 t_16 t_23 ht_23 _ m22 hS.vis s18 h18 s19 h19 s20 h20 s21 h21) ?_
      rintro a w _ rfl hF hS
      refine q_x (v:=(iV t_23)) hF hS (ex_assign rfl) rfl rfl fun a hF=>q_end (n_sq (q_region (q_x (v:=(.agg #[s18.v,s19.v,s20.v,s21.v])) hF hS (ex_loadA (vs:=[s18.v,s19.v,s20.v,s21.v]) 0 0 Try.underlying50 rfl sz50 rfl rfl rfl rfl) rfl rfl fun a hF=>q_x (v:=(iV t_9)) hF hS (ex_move rfl) rfl rfl fun a hF=>q_x (v:=(iV t_16)) hF hS (ex_move rfl) rfl rfl fun a hF=>q_x (v:=(iV t_23)) hF hS (ex_move rfl) rfl rfl fun a hF=>q_x (v:=(iV t_23)) hF hS (ex_move rfl) rfl rfl fun a hF=>?_)))
      obtain ⟨t_24,ht_24,hb4⟩:=bindS hb4
      refine q_call (vs:=[(.agg #[s18.v,s19.v,s20.v,s21.v]),(iV t_9),(iV t_16),(iV t_23),(iV t_23)]) hF hS Try.func121 (by kernel_rfl) rfl rfl rfl (c_spec_tWith t_17 t_9 t_16 t_23 t_23 t_24 ht_24 _ m22 hS.vis s18 h18 s19 h19 s20 h20 s21 h21) ?_
      have hT:=hS
      rintro a w _ ⟨m25,q28,q29,s26,s27,s28,s29,rfl,hm25,hR25,h26,h27,h28,h29⟩ hF hS2
      have hS : St _ _ _ _ [q28,q29,[⟨b5,[s18.v,s19.v,s20.v,s21.v],50⟩]]:=hS.join hR25 hm25
      have hm25:=MLe.weakX (O0:=[]) hT hm25
      refine q_store (vs:=[s26.v,s27.v,s28.v,s29.v]) (cs':=[s26.v,s27.v,s28.v,s29.v]) 2 0 hF hS sz50 rfl rfl rfl rfl rfl rfl rfl rfl fun a w hF hS=>q_end (n_ib (n_sq (q_region (q_x (v:=(iV (w64 (t_16 + 1)))) hF hS (ex_ibin rfl rfl rfl) rfl rfl fun a hF=>q_x (v:=(iV (w64 (t_16 + 1)))) hF hS (ex_move rfl) rfl rfl fun a hF=>q_end ?_))))
      obtain rfl:=someI hb4
      obtain ⟨mf63,hmf63,hS,hzf63⟩:=hS.freeze
      have hf63:=h28.froz hmf63.le hzf63
      obtain ⟨mf64,hmf64,hS,hzf64⟩:=hS.freeze
      have hf64:=(h29.mono hmf63.le).froz hmf64.le hzf64
      exact ⟨rfl,mf64,s26,s27,s28,s29,_,_,rfl,hF.sub ⟨rfl,rfl,rfl,rfl,rfl,rfl,trivial⟩,hS,(((hm22.trans hm25).trans hmf63).trans hmf64),((h26.mono hmf63.le).mono hmf64.le),((h27.mono hmf63.le).mono hmf64.le),(hf63.mono hmf64.le),hf64⟩
    ·rintro e a w ⟨m35,s31,s32,s33,s34,rfl,hF,hS,hm35,h31,h32,h33,h34⟩
     refine x_ib (n_ib (n_sq ?_))
     refine q_region (q_x (v:=(iV (w64 (t_9 + 1)))) hF hS (ex_ibin rfl rfl rfl) rfl rfl fun a hF=>q_x (v:=(iV (w64 (t_9 + 1)))) hF hS (ex_move rfl) rfl rfl fun a hF=>q_end ?_)
     obtain rfl:=someI hb2
     exact ⟨rfl,m35,s31,s32,s33,s34,_,_,rfl,hF.sub ⟨rfl,rfl,rfl,trivial⟩,hS,(hm15.trans hm35),h31,h32,h33,h34⟩
  ·rintro e a w ⟨m41,s37,s38,s39,s40,rfl,hF,hS,hm41,h37,h38,h39,h40⟩
   refine x_ib (n_sq ?_)
   refine q_seq (q_region (q_x (v:=(.pointer (some ⟨b5,2,none⟩))) hF hS (ex_fieldAddr Try.underlying50 rfl sz23 rfl rfl) rfl rfl fun a hF=>q_x (v:=s39.v) hF hS (ex_load1 0 0 Try.underlying23 rfl rfl rfl rfl) rfl rfl fun a hF=>?_))
   obtain ⟨t_42,ht_42,hr⟩:=bindS hr
   refine q_call (vs:=[s39.v]) hF hS Try.func145 (by kernel_rfl) rfl rfl rfl (c_spec_tOwn t_36.Lo t_42 ht_42 _ m41 hS.vis s39 h39) ?_
   rintro a w _ ⟨q44,s44,rfl,hR43,h44⟩ hF hS2
   have hS : St _ _ _ _ [q44,[⟨b5,[s37.v,s38.v,s39.v,s40.v],50⟩]]:=hS.joinF hR43
   refine q_x (v:=s44.v) hF hS (ex_assign rfl) rfl rfl fun a hF=>q_x (v:=(.bool true)) hF hS (ex_assign rfl) rfl rfl fun a hF=>q_end (n_sq (q_ret ?_))
   obtain rfl:=someI hr
   exact ret_of hF hS rfl (.tmp rfl (.tmp rfl .nil)) ⟨m41,q44,s44,rfl,(hm7.trans hm41),hS.sel [0] (by decide),h44⟩
 ·have hr:=cond_t hc1 hr
  refine q_cond_t hF rfl hc1 (q_seq (q_region (q_x (v:=nilS.v) hF hS (ex_assign rfl) rfl rfl fun a hF=>q_x (v:=(.bool false)) hF hS (ex_assign rfl) rfl rfl fun a hF=>q_end (n_sq (q_ret (r_sq ?_))))))
  obtain rfl:=someI hr
  exact ret_of hF hS rfl (.tmp rfl (.tmp rfl .nil)) ⟨m7,[],nilS,rfl,hm7,hS.sel [2] (by decide),(OwnD.nil (β:=Int) m7 28 3)⟩

theorem c_spec_WitnessTables (p_x : List (List Int)) (p_p : List (List Int)) (p_i : Int) (p_j : Int) (r : (List (List Int)) × (List (List Int)) × Bool) (hr : spec_WitnessTables p_x p_p p_i p_j = some r) (w0 : World) (m : Mem) (hv : Vis m w0) (s1 : Sl) (h1 : Rd m s1 p_x) (s2 : Sl) (h2 : Rd m s2 p_p) :
  Ret Try.prog 42 [s1.v,s2.v,(iV p_i),(iV p_j)] w0 (fun v w=>∃ (m' : Mem) (q0' : Piece) (q1' : Piece) (s0' : Sl) (s1' : Sl),v = (.tuple #[s0'.v,s1'.v,(.bool r.2.2)])∧MLe [] w0.heap.size m m'∧St [] w0 w m' [q0',q1']∧OwnD m' 28 3 q0' s0' r.1∧OwnD m' 28 3 q1' s1' r.2.1):=by
 unfold spec_WitnessTables at hr
 refine ret_start Try.func42 rfl 62 rfl rfl m hv fun a hF hS=>q_seq (q_region (q_x (v:=nilS.v) hF hS (ex_assign rfl) rfl rfl fun a hF=>q_x (v:=nilS.v) hF hS (ex_assign rfl) rfl rfl fun a hF=>q_x (v:=(.bool false)) hF hS (ex_assign rfl) rfl rfl fun a hF=>q_end (n_sq (q_seq (q_seq (q_region (q_x (v:=s1.v) hF hS (ex_move rfl) rfl rfl fun a hF=>q_x (v:=s2.v) hF hS (ex_move rfl) rfl rfl fun a hF=>q_x (v:=(iV p_i)) hF hS (ex_move rfl) rfl rfl fun a hF=>q_x (v:=(iV p_j)) hF hS (ex_move rfl) rfl rfl fun a hF=>?_)))))))
 obtain ⟨t_3,ht_3,hr⟩:=bindS hr
 refine q_call (vs:=[s1.v,s2.v,(iV p_i),(iV p_j)]) hF hS Try.func110 (by kernel_rfl) rfl rfl rfl (c_spec_vCell p_x p_p p_i p_j t_3 ht_3 _ m hS.vis s1 h1 s2 h2) ?_
 rintro a w _ rfl hF hS
 refine q_x (v:=(.bool (!t_3))) hF hS (ex_not rfl) rfl rfl fun a hF=>q_end (n_sq ?_)
 rcases bcase (!t_3) with hc1 | hc1
 ·have hr:=cond_f hc1 hr
  refine q_cond_f hF rfl hc1 (q_skipc (n_sq (q_seq (q_region (q_x (v:=s1.v) hF hS (ex_move rfl) rfl rfl fun a hF=>q_x (v:=s2.v) hF hS (ex_move rfl) rfl rfl fun a hF=>?_)))))
  obtain ⟨t_4,ht_4,hr⟩:=bindS hr
  refine q_call (vs:=[s1.v,s2.v]) hF hS Try.func118 (by kernel_rfl) rfl rfl rfl (c_spec_qNetwork p_x p_p t_4 ht_4 _ m hS.vis s1 h1 s2 h2) ?_
  have hT:=hS
  rintro a w _ ⟨m5,q6,q7,q8,q9,s6,s7,s8,s9,rfl,hm5,hR5,h6,h7,h8,h9⟩ hF hS2
  have hS : St _ _ _ _ [q6,q7,q8,q9]:=hS.join hR5 hm5
  have hm5:=MLe.weakX (O0:=[]) hT hm5
  refine q_alloc (cs:=[nilS.v,nilS.v,nilS.v,nilS.v]) hF hS rfl rfl rfl fun a w b10 hF hS=>q_store (vs:=[s6.v,s7.v,s8.v,s9.v]) (cs':=[s6.v,s7.v,s8.v,s9.v]) 0 0 hF hS sz50 rfl rfl rfl rfl rfl rfl rfl rfl fun a w hF hS=>q_end (n_sq (q_seq (q_region (q_x (v:=(.agg #[s6.v,s7.v,s8.v,s9.v])) hF hS (ex_loadA (vs:=[s6.v,s7.v,s8.v,s9.v]) 0 0 Try.underlying50 rfl sz50 rfl rfl rfl rfl) rfl rfl fun a hF=>q_x (v:=(iV p_i)) hF hS (ex_move rfl) rfl rfl fun a hF=>q_x (v:=(iV p_j)) hF hS (ex_move rfl) rfl rfl fun a hF=>?_))))
  obtain ⟨m12,hl12,hv12,hz12⟩:=hS.lend
  obtain ⟨t_11,ht_11,hr⟩:=bindS hr
  refine q_call (vs:=[(.agg #[s6.v,s7.v,s8.v,s9.v]),(iV p_i),(iV p_j)]) hF hS Try.func119 (by kernel_rfl) rfl rfl rfl (c_spec_tRange t_4 p_i p_j t_11 ht_11 _ m12 hv12 s6 (h6.froz hl12 (hz12 1 _ rfl)) s7 (h7.froz hl12 (hz12 2 _ rfl)) s8 (h8.froz hl12 (hz12 3 _ rfl)) s9 (h9.froz hl12 (hz12 4 _ rfl))) ?_
  rintro a w _ rfl hF hS
  refine q_x (v:=(.tuple #[(iV t_11.1),(iV t_11.2.1),(.bool t_11.2.2)])) hF hS (ex_move rfl) rfl rfl fun a hF=>q_x (v:=(iV t_11.1)) hF hS (ex_extract rfl rfl) rfl rfl fun a hF=>q_x (v:=(iV t_11.2.1)) hF hS (ex_extract rfl rfl) rfl rfl fun a hF=>q_x (v:=(.bool t_11.2.2)) hF hS (ex_extract rfl rfl) rfl rfl fun a hF=>q_x (v:=(iV t_11.1)) hF hS (ex_assign rfl) rfl rfl fun a hF=>q_x (v:=(iV t_11.2.1)) hF hS (ex_assign rfl) rfl rfl fun a hF=>q_x (v:=(.bool t_11.2.2)) hF hS (ex_assign rfl) rfl rfl fun a hF=>q_end (n_sq (q_seq (q_region (q_x (v:=(.agg #[s6.v,s7.v,s8.v,s9.v])) hF hS (ex_loadA (vs:=[s6.v,s7.v,s8.v,s9.v]) 0 0 Try.underlying50 rfl sz50 rfl rfl rfl rfl) rfl rfl fun a hF=>q_x (v:=(iV p_i)) hF hS (ex_move rfl) rfl rfl fun a hF=>q_x (v:=(iV p_j)) hF hS (ex_move rfl) rfl rfl fun a hF=>q_x (v:=(iV t_11.1)) hF hS (ex_move rfl) rfl rfl fun a hF=>?_))))
  have hS : St _ _ _ _ [q6,[⟨b10,[s6.v,s7.v,s8.v,s9.v],50⟩],q7,q8,q9]:=hS.sel [1,0,2,3,4] (by decide)
  obtain ⟨m13,hm13,hS,hz13⟩:=hS.freeze
  have h13:=h6.froz hm13.le hz13
  have hS : St _ _ _ _ [q7,[⟨b10,[s6.v,s7.v,s8.v,s9.v],50⟩],q8,q9]:=hS.sel [1,0,2,3] (by decide)
  obtain ⟨m14,hm14,hS,hz14⟩:=hS.freeze
  have h14:=(h7.mono hm13.le).froz hm14.le hz14
  have hS : St _ _ _ _ [q8,[⟨b10,[s6.v,s7.v,s8.v,s9.v],50⟩],q9]:=hS.sel [1,0,2] (by decide)
  obtain ⟨m15,hm15,hS,hz15⟩:=hS.freeze
  have h15:=((h8.mono hm13.le).mono hm14.le).froz hm15.le hz15
  have hS : St _ _ _ _ [q9,[⟨b10,[s6.v,s7.v,s8.v,s9.v],50⟩]]:=hS.sel [1,0] (by decide)
  obtain ⟨m16,hm16,hS,hz16⟩:=hS.freeze
  have h16:=(((h9.mono hm13.le).mono hm14.le).mono hm15.le).froz hm16.le hz16
  obtain ⟨t_17,ht_17,hr⟩:=bindS hr
  refine q_call (vs:=[(.agg #[s6.v,s7.v,s8.v,s9.v]),(iV p_i),(iV p_j),(iV 0),(iV t_11.1)]) hF hS Try.func121 (by kernel_rfl) rfl rfl rfl (c_spec_tWith t_4 p_i p_j 0 t_11.1 t_17 ht_17 _ m16 hS.vis s6 (((h13.mono hm14.le).mono hm15.le).mono hm16.le) s7 ((h14.mono hm15.le).mono hm16.le) s8 (h15.mono hm16.le) s9 h16) ?_
  have hT:=hS
  rintro a w _ ⟨m18,q21,q22,s19,s20,s21,s22,rfl,hm18,hR18,h19,h20,h21,h22⟩ hF hS2
  have hS : St _ _ _ _ [q21,q22,[⟨b10,[s6.v,s7.v,s8.v,s9.v],50⟩]]:=hS.join hR18 hm18
  have hm18:=MLe.weakX (O0:=[]) hT hm18
  obtain ⟨m23,hm23,hS,hz23⟩:=hS.freeze
  have h23:=h21.froz hm23.le hz23
  obtain ⟨m24,hm24,hS,hz24⟩:=hS.freeze
  have h24:=(h22.mono hm23.le).froz hm24.le hz24
  obtain ⟨t_25,ht_25,hr⟩:=bindS hr
  refine q_call (vs:=[(.agg #[s19.v,s20.v,s21.v,s22.v])]) hF hS Try.func120 (by kernel_rfl) rfl rfl rfl (c_spec_tFirst t_17 t_25 ht_25 _ m24 hS.vis s19 ((h19.mono hm23.le).mono hm24.le) s20 ((h20.mono hm23.le).mono hm24.le) s21 (h23.mono hm24.le) s22 h24) ?_
  have hT:=hS
  rintro a w _ ⟨m26,q27,s27,rfl,hm26,hR26,h27⟩ hF hS2
  have hS : St _ _ _ _ [q27,[⟨b10,[s6.v,s7.v,s8.v,s9.v],50⟩]]:=hS.join hR26 hm26
  have hm26:=MLe.weakX (O0:=[]) hT hm26
  refine q_x (v:=(.tuple #[s27.v,(.bool t_25.2)])) hF hS (ex_move rfl) rfl rfl fun a hF=>q_x (v:=s27.v) hF hS (ex_extract rfl rfl) rfl rfl fun a hF=>q_x (v:=(.bool t_25.2)) hF hS (ex_extract rfl rfl) rfl rfl fun a hF=>q_x (v:=s27.v) hF hS (ex_assign rfl) rfl rfl fun a hF=>q_x (v:=(.bool t_25.2)) hF hS (ex_assign rfl) rfl rfl fun a hF=>q_end (n_sq (q_seq (q_region (q_x (v:=(.agg #[s6.v,s7.v,s8.v,s9.v])) hF hS (ex_loadA (vs:=[s6.v,s7.v,s8.v,s9.v]) 1 0 Try.underlying50 rfl sz50 rfl rfl rfl rfl) rfl rfl fun a hF=>q_x (v:=(iV p_i)) hF hS (ex_move rfl) rfl rfl fun a hF=>q_x (v:=(iV p_j)) hF hS (ex_move rfl) rfl rfl fun a hF=>q_x (v:=(iV t_11.2.1)) hF hS (ex_move rfl) rfl rfl fun a hF=>?_))))
  obtain ⟨t_28,ht_28,hr⟩:=bindS hr
  refine q_call (vs:=[(.agg #[s6.v,s7.v,s8.v,s9.v]),(iV p_i),(iV p_j),(iV t_11.2.1),(iV 100000)]) hF hS Try.func121 (by kernel_rfl) rfl rfl rfl (c_spec_tWith t_4 p_i p_j t_11.2.1 100000 t_28 ht_28 _ m26 hS.vis s6 (((((((h13.mono hm14.le).mono hm15.le).mono hm16.le).mono hm18.le).mono hm23.le).mono hm24.le).mono hm26.le) s7 ((((((h14.mono hm15.le).mono hm16.le).mono hm18.le).mono hm23.le).mono hm24.le).mono hm26.le) s8 (((((h15.mono hm16.le).mono hm18.le).mono hm23.le).mono hm24.le).mono hm26.le) s9 ((((h16.mono hm18.le).mono hm23.le).mono hm24.le).mono hm26.le)) ?_
  have hT:=hS
  rintro a w _ ⟨m29,q32,q33,s30,s31,s32,s33,rfl,hm29,hR29,h30,h31,h32,h33⟩ hF hS2
  have hS : St _ _ _ _ [q32,q33,q27,[⟨b10,[s6.v,s7.v,s8.v,s9.v],50⟩]]:=hS.join hR29 hm29
  have hm29:=MLe.weakX (O0:=[]) hT hm29
  obtain ⟨m34,hm34,hS,hz34⟩:=hS.freeze
  have h34:=h32.froz hm34.le hz34
  obtain ⟨m35,hm35,hS,hz35⟩:=hS.freeze
  have h35:=(h33.mono hm34.le).froz hm35.le hz35
  obtain ⟨t_36,ht_36,hr⟩:=bindS hr
  refine q_call (vs:=[(.agg #[s30.v,s31.v,s32.v,s33.v])]) hF hS Try.func120 (by kernel_rfl) rfl rfl rfl (c_spec_tFirst t_28 t_36 ht_36 _ m35 hS.vis s30 ((h30.mono hm34.le).mono hm35.le) s31 ((h31.mono hm34.le).mono hm35.le) s32 (h34.mono hm35.le) s33 h35) ?_
  have hT:=hS
  rintro a w _ ⟨m37,q38,s38,rfl,hm37,hR37,h38⟩ hF hS2
  have hS : St _ _ _ _ [q38,q27,[⟨b10,[s6.v,s7.v,s8.v,s9.v],50⟩]]:=hS.join hR37 hm37
  have hm37:=MLe.weakX (O0:=[]) hT hm37
  refine q_x (v:=(.tuple #[s38.v,(.bool t_36.2)])) hF hS (ex_move rfl) rfl rfl fun a hF=>q_x (v:=s38.v) hF hS (ex_extract rfl rfl) rfl rfl fun a hF=>q_x (v:=(.bool t_36.2)) hF hS (ex_extract rfl rfl) rfl rfl fun a hF=>q_x (v:=s38.v) hF hS (ex_assign rfl) rfl rfl fun a hF=>q_x (v:=(.bool t_36.2)) hF hS (ex_assign rfl) rfl rfl fun a hF=>q_end (n_sq (q_seq (q_seq ?_)))
  obtain ⟨t_39,hj2,hr⟩:=bindS hr
  refine q_join (fun a w=>Fr a 62 [(15,s27.v),(17,s38.v),(59,(.bool t_39))]∧St [] w0 w m37 [q27,q38]) ?_ ?_
  ·refine q_region (q_x (v:=(.bool t_25.2)) hF hS (ex_move rfl) rfl rfl fun a hF=>q_x (v:=(.bool (!t_25.2))) hF hS (ex_not rfl) rfl rfl fun a hF=>q_x (v:=(.bool (!t_25.2))) hF hS (ex_move rfl) rfl rfl fun a hF=>?_)
   rcases bcase (!t_25.2) with hc3 | hc3
   ·have hj2:=cond_f hc3 hj2
    refine q_xg (v:=(.bool t_36.2)) hF hS (ex_move rfl) (wanted_t hF rfl rfl rfl hc3) rfl fun a hF=>q_xg (v:=(.bool (!t_36.2))) hF hS (ex_not rfl) (wanted_t hF rfl rfl rfl hc3) rfl fun a hF=>q_x (v:=(.bool (!t_36.2))) hF hS (ex_pick_f rfl rfl hc3) rfl rfl fun a hF=>q_end (n_jn ?_)
    obtain rfl:=someI hj2
    exact ⟨hF.sub ⟨rfl,rfl,rfl,trivial⟩,hS.sel [1,0] (by decide)⟩
   ·have hj2:=cond_t hc3 hj2
    refine q_skip hF (wanted_f hF rfl rfl rfl hc3 rfl) rfl fun a hF=>q_skip hF (wanted_f hF rfl rfl rfl hc3 rfl) rfl fun a hF=>q_x (v:=(.bool true)) hF hS (ex_pick_t rfl rfl hc3) rfl rfl fun a hF=>q_end (n_jn ?_)
    obtain rfl:=someI hj2
    exact ⟨hF.sub ⟨rfl,rfl,rfl,trivial⟩,hS.sel [1,0] (by decide)⟩
  ·rintro a w ⟨hF,hS⟩
   refine n_sq ?_
   rcases bcase (t_39) with hc4 | hc4
   ·have hr:=cond_f hc4 hr
    refine q_cond_f hF rfl hc4 (q_skipc (n_sq (q_seq (q_region (q_x (v:=s27.v) hF hS (ex_move rfl) rfl rfl fun a hF=>q_x (v:=s38.v) hF hS (ex_move rfl) rfl rfl fun a hF=>q_x (v:=s27.v) hF hS (ex_assign rfl) rfl rfl fun a hF=>q_x (v:=s38.v) hF hS (ex_assign rfl) rfl rfl fun a hF=>q_x (v:=(.bool true)) hF hS (ex_assign rfl) rfl rfl fun a hF=>q_end (n_sq (q_ret ?_)))))))
    obtain rfl:=someI hr
    exact ret_of hF hS rfl (.tmp rfl (.tmp rfl (.tmp rfl .nil))) ⟨m37,q27,q38,s27,s38,rfl,((((((((((((hm5.trans hm13).trans hm14).trans hm15).trans hm16).trans hm18).trans hm23).trans hm24).trans hm26).trans hm29).trans hm34).trans hm35).trans hm37),hS.sel [0,1] (by decide),((((h27.mono hm29.le).mono hm34.le).mono hm35.le).mono hm37.le),h38⟩
   ·have hr:=cond_t hc4 hr
    refine q_cond_t hF rfl hc4 (q_seq (q_region (q_x (v:=nilS.v) hF hS (ex_assign rfl) rfl rfl fun a hF=>q_x (v:=nilS.v) hF hS (ex_assign rfl) rfl rfl fun a hF=>q_x (v:=(.bool false)) hF hS (ex_assign rfl) rfl rfl fun a hF=>q_end (n_sq (q_ret (r_sq ?_))))))
    obtain rfl:=someI hr
    exact ret_of hF hS rfl (.tmp rfl (.tmp rfl (.tmp rfl .nil))) ⟨m37,[],[],nilS,nilS,rfl,((((((((((((hm5.trans hm13).trans hm14).trans hm15).trans hm16).trans hm18).trans hm23).trans hm24).trans hm26).trans hm29).trans hm34).trans hm35).trans hm37),hS.sel [2,3] (by decide),(OwnD.nil (β:=Int) m37 28 3),(OwnD.nil (β:=Int) m37 28 3)⟩
 ·have hr:=cond_t hc1 hr
  refine q_cond_t hF rfl hc1 (q_seq (q_region (q_x (v:=nilS.v) hF hS (ex_assign rfl) rfl rfl fun a hF=>q_x (v:=nilS.v) hF hS (ex_assign rfl) rfl rfl fun a hF=>q_x (v:=(.bool false)) hF hS (ex_assign rfl) rfl rfl fun a hF=>q_end (n_sq (q_ret (r_sq ?_))))))
  obtain rfl:=someI hr
  exact ret_of hF hS rfl (.tmp rfl (.tmp rfl (.tmp rfl .nil))) ⟨m,[],[],nilS,nilS,rfl,(MLe.refl _ _),hS.sel [0,1] (by decide),(OwnD.nil (β:=Int) m 28 3),(OwnD.nil (β:=Int) m 28 3)⟩

theorem c_laws_qInts (p_a : List Int) (p_b : List Int) (r : Bool) (hr : laws_qInts p_a p_b = some r) (w0 : World) (m : Mem) (hv : Vis m w0) (s1 : Sl) (h1 : Rd m s1 p_a) (s2 : Sl) (h2 : Rd m s2 p_b) :
  Ret Try.prog 92 [s1.v,s2.v] w0 (fun v _=>v = (.bool r)):=by
 unfold laws_qInts at hr
 refine ret_start Try.func92 rfl 26 rfl rfl m hv fun a hF hS=>q_seq (q_region (q_x (v:=(.bool false)) hF hS (ex_assign rfl) rfl rfl fun a hF=>q_end (n_sq (q_seq (q_seq (q_region (q_x (v:=s1.v) hF hS (ex_move rfl) rfl rfl fun a hF=>q_x (v:=(iV (goLen p_a))) hF hS (ex_len Try.underlying28 rfl h1.len) rfl rfl fun a hF=>q_x (v:=s2.v) hF hS (ex_move rfl) rfl rfl fun a hF=>q_x (v:=(iV (goLen p_b))) hF hS (ex_len Try.underlying28 rfl h2.len) rfl rfl fun a hF=>q_x (v:=(.bool ((goLen p_a) != (goLen p_b)))) hF hS (ex_ibin rfl rfl rfl) rfl rfl fun a hF=>q_end (n_sq ?_))))))))
 rcases bcase ((goLen p_a) != (goLen p_b)) with hc1 | hc1
 ·have hr:=cond_f hc1 hr
  refine q_cond_f hF rfl hc1 (q_skipc (n_sq (q_seq (q_seq (q_region (q_x (v:=s1.v) hF hS (ex_move rfl) rfl rfl fun a hF=>q_x (v:=(iV (goLen p_a))) hF hS (ex_len Try.underlying28 rfl h1.len) rfl rfl fun a hF=>q_x (v:=(iV 0)) hF hS (ex_move rfl) rfl rfl fun a hF=>q_end (n_sq (q_block ?_))))))))
  obtain ⟨o2,hl2,hr⟩:=bindS hr
  refine q_loop (fun (t_3 : Int) a w=>Fr a 26 [(0,s1.v),(1,s2.v),(12,(iV (goLen p_a))),(13,(iV t_3))]∧St [] w0 w m []) (fun (o : (Unit) ⊕ (Bool)) e a w=>o = .inl ()∧e = .exit 0∧Fr a 26 []∧St [] w0 w m []) hl2 ⟨hF.sub ⟨rfl,rfl,rfl,rfl,trivial⟩,hS⟩ ?_ ?_
  ·clear hF hS
   rintro t_3 a w st ⟨hF,hS⟩ hb2
   unfold laws_qInts_l1 at hb2
   refine q_seq (q_region (q_x (v:=(.bool (decide (t_3 < (goLen p_a))))) hF hS (ex_ibin rfl rfl rfl) rfl rfl fun a hF=>q_end (n_sq (q_seq ?_))))
   rcases bcase (decide (t_3 < (goLen p_a))) with hc3 | hc3
   ·have hb2:=cond_f hc3 hb2
    refine q_cond_f hF rfl hc3 (q_exit (x_sq ?_))
    obtain rfl:=someI hb2
    exact ⟨nofun,.inl ⟨rfl,rfl,hF.sub trivial,hS⟩⟩
   ·have hb2:=cond_t hc3 hb2
    refine q_cond_t hF rfl hc3 (q_skipc (n_sq (q_seq (q_block (q_seq (q_region (q_x (v:=(iV t_3)) hF hS (ex_move rfl) rfl rfl fun a hF=>q_x (v:=(iV t_3)) hF hS (ex_assign rfl) rfl rfl fun a hF=>q_end (n_sq (q_seq (e_region ⟨[],[],m⟩ mixed fun w' hw'=>?_))))))))))
    have hS:=hS.below hw'
    refine e_p (v:=s1.v) 0 hF rfl (ex_move rfl) rfl rfl (by kernel_rfl) (by kernel_rfl) (by kernel_rfl) fun a hF=>e_p (v:=(iV t_3)) 1 hF rfl (ex_move rfl) rfl rfl (by kernel_rfl) (by kernel_rfl) (by kernel_rfl) fun a hF=>?_
    obtain ⟨e_4,he_4,hb2⟩:=bindS hb2
    obtain ⟨vs5,at5,d5⟩:=h1.at he_4 1 rfl
    obtain rfl : vs5 = [(iV e_4)]:=d5
    refine e_p (v:=(elP s1 (t_3.toNat * 1))) 2 hF rfl (ex_indexAddr Try.underlying28 sz3 rfl rfl (h1.idx he_4)) rfl rfl (by kernel_rfl) (by kernel_rfl) (by kernel_rfl) fun a hF=>e_xm (v:=(iV e_4)) 3 hF hS (Mem.le.refl _) rfl (ex_loadE1 0 Try.underlying3 rfl rfl ((at5).at) rfl rfl) rfl rfl (by kernel_rfl) (by kernel_rfl) (by kernel_rfl) fun a hF=>e_p (v:=s2.v) 4 hF rfl (ex_move rfl) rfl rfl (by kernel_rfl) (by kernel_rfl) (by kernel_rfl) fun a hF=>e_p (v:=(iV t_3)) 5 hF rfl (ex_move rfl) rfl rfl (by kernel_rfl) (by kernel_rfl) (by kernel_rfl) fun a hF=>?_
    obtain ⟨e_6,he_6,hb2⟩:=bindS hb2
    obtain ⟨vs7,at7,d7⟩:=h2.at he_6 1 rfl
    obtain rfl : vs7 = [(iV e_6)]:=d7
    refine e_p (v:=(elP s2 (t_3.toNat * 1))) 6 hF rfl (ex_indexAddr Try.underlying28 sz3 rfl rfl (h2.idx he_6)) rfl rfl (by kernel_rfl) (by kernel_rfl) (by kernel_rfl) fun a hF=>e_xm (v:=(iV e_6)) 7 hF hS (Mem.le.refl _) rfl (ex_loadE1 0 Try.underlying3 rfl rfl ((at7).at) rfl rfl) rfl rfl (by kernel_rfl) (by kernel_rfl) (by kernel_rfl) fun a hF=>e_p (v:=(.bool (e_4 != e_6))) 8 hF rfl (ex_ibin rfl rfl rfl) rfl rfl (by kernel_rfl) (by kernel_rfl) (by kernel_rfl) fun a hF=>e_end (by kernel_rfl) (n_sq ?_) _
    rcases bcase (e_4 != e_6) with hc4 | hc4
    ·have hb2:=cond_f hc4 hb2
     refine q_cond_f hF rfl hc4 (q_skipc (n_ib (n_sq (q_region (q_x (v:=(iV (w64 (t_3 + 1)))) hF hS (ex_ibin rfl rfl rfl) rfl rfl fun a hF=>q_x (v:=(iV (w64 (t_3 + 1)))) hF hS (ex_move rfl) rfl rfl fun a hF=>q_end ?_)))))
     obtain rfl:=someI hb2
     exact ⟨rfl,hF.sub ⟨rfl,rfl,rfl,rfl,trivial⟩,hS⟩
    ·have hb2:=cond_t hc4 hb2
     refine q_cond_t hF rfl hc4 (q_seq (q_region (q_x (v:=(.bool false)) hF hS (ex_assign rfl) rfl rfl fun a hF=>q_end (n_sq (q_ret (r_ib (r_sq ?_)))))))
     obtain rfl:=someI hb2
     refine ⟨nofun,.inr fun ho=>?_⟩
     subst ho
     refine r_ib (r_sq ?_)
     obtain rfl:=someI hr
     exact ret_of hF hS rfl (.tmp rfl .nil) rfl
  ·rintro e a w ⟨rfl,rfl,hF,hS⟩
   refine x_ib (n_sq ?_)
   refine q_seq (q_region (q_x (v:=(.bool true)) hF hS (ex_assign rfl) rfl rfl fun a hF=>q_end (n_sq (q_ret ?_))))
   obtain rfl:=someI hr
   exact ret_of hF hS rfl (.tmp rfl .nil) rfl
 ·have hr:=cond_t hc1 hr
  refine q_cond_t hF rfl hc1 (q_seq (q_region (q_x (v:=(.bool false)) hF hS (ex_assign rfl) rfl rfl fun a hF=>q_end (n_sq (q_ret (r_sq ?_))))))
  obtain rfl:=someI hr
  exact ret_of hF hS rfl (.tmp rfl .nil) rfl

theorem c_laws_qLists (p_a : List (List Int)) (p_b : List (List Int)) (r : Bool) (hr : laws_qLists p_a p_b = some r) (w0 : World) (m : Mem) (hv : Vis m w0) (s1 : Sl) (h1 : Rd m s1 p_a) (s2 : Sl) (h2 : Rd m s2 p_b) :
  Ret Try.prog 20 [s1.v,s2.v] w0 (fun v _=>v = (.bool r)):=by
 unfold laws_qLists at hr
 refine ret_start Try.func20 rfl 27 rfl rfl m hv fun a hF hS=>q_seq (q_region (q_x (v:=(.bool false)) hF hS (ex_assign rfl) rfl rfl fun a hF=>q_end (n_sq (q_seq (q_seq (q_region (q_x (v:=s1.v) hF hS (ex_move rfl) rfl rfl fun a hF=>q_x (v:=(iV (goLen p_a))) hF hS (ex_len Try.underlying23 rfl h1.len) rfl rfl fun a hF=>q_x (v:=s2.v) hF hS (ex_move rfl) rfl rfl fun a hF=>q_x (v:=(iV (goLen p_b))) hF hS (ex_len Try.underlying23 rfl h2.len) rfl rfl fun a hF=>q_x (v:=(.bool ((goLen p_a) != (goLen p_b)))) hF hS (ex_ibin rfl rfl rfl) rfl rfl fun a hF=>q_end (n_sq ?_))))))))
 rcases bcase ((goLen p_a) != (goLen p_b)) with hc1 | hc1
 ·have hr:=cond_f hc1 hr
  refine q_cond_f hF rfl hc1 (q_skipc (n_sq (q_seq (q_seq (q_region (q_x (v:=s1.v) hF hS (ex_move rfl) rfl rfl fun a hF=>q_x (v:=(iV (goLen p_a))) hF hS (ex_len Try.underlying23 rfl h1.len) rfl rfl fun a hF=>q_x (v:=(iV 0)) hF hS (ex_move rfl) rfl rfl fun a hF=>q_end (n_sq (q_block ?_))))))))
  obtain ⟨o2,hl2,hr⟩:=bindS hr
  refine q_loop (fun (t_3 : Int) a w=>Fr a 27 [(0,s1.v),(1,s2.v),(12,(iV (goLen p_a))),(13,(iV t_3))]∧St [] w0 w m []) (fun (o : (Unit) ⊕ (Bool)) e a w=>o = .inl ()∧e = .exit 0∧Fr a 27 []∧St [] w0 w m []) hl2 ⟨hF.sub ⟨rfl,rfl,rfl,rfl,trivial⟩,hS⟩ ?_ ?_
  ·clear hF hS
   rintro t_3 a w st ⟨hF,hS⟩ hb2
   unfold laws_qLists_l1 at hb2
   refine q_seq (q_region (q_x (v:=(.bool (decide (t_3 < (goLen p_a))))) hF hS (ex_ibin rfl rfl rfl) rfl rfl fun a hF=>q_end (n_sq (q_seq ?_))))
   rcases bcase (decide (t_3 < (goLen p_a))) with hc3 | hc3
   ·have hb2:=cond_f hc3 hb2
    refine q_cond_f hF rfl hc3 (q_exit (x_sq ?_))
    obtain rfl:=someI hb2
    exact ⟨nofun,.inl ⟨rfl,rfl,hF.sub trivial,hS⟩⟩
   ·have hb2:=cond_t hc3 hb2
    refine q_cond_t hF rfl hc3 (q_skipc (n_sq (q_seq (q_block (q_seq (q_region (q_x (v:=(iV t_3)) hF hS (ex_move rfl) rfl rfl fun a hF=>q_x (v:=(iV t_3)) hF hS (ex_assign rfl) rfl rfl fun a hF=>q_end (n_sq (q_seq (e_region ⟨[],[],m⟩ mixed fun w' hw'=>?_))))))))))
    have hS:=hS.below hw'
    refine e_p (v:=s1.v) 0 hF rfl (ex_move rfl) rfl rfl (by kernel_rfl) (by kernel_rfl) (by kernel_rfl) fun a hF=>e_p (v:=(iV t_3)) 1 hF rfl (ex_move rfl) rfl rfl (by kernel_rfl) (by kernel_rfl) (by kernel_rfl) fun a hF=>?_
    obtain ⟨e_4,he_4,hb2⟩:=bindS hb2
    obtain ⟨vs5,at5,d5⟩:=h1.at he_4 1 rfl
    obtain ⟨s6,rfl,h6⟩ : ∃ s6 : Sl,vs5 = [s6.v]∧Rd m s6 e_4:=d5
    refine e_p (v:=(elP s1 (t_3.toNat * 1))) 2 hF rfl (ex_indexAddr Try.underlying23 sz28 rfl rfl (h1.idx he_4)) rfl rfl (by kernel_rfl) (by kernel_rfl) (by kernel_rfl) fun a hF=>e_xm (v:=s6.v) 3 hF hS (Mem.le.refl _) rfl (ex_loadE1 0 Try.underlying28 rfl rfl ((at5).at) rfl rfl) rfl rfl (by kernel_rfl) (by kernel_rfl) (by kernel_rfl) fun a hF=>e_p (v:=s2.v) 4 hF rfl (ex_move rfl) rfl rfl (by kernel_rfl) (by kernel_rfl) (by kernel_rfl) fun a hF=>e_p (v:=(iV t_3)) 5 hF rfl (ex_move rfl) rfl rfl (by kernel_rfl) (by kernel_rfl) (by kernel_rfl) fun a hF=>?_
    obtain ⟨e_7,he_7,hb2⟩:=bindS hb2
    obtain ⟨vs8,at8,d8⟩:=h2.at he_7 1 rfl
    obtain ⟨s9,rfl,h9⟩ : ∃ s9 : Sl,vs8 = [s9.v]∧Rd m s9 e_7:=d8
    refine e_p (v:=(elP s2 (t_3.toNat * 1))) 6 hF rfl (ex_indexAddr Try.underlying23 sz28 rfl rfl (h2.idx he_7)) rfl rfl (by kernel_rfl) (by kernel_rfl) (by kernel_rfl) fun a hF=>e_xm (v:=s9.v) 7 hF hS (Mem.le.refl _) rfl (ex_loadE1 0 Try.underlying28 rfl rfl ((at8).at) rfl rfl) rfl rfl (by kernel_rfl) (by kernel_rfl) (by kernel_rfl) fun a hF=>e_one 8 (by kernel_rfl) ?_
    obtain ⟨t_10,ht_10,hb2⟩:=bindS hb2
    refine e_call (vs:=[s6.v,s9.v]) hF hS rfl Try.func92 (by kernel_rfl) rfl rfl rfl (c_laws_qInts e_4 e_7 t_10 ht_10 _ m hS.vis s6 h6 s9 h9) ?_
    rintro a w _ rfl hF hS
    refine e_p (v:=(.bool (!t_10))) 9 hF rfl (ex_not rfl) rfl rfl (by kernel_rfl) (by kernel_rfl) (by kernel_rfl) fun a hF=>e_end (by kernel_rfl) (n_sq ?_) _
    rcases bcase (!t_10) with hc4 | hc4
    ·have hb2:=cond_f hc4 hb2
     refine q_cond_f hF rfl hc4 (q_skipc (n_ib (n_sq (q_region (q_x (v:=(iV (w64 (t_3 + 1)))) hF hS (ex_ibin rfl rfl rfl) rfl rfl fun a hF=>q_x (v:=(iV (w64 (t_3 + 1)))) hF hS (ex_move rfl) rfl rfl fun a hF=>q_end ?_)))))
     obtain rfl:=someI hb2
     exact ⟨rfl,hF.sub ⟨rfl,rfl,rfl,rfl,trivial⟩,hS⟩
    ·have hb2:=cond_t hc4 hb2
     refine q_cond_t hF rfl hc4 (q_seq (q_region (q_x (v:=(.bool false)) hF hS (ex_assign rfl) rfl rfl fun a hF=>q_end (n_sq (q_ret (r_ib (r_sq ?_)))))))
     obtain rfl:=someI hb2
     refine ⟨nofun,.inr fun ho=>?_⟩
     subst ho
     refine r_ib (r_sq ?_)
     obtain rfl:=someI hr
     exact ret_of hF hS rfl (.tmp rfl .nil) rfl
  ·rintro e a w ⟨rfl,rfl,hF,hS⟩
   refine x_ib (n_sq ?_)
   refine q_seq (q_region (q_x (v:=(.bool true)) hF hS (ex_assign rfl) rfl rfl fun a hF=>q_end (n_sq (q_ret ?_))))
   obtain rfl:=someI hr
   exact ret_of hF hS rfl (.tmp rfl .nil) rfl
 ·have hr:=cond_t hc1 hr
  refine q_cond_t hF rfl hc1 (q_seq (q_region (q_x (v:=(.bool false)) hF hS (ex_assign rfl) rfl rfl fun a hF=>q_end (n_sq (q_ret (r_sq ?_))))))
  obtain rfl:=someI hr
  exact ret_of hF hS rfl (.tmp rfl .nil) rfl

theorem c_impl_AttackNetwork (p_x : List (List Int)) (p_p : List (List Int)) (r : impl_Transport × Bool) (hr : impl_AttackNetwork p_x p_p = some r) (w0 : World) (m : Mem) (hv : Vis m w0) (s1 : Sl) (h1 : Rd m s1 p_x) (s2 : Sl) (h2 : Rd m s2 p_p) :
  Ret Try.prog 30 [s1.v,s2.v] w0 (fun v w=>∃ (q0' : Piece) (q1' : Piece) (q2' : Piece) (q3' : Piece) (s0' : Sl) (s1' : Sl) (s2' : Sl) (s3' : Sl),v = (.tuple #[(.agg #[s0'.v,s1'.v,s2'.v,s3'.v]),(.bool r.2)])∧St [] w0 w m [q0',q1',q2',q3']∧OwnL m 3 q0' s0' r.1.Rows∧OwnL m 3 q1' s1' r.1.Cols∧OwnD m 28 3 q2' s2' r.1.Lo∧OwnD m 28 3 q3' s3' r.1.Hi):=by
 unfold impl_AttackNetwork at hr
 refine ret_start Try.func30 rfl 14 rfl rfl m hv fun a hF hS=>q_seq (q_region (q_alloc (cs:=[nilS.v,nilS.v,nilS.v,nilS.v]) hF hS rfl rfl rfl fun a w b3 hF hS=>q_x (v:=(.bool false)) hF hS (ex_assign rfl) rfl rfl fun a hF=>q_end (n_sq (q_seq (q_seq (q_region (q_x (v:=s1.v) hF hS (ex_move rfl) rfl rfl fun a hF=>q_x (v:=s2.v) hF hS (ex_move rfl) rfl rfl fun a hF=>?_)))))))
 obtain ⟨t_4,ht_4,hr⟩:=bindS hr
 refine q_call (vs:=[s1.v,s2.v]) hF hS Try.func95 (by kernel_rfl) rfl rfl rfl (c_impl_areSuppressed p_x p_p t_4 ht_4 _ m hS.vis s1 h1 s2 h2) ?_
 rintro a w _ rfl hF hS
 refine q_x (v:=(.bool (!t_4))) hF hS (ex_not rfl) rfl rfl fun a hF=>q_end (n_sq ?_)
 rcases bcase (!t_4) with hc1 | hc1
 ·have hr:=cond_f hc1 hr
  refine q_cond_f hF rfl hc1 (q_skipc (n_sq (q_seq (q_region (q_x (v:=s1.v) hF hS (ex_move rfl) rfl rfl fun a hF=>q_x (v:=s2.v) hF hS (ex_move rfl) rfl rfl fun a hF=>?_)))))
  obtain ⟨t_5,ht_5,hr⟩:=bindS hr
  refine q_call (vs:=[s1.v,s2.v]) hF hS Try.func97 (by kernel_rfl) rfl rfl rfl (c_impl_attackNetwork p_x p_p t_5 ht_5 _ m hS.vis s1 h1 s2 h2) ?_
  rintro a w _ ⟨q7,q8,q9,q10,s7,s8,s9,s10,rfl,hR6,h7,h8,h9,h10⟩ hF hS2
  have hS : St _ _ _ _ [q7,q8,q9,q10,[⟨b3,[nilS.v,nilS.v,nilS.v,nilS.v],50⟩]]:=hS.joinF hR6
  refine q_store (vs:=[s7.v,s8.v,s9.v,s10.v]) (cs':=[s7.v,s8.v,s9.v,s10.v]) 4 0 hF hS sz50 rfl rfl rfl rfl rfl rfl rfl rfl fun a w hF hS=>q_x (v:=(.bool true)) hF hS (ex_assign rfl) rfl rfl fun a hF=>q_end (n_sq (q_ret ?_))
  obtain rfl:=someI hr
  exact ret_of hF hS rfl (.cellA (us:=[s7.v,s8.v,s9.v,s10.v]) 4 0 Try.underlying50 rfl sz50 rfl rfl rfl rfl (.tmp rfl .nil)) ⟨q7,q8,q9,q10,s7,s8,s9,s10,rfl,hS.sel [0,1,2,3] (by decide),h7,h8,h9,h10⟩
 ·have hr:=cond_t hc1 hr
  refine q_cond_t hF rfl hc1 (q_seq (q_region (q_x (v:=(.agg #[nilS.v,nilS.v,nilS.v,nilS.v])) hF hS (ex_build (cells:=[nilS.v,nilS.v,nilS.v,nilS.v]) rfl (by kernel_rfl)) rfl rfl fun a hF=>q_store (vs:=[nilS.v,nilS.v,nilS.v,nilS.v]) (cs':=[nilS.v,nilS.v,nilS.v,nilS.v]) 0 0 hF hS sz50 rfl rfl rfl rfl rfl rfl rfl rfl fun a w hF hS=>q_x (v:=(.bool false)) hF hS (ex_assign rfl) rfl rfl fun a hF=>q_end (n_sq (q_ret (r_sq ?_))))))
  obtain rfl:=someI hr
  exact ret_of hF hS rfl (.cellA (us:=[nilS.v,nilS.v,nilS.v,nilS.v]) 0 0 Try.underlying50 rfl sz50 rfl rfl rfl rfl (.tmp rfl .nil)) ⟨[],[],[],[],nilS,nilS,nilS,nilS,rfl,hS.sel [1,2,3,4] (by decide),(OwnL.nil (α:=Int) m 3),(OwnL.nil (α:=Int) m 3),(OwnD.nil (β:=Int) m 28 3),(OwnD.nil (β:=Int) m 28 3)⟩

theorem c_impl_areSums (p_l : List Int) (r : Bool) (hr : impl_areSums p_l = some r) (w0 : World) (m : Mem) (hv : Vis m w0) (s1 : Sl) (h1 : Rd m s1 p_l) :
  Ret Try.prog 144 [s1.v] w0 (fun v _=>v = (.bool r)):=by
 unfold impl_areSums at hr
 refine ret_start Try.func144 rfl 26 rfl rfl m hv fun a hF hS=>q_seq (q_region (q_x (v:=(.bool false)) hF hS (ex_assign rfl) rfl rfl fun a hF=>q_end (n_sq (q_seq (q_seq ?_)))))
 obtain ⟨t_2,hj1,hr⟩:=bindS hr
 refine q_join (fun a w=>Fr a 26 [(0,s1.v),(12,(.bool t_2))]∧St [] w0 w m []) ?_ ?_
 ·refine q_region (q_x (v:=s1.v) hF hS (ex_move rfl) rfl rfl fun a hF=>q_x (v:=(iV (goLen p_l))) hF hS (ex_len Try.underlying28 rfl h1.len) rfl rfl fun a hF=>q_x (v:=(.bool (decide ((goLen p_l) < 1)))) hF hS (ex_ibin rfl rfl rfl) rfl rfl fun a hF=>q_x (v:=(.bool (decide ((goLen p_l) < 1)))) hF hS (ex_move rfl) rfl rfl fun a hF=>?_)
  rcases bcase (decide ((goLen p_l) < 1)) with hc2 | hc2
  ·have hj1:=cond_f hc2 hj1
   refine q_xg (v:=s1.v) hF hS (ex_move rfl) (wanted_t hF rfl rfl rfl hc2) rfl fun a hF=>q_xg (v:=(iV (goLen p_l))) hF hS (ex_len Try.underlying28 rfl h1.len) (wanted_t hF rfl rfl rfl hc2) rfl fun a hF=>q_xg (v:=(.bool (decide (8 < (goLen p_l))))) hF hS (ex_ibin rfl rfl rfl) (wanted_t hF rfl rfl rfl hc2) rfl fun a hF=>q_x (v:=(.bool (decide (8 < (goLen p_l))))) hF hS (ex_pick_f rfl rfl hc2) rfl rfl fun a hF=>q_end (n_jn ?_)
   obtain rfl:=someI hj1
   exact ⟨hF.sub ⟨rfl,rfl,trivial⟩,hS⟩
  ·have hj1:=cond_t hc2 hj1
   refine q_skip hF (wanted_f hF rfl rfl rfl hc2 rfl) rfl fun a hF=>q_skip hF (wanted_f hF rfl rfl rfl hc2 rfl) rfl fun a hF=>q_skip hF (wanted_f hF rfl rfl rfl hc2 rfl) rfl fun a hF=>q_x (v:=(.bool true)) hF hS (ex_pick_t rfl rfl hc2) rfl rfl fun a hF=>q_end (n_jn ?_)
   obtain rfl:=someI hj1
   exact ⟨hF.sub ⟨rfl,rfl,trivial⟩,hS⟩
 ·rintro a w ⟨hF,hS⟩
  refine n_sq ?_
  rcases bcase (t_2) with hc3 | hc3
  ·have hr:=cond_f hc3 hr
   refine q_cond_f hF rfl hc3 (q_skipc (n_sq (q_seq (q_seq (q_region (q_x (v:=s1.v) hF hS (ex_move rfl) rfl rfl fun a hF=>q_x (v:=(iV (goLen p_l))) hF hS (ex_len Try.underlying28 rfl h1.len) rfl rfl fun a hF=>q_x (v:=(iV 0)) hF hS (ex_move rfl) rfl rfl fun a hF=>q_end (n_sq (q_block ?_))))))))
   obtain ⟨o4,hl4,hr⟩:=bindS hr
   refine q_loop (fun (t_3 : Int) a w=>Fr a 26 [(13,s1.v),(14,(iV (goLen p_l))),(15,(iV t_3))]∧St [] w0 w m []) (fun (o : (Unit) ⊕ (Bool)) e a w=>o = .inl ()∧e = .exit 0∧Fr a 26 []∧St [] w0 w m []) hl4 ⟨hF.sub ⟨rfl,rfl,rfl,trivial⟩,hS⟩ ?_ ?_
   ·clear hF hS
    rintro t_3 a w st ⟨hF,hS⟩ hb4
    unfold impl_areSums_l1 at hb4
    refine q_seq (q_region (q_x (v:=(.bool (decide (t_3 < (goLen p_l))))) hF hS (ex_ibin rfl rfl rfl) rfl rfl fun a hF=>q_end (n_sq (q_seq ?_))))
    rcases bcase (decide (t_3 < (goLen p_l))) with hc5 | hc5
    ·have hb4:=cond_f hc5 hb4
     refine q_cond_f hF rfl hc5 (q_exit (x_sq ?_))
     obtain rfl:=someI hb4
     exact ⟨nofun,.inl ⟨rfl,rfl,hF.sub trivial,hS⟩⟩
    ·have hb4:=cond_t hc5 hb4
     refine q_cond_t hF rfl hc5 (q_skipc (n_sq (q_seq (q_block (q_seq (q_region ?_))))))
     obtain ⟨e_4,he_4,hb4⟩:=bindS hb4
     obtain ⟨vs5,at5,d5⟩:=h1.at he_4 1 rfl
     obtain rfl : vs5 = [(iV e_4)]:=d5
     refine q_x (v:=(elP s1 (t_3.toNat * 1))) hF hS (ex_indexAddr Try.underlying28 sz3 rfl rfl (h1.idx he_4)) rfl rfl fun a hF=>q_x (v:=(iV e_4)) hF hS (ex_loadE1 0 Try.underlying3 rfl rfl ((at5).at) rfl rfl) rfl rfl fun a hF=>q_x (v:=(iV e_4)) hF hS (ex_assign rfl) rfl rfl fun a hF=>q_end (n_sq (q_seq ?_))
     obtain ⟨t_6,hj6,hb4⟩:=bindS hb4
     refine q_join (fun a w=>Fr a 26 [(13,s1.v),(14,(iV (goLen p_l))),(15,(iV t_3)),(24,(.bool t_6))]∧St [] w0 w m []) ?_ ?_
     ·refine q_region (q_x (v:=(iV e_4)) hF hS (ex_move rfl) rfl rfl fun a hF=>q_x (v:=(.bool (decide (e_4 < 0)))) hF hS (ex_ibin rfl rfl rfl) rfl rfl fun a hF=>q_x (v:=(.bool (decide (e_4 < 0)))) hF hS (ex_move rfl) rfl rfl fun a hF=>?_)
      rcases bcase (decide (e_4 < 0)) with hc7 | hc7
      ·have hj6:=cond_f hc7 hj6
       refine q_xg (v:=(iV e_4)) hF hS (ex_move rfl) (wanted_t hF rfl rfl rfl hc7) rfl fun a hF=>q_xg (v:=(.bool (decide (100000 < e_4)))) hF hS (ex_ibin rfl rfl rfl) (wanted_t hF rfl rfl rfl hc7) rfl fun a hF=>q_x (v:=(.bool (decide (100000 < e_4)))) hF hS (ex_pick_f rfl rfl hc7) rfl rfl fun a hF=>q_end (n_jn ?_)
       obtain rfl:=someI hj6
       exact ⟨hF.sub ⟨rfl,rfl,rfl,rfl,trivial⟩,hS⟩
      ·have hj6:=cond_t hc7 hj6
       refine q_skip hF (wanted_f hF rfl rfl rfl hc7 rfl) rfl fun a hF=>q_skip hF (wanted_f hF rfl rfl rfl hc7 rfl) rfl fun a hF=>q_x (v:=(.bool true)) hF hS (ex_pick_t rfl rfl hc7) rfl rfl fun a hF=>q_end (n_jn ?_)
       obtain rfl:=someI hj6
       exact ⟨hF.sub ⟨rfl,rfl,rfl,rfl,trivial⟩,hS⟩
     ·rintro a w ⟨hF,hS⟩
      refine n_sq ?_
      rcases bcase (t_6) with hc8 | hc8
      ·have hb4:=cond_f hc8 hb4
       refine q_cond_f hF rfl hc8 (q_skipc (n_ib (n_sq (q_region (q_x (v:=(iV (w64 (t_3 + 1)))) hF hS (ex_ibin rfl rfl rfl) rfl rfl fun a hF=>q_x (v:=(iV (w64 (t_3 + 1)))) hF hS (ex_move rfl) rfl rfl fun a hF=>q_end ?_)))))
       obtain rfl:=someI hb4
       exact ⟨rfl,hF.sub ⟨rfl,rfl,rfl,trivial⟩,hS⟩
      ·have hb4:=cond_t hc8 hb4
       refine q_cond_t hF rfl hc8 (q_seq (q_region (q_x (v:=(.bool false)) hF hS (ex_assign rfl) rfl rfl fun a hF=>q_end (n_sq (q_ret (r_ib (r_sq ?_)))))))
       obtain rfl:=someI hb4
       refine ⟨nofun,.inr fun ho=>?_⟩
       subst ho
       refine r_ib (r_sq ?_)
       obtain rfl:=someI hr
       exact ret_of hF hS rfl (.tmp rfl .nil) rfl
   ·rintro e a w ⟨rfl,rfl,hF,hS⟩
    refine x_ib (n_sq ?_)
    refine q_seq (q_region (q_x (v:=(.bool true)) hF hS (ex_assign rfl) rfl rfl fun a hF=>q_end (n_sq (q_ret ?_))))
    obtain rfl:=someI hr
    exact ret_of hF hS rfl (.tmp rfl .nil) rfl
  ·have hr:=cond_t hc3 hr
   refine q_cond_t hF rfl hc3 (q_seq (q_region (q_x (v:=(.bool false)) hF hS (ex_assign rfl) rfl rfl fun a hF=>q_end (n_sq (q_ret (r_sq ?_))))))
   obtain rfl:=someI hr
   exact ret_of hF hS rfl (.tmp rfl .nil) rfl

theorem c_impl_IsTransport (p_t : impl_Transport) (r : Bool) (hr : impl_IsTransport p_t = some r) (w0 : World) (m : Mem) (hv : Vis m w0) (s1 : Sl) (h1 : Rd m s1 p_t.Rows) (s2 : Sl) (h2 : Rd m s2 p_t.Cols) (s3 : Sl) (h3 : Rd m s3 p_t.Lo) (s4 : Sl) (h4 : Rd m s4 p_t.Hi) :
  Ret Try.prog 67 [(.agg #[s1.v,s2.v,s3.v,s4.v])] w0 (fun v _=>v = (.bool r)):=by
 unfold impl_IsTransport at hr
 refine ret_start Try.func67 rfl 83 rfl rfl m hv fun a hF hS=>q_seq (q_region (q_box (cs:=[s1.v,s2.v,s3.v,s4.v]) hF hS rfl rfl rfl fun a w b5 hF hS=>q_x (v:=(.bool false)) hF hS (ex_assign rfl) rfl rfl fun a hF=>q_end (n_sq (q_seq (q_seq ?_)))))
 obtain ⟨t_10,hj1,hr⟩:=bindS hr
 refine q_join (fun a w=>Fr a 83 [(1,(.pointer (some ⟨b5,0,none⟩))),(40,(.bool t_10))]∧St [] w0 w m [[⟨b5,[s1.v,s2.v,s3.v,s4.v],50⟩]]) ?_ ?_
 ·refine q_region (q_x (v:=(.pointer (some ⟨b5,0,none⟩))) hF hS (ex_fieldAddr Try.underlying50 rfl sz28 rfl rfl) rfl rfl fun a hF=>q_x (v:=s1.v) hF hS (ex_load1 0 0 Try.underlying28 rfl rfl rfl rfl) rfl rfl fun a hF=>?_)
  obtain ⟨t_6,ht_6,hj1⟩:=bindS hj1
  refine q_call (vs:=[s1.v]) hF hS Try.func144 (by kernel_rfl) rfl rfl rfl (c_impl_areSums p_t.Rows t_6 ht_6 _ m hS.vis s1 h1) ?_
  rintro a w _ rfl hF hS
  refine q_x (v:=(.bool (!t_6))) hF hS (ex_not rfl) rfl rfl fun a hF=>q_x (v:=(.bool (!t_6))) hF hS (ex_move rfl) rfl rfl fun a hF=>?_
  rcases bcase (!t_6) with hc2 | hc2
  ·have hj1:=cond_f hc2 hj1
   refine q_xg (v:=(.pointer (some ⟨b5,1,none⟩))) hF hS (ex_fieldAddr Try.underlying50 rfl sz28 rfl rfl) (wanted_t hF rfl rfl rfl hc2) rfl fun a hF=>q_xg (v:=s2.v) hF hS (ex_load1 0 0 Try.underlying28 rfl rfl rfl rfl) (wanted_t hF rfl rfl rfl hc2) rfl fun a hF=>?_
   obtain ⟨t_7,ht_7,hj1⟩:=bindS hj1
   refine q_callg (vs:=[s2.v]) hF hS (wanted_t hF rfl rfl rfl hc2) Try.func144 (by kernel_rfl) rfl rfl rfl (c_impl_areSums p_t.Cols t_7 ht_7 _ m hS.vis s2 h2) ?_
   rintro a w _ rfl hF hS
   refine q_xg (v:=(.bool (!t_7))) hF hS (ex_not rfl) (wanted_t hF rfl rfl rfl hc2) rfl fun a hF=>q_x (v:=(.bool (!t_7))) hF hS (ex_pick_f rfl rfl hc2) rfl rfl fun a hF=>q_x (v:=(.bool (!t_7))) hF hS (ex_move rfl) rfl rfl fun a hF=>?_
   rcases bcase (!t_7) with hc3 | hc3
   ·have hj1:=cond_f hc3 hj1
    refine q_xg (v:=(.pointer (some ⟨b5,2,none⟩))) hF hS (ex_fieldAddr Try.underlying50 rfl sz23 rfl rfl) (wanted_t hF rfl rfl rfl hc3) rfl fun a hF=>q_xg (v:=s3.v) hF hS (ex_load1 0 0 Try.underlying23 rfl rfl rfl rfl) (wanted_t hF rfl rfl rfl hc3) rfl fun a hF=>q_xg (v:=(.pointer (some ⟨b5,0,none⟩))) hF hS (ex_fieldAddr Try.underlying50 rfl sz28 rfl rfl) (wanted_t hF rfl rfl rfl hc3) rfl fun a hF=>q_xg (v:=s1.v) hF hS (ex_load1 0 0 Try.underlying28 rfl rfl rfl rfl) (wanted_t hF rfl rfl rfl hc3) rfl fun a hF=>q_xg (v:=(iV (goLen p_t.Rows))) hF hS (ex_len Try.underlying28 rfl h1.len) (wanted_t hF rfl rfl rfl hc3) rfl fun a hF=>q_xg (v:=(.pointer (some ⟨b5,1,none⟩))) hF hS (ex_fieldAddr Try.underlying50 rfl sz28 rfl rfl) (wanted_t hF rfl rfl rfl hc3) rfl fun a hF=>q_xg (v:=s2.v) hF hS (ex_load1 0 0 Try.underlying28 rfl rfl rfl rfl) (wanted_t hF rfl rfl rfl hc3) rfl fun a hF=>q_xg (v:=(iV (goLen p_t.Cols))) hF hS (ex_len Try.underlying28 rfl h2.len) (wanted_t hF rfl rfl rfl hc3) rfl fun a hF=>?_
    obtain ⟨t_8,ht_8,hj1⟩:=bindS hj1
    refine q_callg (vs:=[s3.v,(iV (goLen p_t.Rows)),(iV (goLen p_t.Cols))]) hF hS (wanted_t hF rfl rfl rfl hc3) Try.func88 (by kernel_rfl) rfl rfl rfl (c_impl_hasShape p_t.Lo (goLen p_t.Rows) (goLen p_t.Cols) t_8 ht_8 _ m hS.vis s3 h3) ?_
    rintro a w _ rfl hF hS
    refine q_xg (v:=(.bool (!t_8))) hF hS (ex_not rfl) (wanted_t hF rfl rfl rfl hc3) rfl fun a hF=>q_x (v:=(.bool (!t_8))) hF hS (ex_pick_f rfl rfl hc3) rfl rfl fun a hF=>q_x (v:=(.bool (!t_8))) hF hS (ex_move rfl) rfl rfl fun a hF=>?_
    rcases bcase (!t_8) with hc4 | hc4
    ·have hj1:=cond_f hc4 hj1
     refine q_xg (v:=(.pointer (some ⟨b5,3,none⟩))) hF hS (ex_fieldAddr Try.underlying50 rfl sz23 rfl rfl) (wanted_t hF rfl rfl rfl hc4) rfl fun a hF=>q_xg (v:=s4.v) hF hS (ex_load1 0 0 Try.underlying23 rfl rfl rfl rfl) (wanted_t hF rfl rfl rfl hc4) rfl fun a hF=>q_xg (v:=(.pointer (some ⟨b5,0,none⟩))) hF hS (ex_fieldAddr Try.underlying50 rfl sz28 rfl rfl) (wanted_t hF rfl rfl rfl hc4) rfl fun a hF=>q_xg (v:=s1.v) hF hS (ex_load1 0 0 Try.underlying28 rfl rfl rfl rfl) (wanted_t hF rfl rfl rfl hc4) rfl fun a hF=>q_xg (v:=(iV (goLen p_t.Rows))) hF hS (ex_len Try.underlying28 rfl h1.len) (wanted_t hF rfl rfl rfl hc4) rfl fun a hF=>q_xg (v:=(.pointer (some ⟨b5,1,none⟩))) hF hS (ex_fieldAddr Try.underlying50 rfl sz28 rfl rfl) (wanted_t hF rfl rfl rfl hc4) rfl fun a hF=>q_xg (v:=s2.v) hF hS (ex_load1 0 0 Try.underlying28 rfl rfl rfl rfl) (wanted_t hF rfl rfl rfl hc4) rfl fun a hF=>q_xg (v:=(iV (goLen p_t.Cols))) hF hS (ex_len Try.underlying28 rfl h2.len) (wanted_t hF rfl rfl rfl hc4) rfl fun a hF=>?_
     obtain ⟨t_9,ht_9,hj1⟩:=bindS hj1
     refine q_callg (vs:=[s4.v,(iV (goLen p_t.Rows)),(iV (goLen p_t.Cols))]) hF hS (wanted_t hF rfl rfl rfl hc4) Try.func88 (by kernel_rfl) rfl rfl rfl (c_impl_hasShape p_t.Hi (goLen p_t.Rows) (goLen p_t.Cols) t_9 ht_9 _ m hS.vis s4 h4) ?_
     rintro a w _ rfl hF hS
     refine q_xg (v:=(.bool (!t_9))) hF hS (ex_not rfl) (wanted_t hF rfl rfl rfl hc4) rfl fun a hF=>q_x (v:=(.bool (!t_9))) hF hS (ex_pick_f rfl rfl hc4) rfl rfl fun a hF=>q_end (n_jn ?_)
     obtain rfl:=someI hj1
     exact ⟨hF.sub ⟨rfl,rfl,trivial⟩,hS⟩
    ·have hj1:=cond_t hc4 hj1
     refine q_skip hF (wanted_f hF rfl rfl rfl hc4 rfl) rfl fun a hF=>q_skip hF (wanted_f hF rfl rfl rfl hc4 rfl) rfl fun a hF=>q_skip hF (wanted_f hF rfl rfl rfl hc4 rfl) rfl fun a hF=>q_skip hF (wanted_f hF rfl rfl rfl hc4 rfl) rfl fun a hF=>q_skip hF (wanted_f hF rfl rfl rfl hc4 rfl) rfl fun a hF=>q_skip hF (wanted_f hF rfl rfl rfl hc4 rfl) rfl fun a hF=>q_skip hF (wanted_f hF rfl rfl rfl hc4 rfl) rfl fun a hF=>q_skip hF (wanted_f hF rfl rfl rfl hc4 rfl) rfl fun a hF=>q_skip hF (wanted_f hF rfl rfl rfl hc4 rfl) rfl fun a hF=>q_skip hF (wanted_f hF rfl rfl rfl hc4 rfl) rfl fun a hF=>q_x (v:=(.bool true)) hF hS (ex_pick_t rfl rfl hc4) rfl rfl fun a hF=>q_end (n_jn ?_)
     obtain rfl:=someI hj1
     exact ⟨hF.sub ⟨rfl,rfl,trivial⟩,hS⟩
   ·have hj1:=cond_t hc3 hj1
    refine q_skip hF (wanted_f hF rfl rfl rfl hc3 rfl) rfl fun a hF=>q_skip hF (wanted_f hF rfl rfl rfl hc3 rfl) rfl fun a hF=>q_skip hF (wanted_f hF rfl rfl rfl hc3 rfl) rfl fun a hF=>q_skip hF (wanted_f hF rfl rfl rfl hc3 rfl) rfl fun a hF=>q_skip hF (wanted_f hF rfl rfl rfl hc3 rfl) rfl fun a hF=>q_skip hF (wanted_f hF rfl rfl rfl hc3 rfl) rfl fun a hF=>q_skip hF (wanted_f hF rfl rfl rfl hc3 rfl) rfl fun a hF=>q_skip hF (wanted_f hF rfl rfl rfl hc3 rfl) rfl fun a hF=>q_skip hF (wanted_f hF rfl rfl rfl hc3 rfl) rfl fun a hF=>q_skip hF (wanted_f hF rfl rfl rfl hc3 rfl) rfl fun a hF=>q_x (v:=(.bool true)) hF hS (ex_pick_t rfl rfl hc3) rfl rfl fun a hF=>q_x (v:=(.bool true)) hF hS (ex_move rfl) rfl rfl fun a hF=>q_skip hF (wanted_f hF rfl rfl rfl rfl rfl) rfl fun a hF=>q_skip hF (wanted_f hF rfl rfl rfl rfl rfl) rfl fun a hF=>q_skip hF (wanted_f hF rfl rfl rfl rfl rfl) rfl fun a hF=>q_skip hF (wanted_f hF rfl rfl rfl rfl rfl) rfl fun a hF=>q_skip hF (wanted_f hF rfl rfl rfl rfl rfl) rfl fun a hF=>q_skip hF (wanted_f hF rfl rfl rfl rfl rfl) rfl fun a hF=>q_skip hF (wanted_f hF rfl rfl rfl rfl rfl) rfl fun a hF=>q_skip hF (wanted_f hF rfl rfl rfl rfl rfl) rfl fun a hF=>q_skip hF (wanted_f hF rfl rfl rfl rfl rfl) rfl fun a hF=>q_skip hF (wanted_f hF rfl rfl rfl rfl rfl) rfl fun a hF=>q_x (v:=(.bool true)) hF hS (ex_pick_t rfl rfl rfl) rfl rfl fun a hF=>q_end (n_jn ?_)
    obtain rfl:=someI hj1
    exact ⟨hF.sub ⟨rfl,rfl,trivial⟩,hS⟩
  ·have hj1:=cond_t hc2 hj1
   refine q_skip hF (wanted_f hF rfl rfl rfl hc2 rfl) rfl fun a hF=>q_skip hF (wanted_f hF rfl rfl rfl hc2 rfl) rfl fun a hF=>q_skip hF (wanted_f hF rfl rfl rfl hc2 rfl) rfl fun a hF=>q_skip hF (wanted_f hF rfl rfl rfl hc2 rfl) rfl fun a hF=>q_x (v:=(.bool true)) hF hS (ex_pick_t rfl rfl hc2) rfl rfl fun a hF=>q_x (v:=(.bool true)) hF hS (ex_move rfl) rfl rfl fun a hF=>q_skip hF (wanted_f hF rfl rfl rfl rfl rfl) rfl fun a hF=>q_skip hF (wanted_f hF rfl rfl rfl rfl rfl) rfl fun a hF=>q_skip hF (wanted_f hF rfl rfl rfl rfl rfl) rfl fun a hF=>q_skip hF (wanted_f hF rfl rfl rfl rfl rfl) rfl fun a hF=>q_skip hF (wanted_f hF rfl rfl rfl rfl rfl) rfl fun a hF=>q_skip hF (wanted_f hF rfl rfl rfl rfl rfl) rfl fun a hF=>q_skip hF (wanted_f hF rfl rfl rfl rfl rfl) rfl fun a hF=>q_skip hF (wanted_f hF rfl rfl rfl rfl rfl) rfl fun a hF=>q_skip hF (wanted_f hF rfl rfl rfl rfl rfl) rfl fun a hF=>q_skip hF (wanted_f hF rfl rfl rfl rfl rfl) rfl fun a hF=>q_x (v:=(.bool true)) hF hS (ex_pick_t rfl rfl rfl) rfl rfl fun a hF=>q_x (v:=(.bool true)) hF hS (ex_move rfl) rfl rfl fun a hF=>q_skip hF (wanted_f hF rfl rfl rfl rfl rfl) rfl fun a hF=>q_skip hF (wanted_f hF rfl rfl rfl rfl rfl) rfl fun a hF=>q_skip hF (wanted_f hF rfl rfl rfl rfl rfl) rfl fun a hF=>q_skip hF (wanted_f hF rfl rfl rfl rfl rfl) rfl fun a hF=>q_skip hF (wanted_f hF rfl rfl rfl rfl rfl) rfl fun a hF=>q_skip hF (wanted_f hF rfl rfl rfl rfl rfl) rfl fun a hF=>q_skip hF (wanted_f hF rfl rfl rfl rfl rfl) rfl fun a hF=>?_
   refine q_skip hF (wanted_f hF rfl rfl rfl rfl rfl) rfl fun a hF=>q_skip hF (wanted_f hF rfl rfl rfl rfl rfl) rfl fun a hF=>q_skip hF (wanted_f hF rfl rfl rfl rfl rfl) rfl fun a hF=>q_x (v:=(.bool true)) hF hS (ex_pick_t rfl rfl rfl) rfl rfl fun a hF=>q_end (n_jn ?_)
   obtain rfl:=someI hj1
   exact ⟨hF.sub ⟨rfl,rfl,trivial⟩,hS⟩
 ·rintro a w ⟨hF,hS⟩
  refine n_sq ?_
  rcases bcase (t_10) with hc5 | hc5
  ·have hr:=cond_f hc5 hr
   refine q_cond_f hF rfl hc5 (q_skipc (n_sq (q_seq (q_seq (q_region (q_x (v:=(.pointer (some ⟨b5,2,none⟩))) hF hS (ex_fieldAddr Try.underlying50 rfl sz23 rfl rfl) rfl rfl fun a hF=>q_x (v:=s3.v) hF hS (ex_load1 0 0 Try.underlying23 rfl rfl rfl rfl) rfl rfl fun a hF=>q_x (v:=(iV (goLen p_t.Lo))) hF hS (ex_len Try.underlying23 rfl h3.len) rfl rfl fun a hF=>q_x (v:=(iV 0)) hF hS (ex_move rfl) rfl rfl fun a hF=>q_end (n_sq (q_block ?_))))))))
   obtain ⟨o6,hl6,hr⟩:=bindS hr
   refine q_loop (fun (t_11 : Int) a w=>Fr a 83 [(1,(.pointer (some ⟨b5,0,none⟩))),(42,s3.v),(43,(iV (goLen p_t.Lo))),(44,(iV t_11))]∧St [] w0 w m [[⟨b5,[s1.v,s2.v,s3.v,s4.v],50⟩]]) (fun (o : (Unit) ⊕ (Bool)) e a w=>o = .inl ()∧e = .exit 0∧Fr a 83 []∧St [] w0 w m []) hl6 ⟨hF.sub ⟨rfl,rfl,rfl,rfl,trivial⟩,hS⟩ ?_ ?_
   ·clear hF hS
    rintro t_11 a w st ⟨hF,hS⟩ hb6
    unfold impl_IsTransport_l1 at hb6
    refine q_seq (q_region (q_x (v:=(.bool (decide (t_11 < (goLen p_t.Lo))))) hF hS (ex_ibin rfl rfl rfl) rfl rfl fun a hF=>q_end (n_sq (q_seq ?_))))
    rcases bcase (decide (t_11 < (goLen p_t.Lo))) with hc7 | hc7
    ·have hb6:=cond_f hc7 hb6
     refine q_cond_f hF rfl hc7 (q_exit (x_sq ?_))
     obtain rfl:=someI hb6
     exact ⟨nofun,.inl ⟨rfl,rfl,hF.sub trivial,hS.mask [false]⟩⟩
    ·have hb6:=cond_t hc7 hb6
     refine q_cond_t hF rfl hc7 (q_skipc (n_sq (q_seq (q_block (q_seq (q_region (q_x (v:=(iV t_11)) hF hS (ex_move rfl) rfl rfl fun a hF=>?_)))))))
     obtain ⟨e_12,he_12,hb6⟩:=bindS hb6
     obtain ⟨vs13,at13,d13⟩:=h3.at he_12 1 rfl
     obtain ⟨s14,rfl,h14⟩ : ∃ s14 : Sl,vs13 = [s14.v]∧Rd m s14 e_12:=d13
     refine q_x (v:=(elP s3 (t_11.toNat * 1))) hF hS (ex_indexAddr Try.underlying23 sz28 rfl rfl (h3.idx he_12)) rfl rfl fun a hF=>q_x (v:=s14.v) hF hS (ex_loadE1 0 Try.underlying28 rfl rfl ((at13).at) rfl rfl) rfl rfl fun a hF=>q_x (v:=(iV t_11)) hF hS (ex_assign rfl) rfl rfl fun a hF=>q_x (v:=s14.v) hF hS (ex_assign rfl) rfl rfl fun a hF=>q_end (n_sq (q_seq (q_region (q_x (v:=s14.v) hF hS (ex_move rfl) rfl rfl fun a hF=>q_x (v:=(iV (goLen e_12))) hF hS (ex_len Try.underlying28 rfl h14.len) rfl rfl fun a hF=>q_x (v:=(iV 0)) hF hS (ex_move rfl) rfl rfl fun a hF=>q_end (n_sq (q_block ?_))))))
     obtain ⟨o8,hl8,hb6⟩:=bindS hb6
     refine q_loop (fun (t_15 : Int) a w=>Fr a 83 [(1,(.pointer (some ⟨b5,0,none⟩))),(3,(iV t_11)),(42,s3.v),(43,(iV (goLen p_t.Lo))),(44,(iV t_11)),(49,s14.v),(50,(iV (goLen e_12))),(51,(iV t_15))]∧St [] w0 w m [[⟨b5,[s1.v,s2.v,s3.v,s4.v],50⟩]]) (fun (o : (Unit) ⊕ (Stp (Int) ((Unit) ⊕ (Bool)))) e a w=>o = .inl ()∧e = .exit 2∧Fr a 83 [(1,(.pointer (some ⟨b5,0,none⟩))),(42,s3.v),(43,(iV (goLen p_t.Lo))),(44,(iV t_11))]∧St [] w0 w m [[⟨b5,[s1.v,s2.v,s3.v,s4.v],50⟩]]) hl8 ⟨hF.sub ⟨rfl,rfl,rfl,rfl,rfl,rfl,rfl,rfl,trivial⟩,hS⟩ ?_ ?_
     ·clear hF hS
      rintro t_15 a w st ⟨hF,hS⟩ hb8
      unfold impl_IsTransport_l2 at hb8
      refine q_seq (q_region (q_x (v:=(.bool (decide (t_15 < (goLen e_12))))) hF hS (ex_ibin rfl rfl rfl) rfl rfl fun a hF=>q_end (n_sq (q_seq ?_))))
      rcases bcase (decide (t_15 < (goLen e_12))) with hc9 | hc9
      ·have hb8:=cond_f hc9 hb8
       refine q_cond_f hF rfl hc9 (q_exit (x_sq ?_))
       obtain rfl:=someI hb8
       exact ⟨nofun,.inl ⟨rfl,rfl,hF.sub ⟨rfl,rfl,rfl,rfl,trivial⟩,hS⟩⟩
      ·have hb8:=cond_t hc9 hb8
       refine q_cond_t hF rfl hc9 (q_skipc (n_sq (q_seq (q_block (q_seq (q_region (q_x (v:=(iV t_15)) hF hS (ex_move rfl) rfl rfl fun a hF=>?_)))))))
       obtain ⟨e_16,he_16,hb8⟩:=bindS hb8
       obtain ⟨vs17,at17,d17⟩:=h14.at he_16 1 rfl
       obtain rfl : vs17 = [(iV e_16)]:=d17
       refine q_x (v:=(elP s14 (t_15.toNat * 1))) hF hS (ex_indexAddr Try.underlying28 sz3 rfl rfl (h14.idx he_16)) rfl rfl fun a hF=>q_x (v:=(iV e_16)) hF hS (ex_loadE1 0 Try.underlying3 rfl rfl ((at17).at) rfl rfl) rfl rfl fun a hF=>q_x (v:=(iV t_15)) hF hS (ex_assign rfl) rfl rfl fun a hF=>q_x (v:=(iV e_16)) hF hS (ex_assign rfl) rfl rfl fun a hF=>q_end (n_sq (q_seq ?_))
       obtain ⟨t_28,hj10,hb8⟩:=bindS hb8
       refine q_join (fun a w=>Fr a 83 [(1,(.pointer (some ⟨b5,0,none⟩))),(3,(iV t_11)),(42,s3.v),(43,(iV (goLen p_t.Lo))),(44,(iV t_11)),(49,s14.v),(50,(iV (goLen e_12))),(51,(iV t_15)),(80,(.bool t_28))]∧St [] w0 w m [[⟨b5,[s1.v,s2.v,s3.v,s4.v],50⟩]]) ?_ ?_
       ·refine q_region (q_x (v:=(iV e_16)) hF hS (ex_move rfl) rfl rfl fun a hF=>q_x (v:=(.bool (decide (e_16 < 0)))) hF hS (ex_ibin rfl rfl rfl) rfl rfl fun a hF=>q_x (v:=(.bool (decide (e_16 < 0)))) hF hS (ex_move rfl) rfl rfl fun a hF=>?_)
        rcases bcase (decide (e_16 < 0)) with hc11 | hc11
        ·have hj10:=cond_f hc11 hj10
         refine q_xg (v:=(iV e_16)) hF hS (ex_move rfl) (wanted_t hF rfl rfl rfl hc11) rfl fun a hF=>q_xg (v:=(.pointer (some ⟨b5,3,none⟩))) hF hS (ex_fieldAddr Try.underlying50 rfl sz23 rfl rfl) (wanted_t hF rfl rfl rfl hc11) rfl fun a hF=>q_xg (v:=s4.v) hF hS (ex_load1 0 0 Try.underlying23 rfl rfl rfl rfl) (wanted_t hF rfl rfl rfl hc11) rfl fun a hF=>q_xg (v:=(iV t_11)) hF hS (ex_move rfl) (wanted_t hF rfl rfl rfl hc11) rfl fun a hF=>?_
         obtain ⟨e_18,he_18,hj10⟩:=bindS hj10
         obtain ⟨vs19,at19,d19⟩:=h4.at he_18 1 rfl
         obtain ⟨s20,rfl,h20⟩ : ∃ s20 : Sl,vs19 = [s20.v]∧Rd m s20 e_18:=d19
         refine q_xg (v:=(elP s4 (t_11.toNat * 1))) hF hS (ex_indexAddr Try.underlying23 sz28 rfl rfl (h4.idx he_18)) (wanted_t hF rfl rfl rfl hc11) rfl fun a hF=>q_xg (v:=s20.v) hF hS (ex_loadE1 0 Try.underlying28 rfl rfl ((at19).at) rfl rfl) (wanted_t hF rfl rfl rfl hc11) rfl fun a hF=>q_xg (v:=(iV t_15)) hF hS (ex_move rfl) (wanted_t hF rfl rfl rfl hc11) rfl fun a hF=>?_
         obtain ⟨e_21,he_21,hj10⟩:=bindS hj10
         obtain ⟨vs22,at22,d22⟩:=h20.at he_21 1 rfl
         obtain rfl : vs22 = [(iV e_21)]:=d22
         refine q_xg (v:=(elP s20 (t_15.toNat * 1))) hF hS (ex_indexAddr Try.underlying28 sz3 rfl rfl (h20.idx he_21)) (wanted_t hF rfl rfl rfl hc11) rfl fun a hF=>q_xg (v:=(iV e_21)) hF hS (ex_loadE1 0 Try.underlying3 rfl rfl ((at22).at) rfl rfl) (wanted_t hF rfl rfl rfl hc11) rfl fun a hF=>q_xg (v:=(.bool (decide (e_21 < e_16)))) hF hS (ex_ibin rfl rfl rfl) (wanted_t hF rfl rfl rfl hc11) rfl fun a hF=>q_x (v:=(.bool (decide (e_21 < e_16)))) hF hS (ex_pick_f rfl rfl hc11) rfl rfl fun a hF=>q_x (v:=(.bool (decide (e_21 < e_16)))) hF hS (ex_move rfl) rfl rfl fun a hF=>?_
         rcases bcase (decide (e_21 < e_16)) with hc12 | hc12
         ·have hj10:=cond_f hc12 hj10
          refine q_xg (v:=(.pointer (some ⟨b5,3,none⟩))) hF hS (ex_fieldAddr Try.underlying50 rfl sz23 rfl rfl) (wanted_t hF rfl rfl rfl hc12) rfl fun a hF=>q_xg (v:=s4.v) hF hS (ex_load1 0 0 Try.underlying23 rfl rfl rfl rfl) (wanted_t hF rfl rfl rfl hc12) rfl fun a hF=>q_xg (v:=(iV t_11)) hF hS (ex_move rfl) (wanted_t hF rfl rfl rfl hc12) rfl fun a hF=>?_
          obtain ⟨e_23,he_23,hj10⟩:=bindS hj10
          obtain ⟨vs24,at24,d24⟩:=h4.at he_23 1 rfl
          obtain ⟨s25,rfl,h25⟩ : ∃ s25 : Sl,vs24 = [s25.v]∧Rd m s25 e_23:=d24
          refine q_xg (v:=(elP s4 (t_11.toNat * 1))) hF hS (ex_indexAddr Try.underlying23 sz28 rfl rfl (h4.idx he_23)) (wanted_t hF rfl rfl rfl hc12) rfl fun a hF=>q_xg (v:=s25.v) hF hS (ex_loadE1 0 Try.underlying28 rfl rfl ((at24).at) rfl rfl) (wanted_t hF rfl rfl rfl hc12) rfl fun a hF=>q_xg (v:=(iV t_15)) hF hS (ex_move rfl) (wanted_t hF rfl rfl rfl hc12) rfl fun a hF=>?_
          obtain ⟨e_26,he_26,hj10⟩:=bindS hj10
          obtain ⟨vs27,at27,d27⟩:=h25.at he_26 1 rfl
          obtain rfl : vs27 = [(iV e_26)]:=d27
          refine q_xg (v:=(elP s25 (t_15.toNat * 1))) hF hS (ex_indexAddr Try.underlying28 sz3 rfl rfl (h25.idx he_26)) (wanted_t hF rfl rfl rfl hc12) rfl fun a hF=>q_xg (v:=(iV e_26)) hF hS (ex_loadE1 0 Try.underlying3 rfl rfl ((at27).at) rfl rfl) (wanted_t hF rfl rfl rfl hc12) rfl fun a hF=>q_xg (v:=(.bool (decide (100000 < e_26)))) hF hS (ex_ibin rfl rfl rfl) (wanted_t hF rfl rfl rfl hc12) rfl fun a hF=>q_x (v:=(.bool (decide (100000 < e_26)))) hF hS (ex_pick_f rfl rfl hc12) rfl rfl fun a hF=>q_end (n_jn ?_)
          obtain rfl:=someI hj10
          exact ⟨hF.sub ⟨rfl,rfl,rfl,rfl,rfl,rfl,rfl,rfl,rfl,trivial⟩,hS⟩
         ·have hj10:=cond_t hc12 hj10
          refine q_skip hF (wanted_f hF rfl rfl rfl hc12 rfl) rfl fun a hF=>q_skip hF (wanted_f hF rfl rfl rfl hc12 rfl) rfl fun a hF=>q_skip hF (wanted_f hF rfl rfl rfl hc12 rfl) rfl fun a hF=>q_skip hF (wanted_f hF rfl rfl rfl hc12 rfl) rfl fun a hF=>q_skip hF (wanted_f hF rfl rfl rfl hc12 rfl) rfl fun a hF=>q_skip hF (wanted_f hF rfl rfl rfl hc12 rfl) rfl fun a hF=>q_skip hF (wanted_f hF rfl rfl rfl hc12 rfl) rfl fun a hF=>q_skip hF (wanted_f hF rfl rfl rfl hc12 rfl) rfl fun a hF=>q_skip hF (wanted_f hF rfl rfl rfl hc12 rfl) rfl fun a hF=>q_x (v:=(.bool true)) hF hS (ex_pick_t rfl rfl hc12) rfl rfl fun a hF=>q_end (n_jn ?_)
          obtain rfl:=someI hj10
          exact ⟨hF.sub ⟨rfl,rfl,rfl,rfl,rfl,rfl,rfl,rfl,rfl,trivial⟩,hS⟩
        ·have hj10:=cond_t hc11 hj10
         refine q_skip hF (wanted_f hF rfl rfl rfl hc11 rfl) rfl fun a hF=>q_skip hF (wanted_f hF rfl rfl rfl hc11 rfl) rfl fun a hF=>q_skip hF (wanted_f hF rfl rfl rfl hc11 rfl) rfl fun a hF=>q_skip hF (wanted_f hF rfl rfl rfl hc11 rfl) rfl fun a hF=>q_skip hF (wanted_f hF rfl rfl rfl hc11 rfl) rfl fun a hF=>q_skip hF (wanted_f hF rfl rfl rfl hc11 rfl) rfl fun a hF=>q_skip hF (wanted_f hF rfl rfl rfl hc11 rfl) rfl fun a hF=>q_skip hF (wanted_f hF rfl rfl rfl hc11 rfl) rfl fun a hF=>q_skip hF (wanted_f hF rfl rfl rfl hc11 rfl) rfl fun a hF=>q_skip hF (wanted_f hF rfl rfl rfl hc11 rfl) rfl fun a hF=>q_x (v:=(.bool true)) hF hS (ex_pick_t rfl rfl hc11) rfl rfl fun a hF=>q_x (v:=(.bool true)) hF hS (ex_move rfl) rfl rfl fun a hF=>q_skip hF (wanted_f hF rfl rfl rfl rfl rfl) rfl fun a hF=>q_skip hF (wanted_f hF rfl rfl rfl rfl rfl) rfl fun a hF=>q_skip hF (wanted_f hF rfl rfl rfl rfl rfl) rfl fun a hF=>q_skip hF (wanted_f hF rfl rfl rfl rfl rfl) rfl fun a hF=>q_skip hF (wanted_f hF rfl rfl rfl rfl rfl) rfl fun a hF=>q_skip hF (wanted_f hF rfl rfl rfl rfl rfl) rfl fun a hF=>q_skip hF (wanted_f hF rfl rfl rfl rfl rfl) rfl fun a hF=>q_skip hF (wanted_f hF rfl rfl rfl rfl rfl) rfl fun a hF=>q_skip hF (wanted_f hF rfl rfl rfl rfl rfl) rfl fun a hF=>q_x (v:=(.bool true)) hF hS (ex_pick_t rfl rfl rfl) rfl rfl fun a hF=>q_end (n_jn ?_)
         obtain rfl:=someI hj10
         exact ⟨hF.sub ⟨rfl,rfl,rfl,rfl,rfl,rfl,rfl,rfl,rfl,trivial⟩,hS⟩
       ·rintro a w ⟨hF,hS⟩
        refine n_sq ?_
        rcases bcase (t_28) with hc13 | hc13
        ·have hb8:=cond_f hc13 hb8
         refine q_cond_f hF rfl hc13 (q_skipc (n_ib (n_sq (q_region (q_x (v:=(iV (w64 (t_15 + 1)))) hF hS (ex_ibin rfl rfl rfl) rfl rfl fun a hF=>q_x (v:=(iV (w64 (t_15 + 1)))) hF hS (ex_move rfl) rfl rfl fun a hF=>q_end ?_)))))
         obtain rfl:=someI hb8
         exact ⟨rfl,hF.sub ⟨rfl,rfl,rfl,rfl,rfl,rfl,rfl,rfl,trivial⟩,hS⟩
        ·have hb8:=cond_t hc13 hb8
         refine q_cond_t hF rfl hc13 (q_seq (q_region (q_x (v:=(.bool false)) hF hS (ex_assign rfl) rfl rfl fun a hF=>q_end (n_sq (q_ret (r_ib (r_sq ?_)))))))
         obtain rfl:=someI hb8
         refine ⟨nofun,.inr fun ho=>?_⟩
         subst ho
         refine r_ib (r_ib (r_sq ?_))
         obtain rfl:=someI hb6
         refine ⟨nofun,.inr fun ho=>?_⟩
         subst ho
         refine r_ib (r_sq ?_)
         obtain rfl:=someI hr
         exact ret_of hF hS rfl (.tmp rfl .nil) rfl
     ·rintro e a w ⟨rfl,rfl,hF,hS⟩
      refine x_ib (n_ib (n_sq ?_))
      refine q_region (q_x (v:=(iV (w64 (t_11 + 1)))) hF hS (ex_ibin rfl rfl rfl) rfl rfl fun a hF=>q_x (v:=(iV (w64 (t_11 + 1)))) hF hS (ex_move rfl) rfl rfl fun a hF=>q_end ?_)
      obtain rfl:=someI hb6
      exact ⟨rfl,hF.sub ⟨rfl,rfl,rfl,rfl,trivial⟩,hS⟩
   ·rintro e a w ⟨rfl,rfl,hF,hS⟩
    refine x_ib (n_sq ?_)
    refine q_seq (q_region (q_x (v:=(.bool true)) hF hS (ex_assign rfl) rfl rfl fun a hF=>q_end (n_sq (q_ret ?_))))
    obtain rfl:=someI hr
    exact ret_of hF hS rfl (.tmp rfl .nil) rfl
  ·have hr:=cond_t hc5 hr
   refine q_cond_t hF rfl hc5 (q_seq (q_region (q_x (v:=(.bool false)) hF hS (ex_assign rfl) rfl rfl fun a hF=>q_end (n_sq (q_ret (r_sq ?_))))))
   obtain rfl:=someI hr
   exact ret_of hF hS rfl (.tmp rfl .nil) rfl

theorem c_impl_IsFlow (p_t : impl_Transport) (p_x : List (List Int)) (r : Bool × Bool) (hr : impl_IsFlow p_t p_x = some r) (w0 : World) (m : Mem) (hv : Vis m w0) (s1 : Sl) (h1 : Rd m s1 p_t.Rows) (s2 : Sl) (h2 : Rd m s2 p_t.Cols) (s3 : Sl) (h3 : Rd m s3 p_t.Lo) (s4 : Sl) (h4 : Rd m s4 p_t.Hi) (s5 : Sl) (h5 : Rd m s5 p_x) :
  Ret Try.prog 31 [(.agg #[s1.v,s2.v,s3.v,s4.v]),s5.v] w0 (fun v _=>v = (.tuple #[(.bool r.1),(.bool r.2)])):=by
 unfold impl_IsFlow at hr
 refine ret_start Try.func31 rfl 72 rfl rfl m hv fun a hF hS=>q_seq (q_region (q_box (cs:=[s1.v,s2.v,s3.v,s4.v]) hF hS rfl rfl rfl fun a w b6 hF hS=>q_x (v:=(.bool false)) hF hS (ex_assign rfl) rfl rfl fun a hF=>q_x (v:=(.bool false)) hF hS (ex_assign rfl) rfl rfl fun a hF=>q_end (n_sq (q_seq (q_seq (q_region (q_x (v:=(.agg #[s1.v,s2.v,s3.v,s4.v])) hF hS (ex_loadA (vs:=[s1.v,s2.v,s3.v,s4.v]) 0 0 Try.underlying50 rfl sz50 rfl rfl rfl rfl) rfl rfl fun a hF=>?_)))))))
 obtain ⟨t_7,ht_7,hr⟩:=bindS hr
 refine q_call (vs:=[(.agg #[s1.v,s2.v,s3.v,s4.v])]) hF hS Try.func67 (by kernel_rfl) rfl rfl rfl (c_impl_IsTransport p_t t_7 ht_7 _ m hS.vis s1 h1 s2 h2 s3 h3 s4 h4) ?_
 rintro a w _ rfl hF hS
 refine q_x (v:=(.bool (!t_7))) hF hS (ex_not rfl) rfl rfl fun a hF=>q_end (n_sq ?_)
 rcases bcase (!t_7) with hc1 | hc1
 ·have hr:=cond_f hc1 hr
  refine q_cond_f hF rfl hc1 (q_skipc (n_sq (q_seq (q_seq (q_region (q_x (v:=s5.v) hF hS (ex_move rfl) rfl rfl fun a hF=>q_x (v:=(.pointer (some ⟨b6,0,none⟩))) hF hS (ex_fieldAddr Try.underlying50 rfl sz28 rfl rfl) rfl rfl fun a hF=>q_x (v:=s1.v) hF hS (ex_load1 0 0 Try.underlying28 rfl rfl rfl rfl) rfl rfl fun a hF=>q_x (v:=(iV (goLen p_t.Rows))) hF hS (ex_len Try.underlying28 rfl h1.len) rfl rfl fun a hF=>q_x (v:=(.pointer (some ⟨b6,1,none⟩))) hF hS (ex_fieldAddr Try.underlying50 rfl sz28 rfl rfl) rfl rfl fun a hF=>q_x (v:=s2.v) hF hS (ex_load1 0 0 Try.underlying28 rfl rfl rfl rfl) rfl rfl fun a hF=>q_x (v:=(iV (goLen p_t.Cols))) hF hS (ex_len Try.underlying28 rfl h2.len) rfl rfl fun a hF=>?_))))))
  obtain ⟨t_8,ht_8,hr⟩:=bindS hr
  refine q_call (vs:=[s5.v,(iV (goLen p_t.Rows)),(iV (goLen p_t.Cols))]) hF hS Try.func88 (by kernel_rfl) rfl rfl rfl (c_impl_hasShape p_x (goLen p_t.Rows) (goLen p_t.Cols) t_8 ht_8 _ m hS.vis s5 h5) ?_
  rintro a w _ rfl hF hS
  refine q_x (v:=(.bool (!t_8))) hF hS (ex_not rfl) rfl rfl fun a hF=>q_end (n_sq ?_)
  rcases bcase (!t_8) with hc2 | hc2
  ·have hr:=cond_f hc2 hr
   refine q_cond_f hF rfl hc2 (q_skipc (n_sq (q_seq (q_seq (q_region (q_x (v:=s5.v) hF hS (ex_move rfl) rfl rfl fun a hF=>q_x (v:=(iV (goLen p_x))) hF hS (ex_len Try.underlying23 rfl h5.len) rfl rfl fun a hF=>q_x (v:=(iV 0)) hF hS (ex_move rfl) rfl rfl fun a hF=>q_end (n_sq (q_block ?_))))))))
   obtain ⟨o3,hl3,hr⟩:=bindS hr
   refine q_loop (fun (t_9 : Int) a w=>Fr a 72 [(1,s5.v),(2,(.pointer (some ⟨b6,0,none⟩))),(22,s5.v),(23,(iV (goLen p_x))),(24,(iV t_9))]∧St [] w0 w m [[⟨b6,[s1.v,s2.v,s3.v,s4.v],50⟩]]) (fun (o : (Unit) ⊕ (Bool × Bool)) e a w=>o = .inl ()∧e = .exit 0∧Fr a 72 [(1,s5.v),(2,(.pointer (some ⟨b6,0,none⟩)))]∧St [] w0 w m [[⟨b6,[s1.v,s2.v,s3.v,s4.v],50⟩]]) hl3 ⟨hF.sub ⟨rfl,rfl,rfl,rfl,rfl,trivial⟩,hS⟩ ?_ ?_
   ·clear hF hS
    rintro t_9 a w st ⟨hF,hS⟩ hb3
    unfold impl_IsFlow_l1 at hb3
    refine q_seq (q_region (q_x (v:=(.bool (decide (t_9 < (goLen p_x))))) hF hS (ex_ibin rfl rfl rfl) rfl rfl fun a hF=>q_end (n_sq (q_seq ?_))))
    rcases bcase (decide (t_9 < (goLen p_x))) with hc4 | hc4
    ·have hb3:=cond_f hc4 hb3
     refine q_cond_f hF rfl hc4 (q_exit (x_sq ?_))
     obtain rfl:=someI hb3
     exact ⟨nofun,.inl ⟨rfl,rfl,hF.sub ⟨rfl,rfl,trivial⟩,hS⟩⟩
    ·have hb3:=cond_t hc4 hb3
     refine q_cond_t hF rfl hc4 (q_skipc (n_sq (q_seq (q_block (q_seq (q_region (q_x (v:=(iV t_9)) hF hS (ex_move rfl) rfl rfl fun a hF=>?_)))))))
     obtain ⟨e_10,he_10,hb3⟩:=bindS hb3
     obtain ⟨vs11,at11,d11⟩:=h5.at he_10 1 rfl
     obtain ⟨s12,rfl,h12⟩ : ∃ s12 : Sl,vs11 = [s12.v]∧Rd m s12 e_10:=d11
     refine q_x (v:=(elP s5 (t_9.toNat * 1))) hF hS (ex_indexAddr Try.underlying23 sz28 rfl rfl (h5.idx he_10)) rfl rfl fun a hF=>q_x (v:=s12.v) hF hS (ex_loadE1 0 Try.underlying28 rfl rfl ((at11).at) rfl rfl) rfl rfl fun a hF=>q_x (v:=(iV t_9)) hF hS (ex_assign rfl) rfl rfl fun a hF=>q_x (v:=s12.v) hF hS (ex_assign rfl) rfl rfl fun a hF=>q_end (n_sq (q_seq (q_region (q_x (v:=s12.v) hF hS (ex_move rfl) rfl rfl fun a hF=>q_x (v:=(iV (goLen e_10))) hF hS (ex_len Try.underlying28 rfl h12.len) rfl rfl fun a hF=>q_x (v:=(iV 0)) hF hS (ex_move rfl) rfl rfl fun a hF=>q_end (n_sq (q_block ?_))))))
     obtain ⟨o5,hl5,hb3⟩:=bindS hb3
     refine q_loop (fun (t_13 : Int) a w=>Fr a 72 [(1,s5.v),(2,(.pointer (some ⟨b6,0,none⟩))),(6,(iV t_9)),(22,s5.v),(23,(iV (goLen p_x))),(24,(iV t_9)),(29,s12.v),(30,(iV (goLen e_10))),(31,(iV t_13))]∧St [] w0 w m [[⟨b6,[s1.v,s2.v,s3.v,s4.v],50⟩]]) (fun (o : (Unit) ⊕ (Stp (Int) ((Unit) ⊕ (Bool × Bool)))) e a w=>o = .inl ()∧e = .exit 2∧Fr a 72 [(1,s5.v),(2,(.pointer (some ⟨b6,0,none⟩))),(22,s5.v),(23,(iV (goLen p_x))),(24,(iV t_9))]∧St [] w0 w m [[⟨b6,[s1.v,s2.v,s3.v,s4.v],50⟩]]) hl5 ⟨hF.sub ⟨rfl,rfl,rfl,rfl,rfl,rfl,rfl,rfl,rfl,trivial⟩,hS⟩ ?_ ?_
     ·clear hF hS
      rintro t_13 a w st ⟨hF,hS⟩ hb5
      unfold impl_IsFlow_l2 at hb5
      refine q_seq (q_region (q_x (v:=(.bool (decide (t_13 < (goLen e_10))))) hF hS (ex_ibin rfl rfl rfl) rfl rfl fun a hF=>q_end (n_sq (q_seq ?_))))
      rcases bcase (decide (t_13 < (goLen e_10))) with hc6 | hc6
      ·have hb5:=cond_f hc6 hb5
       refine q_cond_f hF rfl hc6 (q_exit (x_sq ?_))
       obtain rfl:=someI hb5
       exact ⟨nofun,.inl ⟨rfl,rfl,hF.sub ⟨rfl,rfl,rfl,rfl,rfl,trivial⟩,hS⟩⟩
      ·have hb5:=cond_t hc6 hb5
       refine q_cond_t hF rfl hc6 (q_skipc (n_sq (q_seq (q_block (q_seq (q_region (q_x (v:=(iV t_13)) hF hS (ex_move rfl) rfl rfl fun a hF=>?_)))))))
       obtain ⟨e_14,he_14,hb5⟩:=bindS hb5
       obtain ⟨vs15,at15,d15⟩:=h12.at he_14 1 rfl
       obtain rfl : vs15 = [(iV e_14)]:=d15
       refine q_x (v:=(elP s12 (t_13.toNat * 1))) hF hS (ex_indexAddr Try.underlying28 sz3 rfl rfl (h12.idx he_14)) rfl rfl fun a hF=>q_x (v:=(iV e_14)) hF hS (ex_loadE1 0 Try.underlying3 rfl rfl ((at15).at) rfl rfl) rfl rfl fun a hF=>q_x (v:=(iV t_13)) hF hS (ex_assign rfl) rfl rfl fun a hF=>q_x (v:=(iV e_14)) hF hS (ex_assign rfl) rfl rfl fun a hF=>q_end (n_sq (q_seq ?_))
       obtain ⟨t_26,hj7,hb5⟩:=bindS hb5
       refine q_join (fun a w=>Fr a 72 [(1,s5.v),(2,(.pointer (some ⟨b6,0,none⟩))),(6,(iV t_9)),(22,s5.v),(23,(iV (goLen p_x))),(24,(iV t_9)),(29,s12.v),(30,(iV (goLen e_10))),(31,(iV t_13)),(57,(.bool t_26))]∧St [] w0 w m [[⟨b6,[s1.v,s2.v,s3.v,s4.v],50⟩]]) ?_ ?_
       ·refine q_region (q_x (v:=(iV e_14)) hF hS (ex_move rfl) rfl rfl fun a hF=>q_x (v:=(.pointer (some ⟨b6,2,none⟩))) hF hS (ex_fieldAddr Try.underlying50 rfl sz23 rfl rfl) rfl rfl fun a hF=>q_x (v:=s3.v) hF hS (ex_load1 0 0 Try.underlying23 rfl rfl rfl rfl) rfl rfl fun a hF=>q_x (v:=(iV t_9)) hF hS (ex_move rfl) rfl rfl fun a hF=>?_)
        obtain ⟨e_16,he_16,hj7⟩:=bindS hj7
        obtain ⟨vs17,at17,d17⟩:=h3.at he_16 1 rfl
        obtain ⟨s18,rfl,h18⟩ : ∃ s18 : Sl,vs17 = [s18.v]∧Rd m s18 e_16:=d17
        refine q_x (v:=(elP s3 (t_9.toNat * 1))) hF hS (ex_indexAddr Try.underlying23 sz28 rfl rfl (h3.idx he_16)) rfl rfl fun a hF=>q_x (v:=s18.v) hF hS (ex_loadE1 0 Try.underlying28 rfl rfl ((at17).at) rfl rfl) rfl rfl fun a hF=>q_x (v:=(iV t_13)) hF hS (ex_move rfl) rfl rfl fun a hF=>?_
        obtain ⟨e_19,he_19,hj7⟩:=bindS hj7
        obtain ⟨vs20,at20,d20⟩:=h18.at he_19 1 rfl
        obtain rfl : vs20 = [(iV e_19)]:=d20
        refine q_x (v:=(elP s18 (t_13.toNat * 1))) hF hS (ex_indexAddr Try.underlying28 sz3 rfl rfl (h18.idx he_19)) rfl rfl fun a hF=>q_x (v:=(iV e_19)) hF hS (ex_loadE1 0 Try.underlying3 rfl rfl ((at20).at) rfl rfl) rfl rfl fun a hF=>q_x (v:=(.bool (decide (e_14 < e_19)))) hF hS (ex_ibin rfl rfl rfl) rfl rfl fun a hF=>q_x (v:=(.bool (decide (e_14 < e_19)))) hF hS (ex_move rfl) rfl rfl fun a hF=>?_
        rcases bcase (decide (e_14 < e_19)) with hc8 | hc8
        ·have hj7:=cond_f hc8 hj7
         refine q_xg (v:=(iV e_14)) hF hS (ex_move rfl) (wanted_t hF rfl rfl rfl hc8) rfl fun a hF=>q_xg (v:=(.pointer (some ⟨b6,3,none⟩))) hF hS (ex_fieldAddr Try.underlying50 rfl sz23 rfl rfl) (wanted_t hF rfl rfl rfl hc8) rfl fun a hF=>q_xg (v:=s4.v) hF hS (ex_load1 0 0 Try.underlying23 rfl rfl rfl rfl) (wanted_t hF rfl rfl rfl hc8) rfl fun a hF=>q_xg (v:=(iV t_9)) hF hS (ex_move rfl) (wanted_t hF rfl rfl rfl hc8) rfl fun a hF=>?_
         obtain ⟨e_21,he_21,hj7⟩:=bindS hj7
         obtain ⟨vs22,at22,d22⟩:=h4.at he_21 1 rfl
         obtain ⟨s23,rfl,h23⟩ : ∃ s23 : Sl,vs22 = [s23.v]∧Rd m s23 e_21:=d22
         refine q_xg (v:=(elP s4 (t_9.toNat * 1))) hF hS (ex_indexAddr Try.underlying23 sz28 rfl rfl (h4.idx he_21)) (wanted_t hF rfl rfl rfl hc8) rfl fun a hF=>q_xg (v:=s23.v) hF hS (ex_loadE1 0 Try.underlying28 rfl rfl ((at22).at) rfl rfl) (wanted_t hF rfl rfl rfl hc8) rfl fun a hF=>q_xg (v:=(iV t_13)) hF hS (ex_move rfl) (wanted_t hF rfl rfl rfl hc8) rfl fun a hF=>?_
         obtain ⟨e_24,he_24,hj7⟩:=bindS hj7
         obtain ⟨vs25,at25,d25⟩:=h23.at he_24 1 rfl
         obtain rfl : vs25 = [(iV e_24)]:=d25
         refine q_xg (v:=(elP s23 (t_13.toNat * 1))) hF hS (ex_indexAddr Try.underlying28 sz3 rfl rfl (h23.idx he_24)) (wanted_t hF rfl rfl rfl hc8) rfl fun a hF=>q_xg (v:=(iV e_24)) hF hS (ex_loadE1 0 Try.underlying3 rfl rfl ((at25).at) rfl rfl) (wanted_t hF rfl rfl rfl hc8) rfl fun a hF=>q_xg (v:=(.bool (decide (e_24 < e_14)))) hF hS (ex_ibin rfl rfl rfl) (wanted_t hF rfl rfl rfl hc8) rfl fun a hF=>q_x (v:=(.bool (decide (e_24 < e_14)))) hF hS (ex_pick_f rfl rfl hc8) rfl rfl fun a hF=>q_end (n_jn ?_)
         obtain rfl:=someI hj7
         exact ⟨hF.sub ⟨rfl,rfl,rfl,rfl,rfl,rfl,rfl,rfl,rfl,rfl,trivial⟩,hS⟩
        ·have hj7:=cond_t hc8 hj7
         refine q_skip hF (wanted_f hF rfl rfl rfl hc8 rfl) rfl fun a hF=>q_skip hF (wanted_f hF rfl rfl rfl hc8 rfl) rfl fun a hF=>q_skip hF (wanted_f hF rfl rfl rfl hc8 rfl) rfl fun a hF=>q_skip hF (wanted_f hF rfl rfl rfl hc8 rfl) rfl fun a hF=>q_skip hF (wanted_f hF rfl rfl rfl hc8 rfl) rfl fun a hF=>q_skip hF (wanted_f hF rfl rfl rfl hc8 rfl) rfl fun a hF=>q_skip hF (wanted_f hF rfl rfl rfl hc8 rfl) rfl fun a hF=>q_skip hF (wanted_f hF rfl rfl rfl hc8 rfl) rfl fun a hF=>q_skip hF (wanted_f hF rfl rfl rfl hc8 rfl) rfl fun a hF=>q_skip hF (wanted_f hF rfl rfl rfl hc8 rfl) rfl fun a hF=>q_x (v:=(.bool true)) hF hS (ex_pick_t rfl rfl hc8) rfl rfl fun a hF=>q_end (n_jn ?_)
         obtain rfl:=someI hj7
         exact ⟨hF.sub ⟨rfl,rfl,rfl,rfl,rfl,rfl,rfl,rfl,rfl,rfl,trivial⟩,hS⟩
       ·rintro a w ⟨hF,hS⟩
        refine n_sq ?_
        rcases bcase (t_26) with hc9 | hc9
        ·have hb5:=cond_f hc9 hb5
         refine q_cond_f hF rfl hc9 (q_skipc (n_ib (n_sq (q_region (q_x (v:=(iV (w64 (t_13 + 1)))) hF hS (ex_ibin rfl rfl rfl) rfl rfl fun a hF=>q_x (v:=(iV (w64 (t_13 + 1)))) hF hS (ex_move rfl) rfl rfl fun a hF=>q_end ?_)))))
         obtain rfl:=someI hb5
         exact ⟨rfl,hF.sub ⟨rfl,rfl,rfl,rfl,rfl,rfl,rfl,rfl,rfl,trivial⟩,hS⟩
        ·have hb5:=cond_t hc9 hb5
         refine q_cond_t hF rfl hc9 (q_seq (q_region (q_x (v:=(.bool false)) hF hS (ex_assign rfl) rfl rfl fun a hF=>q_x (v:=(.bool true)) hF hS (ex_assign rfl) rfl rfl fun a hF=>q_end (n_sq (q_ret (r_ib (r_sq ?_)))))))
         obtain rfl:=someI hb5
         refine ⟨nofun,.inr fun ho=>?_⟩
         subst ho
         refine r_ib (r_ib (r_sq ?_))
         obtain rfl:=someI hb3
         refine ⟨nofun,.inr fun ho=>?_⟩
         subst ho
         refine r_ib (r_sq ?_)
         obtain rfl:=someI hr
         exact ret_of hF hS rfl (.tmp rfl (.tmp rfl .nil)) rfl
     ·rintro e a w ⟨rfl,rfl,hF,hS⟩
      refine x_ib (n_ib (n_sq ?_))
      refine q_region (q_x (v:=(iV (w64 (t_9 + 1)))) hF hS (ex_ibin rfl rfl rfl) rfl rfl fun a hF=>q_x (v:=(iV (w64 (t_9 + 1)))) hF hS (ex_move rfl) rfl rfl fun a hF=>q_end ?_)
      obtain rfl:=someI hb3
      exact ⟨rfl,hF.sub ⟨rfl,rfl,rfl,rfl,rfl,trivial⟩,hS⟩
   ·rintro e a w ⟨rfl,rfl,hF,hS⟩
    refine x_ib (n_sq ?_)
    refine q_seq ?_
    obtain ⟨t_49,hj10,hr⟩:=bindS hr
    refine q_join (fun a w=>Fr a 72 [(4,(.bool t_49)),(5,(.bool true))]∧St [] w0 w m []) ?_ ?_
    ·refine e_region ⟨[],[],m⟩ mixed fun w' hw'=>?_
     have hS:=hS.below hw'
     refine e_p (v:=s5.v) 0 hF rfl (ex_move rfl) rfl rfl (by kernel_rfl) (by kernel_rfl) (by kernel_rfl) fun a hF=>e_p (v:=(.pointer (some ⟨b6,0,none⟩))) 2 hF rfl (ex_fieldAddr Try.underlying50 rfl sz28 rfl rfl) rfl rfl (by kernel_rfl) (by kernel_rfl) (by kernel_rfl) fun a hF=>e_x (v:=s1.v) 3 hF hS rfl (ex_load1 0 0 Try.underlying28 rfl rfl rfl rfl) rfl rfl (by kernel_rfl) (by kernel_rfl) (by kernel_rfl) (by kernel_rfl) fun a hF=>e_one 1 (by kernel_rfl) ?_
     obtain ⟨t_33,ht_33,hj10⟩:=bindS hj10
     refine e_call (vs:=[s5.v]) hF hS rfl Try.func104 (by kernel_rfl) rfl rfl rfl (c_impl_rowSums p_x t_33 ht_33 _ m hS.vis s5 h5) ?_
     rintro a w _ ⟨q35,s35,rfl,hR34,h35⟩ hF hS2
     have hS : St _ _ _ _ [q35,[⟨b6,[s1.v,s2.v,s3.v,s4.v],50⟩]]:=hS.joinF hR34
     refine e_one 4 (by kernel_rfl) ?_
     obtain ⟨m37,hl37,hv37,hz37⟩:=hS.lend
     obtain ⟨t_36,ht_36,hj10⟩:=bindS hj10
     refine e_call (vs:=[s35.v,s1.v]) hF hS rfl Try.func103 (by kernel_rfl) rfl rfl rfl (c_slices_Equal_int_int t_33 p_t.Rows t_36 ht_36 _ m37 hv37 s35 (h35.froz hl37 (hz37 0 _ rfl)) s1 (h1.mono hl37)) ?_
     rintro a w _ rfl hF hS
     refine e_p (v:=(.bool t_36)) 5 hF rfl (ex_move rfl) rfl rfl (by kernel_rfl) (by kernel_rfl) (by kernel_rfl) fun a hF=>?_
     rcases bcase (t_36) with hc11 | hc11
     ·have hj10:=cond_f hc11 hj10
      refine e_skipP 6 hF rfl (wanted_f hF rfl rfl rfl hc11 rfl) rfl (by kernel_rfl) (by kernel_rfl) (by kernel_rfl) fun a hF=>e_skipP 7 hF rfl (wanted_f hF rfl rfl rfl hc11 rfl) rfl (by kernel_rfl) (by kernel_rfl) (by kernel_rfl) fun a hF=>e_skipP 8 hF rfl (wanted_f hF rfl rfl rfl hc11 rfl) rfl (by kernel_rfl) (by kernel_rfl) (by kernel_rfl) fun a hF=>e_skipP 9 hF rfl (wanted_f hF rfl rfl rfl hc11 rfl) rfl (by kernel_rfl) (by kernel_rfl) (by kernel_rfl) fun a hF=>e_skipP 10 hF rfl (wanted_f hF rfl rfl rfl hc11 rfl) rfl (by kernel_rfl) (by kernel_rfl) (by kernel_rfl) fun a hF=>e_p (v:=(.bool false)) 11 hF rfl (ex_pick_f rfl rfl hc11) rfl rfl (by kernel_rfl) (by kernel_rfl) (by kernel_rfl) fun a hF=>e_p (v:=(.bool false)) 12 hF rfl (ex_assign rfl) rfl rfl (by kernel_rfl) (by kernel_rfl) (by kernel_rfl) fun a hF=>e_p (v:=(.bool true)) 13 hF rfl (ex_assign rfl) rfl rfl (by kernel_rfl) (by kernel_rfl) (by kernel_rfl) fun a hF=>e_end (by kernel_rfl) (n_jn ?_) _
      obtain rfl:=someI hj10
      exact ⟨hF.sub ⟨rfl,rfl,trivial⟩,hS.mask [false,false]⟩
     ·have hj10:=cond_t hc11 hj10
      refine e_pg (v:=s5.v) 6 hF rfl (ex_move rfl) (wanted_t hF rfl rfl rfl hc11) rfl (by kernel_rfl) (by kernel_rfl) (by kernel_rfl) fun a hF=>e_pg (v:=(.pointer (some ⟨b6,1,none⟩))) 8 hF rfl (ex_fieldAddr Try.underlying50 rfl sz28 rfl rfl) (wanted_t hF rfl rfl rfl hc11) rfl (by kernel_rfl) (by kernel_rfl) (by kernel_rfl) fun a hF=>e_xg (v:=s2.v) 9 hF hS rfl (ex_load1 1 0 Try.underlying28 rfl rfl rfl rfl) (wanted_t hF rfl rfl rfl hc11) rfl (by kernel_rfl) (by kernel_rfl) (by kernel_rfl) (by kernel_rfl) fun a hF=>e_one 7 (by kernel_rfl) ?_
      obtain ⟨t_44,ht_44,hj10⟩:=bindS hj10
      refine e_callg (vs:=[s5.v]) hF hS rfl (wanted_t hF rfl rfl rfl hc11) Try.func105 (by kernel_rfl) rfl rfl rfl (c_impl_colSums p_x t_44 ht_44 _ m hS.vis s5 h5) ?_
      rintro a w _ ⟨q46,s46,rfl,hR45,h46⟩ hF hS2
      have hS : St _ _ _ _ [q46,q35,[⟨b6,[s1.v,s2.v,s3.v,s4.v],50⟩]]:=hS.joinF hR45
      refine e_one 10 (by kernel_rfl) ?_
      obtain ⟨m48,hl48,hv48,hz48⟩:=hS.lend
      obtain ⟨t_47,ht_47,hj10⟩:=bindS hj10
      refine e_callg (vs:=[s46.v,s2.v]) hF hS rfl (wanted_t hF rfl rfl rfl hc11) Try.func103 (by kernel_rfl) rfl rfl rfl (c_slices_Equal_int_int t_44 p_t.Cols t_47 ht_47 _ m48 hv48 s46 (h46.froz hl48 (hz48 0 _ rfl)) s2 (h2.mono hl48)) ?_
      rintro a w _ rfl hF hS
      refine e_p (v:=(.bool t_47)) 11 hF rfl (ex_pick_t rfl rfl hc11) rfl rfl (by kernel_rfl) (by kernel_rfl) (by kernel_rfl) fun a hF=>e_p (v:=(.bool t_47)) 12 hF rfl (ex_assign rfl) rfl rfl (by kernel_rfl) (by kernel_rfl) (by kernel_rfl) fun a hF=>e_p (v:=(.bool true)) 13 hF rfl (ex_assign rfl) rfl rfl (by kernel_rfl) (by kernel_rfl) (by kernel_rfl) fun a hF=>e_end (by kernel_rfl) (n_jn ?_) _
      obtain rfl:=someI hj10
      exact ⟨hF.sub ⟨rfl,rfl,trivial⟩,hS.mask [false,false,false]⟩
    ·rintro a w ⟨hF,hS⟩
     refine n_sq (q_ret ?_)
     obtain rfl:=someI hr
     exact ret_of hF hS rfl (.tmp rfl (.tmp rfl .nil)) rfl
  ·have hr:=cond_t hc2 hr
   refine q_cond_t hF rfl hc2 (q_seq (q_region (q_x (v:=(.bool false)) hF hS (ex_assign rfl) rfl rfl fun a hF=>q_x (v:=(.bool true)) hF hS (ex_assign rfl) rfl rfl fun a hF=>q_end (n_sq (q_ret (r_sq ?_))))))
   obtain rfl:=someI hr
   exact ret_of hF hS rfl (.tmp rfl (.tmp rfl .nil)) rfl
 ·have hr:=cond_t hc1 hr
  refine q_cond_t hF rfl hc1 (q_seq (q_region (q_x (v:=(.bool false)) hF hS (ex_assign rfl) rfl rfl fun a hF=>q_x (v:=(.bool false)) hF hS (ex_assign rfl) rfl rfl fun a hF=>q_end (n_sq (q_ret (r_sq ?_))))))
  obtain rfl:=someI hr
  exact ret_of hF hS rfl (.tmp rfl (.tmp rfl .nil)) rfl

theorem c_laws_FnWitnesses (p_code : List (K .u8)) (p_more : List (K .u8)) (r : Bool) (hr : laws_FnWitnesses p_code p_more = some r) (w0 : World) (m : Mem) (hv : Vis m w0) (s1 : Sl) (h1 : Rd m s1 p_code) (s2 : Sl) (h2 : Rd m s2 p_more) :
  Ret Try.prog 5 [s1.v,s2.v] w0 (fun v _=>v = (.bool r)):=by
 unfold laws_FnWitnesses at hr
 refine ret_start Try.func5 rfl 252 rfl rfl m hv fun a hF hS=>q_seq (q_region (q_x (v:=(.bool false)) hF hS (ex_assign rfl) rfl rfl fun a hF=>q_end (n_sq (q_seq (q_seq (q_region (q_x (v:=s1.v) hF hS (ex_move rfl) rfl rfl fun a hF=>q_x (v:=(iV (goLen p_code))) hF hS (ex_len Try.underlying22 rfl h1.len) rfl rfl fun a hF=>q_x (v:=s2.v) hF hS (ex_move rfl) rfl rfl fun a hF=>q_x (v:=(iV (goLen p_more))) hF hS (ex_len Try.underlying22 rfl h2.len) rfl rfl fun a hF=>q_x (v:=(iV (w64 ((goLen p_code) + (goLen p_more))))) hF hS (ex_ibin rfl rfl rfl) rfl rfl fun a hF=>q_x (v:=(.bool (decide (1048576 < (w64 ((goLen p_code) + (goLen p_more))))))) hF hS (ex_ibin rfl rfl rfl) rfl rfl fun a hF=>q_end (n_sq ?_))))))))
 rcases bcase (decide (1048576 < (w64 ((goLen p_code) + (goLen p_more))))) with hc1 | hc1
 ·have hr:=cond_f hc1 hr
  refine q_cond_f hF rfl hc1 (q_skipc (n_sq (q_seq (q_region (q_x (v:=s1.v) hF hS (ex_move rfl) rfl rfl fun a hF=>?_)))))
  obtain ⟨t_3,ht_3,hr⟩:=bindS hr
  refine q_call (vs:=[s1.v]) hF hS Try.func34 (by kernel_rfl) rfl rfl rfl (c_spec_DrawIsProtected p_code t_3 ht_3 _ m hS.vis s1 h1) ?_
  rintro a w _ ⟨q5,q6,s5,s6,rfl,hR4,h5,h6⟩ hF hS2
  have hS : St _ _ _ _ [q5,q6]:=hS.joinF hR4
  refine q_x (v:=(.tuple #[s5.v,s6.v,(iV t_3.2.2.1),(iV t_3.2.2.2.1),(iV t_3.2.2.2.2.1),(iV t_3.2.2.2.2.2)])) hF hS (ex_move rfl) rfl rfl fun a hF=>q_x (v:=s5.v) hF hS (ex_extract rfl rfl) rfl rfl fun a hF=>q_x (v:=s6.v) hF hS (ex_extract rfl rfl) rfl rfl fun a hF=>q_x (v:=(iV t_3.2.2.1)) hF hS (ex_extract rfl rfl) rfl rfl fun a hF=>q_x (v:=(iV t_3.2.2.2.1)) hF hS (ex_extract rfl rfl) rfl rfl fun a hF=>q_x (v:=(iV t_3.2.2.2.2.1)) hF hS (ex_extract rfl rfl) rfl rfl fun a hF=>q_x (v:=(iV t_3.2.2.2.2.2)) hF hS (ex_extract rfl rfl) rfl rfl fun a hF=>q_x (v:=s5.v) hF hS (ex_assign rfl) rfl rfl fun a hF=>q_x (v:=s6.v) hF hS (ex_assign rfl) rfl rfl fun a hF=>q_x (v:=(iV t_3.2.2.1)) hF hS (ex_assign rfl) rfl rfl fun a hF=>q_x (v:=(iV t_3.2.2.2.1)) hF hS (ex_assign rfl) rfl rfl fun a hF=>q_x (v:=(iV t_3.2.2.2.2.1)) hF hS (ex_assign rfl) rfl rfl fun a hF=>q_x (v:=(iV t_3.2.2.2.2.2)) hF hS (ex_assign rfl) rfl rfl fun a hF=>q_end (n_sq (q_seq (q_region (q_x (v:=s5.v) hF hS (ex_move rfl) rfl rfl fun a hF=>q_x (v:=s6.v) hF hS (ex_move rfl) rfl rfl fun a hF=>q_x (v:=(iV t_3.2.2.1)) hF hS (ex_move rfl) rfl rfl fun a hF=>q_x (v:=(iV t_3.2.2.2.1)) hF hS (ex_move rfl) rfl rfl fun a hF=>q_x (v:=(iV t_3.2.2.2.2.1)) hF hS (ex_move rfl) rfl rfl fun a hF=>q_x (v:=(iV t_3.2.2.2.2.2)) hF hS (ex_move rfl) rfl rfl fun a hF=>?_))))
  obtain ⟨m8,hl8,hv8,hz8⟩:=hS.lend
  obtain ⟨t_7,ht_7,hr⟩:=bindS hr
  refine q_call (vs:=[s5.v,s6.v,(iV t_3.2.2.1),(iV t_3.2.2.2.1),(iV t_3.2.2.2.2.1),(iV t_3.2.2.2.2.2)]) hF hS Try.func35 (by kernel_rfl) rfl rfl rfl (c_impl_IsProtected t_3.1 t_3.2.1 t_3.2.2.1 t_3.2.2.2.1 t_3.2.2.2.2.1 t_3.2.2.2.2.2 t_7 ht_7 _ m8 hv8 s5 (h5.froz hl8 (hz8 0 _ rfl)) s6 (h6.froz hl8 (hz8 1 _ rfl))) ?_
  rintro a w _ rfl hF hS
  refine q_x (v:=(.tuple #[(.bool t_7.1),(.bool t_7.2)])) hF hS (ex_move rfl) rfl rfl fun a hF=>q_x (v:=(.bool t_7.1)) hF hS (ex_extract rfl rfl) rfl rfl fun a hF=>q_x (v:=(.bool t_7.2)) hF hS (ex_extract rfl rfl) rfl rfl fun a hF=>q_x (v:=(.bool t_7.1)) hF hS (ex_assign rfl) rfl rfl fun a hF=>q_x (v:=(.bool t_7.2)) hF hS (ex_assign rfl) rfl rfl fun a hF=>q_end (n_sq (q_seq (q_region (q_x (v:=s5.v) hF hS (ex_move rfl) rfl rfl fun a hF=>q_x (v:=s6.v) hF hS (ex_move rfl) rfl rfl fun a hF=>q_x (v:=(iV t_3.2.2.1)) hF hS (ex_move rfl) rfl rfl fun a hF=>q_x (v:=(iV t_3.2.2.2.1)) hF hS (ex_move rfl) rfl rfl fun a hF=>q_x (v:=(iV t_3.2.2.2.2.1)) hF hS (ex_move rfl) rfl rfl fun a hF=>q_x (v:=(iV t_3.2.2.2.2.2)) hF hS (ex_move rfl) rfl rfl fun a hF=>?_))))
  obtain ⟨m10,hl10,hv10,hz10⟩:=hS.lend
  obtain ⟨t_9,ht_9,hr⟩:=bindS hr
  refine q_call (vs:=[s5.v,s6.v,(iV t_3.2.2.1),(iV t_3.2.2.2.1),(iV t_3.2.2.2.2.1),(iV t_3.2.2.2.2.2)]) hF hS Try.func36 (by kernel_rfl) rfl rfl rfl (c_spec_IsProtected t_3.1 t_3.2.1 t_3.2.2.1 t_3.2.2.2.1 t_3.2.2.2.2.1 t_3.2.2.2.2.2 t_9 ht_9 _ m10 hv10 s5 (h5.froz hl10 (hz10 0 _ rfl)) s6 (h6.froz hl10 (hz10 1 _ rfl))) ?_
  rintro a w _ rfl hF hS
  refine q_x (v:=(.tuple #[(.bool t_9.1),(.bool t_9.2)])) hF hS (ex_move rfl) rfl rfl fun a hF=>q_x (v:=(.bool t_9.1)) hF hS (ex_extract rfl rfl) rfl rfl fun a hF=>q_x (v:=(.bool t_9.2)) hF hS (ex_extract rfl rfl) rfl rfl fun a hF=>q_x (v:=(.bool t_9.1)) hF hS (ex_assign rfl) rfl rfl fun a hF=>q_x (v:=(.bool t_9.2)) hF hS (ex_assign rfl) rfl rfl fun a hF=>q_end (n_sq (q_seq (q_region (q_x (v:=s2.v) hF hS (ex_move rfl) rfl rfl fun a hF=>?_))))
  obtain ⟨t_11,ht_11,hr⟩:=bindS hr
  refine q_call (vs:=[s2.v]) hF hS Try.func37 (by kernel_rfl) rfl rfl rfl (c_spec_DrawNeedsPartners p_more t_11 ht_11 _ m hS.vis s2 h2) ?_
  have hT:=hS
  rintro a w _ ⟨m12,q13,s13,s14,s15,rfl,hm12,hR12,h13,h14,h15⟩ hF hS2
  have hS : St _ _ _ _ [q13,q5,q6]:=hS.join hR12 hm12
  have hm12:=MLe.weakX (O0:=[]) hT hm12
  refine q_x (v:=(.tuple #[s13.v,s14.v,s15.v])) hF hS (ex_move rfl) rfl rfl fun a hF=>q_x (v:=s13.v) hF hS (ex_extract rfl rfl) rfl rfl fun a hF=>q_x (v:=s14.v) hF hS (ex_extract rfl rfl) rfl rfl fun a hF=>q_x (v:=s15.v) hF hS (ex_extract rfl rfl) rfl rfl fun a hF=>q_x (v:=s13.v) hF hS (ex_assign rfl) rfl rfl fun a hF=>q_x (v:=s14.v) hF hS (ex_assign rfl) rfl rfl fun a hF=>q_x (v:=s15.v) hF hS (ex_assign rfl) rfl rfl fun a hF=>q_end (n_sq (q_seq (q_region (q_x (v:=s13.v) hF hS (ex_move rfl) rfl rfl fun a hF=>q_x (v:=s14.v) hF hS (ex_move rfl) rfl rfl fun a hF=>q_x (v:=s15.v) hF hS (ex_move rfl) rfl rfl fun a hF=>?_))))
  obtain ⟨m17,hl17,hv17,hz17⟩:=hS.lend
  obtain ⟨t_16,ht_16,hr⟩:=bindS hr
  refine q_call (vs:=[s13.v,s14.v,s15.v]) hF hS Try.func38 (by kernel_rfl) rfl rfl rfl (c_impl_NeedsPartners t_11.1 t_11.2.1 t_11.2.2 t_16 ht_16 _ m17 hv17 s13 (h13.froz hl17 (hz17 0 _ rfl)) s14 (h14.mono hl17) s15 (h15.mono hl17)) ?_
  rintro a w _ rfl hF hS
  refine q_x (v:=(.tuple #[(.bool t_16.1),(.bool t_16.2)])) hF hS (ex_move rfl) rfl rfl fun a hF=>q_x (v:=(.bool t_16.1)) hF hS (ex_extract rfl rfl) rfl rfl fun a hF=>q_x (v:=(.bool t_16.2)) hF hS (ex_extract rfl rfl) rfl rfl fun a hF=>q_x (v:=(.bool t_16.1)) hF hS (ex_assign rfl) rfl rfl fun a hF=>q_x (v:=(.bool t_16.2)) hF hS (ex_assign rfl) rfl rfl fun a hF=>q_end (n_sq (q_seq (q_region (q_x (v:=s13.v) hF hS (ex_move rfl) rfl rfl fun a hF=>q_x (v:=s14.v) hF hS (ex_move rfl) rfl rfl fun a hF=>q_x (v:=s15.v) hF hS (ex_move rfl) rfl rfl fun a hF=>?_))))
  obtain ⟨m19,hl19,hv19,hz19⟩:=hS.lend
  obtain ⟨t_18,ht_18,hr⟩:=bindS hr
  refine q_call (vs:=[s13.v,s14.v,s15.v]) hF hS Try.func39 (by kernel_rfl) rfl rfl rfl (c_spec_NeedsPartners t_11.1 t_11.2.1 t_11.2.2 t_18 ht_18 _ m19 hv19 s13 (h13.froz hl19 (hz19 0 _ rfl)) s14 (h14.mono hl19) s15 (h15.mono hl19)) ?_
  rintro a w _ rfl hF hS
  refine q_x (v:=(.tuple #[(.bool t_18.1),(.bool t_18.2)])) hF hS (ex_move rfl) rfl rfl fun a hF=>q_x (v:=(.bool t_18.1)) hF hS (ex_extract rfl rfl) rfl rfl fun a hF=>q_x (v:=(.bool t_18.2)) hF hS (ex_extract rfl rfl) rfl rfl fun a hF=>q_x (v:=(.bool t_18.1)) hF hS (ex_assign rfl) rfl rfl fun a hF=>q_x (v:=(.bool t_18.2)) hF hS (ex_assign rfl) rfl rfl fun a hF=>q_end (n_sq (q_seq (q_seq ?_)))
  obtain ⟨t_20,hj2,hr⟩:=bindS hr
  refine q_join (fun a w=>Fr a 252 [(5,s5.v),(6,s6.v),(7,(iV t_3.2.2.1)),(8,(iV t_3.2.2.2.1)),(9,(iV t_3.2.2.2.2.1)),(10,(iV t_3.2.2.2.2.2)),(11,(.bool t_7.1)),(12,(.bool t_7.2)),(110,(.bool t_20))]∧St [] w0 w m12 [q5,q6]) ?_ ?_
  ·refine q_region (q_x (v:=(.bool t_7.2)) hF hS (ex_move rfl) rfl rfl fun a hF=>q_x (v:=(.bool t_9.2)) hF hS (ex_move rfl) rfl rfl fun a hF=>q_x (v:=(.bool (t_7.2 != t_9.2))) hF hS (ex_bne Try.underlying4 rfl rfl) rfl rfl fun a hF=>q_x (v:=(.bool (t_7.2 != t_9.2))) hF hS (ex_move rfl) rfl rfl fun a hF=>?_)
   rcases bcase (t_7.2 != t_9.2) with hc3 | hc3
   ·have hj2:=cond_f hc3 hj2
    refine q_xg (v:=(.bool t_7.1)) hF hS (ex_move rfl) (wanted_t hF rfl rfl rfl hc3) rfl fun a hF=>q_xg (v:=(.bool t_9.1)) hF hS (ex_move rfl) (wanted_t hF rfl rfl rfl hc3) rfl fun a hF=>q_xg (v:=(.bool (t_7.1 != t_9.1))) hF hS (ex_bne Try.underlying4 rfl rfl) (wanted_t hF rfl rfl rfl hc3) rfl fun a hF=>q_x (v:=(.bool (t_7.1 != t_9.1))) hF hS (ex_pick_f rfl rfl hc3) rfl rfl fun a hF=>q_x (v:=(.bool (t_7.1 != t_9.1))) hF hS (ex_move rfl) rfl rfl fun a hF=>?_
    rcases bcase (t_7.1 != t_9.1) with hc4 | hc4
    ·have hj2:=cond_f hc4 hj2
     refine q_xg (v:=(.bool t_16.2)) hF hS (ex_move rfl) (wanted_t hF rfl rfl rfl hc4) rfl fun a hF=>q_xg (v:=(.bool t_18.2)) hF hS (ex_move rfl) (wanted_t hF rfl rfl rfl hc4) rfl fun a hF=>q_xg (v:=(.bool (t_16.2 != t_18.2))) hF hS (ex_bne Try.underlying4 rfl rfl) (wanted_t hF rfl rfl rfl hc4) rfl fun a hF=>q_x (v:=(.bool (t_16.2 != t_18.2))) hF hS (ex_pick_f rfl rfl hc4) rfl rfl fun a hF=>q_x (v:=(.bool (t_16.2 != t_18.2))) hF hS (ex_move rfl) rfl rfl fun a hF=>?_
     rcases bcase (t_16.2 != t_18.2) with hc5 | hc5
     ·have hj2:=cond_f hc5 hj2
      refine q_xg (v:=(.bool t_16.1)) hF hS (ex_move rfl) (wanted_t hF rfl rfl rfl hc5) rfl fun a hF=>q_xg (v:=(.bool t_18.1)) hF hS (ex_move rfl) (wanted_t hF rfl rfl rfl hc5) rfl fun a hF=>q_xg (v:=(.bool (t_16.1 != t_18.1))) hF hS (ex_bne Try.underlying4 rfl rfl) (wanted_t hF rfl rfl rfl hc5) rfl fun a hF=>q_x (v:=(.bool (t_16.1 != t_18.1))) hF hS (ex_pick_f rfl rfl hc5) rfl rfl fun a hF=>q_end (n_jn ?_)
      obtain rfl:=someI hj2
      exact ⟨hF.sub ⟨rfl,rfl,rfl,rfl,rfl,rfl,rfl,rfl,rfl,trivial⟩,hS.mask [false,true,true]⟩
     ·have hj2:=cond_t hc5 hj2
      refine q_skip hF (wanted_f hF rfl rfl rfl hc5 rfl) rfl fun a hF=>q_skip hF (wanted_f hF rfl rfl rfl hc5 rfl) rfl fun a hF=>q_skip hF (wanted_f hF rfl rfl rfl hc5 rfl) rfl fun a hF=>q_x (v:=(.bool true)) hF hS (ex_pick_t rfl rfl hc5) rfl rfl fun a hF=>q_end (n_jn ?_)
      obtain rfl:=someI hj2
      exact ⟨hF.sub ⟨rfl,rfl,rfl,rfl,rfl,rfl,rfl,rfl,rfl,trivial⟩,hS.mask [false,true,true]⟩
    ·have hj2:=cond_t hc4 hj2
     refine q_skip hF (wanted_f hF rfl rfl rfl hc4 rfl) rfl fun a hF=>q_skip hF (wanted_f hF rfl rfl rfl hc4 rfl) rfl fun a hF=>q_skip hF (wanted_f hF rfl rfl rfl hc4 rfl) rfl fun a hF=>q_x (v:=(.bool true)) hF hS (ex_pick_t rfl rfl hc4) rfl rfl fun a hF=>q_x (v:=(.bool true)) hF hS (ex_move rfl) rfl rfl fun a hF=>q_skip hF (wanted_f hF rfl rfl rfl rfl rfl) rfl fun a hF=>q_skip hF (wanted_f hF rfl rfl rfl rfl rfl) rfl fun a hF=>q_skip hF (wanted_f hF rfl rfl rfl rfl rfl) rfl fun a hF=>q_x (v:=(.bool true)) hF hS (ex_pick_t rfl rfl rfl) rfl rfl fun a hF=>q_end (n_jn ?_)
     obtain rfl:=someI hj2
     exact ⟨hF.sub ⟨rfl,rfl,rfl,rfl,rfl,rfl,rfl,rfl,rfl,trivial⟩,hS.mask [false,true,true]⟩
   ·have hj2:=cond_t hc3 hj2
    refine q_skip hF (wanted_f hF rfl rfl rfl hc3 rfl) rfl fun a hF=>q_skip hF (wanted_f hF rfl rfl rfl hc3 rfl) rfl fun a hF=>q_skip hF (wanted_f hF rfl rfl rfl hc3 rfl) rfl fun a hF=>q_x (v:=(.bool true)) hF hS (ex_pick_t rfl rfl hc3) rfl rfl fun a hF=>q_x (v:=(.bool true)) hF hS (ex_move rfl) rfl rfl fun a hF=>q_skip hF (wanted_f hF rfl rfl rfl rfl rfl) rfl fun a hF=>q_skip hF (wanted_f hF rfl rfl rfl rfl rfl) rfl fun a hF=>q_skip hF (wanted_f hF rfl rfl rfl rfl rfl) rfl fun a hF=>q_x (v:=(.bool true)) hF hS (ex_pick_t rfl rfl rfl) rfl rfl fun a hF=>q_x (v:=(.bool true)) hF hS (ex_move rfl) rfl rfl fun a hF=>q_skip hF (wanted_f hF rfl rfl rfl rfl rfl) rfl fun a hF=>q_skip hF (wanted_f hF rfl rfl rfl rfl rfl) rfl fun a hF=>q_skip hF (wanted_f hF rfl rfl rfl rfl rfl) rfl fun a hF=>q_x (v:=(.bool true)) hF hS (ex_pick_t rfl rfl rfl) rfl rfl fun a hF=>q_end (n_jn ?_)
    obtain rfl:=someI hj2
    exact ⟨hF.sub ⟨rfl,rfl,rfl,rfl,rfl,rfl,rfl,rfl,rfl,trivial⟩,hS.mask [false,true,true]⟩
  ·rintro a w ⟨hF,hS⟩
   refine n_sq ?_
   rcases bcase (t_20) with hc6 | hc6
   ·have hr:=cond_f hc6 hr
    refine q_cond_f hF rfl hc6 (q_skipc (n_sq (q_seq (q_seq (q_region (q_x (v:=(.bool t_7.2)) hF hS (ex_move rfl) rfl rfl fun a hF=>q_x (v:=(.bool (!t_7.2))) hF hS (ex_not rfl) rfl rfl fun a hF=>q_end (n_sq ?_)))))))
    rcases bcase (!t_7.2) with hc7 | hc7
    ·have hr:=cond_f hc7 hr
     refine q_cond_f hF rfl hc7 (q_skipc (n_sq (q_seq (q_region (q_x (v:=s5.v) hF hS (ex_move rfl) rfl rfl fun a hF=>q_x (v:=s6.v) hF hS (ex_move rfl) rfl rfl fun a hF=>q_x (v:=(iV t_3.2.2.1)) hF hS (ex_move rfl) rfl rfl fun a hF=>q_x (v:=(iV t_3.2.2.2.1)) hF hS (ex_move rfl) rfl rfl fun a hF=>?_)))))
     obtain ⟨m22,hl22,hv22,hz22⟩:=hS.lend
     obtain ⟨t_21,ht_21,hr⟩:=bindS hr
     refine q_call (vs:=[s5.v,s6.v,(iV t_3.2.2.1),(iV t_3.2.2.2.1)]) hF hS Try.func40 (by kernel_rfl) rfl rfl rfl (c_impl_SafeMargin t_3.1 t_3.2.1 t_3.2.2.1 t_3.2.2.2.1 t_21 ht_21 _ m22 hv22 s5 ((h5.mono hm12.le).froz hl22 (hz22 0 _ rfl)) s6 ((h6.mono hm12.le).froz hl22 (hz22 1 _ rfl))) ?_
     rintro a w _ rfl hF hS
     refine q_x (v:=(.tuple #[(iV t_21.1),(iV t_21.2.1),(.bool t_21.2.2)])) hF hS (ex_move rfl) rfl rfl fun a hF=>q_x (v:=(iV t_21.1)) hF hS (ex_extract rfl rfl) rfl rfl fun a hF=>q_x (v:=(iV t_21.2.1)) hF hS (ex_extract rfl rfl) rfl rfl fun a hF=>q_x (v:=(.bool t_21.2.2)) hF hS (ex_extract rfl rfl) rfl rfl fun a hF=>q_x (v:=(iV t_21.1)) hF hS (ex_assign rfl) rfl rfl fun a hF=>q_x (v:=(iV t_21.2.1)) hF hS (ex_assign rfl) rfl rfl fun a hF=>q_x (v:=(.bool t_21.2.2)) hF hS (ex_assign rfl) rfl rfl fun a hF=>q_end (n_sq (q_seq (q_region (q_x (v:=s5.v) hF hS (ex_move rfl) rfl rfl fun a hF=>q_x (v:=s6.v) hF hS (ex_move rfl) rfl rfl fun a hF=>q_x (v:=(iV t_3.2.2.1)) hF hS (ex_move rfl) rfl rfl fun a hF=>q_x (v:=(iV t_3.2.2.2.1)) hF hS (ex_move rfl) rfl rfl fun a hF=>?_))))
     obtain ⟨m24,hl24,hv24,hz24⟩:=hS.lend
     obtain ⟨t_23,ht_23,hr⟩:=bindS hr
     refine q_call (vs:=[s5.v,s6.v,(iV t_3.2.2.1),(iV t_3.2.2.2.1)]) hF hS Try.func41 (by kernel_rfl) rfl rfl rfl (c_impl_WitnessTables t_3.1 t_3.2.1 t_3.2.2.1 t_3.2.2.2.1 t_23 ht_23 _ m24 hv24 s5 ((h5.mono hm12.le).froz hl24 (hz24 0 _ rfl)) s6 ((h6.mono hm12.le).froz hl24 (hz24 1 _ rfl))) ?_
     rintro a w _ ⟨q26,q27,s26,s27,rfl,hR25,h26,h27⟩ hF hS2
     have hS : St _ _ _ _ [q26,q27,q5,q6]:=hS.joinF hR25
     have h26:=h26.any m12
     have h27:=h27.any m12
     refine q_x (v:=(.tuple #[s26.v,s27.v,(.bool t_23.2.2)])) hF hS (ex_move rfl) rfl rfl fun a hF=>q_x (v:=s26.v) hF hS (ex_extract rfl rfl) rfl rfl fun a hF=>q_x (v:=s27.v) hF hS (ex_extract rfl rfl) rfl rfl fun a hF=>q_x (v:=(.bool t_23.2.2)) hF hS (ex_extract rfl rfl) rfl rfl fun a hF=>q_x (v:=s26.v) hF hS (ex_assign rfl) rfl rfl fun a hF=>q_x (v:=s27.v) hF hS (ex_assign rfl) rfl rfl fun a hF=>q_x (v:=(.bool t_23.2.2)) hF hS (ex_assign rfl) rfl rfl fun a hF=>q_end (n_sq (q_seq (q_region (q_x (v:=s5.v) hF hS (ex_move rfl) rfl rfl fun a hF=>q_x (v:=s6.v) hF hS (ex_move rfl) rfl rfl fun a hF=>q_x (v:=(iV t_3.2.2.1)) hF hS (ex_move rfl) rfl rfl fun a hF=>q_x (v:=(iV t_3.2.2.2.1)) hF hS (ex_move rfl) rfl rfl fun a hF=>?_))))
     have hS : St _ _ _ _ [q5,q26,q27,q6]:=hS.sel [2,0,1,3] (by decide)
     obtain ⟨m28,hm28,hS,hz28⟩:=hS.freeze
     have h28:=(h5.mono hm12.le).froz hm28.le hz28
     have hS : St _ _ _ _ [q6,q26,q27]:=hS.sel [2,0,1] (by decide)
     obtain ⟨m29,hm29,hS,hz29⟩:=hS.freeze
     have h29:=((h6.mono hm12.le).mono hm28.le).froz hm29.le hz29
     obtain ⟨t_30,ht_30,hr⟩:=bindS hr
     refine q_call (vs:=[s5.v,s6.v,(iV t_3.2.2.1),(iV t_3.2.2.2.1)]) hF hS Try.func42 (by kernel_rfl) rfl rfl rfl (c_spec_WitnessTables t_3.1 t_3.2.1 t_3.2.2.1 t_3.2.2.2.1 t_30 ht_30 _ m29 hS.vis s5 (h28.mono hm29.le) s6 h29) ?_
     have hT:=hS
     rintro a w _ ⟨m31,q32,q33,s32,s33,rfl,hm31,hR31,h32,h33⟩ hF hS2
     have hS : St _ _ _ _ [q32,q33,q26,q27]:=hS.join hR31 hm31
     have hm31:=MLe.weakX (O0:=[]) hT hm31
     refine q_x (v:=(.tuple #[s32.v,s33.v,(.bool t_30.2.2)])) hF hS (ex_move rfl) rfl rfl fun a hF=>q_x (v:=s32.v) hF hS (ex_extract rfl rfl) rfl rfl fun a hF=>q_x (v:=s33.v) hF hS (ex_extract rfl rfl) rfl rfl fun a hF=>q_x (v:=(.bool t_30.2.2)) hF hS (ex_extract rfl rfl) rfl rfl fun a hF=>q_x (v:=s32.v) hF hS (ex_assign rfl) rfl rfl fun a hF=>q_x (v:=s33.v) hF hS (ex_assign rfl) rfl rfl fun a hF=>q_x (v:=(.bool t_30.2.2)) hF hS (ex_assign rfl) rfl rfl fun a hF=>q_end (n_sq (q_seq (q_seq ?_)))
     obtain ⟨t_38,hj8,hr⟩:=bindS hr
     refine q_join (fun a w=>Fr a 252 [(5,s5.v),(6,s6.v),(7,(iV t_3.2.2.1)),(8,(iV t_3.2.2.2.1)),(9,(iV t_3.2.2.2.2.1)),(10,(iV t_3.2.2.2.2.2)),(11,(.bool t_7.1)),(22,(iV t_21.1)),(23,(iV t_21.2.1)),(25,s26.v),(26,s27.v),(27,(.bool t_23.2.2)),(158,(.bool t_38))]∧St [] w0 w m31 [q26,q27]) ?_ ?_
     ·refine q_region (q_x (v:=(.bool t_21.2.2)) hF hS (ex_move rfl) rfl rfl fun a hF=>q_x (v:=(.bool (!t_21.2.2))) hF hS (ex_not rfl) rfl rfl fun a hF=>q_x (v:=(.bool (!t_21.2.2))) hF hS (ex_move rfl) rfl rfl fun a hF=>?_)
      rcases bcase (!t_21.2.2) with hc9 | hc9
      ·have hj8:=cond_f hc9 hj8
       refine q_xg (v:=(.bool t_23.2.2)) hF hS (ex_move rfl) (wanted_t hF rfl rfl rfl hc9) rfl fun a hF=>q_xg (v:=(.bool t_30.2.2)) hF hS (ex_move rfl) (wanted_t hF rfl rfl rfl hc9) rfl fun a hF=>q_xg (v:=(.bool (t_23.2.2 != t_30.2.2))) hF hS (ex_bne Try.underlying4 rfl rfl) (wanted_t hF rfl rfl rfl hc9) rfl fun a hF=>q_x (v:=(.bool (t_23.2.2 != t_30.2.2))) hF hS (ex_pick_f rfl rfl hc9) rfl rfl fun a hF=>q_x (v:=(.bool (t_23.2.2 != t_30.2.2))) hF hS (ex_move rfl) rfl rfl fun a hF=>?_
       rcases bcase (t_23.2.2 != t_30.2.2) with hc10 | hc10
       ·have hj8:=cond_f hc10 hj8
        refine q_xg (v:=s26.v) hF hS (ex_move rfl) (wanted_t hF rfl rfl rfl hc10) rfl fun a hF=>q_xg (v:=s32.v) hF hS (ex_move rfl) (wanted_t hF rfl rfl rfl hc10) rfl fun a hF=>?_
        obtain ⟨m35,hl35,hv35,hz35⟩:=hS.lend
        obtain ⟨t_34,ht_34,hj8⟩:=bindS hj8
        refine q_callg (vs:=[s26.v,s32.v]) hF hS (wanted_t hF rfl rfl rfl hc10) Try.func20 (by kernel_rfl) rfl rfl rfl (c_laws_qLists t_23.1 t_30.1 t_34 ht_34 _ m35 hv35 s26 ((((h26.mono hm28.le).mono hm29.le).mono hm31.le).froz hl35 (hz35 2 _ rfl)) s32 (h32.froz hl35 (hz35 0 _ rfl))) ?_
        rintro a w _ rfl hF hS
        refine q_xg (v:=(.bool (!t_34))) hF hS (ex_not rfl) (wanted_t hF rfl rfl rfl hc10) rfl fun a hF=>q_x (v:=(.bool (!t_34))) hF hS (ex_pick_f rfl rfl hc10) rfl rfl fun a hF=>q_x (v:=(.bool (!t_34))) hF hS (ex_move rfl) rfl rfl fun a hF=>?_
        rcases bcase (!t_34) with hc11 | hc11
        ·have hj8:=cond_f hc11 hj8
         refine q_xg (v:=s27.v) hF hS (ex_move rfl) (wanted_t hF rfl rfl rfl hc11) rfl fun a hF=>q_xg (v:=s33.v) hF hS (ex_move rfl) (wanted_t hF rfl rfl rfl hc11) rfl fun a hF=>?_
         obtain ⟨m37,hl37,hv37,hz37⟩:=hS.lend
         obtain ⟨t_36,ht_36,hj8⟩:=bindS hj8
         refine q_callg (vs:=[s27.v,s33.v]) hF hS (wanted_t hF rfl rfl rfl hc11) Try.func20 (by kernel_rfl) rfl rfl rfl (c_laws_qLists t_23.2.1 t_30.2.1 t_36 ht_36 _ m37 hv37 s27 ((((h27.mono hm28.le).mono hm29.le).mono hm31.le).froz hl37 (hz37 3 _ rfl)) s33 (h33.froz hl37 (hz37 1 _ rfl))) ?_
         rintro a w _ rfl hF hS
         refine q_xg (v:=(.bool (!t_36))) hF hS (ex_not rfl) (wanted_t hF rfl rfl rfl hc11) rfl fun a hF=>q_x (v:=(.bool (!t_36))) hF hS (ex_pick_f rfl rfl hc11) rfl rfl fun a hF=>q_end (n_jn ?_)
         obtain rfl:=someI hj8
         exact ⟨hF.sub ⟨rfl,rfl,rfl,rfl,rfl,rfl,rfl,rfl,rfl,rfl,rfl,rfl,rfl,trivial⟩,hS.mask [false,false,true,true]⟩
        ·have hj8:=cond_t hc11 hj8
         refine q_skip hF (wanted_f hF rfl rfl rfl hc11 rfl) rfl fun a hF=>q_skip hF (wanted_f hF rfl rfl rfl hc11 rfl) rfl fun a hF=>q_skip hF (wanted_f hF rfl rfl rfl hc11 rfl) rfl fun a hF=>q_skip hF (wanted_f hF rfl rfl rfl hc11 rfl) rfl fun a hF=>q_x (v:=(.bool true)) hF hS (ex_pick_t rfl rfl hc11) rfl rfl fun a hF=>q_end (n_jn ?_)
         obtain rfl:=someI hj8
         exact ⟨hF.sub ⟨rfl,rfl,rfl,rfl,rfl,rfl,rfl,rfl,rfl,rfl,rfl,rfl,rfl,trivial⟩,hS.mask [false,false,true,true]⟩
       ·have hj8:=cond_t hc10 hj8
        refine q_skip hF (wanted_f hF rfl rfl rfl hc10 rfl) rfl fun a hF=>q_skip hF (wanted_f hF rfl rfl rfl hc10 rfl) rfl fun a hF=>q_skip hF (wanted_f hF rfl rfl rfl hc10 rfl) rfl fun a hF=>q_skip hF (wanted_f hF rfl rfl rfl hc10 rfl) rfl fun a hF=>q_x (v:=(.bool true)) hF hS (ex_pick_t rfl rfl hc10) rfl rfl fun a hF=>q_x (v:=(.bool true)) hF hS (ex_move rfl) rfl rfl fun a hF=>q_skip hF (wanted_f hF rfl rfl rfl rfl rfl) rfl fun a hF=>q_skip hF (wanted_f hF rfl rfl rfl rfl rfl) rfl fun a hF=>q_skip hF (wanted_f hF rfl rfl rfl rfl rfl) rfl fun a hF=>q_skip hF (wanted_f hF rfl rfl rfl rfl rfl) rfl fun a hF=>q_x (v:=(.bool true)) hF hS (ex_pick_t rfl rfl rfl) rfl rfl fun a hF=>q_end (n_jn ?_)
        obtain rfl:=someI hj8
        exact ⟨hF.sub ⟨rfl,rfl,rfl,rfl,rfl,rfl,rfl,rfl,rfl,rfl,rfl,rfl,rfl,trivial⟩,hS.mask [false,false,true,true]⟩
      ·have hj8:=cond_t hc9 hj8
       refine q_skip hF (wanted_f hF rfl rfl rfl hc9 rfl) rfl fun a hF=>q_skip hF (wanted_f hF rfl rfl rfl hc9 rfl) rfl fun a hF=>q_skip hF (wanted_f hF rfl rfl rfl hc9 rfl) rfl fun a hF=>q_x (v:=(.bool true)) hF hS (ex_pick_t rfl rfl hc9) rfl rfl fun a hF=>q_x (v:=(.bool true)) hF hS (ex_move rfl) rfl rfl fun a hF=>q_skip hF (wanted_f hF rfl rfl rfl rfl rfl) rfl fun a hF=>q_skip hF (wanted_f hF rfl rfl rfl rfl rfl) rfl fun a hF=>q_skip hF (wanted_f hF rfl rfl rfl rfl rfl) rfl fun a hF=>q_skip hF (wanted_f hF rfl rfl rfl rfl rfl) rfl fun a hF=>q_x (v:=(.bool true)) hF hS (ex_pick_t rfl rfl rfl) rfl rfl fun a hF=>q_x (v:=(.bool true)) hF hS (ex_move rfl) rfl rfl fun a hF=>q_skip hF (wanted_f hF rfl rfl rfl rfl rfl) rfl fun a hF=>q_skip hF (wanted_f hF rfl rfl rfl rfl rfl) rfl fun a hF=>q_skip hF (wanted_f hF rfl rfl rfl rfl rfl) rfl fun a hF=>q_skip hF (wanted_f hF rfl rfl rfl rfl rfl) rfl fun a hF=>q_x (v:=(.bool true)) hF hS (ex_pick_t rfl rfl rfl) rfl rfl fun a hF=>q_end (n_jn ?_)
       obtain rfl:=someI hj8
       exact ⟨hF.sub ⟨rfl,rfl,rfl,rfl,rfl,rfl,rfl,rfl,rfl,rfl,rfl,rfl,rfl,trivial⟩,hS.mask [false,false,true,true]⟩
     ·rintro a w ⟨hF,hS⟩
      refine n_sq ?_
      rcases bcase (t_38) with hc12 | hc12
      ·have hr:=cond_f hc12 hr
       refine q_cond_f hF rfl hc12 (q_skipc (n_sq (q_seq ?_)))
       obtain ⟨enough_44,hj13,hr⟩:=bindS hr
       refine q_join (fun a w=>Fr a 252 [(5,s5.v),(6,s6.v),(7,(iV t_3.2.2.1)),(8,(iV t_3.2.2.2.1)),(11,(.bool t_7.1)),(22,(iV t_21.1)),(23,(iV t_21.2.1)),(25,s26.v),(26,s27.v),(27,(.bool t_23.2.2)),(31,(.bool enough_44))]∧St [] w0 w m31 [q26,q27]) ?_ ?_
       ·refine q_region (q_x (v:=(iV t_21.1)) hF hS (ex_move rfl) rfl rfl fun a hF=>q_x (v:=(iV t_3.2.2.2.2.1)) hF hS (ex_move rfl) rfl rfl fun a hF=>q_x (v:=(.bool (decide (t_3.2.2.2.2.1 ≤ t_21.1)))) hF hS (ex_ibin rfl rfl rfl) rfl rfl fun a hF=>q_x (v:=(.bool (decide (t_3.2.2.2.2.1 ≤ t_21.1)))) hF hS (ex_move rfl) rfl rfl fun a hF=>?_)
        rcases bcase (decide (t_3.2.2.2.2.1 ≤ t_21.1)) with hc14 | hc14
        ·have hj13:=cond_f hc14 hj13
         refine q_xg (v:=(iV t_21.1)) hF hS (ex_move rfl) (wanted_t hF rfl rfl rfl hc14) rfl fun a hF=>q_xg (v:=s5.v) hF hS (ex_move rfl) (wanted_t hF rfl rfl rfl hc14) rfl fun a hF=>q_xg (v:=(iV t_3.2.2.1)) hF hS (ex_move rfl) (wanted_t hF rfl rfl rfl hc14) rfl fun a hF=>?_
         obtain ⟨e_39,he_39,hj13⟩:=bindS hj13
         obtain ⟨vs40,at40,d40⟩:=h28.at he_39 1 rfl
         obtain ⟨s41,rfl,h41⟩ : ∃ s41 : Sl,vs40 = [s41.v]∧Rd m28 s41 e_39:=d40
         refine q_xg (v:=(elP s5 (t_3.2.2.1.toNat * 1))) hF hS (ex_indexAddr Try.underlying23 sz28 rfl rfl (((h28.mono hm29.le).mono hm31.le).idx he_39)) (wanted_t hF rfl rfl rfl hc14) rfl fun a hF=>q_xg (v:=s41.v) hF hS (ex_loadE1 0 Try.underlying28 rfl rfl ((((at40.mono hm29.le).mono hm31.le)).at) rfl rfl) (wanted_t hF rfl rfl rfl hc14) rfl fun a hF=>q_xg (v:=(iV t_3.2.2.2.1)) hF hS (ex_move rfl) (wanted_t hF rfl rfl rfl hc14) rfl fun a hF=>?_
         obtain ⟨e_42,he_42,hj13⟩:=bindS hj13
         obtain ⟨vs43,at43,d43⟩:=h41.at he_42 1 rfl
         obtain rfl : vs43 = [(iV e_42)]:=d43
         refine q_xg (v:=(elP s41 (t_3.2.2.2.1.toNat * 1))) hF hS (ex_indexAddr Try.underlying28 sz3 rfl rfl (((h41.mono hm29.le).mono hm31.le).idx he_42)) (wanted_t hF rfl rfl rfl hc14) rfl fun a hF=>q_xg (v:=(iV e_42)) hF hS (ex_loadE1 0 Try.underlying3 rfl rfl ((((at43.mono hm29.le).mono hm31.le)).at) rfl rfl) (wanted_t hF rfl rfl rfl hc14) rfl fun a hF=>q_xg (v:=(.bool (t_21.1 == e_42))) hF hS (ex_ibin rfl rfl rfl) (wanted_t hF rfl rfl rfl hc14) rfl fun a hF=>q_x (v:=(.bool (t_21.1 == e_42))) hF hS (ex_pick_f rfl rfl hc14) rfl rfl fun a hF=>q_x (v:=(.bool (t_21.1 == e_42))) hF hS (ex_move rfl) rfl rfl fun a hF=>?_
         rcases bcase (t_21.1 == e_42) with hc15 | hc15
         ·have hj13:=cond_f hc15 hj13
          refine q_skip hF (wanted_f hF rfl rfl rfl hc15 rfl) rfl fun a hF=>q_skip hF (wanted_f hF rfl rfl rfl hc15 rfl) rfl fun a hF=>q_skip hF (wanted_f hF rfl rfl rfl hc15 rfl) rfl fun a hF=>q_x (v:=(.bool false)) hF hS (ex_pick_f rfl rfl hc15) rfl rfl fun a hF=>q_x (v:=(.bool false)) hF hS (ex_assign rfl) rfl rfl fun a hF=>q_end (n_jn ?_)
          obtain rfl:=someI hj13
          exact ⟨hF.sub ⟨rfl,rfl,rfl,rfl,rfl,rfl,rfl,rfl,rfl,rfl,rfl,trivial⟩,hS⟩
         ·have hj13:=cond_t hc15 hj13
          refine q_xg (v:=(iV t_21.2.1)) hF hS (ex_move rfl) (wanted_t hF rfl rfl rfl hc15) rfl fun a hF=>q_xg (v:=(iV t_3.2.2.2.2.2)) hF hS (ex_move rfl) (wanted_t hF rfl rfl rfl hc15) rfl fun a hF=>q_xg (v:=(.bool (decide (t_3.2.2.2.2.2 ≤ t_21.2.1)))) hF hS (ex_ibin rfl rfl rfl) (wanted_t hF rfl rfl rfl hc15) rfl fun a hF=>q_x (v:=(.bool (decide (t_3.2.2.2.2.2 ≤ t_21.2.1)))) hF hS (ex_pick_t rfl rfl hc15) rfl rfl fun a hF=>q_x (v:=(.bool (decide (t_3.2.2.2.2.2 ≤ t_21.2.1)))) hF hS (ex_assign rfl) rfl rfl fun a hF=>q_end (n_jn ?_)
          obtain rfl:=someI hj13
          exact ⟨hF.sub ⟨rfl,rfl,rfl,rfl,rfl,rfl,rfl,rfl,rfl,rfl,rfl,trivial⟩,hS⟩
        ·have hj13:=cond_t hc14 hj13
         refine q_skip hF (wanted_f hF rfl rfl rfl hc14 rfl) rfl fun a hF=>q_skip hF (wanted_f hF rfl rfl rfl hc14 rfl) rfl fun a hF=>q_skip hF (wanted_f hF rfl rfl rfl hc14 rfl) rfl fun a hF=>q_skip hF (wanted_f hF rfl rfl rfl hc14 rfl) rfl fun a hF=>q_skip hF (wanted_f hF rfl rfl rfl hc14 rfl) rfl fun a hF=>q_skip hF (wanted_f hF rfl rfl rfl hc14 rfl) rfl fun a hF=>q_skip hF (wanted_f hF rfl rfl rfl hc14 rfl) rfl fun a hF=>q_skip hF (wanted_f hF rfl rfl rfl hc14 rfl) rfl fun a hF=>q_skip hF (wanted_f hF rfl rfl rfl hc14 rfl) rfl fun a hF=>q_x (v:=(.bool true)) hF hS (ex_pick_t rfl rfl hc14) rfl rfl fun a hF=>q_x (v:=(.bool true)) hF hS (ex_move rfl) rfl rfl fun a hF=>q_xg (v:=(iV t_21.2.1)) hF hS (ex_move rfl) (wanted_t hF rfl rfl rfl rfl) rfl fun a hF=>q_xg (v:=(iV t_3.2.2.2.2.2)) hF hS (ex_move rfl) (wanted_t hF rfl rfl rfl rfl) rfl fun a hF=>q_xg (v:=(.bool (decide (t_3.2.2.2.2.2 ≤ t_21.2.1)))) hF hS (ex_ibin rfl rfl rfl) (wanted_t hF rfl rfl rfl rfl) rfl fun a hF=>q_x (v:=(.bool (decide (t_3.2.2.2.2.2 ≤ t_21.2.1)))) hF hS (ex_pick_t rfl rfl rfl) rfl rfl fun a hF=>q_x (v:=(.bool (decide (t_3.2.2.2.2.2 ≤ t_21.2.1)))) hF hS (ex_assign rfl) rfl rfl fun a hF=>q_end (n_jn ?_)
         obtain rfl:=someI hj13
         exact ⟨hF.sub ⟨rfl,rfl,rfl,rfl,rfl,rfl,rfl,rfl,rfl,rfl,rfl,trivial⟩,hS⟩
       ·rintro a w ⟨hF,hS⟩
        refine n_sq ?_
        refine q_seq (q_seq (q_region (q_x (v:=(.bool enough_44)) hF hS (ex_move rfl) rfl rfl fun a hF=>q_x (v:=(.bool t_7.1)) hF hS (ex_move rfl) rfl rfl fun a hF=>q_x (v:=(.bool (enough_44 != t_7.1))) hF hS (ex_bne Try.underlying4 rfl rfl) rfl rfl fun a hF=>q_end (n_sq ?_))))
        rcases bcase (enough_44 != t_7.1) with hc16 | hc16
        ·have hr:=cond_f hc16 hr
         refine q_cond_f hF rfl hc16 (q_skipc (n_sq (q_seq (q_seq (q_region (q_x (v:=(.bool t_23.2.2)) hF hS (ex_move rfl) rfl rfl fun a hF=>q_x (v:=(.bool (!t_23.2.2))) hF hS (ex_not rfl) rfl rfl fun a hF=>q_end (n_sq ?_)))))))
         rcases bcase (!t_23.2.2) with hc17 | hc17
         ·have hr:=cond_f hc17 hr
          refine q_cond_f hF rfl hc17 (q_skipc (n_sq (q_seq (q_region (q_x (v:=s5.v) hF hS (ex_move rfl) rfl rfl fun a hF=>q_x (v:=s6.v) hF hS (ex_move rfl) rfl rfl fun a hF=>?_)))))
          obtain ⟨t_45,ht_45,hr⟩:=bindS hr
          refine q_call (vs:=[s5.v,s6.v]) hF hS Try.func30 (by kernel_rfl) rfl rfl rfl (c_impl_AttackNetwork t_3.1 t_3.2.1 t_45 ht_45 _ m31 hS.vis s5 ((h28.mono hm29.le).mono hm31.le) s6 (h29.mono hm31.le)) ?_
          rintro a w _ ⟨q47,q48,q49,q50,s47,s48,s49,s50,rfl,hR46,h47,h48,h49,h50⟩ hF hS2
          have hS : St _ _ _ _ [q47,q48,q49,q50,q26,q27]:=hS.joinF hR46
          refine q_x (v:=(.tuple #[(.agg #[s47.v,s48.v,s49.v,s50.v]),(.bool t_45.2)])) hF hS (ex_move rfl) rfl rfl fun a hF=>q_x (v:=(.agg #[s47.v,s48.v,s49.v,s50.v])) hF hS (ex_extract rfl rfl) rfl rfl fun a hF=>q_x (v:=(.bool t_45.2)) hF hS (ex_extract rfl rfl) rfl rfl fun a hF=>q_alloc (cs:=[nilS.v,nilS.v,nilS.v,nilS.v]) hF hS rfl rfl rfl fun a w b51 hF hS=>q_store (vs:=[s47.v,s48.v,s49.v,s50.v]) (cs':=[s47.v,s48.v,s49.v,s50.v]) 0 0 hF hS sz50 rfl rfl rfl rfl rfl rfl rfl rfl fun a w hF hS=>q_x (v:=(.bool t_45.2)) hF hS (ex_assign rfl) rfl rfl fun a hF=>q_end (n_sq (q_seq (q_region (q_x (v:=(.agg #[s47.v,s48.v,s49.v,s50.v])) hF hS (ex_loadA (vs:=[s47.v,s48.v,s49.v,s50.v]) 0 0 Try.underlying50 rfl sz50 rfl rfl rfl rfl) rfl rfl fun a hF=>q_x (v:=s26.v) hF hS (ex_move rfl) rfl rfl fun a hF=>?_))))
          obtain ⟨m53,hl53,hv53,hz53⟩:=hS.lend
          obtain ⟨t_52,ht_52,hr⟩:=bindS hr
          refine q_call (vs:=[(.agg #[s47.v,s48.v,s49.v,s50.v]),s26.v]) hF hS Try.func31 (by kernel_rfl) rfl rfl rfl (c_impl_IsFlow t_45.1 t_23.1 t_52 ht_52 _ m53 hv53 s47 (h47.froz hl53 (hz53 1 _ rfl)) s48 (h48.froz hl53 (hz53 2 _ rfl)) s49 (h49.froz hl53 (hz53 3 _ rfl)) s50 (h50.froz hl53 (hz53 4 _ rfl)) s26 ((((h26.mono hm28.le).mono hm29.le).mono hm31.le).froz hl53 (hz53 5 _ rfl))) ?_
          rintro a w _ rfl hF hS
          refine q_x (v:=(.tuple #[(.bool t_52.1),(.bool t_52.2)])) hF hS (ex_move rfl) rfl rfl fun a hF=>q_x (v:=(.bool t_52.1)) hF hS (ex_extract rfl rfl) rfl rfl fun a hF=>q_x (v:=(.bool t_52.2)) hF hS (ex_extract rfl rfl) rfl rfl fun a hF=>q_x (v:=(.bool t_52.1)) hF hS (ex_assign rfl) rfl rfl fun a hF=>q_x (v:=(.bool t_52.2)) hF hS (ex_assign rfl) rfl rfl fun a hF=>q_end (n_sq (q_seq (q_region (q_x (v:=(.agg #[s47.v,s48.v,s49.v,s50.v])) hF hS (ex_loadA (vs:=[s47.v,s48.v,s49.v,s50.v]) 0 0 Try.underlying50 rfl sz50 rfl rfl rfl rfl) rfl rfl fun a hF=>q_x (v:=s27.v) hF hS (ex_move rfl) rfl rfl fun a hF=>?_))))
          obtain ⟨m55,hl55,hv55,hz55⟩:=hS.lend
          obtain ⟨t_54,ht_54,hr⟩:=bindS hr
          refine q_call (vs:=[(.agg #[s47.v,s48.v,s49.v,s50.v]),s27.v]) hF hS Try.func31 (by kernel_rfl) rfl rfl rfl (c_impl_IsFlow t_45.1 t_23.2.1 t_54 ht_54 _ m55 hv55 s47 (h47.froz hl55 (hz55 1 _ rfl)) s48 (h48.froz hl55 (hz55 2 _ rfl)) s49 (h49.froz hl55 (hz55 3 _ rfl)) s50 (h50.froz hl55 (hz55 4 _ rfl)) s27 ((((h27.mono hm28.le).mono hm29.le).mono hm31.le).froz hl55 (hz55 6 _ rfl))) ?_
          rintro a w _ rfl hF hS
          refine q_x (v:=(.tuple #[(.bool t_54.1),(.bool t_54.2)])) hF hS (ex_move rfl) rfl rfl fun a hF=>q_x (v:=(.bool t_54.1)) hF hS (ex_extract rfl rfl) rfl rfl fun a hF=>q_x (v:=(.bool t_54.2)) hF hS (ex_extract rfl rfl) rfl rfl fun a hF=>q_x (v:=(.bool t_54.1)) hF hS (ex_assign rfl) rfl rfl fun a hF=>q_x (v:=(.bool t_54.2)) hF hS (ex_assign rfl) rfl rfl fun a hF=>q_end (n_sq (q_seq ?_))
          obtain ⟨t_74,hj18,hr⟩:=bindS hr
          refine q_join (fun a w=>Fr a 252 [(4,(.bool t_74))]∧St [] w0 w m31 []) ?_ ?_
          ·refine e_region ⟨[],[],m31⟩ mixed fun w' hw'=>?_
           have hS:=hS.below hw'
           refine e_p (v:=(.bool t_45.2)) 0 hF rfl (ex_move rfl) rfl rfl (by kernel_rfl) (by kernel_rfl) (by kernel_rfl) fun a hF=>e_p (v:=(.bool t_45.2)) 1 hF rfl (ex_move rfl) rfl rfl (by kernel_rfl) (by kernel_rfl) (by kernel_rfl) fun a hF=>?_
           rcases bcase (t_45.2) with hc19 | hc19
           ·have hj18:=cond_f hc19 hj18
            refine e_skipP 2 hF rfl (wanted_f hF rfl rfl rfl hc19 rfl) rfl (by kernel_rfl) (by kernel_rfl) (by kernel_rfl) fun a hF=>e_p (v:=(.bool false)) 3 hF rfl (ex_pick_f rfl rfl hc19) rfl rfl (by kernel_rfl) (by kernel_rfl) (by kernel_rfl) fun a hF=>e_p (v:=(.bool false)) 4 hF rfl (ex_move rfl) rfl rfl (by kernel_rfl) (by kernel_rfl) (by kernel_rfl) fun a hF=>e_skipP 5 hF rfl (wanted_f hF rfl rfl rfl rfl rfl) rfl (by kernel_rfl) (by kernel_rfl) (by kernel_rfl) fun a hF=>e_p (v:=(.bool false)) 6 hF rfl (ex_pick_f rfl rfl rfl) rfl rfl (by kernel_rfl) (by kernel_rfl) (by kernel_rfl) fun a hF=>e_p (v:=(.bool false)) 7 hF rfl (ex_move rfl) rfl rfl (by kernel_rfl) (by kernel_rfl) (by kernel_rfl) fun a hF=>e_skipP 8 hF rfl (wanted_f hF rfl rfl rfl rfl rfl) rfl (by kernel_rfl) (by kernel_rfl) (by kernel_rfl) fun a hF=>e_p (v:=(.bool false)) 9 hF rfl (ex_pick_f rfl rfl rfl) rfl rfl (by kernel_rfl) (by kernel_rfl) (by kernel_rfl) fun a hF=>e_p (v:=(.bool false)) 10 hF rfl (ex_move rfl) rfl rfl (by kernel_rfl) (by kernel_rfl) (by kernel_rfl) fun a hF=>e_skipP 11 hF rfl (wanted_f hF rfl rfl rfl rfl rfl) rfl (by kernel_rfl) (by kernel_rfl) (by kernel_rfl) fun a hF=>e_p (v:=(.bool false)) 12 hF rfl (ex_pick_f rfl rfl rfl) rfl rfl (by kernel_rfl) (by kernel_rfl) (by kernel_rfl) fun a hF=>e_p (v:=(.bool false)) 13 hF rfl (ex_move rfl) rfl rfl (by kernel_rfl) (by kernel_rfl) (by kernel_rfl) fun a hF=>e_skipP 14 hF rfl (wanted_f hF rfl rfl rfl rfl rfl) rfl (by kernel_rfl) (by kernel_rfl) (by kernel_rfl) fun a hF=>e_skipP 15 hF rfl (wanted_f hF rfl rfl rfl rfl rfl) rfl (by kernel_rfl) (by kernel_rfl) (by kernel_rfl) fun a hF=>e_skipP 16 hF rfl (wanted_f hF rfl rfl rfl rfl rfl) rfl (by kernel_rfl) (by kernel_rfl) (by kernel_rfl) fun a hF=>e_skipP 17 hF rfl (wanted_f hF rfl rfl rfl rfl rfl) rfl (by kernel_rfl) (by kernel_rfl) (by kernel_rfl) fun a hF=>e_skipP 18 hF rfl (wanted_f hF rfl rfl rfl rfl rfl) rfl (by kernel_rfl) (by kernel_rfl) (by kernel_rfl) fun a hF=>e_skipP 19 hF rfl (wanted_f hF rfl rfl rfl rfl rfl) rfl (by kernel_rfl) (by kernel_rfl) (by kernel_rfl) fun a hF=>e_skipP 20 hF rfl (wanted_f hF rfl rfl rfl rfl rfl) rfl (by kernel_rfl) (by kernel_rfl) (by kernel_rfl) fun a hF=>e_skipP 21 hF rfl (wanted_f hF rfl rfl rfl rfl rfl) rfl (by kernel_rfl) (by kernel_rfl) (by kernel_rfl) fun a hF=>e_skipP 22 hF rfl (wanted_f hF rfl rfl rfl rfl rfl) rfl (by kernel_rfl) (by kernel_rfl) (by kernel_rfl) fun a hF=>e_skipP 23 hF rfl (wanted_f hF rfl rfl rfl rfl rfl) rfl (by kernel_rfl) (by kernel_rfl) (by kernel_rfl) fun a hF=>e_skipP 24 hF rfl (wanted_f hF rfl rfl rfl rfl rfl) rfl (by kernel_rfl) (by kernel_rfl) (by kernel_rfl) fun a hF=>e_skipP 25 hF rfl (wanted_f hF rfl rfl rfl rfl rfl) rfl (by kernel_rfl) (by kernel_rfl) (by kernel_rfl) fun a hF=>e_skipP 26 hF rfl (wanted_f hF rfl rfl rfl rfl rfl) rfl (by kernel_rfl) (by kernel_rfl) (by kernel_rfl) fun a hF=>?_
            refine e_skipP 27 hF rfl (wanted_f hF rfl rfl rfl rfl rfl) rfl (by kernel_rfl) (by kernel_rfl) (by kernel_rfl) fun a hF=>e_skipP 28 hF rfl (wanted_f hF rfl rfl rfl rfl rfl) rfl (by kernel_rfl) (by kernel_rfl) (by kernel_rfl) fun a hF=>e_skipP 29 hF rfl (wanted_f hF rfl rfl rfl rfl rfl) rfl (by kernel_rfl) (by kernel_rfl) (by kernel_rfl) fun a hF=>e_skipP 30 hF rfl (wanted_f hF rfl rfl rfl rfl rfl) rfl (by kernel_rfl) (by kernel_rfl) (by kernel_rfl) fun a hF=>e_p (v:=(.bool false)) 31 hF rfl (ex_pick_f rfl rfl rfl) rfl rfl (by kernel_rfl) (by kernel_rfl) (by kernel_rfl) fun a hF=>e_p (v:=(.bool false)) 32 hF rfl (ex_move rfl) rfl rfl (by kernel_rfl) (by kernel_rfl) (by kernel_rfl) fun a hF=>e_skipP 33 hF rfl (wanted_f hF rfl rfl rfl rfl rfl) rfl (by kernel_rfl) (by kernel_rfl) (by kernel_rfl) fun a hF=>e_skipP 34 hF rfl (wanted_f hF rfl rfl rfl rfl rfl) rfl (by kernel_rfl) (by kernel_rfl) (by kernel_rfl) fun a hF=>e_skipP 35 hF rfl (wanted_f hF rfl rfl rfl rfl rfl) rfl (by kernel_rfl) (by kernel_rfl) (by kernel_rfl) fun a hF=>e_skipP 36 hF rfl (wanted_f hF rfl rfl rfl rfl rfl) rfl (by kernel_rfl) (by kernel_rfl) (by kernel_rfl) fun a hF=>e_skipP 37 hF rfl (wanted_f hF rfl rfl rfl rfl rfl) rfl (by kernel_rfl) (by kernel_rfl) (by kernel_rfl) fun a hF=>e_skipP 38 hF rfl (wanted_f hF rfl rfl rfl rfl rfl) rfl (by kernel_rfl) (by kernel_rfl) (by kernel_rfl) fun a hF=>e_skipP 39 hF rfl (wanted_f hF rfl rfl rfl rfl rfl) rfl (by kernel_rfl) (by kernel_rfl) (by kernel_rfl) fun a hF=>e_skipP 40 hF rfl (wanted_f hF rfl rfl rfl rfl rfl) rfl (by kernel_rfl) (by kernel_rfl) (by kernel_rfl) fun a hF=>e_skipP 41 hF rfl (wanted_f hF rfl rfl rfl rfl rfl) rfl (by kernel_rfl) (by kernel_rfl) (by kernel_rfl) fun a hF=>e_skipP 42 hF rfl (wanted_f hF rfl rfl rfl rfl rfl) rfl (by kernel_rfl) (by kernel_rfl) (by kernel_rfl) fun a hF=>e_skipP 43 hF rfl (wanted_f hF rfl rfl rfl rfl rfl) rfl (by kernel_rfl) (by kernel_rfl) (by kernel_rfl) fun a hF=>e_skipP 44 hF rfl (wanted_f hF rfl rfl rfl rfl rfl) rfl (by kernel_rfl) (by kernel_rfl) (by kernel_rfl) fun a hF=>e_skipP 45 hF rfl (wanted_f hF rfl rfl rfl rfl rfl) rfl (by kernel_rfl) (by kernel_rfl) (by kernel_rfl) fun a hF=>e_skipP 46 hF rfl (wanted_f hF rfl rfl rfl rfl rfl) rfl (by kernel_rfl) (by kernel_rfl) (by kernel_rfl) fun a hF=>e_skipP 47 hF rfl (wanted_f hF rfl rfl rfl rfl rfl) rfl (by kernel_rfl) (by kernel_rfl) (by kernel_rfl) fun a hF=>e_skipP 48 hF rfl (wanted_f hF rfl rfl rfl rfl rfl) rfl (by kernel_rfl) (by kernel_rfl) (by kernel_rfl) fun a hF=>e_skipP 49 hF rfl (wanted_f hF rfl rfl rfl rfl rfl) rfl (by kernel_rfl) (by kernel_rfl) (by kernel_rfl) fun a hF=>e_p (v:=(.bool false)) 50 hF rfl (ex_pick_f rfl rfl rfl) rfl rfl (by kernel_rfl) (by kernel_rfl) (by kernel_rfl) fun a hF=>e_p (v:=(.bool false)) 51 hF rfl (ex_assign rfl) rfl rfl (by kernel_rfl) (by kernel_rfl) (by kernel_rfl) fun a hF=>?_
            refine e_end (by kernel_rfl) (n_jn ?_) _
            obtain rfl:=someI hj18
            exact ⟨hF.sub ⟨rfl,trivial⟩,hS.mask [false,false,false,false,false,false,false]⟩
           ·have hj18:=cond_t hc19 hj18
            refine e_pg (v:=(.bool t_52.2)) 2 hF rfl (ex_move rfl) (wanted_t hF rfl rfl rfl hc19) rfl (by kernel_rfl) (by kernel_rfl) (by kernel_rfl) fun a hF=>e_p (v:=(.bool t_52.2)) 3 hF rfl (ex_pick_t rfl rfl hc19) rfl rfl (by kernel_rfl) (by kernel_rfl) (by kernel_rfl) fun a hF=>e_p (v:=(.bool t_52.2)) 4 hF rfl (ex_move rfl) rfl rfl (by kernel_rfl) (by kernel_rfl) (by kernel_rfl) fun a hF=>?_
            rcases bcase (t_52.2) with hc20 | hc20
            ·have hj18:=cond_f hc20 hj18
             refine e_skipP 5 hF rfl (wanted_f hF rfl rfl rfl hc20 rfl) rfl (by kernel_rfl) (by kernel_rfl) (by kernel_rfl) fun a hF=>e_p (v:=(.bool false)) 6 hF rfl (ex_pick_f rfl rfl hc20) rfl rfl (by kernel_rfl) (by kernel_rfl) (by kernel_rfl) fun a hF=>e_p (v:=(.bool false)) 7 hF rfl (ex_move rfl) rfl rfl (by kernel_rfl) (by kernel_rfl) (by kernel_rfl) fun a hF=>e_skipP 8 hF rfl (wanted_f hF rfl rfl rfl rfl rfl) rfl (by kernel_rfl) (by kernel_rfl) (by kernel_rfl) fun a hF=>e_p (v:=(.bool false)) 9 hF rfl (ex_pick_f rfl rfl rfl) rfl rfl (by kernel_rfl) (by kernel_rfl) (by kernel_rfl) fun a hF=>e_p (v:=(.bool false)) 10 hF rfl (ex_move rfl) rfl rfl (by kernel_rfl) (by kernel_rfl) (by kernel_rfl) fun a hF=>e_skipP 11 hF rfl (wanted_f hF rfl rfl rfl rfl rfl) rfl (by kernel_rfl) (by kernel_rfl) (by kernel_rfl) fun a hF=>e_p (v:=(.bool false)) 12 hF rfl (ex_pick_f rfl rfl rfl) rfl rfl (by kernel_rfl) (by kernel_rfl) (by kernel_rfl) fun a hF=>e_p (v:=(.bool false)) 13 hF rfl (ex_move rfl) rfl rfl (by kernel_rfl) (by kernel_rfl) (by kernel_rfl) fun a hF=>e_skipP 14 hF rfl (wanted_f hF rfl rfl rfl rfl rfl) rfl (by kernel_rfl) (by kernel_rfl) (by kernel_rfl) fun a hF=>e_skipP 15 hF rfl (wanted_f hF rfl rfl rfl rfl rfl) rfl (by kernel_rfl) (by kernel_rfl) (by kernel_rfl) fun a hF=>e_skipP 16 hF rfl (wanted_f hF rfl rfl rfl rfl rfl) rfl (by kernel_rfl) (by kernel_rfl) (by kernel_rfl) fun a hF=>e_skipP 17 hF rfl (wanted_f hF rfl rfl rfl rfl rfl) rfl (by kernel_rfl) (by kernel_rfl) (by kernel_rfl) fun a hF=>e_skipP 18 hF rfl (wanted_f hF rfl rfl rfl rfl rfl) rfl (by kernel_rfl) (by kernel_rfl) (by kernel_rfl) fun a hF=>e_skipP 19 hF rfl (wanted_f hF rfl rfl rfl rfl rfl) rfl (by kernel_rfl) (by kernel_rfl) (by kernel_rfl) fun a hF=>e_skipP 20 hF rfl (wanted_f hF rfl rfl rfl rfl rfl) rfl (by kernel_rfl) (by kernel_rfl) (by kernel_rfl) fun a hF=>e_skipP 21 hF rfl (wanted_f hF rfl rfl rfl rfl rfl) rfl (by kernel_rfl) (by kernel_rfl) (by kernel_rfl) fun a hF=>e_skipP 22 hF rfl (wanted_f hF rfl rfl rfl rfl rfl) rfl (by kernel_rfl) (by kernel_rfl) (by kernel_rfl) fun a hF=>e_skipP 23 hF rfl (wanted_f hF rfl rfl rfl rfl rfl) rfl (by kernel_rfl) (by kernel_rfl) (by kernel_rfl) fun a hF=>e_skipP 24 hF rfl (wanted_f hF rfl rfl rfl rfl rfl) rfl (by kernel_rfl) (by kernel_rfl) (by kernel_rfl) fun a hF=>e_skipP 25 hF rfl (wanted_f hF rfl rfl rfl rfl rfl) rfl (by kernel_rfl) (by kernel_rfl) (by kernel_rfl) fun a hF=>e_skipP 26 hF rfl (wanted_f hF rfl rfl rfl rfl rfl) rfl (by kernel_rfl) (by kernel_rfl) (by kernel_rfl) fun a hF=>e_skipP 27 hF rfl (wanted_f hF rfl rfl rfl rfl rfl) rfl (by kernel_rfl) (by kernel_rfl) (by kernel_rfl) fun a hF=>e_skipP 28 hF rfl (wanted_f hF rfl rfl rfl rfl rfl) rfl (by kernel_rfl) (by kernel_rfl) (by kernel_rfl) fun a hF=>e_skipP 29 hF rfl (wanted_f hF rfl rfl rfl rfl rfl) rfl (by kernel_rfl) (by kernel_rfl) (by kernel_rfl) fun a hF=>?_
             refine e_skipP 30 hF rfl (wanted_f hF rfl rfl rfl rfl rfl) rfl (by kernel_rfl) (by kernel_rfl) (by kernel_rfl) fun a hF=>e_p (v:=(.bool false)) 31 hF rfl (ex_pick_f rfl rfl rfl) rfl rfl (by kernel_rfl) (by kernel_rfl) (by kernel_rfl) fun a hF=>e_p (v:=(.bool false)) 32 hF rfl (ex_move rfl) rfl rfl (by kernel_rfl) (by kernel_rfl) (by kernel_rfl) fun a hF=>e_skipP 33 hF rfl (wanted_f hF rfl rfl rfl rfl rfl) rfl (by kernel_rfl) (by kernel_rfl) (by kernel_rfl) fun a hF=>e_skipP 34 hF rfl (wanted_f hF rfl rfl rfl rfl rfl) rfl (by kernel_rfl) (by kernel_rfl) (by kernel_rfl) fun a hF=>e_skipP 35 hF rfl (wanted_f hF rfl rfl rfl rfl rfl) rfl (by kernel_rfl) (by kernel_rfl) (by kernel_rfl) fun a hF=>e_skipP 36 hF rfl (wanted_f hF rfl rfl rfl rfl rfl) rfl (by kernel_rfl) (by kernel_rfl) (by kernel_rfl) fun a hF=>e_skipP 37 hF rfl (wanted_f hF rfl rfl rfl rfl rfl) rfl (by kernel_rfl) (by kernel_rfl) (by kernel_rfl) fun a hF=>e_skipP 38 hF rfl (wanted_f hF rfl rfl rfl rfl rfl) rfl (by kernel_rfl) (by kernel_rfl) (by kernel_rfl) fun a hF=>e_skipP 39 hF rfl (wanted_f hF rfl rfl rfl rfl rfl) rfl (by kernel_rfl) (by kernel_rfl) (by kernel_rfl) fun a hF=>e_skipP 40 hF rfl (wanted_f hF rfl rfl rfl rfl rfl) rfl (by kernel_rfl) (by kernel_rfl) (by kernel_rfl) fun a hF=>e_skipP 41 hF rfl (wanted_f hF rfl rfl rfl rfl rfl) rfl (by kernel_rfl) (by kernel_rfl) (by kernel_rfl) fun a hF=>e_skipP 42 hF rfl (wanted_f hF rfl rfl rfl rfl rfl) rfl (by kernel_rfl) (by kernel_rfl) (by kernel_rfl) fun a hF=>e_skipP 43 hF rfl (wanted_f hF rfl rfl rfl rfl rfl) rfl (by kernel_rfl) (by kernel_rfl) (by kernel_rfl) fun a hF=>e_skipP 44 hF rfl (wanted_f hF rfl rfl rfl rfl rfl) rfl (by kernel_rfl) (by kernel_rfl) (by kernel_rfl) fun a hF=>e_skipP 45 hF rfl (wanted_f hF rfl rfl rfl rfl rfl) rfl (by kernel_rfl) (by kernel_rfl) (by kernel_rfl) fun a hF=>e_skipP 46 hF rfl (wanted_f hF rfl rfl rfl rfl rfl) rfl (by kernel_rfl) (by kernel_rfl) (by kernel_rfl) fun a hF=>e_skipP 47 hF rfl (wanted_f hF rfl rfl rfl rfl rfl) rfl (by kernel_rfl) (by kernel_rfl) (by kernel_rfl) fun a hF=>e_skipP 48 hF rfl (wanted_f hF rfl rfl rfl rfl rfl) rfl (by kernel_rfl) (by kernel_rfl) (by kernel_rfl) fun a hF=>e_skipP 49 hF rfl (wanted_f hF rfl rfl rfl rfl rfl) rfl (by kernel_rfl) (by kernel_rfl) (by kernel_rfl) fun a hF=>e_p (v:=(.bool false)) 50 hF rfl (ex_pick_f rfl rfl rfl) rfl rfl (by kernel_rfl) (by kernel_rfl) (by kernel_rfl) fun a hF=>e_p (v:=(.bool false)) 51 hF rfl (ex_assign rfl) rfl rfl (by kernel_rfl) (by kernel_rfl) (by kernel_rfl) fun a hF=>e_end (by kernel_rfl) (n_jn ?_) _
             obtain rfl:=someI hj18
             exact ⟨hF.sub ⟨rfl,trivial⟩,hS.mask [false,false,false,false,false,false,false]⟩
            ·have hj18:=cond_t hc20 hj18
             refine e_pg (v:=(.bool t_54.2)) 5 hF rfl (ex_move rfl) (wanted_t hF rfl rfl rfl hc20) rfl (by kernel_rfl) (by kernel_rfl) (by kernel_rfl) fun a hF=>e_p (v:=(.bool t_54.2)) 6 hF rfl (ex_pick_t rfl rfl hc20) rfl rfl (by kernel_rfl) (by kernel_rfl) (by kernel_rfl) fun a hF=>e_p (v:=(.bool t_54.2)) 7 hF rfl (ex_move rfl) rfl rfl (by kernel_rfl) (by kernel_rfl) (by kernel_rfl) fun a hF=>?_
             rcases bcase (t_54.2) with hc21 | hc21
             ·have hj18:=cond_f hc21 hj18
              refine e_skipP 8 hF rfl (wanted_f hF rfl rfl rfl hc21 rfl) rfl (by kernel_rfl) (by kernel_rfl) (by kernel_rfl) fun a hF=>e_p (v:=(.bool false)) 9 hF rfl (ex_pick_f rfl rfl hc21) rfl rfl (by kernel_rfl) (by kernel_rfl) (by kernel_rfl) fun a hF=>e_p (v:=(.bool false)) 10 hF rfl (ex_move rfl) rfl rfl (by kernel_rfl) (by kernel_rfl) (by kernel_rfl) fun a hF=>e_skipP 11 hF rfl (wanted_f hF rfl rfl rfl rfl rfl) rfl (by kernel_rfl) (by kernel_rfl) (by kernel_rfl) fun a hF=>e_p (v:=(.bool false)) 12 hF rfl (ex_pick_f rfl rfl rfl) rfl rfl (by kernel_rfl) (by kernel_rfl) (by kernel_rfl) fun a hF=>e_p (v:=(.bool false)) 13 hF rfl (ex_move rfl) rfl rfl (by kernel_rfl) (by kernel_rfl) (by kernel_rfl) fun a hF=>e_skipP 14 hF rfl (wanted_f hF rfl rfl rfl rfl rfl) rfl (by kernel_rfl) (by kernel_rfl) (by kernel_rfl) fun a hF=>e_skipP 15 hF rfl (wanted_f hF rfl rfl rfl rfl rfl) rfl (by kernel_rfl) (by kernel_rfl) (by kernel_rfl) fun a hF=>e_skipP 16 hF rfl (wanted_f hF rfl rfl rfl rfl rfl) rfl (by kernel_rfl) (by kernel_rfl) (by kernel_rfl) fun a hF=>e_skipP 17 hF rfl (wanted_f hF rfl rfl rfl rfl rfl) rfl (by kernel_rfl) (by kernel_rfl) (by kernel_rfl) fun a hF=>e_skipP 18 hF rfl (wanted_f hF rfl rfl rfl rfl rfl) rfl (by kernel_rfl) (by kernel_rfl) (by kernel_rfl) fun a hF=>e_skipP 19 hF rfl (wanted_f hF rfl rfl rfl rfl rfl) rfl (by kernel_rfl) (by kernel_rfl) (by kernel_rfl) fun a hF=>e_skipP 20 hF rfl (wanted_f hF rfl rfl rfl rfl rfl) rfl (by kernel_rfl) (by kernel_rfl) (by kernel_rfl) fun a hF=>e_skipP 21 hF rfl (wanted_f hF rfl rfl rfl rfl rfl) rfl (by kernel_rfl) (by kernel_rfl) (by kernel_rfl) fun a hF=>e_skipP 22 hF rfl (wanted_f hF rfl rfl rfl rfl rfl) rfl (by kernel_rfl) (by kernel_rfl) (by kernel_rfl) fun a hF=>e_skipP 23 hF rfl (wanted_f hF rfl rfl rfl rfl rfl) rfl (by kernel_rfl) (by kernel_rfl) (by kernel_rfl) fun a hF=>e_skipP 24 hF rfl (wanted_f hF rfl rfl rfl rfl rfl) rfl (by kernel_rfl) (by kernel_rfl) (by kernel_rfl) fun a hF=>e_skipP 25 hF rfl (wanted_f hF rfl rfl rfl rfl rfl) rfl (by kernel_rfl) (by kernel_rfl) (by kernel_rfl) fun a hF=>e_skipP 26 hF rfl (wanted_f hF rfl rfl rfl rfl rfl) rfl (by kernel_rfl) (by kernel_rfl) (by kernel_rfl) fun a hF=>e_skipP 27 hF rfl (wanted_f hF rfl rfl rfl rfl rfl) rfl (by kernel_rfl) (by kernel_rfl) (by kernel_rfl) fun a hF=>e_skipP 28 hF rfl (wanted_f hF rfl rfl rfl rfl rfl) rfl (by kernel_rfl) (by kernel_rfl) (by kernel_rfl) fun a hF=>e_skipP 29 hF rfl (wanted_f hF rfl rfl rfl rfl rfl) rfl (by kernel_rfl) (by kernel_rfl) (by kernel_rfl) fun a hF=>e_skipP 30 hF rfl (wanted_f hF rfl rfl rfl rfl rfl) rfl (by kernel_rfl) (by kernel_rfl) (by kernel_rfl) fun a hF=>e_p (v:=(.bool false)) 31 hF rfl (ex_pick_f rfl rfl rfl) rfl rfl (by kernel_rfl) (by kernel_rfl) (by kernel_rfl) fun a hF=>e_p (v:=(.bool false)) 32 hF rfl (ex_move rfl) rfl rfl (by kernel_rfl) (by kernel_rfl) (by kernel_rfl) fun a hF=>?_
              refine e_skipP 33 hF rfl (wanted_f hF rfl rfl rfl rfl rfl) rfl (by kernel_rfl) (by kernel_rfl) (by kernel_rfl) fun a hF=>e_skipP 34 hF rfl (wanted_f hF rfl rfl rfl rfl rfl) rfl (by kernel_rfl) (by kernel_rfl) (by kernel_rfl) fun a hF=>e_skipP 35 hF rfl (wanted_f hF rfl rfl rfl rfl rfl) rfl (by kernel_rfl) (by kernel_rfl) (by kernel_rfl) fun a hF=>e_skipP 36 hF rfl (wanted_f hF rfl rfl rfl rfl rfl) rfl (by kernel_rfl) (by kernel_rfl) (by kernel_rfl) fun a hF=>e_skipP 37 hF rfl (wanted_f hF rfl rfl rfl rfl rfl) rfl (by kernel_rfl) (by kernel_rfl) (by kernel_rfl) fun a hF=>e_skipP 38 hF rfl (wanted_f hF rfl rfl rfl rfl rfl) rfl (by kernel_rfl) (by kernel_rfl) (by kernel_rfl) fun a hF=>e_skipP 39 hF rfl (wanted_f hF rfl rfl rfl rfl rfl) rfl (by kernel_rfl) (by kernel_rfl) (by kernel_rfl) fun a hF=>e_skipP 40 hF rfl (wanted_f hF rfl rfl rfl rfl rfl) rfl (by kernel_rfl) (by kernel_rfl) (by kernel_rfl) fun a hF=>e_skipP 41 hF rfl (wanted_f hF rfl rfl rfl rfl rfl) rfl (by kernel_rfl) (by kernel_rfl) (by kernel_rfl) fun a hF=>e_skipP 42 hF rfl (wanted_f hF rfl rfl rfl rfl rfl) rfl (by kernel_rfl) (by kernel_rfl) (by kernel_rfl) fun a hF=>e_skipP 43 hF rfl (wanted_f hF rfl rfl rfl rfl rfl) rfl (by kernel_rfl) (by kernel_rfl) (by kernel_rfl) fun a hF=>e_skipP 44 hF rfl (wanted_f hF rfl rfl rfl rfl rfl) rfl (by kernel_rfl) (by kernel_rfl) (by kernel_rfl) fun a hF=>e_skipP 45 hF rfl (wanted_f hF rfl rfl rfl rfl rfl) rfl (by kernel_rfl) (by kernel_rfl) (by kernel_rfl) fun a hF=>e_skipP 46 hF rfl (wanted_f hF rfl rfl rfl rfl rfl) rfl (by kernel_rfl) (by kernel_rfl) (by kernel_rfl) fun a hF=>e_skipP 47 hF rfl (wanted_f hF rfl rfl rfl rfl rfl) rfl (by kernel_rfl) (by kernel_rfl) (by kernel_rfl) fun a hF=>e_skipP 48 hF rfl (wanted_f hF rfl rfl rfl rfl rfl) rfl (by kernel_rfl) (by kernel_rfl) (by kernel_rfl) fun a hF=>e_skipP 49 hF rfl (wanted_f hF rfl rfl rfl rfl rfl) rfl (by kernel_rfl) (by kernel_rfl) (by kernel_rfl) fun a hF=>e_p (v:=(.bool false)) 50 hF rfl (ex_pick_f rfl rfl rfl) rfl rfl (by kernel_rfl) (by kernel_rfl) (by kernel_rfl) fun a hF=>e_p (v:=(.bool false)) 51 hF rfl (ex_assign rfl) rfl rfl (by kernel_rfl) (by kernel_rfl) (by kernel_rfl) fun a hF=>e_end (by kernel_rfl) (n_jn ?_) _
              obtain rfl:=someI hj18
              exact ⟨hF.sub ⟨rfl,trivial⟩,hS.mask [false,false,false,false,false,false,false]⟩
             ·have hj18:=cond_t hc21 hj18
              refine e_pg (v:=(.bool t_52.1)) 8 hF rfl (ex_move rfl) (wanted_t hF rfl rfl rfl hc21) rfl (by kernel_rfl) (by kernel_rfl) (by kernel_rfl) fun a hF=>e_p (v:=(.bool t_52.1)) 9 hF rfl (ex_pick_t rfl rfl hc21) rfl rfl (by kernel_rfl) (by kernel_rfl) (by kernel_rfl) fun a hF=>e_p (v:=(.bool t_52.1)) 10 hF rfl (ex_move rfl) rfl rfl (by kernel_rfl) (by kernel_rfl) (by kernel_rfl) fun a hF=>?_
              rcases bcase (t_52.1) with hc22 | hc22
              ·have hj18:=cond_f hc22 hj18
               refine e_skipP 11 hF rfl (wanted_f hF rfl rfl rfl hc22 rfl) rfl (by kernel_rfl) (by kernel_rfl) (by kernel_rfl) fun a hF=>e_p (v:=(.bool false)) 12 hF rfl (ex_pick_f rfl rfl hc22) rfl rfl (by kernel_rfl) (by kernel_rfl) (by kernel_rfl) fun a hF=>e_p (v:=(.bool false)) 13 hF rfl (ex_move rfl) rfl rfl (by kernel_rfl) (by kernel_rfl) (by kernel_rfl) fun a hF=>e_skipP 14 hF rfl (wanted_f hF rfl rfl rfl rfl rfl) rfl (by kernel_rfl) (by kernel_rfl) (by kernel_rfl) fun a hF=>e_skipP 15 hF rfl (wanted_f hF rfl rfl rfl rfl rfl) rfl (by kernel_rfl) (by kernel_rfl) (by kernel_rfl) fun a hF=>e_skipP 16 hF rfl (wanted_f hF rfl rfl rfl rfl rfl) rfl (by kernel_rfl) (by kernel_rfl) (by kernel_rfl) fun a hF=>e_skipP 17 hF rfl (wanted_f hF rfl rfl rfl rfl rfl) rfl (by kernel_rfl) (by kernel_rfl) (by kernel_rfl) fun a hF=>e_skipP 18 hF rfl (wanted_f hF rfl rfl rfl rfl rfl) rfl (by kernel_rfl) (by kernel_rfl) (by kernel_rfl) fun a hF=>e_skipP 19 hF rfl (wanted_f hF rfl rfl rfl rfl rfl) rfl (by kernel_rfl) (by kernel_rfl) (by kernel_rfl) fun a hF=>e_skipP 20 hF rfl (wanted_f hF rfl rfl rfl rfl rfl) rfl (by kernel_rfl) (by kernel_rfl) (by kernel_rfl) fun a hF=>e_skipP 21 hF rfl (wanted_f hF rfl rfl rfl rfl rfl) rfl (by kernel_rfl) (by kernel_rfl) (by kernel_rfl) fun a hF=>e_skipP 22 hF rfl (wanted_f hF rfl rfl rfl rfl rfl) rfl (by kernel_rfl) (by kernel_rfl) (by kernel_rfl) fun a hF=>e_skipP 23 hF rfl (wanted_f hF rfl rfl rfl rfl rfl) rfl (by kernel_rfl) (by kernel_rfl) (by kernel_rfl) fun a hF=>e_skipP 24 hF rfl (wanted_f hF rfl rfl rfl rfl rfl) rfl (by kernel_rfl) (by kernel_rfl) (by kernel_rfl) fun a hF=>e_skipP 25 hF rfl (wanted_f hF rfl rfl rfl rfl rfl) rfl (by kernel_rfl) (by kernel_rfl) (by kernel_rfl) fun a hF=>e_skipP 26 hF rfl (wanted_f hF rfl rfl rfl rfl rfl) rfl (by kernel_rfl) (by kernel_rfl) (by kernel_rfl) fun a hF=>e_skipP 27 hF rfl (wanted_f hF rfl rfl rfl rfl rfl) rfl (by kernel_rfl) (by kernel_rfl) (by kernel_rfl) fun a hF=>e_skipP 28 hF rfl (wanted_f hF rfl rfl rfl rfl rfl) rfl (by kernel_rfl) (by kernel_rfl) (by kernel_rfl) fun a hF=>e_skipP 29 hF rfl (wanted_f hF rfl rfl rfl rfl rfl) rfl (by kernel_rfl) (by kernel_rfl) (by kernel_rfl) fun a hF=>e_skipP 30 hF rfl (wanted_f hF rfl rfl rfl rfl rfl) rfl (by kernel_rfl) (by kernel_rfl) (by kernel_rfl) fun a hF=>e_p (v:=(.bool false)) 31 hF rfl (ex_pick_f rfl rfl rfl) rfl rfl (by kernel_rfl) (by kernel_rfl) (by kernel_rfl) fun a hF=>e_p (v:=(.bool false)) 32 hF rfl (ex_move rfl) rfl rfl (by kernel_rfl) (by kernel_rfl) (by kernel_rfl) fun a hF=>e_skipP 33 hF rfl (wanted_f hF rfl rfl rfl rfl rfl) rfl (by kernel_rfl) (by kernel_rfl) (by kernel_rfl) fun a hF=>e_skipP 34 hF rfl (wanted_f hF rfl rfl rfl rfl rfl) rfl (by kernel_rfl) (by kernel_rfl) (by kernel_rfl) fun a hF=>e_skipP 35 hF rfl (wanted_f hF rfl rfl rfl rfl rfl) rfl (by kernel_rfl) (by kernel_rfl) (by kernel_rfl) fun a hF=>?_
               refine e_skipP 36 hF rfl (wanted_f hF rfl rfl rfl rfl rfl) rfl (by kernel_rfl) (by kernel_rfl) (by kernel_rfl) fun a hF=>e_skipP 37 hF rfl (wanted_f hF rfl rfl rfl rfl rfl) rfl (by kernel_rfl) (by kernel_rfl) (by kernel_rfl) fun a hF=>e_skipP 38 hF rfl (wanted_f hF rfl rfl rfl rfl rfl) rfl (by kernel_rfl) (by kernel_rfl) (by kernel_rfl) fun a hF=>e_skipP 39 hF rfl (wanted_f hF rfl rfl rfl rfl rfl) rfl (by kernel_rfl) (by kernel_rfl) (by kernel_rfl) fun a hF=>e_skipP 40 hF rfl (wanted_f hF rfl rfl rfl rfl rfl) rfl (by kernel_rfl) (by kernel_rfl) (by kernel_rfl) fun a hF=>e_skipP 41 hF rfl (wanted_f hF rfl rfl rfl rfl rfl) rfl (by kernel_rfl) (by kernel_rfl) (by kernel_rfl) fun a hF=>e_skipP 42 hF rfl (wanted_f hF rfl rfl rfl rfl rfl) rfl (by kernel_rfl) (by kernel_rfl) (by kernel_rfl) fun a hF=>e_skipP 43 hF rfl (wanted_f hF rfl rfl rfl rfl rfl) rfl (by kernel_rfl) (by kernel_rfl) (by kernel_rfl) fun a hF=>e_skipP 44 hF rfl (wanted_f hF rfl rfl rfl rfl rfl) rfl (by kernel_rfl) (by kernel_rfl) (by kernel_rfl) fun a hF=>e_skipP 45 hF rfl (wanted_f hF rfl rfl rfl rfl rfl) rfl (by kernel_rfl) (by kernel_rfl) (by kernel_rfl) fun a hF=>e_skipP 46 hF rfl (wanted_f hF rfl rfl rfl rfl rfl) rfl (by kernel_rfl) (by kernel_rfl) (by kernel_rfl) fun a hF=>e_skipP 47 hF rfl (wanted_f hF rfl rfl rfl rfl rfl) rfl (by kernel_rfl) (by kernel_rfl) (by kernel_rfl) fun a hF=>e_skipP 48 hF rfl (wanted_f hF rfl rfl rfl rfl rfl) rfl (by kernel_rfl) (by kernel_rfl) (by kernel_rfl) fun a hF=>e_skipP 49 hF rfl (wanted_f hF rfl rfl rfl rfl rfl) rfl (by kernel_rfl) (by kernel_rfl) (by kernel_rfl) fun a hF=>e_p (v:=(.bool false)) 50 hF rfl (ex_pick_f rfl rfl rfl) rfl rfl (by kernel_rfl) (by kernel_rfl) (by kernel_rfl) fun a hF=>e_p (v:=(.bool false)) 51 hF rfl (ex_assign rfl) rfl rfl (by kernel_rfl) (by kernel_rfl) (by kernel_rfl) fun a hF=>e_end (by kernel_rfl) (n_jn ?_) _
               obtain rfl:=someI hj18
               exact ⟨hF.sub ⟨rfl,trivial⟩,hS.mask [false,false,false,false,false,false,false]⟩
              ·have hj18:=cond_t hc22 hj18
               refine e_pg (v:=(.bool t_54.1)) 11 hF rfl (ex_move rfl) (wanted_t hF rfl rfl rfl hc22) rfl (by kernel_rfl) (by kernel_rfl) (by kernel_rfl) fun a hF=>e_p (v:=(.bool t_54.1)) 12 hF rfl (ex_pick_t rfl rfl hc22) rfl rfl (by kernel_rfl) (by kernel_rfl) (by kernel_rfl) fun a hF=>e_p (v:=(.bool t_54.1)) 13 hF rfl (ex_move rfl) rfl rfl (by kernel_rfl) (by kernel_rfl) (by kernel_rfl) fun a hF=>?_
               rcases bcase (t_54.1) with hc23 | hc23
               ·have hj18:=cond_f hc23 hj18
                refine e_skipP 14 hF rfl (wanted_f hF rfl rfl rfl hc23 rfl) rfl (by kernel_rfl) (by kernel_rfl) (by kernel_rfl) fun a hF=>e_skipP 15 hF rfl (wanted_f hF rfl rfl rfl hc23 rfl) rfl (by kernel_rfl) (by kernel_rfl) (by kernel_rfl) fun a hF=>e_skipP 16 hF rfl (wanted_f hF rfl rfl rfl hc23 rfl) rfl (by kernel_rfl) (by kernel_rfl) (by kernel_rfl) fun a hF=>e_skipP 17 hF rfl (wanted_f hF rfl rfl rfl hc23 rfl) rfl (by kernel_rfl) (by kernel_rfl) (by kernel_rfl) fun a hF=>e_skipP 18 hF rfl (wanted_f hF rfl rfl rfl hc23 rfl) rfl (by kernel_rfl) (by kernel_rfl) (by kernel_rfl) fun a hF=>e_skipP 19 hF rfl (wanted_f hF rfl rfl rfl hc23 rfl) rfl (by kernel_rfl) (by kernel_rfl) (by kernel_rfl) fun a hF=>e_skipP 20 hF rfl (wanted_f hF rfl rfl rfl hc23 rfl) rfl (by kernel_rfl) (by kernel_rfl) (by kernel_rfl) fun a hF=>e_skipP 21 hF rfl (wanted_f hF rfl rfl rfl hc23 rfl) rfl (by kernel_rfl) (by kernel_rfl) (by kernel_rfl) fun a hF=>e_skipP 22 hF rfl (wanted_f hF rfl rfl rfl hc23 rfl) rfl (by kernel_rfl) (by kernel_rfl) (by kernel_rfl) fun a hF=>e_skipP 23 hF rfl (wanted_f hF rfl rfl rfl hc23 rfl) rfl (by kernel_rfl) (by kernel_rfl) (by kernel_rfl) fun a hF=>e_skipP 24 hF rfl (wanted_f hF rfl rfl rfl hc23 rfl) rfl (by kernel_rfl) (by kernel_rfl) (by kernel_rfl) fun a hF=>e_skipP 25 hF rfl (wanted_f hF rfl rfl rfl hc23 rfl) rfl (by kernel_rfl) (by kernel_rfl) (by kernel_rfl) fun a hF=>e_skipP 26 hF rfl (wanted_f hF rfl rfl rfl hc23 rfl) rfl (by kernel_rfl) (by kernel_rfl) (by kernel_rfl) fun a hF=>e_skipP 27 hF rfl (wanted_f hF rfl rfl rfl hc23 rfl) rfl (by kernel_rfl) (by kernel_rfl) (by kernel_rfl) fun a hF=>e_skipP 28 hF rfl (wanted_f hF rfl rfl rfl hc23 rfl) rfl (by kernel_rfl) (by kernel_rfl) (by kernel_rfl) fun a hF=>e_skipP 29 hF rfl (wanted_f hF rfl rfl rfl hc23 rfl) rfl (by kernel_rfl) (by kernel_rfl) (by kernel_rfl) fun a hF=>e_skipP 30 hF rfl (wanted_f hF rfl rfl rfl hc23 rfl) rfl (by kernel_rfl) (by kernel_rfl) (by kernel_rfl) fun a hF=>e_p (v:=(.bool false)) 31 hF rfl (ex_pick_f rfl rfl hc23) rfl rfl (by kernel_rfl) (by kernel_rfl) (by kernel_rfl) fun a hF=>e_p (v:=(.bool false)) 32 hF rfl (ex_move rfl) rfl rfl (by kernel_rfl) (by kernel_rfl) (by kernel_rfl) fun a hF=>e_skipP 33 hF rfl (wanted_f hF rfl rfl rfl rfl rfl) rfl (by kernel_rfl) (by kernel_rfl) (by kernel_rfl) fun a hF=>e_skipP 34 hF rfl (wanted_f hF rfl rfl rfl rfl rfl) rfl (by kernel_rfl) (by kernel_rfl) (by kernel_rfl) fun a hF=>e_skipP 35 hF rfl (wanted_f hF rfl rfl rfl rfl rfl) rfl (by kernel_rfl) (by kernel_rfl) (by kernel_rfl) fun a hF=>e_skipP 36 hF rfl (wanted_f hF rfl rfl rfl rfl rfl) rfl (by kernel_rfl) (by kernel_rfl) (by kernel_rfl) fun a hF=>e_skipP 37 hF rfl (wanted_f hF rfl rfl rfl rfl rfl) rfl (by kernel_rfl) (by kernel_rfl) (by kernel_rfl) fun a hF=>e_skipP 38 hF rfl (wanted_f hF rfl rfl rfl rfl rfl) rfl (by kernel_rfl) (by kernel_rfl) (by kernel_rfl) fun a hF=>?_
                refine e_skipP 39 hF rfl (wanted_f hF rfl rfl rfl rfl rfl) rfl (by kernel_rfl) (by kernel_rfl) (by kernel_rfl) fun a hF=>e_skipP 40 hF rfl (wanted_f hF rfl rfl rfl rfl rfl) rfl (by kernel_rfl) (by kernel_rfl) (by kernel_rfl) fun a hF=>e_skipP 41 hF rfl (wanted_f hF rfl rfl rfl rfl rfl) rfl (by kernel_rfl) (by kernel_rfl) (by kernel_rfl) fun a hF=>e_skipP 42 hF rfl (wanted_f hF rfl rfl rfl rfl rfl) rfl (by kernel_rfl) (by kernel_rfl) (by kernel_rfl) fun a hF=>e_skipP 43 hF rfl (wanted_f hF rfl rfl rfl rfl rfl) rfl (by kernel_rfl) (by kernel_rfl) (by kernel_rfl) fun a hF=>e_skipP 44 hF rfl (wanted_f hF rfl rfl rfl rfl rfl) rfl (by kernel_rfl) (by kernel_rfl) (by kernel_rfl) fun a hF=>e_skipP 45 hF rfl (wanted_f hF rfl rfl rfl rfl rfl) rfl (by kernel_rfl) (by kernel_rfl) (by kernel_rfl) fun a hF=>e_skipP 46 hF rfl (wanted_f hF rfl rfl rfl rfl rfl) rfl (by kernel_rfl) (by kernel_rfl) (by kernel_rfl) fun a hF=>e_skipP 47 hF rfl (wanted_f hF rfl rfl rfl rfl rfl) rfl (by kernel_rfl) (by kernel_rfl) (by kernel_rfl) fun a hF=>e_skipP 48 hF rfl (wanted_f hF rfl rfl rfl rfl rfl) rfl (by kernel_rfl) (by kernel_rfl) (by kernel_rfl) fun a hF=>e_skipP 49 hF rfl (wanted_f hF rfl rfl rfl rfl rfl) rfl (by kernel_rfl) (by kernel_rfl) (by kernel_rfl) fun a hF=>e_p (v:=(.bool false)) 50 hF rfl (ex_pick_f rfl rfl rfl) rfl rfl (by kernel_rfl) (by kernel_rfl) (by kernel_rfl) fun a hF=>e_p (v:=(.bool false)) 51 hF rfl (ex_assign rfl) rfl rfl (by kernel_rfl) (by kernel_rfl) (by kernel_rfl) fun a hF=>e_end (by kernel_rfl) (n_jn ?_) _
                obtain rfl:=someI hj18
                exact ⟨hF.sub ⟨rfl,trivial⟩,hS.mask [false,false,false,false,false,false,false]⟩
               ·have hj18:=cond_t hc23 hj18
                refine e_pg (v:=s26.v) 14 hF rfl (ex_move rfl) (wanted_t hF rfl rfl rfl hc23) rfl (by kernel_rfl) (by kernel_rfl) (by kernel_rfl) fun a hF=>e_pg (v:=(iV t_3.2.2.1)) 15 hF rfl (ex_move rfl) (wanted_t hF rfl rfl rfl hc23) rfl (by kernel_rfl) (by kernel_rfl) (by kernel_rfl) fun a hF=>?_
                obtain ⟨e_56,he_56,hj18⟩:=bindS hj18
                obtain ⟨s57,hV57⟩:=(((h26.mono hm28.le).mono hm29.le).mono hm31.le).view he_56
                refine e_pg (v:=(elP s26 (t_3.2.2.1.toNat * 1))) 16 hF rfl (ex_indexAddr Try.underlying23 sz28 rfl rfl ((((h26.mono hm28.le).mono hm29.le).mono hm31.le).idx he_56)) (wanted_t hF rfl rfl rfl hc23) rfl (by kernel_rfl) (by kernel_rfl) (by kernel_rfl) fun a hF=>e_xg (v:=s57.v) 17 hF hS rfl (ex_loadE1 0 Try.underlying28 rfl rfl ((hV57.atH he_56).at 5 rfl) rfl rfl) (wanted_t hF rfl rfl rfl hc23) rfl (by kernel_rfl) (by kernel_rfl) (by kernel_rfl) (by kernel_rfl) fun a hF=>e_pg (v:=(iV t_3.2.2.2.1)) 18 hF rfl (ex_move rfl) (wanted_t hF rfl rfl rfl hc23) rfl (by kernel_rfl) (by kernel_rfl) (by kernel_rfl) fun a hF=>?_
                obtain ⟨e_58,he_58,hj18⟩:=bindS hj18
                obtain ⟨vs59,at59,d59⟩:=hV57.at he_56 he_58 1 rfl
                obtain rfl : vs59 = [(iV e_58)]:=d59
                refine e_pg (v:=(elP s57 (t_3.2.2.2.1.toNat * 1))) 19 hF rfl (ex_indexAddr Try.underlying28 sz3 rfl rfl (hV57.idx he_56 he_58)) (wanted_t hF rfl rfl rfl hc23) rfl (by kernel_rfl) (by kernel_rfl) (by kernel_rfl) fun a hF=>e_xg (v:=(iV e_58)) 20 hF hS rfl (ex_loadE1 0 Try.underlying3 rfl rfl (at59.at 5 rfl) rfl rfl) (wanted_t hF rfl rfl rfl hc23) rfl (by kernel_rfl) (by kernel_rfl) (by kernel_rfl) (by kernel_rfl) fun a hF=>e_pg (v:=s5.v) 21 hF rfl (ex_move rfl) (wanted_t hF rfl rfl rfl hc23) rfl (by kernel_rfl) (by kernel_rfl) (by kernel_rfl) fun a hF=>e_pg (v:=(iV t_3.2.2.1)) 22 hF rfl (ex_move rfl) (wanted_t hF rfl rfl rfl hc23) rfl (by kernel_rfl) (by kernel_rfl) (by kernel_rfl) fun a hF=>?_
                obtain ⟨e_60,he_60,hj18⟩:=bindS hj18
                obtain ⟨vs61,at61,d61⟩:=h28.at he_60 1 rfl
                obtain ⟨s62,rfl,h62⟩ : ∃ s62 : Sl,vs61 = [s62.v]∧Rd m28 s62 e_60:=d61
                refine e_pg (v:=(elP s5 (t_3.2.2.1.toNat * 1))) 23 hF rfl (ex_indexAddr Try.underlying23 sz28 rfl rfl (((h28.mono hm29.le).mono hm31.le).idx he_60)) (wanted_t hF rfl rfl rfl hc23) rfl (by kernel_rfl) (by kernel_rfl) (by kernel_rfl) fun a hF=>e_xg (v:=s62.v) 24 hF hS rfl (ex_loadE1 0 Try.underlying28 rfl rfl ((((at61.mono hm29.le).mono hm31.le)).at) rfl rfl) (wanted_t hF rfl rfl rfl hc23) rfl (by kernel_rfl) (by kernel_rfl) (by kernel_rfl) (by kernel_rfl) fun a hF=>e_pg (v:=(iV t_3.2.2.2.1)) 25 hF rfl (ex_move rfl) (wanted_t hF rfl rfl rfl hc23) rfl (by kernel_rfl) (by kernel_rfl) (by kernel_rfl) fun a hF=>?_
                obtain ⟨e_63,he_63,hj18⟩:=bindS hj18
                obtain ⟨vs64,at64,d64⟩:=h62.at he_63 1 rfl
                obtain rfl : vs64 = [(iV e_63)]:=d64
                refine e_pg (v:=(elP s62 (t_3.2.2.2.1.toNat * 1))) 26 hF rfl (ex_indexAddr Try.underlying28 sz3 rfl rfl (((h62.mono hm29.le).mono hm31.le).idx he_63)) (wanted_t hF rfl rfl rfl hc23) rfl (by kernel_rfl) (by kernel_rfl) (by kernel_rfl) fun a hF=>e_xg (v:=(iV e_63)) 27 hF hS rfl (ex_loadE1 0 Try.underlying3 rfl rfl ((((at64.mono hm29.le).mono hm31.le)).at) rfl rfl) (wanted_t hF rfl rfl rfl hc23) rfl (by kernel_rfl) (by kernel_rfl) (by kernel_rfl) (by kernel_rfl) fun a hF=>e_pg (v:=(iV t_21.1)) 28 hF rfl (ex_move rfl) (wanted_t hF rfl rfl rfl hc23) rfl (by kernel_rfl) (by kernel_rfl) (by kernel_rfl) fun a hF=>e_pg (v:=(iV (w64 (e_63 - t_21.1)))) 29 hF rfl (ex_ibin rfl rfl rfl) (wanted_t hF rfl rfl rfl hc23) rfl (by kernel_rfl) (by kernel_rfl) (by kernel_rfl) fun a hF=>e_pg (v:=(.bool (e_58 == (w64 (e_63 - t_21.1))))) 30 hF rfl (ex_ibin rfl rfl rfl) (wanted_t hF rfl rfl rfl hc23) rfl (by kernel_rfl) (by kernel_rfl) (by kernel_rfl) fun a hF=>e_p (v:=(.bool (e_58 == (w64 (e_63 - t_21.1))))) 31 hF rfl (ex_pick_t rfl rfl hc23) rfl rfl (by kernel_rfl) (by kernel_rfl) (by kernel_rfl) fun a hF=>e_p (v:=(.bool (e_58 == (w64 (e_63 - t_21.1))))) 32 hF rfl (ex_move rfl) rfl rfl (by kernel_rfl) (by kernel_rfl) (by kernel_rfl) fun a hF=>?_
                rcases bcase (e_58 == (w64 (e_63 - t_21.1))) with hc24 | hc24
                ·have hj18:=cond_f hc24 hj18
                 refine e_skipP 33 hF rfl (wanted_f hF rfl rfl rfl hc24 rfl) rfl (by kernel_rfl) (by kernel_rfl) (by kernel_rfl) fun a hF=>e_skipP 34 hF rfl (wanted_f hF rfl rfl rfl hc24 rfl) rfl (by kernel_rfl) (by kernel_rfl) (by kernel_rfl) fun a hF=>e_skipP 35 hF rfl (wanted_f hF rfl rfl rfl hc24 rfl) rfl (by kernel_rfl) (by kernel_rfl) (by kernel_rfl) fun a hF=>e_skipP 36 hF rfl (wanted_f hF rfl rfl rfl hc24 rfl) rfl (by kernel_rfl) (by kernel_rfl) (by kernel_rfl) fun a hF=>e_skipP 37 hF rfl (wanted_f hF rfl rfl rfl hc24 rfl) rfl (by kernel_rfl) (by kernel_rfl) (by kernel_rfl) fun a hF=>e_skipP 38 hF rfl (wanted_f hF rfl rfl rfl hc24 rfl) rfl (by kernel_rfl) (by kernel_rfl) (by kernel_rfl) fun a hF=>e_skipP 39 hF rfl (wanted_f hF rfl rfl rfl hc24 rfl) rfl (by kernel_rfl) (by kernel_rfl) (by kernel_rfl) fun a hF=>e_skipP 40 hF rfl (wanted_f hF rfl rfl rfl hc24 rfl) rfl (by kernel_rfl) (by kernel_rfl) (by kernel_rfl) fun a hF=>e_skipP 41 hF rfl (wanted_f hF rfl rfl rfl hc24 rfl) rfl (by kernel_rfl) (by kernel_rfl) (by kernel_rfl) fun a hF=>e_skipP 42 hF rfl (wanted_f hF rfl rfl rfl hc24 rfl) rfl (by kernel_rfl) (by kernel_rfl) (by kernel_rfl) fun a hF=>e_skipP 43 hF rfl (wanted_f hF rfl rfl rfl hc24 rfl) rfl (by kernel_rfl) (by kernel_rfl) (by kernel_rfl) fun a hF=>e_skipP 44 hF rfl (wanted_f hF rfl rfl rfl hc24 rfl) rfl (by kernel_rfl) (by kernel_rfl) (by kernel_rfl) fun a hF=>e_skipP 45 hF rfl (wanted_f hF rfl rfl rfl hc24 rfl) rfl (by kernel_rfl) (by kernel_rfl) (by kernel_rfl) fun a hF=>e_skipP 46 hF rfl (wanted_f hF rfl rfl rfl hc24 rfl) rfl (by kernel_rfl) (by kernel_rfl) (by kernel_rfl) fun a hF=>e_skipP 47 hF rfl (wanted_f hF rfl rfl rfl hc24 rfl) rfl (by kernel_rfl) (by kernel_rfl) (by kernel_rfl) fun a hF=>e_skipP 48 hF rfl (wanted_f hF rfl rfl rfl hc24 rfl) rfl (by kernel_rfl) (by kernel_rfl) (by kernel_rfl) fun a hF=>e_skipP 49 hF rfl (wanted_f hF rfl rfl rfl hc24 rfl) rfl (by kernel_rfl) (by kernel_rfl) (by kernel_rfl) fun a hF=>e_p (v:=(.bool false)) 50 hF rfl (ex_pick_f rfl rfl hc24) rfl rfl (by kernel_rfl) (by kernel_rfl) (by kernel_rfl) fun a hF=>e_p (v:=(.bool false)) 51 hF rfl (ex_assign rfl) rfl rfl (by kernel_rfl) (by kernel_rfl) (by kernel_rfl) fun a hF=>e_end (by kernel_rfl) (n_jn ?_) _
                 obtain rfl:=someI hj18
                 exact ⟨hF.sub ⟨rfl,trivial⟩,hS.mask [false,false,false,false,false,false,false]⟩
                ·have hj18:=cond_t hc24 hj18
                 refine e_pg (v:=s27.v) 33 hF rfl (ex_move rfl) (wanted_t hF rfl rfl rfl hc24) rfl (by kernel_rfl) (by kernel_rfl) (by kernel_rfl) fun a hF=>e_pg (v:=(iV t_3.2.2.1)) 34 hF rfl (ex_move rfl) (wanted_t hF rfl rfl rfl hc24) rfl (by kernel_rfl) (by kernel_rfl) (by kernel_rfl) fun a hF=>?_
                 obtain ⟨e_65,he_65,hj18⟩:=bindS hj18
                 obtain ⟨s66,hV66⟩:=(((h27.mono hm28.le).mono hm29.le).mono hm31.le).view he_65
                 refine e_pg (v:=(elP s27 (t_3.2.2.1.toNat * 1))) 35 hF rfl (ex_indexAddr Try.underlying23 sz28 rfl rfl ((((h27.mono hm28.le).mono hm29.le).mono hm31.le).idx he_65)) (wanted_t hF rfl rfl rfl hc24) rfl (by kernel_rfl) (by kernel_rfl) (by kernel_rfl) fun a hF=>e_xg (v:=s66.v) 36 hF hS rfl (ex_loadE1 0 Try.underlying28 rfl rfl ((hV66.atH he_65).at 6 rfl) rfl rfl) (wanted_t hF rfl rfl rfl hc24) rfl (by kernel_rfl) (by kernel_rfl) (by kernel_rfl) (by kernel_rfl) fun a hF=>e_pg (v:=(iV t_3.2.2.2.1)) 37 hF rfl (ex_move rfl) (wanted_t hF rfl rfl rfl hc24) rfl (by kernel_rfl) (by kernel_rfl) (by kernel_rfl) fun a hF=>?_
                 obtain ⟨e_67,he_67,hj18⟩:=bindS hj18
                 obtain ⟨vs68,at68,d68⟩:=hV66.at he_65 he_67 1 rfl
                 obtain rfl : vs68 = [(iV e_67)]:=d68
                 refine e_pg (v:=(elP s66 (t_3.2.2.2.1.toNat * 1))) 38 hF rfl (ex_indexAddr Try.underlying28 sz3 rfl rfl (hV66.idx he_65 he_67)) (wanted_t hF rfl rfl rfl hc24) rfl (by kernel_rfl) (by kernel_rfl) (by kernel_rfl) fun a hF=>e_xg (v:=(iV e_67)) 39 hF hS rfl (ex_loadE1 0 Try.underlying3 rfl rfl (at68.at 6 rfl) rfl rfl) (wanted_t hF rfl rfl rfl hc24) rfl (by kernel_rfl) (by kernel_rfl) (by kernel_rfl) (by kernel_rfl) fun a hF=>e_pg (v:=s5.v) 40 hF rfl (ex_move rfl) (wanted_t hF rfl rfl rfl hc24) rfl (by kernel_rfl) (by kernel_rfl) (by kernel_rfl) fun a hF=>e_pg (v:=(iV t_3.2.2.1)) 41 hF rfl (ex_move rfl) (wanted_t hF rfl rfl rfl hc24) rfl (by kernel_rfl) (by kernel_rfl) (by kernel_rfl) fun a hF=>?_
                 obtain ⟨e_69,he_69,hj18⟩:=bindS hj18
                 obtain ⟨vs70,at70,d70⟩:=h28.at he_69 1 rfl
                 obtain ⟨s71,rfl,h71⟩ : ∃ s71 : Sl,vs70 = [s71.v]∧Rd m28 s71 e_69:=d70
                 refine e_pg (v:=(elP s5 (t_3.2.2.1.toNat * 1))) 42 hF rfl (ex_indexAddr Try.underlying23 sz28 rfl rfl (((h28.mono hm29.le).mono hm31.le).idx he_69)) (wanted_t hF rfl rfl rfl hc24) rfl (by kernel_rfl) (by kernel_rfl) (by kernel_rfl) fun a hF=>e_xg (v:=s71.v) 43 hF hS rfl (ex_loadE1 0 Try.underlying28 rfl rfl ((((at70.mono hm29.le).mono hm31.le)).at) rfl rfl) (wanted_t hF rfl rfl rfl hc24) rfl (by kernel_rfl) (by kernel_rfl) (by kernel_rfl) (by kernel_rfl) fun a hF=>e_pg (v:=(iV t_3.2.2.2.1)) 44 hF rfl (ex_move rfl) (wanted_t hF rfl rfl rfl hc24) rfl (by kernel_rfl) (by kernel_rfl) (by kernel_rfl) fun a hF=>?_
                 obtain ⟨e_72,he_72,hj18⟩:=bindS hj18
                 obtain ⟨vs73,at73,d73⟩:=h71.at he_72 1 rfl
                 obtain rfl : vs73 = [(iV e_72)]:=d73
                 refine e_pg (v:=(elP s71 (t_3.2.2.2.1.toNat * 1))) 45 hF rfl (ex_indexAddr Try.underlying28 sz3 rfl rfl (((h71.mono hm29.le).mono hm31.le).idx he_72)) (wanted_t hF rfl rfl rfl hc24) rfl (by kernel_rfl) (by kernel_rfl) (by kernel_rfl) fun a hF=>e_xg (v:=(iV e_72)) 46 hF hS rfl (ex_loadE1 0 Try.underlying3 rfl rfl ((((at73.mono hm29.le).mono hm31.le)).at) rfl rfl) (wanted_t hF rfl rfl rfl hc24) rfl (by kernel_rfl) (by kernel_rfl) (by kernel_rfl) (by kernel_rfl) fun a hF=>e_pg (v:=(iV t_21.2.1)) 47 hF rfl (ex_move rfl) (wanted_t hF rfl rfl rfl hc24) rfl (by kernel_rfl) (by kernel_rfl) (by kernel_rfl) fun a hF=>e_pg (v:=(iV (w64 (e_72 + t_21.2.1)))) 48 hF rfl (ex_ibin rfl rfl rfl) (wanted_t hF rfl rfl rfl hc24) rfl (by kernel_rfl) (by kernel_rfl) (by kernel_rfl) fun a hF=>e_pg (v:=(.bool (e_67 == (w64 (e_72 + t_21.2.1))))) 49 hF rfl (ex_ibin rfl rfl rfl) (wanted_t hF rfl rfl rfl hc24) rfl (by kernel_rfl) (by kernel_rfl) (by kernel_rfl) fun a hF=>e_p (v:=(.bool (e_67 == (w64 (e_72 + t_21.2.1))))) 50 hF rfl (ex_pick_t rfl rfl hc24) rfl rfl (by kernel_rfl) (by kernel_rfl) (by kernel_rfl) fun a hF=>e_p (v:=(.bool (e_67 == (w64 (e_72 + t_21.2.1))))) 51 hF rfl (ex_assign rfl) rfl rfl (by kernel_rfl) (by kernel_rfl) (by kernel_rfl) fun a hF=>e_end (by kernel_rfl) (n_jn ?_) _
                 obtain rfl:=someI hj18
                 exact ⟨hF.sub ⟨rfl,trivial⟩,hS.mask [false,false,false,false,false,false,false]⟩
          ·rintro a w ⟨hF,hS⟩
           refine n_sq (q_ret ?_)
           obtain rfl:=someI hr
           exact ret_of hF hS rfl (.tmp rfl .nil) rfl
         ·have hr:=cond_t hc17 hr
          refine q_cond_t hF rfl hc17 (q_seq (q_region (q_x (v:=(.bool true)) hF hS (ex_assign rfl) rfl rfl fun a hF=>q_end (n_sq (q_ret (r_sq ?_))))))
          obtain rfl:=someI hr
          exact ret_of hF hS rfl (.tmp rfl .nil) rfl
        ·have hr:=cond_t hc16 hr
         refine q_cond_t hF rfl hc16 (q_seq (q_region (q_x (v:=(.bool false)) hF hS (ex_assign rfl) rfl rfl fun a hF=>q_end (n_sq (q_ret (r_sq ?_))))))
         obtain rfl:=someI hr
         exact ret_of hF hS rfl (.tmp rfl .nil) rfl
      ·have hr:=cond_t hc12 hr
       refine q_cond_t hF rfl hc12 (q_seq (q_region (q_x (v:=(.bool false)) hF hS (ex_assign rfl) rfl rfl fun a hF=>q_end (n_sq (q_ret (r_sq ?_))))))
       obtain rfl:=someI hr
       exact ret_of hF hS rfl (.tmp rfl .nil) rfl
    ·have hr:=cond_t hc7 hr
     refine q_cond_t hF rfl hc7 (q_seq (q_region (q_x (v:=(.bool true)) hF hS (ex_assign rfl) rfl rfl fun a hF=>q_end (n_sq (q_ret (r_sq ?_))))))
     obtain rfl:=someI hr
     exact ret_of hF hS rfl (.tmp rfl .nil) rfl
   ·have hr:=cond_t hc6 hr
    refine q_cond_t hF rfl hc6 (q_seq (q_region (q_x (v:=(.bool false)) hF hS (ex_assign rfl) rfl rfl fun a hF=>q_end (n_sq (q_ret (r_sq ?_))))))
    obtain rfl:=someI hr
    exact ret_of hF hS rfl (.tmp rfl .nil) rfl
 ·have hr:=cond_t hc1 hr
  refine q_cond_t hF rfl hc1 (q_seq (q_region (q_x (v:=(.bool true)) hF hS (ex_assign rfl) rfl rfl fun a hF=>q_end (n_sq (q_ret (r_sq ?_))))))
  obtain rfl:=someI hr
  exact ret_of hF hS rfl (.tmp rfl .nil) rfl

end Go.Proofs.Ytpjcfmpfiadkgaa
