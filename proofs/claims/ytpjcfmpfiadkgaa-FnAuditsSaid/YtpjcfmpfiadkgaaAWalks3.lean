/- The walks of the functions: each returns what its plain function says. -/
import Derived.Test.YtpjcfmpfiadkgaaAWalks2
namespace Go.Proofs.Ytpjcfmpfiadkgaa
open Go.Gx Go.Gx.F Go.RowKit
set_option linter.all false
set_option maxRecDepth 10000


theorem c_impl_positions (p_p : List (List Int)) (r : (List (List Int))) (hr : impl_positions p_p = some r) (w0 : World) (m : Mem) (hv : Vis m w0) (s1 : Sl) (h1 : Rd m s1 p_p) :
  Ret Try.prog 100 [s1.v] w0 (fun v w=>∃ (m' : Mem) (q0' : Piece) (s0' : Sl),v = s0'.v∧MLe [] w0.heap.size m m'∧St [] w0 w m' [q0']∧OwnL m' 28 q0' s0' r):=by
 unfold impl_positions at hr
 refine ret_start Try.func100 rfl 33 rfl rfl m hv fun a hF hS=>q_seq (q_region (q_x (v:=nilS.v) hF hS (ex_assign rfl) rfl rfl fun a hF=>q_end (n_sq (q_seq (q_region (q_x (v:=nilS.v) hF hS (ex_assign rfl) rfl rfl fun a hF=>q_end (n_sq (q_seq (q_seq (q_region (q_x (v:=s1.v) hF hS (ex_move rfl) rfl rfl fun a hF=>q_x (v:=(iV (goLen p_p))) hF hS (ex_len Try.underlying23 rfl h1.len) rfl rfl fun a hF=>q_x (v:=(iV 0)) hF hS (ex_move rfl) rfl rfl fun a hF=>q_end (n_sq (q_block ?_)))))))))))))
 obtain ⟨out_26,hl1,hr⟩:=bindS hr
 refine q_loop (fun (s : (List (List Int)) × Int) a w=>∃ (m5 : Mem),∃ (q3 : Piece),∃ (s3 : Sl),∃ out_2,∃ t_4,s = (out_2,t_4)∧Fr a 33 [(3,s3.v),(8,s1.v),(9,(iV (goLen p_p))),(10,(iV t_4))]∧St [] w0 w m5 [q3]∧MLe [] w0.heap.size m m5∧OwnL m5 28 q3 s3 out_2) (fun (out_26 : (List (List Int))) e a w=>∃ (m28 : Mem),∃ (q27 : Piece),∃ (s27 : Sl),e = .exit 0∧Fr a 33 [(3,s27.v)]∧St [] w0 w m28 [q27]∧MLe [] w0.heap.size m m28∧OwnL m28 28 q27 s27 out_26) hl1 ⟨m,[],nilS,_,_,rfl,hF.sub ⟨rfl,rfl,rfl,rfl,trivial⟩,hS.sel [0] (by decide),(MLe.refl _ _),(OwnL.nil (α:=List Int) m 28)⟩ ?_ ?_
 ·clear hF hS
  rintro s a w st ⟨m5,q3,s3,out_2,t_4,rfl,hF,hS,hm5,h3⟩ hb1
  unfold impl_positions_l1 at hb1
  refine q_seq (q_region (q_x (v:=(.bool (decide (t_4 < (goLen p_p))))) hF hS (ex_ibin rfl rfl rfl) rfl rfl fun a hF=>q_end (n_sq (q_seq ?_))))
  rcases bcase (decide (t_4 < (goLen p_p))) with hc2 | hc2
  ·have hb1:=cond_f hc2 hb1
   refine q_cond_f hF rfl hc2 (q_exit (x_sq ?_))
   obtain rfl:=someI hb1
   exact ⟨nofun,.inl ⟨m5,q3,s3,rfl,hF.sub ⟨rfl,trivial⟩,hS,hm5,h3⟩⟩
  ·have hb1:=cond_t hc2 hb1
   refine q_cond_t hF rfl hc2 (q_skipc (n_sq (q_seq (q_block (q_seq (q_region (q_x (v:=(iV t_4)) hF hS (ex_move rfl) rfl rfl fun a hF=>?_)))))))
   obtain ⟨e_6,he_6,hb1⟩:=bindS hb1
   obtain ⟨vs7,at7,d7⟩:=h1.at he_6 1 rfl
   obtain ⟨s8,rfl,h8⟩ : ∃ s8 : Sl,vs7 = [s8.v]∧Rd m s8 e_6:=d7
   refine q_x (v:=(elP s1 (t_4.toNat * 1))) hF hS (ex_indexAddr Try.underlying23 sz28 rfl rfl ((h1.mono hm5.le).idx he_6)) rfl rfl fun a hF=>q_x (v:=s8.v) hF hS (ex_loadE1 0 Try.underlying28 rfl rfl (((at7.mono hm5.le)).at) rfl rfl) rfl rfl fun a hF=>q_x (v:=(iV t_4)) hF hS (ex_assign rfl) rfl rfl fun a hF=>q_x (v:=s8.v) hF hS (ex_assign rfl) rfl rfl fun a hF=>q_end (n_sq (q_seq (q_region (q_x (v:=s8.v) hF hS (ex_move rfl) rfl rfl fun a hF=>q_x (v:=(iV (goLen e_6))) hF hS (ex_len Try.underlying28 rfl (h8.mono hm5.le).len) rfl rfl fun a hF=>q_x (v:=(iV 0)) hF hS (ex_move rfl) rfl rfl fun a hF=>q_end (n_sq (q_block ?_))))))
   obtain ⟨out_23,hl3,hb1⟩:=bindS hb1
   refine q_loop (fun (s : (List (List Int)) × Int) a w=>∃ (m12 : Mem),∃ (q10 : Piece),∃ (s10 : Sl),∃ out_9,∃ t_11,s = (out_9,t_11)∧Fr a 33 [(3,s10.v),(4,(iV t_4)),(8,s1.v),(9,(iV (goLen p_p))),(10,(iV t_4)),(15,s8.v),(16,(iV (goLen e_6))),(17,(iV t_11))]∧St [] w0 w m12 [q10]∧MLe [] w0.heap.size m5 m12∧OwnL m12 28 q10 s10 out_9) (fun (out_23 : (List (List Int))) e a w=>∃ (m25 : Mem),∃ (q24 : Piece),∃ (s24 : Sl),e = .exit 2∧Fr a 33 [(3,s24.v),(8,s1.v),(9,(iV (goLen p_p))),(10,(iV t_4))]∧St [] w0 w m25 [q24]∧MLe [] w0.heap.size m5 m25∧OwnL m25 28 q24 s24 out_23) hl3 ⟨m5,q3,s3,_,_,rfl,hF.sub ⟨rfl,rfl,rfl,rfl,rfl,rfl,rfl,rfl,trivial⟩,hS,(MLe.refl _ _),h3⟩ ?_ ?_
   ·clear hF hS
    rintro s a w st ⟨m12,q10,s10,out_9,t_11,rfl,hF,hS,hm12,h10⟩ hb3
    unfold impl_positions_l2 at hb3
    refine q_seq (q_region (q_x (v:=(.bool (decide (t_11 < (goLen e_6))))) hF hS (ex_ibin rfl rfl rfl) rfl rfl fun a hF=>q_end (n_sq (q_seq ?_))))
    rcases bcase (decide (t_11 < (goLen e_6))) with hc4 | hc4
    ·have hb3:=cond_f hc4 hb3
     refine q_cond_f hF rfl hc4 (q_exit (x_sq ?_))
     obtain rfl:=someI hb3
     exact ⟨nofun,.inl ⟨m12,q10,s10,rfl,hF.sub ⟨rfl,rfl,rfl,rfl,trivial⟩,hS,hm12,h10⟩⟩
    ·have hb3:=cond_t hc4 hb3
     refine q_cond_t hF rfl hc4 (q_skipc (n_sq (q_seq (q_block (q_seq (q_region (q_x (v:=(iV t_11)) hF hS (ex_move rfl) rfl rfl fun a hF=>?_)))))))
     obtain ⟨e_13,he_13,hb3⟩:=bindS hb3
     obtain ⟨vs14,at14,d14⟩:=h8.at he_13 1 rfl
     obtain rfl : vs14 = [(iV e_13)]:=d14
     refine q_x (v:=(elP s8 (t_11.toNat * 1))) hF hS (ex_indexAddr Try.underlying28 sz3 rfl rfl (((h8.mono hm5.le).mono hm12.le).idx he_13)) rfl rfl fun a hF=>q_x (v:=(iV e_13)) hF hS (ex_loadE1 0 Try.underlying3 rfl rfl ((((at14.mono hm5.le).mono hm12.le)).at) rfl rfl) rfl rfl fun a hF=>q_x (v:=(iV t_11)) hF hS (ex_assign rfl) rfl rfl fun a hF=>q_x (v:=(iV e_13)) hF hS (ex_assign rfl) rfl rfl fun a hF=>q_end (n_sq (q_seq (q_region (q_x (v:=(iV e_13)) hF hS (ex_move rfl) rfl rfl fun a hF=>q_x (v:=(.bool (e_13 == 1))) hF hS (ex_ibin rfl rfl rfl) rfl rfl fun a hF=>q_end (n_sq ?_)))))
     obtain ⟨out_20,hj5,hb3⟩:=bindS hb3
     refine q_join (fun a w=>∃ (m22 : Mem),∃ (q21 : Piece),∃ (s21 : Sl),Fr a 33 [(3,s21.v),(4,(iV t_4)),(8,s1.v),(9,(iV (goLen p_p))),(10,(iV t_4)),(15,s8.v),(16,(iV (goLen e_6))),(17,(iV t_11))]∧St [] w0 w m22 [q21]∧MLe [] w0.heap.size m12 m22∧OwnL m22 28 q21 s21 out_20) ?_ ?_
     ·rcases bcase (e_13 == 1) with hc6 | hc6
      ·have hj5:=cond_f hc6 hj5
       refine q_cond_f hF rfl hc6 (q_skipc (n_jn ?_))
       obtain rfl:=someI hj5
       exact ⟨m12,q10,s10,hF.sub ⟨rfl,rfl,rfl,rfl,rfl,rfl,rfl,rfl,trivial⟩,hS,(MLe.refl _ _),h10⟩
      ·have hj5:=cond_t hc6 hj5
       refine q_cond_t hF rfl hc6 (q_region (q_x (v:=s10.v) hF hS (ex_move rfl) rfl rfl fun a hF=>q_x (v:=(iV t_4)) hF hS (ex_move rfl) rfl rfl fun a hF=>q_x (v:=(iV t_11)) hF hS (ex_move rfl) rfl rfl fun a hF=>q_do rfl fun _ hK=>wp_buildSlice' (l:=([t_4,t_11] : List Int)) (cells:=[(iV t_4),(iV t_11)]) hF hS Try.underlying28 inf3 rfl rfl (by kernel_rfl) rfl rfl rfl ⟨rfl,rfl,rfl⟩ rfl rfl fun a w q15 s15 hF hS h15 _=>hK _ _ ?_))
       obtain ⟨m17,hm17,hS,hz17⟩:=hS.freeze
       have h17:=h15.froz hm17.le hz17
       refine q_do rfl fun _ hK=>wp_buildSlice' (l:=([([t_4,t_11] : List Int)] : List (List Int))) (cells:=[s15.v]) hF hS Try.underlying23 inf28 rfl rfl (by kernel_rfl) rfl rfl rfl ⟨⟨s15,rfl,h17⟩,rfl⟩ rfl rfl fun a w q16 s16 hF hS h16 _=>hK _ _ ?_
       have hS : St _ _ _ _ [q10,q16]:=hS.sel [1,0] (by decide)
       obtain ⟨l_18,hl_18,hj5⟩:=bindS hj5
       refine q_do rfl fun _ hK=>wp_append hF hS (h10.mono hm17.le) Try.underlying23 inf28 rfl rfl rfl rfl (h16.vw hS (j:=1) rfl) rfl (by decide) hl_18 rfl fun a w q19 s19 hF hS h19=>hK _ _ (q_x (v:=s19.v) hF hS (ex_assign rfl) rfl rfl fun a hF=>q_end (n_jn ?_))
       obtain rfl:=someI hj5
       exact ⟨m17,q19,s19,hF.sub ⟨rfl,rfl,rfl,rfl,rfl,rfl,rfl,rfl,trivial⟩,hS.mask [true,false],hm17,h19⟩
     ·rintro a w ⟨m22,q21,s21,hF,hS,hm22,h21⟩
      refine n_ib (n_sq ?_)
      refine q_region (q_x (v:=(iV (w64 (t_11 + 1)))) hF hS (ex_ibin rfl rfl rfl) rfl rfl fun a hF=>q_x (v:=(iV (w64 (t_11 + 1)))) hF hS (ex_move rfl) rfl rfl fun a hF=>q_end ?_)
      obtain rfl:=someI hb3
      exact ⟨rfl,m22,q21,s21,_,_,rfl,hF.sub ⟨rfl,rfl,rfl,rfl,rfl,rfl,rfl,rfl,trivial⟩,hS,(hm12.trans hm22),h21⟩
   ·rintro e a w ⟨m25,q24,s24,rfl,hF,hS,hm25,h24⟩
    refine x_ib (n_ib (n_sq ?_))
    refine q_region (q_x (v:=(iV (w64 (t_4 + 1)))) hF hS (ex_ibin rfl rfl rfl) rfl rfl fun a hF=>q_x (v:=(iV (w64 (t_4 + 1)))) hF hS (ex_move rfl) rfl rfl fun a hF=>q_end ?_)
    obtain rfl:=someI hb1
    exact ⟨rfl,m25,q24,s24,_,_,rfl,hF.sub ⟨rfl,rfl,rfl,rfl,trivial⟩,hS,(hm5.trans hm25),h24⟩
 ·rintro e a w ⟨m28,q27,s27,rfl,hF,hS,hm28,h27⟩
  refine x_ib (n_sq ?_)
  refine q_seq (q_region (q_x (v:=s27.v) hF hS (ex_move rfl) rfl rfl fun a hF=>q_x (v:=s27.v) hF hS (ex_assign rfl) rfl rfl fun a hF=>q_end (n_sq (q_ret ?_))))
  obtain rfl:=someI hr
  exact ret_of hF hS rfl (.tmp rfl .nil) ⟨m28,q27,s27,rfl,hm28,hS.sel [0] (by decide),h27⟩

theorem c_impl_ExposedCells (p_x : List (List Int)) (p_p : List (List Int)) (r : (List (List Int)) × Bool) (hr : impl_ExposedCells p_x p_p = some r) (w0 : World) (m : Mem) (hv : Vis m w0) (s1 : Sl) (h1 : Rd m s1 p_x) (s2 : Sl) (h2 : Rd m s2 p_p) :
  Ret Try.prog 27 [s1.v,s2.v] w0 (fun v w=>∃ (m' : Mem) (q0' : Piece) (s0' : Sl),v = (.tuple #[s0'.v,(.bool r.2)])∧MLe [] w0.heap.size m m'∧St [] w0 w m' [q0']∧OwnL m' 28 q0' s0' r.1):=by
 unfold impl_ExposedCells at hr
 refine ret_start Try.func27 rfl 47 rfl rfl m hv fun a hF hS=>q_seq (q_region (q_x (v:=nilS.v) hF hS (ex_assign rfl) rfl rfl fun a hF=>q_x (v:=(.bool false)) hF hS (ex_assign rfl) rfl rfl fun a hF=>q_end (n_sq (q_seq (q_seq (q_region (q_x (v:=s1.v) hF hS (ex_move rfl) rfl rfl fun a hF=>q_x (v:=s2.v) hF hS (ex_move rfl) rfl rfl fun a hF=>?_)))))))
 obtain ⟨t_3,ht_3,hr⟩:=bindS hr
 refine q_call (vs:=[s1.v,s2.v]) hF hS Try.func95 (by kernel_rfl) rfl rfl rfl (c_impl_areSuppressed p_x p_p t_3 ht_3 _ m hS.vis s1 h1 s2 h2) ?_
 rintro a w _ rfl hF hS
 refine q_x (v:=(.bool (!t_3))) hF hS (ex_not rfl) rfl rfl fun a hF=>q_end (n_sq ?_)
 rcases bcase (!t_3) with hc1 | hc1
 ·have hr:=cond_f hc1 hr
  refine q_cond_f hF rfl hc1 (q_skipc (n_sq (q_seq (q_region (q_x (v:=s1.v) hF hS (ex_move rfl) rfl rfl fun a hF=>q_x (v:=s2.v) hF hS (ex_move rfl) rfl rfl fun a hF=>?_)))))
  obtain ⟨t_4,ht_4,hr⟩:=bindS hr
  refine q_call (vs:=[s1.v,s2.v]) hF hS Try.func97 (by kernel_rfl) rfl rfl rfl (c_impl_attackNetwork p_x p_p t_4 ht_4 _ m hS.vis s1 h1 s2 h2) ?_
  rintro a w _ ⟨q6,q7,q8,q9,s6,s7,s8,s9,rfl,hR5,h6,h7,h8,h9⟩ hF hS2
  have hS : St _ _ _ _ [q6,q7,q8,q9]:=hS.joinF hR5
  refine q_alloc (cs:=[nilS.v,nilS.v,nilS.v,nilS.v]) hF hS rfl rfl rfl fun a w b10 hF hS=>q_store (vs:=[s6.v,s7.v,s8.v,s9.v]) (cs':=[s6.v,s7.v,s8.v,s9.v]) 0 0 hF hS sz50 rfl rfl rfl rfl rfl rfl rfl rfl fun a w hF hS=>q_end (n_sq (q_seq (q_region (q_x (v:=nilS.v) hF hS (ex_assign rfl) rfl rfl fun a hF=>q_end (n_sq (q_seq (q_seq (q_region (q_x (v:=s2.v) hF hS (ex_move rfl) rfl rfl fun a hF=>?_)))))))))
  obtain ⟨t_11,ht_11,hr⟩:=bindS hr
  refine q_call (vs:=[s2.v]) hF hS Try.func100 (by kernel_rfl) rfl rfl rfl (c_impl_positions p_p t_11 ht_11 _ m hS.vis s2 h2) ?_
  have hT:=hS
  rintro a w _ ⟨m12,q13,s13,rfl,hm12,hR12,h13⟩ hF hS2
  have hS : St _ _ _ _ [q13,[⟨b10,[s6.v,s7.v,s8.v,s9.v],50⟩],q6,q7,q8,q9]:=hS.join hR12 hm12
  have hm12:=MLe.weakX (O0:=[]) hT hm12
  refine q_x (v:=(iV (goLen t_11))) hF hS (ex_len Try.underlying23 rfl h13.len) rfl rfl fun a hF=>q_x (v:=(iV 0)) hF hS (ex_move rfl) rfl rfl fun a hF=>q_end (n_sq (q_block ?_))
  obtain ⟨out_31,hl2,hr⟩:=bindS hr
  refine q_loop (fun (s : (List (List Int)) × Int) a w=>∃ (q15 : Piece),∃ (s15 : Sl),∃ out_14,∃ t_16,s = (out_14,t_16)∧Fr a 47 [(0,s1.v),(6,(.pointer (some ⟨b10,0,none⟩))),(7,s15.v),(20,s13.v),(21,(iV (goLen t_11))),(22,(iV t_16))]∧St [] w0 w m12 [q15,q13,[⟨b10,[s6.v,s7.v,s8.v,s9.v],50⟩],q6,q7,q8,q9]∧OwnL m12 28 q15 s15 out_14) (fun (out_31 : (List (List Int))) e a w=>∃ (q32 : Piece),∃ (s32 : Sl),e = .exit 0∧Fr a 47 [(7,s32.v)]∧St [] w0 w m12 [q32]∧OwnL m12 28 q32 s32 out_31) hl2 ⟨[],nilS,_,_,rfl,hF.sub ⟨rfl,rfl,rfl,rfl,rfl,rfl,trivial⟩,hS.sel [6,0,1,2,3,4,5] (by decide),(OwnL.nil (α:=List Int) m12 28)⟩ ?_ ?_
  ·clear hF hS
   rintro s a w st ⟨q15,s15,out_14,t_16,rfl,hF,hS,h15⟩ hb2
   unfold impl_ExposedCells_l1 at hb2
   refine q_seq (q_region (q_x (v:=(.bool (decide (t_16 < (goLen t_11))))) hF hS (ex_ibin rfl rfl rfl) rfl rfl fun a hF=>q_end (n_sq (q_seq ?_))))
   rcases bcase (decide (t_16 < (goLen t_11))) with hc3 | hc3
   ·have hb2:=cond_f hc3 hb2
    refine q_cond_f hF rfl hc3 (q_exit (x_sq ?_))
    obtain rfl:=someI hb2
    exact ⟨nofun,.inl ⟨q15,s15,rfl,hF.sub ⟨rfl,trivial⟩,hS.mask [true,false,false,false,false,false,false],h15⟩⟩
   ·have hb2:=cond_t hc3 hb2
    refine q_cond_t hF rfl hc3 (q_skipc (n_sq (q_seq (q_block (q_seq (q_region ?_))))))
    obtain ⟨e_17,he_17,hb2⟩:=bindS hb2
    obtain ⟨vs18,at18,d18⟩:=h13.at he_17 1 rfl
    obtain ⟨s19,rfl,h19⟩ : ∃ s19 : Sl,vs18 = [s19.v]∧Rd m12 s19 e_17:=d18
    refine q_x (v:=(elP s13 (t_16.toNat * 1))) hF hS (ex_indexAddr Try.underlying23 sz28 rfl rfl (h13.idx he_17)) rfl rfl fun a hF=>q_x (v:=s19.v) hF hS (ex_loadE1 0 Try.underlying28 rfl rfl (at18.at 1 rfl) rfl rfl) rfl rfl fun a hF=>q_x (v:=s19.v) hF hS (ex_assign rfl) rfl rfl fun a hF=>q_end (n_sq (q_seq (e_region ⟨[],[],m12⟩ mixed fun w' hw'=>?_)))
    have hS:=hS.below hw'
    refine e_x (v:=(.agg #[s6.v,s7.v,s8.v,s9.v])) 0 hF hS rfl (ex_loadA (vs:=[s6.v,s7.v,s8.v,s9.v]) 2 0 Try.underlying50 rfl sz50 rfl rfl rfl rfl) rfl rfl (by kernel_rfl) (by kernel_rfl) (by kernel_rfl) (by kernel_rfl) fun a hF=>e_p (v:=s1.v) 1 hF rfl (ex_move rfl) rfl rfl (by kernel_rfl) (by kernel_rfl) (by kernel_rfl) fun a hF=>e_p (v:=s19.v) 2 hF rfl (ex_move rfl) rfl rfl (by kernel_rfl) (by kernel_rfl) (by kernel_rfl) fun a hF=>?_
    obtain ⟨e_20,he_20,hb2⟩:=bindS hb2
    obtain ⟨vs21,at21,d21⟩:=h19.at he_20 1 rfl
    obtain rfl : vs21 = [(iV e_20)]:=d21
    refine e_p (v:=(elP s19 ((0 : Int).toNat * 1))) 3 hF rfl (ex_indexAddr Try.underlying28 sz3 rfl rfl (h19.idx he_20)) rfl rfl (by kernel_rfl) (by kernel_rfl) (by kernel_rfl) fun a hF=>e_xm (v:=(iV e_20)) 4 hF hS (Mem.le.refl _) rfl (ex_loadE1 0 Try.underlying3 rfl rfl ((at21).at) rfl rfl) rfl rfl (by kernel_rfl) (by kernel_rfl) (by kernel_rfl) fun a hF=>e_p (v:=s19.v) 5 hF rfl (ex_move rfl) rfl rfl (by kernel_rfl) (by kernel_rfl) (by kernel_rfl) fun a hF=>?_
    obtain ⟨e_22,he_22,hb2⟩:=bindS hb2
    obtain ⟨vs23,at23,d23⟩:=h19.at he_22 1 rfl
    obtain rfl : vs23 = [(iV e_22)]:=d23
    refine e_p (v:=(elP s19 ((1 : Int).toNat * 1))) 6 hF rfl (ex_indexAddr Try.underlying28 sz3 rfl rfl (h19.idx he_22)) rfl rfl (by kernel_rfl) (by kernel_rfl) (by kernel_rfl) fun a hF=>e_xm (v:=(iV e_22)) 7 hF hS (Mem.le.refl _) rfl (ex_loadE1 0 Try.underlying3 rfl rfl ((at23).at) rfl rfl) rfl rfl (by kernel_rfl) (by kernel_rfl) (by kernel_rfl) fun a hF=>e_one 8 (by kernel_rfl) ?_
    obtain ⟨m25,hl25,hv25,hz25⟩:=hS.lend
    obtain ⟨t_24,ht_24,hb2⟩:=bindS hb2
    refine e_call (vs:=[(.agg #[s6.v,s7.v,s8.v,s9.v]),s1.v,(iV e_20),(iV e_22)]) hF hS rfl Try.func101 (by kernel_rfl) rfl rfl rfl (c_impl_rangeOf t_4 p_x e_20 e_22 t_24 ht_24 _ m25 hv25 s6 ((h6.mono hm12.le).froz hl25 (hz25 3 _ rfl)) s7 ((h7.mono hm12.le).froz hl25 (hz25 4 _ rfl)) s8 ((h8.mono hm12.le).froz hl25 (hz25 5 _ rfl)) s9 ((h9.mono hm12.le).froz hl25 (hz25 6 _ rfl)) s1 ((h1.mono hm12.le).mono hl25)) ?_
    rintro a w _ rfl hF hS
    refine e_p (v:=(.tuple #[(iV t_24.1),(iV t_24.2)])) 9 hF rfl (ex_move rfl) rfl rfl (by kernel_rfl) (by kernel_rfl) (by kernel_rfl) fun a hF=>e_p (v:=(iV t_24.1)) 10 hF rfl (ex_extract rfl rfl) rfl rfl (by kernel_rfl) (by kernel_rfl) (by kernel_rfl) fun a hF=>e_p (v:=(iV t_24.2)) 11 hF rfl (ex_extract rfl rfl) rfl rfl (by kernel_rfl) (by kernel_rfl) (by kernel_rfl) fun a hF=>e_p (v:=(iV t_24.1)) 12 hF rfl (ex_assign rfl) rfl rfl (by kernel_rfl) (by kernel_rfl) (by kernel_rfl) fun a hF=>e_p (v:=(iV t_24.2)) 13 hF rfl (ex_assign rfl) rfl rfl (by kernel_rfl) (by kernel_rfl) (by kernel_rfl) fun a hF=>e_end (by kernel_rfl) (n_sq ?_) _
    refine q_seq (q_region (q_x (v:=(iV t_24.1)) hF hS (ex_move rfl) rfl rfl fun a hF=>q_x (v:=(iV t_24.2)) hF hS (ex_move rfl) rfl rfl fun a hF=>q_x (v:=(.bool (t_24.1 == t_24.2))) hF hS (ex_ibin rfl rfl rfl) rfl rfl fun a hF=>q_end (n_sq ?_)))
    obtain ⟨out_29,hj4,hb2⟩:=bindS hb2
    refine q_join (fun a w=>∃ (q30 : Piece),∃ (s30 : Sl),Fr a 47 [(0,s1.v),(6,(.pointer (some ⟨b10,0,none⟩))),(7,s30.v),(20,s13.v),(21,(iV (goLen t_11))),(22,(iV t_16))]∧St [] w0 w m12 [q30,q13,q6,q7,q8,q9,[⟨b10,[s6.v,s7.v,s8.v,s9.v],50⟩]]∧OwnL m12 28 q30 s30 out_29) ?_ ?_
    ·rcases bcase (t_24.1 == t_24.2) with hc5 | hc5
     ·have hj4:=cond_f hc5 hj4
      refine q_cond_f hF rfl hc5 (q_skipc (n_jn ?_))
      obtain rfl:=someI hj4
      exact ⟨q15,s15,hF.sub ⟨rfl,rfl,rfl,rfl,rfl,rfl,trivial⟩,hS.sel [0,1,3,4,5,6,2] (by decide),h15⟩
     ·have hj4:=cond_t hc5 hj4
      refine q_cond_t hF rfl hc5 (q_region (q_x (v:=s15.v) hF hS (ex_move rfl) rfl rfl fun a hF=>q_x (v:=s19.v) hF hS (ex_move rfl) rfl rfl fun a hF=>q_do rfl fun _ hK=>wp_buildSlice' (l:=([e_17] : List (List Int))) (cells:=[s19.v]) hF hS Try.underlying23 inf28 rfl rfl (by kernel_rfl) rfl rfl rfl ⟨⟨s19,rfl,h19⟩,rfl⟩ rfl rfl fun a w q26 s26 hF hS h26 _=>hK _ _ ?_))
      have hS : St _ _ _ _ [q15,q26,q13,[⟨b10,[s6.v,s7.v,s8.v,s9.v],50⟩],q6,q7,q8,q9]:=hS.sel [1,0,2,3,4,5,6,7] (by decide)
      obtain ⟨l_27,hl_27,hj4⟩:=bindS hj4
      refine q_do rfl fun _ hK=>wp_append hF hS h15 Try.underlying23 inf28 rfl rfl rfl rfl (h26.vw hS (j:=1) rfl) rfl (by decide) hl_27 rfl fun a w q28 s28 hF hS h28=>hK _ _ (q_x (v:=s28.v) hF hS (ex_assign rfl) rfl rfl fun a hF=>q_end (n_jn ?_))
      obtain rfl:=someI hj4
      exact ⟨q28,s28,hF.sub ⟨rfl,rfl,rfl,rfl,rfl,rfl,trivial⟩,hS.sel [0,2,4,5,6,7,3] (by decide),h28⟩
    ·rintro a w ⟨q30,s30,hF,hS,h30⟩
     refine n_ib (n_sq ?_)
     refine q_region (q_x (v:=(iV (w64 (t_16 + 1)))) hF hS (ex_ibin rfl rfl rfl) rfl rfl fun a hF=>q_x (v:=(iV (w64 (t_16 + 1)))) hF hS (ex_move rfl) rfl rfl fun a hF=>q_end ?_)
     obtain rfl:=someI hb2
     exact ⟨rfl,q30,s30,_,_,rfl,hF.sub ⟨rfl,rfl,rfl,rfl,rfl,rfl,trivial⟩,hS.sel [0,1,6,2,3,4,5] (by decide),h30⟩
  ·rintro e a w ⟨q32,s32,rfl,hF,hS,h32⟩
   refine x_ib (n_sq ?_)
   refine q_seq (q_region (q_x (v:=s32.v) hF hS (ex_move rfl) rfl rfl fun a hF=>q_x (v:=s32.v) hF hS (ex_assign rfl) rfl rfl fun a hF=>q_x (v:=(.bool true)) hF hS (ex_assign rfl) rfl rfl fun a hF=>q_end (n_sq (q_ret ?_))))
   obtain rfl:=someI hr
   exact ret_of hF hS rfl (.tmp rfl (.tmp rfl .nil)) ⟨m12,q32,s32,rfl,hm12,hS.sel [0] (by decide),h32⟩
 ·have hr:=cond_t hc1 hr
  refine q_cond_t hF rfl hc1 (q_seq (q_region (q_x (v:=nilS.v) hF hS (ex_assign rfl) rfl rfl fun a hF=>q_x (v:=(.bool false)) hF hS (ex_assign rfl) rfl rfl fun a hF=>q_end (n_sq (q_ret (r_sq ?_))))))
  obtain rfl:=someI hr
  exact ret_of hF hS rfl (.tmp rfl (.tmp rfl .nil)) ⟨m,[],nilS,rfl,(MLe.refl _ _),hS.sel [0] (by decide),(OwnL.nil (α:=List Int) m 28)⟩

theorem c_spec_ExposedCells (p_x : List (List Int)) (p_p : List (List Int)) (r : (List (List Int)) × Bool) (hr : spec_ExposedCells p_x p_p = some r) (w0 : World) (m : Mem) (hv : Vis m w0) (s1 : Sl) (h1 : Rd m s1 p_x) (s2 : Sl) (h2 : Rd m s2 p_p) :
  Ret Try.prog 28 [s1.v,s2.v] w0 (fun v w=>∃ (m' : Mem) (q0' : Piece) (s0' : Sl),v = (.tuple #[s0'.v,(.bool r.2)])∧MLe [] w0.heap.size m m'∧St [] w0 w m' [q0']∧OwnL m' 28 q0' s0' r.1):=by
 unfold spec_ExposedCells at hr
 refine ret_start Try.func28 rfl 63 rfl rfl m hv fun a hF hS=>q_seq (q_region (q_x (v:=nilS.v) hF hS (ex_assign rfl) rfl rfl fun a hF=>q_x (v:=(.bool false)) hF hS (ex_assign rfl) rfl rfl fun a hF=>q_end (n_sq (q_seq (q_seq (q_region (q_x (v:=s1.v) hF hS (ex_move rfl) rfl rfl fun a hF=>q_x (v:=s2.v) hF hS (ex_move rfl) rfl rfl fun a hF=>?_)))))))
 obtain ⟨t_3,ht_3,hr⟩:=bindS hr
 refine q_call (vs:=[s1.v,s2.v]) hF hS Try.func98 (by kernel_rfl) rfl rfl rfl (c_spec_qPattern p_x p_p t_3 ht_3 _ m hS.vis s1 h1 s2 h2) ?_
 rintro a w _ rfl hF hS
 refine q_x (v:=(.bool (!t_3))) hF hS (ex_not rfl) rfl rfl fun a hF=>q_end (n_sq ?_)
 rcases bcase (!t_3) with hc1 | hc1
 ·have hr:=cond_f hc1 hr
  refine q_cond_f hF rfl hc1 (q_skipc (n_sq (q_seq (q_region (q_x (v:=s1.v) hF hS (ex_move rfl) rfl rfl fun a hF=>q_x (v:=s2.v) hF hS (ex_move rfl) rfl rfl fun a hF=>?_)))))
  obtain ⟨t_4,ht_4,hr⟩:=bindS hr
  refine q_call (vs:=[s1.v,s2.v]) hF hS Try.func99 (by kernel_rfl) rfl rfl rfl (c_spec_qBounds p_x p_p t_4 ht_4 _ m hS.vis s1 h1 s2 h2) ?_
  have hT:=hS
  rintro a w _ ⟨m5,q6,q7,s6,s7,rfl,hm5,hR5,h6,h7⟩ hF hS2
  have hS : St _ _ _ _ [q6,q7]:=hS.join hR5 hm5
  have hm5:=MLe.weakX (O0:=[]) hT hm5
  refine q_alloc (cs:=[nilS.v,nilS.v]) hF hS rfl rfl rfl fun a w b8 hF hS=>q_store (vs:=[s6.v,s7.v]) (cs':=[s6.v,s7.v]) 0 0 hF hS sz44 rfl rfl rfl rfl rfl rfl rfl rfl fun a w hF hS=>q_end (n_sq (q_seq (q_region (q_x (v:=nilS.v) hF hS (ex_assign rfl) rfl rfl fun a hF=>q_end (n_sq (q_seq (q_seq (q_region (q_x (v:=s2.v) hF hS (ex_move rfl) rfl rfl fun a hF=>q_x (v:=(iV (goLen p_p))) hF hS (ex_len Try.underlying23 rfl (h2.mono hm5.le).len) rfl rfl fun a hF=>q_x (v:=(iV 0)) hF hS (ex_move rfl) rfl rfl fun a hF=>q_end (n_sq (q_block ?_)))))))))))
  obtain ⟨out_44,hl2,hr⟩:=bindS hr
  refine q_loop (fun (s : (List (List Int)) × Int) a w=>∃ (m12 : Mem),∃ (q10 : Piece),∃ (s10 : Sl),∃ out_9,∃ t_11,s = (out_9,t_11)∧Fr a 63 [(6,(.pointer (some ⟨b8,0,none⟩))),(7,s10.v),(19,s2.v),(20,(iV (goLen p_p))),(21,(iV t_11))]∧St [] w0 w m12 [q10,[⟨b8,[s6.v,s7.v],44⟩],q6,q7]∧MLe [] w0.heap.size m5 m12∧OwnL m12 28 q10 s10 out_9) (fun (out_44 : (List (List Int))) e a w=>∃ (m46 : Mem),∃ (q45 : Piece),∃ (s45 : Sl),e = .exit 0∧Fr a 63 [(7,s45.v)]∧St [] w0 w m46 [q45]∧MLe [] w0.heap.size m5 m46∧OwnL m46 28 q45 s45 out_44) hl2 ⟨m5,[],nilS,_,_,rfl,hF.sub ⟨rfl,rfl,rfl,rfl,rfl,trivial⟩,hS.sel [3,0,1,2] (by decide),(MLe.refl _ _),(OwnL.nil (α:=List Int) m5 28)⟩ ?_ ?_
  ·clear hF hS
   rintro s a w st ⟨m12,q10,s10,out_9,t_11,rfl,hF,hS,hm12,h10⟩ hb2
   unfold spec_ExposedCells_l1 at hb2
   refine q_seq (q_region (q_x (v:=(.bool (decide (t_11 < (goLen p_p))))) hF hS (ex_ibin rfl rfl rfl) rfl rfl fun a hF=>q_end (n_sq (q_seq ?_))))
   rcases bcase (decide (t_11 < (goLen p_p))) with hc3 | hc3
   ·have hb2:=cond_f hc3 hb2
    refine q_cond_f hF rfl hc3 (q_exit (x_sq ?_))
    obtain rfl:=someI hb2
    exact ⟨nofun,.inl ⟨m12,q10,s10,rfl,hF.sub ⟨rfl,trivial⟩,hS.mask [true,false,false,false],hm12,h10⟩⟩
   ·have hb2:=cond_t hc3 hb2
    refine q_cond_t hF rfl hc3 (q_skipc (n_sq (q_seq (q_block (q_seq (q_region (q_x (v:=(iV t_11)) hF hS (ex_move rfl) rfl rfl fun a hF=>?_)))))))
    obtain ⟨e_13,he_13,hb2⟩:=bindS hb2
    obtain ⟨vs14,at14,d14⟩:=h2.at he_13 1 rfl
    obtain ⟨s15,rfl,h15⟩ : ∃ s15 : Sl,vs14 = [s15.v]∧Rd m s15 e_13:=d14
    refine q_x (v:=(elP s2 (t_11.toNat * 1))) hF hS (ex_indexAddr Try.underlying23 sz28 rfl rfl (((h2.mono hm5.le).mono hm12.le).idx he_13)) rfl rfl fun a hF=>q_x (v:=s15.v) hF hS (ex_loadE1 0 Try.underlying28 rfl rfl ((((at14.mono hm5.le).mono hm12.le)).at) rfl rfl) rfl rfl fun a hF=>q_x (v:=(iV t_11)) hF hS (ex_assign rfl) rfl rfl fun a hF=>q_x (v:=s15.v) hF hS (ex_assign rfl) rfl rfl fun a hF=>q_end (n_sq (q_seq (q_region (q_x (v:=s15.v) hF hS (ex_move rfl) rfl rfl fun a hF=>q_x (v:=(iV (goLen e_13))) hF hS (ex_len Try.underlying28 rfl ((h15.mono hm5.le).mono hm12.le).len) rfl rfl fun a hF=>q_x (v:=(iV 0)) hF hS (ex_move rfl) rfl rfl fun a hF=>q_end (n_sq (q_block ?_))))))
    obtain ⟨out_41,hl4,hb2⟩:=bindS hb2
    refine q_loop (fun (s : (List (List Int)) × Int) a w=>∃ (m19 : Mem),∃ (q17 : Piece),∃ (s17 : Sl),∃ out_16,∃ t_18,s = (out_16,t_18)∧Fr a 63 [(6,(.pointer (some ⟨b8,0,none⟩))),(7,s17.v),(8,(iV t_11)),(19,s2.v),(20,(iV (goLen p_p))),(21,(iV t_11)),(26,s15.v),(27,(iV (goLen e_13))),(28,(iV t_18))]∧St [] w0 w m19 [q17,[⟨b8,[s6.v,s7.v],44⟩],q6,q7]∧MLe [] w0.heap.size m12 m19∧OwnL m19 28 q17 s17 out_16) (fun (out_41 : (List (List Int))) e a w=>∃ (m43 : Mem),∃ (q42 : Piece),∃ (s42 : Sl),e = .exit 2∧Fr a 63 [(6,(.pointer (some ⟨b8,0,none⟩))),(7,s42.v),(19,s2.v),(20,(iV (goLen p_p))),(21,(iV t_11))]∧St [] w0 w m43 [q42,q6,q7,[⟨b8,[s6.v,s7.v],44⟩]]∧MLe [] w0.heap.size m12 m43∧OwnL m43 28 q42 s42 out_41) hl4 ⟨m12,q10,s10,_,_,rfl,hF.sub ⟨rfl,rfl,rfl,rfl,rfl,rfl,rfl,rfl,rfl,trivial⟩,hS,(MLe.refl _ _),h10⟩ ?_ ?_
    ·clear hF hS
     rintro s a w st ⟨m19,q17,s17,out_16,t_18,rfl,hF,hS,hm19,h17⟩ hb4
     unfold spec_ExposedCells_l2 at hb4
     refine q_seq (q_region (q_x (v:=(.bool (decide (t_18 < (goLen e_13))))) hF hS (ex_ibin rfl rfl rfl) rfl rfl fun a hF=>q_end (n_sq (q_seq ?_))))
     rcases bcase (decide (t_18 < (goLen e_13))) with hc5 | hc5
     ·have hb4:=cond_f hc5 hb4
      refine q_cond_f hF rfl hc5 (q_exit (x_sq ?_))
      obtain rfl:=someI hb4
      exact ⟨nofun,.inl ⟨m19,q17,s17,rfl,hF.sub ⟨rfl,rfl,rfl,rfl,rfl,trivial⟩,hS.sel [0,2,3,1] (by decide),hm19,h17⟩⟩
     ·have hb4:=cond_t hc5 hb4
      refine q_cond_t hF rfl hc5 (q_skipc (n_sq (q_seq (q_block (q_seq (q_region (q_x (v:=(iV t_18)) hF hS (ex_move rfl) rfl rfl fun a hF=>?_)))))))
      obtain ⟨e_20,he_20,hb4⟩:=bindS hb4
      obtain ⟨vs21,at21,d21⟩:=h15.at he_20 1 rfl
      obtain rfl : vs21 = [(iV e_20)]:=d21
      refine q_x (v:=(elP s15 (t_18.toNat * 1))) hF hS (ex_indexAddr Try.underlying28 sz3 rfl rfl ((((h15.mono hm5.le).mono hm12.le).mono hm19.le).idx he_20)) rfl rfl fun a hF=>q_x (v:=(iV e_20)) hF hS (ex_loadE1 0 Try.underlying3 rfl rfl (((((at21.mono hm5.le).mono hm12.le).mono hm19.le)).at) rfl rfl) rfl rfl fun a hF=>q_x (v:=(iV t_18)) hF hS (ex_assign rfl) rfl rfl fun a hF=>q_x (v:=(iV e_20)) hF hS (ex_assign rfl) rfl rfl fun a hF=>q_end (n_sq (q_seq ?_))
      obtain ⟨t_32,hj6,hb4⟩:=bindS hb4
      refine q_join (fun a w=>Fr a 63 [(6,(.pointer (some ⟨b8,0,none⟩))),(7,s17.v),(8,(iV t_11)),(10,(iV t_18)),(19,s2.v),(20,(iV (goLen p_p))),(21,(iV t_11)),(26,s15.v),(27,(iV (goLen e_13))),(28,(iV t_18)),(53,(.bool t_32))]∧St [] w0 w m19 [q17,q6,q7,[⟨b8,[s6.v,s7.v],44⟩]]) ?_ ?_
      ·refine e_region ⟨[],[],m19⟩ mixed fun w' hw'=>?_
       have hS:=hS.below hw'
       refine e_p (v:=(iV e_20)) 0 hF rfl (ex_move rfl) rfl rfl (by kernel_rfl) (by kernel_rfl) (by kernel_rfl) fun a hF=>e_p (v:=(.bool (e_20 == 1))) 1 hF rfl (ex_ibin rfl rfl rfl) rfl rfl (by kernel_rfl) (by kernel_rfl) (by kernel_rfl) fun a hF=>e_p (v:=(.bool (e_20 == 1))) 2 hF rfl (ex_move rfl) rfl rfl (by kernel_rfl) (by kernel_rfl) (by kernel_rfl) fun a hF=>?_
       rcases bcase (e_20 == 1) with hc7 | hc7
       ·have hj6:=cond_f hc7 hj6
        refine e_skipP 3 hF rfl (wanted_f hF rfl rfl rfl hc7 rfl) rfl (by kernel_rfl) (by kernel_rfl) (by kernel_rfl) fun a hF=>e_skipP 4 hF rfl (wanted_f hF rfl rfl rfl hc7 rfl) rfl (by kernel_rfl) (by kernel_rfl) (by kernel_rfl) fun a hF=>e_skipP 5 hF rfl (wanted_f hF rfl rfl rfl hc7 rfl) rfl (by kernel_rfl) (by kernel_rfl) (by kernel_rfl) fun a hF=>e_skipP 6 hF rfl (wanted_f hF rfl rfl rfl hc7 rfl) rfl (by kernel_rfl) (by kernel_rfl) (by kernel_rfl) fun a hF=>e_skipP 7 hF rfl (wanted_f hF rfl rfl rfl hc7 rfl) rfl (by kernel_rfl) (by kernel_rfl) (by kernel_rfl) fun a hF=>e_skipP 8 hF rfl (wanted_f hF rfl rfl rfl hc7 rfl) rfl (by kernel_rfl) (by kernel_rfl) (by kernel_rfl) fun a hF=>e_skipP 9 hF rfl (wanted_f hF rfl rfl rfl hc7 rfl) rfl (by kernel_rfl) (by kernel_rfl) (by kernel_rfl) fun a hF=>e_skipP 10 hF rfl (wanted_f hF rfl rfl rfl hc7 rfl) rfl (by kernel_rfl) (by kernel_rfl) (by kernel_rfl) fun a hF=>e_skipP 11 hF rfl (wanted_f hF rfl rfl rfl hc7 rfl) rfl (by kernel_rfl) (by kernel_rfl) (by kernel_rfl) fun a hF=>e_skipP 12 hF rfl (wanted_f hF rfl rfl rfl hc7 rfl) rfl (by kernel_rfl) (by kernel_rfl) (by kernel_rfl) fun a hF=>e_skipP 13 hF rfl (wanted_f hF rfl rfl rfl hc7 rfl) rfl (by kernel_rfl) (by kernel_rfl) (by kernel_rfl) fun a hF=>e_skipP 14 hF rfl (wanted_f hF rfl rfl rfl hc7 rfl) rfl (by kernel_rfl) (by kernel_rfl) (by kernel_rfl) fun a hF=>e_skipP 15 hF rfl (wanted_f hF rfl rfl rfl hc7 rfl) rfl (by kernel_rfl) (by kernel_rfl) (by kernel_rfl) fun a hF=>e_skipP 16 hF rfl (wanted_f hF rfl rfl rfl hc7 rfl) rfl (by kernel_rfl) (by kernel_rfl) (by kernel_rfl) fun a hF=>e_skipP 17 hF rfl (wanted_f hF rfl rfl rfl hc7 rfl) rfl (by kernel_rfl) (by kernel_rfl) (by kernel_rfl) fun a hF=>e_skipP 18 hF rfl (wanted_f hF rfl rfl rfl hc7 rfl) rfl (by kernel_rfl) (by kernel_rfl) (by kernel_rfl) fun a hF=>e_skipP 19 hF rfl (wanted_f hF rfl rfl rfl hc7 rfl) rfl (by kernel_rfl) (by kernel_rfl) (by kernel_rfl) fun a hF=>e_p (v:=(.bool false)) 20 hF rfl (ex_pick_f rfl rfl hc7) rfl rfl (by kernel_rfl) (by kernel_rfl) (by kernel_rfl) fun a hF=>e_end (by kernel_rfl) (n_jn ?_) _
        obtain rfl:=someI hj6
        exact ⟨hF.sub ⟨rfl,rfl,rfl,rfl,rfl,rfl,rfl,rfl,rfl,rfl,rfl,trivial⟩,hS.sel [0,2,3,1] (by decide)⟩
       ·have hj6:=cond_t hc7 hj6
        refine e_pg (v:=(.pointer (some ⟨b8,0,none⟩))) 3 hF rfl (ex_fieldAddr Try.underlying44 rfl sz23 rfl rfl) (wanted_t hF rfl rfl rfl hc7) rfl (by kernel_rfl) (by kernel_rfl) (by kernel_rfl) fun a hF=>e_xg (v:=s6.v) 4 hF hS rfl (ex_load1 1 0 Try.underlying23 rfl rfl rfl rfl) (wanted_t hF rfl rfl rfl hc7) rfl (by kernel_rfl) (by kernel_rfl) (by kernel_rfl) (by kernel_rfl) fun a hF=>e_pg (v:=(iV t_11)) 5 hF rfl (ex_move rfl) (wanted_t hF rfl rfl rfl hc7) rfl (by kernel_rfl) (by kernel_rfl) (by kernel_rfl) fun a hF=>?_
        obtain ⟨e_22,he_22,hj6⟩:=bindS hj6
        obtain ⟨vs23,at23,d23⟩:=((h6.mono hm12.le).mono hm19.le).at he_22 1 rfl
        obtain ⟨s24,rfl,h24⟩ : ∃ s24 : Sl,vs23 = [s24.v]∧Rd m19 s24 e_22:=d23
        refine e_pg (v:=(elP s6 (t_11.toNat * 1))) 6 hF rfl (ex_indexAddr Try.underlying23 sz28 rfl rfl (((h6.mono hm12.le).mono hm19.le).idx he_22)) (wanted_t hF rfl rfl rfl hc7) rfl (by kernel_rfl) (by kernel_rfl) (by kernel_rfl) fun a hF=>e_xg (v:=s24.v) 7 hF hS rfl (ex_loadE1 0 Try.underlying28 rfl rfl (at23.at 2 rfl) rfl rfl) (wanted_t hF rfl rfl rfl hc7) rfl (by kernel_rfl) (by kernel_rfl) (by kernel_rfl) (by kernel_rfl) fun a hF=>e_pg (v:=(iV t_18)) 8 hF rfl (ex_move rfl) (wanted_t hF rfl rfl rfl hc7) rfl (by kernel_rfl) (by kernel_rfl) (by kernel_rfl) fun a hF=>?_
        obtain ⟨e_25,he_25,hj6⟩:=bindS hj6
        obtain ⟨vs26,at26,d26⟩:=h24.at he_25 1 rfl
        obtain rfl : vs26 = [(iV e_25)]:=d26
        refine e_pg (v:=(elP s24 (t_18.toNat * 1))) 9 hF rfl (ex_indexAddr Try.underlying28 sz3 rfl rfl (h24.idx he_25)) (wanted_t hF rfl rfl rfl hc7) rfl (by kernel_rfl) (by kernel_rfl) (by kernel_rfl) fun a hF=>e_xg (v:=(iV e_25)) 10 hF hS rfl (ex_loadE1 0 Try.underlying3 rfl rfl ((at26).at) rfl rfl) (wanted_t hF rfl rfl rfl hc7) rfl (by kernel_rfl) (by kernel_rfl) (by kernel_rfl) (by kernel_rfl) fun a hF=>e_pg (v:=(.pointer (some ⟨b8,1,none⟩))) 11 hF rfl (ex_fieldAddr Try.underlying44 rfl sz23 rfl rfl) (wanted_t hF rfl rfl rfl hc7) rfl (by kernel_rfl) (by kernel_rfl) (by kernel_rfl) fun a hF=>e_xg (v:=s7.v) 12 hF hS rfl (ex_load1 1 0 Try.underlying23 rfl rfl rfl rfl) (wanted_t hF rfl rfl rfl hc7) rfl (by kernel_rfl) (by kernel_rfl) (by kernel_rfl) (by kernel_rfl) fun a hF=>e_pg (v:=(iV t_11)) 13 hF rfl (ex_move rfl) (wanted_t hF rfl rfl rfl hc7) rfl (by kernel_rfl) (by kernel_rfl) (by kernel_rfl) fun a hF=>?_
        obtain ⟨e_27,he_27,hj6⟩:=bindS hj6
        obtain ⟨vs28,at28,d28⟩:=((h7.mono hm12.le).mono hm19.le).at he_27 1 rfl
        obtain ⟨s29,rfl,h29⟩ : ∃ s29 : Sl,vs28 = [s29.v]∧Rd m19 s29 e_27:=d28
        refine e_pg (v:=(elP s7 (t_11.toNat * 1))) 14 hF rfl (ex_indexAddr Try.underlying23 sz28 rfl rfl (((h7.mono hm12.le).mono hm19.le).idx he_27)) (wanted_t hF rfl rfl rfl hc7) rfl (by kernel_rfl) (by kernel_rfl) (by kernel_rfl) fun a hF=>e_xg (v:=s29.v) 15 hF hS rfl (ex_loadE1 0 Try.underlying28 rfl rfl (at28.at 3 rfl) rfl rfl) (wanted_t hF rfl rfl rfl hc7) rfl (by kernel_rfl) (by kernel_rfl) (by kernel_rfl) (by kernel_rfl) fun a hF=>e_pg (v:=(iV t_18)) 16 hF rfl (ex_move rfl) (wanted_t hF rfl rfl rfl hc7) rfl (by kernel_rfl) (by kernel_rfl) (by kernel_rfl) fun a hF=>?_
        obtain ⟨e_30,he_30,hj6⟩:=bindS hj6
        obtain ⟨vs31,at31,d31⟩:=h29.at he_30 1 rfl
        obtain rfl : vs31 = [(iV e_30)]:=d31
        refine e_pg (v:=(elP s29 (t_18.toNat * 1))) 17 hF rfl (ex_indexAddr Try.underlying28 sz3 rfl rfl (h29.idx he_30)) (wanted_t hF rfl rfl rfl hc7) rfl (by kernel_rfl) (by kernel_rfl) (by kernel_rfl) fun a hF=>e_xg (v:=(iV e_30)) 18 hF hS rfl (ex_loadE1 0 Try.underlying3 rfl rfl ((at31).at) rfl rfl) (wanted_t hF rfl rfl rfl hc7) rfl (by kernel_rfl) (by kernel_rfl) (by kernel_rfl) (by kernel_rfl) fun a hF=>e_pg (v:=(.bool (e_25 == e_30))) 19 hF rfl (ex_ibin rfl rfl rfl) (wanted_t hF rfl rfl rfl hc7) rfl (by kernel_rfl) (by kernel_rfl) (by kernel_rfl) fun a hF=>e_p (v:=(.bool (e_25 == e_30))) 20 hF rfl (ex_pick_t rfl rfl hc7) rfl rfl (by kernel_rfl) (by kernel_rfl) (by kernel_rfl) fun a hF=>e_end (by kernel_rfl) (n_jn ?_) _
        obtain rfl:=someI hj6
        exact ⟨hF.sub ⟨rfl,rfl,rfl,rfl,rfl,rfl,rfl,rfl,rfl,rfl,rfl,trivial⟩,hS.sel [0,2,3,1] (by decide)⟩
      ·rintro a w ⟨hF,hS⟩
       refine n_sq ?_
       obtain ⟨out_38,hj8,hb4⟩:=bindS hb4
       refine q_join (fun a w=>∃ (m40 : Mem),∃ (q39 : Piece),∃ (s39 : Sl),Fr a 63 [(6,(.pointer (some ⟨b8,0,none⟩))),(7,s39.v),(8,(iV t_11)),(19,s2.v),(20,(iV (goLen p_p))),(21,(iV t_11)),(26,s15.v),(27,(iV (goLen e_13))),(28,(iV t_18))]∧St [] w0 w m40 [q39,q6,q7,[⟨b8,[s6.v,s7.v],44⟩]]∧MLe [] w0.heap.size m19 m40∧OwnL m40 28 q39 s39 out_38) ?_ ?_
       ·rcases bcase (t_32) with hc9 | hc9
        ·have hj8:=cond_f hc9 hj8
         refine q_cond_f hF rfl hc9 (q_skipc (n_jn ?_))
         obtain rfl:=someI hj8
         exact ⟨m19,q17,s17,hF.sub ⟨rfl,rfl,rfl,rfl,rfl,rfl,rfl,rfl,rfl,trivial⟩,hS,(MLe.refl _ _),h17⟩
        ·have hj8:=cond_t hc9 hj8
         refine q_cond_t hF rfl hc9 (q_region (q_x (v:=s17.v) hF hS (ex_move rfl) rfl rfl fun a hF=>q_x (v:=(iV t_11)) hF hS (ex_move rfl) rfl rfl fun a hF=>q_x (v:=(iV t_18)) hF hS (ex_move rfl) rfl rfl fun a hF=>q_do rfl fun _ hK=>wp_buildSlice' (l:=([t_11,t_18] : List Int)) (cells:=[(iV t_11),(iV t_18)]) hF hS Try.underlying28 inf3 rfl rfl (by kernel_rfl) rfl rfl rfl ⟨rfl,rfl,rfl⟩ rfl rfl fun a w q33 s33 hF hS h33 _=>hK _ _ ?_))
         obtain ⟨m35,hm35,hS,hz35⟩:=hS.freeze
         have h35:=h33.froz hm35.le hz35
         refine q_do rfl fun _ hK=>wp_buildSlice' (l:=([([t_11,t_18] : List Int)] : List (List Int))) (cells:=[s33.v]) hF hS Try.underlying23 inf28 rfl rfl (by kernel_rfl) rfl rfl rfl ⟨⟨s33,rfl,h35⟩,rfl⟩ rfl rfl fun a w q34 s34 hF hS h34 _=>hK _ _ ?_
         have hS : St _ _ _ _ [q17,q34,q6,q7,[⟨b8,[s6.v,s7.v],44⟩]]:=hS.sel [1,0,2,3,4] (by decide)
         obtain ⟨l_36,hl_36,hj8⟩:=bindS hj8
         refine q_do rfl fun _ hK=>wp_append hF hS (h17.mono hm35.le) Try.underlying23 inf28 rfl rfl rfl rfl (h34.vw hS (j:=1) rfl) rfl (by decide) hl_36 rfl fun a w q37 s37 hF hS h37=>hK _ _ (q_x (v:=s37.v) hF hS (ex_assign rfl) rfl rfl fun a hF=>q_end (n_jn ?_))
         obtain rfl:=someI hj8
         exact ⟨m35,q37,s37,hF.sub ⟨rfl,rfl,rfl,rfl,rfl,rfl,rfl,rfl,rfl,trivial⟩,hS.mask [true,false,true,true,true],hm35,h37⟩
       ·rintro a w ⟨m40,q39,s39,hF,hS,hm40,h39⟩
        refine n_ib (n_sq ?_)
        refine q_region (q_x (v:=(iV (w64 (t_18 + 1)))) hF hS (ex_ibin rfl rfl rfl) rfl rfl fun a hF=>q_x (v:=(iV (w64 (t_18 + 1)))) hF hS (ex_move rfl) rfl rfl fun a hF=>q_end ?_)
        obtain rfl:=someI hb4
        exact ⟨rfl,m40,q39,s39,_,_,rfl,hF.sub ⟨rfl,rfl,rfl,rfl,rfl,rfl,rfl,rfl,rfl,trivial⟩,hS.sel [0,3,1,2] (by decide),(hm19.trans hm40),h39⟩
    ·rintro e a w ⟨m43,q42,s42,rfl,hF,hS,hm43,h42⟩
     refine x_ib (n_ib (n_sq ?_))
     refine q_region (q_x (v:=(iV (w64 (t_11 + 1)))) hF hS (ex_ibin rfl rfl rfl) rfl rfl fun a hF=>q_x (v:=(iV (w64 (t_11 + 1)))) hF hS (ex_move rfl) rfl rfl fun a hF=>q_end ?_)
     obtain rfl:=someI hb2
     exact ⟨rfl,m43,q42,s42,_,_,rfl,hF.sub ⟨rfl,rfl,rfl,rfl,rfl,trivial⟩,hS.sel [0,3,1,2] (by decide),(hm12.trans hm43),h42⟩
  ·rintro e a w ⟨m46,q45,s45,rfl,hF,hS,hm46,h45⟩
   refine x_ib (n_sq ?_)
   refine q_seq (q_region (q_x (v:=s45.v) hF hS (ex_move rfl) rfl rfl fun a hF=>q_x (v:=s45.v) hF hS (ex_assign rfl) rfl rfl fun a hF=>q_x (v:=(.bool true)) hF hS (ex_assign rfl) rfl rfl fun a hF=>q_end (n_sq (q_ret ?_))))
   obtain rfl:=someI hr
   exact ret_of hF hS rfl (.tmp rfl (.tmp rfl .nil)) ⟨m46,q45,s45,rfl,(hm5.trans hm46),hS.sel [0] (by decide),h45⟩
 ·have hr:=cond_t hc1 hr
  refine q_cond_t hF rfl hc1 (q_seq (q_region (q_x (v:=nilS.v) hF hS (ex_assign rfl) rfl rfl fun a hF=>q_x (v:=(.bool false)) hF hS (ex_assign rfl) rfl rfl fun a hF=>q_end (n_sq (q_ret (r_sq ?_))))))
  obtain rfl:=someI hr
  exact ret_of hF hS rfl (.tmp rfl (.tmp rfl .nil)) ⟨m,[],nilS,rfl,(MLe.refl _ _),hS.sel [0] (by decide),(OwnL.nil (α:=List Int) m 28)⟩

theorem c_laws_qInts (p_a : List Int) (p_b : List Int) (r : Bool) (hr : laws_qInts p_a p_b = some r) (w0 : World) (m : Mem) (hv : Vis m w0) (s1 : Sl) (h1 : Rd m s1 p_a) (s2 : Sl) (h2 : Rd m s2 p_b) :
  Ret Try.prog 92 [s1.v,s2.v] w0 (fun v _=>v = (.bool r)):=by
 unfold laws_qInts at hr
 refine ret_start Try.func92 rfl 26 rfl rfl m hv fun a hF hS=>q_seq (q_region (q_x (v:=(.bool false)) hF hS (ex_assign rfl) rfl rfl fun a hF=>q_end (n_sq (q_seq (q_seq (q_region (q_x (v:=s1.v) hF hS (ex_move rfl) rfl rfl fun a hF=>q_x (v:=(iV (goLen p_a))) hF hS (ex_len Try.underlying28 rfl h1.len) rfl rfl fun a hF=>q_x (v:=s2.v) hF hS (ex_move rfl) rfl rfl fun a hF=>q_x (v:=(iV (goLen p_b))) hF hS (ex_len Try.underlying28 rfl h2.len) rfl rfl fun a hF=>q_x (v:=(.bool ((goLen p_a) != (goLen p_b)))) hF hS (ex_ibin rfl rfl rfl) rfl rfl fun a hF=>q_end (n_sq ?_))))))))
 rcases bcase ((goLen p_a) != (goLen p_b)) with hc1 | hc1
 ·have hr:=cond_f hc1 hr
  refine q_cond_f hF rfl hc1 (q_skipc (n_sq (q_seq (q_seq (q_region (q_x (v:=s1.v) hF hS (ex_move rfl) rfl rfl fun a hF=>q_x (v:=(iV (goLen p_a))) hF hS (ex_len Try.underlying28 rfl h1.len) rfl rfl fun a hF=>q_x (v:=(iV 0)) hF hS (ex_move rfl) rfl rfl fun a hF=>q_end (n_sq (q_block ?_))))))))
  obtain ⟨o2,hl2,hr⟩:=bindS hr
  refine q_loop (fun (t_3 : Int) a w=>Fr a 26 [(0,s1.v),(1,s2.v),(12,(iV (goLen p_a))),(13,(iV t_3))]∧St [] w0 w m []) (fun (o : (Unit) ⊕ (Bool)) e a w=>o = .inl ()∧e = .exit 0∧Fr a 26 []∧St [] w0 w m []) hl2 ⟨hF.sub ⟨rfl,rfl,rfl,rfl,trivial⟩,hS⟩ ?_ ?_
  ·clear hF hS
   rintro t_3 a w st ⟨hF,hS⟩ hb2
   unfold laws_qInts_l1 at hb2
   refine q_seq (q_region (q_x (v:=(.bool (decide (t_3 < (goLen p_a))))) hF hS (ex_ibin rfl rfl rfl) rfl rfl fun a hF=>q_end (n_sq (q_seq ?_))))
   rcases bcase (decide (t_3 < (goLen p_a))) with hc3 | hc3
   ·have hb2:=cond_f hc3 hb2
    refine q_cond_f hF rfl hc3 (q_exit (x_sq ?_))
    obtain rfl:=someI hb2
    exact ⟨nofun,.inl ⟨rfl,rfl,hF.sub trivial,hS⟩⟩
   ·have hb2:=cond_t hc3 hb2
    refine q_cond_t hF rfl hc3 (q_skipc (n_sq (q_seq (q_block (q_seq (q_region (q_x (v:=(iV t_3)) hF hS (ex_move rfl) rfl rfl fun a hF=>q_x (v:=(iV t_3)) hF hS (ex_assign rfl) rfl rfl fun a hF=>q_end (n_sq (q_seq (e_region ⟨[],[],m⟩ mixed fun w' hw'=>?_))))))))))
    have hS:=hS.below hw'
    refine e_p (v:=s1.v) 0 hF rfl (ex_move rfl) rfl rfl (by kernel_rfl) (by kernel_rfl) (by kernel_rfl) fun a hF=>e_p (v:=(iV t_3)) 1 hF rfl (ex_move rfl) rfl rfl (by kernel_rfl) (by kernel_rfl) (by kernel_rfl) fun a hF=>?_
    obtain ⟨e_4,he_4,hb2⟩:=bindS hb2
    obtain ⟨vs5,at5,d5⟩:=h1.at he_4 1 rfl
    obtain rfl : vs5 = [(iV e_4)]:=d5
    refine e_p (v:=(elP s1 (t_3.toNat * 1))) 2 hF rfl (ex_indexAddr Try.underlying28 sz3 rfl rfl (h1.idx he_4)) rfl rfl (by kernel_rfl) (by kernel_rfl) (by kernel_rfl) fun a hF=>e_xm (v:=(iV e_4)) 3 hF hS (Mem.le.refl _) rfl (ex_loadE1 0 Try.underlying3 rfl rfl ((at5).at) rfl rfl) rfl rfl (by kernel_rfl) (by kernel_rfl) (by kernel_rfl) fun a hF=>e_p (v:=s2.v) 4 hF rfl (ex_move rfl) rfl rfl (by kernel_rfl) (by kernel_rfl) (by kernel_rfl) fun a hF=>e_p (v:=(iV t_3)) 5 hF rfl (ex_move rfl) rfl rfl (by kernel_rfl) (by kernel_rfl) (by kernel_rfl) fun a hF=>?_
    obtain ⟨e_6,he_6,hb2⟩:=bindS hb2
    obtain ⟨vs7,at7,d7⟩:=h2.at he_6 1 rfl
    obtain rfl : vs7 = [(iV e_6)]:=d7
    refine e_p (v:=(elP s2 (t_3.toNat * 1))) 6 hF rfl (ex_indexAddr Try.underlying28 sz3 rfl rfl (h2.idx he_6)) rfl rfl (by kernel_rfl) (by kernel_rfl) (by kernel_rfl) fun a hF=>e_xm (v:=(iV e_6)) 7 hF hS (Mem.le.refl _) rfl (ex_loadE1 0 Try.underlying3 rfl rfl ((at7).at) rfl rfl) rfl rfl (by kernel_rfl) (by kernel_rfl) (by kernel_rfl) fun a hF=>e_p (v:=(.bool (e_4 != e_6))) 8 hF rfl (ex_ibin rfl rfl rfl) rfl rfl (by kernel_rfl) (by kernel_rfl) (by kernel_rfl) fun a hF=>e_end (by kernel_rfl) (n_sq ?_) _
    rcases bcase (e_4 != e_6) with hc4 | hc4
    ·have hb2:=cond_f hc4 hb2
     refine q_cond_f hF rfl hc4 (q_skipc (n_ib (n_sq (q_region (q_x (v:=(iV (w64 (t_3 + 1)))) hF hS (ex_ibin rfl rfl rfl) rfl rfl fun a hF=>q_x (v:=(iV (w64 (t_3 + 1)))) hF hS (ex_move rfl) rfl rfl fun a hF=>q_end ?_)))))
     obtain rfl:=someI hb2
     exact ⟨rfl,hF.sub ⟨rfl,rfl,rfl,rfl,trivial⟩,hS⟩
    ·have hb2:=cond_t hc4 hb2
     refine q_cond_t hF rfl hc4 (q_seq (q_region (q_x (v:=(.bool false)) hF hS (ex_assign rfl) rfl rfl fun a hF=>q_end (n_sq (q_ret (r_ib (r_sq ?_)))))))
     obtain rfl:=someI hb2
     refine ⟨nofun,.inr fun ho=>?_⟩
     subst ho
     refine r_ib (r_sq ?_)
     obtain rfl:=someI hr
     exact ret_of hF hS rfl (.tmp rfl .nil) rfl
  ·rintro e a w ⟨rfl,rfl,hF,hS⟩
   refine x_ib (n_sq ?_)
   refine q_seq (q_region (q_x (v:=(.bool true)) hF hS (ex_assign rfl) rfl rfl fun a hF=>q_end (n_sq (q_ret ?_))))
   obtain rfl:=someI hr
   exact ret_of hF hS rfl (.tmp rfl .nil) rfl
 ·have hr:=cond_t hc1 hr
  refine q_cond_t hF rfl hc1 (q_seq (q_region (q_x (v:=(.bool false)) hF hS (ex_assign rfl) rfl rfl fun a hF=>q_end (n_sq (q_ret (r_sq ?_))))))
  obtain rfl:=someI hr
  exact ret_of hF hS rfl (.tmp rfl .nil) rfl

theorem c_laws_qLists (p_a : List (List Int)) (p_b : List (List Int)) (r : Bool) (hr : laws_qLists p_a p_b = some r) (w0 : World) (m : Mem) (hv : Vis m w0) (s1 : Sl) (h1 : Rd m s1 p_a) (s2 : Sl) (h2 : Rd m s2 p_b) :
  Ret Try.prog 20 [s1.v,s2.v] w0 (fun v _=>v = (.bool r)):=by
 unfold laws_qLists at hr
 refine ret_start Try.func20 rfl 27 rfl rfl m hv fun a hF hS=>q_seq (q_region (q_x (v:=(.bool false)) hF hS (ex_assign rfl) rfl rfl fun a hF=>q_end (n_sq (q_seq (q_seq (q_region (q_x (v:=s1.v) hF hS (ex_move rfl) rfl rfl fun a hF=>q_x (v:=(iV (goLen p_a))) hF hS (ex_len Try.underlying23 rfl h1.len) rfl rfl fun a hF=>q_x (v:=s2.v) hF hS (ex_move rfl) rfl rfl fun a hF=>q_x (v:=(iV (goLen p_b))) hF hS (ex_len Try.underlying23 rfl h2.len) rfl rfl fun a hF=>q_x (v:=(.bool ((goLen p_a) != (goLen p_b)))) hF hS (ex_ibin rfl rfl rfl) rfl rfl fun a hF=>q_end (n_sq ?_))))))))
 rcases bcase ((goLen p_a) != (goLen p_b)) with hc1 | hc1
 ·have hr:=cond_f hc1 hr
  refine q_cond_f hF rfl hc1 (q_skipc (n_sq (q_seq (q_seq (q_region (q_x (v:=s1.v) hF hS (ex_move rfl) rfl rfl fun a hF=>q_x (v:=(iV (goLen p_a))) hF hS (ex_len Try.underlying23 rfl h1.len) rfl rfl fun a hF=>q_x (v:=(iV 0)) hF hS (ex_move rfl) rfl rfl fun a hF=>q_end (n_sq (q_block ?_))))))))
  obtain ⟨o2,hl2,hr⟩:=bindS hr
  refine q_loop (fun (t_3 : Int) a w=>Fr a 27 [(0,s1.v),(1,s2.v),(12,(iV (goLen p_a))),(13,(iV t_3))]∧St [] w0 w m []) (fun (o : (Unit) ⊕ (Bool)) e a w=>o = .inl ()∧e = .exit 0∧Fr a 27 []∧St [] w0 w m []) hl2 ⟨hF.sub ⟨rfl,rfl,rfl,rfl,trivial⟩,hS⟩ ?_ ?_
  ·clear hF hS
   rintro t_3 a w st ⟨hF,hS⟩ hb2
   unfold laws_qLists_l1 at hb2
   refine q_seq (q_region (q_x (v:=(.bool (decide (t_3 < (goLen p_a))))) hF hS (ex_ibin rfl rfl rfl) rfl rfl fun a hF=>q_end (n_sq (q_seq ?_))))
   rcases bcase (decide (t_3 < (goLen p_a))) with hc3 | hc3
   ·have hb2:=cond_f hc3 hb2
    refine q_cond_f hF rfl hc3 (q_exit (x_sq ?_))
    obtain rfl:=someI hb2
    exact ⟨nofun,.inl ⟨rfl,rfl,hF.sub trivial,hS⟩⟩
   ·have hb2:=cond_t hc3 hb2
    refine q_cond_t hF rfl hc3 (q_skipc (n_sq (q_seq (q_block (q_seq (q_region (q_x (v:=(iV t_3)) hF hS (ex_move rfl) rfl rfl fun a hF=>q_x (v:=(iV t_3)) hF hS (ex_assign rfl) rfl rfl fun a hF=>q_end (n_sq (q_seq (e_region ⟨[],[],m⟩ mixed fun w' hw'=>?_))))))))))
    have hS:=hS.below hw'
    refine e_p (v:=s1.v) 0 hF rfl (ex_move rfl) rfl rfl (by kernel_rfl) (by kernel_rfl) (by kernel_rfl) fun a hF=>e_p (v:=(iV t_3)) 1 hF rfl (ex_move rfl) rfl rfl (by kernel_rfl) (by kernel_rfl) (by kernel_rfl) fun a hF=>?_
    obtain ⟨e_4,he_4,hb2⟩:=bindS hb2
    obtain ⟨vs5,at5,d5⟩:=h1.at he_4 1 rfl
    obtain ⟨s6,rfl,h6⟩ : ∃ s6 : Sl,vs5 = [s6.v]∧Rd m s6 e_4:=d5
    refine e_p (v:=(elP s1 (t_3.toNat * 1))) 2 hF rfl (ex_indexAddr Try.underlying23 sz28 rfl rfl (h1.idx he_4)) rfl rfl (by kernel_rfl) (by kernel_rfl) (by kernel_rfl) fun a hF=>e_xm (v:=s6.v) 3 hF hS (Mem.le.refl _) rfl (ex_loadE1 0 Try.underlying28 rfl rfl ((at5).at) rfl rfl) rfl rfl (by kernel_rfl) (by kernel_rfl) (by kernel_rfl) fun a hF=>e_p (v:=s2.v) 4 hF rfl (ex_move rfl) rfl rfl (by kernel_rfl) (by kernel_rfl) (by kernel_rfl) fun a hF=>e_p (v:=(iV t_3)) 5 hF rfl (ex_move rfl) rfl rfl (by kernel_rfl) (by kernel_rfl) (by kernel_rfl) fun a hF=>?_
    obtain ⟨e_7,he_7,hb2⟩:=bindS hb2
    obtain ⟨vs8,at8,d8⟩:=h2.at he_7 1 rfl
    obtain ⟨s9,rfl,h9⟩ : ∃ s9 : Sl,vs8 = [s9.v]∧Rd m s9 e_7:=d8
    refine e_p (v:=(elP s2 (t_3.toNat * 1))) 6 hF rfl (ex_indexAddr Try.underlying23 sz28 rfl rfl (h2.idx he_7)) rfl rfl (by kernel_rfl) (by kernel_rfl) (by kernel_rfl) fun a hF=>e_xm (v:=s9.v) 7 hF hS (Mem.le.refl _) rfl (ex_loadE1 0 Try.underlying28 rfl rfl ((at8).at) rfl rfl) rfl rfl (by kernel_rfl) (by kernel_rfl) (by kernel_rfl) fun a hF=>e_one 8 (by kernel_rfl) ?_
    obtain ⟨t_10,ht_10,hb2⟩:=bindS hb2
    refine e_call (vs:=[s6.v,s9.v]) hF hS rfl Try.func92 (by kernel_rfl) rfl rfl rfl (c_laws_qInts e_4 e_7 t_10 ht_10 _ m hS.vis s6 h6 s9 h9) ?_
    rintro a w _ rfl hF hS
    refine e_p (v:=(.bool (!t_10))) 9 hF rfl (ex_not rfl) rfl rfl (by kernel_rfl) (by kernel_rfl) (by kernel_rfl) fun a hF=>e_end (by kernel_rfl) (n_sq ?_) _
    rcases bcase (!t_10) with hc4 | hc4
    ·have hb2:=cond_f hc4 hb2
     refine q_cond_f hF rfl hc4 (q_skipc (n_ib (n_sq (q_region (q_x (v:=(iV (w64 (t_3 + 1)))) hF hS (ex_ibin rfl rfl rfl) rfl rfl fun a hF=>q_x (v:=(iV (w64 (t_3 + 1)))) hF hS (ex_move rfl) rfl rfl fun a hF=>q_end ?_)))))
     obtain rfl:=someI hb2
     exact ⟨rfl,hF.sub ⟨rfl,rfl,rfl,rfl,trivial⟩,hS⟩
    ·have hb2:=cond_t hc4 hb2
     refine q_cond_t hF rfl hc4 (q_seq (q_region (q_x (v:=(.bool false)) hF hS (ex_assign rfl) rfl rfl fun a hF=>q_end (n_sq (q_ret (r_ib (r_sq ?_)))))))
     obtain rfl:=someI hb2
     refine ⟨nofun,.inr fun ho=>?_⟩
     subst ho
     refine r_ib (r_sq ?_)
     obtain rfl:=someI hr
     exact ret_of hF hS rfl (.tmp rfl .nil) rfl
  ·rintro e a w ⟨rfl,rfl,hF,hS⟩
   refine x_ib (n_sq ?_)
   refine q_seq (q_region (q_x (v:=(.bool true)) hF hS (ex_assign rfl) rfl rfl fun a hF=>q_end (n_sq (q_ret ?_))))
   obtain rfl:=someI hr
   exact ret_of hF hS rfl (.tmp rfl .nil) rfl
 ·have hr:=cond_t hc1 hr
  refine q_cond_t hF rfl hc1 (q_seq (q_region (q_x (v:=(.bool false)) hF hS (ex_assign rfl) rfl rfl fun a hF=>q_end (n_sq (q_ret (r_sq ?_))))))
  obtain rfl:=someI hr
  exact ret_of hF hS rfl (.tmp rfl .nil) rfl

theorem c_impl_total (p_l : List Int) (r : Int) (hr : impl_total p_l = some r) (w0 : World) (m : Mem) (hv : Vis m w0) (s1 : Sl) (h1 : Rd m s1 p_l) :
  Ret Try.prog 80 [s1.v] w0 (fun v _=>v = (iV r)):=by
 unfold impl_total at hr
 refine ret_start Try.func80 rfl 17 rfl rfl m hv fun a hF hS=>q_seq (q_region (q_x (v:=(iV 0)) hF hS (ex_assign rfl) rfl rfl fun a hF=>q_end (n_sq (q_seq (q_region (q_x (v:=(iV 0)) hF hS (ex_assign rfl) rfl rfl fun a hF=>q_end (n_sq (q_seq (q_seq (q_region (q_x (v:=s1.v) hF hS (ex_move rfl) rfl rfl fun a hF=>q_x (v:=(iV (goLen p_l))) hF hS (ex_len Try.underlying28 rfl h1.len) rfl rfl fun a hF=>q_x (v:=(iV 0)) hF hS (ex_move rfl) rfl rfl fun a hF=>q_end (n_sq (q_block ?_)))))))))))))
 obtain ⟨sum_6,hl1,hr⟩:=bindS hr
 refine q_loop (fun (s : Int × Int) a w=>∃ sum_2,∃ t_3,s = (sum_2,t_3)∧Fr a 17 [(3,(iV sum_2)),(6,s1.v),(7,(iV (goLen p_l))),(8,(iV t_3))]∧St [] w0 w m []) (fun (sum_6 : Int) e a w=>e = .exit 0∧Fr a 17 [(3,(iV sum_6))]∧St [] w0 w m []) hl1 ⟨_,_,rfl,hF.sub ⟨rfl,rfl,rfl,rfl,trivial⟩,hS⟩ ?_ ?_
 ·clear hF hS
  rintro s a w st ⟨sum_2,t_3,rfl,hF,hS⟩ hb1
  unfold impl_total_l1 at hb1
  refine q_seq (q_region (q_x (v:=(.bool (decide (t_3 < (goLen p_l))))) hF hS (ex_ibin rfl rfl rfl) rfl rfl fun a hF=>q_end (n_sq (q_seq ?_))))
  rcases bcase (decide (t_3 < (goLen p_l))) with hc2 | hc2
  ·have hb1:=cond_f hc2 hb1
   refine q_cond_f hF rfl hc2 (q_exit (x_sq ?_))
   obtain rfl:=someI hb1
   exact ⟨nofun,.inl ⟨rfl,hF.sub ⟨rfl,trivial⟩,hS⟩⟩
  ·have hb1:=cond_t hc2 hb1
   refine q_cond_t hF rfl hc2 (q_skipc (n_sq (q_seq (q_block (q_seq (q_region ?_))))))
   obtain ⟨e_4,he_4,hb1⟩:=bindS hb1
   obtain ⟨vs5,at5,d5⟩:=h1.at he_4 1 rfl
   obtain rfl : vs5 = [(iV e_4)]:=d5
   refine q_x (v:=(elP s1 (t_3.toNat * 1))) hF hS (ex_indexAddr Try.underlying28 sz3 rfl rfl (h1.idx he_4)) rfl rfl fun a hF=>q_x (v:=(iV e_4)) hF hS (ex_loadE1 0 Try.underlying3 rfl rfl ((at5).at) rfl rfl) rfl rfl fun a hF=>q_x (v:=(iV e_4)) hF hS (ex_assign rfl) rfl rfl fun a hF=>q_end (n_sq (q_region (q_x (v:=(iV sum_2)) hF hS (ex_move rfl) rfl rfl fun a hF=>q_x (v:=(iV e_4)) hF hS (ex_move rfl) rfl rfl fun a hF=>q_x (v:=(iV (w64 (sum_2 + e_4)))) hF hS (ex_ibin rfl rfl rfl) rfl rfl fun a hF=>q_x (v:=(iV (w64 (sum_2 + e_4)))) hF hS (ex_assign rfl) rfl rfl fun a hF=>q_end (n_ib (n_sq (q_region (q_x (v:=(iV (w64 (t_3 + 1)))) hF hS (ex_ibin rfl rfl rfl) rfl rfl fun a hF=>q_x (v:=(iV (w64 (t_3 + 1)))) hF hS (ex_move rfl) rfl rfl fun a hF=>q_end ?_)))))))
   obtain rfl:=someI hb1
   exact ⟨rfl,_,_,rfl,hF.sub ⟨rfl,rfl,rfl,rfl,trivial⟩,hS⟩
 ·rintro e a w ⟨rfl,hF,hS⟩
  refine x_ib (n_sq ?_)
  refine q_seq (q_region (q_x (v:=(iV sum_6)) hF hS (ex_move rfl) rfl rfl fun a hF=>q_x (v:=(iV sum_6)) hF hS (ex_assign rfl) rfl rfl fun a hF=>q_end (n_sq (q_ret ?_))))
  obtain rfl:=someI hr
  exact ret_of hF hS rfl (.tmp rfl .nil) rfl

theorem c_impl_restore (p_t : impl_Transport) (p_x : List (List Int)) (p_r : List (List Int)) (p_fixed : Int) (r : (List (List Int))) (hr : impl_restore p_t p_x p_r p_fixed = some r) (w0 : World) (m : Mem) (hv : Vis m w0) (s1 : Sl) (h1 : Rd m s1 p_t.Rows) (s2 : Sl) (h2 : Rd m s2 p_t.Cols) (s3 : Sl) (h3 : Rd m s3 p_t.Lo) (s4 : Sl) (h4 : Rd m s4 p_t.Hi) (s5 : Sl) (h5 : Rd m s5 p_x) (s6 : Sl) (h6 : Rd m s6 p_r) :
  Ret Try.prog 169 [(.agg #[s1.v,s2.v,s3.v,s4.v]),s5.v,s6.v,(iV p_fixed)] w0 (fun v w=>∃ (q0' : Piece) (s0' : Sl),v = s0'.v∧St [] w0 w m [q0']∧OwnD m 28 3 q0' s0' r∧NF s0' r):=by
 unfold impl_restore at hr
 refine ret_start Try.func169 rfl 69 rfl rfl m hv fun a hF hS=>q_seq (q_region (q_box (cs:=[s1.v,s2.v,s3.v,s4.v]) hF hS rfl rfl rfl fun a w b7 hF hS=>q_x (v:=nilS.v) hF hS (ex_assign rfl) rfl rfl fun a hF=>q_end (n_sq (q_seq (e_region ⟨[],[],m⟩ mixed fun w' hw'=>?_)))))
 have hS:=hS.below hw'
 refine e_p (v:=(.pointer (some ⟨b7,0,none⟩))) 0 hF rfl (ex_fieldAddr Try.underlying50 rfl sz28 rfl rfl) rfl rfl (by kernel_rfl) (by kernel_rfl) (by kernel_rfl) fun a hF=>e_x (v:=s1.v) 1 hF hS rfl (ex_load1 0 0 Try.underlying28 rfl rfl rfl rfl) rfl rfl (by kernel_rfl) (by kernel_rfl) (by kernel_rfl) (by kernel_rfl) fun a hF=>e_p (v:=(iV (goLen p_t.Rows))) 2 hF rfl (ex_len Try.underlying28 rfl h1.len) rfl rfl (by kernel_rfl) (by kernel_rfl) (by kernel_rfl) fun a hF=>e_p (v:=(.pointer (some ⟨b7,1,none⟩))) 3 hF rfl (ex_fieldAddr Try.underlying50 rfl sz28 rfl rfl) rfl rfl (by kernel_rfl) (by kernel_rfl) (by kernel_rfl) fun a hF=>e_x (v:=s2.v) 4 hF hS rfl (ex_load1 0 0 Try.underlying28 rfl rfl rfl rfl) rfl rfl (by kernel_rfl) (by kernel_rfl) (by kernel_rfl) (by kernel_rfl) fun a hF=>e_p (v:=(iV (goLen p_t.Cols))) 5 hF rfl (ex_len Try.underlying28 rfl h2.len) rfl rfl (by kernel_rfl) (by kernel_rfl) (by kernel_rfl) fun a hF=>e_p (v:=(iV (goLen p_t.Rows))) 6 hF rfl (ex_assign rfl) rfl rfl (by kernel_rfl) (by kernel_rfl) (by kernel_rfl) fun a hF=>e_p (v:=(iV (goLen p_t.Cols))) 7 hF rfl (ex_assign rfl) rfl rfl (by kernel_rfl) (by kernel_rfl) (by kernel_rfl) fun a hF=>e_end (by kernel_rfl) (n_sq ?_) _
 refine q_seq (q_region (q_x (v:=s5.v) hF hS (ex_move rfl) rfl rfl fun a hF=>?_))
 obtain ⟨t_8,ht_8,hr⟩:=bindS hr
 refine q_call (vs:=[s5.v]) hF hS Try.func75 (by kernel_rfl) rfl rfl rfl (c_impl_copyMatrix p_x t_8 ht_8 _ m hS.vis s5 h5) ?_
 rintro a w _ ⟨q10,s10,rfl,hR9,h10,h10n⟩ hF hS2
 have hS : St _ _ _ _ [q10,[⟨b7,[s1.v,s2.v,s3.v,s4.v],50⟩]]:=hS.joinF hR9
 refine q_x (v:=s10.v) hF hS (ex_assign rfl) rfl rfl fun a hF=>q_end (n_sq (q_seq (q_seq (q_region (q_x (v:=s10.v) hF hS (ex_move rfl) rfl rfl fun a hF=>q_x (v:=(iV (goLen t_8))) hF hS (ex_len Try.underlying23 rfl h10.len) rfl rfl fun a hF=>q_x (v:=(iV 0)) hF hS (ex_move rfl) rfl rfl fun a hF=>q_end (n_sq (q_block ?_)))))))
 obtain ⟨out_38,hl1,hr⟩:=bindS hr
 refine q_loop (fun (s : (List (List Int)) × Int) a w=>∃ (q12 : Piece),∃ out_11,∃ t_13,s = (out_11,t_13)∧Fr a 69 [(2,s6.v),(3,(iV p_fixed)),(4,(.pointer (some ⟨b7,0,none⟩))),(9,(iV (goLen p_t.Rows))),(10,(iV (goLen p_t.Cols))),(11,s10.v),(23,(iV (goLen t_8))),(24,(iV t_13))]∧St [] w0 w m [q12,[⟨b7,[s1.v,s2.v,s3.v,s4.v],50⟩]]∧OwnD m 28 3 q12 s10 out_11∧NF s10 out_11) (fun (out_38 : (List (List Int))) e a w=>∃ (q39 : Piece),e = .exit 0∧Fr a 69 [(11,s10.v)]∧St [] w0 w m [q39]∧OwnD m 28 3 q39 s10 out_38∧NF s10 out_38) hl1 ⟨q10,_,_,rfl,hF.sub ⟨rfl,rfl,rfl,rfl,rfl,rfl,rfl,rfl,trivial⟩,hS,h10,h10n⟩ ?_ ?_
 ·clear hF hS
  rintro s a w st ⟨q12,out_11,t_13,rfl,hF,hS,h12,h12n⟩ hb1
  unfold impl_restore_l1 at hb1
  refine q_seq (q_region (q_x (v:=(.bool (decide (t_13 < (goLen t_8))))) hF hS (ex_ibin rfl rfl rfl) rfl rfl fun a hF=>q_end (n_sq (q_seq ?_))))
  rcases bcase (decide (t_13 < (goLen t_8))) with hc2 | hc2
  ·have hb1:=cond_f hc2 hb1
   refine q_cond_f hF rfl hc2 (q_exit (x_sq ?_))
   obtain rfl:=someI hb1
   exact ⟨nofun,.inl ⟨q12,rfl,hF.sub ⟨rfl,trivial⟩,hS.mask [true,false],h12,h12n⟩⟩
  ·have hb1:=cond_t hc2 hb1
   refine q_cond_t hF rfl hc2 (q_skipc (n_sq (q_seq (q_block (q_seq (q_region (q_x (v:=(iV t_13)) hF hS (ex_move rfl) rfl rfl fun a hF=>q_x (v:=(iV t_13)) hF hS (ex_assign rfl) rfl rfl fun a hF=>q_end (n_sq (q_seq (q_region (q_x (v:=s10.v) hF hS (ex_move rfl) rfl rfl fun a hF=>q_x (v:=(iV t_13)) hF hS (ex_move rfl) rfl rfl fun a hF=>?_)))))))))))
   obtain ⟨e_14,he_14,hb1⟩:=bindS hb1
   obtain ⟨s15,hV15⟩:=h12.view he_14
   refine q_x (v:=(elP s10 (t_13.toNat * 1))) hF hS (ex_indexAddr Try.underlying23 sz28 rfl rfl (h12.idx he_14)) rfl rfl fun a hF=>q_x (v:=s15.v) hF hS (ex_loadE1 0 Try.underlying28 rfl rfl ((hV15.atH he_14).at 0 rfl) rfl rfl) rfl rfl fun a hF=>q_x (v:=(iV (goLen e_14))) hF hS (ex_len Try.underlying28 rfl (hV15.len he_14)) rfl rfl fun a hF=>q_x (v:=(iV 0)) hF hS (ex_move rfl) rfl rfl fun a hF=>q_end (n_sq (q_block ?_))
   obtain ⟨out_36,hl3,hb1⟩:=bindS hb1
   refine q_loop (fun (s : (List (List Int)) × Int) a w=>∃ (q17 : Piece),∃ out_16,∃ t_18,s = (out_16,t_18)∧Fr a 69 [(2,s6.v),(3,(iV p_fixed)),(4,(.pointer (some ⟨b7,0,none⟩))),(9,(iV (goLen p_t.Rows))),(10,(iV (goLen p_t.Cols))),(11,s10.v),(12,(iV t_13)),(23,(iV (goLen t_8))),(24,(iV t_13)),(31,(iV (goLen e_14))),(32,(iV t_18))]∧St [] w0 w m [q17,[⟨b7,[s1.v,s2.v,s3.v,s4.v],50⟩]]∧OwnD m 28 3 q17 s10 out_16∧NF s10 out_16) (fun (out_36 : (List (List Int))) e a w=>∃ (q37 : Piece),e = .exit 2∧Fr a 69 [(2,s6.v),(3,(iV p_fixed)),(4,(.pointer (some ⟨b7,0,none⟩))),(9,(iV (goLen p_t.Rows))),(10,(iV (goLen p_t.Cols))),(11,s10.v),(23,(iV (goLen t_8))),(24,(iV t_13))]∧St [] w0 w m [q37,[⟨b7,[s1.v,s2.v,s3.v,s4.v],50⟩]]∧OwnD m 28 3 q37 s10 out_36∧NF s10 out_36) hl3 ⟨q12,_,_,rfl,hF.sub ⟨rfl,rfl,rfl,rfl,rfl,rfl,rfl,rfl,rfl,rfl,rfl,trivial⟩,hS,h12,h12n⟩ ?_ ?_
   ·clear hF hS
    rintro s a w st ⟨q17,out_16,t_18,rfl,hF,hS,h17,h17n⟩ hb3
    unfold impl_restore_l2 at hb3
    refine q_seq (q_region (q_x (v:=(.bool (decide (t_18 < (goLen e_14))))) hF hS (ex_ibin rfl rfl rfl) rfl rfl fun a hF=>q_end (n_sq (q_seq ?_))))
    rcases bcase (decide (t_18 < (goLen e_14))) with hc4 | hc4
    ·have hb3:=cond_f hc4 hb3
     refine q_cond_f hF rfl hc4 (q_exit (x_sq ?_))
     obtain rfl:=someI hb3
     exact ⟨nofun,.inl ⟨q17,rfl,hF.sub ⟨rfl,rfl,rfl,rfl,rfl,rfl,rfl,rfl,trivial⟩,hS,h17,h17n⟩⟩
    ·have hb3:=cond_t hc4 hb3
     refine q_cond_t hF rfl hc4 (q_skipc (n_sq (q_seq (q_block (q_seq (q_region (q_x (v:=(iV t_18)) hF hS (ex_move rfl) rfl rfl fun a hF=>q_x (v:=(iV t_18)) hF hS (ex_assign rfl) rfl rfl fun a hF=>q_end (n_sq (q_seq (q_region (q_x (v:=(iV t_13)) hF hS (ex_move rfl) rfl rfl fun a hF=>q_x (v:=(iV (goLen p_t.Cols))) hF hS (ex_move rfl) rfl rfl fun a hF=>q_x (v:=(iV (w64 (t_13 * (goLen p_t.Cols))))) hF hS (ex_ibin rfl rfl rfl) rfl rfl fun a hF=>q_x (v:=(iV t_18)) hF hS (ex_move rfl) rfl rfl fun a hF=>q_x (v:=(iV (w64 ((w64 (t_13 * (goLen p_t.Cols))) + t_18)))) hF hS (ex_ibin rfl rfl rfl) rfl rfl fun a hF=>q_x (v:=(iV p_fixed)) hF hS (ex_move rfl) rfl rfl fun a hF=>q_x (v:=(.bool (decide (p_fixed < (w64 ((w64 (t_13 * (goLen p_t.Cols))) + t_18)))))) hF hS (ex_ibin rfl rfl rfl) rfl rfl fun a hF=>q_end (n_sq ?_))))))))))))
     obtain ⟨out_34,hj5,hb3⟩:=bindS hb3
     refine q_join (fun a w=>∃ (q35 : Piece),Fr a 69 [(2,s6.v),(3,(iV p_fixed)),(4,(.pointer (some ⟨b7,0,none⟩))),(9,(iV (goLen p_t.Rows))),(10,(iV (goLen p_t.Cols))),(11,s10.v),(12,(iV t_13)),(23,(iV (goLen t_8))),(24,(iV t_13)),(31,(iV (goLen e_14))),(32,(iV t_18))]∧St [] w0 w m [q35,[⟨b7,[s1.v,s2.v,s3.v,s4.v],50⟩]]∧OwnD m 28 3 q35 s10 out_34∧NF s10 out_34) ?_ ?_
     ·rcases bcase (decide (p_fixed < (w64 ((w64 (t_13 * (goLen p_t.Cols))) + t_18)))) with hc6 | hc6
      ·have hj5:=cond_f hc6 hj5
       refine q_cond_f hF rfl hc6 (q_skipc (n_jn ?_))
       obtain rfl:=someI hj5
       exact ⟨q17,hF.sub ⟨rfl,rfl,rfl,rfl,rfl,rfl,rfl,rfl,rfl,rfl,rfl,trivial⟩,hS,h17,h17n⟩
      ·have hj5:=cond_t hc6 hj5
       refine q_cond_t hF rfl hc6 (e_region ⟨[24],[b7],m⟩ mixed fun w' hw'=>?_)
       have hS:=hS.below hw'
       refine e_p (v:=s10.v) 0 hF rfl (ex_move rfl) rfl rfl (by kernel_rfl) (by kernel_rfl) (by kernel_rfl) fun a hF=>e_p (v:=(iV t_13)) 1 hF rfl (ex_move rfl) rfl rfl (by kernel_rfl) (by kernel_rfl) (by kernel_rfl) fun a hF=>?_
       obtain ⟨e_19,he_19,hj5⟩:=bindS hj5
       obtain ⟨s20,hV20⟩:=h17.view he_19
       refine e_p (v:=(elP s10 (t_13.toNat * 1))) 2 hF rfl (ex_indexAddr Try.underlying23 sz28 rfl rfl (h17.idx he_19)) rfl rfl (by kernel_rfl) (by kernel_rfl) (by kernel_rfl) fun a hF=>e_x (v:=s20.v) 3 hF hS rfl (ex_loadE1 0 Try.underlying28 rfl rfl ((hV20.atH he_19).at 0 rfl) rfl rfl) rfl rfl (by kernel_rfl) (by kernel_rfl) (by kernel_rfl) (by kernel_rfl) fun a hF=>e_p (v:=(iV t_18)) 4 hF rfl (ex_move rfl) rfl rfl (by kernel_rfl) (by kernel_rfl) (by kernel_rfl) fun a hF=>e_p (v:=(.pointer (some ⟨b7,3,none⟩))) 5 hF rfl (ex_fieldAddr Try.underlying50 rfl sz23 rfl rfl) rfl rfl (by kernel_rfl) (by kernel_rfl) (by kernel_rfl) fun a hF=>e_xb (v:=s4.v) 6 1 hF hS (.head _) rfl rfl (ex_load1 0 0 Try.underlying23 rfl rfl rfl rfl) rfl rfl (by kernel_rfl) (by kernel_rfl) (by kernel_rfl) fun a hF=>e_p (v:=(iV t_13)) 7 hF rfl (ex_move rfl) rfl rfl (by kernel_rfl) (by kernel_rfl) (by kernel_rfl) fun a hF=>?_
       obtain ⟨e_21,he_21,hj5⟩:=bindS hj5
       obtain ⟨vs22,at22,d22⟩:=h4.at he_21 1 rfl
       obtain ⟨s23,rfl,h23⟩ : ∃ s23 : Sl,vs22 = [s23.v]∧Rd m s23 e_21:=d22
       refine e_p (v:=(elP s4 (t_13.toNat * 1))) 8 hF rfl (ex_indexAddr Try.underlying23 sz28 rfl rfl (h4.idx he_21)) rfl rfl (by kernel_rfl) (by kernel_rfl) (by kernel_rfl) fun a hF=>e_xm (v:=s23.v) 9 hF hS (Mem.le.refl _) rfl (ex_loadE1 0 Try.underlying28 rfl rfl ((at22).at) rfl rfl) rfl rfl (by kernel_rfl) (by kernel_rfl) (by kernel_rfl) fun a hF=>e_p (v:=(iV t_18)) 10 hF rfl (ex_move rfl) rfl rfl (by kernel_rfl) (by kernel_rfl) (by kernel_rfl) fun a hF=>?_
       obtain ⟨e_24,he_24,hj5⟩:=bindS hj5
       obtain ⟨vs25,at25,d25⟩:=h23.at he_24 1 rfl
       obtain rfl : vs25 = [(iV e_24)]:=d25
       refine e_p (v:=(elP s23 (t_18.toNat * 1))) 11 hF rfl (ex_indexAddr Try.underlying28 sz3 rfl rfl (h23.idx he_24)) rfl rfl (by kernel_rfl) (by kernel_rfl) (by kernel_rfl) fun a hF=>e_xm (v:=(iV e_24)) 12 hF hS (Mem.le.refl _) rfl (ex_loadE1 0 Try.underlying3 rfl rfl ((at25).at) rfl rfl) rfl rfl (by kernel_rfl) (by kernel_rfl) (by kernel_rfl) fun a hF=>e_p (v:=s6.v) 13 hF rfl (ex_move rfl) rfl rfl (by kernel_rfl) (by kernel_rfl) (by kernel_rfl) fun a hF=>e_p (v:=(iV t_13)) 14 hF rfl (ex_move rfl) rfl rfl (by kernel_rfl) (by kernel_rfl) (by kernel_rfl) fun a hF=>?_
       obtain ⟨e_26,he_26,hj5⟩:=bindS hj5
       obtain ⟨vs27,at27,d27⟩:=h6.at he_26 1 rfl
       obtain ⟨s28,rfl,h28⟩ : ∃ s28 : Sl,vs27 = [s28.v]∧Rd m s28 e_26:=d27
       refine e_p (v:=(elP s6 (t_13.toNat * 1))) 15 hF rfl (ex_indexAddr Try.underlying23 sz28 rfl rfl (h6.idx he_26)) rfl rfl (by kernel_rfl) (by kernel_rfl) (by kernel_rfl) fun a hF=>e_xm (v:=s28.v) 16 hF hS (Mem.le.refl _) rfl (ex_loadE1 0 Try.underlying28 rfl rfl ((at27).at) rfl rfl) rfl rfl (by kernel_rfl) (by kernel_rfl) (by kernel_rfl) fun a hF=>e_p (v:=(iV (goLen p_t.Rows))) 17 hF rfl (ex_move rfl) rfl rfl (by kernel_rfl) (by kernel_rfl) (by kernel_rfl) fun a hF=>e_p (v:=(iV t_18)) 18 hF rfl (ex_move rfl) rfl rfl (by kernel_rfl) (by kernel_rfl) (by kernel_rfl) fun a hF=>e_p (v:=(iV (w64 ((goLen p_t.Rows) + t_18)))) 19 hF rfl (ex_ibin rfl rfl rfl) rfl rfl (by kernel_rfl) (by kernel_rfl) (by kernel_rfl) fun a hF=>?_
       obtain ⟨e_29,he_29,hj5⟩:=bindS hj5
       obtain ⟨vs30,at30,d30⟩:=h28.at he_29 1 rfl
       obtain rfl : vs30 = [(iV e_29)]:=d30
       refine e_p (v:=(elP s28 ((w64 ((goLen p_t.Rows) + t_18)).toNat * 1))) 20 hF rfl (ex_indexAddr Try.underlying28 sz3 rfl rfl (h28.idx he_29)) rfl rfl (by kernel_rfl) (by kernel_rfl) (by kernel_rfl) fun a hF=>e_xm (v:=(iV e_29)) 21 hF hS (Mem.le.refl _) rfl (ex_loadE1 0 Try.underlying3 rfl rfl ((at30).at) rfl rfl) rfl rfl (by kernel_rfl) (by kernel_rfl) (by kernel_rfl) fun a hF=>e_p (v:=(iV (w64 (e_24 - e_29)))) 22 hF rfl (ex_ibin rfl rfl rfl) rfl rfl (by kernel_rfl) (by kernel_rfl) (by kernel_rfl) fun a hF=>?_
       obtain ⟨e_31,he_31,hj5⟩:=bindS hj5
       obtain ⟨vs32,at32,d32⟩:=hV20.at he_19 he_31 1 rfl
       obtain rfl : vs32 = [(iV e_31)]:=d32
       refine e_p (v:=(elP s20 (t_18.toNat * 1))) 23 hF rfl (ex_indexAddr Try.underlying28 sz3 rfl rfl (hV20.idx he_19 he_31)) rfl rfl (by kernel_rfl) (by kernel_rfl) (by kernel_rfl) fun a hF=>e_one 24 (by kernel_rfl) ?_
       have hSo:=hS
       refine e_opl rfl rfl rfl fun _ hK=>wp_storeV (e':=(w64 (e_24 - e_29))) (us:=[(iV (w64 (e_24 - e_29)))]) (vs:=[(iV e_31)]) 0 hF hS hV20 he_19 sz3 rfl rfl rfl rfl rfl rfl rfl he_31 at32 rfl rfl rfl fun w q33 hS h33=>hK _ _ (⟨⟨kpC hSo hS 1 1 rfl rfl kpN,fun _=>hS.vis.of_le (Mem.le.refl _)⟩,?_⟩)
       refine e_end (by kernel_rfl) (n_jn ?_) _
       obtain rfl:=someI hj5
       exact ⟨q33,hF.sub ⟨rfl,rfl,rfl,rfl,rfl,rfl,rfl,rfl,rfl,rfl,rfl,trivial⟩,hS,h33.own,(NF.set h17n)⟩
     ·rintro a w ⟨q35,hF,hS,h35,h35n⟩
      refine n_ib (n_sq ?_)
      refine q_region (q_x (v:=(iV (w64 (t_18 + 1)))) hF hS (ex_ibin rfl rfl rfl) rfl rfl fun a hF=>q_x (v:=(iV (w64 (t_18 + 1)))) hF hS (ex_move rfl) rfl rfl fun a hF=>q_end ?_)
      obtain rfl:=someI hb3
      exact ⟨rfl,q35,_,_,rfl,hF.sub ⟨rfl,rfl,rfl,rfl,rfl,rfl,rfl,rfl,rfl,rfl,rfl,trivial⟩,hS,h35,h35n⟩
   ·rintro e a w ⟨q37,rfl,hF,hS,h37,h37n⟩
    refine x_ib (n_ib (n_sq ?_))
    refine q_region (q_x (v:=(iV (w64 (t_13 + 1)))) hF hS (ex_ibin rfl rfl rfl) rfl rfl fun a hF=>q_x (v:=(iV (w64 (t_13 + 1)))) hF hS (ex_move rfl) rfl rfl fun a hF=>q_end ?_)
    obtain rfl:=someI hb1
    exact ⟨rfl,q37,_,_,rfl,hF.sub ⟨rfl,rfl,rfl,rfl,rfl,rfl,rfl,rfl,trivial⟩,hS,h37,h37n⟩
 ·rintro e a w ⟨q39,rfl,hF,hS,h39,h39n⟩
  refine x_ib (n_sq ?_)
  refine q_seq (q_region (q_x (v:=s10.v) hF hS (ex_move rfl) rfl rfl fun a hF=>q_x (v:=s10.v) hF hS (ex_assign rfl) rfl rfl fun a hF=>q_end (n_sq (q_ret ?_))))
  obtain rfl:=someI hr
  exact ret_of hF hS rfl (.tmp rfl .nil) ⟨q39,s10,rfl,hS.sel [0] (by decide),h39,h39n⟩

theorem c_impl_fill (p_t : impl_Transport) (r : (List (List Int))) (hr : impl_fill p_t = some r) (w0 : World) (m : Mem) (hv : Vis m w0) (s1 : Sl) (h1 : Rd m s1 p_t.Rows) (s2 : Sl) (h2 : Rd m s2 p_t.Cols) (s3 : Sl) (h3 : Rd m s3 p_t.Lo) (s4 : Sl) (h4 : Rd m s4 p_t.Hi) :
  Ret Try.prog 168 [(.agg #[s1.v,s2.v,s3.v,s4.v])] w0 (fun v w=>∃ (q0' : Piece) (s0' : Sl),v = s0'.v∧St [] w0 w m [q0']∧OwnD m 28 3 q0' s0' r∧NF s0' r):=by
 unfold impl_fill at hr
 refine ret_start Try.func168 rfl 141 rfl rfl m hv fun a hF hS=>q_seq (q_region (q_box (cs:=[s1.v,s2.v,s3.v,s4.v]) hF hS rfl rfl rfl fun a w b5 hF hS=>q_x (v:=nilS.v) hF hS (ex_assign rfl) rfl rfl fun a hF=>q_end (n_sq (q_seq (e_region ⟨[],[],m⟩ mixed fun w' hw'=>?_)))))
 have hS:=hS.below hw'
 refine e_p (v:=(.pointer (some ⟨b5,0,none⟩))) 0 hF rfl (ex_fieldAddr Try.underlying50 rfl sz28 rfl rfl) rfl rfl (by kernel_rfl) (by kernel_rfl) (by kernel_rfl) fun a hF=>e_x (v:=s1.v) 1 hF hS rfl (ex_load1 0 0 Try.underlying28 rfl rfl rfl rfl) rfl rfl (by kernel_rfl) (by kernel_rfl) (by kernel_rfl) (by kernel_rfl) fun a hF=>e_p (v:=(iV (goLen p_t.Rows))) 2 hF rfl (ex_len Try.underlying28 rfl h1.len) rfl rfl (by kernel_rfl) (by kernel_rfl) (by kernel_rfl) fun a hF=>e_p (v:=(.pointer (some ⟨b5,1,none⟩))) 3 hF rfl (ex_fieldAddr Try.underlying50 rfl sz28 rfl rfl) rfl rfl (by kernel_rfl) (by kernel_rfl) (by kernel_rfl) fun a hF=>e_x (v:=s2.v) 4 hF hS rfl (ex_load1 0 0 Try.underlying28 rfl rfl rfl rfl) rfl rfl (by kernel_rfl) (by kernel_rfl) (by kernel_rfl) (by kernel_rfl) fun a hF=>e_p (v:=(iV (goLen p_t.Cols))) 5 hF rfl (ex_len Try.underlying28 rfl h2.len) rfl rfl (by kernel_rfl) (by kernel_rfl) (by kernel_rfl) fun a hF=>e_p (v:=(iV (goLen p_t.Rows))) 6 hF rfl (ex_assign rfl) rfl rfl (by kernel_rfl) (by kernel_rfl) (by kernel_rfl) fun a hF=>e_p (v:=(iV (goLen p_t.Cols))) 7 hF rfl (ex_assign rfl) rfl rfl (by kernel_rfl) (by kernel_rfl) (by kernel_rfl) fun a hF=>e_end (by kernel_rfl) (n_sq ?_) _
 refine q_seq (q_region (q_x (v:=(.agg #[s1.v,s2.v,s3.v,s4.v])) hF hS (ex_loadA (vs:=[s1.v,s2.v,s3.v,s4.v]) 0 0 Try.underlying50 rfl sz50 rfl rfl rfl rfl) rfl rfl fun a hF=>q_x (v:=(.pointer (some ⟨b5,2,none⟩))) hF hS (ex_fieldAddr Try.underlying50 rfl sz23 rfl rfl) rfl rfl fun a hF=>q_x (v:=s3.v) hF hS (ex_load1 0 0 Try.underlying23 rfl rfl rfl rfl) rfl rfl fun a hF=>?_))
 obtain ⟨t_6,ht_6,hr⟩:=bindS hr
 refine q_call (vs:=[(.agg #[s1.v,s2.v,s3.v,s4.v]),s3.v,(iV (-1))]) hF hS Try.func155 (by kernel_rfl) rfl rfl rfl (c_impl_residual p_t p_t.Lo (-1) t_6 ht_6 _ m hS.vis s1 h1 s2 h2 s3 h3 s4 h4 s3 h3) ?_
 rintro a w _ ⟨q8,s8,rfl,hR7,h8⟩ hF hS2
 have hS : St _ _ _ _ [q8,[⟨b5,[s1.v,s2.v,s3.v,s4.v],50⟩]]:=hS.joinF hR7
 refine q_x (v:=s8.v) hF hS (ex_assign rfl) rfl rfl fun a hF=>q_end (n_sq (q_seq (q_region (q_x (v:=(iV (goLen p_t.Rows))) hF hS (ex_move rfl) rfl rfl fun a hF=>q_x (v:=(iV (goLen p_t.Cols))) hF hS (ex_move rfl) rfl rfl fun a hF=>q_x (v:=(iV (w64 ((goLen p_t.Rows) + (goLen p_t.Cols))))) hF hS (ex_ibin rfl rfl rfl) rfl rfl fun a hF=>q_x (v:=(iV (w64 ((w64 ((goLen p_t.Rows) + (goLen p_t.Cols))) + 2)))) hF hS (ex_ibin rfl rfl rfl) rfl rfl fun a hF=>?_))))
 obtain ⟨l_9,hl_9,hr⟩:=bindS hr
 refine q_do rfl fun _ hK=>wp_makeD (Ei:=3) hF hS Try.underlying23 inf28 rfl rfl rfl (by decide) hl_9 rfl fun a w q10 s10 hF hS h10 _=>hK _ _ (q_x (v:=s10.v) hF hS (ex_assign rfl) rfl rfl fun a hF=>q_end (n_sq (q_seq (q_seq (q_region (q_x (v:=s10.v) hF hS (ex_move rfl) rfl rfl fun a hF=>q_x (v:=(iV (goLen l_9))) hF hS (ex_len Try.underlying23 rfl h10.len) rfl rfl fun a hF=>q_x (v:=(iV 0)) hF hS (ex_move rfl) rfl rfl fun a hF=>q_end (n_sq (q_block ?_))))))))
 obtain ⟨r_27,hl1,hr⟩:=bindS hr
 refine q_loop (fun (s : (List (List Int)) × Int) a w=>∃ (q12 : Piece),∃ r_11,∃ t_13,s = (r_11,t_13)∧Fr a 141 [(1,(.pointer (some ⟨b5,0,none⟩))),(3,(iV (goLen p_t.Rows))),(4,(iV (goLen p_t.Cols))),(5,s8.v),(6,s10.v),(30,(iV (goLen l_9))),(31,(iV t_13))]∧St [] w0 w m [q12,q8,[⟨b5,[s1.v,s2.v,s3.v,s4.v],50⟩]]∧OwnD m 28 3 q12 s10 r_11) (fun (r_27 : (List (List Int))) e a w=>∃ (q28 : Piece),e = .exit 0∧Fr a 141 [(1,(.pointer (some ⟨b5,0,none⟩))),(3,(iV (goLen p_t.Rows))),(4,(iV (goLen p_t.Cols))),(6,s10.v)]∧St [] w0 w m [q28,[⟨b5,[s1.v,s2.v,s3.v,s4.v],50⟩]]∧OwnD m 28 3 q28 s10 r_27) hl1 ⟨q10,_,_,rfl,hF.sub ⟨rfl,rfl,rfl,rfl,rfl,rfl,rfl,trivial⟩,hS,h10⟩ ?_ ?_
 ·clear hF hS
  rintro s a w st ⟨q12,r_11,t_13,rfl,hF,hS,h12⟩ hb1
  unfold impl_fill_l1 at hb1
  refine q_seq (q_region (q_x (v:=(.bool (decide (t_13 < (goLen l_9))))) hF hS (ex_ibin rfl rfl rfl) rfl rfl fun a hF=>q_end (n_sq (q_seq ?_))))
  rcases bcase (decide (t_13 < (goLen l_9))) with hc2 | hc2
  ·have hb1:=cond_f hc2 hb1
   refine q_cond_f hF rfl hc2 (q_exit (x_sq ?_))
   obtain rfl:=someI hb1
   exact ⟨nofun,.inl ⟨q12,rfl,hF.sub ⟨rfl,rfl,rfl,rfl,trivial⟩,hS.mask [true,false,true],h12⟩⟩
  ·have hb1:=cond_t hc2 hb1
   refine q_cond_t hF rfl hc2 (q_skipc (n_sq (q_seq (q_block (q_seq (q_region (q_x (v:=(iV t_13)) hF hS (ex_move rfl) rfl rfl fun a hF=>q_x (v:=(iV t_13)) hF hS (ex_assign rfl) rfl rfl fun a hF=>q_end (n_sq (q_seq (q_region (q_x (v:=s10.v) hF hS (ex_move rfl) rfl rfl fun a hF=>q_x (v:=(iV t_13)) hF hS (ex_move rfl) rfl rfl fun a hF=>q_x (v:=(iV (goLen p_t.Rows))) hF hS (ex_move rfl) rfl rfl fun a hF=>q_x (v:=(iV (goLen p_t.Cols))) hF hS (ex_move rfl) rfl rfl fun a hF=>q_x (v:=(iV (w64 ((goLen p_t.Rows) + (goLen p_t.Cols))))) hF hS (ex_ibin rfl rfl rfl) rfl rfl fun a hF=>q_x (v:=(iV (w64 ((w64 ((goLen p_t.Rows) + (goLen p_t.Cols))) + 2)))) hF hS (ex_ibin rfl rfl rfl) rfl rfl fun a hF=>?_)))))))))))
   obtain ⟨l_14,hl_14,hb1⟩:=bindS hb1
   refine q_do rfl fun _ hK=>wp_make (z:=(0 : Int)) hF hS Try.underlying28 inf3 rfl rfl rfl rfl rfl (by decide) hl_14 rfl fun a w q15 s15 hF hS h15 _=>hK _ _ ?_
   obtain ⟨e_16,he_16,hb1⟩:=bindS hb1
   obtain ⟨s17,hV17⟩:=h12.view he_16
   refine q_x (v:=(elP s10 (t_13.toNat * 1))) hF hS (ex_indexAddr Try.underlying23 sz28 rfl rfl (h12.idx he_16)) rfl rfl fun a hF=>?_
   have hS : St _ _ _ _ [q12,q15,q8,[⟨b5,[s1.v,s2.v,s3.v,s4.v],50⟩]]:=hS.sel [1,0,2,3] (by decide)
   refine q_do rfl fun _ hK=>wp_storeD hF hS h12 h15 sz28 rfl rfl he_16 rfl fun w q18 hS h18=>hK _ _ (q_end (n_sq (q_seq (q_region (q_x (v:=(iV t_13)) hF hS (ex_move rfl) rfl rfl fun a hF=>q_x (v:=(iV (goLen p_t.Rows))) hF hS (ex_move rfl) rfl rfl fun a hF=>q_x (v:=(iV (goLen p_t.Cols))) hF hS (ex_move rfl) rfl rfl fun a hF=>q_x (v:=(iV (w64 ((goLen p_t.Rows) + (goLen p_t.Cols))))) hF hS (ex_ibin rfl rfl rfl) rfl rfl fun a hF=>q_x (v:=(.bool (decide (t_13 < (w64 ((goLen p_t.Rows) + (goLen p_t.Cols))))))) hF hS (ex_ibin rfl rfl rfl) rfl rfl fun a hF=>q_end (n_sq ?_))))))
   obtain ⟨r_25,hj3,hb1⟩:=bindS hb1
   refine q_join (fun a w=>∃ (q26 : Piece),Fr a 141 [(1,(.pointer (some ⟨b5,0,none⟩))),(3,(iV (goLen p_t.Rows))),(4,(iV (goLen p_t.Cols))),(5,s8.v),(6,s10.v),(30,(iV (goLen l_9))),(31,(iV t_13))]∧St [] w0 w m [q8,q26,[⟨b5,[s1.v,s2.v,s3.v,s4.v],50⟩]]∧OwnD m 28 3 q26 s10 r_25) ?_ ?_
   ·rcases bcase (decide (t_13 < (w64 ((goLen p_t.Rows) + (goLen p_t.Cols))))) with hc4 | hc4
    ·have hj3:=cond_f hc4 hj3
     refine q_cond_f hF rfl hc4 (q_skipc (n_jn ?_))
     obtain rfl:=someI hj3
     exact ⟨q18,hF.sub ⟨rfl,rfl,rfl,rfl,rfl,rfl,rfl,trivial⟩,hS.sel [1,0,2] (by decide),h18⟩
    ·have hj3:=cond_t hc4 hj3
     refine q_cond_t hF rfl hc4 (e_region ⟨[8],[],m⟩ mixed fun w' hw'=>?_)
     have hS:=hS.below hw'
     refine e_p (v:=s10.v) 0 hF rfl (ex_move rfl) rfl rfl (by kernel_rfl) (by kernel_rfl) (by kernel_rfl) fun a hF=>e_p (v:=(iV t_13)) 1 hF rfl (ex_move rfl) rfl rfl (by kernel_rfl) (by kernel_rfl) (by kernel_rfl) fun a hF=>?_
     obtain ⟨e_19,he_19,hj3⟩:=bindS hj3
     obtain ⟨s20,hV20⟩:=h18.view he_19
     refine e_p (v:=(elP s10 (t_13.toNat * 1))) 2 hF rfl (ex_indexAddr Try.underlying23 sz28 rfl rfl (h18.idx he_19)) rfl rfl (by kernel_rfl) (by kernel_rfl) (by kernel_rfl) fun a hF=>e_x (v:=s20.v) 3 hF hS rfl (ex_loadE1 0 Try.underlying28 rfl rfl ((hV20.atH he_19).at 0 rfl) rfl rfl) rfl rfl (by kernel_rfl) (by kernel_rfl) (by kernel_rfl) (by kernel_rfl) fun a hF=>e_p (v:=s8.v) 4 hF rfl (ex_move rfl) rfl rfl (by kernel_rfl) (by kernel_rfl) (by kernel_rfl) fun a hF=>e_p (v:=(iV t_13)) 5 hF rfl (ex_move rfl) rfl rfl (by kernel_rfl) (by kernel_rfl) (by kernel_rfl) fun a hF=>?_
     obtain ⟨e_21,he_21,hj3⟩:=bindS hj3
     obtain ⟨s22,hV22⟩:=h8.view he_21
     refine e_p (v:=(elP s8 (t_13.toNat * 1))) 6 hF rfl (ex_indexAddr Try.underlying23 sz28 rfl rfl (h8.idx he_21)) rfl rfl (by kernel_rfl) (by kernel_rfl) (by kernel_rfl) fun a hF=>e_x (v:=s22.v) 7 hF hS rfl (ex_loadE1 0 Try.underlying28 rfl rfl ((hV22.atH he_21).at 1 rfl) rfl rfl) rfl rfl (by kernel_rfl) (by kernel_rfl) (by kernel_rfl) (by kernel_rfl) fun a hF=>e_one 8 (by kernel_rfl) ?_
     obtain ⟨l_23,hl_23,hj3⟩:=bindS hj3
     refine e_opl rfl rfl rfl fun _ hK=>wp_copyV hF hS hV20 he_19 Try.underlying28 sz3 rfl rfl (hV22.vw he_21 hS (j:=1) rfl) hl_23 rfl fun a w q24 hF hS h24=>hK _ _ (⟨⟨kpN,fun _=>hS.vis.of_le (Mem.le.refl _)⟩,?_⟩)
     refine e_end (by kernel_rfl) (n_jn ?_) _
     obtain rfl:=someI hj3
     exact ⟨q24,hF.sub ⟨rfl,rfl,rfl,rfl,rfl,rfl,rfl,trivial⟩,hS.sel [1,0,2] (by decide),h24.own⟩
   ·rintro a w ⟨q26,hF,hS,h26⟩
    refine n_ib (n_sq ?_)
    refine q_region (q_x (v:=(iV (w64 (t_13 + 1)))) hF hS (ex_ibin rfl rfl rfl) rfl rfl fun a hF=>q_x (v:=(iV (w64 (t_13 + 1)))) hF hS (ex_move rfl) rfl rfl fun a hF=>q_end ?_)
    obtain rfl:=someI hb1
    exact ⟨rfl,q26,_,_,rfl,hF.sub ⟨rfl,rfl,rfl,rfl,rfl,rfl,rfl,trivial⟩,hS.sel [1,0,2] (by decide),h26⟩
 ·rintro e a w ⟨q28,rfl,hF,hS,h28⟩
  refine x_ib (n_sq ?_)
  refine q_seq (e_region ⟨[],[],m⟩ mixed fun w' hw'=>?_)
  have hS:=hS.below hw'
  refine e_p (v:=(.pointer (some ⟨b5,2,none⟩))) 0 hF rfl (ex_fieldAddr Try.underlying50 rfl sz23 rfl rfl) rfl rfl (by kernel_rfl) (by kernel_rfl) (by kernel_rfl) fun a hF=>e_x (v:=s3.v) 1 hF hS rfl (ex_load1 1 0 Try.underlying23 rfl rfl rfl rfl) rfl rfl (by kernel_rfl) (by kernel_rfl) (by kernel_rfl) (by kernel_rfl) fun a hF=>e_p (v:=(.pointer (some ⟨b5,2,none⟩))) 3 hF rfl (ex_fieldAddr Try.underlying50 rfl sz23 rfl rfl) rfl rfl (by kernel_rfl) (by kernel_rfl) (by kernel_rfl) fun a hF=>e_x (v:=s3.v) 4 hF hS rfl (ex_load1 1 0 Try.underlying23 rfl rfl rfl rfl) rfl rfl (by kernel_rfl) (by kernel_rfl) (by kernel_rfl) (by kernel_rfl) fun a hF=>e_one 2 (by kernel_rfl) ?_
  obtain ⟨t_35,ht_35,hr⟩:=bindS hr
  refine e_call (vs:=[s3.v]) hF hS rfl Try.func104 (by kernel_rfl) rfl rfl rfl (c_impl_rowSums p_t.Lo t_35 ht_35 _ m hS.vis s3 h3) ?_
  rintro a w _ ⟨q37,s37,rfl,hR36,h37⟩ hF hS2
  have hS : St _ _ _ _ [q37,q28,[⟨b5,[s1.v,s2.v,s3.v,s4.v],50⟩]]:=hS.joinF hR36
  refine e_one 5 (by kernel_rfl) ?_
  obtain ⟨t_38,ht_38,hr⟩:=bindS hr
  refine e_call (vs:=[s3.v]) hF hS rfl Try.func105 (by kernel_rfl) rfl rfl rfl (c_impl_colSums p_t.Lo t_38 ht_38 _ m hS.vis s3 h3) ?_
  rintro a w _ ⟨q40,s40,rfl,hR39,h40⟩ hF hS2
  have hS : St _ _ _ _ [q40,q37,q28,[⟨b5,[s1.v,s2.v,s3.v,s4.v],50⟩]]:=hS.joinF hR39
  refine e_p (v:=s37.v) 6 hF rfl (ex_assign rfl) rfl rfl (by kernel_rfl) (by kernel_rfl) (by kernel_rfl) fun a hF=>e_p (v:=s40.v) 7 hF rfl (ex_assign rfl) rfl rfl (by kernel_rfl) (by kernel_rfl) (by kernel_rfl) fun a hF=>e_end (by kernel_rfl) (n_sq ?_) _
  refine q_seq (q_seq (q_region (q_x (v:=(.pointer (some ⟨b5,0,none⟩))) hF hS (ex_fieldAddr Try.underlying50 rfl sz28 rfl rfl) rfl rfl fun a hF=>q_x (v:=s1.v) hF hS (ex_load1 3 0 Try.underlying28 rfl rfl rfl rfl) rfl rfl fun a hF=>q_x (v:=(iV (goLen p_t.Rows))) hF hS (ex_len Try.underlying28 rfl h1.len) rfl rfl fun a hF=>q_x (v:=(iV 0)) hF hS (ex_move rfl) rfl rfl fun a hF=>q_end (n_sq (q_block ?_)))))
  obtain ⟨o5,hl5,hr⟩:=bindS hr
  refine q_loop (fun (s : (List (List Int)) × Int) a w=>∃ (q42 : Piece),∃ r_41,∃ t_43,s = (r_41,t_43)∧Fr a 141 [(1,(.pointer (some ⟨b5,0,none⟩))),(3,(iV (goLen p_t.Rows))),(4,(iV (goLen p_t.Cols))),(6,s10.v),(8,s37.v),(9,s40.v),(64,s1.v),(65,(iV (goLen p_t.Rows))),(66,(iV t_43))]∧St [] w0 w m [q42,q40,q37,[⟨b5,[s1.v,s2.v,s3.v,s4.v],50⟩]]∧OwnD m 28 3 q42 s10 r_41) (fun (o : ((List (List Int))) ⊕ ((List (List Int)))) e a w=>∃ (q56 : Piece),∃ r_55,o = .inl r_55∧e = .exit 2∧Fr a 141 [(1,(.pointer (some ⟨b5,0,none⟩))),(3,(iV (goLen p_t.Rows))),(4,(iV (goLen p_t.Cols))),(6,s10.v),(9,s40.v)]∧St [] w0 w m [q56,q40,[⟨b5,[s1.v,s2.v,s3.v,s4.v],50⟩]]∧OwnD m 28 3 q56 s10 r_55) hl5 ⟨q28,_,_,rfl,hF.sub ⟨rfl,rfl,rfl,rfl,rfl,rfl,rfl,rfl,rfl,trivial⟩,hS.sel [2,0,1,3] (by decide),h28⟩ ?_ ?_
  ·clear hF hS
   rintro s a w st ⟨q42,r_41,t_43,rfl,hF,hS,h42⟩ hb5
   unfold impl_fill_l2 at hb5
   refine q_seq (q_region (q_x (v:=(.bool (decide (t_43 < (goLen p_t.Rows))))) hF hS (ex_ibin rfl rfl rfl) rfl rfl fun a hF=>q_end (n_sq (q_seq ?_))))
   rcases bcase (decide (t_43 < (goLen p_t.Rows))) with hc6 | hc6
   ·have hb5:=cond_f hc6 hb5
    refine q_cond_f hF rfl hc6 (q_exit (x_sq ?_))
    obtain rfl:=someI hb5
    exact ⟨nofun,.inl ⟨q42,_,rfl,rfl,hF.sub ⟨rfl,rfl,rfl,rfl,rfl,trivial⟩,hS.mask [true,true,false,true],h42⟩⟩
   ·have hb5:=cond_t hc6 hb5
    refine q_cond_t hF rfl hc6 (q_skipc (n_sq (q_seq (q_block (q_seq (q_region (q_x (v:=(iV t_43)) hF hS (ex_move rfl) rfl rfl fun a hF=>?_)))))))
    obtain ⟨e_44,he_44,hb5⟩:=bindS hb5
    obtain ⟨vs45,at45,d45⟩:=h1.at he_44 1 rfl
    obtain rfl : vs45 = [(iV e_44)]:=d45
    refine q_x (v:=(elP s1 (t_43.toNat * 1))) hF hS (ex_indexAddr Try.underlying28 sz3 rfl rfl (h1.idx he_44)) rfl rfl fun a hF=>q_x (v:=(iV e_44)) hF hS (ex_loadE1 0 Try.underlying3 rfl rfl ((at45).at) rfl rfl) rfl rfl fun a hF=>q_x (v:=(iV t_43)) hF hS (ex_assign rfl) rfl rfl fun a hF=>q_x (v:=(iV e_44)) hF hS (ex_assign rfl) rfl rfl fun a hF=>q_end (n_sq (q_seq (q_seq (q_region (q_x (v:=(iV e_44)) hF hS (ex_move rfl) rfl rfl fun a hF=>q_x (v:=s37.v) hF hS (ex_move rfl) rfl rfl fun a hF=>q_x (v:=(iV t_43)) hF hS (ex_move rfl) rfl rfl fun a hF=>?_)))))
    obtain ⟨e_46,he_46,hb5⟩:=bindS hb5
    obtain ⟨vs47,at47,d47⟩:=h37.at he_46 1 rfl
    obtain rfl : vs47 = [(iV e_46)]:=d47
    refine q_x (v:=(elP s37 (t_43.toNat * 1))) hF hS (ex_indexAddr Try.underlying28 sz3 rfl rfl (h37.idx he_46)) rfl rfl fun a hF=>q_x (v:=(iV e_46)) hF hS (ex_loadE1 0 Try.underlying3 rfl rfl (at47.at 2 rfl) rfl rfl) rfl rfl fun a hF=>q_x (v:=(.bool (decide (e_44 < e_46)))) hF hS (ex_ibin rfl rfl rfl) rfl rfl fun a hF=>q_end (n_sq ?_)
    rcases bcase (decide (e_44 < e_46)) with hc7 | hc7
    ·have hb5:=cond_f hc7 hb5
     refine q_cond_f hF rfl hc7 (q_skipc (n_sq (e_region ⟨[14],[],m⟩ mixed fun w' hw'=>?_)))
     have hS:=hS.below hw'
     refine e_p (v:=s10.v) 0 hF rfl (ex_move rfl) rfl rfl (by kernel_rfl) (by kernel_rfl) (by kernel_rfl) fun a hF=>e_p (v:=(iV (goLen p_t.Rows))) 1 hF rfl (ex_move rfl) rfl rfl (by kernel_rfl) (by kernel_rfl) (by kernel_rfl) fun a hF=>e_p (v:=(iV (goLen p_t.Cols))) 2 hF rfl (ex_move rfl) rfl rfl (by kernel_rfl) (by kernel_rfl) (by kernel_rfl) fun a hF=>e_p (v:=(iV (w64 ((goLen p_t.Rows) + (goLen p_t.Cols))))) 3 hF rfl (ex_ibin rfl rfl rfl) rfl rfl (by kernel_rfl) (by kernel_rfl) (by kernel_rfl) fun a hF=>?_
     obtain ⟨e_48,he_48,hb5⟩:=bindS hb5
     obtain ⟨s49,hV49⟩:=h42.view he_48
     refine e_p (v:=(elP s10 ((w64 ((goLen p_t.Rows) + (goLen p_t.Cols))).toNat * 1))) 4 hF rfl (ex_indexAddr Try.underlying23 sz28 rfl rfl (h42.idx he_48)) rfl rfl (by kernel_rfl) (by kernel_rfl) (by kernel_rfl) fun a hF=>e_x (v:=s49.v) 5 hF hS rfl (ex_loadE1 0 Try.underlying28 rfl rfl ((hV49.atH he_48).at 0 rfl) rfl rfl) rfl rfl (by kernel_rfl) (by kernel_rfl) (by kernel_rfl) (by kernel_rfl) fun a hF=>e_p (v:=(iV t_43)) 6 hF rfl (ex_move rfl) rfl rfl (by kernel_rfl) (by kernel_rfl) (by kernel_rfl) fun a hF=>e_p (v:=(iV e_44)) 7 hF rfl (ex_move rfl) rfl rfl (by kernel_rfl) (by kernel_rfl) (by kernel_rfl) fun a hF=>e_p (v:=s37.v) 8 hF rfl (ex_move rfl) rfl rfl (by kernel_rfl) (by kernel_rfl) (by kernel_rfl) fun a hF=>e_p (v:=(iV t_43)) 9 hF rfl (ex_move rfl) rfl rfl (by kernel_rfl) (by kernel_rfl) (by kernel_rfl) fun a hF=>?_
     obtain ⟨e_50,he_50,hb5⟩:=bindS hb5
     obtain ⟨vs51,at51,d51⟩:=h37.at he_50 1 rfl
     obtain rfl : vs51 = [(iV e_50)]:=d51
     refine e_p (v:=(elP s37 (t_43.toNat * 1))) 10 hF rfl (ex_indexAddr Try.underlying28 sz3 rfl rfl (h37.idx he_50)) rfl rfl (by kernel_rfl) (by kernel_rfl) (by kernel_rfl) fun a hF=>e_x (v:=(iV e_50)) 11 hF hS rfl (ex_loadE1 0 Try.underlying3 rfl rfl (at51.at 2 rfl) rfl rfl) rfl rfl (by kernel_rfl) (by kernel_rfl) (by kernel_rfl) (by kernel_rfl) fun a hF=>e_p (v:=(iV (w64 (e_44 - e_50)))) 12 hF rfl (ex_ibin rfl rfl rfl) rfl rfl (by kernel_rfl) (by kernel_rfl) (by kernel_rfl) fun a hF=>?_
     obtain ⟨e_52,he_52,hb5⟩:=bindS hb5
     obtain ⟨vs53,at53,d53⟩:=hV49.at he_48 he_52 1 rfl
     obtain rfl : vs53 = [(iV e_52)]:=d53
     refine e_p (v:=(elP s49 (t_43.toNat * 1))) 13 hF rfl (ex_indexAddr Try.underlying28 sz3 rfl rfl (hV49.idx he_48 he_52)) rfl rfl (by kernel_rfl) (by kernel_rfl) (by kernel_rfl) fun a hF=>e_one 14 (by kernel_rfl) (e_opl rfl rfl rfl fun _ hK=>wp_storeV (e':=(w64 (e_44 - e_50))) (us:=[(iV (w64 (e_44 - e_50)))]) (vs:=[(iV e_52)]) 0 hF hS hV49 he_48 sz3 rfl rfl rfl rfl rfl rfl rfl he_52 at53 rfl rfl rfl fun w q54 hS h54=>hK _ _ (⟨⟨kpN,fun _=>hS.vis.of_le (Mem.le.refl _)⟩,?_⟩))
     refine e_end (by kernel_rfl) (n_ib (n_sq ?_)) _
     refine q_region (q_x (v:=(iV (w64 (t_43 + 1)))) hF hS (ex_ibin rfl rfl rfl) rfl rfl fun a hF=>q_x (v:=(iV (w64 (t_43 + 1)))) hF hS (ex_move rfl) rfl rfl fun a hF=>q_end ?_)
     obtain rfl:=someI hb5
     exact ⟨rfl,q54,_,_,rfl,hF.sub ⟨rfl,rfl,rfl,rfl,rfl,rfl,rfl,rfl,rfl,trivial⟩,hS,h54.own⟩
    ·have hb5:=cond_t hc7 hb5
     refine q_cond_t hF rfl hc7 (q_seq (q_region (q_x (v:=nilS.v) hF hS (ex_assign rfl) rfl rfl fun a hF=>q_end (n_sq (q_ret (r_sq (r_ib (r_sq ?_))))))))
     obtain rfl:=someI hb5
     refine ⟨nofun,.inr fun ho=>?_⟩
     subst ho
     refine r_ib (r_sq ?_)
     obtain rfl:=someI hr
     exact ret_of hF hS rfl (.tmp rfl .nil) ⟨[],nilS,rfl,hS.sel [4] (by decide),(OwnD.nil (β:=Int) m 28 3),(NF.nil)⟩
  ·rintro e a w ⟨q56,r_55,rfl,rfl,hF,hS,h56⟩
   refine x_ib (n_sq ?_)
   refine q_seq (q_seq (q_region (q_x (v:=(.pointer (some ⟨b5,1,none⟩))) hF hS (ex_fieldAddr Try.underlying50 rfl sz28 rfl rfl) rfl rfl fun a hF=>q_x (v:=s2.v) hF hS (ex_load1 2 0 Try.underlying28 rfl rfl rfl rfl) rfl rfl fun a hF=>q_x (v:=(iV (goLen p_t.Cols))) hF hS (ex_len Try.underlying28 rfl h2.len) rfl rfl fun a hF=>q_x (v:=(iV 0)) hF hS (ex_move rfl) rfl rfl fun a hF=>q_end (n_sq (q_block ?_)))))
   obtain ⟨o8,hl8,hr⟩:=bindS hr
   refine q_loop (fun (s : (List (List Int)) × Int) a w=>∃ (q58 : Piece),∃ r_57,∃ t_59,s = (r_57,t_59)∧Fr a 141 [(1,(.pointer (some ⟨b5,0,none⟩))),(3,(iV (goLen p_t.Rows))),(4,(iV (goLen p_t.Cols))),(6,s10.v),(9,s40.v),(93,s2.v),(94,(iV (goLen p_t.Cols))),(95,(iV t_59))]∧St [] w0 w m [q58,q40,[⟨b5,[s1.v,s2.v,s3.v,s4.v],50⟩]]∧OwnD m 28 3 q58 s10 r_57) (fun (o : ((List (List Int))) ⊕ ((List (List Int)))) e a w=>∃ (q72 : Piece),∃ r_71,o = .inl r_71∧e = .exit 4∧Fr a 141 [(1,(.pointer (some ⟨b5,0,none⟩))),(3,(iV (goLen p_t.Rows))),(4,(iV (goLen p_t.Cols))),(6,s10.v)]∧St [] w0 w m [q72,[⟨b5,[s1.v,s2.v,s3.v,s4.v],50⟩]]∧OwnD m 28 3 q72 s10 r_71) hl8 ⟨q56,_,_,rfl,hF.sub ⟨rfl,rfl,rfl,rfl,rfl,rfl,rfl,rfl,trivial⟩,hS,h56⟩ ?_ ?_
   ·clear hF hS
    rintro s a w st ⟨q58,r_57,t_59,rfl,hF,hS,h58⟩ hb8
    unfold impl_fill_l3 at hb8
    refine q_seq (q_region (q_x (v:=(.bool (decide (t_59 < (goLen p_t.Cols))))) hF hS (ex_ibin rfl rfl rfl) rfl rfl fun a hF=>q_end (n_sq (q_seq ?_))))
    rcases bcase (decide (t_59 < (goLen p_t.Cols))) with hc9 | hc9
    ·have hb8:=cond_f hc9 hb8
     refine q_cond_f hF rfl hc9 (q_exit (x_sq ?_))
     obtain rfl:=someI hb8
     exact ⟨nofun,.inl ⟨q58,_,rfl,rfl,hF.sub ⟨rfl,rfl,rfl,rfl,trivial⟩,hS.mask [true,false,true],h58⟩⟩
    ·have hb8:=cond_t hc9 hb8
     refine q_cond_t hF rfl hc9 (q_skipc (n_sq (q_seq (q_block (q_seq (q_region (q_x (v:=(iV t_59)) hF hS (ex_move rfl) rfl rfl fun a hF=>?_)))))))
     obtain ⟨e_60,he_60,hb8⟩:=bindS hb8
     obtain ⟨vs61,at61,d61⟩:=h2.at he_60 1 rfl
     obtain rfl : vs61 = [(iV e_60)]:=d61
     refine q_x (v:=(elP s2 (t_59.toNat * 1))) hF hS (ex_indexAddr Try.underlying28 sz3 rfl rfl (h2.idx he_60)) rfl rfl fun a hF=>q_x (v:=(iV e_60)) hF hS (ex_loadE1 0 Try.underlying3 rfl rfl ((at61).at) rfl rfl) rfl rfl fun a hF=>q_x (v:=(iV t_59)) hF hS (ex_assign rfl) rfl rfl fun a hF=>q_x (v:=(iV e_60)) hF hS (ex_assign rfl) rfl rfl fun a hF=>q_end (n_sq (q_seq (q_seq (q_region (q_x (v:=(iV e_60)) hF hS (ex_move rfl) rfl rfl fun a hF=>q_x (v:=s40.v) hF hS (ex_move rfl) rfl rfl fun a hF=>q_x (v:=(iV t_59)) hF hS (ex_move rfl) rfl rfl fun a hF=>?_)))))
     obtain ⟨e_62,he_62,hb8⟩:=bindS hb8
     obtain ⟨vs63,at63,d63⟩:=h40.at he_62 1 rfl
     obtain rfl : vs63 = [(iV e_62)]:=d63
     refine q_x (v:=(elP s40 (t_59.toNat * 1))) hF hS (ex_indexAddr Try.underlying28 sz3 rfl rfl (h40.idx he_62)) rfl rfl fun a hF=>q_x (v:=(iV e_62)) hF hS (ex_loadE1 0 Try.underlying3 rfl rfl (at63.at 1 rfl) rfl rfl) rfl rfl fun a hF=>q_x (v:=(.bool (decide (e_60 < e_62)))) hF hS (ex_ibin rfl rfl rfl) rfl rfl fun a hF=>q_end (n_sq ?_)
     rcases bcase (decide (e_60 < e_62)) with hc10 | hc10
     ·have hb8:=cond_f hc10 hb8
      refine q_cond_f hF rfl hc10 (q_skipc (n_sq (e_region ⟨[17],[],m⟩ mixed fun w' hw'=>?_)))
      have hS:=hS.below hw'
      refine e_p (v:=s10.v) 0 hF rfl (ex_move rfl) rfl rfl (by kernel_rfl) (by kernel_rfl) (by kernel_rfl) fun a hF=>e_p (v:=(iV (goLen p_t.Rows))) 1 hF rfl (ex_move rfl) rfl rfl (by kernel_rfl) (by kernel_rfl) (by kernel_rfl) fun a hF=>e_p (v:=(iV t_59)) 2 hF rfl (ex_move rfl) rfl rfl (by kernel_rfl) (by kernel_rfl) (by kernel_rfl) fun a hF=>e_p (v:=(iV (w64 ((goLen p_t.Rows) + t_59)))) 3 hF rfl (ex_ibin rfl rfl rfl) rfl rfl (by kernel_rfl) (by kernel_rfl) (by kernel_rfl) fun a hF=>?_
      obtain ⟨e_64,he_64,hb8⟩:=bindS hb8
      obtain ⟨s65,hV65⟩:=h58.view he_64
      refine e_p (v:=(elP s10 ((w64 ((goLen p_t.Rows) + t_59)).toNat * 1))) 4 hF rfl (ex_indexAddr Try.underlying23 sz28 rfl rfl (h58.idx he_64)) rfl rfl (by kernel_rfl) (by kernel_rfl) (by kernel_rfl) fun a hF=>e_x (v:=s65.v) 5 hF hS rfl (ex_loadE1 0 Try.underlying28 rfl rfl ((hV65.atH he_64).at 0 rfl) rfl rfl) rfl rfl (by kernel_rfl) (by kernel_rfl) (by kernel_rfl) (by kernel_rfl) fun a hF=>e_p (v:=(iV (goLen p_t.Rows))) 6 hF rfl (ex_move rfl) rfl rfl (by kernel_rfl) (by kernel_rfl) (by kernel_rfl) fun a hF=>e_p (v:=(iV (goLen p_t.Cols))) 7 hF rfl (ex_move rfl) rfl rfl (by kernel_rfl) (by kernel_rfl) (by kernel_rfl) fun a hF=>e_p (v:=(iV (w64 ((goLen p_t.Rows) + (goLen p_t.Cols))))) 8 hF rfl (ex_ibin rfl rfl rfl) rfl rfl (by kernel_rfl) (by kernel_rfl) (by kernel_rfl) fun a hF=>e_p (v:=(iV (w64 ((w64 ((goLen p_t.Rows) + (goLen p_t.Cols))) + 1)))) 9 hF rfl (ex_ibin rfl rfl rfl) rfl rfl (by kernel_rfl) (by kernel_rfl) (by kernel_rfl) fun a hF=>e_p (v:=(iV e_60)) 10 hF rfl (ex_move rfl) rfl rfl (by kernel_rfl) (by kernel_rfl) (by kernel_rfl) fun a hF=>e_p (v:=s40.v) 11 hF rfl (ex_move rfl) rfl rfl (by kernel_rfl) (by kernel_rfl) (by kernel_rfl) fun a hF=>e_p (v:=(iV t_59)) 12 hF rfl (ex_move rfl) rfl rfl (by kernel_rfl) (by kernel_rfl) (by kernel_rfl) fun a hF=>?_
      obtain ⟨e_66,he_66,hb8⟩:=bindS hb8
      obtain ⟨vs67,at67,d67⟩:=h40.at he_66 1 rfl
      obtain rfl : vs67 = [(iV e_66)]:=d67
      refine e_p (v:=(elP s40 (t_59.toNat * 1))) 13 hF rfl (ex_indexAddr Try.underlying28 sz3 rfl rfl (h40.idx he_66)) rfl rfl (by kernel_rfl) (by kernel_rfl) (by kernel_rfl) fun a hF=>e_x (v:=(iV e_66)) 14 hF hS rfl (ex_loadE1 0 Try.underlying3 rfl rfl (at67.at 1 rfl) rfl rfl) rfl rfl (by kernel_rfl) (by kernel_rfl) (by kernel_rfl) (by kernel_rfl) fun a hF=>e_p (v:=(iV (w64 (e_60 - e_66)))) 15 hF rfl (ex_ibin rfl rfl rfl) rfl rfl (by kernel_rfl) (by kernel_rfl) (by kernel_rfl) fun a hF=>?_
      obtain ⟨e_68,he_68,hb8⟩:=bindS hb8
      obtain ⟨vs69,at69,d69⟩:=hV65.at he_64 he_68 1 rfl
      obtain rfl : vs69 = [(iV e_68)]:=d69
      refine e_p (v:=(elP s65 ((w64 ((w64 ((goLen p_t.Rows) + (goLen p_t.Cols))) + 1)).toNat * 1))) 16 hF rfl (ex_indexAddr Try.underlying28 sz3 rfl rfl (hV65.idx he_64 he_68)) rfl rfl (by kernel_rfl) (by kernel_rfl) (by kernel_rfl) fun a hF=>e_one 17 (by kernel_rfl) (e_opl rfl rfl rfl fun _ hK=>wp_storeV (e':=(w64 (e_60 - e_66))) (us:=[(iV (w64 (e_60 - e_66)))]) (vs:=[(iV e_68)]) 0 hF hS hV65 he_64 sz3 rfl rfl rfl rfl rfl rfl rfl he_68 at69 rfl rfl rfl fun w q70 hS h70=>hK _ _ (⟨⟨kpN,fun _=>hS.vis.of_le (Mem.le.refl _)⟩,?_⟩))
      refine e_end (by kernel_rfl) (n_ib (n_sq ?_)) _
      refine q_region (q_x (v:=(iV (w64 (t_59 + 1)))) hF hS (ex_ibin rfl rfl rfl) rfl rfl fun a hF=>q_x (v:=(iV (w64 (t_59 + 1)))) hF hS (ex_move rfl) rfl rfl fun a hF=>q_end ?_)
      obtain rfl:=someI hb8
      exact ⟨rfl,q70,_,_,rfl,hF.sub ⟨rfl,rfl,rfl,rfl,rfl,rfl,rfl,rfl,trivial⟩,hS,h70.own⟩
     ·have hb8:=cond_t hc10 hb8
      refine q_cond_t hF rfl hc10 (q_seq (q_region (q_x (v:=nilS.v) hF hS (ex_assign rfl) rfl rfl fun a hF=>q_end (n_sq (q_ret (r_sq (r_ib (r_sq ?_))))))))
      obtain rfl:=someI hb8
      refine ⟨nofun,.inr fun ho=>?_⟩
      subst ho
      refine r_ib (r_sq ?_)
      obtain rfl:=someI hr
      exact ret_of hF hS rfl (.tmp rfl .nil) ⟨[],nilS,rfl,hS.sel [3] (by decide),(OwnD.nil (β:=Int) m 28 3),(NF.nil)⟩
   ·rintro e a w ⟨q72,r_71,rfl,rfl,hF,hS,h72⟩
    refine x_ib (n_sq ?_)
    refine q_seq (q_region (q_x (v:=s10.v) hF hS (ex_move rfl) rfl rfl fun a hF=>q_x (v:=(iV (goLen p_t.Rows))) hF hS (ex_move rfl) rfl rfl fun a hF=>q_x (v:=(iV (goLen p_t.Cols))) hF hS (ex_move rfl) rfl rfl fun a hF=>q_x (v:=(iV (w64 ((goLen p_t.Rows) + (goLen p_t.Cols))))) hF hS (ex_ibin rfl rfl rfl) rfl rfl fun a hF=>q_x (v:=(iV (goLen p_t.Rows))) hF hS (ex_move rfl) rfl rfl fun a hF=>q_x (v:=(iV (goLen p_t.Cols))) hF hS (ex_move rfl) rfl rfl fun a hF=>q_x (v:=(iV (w64 ((goLen p_t.Rows) + (goLen p_t.Cols))))) hF hS (ex_ibin rfl rfl rfl) rfl rfl fun a hF=>q_x (v:=(iV (w64 ((w64 ((goLen p_t.Rows) + (goLen p_t.Cols))) + 1)))) hF hS (ex_ibin rfl rfl rfl) rfl rfl fun a hF=>q_x (v:=(.pointer (some ⟨b5,0,none⟩))) hF hS (ex_fieldAddr Try.underlying50 rfl sz28 rfl rfl) rfl rfl fun a hF=>q_x (v:=s1.v) hF hS (ex_load1 1 0 Try.underlying28 rfl rfl rfl rfl) rfl rfl fun a hF=>?_))
    obtain ⟨t_73,ht_73,hr⟩:=bindS hr
    refine q_call (vs:=[s1.v]) hF hS Try.func80 (by kernel_rfl) rfl rfl rfl (c_impl_total p_t.Rows t_73 ht_73 _ m hS.vis s1 h1) ?_
    rintro a w _ rfl hF hS
    have hS74 : St _ _ _ _ ([q72]++[[⟨b5,[s1.v,s2.v,s3.v,s4.v],50⟩]]):=hS
    have hE74:=hS74.enter
    obtain ⟨t_75,ht_75,hr⟩:=bindS hr
    refine q_do rfl fun _ hK=>wp_callX (vs:=[s10.v,(iV (w64 ((goLen p_t.Rows) + (goLen p_t.Cols)))),(iV (w64 ((w64 ((goLen p_t.Rows) + (goLen p_t.Cols))) + 1))),(iV t_73)]) hF Try.func156 (by kernel_rfl) rfl rfl rfl (c_impl_push r_71 (w64 ((goLen p_t.Rows) + (goLen p_t.Cols))) (w64 ((w64 ((goLen p_t.Rows) + (goLen p_t.Cols))) + 1)) t_73 t_75 ht_75 _ m s10 q72 h72 _ hE74) fun a w _ hR hF=>hK _ _ ?_
    obtain ⟨q76,rfl,hR74,h76⟩:=hR
    have hS : St _ _ _ _ [q76,[⟨b5,[s1.v,s2.v,s3.v,s4.v],50⟩]]:=hS74.leaveF hR74
    refine q_end (n_sq (q_seq (q_region (q_x (v:=(.agg #[s1.v,s2.v,s3.v,s4.v])) hF hS (ex_loadA (vs:=[s1.v,s2.v,s3.v,s4.v]) 1 0 Try.underlying50 rfl sz50 rfl rfl rfl rfl) rfl rfl fun a hF=>q_x (v:=(.pointer (some ⟨b5,2,none⟩))) hF hS (ex_fieldAddr Try.underlying50 rfl sz23 rfl rfl) rfl rfl fun a hF=>q_x (v:=s3.v) hF hS (ex_load1 1 0 Try.underlying23 rfl rfl rfl rfl) rfl rfl fun a hF=>q_x (v:=s10.v) hF hS (ex_move rfl) rfl rfl fun a hF=>?_))))
    obtain ⟨m78,hl78,hv78,hz78⟩:=hS.lend
    obtain ⟨t_77,ht_77,hr⟩:=bindS hr
    refine q_call (vs:=[(.agg #[s1.v,s2.v,s3.v,s4.v]),s3.v,s10.v,(iV (-1))]) hF hS Try.func169 (by kernel_rfl) rfl rfl rfl (c_impl_restore p_t p_t.Lo t_75.2 (-1) t_77 ht_77 _ m78 hv78 s1 (h1.mono hl78) s2 (h2.mono hl78) s3 (h3.mono hl78) s4 (h4.mono hl78) s3 (h3.mono hl78) s10 (h76.froz hl78 (hz78 0 _ rfl))) ?_
    rintro a w _ ⟨q80,s80,rfl,hR79,h80,h80n⟩ hF hS2
    have hS : St _ _ _ _ [q80,q76,[⟨b5,[s1.v,s2.v,s3.v,s4.v],50⟩]]:=hS.joinF hR79
    have h80:=h80.any m
    refine q_x (v:=s80.v) hF hS (ex_assign rfl) rfl rfl fun a hF=>q_end (n_sq (q_ret ?_))
    obtain rfl:=someI hr
    exact ret_of hF hS rfl (.tmp rfl .nil) ⟨q80,s80,rfl,hS.sel [0] (by decide),h80,h80n⟩

theorem c_slices_Equal_int_int (p_s1 : List Int) (p_s2 : List Int) (r : Bool) (hr : slices_Equal_int_int p_s1 p_s2 = some r) (w0 : World) (m : Mem) (hv : Vis m w0) (s1 : Sl) (h1 : Rd m s1 p_s1) (s2 : Sl) (h2 : Rd m s2 p_s2) :
  Ret Try.prog 103 [s1.v,s2.v] w0 (fun v _=>v = (.bool r)):=by
 unfold slices_Equal_int_int at hr
 refine ret_start Try.func103 rfl 26 rfl rfl m hv fun a hF hS=>q_seq (q_region (q_x (v:=(.bool false)) hF hS (ex_assign rfl) rfl rfl fun a hF=>q_end (n_sq (q_seq (q_seq (q_region (q_x (v:=s1.v) hF hS (ex_move rfl) rfl rfl fun a hF=>q_x (v:=(iV (goLen p_s1))) hF hS (ex_len Try.underlying28 rfl h1.len) rfl rfl fun a hF=>q_x (v:=s2.v) hF hS (ex_move rfl) rfl rfl fun a hF=>q_x (v:=(iV (goLen p_s2))) hF hS (ex_len Try.underlying28 rfl h2.len) rfl rfl fun a hF=>q_x (v:=(.bool ((goLen p_s1) != (goLen p_s2)))) hF hS (ex_ibin rfl rfl rfl) rfl rfl fun a hF=>q_end (n_sq ?_))))))))
 rcases bcase ((goLen p_s1) != (goLen p_s2)) with hc1 | hc1
 ·have hr:=cond_f hc1 hr
  refine q_cond_f hF rfl hc1 (q_skipc (n_sq (q_seq (q_seq (q_region (q_x (v:=s1.v) hF hS (ex_move rfl) rfl rfl fun a hF=>q_x (v:=(iV (goLen p_s1))) hF hS (ex_len Try.underlying28 rfl h1.len) rfl rfl fun a hF=>q_x (v:=(iV 0)) hF hS (ex_move rfl) rfl rfl fun a hF=>q_end (n_sq (q_block ?_))))))))
  obtain ⟨o2,hl2,hr⟩:=bindS hr
  refine q_loop (fun (t_3 : Int) a w=>Fr a 26 [(0,s1.v),(1,s2.v),(12,(iV (goLen p_s1))),(13,(iV t_3))]∧St [] w0 w m []) (fun (o : (Unit) ⊕ (Bool)) e a w=>o = .inl ()∧e = .exit 0∧Fr a 26 []∧St [] w0 w m []) hl2 ⟨hF.sub ⟨rfl,rfl,rfl,rfl,trivial⟩,hS⟩ ?_ ?_
  ·clear hF hS
   rintro t_3 a w st ⟨hF,hS⟩ hb2
   unfold slices_Equal_int_int_l1 at hb2
   refine q_seq (q_region (q_x (v:=(.bool (decide (t_3 < (goLen p_s1))))) hF hS (ex_ibin rfl rfl rfl) rfl rfl fun a hF=>q_end (n_sq (q_seq ?_))))
   rcases bcase (decide (t_3 < (goLen p_s1))) with hc3 | hc3
   ·have hb2:=cond_f hc3 hb2
    refine q_cond_f hF rfl hc3 (q_exit (x_sq ?_))
    obtain rfl:=someI hb2
    exact ⟨nofun,.inl ⟨rfl,rfl,hF.sub trivial,hS⟩⟩
   ·have hb2:=cond_t hc3 hb2
    refine q_cond_t hF rfl hc3 (q_skipc (n_sq (q_seq (q_block (q_seq (q_region (q_x (v:=(iV t_3)) hF hS (ex_move rfl) rfl rfl fun a hF=>q_x (v:=(iV t_3)) hF hS (ex_assign rfl) rfl rfl fun a hF=>q_end (n_sq (q_seq (e_region ⟨[],[],m⟩ mixed fun w' hw'=>?_))))))))))
    have hS:=hS.below hw'
    refine e_p (v:=s1.v) 0 hF rfl (ex_move rfl) rfl rfl (by kernel_rfl) (by kernel_rfl) (by kernel_rfl) fun a hF=>e_p (v:=(iV t_3)) 1 hF rfl (ex_move rfl) rfl rfl (by kernel_rfl) (by kernel_rfl) (by kernel_rfl) fun a hF=>?_
    obtain ⟨e_4,he_4,hb2⟩:=bindS hb2
    obtain ⟨vs5,at5,d5⟩:=h1.at he_4 1 rfl
    obtain rfl : vs5 = [(iV e_4)]:=d5
    refine e_p (v:=(elP s1 (t_3.toNat * 1))) 2 hF rfl (ex_indexAddr Try.underlying28 sz3 rfl rfl (h1.idx he_4)) rfl rfl (by kernel_rfl) (by kernel_rfl) (by kernel_rfl) fun a hF=>e_xm (v:=(iV e_4)) 3 hF hS (Mem.le.refl _) rfl (ex_loadE1 0 Try.underlying3 rfl rfl ((at5).at) rfl rfl) rfl rfl (by kernel_rfl) (by kernel_rfl) (by kernel_rfl) fun a hF=>e_p (v:=s2.v) 4 hF rfl (ex_move rfl) rfl rfl (by kernel_rfl) (by kernel_rfl) (by kernel_rfl) fun a hF=>e_p (v:=(iV t_3)) 5 hF rfl (ex_move rfl) rfl rfl (by kernel_rfl) (by kernel_rfl) (by kernel_rfl) fun a hF=>?_
    obtain ⟨e_6,he_6,hb2⟩:=bindS hb2
    obtain ⟨vs7,at7,d7⟩:=h2.at he_6 1 rfl
    obtain rfl : vs7 = [(iV e_6)]:=d7
    refine e_p (v:=(elP s2 (t_3.toNat * 1))) 6 hF rfl (ex_indexAddr Try.underlying28 sz3 rfl rfl (h2.idx he_6)) rfl rfl (by kernel_rfl) (by kernel_rfl) (by kernel_rfl) fun a hF=>e_xm (v:=(iV e_6)) 7 hF hS (Mem.le.refl _) rfl (ex_loadE1 0 Try.underlying3 rfl rfl ((at7).at) rfl rfl) rfl rfl (by kernel_rfl) (by kernel_rfl) (by kernel_rfl) fun a hF=>e_p (v:=(.bool (e_4 != e_6))) 8 hF rfl (ex_ibin rfl rfl rfl) rfl rfl (by kernel_rfl) (by kernel_rfl) (by kernel_rfl) fun a hF=>e_end (by kernel_rfl) (n_sq ?_) _
    rcases bcase (e_4 != e_6) with hc4 | hc4
    ·have hb2:=cond_f hc4 hb2
     refine q_cond_f hF rfl hc4 (q_skipc (n_ib (n_sq (q_region (q_x (v:=(iV (w64 (t_3 + 1)))) hF hS (ex_ibin rfl rfl rfl) rfl rfl fun a hF=>q_x (v:=(iV (w64 (t_3 + 1)))) hF hS (ex_move rfl) rfl rfl fun a hF=>q_end ?_)))))
     obtain rfl:=someI hb2
     exact ⟨rfl,hF.sub ⟨rfl,rfl,rfl,rfl,trivial⟩,hS⟩
    ·have hb2:=cond_t hc4 hb2
     refine q_cond_t hF rfl hc4 (q_seq (q_region (q_x (v:=(.bool false)) hF hS (ex_assign rfl) rfl rfl fun a hF=>q_end (n_sq (q_ret (r_ib (r_sq ?_)))))))
     obtain rfl:=someI hb2
     refine ⟨nofun,.inr fun ho=>?_⟩
     subst ho
     refine r_ib (r_sq ?_)
     obtain rfl:=someI hr
     exact ret_of hF hS rfl (.tmp rfl .nil) rfl
  ·rintro e a w ⟨rfl,rfl,hF,hS⟩
   refine x_ib (n_sq ?_)
   refine q_seq (q_region (q_x (v:=(.bool true)) hF hS (ex_assign rfl) rfl rfl fun a hF=>q_end (n_sq (q_ret ?_))))
   obtain rfl:=someI hr
   exact ret_of hF hS rfl (.tmp rfl .nil) rfl
 ·have hr:=cond_t hc1 hr
  refine q_cond_t hF rfl hc1 (q_seq (q_region (q_x (v:=(.bool false)) hF hS (ex_assign rfl) rfl rfl fun a hF=>q_end (n_sq (q_ret (r_sq ?_))))))
  obtain rfl:=someI hr
  exact ret_of hF hS rfl (.tmp rfl .nil) rfl

theorem c_impl_anyFlow (p_t : impl_Transport) (r : (List (List Int))) (hr : impl_anyFlow p_t = some r) (w0 : World) (m : Mem) (hv : Vis m w0) (s1 : Sl) (h1 : Rd m s1 p_t.Rows) (s2 : Sl) (h2 : Rd m s2 p_t.Cols) (s3 : Sl) (h3 : Rd m s3 p_t.Lo) (s4 : Sl) (h4 : Rd m s4 p_t.Hi) :
  Ret Try.prog 124 [(.agg #[s1.v,s2.v,s3.v,s4.v])] w0 (fun v w=>∃ (q0' : Piece) (s0' : Sl),v = s0'.v∧St [] w0 w m [q0']∧OwnD m 28 3 q0' s0' r∧NF s0' r):=by
 unfold impl_anyFlow at hr
 refine ret_start Try.func124 rfl 24 rfl rfl m hv fun a hF hS=>q_seq (q_region (q_box (cs:=[s1.v,s2.v,s3.v,s4.v]) hF hS rfl rfl rfl fun a w b5 hF hS=>q_x (v:=nilS.v) hF hS (ex_assign rfl) rfl rfl fun a hF=>q_end (n_sq (q_seq (q_seq (e_region ⟨[],[],m⟩ mixed fun w' hw'=>?_))))))
 have hS:=hS.below hw'
 refine e_p (v:=(.pointer (some ⟨b5,0,none⟩))) 0 hF rfl (ex_fieldAddr Try.underlying50 rfl sz28 rfl rfl) rfl rfl (by kernel_rfl) (by kernel_rfl) (by kernel_rfl) fun a hF=>e_x (v:=s1.v) 1 hF hS rfl (ex_load1 0 0 Try.underlying28 rfl rfl rfl rfl) rfl rfl (by kernel_rfl) (by kernel_rfl) (by kernel_rfl) (by kernel_rfl) fun a hF=>e_p (v:=(.pointer (some ⟨b5,1,none⟩))) 3 hF rfl (ex_fieldAddr Try.underlying50 rfl sz28 rfl rfl) rfl rfl (by kernel_rfl) (by kernel_rfl) (by kernel_rfl) fun a hF=>e_x (v:=s2.v) 4 hF hS rfl (ex_load1 0 0 Try.underlying28 rfl rfl rfl rfl) rfl rfl (by kernel_rfl) (by kernel_rfl) (by kernel_rfl) (by kernel_rfl) fun a hF=>e_one 2 (by kernel_rfl) ?_
 obtain ⟨t_8,ht_8,hr⟩:=bindS hr
 refine e_call (vs:=[s1.v]) hF hS rfl Try.func80 (by kernel_rfl) rfl rfl rfl (c_impl_total p_t.Rows t_8 ht_8 _ m hS.vis s1 h1) ?_
 rintro a w _ rfl hF hS
 refine e_one 5 (by kernel_rfl) ?_
 obtain ⟨t_9,ht_9,hr⟩:=bindS hr
 refine e_call (vs:=[s2.v]) hF hS rfl Try.func80 (by kernel_rfl) rfl rfl rfl (c_impl_total p_t.Cols t_9 ht_9 _ m hS.vis s2 h2) ?_
 rintro a w _ rfl hF hS
 refine e_p (v:=(.bool (t_8 != t_9))) 6 hF rfl (ex_ibin rfl rfl rfl) rfl rfl (by kernel_rfl) (by kernel_rfl) (by kernel_rfl) fun a hF=>e_end (by kernel_rfl) (n_sq ?_) _
 rcases bcase (t_8 != t_9) with hc1 | hc1
 ·have hr:=cond_f hc1 hr
  refine q_cond_f hF rfl hc1 (q_skipc (n_sq (q_seq (q_region (q_x (v:=(.agg #[s1.v,s2.v,s3.v,s4.v])) hF hS (ex_loadA (vs:=[s1.v,s2.v,s3.v,s4.v]) 0 0 Try.underlying50 rfl sz50 rfl rfl rfl rfl) rfl rfl fun a hF=>?_)))))
  obtain ⟨t_10,ht_10,hr⟩:=bindS hr
  refine q_call (vs:=[(.agg #[s1.v,s2.v,s3.v,s4.v])]) hF hS Try.func168 (by kernel_rfl) rfl rfl rfl (c_impl_fill p_t t_10 ht_10 _ m hS.vis s1 h1 s2 h2 s3 h3 s4 h4) ?_
  rintro a w _ ⟨q12,s12,rfl,hR11,h12,h12n⟩ hF hS2
  have hS : St _ _ _ _ [q12,[⟨b5,[s1.v,s2.v,s3.v,s4.v],50⟩]]:=hS.joinF hR11
  refine q_x (v:=s12.v) hF hS (ex_assign rfl) rfl rfl fun a hF=>q_end (n_sq (q_seq (q_seq ?_)))
  obtain ⟨t_27,hj2,hr⟩:=bindS hr
  refine q_join (fun a w=>Fr a 24 [(3,s12.v),(22,(.bool t_27))]∧St [] w0 w m [q12]) ?_ ?_
  ·refine e_region ⟨[],[],m⟩ mixed fun w' hw'=>?_
   have hS:=hS.below hw'
   refine e_p (v:=s12.v) 0 hF rfl (ex_move rfl) rfl rfl (by kernel_rfl) (by kernel_rfl) (by kernel_rfl) fun a hF=>e_p (v:=(.bool t_10.isEmpty)) 1 hF rfl (ex_eqNilF Try.underlying23 h12n h12.nilE rfl rfl) rfl rfl (by kernel_rfl) (by kernel_rfl) (by kernel_rfl) fun a hF=>e_p (v:=(.bool t_10.isEmpty)) 2 hF rfl (ex_move rfl) rfl rfl (by kernel_rfl) (by kernel_rfl) (by kernel_rfl) fun a hF=>?_
   rcases bcase (t_10.isEmpty) with hc3 | hc3
   ·have hj2:=cond_f hc3 hj2
    refine e_pg (v:=s12.v) 3 hF rfl (ex_move rfl) (wanted_t hF rfl rfl rfl hc3) rfl (by kernel_rfl) (by kernel_rfl) (by kernel_rfl) fun a hF=>e_pg (v:=(.pointer (some ⟨b5,0,none⟩))) 5 hF rfl (ex_fieldAddr Try.underlying50 rfl sz28 rfl rfl) (wanted_t hF rfl rfl rfl hc3) rfl (by kernel_rfl) (by kernel_rfl) (by kernel_rfl) fun a hF=>e_xg (v:=s1.v) 6 hF hS rfl (ex_load1 1 0 Try.underlying28 rfl rfl rfl rfl) (wanted_t hF rfl rfl rfl hc3) rfl (by kernel_rfl) (by kernel_rfl) (by kernel_rfl) (by kernel_rfl) fun a hF=>e_one 4 (by kernel_rfl) ?_
    obtain ⟨m22,hl22,hv22,hz22⟩:=hS.lend
    obtain ⟨t_21,ht_21,hj2⟩:=bindS hj2
    refine e_callg (vs:=[s12.v]) hF hS rfl (wanted_t hF rfl rfl rfl hc3) Try.func104 (by kernel_rfl) rfl rfl rfl (c_impl_rowSums t_10 t_21 ht_21 _ m22 hv22 s12 (h12.froz hl22 (hz22 0 _ rfl))) ?_
    rintro a w _ ⟨q24,s24,rfl,hR23,h24⟩ hF hS2
    have hS : St _ _ _ _ [q24,q12,[⟨b5,[s1.v,s2.v,s3.v,s4.v],50⟩]]:=hS.joinF hR23
    have h24:=h24.any m
    refine e_one 7 (by kernel_rfl) ?_
    obtain ⟨m26,hl26,hv26,hz26⟩:=hS.lend
    obtain ⟨t_25,ht_25,hj2⟩:=bindS hj2
    refine e_callg (vs:=[s24.v,s1.v]) hF hS rfl (wanted_t hF rfl rfl rfl hc3) Try.func103 (by kernel_rfl) rfl rfl rfl (c_slices_Equal_int_int t_21 p_t.Rows t_25 ht_25 _ m26 hv26 s24 (h24.froz hl26 (hz26 0 _ rfl)) s1 (h1.mono hl26)) ?_
    rintro a w _ rfl hF hS
    refine e_pg (v:=(.bool (!t_25))) 8 hF rfl (ex_not rfl) (wanted_t hF rfl rfl rfl hc3) rfl (by kernel_rfl) (by kernel_rfl) (by kernel_rfl) fun a hF=>e_p (v:=(.bool (!t_25))) 9 hF rfl (ex_pick_f rfl rfl hc3) rfl rfl (by kernel_rfl) (by kernel_rfl) (by kernel_rfl) fun a hF=>e_end (by kernel_rfl) (n_jn ?_) _
    obtain rfl:=someI hj2
    exact ⟨hF.sub ⟨rfl,rfl,trivial⟩,hS.mask [false,true,false]⟩
   ·have hj2:=cond_t hc3 hj2
    refine e_skipP 3 hF rfl (wanted_f hF rfl rfl rfl hc3 rfl) rfl (by kernel_rfl) (by kernel_rfl) (by kernel_rfl) fun a hF=>e_skipP 4 hF rfl (wanted_f hF rfl rfl rfl hc3 rfl) rfl (by kernel_rfl) (by kernel_rfl) (by kernel_rfl) fun a hF=>e_skipP 5 hF rfl (wanted_f hF rfl rfl rfl hc3 rfl) rfl (by kernel_rfl) (by kernel_rfl) (by kernel_rfl) fun a hF=>e_skipP 6 hF rfl (wanted_f hF rfl rfl rfl hc3 rfl) rfl (by kernel_rfl) (by kernel_rfl) (by kernel_rfl) fun a hF=>e_skipP 7 hF rfl (wanted_f hF rfl rfl rfl hc3 rfl) rfl (by kernel_rfl) (by kernel_rfl) (by kernel_rfl) fun a hF=>e_skipP 8 hF rfl (wanted_f hF rfl rfl rfl hc3 rfl) rfl (by kernel_rfl) (by kernel_rfl) (by kernel_rfl) fun a hF=>e_p (v:=(.bool true)) 9 hF rfl (ex_pick_t rfl rfl hc3) rfl rfl (by kernel_rfl) (by kernel_rfl) (by kernel_rfl) fun a hF=>e_end (by kernel_rfl) (n_jn ?_) _
    obtain rfl:=someI hj2
    exact ⟨hF.sub ⟨rfl,rfl,trivial⟩,hS.mask [true,false]⟩
  ·rintro a w ⟨hF,hS⟩
   refine n_sq ?_
   rcases bcase (t_27) with hc4 | hc4
   ·have hr:=cond_f hc4 hr
    refine q_cond_f hF rfl hc4 (q_skipc (n_sq (q_seq (q_region (q_x (v:=s12.v) hF hS (ex_move rfl) rfl rfl fun a hF=>q_x (v:=s12.v) hF hS (ex_assign rfl) rfl rfl fun a hF=>q_end (n_sq (q_ret ?_)))))))
    obtain rfl:=someI hr
    exact ret_of hF hS rfl (.tmp rfl .nil) ⟨q12,s12,rfl,hS.sel [0] (by decide),h12,h12n⟩
   ·have hr:=cond_t hc4 hr
    refine q_cond_t hF rfl hc4 (q_seq (q_region (q_x (v:=nilS.v) hF hS (ex_assign rfl) rfl rfl fun a hF=>q_end (n_sq (q_ret (r_sq ?_))))))
    obtain rfl:=someI hr
    exact ret_of hF hS rfl (.tmp rfl .nil) ⟨[],nilS,rfl,hS.sel [1] (by decide),(OwnD.nil (β:=Int) m 28 3),(NF.nil)⟩
 ·have hr:=cond_t hc1 hr
  refine q_cond_t hF rfl hc1 (q_seq (q_region (q_x (v:=nilS.v) hF hS (ex_assign rfl) rfl rfl fun a hF=>q_end (n_sq (q_ret (r_sq ?_))))))
  obtain rfl:=someI hr
  exact ret_of hF hS rfl (.tmp rfl .nil) ⟨[],nilS,rfl,hS.sel [1] (by decide),(OwnD.nil (β:=Int) m 28 3),(NF.nil)⟩

theorem c_impl_lowered (p_t : impl_Transport) (p_x : List (List Int)) (p_i : Int) (p_j : Int) (r : (List (List Int))) (hr : impl_lowered p_t p_x p_i p_j = some r) (w0 : World) (m : Mem) (hv : Vis m w0) (s1 : Sl) (h1 : Rd m s1 p_t.Rows) (s2 : Sl) (h2 : Rd m s2 p_t.Cols) (s3 : Sl) (h3 : Rd m s3 p_t.Lo) (s4 : Sl) (h4 : Rd m s4 p_t.Hi) (s5 : Sl) (h5 : Rd m s5 p_x) :
  Ret Try.prog 183 [(.agg #[s1.v,s2.v,s3.v,s4.v]),s5.v,(iV p_i),(iV p_j)] w0 (fun v w=>∃ (q0' : Piece) (s0' : Sl),v = s0'.v∧St [] w0 w m [q0']∧OwnD m 28 3 q0' s0' r∧NF s0' r):=by
 unfold impl_lowered at hr
 refine ret_start Try.func183 rfl 66 rfl rfl m hv fun a hF hS=>q_seq (q_region (q_box (cs:=[s1.v,s2.v,s3.v,s4.v]) hF hS rfl rfl rfl fun a w b6 hF hS=>q_x (v:=nilS.v) hF hS (ex_assign rfl) rfl rfl fun a hF=>q_end (n_sq (q_seq (e_region ⟨[],[],m⟩ mixed fun w' hw'=>?_)))))
 have hS:=hS.below hw'
 refine e_p (v:=(.pointer (some ⟨b6,0,none⟩))) 0 hF rfl (ex_fieldAddr Try.underlying50 rfl sz28 rfl rfl) rfl rfl (by kernel_rfl) (by kernel_rfl) (by kernel_rfl) fun a hF=>e_x (v:=s1.v) 1 hF hS rfl (ex_load1 0 0 Try.underlying28 rfl rfl rfl rfl) rfl rfl (by kernel_rfl) (by kernel_rfl) (by kernel_rfl) (by kernel_rfl) fun a hF=>e_p (v:=(iV (goLen p_t.Rows))) 2 hF rfl (ex_len Try.underlying28 rfl h1.len) rfl rfl (by kernel_rfl) (by kernel_rfl) (by kernel_rfl) fun a hF=>e_p (v:=(iV p_i)) 3 hF rfl (ex_move rfl) rfl rfl (by kernel_rfl) (by kernel_rfl) (by kernel_rfl) fun a hF=>e_p (v:=(.pointer (some ⟨b6,1,none⟩))) 4 hF rfl (ex_fieldAddr Try.underlying50 rfl sz28 rfl rfl) rfl rfl (by kernel_rfl) (by kernel_rfl) (by kernel_rfl) fun a hF=>e_x (v:=s2.v) 5 hF hS rfl (ex_load1 0 0 Try.underlying28 rfl rfl rfl rfl) rfl rfl (by kernel_rfl) (by kernel_rfl) (by kernel_rfl) (by kernel_rfl) fun a hF=>e_p (v:=(iV (goLen p_t.Cols))) 6 hF rfl (ex_len Try.underlying28 rfl h2.len) rfl rfl (by kernel_rfl) (by kernel_rfl) (by kernel_rfl) fun a hF=>e_p (v:=(iV (w64 (p_i * (goLen p_t.Cols))))) 7 hF rfl (ex_ibin rfl rfl rfl) rfl rfl (by kernel_rfl) (by kernel_rfl) (by kernel_rfl) fun a hF=>e_p (v:=(iV p_j)) 8 hF rfl (ex_move rfl) rfl rfl (by kernel_rfl) (by kernel_rfl) (by kernel_rfl) fun a hF=>e_p (v:=(iV (w64 ((w64 (p_i * (goLen p_t.Cols))) + p_j)))) 9 hF rfl (ex_ibin rfl rfl rfl) rfl rfl (by kernel_rfl) (by kernel_rfl) (by kernel_rfl) fun a hF=>e_p (v:=(iV (goLen p_t.Rows))) 10 hF rfl (ex_assign rfl) rfl rfl (by kernel_rfl) (by kernel_rfl) (by kernel_rfl) fun a hF=>e_p (v:=(iV (w64 ((w64 (p_i * (goLen p_t.Cols))) + p_j)))) 11 hF rfl (ex_assign rfl) rfl rfl (by kernel_rfl) (by kernel_rfl) (by kernel_rfl) fun a hF=>e_end (by kernel_rfl) (n_sq ?_) _
 refine q_seq (q_region (q_x (v:=(.agg #[s1.v,s2.v,s3.v,s4.v])) hF hS (ex_loadA (vs:=[s1.v,s2.v,s3.v,s4.v]) 0 0 Try.underlying50 rfl sz50 rfl rfl rfl rfl) rfl rfl fun a hF=>q_x (v:=s5.v) hF hS (ex_move rfl) rfl rfl fun a hF=>q_x (v:=(iV (w64 ((w64 (p_i * (goLen p_t.Cols))) + p_j)))) hF hS (ex_move rfl) rfl rfl fun a hF=>?_))
 obtain ⟨t_7,ht_7,hr⟩:=bindS hr
 refine q_call (vs:=[(.agg #[s1.v,s2.v,s3.v,s4.v]),s5.v,(iV (w64 ((w64 (p_i * (goLen p_t.Cols))) + p_j)))]) hF hS Try.func155 (by kernel_rfl) rfl rfl rfl (c_impl_residual p_t p_x (w64 ((w64 (p_i * (goLen p_t.Cols))) + p_j)) t_7 ht_7 _ m hS.vis s1 h1 s2 h2 s3 h3 s4 h4 s5 h5) ?_
 rintro a w _ ⟨q9,s9,rfl,hR8,h9⟩ hF hS2
 have hS : St _ _ _ _ [q9,[⟨b6,[s1.v,s2.v,s3.v,s4.v],50⟩]]:=hS.joinF hR8
 refine q_x (v:=s9.v) hF hS (ex_assign rfl) rfl rfl fun a hF=>q_end (n_sq (q_seq (e_region ⟨[21],[b6],m⟩ mixed fun w' hw'=>?_)))
 have hS:=hS.below hw'
 refine e_p (v:=s9.v) 0 hF rfl (ex_move rfl) rfl rfl (by kernel_rfl) (by kernel_rfl) (by kernel_rfl) fun a hF=>e_p (v:=(iV p_i)) 1 hF rfl (ex_move rfl) rfl rfl (by kernel_rfl) (by kernel_rfl) (by kernel_rfl) fun a hF=>e_p (v:=(iV (goLen p_t.Rows))) 2 hF rfl (ex_move rfl) rfl rfl (by kernel_rfl) (by kernel_rfl) (by kernel_rfl) fun a hF=>e_p (v:=(iV p_j)) 3 hF rfl (ex_move rfl) rfl rfl (by kernel_rfl) (by kernel_rfl) (by kernel_rfl) fun a hF=>e_p (v:=(iV (w64 ((goLen p_t.Rows) + p_j)))) 4 hF rfl (ex_ibin rfl rfl rfl) rfl rfl (by kernel_rfl) (by kernel_rfl) (by kernel_rfl) fun a hF=>e_p (v:=s5.v) 5 hF rfl (ex_move rfl) rfl rfl (by kernel_rfl) (by kernel_rfl) (by kernel_rfl) fun a hF=>e_p (v:=(iV p_i)) 6 hF rfl (ex_move rfl) rfl rfl (by kernel_rfl) (by kernel_rfl) (by kernel_rfl) fun a hF=>?_
 obtain ⟨e_10,he_10,hr⟩:=bindS hr
 obtain ⟨vs11,at11,d11⟩:=h5.at he_10 1 rfl
 obtain ⟨s12,rfl,h12⟩ : ∃ s12 : Sl,vs11 = [s12.v]∧Rd m s12 e_10:=d11
 refine e_p (v:=(elP s5 (p_i.toNat * 1))) 7 hF rfl (ex_indexAddr Try.underlying23 sz28 rfl rfl (h5.idx he_10)) rfl rfl (by kernel_rfl) (by kernel_rfl) (by kernel_rfl) fun a hF=>e_xm (v:=s12.v) 8 hF hS (Mem.le.refl _) rfl (ex_loadE1 0 Try.underlying28 rfl rfl ((at11).at) rfl rfl) rfl rfl (by kernel_rfl) (by kernel_rfl) (by kernel_rfl) fun a hF=>e_p (v:=(iV p_j)) 9 hF rfl (ex_move rfl) rfl rfl (by kernel_rfl) (by kernel_rfl) (by kernel_rfl) fun a hF=>?_
 obtain ⟨e_13,he_13,hr⟩:=bindS hr
 obtain ⟨vs14,at14,d14⟩:=h12.at he_13 1 rfl
 obtain rfl : vs14 = [(iV e_13)]:=d14
 refine e_p (v:=(elP s12 (p_j.toNat * 1))) 10 hF rfl (ex_indexAddr Try.underlying28 sz3 rfl rfl (h12.idx he_13)) rfl rfl (by kernel_rfl) (by kernel_rfl) (by kernel_rfl) fun a hF=>e_xm (v:=(iV e_13)) 11 hF hS (Mem.le.refl _) rfl (ex_loadE1 0 Try.underlying3 rfl rfl ((at14).at) rfl rfl) rfl rfl (by kernel_rfl) (by kernel_rfl) (by kernel_rfl) fun a hF=>e_p (v:=(.pointer (some ⟨b6,2,none⟩))) 12 hF rfl (ex_fieldAddr Try.underlying50 rfl sz23 rfl rfl) rfl rfl (by kernel_rfl) (by kernel_rfl) (by kernel_rfl) fun a hF=>e_xb (v:=s3.v) 13 1 hF hS (.head _) rfl rfl (ex_load1 0 0 Try.underlying23 rfl rfl rfl rfl) rfl rfl (by kernel_rfl) (by kernel_rfl) (by kernel_rfl) fun a hF=>e_p (v:=(iV p_i)) 14 hF rfl (ex_move rfl) rfl rfl (by kernel_rfl) (by kernel_rfl) (by kernel_rfl) fun a hF=>?_
 obtain ⟨e_15,he_15,hr⟩:=bindS hr
 obtain ⟨vs16,at16,d16⟩:=h3.at he_15 1 rfl
 obtain ⟨s17,rfl,h17⟩ : ∃ s17 : Sl,vs16 = [s17.v]∧Rd m s17 e_15:=d16
 refine e_p (v:=(elP s3 (p_i.toNat * 1))) 15 hF rfl (ex_indexAddr Try.underlying23 sz28 rfl rfl (h3.idx he_15)) rfl rfl (by kernel_rfl) (by kernel_rfl) (by kernel_rfl) fun a hF=>e_xm (v:=s17.v) 16 hF hS (Mem.le.refl _) rfl (ex_loadE1 0 Try.underlying28 rfl rfl ((at16).at) rfl rfl) rfl rfl (by kernel_rfl) (by kernel_rfl) (by kernel_rfl) fun a hF=>e_p (v:=(iV p_j)) 17 hF rfl (ex_move rfl) rfl rfl (by kernel_rfl) (by kernel_rfl) (by kernel_rfl) fun a hF=>?_
 obtain ⟨e_18,he_18,hr⟩:=bindS hr
 obtain ⟨vs19,at19,d19⟩:=h17.at he_18 1 rfl
 obtain rfl : vs19 = [(iV e_18)]:=d19
 refine e_p (v:=(elP s17 (p_j.toNat * 1))) 18 hF rfl (ex_indexAddr Try.underlying28 sz3 rfl rfl (h17.idx he_18)) rfl rfl (by kernel_rfl) (by kernel_rfl) (by kernel_rfl) fun a hF=>e_xm (v:=(iV e_18)) 19 hF hS (Mem.le.refl _) rfl (ex_loadE1 0 Try.underlying3 rfl rfl ((at19).at) rfl rfl) rfl rfl (by kernel_rfl) (by kernel_rfl) (by kernel_rfl) fun a hF=>e_p (v:=(iV (w64 (e_13 - e_18)))) 20 hF rfl (ex_ibin rfl rfl rfl) rfl rfl (by kernel_rfl) (by kernel_rfl) (by kernel_rfl) fun a hF=>e_one 21 (by kernel_rfl) ?_
 have hS20 : St _ _ _ _ ([q9]++[[⟨b6,[s1.v,s2.v,s3.v,s4.v],50⟩]]):=hS
 have hE20:=hS20.enter
 obtain ⟨t_21,ht_21,hr⟩:=bindS hr
 have hSo:=hS
 refine e_opl rfl rfl rfl fun _ hK=>wp_callX (vs:=[s9.v,(iV p_i),(iV (w64 ((goLen p_t.Rows) + p_j))),(iV (w64 (e_13 - e_18)))]) hF Try.func156 (by kernel_rfl) rfl rfl rfl (c_impl_push t_7 p_i (w64 ((goLen p_t.Rows) + p_j)) (w64 (e_13 - e_18)) t_21 ht_21 _ m s9 q9 h9 _ hE20) fun a w _ hR hF=>hK _ _ ?_
 obtain ⟨q22,rfl,hR20,h22⟩:=hR
 have hS : St _ _ _ _ [q22,[⟨b6,[s1.v,s2.v,s3.v,s4.v],50⟩]]:=hS20.leaveF hR20
 refine ⟨⟨kpC hSo hS 1 1 rfl rfl kpN,fun _=>hS.vis.of_le (Mem.le.refl _)⟩,?_⟩
 refine e_p (v:=(iV t_21.1)) 22 hF rfl (ex_assign rfl) rfl rfl (by kernel_rfl) (by kernel_rfl) (by kernel_rfl) fun a hF=>e_end (by kernel_rfl) (n_sq ?_) _
 refine q_seq (q_region (q_x (v:=(.agg #[s1.v,s2.v,s3.v,s4.v])) hF hS (ex_loadA (vs:=[s1.v,s2.v,s3.v,s4.v]) 1 0 Try.underlying50 rfl sz50 rfl rfl rfl rfl) rfl rfl fun a hF=>q_x (v:=s5.v) hF hS (ex_move rfl) rfl rfl fun a hF=>q_x (v:=s9.v) hF hS (ex_move rfl) rfl rfl fun a hF=>q_x (v:=(iV (w64 ((w64 (p_i * (goLen p_t.Cols))) + p_j)))) hF hS (ex_move rfl) rfl rfl fun a hF=>?_))
 obtain ⟨m24,hl24,hv24,hz24⟩:=hS.lend
 obtain ⟨t_23,ht_23,hr⟩:=bindS hr
 refine q_call (vs:=[(.agg #[s1.v,s2.v,s3.v,s4.v]),s5.v,s9.v,(iV (w64 ((w64 (p_i * (goLen p_t.Cols))) + p_j)))]) hF hS Try.func169 (by kernel_rfl) rfl rfl rfl (c_impl_restore p_t p_x t_21.2 (w64 ((w64 (p_i * (goLen p_t.Cols))) + p_j)) t_23 ht_23 _ m24 hv24 s1 (h1.mono hl24) s2 (h2.mono hl24) s3 (h3.mono hl24) s4 (h4.mono hl24) s5 (h5.mono hl24) s9 (h22.froz hl24 (hz24 0 _ rfl))) ?_
 rintro a w _ ⟨q26,s26,rfl,hR25,h26,h26n⟩ hF hS2
 have hS : St _ _ _ _ [q26,q22,[⟨b6,[s1.v,s2.v,s3.v,s4.v],50⟩]]:=hS.joinF hR25
 have h26:=h26.any m
 refine q_x (v:=s26.v) hF hS (ex_assign rfl) rfl rfl fun a hF=>q_end (n_sq (q_seq (q_region (q_x (v:=s26.v) hF hS (ex_move rfl) rfl rfl fun a hF=>q_x (v:=(iV p_i)) hF hS (ex_move rfl) rfl rfl fun a hF=>?_))))
 obtain ⟨e_27,he_27,hr⟩:=bindS hr
 obtain ⟨s28,hV28⟩:=h26.view he_27
 refine q_x (v:=(elP s26 (p_i.toNat * 1))) hF hS (ex_indexAddr Try.underlying23 sz28 rfl rfl (h26.idx he_27)) rfl rfl fun a hF=>q_x (v:=s28.v) hF hS (ex_loadE1 0 Try.underlying28 rfl rfl ((hV28.atH he_27).at 0 rfl) rfl rfl) rfl rfl fun a hF=>q_x (v:=(iV p_j)) hF hS (ex_move rfl) rfl rfl fun a hF=>?_
 obtain ⟨e_29,he_29,hr⟩:=bindS hr
 obtain ⟨vs30,at30,d30⟩:=hV28.at he_27 he_29 1 rfl
 obtain rfl : vs30 = [(iV e_29)]:=d30
 refine q_x (v:=(elP s28 (p_j.toNat * 1))) hF hS (ex_indexAddr Try.underlying28 sz3 rfl rfl (hV28.idx he_27 he_29)) rfl rfl fun a hF=>q_x (v:=(iV e_29)) hF hS (ex_loadE1 0 Try.underlying3 rfl rfl (at30.at 0 rfl) rfl rfl) rfl rfl fun a hF=>q_x (v:=(iV t_21.1)) hF hS (ex_move rfl) rfl rfl fun a hF=>q_x (v:=(iV (w64 (e_29 - t_21.1)))) hF hS (ex_ibin rfl rfl rfl) rfl rfl fun a hF=>?_
 obtain ⟨e_31,he_31,hr⟩:=bindS hr
 obtain ⟨vs32,at32,d32⟩:=hV28.at he_27 he_31 1 rfl
 obtain rfl : vs32 = [(iV e_31)]:=d32
 refine q_x (v:=(elP s28 (p_j.toNat * 1))) hF hS (ex_indexAddr Try.underlying28 sz3 rfl rfl (hV28.idx he_27 he_31)) rfl rfl fun a hF=>q_do rfl fun _ hK=>wp_storeV (e':=(w64 (e_29 - t_21.1))) (us:=[(iV (w64 (e_29 - t_21.1)))]) (vs:=[(iV e_31)]) 0 hF hS hV28 he_27 sz3 rfl rfl rfl rfl rfl rfl rfl he_31 at32 rfl rfl rfl fun w q33 hS h33=>hK _ _ (q_end (n_sq (q_seq (q_region (q_x (v:=s26.v) hF hS (ex_move rfl) rfl rfl fun a hF=>q_x (v:=s26.v) hF hS (ex_assign rfl) rfl rfl fun a hF=>q_end (n_sq (q_ret ?_)))))))
 obtain rfl:=someI hr
 exact ret_of hF hS rfl (.tmp rfl .nil) ⟨q33,s26,rfl,hS.sel [0] (by decide),h33.own,(NF.set h26n)⟩

theorem c_impl_firstFrom (p_t : impl_Transport) (p_x : List (List Int)) (p_from : Int) (r : (List (List Int))) (hr : impl_firstFrom p_t p_x p_from = some r) (w0 : World) (m : Mem) (hv : Vis m w0) (s1 : Sl) (h1 : Rd m s1 p_t.Rows) (s2 : Sl) (h2 : Rd m s2 p_t.Cols) (s3 : Sl) (h3 : Rd m s3 p_t.Lo) (s4 : Sl) (h4 : Rd m s4 p_t.Hi) (s5 : Sl) (h5 : Rd m s5 p_x) :
  Ret Try.prog 163 [(.agg #[s1.v,s2.v,s3.v,s4.v]),s5.v,(iV p_from)] w0 (fun v w=>∃ (m' : Mem) (s0' : Sl),v = s0'.v∧MLe [] w0.heap.size m m'∧St [] w0 w m' []∧Rd m' s0' r∧NF s0' r):=by
 unfold impl_firstFrom at hr
 refine ret_start Try.func163 rfl 33 rfl rfl m hv fun a hF hS=>?_
 obtain ⟨_,hne1,hr⟩:=bindS hr
 refine q_seq (q_region (q_box (cs:=[s1.v,s2.v,s3.v,s4.v]) hF hS rfl rfl rfl fun a w b6 hF hS=>q_x (v:=nilS.v) hF hS (ex_assign rfl) rfl rfl fun a hF=>q_end (n_sq (q_seq (q_region (q_x (v:=(.pointer (some ⟨b6,1,none⟩))) hF hS (ex_fieldAddr Try.underlying50 rfl sz28 rfl rfl) rfl rfl fun a hF=>q_x (v:=s2.v) hF hS (ex_load1 0 0 Try.underlying28 rfl rfl rfl rfl) rfl rfl fun a hF=>q_x (v:=(iV (goLen p_t.Cols))) hF hS (ex_len Try.underlying28 rfl h2.len) rfl rfl fun a hF=>q_x (v:=(iV (goLen p_t.Cols))) hF hS (ex_assign rfl) rfl rfl fun a hF=>q_end (n_sq (q_seq (q_seq (q_region (q_x (v:=(iV p_from)) hF hS (ex_move rfl) rfl rfl fun a hF=>q_x (v:=(iV (w64 (p_from + 1)))) hF hS (ex_ibin rfl rfl rfl) rfl rfl fun a hF=>q_x (v:=(iV (w64 (p_from + 1)))) hF hS (ex_assign rfl) rfl rfl fun a hF=>q_end (n_sq (q_block ?_)))))))))))))
 obtain ⟨x_16,hl1,hr⟩:=bindS hr
 refine q_loop (fun (s : (List (List Int)) × Int) a w=>∃ (m10 : Mem),∃ (s8 : Sl),∃ x_7,∃ p_9,s = (x_7,p_9)∧Fr a 33 [(1,s8.v),(3,(.pointer (some ⟨b6,0,none⟩))),(7,(iV (goLen p_t.Cols))),(8,(iV p_9))]∧St [] w0 w m10 [[⟨b6,[s1.v,s2.v,s3.v,s4.v],50⟩]]∧MLe [] w0.heap.size m m10∧Rd m10 s8 x_7∧NF s8 x_7) (fun (x_16 : (List (List Int))) e a w=>∃ (m18 : Mem),∃ (s17 : Sl),e = .exit 0∧Fr a 33 [(1,s17.v)]∧St [] w0 w m18 []∧MLe [] w0.heap.size m m18∧Rd m18 s17 x_16∧NF s17 x_16) hl1 ⟨m,s5,_,_,rfl,hF.sub ⟨rfl,rfl,rfl,rfl,trivial⟩,hS,(MLe.refl _ _),h5,(NF.goNE hne1)⟩ ?_ ?_
 ·clear hF hS
  rintro s a w st ⟨m10,s8,x_7,p_9,rfl,hF,hS,hm10,h8,h8n⟩ hb1
  unfold impl_firstFrom_l1 at hb1
  refine q_seq (q_seq (q_region (q_x (v:=(iV p_9)) hF hS (ex_move rfl) rfl rfl fun a hF=>q_x (v:=(.pointer (some ⟨b6,0,none⟩))) hF hS (ex_fieldAddr Try.underlying50 rfl sz28 rfl rfl) rfl rfl fun a hF=>q_x (v:=s1.v) hF hS (ex_load1 0 0 Try.underlying28 rfl rfl rfl rfl) rfl rfl fun a hF=>q_x (v:=(iV (goLen p_t.Rows))) hF hS (ex_len Try.underlying28 rfl (h1.mono hm10.le).len) rfl rfl fun a hF=>q_x (v:=(iV (goLen p_t.Cols))) hF hS (ex_move rfl) rfl rfl fun a hF=>q_x (v:=(iV (w64 ((goLen p_t.Rows) * (goLen p_t.Cols))))) hF hS (ex_ibin rfl rfl rfl) rfl rfl fun a hF=>q_x (v:=(.bool (decide (p_9 < (w64 ((goLen p_t.Rows) * (goLen p_t.Cols))))))) hF hS (ex_ibin rfl rfl rfl) rfl rfl fun a hF=>q_end (n_sq ?_))))
  rcases bcase (decide (p_9 < (w64 ((goLen p_t.Rows) * (goLen p_t.Cols))))) with hc2 | hc2
  ·have hb1:=cond_f hc2 hb1
   refine q_cond_f hF rfl hc2 (q_exit (x_sq ?_))
   obtain rfl:=someI hb1
   exact ⟨nofun,.inl ⟨m10,s8,rfl,hF.sub ⟨rfl,trivial⟩,hS.mask [false],hm10,h8,h8n⟩⟩
  ·have hb1:=cond_t hc2 hb1
   refine q_cond_t hF rfl hc2 (q_skipc (n_sq (q_seq (q_block (e_region ⟨[],[],m10⟩ mixed fun w' hw'=>?_)))))
   have hS:=hS.below hw'
   refine e_x (v:=(.agg #[s1.v,s2.v,s3.v,s4.v])) 0 hF hS rfl (ex_loadA (vs:=[s1.v,s2.v,s3.v,s4.v]) 0 0 Try.underlying50 rfl sz50 rfl rfl rfl rfl) rfl rfl (by kernel_rfl) (by kernel_rfl) (by kernel_rfl) (by kernel_rfl) fun a hF=>e_p (v:=s8.v) 1 hF rfl (ex_move rfl) rfl rfl (by kernel_rfl) (by kernel_rfl) (by kernel_rfl) fun a hF=>e_p (v:=(iV p_9)) 2 hF rfl (ex_move rfl) rfl rfl (by kernel_rfl) (by kernel_rfl) (by kernel_rfl) fun a hF=>e_p (v:=(iV (goLen p_t.Cols))) 3 hF rfl (ex_move rfl) rfl rfl (by kernel_rfl) (by kernel_rfl) (by kernel_rfl) fun a hF=>?_
   obtain ⟨t_11,ht_11,hb1⟩:=bindS hb1
   refine e_p (v:=(iV t_11)) 4 hF rfl (ex_quo rfl rfl ht_11) rfl rfl (by kernel_rfl) (by kernel_rfl) (by kernel_rfl) fun a hF=>e_p (v:=(iV p_9)) 5 hF rfl (ex_move rfl) rfl rfl (by kernel_rfl) (by kernel_rfl) (by kernel_rfl) fun a hF=>e_p (v:=(iV (goLen p_t.Cols))) 6 hF rfl (ex_move rfl) rfl rfl (by kernel_rfl) (by kernel_rfl) (by kernel_rfl) fun a hF=>?_
   obtain ⟨t_12,ht_12,hb1⟩:=bindS hb1
   refine e_p (v:=(iV t_12)) 7 hF rfl (ex_rem rfl rfl ht_12) rfl rfl (by kernel_rfl) (by kernel_rfl) (by kernel_rfl) fun a hF=>e_one 8 (by kernel_rfl) ?_
   obtain ⟨t_13,ht_13,hb1⟩:=bindS hb1
   refine e_call (vs:=[(.agg #[s1.v,s2.v,s3.v,s4.v]),s8.v,(iV t_11),(iV t_12)]) hF hS rfl Try.func183 (by kernel_rfl) rfl rfl rfl (c_impl_lowered p_t x_7 t_11 t_12 t_13 ht_13 _ m10 hS.vis s1 (h1.mono hm10.le) s2 (h2.mono hm10.le) s3 (h3.mono hm10.le) s4 (h4.mono hm10.le) s8 h8) ?_
   rintro a w _ ⟨q15,s15,rfl,hR14,h15,h15n⟩ hF hS2
   have hS : St _ _ _ _ [q15,[⟨b6,[s1.v,s2.v,s3.v,s4.v],50⟩]]:=hS.joinF hR14
   refine e_p (v:=s15.v) 9 hF rfl (ex_assign rfl) rfl rfl (by kernel_rfl) (by kernel_rfl) (by kernel_rfl) fun a hF=>e_end (by kernel_rfl) (n_ib (n_sq ?_)) _
   refine q_region (q_x (v:=(iV p_9)) hF hS (ex_move rfl) rfl rfl fun a hF=>q_x (v:=(iV (w64 (p_9 + 1)))) hF hS (ex_ibin rfl rfl rfl) rfl rfl fun a hF=>q_x (v:=(iV (w64 (p_9 + 1)))) hF hS (ex_assign rfl) rfl rfl fun a hF=>q_end ?_)
   obtain rfl:=someI hb1
   obtain ⟨mf2,hmf2,hS,hzf2⟩:=hS.freeze
   have hf2:=h15.froz hmf2.le hzf2
   exact ⟨rfl,mf2,s15,_,_,rfl,hF.sub ⟨rfl,rfl,rfl,rfl,trivial⟩,hS,(hm10.trans hmf2),hf2,h15n⟩
 ·rintro e a w ⟨m18,s17,rfl,hF,hS,hm18,h17,h17n⟩
  refine x_ib (n_sq ?_)
  refine q_seq (q_region (q_x (v:=s17.v) hF hS (ex_move rfl) rfl rfl fun a hF=>q_x (v:=s17.v) hF hS (ex_assign rfl) rfl rfl fun a hF=>q_end (n_sq (q_ret ?_))))
  obtain rfl:=someI hr
  exact ret_of hF hS rfl (.tmp rfl .nil) ⟨m18,s17,rfl,hm18,hS.sel [] (by decide),h17,h17n⟩

theorem c_impl_firstFlow (p_t : impl_Transport) (r : (List (List Int))) (hr : impl_firstFlow p_t = some r) (w0 : World) (m : Mem) (hv : Vis m w0) (s1 : Sl) (h1 : Rd m s1 p_t.Rows) (s2 : Sl) (h2 : Rd m s2 p_t.Cols) (s3 : Sl) (h3 : Rd m s3 p_t.Lo) (s4 : Sl) (h4 : Rd m s4 p_t.Hi) :
  Ret Try.prog 117 [(.agg #[s1.v,s2.v,s3.v,s4.v])] w0 (fun v w=>∃ (m' : Mem) (s0' : Sl),v = s0'.v∧MLe [] w0.heap.size m m'∧St [] w0 w m' []∧Rd m' s0' r∧NF s0' r):=by
 unfold impl_firstFlow at hr
 refine ret_start Try.func117 rfl 11 rfl rfl m hv fun a hF hS=>q_seq (q_region (q_box (cs:=[s1.v,s2.v,s3.v,s4.v]) hF hS rfl rfl rfl fun a w b5 hF hS=>q_x (v:=nilS.v) hF hS (ex_assign rfl) rfl rfl fun a hF=>q_end (n_sq (q_seq (q_region (q_x (v:=(.agg #[s1.v,s2.v,s3.v,s4.v])) hF hS (ex_loadA (vs:=[s1.v,s2.v,s3.v,s4.v]) 0 0 Try.underlying50 rfl sz50 rfl rfl rfl rfl) rfl rfl fun a hF=>?_))))))
 obtain ⟨t_6,ht_6,hr⟩:=bindS hr
 refine q_call (vs:=[(.agg #[s1.v,s2.v,s3.v,s4.v])]) hF hS Try.func124 (by kernel_rfl) rfl rfl rfl (c_impl_anyFlow p_t t_6 ht_6 _ m hS.vis s1 h1 s2 h2 s3 h3 s4 h4) ?_
 rintro a w _ ⟨q8,s8,rfl,hR7,h8,h8n⟩ hF hS2
 have hS : St _ _ _ _ [q8,[⟨b5,[s1.v,s2.v,s3.v,s4.v],50⟩]]:=hS.joinF hR7
 refine q_x (v:=s8.v) hF hS (ex_assign rfl) rfl rfl fun a hF=>q_end (n_sq (q_seq (q_seq (q_region (q_x (v:=s8.v) hF hS (ex_move rfl) rfl rfl fun a hF=>q_x (v:=(.bool t_6.isEmpty)) hF hS (ex_eqNilF Try.underlying23 h8n h8.nilE rfl rfl) rfl rfl fun a hF=>q_end (n_sq ?_))))))
 rcases bcase (t_6.isEmpty) with hc1 | hc1
 ·have hr:=cond_f hc1 hr
  refine q_cond_f hF rfl hc1 (q_skipc (n_sq (q_seq (q_region (q_x (v:=(.agg #[s1.v,s2.v,s3.v,s4.v])) hF hS (ex_loadA (vs:=[s1.v,s2.v,s3.v,s4.v]) 1 0 Try.underlying50 rfl sz50 rfl rfl rfl rfl) rfl rfl fun a hF=>q_x (v:=s8.v) hF hS (ex_move rfl) rfl rfl fun a hF=>?_)))))
  obtain ⟨m9,hm9,hS,hz9⟩:=hS.freeze
  have h9:=h8.froz hm9.le hz9
  obtain ⟨t_10,ht_10,hr⟩:=bindS hr
  refine q_call (vs:=[(.agg #[s1.v,s2.v,s3.v,s4.v]),s8.v,(iV (-1))]) hF hS Try.func163 (by kernel_rfl) rfl rfl rfl (c_impl_firstFrom p_t t_6 (-1) t_10 ht_10 _ m9 hS.vis s1 (h1.mono hm9.le) s2 (h2.mono hm9.le) s3 (h3.mono hm9.le) s4 (h4.mono hm9.le) s8 h9) ?_
  have hT:=hS
  rintro a w _ ⟨m11,s12,rfl,hm11,hR11,h12,h12n⟩ hF hS2
  have hS : St _ _ _ _ [[⟨b5,[s1.v,s2.v,s3.v,s4.v],50⟩]]:=hS.join hR11 hm11
  have hm11:=MLe.weakX (O0:=[]) hT hm11
  refine q_x (v:=s12.v) hF hS (ex_assign rfl) rfl rfl fun a hF=>q_end (n_sq (q_ret ?_))
  obtain rfl:=someI hr
  exact ret_of hF hS rfl (.tmp rfl .nil) ⟨m11,s12,rfl,(hm9.trans hm11),hS.sel [] (by decide),h12,h12n⟩
 ·have hr:=cond_t hc1 hr
  refine q_cond_t hF rfl hc1 (q_seq (q_region (q_x (v:=nilS.v) hF hS (ex_assign rfl) rfl rfl fun a hF=>q_end (n_sq (q_ret (r_sq ?_))))))
  obtain rfl:=someI hr
  exact ret_of hF hS rfl (.tmp rfl .nil) ⟨m,nilS,rfl,(MLe.refl _ _),hS.sel [] (by decide),(Rd.nil0 (α:=List Int) m),(NF.nil)⟩

theorem c_impl_nextFlow (p_t : impl_Transport) (p_x : List (List Int)) (r : (List (List Int))) (hr : impl_nextFlow p_t p_x = some r) (w0 : World) (m : Mem) (hv : Vis m w0) (s1 : Sl) (h1 : Rd m s1 p_t.Rows) (s2 : Sl) (h2 : Rd m s2 p_t.Cols) (s3 : Sl) (h3 : Rd m s3 p_t.Lo) (s4 : Sl) (h4 : Rd m s4 p_t.Hi) (s5 : Sl) (h5 : Rd m s5 p_x) :
  Ret Try.prog 125 [(.agg #[s1.v,s2.v,s3.v,s4.v]),s5.v] w0 (fun v w=>∃ (m' : Mem) (s0' : Sl),v = s0'.v∧MLe [] w0.heap.size m m'∧St [] w0 w m' []∧Rd m' s0' r∧NF s0' r):=by
 unfold impl_nextFlow at hr
 refine ret_start Try.func125 rfl 77 rfl rfl m hv fun a hF hS=>q_seq (q_region (q_box (cs:=[s1.v,s2.v,s3.v,s4.v]) hF hS rfl rfl rfl fun a w b6 hF hS=>q_x (v:=nilS.v) hF hS (ex_assign rfl) rfl rfl fun a hF=>q_end (n_sq (q_seq (e_region ⟨[],[],m⟩ mixed fun w' hw'=>?_)))))
 have hS:=hS.below hw'
 refine e_p (v:=(.pointer (some ⟨b6,0,none⟩))) 0 hF rfl (ex_fieldAddr Try.underlying50 rfl sz28 rfl rfl) rfl rfl (by kernel_rfl) (by kernel_rfl) (by kernel_rfl) fun a hF=>e_x (v:=s1.v) 1 hF hS rfl (ex_load1 0 0 Try.underlying28 rfl rfl rfl rfl) rfl rfl (by kernel_rfl) (by kernel_rfl) (by kernel_rfl) (by kernel_rfl) fun a hF=>e_p (v:=(iV (goLen p_t.Rows))) 2 hF rfl (ex_len Try.underlying28 rfl h1.len) rfl rfl (by kernel_rfl) (by kernel_rfl) (by kernel_rfl) fun a hF=>e_p (v:=(.pointer (some ⟨b6,1,none⟩))) 3 hF rfl (ex_fieldAddr Try.underlying50 rfl sz28 rfl rfl) rfl rfl (by kernel_rfl) (by kernel_rfl) (by kernel_rfl) fun a hF=>e_x (v:=s2.v) 4 hF hS rfl (ex_load1 0 0 Try.underlying28 rfl rfl rfl rfl) rfl rfl (by kernel_rfl) (by kernel_rfl) (by kernel_rfl) (by kernel_rfl) fun a hF=>e_p (v:=(iV (goLen p_t.Cols))) 5 hF rfl (ex_len Try.underlying28 rfl h2.len) rfl rfl (by kernel_rfl) (by kernel_rfl) (by kernel_rfl) fun a hF=>e_p (v:=(iV (goLen p_t.Rows))) 6 hF rfl (ex_assign rfl) rfl rfl (by kernel_rfl) (by kernel_rfl) (by kernel_rfl) fun a hF=>e_p (v:=(iV (goLen p_t.Cols))) 7 hF rfl (ex_assign rfl) rfl rfl (by kernel_rfl) (by kernel_rfl) (by kernel_rfl) fun a hF=>e_end (by kernel_rfl) (n_sq ?_) _
 refine q_seq (q_seq (q_region (q_x (v:=(iV (goLen p_t.Rows))) hF hS (ex_move rfl) rfl rfl fun a hF=>q_x (v:=(iV (goLen p_t.Cols))) hF hS (ex_move rfl) rfl rfl fun a hF=>q_x (v:=(iV (w64 ((goLen p_t.Rows) * (goLen p_t.Cols))))) hF hS (ex_ibin rfl rfl rfl) rfl rfl fun a hF=>q_x (v:=(iV (w64 ((w64 ((goLen p_t.Rows) * (goLen p_t.Cols))) - 1)))) hF hS (ex_ibin rfl rfl rfl) rfl rfl fun a hF=>q_x (v:=(iV (w64 ((w64 ((goLen p_t.Rows) * (goLen p_t.Cols))) - 1)))) hF hS (ex_assign rfl) rfl rfl fun a hF=>q_end (n_sq (q_block ?_)))))
 obtain ⟨o1,hl1,hr⟩:=bindS hr
 refine q_loop (fun (p_7 : Int) a w=>Fr a 77 [(1,s5.v),(2,(.pointer (some ⟨b6,0,none⟩))),(5,(iV (goLen p_t.Rows))),(6,(iV (goLen p_t.Cols))),(7,(iV p_7))]∧St [] w0 w m [[⟨b6,[s1.v,s2.v,s3.v,s4.v],50⟩]]) (fun (o : (Unit) ⊕ ((List (List Int)))) e a w=>o = .inl ()∧e = .exit 0∧Fr a 77 []∧St [] w0 w m []) hl1 ⟨hF.sub ⟨rfl,rfl,rfl,rfl,rfl,trivial⟩,hS⟩ ?_ ?_
 ·clear hF hS
  rintro p_7 a w st ⟨hF,hS⟩ hb1
  unfold impl_nextFlow_l1 at hb1
  refine q_seq (q_seq (q_region (q_x (v:=(iV p_7)) hF hS (ex_move rfl) rfl rfl fun a hF=>q_x (v:=(.bool (decide (0 ≤ p_7)))) hF hS (ex_ibin rfl rfl rfl) rfl rfl fun a hF=>q_end (n_sq ?_))))
  rcases bcase (decide (0 ≤ p_7)) with hc2 | hc2
  ·have hb1:=cond_f hc2 hb1
   refine q_cond_f hF rfl hc2 (q_exit (x_sq ?_))
   obtain rfl:=someI hb1
   exact ⟨nofun,.inl ⟨rfl,rfl,hF.sub trivial,hS.mask [false]⟩⟩
  ·have hb1:=cond_t hc2 hb1
   refine q_cond_t hF rfl hc2 (q_skipc (n_sq (q_seq ?_)))
   obtain ⟨j3,hj3,hb1⟩:=bindS hb1
   refine q_join (fun a w=>j3 = .inl ()∧Fr a 77 [(1,s5.v),(2,(.pointer (some ⟨b6,0,none⟩))),(5,(iV (goLen p_t.Rows))),(6,(iV (goLen p_t.Cols))),(7,(iV p_7))]∧St [] w0 w m [[⟨b6,[s1.v,s2.v,s3.v,s4.v],50⟩]]) ?_ ?_
   ·refine q_block (q_seq (e_region ⟨[],[],m⟩ mixed fun w' hw'=>?_))
    have hS:=hS.below hw'
    refine e_p (v:=(iV p_7)) 0 hF rfl (ex_move rfl) rfl rfl (by kernel_rfl) (by kernel_rfl) (by kernel_rfl) fun a hF=>e_p (v:=(iV (goLen p_t.Cols))) 1 hF rfl (ex_move rfl) rfl rfl (by kernel_rfl) (by kernel_rfl) (by kernel_rfl) fun a hF=>?_
    obtain ⟨t_8,ht_8,hj3⟩:=bindS hj3
    refine e_p (v:=(iV t_8)) 2 hF rfl (ex_quo rfl rfl ht_8) rfl rfl (by kernel_rfl) (by kernel_rfl) (by kernel_rfl) fun a hF=>e_p (v:=(iV p_7)) 3 hF rfl (ex_move rfl) rfl rfl (by kernel_rfl) (by kernel_rfl) (by kernel_rfl) fun a hF=>e_p (v:=(iV (goLen p_t.Cols))) 4 hF rfl (ex_move rfl) rfl rfl (by kernel_rfl) (by kernel_rfl) (by kernel_rfl) fun a hF=>?_
    obtain ⟨t_9,ht_9,hj3⟩:=bindS hj3
    refine e_p (v:=(iV t_9)) 5 hF rfl (ex_rem rfl rfl ht_9) rfl rfl (by kernel_rfl) (by kernel_rfl) (by kernel_rfl) fun a hF=>e_p (v:=(iV t_8)) 6 hF rfl (ex_assign rfl) rfl rfl (by kernel_rfl) (by kernel_rfl) (by kernel_rfl) fun a hF=>e_p (v:=(iV t_9)) 7 hF rfl (ex_assign rfl) rfl rfl (by kernel_rfl) (by kernel_rfl) (by kernel_rfl) fun a hF=>e_end (by kernel_rfl) (n_sq ?_) _
    refine q_seq (q_seq (e_region ⟨[],[],m⟩ mixed fun w' hw'=>?_))
    have hS:=hS.below hw'
    refine e_p (v:=s5.v) 0 hF rfl (ex_move rfl) rfl rfl (by kernel_rfl) (by kernel_rfl) (by kernel_rfl) fun a hF=>e_p (v:=(iV t_8)) 1 hF rfl (ex_move rfl) rfl rfl (by kernel_rfl) (by kernel_rfl) (by kernel_rfl) fun a hF=>?_
    obtain ⟨e_10,he_10,hj3⟩:=bindS hj3
    obtain ⟨vs11,at11,d11⟩:=h5.at he_10 1 rfl
    obtain ⟨s12,rfl,h12⟩ : ∃ s12 : Sl,vs11 = [s12.v]∧Rd m s12 e_10:=d11
    refine e_p (v:=(elP s5 (t_8.toNat * 1))) 2 hF rfl (ex_indexAddr Try.underlying23 sz28 rfl rfl (h5.idx he_10)) rfl rfl (by kernel_rfl) (by kernel_rfl) (by kernel_rfl) fun a hF=>e_xm (v:=s12.v) 3 hF hS (Mem.le.refl _) rfl (ex_loadE1 0 Try.underlying28 rfl rfl ((at11).at) rfl rfl) rfl rfl (by kernel_rfl) (by kernel_rfl) (by kernel_rfl) fun a hF=>e_p (v:=(iV t_9)) 4 hF rfl (ex_move rfl) rfl rfl (by kernel_rfl) (by kernel_rfl) (by kernel_rfl) fun a hF=>?_
    obtain ⟨e_13,he_13,hj3⟩:=bindS hj3
    obtain ⟨vs14,at14,d14⟩:=h12.at he_13 1 rfl
    obtain rfl : vs14 = [(iV e_13)]:=d14
    refine e_p (v:=(elP s12 (t_9.toNat * 1))) 5 hF rfl (ex_indexAddr Try.underlying28 sz3 rfl rfl (h12.idx he_13)) rfl rfl (by kernel_rfl) (by kernel_rfl) (by kernel_rfl) fun a hF=>e_xm (v:=(iV e_13)) 6 hF hS (Mem.le.refl _) rfl (ex_loadE1 0 Try.underlying3 rfl rfl ((at14).at) rfl rfl) rfl rfl (by kernel_rfl) (by kernel_rfl) (by kernel_rfl) fun a hF=>e_p (v:=(.pointer (some ⟨b6,3,none⟩))) 7 hF rfl (ex_fieldAddr Try.underlying50 rfl sz23 rfl rfl) rfl rfl (by kernel_rfl) (by kernel_rfl) (by kernel_rfl) fun a hF=>e_x (v:=s4.v) 8 hF hS rfl (ex_load1 0 0 Try.underlying23 rfl rfl rfl rfl) rfl rfl (by kernel_rfl) (by kernel_rfl) (by kernel_rfl) (by kernel_rfl) fun a hF=>e_p (v:=(iV t_8)) 9 hF rfl (ex_move rfl) rfl rfl (by kernel_rfl) (by kernel_rfl) (by kernel_rfl) fun a hF=>?_
    obtain ⟨e_15,he_15,hj3⟩:=bindS hj3
    obtain ⟨vs16,at16,d16⟩:=h4.at he_15 1 rfl
    obtain ⟨s17,rfl,h17⟩ : ∃ s17 : Sl,vs16 = [s17.v]∧Rd m s17 e_15:=d16
    refine e_p (v:=(elP s4 (t_8.toNat * 1))) 10 hF rfl (ex_indexAddr Try.underlying23 sz28 rfl rfl (h4.idx he_15)) rfl rfl (by kernel_rfl) (by kernel_rfl) (by kernel_rfl) fun a hF=>e_xm (v:=s17.v) 11 hF hS (Mem.le.refl _) rfl (ex_loadE1 0 Try.underlying28 rfl rfl ((at16).at) rfl rfl) rfl rfl (by kernel_rfl) (by kernel_rfl) (by kernel_rfl) fun a hF=>e_p (v:=(iV t_9)) 12 hF rfl (ex_move rfl) rfl rfl (by kernel_rfl) (by kernel_rfl) (by kernel_rfl) fun a hF=>?_
    obtain ⟨e_18,he_18,hj3⟩:=bindS hj3
    obtain ⟨vs19,at19,d19⟩:=h17.at he_18 1 rfl
    obtain rfl : vs19 = [(iV e_18)]:=d19
    refine e_p (v:=(elP s17 (t_9.toNat * 1))) 13 hF rfl (ex_indexAddr Try.underlying28 sz3 rfl rfl (h17.idx he_18)) rfl rfl (by kernel_rfl) (by kernel_rfl) (by kernel_rfl) fun a hF=>e_xm (v:=(iV e_18)) 14 hF hS (Mem.le.refl _) rfl (ex_loadE1 0 Try.underlying3 rfl rfl ((at19).at) rfl rfl) rfl rfl (by kernel_rfl) (by kernel_rfl) (by kernel_rfl) fun a hF=>e_p (v:=(.bool (e_13 == e_18))) 15 hF rfl (ex_ibin rfl rfl rfl) rfl rfl (by kernel_rfl) (by kernel_rfl) (by kernel_rfl) fun a hF=>e_end (by kernel_rfl) (n_sq ?_) _
    rcases bcase (e_13 == e_18) with hc4 | hc4
    ·have hj3:=cond_f hc4 hj3
     refine q_cond_f hF rfl hc4 (q_skipc (n_sq (q_seq (q_region (q_x (v:=(.agg #[s1.v,s2.v,s3.v,s4.v])) hF hS (ex_loadA (vs:=[s1.v,s2.v,s3.v,s4.v]) 0 0 Try.underlying50 rfl sz50 rfl rfl rfl rfl) rfl rfl fun a hF=>q_x (v:=s5.v) hF hS (ex_move rfl) rfl rfl fun a hF=>q_x (v:=(iV p_7)) hF hS (ex_move rfl) rfl rfl fun a hF=>?_)))))
     obtain ⟨t_20,ht_20,hj3⟩:=bindS hj3
     refine q_call (vs:=[(.agg #[s1.v,s2.v,s3.v,s4.v]),s5.v,(iV p_7)]) hF hS Try.func155 (by kernel_rfl) rfl rfl rfl (c_impl_residual p_t p_x p_7 t_20 ht_20 _ m hS.vis s1 h1 s2 h2 s3 h3 s4 h4 s5 h5) ?_
     rintro a w _ ⟨q22,s22,rfl,hR21,h22⟩ hF hS2
     have hS : St _ _ _ _ [q22,[⟨b6,[s1.v,s2.v,s3.v,s4.v],50⟩]]:=hS.joinF hR21
     refine q_x (v:=s22.v) hF hS (ex_assign rfl) rfl rfl fun a hF=>q_end (n_sq (q_seq (q_seq (q_region (q_x (v:=s22.v) hF hS (ex_move rfl) rfl rfl fun a hF=>q_x (v:=(iV (goLen p_t.Rows))) hF hS (ex_move rfl) rfl rfl fun a hF=>q_x (v:=(iV t_9)) hF hS (ex_move rfl) rfl rfl fun a hF=>q_x (v:=(iV (w64 ((goLen p_t.Rows) + t_9)))) hF hS (ex_ibin rfl rfl rfl) rfl rfl fun a hF=>q_x (v:=(iV t_8)) hF hS (ex_move rfl) rfl rfl fun a hF=>?_)))))
     have hS23 : St _ _ _ _ ([q22]++[[⟨b6,[s1.v,s2.v,s3.v,s4.v],50⟩]]):=hS
     have hE23:=hS23.enter
     obtain ⟨t_24,ht_24,hj3⟩:=bindS hj3
     refine q_do rfl fun _ hK=>wp_callX (vs:=[s22.v,(iV (w64 ((goLen p_t.Rows) + t_9))),(iV t_8),(iV 1)]) hF Try.func156 (by kernel_rfl) rfl rfl rfl (c_impl_push t_20 (w64 ((goLen p_t.Rows) + t_9)) t_8 1 t_24 ht_24 _ m s22 q22 h22 _ hE23) fun a w _ hR hF=>hK _ _ ?_
     obtain ⟨q25,rfl,hR23,h25⟩:=hR
     have hS : St _ _ _ _ [q25,[⟨b6,[s1.v,s2.v,s3.v,s4.v],50⟩]]:=hS23.leaveF hR23
     refine q_x (v:=(.bool (t_24.1 == 0))) hF hS (ex_ibin rfl rfl rfl) rfl rfl fun a hF=>q_end (n_sq ?_)
     rcases bcase (t_24.1 == 0) with hc5 | hc5
     ·have hj3:=cond_f hc5 hj3
      refine q_cond_f hF rfl hc5 (q_skipc (n_sq (q_seq (q_region (q_x (v:=(.agg #[s1.v,s2.v,s3.v,s4.v])) hF hS (ex_loadA (vs:=[s1.v,s2.v,s3.v,s4.v]) 1 0 Try.underlying50 rfl sz50 rfl rfl rfl rfl) rfl rfl fun a hF=>q_x (v:=s5.v) hF hS (ex_move rfl) rfl rfl fun a hF=>q_x (v:=s22.v) hF hS (ex_move rfl) rfl rfl fun a hF=>q_x (v:=(iV p_7)) hF hS (ex_move rfl) rfl rfl fun a hF=>?_)))))
      obtain ⟨m27,hl27,hv27,hz27⟩:=hS.lend
      obtain ⟨t_26,ht_26,hj3⟩:=bindS hj3
      refine q_call (vs:=[(.agg #[s1.v,s2.v,s3.v,s4.v]),s5.v,s22.v,(iV p_7)]) hF hS Try.func169 (by kernel_rfl) rfl rfl rfl (c_impl_restore p_t p_x t_24.2 p_7 t_26 ht_26 _ m27 hv27 s1 (h1.mono hl27) s2 (h2.mono hl27) s3 (h3.mono hl27) s4 (h4.mono hl27) s5 (h5.mono hl27) s22 (h25.froz hl27 (hz27 0 _ rfl))) ?_
      rintro a w _ ⟨q29,s29,rfl,hR28,h29,h29n⟩ hF hS2
      have hS : St _ _ _ _ [q29,q25,[⟨b6,[s1.v,s2.v,s3.v,s4.v],50⟩]]:=hS.joinF hR28
      have h29:=h29.any m
      refine q_x (v:=s29.v) hF hS (ex_assign rfl) rfl rfl fun a hF=>q_end (n_sq (q_seq (q_region (q_x (v:=s29.v) hF hS (ex_move rfl) rfl rfl fun a hF=>q_x (v:=(iV t_8)) hF hS (ex_move rfl) rfl rfl fun a hF=>?_))))
      obtain ⟨e_30,he_30,hj3⟩:=bindS hj3
      obtain ⟨s31,hV31⟩:=h29.view he_30
      refine q_x (v:=(elP s29 (t_8.toNat * 1))) hF hS (ex_indexAddr Try.underlying23 sz28 rfl rfl (h29.idx he_30)) rfl rfl fun a hF=>q_x (v:=s31.v) hF hS (ex_loadE1 0 Try.underlying28 rfl rfl ((hV31.atH he_30).at 0 rfl) rfl rfl) rfl rfl fun a hF=>q_x (v:=(iV t_9)) hF hS (ex_move rfl) rfl rfl fun a hF=>?_
      obtain ⟨e_32,he_32,hj3⟩:=bindS hj3
      obtain ⟨vs33,at33,d33⟩:=hV31.at he_30 he_32 1 rfl
      obtain rfl : vs33 = [(iV e_32)]:=d33
      refine q_x (v:=(elP s31 (t_9.toNat * 1))) hF hS (ex_indexAddr Try.underlying28 sz3 rfl rfl (hV31.idx he_30 he_32)) rfl rfl fun a hF=>q_x (v:=(iV e_32)) hF hS (ex_loadE1 0 Try.underlying3 rfl rfl (at33.at 0 rfl) rfl rfl) rfl rfl fun a hF=>q_x (v:=(iV (w64 (e_32 + 1)))) hF hS (ex_ibin rfl rfl rfl) rfl rfl fun a hF=>?_
      obtain ⟨e_34,he_34,hj3⟩:=bindS hj3
      obtain ⟨vs35,at35,d35⟩:=hV31.at he_30 he_34 1 rfl
      obtain rfl : vs35 = [(iV e_34)]:=d35
      refine q_x (v:=(elP s31 (t_9.toNat * 1))) hF hS (ex_indexAddr Try.underlying28 sz3 rfl rfl (hV31.idx he_30 he_34)) rfl rfl fun a hF=>q_do rfl fun _ hK=>wp_storeV (e':=(w64 (e_32 + 1))) (us:=[(iV (w64 (e_32 + 1)))]) (vs:=[(iV e_34)]) 0 hF hS hV31 he_30 sz3 rfl rfl rfl rfl rfl rfl rfl he_34 at35 rfl rfl rfl fun w q36 hS h36=>hK _ _ (q_end (n_sq (q_seq (q_region (q_x (v:=(.agg #[s1.v,s2.v,s3.v,s4.v])) hF hS (ex_loadA (vs:=[s1.v,s2.v,s3.v,s4.v]) 2 0 Try.underlying50 rfl sz50 rfl rfl rfl rfl) rfl rfl fun a hF=>q_x (v:=s29.v) hF hS (ex_move rfl) rfl rfl fun a hF=>q_x (v:=(iV p_7)) hF hS (ex_move rfl) rfl rfl fun a hF=>?_)))))
      obtain ⟨m37,hm37,hS,hz37⟩:=hS.freeze
      have h37:=h36.own.froz hm37.le hz37
      have h37_1:=(h36.froz (goAt_goSet he_30) hm37.le (hz37))
      obtain ⟨t_38,ht_38,hj3⟩:=bindS hj3
      refine q_call (vs:=[(.agg #[s1.v,s2.v,s3.v,s4.v]),s29.v,(iV p_7)]) hF hS Try.func163 (by kernel_rfl) rfl rfl rfl (c_impl_firstFrom p_t (goSet t_26 t_8 (goSet e_30 t_9 (w64 (e_32 + 1)))) p_7 t_38 ht_38 _ m37 hS.vis s1 (h1.mono hm37.le) s2 (h2.mono hm37.le) s3 (h3.mono hm37.le) s4 (h4.mono hm37.le) s29 h37) ?_
      have hT:=hS
      rintro a w _ ⟨m39,s40,rfl,hm39,hR39,h40,h40n⟩ hF hS2
      have hS : St _ _ _ _ [q25,[⟨b6,[s1.v,s2.v,s3.v,s4.v],50⟩]]:=hS.join hR39 hm39
      have hm39:=MLe.weakX (O0:=[]) hT hm39
      refine q_x (v:=s40.v) hF hS (ex_assign rfl) rfl rfl fun a hF=>q_end (n_sq (q_ret (r_ib (r_jn ?_))))
      obtain rfl:=someI hj3
      refine r_sq ?_
      obtain rfl:=someI hb1
      refine ⟨nofun,.inr fun ho=>?_⟩
      subst ho
      refine r_ib (r_sq ?_)
      obtain rfl:=someI hr
      exact ret_of hF hS rfl (.tmp rfl .nil) ⟨m39,s40,rfl,(hm37.trans hm39),hS.sel [] (by decide),h40,h40n⟩
     ·have hj3:=cond_t hc5 hj3
      refine q_cond_t hF rfl hc5 (q_exit (x_sq (x_ib (n_jn ?_))))
      obtain rfl:=someI hj3
      exact ⟨rfl,hF.sub ⟨rfl,rfl,rfl,rfl,rfl,trivial⟩,hS.mask [false,true]⟩
    ·have hj3:=cond_t hc4 hj3
     refine q_cond_t hF rfl hc4 (q_exit (x_sq (x_ib (n_jn ?_))))
     obtain rfl:=someI hj3
     exact ⟨rfl,hF.sub ⟨rfl,rfl,rfl,rfl,rfl,trivial⟩,hS⟩
   ·rintro a w ⟨rfl,hF,hS⟩
    refine n_sq ?_
    refine q_region (q_x (v:=(iV p_7)) hF hS (ex_move rfl) rfl rfl fun a hF=>q_x (v:=(iV (w64 (p_7 - 1)))) hF hS (ex_ibin rfl rfl rfl) rfl rfl fun a hF=>q_x (v:=(iV (w64 (p_7 - 1)))) hF hS (ex_assign rfl) rfl rfl fun a hF=>q_end ?_)
    obtain rfl:=someI hb1
    exact ⟨rfl,hF.sub ⟨rfl,rfl,rfl,rfl,rfl,trivial⟩,hS⟩
 ·rintro e a w ⟨rfl,rfl,hF,hS⟩
  refine x_ib (n_sq ?_)
  refine q_seq (q_region (q_x (v:=nilS.v) hF hS (ex_assign rfl) rfl rfl fun a hF=>q_end (n_sq (q_ret ?_))))
  obtain rfl:=someI hr
  exact ret_of hF hS rfl (.tmp rfl .nil) ⟨m,nilS,rfl,(MLe.refl _ _),hS.sel [] (by decide),(Rd.nil0 (α:=List Int) m),(NF.nil)⟩

theorem c_impl_countFlows (p_t : impl_Transport) (r : Int × Bool) (hr : impl_countFlows p_t = some r) (w0 : World) (m : Mem) (hv : Vis m w0) (s1 : Sl) (h1 : Rd m s1 p_t.Rows) (s2 : Sl) (h2 : Rd m s2 p_t.Cols) (s3 : Sl) (h3 : Rd m s3 p_t.Lo) (s4 : Sl) (h4 : Rd m s4 p_t.Hi) :
  Ret Try.prog 102 [(.agg #[s1.v,s2.v,s3.v,s4.v])] w0 (fun v _=>v = (.tuple #[(iV r.1),(.bool r.2)])):=by
 unfold impl_countFlows at hr
 refine ret_start Try.func102 rfl 26 rfl rfl m hv fun a hF hS=>q_seq (q_region (q_box (cs:=[s1.v,s2.v,s3.v,s4.v]) hF hS rfl rfl rfl fun a w b5 hF hS=>q_x (v:=(iV 0)) hF hS (ex_assign rfl) rfl rfl fun a hF=>q_x (v:=(.bool false)) hF hS (ex_assign rfl) rfl rfl fun a hF=>q_end (n_sq (q_seq (q_seq (q_region (q_x (v:=(.pointer (some ⟨b5,0,none⟩))) hF hS (ex_fieldAddr Try.underlying50 rfl sz28 rfl rfl) rfl rfl fun a hF=>q_x (v:=s1.v) hF hS (ex_load1 0 0 Try.underlying28 rfl rfl rfl rfl) rfl rfl fun a hF=>q_x (v:=(iV (goLen p_t.Rows))) hF hS (ex_len Try.underlying28 rfl h1.len) rfl rfl fun a hF=>q_x (v:=(.pointer (some ⟨b5,1,none⟩))) hF hS (ex_fieldAddr Try.underlying50 rfl sz28 rfl rfl) rfl rfl fun a hF=>q_x (v:=s2.v) hF hS (ex_load1 0 0 Try.underlying28 rfl rfl rfl rfl) rfl rfl fun a hF=>q_x (v:=(iV (goLen p_t.Cols))) hF hS (ex_len Try.underlying28 rfl h2.len) rfl rfl fun a hF=>q_x (v:=(iV (w64 ((goLen p_t.Rows) * (goLen p_t.Cols))))) hF hS (ex_ibin rfl rfl rfl) rfl rfl fun a hF=>q_x (v:=(.bool (decide (16 < (w64 ((goLen p_t.Rows) * (goLen p_t.Cols))))))) hF hS (ex_ibin rfl rfl rfl) rfl rfl fun a hF=>q_end (n_sq ?_))))))))
 rcases bcase (decide (16 < (w64 ((goLen p_t.Rows) * (goLen p_t.Cols))))) with hc1 | hc1
 ·have hr:=cond_f hc1 hr
  refine q_cond_f hF rfl hc1 (q_skipc (n_sq (q_seq (q_region (q_x (v:=(iV 0)) hF hS (ex_assign rfl) rfl rfl fun a hF=>q_end (n_sq (q_seq (q_seq (q_region (q_x (v:=(.agg #[s1.v,s2.v,s3.v,s4.v])) hF hS (ex_loadA (vs:=[s1.v,s2.v,s3.v,s4.v]) 0 0 Try.underlying50 rfl sz50 rfl rfl rfl rfl) rfl rfl fun a hF=>?_))))))))))
  obtain ⟨t_6,ht_6,hr⟩:=bindS hr
  refine q_call (vs:=[(.agg #[s1.v,s2.v,s3.v,s4.v])]) hF hS Try.func117 (by kernel_rfl) rfl rfl rfl (c_impl_firstFlow p_t t_6 ht_6 _ m hS.vis s1 h1 s2 h2 s3 h3 s4 h4) ?_
  have hT:=hS
  rintro a w _ ⟨m7,s8,rfl,hm7,hR7,h8,h8n⟩ hF hS2
  have hS : St _ _ _ _ [[⟨b5,[s1.v,s2.v,s3.v,s4.v],50⟩]]:=hS.join hR7 hm7
  have hm7:=MLe.weakX (O0:=[]) hT hm7
  refine q_x (v:=s8.v) hF hS (ex_assign rfl) rfl rfl fun a hF=>q_end (n_sq (q_block ?_))
  obtain ⟨o2,hl2,hr⟩:=bindS hr
  refine q_loop (fun (s : Int × (List (List Int))) a w=>∃ (m12 : Mem),∃ (s11 : Sl),∃ n_9,∃ x_10,s = (n_9,x_10)∧Fr a 26 [(1,(.pointer (some ⟨b5,0,none⟩))),(4,(iV n_9)),(5,s11.v)]∧St [] w0 w m12 [[⟨b5,[s1.v,s2.v,s3.v,s4.v],50⟩]]∧MLe [] w0.heap.size m7 m12∧Rd m12 s11 x_10∧NF s11 x_10) (fun (o : (Int) ⊕ (Int × Bool)) e a w=>∃ (m17 : Mem),∃ n_16,o = .inl n_16∧e = .exit 0∧Fr a 26 [(4,(iV n_16))]∧St [] w0 w m17 []∧MLe [] w0.heap.size m7 m17) hl2 ⟨m7,s8,_,_,rfl,hF.sub ⟨rfl,rfl,rfl,trivial⟩,hS,(MLe.refl _ _),h8,h8n⟩ ?_ ?_
  ·clear hF hS
   rintro s a w st ⟨m12,s11,n_9,x_10,rfl,hF,hS,hm12,h11,h11n⟩ hb2
   unfold impl_countFlows_l1 at hb2
   refine q_seq (q_seq (q_region (q_x (v:=s11.v) hF hS (ex_move rfl) rfl rfl fun a hF=>q_x (v:=(.bool (!x_10.isEmpty))) hF hS (ex_neNilF Try.underlying23 h11n h11.nilE rfl rfl) rfl rfl fun a hF=>q_end (n_sq ?_))))
   rcases bcase (!x_10.isEmpty) with hc3 | hc3
   ·have hb2:=cond_f hc3 hb2
    refine q_cond_f hF rfl hc3 (q_exit (x_sq ?_))
    obtain rfl:=someI hb2
    exact ⟨nofun,.inl ⟨m12,_,rfl,rfl,hF.sub ⟨rfl,trivial⟩,hS.mask [false],hm12⟩⟩
   ·have hb2:=cond_t hc3 hb2
    refine q_cond_t hF rfl hc3 (q_skipc (n_sq (q_seq (q_block (q_seq (q_region (q_x (v:=(iV n_9)) hF hS (ex_move rfl) rfl rfl fun a hF=>q_x (v:=(iV (w64 (n_9 + 1)))) hF hS (ex_ibin rfl rfl rfl) rfl rfl fun a hF=>q_x (v:=(iV (w64 (n_9 + 1)))) hF hS (ex_assign rfl) rfl rfl fun a hF=>q_end (n_sq (q_seq (q_region (q_x (v:=(iV (w64 (n_9 + 1)))) hF hS (ex_move rfl) rfl rfl fun a hF=>q_x (v:=(.bool (decide (2000 < (w64 (n_9 + 1)))))) hF hS (ex_ibin rfl rfl rfl) rfl rfl fun a hF=>q_end (n_sq ?_))))))))))))
    rcases bcase (decide (2000 < (w64 (n_9 + 1)))) with hc4 | hc4
    ·have hb2:=cond_f hc4 hb2
     refine q_cond_f hF rfl hc4 (q_skipc (n_ib (n_sq (q_region (q_x (v:=(.agg #[s1.v,s2.v,s3.v,s4.v])) hF hS (ex_loadA (vs:=[s1.v,s2.v,s3.v,s4.v]) 0 0 Try.underlying50 rfl sz50 rfl rfl rfl rfl) rfl rfl fun a hF=>q_x (v:=s11.v) hF hS (ex_move rfl) rfl rfl fun a hF=>?_)))))
     obtain ⟨t_13,ht_13,hb2⟩:=bindS hb2
     refine q_call (vs:=[(.agg #[s1.v,s2.v,s3.v,s4.v]),s11.v]) hF hS Try.func125 (by kernel_rfl) rfl rfl rfl (c_impl_nextFlow p_t x_10 t_13 ht_13 _ m12 hS.vis s1 ((h1.mono hm7.le).mono hm12.le) s2 ((h2.mono hm7.le).mono hm12.le) s3 ((h3.mono hm7.le).mono hm12.le) s4 ((h4.mono hm7.le).mono hm12.le) s11 h11) ?_
     have hT:=hS
     rintro a w _ ⟨m14,s15,rfl,hm14,hR14,h15,h15n⟩ hF hS2
     have hS : St _ _ _ _ [[⟨b5,[s1.v,s2.v,s3.v,s4.v],50⟩]]:=hS.join hR14 hm14
     have hm14:=MLe.weakX (O0:=[]) hT hm14
     refine q_x (v:=s15.v) hF hS (ex_assign rfl) rfl rfl fun a hF=>q_end ?_
     obtain rfl:=someI hb2
     exact ⟨rfl,m14,s15,_,_,rfl,hF.sub ⟨rfl,rfl,rfl,trivial⟩,hS,(hm12.trans hm14),h15,h15n⟩
    ·have hb2:=cond_t hc4 hb2
     refine q_cond_t hF rfl hc4 (q_seq (q_region (q_x (v:=(iV 0)) hF hS (ex_assign rfl) rfl rfl fun a hF=>q_x (v:=(.bool false)) hF hS (ex_assign rfl) rfl rfl fun a hF=>q_end (n_sq (q_ret (r_ib (r_sq ?_)))))))
     obtain rfl:=someI hb2
     refine ⟨nofun,.inr fun ho=>?_⟩
     subst ho
     refine r_ib (r_sq ?_)
     obtain rfl:=someI hr
     exact ret_of hF hS rfl (.tmp rfl (.tmp rfl .nil)) rfl
  ·rintro e a w ⟨m17,n_16,rfl,rfl,hF,hS,hm17⟩
   refine x_ib (n_sq ?_)
   refine q_seq (q_region (q_x (v:=(iV n_16)) hF hS (ex_move rfl) rfl rfl fun a hF=>q_x (v:=(iV n_16)) hF hS (ex_assign rfl) rfl rfl fun a hF=>q_x (v:=(.bool true)) hF hS (ex_assign rfl) rfl rfl fun a hF=>q_end (n_sq (q_ret ?_))))
   obtain rfl:=someI hr
   exact ret_of hF hS rfl (.tmp rfl (.tmp rfl .nil)) rfl
 ·have hr:=cond_t hc1 hr
  refine q_cond_t hF rfl hc1 (q_seq (q_region (q_x (v:=(iV 0)) hF hS (ex_assign rfl) rfl rfl fun a hF=>q_x (v:=(.bool false)) hF hS (ex_assign rfl) rfl rfl fun a hF=>q_end (n_sq (q_ret (r_sq ?_))))))
  obtain rfl:=someI hr
  exact ret_of hF hS rfl (.tmp rfl (.tmp rfl .nil)) rfl

theorem c_impl_CountFits (p_x : List (List Int)) (p_p : List (List Int)) (r : Int × Bool) (hr : impl_CountFits p_x p_p = some r) (w0 : World) (m : Mem) (hv : Vis m w0) (s1 : Sl) (h1 : Rd m s1 p_x) (s2 : Sl) (h2 : Rd m s2 p_p) :
  Ret Try.prog 29 [s1.v,s2.v] w0 (fun v _=>v = (.tuple #[(iV r.1),(.bool r.2)])):=by
 unfold impl_CountFits at hr
 refine ret_start Try.func29 rfl 16 rfl rfl m hv fun a hF hS=>q_seq (q_region (q_x (v:=(iV 0)) hF hS (ex_assign rfl) rfl rfl fun a hF=>q_x (v:=(.bool false)) hF hS (ex_assign rfl) rfl rfl fun a hF=>q_end (n_sq (q_seq (q_seq (q_region (q_x (v:=s1.v) hF hS (ex_move rfl) rfl rfl fun a hF=>q_x (v:=s2.v) hF hS (ex_move rfl) rfl rfl fun a hF=>?_)))))))
 obtain ⟨t_3,ht_3,hr⟩:=bindS hr
 refine q_call (vs:=[s1.v,s2.v]) hF hS Try.func95 (by kernel_rfl) rfl rfl rfl (c_impl_areSuppressed p_x p_p t_3 ht_3 _ m hS.vis s1 h1 s2 h2) ?_
 rintro a w _ rfl hF hS
 refine q_x (v:=(.bool (!t_3))) hF hS (ex_not rfl) rfl rfl fun a hF=>q_end (n_sq ?_)
 rcases bcase (!t_3) with hc1 | hc1
 ·have hr:=cond_f hc1 hr
  refine q_cond_f hF rfl hc1 (q_skipc (n_sq (q_seq (q_region (q_x (v:=s1.v) hF hS (ex_move rfl) rfl rfl fun a hF=>q_x (v:=s2.v) hF hS (ex_move rfl) rfl rfl fun a hF=>?_)))))
  obtain ⟨t_4,ht_4,hr⟩:=bindS hr
  refine q_call (vs:=[s1.v,s2.v]) hF hS Try.func97 (by kernel_rfl) rfl rfl rfl (c_impl_attackNetwork p_x p_p t_4 ht_4 _ m hS.vis s1 h1 s2 h2) ?_
  rintro a w _ ⟨q6,q7,q8,q9,s6,s7,s8,s9,rfl,hR5,h6,h7,h8,h9⟩ hF hS2
  have hS : St _ _ _ _ [q6,q7,q8,q9]:=hS.joinF hR5
  obtain ⟨m11,hl11,hv11,hz11⟩:=hS.lend
  obtain ⟨t_10,ht_10,hr⟩:=bindS hr
  refine q_call (vs:=[(.agg #[s6.v,s7.v,s8.v,s9.v])]) hF hS Try.func102 (by kernel_rfl) rfl rfl rfl (c_impl_countFlows t_4 t_10 ht_10 _ m11 hv11 s6 (h6.froz hl11 (hz11 0 _ rfl)) s7 (h7.froz hl11 (hz11 1 _ rfl)) s8 (h8.froz hl11 (hz11 2 _ rfl)) s9 (h9.froz hl11 (hz11 3 _ rfl))) ?_
  rintro a w _ rfl hF hS
  refine q_x (v:=(iV t_10.1)) hF hS (ex_extract rfl rfl) rfl rfl fun a hF=>q_x (v:=(.bool t_10.2)) hF hS (ex_extract rfl rfl) rfl rfl fun a hF=>q_x (v:=(iV t_10.1)) hF hS (ex_assign rfl) rfl rfl fun a hF=>q_x (v:=(.bool t_10.2)) hF hS (ex_assign rfl) rfl rfl fun a hF=>q_end (n_sq (q_ret ?_))
  obtain rfl:=someI hr
  exact ret_of hF hS rfl (.tmp rfl (.tmp rfl .nil)) rfl
 ·have hr:=cond_t hc1 hr
  refine q_cond_t hF rfl hc1 (q_seq (q_region (q_x (v:=(iV 0)) hF hS (ex_assign rfl) rfl rfl fun a hF=>q_x (v:=(.bool false)) hF hS (ex_assign rfl) rfl rfl fun a hF=>q_end (n_sq (q_ret (r_sq ?_))))))
  obtain rfl:=someI hr
  exact ret_of hF hS rfl (.tmp rfl (.tmp rfl .nil)) rfl

theorem c_impl_AttackNetwork (p_x : List (List Int)) (p_p : List (List Int)) (r : impl_Transport × Bool) (hr : impl_AttackNetwork p_x p_p = some r) (w0 : World) (m : Mem) (hv : Vis m w0) (s1 : Sl) (h1 : Rd m s1 p_x) (s2 : Sl) (h2 : Rd m s2 p_p) :
  Ret Try.prog 30 [s1.v,s2.v] w0 (fun v w=>∃ (q0' : Piece) (q1' : Piece) (q2' : Piece) (q3' : Piece) (s0' : Sl) (s1' : Sl) (s2' : Sl) (s3' : Sl),v = (.tuple #[(.agg #[s0'.v,s1'.v,s2'.v,s3'.v]),(.bool r.2)])∧St [] w0 w m [q0',q1',q2',q3']∧OwnL m 3 q0' s0' r.1.Rows∧OwnL m 3 q1' s1' r.1.Cols∧OwnD m 28 3 q2' s2' r.1.Lo∧OwnD m 28 3 q3' s3' r.1.Hi):=by
 unfold impl_AttackNetwork at hr
 refine ret_start Try.func30 rfl 14 rfl rfl m hv fun a hF hS=>q_seq (q_region (q_alloc (cs:=[nilS.v,nilS.v,nilS.v,nilS.v]) hF hS rfl rfl rfl fun a w b3 hF hS=>q_x (v:=(.bool false)) hF hS (ex_assign rfl) rfl rfl fun a hF=>q_end (n_sq (q_seq (q_seq (q_region (q_x (v:=s1.v) hF hS (ex_move rfl) rfl rfl fun a hF=>q_x (v:=s2.v) hF hS (ex_move rfl) rfl rfl fun a hF=>?_)))))))
 obtain ⟨t_4,ht_4,hr⟩:=bindS hr
 refine q_call (vs:=[s1.v,s2.v]) hF hS Try.func95 (by kernel_rfl) rfl rfl rfl (c_impl_areSuppressed p_x p_p t_4 ht_4 _ m hS.vis s1 h1 s2 h2) ?_
 rintro a w _ rfl hF hS
 refine q_x (v:=(.bool (!t_4))) hF hS (ex_not rfl) rfl rfl fun a hF=>q_end (n_sq ?_)
 rcases bcase (!t_4) with hc1 | hc1
 ·have hr:=cond_f hc1 hr
  refine q_cond_f hF rfl hc1 (q_skipc (n_sq (q_seq (q_region (q_x (v:=s1.v) hF hS (ex_move rfl) rfl rfl fun a hF=>q_x (v:=s2.v) hF hS (ex_move rfl) rfl rfl fun a hF=>?_)))))
  obtain ⟨t_5,ht_5,hr⟩:=bindS hr
  refine q_call (vs:=[s1.v,s2.v]) hF hS Try.func97 (by kernel_rfl) rfl rfl rfl (c_impl_attackNetwork p_x p_p t_5 ht_5 _ m hS.vis s1 h1 s2 h2) ?_
  rintro a w _ ⟨q7,q8,q9,q10,s7,s8,s9,s10,rfl,hR6,h7,h8,h9,h10⟩ hF hS2
  have hS : St _ _ _ _ [q7,q8,q9,q10,[⟨b3,[nilS.v,nilS.v,nilS.v,nilS.v],50⟩]]:=hS.joinF hR6
  refine q_store (vs:=[s7.v,s8.v,s9.v,s10.v]) (cs':=[s7.v,s8.v,s9.v,s10.v]) 4 0 hF hS sz50 rfl rfl rfl rfl rfl rfl rfl rfl fun a w hF hS=>q_x (v:=(.bool true)) hF hS (ex_assign rfl) rfl rfl fun a hF=>q_end (n_sq (q_ret ?_))
  obtain rfl:=someI hr
  exact ret_of hF hS rfl (.cellA (us:=[s7.v,s8.v,s9.v,s10.v]) 4 0 Try.underlying50 rfl sz50 rfl rfl rfl rfl (.tmp rfl .nil)) ⟨q7,q8,q9,q10,s7,s8,s9,s10,rfl,hS.sel [0,1,2,3] (by decide),h7,h8,h9,h10⟩
 ·have hr:=cond_t hc1 hr
  refine q_cond_t hF rfl hc1 (q_seq (q_region (q_x (v:=(.agg #[nilS.v,nilS.v,nilS.v,nilS.v])) hF hS (ex_build (cells:=[nilS.v,nilS.v,nilS.v,nilS.v]) rfl (by kernel_rfl)) rfl rfl fun a hF=>q_store (vs:=[nilS.v,nilS.v,nilS.v,nilS.v]) (cs':=[nilS.v,nilS.v,nilS.v,nilS.v]) 0 0 hF hS sz50 rfl rfl rfl rfl rfl rfl rfl rfl fun a w hF hS=>q_x (v:=(.bool false)) hF hS (ex_assign rfl) rfl rfl fun a hF=>q_end (n_sq (q_ret (r_sq ?_))))))
  obtain rfl:=someI hr
  exact ret_of hF hS rfl (.cellA (us:=[nilS.v,nilS.v,nilS.v,nilS.v]) 0 0 Try.underlying50 rfl sz50 rfl rfl rfl rfl (.tmp rfl .nil)) ⟨[],[],[],[],nilS,nilS,nilS,nilS,rfl,hS.sel [1,2,3,4] (by decide),(OwnL.nil (α:=Int) m 3),(OwnL.nil (α:=Int) m 3),(OwnD.nil (β:=Int) m 28 3),(OwnD.nil (β:=Int) m 28 3)⟩

theorem c_impl_areSums (p_l : List Int) (r : Bool) (hr : impl_areSums p_l = some r) (w0 : World) (m : Mem) (hv : Vis m w0) (s1 : Sl) (h1 : Rd m s1 p_l) :
  Ret Try.prog 144 [s1.v] w0 (fun v _=>v = (.bool r)):=by
 unfold impl_areSums at hr
 refine ret_start Try.func144 rfl 26 rfl rfl m hv fun a hF hS=>q_seq (q_region (q_x (v:=(.bool false)) hF hS (ex_assign rfl) rfl rfl fun a hF=>q_end (n_sq (q_seq (q_seq ?_)))))
 obtain ⟨t_2,hj1,hr⟩:=bindS hr
 refine q_join (fun a w=>Fr a 26 [(0,s1.v),(12,(.bool t_2))]∧St [] w0 w m []) ?_ ?_
 ·refine q_region (q_x (v:=s1.v) hF hS (ex_move rfl) rfl rfl fun a hF=>q_x (v:=(iV (goLen p_l))) hF hS (ex_len Try.underlying28 rfl h1.len) rfl rfl fun a hF=>q_x (v:=(.bool (decide ((goLen p_l) < 1)))) hF hS (ex_ibin rfl rfl rfl) rfl rfl fun a hF=>q_x (v:=(.bool (decide ((goLen p_l) < 1)))) hF hS (ex_move rfl) rfl rfl fun a hF=>?_)
  rcases bcase (decide ((goLen p_l) < 1)) with hc2 | hc2
  ·have hj1:=cond_f hc2 hj1
   refine q_xg (v:=s1.v) hF hS (ex_move rfl) (wanted_t hF rfl rfl rfl hc2) rfl fun a hF=>q_xg (v:=(iV (goLen p_l))) hF hS (ex_len Try.underlying28 rfl h1.len) (wanted_t hF rfl rfl rfl hc2) rfl fun a hF=>q_xg (v:=(.bool (decide (8 < (goLen p_l))))) hF hS (ex_ibin rfl rfl rfl) (wanted_t hF rfl rfl rfl hc2) rfl fun a hF=>q_x (v:=(.bool (decide (8 < (goLen p_l))))) hF hS (ex_pick_f rfl rfl hc2) rfl rfl fun a hF=>q_end (n_jn ?_)
   obtain rfl:=someI hj1
   exact ⟨hF.sub ⟨rfl,rfl,trivial⟩,hS⟩
  ·have hj1:=cond_t hc2 hj1
   refine q_skip hF (wanted_f hF rfl rfl rfl hc2 rfl) rfl fun a hF=>q_skip hF (wanted_f hF rfl rfl rfl hc2 rfl) rfl fun a hF=>q_skip hF (wanted_f hF rfl rfl rfl hc2 rfl) rfl fun a hF=>q_x (v:=(.bool true)) hF hS (ex_pick_t rfl rfl hc2) rfl rfl fun a hF=>q_end (n_jn ?_)
   obtain rfl:=someI hj1
   exact ⟨hF.sub ⟨rfl,rfl,trivial⟩,hS⟩
 ·rintro a w ⟨hF,hS⟩
  refine n_sq ?_
  rcases bcase (t_2) with hc3 | hc3
  ·have hr:=cond_f hc3 hr
   refine q_cond_f hF rfl hc3 (q_skipc (n_sq (q_seq (q_seq (q_region (q_x (v:=s1.v) hF hS (ex_move rfl) rfl rfl fun a hF=>q_x (v:=(iV (goLen p_l))) hF hS (ex_len Try.underlying28 rfl h1.len) rfl rfl fun a hF=>q_x (v:=(iV 0)) hF hS (ex_move rfl) rfl rfl fun a hF=>q_end (n_sq (q_block ?_))))))))
   obtain ⟨o4,hl4,hr⟩:=bindS hr
   refine q_loop (fun (t_3 : Int) a w=>Fr a 26 [(13,s1.v),(14,(iV (goLen p_l))),(15,(iV t_3))]∧St [] w0 w m []) (fun (o : (Unit) ⊕ (Bool)) e a w=>o = .inl ()∧e = .exit 0∧Fr a 26 []∧St [] w0 w m []) hl4 ⟨hF.sub ⟨rfl,rfl,rfl,trivial⟩,hS⟩ ?_ ?_
   ·clear hF hS
    rintro t_3 a w st ⟨hF,hS⟩ hb4
    unfold impl_areSums_l1 at hb4
    refine q_seq (q_region (q_x (v:=(.bool (decide (t_3 < (goLen p_l))))) hF hS (ex_ibin rfl rfl rfl) rfl rfl fun a hF=>q_end (n_sq (q_seq ?_))))
    rcases bcase (decide (t_3 < (goLen p_l))) with hc5 | hc5
    ·have hb4:=cond_f hc5 hb4
     refine q_cond_f hF rfl hc5 (q_exit (x_sq ?_))
     obtain rfl:=someI hb4
     exact ⟨nofun,.inl ⟨rfl,rfl,hF.sub trivial,hS⟩⟩
    ·have hb4:=cond_t hc5 hb4
     refine q_cond_t hF rfl hc5 (q_skipc (n_sq (q_seq (q_block (q_seq (q_region ?_))))))
     obtain ⟨e_4,he_4,hb4⟩:=bindS hb4
     obtain ⟨vs5,at5,d5⟩:=h1.at he_4 1 rfl
     obtain rfl : vs5 = [(iV e_4)]:=d5
     refine q_x (v:=(elP s1 (t_3.toNat * 1))) hF hS (ex_indexAddr Try.underlying28 sz3 rfl rfl (h1.idx he_4)) rfl rfl fun a hF=>q_x (v:=(iV e_4)) hF hS (ex_loadE1 0 Try.underlying3 rfl rfl ((at5).at) rfl rfl) rfl rfl fun a hF=>q_x (v:=(iV e_4)) hF hS (ex_assign rfl) rfl rfl fun a hF=>q_end (n_sq (q_seq ?_))
     obtain ⟨t_6,hj6,hb4⟩:=bindS hb4
     refine q_join (fun a w=>Fr a 26 [(13,s1.v),(14,(iV (goLen p_l))),(15,(iV t_3)),(24,(.bool t_6))]∧St [] w0 w m []) ?_ ?_
     ·refine q_region (q_x (v:=(iV e_4)) hF hS (ex_move rfl) rfl rfl fun a hF=>q_x (v:=(.bool (decide (e_4 < 0)))) hF hS (ex_ibin rfl rfl rfl) rfl rfl fun a hF=>q_x (v:=(.bool (decide (e_4 < 0)))) hF hS (ex_move rfl) rfl rfl fun a hF=>?_)
      rcases bcase (decide (e_4 < 0)) with hc7 | hc7
      ·have hj6:=cond_f hc7 hj6
       refine q_xg (v:=(iV e_4)) hF hS (ex_move rfl) (wanted_t hF rfl rfl rfl hc7) rfl fun a hF=>q_xg (v:=(.bool (decide (100000 < e_4)))) hF hS (ex_ibin rfl rfl rfl) (wanted_t hF rfl rfl rfl hc7) rfl fun a hF=>q_x (v:=(.bool (decide (100000 < e_4)))) hF hS (ex_pick_f rfl rfl hc7) rfl rfl fun a hF=>q_end (n_jn ?_)
       obtain rfl:=someI hj6
       exact ⟨hF.sub ⟨rfl,rfl,rfl,rfl,trivial⟩,hS⟩
      ·have hj6:=cond_t hc7 hj6
       refine q_skip hF (wanted_f hF rfl rfl rfl hc7 rfl) rfl fun a hF=>q_skip hF (wanted_f hF rfl rfl rfl hc7 rfl) rfl fun a hF=>q_x (v:=(.bool true)) hF hS (ex_pick_t rfl rfl hc7) rfl rfl fun a hF=>q_end (n_jn ?_)
       obtain rfl:=someI hj6
       exact ⟨hF.sub ⟨rfl,rfl,rfl,rfl,trivial⟩,hS⟩
     ·rintro a w ⟨hF,hS⟩
      refine n_sq ?_
      rcases bcase (t_6) with hc8 | hc8
      ·have hb4:=cond_f hc8 hb4
       refine q_cond_f hF rfl hc8 (q_skipc (n_ib (n_sq (q_region (q_x (v:=(iV (w64 (t_3 + 1)))) hF hS (ex_ibin rfl rfl rfl) rfl rfl fun a hF=>q_x (v:=(iV (w64 (t_3 + 1)))) hF hS (ex_move rfl) rfl rfl fun a hF=>q_end ?_)))))
       obtain rfl:=someI hb4
       exact ⟨rfl,hF.sub ⟨rfl,rfl,rfl,trivial⟩,hS⟩
      ·have hb4:=cond_t hc8 hb4
       refine q_cond_t hF rfl hc8 (q_seq (q_region (q_x (v:=(.bool false)) hF hS (ex_assign rfl) rfl rfl fun a hF=>q_end (n_sq (q_ret (r_ib (r_sq ?_)))))))
       obtain rfl:=someI hb4
       refine ⟨nofun,.inr fun ho=>?_⟩
       subst ho
       refine r_ib (r_sq ?_)
       obtain rfl:=someI hr
       exact ret_of hF hS rfl (.tmp rfl .nil) rfl
   ·rintro e a w ⟨rfl,rfl,hF,hS⟩
    refine x_ib (n_sq ?_)
    refine q_seq (q_region (q_x (v:=(.bool true)) hF hS (ex_assign rfl) rfl rfl fun a hF=>q_end (n_sq (q_ret ?_))))
    obtain rfl:=someI hr
    exact ret_of hF hS rfl (.tmp rfl .nil) rfl
  ·have hr:=cond_t hc3 hr
   refine q_cond_t hF rfl hc3 (q_seq (q_region (q_x (v:=(.bool false)) hF hS (ex_assign rfl) rfl rfl fun a hF=>q_end (n_sq (q_ret (r_sq ?_))))))
   obtain rfl:=someI hr
   exact ret_of hF hS rfl (.tmp rfl .nil) rfl

theorem c_impl_IsTransport (p_t : impl_Transport) (r : Bool) (hr : impl_IsTransport p_t = some r) (w0 : World) (m : Mem) (hv : Vis m w0) (s1 : Sl) (h1 : Rd m s1 p_t.Rows) (s2 : Sl) (h2 : Rd m s2 p_t.Cols) (s3 : Sl) (h3 : Rd m s3 p_t.Lo) (s4 : Sl) (h4 : Rd m s4 p_t.Hi) :
  Ret Try.prog 67 [(.agg #[s1.v,s2.v,s3.v,s4.v])] w0 (fun v _=>v = (.bool r)):=by
 unfold impl_IsTransport at hr
 refine ret_start Try.func67 rfl 83 rfl rfl m hv fun a hF hS=>q_seq (q_region (q_box (cs:=[s1.v,s2.v,s3.v,s4.v]) hF hS rfl rfl rfl fun a w b5 hF hS=>q_x (v:=(.bool false)) hF hS (ex_assign rfl) rfl rfl fun a hF=>q_end (n_sq (q_seq (q_seq ?_)))))
 obtain ⟨t_10,hj1,hr⟩:=bindS hr
 refine q_join (fun a w=>Fr a 83 [(1,(.pointer (some ⟨b5,0,none⟩))),(40,(.bool t_10))]∧St [] w0 w m [[⟨b5,[s1.v,s2.v,s3.v,s4.v],50⟩]]) ?_ ?_
 ·refine q_region (q_x (v:=(.pointer (some ⟨b5,0,none⟩))) hF hS (ex_fieldAddr Try.underlying50 rfl sz28 rfl rfl) rfl rfl fun a hF=>q_x (v:=s1.v) hF hS (ex_load1 0 0 Try.underlying28 rfl rfl rfl rfl) rfl rfl fun a hF=>?_)
  obtain ⟨t_6,ht_6,hj1⟩:=bindS hj1
  refine q_call (vs:=[s1.v]) hF hS Try.func144 (by kernel_rfl) rfl rfl rfl (c_impl_areSums p_t.Rows t_6 ht_6 _ m hS.vis s1 h1) ?_
  rintro a w _ rfl hF hS
  refine q_x (v:=(.bool (!t_6))) hF hS (ex_not rfl) rfl rfl fun a hF=>q_x (v:=(.bool (!t_6))) hF hS (ex_move rfl) rfl rfl fun a hF=>?_
  rcases bcase (!t_6) with hc2 | hc2
  ·have hj1:=cond_f hc2 hj1
   refine q_xg (v:=(.pointer (some ⟨b5,1,none⟩))) hF hS (ex_fieldAddr Try.underlying50 rfl sz28 rfl rfl) (wanted_t hF rfl rfl rfl hc2) rfl fun a hF=>q_xg (v:=s2.v) hF hS (ex_load1 0 0 Try.underlying28 rfl rfl rfl rfl) (wanted_t hF rfl rfl rfl hc2) rfl fun a hF=>?_
   obtain ⟨t_7,ht_7,hj1⟩:=bindS hj1
   refine q_callg (vs:=[s2.v]) hF hS (wanted_t hF rfl rfl rfl hc2) Try.func144 (by kernel_rfl) rfl rfl rfl (c_impl_areSums p_t.Cols t_7 ht_7 _ m hS.vis s2 h2) ?_
   rintro a w _ rfl hF hS
   refine q_xg (v:=(.bool (!t_7))) hF hS (ex_not rfl) (wanted_t hF rfl rfl rfl hc2) rfl fun a hF=>q_x (v:=(.bool (!t_7))) hF hS (ex_pick_f rfl rfl hc2) rfl rfl fun a hF=>q_x (v:=(.bool (!t_7))) hF hS (ex_move rfl) rfl rfl fun a hF=>?_
   rcases bcase (!t_7) with hc3 | hc3
   ·have hj1:=cond_f hc3 hj1
    refine q_xg (v:=(.pointer (some ⟨b5,2,none⟩))) hF hS (ex_fieldAddr Try.underlying50 rfl sz23 rfl rfl) (wanted_t hF rfl rfl rfl hc3) rfl fun a hF=>q_xg (v:=s3.v) hF hS (ex_load1 0 0 Try.underlying23 rfl rfl rfl rfl) (wanted_t hF rfl rfl rfl hc3) rfl fun a hF=>q_xg (v:=(.pointer (some ⟨b5,0,none⟩))) hF hS (ex_fieldAddr Try.underlying50 rfl sz28 rfl rfl) (wanted_t hF rfl rfl rfl hc3) rfl fun a hF=>q_xg (v:=s1.v) hF hS (ex_load1 0 0 Try.underlying28 rfl rfl rfl rfl) (wanted_t hF rfl rfl rfl hc3) rfl fun a hF=>q_xg (v:=(iV (goLen p_t.Rows))) hF hS (ex_len Try.underlying28 rfl h1.len) (wanted_t hF rfl rfl rfl hc3) rfl fun a hF=>q_xg (v:=(.pointer (some ⟨b5,1,none⟩))) hF hS (ex_fieldAddr Try.underlying50 rfl sz28 rfl rfl) (wanted_t hF rfl rfl rfl hc3) rfl fun a hF=>q_xg (v:=s2.v) hF hS (ex_load1 0 0 Try.underlying28 rfl rfl rfl rfl) (wanted_t hF rfl rfl rfl hc3) rfl fun a hF=>q_xg (v:=(iV (goLen p_t.Cols))) hF hS (ex_len Try.underlying28 rfl h2.len) (wanted_t hF rfl rfl rfl hc3) rfl fun a hF=>?_
    obtain ⟨t_8,ht_8,hj1⟩:=bindS hj1
    refine q_callg (vs:=[s3.v,(iV (goLen p_t.Rows)),(iV (goLen p_t.Cols))]) hF hS (wanted_t hF rfl rfl rfl hc3) Try.func88 (by kernel_rfl) rfl rfl rfl (c_impl_hasShape p_t.Lo (goLen p_t.Rows) (goLen p_t.Cols) t_8 ht_8 _ m hS.vis s3 h3) ?_
    rintro a w _ rfl hF hS
    refine q_xg (v:=(.bool (!t_8))) hF hS (ex_not rfl) (wanted_t hF rfl rfl rfl hc3) rfl fun a hF=>q_x (v:=(.bool (!t_8))) hF hS (ex_pick_f rfl rfl hc3) rfl rfl fun a hF=>q_x (v:=(.bool (!t_8))) hF hS (ex_move rfl) rfl rfl fun a hF=>?_
    rcases bcase (!t_8) with hc4 | hc4
    ·have hj1:=cond_f hc4 hj1
     refine q_xg (v:=(.pointer (some ⟨b5,3,none⟩))) hF hS (ex_fieldAddr Try.underlying50 rfl sz23 rfl rfl) (wanted_t hF rfl rfl rfl hc4) rfl fun a hF=>q_xg (v:=s4.v) hF hS (ex_load1 0 0 Try.underlying23 rfl rfl rfl rfl) (wanted_t hF rfl rfl rfl hc4) rfl fun a hF=>q_xg (v:=(.pointer (some ⟨b5,0,none⟩))) hF hS (ex_fieldAddr Try.underlying50 rfl sz28 rfl rfl) (wanted_t hF rfl rfl rfl hc4) rfl fun a hF=>q_xg (v:=s1.v) hF hS (ex_load1 0 0 Try.underlying28 rfl rfl rfl rfl) (wanted_t hF rfl rfl rfl hc4) rfl fun a hF=>q_xg (v:=(iV (goLen p_t.Rows))) hF hS (ex_len Try.underlying28 rfl h1.len) (wanted_t hF rfl rfl rfl hc4) rfl fun a hF=>q_xg (v:=(.pointer (some ⟨b5,1,none⟩))) hF hS (ex_fieldAddr Try.underlying50 rfl sz28 rfl rfl) (wanted_t hF rfl rfl rfl hc4) rfl fun a hF=>q_xg (v:=s2.v) hF hS (ex_load1 0 0 Try.underlying28 rfl rfl rfl rfl) (wanted_t hF rfl rfl rfl hc4) rfl fun a hF=>q_xg (v:=(iV (goLen p_t.Cols))) hF hS (ex_len Try.underlying28 rfl h2.len) (wanted_t hF rfl rfl rfl hc4) rfl fun a hF=>?_
     obtain ⟨t_9,ht_9,hj1⟩:=bindS hj1
     refine q_callg (vs:=[s4.v,(iV (goLen p_t.Rows)),(iV (goLen p_t.Cols))]) hF hS (wanted_t hF rfl rfl rfl hc4) Try.func88 (by kernel_rfl) rfl rfl rfl (c_impl_hasShape p_t.Hi (goLen p_t.Rows) (goLen p_t.Cols) t_9 ht_9 _ m hS.vis s4 h4) ?_
     rintro a w _ rfl hF hS
     refine q_xg (v:=(.bool (!t_9))) hF hS (ex_not rfl) (wanted_t hF rfl rfl rfl hc4) rfl fun a hF=>q_x (v:=(.bool (!t_9))) hF hS (ex_pick_f rfl rfl hc4) rfl rfl fun a hF=>q_end (n_jn ?_)
     obtain rfl:=someI hj1
     exact ⟨hF.sub ⟨rfl,rfl,trivial⟩,hS⟩
    ·have hj1:=cond_t hc4 hj1
     refine q_skip hF (wanted_f hF rfl rfl rfl hc4 rfl) rfl fun a hF=>q_skip hF (wanted_f hF rfl rfl rfl hc4 rfl) rfl fun a hF=>q_skip hF (wanted_f hF rfl rfl rfl hc4 rfl) rfl fun a hF=>q_skip hF (wanted_f hF rfl rfl rfl hc4 rfl) rfl fun a hF=>q_skip hF (wanted_f hF rfl rfl rfl hc4 rfl) rfl fun a hF=>q_skip hF (wanted_f hF rfl rfl rfl hc4 rfl) rfl fun a hF=>q_skip hF (wanted_f hF rfl rfl rfl hc4 rfl) rfl fun a hF=>q_skip hF (wanted_f hF rfl rfl rfl hc4 rfl) rfl fun a hF=>q_skip hF (wanted_f hF rfl rfl rfl hc4 rfl) rfl fun a hF=>q_skip hF (wanted_f hF rfl rfl rfl hc4 rfl) rfl fun a hF=>q_x (v:=(.bool true)) hF hS (ex_pick_t rfl rfl hc4) rfl rfl fun a hF=>q_end (n_jn ?_)
     obtain rfl:=someI hj1
     exact ⟨hF.sub ⟨rfl,rfl,trivial⟩,hS⟩
   ·have hj1:=cond_t hc3 hj1
    refine q_skip hF (wanted_f hF rfl rfl rfl hc3 rfl) rfl fun a hF=>q_skip hF (wanted_f hF rfl rfl rfl hc3 rfl) rfl fun a hF=>q_skip hF (wanted_f hF rfl rfl rfl hc3 rfl) rfl fun a hF=>q_skip hF (wanted_f hF rfl rfl rfl hc3 rfl) rfl fun a hF=>q_skip hF (wanted_f hF rfl rfl rfl hc3 rfl) rfl fun a hF=>q_skip hF (wanted_f hF rfl rfl rfl hc3 rfl) rfl fun a hF=>q_skip hF (wanted_f hF rfl rfl rfl hc3 rfl) rfl fun a hF=>q_skip hF (wanted_f hF rfl rfl rfl hc3 rfl) rfl fun a hF=>q_skip hF (wanted_f hF rfl rfl rfl hc3 rfl) rfl fun a hF=>q_skip hF (wanted_f hF rfl rfl rfl hc3 rfl) rfl fun a hF=>q_x (v:=(.bool true)) hF hS (ex_pick_t rfl rfl hc3) rfl rfl fun a hF=>q_x (v:=(.bool true)) hF hS (ex_move rfl) rfl rfl fun a hF=>q_skip hF (wanted_f hF rfl rfl rfl rfl rfl) rfl fun a hF=>q_skip hF (wanted_f hF rfl rfl rfl rfl rfl) rfl fun a hF=>q_skip hF (wanted_f hF rfl rfl rfl rfl rfl) rfl fun a hF=>q_skip hF (wanted_f hF rfl rfl rfl rfl rfl) rfl fun a hF=>q_skip hF (wanted_f hF rfl rfl rfl rfl rfl) rfl fun a hF=>q_skip hF (wanted_f hF rfl rfl rfl rfl rfl) rfl fun a hF=>q_skip hF (wanted_f hF rfl rfl rfl rfl rfl) rfl fun a hF=>q_skip hF (wanted_f hF rfl rfl rfl rfl rfl) rfl fun a hF=>q_skip hF (wanted_f hF rfl rfl rfl rfl rfl) rfl fun a hF=>q_skip hF (wanted_f hF rfl rfl rfl rfl rfl) rfl fun a hF=>q_x (v:=(.bool true)) hF hS (ex_pick_t rfl rfl rfl) rfl rfl fun a hF=>q_end (n_jn ?_)
    obtain rfl:=someI hj1
    exact ⟨hF.sub ⟨rfl,rfl,trivial⟩,hS⟩
  ·have hj1:=cond_t hc2 hj1
   refine q_skip hF (wanted_f hF rfl rfl rfl hc2 rfl) rfl fun a hF=>q_skip hF (wanted_f hF rfl rfl rfl hc2 rfl) rfl fun a hF=>q_skip hF (wanted_f hF rfl rfl rfl hc2 rfl) rfl fun a hF=>q_skip hF (wanted_f hF rfl rfl rfl hc2 rfl) rfl fun a hF=>q_x (v:=(.bool true)) hF hS (ex_pick_t rfl rfl hc2) rfl rfl fun a hF=>q_x (v:=(.bool true)) hF hS (ex_move rfl) rfl rfl fun a hF=>q_skip hF (wanted_f hF rfl rfl rfl rfl rfl) rfl fun a hF=>q_skip hF (wanted_f hF rfl rfl rfl rfl rfl) rfl fun a hF=>q_skip hF (wanted_f hF rfl rfl rfl rfl rfl) rfl fun a hF=>q_skip hF (wanted_f hF rfl rfl rfl rfl rfl) rfl fun a hF=>q_skip hF (wanted_f hF rfl rfl rfl rfl rfl) rfl fun a hF=>q_skip hF (wanted_f hF rfl rfl rfl rfl rfl) rfl fun a hF=>q_skip hF (wanted_f hF rfl rfl rfl rfl rfl) rfl fun a hF=>q_skip hF (wanted_f hF rfl rfl rfl rfl rfl) rfl fun a hF=>q_skip hF (wanted_f hF rfl rfl rfl rfl rfl) rfl fun a hF=>q_skip hF (wanted_f hF rfl rfl rfl rfl rfl) rfl fun a hF=>q_x (v:=(.bool true)) hF hS (ex_pick_t rfl rfl rfl) rfl rfl fun a hF=>q_x (v:=(.bool true)) hF hS (ex_move rfl) rfl rfl fun a hF=>q_skip hF (wanted_f hF rfl rfl rfl rfl rfl) rfl fun a hF=>q_skip hF (wanted_f hF rfl rfl rfl rfl rfl) rfl fun a hF=>q_skip hF (wanted_f hF rfl rfl rfl rfl rfl) rfl fun a hF=>q_skip hF (wanted_f hF rfl rfl rfl rfl rfl) rfl fun a hF=>q_skip hF (wanted_f hF rfl rfl rfl rfl rfl) rfl fun a hF=>q_skip hF (wanted_f hF rfl rfl rfl rfl rfl) rfl fun a hF=>q_skip hF (wanted_f hF rfl rfl rfl rfl rfl) rfl fun a hF=>?_
   refine q_skip hF (wanted_f hF rfl rfl rfl rfl rfl) rfl fun a hF=>q_skip hF (wanted_f hF rfl rfl rfl rfl rfl) rfl fun a hF=>q_skip hF (wanted_f hF rfl rfl rfl rfl rfl) rfl fun a hF=>q_x (v:=(.bool true)) hF hS (ex_pick_t rfl rfl rfl) rfl rfl fun a hF=>q_end (n_jn ?_)
   obtain rfl:=someI hj1
   exact ⟨hF.sub ⟨rfl,rfl,trivial⟩,hS⟩
 ·rintro a w ⟨hF,hS⟩
  refine n_sq ?_
  rcases bcase (t_10) with hc5 | hc5
  ·have hr:=cond_f hc5 hr
   refine q_cond_f hF rfl hc5 (q_skipc (n_sq (q_seq (q_seq (q_region (q_x (v:=(.pointer (some ⟨b5,2,none⟩))) hF hS (ex_fieldAddr Try.underlying50 rfl sz23 rfl rfl) rfl rfl fun a hF=>q_x (v:=s3.v) hF hS (ex_load1 0 0 Try.underlying23 rfl rfl rfl rfl) rfl rfl fun a hF=>q_x (v:=(iV (goLen p_t.Lo))) hF hS (ex_len Try.underlying23 rfl h3.len) rfl rfl fun a hF=>q_x (v:=(iV 0)) hF hS (ex_move rfl) rfl rfl fun a hF=>q_end (n_sq (q_block ?_))))))))
   obtain ⟨o6,hl6,hr⟩:=bindS hr
   refine q_loop (fun (t_11 : Int) a w=>Fr a 83 [(1,(.pointer (some ⟨b5,0,none⟩))),(42,s3.v),(43,(iV (goLen p_t.Lo))),(44,(iV t_11))]∧St [] w0 w m [[⟨b5,[s1.v,s2.v,s3.v,s4.v],50⟩]]) (fun (o : (Unit) ⊕ (Bool)) e a w=>o = .inl ()∧e = .exit 0∧Fr a 83 []∧St [] w0 w m []) hl6 ⟨hF.sub ⟨rfl,rfl,rfl,rfl,trivial⟩,hS⟩ ?_ ?_
   ·clear hF hS
    rintro t_11 a w st ⟨hF,hS⟩ hb6
    unfold impl_IsTransport_l1 at hb6
    refine q_seq (q_region (q_x (v:=(.bool (decide (t_11 < (goLen p_t.Lo))))) hF hS (ex_ibin rfl rfl rfl) rfl rfl fun a hF=>q_end (n_sq (q_seq ?_))))
    rcases bcase (decide (t_11 < (goLen p_t.Lo))) with hc7 | hc7
    ·have hb6:=cond_f hc7 hb6
     refine q_cond_f hF rfl hc7 (q_exit (x_sq ?_))
     obtain rfl:=someI hb6
     exact ⟨nofun,.inl ⟨rfl,rfl,hF.sub trivial,hS.mask [false]⟩⟩
    ·have hb6:=cond_t hc7 hb6
     refine q_cond_t hF rfl hc7 (q_skipc (n_sq (q_seq (q_block (q_seq (q_region (q_x (v:=(iV t_11)) hF hS (ex_move rfl) rfl rfl fun a hF=>?_)))))))
     obtain ⟨e_12,he_12,hb6⟩:=bindS hb6
     obtain ⟨vs13,at13,d13⟩:=h3.at he_12 1 rfl
     obtain ⟨s14,rfl,h14⟩ : ∃ s14 : Sl,vs13 = [s14.v]∧Rd m s14 e_12:=d13
     refine q_x (v:=(elP s3 (t_11.toNat * 1))) hF hS (ex_indexAddr Try.underlying23 sz28 rfl rfl (h3.idx he_12)) rfl rfl fun a hF=>q_x (v:=s14.v) hF hS (ex_loadE1 0 Try.underlying28 rfl rfl ((at13).at) rfl rfl) rfl rfl fun a hF=>q_x (v:=(iV t_11)) hF hS (ex_assign rfl) rfl rfl fun a hF=>q_x (v:=s14.v) hF hS (ex_assign rfl) rfl rfl fun a hF=>q_end (n_sq (q_seq (q_region (q_x (v:=s14.v) hF hS (ex_move rfl) rfl rfl fun a hF=>q_x (v:=(iV (goLen e_12))) hF hS (ex_len Try.underlying28 rfl h14.len) rfl rfl fun a hF=>q_x (v:=(iV 0)) hF hS (ex_move rfl) rfl rfl fun a hF=>q_end (n_sq (q_block ?_))))))
     obtain ⟨o8,hl8,hb6⟩:=bindS hb6
     refine q_loop (fun (t_15 : Int) a w=>Fr a 83 [(1,(.pointer (some ⟨b5,0,none⟩))),(3,(iV t_11)),(42,s3.v),(43,(iV (goLen p_t.Lo))),(44,(iV t_11)),(49,s14.v),(50,(iV (goLen e_12))),(51,(iV t_15))]∧St [] w0 w m [[⟨b5,[s1.v,s2.v,s3.v,s4.v],50⟩]]) (fun (o : (Unit) ⊕ (Stp (Int) ((Unit) ⊕ (Bool)))) e a w=>o = .inl ()∧e = .exit 2∧Fr a 83 [(1,(.pointer (some ⟨b5,0,none⟩))),(42,s3.v),(43,(iV (goLen p_t.Lo))),(44,(iV t_11))]∧St [] w0 w m [[⟨b5,[s1.v,s2.v,s3.v,s4.v],50⟩]]) hl8 ⟨hF.sub ⟨rfl,rfl,rfl,rfl,rfl,rfl,rfl,rfl,trivial⟩,hS⟩ ?_ ?_
     ·clear hF hS
      rintro t_15 a w st ⟨hF,hS⟩ hb8
      unfold impl_IsTransport_l2 at hb8
      refine q_seq (q_region (q_x (v:=(.bool (decide (t_15 < (goLen e_12))))) hF hS (ex_ibin rfl rfl rfl) rfl rfl fun a hF=>q_end (n_sq (q_seq ?_))))
      rcases bcase (decide (t_15 < (goLen e_12))) with hc9 | hc9
      ·have hb8:=cond_f hc9 hb8
       refine q_cond_f hF rfl hc9 (q_exit (x_sq ?_))
       obtain rfl:=someI hb8
       exact ⟨nofun,.inl ⟨rfl,rfl,hF.sub ⟨rfl,rfl,rfl,rfl,trivial⟩,hS⟩⟩
      ·have hb8:=cond_t hc9 hb8
       refine q_cond_t hF rfl hc9 (q_skipc (n_sq (q_seq (q_block (q_seq (q_region (q_x (v:=(iV t_15)) hF hS (ex_move rfl) rfl rfl fun a hF=>?_)))))))
       obtain ⟨e_16,he_16,hb8⟩:=bindS hb8
       obtain ⟨vs17,at17,d17⟩:=h14.at he_16 1 rfl
       obtain rfl : vs17 = [(iV e_16)]:=d17
       refine q_x (v:=(elP s14 (t_15.toNat * 1))) hF hS (ex_indexAddr Try.underlying28 sz3 rfl rfl (h14.idx he_16)) rfl rfl fun a hF=>q_x (v:=(iV e_16)) hF hS (ex_loadE1 0 Try.underlying3 rfl rfl ((at17).at) rfl rfl) rfl rfl fun a hF=>q_x (v:=(iV t_15)) hF hS (ex_assign rfl) rfl rfl fun a hF=>q_x (v:=(iV e_16)) hF hS (ex_assign rfl) rfl rfl fun a hF=>q_end (n_sq (q_seq ?_))
       obtain ⟨t_28,hj10,hb8⟩:=bindS hb8
       refine q_join (fun a w=>Fr a 83 [(1,(.pointer (some ⟨b5,0,none⟩))),(3,(iV t_11)),(42,s3.v),(43,(iV (goLen p_t.Lo))),(44,(iV t_11)),(49,s14.v),(50,(iV (goLen e_12))),(51,(iV t_15)),(80,(.bool t_28))]∧St [] w0 w m [[⟨b5,[s1.v,s2.v,s3.v,s4.v],50⟩]]) ?_ ?_
       ·refine q_region (q_x (v:=(iV e_16)) hF hS (ex_move rfl) rfl rfl fun a hF=>q_x (v:=(.bool (decide (e_16 < 0)))) hF hS (ex_ibin rfl rfl rfl) rfl rfl fun a hF=>q_x (v:=(.bool (decide (e_16 < 0)))) hF hS (ex_move rfl) rfl rfl fun a hF=>?_)
        rcases bcase (decide (e_16 < 0)) with hc11 | hc11
        ·have hj10:=cond_f hc11 hj10
         refine q_xg (v:=(iV e_16)) hF hS (ex_move rfl) (wanted_t hF rfl rfl rfl hc11) rfl fun a hF=>q_xg (v:=(.pointer (some ⟨b5,3,none⟩))) hF hS (ex_fieldAddr Try.underlying50 rfl sz23 rfl rfl) (wanted_t hF rfl rfl rfl hc11) rfl fun a hF=>q_xg (v:=s4.v) hF hS (ex_load1 0 0 Try.underlying23 rfl rfl rfl rfl) (wanted_t hF rfl rfl rfl hc11) rfl fun a hF=>q_xg (v:=(iV t_11)) hF hS (ex_move rfl) (wanted_t hF rfl rfl rfl hc11) rfl fun a hF=>?_
         obtain ⟨e_18,he_18,hj10⟩:=bindS hj10
         obtain ⟨vs19,at19,d19⟩:=h4.at he_18 1 rfl
         obtain ⟨s20,rfl,h20⟩ : ∃ s20 : Sl,vs19 = [s20.v]∧Rd m s20 e_18:=d19
         refine q_xg (v:=(elP s4 (t_11.toNat * 1))) hF hS (ex_indexAddr Try.underlying23 sz28 rfl rfl (h4.idx he_18)) (wanted_t hF rfl rfl rfl hc11) rfl fun a hF=>q_xg (v:=s20.v) hF hS (ex_loadE1 0 Try.underlying28 rfl rfl ((at19).at) rfl rfl) (wanted_t hF rfl rfl rfl hc11) rfl fun a hF=>q_xg (v:=(iV t_15)) hF hS (ex_move rfl) (wanted_t hF rfl rfl rfl hc11) rfl fun a hF=>?_
         obtain ⟨e_21,he_21,hj10⟩:=bindS hj10
         obtain ⟨vs22,at22,d22⟩:=h20.at he_21 1 rfl
         obtain rfl : vs22 = [(iV e_21)]:=d22
         refine q_xg (v:=(elP s20 (t_15.toNat * 1))) hF hS (ex_indexAddr Try.underlying28 sz3 rfl rfl (h20.idx he_21)) (wanted_t hF rfl rfl rfl hc11) rfl fun a hF=>q_xg (v:=(iV e_21)) hF hS (ex_loadE1 0 Try.underlying3 rfl rfl ((at22).at) rfl rfl) (wanted_t hF rfl rfl rfl hc11) rfl fun a hF=>q_xg (v:=(.bool (decide (e_21 < e_16)))) hF hS (ex_ibin rfl rfl rfl) (wanted_t hF rfl rfl rfl hc11) rfl fun a hF=>q_x (v:=(.bool (decide (e_21 < e_16)))) hF hS (ex_pick_f rfl rfl hc11) rfl rfl fun a hF=>q_x (v:=(.bool (decide (e_21 < e_16)))) hF hS (ex_move rfl) rfl rfl fun a hF=>?_
         rcases bcase (decide (e_21 < e_16)) with hc12 | hc12
         ·have hj10:=cond_f hc12 hj10
          refine q_xg (v:=(.pointer (some ⟨b5,3,none⟩))) hF hS (ex_fieldAddr Try.underlying50 rfl sz23 rfl rfl) (wanted_t hF rfl rfl rfl hc12) rfl fun a hF=>q_xg (v:=s4.v) hF hS (ex_load1 0 0 Try.underlying23 rfl rfl rfl rfl) (wanted_t hF rfl rfl rfl hc12) rfl fun a hF=>q_xg (v:=(iV t_11)) hF hS (ex_move rfl) (wanted_t hF rfl rfl rfl hc12) rfl fun a hF=>?_
          obtain ⟨e_23,he_23,hj10⟩:=bindS hj10
          obtain ⟨vs24,at24,d24⟩:=h4.at he_23 1 rfl
          obtain ⟨s25,rfl,h25⟩ : ∃ s25 : Sl,vs24 = [s25.v]∧Rd m s25 e_23:=d24
          refine q_xg (v:=(elP s4 (t_11.toNat * 1))) hF hS (ex_indexAddr Try.underlying23 sz28 rfl rfl (h4.idx he_23)) (wanted_t hF rfl rfl rfl hc12) rfl fun a hF=>q_xg (v:=s25.v) hF hS (ex_loadE1 0 Try.underlying28 rfl rfl ((at24).at) rfl rfl) (wanted_t hF rfl rfl rfl hc12) rfl fun a hF=>q_xg (v:=(iV t_15)) hF hS (ex_move rfl) (wanted_t hF rfl rfl rfl hc12) rfl fun a hF=>?_
          obtain ⟨e_26,he_26,hj10⟩:=bindS hj10
          obtain ⟨vs27,at27,d27⟩:=h25.at he_26 1 rfl
          obtain rfl : vs27 = [(iV e_26)]:=d27
          refine q_xg (v:=(elP s25 (t_15.toNat * 1))) hF hS (ex_indexAddr Try.underlying28 sz3 rfl rfl (h25.idx he_26)) (wanted_t hF rfl rfl rfl hc12) rfl fun a hF=>q_xg (v:=(iV e_26)) hF hS (ex_loadE1 0 Try.underlying3 rfl rfl ((at27).at) rfl rfl) (wanted_t hF rfl rfl rfl hc12) rfl fun a hF=>q_xg (v:=(.bool (decide (100000 < e_26)))) hF hS (ex_ibin rfl rfl rfl) (wanted_t hF rfl rfl rfl hc12) rfl fun a hF=>q_x (v:=(.bool (decide (100000 < e_26)))) hF hS (ex_pick_f rfl rfl hc12) rfl rfl fun a hF=>q_end (n_jn ?_)
          obtain rfl:=someI hj10
          exact ⟨hF.sub ⟨rfl,rfl,rfl,rfl,rfl,rfl,rfl,rfl,rfl,trivial⟩,hS⟩
         ·have hj10:=cond_t hc12 hj10
          refine q_skip hF (wanted_f hF rfl rfl rfl hc12 rfl) rfl fun a hF=>q_skip hF (wanted_f hF rfl rfl rfl hc12 rfl) rfl fun a hF=>q_skip hF (wanted_f hF rfl rfl rfl hc12 rfl) rfl fun a hF=>q_skip hF (wanted_f hF rfl rfl rfl hc12 rfl) rfl fun a hF=>q_skip hF (wanted_f hF rfl rfl rfl hc12 rfl) rfl fun a hF=>q_skip hF (wanted_f hF rfl rfl rfl hc12 rfl) rfl fun a hF=>q_skip hF (wanted_f hF rfl rfl rfl hc12 rfl) rfl fun a hF=>q_skip hF (wanted_f hF rfl rfl rfl hc12 rfl) rfl fun a hF=>q_skip hF (wanted_f hF rfl rfl rfl hc12 rfl) rfl fun a hF=>q_x (v:=(.bool true)) hF hS (ex_pick_t rfl rfl hc12) rfl rfl fun a hF=>q_end (n_jn ?_)
          obtain rfl:=someI hj10
          exact ⟨hF.sub ⟨rfl,rfl,rfl,rfl,rfl,rfl,rfl,rfl,rfl,trivial⟩,hS⟩
        ·have hj10:=cond_t hc11 hj10
         refine q_skip hF (wanted_f hF rfl rfl rfl hc11 rfl) rfl fun a hF=>q_skip hF (wanted_f hF rfl rfl rfl hc11 rfl) rfl fun a hF=>q_skip hF (wanted_f hF rfl rfl rfl hc11 rfl) rfl fun a hF=>q_skip hF (wanted_f hF rfl rfl rfl hc11 rfl) rfl fun a hF=>q_skip hF (wanted_f hF rfl rfl rfl hc11 rfl) rfl fun a hF=>q_skip hF (wanted_f hF rfl rfl rfl hc11 rfl) rfl fun a hF=>q_skip hF (wanted_f hF rfl rfl rfl hc11 rfl) rfl fun a hF=>q_skip hF (wanted_f hF rfl rfl rfl hc11 rfl) rfl fun a hF=>q_skip hF (wanted_f hF rfl rfl rfl hc11 rfl) rfl fun a hF=>q_skip hF (wanted_f hF rfl rfl rfl hc11 rfl) rfl fun a hF=>q_x (v:=(.bool true)) hF hS (ex_pick_t rfl rfl hc11) rfl rfl fun a hF=>q_x (v:=(.bool true)) hF hS (ex_move rfl) rfl rfl fun a hF=>q_skip hF (wanted_f hF rfl rfl rfl rfl rfl) rfl fun a hF=>q_skip hF (wanted_f hF rfl rfl rfl rfl rfl) rfl fun a hF=>q_skip hF (wanted_f hF rfl rfl rfl rfl rfl) rfl fun a hF=>q_skip hF (wanted_f hF rfl rfl rfl rfl rfl) rfl fun a hF=>q_skip hF (wanted_f hF rfl rfl rfl rfl rfl) rfl fun a hF=>q_skip hF (wanted_f hF rfl rfl rfl rfl rfl) rfl fun a hF=>q_skip hF (wanted_f hF rfl rfl rfl rfl rfl) rfl fun a hF=>q_skip hF (wanted_f hF rfl rfl rfl rfl rfl) rfl fun a hF=>q_skip hF (wanted_f hF rfl rfl rfl rfl rfl) rfl fun a hF=>q_x (v:=(.bool true)) hF hS (ex_pick_t rfl rfl rfl) rfl rfl fun a hF=>q_end (n_jn ?_)
         obtain rfl:=someI hj10
         exact ⟨hF.sub ⟨rfl,rfl,rfl,rfl,rfl,rfl,rfl,rfl,rfl,trivial⟩,hS⟩
       ·rintro a w ⟨hF,hS⟩
        refine n_sq ?_
        rcases bcase (t_28) with hc13 | hc13
        ·have hb8:=cond_f hc13 hb8
         refine q_cond_f hF rfl hc13 (q_skipc (n_ib (n_sq (q_region (q_x (v:=(iV (w64 (t_15 + 1)))) hF hS (ex_ibin rfl rfl rfl) rfl rfl fun a hF=>q_x (v:=(iV (w64 (t_15 + 1)))) hF hS (ex_move rfl) rfl rfl fun a hF=>q_end ?_)))))
         obtain rfl:=someI hb8
         exact ⟨rfl,hF.sub ⟨rfl,rfl,rfl,rfl,rfl,rfl,rfl,rfl,trivial⟩,hS⟩
        ·have hb8:=cond_t hc13 hb8
         refine q_cond_t hF rfl hc13 (q_seq (q_region (q_x (v:=(.bool false)) hF hS (ex_assign rfl) rfl rfl fun a hF=>q_end (n_sq (q_ret (r_ib (r_sq ?_)))))))
         obtain rfl:=someI hb8
         refine ⟨nofun,.inr fun ho=>?_⟩
         subst ho
         refine r_ib (r_ib (r_sq ?_))
         obtain rfl:=someI hb6
         refine ⟨nofun,.inr fun ho=>?_⟩
         subst ho
         refine r_ib (r_sq ?_)
         obtain rfl:=someI hr
         exact ret_of hF hS rfl (.tmp rfl .nil) rfl
     ·rintro e a w ⟨rfl,rfl,hF,hS⟩
      refine x_ib (n_ib (n_sq ?_))
      refine q_region (q_x (v:=(iV (w64 (t_11 + 1)))) hF hS (ex_ibin rfl rfl rfl) rfl rfl fun a hF=>q_x (v:=(iV (w64 (t_11 + 1)))) hF hS (ex_move rfl) rfl rfl fun a hF=>q_end ?_)
      obtain rfl:=someI hb6
      exact ⟨rfl,hF.sub ⟨rfl,rfl,rfl,rfl,trivial⟩,hS⟩
   ·rintro e a w ⟨rfl,rfl,hF,hS⟩
    refine x_ib (n_sq ?_)
    refine q_seq (q_region (q_x (v:=(.bool true)) hF hS (ex_assign rfl) rfl rfl fun a hF=>q_end (n_sq (q_ret ?_))))
    obtain rfl:=someI hr
    exact ret_of hF hS rfl (.tmp rfl .nil) rfl
  ·have hr:=cond_t hc5 hr
   refine q_cond_t hF rfl hc5 (q_seq (q_region (q_x (v:=(.bool false)) hF hS (ex_assign rfl) rfl rfl fun a hF=>q_end (n_sq (q_ret (r_sq ?_))))))
   obtain rfl:=someI hr
   exact ret_of hF hS rfl (.tmp rfl .nil) rfl

theorem c_impl_IsFlow (p_t : impl_Transport) (p_x : List (List Int)) (r : Bool × Bool) (hr : impl_IsFlow p_t p_x = some r) (w0 : World) (m : Mem) (hv : Vis m w0) (s1 : Sl) (h1 : Rd m s1 p_t.Rows) (s2 : Sl) (h2 : Rd m s2 p_t.Cols) (s3 : Sl) (h3 : Rd m s3 p_t.Lo) (s4 : Sl) (h4 : Rd m s4 p_t.Hi) (s5 : Sl) (h5 : Rd m s5 p_x) :
  Ret Try.prog 31 [(.agg #[s1.v,s2.v,s3.v,s4.v]),s5.v] w0 (fun v _=>v = (.tuple #[(.bool r.1),(.bool r.2)])):=by
 unfold impl_IsFlow at hr
 refine ret_start Try.func31 rfl 72 rfl rfl m hv fun a hF hS=>q_seq (q_region (q_box (cs:=[s1.v,s2.v,s3.v,s4.v]) hF hS rfl rfl rfl fun a w b6 hF hS=>q_x (v:=(.bool false)) hF hS (ex_assign rfl) rfl rfl fun a hF=>q_x (v:=(.bool false)) hF hS (ex_assign rfl) rfl rfl fun a hF=>q_end (n_sq (q_seq (q_seq (q_region (q_x (v:=(.agg #[s1.v,s2.v,s3.v,s4.v])) hF hS (ex_loadA (vs:=[s1.v,s2.v,s3.v,s4.v]) 0 0 Try.underlying50 rfl sz50 rfl rfl rfl rfl) rfl rfl fun a hF=>?_)))))))
 obtain ⟨t_7,ht_7,hr⟩:=bindS hr
 refine q_call (vs:=[(.agg #[s1.v,s2.v,s3.v,s4.v])]) hF hS Try.func67 (by kernel_rfl) rfl rfl rfl (c_impl_IsTransport p_t t_7 ht_7 _ m hS.vis s1 h1 s2 h2 s3 h3 s4 h4) ?_
 rintro a w _ rfl hF hS
 refine q_x (v:=(.bool (!t_7))) hF hS (ex_not rfl) rfl rfl fun a hF=>q_end (n_sq ?_)
 rcases bcase (!t_7) with hc1 | hc1
 ·have hr:=cond_f hc1 hr
  refine q_cond_f hF rfl hc1 (q_skipc (n_sq (q_seq (q_seq (q_region (q_x (v:=s5.v) hF hS (ex_move rfl) rfl rfl fun a hF=>q_x (v:=(.pointer (some ⟨b6,0,none⟩))) hF hS (ex_fieldAddr Try.underlying50 rfl sz28 rfl rfl) rfl rfl fun a hF=>q_x (v:=s1.v) hF hS (ex_load1 0 0 Try.underlying28 rfl rfl rfl rfl) rfl rfl fun a hF=>q_x (v:=(iV (goLen p_t.Rows))) hF hS (ex_len Try.underlying28 rfl h1.len) rfl rfl fun a hF=>q_x (v:=(.pointer (some ⟨b6,1,none⟩))) hF hS (ex_fieldAddr Try.underlying50 rfl sz28 rfl rfl) rfl rfl fun a hF=>q_x (v:=s2.v) hF hS (ex_load1 0 0 Try.underlying28 rfl rfl rfl rfl) rfl rfl fun a hF=>q_x (v:=(iV (goLen p_t.Cols))) hF hS (ex_len Try.underlying28 rfl h2.len) rfl rfl fun a hF=>?_))))))
  obtain ⟨t_8,ht_8,hr⟩:=bindS hr
  refine q_call (vs:=[s5.v,(iV (goLen p_t.Rows)),(iV (goLen p_t.Cols))]) hF hS Try.func88 (by kernel_rfl) rfl rfl rfl (c_impl_hasShape p_x (goLen p_t.Rows) (goLen p_t.Cols) t_8 ht_8 _ m hS.vis s5 h5) ?_
  rintro a w _ rfl hF hS
  refine q_x (v:=(.bool (!t_8))) hF hS (ex_not rfl) rfl rfl fun a hF=>q_end (n_sq ?_)
  rcases bcase (!t_8) with hc2 | hc2
  ·have hr:=cond_f hc2 hr
   refine q_cond_f hF rfl hc2 (q_skipc (n_sq (q_seq (q_seq (q_region (q_x (v:=s5.v) hF hS (ex_move rfl) rfl rfl fun a hF=>q_x (v:=(iV (goLen p_x))) hF hS (ex_len Try.underlying23 rfl h5.len) rfl rfl fun a hF=>q_x (v:=(iV 0)) hF hS (ex_move rfl) rfl rfl fun a hF=>q_end (n_sq (q_block ?_))))))))
   obtain ⟨o3,hl3,hr⟩:=bindS hr
   refine q_loop (fun (t_9 : Int) a w=>Fr a 72 [(1,s5.v),(2,(.pointer (some ⟨b6,0,none⟩))),(22,s5.v),(23,(iV (goLen p_x))),(24,(iV t_9))]∧St [] w0 w m [[⟨b6,[s1.v,s2.v,s3.v,s4.v],50⟩]]) (fun (o : (Unit) ⊕ (Bool × Bool)) e a w=>o = .inl ()∧e = .exit 0∧Fr a 72 [(1,s5.v),(2,(.pointer (some ⟨b6,0,none⟩)))]∧St [] w0 w m [[⟨b6,[s1.v,s2.v,s3.v,s4.v],50⟩]]) hl3 ⟨hF.sub ⟨rfl,rfl,rfl,rfl,rfl,trivial⟩,hS⟩ ?_ ?_
   ·clear hF hS
    rintro t_9 a w st ⟨hF,hS⟩ hb3
    unfold impl_IsFlow_l1 at hb3
    refine q_seq (q_region (q_x (v:=(.bool (decide (t_9 < (goLen p_x))))) hF hS (ex_ibin rfl rfl rfl) rfl rfl fun a hF=>q_end (n_sq (q_seq ?_))))
    rcases bcase (decide (t_9 < (goLen p_x))) with hc4 | hc4
    ·have hb3:=cond_f hc4 hb3
     refine q_cond_f hF rfl hc4 (q_exit (x_sq ?_))
     obtain rfl:=someI hb3
     exact ⟨nofun,.inl ⟨rfl,rfl,hF.sub ⟨rfl,rfl,trivial⟩,hS⟩⟩
    ·have hb3:=cond_t hc4 hb3
     refine q_cond_t hF rfl hc4 (q_skipc (n_sq (q_seq (q_block (q_seq (q_region (q_x (v:=(iV t_9)) hF hS (ex_move rfl) rfl rfl fun a hF=>?_)))))))
     obtain ⟨e_10,he_10,hb3⟩:=bindS hb3
     obtain ⟨vs11,at11,d11⟩:=h5.at he_10 1 rfl
     obtain ⟨s12,rfl,h12⟩ : ∃ s12 : Sl,vs11 = [s12.v]∧Rd m s12 e_10:=d11
     refine q_x (v:=(elP s5 (t_9.toNat * 1))) hF hS (ex_indexAddr Try.underlying23 sz28 rfl rfl (h5.idx he_10)) rfl rfl fun a hF=>q_x (v:=s12.v) hF hS (ex_loadE1 0 Try.underlying28 rfl rfl ((at11).at) rfl rfl) rfl rfl fun a hF=>q_x (v:=(iV t_9)) hF hS (ex_assign rfl) rfl rfl fun a hF=>q_x (v:=s12.v) hF hS (ex_assign rfl) rfl rfl fun a hF=>q_end (n_sq (q_seq (q_region (q_x (v:=s12.v) hF hS (ex_move rfl) rfl rfl fun a hF=>q_x (v:=(iV (goLen e_10))) hF hS (ex_len Try.underlying28 rfl h12.len) rfl rfl fun a hF=>q_x (v:=(iV 0)) hF hS (ex_move rfl) rfl rfl fun a hF=>q_end (n_sq (q_block ?_))))))
     obtain ⟨o5,hl5,hb3⟩:=bindS hb3
     refine q_loop (fun (t_13 : Int) a w=>Fr a 72 [(1,s5.v),(2,(.pointer (some ⟨b6,0,none⟩))),(6,(iV t_9)),(22,s5.v),(23,(iV (goLen p_x))),(24,(iV t_9)),(29,s12.v),(30,(iV (goLen e_10))),(31,(iV t_13))]∧St [] w0 w m [[⟨b6,[s1.v,s2.v,s3.v,s4.v],50⟩]]) (fun (o : (Unit) ⊕ (Stp (Int) ((Unit) ⊕ (Bool × Bool)))) e a w=>o = .inl ()∧e = .exit 2∧Fr a 72 [(1,s5.v),(2,(.pointer (some ⟨b6,0,none⟩))),(22,s5.v),(23,(iV (goLen p_x))),(24,(iV t_9))]∧St [] w0 w m [[⟨b6,[s1.v,s2.v,s3.v,s4.v],50⟩]]) hl5 ⟨hF.sub ⟨rfl,rfl,rfl,rfl,rfl,rfl,rfl,rfl,rfl,trivial⟩,hS⟩ ?_ ?_
     ·clear hF hS
      rintro t_13 a w st ⟨hF,hS⟩ hb5
      unfold impl_IsFlow_l2 at hb5
      refine q_seq (q_region (q_x (v:=(.bool (decide (t_13 < (goLen e_10))))) hF hS (ex_ibin rfl rfl rfl) rfl rfl fun a hF=>q_end (n_sq (q_seq ?_))))
      rcases bcase (decide (t_13 < (goLen e_10))) with hc6 | hc6
      ·have hb5:=cond_f hc6 hb5
       refine q_cond_f hF rfl hc6 (q_exit (x_sq ?_))
       obtain rfl:=someI hb5
       exact ⟨nofun,.inl ⟨rfl,rfl,hF.sub ⟨rfl,rfl,rfl,rfl,rfl,trivial⟩,hS⟩⟩
      ·have hb5:=cond_t hc6 hb5
       refine q_cond_t hF rfl hc6 (q_skipc (n_sq (q_seq (q_block (q_seq (q_region (q_x (v:=(iV t_13)) hF hS (ex_move rfl) rfl rfl fun a hF=>?_)))))))
       obtain ⟨e_14,he_14,hb5⟩:=bindS hb5
       obtain ⟨vs15,at15,d15⟩:=h12.at he_14 1 rfl
       obtain rfl : vs15 = [(iV e_14)]:=d15
       refine q_x (v:=(elP s12 (t_13.toNat * 1))) hF hS (ex_indexAddr Try.underlying28 sz3 rfl rfl (h12.idx he_14)) rfl rfl fun a hF=>q_x (v:=(iV e_14)) hF hS (ex_loadE1 0 Try.underlying3 rfl rfl ((at15).at) rfl rfl) rfl rfl fun a hF=>q_x (v:=(iV t_13)) hF hS (ex_assign rfl) rfl rfl fun a hF=>q_x (v:=(iV e_14)) hF hS (ex_assign rfl) rfl rfl fun a hF=>q_end (n_sq (q_seq ?_))
       obtain ⟨t_26,hj7,hb5⟩:=bindS hb5
       refine q_join (fun a w=>Fr a 72 [(1,s5.v),(2,(.pointer (some ⟨b6,0,none⟩))),(6,(iV t_9)),(22,s5.v),(23,(iV (goLen p_x))),(24,(iV t_9)),(29,s12.v),(30,(iV (goLen e_10))),(31,(iV t_13)),(57,(.bool t_26))]∧St [] w0 w m [[⟨b6,[s1.v,s2.v,s3.v,s4.v],50⟩]]) ?_ ?_
       ·refine q_region (q_x (v:=(iV e_14)) hF hS (ex_move rfl) rfl rfl fun a hF=>q_x (v:=(.pointer (some ⟨b6,2,none⟩))) hF hS (ex_fieldAddr Try.underlying50 rfl sz23 rfl rfl) rfl rfl fun a hF=>q_x (v:=s3.v) hF hS (ex_load1 0 0 Try.underlying23 rfl rfl rfl rfl) rfl rfl fun a hF=>q_x (v:=(iV t_9)) hF hS (ex_move rfl) rfl rfl fun a hF=>?_)
        obtain ⟨e_16,he_16,hj7⟩:=bindS hj7
        obtain ⟨vs17,at17,d17⟩:=h3.at he_16 1 rfl
        obtain ⟨s18,rfl,h18⟩ : ∃ s18 : Sl,vs17 = [s18.v]∧Rd m s18 e_16:=d17
        refine q_x (v:=(elP s3 (t_9.toNat * 1))) hF hS (ex_indexAddr Try.underlying23 sz28 rfl rfl (h3.idx he_16)) rfl rfl fun a hF=>q_x (v:=s18.v) hF hS (ex_loadE1 0 Try.underlying28 rfl rfl ((at17).at) rfl rfl) rfl rfl fun a hF=>q_x (v:=(iV t_13)) hF hS (ex_move rfl) rfl rfl fun a hF=>?_
        obtain ⟨e_19,he_19,hj7⟩:=bindS hj7
        obtain ⟨vs20,at20,d20⟩:=h18.at he_19 1 rfl
        obtain rfl : vs20 = [(iV e_19)]:=d20
        refine q_x (v:=(elP s18 (t_13.toNat * 1))) hF hS (ex_indexAddr Try.underlying28 sz3 rfl rfl (h18.idx he_19)) rfl rfl fun a hF=>q_x (v:=(iV e_19)) hF hS (ex_loadE1 0 Try.underlying3 rfl rfl ((at20).at) rfl rfl) rfl rfl fun a hF=>q_x (v:=(.bool (decide (e_14 < e_19)))) hF hS (ex_ibin rfl rfl rfl) rfl rfl fun a hF=>q_x (v:=(.bool (decide (e_14 < e_19)))) hF hS (ex_move rfl) rfl rfl fun a hF=>?_
        rcases bcase (decide (e_14 < e_19)) with hc8 | hc8
        ·have hj7:=cond_f hc8 hj7
         refine q_xg (v:=(iV e_14)) hF hS (ex_move rfl) (wanted_t hF rfl rfl rfl hc8) rfl fun a hF=>q_xg (v:=(.pointer (some ⟨b6,3,none⟩))) hF hS (ex_fieldAddr Try.underlying50 rfl sz23 rfl rfl) (wanted_t hF rfl rfl rfl hc8) rfl fun a hF=>q_xg (v:=s4.v) hF hS (ex_load1 0 0 Try.underlying23 rfl rfl rfl rfl) (wanted_t hF rfl rfl rfl hc8) rfl fun a hF=>q_xg (v:=(iV t_9)) hF hS (ex_move rfl) (wanted_t hF rfl rfl rfl hc8) rfl fun a hF=>?_
         obtain ⟨e_21,he_21,hj7⟩:=bindS hj7
         obtain ⟨vs22,at22,d22⟩:=h4.at he_21 1 rfl
         obtain ⟨s23,rfl,h23⟩ : ∃ s23 : Sl,vs22 = [s23.v]∧Rd m s23 e_21:=d22
         refine q_xg (v:=(elP s4 (t_9.toNat * 1))) hF hS (ex_indexAddr Try.underlying23 sz28 rfl rfl (h4.idx he_21)) (wanted_t hF rfl rfl rfl hc8) rfl fun a hF=>q_xg (v:=s23.v) hF hS (ex_loadE1 0 Try.underlying28 rfl rfl ((at22).at) rfl rfl) (wanted_t hF rfl rfl rfl hc8) rfl fun a hF=>q_xg (v:=(iV t_13)) hF hS (ex_move rfl) (wanted_t hF rfl rfl rfl hc8) rfl fun a hF=>?_
         obtain ⟨e_24,he_24,hj7⟩:=bindS hj7
         obtain ⟨vs25,at25,d25⟩:=h23.at he_24 1 rfl
         obtain rfl : vs25 = [(iV e_24)]:=d25
         refine q_xg (v:=(elP s23 (t_13.toNat * 1))) hF hS (ex_indexAddr Try.underlying28 sz3 rfl rfl (h23.idx he_24)) (wanted_t hF rfl rfl rfl hc8) rfl fun a hF=>q_xg (v:=(iV e_24)) hF hS (ex_loadE1 0 Try.underlying3 rfl rfl ((at25).at) rfl rfl) (wanted_t hF rfl rfl rfl hc8) rfl fun a hF=>q_xg (v:=(.bool (decide (e_24 < e_14)))) hF hS (ex_ibin rfl rfl rfl) (wanted_t hF rfl rfl rfl hc8) rfl fun a hF=>q_x (v:=(.bool (decide (e_24 < e_14)))) hF hS (ex_pick_f rfl rfl hc8) rfl rfl fun a hF=>q_end (n_jn ?_)
         obtain rfl:=someI hj7
         exact ⟨hF.sub ⟨rfl,rfl,rfl,rfl,rfl,rfl,rfl,rfl,rfl,rfl,trivial⟩,hS⟩
        ·have hj7:=cond_t hc8 hj7
         refine q_skip hF (wanted_f hF rfl rfl rfl hc8 rfl) rfl fun a hF=>q_skip hF (wanted_f hF rfl rfl rfl hc8 rfl) rfl fun a hF=>q_skip hF (wanted_f hF rfl rfl rfl hc8 rfl) rfl fun a hF=>q_skip hF (wanted_f hF rfl rfl rfl hc8 rfl) rfl fun a hF=>q_skip hF (wanted_f hF rfl rfl rfl hc8 rfl) rfl fun a hF=>q_skip hF (wanted_f hF rfl rfl rfl hc8 rfl) rfl fun a hF=>q_skip hF (wanted_f hF rfl rfl rfl hc8 rfl) rfl fun a hF=>q_skip hF (wanted_f hF rfl rfl rfl hc8 rfl) rfl fun a hF=>q_skip hF (wanted_f hF rfl rfl rfl hc8 rfl) rfl fun a hF=>q_skip hF (wanted_f hF rfl rfl rfl hc8 rfl) rfl fun a hF=>q_x (v:=(.bool true)) hF hS (ex_pick_t rfl rfl hc8) rfl rfl fun a hF=>q_end (n_jn ?_)
         obtain rfl:=someI hj7
         exact ⟨hF.sub ⟨rfl,rfl,rfl,rfl,rfl,rfl,rfl,rfl,rfl,rfl,trivial⟩,hS⟩
       ·rintro a w ⟨hF,hS⟩
        refine n_sq ?_
        rcases bcase (t_26) with hc9 | hc9
        ·have hb5:=cond_f hc9 hb5
         refine q_cond_f hF rfl hc9 (q_skipc (n_ib (n_sq (q_region (q_x (v:=(iV (w64 (t_13 + 1)))) hF hS (ex_ibin rfl rfl rfl) rfl rfl fun a hF=>q_x (v:=(iV (w64 (t_13 + 1)))) hF hS (ex_move rfl) rfl rfl fun a hF=>q_end ?_)))))
         obtain rfl:=someI hb5
         exact ⟨rfl,hF.sub ⟨rfl,rfl,rfl,rfl,rfl,rfl,rfl,rfl,rfl,trivial⟩,hS⟩
        ·have hb5:=cond_t hc9 hb5
         refine q_cond_t hF rfl hc9 (q_seq (q_region (q_x (v:=(.bool false)) hF hS (ex_assign rfl) rfl rfl fun a hF=>q_x (v:=(.bool true)) hF hS (ex_assign rfl) rfl rfl fun a hF=>q_end (n_sq (q_ret (r_ib (r_sq ?_)))))))
         obtain rfl:=someI hb5
         refine ⟨nofun,.inr fun ho=>?_⟩
         subst ho
         refine r_ib (r_ib (r_sq ?_))
         obtain rfl:=someI hb3
         refine ⟨nofun,.inr fun ho=>?_⟩
         subst ho
         refine r_ib (r_sq ?_)
         obtain rfl:=someI hr
         exact ret_of hF hS rfl (.tmp rfl (.tmp rfl .nil)) rfl
     ·rintro e a w ⟨rfl,rfl,hF,hS⟩
      refine x_ib (n_ib (n_sq ?_))
      refine q_region (q_x (v:=(iV (w64 (t_9 + 1)))) hF hS (ex_ibin rfl rfl rfl) rfl rfl fun a hF=>q_x (v:=(iV (w64 (t_9 + 1)))) hF hS (ex_move rfl) rfl rfl fun a hF=>q_end ?_)
      obtain rfl:=someI hb3
      exact ⟨rfl,hF.sub ⟨rfl,rfl,rfl,rfl,rfl,trivial⟩,hS⟩
   ·rintro e a w ⟨rfl,rfl,hF,hS⟩
    refine x_ib (n_sq ?_)
    refine q_seq ?_
    obtain ⟨t_49,hj10,hr⟩:=bindS hr
    refine q_join (fun a w=>Fr a 72 [(4,(.bool t_49)),(5,(.bool true))]∧St [] w0 w m []) ?_ ?_
    ·refine e_region ⟨[],[],m⟩ mixed fun w' hw'=>?_
     have hS:=hS.below hw'
     refine e_p (v:=s5.v) 0 hF rfl (ex_move rfl) rfl rfl (by kernel_rfl) (by kernel_rfl) (by kernel_rfl) fun a hF=>e_p (v:=(.pointer (some ⟨b6,0,none⟩))) 2 hF rfl (ex_fieldAddr Try.underlying50 rfl sz28 rfl rfl) rfl rfl (by kernel_rfl) (by kernel_rfl) (by kernel_rfl) fun a hF=>e_x (v:=s1.v) 3 hF hS rfl (ex_load1 0 0 Try.underlying28 rfl rfl rfl rfl) rfl rfl (by kernel_rfl) (by kernel_rfl) (by kernel_rfl) (by kernel_rfl) fun a hF=>e_one 1 (by kernel_rfl) ?_
     obtain ⟨t_33,ht_33,hj10⟩:=bindS hj10
     refine e_call (vs:=[s5.v]) hF hS rfl Try.func104 (by kernel_rfl) rfl rfl rfl (c_impl_rowSums p_x t_33 ht_33 _ m hS.vis s5 h5) ?_
     rintro a w _ ⟨q35,s35,rfl,hR34,h35⟩ hF hS2
     have hS : St _ _ _ _ [q35,[⟨b6,[s1.v,s2.v,s3.v,s4.v],50⟩]]:=hS.joinF hR34
     refine e_one 4 (by kernel_rfl) ?_
     obtain ⟨m37,hl37,hv37,hz37⟩:=hS.lend
     obtain ⟨t_36,ht_36,hj10⟩:=bindS hj10
     refine e_call (vs:=[s35.v,s1.v]) hF hS rfl Try.func103 (by kernel_rfl) rfl rfl rfl (c_slices_Equal_int_int t_33 p_t.Rows t_36 ht_36 _ m37 hv37 s35 (h35.froz hl37 (hz37 0 _ rfl)) s1 (h1.mono hl37)) ?_
     rintro a w _ rfl hF hS
     refine e_p (v:=(.bool t_36)) 5 hF rfl (ex_move rfl) rfl rfl (by kernel_rfl) (by kernel_rfl) (by kernel_rfl) fun a hF=>?_
     rcases bcase (t_36) with hc11 | hc11
     ·have hj10:=cond_f hc11 hj10
      refine e_skipP 6 hF rfl (wanted_f hF rfl rfl rfl hc11 rfl) rfl (by kernel_rfl) (by kernel_rfl) (by kernel_rfl) fun a hF=>e_skipP 7 hF rfl (wanted_f hF rfl rfl rfl hc11 rfl) rfl (by kernel_rfl) (by kernel_rfl) (by kernel_rfl) fun a hF=>e_skipP 8 hF rfl (wanted_f hF rfl rfl rfl hc11 rfl) rfl (by kernel_rfl) (by kernel_rfl) (by kernel_rfl) fun a hF=>e_skipP 9 hF rfl (wanted_f hF rfl rfl rfl hc11 rfl) rfl (by kernel_rfl) (by kernel_rfl) (by kernel_rfl) fun a hF=>e_skipP 10 hF rfl (wanted_f hF rfl rfl rfl hc11 rfl) rfl (by kernel_rfl) (by kernel_rfl) (by kernel_rfl) fun a hF=>e_p (v:=(.bool false)) 11 hF rfl (ex_pick_f rfl rfl hc11) rfl rfl (by kernel_rfl) (by kernel_rfl) (by kernel_rfl) fun a hF=>e_p (v:=(.bool false)) 12 hF rfl (ex_assign rfl) rfl rfl (by kernel_rfl) (by kernel_rfl) (by kernel_rfl) fun a hF=>e_p (v:=(.bool true)) 13 hF rfl (ex_assign rfl) rfl rfl (by kernel_rfl) (by kernel_rfl) (by kernel_rfl) fun a hF=>e_end (by kernel_rfl) (n_jn ?_) _
      obtain rfl:=someI hj10
      exact ⟨hF.sub ⟨rfl,rfl,trivial⟩,hS.mask [false,false]⟩
     ·have hj10:=cond_t hc11 hj10
      refine e_pg (v:=s5.v) 6 hF rfl (ex_move rfl) (wanted_t hF rfl rfl rfl hc11) rfl (by kernel_rfl) (by kernel_rfl) (by kernel_rfl) fun a hF=>e_pg (v:=(.pointer (some ⟨b6,1,none⟩))) 8 hF rfl (ex_fieldAddr Try.underlying50 rfl sz28 rfl rfl) (wanted_t hF rfl rfl rfl hc11) rfl (by kernel_rfl) (by kernel_rfl) (by kernel_rfl) fun a hF=>e_xg (v:=s2.v) 9 hF hS rfl (ex_load1 1 0 Try.underlying28 rfl rfl rfl rfl) (wanted_t hF rfl rfl rfl hc11) rfl (by kernel_rfl) (by kernel_rfl) (by kernel_rfl) (by kernel_rfl) fun a hF=>e_one 7 (by kernel_rfl) ?_
      obtain ⟨t_44,ht_44,hj10⟩:=bindS hj10
      refine e_callg (vs:=[s5.v]) hF hS rfl (wanted_t hF rfl rfl rfl hc11) Try.func105 (by kernel_rfl) rfl rfl rfl (c_impl_colSums p_x t_44 ht_44 _ m hS.vis s5 h5) ?_
      rintro a w _ ⟨q46,s46,rfl,hR45,h46⟩ hF hS2
      have hS : St _ _ _ _ [q46,q35,[⟨b6,[s1.v,s2.v,s3.v,s4.v],50⟩]]:=hS.joinF hR45
      refine e_one 10 (by kernel_rfl) ?_
      obtain ⟨m48,hl48,hv48,hz48⟩:=hS.lend
      obtain ⟨t_47,ht_47,hj10⟩:=bindS hj10
      refine e_callg (vs:=[s46.v,s2.v]) hF hS rfl (wanted_t hF rfl rfl rfl hc11) Try.func103 (by kernel_rfl) rfl rfl rfl (c_slices_Equal_int_int t_44 p_t.Cols t_47 ht_47 _ m48 hv48 s46 (h46.froz hl48 (hz48 0 _ rfl)) s2 (h2.mono hl48)) ?_
      rintro a w _ rfl hF hS
      refine e_p (v:=(.bool t_47)) 11 hF rfl (ex_pick_t rfl rfl hc11) rfl rfl (by kernel_rfl) (by kernel_rfl) (by kernel_rfl) fun a hF=>e_p (v:=(.bool t_47)) 12 hF rfl (ex_assign rfl) rfl rfl (by kernel_rfl) (by kernel_rfl) (by kernel_rfl) fun a hF=>e_p (v:=(.bool true)) 13 hF rfl (ex_assign rfl) rfl rfl (by kernel_rfl) (by kernel_rfl) (by kernel_rfl) fun a hF=>e_end (by kernel_rfl) (n_jn ?_) _
      obtain rfl:=someI hj10
      exact ⟨hF.sub ⟨rfl,rfl,trivial⟩,hS.mask [false,false,false]⟩
    ·rintro a w ⟨hF,hS⟩
     refine n_sq (q_ret ?_)
     obtain rfl:=someI hr
     exact ret_of hF hS rfl (.tmp rfl (.tmp rfl .nil)) rfl
  ·have hr:=cond_t hc2 hr
   refine q_cond_t hF rfl hc2 (q_seq (q_region (q_x (v:=(.bool false)) hF hS (ex_assign rfl) rfl rfl fun a hF=>q_x (v:=(.bool true)) hF hS (ex_assign rfl) rfl rfl fun a hF=>q_end (n_sq (q_ret (r_sq ?_))))))
   obtain rfl:=someI hr
   exact ret_of hF hS rfl (.tmp rfl (.tmp rfl .nil)) rfl
 ·have hr:=cond_t hc1 hr
  refine q_cond_t hF rfl hc1 (q_seq (q_region (q_x (v:=(.bool false)) hF hS (ex_assign rfl) rfl rfl fun a hF=>q_x (v:=(.bool false)) hF hS (ex_assign rfl) rfl rfl fun a hF=>q_end (n_sq (q_ret (r_sq ?_))))))
  obtain rfl:=someI hr
  exact ret_of hF hS rfl (.tmp rfl (.tmp rfl .nil)) rfl

theorem c_impl_PublishedTable (p_x : List (List Int)) (p_p : List (List Int)) (r : (List (List Int)) × Bool) (hr : impl_PublishedTable p_x p_p = some r) (w0 : World) (m : Mem) (hv : Vis m w0) (s1 : Sl) (h1 : Rd m s1 p_x) (s2 : Sl) (h2 : Rd m s2 p_p) :
  Ret Try.prog 32 [s1.v,s2.v] w0 (fun v w=>∃ (q0' : Piece) (s0' : Sl),v = (.tuple #[s0'.v,(.bool r.2)])∧St [] w0 w m [q0']∧OwnD m 28 3 q0' s0' r.1):=by
 unfold impl_PublishedTable at hr
 refine ret_start Try.func32 rfl 42 rfl rfl m hv fun a hF hS=>q_seq (q_region (q_x (v:=nilS.v) hF hS (ex_assign rfl) rfl rfl fun a hF=>q_x (v:=(.bool false)) hF hS (ex_assign rfl) rfl rfl fun a hF=>q_end (n_sq (q_seq (q_seq (q_region (q_x (v:=s1.v) hF hS (ex_move rfl) rfl rfl fun a hF=>q_x (v:=s2.v) hF hS (ex_move rfl) rfl rfl fun a hF=>?_)))))))
 obtain ⟨t_3,ht_3,hr⟩:=bindS hr
 refine q_call (vs:=[s1.v,s2.v]) hF hS Try.func95 (by kernel_rfl) rfl rfl rfl (c_impl_areSuppressed p_x p_p t_3 ht_3 _ m hS.vis s1 h1 s2 h2) ?_
 rintro a w _ rfl hF hS
 refine q_x (v:=(.bool (!t_3))) hF hS (ex_not rfl) rfl rfl fun a hF=>q_end (n_sq ?_)
 rcases bcase (!t_3) with hc1 | hc1
 ·have hr:=cond_f hc1 hr
  refine q_cond_f hF rfl hc1 (q_skipc (n_sq (q_seq (q_region (q_x (v:=s1.v) hF hS (ex_move rfl) rfl rfl fun a hF=>?_)))))
  obtain ⟨t_4,ht_4,hr⟩:=bindS hr
  refine q_call (vs:=[s1.v]) hF hS Try.func75 (by kernel_rfl) rfl rfl rfl (c_impl_copyMatrix p_x t_4 ht_4 _ m hS.vis s1 h1) ?_
  rintro a w _ ⟨q6,s6,rfl,hR5,h6,h6n⟩ hF hS2
  have hS : St _ _ _ _ [q6]:=hS.joinF hR5
  refine q_x (v:=s6.v) hF hS (ex_assign rfl) rfl rfl fun a hF=>q_end (n_sq (q_seq (q_seq (q_region (q_x (v:=s2.v) hF hS (ex_move rfl) rfl rfl fun a hF=>q_x (v:=(iV (goLen p_p))) hF hS (ex_len Try.underlying23 rfl h2.len) rfl rfl fun a hF=>q_x (v:=(iV 0)) hF hS (ex_move rfl) rfl rfl fun a hF=>q_end (n_sq (q_block ?_)))))))
  obtain ⟨out_27,hl2,hr⟩:=bindS hr
  refine q_loop (fun (s : (List (List Int)) × Int) a w=>∃ (q8 : Piece),∃ out_7,∃ t_9,s = (out_7,t_9)∧Fr a 42 [(6,s6.v),(17,s2.v),(18,(iV (goLen p_p))),(19,(iV t_9))]∧St [] w0 w m [q8]∧OwnD m 28 3 q8 s6 out_7) (fun (out_27 : (List (List Int))) e a w=>∃ (q28 : Piece),e = .exit 0∧Fr a 42 [(6,s6.v)]∧St [] w0 w m [q28]∧OwnD m 28 3 q28 s6 out_27) hl2 ⟨q6,_,_,rfl,hF.sub ⟨rfl,rfl,rfl,rfl,trivial⟩,hS,h6⟩ ?_ ?_
  ·clear hF hS
   rintro s a w st ⟨q8,out_7,t_9,rfl,hF,hS,h8⟩ hb2
   unfold impl_PublishedTable_l1 at hb2
   refine q_seq (q_region (q_x (v:=(.bool (decide (t_9 < (goLen p_p))))) hF hS (ex_ibin rfl rfl rfl) rfl rfl fun a hF=>q_end (n_sq (q_seq ?_))))
   rcases bcase (decide (t_9 < (goLen p_p))) with hc3 | hc3
   ·have hb2:=cond_f hc3 hb2
    refine q_cond_f hF rfl hc3 (q_exit (x_sq ?_))
    obtain rfl:=someI hb2
    exact ⟨nofun,.inl ⟨q8,rfl,hF.sub ⟨rfl,trivial⟩,hS,h8⟩⟩
   ·have hb2:=cond_t hc3 hb2
    refine q_cond_t hF rfl hc3 (q_skipc (n_sq (q_seq (q_block (q_seq (q_region (q_x (v:=(iV t_9)) hF hS (ex_move rfl) rfl rfl fun a hF=>?_)))))))
    obtain ⟨e_10,he_10,hb2⟩:=bindS hb2
    obtain ⟨vs11,at11,d11⟩:=h2.at he_10 1 rfl
    obtain ⟨s12,rfl,h12⟩ : ∃ s12 : Sl,vs11 = [s12.v]∧Rd m s12 e_10:=d11
    refine q_x (v:=(elP s2 (t_9.toNat * 1))) hF hS (ex_indexAddr Try.underlying23 sz28 rfl rfl (h2.idx he_10)) rfl rfl fun a hF=>q_x (v:=s12.v) hF hS (ex_loadE1 0 Try.underlying28 rfl rfl ((at11).at) rfl rfl) rfl rfl fun a hF=>q_x (v:=(iV t_9)) hF hS (ex_assign rfl) rfl rfl fun a hF=>q_x (v:=s12.v) hF hS (ex_assign rfl) rfl rfl fun a hF=>q_end (n_sq (q_seq (q_region (q_x (v:=s12.v) hF hS (ex_move rfl) rfl rfl fun a hF=>q_x (v:=(iV (goLen e_10))) hF hS (ex_len Try.underlying28 rfl h12.len) rfl rfl fun a hF=>q_x (v:=(iV 0)) hF hS (ex_move rfl) rfl rfl fun a hF=>q_end (n_sq (q_block ?_))))))
    obtain ⟨out_25,hl4,hb2⟩:=bindS hb2
    refine q_loop (fun (s : (List (List Int)) × Int) a w=>∃ (q14 : Piece),∃ out_13,∃ t_15,s = (out_13,t_15)∧Fr a 42 [(6,s6.v),(7,(iV t_9)),(17,s2.v),(18,(iV (goLen p_p))),(19,(iV t_9)),(24,s12.v),(25,(iV (goLen e_10))),(26,(iV t_15))]∧St [] w0 w m [q14]∧OwnD m 28 3 q14 s6 out_13) (fun (out_25 : (List (List Int))) e a w=>∃ (q26 : Piece),e = .exit 2∧Fr a 42 [(6,s6.v),(17,s2.v),(18,(iV (goLen p_p))),(19,(iV t_9))]∧St [] w0 w m [q26]∧OwnD m 28 3 q26 s6 out_25) hl4 ⟨q8,_,_,rfl,hF.sub ⟨rfl,rfl,rfl,rfl,rfl,rfl,rfl,rfl,trivial⟩,hS,h8⟩ ?_ ?_
    ·clear hF hS
     rintro s a w st ⟨q14,out_13,t_15,rfl,hF,hS,h14⟩ hb4
     unfold impl_PublishedTable_l2 at hb4
     refine q_seq (q_region (q_x (v:=(.bool (decide (t_15 < (goLen e_10))))) hF hS (ex_ibin rfl rfl rfl) rfl rfl fun a hF=>q_end (n_sq (q_seq ?_))))
     rcases bcase (decide (t_15 < (goLen e_10))) with hc5 | hc5
     ·have hb4:=cond_f hc5 hb4
      refine q_cond_f hF rfl hc5 (q_exit (x_sq ?_))
      obtain rfl:=someI hb4
      exact ⟨nofun,.inl ⟨q14,rfl,hF.sub ⟨rfl,rfl,rfl,rfl,trivial⟩,hS,h14⟩⟩
     ·have hb4:=cond_t hc5 hb4
      refine q_cond_t hF rfl hc5 (q_skipc (n_sq (q_seq (q_block (q_seq (q_region (q_x (v:=(iV t_15)) hF hS (ex_move rfl) rfl rfl fun a hF=>?_)))))))
      obtain ⟨e_16,he_16,hb4⟩:=bindS hb4
      obtain ⟨vs17,at17,d17⟩:=h12.at he_16 1 rfl
      obtain rfl : vs17 = [(iV e_16)]:=d17
      refine q_x (v:=(elP s12 (t_15.toNat * 1))) hF hS (ex_indexAddr Try.underlying28 sz3 rfl rfl (h12.idx he_16)) rfl rfl fun a hF=>q_x (v:=(iV e_16)) hF hS (ex_loadE1 0 Try.underlying3 rfl rfl ((at17).at) rfl rfl) rfl rfl fun a hF=>q_x (v:=(iV t_15)) hF hS (ex_assign rfl) rfl rfl fun a hF=>q_x (v:=(iV e_16)) hF hS (ex_assign rfl) rfl rfl fun a hF=>q_end (n_sq (q_seq (q_region (q_x (v:=(iV e_16)) hF hS (ex_move rfl) rfl rfl fun a hF=>q_x (v:=(.bool (e_16 == 1))) hF hS (ex_ibin rfl rfl rfl) rfl rfl fun a hF=>q_end (n_sq ?_)))))
      obtain ⟨out_23,hj6,hb4⟩:=bindS hb4
      refine q_join (fun a w=>∃ (q24 : Piece),Fr a 42 [(6,s6.v),(7,(iV t_9)),(17,s2.v),(18,(iV (goLen p_p))),(19,(iV t_9)),(24,s12.v),(25,(iV (goLen e_10))),(26,(iV t_15))]∧St [] w0 w m [q24]∧OwnD m 28 3 q24 s6 out_23) ?_ ?_
      ·rcases bcase (e_16 == 1) with hc7 | hc7
       ·have hj6:=cond_f hc7 hj6
        refine q_cond_f hF rfl hc7 (q_skipc (n_jn ?_))
        obtain rfl:=someI hj6
        exact ⟨q14,hF.sub ⟨rfl,rfl,rfl,rfl,rfl,rfl,rfl,rfl,trivial⟩,hS,h14⟩
       ·have hj6:=cond_t hc7 hj6
        refine q_cond_t hF rfl hc7 (q_region (q_x (v:=s6.v) hF hS (ex_move rfl) rfl rfl fun a hF=>q_x (v:=(iV t_9)) hF hS (ex_move rfl) rfl rfl fun a hF=>?_))
        obtain ⟨e_18,he_18,hj6⟩:=bindS hj6
        obtain ⟨s19,hV19⟩:=h14.view he_18
        refine q_x (v:=(elP s6 (t_9.toNat * 1))) hF hS (ex_indexAddr Try.underlying23 sz28 rfl rfl (h14.idx he_18)) rfl rfl fun a hF=>q_x (v:=s19.v) hF hS (ex_loadE1 0 Try.underlying28 rfl rfl ((hV19.atH he_18).at 0 rfl) rfl rfl) rfl rfl fun a hF=>q_x (v:=(iV t_15)) hF hS (ex_move rfl) rfl rfl fun a hF=>?_
        obtain ⟨e_20,he_20,hj6⟩:=bindS hj6
        obtain ⟨vs21,at21,d21⟩:=hV19.at he_18 he_20 1 rfl
        obtain rfl : vs21 = [(iV e_20)]:=d21
        refine q_x (v:=(elP s19 (t_15.toNat * 1))) hF hS (ex_indexAddr Try.underlying28 sz3 rfl rfl (hV19.idx he_18 he_20)) rfl rfl fun a hF=>q_do rfl fun _ hK=>wp_storeV (e':=-1) (us:=[(iV (-1))]) (vs:=[(iV e_20)]) 0 hF hS hV19 he_18 sz3 rfl rfl rfl rfl rfl rfl rfl he_20 at21 rfl rfl rfl fun w q22 hS h22=>hK _ _ (q_end (n_jn ?_))
        obtain rfl:=someI hj6
        exact ⟨q22,hF.sub ⟨rfl,rfl,rfl,rfl,rfl,rfl,rfl,rfl,trivial⟩,hS,h22.own⟩
      ·rintro a w ⟨q24,hF,hS,h24⟩
       refine n_ib (n_sq ?_)
       refine q_region (q_x (v:=(iV (w64 (t_15 + 1)))) hF hS (ex_ibin rfl rfl rfl) rfl rfl fun a hF=>q_x (v:=(iV (w64 (t_15 + 1)))) hF hS (ex_move rfl) rfl rfl fun a hF=>q_end ?_)
       obtain rfl:=someI hb4
       exact ⟨rfl,q24,_,_,rfl,hF.sub ⟨rfl,rfl,rfl,rfl,rfl,rfl,rfl,rfl,trivial⟩,hS,h24⟩
    ·rintro e a w ⟨q26,rfl,hF,hS,h26⟩
     refine x_ib (n_ib (n_sq ?_))
     refine q_region (q_x (v:=(iV (w64 (t_9 + 1)))) hF hS (ex_ibin rfl rfl rfl) rfl rfl fun a hF=>q_x (v:=(iV (w64 (t_9 + 1)))) hF hS (ex_move rfl) rfl rfl fun a hF=>q_end ?_)
     obtain rfl:=someI hb2
     exact ⟨rfl,q26,_,_,rfl,hF.sub ⟨rfl,rfl,rfl,rfl,trivial⟩,hS,h26⟩
  ·rintro e a w ⟨q28,rfl,hF,hS,h28⟩
   refine x_ib (n_sq ?_)
   refine q_seq (q_region (q_x (v:=s6.v) hF hS (ex_move rfl) rfl rfl fun a hF=>q_x (v:=s6.v) hF hS (ex_assign rfl) rfl rfl fun a hF=>q_x (v:=(.bool true)) hF hS (ex_assign rfl) rfl rfl fun a hF=>q_end (n_sq (q_ret ?_))))
   obtain rfl:=someI hr
   exact ret_of hF hS rfl (.tmp rfl (.tmp rfl .nil)) ⟨q28,s6,rfl,hS.sel [0] (by decide),h28⟩
 ·have hr:=cond_t hc1 hr
  refine q_cond_t hF rfl hc1 (q_seq (q_region (q_x (v:=nilS.v) hF hS (ex_assign rfl) rfl rfl fun a hF=>q_x (v:=(.bool false)) hF hS (ex_assign rfl) rfl rfl fun a hF=>q_end (n_sq (q_ret (r_sq ?_))))))
  obtain rfl:=someI hr
  exact ret_of hF hS rfl (.tmp rfl (.tmp rfl .nil)) ⟨[],nilS,rfl,hS.sel [0] (by decide),(OwnD.nil (β:=Int) m 28 3)⟩

theorem c_spec_PublishedTable (p_x : List (List Int)) (p_p : List (List Int)) (r : (List (List Int)) × Bool) (hr : spec_PublishedTable p_x p_p = some r) (w0 : World) (m : Mem) (hv : Vis m w0) (s1 : Sl) (h1 : Rd m s1 p_x) (s2 : Sl) (h2 : Rd m s2 p_p) :
  Ret Try.prog 33 [s1.v,s2.v] w0 (fun v w=>∃ (m' : Mem) (q0' : Piece) (s0' : Sl),v = (.tuple #[s0'.v,(.bool r.2)])∧MLe [] w0.heap.size m m'∧St [] w0 w m' [q0']∧OwnL m' 28 q0' s0' r.1):=by
 unfold spec_PublishedTable at hr
 refine ret_start Try.func33 rfl 49 rfl rfl m hv fun a hF hS=>q_seq (q_region (q_x (v:=nilS.v) hF hS (ex_assign rfl) rfl rfl fun a hF=>q_x (v:=(.bool false)) hF hS (ex_assign rfl) rfl rfl fun a hF=>q_end (n_sq (q_seq (q_seq (q_region (q_x (v:=s1.v) hF hS (ex_move rfl) rfl rfl fun a hF=>q_x (v:=s2.v) hF hS (ex_move rfl) rfl rfl fun a hF=>?_)))))))
 obtain ⟨t_3,ht_3,hr⟩:=bindS hr
 refine q_call (vs:=[s1.v,s2.v]) hF hS Try.func98 (by kernel_rfl) rfl rfl rfl (c_spec_qPattern p_x p_p t_3 ht_3 _ m hS.vis s1 h1 s2 h2) ?_
 rintro a w _ rfl hF hS
 refine q_x (v:=(.bool (!t_3))) hF hS (ex_not rfl) rfl rfl fun a hF=>q_end (n_sq ?_)
 rcases bcase (!t_3) with hc1 | hc1
 ·have hr:=cond_f hc1 hr
  refine q_cond_f hF rfl hc1 (q_skipc (n_sq (q_seq (q_region (q_x (v:=nilS.v) hF hS (ex_assign rfl) rfl rfl fun a hF=>q_end (n_sq (q_seq (q_seq (q_region (q_x (v:=s1.v) hF hS (ex_move rfl) rfl rfl fun a hF=>q_x (v:=(iV (goLen p_x))) hF hS (ex_len Try.underlying23 rfl h1.len) rfl rfl fun a hF=>q_x (v:=(iV 0)) hF hS (ex_move rfl) rfl rfl fun a hF=>q_end (n_sq (q_block ?_))))))))))))
  obtain ⟨out_31,hl2,hr⟩:=bindS hr
  refine q_loop (fun (s : (List (List Int)) × Int) a w=>∃ (m7 : Mem),∃ (q5 : Piece),∃ (s5 : Sl),∃ out_4,∃ t_6,s = (out_4,t_6)∧Fr a 49 [(1,s2.v),(6,s5.v),(16,s1.v),(17,(iV (goLen p_x))),(18,(iV t_6))]∧St [] w0 w m7 [q5]∧MLe [] w0.heap.size m m7∧OwnL m7 28 q5 s5 out_4) (fun (out_31 : (List (List Int))) e a w=>∃ (m33 : Mem),∃ (q32 : Piece),∃ (s32 : Sl),e = .exit 0∧Fr a 49 [(6,s32.v)]∧St [] w0 w m33 [q32]∧MLe [] w0.heap.size m m33∧OwnL m33 28 q32 s32 out_31) hl2 ⟨m,[],nilS,_,_,rfl,hF.sub ⟨rfl,rfl,rfl,rfl,rfl,trivial⟩,hS.sel [0] (by decide),(MLe.refl _ _),(OwnL.nil (α:=List Int) m 28)⟩ ?_ ?_
  ·clear hF hS
   rintro s a w st ⟨m7,q5,s5,out_4,t_6,rfl,hF,hS,hm7,h5⟩ hb2
   unfold spec_PublishedTable_l1 at hb2
   refine q_seq (q_region (q_x (v:=(.bool (decide (t_6 < (goLen p_x))))) hF hS (ex_ibin rfl rfl rfl) rfl rfl fun a hF=>q_end (n_sq (q_seq ?_))))
   rcases bcase (decide (t_6 < (goLen p_x))) with hc3 | hc3
   ·have hb2:=cond_f hc3 hb2
    refine q_cond_f hF rfl hc3 (q_exit (x_sq ?_))
    obtain rfl:=someI hb2
    exact ⟨nofun,.inl ⟨m7,q5,s5,rfl,hF.sub ⟨rfl,trivial⟩,hS,hm7,h5⟩⟩
   ·have hb2:=cond_t hc3 hb2
    refine q_cond_t hF rfl hc3 (q_skipc (n_sq (q_seq (q_block (q_seq (q_region (q_x (v:=(iV t_6)) hF hS (ex_move rfl) rfl rfl fun a hF=>?_)))))))
    obtain ⟨e_8,he_8,hb2⟩:=bindS hb2
    obtain ⟨vs9,at9,d9⟩:=h1.at he_8 1 rfl
    obtain ⟨s10,rfl,h10⟩ : ∃ s10 : Sl,vs9 = [s10.v]∧Rd m s10 e_8:=d9
    refine q_x (v:=(elP s1 (t_6.toNat * 1))) hF hS (ex_indexAddr Try.underlying23 sz28 rfl rfl ((h1.mono hm7.le).idx he_8)) rfl rfl fun a hF=>q_x (v:=s10.v) hF hS (ex_loadE1 0 Try.underlying28 rfl rfl (((at9.mono hm7.le)).at) rfl rfl) rfl rfl fun a hF=>q_x (v:=(iV t_6)) hF hS (ex_assign rfl) rfl rfl fun a hF=>q_x (v:=s10.v) hF hS (ex_assign rfl) rfl rfl fun a hF=>q_end (n_sq (q_seq (q_region (q_x (v:=nilS.v) hF hS (ex_assign rfl) rfl rfl fun a hF=>q_end (n_sq (q_seq (q_seq (q_region (q_x (v:=s10.v) hF hS (ex_move rfl) rfl rfl fun a hF=>q_x (v:=(iV (goLen e_8))) hF hS (ex_len Try.underlying28 rfl (h10.mono hm7.le).len) rfl rfl fun a hF=>q_x (v:=(iV 0)) hF hS (ex_move rfl) rfl rfl fun a hF=>q_end (n_sq (q_block ?_)))))))))))
    obtain ⟨l_25,hl4,hb2⟩:=bindS hb2
    refine q_loop (fun (s : (List Int) × Int) a w=>∃ (q12 : Piece),∃ (s12 : Sl),∃ l_11,∃ t_13,s = (l_11,t_13)∧Fr a 49 [(1,s2.v),(6,s5.v),(7,(iV t_6)),(9,s12.v),(16,s1.v),(17,(iV (goLen p_x))),(18,(iV t_6)),(23,s10.v),(24,(iV (goLen e_8))),(25,(iV t_13))]∧St [] w0 w m7 [q12,q5]∧OwnL m7 3 q12 s12 l_11) (fun (l_25 : (List Int)) e a w=>∃ (q26 : Piece),∃ (s26 : Sl),e = .exit 2∧Fr a 49 [(1,s2.v),(6,s5.v),(9,s26.v),(16,s1.v),(17,(iV (goLen p_x))),(18,(iV t_6))]∧St [] w0 w m7 [q5,q26]∧OwnL m7 3 q26 s26 l_25) hl4 ⟨[],nilS,_,_,rfl,hF.sub ⟨rfl,rfl,rfl,rfl,rfl,rfl,rfl,rfl,rfl,rfl,trivial⟩,hS.sel [1,0] (by decide),(OwnL.nil (α:=Int) m7 3)⟩ ?_ ?_
    ·clear hF hS
     rintro s a w st ⟨q12,s12,l_11,t_13,rfl,hF,hS,h12⟩ hb4
     unfold spec_PublishedTable_l2 at hb4
     refine q_seq (q_region (q_x (v:=(.bool (decide (t_13 < (goLen e_8))))) hF hS (ex_ibin rfl rfl rfl) rfl rfl fun a hF=>q_end (n_sq (q_seq ?_))))
     rcases bcase (decide (t_13 < (goLen e_8))) with hc5 | hc5
     ·have hb4:=cond_f hc5 hb4
      refine q_cond_f hF rfl hc5 (q_exit (x_sq ?_))
      obtain rfl:=someI hb4
      exact ⟨nofun,.inl ⟨q12,s12,rfl,hF.sub ⟨rfl,rfl,rfl,rfl,rfl,rfl,trivial⟩,hS.sel [1,0] (by decide),h12⟩⟩
     ·have hb4:=cond_t hc5 hb4
      refine q_cond_t hF rfl hc5 (q_skipc (n_sq (q_seq (q_block (q_seq (q_region (q_x (v:=(iV t_13)) hF hS (ex_move rfl) rfl rfl fun a hF=>?_)))))))
      obtain ⟨e_14,he_14,hb4⟩:=bindS hb4
      obtain ⟨vs15,at15,d15⟩:=h10.at he_14 1 rfl
      obtain rfl : vs15 = [(iV e_14)]:=d15
      refine q_x (v:=(elP s10 (t_13.toNat * 1))) hF hS (ex_indexAddr Try.underlying28 sz3 rfl rfl ((h10.mono hm7.le).idx he_14)) rfl rfl fun a hF=>q_x (v:=(iV e_14)) hF hS (ex_loadE1 0 Try.underlying3 rfl rfl (((at15.mono hm7.le)).at) rfl rfl) rfl rfl fun a hF=>q_x (v:=(iV t_13)) hF hS (ex_assign rfl) rfl rfl fun a hF=>q_x (v:=(iV e_14)) hF hS (ex_assign rfl) rfl rfl fun a hF=>q_end (n_sq (q_seq (q_seq (q_region (q_x (v:=s2.v) hF hS (ex_move rfl) rfl rfl fun a hF=>q_x (v:=(iV t_6)) hF hS (ex_move rfl) rfl rfl fun a hF=>?_)))))
      obtain ⟨e_16,he_16,hb4⟩:=bindS hb4
      obtain ⟨vs17,at17,d17⟩:=h2.at he_16 1 rfl
      obtain ⟨s18,rfl,h18⟩ : ∃ s18 : Sl,vs17 = [s18.v]∧Rd m s18 e_16:=d17
      refine q_x (v:=(elP s2 (t_6.toNat * 1))) hF hS (ex_indexAddr Try.underlying23 sz28 rfl rfl ((h2.mono hm7.le).idx he_16)) rfl rfl fun a hF=>q_x (v:=s18.v) hF hS (ex_loadE1 0 Try.underlying28 rfl rfl (((at17.mono hm7.le)).at) rfl rfl) rfl rfl fun a hF=>q_x (v:=(iV t_13)) hF hS (ex_move rfl) rfl rfl fun a hF=>?_
      obtain ⟨e_19,he_19,hb4⟩:=bindS hb4
      obtain ⟨vs20,at20,d20⟩:=h18.at he_19 1 rfl
      obtain rfl : vs20 = [(iV e_19)]:=d20
      refine q_x (v:=(elP s18 (t_13.toNat * 1))) hF hS (ex_indexAddr Try.underlying28 sz3 rfl rfl ((h18.mono hm7.le).idx he_19)) rfl rfl fun a hF=>q_x (v:=(iV e_19)) hF hS (ex_loadE1 0 Try.underlying3 rfl rfl (((at20.mono hm7.le)).at) rfl rfl) rfl rfl fun a hF=>q_x (v:=(.bool (e_19 == 1))) hF hS (ex_ibin rfl rfl rfl) rfl rfl fun a hF=>q_end (n_sq ?_)
      obtain ⟨n_21,hj6,hb4⟩:=bindS hb4
      refine q_join (fun a w=>Fr a 49 [(1,s2.v),(6,s5.v),(7,(iV t_6)),(9,s12.v),(11,(iV n_21)),(16,s1.v),(17,(iV (goLen p_x))),(18,(iV t_6)),(23,s10.v),(24,(iV (goLen e_8))),(25,(iV t_13))]∧St [] w0 w m7 [q5,q12]) ?_ ?_
      ·rcases bcase (e_19 == 1) with hc7 | hc7
       ·have hj6:=cond_f hc7 hj6
        refine q_cond_f hF rfl hc7 (q_skipc (n_jn ?_))
        obtain rfl:=someI hj6
        exact ⟨hF.sub ⟨rfl,rfl,rfl,rfl,rfl,rfl,rfl,rfl,rfl,rfl,rfl,trivial⟩,hS.sel [1,0] (by decide)⟩
       ·have hj6:=cond_t hc7 hj6
        refine q_cond_t hF rfl hc7 (q_region (q_x (v:=(iV (-1))) hF hS (ex_assign rfl) rfl rfl fun a hF=>q_end (n_jn ?_)))
        obtain rfl:=someI hj6
        exact ⟨hF.sub ⟨rfl,rfl,rfl,rfl,rfl,rfl,rfl,rfl,rfl,rfl,rfl,trivial⟩,hS.sel [1,0] (by decide)⟩
      ·rintro a w ⟨hF,hS⟩
       refine n_sq ?_
       refine q_region (q_x (v:=s12.v) hF hS (ex_move rfl) rfl rfl fun a hF=>q_x (v:=(iV n_21)) hF hS (ex_move rfl) rfl rfl fun a hF=>q_do rfl fun _ hK=>wp_buildSlice' (l:=([n_21] : List Int)) (cells:=[(iV n_21)]) hF hS Try.underlying28 inf3 rfl rfl (by kernel_rfl) rfl rfl rfl ⟨rfl,rfl⟩ rfl rfl fun a w q22 s22 hF hS h22 _=>hK _ _ ?_)
       have hS : St _ _ _ _ [q12,q22,q5]:=hS.sel [2,0,1] (by decide)
       obtain ⟨l_23,hl_23,hb4⟩:=bindS hb4
       refine q_do rfl fun _ hK=>wp_append hF hS h12 Try.underlying28 inf3 rfl rfl rfl rfl (h22.vw hS (j:=1) rfl) rfl (by decide) hl_23 rfl fun a w q24 s24 hF hS h24=>hK _ _ (q_x (v:=s24.v) hF hS (ex_assign rfl) rfl rfl fun a hF=>q_end (n_ib (n_sq (q_region (q_x (v:=(iV (w64 (t_13 + 1)))) hF hS (ex_ibin rfl rfl rfl) rfl rfl fun a hF=>q_x (v:=(iV (w64 (t_13 + 1)))) hF hS (ex_move rfl) rfl rfl fun a hF=>q_end ?_)))))
       obtain rfl:=someI hb4
       exact ⟨rfl,q24,s24,_,_,rfl,hF.sub ⟨rfl,rfl,rfl,rfl,rfl,rfl,rfl,rfl,rfl,rfl,trivial⟩,hS.mask [true,false,true],h24⟩
    ·rintro e a w ⟨q26,s26,rfl,hF,hS,h26⟩
     refine x_ib (n_sq ?_)
     refine q_region (q_x (v:=s5.v) hF hS (ex_move rfl) rfl rfl fun a hF=>q_x (v:=s26.v) hF hS (ex_move rfl) rfl rfl fun a hF=>?_)
     have hS : St _ _ _ _ [q26,q5]:=hS.sel [1,0] (by decide)
     obtain ⟨m28,hm28,hS,hz28⟩:=hS.freeze
     have h28:=h26.froz hm28.le hz28
     refine q_do rfl fun _ hK=>wp_buildSlice' (l:=([l_25] : List (List Int))) (cells:=[s26.v]) hF hS Try.underlying23 inf28 rfl rfl (by kernel_rfl) rfl rfl rfl ⟨⟨s26,rfl,h28⟩,rfl⟩ rfl rfl fun a w q27 s27 hF hS h27 _=>hK _ _ ?_
     have hS : St _ _ _ _ [q5,q27]:=hS.sel [1,0] (by decide)
     obtain ⟨l_29,hl_29,hb2⟩:=bindS hb2
     refine q_do rfl fun _ hK=>wp_append hF hS (h5.mono hm28.le) Try.underlying23 inf28 rfl rfl rfl rfl (h27.vw hS (j:=1) rfl) rfl (by decide) hl_29 rfl fun a w q30 s30 hF hS h30=>hK _ _ (q_x (v:=s30.v) hF hS (ex_assign rfl) rfl rfl fun a hF=>q_end (n_ib (n_sq (q_region (q_x (v:=(iV (w64 (t_6 + 1)))) hF hS (ex_ibin rfl rfl rfl) rfl rfl fun a hF=>q_x (v:=(iV (w64 (t_6 + 1)))) hF hS (ex_move rfl) rfl rfl fun a hF=>q_end ?_)))))
     obtain rfl:=someI hb2
     exact ⟨rfl,m28,q30,s30,_,_,rfl,hF.sub ⟨rfl,rfl,rfl,rfl,rfl,trivial⟩,hS.mask [true,false],(hm7.trans hm28),h30⟩
  ·rintro e a w ⟨m33,q32,s32,rfl,hF,hS,hm33,h32⟩
   refine x_ib (n_sq ?_)
   refine q_seq (q_region (q_x (v:=s32.v) hF hS (ex_move rfl) rfl rfl fun a hF=>q_x (v:=s32.v) hF hS (ex_assign rfl) rfl rfl fun a hF=>q_x (v:=(.bool true)) hF hS (ex_assign rfl) rfl rfl fun a hF=>q_end (n_sq (q_ret ?_))))
   obtain rfl:=someI hr
   exact ret_of hF hS rfl (.tmp rfl (.tmp rfl .nil)) ⟨m33,q32,s32,rfl,hm33,hS.sel [0] (by decide),h32⟩
 ·have hr:=cond_t hc1 hr
  refine q_cond_t hF rfl hc1 (q_seq (q_region (q_x (v:=nilS.v) hF hS (ex_assign rfl) rfl rfl fun a hF=>q_x (v:=(.bool false)) hF hS (ex_assign rfl) rfl rfl fun a hF=>q_end (n_sq (q_ret (r_sq ?_))))))
  obtain rfl:=someI hr
  exact ret_of hF hS rfl (.tmp rfl (.tmp rfl .nil)) ⟨m,[],nilS,rfl,(MLe.refl _ _),hS.sel [0] (by decide),(OwnL.nil (α:=List Int) m 28)⟩

end Go.Proofs.Ytpjcfmpfiadkgaa
