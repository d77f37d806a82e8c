/- The walks of the functions: each returns what its plain function says. -/
import Derived.Test.YtpjcfmpfiadkgaaFWalks3
namespace Go.Proofs.Ytpjcfmpfiadkgaa
open Go.Gx Go.Gx.F Go.RowKit
set_option linter.all false
set_option maxRecDepth 10000


theorem c_spec_tColumns (p_t : impl_Transport) (p_rows : List Int) (r : (List Int)) (hr : spec_tColumns p_t p_rows = some r) (w0 : World) (m : Mem) (hv : Vis m w0) (s1 : Sl) (h1 : Rd m s1 p_t.Rows) (s2 : Sl) (h2 : Rd m s2 p_t.Cols) (s3 : Sl) (h3 : Rd m s3 p_t.Lo) (s4 : Sl) (h4 : Rd m s4 p_t.Hi) (s5 : Sl) (h5 : Rd m s5 p_rows) :
  Ret Try.prog 131 [(.agg #[s1.v,s2.v,s3.v,s4.v]),s5.v] w0 (fun v w=>∃ (q0' : Piece) (s0' : Sl),v = s0'.v∧St [] w0 w m [q0']∧OwnL m 3 q0' s0' r):=by
 unfold spec_tColumns at hr
 refine ret_start Try.func131 rfl 57 rfl rfl m hv fun a hF hS=>q_seq (q_region (q_box (cs:=[s1.v,s2.v,s3.v,s4.v]) hF hS rfl rfl rfl fun a w b6 hF hS=>q_x (v:=nilS.v) hF hS (ex_assign rfl) rfl rfl fun a hF=>q_end (n_sq (q_seq (q_region (q_x (v:=nilS.v) hF hS (ex_assign rfl) rfl rfl fun a hF=>q_end (n_sq (q_seq (q_seq (q_region (q_x (v:=(.pointer (some ⟨b6,1,none⟩))) hF hS (ex_fieldAddr Try.underlying50 rfl sz28 rfl rfl) rfl rfl fun a hF=>q_x (v:=s2.v) hF hS (ex_load1 0 0 Try.underlying28 rfl rfl rfl rfl) rfl rfl fun a hF=>q_x (v:=(iV (goLen p_t.Cols))) hF hS (ex_len Try.underlying28 rfl h2.len) rfl rfl fun a hF=>q_x (v:=(iV 0)) hF hS (ex_move rfl) rfl rfl fun a hF=>q_end (n_sq (q_block ?_)))))))))))))
 obtain ⟨out_30,hl1,hr⟩:=bindS hr
 refine q_loop (fun (s : (List Int) × Int) a w=>∃ (q8 : Piece),∃ (s8 : Sl),∃ out_7,∃ t_9,s = (out_7,t_9)∧Fr a 57 [(1,s5.v),(2,(.pointer (some ⟨b6,0,none⟩))),(5,s8.v),(11,s2.v),(12,(iV (goLen p_t.Cols))),(13,(iV t_9))]∧St [] w0 w m [q8,[⟨b6,[s1.v,s2.v,s3.v,s4.v],50⟩]]∧OwnL m 3 q8 s8 out_7) (fun (out_30 : (List Int)) e a w=>∃ (q31 : Piece),∃ (s31 : Sl),e = .exit 0∧Fr a 57 [(5,s31.v)]∧St [] w0 w m [q31]∧OwnL m 3 q31 s31 out_30) hl1 ⟨[],nilS,_,_,rfl,hF.sub ⟨rfl,rfl,rfl,rfl,rfl,rfl,trivial⟩,hS.sel [1,0] (by decide),(OwnL.nil (α:=Int) m 3)⟩ ?_ ?_
 ·clear hF hS
  rintro s a w st ⟨q8,s8,out_7,t_9,rfl,hF,hS,h8⟩ hb1
  unfold spec_tColumns_l1 at hb1
  refine q_seq (q_region (q_x (v:=(.bool (decide (t_9 < (goLen p_t.Cols))))) hF hS (ex_ibin rfl rfl rfl) rfl rfl fun a hF=>q_end (n_sq (q_seq ?_))))
  rcases bcase (decide (t_9 < (goLen p_t.Cols))) with hc2 | hc2
  ·have hb1:=cond_f hc2 hb1
   refine q_cond_f hF rfl hc2 (q_exit (x_sq ?_))
   obtain rfl:=someI hb1
   exact ⟨nofun,.inl ⟨q8,s8,rfl,hF.sub ⟨rfl,trivial⟩,hS.mask [true,false],h8⟩⟩
  ·have hb1:=cond_t hc2 hb1
   refine q_cond_t hF rfl hc2 (q_skipc (n_sq (q_seq (q_block (q_seq (q_region (q_x (v:=(iV t_9)) hF hS (ex_move rfl) rfl rfl fun a hF=>?_)))))))
   obtain ⟨e_10,he_10,hb1⟩:=bindS hb1
   obtain ⟨vs11,at11,d11⟩:=h2.at he_10 1 rfl
   obtain rfl : vs11 = [(iV e_10)]:=d11
   refine q_x (v:=(elP s2 (t_9.toNat * 1))) hF hS (ex_indexAddr Try.underlying28 sz3 rfl rfl (h2.idx he_10)) rfl rfl fun a hF=>q_x (v:=(iV e_10)) hF hS (ex_loadE1 0 Try.underlying3 rfl rfl ((at11).at) rfl rfl) rfl rfl fun a hF=>q_x (v:=(iV t_9)) hF hS (ex_assign rfl) rfl rfl fun a hF=>q_x (v:=(iV e_10)) hF hS (ex_assign rfl) rfl rfl fun a hF=>q_end (n_sq (q_seq (q_region (q_x (v:=(iV 0)) hF hS (ex_assign rfl) rfl rfl fun a hF=>q_end (n_sq (q_seq (q_seq (q_region (q_x (v:=(.pointer (some ⟨b6,0,none⟩))) hF hS (ex_fieldAddr Try.underlying50 rfl sz28 rfl rfl) rfl rfl fun a hF=>q_x (v:=s1.v) hF hS (ex_load1 1 0 Try.underlying28 rfl rfl rfl rfl) rfl rfl fun a hF=>q_x (v:=(iV (goLen p_t.Rows))) hF hS (ex_len Try.underlying28 rfl h1.len) rfl rfl fun a hF=>q_x (v:=(iV 0)) hF hS (ex_move rfl) rfl rfl fun a hF=>q_end (n_sq (q_block ?_)))))))))))
   obtain ⟨o3,hl3,hb1⟩:=bindS hb1
   refine q_loop (fun (s : Int × Int × Int) a w=>∃ n_12,∃ in_13,∃ t_14,s = (n_12,in_13,t_14)∧Fr a 57 [(1,s5.v),(2,(.pointer (some ⟨b6,0,none⟩))),(5,s8.v),(6,(iV t_9)),(7,(iV n_12)),(8,(iV in_13)),(11,s2.v),(12,(iV (goLen p_t.Cols))),(13,(iV t_9)),(20,(iV (goLen p_t.Rows))),(21,(iV t_14))]∧St [] w0 w m [q8,[⟨b6,[s1.v,s2.v,s3.v,s4.v],50⟩]]) (fun (o : Int × Int) e a w=>∃ n_23,∃ in_24,o = (n_23,in_24)∧e = .exit 2∧Fr a 57 [(1,s5.v),(2,(.pointer (some ⟨b6,0,none⟩))),(5,s8.v),(6,(iV t_9)),(7,(iV n_23)),(8,(iV in_24)),(11,s2.v),(12,(iV (goLen p_t.Cols))),(13,(iV t_9))]∧St [] w0 w m [q8,[⟨b6,[s1.v,s2.v,s3.v,s4.v],50⟩]]) hl3 ⟨_,_,_,rfl,hF.sub ⟨rfl,rfl,rfl,rfl,rfl,rfl,rfl,rfl,rfl,rfl,rfl,trivial⟩,hS⟩ ?_ ?_
   ·clear hF hS
    rintro s a w st ⟨n_12,in_13,t_14,rfl,hF,hS⟩ hb3
    unfold spec_tColumns_l2 at hb3
    refine q_seq (q_region (q_x (v:=(.bool (decide (t_14 < (goLen p_t.Rows))))) hF hS (ex_ibin rfl rfl rfl) rfl rfl fun a hF=>q_end (n_sq (q_seq ?_))))
    rcases bcase (decide (t_14 < (goLen p_t.Rows))) with hc4 | hc4
    ·have hb3:=cond_f hc4 hb3
     refine q_cond_f hF rfl hc4 (q_exit (x_sq ?_))
     obtain rfl:=someI hb3
     exact ⟨nofun,.inl ⟨_,_,rfl,rfl,hF.sub ⟨rfl,rfl,rfl,rfl,rfl,rfl,rfl,rfl,rfl,trivial⟩,hS⟩⟩
    ·have hb3:=cond_t hc4 hb3
     refine q_cond_t hF rfl hc4 (q_skipc (n_sq (q_seq (q_block (q_seq (q_region (q_x (v:=(iV t_14)) hF hS (ex_move rfl) rfl rfl fun a hF=>q_x (v:=(iV t_14)) hF hS (ex_assign rfl) rfl rfl fun a hF=>q_end (n_sq (q_seq (q_region (q_x (v:=s5.v) hF hS (ex_move rfl) rfl rfl fun a hF=>q_x (v:=(iV t_14)) hF hS (ex_move rfl) rfl rfl fun a hF=>?_)))))))))))
     obtain ⟨t_15,ht_15,hb3⟩:=bindS hb3
     refine q_call (vs:=[s5.v,(iV t_14)]) hF hS Try.func171 (by kernel_rfl) rfl rfl rfl (c_spec_l1Has p_rows t_14 t_15 ht_15 _ m hS.vis s5 h5) ?_
     rintro a w _ rfl hF hS
     refine q_end (n_sq ?_)
     obtain ⟨j5,hj5,hb3⟩:=bindS hb3
     refine q_join (fun a w=>∃ n_21,∃ in_22,j5 = (n_21,in_22)∧Fr a 57 [(1,s5.v),(2,(.pointer (some ⟨b6,0,none⟩))),(5,s8.v),(6,(iV t_9)),(7,(iV n_21)),(8,(iV in_22)),(11,s2.v),(12,(iV (goLen p_t.Cols))),(13,(iV t_9)),(20,(iV (goLen p_t.Rows))),(21,(iV t_14))]∧St [] w0 w m [q8,[⟨b6,[s1.v,s2.v,s3.v,s4.v],50⟩]]) ?_ ?_
     ·rcases bcase (t_15) with hc6 | hc6
      ·have hj5:=cond_f hc6 hj5
       refine q_cond_f hF rfl hc6 (q_region (q_x (v:=(iV n_12)) hF hS (ex_move rfl) rfl rfl fun a hF=>q_x (v:=(.pointer (some ⟨b6,2,none⟩))) hF hS (ex_fieldAddr Try.underlying50 rfl sz23 rfl rfl) rfl rfl fun a hF=>q_x (v:=s3.v) hF hS (ex_load1 1 0 Try.underlying23 rfl rfl rfl rfl) rfl rfl fun a hF=>q_x (v:=(iV t_14)) hF hS (ex_move rfl) rfl rfl fun a hF=>?_))
       obtain ⟨e_16,he_16,hj5⟩:=bindS hj5
       obtain ⟨vs17,at17,d17⟩:=h3.at he_16 1 rfl
       obtain ⟨s18,rfl,h18⟩ : ∃ s18 : Sl,vs17 = [s18.v]∧Rd m s18 e_16:=d17
       refine q_x (v:=(elP s3 (t_14.toNat * 1))) hF hS (ex_indexAddr Try.underlying23 sz28 rfl rfl (h3.idx he_16)) rfl rfl fun a hF=>q_x (v:=s18.v) hF hS (ex_loadE1 0 Try.underlying28 rfl rfl ((at17).at) rfl rfl) rfl rfl fun a hF=>q_x (v:=(iV t_9)) hF hS (ex_move rfl) rfl rfl fun a hF=>?_
       obtain ⟨e_19,he_19,hj5⟩:=bindS hj5
       obtain ⟨vs20,at20,d20⟩:=h18.at he_19 1 rfl
       obtain rfl : vs20 = [(iV e_19)]:=d20
       refine q_x (v:=(elP s18 (t_9.toNat * 1))) hF hS (ex_indexAddr Try.underlying28 sz3 rfl rfl (h18.idx he_19)) rfl rfl fun a hF=>q_x (v:=(iV e_19)) hF hS (ex_loadE1 0 Try.underlying3 rfl rfl ((at20).at) rfl rfl) rfl rfl fun a hF=>q_x (v:=(iV (w64 (n_12 - e_19)))) hF hS (ex_ibin rfl rfl rfl) rfl rfl fun a hF=>q_x (v:=(iV (w64 (n_12 - e_19)))) hF hS (ex_assign rfl) rfl rfl fun a hF=>q_end (n_jn ?_)
       obtain rfl:=someI hj5
       exact ⟨_,_,rfl,hF.sub ⟨rfl,rfl,rfl,rfl,rfl,rfl,rfl,rfl,rfl,rfl,rfl,trivial⟩,hS⟩
      ·have hj5:=cond_t hc6 hj5
       refine q_cond_t hF rfl hc6 (q_region (q_x (v:=(iV in_13)) hF hS (ex_move rfl) rfl rfl fun a hF=>q_x (v:=(.pointer (some ⟨b6,3,none⟩))) hF hS (ex_fieldAddr Try.underlying50 rfl sz23 rfl rfl) rfl rfl fun a hF=>q_x (v:=s4.v) hF hS (ex_load1 1 0 Try.underlying23 rfl rfl rfl rfl) rfl rfl fun a hF=>q_x (v:=(iV t_14)) hF hS (ex_move rfl) rfl rfl fun a hF=>?_))
       obtain ⟨e_16,he_16,hj5⟩:=bindS hj5
       obtain ⟨vs17,at17,d17⟩:=h4.at he_16 1 rfl
       obtain ⟨s18,rfl,h18⟩ : ∃ s18 : Sl,vs17 = [s18.v]∧Rd m s18 e_16:=d17
       refine q_x (v:=(elP s4 (t_14.toNat * 1))) hF hS (ex_indexAddr Try.underlying23 sz28 rfl rfl (h4.idx he_16)) rfl rfl fun a hF=>q_x (v:=s18.v) hF hS (ex_loadE1 0 Try.underlying28 rfl rfl ((at17).at) rfl rfl) rfl rfl fun a hF=>q_x (v:=(iV t_9)) hF hS (ex_move rfl) rfl rfl fun a hF=>?_
       obtain ⟨e_19,he_19,hj5⟩:=bindS hj5
       obtain ⟨vs20,at20,d20⟩:=h18.at he_19 1 rfl
       obtain rfl : vs20 = [(iV e_19)]:=d20
       refine q_x (v:=(elP s18 (t_9.toNat * 1))) hF hS (ex_indexAddr Try.underlying28 sz3 rfl rfl (h18.idx he_19)) rfl rfl fun a hF=>q_x (v:=(iV e_19)) hF hS (ex_loadE1 0 Try.underlying3 rfl rfl ((at20).at) rfl rfl) rfl rfl fun a hF=>q_x (v:=(iV (w64 (in_13 + e_19)))) hF hS (ex_ibin rfl rfl rfl) rfl rfl fun a hF=>q_x (v:=(iV (w64 (in_13 + e_19)))) hF hS (ex_assign rfl) rfl rfl fun a hF=>q_end (n_jn ?_)
       obtain rfl:=someI hj5
       exact ⟨_,_,rfl,hF.sub ⟨rfl,rfl,rfl,rfl,rfl,rfl,rfl,rfl,rfl,rfl,rfl,trivial⟩,hS⟩
     ·rintro a w ⟨n_21,in_22,rfl,hF,hS⟩
      refine n_ib (n_sq ?_)
      refine q_region (q_x (v:=(iV (w64 (t_14 + 1)))) hF hS (ex_ibin rfl rfl rfl) rfl rfl fun a hF=>q_x (v:=(iV (w64 (t_14 + 1)))) hF hS (ex_move rfl) rfl rfl fun a hF=>q_end ?_)
      obtain rfl:=someI hb3
      exact ⟨rfl,_,_,_,rfl,hF.sub ⟨rfl,rfl,rfl,rfl,rfl,rfl,rfl,rfl,rfl,rfl,rfl,trivial⟩,hS⟩
   ·rintro e a w ⟨n_23,in_24,rfl,rfl,hF,hS⟩
    refine x_ib (n_sq ?_)
    refine q_seq (q_region (q_x (v:=(iV n_23)) hF hS (ex_move rfl) rfl rfl fun a hF=>q_x (v:=(iV in_24)) hF hS (ex_move rfl) rfl rfl fun a hF=>q_x (v:=(.bool (decide (n_23 < in_24)))) hF hS (ex_ibin rfl rfl rfl) rfl rfl fun a hF=>q_end (n_sq ?_)))
    obtain ⟨out_28,hj7,hb1⟩:=bindS hb1
    refine q_join (fun a w=>∃ (q29 : Piece),∃ (s29 : Sl),Fr a 57 [(1,s5.v),(2,(.pointer (some ⟨b6,0,none⟩))),(5,s29.v),(11,s2.v),(12,(iV (goLen p_t.Cols))),(13,(iV t_9))]∧St [] w0 w m [q29,[⟨b6,[s1.v,s2.v,s3.v,s4.v],50⟩]]∧OwnL m 3 q29 s29 out_28) ?_ ?_
    ·rcases bcase (decide (n_23 < in_24)) with hc8 | hc8
     ·have hj7:=cond_f hc8 hj7
      refine q_cond_f hF rfl hc8 (q_skipc (n_jn ?_))
      obtain rfl:=someI hj7
      exact ⟨q8,s8,hF.sub ⟨rfl,rfl,rfl,rfl,rfl,rfl,trivial⟩,hS,h8⟩
     ·have hj7:=cond_t hc8 hj7
      refine q_cond_t hF rfl hc8 (q_region (q_x (v:=s8.v) hF hS (ex_move rfl) rfl rfl fun a hF=>q_x (v:=(iV t_9)) hF hS (ex_move rfl) rfl rfl fun a hF=>q_do rfl fun _ hK=>wp_buildSlice' (l:=([t_9] : List Int)) (cells:=[(iV t_9)]) hF hS Try.underlying28 inf3 rfl rfl (by kernel_rfl) rfl rfl rfl ⟨rfl,rfl⟩ rfl rfl fun a w q25 s25 hF hS h25 _=>hK _ _ ?_))
      have hS : St _ _ _ _ [q8,q25,[⟨b6,[s1.v,s2.v,s3.v,s4.v],50⟩]]:=hS.sel [1,0,2] (by decide)
      obtain ⟨l_26,hl_26,hj7⟩:=bindS hj7
      refine q_do rfl fun _ hK=>wp_append hF hS h8 Try.underlying28 inf3 rfl rfl rfl rfl (h25.vw hS (j:=1) rfl) rfl (by decide) hl_26 rfl fun a w q27 s27 hF hS h27=>hK _ _ (q_x (v:=s27.v) hF hS (ex_assign rfl) rfl rfl fun a hF=>q_end (n_jn ?_))
      obtain rfl:=someI hj7
      exact ⟨q27,s27,hF.sub ⟨rfl,rfl,rfl,rfl,rfl,rfl,trivial⟩,hS.mask [true,false,true],h27⟩
    ·rintro a w ⟨q29,s29,hF,hS,h29⟩
     refine n_ib (n_sq ?_)
     refine q_region (q_x (v:=(iV (w64 (t_9 + 1)))) hF hS (ex_ibin rfl rfl rfl) rfl rfl fun a hF=>q_x (v:=(iV (w64 (t_9 + 1)))) hF hS (ex_move rfl) rfl rfl fun a hF=>q_end ?_)
     obtain rfl:=someI hb1
     exact ⟨rfl,q29,s29,_,_,rfl,hF.sub ⟨rfl,rfl,rfl,rfl,rfl,rfl,trivial⟩,hS,h29⟩
 ·rintro e a w ⟨q31,s31,rfl,hF,hS,h31⟩
  refine x_ib (n_sq ?_)
  refine q_seq (q_region (q_x (v:=s31.v) hF hS (ex_move rfl) rfl rfl fun a hF=>q_x (v:=s31.v) hF hS (ex_assign rfl) rfl rfl fun a hF=>q_end (n_sq (q_ret ?_))))
  obtain rfl:=someI hr
  exact ret_of hF hS rfl (.tmp rfl .nil) ⟨q31,s31,rfl,hS.sel [0] (by decide),h31⟩

theorem c_spec_tCut (p_t : impl_Transport) (p_rows : List Int) (p_cols : List Int) (r : Bool) (hr : spec_tCut p_t p_rows p_cols = some r) (w0 : World) (m : Mem) (hv : Vis m w0) (s1 : Sl) (h1 : Rd m s1 p_t.Rows) (s2 : Sl) (h2 : Rd m s2 p_t.Cols) (s3 : Sl) (h3 : Rd m s3 p_t.Lo) (s4 : Sl) (h4 : Rd m s4 p_t.Hi) (s5 : Sl) (h5 : Rd m s5 p_rows) (s6 : Sl) (h6 : Rd m s6 p_cols) :
  Ret Try.prog 132 [(.agg #[s1.v,s2.v,s3.v,s4.v]),s5.v,s6.v] w0 (fun v _=>v = (.bool r)):=by
 unfold spec_tCut at hr
 refine ret_start Try.func132 rfl 98 rfl rfl m hv fun a hF hS=>q_seq (q_region (q_box (cs:=[s1.v,s2.v,s3.v,s4.v]) hF hS rfl rfl rfl fun a w b7 hF hS=>q_x (v:=(.bool false)) hF hS (ex_assign rfl) rfl rfl fun a hF=>q_end (n_sq (q_seq (q_region (q_x (v:=(iV 0)) hF hS (ex_assign rfl) rfl rfl fun a hF=>q_x (v:=(iV 0)) hF hS (ex_assign rfl) rfl rfl fun a hF=>q_end (n_sq (q_seq (q_seq (q_region (q_x (v:=s5.v) hF hS (ex_move rfl) rfl rfl fun a hF=>q_x (v:=(iV (goLen p_rows))) hF hS (ex_len Try.underlying28 rfl h5.len) rfl rfl fun a hF=>q_x (v:=(iV 0)) hF hS (ex_move rfl) rfl rfl fun a hF=>q_end (n_sq (q_block ?_)))))))))))))
 obtain ⟨left_14,hl1,hr⟩:=bindS hr
 refine q_loop (fun (s : Int × Int) a w=>∃ left_8,∃ t_9,s = (left_8,t_9)∧Fr a 98 [(1,s5.v),(2,s6.v),(3,(.pointer (some ⟨b7,0,none⟩))),(7,(iV left_8)),(8,(iV 0)),(15,s5.v),(16,(iV (goLen p_rows))),(17,(iV t_9))]∧St [] w0 w m [[⟨b7,[s1.v,s2.v,s3.v,s4.v],50⟩]]) (fun (left_14 : Int) e a w=>e = .exit 0∧Fr a 98 [(1,s5.v),(2,s6.v),(3,(.pointer (some ⟨b7,0,none⟩))),(7,(iV left_14)),(8,(iV 0))]∧St [] w0 w m [[⟨b7,[s1.v,s2.v,s3.v,s4.v],50⟩]]) hl1 ⟨_,_,rfl,hF.sub ⟨rfl,rfl,rfl,rfl,rfl,rfl,rfl,rfl,trivial⟩,hS⟩ ?_ ?_
 ·clear hF hS
  rintro s a w st ⟨left_8,t_9,rfl,hF,hS⟩ hb1
  unfold spec_tCut_l1 at hb1
  refine q_seq (q_region (q_x (v:=(.bool (decide (t_9 < (goLen p_rows))))) hF hS (ex_ibin rfl rfl rfl) rfl rfl fun a hF=>q_end (n_sq (q_seq ?_))))
  rcases bcase (decide (t_9 < (goLen p_rows))) with hc2 | hc2
  ·have hb1:=cond_f hc2 hb1
   refine q_cond_f hF rfl hc2 (q_exit (x_sq ?_))
   obtain rfl:=someI hb1
   exact ⟨nofun,.inl ⟨rfl,hF.sub ⟨rfl,rfl,rfl,rfl,rfl,trivial⟩,hS⟩⟩
  ·have hb1:=cond_t hc2 hb1
   refine q_cond_t hF rfl hc2 (q_skipc (n_sq (q_seq (q_block (q_seq (q_region ?_))))))
   obtain ⟨e_10,he_10,hb1⟩:=bindS hb1
   obtain ⟨vs11,at11,d11⟩:=h5.at he_10 1 rfl
   obtain rfl : vs11 = [(iV e_10)]:=d11
   refine q_x (v:=(elP s5 (t_9.toNat * 1))) hF hS (ex_indexAddr Try.underlying28 sz3 rfl rfl (h5.idx he_10)) rfl rfl fun a hF=>q_x (v:=(iV e_10)) hF hS (ex_loadE1 0 Try.underlying3 rfl rfl ((at11).at) rfl rfl) rfl rfl fun a hF=>q_x (v:=(iV e_10)) hF hS (ex_assign rfl) rfl rfl fun a hF=>q_end (n_sq (q_region (q_x (v:=(iV left_8)) hF hS (ex_move rfl) rfl rfl fun a hF=>q_x (v:=(.pointer (some ⟨b7,0,none⟩))) hF hS (ex_fieldAddr Try.underlying50 rfl sz28 rfl rfl) rfl rfl fun a hF=>q_x (v:=s1.v) hF hS (ex_load1 0 0 Try.underlying28 rfl rfl rfl rfl) rfl rfl fun a hF=>q_x (v:=(iV e_10)) hF hS (ex_move rfl) rfl rfl fun a hF=>?_)))
   obtain ⟨e_12,he_12,hb1⟩:=bindS hb1
   obtain ⟨vs13,at13,d13⟩:=h1.at he_12 1 rfl
   obtain rfl : vs13 = [(iV e_12)]:=d13
   refine q_x (v:=(elP s1 (e_10.toNat * 1))) hF hS (ex_indexAddr Try.underlying28 sz3 rfl rfl (h1.idx he_12)) rfl rfl fun a hF=>q_x (v:=(iV e_12)) hF hS (ex_loadE1 0 Try.underlying3 rfl rfl ((at13).at) rfl rfl) rfl rfl fun a hF=>q_x (v:=(iV (w64 (left_8 + e_12)))) hF hS (ex_ibin rfl rfl rfl) rfl rfl fun a hF=>q_x (v:=(iV (w64 (left_8 + e_12)))) hF hS (ex_assign rfl) rfl rfl fun a hF=>q_end (n_ib (n_sq (q_region (q_x (v:=(iV (w64 (t_9 + 1)))) hF hS (ex_ibin rfl rfl rfl) rfl rfl fun a hF=>q_x (v:=(iV (w64 (t_9 + 1)))) hF hS (ex_move rfl) rfl rfl fun a hF=>q_end ?_))))
   obtain rfl:=someI hb1
   exact ⟨rfl,_,_,rfl,hF.sub ⟨rfl,rfl,rfl,rfl,rfl,rfl,rfl,rfl,trivial⟩,hS⟩
 ·rintro e a w ⟨rfl,hF,hS⟩
  refine x_ib (n_sq ?_)
  refine q_seq (q_seq (q_region (q_x (v:=s6.v) hF hS (ex_move rfl) rfl rfl fun a hF=>q_x (v:=(iV (goLen p_cols))) hF hS (ex_len Try.underlying28 rfl h6.len) rfl rfl fun a hF=>q_x (v:=(iV 0)) hF hS (ex_move rfl) rfl rfl fun a hF=>q_end (n_sq (q_block ?_)))))
  obtain ⟨right_21,hl3,hr⟩:=bindS hr
  refine q_loop (fun (s : Int × Int) a w=>∃ right_15,∃ t_16,s = (right_15,t_16)∧Fr a 98 [(1,s5.v),(2,s6.v),(3,(.pointer (some ⟨b7,0,none⟩))),(7,(iV left_14)),(8,(iV right_15)),(29,s6.v),(30,(iV (goLen p_cols))),(31,(iV t_16))]∧St [] w0 w m [[⟨b7,[s1.v,s2.v,s3.v,s4.v],50⟩]]) (fun (right_21 : Int) e a w=>e = .exit 2∧Fr a 98 [(1,s5.v),(2,s6.v),(3,(.pointer (some ⟨b7,0,none⟩))),(7,(iV left_14)),(8,(iV right_21))]∧St [] w0 w m [[⟨b7,[s1.v,s2.v,s3.v,s4.v],50⟩]]) hl3 ⟨_,_,rfl,hF.sub ⟨rfl,rfl,rfl,rfl,rfl,rfl,rfl,rfl,trivial⟩,hS⟩ ?_ ?_
  ·clear hF hS
   rintro s a w st ⟨right_15,t_16,rfl,hF,hS⟩ hb3
   unfold spec_tCut_l2 at hb3
   refine q_seq (q_region (q_x (v:=(.bool (decide (t_16 < (goLen p_cols))))) hF hS (ex_ibin rfl rfl rfl) rfl rfl fun a hF=>q_end (n_sq (q_seq ?_))))
   rcases bcase (decide (t_16 < (goLen p_cols))) with hc4 | hc4
   ·have hb3:=cond_f hc4 hb3
    refine q_cond_f hF rfl hc4 (q_exit (x_sq ?_))
    obtain rfl:=someI hb3
    exact ⟨nofun,.inl ⟨rfl,hF.sub ⟨rfl,rfl,rfl,rfl,rfl,trivial⟩,hS⟩⟩
   ·have hb3:=cond_t hc4 hb3
    refine q_cond_t hF rfl hc4 (q_skipc (n_sq (q_seq (q_block (q_seq (q_region ?_))))))
    obtain ⟨e_17,he_17,hb3⟩:=bindS hb3
    obtain ⟨vs18,at18,d18⟩:=h6.at he_17 1 rfl
    obtain rfl : vs18 = [(iV e_17)]:=d18
    refine q_x (v:=(elP s6 (t_16.toNat * 1))) hF hS (ex_indexAddr Try.underlying28 sz3 rfl rfl (h6.idx he_17)) rfl rfl fun a hF=>q_x (v:=(iV e_17)) hF hS (ex_loadE1 0 Try.underlying3 rfl rfl ((at18).at) rfl rfl) rfl rfl fun a hF=>q_x (v:=(iV e_17)) hF hS (ex_assign rfl) rfl rfl fun a hF=>q_end (n_sq (q_region (q_x (v:=(iV right_15)) hF hS (ex_move rfl) rfl rfl fun a hF=>q_x (v:=(.pointer (some ⟨b7,1,none⟩))) hF hS (ex_fieldAddr Try.underlying50 rfl sz28 rfl rfl) rfl rfl fun a hF=>q_x (v:=s2.v) hF hS (ex_load1 0 0 Try.underlying28 rfl rfl rfl rfl) rfl rfl fun a hF=>q_x (v:=(iV e_17)) hF hS (ex_move rfl) rfl rfl fun a hF=>?_)))
    obtain ⟨e_19,he_19,hb3⟩:=bindS hb3
    obtain ⟨vs20,at20,d20⟩:=h2.at he_19 1 rfl
    obtain rfl : vs20 = [(iV e_19)]:=d20
    refine q_x (v:=(elP s2 (e_17.toNat * 1))) hF hS (ex_indexAddr Try.underlying28 sz3 rfl rfl (h2.idx he_19)) rfl rfl fun a hF=>q_x (v:=(iV e_19)) hF hS (ex_loadE1 0 Try.underlying3 rfl rfl ((at20).at) rfl rfl) rfl rfl fun a hF=>q_x (v:=(iV (w64 (right_15 + e_19)))) hF hS (ex_ibin rfl rfl rfl) rfl rfl fun a hF=>q_x (v:=(iV (w64 (right_15 + e_19)))) hF hS (ex_assign rfl) rfl rfl fun a hF=>q_end (n_ib (n_sq (q_region (q_x (v:=(iV (w64 (t_16 + 1)))) hF hS (ex_ibin rfl rfl rfl) rfl rfl fun a hF=>q_x (v:=(iV (w64 (t_16 + 1)))) hF hS (ex_move rfl) rfl rfl fun a hF=>q_end ?_))))
    obtain rfl:=someI hb3
    exact ⟨rfl,_,_,rfl,hF.sub ⟨rfl,rfl,rfl,rfl,rfl,rfl,rfl,rfl,trivial⟩,hS⟩
  ·rintro e a w ⟨rfl,hF,hS⟩
   refine x_ib (n_sq ?_)
   refine q_seq (q_seq (q_region (q_x (v:=(.pointer (some ⟨b7,0,none⟩))) hF hS (ex_fieldAddr Try.underlying50 rfl sz28 rfl rfl) rfl rfl fun a hF=>q_x (v:=s1.v) hF hS (ex_load1 0 0 Try.underlying28 rfl rfl rfl rfl) rfl rfl fun a hF=>q_x (v:=(iV (goLen p_t.Rows))) hF hS (ex_len Try.underlying28 rfl h1.len) rfl rfl fun a hF=>q_x (v:=(iV 0)) hF hS (ex_move rfl) rfl rfl fun a hF=>q_end (n_sq (q_block ?_)))))
   obtain ⟨right_45,hl5,hr⟩:=bindS hr
   refine q_loop (fun (s : Int × Int) a w=>∃ right_22,∃ t_23,s = (right_22,t_23)∧Fr a 98 [(1,s5.v),(2,s6.v),(3,(.pointer (some ⟨b7,0,none⟩))),(7,(iV left_14)),(8,(iV right_22)),(45,(iV (goLen p_t.Rows))),(46,(iV t_23))]∧St [] w0 w m [[⟨b7,[s1.v,s2.v,s3.v,s4.v],50⟩]]) (fun (right_45 : Int) e a w=>e = .exit 4∧Fr a 98 [(7,(iV left_14)),(8,(iV right_45))]∧St [] w0 w m []) hl5 ⟨_,_,rfl,hF.sub ⟨rfl,rfl,rfl,rfl,rfl,rfl,rfl,trivial⟩,hS⟩ ?_ ?_
   ·clear hF hS
    rintro s a w st ⟨right_22,t_23,rfl,hF,hS⟩ hb5
    unfold spec_tCut_l3 at hb5
    refine q_seq (q_region (q_x (v:=(.bool (decide (t_23 < (goLen p_t.Rows))))) hF hS (ex_ibin rfl rfl rfl) rfl rfl fun a hF=>q_end (n_sq (q_seq ?_))))
    rcases bcase (decide (t_23 < (goLen p_t.Rows))) with hc6 | hc6
    ·have hb5:=cond_f hc6 hb5
     refine q_cond_f hF rfl hc6 (q_exit (x_sq ?_))
     obtain rfl:=someI hb5
     exact ⟨nofun,.inl ⟨rfl,hF.sub ⟨rfl,rfl,trivial⟩,hS.mask [false]⟩⟩
    ·have hb5:=cond_t hc6 hb5
     refine q_cond_t hF rfl hc6 (q_skipc (n_sq (q_seq (q_block (q_seq (q_region (q_x (v:=(iV t_23)) hF hS (ex_move rfl) rfl rfl fun a hF=>q_x (v:=(iV t_23)) hF hS (ex_assign rfl) rfl rfl fun a hF=>q_end (n_sq (q_seq (q_region (q_x (v:=(.pointer (some ⟨b7,1,none⟩))) hF hS (ex_fieldAddr Try.underlying50 rfl sz28 rfl rfl) rfl rfl fun a hF=>q_x (v:=s2.v) hF hS (ex_load1 0 0 Try.underlying28 rfl rfl rfl rfl) rfl rfl fun a hF=>q_x (v:=(iV (goLen p_t.Cols))) hF hS (ex_len Try.underlying28 rfl h2.len) rfl rfl fun a hF=>q_x (v:=(iV 0)) hF hS (ex_move rfl) rfl rfl fun a hF=>q_end (n_sq (q_block ?_)))))))))))))
     obtain ⟨right_44,hl7,hb5⟩:=bindS hb5
     refine q_loop (fun (s : Int × Int) a w=>∃ right_24,∃ t_25,s = (right_24,t_25)∧Fr a 98 [(1,s5.v),(2,s6.v),(3,(.pointer (some ⟨b7,0,none⟩))),(7,(iV left_14)),(8,(iV right_24)),(13,(iV t_23)),(45,(iV (goLen p_t.Rows))),(46,(iV t_23)),(51,(iV (goLen p_t.Cols))),(52,(iV t_25))]∧St [] w0 w m [[⟨b7,[s1.v,s2.v,s3.v,s4.v],50⟩]]) (fun (right_44 : Int) e a w=>e = .exit 6∧Fr a 98 [(1,s5.v),(2,s6.v),(3,(.pointer (some ⟨b7,0,none⟩))),(7,(iV left_14)),(8,(iV right_44)),(45,(iV (goLen p_t.Rows))),(46,(iV t_23))]∧St [] w0 w m [[⟨b7,[s1.v,s2.v,s3.v,s4.v],50⟩]]) hl7 ⟨_,_,rfl,hF.sub ⟨rfl,rfl,rfl,rfl,rfl,rfl,rfl,rfl,rfl,rfl,trivial⟩,hS⟩ ?_ ?_
     ·clear hF hS
      rintro s a w st ⟨right_24,t_25,rfl,hF,hS⟩ hb7
      unfold spec_tCut_l4 at hb7
      refine q_seq (q_region (q_x (v:=(.bool (decide (t_25 < (goLen p_t.Cols))))) hF hS (ex_ibin rfl rfl rfl) rfl rfl fun a hF=>q_end (n_sq (q_seq ?_))))
      rcases bcase (decide (t_25 < (goLen p_t.Cols))) with hc8 | hc8
      ·have hb7:=cond_f hc8 hb7
       refine q_cond_f hF rfl hc8 (q_exit (x_sq ?_))
       obtain rfl:=someI hb7
       exact ⟨nofun,.inl ⟨rfl,hF.sub ⟨rfl,rfl,rfl,rfl,rfl,rfl,rfl,trivial⟩,hS⟩⟩
      ·have hb7:=cond_t hc8 hb7
       refine q_cond_t hF rfl hc8 (q_skipc (n_sq (q_seq (q_block (q_seq (q_region (q_x (v:=(iV t_25)) hF hS (ex_move rfl) rfl rfl fun a hF=>q_x (v:=(iV t_25)) hF hS (ex_assign rfl) rfl rfl fun a hF=>q_end (n_sq (q_seq (q_seq ?_))))))))))
       obtain ⟨t_28,hj9,hb7⟩:=bindS hb7
       refine q_join (fun a w=>Fr a 98 [(1,s5.v),(2,s6.v),(3,(.pointer (some ⟨b7,0,none⟩))),(7,(iV left_14)),(8,(iV right_24)),(13,(iV t_23)),(14,(iV t_25)),(45,(iV (goLen p_t.Rows))),(46,(iV t_23)),(51,(iV (goLen p_t.Cols))),(52,(iV t_25)),(63,(.bool t_28))]∧St [] w0 w m [[⟨b7,[s1.v,s2.v,s3.v,s4.v],50⟩]]) ?_ ?_
       ·refine q_region (q_x (v:=s5.v) hF hS (ex_move rfl) rfl rfl fun a hF=>q_x (v:=(iV t_23)) hF hS (ex_move rfl) rfl rfl fun a hF=>?_)
        obtain ⟨t_26,ht_26,hj9⟩:=bindS hj9
        refine q_call (vs:=[s5.v,(iV t_23)]) hF hS Try.func171 (by kernel_rfl) rfl rfl rfl (c_spec_l1Has p_rows t_23 t_26 ht_26 _ m hS.vis s5 h5) ?_
        rintro a w _ rfl hF hS
        refine q_x (v:=(.bool t_26)) hF hS (ex_move rfl) rfl rfl fun a hF=>?_
        rcases bcase (t_26) with hc10 | hc10
        ·have hj9:=cond_f hc10 hj9
         refine q_skip hF (wanted_f hF rfl rfl rfl hc10 rfl) rfl fun a hF=>q_skip hF (wanted_f hF rfl rfl rfl hc10 rfl) rfl fun a hF=>q_skip hF (wanted_f hF rfl rfl rfl hc10 rfl) rfl fun a hF=>q_skip hF (wanted_f hF rfl rfl rfl hc10 rfl) rfl fun a hF=>q_x (v:=(.bool false)) hF hS (ex_pick_f rfl rfl hc10) rfl rfl fun a hF=>q_end (n_jn ?_)
         obtain rfl:=someI hj9
         exact ⟨hF.sub ⟨rfl,rfl,rfl,rfl,rfl,rfl,rfl,rfl,rfl,rfl,rfl,rfl,trivial⟩,hS⟩
        ·have hj9:=cond_t hc10 hj9
         refine q_xg (v:=s6.v) hF hS (ex_move rfl) (wanted_t hF rfl rfl rfl hc10) rfl fun a hF=>q_xg (v:=(iV t_25)) hF hS (ex_move rfl) (wanted_t hF rfl rfl rfl hc10) rfl fun a hF=>?_
         obtain ⟨t_27,ht_27,hj9⟩:=bindS hj9
         refine q_callg (vs:=[s6.v,(iV t_25)]) hF hS (wanted_t hF rfl rfl rfl hc10) Try.func171 (by kernel_rfl) rfl rfl rfl (c_spec_l1Has p_cols t_25 t_27 ht_27 _ m hS.vis s6 h6) ?_
         rintro a w _ rfl hF hS
         refine q_xg (v:=(.bool (!t_27))) hF hS (ex_not rfl) (wanted_t hF rfl rfl rfl hc10) rfl fun a hF=>q_x (v:=(.bool (!t_27))) hF hS (ex_pick_t rfl rfl hc10) rfl rfl fun a hF=>q_end (n_jn ?_)
         obtain rfl:=someI hj9
         exact ⟨hF.sub ⟨rfl,rfl,rfl,rfl,rfl,rfl,rfl,rfl,rfl,rfl,rfl,rfl,trivial⟩,hS⟩
       ·rintro a w ⟨hF,hS⟩
        refine n_sq ?_
        obtain ⟨right_34,hj11,hb7⟩:=bindS hb7
        refine q_join (fun a w=>Fr a 98 [(1,s5.v),(2,s6.v),(3,(.pointer (some ⟨b7,0,none⟩))),(7,(iV left_14)),(8,(iV right_34)),(13,(iV t_23)),(14,(iV t_25)),(45,(iV (goLen p_t.Rows))),(46,(iV t_23)),(51,(iV (goLen p_t.Cols))),(52,(iV t_25))]∧St [] w0 w m [[⟨b7,[s1.v,s2.v,s3.v,s4.v],50⟩]]) ?_ ?_
        ·rcases bcase (t_28) with hc12 | hc12
         ·have hj11:=cond_f hc12 hj11
          refine q_cond_f hF rfl hc12 (q_skipc (n_jn ?_))
          obtain rfl:=someI hj11
          exact ⟨hF.sub ⟨rfl,rfl,rfl,rfl,rfl,rfl,rfl,rfl,rfl,rfl,rfl,trivial⟩,hS⟩
         ·have hj11:=cond_t hc12 hj11
          refine q_cond_t hF rfl hc12 (q_region (q_x (v:=(iV right_24)) hF hS (ex_move rfl) rfl rfl fun a hF=>q_x (v:=(.pointer (some ⟨b7,3,none⟩))) hF hS (ex_fieldAddr Try.underlying50 rfl sz23 rfl rfl) rfl rfl fun a hF=>q_x (v:=s4.v) hF hS (ex_load1 0 0 Try.underlying23 rfl rfl rfl rfl) rfl rfl fun a hF=>q_x (v:=(iV t_23)) hF hS (ex_move rfl) rfl rfl fun a hF=>?_))
          obtain ⟨e_29,he_29,hj11⟩:=bindS hj11
          obtain ⟨vs30,at30,d30⟩:=h4.at he_29 1 rfl
          obtain ⟨s31,rfl,h31⟩ : ∃ s31 : Sl,vs30 = [s31.v]∧Rd m s31 e_29:=d30
          refine q_x (v:=(elP s4 (t_23.toNat * 1))) hF hS (ex_indexAddr Try.underlying23 sz28 rfl rfl (h4.idx he_29)) rfl rfl fun a hF=>q_x (v:=s31.v) hF hS (ex_loadE1 0 Try.underlying28 rfl rfl ((at30).at) rfl rfl) rfl rfl fun a hF=>q_x (v:=(iV t_25)) hF hS (ex_move rfl) rfl rfl fun a hF=>?_
          obtain ⟨e_32,he_32,hj11⟩:=bindS hj11
          obtain ⟨vs33,at33,d33⟩:=h31.at he_32 1 rfl
          obtain rfl : vs33 = [(iV e_32)]:=d33
          refine q_x (v:=(elP s31 (t_25.toNat * 1))) hF hS (ex_indexAddr Try.underlying28 sz3 rfl rfl (h31.idx he_32)) rfl rfl fun a hF=>q_x (v:=(iV e_32)) hF hS (ex_loadE1 0 Try.underlying3 rfl rfl ((at33).at) rfl rfl) rfl rfl fun a hF=>q_x (v:=(iV (w64 (right_24 + e_32)))) hF hS (ex_ibin rfl rfl rfl) rfl rfl fun a hF=>q_x (v:=(iV (w64 (right_24 + e_32)))) hF hS (ex_assign rfl) rfl rfl fun a hF=>q_end (n_jn ?_)
          obtain rfl:=someI hj11
          exact ⟨hF.sub ⟨rfl,rfl,rfl,rfl,rfl,rfl,rfl,rfl,rfl,rfl,rfl,trivial⟩,hS⟩
        ·rintro a w ⟨hF,hS⟩
         refine n_sq ?_
         refine q_seq ?_
         obtain ⟨t_37,hj13,hb7⟩:=bindS hb7
         refine q_join (fun a w=>Fr a 98 [(1,s5.v),(2,s6.v),(3,(.pointer (some ⟨b7,0,none⟩))),(7,(iV left_14)),(8,(iV right_34)),(13,(iV t_23)),(14,(iV t_25)),(45,(iV (goLen p_t.Rows))),(46,(iV t_23)),(51,(iV (goLen p_t.Cols))),(52,(iV t_25)),(82,(.bool t_37))]∧St [] w0 w m [[⟨b7,[s1.v,s2.v,s3.v,s4.v],50⟩]]) ?_ ?_
         ·refine q_region (q_x (v:=s5.v) hF hS (ex_move rfl) rfl rfl fun a hF=>q_x (v:=(iV t_23)) hF hS (ex_move rfl) rfl rfl fun a hF=>?_)
          obtain ⟨t_35,ht_35,hj13⟩:=bindS hj13
          refine q_call (vs:=[s5.v,(iV t_23)]) hF hS Try.func171 (by kernel_rfl) rfl rfl rfl (c_spec_l1Has p_rows t_23 t_35 ht_35 _ m hS.vis s5 h5) ?_
          rintro a w _ rfl hF hS
          refine q_x (v:=(.bool (!t_35))) hF hS (ex_not rfl) rfl rfl fun a hF=>q_x (v:=(.bool (!t_35))) hF hS (ex_move rfl) rfl rfl fun a hF=>?_
          rcases bcase (!t_35) with hc14 | hc14
          ·have hj13:=cond_f hc14 hj13
           refine q_skip hF (wanted_f hF rfl rfl rfl hc14 rfl) rfl fun a hF=>q_skip hF (wanted_f hF rfl rfl rfl hc14 rfl) rfl fun a hF=>q_skip hF (wanted_f hF rfl rfl rfl hc14 rfl) rfl fun a hF=>q_x (v:=(.bool false)) hF hS (ex_pick_f rfl rfl hc14) rfl rfl fun a hF=>q_end (n_jn ?_)
           obtain rfl:=someI hj13
           exact ⟨hF.sub ⟨rfl,rfl,rfl,rfl,rfl,rfl,rfl,rfl,rfl,rfl,rfl,rfl,trivial⟩,hS⟩
          ·have hj13:=cond_t hc14 hj13
           refine q_xg (v:=s6.v) hF hS (ex_move rfl) (wanted_t hF rfl rfl rfl hc14) rfl fun a hF=>q_xg (v:=(iV t_25)) hF hS (ex_move rfl) (wanted_t hF rfl rfl rfl hc14) rfl fun a hF=>?_
           obtain ⟨t_36,ht_36,hj13⟩:=bindS hj13
           refine q_callg (vs:=[s6.v,(iV t_25)]) hF hS (wanted_t hF rfl rfl rfl hc14) Try.func171 (by kernel_rfl) rfl rfl rfl (c_spec_l1Has p_cols t_25 t_36 ht_36 _ m hS.vis s6 h6) ?_
           rintro a w _ rfl hF hS
           refine q_x (v:=(.bool t_36)) hF hS (ex_pick_t rfl rfl hc14) rfl rfl fun a hF=>q_end (n_jn ?_)
           obtain rfl:=someI hj13
           exact ⟨hF.sub ⟨rfl,rfl,rfl,rfl,rfl,rfl,rfl,rfl,rfl,rfl,rfl,rfl,trivial⟩,hS⟩
         ·rintro a w ⟨hF,hS⟩
          refine n_sq ?_
          obtain ⟨right_43,hj15,hb7⟩:=bindS hb7
          refine q_join (fun a w=>Fr a 98 [(1,s5.v),(2,s6.v),(3,(.pointer (some ⟨b7,0,none⟩))),(7,(iV left_14)),(8,(iV right_43)),(13,(iV t_23)),(45,(iV (goLen p_t.Rows))),(46,(iV t_23)),(51,(iV (goLen p_t.Cols))),(52,(iV t_25))]∧St [] w0 w m [[⟨b7,[s1.v,s2.v,s3.v,s4.v],50⟩]]) ?_ ?_
          ·rcases bcase (t_37) with hc16 | hc16
           ·have hj15:=cond_f hc16 hj15
            refine q_cond_f hF rfl hc16 (q_skipc (n_jn ?_))
            obtain rfl:=someI hj15
            exact ⟨hF.sub ⟨rfl,rfl,rfl,rfl,rfl,rfl,rfl,rfl,rfl,rfl,trivial⟩,hS⟩
           ·have hj15:=cond_t hc16 hj15
            refine q_cond_t hF rfl hc16 (q_region (q_x (v:=(iV right_34)) hF hS (ex_move rfl) rfl rfl fun a hF=>q_x (v:=(.pointer (some ⟨b7,2,none⟩))) hF hS (ex_fieldAddr Try.underlying50 rfl sz23 rfl rfl) rfl rfl fun a hF=>q_x (v:=s3.v) hF hS (ex_load1 0 0 Try.underlying23 rfl rfl rfl rfl) rfl rfl fun a hF=>q_x (v:=(iV t_23)) hF hS (ex_move rfl) rfl rfl fun a hF=>?_))
            obtain ⟨e_38,he_38,hj15⟩:=bindS hj15
            obtain ⟨vs39,at39,d39⟩:=h3.at he_38 1 rfl
            obtain ⟨s40,rfl,h40⟩ : ∃ s40 : Sl,vs39 = [s40.v]∧Rd m s40 e_38:=d39
            refine q_x (v:=(elP s3 (t_23.toNat * 1))) hF hS (ex_indexAddr Try.underlying23 sz28 rfl rfl (h3.idx he_38)) rfl rfl fun a hF=>q_x (v:=s40.v) hF hS (ex_loadE1 0 Try.underlying28 rfl rfl ((at39).at) rfl rfl) rfl rfl fun a hF=>q_x (v:=(iV t_25)) hF hS (ex_move rfl) rfl rfl fun a hF=>?_
            obtain ⟨e_41,he_41,hj15⟩:=bindS hj15
            obtain ⟨vs42,at42,d42⟩:=h40.at he_41 1 rfl
            obtain rfl : vs42 = [(iV e_41)]:=d42
            refine q_x (v:=(elP s40 (t_25.toNat * 1))) hF hS (ex_indexAddr Try.underlying28 sz3 rfl rfl (h40.idx he_41)) rfl rfl fun a hF=>q_x (v:=(iV e_41)) hF hS (ex_loadE1 0 Try.underlying3 rfl rfl ((at42).at) rfl rfl) rfl rfl fun a hF=>q_x (v:=(iV (w64 (right_34 - e_41)))) hF hS (ex_ibin rfl rfl rfl) rfl rfl fun a hF=>q_x (v:=(iV (w64 (right_34 - e_41)))) hF hS (ex_assign rfl) rfl rfl fun a hF=>q_end (n_jn ?_)
            obtain rfl:=someI hj15
            exact ⟨hF.sub ⟨rfl,rfl,rfl,rfl,rfl,rfl,rfl,rfl,rfl,rfl,trivial⟩,hS⟩
          ·rintro a w ⟨hF,hS⟩
           refine n_ib (n_sq ?_)
           refine q_region (q_x (v:=(iV (w64 (t_25 + 1)))) hF hS (ex_ibin rfl rfl rfl) rfl rfl fun a hF=>q_x (v:=(iV (w64 (t_25 + 1)))) hF hS (ex_move rfl) rfl rfl fun a hF=>q_end ?_)
           obtain rfl:=someI hb7
           exact ⟨rfl,_,_,rfl,hF.sub ⟨rfl,rfl,rfl,rfl,rfl,rfl,rfl,rfl,rfl,rfl,trivial⟩,hS⟩
     ·rintro e a w ⟨rfl,hF,hS⟩
      refine x_ib (n_ib (n_sq ?_))
      refine q_region (q_x (v:=(iV (w64 (t_23 + 1)))) hF hS (ex_ibin rfl rfl rfl) rfl rfl fun a hF=>q_x (v:=(iV (w64 (t_23 + 1)))) hF hS (ex_move rfl) rfl rfl fun a hF=>q_end ?_)
      obtain rfl:=someI hb5
      exact ⟨rfl,_,_,rfl,hF.sub ⟨rfl,rfl,rfl,rfl,rfl,rfl,rfl,trivial⟩,hS⟩
   ·rintro e a w ⟨rfl,hF,hS⟩
    refine x_ib (n_sq ?_)
    refine q_seq (q_region (q_x (v:=(iV left_14)) hF hS (ex_move rfl) rfl rfl fun a hF=>q_x (v:=(iV right_45)) hF hS (ex_move rfl) rfl rfl fun a hF=>q_x (v:=(.bool (decide (right_45 < left_14)))) hF hS (ex_ibin rfl rfl rfl) rfl rfl fun a hF=>q_x (v:=(.bool (decide (right_45 < left_14)))) hF hS (ex_assign rfl) rfl rfl fun a hF=>q_end (n_sq (q_ret ?_))))
    obtain rfl:=someI hr
    exact ret_of hF hS rfl (.tmp rfl .nil) rfl

theorem c_spec_FindCut (p_t : impl_Transport) (r : (List Int) × (List Int) × Bool) (hr : spec_FindCut p_t = some r) (w0 : World) (m : Mem) (hv : Vis m w0) (s1 : Sl) (h1 : Rd m s1 p_t.Rows) (s2 : Sl) (h2 : Rd m s2 p_t.Cols) (s3 : Sl) (h3 : Rd m s3 p_t.Lo) (s4 : Sl) (h4 : Rd m s4 p_t.Hi) :
  Ret Try.prog 54 [(.agg #[s1.v,s2.v,s3.v,s4.v])] w0 (fun v w=>∃ (q0' : Piece) (q1' : Piece) (s0' : Sl) (s1' : Sl),v = (.tuple #[s0'.v,s1'.v,(.bool r.2.2)])∧St [] w0 w m [q0',q1']∧OwnL m 3 q0' s0' r.1∧OwnL m 3 q1' s1' r.2.1):=by
 unfold spec_FindCut at hr
 refine ret_start Try.func54 rfl 56 rfl rfl m hv fun a hF hS=>q_seq (q_region (q_box (cs:=[s1.v,s2.v,s3.v,s4.v]) hF hS rfl rfl rfl fun a w b5 hF hS=>q_x (v:=nilS.v) hF hS (ex_assign rfl) rfl rfl fun a hF=>q_x (v:=nilS.v) hF hS (ex_assign rfl) rfl rfl fun a hF=>q_x (v:=(.bool false)) hF hS (ex_assign rfl) rfl rfl fun a hF=>q_end (n_sq (q_seq (q_seq ?_)))))
 obtain ⟨t_11,hj1,hr⟩:=bindS hr
 refine q_join (fun a w=>Fr a 56 [(1,(.pointer (some ⟨b5,0,none⟩))),(20,(.bool t_11))]∧St [] w0 w m [[⟨b5,[s1.v,s2.v,s3.v,s4.v],50⟩]]) ?_ ?_
 ·refine e_region ⟨[],[],m⟩ mixed fun w' hw'=>?_
  have hS:=hS.below hw'
  refine e_x (v:=(.agg #[s1.v,s2.v,s3.v,s4.v])) 0 hF hS rfl (ex_loadA (vs:=[s1.v,s2.v,s3.v,s4.v]) 0 0 Try.underlying50 rfl sz50 rfl rfl rfl rfl) rfl rfl (by kernel_rfl) (by kernel_rfl) (by kernel_rfl) (by kernel_rfl) fun a hF=>e_one 1 (by kernel_rfl) ?_
  obtain ⟨t_6,ht_6,hj1⟩:=bindS hj1
  refine e_call (vs:=[(.agg #[s1.v,s2.v,s3.v,s4.v])]) hF hS rfl Try.func123 (by kernel_rfl) rfl rfl rfl (c_spec_tGood p_t t_6 ht_6 _ m hS.vis s1 h1 s2 h2 s3 h3 s4 h4) ?_
  rintro a w _ rfl hF hS
  refine e_p (v:=(.bool (!t_6))) 2 hF rfl (ex_not rfl) rfl rfl (by kernel_rfl) (by kernel_rfl) (by kernel_rfl) fun a hF=>e_p (v:=(.bool (!t_6))) 3 hF rfl (ex_move rfl) rfl rfl (by kernel_rfl) (by kernel_rfl) (by kernel_rfl) fun a hF=>?_
  rcases bcase (!t_6) with hc2 | hc2
  ·have hj1:=cond_f hc2 hj1
   refine e_pg (v:=(.pointer (some ⟨b5,0,none⟩))) 4 hF rfl (ex_fieldAddr Try.underlying50 rfl sz28 rfl rfl) (wanted_t hF rfl rfl rfl hc2) rfl (by kernel_rfl) (by kernel_rfl) (by kernel_rfl) fun a hF=>e_xg (v:=s1.v) 5 hF hS rfl (ex_load1 0 0 Try.underlying28 rfl rfl rfl rfl) (wanted_t hF rfl rfl rfl hc2) rfl (by kernel_rfl) (by kernel_rfl) (by kernel_rfl) (by kernel_rfl) fun a hF=>e_pg (v:=(.pointer (some ⟨b5,1,none⟩))) 7 hF rfl (ex_fieldAddr Try.underlying50 rfl sz28 rfl rfl) (wanted_t hF rfl rfl rfl hc2) rfl (by kernel_rfl) (by kernel_rfl) (by kernel_rfl) fun a hF=>e_xg (v:=s2.v) 8 hF hS rfl (ex_load1 0 0 Try.underlying28 rfl rfl rfl rfl) (wanted_t hF rfl rfl rfl hc2) rfl (by kernel_rfl) (by kernel_rfl) (by kernel_rfl) (by kernel_rfl) fun a hF=>e_one 6 (by kernel_rfl) ?_
   obtain ⟨t_9,ht_9,hj1⟩:=bindS hj1
   refine e_callg (vs:=[s1.v]) hF hS rfl (wanted_t hF rfl rfl rfl hc2) Try.func83 (by kernel_rfl) rfl rfl rfl (c_spec_tSum p_t.Rows t_9 ht_9 _ m hS.vis s1 h1) ?_
   rintro a w _ rfl hF hS
   refine e_one 9 (by kernel_rfl) ?_
   obtain ⟨t_10,ht_10,hj1⟩:=bindS hj1
   refine e_callg (vs:=[s2.v]) hF hS rfl (wanted_t hF rfl rfl rfl hc2) Try.func83 (by kernel_rfl) rfl rfl rfl (c_spec_tSum p_t.Cols t_10 ht_10 _ m hS.vis s2 h2) ?_
   rintro a w _ rfl hF hS
   refine e_pg (v:=(.bool (t_9 != t_10))) 10 hF rfl (ex_ibin rfl rfl rfl) (wanted_t hF rfl rfl rfl hc2) rfl (by kernel_rfl) (by kernel_rfl) (by kernel_rfl) fun a hF=>e_p (v:=(.bool (t_9 != t_10))) 11 hF rfl (ex_pick_f rfl rfl hc2) rfl rfl (by kernel_rfl) (by kernel_rfl) (by kernel_rfl) fun a hF=>e_end (by kernel_rfl) (n_jn ?_) _
   obtain rfl:=someI hj1
   exact ⟨hF.sub ⟨rfl,rfl,trivial⟩,hS⟩
  ·have hj1:=cond_t hc2 hj1
   refine e_skipP 4 hF rfl (wanted_f hF rfl rfl rfl hc2 rfl) rfl (by kernel_rfl) (by kernel_rfl) (by kernel_rfl) fun a hF=>e_skipP 5 hF rfl (wanted_f hF rfl rfl rfl hc2 rfl) rfl (by kernel_rfl) (by kernel_rfl) (by kernel_rfl) fun a hF=>e_skipP 6 hF rfl (wanted_f hF rfl rfl rfl hc2 rfl) rfl (by kernel_rfl) (by kernel_rfl) (by kernel_rfl) fun a hF=>e_skipP 7 hF rfl (wanted_f hF rfl rfl rfl hc2 rfl) rfl (by kernel_rfl) (by kernel_rfl) (by kernel_rfl) fun a hF=>e_skipP 8 hF rfl (wanted_f hF rfl rfl rfl hc2 rfl) rfl (by kernel_rfl) (by kernel_rfl) (by kernel_rfl) fun a hF=>e_skipP 9 hF rfl (wanted_f hF rfl rfl rfl hc2 rfl) rfl (by kernel_rfl) (by kernel_rfl) (by kernel_rfl) fun a hF=>e_skipP 10 hF rfl (wanted_f hF rfl rfl rfl hc2 rfl) rfl (by kernel_rfl) (by kernel_rfl) (by kernel_rfl) fun a hF=>e_p (v:=(.bool true)) 11 hF rfl (ex_pick_t rfl rfl hc2) rfl rfl (by kernel_rfl) (by kernel_rfl) (by kernel_rfl) fun a hF=>e_end (by kernel_rfl) (n_jn ?_) _
   obtain rfl:=someI hj1
   exact ⟨hF.sub ⟨rfl,rfl,trivial⟩,hS⟩
 ·rintro a w ⟨hF,hS⟩
  refine n_sq ?_
  rcases bcase (t_11) with hc3 | hc3
  ·have hr:=cond_f hc3 hr
   refine q_cond_f hF rfl hc3 (q_skipc (n_sq (q_seq (q_seq (q_region (q_x (v:=(iV 0)) hF hS (ex_assign rfl) rfl rfl fun a hF=>q_end (n_sq (q_block ?_))))))))
   obtain ⟨o4,hl4,hr⟩:=bindS hr
   refine q_loop (fun (set_12 : Int) a w=>Fr a 56 [(1,(.pointer (some ⟨b5,0,none⟩))),(5,(iV set_12))]∧St [] w0 w m [[⟨b5,[s1.v,s2.v,s3.v,s4.v],50⟩]]) (fun (o : (Unit) ⊕ ((List Int) × (List Int) × Bool)) e a w=>o = .inl ()∧e = .exit 0∧Fr a 56 []∧St [] w0 w m []) hl4 ⟨hF.sub ⟨rfl,rfl,trivial⟩,hS⟩ ?_ ?_
   ·clear hF hS
    rintro set_12 a w st ⟨hF,hS⟩ hb4
    unfold spec_FindCut_l1 at hb4
    refine q_seq (q_seq (q_region (q_x (v:=(iV set_12)) hF hS (ex_move rfl) rfl rfl fun a hF=>q_x (v:=(.pointer (some ⟨b5,0,none⟩))) hF hS (ex_fieldAddr Try.underlying50 rfl sz28 rfl rfl) rfl rfl fun a hF=>q_x (v:=s1.v) hF hS (ex_load1 0 0 Try.underlying28 rfl rfl rfl rfl) rfl rfl fun a hF=>q_x (v:=(iV (goLen p_t.Rows))) hF hS (ex_len Try.underlying28 rfl h1.len) rfl rfl fun a hF=>q_x (v:=(.int .u64 (IntKind.wrap .u64 (goLen p_t.Rows)))) hF hS (ex_conv Try.underlying3 Try.underlying127 rfl) rfl rfl fun a hF=>?_)))
    obtain ⟨t_13,ht_13,hb4⟩:=bindS hb4
    refine q_x (v:=(iV t_13)) hF hS (ex_shl rfl rfl ht_13) rfl rfl fun a hF=>q_x (v:=(.bool (decide (set_12 < t_13)))) hF hS (ex_ibin rfl rfl rfl) rfl rfl fun a hF=>q_end (n_sq ?_)
    rcases bcase (decide (set_12 < t_13)) with hc5 | hc5
    ·have hb4:=cond_f hc5 hb4
     refine q_cond_f hF rfl hc5 (q_exit (x_sq ?_))
     obtain rfl:=someI hb4
     exact ⟨nofun,.inl ⟨rfl,rfl,hF.sub trivial,hS.mask [false]⟩⟩
    ·have hb4:=cond_t hc5 hb4
     refine q_cond_t hF rfl hc5 (q_skipc (n_sq (q_seq (q_block (q_seq (q_region (q_x (v:=nilS.v) hF hS (ex_assign rfl) rfl rfl fun a hF=>q_end (n_sq (q_seq (q_seq (q_region (q_x (v:=(.pointer (some ⟨b5,0,none⟩))) hF hS (ex_fieldAddr Try.underlying50 rfl sz28 rfl rfl) rfl rfl fun a hF=>q_x (v:=s1.v) hF hS (ex_load1 0 0 Try.underlying28 rfl rfl rfl rfl) rfl rfl fun a hF=>q_x (v:=(iV (goLen p_t.Rows))) hF hS (ex_len Try.underlying28 rfl h1.len) rfl rfl fun a hF=>q_x (v:=(iV 0)) hF hS (ex_move rfl) rfl rfl fun a hF=>q_end (n_sq (q_block ?_))))))))))))))
     obtain ⟨rows_23,hl6,hb4⟩:=bindS hb4
     refine q_loop (fun (s : (List Int) × Int) a w=>∃ (q15 : Piece),∃ (s15 : Sl),∃ rows_14,∃ t_16,s = (rows_14,t_16)∧Fr a 56 [(1,(.pointer (some ⟨b5,0,none⟩))),(5,(iV set_12)),(6,s15.v),(32,(iV (goLen p_t.Rows))),(33,(iV t_16))]∧St [] w0 w m [q15,[⟨b5,[s1.v,s2.v,s3.v,s4.v],50⟩]]∧OwnL m 3 q15 s15 rows_14) (fun (rows_23 : (List Int)) e a w=>∃ (q24 : Piece),∃ (s24 : Sl),e = .exit 2∧Fr a 56 [(1,(.pointer (some ⟨b5,0,none⟩))),(5,(iV set_12)),(6,s24.v)]∧St [] w0 w m [q24,[⟨b5,[s1.v,s2.v,s3.v,s4.v],50⟩]]∧OwnL m 3 q24 s24 rows_23) hl6 ⟨[],nilS,_,_,rfl,hF.sub ⟨rfl,rfl,rfl,rfl,rfl,trivial⟩,hS.sel [1,0] (by decide),(OwnL.nil (α:=Int) m 3)⟩ ?_ ?_
     ·clear hF hS
      rintro s a w st ⟨q15,s15,rows_14,t_16,rfl,hF,hS,h15⟩ hb6
      unfold spec_FindCut_l2 at hb6
      refine q_seq (q_region (q_x (v:=(.bool (decide (t_16 < (goLen p_t.Rows))))) hF hS (ex_ibin rfl rfl rfl) rfl rfl fun a hF=>q_end (n_sq (q_seq ?_))))
      rcases bcase (decide (t_16 < (goLen p_t.Rows))) with hc7 | hc7
      ·have hb6:=cond_f hc7 hb6
       refine q_cond_f hF rfl hc7 (q_exit (x_sq ?_))
       obtain rfl:=someI hb6
       exact ⟨nofun,.inl ⟨q15,s15,rfl,hF.sub ⟨rfl,rfl,rfl,trivial⟩,hS,h15⟩⟩
      ·have hb6:=cond_t hc7 hb6
       refine q_cond_t hF rfl hc7 (q_skipc (n_sq (q_seq (q_block (q_seq (q_region (q_x (v:=(iV t_16)) hF hS (ex_move rfl) rfl rfl fun a hF=>q_x (v:=(iV t_16)) hF hS (ex_assign rfl) rfl rfl fun a hF=>q_end (n_sq (q_seq (q_region (q_x (v:=(iV set_12)) hF hS (ex_move rfl) rfl rfl fun a hF=>q_x (v:=(iV t_16)) hF hS (ex_move rfl) rfl rfl fun a hF=>q_x (v:=(.int .u64 (IntKind.wrap .u64 t_16))) hF hS (ex_conv Try.underlying3 Try.underlying127 rfl) rfl rfl fun a hF=>?_)))))))))))
       obtain ⟨t_17,ht_17,hb6⟩:=bindS hb6
       refine q_x (v:=(iV t_17)) hF hS (ex_shr rfl rfl ht_17) rfl rfl fun a hF=>q_x (v:=(iV (goBits .and .i64 t_17 1))) hF hS (ex_bits rfl rfl rfl) rfl rfl fun a hF=>q_x (v:=(.bool ((goBits .and .i64 t_17 1) == 1))) hF hS (ex_ibin rfl rfl rfl) rfl rfl fun a hF=>q_end (n_sq ?_)
       obtain ⟨rows_21,hj8,hb6⟩:=bindS hb6
       refine q_join (fun a w=>∃ (q22 : Piece),∃ (s22 : Sl),Fr a 56 [(1,(.pointer (some ⟨b5,0,none⟩))),(5,(iV set_12)),(6,s22.v),(32,(iV (goLen p_t.Rows))),(33,(iV t_16))]∧St [] w0 w m [q22,[⟨b5,[s1.v,s2.v,s3.v,s4.v],50⟩]]∧OwnL m 3 q22 s22 rows_21) ?_ ?_
       ·rcases bcase ((goBits .and .i64 t_17 1) == 1) with hc9 | hc9
        ·have hj8:=cond_f hc9 hj8
         refine q_cond_f hF rfl hc9 (q_skipc (n_jn ?_))
         obtain rfl:=someI hj8
         exact ⟨q15,s15,hF.sub ⟨rfl,rfl,rfl,rfl,rfl,trivial⟩,hS,h15⟩
        ·have hj8:=cond_t hc9 hj8
         refine q_cond_t hF rfl hc9 (q_region (q_x (v:=s15.v) hF hS (ex_move rfl) rfl rfl fun a hF=>q_x (v:=(iV t_16)) hF hS (ex_move rfl) rfl rfl fun a hF=>q_do rfl fun _ hK=>wp_buildSlice' (l:=([t_16] : List Int)) (cells:=[(iV t_16)]) hF hS Try.underlying28 inf3 rfl rfl (by kernel_rfl) rfl rfl rfl ⟨rfl,rfl⟩ rfl rfl fun a w q18 s18 hF hS h18 _=>hK _ _ ?_))
         have hS : St _ _ _ _ [q15,q18,[⟨b5,[s1.v,s2.v,s3.v,s4.v],50⟩]]:=hS.sel [1,0,2] (by decide)
         obtain ⟨l_19,hl_19,hj8⟩:=bindS hj8
         refine q_do rfl fun _ hK=>wp_append hF hS h15 Try.underlying28 inf3 rfl rfl rfl rfl (h18.vw hS (j:=1) rfl) rfl (by decide) hl_19 rfl fun a w q20 s20 hF hS h20=>hK _ _ (q_x (v:=s20.v) hF hS (ex_assign rfl) rfl rfl fun a hF=>q_end (n_jn ?_))
         obtain rfl:=someI hj8
         exact ⟨q20,s20,hF.sub ⟨rfl,rfl,rfl,rfl,rfl,trivial⟩,hS.mask [true,false,true],h20⟩
       ·rintro a w ⟨q22,s22,hF,hS,h22⟩
        refine n_ib (n_sq ?_)
        refine q_region (q_x (v:=(iV (w64 (t_16 + 1)))) hF hS (ex_ibin rfl rfl rfl) rfl rfl fun a hF=>q_x (v:=(iV (w64 (t_16 + 1)))) hF hS (ex_move rfl) rfl rfl fun a hF=>q_end ?_)
        obtain rfl:=someI hb6
        exact ⟨rfl,q22,s22,_,_,rfl,hF.sub ⟨rfl,rfl,rfl,rfl,rfl,trivial⟩,hS,h22⟩
     ·rintro e a w ⟨q24,s24,rfl,hF,hS,h24⟩
      refine x_ib (n_sq ?_)
      refine q_seq (q_region (q_x (v:=(.agg #[s1.v,s2.v,s3.v,s4.v])) hF hS (ex_loadA (vs:=[s1.v,s2.v,s3.v,s4.v]) 1 0 Try.underlying50 rfl sz50 rfl rfl rfl rfl) rfl rfl fun a hF=>q_x (v:=s24.v) hF hS (ex_move rfl) rfl rfl fun a hF=>?_))
      obtain ⟨m26,hl26,hv26,hz26⟩:=hS.lend
      obtain ⟨t_25,ht_25,hb4⟩:=bindS hb4
      refine q_call (vs:=[(.agg #[s1.v,s2.v,s3.v,s4.v]),s24.v]) hF hS Try.func131 (by kernel_rfl) rfl rfl rfl (c_spec_tColumns p_t rows_23 t_25 ht_25 _ m26 hv26 s1 (h1.mono hl26) s2 (h2.mono hl26) s3 (h3.mono hl26) s4 (h4.mono hl26) s24 (h24.froz hl26 (hz26 0 _ rfl))) ?_
      rintro a w _ ⟨q28,s28,rfl,hR27,h28⟩ hF hS2
      have hS : St _ _ _ _ [q28,q24,[⟨b5,[s1.v,s2.v,s3.v,s4.v],50⟩]]:=hS.joinF hR27
      have h28:=h28.any m
      refine q_x (v:=s28.v) hF hS (ex_assign rfl) rfl rfl fun a hF=>q_end (n_sq (q_seq (q_region (q_x (v:=(.agg #[s1.v,s2.v,s3.v,s4.v])) hF hS (ex_loadA (vs:=[s1.v,s2.v,s3.v,s4.v]) 2 0 Try.underlying50 rfl sz50 rfl rfl rfl rfl) rfl rfl fun a hF=>q_x (v:=s24.v) hF hS (ex_move rfl) rfl rfl fun a hF=>q_x (v:=s28.v) hF hS (ex_move rfl) rfl rfl fun a hF=>?_))))
      obtain ⟨m30,hl30,hv30,hz30⟩:=hS.lend
      obtain ⟨t_29,ht_29,hb4⟩:=bindS hb4
      refine q_call (vs:=[(.agg #[s1.v,s2.v,s3.v,s4.v]),s24.v,s28.v]) hF hS Try.func132 (by kernel_rfl) rfl rfl rfl (c_spec_tCut p_t rows_23 t_25 t_29 ht_29 _ m30 hv30 s1 (h1.mono hl30) s2 (h2.mono hl30) s3 (h3.mono hl30) s4 (h4.mono hl30) s24 (h24.froz hl30 (hz30 1 _ rfl)) s28 (h28.froz hl30 (hz30 0 _ rfl))) ?_
      rintro a w _ rfl hF hS
      refine q_end (n_sq ?_)
      rcases bcase (t_29) with hc10 | hc10
      ·have hb4:=cond_f hc10 hb4
       refine q_cond_f hF rfl hc10 (q_skipc (n_ib (n_sq (q_region (q_x (v:=(iV set_12)) hF hS (ex_move rfl) rfl rfl fun a hF=>q_x (v:=(iV (w64 (set_12 + 1)))) hF hS (ex_ibin rfl rfl rfl) rfl rfl fun a hF=>q_x (v:=(iV (w64 (set_12 + 1)))) hF hS (ex_assign rfl) rfl rfl fun a hF=>q_end ?_)))))
       obtain rfl:=someI hb4
       exact ⟨rfl,hF.sub ⟨rfl,rfl,trivial⟩,hS.mask [false,false,true]⟩
      ·have hb4:=cond_t hc10 hb4
       refine q_cond_t hF rfl hc10 (q_seq (q_region (q_x (v:=s24.v) hF hS (ex_move rfl) rfl rfl fun a hF=>q_x (v:=s28.v) hF hS (ex_move rfl) rfl rfl fun a hF=>q_x (v:=s24.v) hF hS (ex_assign rfl) rfl rfl fun a hF=>q_x (v:=s28.v) hF hS (ex_assign rfl) rfl rfl fun a hF=>q_x (v:=(.bool true)) hF hS (ex_assign rfl) rfl rfl fun a hF=>q_end (n_sq (q_ret (r_ib (r_sq ?_)))))))
       obtain rfl:=someI hb4
       refine ⟨nofun,.inr fun ho=>?_⟩
       subst ho
       refine r_ib (r_sq ?_)
       obtain rfl:=someI hr
       exact ret_of hF hS rfl (.tmp rfl (.tmp rfl (.tmp rfl .nil))) ⟨q24,q28,s24,s28,rfl,hS.sel [1,0] (by decide),h24,h28⟩
   ·rintro e a w ⟨rfl,rfl,hF,hS⟩
    refine x_ib (n_sq ?_)
    refine q_seq (q_region (q_x (v:=nilS.v) hF hS (ex_assign rfl) rfl rfl fun a hF=>q_x (v:=nilS.v) hF hS (ex_assign rfl) rfl rfl fun a hF=>q_x (v:=(.bool false)) hF hS (ex_assign rfl) rfl rfl fun a hF=>q_end (n_sq (q_ret ?_))))
    obtain rfl:=someI hr
    exact ret_of hF hS rfl (.tmp rfl (.tmp rfl (.tmp rfl .nil))) ⟨[],[],nilS,nilS,rfl,hS.sel [0,1] (by decide),(OwnL.nil (α:=Int) m 3),(OwnL.nil (α:=Int) m 3)⟩
  ·have hr:=cond_t hc3 hr
   refine q_cond_t hF rfl hc3 (q_seq (q_region (q_x (v:=nilS.v) hF hS (ex_assign rfl) rfl rfl fun a hF=>q_x (v:=nilS.v) hF hS (ex_assign rfl) rfl rfl fun a hF=>q_x (v:=(.bool false)) hF hS (ex_assign rfl) rfl rfl fun a hF=>q_end (n_sq (q_ret (r_sq ?_))))))
   obtain rfl:=someI hr
   exact ret_of hF hS rfl (.tmp rfl (.tmp rfl (.tmp rfl .nil))) ⟨[],[],nilS,nilS,rfl,hS.sel [1,2] (by decide),(OwnL.nil (α:=Int) m 3),(OwnL.nil (α:=Int) m 3)⟩

theorem c_impl_areIndices (p_l : List Int) (p_n : Int) (r : Bool) (hr : impl_areIndices p_l p_n = some r) (w0 : World) (m : Mem) (hv : Vis m w0) (s1 : Sl) (h1 : Rd m s1 p_l) :
  Ret Try.prog 133 [s1.v,(iV p_n)] w0 (fun v _=>v = (.bool r)):=by
 unfold impl_areIndices at hr
 refine ret_start Try.func133 rfl 24 rfl rfl m hv fun a hF hS=>q_seq (q_region (q_x (v:=(.bool false)) hF hS (ex_assign rfl) rfl rfl fun a hF=>q_end (n_sq (q_seq (q_region (q_x (v:=(iV (-1))) hF hS (ex_assign rfl) rfl rfl fun a hF=>q_end (n_sq (q_seq (q_seq (q_region (q_x (v:=s1.v) hF hS (ex_move rfl) rfl rfl fun a hF=>q_x (v:=(iV (goLen p_l))) hF hS (ex_len Try.underlying28 rfl h1.len) rfl rfl fun a hF=>q_x (v:=(iV 0)) hF hS (ex_move rfl) rfl rfl fun a hF=>q_end (n_sq (q_block ?_)))))))))))))
 obtain ⟨o1,hl1,hr⟩:=bindS hr
 refine q_loop (fun (s : Int × Int) a w=>∃ last_2,∃ t_3,s = (last_2,t_3)∧Fr a 24 [(1,(iV p_n)),(5,(iV last_2)),(8,s1.v),(9,(iV (goLen p_l))),(10,(iV t_3))]∧St [] w0 w m []) (fun (o : (Unit) ⊕ (Bool)) e a w=>o = .inl ()∧e = .exit 0∧Fr a 24 []∧St [] w0 w m []) hl1 ⟨_,_,rfl,hF.sub ⟨rfl,rfl,rfl,rfl,rfl,trivial⟩,hS⟩ ?_ ?_
 ·clear hF hS
  rintro s a w st ⟨last_2,t_3,rfl,hF,hS⟩ hb1
  unfold impl_areIndices_l1 at hb1
  refine q_seq (q_region (q_x (v:=(.bool (decide (t_3 < (goLen p_l))))) hF hS (ex_ibin rfl rfl rfl) rfl rfl fun a hF=>q_end (n_sq (q_seq ?_))))
  rcases bcase (decide (t_3 < (goLen p_l))) with hc2 | hc2
  ·have hb1:=cond_f hc2 hb1
   refine q_cond_f hF rfl hc2 (q_exit (x_sq ?_))
   obtain rfl:=someI hb1
   exact ⟨nofun,.inl ⟨rfl,rfl,hF.sub trivial,hS⟩⟩
  ·have hb1:=cond_t hc2 hb1
   refine q_cond_t hF rfl hc2 (q_skipc (n_sq (q_seq (q_block (q_seq (q_region ?_))))))
   obtain ⟨e_4,he_4,hb1⟩:=bindS hb1
   obtain ⟨vs5,at5,d5⟩:=h1.at he_4 1 rfl
   obtain rfl : vs5 = [(iV e_4)]:=d5
   refine q_x (v:=(elP s1 (t_3.toNat * 1))) hF hS (ex_indexAddr Try.underlying28 sz3 rfl rfl (h1.idx he_4)) rfl rfl fun a hF=>q_x (v:=(iV e_4)) hF hS (ex_loadE1 0 Try.underlying3 rfl rfl ((at5).at) rfl rfl) rfl rfl fun a hF=>q_x (v:=(iV e_4)) hF hS (ex_assign rfl) rfl rfl fun a hF=>q_end (n_sq (q_seq (q_seq ?_)))
   obtain ⟨t_6,hj3,hb1⟩:=bindS hb1
   refine q_join (fun a w=>Fr a 24 [(1,(iV p_n)),(7,(iV e_4)),(8,s1.v),(9,(iV (goLen p_l))),(10,(iV t_3)),(21,(.bool t_6))]∧St [] w0 w m []) ?_ ?_
   ·refine q_region (q_x (v:=(iV e_4)) hF hS (ex_move rfl) rfl rfl fun a hF=>q_x (v:=(iV last_2)) hF hS (ex_move rfl) rfl rfl fun a hF=>q_x (v:=(.bool (decide (e_4 ≤ last_2)))) hF hS (ex_ibin rfl rfl rfl) rfl rfl fun a hF=>q_x (v:=(.bool (decide (e_4 ≤ last_2)))) hF hS (ex_move rfl) rfl rfl fun a hF=>?_)
    rcases bcase (decide (e_4 ≤ last_2)) with hc4 | hc4
    ·have hj3:=cond_f hc4 hj3
     refine q_xg (v:=(iV e_4)) hF hS (ex_move rfl) (wanted_t hF rfl rfl rfl hc4) rfl fun a hF=>q_xg (v:=(iV p_n)) hF hS (ex_move rfl) (wanted_t hF rfl rfl rfl hc4) rfl fun a hF=>q_xg (v:=(.bool (decide (p_n ≤ e_4)))) hF hS (ex_ibin rfl rfl rfl) (wanted_t hF rfl rfl rfl hc4) rfl fun a hF=>q_x (v:=(.bool (decide (p_n ≤ e_4)))) hF hS (ex_pick_f rfl rfl hc4) rfl rfl fun a hF=>q_end (n_jn ?_)
     obtain rfl:=someI hj3
     exact ⟨hF.sub ⟨rfl,rfl,rfl,rfl,rfl,rfl,trivial⟩,hS⟩
    ·have hj3:=cond_t hc4 hj3
     refine q_skip hF (wanted_f hF rfl rfl rfl hc4 rfl) rfl fun a hF=>q_skip hF (wanted_f hF rfl rfl rfl hc4 rfl) rfl fun a hF=>q_skip hF (wanted_f hF rfl rfl rfl hc4 rfl) rfl fun a hF=>q_x (v:=(.bool true)) hF hS (ex_pick_t rfl rfl hc4) rfl rfl fun a hF=>q_end (n_jn ?_)
     obtain rfl:=someI hj3
     exact ⟨hF.sub ⟨rfl,rfl,rfl,rfl,rfl,rfl,trivial⟩,hS⟩
   ·rintro a w ⟨hF,hS⟩
    refine n_sq ?_
    rcases bcase (t_6) with hc5 | hc5
    ·have hb1:=cond_f hc5 hb1
     refine q_cond_f hF rfl hc5 (q_skipc (n_sq (q_region (q_x (v:=(iV e_4)) hF hS (ex_move rfl) rfl rfl fun a hF=>q_x (v:=(iV e_4)) hF hS (ex_assign rfl) rfl rfl fun a hF=>q_end (n_ib (n_sq (q_region (q_x (v:=(iV (w64 (t_3 + 1)))) hF hS (ex_ibin rfl rfl rfl) rfl rfl fun a hF=>q_x (v:=(iV (w64 (t_3 + 1)))) hF hS (ex_move rfl) rfl rfl fun a hF=>q_end ?_))))))))
     obtain rfl:=someI hb1
     exact ⟨rfl,_,_,rfl,hF.sub ⟨rfl,rfl,rfl,rfl,rfl,trivial⟩,hS⟩
    ·have hb1:=cond_t hc5 hb1
     refine q_cond_t hF rfl hc5 (q_seq (q_region (q_x (v:=(.bool false)) hF hS (ex_assign rfl) rfl rfl fun a hF=>q_end (n_sq (q_ret (r_sq (r_ib (r_sq ?_))))))))
     obtain rfl:=someI hb1
     refine ⟨nofun,.inr fun ho=>?_⟩
     subst ho
     refine r_ib (r_sq ?_)
     obtain rfl:=someI hr
     exact ret_of hF hS rfl (.tmp rfl .nil) rfl
 ·rintro e a w ⟨rfl,rfl,hF,hS⟩
  refine x_ib (n_sq ?_)
  refine q_seq (q_region (q_x (v:=(.bool true)) hF hS (ex_assign rfl) rfl rfl fun a hF=>q_end (n_sq (q_ret ?_))))
  obtain rfl:=someI hr
  exact ret_of hF hS rfl (.tmp rfl .nil) rfl

theorem c_impl_CheckCut (p_t : impl_Transport) (p_rows : List Int) (p_cols : List Int) (r : Bool × Bool) (hr : impl_CheckCut p_t p_rows p_cols = some r) (w0 : World) (m : Mem) (hv : Vis m w0) (s1 : Sl) (h1 : Rd m s1 p_t.Rows) (s2 : Sl) (h2 : Rd m s2 p_t.Cols) (s3 : Sl) (h3 : Rd m s3 p_t.Lo) (s4 : Sl) (h4 : Rd m s4 p_t.Hi) (s5 : Sl) (h5 : Rd m s5 p_rows) (s6 : Sl) (h6 : Rd m s6 p_cols) :
  Ret Try.prog 56 [(.agg #[s1.v,s2.v,s3.v,s4.v]),s5.v,s6.v] w0 (fun v _=>v = (.tuple #[(.bool r.1),(.bool r.2)])):=by
 unfold impl_CheckCut at hr
 refine ret_start Try.func56 rfl 31 rfl rfl m hv fun a hF hS=>q_seq (q_region (q_box (cs:=[s1.v,s2.v,s3.v,s4.v]) hF hS rfl rfl rfl fun a w b7 hF hS=>q_x (v:=(.bool false)) hF hS (ex_assign rfl) rfl rfl fun a hF=>q_x (v:=(.bool false)) hF hS (ex_assign rfl) rfl rfl fun a hF=>q_end (n_sq (q_seq (q_seq ?_)))))
 obtain ⟨t_11,hj1,hr⟩:=bindS hr
 refine q_join (fun a w=>Fr a 31 [(1,s5.v),(2,s6.v),(3,(.pointer (some ⟨b7,0,none⟩))),(26,(.bool t_11))]∧St [] w0 w m [[⟨b7,[s1.v,s2.v,s3.v,s4.v],50⟩]]) ?_ ?_
 ·refine q_region (q_x (v:=(.agg #[s1.v,s2.v,s3.v,s4.v])) hF hS (ex_loadA (vs:=[s1.v,s2.v,s3.v,s4.v]) 0 0 Try.underlying50 rfl sz50 rfl rfl rfl rfl) rfl rfl fun a hF=>?_)
  obtain ⟨t_8,ht_8,hj1⟩:=bindS hj1
  refine q_call (vs:=[(.agg #[s1.v,s2.v,s3.v,s4.v])]) hF hS Try.func67 (by kernel_rfl) rfl rfl rfl (c_impl_IsTransport p_t t_8 ht_8 _ m hS.vis s1 h1 s2 h2 s3 h3 s4 h4) ?_
  rintro a w _ rfl hF hS
  refine q_x (v:=(.bool (!t_8))) hF hS (ex_not rfl) rfl rfl fun a hF=>q_x (v:=(.bool (!t_8))) hF hS (ex_move rfl) rfl rfl fun a hF=>?_
  rcases bcase (!t_8) with hc2 | hc2
  ·have hj1:=cond_f hc2 hj1
   refine q_xg (v:=s5.v) hF hS (ex_move rfl) (wanted_t hF rfl rfl rfl hc2) rfl fun a hF=>q_xg (v:=(.pointer (some ⟨b7,0,none⟩))) hF hS (ex_fieldAddr Try.underlying50 rfl sz28 rfl rfl) (wanted_t hF rfl rfl rfl hc2) rfl fun a hF=>q_xg (v:=s1.v) hF hS (ex_load1 0 0 Try.underlying28 rfl rfl rfl rfl) (wanted_t hF rfl rfl rfl hc2) rfl fun a hF=>q_xg (v:=(iV (goLen p_t.Rows))) hF hS (ex_len Try.underlying28 rfl h1.len) (wanted_t hF rfl rfl rfl hc2) rfl fun a hF=>?_
   obtain ⟨t_9,ht_9,hj1⟩:=bindS hj1
   refine q_callg (vs:=[s5.v,(iV (goLen p_t.Rows))]) hF hS (wanted_t hF rfl rfl rfl hc2) Try.func133 (by kernel_rfl) rfl rfl rfl (c_impl_areIndices p_rows (goLen p_t.Rows) t_9 ht_9 _ m hS.vis s5 h5) ?_
   rintro a w _ rfl hF hS
   refine q_xg (v:=(.bool (!t_9))) hF hS (ex_not rfl) (wanted_t hF rfl rfl rfl hc2) rfl fun a hF=>q_x (v:=(.bool (!t_9))) hF hS (ex_pick_f rfl rfl hc2) rfl rfl fun a hF=>q_x (v:=(.bool (!t_9))) hF hS (ex_move rfl) rfl rfl fun a hF=>?_
   rcases bcase (!t_9) with hc3 | hc3
   ·have hj1:=cond_f hc3 hj1
    refine q_xg (v:=s6.v) hF hS (ex_move rfl) (wanted_t hF rfl rfl rfl hc3) rfl fun a hF=>q_xg (v:=(.pointer (some ⟨b7,1,none⟩))) hF hS (ex_fieldAddr Try.underlying50 rfl sz28 rfl rfl) (wanted_t hF rfl rfl rfl hc3) rfl fun a hF=>q_xg (v:=s2.v) hF hS (ex_load1 0 0 Try.underlying28 rfl rfl rfl rfl) (wanted_t hF rfl rfl rfl hc3) rfl fun a hF=>q_xg (v:=(iV (goLen p_t.Cols))) hF hS (ex_len Try.underlying28 rfl h2.len) (wanted_t hF rfl rfl rfl hc3) rfl fun a hF=>?_
    obtain ⟨t_10,ht_10,hj1⟩:=bindS hj1
    refine q_callg (vs:=[s6.v,(iV (goLen p_t.Cols))]) hF hS (wanted_t hF rfl rfl rfl hc3) Try.func133 (by kernel_rfl) rfl rfl rfl (c_impl_areIndices p_cols (goLen p_t.Cols) t_10 ht_10 _ m hS.vis s6 h6) ?_
    rintro a w _ rfl hF hS
    refine q_xg (v:=(.bool (!t_10))) hF hS (ex_not rfl) (wanted_t hF rfl rfl rfl hc3) rfl fun a hF=>q_x (v:=(.bool (!t_10))) hF hS (ex_pick_f rfl rfl hc3) rfl rfl fun a hF=>q_end (n_jn ?_)
    obtain rfl:=someI hj1
    exact ⟨hF.sub ⟨rfl,rfl,rfl,rfl,trivial⟩,hS⟩
   ·have hj1:=cond_t hc3 hj1
    refine q_skip hF (wanted_f hF rfl rfl rfl hc3 rfl) rfl fun a hF=>q_skip hF (wanted_f hF rfl rfl rfl hc3 rfl) rfl fun a hF=>q_skip hF (wanted_f hF rfl rfl rfl hc3 rfl) rfl fun a hF=>q_skip hF (wanted_f hF rfl rfl rfl hc3 rfl) rfl fun a hF=>q_skip hF (wanted_f hF rfl rfl rfl hc3 rfl) rfl fun a hF=>q_skip hF (wanted_f hF rfl rfl rfl hc3 rfl) rfl fun a hF=>q_x (v:=(.bool true)) hF hS (ex_pick_t rfl rfl hc3) rfl rfl fun a hF=>q_end (n_jn ?_)
    obtain rfl:=someI hj1
    exact ⟨hF.sub ⟨rfl,rfl,rfl,rfl,trivial⟩,hS⟩
  ·have hj1:=cond_t hc2 hj1
   refine q_skip hF (wanted_f hF rfl rfl rfl hc2 rfl) rfl fun a hF=>q_skip hF (wanted_f hF rfl rfl rfl hc2 rfl) rfl fun a hF=>q_skip hF (wanted_f hF rfl rfl rfl hc2 rfl) rfl fun a hF=>q_skip hF (wanted_f hF rfl rfl rfl hc2 rfl) rfl fun a hF=>q_skip hF (wanted_f hF rfl rfl rfl hc2 rfl) rfl fun a hF=>q_skip hF (wanted_f hF rfl rfl rfl hc2 rfl) rfl fun a hF=>q_x (v:=(.bool true)) hF hS (ex_pick_t rfl rfl hc2) rfl rfl fun a hF=>q_x (v:=(.bool true)) hF hS (ex_move rfl) rfl rfl fun a hF=>q_skip hF (wanted_f hF rfl rfl rfl rfl rfl) rfl fun a hF=>q_skip hF (wanted_f hF rfl rfl rfl rfl rfl) rfl fun a hF=>q_skip hF (wanted_f hF rfl rfl rfl rfl rfl) rfl fun a hF=>q_skip hF (wanted_f hF rfl rfl rfl rfl rfl) rfl fun a hF=>q_skip hF (wanted_f hF rfl rfl rfl rfl rfl) rfl fun a hF=>q_skip hF (wanted_f hF rfl rfl rfl rfl rfl) rfl fun a hF=>q_x (v:=(.bool true)) hF hS (ex_pick_t rfl rfl rfl) rfl rfl fun a hF=>q_end (n_jn ?_)
   obtain rfl:=someI hj1
   exact ⟨hF.sub ⟨rfl,rfl,rfl,rfl,trivial⟩,hS⟩
 ·rintro a w ⟨hF,hS⟩
  refine n_sq ?_
  rcases bcase (t_11) with hc4 | hc4
  ·have hr:=cond_f hc4 hr
   refine q_cond_f hF rfl hc4 (q_skipc (n_sq (q_seq (q_region (q_x (v:=(.agg #[s1.v,s2.v,s3.v,s4.v])) hF hS (ex_loadA (vs:=[s1.v,s2.v,s3.v,s4.v]) 0 0 Try.underlying50 rfl sz50 rfl rfl rfl rfl) rfl rfl fun a hF=>q_x (v:=s5.v) hF hS (ex_move rfl) rfl rfl fun a hF=>q_x (v:=s6.v) hF hS (ex_move rfl) rfl rfl fun a hF=>?_)))))
   obtain ⟨t_12,ht_12,hr⟩:=bindS hr
   refine q_call (vs:=[(.agg #[s1.v,s2.v,s3.v,s4.v]),s5.v,s6.v]) hF hS Try.func130 (by kernel_rfl) rfl rfl rfl (c_impl_isCut p_t p_rows p_cols t_12 ht_12 _ m hS.vis s1 h1 s2 h2 s3 h3 s4 h4 s5 h5 s6 h6) ?_
   rintro a w _ rfl hF hS
   refine q_x (v:=(.bool t_12)) hF hS (ex_assign rfl) rfl rfl fun a hF=>q_x (v:=(.bool true)) hF hS (ex_assign rfl) rfl rfl fun a hF=>q_end (n_sq (q_ret ?_))
   obtain rfl:=someI hr
   exact ret_of hF hS rfl (.tmp rfl (.tmp rfl .nil)) rfl
  ·have hr:=cond_t hc4 hr
   refine q_cond_t hF rfl hc4 (q_seq (q_region (q_x (v:=(.bool false)) hF hS (ex_assign rfl) rfl rfl fun a hF=>q_x (v:=(.bool false)) hF hS (ex_assign rfl) rfl rfl fun a hF=>q_end (n_sq (q_ret (r_sq ?_))))))
   obtain rfl:=someI hr
   exact ret_of hF hS rfl (.tmp rfl (.tmp rfl .nil)) rfl

theorem c_laws_pSum (p_l : List Int) (r : Int) (hr : laws_pSum p_l = some r) (w0 : World) (m : Mem) (hv : Vis m w0) (s1 : Sl) (h1 : Rd m s1 p_l) :
  Ret Try.prog 57 [s1.v] w0 (fun v _=>v = (iV r)):=by
 unfold laws_pSum at hr
 refine ret_start Try.func57 rfl 17 rfl rfl m hv fun a hF hS=>q_seq (q_region (q_x (v:=(iV 0)) hF hS (ex_assign rfl) rfl rfl fun a hF=>q_end (n_sq (q_seq (q_region (q_x (v:=(iV 0)) hF hS (ex_assign rfl) rfl rfl fun a hF=>q_end (n_sq (q_seq (q_seq (q_region (q_x (v:=s1.v) hF hS (ex_move rfl) rfl rfl fun a hF=>q_x (v:=(iV (goLen p_l))) hF hS (ex_len Try.underlying28 rfl h1.len) rfl rfl fun a hF=>q_x (v:=(iV 0)) hF hS (ex_move rfl) rfl rfl fun a hF=>q_end (n_sq (q_block ?_)))))))))))))
 obtain ⟨sum_6,hl1,hr⟩:=bindS hr
 refine q_loop (fun (s : Int × Int) a w=>∃ sum_2,∃ t_3,s = (sum_2,t_3)∧Fr a 17 [(3,(iV sum_2)),(6,s1.v),(7,(iV (goLen p_l))),(8,(iV t_3))]∧St [] w0 w m []) (fun (sum_6 : Int) e a w=>e = .exit 0∧Fr a 17 [(3,(iV sum_6))]∧St [] w0 w m []) hl1 ⟨_,_,rfl,hF.sub ⟨rfl,rfl,rfl,rfl,trivial⟩,hS⟩ ?_ ?_
 ·clear hF hS
  rintro s a w st ⟨sum_2,t_3,rfl,hF,hS⟩ hb1
  unfold laws_pSum_l1 at hb1
  refine q_seq (q_region (q_x (v:=(.bool (decide (t_3 < (goLen p_l))))) hF hS (ex_ibin rfl rfl rfl) rfl rfl fun a hF=>q_end (n_sq (q_seq ?_))))
  rcases bcase (decide (t_3 < (goLen p_l))) with hc2 | hc2
  ·have hb1:=cond_f hc2 hb1
   refine q_cond_f hF rfl hc2 (q_exit (x_sq ?_))
   obtain rfl:=someI hb1
   exact ⟨nofun,.inl ⟨rfl,hF.sub ⟨rfl,trivial⟩,hS⟩⟩
  ·have hb1:=cond_t hc2 hb1
   refine q_cond_t hF rfl hc2 (q_skipc (n_sq (q_seq (q_block (q_seq (q_region ?_))))))
   obtain ⟨e_4,he_4,hb1⟩:=bindS hb1
   obtain ⟨vs5,at5,d5⟩:=h1.at he_4 1 rfl
   obtain rfl : vs5 = [(iV e_4)]:=d5
   refine q_x (v:=(elP s1 (t_3.toNat * 1))) hF hS (ex_indexAddr Try.underlying28 sz3 rfl rfl (h1.idx he_4)) rfl rfl fun a hF=>q_x (v:=(iV e_4)) hF hS (ex_loadE1 0 Try.underlying3 rfl rfl ((at5).at) rfl rfl) rfl rfl fun a hF=>q_x (v:=(iV e_4)) hF hS (ex_assign rfl) rfl rfl fun a hF=>q_end (n_sq (q_region (q_x (v:=(iV sum_2)) hF hS (ex_move rfl) rfl rfl fun a hF=>q_x (v:=(iV e_4)) hF hS (ex_move rfl) rfl rfl fun a hF=>q_x (v:=(iV (w64 (sum_2 + e_4)))) hF hS (ex_ibin rfl rfl rfl) rfl rfl fun a hF=>q_x (v:=(iV (w64 (sum_2 + e_4)))) hF hS (ex_assign rfl) rfl rfl fun a hF=>q_end (n_ib (n_sq (q_region (q_x (v:=(iV (w64 (t_3 + 1)))) hF hS (ex_ibin rfl rfl rfl) rfl rfl fun a hF=>q_x (v:=(iV (w64 (t_3 + 1)))) hF hS (ex_move rfl) rfl rfl fun a hF=>q_end ?_)))))))
   obtain rfl:=someI hb1
   exact ⟨rfl,_,_,rfl,hF.sub ⟨rfl,rfl,rfl,rfl,trivial⟩,hS⟩
 ·rintro e a w ⟨rfl,hF,hS⟩
  refine x_ib (n_sq ?_)
  refine q_seq (q_region (q_x (v:=(iV sum_6)) hF hS (ex_move rfl) rfl rfl fun a hF=>q_x (v:=(iV sum_6)) hF hS (ex_assign rfl) rfl rfl fun a hF=>q_end (n_sq (q_ret ?_))))
  obtain rfl:=someI hr
  exact ret_of hF hS rfl (.tmp rfl .nil) rfl

theorem c_laws_FnFlows (p_code : List (K .u8)) (p_more : List (K .u8)) (r : Bool) (hr : laws_FnFlows p_code p_more = some r) (w0 : World) (m : Mem) (hv : Vis m w0) (s1 : Sl) (h1 : Rd m s1 p_code) (s2 : Sl) (h2 : Rd m s2 p_more) :
  Ret Try.prog 6 [s1.v,s2.v] w0 (fun v _=>v = (.bool r)):=by
 unfold laws_FnFlows at hr
 refine ret_start Try.func6 rfl 176 rfl rfl m hv fun a hF hS=>q_seq (q_region (q_x (v:=(.bool false)) hF hS (ex_assign rfl) rfl rfl fun a hF=>q_end (n_sq (q_seq (q_seq (q_region (q_x (v:=s1.v) hF hS (ex_move rfl) rfl rfl fun a hF=>q_x (v:=s2.v) hF hS (ex_move rfl) rfl rfl fun a hF=>?_)))))))
 obtain ⟨t_3,ht_3,hr⟩:=bindS hr
 refine q_call (vs:=[s1.v,s2.v]) hF hS Try.func43 (by kernel_rfl) rfl rfl rfl (c_laws_big p_code p_more t_3 ht_3 _ m hS.vis s1 h1 s2 h2) ?_
 rintro a w _ rfl hF hS
 refine q_end (n_sq ?_)
 rcases bcase (t_3) with hc1 | hc1
 ·have hr:=cond_f hc1 hr
  refine q_cond_f hF rfl hc1 (q_skipc (n_sq (q_seq (q_region (q_x (v:=s1.v) hF hS (ex_move rfl) rfl rfl fun a hF=>?_)))))
  obtain ⟨t_4,ht_4,hr⟩:=bindS hr
  refine q_call (vs:=[s1.v]) hF hS Try.func44 (by kernel_rfl) rfl rfl rfl (c_spec_DrawFirstFlow p_code t_4 ht_4 _ m hS.vis s1 h1) ?_
  have hT:=hS
  rintro a w _ ⟨m5,q6,q7,q9,s6,s7,s8,s9,rfl,hm5,hR5,h6,h7,h8,h9⟩ hF hS2
  have hS : St _ _ _ _ [q6,q7,q9]:=hS.join hR5 hm5
  have hm5:=MLe.weakX (O0:=[]) hT hm5
  refine q_alloc (cs:=[nilS.v,nilS.v,nilS.v,nilS.v]) hF hS rfl rfl rfl fun a w b10 hF hS=>q_store (vs:=[s6.v,s7.v,s8.v,s9.v]) (cs':=[s6.v,s7.v,s8.v,s9.v]) 0 0 hF hS sz50 rfl rfl rfl rfl rfl rfl rfl rfl fun a w hF hS=>q_end (n_sq (q_seq (q_region (q_x (v:=(.agg #[s6.v,s7.v,s8.v,s9.v])) hF hS (ex_loadA (vs:=[s6.v,s7.v,s8.v,s9.v]) 0 0 Try.underlying50 rfl sz50 rfl rfl rfl rfl) rfl rfl fun a hF=>?_))))
  obtain ⟨m12,hl12,hv12,hz12⟩:=hS.lend
  obtain ⟨t_11,ht_11,hr⟩:=bindS hr
  refine q_call (vs:=[(.agg #[s6.v,s7.v,s8.v,s9.v])]) hF hS Try.func45 (by kernel_rfl) rfl rfl rfl (c_impl_FirstFlow t_4 t_11 ht_11 _ m12 hv12 s6 (h6.froz hl12 (hz12 1 _ rfl)) s7 (h7.froz hl12 (hz12 2 _ rfl)) s8 (h8.mono hl12) s9 (h9.froz hl12 (hz12 3 _ rfl))) ?_
  rintro a w _ ⟨q14,s14,rfl,hR13,h14,h14n⟩ hF hS2
  have hS : St _ _ _ _ [q14,[⟨b10,[s6.v,s7.v,s8.v,s9.v],50⟩],q6,q7,q9]:=hS.joinF hR13
  have h14:=h14.any m5
  refine q_x (v:=(.tuple #[s14.v,(.bool t_11.2)])) hF hS (ex_move rfl) rfl rfl fun a hF=>q_x (v:=s14.v) hF hS (ex_extract rfl rfl) rfl rfl fun a hF=>q_x (v:=(.bool t_11.2)) hF hS (ex_extract rfl rfl) rfl rfl fun a hF=>q_x (v:=s14.v) hF hS (ex_assign rfl) rfl rfl fun a hF=>q_x (v:=(.bool t_11.2)) hF hS (ex_assign rfl) rfl rfl fun a hF=>q_end (n_sq (q_seq (q_region (q_x (v:=(.agg #[s6.v,s7.v,s8.v,s9.v])) hF hS (ex_loadA (vs:=[s6.v,s7.v,s8.v,s9.v]) 1 0 Try.underlying50 rfl sz50 rfl rfl rfl rfl) rfl rfl fun a hF=>?_))))
  have hS : St _ _ _ _ [q6,q14,[⟨b10,[s6.v,s7.v,s8.v,s9.v],50⟩],q7,q9]:=hS.sel [2,0,1,3,4] (by decide)
  obtain ⟨m15,hm15,hS,hz15⟩:=hS.freeze
  have h15:=h6.froz hm15.le hz15
  have hS : St _ _ _ _ [q7,q14,[⟨b10,[s6.v,s7.v,s8.v,s9.v],50⟩],q9]:=hS.sel [2,0,1,3] (by decide)
  obtain ⟨m16,hm16,hS,hz16⟩:=hS.freeze
  have h16:=(h7.mono hm15.le).froz hm16.le hz16
  have hS : St _ _ _ _ [q9,q14,[⟨b10,[s6.v,s7.v,s8.v,s9.v],50⟩]]:=hS.sel [2,0,1] (by decide)
  obtain ⟨m17,hm17,hS,hz17⟩:=hS.freeze
  have h17:=((h9.mono hm15.le).mono hm16.le).froz hm17.le hz17
  obtain ⟨t_18,ht_18,hr⟩:=bindS hr
  refine q_call (vs:=[(.agg #[s6.v,s7.v,s8.v,s9.v])]) hF hS Try.func46 (by kernel_rfl) rfl rfl rfl (c_spec_FirstFlow t_4 t_18 ht_18 _ m17 hS.vis s6 ((h15.mono hm16.le).mono hm17.le) s7 (h16.mono hm17.le) s8 (((h8.mono hm15.le).mono hm16.le).mono hm17.le) s9 h17) ?_
  have hT:=hS
  rintro a w _ ⟨m19,q20,s20,rfl,hm19,hR19,h20⟩ hF hS2
  have hS : St _ _ _ _ [q20,q14,[⟨b10,[s6.v,s7.v,s8.v,s9.v],50⟩]]:=hS.join hR19 hm19
  have hm19:=MLe.weakX (O0:=[]) hT hm19
  refine q_x (v:=(.tuple #[s20.v,(.bool t_18.2)])) hF hS (ex_move rfl) rfl rfl fun a hF=>q_x (v:=s20.v) hF hS (ex_extract rfl rfl) rfl rfl fun a hF=>q_x (v:=(.bool t_18.2)) hF hS (ex_extract rfl rfl) rfl rfl fun a hF=>q_x (v:=s20.v) hF hS (ex_assign rfl) rfl rfl fun a hF=>q_x (v:=(.bool t_18.2)) hF hS (ex_assign rfl) rfl rfl fun a hF=>q_end (n_sq (q_seq (q_seq ?_)))
  obtain ⟨t_23,hj2,hr⟩:=bindS hr
  refine q_join (fun a w=>Fr a 176 [(1,s2.v),(5,(.pointer (some ⟨b10,0,none⟩))),(6,s14.v),(7,(.bool t_11.2)),(52,(.bool t_23))]∧St [] w0 w m19 [q14,[⟨b10,[s6.v,s7.v,s8.v,s9.v],50⟩]]) ?_ ?_
  ·refine q_region (q_x (v:=(.bool t_11.2)) hF hS (ex_move rfl) rfl rfl fun a hF=>q_x (v:=(.bool t_18.2)) hF hS (ex_move rfl) rfl rfl fun a hF=>q_x (v:=(.bool (t_11.2 != t_18.2))) hF hS (ex_bne Try.underlying4 rfl rfl) rfl rfl fun a hF=>q_x (v:=(.bool (t_11.2 != t_18.2))) hF hS (ex_move rfl) rfl rfl fun a hF=>?_)
   rcases bcase (t_11.2 != t_18.2) with hc3 | hc3
   ·have hj2:=cond_f hc3 hj2
    refine q_xg (v:=s14.v) hF hS (ex_move rfl) (wanted_t hF rfl rfl rfl hc3) rfl fun a hF=>q_xg (v:=s20.v) hF hS (ex_move rfl) (wanted_t hF rfl rfl rfl hc3) rfl fun a hF=>?_
    obtain ⟨m22,hl22,hv22,hz22⟩:=hS.lend
    obtain ⟨t_21,ht_21,hj2⟩:=bindS hj2
    refine q_callg (vs:=[s14.v,s20.v]) hF hS (wanted_t hF rfl rfl rfl hc3) Try.func47 (by kernel_rfl) rfl rfl rfl (c_laws_sameLists t_11.1 t_18.1 t_21 ht_21 _ m22 hv22 s14 (((((h14.mono hm15.le).mono hm16.le).mono hm17.le).mono hm19.le).froz hl22 (hz22 1 _ rfl)) s20 (h20.froz hl22 (hz22 0 _ rfl))) ?_
    rintro a w _ rfl hF hS
    refine q_xg (v:=(.bool (!t_21))) hF hS (ex_not rfl) (wanted_t hF rfl rfl rfl hc3) rfl fun a hF=>q_x (v:=(.bool (!t_21))) hF hS (ex_pick_f rfl rfl hc3) rfl rfl fun a hF=>q_end (n_jn ?_)
    obtain rfl:=someI hj2
    exact ⟨hF.sub ⟨rfl,rfl,rfl,rfl,rfl,trivial⟩,hS.mask [false,true,true]⟩
   ·have hj2:=cond_t hc3 hj2
    refine q_skip hF (wanted_f hF rfl rfl rfl hc3 rfl) rfl fun a hF=>q_skip hF (wanted_f hF rfl rfl rfl hc3 rfl) rfl fun a hF=>q_skip hF (wanted_f hF rfl rfl rfl hc3 rfl) rfl fun a hF=>q_skip hF (wanted_f hF rfl rfl rfl hc3 rfl) rfl fun a hF=>q_x (v:=(.bool true)) hF hS (ex_pick_t rfl rfl hc3) rfl rfl fun a hF=>q_end (n_jn ?_)
    obtain rfl:=someI hj2
    exact ⟨hF.sub ⟨rfl,rfl,rfl,rfl,rfl,trivial⟩,hS.mask [false,true,true]⟩
  ·rintro a w ⟨hF,hS⟩
   refine n_sq ?_
   rcases bcase (t_23) with hc4 | hc4
   ·have hr:=cond_f hc4 hr
    refine q_cond_f hF rfl hc4 (q_skipc (n_sq (q_seq (q_region (q_x (v:=(.agg #[s6.v,s7.v,s8.v,s9.v])) hF hS (ex_loadA (vs:=[s6.v,s7.v,s8.v,s9.v]) 1 0 Try.underlying50 rfl sz50 rfl rfl rfl rfl) rfl rfl fun a hF=>?_)))))
    obtain ⟨t_24,ht_24,hr⟩:=bindS hr
    refine q_call (vs:=[(.agg #[s6.v,s7.v,s8.v,s9.v])]) hF hS Try.func48 (by kernel_rfl) rfl rfl rfl (c_impl_HasFlow t_4 t_24 ht_24 _ m19 hS.vis s6 (((h15.mono hm16.le).mono hm17.le).mono hm19.le) s7 ((h16.mono hm17.le).mono hm19.le) s8 ((((h8.mono hm15.le).mono hm16.le).mono hm17.le).mono hm19.le) s9 (h17.mono hm19.le)) ?_
    rintro a w _ rfl hF hS
    refine q_x (v:=(.tuple #[(.bool t_24.1),(.bool t_24.2)])) hF hS (ex_move rfl) rfl rfl fun a hF=>q_x (v:=(.bool t_24.1)) hF hS (ex_extract rfl rfl) rfl rfl fun a hF=>q_x (v:=(.bool t_24.2)) hF hS (ex_extract rfl rfl) rfl rfl fun a hF=>q_x (v:=(.bool t_24.1)) hF hS (ex_assign rfl) rfl rfl fun a hF=>q_x (v:=(.bool t_24.2)) hF hS (ex_assign rfl) rfl rfl fun a hF=>q_end (n_sq (q_seq (q_seq ?_)))
    obtain ⟨t_25,hj5,hr⟩:=bindS hr
    refine q_join (fun a w=>Fr a 176 [(1,s2.v),(5,(.pointer (some ⟨b10,0,none⟩))),(6,s14.v),(7,(.bool t_11.2)),(63,(.bool t_25))]∧St [] w0 w m19 [q14,[⟨b10,[s6.v,s7.v,s8.v,s9.v],50⟩]]) ?_ ?_
    ·refine q_region (q_x (v:=(.bool t_24.2)) hF hS (ex_move rfl) rfl rfl fun a hF=>q_x (v:=(.bool t_24.2)) hF hS (ex_move rfl) rfl rfl fun a hF=>?_)
     rcases bcase (t_24.2) with hc6 | hc6
     ·have hj5:=cond_f hc6 hj5
      refine q_skip hF (wanted_f hF rfl rfl rfl hc6 rfl) rfl fun a hF=>q_skip hF (wanted_f hF rfl rfl rfl hc6 rfl) rfl fun a hF=>q_skip hF (wanted_f hF rfl rfl rfl hc6 rfl) rfl fun a hF=>q_x (v:=(.bool false)) hF hS (ex_pick_f rfl rfl hc6) rfl rfl fun a hF=>q_end (n_jn ?_)
      obtain rfl:=someI hj5
      exact ⟨hF.sub ⟨rfl,rfl,rfl,rfl,rfl,trivial⟩,hS⟩
     ·have hj5:=cond_t hc6 hj5
      refine q_xg (v:=(.bool t_24.1)) hF hS (ex_move rfl) (wanted_t hF rfl rfl rfl hc6) rfl fun a hF=>q_xg (v:=(.bool t_11.2)) hF hS (ex_move rfl) (wanted_t hF rfl rfl rfl hc6) rfl fun a hF=>q_xg (v:=(.bool (t_24.1 != t_11.2))) hF hS (ex_bne Try.underlying4 rfl rfl) (wanted_t hF rfl rfl rfl hc6) rfl fun a hF=>q_x (v:=(.bool (t_24.1 != t_11.2))) hF hS (ex_pick_t rfl rfl hc6) rfl rfl fun a hF=>q_end (n_jn ?_)
      obtain rfl:=someI hj5
      exact ⟨hF.sub ⟨rfl,rfl,rfl,rfl,rfl,trivial⟩,hS⟩
    ·rintro a w ⟨hF,hS⟩
     refine n_sq ?_
     rcases bcase (t_25) with hc7 | hc7
     ·have hr:=cond_f hc7 hr
      refine q_cond_f hF rfl hc7 (q_skipc (n_sq (q_seq (q_seq (q_region (q_x (v:=(.bool t_11.2)) hF hS (ex_move rfl) rfl rfl fun a hF=>q_end (n_sq ?_)))))))
      obtain ⟨j8,hj8,hr⟩:=bindS hr
      refine q_join (fun a w=>∃ (m41 : Mem),j8 = .inl ()∧Fr a 176 [(1,s2.v)]∧St [] w0 w m41 []∧MLe [] w0.heap.size m19 m41) ?_ ?_
      ·rcases bcase (t_11.2) with hc9 | hc9
       ·have hj8:=cond_f hc9 hj8
        refine q_cond_f hF rfl hc9 (q_skipc (n_jn ?_))
        obtain rfl:=someI hj8
        exact ⟨m19,rfl,hF.sub ⟨rfl,trivial⟩,hS.mask [false,false],(MLe.refl _ _)⟩
       ·have hj8:=cond_t hc9 hj8
        refine q_cond_t hF rfl hc9 (q_seq (q_region (q_x (v:=(.agg #[s6.v,s7.v,s8.v,s9.v])) hF hS (ex_loadA (vs:=[s6.v,s7.v,s8.v,s9.v]) 1 0 Try.underlying50 rfl sz50 rfl rfl rfl rfl) rfl rfl fun a hF=>q_x (v:=s14.v) hF hS (ex_move rfl) rfl rfl fun a hF=>?_)))
        obtain ⟨m27,hl27,hv27,hz27⟩:=hS.lend
        obtain ⟨t_26,ht_26,hj8⟩:=bindS hj8
        refine q_call (vs:=[(.agg #[s6.v,s7.v,s8.v,s9.v]),s14.v]) hF hS Try.func31 (by kernel_rfl) rfl rfl rfl (c_impl_IsFlow t_4 t_11.1 t_26 ht_26 _ m27 hv27 s6 ((((h15.mono hm16.le).mono hm17.le).mono hm19.le).mono hl27) s7 (((h16.mono hm17.le).mono hm19.le).mono hl27) s8 (((((h8.mono hm15.le).mono hm16.le).mono hm17.le).mono hm19.le).mono hl27) s9 ((h17.mono hm19.le).mono hl27) s14 (((((h14.mono hm15.le).mono hm16.le).mono hm17.le).mono hm19.le).froz hl27 (hz27 0 _ rfl))) ?_
        rintro a w _ rfl hF hS
        refine q_x (v:=(.tuple #[(.bool t_26.1),(.bool t_26.2)])) hF hS (ex_move rfl) rfl rfl fun a hF=>q_x (v:=(.bool t_26.1)) hF hS (ex_extract rfl rfl) rfl rfl fun a hF=>q_x (v:=(.bool t_26.2)) hF hS (ex_extract rfl rfl) rfl rfl fun a hF=>q_x (v:=(.bool t_26.1)) hF hS (ex_assign rfl) rfl rfl fun a hF=>q_x (v:=(.bool t_26.2)) hF hS (ex_assign rfl) rfl rfl fun a hF=>q_end (n_sq (q_seq (q_region (q_x (v:=(.agg #[s6.v,s7.v,s8.v,s9.v])) hF hS (ex_loadA (vs:=[s6.v,s7.v,s8.v,s9.v]) 1 0 Try.underlying50 rfl sz50 rfl rfl rfl rfl) rfl rfl fun a hF=>q_x (v:=s14.v) hF hS (ex_move rfl) rfl rfl fun a hF=>?_))))
        obtain ⟨m29,hl29,hv29,hz29⟩:=hS.lend
        obtain ⟨t_28,ht_28,hj8⟩:=bindS hj8
        refine q_call (vs:=[(.agg #[s6.v,s7.v,s8.v,s9.v]),s14.v]) hF hS Try.func49 (by kernel_rfl) rfl rfl rfl (c_impl_NextFlow t_4 t_11.1 t_28 ht_28 _ m29 hv29 s6 ((((h15.mono hm16.le).mono hm17.le).mono hm19.le).mono hl29) s7 (((h16.mono hm17.le).mono hm19.le).mono hl29) s8 (((((h8.mono hm15.le).mono hm16.le).mono hm17.le).mono hm19.le).mono hl29) s9 ((h17.mono hm19.le).mono hl29) s14 (((((h14.mono hm15.le).mono hm16.le).mono hm17.le).mono hm19.le).froz hl29 (hz29 0 _ rfl))) ?_
        rintro a w _ ⟨q31,s31,rfl,hR30,h31,h31n⟩ hF hS2
        have hS : St _ _ _ _ [q31,q14,[⟨b10,[s6.v,s7.v,s8.v,s9.v],50⟩]]:=hS.joinF hR30
        have h31:=h31.any m19
        refine q_x (v:=(.tuple #[s31.v,(.bool t_28.2)])) hF hS (ex_move rfl) rfl rfl fun a hF=>q_x (v:=s31.v) hF hS (ex_extract rfl rfl) rfl rfl fun a hF=>q_x (v:=(.bool t_28.2)) hF hS (ex_extract rfl rfl) rfl rfl fun a hF=>q_x (v:=s31.v) hF hS (ex_assign rfl) rfl rfl fun a hF=>q_x (v:=(.bool t_28.2)) hF hS (ex_assign rfl) rfl rfl fun a hF=>q_end (n_sq (q_seq (q_region (q_x (v:=(.agg #[s6.v,s7.v,s8.v,s9.v])) hF hS (ex_loadA (vs:=[s6.v,s7.v,s8.v,s9.v]) 2 0 Try.underlying50 rfl sz50 rfl rfl rfl rfl) rfl rfl fun a hF=>q_x (v:=s14.v) hF hS (ex_move rfl) rfl rfl fun a hF=>?_))))
        have hS : St _ _ _ _ [q14,q31,[⟨b10,[s6.v,s7.v,s8.v,s9.v],50⟩]]:=hS.sel [1,0,2] (by decide)
        obtain ⟨m32,hm32,hS,hz32⟩:=hS.freeze
        have h32:=((((h14.mono hm15.le).mono hm16.le).mono hm17.le).mono hm19.le).froz hm32.le hz32
        obtain ⟨t_33,ht_33,hj8⟩:=bindS hj8
        refine q_call (vs:=[(.agg #[s6.v,s7.v,s8.v,s9.v]),s14.v]) hF hS Try.func50 (by kernel_rfl) rfl rfl rfl (c_spec_NextFlow t_4 t_11.1 t_33 ht_33 _ m32 hS.vis s6 ((((h15.mono hm16.le).mono hm17.le).mono hm19.le).mono hm32.le) s7 (((h16.mono hm17.le).mono hm19.le).mono hm32.le) s8 (((((h8.mono hm15.le).mono hm16.le).mono hm17.le).mono hm19.le).mono hm32.le) s9 ((h17.mono hm19.le).mono hm32.le) s14 h32) ?_
        have hT:=hS
        rintro a w _ ⟨m34,q35,s35,rfl,hm34,hR34,h35⟩ hF hS2
        have hS : St _ _ _ _ [q35,q31,[⟨b10,[s6.v,s7.v,s8.v,s9.v],50⟩]]:=hS.join hR34 hm34
        have hm34:=MLe.weakX (O0:=[]) hT hm34
        refine q_x (v:=(.tuple #[s35.v,(.bool t_33.2)])) hF hS (ex_move rfl) rfl rfl fun a hF=>q_x (v:=s35.v) hF hS (ex_extract rfl rfl) rfl rfl fun a hF=>q_x (v:=(.bool t_33.2)) hF hS (ex_extract rfl rfl) rfl rfl fun a hF=>q_x (v:=s35.v) hF hS (ex_assign rfl) rfl rfl fun a hF=>q_x (v:=(.bool t_33.2)) hF hS (ex_assign rfl) rfl rfl fun a hF=>q_end (n_sq (q_seq ?_))
        obtain ⟨t_40,hj10,hj8⟩:=bindS hj8
        refine q_join (fun a w=>Fr a 176 [(1,s2.v),(108,(.bool t_40))]∧St [] w0 w m34 []) ?_ ?_
        ·refine q_region (q_x (v:=(.bool t_26.2)) hF hS (ex_move rfl) rfl rfl fun a hF=>q_x (v:=(.bool (!t_26.2))) hF hS (ex_not rfl) rfl rfl fun a hF=>q_x (v:=(.bool (!t_26.2))) hF hS (ex_move rfl) rfl rfl fun a hF=>?_)
         rcases bcase (!t_26.2) with hc11 | hc11
         ·have hj10:=cond_f hc11 hj10
          refine q_xg (v:=(.bool t_26.1)) hF hS (ex_move rfl) (wanted_t hF rfl rfl rfl hc11) rfl fun a hF=>q_xg (v:=(.bool (!t_26.1))) hF hS (ex_not rfl) (wanted_t hF rfl rfl rfl hc11) rfl fun a hF=>q_x (v:=(.bool (!t_26.1))) hF hS (ex_pick_f rfl rfl hc11) rfl rfl fun a hF=>q_x (v:=(.bool (!t_26.1))) hF hS (ex_move rfl) rfl rfl fun a hF=>?_
          rcases bcase (!t_26.1) with hc12 | hc12
          ·have hj10:=cond_f hc12 hj10
           refine q_xg (v:=(.bool t_28.2)) hF hS (ex_move rfl) (wanted_t hF rfl rfl rfl hc12) rfl fun a hF=>q_xg (v:=(.bool t_33.2)) hF hS (ex_move rfl) (wanted_t hF rfl rfl rfl hc12) rfl fun a hF=>q_xg (v:=(.bool (t_28.2 != t_33.2))) hF hS (ex_bne Try.underlying4 rfl rfl) (wanted_t hF rfl rfl rfl hc12) rfl fun a hF=>q_x (v:=(.bool (t_28.2 != t_33.2))) hF hS (ex_pick_f rfl rfl hc12) rfl rfl fun a hF=>q_x (v:=(.bool (t_28.2 != t_33.2))) hF hS (ex_move rfl) rfl rfl fun a hF=>?_
           rcases bcase (t_28.2 != t_33.2) with hc13 | hc13
           ·have hj10:=cond_f hc13 hj10
            refine q_xg (v:=s31.v) hF hS (ex_move rfl) (wanted_t hF rfl rfl rfl hc13) rfl fun a hF=>q_xg (v:=s35.v) hF hS (ex_move rfl) (wanted_t hF rfl rfl rfl hc13) rfl fun a hF=>?_
            obtain ⟨m37,hl37,hv37,hz37⟩:=hS.lend
            obtain ⟨t_36,ht_36,hj10⟩:=bindS hj10
            refine q_callg (vs:=[s31.v,s35.v]) hF hS (wanted_t hF rfl rfl rfl hc13) Try.func47 (by kernel_rfl) rfl rfl rfl (c_laws_sameLists t_28.1 t_33.1 t_36 ht_36 _ m37 hv37 s31 (((h31.mono hm32.le).mono hm34.le).froz hl37 (hz37 1 _ rfl)) s35 (h35.froz hl37 (hz37 0 _ rfl))) ?_
            rintro a w _ rfl hF hS
            refine q_xg (v:=(.bool (!t_36))) hF hS (ex_not rfl) (wanted_t hF rfl rfl rfl hc13) rfl fun a hF=>q_x (v:=(.bool (!t_36))) hF hS (ex_pick_f rfl rfl hc13) rfl rfl fun a hF=>q_x (v:=(.bool (!t_36))) hF hS (ex_move rfl) rfl rfl fun a hF=>?_
            rcases bcase (!t_36) with hc14 | hc14
            ·have hj10:=cond_f hc14 hj10
             refine q_xg (v:=(.bool t_33.2)) hF hS (ex_move rfl) (wanted_t hF rfl rfl rfl hc14) rfl fun a hF=>q_xg (v:=(.bool t_33.2)) hF hS (ex_move rfl) (wanted_t hF rfl rfl rfl hc14) rfl fun a hF=>?_
             rcases bcase (t_33.2) with hc15 | hc15
             ·have hj10:=cond_f hc15 hj10
              refine q_skip hF (wanted_f hF rfl rfl rfl hc15 rfl) rfl fun a hF=>q_skip hF (wanted_f hF rfl rfl rfl hc15 rfl) rfl fun a hF=>q_skip hF (wanted_f hF rfl rfl rfl hc15 rfl) rfl fun a hF=>q_skip hF (wanted_f hF rfl rfl rfl hc15 rfl) rfl fun a hF=>q_xg (v:=(.bool false)) hF hS (ex_pick_f rfl rfl hc15) (wanted_t hF rfl rfl rfl hc14) rfl fun a hF=>q_x (v:=(.bool false)) hF hS (ex_pick_f rfl rfl hc14) rfl rfl fun a hF=>q_end (n_jn ?_)
              obtain rfl:=someI hj10
              exact ⟨hF.sub ⟨rfl,rfl,trivial⟩,hS.mask [false,false,false]⟩
             ·have hj10:=cond_t hc15 hj10
              refine q_xg (v:=s14.v) hF hS (ex_move rfl) (wanted_t hF rfl rfl rfl hc15) rfl fun a hF=>q_xg (v:=s35.v) hF hS (ex_move rfl) (wanted_t hF rfl rfl rfl hc15) rfl fun a hF=>?_
              obtain ⟨m39,hl39,hv39,hz39⟩:=hS.lend
              obtain ⟨t_38,ht_38,hj10⟩:=bindS hj10
              refine q_callg (vs:=[s14.v,s35.v]) hF hS (wanted_t hF rfl rfl rfl hc15) Try.func51 (by kernel_rfl) rfl rfl rfl (c_laws_pBefore t_11.1 t_33.1 t_38 ht_38 _ m39 hv39 s14 ((h32.mono hm34.le).mono hl39) s35 (h35.froz hl39 (hz39 0 _ rfl))) ?_
              rintro a w _ rfl hF hS
              refine q_xg (v:=(.bool (!t_38))) hF hS (ex_not rfl) (wanted_t hF rfl rfl rfl hc15) rfl fun a hF=>q_xg (v:=(.bool (!t_38))) hF hS (ex_pick_t rfl rfl hc15) (wanted_t hF rfl rfl rfl hc14) rfl fun a hF=>q_x (v:=(.bool (!t_38))) hF hS (ex_pick_f rfl rfl hc14) rfl rfl fun a hF=>q_end (n_jn ?_)
              obtain rfl:=someI hj10
              exact ⟨hF.sub ⟨rfl,rfl,trivial⟩,hS.mask [false,false,false]⟩
            ·have hj10:=cond_t hc14 hj10
             refine q_skip hF (wanted_f hF rfl rfl rfl hc14 rfl) rfl fun a hF=>q_skip hF (wanted_f hF rfl rfl rfl hc14 rfl) rfl fun a hF=>q_skip hF (wanted_u hF rfl rfl rfl) rfl fun a hF=>q_skip hF (wanted_u hF rfl rfl rfl) rfl fun a hF=>q_skip hF (wanted_u hF rfl rfl rfl) rfl fun a hF=>q_skip hF (wanted_u hF rfl rfl rfl) rfl fun a hF=>q_skip hF (wanted_f hF rfl rfl rfl hc14 rfl) rfl fun a hF=>q_x (v:=(.bool true)) hF hS (ex_pick_t rfl rfl hc14) rfl rfl fun a hF=>q_end (n_jn ?_)
             obtain rfl:=someI hj10
             exact ⟨hF.sub ⟨rfl,rfl,trivial⟩,hS.mask [false,false,false]⟩
           ·have hj10:=cond_t hc13 hj10
            refine q_skip hF (wanted_f hF rfl rfl rfl hc13 rfl) rfl fun a hF=>q_skip hF (wanted_f hF rfl rfl rfl hc13 rfl) rfl fun a hF=>q_skip hF (wanted_f hF rfl rfl rfl hc13 rfl) rfl fun a hF=>q_skip hF (wanted_f hF rfl rfl rfl hc13 rfl) rfl fun a hF=>q_x (v:=(.bool true)) hF hS (ex_pick_t rfl rfl hc13) rfl rfl fun a hF=>q_x (v:=(.bool true)) hF hS (ex_move rfl) rfl rfl fun a hF=>q_skip hF (wanted_f hF rfl rfl rfl rfl rfl) rfl fun a hF=>q_skip hF (wanted_f hF rfl rfl rfl rfl rfl) rfl fun a hF=>q_skip hF (wanted_u hF rfl rfl rfl) rfl fun a hF=>q_skip hF (wanted_u hF rfl rfl rfl) rfl fun a hF=>q_skip hF (wanted_u hF rfl rfl rfl) rfl fun a hF=>q_skip hF (wanted_u hF rfl rfl rfl) rfl fun a hF=>q_skip hF (wanted_f hF rfl rfl rfl rfl rfl) rfl fun a hF=>q_x (v:=(.bool true)) hF hS (ex_pick_t rfl rfl rfl) rfl rfl fun a hF=>q_end (n_jn ?_)
            obtain rfl:=someI hj10
            exact ⟨hF.sub ⟨rfl,rfl,trivial⟩,hS.mask [false,false,false]⟩
          ·have hj10:=cond_t hc12 hj10
           refine q_skip hF (wanted_f hF rfl rfl rfl hc12 rfl) rfl fun a hF=>q_skip hF (wanted_f hF rfl rfl rfl hc12 rfl) rfl fun a hF=>q_skip hF (wanted_f hF rfl rfl rfl hc12 rfl) rfl fun a hF=>q_x (v:=(.bool true)) hF hS (ex_pick_t rfl rfl hc12) rfl rfl fun a hF=>q_x (v:=(.bool true)) hF hS (ex_move rfl) rfl rfl fun a hF=>q_skip hF (wanted_f hF rfl rfl rfl rfl rfl) rfl fun a hF=>q_skip hF (wanted_f hF rfl rfl rfl rfl rfl) rfl fun a hF=>q_skip hF (wanted_f hF rfl rfl rfl rfl rfl) rfl fun a hF=>q_skip hF (wanted_f hF rfl rfl rfl rfl rfl) rfl fun a hF=>q_x (v:=(.bool true)) hF hS (ex_pick_t rfl rfl rfl) rfl rfl fun a hF=>q_x (v:=(.bool true)) hF hS (ex_move rfl) rfl rfl fun a hF=>q_skip hF (wanted_f hF rfl rfl rfl rfl rfl) rfl fun a hF=>q_skip hF (wanted_f hF rfl rfl rfl rfl rfl) rfl fun a hF=>q_skip hF (wanted_u hF rfl rfl rfl) rfl fun a hF=>q_skip hF (wanted_u hF rfl rfl rfl) rfl fun a hF=>q_skip hF (wanted_u hF rfl rfl rfl) rfl fun a hF=>q_skip hF (wanted_u hF rfl rfl rfl) rfl fun a hF=>q_skip hF (wanted_f hF rfl rfl rfl rfl rfl) rfl fun a hF=>q_x (v:=(.bool true)) hF hS (ex_pick_t rfl rfl rfl) rfl rfl fun a hF=>q_end (n_jn ?_)
           obtain rfl:=someI hj10
           exact ⟨hF.sub ⟨rfl,rfl,trivial⟩,hS.mask [false,false,false]⟩
         ·have hj10:=cond_t hc11 hj10
          refine q_skip hF (wanted_f hF rfl rfl rfl hc11 rfl) rfl fun a hF=>q_skip hF (wanted_f hF rfl rfl rfl hc11 rfl) rfl fun a hF=>q_x (v:=(.bool true)) hF hS (ex_pick_t rfl rfl hc11) rfl rfl fun a hF=>q_x (v:=(.bool true)) hF hS (ex_move rfl) rfl rfl fun a hF=>q_skip hF (wanted_f hF rfl rfl rfl rfl rfl) rfl fun a hF=>q_skip hF (wanted_f hF rfl rfl rfl rfl rfl) rfl fun a hF=>q_skip hF (wanted_f hF rfl rfl rfl rfl rfl) rfl fun a hF=>q_x (v:=(.bool true)) hF hS (ex_pick_t rfl rfl rfl) rfl rfl fun a hF=>q_x (v:=(.bool true)) hF hS (ex_move rfl) rfl rfl fun a hF=>q_skip hF (wanted_f hF rfl rfl rfl rfl rfl) rfl fun a hF=>q_skip hF (wanted_f hF rfl rfl rfl rfl rfl) rfl fun a hF=>q_skip hF (wanted_f hF rfl rfl rfl rfl rfl) rfl fun a hF=>q_skip hF (wanted_f hF rfl rfl rfl rfl rfl) rfl fun a hF=>q_x (v:=(.bool true)) hF hS (ex_pick_t rfl rfl rfl) rfl rfl fun a hF=>q_x (v:=(.bool true)) hF hS (ex_move rfl) rfl rfl fun a hF=>q_skip hF (wanted_f hF rfl rfl rfl rfl rfl) rfl fun a hF=>q_skip hF (wanted_f hF rfl rfl rfl rfl rfl) rfl fun a hF=>q_skip hF (wanted_u hF rfl rfl rfl) rfl fun a hF=>q_skip hF (wanted_u hF rfl rfl rfl) rfl fun a hF=>q_skip hF (wanted_u hF rfl rfl rfl) rfl fun a hF=>q_skip hF (wanted_u hF rfl rfl rfl) rfl fun a hF=>q_skip hF (wanted_f hF rfl rfl rfl rfl rfl) rfl fun a hF=>q_x (v:=(.bool true)) hF hS (ex_pick_t rfl rfl rfl) rfl rfl fun a hF=>q_end (n_jn ?_)
          obtain rfl:=someI hj10
          exact ⟨hF.sub ⟨rfl,rfl,trivial⟩,hS.mask [false,false,false]⟩
        ·rintro a w ⟨hF,hS⟩
         refine n_sq ?_
         rcases bcase (t_40) with hc16 | hc16
         ·have hj8:=cond_f hc16 hj8
          refine q_cond_f hF rfl hc16 (q_skipc (n_jn ?_))
          obtain rfl:=someI hj8
          exact ⟨m34,rfl,hF.sub ⟨rfl,trivial⟩,hS,(hm32.trans hm34)⟩
         ·have hj8:=cond_t hc16 hj8
          refine q_cond_t hF rfl hc16 (q_seq (q_region (q_x (v:=(.bool false)) hF hS (ex_assign rfl) rfl rfl fun a hF=>q_end (n_sq (q_ret (r_jn ?_))))))
          obtain rfl:=someI hj8
          refine r_sq ?_
          obtain rfl:=someI hr
          exact ret_of hF hS rfl (.tmp rfl .nil) rfl
      ·rintro a w ⟨m41,rfl,hF,hS,hm41⟩
       refine n_sq ?_
       refine q_seq (q_region (q_x (v:=s2.v) hF hS (ex_move rfl) rfl rfl fun a hF=>?_))
       obtain ⟨t_42,ht_42,hr⟩:=bindS hr
       refine q_call (vs:=[s2.v]) hF hS Try.func52 (by kernel_rfl) rfl rfl rfl (c_spec_DrawFindCut p_more t_42 ht_42 _ m41 hS.vis s2 ((((((h2.mono hm5.le).mono hm15.le).mono hm16.le).mono hm17.le).mono hm19.le).mono hm41.le)) ?_
       have hT:=hS
       rintro a w _ ⟨m43,q44,q45,q47,s44,s45,s46,s47,rfl,hm43,hR43,h44,h45,h46,h47⟩ hF hS2
       have hS : St _ _ _ _ [q44,q45,q47]:=hS.join hR43 hm43
       have hm43:=MLe.weakX (O0:=[]) hT hm43
       refine q_alloc (cs:=[nilS.v,nilS.v,nilS.v,nilS.v]) hF hS rfl rfl rfl fun a w b48 hF hS=>q_store (vs:=[s44.v,s45.v,s46.v,s47.v]) (cs':=[s44.v,s45.v,s46.v,s47.v]) 0 0 hF hS sz50 rfl rfl rfl rfl rfl rfl rfl rfl fun a w hF hS=>q_end (n_sq (q_seq (q_region (q_x (v:=(.agg #[s44.v,s45.v,s46.v,s47.v])) hF hS (ex_loadA (vs:=[s44.v,s45.v,s46.v,s47.v]) 0 0 Try.underlying50 rfl sz50 rfl rfl rfl rfl) rfl rfl fun a hF=>?_))))
       obtain ⟨m50,hl50,hv50,hz50⟩:=hS.lend
       obtain ⟨t_49,ht_49,hr⟩:=bindS hr
       refine q_call (vs:=[(.agg #[s44.v,s45.v,s46.v,s47.v])]) hF hS Try.func53 (by kernel_rfl) rfl rfl rfl (c_impl_FindCut t_42 t_49 ht_49 _ m50 hv50 s44 (h44.froz hl50 (hz50 1 _ rfl)) s45 (h45.froz hl50 (hz50 2 _ rfl)) s46 (h46.mono hl50) s47 (h47.froz hl50 (hz50 3 _ rfl))) ?_
       rintro a w _ ⟨q52,q53,s52,s53,rfl,hR51,h52,h53⟩ hF hS2
       have hS : St _ _ _ _ [q52,q53,[⟨b48,[s44.v,s45.v,s46.v,s47.v],50⟩],q44,q45,q47]:=hS.joinF hR51
       have h52:=h52.any m43
       have h53:=h53.any m43
       refine q_x (v:=(.tuple #[s52.v,s53.v,(.bool t_49.2.2)])) hF hS (ex_move rfl) rfl rfl fun a hF=>q_x (v:=s52.v) hF hS (ex_extract rfl rfl) rfl rfl fun a hF=>q_x (v:=s53.v) hF hS (ex_extract rfl rfl) rfl rfl fun a hF=>q_x (v:=(.bool t_49.2.2)) hF hS (ex_extract rfl rfl) rfl rfl fun a hF=>q_x (v:=s52.v) hF hS (ex_assign rfl) rfl rfl fun a hF=>q_x (v:=s53.v) hF hS (ex_assign rfl) rfl rfl fun a hF=>q_x (v:=(.bool t_49.2.2)) hF hS (ex_assign rfl) rfl rfl fun a hF=>q_end (n_sq (q_seq (q_region (q_x (v:=(.agg #[s44.v,s45.v,s46.v,s47.v])) hF hS (ex_loadA (vs:=[s44.v,s45.v,s46.v,s47.v]) 2 0 Try.underlying50 rfl sz50 rfl rfl rfl rfl) rfl rfl fun a hF=>?_))))
       obtain ⟨m55,hl55,hv55,hz55⟩:=hS.lend
       obtain ⟨t_54,ht_54,hr⟩:=bindS hr
       refine q_call (vs:=[(.agg #[s44.v,s45.v,s46.v,s47.v])]) hF hS Try.func54 (by kernel_rfl) rfl rfl rfl (c_spec_FindCut t_42 t_54 ht_54 _ m55 hv55 s44 (h44.froz hl55 (hz55 3 _ rfl)) s45 (h45.froz hl55 (hz55 4 _ rfl)) s46 (h46.mono hl55) s47 (h47.froz hl55 (hz55 5 _ rfl))) ?_
       rintro a w _ ⟨q57,q58,s57,s58,rfl,hR56,h57,h58⟩ hF hS2
       have hS : St _ _ _ _ [q57,q58,q52,q53,[⟨b48,[s44.v,s45.v,s46.v,s47.v],50⟩],q44,q45,q47]:=hS.joinF hR56
       have h57:=h57.any m43
       have h58:=h58.any m43
       refine q_x (v:=(.tuple #[s57.v,s58.v,(.bool t_54.2.2)])) hF hS (ex_move rfl) rfl rfl fun a hF=>q_x (v:=s57.v) hF hS (ex_extract rfl rfl) rfl rfl fun a hF=>q_x (v:=s58.v) hF hS (ex_extract rfl rfl) rfl rfl fun a hF=>q_x (v:=(.bool t_54.2.2)) hF hS (ex_extract rfl rfl) rfl rfl fun a hF=>q_x (v:=s57.v) hF hS (ex_assign rfl) rfl rfl fun a hF=>q_x (v:=s58.v) hF hS (ex_assign rfl) rfl rfl fun a hF=>q_x (v:=(.bool t_54.2.2)) hF hS (ex_assign rfl) rfl rfl fun a hF=>q_end (n_sq (q_seq (q_seq ?_)))
       obtain ⟨t_63,hj17,hr⟩:=bindS hr
       refine q_join (fun a w=>Fr a 176 [(18,(.pointer (some ⟨b48,0,none⟩))),(19,s52.v),(20,s53.v),(21,(.bool t_49.2.2)),(137,(.bool t_63))]∧St [] w0 w m43 [q52,q53,q44,q45,q47,[⟨b48,[s44.v,s45.v,s46.v,s47.v],50⟩]]) ?_ ?_
       ·refine q_region (q_x (v:=(.bool t_49.2.2)) hF hS (ex_move rfl) rfl rfl fun a hF=>q_x (v:=(.bool t_54.2.2)) hF hS (ex_move rfl) rfl rfl fun a hF=>q_x (v:=(.bool (t_49.2.2 != t_54.2.2))) hF hS (ex_bne Try.underlying4 rfl rfl) rfl rfl fun a hF=>q_x (v:=(.bool (t_49.2.2 != t_54.2.2))) hF hS (ex_move rfl) rfl rfl fun a hF=>?_)
        rcases bcase (t_49.2.2 != t_54.2.2) with hc18 | hc18
        ·have hj17:=cond_f hc18 hj17
         refine q_xg (v:=s52.v) hF hS (ex_move rfl) (wanted_t hF rfl rfl rfl hc18) rfl fun a hF=>q_xg (v:=s57.v) hF hS (ex_move rfl) (wanted_t hF rfl rfl rfl hc18) rfl fun a hF=>?_
         obtain ⟨m60,hl60,hv60,hz60⟩:=hS.lend
         obtain ⟨t_59,ht_59,hj17⟩:=bindS hj17
         refine q_callg (vs:=[s52.v,s57.v]) hF hS (wanted_t hF rfl rfl rfl hc18) Try.func55 (by kernel_rfl) rfl rfl rfl (c_laws_sameInts t_49.1 t_54.1 t_59 ht_59 _ m60 hv60 s52 (h52.froz hl60 (hz60 2 _ rfl)) s57 (h57.froz hl60 (hz60 0 _ rfl))) ?_
         rintro a w _ rfl hF hS
         refine q_xg (v:=(.bool (!t_59))) hF hS (ex_not rfl) (wanted_t hF rfl rfl rfl hc18) rfl fun a hF=>q_x (v:=(.bool (!t_59))) hF hS (ex_pick_f rfl rfl hc18) rfl rfl fun a hF=>q_x (v:=(.bool (!t_59))) hF hS (ex_move rfl) rfl rfl fun a hF=>?_
         rcases bcase (!t_59) with hc19 | hc19
         ·have hj17:=cond_f hc19 hj17
          refine q_xg (v:=s53.v) hF hS (ex_move rfl) (wanted_t hF rfl rfl rfl hc19) rfl fun a hF=>q_xg (v:=s58.v) hF hS (ex_move rfl) (wanted_t hF rfl rfl rfl hc19) rfl fun a hF=>?_
          obtain ⟨m62,hl62,hv62,hz62⟩:=hS.lend
          obtain ⟨t_61,ht_61,hj17⟩:=bindS hj17
          refine q_callg (vs:=[s53.v,s58.v]) hF hS (wanted_t hF rfl rfl rfl hc19) Try.func55 (by kernel_rfl) rfl rfl rfl (c_laws_sameInts t_49.2.1 t_54.2.1 t_61 ht_61 _ m62 hv62 s53 (h53.froz hl62 (hz62 3 _ rfl)) s58 (h58.froz hl62 (hz62 1 _ rfl))) ?_
          rintro a w _ rfl hF hS
          refine q_xg (v:=(.bool (!t_61))) hF hS (ex_not rfl) (wanted_t hF rfl rfl rfl hc19) rfl fun a hF=>q_x (v:=(.bool (!t_61))) hF hS (ex_pick_f rfl rfl hc19) rfl rfl fun a hF=>q_end (n_jn ?_)
          obtain rfl:=someI hj17
          exact ⟨hF.sub ⟨rfl,rfl,rfl,rfl,rfl,trivial⟩,hS.sel [2,3,5,6,7,4] (by decide)⟩
         ·have hj17:=cond_t hc19 hj17
          refine q_skip hF (wanted_f hF rfl rfl rfl hc19 rfl) rfl fun a hF=>q_skip hF (wanted_f hF rfl rfl rfl hc19 rfl) rfl fun a hF=>q_skip hF (wanted_f hF rfl rfl rfl hc19 rfl) rfl fun a hF=>q_skip hF (wanted_f hF rfl rfl rfl hc19 rfl) rfl fun a hF=>q_x (v:=(.bool true)) hF hS (ex_pick_t rfl rfl hc19) rfl rfl fun a hF=>q_end (n_jn ?_)
          obtain rfl:=someI hj17
          exact ⟨hF.sub ⟨rfl,rfl,rfl,rfl,rfl,trivial⟩,hS.sel [2,3,5,6,7,4] (by decide)⟩
        ·have hj17:=cond_t hc18 hj17
         refine q_skip hF (wanted_f hF rfl rfl rfl hc18 rfl) rfl fun a hF=>q_skip hF (wanted_f hF rfl rfl rfl hc18 rfl) rfl fun a hF=>q_skip hF (wanted_f hF rfl rfl rfl hc18 rfl) rfl fun a hF=>q_skip hF (wanted_f hF rfl rfl rfl hc18 rfl) rfl fun a hF=>q_x (v:=(.bool true)) hF hS (ex_pick_t rfl rfl hc18) rfl rfl fun a hF=>q_x (v:=(.bool true)) hF hS (ex_move rfl) rfl rfl fun a hF=>q_skip hF (wanted_f hF rfl rfl rfl rfl rfl) rfl fun a hF=>q_skip hF (wanted_f hF rfl rfl rfl rfl rfl) rfl fun a hF=>q_skip hF (wanted_f hF rfl rfl rfl rfl rfl) rfl fun a hF=>q_skip hF (wanted_f hF rfl rfl rfl rfl rfl) rfl fun a hF=>q_x (v:=(.bool true)) hF hS (ex_pick_t rfl rfl rfl) rfl rfl fun a hF=>q_end (n_jn ?_)
         obtain rfl:=someI hj17
         exact ⟨hF.sub ⟨rfl,rfl,rfl,rfl,rfl,trivial⟩,hS.sel [2,3,5,6,7,4] (by decide)⟩
       ·rintro a w ⟨hF,hS⟩
        refine n_sq ?_
        rcases bcase (t_63) with hc20 | hc20
        ·have hr:=cond_f hc20 hr
         refine q_cond_f hF rfl hc20 (q_skipc (n_sq (q_seq (q_region (q_x (v:=(.agg #[s44.v,s45.v,s46.v,s47.v])) hF hS (ex_loadA (vs:=[s44.v,s45.v,s46.v,s47.v]) 5 0 Try.underlying50 rfl sz50 rfl rfl rfl rfl) rfl rfl fun a hF=>?_)))))
         obtain ⟨m65,hl65,hv65,hz65⟩:=hS.lend
         obtain ⟨t_64,ht_64,hr⟩:=bindS hr
         refine q_call (vs:=[(.agg #[s44.v,s45.v,s46.v,s47.v])]) hF hS Try.func48 (by kernel_rfl) rfl rfl rfl (c_impl_HasFlow t_42 t_64 ht_64 _ m65 hv65 s44 (h44.froz hl65 (hz65 2 _ rfl)) s45 (h45.froz hl65 (hz65 3 _ rfl)) s46 (h46.mono hl65) s47 (h47.froz hl65 (hz65 4 _ rfl))) ?_
         rintro a w _ rfl hF hS
         refine q_x (v:=(.tuple #[(.bool t_64.1),(.bool t_64.2)])) hF hS (ex_move rfl) rfl rfl fun a hF=>q_x (v:=(.bool t_64.1)) hF hS (ex_extract rfl rfl) rfl rfl fun a hF=>q_x (v:=(.bool t_64.2)) hF hS (ex_extract rfl rfl) rfl rfl fun a hF=>q_x (v:=(.bool t_64.1)) hF hS (ex_assign rfl) rfl rfl fun a hF=>q_x (v:=(.bool t_64.2)) hF hS (ex_assign rfl) rfl rfl fun a hF=>q_end (n_sq (q_seq (q_seq (q_region (q_x (v:=(.bool t_49.2.2)) hF hS (ex_move rfl) rfl rfl fun a hF=>q_end (n_sq ?_))))))
         rcases bcase (t_49.2.2) with hc21 | hc21
         ·have hr:=cond_f hc21 hr
          refine q_cond_f hF rfl hc21 (q_skipc (n_sq (q_seq ?_)))
          obtain ⟨t_74,hj22,hr⟩:=bindS hr
          refine q_join (fun a w=>Fr a 176 [(4,(.bool t_74))]∧St [] w0 w m43 []) ?_ ?_
          ·refine e_region ⟨[],[],m43⟩ mixed fun w' hw'=>?_
           have hS:=hS.below hw'
           refine e_p (v:=(.bool t_64.2)) 0 hF rfl (ex_move rfl) rfl rfl (by kernel_rfl) (by kernel_rfl) (by kernel_rfl) fun a hF=>e_p (v:=(.bool (!t_64.2))) 1 hF rfl (ex_not rfl) rfl rfl (by kernel_rfl) (by kernel_rfl) (by kernel_rfl) fun a hF=>e_p (v:=(.bool (!t_64.2))) 2 hF rfl (ex_move rfl) rfl rfl (by kernel_rfl) (by kernel_rfl) (by kernel_rfl) fun a hF=>?_
           rcases bcase (!t_64.2) with hc23 | hc23
           ·have hj22:=cond_f hc23 hj22
            refine e_pg (v:=(.bool t_64.1)) 3 hF rfl (ex_move rfl) (wanted_t hF rfl rfl rfl hc23) rfl (by kernel_rfl) (by kernel_rfl) (by kernel_rfl) fun a hF=>e_p (v:=(.bool t_64.1)) 4 hF rfl (ex_pick_f rfl rfl hc23) rfl rfl (by kernel_rfl) (by kernel_rfl) (by kernel_rfl) fun a hF=>e_p (v:=(.bool t_64.1)) 5 hF rfl (ex_move rfl) rfl rfl (by kernel_rfl) (by kernel_rfl) (by kernel_rfl) fun a hF=>?_
            rcases bcase (t_64.1) with hc24 | hc24
            ·have hj22:=cond_f hc24 hj22
             refine e_pg (v:=(.pointer (some ⟨b48,0,none⟩))) 6 hF rfl (ex_fieldAddr Try.underlying50 rfl sz28 rfl rfl) (wanted_t hF rfl rfl rfl hc24) rfl (by kernel_rfl) (by kernel_rfl) (by kernel_rfl) fun a hF=>e_xg (v:=s44.v) 7 hF hS rfl (ex_load1 5 0 Try.underlying28 rfl rfl rfl rfl) (wanted_t hF rfl rfl rfl hc24) rfl (by kernel_rfl) (by kernel_rfl) (by kernel_rfl) (by kernel_rfl) fun a hF=>e_pg (v:=(.pointer (some ⟨b48,1,none⟩))) 9 hF rfl (ex_fieldAddr Try.underlying50 rfl sz28 rfl rfl) (wanted_t hF rfl rfl rfl hc24) rfl (by kernel_rfl) (by kernel_rfl) (by kernel_rfl) fun a hF=>e_xg (v:=s45.v) 10 hF hS rfl (ex_load1 5 0 Try.underlying28 rfl rfl rfl rfl) (wanted_t hF rfl rfl rfl hc24) rfl (by kernel_rfl) (by kernel_rfl) (by kernel_rfl) (by kernel_rfl) fun a hF=>e_one 8 (by kernel_rfl) ?_
             obtain ⟨m71,hl71,hv71,hz71⟩:=hS.lend
             obtain ⟨t_70,ht_70,hj22⟩:=bindS hj22
             refine e_callg (vs:=[s44.v]) hF hS rfl (wanted_t hF rfl rfl rfl hc24) Try.func57 (by kernel_rfl) rfl rfl rfl (c_laws_pSum t_42.Rows t_70 ht_70 _ m71 hv71 s44 (h44.froz hl71 (hz71 2 _ rfl))) ?_
             rintro a w _ rfl hF hS
             refine e_one 11 (by kernel_rfl) ?_
             obtain ⟨m73,hl73,hv73,hz73⟩:=hS.lend
             obtain ⟨t_72,ht_72,hj22⟩:=bindS hj22
             refine e_callg (vs:=[s45.v]) hF hS rfl (wanted_t hF rfl rfl rfl hc24) Try.func57 (by kernel_rfl) rfl rfl rfl (c_laws_pSum t_42.Cols t_72 ht_72 _ m73 hv73 s45 (h45.froz hl73 (hz73 3 _ rfl))) ?_
             rintro a w _ rfl hF hS
             refine e_pg (v:=(.bool (t_70 != t_72))) 12 hF rfl (ex_ibin rfl rfl rfl) (wanted_t hF rfl rfl rfl hc24) rfl (by kernel_rfl) (by kernel_rfl) (by kernel_rfl) fun a hF=>e_p (v:=(.bool (t_70 != t_72))) 13 hF rfl (ex_pick_f rfl rfl hc24) rfl rfl (by kernel_rfl) (by kernel_rfl) (by kernel_rfl) fun a hF=>e_p (v:=(.bool (t_70 != t_72))) 14 hF rfl (ex_assign rfl) rfl rfl (by kernel_rfl) (by kernel_rfl) (by kernel_rfl) fun a hF=>e_end (by kernel_rfl) (n_jn ?_) _
             obtain rfl:=someI hj22
             exact ⟨hF.sub ⟨rfl,trivial⟩,hS.mask [false,false,false,false,false,false]⟩
            ·have hj22:=cond_t hc24 hj22
             refine e_skipP 6 hF rfl (wanted_f hF rfl rfl rfl hc24 rfl) rfl (by kernel_rfl) (by kernel_rfl) (by kernel_rfl) fun a hF=>e_skipP 7 hF rfl (wanted_f hF rfl rfl rfl hc24 rfl) rfl (by kernel_rfl) (by kernel_rfl) (by kernel_rfl) fun a hF=>e_skipP 8 hF rfl (wanted_f hF rfl rfl rfl hc24 rfl) rfl (by kernel_rfl) (by kernel_rfl) (by kernel_rfl) fun a hF=>e_skipP 9 hF rfl (wanted_f hF rfl rfl rfl hc24 rfl) rfl (by kernel_rfl) (by kernel_rfl) (by kernel_rfl) fun a hF=>e_skipP 10 hF rfl (wanted_f hF rfl rfl rfl hc24 rfl) rfl (by kernel_rfl) (by kernel_rfl) (by kernel_rfl) fun a hF=>e_skipP 11 hF rfl (wanted_f hF rfl rfl rfl hc24 rfl) rfl (by kernel_rfl) (by kernel_rfl) (by kernel_rfl) fun a hF=>e_skipP 12 hF rfl (wanted_f hF rfl rfl rfl hc24 rfl) rfl (by kernel_rfl) (by kernel_rfl) (by kernel_rfl) fun a hF=>e_p (v:=(.bool true)) 13 hF rfl (ex_pick_t rfl rfl hc24) rfl rfl (by kernel_rfl) (by kernel_rfl) (by kernel_rfl) fun a hF=>e_p (v:=(.bool true)) 14 hF rfl (ex_assign rfl) rfl rfl (by kernel_rfl) (by kernel_rfl) (by kernel_rfl) fun a hF=>e_end (by kernel_rfl) (n_jn ?_) _
             obtain rfl:=someI hj22
             exact ⟨hF.sub ⟨rfl,trivial⟩,hS.mask [false,false,false,false,false,false]⟩
           ·have hj22:=cond_t hc23 hj22
            refine e_skipP 3 hF rfl (wanted_f hF rfl rfl rfl hc23 rfl) rfl (by kernel_rfl) (by kernel_rfl) (by kernel_rfl) fun a hF=>e_p (v:=(.bool true)) 4 hF rfl (ex_pick_t rfl rfl hc23) rfl rfl (by kernel_rfl) (by kernel_rfl) (by kernel_rfl) fun a hF=>e_p (v:=(.bool true)) 5 hF rfl (ex_move rfl) rfl rfl (by kernel_rfl) (by kernel_rfl) (by kernel_rfl) fun a hF=>e_skipP 6 hF rfl (wanted_f hF rfl rfl rfl rfl rfl) rfl (by kernel_rfl) (by kernel_rfl) (by kernel_rfl) fun a hF=>e_skipP 7 hF rfl (wanted_f hF rfl rfl rfl rfl rfl) rfl (by kernel_rfl) (by kernel_rfl) (by kernel_rfl) fun a hF=>e_skipP 8 hF rfl (wanted_f hF rfl rfl rfl rfl rfl) rfl (by kernel_rfl) (by kernel_rfl) (by kernel_rfl) fun a hF=>e_skipP 9 hF rfl (wanted_f hF rfl rfl rfl rfl rfl) rfl (by kernel_rfl) (by kernel_rfl) (by kernel_rfl) fun a hF=>e_skipP 10 hF rfl (wanted_f hF rfl rfl rfl rfl rfl) rfl (by kernel_rfl) (by kernel_rfl) (by kernel_rfl) fun a hF=>e_skipP 11 hF rfl (wanted_f hF rfl rfl rfl rfl rfl) rfl (by kernel_rfl) (by kernel_rfl) (by kernel_rfl) fun a hF=>e_skipP 12 hF rfl (wanted_f hF rfl rfl rfl rfl rfl) rfl (by kernel_rfl) (by kernel_rfl) (by kernel_rfl) fun a hF=>e_p (v:=(.bool true)) 13 hF rfl (ex_pick_t rfl rfl rfl) rfl rfl (by kernel_rfl) (by kernel_rfl) (by kernel_rfl) fun a hF=>e_p (v:=(.bool true)) 14 hF rfl (ex_assign rfl) rfl rfl (by kernel_rfl) (by kernel_rfl) (by kernel_rfl) fun a hF=>e_end (by kernel_rfl) (n_jn ?_) _
            obtain rfl:=someI hj22
            exact ⟨hF.sub ⟨rfl,trivial⟩,hS.mask [false,false,false,false,false,false]⟩
          ·rintro a w ⟨hF,hS⟩
           refine n_sq (q_ret ?_)
           obtain rfl:=someI hr
           exact ret_of hF hS rfl (.tmp rfl .nil) rfl
         ·have hr:=cond_t hc21 hr
          refine q_cond_t hF rfl hc21 (q_seq (q_region (q_x (v:=(.agg #[s44.v,s45.v,s46.v,s47.v])) hF hS (ex_loadA (vs:=[s44.v,s45.v,s46.v,s47.v]) 5 0 Try.underlying50 rfl sz50 rfl rfl rfl rfl) rfl rfl fun a hF=>q_x (v:=s52.v) hF hS (ex_move rfl) rfl rfl fun a hF=>q_x (v:=s53.v) hF hS (ex_move rfl) rfl rfl fun a hF=>?_)))
          obtain ⟨m67,hl67,hv67,hz67⟩:=hS.lend
          obtain ⟨t_66,ht_66,hr⟩:=bindS hr
          refine q_call (vs:=[(.agg #[s44.v,s45.v,s46.v,s47.v]),s52.v,s53.v]) hF hS Try.func56 (by kernel_rfl) rfl rfl rfl (c_impl_CheckCut t_42 t_49.1 t_49.2.1 t_66 ht_66 _ m67 hv67 s44 (h44.froz hl67 (hz67 2 _ rfl)) s45 (h45.froz hl67 (hz67 3 _ rfl)) s46 (h46.mono hl67) s47 (h47.froz hl67 (hz67 4 _ rfl)) s52 (h52.froz hl67 (hz67 0 _ rfl)) s53 (h53.froz hl67 (hz67 1 _ rfl))) ?_
          rintro a w _ rfl hF hS
          refine q_x (v:=(.tuple #[(.bool t_66.1),(.bool t_66.2)])) hF hS (ex_move rfl) rfl rfl fun a hF=>q_x (v:=(.bool t_66.1)) hF hS (ex_extract rfl rfl) rfl rfl fun a hF=>q_x (v:=(.bool t_66.2)) hF hS (ex_extract rfl rfl) rfl rfl fun a hF=>q_x (v:=(.bool t_66.1)) hF hS (ex_assign rfl) rfl rfl fun a hF=>q_x (v:=(.bool t_66.2)) hF hS (ex_assign rfl) rfl rfl fun a hF=>q_end (n_sq (q_seq ?_))
          obtain ⟨t_68,hj25,hr⟩:=bindS hr
          refine q_join (fun a w=>Fr a 176 [(4,(.bool t_68))]∧St [] w0 w m43 []) ?_ ?_
          ·refine q_region (q_x (v:=(.bool t_64.2)) hF hS (ex_move rfl) rfl rfl fun a hF=>q_x (v:=(.bool t_64.2)) hF hS (ex_move rfl) rfl rfl fun a hF=>?_)
           rcases bcase (t_64.2) with hc26 | hc26
           ·have hj25:=cond_f hc26 hj25
            refine q_skip hF (wanted_f hF rfl rfl rfl hc26 rfl) rfl fun a hF=>q_skip hF (wanted_f hF rfl rfl rfl hc26 rfl) rfl fun a hF=>q_x (v:=(.bool false)) hF hS (ex_pick_f rfl rfl hc26) rfl rfl fun a hF=>q_x (v:=(.bool false)) hF hS (ex_move rfl) rfl rfl fun a hF=>q_skip hF (wanted_f hF rfl rfl rfl rfl rfl) rfl fun a hF=>q_x (v:=(.bool false)) hF hS (ex_pick_f rfl rfl rfl) rfl rfl fun a hF=>q_x (v:=(.bool false)) hF hS (ex_move rfl) rfl rfl fun a hF=>q_skip hF (wanted_f hF rfl rfl rfl rfl rfl) rfl fun a hF=>q_x (v:=(.bool false)) hF hS (ex_pick_f rfl rfl rfl) rfl rfl fun a hF=>q_x (v:=(.bool false)) hF hS (ex_assign rfl) rfl rfl fun a hF=>q_end (n_jn ?_)
            obtain rfl:=someI hj25
            exact ⟨hF.sub ⟨rfl,trivial⟩,hS.mask [false,false,false,false,false,false]⟩
           ·have hj25:=cond_t hc26 hj25
            refine q_xg (v:=(.bool t_64.1)) hF hS (ex_move rfl) (wanted_t hF rfl rfl rfl hc26) rfl fun a hF=>q_xg (v:=(.bool (!t_64.1))) hF hS (ex_not rfl) (wanted_t hF rfl rfl rfl hc26) rfl fun a hF=>q_x (v:=(.bool (!t_64.1))) hF hS (ex_pick_t rfl rfl hc26) rfl rfl fun a hF=>q_x (v:=(.bool (!t_64.1))) hF hS (ex_move rfl) rfl rfl fun a hF=>?_
            rcases bcase (!t_64.1) with hc27 | hc27
            ·have hj25:=cond_f hc27 hj25
             refine q_skip hF (wanted_f hF rfl rfl rfl hc27 rfl) rfl fun a hF=>q_x (v:=(.bool false)) hF hS (ex_pick_f rfl rfl hc27) rfl rfl fun a hF=>q_x (v:=(.bool false)) hF hS (ex_move rfl) rfl rfl fun a hF=>q_skip hF (wanted_f hF rfl rfl rfl rfl rfl) rfl fun a hF=>q_x (v:=(.bool false)) hF hS (ex_pick_f rfl rfl rfl) rfl rfl fun a hF=>q_x (v:=(.bool false)) hF hS (ex_assign rfl) rfl rfl fun a hF=>q_end (n_jn ?_)
             obtain rfl:=someI hj25
             exact ⟨hF.sub ⟨rfl,trivial⟩,hS.mask [false,false,false,false,false,false]⟩
            ·have hj25:=cond_t hc27 hj25
             refine q_xg (v:=(.bool t_66.2)) hF hS (ex_move rfl) (wanted_t hF rfl rfl rfl hc27) rfl fun a hF=>q_x (v:=(.bool t_66.2)) hF hS (ex_pick_t rfl rfl hc27) rfl rfl fun a hF=>q_x (v:=(.bool t_66.2)) hF hS (ex_move rfl) rfl rfl fun a hF=>?_
             rcases bcase (t_66.2) with hc28 | hc28
             ·have hj25:=cond_f hc28 hj25
              refine q_skip hF (wanted_f hF rfl rfl rfl hc28 rfl) rfl fun a hF=>q_x (v:=(.bool false)) hF hS (ex_pick_f rfl rfl hc28) rfl rfl fun a hF=>q_x (v:=(.bool false)) hF hS (ex_assign rfl) rfl rfl fun a hF=>q_end (n_jn ?_)
              obtain rfl:=someI hj25
              exact ⟨hF.sub ⟨rfl,trivial⟩,hS.mask [false,false,false,false,false,false]⟩
             ·have hj25:=cond_t hc28 hj25
              refine q_xg (v:=(.bool t_66.1)) hF hS (ex_move rfl) (wanted_t hF rfl rfl rfl hc28) rfl fun a hF=>q_x (v:=(.bool t_66.1)) hF hS (ex_pick_t rfl rfl hc28) rfl rfl fun a hF=>q_x (v:=(.bool t_66.1)) hF hS (ex_assign rfl) rfl rfl fun a hF=>q_end (n_jn ?_)
              obtain rfl:=someI hj25
              exact ⟨hF.sub ⟨rfl,trivial⟩,hS.mask [false,false,false,false,false,false]⟩
          ·rintro a w ⟨hF,hS⟩
           refine n_sq (q_ret (r_sq ?_))
           obtain rfl:=someI hr
           exact ret_of hF hS rfl (.tmp rfl .nil) rfl
        ·have hr:=cond_t hc20 hr
         refine q_cond_t hF rfl hc20 (q_seq (q_region (q_x (v:=(.bool false)) hF hS (ex_assign rfl) rfl rfl fun a hF=>q_end (n_sq (q_ret (r_sq ?_))))))
         obtain rfl:=someI hr
         exact ret_of hF hS rfl (.tmp rfl .nil) rfl
     ·have hr:=cond_t hc7 hr
      refine q_cond_t hF rfl hc7 (q_seq (q_region (q_x (v:=(.bool false)) hF hS (ex_assign rfl) rfl rfl fun a hF=>q_end (n_sq (q_ret (r_sq ?_))))))
      obtain rfl:=someI hr
      exact ret_of hF hS rfl (.tmp rfl .nil) rfl
   ·have hr:=cond_t hc4 hr
    refine q_cond_t hF rfl hc4 (q_seq (q_region (q_x (v:=(.bool false)) hF hS (ex_assign rfl) rfl rfl fun a hF=>q_end (n_sq (q_ret (r_sq ?_))))))
    obtain rfl:=someI hr
    exact ret_of hF hS rfl (.tmp rfl .nil) rfl
 ·have hr:=cond_t hc1 hr
  refine q_cond_t hF rfl hc1 (q_seq (q_region (q_x (v:=(.bool true)) hF hS (ex_assign rfl) rfl rfl fun a hF=>q_end (n_sq (q_ret (r_sq ?_))))))
  obtain rfl:=someI hr
  exact ret_of hF hS rfl (.tmp rfl .nil) rfl

end Go.Proofs.Ytpjcfmpfiadkgaa
