/- The walks of the functions: each returns what its plain function says. -/
import Derived.Test.YtgaeknajcakinaaGreatDoorWWalks2
namespace Go.Proofs.YtgaeknajcakinaaGreatDoor
open Go.Gx Go.Gx.F Go.RowKit
set_option linter.all false
set_option maxRecDepth 10000


theorem c_impl_depthOf (p_g : impl_Geo) (p_i : Int) (r : Int) (hr : impl_depthOf p_g p_i = some r) (w0 : World) (m : Mem) (hv : Vis m w0) (s1 : Sl) (h1 : Rd m s1 p_g.Parents) :
  Ret Tryz.prog 91 [(.agg #[s1.v]),(iV p_i)] w0 (fun v _=>v = (iV r)):=by
 unfold impl_depthOf at hr
 refine ret_start Tryz.func91 rfl 16 rfl rfl m hv fun a hF hS=>q_seq (q_region (q_box (cs:=[s1.v]) hF hS rfl rfl rfl fun a w b2 hF hS=>q_x (v:=(iV 0)) hF hS (ex_assign rfl) rfl rfl fun a hF=>q_end (n_sq (q_seq (q_region (q_x (v:=(iV 0)) hF hS (ex_assign rfl) rfl rfl fun a hF=>q_end (n_sq (q_seq (q_block ?_)))))))))
 obtain ⟨d_7,hl1,hr⟩:=bindS hr
 refine q_loop (fun (s : Int × Int) a w=>∃ i_3,∃ d_4,s = (i_3,d_4)∧Fr a 16 [(1,(iV i_3)),(2,(.pointer (some ⟨b2,0,none⟩))),(5,(iV d_4))]∧St [] w0 w m [[⟨b2,[s1.v],26⟩]]) (fun (d_7 : Int) e a w=>e = .exit 0∧Fr a 16 [(5,(iV d_7))]∧St [] w0 w m []) hl1 ⟨_,_,rfl,hF.sub ⟨rfl,rfl,rfl,trivial⟩,hS⟩ ?_ ?_
 ·clear hF hS
  rintro s a w st ⟨i_3,d_4,rfl,hF,hS⟩ hb1
  unfold impl_depthOf_l1 at hb1
  refine q_seq (q_seq (q_region (q_x (v:=(iV i_3)) hF hS (ex_move rfl) rfl rfl fun a hF=>q_x (v:=(.bool (decide (0 < i_3)))) hF hS (ex_ibin rfl rfl rfl) rfl rfl fun a hF=>q_end (n_sq ?_))))
  rcases bcase (decide (0 < i_3)) with hc2 | hc2
  ·have hb1:=cond_f hc2 hb1
   refine q_cond_f hF rfl hc2 (q_exit (x_sq ?_))
   obtain rfl:=someI hb1
   exact ⟨nofun,.inl ⟨rfl,hF.sub ⟨rfl,trivial⟩,hS.mask [false]⟩⟩
  ·have hb1:=cond_t hc2 hb1
   refine q_cond_t hF rfl hc2 (q_skipc (n_sq (q_block (q_seq (q_region (q_x (v:=(.pointer (some ⟨b2,0,none⟩))) hF hS (ex_fieldAddr Tryz.underlying26 rfl sz24 rfl rfl) rfl rfl fun a hF=>q_x (v:=s1.v) hF hS (ex_load1 0 0 Tryz.underlying24 rfl rfl rfl rfl) rfl rfl fun a hF=>q_x (v:=(iV i_3)) hF hS (ex_move rfl) rfl rfl fun a hF=>?_))))))
   obtain ⟨e_5,he_5,hb1⟩:=bindS hb1
   obtain ⟨vs6,at6,d6⟩:=h1.at he_5 1 rfl
   obtain rfl : vs6 = [(iV e_5)]:=d6
   refine q_x (v:=(elP s1 (i_3.toNat * 1))) hF hS (ex_indexAddr Tryz.underlying24 sz3 rfl rfl (h1.idx he_5)) rfl rfl fun a hF=>q_x (v:=(iV e_5)) hF hS (ex_loadE1 0 Tryz.underlying3 rfl rfl ((at6).at) rfl rfl) rfl rfl fun a hF=>q_x (v:=(iV e_5)) hF hS (ex_assign rfl) rfl rfl fun a hF=>q_end (n_sq (q_region (q_x (v:=(iV d_4)) hF hS (ex_move rfl) rfl rfl fun a hF=>q_x (v:=(iV (w64 (d_4 + 1)))) hF hS (ex_ibin rfl rfl rfl) rfl rfl fun a hF=>q_x (v:=(iV (w64 (d_4 + 1)))) hF hS (ex_assign rfl) rfl rfl fun a hF=>q_end (n_ib ?_))))
   obtain rfl:=someI hb1
   exact ⟨rfl,_,_,rfl,hF.sub ⟨rfl,rfl,rfl,trivial⟩,hS⟩
 ·rintro e a w ⟨rfl,hF,hS⟩
  refine x_ib (n_sq ?_)
  refine q_seq (q_region (q_x (v:=(iV d_7)) hF hS (ex_move rfl) rfl rfl fun a hF=>q_x (v:=(iV d_7)) hF hS (ex_assign rfl) rfl rfl fun a hF=>q_end (n_sq (q_ret ?_))))
  obtain rfl:=someI hr
  exact ret_of hF hS rfl (.tmp rfl .nil) rfl

theorem c_impl_areasAt (p_g : impl_Geo) (p_level : Int) (r : (List Int)) (hr : impl_areasAt p_g p_level = some r) (w0 : World) (m : Mem) (hv : Vis m w0) (s1 : Sl) (h1 : Rd m s1 p_g.Parents) :
  Ret Tryz.prog 59 [(.agg #[s1.v]),(iV p_level)] w0 (fun v w=>∃ (q0' : Piece) (s0' : Sl),v = s0'.v∧St [] w0 w m [q0']∧OwnL m 3 q0' s0' r):=by
 unfold impl_areasAt at hr
 refine ret_start Tryz.func59 rfl 24 rfl rfl m hv fun a hF hS=>q_seq (q_region (q_box (cs:=[s1.v]) hF hS rfl rfl rfl fun a w b2 hF hS=>q_x (v:=nilS.v) hF hS (ex_assign rfl) rfl rfl fun a hF=>q_end (n_sq (q_seq (q_region (q_x (v:=nilS.v) hF hS (ex_assign rfl) rfl rfl fun a hF=>q_end (n_sq (q_seq (q_seq (q_region (q_x (v:=(.pointer (some ⟨b2,0,none⟩))) hF hS (ex_fieldAddr Tryz.underlying26 rfl sz24 rfl rfl) rfl rfl fun a hF=>q_x (v:=s1.v) hF hS (ex_load1 0 0 Tryz.underlying24 rfl rfl rfl rfl) rfl rfl fun a hF=>q_x (v:=(iV (goLen p_g.Parents))) hF hS (ex_len Tryz.underlying24 rfl h1.len) rfl rfl fun a hF=>q_x (v:=(iV 0)) hF hS (ex_move rfl) rfl rfl fun a hF=>q_end (n_sq (q_block ?_)))))))))))))
 obtain ⟨list_12,hl1,hr⟩:=bindS hr
 refine q_loop (fun (s : (List Int) × Int) a w=>∃ (q4 : Piece),∃ (s4 : Sl),∃ list_3,∃ t_5,s = (list_3,t_5)∧Fr a 24 [(1,(iV p_level)),(2,(.pointer (some ⟨b2,0,none⟩))),(5,s4.v),(9,(iV (goLen p_g.Parents))),(10,(iV t_5))]∧St [] w0 w m [q4,[⟨b2,[s1.v],26⟩]]∧OwnL m 3 q4 s4 list_3) (fun (list_12 : (List Int)) e a w=>∃ (q13 : Piece),∃ (s13 : Sl),e = .exit 0∧Fr a 24 [(5,s13.v)]∧St [] w0 w m [q13]∧OwnL m 3 q13 s13 list_12) hl1 ⟨[],nilS,_,_,rfl,hF.sub ⟨rfl,rfl,rfl,rfl,rfl,trivial⟩,hS.sel [1,0] (by decide),(OwnL.nil (α:=Int) m 3)⟩ ?_ ?_
 ·clear hF hS
  rintro s a w st ⟨q4,s4,list_3,t_5,rfl,hF,hS,h4⟩ hb1
  unfold impl_areasAt_l1 at hb1
  refine q_seq (q_region (q_x (v:=(.bool (decide (t_5 < (goLen p_g.Parents))))) hF hS (ex_ibin rfl rfl rfl) rfl rfl fun a hF=>q_end (n_sq (q_seq ?_))))
  rcases bcase (decide (t_5 < (goLen p_g.Parents))) with hc2 | hc2
  ·have hb1:=cond_f hc2 hb1
   refine q_cond_f hF rfl hc2 (q_exit (x_sq ?_))
   obtain rfl:=someI hb1
   exact ⟨nofun,.inl ⟨q4,s4,rfl,hF.sub ⟨rfl,trivial⟩,hS.mask [true,false],h4⟩⟩
  ·have hb1:=cond_t hc2 hb1
   refine q_cond_t hF rfl hc2 (q_skipc (n_sq (q_seq (q_block (q_seq (q_region (q_x (v:=(iV t_5)) hF hS (ex_move rfl) rfl rfl fun a hF=>q_x (v:=(iV t_5)) hF hS (ex_assign rfl) rfl rfl fun a hF=>q_end (n_sq (q_seq (q_region (q_x (v:=(.agg #[s1.v])) hF hS (ex_loadA (vs:=[s1.v]) 1 0 Tryz.underlying26 rfl sz26 rfl rfl rfl rfl) rfl rfl fun a hF=>q_x (v:=(iV t_5)) hF hS (ex_move rfl) rfl rfl fun a hF=>?_)))))))))))
   obtain ⟨t_6,ht_6,hb1⟩:=bindS hb1
   refine q_call (vs:=[(.agg #[s1.v]),(iV t_5)]) hF hS Tryz.func91 (by kernel_rfl) rfl rfl rfl (c_impl_depthOf p_g t_5 t_6 ht_6 _ m hS.vis s1 h1) ?_
   rintro a w _ rfl hF hS
   refine q_x (v:=(iV p_level)) hF hS (ex_move rfl) rfl rfl fun a hF=>q_x (v:=(.bool (t_6 == p_level))) hF hS (ex_ibin rfl rfl rfl) rfl rfl fun a hF=>q_end (n_sq ?_)
   obtain ⟨list_10,hj3,hb1⟩:=bindS hb1
   refine q_join (fun a w=>∃ (q11 : Piece),∃ (s11 : Sl),Fr a 24 [(1,(iV p_level)),(2,(.pointer (some ⟨b2,0,none⟩))),(5,s11.v),(9,(iV (goLen p_g.Parents))),(10,(iV t_5))]∧St [] w0 w m [q11,[⟨b2,[s1.v],26⟩]]∧OwnL m 3 q11 s11 list_10) ?_ ?_
   ·rcases bcase (t_6 == p_level) with hc4 | hc4
    ·have hj3:=cond_f hc4 hj3
     refine q_cond_f hF rfl hc4 (q_skipc (n_jn ?_))
     obtain rfl:=someI hj3
     exact ⟨q4,s4,hF.sub ⟨rfl,rfl,rfl,rfl,rfl,trivial⟩,hS,h4⟩
    ·have hj3:=cond_t hc4 hj3
     refine q_cond_t hF rfl hc4 (q_region (q_x (v:=s4.v) hF hS (ex_move rfl) rfl rfl fun a hF=>q_x (v:=(iV t_5)) hF hS (ex_move rfl) rfl rfl fun a hF=>q_do rfl fun _ hK=>wp_buildSlice' (l:=([t_5] : List Int)) (cells:=[(iV t_5)]) hF hS Tryz.underlying24 inf3 rfl rfl (by kernel_rfl) rfl rfl rfl ⟨rfl,rfl⟩ rfl rfl fun a w q7 s7 hF hS h7 _=>hK _ _ ?_))
     have hS : St _ _ _ _ [q4,q7,[⟨b2,[s1.v],26⟩]]:=hS.sel [1,0,2] (by decide)
     obtain ⟨l_8,hl_8,hj3⟩:=bindS hj3
     refine q_do rfl fun _ hK=>wp_append hF hS h4 Tryz.underlying24 inf3 rfl rfl rfl rfl (h7.vw hS (j:=1) rfl) rfl (by decide) hl_8 rfl fun a w q9 s9 hF hS h9=>hK _ _ (q_x (v:=s9.v) hF hS (ex_assign rfl) rfl rfl fun a hF=>q_end (n_jn ?_))
     obtain rfl:=someI hj3
     exact ⟨q9,s9,hF.sub ⟨rfl,rfl,rfl,rfl,rfl,trivial⟩,hS.mask [true,false,true],h9⟩
   ·rintro a w ⟨q11,s11,hF,hS,h11⟩
    refine n_ib (n_sq ?_)
    refine q_region (q_x (v:=(iV (w64 (t_5 + 1)))) hF hS (ex_ibin rfl rfl rfl) rfl rfl fun a hF=>q_x (v:=(iV (w64 (t_5 + 1)))) hF hS (ex_move rfl) rfl rfl fun a hF=>q_end ?_)
    obtain rfl:=someI hb1
    exact ⟨rfl,q11,s11,_,_,rfl,hF.sub ⟨rfl,rfl,rfl,rfl,rfl,trivial⟩,hS,h11⟩
 ·rintro e a w ⟨q13,s13,rfl,hF,hS,h13⟩
  refine x_ib (n_sq ?_)
  refine q_seq (q_region (q_x (v:=s13.v) hF hS (ex_move rfl) rfl rfl fun a hF=>q_x (v:=s13.v) hF hS (ex_assign rfl) rfl rfl fun a hF=>q_end (n_sq (q_ret ?_))))
  obtain rfl:=someI hr
  exact ret_of hF hS rfl (.tmp rfl .nil) ⟨q13,s13,rfl,hS.sel [0] (by decide),h13⟩

theorem c_impl_crossed (p_s : List impl_Variable) (p_t : impl_Table) (r : (List impl_Variable)) (hr : impl_crossed p_s p_t = some r) (w0 : World) (m : Mem) (hv : Vis m w0) (s1 : Sl) (h1 : Rd m s1 p_s) (s2 : Sl) (h2 : Rd m s2 p_t.Vars) (s3 : Sl) (h3 : Rd m s3 p_t.Where) :
  Ret Tryz.prog 61 [s1.v,(.agg #[(iV p_t.Level),s2.v,s3.v,(iV p_t.Sum)])] w0 (fun v w=>∃ (q0' : Piece) (s0' : Sl),v = s0'.v∧St [] w0 w m [q0']∧OwnL m 100 q0' s0' r):=by
 unfold impl_crossed at hr
 refine ret_start Tryz.func61 rfl 29 rfl rfl m hv fun a hF hS=>q_seq (q_region (q_box (cs:=[(iV p_t.Level),s2.v,s3.v,(iV p_t.Sum)]) hF hS rfl rfl rfl fun a w b4 hF hS=>q_x (v:=nilS.v) hF hS (ex_assign rfl) rfl rfl fun a hF=>q_end (n_sq (q_seq (q_region (q_x (v:=(.pointer (some ⟨b4,1,none⟩))) hF hS (ex_fieldAddr Tryz.underlying29 rfl sz24 rfl rfl) rfl rfl fun a hF=>q_x (v:=s2.v) hF hS (ex_load1 0 0 Tryz.underlying24 rfl rfl rfl rfl) rfl rfl fun a hF=>q_x (v:=(iV (goLen p_t.Vars))) hF hS (ex_len Tryz.underlying24 rfl h2.len) rfl rfl fun a hF=>?_))))))
 obtain ⟨l_5,hl_5,hr⟩:=bindS hr
 refine q_do rfl fun _ hK=>wp_make (z:=((impl_Variable.mk ([] : List UInt8) 0) : impl_Variable)) hF hS Tryz.underlying27 inf100 rfl rfl rfl rfl rfl (by decide) hl_5 rfl fun a w q6 s6 hF hS h6 _=>hK _ _ (q_x (v:=s6.v) hF hS (ex_assign rfl) rfl rfl fun a hF=>q_end (n_sq (q_seq (q_seq (q_region (q_x (v:=(.pointer (some ⟨b4,1,none⟩))) hF hS (ex_fieldAddr Tryz.underlying29 rfl sz24 rfl rfl) rfl rfl fun a hF=>q_x (v:=s2.v) hF hS (ex_load1 1 0 Tryz.underlying24 rfl rfl rfl rfl) rfl rfl fun a hF=>q_x (v:=(iV (goLen p_t.Vars))) hF hS (ex_len Tryz.underlying24 rfl h2.len) rfl rfl fun a hF=>q_x (v:=(iV 0)) hF hS (ex_move rfl) rfl rfl fun a hF=>q_end (n_sq (q_block ?_))))))))
 obtain ⟨out_17,hl1,hr⟩:=bindS hr
 refine q_loop (fun (s : (List impl_Variable) × Int) a w=>∃ (q8 : Piece),∃ out_7,∃ t_9,s = (out_7,t_9)∧Fr a 29 [(0,s1.v),(5,s6.v),(13,s2.v),(14,(iV (goLen p_t.Vars))),(15,(iV t_9))]∧St [] w0 w m [q8]∧OwnL m 100 q8 s6 out_7) (fun (out_17 : (List impl_Variable)) e a w=>∃ (q18 : Piece),e = .exit 0∧Fr a 29 [(5,s6.v)]∧St [] w0 w m [q18]∧OwnL m 100 q18 s6 out_17) hl1 ⟨q6,_,_,rfl,hF.sub ⟨rfl,rfl,rfl,rfl,rfl,trivial⟩,hS.mask [true,false],h6⟩ ?_ ?_
 ·clear hF hS
  rintro s a w st ⟨q8,out_7,t_9,rfl,hF,hS,h8⟩ hb1
  unfold impl_crossed_l1 at hb1
  refine q_seq (q_region (q_x (v:=(.bool (decide (t_9 < (goLen p_t.Vars))))) hF hS (ex_ibin rfl rfl rfl) rfl rfl fun a hF=>q_end (n_sq (q_seq ?_))))
  rcases bcase (decide (t_9 < (goLen p_t.Vars))) with hc2 | hc2
  ·have hb1:=cond_f hc2 hb1
   refine q_cond_f hF rfl hc2 (q_exit (x_sq ?_))
   obtain rfl:=someI hb1
   exact ⟨nofun,.inl ⟨q8,rfl,hF.sub ⟨rfl,trivial⟩,hS,h8⟩⟩
  ·have hb1:=cond_t hc2 hb1
   refine q_cond_t hF rfl hc2 (q_skipc (n_sq (q_seq (q_block (q_seq (q_region (q_x (v:=(iV t_9)) hF hS (ex_move rfl) rfl rfl fun a hF=>?_)))))))
   obtain ⟨e_10,he_10,hb1⟩:=bindS hb1
   obtain ⟨vs11,at11,d11⟩:=h2.at he_10 1 rfl
   obtain rfl : vs11 = [(iV e_10)]:=d11
   refine q_x (v:=(elP s2 (t_9.toNat * 1))) hF hS (ex_indexAddr Tryz.underlying24 sz3 rfl rfl (h2.idx he_10)) rfl rfl fun a hF=>q_x (v:=(iV e_10)) hF hS (ex_loadE1 0 Tryz.underlying3 rfl rfl ((at11).at) rfl rfl) rfl rfl fun a hF=>q_x (v:=(iV t_9)) hF hS (ex_assign rfl) rfl rfl fun a hF=>q_x (v:=(iV e_10)) hF hS (ex_assign rfl) rfl rfl fun a hF=>q_end (n_sq (q_region (q_x (v:=s6.v) hF hS (ex_move rfl) rfl rfl fun a hF=>q_x (v:=(iV t_9)) hF hS (ex_move rfl) rfl rfl fun a hF=>q_x (v:=s1.v) hF hS (ex_move rfl) rfl rfl fun a hF=>q_x (v:=(iV e_10)) hF hS (ex_move rfl) rfl rfl fun a hF=>?_)))
   obtain ⟨e_12,he_12,hb1⟩:=bindS hb1
   obtain ⟨vs13,at13,d13⟩:=h1.at he_12 2 rfl
   obtain rfl : vs13 = [(strV e_12.Name),(iV e_12.Levels)]:=d13
   refine q_x (v:=(elP s1 (e_10.toNat * 2))) hF hS (ex_indexAddr Tryz.underlying27 sz100 rfl rfl (h1.idx he_12)) rfl rfl fun a hF=>q_x (v:=(.agg #[(strV e_12.Name),(iV e_12.Levels)])) hF hS (ex_loadEA (us:=[(strV e_12.Name),(iV e_12.Levels)]) 0 Tryz.underlying100 rfl sz100 rfl ((at13).at) rfl rfl rfl) rfl rfl fun a hF=>?_
   obtain ⟨e_14,he_14,hb1⟩:=bindS hb1
   obtain ⟨vs15,at15,d15⟩:=h8.at he_14 2 rfl
   obtain rfl : vs15 = [(strV e_14.Name),(iV e_14.Levels)]:=d15
   refine q_x (v:=(elP s6 (t_9.toNat * 2))) hF hS (ex_indexAddr Tryz.underlying27 sz100 rfl rfl (h8.idx he_14)) rfl rfl fun a hF=>q_do rfl fun _ hK=>wp_storeE (e':=e_12) (us:=[(strV e_12.Name),(iV e_12.Levels)]) (vs:=[(strV e_14.Name),(iV e_14.Levels)]) 0 hF hS h8 sz100 rfl rfl rfl rfl rfl rfl rfl he_14 at15 rfl rfl rfl fun w q16 hS h16=>hK _ _ (q_end (n_ib (n_sq (q_region (q_x (v:=(iV (w64 (t_9 + 1)))) hF hS (ex_ibin rfl rfl rfl) rfl rfl fun a hF=>q_x (v:=(iV (w64 (t_9 + 1)))) hF hS (ex_move rfl) rfl rfl fun a hF=>q_end ?_)))))
   obtain rfl:=someI hb1
   exact ⟨rfl,q16,_,_,rfl,hF.sub ⟨rfl,rfl,rfl,rfl,rfl,trivial⟩,hS,h16⟩
 ·rintro e a w ⟨q18,rfl,hF,hS,h18⟩
  refine x_ib (n_sq ?_)
  refine q_seq (q_region (q_x (v:=s6.v) hF hS (ex_move rfl) rfl rfl fun a hF=>q_x (v:=s6.v) hF hS (ex_assign rfl) rfl rfl fun a hF=>q_end (n_sq (q_ret ?_))))
  obtain rfl:=someI hr
  exact ret_of hF hS rfl (.tmp rfl .nil) ⟨q18,s6,rfl,hS.sel [0] (by decide),h18⟩

theorem c_impl_combinations (p_s : List impl_Variable) (r : Int) (hr : impl_combinations p_s = some r) (w0 : World) (m : Mem) (hv : Vis m w0) (s1 : Sl) (h1 : Rd m s1 p_s) :
  Ret Tryz.prog 60 [s1.v] w0 (fun v _=>v = (iV r)):=by
 unfold impl_combinations at hr
 refine ret_start Tryz.func60 rfl 18 rfl rfl m hv fun a hF hS=>q_seq (q_region (q_x (v:=(iV 0)) hF hS (ex_assign rfl) rfl rfl fun a hF=>q_end (n_sq (q_seq (q_region (q_x (v:=(iV 1)) hF hS (ex_assign rfl) rfl rfl fun a hF=>q_end (n_sq (q_seq (q_seq (q_region (q_x (v:=s1.v) hF hS (ex_move rfl) rfl rfl fun a hF=>q_x (v:=(iV (goLen p_s))) hF hS (ex_len Tryz.underlying27 rfl h1.len) rfl rfl fun a hF=>q_x (v:=(iV 0)) hF hS (ex_move rfl) rfl rfl fun a hF=>q_end (n_sq (q_block ?_)))))))))))))
 obtain ⟨n_7,hl1,hr⟩:=bindS hr
 refine q_loop (fun (s : Int × Int) a w=>∃ n_2,∃ t_3,s = (n_2,t_3)∧Fr a 18 [(3,(iV n_2)),(6,s1.v),(7,(iV (goLen p_s))),(8,(iV t_3))]∧St [] w0 w m []) (fun (n_7 : Int) e a w=>e = .exit 0∧Fr a 18 [(3,(iV n_7))]∧St [] w0 w m []) hl1 ⟨_,_,rfl,hF.sub ⟨rfl,rfl,rfl,rfl,trivial⟩,hS⟩ ?_ ?_
 ·clear hF hS
  rintro s a w st ⟨n_2,t_3,rfl,hF,hS⟩ hb1
  unfold impl_combinations_l1 at hb1
  refine q_seq (q_region (q_x (v:=(.bool (decide (t_3 < (goLen p_s))))) hF hS (ex_ibin rfl rfl rfl) rfl rfl fun a hF=>q_end (n_sq (q_seq ?_))))
  rcases bcase (decide (t_3 < (goLen p_s))) with hc2 | hc2
  ·have hb1:=cond_f hc2 hb1
   refine q_cond_f hF rfl hc2 (q_exit (x_sq ?_))
   obtain rfl:=someI hb1
   exact ⟨nofun,.inl ⟨rfl,hF.sub ⟨rfl,trivial⟩,hS⟩⟩
  ·have hb1:=cond_t hc2 hb1
   refine q_cond_t hF rfl hc2 (q_skipc (n_sq (q_seq (q_block (q_seq (q_region ?_))))))
   obtain ⟨e_4,he_4,hb1⟩:=bindS hb1
   obtain ⟨vs5,at5,d5⟩:=h1.at he_4 2 rfl
   obtain rfl : vs5 = [(strV e_4.Name),(iV e_4.Levels)]:=d5
   refine q_x (v:=(elP s1 (t_3.toNat * 2))) hF hS (ex_indexAddr Tryz.underlying27 sz100 rfl rfl (h1.idx he_4)) rfl rfl fun a hF=>q_x (v:=(.agg #[(strV e_4.Name),(iV e_4.Levels)])) hF hS (ex_loadEA (us:=[(strV e_4.Name),(iV e_4.Levels)]) 0 Tryz.underlying100 rfl sz100 rfl ((at5).at) rfl rfl rfl) rfl rfl fun a hF=>q_alloc (cs:=[(strV ([] : List UInt8)),(iV 0)]) hF hS rfl rfl rfl fun a w b6 hF hS=>q_store (vs:=[(strV e_4.Name),(iV e_4.Levels)]) (cs':=[(strV e_4.Name),(iV e_4.Levels)]) 0 0 hF hS sz100 rfl rfl rfl rfl rfl rfl rfl rfl fun a w hF hS=>q_end (n_sq (q_region (q_x (v:=(iV n_2)) hF hS (ex_move rfl) rfl rfl fun a hF=>q_x (v:=(.pointer (some ⟨b6,1,none⟩))) hF hS (ex_fieldAddr Tryz.underlying100 rfl sz3 rfl rfl) rfl rfl fun a hF=>q_x (v:=(iV e_4.Levels)) hF hS (ex_load1 0 0 Tryz.underlying3 rfl rfl rfl rfl) rfl rfl fun a hF=>q_x (v:=(iV (w64 (n_2 * e_4.Levels)))) hF hS (ex_ibin rfl rfl rfl) rfl rfl fun a hF=>q_x (v:=(iV (w64 (n_2 * e_4.Levels)))) hF hS (ex_assign rfl) rfl rfl fun a hF=>q_end (n_ib (n_sq (q_region (q_x (v:=(iV (w64 (t_3 + 1)))) hF hS (ex_ibin rfl rfl rfl) rfl rfl fun a hF=>q_x (v:=(iV (w64 (t_3 + 1)))) hF hS (ex_move rfl) rfl rfl fun a hF=>q_end ?_)))))))
   obtain rfl:=someI hb1
   exact ⟨rfl,_,_,rfl,hF.sub ⟨rfl,rfl,rfl,rfl,trivial⟩,hS.mask [false]⟩
 ·rintro e a w ⟨rfl,hF,hS⟩
  refine x_ib (n_sq ?_)
  refine q_seq (q_region (q_x (v:=(iV n_7)) hF hS (ex_move rfl) rfl rfl fun a hF=>q_x (v:=(iV n_7)) hF hS (ex_assign rfl) rfl rfl fun a hF=>q_end (n_sq (q_ret ?_))))
  obtain rfl:=someI hr
  exact ret_of hF hS rfl (.tmp rfl .nil) rfl

theorem c_impl_cellCount (p_g : impl_Geo) (p_s : List impl_Variable) (p_t : impl_Table) (r : Int) (hr : impl_cellCount p_g p_s p_t = some r) (w0 : World) (m : Mem) (hv : Vis m w0) (s1 : Sl) (h1 : Rd m s1 p_g.Parents) (s2 : Sl) (h2 : Rd m s2 p_s) (s3 : Sl) (h3 : Rd m s3 p_t.Vars) (s4 : Sl) (h4 : Rd m s4 p_t.Where) :
  Ret Tryz.prog 24 [(.agg #[s1.v]),s2.v,(.agg #[(iV p_t.Level),s3.v,s4.v,(iV p_t.Sum)])] w0 (fun v _=>v = (iV r)):=by
 unfold impl_cellCount at hr
 refine ret_start Tryz.func24 rfl 17 rfl rfl m hv fun a hF hS=>q_seq (q_region (q_box (cs:=[s1.v]) hF hS rfl rfl rfl fun a w b5 hF hS=>q_box (cs:=[(iV p_t.Level),s3.v,s4.v,(iV p_t.Sum)]) hF hS rfl rfl rfl fun a w b6 hF hS=>q_x (v:=(iV 0)) hF hS (ex_assign rfl) rfl rfl fun a hF=>q_end (n_sq (q_seq (e_region ⟨[],[]⟩ mixed fun w' hw'=>?_)))))
 have hS:=hS.below hw'
 refine e_x (v:=(.agg #[s1.v])) 0 hF hS rfl (ex_loadA (vs:=[s1.v]) 1 0 Tryz.underlying26 rfl sz26 rfl rfl rfl rfl) rfl rfl (by kernel_rfl) (by kernel_rfl) (by kernel_rfl) (by kernel_rfl) fun a hF=>e_p (v:=(.pointer (some ⟨b6,0,none⟩))) 1 hF rfl (ex_fieldAddr Tryz.underlying29 rfl sz3 rfl rfl) rfl rfl (by kernel_rfl) (by kernel_rfl) (by kernel_rfl) fun a hF=>e_x (v:=(iV p_t.Level)) 2 hF hS rfl (ex_load1 0 0 Tryz.underlying3 rfl rfl rfl rfl) rfl rfl (by kernel_rfl) (by kernel_rfl) (by kernel_rfl) (by kernel_rfl) fun a hF=>e_p (v:=s2.v) 5 hF rfl (ex_move rfl) rfl rfl (by kernel_rfl) (by kernel_rfl) (by kernel_rfl) fun a hF=>e_x (v:=(.agg #[(iV p_t.Level),s3.v,s4.v,(iV p_t.Sum)])) 6 hF hS rfl (ex_loadA (vs:=[(iV p_t.Level),s3.v,s4.v,(iV p_t.Sum)]) 0 0 Tryz.underlying29 rfl sz29 rfl rfl rfl rfl) rfl rfl (by kernel_rfl) (by kernel_rfl) (by kernel_rfl) (by kernel_rfl) fun a hF=>e_one 3 (by kernel_rfl) ?_
 obtain ⟨t_13,ht_13,hr⟩:=bindS hr
 refine e_call (vs:=[(.agg #[s1.v]),(iV p_t.Level)]) hF hS rfl Tryz.func59 (by kernel_rfl) rfl rfl rfl (c_impl_areasAt p_g p_t.Level t_13 ht_13 _ m hS.vis s1 h1) ?_
 rintro a w _ ⟨q15,s15,rfl,hR14,h15⟩ hF hS2
 have hS : St _ _ _ _ [q15,[⟨b6,[(iV p_t.Level),s3.v,s4.v,(iV p_t.Sum)],29⟩],[⟨b5,[s1.v],26⟩]]:=hS.joinF hR14
 refine e_p (v:=(iV (goLen t_13))) 4 hF rfl (ex_len Tryz.underlying24 rfl h15.len) rfl rfl (by kernel_rfl) (by kernel_rfl) (by kernel_rfl) fun a hF=>e_one 7 (by kernel_rfl) ?_
 obtain ⟨t_16,ht_16,hr⟩:=bindS hr
 refine e_call (vs:=[s2.v,(.agg #[(iV p_t.Level),s3.v,s4.v,(iV p_t.Sum)])]) hF hS rfl Tryz.func61 (by kernel_rfl) rfl rfl rfl (c_impl_crossed p_s p_t t_16 ht_16 _ m hS.vis s2 h2 s3 h3 s4 h4) ?_
 rintro a w _ ⟨q18,s18,rfl,hR17,h18⟩ hF hS2
 have hS : St _ _ _ _ [q18,q15,[⟨b6,[(iV p_t.Level),s3.v,s4.v,(iV p_t.Sum)],29⟩],[⟨b5,[s1.v],26⟩]]:=hS.joinF hR17
 refine e_one 8 (by kernel_rfl) ?_
 obtain ⟨m20,hl20,hv20,hz20⟩:=hS.lend
 obtain ⟨t_19,ht_19,hr⟩:=bindS hr
 refine e_call (vs:=[s18.v]) hF hS rfl Tryz.func60 (by kernel_rfl) rfl rfl rfl (c_impl_combinations t_16 t_19 ht_19 _ m20 hv20 s18 (h18.froz hl20 (hz20 0 _ rfl))) ?_
 rintro a w _ rfl hF hS
 refine e_p (v:=(iV (w64 ((goLen t_13) * t_19)))) 9 hF rfl (ex_ibin rfl rfl rfl) rfl rfl (by kernel_rfl) (by kernel_rfl) (by kernel_rfl) fun a hF=>e_p (v:=(iV (w64 ((goLen t_13) * t_19)))) 10 hF rfl (ex_assign rfl) rfl rfl (by kernel_rfl) (by kernel_rfl) (by kernel_rfl) fun a hF=>e_end (by kernel_rfl) (n_sq (q_ret ?_)) _
 obtain rfl:=someI hr
 exact ret_of hF hS rfl (.tmp rfl .nil) rfl

theorem c_impl_isTable (p_g : impl_Geo) (p_s : List impl_Variable) (p_t : impl_Table) (r : Bool) (hr : impl_isTable p_g p_s p_t = some r) (w0 : World) (m : Mem) (hv : Vis m w0) (s1 : Sl) (h1 : Rd m s1 p_g.Parents) (s2 : Sl) (h2 : Rd m s2 p_s) (s3 : Sl) (h3 : Rd m s3 p_t.Vars) (s4 : Sl) (h4 : Rd m s4 p_t.Where) :
  Ret Tryz.prog 58 [(.agg #[s1.v]),s2.v,(.agg #[(iV p_t.Level),s3.v,s4.v,(iV p_t.Sum)])] w0 (fun v _=>v = (.bool r)):=by
 unfold impl_isTable at hr
 refine ret_start Tryz.func58 rfl 42 rfl rfl m hv fun a hF hS=>q_seq (q_region (q_box (cs:=[s1.v]) hF hS rfl rfl rfl fun a w b5 hF hS=>q_box (cs:=[(iV p_t.Level),s3.v,s4.v,(iV p_t.Sum)]) hF hS rfl rfl rfl fun a w b6 hF hS=>q_x (v:=(.bool false)) hF hS (ex_assign rfl) rfl rfl fun a hF=>q_end (n_sq (q_seq (q_seq ?_)))))
 obtain ⟨t_9,hj1,hr⟩:=bindS hr
 refine q_join (fun a w=>Fr a 42 [(1,s2.v),(3,(.pointer (some ⟨b5,0,none⟩))),(5,(.pointer (some ⟨b6,0,none⟩))),(31,(.bool t_9))]∧St [] w0 w m [[⟨b6,[(iV p_t.Level),s3.v,s4.v,(iV p_t.Sum)],29⟩],[⟨b5,[s1.v],26⟩]]) ?_ ?_
 ·refine q_region (q_x (v:=s2.v) hF hS (ex_move rfl) rfl rfl fun a hF=>q_x (v:=(.pointer (some ⟨b6,1,none⟩))) hF hS (ex_fieldAddr Tryz.underlying29 rfl sz24 rfl rfl) rfl rfl fun a hF=>q_x (v:=s3.v) hF hS (ex_load1 0 0 Tryz.underlying24 rfl rfl rfl rfl) rfl rfl fun a hF=>?_)
  obtain ⟨t_7,ht_7,hj1⟩:=bindS hj1
  refine q_call (vs:=[s2.v,s3.v]) hF hS Tryz.func89 (by kernel_rfl) rfl rfl rfl (c_impl_areVars p_s p_t.Vars t_7 ht_7 _ m hS.vis s2 h2 s3 h3) ?_
  rintro a w _ rfl hF hS
  refine q_x (v:=(.bool (!t_7))) hF hS (ex_not rfl) rfl rfl fun a hF=>q_x (v:=(.bool (!t_7))) hF hS (ex_move rfl) rfl rfl fun a hF=>?_
  rcases bcase (!t_7) with hc2 | hc2
  ·have hj1:=cond_f hc2 hj1
   refine q_xg (v:=s2.v) hF hS (ex_move rfl) (wanted_t hF rfl rfl rfl hc2) rfl fun a hF=>q_xg (v:=(.pointer (some ⟨b6,2,none⟩))) hF hS (ex_fieldAddr Tryz.underlying29 rfl sz24 rfl rfl) (wanted_t hF rfl rfl rfl hc2) rfl fun a hF=>q_xg (v:=s4.v) hF hS (ex_load1 0 0 Tryz.underlying24 rfl rfl rfl rfl) (wanted_t hF rfl rfl rfl hc2) rfl fun a hF=>?_
   obtain ⟨t_8,ht_8,hj1⟩:=bindS hj1
   refine q_callg (vs:=[s2.v,s4.v]) hF hS (wanted_t hF rfl rfl rfl hc2) Tryz.func90 (by kernel_rfl) rfl rfl rfl (c_impl_isWhere p_s p_t.Where t_8 ht_8 _ m hS.vis s2 h2 s4 h4) ?_
   rintro a w _ rfl hF hS
   refine q_xg (v:=(.bool (!t_8))) hF hS (ex_not rfl) (wanted_t hF rfl rfl rfl hc2) rfl fun a hF=>q_x (v:=(.bool (!t_8))) hF hS (ex_pick_f rfl rfl hc2) rfl rfl fun a hF=>q_x (v:=(.bool (!t_8))) hF hS (ex_move rfl) rfl rfl fun a hF=>?_
   rcases bcase (!t_8) with hc3 | hc3
   ·have hj1:=cond_f hc3 hj1
    refine q_xg (v:=(.pointer (some ⟨b6,3,none⟩))) hF hS (ex_fieldAddr Tryz.underlying29 rfl sz3 rfl rfl) (wanted_t hF rfl rfl rfl hc3) rfl fun a hF=>q_xg (v:=(iV p_t.Sum)) hF hS (ex_load1 0 0 Tryz.underlying3 rfl rfl rfl rfl) (wanted_t hF rfl rfl rfl hc3) rfl fun a hF=>q_xg (v:=(.bool (decide (p_t.Sum < (-1))))) hF hS (ex_ibin rfl rfl rfl) (wanted_t hF rfl rfl rfl hc3) rfl fun a hF=>q_x (v:=(.bool (decide (p_t.Sum < (-1))))) hF hS (ex_pick_f rfl rfl hc3) rfl rfl fun a hF=>q_x (v:=(.bool (decide (p_t.Sum < (-1))))) hF hS (ex_move rfl) rfl rfl fun a hF=>?_
    rcases bcase (decide (p_t.Sum < (-1))) with hc4 | hc4
    ·have hj1:=cond_f hc4 hj1
     refine q_xg (v:=(.pointer (some ⟨b6,3,none⟩))) hF hS (ex_fieldAddr Tryz.underlying29 rfl sz3 rfl rfl) (wanted_t hF rfl rfl rfl hc4) rfl fun a hF=>q_xg (v:=(iV p_t.Sum)) hF hS (ex_load1 0 0 Tryz.underlying3 rfl rfl rfl rfl) (wanted_t hF rfl rfl rfl hc4) rfl fun a hF=>q_xg (v:=s2.v) hF hS (ex_move rfl) (wanted_t hF rfl rfl rfl hc4) rfl fun a hF=>q_xg (v:=(iV (goLen p_s))) hF hS (ex_len Tryz.underlying27 rfl h2.len) (wanted_t hF rfl rfl rfl hc4) rfl fun a hF=>q_xg (v:=(.bool (decide ((goLen p_s) ≤ p_t.Sum)))) hF hS (ex_ibin rfl rfl rfl) (wanted_t hF rfl rfl rfl hc4) rfl fun a hF=>q_x (v:=(.bool (decide ((goLen p_s) ≤ p_t.Sum)))) hF hS (ex_pick_f rfl rfl hc4) rfl rfl fun a hF=>q_end (n_jn ?_)
     obtain rfl:=someI hj1
     exact ⟨hF.sub ⟨rfl,rfl,rfl,rfl,trivial⟩,hS⟩
    ·have hj1:=cond_t hc4 hj1
     refine q_skip hF (wanted_f hF rfl rfl rfl hc4 rfl) rfl fun a hF=>q_skip hF (wanted_f hF rfl rfl rfl hc4 rfl) rfl fun a hF=>q_skip hF (wanted_f hF rfl rfl rfl hc4 rfl) rfl fun a hF=>q_skip hF (wanted_f hF rfl rfl rfl hc4 rfl) rfl fun a hF=>q_skip hF (wanted_f hF rfl rfl rfl hc4 rfl) rfl fun a hF=>q_x (v:=(.bool true)) hF hS (ex_pick_t rfl rfl hc4) rfl rfl fun a hF=>q_end (n_jn ?_)
     obtain rfl:=someI hj1
     exact ⟨hF.sub ⟨rfl,rfl,rfl,rfl,trivial⟩,hS⟩
   ·have hj1:=cond_t hc3 hj1
    refine q_skip hF (wanted_f hF rfl rfl rfl hc3 rfl) rfl fun a hF=>q_skip hF (wanted_f hF rfl rfl rfl hc3 rfl) rfl fun a hF=>q_skip hF (wanted_f hF rfl rfl rfl hc3 rfl) rfl fun a hF=>q_x (v:=(.bool true)) hF hS (ex_pick_t rfl rfl hc3) rfl rfl fun a hF=>q_x (v:=(.bool true)) hF hS (ex_move rfl) rfl rfl fun a hF=>q_skip hF (wanted_f hF rfl rfl rfl rfl rfl) rfl fun a hF=>q_skip hF (wanted_f hF rfl rfl rfl rfl rfl) rfl fun a hF=>q_skip hF (wanted_f hF rfl rfl rfl rfl rfl) rfl fun a hF=>q_skip hF (wanted_f hF rfl rfl rfl rfl rfl) rfl fun a hF=>q_skip hF (wanted_f hF rfl rfl rfl rfl rfl) rfl fun a hF=>q_x (v:=(.bool true)) hF hS (ex_pick_t rfl rfl rfl) rfl rfl fun a hF=>q_end (n_jn ?_)
    obtain rfl:=someI hj1
    exact ⟨hF.sub ⟨rfl,rfl,rfl,rfl,trivial⟩,hS⟩
  ·have hj1:=cond_t hc2 hj1
   refine q_skip hF (wanted_f hF rfl rfl rfl hc2 rfl) rfl fun a hF=>q_skip hF (wanted_f hF rfl rfl rfl hc2 rfl) rfl fun a hF=>q_skip hF (wanted_f hF rfl rfl rfl hc2 rfl) rfl fun a hF=>q_skip hF (wanted_f hF rfl rfl rfl hc2 rfl) rfl fun a hF=>q_skip hF (wanted_f hF rfl rfl rfl hc2 rfl) rfl fun a hF=>q_x (v:=(.bool true)) hF hS (ex_pick_t rfl rfl hc2) rfl rfl fun a hF=>q_x (v:=(.bool true)) hF hS (ex_move rfl) rfl rfl fun a hF=>q_skip hF (wanted_f hF rfl rfl rfl rfl rfl) rfl fun a hF=>q_skip hF (wanted_f hF rfl rfl rfl rfl rfl) rfl fun a hF=>q_skip hF (wanted_f hF rfl rfl rfl rfl rfl) rfl fun a hF=>q_x (v:=(.bool true)) hF hS (ex_pick_t rfl rfl rfl) rfl rfl fun a hF=>q_x (v:=(.bool true)) hF hS (ex_move rfl) rfl rfl fun a hF=>q_skip hF (wanted_f hF rfl rfl rfl rfl rfl) rfl fun a hF=>q_skip hF (wanted_f hF rfl rfl rfl rfl rfl) rfl fun a hF=>q_skip hF (wanted_f hF rfl rfl rfl rfl rfl) rfl fun a hF=>q_skip hF (wanted_f hF rfl rfl rfl rfl rfl) rfl fun a hF=>q_skip hF (wanted_f hF rfl rfl rfl rfl rfl) rfl fun a hF=>q_x (v:=(.bool true)) hF hS (ex_pick_t rfl rfl rfl) rfl rfl fun a hF=>q_end (n_jn ?_)
   obtain rfl:=someI hj1
   exact ⟨hF.sub ⟨rfl,rfl,rfl,rfl,trivial⟩,hS⟩
 ·rintro a w ⟨hF,hS⟩
  refine n_sq ?_
  rcases bcase (t_9) with hc5 | hc5
  ·have hr:=cond_f hc5 hr
   refine q_cond_f hF rfl hc5 (q_skipc (n_sq (q_seq (q_region (q_x (v:=(.agg #[s1.v])) hF hS (ex_loadA (vs:=[s1.v]) 1 0 Tryz.underlying26 rfl sz26 rfl rfl rfl rfl) rfl rfl fun a hF=>q_x (v:=s2.v) hF hS (ex_move rfl) rfl rfl fun a hF=>q_x (v:=(.agg #[(iV p_t.Level),s3.v,s4.v,(iV p_t.Sum)])) hF hS (ex_loadA (vs:=[(iV p_t.Level),s3.v,s4.v,(iV p_t.Sum)]) 0 0 Tryz.underlying29 rfl sz29 rfl rfl rfl rfl) rfl rfl fun a hF=>?_)))))
   obtain ⟨t_10,ht_10,hr⟩:=bindS hr
   refine q_call (vs:=[(.agg #[s1.v]),s2.v,(.agg #[(iV p_t.Level),s3.v,s4.v,(iV p_t.Sum)])]) hF hS Tryz.func24 (by kernel_rfl) rfl rfl rfl (c_impl_cellCount p_g p_s p_t t_10 ht_10 _ m hS.vis s1 h1 s2 h2 s3 h3 s4 h4) ?_
   rintro a w _ rfl hF hS
   refine q_x (v:=(iV t_10)) hF hS (ex_assign rfl) rfl rfl fun a hF=>q_end (n_sq (q_seq ?_))
   obtain ⟨t_11,hj6,hr⟩:=bindS hr
   refine q_join (fun a w=>Fr a 42 [(6,(.bool t_11))]∧St [] w0 w m []) ?_ ?_
   ·refine q_region (q_x (v:=(iV t_10)) hF hS (ex_move rfl) rfl rfl fun a hF=>q_x (v:=(.bool (decide (0 < t_10)))) hF hS (ex_ibin rfl rfl rfl) rfl rfl fun a hF=>q_x (v:=(.bool (decide (0 < t_10)))) hF hS (ex_move rfl) rfl rfl fun a hF=>?_)
    rcases bcase (decide (0 < t_10)) with hc7 | hc7
    ·have hj6:=cond_f hc7 hj6
     refine q_skip hF (wanted_f hF rfl rfl rfl hc7 rfl) rfl fun a hF=>q_skip hF (wanted_f hF rfl rfl rfl hc7 rfl) rfl fun a hF=>q_x (v:=(.bool false)) hF hS (ex_pick_f rfl rfl hc7) rfl rfl fun a hF=>q_x (v:=(.bool false)) hF hS (ex_assign rfl) rfl rfl fun a hF=>q_end (n_jn ?_)
     obtain rfl:=someI hj6
     exact ⟨hF.sub ⟨rfl,trivial⟩,hS.mask [false,false]⟩
    ·have hj6:=cond_t hc7 hj6
     refine q_xg (v:=(iV t_10)) hF hS (ex_move rfl) (wanted_t hF rfl rfl rfl hc7) rfl fun a hF=>q_xg (v:=(.bool (decide (t_10 ≤ 600)))) hF hS (ex_ibin rfl rfl rfl) (wanted_t hF rfl rfl rfl hc7) rfl fun a hF=>q_x (v:=(.bool (decide (t_10 ≤ 600)))) hF hS (ex_pick_t rfl rfl hc7) rfl rfl fun a hF=>q_x (v:=(.bool (decide (t_10 ≤ 600)))) hF hS (ex_assign rfl) rfl rfl fun a hF=>q_end (n_jn ?_)
     obtain rfl:=someI hj6
     exact ⟨hF.sub ⟨rfl,trivial⟩,hS.mask [false,false]⟩
   ·rintro a w ⟨hF,hS⟩
    refine n_sq (q_ret ?_)
    obtain rfl:=someI hr
    exact ret_of hF hS rfl (.tmp rfl .nil) rfl
  ·have hr:=cond_t hc5 hr
   refine q_cond_t hF rfl hc5 (q_seq (q_region (q_x (v:=(.bool false)) hF hS (ex_assign rfl) rfl rfl fun a hF=>q_end (n_sq (q_ret (r_sq ?_))))))
   obtain rfl:=someI hr
   exact ret_of hF hS rfl (.tmp rfl .nil) rfl

theorem c_impl_areTabled (p_g : impl_Geo) (p_s : List impl_Variable) (p_t : impl_Table) (r : Bool) (hr : impl_areTabled p_g p_s p_t = some r) (w0 : World) (m : Mem) (hv : Vis m w0) (s1 : Sl) (h1 : Rd m s1 p_g.Parents) (s2 : Sl) (h2 : Rd m s2 p_s) (s3 : Sl) (h3 : Rd m s3 p_t.Vars) (s4 : Sl) (h4 : Rd m s4 p_t.Where) :
  Ret Tryz.prog 22 [(.agg #[s1.v]),s2.v,(.agg #[(iV p_t.Level),s3.v,s4.v,(iV p_t.Sum)])] w0 (fun v _=>v = (.bool r)):=by
 unfold impl_areTabled at hr
 refine ret_start Tryz.func22 rfl 19 rfl rfl m hv fun a hF hS=>q_seq (q_region (q_box (cs:=[s1.v]) hF hS rfl rfl rfl fun a w b5 hF hS=>q_box (cs:=[(iV p_t.Level),s3.v,s4.v,(iV p_t.Sum)]) hF hS rfl rfl rfl fun a w b6 hF hS=>q_x (v:=(.bool false)) hF hS (ex_assign rfl) rfl rfl fun a hF=>q_end (n_sq (q_seq ?_))))
 obtain ⟨t_10,hj1,hr⟩:=bindS hr
 refine q_join (fun a w=>Fr a 19 [(6,(.bool t_10))]∧St [] w0 w m []) ?_ ?_
 ·refine q_region (q_x (v:=(.agg #[s1.v])) hF hS (ex_loadA (vs:=[s1.v]) 1 0 Tryz.underlying26 rfl sz26 rfl rfl rfl rfl) rfl rfl fun a hF=>?_)
  obtain ⟨t_7,ht_7,hj1⟩:=bindS hj1
  refine q_call (vs:=[(.agg #[s1.v])]) hF hS Tryz.func56 (by kernel_rfl) rfl rfl rfl (c_impl_IsGeo p_g t_7 ht_7 _ m hS.vis s1 h1) ?_
  rintro a w _ rfl hF hS
  refine q_x (v:=(.bool t_7)) hF hS (ex_move rfl) rfl rfl fun a hF=>?_
  rcases bcase (t_7) with hc2 | hc2
  ·have hj1:=cond_f hc2 hj1
   refine q_skip hF (wanted_f hF rfl rfl rfl hc2 rfl) rfl fun a hF=>q_skip hF (wanted_f hF rfl rfl rfl hc2 rfl) rfl fun a hF=>q_x (v:=(.bool false)) hF hS (ex_pick_f rfl rfl hc2) rfl rfl fun a hF=>q_x (v:=(.bool false)) hF hS (ex_move rfl) rfl rfl fun a hF=>q_skip hF (wanted_f hF rfl rfl rfl rfl rfl) rfl fun a hF=>q_skip hF (wanted_f hF rfl rfl rfl rfl rfl) rfl fun a hF=>q_skip hF (wanted_f hF rfl rfl rfl rfl rfl) rfl fun a hF=>q_skip hF (wanted_f hF rfl rfl rfl rfl rfl) rfl fun a hF=>q_x (v:=(.bool false)) hF hS (ex_pick_f rfl rfl rfl) rfl rfl fun a hF=>q_x (v:=(.bool false)) hF hS (ex_assign rfl) rfl rfl fun a hF=>q_end (n_jn ?_)
   obtain rfl:=someI hj1
   exact ⟨hF.sub ⟨rfl,trivial⟩,hS.mask [false,false]⟩
  ·have hj1:=cond_t hc2 hj1
   refine q_xg (v:=s2.v) hF hS (ex_move rfl) (wanted_t hF rfl rfl rfl hc2) rfl fun a hF=>?_
   obtain ⟨t_8,ht_8,hj1⟩:=bindS hj1
   refine q_callg (vs:=[s2.v]) hF hS (wanted_t hF rfl rfl rfl hc2) Tryz.func57 (by kernel_rfl) rfl rfl rfl (c_impl_IsSchema p_s t_8 ht_8 _ m hS.vis s2 h2) ?_
   rintro a w _ rfl hF hS
   refine q_x (v:=(.bool t_8)) hF hS (ex_pick_t rfl rfl hc2) rfl rfl fun a hF=>q_x (v:=(.bool t_8)) hF hS (ex_move rfl) rfl rfl fun a hF=>?_
   rcases bcase (t_8) with hc3 | hc3
   ·have hj1:=cond_f hc3 hj1
    refine q_skip hF (wanted_f hF rfl rfl rfl hc3 rfl) rfl fun a hF=>q_skip hF (wanted_f hF rfl rfl rfl hc3 rfl) rfl fun a hF=>q_skip hF (wanted_f hF rfl rfl rfl hc3 rfl) rfl fun a hF=>q_skip hF (wanted_f hF rfl rfl rfl hc3 rfl) rfl fun a hF=>q_x (v:=(.bool false)) hF hS (ex_pick_f rfl rfl hc3) rfl rfl fun a hF=>q_x (v:=(.bool false)) hF hS (ex_assign rfl) rfl rfl fun a hF=>q_end (n_jn ?_)
    obtain rfl:=someI hj1
    exact ⟨hF.sub ⟨rfl,trivial⟩,hS.mask [false,false]⟩
   ·have hj1:=cond_t hc3 hj1
    refine q_xg (v:=(.agg #[s1.v])) hF hS (ex_loadA (vs:=[s1.v]) 1 0 Tryz.underlying26 rfl sz26 rfl rfl rfl rfl) (wanted_t hF rfl rfl rfl hc3) rfl fun a hF=>q_xg (v:=s2.v) hF hS (ex_move rfl) (wanted_t hF rfl rfl rfl hc3) rfl fun a hF=>q_xg (v:=(.agg #[(iV p_t.Level),s3.v,s4.v,(iV p_t.Sum)])) hF hS (ex_loadA (vs:=[(iV p_t.Level),s3.v,s4.v,(iV p_t.Sum)]) 0 0 Tryz.underlying29 rfl sz29 rfl rfl rfl rfl) (wanted_t hF rfl rfl rfl hc3) rfl fun a hF=>?_
    obtain ⟨t_9,ht_9,hj1⟩:=bindS hj1
    refine q_callg (vs:=[(.agg #[s1.v]),s2.v,(.agg #[(iV p_t.Level),s3.v,s4.v,(iV p_t.Sum)])]) hF hS (wanted_t hF rfl rfl rfl hc3) Tryz.func58 (by kernel_rfl) rfl rfl rfl (c_impl_isTable p_g p_s p_t t_9 ht_9 _ m hS.vis s1 h1 s2 h2 s3 h3 s4 h4) ?_
    rintro a w _ rfl hF hS
    refine q_x (v:=(.bool t_9)) hF hS (ex_pick_t rfl rfl hc3) rfl rfl fun a hF=>q_x (v:=(.bool t_9)) hF hS (ex_assign rfl) rfl rfl fun a hF=>q_end (n_jn ?_)
    obtain rfl:=someI hj1
    exact ⟨hF.sub ⟨rfl,trivial⟩,hS.mask [false,false]⟩
 ·rintro a w ⟨hF,hS⟩
  refine n_sq (q_ret ?_)
  obtain rfl:=someI hr
  exact ret_of hF hS rfl (.tmp rfl .nil) rfl

theorem c_impl_areSmallIntegers (p_list : List Int) (p_n : Int) (r : Bool) (hr : impl_areSmallIntegers p_list p_n = some r) (w0 : World) (m : Mem) (hv : Vis m w0) (s1 : Sl) (h1 : Rd m s1 p_list) :
  Ret Tryz.prog 23 [s1.v,(iV p_n)] w0 (fun v _=>v = (.bool r)):=by
 unfold impl_areSmallIntegers at hr
 refine ret_start Tryz.func23 rfl 24 rfl rfl m hv fun a hF hS=>q_seq (q_region (q_x (v:=(.bool false)) hF hS (ex_assign rfl) rfl rfl fun a hF=>q_end (n_sq (q_seq (q_seq (q_region (q_x (v:=s1.v) hF hS (ex_move rfl) rfl rfl fun a hF=>q_x (v:=(iV (goLen p_list))) hF hS (ex_len Tryz.underlying24 rfl h1.len) rfl rfl fun a hF=>q_x (v:=(iV p_n)) hF hS (ex_move rfl) rfl rfl fun a hF=>q_x (v:=(.bool ((goLen p_list) != p_n))) hF hS (ex_ibin rfl rfl rfl) rfl rfl fun a hF=>q_end (n_sq ?_))))))))
 rcases bcase ((goLen p_list) != p_n) with hc1 | hc1
 ·have hr:=cond_f hc1 hr
  refine q_cond_f hF rfl hc1 (q_skipc (n_sq (q_seq (q_seq (q_region (q_x (v:=s1.v) hF hS (ex_move rfl) rfl rfl fun a hF=>q_x (v:=(iV (goLen p_list))) hF hS (ex_len Tryz.underlying24 rfl h1.len) rfl rfl fun a hF=>q_x (v:=(iV 0)) hF hS (ex_move rfl) rfl rfl fun a hF=>q_end (n_sq (q_block ?_))))))))
  obtain ⟨o2,hl2,hr⟩:=bindS hr
  refine q_loop (fun (t_2 : Int) a w=>Fr a 24 [(11,s1.v),(12,(iV (goLen p_list))),(13,(iV t_2))]∧St [] w0 w m []) (fun (o : (Unit) ⊕ (Bool)) e a w=>o = .inl ()∧e = .exit 0∧Fr a 24 []∧St [] w0 w m []) hl2 ⟨hF.sub ⟨rfl,rfl,rfl,trivial⟩,hS⟩ ?_ ?_
  ·clear hF hS
   rintro t_2 a w st ⟨hF,hS⟩ hb2
   unfold impl_areSmallIntegers_l1 at hb2
   refine q_seq (q_region (q_x (v:=(.bool (decide (t_2 < (goLen p_list))))) hF hS (ex_ibin rfl rfl rfl) rfl rfl fun a hF=>q_end (n_sq (q_seq ?_))))
   rcases bcase (decide (t_2 < (goLen p_list))) with hc3 | hc3
   ·have hb2:=cond_f hc3 hb2
    refine q_cond_f hF rfl hc3 (q_exit (x_sq ?_))
    obtain rfl:=someI hb2
    exact ⟨nofun,.inl ⟨rfl,rfl,hF.sub trivial,hS⟩⟩
   ·have hb2:=cond_t hc3 hb2
    refine q_cond_t hF rfl hc3 (q_skipc (n_sq (q_seq (q_block (q_seq (q_region ?_))))))
    obtain ⟨e_3,he_3,hb2⟩:=bindS hb2
    obtain ⟨vs4,at4,d4⟩:=h1.at he_3 1 rfl
    obtain rfl : vs4 = [(iV e_3)]:=d4
    refine q_x (v:=(elP s1 (t_2.toNat * 1))) hF hS (ex_indexAddr Tryz.underlying24 sz3 rfl rfl (h1.idx he_3)) rfl rfl fun a hF=>q_x (v:=(iV e_3)) hF hS (ex_loadE1 0 Tryz.underlying3 rfl rfl ((at4).at) rfl rfl) rfl rfl fun a hF=>q_x (v:=(iV e_3)) hF hS (ex_assign rfl) rfl rfl fun a hF=>q_end (n_sq (q_seq ?_))
    obtain ⟨t_5,hj4,hb2⟩:=bindS hb2
    refine q_join (fun a w=>Fr a 24 [(11,s1.v),(12,(iV (goLen p_list))),(13,(iV t_2)),(22,(.bool t_5))]∧St [] w0 w m []) ?_ ?_
    ·refine q_region (q_x (v:=(iV e_3)) hF hS (ex_move rfl) rfl rfl fun a hF=>q_x (v:=(.bool (decide (e_3 < (-1000000))))) hF hS (ex_ibin rfl rfl rfl) rfl rfl fun a hF=>q_x (v:=(.bool (decide (e_3 < (-1000000))))) hF hS (ex_move rfl) rfl rfl fun a hF=>?_)
     rcases bcase (decide (e_3 < (-1000000))) with hc5 | hc5
     ·have hj4:=cond_f hc5 hj4
      refine q_xg (v:=(iV e_3)) hF hS (ex_move rfl) (wanted_t hF rfl rfl rfl hc5) rfl fun a hF=>q_xg (v:=(.bool (decide (1000000 < e_3)))) hF hS (ex_ibin rfl rfl rfl) (wanted_t hF rfl rfl rfl hc5) rfl fun a hF=>q_x (v:=(.bool (decide (1000000 < e_3)))) hF hS (ex_pick_f rfl rfl hc5) rfl rfl fun a hF=>q_end (n_jn ?_)
      obtain rfl:=someI hj4
      exact ⟨hF.sub ⟨rfl,rfl,rfl,rfl,trivial⟩,hS⟩
     ·have hj4:=cond_t hc5 hj4
      refine q_skip hF (wanted_f hF rfl rfl rfl hc5 rfl) rfl fun a hF=>q_skip hF (wanted_f hF rfl rfl rfl hc5 rfl) rfl fun a hF=>q_x (v:=(.bool true)) hF hS (ex_pick_t rfl rfl hc5) rfl rfl fun a hF=>q_end (n_jn ?_)
      obtain rfl:=someI hj4
      exact ⟨hF.sub ⟨rfl,rfl,rfl,rfl,trivial⟩,hS⟩
    ·rintro a w ⟨hF,hS⟩
     refine n_sq ?_
     rcases bcase (t_5) with hc6 | hc6
     ·have hb2:=cond_f hc6 hb2
      refine q_cond_f hF rfl hc6 (q_skipc (n_ib (n_sq (q_region (q_x (v:=(iV (w64 (t_2 + 1)))) hF hS (ex_ibin rfl rfl rfl) rfl rfl fun a hF=>q_x (v:=(iV (w64 (t_2 + 1)))) hF hS (ex_move rfl) rfl rfl fun a hF=>q_end ?_)))))
      obtain rfl:=someI hb2
      exact ⟨rfl,hF.sub ⟨rfl,rfl,rfl,trivial⟩,hS⟩
     ·have hb2:=cond_t hc6 hb2
      refine q_cond_t hF rfl hc6 (q_seq (q_region (q_x (v:=(.bool false)) hF hS (ex_assign rfl) rfl rfl fun a hF=>q_end (n_sq (q_ret (r_ib (r_sq ?_)))))))
      obtain rfl:=someI hb2
      refine ⟨nofun,.inr fun ho=>?_⟩
      subst ho
      refine r_ib (r_sq ?_)
      obtain rfl:=someI hr
      exact ret_of hF hS rfl (.tmp rfl .nil) rfl
  ·rintro e a w ⟨rfl,rfl,hF,hS⟩
   refine x_ib (n_sq ?_)
   refine q_seq (q_region (q_x (v:=(.bool true)) hF hS (ex_assign rfl) rfl rfl fun a hF=>q_end (n_sq (q_ret ?_))))
   obtain rfl:=someI hr
   exact ret_of hF hS rfl (.tmp rfl .nil) rfl
 ·have hr:=cond_t hc1 hr
  refine q_cond_t hF rfl hc1 (q_seq (q_region (q_x (v:=(.bool false)) hF hS (ex_assign rfl) rfl rfl fun a hF=>q_end (n_sq (q_ret (r_sq ?_))))))
  obtain rfl:=someI hr
  exact ret_of hF hS rfl (.tmp rfl .nil) rfl

theorem c_impl_valuesAt (p_s : List impl_Variable) (p_i : Int) (r : (List Int)) (hr : impl_valuesAt p_s p_i = some r) (w0 : World) (m : Mem) (hv : Vis m w0) (s1 : Sl) (h1 : Rd m s1 p_s) :
  Ret Tryz.prog 93 [s1.v,(iV p_i)] w0 (fun v w=>∃ (q0' : Piece) (s0' : Sl),v = s0'.v∧St [] w0 w m [q0']∧OwnL m 3 q0' s0' r):=by
 unfold impl_valuesAt at hr
 refine ret_start Tryz.func93 rfl 35 rfl rfl m hv fun a hF hS=>q_seq (q_region (q_x (v:=nilS.v) hF hS (ex_assign rfl) rfl rfl fun a hF=>q_end (n_sq (q_seq (q_region (q_x (v:=s1.v) hF hS (ex_move rfl) rfl rfl fun a hF=>q_x (v:=(iV (goLen p_s))) hF hS (ex_len Tryz.underlying27 rfl h1.len) rfl rfl fun a hF=>?_))))))
 obtain ⟨l_2,hl_2,hr⟩:=bindS hr
 refine q_do rfl fun _ hK=>wp_make (z:=(0 : Int)) hF hS Tryz.underlying24 inf3 rfl rfl rfl rfl rfl (by decide) hl_2 rfl fun a w q3 s3 hF hS h3 _=>hK _ _ (q_x (v:=s3.v) hF hS (ex_assign rfl) rfl rfl fun a hF=>q_end (n_sq (q_seq (q_seq (q_region (q_x (v:=s1.v) hF hS (ex_move rfl) rfl rfl fun a hF=>q_x (v:=(iV (goLen p_s))) hF hS (ex_len Tryz.underlying27 rfl h1.len) rfl rfl fun a hF=>q_x (v:=(iV (w64 ((goLen p_s) - 1)))) hF hS (ex_ibin rfl rfl rfl) rfl rfl fun a hF=>q_x (v:=(iV (w64 ((goLen p_s) - 1)))) hF hS (ex_assign rfl) rfl rfl fun a hF=>q_end (n_sq (q_block ?_))))))))
 obtain ⟨values_17,hl1,hr⟩:=bindS hr
 refine q_loop (fun (s : Int × (List Int) × Int) a w=>∃ (q6 : Piece),∃ i_4,∃ values_5,∃ k_7,s = (i_4,values_5,k_7)∧Fr a 35 [(0,s1.v),(1,(iV i_4)),(5,s3.v),(6,(iV k_7))]∧St [] w0 w m [q6]∧OwnL m 3 q6 s3 values_5) (fun (values_17 : (List Int)) e a w=>∃ (q18 : Piece),e = .exit 0∧Fr a 35 [(5,s3.v)]∧St [] w0 w m [q18]∧OwnL m 3 q18 s3 values_17) hl1 ⟨q3,_,_,_,rfl,hF.sub ⟨rfl,rfl,rfl,rfl,trivial⟩,hS,h3⟩ ?_ ?_
 ·clear hF hS
  rintro s a w st ⟨q6,i_4,values_5,k_7,rfl,hF,hS,h6⟩ hb1
  unfold impl_valuesAt_l1 at hb1
  refine q_seq (q_seq (q_region (q_x (v:=(iV k_7)) hF hS (ex_move rfl) rfl rfl fun a hF=>q_x (v:=(.bool (decide (0 ≤ k_7)))) hF hS (ex_ibin rfl rfl rfl) rfl rfl fun a hF=>q_end (n_sq ?_))))
  rcases bcase (decide (0 ≤ k_7)) with hc2 | hc2
  ·have hb1:=cond_f hc2 hb1
   refine q_cond_f hF rfl hc2 (q_exit (x_sq ?_))
   obtain rfl:=someI hb1
   exact ⟨nofun,.inl ⟨q6,rfl,hF.sub ⟨rfl,trivial⟩,hS,h6⟩⟩
  ·have hb1:=cond_t hc2 hb1
   refine q_cond_t hF rfl hc2 (q_skipc (n_sq (q_seq (q_block (q_seq (q_region (q_x (v:=s3.v) hF hS (ex_move rfl) rfl rfl fun a hF=>q_x (v:=(iV k_7)) hF hS (ex_move rfl) rfl rfl fun a hF=>q_x (v:=(iV i_4)) hF hS (ex_move rfl) rfl rfl fun a hF=>q_x (v:=s1.v) hF hS (ex_move rfl) rfl rfl fun a hF=>q_x (v:=(iV k_7)) hF hS (ex_move rfl) rfl rfl fun a hF=>?_)))))))
   obtain ⟨e_8,he_8,hb1⟩:=bindS hb1
   obtain ⟨vs9,at9,d9⟩:=h1.at he_8 2 rfl
   obtain rfl : vs9 = [(strV e_8.Name),(iV e_8.Levels)]:=d9
   refine q_x (v:=(elP s1 (k_7.toNat * 2))) hF hS (ex_indexAddr Tryz.underlying27 sz100 rfl rfl (h1.idx he_8)) rfl rfl fun a hF=>q_x (v:=(elP s1 (k_7.toNat * 2 + 1))) hF hS (ex_fieldAddrE Tryz.underlying100 rfl sz3 rfl (h1.idx he_8) rfl) rfl rfl fun a hF=>q_x (v:=(iV e_8.Levels)) hF hS (ex_loadE1 1 Tryz.underlying3 rfl rfl ((at9).at) rfl rfl) rfl rfl fun a hF=>?_
   obtain ⟨t_10,ht_10,hb1⟩:=bindS hb1
   refine q_x (v:=(iV t_10)) hF hS (ex_rem rfl rfl ht_10) rfl rfl fun a hF=>?_
   obtain ⟨e_11,he_11,hb1⟩:=bindS hb1
   obtain ⟨vs12,at12,d12⟩:=h6.at he_11 1 rfl
   obtain rfl : vs12 = [(iV e_11)]:=d12
   refine q_x (v:=(elP s3 (k_7.toNat * 1))) hF hS (ex_indexAddr Tryz.underlying24 sz3 rfl rfl (h6.idx he_11)) rfl rfl fun a hF=>q_do rfl fun _ hK=>wp_storeE (e':=t_10) (us:=[(iV t_10)]) (vs:=[(iV e_11)]) 0 hF hS h6 sz3 rfl rfl rfl rfl rfl rfl rfl he_11 at12 rfl rfl rfl fun w q13 hS h13=>hK _ _ (q_end (n_sq (q_region (q_x (v:=(iV i_4)) hF hS (ex_move rfl) rfl rfl fun a hF=>q_x (v:=s1.v) hF hS (ex_move rfl) rfl rfl fun a hF=>q_x (v:=(iV k_7)) hF hS (ex_move rfl) rfl rfl fun a hF=>?_))))
   obtain ⟨e_14,he_14,hb1⟩:=bindS hb1
   obtain ⟨vs15,at15,d15⟩:=h1.at he_14 2 rfl
   obtain rfl : vs15 = [(strV e_14.Name),(iV e_14.Levels)]:=d15
   refine q_x (v:=(elP s1 (k_7.toNat * 2))) hF hS (ex_indexAddr Tryz.underlying27 sz100 rfl rfl (h1.idx he_14)) rfl rfl fun a hF=>q_x (v:=(elP s1 (k_7.toNat * 2 + 1))) hF hS (ex_fieldAddrE Tryz.underlying100 rfl sz3 rfl (h1.idx he_14) rfl) rfl rfl fun a hF=>q_x (v:=(iV e_14.Levels)) hF hS (ex_loadE1 1 Tryz.underlying3 rfl rfl ((at15).at) rfl rfl) rfl rfl fun a hF=>?_
   obtain ⟨t_16,ht_16,hb1⟩:=bindS hb1
   refine q_x (v:=(iV t_16)) hF hS (ex_quo rfl rfl ht_16) rfl rfl fun a hF=>q_x (v:=(iV t_16)) hF hS (ex_assign rfl) rfl rfl fun a hF=>q_end (n_ib (n_sq (q_region (q_x (v:=(iV k_7)) hF hS (ex_move rfl) rfl rfl fun a hF=>q_x (v:=(iV (w64 (k_7 - 1)))) hF hS (ex_ibin rfl rfl rfl) rfl rfl fun a hF=>q_x (v:=(iV (w64 (k_7 - 1)))) hF hS (ex_assign rfl) rfl rfl fun a hF=>q_end ?_))))
   obtain rfl:=someI hb1
   exact ⟨rfl,q13,_,_,_,rfl,hF.sub ⟨rfl,rfl,rfl,rfl,trivial⟩,hS,h13⟩
 ·rintro e a w ⟨q18,rfl,hF,hS,h18⟩
  refine x_ib (n_sq ?_)
  refine q_seq (q_region (q_x (v:=s3.v) hF hS (ex_move rfl) rfl rfl fun a hF=>q_x (v:=s3.v) hF hS (ex_assign rfl) rfl rfl fun a hF=>q_end (n_sq (q_ret ?_))))
  obtain rfl:=someI hr
  exact ret_of hF hS rfl (.tmp rfl .nil) ⟨q18,s3,rfl,hS.sel [0] (by decide),h18⟩

theorem c_impl_cellAt (p_g : impl_Geo) (p_s : List impl_Variable) (p_t : impl_Table) (p_i : Int) (r : Int × (List Int)) (hr : impl_cellAt p_g p_s p_t p_i = some r) (w0 : World) (m : Mem) (hv : Vis m w0) (s1 : Sl) (h1 : Rd m s1 p_g.Parents) (s2 : Sl) (h2 : Rd m s2 p_s) (s3 : Sl) (h3 : Rd m s3 p_t.Vars) (s4 : Sl) (h4 : Rd m s4 p_t.Where) :
  Ret Tryz.prog 63 [(.agg #[s1.v]),s2.v,(.agg #[(iV p_t.Level),s3.v,s4.v,(iV p_t.Sum)]),(iV p_i)] w0 (fun v w=>∃ (q0' : Piece) (s0' : Sl),v = (.tuple #[(iV r.1),s0'.v])∧St [] w0 w m [q0']∧OwnL m 3 q0' s0' r.2):=by
 unfold impl_cellAt at hr
 refine ret_start Tryz.func63 rfl 31 rfl rfl m hv fun a hF hS=>q_seq (q_region (q_box (cs:=[s1.v]) hF hS rfl rfl rfl fun a w b5 hF hS=>q_box (cs:=[(iV p_t.Level),s3.v,s4.v,(iV p_t.Sum)]) hF hS rfl rfl rfl fun a w b6 hF hS=>q_x (v:=(iV 0)) hF hS (ex_assign rfl) rfl rfl fun a hF=>q_x (v:=nilS.v) hF hS (ex_assign rfl) rfl rfl fun a hF=>q_end (n_sq (q_seq (q_region (q_x (v:=s2.v) hF hS (ex_move rfl) rfl rfl fun a hF=>q_x (v:=(.agg #[(iV p_t.Level),s3.v,s4.v,(iV p_t.Sum)])) hF hS (ex_loadA (vs:=[(iV p_t.Level),s3.v,s4.v,(iV p_t.Sum)]) 0 0 Tryz.underlying29 rfl sz29 rfl rfl rfl rfl) rfl rfl fun a hF=>?_))))))
 obtain ⟨t_7,ht_7,hr⟩:=bindS hr
 refine q_call (vs:=[s2.v,(.agg #[(iV p_t.Level),s3.v,s4.v,(iV p_t.Sum)])]) hF hS Tryz.func61 (by kernel_rfl) rfl rfl rfl (c_impl_crossed p_s p_t t_7 ht_7 _ m hS.vis s2 h2 s3 h3 s4 h4) ?_
 rintro a w _ ⟨q9,s9,rfl,hR8,h9⟩ hF hS2
 have hS : St _ _ _ _ [q9,[⟨b6,[(iV p_t.Level),s3.v,s4.v,(iV p_t.Sum)],29⟩],[⟨b5,[s1.v],26⟩]]:=hS.joinF hR8
 refine q_x (v:=s9.v) hF hS (ex_assign rfl) rfl rfl fun a hF=>q_end (n_sq (q_seq (q_region (q_x (v:=s9.v) hF hS (ex_move rfl) rfl rfl fun a hF=>?_))))
 obtain ⟨m11,hl11,hv11,hz11⟩:=hS.lend
 obtain ⟨t_10,ht_10,hr⟩:=bindS hr
 refine q_call (vs:=[s9.v]) hF hS Tryz.func60 (by kernel_rfl) rfl rfl rfl (c_impl_combinations t_7 t_10 ht_10 _ m11 hv11 s9 (h9.froz hl11 (hz11 0 _ rfl))) ?_
 rintro a w _ rfl hF hS
 refine q_x (v:=(iV t_10)) hF hS (ex_assign rfl) rfl rfl fun a hF=>q_end (n_sq (q_seq (e_region ⟨[],[]⟩ mixed fun w' hw'=>?_)))
 have hS:=hS.below hw'
 refine e_x (v:=(.agg #[s1.v])) 0 hF hS rfl (ex_loadA (vs:=[s1.v]) 2 0 Tryz.underlying26 rfl sz26 rfl rfl rfl rfl) rfl rfl (by kernel_rfl) (by kernel_rfl) (by kernel_rfl) (by kernel_rfl) fun a hF=>e_p (v:=(.pointer (some ⟨b6,0,none⟩))) 1 hF rfl (ex_fieldAddr Tryz.underlying29 rfl sz3 rfl rfl) rfl rfl (by kernel_rfl) (by kernel_rfl) (by kernel_rfl) fun a hF=>e_x (v:=(iV p_t.Level)) 2 hF hS rfl (ex_load1 1 0 Tryz.underlying3 rfl rfl rfl rfl) rfl rfl (by kernel_rfl) (by kernel_rfl) (by kernel_rfl) (by kernel_rfl) fun a hF=>e_p (v:=(iV p_i)) 4 hF rfl (ex_move rfl) rfl rfl (by kernel_rfl) (by kernel_rfl) (by kernel_rfl) fun a hF=>e_p (v:=(iV t_10)) 5 hF rfl (ex_move rfl) rfl rfl (by kernel_rfl) (by kernel_rfl) (by kernel_rfl) fun a hF=>?_
 obtain ⟨t_21,ht_21,hr⟩:=bindS hr
 refine e_p (v:=(iV t_21)) 6 hF rfl (ex_quo rfl rfl ht_21) rfl rfl (by kernel_rfl) (by kernel_rfl) (by kernel_rfl) fun a hF=>e_p (v:=s9.v) 9 hF rfl (ex_move rfl) rfl rfl (by kernel_rfl) (by kernel_rfl) (by kernel_rfl) fun a hF=>e_p (v:=(iV p_i)) 10 hF rfl (ex_move rfl) rfl rfl (by kernel_rfl) (by kernel_rfl) (by kernel_rfl) fun a hF=>e_p (v:=(iV t_10)) 11 hF rfl (ex_move rfl) rfl rfl (by kernel_rfl) (by kernel_rfl) (by kernel_rfl) fun a hF=>?_
 obtain ⟨t_34,ht_34,hr⟩:=bindS hr
 refine e_p (v:=(iV t_34)) 12 hF rfl (ex_rem rfl rfl ht_34) rfl rfl (by kernel_rfl) (by kernel_rfl) (by kernel_rfl) fun a hF=>e_one 3 (by kernel_rfl) ?_
 obtain ⟨t_35,ht_35,hr⟩:=bindS hr
 refine e_call (vs:=[(.agg #[s1.v]),(iV p_t.Level)]) hF hS rfl Tryz.func59 (by kernel_rfl) rfl rfl rfl (c_impl_areasAt p_g p_t.Level t_35 ht_35 _ m hS.vis s1 h1) ?_
 rintro a w _ ⟨q37,s37,rfl,hR36,h37⟩ hF hS2
 have hS : St _ _ _ _ [q37,q9,[⟨b6,[(iV p_t.Level),s3.v,s4.v,(iV p_t.Sum)],29⟩],[⟨b5,[s1.v],26⟩]]:=hS.joinF hR36
 obtain ⟨e_38,he_38,hr⟩:=bindS hr
 obtain ⟨vs39,at39,d39⟩:=h37.at he_38 1 rfl
 obtain rfl : vs39 = [(iV e_38)]:=d39
 refine e_p (v:=(elP s37 (t_21.toNat * 1))) 7 hF rfl (ex_indexAddr Tryz.underlying24 sz3 rfl rfl (h37.idx he_38)) rfl rfl (by kernel_rfl) (by kernel_rfl) (by kernel_rfl) fun a hF=>e_x (v:=(iV e_38)) 8 hF hS rfl (ex_loadE1 0 Tryz.underlying3 rfl rfl (at39.at 0 rfl) rfl rfl) rfl rfl (by kernel_rfl) (by kernel_rfl) (by kernel_rfl) (by kernel_rfl) fun a hF=>e_one 13 (by kernel_rfl) ?_
 obtain ⟨m41,hl41,hv41,hz41⟩:=hS.lend
 obtain ⟨t_40,ht_40,hr⟩:=bindS hr
 refine e_call (vs:=[s9.v,(iV t_34)]) hF hS rfl Tryz.func93 (by kernel_rfl) rfl rfl rfl (c_impl_valuesAt t_7 t_34 t_40 ht_40 _ m41 hv41 s9 (h9.froz hl41 (hz41 1 _ rfl))) ?_
 rintro a w _ ⟨q43,s43,rfl,hR42,h43⟩ hF hS2
 have hS : St _ _ _ _ [q43,q37,q9,[⟨b6,[(iV p_t.Level),s3.v,s4.v,(iV p_t.Sum)],29⟩],[⟨b5,[s1.v],26⟩]]:=hS.joinF hR42
 have h43:=h43.any m
 refine e_p (v:=(iV e_38)) 14 hF rfl (ex_assign rfl) rfl rfl (by kernel_rfl) (by kernel_rfl) (by kernel_rfl) fun a hF=>e_p (v:=s43.v) 15 hF rfl (ex_assign rfl) rfl rfl (by kernel_rfl) (by kernel_rfl) (by kernel_rfl) fun a hF=>e_end (by kernel_rfl) (n_sq (q_ret ?_)) _
 obtain rfl:=someI hr
 exact ret_of hF hS rfl (.tmp rfl (.tmp rfl .nil)) ⟨q43,s43,rfl,hS.sel [0] (by decide),h43⟩

theorem c_impl_cellText (p_g : impl_Geo) (p_s : List impl_Variable) (p_t : impl_Table) (p_i : Int) (r : (List UInt8)) (hr : impl_cellText p_g p_s p_t p_i = some r) (w0 : World) (m : Mem) (hv : Vis m w0) (ht : Tbl m) (s1 : Sl) (h1 : Rd m s1 p_g.Parents) (s2 : Sl) (h2 : Rd m s2 p_s) (s3 : Sl) (h3 : Rd m s3 p_t.Vars) (s4 : Sl) (h4 : Rd m s4 p_t.Where) :
  Ret Tryz.prog 26 [(.agg #[s1.v]),s2.v,(.agg #[(iV p_t.Level),s3.v,s4.v,(iV p_t.Sum)]),(iV p_i)] w0 (fun v _=>v = (strV r)):=by
 unfold impl_cellText at hr
 refine ret_start Tryz.func26 rfl 50 rfl rfl m hv fun a hF hS=>q_seq (q_region (q_box (cs:=[s1.v]) hF hS rfl rfl rfl fun a w b5 hF hS=>q_box (cs:=[(iV p_t.Level),s3.v,s4.v,(iV p_t.Sum)]) hF hS rfl rfl rfl fun a w b6 hF hS=>q_x (v:=(strV ([] : List UInt8))) hF hS (ex_assign rfl) rfl rfl fun a hF=>q_end (n_sq (q_seq (q_region (q_x (v:=(.agg #[s1.v])) hF hS (ex_loadA (vs:=[s1.v]) 1 0 Tryz.underlying26 rfl sz26 rfl rfl rfl rfl) rfl rfl fun a hF=>q_x (v:=s2.v) hF hS (ex_move rfl) rfl rfl fun a hF=>q_x (v:=(.agg #[(iV p_t.Level),s3.v,s4.v,(iV p_t.Sum)])) hF hS (ex_loadA (vs:=[(iV p_t.Level),s3.v,s4.v,(iV p_t.Sum)]) 0 0 Tryz.underlying29 rfl sz29 rfl rfl rfl rfl) rfl rfl fun a hF=>q_x (v:=(iV p_i)) hF hS (ex_move rfl) rfl rfl fun a hF=>?_))))))
 obtain ⟨t_7,ht_7,hr⟩:=bindS hr
 refine q_call (vs:=[(.agg #[s1.v]),s2.v,(.agg #[(iV p_t.Level),s3.v,s4.v,(iV p_t.Sum)]),(iV p_i)]) hF hS Tryz.func63 (by kernel_rfl) rfl rfl rfl (c_impl_cellAt p_g p_s p_t p_i t_7 ht_7 _ m hS.vis s1 h1 s2 h2 s3 h3 s4 h4) ?_
 rintro a w _ ⟨q9,s9,rfl,hR8,h9⟩ hF hS2
 have hS : St _ _ _ _ [q9,[⟨b6,[(iV p_t.Level),s3.v,s4.v,(iV p_t.Sum)],29⟩],[⟨b5,[s1.v],26⟩]]:=hS.joinF hR8
 refine q_x (v:=(.tuple #[(iV t_7.1),s9.v])) hF hS (ex_move rfl) rfl rfl fun a hF=>q_x (v:=(iV t_7.1)) hF hS (ex_extract rfl rfl) rfl rfl fun a hF=>q_x (v:=s9.v) hF hS (ex_extract rfl rfl) rfl rfl fun a hF=>q_x (v:=(iV t_7.1)) hF hS (ex_assign rfl) rfl rfl fun a hF=>q_x (v:=s9.v) hF hS (ex_assign rfl) rfl rfl fun a hF=>q_end (n_sq (q_seq (q_region (q_x (v:=(iV t_7.1)) hF hS (ex_move rfl) rfl rfl fun a hF=>?_))))
 obtain ⟨t_10,ht_10,hr⟩:=bindS hr
 refine q_call (vs:=[(iV t_7.1)]) hF hS Tryz.func27 (by kernel_rfl) rfl rfl rfl (c_strconv_Itoa t_7.1 t_10 ht_10 _ m hS.vis ht) ?_
 rintro a w _ rfl hF hS
 obtain ⟨t_11,ht_11,hr⟩:=bindS hr
 refine q_x (v:=(strV t_11)) hF hS (ex_strCat rfl rfl ht_11) rfl rfl fun a hF=>q_x (v:=(strV t_11)) hF hS (ex_assign rfl) rfl rfl fun a hF=>q_end (n_sq (q_seq (q_seq (q_region (q_x (v:=(.pointer (some ⟨b6,1,none⟩))) hF hS (ex_fieldAddr Tryz.underlying29 rfl sz24 rfl rfl) rfl rfl fun a hF=>q_x (v:=s3.v) hF hS (ex_load1 1 0 Tryz.underlying24 rfl rfl rfl rfl) rfl rfl fun a hF=>q_x (v:=(iV (goLen p_t.Vars))) hF hS (ex_len Tryz.underlying24 rfl h3.len) rfl rfl fun a hF=>q_x (v:=(iV 0)) hF hS (ex_move rfl) rfl rfl fun a hF=>q_end (n_sq (q_block ?_)))))))
 obtain ⟨text_25,hl1,hr⟩:=bindS hr
 refine q_loop (fun (s : (List UInt8) × Int) a w=>∃ text_12,∃ t_13,s = (text_12,t_13)∧Fr a 50 [(1,s2.v),(10,s9.v),(11,(strV text_12)),(26,s3.v),(27,(iV (goLen p_t.Vars))),(28,(iV t_13))]∧St [] w0 w m [q9]) (fun (text_25 : (List UInt8)) e a w=>e = .exit 0∧Fr a 50 [(11,(strV text_25))]∧St [] w0 w m []) hl1 ⟨_,_,rfl,hF.sub ⟨rfl,rfl,rfl,rfl,rfl,rfl,trivial⟩,hS.mask [true,false,false]⟩ ?_ ?_
 ·clear hF hS
  rintro s a w st ⟨text_12,t_13,rfl,hF,hS⟩ hb1
  unfold impl_cellText_l1 at hb1
  refine q_seq (q_region (q_x (v:=(.bool (decide (t_13 < (goLen p_t.Vars))))) hF hS (ex_ibin rfl rfl rfl) rfl rfl fun a hF=>q_end (n_sq (q_seq ?_))))
  rcases bcase (decide (t_13 < (goLen p_t.Vars))) with hc2 | hc2
  ·have hb1:=cond_f hc2 hb1
   refine q_cond_f hF rfl hc2 (q_exit (x_sq ?_))
   obtain rfl:=someI hb1
   exact ⟨nofun,.inl ⟨rfl,hF.sub ⟨rfl,trivial⟩,hS.mask [false]⟩⟩
  ·have hb1:=cond_t hc2 hb1
   refine q_cond_t hF rfl hc2 (q_skipc (n_sq (q_seq (q_block (q_seq (q_region (q_x (v:=(iV t_13)) hF hS (ex_move rfl) rfl rfl fun a hF=>?_)))))))
   obtain ⟨e_14,he_14,hb1⟩:=bindS hb1
   obtain ⟨vs15,at15,d15⟩:=h3.at he_14 1 rfl
   obtain rfl : vs15 = [(iV e_14)]:=d15
   refine q_x (v:=(elP s3 (t_13.toNat * 1))) hF hS (ex_indexAddr Tryz.underlying24 sz3 rfl rfl (h3.idx he_14)) rfl rfl fun a hF=>q_x (v:=(iV e_14)) hF hS (ex_loadE1 0 Tryz.underlying3 rfl rfl ((at15).at) rfl rfl) rfl rfl fun a hF=>q_x (v:=(iV t_13)) hF hS (ex_assign rfl) rfl rfl fun a hF=>q_x (v:=(iV e_14)) hF hS (ex_assign rfl) rfl rfl fun a hF=>q_end (n_sq (e_region ⟨[],[]⟩ mixed fun w' hw'=>?_))
   have hS:=hS.below hw'
   refine e_p (v:=(strV text_12)) 0 hF rfl (ex_move rfl) rfl rfl (by kernel_rfl) (by kernel_rfl) (by kernel_rfl) fun a hF=>e_p (v:=s2.v) 1 hF rfl (ex_move rfl) rfl rfl (by kernel_rfl) (by kernel_rfl) (by kernel_rfl) fun a hF=>e_p (v:=(iV e_14)) 2 hF rfl (ex_move rfl) rfl rfl (by kernel_rfl) (by kernel_rfl) (by kernel_rfl) fun a hF=>?_
   obtain ⟨e_16,he_16,hb1⟩:=bindS hb1
   obtain ⟨vs17,at17,d17⟩:=h2.at he_16 2 rfl
   obtain rfl : vs17 = [(strV e_16.Name),(iV e_16.Levels)]:=d17
   refine e_p (v:=(elP s2 (e_14.toNat * 2))) 3 hF rfl (ex_indexAddr Tryz.underlying27 sz100 rfl rfl (h2.idx he_16)) rfl rfl (by kernel_rfl) (by kernel_rfl) (by kernel_rfl) fun a hF=>e_p (v:=(elP s2 (e_14.toNat * 2 + 0))) 4 hF rfl (ex_fieldAddrE Tryz.underlying100 rfl sz9 rfl (h2.idx he_16) rfl) rfl rfl (by kernel_rfl) (by kernel_rfl) (by kernel_rfl) fun a hF=>e_x (v:=(strV e_16.Name)) 5 hF hS rfl (ex_loadE1 0 Tryz.underlying9 rfl rfl ((at17).at) rfl rfl) rfl rfl (by kernel_rfl) (by kernel_rfl) (by kernel_rfl) (by kernel_rfl) fun a hF=>?_
   obtain ⟨t_18,ht_18,hb1⟩:=bindS hb1
   refine e_p (v:=(strV t_18)) 6 hF rfl (ex_strCat rfl rfl ht_18) rfl rfl (by kernel_rfl) (by kernel_rfl) (by kernel_rfl) fun a hF=>?_
   obtain ⟨t_19,ht_19,hb1⟩:=bindS hb1
   refine e_p (v:=(strV t_19)) 7 hF rfl (ex_strCat rfl rfl ht_19) rfl rfl (by kernel_rfl) (by kernel_rfl) (by kernel_rfl) fun a hF=>e_p (v:=s9.v) 8 hF rfl (ex_move rfl) rfl rfl (by kernel_rfl) (by kernel_rfl) (by kernel_rfl) fun a hF=>e_p (v:=(iV t_13)) 9 hF rfl (ex_move rfl) rfl rfl (by kernel_rfl) (by kernel_rfl) (by kernel_rfl) fun a hF=>?_
   obtain ⟨e_20,he_20,hb1⟩:=bindS hb1
   obtain ⟨vs21,at21,d21⟩:=h9.at he_20 1 rfl
   obtain rfl : vs21 = [(iV e_20)]:=d21
   refine e_p (v:=(elP s9 (t_13.toNat * 1))) 10 hF rfl (ex_indexAddr Tryz.underlying24 sz3 rfl rfl (h9.idx he_20)) rfl rfl (by kernel_rfl) (by kernel_rfl) (by kernel_rfl) fun a hF=>e_x (v:=(iV e_20)) 11 hF hS rfl (ex_loadE1 0 Tryz.underlying3 rfl rfl (at21.at 0 rfl) rfl rfl) rfl rfl (by kernel_rfl) (by kernel_rfl) (by kernel_rfl) (by kernel_rfl) fun a hF=>e_one 12 (by kernel_rfl) ?_
   obtain ⟨t_22,ht_22,hb1⟩:=bindS hb1
   refine e_call (vs:=[(iV e_20)]) hF hS rfl Tryz.func27 (by kernel_rfl) rfl rfl rfl (c_strconv_Itoa e_20 t_22 ht_22 _ m hS.vis ht) ?_
   rintro a w _ rfl hF hS
   obtain ⟨t_23,ht_23,hb1⟩:=bindS hb1
   refine e_p (v:=(strV t_23)) 13 hF rfl (ex_strCat rfl rfl ht_23) rfl rfl (by kernel_rfl) (by kernel_rfl) (by kernel_rfl) fun a hF=>?_
   obtain ⟨t_24,ht_24,hb1⟩:=bindS hb1
   refine e_p (v:=(strV t_24)) 14 hF rfl (ex_strCat rfl rfl ht_24) rfl rfl (by kernel_rfl) (by kernel_rfl) (by kernel_rfl) fun a hF=>e_p (v:=(strV t_24)) 15 hF rfl (ex_assign rfl) rfl rfl (by kernel_rfl) (by kernel_rfl) (by kernel_rfl) fun a hF=>e_end (by kernel_rfl) (n_ib (n_sq ?_)) _
   refine q_region (q_x (v:=(iV (w64 (t_13 + 1)))) hF hS (ex_ibin rfl rfl rfl) rfl rfl fun a hF=>q_x (v:=(iV (w64 (t_13 + 1)))) hF hS (ex_move rfl) rfl rfl fun a hF=>q_end ?_)
   obtain rfl:=someI hb1
   exact ⟨rfl,_,_,rfl,hF.sub ⟨rfl,rfl,rfl,rfl,rfl,rfl,trivial⟩,hS⟩
 ·rintro e a w ⟨rfl,hF,hS⟩
  refine x_ib (n_sq ?_)
  refine q_seq (q_region (q_x (v:=(strV text_25)) hF hS (ex_move rfl) rfl rfl fun a hF=>q_x (v:=(strV text_25)) hF hS (ex_assign rfl) rfl rfl fun a hF=>q_end (n_sq (q_ret ?_))))
  obtain rfl:=someI hr
  exact ret_of hF hS rfl (.tmp rfl .nil) rfl

theorem c_impl_ReportText (p_g : impl_Geo) (p_s : List impl_Variable) (p_t : impl_Table) (p_cells : List Int) (r : (List UInt8) × Bool) (hr : impl_ReportText p_g p_s p_t p_cells = some r) (w0 : World) (m : Mem) (hv : Vis m w0) (ht : Tbl m) (s1 : Sl) (h1 : Rd m s1 p_g.Parents) (s2 : Sl) (h2 : Rd m s2 p_s) (s3 : Sl) (h3 : Rd m s3 p_t.Vars) (s4 : Sl) (h4 : Rd m s4 p_t.Where) (s5 : Sl) (h5 : Rd m s5 p_cells) :
  Ret Tryz.prog 6 [(.agg #[s1.v]),s2.v,(.agg #[(iV p_t.Level),s3.v,s4.v,(iV p_t.Sum)]),s5.v] w0 (fun v _=>v = (.tuple #[(strV r.1),(.bool r.2)])):=by
 unfold impl_ReportText at hr
 refine ret_start Tryz.func6 rfl 47 rfl rfl m hv fun a hF hS=>q_seq (q_region (q_box (cs:=[s1.v]) hF hS rfl rfl rfl fun a w b6 hF hS=>q_box (cs:=[(iV p_t.Level),s3.v,s4.v,(iV p_t.Sum)]) hF hS rfl rfl rfl fun a w b7 hF hS=>q_x (v:=(strV ([] : List UInt8))) hF hS (ex_assign rfl) rfl rfl fun a hF=>q_x (v:=(.bool false)) hF hS (ex_assign rfl) rfl rfl fun a hF=>q_end (n_sq (q_seq (q_seq ?_)))))
 obtain ⟨t_11,hj1,hr⟩:=bindS hr
 refine q_join (fun a w=>Fr a 47 [(1,s2.v),(3,s5.v),(4,(.pointer (some ⟨b6,0,none⟩))),(6,(.pointer (some ⟨b7,0,none⟩))),(26,(.bool t_11))]∧St [] w0 w m [[⟨b7,[(iV p_t.Level),s3.v,s4.v,(iV p_t.Sum)],29⟩],[⟨b6,[s1.v],26⟩]]) ?_ ?_
 ·refine q_region (q_x (v:=(.agg #[s1.v])) hF hS (ex_loadA (vs:=[s1.v]) 1 0 Tryz.underlying26 rfl sz26 rfl rfl rfl rfl) rfl rfl fun a hF=>q_x (v:=s2.v) hF hS (ex_move rfl) rfl rfl fun a hF=>q_x (v:=(.agg #[(iV p_t.Level),s3.v,s4.v,(iV p_t.Sum)])) hF hS (ex_loadA (vs:=[(iV p_t.Level),s3.v,s4.v,(iV p_t.Sum)]) 0 0 Tryz.underlying29 rfl sz29 rfl rfl rfl rfl) rfl rfl fun a hF=>?_)
  obtain ⟨t_8,ht_8,hj1⟩:=bindS hj1
  refine q_call (vs:=[(.agg #[s1.v]),s2.v,(.agg #[(iV p_t.Level),s3.v,s4.v,(iV p_t.Sum)])]) hF hS Tryz.func22 (by kernel_rfl) rfl rfl rfl (c_impl_areTabled p_g p_s p_t t_8 ht_8 _ m hS.vis s1 h1 s2 h2 s3 h3 s4 h4) ?_
  rintro a w _ rfl hF hS
  refine q_x (v:=(.bool (!t_8))) hF hS (ex_not rfl) rfl rfl fun a hF=>q_x (v:=(.bool (!t_8))) hF hS (ex_move rfl) rfl rfl fun a hF=>?_
  rcases bcase (!t_8) with hc2 | hc2
  ·have hj1:=cond_f hc2 hj1
   refine q_xg (v:=s5.v) hF hS (ex_move rfl) (wanted_t hF rfl rfl rfl hc2) rfl fun a hF=>q_xg (v:=(.agg #[s1.v])) hF hS (ex_loadA (vs:=[s1.v]) 1 0 Tryz.underlying26 rfl sz26 rfl rfl rfl rfl) (wanted_t hF rfl rfl rfl hc2) rfl fun a hF=>q_xg (v:=s2.v) hF hS (ex_move rfl) (wanted_t hF rfl rfl rfl hc2) rfl fun a hF=>q_xg (v:=(.agg #[(iV p_t.Level),s3.v,s4.v,(iV p_t.Sum)])) hF hS (ex_loadA (vs:=[(iV p_t.Level),s3.v,s4.v,(iV p_t.Sum)]) 0 0 Tryz.underlying29 rfl sz29 rfl rfl rfl rfl) (wanted_t hF rfl rfl rfl hc2) rfl fun a hF=>?_
   obtain ⟨t_9,ht_9,hj1⟩:=bindS hj1
   refine q_callg (vs:=[(.agg #[s1.v]),s2.v,(.agg #[(iV p_t.Level),s3.v,s4.v,(iV p_t.Sum)])]) hF hS (wanted_t hF rfl rfl rfl hc2) Tryz.func24 (by kernel_rfl) rfl rfl rfl (c_impl_cellCount p_g p_s p_t t_9 ht_9 _ m hS.vis s1 h1 s2 h2 s3 h3 s4 h4) ?_
   rintro a w _ rfl hF hS
   obtain ⟨t_10,ht_10,hj1⟩:=bindS hj1
   refine q_callg (vs:=[s5.v,(iV t_9)]) hF hS (wanted_t hF rfl rfl rfl hc2) Tryz.func23 (by kernel_rfl) rfl rfl rfl (c_impl_areSmallIntegers p_cells t_9 t_10 ht_10 _ m hS.vis s5 h5) ?_
   rintro a w _ rfl hF hS
   refine q_xg (v:=(.bool (!t_10))) hF hS (ex_not rfl) (wanted_t hF rfl rfl rfl hc2) rfl fun a hF=>q_x (v:=(.bool (!t_10))) hF hS (ex_pick_f rfl rfl hc2) rfl rfl fun a hF=>q_end (n_jn ?_)
   obtain rfl:=someI hj1
   exact ⟨hF.sub ⟨rfl,rfl,rfl,rfl,rfl,trivial⟩,hS⟩
  ·have hj1:=cond_t hc2 hj1
   refine q_skip hF (wanted_f hF rfl rfl rfl hc2 rfl) rfl fun a hF=>q_skip hF (wanted_f hF rfl rfl rfl hc2 rfl) rfl fun a hF=>q_skip hF (wanted_f hF rfl rfl rfl hc2 rfl) rfl fun a hF=>q_skip hF (wanted_f hF rfl rfl rfl hc2 rfl) rfl fun a hF=>q_skip hF (wanted_f hF rfl rfl rfl hc2 rfl) rfl fun a hF=>q_skip hF (wanted_f hF rfl rfl rfl hc2 rfl) rfl fun a hF=>q_skip hF (wanted_f hF rfl rfl rfl hc2 rfl) rfl fun a hF=>q_x (v:=(.bool true)) hF hS (ex_pick_t rfl rfl hc2) rfl rfl fun a hF=>q_end (n_jn ?_)
   obtain rfl:=someI hj1
   exact ⟨hF.sub ⟨rfl,rfl,rfl,rfl,rfl,trivial⟩,hS⟩
 ·rintro a wb ⟨hF,hS⟩
  refine n_sq ?_
  rcases bcase (t_11) with hc3 | hc3
  ·have hr:=cond_f hc3 hr
   refine q_cond_f hF rfl hc3 (q_skipc (n_sq (q_seq (q_region (q_bnew hF hS rfl rfl rfl fun a w hF hB=>?_)))))
   have hSb:=hS
   have hS:=hB.st hSb
   refine q_end (n_sq (q_seq (q_seq (q_region (q_x (v:=s5.v) hF hS (ex_move rfl) rfl rfl fun a hF=>q_x (v:=(iV (goLen p_cells))) hF hS (ex_len Tryz.underlying24 rfl h5.len) rfl rfl fun a hF=>q_x (v:=(iV 0)) hF hS (ex_move rfl) rfl rfl fun a hF=>q_end (n_sq (q_block ?_)))))))
   obtain ⟨b_22,hl4,hr⟩:=bindS hr
   refine q_loop (fun (s : (List UInt8) × Int) a w=>∃ b_12,∃ t_13,s = (b_12,t_13)∧Fr a 47 [(1,s2.v),(4,(.pointer (some ⟨b6,0,none⟩))),(6,(.pointer (some ⟨b7,0,none⟩))),(10,(.pointer (some ⟨wb.heap.size,0,none⟩))),(27,s5.v),(28,(iV (goLen p_cells))),(29,(iV t_13))]∧Bd 59 wb w b_12) (fun (b_22 : (List UInt8)) e a w=>e = .exit 0∧Fr a 47 [(10,(.pointer (some ⟨wb.heap.size,0,none⟩)))]∧Bd 59 wb w b_22) hl4 ⟨_,_,rfl,hF.sub ⟨rfl,rfl,rfl,rfl,rfl,rfl,rfl,trivial⟩,hB⟩ ?_ ?_
   ·clear hF hS hB
    rintro s a w st ⟨b_12,t_13,rfl,hF,hB⟩ hb4
    have hS:=hB.st hSb
    unfold impl_ReportText_l1 at hb4
    refine q_seq (q_region (q_x (v:=(.bool (decide (t_13 < (goLen p_cells))))) hF hS (ex_ibin rfl rfl rfl) rfl rfl fun a hF=>q_end (n_sq (q_seq ?_))))
    rcases bcase (decide (t_13 < (goLen p_cells))) with hc5 | hc5
    ·have hb4:=cond_f hc5 hb4
     refine q_cond_f hF rfl hc5 (q_exit (x_sq ?_))
     obtain rfl:=someI hb4
     exact ⟨nofun,.inl ⟨rfl,hF.sub ⟨rfl,trivial⟩,hB⟩⟩
    ·have hb4:=cond_t hc5 hb4
     refine q_cond_t hF rfl hc5 (q_skipc (n_sq (q_seq (q_block (q_seq (q_region (q_x (v:=(iV t_13)) hF hS (ex_move rfl) rfl rfl fun a hF=>?_)))))))
     obtain ⟨e_14,he_14,hb4⟩:=bindS hb4
     obtain ⟨vs15,at15,d15⟩:=h5.at he_14 1 rfl
     obtain rfl : vs15 = [(iV e_14)]:=d15
     refine q_x (v:=(elP s5 (t_13.toNat * 1))) hF hS (ex_indexAddr Tryz.underlying24 sz3 rfl rfl (h5.idx he_14)) rfl rfl fun a hF=>q_x (v:=(iV e_14)) hF hS (ex_loadE1 0 Tryz.underlying3 rfl rfl ((at15).at) rfl rfl) rfl rfl fun a hF=>q_x (v:=(iV t_13)) hF hS (ex_assign rfl) rfl rfl fun a hF=>q_x (v:=(iV e_14)) hF hS (ex_assign rfl) rfl rfl fun a hF=>q_end (n_sq (q_region (q_x (v:=(.agg #[s1.v])) hF hS (ex_loadA (vs:=[s1.v]) 1 0 Tryz.underlying26 rfl sz26 rfl rfl rfl rfl) rfl rfl fun a hF=>q_x (v:=s2.v) hF hS (ex_move rfl) rfl rfl fun a hF=>q_x (v:=(.agg #[(iV p_t.Level),s3.v,s4.v,(iV p_t.Sum)])) hF hS (ex_loadA (vs:=[(iV p_t.Level),s3.v,s4.v,(iV p_t.Sum)]) 0 0 Tryz.underlying29 rfl sz29 rfl rfl rfl rfl) rfl rfl fun a hF=>q_x (v:=(iV t_13)) hF hS (ex_move rfl) rfl rfl fun a hF=>?_)))
     obtain ⟨t_16,ht_16,hb4⟩:=bindS hb4
     refine q_do rfl fun _ hK=>wp_call (vs:=[(.agg #[s1.v]),s2.v,(.agg #[(iV p_t.Level),s3.v,s4.v,(iV p_t.Sum)]),(iV t_13)]) hF hS Tryz.func26 (by kernel_rfl) rfl rfl rfl (c_impl_cellText p_g p_s p_t t_13 t_16 ht_16 _ m hS.vis ht s1 h1 s2 h2 s3 h3 s4 h4) fun a w _ hR hF hS hb=>hK _ _ ?_
     obtain rfl:=hR
     have hB:=hB.keep hb
     obtain ⟨t_17,ht_17,hb4⟩:=bindS hb4
     refine q_x (v:=(strV t_17)) hF hS (ex_strCat rfl rfl ht_17) rfl rfl fun a hF=>q_x (v:=(iV e_14)) hF hS (ex_move rfl) rfl rfl fun a hF=>?_
     obtain ⟨t_18,ht_18,hb4⟩:=bindS hb4
     refine q_do rfl fun _ hK=>wp_call (vs:=[(iV e_14)]) hF hS Tryz.func27 (by kernel_rfl) rfl rfl rfl (c_strconv_Itoa e_14 t_18 ht_18 _ m hS.vis ht) fun a w _ hR hF hS hb=>hK _ _ ?_
     obtain rfl:=hR
     have hB:=hB.keep hb
     obtain ⟨t_19,ht_19,hb4⟩:=bindS hb4
     refine q_x (v:=(strV t_19)) hF hS (ex_strCat rfl rfl ht_19) rfl rfl fun a hF=>?_
     obtain ⟨t_20,ht_20,hb4⟩:=bindS hb4
     refine q_x (v:=(strV t_20)) hF hS (ex_strCat rfl rfl ht_20) rfl rfl fun a hF=>?_
     obtain ⟨t_21,ht_21,hb4⟩:=bindS hb4
     refine q_do rfl fun _ hK=>wp_callX (vs:=[(.pointer (some ⟨wb.heap.size,0,none⟩)),(strV t_20)]) hF Tryz.func25 (by kernel_rfl) rfl rfl rfl (c_bwrite hB ht_21) fun a w _ hB hF=>hK _ _ ?_
     have hS:=hB.st hSb
     refine q_end (n_ib (n_sq (q_region (q_x (v:=(iV (w64 (t_13 + 1)))) hF hS (ex_ibin rfl rfl rfl) rfl rfl fun a hF=>q_x (v:=(iV (w64 (t_13 + 1)))) hF hS (ex_move rfl) rfl rfl fun a hF=>q_end ?_))))
     obtain rfl:=someI hb4
     exact ⟨rfl,_,_,rfl,hF.sub ⟨rfl,rfl,rfl,rfl,rfl,rfl,rfl,trivial⟩,hB⟩
   ·rintro e a w ⟨rfl,hF,hB⟩
    refine x_ib (n_sq ?_)
    refine q_seq (q_region (q_do rfl fun _ hK=>wp_callX (vs:=[(.pointer (some ⟨wb.heap.size,0,none⟩))]) hF Tryz.func28 (by kernel_rfl) rfl rfl rfl (c_bstr hB) fun a w _ hR hF=>hK _ _ ?_))
    obtain ⟨rfl,hb⟩:=hR
    have hS:=hSb.below hb
    refine q_x (v:=(strV b_22)) hF hS (ex_assign rfl) rfl rfl fun a hF=>q_x (v:=(.bool true)) hF hS (ex_assign rfl) rfl rfl fun a hF=>q_end (n_sq (q_ret ?_))
    obtain rfl:=someI hr
    exact ret_of hF hS rfl (.tmp rfl (.tmp rfl .nil)) rfl
  ·have hr:=cond_t hc3 hr
   refine q_cond_t hF rfl hc3 (q_seq (q_region (q_x (v:=(strV ([] : List UInt8))) hF hS (ex_assign rfl) rfl rfl fun a hF=>q_x (v:=(.bool false)) hF hS (ex_assign rfl) rfl rfl fun a hF=>q_end (n_sq (q_ret (r_sq ?_))))))
   obtain rfl:=someI hr
   exact ret_of hF hS rfl (.tmp rfl (.tmp rfl .nil)) rfl

theorem c_spec_l1All (p_l : List Int) (p_lo : Int) (p_hi : Int) (r : Bool) (hr : spec_l1All p_l p_lo p_hi = some r) (w0 : World) (m : Mem) (hv : Vis m w0) (s1 : Sl) (h1 : Rd m s1 p_l) :
  Ret Tryz.prog 65 [s1.v,(iV p_lo),(iV p_hi)] w0 (fun v _=>v = (.bool r)):=by
 unfold spec_l1All at hr
 refine ret_start Tryz.func65 rfl 21 rfl rfl m hv fun a hF hS=>q_seq (q_region (q_x (v:=(.bool false)) hF hS (ex_assign rfl) rfl rfl fun a hF=>q_end (n_sq (q_seq (q_seq (q_region (q_x (v:=s1.v) hF hS (ex_move rfl) rfl rfl fun a hF=>q_x (v:=(iV (goLen p_l))) hF hS (ex_len Tryz.underlying24 rfl h1.len) rfl rfl fun a hF=>q_x (v:=(iV 0)) hF hS (ex_move rfl) rfl rfl fun a hF=>q_end (n_sq (q_block ?_)))))))))
 obtain ⟨o1,hl1,hr⟩:=bindS hr
 refine q_loop (fun (t_2 : Int) a w=>Fr a 21 [(1,(iV p_lo)),(2,(iV p_hi)),(9,s1.v),(10,(iV (goLen p_l))),(11,(iV t_2))]∧St [] w0 w m []) (fun (o : (Unit) ⊕ (Bool)) e a w=>o = .inl ()∧e = .exit 0∧Fr a 21 []∧St [] w0 w m []) hl1 ⟨hF.sub ⟨rfl,rfl,rfl,rfl,rfl,trivial⟩,hS⟩ ?_ ?_
 ·clear hF hS
  rintro t_2 a w st ⟨hF,hS⟩ hb1
  unfold spec_l1All_l1 at hb1
  refine q_seq (q_region (q_x (v:=(.bool (decide (t_2 < (goLen p_l))))) hF hS (ex_ibin rfl rfl rfl) rfl rfl fun a hF=>q_end (n_sq (q_seq ?_))))
  rcases bcase (decide (t_2 < (goLen p_l))) with hc2 | hc2
  ·have hb1:=cond_f hc2 hb1
   refine q_cond_f hF rfl hc2 (q_exit (x_sq ?_))
   obtain rfl:=someI hb1
   exact ⟨nofun,.inl ⟨rfl,rfl,hF.sub trivial,hS⟩⟩
  ·have hb1:=cond_t hc2 hb1
   refine q_cond_t hF rfl hc2 (q_skipc (n_sq (q_seq (q_block (q_seq (q_region ?_))))))
   obtain ⟨e_3,he_3,hb1⟩:=bindS hb1
   obtain ⟨vs4,at4,d4⟩:=h1.at he_3 1 rfl
   obtain rfl : vs4 = [(iV e_3)]:=d4
   refine q_x (v:=(elP s1 (t_2.toNat * 1))) hF hS (ex_indexAddr Tryz.underlying24 sz3 rfl rfl (h1.idx he_3)) rfl rfl fun a hF=>q_x (v:=(iV e_3)) hF hS (ex_loadE1 0 Tryz.underlying3 rfl rfl ((at4).at) rfl rfl) rfl rfl fun a hF=>q_x (v:=(iV e_3)) hF hS (ex_assign rfl) rfl rfl fun a hF=>q_end (n_sq (q_seq (q_region (q_x (v:=(iV e_3)) hF hS (ex_move rfl) rfl rfl fun a hF=>q_x (v:=(iV p_lo)) hF hS (ex_move rfl) rfl rfl fun a hF=>q_x (v:=(iV p_hi)) hF hS (ex_move rfl) rfl rfl fun a hF=>?_))))
   obtain ⟨t_5,ht_5,hb1⟩:=bindS hb1
   refine q_call (vs:=[(iV e_3),(iV p_lo),(iV p_hi)]) hF hS Tryz.func38 (by kernel_rfl) rfl rfl rfl (c_spec_l1In e_3 p_lo p_hi t_5 ht_5 _ m hS.vis) ?_
   rintro a w _ rfl hF hS
   refine q_x (v:=(.bool (!t_5))) hF hS (ex_not rfl) rfl rfl fun a hF=>q_end (n_sq ?_)
   rcases bcase (!t_5) with hc3 | hc3
   ·have hb1:=cond_f hc3 hb1
    refine q_cond_f hF rfl hc3 (q_skipc (n_ib (n_sq (q_region (q_x (v:=(iV (w64 (t_2 + 1)))) hF hS (ex_ibin rfl rfl rfl) rfl rfl fun a hF=>q_x (v:=(iV (w64 (t_2 + 1)))) hF hS (ex_move rfl) rfl rfl fun a hF=>q_end ?_)))))
    obtain rfl:=someI hb1
    exact ⟨rfl,hF.sub ⟨rfl,rfl,rfl,rfl,rfl,trivial⟩,hS⟩
   ·have hb1:=cond_t hc3 hb1
    refine q_cond_t hF rfl hc3 (q_seq (q_region (q_x (v:=(.bool false)) hF hS (ex_assign rfl) rfl rfl fun a hF=>q_end (n_sq (q_ret (r_ib (r_sq ?_)))))))
    obtain rfl:=someI hb1
    refine ⟨nofun,.inr fun ho=>?_⟩
    subst ho
    refine r_ib (r_sq ?_)
    obtain rfl:=someI hr
    exact ret_of hF hS rfl (.tmp rfl .nil) rfl
 ·rintro e a w ⟨rfl,rfl,hF,hS⟩
  refine x_ib (n_sq ?_)
  refine q_seq (q_region (q_x (v:=(.bool true)) hF hS (ex_assign rfl) rfl rfl fun a hF=>q_end (n_sq (q_ret ?_))))
  obtain rfl:=someI hr
  exact ret_of hF hS rfl (.tmp rfl .nil) rfl

theorem c_spec_nCells (p_g : impl_Geo) (p_s : List impl_Variable) (p_t : impl_Table) (p_cells : List Int) (r : Bool) (hr : spec_nCells p_g p_s p_t p_cells = some r) (w0 : World) (m : Mem) (hv : Vis m w0) (s1 : Sl) (h1 : Rd m s1 p_g.Parents) (s2 : Sl) (h2 : Rd m s2 p_s) (s3 : Sl) (h3 : Rd m s3 p_t.Vars) (s4 : Sl) (h4 : Rd m s4 p_t.Where) (s5 : Sl) (h5 : Rd m s5 p_cells) :
  Ret Tryz.prog 29 [(.agg #[s1.v]),s2.v,(.agg #[(iV p_t.Level),s3.v,s4.v,(iV p_t.Sum)]),s5.v] w0 (fun v _=>v = (.bool r)):=by
 unfold spec_nCells at hr
 refine ret_start Tryz.func29 rfl 26 rfl rfl m hv fun a hF hS=>q_seq (q_region (q_box (cs:=[s1.v]) hF hS rfl rfl rfl fun a w b6 hF hS=>q_box (cs:=[(iV p_t.Level),s3.v,s4.v,(iV p_t.Sum)]) hF hS rfl rfl rfl fun a w b7 hF hS=>q_x (v:=(.bool false)) hF hS (ex_assign rfl) rfl rfl fun a hF=>q_end (n_sq (q_seq ?_))))
 obtain ⟨t_11,hj1,hr⟩:=bindS hr
 refine q_join (fun a w=>Fr a 26 [(8,(.bool t_11))]∧St [] w0 w m []) ?_ ?_
 ·refine q_region (q_x (v:=(.agg #[s1.v])) hF hS (ex_loadA (vs:=[s1.v]) 1 0 Tryz.underlying26 rfl sz26 rfl rfl rfl rfl) rfl rfl fun a hF=>q_x (v:=s2.v) hF hS (ex_move rfl) rfl rfl fun a hF=>q_x (v:=(.agg #[(iV p_t.Level),s3.v,s4.v,(iV p_t.Sum)])) hF hS (ex_loadA (vs:=[(iV p_t.Level),s3.v,s4.v,(iV p_t.Sum)]) 0 0 Tryz.underlying29 rfl sz29 rfl rfl rfl rfl) rfl rfl fun a hF=>?_)
  obtain ⟨t_8,ht_8,hj1⟩:=bindS hj1
  refine q_call (vs:=[(.agg #[s1.v]),s2.v,(.agg #[(iV p_t.Level),s3.v,s4.v,(iV p_t.Sum)])]) hF hS Tryz.func17 (by kernel_rfl) rfl rfl rfl (c_spec_uGood p_g p_s p_t t_8 ht_8 _ m hS.vis s1 h1 s2 h2 s3 h3 s4 h4) ?_
  rintro a w _ rfl hF hS
  refine q_x (v:=(.bool t_8)) hF hS (ex_move rfl) rfl rfl fun a hF=>?_
  rcases bcase (t_8) with hc2 | hc2
  ·have hj1:=cond_f hc2 hj1
   refine q_skip hF (wanted_f hF rfl rfl rfl hc2 rfl) rfl fun a hF=>q_skip hF (wanted_f hF rfl rfl rfl hc2 rfl) rfl fun a hF=>q_skip hF (wanted_f hF rfl rfl rfl hc2 rfl) rfl fun a hF=>q_skip hF (wanted_f hF rfl rfl rfl hc2 rfl) rfl fun a hF=>q_skip hF (wanted_f hF rfl rfl rfl hc2 rfl) rfl fun a hF=>q_skip hF (wanted_f hF rfl rfl rfl hc2 rfl) rfl fun a hF=>q_skip hF (wanted_f hF rfl rfl rfl hc2 rfl) rfl fun a hF=>q_x (v:=(.bool false)) hF hS (ex_pick_f rfl rfl hc2) rfl rfl fun a hF=>q_x (v:=(.bool false)) hF hS (ex_move rfl) rfl rfl fun a hF=>q_skip hF (wanted_f hF rfl rfl rfl rfl rfl) rfl fun a hF=>q_skip hF (wanted_f hF rfl rfl rfl rfl rfl) rfl fun a hF=>q_x (v:=(.bool false)) hF hS (ex_pick_f rfl rfl rfl) rfl rfl fun a hF=>q_x (v:=(.bool false)) hF hS (ex_assign rfl) rfl rfl fun a hF=>q_end (n_jn ?_)
   obtain rfl:=someI hj1
   exact ⟨hF.sub ⟨rfl,trivial⟩,hS.mask [false,false]⟩
  ·have hj1:=cond_t hc2 hj1
   refine q_xg (v:=s5.v) hF hS (ex_move rfl) (wanted_t hF rfl rfl rfl hc2) rfl fun a hF=>q_xg (v:=(iV (goLen p_cells))) hF hS (ex_len Tryz.underlying24 rfl h5.len) (wanted_t hF rfl rfl rfl hc2) rfl fun a hF=>q_xg (v:=(.agg #[s1.v])) hF hS (ex_loadA (vs:=[s1.v]) 1 0 Tryz.underlying26 rfl sz26 rfl rfl rfl rfl) (wanted_t hF rfl rfl rfl hc2) rfl fun a hF=>q_xg (v:=s2.v) hF hS (ex_move rfl) (wanted_t hF rfl rfl rfl hc2) rfl fun a hF=>q_xg (v:=(.agg #[(iV p_t.Level),s3.v,s4.v,(iV p_t.Sum)])) hF hS (ex_loadA (vs:=[(iV p_t.Level),s3.v,s4.v,(iV p_t.Sum)]) 0 0 Tryz.underlying29 rfl sz29 rfl rfl rfl rfl) (wanted_t hF rfl rfl rfl hc2) rfl fun a hF=>?_
   obtain ⟨t_9,ht_9,hj1⟩:=bindS hj1
   refine q_callg (vs:=[(.agg #[s1.v]),s2.v,(.agg #[(iV p_t.Level),s3.v,s4.v,(iV p_t.Sum)])]) hF hS (wanted_t hF rfl rfl rfl hc2) Tryz.func39 (by kernel_rfl) rfl rfl rfl (c_spec_uCount p_g p_s p_t t_9 ht_9 _ m hS.vis s1 h1 s2 h2 s3 h3 s4 h4) ?_
   rintro a w _ rfl hF hS
   refine q_xg (v:=(.bool ((goLen p_cells) == t_9))) hF hS (ex_ibin rfl rfl rfl) (wanted_t hF rfl rfl rfl hc2) rfl fun a hF=>q_x (v:=(.bool ((goLen p_cells) == t_9))) hF hS (ex_pick_t rfl rfl hc2) rfl rfl fun a hF=>q_x (v:=(.bool ((goLen p_cells) == t_9))) hF hS (ex_move rfl) rfl rfl fun a hF=>?_
   rcases bcase ((goLen p_cells) == t_9) with hc3 | hc3
   ·have hj1:=cond_f hc3 hj1
    refine q_skip hF (wanted_f hF rfl rfl rfl hc3 rfl) rfl fun a hF=>q_skip hF (wanted_f hF rfl rfl rfl hc3 rfl) rfl fun a hF=>q_x (v:=(.bool false)) hF hS (ex_pick_f rfl rfl hc3) rfl rfl fun a hF=>q_x (v:=(.bool false)) hF hS (ex_assign rfl) rfl rfl fun a hF=>q_end (n_jn ?_)
    obtain rfl:=someI hj1
    exact ⟨hF.sub ⟨rfl,trivial⟩,hS.mask [false,false]⟩
   ·have hj1:=cond_t hc3 hj1
    refine q_xg (v:=s5.v) hF hS (ex_move rfl) (wanted_t hF rfl rfl rfl hc3) rfl fun a hF=>?_
    obtain ⟨t_10,ht_10,hj1⟩:=bindS hj1
    refine q_callg (vs:=[s5.v,(iV (-1000000)),(iV 1000000)]) hF hS (wanted_t hF rfl rfl rfl hc3) Tryz.func65 (by kernel_rfl) rfl rfl rfl (c_spec_l1All p_cells (-1000000) 1000000 t_10 ht_10 _ m hS.vis s5 h5) ?_
    rintro a w _ rfl hF hS
    refine q_x (v:=(.bool t_10)) hF hS (ex_pick_t rfl rfl hc3) rfl rfl fun a hF=>q_x (v:=(.bool t_10)) hF hS (ex_assign rfl) rfl rfl fun a hF=>q_end (n_jn ?_)
    obtain rfl:=someI hj1
    exact ⟨hF.sub ⟨rfl,trivial⟩,hS.mask [false,false]⟩
 ·rintro a w ⟨hF,hS⟩
  refine n_sq (q_ret ?_)
  obtain rfl:=someI hr
  exact ret_of hF hS rfl (.tmp rfl .nil) rfl

theorem c_spec_sAt (p_s : List impl_Variable) (p_i : Int) (r : (List Int)) (hr : spec_sAt p_s p_i = some r) (w0 : World) (m : Mem) (hv : Vis m w0) (s1 : Sl) (h1 : Rd m s1 p_s) :
  Ret Tryz.prog 96 [s1.v,(iV p_i)] w0 (fun v w=>∃ (q0' : Piece) (s0' : Sl),v = s0'.v∧St [] w0 w m [q0']∧OwnL m 3 q0' s0' r):=by
 unfold spec_sAt at hr
 refine ret_start Tryz.func96 rfl 35 rfl rfl m hv fun a hF hS=>q_seq (q_region (q_x (v:=nilS.v) hF hS (ex_assign rfl) rfl rfl fun a hF=>q_end (n_sq (q_seq (q_region (q_x (v:=s1.v) hF hS (ex_move rfl) rfl rfl fun a hF=>q_x (v:=(iV (goLen p_s))) hF hS (ex_len Tryz.underlying27 rfl h1.len) rfl rfl fun a hF=>?_))))))
 obtain ⟨l_2,hl_2,hr⟩:=bindS hr
 refine q_do rfl fun _ hK=>wp_make (z:=(0 : Int)) hF hS Tryz.underlying24 inf3 rfl rfl rfl rfl rfl (by decide) hl_2 rfl fun a w q3 s3 hF hS h3 _=>hK _ _ (q_x (v:=s3.v) hF hS (ex_assign rfl) rfl rfl fun a hF=>q_end (n_sq (q_seq (q_seq (q_region (q_x (v:=s1.v) hF hS (ex_move rfl) rfl rfl fun a hF=>q_x (v:=(iV (goLen p_s))) hF hS (ex_len Tryz.underlying27 rfl h1.len) rfl rfl fun a hF=>q_x (v:=(iV (w64 ((goLen p_s) - 1)))) hF hS (ex_ibin rfl rfl rfl) rfl rfl fun a hF=>q_x (v:=(iV (w64 ((goLen p_s) - 1)))) hF hS (ex_assign rfl) rfl rfl fun a hF=>q_end (n_sq (q_block ?_))))))))
 obtain ⟨out_17,hl1,hr⟩:=bindS hr
 refine q_loop (fun (s : Int × (List Int) × Int) a w=>∃ (q6 : Piece),∃ i_4,∃ out_5,∃ k_7,s = (i_4,out_5,k_7)∧Fr a 35 [(0,s1.v),(1,(iV i_4)),(5,s3.v),(6,(iV k_7))]∧St [] w0 w m [q6]∧OwnL m 3 q6 s3 out_5) (fun (out_17 : (List Int)) e a w=>∃ (q18 : Piece),e = .exit 0∧Fr a 35 [(5,s3.v)]∧St [] w0 w m [q18]∧OwnL m 3 q18 s3 out_17) hl1 ⟨q3,_,_,_,rfl,hF.sub ⟨rfl,rfl,rfl,rfl,trivial⟩,hS,h3⟩ ?_ ?_
 ·clear hF hS
  rintro s a w st ⟨q6,i_4,out_5,k_7,rfl,hF,hS,h6⟩ hb1
  unfold spec_sAt_l1 at hb1
  refine q_seq (q_seq (q_region (q_x (v:=(iV k_7)) hF hS (ex_move rfl) rfl rfl fun a hF=>q_x (v:=(.bool (decide (0 ≤ k_7)))) hF hS (ex_ibin rfl rfl rfl) rfl rfl fun a hF=>q_end (n_sq ?_))))
  rcases bcase (decide (0 ≤ k_7)) with hc2 | hc2
  ·have hb1:=cond_f hc2 hb1
   refine q_cond_f hF rfl hc2 (q_exit (x_sq ?_))
   obtain rfl:=someI hb1
   exact ⟨nofun,.inl ⟨q6,rfl,hF.sub ⟨rfl,trivial⟩,hS,h6⟩⟩
  ·have hb1:=cond_t hc2 hb1
   refine q_cond_t hF rfl hc2 (q_skipc (n_sq (q_seq (q_block (q_seq (q_region (q_x (v:=s3.v) hF hS (ex_move rfl) rfl rfl fun a hF=>q_x (v:=(iV k_7)) hF hS (ex_move rfl) rfl rfl fun a hF=>q_x (v:=(iV i_4)) hF hS (ex_move rfl) rfl rfl fun a hF=>q_x (v:=s1.v) hF hS (ex_move rfl) rfl rfl fun a hF=>q_x (v:=(iV k_7)) hF hS (ex_move rfl) rfl rfl fun a hF=>?_)))))))
   obtain ⟨e_8,he_8,hb1⟩:=bindS hb1
   obtain ⟨vs9,at9,d9⟩:=h1.at he_8 2 rfl
   obtain rfl : vs9 = [(strV e_8.Name),(iV e_8.Levels)]:=d9
   refine q_x (v:=(elP s1 (k_7.toNat * 2))) hF hS (ex_indexAddr Tryz.underlying27 sz100 rfl rfl (h1.idx he_8)) rfl rfl fun a hF=>q_x (v:=(elP s1 (k_7.toNat * 2 + 1))) hF hS (ex_fieldAddrE Tryz.underlying100 rfl sz3 rfl (h1.idx he_8) rfl) rfl rfl fun a hF=>q_x (v:=(iV e_8.Levels)) hF hS (ex_loadE1 1 Tryz.underlying3 rfl rfl ((at9).at) rfl rfl) rfl rfl fun a hF=>?_
   obtain ⟨t_10,ht_10,hb1⟩:=bindS hb1
   refine q_x (v:=(iV t_10)) hF hS (ex_rem rfl rfl ht_10) rfl rfl fun a hF=>?_
   obtain ⟨e_11,he_11,hb1⟩:=bindS hb1
   obtain ⟨vs12,at12,d12⟩:=h6.at he_11 1 rfl
   obtain rfl : vs12 = [(iV e_11)]:=d12
   refine q_x (v:=(elP s3 (k_7.toNat * 1))) hF hS (ex_indexAddr Tryz.underlying24 sz3 rfl rfl (h6.idx he_11)) rfl rfl fun a hF=>q_do rfl fun _ hK=>wp_storeE (e':=t_10) (us:=[(iV t_10)]) (vs:=[(iV e_11)]) 0 hF hS h6 sz3 rfl rfl rfl rfl rfl rfl rfl he_11 at12 rfl rfl rfl fun w q13 hS h13=>hK _ _ (q_end (n_sq (q_region (q_x (v:=(iV i_4)) hF hS (ex_move rfl) rfl rfl fun a hF=>q_x (v:=s1.v) hF hS (ex_move rfl) rfl rfl fun a hF=>q_x (v:=(iV k_7)) hF hS (ex_move rfl) rfl rfl fun a hF=>?_))))
   obtain ⟨e_14,he_14,hb1⟩:=bindS hb1
   obtain ⟨vs15,at15,d15⟩:=h1.at he_14 2 rfl
   obtain rfl : vs15 = [(strV e_14.Name),(iV e_14.Levels)]:=d15
   refine q_x (v:=(elP s1 (k_7.toNat * 2))) hF hS (ex_indexAddr Tryz.underlying27 sz100 rfl rfl (h1.idx he_14)) rfl rfl fun a hF=>q_x (v:=(elP s1 (k_7.toNat * 2 + 1))) hF hS (ex_fieldAddrE Tryz.underlying100 rfl sz3 rfl (h1.idx he_14) rfl) rfl rfl fun a hF=>q_x (v:=(iV e_14.Levels)) hF hS (ex_loadE1 1 Tryz.underlying3 rfl rfl ((at15).at) rfl rfl) rfl rfl fun a hF=>?_
   obtain ⟨t_16,ht_16,hb1⟩:=bindS hb1
   refine q_x (v:=(iV t_16)) hF hS (ex_quo rfl rfl ht_16) rfl rfl fun a hF=>q_x (v:=(iV t_16)) hF hS (ex_assign rfl) rfl rfl fun a hF=>q_end (n_ib (n_sq (q_region (q_x (v:=(iV k_7)) hF hS (ex_move rfl) rfl rfl fun a hF=>q_x (v:=(iV (w64 (k_7 - 1)))) hF hS (ex_ibin rfl rfl rfl) rfl rfl fun a hF=>q_x (v:=(iV (w64 (k_7 - 1)))) hF hS (ex_assign rfl) rfl rfl fun a hF=>q_end ?_))))
   obtain rfl:=someI hb1
   exact ⟨rfl,q13,_,_,_,rfl,hF.sub ⟨rfl,rfl,rfl,rfl,trivial⟩,hS,h13⟩
 ·rintro e a w ⟨q18,rfl,hF,hS,h18⟩
  refine x_ib (n_sq ?_)
  refine q_seq (q_region (q_x (v:=s3.v) hF hS (ex_move rfl) rfl rfl fun a hF=>q_x (v:=s3.v) hF hS (ex_assign rfl) rfl rfl fun a hF=>q_end (n_sq (q_ret ?_))))
  obtain rfl:=someI hr
  exact ret_of hF hS rfl (.tmp rfl .nil) ⟨q18,s3,rfl,hS.sel [0] (by decide),h18⟩

theorem c_spec_CellAt (p_g : impl_Geo) (p_s : List impl_Variable) (p_t : impl_Table) (p_i : Int) (r : Int × (List Int) × Bool) (hr : spec_CellAt p_g p_s p_t p_i = some r) (w0 : World) (m : Mem) (hv : Vis m w0) (s1 : Sl) (h1 : Rd m s1 p_g.Parents) (s2 : Sl) (h2 : Rd m s2 p_s) (s3 : Sl) (h3 : Rd m s3 p_t.Vars) (s4 : Sl) (h4 : Rd m s4 p_t.Where) :
  Ret Tryz.prog 71 [(.agg #[s1.v]),s2.v,(.agg #[(iV p_t.Level),s3.v,s4.v,(iV p_t.Sum)]),(iV p_i)] w0 (fun v w=>∃ (q0' : Piece) (s0' : Sl),v = (.tuple #[(iV r.1),s0'.v,(.bool r.2.2)])∧St [] w0 w m [q0']∧OwnL m 3 q0' s0' r.2.1):=by
 unfold spec_CellAt at hr
 refine ret_start Tryz.func71 rfl 48 rfl rfl m hv fun a hF hS=>q_seq (q_region (q_box (cs:=[s1.v]) hF hS rfl rfl rfl fun a w b5 hF hS=>q_box (cs:=[(iV p_t.Level),s3.v,s4.v,(iV p_t.Sum)]) hF hS rfl rfl rfl fun a w b6 hF hS=>q_x (v:=(iV 0)) hF hS (ex_assign rfl) rfl rfl fun a hF=>q_x (v:=nilS.v) hF hS (ex_assign rfl) rfl rfl fun a hF=>q_x (v:=(.bool false)) hF hS (ex_assign rfl) rfl rfl fun a hF=>q_end (n_sq (q_seq (q_seq ?_)))))
 obtain ⟨t_10,hj1,hr⟩:=bindS hr
 refine q_join (fun a w=>Fr a 48 [(1,s2.v),(3,(iV p_i)),(4,(.pointer (some ⟨b5,0,none⟩))),(6,(.pointer (some ⟨b6,0,none⟩))),(27,(.bool t_10))]∧St [] w0 w m [[⟨b6,[(iV p_t.Level),s3.v,s4.v,(iV p_t.Sum)],29⟩],[⟨b5,[s1.v],26⟩]]) ?_ ?_
 ·refine q_region (q_x (v:=(.agg #[s1.v])) hF hS (ex_loadA (vs:=[s1.v]) 1 0 Tryz.underlying26 rfl sz26 rfl rfl rfl rfl) rfl rfl fun a hF=>q_x (v:=s2.v) hF hS (ex_move rfl) rfl rfl fun a hF=>q_x (v:=(.agg #[(iV p_t.Level),s3.v,s4.v,(iV p_t.Sum)])) hF hS (ex_loadA (vs:=[(iV p_t.Level),s3.v,s4.v,(iV p_t.Sum)]) 0 0 Tryz.underlying29 rfl sz29 rfl rfl rfl rfl) rfl rfl fun a hF=>?_)
  obtain ⟨t_7,ht_7,hj1⟩:=bindS hj1
  refine q_call (vs:=[(.agg #[s1.v]),s2.v,(.agg #[(iV p_t.Level),s3.v,s4.v,(iV p_t.Sum)])]) hF hS Tryz.func17 (by kernel_rfl) rfl rfl rfl (c_spec_uGood p_g p_s p_t t_7 ht_7 _ m hS.vis s1 h1 s2 h2 s3 h3 s4 h4) ?_
  rintro a w _ rfl hF hS
  refine q_x (v:=(.bool (!t_7))) hF hS (ex_not rfl) rfl rfl fun a hF=>q_x (v:=(.bool (!t_7))) hF hS (ex_move rfl) rfl rfl fun a hF=>?_
  rcases bcase (!t_7) with hc2 | hc2
  ·have hj1:=cond_f hc2 hj1
   refine q_xg (v:=(iV p_i)) hF hS (ex_move rfl) (wanted_t hF rfl rfl rfl hc2) rfl fun a hF=>q_xg (v:=(.agg #[s1.v])) hF hS (ex_loadA (vs:=[s1.v]) 1 0 Tryz.underlying26 rfl sz26 rfl rfl rfl rfl) (wanted_t hF rfl rfl rfl hc2) rfl fun a hF=>q_xg (v:=s2.v) hF hS (ex_move rfl) (wanted_t hF rfl rfl rfl hc2) rfl fun a hF=>q_xg (v:=(.agg #[(iV p_t.Level),s3.v,s4.v,(iV p_t.Sum)])) hF hS (ex_loadA (vs:=[(iV p_t.Level),s3.v,s4.v,(iV p_t.Sum)]) 0 0 Tryz.underlying29 rfl sz29 rfl rfl rfl rfl) (wanted_t hF rfl rfl rfl hc2) rfl fun a hF=>?_
   obtain ⟨t_8,ht_8,hj1⟩:=bindS hj1
   refine q_callg (vs:=[(.agg #[s1.v]),s2.v,(.agg #[(iV p_t.Level),s3.v,s4.v,(iV p_t.Sum)])]) hF hS (wanted_t hF rfl rfl rfl hc2) Tryz.func39 (by kernel_rfl) rfl rfl rfl (c_spec_uCount p_g p_s p_t t_8 ht_8 _ m hS.vis s1 h1 s2 h2 s3 h3 s4 h4) ?_
   rintro a w _ rfl hF hS
   refine q_xg (v:=(iV (w64 (t_8 - 1)))) hF hS (ex_ibin rfl rfl rfl) (wanted_t hF rfl rfl rfl hc2) rfl fun a hF=>?_
   obtain ⟨t_9,ht_9,hj1⟩:=bindS hj1
   refine q_callg (vs:=[(iV p_i),(iV 0),(iV (w64 (t_8 - 1)))]) hF hS (wanted_t hF rfl rfl rfl hc2) Tryz.func38 (by kernel_rfl) rfl rfl rfl (c_spec_l1In p_i 0 (w64 (t_8 - 1)) t_9 ht_9 _ m hS.vis) ?_
   rintro a w _ rfl hF hS
   refine q_xg (v:=(.bool (!t_9))) hF hS (ex_not rfl) (wanted_t hF rfl rfl rfl hc2) rfl fun a hF=>q_x (v:=(.bool (!t_9))) hF hS (ex_pick_f rfl rfl hc2) rfl rfl fun a hF=>q_end (n_jn ?_)
   obtain rfl:=someI hj1
   exact ⟨hF.sub ⟨rfl,rfl,rfl,rfl,rfl,trivial⟩,hS⟩
  ·have hj1:=cond_t hc2 hj1
   refine q_skip hF (wanted_f hF rfl rfl rfl hc2 rfl) rfl fun a hF=>q_skip hF (wanted_f hF rfl rfl rfl hc2 rfl) rfl fun a hF=>q_skip hF (wanted_f hF rfl rfl rfl hc2 rfl) rfl fun a hF=>q_skip hF (wanted_f hF rfl rfl rfl hc2 rfl) rfl fun a hF=>q_skip hF (wanted_f hF rfl rfl rfl hc2 rfl) rfl fun a hF=>q_skip hF (wanted_f hF rfl rfl rfl hc2 rfl) rfl fun a hF=>q_skip hF (wanted_f hF rfl rfl rfl hc2 rfl) rfl fun a hF=>q_skip hF (wanted_f hF rfl rfl rfl hc2 rfl) rfl fun a hF=>q_x (v:=(.bool true)) hF hS (ex_pick_t rfl rfl hc2) rfl rfl fun a hF=>q_end (n_jn ?_)
   obtain rfl:=someI hj1
   exact ⟨hF.sub ⟨rfl,rfl,rfl,rfl,rfl,trivial⟩,hS⟩
 ·rintro a w ⟨hF,hS⟩
  refine n_sq ?_
  rcases bcase (t_10) with hc3 | hc3
  ·have hr:=cond_f hc3 hr
   refine q_cond_f hF rfl hc3 (q_skipc (n_sq (q_seq (q_region (q_x (v:=s2.v) hF hS (ex_move rfl) rfl rfl fun a hF=>q_x (v:=(.pointer (some ⟨b6,1,none⟩))) hF hS (ex_fieldAddr Tryz.underlying29 rfl sz24 rfl rfl) rfl rfl fun a hF=>q_x (v:=s3.v) hF hS (ex_load1 0 0 Tryz.underlying24 rfl rfl rfl rfl) rfl rfl fun a hF=>?_)))))
   obtain ⟨t_11,ht_11,hr⟩:=bindS hr
   refine q_call (vs:=[s2.v,s3.v]) hF hS Tryz.func70 (by kernel_rfl) rfl rfl rfl (c_spec_sPart p_s p_t.Vars t_11 ht_11 _ m hS.vis s2 h2 s3 h3) ?_
   rintro a w _ ⟨q13,s13,rfl,hR12,h13⟩ hF hS2
   have hS : St _ _ _ _ [q13,[⟨b6,[(iV p_t.Level),s3.v,s4.v,(iV p_t.Sum)],29⟩],[⟨b5,[s1.v],26⟩]]:=hS.joinF hR12
   refine q_x (v:=s13.v) hF hS (ex_assign rfl) rfl rfl fun a hF=>q_end (n_sq (q_seq (q_region (q_x (v:=s13.v) hF hS (ex_move rfl) rfl rfl fun a hF=>?_))))
   obtain ⟨m15,hl15,hv15,hz15⟩:=hS.lend
   obtain ⟨t_14,ht_14,hr⟩:=bindS hr
   refine q_call (vs:=[s13.v]) hF hS Tryz.func69 (by kernel_rfl) rfl rfl rfl (c_spec_sCount t_11 t_14 ht_14 _ m15 hv15 s13 (h13.froz hl15 (hz15 0 _ rfl))) ?_
   rintro a w _ rfl hF hS
   refine q_x (v:=(iV t_14)) hF hS (ex_assign rfl) rfl rfl fun a hF=>q_end (n_sq (q_seq (e_region ⟨[],[]⟩ mixed fun w' hw'=>?_)))
   have hS:=hS.below hw'
   refine e_x (v:=(.agg #[s1.v])) 0 hF hS rfl (ex_loadA (vs:=[s1.v]) 2 0 Tryz.underlying26 rfl sz26 rfl rfl rfl rfl) rfl rfl (by kernel_rfl) (by kernel_rfl) (by kernel_rfl) (by kernel_rfl) fun a hF=>e_p (v:=(.pointer (some ⟨b6,0,none⟩))) 1 hF rfl (ex_fieldAddr Tryz.underlying29 rfl sz3 rfl rfl) rfl rfl (by kernel_rfl) (by kernel_rfl) (by kernel_rfl) fun a hF=>e_x (v:=(iV p_t.Level)) 2 hF hS rfl (ex_load1 1 0 Tryz.underlying3 rfl rfl rfl rfl) rfl rfl (by kernel_rfl) (by kernel_rfl) (by kernel_rfl) (by kernel_rfl) fun a hF=>e_p (v:=(iV p_i)) 4 hF rfl (ex_move rfl) rfl rfl (by kernel_rfl) (by kernel_rfl) (by kernel_rfl) fun a hF=>e_p (v:=(iV t_14)) 5 hF rfl (ex_move rfl) rfl rfl (by kernel_rfl) (by kernel_rfl) (by kernel_rfl) fun a hF=>?_
   obtain ⟨t_25,ht_25,hr⟩:=bindS hr
   refine e_p (v:=(iV t_25)) 6 hF rfl (ex_quo rfl rfl ht_25) rfl rfl (by kernel_rfl) (by kernel_rfl) (by kernel_rfl) fun a hF=>e_p (v:=s13.v) 9 hF rfl (ex_move rfl) rfl rfl (by kernel_rfl) (by kernel_rfl) (by kernel_rfl) fun a hF=>e_p (v:=(iV p_i)) 10 hF rfl (ex_move rfl) rfl rfl (by kernel_rfl) (by kernel_rfl) (by kernel_rfl) fun a hF=>e_p (v:=(iV t_14)) 11 hF rfl (ex_move rfl) rfl rfl (by kernel_rfl) (by kernel_rfl) (by kernel_rfl) fun a hF=>?_
   obtain ⟨t_38,ht_38,hr⟩:=bindS hr
   refine e_p (v:=(iV t_38)) 12 hF rfl (ex_rem rfl rfl ht_38) rfl rfl (by kernel_rfl) (by kernel_rfl) (by kernel_rfl) fun a hF=>e_one 3 (by kernel_rfl) ?_
   obtain ⟨t_39,ht_39,hr⟩:=bindS hr
   refine e_call (vs:=[(.agg #[s1.v]),(iV p_t.Level)]) hF hS rfl Tryz.func48 (by kernel_rfl) rfl rfl rfl (c_spec_gLevel p_g p_t.Level t_39 ht_39 _ m hS.vis s1 h1) ?_
   rintro a w _ ⟨q41,s41,rfl,hR40,h41⟩ hF hS2
   have hS : St _ _ _ _ [q41,q13,[⟨b6,[(iV p_t.Level),s3.v,s4.v,(iV p_t.Sum)],29⟩],[⟨b5,[s1.v],26⟩]]:=hS.joinF hR40
   obtain ⟨e_42,he_42,hr⟩:=bindS hr
   obtain ⟨vs43,at43,d43⟩:=h41.at he_42 1 rfl
   obtain rfl : vs43 = [(iV e_42)]:=d43
   refine e_p (v:=(elP s41 (t_25.toNat * 1))) 7 hF rfl (ex_indexAddr Tryz.underlying24 sz3 rfl rfl (h41.idx he_42)) rfl rfl (by kernel_rfl) (by kernel_rfl) (by kernel_rfl) fun a hF=>e_x (v:=(iV e_42)) 8 hF hS rfl (ex_loadE1 0 Tryz.underlying3 rfl rfl (at43.at 0 rfl) rfl rfl) rfl rfl (by kernel_rfl) (by kernel_rfl) (by kernel_rfl) (by kernel_rfl) fun a hF=>e_one 13 (by kernel_rfl) ?_
   obtain ⟨m45,hl45,hv45,hz45⟩:=hS.lend
   obtain ⟨t_44,ht_44,hr⟩:=bindS hr
   refine e_call (vs:=[s13.v,(iV t_38)]) hF hS rfl Tryz.func96 (by kernel_rfl) rfl rfl rfl (c_spec_sAt t_11 t_38 t_44 ht_44 _ m45 hv45 s13 (h13.froz hl45 (hz45 1 _ rfl))) ?_
   rintro a w _ ⟨q47,s47,rfl,hR46,h47⟩ hF hS2
   have hS : St _ _ _ _ [q47,q41,q13,[⟨b6,[(iV p_t.Level),s3.v,s4.v,(iV p_t.Sum)],29⟩],[⟨b5,[s1.v],26⟩]]:=hS.joinF hR46
   have h47:=h47.any m
   refine e_p (v:=(iV e_42)) 14 hF rfl (ex_assign rfl) rfl rfl (by kernel_rfl) (by kernel_rfl) (by kernel_rfl) fun a hF=>e_p (v:=s47.v) 15 hF rfl (ex_assign rfl) rfl rfl (by kernel_rfl) (by kernel_rfl) (by kernel_rfl) fun a hF=>e_p (v:=(.bool true)) 16 hF rfl (ex_assign rfl) rfl rfl (by kernel_rfl) (by kernel_rfl) (by kernel_rfl) fun a hF=>e_end (by kernel_rfl) (n_sq (q_ret ?_)) _
   obtain rfl:=someI hr
   exact ret_of hF hS rfl (.tmp rfl (.tmp rfl (.tmp rfl .nil))) ⟨q47,s47,rfl,hS.sel [0] (by decide),h47⟩
  ·have hr:=cond_t hc3 hr
   refine q_cond_t hF rfl hc3 (q_seq (q_region (q_x (v:=(iV 0)) hF hS (ex_assign rfl) rfl rfl fun a hF=>q_x (v:=nilS.v) hF hS (ex_assign rfl) rfl rfl fun a hF=>q_x (v:=(.bool false)) hF hS (ex_assign rfl) rfl rfl fun a hF=>q_end (n_sq (q_ret (r_sq ?_))))))
   obtain rfl:=someI hr
   exact ret_of hF hS rfl (.tmp rfl (.tmp rfl (.tmp rfl .nil))) ⟨[],nilS,rfl,hS.sel [2] (by decide),(OwnL.nil (α:=Int) m 3)⟩

theorem cB_spec_l1Num (rcf : Int → Option ((List UInt8))) (ih : ∀ (p_n : Int) (r : (List UInt8)) (hr : rcf p_n = some r) (w0 : World) (m : Mem) (hv : Vis m w0),
  Ret Tryz.prog 72 [(iV p_n)] w0 (fun v _=>v = (strV r))) :
  ∀ (p_n : Int) (r : (List UInt8)) (hr : spec_l1Num_B rcf p_n = some r) (w0 : World) (m : Mem) (hv : Vis m w0),
  Ret Tryz.prog 72 [(iV p_n)] w0 (fun v _=>v = (strV r)):=by
 intro p_n r hr w0 m hv
 unfold spec_l1Num_B at hr
 refine ret_start Tryz.func72 rfl 20 rfl rfl m hv fun a hF hS=>q_seq (q_region (q_x (v:=(strV ([] : List UInt8))) hF hS (ex_assign rfl) rfl rfl fun a hF=>q_end (n_sq (q_seq (q_seq (q_region (q_x (v:=(iV p_n)) hF hS (ex_move rfl) rfl rfl fun a hF=>q_x (v:=(.bool (decide (p_n < 10)))) hF hS (ex_ibin rfl rfl rfl) rfl rfl fun a hF=>q_end (n_sq ?_))))))))
 rcases bcase (decide (p_n < 10)) with hc1 | hc1
 ·have hr:=cond_f hc1 hr
  refine q_cond_f hF rfl hc1 (q_skipc (n_sq (q_seq ?_)))
  obtain ⟨t_12,hj2,hr⟩:=bindS hr
  refine q_join (fun a w=>Fr a 20 [(2,(strV t_12))]∧St [] w0 w m []) ?_ ?_
  ·refine e_region ⟨[],[]⟩ mixed fun w' hw'=>?_
   have hS:=hS.below hw'
   refine e_p (v:=(iV p_n)) 0 hF rfl (ex_move rfl) rfl rfl (by kernel_rfl) (by kernel_rfl) (by kernel_rfl) fun a hF=>?_
   obtain ⟨t_1,ht_1,hj2⟩:=bindS hj2
   refine e_p (v:=(iV t_1)) 1 hF rfl (ex_quo rfl rfl ht_1) rfl rfl (by kernel_rfl) (by kernel_rfl) (by kernel_rfl) fun a hF=>e_p (v:=(iV p_n)) 3 hF rfl (ex_move rfl) rfl rfl (by kernel_rfl) (by kernel_rfl) (by kernel_rfl) fun a hF=>?_
   obtain ⟨t_4,ht_4,hj2⟩:=bindS hj2
   refine e_p (v:=(iV t_4)) 4 hF rfl (ex_rem rfl rfl ht_4) rfl rfl (by kernel_rfl) (by kernel_rfl) (by kernel_rfl) fun a hF=>e_p (v:=(iV (w64 (48 + t_4)))) 5 hF rfl (ex_ibin rfl rfl rfl) rfl rfl (by kernel_rfl) (by kernel_rfl) (by kernel_rfl) fun a hF=>e_p (v:=(.int .u8 (IntKind.wrap .u8 (w64 (48 + t_4))))) 6 hF rfl (ex_conv Tryz.underlying3 Tryz.underlying5 rfl) rfl rfl (by kernel_rfl) (by kernel_rfl) (by kernel_rfl) fun a hF=>?_
   obtain ⟨t_9,ht_9,hj2⟩:=bindS hj2
   obtain ⟨t_11,ht_11,hj2⟩:=bindS hj2
   refine e_all [2,7] (by kernel_rfl) rfl ⟨?_,?_,trivial⟩
   ·refine e_call (vs:=[(iV t_1)]) hF hS rfl Tryz.func72 (by kernel_rfl) rfl rfl rfl (ih t_1 t_9 ht_9 _ m hS.vis) ?_
    rintro a w _ rfl hF hS
    refine e_one 7 (by kernel_rfl) (e_op rfl rfl fun _ hK=>wp_buildSlice' (l:=([(⟨(IntKind.wrap .u8 (w64 (48 + t_4)))⟩ : K .u8)] : List (K .u8))) (cells:=[(.int .u8 (IntKind.wrap .u8 (w64 (48 + t_4))))]) hF hS Tryz.underlying22 inf5 rfl rfl (by kernel_rfl) rfl rfl rfl ⟨rfl,rfl⟩ rfl rfl fun a w q10 s10 hF hS h10 hb=>hK _ _ hb (e_x (v:=(strV (goBytes ([(⟨(IntKind.wrap .u8 (w64 (48 + t_4)))⟩ : K .u8)] : List (K .u8))))) 8 hF hS rfl (ex_toStr Tryz.underlying22 Tryz.underlying5 Tryz.underlying9 rfl (fun X w0 w hS=>h10.vw hS (j:=0) rfl)) rfl rfl (by kernel_rfl) (by kernel_rfl) (by kernel_rfl) (by kernel_rfl) fun a hF=>e_p (v:=(strV t_11)) 9 hF rfl (ex_strCat rfl rfl ht_11) rfl rfl (by kernel_rfl) (by kernel_rfl) (by kernel_rfl) fun a hF=>e_p (v:=(strV t_11)) 10 hF rfl (ex_assign rfl) rfl rfl (by kernel_rfl) (by kernel_rfl) (by kernel_rfl) fun a hF=>e_end (by kernel_rfl) (n_jn ?_) _))
    obtain rfl:=someI hj2
    exact ⟨hF.sub ⟨rfl,trivial⟩,hS.mask [false]⟩
   ·refine e_op rfl rfl fun _ hK=>wp_buildSlice' (l:=([(⟨(IntKind.wrap .u8 (w64 (48 + t_4)))⟩ : K .u8)] : List (K .u8))) (cells:=[(.int .u8 (IntKind.wrap .u8 (w64 (48 + t_4))))]) hF hS Tryz.underlying22 inf5 rfl rfl (by kernel_rfl) rfl rfl rfl ⟨rfl,rfl⟩ rfl rfl fun a w q10 s10 hF hS h10 hb=>hK _ _ hb (e_x (v:=(strV (goBytes ([(⟨(IntKind.wrap .u8 (w64 (48 + t_4)))⟩ : K .u8)] : List (K .u8))))) 8 hF hS rfl (ex_toStr Tryz.underlying22 Tryz.underlying5 Tryz.underlying9 rfl (fun X w0 w hS=>h10.vw hS (j:=0) rfl)) rfl rfl (by kernel_rfl) (by kernel_rfl) (by kernel_rfl) (by kernel_rfl) fun a hF=>e_one 2 (by kernel_rfl) (e_call (vs:=[(iV t_1)]) hF hS rfl Tryz.func72 (by kernel_rfl) rfl rfl rfl (ih t_1 t_9 ht_9 _ m hS.vis) ?_))
    rintro a w _ rfl hF hS
    refine e_p (v:=(strV t_11)) 9 hF rfl (ex_strCat rfl rfl ht_11) rfl rfl (by kernel_rfl) (by kernel_rfl) (by kernel_rfl) fun a hF=>e_p (v:=(strV t_11)) 10 hF rfl (ex_assign rfl) rfl rfl (by kernel_rfl) (by kernel_rfl) (by kernel_rfl) fun a hF=>e_end (by kernel_rfl) (n_jn ?_) _
    obtain rfl:=someI hj2
    exact ⟨hF.sub ⟨rfl,trivial⟩,hS.mask [false]⟩
  ·rintro a w ⟨hF,hS⟩
   refine n_sq (q_ret ?_)
   obtain rfl:=someI hr
   exact ret_of hF hS rfl (.tmp rfl .nil) rfl
 ·have hr:=cond_t hc1 hr
  refine q_cond_t hF rfl hc1 (q_seq (q_region (q_x (v:=(iV p_n)) hF hS (ex_move rfl) rfl rfl fun a hF=>q_x (v:=(iV (w64 (48 + p_n)))) hF hS (ex_ibin rfl rfl rfl) rfl rfl fun a hF=>q_x (v:=(.int .u8 (IntKind.wrap .u8 (w64 (48 + p_n))))) hF hS (ex_conv Tryz.underlying3 Tryz.underlying5 rfl) rfl rfl fun a hF=>q_do rfl fun _ hK=>wp_buildSlice' (l:=([(⟨(IntKind.wrap .u8 (w64 (48 + p_n)))⟩ : K .u8)] : List (K .u8))) (cells:=[(.int .u8 (IntKind.wrap .u8 (w64 (48 + p_n))))]) hF hS Tryz.underlying22 inf5 rfl rfl (by kernel_rfl) rfl rfl rfl ⟨rfl,rfl⟩ rfl rfl fun a w q13 s13 hF hS h13 _=>hK _ _ (q_x (v:=(strV (goBytes ([(⟨(IntKind.wrap .u8 (w64 (48 + p_n)))⟩ : K .u8)] : List (K .u8))))) hF hS (ex_toStr Tryz.underlying22 Tryz.underlying5 Tryz.underlying9 rfl (fun X w0 w hS=>h13.vw hS (j:=0) rfl)) rfl rfl fun a hF=>q_x (v:=(strV (goBytes ([(⟨(IntKind.wrap .u8 (w64 (48 + p_n)))⟩ : K .u8)] : List (K .u8))))) hF hS (ex_assign rfl) rfl rfl fun a hF=>q_end (n_sq (q_ret (r_sq ?_)))))))
  obtain rfl:=someI hr
  exact ret_of hF hS rfl (.tmp rfl .nil) rfl

theorem ck_spec_l1Num : ∀ (k : Nat),∀ (p_n : Int) (r : (List UInt8)) (hr : spec_l1Num_k k p_n = some r) (w0 : World) (m : Mem) (hv : Vis m w0),
  Ret Tryz.prog 72 [(iV p_n)] w0 (fun v _=>v = (strV r))
 | 0=>fun _ _ hr=>by cases hr
 | k + 1=>cB_spec_l1Num _ (ck_spec_l1Num k)

theorem c_spec_l1Num : ∀ (p_n : Int) (r : (List UInt8)) (hr : spec_l1Num p_n = some r) (w0 : World) (m : Mem) (hv : Vis m w0),
  Ret Tryz.prog 72 [(iV p_n)] w0 (fun v _=>v = (strV r)):=by
 intro p_n r hr
 obtain ⟨k,hk⟩:=recO_run hr
 exact ck_spec_l1Num k p_n r hk

theorem c_spec_nCell (p_g : impl_Geo) (p_s : List impl_Variable) (p_t : impl_Table) (p_i : Int) (r : (List UInt8)) (hr : spec_nCell p_g p_s p_t p_i = some r) (w0 : World) (m : Mem) (hv : Vis m w0) (s1 : Sl) (h1 : Rd m s1 p_g.Parents) (s2 : Sl) (h2 : Rd m s2 p_s) (s3 : Sl) (h3 : Rd m s3 p_t.Vars) (s4 : Sl) (h4 : Rd m s4 p_t.Where) :
  Ret Tryz.prog 40 [(.agg #[s1.v]),s2.v,(.agg #[(iV p_t.Level),s3.v,s4.v,(iV p_t.Sum)]),(iV p_i)] w0 (fun v _=>v = (strV r)):=by
 unfold spec_nCell at hr
 refine ret_start Tryz.func40 rfl 52 rfl rfl m hv fun a hF hS=>q_seq (q_region (q_box (cs:=[s1.v]) hF hS rfl rfl rfl fun a w b5 hF hS=>q_box (cs:=[(iV p_t.Level),s3.v,s4.v,(iV p_t.Sum)]) hF hS rfl rfl rfl fun a w b6 hF hS=>q_x (v:=(strV ([] : List UInt8))) hF hS (ex_assign rfl) rfl rfl fun a hF=>q_end (n_sq (q_seq (q_region (q_x (v:=(.agg #[s1.v])) hF hS (ex_loadA (vs:=[s1.v]) 1 0 Tryz.underlying26 rfl sz26 rfl rfl rfl rfl) rfl rfl fun a hF=>q_x (v:=s2.v) hF hS (ex_move rfl) rfl rfl fun a hF=>q_x (v:=(.agg #[(iV p_t.Level),s3.v,s4.v,(iV p_t.Sum)])) hF hS (ex_loadA (vs:=[(iV p_t.Level),s3.v,s4.v,(iV p_t.Sum)]) 0 0 Tryz.underlying29 rfl sz29 rfl rfl rfl rfl) rfl rfl fun a hF=>q_x (v:=(iV p_i)) hF hS (ex_move rfl) rfl rfl fun a hF=>?_))))))
 obtain ⟨t_7,ht_7,hr⟩:=bindS hr
 refine q_call (vs:=[(.agg #[s1.v]),s2.v,(.agg #[(iV p_t.Level),s3.v,s4.v,(iV p_t.Sum)]),(iV p_i)]) hF hS Tryz.func71 (by kernel_rfl) rfl rfl rfl (c_spec_CellAt p_g p_s p_t p_i t_7 ht_7 _ m hS.vis s1 h1 s2 h2 s3 h3 s4 h4) ?_
 rintro a w _ ⟨q9,s9,rfl,hR8,h9⟩ hF hS2
 have hS : St _ _ _ _ [q9,[⟨b6,[(iV p_t.Level),s3.v,s4.v,(iV p_t.Sum)],29⟩],[⟨b5,[s1.v],26⟩]]:=hS.joinF hR8
 refine q_x (v:=(.tuple #[(iV t_7.1),s9.v,(.bool t_7.2.2)])) hF hS (ex_move rfl) rfl rfl fun a hF=>q_x (v:=(iV t_7.1)) hF hS (ex_extract rfl rfl) rfl rfl fun a hF=>q_x (v:=s9.v) hF hS (ex_extract rfl rfl) rfl rfl fun a hF=>q_x (v:=(.bool t_7.2.2)) hF hS (ex_extract rfl rfl) rfl rfl fun a hF=>q_x (v:=(iV t_7.1)) hF hS (ex_assign rfl) rfl rfl fun a hF=>q_x (v:=s9.v) hF hS (ex_assign rfl) rfl rfl fun a hF=>q_x (v:=(.bool t_7.2.2)) hF hS (ex_assign rfl) rfl rfl fun a hF=>q_end (n_sq (q_seq (q_region (q_x (v:=(iV t_7.1)) hF hS (ex_move rfl) rfl rfl fun a hF=>?_))))
 obtain ⟨t_10,ht_10,hr⟩:=bindS hr
 refine q_call (vs:=[(iV t_7.1)]) hF hS Tryz.func72 (by kernel_rfl) rfl rfl rfl (c_spec_l1Num t_7.1 t_10 ht_10 _ m hS.vis) ?_
 rintro a w _ rfl hF hS
 obtain ⟨t_11,ht_11,hr⟩:=bindS hr
 refine q_x (v:=(strV t_11)) hF hS (ex_strCat rfl rfl ht_11) rfl rfl fun a hF=>q_x (v:=(strV t_11)) hF hS (ex_assign rfl) rfl rfl fun a hF=>q_end (n_sq (q_seq (q_seq (q_region (q_x (v:=(.pointer (some ⟨b6,1,none⟩))) hF hS (ex_fieldAddr Tryz.underlying29 rfl sz24 rfl rfl) rfl rfl fun a hF=>q_x (v:=s3.v) hF hS (ex_load1 1 0 Tryz.underlying24 rfl rfl rfl rfl) rfl rfl fun a hF=>q_x (v:=(iV (goLen p_t.Vars))) hF hS (ex_len Tryz.underlying24 rfl h3.len) rfl rfl fun a hF=>q_x (v:=(iV 0)) hF hS (ex_move rfl) rfl rfl fun a hF=>q_end (n_sq (q_block ?_)))))))
 obtain ⟨out_25,hl1,hr⟩:=bindS hr
 refine q_loop (fun (s : (List UInt8) × Int) a w=>∃ out_12,∃ t_13,s = (out_12,t_13)∧Fr a 52 [(1,s2.v),(10,s9.v),(12,(strV out_12)),(28,s3.v),(29,(iV (goLen p_t.Vars))),(30,(iV t_13))]∧St [] w0 w m [q9]) (fun (out_25 : (List UInt8)) e a w=>e = .exit 0∧Fr a 52 [(12,(strV out_25))]∧St [] w0 w m []) hl1 ⟨_,_,rfl,hF.sub ⟨rfl,rfl,rfl,rfl,rfl,rfl,trivial⟩,hS.mask [true,false,false]⟩ ?_ ?_
 ·clear hF hS
  rintro s a w st ⟨out_12,t_13,rfl,hF,hS⟩ hb1
  unfold spec_nCell_l1 at hb1
  refine q_seq (q_region (q_x (v:=(.bool (decide (t_13 < (goLen p_t.Vars))))) hF hS (ex_ibin rfl rfl rfl) rfl rfl fun a hF=>q_end (n_sq (q_seq ?_))))
  rcases bcase (decide (t_13 < (goLen p_t.Vars))) with hc2 | hc2
  ·have hb1:=cond_f hc2 hb1
   refine q_cond_f hF rfl hc2 (q_exit (x_sq ?_))
   obtain rfl:=someI hb1
   exact ⟨nofun,.inl ⟨rfl,hF.sub ⟨rfl,trivial⟩,hS.mask [false]⟩⟩
  ·have hb1:=cond_t hc2 hb1
   refine q_cond_t hF rfl hc2 (q_skipc (n_sq (q_seq (q_block (q_seq (q_region (q_x (v:=(iV t_13)) hF hS (ex_move rfl) rfl rfl fun a hF=>?_)))))))
   obtain ⟨e_14,he_14,hb1⟩:=bindS hb1
   obtain ⟨vs15,at15,d15⟩:=h3.at he_14 1 rfl
   obtain rfl : vs15 = [(iV e_14)]:=d15
   refine q_x (v:=(elP s3 (t_13.toNat * 1))) hF hS (ex_indexAddr Tryz.underlying24 sz3 rfl rfl (h3.idx he_14)) rfl rfl fun a hF=>q_x (v:=(iV e_14)) hF hS (ex_loadE1 0 Tryz.underlying3 rfl rfl ((at15).at) rfl rfl) rfl rfl fun a hF=>q_x (v:=(iV t_13)) hF hS (ex_assign rfl) rfl rfl fun a hF=>q_x (v:=(iV e_14)) hF hS (ex_assign rfl) rfl rfl fun a hF=>q_end (n_sq (e_region ⟨[],[]⟩ mixed fun w' hw'=>?_))
   have hS:=hS.below hw'
   refine e_p (v:=(strV out_12)) 0 hF rfl (ex_move rfl) rfl rfl (by kernel_rfl) (by kernel_rfl) (by kernel_rfl) fun a hF=>e_p (v:=s2.v) 1 hF rfl (ex_move rfl) rfl rfl (by kernel_rfl) (by kernel_rfl) (by kernel_rfl) fun a hF=>e_p (v:=(iV e_14)) 2 hF rfl (ex_move rfl) rfl rfl (by kernel_rfl) (by kernel_rfl) (by kernel_rfl) fun a hF=>?_
   obtain ⟨e_16,he_16,hb1⟩:=bindS hb1
   obtain ⟨vs17,at17,d17⟩:=h2.at he_16 2 rfl
   obtain rfl : vs17 = [(strV e_16.Name),(iV e_16.Levels)]:=d17
   refine e_p (v:=(elP s2 (e_14.toNat * 2))) 3 hF rfl (ex_indexAddr Tryz.underlying27 sz100 rfl rfl (h2.idx he_16)) rfl rfl (by kernel_rfl) (by kernel_rfl) (by kernel_rfl) fun a hF=>e_p (v:=(elP s2 (e_14.toNat * 2 + 0))) 4 hF rfl (ex_fieldAddrE Tryz.underlying100 rfl sz9 rfl (h2.idx he_16) rfl) rfl rfl (by kernel_rfl) (by kernel_rfl) (by kernel_rfl) fun a hF=>e_x (v:=(strV e_16.Name)) 5 hF hS rfl (ex_loadE1 0 Tryz.underlying9 rfl rfl ((at17).at) rfl rfl) rfl rfl (by kernel_rfl) (by kernel_rfl) (by kernel_rfl) (by kernel_rfl) fun a hF=>?_
   obtain ⟨t_18,ht_18,hb1⟩:=bindS hb1
   refine e_p (v:=(strV t_18)) 6 hF rfl (ex_strCat rfl rfl ht_18) rfl rfl (by kernel_rfl) (by kernel_rfl) (by kernel_rfl) fun a hF=>?_
   obtain ⟨t_19,ht_19,hb1⟩:=bindS hb1
   refine e_p (v:=(strV t_19)) 7 hF rfl (ex_strCat rfl rfl ht_19) rfl rfl (by kernel_rfl) (by kernel_rfl) (by kernel_rfl) fun a hF=>e_p (v:=s9.v) 8 hF rfl (ex_move rfl) rfl rfl (by kernel_rfl) (by kernel_rfl) (by kernel_rfl) fun a hF=>e_p (v:=(iV t_13)) 9 hF rfl (ex_move rfl) rfl rfl (by kernel_rfl) (by kernel_rfl) (by kernel_rfl) fun a hF=>?_
   obtain ⟨e_20,he_20,hb1⟩:=bindS hb1
   obtain ⟨vs21,at21,d21⟩:=h9.at he_20 1 rfl
   obtain rfl : vs21 = [(iV e_20)]:=d21
   refine e_p (v:=(elP s9 (t_13.toNat * 1))) 10 hF rfl (ex_indexAddr Tryz.underlying24 sz3 rfl rfl (h9.idx he_20)) rfl rfl (by kernel_rfl) (by kernel_rfl) (by kernel_rfl) fun a hF=>e_x (v:=(iV e_20)) 11 hF hS rfl (ex_loadE1 0 Tryz.underlying3 rfl rfl (at21.at 0 rfl) rfl rfl) rfl rfl (by kernel_rfl) (by kernel_rfl) (by kernel_rfl) (by kernel_rfl) fun a hF=>e_one 12 (by kernel_rfl) ?_
   obtain ⟨t_22,ht_22,hb1⟩:=bindS hb1
   refine e_call (vs:=[(iV e_20)]) hF hS rfl Tryz.func72 (by kernel_rfl) rfl rfl rfl (c_spec_l1Num e_20 t_22 ht_22 _ m hS.vis) ?_
   rintro a w _ rfl hF hS
   obtain ⟨t_23,ht_23,hb1⟩:=bindS hb1
   refine e_p (v:=(strV t_23)) 13 hF rfl (ex_strCat rfl rfl ht_23) rfl rfl (by kernel_rfl) (by kernel_rfl) (by kernel_rfl) fun a hF=>?_
   obtain ⟨t_24,ht_24,hb1⟩:=bindS hb1
   refine e_p (v:=(strV t_24)) 14 hF rfl (ex_strCat rfl rfl ht_24) rfl rfl (by kernel_rfl) (by kernel_rfl) (by kernel_rfl) fun a hF=>e_p (v:=(strV t_24)) 15 hF rfl (ex_assign rfl) rfl rfl (by kernel_rfl) (by kernel_rfl) (by kernel_rfl) fun a hF=>e_end (by kernel_rfl) (n_ib (n_sq ?_)) _
   refine q_region (q_x (v:=(iV (w64 (t_13 + 1)))) hF hS (ex_ibin rfl rfl rfl) rfl rfl fun a hF=>q_x (v:=(iV (w64 (t_13 + 1)))) hF hS (ex_move rfl) rfl rfl fun a hF=>q_end ?_)
   obtain rfl:=someI hb1
   exact ⟨rfl,_,_,rfl,hF.sub ⟨rfl,rfl,rfl,rfl,rfl,rfl,trivial⟩,hS⟩
 ·rintro e a w ⟨rfl,hF,hS⟩
  refine x_ib (n_sq ?_)
  refine q_seq (q_region (q_x (v:=(strV out_25)) hF hS (ex_move rfl) rfl rfl fun a hF=>q_x (v:=(strV out_25)) hF hS (ex_assign rfl) rfl rfl fun a hF=>q_end (n_sq (q_ret ?_))))
  obtain rfl:=someI hr
  exact ret_of hF hS rfl (.tmp rfl .nil) rfl

theorem c_spec_nSigned (p_n : Int) (r : (List UInt8)) (hr : spec_nSigned p_n = some r) (w0 : World) (m : Mem) (hv : Vis m w0) :
  Ret Tryz.prog 66 [(iV p_n)] w0 (fun v _=>v = (strV r)):=by
 unfold spec_nSigned at hr
 refine ret_start Tryz.func66 rfl 11 rfl rfl m hv fun a hF hS=>q_seq (q_region (q_x (v:=(strV ([] : List UInt8))) hF hS (ex_assign rfl) rfl rfl fun a hF=>q_end (n_sq (q_seq (q_seq (q_region (q_x (v:=(iV p_n)) hF hS (ex_move rfl) rfl rfl fun a hF=>q_x (v:=(.bool (decide (p_n < 0)))) hF hS (ex_ibin rfl rfl rfl) rfl rfl fun a hF=>q_end (n_sq ?_))))))))
 rcases bcase (decide (p_n < 0)) with hc1 | hc1
 ·have hr:=cond_f hc1 hr
  refine q_cond_f hF rfl hc1 (q_skipc (n_sq (q_seq (q_region (q_x (v:=(iV p_n)) hF hS (ex_move rfl) rfl rfl fun a hF=>?_)))))
  obtain ⟨t_1,ht_1,hr⟩:=bindS hr
  refine q_call (vs:=[(iV p_n)]) hF hS Tryz.func72 (by kernel_rfl) rfl rfl rfl (c_spec_l1Num p_n t_1 ht_1 _ m hS.vis) ?_
  rintro a w _ rfl hF hS
  refine q_x (v:=(strV t_1)) hF hS (ex_assign rfl) rfl rfl fun a hF=>q_end (n_sq (q_ret ?_))
  obtain rfl:=someI hr
  exact ret_of hF hS rfl (.tmp rfl .nil) rfl
 ·have hr:=cond_t hc1 hr
  refine q_cond_t hF rfl hc1 (q_seq (q_region (q_x (v:=(iV p_n)) hF hS (ex_move rfl) rfl rfl fun a hF=>q_x (v:=(iV (w64 (-p_n)))) hF hS (ex_neg rfl) rfl rfl fun a hF=>?_)))
  obtain ⟨t_2,ht_2,hr⟩:=bindS hr
  refine q_call (vs:=[(iV (w64 (-p_n)))]) hF hS Tryz.func72 (by kernel_rfl) rfl rfl rfl (c_spec_l1Num (w64 (-p_n)) t_2 ht_2 _ m hS.vis) ?_
  rintro a w _ rfl hF hS
  obtain ⟨t_3,ht_3,hr⟩:=bindS hr
  refine q_x (v:=(strV t_3)) hF hS (ex_strCat rfl rfl ht_3) rfl rfl fun a hF=>q_x (v:=(strV t_3)) hF hS (ex_assign rfl) rfl rfl fun a hF=>q_end (n_sq (q_ret (r_sq ?_)))
  obtain rfl:=someI hr
  exact ret_of hF hS rfl (.tmp rfl .nil) rfl

theorem c_spec_nReport (p_g : impl_Geo) (p_s : List impl_Variable) (p_t : impl_Table) (p_cells : List Int) (r : (List UInt8)) (hr : spec_nReport p_g p_s p_t p_cells = some r) (w0 : World) (m : Mem) (hv : Vis m w0) (s1 : Sl) (h1 : Rd m s1 p_g.Parents) (s2 : Sl) (h2 : Rd m s2 p_s) (s3 : Sl) (h3 : Rd m s3 p_t.Vars) (s4 : Sl) (h4 : Rd m s4 p_t.Where) (s5 : Sl) (h5 : Rd m s5 p_cells) :
  Ret Tryz.prog 30 [(.agg #[s1.v]),s2.v,(.agg #[(iV p_t.Level),s3.v,s4.v,(iV p_t.Sum)]),s5.v] w0 (fun v _=>v = (strV r)):=by
 unfold spec_nReport at hr
 refine ret_start Tryz.func30 rfl 33 rfl rfl m hv fun a hF hS=>q_seq (q_region (q_box (cs:=[s1.v]) hF hS rfl rfl rfl fun a w b6 hF hS=>q_box (cs:=[(iV p_t.Level),s3.v,s4.v,(iV p_t.Sum)]) hF hS rfl rfl rfl fun a w b7 hF hS=>q_x (v:=(strV ([] : List UInt8))) hF hS (ex_assign rfl) rfl rfl fun a hF=>q_end (n_sq (q_seq (q_region (q_x (v:=(strV ([] : List UInt8))) hF hS (ex_assign rfl) rfl rfl fun a hF=>q_end (n_sq (q_seq (q_seq (q_region (q_x (v:=s5.v) hF hS (ex_move rfl) rfl rfl fun a hF=>q_x (v:=(iV (goLen p_cells))) hF hS (ex_len Tryz.underlying24 rfl h5.len) rfl rfl fun a hF=>q_x (v:=(iV 0)) hF hS (ex_move rfl) rfl rfl fun a hF=>q_end (n_sq (q_block ?_)))))))))))))
 obtain ⟨out_18,hl1,hr⟩:=bindS hr
 refine q_loop (fun (s : (List UInt8) × Int) a w=>∃ out_8,∃ t_9,s = (out_8,t_9)∧Fr a 33 [(1,s2.v),(4,(.pointer (some ⟨b6,0,none⟩))),(6,(.pointer (some ⟨b7,0,none⟩))),(9,(strV out_8)),(12,s5.v),(13,(iV (goLen p_cells))),(14,(iV t_9))]∧St [] w0 w m [[⟨b7,[(iV p_t.Level),s3.v,s4.v,(iV p_t.Sum)],29⟩],[⟨b6,[s1.v],26⟩]]) (fun (out_18 : (List UInt8)) e a w=>e = .exit 0∧Fr a 33 [(9,(strV out_18))]∧St [] w0 w m []) hl1 ⟨_,_,rfl,hF.sub ⟨rfl,rfl,rfl,rfl,rfl,rfl,rfl,trivial⟩,hS⟩ ?_ ?_
 ·clear hF hS
  rintro s a w st ⟨out_8,t_9,rfl,hF,hS⟩ hb1
  unfold spec_nReport_l1 at hb1
  refine q_seq (q_region (q_x (v:=(.bool (decide (t_9 < (goLen p_cells))))) hF hS (ex_ibin rfl rfl rfl) rfl rfl fun a hF=>q_end (n_sq (q_seq ?_))))
  rcases bcase (decide (t_9 < (goLen p_cells))) with hc2 | hc2
  ·have hb1:=cond_f hc2 hb1
   refine q_cond_f hF rfl hc2 (q_exit (x_sq ?_))
   obtain rfl:=someI hb1
   exact ⟨nofun,.inl ⟨rfl,hF.sub ⟨rfl,trivial⟩,hS.mask [false,false]⟩⟩
  ·have hb1:=cond_t hc2 hb1
   refine q_cond_t hF rfl hc2 (q_skipc (n_sq (q_seq (q_block (q_seq (q_region (q_x (v:=(iV t_9)) hF hS (ex_move rfl) rfl rfl fun a hF=>?_)))))))
   obtain ⟨e_10,he_10,hb1⟩:=bindS hb1
   obtain ⟨vs11,at11,d11⟩:=h5.at he_10 1 rfl
   obtain rfl : vs11 = [(iV e_10)]:=d11
   refine q_x (v:=(elP s5 (t_9.toNat * 1))) hF hS (ex_indexAddr Tryz.underlying24 sz3 rfl rfl (h5.idx he_10)) rfl rfl fun a hF=>q_x (v:=(iV e_10)) hF hS (ex_loadE1 0 Tryz.underlying3 rfl rfl ((at11).at) rfl rfl) rfl rfl fun a hF=>q_x (v:=(iV t_9)) hF hS (ex_assign rfl) rfl rfl fun a hF=>q_x (v:=(iV e_10)) hF hS (ex_assign rfl) rfl rfl fun a hF=>q_end (n_sq (q_region (q_x (v:=(strV out_8)) hF hS (ex_move rfl) rfl rfl fun a hF=>q_x (v:=(.agg #[s1.v])) hF hS (ex_loadA (vs:=[s1.v]) 1 0 Tryz.underlying26 rfl sz26 rfl rfl rfl rfl) rfl rfl fun a hF=>q_x (v:=s2.v) hF hS (ex_move rfl) rfl rfl fun a hF=>q_x (v:=(.agg #[(iV p_t.Level),s3.v,s4.v,(iV p_t.Sum)])) hF hS (ex_loadA (vs:=[(iV p_t.Level),s3.v,s4.v,(iV p_t.Sum)]) 0 0 Tryz.underlying29 rfl sz29 rfl rfl rfl rfl) rfl rfl fun a hF=>q_x (v:=(iV t_9)) hF hS (ex_move rfl) rfl rfl fun a hF=>?_)))
   obtain ⟨t_12,ht_12,hb1⟩:=bindS hb1
   refine q_call (vs:=[(.agg #[s1.v]),s2.v,(.agg #[(iV p_t.Level),s3.v,s4.v,(iV p_t.Sum)]),(iV t_9)]) hF hS Tryz.func40 (by kernel_rfl) rfl rfl rfl (c_spec_nCell p_g p_s p_t t_9 t_12 ht_12 _ m hS.vis s1 h1 s2 h2 s3 h3 s4 h4) ?_
   rintro a w _ rfl hF hS
   obtain ⟨t_13,ht_13,hb1⟩:=bindS hb1
   refine q_x (v:=(strV t_13)) hF hS (ex_strCat rfl rfl ht_13) rfl rfl fun a hF=>q_x (v:=(iV e_10)) hF hS (ex_move rfl) rfl rfl fun a hF=>?_
   obtain ⟨t_14,ht_14,hb1⟩:=bindS hb1
   refine q_call (vs:=[(iV e_10)]) hF hS Tryz.func66 (by kernel_rfl) rfl rfl rfl (c_spec_nSigned e_10 t_14 ht_14 _ m hS.vis) ?_
   rintro a w _ rfl hF hS
   obtain ⟨t_15,ht_15,hb1⟩:=bindS hb1
   refine q_x (v:=(strV t_15)) hF hS (ex_strCat rfl rfl ht_15) rfl rfl fun a hF=>?_
   obtain ⟨t_16,ht_16,hb1⟩:=bindS hb1
   refine q_x (v:=(strV t_16)) hF hS (ex_strCat rfl rfl ht_16) rfl rfl fun a hF=>?_
   obtain ⟨t_17,ht_17,hb1⟩:=bindS hb1
   refine q_x (v:=(strV t_17)) hF hS (ex_strCat rfl rfl ht_17) rfl rfl fun a hF=>q_x (v:=(strV t_17)) hF hS (ex_assign rfl) rfl rfl fun a hF=>q_end (n_ib (n_sq (q_region (q_x (v:=(iV (w64 (t_9 + 1)))) hF hS (ex_ibin rfl rfl rfl) rfl rfl fun a hF=>q_x (v:=(iV (w64 (t_9 + 1)))) hF hS (ex_move rfl) rfl rfl fun a hF=>q_end ?_))))
   obtain rfl:=someI hb1
   exact ⟨rfl,_,_,rfl,hF.sub ⟨rfl,rfl,rfl,rfl,rfl,rfl,rfl,trivial⟩,hS⟩
 ·rintro e a w ⟨rfl,hF,hS⟩
  refine x_ib (n_sq ?_)
  refine q_seq (q_region (q_x (v:=(strV out_18)) hF hS (ex_move rfl) rfl rfl fun a hF=>q_x (v:=(strV out_18)) hF hS (ex_assign rfl) rfl rfl fun a hF=>q_end (n_sq (q_ret ?_))))
  obtain rfl:=someI hr
  exact ret_of hF hS rfl (.tmp rfl .nil) rfl

theorem c_spec_ReportText (p_g : impl_Geo) (p_s : List impl_Variable) (p_t : impl_Table) (p_cells : List Int) (r : (List UInt8) × Bool) (hr : spec_ReportText p_g p_s p_t p_cells = some r) (w0 : World) (m : Mem) (hv : Vis m w0) (s1 : Sl) (h1 : Rd m s1 p_g.Parents) (s2 : Sl) (h2 : Rd m s2 p_s) (s3 : Sl) (h3 : Rd m s3 p_t.Vars) (s4 : Sl) (h4 : Rd m s4 p_t.Where) (s5 : Sl) (h5 : Rd m s5 p_cells) :
  Ret Tryz.prog 7 [(.agg #[s1.v]),s2.v,(.agg #[(iV p_t.Level),s3.v,s4.v,(iV p_t.Sum)]),s5.v] w0 (fun v _=>v = (.tuple #[(strV r.1),(.bool r.2)])):=by
 unfold spec_ReportText at hr
 refine ret_start Tryz.func7 rfl 21 rfl rfl m hv fun a hF hS=>q_seq (q_region (q_box (cs:=[s1.v]) hF hS rfl rfl rfl fun a w b6 hF hS=>q_box (cs:=[(iV p_t.Level),s3.v,s4.v,(iV p_t.Sum)]) hF hS rfl rfl rfl fun a w b7 hF hS=>q_x (v:=(strV ([] : List UInt8))) hF hS (ex_assign rfl) rfl rfl fun a hF=>q_x (v:=(.bool false)) hF hS (ex_assign rfl) rfl rfl fun a hF=>q_end (n_sq (q_seq (q_seq (q_region (q_x (v:=(.agg #[s1.v])) hF hS (ex_loadA (vs:=[s1.v]) 1 0 Tryz.underlying26 rfl sz26 rfl rfl rfl rfl) rfl rfl fun a hF=>q_x (v:=s2.v) hF hS (ex_move rfl) rfl rfl fun a hF=>q_x (v:=(.agg #[(iV p_t.Level),s3.v,s4.v,(iV p_t.Sum)])) hF hS (ex_loadA (vs:=[(iV p_t.Level),s3.v,s4.v,(iV p_t.Sum)]) 0 0 Tryz.underlying29 rfl sz29 rfl rfl rfl rfl) rfl rfl fun a hF=>q_x (v:=s5.v) hF hS (ex_move rfl) rfl rfl fun a hF=>?_)))))))
 obtain ⟨t_8,ht_8,hr⟩:=bindS hr
 refine q_call (vs:=[(.agg #[s1.v]),s2.v,(.agg #[(iV p_t.Level),s3.v,s4.v,(iV p_t.Sum)]),s5.v]) hF hS Tryz.func29 (by kernel_rfl) rfl rfl rfl (c_spec_nCells p_g p_s p_t p_cells t_8 ht_8 _ m hS.vis s1 h1 s2 h2 s3 h3 s4 h4 s5 h5) ?_
 rintro a w _ rfl hF hS
 refine q_x (v:=(.bool (!t_8))) hF hS (ex_not rfl) rfl rfl fun a hF=>q_end (n_sq ?_)
 rcases bcase (!t_8) with hc1 | hc1
 ·have hr:=cond_f hc1 hr
  refine q_cond_f hF rfl hc1 (q_skipc (n_sq (q_seq (q_region (q_x (v:=(.agg #[s1.v])) hF hS (ex_loadA (vs:=[s1.v]) 1 0 Tryz.underlying26 rfl sz26 rfl rfl rfl rfl) rfl rfl fun a hF=>q_x (v:=s2.v) hF hS (ex_move rfl) rfl rfl fun a hF=>q_x (v:=(.agg #[(iV p_t.Level),s3.v,s4.v,(iV p_t.Sum)])) hF hS (ex_loadA (vs:=[(iV p_t.Level),s3.v,s4.v,(iV p_t.Sum)]) 0 0 Tryz.underlying29 rfl sz29 rfl rfl rfl rfl) rfl rfl fun a hF=>q_x (v:=s5.v) hF hS (ex_move rfl) rfl rfl fun a hF=>?_)))))
  obtain ⟨t_9,ht_9,hr⟩:=bindS hr
  refine q_call (vs:=[(.agg #[s1.v]),s2.v,(.agg #[(iV p_t.Level),s3.v,s4.v,(iV p_t.Sum)]),s5.v]) hF hS Tryz.func30 (by kernel_rfl) rfl rfl rfl (c_spec_nReport p_g p_s p_t p_cells t_9 ht_9 _ m hS.vis s1 h1 s2 h2 s3 h3 s4 h4 s5 h5) ?_
  rintro a w _ rfl hF hS
  refine q_x (v:=(strV t_9)) hF hS (ex_assign rfl) rfl rfl fun a hF=>q_x (v:=(.bool true)) hF hS (ex_assign rfl) rfl rfl fun a hF=>q_end (n_sq (q_ret ?_))
  obtain rfl:=someI hr
  exact ret_of hF hS rfl (.tmp rfl (.tmp rfl .nil)) rfl
 ·have hr:=cond_t hc1 hr
  refine q_cond_t hF rfl hc1 (q_seq (q_region (q_x (v:=(strV ([] : List UInt8))) hF hS (ex_assign rfl) rfl rfl fun a hF=>q_x (v:=(.bool false)) hF hS (ex_assign rfl) rfl rfl fun a hF=>q_end (n_sq (q_ret (r_sq ?_))))))
  obtain rfl:=someI hr
  exact ret_of hF hS rfl (.tmp rfl (.tmp rfl .nil)) rfl

theorem c_internal_stringslite_HasPrefix (p_s : List UInt8) (p_prefix : List UInt8) (r : Bool) (hr : internal_stringslite_HasPrefix p_s p_prefix = some r) (w0 : World) (m : Mem) (hv : Vis m w0) :
  Ret Tryz.prog 95 [(strV p_s),(strV p_prefix)] w0 (fun v _=>v = (.bool r)):=by
 unfold internal_stringslite_HasPrefix at hr
 refine ret_start Tryz.func95 rfl 18 rfl rfl m hv fun a hF hS=>q_seq (q_region (q_x (v:=(.bool false)) hF hS (ex_assign rfl) rfl rfl fun a hF=>q_end (n_sq (q_seq ?_))))
 obtain ⟨t_2,hj1,hr⟩:=bindS hr
 refine q_join (fun a w=>Fr a 18 [(4,(.bool t_2))]∧St [] w0 w m []) ?_ ?_
 ·refine q_region (q_x (v:=(strV p_s)) hF hS (ex_move rfl) rfl rfl fun a hF=>q_x (v:=(iV (goLen p_s))) hF hS (ex_strLen Tryz.underlying9 rfl) rfl rfl fun a hF=>q_x (v:=(strV p_prefix)) hF hS (ex_move rfl) rfl rfl fun a hF=>q_x (v:=(iV (goLen p_prefix))) hF hS (ex_strLen Tryz.underlying9 rfl) rfl rfl fun a hF=>q_x (v:=(.bool (decide ((goLen p_prefix) ≤ (goLen p_s))))) hF hS (ex_ibin rfl rfl rfl) rfl rfl fun a hF=>q_x (v:=(.bool (decide ((goLen p_prefix) ≤ (goLen p_s))))) hF hS (ex_move rfl) rfl rfl fun a hF=>?_)
  rcases bcase (decide ((goLen p_prefix) ≤ (goLen p_s))) with hc2 | hc2
  ·have hj1:=cond_f hc2 hj1
   refine q_skip hF (wanted_f hF rfl rfl rfl hc2 rfl) rfl fun a hF=>q_skip hF (wanted_f hF rfl rfl rfl hc2 rfl) rfl fun a hF=>q_skip hF (wanted_f hF rfl rfl rfl hc2 rfl) rfl fun a hF=>q_skip hF (wanted_f hF rfl rfl rfl hc2 rfl) rfl fun a hF=>q_skip hF (wanted_f hF rfl rfl rfl hc2 rfl) rfl fun a hF=>q_skip hF (wanted_f hF rfl rfl rfl hc2 rfl) rfl fun a hF=>q_x (v:=(.bool false)) hF hS (ex_pick_f rfl rfl hc2) rfl rfl fun a hF=>q_x (v:=(.bool false)) hF hS (ex_assign rfl) rfl rfl fun a hF=>q_end (n_jn ?_)
   obtain rfl:=someI hj1
   exact ⟨hF.sub ⟨rfl,trivial⟩,hS⟩
  ·have hj1:=cond_t hc2 hj1
   refine q_xg (v:=(strV p_s)) hF hS (ex_move rfl) (wanted_t hF rfl rfl rfl hc2) rfl fun a hF=>q_xg (v:=(strV p_prefix)) hF hS (ex_move rfl) (wanted_t hF rfl rfl rfl hc2) rfl fun a hF=>q_xg (v:=(iV (goLen p_prefix))) hF hS (ex_strLen Tryz.underlying9 rfl) (wanted_t hF rfl rfl rfl hc2) rfl fun a hF=>?_
   obtain ⟨t_1,ht_1,hj1⟩:=bindS hj1
   refine q_xg (v:=(strV t_1)) hF hS (ex_strSub Tryz.underlying9 rfl rfl rfl (.inl ⟨rfl,rfl⟩) (.inr ⟨_,rfl⟩) ht_1) (wanted_t hF rfl rfl rfl hc2) rfl fun a hF=>q_xg (v:=(strV p_prefix)) hF hS (ex_move rfl) (wanted_t hF rfl rfl rfl hc2) rfl fun a hF=>q_xg (v:=(.bool (t_1 == p_prefix))) hF hS (ex_strEq rfl rfl) (wanted_t hF rfl rfl rfl hc2) rfl fun a hF=>q_x (v:=(.bool (t_1 == p_prefix))) hF hS (ex_pick_t rfl rfl hc2) rfl rfl fun a hF=>q_x (v:=(.bool (t_1 == p_prefix))) hF hS (ex_assign rfl) rfl rfl fun a hF=>q_end (n_jn ?_)
   obtain rfl:=someI hj1
   exact ⟨hF.sub ⟨rfl,trivial⟩,hS⟩
 ·rintro a w ⟨hF,hS⟩
  refine n_sq (q_ret ?_)
  obtain rfl:=someI hr
  exact ret_of hF hS rfl (.tmp rfl .nil) rfl

theorem c_internal_stringslite_CutPrefix (p_s : List UInt8) (p_prefix : List UInt8) (r : (List UInt8) × Bool) (hr : internal_stringslite_CutPrefix p_s p_prefix = some r) (w0 : World) (m : Mem) (hv : Vis m w0) :
  Ret Tryz.prog 67 [(strV p_s),(strV p_prefix)] w0 (fun v _=>v = (.tuple #[(strV r.1),(.bool r.2)])):=by
 unfold internal_stringslite_CutPrefix at hr
 refine ret_start Tryz.func67 rfl 15 rfl rfl m hv fun a hF hS=>q_seq (q_region (q_x (v:=(strV ([] : List UInt8))) hF hS (ex_assign rfl) rfl rfl fun a hF=>q_x (v:=(.bool false)) hF hS (ex_assign rfl) rfl rfl fun a hF=>q_end (n_sq (q_seq (q_seq (q_region (q_x (v:=(strV p_s)) hF hS (ex_move rfl) rfl rfl fun a hF=>q_x (v:=(strV p_prefix)) hF hS (ex_move rfl) rfl rfl fun a hF=>?_)))))))
 obtain ⟨t_1,ht_1,hr⟩:=bindS hr
 refine q_call (vs:=[(strV p_s),(strV p_prefix)]) hF hS Tryz.func95 (by kernel_rfl) rfl rfl rfl (c_internal_stringslite_HasPrefix p_s p_prefix t_1 ht_1 _ m hS.vis) ?_
 rintro a w _ rfl hF hS
 refine q_x (v:=(.bool (!t_1))) hF hS (ex_not rfl) rfl rfl fun a hF=>q_end (n_sq ?_)
 rcases bcase (!t_1) with hc1 | hc1
 ·have hr:=cond_f hc1 hr
  refine q_cond_f hF rfl hc1 (q_skipc (n_sq (q_seq (q_region (q_x (v:=(strV p_s)) hF hS (ex_move rfl) rfl rfl fun a hF=>q_x (v:=(strV p_prefix)) hF hS (ex_move rfl) rfl rfl fun a hF=>q_x (v:=(iV (goLen p_prefix))) hF hS (ex_strLen Tryz.underlying9 rfl) rfl rfl fun a hF=>?_)))))
  obtain ⟨t_2,ht_2,hr⟩:=bindS hr
  refine q_x (v:=(strV t_2)) hF hS (ex_strSub Tryz.underlying9 rfl rfl rfl (.inr ⟨_,rfl⟩) (.inl ⟨rfl,rfl⟩) ht_2) rfl rfl fun a hF=>q_x (v:=(strV t_2)) hF hS (ex_assign rfl) rfl rfl fun a hF=>q_x (v:=(.bool true)) hF hS (ex_assign rfl) rfl rfl fun a hF=>q_end (n_sq (q_ret ?_))
  obtain rfl:=someI hr
  exact ret_of hF hS rfl (.tmp rfl (.tmp rfl .nil)) rfl
 ·have hr:=cond_t hc1 hr
  refine q_cond_t hF rfl hc1 (q_seq (q_region (q_x (v:=(strV p_s)) hF hS (ex_move rfl) rfl rfl fun a hF=>q_x (v:=(strV p_s)) hF hS (ex_assign rfl) rfl rfl fun a hF=>q_x (v:=(.bool false)) hF hS (ex_assign rfl) rfl rfl fun a hF=>q_end (n_sq (q_ret (r_sq ?_))))))
  obtain rfl:=someI hr
  exact ret_of hF hS rfl (.tmp rfl (.tmp rfl .nil)) rfl

theorem c_strings_CutPrefix (p_s : List UInt8) (p_prefix : List UInt8) (r : (List UInt8) × Bool) (hr : strings_CutPrefix p_s p_prefix = some r) (w0 : World) (m : Mem) (hv : Vis m w0) :
  Ret Tryz.prog 31 [(strV p_s),(strV p_prefix)] w0 (fun v _=>v = (.tuple #[(strV r.1),(.bool r.2)])):=by
 unfold strings_CutPrefix at hr
 refine ret_start Tryz.func31 rfl 11 rfl rfl m hv fun a hF hS=>q_seq (q_region (q_x (v:=(strV ([] : List UInt8))) hF hS (ex_assign rfl) rfl rfl fun a hF=>q_x (v:=(.bool false)) hF hS (ex_assign rfl) rfl rfl fun a hF=>q_end (n_sq (q_seq (q_region (q_x (v:=(strV p_s)) hF hS (ex_move rfl) rfl rfl fun a hF=>q_x (v:=(strV p_prefix)) hF hS (ex_move rfl) rfl rfl fun a hF=>?_))))))
 obtain ⟨t_1,ht_1,hr⟩:=bindS hr
 refine q_call (vs:=[(strV p_s),(strV p_prefix)]) hF hS Tryz.func67 (by kernel_rfl) rfl rfl rfl (c_internal_stringslite_CutPrefix p_s p_prefix t_1 ht_1 _ m hS.vis) ?_
 rintro a w _ rfl hF hS
 refine q_x (v:=(strV t_1.1)) hF hS (ex_extract rfl rfl) rfl rfl fun a hF=>q_x (v:=(.bool t_1.2)) hF hS (ex_extract rfl rfl) rfl rfl fun a hF=>q_x (v:=(strV t_1.1)) hF hS (ex_assign rfl) rfl rfl fun a hF=>q_x (v:=(.bool t_1.2)) hF hS (ex_assign rfl) rfl rfl fun a hF=>q_end (n_sq (q_ret ?_))
 obtain rfl:=someI hr
 exact ret_of hF hS rfl (.tmp rfl (.tmp rfl .nil)) rfl

theorem c_impl_readNatural (p_s : List UInt8) (p_most : Int) (r : Int × (List UInt8) × Bool) (hr : impl_readNatural p_s p_most = some r) (w0 : World) (m : Mem) (hv : Vis m w0) :
  Ret Tryz.prog 68 [(strV p_s),(iV p_most)] w0 (fun v _=>v = (.tuple #[(iV r.1),(strV r.2.1),(.bool r.2.2)])):=by
 unfold impl_readNatural at hr
 refine ret_start Tryz.func68 rfl 50 rfl rfl m hv fun a hF hS=>q_seq (q_region (q_x (v:=(iV 0)) hF hS (ex_assign rfl) rfl rfl fun a hF=>q_x (v:=(strV ([] : List UInt8))) hF hS (ex_assign rfl) rfl rfl fun a hF=>q_x (v:=(.bool false)) hF hS (ex_assign rfl) rfl rfl fun a hF=>q_end (n_sq (q_seq (q_region (q_x (v:=(iV 0)) hF hS (ex_assign rfl) rfl rfl fun a hF=>q_x (v:=(iV 0)) hF hS (ex_assign rfl) rfl rfl fun a hF=>q_end (n_sq (q_seq (q_block ?_)))))))))
 obtain ⟨o1,hl1,hr⟩:=bindS hr
 refine q_loop (fun (s : Int × Int) a w=>∃ n_1,∃ i_2,s = (n_1,i_2)∧Fr a 50 [(0,(strV p_s)),(1,(iV p_most)),(7,(iV n_1)),(8,(iV i_2))]∧St [] w0 w m []) (fun (o : (Int × Int) ⊕ (Int × (List UInt8) × Bool)) e a w=>∃ n_8,∃ i_9,o = .inl (n_8,i_9)∧e = .exit 0∧Fr a 50 [(0,(strV p_s)),(7,(iV n_8)),(8,(iV i_9))]∧St [] w0 w m []) hl1 ⟨_,_,rfl,hF.sub ⟨rfl,rfl,rfl,rfl,trivial⟩,hS⟩ ?_ ?_
 ·clear hF hS
  rintro s a w st ⟨n_1,i_2,rfl,hF,hS⟩ hb1
  unfold impl_readNatural_l1 at hb1
  refine q_seq (q_seq ?_)
  obtain ⟨t_5,hj2,hb1⟩:=bindS hb1
  refine q_join (fun a w=>Fr a 50 [(0,(strV p_s)),(1,(iV p_most)),(7,(iV n_1)),(8,(iV i_2)),(24,(.bool t_5))]∧St [] w0 w m []) ?_ ?_
  ·refine q_region (q_x (v:=(iV i_2)) hF hS (ex_move rfl) rfl rfl fun a hF=>q_x (v:=(strV p_s)) hF hS (ex_move rfl) rfl rfl fun a hF=>q_x (v:=(iV (goLen p_s))) hF hS (ex_strLen Tryz.underlying9 rfl) rfl rfl fun a hF=>q_x (v:=(.bool (decide (i_2 < (goLen p_s))))) hF hS (ex_ibin rfl rfl rfl) rfl rfl fun a hF=>q_x (v:=(.bool (decide (i_2 < (goLen p_s))))) hF hS (ex_move rfl) rfl rfl fun a hF=>?_)
   rcases bcase (decide (i_2 < (goLen p_s))) with hc3 | hc3
   ·have hj2:=cond_f hc3 hj2
    refine q_skip hF (wanted_f hF rfl rfl rfl hc3 rfl) rfl fun a hF=>q_skip hF (wanted_f hF rfl rfl rfl hc3 rfl) rfl fun a hF=>q_skip hF (wanted_f hF rfl rfl rfl hc3 rfl) rfl fun a hF=>q_skip hF (wanted_f hF rfl rfl rfl hc3 rfl) rfl fun a hF=>q_x (v:=(.bool false)) hF hS (ex_pick_f rfl rfl hc3) rfl rfl fun a hF=>q_x (v:=(.bool false)) hF hS (ex_move rfl) rfl rfl fun a hF=>q_skip hF (wanted_f hF rfl rfl rfl rfl rfl) rfl fun a hF=>q_skip hF (wanted_f hF rfl rfl rfl rfl rfl) rfl fun a hF=>q_skip hF (wanted_f hF rfl rfl rfl rfl rfl) rfl fun a hF=>q_skip hF (wanted_f hF rfl rfl rfl rfl rfl) rfl fun a hF=>q_x (v:=(.bool false)) hF hS (ex_pick_f rfl rfl rfl) rfl rfl fun a hF=>q_end (n_jn ?_)
    obtain rfl:=someI hj2
    exact ⟨hF.sub ⟨rfl,rfl,rfl,rfl,rfl,trivial⟩,hS⟩
   ·have hj2:=cond_t hc3 hj2
    refine q_xg (v:=(strV p_s)) hF hS (ex_move rfl) (wanted_t hF rfl rfl rfl hc3) rfl fun a hF=>q_xg (v:=(iV i_2)) hF hS (ex_move rfl) (wanted_t hF rfl rfl rfl hc3) rfl fun a hF=>?_
    obtain ⟨t_3,ht_3,hj2⟩:=bindS hj2
    refine q_xg (v:=(.int .u8 t_3)) hF hS (ex_strIdx Tryz.underlying9 rfl rfl ht_3) (wanted_t hF rfl rfl rfl hc3) rfl fun a hF=>q_xg (v:=(.bool (decide (48 ≤ t_3)))) hF hS (ex_ibin rfl rfl rfl) (wanted_t hF rfl rfl rfl hc3) rfl fun a hF=>q_x (v:=(.bool (decide (48 ≤ t_3)))) hF hS (ex_pick_t rfl rfl hc3) rfl rfl fun a hF=>q_x (v:=(.bool (decide (48 ≤ t_3)))) hF hS (ex_move rfl) rfl rfl fun a hF=>?_
    rcases bcase (decide (48 ≤ t_3)) with hc4 | hc4
    ·have hj2:=cond_f hc4 hj2
     refine q_skip hF (wanted_f hF rfl rfl rfl hc4 rfl) rfl fun a hF=>q_skip hF (wanted_f hF rfl rfl rfl hc4 rfl) rfl fun a hF=>q_skip hF (wanted_f hF rfl rfl rfl hc4 rfl) rfl fun a hF=>q_skip hF (wanted_f hF rfl rfl rfl hc4 rfl) rfl fun a hF=>q_x (v:=(.bool false)) hF hS (ex_pick_f rfl rfl hc4) rfl rfl fun a hF=>q_end (n_jn ?_)
     obtain rfl:=someI hj2
     exact ⟨hF.sub ⟨rfl,rfl,rfl,rfl,rfl,trivial⟩,hS⟩
    ·have hj2:=cond_t hc4 hj2
     refine q_xg (v:=(strV p_s)) hF hS (ex_move rfl) (wanted_t hF rfl rfl rfl hc4) rfl fun a hF=>q_xg (v:=(iV i_2)) hF hS (ex_move rfl) (wanted_t hF rfl rfl rfl hc4) rfl fun a hF=>?_
     obtain ⟨t_4,ht_4,hj2⟩:=bindS hj2
     refine q_xg (v:=(.int .u8 t_4)) hF hS (ex_strIdx Tryz.underlying9 rfl rfl ht_4) (wanted_t hF rfl rfl rfl hc4) rfl fun a hF=>q_xg (v:=(.bool (decide (t_4 ≤ 57)))) hF hS (ex_ibin rfl rfl rfl) (wanted_t hF rfl rfl rfl hc4) rfl fun a hF=>q_x (v:=(.bool (decide (t_4 ≤ 57)))) hF hS (ex_pick_t rfl rfl hc4) rfl rfl fun a hF=>q_end (n_jn ?_)
     obtain rfl:=someI hj2
     exact ⟨hF.sub ⟨rfl,rfl,rfl,rfl,rfl,trivial⟩,hS⟩
  ·rintro a w ⟨hF,hS⟩
   refine n_sq ?_
   rcases bcase (t_5) with hc5 | hc5
   ·have hb1:=cond_f hc5 hb1
    refine q_cond_f hF rfl hc5 (q_exit (x_sq ?_))
    obtain rfl:=someI hb1
    exact ⟨nofun,.inl ⟨_,_,rfl,rfl,hF.sub ⟨rfl,rfl,rfl,trivial⟩,hS⟩⟩
   ·have hb1:=cond_t hc5 hb1
    refine q_cond_t hF rfl hc5 (q_skipc (n_sq (q_block (q_seq (q_seq ?_)))))
    obtain ⟨t_6,hj6,hb1⟩:=bindS hb1
    refine q_join (fun a w=>Fr a 50 [(0,(strV p_s)),(1,(iV p_most)),(7,(iV n_1)),(8,(iV i_2)),(30,(.bool t_6))]∧St [] w0 w m []) ?_ ?_
    ·refine q_region (q_x (v:=(iV i_2)) hF hS (ex_move rfl) rfl rfl fun a hF=>q_x (v:=(.bool (decide (0 < i_2)))) hF hS (ex_ibin rfl rfl rfl) rfl rfl fun a hF=>q_x (v:=(.bool (decide (0 < i_2)))) hF hS (ex_move rfl) rfl rfl fun a hF=>?_)
     rcases bcase (decide (0 < i_2)) with hc7 | hc7
     ·have hj6:=cond_f hc7 hj6
      refine q_skip hF (wanted_f hF rfl rfl rfl hc7 rfl) rfl fun a hF=>q_skip hF (wanted_f hF rfl rfl rfl hc7 rfl) rfl fun a hF=>q_x (v:=(.bool false)) hF hS (ex_pick_f rfl rfl hc7) rfl rfl fun a hF=>q_end (n_jn ?_)
      obtain rfl:=someI hj6
      exact ⟨hF.sub ⟨rfl,rfl,rfl,rfl,rfl,trivial⟩,hS⟩
     ·have hj6:=cond_t hc7 hj6
      refine q_xg (v:=(iV n_1)) hF hS (ex_move rfl) (wanted_t hF rfl rfl rfl hc7) rfl fun a hF=>q_xg (v:=(.bool (n_1 == 0))) hF hS (ex_ibin rfl rfl rfl) (wanted_t hF rfl rfl rfl hc7) rfl fun a hF=>q_x (v:=(.bool (n_1 == 0))) hF hS (ex_pick_t rfl rfl hc7) rfl rfl fun a hF=>q_end (n_jn ?_)
      obtain rfl:=someI hj6
      exact ⟨hF.sub ⟨rfl,rfl,rfl,rfl,rfl,trivial⟩,hS⟩
    ·rintro a w ⟨hF,hS⟩
     refine n_sq ?_
     rcases bcase (t_6) with hc8 | hc8
     ·have hb1:=cond_f hc8 hb1
      refine q_cond_f hF rfl hc8 (q_skipc (n_sq (q_seq (q_region (q_x (v:=(iV n_1)) hF hS (ex_move rfl) rfl rfl fun a hF=>q_x (v:=(iV (w64 (n_1 * 10)))) hF hS (ex_ibin rfl rfl rfl) rfl rfl fun a hF=>q_x (v:=(strV p_s)) hF hS (ex_move rfl) rfl rfl fun a hF=>q_x (v:=(iV i_2)) hF hS (ex_move rfl) rfl rfl fun a hF=>?_)))))
      obtain ⟨t_7,ht_7,hb1⟩:=bindS hb1
      refine q_x (v:=(.int .u8 t_7)) hF hS (ex_strIdx Tryz.underlying9 rfl rfl ht_7) rfl rfl fun a hF=>q_x (v:=(.int .u8 (IntKind.wrap .u8 (t_7 - 48)))) hF hS (ex_ibin rfl rfl rfl) rfl rfl fun a hF=>q_x (v:=(iV (w64 (IntKind.wrap .u8 (t_7 - 48))))) hF hS (ex_conv Tryz.underlying5 Tryz.underlying3 rfl) rfl rfl fun a hF=>q_x (v:=(iV (w64 ((w64 (n_1 * 10)) + (w64 (IntKind.wrap .u8 (t_7 - 48))))))) hF hS (ex_ibin rfl rfl rfl) rfl rfl fun a hF=>q_x (v:=(iV (w64 ((w64 (n_1 * 10)) + (w64 (IntKind.wrap .u8 (t_7 - 48))))))) hF hS (ex_assign rfl) rfl rfl fun a hF=>q_end (n_sq (q_seq (q_seq (q_region (q_x (v:=(iV (w64 ((w64 (n_1 * 10)) + (w64 (IntKind.wrap .u8 (t_7 - 48))))))) hF hS (ex_move rfl) rfl rfl fun a hF=>q_x (v:=(iV p_most)) hF hS (ex_move rfl) rfl rfl fun a hF=>q_x (v:=(.bool (decide (p_most < (w64 ((w64 (n_1 * 10)) + (w64 (IntKind.wrap .u8 (t_7 - 48))))))))) hF hS (ex_ibin rfl rfl rfl) rfl rfl fun a hF=>q_end (n_sq ?_))))))
      rcases bcase (decide (p_most < (w64 ((w64 (n_1 * 10)) + (w64 (IntKind.wrap .u8 (t_7 - 48))))))) with hc9 | hc9
      ·have hb1:=cond_f hc9 hb1
       refine q_cond_f hF rfl hc9 (q_skipc (n_sq (q_region (q_x (v:=(iV i_2)) hF hS (ex_move rfl) rfl rfl fun a hF=>q_x (v:=(iV (w64 (i_2 + 1)))) hF hS (ex_ibin rfl rfl rfl) rfl rfl fun a hF=>q_x (v:=(iV (w64 (i_2 + 1)))) hF hS (ex_assign rfl) rfl rfl fun a hF=>q_end (n_ib ?_)))))
       obtain rfl:=someI hb1
       exact ⟨rfl,_,_,rfl,hF.sub ⟨rfl,rfl,rfl,rfl,trivial⟩,hS⟩
      ·have hb1:=cond_t hc9 hb1
       refine q_cond_t hF rfl hc9 (q_seq (q_region (q_x (v:=(iV 0)) hF hS (ex_assign rfl) rfl rfl fun a hF=>q_x (v:=(strV ([] : List UInt8))) hF hS (ex_assign rfl) rfl rfl fun a hF=>q_x (v:=(.bool false)) hF hS (ex_assign rfl) rfl rfl fun a hF=>q_end (n_sq (q_ret (r_sq (r_ib ?_)))))))
       obtain rfl:=someI hb1
       refine ⟨nofun,.inr fun ho=>?_⟩
       subst ho
       refine r_ib (r_sq ?_)
       obtain rfl:=someI hr
       exact ret_of hF hS rfl (.tmp rfl (.tmp rfl (.tmp rfl .nil))) rfl
     ·have hb1:=cond_t hc8 hb1
      refine q_cond_t hF rfl hc8 (q_seq (q_region (q_x (v:=(iV 0)) hF hS (ex_assign rfl) rfl rfl fun a hF=>q_x (v:=(strV ([] : List UInt8))) hF hS (ex_assign rfl) rfl rfl fun a hF=>q_x (v:=(.bool false)) hF hS (ex_assign rfl) rfl rfl fun a hF=>q_end (n_sq (q_ret (r_sq (r_ib ?_)))))))
      obtain rfl:=someI hb1
      refine ⟨nofun,.inr fun ho=>?_⟩
      subst ho
      refine r_ib (r_sq ?_)
      obtain rfl:=someI hr
      exact ret_of hF hS rfl (.tmp rfl (.tmp rfl (.tmp rfl .nil))) rfl
 ·rintro e a w ⟨n_8,i_9,rfl,rfl,hF,hS⟩
  refine x_ib (n_sq ?_)
  refine q_seq (q_seq (q_region (q_x (v:=(iV i_9)) hF hS (ex_move rfl) rfl rfl fun a hF=>q_x (v:=(.bool (i_9 == 0))) hF hS (ex_ibin rfl rfl rfl) rfl rfl fun a hF=>q_end (n_sq ?_))))
  rcases bcase (i_9 == 0) with hc10 | hc10
  ·have hr:=cond_f hc10 hr
   refine q_cond_f hF rfl hc10 (q_skipc (n_sq (q_seq (e_region ⟨[],[]⟩ mixed fun w' hw'=>?_))))
   have hS:=hS.below hw'
   refine e_p (v:=(iV n_8)) 0 hF rfl (ex_move rfl) rfl rfl (by kernel_rfl) (by kernel_rfl) (by kernel_rfl) fun a hF=>e_p (v:=(strV p_s)) 1 hF rfl (ex_move rfl) rfl rfl (by kernel_rfl) (by kernel_rfl) (by kernel_rfl) fun a hF=>e_p (v:=(iV i_9)) 2 hF rfl (ex_move rfl) rfl rfl (by kernel_rfl) (by kernel_rfl) (by kernel_rfl) fun a hF=>?_
   obtain ⟨t_10,ht_10,hr⟩:=bindS hr
   refine e_p (v:=(strV t_10)) 3 hF rfl (ex_strSub Tryz.underlying9 rfl rfl rfl (.inr ⟨_,rfl⟩) (.inl ⟨rfl,rfl⟩) ht_10) rfl rfl (by kernel_rfl) (by kernel_rfl) (by kernel_rfl) fun a hF=>e_p (v:=(iV n_8)) 4 hF rfl (ex_assign rfl) rfl rfl (by kernel_rfl) (by kernel_rfl) (by kernel_rfl) fun a hF=>e_p (v:=(strV t_10)) 5 hF rfl (ex_assign rfl) rfl rfl (by kernel_rfl) (by kernel_rfl) (by kernel_rfl) fun a hF=>e_p (v:=(.bool true)) 6 hF rfl (ex_assign rfl) rfl rfl (by kernel_rfl) (by kernel_rfl) (by kernel_rfl) fun a hF=>e_end (by kernel_rfl) (n_sq (q_ret ?_)) _
   obtain rfl:=someI hr
   exact ret_of hF hS rfl (.tmp rfl (.tmp rfl (.tmp rfl .nil))) rfl
  ·have hr:=cond_t hc10 hr
   refine q_cond_t hF rfl hc10 (q_seq (q_region (q_x (v:=(iV 0)) hF hS (ex_assign rfl) rfl rfl fun a hF=>q_x (v:=(strV ([] : List UInt8))) hF hS (ex_assign rfl) rfl rfl fun a hF=>q_x (v:=(.bool false)) hF hS (ex_assign rfl) rfl rfl fun a hF=>q_end (n_sq (q_ret (r_sq ?_))))))
   obtain rfl:=someI hr
   exact ret_of hF hS rfl (.tmp rfl (.tmp rfl (.tmp rfl .nil))) rfl

theorem c_impl_readInteger (p_s : List UInt8) (p_most : Int) (r : Int × (List UInt8) × Bool) (hr : impl_readInteger p_s p_most = some r) (w0 : World) (m : Mem) (hv : Vis m w0) :
  Ret Tryz.prog 32 [(strV p_s),(iV p_most)] w0 (fun v _=>v = (.tuple #[(iV r.1),(strV r.2.1),(.bool r.2.2)])):=by
 unfold impl_readInteger at hr
 refine ret_start Tryz.func32 rfl 43 rfl rfl m hv fun a hF hS=>q_seq (q_region (q_x (v:=(iV 0)) hF hS (ex_assign rfl) rfl rfl fun a hF=>q_x (v:=(strV ([] : List UInt8))) hF hS (ex_assign rfl) rfl rfl fun a hF=>q_x (v:=(.bool false)) hF hS (ex_assign rfl) rfl rfl fun a hF=>q_end (n_sq (q_seq ?_))))
 obtain ⟨minus_2,hj1,hr⟩:=bindS hr
 refine q_join (fun a w=>Fr a 43 [(0,(strV p_s)),(1,(iV p_most)),(7,(.bool minus_2))]∧St [] w0 w m []) ?_ ?_
 ·refine q_region (q_x (v:=(strV p_s)) hF hS (ex_move rfl) rfl rfl fun a hF=>q_x (v:=(iV (goLen p_s))) hF hS (ex_strLen Tryz.underlying9 rfl) rfl rfl fun a hF=>q_x (v:=(.bool (decide (0 < (goLen p_s))))) hF hS (ex_ibin rfl rfl rfl) rfl rfl fun a hF=>q_x (v:=(.bool (decide (0 < (goLen p_s))))) hF hS (ex_move rfl) rfl rfl fun a hF=>?_)
  rcases bcase (decide (0 < (goLen p_s))) with hc2 | hc2
  ·have hj1:=cond_f hc2 hj1
   refine q_skip hF (wanted_f hF rfl rfl rfl hc2 rfl) rfl fun a hF=>q_skip hF (wanted_f hF rfl rfl rfl hc2 rfl) rfl fun a hF=>q_skip hF (wanted_f hF rfl rfl rfl hc2 rfl) rfl fun a hF=>q_x (v:=(.bool false)) hF hS (ex_pick_f rfl rfl hc2) rfl rfl fun a hF=>q_x (v:=(.bool false)) hF hS (ex_assign rfl) rfl rfl fun a hF=>q_end (n_jn ?_)
   obtain rfl:=someI hj1
   exact ⟨hF.sub ⟨rfl,rfl,rfl,trivial⟩,hS⟩
  ·have hj1:=cond_t hc2 hj1
   refine q_xg (v:=(strV p_s)) hF hS (ex_move rfl) (wanted_t hF rfl rfl rfl hc2) rfl fun a hF=>?_
   obtain ⟨t_1,ht_1,hj1⟩:=bindS hj1
   refine q_xg (v:=(.int .u8 t_1)) hF hS (ex_strIdx Tryz.underlying9 rfl rfl ht_1) (wanted_t hF rfl rfl rfl hc2) rfl fun a hF=>q_xg (v:=(.bool (t_1 == 45))) hF hS (ex_ibin rfl rfl rfl) (wanted_t hF rfl rfl rfl hc2) rfl fun a hF=>q_x (v:=(.bool (t_1 == 45))) hF hS (ex_pick_t rfl rfl hc2) rfl rfl fun a hF=>q_x (v:=(.bool (t_1 == 45))) hF hS (ex_assign rfl) rfl rfl fun a hF=>q_end (n_jn ?_)
   obtain rfl:=someI hj1
   exact ⟨hF.sub ⟨rfl,rfl,rfl,trivial⟩,hS⟩
 ·rintro a w ⟨hF,hS⟩
  refine n_sq ?_
  refine q_seq (q_seq (q_region (q_x (v:=(.bool minus_2)) hF hS (ex_move rfl) rfl rfl fun a hF=>q_end (n_sq ?_))))
  obtain ⟨s_4,hj3,hr⟩:=bindS hr
  refine q_join (fun a w=>Fr a 43 [(0,(strV s_4)),(1,(iV p_most)),(7,(.bool minus_2))]∧St [] w0 w m []) ?_ ?_
  ·rcases bcase (minus_2) with hc4 | hc4
   ·have hj3:=cond_f hc4 hj3
    refine q_cond_f hF rfl hc4 (q_skipc (n_jn ?_))
    obtain rfl:=someI hj3
    exact ⟨hF.sub ⟨rfl,rfl,rfl,trivial⟩,hS⟩
   ·have hj3:=cond_t hc4 hj3
    refine q_cond_t hF rfl hc4 (q_region (q_x (v:=(strV p_s)) hF hS (ex_move rfl) rfl rfl fun a hF=>?_))
    obtain ⟨t_3,ht_3,hj3⟩:=bindS hj3
    refine q_x (v:=(strV t_3)) hF hS (ex_strSub Tryz.underlying9 rfl rfl rfl (.inr ⟨_,rfl⟩) (.inl ⟨rfl,rfl⟩) ht_3) rfl rfl fun a hF=>q_x (v:=(strV t_3)) hF hS (ex_assign rfl) rfl rfl fun a hF=>q_end (n_jn ?_)
    obtain rfl:=someI hj3
    exact ⟨hF.sub ⟨rfl,rfl,rfl,trivial⟩,hS⟩
  ·rintro a w ⟨hF,hS⟩
   refine n_sq ?_
   refine q_seq (q_region (q_x (v:=(strV s_4)) hF hS (ex_move rfl) rfl rfl fun a hF=>q_x (v:=(iV p_most)) hF hS (ex_move rfl) rfl rfl fun a hF=>?_))
   obtain ⟨t_5,ht_5,hr⟩:=bindS hr
   refine q_call (vs:=[(strV s_4),(iV p_most)]) hF hS Tryz.func68 (by kernel_rfl) rfl rfl rfl (c_impl_readNatural s_4 p_most t_5 ht_5 _ m hS.vis) ?_
   rintro a w _ rfl hF hS
   refine q_x (v:=(.tuple #[(iV t_5.1),(strV t_5.2.1),(.bool t_5.2.2)])) hF hS (ex_move rfl) rfl rfl fun a hF=>q_x (v:=(iV t_5.1)) hF hS (ex_extract rfl rfl) rfl rfl fun a hF=>q_x (v:=(strV t_5.2.1)) hF hS (ex_extract rfl rfl) rfl rfl fun a hF=>q_x (v:=(.bool t_5.2.2)) hF hS (ex_extract rfl rfl) rfl rfl fun a hF=>q_x (v:=(iV t_5.1)) hF hS (ex_assign rfl) rfl rfl fun a hF=>q_x (v:=(strV t_5.2.1)) hF hS (ex_assign rfl) rfl rfl fun a hF=>q_x (v:=(.bool t_5.2.2)) hF hS (ex_assign rfl) rfl rfl fun a hF=>q_end (n_sq (q_seq (q_seq ?_)))
   obtain ⟨t_6,hj5,hr⟩:=bindS hr
   refine q_join (fun a w=>Fr a 43 [(7,(.bool minus_2)),(8,(iV t_5.1)),(9,(strV t_5.2.1)),(37,(.bool t_6))]∧St [] w0 w m []) ?_ ?_
   ·refine q_region (q_x (v:=(.bool t_5.2.2)) hF hS (ex_move rfl) rfl rfl fun a hF=>q_x (v:=(.bool (!t_5.2.2))) hF hS (ex_not rfl) rfl rfl fun a hF=>q_x (v:=(.bool (!t_5.2.2))) hF hS (ex_move rfl) rfl rfl fun a hF=>?_)
    rcases bcase (!t_5.2.2) with hc6 | hc6
    ·have hj5:=cond_f hc6 hj5
     refine q_xg (v:=(.bool minus_2)) hF hS (ex_move rfl) (wanted_t hF rfl rfl rfl hc6) rfl fun a hF=>q_xg (v:=(.bool minus_2)) hF hS (ex_move rfl) (wanted_t hF rfl rfl rfl hc6) rfl fun a hF=>?_
     rcases bcase (minus_2) with hc7 | hc7
     ·have hj5:=cond_f hc7 hj5
      refine q_skip hF (wanted_f hF rfl rfl rfl hc7 rfl) rfl fun a hF=>q_skip hF (wanted_f hF rfl rfl rfl hc7 rfl) rfl fun a hF=>q_xg (v:=(.bool false)) hF hS (ex_pick_f rfl rfl hc7) (wanted_t hF rfl rfl rfl hc6) rfl fun a hF=>q_x (v:=(.bool false)) hF hS (ex_pick_f rfl rfl hc6) rfl rfl fun a hF=>q_end (n_jn ?_)
      obtain rfl:=someI hj5
      exact ⟨hF.sub ⟨rfl,rfl,rfl,rfl,trivial⟩,hS⟩
     ·have hj5:=cond_t hc7 hj5
      refine q_xg (v:=(iV t_5.1)) hF hS (ex_move rfl) (wanted_t hF rfl rfl rfl hc7) rfl fun a hF=>q_xg (v:=(.bool (t_5.1 == 0))) hF hS (ex_ibin rfl rfl rfl) (wanted_t hF rfl rfl rfl hc7) rfl fun a hF=>q_xg (v:=(.bool (t_5.1 == 0))) hF hS (ex_pick_t rfl rfl hc7) (wanted_t hF rfl rfl rfl hc6) rfl fun a hF=>q_x (v:=(.bool (t_5.1 == 0))) hF hS (ex_pick_f rfl rfl hc6) rfl rfl fun a hF=>q_end (n_jn ?_)
      obtain rfl:=someI hj5
      exact ⟨hF.sub ⟨rfl,rfl,rfl,rfl,trivial⟩,hS⟩
    ·have hj5:=cond_t hc6 hj5
     refine q_skip hF (wanted_f hF rfl rfl rfl hc6 rfl) rfl fun a hF=>q_skip hF (wanted_f hF rfl rfl rfl hc6 rfl) rfl fun a hF=>q_skip hF (wanted_u hF rfl rfl rfl) rfl fun a hF=>q_skip hF (wanted_u hF rfl rfl rfl) rfl fun a hF=>q_skip hF (wanted_f hF rfl rfl rfl hc6 rfl) rfl fun a hF=>q_x (v:=(.bool true)) hF hS (ex_pick_t rfl rfl hc6) rfl rfl fun a hF=>q_end (n_jn ?_)
     obtain rfl:=someI hj5
     exact ⟨hF.sub ⟨rfl,rfl,rfl,rfl,trivial⟩,hS⟩
   ·rintro a w ⟨hF,hS⟩
    refine n_sq ?_
    rcases bcase (t_6) with hc8 | hc8
    ·have hr:=cond_f hc8 hr
     refine q_cond_f hF rfl hc8 (q_skipc (n_sq (q_seq (q_seq (q_region (q_x (v:=(.bool minus_2)) hF hS (ex_move rfl) rfl rfl fun a hF=>q_end (n_sq ?_)))))))
     obtain ⟨n_7,hj9,hr⟩:=bindS hr
     refine q_join (fun a w=>Fr a 43 [(8,(iV n_7)),(9,(strV t_5.2.1))]∧St [] w0 w m []) ?_ ?_
     ·rcases bcase (minus_2) with hc10 | hc10
      ·have hj9:=cond_f hc10 hj9
       refine q_cond_f hF rfl hc10 (q_skipc (n_jn ?_))
       obtain rfl:=someI hj9
       exact ⟨hF.sub ⟨rfl,rfl,trivial⟩,hS⟩
      ·have hj9:=cond_t hc10 hj9
       refine q_cond_t hF rfl hc10 (q_region (q_x (v:=(iV t_5.1)) hF hS (ex_move rfl) rfl rfl fun a hF=>q_x (v:=(iV (w64 (-t_5.1)))) hF hS (ex_neg rfl) rfl rfl fun a hF=>q_x (v:=(iV (w64 (-t_5.1)))) hF hS (ex_assign rfl) rfl rfl fun a hF=>q_end (n_jn ?_)))
       obtain rfl:=someI hj9
       exact ⟨hF.sub ⟨rfl,rfl,trivial⟩,hS⟩
     ·rintro a w ⟨hF,hS⟩
      refine n_sq ?_
      refine q_seq (q_region (q_x (v:=(iV n_7)) hF hS (ex_move rfl) rfl rfl fun a hF=>q_x (v:=(strV t_5.2.1)) hF hS (ex_move rfl) rfl rfl fun a hF=>q_x (v:=(iV n_7)) hF hS (ex_assign rfl) rfl rfl fun a hF=>q_x (v:=(strV t_5.2.1)) hF hS (ex_assign rfl) rfl rfl fun a hF=>q_x (v:=(.bool true)) hF hS (ex_assign rfl) rfl rfl fun a hF=>q_end (n_sq (q_ret ?_))))
      obtain rfl:=someI hr
      exact ret_of hF hS rfl (.tmp rfl (.tmp rfl (.tmp rfl .nil))) rfl
    ·have hr:=cond_t hc8 hr
     refine q_cond_t hF rfl hc8 (q_seq (q_region (q_x (v:=(iV 0)) hF hS (ex_assign rfl) rfl rfl fun a hF=>q_x (v:=(strV ([] : List UInt8))) hF hS (ex_assign rfl) rfl rfl fun a hF=>q_x (v:=(.bool false)) hF hS (ex_assign rfl) rfl rfl fun a hF=>q_end (n_sq (q_ret (r_sq ?_))))))
     obtain rfl:=someI hr
     exact ret_of hF hS rfl (.tmp rfl (.tmp rfl (.tmp rfl .nil))) rfl

theorem c_impl_ParseReport (p_g : impl_Geo) (p_s : List impl_Variable) (p_t : impl_Table) (p_x : List UInt8) (r : (List Int) × Bool) (hr : impl_ParseReport p_g p_s p_t p_x = some r) (w0 : World) (m : Mem) (hv : Vis m w0) (ht : Tbl m) (s1 : Sl) (h1 : Rd m s1 p_g.Parents) (s2 : Sl) (h2 : Rd m s2 p_s) (s3 : Sl) (h3 : Rd m s3 p_t.Vars) (s4 : Sl) (h4 : Rd m s4 p_t.Where) :
  Ret Tryz.prog 8 [(.agg #[s1.v]),s2.v,(.agg #[(iV p_t.Level),s3.v,s4.v,(iV p_t.Sum)]),(strV p_x)] w0 (fun v w=>∃ (q0' : Piece) (s0' : Sl),v = (.tuple #[s0'.v,(.bool r.2)])∧St [] w0 w m [q0']∧OwnL m 3 q0' s0' r.1):=by
 unfold impl_ParseReport at hr
 refine ret_start Tryz.func8 rfl 68 rfl rfl m hv fun a hF hS=>q_seq (q_region (q_box (cs:=[s1.v]) hF hS rfl rfl rfl fun a w b5 hF hS=>q_box (cs:=[(iV p_t.Level),s3.v,s4.v,(iV p_t.Sum)]) hF hS rfl rfl rfl fun a w b6 hF hS=>q_x (v:=nilS.v) hF hS (ex_assign rfl) rfl rfl fun a hF=>q_x (v:=(.bool false)) hF hS (ex_assign rfl) rfl rfl fun a hF=>q_end (n_sq (q_seq (q_seq (q_region (q_x (v:=(.agg #[s1.v])) hF hS (ex_loadA (vs:=[s1.v]) 1 0 Tryz.underlying26 rfl sz26 rfl rfl rfl rfl) rfl rfl fun a hF=>q_x (v:=s2.v) hF hS (ex_move rfl) rfl rfl fun a hF=>q_x (v:=(.agg #[(iV p_t.Level),s3.v,s4.v,(iV p_t.Sum)])) hF hS (ex_loadA (vs:=[(iV p_t.Level),s3.v,s4.v,(iV p_t.Sum)]) 0 0 Tryz.underlying29 rfl sz29 rfl rfl rfl rfl) rfl rfl fun a hF=>?_)))))))
 obtain ⟨t_7,ht_7,hr⟩:=bindS hr
 refine q_call (vs:=[(.agg #[s1.v]),s2.v,(.agg #[(iV p_t.Level),s3.v,s4.v,(iV p_t.Sum)])]) hF hS Tryz.func22 (by kernel_rfl) rfl rfl rfl (c_impl_areTabled p_g p_s p_t t_7 ht_7 _ m hS.vis s1 h1 s2 h2 s3 h3 s4 h4) ?_
 rintro a w _ rfl hF hS
 refine q_x (v:=(.bool (!t_7))) hF hS (ex_not rfl) rfl rfl fun a hF=>q_end (n_sq ?_)
 rcases bcase (!t_7) with hc1 | hc1
 ·have hr:=cond_f hc1 hr
  refine q_cond_f hF rfl hc1 (q_skipc (n_sq (q_seq (q_region (q_x (v:=(.agg #[s1.v])) hF hS (ex_loadA (vs:=[s1.v]) 1 0 Tryz.underlying26 rfl sz26 rfl rfl rfl rfl) rfl rfl fun a hF=>q_x (v:=s2.v) hF hS (ex_move rfl) rfl rfl fun a hF=>q_x (v:=(.agg #[(iV p_t.Level),s3.v,s4.v,(iV p_t.Sum)])) hF hS (ex_loadA (vs:=[(iV p_t.Level),s3.v,s4.v,(iV p_t.Sum)]) 0 0 Tryz.underlying29 rfl sz29 rfl rfl rfl rfl) rfl rfl fun a hF=>?_)))))
  obtain ⟨t_8,ht_8,hr⟩:=bindS hr
  refine q_call (vs:=[(.agg #[s1.v]),s2.v,(.agg #[(iV p_t.Level),s3.v,s4.v,(iV p_t.Sum)])]) hF hS Tryz.func24 (by kernel_rfl) rfl rfl rfl (c_impl_cellCount p_g p_s p_t t_8 ht_8 _ m hS.vis s1 h1 s2 h2 s3 h3 s4 h4) ?_
  rintro a w _ rfl hF hS
  obtain ⟨l_9,hl_9,hr⟩:=bindS hr
  refine q_do rfl fun _ hK=>wp_make (z:=(0 : Int)) hF hS Tryz.underlying24 inf3 rfl rfl rfl rfl rfl (by decide) hl_9 rfl fun a w q10 s10 hF hS h10 _=>hK _ _ (q_x (v:=s10.v) hF hS (ex_assign rfl) rfl rfl fun a hF=>q_end (n_sq (q_seq (q_seq (q_region (q_x (v:=s10.v) hF hS (ex_move rfl) rfl rfl fun a hF=>q_x (v:=(iV (goLen l_9))) hF hS (ex_len Tryz.underlying24 rfl h10.len) rfl rfl fun a hF=>q_x (v:=(iV 0)) hF hS (ex_move rfl) rfl rfl fun a hF=>q_end (n_sq (q_block ?_))))))))
  obtain ⟨o2,hl2,hr⟩:=bindS hr
  refine q_loop (fun (s : (List UInt8) × (List Int) × Int) a w=>∃ (q13 : Piece),∃ x_11,∃ cells_12,∃ t_14,s = (x_11,cells_12,t_14)∧Fr a 68 [(1,s2.v),(3,(strV x_11)),(4,(.pointer (some ⟨b5,0,none⟩))),(6,(.pointer (some ⟨b6,0,none⟩))),(10,s10.v),(25,(iV (goLen l_9))),(26,(iV t_14))]∧St [] w0 w m [q13,[⟨b6,[(iV p_t.Level),s3.v,s4.v,(iV p_t.Sum)],29⟩],[⟨b5,[s1.v],26⟩]]∧OwnL m 3 q13 s10 cells_12) (fun (o : ((List UInt8) × (List Int)) ⊕ ((List Int) × Bool)) e a w=>∃ (q27 : Piece),∃ x_25,∃ cells_26,o = .inl (x_25,cells_26)∧e = .exit 0∧Fr a 68 [(3,(strV x_25)),(10,s10.v)]∧St [] w0 w m [q27]∧OwnL m 3 q27 s10 cells_26) hl2 ⟨q10,_,_,_,rfl,hF.sub ⟨rfl,rfl,rfl,rfl,rfl,rfl,rfl,trivial⟩,hS,h10⟩ ?_ ?_
  ·clear hF hS
   rintro s a w st ⟨q13,x_11,cells_12,t_14,rfl,hF,hS,h13⟩ hb2
   unfold impl_ParseReport_l1 at hb2
   refine q_seq (q_region (q_x (v:=(.bool (decide (t_14 < (goLen l_9))))) hF hS (ex_ibin rfl rfl rfl) rfl rfl fun a hF=>q_end (n_sq (q_seq ?_))))
   rcases bcase (decide (t_14 < (goLen l_9))) with hc3 | hc3
   ·have hb2:=cond_f hc3 hb2
    refine q_cond_f hF rfl hc3 (q_exit (x_sq ?_))
    obtain rfl:=someI hb2
    exact ⟨nofun,.inl ⟨q13,_,_,rfl,rfl,hF.sub ⟨rfl,rfl,trivial⟩,hS.mask [true,false,false],h13⟩⟩
   ·have hb2:=cond_t hc3 hb2
    refine q_cond_t hF rfl hc3 (q_skipc (n_sq (q_seq (q_block (q_seq (q_region (q_x (v:=(iV t_14)) hF hS (ex_move rfl) rfl rfl fun a hF=>q_x (v:=(iV t_14)) hF hS (ex_assign rfl) rfl rfl fun a hF=>q_end (n_sq (q_seq (q_region (q_x (v:=(strV x_11)) hF hS (ex_move rfl) rfl rfl fun a hF=>q_x (v:=(.agg #[s1.v])) hF hS (ex_loadA (vs:=[s1.v]) 2 0 Tryz.underlying26 rfl sz26 rfl rfl rfl rfl) rfl rfl fun a hF=>q_x (v:=s2.v) hF hS (ex_move rfl) rfl rfl fun a hF=>q_x (v:=(.agg #[(iV p_t.Level),s3.v,s4.v,(iV p_t.Sum)])) hF hS (ex_loadA (vs:=[(iV p_t.Level),s3.v,s4.v,(iV p_t.Sum)]) 1 0 Tryz.underlying29 rfl sz29 rfl rfl rfl rfl) rfl rfl fun a hF=>q_x (v:=(iV t_14)) hF hS (ex_move rfl) rfl rfl fun a hF=>?_)))))))))))
    obtain ⟨t_15,ht_15,hb2⟩:=bindS hb2
    refine q_call (vs:=[(.agg #[s1.v]),s2.v,(.agg #[(iV p_t.Level),s3.v,s4.v,(iV p_t.Sum)]),(iV t_14)]) hF hS Tryz.func26 (by kernel_rfl) rfl rfl rfl (c_impl_cellText p_g p_s p_t t_14 t_15 ht_15 _ m hS.vis ht s1 h1 s2 h2 s3 h3 s4 h4) ?_
    rintro a w _ rfl hF hS
    obtain ⟨t_16,ht_16,hb2⟩:=bindS hb2
    refine q_x (v:=(strV t_16)) hF hS (ex_strCat rfl rfl ht_16) rfl rfl fun a hF=>?_
    obtain ⟨t_17,ht_17,hb2⟩:=bindS hb2
    refine q_call (vs:=[(strV x_11),(strV t_16)]) hF hS Tryz.func31 (by kernel_rfl) rfl rfl rfl (c_strings_CutPrefix x_11 t_16 t_17 ht_17 _ m hS.vis) ?_
    rintro a w _ rfl hF hS
    refine q_x (v:=(.tuple #[(strV t_17.1),(.bool t_17.2)])) hF hS (ex_move rfl) rfl rfl fun a hF=>q_x (v:=(strV t_17.1)) hF hS (ex_extract rfl rfl) rfl rfl fun a hF=>q_x (v:=(.bool t_17.2)) hF hS (ex_extract rfl rfl) rfl rfl fun a hF=>q_x (v:=(strV t_17.1)) hF hS (ex_assign rfl) rfl rfl fun a hF=>q_x (v:=(.bool t_17.2)) hF hS (ex_assign rfl) rfl rfl fun a hF=>q_end (n_sq (q_seq (q_seq (q_region (q_x (v:=(.bool t_17.2)) hF hS (ex_move rfl) rfl rfl fun a hF=>q_x (v:=(.bool (!t_17.2))) hF hS (ex_not rfl) rfl rfl fun a hF=>q_end (n_sq ?_))))))
    rcases bcase (!t_17.2) with hc4 | hc4
    ·have hb2:=cond_f hc4 hb2
     refine q_cond_f hF rfl hc4 (q_skipc (n_sq (q_seq (q_region (q_x (v:=s10.v) hF hS (ex_move rfl) rfl rfl fun a hF=>q_x (v:=(iV t_14)) hF hS (ex_move rfl) rfl rfl fun a hF=>q_x (v:=(strV t_17.1)) hF hS (ex_move rfl) rfl rfl fun a hF=>?_)))))
     obtain ⟨t_18,ht_18,hb2⟩:=bindS hb2
     refine q_call (vs:=[(strV t_17.1),(iV 1000000)]) hF hS Tryz.func32 (by kernel_rfl) rfl rfl rfl (c_impl_readInteger t_17.1 1000000 t_18 ht_18 _ m hS.vis) ?_
     rintro a w _ rfl hF hS
     refine q_x (v:=(.tuple #[(iV t_18.1),(strV t_18.2.1),(.bool t_18.2.2)])) hF hS (ex_move rfl) rfl rfl fun a hF=>q_x (v:=(iV t_18.1)) hF hS (ex_extract rfl rfl) rfl rfl fun a hF=>q_x (v:=(strV t_18.2.1)) hF hS (ex_extract rfl rfl) rfl rfl fun a hF=>q_x (v:=(.bool t_18.2.2)) hF hS (ex_extract rfl rfl) rfl rfl fun a hF=>?_
     obtain ⟨e_19,he_19,hb2⟩:=bindS hb2
     obtain ⟨vs20,at20,d20⟩:=h13.at he_19 1 rfl
     obtain rfl : vs20 = [(iV e_19)]:=d20
     refine q_x (v:=(elP s10 (t_14.toNat * 1))) hF hS (ex_indexAddr Tryz.underlying24 sz3 rfl rfl (h13.idx he_19)) rfl rfl fun a hF=>q_do rfl fun _ hK=>wp_storeE (e':=t_18.1) (us:=[(iV t_18.1)]) (vs:=[(iV e_19)]) 0 hF hS h13 sz3 rfl rfl rfl rfl rfl rfl rfl he_19 at20 rfl rfl rfl fun w q21 hS h21=>hK _ _ (q_x (v:=(strV t_18.2.1)) hF hS (ex_assign rfl) rfl rfl fun a hF=>q_x (v:=(.bool t_18.2.2)) hF hS (ex_assign rfl) rfl rfl fun a hF=>q_end (n_sq (q_seq (q_seq ?_))))
     obtain ⟨t_23,hj5,hb2⟩:=bindS hb2
     refine q_join (fun a w=>Fr a 68 [(1,s2.v),(4,(.pointer (some ⟨b5,0,none⟩))),(6,(.pointer (some ⟨b6,0,none⟩))),(10,s10.v),(12,(strV t_18.2.1)),(25,(iV (goLen l_9))),(26,(iV t_14)),(61,(.bool t_23))]∧St [] w0 w m [q21,[⟨b6,[(iV p_t.Level),s3.v,s4.v,(iV p_t.Sum)],29⟩],[⟨b5,[s1.v],26⟩]]) ?_ ?_
     ·refine q_region (q_x (v:=(.bool t_18.2.2)) hF hS (ex_move rfl) rfl rfl fun a hF=>q_x (v:=(.bool (!t_18.2.2))) hF hS (ex_not rfl) rfl rfl fun a hF=>q_x (v:=(.bool (!t_18.2.2))) hF hS (ex_move rfl) rfl rfl fun a hF=>?_)
      rcases bcase (!t_18.2.2) with hc6 | hc6
      ·have hj5:=cond_f hc6 hj5
       refine q_xg (v:=(strV t_18.2.1)) hF hS (ex_move rfl) (wanted_t hF rfl rfl rfl hc6) rfl fun a hF=>q_xg (v:=(.bool (t_18.2.1 == ([] : List UInt8)))) hF hS (ex_strEq rfl rfl) (wanted_t hF rfl rfl rfl hc6) rfl fun a hF=>q_x (v:=(.bool (t_18.2.1 == ([] : List UInt8)))) hF hS (ex_pick_f rfl rfl hc6) rfl rfl fun a hF=>q_x (v:=(.bool (t_18.2.1 == ([] : List UInt8)))) hF hS (ex_move rfl) rfl rfl fun a hF=>?_
       rcases bcase (t_18.2.1 == ([] : List UInt8)) with hc7 | hc7
       ·have hj5:=cond_f hc7 hj5
        refine q_xg (v:=(strV t_18.2.1)) hF hS (ex_move rfl) (wanted_t hF rfl rfl rfl hc7) rfl fun a hF=>?_
        obtain ⟨t_22,ht_22,hj5⟩:=bindS hj5
        refine q_xg (v:=(.int .u8 t_22)) hF hS (ex_strIdx Tryz.underlying9 rfl rfl ht_22) (wanted_t hF rfl rfl rfl hc7) rfl fun a hF=>q_xg (v:=(.bool (t_22 != 10))) hF hS (ex_ibin rfl rfl rfl) (wanted_t hF rfl rfl rfl hc7) rfl fun a hF=>q_x (v:=(.bool (t_22 != 10))) hF hS (ex_pick_f rfl rfl hc7) rfl rfl fun a hF=>q_end (n_jn ?_)
        obtain rfl:=someI hj5
        exact ⟨hF.sub ⟨rfl,rfl,rfl,rfl,rfl,rfl,rfl,rfl,trivial⟩,hS⟩
       ·have hj5:=cond_t hc7 hj5
        refine q_skip hF (wanted_f hF rfl rfl rfl hc7 rfl) rfl fun a hF=>q_skip hF (wanted_f hF rfl rfl rfl hc7 rfl) rfl fun a hF=>q_skip hF (wanted_f hF rfl rfl rfl hc7 rfl) rfl fun a hF=>q_x (v:=(.bool true)) hF hS (ex_pick_t rfl rfl hc7) rfl rfl fun a hF=>q_end (n_jn ?_)
        obtain rfl:=someI hj5
        exact ⟨hF.sub ⟨rfl,rfl,rfl,rfl,rfl,rfl,rfl,rfl,trivial⟩,hS⟩
      ·have hj5:=cond_t hc6 hj5
       refine q_skip hF (wanted_f hF rfl rfl rfl hc6 rfl) rfl fun a hF=>q_skip hF (wanted_f hF rfl rfl rfl hc6 rfl) rfl fun a hF=>q_x (v:=(.bool true)) hF hS (ex_pick_t rfl rfl hc6) rfl rfl fun a hF=>q_x (v:=(.bool true)) hF hS (ex_move rfl) rfl rfl fun a hF=>q_skip hF (wanted_f hF rfl rfl rfl rfl rfl) rfl fun a hF=>q_skip hF (wanted_f hF rfl rfl rfl rfl rfl) rfl fun a hF=>q_skip hF (wanted_f hF rfl rfl rfl rfl rfl) rfl fun a hF=>q_x (v:=(.bool true)) hF hS (ex_pick_t rfl rfl rfl) rfl rfl fun a hF=>q_end (n_jn ?_)
       obtain rfl:=someI hj5
       exact ⟨hF.sub ⟨rfl,rfl,rfl,rfl,rfl,rfl,rfl,rfl,trivial⟩,hS⟩
     ·rintro a w ⟨hF,hS⟩
      refine n_sq ?_
      rcases bcase (t_23) with hc8 | hc8
      ·have hb2:=cond_f hc8 hb2
       refine q_cond_f hF rfl hc8 (q_skipc (n_sq (q_region (q_x (v:=(strV t_18.2.1)) hF hS (ex_move rfl) rfl rfl fun a hF=>?_))))
       obtain ⟨t_24,ht_24,hb2⟩:=bindS hb2
       refine q_x (v:=(strV t_24)) hF hS (ex_strSub Tryz.underlying9 rfl rfl rfl (.inr ⟨_,rfl⟩) (.inl ⟨rfl,rfl⟩) ht_24) rfl rfl fun a hF=>q_x (v:=(strV t_24)) hF hS (ex_assign rfl) rfl rfl fun a hF=>q_end (n_ib (n_sq (q_region (q_x (v:=(iV (w64 (t_14 + 1)))) hF hS (ex_ibin rfl rfl rfl) rfl rfl fun a hF=>q_x (v:=(iV (w64 (t_14 + 1)))) hF hS (ex_move rfl) rfl rfl fun a hF=>q_end ?_))))
       obtain rfl:=someI hb2
       exact ⟨rfl,q21,_,_,_,rfl,hF.sub ⟨rfl,rfl,rfl,rfl,rfl,rfl,rfl,trivial⟩,hS,h21⟩
      ·have hb2:=cond_t hc8 hb2
       refine q_cond_t hF rfl hc8 (q_seq (q_region (q_x (v:=nilS.v) hF hS (ex_assign rfl) rfl rfl fun a hF=>q_x (v:=(.bool false)) hF hS (ex_assign rfl) rfl rfl fun a hF=>q_end (n_sq (q_ret (r_sq (r_ib (r_sq ?_))))))))
       obtain rfl:=someI hb2
       refine ⟨nofun,.inr fun ho=>?_⟩
       subst ho
       refine r_ib (r_sq ?_)
       obtain rfl:=someI hr
       exact ret_of hF hS rfl (.tmp rfl (.tmp rfl .nil)) ⟨[],nilS,rfl,hS.sel [3] (by decide),(OwnL.nil (α:=Int) m 3)⟩
    ·have hb2:=cond_t hc4 hb2
     refine q_cond_t hF rfl hc4 (q_seq (q_region (q_x (v:=nilS.v) hF hS (ex_assign rfl) rfl rfl fun a hF=>q_x (v:=(.bool false)) hF hS (ex_assign rfl) rfl rfl fun a hF=>q_end (n_sq (q_ret (r_sq (r_ib (r_sq ?_))))))))
     obtain rfl:=someI hb2
     refine ⟨nofun,.inr fun ho=>?_⟩
     subst ho
     refine r_ib (r_sq ?_)
     obtain rfl:=someI hr
     exact ret_of hF hS rfl (.tmp rfl (.tmp rfl .nil)) ⟨[],nilS,rfl,hS.sel [3] (by decide),(OwnL.nil (α:=Int) m 3)⟩
  ·rintro e a w ⟨q27,x_25,cells_26,rfl,rfl,hF,hS,h27⟩
   refine x_ib (n_sq ?_)
   refine q_seq (q_seq (q_region (q_x (v:=(strV x_25)) hF hS (ex_move rfl) rfl rfl fun a hF=>q_x (v:=(.bool (x_25 != ([] : List UInt8)))) hF hS (ex_strNe rfl rfl) rfl rfl fun a hF=>q_end (n_sq ?_))))
   rcases bcase (x_25 != ([] : List UInt8)) with hc9 | hc9
   ·have hr:=cond_f hc9 hr
    refine q_cond_f hF rfl hc9 (q_skipc (n_sq (q_seq (q_region (q_x (v:=s10.v) hF hS (ex_move rfl) rfl rfl fun a hF=>q_x (v:=s10.v) hF hS (ex_assign rfl) rfl rfl fun a hF=>q_x (v:=(.bool true)) hF hS (ex_assign rfl) rfl rfl fun a hF=>q_end (n_sq (q_ret ?_)))))))
    obtain rfl:=someI hr
    exact ret_of hF hS rfl (.tmp rfl (.tmp rfl .nil)) ⟨q27,s10,rfl,hS.sel [0] (by decide),h27⟩
   ·have hr:=cond_t hc9 hr
    refine q_cond_t hF rfl hc9 (q_seq (q_region (q_x (v:=nilS.v) hF hS (ex_assign rfl) rfl rfl fun a hF=>q_x (v:=(.bool false)) hF hS (ex_assign rfl) rfl rfl fun a hF=>q_end (n_sq (q_ret (r_sq ?_))))))
    obtain rfl:=someI hr
    exact ret_of hF hS rfl (.tmp rfl (.tmp rfl .nil)) ⟨[],nilS,rfl,hS.sel [1] (by decide),(OwnL.nil (α:=Int) m 3)⟩
 ·have hr:=cond_t hc1 hr
  refine q_cond_t hF rfl hc1 (q_seq (q_region (q_x (v:=nilS.v) hF hS (ex_assign rfl) rfl rfl fun a hF=>q_x (v:=(.bool false)) hF hS (ex_assign rfl) rfl rfl fun a hF=>q_end (n_sq (q_ret (r_sq ?_))))))
  obtain rfl:=someI hr
  exact ret_of hF hS rfl (.tmp rfl (.tmp rfl .nil)) ⟨[],nilS,rfl,hS.sel [2] (by decide),(OwnL.nil (α:=Int) m 3)⟩

theorem c_laws_sameInts (p_a : List Int) (p_b : List Int) (r : Bool) (hr : laws_sameInts p_a p_b = some r) (w0 : World) (m : Mem) (hv : Vis m w0) (s1 : Sl) (h1 : Rd m s1 p_a) (s2 : Sl) (h2 : Rd m s2 p_b) :
  Ret Tryz.prog 9 [s1.v,s2.v] w0 (fun v _=>v = (.bool r)):=by
 unfold laws_sameInts at hr
 refine ret_start Tryz.func9 rfl 26 rfl rfl m hv fun a hF hS=>q_seq (q_region (q_x (v:=(.bool false)) hF hS (ex_assign rfl) rfl rfl fun a hF=>q_end (n_sq (q_seq (q_seq (q_region (q_x (v:=s1.v) hF hS (ex_move rfl) rfl rfl fun a hF=>q_x (v:=(iV (goLen p_a))) hF hS (ex_len Tryz.underlying24 rfl h1.len) rfl rfl fun a hF=>q_x (v:=s2.v) hF hS (ex_move rfl) rfl rfl fun a hF=>q_x (v:=(iV (goLen p_b))) hF hS (ex_len Tryz.underlying24 rfl h2.len) rfl rfl fun a hF=>q_x (v:=(.bool ((goLen p_a) != (goLen p_b)))) hF hS (ex_ibin rfl rfl rfl) rfl rfl fun a hF=>q_end (n_sq ?_))))))))
 rcases bcase ((goLen p_a) != (goLen p_b)) with hc1 | hc1
 ·have hr:=cond_f hc1 hr
  refine q_cond_f hF rfl hc1 (q_skipc (n_sq (q_seq (q_seq (q_region (q_x (v:=s1.v) hF hS (ex_move rfl) rfl rfl fun a hF=>q_x (v:=(iV (goLen p_a))) hF hS (ex_len Tryz.underlying24 rfl h1.len) rfl rfl fun a hF=>q_x (v:=(iV 0)) hF hS (ex_move rfl) rfl rfl fun a hF=>q_end (n_sq (q_block ?_))))))))
  obtain ⟨o2,hl2,hr⟩:=bindS hr
  refine q_loop (fun (t_3 : Int) a w=>Fr a 26 [(0,s1.v),(1,s2.v),(12,(iV (goLen p_a))),(13,(iV t_3))]∧St [] w0 w m []) (fun (o : (Unit) ⊕ (Bool)) e a w=>o = .inl ()∧e = .exit 0∧Fr a 26 []∧St [] w0 w m []) hl2 ⟨hF.sub ⟨rfl,rfl,rfl,rfl,trivial⟩,hS⟩ ?_ ?_
  ·clear hF hS
   rintro t_3 a w st ⟨hF,hS⟩ hb2
   unfold laws_sameInts_l1 at hb2
   refine q_seq (q_region (q_x (v:=(.bool (decide (t_3 < (goLen p_a))))) hF hS (ex_ibin rfl rfl rfl) rfl rfl fun a hF=>q_end (n_sq (q_seq ?_))))
   rcases bcase (decide (t_3 < (goLen p_a))) with hc3 | hc3
   ·have hb2:=cond_f hc3 hb2
    refine q_cond_f hF rfl hc3 (q_exit (x_sq ?_))
    obtain rfl:=someI hb2
    exact ⟨nofun,.inl ⟨rfl,rfl,hF.sub trivial,hS⟩⟩
   ·have hb2:=cond_t hc3 hb2
    refine q_cond_t hF rfl hc3 (q_skipc (n_sq (q_seq (q_block (q_seq (q_region (q_x (v:=(iV t_3)) hF hS (ex_move rfl) rfl rfl fun a hF=>q_x (v:=(iV t_3)) hF hS (ex_assign rfl) rfl rfl fun a hF=>q_end (n_sq (q_seq (e_region ⟨[],[]⟩ mixed fun w' hw'=>?_))))))))))
    have hS:=hS.below hw'
    refine e_p (v:=s1.v) 0 hF rfl (ex_move rfl) rfl rfl (by kernel_rfl) (by kernel_rfl) (by kernel_rfl) fun a hF=>e_p (v:=(iV t_3)) 1 hF rfl (ex_move rfl) rfl rfl (by kernel_rfl) (by kernel_rfl) (by kernel_rfl) fun a hF=>?_
    obtain ⟨e_4,he_4,hb2⟩:=bindS hb2
    obtain ⟨vs5,at5,d5⟩:=h1.at he_4 1 rfl
    obtain rfl : vs5 = [(iV e_4)]:=d5
    refine e_p (v:=(elP s1 (t_3.toNat * 1))) 2 hF rfl (ex_indexAddr Tryz.underlying24 sz3 rfl rfl (h1.idx he_4)) rfl rfl (by kernel_rfl) (by kernel_rfl) (by kernel_rfl) fun a hF=>e_x (v:=(iV e_4)) 3 hF hS rfl (ex_loadE1 0 Tryz.underlying3 rfl rfl ((at5).at) rfl rfl) rfl rfl (by kernel_rfl) (by kernel_rfl) (by kernel_rfl) (by kernel_rfl) fun a hF=>e_p (v:=s2.v) 4 hF rfl (ex_move rfl) rfl rfl (by kernel_rfl) (by kernel_rfl) (by kernel_rfl) fun a hF=>e_p (v:=(iV t_3)) 5 hF rfl (ex_move rfl) rfl rfl (by kernel_rfl) (by kernel_rfl) (by kernel_rfl) fun a hF=>?_
    obtain ⟨e_6,he_6,hb2⟩:=bindS hb2
    obtain ⟨vs7,at7,d7⟩:=h2.at he_6 1 rfl
    obtain rfl : vs7 = [(iV e_6)]:=d7
    refine e_p (v:=(elP s2 (t_3.toNat * 1))) 6 hF rfl (ex_indexAddr Tryz.underlying24 sz3 rfl rfl (h2.idx he_6)) rfl rfl (by kernel_rfl) (by kernel_rfl) (by kernel_rfl) fun a hF=>e_x (v:=(iV e_6)) 7 hF hS rfl (ex_loadE1 0 Tryz.underlying3 rfl rfl ((at7).at) rfl rfl) rfl rfl (by kernel_rfl) (by kernel_rfl) (by kernel_rfl) (by kernel_rfl) fun a hF=>e_p (v:=(.bool (e_4 != e_6))) 8 hF rfl (ex_ibin rfl rfl rfl) rfl rfl (by kernel_rfl) (by kernel_rfl) (by kernel_rfl) fun a hF=>e_end (by kernel_rfl) (n_sq ?_) _
    rcases bcase (e_4 != e_6) with hc4 | hc4
    ·have hb2:=cond_f hc4 hb2
     refine q_cond_f hF rfl hc4 (q_skipc (n_ib (n_sq (q_region (q_x (v:=(iV (w64 (t_3 + 1)))) hF hS (ex_ibin rfl rfl rfl) rfl rfl fun a hF=>q_x (v:=(iV (w64 (t_3 + 1)))) hF hS (ex_move rfl) rfl rfl fun a hF=>q_end ?_)))))
     obtain rfl:=someI hb2
     exact ⟨rfl,hF.sub ⟨rfl,rfl,rfl,rfl,trivial⟩,hS⟩
    ·have hb2:=cond_t hc4 hb2
     refine q_cond_t hF rfl hc4 (q_seq (q_region (q_x (v:=(.bool false)) hF hS (ex_assign rfl) rfl rfl fun a hF=>q_end (n_sq (q_ret (r_ib (r_sq ?_)))))))
     obtain rfl:=someI hb2
     refine ⟨nofun,.inr fun ho=>?_⟩
     subst ho
     refine r_ib (r_sq ?_)
     obtain rfl:=someI hr
     exact ret_of hF hS rfl (.tmp rfl .nil) rfl
  ·rintro e a w ⟨rfl,rfl,hF,hS⟩
   refine x_ib (n_sq ?_)
   refine q_seq (q_region (q_x (v:=(.bool true)) hF hS (ex_assign rfl) rfl rfl fun a hF=>q_end (n_sq (q_ret ?_))))
   obtain rfl:=someI hr
   exact ret_of hF hS rfl (.tmp rfl .nil) rfl
 ·have hr:=cond_t hc1 hr
  refine q_cond_t hF rfl hc1 (q_seq (q_region (q_x (v:=(.bool false)) hF hS (ex_assign rfl) rfl rfl fun a hF=>q_end (n_sq (q_ret (r_sq ?_))))))
  obtain rfl:=someI hr
  exact ret_of hF hS rfl (.tmp rfl .nil) rfl

theorem c_spec_l1Cur_spoilt (p_c : spec_l1Cur) (p_t : List UInt8) (p_with : List UInt8) (r : (List UInt8) × spec_l1Cur) (hr : spec_l1Cur_spoilt p_c p_t p_with = some r) (w0 : World) (m : Mem) (b_p_c : Nat) (s1 : Sl) (h1 : Rd m s1 p_c.code) (X : List Nat) (hS : St X w0 w0 m [[⟨b_p_c,[s1.v,(iV p_c.at_),(.int .u64 p_c.seed.v)],45⟩]]) :
  RetX Tryz.prog 34 [(.pointer (some ⟨b_p_c,0,none⟩)),(strV p_t),(strV p_with)] w0 (fun v w=>v = (strV r.1)∧St X w0 w m [[⟨b_p_c,[s1.v,(iV r.2.at_),(.int .u64 r.2.seed.v)],45⟩]]∧r.2.code = p_c.code):=by
 unfold spec_l1Cur_spoilt at hr
 refine ret_startX Tryz.func34 rfl 68 rfl rfl fun a hF=>q_seq (q_region (q_x (v:=(strV ([] : List UInt8))) hF hS (ex_assign rfl) rfl rfl fun a hF=>q_end (n_sq (q_seq (q_seq (q_region (q_x (v:=(.pointer (some ⟨b_p_c,0,none⟩))) hF hS (ex_move rfl) rfl rfl fun a hF=>?_)))))))
 have hS2 : St _ _ _ _ ([[⟨b_p_c,[s1.v,(iV p_c.at_),(.int .u64 p_c.seed.v)],45⟩]]++[]):=hS
 have hE2:=hS2.enter
 obtain ⟨t_3,ht_3,hr⟩:=bindS hr
 refine q_do rfl fun _ hK=>wp_callX (vs:=[(.pointer (some ⟨b_p_c,0,none⟩)),(iV 2)]) hF Tryz.func20 (by kernel_rfl) rfl rfl rfl (c_spec_l1Cur_pick p_c 2 t_3 ht_3 _ m b_p_c s1 h1 _ hE2) fun a w _ hR hF=>hK _ _ ?_
 obtain ⟨rfl,hR2,hk4⟩:=hR
 have hS : St _ _ _ _ [[⟨b_p_c,[s1.v,(iV t_3.2.at_),(.int .u64 t_3.2.seed.v)],45⟩]]:=hS2.leaveF hR2
 have h4 : Rd m s1 t_3.2.code:=by rw [hk4]; exact h1
 refine q_x (v:=(iV (w64 (1 + t_3.1)))) hF hS (ex_ibin rfl rfl rfl) rfl rfl fun a hF=>q_x (v:=(iV (w64 (1 + t_3.1)))) hF hS (ex_assign rfl) rfl rfl fun a hF=>q_end (n_sq (q_block ?_))
 obtain ⟨o1,hl1,hr⟩:=bindS hr
 refine q_loop (fun (s : (List UInt8) × Int × spec_l1Cur) a w=>∃ t_5,∃ n_6,∃ p_c_7,s = (t_5,n_6,p_c_7)∧Fr a 68 [(0,(.pointer (some ⟨b_p_c,0,none⟩))),(1,(strV t_5)),(2,(strV p_with)),(7,(iV n_6))]∧St X w0 w m [[⟨b_p_c,[s1.v,(iV p_c_7.at_),(.int .u64 p_c_7.seed.v)],45⟩]]∧Rd m s1 p_c_7.code∧p_c_7.code = p_c.code) (fun (o : (List UInt8) × spec_l1Cur) e a w=>∃ t_34,∃ p_c_35,o = (t_34,p_c_35)∧e = .exit 0∧Fr a 68 [(1,(strV t_34))]∧St X w0 w m [[⟨b_p_c,[s1.v,(iV p_c_35.at_),(.int .u64 p_c_35.seed.v)],45⟩]]∧Rd m s1 p_c_35.code∧p_c_35.code = p_c.code) hl1 ⟨_,_,_,rfl,hF.sub ⟨rfl,rfl,rfl,rfl,trivial⟩,hS,h4,hk4⟩ ?_ ?_
 ·clear hF hS
  rintro s a w st ⟨t_5,n_6,p_c_7,rfl,hF,hS,h8,h8k⟩ hb1
  unfold spec_l1Cur_spoilt_l1 at hb1
  refine q_seq (q_seq ?_)
  obtain ⟨t_9,hj2,hb1⟩:=bindS hb1
  refine q_join (fun a w=>Fr a 68 [(0,(.pointer (some ⟨b_p_c,0,none⟩))),(1,(strV t_5)),(2,(strV p_with)),(7,(iV n_6)),(19,(.bool t_9))]∧St X w0 w m [[⟨b_p_c,[s1.v,(iV p_c_7.at_),(.int .u64 p_c_7.seed.v)],45⟩]]) ?_ ?_
  ·refine q_region (q_x (v:=(iV n_6)) hF hS (ex_move rfl) rfl rfl fun a hF=>q_x (v:=(.bool (decide (0 < n_6)))) hF hS (ex_ibin rfl rfl rfl) rfl rfl fun a hF=>q_x (v:=(.bool (decide (0 < n_6)))) hF hS (ex_move rfl) rfl rfl fun a hF=>?_)
   rcases bcase (decide (0 < n_6)) with hc3 | hc3
   ·have hj2:=cond_f hc3 hj2
    refine q_skip hF (wanted_f hF rfl rfl rfl hc3 rfl) rfl fun a hF=>q_skip hF (wanted_f hF rfl rfl rfl hc3 rfl) rfl fun a hF=>q_skip hF (wanted_f hF rfl rfl rfl hc3 rfl) rfl fun a hF=>q_x (v:=(.bool false)) hF hS (ex_pick_f rfl rfl hc3) rfl rfl fun a hF=>q_end (n_jn ?_)
    obtain rfl:=someI hj2
    exact ⟨hF.sub ⟨rfl,rfl,rfl,rfl,rfl,trivial⟩,hS⟩
   ·have hj2:=cond_t hc3 hj2
    refine q_xg (v:=(strV t_5)) hF hS (ex_move rfl) (wanted_t hF rfl rfl rfl hc3) rfl fun a hF=>q_xg (v:=(iV (goLen t_5))) hF hS (ex_strLen Tryz.underlying9 rfl) (wanted_t hF rfl rfl rfl hc3) rfl fun a hF=>q_xg (v:=(.bool (decide (0 < (goLen t_5))))) hF hS (ex_ibin rfl rfl rfl) (wanted_t hF rfl rfl rfl hc3) rfl fun a hF=>q_x (v:=(.bool (decide (0 < (goLen t_5))))) hF hS (ex_pick_t rfl rfl hc3) rfl rfl fun a hF=>q_end (n_jn ?_)
    obtain rfl:=someI hj2
    exact ⟨hF.sub ⟨rfl,rfl,rfl,rfl,rfl,trivial⟩,hS⟩
  ·rintro a w ⟨hF,hS⟩
   refine n_sq ?_
   rcases bcase (t_9) with hc4 | hc4
   ·have hb1:=cond_f hc4 hb1
    refine q_cond_f hF rfl hc4 (q_exit (x_sq ?_))
    obtain rfl:=someI hb1
    exact ⟨nofun,.inl ⟨_,_,rfl,rfl,hF.sub ⟨rfl,trivial⟩,hS,h8,h8k⟩⟩
   ·have hb1:=cond_t hc4 hb1
    refine q_cond_t hF rfl hc4 (q_skipc (n_sq (q_seq (q_block (q_seq (q_region (q_x (v:=(.pointer (some ⟨b_p_c,0,none⟩))) hF hS (ex_move rfl) rfl rfl fun a hF=>q_x (v:=(strV t_5)) hF hS (ex_move rfl) rfl rfl fun a hF=>q_x (v:=(iV (goLen t_5))) hF hS (ex_strLen Tryz.underlying9 rfl) rfl rfl fun a hF=>?_)))))))
    have hS10 : St _ _ _ _ ([[⟨b_p_c,[s1.v,(iV p_c_7.at_),(.int .u64 p_c_7.seed.v)],45⟩]]++[]):=hS
    have hE10:=hS10.enter
    obtain ⟨t_11,ht_11,hb1⟩:=bindS hb1
    refine q_do rfl fun _ hK=>wp_callX (vs:=[(.pointer (some ⟨b_p_c,0,none⟩)),(iV (goLen t_5))]) hF Tryz.func20 (by kernel_rfl) rfl rfl rfl (c_spec_l1Cur_pick p_c_7 (goLen t_5) t_11 ht_11 _ m b_p_c s1 h8 _ hE10) fun a w _ hR hF=>hK _ _ ?_
    obtain ⟨rfl,hR10,hk12⟩:=hR
    have hS : St _ _ _ _ [[⟨b_p_c,[s1.v,(iV t_11.2.at_),(.int .u64 t_11.2.seed.v)],45⟩]]:=hS10.leaveF hR10
    have h12 : Rd m s1 t_11.2.code:=by rw [hk12]; exact h8
    refine q_x (v:=(iV t_11.1)) hF hS (ex_assign rfl) rfl rfl fun a hF=>q_end (n_sq (q_seq (q_region (q_x (v:=(strV p_with)) hF hS (ex_move rfl) rfl rfl fun a hF=>q_x (v:=(.pointer (some ⟨b_p_c,0,none⟩))) hF hS (ex_move rfl) rfl rfl fun a hF=>q_x (v:=(strV p_with)) hF hS (ex_move rfl) rfl rfl fun a hF=>q_x (v:=(iV (goLen p_with))) hF hS (ex_strLen Tryz.underlying9 rfl) rfl rfl fun a hF=>?_))))
    have hS13 : St _ _ _ _ ([[⟨b_p_c,[s1.v,(iV t_11.2.at_),(.int .u64 t_11.2.seed.v)],45⟩]]++[]):=hS
    have hE13:=hS13.enter
    obtain ⟨t_14,ht_14,hb1⟩:=bindS hb1
    refine q_do rfl fun _ hK=>wp_callX (vs:=[(.pointer (some ⟨b_p_c,0,none⟩)),(iV (goLen p_with))]) hF Tryz.func20 (by kernel_rfl) rfl rfl rfl (c_spec_l1Cur_pick t_11.2 (goLen p_with) t_14 ht_14 _ m b_p_c s1 h12 _ hE13) fun a w _ hR hF=>hK _ _ ?_
    obtain ⟨rfl,hR13,hk15⟩:=hR
    have hS : St _ _ _ _ [[⟨b_p_c,[s1.v,(iV t_14.2.at_),(.int .u64 t_14.2.seed.v)],45⟩]]:=hS13.leaveF hR13
    have h15 : Rd m s1 t_14.2.code:=by rw [hk15]; exact h12
    obtain ⟨t_16,ht_16,hb1⟩:=bindS hb1
    refine q_x (v:=(.int .u8 t_16)) hF hS (ex_strIdx Tryz.underlying9 rfl rfl ht_16) rfl rfl fun a hF=>q_do rfl fun _ hK=>wp_buildSlice' (l:=([(⟨t_16⟩ : K .u8)] : List (K .u8))) (cells:=[(.int .u8 t_16)]) hF hS Tryz.underlying22 inf5 rfl rfl (by kernel_rfl) rfl rfl rfl ⟨rfl,rfl⟩ rfl rfl fun a w q17 s17 hF hS h17 _=>hK _ _ (q_x (v:=(strV (goBytes ([(⟨t_16⟩ : K .u8)] : List (K .u8))))) hF hS (ex_toStr Tryz.underlying22 Tryz.underlying5 Tryz.underlying9 rfl (fun X w0 w hS=>h17.vw hS (j:=0) rfl)) rfl rfl fun a hF=>q_x (v:=(strV (goBytes ([(⟨t_16⟩ : K .u8)] : List (K .u8))))) hF hS (ex_assign rfl) rfl rfl fun a hF=>q_end (n_sq (q_seq (q_region (q_x (v:=(.pointer (some ⟨b_p_c,0,none⟩))) hF hS (ex_move rfl) rfl rfl fun a hF=>?_)))))
    have hS : St _ _ _ _ [[⟨b_p_c,[s1.v,(iV t_14.2.at_),(.int .u64 t_14.2.seed.v)],45⟩],q17]:=hS.sel [1,0] (by decide)
    have hS18 : St _ _ _ _ ([[⟨b_p_c,[s1.v,(iV t_14.2.at_),(.int .u64 t_14.2.seed.v)],45⟩]]++[q17]):=hS
    have hE18:=hS18.enter
    obtain ⟨t_19,ht_19,hb1⟩:=bindS hb1
    refine q_do rfl fun _ hK=>wp_callX (vs:=[(.pointer (some ⟨b_p_c,0,none⟩)),(iV 3)]) hF Tryz.func20 (by kernel_rfl) rfl rfl rfl (c_spec_l1Cur_pick t_14.2 3 t_19 ht_19 _ m b_p_c s1 h15 _ hE18) fun a w _ hR hF=>hK _ _ ?_
    obtain ⟨rfl,hR18,hk20⟩:=hR
    have hS : St _ _ _ _ [[⟨b_p_c,[s1.v,(iV t_19.2.at_),(.int .u64 t_19.2.seed.v)],45⟩],q17]:=hS18.leaveF hR18
    have h20 : Rd m s1 t_19.2.code:=by rw [hk20]; exact h15
    refine q_end (n_sq (q_block (q_seq (q_region (q_x (v:=(.bool (t_19.1 == 0))) hF hS (ex_ibin rfl rfl rfl) rfl rfl fun a hF=>q_x (v:=(.bool (t_19.1 == 0))) hF hS (ex_assign rfl) rfl rfl fun a hF=>q_end (n_sq ?_))))))
    obtain ⟨t_33,hj5,hb1⟩:=bindS hb1
    refine q_join (fun a w=>Fr a 68 [(0,(.pointer (some ⟨b_p_c,0,none⟩))),(1,(strV t_33)),(2,(strV p_with)),(7,(iV n_6))]∧St X w0 w m [[⟨b_p_c,[s1.v,(iV t_19.2.at_),(.int .u64 t_19.2.seed.v)],45⟩]]) ?_ ?_
    ·rcases bcase (t_19.1 == 0) with hc6 | hc6
     ·have hj5:=cond_f hc6 hj5
      refine q_cond_f hF rfl hc6 (q_seq (q_region (q_x (v:=(.bool (t_19.1 == 1))) hF hS (ex_ibin rfl rfl rfl) rfl rfl fun a hF=>q_x (v:=(.bool (t_19.1 == 1))) hF hS (ex_assign rfl) rfl rfl fun a hF=>q_end (n_sq ?_))))
      obtain ⟨t_28,hj7,hj5⟩:=bindS hj5
      refine q_join (fun a w=>Fr a 68 [(0,(.pointer (some ⟨b_p_c,0,none⟩))),(1,(strV t_28)),(2,(strV p_with)),(7,(iV n_6))]∧St X w0 w m [[⟨b_p_c,[s1.v,(iV t_19.2.at_),(.int .u64 t_19.2.seed.v)],45⟩]]) ?_ ?_
      ·rcases bcase (t_19.1 == 1) with hc8 | hc8
       ·have hj7:=cond_f hc8 hj7
        refine q_cond_f hF rfl hc8 (e_region ⟨[],[]⟩ mixed fun w' hw'=>?_)
        have hS:=hS.below hw'
        refine e_p (v:=(strV t_5)) 0 hF rfl (ex_move rfl) rfl rfl (by kernel_rfl) (by kernel_rfl) (by kernel_rfl) fun a hF=>e_p (v:=(iV t_11.1)) 1 hF rfl (ex_move rfl) rfl rfl (by kernel_rfl) (by kernel_rfl) (by kernel_rfl) fun a hF=>?_
        obtain ⟨t_21,ht_21,hj7⟩:=bindS hj7
        refine e_p (v:=(strV t_21)) 2 hF rfl (ex_strSub Tryz.underlying9 rfl rfl rfl (.inl ⟨rfl,rfl⟩) (.inr ⟨_,rfl⟩) ht_21) rfl rfl (by kernel_rfl) (by kernel_rfl) (by kernel_rfl) fun a hF=>e_p (v:=(strV t_5)) 3 hF rfl (ex_move rfl) rfl rfl (by kernel_rfl) (by kernel_rfl) (by kernel_rfl) fun a hF=>e_p (v:=(iV t_11.1)) 4 hF rfl (ex_move rfl) rfl rfl (by kernel_rfl) (by kernel_rfl) (by kernel_rfl) fun a hF=>e_p (v:=(iV (w64 (t_11.1 + 1)))) 5 hF rfl (ex_ibin rfl rfl rfl) rfl rfl (by kernel_rfl) (by kernel_rfl) (by kernel_rfl) fun a hF=>?_
        obtain ⟨t_22,ht_22,hj7⟩:=bindS hj7
        refine e_p (v:=(strV t_22)) 6 hF rfl (ex_strSub Tryz.underlying9 rfl rfl rfl (.inr ⟨_,rfl⟩) (.inl ⟨rfl,rfl⟩) ht_22) rfl rfl (by kernel_rfl) (by kernel_rfl) (by kernel_rfl) fun a hF=>?_
        obtain ⟨t_23,ht_23,hj7⟩:=bindS hj7
        refine e_p (v:=(strV t_23)) 7 hF rfl (ex_strCat rfl rfl ht_23) rfl rfl (by kernel_rfl) (by kernel_rfl) (by kernel_rfl) fun a hF=>e_p (v:=(strV t_23)) 8 hF rfl (ex_assign rfl) rfl rfl (by kernel_rfl) (by kernel_rfl) (by kernel_rfl) fun a hF=>e_end (by kernel_rfl) (n_jn ?_) _
        obtain rfl:=someI hj7
        exact ⟨hF.sub ⟨rfl,rfl,rfl,rfl,trivial⟩,hS.mask [true,false]⟩
       ·have hj7:=cond_t hc8 hj7
        refine q_cond_t hF rfl hc8 (e_region ⟨[],[]⟩ mixed fun w' hw'=>?_)
        have hS:=hS.below hw'
        refine e_p (v:=(strV t_5)) 0 hF rfl (ex_move rfl) rfl rfl (by kernel_rfl) (by kernel_rfl) (by kernel_rfl) fun a hF=>e_p (v:=(iV t_11.1)) 1 hF rfl (ex_move rfl) rfl rfl (by kernel_rfl) (by kernel_rfl) (by kernel_rfl) fun a hF=>?_
        obtain ⟨t_24,ht_24,hj7⟩:=bindS hj7
        refine e_p (v:=(strV t_24)) 2 hF rfl (ex_strSub Tryz.underlying9 rfl rfl rfl (.inl ⟨rfl,rfl⟩) (.inr ⟨_,rfl⟩) ht_24) rfl rfl (by kernel_rfl) (by kernel_rfl) (by kernel_rfl) fun a hF=>e_p (v:=(strV (goBytes ([(⟨t_16⟩ : K .u8)] : List (K .u8))))) 3 hF rfl (ex_move rfl) rfl rfl (by kernel_rfl) (by kernel_rfl) (by kernel_rfl) fun a hF=>?_
        obtain ⟨t_25,ht_25,hj7⟩:=bindS hj7
        refine e_p (v:=(strV t_25)) 4 hF rfl (ex_strCat rfl rfl ht_25) rfl rfl (by kernel_rfl) (by kernel_rfl) (by kernel_rfl) fun a hF=>e_p (v:=(strV t_5)) 5 hF rfl (ex_move rfl) rfl rfl (by kernel_rfl) (by kernel_rfl) (by kernel_rfl) fun a hF=>e_p (v:=(iV t_11.1)) 6 hF rfl (ex_move rfl) rfl rfl (by kernel_rfl) (by kernel_rfl) (by kernel_rfl) fun a hF=>e_p (v:=(iV (w64 (t_11.1 + 1)))) 7 hF rfl (ex_ibin rfl rfl rfl) rfl rfl (by kernel_rfl) (by kernel_rfl) (by kernel_rfl) fun a hF=>?_
        obtain ⟨t_26,ht_26,hj7⟩:=bindS hj7
        refine e_p (v:=(strV t_26)) 8 hF rfl (ex_strSub Tryz.underlying9 rfl rfl rfl (.inr ⟨_,rfl⟩) (.inl ⟨rfl,rfl⟩) ht_26) rfl rfl (by kernel_rfl) (by kernel_rfl) (by kernel_rfl) fun a hF=>?_
        obtain ⟨t_27,ht_27,hj7⟩:=bindS hj7
        refine e_p (v:=(strV t_27)) 9 hF rfl (ex_strCat rfl rfl ht_27) rfl rfl (by kernel_rfl) (by kernel_rfl) (by kernel_rfl) fun a hF=>e_p (v:=(strV t_27)) 10 hF rfl (ex_assign rfl) rfl rfl (by kernel_rfl) (by kernel_rfl) (by kernel_rfl) fun a hF=>e_end (by kernel_rfl) (n_jn ?_) _
        obtain rfl:=someI hj7
        exact ⟨hF.sub ⟨rfl,rfl,rfl,rfl,trivial⟩,hS.mask [true,false]⟩
      ·rintro a w ⟨hF,hS⟩
       refine n_jn ?_
       obtain rfl:=someI hj5
       exact ⟨hF.sub ⟨rfl,rfl,rfl,rfl,trivial⟩,hS⟩
     ·have hj5:=cond_t hc6 hj5
      refine q_cond_t hF rfl hc6 (e_region ⟨[],[]⟩ mixed fun w' hw'=>?_)
      have hS:=hS.below hw'
      refine e_p (v:=(strV t_5)) 0 hF rfl (ex_move rfl) rfl rfl (by kernel_rfl) (by kernel_rfl) (by kernel_rfl) fun a hF=>e_p (v:=(iV t_11.1)) 1 hF rfl (ex_move rfl) rfl rfl (by kernel_rfl) (by kernel_rfl) (by kernel_rfl) fun a hF=>?_
      obtain ⟨t_29,ht_29,hj5⟩:=bindS hj5
      refine e_p (v:=(strV t_29)) 2 hF rfl (ex_strSub Tryz.underlying9 rfl rfl rfl (.inl ⟨rfl,rfl⟩) (.inr ⟨_,rfl⟩) ht_29) rfl rfl (by kernel_rfl) (by kernel_rfl) (by kernel_rfl) fun a hF=>e_p (v:=(strV (goBytes ([(⟨t_16⟩ : K .u8)] : List (K .u8))))) 3 hF rfl (ex_move rfl) rfl rfl (by kernel_rfl) (by kernel_rfl) (by kernel_rfl) fun a hF=>?_
      obtain ⟨t_30,ht_30,hj5⟩:=bindS hj5
      refine e_p (v:=(strV t_30)) 4 hF rfl (ex_strCat rfl rfl ht_30) rfl rfl (by kernel_rfl) (by kernel_rfl) (by kernel_rfl) fun a hF=>e_p (v:=(strV t_5)) 5 hF rfl (ex_move rfl) rfl rfl (by kernel_rfl) (by kernel_rfl) (by kernel_rfl) fun a hF=>e_p (v:=(iV t_11.1)) 6 hF rfl (ex_move rfl) rfl rfl (by kernel_rfl) (by kernel_rfl) (by kernel_rfl) fun a hF=>?_
      obtain ⟨t_31,ht_31,hj5⟩:=bindS hj5
      refine e_p (v:=(strV t_31)) 7 hF rfl (ex_strSub Tryz.underlying9 rfl rfl rfl (.inr ⟨_,rfl⟩) (.inl ⟨rfl,rfl⟩) ht_31) rfl rfl (by kernel_rfl) (by kernel_rfl) (by kernel_rfl) fun a hF=>?_
      obtain ⟨t_32,ht_32,hj5⟩:=bindS hj5
      refine e_p (v:=(strV t_32)) 8 hF rfl (ex_strCat rfl rfl ht_32) rfl rfl (by kernel_rfl) (by kernel_rfl) (by kernel_rfl) fun a hF=>e_p (v:=(strV t_32)) 9 hF rfl (ex_assign rfl) rfl rfl (by kernel_rfl) (by kernel_rfl) (by kernel_rfl) fun a hF=>e_end (by kernel_rfl) (n_jn ?_) _
      obtain rfl:=someI hj5
      exact ⟨hF.sub ⟨rfl,rfl,rfl,rfl,trivial⟩,hS.mask [true,false]⟩
    ·rintro a w ⟨hF,hS⟩
     refine n_ib (n_ib (n_sq ?_))
     refine q_region (q_x (v:=(iV n_6)) hF hS (ex_move rfl) rfl rfl fun a hF=>q_x (v:=(iV (w64 (n_6 - 1)))) hF hS (ex_ibin rfl rfl rfl) rfl rfl fun a hF=>q_x (v:=(iV (w64 (n_6 - 1)))) hF hS (ex_assign rfl) rfl rfl fun a hF=>q_end ?_)
     obtain rfl:=someI hb1
     exact ⟨rfl,_,_,_,rfl,hF.sub ⟨rfl,rfl,rfl,rfl,trivial⟩,hS,h20,(hk20.trans (hk15.trans (hk12.trans h8k)))⟩
 ·rintro e a w ⟨t_34,p_c_35,rfl,rfl,hF,hS,h36,h36k⟩
  refine x_ib (n_sq ?_)
  refine q_seq (q_region (q_x (v:=(strV t_34)) hF hS (ex_move rfl) rfl rfl fun a hF=>q_x (v:=(strV t_34)) hF hS (ex_assign rfl) rfl rfl fun a hF=>q_end (n_sq (q_ret ?_))))
  obtain rfl:=someI hr
  exact ret_ofX hF hS rfl (.tmp rfl .nil) ⟨rfl,hS.sel [0] (by decide),h36k⟩

theorem c_spec_DrawParseReport (p_code : List (K .u8)) (r : impl_Geo × (List impl_Variable) × impl_Table × (List UInt8)) (hr : spec_DrawParseReport p_code = some r) (w0 : World) (m : Mem) (hv : Vis m w0) (s1 : Sl) (h1 : Rd m s1 p_code) :
  Ret Tryz.prog 10 [s1.v] w0 (fun v w=>∃ (m' : Mem) (q0' : Piece) (q2' : Piece) (q3' : Piece) (s0' : Sl) (s1' : Sl) (s2' : Sl) (s3' : Sl),v = (.tuple #[(.agg #[s0'.v]),s1'.v,(.agg #[(iV r.2.2.1.Level),s2'.v,s3'.v,(iV r.2.2.1.Sum)]),(strV r.2.2.2)])∧MLe [] w0.heap.size m m'∧St [] w0 w m' [q0',q2',q3']∧OwnL m' 3 q0' s0' r.1.Parents∧Rd m' s1' r.2.1∧OwnL m' 3 q2' s2' r.2.2.1.Vars∧OwnL m' 3 q3' s3' r.2.2.1.Where):=by
 unfold spec_DrawParseReport at hr
 refine ret_start Tryz.func10 rfl 45 rfl rfl m hv fun a hF hS=>q_seq (q_region (q_alloc (cs:=[nilS.v]) hF hS rfl rfl rfl fun a w b2 hF hS=>q_x (v:=nilS.v) hF hS (ex_assign rfl) rfl rfl fun a hF=>q_alloc (cs:=[(iV 0),nilS.v,nilS.v,(iV 0)]) hF hS rfl rfl rfl fun a w b3 hF hS=>q_x (v:=(strV ([] : List UInt8))) hF hS (ex_assign rfl) rfl rfl fun a hF=>q_end (n_sq (q_seq (q_region (q_x (v:=s1.v) hF hS (ex_move rfl) rfl rfl fun a hF=>q_x (v:=(.agg #[s1.v,(iV 0),(.int .u64 0)])) hF hS (ex_build (cells:=[s1.v,(iV 0),(.int .u64 0)]) rfl (by kernel_rfl)) rfl rfl fun a hF=>q_box (cs:=[s1.v,(iV 0),(.int .u64 0)]) hF hS rfl rfl rfl fun a w b4 hF hS=>q_x (v:=(.pointer (some ⟨b4,0,none⟩))) hF hS (ex_assign rfl) rfl rfl fun a hF=>q_end (n_sq (q_seq (q_region (q_x (v:=s1.v) hF hS (ex_move rfl) rfl rfl fun a hF=>?_))))))))))
 obtain ⟨t_5,ht_5,hr⟩:=bindS hr
 refine q_call (vs:=[s1.v]) hF hS Tryz.func5 (by kernel_rfl) rfl rfl rfl (c_spec_DrawReportText p_code t_5 ht_5 _ m hS.vis s1 h1) ?_
 have hT:=hS
 rintro a w _ ⟨m6,q7,q9,q10,q11,s7,s8,s9,s10,s11,rfl,hm6,hR6,h7,h8,h9,h10,h11⟩ hF hS2
 have hS : St _ _ _ _ [q7,q9,q10,q11,[⟨b4,[s1.v,(iV 0),(.int .u64 0)],45⟩],[⟨b3,[(iV 0),nilS.v,nilS.v,(iV 0)],29⟩],[⟨b2,[nilS.v],26⟩]]:=hS.join hR6 hm6
 have hm6:=MLe.weakX (O0:=[]) hT hm6
 refine q_x (v:=(.tuple #[(.agg #[s7.v]),s8.v,(.agg #[(iV t_5.2.2.1.Level),s9.v,s10.v,(iV t_5.2.2.1.Sum)]),s11.v])) hF hS (ex_move rfl) rfl rfl fun a hF=>q_x (v:=(.agg #[s7.v])) hF hS (ex_extract rfl rfl) rfl rfl fun a hF=>q_x (v:=s8.v) hF hS (ex_extract rfl rfl) rfl rfl fun a hF=>q_x (v:=(.agg #[(iV t_5.2.2.1.Level),s9.v,s10.v,(iV t_5.2.2.1.Sum)])) hF hS (ex_extract rfl rfl) rfl rfl fun a hF=>q_x (v:=s11.v) hF hS (ex_extract rfl rfl) rfl rfl fun a hF=>q_alloc (cs:=[nilS.v]) hF hS rfl rfl rfl fun a w b12 hF hS=>q_alloc (cs:=[(iV 0),nilS.v,nilS.v,(iV 0)]) hF hS rfl rfl rfl fun a w b13 hF hS=>q_store (vs:=[s7.v]) (cs':=[s7.v]) 1 0 hF hS sz26 rfl rfl rfl rfl rfl rfl rfl rfl fun a w hF hS=>q_x (v:=s8.v) hF hS (ex_assign rfl) rfl rfl fun a hF=>q_store (vs:=[(iV t_5.2.2.1.Level),s9.v,s10.v,(iV t_5.2.2.1.Sum)]) (cs':=[(iV t_5.2.2.1.Level),s9.v,s10.v,(iV t_5.2.2.1.Sum)]) 0 0 hF hS sz29 rfl rfl rfl rfl rfl rfl rfl rfl fun a w hF hS=>q_x (v:=s11.v) hF hS (ex_assign rfl) rfl rfl fun a hF=>q_end (n_sq (q_seq (q_region (q_x (v:=(.agg #[s7.v])) hF hS (ex_loadA (vs:=[s7.v]) 1 0 Tryz.underlying26 rfl sz26 rfl rfl rfl rfl) rfl rfl fun a hF=>q_x (v:=s8.v) hF hS (ex_move rfl) rfl rfl fun a hF=>q_x (v:=(.agg #[(iV t_5.2.2.1.Level),s9.v,s10.v,(iV t_5.2.2.1.Sum)])) hF hS (ex_loadA (vs:=[(iV t_5.2.2.1.Level),s9.v,s10.v,(iV t_5.2.2.1.Sum)]) 0 0 Tryz.underlying29 rfl sz29 rfl rfl rfl rfl) rfl rfl fun a hF=>q_x (v:=s11.v) hF hS (ex_move rfl) rfl rfl fun a hF=>?_))))
 obtain ⟨m15,hl15,hv15,hz15⟩:=hS.lend
 obtain ⟨t_14,ht_14,hr⟩:=bindS hr
 refine q_call (vs:=[(.agg #[s7.v]),s8.v,(.agg #[(iV t_5.2.2.1.Level),s9.v,s10.v,(iV t_5.2.2.1.Sum)]),s11.v]) hF hS Tryz.func7 (by kernel_rfl) rfl rfl rfl (c_spec_ReportText t_5.1 t_5.2.1 t_5.2.2.1 t_5.2.2.2 t_14 ht_14 _ m15 hv15 s7 (h7.froz hl15 (hz15 2 _ rfl)) s8 (h8.mono hl15) s9 (h9.froz hl15 (hz15 3 _ rfl)) s10 (h10.froz hl15 (hz15 4 _ rfl)) s11 (h11.froz hl15 (hz15 5 _ rfl))) ?_
 rintro a w _ rfl hF hS
 refine q_x (v:=(.tuple #[(strV t_14.1),(.bool t_14.2)])) hF hS (ex_move rfl) rfl rfl fun a hF=>q_x (v:=(strV t_14.1)) hF hS (ex_extract rfl rfl) rfl rfl fun a hF=>q_x (v:=(.bool t_14.2)) hF hS (ex_extract rfl rfl) rfl rfl fun a hF=>q_x (v:=(strV t_14.1)) hF hS (ex_assign rfl) rfl rfl fun a hF=>q_x (v:=(.bool t_14.2)) hF hS (ex_assign rfl) rfl rfl fun a hF=>q_end (n_sq (q_seq (q_seq (q_region (q_x (v:=(.bool t_14.2)) hF hS (ex_move rfl) rfl rfl fun a hF=>q_x (v:=(.bool (!t_14.2))) hF hS (ex_not rfl) rfl rfl fun a hF=>q_end (n_sq ?_))))))
 rcases bcase (!t_14.2) with hc1 | hc1
 ·have hr:=cond_f hc1 hr
  refine q_cond_f hF rfl hc1 (q_skipc (n_sq (q_seq (q_seq (q_region (q_x (v:=(.pointer (some ⟨b4,0,none⟩))) hF hS (ex_move rfl) rfl rfl fun a hF=>?_))))))
  have hS : St _ _ _ _ [[⟨b4,[s1.v,(iV 0),(.int .u64 0)],45⟩],[⟨b13,[(iV t_5.2.2.1.Level),s9.v,s10.v,(iV t_5.2.2.1.Sum)],29⟩],[⟨b12,[s7.v],26⟩],q7,q9,q10,q11,[⟨b3,[(iV 0),nilS.v,nilS.v,(iV 0)],29⟩],[⟨b2,[nilS.v],26⟩]]:=hS.sel [6,0,1,2,3,4,5,7,8] (by decide)
  have hS16 : St _ _ _ _ ([[⟨b4,[s1.v,(iV 0),(.int .u64 0)],45⟩]]++[[⟨b13,[(iV t_5.2.2.1.Level),s9.v,s10.v,(iV t_5.2.2.1.Sum)],29⟩],[⟨b12,[s7.v],26⟩],q7,q9,q10,q11,[⟨b3,[(iV 0),nilS.v,nilS.v,(iV 0)],29⟩],[⟨b2,[nilS.v],26⟩]]):=hS
  have hE16:=hS16.enter
  obtain ⟨t_17,ht_17,hr⟩:=bindS hr
  refine q_do rfl fun _ hK=>wp_callX (vs:=[(.pointer (some ⟨b4,0,none⟩)),(iV 3)]) hF Tryz.func33 (by kernel_rfl) rfl rfl rfl (c_spec_l1Cur_one (spec_l1Cur.mk p_code 0 (⟨0⟩ : K .u64)) 3 t_17 ht_17 _ m6 b4 s1 (h1.mono hm6.le) _ hE16) fun a w _ hR hF=>hK _ _ ?_
  obtain ⟨rfl,hR16,hk18⟩:=hR
  have hS : St _ _ _ _ [[⟨b4,[s1.v,(iV t_17.2.at_),(.int .u64 t_17.2.seed.v)],45⟩],[⟨b13,[(iV t_5.2.2.1.Level),s9.v,s10.v,(iV t_5.2.2.1.Sum)],29⟩],[⟨b12,[s7.v],26⟩],q7,q9,q10,q11,[⟨b3,[(iV 0),nilS.v,nilS.v,(iV 0)],29⟩],[⟨b2,[nilS.v],26⟩]]:=hS16.leaveF hR16
  have h18 : Rd m6 s1 t_17.2.code:=by rw [hk18]; exact (h1.mono hm6.le)
  refine q_end (n_sq ?_)
  obtain ⟨x_22,hj2,hr⟩:=bindS hr
  refine q_join (fun a w=>Fr a 45 [(2,(.pointer (some ⟨b2,0,none⟩))),(4,(.pointer (some ⟨b3,0,none⟩))),(7,(.pointer (some ⟨b12,0,none⟩))),(8,s8.v),(9,(.pointer (some ⟨b13,0,none⟩))),(11,(strV x_22))]∧St [] w0 w m6 [q9,q10,q7,[⟨b13,[(iV t_5.2.2.1.Level),s9.v,s10.v,(iV t_5.2.2.1.Sum)],29⟩],[⟨b12,[s7.v],26⟩],[⟨b3,[(iV 0),nilS.v,nilS.v,(iV 0)],29⟩],[⟨b2,[nilS.v],26⟩]]) ?_ ?_
  ·rcases bcase (t_17.1) with hc3 | hc3
   ·have hj2:=cond_f hc3 hj2
    refine q_cond_f hF rfl hc3 (q_skipc (n_jn ?_))
    obtain rfl:=someI hj2
    exact ⟨hF.sub ⟨rfl,rfl,rfl,rfl,rfl,rfl,trivial⟩,hS.sel [4,5,3,1,2,7,8] (by decide)⟩
   ·have hj2:=cond_t hc3 hj2
    refine q_cond_t hF rfl hc3 (q_region (q_x (v:=(.pointer (some ⟨b4,0,none⟩))) hF hS (ex_move rfl) rfl rfl fun a hF=>q_x (v:=(strV t_14.1)) hF hS (ex_move rfl) rfl rfl fun a hF=>?_))
    have hS19 : St _ _ _ _ ([[⟨b4,[s1.v,(iV t_17.2.at_),(.int .u64 t_17.2.seed.v)],45⟩]]++[[⟨b13,[(iV t_5.2.2.1.Level),s9.v,s10.v,(iV t_5.2.2.1.Sum)],29⟩],[⟨b12,[s7.v],26⟩],q7,q9,q10,q11,[⟨b3,[(iV 0),nilS.v,nilS.v,(iV 0)],29⟩],[⟨b2,[nilS.v],26⟩]]):=hS
    have hE19:=hS19.enter
    obtain ⟨t_20,ht_20,hj2⟩:=bindS hj2
    refine q_do rfl fun _ hK=>wp_callX (vs:=[(.pointer (some ⟨b4,0,none⟩)),(strV t_14.1),(strV ([97,114,101,97,32,48,49,50,51,58,45,10] : List UInt8))]) hF Tryz.func34 (by kernel_rfl) rfl rfl rfl (c_spec_l1Cur_spoilt t_17.2 t_14.1 ([97,114,101,97,32,48,49,50,51,58,45,10] : List UInt8) t_20 ht_20 _ m6 b4 s1 h18 _ hE19) fun a w _ hR hF=>hK _ _ ?_
    obtain ⟨rfl,hR19,hk21⟩:=hR
    have hS : St _ _ _ _ [[⟨b4,[s1.v,(iV t_20.2.at_),(.int .u64 t_20.2.seed.v)],45⟩],[⟨b13,[(iV t_5.2.2.1.Level),s9.v,s10.v,(iV t_5.2.2.1.Sum)],29⟩],[⟨b12,[s7.v],26⟩],q7,q9,q10,q11,[⟨b3,[(iV 0),nilS.v,nilS.v,(iV 0)],29⟩],[⟨b2,[nilS.v],26⟩]]:=hS19.leaveF hR19
    have h21 : Rd m6 s1 t_20.2.code:=by rw [hk21]; exact h18
    refine q_x (v:=(strV t_20.1)) hF hS (ex_assign rfl) rfl rfl fun a hF=>q_end (n_jn ?_)
    obtain rfl:=someI hj2
    exact ⟨hF.sub ⟨rfl,rfl,rfl,rfl,rfl,rfl,trivial⟩,hS.sel [4,5,3,1,2,7,8] (by decide)⟩
  ·rintro a w ⟨hF,hS⟩
   refine n_sq ?_
   refine q_seq (e_region ⟨[4,6],[b12,b13]⟩ mixed fun w' hw'=>?_)
   have hS:=hS.below hw'
   refine e_xb (v:=(.agg #[s7.v])) 0 4 hF hS (.head _) rfl rfl (ex_loadA (vs:=[s7.v]) 0 0 Tryz.underlying26 rfl sz26 rfl rfl rfl rfl) rfl rfl (by kernel_rfl) (by kernel_rfl) (by kernel_rfl) fun a hF=>e_p (v:=s8.v) 1 hF rfl (ex_move rfl) rfl rfl (by kernel_rfl) (by kernel_rfl) (by kernel_rfl) fun a hF=>e_xb (v:=(.agg #[(iV t_5.2.2.1.Level),s9.v,s10.v,(iV t_5.2.2.1.Sum)])) 2 3 hF hS (.tail _ (.head _)) rfl rfl (ex_loadA (vs:=[(iV t_5.2.2.1.Level),s9.v,s10.v,(iV t_5.2.2.1.Sum)]) 0 0 Tryz.underlying29 rfl sz29 rfl rfl rfl rfl) rfl rfl (by kernel_rfl) (by kernel_rfl) (by kernel_rfl) fun a hF=>e_p (v:=(strV x_22)) 3 hF rfl (ex_move rfl) rfl rfl (by kernel_rfl) (by kernel_rfl) (by kernel_rfl) fun a hF=>e_one 4 (by kernel_rfl) ?_
   have hSo:=hS
   refine e_store (vs:=[s7.v]) (cs':=[s7.v]) 6 0 hF hS rfl rfl sz26 rfl rfl rfl rfl rfl rfl rfl rfl fun a w hF hS=>⟨kpC hSo hS 4 4 rfl rfl (kpC hSo hS 3 3 rfl rfl kpN),?_⟩
   refine e_p (v:=s8.v) 5 hF rfl (ex_assign rfl) rfl rfl (by kernel_rfl) (by kernel_rfl) (by kernel_rfl) fun a hF=>e_one 6 (by kernel_rfl) ?_
   have hSo:=hS
   refine e_store (vs:=[(iV t_5.2.2.1.Level),s9.v,s10.v,(iV t_5.2.2.1.Sum)]) (cs':=[(iV t_5.2.2.1.Level),s9.v,s10.v,(iV t_5.2.2.1.Sum)]) 5 0 hF hS rfl rfl sz29 rfl rfl rfl rfl rfl rfl rfl rfl fun a w hF hS=>⟨kpC hSo hS 4 4 rfl rfl (kpC hSo hS 3 3 rfl rfl kpN),?_⟩
   refine e_p (v:=(strV x_22)) 7 hF rfl (ex_assign rfl) rfl rfl (by kernel_rfl) (by kernel_rfl) (by kernel_rfl) fun a hF=>e_end (by kernel_rfl) (n_sq (q_ret ?_)) _
   obtain rfl:=someI hr
   exact ret_of hF hS rfl (.cellA (us:=[s7.v]) 6 0 Tryz.underlying26 rfl sz26 rfl rfl rfl rfl (.tmp rfl (.cellA (us:=[(iV t_5.2.2.1.Level),s9.v,s10.v,(iV t_5.2.2.1.Sum)]) 5 0 Tryz.underlying29 rfl sz29 rfl rfl rfl rfl (.tmp rfl .nil)))) ⟨m6,q7,q9,q10,s7,s8,s9,s10,rfl,hm6,hS.sel [2,0,1] (by decide),h7,h8,h9,h10⟩
 ·have hr:=cond_t hc1 hr
  refine q_cond_t hF rfl hc1 (q_seq (e_region ⟨[3,5],[b12,b13]⟩ mixed fun w' hw'=>?_))
  have hS:=hS.below hw'
  refine e_xb (v:=(.agg #[s7.v])) 0 1 hF hS (.head _) rfl rfl (ex_loadA (vs:=[s7.v]) 0 0 Tryz.underlying26 rfl sz26 rfl rfl rfl rfl) rfl rfl (by kernel_rfl) (by kernel_rfl) (by kernel_rfl) fun a hF=>e_p (v:=s8.v) 1 hF rfl (ex_move rfl) rfl rfl (by kernel_rfl) (by kernel_rfl) (by kernel_rfl) fun a hF=>e_xb (v:=(.agg #[(iV t_5.2.2.1.Level),s9.v,s10.v,(iV t_5.2.2.1.Sum)])) 2 0 hF hS (.tail _ (.head _)) rfl rfl (ex_loadA (vs:=[(iV t_5.2.2.1.Level),s9.v,s10.v,(iV t_5.2.2.1.Sum)]) 0 0 Tryz.underlying29 rfl sz29 rfl rfl rfl rfl) rfl rfl (by kernel_rfl) (by kernel_rfl) (by kernel_rfl) fun a hF=>e_one 3 (by kernel_rfl) ?_
  have hSo:=hS
  refine e_store (vs:=[s7.v]) (cs':=[s7.v]) 8 0 hF hS rfl rfl sz26 rfl rfl rfl rfl rfl rfl rfl rfl fun a w hF hS=>⟨kpC hSo hS 1 1 rfl rfl (kpC hSo hS 0 0 rfl rfl kpN),?_⟩
  refine e_p (v:=s8.v) 4 hF rfl (ex_assign rfl) rfl rfl (by kernel_rfl) (by kernel_rfl) (by kernel_rfl) fun a hF=>e_one 5 (by kernel_rfl) ?_
  have hSo:=hS
  refine e_store (vs:=[(iV t_5.2.2.1.Level),s9.v,s10.v,(iV t_5.2.2.1.Sum)]) (cs':=[(iV t_5.2.2.1.Level),s9.v,s10.v,(iV t_5.2.2.1.Sum)]) 7 0 hF hS rfl rfl sz29 rfl rfl rfl rfl rfl rfl rfl rfl fun a w hF hS=>⟨kpC hSo hS 1 1 rfl rfl (kpC hSo hS 0 0 rfl rfl kpN),?_⟩
  refine e_p (v:=(strV ([97,114,101,97,32,48,58,32,49,10] : List UInt8))) 6 hF rfl (ex_assign rfl) rfl rfl (by kernel_rfl) (by kernel_rfl) (by kernel_rfl) fun a hF=>e_end (by kernel_rfl) (n_sq (q_ret (r_sq ?_))) _
  obtain rfl:=someI hr
  exact ret_of hF hS rfl (.cellA (us:=[s7.v]) 8 0 Tryz.underlying26 rfl sz26 rfl rfl rfl rfl (.tmp rfl (.cellA (us:=[(iV t_5.2.2.1.Level),s9.v,s10.v,(iV t_5.2.2.1.Sum)]) 7 0 Tryz.underlying29 rfl sz29 rfl rfl rfl rfl (.tmp rfl .nil)))) ⟨m6,q7,q9,q10,s7,s8,s9,s10,rfl,hm6,hS.sel [2,3,4] (by decide),h7,h8,h9,h10⟩

theorem c_spec_l1Split (p_s : List UInt8) (p_b : K .u8) (r : (List (List UInt8))) (hr : spec_l1Split p_s p_b = some r) (w0 : World) (m : Mem) (hv : Vis m w0) :
  Ret Tryz.prog 35 [(strV p_s),(.int .u8 p_b.v)] w0 (fun v w=>∃ (q0' : Piece) (s0' : Sl),v = s0'.v∧St [] w0 w m [q0']∧OwnL m 9 q0' s0' r):=by
 unfold spec_l1Split at hr
 refine ret_start Tryz.func35 rfl 34 rfl rfl m hv fun a hF hS=>q_seq (q_region (q_x (v:=nilS.v) hF hS (ex_assign rfl) rfl rfl fun a hF=>q_end (n_sq (q_seq (q_region (q_x (v:=nilS.v) hF hS (ex_assign rfl) rfl rfl fun a hF=>q_end (n_sq (q_seq (q_region (q_x (v:=(iV 0)) hF hS (ex_assign rfl) rfl rfl fun a hF=>q_end (n_sq (q_seq (q_seq (q_region (q_x (v:=(iV 0)) hF hS (ex_assign rfl) rfl rfl fun a hF=>q_end (n_sq (q_block ?_)))))))))))))))))
 obtain ⟨o1,hl1,hr⟩:=bindS hr
 refine q_loop (fun (s : (List (List UInt8)) × Int × Int) a w=>∃ (q2 : Piece),∃ (s2 : Sl),∃ out_1,∃ from_3,∃ i_4,s = (out_1,from_3,i_4)∧Fr a 34 [(0,(strV p_s)),(1,(.int .u8 p_b.v)),(5,s2.v),(6,(iV from_3)),(7,(iV i_4))]∧St [] w0 w m [q2]∧OwnL m 9 q2 s2 out_1) (fun (o : (List (List UInt8)) × Int) e a w=>∃ (q14 : Piece),∃ (s14 : Sl),∃ out_13,∃ from_15,o = (out_13,from_15)∧e = .exit 0∧Fr a 34 [(0,(strV p_s)),(5,s14.v),(6,(iV from_15))]∧St [] w0 w m [q14]∧OwnL m 9 q14 s14 out_13) hl1 ⟨[],nilS,_,_,_,rfl,hF.sub ⟨rfl,rfl,rfl,rfl,rfl,trivial⟩,hS.sel [0] (by decide),(OwnL.nil (α:=List UInt8) m 9)⟩ ?_ ?_
 ·clear hF hS
  rintro s a w st ⟨q2,s2,out_1,from_3,i_4,rfl,hF,hS,h2⟩ hb1
  unfold spec_l1Split_l1 at hb1
  refine q_seq (q_seq (q_region (q_x (v:=(iV i_4)) hF hS (ex_move rfl) rfl rfl fun a hF=>q_x (v:=(strV p_s)) hF hS (ex_move rfl) rfl rfl fun a hF=>q_x (v:=(iV (goLen p_s))) hF hS (ex_strLen Tryz.underlying9 rfl) rfl rfl fun a hF=>q_x (v:=(.bool (decide (i_4 < (goLen p_s))))) hF hS (ex_ibin rfl rfl rfl) rfl rfl fun a hF=>q_end (n_sq ?_))))
  rcases bcase (decide (i_4 < (goLen p_s))) with hc2 | hc2
  ·have hb1:=cond_f hc2 hb1
   refine q_cond_f hF rfl hc2 (q_exit (x_sq ?_))
   obtain rfl:=someI hb1
   exact ⟨nofun,.inl ⟨q2,s2,_,_,rfl,rfl,hF.sub ⟨rfl,rfl,rfl,trivial⟩,hS,h2⟩⟩
  ·have hb1:=cond_t hc2 hb1
   refine q_cond_t hF rfl hc2 (q_skipc (n_sq (q_seq (q_block (q_seq (q_region (q_x (v:=(strV p_s)) hF hS (ex_move rfl) rfl rfl fun a hF=>q_x (v:=(iV i_4)) hF hS (ex_move rfl) rfl rfl fun a hF=>?_)))))))
   obtain ⟨t_5,ht_5,hb1⟩:=bindS hb1
   refine q_x (v:=(.int .u8 t_5)) hF hS (ex_strIdx Tryz.underlying9 rfl rfl ht_5) rfl rfl fun a hF=>q_x (v:=(.int .u8 p_b.v)) hF hS (ex_move rfl) rfl rfl fun a hF=>q_x (v:=(.bool (t_5 == p_b.v))) hF hS (ex_ibin rfl rfl rfl) rfl rfl fun a hF=>q_end (n_sq ?_)
   obtain ⟨j3,hj3,hb1⟩:=bindS hb1
   refine q_join (fun a w=>∃ (q11 : Piece),∃ (s11 : Sl),∃ out_10,∃ from_12,j3 = (out_10,from_12)∧Fr a 34 [(0,(strV p_s)),(1,(.int .u8 p_b.v)),(5,s11.v),(6,(iV from_12)),(7,(iV i_4))]∧St [] w0 w m [q11]∧OwnL m 9 q11 s11 out_10) ?_ ?_
   ·rcases bcase (t_5 == p_b.v) with hc4 | hc4
    ·have hj3:=cond_f hc4 hj3
     refine q_cond_f hF rfl hc4 (q_skipc (n_jn ?_))
     obtain rfl:=someI hj3
     exact ⟨q2,s2,_,_,rfl,hF.sub ⟨rfl,rfl,rfl,rfl,rfl,trivial⟩,hS,h2⟩
    ·have hj3:=cond_t hc4 hj3
     refine q_cond_t hF rfl hc4 (q_seq (q_region (q_x (v:=s2.v) hF hS (ex_move rfl) rfl rfl fun a hF=>q_x (v:=(strV p_s)) hF hS (ex_move rfl) rfl rfl fun a hF=>q_x (v:=(iV from_3)) hF hS (ex_move rfl) rfl rfl fun a hF=>q_x (v:=(iV i_4)) hF hS (ex_move rfl) rfl rfl fun a hF=>?_)))
     obtain ⟨t_6,ht_6,hj3⟩:=bindS hj3
     refine q_x (v:=(strV t_6)) hF hS (ex_strSub Tryz.underlying9 rfl rfl rfl (.inr ⟨_,rfl⟩) (.inr ⟨_,rfl⟩) ht_6) rfl rfl fun a hF=>q_do rfl fun _ hK=>wp_buildSlice' (l:=([t_6] : List (List UInt8))) (cells:=[(strV t_6)]) hF hS Tryz.underlying74 inf9 rfl rfl (by kernel_rfl) rfl rfl rfl ⟨rfl,rfl⟩ rfl rfl fun a w q7 s7 hF hS h7 _=>hK _ _ ?_
     have hS : St _ _ _ _ [q2,q7]:=hS.sel [1,0] (by decide)
     obtain ⟨l_8,hl_8,hj3⟩:=bindS hj3
     refine q_do rfl fun _ hK=>wp_append hF hS h2 Tryz.underlying74 inf9 rfl rfl rfl rfl (h7.vw hS (j:=1) rfl) rfl (by decide) hl_8 rfl fun a w q9 s9 hF hS h9=>hK _ _ (q_x (v:=s9.v) hF hS (ex_assign rfl) rfl rfl fun a hF=>q_end (n_sq (q_region (q_x (v:=(iV i_4)) hF hS (ex_move rfl) rfl rfl fun a hF=>q_x (v:=(iV (w64 (i_4 + 1)))) hF hS (ex_ibin rfl rfl rfl) rfl rfl fun a hF=>q_x (v:=(iV (w64 (i_4 + 1)))) hF hS (ex_assign rfl) rfl rfl fun a hF=>q_end (n_jn ?_)))))
     obtain rfl:=someI hj3
     exact ⟨q9,s9,_,_,rfl,hF.sub ⟨rfl,rfl,rfl,rfl,rfl,trivial⟩,hS.mask [true,false],h9⟩
   ·rintro a w ⟨q11,s11,out_10,from_12,rfl,hF,hS,h11⟩
    refine n_ib (n_sq ?_)
    refine q_region (q_x (v:=(iV i_4)) hF hS (ex_move rfl) rfl rfl fun a hF=>q_x (v:=(iV (w64 (i_4 + 1)))) hF hS (ex_ibin rfl rfl rfl) rfl rfl fun a hF=>q_x (v:=(iV (w64 (i_4 + 1)))) hF hS (ex_assign rfl) rfl rfl fun a hF=>q_end ?_)
    obtain rfl:=someI hb1
    exact ⟨rfl,q11,s11,_,_,_,rfl,hF.sub ⟨rfl,rfl,rfl,rfl,rfl,trivial⟩,hS,h11⟩
 ·rintro e a w ⟨q14,s14,out_13,from_15,rfl,rfl,hF,hS,h14⟩
  refine x_ib (n_sq ?_)
  refine q_seq (q_region (q_x (v:=s14.v) hF hS (ex_move rfl) rfl rfl fun a hF=>q_x (v:=(strV p_s)) hF hS (ex_move rfl) rfl rfl fun a hF=>q_x (v:=(iV from_15)) hF hS (ex_move rfl) rfl rfl fun a hF=>?_))
  obtain ⟨t_16,ht_16,hr⟩:=bindS hr
  refine q_x (v:=(strV t_16)) hF hS (ex_strSub Tryz.underlying9 rfl rfl rfl (.inr ⟨_,rfl⟩) (.inl ⟨rfl,rfl⟩) ht_16) rfl rfl fun a hF=>q_do rfl fun _ hK=>wp_buildSlice' (l:=([t_16] : List (List UInt8))) (cells:=[(strV t_16)]) hF hS Tryz.underlying74 inf9 rfl rfl (by kernel_rfl) rfl rfl rfl ⟨rfl,rfl⟩ rfl rfl fun a w q17 s17 hF hS h17 _=>hK _ _ ?_
  have hS : St _ _ _ _ [q14,q17]:=hS.sel [1,0] (by decide)
  obtain ⟨l_18,hl_18,hr⟩:=bindS hr
  refine q_do rfl fun _ hK=>wp_append hF hS h14 Tryz.underlying74 inf9 rfl rfl rfl rfl (h17.vw hS (j:=1) rfl) rfl (by decide) hl_18 rfl fun a w q19 s19 hF hS h19=>hK _ _ (q_x (v:=s19.v) hF hS (ex_assign rfl) rfl rfl fun a hF=>q_end (n_sq (q_ret ?_)))
  obtain rfl:=someI hr
  exact ret_of hF hS rfl (.tmp rfl .nil) ⟨q19,s19,rfl,hS.sel [0] (by decide),h19⟩

theorem c_spec_nDigits (p_x : List UInt8) (r : Int) (hr : spec_nDigits p_x = some r) (w0 : World) (m : Mem) (hv : Vis m w0) :
  Ret Tryz.prog 36 [(strV p_x)] w0 (fun v _=>v = (iV r)):=by
 unfold spec_nDigits at hr
 refine ret_start Tryz.func36 rfl 31 rfl rfl m hv fun a hF hS=>q_seq (q_region (q_x (v:=(iV 0)) hF hS (ex_assign rfl) rfl rfl fun a hF=>q_end (n_sq (q_seq (q_region (q_x (v:=(iV 1)) hF hS (ex_assign rfl) rfl rfl fun a hF=>q_x (v:=(iV 0)) hF hS (ex_assign rfl) rfl rfl fun a hF=>q_end (n_sq (q_seq (q_seq (q_region (q_x (v:=(iV 0)) hF hS (ex_assign rfl) rfl rfl fun a hF=>q_end (n_sq (q_block ?_)))))))))))))
 obtain ⟨o1,hl1,hr⟩:=bindS hr
 refine q_loop (fun (s : Int × Int × Int) a w=>∃ sign_1,∃ n_2,∃ i_3,s = (sign_1,n_2,i_3)∧Fr a 31 [(0,(strV p_x)),(3,(iV sign_1)),(4,(iV n_2)),(5,(iV i_3))]∧St [] w0 w m []) (fun (o : Int × Int) e a w=>∃ sign_9,∃ n_10,o = (sign_9,n_10)∧e = .exit 0∧Fr a 31 [(3,(iV sign_9)),(4,(iV n_10))]∧St [] w0 w m []) hl1 ⟨_,_,_,rfl,hF.sub ⟨rfl,rfl,rfl,rfl,trivial⟩,hS⟩ ?_ ?_
 ·clear hF hS
  rintro s a w st ⟨sign_1,n_2,i_3,rfl,hF,hS⟩ hb1
  unfold spec_nDigits_l1 at hb1
  refine q_seq (q_seq ?_)
  obtain ⟨t_4,hj2,hb1⟩:=bindS hb1
  refine q_join (fun a w=>Fr a 31 [(0,(strV p_x)),(3,(iV sign_1)),(4,(iV n_2)),(5,(iV i_3)),(13,(.bool t_4))]∧St [] w0 w m []) ?_ ?_
  ·refine q_region (q_x (v:=(iV i_3)) hF hS (ex_move rfl) rfl rfl fun a hF=>q_x (v:=(strV p_x)) hF hS (ex_move rfl) rfl rfl fun a hF=>q_x (v:=(iV (goLen p_x))) hF hS (ex_strLen Tryz.underlying9 rfl) rfl rfl fun a hF=>q_x (v:=(.bool (decide (i_3 < (goLen p_x))))) hF hS (ex_ibin rfl rfl rfl) rfl rfl fun a hF=>q_x (v:=(.bool (decide (i_3 < (goLen p_x))))) hF hS (ex_move rfl) rfl rfl fun a hF=>?_)
   rcases bcase (decide (i_3 < (goLen p_x))) with hc3 | hc3
   ·have hj2:=cond_f hc3 hj2
    refine q_skip hF (wanted_f hF rfl rfl rfl hc3 rfl) rfl fun a hF=>q_skip hF (wanted_f hF rfl rfl rfl hc3 rfl) rfl fun a hF=>q_x (v:=(.bool false)) hF hS (ex_pick_f rfl rfl hc3) rfl rfl fun a hF=>q_end (n_jn ?_)
    obtain rfl:=someI hj2
    exact ⟨hF.sub ⟨rfl,rfl,rfl,rfl,rfl,trivial⟩,hS⟩
   ·have hj2:=cond_t hc3 hj2
    refine q_xg (v:=(iV i_3)) hF hS (ex_move rfl) (wanted_t hF rfl rfl rfl hc3) rfl fun a hF=>q_xg (v:=(.bool (decide (i_3 < 9)))) hF hS (ex_ibin rfl rfl rfl) (wanted_t hF rfl rfl rfl hc3) rfl fun a hF=>q_x (v:=(.bool (decide (i_3 < 9)))) hF hS (ex_pick_t rfl rfl hc3) rfl rfl fun a hF=>q_end (n_jn ?_)
    obtain rfl:=someI hj2
    exact ⟨hF.sub ⟨rfl,rfl,rfl,rfl,rfl,trivial⟩,hS⟩
  ·rintro a w ⟨hF,hS⟩
   refine n_sq ?_
   rcases bcase (t_4) with hc4 | hc4
   ·have hb1:=cond_f hc4 hb1
    refine q_cond_f hF rfl hc4 (q_exit (x_sq ?_))
    obtain rfl:=someI hb1
    exact ⟨nofun,.inl ⟨_,_,rfl,rfl,hF.sub ⟨rfl,rfl,trivial⟩,hS⟩⟩
   ·have hb1:=cond_t hc4 hb1
    refine q_cond_t hF rfl hc4 (q_skipc (n_sq (q_seq (q_block (q_seq (q_region (q_x (v:=(strV p_x)) hF hS (ex_move rfl) rfl rfl fun a hF=>q_x (v:=(iV i_3)) hF hS (ex_move rfl) rfl rfl fun a hF=>?_)))))))
    obtain ⟨t_5,ht_5,hb1⟩:=bindS hb1
    refine q_x (v:=(.int .u8 t_5)) hF hS (ex_strIdx Tryz.underlying9 rfl rfl ht_5) rfl rfl fun a hF=>q_x (v:=(.bool (t_5 == 45))) hF hS (ex_ibin rfl rfl rfl) rfl rfl fun a hF=>q_end (n_sq ?_)
    obtain ⟨j5,hj5,hb1⟩:=bindS hb1
    refine q_join (fun a w=>∃ sign_7,∃ n_8,j5 = (sign_7,n_8)∧Fr a 31 [(0,(strV p_x)),(3,(iV sign_7)),(4,(iV n_8)),(5,(iV i_3))]∧St [] w0 w m []) ?_ ?_
    ·rcases bcase (t_5 == 45) with hc6 | hc6
     ·have hj5:=cond_f hc6 hj5
      refine q_cond_f hF rfl hc6 (q_region (q_x (v:=(iV n_2)) hF hS (ex_move rfl) rfl rfl fun a hF=>q_x (v:=(iV (w64 (10 * n_2)))) hF hS (ex_ibin rfl rfl rfl) rfl rfl fun a hF=>q_x (v:=(strV p_x)) hF hS (ex_move rfl) rfl rfl fun a hF=>q_x (v:=(iV i_3)) hF hS (ex_move rfl) rfl rfl fun a hF=>?_))
      obtain ⟨t_6,ht_6,hj5⟩:=bindS hj5
      refine q_x (v:=(.int .u8 t_6)) hF hS (ex_strIdx Tryz.underlying9 rfl rfl ht_6) rfl rfl fun a hF=>q_x (v:=(iV (w64 t_6))) hF hS (ex_conv Tryz.underlying5 Tryz.underlying3 rfl) rfl rfl fun a hF=>q_x (v:=(iV (w64 ((w64 (10 * n_2)) + (w64 t_6))))) hF hS (ex_ibin rfl rfl rfl) rfl rfl fun a hF=>q_x (v:=(iV (w64 ((w64 ((w64 (10 * n_2)) + (w64 t_6))) - 48)))) hF hS (ex_ibin rfl rfl rfl) rfl rfl fun a hF=>q_x (v:=(iV (w64 ((w64 ((w64 (10 * n_2)) + (w64 t_6))) - 48)))) hF hS (ex_assign rfl) rfl rfl fun a hF=>q_end (n_jn ?_)
      obtain rfl:=someI hj5
      exact ⟨_,_,rfl,hF.sub ⟨rfl,rfl,rfl,rfl,trivial⟩,hS⟩
     ·have hj5:=cond_t hc6 hj5
      refine q_cond_t hF rfl hc6 (q_region (q_x (v:=(iV (-1))) hF hS (ex_assign rfl) rfl rfl fun a hF=>q_end (n_jn ?_)))
      obtain rfl:=someI hj5
      exact ⟨_,_,rfl,hF.sub ⟨rfl,rfl,rfl,rfl,trivial⟩,hS⟩
    ·rintro a w ⟨sign_7,n_8,rfl,hF,hS⟩
     refine n_ib (n_sq ?_)
     refine q_region (q_x (v:=(iV i_3)) hF hS (ex_move rfl) rfl rfl fun a hF=>q_x (v:=(iV (w64 (i_3 + 1)))) hF hS (ex_ibin rfl rfl rfl) rfl rfl fun a hF=>q_x (v:=(iV (w64 (i_3 + 1)))) hF hS (ex_assign rfl) rfl rfl fun a hF=>q_end ?_)
     obtain rfl:=someI hb1
     exact ⟨rfl,_,_,_,rfl,hF.sub ⟨rfl,rfl,rfl,rfl,trivial⟩,hS⟩
 ·rintro e a w ⟨sign_9,n_10,rfl,rfl,hF,hS⟩
  refine x_ib (n_sq ?_)
  refine q_seq (q_region (q_x (v:=(iV sign_9)) hF hS (ex_move rfl) rfl rfl fun a hF=>q_x (v:=(iV n_10)) hF hS (ex_move rfl) rfl rfl fun a hF=>q_x (v:=(iV (w64 (sign_9 * n_10)))) hF hS (ex_ibin rfl rfl rfl) rfl rfl fun a hF=>q_x (v:=(iV (w64 (sign_9 * n_10)))) hF hS (ex_assign rfl) rfl rfl fun a hF=>q_end (n_sq (q_ret ?_))))
  obtain rfl:=someI hr
  exact ret_of hF hS rfl (.tmp rfl .nil) rfl

theorem c_spec_ParseReport (p_g : impl_Geo) (p_s : List impl_Variable) (p_t : impl_Table) (p_x : List UInt8) (r : (List Int) × Bool) (hr : spec_ParseReport p_g p_s p_t p_x = some r) (w0 : World) (m : Mem) (hv : Vis m w0) (s1 : Sl) (h1 : Rd m s1 p_g.Parents) (s2 : Sl) (h2 : Rd m s2 p_s) (s3 : Sl) (h3 : Rd m s3 p_t.Vars) (s4 : Sl) (h4 : Rd m s4 p_t.Where) :
  Ret Tryz.prog 11 [(.agg #[s1.v]),s2.v,(.agg #[(iV p_t.Level),s3.v,s4.v,(iV p_t.Sum)]),(strV p_x)] w0 (fun v w=>∃ (q0' : Piece) (s0' : Sl),v = (.tuple #[s0'.v,(.bool r.2)])∧St [] w0 w m [q0']∧OwnL m 3 q0' s0' r.1):=by
 unfold spec_ParseReport at hr
 refine ret_start Tryz.func11 rfl 60 rfl rfl m hv fun a hF hS=>q_seq (q_region (q_box (cs:=[s1.v]) hF hS rfl rfl rfl fun a w b5 hF hS=>q_box (cs:=[(iV p_t.Level),s3.v,s4.v,(iV p_t.Sum)]) hF hS rfl rfl rfl fun a w b6 hF hS=>q_x (v:=nilS.v) hF hS (ex_assign rfl) rfl rfl fun a hF=>q_x (v:=(.bool false)) hF hS (ex_assign rfl) rfl rfl fun a hF=>q_end (n_sq (q_seq (q_seq (q_region (q_x (v:=(.agg #[s1.v])) hF hS (ex_loadA (vs:=[s1.v]) 1 0 Tryz.underlying26 rfl sz26 rfl rfl rfl rfl) rfl rfl fun a hF=>q_x (v:=s2.v) hF hS (ex_move rfl) rfl rfl fun a hF=>q_x (v:=(.agg #[(iV p_t.Level),s3.v,s4.v,(iV p_t.Sum)])) hF hS (ex_loadA (vs:=[(iV p_t.Level),s3.v,s4.v,(iV p_t.Sum)]) 0 0 Tryz.underlying29 rfl sz29 rfl rfl rfl rfl) rfl rfl fun a hF=>?_)))))))
 obtain ⟨t_7,ht_7,hr⟩:=bindS hr
 refine q_call (vs:=[(.agg #[s1.v]),s2.v,(.agg #[(iV p_t.Level),s3.v,s4.v,(iV p_t.Sum)])]) hF hS Tryz.func17 (by kernel_rfl) rfl rfl rfl (c_spec_uGood p_g p_s p_t t_7 ht_7 _ m hS.vis s1 h1 s2 h2 s3 h3 s4 h4) ?_
 rintro a w _ rfl hF hS
 refine q_x (v:=(.bool (!t_7))) hF hS (ex_not rfl) rfl rfl fun a hF=>q_end (n_sq ?_)
 rcases bcase (!t_7) with hc1 | hc1
 ·have hr:=cond_f hc1 hr
  refine q_cond_f hF rfl hc1 (q_skipc (n_sq (q_seq (q_region (q_x (v:=nilS.v) hF hS (ex_assign rfl) rfl rfl fun a hF=>q_end (n_sq (q_seq (q_seq (q_region (q_x (v:=(strV p_x)) hF hS (ex_move rfl) rfl rfl fun a hF=>?_))))))))))
  obtain ⟨t_8,ht_8,hr⟩:=bindS hr
  refine q_call (vs:=[(strV p_x),(.int .u8 10)]) hF hS Tryz.func35 (by kernel_rfl) rfl rfl rfl (c_spec_l1Split p_x (⟨10⟩ : K .u8) t_8 ht_8 _ m hS.vis) ?_
  rintro a w _ ⟨q10,s10,rfl,hR9,h10⟩ hF hS2
  have hS : St _ _ _ _ [q10,[⟨b6,[(iV p_t.Level),s3.v,s4.v,(iV p_t.Sum)],29⟩],[⟨b5,[s1.v],26⟩]]:=hS.joinF hR9
  refine q_x (v:=(iV (goLen t_8))) hF hS (ex_len Tryz.underlying74 rfl h10.len) rfl rfl fun a hF=>q_x (v:=(iV 0)) hF hS (ex_move rfl) rfl rfl fun a hF=>q_end (n_sq (q_block ?_))
  obtain ⟨cells_25,hl2,hr⟩:=bindS hr
  refine q_loop (fun (s : (List Int) × Int) a w=>∃ (q12 : Piece),∃ (s12 : Sl),∃ cells_11,∃ t_13,s = (cells_11,t_13)∧Fr a 60 [(1,s2.v),(3,(strV p_x)),(4,(.pointer (some ⟨b5,0,none⟩))),(6,(.pointer (some ⟨b6,0,none⟩))),(10,s12.v),(20,s10.v),(21,(iV (goLen t_8))),(22,(iV t_13))]∧St [] w0 w m [q12,q10,[⟨b6,[(iV p_t.Level),s3.v,s4.v,(iV p_t.Sum)],29⟩],[⟨b5,[s1.v],26⟩]]∧OwnL m 3 q12 s12 cells_11) (fun (cells_25 : (List Int)) e a w=>∃ (q26 : Piece),∃ (s26 : Sl),e = .exit 0∧Fr a 60 [(1,s2.v),(3,(strV p_x)),(4,(.pointer (some ⟨b5,0,none⟩))),(6,(.pointer (some ⟨b6,0,none⟩))),(10,s26.v)]∧St [] w0 w m [q26,[⟨b6,[(iV p_t.Level),s3.v,s4.v,(iV p_t.Sum)],29⟩],[⟨b5,[s1.v],26⟩]]∧OwnL m 3 q26 s26 cells_25) hl2 ⟨[],nilS,_,_,rfl,hF.sub ⟨rfl,rfl,rfl,rfl,rfl,rfl,rfl,rfl,trivial⟩,hS.sel [3,0,1,2] (by decide),(OwnL.nil (α:=Int) m 3)⟩ ?_ ?_
  ·clear hF hS
   rintro s a w st ⟨q12,s12,cells_11,t_13,rfl,hF,hS,h12⟩ hb2
   unfold spec_ParseReport_l1 at hb2
   refine q_seq (q_region (q_x (v:=(.bool (decide (t_13 < (goLen t_8))))) hF hS (ex_ibin rfl rfl rfl) rfl rfl fun a hF=>q_end (n_sq (q_seq ?_))))
   rcases bcase (decide (t_13 < (goLen t_8))) with hc3 | hc3
   ·have hb2:=cond_f hc3 hb2
    refine q_cond_f hF rfl hc3 (q_exit (x_sq ?_))
    obtain rfl:=someI hb2
    exact ⟨nofun,.inl ⟨q12,s12,rfl,hF.sub ⟨rfl,rfl,rfl,rfl,rfl,trivial⟩,hS.mask [true,false,true,true],h12⟩⟩
   ·have hb2:=cond_t hc3 hb2
    refine q_cond_t hF rfl hc3 (q_skipc (n_sq (q_seq (q_block (q_seq (q_region ?_))))))
    obtain ⟨e_14,he_14,hb2⟩:=bindS hb2
    obtain ⟨vs15,at15,d15⟩:=h10.at he_14 1 rfl
    obtain rfl : vs15 = [(strV e_14)]:=d15
    refine q_x (v:=(elP s10 (t_13.toNat * 1))) hF hS (ex_indexAddr Tryz.underlying74 sz9 rfl rfl (h10.idx he_14)) rfl rfl fun a hF=>q_x (v:=(strV e_14)) hF hS (ex_loadE1 0 Tryz.underlying9 rfl rfl (at15.at 1 rfl) rfl rfl) rfl rfl fun a hF=>q_x (v:=(strV e_14)) hF hS (ex_assign rfl) rfl rfl fun a hF=>q_end (n_sq (q_seq (q_region (q_x (v:=(strV e_14)) hF hS (ex_move rfl) rfl rfl fun a hF=>?_))))
    obtain ⟨t_16,ht_16,hb2⟩:=bindS hb2
    refine q_call (vs:=[(strV e_14),(.int .u8 32)]) hF hS Tryz.func35 (by kernel_rfl) rfl rfl rfl (c_spec_l1Split e_14 (⟨32⟩ : K .u8) t_16 ht_16 _ m hS.vis) ?_
    rintro a w _ ⟨q18,s18,rfl,hR17,h18⟩ hF hS2
    have hS : St _ _ _ _ [q18,q12,q10,[⟨b6,[(iV p_t.Level),s3.v,s4.v,(iV p_t.Sum)],29⟩],[⟨b5,[s1.v],26⟩]]:=hS.joinF hR17
    refine q_x (v:=s18.v) hF hS (ex_assign rfl) rfl rfl fun a hF=>q_end (n_sq (q_region (q_x (v:=s12.v) hF hS (ex_move rfl) rfl rfl fun a hF=>q_x (v:=s18.v) hF hS (ex_move rfl) rfl rfl fun a hF=>q_x (v:=s18.v) hF hS (ex_move rfl) rfl rfl fun a hF=>q_x (v:=(iV (goLen t_16))) hF hS (ex_len Tryz.underlying74 rfl h18.len) rfl rfl fun a hF=>q_x (v:=(iV (w64 ((goLen t_16) - 1)))) hF hS (ex_ibin rfl rfl rfl) rfl rfl fun a hF=>?_)))
    obtain ⟨e_19,he_19,hb2⟩:=bindS hb2
    obtain ⟨vs20,at20,d20⟩:=h18.at he_19 1 rfl
    obtain rfl : vs20 = [(strV e_19)]:=d20
    refine q_x (v:=(elP s18 ((w64 ((goLen t_16) - 1)).toNat * 1))) hF hS (ex_indexAddr Tryz.underlying74 sz9 rfl rfl (h18.idx he_19)) rfl rfl fun a hF=>q_x (v:=(strV e_19)) hF hS (ex_loadE1 0 Tryz.underlying9 rfl rfl (at20.at 0 rfl) rfl rfl) rfl rfl fun a hF=>?_
    obtain ⟨t_21,ht_21,hb2⟩:=bindS hb2
    refine q_call (vs:=[(strV e_19)]) hF hS Tryz.func36 (by kernel_rfl) rfl rfl rfl (c_spec_nDigits e_19 t_21 ht_21 _ m hS.vis) ?_
    rintro a w _ rfl hF hS
    refine q_do rfl fun _ hK=>wp_buildSlice' (l:=([t_21] : List Int)) (cells:=[(iV t_21)]) hF hS Tryz.underlying24 inf3 rfl rfl (by kernel_rfl) rfl rfl rfl ⟨rfl,rfl⟩ rfl rfl fun a w q22 s22 hF hS h22 _=>hK _ _ ?_
    have hS : St _ _ _ _ [q12,q22,q18,q10,[⟨b6,[(iV p_t.Level),s3.v,s4.v,(iV p_t.Sum)],29⟩],[⟨b5,[s1.v],26⟩]]:=hS.sel [2,0,1,3,4,5] (by decide)
    obtain ⟨l_23,hl_23,hb2⟩:=bindS hb2
    refine q_do rfl fun _ hK=>wp_append hF hS h12 Tryz.underlying24 inf3 rfl rfl rfl rfl (h22.vw hS (j:=1) rfl) rfl (by decide) hl_23 rfl fun a w q24 s24 hF hS h24=>hK _ _ (q_x (v:=s24.v) hF hS (ex_assign rfl) rfl rfl fun a hF=>q_end (n_ib (n_sq (q_region (q_x (v:=(iV (w64 (t_13 + 1)))) hF hS (ex_ibin rfl rfl rfl) rfl rfl fun a hF=>q_x (v:=(iV (w64 (t_13 + 1)))) hF hS (ex_move rfl) rfl rfl fun a hF=>q_end ?_)))))
    obtain rfl:=someI hb2
    exact ⟨rfl,q24,s24,_,_,rfl,hF.sub ⟨rfl,rfl,rfl,rfl,rfl,rfl,rfl,rfl,trivial⟩,hS.mask [true,false,false,true,true,true],h24⟩
  ·rintro e a w ⟨q26,s26,rfl,hF,hS,h26⟩
   refine x_ib (n_sq ?_)
   refine q_seq (q_region (q_x (v:=s26.v) hF hS (ex_move rfl) rfl rfl fun a hF=>q_x (v:=s26.v) hF hS (ex_move rfl) rfl rfl fun a hF=>q_x (v:=(iV (goLen cells_25))) hF hS (ex_len Tryz.underlying24 rfl h26.len) rfl rfl fun a hF=>q_x (v:=(iV (w64 ((goLen cells_25) - 1)))) hF hS (ex_ibin rfl rfl rfl) rfl rfl fun a hF=>?_))
   obtain ⟨l_27,hl_27,hr⟩:=bindS hr
   have h28 : OwnL m 3 q26 (subS s26 1 (0 : Int).toNat (w64 ((goLen cells_25) - 1)).toNat s26.cap) l_27:=h26.sub0 hl_27
   refine q_x (v:=(subS s26 1 (0 : Int).toNat (w64 ((goLen cells_25) - 1)).toNat s26.cap).v) hF hS (ex_slice Tryz.underlying24 sz3 rfl rfl rfl (.inl ⟨rfl,rfl⟩) (.inr ⟨_,rfl⟩) (h26.subok hl_27)) rfl rfl fun a hF=>q_x (v:=(subS s26 1 (0 : Int).toNat (w64 ((goLen cells_25) - 1)).toNat s26.cap).v) hF hS (ex_assign rfl) rfl rfl fun a hF=>q_end (n_sq (q_seq (q_seq ?_)))
   obtain ⟨t_33,hj4,hr⟩:=bindS hr
   refine q_join (fun a w=>Fr a 60 [(10,(subS s26 1 (0 : Int).toNat (w64 ((goLen cells_25) - 1)).toNat s26.cap).v),(58,(.bool t_33))]∧St [] w0 w m [q26]) ?_ ?_
   ·refine q_region (q_x (v:=(.agg #[s1.v])) hF hS (ex_loadA (vs:=[s1.v]) 2 0 Tryz.underlying26 rfl sz26 rfl rfl rfl rfl) rfl rfl fun a hF=>q_x (v:=s2.v) hF hS (ex_move rfl) rfl rfl fun a hF=>q_x (v:=(.agg #[(iV p_t.Level),s3.v,s4.v,(iV p_t.Sum)])) hF hS (ex_loadA (vs:=[(iV p_t.Level),s3.v,s4.v,(iV p_t.Sum)]) 1 0 Tryz.underlying29 rfl sz29 rfl rfl rfl rfl) rfl rfl fun a hF=>q_x (v:=(subS s26 1 (0 : Int).toNat (w64 ((goLen cells_25) - 1)).toNat s26.cap).v) hF hS (ex_move rfl) rfl rfl fun a hF=>?_)
    obtain ⟨m30,hl30,hv30,hz30⟩:=hS.lend
    obtain ⟨t_29,ht_29,hj4⟩:=bindS hj4
    refine q_call (vs:=[(.agg #[s1.v]),s2.v,(.agg #[(iV p_t.Level),s3.v,s4.v,(iV p_t.Sum)]),(subS s26 1 (0 : Int).toNat (w64 ((goLen cells_25) - 1)).toNat s26.cap).v]) hF hS Tryz.func29 (by kernel_rfl) rfl rfl rfl (c_spec_nCells p_g p_s p_t l_27 t_29 ht_29 _ m30 hv30 s1 (h1.mono hl30) s2 (h2.mono hl30) s3 (h3.mono hl30) s4 (h4.mono hl30) (subS s26 1 (0 : Int).toNat (w64 ((goLen cells_25) - 1)).toNat s26.cap) (h28.froz hl30 (hz30 0 _ rfl))) ?_
    rintro a w _ rfl hF hS
    refine q_x (v:=(.bool (!t_29))) hF hS (ex_not rfl) rfl rfl fun a hF=>q_x (v:=(.bool (!t_29))) hF hS (ex_move rfl) rfl rfl fun a hF=>?_
    rcases bcase (!t_29) with hc5 | hc5
    ·have hj4:=cond_f hc5 hj4
     refine q_xg (v:=(.agg #[s1.v])) hF hS (ex_loadA (vs:=[s1.v]) 2 0 Tryz.underlying26 rfl sz26 rfl rfl rfl rfl) (wanted_t hF rfl rfl rfl hc5) rfl fun a hF=>q_xg (v:=s2.v) hF hS (ex_move rfl) (wanted_t hF rfl rfl rfl hc5) rfl fun a hF=>q_xg (v:=(.agg #[(iV p_t.Level),s3.v,s4.v,(iV p_t.Sum)])) hF hS (ex_loadA (vs:=[(iV p_t.Level),s3.v,s4.v,(iV p_t.Sum)]) 1 0 Tryz.underlying29 rfl sz29 rfl rfl rfl rfl) (wanted_t hF rfl rfl rfl hc5) rfl fun a hF=>q_xg (v:=(subS s26 1 (0 : Int).toNat (w64 ((goLen cells_25) - 1)).toNat s26.cap).v) hF hS (ex_move rfl) (wanted_t hF rfl rfl rfl hc5) rfl fun a hF=>?_
     obtain ⟨m32,hl32,hv32,hz32⟩:=hS.lend
     obtain ⟨t_31,ht_31,hj4⟩:=bindS hj4
     refine q_callg (vs:=[(.agg #[s1.v]),s2.v,(.agg #[(iV p_t.Level),s3.v,s4.v,(iV p_t.Sum)]),(subS s26 1 (0 : Int).toNat (w64 ((goLen cells_25) - 1)).toNat s26.cap).v]) hF hS (wanted_t hF rfl rfl rfl hc5) Tryz.func30 (by kernel_rfl) rfl rfl rfl (c_spec_nReport p_g p_s p_t l_27 t_31 ht_31 _ m32 hv32 s1 (h1.mono hl32) s2 (h2.mono hl32) s3 (h3.mono hl32) s4 (h4.mono hl32) (subS s26 1 (0 : Int).toNat (w64 ((goLen cells_25) - 1)).toNat s26.cap) (h28.froz hl32 (hz32 0 _ rfl))) ?_
     rintro a w _ rfl hF hS
     refine q_xg (v:=(strV p_x)) hF hS (ex_move rfl) (wanted_t hF rfl rfl rfl hc5) rfl fun a hF=>q_xg (v:=(.bool (t_31 != p_x))) hF hS (ex_strNe rfl rfl) (wanted_t hF rfl rfl rfl hc5) rfl fun a hF=>q_x (v:=(.bool (t_31 != p_x))) hF hS (ex_pick_f rfl rfl hc5) rfl rfl fun a hF=>q_end (n_jn ?_)
     obtain rfl:=someI hj4
     exact ⟨hF.sub ⟨rfl,rfl,trivial⟩,hS.mask [true,false,false]⟩
    ·have hj4:=cond_t hc5 hj4
     refine q_skip hF (wanted_f hF rfl rfl rfl hc5 rfl) rfl fun a hF=>q_skip hF (wanted_f hF rfl rfl rfl hc5 rfl) rfl fun a hF=>q_skip hF (wanted_f hF rfl rfl rfl hc5 rfl) rfl fun a hF=>q_skip hF (wanted_f hF rfl rfl rfl hc5 rfl) rfl fun a hF=>q_skip hF (wanted_f hF rfl rfl rfl hc5 rfl) rfl fun a hF=>q_skip hF (wanted_f hF rfl rfl rfl hc5 rfl) rfl fun a hF=>q_skip hF (wanted_f hF rfl rfl rfl hc5 rfl) rfl fun a hF=>q_x (v:=(.bool true)) hF hS (ex_pick_t rfl rfl hc5) rfl rfl fun a hF=>q_end (n_jn ?_)
     obtain rfl:=someI hj4
     exact ⟨hF.sub ⟨rfl,rfl,trivial⟩,hS.mask [true,false,false]⟩
   ·rintro a w ⟨hF,hS⟩
    refine n_sq ?_
    rcases bcase (t_33) with hc6 | hc6
    ·have hr:=cond_f hc6 hr
     refine q_cond_f hF rfl hc6 (q_skipc (n_sq (q_seq (q_region (q_x (v:=(subS s26 1 (0 : Int).toNat (w64 ((goLen cells_25) - 1)).toNat s26.cap).v) hF hS (ex_move rfl) rfl rfl fun a hF=>q_x (v:=(subS s26 1 (0 : Int).toNat (w64 ((goLen cells_25) - 1)).toNat s26.cap).v) hF hS (ex_assign rfl) rfl rfl fun a hF=>q_x (v:=(.bool true)) hF hS (ex_assign rfl) rfl rfl fun a hF=>q_end (n_sq (q_ret ?_)))))))
     obtain rfl:=someI hr
     exact ret_of hF hS rfl (.tmp rfl (.tmp rfl .nil)) ⟨q26,(subS s26 1 (0 : Int).toNat (w64 ((goLen cells_25) - 1)).toNat s26.cap),rfl,hS.sel [0] (by decide),h28⟩
    ·have hr:=cond_t hc6 hr
     refine q_cond_t hF rfl hc6 (q_seq (q_region (q_x (v:=nilS.v) hF hS (ex_assign rfl) rfl rfl fun a hF=>q_x (v:=(.bool false)) hF hS (ex_assign rfl) rfl rfl fun a hF=>q_end (n_sq (q_ret (r_sq ?_))))))
     obtain rfl:=someI hr
     exact ret_of hF hS rfl (.tmp rfl (.tmp rfl .nil)) ⟨[],nilS,rfl,hS.sel [1] (by decide),(OwnL.nil (α:=Int) m 3)⟩
 ·have hr:=cond_t hc1 hr
  refine q_cond_t hF rfl hc1 (q_seq (q_region (q_x (v:=nilS.v) hF hS (ex_assign rfl) rfl rfl fun a hF=>q_x (v:=(.bool false)) hF hS (ex_assign rfl) rfl rfl fun a hF=>q_end (n_sq (q_ret (r_sq ?_))))))
  obtain rfl:=someI hr
  exact ret_of hF hS rfl (.tmp rfl (.tmp rfl .nil)) ⟨[],nilS,rfl,hS.sel [2] (by decide),(OwnL.nil (α:=Int) m 3)⟩

theorem c_spec_DrawTableText (p_code : List (K .u8)) (r : impl_Geo × (List impl_Variable) × impl_Table) (hr : spec_DrawTableText p_code = some r) (w0 : World) (m : Mem) (hv : Vis m w0) (s1 : Sl) (h1 : Rd m s1 p_code) :
  Ret Tryz.prog 37 [s1.v] w0 (fun v w=>∃ (m' : Mem) (q0' : Piece) (q2' : Piece) (q3' : Piece) (s0' : Sl) (s1' : Sl) (s2' : Sl) (s3' : Sl),v = (.tuple #[(.agg #[s0'.v]),s1'.v,(.agg #[(iV r.2.2.Level),s2'.v,s3'.v,(iV r.2.2.Sum)])])∧MLe [] w0.heap.size m m'∧St [] w0 w m' [q0',q2',q3']∧OwnL m' 3 q0' s0' r.1.Parents∧Rd m' s1' r.2.1∧OwnL m' 3 q2' s2' r.2.2.Vars∧OwnL m' 3 q3' s3' r.2.2.Where):=by
 unfold spec_DrawTableText at hr
 refine ret_start Tryz.func37 rfl 24 rfl rfl m hv fun a hF hS=>q_seq (q_region (q_alloc (cs:=[nilS.v]) hF hS rfl rfl rfl fun a w b2 hF hS=>q_x (v:=nilS.v) hF hS (ex_assign rfl) rfl rfl fun a hF=>q_alloc (cs:=[(iV 0),nilS.v,nilS.v,(iV 0)]) hF hS rfl rfl rfl fun a w b3 hF hS=>q_end (n_sq (q_seq (q_region (q_x (v:=s1.v) hF hS (ex_move rfl) rfl rfl fun a hF=>q_x (v:=(.agg #[s1.v,(iV 0),(.int .u64 0)])) hF hS (ex_build (cells:=[s1.v,(iV 0),(.int .u64 0)]) rfl (by kernel_rfl)) rfl rfl fun a hF=>q_box (cs:=[s1.v,(iV 0),(.int .u64 0)]) hF hS rfl rfl rfl fun a w b4 hF hS=>q_x (v:=(.pointer (some ⟨b4,0,none⟩))) hF hS (ex_assign rfl) rfl rfl fun a hF=>q_end (n_sq (q_seq (q_region (q_x (v:=(.pointer (some ⟨b4,0,none⟩))) hF hS (ex_move rfl) rfl rfl fun a hF=>?_))))))))))
 have hS5 : St _ _ _ _ ([[⟨b4,[s1.v,(iV 0),(.int .u64 0)],45⟩]]++[[⟨b3,[(iV 0),nilS.v,nilS.v,(iV 0)],29⟩],[⟨b2,[nilS.v],26⟩]]):=hS
 have hE5:=hS5.enter
 obtain ⟨t_6,ht_6,hr⟩:=bindS hr
 refine q_do rfl fun _ hK=>wp_callX (vs:=[(.pointer (some ⟨b4,0,none⟩))]) hF Tryz.func15 (by kernel_rfl) rfl rfl rfl (c_spec_l1Cur_anySurvey (spec_l1Cur.mk p_code 0 (⟨0⟩ : K .u64)) t_6 ht_6 _ m b4 s1 h1 _ hE5) fun a w _ hR hF=>hK _ _ ?_
 obtain ⟨m5',q7,q9,s7,s8,s9,rfl,hm5,hR5,h7,h8,h9,hk10⟩:=hR
 have hS : St _ _ _ _ [[⟨b4,[s1.v,(iV t_6.2.2.2.at_),(.int .u64 t_6.2.2.2.seed.v)],45⟩],q7,q9,[⟨b3,[(iV 0),nilS.v,nilS.v,(iV 0)],29⟩],[⟨b2,[nilS.v],26⟩]]:=hS5.leave hR5 hm5
 have hm5:=MLe.weakX hS5 hm5
 have h10 : Rd m5' s1 t_6.2.2.2.code:=by rw [hk10]; exact (h1.mono hm5.le)
 refine q_x (v:=(.tuple #[(.agg #[s7.v]),s8.v,s9.v])) hF hS (ex_move rfl) rfl rfl fun a hF=>q_x (v:=(.agg #[s7.v])) hF hS (ex_extract rfl rfl) rfl rfl fun a hF=>q_x (v:=s8.v) hF hS (ex_extract rfl rfl) rfl rfl fun a hF=>q_x (v:=s9.v) hF hS (ex_extract rfl rfl) rfl rfl fun a hF=>q_alloc (cs:=[nilS.v]) hF hS rfl rfl rfl fun a w b11 hF hS=>q_store (vs:=[s7.v]) (cs':=[s7.v]) 0 0 hF hS sz26 rfl rfl rfl rfl rfl rfl rfl rfl fun a w hF hS=>q_x (v:=s8.v) hF hS (ex_assign rfl) rfl rfl fun a hF=>q_x (v:=s9.v) hF hS (ex_assign rfl) rfl rfl fun a hF=>q_end (n_sq (q_seq (e_region ⟨[5,6,8],[b11]⟩ mixed fun w' hw'=>?_)))
 have hS:=hS.below hw'
 refine e_xb (v:=(.agg #[s7.v])) 0 0 hF hS (.head _) rfl rfl (ex_loadA (vs:=[s7.v]) 0 0 Tryz.underlying26 rfl sz26 rfl rfl rfl rfl) rfl rfl (by kernel_rfl) (by kernel_rfl) (by kernel_rfl) fun a hF=>e_p (v:=s8.v) 1 hF rfl (ex_move rfl) rfl rfl (by kernel_rfl) (by kernel_rfl) (by kernel_rfl) fun a hF=>e_p (v:=(.pointer (some ⟨b4,0,none⟩))) 2 hF rfl (ex_move rfl) rfl rfl (by kernel_rfl) (by kernel_rfl) (by kernel_rfl) fun a hF=>e_xb (v:=(.agg #[s7.v])) 3 0 hF hS (.head _) rfl rfl (ex_loadA (vs:=[s7.v]) 0 0 Tryz.underlying26 rfl sz26 rfl rfl rfl rfl) rfl rfl (by kernel_rfl) (by kernel_rfl) (by kernel_rfl) fun a hF=>e_p (v:=s8.v) 4 hF rfl (ex_move rfl) rfl rfl (by kernel_rfl) (by kernel_rfl) (by kernel_rfl) fun a hF=>e_one 5 (by kernel_rfl) ?_
 have hS : St _ _ _ _ [[⟨b4,[s1.v,(iV t_6.2.2.2.at_),(.int .u64 t_6.2.2.2.seed.v)],45⟩],[⟨b11,[s7.v],26⟩],q7,q9,[⟨b3,[(iV 0),nilS.v,nilS.v,(iV 0)],29⟩],[⟨b2,[nilS.v],26⟩]]:=hS.sel [1,0,2,3,4,5] (by decide)
 have hS12 : St _ _ _ _ ([[⟨b4,[s1.v,(iV t_6.2.2.2.at_),(.int .u64 t_6.2.2.2.seed.v)],45⟩]]++[[⟨b11,[s7.v],26⟩],q7,q9,[⟨b3,[(iV 0),nilS.v,nilS.v,(iV 0)],29⟩],[⟨b2,[nilS.v],26⟩]]):=hS
 obtain ⟨m12,hl12,hE12,hz12⟩:=hS12.lendX
 obtain ⟨t_13,ht_13,hr⟩:=bindS hr
 have hSo:=hS
 refine e_opl rfl rfl rfl fun _ hK=>wp_callX (vs:=[(.pointer (some ⟨b4,0,none⟩)),(.agg #[s7.v]),s8.v]) hF Tryz.func16 (by kernel_rfl) rfl rfl rfl (c_spec_l1Cur_anyTable t_6.2.2.2 t_6.1 t_6.2.1 t_13 ht_13 _ m12 b4 s1 (h10.mono hl12) s7 (h7.froz hl12 (hz12 1 _ rfl)) s8 (h8.mono hl12) _ hE12) fun a w _ hR hF=>hK _ _ ?_
 obtain ⟨q14,q15,s14,s15,rfl,hR12,h14,h15,hk16⟩:=hR
 have hS : St _ _ _ _ [[⟨b4,[s1.v,(iV t_13.2.at_),(.int .u64 t_13.2.seed.v)],45⟩],q14,q15,[⟨b11,[s7.v],26⟩],q7,q9,[⟨b3,[(iV 0),nilS.v,nilS.v,(iV 0)],29⟩],[⟨b2,[nilS.v],26⟩]]:=hS12.leaveF hR12
 have h14:=h14.any m5'
 have h15:=h15.any m5'
 have h16 : Rd m5' s1 t_13.2.code:=by rw [hk16]; exact h10
 refine ⟨kpC hSo hS 1 3 rfl rfl kpN,?_⟩
 refine e_one 6 (by kernel_rfl) ?_
 have hSo:=hS
 refine e_store (vs:=[s7.v]) (cs':=[s7.v]) 7 0 hF hS rfl rfl sz26 rfl rfl rfl rfl rfl rfl rfl rfl fun a w hF hS=>⟨kpC hSo hS 3 3 rfl rfl kpN,?_⟩
 refine e_p (v:=s8.v) 7 hF rfl (ex_assign rfl) rfl rfl (by kernel_rfl) (by kernel_rfl) (by kernel_rfl) fun a hF=>e_one 8 (by kernel_rfl) ?_
 have hSo:=hS
 refine e_store (vs:=[(iV t_13.1.Level),s14.v,s15.v,(iV t_13.1.Sum)]) (cs':=[(iV t_13.1.Level),s14.v,s15.v,(iV t_13.1.Sum)]) 6 0 hF hS rfl rfl sz29 rfl rfl rfl rfl rfl rfl rfl rfl fun a w hF hS=>⟨kpC hSo hS 3 3 rfl rfl kpN,?_⟩
 refine e_end (by kernel_rfl) (n_sq (q_ret ?_)) _
 obtain rfl:=someI hr
 exact ret_of hF hS rfl (.cellA (us:=[s7.v]) 7 0 Tryz.underlying26 rfl sz26 rfl rfl rfl rfl (.tmp rfl (.cellA (us:=[(iV t_13.1.Level),s14.v,s15.v,(iV t_13.1.Sum)]) 6 0 Tryz.underlying29 rfl sz29 rfl rfl rfl rfl .nil))) ⟨m5',q7,q14,q15,s7,s8,s14,s15,rfl,hm5,hS.sel [4,1,2] (by decide),h7,h8,h14,h15⟩

theorem c_spec_DrawCellText (p_code : List (K .u8)) (r : impl_Geo × (List impl_Variable) × impl_Table × Int) (hr : spec_DrawCellText p_code = some r) (w0 : World) (m : Mem) (hv : Vis m w0) (s1 : Sl) (h1 : Rd m s1 p_code) :
  Ret Tryz.prog 12 [s1.v] w0 (fun v w=>∃ (m' : Mem) (q0' : Piece) (q2' : Piece) (q3' : Piece) (s0' : Sl) (s1' : Sl) (s2' : Sl) (s3' : Sl),v = (.tuple #[(.agg #[s0'.v]),s1'.v,(.agg #[(iV r.2.2.1.Level),s2'.v,s3'.v,(iV r.2.2.1.Sum)]),(iV r.2.2.2)])∧MLe [] w0.heap.size m m'∧St [] w0 w m' [q0',q2',q3']∧OwnL m' 3 q0' s0' r.1.Parents∧Rd m' s1' r.2.1∧OwnL m' 3 q2' s2' r.2.2.1.Vars∧OwnL m' 3 q3' s3' r.2.2.1.Where):=by
 unfold spec_DrawCellText at hr
 refine ret_start Tryz.func12 rfl 28 rfl rfl m hv fun a hF hS=>q_seq (q_region (q_alloc (cs:=[nilS.v]) hF hS rfl rfl rfl fun a w b2 hF hS=>q_x (v:=nilS.v) hF hS (ex_assign rfl) rfl rfl fun a hF=>q_alloc (cs:=[(iV 0),nilS.v,nilS.v,(iV 0)]) hF hS rfl rfl rfl fun a w b3 hF hS=>q_x (v:=(iV 0)) hF hS (ex_assign rfl) rfl rfl fun a hF=>q_end (n_sq (q_seq (q_region (q_x (v:=s1.v) hF hS (ex_move rfl) rfl rfl fun a hF=>q_x (v:=(.agg #[s1.v,(iV 0),(.int .u64 0)])) hF hS (ex_build (cells:=[s1.v,(iV 0),(.int .u64 0)]) rfl (by kernel_rfl)) rfl rfl fun a hF=>q_box (cs:=[s1.v,(iV 0),(.int .u64 0)]) hF hS rfl rfl rfl fun a w b4 hF hS=>q_x (v:=(.pointer (some ⟨b4,0,none⟩))) hF hS (ex_assign rfl) rfl rfl fun a hF=>q_end (n_sq (q_seq (q_region (q_x (v:=s1.v) hF hS (ex_move rfl) rfl rfl fun a hF=>?_))))))))))
 obtain ⟨t_5,ht_5,hr⟩:=bindS hr
 refine q_call (vs:=[s1.v]) hF hS Tryz.func37 (by kernel_rfl) rfl rfl rfl (c_spec_DrawTableText p_code t_5 ht_5 _ m hS.vis s1 h1) ?_
 have hT:=hS
 rintro a w _ ⟨m6,q7,q9,q10,s7,s8,s9,s10,rfl,hm6,hR6,h7,h8,h9,h10⟩ hF hS2
 have hS : St _ _ _ _ [q7,q9,q10,[⟨b4,[s1.v,(iV 0),(.int .u64 0)],45⟩],[⟨b3,[(iV 0),nilS.v,nilS.v,(iV 0)],29⟩],[⟨b2,[nilS.v],26⟩]]:=hS.join hR6 hm6
 have hm6:=MLe.weakX (O0:=[]) hT hm6
 refine q_x (v:=(.tuple #[(.agg #[s7.v]),s8.v,(.agg #[(iV t_5.2.2.Level),s9.v,s10.v,(iV t_5.2.2.Sum)])])) hF hS (ex_move rfl) rfl rfl fun a hF=>q_x (v:=(.agg #[s7.v])) hF hS (ex_extract rfl rfl) rfl rfl fun a hF=>q_x (v:=s8.v) hF hS (ex_extract rfl rfl) rfl rfl fun a hF=>q_x (v:=(.agg #[(iV t_5.2.2.Level),s9.v,s10.v,(iV t_5.2.2.Sum)])) hF hS (ex_extract rfl rfl) rfl rfl fun a hF=>q_alloc (cs:=[nilS.v]) hF hS rfl rfl rfl fun a w b11 hF hS=>q_alloc (cs:=[(iV 0),nilS.v,nilS.v,(iV 0)]) hF hS rfl rfl rfl fun a w b12 hF hS=>q_store (vs:=[s7.v]) (cs':=[s7.v]) 1 0 hF hS sz26 rfl rfl rfl rfl rfl rfl rfl rfl fun a w hF hS=>q_x (v:=s8.v) hF hS (ex_assign rfl) rfl rfl fun a hF=>q_store (vs:=[(iV t_5.2.2.Level),s9.v,s10.v,(iV t_5.2.2.Sum)]) (cs':=[(iV t_5.2.2.Level),s9.v,s10.v,(iV t_5.2.2.Sum)]) 0 0 hF hS sz29 rfl rfl rfl rfl rfl rfl rfl rfl fun a w hF hS=>q_end (n_sq (q_seq (e_region ⟨[4,6,9,11],[b11,b12]⟩ mixed fun w' hw'=>?_)))
 have hS:=hS.below hw'
 refine e_xb (v:=(.agg #[s7.v])) 0 1 hF hS (.head _) rfl rfl (ex_loadA (vs:=[s7.v]) 0 0 Tryz.underlying26 rfl sz26 rfl rfl rfl rfl) rfl rfl (by kernel_rfl) (by kernel_rfl) (by kernel_rfl) fun a hF=>e_p (v:=s8.v) 1 hF rfl (ex_move rfl) rfl rfl (by kernel_rfl) (by kernel_rfl) (by kernel_rfl) fun a hF=>e_xb (v:=(.agg #[(iV t_5.2.2.Level),s9.v,s10.v,(iV t_5.2.2.Sum)])) 2 0 hF hS (.tail _ (.head _)) rfl rfl (ex_loadA (vs:=[(iV t_5.2.2.Level),s9.v,s10.v,(iV t_5.2.2.Sum)]) 0 0 Tryz.underlying29 rfl sz29 rfl rfl rfl rfl) rfl rfl (by kernel_rfl) (by kernel_rfl) (by kernel_rfl) fun a hF=>e_p (v:=(.pointer (some ⟨b4,0,none⟩))) 3 hF rfl (ex_move rfl) rfl rfl (by kernel_rfl) (by kernel_rfl) (by kernel_rfl) fun a hF=>e_p (v:=(.pointer (some ⟨b4,0,none⟩))) 5 hF rfl (ex_move rfl) rfl rfl (by kernel_rfl) (by kernel_rfl) (by kernel_rfl) fun a hF=>e_one 4 (by kernel_rfl) ?_
 have hS : St _ _ _ _ [[⟨b4,[s1.v,(iV 0),(.int .u64 0)],45⟩],[⟨b12,[(iV t_5.2.2.Level),s9.v,s10.v,(iV t_5.2.2.Sum)],29⟩],[⟨b11,[s7.v],26⟩],q7,q9,q10,[⟨b3,[(iV 0),nilS.v,nilS.v,(iV 0)],29⟩],[⟨b2,[nilS.v],26⟩]]:=hS.sel [5,0,1,2,3,4,6,7] (by decide)
 have hS16 : St _ _ _ _ ([[⟨b4,[s1.v,(iV 0),(.int .u64 0)],45⟩]]++[[⟨b12,[(iV t_5.2.2.Level),s9.v,s10.v,(iV t_5.2.2.Sum)],29⟩],[⟨b11,[s7.v],26⟩],q7,q9,q10,[⟨b3,[(iV 0),nilS.v,nilS.v,(iV 0)],29⟩],[⟨b2,[nilS.v],26⟩]]):=hS
 have hE16:=hS16.enter
 obtain ⟨t_17,ht_17,hr⟩:=bindS hr
 have hSo:=hS
 refine e_opl rfl rfl rfl fun _ hK=>wp_callX (vs:=[(.pointer (some ⟨b4,0,none⟩)),(iV 12)]) hF Tryz.func20 (by kernel_rfl) rfl rfl rfl (c_spec_l1Cur_pick (spec_l1Cur.mk p_code 0 (⟨0⟩ : K .u64)) 12 t_17 ht_17 _ m6 b4 s1 (h1.mono hm6.le) _ hE16) fun a w _ hR hF=>hK _ _ ?_
 obtain ⟨rfl,hR16,hk18⟩:=hR
 have hS : St _ _ _ _ [[⟨b4,[s1.v,(iV t_17.2.at_),(.int .u64 t_17.2.seed.v)],45⟩],[⟨b12,[(iV t_5.2.2.Level),s9.v,s10.v,(iV t_5.2.2.Sum)],29⟩],[⟨b11,[s7.v],26⟩],q7,q9,q10,[⟨b3,[(iV 0),nilS.v,nilS.v,(iV 0)],29⟩],[⟨b2,[nilS.v],26⟩]]:=hS16.leaveF hR16
 have h18 : Rd m6 s1 t_17.2.code:=by rw [hk18]; exact (h1.mono hm6.le)
 refine ⟨kpC hSo hS 2 2 rfl rfl (kpC hSo hS 1 1 rfl rfl kpN),?_⟩
 refine e_one 6 (by kernel_rfl) ?_
 have hS19 : St _ _ _ _ ([[⟨b4,[s1.v,(iV t_17.2.at_),(.int .u64 t_17.2.seed.v)],45⟩]]++[[⟨b12,[(iV t_5.2.2.Level),s9.v,s10.v,(iV t_5.2.2.Sum)],29⟩],[⟨b11,[s7.v],26⟩],q7,q9,q10,[⟨b3,[(iV 0),nilS.v,nilS.v,(iV 0)],29⟩],[⟨b2,[nilS.v],26⟩]]):=hS
 have hE19:=hS19.enter
 obtain ⟨t_20,ht_20,hr⟩:=bindS hr
 have hSo:=hS
 refine e_opl rfl rfl rfl fun _ hK=>wp_callX (vs:=[(.pointer (some ⟨b4,0,none⟩)),(iV 20)]) hF Tryz.func20 (by kernel_rfl) rfl rfl rfl (c_spec_l1Cur_pick t_17.2 20 t_20 ht_20 _ m6 b4 s1 h18 _ hE19) fun a w _ hR hF=>hK _ _ ?_
 obtain ⟨rfl,hR19,hk21⟩:=hR
 have hS : St _ _ _ _ [[⟨b4,[s1.v,(iV t_20.2.at_),(.int .u64 t_20.2.seed.v)],45⟩],[⟨b12,[(iV t_5.2.2.Level),s9.v,s10.v,(iV t_5.2.2.Sum)],29⟩],[⟨b11,[s7.v],26⟩],q7,q9,q10,[⟨b3,[(iV 0),nilS.v,nilS.v,(iV 0)],29⟩],[⟨b2,[nilS.v],26⟩]]:=hS19.leaveF hR19
 have h21 : Rd m6 s1 t_20.2.code:=by rw [hk21]; exact h18
 refine ⟨kpC hSo hS 2 2 rfl rfl (kpC hSo hS 1 1 rfl rfl kpN),?_⟩
 obtain ⟨t_22,ht_22,hr⟩:=bindS hr
 refine e_p (v:=(iV t_22)) 7 hF rfl (ex_quo rfl rfl ht_22) rfl rfl (by kernel_rfl) (by kernel_rfl) (by kernel_rfl) fun a hF=>e_p (v:=(iV (w64 (t_17.1 - t_22)))) 8 hF rfl (ex_ibin rfl rfl rfl) rfl rfl (by kernel_rfl) (by kernel_rfl) (by kernel_rfl) fun a hF=>e_one 9 (by kernel_rfl) ?_
 have hSo:=hS
 refine e_store (vs:=[s7.v]) (cs':=[s7.v]) 7 0 hF hS rfl rfl sz26 rfl rfl rfl rfl rfl rfl rfl rfl fun a w hF hS=>⟨kpC hSo hS 2 2 rfl rfl (kpC hSo hS 1 1 rfl rfl kpN),?_⟩
 refine e_p (v:=s8.v) 10 hF rfl (ex_assign rfl) rfl rfl (by kernel_rfl) (by kernel_rfl) (by kernel_rfl) fun a hF=>e_one 11 (by kernel_rfl) ?_
 have hSo:=hS
 refine e_store (vs:=[(iV t_5.2.2.Level),s9.v,s10.v,(iV t_5.2.2.Sum)]) (cs':=[(iV t_5.2.2.Level),s9.v,s10.v,(iV t_5.2.2.Sum)]) 6 0 hF hS rfl rfl sz29 rfl rfl rfl rfl rfl rfl rfl rfl fun a w hF hS=>⟨kpC hSo hS 2 2 rfl rfl (kpC hSo hS 1 1 rfl rfl kpN),?_⟩
 refine e_p (v:=(iV (w64 (t_17.1 - t_22)))) 12 hF rfl (ex_assign rfl) rfl rfl (by kernel_rfl) (by kernel_rfl) (by kernel_rfl) fun a hF=>e_end (by kernel_rfl) (n_sq (q_ret ?_)) _
 obtain rfl:=someI hr
 exact ret_of hF hS rfl (.cellA (us:=[s7.v]) 7 0 Tryz.underlying26 rfl sz26 rfl rfl rfl rfl (.tmp rfl (.cellA (us:=[(iV t_5.2.2.Level),s9.v,s10.v,(iV t_5.2.2.Sum)]) 6 0 Tryz.underlying29 rfl sz29 rfl rfl rfl rfl (.tmp rfl .nil)))) ⟨m6,q7,q9,q10,s7,s8,s9,s10,rfl,hm6,hS.sel [3,4,5] (by decide),h7,h8,h9,h10⟩

end Go.Proofs.YtgaeknajcakinaaGreatDoor
