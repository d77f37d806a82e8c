/- The walks of the functions: each returns what its plain function says. -/
import Derived.Test.YtnmimeojimfogaaGreatDoorPWalks4
namespace Go.Proofs.YtnmimeojimfogaaGreatDoor
open Go.Gx Go.Gx.F Go.RowKit
set_option linter.all false
set_option maxRecDepth 10000


theorem c_impl_followsFrom (p_g : impl_Geo) (p_s : List impl_Variable) (p_t : impl_Table) (p_u : impl_Table) (r : Bool) (hr : impl_followsFrom p_g p_s p_t p_u = some r) (w0 : World) (m : Mem) (hv : Vis m w0) (s1 : Sl) (h1 : Rd m s1 p_g.Parents) (s2 : Sl) (h2 : Rd m s2 p_s) (s3 : Sl) (h3 : Rd m s3 p_t.Vars) (s4 : Sl) (h4 : Rd m s4 p_t.Where) (s5 : Sl) (h5 : Rd m s5 p_u.Vars) (s6 : Sl) (h6 : Rd m s6 p_u.Where) :
  Ret Tryz.prog 60 [(.agg #[s1.v]),s2.v,(.agg #[(iV p_t.Level),s3.v,s4.v,(iV p_t.Sum)]),(.agg #[(iV p_u.Level),s5.v,s6.v,(iV p_u.Sum)])] w0 (fun v _=>v = (.bool r)):=by
 unfold impl_followsFrom at hr
 refine ret_start Tryz.func60 rfl 114 rfl rfl m hv fun a hF hS=>q_sr (q_box (cs:=[s1.v]) hF hS rfl rfl rfl fun a w b7 hF hS=>q_box (cs:=[(iV p_t.Level),s3.v,s4.v,(iV p_t.Sum)]) hF hS rfl rfl rfl fun a w b8 hF hS=>q_box (cs:=[(iV p_u.Level),s5.v,s6.v,(iV p_u.Sum)]) hF hS rfl rfl rfl fun a w b9 hF hS=>q_s hF rfl fun a hF=>q_end (n_sq (q_seq (q_sr (q_y (v:=(pP b8 0)) hF hS (ex_fieldAddr U29 rfl sz3 rfl rfl) fun a hF=>q_y (v:=(iV p_t.Level)) hF hS (ex_load1 1 0 U3 rfl rfl rfl rfl) fun a hF=>q_y (v:=(pP b9 0)) hF hS (ex_fieldAddr U29 rfl sz3 rfl rfl) fun a hF=>q_y (v:=(iV p_u.Level)) hF hS (ex_load1 0 0 U3 rfl rfl rfl rfl) fun a hF=>q_y (v:=(.bool (p_t.Level != p_u.Level))) hF hS (ex_ibin rfl rfl rfl) fun a hF=>q_end (n_sq ?_))))))
 obtain ⟨j1,hj1,hr⟩:=bindS hr
 refine q_join (fun a w=>j1 = .inl ()∧Fr a 114 [(1,s2.v),(6,(pP b8 0)),(7,(pP b9 0))]∧St [] w0 w m [[⟨b9,[(iV p_u.Level),s5.v,s6.v,(iV p_u.Sum)],29⟩],[⟨b8,[(iV p_t.Level),s3.v,s4.v,(iV p_t.Sum)],29⟩]]) ?_ ?_
 ·rcases bcase (p_t.Level != p_u.Level) with hc2 | hc2
  ·have hj1:=cond_f hc2 hj1
   refine q_cond_f hF rfl hc2 (q_skipc (n_jn ?_))
   obtain rfl:=someI hj1
   exact ⟨rfl,hF.sub ⟨rfl,rfl,rfl,trivial⟩,hS.mask [true,true,false]⟩
  ·have hj1:=cond_t hc2 hj1
   refine q_cond_t hF rfl hc2 (q_seq (q_sr (q_y (v:=(pP b9 0)) hF hS (ex_fieldAddr U29 rfl sz3 rfl rfl) fun a hF=>q_y (v:=(iV p_u.Level)) hF hS (ex_load1 0 0 U3 rfl rfl rfl rfl) fun a hF=>q_y (v:=(pP b8 0)) hF hS (ex_fieldAddr U29 rfl sz3 rfl rfl) fun a hF=>q_y (v:=(iV p_t.Level)) hF hS (ex_load1 1 0 U3 rfl rfl rfl rfl) fun a hF=>q_y (v:=(.bool (decide (p_u.Level < p_t.Level)))) hF hS (ex_ibin rfl rfl rfl) fun a hF=>q_end (n_sq ?_))))
   rcases bcase (decide (p_u.Level < p_t.Level)) with hc3 | hc3
   ·have hj1:=cond_f hc3 hj1
    refine q_cond_f hF rfl hc3 (q_skipc (n_sq (q_sr (q_y (v:=(.agg #[s1.v])) hF hS (ex_loadA (vs:=[s1.v]) 2 0 U26 rfl sz26 rfl rfl rfl rfl) fun a hF=>?_))))
    obtain ⟨t_10,ht_10,hj1⟩:=bindS hj1
    refine q_call (vs:=[(.agg #[s1.v])]) hF hS Tryz.func101 (by kernel_rfl) rfl rfl rfl (c_impl_leavesOf p_g t_10 ht_10 _ m hS.vis s1 h1) ?_
    rintro a w _ ⟨q12,s12,rfl,hR11,h12⟩ hF hS2
    have hS : St _ _ _ _ [q12,[⟨b9,[(iV p_u.Level),s5.v,s6.v,(iV p_u.Sum)],29⟩],[⟨b8,[(iV p_t.Level),s3.v,s4.v,(iV p_t.Sum)],29⟩],[⟨b7,[s1.v],26⟩]]:=hS.joinF hR11
    refine q_y (v:=(iV (goLen t_10))) hF hS (ex_len U24 rfl h12.len) fun a hF=>q_m hF rfl fun a hF=>q_end (n_sq (q_block ?_))
    obtain ⟨o4,hl4,hj1⟩:=bindS hj1
    refine q_loop (fun (t_13 : Int) a w=>Fr a 114 [(1,s2.v),(4,(pP b7 0)),(6,(pP b8 0)),(7,(pP b9 0)),(28,s12.v),(29,(iV (goLen t_10))),(30,(iV t_13))]∧St [] w0 w m [q12,[⟨b9,[(iV p_u.Level),s5.v,s6.v,(iV p_u.Sum)],29⟩],[⟨b8,[(iV p_t.Level),s3.v,s4.v,(iV p_t.Sum)],29⟩],[⟨b7,[s1.v],26⟩]]) (fun (o : (Unit) ⊕ ((Unit) ⊕ (Bool))) e a w=>o = .inl ()∧e = .exit 0∧Fr a 114 [(1,s2.v),(6,(pP b8 0)),(7,(pP b9 0))]∧St [] w0 w m [[⟨b9,[(iV p_u.Level),s5.v,s6.v,(iV p_u.Sum)],29⟩],[⟨b8,[(iV p_t.Level),s3.v,s4.v,(iV p_t.Sum)],29⟩]]) hl4 ⟨hF.sub ⟨rfl,rfl,rfl,rfl,rfl,rfl,rfl,trivial⟩,hS⟩ ?_ ?_
    ·clear hF hS
     rintro t_13 a w st ⟨hF,hS⟩ hb4
     unfold impl_followsFrom_l1 at hb4
     refine q_sr (q_y (v:=(.bool (decide (t_13 < (goLen t_10))))) hF hS (ex_ibin rfl rfl rfl) fun a hF=>q_end (n_sq (q_seq ?_)))
     rcases bcase (decide (t_13 < (goLen t_10))) with hc5 | hc5
     ·have hb4:=cond_f hc5 hb4
      refine q_cond_f hF rfl hc5 (q_exit (x_sq ?_))
      obtain rfl:=someI hb4
      exact ⟨nofun,.inl ⟨rfl,rfl,hF.sub ⟨rfl,rfl,rfl,trivial⟩,hS.mask [false,true,true,false]⟩⟩
     ·have hb4:=cond_t hc5 hb4
      refine q_cond_t hF rfl hc5 (q_skipc (n_sq (q_seq (q_block (q_seq (q_region ?_))))))
      obtain ⟨e_14,he_14,hb4⟩:=bindS hb4
      obtain ⟨vs15,at15,d15⟩:=h12.at he_14 1 rfl
      obtain rfl : vs15 = [(iV e_14)]:=d15
      refine q_y (v:=(elP s12 (t_13.toNat * 1))) hF hS (ex_indexAddr U24 sz3 rfl rfl (h12.idx he_14)) fun a hF=>q_y (v:=(iV e_14)) hF hS (ex_loadE1 0 U3 rfl rfl (at15.at 0 rfl) rfl rfl) fun a hF=>q_s hF rfl fun a hF=>q_end (n_sq (q_sr (q_y (v:=(.agg #[s1.v])) hF hS (ex_loadA (vs:=[s1.v]) 3 0 U26 rfl sz26 rfl rfl rfl rfl) fun a hF=>q_m hF rfl fun a hF=>?_)))
      obtain ⟨t_16,ht_16,hb4⟩:=bindS hb4
      refine q_call (vs:=[(.agg #[s1.v]),(iV e_14)]) hF hS Tryz.func102 (by kernel_rfl) rfl rfl rfl (c_impl_depthOf p_g e_14 t_16 ht_16 _ m hS.vis s1 h1) ?_
      rintro a w _ rfl hF hS
      refine q_s hF rfl fun a hF=>q_end (n_sq (q_seq ?_))
      obtain ⟨t_17,hj6,hb4⟩:=bindS hb4
      refine q_join (fun a w=>Fr a 114 [(1,s2.v),(4,(pP b7 0)),(6,(pP b8 0)),(7,(pP b9 0)),(28,s12.v),(29,(iV (goLen t_10))),(30,(iV t_13)),(46,(.bool t_17))]∧St [] w0 w m [q12,[⟨b9,[(iV p_u.Level),s5.v,s6.v,(iV p_u.Sum)],29⟩],[⟨b8,[(iV p_t.Level),s3.v,s4.v,(iV p_t.Sum)],29⟩],[⟨b7,[s1.v],26⟩]]) ?_ ?_
      ·refine q_region (q_m hF rfl fun a hF=>q_y (v:=(pP b8 0)) hF hS (ex_fieldAddr U29 rfl sz3 rfl rfl) fun a hF=>q_y (v:=(iV p_t.Level)) hF hS (ex_load1 2 0 U3 rfl rfl rfl rfl) fun a hF=>q_y (v:=(.bool (decide (p_t.Level ≤ t_16)))) hF hS (ex_ibin rfl rfl rfl) fun a hF=>q_m hF rfl fun a hF=>?_)
       rcases bcase (decide (p_t.Level ≤ t_16)) with hc7 | hc7
       ·have hj6:=cond_f hc7 hj6
        refine q_k hF hc7 fun a hF=>q_k hF hc7 fun a hF=>q_k hF hc7 fun a hF=>q_k hF hc7 fun a hF=>q_y (v:=(.bool false)) hF hS (ex_pick_f rfl rfl hc7) fun a hF=>q_end (n_jn ?_)
        obtain rfl:=someI hj6
        exact ⟨hF.sub ⟨rfl,rfl,rfl,rfl,rfl,rfl,rfl,rfl,trivial⟩,hS⟩
       ·have hj6:=cond_t hc7 hj6
        refine q_g (v:=(iV t_16)) hF hS (ex_move rfl) hc7 fun a hF=>q_g (v:=(pP b9 0)) hF hS (ex_fieldAddr U29 rfl sz3 rfl rfl) hc7 fun a hF=>q_g (v:=(iV p_u.Level)) hF hS (ex_load1 1 0 U3 rfl rfl rfl rfl) hc7 fun a hF=>q_g (v:=(.bool (decide (t_16 < p_u.Level)))) hF hS (ex_ibin rfl rfl rfl) hc7 fun a hF=>q_y (v:=(.bool (decide (t_16 < p_u.Level)))) hF hS (ex_pick_t rfl rfl hc7) fun a hF=>q_end (n_jn ?_)
        obtain rfl:=someI hj6
        exact ⟨hF.sub ⟨rfl,rfl,rfl,rfl,rfl,rfl,rfl,rfl,trivial⟩,hS⟩
      ·rintro a w ⟨hF,hS⟩
       refine n_sq ?_
       rcases bcase (t_17) with hc8 | hc8
       ·have hb4:=cond_f hc8 hb4
        refine q_cond_f hF rfl hc8 (q_skipc (n_ib (n_sq (q_region (q_y (v:=(iV (w64 (t_13 + 1)))) hF hS (ex_ibin rfl rfl rfl) fun a hF=>q_m hF rfl fun a hF=>q_end ?_)))))
        obtain rfl:=someI hb4
        exact ⟨rfl,hF.sub ⟨rfl,rfl,rfl,rfl,rfl,rfl,rfl,trivial⟩,hS⟩
       ·have hb4:=cond_t hc8 hb4
        refine q_cond_t hF rfl hc8 (q_sr (q_s hF rfl fun a hF=>q_end (n_sq (q_ret (r_ib (r_sq ?_))))))
        obtain rfl:=someI hb4
        refine ⟨nofun,.inr fun ho=>?_⟩
        subst ho
        refine r_ib (r_jn ?_)
        obtain rfl:=someI hj1
        refine r_sq ?_
        obtain rfl:=someI hr
        exact ret_of hF hS rfl (.tmp rfl .nil) rfl
    ·rintro e a w ⟨rfl,rfl,hF,hS⟩
     refine x_ib (n_jn ?_)
     obtain rfl:=someI hj1
     exact ⟨rfl,hF.sub ⟨rfl,rfl,rfl,trivial⟩,hS⟩
   ·have hj1:=cond_t hc3 hj1
    refine q_cond_t hF rfl hc3 (q_sr (q_s hF rfl fun a hF=>q_end (n_sq (q_ret (r_sq (r_jn ?_))))))
    obtain rfl:=someI hj1
    refine r_sq ?_
    obtain rfl:=someI hr
    exact ret_of hF hS rfl (.tmp rfl .nil) rfl
 ·rintro a w ⟨rfl,hF,hS⟩
  refine n_sq ?_
  refine q_seq (q_sr (q_y (v:=(pP b8 1)) hF hS (ex_fieldAddr U29 rfl sz24 rfl rfl) fun a hF=>q_y (v:=s3.v) hF hS (ex_load1 1 0 U24 rfl rfl rfl rfl) fun a hF=>q_y (v:=(iV (goLen p_t.Vars))) hF hS (ex_len U24 rfl h3.len) fun a hF=>q_m hF rfl fun a hF=>q_end (n_sq (q_block ?_))))
  obtain ⟨o9,hl9,hr⟩:=bindS hr
  refine q_loop (fun (t_18 : Int) a w=>Fr a 114 [(1,s2.v),(6,(pP b8 0)),(7,(pP b9 0)),(49,s3.v),(50,(iV (goLen p_t.Vars))),(51,(iV t_18))]∧St [] w0 w m [[⟨b9,[(iV p_u.Level),s5.v,s6.v,(iV p_u.Sum)],29⟩],[⟨b8,[(iV p_t.Level),s3.v,s4.v,(iV p_t.Sum)],29⟩]]) (fun (o : (Unit) ⊕ (Bool)) e a w=>o = .inl ()∧e = .exit 2∧Fr a 114 [(1,s2.v),(6,(pP b8 0)),(7,(pP b9 0))]∧St [] w0 w m [[⟨b9,[(iV p_u.Level),s5.v,s6.v,(iV p_u.Sum)],29⟩],[⟨b8,[(iV p_t.Level),s3.v,s4.v,(iV p_t.Sum)],29⟩]]) hl9 ⟨hF.sub ⟨rfl,rfl,rfl,rfl,rfl,rfl,trivial⟩,hS⟩ ?_ ?_
  ·clear hF hS
   rintro t_18 a w st ⟨hF,hS⟩ hb9
   unfold impl_followsFrom_l2 at hb9
   refine q_sr (q_y (v:=(.bool (decide (t_18 < (goLen p_t.Vars))))) hF hS (ex_ibin rfl rfl rfl) fun a hF=>q_end (n_sq (q_seq ?_)))
   rcases bcase (decide (t_18 < (goLen p_t.Vars))) with hc10 | hc10
   ·have hb9:=cond_f hc10 hb9
    refine q_cond_f hF rfl hc10 (q_exit (x_sq ?_))
    obtain rfl:=someI hb9
    exact ⟨nofun,.inl ⟨rfl,rfl,hF.sub ⟨rfl,rfl,rfl,trivial⟩,hS⟩⟩
   ·have hb9:=cond_t hc10 hb9
    refine q_cond_t hF rfl hc10 (q_skipc (n_sq (q_seq (q_block (q_seq (q_region ?_))))))
    obtain ⟨e_19,he_19,hb9⟩:=bindS hb9
    obtain ⟨vs20,at20,d20⟩:=h3.at he_19 1 rfl
    obtain rfl : vs20 = [(iV e_19)]:=d20
    refine q_y (v:=(elP s3 (t_18.toNat * 1))) hF hS (ex_indexAddr U24 sz3 rfl rfl (h3.idx he_19)) fun a hF=>q_y (v:=(iV e_19)) hF hS (ex_loadE1 0 U3 rfl rfl ((at20).at) rfl rfl) fun a hF=>q_s hF rfl fun a hF=>q_end (n_sq (q_sr (q_y (v:=(pP b9 1)) hF hS (ex_fieldAddr U29 rfl sz24 rfl rfl) fun a hF=>q_y (v:=s5.v) hF hS (ex_load1 0 0 U24 rfl rfl rfl rfl) fun a hF=>q_m hF rfl fun a hF=>?_)))
    obtain ⟨t_21,ht_21,hb9⟩:=bindS hb9
    refine q_call (vs:=[s5.v,(iV e_19)]) hF hS Tryz.func103 (by kernel_rfl) rfl rfl rfl (c_slices_Contains_int_int p_u.Vars e_19 t_21 ht_21 _ m hS.vis s5 h5) ?_
    rintro a w _ rfl hF hS
    refine q_y (v:=(.bool (!t_21))) hF hS (ex_not rfl) fun a hF=>q_end (n_sq ?_)
    rcases bcase (!t_21) with hc11 | hc11
    ·have hb9:=cond_f hc11 hb9
     refine q_cond_f hF rfl hc11 (q_skipc (n_ib (n_sq (q_region (q_y (v:=(iV (w64 (t_18 + 1)))) hF hS (ex_ibin rfl rfl rfl) fun a hF=>q_m hF rfl fun a hF=>q_end ?_)))))
     obtain rfl:=someI hb9
     exact ⟨rfl,hF.sub ⟨rfl,rfl,rfl,rfl,rfl,rfl,trivial⟩,hS⟩
    ·have hb9:=cond_t hc11 hb9
     refine q_cond_t hF rfl hc11 (q_sr (q_s hF rfl fun a hF=>q_end (n_sq (q_ret (r_ib (r_sq ?_))))))
     obtain rfl:=someI hb9
     refine ⟨nofun,.inr fun ho=>?_⟩
     subst ho
     refine r_ib (r_sq ?_)
     obtain rfl:=someI hr
     exact ret_of hF hS rfl (.tmp rfl .nil) rfl
  ·rintro e a w ⟨rfl,rfl,hF,hS⟩
   refine x_ib (n_sq ?_)
   refine q_seq (q_sr (q_m hF rfl fun a hF=>q_y (v:=(iV (goLen p_s))) hF hS (ex_len U27 rfl h2.len) fun a hF=>q_m hF rfl fun a hF=>q_end (n_sq (q_block ?_))))
   obtain ⟨o12,hl12,hr⟩:=bindS hr
   refine q_loop (fun (t_22 : Int) a w=>Fr a 114 [(1,s2.v),(6,(pP b8 0)),(7,(pP b9 0)),(62,(iV (goLen p_s))),(63,(iV t_22))]∧St [] w0 w m [[⟨b9,[(iV p_u.Level),s5.v,s6.v,(iV p_u.Sum)],29⟩],[⟨b8,[(iV p_t.Level),s3.v,s4.v,(iV p_t.Sum)],29⟩]]) (fun (o : (Unit) ⊕ (Bool)) e a w=>o = .inl ()∧e = .exit 4∧Fr a 114 [(6,(pP b8 0)),(7,(pP b9 0))]∧St [] w0 w m [[⟨b9,[(iV p_u.Level),s5.v,s6.v,(iV p_u.Sum)],29⟩],[⟨b8,[(iV p_t.Level),s3.v,s4.v,(iV p_t.Sum)],29⟩]]) hl12 ⟨hF.sub ⟨rfl,rfl,rfl,rfl,rfl,trivial⟩,hS⟩ ?_ ?_
   ·clear hF hS
    rintro t_22 a w st ⟨hF,hS⟩ hb12
    unfold impl_followsFrom_l3 at hb12
    refine q_sr (q_y (v:=(.bool (decide (t_22 < (goLen p_s))))) hF hS (ex_ibin rfl rfl rfl) fun a hF=>q_end (n_sq (q_seq ?_)))
    rcases bcase (decide (t_22 < (goLen p_s))) with hc13 | hc13
    ·have hb12:=cond_f hc13 hb12
     refine q_cond_f hF rfl hc13 (q_exit (x_sq ?_))
     obtain rfl:=someI hb12
     exact ⟨nofun,.inl ⟨rfl,rfl,hF.sub ⟨rfl,rfl,trivial⟩,hS⟩⟩
    ·have hb12:=cond_t hc13 hb12
     refine q_cond_t hF rfl hc13 (q_skipc (n_sq (q_seq (q_block (q_sr (q_m hF rfl fun a hF=>q_s hF rfl fun a hF=>q_end (n_sq (q_seq (e_region ⟨[],[]⟩ mixed fun w' hw'=>?_)))))))))
     have hS:=hS.below hw'
     refine e_P (v:=s2.v) 0 hF rfl (ex_move rfl) fun a hF=>e_X (v:=(.agg #[(iV p_t.Level),s3.v,s4.v,(iV p_t.Sum)])) 1 hF hS rfl (ex_loadA (vs:=[(iV p_t.Level),s3.v,s4.v,(iV p_t.Sum)]) 1 0 U29 rfl sz29 rfl rfl rfl rfl) fun a hF=>e_P (v:=(iV t_22)) 2 hF rfl (ex_move rfl) fun a hF=>e_P (v:=s2.v) 4 hF rfl (ex_move rfl) fun a hF=>e_X (v:=(.agg #[(iV p_u.Level),s5.v,s6.v,(iV p_u.Sum)])) 5 hF hS rfl (ex_loadA (vs:=[(iV p_u.Level),s5.v,s6.v,(iV p_u.Sum)]) 0 0 U29 rfl sz29 rfl rfl rfl rfl) fun a hF=>e_P (v:=(iV t_22)) 6 hF rfl (ex_move rfl) fun a hF=>e_one 3 (by kernel_rfl) ?_
     obtain ⟨t_26,ht_26,hb12⟩:=bindS hb12
     refine e_call (vs:=[s2.v,(.agg #[(iV p_t.Level),s3.v,s4.v,(iV p_t.Sum)]),(iV t_22)]) hF hS rfl Tryz.func104 (by kernel_rfl) rfl rfl rfl (c_impl_conditionOf p_s p_t t_22 t_26 ht_26 _ m hS.vis s2 h2 s3 h3 s4 h4) ?_
     rintro a w _ rfl hF hS
     refine e_one 7 (by kernel_rfl) ?_
     obtain ⟨t_27,ht_27,hb12⟩:=bindS hb12
     refine e_call (vs:=[s2.v,(.agg #[(iV p_u.Level),s5.v,s6.v,(iV p_u.Sum)]),(iV t_22)]) hF hS rfl Tryz.func104 (by kernel_rfl) rfl rfl rfl (c_impl_conditionOf p_s p_u t_22 t_27 ht_27 _ m hS.vis s2 h2 s5 h5 s6 h6) ?_
     rintro a w _ rfl hF hS
     refine e_P (v:=(iV t_26)) 8 hF rfl (ex_assign rfl) fun a hF=>e_P (v:=(iV t_27)) 9 hF rfl (ex_assign rfl) fun a hF=>e_end (by kernel_rfl) (n_sq ?_) _
     refine q_seq ?_
     obtain ⟨t_31,hj14,hb12⟩:=bindS hb12
     refine q_join (fun a w=>Fr a 114 [(1,s2.v),(6,(pP b8 0)),(7,(pP b9 0)),(62,(iV (goLen p_s))),(63,(iV t_22)),(95,(.bool t_31))]∧St [] w0 w m [[⟨b9,[(iV p_u.Level),s5.v,s6.v,(iV p_u.Sum)],29⟩],[⟨b8,[(iV p_t.Level),s3.v,s4.v,(iV p_t.Sum)],29⟩]]) ?_ ?_
     ·refine q_region (q_y (v:=(pP b9 1)) hF hS (ex_fieldAddr U29 rfl sz24 rfl rfl) fun a hF=>q_y (v:=s5.v) hF hS (ex_load1 0 0 U24 rfl rfl rfl rfl) fun a hF=>q_m hF rfl fun a hF=>?_)
      obtain ⟨t_28,ht_28,hj14⟩:=bindS hj14
      refine q_call (vs:=[s5.v,(iV t_22)]) hF hS Tryz.func103 (by kernel_rfl) rfl rfl rfl (c_slices_Contains_int_int p_u.Vars t_22 t_28 ht_28 _ m hS.vis s5 h5) ?_
      rintro a w _ rfl hF hS
      refine q_m hF rfl fun a hF=>?_
      rcases bcase (t_28) with hc15 | hc15
      ·have hj14:=cond_f hc15 hj14
       refine q_k hF hc15 fun a hF=>q_k hF hc15 fun a hF=>q_k hF hc15 fun a hF=>q_k hF hc15 fun a hF=>q_y (v:=(.bool false)) hF hS (ex_pick_f rfl rfl hc15) fun a hF=>q_m hF rfl fun a hF=>q_g (v:=(pP b9 1)) hF hS (ex_fieldAddr U29 rfl sz24 rfl rfl) rfl fun a hF=>q_g (v:=s5.v) hF hS (ex_load1 0 0 U24 rfl rfl rfl rfl) rfl fun a hF=>q_g (v:=(iV t_22)) hF hS (ex_move rfl) rfl fun a hF=>?_
       obtain ⟨t_29,ht_29,hj14⟩:=bindS hj14
       refine q_callg (vs:=[s5.v,(iV t_22)]) hF hS (wanted_t hF rfl rfl rfl rfl) Tryz.func103 (by kernel_rfl) rfl rfl rfl (c_slices_Contains_int_int p_u.Vars t_22 t_29 ht_29 _ m hS.vis s5 h5) ?_
       rintro a w _ rfl hF hS
       refine q_g (v:=(.bool (!t_29))) hF hS (ex_not rfl) rfl fun a hF=>q_g (v:=(.bool (!t_29))) hF hS (ex_move rfl) rfl fun a hF=>?_
       rcases bcase (!t_29) with hc16 | hc16
       ·have hj14:=cond_f hc16 hj14
        refine q_k hF hc16 fun a hF=>q_k hF hc16 fun a hF=>q_k hF hc16 fun a hF=>q_g (v:=(.bool false)) hF hS (ex_pick_f rfl rfl hc16) rfl fun a hF=>q_y (v:=(.bool false)) hF hS (ex_pick_f rfl rfl rfl) fun a hF=>q_end (n_jn ?_)
        obtain rfl:=someI hj14
        exact ⟨hF.sub ⟨rfl,rfl,rfl,rfl,rfl,rfl,trivial⟩,hS⟩
       ·have hj14:=cond_t hc16 hj14
        refine q_g (v:=(iV t_26)) hF hS (ex_move rfl) hc16 fun a hF=>q_g (v:=(iV t_27)) hF hS (ex_move rfl) hc16 fun a hF=>q_g (v:=(.bool (t_26 != t_27))) hF hS (ex_ibin rfl rfl rfl) hc16 fun a hF=>q_g (v:=(.bool (t_26 != t_27))) hF hS (ex_pick_t rfl rfl hc16) rfl fun a hF=>q_y (v:=(.bool (t_26 != t_27))) hF hS (ex_pick_f rfl rfl rfl) fun a hF=>q_end (n_jn ?_)
        obtain rfl:=someI hj14
        exact ⟨hF.sub ⟨rfl,rfl,rfl,rfl,rfl,rfl,trivial⟩,hS⟩
      ·have hj14:=cond_t hc15 hj14
       refine q_g (v:=(iV t_26)) hF hS (ex_move rfl) hc15 fun a hF=>q_g (v:=(iV t_27)) hF hS (ex_move rfl) hc15 fun a hF=>q_g (v:=(iV (goBits .andNot .i64 t_26 t_27))) hF hS (ex_bits rfl rfl rfl) hc15 fun a hF=>q_g (v:=(.bool ((goBits .andNot .i64 t_26 t_27) != 0))) hF hS (ex_ibin rfl rfl rfl) hc15 fun a hF=>q_y (v:=(.bool ((goBits .andNot .i64 t_26 t_27) != 0))) hF hS (ex_pick_t rfl rfl hc15) fun a hF=>q_m hF rfl fun a hF=>?_
       rcases bcase ((goBits .andNot .i64 t_26 t_27) != 0) with hc17 | hc17
       ·have hj14:=cond_f hc17 hj14
        refine q_g (v:=(pP b9 1)) hF hS (ex_fieldAddr U29 rfl sz24 rfl rfl) hc17 fun a hF=>q_g (v:=s5.v) hF hS (ex_load1 0 0 U24 rfl rfl rfl rfl) hc17 fun a hF=>q_g (v:=(iV t_22)) hF hS (ex_move rfl) hc17 fun a hF=>?_
        obtain ⟨t_30,ht_30,hj14⟩:=bindS hj14
        refine q_callg (vs:=[s5.v,(iV t_22)]) hF hS (wanted_t hF rfl rfl rfl hc17) Tryz.func103 (by kernel_rfl) rfl rfl rfl (c_slices_Contains_int_int p_u.Vars t_22 t_30 ht_30 _ m hS.vis s5 h5) ?_
        rintro a w _ rfl hF hS
        refine q_g (v:=(.bool (!t_30))) hF hS (ex_not rfl) hc17 fun a hF=>q_g (v:=(.bool (!t_30))) hF hS (ex_move rfl) hc17 fun a hF=>?_
        rcases bcase (!t_30) with hc18 | hc18
        ·have hj14:=cond_f hc18 hj14
         refine q_k hF hc18 fun a hF=>q_k hF hc18 fun a hF=>q_k hF hc18 fun a hF=>q_g (v:=(.bool false)) hF hS (ex_pick_f rfl rfl hc18) hc17 fun a hF=>q_y (v:=(.bool false)) hF hS (ex_pick_f rfl rfl hc17) fun a hF=>q_end (n_jn ?_)
         obtain rfl:=someI hj14
         exact ⟨hF.sub ⟨rfl,rfl,rfl,rfl,rfl,rfl,trivial⟩,hS⟩
        ·have hj14:=cond_t hc18 hj14
         refine q_g (v:=(iV t_26)) hF hS (ex_move rfl) hc18 fun a hF=>q_g (v:=(iV t_27)) hF hS (ex_move rfl) hc18 fun a hF=>q_g (v:=(.bool (t_26 != t_27))) hF hS (ex_ibin rfl rfl rfl) hc18 fun a hF=>q_g (v:=(.bool (t_26 != t_27))) hF hS (ex_pick_t rfl rfl hc18) hc17 fun a hF=>q_y (v:=(.bool (t_26 != t_27))) hF hS (ex_pick_f rfl rfl hc17) fun a hF=>q_end (n_jn ?_)
         obtain rfl:=someI hj14
         exact ⟨hF.sub ⟨rfl,rfl,rfl,rfl,rfl,rfl,trivial⟩,hS⟩
       ·have hj14:=cond_t hc17 hj14
        refine q_k hF hc17 fun a hF=>q_k hF hc17 fun a hF=>q_k hF hc17 fun a hF=>q_k hF hc17 fun a hF=>q_k hF hc17 fun a hF=>q_k hF hc17 fun a hF=>q_skip hF (wanted_u hF rfl rfl rfl) rfl fun a hF=>q_skip hF (wanted_u hF rfl rfl rfl) rfl fun a hF=>q_skip hF (wanted_u hF rfl rfl rfl) rfl fun a hF=>q_k hF hc17 fun a hF=>q_y (v:=(.bool true)) hF hS (ex_pick_t rfl rfl hc17) fun a hF=>q_end (n_jn ?_)
        obtain rfl:=someI hj14
        exact ⟨hF.sub ⟨rfl,rfl,rfl,rfl,rfl,rfl,trivial⟩,hS⟩
     ·rintro a w ⟨hF,hS⟩
      refine n_sq ?_
      rcases bcase (t_31) with hc19 | hc19
      ·have hb12:=cond_f hc19 hb12
       refine q_cond_f hF rfl hc19 (q_skipc (n_ib (n_sq (q_region (q_y (v:=(iV (w64 (t_22 + 1)))) hF hS (ex_ibin rfl rfl rfl) fun a hF=>q_m hF rfl fun a hF=>q_end ?_)))))
       obtain rfl:=someI hb12
       exact ⟨rfl,hF.sub ⟨rfl,rfl,rfl,rfl,rfl,trivial⟩,hS⟩
      ·have hb12:=cond_t hc19 hb12
       refine q_cond_t hF rfl hc19 (q_sr (q_s hF rfl fun a hF=>q_end (n_sq (q_ret (r_ib (r_sq ?_))))))
       obtain rfl:=someI hb12
       refine ⟨nofun,.inr fun ho=>?_⟩
       subst ho
       refine r_ib (r_sq ?_)
       obtain rfl:=someI hr
       exact ret_of hF hS rfl (.tmp rfl .nil) rfl
   ·rintro e a w ⟨rfl,rfl,hF,hS⟩
    refine x_ib (n_sq ?_)
    refine q_seq ?_
    obtain ⟨t_33,hj20,hr⟩:=bindS hr
    refine q_join (fun a w=>Fr a 114 [(8,(.bool t_33))]∧St [] w0 w m []) ?_ ?_
    ·refine q_region (q_y (v:=(pP b8 3)) hF hS (ex_fieldAddr U29 rfl sz3 rfl rfl) fun a hF=>q_y (v:=(iV p_t.Sum)) hF hS (ex_load1 1 0 U3 rfl rfl rfl rfl) fun a hF=>q_y (v:=(pP b9 3)) hF hS (ex_fieldAddr U29 rfl sz3 rfl rfl) fun a hF=>q_y (v:=(iV p_u.Sum)) hF hS (ex_load1 0 0 U3 rfl rfl rfl rfl) fun a hF=>q_y (v:=(.bool (p_t.Sum == p_u.Sum))) hF hS (ex_ibin rfl rfl rfl) fun a hF=>q_m hF rfl fun a hF=>?_)
     rcases bcase (p_t.Sum == p_u.Sum) with hc21 | hc21
     ·have hj20:=cond_f hc21 hj20
      refine q_g (v:=(pP b9 3)) hF hS (ex_fieldAddr U29 rfl sz3 rfl rfl) hc21 fun a hF=>q_g (v:=(iV p_u.Sum)) hF hS (ex_load1 0 0 U3 rfl rfl rfl rfl) hc21 fun a hF=>q_g (v:=(.bool (p_u.Sum == (-1)))) hF hS (ex_ibin rfl rfl rfl) hc21 fun a hF=>q_g (v:=(.bool (p_u.Sum == (-1)))) hF hS (ex_move rfl) hc21 fun a hF=>?_
      rcases bcase (p_u.Sum == (-1)) with hc22 | hc22
      ·have hj20:=cond_f hc22 hj20
       refine q_k hF hc22 fun a hF=>q_k hF hc22 fun a hF=>q_k hF hc22 fun a hF=>q_k hF hc22 fun a hF=>q_k hF hc22 fun a hF=>q_g (v:=(.bool false)) hF hS (ex_pick_f rfl rfl hc22) hc21 fun a hF=>q_y (v:=(.bool false)) hF hS (ex_pick_f rfl rfl hc21) fun a hF=>q_s hF rfl fun a hF=>q_end (n_jn ?_)
       obtain rfl:=someI hj20
       exact ⟨hF.sub ⟨rfl,trivial⟩,hS.mask [false,false]⟩
      ·have hj20:=cond_t hc22 hj20
       refine q_g (v:=(pP b9 1)) hF hS (ex_fieldAddr U29 rfl sz24 rfl rfl) hc22 fun a hF=>q_g (v:=s5.v) hF hS (ex_load1 0 0 U24 rfl rfl rfl rfl) hc22 fun a hF=>q_g (v:=(pP b8 3)) hF hS (ex_fieldAddr U29 rfl sz3 rfl rfl) hc22 fun a hF=>q_g (v:=(iV p_t.Sum)) hF hS (ex_load1 1 0 U3 rfl rfl rfl rfl) hc22 fun a hF=>?_
       obtain ⟨t_32,ht_32,hj20⟩:=bindS hj20
       refine q_callg (vs:=[s5.v,(iV p_t.Sum)]) hF hS (wanted_t hF rfl rfl rfl hc22) Tryz.func103 (by kernel_rfl) rfl rfl rfl (c_slices_Contains_int_int p_u.Vars p_t.Sum t_32 ht_32 _ m hS.vis s5 h5) ?_
       rintro a w _ rfl hF hS
       refine q_g (v:=(.bool t_32)) hF hS (ex_pick_t rfl rfl hc22) hc21 fun a hF=>q_y (v:=(.bool t_32)) hF hS (ex_pick_f rfl rfl hc21) fun a hF=>q_s hF rfl fun a hF=>q_end (n_jn ?_)
       obtain rfl:=someI hj20
       exact ⟨hF.sub ⟨rfl,trivial⟩,hS.mask [false,false]⟩
     ·have hj20:=cond_t hc21 hj20
      refine q_k hF hc21 fun a hF=>q_k hF hc21 fun a hF=>q_k hF hc21 fun a hF=>q_k hF hc21 fun a hF=>q_skip hF (wanted_u hF rfl rfl rfl) rfl fun a hF=>q_skip hF (wanted_u hF rfl rfl rfl) rfl fun a hF=>q_skip hF (wanted_u hF rfl rfl rfl) rfl fun a hF=>q_skip hF (wanted_u hF rfl rfl rfl) rfl fun a hF=>q_skip hF (wanted_u hF rfl rfl rfl) rfl fun a hF=>q_k hF hc21 fun a hF=>q_y (v:=(.bool true)) hF hS (ex_pick_t rfl rfl hc21) fun a hF=>q_s hF rfl fun a hF=>q_end (n_jn ?_)
      obtain rfl:=someI hj20
      exact ⟨hF.sub ⟨rfl,trivial⟩,hS.mask [false,false]⟩
    ·rintro a w ⟨hF,hS⟩
     refine n_sq (q_ret ?_)
     obtain rfl:=someI hr
     exact ret_of hF hS rfl (.tmp rfl .nil) rfl

theorem c_impl_CoversPlan_1 (p_u : impl_Table) (p_x1 : impl_Geo) (p_x2 : List impl_Variable) (p_x3 : impl_Table) (r : Bool) (hr : impl_CoversPlan_1 p_u p_x1 p_x2 p_x3 = some r) (w0 : World) (m : Mem) (b_p_x1 : Nat) (b_p_x2 : Nat) (b_p_x3 : Nat) (s1 : Sl) (h1 : Rd m s1 p_u.Vars) (s2 : Sl) (h2 : Rd m s2 p_u.Where) (s3 : Sl) (h3 : Rd m s3 p_x1.Parents) (s4 : Sl) (h4 : Rd m s4 p_x2) (s5 : Sl) (h5 : Rd m s5 p_x3.Vars) (s6 : Sl) (h6 : Rd m s6 p_x3.Where) (X : List Nat) (hS : St X w0 w0 m [[⟨b_p_x1,[s3.v],26⟩],[⟨b_p_x2,[s4.v],27⟩],[⟨b_p_x3,[(iV p_x3.Level),s5.v,s6.v,(iV p_x3.Sum)],29⟩]]) :
  RetX Tryz.prog 59 [(.agg #[(iV p_u.Level),s1.v,s2.v,(iV p_u.Sum)]),(pP b_p_x1 0),(pP b_p_x2 0),(pP b_p_x3 0)] w0 (fun v w=>v = (.bool r)∧St X w0 w m [[⟨b_p_x1,[s3.v],26⟩],[⟨b_p_x2,[s4.v],27⟩],[⟨b_p_x3,[(iV p_x3.Level),s5.v,s6.v,(iV p_x3.Sum)],29⟩]]):=by
 unfold impl_CoversPlan_1 at hr
 refine ret_startX Tryz.func59 rfl 11 rfl rfl fun a hF=>q_sr (q_box (cs:=[(iV p_u.Level),s1.v,s2.v,(iV p_u.Sum)]) hF hS rfl rfl rfl fun a w b7 hF hS=>q_s hF rfl fun a hF=>q_end (n_sq (q_sr (q_y (v:=(.agg #[s3.v])) hF hS (ex_loadA (vs:=[s3.v]) 1 0 U26 rfl sz26 rfl rfl rfl rfl) fun a hF=>q_y (v:=s4.v) hF hS (ex_load1 2 0 U27 rfl rfl rfl rfl) fun a hF=>q_y (v:=(.agg #[(iV p_x3.Level),s5.v,s6.v,(iV p_x3.Sum)])) hF hS (ex_loadA (vs:=[(iV p_x3.Level),s5.v,s6.v,(iV p_x3.Sum)]) 3 0 U29 rfl sz29 rfl rfl rfl rfl) fun a hF=>q_y (v:=(.agg #[(iV p_u.Level),s1.v,s2.v,(iV p_u.Sum)])) hF hS (ex_loadA (vs:=[(iV p_u.Level),s1.v,s2.v,(iV p_u.Sum)]) 0 0 U29 rfl sz29 rfl rfl rfl rfl) fun a hF=>?_))))
 obtain ⟨t_8,ht_8,hr⟩:=bindS hr
 refine q_call (vs:=[(.agg #[s3.v]),s4.v,(.agg #[(iV p_x3.Level),s5.v,s6.v,(iV p_x3.Sum)]),(.agg #[(iV p_u.Level),s1.v,s2.v,(iV p_u.Sum)])]) hF hS Tryz.func60 (by kernel_rfl) rfl rfl rfl (c_impl_followsFrom p_x1 p_x2 p_x3 p_u t_8 ht_8 _ m hS.vis s3 h3 s4 h4 s5 h5 s6 h6 s1 h1 s2 h2) ?_
 rintro a w _ rfl hF hS
 refine q_s hF rfl fun a hF=>q_end (n_sq (q_ret ?_))
 obtain rfl:=someI hr
 exact ret_ofX hF hS rfl (.tmp rfl .nil) ⟨rfl,hS.sel [1,2,3] (by decide)⟩

theorem c_slices_IndexFunc_impl_Table_impl_Table_of_impl_CoversPlan_1 (p_s : List impl_Table) (p_x200 : impl_Geo) (p_x201 : List impl_Variable) (p_x202 : impl_Table) (r : Int) (hr : slices_IndexFunc_impl_Table_impl_Table_of_impl_CoversPlan_1 p_s p_x200 p_x201 p_x202 = some r) (w0 : World) (m : Mem) (b_p_x200 : Nat) (b_p_x201 : Nat) (b_p_x202 : Nat) (s1 : Sl) (h1 : Rd m s1 p_s) (s2 : Sl) (h2 : Rd m s2 p_x200.Parents) (s3 : Sl) (h3 : Rd m s3 p_x201) (s4 : Sl) (h4 : Rd m s4 p_x202.Vars) (s5 : Sl) (h5 : Rd m s5 p_x202.Where) (X : List Nat) (hS : St X w0 w0 m [[⟨b_p_x200,[s2.v],26⟩],[⟨b_p_x201,[s3.v],27⟩],[⟨b_p_x202,[(iV p_x202.Level),s4.v,s5.v,(iV p_x202.Sum)],29⟩]]) :
  RetX Tryz.prog 98 [s1.v,(.func (.func 59) #[] #[(pP b_p_x200 0),(pP b_p_x201 0),(pP b_p_x202 0)])] w0 (fun v w=>v = (iV r)∧St X w0 w m [[⟨b_p_x200,[s2.v],26⟩],[⟨b_p_x201,[s3.v],27⟩],[⟨b_p_x202,[(iV p_x202.Level),s4.v,s5.v,(iV p_x202.Sum)],29⟩]]):=by
 unfold slices_IndexFunc_impl_Table_impl_Table_of_impl_CoversPlan_1 at hr
 refine ret_startX Tryz.func98 rfl 19 rfl rfl fun a hF=>q_sr (q_s hF rfl fun a hF=>q_end (n_sq (q_seq (q_sr (q_m hF rfl fun a hF=>q_y (v:=(iV (goLen p_s))) hF hS (ex_len U44 rfl h1.len) fun a hF=>q_m hF rfl fun a hF=>q_end (n_sq (q_block ?_)))))))
 obtain ⟨o1,hl1,hr⟩:=bindS hr
 refine q_loop (fun (t_6 : Int) a w=>Fr a 19 [(0,s1.v),(1,(.func (.func 59) #[] #[(pP b_p_x200 0),(pP b_p_x201 0),(pP b_p_x202 0)])),(7,(iV (goLen p_s))),(8,(iV t_6))]∧St X w0 w m [[⟨b_p_x200,[s2.v],26⟩],[⟨b_p_x201,[s3.v],27⟩],[⟨b_p_x202,[(iV p_x202.Level),s4.v,s5.v,(iV p_x202.Sum)],29⟩]]) (fun (o : (Unit) ⊕ (Int)) e a w=>o = .inl ()∧e = .exit 0∧Fr a 19 []∧St X w0 w m [[⟨b_p_x200,[s2.v],26⟩],[⟨b_p_x201,[s3.v],27⟩],[⟨b_p_x202,[(iV p_x202.Level),s4.v,s5.v,(iV p_x202.Sum)],29⟩]]) hl1 ⟨hF.sub ⟨rfl,rfl,rfl,rfl,trivial⟩,hS⟩ ?_ ?_
 ·clear hF hS
  rintro t_6 a w st ⟨hF,hS⟩ hb1
  unfold slices_IndexFunc_impl_Table_impl_Table_of_impl_CoversPlan_1_l1 at hb1
  refine q_sr (q_y (v:=(.bool (decide (t_6 < (goLen p_s))))) hF hS (ex_ibin rfl rfl rfl) fun a hF=>q_end (n_sq (q_seq ?_)))
  rcases bcase (decide (t_6 < (goLen p_s))) with hc2 | hc2
  ·have hb1:=cond_f hc2 hb1
   refine q_cond_f hF rfl hc2 (q_exit (x_sq ?_))
   obtain rfl:=someI hb1
   exact ⟨nofun,.inl ⟨rfl,rfl,hF.sub trivial,hS⟩⟩
  ·have hb1:=cond_t hc2 hb1
   refine q_cond_t hF rfl hc2 (q_skipc (n_sq (q_seq (q_block (q_sr (q_m hF rfl fun a hF=>q_s hF rfl fun a hF=>q_end (n_sq (q_sr (q_m hF rfl fun a hF=>q_m hF rfl fun a hF=>q_m hF rfl fun a hF=>?_)))))))))
   obtain ⟨e_7,he_7,hb1⟩:=bindS hb1
   obtain ⟨vs8,at8,d8⟩:=h1.at he_7 4 rfl
   obtain ⟨s9,s10,rfl,h9,h10⟩ : ∃ s9 s10 : Sl,vs8 = [(iV e_7.Level),s9.v,s10.v,(iV e_7.Sum)]∧Rd m s9 e_7.Vars∧Rd m s10 e_7.Where:=d8
   refine q_y (v:=(elP s1 (t_6.toNat * 4))) hF hS (ex_indexAddr U44 sz29 rfl rfl (h1.idx he_7)) fun a hF=>q_y (v:=(.agg #[(iV e_7.Level),s9.v,s10.v,(iV e_7.Sum)])) hF hS (ex_loadEA (us:=[(iV e_7.Level),s9.v,s10.v,(iV e_7.Sum)]) 0 U29 rfl sz29 rfl ((at8).at) rfl rfl rfl) fun a hF=>?_
   have hS11 : St _ _ _ _ ([[⟨b_p_x200,[s2.v],26⟩],[⟨b_p_x201,[s3.v],27⟩],[⟨b_p_x202,[(iV p_x202.Level),s4.v,s5.v,(iV p_x202.Sum)],29⟩]]++[]):=hS
   have hE11:=hS11.enter
   obtain ⟨t_12,ht_12,hb1⟩:=bindS hb1
   refine q_do rfl fun _ hK=>wp_callV (vs:=[(.agg #[(iV e_7.Level),s9.v,s10.v,(iV e_7.Sum)])]) (cap:=[(pP b_p_x200 0),(pP b_p_x201 0),(pP b_p_x202 0)]) hF rfl Tryz.func59 (by kernel_rfl) rfl rfl rfl (c_impl_CoversPlan_1 e_7 p_x200 p_x201 p_x202 t_12 ht_12 _ m b_p_x200 b_p_x201 b_p_x202 s9 h9 s10 h10 s2 h2 s3 h3 s4 h4 s5 h5 _ hE11) fun a w _ hR hF=>hK _ _ ?_
   obtain ⟨rfl,hR11⟩:=hR
   have hS : St _ _ _ _ [[⟨b_p_x200,[s2.v],26⟩],[⟨b_p_x201,[s3.v],27⟩],[⟨b_p_x202,[(iV p_x202.Level),s4.v,s5.v,(iV p_x202.Sum)],29⟩]]:=hS11.leaveF hR11
   refine q_end (n_sq ?_)
   rcases bcase (t_12) with hc3 | hc3
   ·have hb1:=cond_f hc3 hb1
    refine q_cond_f hF rfl hc3 (q_skipc (n_ib (n_sq (q_region (q_y (v:=(iV (w64 (t_6 + 1)))) hF hS (ex_ibin rfl rfl rfl) fun a hF=>q_m hF rfl fun a hF=>q_end ?_)))))
    obtain rfl:=someI hb1
    exact ⟨rfl,hF.sub ⟨rfl,rfl,rfl,rfl,trivial⟩,hS⟩
   ·have hb1:=cond_t hc3 hb1
    refine q_cond_t hF rfl hc3 (q_sr (q_m hF rfl fun a hF=>q_s hF rfl fun a hF=>q_end (n_sq (q_ret (r_ib (r_sq ?_))))))
    obtain rfl:=someI hb1
    refine ⟨nofun,.inr fun ho=>?_⟩
    subst ho
    refine r_ib (r_sq ?_)
    obtain rfl:=someI hr
    exact ret_ofX hF hS rfl (.tmp rfl .nil) ⟨rfl,hS.sel [0,1,2] (by decide)⟩
 ·rintro e a w ⟨rfl,rfl,hF,hS⟩
  refine x_ib (n_sq ?_)
  refine q_sr (q_s hF rfl fun a hF=>q_end (n_sq (q_ret ?_)))
  obtain rfl:=someI hr
  exact ret_ofX hF hS rfl (.tmp rfl .nil) ⟨rfl,hS.sel [0,1,2] (by decide)⟩

theorem c_slices_ContainsFunc_impl_Table_impl_Table_of_impl_CoversPlan_1 (p_s : List impl_Table) (p_x200 : impl_Geo) (p_x201 : List impl_Variable) (p_x202 : impl_Table) (r : Bool) (hr : slices_ContainsFunc_impl_Table_impl_Table_of_impl_CoversPlan_1 p_s p_x200 p_x201 p_x202 = some r) (w0 : World) (m : Mem) (b_p_x200 : Nat) (b_p_x201 : Nat) (b_p_x202 : Nat) (s1 : Sl) (h1 : Rd m s1 p_s) (s2 : Sl) (h2 : Rd m s2 p_x200.Parents) (s3 : Sl) (h3 : Rd m s3 p_x201) (s4 : Sl) (h4 : Rd m s4 p_x202.Vars) (s5 : Sl) (h5 : Rd m s5 p_x202.Where) (X : List Nat) (hS : St X w0 w0 m [[⟨b_p_x200,[s2.v],26⟩],[⟨b_p_x201,[s3.v],27⟩],[⟨b_p_x202,[(iV p_x202.Level),s4.v,s5.v,(iV p_x202.Sum)],29⟩]]) :
  RetX Tryz.prog 55 [s1.v,(.func (.func 59) #[] #[(pP b_p_x200 0),(pP b_p_x201 0),(pP b_p_x202 0)])] w0 (fun v w=>v = (.bool r)∧St X w0 w m [[⟨b_p_x200,[s2.v],26⟩],[⟨b_p_x201,[s3.v],27⟩],[⟨b_p_x202,[(iV p_x202.Level),s4.v,s5.v,(iV p_x202.Sum)],29⟩]]):=by
 unfold slices_ContainsFunc_impl_Table_impl_Table_of_impl_CoversPlan_1 at hr
 refine ret_startX Tryz.func55 rfl 9 rfl rfl fun a hF=>q_sr (q_s hF rfl fun a hF=>q_end (n_sq (q_sr (q_m hF rfl fun a hF=>q_m hF rfl fun a hF=>?_))))
 have hS6 : St _ _ _ _ ([[⟨b_p_x200,[s2.v],26⟩],[⟨b_p_x201,[s3.v],27⟩],[⟨b_p_x202,[(iV p_x202.Level),s4.v,s5.v,(iV p_x202.Sum)],29⟩]]++[]):=hS
 have hE6:=hS6.enter
 obtain ⟨t_7,ht_7,hr⟩:=bindS hr
 refine q_do rfl fun _ hK=>wp_callX (vs:=[s1.v,(.func (.func 59) #[] #[(pP b_p_x200 0),(pP b_p_x201 0),(pP b_p_x202 0)])]) hF Tryz.func98 (by kernel_rfl) rfl rfl rfl (c_slices_IndexFunc_impl_Table_impl_Table_of_impl_CoversPlan_1 p_s p_x200 p_x201 p_x202 t_7 ht_7 _ m b_p_x200 b_p_x201 b_p_x202 s1 h1 s2 h2 s3 h3 s4 h4 s5 h5 _ hE6) fun a w _ hR hF=>hK _ _ ?_
 obtain ⟨rfl,hR6⟩:=hR
 have hS : St _ _ _ _ [[⟨b_p_x200,[s2.v],26⟩],[⟨b_p_x201,[s3.v],27⟩],[⟨b_p_x202,[(iV p_x202.Level),s4.v,s5.v,(iV p_x202.Sum)],29⟩]]:=hS6.leaveF hR6
 refine q_y (v:=(.bool (decide (0 ≤ t_7)))) hF hS (ex_ibin rfl rfl rfl) fun a hF=>q_s hF rfl fun a hF=>q_end (n_sq (q_ret ?_))
 obtain rfl:=someI hr
 exact ret_ofX hF hS rfl (.tmp rfl .nil) ⟨rfl,hS.sel [0,1,2] (by decide)⟩

theorem c_impl_CoversPlan (p_g : impl_Geo) (p_s : List impl_Variable) (p_l : List impl_Table) (p_m : List impl_Table) (r : Bool × Bool) (hr : impl_CoversPlan p_g p_s p_l p_m = some r) (w0 : World) (m : Mem) (hv : Vis m w0) (s1 : Sl) (h1 : Rd m s1 p_g.Parents) (s2 : Sl) (h2 : Rd m s2 p_s) (s3 : Sl) (h3 : Rd m s3 p_l) (s4 : Sl) (h4 : Rd m s4 p_m) :
  Ret Tryz.prog 27 [(.agg #[s1.v]),s2.v,s3.v,s4.v] w0 (fun v _=>v = (.tuple #[(.bool r.1),(.bool r.2)])):=by
 unfold impl_CoversPlan at hr
 refine ret_start Tryz.func27 rfl 35 rfl rfl m hv fun a hF hS=>q_sr (q_box (cs:=[s1.v]) hF hS rfl rfl rfl fun a w b5 hF hS=>q_box (cs:=[s2.v]) hF hS rfl rfl rfl fun a w b6 hF hS=>q_s hF rfl fun a hF=>q_s hF rfl fun a hF=>q_end (n_sq (q_seq (q_seq ?_))))
 obtain ⟨t_9,hj1,hr⟩:=bindS hr
 refine q_join (fun a w=>Fr a 35 [(2,s3.v),(3,s4.v),(4,(pP b5 0)),(5,(pP b6 0)),(23,(.bool t_9))]∧St [] w0 w m [[⟨b6,[s2.v],27⟩],[⟨b5,[s1.v],26⟩]]) ?_ ?_
 ·refine q_region (q_y (v:=(.agg #[s1.v])) hF hS (ex_loadA (vs:=[s1.v]) 1 0 U26 rfl sz26 rfl rfl rfl rfl) fun a hF=>q_y (v:=s2.v) hF hS (ex_load1 0 0 U27 rfl rfl rfl rfl) fun a hF=>q_m hF rfl fun a hF=>?_)
  obtain ⟨t_7,ht_7,hj1⟩:=bindS hj1
  refine q_call (vs:=[(.agg #[s1.v]),s2.v,s3.v]) hF hS Tryz.func49 (by kernel_rfl) rfl rfl rfl (c_impl_isPlan p_g p_s p_l t_7 ht_7 _ m hS.vis s1 h1 s2 h2 s3 h3) ?_
  rintro a w _ rfl hF hS
  refine q_y (v:=(.bool (!t_7))) hF hS (ex_not rfl) fun a hF=>q_m hF rfl fun a hF=>?_
  rcases bcase (!t_7) with hc2 | hc2
  ·have hj1:=cond_f hc2 hj1
   refine q_g (v:=(.agg #[s1.v])) hF hS (ex_loadA (vs:=[s1.v]) 1 0 U26 rfl sz26 rfl rfl rfl rfl) hc2 fun a hF=>q_g (v:=s2.v) hF hS (ex_load1 0 0 U27 rfl rfl rfl rfl) hc2 fun a hF=>q_g (v:=s4.v) hF hS (ex_move rfl) hc2 fun a hF=>?_
   obtain ⟨t_8,ht_8,hj1⟩:=bindS hj1
   refine q_callg (vs:=[(.agg #[s1.v]),s2.v,s4.v]) hF hS (wanted_t hF rfl rfl rfl hc2) Tryz.func49 (by kernel_rfl) rfl rfl rfl (c_impl_isPlan p_g p_s p_m t_8 ht_8 _ m hS.vis s1 h1 s2 h2 s4 h4) ?_
   rintro a w _ rfl hF hS
   refine q_g (v:=(.bool (!t_8))) hF hS (ex_not rfl) hc2 fun a hF=>q_y (v:=(.bool (!t_8))) hF hS (ex_pick_f rfl rfl hc2) fun a hF=>q_end (n_jn ?_)
   obtain rfl:=someI hj1
   exact ⟨hF.sub ⟨rfl,rfl,rfl,rfl,rfl,trivial⟩,hS⟩
  ·have hj1:=cond_t hc2 hj1
   refine q_k hF hc2 fun a hF=>q_k hF hc2 fun a hF=>q_k hF hc2 fun a hF=>q_k hF hc2 fun a hF=>q_k hF hc2 fun a hF=>q_y (v:=(.bool true)) hF hS (ex_pick_t rfl rfl hc2) fun a hF=>q_end (n_jn ?_)
   obtain rfl:=someI hj1
   exact ⟨hF.sub ⟨rfl,rfl,rfl,rfl,rfl,trivial⟩,hS⟩
 ·rintro a w ⟨hF,hS⟩
  refine n_sq ?_
  rcases bcase (t_9) with hc3 | hc3
  ·have hr:=cond_f hc3 hr
   refine q_cond_f hF rfl hc3 (q_skipc (n_sq (q_seq (q_sr (q_m hF rfl fun a hF=>q_y (v:=(iV (goLen p_m))) hF hS (ex_len U44 rfl h4.len) fun a hF=>q_m hF rfl fun a hF=>q_end (n_sq (q_block ?_)))))))
   obtain ⟨o4,hl4,hr⟩:=bindS hr
   refine q_loop (fun (t_10 : Int) a w=>Fr a 35 [(2,s3.v),(4,(pP b5 0)),(5,(pP b6 0)),(24,s4.v),(25,(iV (goLen p_m))),(26,(iV t_10))]∧St [] w0 w m [[⟨b6,[s2.v],27⟩],[⟨b5,[s1.v],26⟩]]) (fun (o : (Unit) ⊕ (Bool × Bool)) e a w=>o = .inl ()∧e = .exit 0∧Fr a 35 []∧St [] w0 w m []) hl4 ⟨hF.sub ⟨rfl,rfl,rfl,rfl,rfl,rfl,trivial⟩,hS⟩ ?_ ?_
   ·clear hF hS
    rintro t_10 a w st ⟨hF,hS⟩ hb4
    unfold impl_CoversPlan_l1 at hb4
    refine q_sr (q_y (v:=(.bool (decide (t_10 < (goLen p_m))))) hF hS (ex_ibin rfl rfl rfl) fun a hF=>q_end (n_sq (q_seq ?_)))
    rcases bcase (decide (t_10 < (goLen p_m))) with hc5 | hc5
    ·have hb4:=cond_f hc5 hb4
     refine q_cond_f hF rfl hc5 (q_exit (x_sq ?_))
     obtain rfl:=someI hb4
     exact ⟨nofun,.inl ⟨rfl,rfl,hF.sub trivial,hS.mask [false,false]⟩⟩
    ·have hb4:=cond_t hc5 hb4
     refine q_cond_t hF rfl hc5 (q_skipc (n_sq (q_seq (q_block (q_seq (q_region ?_))))))
     obtain ⟨e_11,he_11,hb4⟩:=bindS hb4
     obtain ⟨vs12,at12,d12⟩:=h4.at he_11 4 rfl
     obtain ⟨s13,s14,rfl,h13,h14⟩ : ∃ s13 s14 : Sl,vs12 = [(iV e_11.Level),s13.v,s14.v,(iV e_11.Sum)]∧Rd m s13 e_11.Vars∧Rd m s14 e_11.Where:=d12
     refine q_y (v:=(elP s4 (t_10.toNat * 4))) hF hS (ex_indexAddr U44 sz29 rfl rfl (h4.idx he_11)) fun a hF=>q_y (v:=(.agg #[(iV e_11.Level),s13.v,s14.v,(iV e_11.Sum)])) hF hS (ex_loadEA (us:=[(iV e_11.Level),s13.v,s14.v,(iV e_11.Sum)]) 0 U29 rfl sz29 rfl ((at12).at) rfl rfl rfl) fun a hF=>q_alloc (cs:=[(iV 0),nilS.v,nilS.v,(iV 0)]) hF hS rfl rfl rfl fun a w b15 hF hS=>q_store (vs:=[(iV e_11.Level),s13.v,s14.v,(iV e_11.Sum)]) (cs':=[(iV e_11.Level),s13.v,s14.v,(iV e_11.Sum)]) 0 0 hF hS sz29 rfl rfl rfl rfl rfl rfl rfl rfl fun a w hF hS=>q_end (n_sq (q_sr (q_m hF rfl fun a hF=>q_y (v:=(.func (.func 59) #[] #[(pP b5 0),(pP b6 0),(pP b15 0)])) hF hS (ex_makeFunc rfl) fun a hF=>?_)))
     have hS : St _ _ _ _ [[⟨b5,[s1.v],26⟩],[⟨b6,[s2.v],27⟩],[⟨b15,[(iV e_11.Level),s13.v,s14.v,(iV e_11.Sum)],29⟩]]:=hS.sel [2,1,0] (by decide)
     have hS16 : St _ _ _ _ ([[⟨b5,[s1.v],26⟩],[⟨b6,[s2.v],27⟩],[⟨b15,[(iV e_11.Level),s13.v,s14.v,(iV e_11.Sum)],29⟩]]++[]):=hS
     have hE16:=hS16.enter
     obtain ⟨t_17,ht_17,hb4⟩:=bindS hb4
     refine q_do rfl fun _ hK=>wp_callX (vs:=[s3.v,(.func (.func 59) #[] #[(pP b5 0),(pP b6 0),(pP b15 0)])]) hF Tryz.func55 (by kernel_rfl) rfl rfl rfl (c_slices_ContainsFunc_impl_Table_impl_Table_of_impl_CoversPlan_1 p_l p_g p_s e_11 t_17 ht_17 _ m b5 b6 b15 s3 h3 s1 h1 s2 h2 s13 h13 s14 h14 _ hE16) fun a w _ hR hF=>hK _ _ ?_
     obtain ⟨rfl,hR16⟩:=hR
     have hS : St _ _ _ _ [[⟨b5,[s1.v],26⟩],[⟨b6,[s2.v],27⟩],[⟨b15,[(iV e_11.Level),s13.v,s14.v,(iV e_11.Sum)],29⟩]]:=hS16.leaveF hR16
     refine q_y (v:=(.bool (!t_17))) hF hS (ex_not rfl) fun a hF=>q_end (n_sq ?_)
     rcases bcase (!t_17) with hc6 | hc6
     ·have hb4:=cond_f hc6 hb4
      refine q_cond_f hF rfl hc6 (q_skipc (n_ib (n_sq (q_region (q_y (v:=(iV (w64 (t_10 + 1)))) hF hS (ex_ibin rfl rfl rfl) fun a hF=>q_m hF rfl fun a hF=>q_end ?_)))))
      obtain rfl:=someI hb4
      exact ⟨rfl,hF.sub ⟨rfl,rfl,rfl,rfl,rfl,rfl,trivial⟩,hS.sel [1,0] (by decide)⟩
     ·have hb4:=cond_t hc6 hb4
      refine q_cond_t hF rfl hc6 (q_sr (q_s hF rfl fun a hF=>q_s hF rfl fun a hF=>q_end (n_sq (q_ret (r_ib (r_sq ?_))))))
      obtain rfl:=someI hb4
      refine ⟨nofun,.inr fun ho=>?_⟩
      subst ho
      refine r_ib (r_sq ?_)
      obtain rfl:=someI hr
      exact ret_of hF hS rfl (.tmp rfl (.tmp rfl .nil)) rfl
   ·rintro e a w ⟨rfl,rfl,hF,hS⟩
    refine x_ib (n_sq ?_)
    refine q_sr (q_s hF rfl fun a hF=>q_s hF rfl fun a hF=>q_end (n_sq (q_ret ?_)))
    obtain rfl:=someI hr
    exact ret_of hF hS rfl (.tmp rfl (.tmp rfl .nil)) rfl
  ·have hr:=cond_t hc3 hr
   refine q_cond_t hF rfl hc3 (q_sr (q_s hF rfl fun a hF=>q_s hF rfl fun a hF=>q_end (n_sq (q_ret (r_sq ?_)))))
   obtain rfl:=someI hr
   exact ret_of hF hS rfl (.tmp rfl (.tmp rfl .nil)) rfl

theorem c_laws_FnPlans (p_code : List (K .u8)) (p_more : List (K .u8)) (r : Bool) (hr : laws_FnPlans p_code p_more = some r) (w0 : World) (m : Mem) (hv : Vis m w0) (ht : Tbl m) (s1 : Sl) (h1 : Rd m s1 p_code) (s2 : Sl) (h2 : Rd m s2 p_more) :
  Ret Tryz.prog 4 [s1.v,s2.v] w0 (fun v _=>v = (.bool r)):=by
 unfold laws_FnPlans at hr
 refine ret_start Tryz.func4 rfl 183 rfl rfl m hv fun a hF hS=>q_sr (q_s hF rfl fun a hF=>q_end (n_sq (q_seq (q_sr (q_m hF rfl fun a hF=>q_m hF rfl fun a hF=>?_)))))
 obtain ⟨t_3,ht_3,hr⟩:=bindS hr
 refine q_call (vs:=[s1.v,s2.v]) hF hS Tryz.func5 (by kernel_rfl) rfl rfl rfl (c_laws_big p_code p_more t_3 ht_3 _ m hS.vis s1 h1 s2 h2) ?_
 rintro a w _ rfl hF hS
 refine q_end (n_sq ?_)
 rcases bcase (t_3) with hc1 | hc1
 ·have hr:=cond_f hc1 hr
  refine q_cond_f hF rfl hc1 (q_skipc (n_sq (q_sr (q_m hF rfl fun a hF=>?_))))
  obtain ⟨t_4,ht_4,hr⟩:=bindS hr
  refine q_call (vs:=[s1.v]) hF hS Tryz.func17 (by kernel_rfl) rfl rfl rfl (c_spec_DrawPlanText p_code t_4 ht_4 _ m hS.vis s1 h1) ?_
  have hT:=hS
  rintro a w _ ⟨m5,q8,s6,s7,s8,rfl,hm5,hR5,h6,h7,h8⟩ hF hS2
  have hS : St _ _ _ _ [q8]:=hS.join hR5 hm5
  have hm5:=MLe.weakX (O0:=[]) hT hm5
  refine q_m hF rfl fun a hF=>q_y (v:=(.agg #[s6.v])) hF hS (ex_extract rfl rfl) fun a hF=>q_y (v:=s7.v) hF hS (ex_extract rfl rfl) fun a hF=>q_y (v:=s8.v) hF hS (ex_extract rfl rfl) fun a hF=>q_alloc (cs:=[nilS.v]) hF hS rfl rfl rfl fun a w b9 hF hS=>q_store (vs:=[s6.v]) (cs':=[s6.v]) 0 0 hF hS sz26 rfl rfl rfl rfl rfl rfl rfl rfl fun a w hF hS=>q_s hF rfl fun a hF=>q_s hF rfl fun a hF=>q_end (n_sq (q_sr (q_y (v:=(.agg #[s6.v])) hF hS (ex_loadA (vs:=[s6.v]) 0 0 U26 rfl sz26 rfl rfl rfl rfl) fun a hF=>q_m hF rfl fun a hF=>q_m hF rfl fun a hF=>?_)))
  obtain ⟨m11,hl11,hv11,hz11⟩:=hS.lend
  obtain ⟨t_10,ht_10,hr⟩:=bindS hr
  refine q_call (vs:=[(.agg #[s6.v]),s7.v,s8.v]) hF hS Tryz.func18 (by kernel_rfl) rfl rfl rfl (c_impl_PlanText t_4.1 t_4.2.1 t_4.2.2 t_10 ht_10 _ m11 hv11 ((ht.mono hm5.le).mono hl11) s6 (h6.mono hl11) s7 (h7.mono hl11) s8 (h8.froz hl11 (hz11 1 _ rfl))) ?_
  rintro a w _ rfl hF hS
  refine q_m hF rfl fun a hF=>q_y (v:=(strV t_10.1)) hF hS (ex_extract rfl rfl) fun a hF=>q_y (v:=(.bool t_10.2)) hF hS (ex_extract rfl rfl) fun a hF=>q_s hF rfl fun a hF=>q_s hF rfl fun a hF=>q_end (n_sq (q_sr (q_y (v:=(.agg #[s6.v])) hF hS (ex_loadA (vs:=[s6.v]) 0 0 U26 rfl sz26 rfl rfl rfl rfl) fun a hF=>q_m hF rfl fun a hF=>q_m hF rfl fun a hF=>?_)))
  obtain ⟨m13,hl13,hv13,hz13⟩:=hS.lend
  obtain ⟨t_12,ht_12,hr⟩:=bindS hr
  refine q_call (vs:=[(.agg #[s6.v]),s7.v,s8.v]) hF hS Tryz.func19 (by kernel_rfl) rfl rfl rfl (c_spec_PlanText t_4.1 t_4.2.1 t_4.2.2 t_12 ht_12 _ m13 hv13 s6 (h6.mono hl13) s7 (h7.mono hl13) s8 (h8.froz hl13 (hz13 1 _ rfl))) ?_
  rintro a w _ rfl hF hS
  refine q_m hF rfl fun a hF=>q_y (v:=(strV t_12.1)) hF hS (ex_extract rfl rfl) fun a hF=>q_y (v:=(.bool t_12.2)) hF hS (ex_extract rfl rfl) fun a hF=>q_s hF rfl fun a hF=>q_s hF rfl fun a hF=>q_end (n_sq (q_seq (q_seq ?_)))
  obtain ⟨t_14,hj2,hr⟩:=bindS hr
  refine q_join (fun a w=>Fr a 183 [(1,s2.v),(5,(pP b9 0)),(6,s7.v),(7,s8.v),(8,(strV t_10.1)),(9,(.bool t_10.2)),(66,(.bool t_14))]∧St [] w0 w m5 [q8,[⟨b9,[s6.v],26⟩]]) ?_ ?_
  ·refine q_region (q_m hF rfl fun a hF=>q_m hF rfl fun a hF=>q_y (v:=(.bool (t_10.2 != t_12.2))) hF hS (ex_bne U4 rfl rfl) fun a hF=>q_m hF rfl fun a hF=>?_)
   rcases bcase (t_10.2 != t_12.2) with hc3 | hc3
   ·have hj2:=cond_f hc3 hj2
    refine q_g (v:=(strV t_10.1)) hF hS (ex_move rfl) hc3 fun a hF=>q_g (v:=(strV t_12.1)) hF hS (ex_move rfl) hc3 fun a hF=>q_g (v:=(.bool (t_10.1 != t_12.1))) hF hS (ex_strNe rfl rfl) hc3 fun a hF=>q_y (v:=(.bool (t_10.1 != t_12.1))) hF hS (ex_pick_f rfl rfl hc3) fun a hF=>q_end (n_jn ?_)
    obtain rfl:=someI hj2
    exact ⟨hF.sub ⟨rfl,rfl,rfl,rfl,rfl,rfl,rfl,trivial⟩,hS.sel [1,0] (by decide)⟩
   ·have hj2:=cond_t hc3 hj2
    refine q_k hF hc3 fun a hF=>q_k hF hc3 fun a hF=>q_k hF hc3 fun a hF=>q_y (v:=(.bool true)) hF hS (ex_pick_t rfl rfl hc3) fun a hF=>q_end (n_jn ?_)
    obtain rfl:=someI hj2
    exact ⟨hF.sub ⟨rfl,rfl,rfl,rfl,rfl,rfl,rfl,trivial⟩,hS.sel [1,0] (by decide)⟩
  ·rintro a w ⟨hF,hS⟩
   refine n_sq ?_
   rcases bcase (t_14) with hc4 | hc4
   ·have hr:=cond_f hc4 hr
    refine q_cond_f hF rfl hc4 (q_skipc (n_sq (q_seq (q_sr (q_m hF rfl fun a hF=>q_end (n_sq ?_))))))
    obtain ⟨j5,hj5,hr⟩:=bindS hr
    refine q_join (fun a w=>∃ (m21 : Mem),j5 = .inl ()∧Fr a 183 [(1,s2.v)]∧St [] w0 w m21 []∧MLe [] w0.heap.size m5 m21) ?_ ?_
    ·rcases bcase (t_10.2) with hc6 | hc6
     ·have hj5:=cond_f hc6 hj5
      refine q_cond_f hF rfl hc6 (q_skipc (n_jn ?_))
      obtain rfl:=someI hj5
      exact ⟨m5,rfl,hF.sub ⟨rfl,trivial⟩,hS.mask [false,false],(MLe.refl _ _)⟩
     ·have hj5:=cond_t hc6 hj5
      refine q_cond_t hF rfl hc6 (q_sr (q_y (v:=(.agg #[s6.v])) hF hS (ex_loadA (vs:=[s6.v]) 1 0 U26 rfl sz26 rfl rfl rfl rfl) fun a hF=>q_m hF rfl fun a hF=>q_m hF rfl fun a hF=>?_))
      obtain ⟨t_15,ht_15,hj5⟩:=bindS hj5
      refine q_call (vs:=[(.agg #[s6.v]),s7.v,(strV t_10.1)]) hF hS Tryz.func20 (by kernel_rfl) rfl rfl rfl (c_impl_ParsePlan t_4.1 t_4.2.1 t_10.1 t_15 ht_15 _ m5 hS.vis (ht.mono hm5.le) s6 h6 s7 h7) ?_
      have hT:=hS
      rintro a w _ ⟨m16,q17,s17,rfl,hm16,hR16,h17⟩ hF hS2
      have hS : St _ _ _ _ [q17,q8,[⟨b9,[s6.v],26⟩]]:=hS.join hR16 hm16
      have hm16:=MLe.weakX (O0:=[]) hT hm16
      refine q_m hF rfl fun a hF=>q_y (v:=s17.v) hF hS (ex_extract rfl rfl) fun a hF=>q_y (v:=(iV t_15.2.1)) hF hS (ex_extract rfl rfl) fun a hF=>q_y (v:=(.bool t_15.2.2)) hF hS (ex_extract rfl rfl) fun a hF=>q_s hF rfl fun a hF=>q_s hF rfl fun a hF=>q_s hF rfl fun a hF=>q_end (n_sq (q_seq ?_))
      obtain ⟨t_20,hj7,hj5⟩:=bindS hj5
      refine q_join (fun a w=>Fr a 183 [(1,s2.v),(87,(.bool t_20))]∧St [] w0 w m16 []) ?_ ?_
      ·refine q_region (q_m hF rfl fun a hF=>q_y (v:=(.bool (!t_15.2.2))) hF hS (ex_not rfl) fun a hF=>q_m hF rfl fun a hF=>?_)
       rcases bcase (!t_15.2.2) with hc8 | hc8
       ·have hj7:=cond_f hc8 hj7
        refine q_g (v:=(iV t_15.2.1)) hF hS (ex_move rfl) hc8 fun a hF=>q_g (v:=(.bool (t_15.2.1 != 0))) hF hS (ex_ibin rfl rfl rfl) hc8 fun a hF=>q_y (v:=(.bool (t_15.2.1 != 0))) hF hS (ex_pick_f rfl rfl hc8) fun a hF=>q_m hF rfl fun a hF=>?_
        rcases bcase (t_15.2.1 != 0) with hc9 | hc9
        ·have hj7:=cond_f hc9 hj7
         refine q_g (v:=s17.v) hF hS (ex_move rfl) hc9 fun a hF=>q_g (v:=s8.v) hF hS (ex_move rfl) hc9 fun a hF=>?_
         obtain ⟨m19,hl19,hv19,hz19⟩:=hS.lend
         obtain ⟨t_18,ht_18,hj7⟩:=bindS hj7
         refine q_callg (vs:=[s17.v,s8.v]) hF hS (wanted_t hF rfl rfl rfl hc9) Tryz.func21 (by kernel_rfl) rfl rfl rfl (c_laws_pSameTables t_15.1 t_4.2.2 t_18 ht_18 _ m19 hv19 s17 (h17.froz hl19 (hz19 0 _ rfl)) s8 ((h8.mono hm16.le).froz hl19 (hz19 1 _ rfl))) ?_
         rintro a w _ rfl hF hS
         refine q_g (v:=(.bool (!t_18))) hF hS (ex_not rfl) hc9 fun a hF=>q_y (v:=(.bool (!t_18))) hF hS (ex_pick_f rfl rfl hc9) fun a hF=>q_end (n_jn ?_)
         obtain rfl:=someI hj7
         exact ⟨hF.sub ⟨rfl,rfl,trivial⟩,hS.mask [false,false,false]⟩
        ·have hj7:=cond_t hc9 hj7
         refine q_k hF hc9 fun a hF=>q_k hF hc9 fun a hF=>q_k hF hc9 fun a hF=>q_k hF hc9 fun a hF=>q_y (v:=(.bool true)) hF hS (ex_pick_t rfl rfl hc9) fun a hF=>q_end (n_jn ?_)
         obtain rfl:=someI hj7
         exact ⟨hF.sub ⟨rfl,rfl,trivial⟩,hS.mask [false,false,false]⟩
       ·have hj7:=cond_t hc8 hj7
        refine q_k hF hc8 fun a hF=>q_k hF hc8 fun a hF=>q_y (v:=(.bool true)) hF hS (ex_pick_t rfl rfl hc8) fun a hF=>q_m hF rfl fun a hF=>q_k hF rfl fun a hF=>q_k hF rfl fun a hF=>q_k hF rfl fun a hF=>q_k hF rfl fun a hF=>q_y (v:=(.bool true)) hF hS (ex_pick_t rfl rfl rfl) fun a hF=>q_end (n_jn ?_)
        obtain rfl:=someI hj7
        exact ⟨hF.sub ⟨rfl,rfl,trivial⟩,hS.mask [false,false,false]⟩
      ·rintro a w ⟨hF,hS⟩
       refine n_sq ?_
       rcases bcase (t_20) with hc10 | hc10
       ·have hj5:=cond_f hc10 hj5
        refine q_cond_f hF rfl hc10 (q_skipc (n_jn ?_))
        obtain rfl:=someI hj5
        exact ⟨m16,rfl,hF.sub ⟨rfl,trivial⟩,hS,hm16⟩
       ·have hj5:=cond_t hc10 hj5
        refine q_cond_t hF rfl hc10 (q_sr (q_s hF rfl fun a hF=>q_end (n_sq (q_ret (r_jn ?_)))))
        obtain rfl:=someI hj5
        refine r_sq ?_
        obtain rfl:=someI hr
        exact ret_of hF hS rfl (.tmp rfl .nil) rfl
    ·rintro a w ⟨m21,rfl,hF,hS,hm21⟩
     refine n_sq ?_
     refine q_sr (q_m hF rfl fun a hF=>?_)
     obtain ⟨t_22,ht_22,hr⟩:=bindS hr
     refine q_call (vs:=[s2.v]) hF hS Tryz.func22 (by kernel_rfl) rfl rfl rfl (c_spec_DrawParsePlan p_more t_22 ht_22 _ m21 hS.vis s2 ((h2.mono hm5.le).mono hm21.le)) ?_
     have hT:=hS
     rintro a w _ ⟨m23,s24,s25,rfl,hm23,hR23,h24,h25⟩ hF hS2
     have hS : St _ _ _ _ []:=hS.join hR23 hm23
     have hm23:=MLe.weakX (O0:=[]) hT hm23
     refine q_m hF rfl fun a hF=>q_y (v:=(.agg #[s24.v])) hF hS (ex_extract rfl rfl) fun a hF=>q_y (v:=s25.v) hF hS (ex_extract rfl rfl) fun a hF=>q_y (v:=(strV t_22.2.2)) hF hS (ex_extract rfl rfl) fun a hF=>q_alloc (cs:=[nilS.v]) hF hS rfl rfl rfl fun a w b26 hF hS=>q_store (vs:=[s24.v]) (cs':=[s24.v]) 0 0 hF hS sz26 rfl rfl rfl rfl rfl rfl rfl rfl fun a w hF hS=>q_s hF rfl fun a hF=>q_s hF rfl fun a hF=>q_end (n_sq (q_sr (q_y (v:=(.agg #[s24.v])) hF hS (ex_loadA (vs:=[s24.v]) 0 0 U26 rfl sz26 rfl rfl rfl rfl) fun a hF=>q_m hF rfl fun a hF=>q_m hF rfl fun a hF=>?_)))
     obtain ⟨t_27,ht_27,hr⟩:=bindS hr
     refine q_call (vs:=[(.agg #[s24.v]),s25.v,(strV t_22.2.2)]) hF hS Tryz.func20 (by kernel_rfl) rfl rfl rfl (c_impl_ParsePlan t_22.1 t_22.2.1 t_22.2.2 t_27 ht_27 _ m23 hS.vis (((ht.mono hm5.le).mono hm21.le).mono hm23.le) s24 h24 s25 h25) ?_
     have hT:=hS
     rintro a w _ ⟨m28,q29,s29,rfl,hm28,hR28,h29⟩ hF hS2
     have hS : St _ _ _ _ [q29,[⟨b26,[s24.v],26⟩]]:=hS.join hR28 hm28
     have hm28:=MLe.weakX (O0:=[]) hT hm28
     refine q_m hF rfl fun a hF=>q_y (v:=s29.v) hF hS (ex_extract rfl rfl) fun a hF=>q_y (v:=(iV t_27.2.1)) hF hS (ex_extract rfl rfl) fun a hF=>q_y (v:=(.bool t_27.2.2)) hF hS (ex_extract rfl rfl) fun a hF=>q_s hF rfl fun a hF=>q_s hF rfl fun a hF=>q_s hF rfl fun a hF=>q_end (n_sq (q_sr (q_y (v:=(.agg #[s24.v])) hF hS (ex_loadA (vs:=[s24.v]) 1 0 U26 rfl sz26 rfl rfl rfl rfl) fun a hF=>q_m hF rfl fun a hF=>q_m hF rfl fun a hF=>?_)))
     obtain ⟨t_30,ht_30,hr⟩:=bindS hr
     refine q_call (vs:=[(.agg #[s24.v]),s25.v,(strV t_22.2.2)]) hF hS Tryz.func23 (by kernel_rfl) rfl rfl rfl (c_spec_ParsePlan t_22.1 t_22.2.1 t_22.2.2 t_30 ht_30 _ m28 hS.vis s24 (h24.mono hm28.le) s25 (h25.mono hm28.le)) ?_
     have hT:=hS
     rintro a w _ ⟨m31,q32,s32,rfl,hm31,hR31,h32⟩ hF hS2
     have hS : St _ _ _ _ [q32,q29,[⟨b26,[s24.v],26⟩]]:=hS.join hR31 hm31
     have hm31:=MLe.weakX (O0:=[]) hT hm31
     refine q_m hF rfl fun a hF=>q_y (v:=s32.v) hF hS (ex_extract rfl rfl) fun a hF=>q_y (v:=(iV t_30.2.1)) hF hS (ex_extract rfl rfl) fun a hF=>q_y (v:=(.bool t_30.2.2)) hF hS (ex_extract rfl rfl) fun a hF=>q_s hF rfl fun a hF=>q_s hF rfl fun a hF=>q_s hF rfl fun a hF=>q_end (n_sq (q_seq (q_seq ?_)))
     obtain ⟨t_35,hj11,hr⟩:=bindS hr
     refine q_join (fun a w=>Fr a 183 [(1,s2.v),(123,(.bool t_35))]∧St [] w0 w m31 []) ?_ ?_
     ·refine q_region (q_m hF rfl fun a hF=>q_m hF rfl fun a hF=>q_y (v:=(.bool (t_27.2.2 != t_30.2.2))) hF hS (ex_bne U4 rfl rfl) fun a hF=>q_m hF rfl fun a hF=>?_)
      rcases bcase (t_27.2.2 != t_30.2.2) with hc12 | hc12
      ·have hj11:=cond_f hc12 hj11
       refine q_g (v:=(iV t_27.2.1)) hF hS (ex_move rfl) hc12 fun a hF=>q_g (v:=(iV t_30.2.1)) hF hS (ex_move rfl) hc12 fun a hF=>q_g (v:=(.bool (t_27.2.1 != t_30.2.1))) hF hS (ex_ibin rfl rfl rfl) hc12 fun a hF=>q_y (v:=(.bool (t_27.2.1 != t_30.2.1))) hF hS (ex_pick_f rfl rfl hc12) fun a hF=>q_m hF rfl fun a hF=>?_
       rcases bcase (t_27.2.1 != t_30.2.1) with hc13 | hc13
       ·have hj11:=cond_f hc13 hj11
        refine q_g (v:=s29.v) hF hS (ex_move rfl) hc13 fun a hF=>q_g (v:=s32.v) hF hS (ex_move rfl) hc13 fun a hF=>?_
        obtain ⟨m34,hl34,hv34,hz34⟩:=hS.lend
        obtain ⟨t_33,ht_33,hj11⟩:=bindS hj11
        refine q_callg (vs:=[s29.v,s32.v]) hF hS (wanted_t hF rfl rfl rfl hc13) Tryz.func21 (by kernel_rfl) rfl rfl rfl (c_laws_pSameTables t_27.1 t_30.1 t_33 ht_33 _ m34 hv34 s29 ((h29.mono hm31.le).froz hl34 (hz34 1 _ rfl)) s32 (h32.froz hl34 (hz34 0 _ rfl))) ?_
        rintro a w _ rfl hF hS
        refine q_g (v:=(.bool (!t_33))) hF hS (ex_not rfl) hc13 fun a hF=>q_y (v:=(.bool (!t_33))) hF hS (ex_pick_f rfl rfl hc13) fun a hF=>q_end (n_jn ?_)
        obtain rfl:=someI hj11
        exact ⟨hF.sub ⟨rfl,rfl,trivial⟩,hS.mask [false,false,false]⟩
       ·have hj11:=cond_t hc13 hj11
        refine q_k hF hc13 fun a hF=>q_k hF hc13 fun a hF=>q_k hF hc13 fun a hF=>q_k hF hc13 fun a hF=>q_y (v:=(.bool true)) hF hS (ex_pick_t rfl rfl hc13) fun a hF=>q_end (n_jn ?_)
        obtain rfl:=someI hj11
        exact ⟨hF.sub ⟨rfl,rfl,trivial⟩,hS.mask [false,false,false]⟩
      ·have hj11:=cond_t hc12 hj11
       refine q_k hF hc12 fun a hF=>q_k hF hc12 fun a hF=>q_k hF hc12 fun a hF=>q_y (v:=(.bool true)) hF hS (ex_pick_t rfl rfl hc12) fun a hF=>q_m hF rfl fun a hF=>q_k hF rfl fun a hF=>q_k hF rfl fun a hF=>q_k hF rfl fun a hF=>q_k hF rfl fun a hF=>q_y (v:=(.bool true)) hF hS (ex_pick_t rfl rfl rfl) fun a hF=>q_end (n_jn ?_)
       obtain rfl:=someI hj11
       exact ⟨hF.sub ⟨rfl,rfl,trivial⟩,hS.mask [false,false,false]⟩
     ·rintro a w ⟨hF,hS⟩
      refine n_sq ?_
      rcases bcase (t_35) with hc14 | hc14
      ·have hr:=cond_f hc14 hr
       refine q_cond_f hF rfl hc14 (q_skipc (n_sq (q_sr (q_m hF rfl fun a hF=>?_))))
       obtain ⟨t_36,ht_36,hr⟩:=bindS hr
       refine q_call (vs:=[s2.v]) hF hS Tryz.func24 (by kernel_rfl) rfl rfl rfl (c_spec_DrawMergePlans p_more t_36 ht_36 _ m31 hS.vis s2 (((((h2.mono hm5.le).mono hm21.le).mono hm23.le).mono hm28.le).mono hm31.le)) ?_
       have hT:=hS
       rintro a w _ ⟨m37,q40,q41,s38,s39,s40,s41,rfl,hm37,hR37,h38,h39,h40,h41⟩ hF hS2
       have hS : St _ _ _ _ [q40,q41]:=hS.join hR37 hm37
       have hm37:=MLe.weakX (O0:=[]) hT hm37
       refine q_m hF rfl fun a hF=>q_y (v:=(.agg #[s38.v])) hF hS (ex_extract rfl rfl) fun a hF=>q_y (v:=s39.v) hF hS (ex_extract rfl rfl) fun a hF=>q_y (v:=s40.v) hF hS (ex_extract rfl rfl) fun a hF=>q_y (v:=s41.v) hF hS (ex_extract rfl rfl) fun a hF=>q_alloc (cs:=[nilS.v]) hF hS rfl rfl rfl fun a w b42 hF hS=>q_store (vs:=[s38.v]) (cs':=[s38.v]) 0 0 hF hS sz26 rfl rfl rfl rfl rfl rfl rfl rfl fun a w hF hS=>q_s hF rfl fun a hF=>q_s hF rfl fun a hF=>q_s hF rfl fun a hF=>q_end (n_sq (q_sr (q_y (v:=(.agg #[s38.v])) hF hS (ex_loadA (vs:=[s38.v]) 0 0 U26 rfl sz26 rfl rfl rfl rfl) fun a hF=>q_m hF rfl fun a hF=>q_m hF rfl fun a hF=>q_m hF rfl fun a hF=>?_)))
       have hS : St _ _ _ _ [q40,[⟨b42,[s38.v],26⟩],q41]:=hS.sel [1,0,2] (by decide)
       obtain ⟨m43,hm43,hS,hz43⟩:=hS.freeze
       have h43:=h40.froz hm43.le hz43
       have hS : St _ _ _ _ [q41,[⟨b42,[s38.v],26⟩]]:=hS.sel [1,0] (by decide)
       obtain ⟨m44,hm44,hS,hz44⟩:=hS.freeze
       have h44:=(h41.mono hm43.le).froz hm44.le hz44
       obtain ⟨t_45,ht_45,hr⟩:=bindS hr
       refine q_call (vs:=[(.agg #[s38.v]),s39.v,s40.v,s41.v]) hF hS Tryz.func25 (by kernel_rfl) rfl rfl rfl (c_impl_MergePlans t_36.1 t_36.2.1 t_36.2.2.1 t_36.2.2.2 t_45 ht_45 _ m44 hS.vis s38 ((h38.mono hm43.le).mono hm44.le) s39 ((h39.mono hm43.le).mono hm44.le) s40 (h43.mono hm44.le) s41 h44) ?_
       have hT:=hS
       rintro a w _ ⟨m46,q47,s47,rfl,hm46,hR46,h47⟩ hF hS2
       have hS : St _ _ _ _ [q47,[⟨b42,[s38.v],26⟩]]:=hS.join hR46 hm46
       have hm46:=MLe.weakX (O0:=[]) hT hm46
       refine q_m hF rfl fun a hF=>q_y (v:=s47.v) hF hS (ex_extract rfl rfl) fun a hF=>q_y (v:=(.bool t_45.2)) hF hS (ex_extract rfl rfl) fun a hF=>q_s hF rfl fun a hF=>q_s hF rfl fun a hF=>q_end (n_sq (q_sr (q_y (v:=(.agg #[s38.v])) hF hS (ex_loadA (vs:=[s38.v]) 1 0 U26 rfl sz26 rfl rfl rfl rfl) fun a hF=>q_m hF rfl fun a hF=>q_m hF rfl fun a hF=>q_m hF rfl fun a hF=>?_)))
       obtain ⟨t_48,ht_48,hr⟩:=bindS hr
       refine q_call (vs:=[(.agg #[s38.v]),s39.v,s40.v,s41.v]) hF hS Tryz.func26 (by kernel_rfl) rfl rfl rfl (c_spec_MergePlans t_36.1 t_36.2.1 t_36.2.2.1 t_36.2.2.2 t_48 ht_48 _ m46 hS.vis s38 (((h38.mono hm43.le).mono hm44.le).mono hm46.le) s39 (((h39.mono hm43.le).mono hm44.le).mono hm46.le) s40 ((h43.mono hm44.le).mono hm46.le) s41 (h44.mono hm46.le)) ?_
       have hT:=hS
       rintro a w _ ⟨m49,q50,s50,rfl,hm49,hR49,h50⟩ hF hS2
       have hS : St _ _ _ _ [q50,q47,[⟨b42,[s38.v],26⟩]]:=hS.join hR49 hm49
       have hm49:=MLe.weakX (O0:=[]) hT hm49
       refine q_m hF rfl fun a hF=>q_y (v:=s50.v) hF hS (ex_extract rfl rfl) fun a hF=>q_y (v:=(.bool t_48.2)) hF hS (ex_extract rfl rfl) fun a hF=>q_s hF rfl fun a hF=>q_s hF rfl fun a hF=>q_end (n_sq (q_seq (q_seq ?_)))
       obtain ⟨t_53,hj15,hr⟩:=bindS hr
       refine q_join (fun a w=>Fr a 183 [(24,(pP b42 0)),(25,s39.v),(26,s40.v),(27,s41.v),(28,s47.v),(29,(.bool t_45.2)),(155,(.bool t_53))]∧St [] w0 w m49 [q47,[⟨b42,[s38.v],26⟩]]) ?_ ?_
       ·refine q_region (q_m hF rfl fun a hF=>q_m hF rfl fun a hF=>q_y (v:=(.bool (t_45.2 != t_48.2))) hF hS (ex_bne U4 rfl rfl) fun a hF=>q_m hF rfl fun a hF=>?_)
        rcases bcase (t_45.2 != t_48.2) with hc16 | hc16
        ·have hj15:=cond_f hc16 hj15
         refine q_g (v:=s47.v) hF hS (ex_move rfl) hc16 fun a hF=>q_g (v:=s50.v) hF hS (ex_move rfl) hc16 fun a hF=>?_
         obtain ⟨m52,hl52,hv52,hz52⟩:=hS.lend
         obtain ⟨t_51,ht_51,hj15⟩:=bindS hj15
         refine q_callg (vs:=[s47.v,s50.v]) hF hS (wanted_t hF rfl rfl rfl hc16) Tryz.func21 (by kernel_rfl) rfl rfl rfl (c_laws_pSameTables t_45.1 t_48.1 t_51 ht_51 _ m52 hv52 s47 ((h47.mono hm49.le).froz hl52 (hz52 1 _ rfl)) s50 (h50.froz hl52 (hz52 0 _ rfl))) ?_
         rintro a w _ rfl hF hS
         refine q_g (v:=(.bool (!t_51))) hF hS (ex_not rfl) hc16 fun a hF=>q_y (v:=(.bool (!t_51))) hF hS (ex_pick_f rfl rfl hc16) fun a hF=>q_end (n_jn ?_)
         obtain rfl:=someI hj15
         exact ⟨hF.sub ⟨rfl,rfl,rfl,rfl,rfl,rfl,rfl,trivial⟩,hS.mask [false,true,true]⟩
        ·have hj15:=cond_t hc16 hj15
         refine q_k hF hc16 fun a hF=>q_k hF hc16 fun a hF=>q_k hF hc16 fun a hF=>q_k hF hc16 fun a hF=>q_y (v:=(.bool true)) hF hS (ex_pick_t rfl rfl hc16) fun a hF=>q_end (n_jn ?_)
         obtain rfl:=someI hj15
         exact ⟨hF.sub ⟨rfl,rfl,rfl,rfl,rfl,rfl,rfl,trivial⟩,hS.mask [false,true,true]⟩
       ·rintro a w ⟨hF,hS⟩
        refine n_sq ?_
        rcases bcase (t_53) with hc17 | hc17
        ·have hr:=cond_f hc17 hr
         refine q_cond_f hF rfl hc17 (q_skipc (n_sq (q_seq (q_sr (q_m hF rfl fun a hF=>q_end (n_sq ?_))))))
         rcases bcase (t_45.2) with hc18 | hc18
         ·have hr:=cond_f hc18 hr
          refine q_cond_f hF rfl hc18 (q_skipc (n_sq (q_sr (q_s hF rfl fun a hF=>q_end (n_sq (q_ret ?_))))))
          obtain rfl:=someI hr
          exact ret_of hF hS rfl (.tmp rfl .nil) rfl
         ·have hr:=cond_t hc18 hr
          refine q_cond_t hF rfl hc18 (q_sr (q_y (v:=(.agg #[s38.v])) hF hS (ex_loadA (vs:=[s38.v]) 1 0 U26 rfl sz26 rfl rfl rfl rfl) fun a hF=>q_m hF rfl fun a hF=>q_m hF rfl fun a hF=>q_m hF rfl fun a hF=>?_))
          obtain ⟨m55,hl55,hv55,hz55⟩:=hS.lend
          obtain ⟨t_54,ht_54,hr⟩:=bindS hr
          refine q_call (vs:=[(.agg #[s38.v]),s39.v,s47.v,s40.v]) hF hS Tryz.func27 (by kernel_rfl) rfl rfl rfl (c_impl_CoversPlan t_36.1 t_36.2.1 t_45.1 t_36.2.2.1 t_54 ht_54 _ m55 hv55 s38 (((((h38.mono hm43.le).mono hm44.le).mono hm46.le).mono hm49.le).mono hl55) s39 (((((h39.mono hm43.le).mono hm44.le).mono hm46.le).mono hm49.le).mono hl55) s47 ((h47.mono hm49.le).froz hl55 (hz55 0 _ rfl)) s40 ((((h43.mono hm44.le).mono hm46.le).mono hm49.le).mono hl55)) ?_
          rintro a w _ rfl hF hS
          refine q_m hF rfl fun a hF=>q_y (v:=(.bool t_54.1)) hF hS (ex_extract rfl rfl) fun a hF=>q_y (v:=(.bool t_54.2)) hF hS (ex_extract rfl rfl) fun a hF=>q_s hF rfl fun a hF=>q_s hF rfl fun a hF=>q_end (n_sq (q_sr (q_y (v:=(.agg #[s38.v])) hF hS (ex_loadA (vs:=[s38.v]) 1 0 U26 rfl sz26 rfl rfl rfl rfl) fun a hF=>q_m hF rfl fun a hF=>q_m hF rfl fun a hF=>q_m hF rfl fun a hF=>?_)))
          obtain ⟨m57,hl57,hv57,hz57⟩:=hS.lend
          obtain ⟨t_56,ht_56,hr⟩:=bindS hr
          refine q_call (vs:=[(.agg #[s38.v]),s39.v,s47.v,s41.v]) hF hS Tryz.func27 (by kernel_rfl) rfl rfl rfl (c_impl_CoversPlan t_36.1 t_36.2.1 t_45.1 t_36.2.2.2 t_56 ht_56 _ m57 hv57 s38 (((((h38.mono hm43.le).mono hm44.le).mono hm46.le).mono hm49.le).mono hl57) s39 (((((h39.mono hm43.le).mono hm44.le).mono hm46.le).mono hm49.le).mono hl57) s47 ((h47.mono hm49.le).froz hl57 (hz57 0 _ rfl)) s41 (((h44.mono hm46.le).mono hm49.le).mono hl57)) ?_
          rintro a w _ rfl hF hS
          refine q_m hF rfl fun a hF=>q_y (v:=(.bool t_56.1)) hF hS (ex_extract rfl rfl) fun a hF=>q_y (v:=(.bool t_56.2)) hF hS (ex_extract rfl rfl) fun a hF=>q_s hF rfl fun a hF=>q_s hF rfl fun a hF=>q_end (n_sq (q_seq ?_))
          obtain ⟨t_58,hj19,hr⟩:=bindS hr
          refine q_join (fun a w=>Fr a 183 [(4,(.bool t_58))]∧St [] w0 w m49 []) ?_ ?_
          ·refine q_region (q_m hF rfl fun a hF=>q_m hF rfl fun a hF=>?_)
           rcases bcase (t_54.2) with hc20 | hc20
           ·have hj19:=cond_f hc20 hj19
            refine q_k hF hc20 fun a hF=>q_y (v:=(.bool false)) hF hS (ex_pick_f rfl rfl hc20) fun a hF=>q_m hF rfl fun a hF=>q_k hF rfl fun a hF=>q_y (v:=(.bool false)) hF hS (ex_pick_f rfl rfl rfl) fun a hF=>q_m hF rfl fun a hF=>q_k hF rfl fun a hF=>q_y (v:=(.bool false)) hF hS (ex_pick_f rfl rfl rfl) fun a hF=>q_s hF rfl fun a hF=>q_end (n_jn ?_)
            obtain rfl:=someI hj19
            exact ⟨hF.sub ⟨rfl,trivial⟩,hS.mask [false,false]⟩
           ·have hj19:=cond_t hc20 hj19
            refine q_g (v:=(.bool t_56.2)) hF hS (ex_move rfl) hc20 fun a hF=>q_y (v:=(.bool t_56.2)) hF hS (ex_pick_t rfl rfl hc20) fun a hF=>q_m hF rfl fun a hF=>?_
            rcases bcase (t_56.2) with hc21 | hc21
            ·have hj19:=cond_f hc21 hj19
             refine q_k hF hc21 fun a hF=>q_y (v:=(.bool false)) hF hS (ex_pick_f rfl rfl hc21) fun a hF=>q_m hF rfl fun a hF=>q_k hF rfl fun a hF=>q_y (v:=(.bool false)) hF hS (ex_pick_f rfl rfl rfl) fun a hF=>q_s hF rfl fun a hF=>q_end (n_jn ?_)
             obtain rfl:=someI hj19
             exact ⟨hF.sub ⟨rfl,trivial⟩,hS.mask [false,false]⟩
            ·have hj19:=cond_t hc21 hj19
             refine q_g (v:=(.bool t_54.1)) hF hS (ex_move rfl) hc21 fun a hF=>q_y (v:=(.bool t_54.1)) hF hS (ex_pick_t rfl rfl hc21) fun a hF=>q_m hF rfl fun a hF=>?_
             rcases bcase (t_54.1) with hc22 | hc22
             ·have hj19:=cond_f hc22 hj19
              refine q_k hF hc22 fun a hF=>q_y (v:=(.bool false)) hF hS (ex_pick_f rfl rfl hc22) fun a hF=>q_s hF rfl fun a hF=>q_end (n_jn ?_)
              obtain rfl:=someI hj19
              exact ⟨hF.sub ⟨rfl,trivial⟩,hS.mask [false,false]⟩
             ·have hj19:=cond_t hc22 hj19
              refine q_g (v:=(.bool t_56.1)) hF hS (ex_move rfl) hc22 fun a hF=>q_y (v:=(.bool t_56.1)) hF hS (ex_pick_t rfl rfl hc22) fun a hF=>q_s hF rfl fun a hF=>q_end (n_jn ?_)
              obtain rfl:=someI hj19
              exact ⟨hF.sub ⟨rfl,trivial⟩,hS.mask [false,false]⟩
          ·rintro a w ⟨hF,hS⟩
           refine n_sq (q_ret (r_sq ?_))
           obtain rfl:=someI hr
           exact ret_of hF hS rfl (.tmp rfl .nil) rfl
        ·have hr:=cond_t hc17 hr
         refine q_cond_t hF rfl hc17 (q_sr (q_s hF rfl fun a hF=>q_end (n_sq (q_ret (r_sq ?_)))))
         obtain rfl:=someI hr
         exact ret_of hF hS rfl (.tmp rfl .nil) rfl
      ·have hr:=cond_t hc14 hr
       refine q_cond_t hF rfl hc14 (q_sr (q_s hF rfl fun a hF=>q_end (n_sq (q_ret (r_sq ?_)))))
       obtain rfl:=someI hr
       exact ret_of hF hS rfl (.tmp rfl .nil) rfl
   ·have hr:=cond_t hc4 hr
    refine q_cond_t hF rfl hc4 (q_sr (q_s hF rfl fun a hF=>q_end (n_sq (q_ret (r_sq ?_)))))
    obtain rfl:=someI hr
    exact ret_of hF hS rfl (.tmp rfl .nil) rfl
 ·have hr:=cond_t hc1 hr
  refine q_cond_t hF rfl hc1 (q_sr (q_s hF rfl fun a hF=>q_end (n_sq (q_ret (r_sq ?_)))))
  obtain rfl:=someI hr
  exact ret_of hF hS rfl (.tmp rfl .nil) rfl

end Go.Proofs.YtnmimeojimfogaaGreatDoor
