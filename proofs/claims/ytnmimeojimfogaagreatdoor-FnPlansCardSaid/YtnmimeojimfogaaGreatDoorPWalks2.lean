/- The walks of the functions: each returns what its plain function says. -/
import Derived.Test.YtnmimeojimfogaaGreatDoorPWalks1
namespace Go.Proofs.YtnmimeojimfogaaGreatDoor
open Go.Gx Go.Gx.F Go.RowKit
set_option linter.all false
set_option maxRecDepth 10000


theorem c_spec_l1Cur_anyTable (p_c : spec_l1Cur) (p_g : impl_Geo) (p_s : List impl_Variable) (r : impl_Table × spec_l1Cur) (hr : spec_l1Cur_anyTable p_c p_g p_s = some r) (w0 : World) (m : Mem) (b_p_c : Nat) (s1 : Sl) (h1 : Rd m s1 p_c.code) (s2 : Sl) (h2 : Rd m s2 p_g.Parents) (s3 : Sl) (h3 : Rd m s3 p_s) (X : List Nat) (hS : St X w0 w0 m [[⟨b_p_c,[s1.v,(iV p_c.at_),(.int .u64 p_c.seed.v)],59⟩]]) :
  RetX Tryz.prog 29 [(pP b_p_c 0),(.agg #[s2.v]),s3.v] w0 (fun v w=>∃ (q0' : Piece) (q1' : Piece) (s0' : Sl) (s1' : Sl),v = (.agg #[(iV r.1.Level),s0'.v,s1'.v,(iV r.1.Sum)])∧St X w0 w m [[⟨b_p_c,[s1.v,(iV r.2.at_),(.int .u64 r.2.seed.v)],59⟩],q0',q1']∧OwnL m 3 q0' s0' r.1.Vars∧OwnL m 3 q1' s1' r.1.Where∧r.2.code = p_c.code):=by
 unfold spec_l1Cur_anyTable at hr
 refine ret_startX Tryz.func29 rfl 56 rfl rfl fun a hF=>q_sr (q_box (cs:=[s2.v]) hF hS rfl rfl rfl fun a w b4 hF hS=>q_alloc (cs:=[(iV 0),nilS.v,nilS.v,(iV 0)]) hF hS rfl rfl rfl fun a w b5 hF hS=>q_end (n_sq (q_sr (q_m hF rfl fun a hF=>q_y (v:=(.agg #[s2.v])) hF hS (ex_loadA (vs:=[s2.v]) 1 0 U26 rfl sz26 rfl rfl rfl rfl) fun a hF=>q_m hF rfl fun a hF=>?_))))
 have hS : St _ _ _ _ [[⟨b_p_c,[s1.v,(iV p_c.at_),(.int .u64 p_c.seed.v)],59⟩],[⟨b5,[(iV 0),nilS.v,nilS.v,(iV 0)],29⟩],[⟨b4,[s2.v],26⟩]]:=hS.sel [2,0,1] (by decide)
 have hS6 : St _ _ _ _ ([[⟨b_p_c,[s1.v,(iV p_c.at_),(.int .u64 p_c.seed.v)],59⟩]]++[[⟨b5,[(iV 0),nilS.v,nilS.v,(iV 0)],29⟩],[⟨b4,[s2.v],26⟩]]):=hS
 have hE6:=hS6.enter
 obtain ⟨t_7,ht_7,hr⟩:=bindS hr
 refine q_do rfl fun _ hK=>wp_callX (vs:=[(pP b_p_c 0),(.agg #[s2.v]),s3.v]) hF Tryz.func41 (by kernel_rfl) rfl rfl rfl (c_spec_l1Cur_table p_c p_g p_s t_7 ht_7 _ m b_p_c s1 h1 s2 h2 s3 h3 _ hE6) fun a w _ hR hF=>hK _ _ ?_
 obtain ⟨q8,q9,s8,s9,rfl,hR6,h8,h9,hk10⟩:=hR
 have hS : St _ _ _ _ [[⟨b_p_c,[s1.v,(iV t_7.2.at_),(.int .u64 t_7.2.seed.v)],59⟩],q8,q9,[⟨b5,[(iV 0),nilS.v,nilS.v,(iV 0)],29⟩],[⟨b4,[s2.v],26⟩]]:=hS6.leaveF hR6
 have h10 : Rd m s1 t_7.2.code:=by rw [hk10]; exact h1
 refine q_alloc (cs:=[(iV 0),nilS.v,nilS.v,(iV 0)]) hF hS rfl rfl rfl fun a w b11 hF hS=>q_store (vs:=[(iV t_7.1.Level),s8.v,s9.v,(iV t_7.1.Sum)]) (cs':=[(iV t_7.1.Level),s8.v,s9.v,(iV t_7.1.Sum)]) 0 0 hF hS sz29 rfl rfl rfl rfl rfl rfl rfl rfl fun a w hF hS=>q_end (n_sq (q_seq (q_sr (q_m hF rfl fun a hF=>?_))))
 have hS : St _ _ _ _ [[⟨b_p_c,[s1.v,(iV t_7.2.at_),(.int .u64 t_7.2.seed.v)],59⟩],[⟨b11,[(iV t_7.1.Level),s8.v,s9.v,(iV t_7.1.Sum)],29⟩],q8,q9,[⟨b5,[(iV 0),nilS.v,nilS.v,(iV 0)],29⟩],[⟨b4,[s2.v],26⟩]]:=hS.sel [1,0,2,3,4,5] (by decide)
 have hS12 : St _ _ _ _ ([[⟨b_p_c,[s1.v,(iV t_7.2.at_),(.int .u64 t_7.2.seed.v)],59⟩]]++[[⟨b11,[(iV t_7.1.Level),s8.v,s9.v,(iV t_7.1.Sum)],29⟩],q8,q9,[⟨b5,[(iV 0),nilS.v,nilS.v,(iV 0)],29⟩],[⟨b4,[s2.v],26⟩]]):=hS
 have hE12:=hS12.enter
 obtain ⟨t_13,ht_13,hr⟩:=bindS hr
 refine q_do rfl fun _ hK=>wp_callX (vs:=[(pP b_p_c 0),(iV 24)]) hF Tryz.func62 (by kernel_rfl) rfl rfl rfl (c_spec_l1Cur_pick t_7.2 24 t_13 ht_13 _ m b_p_c s1 h10 _ hE12) fun a w _ hR hF=>hK _ _ ?_
 obtain ⟨rfl,hR12,hk14⟩:=hR
 have hS : St _ _ _ _ [[⟨b_p_c,[s1.v,(iV t_13.2.at_),(.int .u64 t_13.2.seed.v)],59⟩],[⟨b11,[(iV t_7.1.Level),s8.v,s9.v,(iV t_7.1.Sum)],29⟩],q8,q9,[⟨b5,[(iV 0),nilS.v,nilS.v,(iV 0)],29⟩],[⟨b4,[s2.v],26⟩]]:=hS12.leaveF hR12
 have h14 : Rd m s1 t_13.2.code:=by rw [hk14]; exact h10
 refine q_end (n_sq (q_block (q_sr (q_y (v:=(.bool (t_13.1 == 0))) hF hS (ex_ibin rfl rfl rfl) fun a hF=>q_s hF rfl fun a hF=>q_end (n_sq ?_)))))
 obtain ⟨j1,hj1,hr⟩:=bindS hr
 refine q_join (fun a w=>∃ (q74 : Piece),∃ (s74 : Sl),∃ (q75 : Piece),∃ (s75 : Sl),∃ p_c_71,∃ t_73,j1 = (p_c_71,t_73)∧Fr a 56 [(6,(pP b5 0)),(7,(pP b11 0))]∧St X w0 w m [q74,q75,[⟨b_p_c,[s1.v,(iV p_c_71.at_),(.int .u64 p_c_71.seed.v)],59⟩],[⟨b11,[(iV t_73.Level),s74.v,s75.v,(iV t_73.Sum)],29⟩],[⟨b5,[(iV 0),nilS.v,nilS.v,(iV 0)],29⟩]]∧Rd m s1 p_c_71.code∧p_c_71.code = p_c.code∧OwnL m 3 q74 s74 t_73.Vars∧OwnL m 3 q75 s75 t_73.Where) ?_ ?_
 ·rcases bcase (t_13.1 == 0) with hc2 | hc2
  ·have hj1:=cond_f hc2 hj1
   refine q_cond_f hF rfl hc2 (q_sr (q_y (v:=(.bool (t_13.1 == 1))) hF hS (ex_ibin rfl rfl rfl) fun a hF=>q_s hF rfl fun a hF=>q_end (n_sq ?_)))
   obtain ⟨j3,hj3,hj1⟩:=bindS hj1
   refine q_join (fun a w=>∃ (q65 : Piece),∃ (s65 : Sl),∃ (q66 : Piece),∃ (s66 : Sl),∃ p_c_62,∃ t_64,j3 = (p_c_62,t_64)∧Fr a 56 [(6,(pP b5 0)),(7,(pP b11 0))]∧St X w0 w m [q65,q66,[⟨b_p_c,[s1.v,(iV p_c_62.at_),(.int .u64 p_c_62.seed.v)],59⟩],[⟨b11,[(iV t_64.Level),s65.v,s66.v,(iV t_64.Sum)],29⟩],[⟨b5,[(iV 0),nilS.v,nilS.v,(iV 0)],29⟩]]∧Rd m s1 p_c_62.code∧p_c_62.code = p_c.code∧OwnL m 3 q65 s65 t_64.Vars∧OwnL m 3 q66 s66 t_64.Where) ?_ ?_
   ·rcases bcase (t_13.1 == 1) with hc4 | hc4
    ·have hj3:=cond_f hc4 hj3
     refine q_cond_f hF rfl hc4 (q_sr (q_y (v:=(.bool (t_13.1 == 2))) hF hS (ex_ibin rfl rfl rfl) fun a hF=>q_s hF rfl fun a hF=>q_end (n_sq ?_)))
     obtain ⟨j5,hj5,hj3⟩:=bindS hj3
     refine q_join (fun a w=>∃ (q48 : Piece),∃ (s48 : Sl),∃ p_c_44,∃ t_46,j5 = (p_c_44,t_46)∧Fr a 56 [(6,(pP b5 0)),(7,(pP b11 0))]∧St X w0 w m [q8,q48,[⟨b_p_c,[s1.v,(iV p_c_44.at_),(.int .u64 p_c_44.seed.v)],59⟩],[⟨b11,[(iV t_46.Level),s8.v,s48.v,(iV t_46.Sum)],29⟩],[⟨b5,[(iV 0),nilS.v,nilS.v,(iV 0)],29⟩]]∧Rd m s1 p_c_44.code∧p_c_44.code = p_c.code∧OwnL m 3 q8 s8 t_46.Vars∧OwnL m 3 q48 s48 t_46.Where) ?_ ?_
     ·rcases bcase (t_13.1 == 2) with hc6 | hc6
      ·have hj5:=cond_f hc6 hj5
       refine q_cond_f hF rfl hc6 (q_sr (q_y (v:=(.bool (t_13.1 == 3))) hF hS (ex_ibin rfl rfl rfl) fun a hF=>q_s hF rfl fun a hF=>q_end (n_sq ?_)))
       obtain ⟨j7,hj7,hj5⟩:=bindS hj5
       refine q_join (fun a w=>∃ (q40 : Piece),∃ p_c_36,∃ t_38,j7 = (p_c_36,t_38)∧Fr a 56 [(6,(pP b5 0)),(7,(pP b11 0))]∧St X w0 w m [q8,q40,[⟨b_p_c,[s1.v,(iV p_c_36.at_),(.int .u64 p_c_36.seed.v)],59⟩],[⟨b11,[(iV t_38.Level),s8.v,s9.v,(iV t_38.Sum)],29⟩],[⟨b5,[(iV 0),nilS.v,nilS.v,(iV 0)],29⟩]]∧Rd m s1 p_c_36.code∧p_c_36.code = p_c.code∧OwnL m 3 q8 s8 t_38.Vars∧OwnL m 3 q40 s9 t_38.Where) ?_ ?_
       ·rcases bcase (t_13.1 == 3) with hc8 | hc8
        ·have hj7:=cond_f hc8 hj7
         refine q_cond_f hF rfl hc8 (q_sr (q_y (v:=(.bool (t_13.1 == 4))) hF hS (ex_ibin rfl rfl rfl) fun a hF=>q_s hF rfl fun a hF=>q_end (n_sq ?_)))
         obtain ⟨j9,hj9,hj7⟩:=bindS hj7
         refine q_join (fun a w=>∃ (q31 : Piece),∃ p_c_27,∃ t_29,j9 = (p_c_27,t_29)∧Fr a 56 [(6,(pP b5 0)),(7,(pP b11 0))]∧St X w0 w m [q8,q31,[⟨b_p_c,[s1.v,(iV p_c_27.at_),(.int .u64 p_c_27.seed.v)],59⟩],[⟨b11,[(iV t_29.Level),s8.v,s9.v,(iV t_29.Sum)],29⟩],[⟨b5,[(iV 0),nilS.v,nilS.v,(iV 0)],29⟩]]∧Rd m s1 p_c_27.code∧p_c_27.code = p_c.code∧OwnL m 3 q8 s8 t_29.Vars∧OwnL m 3 q31 s9 t_29.Where) ?_ ?_
         ·rcases bcase (t_13.1 == 4) with hc10 | hc10
          ·have hj9:=cond_f hc10 hj9
           refine q_cond_f hF rfl hc10 (q_skipc (n_jn ?_))
           obtain rfl:=someI hj9
           exact ⟨q9,_,_,rfl,hF.sub ⟨rfl,rfl,trivial⟩,hS.sel [2,3,0,1,4] (by decide),h14,(hk14.trans hk10),h8,h9⟩
          ·have hj9:=cond_t hc10 hj9
           refine q_cond_t hF rfl hc10 (q_sr (q_y (v:=(pP b11 2)) hF hS (ex_fieldAddr U29 rfl sz24 rfl rfl) fun a hF=>q_y (v:=s9.v) hF hS (ex_load1 1 0 U24 rfl rfl rfl rfl) fun a hF=>q_y (v:=(iV (goLen t_7.1.Where))) hF hS (ex_len U24 rfl h9.len) fun a hF=>q_y (v:=(.bool (decide (0 < (goLen t_7.1.Where))))) hF hS (ex_ibin rfl rfl rfl) fun a hF=>q_end (n_sq ?_)))
           obtain ⟨j11,hj11,hj9⟩:=bindS hj9
           refine q_join (fun a w=>∃ (q26 : Piece),∃ p_c_22,∃ t_24,j11 = (p_c_22,t_24)∧Fr a 56 [(6,(pP b5 0)),(7,(pP b11 0))]∧St X w0 w m [q8,q26,[⟨b_p_c,[s1.v,(iV p_c_22.at_),(.int .u64 p_c_22.seed.v)],59⟩],[⟨b11,[(iV t_24.Level),s8.v,s9.v,(iV t_24.Sum)],29⟩],[⟨b5,[(iV 0),nilS.v,nilS.v,(iV 0)],29⟩]]∧Rd m s1 p_c_22.code∧p_c_22.code = p_c.code∧OwnL m 3 q8 s8 t_24.Vars∧OwnL m 3 q26 s9 t_24.Where) ?_ ?_
           ·rcases bcase (decide (0 < (goLen t_7.1.Where))) with hc12 | hc12
            ·have hj11:=cond_f hc12 hj11
             refine q_cond_f hF rfl hc12 (q_skipc (n_jn ?_))
             obtain rfl:=someI hj11
             exact ⟨q9,_,_,rfl,hF.sub ⟨rfl,rfl,trivial⟩,hS.sel [2,3,0,1,4] (by decide),h14,(hk14.trans hk10),h8,h9⟩
            ·have hj11:=cond_t hc12 hj11
             refine q_cond_t hF rfl hc12 (e_region ⟨[4,6],[b11]⟩ mixed fun w' hw'=>?_)
             have hS:=hS.below hw'
             refine e_P (v:=(pP b11 2)) 0 hF rfl (ex_fieldAddr U29 rfl sz24 rfl rfl) fun a hF=>e_xb (v:=s9.v) 1 1 hF hS (.head _) rfl rfl (ex_load1 0 0 U24 rfl rfl rfl rfl) rfl rfl (by kernel_rfl) (by kernel_rfl) (by kernel_rfl) fun a hF=>e_P (v:=(pP b_p_c 0)) 2 hF rfl (ex_move rfl) fun a hF=>e_one 3 (by kernel_rfl) (e_op rfl rfl fun _ hK=>wp_buildSlice' (l:=([-1,255,256] : List Int)) (cells:=[(iV (-1)),(iV 255),(iV 256)]) hF hS U24 inf3 rfl rfl (by kernel_rfl) rfl rfl rfl ⟨rfl,rfl,rfl,rfl⟩ rfl rfl fun a w q15 s15 hF hS h15 hb=>hK _ _ hb (e_one 4 (by kernel_rfl) ?_))
             have hS : St _ _ _ _ [[⟨b_p_c,[s1.v,(iV t_13.2.at_),(.int .u64 t_13.2.seed.v)],59⟩],q15,[⟨b11,[(iV t_7.1.Level),s8.v,s9.v,(iV t_7.1.Sum)],29⟩],q8,q9,[⟨b5,[(iV 0),nilS.v,nilS.v,(iV 0)],29⟩],[⟨b4,[s2.v],26⟩]]:=hS.sel [1,0,2,3,4,5,6] (by decide)
             have hS16 : St _ _ _ _ ([[⟨b_p_c,[s1.v,(iV t_13.2.at_),(.int .u64 t_13.2.seed.v)],59⟩]]++[q15,[⟨b11,[(iV t_7.1.Level),s8.v,s9.v,(iV t_7.1.Sum)],29⟩],q8,q9,[⟨b5,[(iV 0),nilS.v,nilS.v,(iV 0)],29⟩],[⟨b4,[s2.v],26⟩]]):=hS
             obtain ⟨m16,hl16,hE16,hz16⟩:=hS16.lendX
             obtain ⟨t_17,ht_17,hj11⟩:=bindS hj11
             have hSo:=hS
             refine e_opl rfl rfl rfl fun _ hK=>wp_callX (vs:=[(pP b_p_c 0),s15.v]) hF Tryz.func65 (by kernel_rfl) rfl rfl rfl (c_spec_l1Cur_among t_13.2 ([-1,255,256] : List Int) t_17 ht_17 _ m16 b_p_c s1 (h14.mono hl16) s15 (h15.froz hl16 (hz16 0 _ rfl)) _ hE16) fun a w _ hR hF=>hK _ _ ?_
             obtain ⟨rfl,hR16,hk18⟩:=hR
             have hS : St _ _ _ _ [[⟨b_p_c,[s1.v,(iV t_17.2.at_),(.int .u64 t_17.2.seed.v)],59⟩],q15,[⟨b11,[(iV t_7.1.Level),s8.v,s9.v,(iV t_7.1.Sum)],29⟩],q8,q9,[⟨b5,[(iV 0),nilS.v,nilS.v,(iV 0)],29⟩],[⟨b4,[s2.v],26⟩]]:=hS16.leaveF hR16
             have h18 : Rd m s1 t_17.2.code:=by rw [hk18]; exact h14
             refine ⟨kpC hSo hS 2 2 rfl rfl kpN,?_⟩
             obtain ⟨e_19,he_19,hj11⟩:=bindS hj11
             obtain ⟨vs20,at20,d20⟩:=h9.at he_19 1 rfl
             obtain rfl : vs20 = [(iV e_19)]:=d20
             refine e_P (v:=(elP s9 ((0 : Int).toNat * 1))) 5 hF rfl (ex_indexAddr U24 sz3 rfl rfl (h9.idx he_19)) fun a hF=>e_one 6 (by kernel_rfl) ?_
             have hS : St _ _ _ _ [q9,[⟨b_p_c,[s1.v,(iV t_17.2.at_),(.int .u64 t_17.2.seed.v)],59⟩],q15,[⟨b11,[(iV t_7.1.Level),s8.v,s9.v,(iV t_7.1.Sum)],29⟩],q8,[⟨b5,[(iV 0),nilS.v,nilS.v,(iV 0)],29⟩],[⟨b4,[s2.v],26⟩]]:=hS.sel [4,0,1,2,3,5,6] (by decide)
             have hSo:=hS
             refine e_opl rfl rfl rfl fun _ hK=>wp_storeE (e':=t_17.1) (us:=[(iV t_17.1)]) (vs:=[(iV e_19)]) 0 hF hS h9 sz3 rfl rfl rfl rfl rfl rfl rfl he_19 at20 rfl rfl rfl fun w q21 hS h21=>hK _ _ (⟨kpC hSo hS 3 3 rfl rfl kpN,?_⟩)
             refine e_end (by kernel_rfl) (n_jn ?_) _
             obtain rfl:=someI hj11
             exact ⟨q21,_,_,rfl,hF.sub ⟨rfl,rfl,trivial⟩,hS.sel [4,0,1,3,5] (by decide),h18,(hk18.trans (hk14.trans hk10)),h8,h21⟩
           ·rintro a w ⟨q26,p_c_22,t_24,rfl,hF,hS,h23,h23k,h25,h26⟩
            refine n_jn ?_
            obtain rfl:=someI hj9
            exact ⟨q26,_,_,rfl,hF.sub ⟨rfl,rfl,trivial⟩,hS,h23,h23k,h25,h26⟩
         ·rintro a w ⟨q31,p_c_27,t_29,rfl,hF,hS,h28,h28k,h30,h31⟩
          refine n_jn ?_
          obtain rfl:=someI hj7
          exact ⟨q31,_,_,rfl,hF.sub ⟨rfl,rfl,trivial⟩,hS,h28,h28k,h30,h31⟩
        ·have hj7:=cond_t hc8 hj7
         refine q_cond_t hF rfl hc8 (q_region (q_m hF rfl fun a hF=>q_do rfl fun _ hK=>wp_buildSlice' (l:=([-2,3,6] : List Int)) (cells:=[(iV (-2)),(iV 3),(iV 6)]) hF hS U24 inf3 rfl rfl (by kernel_rfl) rfl rfl rfl ⟨rfl,rfl,rfl,rfl⟩ rfl rfl fun a w q32 s32 hF hS h32 _=>hK _ _ ?_))
         have hS : St _ _ _ _ [[⟨b_p_c,[s1.v,(iV t_13.2.at_),(.int .u64 t_13.2.seed.v)],59⟩],q32,[⟨b11,[(iV t_7.1.Level),s8.v,s9.v,(iV t_7.1.Sum)],29⟩],q8,q9,[⟨b5,[(iV 0),nilS.v,nilS.v,(iV 0)],29⟩],[⟨b4,[s2.v],26⟩]]:=hS.sel [1,0,2,3,4,5,6] (by decide)
         have hS33 : St _ _ _ _ ([[⟨b_p_c,[s1.v,(iV t_13.2.at_),(.int .u64 t_13.2.seed.v)],59⟩]]++[q32,[⟨b11,[(iV t_7.1.Level),s8.v,s9.v,(iV t_7.1.Sum)],29⟩],q8,q9,[⟨b5,[(iV 0),nilS.v,nilS.v,(iV 0)],29⟩],[⟨b4,[s2.v],26⟩]]):=hS
         obtain ⟨m33,hl33,hE33,hz33⟩:=hS33.lendX
         obtain ⟨t_34,ht_34,hj7⟩:=bindS hj7
         refine q_do rfl fun _ hK=>wp_callX (vs:=[(pP b_p_c 0),s32.v]) hF Tryz.func65 (by kernel_rfl) rfl rfl rfl (c_spec_l1Cur_among t_13.2 ([-2,3,6] : List Int) t_34 ht_34 _ m33 b_p_c s1 (h14.mono hl33) s32 (h32.froz hl33 (hz33 0 _ rfl)) _ hE33) fun a w _ hR hF=>hK _ _ ?_
         obtain ⟨rfl,hR33,hk35⟩:=hR
         have hS : St _ _ _ _ [[⟨b_p_c,[s1.v,(iV t_34.2.at_),(.int .u64 t_34.2.seed.v)],59⟩],q32,[⟨b11,[(iV t_7.1.Level),s8.v,s9.v,(iV t_7.1.Sum)],29⟩],q8,q9,[⟨b5,[(iV 0),nilS.v,nilS.v,(iV 0)],29⟩],[⟨b4,[s2.v],26⟩]]:=hS33.leaveF hR33
         have h35 : Rd m s1 t_34.2.code:=by rw [hk35]; exact h14
         refine q_y (v:=(pP b11 3)) hF hS (ex_fieldAddr U29 rfl sz3 rfl rfl) fun a hF=>q_store (vs:=[(iV t_34.1)]) (cs':=[(iV t_7.1.Level),s8.v,s9.v,(iV t_34.1)]) 2 0 hF hS sz3 rfl rfl rfl rfl rfl rfl rfl rfl fun a w hF hS=>q_end (n_jn ?_)
         obtain rfl:=someI hj7
         exact ⟨q9,_,_,rfl,hF.sub ⟨rfl,rfl,trivial⟩,hS.sel [3,4,0,2,5] (by decide),h35,(hk35.trans (hk14.trans hk10)),h8,h9⟩
       ·rintro a w ⟨q40,p_c_36,t_38,rfl,hF,hS,h37,h37k,h39,h40⟩
        refine n_jn ?_
        obtain rfl:=someI hj5
        exact ⟨q40,s9,_,_,rfl,hF.sub ⟨rfl,rfl,trivial⟩,hS,h37,h37k,h39,h40⟩
      ·have hj5:=cond_t hc6 hj5
       refine q_cond_t hF rfl hc6 (q_region (q_y (v:=(pP b11 2)) hF hS (ex_fieldAddr U29 rfl sz24 rfl rfl) fun a hF=>q_y (v:=s9.v) hF hS (ex_load1 1 0 U24 rfl rfl rfl rfl) fun a hF=>q_do rfl fun _ hK=>wp_buildSlice' (l:=([0] : List Int)) (cells:=[(iV 0)]) hF hS U24 inf3 rfl rfl (by kernel_rfl) rfl rfl rfl ⟨rfl,rfl⟩ rfl rfl fun a w q41 s41 hF hS h41 _=>hK _ _ ?_))
       have hS : St _ _ _ _ [q9,q41,[⟨b_p_c,[s1.v,(iV t_13.2.at_),(.int .u64 t_13.2.seed.v)],59⟩],[⟨b11,[(iV t_7.1.Level),s8.v,s9.v,(iV t_7.1.Sum)],29⟩],q8,[⟨b5,[(iV 0),nilS.v,nilS.v,(iV 0)],29⟩],[⟨b4,[s2.v],26⟩]]:=hS.sel [4,0,1,2,3,5,6] (by decide)
       obtain ⟨l_42,hl_42,hj5⟩:=bindS hj5
       refine q_do rfl fun _ hK=>wp_append hF hS h9 U24 inf3 rfl rfl rfl rfl (h41.vw hS (j:=1) rfl) rfl (by decide) hl_42 rfl fun a w q43 s43 hF hS h43=>hK _ _ (q_y (v:=(pP b11 2)) hF hS (ex_fieldAddr U29 rfl sz24 rfl rfl) fun a hF=>q_store (vs:=[s43.v]) (cs':=[(iV t_7.1.Level),s8.v,s43.v,(iV t_7.1.Sum)]) 3 0 hF hS sz24 rfl rfl rfl rfl rfl rfl rfl rfl fun a w hF hS=>q_end (n_jn ?_))
       obtain rfl:=someI hj5
       exact ⟨q43,s43,_,_,rfl,hF.sub ⟨rfl,rfl,trivial⟩,hS.sel [4,0,2,3,5] (by decide),h14,(hk14.trans hk10),h8,h43⟩
     ·rintro a w ⟨q48,s48,p_c_44,t_46,rfl,hF,hS,h45,h45k,h47,h48⟩
      refine n_jn ?_
      obtain rfl:=someI hj3
      exact ⟨q8,s8,q48,s48,_,_,rfl,hF.sub ⟨rfl,rfl,trivial⟩,hS,h45,h45k,h47,h48⟩
    ·have hj3:=cond_t hc4 hj3
     refine q_cond_t hF rfl hc4 ?_
     obtain ⟨j13,hj13,hj3⟩:=bindS hj3
     refine q_join (fun a w=>∃ (q60 : Piece),∃ (s60 : Sl),∃ p_c_57,∃ t_59,j13 = (p_c_57,t_59)∧Fr a 56 [(6,(pP b5 0)),(7,(pP b11 0))]∧St X w0 w m [q60,q9,[⟨b_p_c,[s1.v,(iV p_c_57.at_),(.int .u64 p_c_57.seed.v)],59⟩],[⟨b11,[(iV t_59.Level),s60.v,s9.v,(iV t_59.Sum)],29⟩],[⟨b5,[(iV 0),nilS.v,nilS.v,(iV 0)],29⟩]]∧Rd m s1 p_c_57.code∧p_c_57.code = p_c.code∧OwnL m 3 q60 s60 t_59.Vars∧OwnL m 3 q9 s9 t_59.Where) ?_ ?_
     ·refine e_region ⟨[4,6,8],[]⟩ mixed fun w' hw'=>?_
      have hS:=hS.below hw'
      refine e_P (v:=(pP b11 1)) 0 hF rfl (ex_fieldAddr U29 rfl sz24 rfl rfl) fun a hF=>e_P (v:=(pP b_p_c 0)) 2 hF rfl (ex_move rfl) fun a hF=>?_
      obtain ⟨t_52,ht_52,hj13⟩:=bindS hj13
      obtain ⟨l_55,hl_55,hj13⟩:=bindS hj13
      refine e_all [1,3] (by kernel_rfl) rfl ⟨?_,?_,trivial⟩
      ·refine e_lx (v:=s8.v) hF hS rfl (ex_load1 1 0 U24 rfl rfl rfl rfl) rfl rfl fun a hF=>e_one 3 (by kernel_rfl) (e_op rfl rfl fun _ hK=>wp_buildSlice' (l:=([-1,0,6] : List Int)) (cells:=[(iV (-1)),(iV 0),(iV 6)]) hF hS U24 inf3 rfl rfl (by kernel_rfl) rfl rfl rfl ⟨rfl,rfl,rfl,rfl⟩ rfl rfl fun a w q50 s50 hF hS h50 hb=>hK _ _ hb (e_one 4 (by kernel_rfl) ?_))
       have hS : St _ _ _ _ [[⟨b_p_c,[s1.v,(iV t_13.2.at_),(.int .u64 t_13.2.seed.v)],59⟩],q50,[⟨b11,[(iV t_7.1.Level),s8.v,s9.v,(iV t_7.1.Sum)],29⟩],q8,q9,[⟨b5,[(iV 0),nilS.v,nilS.v,(iV 0)],29⟩],[⟨b4,[s2.v],26⟩]]:=hS.sel [1,0,2,3,4,5,6] (by decide)
       have hS51 : St _ _ _ _ ([[⟨b_p_c,[s1.v,(iV t_13.2.at_),(.int .u64 t_13.2.seed.v)],59⟩]]++[q50,[⟨b11,[(iV t_7.1.Level),s8.v,s9.v,(iV t_7.1.Sum)],29⟩],q8,q9,[⟨b5,[(iV 0),nilS.v,nilS.v,(iV 0)],29⟩],[⟨b4,[s2.v],26⟩]]):=hS
       obtain ⟨m51,hl51,hE51,hz51⟩:=hS51.lendX
       refine e_opl rfl rfl rfl fun _ hK=>wp_callX (vs:=[(pP b_p_c 0),s50.v]) hF Tryz.func65 (by kernel_rfl) rfl rfl rfl (c_spec_l1Cur_among t_13.2 ([-1,0,6] : List Int) t_52 ht_52 _ m51 b_p_c s1 (h14.mono hl51) s50 (h50.froz hl51 (hz51 0 _ rfl)) _ hE51) fun a w _ hR hF=>hK _ _ ?_
       obtain ⟨rfl,hR51,hk53⟩:=hR
       have hS : St _ _ _ _ [[⟨b_p_c,[s1.v,(iV t_52.2.at_),(.int .u64 t_52.2.seed.v)],59⟩],q50,[⟨b11,[(iV t_7.1.Level),s8.v,s9.v,(iV t_7.1.Sum)],29⟩],q8,q9,[⟨b5,[(iV 0),nilS.v,nilS.v,(iV 0)],29⟩],[⟨b4,[s2.v],26⟩]]:=hS51.leaveF hR51
       have h53 : Rd m s1 t_52.2.code:=by rw [hk53]; exact h14
       refine ⟨kpN,?_⟩
       refine e_one 5 (by kernel_rfl) (e_op rfl rfl fun _ hK=>wp_buildSlice' (l:=([t_52.1] : List Int)) (cells:=[(iV t_52.1)]) hF hS U24 inf3 rfl rfl (by kernel_rfl) rfl rfl rfl ⟨rfl,rfl⟩ rfl rfl fun a w q54 s54 hF hS h54 hb=>hK _ _ hb (e_one 6 (by kernel_rfl) ?_))
       have hS : St _ _ _ _ [q8,q54,[⟨b_p_c,[s1.v,(iV t_52.2.at_),(.int .u64 t_52.2.seed.v)],59⟩],q50,[⟨b11,[(iV t_7.1.Level),s8.v,s9.v,(iV t_7.1.Sum)],29⟩],q9,[⟨b5,[(iV 0),nilS.v,nilS.v,(iV 0)],29⟩],[⟨b4,[s2.v],26⟩]]:=hS.sel [4,0,1,2,3,5,6,7] (by decide)
       refine e_opl rfl rfl rfl fun _ hK=>wp_append hF hS h8 U24 inf3 rfl rfl rfl rfl (h54.vw hS (j:=1) rfl) rfl (by decide) hl_55 rfl fun a w q56 s56 hF hS h56=>hK _ _ (⟨kpN,?_⟩)
       refine e_P (v:=(pP b11 1)) 7 hF rfl (ex_fieldAddr U29 rfl sz24 rfl rfl) fun a hF=>e_one 8 (by kernel_rfl) (e_store (vs:=[s56.v]) (cs':=[(iV t_7.1.Level),s56.v,s9.v,(iV t_7.1.Sum)]) 4 0 hF hS rfl rfl sz24 rfl rfl rfl rfl rfl rfl rfl rfl fun a w hF hS=>⟨kpN,?_⟩)
       refine e_end (by kernel_rfl) (n_jn ?_) _
       obtain rfl:=someI hj13
       exact ⟨q56,s56,_,_,rfl,hF.sub ⟨rfl,rfl,trivial⟩,hS.sel [0,5,2,4,6] (by decide),h53,(hk53.trans (hk14.trans hk10)),h56,h9⟩
      ·refine e_op rfl rfl fun _ hK=>wp_buildSlice' (l:=([-1,0,6] : List Int)) (cells:=[(iV (-1)),(iV 0),(iV 6)]) hF hS U24 inf3 rfl rfl (by kernel_rfl) rfl rfl rfl ⟨rfl,rfl,rfl,rfl⟩ rfl rfl fun a w q50 s50 hF hS h50 hb=>hK _ _ hb (e_all [1,4] (by kernel_rfl) rfl ⟨?_,?_,trivial⟩)
       ·refine e_lx (v:=s8.v) hF hS rfl (ex_load1 2 0 U24 rfl rfl rfl rfl) rfl rfl fun a hF=>e_one 4 (by kernel_rfl) ?_
        have hS : St _ _ _ _ [[⟨b_p_c,[s1.v,(iV t_13.2.at_),(.int .u64 t_13.2.seed.v)],59⟩],q50,[⟨b11,[(iV t_7.1.Level),s8.v,s9.v,(iV t_7.1.Sum)],29⟩],q8,q9,[⟨b5,[(iV 0),nilS.v,nilS.v,(iV 0)],29⟩],[⟨b4,[s2.v],26⟩]]:=hS.sel [1,0,2,3,4,5,6] (by decide)
        have hS51 : St _ _ _ _ ([[⟨b_p_c,[s1.v,(iV t_13.2.at_),(.int .u64 t_13.2.seed.v)],59⟩]]++[q50,[⟨b11,[(iV t_7.1.Level),s8.v,s9.v,(iV t_7.1.Sum)],29⟩],q8,q9,[⟨b5,[(iV 0),nilS.v,nilS.v,(iV 0)],29⟩],[⟨b4,[s2.v],26⟩]]):=hS
        obtain ⟨m51,hl51,hE51,hz51⟩:=hS51.lendX
        refine e_opl rfl rfl rfl fun _ hK=>wp_callX (vs:=[(pP b_p_c 0),s50.v]) hF Tryz.func65 (by kernel_rfl) rfl rfl rfl (c_spec_l1Cur_among t_13.2 ([-1,0,6] : List Int) t_52 ht_52 _ m51 b_p_c s1 (h14.mono hl51) s50 (h50.froz hl51 (hz51 0 _ rfl)) _ hE51) fun a w _ hR hF=>hK _ _ ?_
        obtain ⟨rfl,hR51,hk53⟩:=hR
        have hS : St _ _ _ _ [[⟨b_p_c,[s1.v,(iV t_52.2.at_),(.int .u64 t_52.2.seed.v)],59⟩],q50,[⟨b11,[(iV t_7.1.Level),s8.v,s9.v,(iV t_7.1.Sum)],29⟩],q8,q9,[⟨b5,[(iV 0),nilS.v,nilS.v,(iV 0)],29⟩],[⟨b4,[s2.v],26⟩]]:=hS51.leaveF hR51
        have h53 : Rd m s1 t_52.2.code:=by rw [hk53]; exact h14
        refine ⟨kpN,?_⟩
        refine e_one 5 (by kernel_rfl) (e_op rfl rfl fun _ hK=>wp_buildSlice' (l:=([t_52.1] : List Int)) (cells:=[(iV t_52.1)]) hF hS U24 inf3 rfl rfl (by kernel_rfl) rfl rfl rfl ⟨rfl,rfl⟩ rfl rfl fun a w q54 s54 hF hS h54 hb=>hK _ _ hb (e_one 6 (by kernel_rfl) ?_))
        have hS : St _ _ _ _ [q8,q54,[⟨b_p_c,[s1.v,(iV t_52.2.at_),(.int .u64 t_52.2.seed.v)],59⟩],q50,[⟨b11,[(iV t_7.1.Level),s8.v,s9.v,(iV t_7.1.Sum)],29⟩],q9,[⟨b5,[(iV 0),nilS.v,nilS.v,(iV 0)],29⟩],[⟨b4,[s2.v],26⟩]]:=hS.sel [4,0,1,2,3,5,6,7] (by decide)
        refine e_opl rfl rfl rfl fun _ hK=>wp_append hF hS h8 U24 inf3 rfl rfl rfl rfl (h54.vw hS (j:=1) rfl) rfl (by decide) hl_55 rfl fun a w q56 s56 hF hS h56=>hK _ _ (⟨kpN,?_⟩)
        refine e_P (v:=(pP b11 1)) 7 hF rfl (ex_fieldAddr U29 rfl sz24 rfl rfl) fun a hF=>e_one 8 (by kernel_rfl) (e_store (vs:=[s56.v]) (cs':=[(iV t_7.1.Level),s56.v,s9.v,(iV t_7.1.Sum)]) 4 0 hF hS rfl rfl sz24 rfl rfl rfl rfl rfl rfl rfl rfl fun a w hF hS=>⟨kpN,?_⟩)
        refine e_end (by kernel_rfl) (n_jn ?_) _
        obtain rfl:=someI hj13
        exact ⟨q56,s56,_,_,rfl,hF.sub ⟨rfl,rfl,trivial⟩,hS.sel [0,5,2,4,6] (by decide),h53,(hk53.trans (hk14.trans hk10)),h56,h9⟩
       ·have hS : St _ _ _ _ [[⟨b_p_c,[s1.v,(iV t_13.2.at_),(.int .u64 t_13.2.seed.v)],59⟩],q50,[⟨b11,[(iV t_7.1.Level),s8.v,s9.v,(iV t_7.1.Sum)],29⟩],q8,q9,[⟨b5,[(iV 0),nilS.v,nilS.v,(iV 0)],29⟩],[⟨b4,[s2.v],26⟩]]:=hS.sel [1,0,2,3,4,5,6] (by decide)
        have hS51 : St _ _ _ _ ([[⟨b_p_c,[s1.v,(iV t_13.2.at_),(.int .u64 t_13.2.seed.v)],59⟩]]++[q50,[⟨b11,[(iV t_7.1.Level),s8.v,s9.v,(iV t_7.1.Sum)],29⟩],q8,q9,[⟨b5,[(iV 0),nilS.v,nilS.v,(iV 0)],29⟩],[⟨b4,[s2.v],26⟩]]):=hS
        obtain ⟨m51,hl51,hE51,hz51⟩:=hS51.lendX
        refine e_opl rfl rfl rfl fun _ hK=>wp_callX (vs:=[(pP b_p_c 0),s50.v]) hF Tryz.func65 (by kernel_rfl) rfl rfl rfl (c_spec_l1Cur_among t_13.2 ([-1,0,6] : List Int) t_52 ht_52 _ m51 b_p_c s1 (h14.mono hl51) s50 (h50.froz hl51 (hz51 0 _ rfl)) _ hE51) fun a w _ hR hF=>hK _ _ ?_
        obtain ⟨rfl,hR51,hk53⟩:=hR
        have hS : St _ _ _ _ [[⟨b_p_c,[s1.v,(iV t_52.2.at_),(.int .u64 t_52.2.seed.v)],59⟩],q50,[⟨b11,[(iV t_7.1.Level),s8.v,s9.v,(iV t_7.1.Sum)],29⟩],q8,q9,[⟨b5,[(iV 0),nilS.v,nilS.v,(iV 0)],29⟩],[⟨b4,[s2.v],26⟩]]:=hS51.leaveF hR51
        have h53 : Rd m s1 t_52.2.code:=by rw [hk53]; exact h14
        refine ⟨kpN,?_⟩
        refine e_X (v:=s8.v) 1 hF hS rfl (ex_load1 2 0 U24 rfl rfl rfl rfl) fun a hF=>e_one 5 (by kernel_rfl) (e_op rfl rfl fun _ hK=>wp_buildSlice' (l:=([t_52.1] : List Int)) (cells:=[(iV t_52.1)]) hF hS U24 inf3 rfl rfl (by kernel_rfl) rfl rfl rfl ⟨rfl,rfl⟩ rfl rfl fun a w q54 s54 hF hS h54 hb=>hK _ _ hb (e_one 6 (by kernel_rfl) ?_))
        have hS : St _ _ _ _ [q8,q54,[⟨b_p_c,[s1.v,(iV t_52.2.at_),(.int .u64 t_52.2.seed.v)],59⟩],q50,[⟨b11,[(iV t_7.1.Level),s8.v,s9.v,(iV t_7.1.Sum)],29⟩],q9,[⟨b5,[(iV 0),nilS.v,nilS.v,(iV 0)],29⟩],[⟨b4,[s2.v],26⟩]]:=hS.sel [4,0,1,2,3,5,6,7] (by decide)
        refine e_opl rfl rfl rfl fun _ hK=>wp_append hF hS h8 U24 inf3 rfl rfl rfl rfl (h54.vw hS (j:=1) rfl) rfl (by decide) hl_55 rfl fun a w q56 s56 hF hS h56=>hK _ _ (⟨kpN,?_⟩)
        refine e_P (v:=(pP b11 1)) 7 hF rfl (ex_fieldAddr U29 rfl sz24 rfl rfl) fun a hF=>e_one 8 (by kernel_rfl) (e_store (vs:=[s56.v]) (cs':=[(iV t_7.1.Level),s56.v,s9.v,(iV t_7.1.Sum)]) 4 0 hF hS rfl rfl sz24 rfl rfl rfl rfl rfl rfl rfl rfl fun a w hF hS=>⟨kpN,?_⟩)
        refine e_end (by kernel_rfl) (n_jn ?_) _
        obtain rfl:=someI hj13
        exact ⟨q56,s56,_,_,rfl,hF.sub ⟨rfl,rfl,trivial⟩,hS.sel [0,5,2,4,6] (by decide),h53,(hk53.trans (hk14.trans hk10)),h56,h9⟩
     ·rintro a w ⟨q60,s60,p_c_57,t_59,rfl,hF,hS,h58,h58k,h60,h61⟩
      refine n_jn ?_
      obtain rfl:=someI hj3
      exact ⟨q60,s60,q9,s9,_,_,rfl,hF.sub ⟨rfl,rfl,trivial⟩,hS,h58,h58k,h60,h61⟩
   ·rintro a w ⟨q65,s65,q66,s66,p_c_62,t_64,rfl,hF,hS,h63,h63k,h65,h66⟩
    refine n_jn ?_
    obtain rfl:=someI hj1
    exact ⟨q65,s65,q66,s66,_,_,rfl,hF.sub ⟨rfl,rfl,trivial⟩,hS,h63,h63k,h65,h66⟩
  ·have hj1:=cond_t hc2 hj1
   refine q_cond_t hF rfl hc2 (q_region (q_m hF rfl fun a hF=>q_do rfl fun _ hK=>wp_buildSlice' (l:=([-1,3,4] : List Int)) (cells:=[(iV (-1)),(iV 3),(iV 4)]) hF hS U24 inf3 rfl rfl (by kernel_rfl) rfl rfl rfl ⟨rfl,rfl,rfl,rfl⟩ rfl rfl fun a w q67 s67 hF hS h67 _=>hK _ _ ?_))
   have hS : St _ _ _ _ [[⟨b_p_c,[s1.v,(iV t_13.2.at_),(.int .u64 t_13.2.seed.v)],59⟩],q67,[⟨b11,[(iV t_7.1.Level),s8.v,s9.v,(iV t_7.1.Sum)],29⟩],q8,q9,[⟨b5,[(iV 0),nilS.v,nilS.v,(iV 0)],29⟩],[⟨b4,[s2.v],26⟩]]:=hS.sel [1,0,2,3,4,5,6] (by decide)
   have hS68 : St _ _ _ _ ([[⟨b_p_c,[s1.v,(iV t_13.2.at_),(.int .u64 t_13.2.seed.v)],59⟩]]++[q67,[⟨b11,[(iV t_7.1.Level),s8.v,s9.v,(iV t_7.1.Sum)],29⟩],q8,q9,[⟨b5,[(iV 0),nilS.v,nilS.v,(iV 0)],29⟩],[⟨b4,[s2.v],26⟩]]):=hS
   obtain ⟨m68,hl68,hE68,hz68⟩:=hS68.lendX
   obtain ⟨t_69,ht_69,hj1⟩:=bindS hj1
   refine q_do rfl fun _ hK=>wp_callX (vs:=[(pP b_p_c 0),s67.v]) hF Tryz.func65 (by kernel_rfl) rfl rfl rfl (c_spec_l1Cur_among t_13.2 ([-1,3,4] : List Int) t_69 ht_69 _ m68 b_p_c s1 (h14.mono hl68) s67 (h67.froz hl68 (hz68 0 _ rfl)) _ hE68) fun a w _ hR hF=>hK _ _ ?_
   obtain ⟨rfl,hR68,hk70⟩:=hR
   have hS : St _ _ _ _ [[⟨b_p_c,[s1.v,(iV t_69.2.at_),(.int .u64 t_69.2.seed.v)],59⟩],q67,[⟨b11,[(iV t_7.1.Level),s8.v,s9.v,(iV t_7.1.Sum)],29⟩],q8,q9,[⟨b5,[(iV 0),nilS.v,nilS.v,(iV 0)],29⟩],[⟨b4,[s2.v],26⟩]]:=hS68.leaveF hR68
   have h70 : Rd m s1 t_69.2.code:=by rw [hk70]; exact h14
   refine q_y (v:=(pP b11 0)) hF hS (ex_fieldAddr U29 rfl sz3 rfl rfl) fun a hF=>q_store (vs:=[(iV t_69.1)]) (cs':=[(iV t_69.1),s8.v,s9.v,(iV t_7.1.Sum)]) 2 0 hF hS sz3 rfl rfl rfl rfl rfl rfl rfl rfl fun a w hF hS=>q_end (n_jn ?_)
   obtain rfl:=someI hj1
   exact ⟨q8,s8,q9,s9,_,_,rfl,hF.sub ⟨rfl,rfl,trivial⟩,hS.sel [3,4,0,2,5] (by decide),h70,(hk70.trans (hk14.trans hk10)),h8,h9⟩
 ·rintro a w ⟨q74,s74,q75,s75,p_c_71,t_73,rfl,hF,hS,h72,h72k,h74,h75⟩
  refine n_ib (n_sq ?_)
  refine q_sr (q_y (v:=(.agg #[(iV t_73.Level),s74.v,s75.v,(iV t_73.Sum)])) hF hS (ex_loadA (vs:=[(iV t_73.Level),s74.v,s75.v,(iV t_73.Sum)]) 3 0 U29 rfl sz29 rfl rfl rfl rfl) fun a hF=>q_store (vs:=[(iV t_73.Level),s74.v,s75.v,(iV t_73.Sum)]) (cs':=[(iV t_73.Level),s74.v,s75.v,(iV t_73.Sum)]) 4 0 hF hS sz29 rfl rfl rfl rfl rfl rfl rfl rfl fun a w hF hS=>q_end (n_sq (q_ret ?_)))
  obtain rfl:=someI hr
  exact ret_ofX hF hS rfl (.cellA (us:=[(iV t_73.Level),s74.v,s75.v,(iV t_73.Sum)]) 4 0 U29 rfl sz29 rfl rfl rfl rfl .nil) ⟨q74,q75,s74,s75,rfl,hS.sel [2,0,1] (by decide),h74,h75,h72k⟩

theorem c_spec_l1Cur_tables (p_c : spec_l1Cur) (p_g : impl_Geo) (p_s : List impl_Variable) (r : (List impl_Table) × spec_l1Cur) (hr : spec_l1Cur_tables p_c p_g p_s = some r) (w0 : World) (m : Mem) (b_p_c : Nat) (s1 : Sl) (h1 : Rd m s1 p_c.code) (s2 : Sl) (h2 : Rd m s2 p_g.Parents) (s3 : Sl) (h3 : Rd m s3 p_s) (X : List Nat) (hS : St X w0 w0 m [[⟨b_p_c,[s1.v,(iV p_c.at_),(.int .u64 p_c.seed.v)],59⟩]]) :
  RetX Tryz.prog 48 [(pP b_p_c 0),(.agg #[s2.v]),s3.v] w0 (fun v w=>∃ (m' : Mem) (q0' : Piece) (s0' : Sl),v = s0'.v∧MLe X w0.heap.size m m'∧St X w0 w m' [[⟨b_p_c,[s1.v,(iV r.2.at_),(.int .u64 r.2.seed.v)],59⟩],q0']∧OwnL m' 29 q0' s0' r.1∧r.2.code = p_c.code):=by
 unfold spec_l1Cur_tables at hr
 refine ret_startX Tryz.func48 rfl 49 rfl rfl fun a hF=>q_sr (q_box (cs:=[s2.v]) hF hS rfl rfl rfl fun a w b4 hF hS=>q_s hF rfl fun a hF=>q_end (n_sq (q_sr (q_s hF rfl fun a hF=>q_end (n_sq (q_seq (q_sr (q_m hF rfl fun a hF=>?_))))))))
 have hS : St _ _ _ _ [[⟨b_p_c,[s1.v,(iV p_c.at_),(.int .u64 p_c.seed.v)],59⟩],[⟨b4,[s2.v],26⟩]]:=hS.sel [1,0] (by decide)
 have hS5 : St _ _ _ _ ([[⟨b_p_c,[s1.v,(iV p_c.at_),(.int .u64 p_c.seed.v)],59⟩]]++[[⟨b4,[s2.v],26⟩]]):=hS
 have hE5:=hS5.enter
 obtain ⟨t_6,ht_6,hr⟩:=bindS hr
 refine q_do rfl fun _ hK=>wp_callX (vs:=[(pP b_p_c 0),(iV 5)]) hF Tryz.func62 (by kernel_rfl) rfl rfl rfl (c_spec_l1Cur_pick p_c 5 t_6 ht_6 _ m b_p_c s1 h1 _ hE5) fun a w _ hR hF=>hK _ _ ?_
 obtain ⟨rfl,hR5,hk7⟩:=hR
 have hS : St _ _ _ _ [[⟨b_p_c,[s1.v,(iV t_6.2.at_),(.int .u64 t_6.2.seed.v)],59⟩],[⟨b4,[s2.v],26⟩]]:=hS5.leaveF hR5
 have h7 : Rd m s1 t_6.2.code:=by rw [hk7]; exact h1
 refine q_s hF rfl fun a hF=>q_end (n_sq (q_block ?_))
 obtain ⟨o1,hl1,hr⟩:=bindS hr
 refine q_loop (fun (s : (List impl_Table) × Int × spec_l1Cur) a w=>∃ (m13 : Mem),∃ (q9 : Piece),∃ (s9 : Sl),∃ l_8,∃ k_10,∃ p_c_11,s = (l_8,k_10,p_c_11)∧Fr a 49 [(0,(pP b_p_c 0)),(2,s3.v),(4,(pP b4 0)),(7,s9.v),(8,(iV k_10))]∧St X w0 w m13 [q9,[⟨b_p_c,[s1.v,(iV p_c_11.at_),(.int .u64 p_c_11.seed.v)],59⟩],[⟨b4,[s2.v],26⟩]]∧MLe X w0.heap.size m m13∧OwnL m13 29 q9 s9 l_8∧Rd m13 s1 p_c_11.code∧p_c_11.code = p_c.code) (fun (o : (List impl_Table) × spec_l1Cur) e a w=>∃ (m28 : Mem),∃ (q25 : Piece),∃ (s25 : Sl),∃ l_24,∃ p_c_26,o = (l_24,p_c_26)∧e = .exit 0∧Fr a 49 [(0,(pP b_p_c 0)),(2,s3.v),(4,(pP b4 0)),(7,s25.v)]∧St X w0 w m28 [q25,[⟨b_p_c,[s1.v,(iV p_c_26.at_),(.int .u64 p_c_26.seed.v)],59⟩],[⟨b4,[s2.v],26⟩]]∧MLe X w0.heap.size m m28∧OwnL m28 29 q25 s25 l_24∧Rd m28 s1 p_c_26.code∧p_c_26.code = p_c.code) hl1 ⟨m,[],nilS,_,_,_,rfl,hF.sub ⟨rfl,rfl,rfl,rfl,rfl,trivial⟩,hS.sel [2,0,1] (by decide),(MLe.refl _ _),(OwnL.nil (α:=impl_Table) m 29),h7,hk7⟩ ?_ ?_
 ·clear hF hS
  rintro s a w st ⟨m13,q9,s9,l_8,k_10,p_c_11,rfl,hF,hS,hm13,h9,h12,h12k⟩ hb1
  unfold spec_l1Cur_tables_l1 at hb1
  refine q_seq (q_sr (q_m hF rfl fun a hF=>q_y (v:=(.bool (decide (0 < k_10)))) hF hS (ex_ibin rfl rfl rfl) fun a hF=>q_end (n_sq ?_)))
  rcases bcase (decide (0 < k_10)) with hc2 | hc2
  ·have hb1:=cond_f hc2 hb1
   refine q_cond_f hF rfl hc2 (q_exit (x_sq ?_))
   obtain rfl:=someI hb1
   exact ⟨nofun,.inl ⟨m13,q9,s9,_,_,rfl,rfl,hF.sub ⟨rfl,rfl,rfl,rfl,trivial⟩,hS,hm13,h9,h12,h12k⟩⟩
  ·have hb1:=cond_t hc2 hb1
   refine q_cond_t hF rfl hc2 (q_skipc (n_sq (q_seq (q_block (q_region (q_m hF rfl fun a hF=>q_m hF rfl fun a hF=>q_y (v:=(.agg #[s2.v])) hF hS (ex_loadA (vs:=[s2.v]) 2 0 U26 rfl sz26 rfl rfl rfl rfl) fun a hF=>q_m hF rfl fun a hF=>?_))))))
   have hS : St _ _ _ _ [[⟨b_p_c,[s1.v,(iV p_c_11.at_),(.int .u64 p_c_11.seed.v)],59⟩],q9,[⟨b4,[s2.v],26⟩]]:=hS.sel [1,0,2] (by decide)
   have hS14 : St _ _ _ _ ([[⟨b_p_c,[s1.v,(iV p_c_11.at_),(.int .u64 p_c_11.seed.v)],59⟩]]++[q9,[⟨b4,[s2.v],26⟩]]):=hS
   have hE14:=hS14.enter
   obtain ⟨t_15,ht_15,hb1⟩:=bindS hb1
   refine q_do rfl fun _ hK=>wp_callX (vs:=[(pP b_p_c 0),(.agg #[s2.v]),s3.v]) hF Tryz.func41 (by kernel_rfl) rfl rfl rfl (c_spec_l1Cur_table p_c_11 p_g p_s t_15 ht_15 _ m13 b_p_c s1 h12 s2 (h2.mono hm13.le) s3 (h3.mono hm13.le) _ hE14) fun a w _ hR hF=>hK _ _ ?_
   obtain ⟨q16,q17,s16,s17,rfl,hR14,h16,h17,hk18⟩:=hR
   have hS : St _ _ _ _ [[⟨b_p_c,[s1.v,(iV t_15.2.at_),(.int .u64 t_15.2.seed.v)],59⟩],q16,q17,q9,[⟨b4,[s2.v],26⟩]]:=hS14.leaveF hR14
   have h18 : Rd m13 s1 t_15.2.code:=by rw [hk18]; exact h12
   have hS : St _ _ _ _ [q16,[⟨b_p_c,[s1.v,(iV t_15.2.at_),(.int .u64 t_15.2.seed.v)],59⟩],q17,q9,[⟨b4,[s2.v],26⟩]]:=hS.sel [1,0,2,3,4] (by decide)
   obtain ⟨m20,hm20,hS,hz20⟩:=hS.freeze
   have h20:=h16.froz hm20.le hz20
   have hS : St _ _ _ _ [q17,[⟨b_p_c,[s1.v,(iV t_15.2.at_),(.int .u64 t_15.2.seed.v)],59⟩],q9,[⟨b4,[s2.v],26⟩]]:=hS.sel [1,0,2,3] (by decide)
   obtain ⟨m21,hm21,hS,hz21⟩:=hS.freeze
   have h21:=(h17.mono hm20.le).froz hm21.le hz21
   refine q_do rfl fun _ hK=>wp_buildSlice' (l:=([t_15.1] : List impl_Table)) (cells:=[(iV t_15.1.Level),s16.v,s17.v,(iV t_15.1.Sum)]) hF hS U44 inf29 rfl rfl (by kernel_rfl) rfl rfl rfl ⟨⟨s16,s17,rfl,(h20.mono hm21.le),h21⟩,rfl⟩ rfl rfl fun a w q19 s19 hF hS h19 _=>hK _ _ ?_
   have hS : St _ _ _ _ [q9,q19,[⟨b_p_c,[s1.v,(iV t_15.2.at_),(.int .u64 t_15.2.seed.v)],59⟩],[⟨b4,[s2.v],26⟩]]:=hS.sel [2,0,1,3] (by decide)
   obtain ⟨l_22,hl_22,hb1⟩:=bindS hb1
   refine q_do rfl fun _ hK=>wp_append hF hS ((h9.mono hm20.le).mono hm21.le) U44 inf29 rfl rfl rfl rfl (h19.vw hS (j:=1) rfl) rfl (by decide) hl_22 rfl fun a w q23 s23 hF hS h23=>hK _ _ (q_s hF rfl fun a hF=>q_end (n_ib (n_sq (q_region (q_m hF rfl fun a hF=>q_y (v:=(iV (w64 (k_10 - 1)))) hF hS (ex_ibin rfl rfl rfl) fun a hF=>q_s hF rfl fun a hF=>q_end ?_)))))
   obtain rfl:=someI hb1
   exact ⟨rfl,m21,q23,s23,_,_,_,rfl,hF.sub ⟨rfl,rfl,rfl,rfl,rfl,trivial⟩,hS.mask [true,false,true,true],((hm13.trans hm20).trans hm21),h23,((h18.mono hm20.le).mono hm21.le),(hk18.trans h12k)⟩
 ·rintro e a w ⟨m28,q25,s25,l_24,p_c_26,rfl,rfl,hF,hS,hm28,h25,h27,h27k⟩
  refine x_ib (n_sq ?_)
  refine q_seq (q_sr (q_m hF rfl fun a hF=>?_))
  have hS : St _ _ _ _ [[⟨b_p_c,[s1.v,(iV p_c_26.at_),(.int .u64 p_c_26.seed.v)],59⟩],q25,[⟨b4,[s2.v],26⟩]]:=hS.sel [1,0,2] (by decide)
  have hS29 : St _ _ _ _ ([[⟨b_p_c,[s1.v,(iV p_c_26.at_),(.int .u64 p_c_26.seed.v)],59⟩]]++[q25,[⟨b4,[s2.v],26⟩]]):=hS
  have hE29:=hS29.enter
  obtain ⟨t_30,ht_30,hr⟩:=bindS hr
  refine q_do rfl fun _ hK=>wp_callX (vs:=[(pP b_p_c 0),(iV 30)]) hF Tryz.func62 (by kernel_rfl) rfl rfl rfl (c_spec_l1Cur_pick p_c_26 30 t_30 ht_30 _ m28 b_p_c s1 h27 _ hE29) fun a w _ hR hF=>hK _ _ ?_
  obtain ⟨rfl,hR29,hk31⟩:=hR
  have hS : St _ _ _ _ [[⟨b_p_c,[s1.v,(iV t_30.2.at_),(.int .u64 t_30.2.seed.v)],59⟩],q25,[⟨b4,[s2.v],26⟩]]:=hS29.leaveF hR29
  have h31 : Rd m28 s1 t_30.2.code:=by rw [hk31]; exact h27
  refine q_end (n_sq (q_block (q_sr (q_y (v:=(.bool (t_30.1 == 0))) hF hS (ex_ibin rfl rfl rfl) fun a hF=>q_s hF rfl fun a hF=>q_end (n_sq ?_)))))
  obtain ⟨j3,hj3,hr⟩:=bindS hr
  refine q_join (fun a w=>∃ (m74 : Mem),∃ (q71 : Piece),∃ (s71 : Sl),∃ l_70,∃ p_c_72,j3 = (l_70,p_c_72)∧Fr a 49 [(7,s71.v)]∧St X w0 w m74 [q71,[⟨b_p_c,[s1.v,(iV p_c_72.at_),(.int .u64 p_c_72.seed.v)],59⟩]]∧MLe X w0.heap.size m28 m74∧OwnL m74 29 q71 s71 l_70∧Rd m74 s1 p_c_72.code∧p_c_72.code = p_c.code) ?_ ?_
  ·rcases bcase (t_30.1 == 0) with hc4 | hc4
   ·have hj3:=cond_f hc4 hj3
    refine q_cond_f hF rfl hc4 (q_sr (q_y (v:=(.bool (t_30.1 == 1))) hF hS (ex_ibin rfl rfl rfl) fun a hF=>q_s hF rfl fun a hF=>q_end (n_sq ?_)))
    obtain ⟨j5,hj5,hj3⟩:=bindS hj3
    refine q_join (fun a w=>∃ (m46 : Mem),∃ (q43 : Piece),∃ (s43 : Sl),∃ l_42,∃ p_c_44,j5 = (l_42,p_c_44)∧Fr a 49 [(7,s43.v)]∧St X w0 w m46 [q43,[⟨b_p_c,[s1.v,(iV p_c_44.at_),(.int .u64 p_c_44.seed.v)],59⟩]]∧MLe X w0.heap.size m28 m46∧OwnL m46 29 q43 s43 l_42∧Rd m46 s1 p_c_44.code∧p_c_44.code = p_c.code) ?_ ?_
    ·rcases bcase (t_30.1 == 1) with hc6 | hc6
     ·have hj5:=cond_f hc6 hj5
      refine q_cond_f hF rfl hc6 (q_skipc (n_jn ?_))
      obtain rfl:=someI hj5
      exact ⟨m28,q25,s25,_,_,rfl,hF.sub ⟨rfl,trivial⟩,hS.sel [1,0] (by decide),(MLe.refl _ _),h25,h31,(hk31.trans h27k)⟩
     ·have hj5:=cond_t hc6 hj5
      refine q_cond_t hF rfl hc6 (q_region (q_m hF rfl fun a hF=>q_m hF rfl fun a hF=>q_y (v:=(.agg #[s2.v])) hF hS (ex_loadA (vs:=[s2.v]) 2 0 U26 rfl sz26 rfl rfl rfl rfl) fun a hF=>q_m hF rfl fun a hF=>?_))
      have hS32 : St _ _ _ _ ([[⟨b_p_c,[s1.v,(iV t_30.2.at_),(.int .u64 t_30.2.seed.v)],59⟩]]++[q25,[⟨b4,[s2.v],26⟩]]):=hS
      have hE32:=hS32.enter
      obtain ⟨t_33,ht_33,hj5⟩:=bindS hj5
      refine q_do rfl fun _ hK=>wp_callX (vs:=[(pP b_p_c 0),(.agg #[s2.v]),s3.v]) hF Tryz.func29 (by kernel_rfl) rfl rfl rfl (c_spec_l1Cur_anyTable t_30.2 p_g p_s t_33 ht_33 _ m28 b_p_c s1 h31 s2 (h2.mono hm28.le) s3 (h3.mono hm28.le) _ hE32) fun a w _ hR hF=>hK _ _ ?_
      obtain ⟨q34,q35,s34,s35,rfl,hR32,h34,h35,hk36⟩:=hR
      have hS : St _ _ _ _ [[⟨b_p_c,[s1.v,(iV t_33.2.at_),(.int .u64 t_33.2.seed.v)],59⟩],q34,q35,q25,[⟨b4,[s2.v],26⟩]]:=hS32.leaveF hR32
      have h36 : Rd m28 s1 t_33.2.code:=by rw [hk36]; exact h31
      have hS : St _ _ _ _ [q34,[⟨b_p_c,[s1.v,(iV t_33.2.at_),(.int .u64 t_33.2.seed.v)],59⟩],q35,q25,[⟨b4,[s2.v],26⟩]]:=hS.sel [1,0,2,3,4] (by decide)
      obtain ⟨m38,hm38,hS,hz38⟩:=hS.freeze
      have h38:=h34.froz hm38.le hz38
      have hS : St _ _ _ _ [q35,[⟨b_p_c,[s1.v,(iV t_33.2.at_),(.int .u64 t_33.2.seed.v)],59⟩],q25,[⟨b4,[s2.v],26⟩]]:=hS.sel [1,0,2,3] (by decide)
      obtain ⟨m39,hm39,hS,hz39⟩:=hS.freeze
      have h39:=(h35.mono hm38.le).froz hm39.le hz39
      refine q_do rfl fun _ hK=>wp_buildSlice' (l:=([t_33.1] : List impl_Table)) (cells:=[(iV t_33.1.Level),s34.v,s35.v,(iV t_33.1.Sum)]) hF hS U44 inf29 rfl rfl (by kernel_rfl) rfl rfl rfl ⟨⟨s34,s35,rfl,(h38.mono hm39.le),h39⟩,rfl⟩ rfl rfl fun a w q37 s37 hF hS h37 _=>hK _ _ ?_
      have hS : St _ _ _ _ [q25,q37,[⟨b_p_c,[s1.v,(iV t_33.2.at_),(.int .u64 t_33.2.seed.v)],59⟩],[⟨b4,[s2.v],26⟩]]:=hS.sel [2,0,1,3] (by decide)
      obtain ⟨l_40,hl_40,hj5⟩:=bindS hj5
      refine q_do rfl fun _ hK=>wp_append hF hS ((h25.mono hm38.le).mono hm39.le) U44 inf29 rfl rfl rfl rfl (h37.vw hS (j:=1) rfl) rfl (by decide) hl_40 rfl fun a w q41 s41 hF hS h41=>hK _ _ (q_s hF rfl fun a hF=>q_end (n_jn ?_))
      obtain rfl:=someI hj5
      exact ⟨m39,q41,s41,_,_,rfl,hF.sub ⟨rfl,trivial⟩,hS.mask [true,false,true,false],(hm38.trans hm39),h41,((h36.mono hm38.le).mono hm39.le),(hk36.trans (hk31.trans h27k))⟩
    ·rintro a w ⟨m46,q43,s43,l_42,p_c_44,rfl,hF,hS,hm46,h43,h45,h45k⟩
     refine n_jn ?_
     obtain rfl:=someI hj3
     exact ⟨m46,q43,s43,_,_,rfl,hF.sub ⟨rfl,trivial⟩,hS,hm46,h43,h45,h45k⟩
   ·have hj3:=cond_t hc4 hj3
    refine q_cond_t hF rfl hc4 (q_block ?_)
    obtain ⟨o7,hl7,hj3⟩:=bindS hj3
    refine q_loop (fun (s : (List impl_Table) × spec_l1Cur) a w=>∃ (m51 : Mem),∃ (q48 : Piece),∃ (s48 : Sl),∃ l_47,∃ p_c_49,s = (l_47,p_c_49)∧Fr a 49 [(0,(pP b_p_c 0)),(2,s3.v),(4,(pP b4 0)),(7,s48.v)]∧St X w0 w m51 [q48,[⟨b_p_c,[s1.v,(iV p_c_49.at_),(.int .u64 p_c_49.seed.v)],59⟩],[⟨b4,[s2.v],26⟩]]∧MLe X w0.heap.size m28 m51∧OwnL m51 29 q48 s48 l_47∧Rd m51 s1 p_c_49.code∧p_c_49.code = p_c.code) (fun (o : (List impl_Table) × spec_l1Cur) e a w=>∃ (m69 : Mem),∃ (q66 : Piece),∃ (s66 : Sl),∃ l_65,∃ p_c_67,o = (l_65,p_c_67)∧e = .exit 3∧Fr a 49 [(7,s66.v)]∧St X w0 w m69 [q66,[⟨b_p_c,[s1.v,(iV p_c_67.at_),(.int .u64 p_c_67.seed.v)],59⟩]]∧MLe X w0.heap.size m28 m69∧OwnL m69 29 q66 s66 l_65∧Rd m69 s1 p_c_67.code∧p_c_67.code = p_c.code) hl7 ⟨m28,q25,s25,_,_,rfl,hF.sub ⟨rfl,rfl,rfl,rfl,trivial⟩,hS.sel [1,0,2] (by decide),(MLe.refl _ _),h25,h31,(hk31.trans h27k)⟩ ?_ ?_
    ·clear hF hS
     rintro s a w st ⟨m51,q48,s48,l_47,p_c_49,rfl,hF,hS,hm51,h48,h50,h50k⟩ hb7
     unfold spec_l1Cur_tables_l2 at hb7
     refine q_seq (q_sr (q_m hF rfl fun a hF=>q_y (v:=(iV (goLen l_47))) hF hS (ex_len U44 rfl h48.len) fun a hF=>q_m hF rfl fun a hF=>?_))
     have hS : St _ _ _ _ [[⟨b_p_c,[s1.v,(iV p_c_49.at_),(.int .u64 p_c_49.seed.v)],59⟩],q48,[⟨b4,[s2.v],26⟩]]:=hS.sel [1,0,2] (by decide)
     have hS52 : St _ _ _ _ ([[⟨b_p_c,[s1.v,(iV p_c_49.at_),(.int .u64 p_c_49.seed.v)],59⟩]]++[q48,[⟨b4,[s2.v],26⟩]]):=hS
     have hE52:=hS52.enter
     obtain ⟨t_53,ht_53,hb7⟩:=bindS hb7
     refine q_do rfl fun _ hK=>wp_callX (vs:=[(pP b_p_c 0),(iV 2)]) hF Tryz.func62 (by kernel_rfl) rfl rfl rfl (c_spec_l1Cur_pick p_c_49 2 t_53 ht_53 _ m51 b_p_c s1 h50 _ hE52) fun a w _ hR hF=>hK _ _ ?_
     obtain ⟨rfl,hR52,hk54⟩:=hR
     have hS : St _ _ _ _ [[⟨b_p_c,[s1.v,(iV t_53.2.at_),(.int .u64 t_53.2.seed.v)],59⟩],q48,[⟨b4,[s2.v],26⟩]]:=hS52.leaveF hR52
     have h54 : Rd m51 s1 t_53.2.code:=by rw [hk54]; exact h50
     refine q_y (v:=(iV (w64 (20 + t_53.1)))) hF hS (ex_ibin rfl rfl rfl) fun a hF=>q_y (v:=(.bool (decide ((goLen l_47) < (w64 (20 + t_53.1)))))) hF hS (ex_ibin rfl rfl rfl) fun a hF=>q_end (n_sq ?_)
     rcases bcase (decide ((goLen l_47) < (w64 (20 + t_53.1)))) with hc8 | hc8
     ·have hb7:=cond_f hc8 hb7
      refine q_cond_f hF rfl hc8 (q_exit (x_sq ?_))
      obtain rfl:=someI hb7
      exact ⟨nofun,.inl ⟨m51,q48,s48,_,_,rfl,rfl,hF.sub ⟨rfl,trivial⟩,hS.sel [1,0] (by decide),hm51,h48,h54,(hk54.trans h50k)⟩⟩
     ·have hb7:=cond_t hc8 hb7
      refine q_cond_t hF rfl hc8 (q_skipc (n_sq (q_block (q_region (q_m hF rfl fun a hF=>q_m hF rfl fun a hF=>q_y (v:=(.agg #[s2.v])) hF hS (ex_loadA (vs:=[s2.v]) 2 0 U26 rfl sz26 rfl rfl rfl rfl) fun a hF=>q_m hF rfl fun a hF=>?_)))))
      have hS55 : St _ _ _ _ ([[⟨b_p_c,[s1.v,(iV t_53.2.at_),(.int .u64 t_53.2.seed.v)],59⟩]]++[q48,[⟨b4,[s2.v],26⟩]]):=hS
      have hE55:=hS55.enter
      obtain ⟨t_56,ht_56,hb7⟩:=bindS hb7
      refine q_do rfl fun _ hK=>wp_callX (vs:=[(pP b_p_c 0),(.agg #[s2.v]),s3.v]) hF Tryz.func41 (by kernel_rfl) rfl rfl rfl (c_spec_l1Cur_table t_53.2 p_g p_s t_56 ht_56 _ m51 b_p_c s1 h54 s2 ((h2.mono hm28.le).mono hm51.le) s3 ((h3.mono hm28.le).mono hm51.le) _ hE55) fun a w _ hR hF=>hK _ _ ?_
      obtain ⟨q57,q58,s57,s58,rfl,hR55,h57,h58,hk59⟩:=hR
      have hS : St _ _ _ _ [[⟨b_p_c,[s1.v,(iV t_56.2.at_),(.int .u64 t_56.2.seed.v)],59⟩],q57,q58,q48,[⟨b4,[s2.v],26⟩]]:=hS55.leaveF hR55
      have h59 : Rd m51 s1 t_56.2.code:=by rw [hk59]; exact h54
      have hS : St _ _ _ _ [q57,[⟨b_p_c,[s1.v,(iV t_56.2.at_),(.int .u64 t_56.2.seed.v)],59⟩],q58,q48,[⟨b4,[s2.v],26⟩]]:=hS.sel [1,0,2,3,4] (by decide)
      obtain ⟨m61,hm61,hS,hz61⟩:=hS.freeze
      have h61:=h57.froz hm61.le hz61
      have hS : St _ _ _ _ [q58,[⟨b_p_c,[s1.v,(iV t_56.2.at_),(.int .u64 t_56.2.seed.v)],59⟩],q48,[⟨b4,[s2.v],26⟩]]:=hS.sel [1,0,2,3] (by decide)
      obtain ⟨m62,hm62,hS,hz62⟩:=hS.freeze
      have h62:=(h58.mono hm61.le).froz hm62.le hz62
      refine q_do rfl fun _ hK=>wp_buildSlice' (l:=([t_56.1] : List impl_Table)) (cells:=[(iV t_56.1.Level),s57.v,s58.v,(iV t_56.1.Sum)]) hF hS U44 inf29 rfl rfl (by kernel_rfl) rfl rfl rfl ⟨⟨s57,s58,rfl,(h61.mono hm62.le),h62⟩,rfl⟩ rfl rfl fun a w q60 s60 hF hS h60 _=>hK _ _ ?_
      have hS : St _ _ _ _ [q48,q60,[⟨b_p_c,[s1.v,(iV t_56.2.at_),(.int .u64 t_56.2.seed.v)],59⟩],[⟨b4,[s2.v],26⟩]]:=hS.sel [2,0,1,3] (by decide)
      obtain ⟨l_63,hl_63,hb7⟩:=bindS hb7
      refine q_do rfl fun _ hK=>wp_append hF hS ((h48.mono hm61.le).mono hm62.le) U44 inf29 rfl rfl rfl rfl (h60.vw hS (j:=1) rfl) rfl (by decide) hl_63 rfl fun a w q64 s64 hF hS h64=>hK _ _ (q_s hF rfl fun a hF=>q_end (n_ib ?_))
      obtain rfl:=someI hb7
      exact ⟨rfl,m62,q64,s64,_,_,rfl,hF.sub ⟨rfl,rfl,rfl,rfl,trivial⟩,hS.mask [true,false,true,true],((hm51.trans hm61).trans hm62),h64,((h59.mono hm61.le).mono hm62.le),(hk59.trans (hk54.trans h50k))⟩
    ·rintro e a w ⟨m69,q66,s66,l_65,p_c_67,rfl,rfl,hF,hS,hm69,h66,h68,h68k⟩
     refine x_ib (n_jn ?_)
     obtain rfl:=someI hj3
     exact ⟨m69,q66,s66,_,_,rfl,hF.sub ⟨rfl,trivial⟩,hS,hm69,h66,h68,h68k⟩
  ·rintro a w ⟨m74,q71,s71,l_70,p_c_72,rfl,hF,hS,hm74,h71,h73,h73k⟩
   refine n_ib (n_sq ?_)
   refine q_sr (q_m hF rfl fun a hF=>q_s hF rfl fun a hF=>q_end (n_sq (q_ret ?_)))
   obtain rfl:=someI hr
   exact ret_ofX hF hS rfl (.tmp rfl .nil) ⟨m74,q71,s71,rfl,(hm28.trans hm74),hS.sel [1,0] (by decide),h71,h73k⟩

theorem c_spec_DrawPlanText (p_code : List (K .u8)) (r : impl_Geo × (List impl_Variable) × (List impl_Table)) (hr : spec_DrawPlanText p_code = some r) (w0 : World) (m : Mem) (hv : Vis m w0) (s1 : Sl) (h1 : Rd m s1 p_code) :
  Ret Tryz.prog 17 [s1.v] w0 (fun v w=>∃ (m' : Mem) (q2' : Piece) (s0' : Sl) (s1' : Sl) (s2' : Sl),v = (.tuple #[(.agg #[s0'.v]),s1'.v,s2'.v])∧MLe [] w0.heap.size m m'∧St [] w0 w m' [q2']∧Rd m' s0' r.1.Parents∧Rd m' s1' r.2.1∧OwnL m' 29 q2' s2' r.2.2):=by
 unfold spec_DrawPlanText at hr
 refine ret_start Tryz.func17 rfl 24 rfl rfl m hv fun a hF hS=>q_sr (q_alloc (cs:=[nilS.v]) hF hS rfl rfl rfl fun a w b2 hF hS=>q_s hF rfl fun a hF=>q_s hF rfl fun a hF=>q_end (n_sq (q_sr (q_m hF rfl fun a hF=>q_y (v:=(.agg #[s1.v,(iV 0),(.int .u64 0)])) hF hS (ex_build (cells:=[s1.v,(iV 0),(.int .u64 0)]) rfl (by kernel_rfl)) fun a hF=>q_box (cs:=[s1.v,(iV 0),(.int .u64 0)]) hF hS rfl rfl rfl fun a w b3 hF hS=>q_s hF rfl fun a hF=>q_end (n_sq (q_sr (q_m hF rfl fun a hF=>?_)))))))
 have hS4 : St _ _ _ _ ([[⟨b3,[s1.v,(iV 0),(.int .u64 0)],59⟩]]++[[⟨b2,[nilS.v],26⟩]]):=hS
 have hE4:=hS4.enter
 obtain ⟨t_5,ht_5,hr⟩:=bindS hr
 refine q_do rfl fun _ hK=>wp_callX (vs:=[(pP b3 0)]) hF Tryz.func28 (by kernel_rfl) rfl rfl rfl (c_spec_l1Cur_anySurvey (spec_l1Cur.mk p_code 0 (⟨0⟩ : K .u64)) t_5 ht_5 _ m b3 s1 h1 _ hE4) fun a w _ hR hF=>hK _ _ ?_
 obtain ⟨m4',q6,q8,s6,s7,s8,rfl,hm4,hR4,h6,h7,h8,hk9⟩:=hR
 have hS : St _ _ _ _ [[⟨b3,[s1.v,(iV t_5.2.2.2.at_),(.int .u64 t_5.2.2.2.seed.v)],59⟩],q6,q8,[⟨b2,[nilS.v],26⟩]]:=hS4.leave hR4 hm4
 have hm4:=MLe.weakX hS4 hm4
 have h9 : Rd m4' s1 t_5.2.2.2.code:=by rw [hk9]; exact (h1.mono hm4.le)
 refine q_m hF rfl fun a hF=>q_y (v:=(.agg #[s6.v])) hF hS (ex_extract rfl rfl) fun a hF=>q_y (v:=s7.v) hF hS (ex_extract rfl rfl) fun a hF=>q_y (v:=s8.v) hF hS (ex_extract rfl rfl) fun a hF=>q_alloc (cs:=[nilS.v]) hF hS rfl rfl rfl fun a w b10 hF hS=>q_store (vs:=[s6.v]) (cs':=[s6.v]) 0 0 hF hS sz26 rfl rfl rfl rfl rfl rfl rfl rfl fun a w hF hS=>q_s hF rfl fun a hF=>q_s hF rfl fun a hF=>q_end (n_sq (q_seq (e_region ⟨[5,6],[b10]⟩ mixed fun w' hw'=>?_)))
 have hS:=hS.below hw'
 refine e_xb (v:=(.agg #[s6.v])) 0 0 hF hS (.head _) rfl rfl (ex_loadA (vs:=[s6.v]) 0 0 U26 rfl sz26 rfl rfl rfl rfl) rfl rfl (by kernel_rfl) (by kernel_rfl) (by kernel_rfl) fun a hF=>e_P (v:=s7.v) 1 hF rfl (ex_move rfl) fun a hF=>e_P (v:=(pP b3 0)) 2 hF rfl (ex_move rfl) fun a hF=>e_xb (v:=(.agg #[s6.v])) 3 0 hF hS (.head _) rfl rfl (ex_loadA (vs:=[s6.v]) 0 0 U26 rfl sz26 rfl rfl rfl rfl) rfl rfl (by kernel_rfl) (by kernel_rfl) (by kernel_rfl) fun a hF=>e_P (v:=s7.v) 4 hF rfl (ex_move rfl) fun a hF=>e_one 5 (by kernel_rfl) ?_
 have hS : St _ _ _ _ [q6,[⟨b10,[s6.v],26⟩],[⟨b3,[s1.v,(iV t_5.2.2.2.at_),(.int .u64 t_5.2.2.2.seed.v)],59⟩],q8,[⟨b2,[nilS.v],26⟩]]:=hS.sel [2,0,1,3,4] (by decide)
 obtain ⟨m11,hm11,hS,hz11⟩:=hS.freeze
 have h11:=h6.froz hm11.le hz11
 have hS : St _ _ _ _ [[⟨b3,[s1.v,(iV t_5.2.2.2.at_),(.int .u64 t_5.2.2.2.seed.v)],59⟩],[⟨b10,[s6.v],26⟩],q8,[⟨b2,[nilS.v],26⟩]]:=hS.sel [1,0,2,3] (by decide)
 have hS12 : St _ _ _ _ ([[⟨b3,[s1.v,(iV t_5.2.2.2.at_),(.int .u64 t_5.2.2.2.seed.v)],59⟩]]++[[⟨b10,[s6.v],26⟩],q8,[⟨b2,[nilS.v],26⟩]]):=hS
 have hE12:=hS12.enter
 obtain ⟨t_13,ht_13,hr⟩:=bindS hr
 have hSo:=hS
 refine e_opl rfl rfl rfl fun _ hK=>wp_callX (vs:=[(pP b3 0),(.agg #[s6.v]),s7.v]) hF Tryz.func48 (by kernel_rfl) rfl rfl rfl (c_spec_l1Cur_tables t_5.2.2.2 t_5.1 t_5.2.1 t_13 ht_13 _ m11 b3 s1 (h9.mono hm11.le) s6 h11 s7 (h7.mono hm11.le) _ hE12) fun a w _ hR hF=>hK _ _ ?_
 obtain ⟨m12',q14,s14,rfl,hm12,hR12,h14,hk15⟩:=hR
 have hS : St _ _ _ _ [[⟨b3,[s1.v,(iV t_13.2.at_),(.int .u64 t_13.2.seed.v)],59⟩],q14,[⟨b10,[s6.v],26⟩],q8,[⟨b2,[nilS.v],26⟩]]:=hS12.leave hR12 hm12
 have hm12:=MLe.weakX hS12 hm12
 have h15 : Rd m12' s1 t_13.2.code:=by rw [hk15]; exact ((h9.mono hm11.le).mono hm12.le)
 refine ⟨kpC hSo hS 1 2 rfl rfl kpN,?_⟩
 refine e_one 6 (by kernel_rfl) ?_
 have hSo:=hS
 refine e_store (vs:=[s6.v]) (cs':=[s6.v]) 4 0 hF hS rfl rfl sz26 rfl rfl rfl rfl rfl rfl rfl rfl fun a w hF hS=>⟨kpC hSo hS 2 2 rfl rfl kpN,?_⟩
 refine e_P (v:=s7.v) 7 hF rfl (ex_assign rfl) fun a hF=>e_P (v:=s14.v) 8 hF rfl (ex_assign rfl) fun a hF=>e_end (by kernel_rfl) (n_sq (q_ret ?_)) _
 obtain rfl:=someI hr
 exact ret_of hF hS rfl (.cellA (us:=[s6.v]) 4 0 U26 rfl sz26 rfl rfl rfl rfl (.tmp rfl (.tmp rfl .nil))) ⟨m12',q14,s6,s7,s14,rfl,((hm4.trans hm11).trans hm12),hS.sel [1] (by decide),(h11.mono hm12.le),((h7.mono hm11.le).mono hm12.le),h14⟩

theorem c_impl_IsGeo (p_g : impl_Geo) (r : Bool) (hr : impl_IsGeo p_g = some r) (w0 : World) (m : Mem) (hv : Vis m w0) (s1 : Sl) (h1 : Rd m s1 p_g.Parents) :
  Ret Tryz.prog 34 [(.agg #[s1.v])] w0 (fun v _=>v = (.bool r)):=by
 unfold impl_IsGeo at hr
 refine ret_start Tryz.func34 rfl 43 rfl rfl m hv fun a hF hS=>q_sr (q_box (cs:=[s1.v]) hF hS rfl rfl rfl fun a w b2 hF hS=>q_s hF rfl fun a hF=>q_end (n_sq (q_seq (q_seq ?_))))
 obtain ⟨t_5,hj1,hr⟩:=bindS hr
 refine q_join (fun a w=>Fr a 43 [(1,(pP b2 0)),(20,(.bool t_5))]∧St [] w0 w m [[⟨b2,[s1.v],26⟩]]) ?_ ?_
 ·refine q_region (q_y (v:=(pP b2 0)) hF hS (ex_fieldAddr U26 rfl sz24 rfl rfl) fun a hF=>q_y (v:=s1.v) hF hS (ex_load1 0 0 U24 rfl rfl rfl rfl) fun a hF=>q_y (v:=(iV (goLen p_g.Parents))) hF hS (ex_len U24 rfl h1.len) fun a hF=>q_y (v:=(.bool (decide ((goLen p_g.Parents) < 1)))) hF hS (ex_ibin rfl rfl rfl) fun a hF=>q_m hF rfl fun a hF=>?_)
  rcases bcase (decide ((goLen p_g.Parents) < 1)) with hc2 | hc2
  ·have hj1:=cond_f hc2 hj1
   refine q_g (v:=(pP b2 0)) hF hS (ex_fieldAddr U26 rfl sz24 rfl rfl) hc2 fun a hF=>q_g (v:=s1.v) hF hS (ex_load1 0 0 U24 rfl rfl rfl rfl) hc2 fun a hF=>q_g (v:=(iV (goLen p_g.Parents))) hF hS (ex_len U24 rfl h1.len) hc2 fun a hF=>q_g (v:=(.bool (decide (30 < (goLen p_g.Parents))))) hF hS (ex_ibin rfl rfl rfl) hc2 fun a hF=>q_y (v:=(.bool (decide (30 < (goLen p_g.Parents))))) hF hS (ex_pick_f rfl rfl hc2) fun a hF=>q_m hF rfl fun a hF=>?_
   rcases bcase (decide (30 < (goLen p_g.Parents))) with hc3 | hc3
   ·have hj1:=cond_f hc3 hj1
    refine q_g (v:=(pP b2 0)) hF hS (ex_fieldAddr U26 rfl sz24 rfl rfl) hc3 fun a hF=>q_g (v:=s1.v) hF hS (ex_load1 0 0 U24 rfl rfl rfl rfl) hc3 fun a hF=>?_
    obtain ⟨e_3,he_3,hj1⟩:=bindS hj1
    obtain ⟨vs4,at4,d4⟩:=h1.at he_3 1 rfl
    obtain rfl : vs4 = [(iV e_3)]:=d4
    refine q_g (v:=(elP s1 ((0 : Int).toNat * 1))) hF hS (ex_indexAddr U24 sz3 rfl rfl (h1.idx he_3)) hc3 fun a hF=>q_g (v:=(iV e_3)) hF hS (ex_loadE1 0 U3 rfl rfl ((at4).at) rfl rfl) hc3 fun a hF=>q_g (v:=(.bool (e_3 != (-1)))) hF hS (ex_ibin rfl rfl rfl) hc3 fun a hF=>q_y (v:=(.bool (e_3 != (-1)))) hF hS (ex_pick_f rfl rfl hc3) fun a hF=>q_end (n_jn ?_)
    obtain rfl:=someI hj1
    exact ⟨hF.sub ⟨rfl,rfl,trivial⟩,hS⟩
   ·have hj1:=cond_t hc3 hj1
    refine q_k hF hc3 fun a hF=>q_k hF hc3 fun a hF=>q_k hF hc3 fun a hF=>q_k hF hc3 fun a hF=>q_k hF hc3 fun a hF=>q_y (v:=(.bool true)) hF hS (ex_pick_t rfl rfl hc3) fun a hF=>q_end (n_jn ?_)
    obtain rfl:=someI hj1
    exact ⟨hF.sub ⟨rfl,rfl,trivial⟩,hS⟩
  ·have hj1:=cond_t hc2 hj1
   refine q_k hF hc2 fun a hF=>q_k hF hc2 fun a hF=>q_k hF hc2 fun a hF=>q_k hF hc2 fun a hF=>q_y (v:=(.bool true)) hF hS (ex_pick_t rfl rfl hc2) fun a hF=>q_m hF rfl fun a hF=>q_k hF rfl fun a hF=>q_k hF rfl fun a hF=>q_k hF rfl fun a hF=>q_k hF rfl fun a hF=>q_k hF rfl fun a hF=>q_y (v:=(.bool true)) hF hS (ex_pick_t rfl rfl rfl) fun a hF=>q_end (n_jn ?_)
   obtain rfl:=someI hj1
   exact ⟨hF.sub ⟨rfl,rfl,trivial⟩,hS⟩
 ·rintro a w ⟨hF,hS⟩
  refine n_sq ?_
  rcases bcase (t_5) with hc4 | hc4
  ·have hr:=cond_f hc4 hr
   refine q_cond_f hF rfl hc4 (q_skipc (n_sq (q_seq (q_sr (q_s hF rfl fun a hF=>q_end (n_sq (q_block ?_)))))))
   obtain ⟨o5,hl5,hr⟩:=bindS hr
   refine q_loop (fun (i_6 : Int) a w=>Fr a 43 [(1,(pP b2 0)),(3,(iV i_6))]∧St [] w0 w m [[⟨b2,[s1.v],26⟩]]) (fun (o : (Unit) ⊕ (Bool)) e a w=>o = .inl ()∧e = .exit 0∧Fr a 43 []∧St [] w0 w m []) hl5 ⟨hF.sub ⟨rfl,rfl,trivial⟩,hS⟩ ?_ ?_
   ·clear hF hS
    rintro i_6 a w st ⟨hF,hS⟩ hb5
    unfold impl_IsGeo_l1 at hb5
    refine q_seq (q_sr (q_m hF rfl fun a hF=>q_y (v:=(pP b2 0)) hF hS (ex_fieldAddr U26 rfl sz24 rfl rfl) fun a hF=>q_y (v:=s1.v) hF hS (ex_load1 0 0 U24 rfl rfl rfl rfl) fun a hF=>q_y (v:=(iV (goLen p_g.Parents))) hF hS (ex_len U24 rfl h1.len) fun a hF=>q_y (v:=(.bool (decide (i_6 < (goLen p_g.Parents))))) hF hS (ex_ibin rfl rfl rfl) fun a hF=>q_end (n_sq ?_)))
    rcases bcase (decide (i_6 < (goLen p_g.Parents))) with hc6 | hc6
    ·have hb5:=cond_f hc6 hb5
     refine q_cond_f hF rfl hc6 (q_exit (x_sq ?_))
     obtain rfl:=someI hb5
     exact ⟨nofun,.inl ⟨rfl,rfl,hF.sub trivial,hS.mask [false]⟩⟩
    ·have hb5:=cond_t hc6 hb5
     refine q_cond_t hF rfl hc6 (q_skipc (n_sq (q_seq (q_block (q_seq ?_)))))
     obtain ⟨t_11,hj7,hb5⟩:=bindS hb5
     refine q_join (fun a w=>Fr a 43 [(1,(pP b2 0)),(3,(iV i_6)),(42,(.bool t_11))]∧St [] w0 w m [[⟨b2,[s1.v],26⟩]]) ?_ ?_
     ·refine q_region (q_y (v:=(pP b2 0)) hF hS (ex_fieldAddr U26 rfl sz24 rfl rfl) fun a hF=>q_y (v:=s1.v) hF hS (ex_load1 0 0 U24 rfl rfl rfl rfl) fun a hF=>q_m hF rfl fun a hF=>?_)
      obtain ⟨e_7,he_7,hj7⟩:=bindS hj7
      obtain ⟨vs8,at8,d8⟩:=h1.at he_7 1 rfl
      obtain rfl : vs8 = [(iV e_7)]:=d8
      refine q_y (v:=(elP s1 (i_6.toNat * 1))) hF hS (ex_indexAddr U24 sz3 rfl rfl (h1.idx he_7)) fun a hF=>q_y (v:=(iV e_7)) hF hS (ex_loadE1 0 U3 rfl rfl ((at8).at) rfl rfl) fun a hF=>q_y (v:=(.bool (decide (e_7 < 0)))) hF hS (ex_ibin rfl rfl rfl) fun a hF=>q_m hF rfl fun a hF=>?_
      rcases bcase (decide (e_7 < 0)) with hc8 | hc8
      ·have hj7:=cond_f hc8 hj7
       refine q_g (v:=(pP b2 0)) hF hS (ex_fieldAddr U26 rfl sz24 rfl rfl) hc8 fun a hF=>q_g (v:=s1.v) hF hS (ex_load1 0 0 U24 rfl rfl rfl rfl) hc8 fun a hF=>q_g (v:=(iV i_6)) hF hS (ex_move rfl) hc8 fun a hF=>?_
       obtain ⟨e_9,he_9,hj7⟩:=bindS hj7
       obtain ⟨vs10,at10,d10⟩:=h1.at he_9 1 rfl
       obtain rfl : vs10 = [(iV e_9)]:=d10
       refine q_g (v:=(elP s1 (i_6.toNat * 1))) hF hS (ex_indexAddr U24 sz3 rfl rfl (h1.idx he_9)) hc8 fun a hF=>q_g (v:=(iV e_9)) hF hS (ex_loadE1 0 U3 rfl rfl ((at10).at) rfl rfl) hc8 fun a hF=>q_g (v:=(iV i_6)) hF hS (ex_move rfl) hc8 fun a hF=>q_g (v:=(.bool (decide (i_6 ≤ e_9)))) hF hS (ex_ibin rfl rfl rfl) hc8 fun a hF=>q_y (v:=(.bool (decide (i_6 ≤ e_9)))) hF hS (ex_pick_f rfl rfl hc8) fun a hF=>q_end (n_jn ?_)
       obtain rfl:=someI hj7
       exact ⟨hF.sub ⟨rfl,rfl,rfl,trivial⟩,hS⟩
      ·have hj7:=cond_t hc8 hj7
       refine q_k hF hc8 fun a hF=>q_k hF hc8 fun a hF=>q_k hF hc8 fun a hF=>q_k hF hc8 fun a hF=>q_k hF hc8 fun a hF=>q_k hF hc8 fun a hF=>q_k hF hc8 fun a hF=>q_y (v:=(.bool true)) hF hS (ex_pick_t rfl rfl hc8) fun a hF=>q_end (n_jn ?_)
       obtain rfl:=someI hj7
       exact ⟨hF.sub ⟨rfl,rfl,rfl,trivial⟩,hS⟩
     ·rintro a w ⟨hF,hS⟩
      refine n_sq ?_
      rcases bcase (t_11) with hc9 | hc9
      ·have hb5:=cond_f hc9 hb5
       refine q_cond_f hF rfl hc9 (q_skipc (n_ib (n_sq (q_region (q_m hF rfl fun a hF=>q_y (v:=(iV (w64 (i_6 + 1)))) hF hS (ex_ibin rfl rfl rfl) fun a hF=>q_s hF rfl fun a hF=>q_end ?_)))))
       obtain rfl:=someI hb5
       exact ⟨rfl,hF.sub ⟨rfl,rfl,trivial⟩,hS⟩
      ·have hb5:=cond_t hc9 hb5
       refine q_cond_t hF rfl hc9 (q_sr (q_s hF rfl fun a hF=>q_end (n_sq (q_ret (r_ib (r_sq ?_))))))
       obtain rfl:=someI hb5
       refine ⟨nofun,.inr fun ho=>?_⟩
       subst ho
       refine r_ib (r_sq ?_)
       obtain rfl:=someI hr
       exact ret_of hF hS rfl (.tmp rfl .nil) rfl
   ·rintro e a w ⟨rfl,rfl,hF,hS⟩
    refine x_ib (n_sq ?_)
    refine q_sr (q_s hF rfl fun a hF=>q_end (n_sq (q_ret ?_)))
    obtain rfl:=someI hr
    exact ret_of hF hS rfl (.tmp rfl .nil) rfl
  ·have hr:=cond_t hc4 hr
   refine q_cond_t hF rfl hc4 (q_sr (q_s hF rfl fun a hF=>q_end (n_sq (q_ret (r_sq ?_)))))
   obtain rfl:=someI hr
   exact ret_of hF hS rfl (.tmp rfl .nil) rfl

theorem c_impl_isWord (p_s : List UInt8) (r : Bool) (hr : impl_isWord p_s = some r) (w0 : World) (m : Mem) (hv : Vis m w0) :
  Ret Tryz.prog 80 [(strV p_s)] w0 (fun v _=>v = (.bool r)):=by
 unfold impl_isWord at hr
 refine ret_start Tryz.func80 rfl 28 rfl rfl m hv fun a hF hS=>q_sr (q_s hF rfl fun a hF=>q_end (n_sq (q_seq (q_seq ?_))))
 obtain ⟨t_1,hj1,hr⟩:=bindS hr
 refine q_join (fun a w=>Fr a 28 [(0,(strV p_s)),(11,(.bool t_1))]∧St [] w0 w m []) ?_ ?_
 ·refine q_region (q_m hF rfl fun a hF=>q_y (v:=(iV (goLen p_s))) hF hS (ex_strLen U9 rfl) fun a hF=>q_y (v:=(.bool (decide ((goLen p_s) < 1)))) hF hS (ex_ibin rfl rfl rfl) fun a hF=>q_m hF rfl fun a hF=>?_)
  rcases bcase (decide ((goLen p_s) < 1)) with hc2 | hc2
  ·have hj1:=cond_f hc2 hj1
   refine q_g (v:=(strV p_s)) hF hS (ex_move rfl) hc2 fun a hF=>q_g (v:=(iV (goLen p_s))) hF hS (ex_strLen U9 rfl) hc2 fun a hF=>q_g (v:=(.bool (decide (8 < (goLen p_s))))) hF hS (ex_ibin rfl rfl rfl) hc2 fun a hF=>q_y (v:=(.bool (decide (8 < (goLen p_s))))) hF hS (ex_pick_f rfl rfl hc2) fun a hF=>q_end (n_jn ?_)
   obtain rfl:=someI hj1
   exact ⟨hF.sub ⟨rfl,rfl,trivial⟩,hS⟩
  ·have hj1:=cond_t hc2 hj1
   refine q_k hF hc2 fun a hF=>q_k hF hc2 fun a hF=>q_k hF hc2 fun a hF=>q_y (v:=(.bool true)) hF hS (ex_pick_t rfl rfl hc2) fun a hF=>q_end (n_jn ?_)
   obtain rfl:=someI hj1
   exact ⟨hF.sub ⟨rfl,rfl,trivial⟩,hS⟩
 ·rintro a w ⟨hF,hS⟩
  refine n_sq ?_
  rcases bcase (t_1) with hc3 | hc3
  ·have hr:=cond_f hc3 hr
   refine q_cond_f hF rfl hc3 (q_skipc (n_sq (q_seq (q_sr (q_m hF rfl fun a hF=>q_y (v:=(iV (goLen p_s))) hF hS (ex_strLen U9 rfl) fun a hF=>q_m hF rfl fun a hF=>q_end (n_sq (q_block ?_)))))))
   obtain ⟨o4,hl4,hr⟩:=bindS hr
   refine q_loop (fun (t_2 : Int) a w=>Fr a 28 [(0,(strV p_s)),(13,(iV (goLen p_s))),(14,(iV t_2))]∧St [] w0 w m []) (fun (o : (Unit) ⊕ (Bool)) e a w=>o = .inl ()∧e = .exit 0∧Fr a 28 []∧St [] w0 w m []) hl4 ⟨hF.sub ⟨rfl,rfl,rfl,trivial⟩,hS⟩ ?_ ?_
   ·clear hF hS
    rintro t_2 a w st ⟨hF,hS⟩ hb4
    unfold impl_isWord_l1 at hb4
    refine q_sr (q_y (v:=(.bool (decide (t_2 < (goLen p_s))))) hF hS (ex_ibin rfl rfl rfl) fun a hF=>q_end (n_sq (q_seq ?_)))
    rcases bcase (decide (t_2 < (goLen p_s))) with hc5 | hc5
    ·have hb4:=cond_f hc5 hb4
     refine q_cond_f hF rfl hc5 (q_exit (x_sq ?_))
     obtain rfl:=someI hb4
     exact ⟨nofun,.inl ⟨rfl,rfl,hF.sub trivial,hS⟩⟩
    ·have hb4:=cond_t hc5 hb4
     refine q_cond_t hF rfl hc5 (q_skipc (n_sq (q_seq (q_block (q_sr (q_m hF rfl fun a hF=>q_s hF rfl fun a hF=>q_end (n_sq (q_seq ?_))))))))
     obtain ⟨t_5,hj6,hb4⟩:=bindS hb4
     refine q_join (fun a w=>Fr a 28 [(0,(strV p_s)),(13,(iV (goLen p_s))),(14,(iV t_2)),(26,(.bool t_5))]∧St [] w0 w m []) ?_ ?_
     ·refine q_region (q_m hF rfl fun a hF=>q_m hF rfl fun a hF=>?_)
      obtain ⟨t_3,ht_3,hj6⟩:=bindS hj6
      refine q_y (v:=(.int .u8 t_3)) hF hS (ex_strIdx U9 rfl rfl ht_3) fun a hF=>q_y (v:=(.bool (decide (t_3 < 97)))) hF hS (ex_ibin rfl rfl rfl) fun a hF=>q_m hF rfl fun a hF=>?_
      rcases bcase (decide (t_3 < 97)) with hc7 | hc7
      ·have hj6:=cond_f hc7 hj6
       refine q_g (v:=(strV p_s)) hF hS (ex_move rfl) hc7 fun a hF=>q_g (v:=(iV t_2)) hF hS (ex_move rfl) hc7 fun a hF=>?_
       obtain ⟨t_4,ht_4,hj6⟩:=bindS hj6
       refine q_g (v:=(.int .u8 t_4)) hF hS (ex_strIdx U9 rfl rfl ht_4) hc7 fun a hF=>q_g (v:=(.bool (decide (122 < t_4)))) hF hS (ex_ibin rfl rfl rfl) hc7 fun a hF=>q_y (v:=(.bool (decide (122 < t_4)))) hF hS (ex_pick_f rfl rfl hc7) fun a hF=>q_end (n_jn ?_)
       obtain rfl:=someI hj6
       exact ⟨hF.sub ⟨rfl,rfl,rfl,rfl,trivial⟩,hS⟩
      ·have hj6:=cond_t hc7 hj6
       refine q_k hF hc7 fun a hF=>q_k hF hc7 fun a hF=>q_k hF hc7 fun a hF=>q_k hF hc7 fun a hF=>q_y (v:=(.bool true)) hF hS (ex_pick_t rfl rfl hc7) fun a hF=>q_end (n_jn ?_)
       obtain rfl:=someI hj6
       exact ⟨hF.sub ⟨rfl,rfl,rfl,rfl,trivial⟩,hS⟩
     ·rintro a w ⟨hF,hS⟩
      refine n_sq ?_
      rcases bcase (t_5) with hc8 | hc8
      ·have hb4:=cond_f hc8 hb4
       refine q_cond_f hF rfl hc8 (q_skipc (n_ib (n_sq (q_region (q_y (v:=(iV (w64 (t_2 + 1)))) hF hS (ex_ibin rfl rfl rfl) fun a hF=>q_m hF rfl fun a hF=>q_end ?_)))))
       obtain rfl:=someI hb4
       exact ⟨rfl,hF.sub ⟨rfl,rfl,rfl,trivial⟩,hS⟩
      ·have hb4:=cond_t hc8 hb4
       refine q_cond_t hF rfl hc8 (q_sr (q_s hF rfl fun a hF=>q_end (n_sq (q_ret (r_ib (r_sq ?_))))))
       obtain rfl:=someI hb4
       refine ⟨nofun,.inr fun ho=>?_⟩
       subst ho
       refine r_ib (r_sq ?_)
       obtain rfl:=someI hr
       exact ret_of hF hS rfl (.tmp rfl .nil) rfl
   ·rintro e a w ⟨rfl,rfl,hF,hS⟩
    refine x_ib (n_sq ?_)
    refine q_sr (q_s hF rfl fun a hF=>q_end (n_sq (q_ret ?_)))
    obtain rfl:=someI hr
    exact ret_of hF hS rfl (.tmp rfl .nil) rfl
  ·have hr:=cond_t hc3 hr
   refine q_cond_t hF rfl hc3 (q_sr (q_s hF rfl fun a hF=>q_end (n_sq (q_ret (r_sq ?_)))))
   obtain rfl:=someI hr
   exact ret_of hF hS rfl (.tmp rfl .nil) rfl

theorem c_impl_IsSchema (p_s : List impl_Variable) (r : Bool) (hr : impl_IsSchema p_s = some r) (w0 : World) (m : Mem) (hv : Vis m w0) (s1 : Sl) (h1 : Rd m s1 p_s) :
  Ret Tryz.prog 35 [s1.v] w0 (fun v _=>v = (.bool r)):=by
 unfold impl_IsSchema at hr
 refine ret_start Tryz.func35 rfl 51 rfl rfl m hv fun a hF hS=>q_sr (q_s hF rfl fun a hF=>q_end (n_sq (q_seq (q_seq ?_))))
 obtain ⟨t_2,hj1,hr⟩:=bindS hr
 refine q_join (fun a w=>Fr a 51 [(0,s1.v),(14,(.bool t_2))]∧St [] w0 w m []) ?_ ?_
 ·refine q_region (q_m hF rfl fun a hF=>q_y (v:=(iV (goLen p_s))) hF hS (ex_len U27 rfl h1.len) fun a hF=>q_y (v:=(.bool (decide ((goLen p_s) < 1)))) hF hS (ex_ibin rfl rfl rfl) fun a hF=>q_m hF rfl fun a hF=>?_)
  rcases bcase (decide ((goLen p_s) < 1)) with hc2 | hc2
  ·have hj1:=cond_f hc2 hj1
   refine q_g (v:=s1.v) hF hS (ex_move rfl) hc2 fun a hF=>q_g (v:=(iV (goLen p_s))) hF hS (ex_len U27 rfl h1.len) hc2 fun a hF=>q_g (v:=(.bool (decide (6 < (goLen p_s))))) hF hS (ex_ibin rfl rfl rfl) hc2 fun a hF=>q_y (v:=(.bool (decide (6 < (goLen p_s))))) hF hS (ex_pick_f rfl rfl hc2) fun a hF=>q_end (n_jn ?_)
   obtain rfl:=someI hj1
   exact ⟨hF.sub ⟨rfl,rfl,trivial⟩,hS⟩
  ·have hj1:=cond_t hc2 hj1
   refine q_k hF hc2 fun a hF=>q_k hF hc2 fun a hF=>q_k hF hc2 fun a hF=>q_y (v:=(.bool true)) hF hS (ex_pick_t rfl rfl hc2) fun a hF=>q_end (n_jn ?_)
   obtain rfl:=someI hj1
   exact ⟨hF.sub ⟨rfl,rfl,trivial⟩,hS⟩
 ·rintro a w ⟨hF,hS⟩
  refine n_sq ?_
  rcases bcase (t_2) with hc3 | hc3
  ·have hr:=cond_f hc3 hr
   refine q_cond_f hF rfl hc3 (q_skipc (n_sq (q_seq (q_sr (q_m hF rfl fun a hF=>q_y (v:=(iV (goLen p_s))) hF hS (ex_len U27 rfl h1.len) fun a hF=>q_m hF rfl fun a hF=>q_end (n_sq (q_block ?_)))))))
   obtain ⟨o4,hl4,hr⟩:=bindS hr
   refine q_loop (fun (t_3 : Int) a w=>Fr a 51 [(0,s1.v),(15,s1.v),(16,(iV (goLen p_s))),(17,(iV t_3))]∧St [] w0 w m []) (fun (o : (Unit) ⊕ (Bool)) e a w=>o = .inl ()∧e = .exit 0∧Fr a 51 []∧St [] w0 w m []) hl4 ⟨hF.sub ⟨rfl,rfl,rfl,rfl,trivial⟩,hS⟩ ?_ ?_
   ·clear hF hS
    rintro t_3 a w st ⟨hF,hS⟩ hb4
    unfold impl_IsSchema_l1 at hb4
    refine q_sr (q_y (v:=(.bool (decide (t_3 < (goLen p_s))))) hF hS (ex_ibin rfl rfl rfl) fun a hF=>q_end (n_sq (q_seq ?_)))
    rcases bcase (decide (t_3 < (goLen p_s))) with hc5 | hc5
    ·have hb4:=cond_f hc5 hb4
     refine q_cond_f hF rfl hc5 (q_exit (x_sq ?_))
     obtain rfl:=someI hb4
     exact ⟨nofun,.inl ⟨rfl,rfl,hF.sub trivial,hS⟩⟩
    ·have hb4:=cond_t hc5 hb4
     refine q_cond_t hF rfl hc5 (q_skipc (n_sq (q_seq (q_block (q_sr (q_m hF rfl fun a hF=>?_))))))
     obtain ⟨e_4,he_4,hb4⟩:=bindS hb4
     obtain ⟨vs5,at5,d5⟩:=h1.at he_4 2 rfl
     obtain rfl : vs5 = [(strV e_4.Name),(iV e_4.Levels)]:=d5
     refine q_y (v:=(elP s1 (t_3.toNat * 2))) hF hS (ex_indexAddr U27 sz95 rfl rfl (h1.idx he_4)) fun a hF=>q_y (v:=(.agg #[(strV e_4.Name),(iV e_4.Levels)])) hF hS (ex_loadEA (us:=[(strV e_4.Name),(iV e_4.Levels)]) 0 U95 rfl sz95 rfl ((at5).at) rfl rfl rfl) fun a hF=>q_alloc (cs:=[(strV ([] : List UInt8)),(iV 0)]) hF hS rfl rfl rfl fun a w b6 hF hS=>q_s hF rfl fun a hF=>q_store (vs:=[(strV e_4.Name),(iV e_4.Levels)]) (cs':=[(strV e_4.Name),(iV e_4.Levels)]) 0 0 hF hS sz95 rfl rfl rfl rfl rfl rfl rfl rfl fun a w hF hS=>q_end (n_sq (q_seq (q_seq ?_)))
     obtain ⟨t_8,hj6,hb4⟩:=bindS hb4
     refine q_join (fun a w=>Fr a 51 [(0,s1.v),(3,(iV t_3)),(4,(pP b6 0)),(15,s1.v),(16,(iV (goLen p_s))),(17,(iV t_3)),(35,(.bool t_8))]∧St [] w0 w m [[⟨b6,[(strV e_4.Name),(iV e_4.Levels)],95⟩]]) ?_ ?_
     ·refine q_region (q_y (v:=(pP b6 0)) hF hS (ex_fieldAddr U95 rfl sz9 rfl rfl) fun a hF=>q_y (v:=(strV e_4.Name)) hF hS (ex_load1 0 0 U9 rfl rfl rfl rfl) fun a hF=>?_)
      obtain ⟨t_7,ht_7,hj6⟩:=bindS hj6
      refine q_call (vs:=[(strV e_4.Name)]) hF hS Tryz.func80 (by kernel_rfl) rfl rfl rfl (c_impl_isWord e_4.Name t_7 ht_7 _ m hS.vis) ?_
      rintro a w _ rfl hF hS
      refine q_y (v:=(.bool (!t_7))) hF hS (ex_not rfl) fun a hF=>q_m hF rfl fun a hF=>?_
      rcases bcase (!t_7) with hc7 | hc7
      ·have hj6:=cond_f hc7 hj6
       refine q_g (v:=(pP b6 1)) hF hS (ex_fieldAddr U95 rfl sz3 rfl rfl) hc7 fun a hF=>q_g (v:=(iV e_4.Levels)) hF hS (ex_load1 0 0 U3 rfl rfl rfl rfl) hc7 fun a hF=>q_g (v:=(.bool (decide (e_4.Levels < 2)))) hF hS (ex_ibin rfl rfl rfl) hc7 fun a hF=>q_y (v:=(.bool (decide (e_4.Levels < 2)))) hF hS (ex_pick_f rfl rfl hc7) fun a hF=>q_m hF rfl fun a hF=>?_
       rcases bcase (decide (e_4.Levels < 2)) with hc8 | hc8
       ·have hj6:=cond_f hc8 hj6
        refine q_g (v:=(pP b6 1)) hF hS (ex_fieldAddr U95 rfl sz3 rfl rfl) hc8 fun a hF=>q_g (v:=(iV e_4.Levels)) hF hS (ex_load1 0 0 U3 rfl rfl rfl rfl) hc8 fun a hF=>q_g (v:=(.bool (decide (8 < e_4.Levels)))) hF hS (ex_ibin rfl rfl rfl) hc8 fun a hF=>q_y (v:=(.bool (decide (8 < e_4.Levels)))) hF hS (ex_pick_f rfl rfl hc8) fun a hF=>q_end (n_jn ?_)
        obtain rfl:=someI hj6
        exact ⟨hF.sub ⟨rfl,rfl,rfl,rfl,rfl,rfl,rfl,trivial⟩,hS⟩
       ·have hj6:=cond_t hc8 hj6
        refine q_k hF hc8 fun a hF=>q_k hF hc8 fun a hF=>q_k hF hc8 fun a hF=>q_y (v:=(.bool true)) hF hS (ex_pick_t rfl rfl hc8) fun a hF=>q_end (n_jn ?_)
        obtain rfl:=someI hj6
        exact ⟨hF.sub ⟨rfl,rfl,rfl,rfl,rfl,rfl,rfl,trivial⟩,hS⟩
      ·have hj6:=cond_t hc7 hj6
       refine q_k hF hc7 fun a hF=>q_k hF hc7 fun a hF=>q_k hF hc7 fun a hF=>q_y (v:=(.bool true)) hF hS (ex_pick_t rfl rfl hc7) fun a hF=>q_m hF rfl fun a hF=>q_k hF rfl fun a hF=>q_k hF rfl fun a hF=>q_k hF rfl fun a hF=>q_y (v:=(.bool true)) hF hS (ex_pick_t rfl rfl rfl) fun a hF=>q_end (n_jn ?_)
       obtain rfl:=someI hj6
       exact ⟨hF.sub ⟨rfl,rfl,rfl,rfl,rfl,rfl,rfl,trivial⟩,hS⟩
     ·rintro a w ⟨hF,hS⟩
      refine n_sq ?_
      rcases bcase (t_8) with hc9 | hc9
      ·have hb4:=cond_f hc9 hb4
       refine q_cond_f hF rfl hc9 (q_skipc (n_sq (q_sr (q_m hF rfl fun a hF=>q_m hF rfl fun a hF=>?_))))
       obtain ⟨l_9,hl_9,hb4⟩:=bindS hb4
       have h10 : Rd m (subS s1 2 (0 : Int).toNat t_3.toNat s1.cap) l_9:=h1.sub' hl_9 2 rfl
       refine q_y (v:=(subS s1 2 (0 : Int).toNat t_3.toNat s1.cap).v) hF hS (ex_slice U27 sz95 rfl rfl rfl (.inl ⟨rfl,rfl⟩) (.inr ⟨_,rfl⟩) (h1.subok hl_9)) fun a hF=>q_y (v:=(iV (goLen l_9))) hF hS (ex_len U27 rfl h10.len) fun a hF=>q_m hF rfl fun a hF=>q_end (n_sq (q_block ?_))
       obtain ⟨o10,hl10,hb4⟩:=bindS hb4
       refine q_loop (fun (t_11 : Int) a w=>Fr a 51 [(0,s1.v),(4,(pP b6 0)),(15,s1.v),(16,(iV (goLen p_s))),(17,(iV t_3)),(38,(subS s1 2 (0 : Int).toNat t_3.toNat s1.cap).v),(39,(iV (goLen l_9))),(40,(iV t_11))]∧St [] w0 w m [[⟨b6,[(strV e_4.Name),(iV e_4.Levels)],95⟩]]) (fun (o : (Unit) ⊕ (Stp (Int) ((Unit) ⊕ (Bool)))) e a w=>o = .inl ()∧e = .exit 2∧Fr a 51 [(0,s1.v),(15,s1.v),(16,(iV (goLen p_s))),(17,(iV t_3))]∧St [] w0 w m []) hl10 ⟨hF.sub ⟨rfl,rfl,rfl,rfl,rfl,rfl,rfl,rfl,trivial⟩,hS⟩ ?_ ?_
       ·clear hF hS
        rintro t_11 a w st ⟨hF,hS⟩ hb10
        unfold impl_IsSchema_l2 at hb10
        refine q_sr (q_y (v:=(.bool (decide (t_11 < (goLen l_9))))) hF hS (ex_ibin rfl rfl rfl) fun a hF=>q_end (n_sq (q_seq ?_)))
        rcases bcase (decide (t_11 < (goLen l_9))) with hc11 | hc11
        ·have hb10:=cond_f hc11 hb10
         refine q_cond_f hF rfl hc11 (q_exit (x_sq ?_))
         obtain rfl:=someI hb10
         exact ⟨nofun,.inl ⟨rfl,rfl,hF.sub ⟨rfl,rfl,rfl,rfl,trivial⟩,hS.mask [false]⟩⟩
        ·have hb10:=cond_t hc11 hb10
         refine q_cond_t hF rfl hc11 (q_skipc (n_sq (q_seq (q_block (q_seq (q_region ?_))))))
         obtain ⟨e_12,he_12,hb10⟩:=bindS hb10
         obtain ⟨vs13,at13,d13⟩:=h10.at he_12 2 rfl
         obtain rfl : vs13 = [(strV e_12.Name),(iV e_12.Levels)]:=d13
         refine q_y (v:=(elP (subS s1 2 (0 : Int).toNat t_3.toNat s1.cap) (t_11.toNat * 2))) hF hS (ex_indexAddr U27 sz95 rfl rfl (h10.idx he_12)) fun a hF=>q_y (v:=(.agg #[(strV e_12.Name),(iV e_12.Levels)])) hF hS (ex_loadEA (us:=[(strV e_12.Name),(iV e_12.Levels)]) 0 U95 rfl sz95 rfl ((at13).at) rfl rfl rfl) fun a hF=>q_alloc (cs:=[(strV ([] : List UInt8)),(iV 0)]) hF hS rfl rfl rfl fun a w b14 hF hS=>q_store (vs:=[(strV e_12.Name),(iV e_12.Levels)]) (cs':=[(strV e_12.Name),(iV e_12.Levels)]) 0 0 hF hS sz95 rfl rfl rfl rfl rfl rfl rfl rfl fun a w hF hS=>q_end (n_sq (q_sr (q_y (v:=(pP b14 0)) hF hS (ex_fieldAddr U95 rfl sz9 rfl rfl) fun a hF=>q_y (v:=(strV e_12.Name)) hF hS (ex_load1 0 0 U9 rfl rfl rfl rfl) fun a hF=>q_y (v:=(pP b6 0)) hF hS (ex_fieldAddr U95 rfl sz9 rfl rfl) fun a hF=>q_y (v:=(strV e_4.Name)) hF hS (ex_load1 1 0 U9 rfl rfl rfl rfl) fun a hF=>q_y (v:=(.bool (e_12.Name == e_4.Name))) hF hS (ex_strEq rfl rfl) fun a hF=>q_end (n_sq ?_))))
         rcases bcase (e_12.Name == e_4.Name) with hc12 | hc12
         ·have hb10:=cond_f hc12 hb10
          refine q_cond_f hF rfl hc12 (q_skipc (n_ib (n_sq (q_region (q_y (v:=(iV (w64 (t_11 + 1)))) hF hS (ex_ibin rfl rfl rfl) fun a hF=>q_m hF rfl fun a hF=>q_end ?_)))))
          obtain rfl:=someI hb10
          exact ⟨rfl,hF.sub ⟨rfl,rfl,rfl,rfl,rfl,rfl,rfl,rfl,trivial⟩,hS.mask [false,true]⟩
         ·have hb10:=cond_t hc12 hb10
          refine q_cond_t hF rfl hc12 (q_sr (q_s hF rfl fun a hF=>q_end (n_sq (q_ret (r_ib (r_sq ?_))))))
          obtain rfl:=someI hb10
          refine ⟨nofun,.inr fun ho=>?_⟩
          subst ho
          refine r_ib (r_ib (r_sq ?_))
          obtain rfl:=someI hb4
          refine ⟨nofun,.inr fun ho=>?_⟩
          subst ho
          refine r_ib (r_sq ?_)
          obtain rfl:=someI hr
          exact ret_of hF hS rfl (.tmp rfl .nil) rfl
       ·rintro e a w ⟨rfl,rfl,hF,hS⟩
        refine x_ib (n_ib (n_sq ?_))
        refine q_region (q_y (v:=(iV (w64 (t_3 + 1)))) hF hS (ex_ibin rfl rfl rfl) fun a hF=>q_m hF rfl fun a hF=>q_end ?_)
        obtain rfl:=someI hb4
        exact ⟨rfl,hF.sub ⟨rfl,rfl,rfl,rfl,trivial⟩,hS⟩
      ·have hb4:=cond_t hc9 hb4
       refine q_cond_t hF rfl hc9 (q_sr (q_s hF rfl fun a hF=>q_end (n_sq (q_ret (r_sq (r_ib (r_sq ?_)))))))
       obtain rfl:=someI hb4
       refine ⟨nofun,.inr fun ho=>?_⟩
       subst ho
       refine r_ib (r_sq ?_)
       obtain rfl:=someI hr
       exact ret_of hF hS rfl (.tmp rfl .nil) rfl
   ·rintro e a w ⟨rfl,rfl,hF,hS⟩
    refine x_ib (n_sq ?_)
    refine q_sr (q_s hF rfl fun a hF=>q_end (n_sq (q_ret ?_)))
    obtain rfl:=someI hr
    exact ret_of hF hS rfl (.tmp rfl .nil) rfl
  ·have hr:=cond_t hc3 hr
   refine q_cond_t hF rfl hc3 (q_sr (q_s hF rfl fun a hF=>q_end (n_sq (q_ret (r_sq ?_)))))
   obtain rfl:=someI hr
   exact ret_of hF hS rfl (.tmp rfl .nil) rfl

theorem c_impl_areVars (p_s : List impl_Variable) (p_vars : List Int) (r : Bool) (hr : impl_areVars p_s p_vars = some r) (w0 : World) (m : Mem) (hv : Vis m w0) (s1 : Sl) (h1 : Rd m s1 p_s) (s2 : Sl) (h2 : Rd m s2 p_vars) :
  Ret Tryz.prog 87 [s1.v,s2.v] w0 (fun v _=>v = (.bool r)):=by
 unfold impl_areVars at hr
 refine ret_start Tryz.func87 rfl 25 rfl rfl m hv fun a hF hS=>q_sr (q_s hF rfl fun a hF=>q_end (n_sq (q_sr (q_s hF rfl fun a hF=>q_end (n_sq (q_seq (q_sr (q_m hF rfl fun a hF=>q_y (v:=(iV (goLen p_vars))) hF hS (ex_len U24 rfl h2.len) fun a hF=>q_m hF rfl fun a hF=>q_end (n_sq (q_block ?_))))))))))
 obtain ⟨o1,hl1,hr⟩:=bindS hr
 refine q_loop (fun (s : Int × Int) a w=>∃ last_3,∃ t_4,s = (last_3,t_4)∧Fr a 25 [(0,s1.v),(5,(iV last_3)),(8,s2.v),(9,(iV (goLen p_vars))),(10,(iV t_4))]∧St [] w0 w m []) (fun (o : (Unit) ⊕ (Bool)) e a w=>o = .inl ()∧e = .exit 0∧Fr a 25 []∧St [] w0 w m []) hl1 ⟨_,_,rfl,hF.sub ⟨rfl,rfl,rfl,rfl,rfl,trivial⟩,hS⟩ ?_ ?_
 ·clear hF hS
  rintro s a w st ⟨last_3,t_4,rfl,hF,hS⟩ hb1
  unfold impl_areVars_l1 at hb1
  refine q_sr (q_y (v:=(.bool (decide (t_4 < (goLen p_vars))))) hF hS (ex_ibin rfl rfl rfl) fun a hF=>q_end (n_sq (q_seq ?_)))
  rcases bcase (decide (t_4 < (goLen p_vars))) with hc2 | hc2
  ·have hb1:=cond_f hc2 hb1
   refine q_cond_f hF rfl hc2 (q_exit (x_sq ?_))
   obtain rfl:=someI hb1
   exact ⟨nofun,.inl ⟨rfl,rfl,hF.sub trivial,hS⟩⟩
  ·have hb1:=cond_t hc2 hb1
   refine q_cond_t hF rfl hc2 (q_skipc (n_sq (q_seq (q_block (q_seq (q_region ?_))))))
   obtain ⟨e_5,he_5,hb1⟩:=bindS hb1
   obtain ⟨vs6,at6,d6⟩:=h2.at he_5 1 rfl
   obtain rfl : vs6 = [(iV e_5)]:=d6
   refine q_y (v:=(elP s2 (t_4.toNat * 1))) hF hS (ex_indexAddr U24 sz3 rfl rfl (h2.idx he_5)) fun a hF=>q_y (v:=(iV e_5)) hF hS (ex_loadE1 0 U3 rfl rfl ((at6).at) rfl rfl) fun a hF=>q_s hF rfl fun a hF=>q_end (n_sq (q_seq (q_seq ?_)))
   obtain ⟨t_7,hj3,hb1⟩:=bindS hb1
   refine q_join (fun a w=>Fr a 25 [(0,s1.v),(7,(iV e_5)),(8,s2.v),(9,(iV (goLen p_vars))),(10,(iV t_4)),(22,(.bool t_7))]∧St [] w0 w m []) ?_ ?_
   ·refine q_region (q_m hF rfl fun a hF=>q_m hF rfl fun a hF=>q_y (v:=(.bool (decide (e_5 ≤ last_3)))) hF hS (ex_ibin rfl rfl rfl) fun a hF=>q_m hF rfl fun a hF=>?_)
    rcases bcase (decide (e_5 ≤ last_3)) with hc4 | hc4
    ·have hj3:=cond_f hc4 hj3
     refine q_g (v:=(iV e_5)) hF hS (ex_move rfl) hc4 fun a hF=>q_g (v:=s1.v) hF hS (ex_move rfl) hc4 fun a hF=>q_g (v:=(iV (goLen p_s))) hF hS (ex_len U27 rfl h1.len) hc4 fun a hF=>q_g (v:=(.bool (decide ((goLen p_s) ≤ e_5)))) hF hS (ex_ibin rfl rfl rfl) hc4 fun a hF=>q_y (v:=(.bool (decide ((goLen p_s) ≤ e_5)))) hF hS (ex_pick_f rfl rfl hc4) fun a hF=>q_end (n_jn ?_)
     obtain rfl:=someI hj3
     exact ⟨hF.sub ⟨rfl,rfl,rfl,rfl,rfl,rfl,trivial⟩,hS⟩
    ·have hj3:=cond_t hc4 hj3
     refine q_k hF hc4 fun a hF=>q_k hF hc4 fun a hF=>q_k hF hc4 fun a hF=>q_k hF hc4 fun a hF=>q_y (v:=(.bool true)) hF hS (ex_pick_t rfl rfl hc4) fun a hF=>q_end (n_jn ?_)
     obtain rfl:=someI hj3
     exact ⟨hF.sub ⟨rfl,rfl,rfl,rfl,rfl,rfl,trivial⟩,hS⟩
   ·rintro a w ⟨hF,hS⟩
    refine n_sq ?_
    rcases bcase (t_7) with hc5 | hc5
    ·have hb1:=cond_f hc5 hb1
     refine q_cond_f hF rfl hc5 (q_skipc (n_sq (q_region (q_m hF rfl fun a hF=>q_s hF rfl fun a hF=>q_end (n_ib (n_sq (q_region (q_y (v:=(iV (w64 (t_4 + 1)))) hF hS (ex_ibin rfl rfl rfl) fun a hF=>q_m hF rfl fun a hF=>q_end ?_))))))))
     obtain rfl:=someI hb1
     exact ⟨rfl,_,_,rfl,hF.sub ⟨rfl,rfl,rfl,rfl,rfl,trivial⟩,hS⟩
    ·have hb1:=cond_t hc5 hb1
     refine q_cond_t hF rfl hc5 (q_sr (q_s hF rfl fun a hF=>q_end (n_sq (q_ret (r_sq (r_ib (r_sq ?_)))))))
     obtain rfl:=someI hb1
     refine ⟨nofun,.inr fun ho=>?_⟩
     subst ho
     refine r_ib (r_sq ?_)
     obtain rfl:=someI hr
     exact ret_of hF hS rfl (.tmp rfl .nil) rfl
 ·rintro e a w ⟨rfl,rfl,hF,hS⟩
  refine x_ib (n_sq ?_)
  refine q_sr (q_s hF rfl fun a hF=>q_end (n_sq (q_ret ?_)))
  obtain rfl:=someI hr
  exact ret_of hF hS rfl (.tmp rfl .nil) rfl

theorem c_impl_fullSet (p_v : impl_Variable) (r : Int) (hr : impl_fullSet p_v = some r) (w0 : World) (m : Mem) (hv : Vis m w0) :
  Ret Tryz.prog 90 [(.agg #[(strV p_v.Name),(iV p_v.Levels)])] w0 (fun v _=>v = (iV r)):=by
 unfold impl_fullSet at hr
 refine ret_start Tryz.func90 rfl 7 rfl rfl m hv fun a hF hS=>q_sr (q_box (cs:=[(strV p_v.Name),(iV p_v.Levels)]) hF hS rfl rfl rfl fun a w b1 hF hS=>q_s hF rfl fun a hF=>q_end (n_sq (q_sr (q_y (v:=(pP b1 1)) hF hS (ex_fieldAddr U95 rfl sz3 rfl rfl) fun a hF=>q_y (v:=(iV p_v.Levels)) hF hS (ex_load1 0 0 U3 rfl rfl rfl rfl) fun a hF=>?_))))
 obtain ⟨t_2,ht_2,hr⟩:=bindS hr
 refine q_y (v:=(iV t_2)) hF hS (ex_shl rfl rfl ht_2) fun a hF=>q_y (v:=(iV (w64 (t_2 - 1)))) hF hS (ex_ibin rfl rfl rfl) fun a hF=>q_s hF rfl fun a hF=>q_end (n_sq (q_ret ?_))
 obtain rfl:=someI hr
 exact ret_of hF hS rfl (.tmp rfl .nil) rfl

theorem c_impl_isWhere (p_s : List impl_Variable) (p_where : List Int) (r : Bool) (hr : impl_isWhere p_s p_where = some r) (w0 : World) (m : Mem) (hv : Vis m w0) (s1 : Sl) (h1 : Rd m s1 p_s) (s2 : Sl) (h2 : Rd m s2 p_where) :
  Ret Tryz.prog 88 [s1.v,s2.v] w0 (fun v _=>v = (.bool r)):=by
 unfold impl_isWhere at hr
 refine ret_start Tryz.func88 rfl 31 rfl rfl m hv fun a hF hS=>q_sr (q_s hF rfl fun a hF=>q_end (n_sq (q_seq (q_sr (q_m hF rfl fun a hF=>q_y (v:=(iV (goLen p_where))) hF hS (ex_len U24 rfl h2.len) fun a hF=>q_m hF rfl fun a hF=>q_y (v:=(iV (goLen p_s))) hF hS (ex_len U27 rfl h1.len) fun a hF=>q_y (v:=(.bool ((goLen p_where) != (goLen p_s)))) hF hS (ex_ibin rfl rfl rfl) fun a hF=>q_end (n_sq ?_))))))
 rcases bcase ((goLen p_where) != (goLen p_s)) with hc1 | hc1
 ·have hr:=cond_f hc1 hr
  refine q_cond_f hF rfl hc1 (q_skipc (n_sq (q_seq (q_sr (q_m hF rfl fun a hF=>q_y (v:=(iV (goLen p_where))) hF hS (ex_len U24 rfl h2.len) fun a hF=>q_m hF rfl fun a hF=>q_end (n_sq (q_block ?_)))))))
  obtain ⟨o2,hl2,hr⟩:=bindS hr
  refine q_loop (fun (t_3 : Int) a w=>Fr a 31 [(0,s1.v),(12,s2.v),(13,(iV (goLen p_where))),(14,(iV t_3))]∧St [] w0 w m []) (fun (o : (Unit) ⊕ (Bool)) e a w=>o = .inl ()∧e = .exit 0∧Fr a 31 []∧St [] w0 w m []) hl2 ⟨hF.sub ⟨rfl,rfl,rfl,rfl,trivial⟩,hS⟩ ?_ ?_
  ·clear hF hS
   rintro t_3 a w st ⟨hF,hS⟩ hb2
   unfold impl_isWhere_l1 at hb2
   refine q_sr (q_y (v:=(.bool (decide (t_3 < (goLen p_where))))) hF hS (ex_ibin rfl rfl rfl) fun a hF=>q_end (n_sq (q_seq ?_)))
   rcases bcase (decide (t_3 < (goLen p_where))) with hc3 | hc3
   ·have hb2:=cond_f hc3 hb2
    refine q_cond_f hF rfl hc3 (q_exit (x_sq ?_))
    obtain rfl:=someI hb2
    exact ⟨nofun,.inl ⟨rfl,rfl,hF.sub trivial,hS⟩⟩
   ·have hb2:=cond_t hc3 hb2
    refine q_cond_t hF rfl hc3 (q_skipc (n_sq (q_seq (q_block (q_sr (q_m hF rfl fun a hF=>?_))))))
    obtain ⟨e_4,he_4,hb2⟩:=bindS hb2
    obtain ⟨vs5,at5,d5⟩:=h2.at he_4 1 rfl
    obtain rfl : vs5 = [(iV e_4)]:=d5
    refine q_y (v:=(elP s2 (t_3.toNat * 1))) hF hS (ex_indexAddr U24 sz3 rfl rfl (h2.idx he_4)) fun a hF=>q_y (v:=(iV e_4)) hF hS (ex_loadE1 0 U3 rfl rfl ((at5).at) rfl rfl) fun a hF=>q_s hF rfl fun a hF=>q_s hF rfl fun a hF=>q_end (n_sq (q_seq ?_))
    obtain ⟨t_9,hj4,hb2⟩:=bindS hb2
    refine q_join (fun a w=>Fr a 31 [(0,s1.v),(12,s2.v),(13,(iV (goLen p_where))),(14,(iV t_3)),(29,(.bool t_9))]∧St [] w0 w m []) ?_ ?_
    ·refine q_region (q_m hF rfl fun a hF=>q_y (v:=(.bool (decide (e_4 < 0)))) hF hS (ex_ibin rfl rfl rfl) fun a hF=>q_m hF rfl fun a hF=>?_)
     rcases bcase (decide (e_4 < 0)) with hc5 | hc5
     ·have hj4:=cond_f hc5 hj4
      refine q_g (v:=(iV e_4)) hF hS (ex_move rfl) hc5 fun a hF=>q_g (v:=s1.v) hF hS (ex_move rfl) hc5 fun a hF=>q_g (v:=(iV t_3)) hF hS (ex_move rfl) hc5 fun a hF=>?_
      obtain ⟨e_6,he_6,hj4⟩:=bindS hj4
      obtain ⟨vs7,at7,d7⟩:=h1.at he_6 2 rfl
      obtain rfl : vs7 = [(strV e_6.Name),(iV e_6.Levels)]:=d7
      refine q_g (v:=(elP s1 (t_3.toNat * 2))) hF hS (ex_indexAddr U27 sz95 rfl rfl (h1.idx he_6)) hc5 fun a hF=>q_g (v:=(.agg #[(strV e_6.Name),(iV e_6.Levels)])) hF hS (ex_loadEA (us:=[(strV e_6.Name),(iV e_6.Levels)]) 0 U95 rfl sz95 rfl ((at7).at) rfl rfl rfl) hc5 fun a hF=>?_
      obtain ⟨t_8,ht_8,hj4⟩:=bindS hj4
      refine q_callg (vs:=[(.agg #[(strV e_6.Name),(iV e_6.Levels)])]) hF hS (wanted_t hF rfl rfl rfl hc5) Tryz.func90 (by kernel_rfl) rfl rfl rfl (c_impl_fullSet e_6 t_8 ht_8 _ m hS.vis) ?_
      rintro a w _ rfl hF hS
      refine q_g (v:=(.bool (decide (t_8 < e_4)))) hF hS (ex_ibin rfl rfl rfl) hc5 fun a hF=>q_y (v:=(.bool (decide (t_8 < e_4)))) hF hS (ex_pick_f rfl rfl hc5) fun a hF=>q_end (n_jn ?_)
      obtain rfl:=someI hj4
      exact ⟨hF.sub ⟨rfl,rfl,rfl,rfl,rfl,trivial⟩,hS⟩
     ·have hj4:=cond_t hc5 hj4
      refine q_k hF hc5 fun a hF=>q_k hF hc5 fun a hF=>q_k hF hc5 fun a hF=>q_k hF hc5 fun a hF=>q_k hF hc5 fun a hF=>q_k hF hc5 fun a hF=>q_k hF hc5 fun a hF=>q_y (v:=(.bool true)) hF hS (ex_pick_t rfl rfl hc5) fun a hF=>q_end (n_jn ?_)
      obtain rfl:=someI hj4
      exact ⟨hF.sub ⟨rfl,rfl,rfl,rfl,rfl,trivial⟩,hS⟩
    ·rintro a w ⟨hF,hS⟩
     refine n_sq ?_
     rcases bcase (t_9) with hc6 | hc6
     ·have hb2:=cond_f hc6 hb2
      refine q_cond_f hF rfl hc6 (q_skipc (n_ib (n_sq (q_region (q_y (v:=(iV (w64 (t_3 + 1)))) hF hS (ex_ibin rfl rfl rfl) fun a hF=>q_m hF rfl fun a hF=>q_end ?_)))))
      obtain rfl:=someI hb2
      exact ⟨rfl,hF.sub ⟨rfl,rfl,rfl,rfl,trivial⟩,hS⟩
     ·have hb2:=cond_t hc6 hb2
      refine q_cond_t hF rfl hc6 (q_sr (q_s hF rfl fun a hF=>q_end (n_sq (q_ret (r_ib (r_sq ?_))))))
      obtain rfl:=someI hb2
      refine ⟨nofun,.inr fun ho=>?_⟩
      subst ho
      refine r_ib (r_sq ?_)
      obtain rfl:=someI hr
      exact ret_of hF hS rfl (.tmp rfl .nil) rfl
  ·rintro e a w ⟨rfl,rfl,hF,hS⟩
   refine x_ib (n_sq ?_)
   refine q_sr (q_s hF rfl fun a hF=>q_end (n_sq (q_ret ?_)))
   obtain rfl:=someI hr
   exact ret_of hF hS rfl (.tmp rfl .nil) rfl
 ·have hr:=cond_t hc1 hr
  refine q_cond_t hF rfl hc1 (q_sr (q_s hF rfl fun a hF=>q_end (n_sq (q_ret (r_sq ?_)))))
  obtain rfl:=someI hr
  exact ret_of hF hS rfl (.tmp rfl .nil) rfl

theorem c_impl_depthOf (p_g : impl_Geo) (p_i : Int) (r : Int) (hr : impl_depthOf p_g p_i = some r) (w0 : World) (m : Mem) (hv : Vis m w0) (s1 : Sl) (h1 : Rd m s1 p_g.Parents) :
  Ret Tryz.prog 102 [(.agg #[s1.v]),(iV p_i)] w0 (fun v _=>v = (iV r)):=by
 unfold impl_depthOf at hr
 refine ret_start Tryz.func102 rfl 16 rfl rfl m hv fun a hF hS=>q_sr (q_box (cs:=[s1.v]) hF hS rfl rfl rfl fun a w b2 hF hS=>q_s hF rfl fun a hF=>q_end (n_sq (q_sr (q_s hF rfl fun a hF=>q_end (n_sq (q_seq (q_block ?_)))))))
 obtain ⟨d_7,hl1,hr⟩:=bindS hr
 refine q_loop (fun (s : Int × Int) a w=>∃ i_3,∃ d_4,s = (i_3,d_4)∧Fr a 16 [(1,(iV i_3)),(2,(pP b2 0)),(5,(iV d_4))]∧St [] w0 w m [[⟨b2,[s1.v],26⟩]]) (fun (d_7 : Int) e a w=>e = .exit 0∧Fr a 16 [(5,(iV d_7))]∧St [] w0 w m []) hl1 ⟨_,_,rfl,hF.sub ⟨rfl,rfl,rfl,trivial⟩,hS⟩ ?_ ?_
 ·clear hF hS
  rintro s a w st ⟨i_3,d_4,rfl,hF,hS⟩ hb1
  unfold impl_depthOf_l1 at hb1
  refine q_seq (q_sr (q_m hF rfl fun a hF=>q_y (v:=(.bool (decide (0 < i_3)))) hF hS (ex_ibin rfl rfl rfl) fun a hF=>q_end (n_sq ?_)))
  rcases bcase (decide (0 < i_3)) with hc2 | hc2
  ·have hb1:=cond_f hc2 hb1
   refine q_cond_f hF rfl hc2 (q_exit (x_sq ?_))
   obtain rfl:=someI hb1
   exact ⟨nofun,.inl ⟨rfl,hF.sub ⟨rfl,trivial⟩,hS.mask [false]⟩⟩
  ·have hb1:=cond_t hc2 hb1
   refine q_cond_t hF rfl hc2 (q_skipc (n_sq (q_block (q_sr (q_y (v:=(pP b2 0)) hF hS (ex_fieldAddr U26 rfl sz24 rfl rfl) fun a hF=>q_y (v:=s1.v) hF hS (ex_load1 0 0 U24 rfl rfl rfl rfl) fun a hF=>q_m hF rfl fun a hF=>?_)))))
   obtain ⟨e_5,he_5,hb1⟩:=bindS hb1
   obtain ⟨vs6,at6,d6⟩:=h1.at he_5 1 rfl
   obtain rfl : vs6 = [(iV e_5)]:=d6
   refine q_y (v:=(elP s1 (i_3.toNat * 1))) hF hS (ex_indexAddr U24 sz3 rfl rfl (h1.idx he_5)) fun a hF=>q_y (v:=(iV e_5)) hF hS (ex_loadE1 0 U3 rfl rfl ((at6).at) rfl rfl) fun a hF=>q_s hF rfl fun a hF=>q_end (n_sq (q_region (q_m hF rfl fun a hF=>q_y (v:=(iV (w64 (d_4 + 1)))) hF hS (ex_ibin rfl rfl rfl) fun a hF=>q_s hF rfl fun a hF=>q_end (n_ib ?_))))
   obtain rfl:=someI hb1
   exact ⟨rfl,_,_,rfl,hF.sub ⟨rfl,rfl,rfl,trivial⟩,hS⟩
 ·rintro e a w ⟨rfl,hF,hS⟩
  refine x_ib (n_sq ?_)
  refine q_sr (q_m hF rfl fun a hF=>q_s hF rfl fun a hF=>q_end (n_sq (q_ret ?_)))
  obtain rfl:=someI hr
  exact ret_of hF hS rfl (.tmp rfl .nil) rfl

theorem c_impl_areasAt (p_g : impl_Geo) (p_level : Int) (r : (List Int)) (hr : impl_areasAt p_g p_level = some r) (w0 : World) (m : Mem) (hv : Vis m w0) (s1 : Sl) (h1 : Rd m s1 p_g.Parents) :
  Ret Tryz.prog 125 [(.agg #[s1.v]),(iV p_level)] w0 (fun v w=>∃ (q0' : Piece) (s0' : Sl),v = s0'.v∧St [] w0 w m [q0']∧OwnL m 3 q0' s0' r):=by
 unfold impl_areasAt at hr
 refine ret_start Tryz.func125 rfl 24 rfl rfl m hv fun a hF hS=>q_sr (q_box (cs:=[s1.v]) hF hS rfl rfl rfl fun a w b2 hF hS=>q_s hF rfl fun a hF=>q_end (n_sq (q_sr (q_s hF rfl fun a hF=>q_end (n_sq (q_seq (q_sr (q_y (v:=(pP b2 0)) hF hS (ex_fieldAddr U26 rfl sz24 rfl rfl) fun a hF=>q_y (v:=s1.v) hF hS (ex_load1 0 0 U24 rfl rfl rfl rfl) fun a hF=>q_y (v:=(iV (goLen p_g.Parents))) hF hS (ex_len U24 rfl h1.len) fun a hF=>q_m hF rfl fun a hF=>q_end (n_sq (q_block ?_))))))))))
 obtain ⟨list_12,hl1,hr⟩:=bindS hr
 refine q_loop (fun (s : (List Int) × Int) a w=>∃ (q4 : Piece),∃ (s4 : Sl),∃ list_3,∃ t_5,s = (list_3,t_5)∧Fr a 24 [(1,(iV p_level)),(2,(pP b2 0)),(5,s4.v),(9,(iV (goLen p_g.Parents))),(10,(iV t_5))]∧St [] w0 w m [q4,[⟨b2,[s1.v],26⟩]]∧OwnL m 3 q4 s4 list_3) (fun (list_12 : (List Int)) e a w=>∃ (q13 : Piece),∃ (s13 : Sl),e = .exit 0∧Fr a 24 [(5,s13.v)]∧St [] w0 w m [q13]∧OwnL m 3 q13 s13 list_12) hl1 ⟨[],nilS,_,_,rfl,hF.sub ⟨rfl,rfl,rfl,rfl,rfl,trivial⟩,hS.sel [1,0] (by decide),(OwnL.nil (α:=Int) m 3)⟩ ?_ ?_
 ·clear hF hS
  rintro s a w st ⟨q4,s4,list_3,t_5,rfl,hF,hS,h4⟩ hb1
  unfold impl_areasAt_l1 at hb1
  refine q_sr (q_y (v:=(.bool (decide (t_5 < (goLen p_g.Parents))))) hF hS (ex_ibin rfl rfl rfl) fun a hF=>q_end (n_sq (q_seq ?_)))
  rcases bcase (decide (t_5 < (goLen p_g.Parents))) with hc2 | hc2
  ·have hb1:=cond_f hc2 hb1
   refine q_cond_f hF rfl hc2 (q_exit (x_sq ?_))
   obtain rfl:=someI hb1
   exact ⟨nofun,.inl ⟨q4,s4,rfl,hF.sub ⟨rfl,trivial⟩,hS.mask [true,false],h4⟩⟩
  ·have hb1:=cond_t hc2 hb1
   refine q_cond_t hF rfl hc2 (q_skipc (n_sq (q_seq (q_block (q_sr (q_m hF rfl fun a hF=>q_s hF rfl fun a hF=>q_end (n_sq (q_sr (q_y (v:=(.agg #[s1.v])) hF hS (ex_loadA (vs:=[s1.v]) 1 0 U26 rfl sz26 rfl rfl rfl rfl) fun a hF=>q_m hF rfl fun a hF=>?_)))))))))
   obtain ⟨t_6,ht_6,hb1⟩:=bindS hb1
   refine q_call (vs:=[(.agg #[s1.v]),(iV t_5)]) hF hS Tryz.func102 (by kernel_rfl) rfl rfl rfl (c_impl_depthOf p_g t_5 t_6 ht_6 _ m hS.vis s1 h1) ?_
   rintro a w _ rfl hF hS
   refine q_m hF rfl fun a hF=>q_y (v:=(.bool (t_6 == p_level))) hF hS (ex_ibin rfl rfl rfl) fun a hF=>q_end (n_sq ?_)
   obtain ⟨list_10,hj3,hb1⟩:=bindS hb1
   refine q_join (fun a w=>∃ (q11 : Piece),∃ (s11 : Sl),Fr a 24 [(1,(iV p_level)),(2,(pP b2 0)),(5,s11.v),(9,(iV (goLen p_g.Parents))),(10,(iV t_5))]∧St [] w0 w m [q11,[⟨b2,[s1.v],26⟩]]∧OwnL m 3 q11 s11 list_10) ?_ ?_
   ·rcases bcase (t_6 == p_level) with hc4 | hc4
    ·have hj3:=cond_f hc4 hj3
     refine q_cond_f hF rfl hc4 (q_skipc (n_jn ?_))
     obtain rfl:=someI hj3
     exact ⟨q4,s4,hF.sub ⟨rfl,rfl,rfl,rfl,rfl,trivial⟩,hS,h4⟩
    ·have hj3:=cond_t hc4 hj3
     refine q_cond_t hF rfl hc4 (q_region (q_m hF rfl fun a hF=>q_m hF rfl fun a hF=>q_do rfl fun _ hK=>wp_buildSlice' (l:=([t_5] : List Int)) (cells:=[(iV t_5)]) hF hS U24 inf3 rfl rfl (by kernel_rfl) rfl rfl rfl ⟨rfl,rfl⟩ rfl rfl fun a w q7 s7 hF hS h7 _=>hK _ _ ?_))
     have hS : St _ _ _ _ [q4,q7,[⟨b2,[s1.v],26⟩]]:=hS.sel [1,0,2] (by decide)
     obtain ⟨l_8,hl_8,hj3⟩:=bindS hj3
     refine q_do rfl fun _ hK=>wp_append hF hS h4 U24 inf3 rfl rfl rfl rfl (h7.vw hS (j:=1) rfl) rfl (by decide) hl_8 rfl fun a w q9 s9 hF hS h9=>hK _ _ (q_s hF rfl fun a hF=>q_end (n_jn ?_))
     obtain rfl:=someI hj3
     exact ⟨q9,s9,hF.sub ⟨rfl,rfl,rfl,rfl,rfl,trivial⟩,hS.mask [true,false,true],h9⟩
   ·rintro a w ⟨q11,s11,hF,hS,h11⟩
    refine n_ib (n_sq ?_)
    refine q_region (q_y (v:=(iV (w64 (t_5 + 1)))) hF hS (ex_ibin rfl rfl rfl) fun a hF=>q_m hF rfl fun a hF=>q_end ?_)
    obtain rfl:=someI hb1
    exact ⟨rfl,q11,s11,_,_,rfl,hF.sub ⟨rfl,rfl,rfl,rfl,rfl,trivial⟩,hS,h11⟩
 ·rintro e a w ⟨q13,s13,rfl,hF,hS,h13⟩
  refine x_ib (n_sq ?_)
  refine q_sr (q_m hF rfl fun a hF=>q_s hF rfl fun a hF=>q_end (n_sq (q_ret ?_)))
  obtain rfl:=someI hr
  exact ret_of hF hS rfl (.tmp rfl .nil) ⟨q13,s13,rfl,hS.sel [0] (by decide),h13⟩

theorem c_impl_crossed (p_s : List impl_Variable) (p_t : impl_Table) (r : (List impl_Variable)) (hr : impl_crossed p_s p_t = some r) (w0 : World) (m : Mem) (hv : Vis m w0) (s1 : Sl) (h1 : Rd m s1 p_s) (s2 : Sl) (h2 : Rd m s2 p_t.Vars) (s3 : Sl) (h3 : Rd m s3 p_t.Where) :
  Ret Tryz.prog 127 [s1.v,(.agg #[(iV p_t.Level),s2.v,s3.v,(iV p_t.Sum)])] w0 (fun v w=>∃ (q0' : Piece) (s0' : Sl),v = s0'.v∧St [] w0 w m [q0']∧OwnL m 95 q0' s0' r):=by
 unfold impl_crossed at hr
 refine ret_start Tryz.func127 rfl 29 rfl rfl m hv fun a hF hS=>q_sr (q_box (cs:=[(iV p_t.Level),s2.v,s3.v,(iV p_t.Sum)]) hF hS rfl rfl rfl fun a w b4 hF hS=>q_s hF rfl fun a hF=>q_end (n_sq (q_sr (q_y (v:=(pP b4 1)) hF hS (ex_fieldAddr U29 rfl sz24 rfl rfl) fun a hF=>q_y (v:=s2.v) hF hS (ex_load1 0 0 U24 rfl rfl rfl rfl) fun a hF=>q_y (v:=(iV (goLen p_t.Vars))) hF hS (ex_len U24 rfl h2.len) fun a hF=>?_))))
 obtain ⟨l_5,hl_5,hr⟩:=bindS hr
 refine q_do rfl fun _ hK=>wp_make (z:=((impl_Variable.mk ([] : List UInt8) 0) : impl_Variable)) hF hS U27 inf95 rfl rfl rfl rfl rfl (by decide) hl_5 rfl fun a w q6 s6 hF hS h6 _=>hK _ _ (q_s hF rfl fun a hF=>q_end (n_sq (q_seq (q_sr (q_y (v:=(pP b4 1)) hF hS (ex_fieldAddr U29 rfl sz24 rfl rfl) fun a hF=>q_y (v:=s2.v) hF hS (ex_load1 1 0 U24 rfl rfl rfl rfl) fun a hF=>q_y (v:=(iV (goLen p_t.Vars))) hF hS (ex_len U24 rfl h2.len) fun a hF=>q_m hF rfl fun a hF=>q_end (n_sq (q_block ?_)))))))
 obtain ⟨out_17,hl1,hr⟩:=bindS hr
 refine q_loop (fun (s : (List impl_Variable) × Int) a w=>∃ (q8 : Piece),∃ out_7,∃ t_9,s = (out_7,t_9)∧Fr a 29 [(0,s1.v),(5,s6.v),(13,s2.v),(14,(iV (goLen p_t.Vars))),(15,(iV t_9))]∧St [] w0 w m [q8]∧OwnL m 95 q8 s6 out_7) (fun (out_17 : (List impl_Variable)) e a w=>∃ (q18 : Piece),e = .exit 0∧Fr a 29 [(5,s6.v)]∧St [] w0 w m [q18]∧OwnL m 95 q18 s6 out_17) hl1 ⟨q6,_,_,rfl,hF.sub ⟨rfl,rfl,rfl,rfl,rfl,trivial⟩,hS.mask [true,false],h6⟩ ?_ ?_
 ·clear hF hS
  rintro s a w st ⟨q8,out_7,t_9,rfl,hF,hS,h8⟩ hb1
  unfold impl_crossed_l1 at hb1
  refine q_sr (q_y (v:=(.bool (decide (t_9 < (goLen p_t.Vars))))) hF hS (ex_ibin rfl rfl rfl) fun a hF=>q_end (n_sq (q_seq ?_)))
  rcases bcase (decide (t_9 < (goLen p_t.Vars))) with hc2 | hc2
  ·have hb1:=cond_f hc2 hb1
   refine q_cond_f hF rfl hc2 (q_exit (x_sq ?_))
   obtain rfl:=someI hb1
   exact ⟨nofun,.inl ⟨q8,rfl,hF.sub ⟨rfl,trivial⟩,hS,h8⟩⟩
  ·have hb1:=cond_t hc2 hb1
   refine q_cond_t hF rfl hc2 (q_skipc (n_sq (q_seq (q_block (q_sr (q_m hF rfl fun a hF=>?_))))))
   obtain ⟨e_10,he_10,hb1⟩:=bindS hb1
   obtain ⟨vs11,at11,d11⟩:=h2.at he_10 1 rfl
   obtain rfl : vs11 = [(iV e_10)]:=d11
   refine q_y (v:=(elP s2 (t_9.toNat * 1))) hF hS (ex_indexAddr U24 sz3 rfl rfl (h2.idx he_10)) fun a hF=>q_y (v:=(iV e_10)) hF hS (ex_loadE1 0 U3 rfl rfl ((at11).at) rfl rfl) fun a hF=>q_s hF rfl fun a hF=>q_s hF rfl fun a hF=>q_end (n_sq (q_region (q_m hF rfl fun a hF=>q_m hF rfl fun a hF=>q_m hF rfl fun a hF=>q_m hF rfl fun a hF=>?_)))
   obtain ⟨e_12,he_12,hb1⟩:=bindS hb1
   obtain ⟨vs13,at13,d13⟩:=h1.at he_12 2 rfl
   obtain rfl : vs13 = [(strV e_12.Name),(iV e_12.Levels)]:=d13
   refine q_y (v:=(elP s1 (e_10.toNat * 2))) hF hS (ex_indexAddr U27 sz95 rfl rfl (h1.idx he_12)) fun a hF=>q_y (v:=(.agg #[(strV e_12.Name),(iV e_12.Levels)])) hF hS (ex_loadEA (us:=[(strV e_12.Name),(iV e_12.Levels)]) 0 U95 rfl sz95 rfl ((at13).at) rfl rfl rfl) fun a hF=>?_
   obtain ⟨e_14,he_14,hb1⟩:=bindS hb1
   obtain ⟨vs15,at15,d15⟩:=h8.at he_14 2 rfl
   obtain rfl : vs15 = [(strV e_14.Name),(iV e_14.Levels)]:=d15
   refine q_y (v:=(elP s6 (t_9.toNat * 2))) hF hS (ex_indexAddr U27 sz95 rfl rfl (h8.idx he_14)) fun a hF=>q_do rfl fun _ hK=>wp_storeE (e':=e_12) (us:=[(strV e_12.Name),(iV e_12.Levels)]) (vs:=[(strV e_14.Name),(iV e_14.Levels)]) 0 hF hS h8 sz95 rfl rfl rfl rfl rfl rfl rfl he_14 at15 rfl rfl rfl fun w q16 hS h16=>hK _ _ (q_end (n_ib (n_sq (q_region (q_y (v:=(iV (w64 (t_9 + 1)))) hF hS (ex_ibin rfl rfl rfl) fun a hF=>q_m hF rfl fun a hF=>q_end ?_)))))
   obtain rfl:=someI hb1
   exact ⟨rfl,q16,_,_,rfl,hF.sub ⟨rfl,rfl,rfl,rfl,rfl,trivial⟩,hS,h16⟩
 ·rintro e a w ⟨q18,rfl,hF,hS,h18⟩
  refine x_ib (n_sq ?_)
  refine q_sr (q_m hF rfl fun a hF=>q_s hF rfl fun a hF=>q_end (n_sq (q_ret ?_)))
  obtain rfl:=someI hr
  exact ret_of hF hS rfl (.tmp rfl .nil) ⟨q18,s6,rfl,hS.sel [0] (by decide),h18⟩

theorem c_impl_combinations (p_s : List impl_Variable) (r : Int) (hr : impl_combinations p_s = some r) (w0 : World) (m : Mem) (hv : Vis m w0) (s1 : Sl) (h1 : Rd m s1 p_s) :
  Ret Tryz.prog 126 [s1.v] w0 (fun v _=>v = (iV r)):=by
 unfold impl_combinations at hr
 refine ret_start Tryz.func126 rfl 18 rfl rfl m hv fun a hF hS=>q_sr (q_s hF rfl fun a hF=>q_end (n_sq (q_sr (q_s hF rfl fun a hF=>q_end (n_sq (q_seq (q_sr (q_m hF rfl fun a hF=>q_y (v:=(iV (goLen p_s))) hF hS (ex_len U27 rfl h1.len) fun a hF=>q_m hF rfl fun a hF=>q_end (n_sq (q_block ?_))))))))))
 obtain ⟨n_7,hl1,hr⟩:=bindS hr
 refine q_loop (fun (s : Int × Int) a w=>∃ n_2,∃ t_3,s = (n_2,t_3)∧Fr a 18 [(3,(iV n_2)),(6,s1.v),(7,(iV (goLen p_s))),(8,(iV t_3))]∧St [] w0 w m []) (fun (n_7 : Int) e a w=>e = .exit 0∧Fr a 18 [(3,(iV n_7))]∧St [] w0 w m []) hl1 ⟨_,_,rfl,hF.sub ⟨rfl,rfl,rfl,rfl,trivial⟩,hS⟩ ?_ ?_
 ·clear hF hS
  rintro s a w st ⟨n_2,t_3,rfl,hF,hS⟩ hb1
  unfold impl_combinations_l1 at hb1
  refine q_sr (q_y (v:=(.bool (decide (t_3 < (goLen p_s))))) hF hS (ex_ibin rfl rfl rfl) fun a hF=>q_end (n_sq (q_seq ?_)))
  rcases bcase (decide (t_3 < (goLen p_s))) with hc2 | hc2
  ·have hb1:=cond_f hc2 hb1
   refine q_cond_f hF rfl hc2 (q_exit (x_sq ?_))
   obtain rfl:=someI hb1
   exact ⟨nofun,.inl ⟨rfl,hF.sub ⟨rfl,trivial⟩,hS⟩⟩
  ·have hb1:=cond_t hc2 hb1
   refine q_cond_t hF rfl hc2 (q_skipc (n_sq (q_seq (q_block (q_seq (q_region ?_))))))
   obtain ⟨e_4,he_4,hb1⟩:=bindS hb1
   obtain ⟨vs5,at5,d5⟩:=h1.at he_4 2 rfl
   obtain rfl : vs5 = [(strV e_4.Name),(iV e_4.Levels)]:=d5
   refine q_y (v:=(elP s1 (t_3.toNat * 2))) hF hS (ex_indexAddr U27 sz95 rfl rfl (h1.idx he_4)) fun a hF=>q_y (v:=(.agg #[(strV e_4.Name),(iV e_4.Levels)])) hF hS (ex_loadEA (us:=[(strV e_4.Name),(iV e_4.Levels)]) 0 U95 rfl sz95 rfl ((at5).at) rfl rfl rfl) fun a hF=>q_alloc (cs:=[(strV ([] : List UInt8)),(iV 0)]) hF hS rfl rfl rfl fun a w b6 hF hS=>q_store (vs:=[(strV e_4.Name),(iV e_4.Levels)]) (cs':=[(strV e_4.Name),(iV e_4.Levels)]) 0 0 hF hS sz95 rfl rfl rfl rfl rfl rfl rfl rfl fun a w hF hS=>q_end (n_sq (q_region (q_m hF rfl fun a hF=>q_y (v:=(pP b6 1)) hF hS (ex_fieldAddr U95 rfl sz3 rfl rfl) fun a hF=>q_y (v:=(iV e_4.Levels)) hF hS (ex_load1 0 0 U3 rfl rfl rfl rfl) fun a hF=>q_y (v:=(iV (w64 (n_2 * e_4.Levels)))) hF hS (ex_ibin rfl rfl rfl) fun a hF=>q_s hF rfl fun a hF=>q_end (n_ib (n_sq (q_region (q_y (v:=(iV (w64 (t_3 + 1)))) hF hS (ex_ibin rfl rfl rfl) fun a hF=>q_m hF rfl fun a hF=>q_end ?_)))))))
   obtain rfl:=someI hb1
   exact ⟨rfl,_,_,rfl,hF.sub ⟨rfl,rfl,rfl,rfl,trivial⟩,hS.mask [false]⟩
 ·rintro e a w ⟨rfl,hF,hS⟩
  refine x_ib (n_sq ?_)
  refine q_sr (q_m hF rfl fun a hF=>q_s hF rfl fun a hF=>q_end (n_sq (q_ret ?_)))
  obtain rfl:=someI hr
  exact ret_of hF hS rfl (.tmp rfl .nil) rfl

theorem c_impl_cellCount (p_g : impl_Geo) (p_s : List impl_Variable) (p_t : impl_Table) (r : Int) (hr : impl_cellCount p_g p_s p_t = some r) (w0 : World) (m : Mem) (hv : Vis m w0) (s1 : Sl) (h1 : Rd m s1 p_g.Parents) (s2 : Sl) (h2 : Rd m s2 p_s) (s3 : Sl) (h3 : Rd m s3 p_t.Vars) (s4 : Sl) (h4 : Rd m s4 p_t.Where) :
  Ret Tryz.prog 89 [(.agg #[s1.v]),s2.v,(.agg #[(iV p_t.Level),s3.v,s4.v,(iV p_t.Sum)])] w0 (fun v _=>v = (iV r)):=by
 unfold impl_cellCount at hr
 refine ret_start Tryz.func89 rfl 17 rfl rfl m hv fun a hF hS=>q_sr (q_box (cs:=[s1.v]) hF hS rfl rfl rfl fun a w b5 hF hS=>q_box (cs:=[(iV p_t.Level),s3.v,s4.v,(iV p_t.Sum)]) hF hS rfl rfl rfl fun a w b6 hF hS=>q_s hF rfl fun a hF=>q_end (n_sq (q_seq (e_region ⟨[],[]⟩ mixed fun w' hw'=>?_))))
 have hS:=hS.below hw'
 refine e_X (v:=(.agg #[s1.v])) 0 hF hS rfl (ex_loadA (vs:=[s1.v]) 1 0 U26 rfl sz26 rfl rfl rfl rfl) fun a hF=>e_P (v:=(pP b6 0)) 1 hF rfl (ex_fieldAddr U29 rfl sz3 rfl rfl) fun a hF=>e_X (v:=(iV p_t.Level)) 2 hF hS rfl (ex_load1 0 0 U3 rfl rfl rfl rfl) fun a hF=>e_P (v:=s2.v) 5 hF rfl (ex_move rfl) fun a hF=>e_X (v:=(.agg #[(iV p_t.Level),s3.v,s4.v,(iV p_t.Sum)])) 6 hF hS rfl (ex_loadA (vs:=[(iV p_t.Level),s3.v,s4.v,(iV p_t.Sum)]) 0 0 U29 rfl sz29 rfl rfl rfl rfl) fun a hF=>e_one 3 (by kernel_rfl) ?_
 obtain ⟨t_13,ht_13,hr⟩:=bindS hr
 refine e_call (vs:=[(.agg #[s1.v]),(iV p_t.Level)]) hF hS rfl Tryz.func125 (by kernel_rfl) rfl rfl rfl (c_impl_areasAt p_g p_t.Level t_13 ht_13 _ m hS.vis s1 h1) ?_
 rintro a w _ ⟨q15,s15,rfl,hR14,h15⟩ hF hS2
 have hS : St _ _ _ _ [q15,[⟨b6,[(iV p_t.Level),s3.v,s4.v,(iV p_t.Sum)],29⟩],[⟨b5,[s1.v],26⟩]]:=hS.joinF hR14
 refine e_P (v:=(iV (goLen t_13))) 4 hF rfl (ex_len U24 rfl h15.len) fun a hF=>e_one 7 (by kernel_rfl) ?_
 obtain ⟨t_16,ht_16,hr⟩:=bindS hr
 refine e_call (vs:=[s2.v,(.agg #[(iV p_t.Level),s3.v,s4.v,(iV p_t.Sum)])]) hF hS rfl Tryz.func127 (by kernel_rfl) rfl rfl rfl (c_impl_crossed p_s p_t t_16 ht_16 _ m hS.vis s2 h2 s3 h3 s4 h4) ?_
 rintro a w _ ⟨q18,s18,rfl,hR17,h18⟩ hF hS2
 have hS : St _ _ _ _ [q18,q15,[⟨b6,[(iV p_t.Level),s3.v,s4.v,(iV p_t.Sum)],29⟩],[⟨b5,[s1.v],26⟩]]:=hS.joinF hR17
 refine e_one 8 (by kernel_rfl) ?_
 obtain ⟨m20,hl20,hv20,hz20⟩:=hS.lend
 obtain ⟨t_19,ht_19,hr⟩:=bindS hr
 refine e_call (vs:=[s18.v]) hF hS rfl Tryz.func126 (by kernel_rfl) rfl rfl rfl (c_impl_combinations t_16 t_19 ht_19 _ m20 hv20 s18 (h18.froz hl20 (hz20 0 _ rfl))) ?_
 rintro a w _ rfl hF hS
 refine e_P (v:=(iV (w64 ((goLen t_13) * t_19)))) 9 hF rfl (ex_ibin rfl rfl rfl) fun a hF=>e_P (v:=(iV (w64 ((goLen t_13) * t_19)))) 10 hF rfl (ex_assign rfl) fun a hF=>e_end (by kernel_rfl) (n_sq (q_ret ?_)) _
 obtain rfl:=someI hr
 exact ret_of hF hS rfl (.tmp rfl .nil) rfl

theorem c_impl_isTable (p_g : impl_Geo) (p_s : List impl_Variable) (p_t : impl_Table) (r : Bool) (hr : impl_isTable p_g p_s p_t = some r) (w0 : World) (m : Mem) (hv : Vis m w0) (s1 : Sl) (h1 : Rd m s1 p_g.Parents) (s2 : Sl) (h2 : Rd m s2 p_s) (s3 : Sl) (h3 : Rd m s3 p_t.Vars) (s4 : Sl) (h4 : Rd m s4 p_t.Where) :
  Ret Tryz.prog 37 [(.agg #[s1.v]),s2.v,(.agg #[(iV p_t.Level),s3.v,s4.v,(iV p_t.Sum)])] w0 (fun v _=>v = (.bool r)):=by
 unfold impl_isTable at hr
 refine ret_start Tryz.func37 rfl 42 rfl rfl m hv fun a hF hS=>q_sr (q_box (cs:=[s1.v]) hF hS rfl rfl rfl fun a w b5 hF hS=>q_box (cs:=[(iV p_t.Level),s3.v,s4.v,(iV p_t.Sum)]) hF hS rfl rfl rfl fun a w b6 hF hS=>q_s hF rfl fun a hF=>q_end (n_sq (q_seq (q_seq ?_))))
 obtain ⟨t_9,hj1,hr⟩:=bindS hr
 refine q_join (fun a w=>Fr a 42 [(1,s2.v),(3,(pP b5 0)),(5,(pP b6 0)),(31,(.bool t_9))]∧St [] w0 w m [[⟨b6,[(iV p_t.Level),s3.v,s4.v,(iV p_t.Sum)],29⟩],[⟨b5,[s1.v],26⟩]]) ?_ ?_
 ·refine q_region (q_m hF rfl fun a hF=>q_y (v:=(pP b6 1)) hF hS (ex_fieldAddr U29 rfl sz24 rfl rfl) fun a hF=>q_y (v:=s3.v) hF hS (ex_load1 0 0 U24 rfl rfl rfl rfl) fun a hF=>?_)
  obtain ⟨t_7,ht_7,hj1⟩:=bindS hj1
  refine q_call (vs:=[s2.v,s3.v]) hF hS Tryz.func87 (by kernel_rfl) rfl rfl rfl (c_impl_areVars p_s p_t.Vars t_7 ht_7 _ m hS.vis s2 h2 s3 h3) ?_
  rintro a w _ rfl hF hS
  refine q_y (v:=(.bool (!t_7))) hF hS (ex_not rfl) fun a hF=>q_m hF rfl fun a hF=>?_
  rcases bcase (!t_7) with hc2 | hc2
  ·have hj1:=cond_f hc2 hj1
   refine q_g (v:=s2.v) hF hS (ex_move rfl) hc2 fun a hF=>q_g (v:=(pP b6 2)) hF hS (ex_fieldAddr U29 rfl sz24 rfl rfl) hc2 fun a hF=>q_g (v:=s4.v) hF hS (ex_load1 0 0 U24 rfl rfl rfl rfl) hc2 fun a hF=>?_
   obtain ⟨t_8,ht_8,hj1⟩:=bindS hj1
   refine q_callg (vs:=[s2.v,s4.v]) hF hS (wanted_t hF rfl rfl rfl hc2) Tryz.func88 (by kernel_rfl) rfl rfl rfl (c_impl_isWhere p_s p_t.Where t_8 ht_8 _ m hS.vis s2 h2 s4 h4) ?_
   rintro a w _ rfl hF hS
   refine q_g (v:=(.bool (!t_8))) hF hS (ex_not rfl) hc2 fun a hF=>q_y (v:=(.bool (!t_8))) hF hS (ex_pick_f rfl rfl hc2) fun a hF=>q_m hF rfl fun a hF=>?_
   rcases bcase (!t_8) with hc3 | hc3
   ·have hj1:=cond_f hc3 hj1
    refine q_g (v:=(pP b6 3)) hF hS (ex_fieldAddr U29 rfl sz3 rfl rfl) hc3 fun a hF=>q_g (v:=(iV p_t.Sum)) hF hS (ex_load1 0 0 U3 rfl rfl rfl rfl) hc3 fun a hF=>q_g (v:=(.bool (decide (p_t.Sum < (-1))))) hF hS (ex_ibin rfl rfl rfl) hc3 fun a hF=>q_y (v:=(.bool (decide (p_t.Sum < (-1))))) hF hS (ex_pick_f rfl rfl hc3) fun a hF=>q_m hF rfl fun a hF=>?_
    rcases bcase (decide (p_t.Sum < (-1))) with hc4 | hc4
    ·have hj1:=cond_f hc4 hj1
     refine q_g (v:=(pP b6 3)) hF hS (ex_fieldAddr U29 rfl sz3 rfl rfl) hc4 fun a hF=>q_g (v:=(iV p_t.Sum)) hF hS (ex_load1 0 0 U3 rfl rfl rfl rfl) hc4 fun a hF=>q_g (v:=s2.v) hF hS (ex_move rfl) hc4 fun a hF=>q_g (v:=(iV (goLen p_s))) hF hS (ex_len U27 rfl h2.len) hc4 fun a hF=>q_g (v:=(.bool (decide ((goLen p_s) ≤ p_t.Sum)))) hF hS (ex_ibin rfl rfl rfl) hc4 fun a hF=>q_y (v:=(.bool (decide ((goLen p_s) ≤ p_t.Sum)))) hF hS (ex_pick_f rfl rfl hc4) fun a hF=>q_end (n_jn ?_)
     obtain rfl:=someI hj1
     exact ⟨hF.sub ⟨rfl,rfl,rfl,rfl,trivial⟩,hS⟩
    ·have hj1:=cond_t hc4 hj1
     refine q_k hF hc4 fun a hF=>q_k hF hc4 fun a hF=>q_k hF hc4 fun a hF=>q_k hF hc4 fun a hF=>q_k hF hc4 fun a hF=>q_y (v:=(.bool true)) hF hS (ex_pick_t rfl rfl hc4) fun a hF=>q_end (n_jn ?_)
     obtain rfl:=someI hj1
     exact ⟨hF.sub ⟨rfl,rfl,rfl,rfl,trivial⟩,hS⟩
   ·have hj1:=cond_t hc3 hj1
    refine q_k hF hc3 fun a hF=>q_k hF hc3 fun a hF=>q_k hF hc3 fun a hF=>q_y (v:=(.bool true)) hF hS (ex_pick_t rfl rfl hc3) fun a hF=>q_m hF rfl fun a hF=>q_k hF rfl fun a hF=>q_k hF rfl fun a hF=>q_k hF rfl fun a hF=>q_k hF rfl fun a hF=>q_k hF rfl fun a hF=>q_y (v:=(.bool true)) hF hS (ex_pick_t rfl rfl rfl) fun a hF=>q_end (n_jn ?_)
    obtain rfl:=someI hj1
    exact ⟨hF.sub ⟨rfl,rfl,rfl,rfl,trivial⟩,hS⟩
  ·have hj1:=cond_t hc2 hj1
   refine q_k hF hc2 fun a hF=>q_k hF hc2 fun a hF=>q_k hF hc2 fun a hF=>q_k hF hc2 fun a hF=>q_k hF hc2 fun a hF=>q_y (v:=(.bool true)) hF hS (ex_pick_t rfl rfl hc2) fun a hF=>q_m hF rfl fun a hF=>q_k hF rfl fun a hF=>q_k hF rfl fun a hF=>q_k hF rfl fun a hF=>q_y (v:=(.bool true)) hF hS (ex_pick_t rfl rfl rfl) fun a hF=>q_m hF rfl fun a hF=>q_k hF rfl fun a hF=>q_k hF rfl fun a hF=>q_k hF rfl fun a hF=>q_k hF rfl fun a hF=>q_k hF rfl fun a hF=>q_y (v:=(.bool true)) hF hS (ex_pick_t rfl rfl rfl) fun a hF=>q_end (n_jn ?_)
   obtain rfl:=someI hj1
   exact ⟨hF.sub ⟨rfl,rfl,rfl,rfl,trivial⟩,hS⟩
 ·rintro a w ⟨hF,hS⟩
  refine n_sq ?_
  rcases bcase (t_9) with hc5 | hc5
  ·have hr:=cond_f hc5 hr
   refine q_cond_f hF rfl hc5 (q_skipc (n_sq (q_sr (q_y (v:=(.agg #[s1.v])) hF hS (ex_loadA (vs:=[s1.v]) 1 0 U26 rfl sz26 rfl rfl rfl rfl) fun a hF=>q_m hF rfl fun a hF=>q_y (v:=(.agg #[(iV p_t.Level),s3.v,s4.v,(iV p_t.Sum)])) hF hS (ex_loadA (vs:=[(iV p_t.Level),s3.v,s4.v,(iV p_t.Sum)]) 0 0 U29 rfl sz29 rfl rfl rfl rfl) fun a hF=>?_))))
   obtain ⟨t_10,ht_10,hr⟩:=bindS hr
   refine q_call (vs:=[(.agg #[s1.v]),s2.v,(.agg #[(iV p_t.Level),s3.v,s4.v,(iV p_t.Sum)])]) hF hS Tryz.func89 (by kernel_rfl) rfl rfl rfl (c_impl_cellCount p_g p_s p_t t_10 ht_10 _ m hS.vis s1 h1 s2 h2 s3 h3 s4 h4) ?_
   rintro a w _ rfl hF hS
   refine q_s hF rfl fun a hF=>q_end (n_sq (q_seq ?_))
   obtain ⟨t_11,hj6,hr⟩:=bindS hr
   refine q_join (fun a w=>Fr a 42 [(6,(.bool t_11))]∧St [] w0 w m []) ?_ ?_
   ·refine q_region (q_m hF rfl fun a hF=>q_y (v:=(.bool (decide (0 < t_10)))) hF hS (ex_ibin rfl rfl rfl) fun a hF=>q_m hF rfl fun a hF=>?_)
    rcases bcase (decide (0 < t_10)) with hc7 | hc7
    ·have hj6:=cond_f hc7 hj6
     refine q_k hF hc7 fun a hF=>q_k hF hc7 fun a hF=>q_y (v:=(.bool false)) hF hS (ex_pick_f rfl rfl hc7) fun a hF=>q_s hF rfl fun a hF=>q_end (n_jn ?_)
     obtain rfl:=someI hj6
     exact ⟨hF.sub ⟨rfl,trivial⟩,hS.mask [false,false]⟩
    ·have hj6:=cond_t hc7 hj6
     refine q_g (v:=(iV t_10)) hF hS (ex_move rfl) hc7 fun a hF=>q_g (v:=(.bool (decide (t_10 ≤ 600)))) hF hS (ex_ibin rfl rfl rfl) hc7 fun a hF=>q_y (v:=(.bool (decide (t_10 ≤ 600)))) hF hS (ex_pick_t rfl rfl hc7) fun a hF=>q_s hF rfl fun a hF=>q_end (n_jn ?_)
     obtain rfl:=someI hj6
     exact ⟨hF.sub ⟨rfl,trivial⟩,hS.mask [false,false]⟩
   ·rintro a w ⟨hF,hS⟩
    refine n_sq (q_ret ?_)
    obtain rfl:=someI hr
    exact ret_of hF hS rfl (.tmp rfl .nil) rfl
  ·have hr:=cond_t hc5 hr
   refine q_cond_t hF rfl hc5 (q_sr (q_s hF rfl fun a hF=>q_end (n_sq (q_ret (r_sq ?_)))))
   obtain rfl:=someI hr
   exact ret_of hF hS rfl (.tmp rfl .nil) rfl

theorem c_impl_isPlan (p_g : impl_Geo) (p_s : List impl_Variable) (p_l : List impl_Table) (r : Bool) (hr : impl_isPlan p_g p_s p_l = some r) (w0 : World) (m : Mem) (hv : Vis m w0) (s1 : Sl) (h1 : Rd m s1 p_g.Parents) (s2 : Sl) (h2 : Rd m s2 p_s) (s3 : Sl) (h3 : Rd m s3 p_l) :
  Ret Tryz.prog 49 [(.agg #[s1.v]),s2.v,s3.v] w0 (fun v _=>v = (.bool r)):=by
 unfold impl_isPlan at hr
 refine ret_start Tryz.func49 rfl 34 rfl rfl m hv fun a hF hS=>q_sr (q_box (cs:=[s1.v]) hF hS rfl rfl rfl fun a w b4 hF hS=>q_s hF rfl fun a hF=>q_end (n_sq (q_seq (q_seq ?_))))
 obtain ⟨t_7,hj1,hr⟩:=bindS hr
 refine q_join (fun a w=>Fr a 34 [(1,s2.v),(2,s3.v),(3,(pP b4 0)),(21,(.bool t_7))]∧St [] w0 w m [[⟨b4,[s1.v],26⟩]]) ?_ ?_
 ·refine q_region (q_y (v:=(.agg #[s1.v])) hF hS (ex_loadA (vs:=[s1.v]) 0 0 U26 rfl sz26 rfl rfl rfl rfl) fun a hF=>?_)
  obtain ⟨t_5,ht_5,hj1⟩:=bindS hj1
  refine q_call (vs:=[(.agg #[s1.v])]) hF hS Tryz.func34 (by kernel_rfl) rfl rfl rfl (c_impl_IsGeo p_g t_5 ht_5 _ m hS.vis s1 h1) ?_
  rintro a w _ rfl hF hS
  refine q_y (v:=(.bool (!t_5))) hF hS (ex_not rfl) fun a hF=>q_m hF rfl fun a hF=>?_
  rcases bcase (!t_5) with hc2 | hc2
  ·have hj1:=cond_f hc2 hj1
   refine q_g (v:=s2.v) hF hS (ex_move rfl) hc2 fun a hF=>?_
   obtain ⟨t_6,ht_6,hj1⟩:=bindS hj1
   refine q_callg (vs:=[s2.v]) hF hS (wanted_t hF rfl rfl rfl hc2) Tryz.func35 (by kernel_rfl) rfl rfl rfl (c_impl_IsSchema p_s t_6 ht_6 _ m hS.vis s2 h2) ?_
   rintro a w _ rfl hF hS
   refine q_g (v:=(.bool (!t_6))) hF hS (ex_not rfl) hc2 fun a hF=>q_y (v:=(.bool (!t_6))) hF hS (ex_pick_f rfl rfl hc2) fun a hF=>q_m hF rfl fun a hF=>?_
   rcases bcase (!t_6) with hc3 | hc3
   ·have hj1:=cond_f hc3 hj1
    refine q_g (v:=s3.v) hF hS (ex_move rfl) hc3 fun a hF=>q_g (v:=(iV (goLen p_l))) hF hS (ex_len U44 rfl h3.len) hc3 fun a hF=>q_g (v:=(.bool (decide (20 < (goLen p_l))))) hF hS (ex_ibin rfl rfl rfl) hc3 fun a hF=>q_y (v:=(.bool (decide (20 < (goLen p_l))))) hF hS (ex_pick_f rfl rfl hc3) fun a hF=>q_end (n_jn ?_)
    obtain rfl:=someI hj1
    exact ⟨hF.sub ⟨rfl,rfl,rfl,rfl,trivial⟩,hS⟩
   ·have hj1:=cond_t hc3 hj1
    refine q_k hF hc3 fun a hF=>q_k hF hc3 fun a hF=>q_k hF hc3 fun a hF=>q_y (v:=(.bool true)) hF hS (ex_pick_t rfl rfl hc3) fun a hF=>q_end (n_jn ?_)
    obtain rfl:=someI hj1
    exact ⟨hF.sub ⟨rfl,rfl,rfl,rfl,trivial⟩,hS⟩
  ·have hj1:=cond_t hc2 hj1
   refine q_k hF hc2 fun a hF=>q_k hF hc2 fun a hF=>q_k hF hc2 fun a hF=>q_y (v:=(.bool true)) hF hS (ex_pick_t rfl rfl hc2) fun a hF=>q_m hF rfl fun a hF=>q_k hF rfl fun a hF=>q_k hF rfl fun a hF=>q_k hF rfl fun a hF=>q_y (v:=(.bool true)) hF hS (ex_pick_t rfl rfl rfl) fun a hF=>q_end (n_jn ?_)
   obtain rfl:=someI hj1
   exact ⟨hF.sub ⟨rfl,rfl,rfl,rfl,trivial⟩,hS⟩
 ·rintro a w ⟨hF,hS⟩
  refine n_sq ?_
  rcases bcase (t_7) with hc4 | hc4
  ·have hr:=cond_f hc4 hr
   refine q_cond_f hF rfl hc4 (q_skipc (n_sq (q_seq (q_sr (q_m hF rfl fun a hF=>q_y (v:=(iV (goLen p_l))) hF hS (ex_len U44 rfl h3.len) fun a hF=>q_m hF rfl fun a hF=>q_end (n_sq (q_block ?_)))))))
   obtain ⟨o5,hl5,hr⟩:=bindS hr
   refine q_loop (fun (t_8 : Int) a w=>Fr a 34 [(1,s2.v),(3,(pP b4 0)),(22,s3.v),(23,(iV (goLen p_l))),(24,(iV t_8))]∧St [] w0 w m [[⟨b4,[s1.v],26⟩]]) (fun (o : (Unit) ⊕ (Bool)) e a w=>o = .inl ()∧e = .exit 0∧Fr a 34 []∧St [] w0 w m []) hl5 ⟨hF.sub ⟨rfl,rfl,rfl,rfl,rfl,trivial⟩,hS⟩ ?_ ?_
   ·clear hF hS
    rintro t_8 a w st ⟨hF,hS⟩ hb5
    unfold impl_isPlan_l1 at hb5
    refine q_sr (q_y (v:=(.bool (decide (t_8 < (goLen p_l))))) hF hS (ex_ibin rfl rfl rfl) fun a hF=>q_end (n_sq (q_seq ?_)))
    rcases bcase (decide (t_8 < (goLen p_l))) with hc6 | hc6
    ·have hb5:=cond_f hc6 hb5
     refine q_cond_f hF rfl hc6 (q_exit (x_sq ?_))
     obtain rfl:=someI hb5
     exact ⟨nofun,.inl ⟨rfl,rfl,hF.sub trivial,hS.mask [false]⟩⟩
    ·have hb5:=cond_t hc6 hb5
     refine q_cond_t hF rfl hc6 (q_skipc (n_sq (q_seq (q_block (q_seq (q_region ?_))))))
     obtain ⟨e_9,he_9,hb5⟩:=bindS hb5
     obtain ⟨vs10,at10,d10⟩:=h3.at he_9 4 rfl
     obtain ⟨s11,s12,rfl,h11,h12⟩ : ∃ s11 s12 : Sl,vs10 = [(iV e_9.Level),s11.v,s12.v,(iV e_9.Sum)]∧Rd m s11 e_9.Vars∧Rd m s12 e_9.Where:=d10
     refine q_y (v:=(elP s3 (t_8.toNat * 4))) hF hS (ex_indexAddr U44 sz29 rfl rfl (h3.idx he_9)) fun a hF=>q_y (v:=(.agg #[(iV e_9.Level),s11.v,s12.v,(iV e_9.Sum)])) hF hS (ex_loadEA (us:=[(iV e_9.Level),s11.v,s12.v,(iV e_9.Sum)]) 0 U29 rfl sz29 rfl ((at10).at) rfl rfl rfl) fun a hF=>q_alloc (cs:=[(iV 0),nilS.v,nilS.v,(iV 0)]) hF hS rfl rfl rfl fun a w b13 hF hS=>q_store (vs:=[(iV e_9.Level),s11.v,s12.v,(iV e_9.Sum)]) (cs':=[(iV e_9.Level),s11.v,s12.v,(iV e_9.Sum)]) 0 0 hF hS sz29 rfl rfl rfl rfl rfl rfl rfl rfl fun a w hF hS=>q_end (n_sq (q_sr (q_y (v:=(.agg #[s1.v])) hF hS (ex_loadA (vs:=[s1.v]) 1 0 U26 rfl sz26 rfl rfl rfl rfl) fun a hF=>q_m hF rfl fun a hF=>q_y (v:=(.agg #[(iV e_9.Level),s11.v,s12.v,(iV e_9.Sum)])) hF hS (ex_loadA (vs:=[(iV e_9.Level),s11.v,s12.v,(iV e_9.Sum)]) 0 0 U29 rfl sz29 rfl rfl rfl rfl) fun a hF=>?_)))
     obtain ⟨t_14,ht_14,hb5⟩:=bindS hb5
     refine q_call (vs:=[(.agg #[s1.v]),s2.v,(.agg #[(iV e_9.Level),s11.v,s12.v,(iV e_9.Sum)])]) hF hS Tryz.func37 (by kernel_rfl) rfl rfl rfl (c_impl_isTable p_g p_s e_9 t_14 ht_14 _ m hS.vis s1 h1 s2 h2 s11 h11 s12 h12) ?_
     rintro a w _ rfl hF hS
     refine q_y (v:=(.bool (!t_14))) hF hS (ex_not rfl) fun a hF=>q_end (n_sq ?_)
     rcases bcase (!t_14) with hc7 | hc7
     ·have hb5:=cond_f hc7 hb5
      refine q_cond_f hF rfl hc7 (q_skipc (n_ib (n_sq (q_region (q_y (v:=(iV (w64 (t_8 + 1)))) hF hS (ex_ibin rfl rfl rfl) fun a hF=>q_m hF rfl fun a hF=>q_end ?_)))))
      obtain rfl:=someI hb5
      exact ⟨rfl,hF.sub ⟨rfl,rfl,rfl,rfl,rfl,trivial⟩,hS.mask [false,true]⟩
     ·have hb5:=cond_t hc7 hb5
      refine q_cond_t hF rfl hc7 (q_sr (q_s hF rfl fun a hF=>q_end (n_sq (q_ret (r_ib (r_sq ?_))))))
      obtain rfl:=someI hb5
      refine ⟨nofun,.inr fun ho=>?_⟩
      subst ho
      refine r_ib (r_sq ?_)
      obtain rfl:=someI hr
      exact ret_of hF hS rfl (.tmp rfl .nil) rfl
   ·rintro e a w ⟨rfl,rfl,hF,hS⟩
    refine x_ib (n_sq ?_)
    refine q_sr (q_s hF rfl fun a hF=>q_end (n_sq (q_ret ?_)))
    obtain rfl:=someI hr
    exact ret_of hF hS rfl (.tmp rfl .nil) rfl
  ·have hr:=cond_t hc4 hr
   refine q_cond_t hF rfl hc4 (q_sr (q_s hF rfl fun a hF=>q_end (n_sq (q_ret (r_sq ?_)))))
   obtain rfl:=someI hr
   exact ret_of hF hS rfl (.tmp rfl .nil) rfl

theorem c_impl_setText (p_set : Int) (r : (List UInt8)) (hr : impl_setText p_set = some r) (w0 : World) (m : Mem) (hv : Vis m w0) :
  Ret Tryz.prog 69 [(iV p_set)] w0 (fun v _=>v = (strV r)):=by
 unfold impl_setText at hr
 refine ret_start Tryz.func69 rfl 23 rfl rfl m hv fun a hF hS=>q_sr (q_s hF rfl fun a hF=>q_end (n_sq (q_sr (q_s hF rfl fun a hF=>q_end (n_sq (q_seq (q_sr (q_m hF rfl fun a hF=>q_end (n_sq (q_block ?_))))))))))
 obtain ⟨parts_11,hl1,hr⟩:=bindS hr
 refine q_loop (fun (s : (List (List UInt8)) × Int) a w=>∃ (q2 : Piece),∃ (s2 : Sl),∃ parts_1,∃ t_3,s = (parts_1,t_3)∧Fr a 23 [(0,(iV p_set)),(3,s2.v),(5,(iV t_3))]∧St [] w0 w m [q2]∧OwnL m 9 q2 s2 parts_1) (fun (parts_11 : (List (List UInt8))) e a w=>∃ (q12 : Piece),∃ (s12 : Sl),e = .exit 0∧Fr a 23 [(3,s12.v)]∧St [] w0 w m [q12]∧OwnL m 9 q12 s12 parts_11) hl1 ⟨[],nilS,_,_,rfl,hF.sub ⟨rfl,rfl,rfl,trivial⟩,hS.sel [0] (by decide),(OwnL.nil (α:=List UInt8) m 9)⟩ ?_ ?_
 ·clear hF hS
  rintro s a w st ⟨q2,s2,parts_1,t_3,rfl,hF,hS,h2⟩ hb1
  unfold impl_setText_l1 at hb1
  refine q_sr (q_y (v:=(.bool (decide (t_3 < 8)))) hF hS (ex_ibin rfl rfl rfl) fun a hF=>q_end (n_sq (q_seq ?_)))
  rcases bcase (decide (t_3 < 8)) with hc2 | hc2
  ·have hb1:=cond_f hc2 hb1
   refine q_cond_f hF rfl hc2 (q_exit (x_sq ?_))
   obtain rfl:=someI hb1
   exact ⟨nofun,.inl ⟨q2,s2,rfl,hF.sub ⟨rfl,trivial⟩,hS,h2⟩⟩
  ·have hb1:=cond_t hc2 hb1
   refine q_cond_t hF rfl hc2 (q_skipc (n_sq (q_seq (q_block (q_sr (q_m hF rfl fun a hF=>q_s hF rfl fun a hF=>q_end (n_sq (q_sr (q_m hF rfl fun a hF=>q_m hF rfl fun a hF=>?_)))))))))
   obtain ⟨t_4,ht_4,hb1⟩:=bindS hb1
   refine q_y (v:=(iV t_4)) hF hS (ex_shr rfl rfl ht_4) fun a hF=>q_y (v:=(iV (goBits .and .i64 t_4 1))) hF hS (ex_bits rfl rfl rfl) fun a hF=>q_y (v:=(.bool ((goBits .and .i64 t_4 1) == 1))) hF hS (ex_ibin rfl rfl rfl) fun a hF=>q_end (n_sq ?_)
   obtain ⟨parts_9,hj3,hb1⟩:=bindS hb1
   refine q_join (fun a w=>∃ (q10 : Piece),∃ (s10 : Sl),Fr a 23 [(0,(iV p_set)),(3,s10.v),(5,(iV t_3))]∧St [] w0 w m [q10]∧OwnL m 9 q10 s10 parts_9) ?_ ?_
   ·rcases bcase ((goBits .and .i64 t_4 1) == 1) with hc4 | hc4
    ·have hj3:=cond_f hc4 hj3
     refine q_cond_f hF rfl hc4 (q_skipc (n_jn ?_))
     obtain rfl:=someI hj3
     exact ⟨q2,s2,hF.sub ⟨rfl,rfl,rfl,trivial⟩,hS,h2⟩
    ·have hj3:=cond_t hc4 hj3
     refine q_cond_t hF rfl hc4 (q_region (q_m hF rfl fun a hF=>q_m hF rfl fun a hF=>q_y (v:=(iV (w64 (48 + t_3)))) hF hS (ex_ibin rfl rfl rfl) fun a hF=>q_y (v:=(.int .i32 (IntKind.wrap .i32 (w64 (48 + t_3))))) hF hS (ex_conv U3 U21 rfl) fun a hF=>?_))
     obtain ⟨t_5,ht_5,hj3⟩:=bindS hj3
     refine q_y (v:=(strV t_5)) hF hS (ex_runeStr U21 U9 rfl ht_5) fun a hF=>q_do rfl fun _ hK=>wp_buildSlice' (l:=([t_5] : List (List UInt8))) (cells:=[(strV t_5)]) hF hS U80 inf9 rfl rfl (by kernel_rfl) rfl rfl rfl ⟨rfl,rfl⟩ rfl rfl fun a w q6 s6 hF hS h6 _=>hK _ _ ?_
     have hS : St _ _ _ _ [q2,q6]:=hS.sel [1,0] (by decide)
     obtain ⟨l_7,hl_7,hj3⟩:=bindS hj3
     refine q_do rfl fun _ hK=>wp_append hF hS h2 U80 inf9 rfl rfl rfl rfl (h6.vw hS (j:=1) rfl) rfl (by decide) hl_7 rfl fun a w q8 s8 hF hS h8=>hK _ _ (q_s hF rfl fun a hF=>q_end (n_jn ?_))
     obtain rfl:=someI hj3
     exact ⟨q8,s8,hF.sub ⟨rfl,rfl,rfl,trivial⟩,hS.mask [true,false],h8⟩
   ·rintro a w ⟨q10,s10,hF,hS,h10⟩
    refine n_ib (n_sq ?_)
    refine q_region (q_y (v:=(iV (w64 (t_3 + 1)))) hF hS (ex_ibin rfl rfl rfl) fun a hF=>q_m hF rfl fun a hF=>q_end ?_)
    obtain rfl:=someI hb1
    exact ⟨rfl,q10,s10,_,_,rfl,hF.sub ⟨rfl,rfl,rfl,trivial⟩,hS,h10⟩
 ·rintro e a w ⟨q12,s12,rfl,hF,hS,h12⟩
  refine x_ib (n_sq ?_)
  refine q_sr (q_m hF rfl fun a hF=>?_)
  obtain ⟨m14,hl14,hv14,hz14⟩:=hS.lend
  obtain ⟨t_13,ht_13,hr⟩:=bindS hr
  refine q_call (vs:=[s12.v,(strV ([44] : List UInt8))]) hF hS Tryz.func68 (by kernel_rfl) rfl rfl rfl (c_strings_Join parts_11 ([44] : List UInt8) t_13 ht_13 _ m14 hv14 s12 (h12.froz hl14 (hz14 0 _ rfl))) ?_
  rintro a w _ rfl hF hS
  refine q_s hF rfl fun a hF=>q_end (n_sq (q_ret ?_))
  obtain rfl:=someI hr
  exact ret_of hF hS rfl (.tmp rfl .nil) rfl

theorem c_impl_tableText (p_s : List impl_Variable) (p_t : impl_Table) (r : (List UInt8)) (hr : impl_tableText p_s p_t = some r) (w0 : World) (m : Mem) (hv : Vis m w0) (ht : Tbl m) (s1 : Sl) (h1 : Rd m s1 p_s) (s2 : Sl) (h2 : Rd m s2 p_t.Vars) (s3 : Sl) (h3 : Rd m s3 p_t.Where) :
  Ret Tryz.prog 31 [s1.v,(.agg #[(iV p_t.Level),s2.v,s3.v,(iV p_t.Sum)])] w0 (fun v _=>v = (strV r)):=by
 unfold impl_tableText at hr
 refine ret_start Tryz.func31 rfl 78 rfl rfl m hv fun a hF hS=>q_sr (q_box (cs:=[(iV p_t.Level),s2.v,s3.v,(iV p_t.Sum)]) hF hS rfl rfl rfl fun a w b4 hF hS=>q_s hF rfl fun a hF=>q_end (n_sq (q_sr (q_s hF rfl fun a hF=>q_end (n_sq (q_seq (q_sr (q_y (v:=(pP b4 3)) hF hS (ex_fieldAddr U29 rfl sz3 rfl rfl) fun a hF=>q_y (v:=(iV p_t.Sum)) hF hS (ex_load1 0 0 U3 rfl rfl rfl rfl) fun a hF=>q_y (v:=(.bool (decide (0 ≤ p_t.Sum)))) hF hS (ex_ibin rfl rfl rfl) fun a hF=>q_end (n_sq ?_)))))))))
 obtain ⟨text_8,hj1,hr⟩:=bindS hr
 refine q_join (fun a w=>Fr a 78 [(0,s1.v),(3,(pP b4 0)),(5,(strV text_8))]∧St [] w0 w m [[⟨b4,[(iV p_t.Level),s2.v,s3.v,(iV p_t.Sum)],29⟩]]) ?_ ?_
 ·rcases bcase (decide (0 ≤ p_t.Sum)) with hc2 | hc2
  ·have hj1:=cond_f hc2 hj1
   refine q_cond_f hF rfl hc2 (q_skipc (n_jn ?_))
   obtain rfl:=someI hj1
   exact ⟨hF.sub ⟨rfl,rfl,rfl,trivial⟩,hS⟩
  ·have hj1:=cond_t hc2 hj1
   refine q_cond_t hF rfl hc2 (q_region (q_m hF rfl fun a hF=>q_y (v:=(pP b4 3)) hF hS (ex_fieldAddr U29 rfl sz3 rfl rfl) fun a hF=>q_y (v:=(iV p_t.Sum)) hF hS (ex_load1 0 0 U3 rfl rfl rfl rfl) fun a hF=>?_))
   obtain ⟨e_5,he_5,hj1⟩:=bindS hj1
   obtain ⟨vs6,at6,d6⟩:=h1.at he_5 2 rfl
   obtain rfl : vs6 = [(strV e_5.Name),(iV e_5.Levels)]:=d6
   refine q_y (v:=(elP s1 (p_t.Sum.toNat * 2))) hF hS (ex_indexAddr U27 sz95 rfl rfl (h1.idx he_5)) fun a hF=>q_y (v:=(elP s1 (p_t.Sum.toNat * 2 + 0))) hF hS (ex_fieldAddrE U95 rfl sz9 rfl (h1.idx he_5) rfl) fun a hF=>q_y (v:=(strV e_5.Name)) hF hS (ex_loadE1 0 U9 rfl rfl ((at6).at) rfl rfl) fun a hF=>?_
   obtain ⟨t_7,ht_7,hj1⟩:=bindS hj1
   refine q_y (v:=(strV t_7)) hF hS (ex_strCat rfl rfl ht_7) fun a hF=>q_s hF rfl fun a hF=>q_end (n_jn ?_)
   obtain rfl:=someI hj1
   exact ⟨hF.sub ⟨rfl,rfl,rfl,trivial⟩,hS⟩
 ·rintro a w ⟨hF,hS⟩
  refine n_sq ?_
  refine q_sr (q_m hF rfl fun a hF=>q_y (v:=(pP b4 0)) hF hS (ex_fieldAddr U29 rfl sz3 rfl rfl) fun a hF=>q_y (v:=(iV p_t.Level)) hF hS (ex_load1 0 0 U3 rfl rfl rfl rfl) fun a hF=>?_)
  obtain ⟨t_9,ht_9,hr⟩:=bindS hr
  refine q_call (vs:=[(iV p_t.Level)]) hF hS Tryz.func67 (by kernel_rfl) rfl rfl rfl (c_strconv_Itoa p_t.Level t_9 ht_9 _ m hS.vis ht) ?_
  rintro a w _ rfl hF hS
  obtain ⟨t_10,ht_10,hr⟩:=bindS hr
  refine q_y (v:=(strV t_10)) hF hS (ex_strCat rfl rfl ht_10) fun a hF=>?_
  obtain ⟨t_11,ht_11,hr⟩:=bindS hr
  refine q_y (v:=(strV t_11)) hF hS (ex_strCat rfl rfl ht_11) fun a hF=>q_s hF rfl fun a hF=>q_end (n_sq (q_seq (q_sr (q_y (v:=(pP b4 1)) hF hS (ex_fieldAddr U29 rfl sz24 rfl rfl) fun a hF=>q_y (v:=s2.v) hF hS (ex_load1 0 0 U24 rfl rfl rfl rfl) fun a hF=>q_y (v:=(iV (goLen p_t.Vars))) hF hS (ex_len U24 rfl h2.len) fun a hF=>q_y (v:=(.bool (decide (0 < (goLen p_t.Vars))))) hF hS (ex_ibin rfl rfl rfl) fun a hF=>q_end (n_sq ?_)))))
  obtain ⟨text_28,hj3,hr⟩:=bindS hr
  refine q_join (fun a w=>Fr a 78 [(0,s1.v),(3,(pP b4 0)),(5,(strV text_28))]∧St [] w0 w m [[⟨b4,[(iV p_t.Level),s2.v,s3.v,(iV p_t.Sum)],29⟩]]) ?_ ?_
  ·rcases bcase (decide (0 < (goLen p_t.Vars))) with hc4 | hc4
   ·have hj3:=cond_f hc4 hj3
    refine q_cond_f hF rfl hc4 (q_skipc (n_jn ?_))
    obtain rfl:=someI hj3
    exact ⟨hF.sub ⟨rfl,rfl,rfl,trivial⟩,hS⟩
   ·have hj3:=cond_t hc4 hj3
    refine q_cond_t hF rfl hc4 (q_sr (q_s hF rfl fun a hF=>q_end (n_sq (q_seq (q_sr (q_y (v:=(pP b4 1)) hF hS (ex_fieldAddr U29 rfl sz24 rfl rfl) fun a hF=>q_y (v:=s2.v) hF hS (ex_load1 0 0 U24 rfl rfl rfl rfl) fun a hF=>q_y (v:=(iV (goLen p_t.Vars))) hF hS (ex_len U24 rfl h2.len) fun a hF=>q_m hF rfl fun a hF=>q_end (n_sq (q_block ?_))))))))
    obtain ⟨names_22,hl5,hj3⟩:=bindS hj3
    refine q_loop (fun (s : (List (List UInt8)) × Int) a w=>∃ (q13 : Piece),∃ (s13 : Sl),∃ names_12,∃ t_14,s = (names_12,t_14)∧Fr a 78 [(0,s1.v),(3,(pP b4 0)),(5,(strV t_11)),(6,s13.v),(33,s2.v),(34,(iV (goLen p_t.Vars))),(35,(iV t_14))]∧St [] w0 w m [q13,[⟨b4,[(iV p_t.Level),s2.v,s3.v,(iV p_t.Sum)],29⟩]]∧OwnL m 9 q13 s13 names_12) (fun (names_22 : (List (List UInt8))) e a w=>∃ (q23 : Piece),∃ (s23 : Sl),e = .exit 0∧Fr a 78 [(0,s1.v),(3,(pP b4 0)),(5,(strV t_11)),(6,s23.v)]∧St [] w0 w m [q23,[⟨b4,[(iV p_t.Level),s2.v,s3.v,(iV p_t.Sum)],29⟩]]∧OwnL m 9 q23 s23 names_22) hl5 ⟨[],nilS,_,_,rfl,hF.sub ⟨rfl,rfl,rfl,rfl,rfl,rfl,rfl,trivial⟩,hS.sel [1,0] (by decide),(OwnL.nil (α:=List UInt8) m 9)⟩ ?_ ?_
    ·clear hF hS
     rintro s a w st ⟨q13,s13,names_12,t_14,rfl,hF,hS,h13⟩ hb5
     unfold impl_tableText_l1 at hb5
     refine q_sr (q_y (v:=(.bool (decide (t_14 < (goLen p_t.Vars))))) hF hS (ex_ibin rfl rfl rfl) fun a hF=>q_end (n_sq (q_seq ?_)))
     rcases bcase (decide (t_14 < (goLen p_t.Vars))) with hc6 | hc6
     ·have hb5:=cond_f hc6 hb5
      refine q_cond_f hF rfl hc6 (q_exit (x_sq ?_))
      obtain rfl:=someI hb5
      exact ⟨nofun,.inl ⟨q13,s13,rfl,hF.sub ⟨rfl,rfl,rfl,rfl,trivial⟩,hS,h13⟩⟩
     ·have hb5:=cond_t hc6 hb5
      refine q_cond_t hF rfl hc6 (q_skipc (n_sq (q_seq (q_block (q_seq (q_region ?_))))))
      obtain ⟨e_15,he_15,hb5⟩:=bindS hb5
      obtain ⟨vs16,at16,d16⟩:=h2.at he_15 1 rfl
      obtain rfl : vs16 = [(iV e_15)]:=d16
      refine q_y (v:=(elP s2 (t_14.toNat * 1))) hF hS (ex_indexAddr U24 sz3 rfl rfl (h2.idx he_15)) fun a hF=>q_y (v:=(iV e_15)) hF hS (ex_loadE1 0 U3 rfl rfl ((at16).at) rfl rfl) fun a hF=>q_s hF rfl fun a hF=>q_end (n_sq (q_region (q_m hF rfl fun a hF=>q_m hF rfl fun a hF=>q_m hF rfl fun a hF=>?_)))
      obtain ⟨e_17,he_17,hb5⟩:=bindS hb5
      obtain ⟨vs18,at18,d18⟩:=h1.at he_17 2 rfl
      obtain rfl : vs18 = [(strV e_17.Name),(iV e_17.Levels)]:=d18
      refine q_y (v:=(elP s1 (e_15.toNat * 2))) hF hS (ex_indexAddr U27 sz95 rfl rfl (h1.idx he_17)) fun a hF=>q_y (v:=(elP s1 (e_15.toNat * 2 + 0))) hF hS (ex_fieldAddrE U95 rfl sz9 rfl (h1.idx he_17) rfl) fun a hF=>q_y (v:=(strV e_17.Name)) hF hS (ex_loadE1 0 U9 rfl rfl ((at18).at) rfl rfl) fun a hF=>q_do rfl fun _ hK=>wp_buildSlice' (l:=([e_17.Name] : List (List UInt8))) (cells:=[(strV e_17.Name)]) hF hS U80 inf9 rfl rfl (by kernel_rfl) rfl rfl rfl ⟨rfl,rfl⟩ rfl rfl fun a w q19 s19 hF hS h19 _=>hK _ _ ?_
      have hS : St _ _ _ _ [q13,q19,[⟨b4,[(iV p_t.Level),s2.v,s3.v,(iV p_t.Sum)],29⟩]]:=hS.sel [1,0,2] (by decide)
      obtain ⟨l_20,hl_20,hb5⟩:=bindS hb5
      refine q_do rfl fun _ hK=>wp_append hF hS h13 U80 inf9 rfl rfl rfl rfl (h19.vw hS (j:=1) rfl) rfl (by decide) hl_20 rfl fun a w q21 s21 hF hS h21=>hK _ _ (q_s hF rfl fun a hF=>q_end (n_ib (n_sq (q_region (q_y (v:=(iV (w64 (t_14 + 1)))) hF hS (ex_ibin rfl rfl rfl) fun a hF=>q_m hF rfl fun a hF=>q_end ?_)))))
      obtain rfl:=someI hb5
      exact ⟨rfl,q21,s21,_,_,rfl,hF.sub ⟨rfl,rfl,rfl,rfl,rfl,rfl,rfl,trivial⟩,hS.mask [true,false,true],h21⟩
    ·rintro e a w ⟨q23,s23,rfl,hF,hS,h23⟩
     refine x_ib (n_sq ?_)
     refine q_region (q_m hF rfl fun a hF=>q_m hF rfl fun a hF=>?_)
     obtain ⟨m25,hl25,hv25,hz25⟩:=hS.lend
     obtain ⟨t_24,ht_24,hj3⟩:=bindS hj3
     refine q_call (vs:=[s23.v,(strV ([44] : List UInt8))]) hF hS Tryz.func68 (by kernel_rfl) rfl rfl rfl (c_strings_Join names_22 ([44] : List UInt8) t_24 ht_24 _ m25 hv25 s23 (h23.froz hl25 (hz25 0 _ rfl))) ?_
     rintro a w _ rfl hF hS
     obtain ⟨t_26,ht_26,hj3⟩:=bindS hj3
     refine q_y (v:=(strV t_26)) hF hS (ex_strCat rfl rfl ht_26) fun a hF=>?_
     obtain ⟨t_27,ht_27,hj3⟩:=bindS hj3
     refine q_y (v:=(strV t_27)) hF hS (ex_strCat rfl rfl ht_27) fun a hF=>q_s hF rfl fun a hF=>q_end (n_jn ?_)
     obtain rfl:=someI hj3
     exact ⟨hF.sub ⟨rfl,rfl,rfl,trivial⟩,hS.mask [false,true]⟩
  ·rintro a w ⟨hF,hS⟩
   refine n_sq ?_
   refine q_sr (q_s hF rfl fun a hF=>q_end (n_sq (q_seq (q_sr (q_y (v:=(pP b4 2)) hF hS (ex_fieldAddr U29 rfl sz24 rfl rfl) fun a hF=>q_y (v:=s3.v) hF hS (ex_load1 0 0 U24 rfl rfl rfl rfl) fun a hF=>q_y (v:=(iV (goLen p_t.Where))) hF hS (ex_len U24 rfl h3.len) fun a hF=>q_m hF rfl fun a hF=>q_end (n_sq (q_block ?_)))))))
   obtain ⟨text_43,hl7,hr⟩:=bindS hr
   refine q_loop (fun (s : (List UInt8) × (List UInt8) × Int) a w=>∃ text_29,∃ word_30,∃ t_31,s = (text_29,word_30,t_31)∧Fr a 78 [(0,s1.v),(5,(strV text_29)),(9,(strV word_30)),(54,s3.v),(55,(iV (goLen p_t.Where))),(56,(iV t_31))]∧St [] w0 w m []) (fun (text_43 : (List UInt8)) e a w=>e = .exit 2∧Fr a 78 [(5,(strV text_43))]∧St [] w0 w m []) hl7 ⟨_,_,_,rfl,hF.sub ⟨rfl,rfl,rfl,rfl,rfl,rfl,trivial⟩,hS.mask [false]⟩ ?_ ?_
   ·clear hF hS
    rintro s a w st ⟨text_29,word_30,t_31,rfl,hF,hS⟩ hb7
    unfold impl_tableText_l2 at hb7
    refine q_sr (q_y (v:=(.bool (decide (t_31 < (goLen p_t.Where))))) hF hS (ex_ibin rfl rfl rfl) fun a hF=>q_end (n_sq (q_seq ?_)))
    rcases bcase (decide (t_31 < (goLen p_t.Where))) with hc8 | hc8
    ·have hb7:=cond_f hc8 hb7
     refine q_cond_f hF rfl hc8 (q_exit (x_sq ?_))
     obtain rfl:=someI hb7
     exact ⟨nofun,.inl ⟨rfl,hF.sub ⟨rfl,trivial⟩,hS⟩⟩
    ·have hb7:=cond_t hc8 hb7
     refine q_cond_t hF rfl hc8 (q_skipc (n_sq (q_seq (q_block (q_sr (q_m hF rfl fun a hF=>?_))))))
     obtain ⟨e_32,he_32,hb7⟩:=bindS hb7
     obtain ⟨vs33,at33,d33⟩:=h3.at he_32 1 rfl
     obtain rfl : vs33 = [(iV e_32)]:=d33
     refine q_y (v:=(elP s3 (t_31.toNat * 1))) hF hS (ex_indexAddr U24 sz3 rfl rfl (h3.idx he_32)) fun a hF=>q_y (v:=(iV e_32)) hF hS (ex_loadE1 0 U3 rfl rfl ((at33).at) rfl rfl) fun a hF=>q_s hF rfl fun a hF=>q_s hF rfl fun a hF=>q_end (n_sq (q_sr (q_m hF rfl fun a hF=>q_y (v:=(.bool (e_32 != 0))) hF hS (ex_ibin rfl rfl rfl) fun a hF=>q_end (n_sq ?_))))
     obtain ⟨j9,hj9,hb7⟩:=bindS hb7
     refine q_join (fun a w=>∃ text_41,∃ word_42,j9 = (text_41,word_42)∧Fr a 78 [(0,s1.v),(5,(strV text_41)),(9,(strV word_42)),(54,s3.v),(55,(iV (goLen p_t.Where))),(56,(iV t_31))]∧St [] w0 w m []) ?_ ?_
     ·rcases bcase (e_32 != 0) with hc10 | hc10
      ·have hj9:=cond_f hc10 hj9
       refine q_cond_f hF rfl hc10 (q_skipc (n_jn ?_))
       obtain rfl:=someI hj9
       exact ⟨_,_,rfl,hF.sub ⟨rfl,rfl,rfl,rfl,rfl,rfl,trivial⟩,hS⟩
      ·have hj9:=cond_t hc10 hj9
       refine q_cond_t hF rfl hc10 (q_seq (e_region ⟨[],[]⟩ mixed fun w' hw'=>?_))
       have hS:=hS.below hw'
       refine e_P (v:=(strV text_29)) 0 hF rfl (ex_move rfl) fun a hF=>e_P (v:=(strV word_30)) 1 hF rfl (ex_move rfl) fun a hF=>e_P (v:=s1.v) 2 hF rfl (ex_move rfl) fun a hF=>e_P (v:=(iV t_31)) 3 hF rfl (ex_move rfl) fun a hF=>?_
       obtain ⟨e_34,he_34,hj9⟩:=bindS hj9
       obtain ⟨vs35,at35,d35⟩:=h1.at he_34 2 rfl
       obtain rfl : vs35 = [(strV e_34.Name),(iV e_34.Levels)]:=d35
       refine e_P (v:=(elP s1 (t_31.toNat * 2))) 4 hF rfl (ex_indexAddr U27 sz95 rfl rfl (h1.idx he_34)) fun a hF=>e_P (v:=(elP s1 (t_31.toNat * 2 + 0))) 5 hF rfl (ex_fieldAddrE U95 rfl sz9 rfl (h1.idx he_34) rfl) fun a hF=>e_X (v:=(strV e_34.Name)) 6 hF hS rfl (ex_loadE1 0 U9 rfl rfl ((at35).at) rfl rfl) fun a hF=>?_
       obtain ⟨t_36,ht_36,hj9⟩:=bindS hj9
       refine e_P (v:=(strV t_36)) 7 hF rfl (ex_strCat rfl rfl ht_36) fun a hF=>?_
       obtain ⟨t_37,ht_37,hj9⟩:=bindS hj9
       refine e_P (v:=(strV t_37)) 8 hF rfl (ex_strCat rfl rfl ht_37) fun a hF=>e_P (v:=(iV e_32)) 9 hF rfl (ex_move rfl) fun a hF=>e_one 10 (by kernel_rfl) ?_
       obtain ⟨t_38,ht_38,hj9⟩:=bindS hj9
       refine e_call (vs:=[(iV e_32)]) hF hS rfl Tryz.func69 (by kernel_rfl) rfl rfl rfl (c_impl_setText e_32 t_38 ht_38 _ m hS.vis) ?_
       rintro a w _ rfl hF hS
       obtain ⟨t_39,ht_39,hj9⟩:=bindS hj9
       refine e_P (v:=(strV t_39)) 11 hF rfl (ex_strCat rfl rfl ht_39) fun a hF=>?_
       obtain ⟨t_40,ht_40,hj9⟩:=bindS hj9
       refine e_P (v:=(strV t_40)) 12 hF rfl (ex_strCat rfl rfl ht_40) fun a hF=>e_P (v:=(strV t_40)) 13 hF rfl (ex_assign rfl) fun a hF=>e_end (by kernel_rfl) (n_sq ?_) _
       refine q_region (q_s hF rfl fun a hF=>q_end (n_jn ?_))
       obtain rfl:=someI hj9
       exact ⟨_,_,rfl,hF.sub ⟨rfl,rfl,rfl,rfl,rfl,rfl,trivial⟩,hS⟩
     ·rintro a w ⟨text_41,word_42,rfl,hF,hS⟩
      refine n_ib (n_sq ?_)
      refine q_region (q_y (v:=(iV (w64 (t_31 + 1)))) hF hS (ex_ibin rfl rfl rfl) fun a hF=>q_m hF rfl fun a hF=>q_end ?_)
      obtain rfl:=someI hb7
      exact ⟨rfl,_,_,_,rfl,hF.sub ⟨rfl,rfl,rfl,rfl,rfl,rfl,trivial⟩,hS⟩
   ·rintro e a w ⟨rfl,hF,hS⟩
    refine x_ib (n_sq ?_)
    refine q_sr (q_m hF rfl fun a hF=>q_s hF rfl fun a hF=>q_end (n_sq (q_ret ?_)))
    obtain rfl:=someI hr
    exact ret_of hF hS rfl (.tmp rfl .nil) rfl

theorem c_impl_planText (p_s : List impl_Variable) (p_l : List impl_Table) (r : (List UInt8)) (hr : impl_planText p_s p_l = some r) (w0 : World) (m : Mem) (hv : Vis m w0) (ht : Tbl m) (s1 : Sl) (h1 : Rd m s1 p_s) (s2 : Sl) (h2 : Rd m s2 p_l) :
  Ret Tryz.prog 50 [s1.v,s2.v] w0 (fun v _=>v = (strV r)):=by
 unfold impl_planText at hr
 refine ret_start Tryz.func50 rfl 22 rfl rfl m hv fun a hF hS=>q_sr (q_s hF rfl fun a hF=>q_end (n_sq (q_sr (q_s hF rfl fun a hF=>q_end (n_sq (q_seq (q_sr (q_m hF rfl fun a hF=>q_y (v:=(iV (goLen p_l))) hF hS (ex_len U44 rfl h2.len) fun a hF=>q_m hF rfl fun a hF=>q_end (n_sq (q_block ?_))))))))))
 obtain ⟨text_13,hl1,hr⟩:=bindS hr
 refine q_loop (fun (s : (List UInt8) × Int) a w=>∃ text_3,∃ t_4,s = (text_3,t_4)∧Fr a 22 [(0,s1.v),(5,(strV text_3)),(8,s2.v),(9,(iV (goLen p_l))),(10,(iV t_4))]∧St [] w0 w m []) (fun (text_13 : (List UInt8)) e a w=>e = .exit 0∧Fr a 22 [(5,(strV text_13))]∧St [] w0 w m []) hl1 ⟨_,_,rfl,hF.sub ⟨rfl,rfl,rfl,rfl,rfl,trivial⟩,hS⟩ ?_ ?_
 ·clear hF hS
  rintro s a w st ⟨text_3,t_4,rfl,hF,hS⟩ hb1
  unfold impl_planText_l1 at hb1
  refine q_sr (q_y (v:=(.bool (decide (t_4 < (goLen p_l))))) hF hS (ex_ibin rfl rfl rfl) fun a hF=>q_end (n_sq (q_seq ?_)))
  rcases bcase (decide (t_4 < (goLen p_l))) with hc2 | hc2
  ·have hb1:=cond_f hc2 hb1
   refine q_cond_f hF rfl hc2 (q_exit (x_sq ?_))
   obtain rfl:=someI hb1
   exact ⟨nofun,.inl ⟨rfl,hF.sub ⟨rfl,trivial⟩,hS⟩⟩
  ·have hb1:=cond_t hc2 hb1
   refine q_cond_t hF rfl hc2 (q_skipc (n_sq (q_seq (q_block (q_seq (q_region ?_))))))
   obtain ⟨e_5,he_5,hb1⟩:=bindS hb1
   obtain ⟨vs6,at6,d6⟩:=h2.at he_5 4 rfl
   obtain ⟨s7,s8,rfl,h7,h8⟩ : ∃ s7 s8 : Sl,vs6 = [(iV e_5.Level),s7.v,s8.v,(iV e_5.Sum)]∧Rd m s7 e_5.Vars∧Rd m s8 e_5.Where:=d6
   refine q_y (v:=(elP s2 (t_4.toNat * 4))) hF hS (ex_indexAddr U44 sz29 rfl rfl (h2.idx he_5)) fun a hF=>q_y (v:=(.agg #[(iV e_5.Level),s7.v,s8.v,(iV e_5.Sum)])) hF hS (ex_loadEA (us:=[(iV e_5.Level),s7.v,s8.v,(iV e_5.Sum)]) 0 U29 rfl sz29 rfl ((at6).at) rfl rfl rfl) fun a hF=>q_alloc (cs:=[(iV 0),nilS.v,nilS.v,(iV 0)]) hF hS rfl rfl rfl fun a w b9 hF hS=>q_store (vs:=[(iV e_5.Level),s7.v,s8.v,(iV e_5.Sum)]) (cs':=[(iV e_5.Level),s7.v,s8.v,(iV e_5.Sum)]) 0 0 hF hS sz29 rfl rfl rfl rfl rfl rfl rfl rfl fun a w hF hS=>q_end (n_sq (q_region (q_m hF rfl fun a hF=>q_m hF rfl fun a hF=>q_y (v:=(.agg #[(iV e_5.Level),s7.v,s8.v,(iV e_5.Sum)])) hF hS (ex_loadA (vs:=[(iV e_5.Level),s7.v,s8.v,(iV e_5.Sum)]) 0 0 U29 rfl sz29 rfl rfl rfl rfl) fun a hF=>?_)))
   obtain ⟨t_10,ht_10,hb1⟩:=bindS hb1
   refine q_call (vs:=[s1.v,(.agg #[(iV e_5.Level),s7.v,s8.v,(iV e_5.Sum)])]) hF hS Tryz.func31 (by kernel_rfl) rfl rfl rfl (c_impl_tableText p_s e_5 t_10 ht_10 _ m hS.vis ht s1 h1 s7 h7 s8 h8) ?_
   rintro a w _ rfl hF hS
   obtain ⟨t_11,ht_11,hb1⟩:=bindS hb1
   refine q_y (v:=(strV t_11)) hF hS (ex_strCat rfl rfl ht_11) fun a hF=>?_
   obtain ⟨t_12,ht_12,hb1⟩:=bindS hb1
   refine q_y (v:=(strV t_12)) hF hS (ex_strCat rfl rfl ht_12) fun a hF=>q_s hF rfl fun a hF=>q_end (n_ib (n_sq (q_region (q_y (v:=(iV (w64 (t_4 + 1)))) hF hS (ex_ibin rfl rfl rfl) fun a hF=>q_m hF rfl fun a hF=>q_end ?_))))
   obtain rfl:=someI hb1
   exact ⟨rfl,_,_,rfl,hF.sub ⟨rfl,rfl,rfl,rfl,rfl,trivial⟩,hS.mask [false]⟩
 ·rintro e a w ⟨rfl,hF,hS⟩
  refine x_ib (n_sq ?_)
  refine q_sr (q_m hF rfl fun a hF=>q_s hF rfl fun a hF=>q_end (n_sq (q_ret ?_)))
  obtain rfl:=someI hr
  exact ret_of hF hS rfl (.tmp rfl .nil) rfl

theorem c_impl_PlanText (p_g : impl_Geo) (p_s : List impl_Variable) (p_l : List impl_Table) (r : (List UInt8) × Bool) (hr : impl_PlanText p_g p_s p_l = some r) (w0 : World) (m : Mem) (hv : Vis m w0) (ht : Tbl m) (s1 : Sl) (h1 : Rd m s1 p_g.Parents) (s2 : Sl) (h2 : Rd m s2 p_s) (s3 : Sl) (h3 : Rd m s3 p_l) :
  Ret Tryz.prog 18 [(.agg #[s1.v]),s2.v,s3.v] w0 (fun v _=>v = (.tuple #[(strV r.1),(.bool r.2)])):=by
 unfold impl_PlanText at hr
 refine ret_start Tryz.func18 rfl 16 rfl rfl m hv fun a hF hS=>q_sr (q_box (cs:=[s1.v]) hF hS rfl rfl rfl fun a w b4 hF hS=>q_s hF rfl fun a hF=>q_s hF rfl fun a hF=>q_end (n_sq (q_seq (q_sr (q_y (v:=(.agg #[s1.v])) hF hS (ex_loadA (vs:=[s1.v]) 0 0 U26 rfl sz26 rfl rfl rfl rfl) fun a hF=>q_m hF rfl fun a hF=>q_m hF rfl fun a hF=>?_)))))
 obtain ⟨t_5,ht_5,hr⟩:=bindS hr
 refine q_call (vs:=[(.agg #[s1.v]),s2.v,s3.v]) hF hS Tryz.func49 (by kernel_rfl) rfl rfl rfl (c_impl_isPlan p_g p_s p_l t_5 ht_5 _ m hS.vis s1 h1 s2 h2 s3 h3) ?_
 rintro a w _ rfl hF hS
 refine q_y (v:=(.bool (!t_5))) hF hS (ex_not rfl) fun a hF=>q_end (n_sq ?_)
 rcases bcase (!t_5) with hc1 | hc1
 ·have hr:=cond_f hc1 hr
  refine q_cond_f hF rfl hc1 (q_skipc (n_sq (q_sr (q_m hF rfl fun a hF=>q_m hF rfl fun a hF=>?_))))
  obtain ⟨t_6,ht_6,hr⟩:=bindS hr
  refine q_call (vs:=[s2.v,s3.v]) hF hS Tryz.func50 (by kernel_rfl) rfl rfl rfl (c_impl_planText p_s p_l t_6 ht_6 _ m hS.vis ht s2 h2 s3 h3) ?_
  rintro a w _ rfl hF hS
  refine q_s hF rfl fun a hF=>q_s hF rfl fun a hF=>q_end (n_sq (q_ret ?_))
  obtain rfl:=someI hr
  exact ret_of hF hS rfl (.tmp rfl (.tmp rfl .nil)) rfl
 ·have hr:=cond_t hc1 hr
  refine q_cond_t hF rfl hc1 (q_sr (q_s hF rfl fun a hF=>q_s hF rfl fun a hF=>q_end (n_sq (q_ret (r_sq ?_)))))
  obtain rfl:=someI hr
  exact ret_of hF hS rfl (.tmp rfl (.tmp rfl .nil)) rfl

theorem c_spec_sName (p_s : List UInt8) (r : Bool) (hr : spec_sName p_s = some r) (w0 : World) (m : Mem) (hv : Vis m w0) :
  Ret Tryz.prog 115 [(strV p_s)] w0 (fun v _=>v = (.bool r)):=by
 unfold spec_sName at hr
 refine ret_start Tryz.func115 rfl 23 rfl rfl m hv fun a hF hS=>q_sr (q_s hF rfl fun a hF=>q_end (n_sq (q_seq (q_sr (q_s hF rfl fun a hF=>q_end (n_sq (q_block ?_)))))))
 obtain ⟨o1,hl1,hr⟩:=bindS hr
 refine q_loop (fun (i_1 : Int) a w=>Fr a 23 [(0,(strV p_s)),(3,(iV i_1))]∧St [] w0 w m []) (fun (o : (Unit) ⊕ (Bool)) e a w=>o = .inl ()∧e = .exit 0∧Fr a 23 [(0,(strV p_s))]∧St [] w0 w m []) hl1 ⟨hF.sub ⟨rfl,rfl,trivial⟩,hS⟩ ?_ ?_
 ·clear hF hS
  rintro i_1 a w st ⟨hF,hS⟩ hb1
  unfold spec_sName_l1 at hb1
  refine q_seq (q_sr (q_m hF rfl fun a hF=>q_m hF rfl fun a hF=>q_y (v:=(iV (goLen p_s))) hF hS (ex_strLen U9 rfl) fun a hF=>q_y (v:=(.bool (decide (i_1 < (goLen p_s))))) hF hS (ex_ibin rfl rfl rfl) fun a hF=>q_end (n_sq ?_)))
  rcases bcase (decide (i_1 < (goLen p_s))) with hc2 | hc2
  ·have hb1:=cond_f hc2 hb1
   refine q_cond_f hF rfl hc2 (q_exit (x_sq ?_))
   obtain rfl:=someI hb1
   exact ⟨nofun,.inl ⟨rfl,rfl,hF.sub ⟨rfl,trivial⟩,hS⟩⟩
  ·have hb1:=cond_t hc2 hb1
   refine q_cond_t hF rfl hc2 (q_skipc (n_sq (q_seq (q_block (q_seq ?_)))))
   obtain ⟨t_4,hj3,hb1⟩:=bindS hb1
   refine q_join (fun a w=>Fr a 23 [(0,(strV p_s)),(3,(iV i_1)),(19,(.bool t_4))]∧St [] w0 w m []) ?_ ?_
   ·refine q_region (q_m hF rfl fun a hF=>q_m hF rfl fun a hF=>?_)
    obtain ⟨t_2,ht_2,hj3⟩:=bindS hj3
    refine q_y (v:=(.int .u8 t_2)) hF hS (ex_strIdx U9 rfl rfl ht_2) fun a hF=>q_y (v:=(.bool (decide (t_2 < 97)))) hF hS (ex_ibin rfl rfl rfl) fun a hF=>q_m hF rfl fun a hF=>?_
    rcases bcase (decide (t_2 < 97)) with hc4 | hc4
    ·have hj3:=cond_f hc4 hj3
     refine q_g (v:=(strV p_s)) hF hS (ex_move rfl) hc4 fun a hF=>q_g (v:=(iV i_1)) hF hS (ex_move rfl) hc4 fun a hF=>?_
     obtain ⟨t_3,ht_3,hj3⟩:=bindS hj3
     refine q_g (v:=(.int .u8 t_3)) hF hS (ex_strIdx U9 rfl rfl ht_3) hc4 fun a hF=>q_g (v:=(.bool (decide (122 < t_3)))) hF hS (ex_ibin rfl rfl rfl) hc4 fun a hF=>q_y (v:=(.bool (decide (122 < t_3)))) hF hS (ex_pick_f rfl rfl hc4) fun a hF=>q_end (n_jn ?_)
     obtain rfl:=someI hj3
     exact ⟨hF.sub ⟨rfl,rfl,rfl,trivial⟩,hS⟩
    ·have hj3:=cond_t hc4 hj3
     refine q_k hF hc4 fun a hF=>q_k hF hc4 fun a hF=>q_k hF hc4 fun a hF=>q_k hF hc4 fun a hF=>q_y (v:=(.bool true)) hF hS (ex_pick_t rfl rfl hc4) fun a hF=>q_end (n_jn ?_)
     obtain rfl:=someI hj3
     exact ⟨hF.sub ⟨rfl,rfl,rfl,trivial⟩,hS⟩
   ·rintro a w ⟨hF,hS⟩
    refine n_sq ?_
    rcases bcase (t_4) with hc5 | hc5
    ·have hb1:=cond_f hc5 hb1
     refine q_cond_f hF rfl hc5 (q_skipc (n_ib (n_sq (q_region (q_m hF rfl fun a hF=>q_y (v:=(iV (w64 (i_1 + 1)))) hF hS (ex_ibin rfl rfl rfl) fun a hF=>q_s hF rfl fun a hF=>q_end ?_)))))
     obtain rfl:=someI hb1
     exact ⟨rfl,hF.sub ⟨rfl,rfl,trivial⟩,hS⟩
    ·have hb1:=cond_t hc5 hb1
     refine q_cond_t hF rfl hc5 (q_sr (q_s hF rfl fun a hF=>q_end (n_sq (q_ret (r_ib (r_sq ?_))))))
     obtain rfl:=someI hb1
     refine ⟨nofun,.inr fun ho=>?_⟩
     subst ho
     refine r_ib (r_sq ?_)
     obtain rfl:=someI hr
     exact ret_of hF hS rfl (.tmp rfl .nil) rfl
 ·rintro e a w ⟨rfl,rfl,hF,hS⟩
  refine x_ib (n_sq ?_)
  refine q_sr (q_m hF rfl fun a hF=>q_y (v:=(iV (goLen p_s))) hF hS (ex_strLen U9 rfl) fun a hF=>?_)
  obtain ⟨t_5,ht_5,hr⟩:=bindS hr
  refine q_call (vs:=[(iV (goLen p_s)),(iV 1),(iV 8)]) hF hS Tryz.func75 (by kernel_rfl) rfl rfl rfl (c_spec_l1In (goLen p_s) 1 8 t_5 ht_5 _ m hS.vis) ?_
  rintro a w _ rfl hF hS
  refine q_s hF rfl fun a hF=>q_end (n_sq (q_ret ?_))
  obtain rfl:=someI hr
  exact ret_of hF hS rfl (.tmp rfl .nil) rfl

theorem c_spec_sFind (p_s : List impl_Variable) (p_name : List UInt8) (r : Int) (hr : spec_sFind p_s p_name = some r) (w0 : World) (m : Mem) (hv : Vis m w0) (s1 : Sl) (h1 : Rd m s1 p_s) :
  Ret Tryz.prog 116 [s1.v,(strV p_name)] w0 (fun v _=>v = (iV r)):=by
 unfold spec_sFind at hr
 refine ret_start Tryz.func116 rfl 20 rfl rfl m hv fun a hF hS=>q_sr (q_s hF rfl fun a hF=>q_end (n_sq (q_seq (q_sr (q_m hF rfl fun a hF=>q_y (v:=(iV (goLen p_s))) hF hS (ex_len U27 rfl h1.len) fun a hF=>q_m hF rfl fun a hF=>q_end (n_sq (q_block ?_)))))))
 obtain ⟨o1,hl1,hr⟩:=bindS hr
 refine q_loop (fun (t_2 : Int) a w=>Fr a 20 [(1,(strV p_name)),(7,s1.v),(8,(iV (goLen p_s))),(9,(iV t_2))]∧St [] w0 w m []) (fun (o : (Unit) ⊕ (Int)) e a w=>o = .inl ()∧e = .exit 0∧Fr a 20 []∧St [] w0 w m []) hl1 ⟨hF.sub ⟨rfl,rfl,rfl,rfl,trivial⟩,hS⟩ ?_ ?_
 ·clear hF hS
  rintro t_2 a w st ⟨hF,hS⟩ hb1
  unfold spec_sFind_l1 at hb1
  refine q_sr (q_y (v:=(.bool (decide (t_2 < (goLen p_s))))) hF hS (ex_ibin rfl rfl rfl) fun a hF=>q_end (n_sq (q_seq ?_)))
  rcases bcase (decide (t_2 < (goLen p_s))) with hc2 | hc2
  ·have hb1:=cond_f hc2 hb1
   refine q_cond_f hF rfl hc2 (q_exit (x_sq ?_))
   obtain rfl:=someI hb1
   exact ⟨nofun,.inl ⟨rfl,rfl,hF.sub trivial,hS⟩⟩
  ·have hb1:=cond_t hc2 hb1
   refine q_cond_t hF rfl hc2 (q_skipc (n_sq (q_seq (q_block (q_sr (q_m hF rfl fun a hF=>?_))))))
   obtain ⟨e_3,he_3,hb1⟩:=bindS hb1
   obtain ⟨vs4,at4,d4⟩:=h1.at he_3 2 rfl
   obtain rfl : vs4 = [(strV e_3.Name),(iV e_3.Levels)]:=d4
   refine q_y (v:=(elP s1 (t_2.toNat * 2))) hF hS (ex_indexAddr U27 sz95 rfl rfl (h1.idx he_3)) fun a hF=>q_y (v:=(.agg #[(strV e_3.Name),(iV e_3.Levels)])) hF hS (ex_loadEA (us:=[(strV e_3.Name),(iV e_3.Levels)]) 0 U95 rfl sz95 rfl ((at4).at) rfl rfl rfl) fun a hF=>q_alloc (cs:=[(strV ([] : List UInt8)),(iV 0)]) hF hS rfl rfl rfl fun a w b5 hF hS=>q_s hF rfl fun a hF=>q_store (vs:=[(strV e_3.Name),(iV e_3.Levels)]) (cs':=[(strV e_3.Name),(iV e_3.Levels)]) 0 0 hF hS sz95 rfl rfl rfl rfl rfl rfl rfl rfl fun a w hF hS=>q_end (n_sq (q_sr (q_y (v:=(pP b5 0)) hF hS (ex_fieldAddr U95 rfl sz9 rfl rfl) fun a hF=>q_y (v:=(strV e_3.Name)) hF hS (ex_load1 0 0 U9 rfl rfl rfl rfl) fun a hF=>q_m hF rfl fun a hF=>q_y (v:=(.bool (e_3.Name == p_name))) hF hS (ex_strEq rfl rfl) fun a hF=>q_end (n_sq ?_))))
   rcases bcase (e_3.Name == p_name) with hc3 | hc3
   ·have hb1:=cond_f hc3 hb1
    refine q_cond_f hF rfl hc3 (q_skipc (n_ib (n_sq (q_region (q_y (v:=(iV (w64 (t_2 + 1)))) hF hS (ex_ibin rfl rfl rfl) fun a hF=>q_m hF rfl fun a hF=>q_end ?_)))))
    obtain rfl:=someI hb1
    exact ⟨rfl,hF.sub ⟨rfl,rfl,rfl,rfl,trivial⟩,hS.mask [false]⟩
   ·have hb1:=cond_t hc3 hb1
    refine q_cond_t hF rfl hc3 (q_sr (q_m hF rfl fun a hF=>q_s hF rfl fun a hF=>q_end (n_sq (q_ret (r_ib (r_sq ?_))))))
    obtain rfl:=someI hb1
    refine ⟨nofun,.inr fun ho=>?_⟩
    subst ho
    refine r_ib (r_sq ?_)
    obtain rfl:=someI hr
    exact ret_of hF hS rfl (.tmp rfl .nil) rfl
 ·rintro e a w ⟨rfl,rfl,hF,hS⟩
  refine x_ib (n_sq ?_)
  refine q_sr (q_s hF rfl fun a hF=>q_end (n_sq (q_ret ?_)))
  obtain rfl:=someI hr
  exact ret_of hF hS rfl (.tmp rfl .nil) rfl

theorem c_spec_sGood (p_s : List impl_Variable) (r : Bool) (hr : spec_sGood p_s = some r) (w0 : World) (m : Mem) (hv : Vis m w0) (s1 : Sl) (h1 : Rd m s1 p_s) :
  Ret Tryz.prog 71 [s1.v] w0 (fun v _=>v = (.bool r)):=by
 unfold spec_sGood at hr
 refine ret_start Tryz.func71 rfl 36 rfl rfl m hv fun a hF hS=>q_sr (q_s hF rfl fun a hF=>q_end (n_sq (q_seq (q_sr (q_m hF rfl fun a hF=>q_y (v:=(iV (goLen p_s))) hF hS (ex_len U27 rfl h1.len) fun a hF=>?_)))))
 obtain ⟨t_2,ht_2,hr⟩:=bindS hr
 refine q_call (vs:=[(iV (goLen p_s)),(iV 1),(iV 6)]) hF hS Tryz.func75 (by kernel_rfl) rfl rfl rfl (c_spec_l1In (goLen p_s) 1 6 t_2 ht_2 _ m hS.vis) ?_
 rintro a w _ rfl hF hS
 refine q_y (v:=(.bool (!t_2))) hF hS (ex_not rfl) fun a hF=>q_end (n_sq ?_)
 rcases bcase (!t_2) with hc1 | hc1
 ·have hr:=cond_f hc1 hr
  refine q_cond_f hF rfl hc1 (q_skipc (n_sq (q_seq (q_sr (q_m hF rfl fun a hF=>q_y (v:=(iV (goLen p_s))) hF hS (ex_len U27 rfl h1.len) fun a hF=>q_m hF rfl fun a hF=>q_end (n_sq (q_block ?_)))))))
  obtain ⟨o2,hl2,hr⟩:=bindS hr
  refine q_loop (fun (t_3 : Int) a w=>Fr a 36 [(0,s1.v),(9,s1.v),(10,(iV (goLen p_s))),(11,(iV t_3))]∧St [] w0 w m []) (fun (o : (Unit) ⊕ (Bool)) e a w=>o = .inl ()∧e = .exit 0∧Fr a 36 []∧St [] w0 w m []) hl2 ⟨hF.sub ⟨rfl,rfl,rfl,rfl,trivial⟩,hS⟩ ?_ ?_
  ·clear hF hS
   rintro t_3 a w st ⟨hF,hS⟩ hb2
   unfold spec_sGood_l1 at hb2
   refine q_sr (q_y (v:=(.bool (decide (t_3 < (goLen p_s))))) hF hS (ex_ibin rfl rfl rfl) fun a hF=>q_end (n_sq (q_seq ?_)))
   rcases bcase (decide (t_3 < (goLen p_s))) with hc3 | hc3
   ·have hb2:=cond_f hc3 hb2
    refine q_cond_f hF rfl hc3 (q_exit (x_sq ?_))
    obtain rfl:=someI hb2
    exact ⟨nofun,.inl ⟨rfl,rfl,hF.sub trivial,hS⟩⟩
   ·have hb2:=cond_t hc3 hb2
    refine q_cond_t hF rfl hc3 (q_skipc (n_sq (q_seq (q_block (q_sr (q_m hF rfl fun a hF=>?_))))))
    obtain ⟨e_4,he_4,hb2⟩:=bindS hb2
    obtain ⟨vs5,at5,d5⟩:=h1.at he_4 2 rfl
    obtain rfl : vs5 = [(strV e_4.Name),(iV e_4.Levels)]:=d5
    refine q_y (v:=(elP s1 (t_3.toNat * 2))) hF hS (ex_indexAddr U27 sz95 rfl rfl (h1.idx he_4)) fun a hF=>q_y (v:=(.agg #[(strV e_4.Name),(iV e_4.Levels)])) hF hS (ex_loadEA (us:=[(strV e_4.Name),(iV e_4.Levels)]) 0 U95 rfl sz95 rfl ((at5).at) rfl rfl rfl) fun a hF=>q_alloc (cs:=[(strV ([] : List UInt8)),(iV 0)]) hF hS rfl rfl rfl fun a w b6 hF hS=>q_s hF rfl fun a hF=>q_store (vs:=[(strV e_4.Name),(iV e_4.Levels)]) (cs':=[(strV e_4.Name),(iV e_4.Levels)]) 0 0 hF hS sz95 rfl rfl rfl rfl rfl rfl rfl rfl fun a w hF hS=>q_end (n_sq (q_seq ?_))
    obtain ⟨t_12,hj4,hb2⟩:=bindS hb2
    refine q_join (fun a w=>Fr a 36 [(0,s1.v),(9,s1.v),(10,(iV (goLen p_s))),(11,(iV t_3)),(34,(.bool t_12))]∧St [] w0 w m []) ?_ ?_
    ·refine e_region ⟨[],[]⟩ mixed fun w' hw'=>?_
     have hS:=hS.below hw'
     refine e_P (v:=(pP b6 0)) 0 hF rfl (ex_fieldAddr U95 rfl sz9 rfl rfl) fun a hF=>e_X (v:=(strV e_4.Name)) 1 hF hS rfl (ex_load1 0 0 U9 rfl rfl rfl rfl) fun a hF=>e_one 2 (by kernel_rfl) ?_
     obtain ⟨t_7,ht_7,hj4⟩:=bindS hj4
     refine e_call (vs:=[(strV e_4.Name)]) hF hS rfl Tryz.func115 (by kernel_rfl) rfl rfl rfl (c_spec_sName e_4.Name t_7 ht_7 _ m hS.vis) ?_
     rintro a w _ rfl hF hS
     refine e_P (v:=(.bool (!t_7))) 3 hF rfl (ex_not rfl) fun a hF=>e_P (v:=(.bool (!t_7))) 4 hF rfl (ex_move rfl) fun a hF=>?_
     rcases bcase (!t_7) with hc5 | hc5
     ·have hj4:=cond_f hc5 hj4
      refine e_pg (v:=(pP b6 1)) 5 hF rfl (ex_fieldAddr U95 rfl sz3 rfl rfl) (wanted_t hF rfl rfl rfl hc5) rfl (by kernel_rfl) (by kernel_rfl) (by kernel_rfl) fun a hF=>e_xg (v:=(iV e_4.Levels)) 6 hF hS rfl (ex_load1 0 0 U3 rfl rfl rfl rfl) (wanted_t hF rfl rfl rfl hc5) rfl (by kernel_rfl) (by kernel_rfl) (by kernel_rfl) (by kernel_rfl) fun a hF=>e_one 7 (by kernel_rfl) ?_
      obtain ⟨t_8,ht_8,hj4⟩:=bindS hj4
      refine e_callg (vs:=[(iV e_4.Levels),(iV 2),(iV 8)]) hF hS rfl (wanted_t hF rfl rfl rfl hc5) Tryz.func75 (by kernel_rfl) rfl rfl rfl (c_spec_l1In e_4.Levels 2 8 t_8 ht_8 _ m hS.vis) ?_
      rintro a w _ rfl hF hS
      refine e_pg (v:=(.bool (!t_8))) 8 hF rfl (ex_not rfl) (wanted_t hF rfl rfl rfl hc5) rfl (by kernel_rfl) (by kernel_rfl) (by kernel_rfl) fun a hF=>e_P (v:=(.bool (!t_8))) 9 hF rfl (ex_pick_f rfl rfl hc5) fun a hF=>e_P (v:=(.bool (!t_8))) 10 hF rfl (ex_move rfl) fun a hF=>?_
      rcases bcase (!t_8) with hc6 | hc6
      ·have hj4:=cond_f hc6 hj4
       refine e_pg (v:=s1.v) 11 hF rfl (ex_move rfl) (wanted_t hF rfl rfl rfl hc6) rfl (by kernel_rfl) (by kernel_rfl) (by kernel_rfl) fun a hF=>e_pg (v:=(iV t_3)) 12 hF rfl (ex_move rfl) (wanted_t hF rfl rfl rfl hc6) rfl (by kernel_rfl) (by kernel_rfl) (by kernel_rfl) fun a hF=>?_
       obtain ⟨l_9,hl_9,hj4⟩:=bindS hj4
       have h10 : Rd m (subS s1 2 (0 : Int).toNat t_3.toNat s1.cap) l_9:=h1.sub' hl_9 2 rfl
       refine e_pg (v:=(subS s1 2 (0 : Int).toNat t_3.toNat s1.cap).v) 13 hF rfl (ex_slice U27 sz95 rfl rfl rfl (.inl ⟨rfl,rfl⟩) (.inr ⟨_,rfl⟩) (h1.subok hl_9)) (wanted_t hF rfl rfl rfl hc6) rfl (by kernel_rfl) (by kernel_rfl) (by kernel_rfl) fun a hF=>e_pg (v:=(pP b6 0)) 14 hF rfl (ex_fieldAddr U95 rfl sz9 rfl rfl) (wanted_t hF rfl rfl rfl hc6) rfl (by kernel_rfl) (by kernel_rfl) (by kernel_rfl) fun a hF=>e_xg (v:=(strV e_4.Name)) 15 hF hS rfl (ex_load1 0 0 U9 rfl rfl rfl rfl) (wanted_t hF rfl rfl rfl hc6) rfl (by kernel_rfl) (by kernel_rfl) (by kernel_rfl) (by kernel_rfl) fun a hF=>e_one 16 (by kernel_rfl) ?_
       obtain ⟨t_11,ht_11,hj4⟩:=bindS hj4
       refine e_callg (vs:=[(subS s1 2 (0 : Int).toNat t_3.toNat s1.cap).v,(strV e_4.Name)]) hF hS rfl (wanted_t hF rfl rfl rfl hc6) Tryz.func116 (by kernel_rfl) rfl rfl rfl (c_spec_sFind l_9 e_4.Name t_11 ht_11 _ m hS.vis (subS s1 2 (0 : Int).toNat t_3.toNat s1.cap) h10) ?_
       rintro a w _ rfl hF hS
       refine e_pg (v:=(.bool (decide (0 ≤ t_11)))) 17 hF rfl (ex_ibin rfl rfl rfl) (wanted_t hF rfl rfl rfl hc6) rfl (by kernel_rfl) (by kernel_rfl) (by kernel_rfl) fun a hF=>e_P (v:=(.bool (decide (0 ≤ t_11)))) 18 hF rfl (ex_pick_f rfl rfl hc6) fun a hF=>e_end (by kernel_rfl) (n_jn ?_) _
       obtain rfl:=someI hj4
       exact ⟨hF.sub ⟨rfl,rfl,rfl,rfl,rfl,trivial⟩,hS.mask [false]⟩
      ·have hj4:=cond_t hc6 hj4
       refine e_skipP 11 hF rfl (wanted_f hF rfl rfl rfl hc6 rfl) rfl (by kernel_rfl) (by kernel_rfl) (by kernel_rfl) fun a hF=>e_skipP 12 hF rfl (wanted_f hF rfl rfl rfl hc6 rfl) rfl (by kernel_rfl) (by kernel_rfl) (by kernel_rfl) fun a hF=>e_skipP 13 hF rfl (wanted_f hF rfl rfl rfl hc6 rfl) rfl (by kernel_rfl) (by kernel_rfl) (by kernel_rfl) fun a hF=>e_skipP 14 hF rfl (wanted_f hF rfl rfl rfl hc6 rfl) rfl (by kernel_rfl) (by kernel_rfl) (by kernel_rfl) fun a hF=>e_skipP 15 hF rfl (wanted_f hF rfl rfl rfl hc6 rfl) rfl (by kernel_rfl) (by kernel_rfl) (by kernel_rfl) fun a hF=>e_skipP 16 hF rfl (wanted_f hF rfl rfl rfl hc6 rfl) rfl (by kernel_rfl) (by kernel_rfl) (by kernel_rfl) fun a hF=>e_skipP 17 hF rfl (wanted_f hF rfl rfl rfl hc6 rfl) rfl (by kernel_rfl) (by kernel_rfl) (by kernel_rfl) fun a hF=>e_P (v:=(.bool true)) 18 hF rfl (ex_pick_t rfl rfl hc6) fun a hF=>e_end (by kernel_rfl) (n_jn ?_) _
       obtain rfl:=someI hj4
       exact ⟨hF.sub ⟨rfl,rfl,rfl,rfl,rfl,trivial⟩,hS.mask [false]⟩
     ·have hj4:=cond_t hc5 hj4
      refine e_skipP 5 hF rfl (wanted_f hF rfl rfl rfl hc5 rfl) rfl (by kernel_rfl) (by kernel_rfl) (by kernel_rfl) fun a hF=>e_skipP 6 hF rfl (wanted_f hF rfl rfl rfl hc5 rfl) rfl (by kernel_rfl) (by kernel_rfl) (by kernel_rfl) fun a hF=>e_skipP 7 hF rfl (wanted_f hF rfl rfl rfl hc5 rfl) rfl (by kernel_rfl) (by kernel_rfl) (by kernel_rfl) fun a hF=>e_skipP 8 hF rfl (wanted_f hF rfl rfl rfl hc5 rfl) rfl (by kernel_rfl) (by kernel_rfl) (by kernel_rfl) fun a hF=>e_P (v:=(.bool true)) 9 hF rfl (ex_pick_t rfl rfl hc5) fun a hF=>e_P (v:=(.bool true)) 10 hF rfl (ex_move rfl) fun a hF=>e_skipP 11 hF rfl (wanted_f hF rfl rfl rfl rfl rfl) rfl (by kernel_rfl) (by kernel_rfl) (by kernel_rfl) fun a hF=>e_skipP 12 hF rfl (wanted_f hF rfl rfl rfl rfl rfl) rfl (by kernel_rfl) (by kernel_rfl) (by kernel_rfl) fun a hF=>e_skipP 13 hF rfl (wanted_f hF rfl rfl rfl rfl rfl) rfl (by kernel_rfl) (by kernel_rfl) (by kernel_rfl) fun a hF=>e_skipP 14 hF rfl (wanted_f hF rfl rfl rfl rfl rfl) rfl (by kernel_rfl) (by kernel_rfl) (by kernel_rfl) fun a hF=>e_skipP 15 hF rfl (wanted_f hF rfl rfl rfl rfl rfl) rfl (by kernel_rfl) (by kernel_rfl) (by kernel_rfl) fun a hF=>e_skipP 16 hF rfl (wanted_f hF rfl rfl rfl rfl rfl) rfl (by kernel_rfl) (by kernel_rfl) (by kernel_rfl) fun a hF=>e_skipP 17 hF rfl (wanted_f hF rfl rfl rfl rfl rfl) rfl (by kernel_rfl) (by kernel_rfl) (by kernel_rfl) fun a hF=>e_P (v:=(.bool true)) 18 hF rfl (ex_pick_t rfl rfl rfl) fun a hF=>e_end (by kernel_rfl) (n_jn ?_) _
      obtain rfl:=someI hj4
      exact ⟨hF.sub ⟨rfl,rfl,rfl,rfl,rfl,trivial⟩,hS.mask [false]⟩
    ·rintro a w ⟨hF,hS⟩
     refine n_sq ?_
     rcases bcase (t_12) with hc7 | hc7
     ·have hb2:=cond_f hc7 hb2
      refine q_cond_f hF rfl hc7 (q_skipc (n_ib (n_sq (q_region (q_y (v:=(iV (w64 (t_3 + 1)))) hF hS (ex_ibin rfl rfl rfl) fun a hF=>q_m hF rfl fun a hF=>q_end ?_)))))
      obtain rfl:=someI hb2
      exact ⟨rfl,hF.sub ⟨rfl,rfl,rfl,rfl,trivial⟩,hS⟩
     ·have hb2:=cond_t hc7 hb2
      refine q_cond_t hF rfl hc7 (q_sr (q_s hF rfl fun a hF=>q_end (n_sq (q_ret (r_ib (r_sq ?_))))))
      obtain rfl:=someI hb2
      refine ⟨nofun,.inr fun ho=>?_⟩
      subst ho
      refine r_ib (r_sq ?_)
      obtain rfl:=someI hr
      exact ret_of hF hS rfl (.tmp rfl .nil) rfl
  ·rintro e a w ⟨rfl,rfl,hF,hS⟩
   refine x_ib (n_sq ?_)
   refine q_sr (q_s hF rfl fun a hF=>q_end (n_sq (q_ret ?_)))
   obtain rfl:=someI hr
   exact ret_of hF hS rfl (.tmp rfl .nil) rfl
 ·have hr:=cond_t hc1 hr
  refine q_cond_t hF rfl hc1 (q_sr (q_s hF rfl fun a hF=>q_end (n_sq (q_ret (r_sq ?_)))))
  obtain rfl:=someI hr
  exact ret_of hF hS rfl (.tmp rfl .nil) rfl

theorem c_spec_nInput (p_g : impl_Geo) (p_s : List impl_Variable) (r : Bool) (hr : spec_nInput p_g p_s = some r) (w0 : World) (m : Mem) (hv : Vis m w0) (s1 : Sl) (h1 : Rd m s1 p_g.Parents) (s2 : Sl) (h2 : Rd m s2 p_s) :
  Ret Tryz.prog 44 [(.agg #[s1.v]),s2.v] w0 (fun v _=>v = (.bool r)):=by
 unfold spec_nInput at hr
 refine ret_start Tryz.func44 rfl 11 rfl rfl m hv fun a hF hS=>q_sr (q_box (cs:=[s1.v]) hF hS rfl rfl rfl fun a w b3 hF hS=>q_s hF rfl fun a hF=>q_end (n_sq (q_seq ?_)))
 obtain ⟨t_6,hj1,hr⟩:=bindS hr
 refine q_join (fun a w=>Fr a 11 [(4,(.bool t_6))]∧St [] w0 w m []) ?_ ?_
 ·refine q_region (q_y (v:=(.agg #[s1.v])) hF hS (ex_loadA (vs:=[s1.v]) 0 0 U26 rfl sz26 rfl rfl rfl rfl) fun a hF=>?_)
  obtain ⟨t_4,ht_4,hj1⟩:=bindS hj1
  refine q_call (vs:=[(.agg #[s1.v])]) hF hS Tryz.func70 (by kernel_rfl) rfl rfl rfl (c_spec_gGood p_g t_4 ht_4 _ m hS.vis s1 h1) ?_
  rintro a w _ rfl hF hS
  refine q_m hF rfl fun a hF=>?_
  rcases bcase (t_4) with hc2 | hc2
  ·have hj1:=cond_f hc2 hj1
   refine q_k hF hc2 fun a hF=>q_k hF hc2 fun a hF=>q_y (v:=(.bool false)) hF hS (ex_pick_f rfl rfl hc2) fun a hF=>q_s hF rfl fun a hF=>q_end (n_jn ?_)
   obtain rfl:=someI hj1
   exact ⟨hF.sub ⟨rfl,trivial⟩,hS.mask [false]⟩
  ·have hj1:=cond_t hc2 hj1
   refine q_g (v:=s2.v) hF hS (ex_move rfl) hc2 fun a hF=>?_
   obtain ⟨t_5,ht_5,hj1⟩:=bindS hj1
   refine q_callg (vs:=[s2.v]) hF hS (wanted_t hF rfl rfl rfl hc2) Tryz.func71 (by kernel_rfl) rfl rfl rfl (c_spec_sGood p_s t_5 ht_5 _ m hS.vis s2 h2) ?_
   rintro a w _ rfl hF hS
   refine q_y (v:=(.bool t_5)) hF hS (ex_pick_t rfl rfl hc2) fun a hF=>q_s hF rfl fun a hF=>q_end (n_jn ?_)
   obtain rfl:=someI hj1
   exact ⟨hF.sub ⟨rfl,trivial⟩,hS.mask [false]⟩
 ·rintro a w ⟨hF,hS⟩
  refine n_sq (q_ret ?_)
  obtain rfl:=someI hr
  exact ret_of hF hS rfl (.tmp rfl .nil) rfl

theorem c_spec_l1Rising (p_l : List Int) (p_lo : Int) (p_hi : Int) (r : Bool) (hr : spec_l1Rising p_l p_lo p_hi = some r) (w0 : World) (m : Mem) (hv : Vis m w0) (s1 : Sl) (h1 : Rd m s1 p_l) :
  Ret Tryz.prog 73 [s1.v,(iV p_lo),(iV p_hi)] w0 (fun v _=>v = (.bool r)):=by
 unfold spec_l1Rising at hr
 refine ret_start Tryz.func73 rfl 35 rfl rfl m hv fun a hF hS=>q_sr (q_s hF rfl fun a hF=>q_end (n_sq (q_seq (q_sr (q_m hF rfl fun a hF=>q_y (v:=(iV (goLen p_l))) hF hS (ex_len U24 rfl h1.len) fun a hF=>q_m hF rfl fun a hF=>q_end (n_sq (q_block ?_)))))))
 obtain ⟨o1,hl1,hr⟩:=bindS hr
 refine q_loop (fun (t_2 : Int) a w=>Fr a 35 [(0,s1.v),(1,(iV p_lo)),(2,(iV p_hi)),(9,s1.v),(10,(iV (goLen p_l))),(11,(iV t_2))]∧St [] w0 w m []) (fun (o : (Unit) ⊕ (Bool)) e a w=>o = .inl ()∧e = .exit 0∧Fr a 35 []∧St [] w0 w m []) hl1 ⟨hF.sub ⟨rfl,rfl,rfl,rfl,rfl,rfl,trivial⟩,hS⟩ ?_ ?_
 ·clear hF hS
  rintro t_2 a w st ⟨hF,hS⟩ hb1
  unfold spec_l1Rising_l1 at hb1
  refine q_sr (q_y (v:=(.bool (decide (t_2 < (goLen p_l))))) hF hS (ex_ibin rfl rfl rfl) fun a hF=>q_end (n_sq (q_seq ?_)))
  rcases bcase (decide (t_2 < (goLen p_l))) with hc2 | hc2
  ·have hb1:=cond_f hc2 hb1
   refine q_cond_f hF rfl hc2 (q_exit (x_sq ?_))
   obtain rfl:=someI hb1
   exact ⟨nofun,.inl ⟨rfl,rfl,hF.sub trivial,hS⟩⟩
  ·have hb1:=cond_t hc2 hb1
   refine q_cond_t hF rfl hc2 (q_skipc (n_sq (q_seq (q_block (q_sr (q_m hF rfl fun a hF=>?_))))))
   obtain ⟨e_3,he_3,hb1⟩:=bindS hb1
   obtain ⟨vs4,at4,d4⟩:=h1.at he_3 1 rfl
   obtain rfl : vs4 = [(iV e_3)]:=d4
   refine q_y (v:=(elP s1 (t_2.toNat * 1))) hF hS (ex_indexAddr U24 sz3 rfl rfl (h1.idx he_3)) fun a hF=>q_y (v:=(iV e_3)) hF hS (ex_loadE1 0 U3 rfl rfl ((at4).at) rfl rfl) fun a hF=>q_s hF rfl fun a hF=>q_s hF rfl fun a hF=>q_end (n_sq (q_seq ?_))
   obtain ⟨t_8,hj3,hb1⟩:=bindS hb1
   refine q_join (fun a w=>Fr a 35 [(0,s1.v),(1,(iV p_lo)),(2,(iV p_hi)),(9,s1.v),(10,(iV (goLen p_l))),(11,(iV t_2)),(33,(.bool t_8))]∧St [] w0 w m []) ?_ ?_
   ·refine q_region (q_m hF rfl fun a hF=>q_m hF rfl fun a hF=>q_m hF rfl fun a hF=>?_)
    obtain ⟨t_5,ht_5,hj3⟩:=bindS hj3
    refine q_call (vs:=[(iV e_3),(iV p_lo),(iV p_hi)]) hF hS Tryz.func75 (by kernel_rfl) rfl rfl rfl (c_spec_l1In e_3 p_lo p_hi t_5 ht_5 _ m hS.vis) ?_
    rintro a w _ rfl hF hS
    refine q_y (v:=(.bool (!t_5))) hF hS (ex_not rfl) fun a hF=>q_m hF rfl fun a hF=>?_
    rcases bcase (!t_5) with hc4 | hc4
    ·have hj3:=cond_f hc4 hj3
     refine q_g (v:=(iV t_2)) hF hS (ex_move rfl) hc4 fun a hF=>q_g (v:=(.bool (decide (0 < t_2)))) hF hS (ex_ibin rfl rfl rfl) hc4 fun a hF=>q_g (v:=(.bool (decide (0 < t_2)))) hF hS (ex_move rfl) hc4 fun a hF=>?_
     rcases bcase (decide (0 < t_2)) with hc5 | hc5
     ·have hj3:=cond_f hc5 hj3
      refine q_k hF hc5 fun a hF=>q_k hF hc5 fun a hF=>q_k hF hc5 fun a hF=>q_k hF hc5 fun a hF=>q_k hF hc5 fun a hF=>q_k hF hc5 fun a hF=>q_k hF hc5 fun a hF=>q_g (v:=(.bool false)) hF hS (ex_pick_f rfl rfl hc5) hc4 fun a hF=>q_y (v:=(.bool false)) hF hS (ex_pick_f rfl rfl hc4) fun a hF=>q_end (n_jn ?_)
      obtain rfl:=someI hj3
      exact ⟨hF.sub ⟨rfl,rfl,rfl,rfl,rfl,rfl,rfl,trivial⟩,hS⟩
     ·have hj3:=cond_t hc5 hj3
      refine q_g (v:=s1.v) hF hS (ex_move rfl) hc5 fun a hF=>q_g (v:=(iV t_2)) hF hS (ex_move rfl) hc5 fun a hF=>q_g (v:=(iV (w64 (t_2 - 1)))) hF hS (ex_ibin rfl rfl rfl) hc5 fun a hF=>?_
      obtain ⟨e_6,he_6,hj3⟩:=bindS hj3
      obtain ⟨vs7,at7,d7⟩:=h1.at he_6 1 rfl
      obtain rfl : vs7 = [(iV e_6)]:=d7
      refine q_g (v:=(elP s1 ((w64 (t_2 - 1)).toNat * 1))) hF hS (ex_indexAddr U24 sz3 rfl rfl (h1.idx he_6)) hc5 fun a hF=>q_g (v:=(iV e_6)) hF hS (ex_loadE1 0 U3 rfl rfl ((at7).at) rfl rfl) hc5 fun a hF=>q_g (v:=(iV e_3)) hF hS (ex_move rfl) hc5 fun a hF=>q_g (v:=(.bool (decide (e_3 ≤ e_6)))) hF hS (ex_ibin rfl rfl rfl) hc5 fun a hF=>q_g (v:=(.bool (decide (e_3 ≤ e_6)))) hF hS (ex_pick_t rfl rfl hc5) hc4 fun a hF=>q_y (v:=(.bool (decide (e_3 ≤ e_6)))) hF hS (ex_pick_f rfl rfl hc4) fun a hF=>q_end (n_jn ?_)
      obtain rfl:=someI hj3
      exact ⟨hF.sub ⟨rfl,rfl,rfl,rfl,rfl,rfl,rfl,trivial⟩,hS⟩
    ·have hj3:=cond_t hc4 hj3
     refine q_k hF hc4 fun a hF=>q_k hF hc4 fun a hF=>q_k hF hc4 fun a hF=>q_skip hF (wanted_u hF rfl rfl rfl) rfl fun a hF=>q_skip hF (wanted_u hF rfl rfl rfl) rfl fun a hF=>q_skip hF (wanted_u hF rfl rfl rfl) rfl fun a hF=>q_skip hF (wanted_u hF rfl rfl rfl) rfl fun a hF=>q_skip hF (wanted_u hF rfl rfl rfl) rfl fun a hF=>q_skip hF (wanted_u hF rfl rfl rfl) rfl fun a hF=>q_skip hF (wanted_u hF rfl rfl rfl) rfl fun a hF=>q_k hF hc4 fun a hF=>q_y (v:=(.bool true)) hF hS (ex_pick_t rfl rfl hc4) fun a hF=>q_end (n_jn ?_)
     obtain rfl:=someI hj3
     exact ⟨hF.sub ⟨rfl,rfl,rfl,rfl,rfl,rfl,rfl,trivial⟩,hS⟩
   ·rintro a w ⟨hF,hS⟩
    refine n_sq ?_
    rcases bcase (t_8) with hc6 | hc6
    ·have hb1:=cond_f hc6 hb1
     refine q_cond_f hF rfl hc6 (q_skipc (n_ib (n_sq (q_region (q_y (v:=(iV (w64 (t_2 + 1)))) hF hS (ex_ibin rfl rfl rfl) fun a hF=>q_m hF rfl fun a hF=>q_end ?_)))))
     obtain rfl:=someI hb1
     exact ⟨rfl,hF.sub ⟨rfl,rfl,rfl,rfl,rfl,rfl,trivial⟩,hS⟩
    ·have hb1:=cond_t hc6 hb1
     refine q_cond_t hF rfl hc6 (q_sr (q_s hF rfl fun a hF=>q_end (n_sq (q_ret (r_ib (r_sq ?_))))))
     obtain rfl:=someI hb1
     refine ⟨nofun,.inr fun ho=>?_⟩
     subst ho
     refine r_ib (r_sq ?_)
     obtain rfl:=someI hr
     exact ret_of hF hS rfl (.tmp rfl .nil) rfl
 ·rintro e a w ⟨rfl,rfl,hF,hS⟩
  refine x_ib (n_sq ?_)
  refine q_sr (q_s hF rfl fun a hF=>q_end (n_sq (q_ret ?_)))
  obtain rfl:=someI hr
  exact ret_of hF hS rfl (.tmp rfl .nil) rfl

theorem c_spec_uWhere (p_s : List impl_Variable) (p_where : List Int) (r : Bool) (hr : spec_uWhere p_s p_where = some r) (w0 : World) (m : Mem) (hv : Vis m w0) (s1 : Sl) (h1 : Rd m s1 p_s) (s2 : Sl) (h2 : Rd m s2 p_where) :
  Ret Tryz.prog 74 [s1.v,s2.v] w0 (fun v _=>v = (.bool r)):=by
 unfold spec_uWhere at hr
 refine ret_start Tryz.func74 rfl 31 rfl rfl m hv fun a hF hS=>q_sr (q_s hF rfl fun a hF=>q_end (n_sq (q_seq (q_sr (q_m hF rfl fun a hF=>q_y (v:=(iV (goLen p_where))) hF hS (ex_len U24 rfl h2.len) fun a hF=>q_m hF rfl fun a hF=>q_y (v:=(iV (goLen p_s))) hF hS (ex_len U27 rfl h1.len) fun a hF=>q_y (v:=(.bool ((goLen p_where) != (goLen p_s)))) hF hS (ex_ibin rfl rfl rfl) fun a hF=>q_end (n_sq ?_))))))
 rcases bcase ((goLen p_where) != (goLen p_s)) with hc1 | hc1
 ·have hr:=cond_f hc1 hr
  refine q_cond_f hF rfl hc1 (q_skipc (n_sq (q_seq (q_sr (q_m hF rfl fun a hF=>q_y (v:=(iV (goLen p_s))) hF hS (ex_len U27 rfl h1.len) fun a hF=>q_m hF rfl fun a hF=>q_end (n_sq (q_block ?_)))))))
  obtain ⟨o2,hl2,hr⟩:=bindS hr
  refine q_loop (fun (t_3 : Int) a w=>Fr a 31 [(1,s2.v),(12,s1.v),(13,(iV (goLen p_s))),(14,(iV t_3))]∧St [] w0 w m []) (fun (o : (Unit) ⊕ (Bool)) e a w=>o = .inl ()∧e = .exit 0∧Fr a 31 []∧St [] w0 w m []) hl2 ⟨hF.sub ⟨rfl,rfl,rfl,rfl,trivial⟩,hS⟩ ?_ ?_
  ·clear hF hS
   rintro t_3 a w st ⟨hF,hS⟩ hb2
   unfold spec_uWhere_l1 at hb2
   refine q_sr (q_y (v:=(.bool (decide (t_3 < (goLen p_s))))) hF hS (ex_ibin rfl rfl rfl) fun a hF=>q_end (n_sq (q_seq ?_)))
   rcases bcase (decide (t_3 < (goLen p_s))) with hc3 | hc3
   ·have hb2:=cond_f hc3 hb2
    refine q_cond_f hF rfl hc3 (q_exit (x_sq ?_))
    obtain rfl:=someI hb2
    exact ⟨nofun,.inl ⟨rfl,rfl,hF.sub trivial,hS⟩⟩
   ·have hb2:=cond_t hc3 hb2
    refine q_cond_t hF rfl hc3 (q_skipc (n_sq (q_seq (q_block (q_sr (q_m hF rfl fun a hF=>?_))))))
    obtain ⟨e_4,he_4,hb2⟩:=bindS hb2
    obtain ⟨vs5,at5,d5⟩:=h1.at he_4 2 rfl
    obtain rfl : vs5 = [(strV e_4.Name),(iV e_4.Levels)]:=d5
    refine q_y (v:=(elP s1 (t_3.toNat * 2))) hF hS (ex_indexAddr U27 sz95 rfl rfl (h1.idx he_4)) fun a hF=>q_y (v:=(.agg #[(strV e_4.Name),(iV e_4.Levels)])) hF hS (ex_loadEA (us:=[(strV e_4.Name),(iV e_4.Levels)]) 0 U95 rfl sz95 rfl ((at5).at) rfl rfl rfl) fun a hF=>q_alloc (cs:=[(strV ([] : List UInt8)),(iV 0)]) hF hS rfl rfl rfl fun a w b6 hF hS=>q_s hF rfl fun a hF=>q_store (vs:=[(strV e_4.Name),(iV e_4.Levels)]) (cs':=[(strV e_4.Name),(iV e_4.Levels)]) 0 0 hF hS sz95 rfl rfl rfl rfl rfl rfl rfl rfl fun a w hF hS=>q_end (n_sq (q_seq (e_region ⟨[],[]⟩ mixed fun w' hw'=>?_)))
    have hS:=hS.below hw'
    refine e_P (v:=s2.v) 0 hF rfl (ex_move rfl) fun a hF=>e_P (v:=(iV t_3)) 1 hF rfl (ex_move rfl) fun a hF=>?_
    obtain ⟨e_7,he_7,hb2⟩:=bindS hb2
    obtain ⟨vs8,at8,d8⟩:=h2.at he_7 1 rfl
    obtain rfl : vs8 = [(iV e_7)]:=d8
    refine e_P (v:=(elP s2 (t_3.toNat * 1))) 2 hF rfl (ex_indexAddr U24 sz3 rfl rfl (h2.idx he_7)) fun a hF=>e_X (v:=(iV e_7)) 3 hF hS rfl (ex_loadE1 0 U3 rfl rfl ((at8).at) rfl rfl) fun a hF=>e_P (v:=(pP b6 1)) 4 hF rfl (ex_fieldAddr U95 rfl sz3 rfl rfl) fun a hF=>e_X (v:=(iV e_4.Levels)) 5 hF hS rfl (ex_load1 0 0 U3 rfl rfl rfl rfl) fun a hF=>e_P (v:=(.int .u64 (IntKind.wrap .u64 e_4.Levels))) 6 hF rfl (ex_conv U3 U137 rfl) fun a hF=>?_
    obtain ⟨t_9,ht_9,hb2⟩:=bindS hb2
    refine e_P (v:=(iV t_9)) 7 hF rfl (ex_shl rfl rfl ht_9) fun a hF=>e_P (v:=(iV (w64 (t_9 - 1)))) 8 hF rfl (ex_ibin rfl rfl rfl) fun a hF=>e_one 9 (by kernel_rfl) ?_
    obtain ⟨t_10,ht_10,hb2⟩:=bindS hb2
    refine e_call (vs:=[(iV e_7),(iV 0),(iV (w64 (t_9 - 1)))]) hF hS rfl Tryz.func75 (by kernel_rfl) rfl rfl rfl (c_spec_l1In e_7 0 (w64 (t_9 - 1)) t_10 ht_10 _ m hS.vis) ?_
    rintro a w _ rfl hF hS
    refine e_P (v:=(.bool (!t_10))) 10 hF rfl (ex_not rfl) fun a hF=>e_end (by kernel_rfl) (n_sq ?_) _
    rcases bcase (!t_10) with hc4 | hc4
    ·have hb2:=cond_f hc4 hb2
     refine q_cond_f hF rfl hc4 (q_skipc (n_ib (n_sq (q_region (q_y (v:=(iV (w64 (t_3 + 1)))) hF hS (ex_ibin rfl rfl rfl) fun a hF=>q_m hF rfl fun a hF=>q_end ?_)))))
     obtain rfl:=someI hb2
     exact ⟨rfl,hF.sub ⟨rfl,rfl,rfl,rfl,trivial⟩,hS.mask [false]⟩
    ·have hb2:=cond_t hc4 hb2
     refine q_cond_t hF rfl hc4 (q_sr (q_s hF rfl fun a hF=>q_end (n_sq (q_ret (r_ib (r_sq ?_))))))
     obtain rfl:=someI hb2
     refine ⟨nofun,.inr fun ho=>?_⟩
     subst ho
     refine r_ib (r_sq ?_)
     obtain rfl:=someI hr
     exact ret_of hF hS rfl (.tmp rfl .nil) rfl
  ·rintro e a w ⟨rfl,rfl,hF,hS⟩
   refine x_ib (n_sq ?_)
   refine q_sr (q_s hF rfl fun a hF=>q_end (n_sq (q_ret ?_)))
   obtain rfl:=someI hr
   exact ret_of hF hS rfl (.tmp rfl .nil) rfl
 ·have hr:=cond_t hc1 hr
  refine q_cond_t hF rfl hc1 (q_sr (q_s hF rfl fun a hF=>q_end (n_sq (q_ret (r_sq ?_)))))
  obtain rfl:=someI hr
  exact ret_of hF hS rfl (.tmp rfl .nil) rfl

theorem c_spec_sPart (p_s : List impl_Variable) (p_vars : List Int) (r : (List impl_Variable)) (hr : spec_sPart p_s p_vars = some r) (w0 : World) (m : Mem) (hv : Vis m w0) (s1 : Sl) (h1 : Rd m s1 p_s) (s2 : Sl) (h2 : Rd m s2 p_vars) :
  Ret Tryz.prog 119 [s1.v,s2.v] w0 (fun v w=>∃ (q0' : Piece) (s0' : Sl),v = s0'.v∧St [] w0 w m [q0']∧OwnL m 95 q0' s0' r):=by
 unfold spec_sPart at hr
 refine ret_start Tryz.func119 rfl 23 rfl rfl m hv fun a hF hS=>q_sr (q_s hF rfl fun a hF=>q_end (n_sq (q_sr (q_s hF rfl fun a hF=>q_end (n_sq (q_seq (q_sr (q_m hF rfl fun a hF=>q_y (v:=(iV (goLen p_vars))) hF hS (ex_len U24 rfl h2.len) fun a hF=>q_m hF rfl fun a hF=>q_end (n_sq (q_block ?_))))))))))
 obtain ⟨out_13,hl1,hr⟩:=bindS hr
 refine q_loop (fun (s : (List impl_Variable) × Int) a w=>∃ (q4 : Piece),∃ (s4 : Sl),∃ out_3,∃ t_5,s = (out_3,t_5)∧Fr a 23 [(0,s1.v),(5,s4.v),(8,s2.v),(9,(iV (goLen p_vars))),(10,(iV t_5))]∧St [] w0 w m [q4]∧OwnL m 95 q4 s4 out_3) (fun (out_13 : (List impl_Variable)) e a w=>∃ (q14 : Piece),∃ (s14 : Sl),e = .exit 0∧Fr a 23 [(5,s14.v)]∧St [] w0 w m [q14]∧OwnL m 95 q14 s14 out_13) hl1 ⟨[],nilS,_,_,rfl,hF.sub ⟨rfl,rfl,rfl,rfl,rfl,trivial⟩,hS.sel [0] (by decide),(OwnL.nil (α:=impl_Variable) m 95)⟩ ?_ ?_
 ·clear hF hS
  rintro s a w st ⟨q4,s4,out_3,t_5,rfl,hF,hS,h4⟩ hb1
  unfold spec_sPart_l1 at hb1
  refine q_sr (q_y (v:=(.bool (decide (t_5 < (goLen p_vars))))) hF hS (ex_ibin rfl rfl rfl) fun a hF=>q_end (n_sq (q_seq ?_)))
  rcases bcase (decide (t_5 < (goLen p_vars))) with hc2 | hc2
  ·have hb1:=cond_f hc2 hb1
   refine q_cond_f hF rfl hc2 (q_exit (x_sq ?_))
   obtain rfl:=someI hb1
   exact ⟨nofun,.inl ⟨q4,s4,rfl,hF.sub ⟨rfl,trivial⟩,hS,h4⟩⟩
  ·have hb1:=cond_t hc2 hb1
   refine q_cond_t hF rfl hc2 (q_skipc (n_sq (q_seq (q_block (q_seq (q_region ?_))))))
   obtain ⟨e_6,he_6,hb1⟩:=bindS hb1
   obtain ⟨vs7,at7,d7⟩:=h2.at he_6 1 rfl
   obtain rfl : vs7 = [(iV e_6)]:=d7
   refine q_y (v:=(elP s2 (t_5.toNat * 1))) hF hS (ex_indexAddr U24 sz3 rfl rfl (h2.idx he_6)) fun a hF=>q_y (v:=(iV e_6)) hF hS (ex_loadE1 0 U3 rfl rfl ((at7).at) rfl rfl) fun a hF=>q_s hF rfl fun a hF=>q_end (n_sq (q_region (q_m hF rfl fun a hF=>q_m hF rfl fun a hF=>q_m hF rfl fun a hF=>?_)))
   obtain ⟨e_8,he_8,hb1⟩:=bindS hb1
   obtain ⟨vs9,at9,d9⟩:=h1.at he_8 2 rfl
   obtain rfl : vs9 = [(strV e_8.Name),(iV e_8.Levels)]:=d9
   refine q_y (v:=(elP s1 (e_6.toNat * 2))) hF hS (ex_indexAddr U27 sz95 rfl rfl (h1.idx he_8)) fun a hF=>q_y (v:=(.agg #[(strV e_8.Name),(iV e_8.Levels)])) hF hS (ex_loadEA (us:=[(strV e_8.Name),(iV e_8.Levels)]) 0 U95 rfl sz95 rfl ((at9).at) rfl rfl rfl) fun a hF=>q_do rfl fun _ hK=>wp_buildSlice' (l:=([e_8] : List impl_Variable)) (cells:=[(strV e_8.Name),(iV e_8.Levels)]) hF hS U27 inf95 rfl rfl (by kernel_rfl) rfl rfl rfl ⟨rfl,rfl⟩ rfl rfl fun a w q10 s10 hF hS h10 _=>hK _ _ ?_
   have hS : St _ _ _ _ [q4,q10]:=hS.sel [1,0] (by decide)
   obtain ⟨l_11,hl_11,hb1⟩:=bindS hb1
   refine q_do rfl fun _ hK=>wp_append hF hS h4 U27 inf95 rfl rfl rfl rfl (h10.vw hS (j:=1) rfl) rfl (by decide) hl_11 rfl fun a w q12 s12 hF hS h12=>hK _ _ (q_s hF rfl fun a hF=>q_end (n_ib (n_sq (q_region (q_y (v:=(iV (w64 (t_5 + 1)))) hF hS (ex_ibin rfl rfl rfl) fun a hF=>q_m hF rfl fun a hF=>q_end ?_)))))
   obtain rfl:=someI hb1
   exact ⟨rfl,q12,s12,_,_,rfl,hF.sub ⟨rfl,rfl,rfl,rfl,rfl,trivial⟩,hS.mask [true,false],h12⟩
 ·rintro e a w ⟨q14,s14,rfl,hF,hS,h14⟩
  refine x_ib (n_sq ?_)
  refine q_sr (q_m hF rfl fun a hF=>q_s hF rfl fun a hF=>q_end (n_sq (q_ret ?_)))
  obtain rfl:=someI hr
  exact ret_of hF hS rfl (.tmp rfl .nil) ⟨q14,s14,rfl,hS.sel [0] (by decide),h14⟩

theorem c_spec_sCount (p_s : List impl_Variable) (r : Int) (hr : spec_sCount p_s = some r) (w0 : World) (m : Mem) (hv : Vis m w0) (s1 : Sl) (h1 : Rd m s1 p_s) :
  Ret Tryz.prog 118 [s1.v] w0 (fun v _=>v = (iV r)):=by
 unfold spec_sCount at hr
 refine ret_start Tryz.func118 rfl 18 rfl rfl m hv fun a hF hS=>q_sr (q_s hF rfl fun a hF=>q_end (n_sq (q_sr (q_s hF rfl fun a hF=>q_end (n_sq (q_seq (q_sr (q_m hF rfl fun a hF=>q_y (v:=(iV (goLen p_s))) hF hS (ex_len U27 rfl h1.len) fun a hF=>q_m hF rfl fun a hF=>q_end (n_sq (q_block ?_))))))))))
 obtain ⟨n_7,hl1,hr⟩:=bindS hr
 refine q_loop (fun (s : Int × Int) a w=>∃ n_2,∃ t_3,s = (n_2,t_3)∧Fr a 18 [(3,(iV n_2)),(6,s1.v),(7,(iV (goLen p_s))),(8,(iV t_3))]∧St [] w0 w m []) (fun (n_7 : Int) e a w=>e = .exit 0∧Fr a 18 [(3,(iV n_7))]∧St [] w0 w m []) hl1 ⟨_,_,rfl,hF.sub ⟨rfl,rfl,rfl,rfl,trivial⟩,hS⟩ ?_ ?_
 ·clear hF hS
  rintro s a w st ⟨n_2,t_3,rfl,hF,hS⟩ hb1
  unfold spec_sCount_l1 at hb1
  refine q_sr (q_y (v:=(.bool (decide (t_3 < (goLen p_s))))) hF hS (ex_ibin rfl rfl rfl) fun a hF=>q_end (n_sq (q_seq ?_)))
  rcases bcase (decide (t_3 < (goLen p_s))) with hc2 | hc2
  ·have hb1:=cond_f hc2 hb1
   refine q_cond_f hF rfl hc2 (q_exit (x_sq ?_))
   obtain rfl:=someI hb1
   exact ⟨nofun,.inl ⟨rfl,hF.sub ⟨rfl,trivial⟩,hS⟩⟩
  ·have hb1:=cond_t hc2 hb1
   refine q_cond_t hF rfl hc2 (q_skipc (n_sq (q_seq (q_block (q_seq (q_region ?_))))))
   obtain ⟨e_4,he_4,hb1⟩:=bindS hb1
   obtain ⟨vs5,at5,d5⟩:=h1.at he_4 2 rfl
   obtain rfl : vs5 = [(strV e_4.Name),(iV e_4.Levels)]:=d5
   refine q_y (v:=(elP s1 (t_3.toNat * 2))) hF hS (ex_indexAddr U27 sz95 rfl rfl (h1.idx he_4)) fun a hF=>q_y (v:=(.agg #[(strV e_4.Name),(iV e_4.Levels)])) hF hS (ex_loadEA (us:=[(strV e_4.Name),(iV e_4.Levels)]) 0 U95 rfl sz95 rfl ((at5).at) rfl rfl rfl) fun a hF=>q_alloc (cs:=[(strV ([] : List UInt8)),(iV 0)]) hF hS rfl rfl rfl fun a w b6 hF hS=>q_store (vs:=[(strV e_4.Name),(iV e_4.Levels)]) (cs':=[(strV e_4.Name),(iV e_4.Levels)]) 0 0 hF hS sz95 rfl rfl rfl rfl rfl rfl rfl rfl fun a w hF hS=>q_end (n_sq (q_region (q_m hF rfl fun a hF=>q_y (v:=(pP b6 1)) hF hS (ex_fieldAddr U95 rfl sz3 rfl rfl) fun a hF=>q_y (v:=(iV e_4.Levels)) hF hS (ex_load1 0 0 U3 rfl rfl rfl rfl) fun a hF=>q_y (v:=(iV (w64 (n_2 * e_4.Levels)))) hF hS (ex_ibin rfl rfl rfl) fun a hF=>q_s hF rfl fun a hF=>q_end (n_ib (n_sq (q_region (q_y (v:=(iV (w64 (t_3 + 1)))) hF hS (ex_ibin rfl rfl rfl) fun a hF=>q_m hF rfl fun a hF=>q_end ?_)))))))
   obtain rfl:=someI hb1
   exact ⟨rfl,_,_,rfl,hF.sub ⟨rfl,rfl,rfl,rfl,trivial⟩,hS.mask [false]⟩
 ·rintro e a w ⟨rfl,hF,hS⟩
  refine x_ib (n_sq ?_)
  refine q_sr (q_m hF rfl fun a hF=>q_s hF rfl fun a hF=>q_end (n_sq (q_ret ?_)))
  obtain rfl:=someI hr
  exact ret_of hF hS rfl (.tmp rfl .nil) rfl

theorem c_spec_uCount (p_g : impl_Geo) (p_s : List impl_Variable) (p_t : impl_Table) (r : Int) (hr : spec_uCount p_g p_s p_t = some r) (w0 : World) (m : Mem) (hv : Vis m w0) (s1 : Sl) (h1 : Rd m s1 p_g.Parents) (s2 : Sl) (h2 : Rd m s2 p_s) (s3 : Sl) (h3 : Rd m s3 p_t.Vars) (s4 : Sl) (h4 : Rd m s4 p_t.Where) :
  Ret Tryz.prog 76 [(.agg #[s1.v]),s2.v,(.agg #[(iV p_t.Level),s3.v,s4.v,(iV p_t.Sum)])] w0 (fun v _=>v = (iV r)):=by
 unfold spec_uCount at hr
 refine ret_start Tryz.func76 rfl 18 rfl rfl m hv fun a hF hS=>q_sr (q_box (cs:=[s1.v]) hF hS rfl rfl rfl fun a w b5 hF hS=>q_box (cs:=[(iV p_t.Level),s3.v,s4.v,(iV p_t.Sum)]) hF hS rfl rfl rfl fun a w b6 hF hS=>q_s hF rfl fun a hF=>q_end (n_sq (q_seq (e_region ⟨[],[]⟩ mixed fun w' hw'=>?_))))
 have hS:=hS.below hw'
 refine e_X (v:=(.agg #[s1.v])) 0 hF hS rfl (ex_loadA (vs:=[s1.v]) 1 0 U26 rfl sz26 rfl rfl rfl rfl) fun a hF=>e_P (v:=(pP b6 0)) 1 hF rfl (ex_fieldAddr U29 rfl sz3 rfl rfl) fun a hF=>e_X (v:=(iV p_t.Level)) 2 hF hS rfl (ex_load1 0 0 U3 rfl rfl rfl rfl) fun a hF=>e_P (v:=s2.v) 5 hF rfl (ex_move rfl) fun a hF=>e_P (v:=(pP b6 1)) 6 hF rfl (ex_fieldAddr U29 rfl sz24 rfl rfl) fun a hF=>e_X (v:=s3.v) 7 hF hS rfl (ex_load1 0 0 U24 rfl rfl rfl rfl) fun a hF=>e_one 3 (by kernel_rfl) ?_
 obtain ⟨t_16,ht_16,hr⟩:=bindS hr
 refine e_call (vs:=[(.agg #[s1.v]),(iV p_t.Level)]) hF hS rfl Tryz.func72 (by kernel_rfl) rfl rfl rfl (c_spec_gLevel p_g p_t.Level t_16 ht_16 _ m hS.vis s1 h1) ?_
 rintro a w _ ⟨q18,s18,rfl,hR17,h18⟩ hF hS2
 have hS : St _ _ _ _ [q18,[⟨b6,[(iV p_t.Level),s3.v,s4.v,(iV p_t.Sum)],29⟩],[⟨b5,[s1.v],26⟩]]:=hS.joinF hR17
 refine e_P (v:=(iV (goLen t_16))) 4 hF rfl (ex_len U24 rfl h18.len) fun a hF=>e_one 8 (by kernel_rfl) ?_
 obtain ⟨t_19,ht_19,hr⟩:=bindS hr
 refine e_call (vs:=[s2.v,s3.v]) hF hS rfl Tryz.func119 (by kernel_rfl) rfl rfl rfl (c_spec_sPart p_s p_t.Vars t_19 ht_19 _ m hS.vis s2 h2 s3 h3) ?_
 rintro a w _ ⟨q21,s21,rfl,hR20,h21⟩ hF hS2
 have hS : St _ _ _ _ [q21,q18,[⟨b6,[(iV p_t.Level),s3.v,s4.v,(iV p_t.Sum)],29⟩],[⟨b5,[s1.v],26⟩]]:=hS.joinF hR20
 refine e_one 9 (by kernel_rfl) ?_
 obtain ⟨m23,hl23,hv23,hz23⟩:=hS.lend
 obtain ⟨t_22,ht_22,hr⟩:=bindS hr
 refine e_call (vs:=[s21.v]) hF hS rfl Tryz.func118 (by kernel_rfl) rfl rfl rfl (c_spec_sCount t_19 t_22 ht_22 _ m23 hv23 s21 (h21.froz hl23 (hz23 0 _ rfl))) ?_
 rintro a w _ rfl hF hS
 refine e_P (v:=(iV (w64 ((goLen t_16) * t_22)))) 10 hF rfl (ex_ibin rfl rfl rfl) fun a hF=>e_P (v:=(iV (w64 ((goLen t_16) * t_22)))) 11 hF rfl (ex_assign rfl) fun a hF=>e_end (by kernel_rfl) (n_sq (q_ret ?_)) _
 obtain rfl:=someI hr
 exact ret_of hF hS rfl (.tmp rfl .nil) rfl

theorem c_spec_uGood (p_g : impl_Geo) (p_s : List impl_Variable) (p_t : impl_Table) (r : Bool) (hr : spec_uGood p_g p_s p_t = some r) (w0 : World) (m : Mem) (hv : Vis m w0) (s1 : Sl) (h1 : Rd m s1 p_g.Parents) (s2 : Sl) (h2 : Rd m s2 p_s) (s3 : Sl) (h3 : Rd m s3 p_t.Vars) (s4 : Sl) (h4 : Rd m s4 p_t.Where) :
  Ret Tryz.prog 32 [(.agg #[s1.v]),s2.v,(.agg #[(iV p_t.Level),s3.v,s4.v,(iV p_t.Sum)])] w0 (fun v _=>v = (.bool r)):=by
 unfold spec_uGood at hr
 refine ret_start Tryz.func32 rfl 53 rfl rfl m hv fun a hF hS=>q_sr (q_box (cs:=[s1.v]) hF hS rfl rfl rfl fun a w b5 hF hS=>q_box (cs:=[(iV p_t.Level),s3.v,s4.v,(iV p_t.Sum)]) hF hS rfl rfl rfl fun a w b6 hF hS=>q_s hF rfl fun a hF=>q_end (n_sq (q_seq (q_seq ?_))))
 obtain ⟨t_15,hj1,hr⟩:=bindS hr
 refine q_join (fun a w=>Fr a 53 [(1,s2.v),(3,(pP b5 0)),(5,(pP b6 0)),(47,(.bool t_15))]∧St [] w0 w m [[⟨b6,[(iV p_t.Level),s3.v,s4.v,(iV p_t.Sum)],29⟩],[⟨b5,[s1.v],26⟩]]) ?_ ?_
 ·refine q_region (q_y (v:=(.agg #[s1.v])) hF hS (ex_loadA (vs:=[s1.v]) 1 0 U26 rfl sz26 rfl rfl rfl rfl) fun a hF=>?_)
  obtain ⟨t_7,ht_7,hj1⟩:=bindS hj1
  refine q_call (vs:=[(.agg #[s1.v])]) hF hS Tryz.func70 (by kernel_rfl) rfl rfl rfl (c_spec_gGood p_g t_7 ht_7 _ m hS.vis s1 h1) ?_
  rintro a w _ rfl hF hS
  refine q_y (v:=(.bool (!t_7))) hF hS (ex_not rfl) fun a hF=>q_m hF rfl fun a hF=>?_
  rcases bcase (!t_7) with hc2 | hc2
  ·have hj1:=cond_f hc2 hj1
   refine q_g (v:=s2.v) hF hS (ex_move rfl) hc2 fun a hF=>?_
   obtain ⟨t_8,ht_8,hj1⟩:=bindS hj1
   refine q_callg (vs:=[s2.v]) hF hS (wanted_t hF rfl rfl rfl hc2) Tryz.func71 (by kernel_rfl) rfl rfl rfl (c_spec_sGood p_s t_8 ht_8 _ m hS.vis s2 h2) ?_
   rintro a w _ rfl hF hS
   refine q_g (v:=(.bool (!t_8))) hF hS (ex_not rfl) hc2 fun a hF=>q_y (v:=(.bool (!t_8))) hF hS (ex_pick_f rfl rfl hc2) fun a hF=>q_m hF rfl fun a hF=>?_
   rcases bcase (!t_8) with hc3 | hc3
   ·have hj1:=cond_f hc3 hj1
    refine q_g (v:=(.agg #[s1.v])) hF hS (ex_loadA (vs:=[s1.v]) 1 0 U26 rfl sz26 rfl rfl rfl rfl) hc3 fun a hF=>q_g (v:=(pP b6 0)) hF hS (ex_fieldAddr U29 rfl sz3 rfl rfl) hc3 fun a hF=>q_g (v:=(iV p_t.Level)) hF hS (ex_load1 0 0 U3 rfl rfl rfl rfl) hc3 fun a hF=>?_
    obtain ⟨t_9,ht_9,hj1⟩:=bindS hj1
    refine q_callg (vs:=[(.agg #[s1.v]),(iV p_t.Level)]) hF hS (wanted_t hF rfl rfl rfl hc3) Tryz.func72 (by kernel_rfl) rfl rfl rfl (c_spec_gLevel p_g p_t.Level t_9 ht_9 _ m hS.vis s1 h1) ?_
    rintro a w _ ⟨q11,s11,rfl,hR10,h11⟩ hF hS2
    have hS : St _ _ _ _ [q11,[⟨b6,[(iV p_t.Level),s3.v,s4.v,(iV p_t.Sum)],29⟩],[⟨b5,[s1.v],26⟩]]:=hS.joinF hR10
    refine q_g (v:=(iV (goLen t_9))) hF hS (ex_len U24 rfl h11.len) hc3 fun a hF=>q_g (v:=(.bool ((goLen t_9) == 0))) hF hS (ex_ibin rfl rfl rfl) hc3 fun a hF=>q_y (v:=(.bool ((goLen t_9) == 0))) hF hS (ex_pick_f rfl rfl hc3) fun a hF=>q_m hF rfl fun a hF=>?_
    rcases bcase ((goLen t_9) == 0) with hc4 | hc4
    ·have hj1:=cond_f hc4 hj1
     refine q_g (v:=(pP b6 1)) hF hS (ex_fieldAddr U29 rfl sz24 rfl rfl) hc4 fun a hF=>q_g (v:=s3.v) hF hS (ex_load1 1 0 U24 rfl rfl rfl rfl) hc4 fun a hF=>q_g (v:=s2.v) hF hS (ex_move rfl) hc4 fun a hF=>q_g (v:=(iV (goLen p_s))) hF hS (ex_len U27 rfl h2.len) hc4 fun a hF=>q_g (v:=(iV (w64 ((goLen p_s) - 1)))) hF hS (ex_ibin rfl rfl rfl) hc4 fun a hF=>?_
     obtain ⟨t_12,ht_12,hj1⟩:=bindS hj1
     refine q_callg (vs:=[s3.v,(iV 0),(iV (w64 ((goLen p_s) - 1)))]) hF hS (wanted_t hF rfl rfl rfl hc4) Tryz.func73 (by kernel_rfl) rfl rfl rfl (c_spec_l1Rising p_t.Vars 0 (w64 ((goLen p_s) - 1)) t_12 ht_12 _ m hS.vis s3 h3) ?_
     rintro a w _ rfl hF hS
     refine q_g (v:=(.bool (!t_12))) hF hS (ex_not rfl) hc4 fun a hF=>q_y (v:=(.bool (!t_12))) hF hS (ex_pick_f rfl rfl hc4) fun a hF=>q_m hF rfl fun a hF=>?_
     rcases bcase (!t_12) with hc5 | hc5
     ·have hj1:=cond_f hc5 hj1
      refine q_g (v:=s2.v) hF hS (ex_move rfl) hc5 fun a hF=>q_g (v:=(pP b6 2)) hF hS (ex_fieldAddr U29 rfl sz24 rfl rfl) hc5 fun a hF=>q_g (v:=s4.v) hF hS (ex_load1 1 0 U24 rfl rfl rfl rfl) hc5 fun a hF=>?_
      obtain ⟨t_13,ht_13,hj1⟩:=bindS hj1
      refine q_callg (vs:=[s2.v,s4.v]) hF hS (wanted_t hF rfl rfl rfl hc5) Tryz.func74 (by kernel_rfl) rfl rfl rfl (c_spec_uWhere p_s p_t.Where t_13 ht_13 _ m hS.vis s2 h2 s4 h4) ?_
      rintro a w _ rfl hF hS
      refine q_g (v:=(.bool (!t_13))) hF hS (ex_not rfl) hc5 fun a hF=>q_y (v:=(.bool (!t_13))) hF hS (ex_pick_f rfl rfl hc5) fun a hF=>q_m hF rfl fun a hF=>?_
      rcases bcase (!t_13) with hc6 | hc6
      ·have hj1:=cond_f hc6 hj1
       refine q_g (v:=(pP b6 3)) hF hS (ex_fieldAddr U29 rfl sz3 rfl rfl) hc6 fun a hF=>q_g (v:=(iV p_t.Sum)) hF hS (ex_load1 1 0 U3 rfl rfl rfl rfl) hc6 fun a hF=>q_g (v:=s2.v) hF hS (ex_move rfl) hc6 fun a hF=>q_g (v:=(iV (goLen p_s))) hF hS (ex_len U27 rfl h2.len) hc6 fun a hF=>q_g (v:=(iV (w64 ((goLen p_s) - 1)))) hF hS (ex_ibin rfl rfl rfl) hc6 fun a hF=>?_
       obtain ⟨t_14,ht_14,hj1⟩:=bindS hj1
       refine q_callg (vs:=[(iV p_t.Sum),(iV (-1)),(iV (w64 ((goLen p_s) - 1)))]) hF hS (wanted_t hF rfl rfl rfl hc6) Tryz.func75 (by kernel_rfl) rfl rfl rfl (c_spec_l1In p_t.Sum (-1) (w64 ((goLen p_s) - 1)) t_14 ht_14 _ m hS.vis) ?_
       rintro a w _ rfl hF hS
       refine q_g (v:=(.bool (!t_14))) hF hS (ex_not rfl) hc6 fun a hF=>q_y (v:=(.bool (!t_14))) hF hS (ex_pick_f rfl rfl hc6) fun a hF=>q_end (n_jn ?_)
       obtain rfl:=someI hj1
       exact ⟨hF.sub ⟨rfl,rfl,rfl,rfl,trivial⟩,hS.mask [false,true,true]⟩
      ·have hj1:=cond_t hc6 hj1
       refine q_k hF hc6 fun a hF=>q_k hF hc6 fun a hF=>q_k hF hc6 fun a hF=>q_k hF hc6 fun a hF=>q_k hF hc6 fun a hF=>q_k hF hc6 fun a hF=>q_k hF hc6 fun a hF=>q_y (v:=(.bool true)) hF hS (ex_pick_t rfl rfl hc6) fun a hF=>q_end (n_jn ?_)
       obtain rfl:=someI hj1
       exact ⟨hF.sub ⟨rfl,rfl,rfl,rfl,trivial⟩,hS.mask [false,true,true]⟩
     ·have hj1:=cond_t hc5 hj1
      refine q_k hF hc5 fun a hF=>q_k hF hc5 fun a hF=>q_k hF hc5 fun a hF=>q_k hF hc5 fun a hF=>q_k hF hc5 fun a hF=>q_y (v:=(.bool true)) hF hS (ex_pick_t rfl rfl hc5) fun a hF=>q_m hF rfl fun a hF=>q_k hF rfl fun a hF=>q_k hF rfl fun a hF=>q_k hF rfl fun a hF=>q_k hF rfl fun a hF=>q_k hF rfl fun a hF=>q_k hF rfl fun a hF=>q_k hF rfl fun a hF=>q_y (v:=(.bool true)) hF hS (ex_pick_t rfl rfl rfl) fun a hF=>q_end (n_jn ?_)
      obtain rfl:=someI hj1
      exact ⟨hF.sub ⟨rfl,rfl,rfl,rfl,trivial⟩,hS.mask [false,true,true]⟩
    ·have hj1:=cond_t hc4 hj1
     refine q_k hF hc4 fun a hF=>q_k hF hc4 fun a hF=>q_k hF hc4 fun a hF=>q_k hF hc4 fun a hF=>q_k hF hc4 fun a hF=>q_k hF hc4 fun a hF=>q_k hF hc4 fun a hF=>q_y (v:=(.bool true)) hF hS (ex_pick_t rfl rfl hc4) fun a hF=>q_m hF rfl fun a hF=>q_k hF rfl fun a hF=>q_k hF rfl fun a hF=>q_k hF rfl fun a hF=>q_k hF rfl fun a hF=>q_k hF rfl fun a hF=>q_y (v:=(.bool true)) hF hS (ex_pick_t rfl rfl rfl) fun a hF=>q_m hF rfl fun a hF=>q_k hF rfl fun a hF=>q_k hF rfl fun a hF=>q_k hF rfl fun a hF=>q_k hF rfl fun a hF=>q_k hF rfl fun a hF=>q_k hF rfl fun a hF=>q_k hF rfl fun a hF=>q_y (v:=(.bool true)) hF hS (ex_pick_t rfl rfl rfl) fun a hF=>q_end (n_jn ?_)
     obtain rfl:=someI hj1
     exact ⟨hF.sub ⟨rfl,rfl,rfl,rfl,trivial⟩,hS.mask [false,true,true]⟩
   ·have hj1:=cond_t hc3 hj1
    refine q_k hF hc3 fun a hF=>q_k hF hc3 fun a hF=>q_k hF hc3 fun a hF=>q_k hF hc3 fun a hF=>q_k hF hc3 fun a hF=>q_k hF hc3 fun a hF=>q_y (v:=(.bool true)) hF hS (ex_pick_t rfl rfl hc3) fun a hF=>q_m hF rfl fun a hF=>q_k hF rfl fun a hF=>q_k hF rfl fun a hF=>q_k hF rfl fun a hF=>q_k hF rfl fun a hF=>q_k hF rfl fun a hF=>q_k hF rfl fun a hF=>q_k hF rfl fun a hF=>q_y (v:=(.bool true)) hF hS (ex_pick_t rfl rfl rfl) fun a hF=>q_m hF rfl fun a hF=>q_k hF rfl fun a hF=>q_k hF rfl fun a hF=>q_k hF rfl fun a hF=>q_k hF rfl fun a hF=>q_k hF rfl fun a hF=>q_y (v:=(.bool true)) hF hS (ex_pick_t rfl rfl rfl) fun a hF=>q_m hF rfl fun a hF=>q_k hF rfl fun a hF=>?_
    refine q_k hF rfl fun a hF=>q_k hF rfl fun a hF=>q_k hF rfl fun a hF=>q_k hF rfl fun a hF=>q_k hF rfl fun a hF=>q_k hF rfl fun a hF=>q_y (v:=(.bool true)) hF hS (ex_pick_t rfl rfl rfl) fun a hF=>q_end (n_jn ?_)
    obtain rfl:=someI hj1
    exact ⟨hF.sub ⟨rfl,rfl,rfl,rfl,trivial⟩,hS⟩
  ·have hj1:=cond_t hc2 hj1
   refine q_k hF hc2 fun a hF=>q_k hF hc2 fun a hF=>q_k hF hc2 fun a hF=>q_y (v:=(.bool true)) hF hS (ex_pick_t rfl rfl hc2) fun a hF=>q_m hF rfl fun a hF=>q_k hF rfl fun a hF=>q_k hF rfl fun a hF=>q_k hF rfl fun a hF=>q_k hF rfl fun a hF=>q_k hF rfl fun a hF=>q_k hF rfl fun a hF=>q_y (v:=(.bool true)) hF hS (ex_pick_t rfl rfl rfl) fun a hF=>q_m hF rfl fun a hF=>q_k hF rfl fun a hF=>q_k hF rfl fun a hF=>q_k hF rfl fun a hF=>q_k hF rfl fun a hF=>q_k hF rfl fun a hF=>q_k hF rfl fun a hF=>q_k hF rfl fun a hF=>q_y (v:=(.bool true)) hF hS (ex_pick_t rfl rfl rfl) fun a hF=>q_m hF rfl fun a hF=>q_k hF rfl fun a hF=>q_k hF rfl fun a hF=>q_k hF rfl fun a hF=>?_
   refine q_k hF rfl fun a hF=>q_k hF rfl fun a hF=>q_y (v:=(.bool true)) hF hS (ex_pick_t rfl rfl rfl) fun a hF=>q_m hF rfl fun a hF=>q_k hF rfl fun a hF=>q_k hF rfl fun a hF=>q_k hF rfl fun a hF=>q_k hF rfl fun a hF=>q_k hF rfl fun a hF=>q_k hF rfl fun a hF=>q_k hF rfl fun a hF=>q_y (v:=(.bool true)) hF hS (ex_pick_t rfl rfl rfl) fun a hF=>q_end (n_jn ?_)
   obtain rfl:=someI hj1
   exact ⟨hF.sub ⟨rfl,rfl,rfl,rfl,trivial⟩,hS⟩
 ·rintro a w ⟨hF,hS⟩
  refine n_sq ?_
  rcases bcase (t_15) with hc7 | hc7
  ·have hr:=cond_f hc7 hr
   refine q_cond_f hF rfl hc7 (q_skipc (n_sq (q_sr (q_y (v:=(.agg #[s1.v])) hF hS (ex_loadA (vs:=[s1.v]) 1 0 U26 rfl sz26 rfl rfl rfl rfl) fun a hF=>q_m hF rfl fun a hF=>q_y (v:=(.agg #[(iV p_t.Level),s3.v,s4.v,(iV p_t.Sum)])) hF hS (ex_loadA (vs:=[(iV p_t.Level),s3.v,s4.v,(iV p_t.Sum)]) 0 0 U29 rfl sz29 rfl rfl rfl rfl) fun a hF=>?_))))
   obtain ⟨t_16,ht_16,hr⟩:=bindS hr
   refine q_call (vs:=[(.agg #[s1.v]),s2.v,(.agg #[(iV p_t.Level),s3.v,s4.v,(iV p_t.Sum)])]) hF hS Tryz.func76 (by kernel_rfl) rfl rfl rfl (c_spec_uCount p_g p_s p_t t_16 ht_16 _ m hS.vis s1 h1 s2 h2 s3 h3 s4 h4) ?_
   rintro a w _ rfl hF hS
   refine q_y (v:=(.bool (decide (t_16 ≤ 600)))) hF hS (ex_ibin rfl rfl rfl) fun a hF=>q_s hF rfl fun a hF=>q_end (n_sq (q_ret ?_))
   obtain rfl:=someI hr
   exact ret_of hF hS rfl (.tmp rfl .nil) rfl
  ·have hr:=cond_t hc7 hr
   refine q_cond_t hF rfl hc7 (q_sr (q_s hF rfl fun a hF=>q_end (n_sq (q_ret (r_sq ?_)))))
   obtain rfl:=someI hr
   exact ret_of hF hS rfl (.tmp rfl .nil) rfl

theorem c_spec_nPlan (p_g : impl_Geo) (p_s : List impl_Variable) (p_l : List impl_Table) (r : Bool) (hr : spec_nPlan p_g p_s p_l = some r) (w0 : World) (m : Mem) (hv : Vis m w0) (s1 : Sl) (h1 : Rd m s1 p_g.Parents) (s2 : Sl) (h2 : Rd m s2 p_s) (s3 : Sl) (h3 : Rd m s3 p_l) :
  Ret Tryz.prog 51 [(.agg #[s1.v]),s2.v,s3.v] w0 (fun v _=>v = (.bool r)):=by
 unfold spec_nPlan at hr
 refine ret_start Tryz.func51 rfl 30 rfl rfl m hv fun a hF hS=>q_sr (q_box (cs:=[s1.v]) hF hS rfl rfl rfl fun a w b4 hF hS=>q_s hF rfl fun a hF=>q_end (n_sq (q_seq (q_seq ?_))))
 obtain ⟨t_6,hj1,hr⟩:=bindS hr
 refine q_join (fun a w=>Fr a 30 [(1,s2.v),(2,s3.v),(3,(pP b4 0)),(17,(.bool t_6))]∧St [] w0 w m [[⟨b4,[s1.v],26⟩]]) ?_ ?_
 ·refine q_region (q_y (v:=(.agg #[s1.v])) hF hS (ex_loadA (vs:=[s1.v]) 0 0 U26 rfl sz26 rfl rfl rfl rfl) fun a hF=>q_m hF rfl fun a hF=>?_)
  obtain ⟨t_5,ht_5,hj1⟩:=bindS hj1
  refine q_call (vs:=[(.agg #[s1.v]),s2.v]) hF hS Tryz.func44 (by kernel_rfl) rfl rfl rfl (c_spec_nInput p_g p_s t_5 ht_5 _ m hS.vis s1 h1 s2 h2) ?_
  rintro a w _ rfl hF hS
  refine q_y (v:=(.bool (!t_5))) hF hS (ex_not rfl) fun a hF=>q_m hF rfl fun a hF=>?_
  rcases bcase (!t_5) with hc2 | hc2
  ·have hj1:=cond_f hc2 hj1
   refine q_g (v:=s3.v) hF hS (ex_move rfl) hc2 fun a hF=>q_g (v:=(iV (goLen p_l))) hF hS (ex_len U44 rfl h3.len) hc2 fun a hF=>q_g (v:=(.bool (decide (20 < (goLen p_l))))) hF hS (ex_ibin rfl rfl rfl) hc2 fun a hF=>q_y (v:=(.bool (decide (20 < (goLen p_l))))) hF hS (ex_pick_f rfl rfl hc2) fun a hF=>q_end (n_jn ?_)
   obtain rfl:=someI hj1
   exact ⟨hF.sub ⟨rfl,rfl,rfl,rfl,trivial⟩,hS⟩
  ·have hj1:=cond_t hc2 hj1
   refine q_k hF hc2 fun a hF=>q_k hF hc2 fun a hF=>q_k hF hc2 fun a hF=>q_y (v:=(.bool true)) hF hS (ex_pick_t rfl rfl hc2) fun a hF=>q_end (n_jn ?_)
   obtain rfl:=someI hj1
   exact ⟨hF.sub ⟨rfl,rfl,rfl,rfl,trivial⟩,hS⟩
 ·rintro a w ⟨hF,hS⟩
  refine n_sq ?_
  rcases bcase (t_6) with hc3 | hc3
  ·have hr:=cond_f hc3 hr
   refine q_cond_f hF rfl hc3 (q_skipc (n_sq (q_seq (q_sr (q_m hF rfl fun a hF=>q_y (v:=(iV (goLen p_l))) hF hS (ex_len U44 rfl h3.len) fun a hF=>q_m hF rfl fun a hF=>q_end (n_sq (q_block ?_)))))))
   obtain ⟨o4,hl4,hr⟩:=bindS hr
   refine q_loop (fun (t_7 : Int) a w=>Fr a 30 [(1,s2.v),(3,(pP b4 0)),(18,s3.v),(19,(iV (goLen p_l))),(20,(iV t_7))]∧St [] w0 w m [[⟨b4,[s1.v],26⟩]]) (fun (o : (Unit) ⊕ (Bool)) e a w=>o = .inl ()∧e = .exit 0∧Fr a 30 []∧St [] w0 w m []) hl4 ⟨hF.sub ⟨rfl,rfl,rfl,rfl,rfl,trivial⟩,hS⟩ ?_ ?_
   ·clear hF hS
    rintro t_7 a w st ⟨hF,hS⟩ hb4
    unfold spec_nPlan_l1 at hb4
    refine q_sr (q_y (v:=(.bool (decide (t_7 < (goLen p_l))))) hF hS (ex_ibin rfl rfl rfl) fun a hF=>q_end (n_sq (q_seq ?_)))
    rcases bcase (decide (t_7 < (goLen p_l))) with hc5 | hc5
    ·have hb4:=cond_f hc5 hb4
     refine q_cond_f hF rfl hc5 (q_exit (x_sq ?_))
     obtain rfl:=someI hb4
     exact ⟨nofun,.inl ⟨rfl,rfl,hF.sub trivial,hS.mask [false]⟩⟩
    ·have hb4:=cond_t hc5 hb4
     refine q_cond_t hF rfl hc5 (q_skipc (n_sq (q_seq (q_block (q_seq (q_region ?_))))))
     obtain ⟨e_8,he_8,hb4⟩:=bindS hb4
     obtain ⟨vs9,at9,d9⟩:=h3.at he_8 4 rfl
     obtain ⟨s10,s11,rfl,h10,h11⟩ : ∃ s10 s11 : Sl,vs9 = [(iV e_8.Level),s10.v,s11.v,(iV e_8.Sum)]∧Rd m s10 e_8.Vars∧Rd m s11 e_8.Where:=d9
     refine q_y (v:=(elP s3 (t_7.toNat * 4))) hF hS (ex_indexAddr U44 sz29 rfl rfl (h3.idx he_8)) fun a hF=>q_y (v:=(.agg #[(iV e_8.Level),s10.v,s11.v,(iV e_8.Sum)])) hF hS (ex_loadEA (us:=[(iV e_8.Level),s10.v,s11.v,(iV e_8.Sum)]) 0 U29 rfl sz29 rfl ((at9).at) rfl rfl rfl) fun a hF=>q_alloc (cs:=[(iV 0),nilS.v,nilS.v,(iV 0)]) hF hS rfl rfl rfl fun a w b12 hF hS=>q_store (vs:=[(iV e_8.Level),s10.v,s11.v,(iV e_8.Sum)]) (cs':=[(iV e_8.Level),s10.v,s11.v,(iV e_8.Sum)]) 0 0 hF hS sz29 rfl rfl rfl rfl rfl rfl rfl rfl fun a w hF hS=>q_end (n_sq (q_sr (q_y (v:=(.agg #[s1.v])) hF hS (ex_loadA (vs:=[s1.v]) 1 0 U26 rfl sz26 rfl rfl rfl rfl) fun a hF=>q_m hF rfl fun a hF=>q_y (v:=(.agg #[(iV e_8.Level),s10.v,s11.v,(iV e_8.Sum)])) hF hS (ex_loadA (vs:=[(iV e_8.Level),s10.v,s11.v,(iV e_8.Sum)]) 0 0 U29 rfl sz29 rfl rfl rfl rfl) fun a hF=>?_)))
     obtain ⟨t_13,ht_13,hb4⟩:=bindS hb4
     refine q_call (vs:=[(.agg #[s1.v]),s2.v,(.agg #[(iV e_8.Level),s10.v,s11.v,(iV e_8.Sum)])]) hF hS Tryz.func32 (by kernel_rfl) rfl rfl rfl (c_spec_uGood p_g p_s e_8 t_13 ht_13 _ m hS.vis s1 h1 s2 h2 s10 h10 s11 h11) ?_
     rintro a w _ rfl hF hS
     refine q_y (v:=(.bool (!t_13))) hF hS (ex_not rfl) fun a hF=>q_end (n_sq ?_)
     rcases bcase (!t_13) with hc6 | hc6
     ·have hb4:=cond_f hc6 hb4
      refine q_cond_f hF rfl hc6 (q_skipc (n_ib (n_sq (q_region (q_y (v:=(iV (w64 (t_7 + 1)))) hF hS (ex_ibin rfl rfl rfl) fun a hF=>q_m hF rfl fun a hF=>q_end ?_)))))
      obtain rfl:=someI hb4
      exact ⟨rfl,hF.sub ⟨rfl,rfl,rfl,rfl,rfl,trivial⟩,hS.mask [false,true]⟩
     ·have hb4:=cond_t hc6 hb4
      refine q_cond_t hF rfl hc6 (q_sr (q_s hF rfl fun a hF=>q_end (n_sq (q_ret (r_ib (r_sq ?_))))))
      obtain rfl:=someI hb4
      refine ⟨nofun,.inr fun ho=>?_⟩
      subst ho
      refine r_ib (r_sq ?_)
      obtain rfl:=someI hr
      exact ret_of hF hS rfl (.tmp rfl .nil) rfl
   ·rintro e a w ⟨rfl,rfl,hF,hS⟩
    refine x_ib (n_sq ?_)
    refine q_sr (q_s hF rfl fun a hF=>q_end (n_sq (q_ret ?_)))
    obtain rfl:=someI hr
    exact ret_of hF hS rfl (.tmp rfl .nil) rfl
  ·have hr:=cond_t hc3 hr
   refine q_cond_t hF rfl hc3 (q_sr (q_s hF rfl fun a hF=>q_end (n_sq (q_ret (r_sq ?_)))))
   obtain rfl:=someI hr
   exact ret_of hF hS rfl (.tmp rfl .nil) rfl

end Go.Proofs.YtnmimeojimfogaaGreatDoor
