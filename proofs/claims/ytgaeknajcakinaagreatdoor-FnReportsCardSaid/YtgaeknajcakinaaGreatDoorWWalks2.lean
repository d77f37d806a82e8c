/- The walks of the functions: each returns what its plain function says. -/
import Derived.Test.YtgaeknajcakinaaGreatDoorWWalks1
namespace Go.Proofs.YtgaeknajcakinaaGreatDoor
open Go.Gx Go.Gx.F Go.RowKit
set_option linter.all false
set_option maxRecDepth 10000


theorem c_spec_l1Cur_anyTable (p_c : spec_l1Cur) (p_g : impl_Geo) (p_s : List impl_Variable) (r : impl_Table × spec_l1Cur) (hr : spec_l1Cur_anyTable p_c p_g p_s = some r) (w0 : World) (m : Mem) (b_p_c : Nat) (s1 : Sl) (h1 : Rd m s1 p_c.code) (s2 : Sl) (h2 : Rd m s2 p_g.Parents) (s3 : Sl) (h3 : Rd m s3 p_s) (X : List Nat) (hS : St X w0 w0 m [[⟨b_p_c,[s1.v,(iV p_c.at_),(.int .u64 p_c.seed.v)],45⟩]]) :
  RetX Tryz.prog 16 [(.pointer (some ⟨b_p_c,0,none⟩)),(.agg #[s2.v]),s3.v] w0 (fun v w=>∃ (q0' : Piece) (q1' : Piece) (s0' : Sl) (s1' : Sl),v = (.agg #[(iV r.1.Level),s0'.v,s1'.v,(iV r.1.Sum)])∧St X w0 w m [[⟨b_p_c,[s1.v,(iV r.2.at_),(.int .u64 r.2.seed.v)],45⟩],q0',q1']∧OwnL m 3 q0' s0' r.1.Vars∧OwnL m 3 q1' s1' r.1.Where∧r.2.code = p_c.code):=by
 unfold spec_l1Cur_anyTable at hr
 refine ret_startX Tryz.func16 rfl 56 rfl rfl fun a hF=>q_seq (q_region (q_box (cs:=[s2.v]) hF hS rfl rfl rfl fun a w b4 hF hS=>q_alloc (cs:=[(iV 0),nilS.v,nilS.v,(iV 0)]) hF hS rfl rfl rfl fun a w b5 hF hS=>q_end (n_sq (q_seq (q_region (q_x (v:=(.pointer (some ⟨b_p_c,0,none⟩))) hF hS (ex_move rfl) rfl rfl fun a hF=>q_x (v:=(.agg #[s2.v])) hF hS (ex_loadA (vs:=[s2.v]) 1 0 Tryz.underlying26 rfl sz26 rfl rfl rfl rfl) rfl rfl fun a hF=>q_x (v:=s3.v) hF hS (ex_move rfl) rfl rfl fun a hF=>?_))))))
 have hS : St _ _ _ _ [[⟨b_p_c,[s1.v,(iV p_c.at_),(.int .u64 p_c.seed.v)],45⟩],[⟨b5,[(iV 0),nilS.v,nilS.v,(iV 0)],29⟩],[⟨b4,[s2.v],26⟩]]:=hS.sel [2,0,1] (by decide)
 have hS6 : St _ _ _ _ ([[⟨b_p_c,[s1.v,(iV p_c.at_),(.int .u64 p_c.seed.v)],45⟩]]++[[⟨b5,[(iV 0),nilS.v,nilS.v,(iV 0)],29⟩],[⟨b4,[s2.v],26⟩]]):=hS
 have hE6:=hS6.enter
 obtain ⟨t_7,ht_7,hr⟩:=bindS hr
 refine q_do rfl fun _ hK=>wp_callX (vs:=[(.pointer (some ⟨b_p_c,0,none⟩)),(.agg #[s2.v]),s3.v]) hF Tryz.func45 (by kernel_rfl) rfl rfl rfl (c_spec_l1Cur_table p_c p_g p_s t_7 ht_7 _ m b_p_c s1 h1 s2 h2 s3 h3 _ hE6) fun a w _ hR hF=>hK _ _ ?_
 obtain ⟨q8,q9,s8,s9,rfl,hR6,h8,h9,hk10⟩:=hR
 have hS : St _ _ _ _ [[⟨b_p_c,[s1.v,(iV t_7.2.at_),(.int .u64 t_7.2.seed.v)],45⟩],q8,q9,[⟨b5,[(iV 0),nilS.v,nilS.v,(iV 0)],29⟩],[⟨b4,[s2.v],26⟩]]:=hS6.leaveF hR6
 have h10 : Rd m s1 t_7.2.code:=by rw [hk10]; exact h1
 refine q_alloc (cs:=[(iV 0),nilS.v,nilS.v,(iV 0)]) hF hS rfl rfl rfl fun a w b11 hF hS=>q_store (vs:=[(iV t_7.1.Level),s8.v,s9.v,(iV t_7.1.Sum)]) (cs':=[(iV t_7.1.Level),s8.v,s9.v,(iV t_7.1.Sum)]) 0 0 hF hS sz29 rfl rfl rfl rfl rfl rfl rfl rfl fun a w hF hS=>q_end (n_sq (q_seq (q_seq (q_region (q_x (v:=(.pointer (some ⟨b_p_c,0,none⟩))) hF hS (ex_move rfl) rfl rfl fun a hF=>?_)))))
 have hS : St _ _ _ _ [[⟨b_p_c,[s1.v,(iV t_7.2.at_),(.int .u64 t_7.2.seed.v)],45⟩],[⟨b11,[(iV t_7.1.Level),s8.v,s9.v,(iV t_7.1.Sum)],29⟩],q8,q9,[⟨b5,[(iV 0),nilS.v,nilS.v,(iV 0)],29⟩],[⟨b4,[s2.v],26⟩]]:=hS.sel [1,0,2,3,4,5] (by decide)
 have hS12 : St _ _ _ _ ([[⟨b_p_c,[s1.v,(iV t_7.2.at_),(.int .u64 t_7.2.seed.v)],45⟩]]++[[⟨b11,[(iV t_7.1.Level),s8.v,s9.v,(iV t_7.1.Sum)],29⟩],q8,q9,[⟨b5,[(iV 0),nilS.v,nilS.v,(iV 0)],29⟩],[⟨b4,[s2.v],26⟩]]):=hS
 have hE12:=hS12.enter
 obtain ⟨t_13,ht_13,hr⟩:=bindS hr
 refine q_do rfl fun _ hK=>wp_callX (vs:=[(.pointer (some ⟨b_p_c,0,none⟩)),(iV 24)]) hF Tryz.func20 (by kernel_rfl) rfl rfl rfl (c_spec_l1Cur_pick t_7.2 24 t_13 ht_13 _ m b_p_c s1 h10 _ hE12) fun a w _ hR hF=>hK _ _ ?_
 obtain ⟨rfl,hR12,hk14⟩:=hR
 have hS : St _ _ _ _ [[⟨b_p_c,[s1.v,(iV t_13.2.at_),(.int .u64 t_13.2.seed.v)],45⟩],[⟨b11,[(iV t_7.1.Level),s8.v,s9.v,(iV t_7.1.Sum)],29⟩],q8,q9,[⟨b5,[(iV 0),nilS.v,nilS.v,(iV 0)],29⟩],[⟨b4,[s2.v],26⟩]]:=hS12.leaveF hR12
 have h14 : Rd m s1 t_13.2.code:=by rw [hk14]; exact h10
 refine q_end (n_sq (q_block (q_seq (q_region (q_x (v:=(.bool (t_13.1 == 0))) hF hS (ex_ibin rfl rfl rfl) rfl rfl fun a hF=>q_x (v:=(.bool (t_13.1 == 0))) hF hS (ex_assign rfl) rfl rfl fun a hF=>q_end (n_sq ?_))))))
 obtain ⟨j1,hj1,hr⟩:=bindS hr
 refine q_join (fun a w=>∃ (q74 : Piece),∃ (s74 : Sl),∃ (q75 : Piece),∃ (s75 : Sl),∃ p_c_71,∃ t_73,j1 = (p_c_71,t_73)∧Fr a 56 [(6,(.pointer (some ⟨b5,0,none⟩))),(7,(.pointer (some ⟨b11,0,none⟩)))]∧St X w0 w m [q74,q75,[⟨b_p_c,[s1.v,(iV p_c_71.at_),(.int .u64 p_c_71.seed.v)],45⟩],[⟨b11,[(iV t_73.Level),s74.v,s75.v,(iV t_73.Sum)],29⟩],[⟨b5,[(iV 0),nilS.v,nilS.v,(iV 0)],29⟩]]∧Rd m s1 p_c_71.code∧p_c_71.code = p_c.code∧OwnL m 3 q74 s74 t_73.Vars∧OwnL m 3 q75 s75 t_73.Where) ?_ ?_
 ·rcases bcase (t_13.1 == 0) with hc2 | hc2
  ·have hj1:=cond_f hc2 hj1
   refine q_cond_f hF rfl hc2 (q_seq (q_region (q_x (v:=(.bool (t_13.1 == 1))) hF hS (ex_ibin rfl rfl rfl) rfl rfl fun a hF=>q_x (v:=(.bool (t_13.1 == 1))) hF hS (ex_assign rfl) rfl rfl fun a hF=>q_end (n_sq ?_))))
   obtain ⟨j3,hj3,hj1⟩:=bindS hj1
   refine q_join (fun a w=>∃ (q65 : Piece),∃ (s65 : Sl),∃ (q66 : Piece),∃ (s66 : Sl),∃ p_c_62,∃ t_64,j3 = (p_c_62,t_64)∧Fr a 56 [(6,(.pointer (some ⟨b5,0,none⟩))),(7,(.pointer (some ⟨b11,0,none⟩)))]∧St X w0 w m [q65,q66,[⟨b_p_c,[s1.v,(iV p_c_62.at_),(.int .u64 p_c_62.seed.v)],45⟩],[⟨b11,[(iV t_64.Level),s65.v,s66.v,(iV t_64.Sum)],29⟩],[⟨b5,[(iV 0),nilS.v,nilS.v,(iV 0)],29⟩]]∧Rd m s1 p_c_62.code∧p_c_62.code = p_c.code∧OwnL m 3 q65 s65 t_64.Vars∧OwnL m 3 q66 s66 t_64.Where) ?_ ?_
   ·rcases bcase (t_13.1 == 1) with hc4 | hc4
    ·have hj3:=cond_f hc4 hj3
     refine q_cond_f hF rfl hc4 (q_seq (q_region (q_x (v:=(.bool (t_13.1 == 2))) hF hS (ex_ibin rfl rfl rfl) rfl rfl fun a hF=>q_x (v:=(.bool (t_13.1 == 2))) hF hS (ex_assign rfl) rfl rfl fun a hF=>q_end (n_sq ?_))))
     obtain ⟨j5,hj5,hj3⟩:=bindS hj3
     refine q_join (fun a w=>∃ (q48 : Piece),∃ (s48 : Sl),∃ p_c_44,∃ t_46,j5 = (p_c_44,t_46)∧Fr a 56 [(6,(.pointer (some ⟨b5,0,none⟩))),(7,(.pointer (some ⟨b11,0,none⟩)))]∧St X w0 w m [q8,q48,[⟨b_p_c,[s1.v,(iV p_c_44.at_),(.int .u64 p_c_44.seed.v)],45⟩],[⟨b11,[(iV t_46.Level),s8.v,s48.v,(iV t_46.Sum)],29⟩],[⟨b5,[(iV 0),nilS.v,nilS.v,(iV 0)],29⟩]]∧Rd m s1 p_c_44.code∧p_c_44.code = p_c.code∧OwnL m 3 q8 s8 t_46.Vars∧OwnL m 3 q48 s48 t_46.Where) ?_ ?_
     ·rcases bcase (t_13.1 == 2) with hc6 | hc6
      ·have hj5:=cond_f hc6 hj5
       refine q_cond_f hF rfl hc6 (q_seq (q_region (q_x (v:=(.bool (t_13.1 == 3))) hF hS (ex_ibin rfl rfl rfl) rfl rfl fun a hF=>q_x (v:=(.bool (t_13.1 == 3))) hF hS (ex_assign rfl) rfl rfl fun a hF=>q_end (n_sq ?_))))
       obtain ⟨j7,hj7,hj5⟩:=bindS hj5
       refine q_join (fun a w=>∃ (q40 : Piece),∃ p_c_36,∃ t_38,j7 = (p_c_36,t_38)∧Fr a 56 [(6,(.pointer (some ⟨b5,0,none⟩))),(7,(.pointer (some ⟨b11,0,none⟩)))]∧St X w0 w m [q8,q40,[⟨b_p_c,[s1.v,(iV p_c_36.at_),(.int .u64 p_c_36.seed.v)],45⟩],[⟨b11,[(iV t_38.Level),s8.v,s9.v,(iV t_38.Sum)],29⟩],[⟨b5,[(iV 0),nilS.v,nilS.v,(iV 0)],29⟩]]∧Rd m s1 p_c_36.code∧p_c_36.code = p_c.code∧OwnL m 3 q8 s8 t_38.Vars∧OwnL m 3 q40 s9 t_38.Where) ?_ ?_
       ·rcases bcase (t_13.1 == 3) with hc8 | hc8
        ·have hj7:=cond_f hc8 hj7
         refine q_cond_f hF rfl hc8 (q_seq (q_region (q_x (v:=(.bool (t_13.1 == 4))) hF hS (ex_ibin rfl rfl rfl) rfl rfl fun a hF=>q_x (v:=(.bool (t_13.1 == 4))) hF hS (ex_assign rfl) rfl rfl fun a hF=>q_end (n_sq ?_))))
         obtain ⟨j9,hj9,hj7⟩:=bindS hj7
         refine q_join (fun a w=>∃ (q31 : Piece),∃ p_c_27,∃ t_29,j9 = (p_c_27,t_29)∧Fr a 56 [(6,(.pointer (some ⟨b5,0,none⟩))),(7,(.pointer (some ⟨b11,0,none⟩)))]∧St X w0 w m [q8,q31,[⟨b_p_c,[s1.v,(iV p_c_27.at_),(.int .u64 p_c_27.seed.v)],45⟩],[⟨b11,[(iV t_29.Level),s8.v,s9.v,(iV t_29.Sum)],29⟩],[⟨b5,[(iV 0),nilS.v,nilS.v,(iV 0)],29⟩]]∧Rd m s1 p_c_27.code∧p_c_27.code = p_c.code∧OwnL m 3 q8 s8 t_29.Vars∧OwnL m 3 q31 s9 t_29.Where) ?_ ?_
         ·rcases bcase (t_13.1 == 4) with hc10 | hc10
          ·have hj9:=cond_f hc10 hj9
           refine q_cond_f hF rfl hc10 (q_skipc (n_jn ?_))
           obtain rfl:=someI hj9
           exact ⟨q9,_,_,rfl,hF.sub ⟨rfl,rfl,trivial⟩,hS.sel [2,3,0,1,4] (by decide),h14,(hk14.trans hk10),h8,h9⟩
          ·have hj9:=cond_t hc10 hj9
           refine q_cond_t hF rfl hc10 (q_seq (q_region (q_x (v:=(.pointer (some ⟨b11,2,none⟩))) hF hS (ex_fieldAddr Tryz.underlying29 rfl sz24 rfl rfl) rfl rfl fun a hF=>q_x (v:=s9.v) hF hS (ex_load1 1 0 Tryz.underlying24 rfl rfl rfl rfl) rfl rfl fun a hF=>q_x (v:=(iV (goLen t_7.1.Where))) hF hS (ex_len Tryz.underlying24 rfl h9.len) rfl rfl fun a hF=>q_x (v:=(.bool (decide (0 < (goLen t_7.1.Where))))) hF hS (ex_ibin rfl rfl rfl) rfl rfl fun a hF=>q_end (n_sq ?_))))
           obtain ⟨j11,hj11,hj9⟩:=bindS hj9
           refine q_join (fun a w=>∃ (q26 : Piece),∃ p_c_22,∃ t_24,j11 = (p_c_22,t_24)∧Fr a 56 [(6,(.pointer (some ⟨b5,0,none⟩))),(7,(.pointer (some ⟨b11,0,none⟩)))]∧St X w0 w m [q8,q26,[⟨b_p_c,[s1.v,(iV p_c_22.at_),(.int .u64 p_c_22.seed.v)],45⟩],[⟨b11,[(iV t_24.Level),s8.v,s9.v,(iV t_24.Sum)],29⟩],[⟨b5,[(iV 0),nilS.v,nilS.v,(iV 0)],29⟩]]∧Rd m s1 p_c_22.code∧p_c_22.code = p_c.code∧OwnL m 3 q8 s8 t_24.Vars∧OwnL m 3 q26 s9 t_24.Where) ?_ ?_
           ·rcases bcase (decide (0 < (goLen t_7.1.Where))) with hc12 | hc12
            ·have hj11:=cond_f hc12 hj11
             refine q_cond_f hF rfl hc12 (q_skipc (n_jn ?_))
             obtain rfl:=someI hj11
             exact ⟨q9,_,_,rfl,hF.sub ⟨rfl,rfl,trivial⟩,hS.sel [2,3,0,1,4] (by decide),h14,(hk14.trans hk10),h8,h9⟩
            ·have hj11:=cond_t hc12 hj11
             refine q_cond_t hF rfl hc12 (e_region ⟨[4,6],[b11]⟩ mixed fun w' hw'=>?_)
             have hS:=hS.below hw'
             refine e_p (v:=(.pointer (some ⟨b11,2,none⟩))) 0 hF rfl (ex_fieldAddr Tryz.underlying29 rfl sz24 rfl rfl) rfl rfl (by kernel_rfl) (by kernel_rfl) (by kernel_rfl) fun a hF=>e_xb (v:=s9.v) 1 1 hF hS (.head _) rfl rfl (ex_load1 0 0 Tryz.underlying24 rfl rfl rfl rfl) rfl rfl (by kernel_rfl) (by kernel_rfl) (by kernel_rfl) fun a hF=>e_p (v:=(.pointer (some ⟨b_p_c,0,none⟩))) 2 hF rfl (ex_move rfl) rfl rfl (by kernel_rfl) (by kernel_rfl) (by kernel_rfl) fun a hF=>e_one 3 (by kernel_rfl) (e_op rfl rfl fun _ hK=>wp_buildSlice' (l:=([-1,255,256] : List Int)) (cells:=[(iV (-1)),(iV 255),(iV 256)]) hF hS Tryz.underlying24 inf3 rfl rfl (by kernel_rfl) rfl rfl rfl ⟨rfl,rfl,rfl,rfl⟩ rfl rfl fun a w q15 s15 hF hS h15 hb=>hK _ _ hb (e_one 4 (by kernel_rfl) ?_))
             have hS : St _ _ _ _ [[⟨b_p_c,[s1.v,(iV t_13.2.at_),(.int .u64 t_13.2.seed.v)],45⟩],q15,[⟨b11,[(iV t_7.1.Level),s8.v,s9.v,(iV t_7.1.Sum)],29⟩],q8,q9,[⟨b5,[(iV 0),nilS.v,nilS.v,(iV 0)],29⟩],[⟨b4,[s2.v],26⟩]]:=hS.sel [1,0,2,3,4,5,6] (by decide)
             have hS16 : St _ _ _ _ ([[⟨b_p_c,[s1.v,(iV t_13.2.at_),(.int .u64 t_13.2.seed.v)],45⟩]]++[q15,[⟨b11,[(iV t_7.1.Level),s8.v,s9.v,(iV t_7.1.Sum)],29⟩],q8,q9,[⟨b5,[(iV 0),nilS.v,nilS.v,(iV 0)],29⟩],[⟨b4,[s2.v],26⟩]]):=hS
             obtain ⟨m16,hl16,hE16,hz16⟩:=hS16.lendX
             obtain ⟨t_17,ht_17,hj11⟩:=bindS hj11
             have hSo:=hS
             refine e_opl rfl rfl rfl fun _ hK=>wp_callX (vs:=[(.pointer (some ⟨b_p_c,0,none⟩)),s15.v]) hF Tryz.func21 (by kernel_rfl) rfl rfl rfl (c_spec_l1Cur_among t_13.2 ([-1,255,256] : List Int) t_17 ht_17 _ m16 b_p_c s1 (h14.mono hl16) s15 (h15.froz hl16 (hz16 0 _ rfl)) _ hE16) fun a w _ hR hF=>hK _ _ ?_
             obtain ⟨rfl,hR16,hk18⟩:=hR
             have hS : St _ _ _ _ [[⟨b_p_c,[s1.v,(iV t_17.2.at_),(.int .u64 t_17.2.seed.v)],45⟩],q15,[⟨b11,[(iV t_7.1.Level),s8.v,s9.v,(iV t_7.1.Sum)],29⟩],q8,q9,[⟨b5,[(iV 0),nilS.v,nilS.v,(iV 0)],29⟩],[⟨b4,[s2.v],26⟩]]:=hS16.leaveF hR16
             have h18 : Rd m s1 t_17.2.code:=by rw [hk18]; exact h14
             refine ⟨kpC hSo hS 2 2 rfl rfl kpN,?_⟩
             obtain ⟨e_19,he_19,hj11⟩:=bindS hj11
             obtain ⟨vs20,at20,d20⟩:=h9.at he_19 1 rfl
             obtain rfl : vs20 = [(iV e_19)]:=d20
             refine e_p (v:=(elP s9 ((0 : Int).toNat * 1))) 5 hF rfl (ex_indexAddr Tryz.underlying24 sz3 rfl rfl (h9.idx he_19)) rfl rfl (by kernel_rfl) (by kernel_rfl) (by kernel_rfl) fun a hF=>e_one 6 (by kernel_rfl) ?_
             have hS : St _ _ _ _ [q9,[⟨b_p_c,[s1.v,(iV t_17.2.at_),(.int .u64 t_17.2.seed.v)],45⟩],q15,[⟨b11,[(iV t_7.1.Level),s8.v,s9.v,(iV t_7.1.Sum)],29⟩],q8,[⟨b5,[(iV 0),nilS.v,nilS.v,(iV 0)],29⟩],[⟨b4,[s2.v],26⟩]]:=hS.sel [4,0,1,2,3,5,6] (by decide)
             have hSo:=hS
             refine e_opl rfl rfl rfl fun _ hK=>wp_storeE (e':=t_17.1) (us:=[(iV t_17.1)]) (vs:=[(iV e_19)]) 0 hF hS h9 sz3 rfl rfl rfl rfl rfl rfl rfl he_19 at20 rfl rfl rfl fun w q21 hS h21=>hK _ _ (⟨kpC hSo hS 3 3 rfl rfl kpN,?_⟩)
             refine e_end (by kernel_rfl) (n_jn ?_) _
             obtain rfl:=someI hj11
             exact ⟨q21,_,_,rfl,hF.sub ⟨rfl,rfl,trivial⟩,hS.sel [4,0,1,3,5] (by decide),h18,(hk18.trans (hk14.trans hk10)),h8,h21⟩
           ·rintro a w ⟨q26,p_c_22,t_24,rfl,hF,hS,h23,h23k,h25,h26⟩
            refine n_jn ?_
            obtain rfl:=someI hj9
            exact ⟨q26,_,_,rfl,hF.sub ⟨rfl,rfl,trivial⟩,hS,h23,h23k,h25,h26⟩
         ·rintro a w ⟨q31,p_c_27,t_29,rfl,hF,hS,h28,h28k,h30,h31⟩
          refine n_jn ?_
          obtain rfl:=someI hj7
          exact ⟨q31,_,_,rfl,hF.sub ⟨rfl,rfl,trivial⟩,hS,h28,h28k,h30,h31⟩
        ·have hj7:=cond_t hc8 hj7
         refine q_cond_t hF rfl hc8 (q_region (q_x (v:=(.pointer (some ⟨b_p_c,0,none⟩))) hF hS (ex_move rfl) rfl rfl fun a hF=>q_do rfl fun _ hK=>wp_buildSlice' (l:=([-2,3,6] : List Int)) (cells:=[(iV (-2)),(iV 3),(iV 6)]) hF hS Tryz.underlying24 inf3 rfl rfl (by kernel_rfl) rfl rfl rfl ⟨rfl,rfl,rfl,rfl⟩ rfl rfl fun a w q32 s32 hF hS h32 _=>hK _ _ ?_))
         have hS : St _ _ _ _ [[⟨b_p_c,[s1.v,(iV t_13.2.at_),(.int .u64 t_13.2.seed.v)],45⟩],q32,[⟨b11,[(iV t_7.1.Level),s8.v,s9.v,(iV t_7.1.Sum)],29⟩],q8,q9,[⟨b5,[(iV 0),nilS.v,nilS.v,(iV 0)],29⟩],[⟨b4,[s2.v],26⟩]]:=hS.sel [1,0,2,3,4,5,6] (by decide)
         have hS33 : St _ _ _ _ ([[⟨b_p_c,[s1.v,(iV t_13.2.at_),(.int .u64 t_13.2.seed.v)],45⟩]]++[q32,[⟨b11,[(iV t_7.1.Level),s8.v,s9.v,(iV t_7.1.Sum)],29⟩],q8,q9,[⟨b5,[(iV 0),nilS.v,nilS.v,(iV 0)],29⟩],[⟨b4,[s2.v],26⟩]]):=hS
         obtain ⟨m33,hl33,hE33,hz33⟩:=hS33.lendX
         obtain ⟨t_34,ht_34,hj7⟩:=bindS hj7
         refine q_do rfl fun _ hK=>wp_callX (vs:=[(.pointer (some ⟨b_p_c,0,none⟩)),s32.v]) hF Tryz.func21 (by kernel_rfl) rfl rfl rfl (c_spec_l1Cur_among t_13.2 ([-2,3,6] : List Int) t_34 ht_34 _ m33 b_p_c s1 (h14.mono hl33) s32 (h32.froz hl33 (hz33 0 _ rfl)) _ hE33) fun a w _ hR hF=>hK _ _ ?_
         obtain ⟨rfl,hR33,hk35⟩:=hR
         have hS : St _ _ _ _ [[⟨b_p_c,[s1.v,(iV t_34.2.at_),(.int .u64 t_34.2.seed.v)],45⟩],q32,[⟨b11,[(iV t_7.1.Level),s8.v,s9.v,(iV t_7.1.Sum)],29⟩],q8,q9,[⟨b5,[(iV 0),nilS.v,nilS.v,(iV 0)],29⟩],[⟨b4,[s2.v],26⟩]]:=hS33.leaveF hR33
         have h35 : Rd m s1 t_34.2.code:=by rw [hk35]; exact h14
         refine q_x (v:=(.pointer (some ⟨b11,3,none⟩))) hF hS (ex_fieldAddr Tryz.underlying29 rfl sz3 rfl rfl) rfl rfl fun a hF=>q_store (vs:=[(iV t_34.1)]) (cs':=[(iV t_7.1.Level),s8.v,s9.v,(iV t_34.1)]) 2 0 hF hS sz3 rfl rfl rfl rfl rfl rfl rfl rfl fun a w hF hS=>q_end (n_jn ?_)
         obtain rfl:=someI hj7
         exact ⟨q9,_,_,rfl,hF.sub ⟨rfl,rfl,trivial⟩,hS.sel [3,4,0,2,5] (by decide),h35,(hk35.trans (hk14.trans hk10)),h8,h9⟩
       ·rintro a w ⟨q40,p_c_36,t_38,rfl,hF,hS,h37,h37k,h39,h40⟩
        refine n_jn ?_
        obtain rfl:=someI hj5
        exact ⟨q40,s9,_,_,rfl,hF.sub ⟨rfl,rfl,trivial⟩,hS,h37,h37k,h39,h40⟩
      ·have hj5:=cond_t hc6 hj5
       refine q_cond_t hF rfl hc6 (q_region (q_x (v:=(.pointer (some ⟨b11,2,none⟩))) hF hS (ex_fieldAddr Tryz.underlying29 rfl sz24 rfl rfl) rfl rfl fun a hF=>q_x (v:=s9.v) hF hS (ex_load1 1 0 Tryz.underlying24 rfl rfl rfl rfl) rfl rfl fun a hF=>q_do rfl fun _ hK=>wp_buildSlice' (l:=([0] : List Int)) (cells:=[(iV 0)]) hF hS Tryz.underlying24 inf3 rfl rfl (by kernel_rfl) rfl rfl rfl ⟨rfl,rfl⟩ rfl rfl fun a w q41 s41 hF hS h41 _=>hK _ _ ?_))
       have hS : St _ _ _ _ [q9,q41,[⟨b_p_c,[s1.v,(iV t_13.2.at_),(.int .u64 t_13.2.seed.v)],45⟩],[⟨b11,[(iV t_7.1.Level),s8.v,s9.v,(iV t_7.1.Sum)],29⟩],q8,[⟨b5,[(iV 0),nilS.v,nilS.v,(iV 0)],29⟩],[⟨b4,[s2.v],26⟩]]:=hS.sel [4,0,1,2,3,5,6] (by decide)
       obtain ⟨l_42,hl_42,hj5⟩:=bindS hj5
       refine q_do rfl fun _ hK=>wp_append hF hS h9 Tryz.underlying24 inf3 rfl rfl rfl rfl (h41.vw hS (j:=1) rfl) rfl (by decide) hl_42 rfl fun a w q43 s43 hF hS h43=>hK _ _ (q_x (v:=(.pointer (some ⟨b11,2,none⟩))) hF hS (ex_fieldAddr Tryz.underlying29 rfl sz24 rfl rfl) rfl rfl fun a hF=>q_store (vs:=[s43.v]) (cs':=[(iV t_7.1.Level),s8.v,s43.v,(iV t_7.1.Sum)]) 3 0 hF hS sz24 rfl rfl rfl rfl rfl rfl rfl rfl fun a w hF hS=>q_end (n_jn ?_))
       obtain rfl:=someI hj5
       exact ⟨q43,s43,_,_,rfl,hF.sub ⟨rfl,rfl,trivial⟩,hS.sel [4,0,2,3,5] (by decide),h14,(hk14.trans hk10),h8,h43⟩
     ·rintro a w ⟨q48,s48,p_c_44,t_46,rfl,hF,hS,h45,h45k,h47,h48⟩
      refine n_jn ?_
      obtain rfl:=someI hj3
      exact ⟨q8,s8,q48,s48,_,_,rfl,hF.sub ⟨rfl,rfl,trivial⟩,hS,h45,h45k,h47,h48⟩
    ·have hj3:=cond_t hc4 hj3
     refine q_cond_t hF rfl hc4 ?_
     obtain ⟨j13,hj13,hj3⟩:=bindS hj3
     refine q_join (fun a w=>∃ (q60 : Piece),∃ (s60 : Sl),∃ p_c_57,∃ t_59,j13 = (p_c_57,t_59)∧Fr a 56 [(6,(.pointer (some ⟨b5,0,none⟩))),(7,(.pointer (some ⟨b11,0,none⟩)))]∧St X w0 w m [q60,q9,[⟨b_p_c,[s1.v,(iV p_c_57.at_),(.int .u64 p_c_57.seed.v)],45⟩],[⟨b11,[(iV t_59.Level),s60.v,s9.v,(iV t_59.Sum)],29⟩],[⟨b5,[(iV 0),nilS.v,nilS.v,(iV 0)],29⟩]]∧Rd m s1 p_c_57.code∧p_c_57.code = p_c.code∧OwnL m 3 q60 s60 t_59.Vars∧OwnL m 3 q9 s9 t_59.Where) ?_ ?_
     ·refine e_region ⟨[4,6,8],[]⟩ mixed fun w' hw'=>?_
      have hS:=hS.below hw'
      refine e_p (v:=(.pointer (some ⟨b11,1,none⟩))) 0 hF rfl (ex_fieldAddr Tryz.underlying29 rfl sz24 rfl rfl) rfl rfl (by kernel_rfl) (by kernel_rfl) (by kernel_rfl) fun a hF=>e_p (v:=(.pointer (some ⟨b_p_c,0,none⟩))) 2 hF rfl (ex_move rfl) rfl rfl (by kernel_rfl) (by kernel_rfl) (by kernel_rfl) fun a hF=>?_
      obtain ⟨t_52,ht_52,hj13⟩:=bindS hj13
      obtain ⟨l_55,hl_55,hj13⟩:=bindS hj13
      refine e_all [1,3] (by kernel_rfl) rfl ⟨?_,?_,trivial⟩
      ·refine e_lx (v:=s8.v) hF hS rfl (ex_load1 1 0 Tryz.underlying24 rfl rfl rfl rfl) rfl rfl fun a hF=>e_one 3 (by kernel_rfl) (e_op rfl rfl fun _ hK=>wp_buildSlice' (l:=([-1,0,6] : List Int)) (cells:=[(iV (-1)),(iV 0),(iV 6)]) hF hS Tryz.underlying24 inf3 rfl rfl (by kernel_rfl) rfl rfl rfl ⟨rfl,rfl,rfl,rfl⟩ rfl rfl fun a w q50 s50 hF hS h50 hb=>hK _ _ hb (e_one 4 (by kernel_rfl) ?_))
       have hS : St _ _ _ _ [[⟨b_p_c,[s1.v,(iV t_13.2.at_),(.int .u64 t_13.2.seed.v)],45⟩],q50,[⟨b11,[(iV t_7.1.Level),s8.v,s9.v,(iV t_7.1.Sum)],29⟩],q8,q9,[⟨b5,[(iV 0),nilS.v,nilS.v,(iV 0)],29⟩],[⟨b4,[s2.v],26⟩]]:=hS.sel [1,0,2,3,4,5,6] (by decide)
       have hS51 : St _ _ _ _ ([[⟨b_p_c,[s1.v,(iV t_13.2.at_),(.int .u64 t_13.2.seed.v)],45⟩]]++[q50,[⟨b11,[(iV t_7.1.Level),s8.v,s9.v,(iV t_7.1.Sum)],29⟩],q8,q9,[⟨b5,[(iV 0),nilS.v,nilS.v,(iV 0)],29⟩],[⟨b4,[s2.v],26⟩]]):=hS
       obtain ⟨m51,hl51,hE51,hz51⟩:=hS51.lendX
       refine e_opl rfl rfl rfl fun _ hK=>wp_callX (vs:=[(.pointer (some ⟨b_p_c,0,none⟩)),s50.v]) hF Tryz.func21 (by kernel_rfl) rfl rfl rfl (c_spec_l1Cur_among t_13.2 ([-1,0,6] : List Int) t_52 ht_52 _ m51 b_p_c s1 (h14.mono hl51) s50 (h50.froz hl51 (hz51 0 _ rfl)) _ hE51) fun a w _ hR hF=>hK _ _ ?_
       obtain ⟨rfl,hR51,hk53⟩:=hR
       have hS : St _ _ _ _ [[⟨b_p_c,[s1.v,(iV t_52.2.at_),(.int .u64 t_52.2.seed.v)],45⟩],q50,[⟨b11,[(iV t_7.1.Level),s8.v,s9.v,(iV t_7.1.Sum)],29⟩],q8,q9,[⟨b5,[(iV 0),nilS.v,nilS.v,(iV 0)],29⟩],[⟨b4,[s2.v],26⟩]]:=hS51.leaveF hR51
       have h53 : Rd m s1 t_52.2.code:=by rw [hk53]; exact h14
       refine ⟨kpN,?_⟩
       refine e_one 5 (by kernel_rfl) (e_op rfl rfl fun _ hK=>wp_buildSlice' (l:=([t_52.1] : List Int)) (cells:=[(iV t_52.1)]) hF hS Tryz.underlying24 inf3 rfl rfl (by kernel_rfl) rfl rfl rfl ⟨rfl,rfl⟩ rfl rfl fun a w q54 s54 hF hS h54 hb=>hK _ _ hb (e_one 6 (by kernel_rfl) ?_))
       have hS : St _ _ _ _ [q8,q54,[⟨b_p_c,[s1.v,(iV t_52.2.at_),(.int .u64 t_52.2.seed.v)],45⟩],q50,[⟨b11,[(iV t_7.1.Level),s8.v,s9.v,(iV t_7.1.Sum)],29⟩],q9,[⟨b5,[(iV 0),nilS.v,nilS.v,(iV 0)],29⟩],[⟨b4,[s2.v],26⟩]]:=hS.sel [4,0,1,2,3,5,6,7] (by decide)
       refine e_opl rfl rfl rfl fun _ hK=>wp_append hF hS h8 Tryz.underlying24 inf3 rfl rfl rfl rfl (h54.vw hS (j:=1) rfl) rfl (by decide) hl_55 rfl fun a w q56 s56 hF hS h56=>hK _ _ (⟨kpN,?_⟩)
       refine e_p (v:=(.pointer (some ⟨b11,1,none⟩))) 7 hF rfl (ex_fieldAddr Tryz.underlying29 rfl sz24 rfl rfl) rfl rfl (by kernel_rfl) (by kernel_rfl) (by kernel_rfl) fun a hF=>e_one 8 (by kernel_rfl) (e_store (vs:=[s56.v]) (cs':=[(iV t_7.1.Level),s56.v,s9.v,(iV t_7.1.Sum)]) 4 0 hF hS rfl rfl sz24 rfl rfl rfl rfl rfl rfl rfl rfl fun a w hF hS=>⟨kpN,?_⟩)
       refine e_end (by kernel_rfl) (n_jn ?_) _
       obtain rfl:=someI hj13
       exact ⟨q56,s56,_,_,rfl,hF.sub ⟨rfl,rfl,trivial⟩,hS.sel [0,5,2,4,6] (by decide),h53,(hk53.trans (hk14.trans hk10)),h56,h9⟩
      ·refine e_op rfl rfl fun _ hK=>wp_buildSlice' (l:=([-1,0,6] : List Int)) (cells:=[(iV (-1)),(iV 0),(iV 6)]) hF hS Tryz.underlying24 inf3 rfl rfl (by kernel_rfl) rfl rfl rfl ⟨rfl,rfl,rfl,rfl⟩ rfl rfl fun a w q50 s50 hF hS h50 hb=>hK _ _ hb (e_all [1,4] (by kernel_rfl) rfl ⟨?_,?_,trivial⟩)
       ·refine e_lx (v:=s8.v) hF hS rfl (ex_load1 2 0 Tryz.underlying24 rfl rfl rfl rfl) rfl rfl fun a hF=>e_one 4 (by kernel_rfl) ?_
        have hS : St _ _ _ _ [[⟨b_p_c,[s1.v,(iV t_13.2.at_),(.int .u64 t_13.2.seed.v)],45⟩],q50,[⟨b11,[(iV t_7.1.Level),s8.v,s9.v,(iV t_7.1.Sum)],29⟩],q8,q9,[⟨b5,[(iV 0),nilS.v,nilS.v,(iV 0)],29⟩],[⟨b4,[s2.v],26⟩]]:=hS.sel [1,0,2,3,4,5,6] (by decide)
        have hS51 : St _ _ _ _ ([[⟨b_p_c,[s1.v,(iV t_13.2.at_),(.int .u64 t_13.2.seed.v)],45⟩]]++[q50,[⟨b11,[(iV t_7.1.Level),s8.v,s9.v,(iV t_7.1.Sum)],29⟩],q8,q9,[⟨b5,[(iV 0),nilS.v,nilS.v,(iV 0)],29⟩],[⟨b4,[s2.v],26⟩]]):=hS
        obtain ⟨m51,hl51,hE51,hz51⟩:=hS51.lendX
        refine e_opl rfl rfl rfl fun _ hK=>wp_callX (vs:=[(.pointer (some ⟨b_p_c,0,none⟩)),s50.v]) hF Tryz.func21 (by kernel_rfl) rfl rfl rfl (c_spec_l1Cur_among t_13.2 ([-1,0,6] : List Int) t_52 ht_52 _ m51 b_p_c s1 (h14.mono hl51) s50 (h50.froz hl51 (hz51 0 _ rfl)) _ hE51) fun a w _ hR hF=>hK _ _ ?_
        obtain ⟨rfl,hR51,hk53⟩:=hR
        have hS : St _ _ _ _ [[⟨b_p_c,[s1.v,(iV t_52.2.at_),(.int .u64 t_52.2.seed.v)],45⟩],q50,[⟨b11,[(iV t_7.1.Level),s8.v,s9.v,(iV t_7.1.Sum)],29⟩],q8,q9,[⟨b5,[(iV 0),nilS.v,nilS.v,(iV 0)],29⟩],[⟨b4,[s2.v],26⟩]]:=hS51.leaveF hR51
        have h53 : Rd m s1 t_52.2.code:=by rw [hk53]; exact h14
        refine ⟨kpN,?_⟩
        refine e_one 5 (by kernel_rfl) (e_op rfl rfl fun _ hK=>wp_buildSlice' (l:=([t_52.1] : List Int)) (cells:=[(iV t_52.1)]) hF hS Tryz.underlying24 inf3 rfl rfl (by kernel_rfl) rfl rfl rfl ⟨rfl,rfl⟩ rfl rfl fun a w q54 s54 hF hS h54 hb=>hK _ _ hb (e_one 6 (by kernel_rfl) ?_))
        have hS : St _ _ _ _ [q8,q54,[⟨b_p_c,[s1.v,(iV t_52.2.at_),(.int .u64 t_52.2.seed.v)],45⟩],q50,[⟨b11,[(iV t_7.1.Level),s8.v,s9.v,(iV t_7.1.Sum)],29⟩],q9,[⟨b5,[(iV 0),nilS.v,nilS.v,(iV 0)],29⟩],[⟨b4,[s2.v],26⟩]]:=hS.sel [4,0,1,2,3,5,6,7] (by decide)
        refine e_opl rfl rfl rfl fun _ hK=>wp_append hF hS h8 Tryz.underlying24 inf3 rfl rfl rfl rfl (h54.vw hS (j:=1) rfl) rfl (by decide) hl_55 rfl fun a w q56 s56 hF hS h56=>hK _ _ (⟨kpN,?_⟩)
        refine e_p (v:=(.pointer (some ⟨b11,1,none⟩))) 7 hF rfl (ex_fieldAddr Tryz.underlying29 rfl sz24 rfl rfl) rfl rfl (by kernel_rfl) (by kernel_rfl) (by kernel_rfl) fun a hF=>e_one 8 (by kernel_rfl) (e_store (vs:=[s56.v]) (cs':=[(iV t_7.1.Level),s56.v,s9.v,(iV t_7.1.Sum)]) 4 0 hF hS rfl rfl sz24 rfl rfl rfl rfl rfl rfl rfl rfl fun a w hF hS=>⟨kpN,?_⟩)
        refine e_end (by kernel_rfl) (n_jn ?_) _
        obtain rfl:=someI hj13
        exact ⟨q56,s56,_,_,rfl,hF.sub ⟨rfl,rfl,trivial⟩,hS.sel [0,5,2,4,6] (by decide),h53,(hk53.trans (hk14.trans hk10)),h56,h9⟩
       ·have hS : St _ _ _ _ [[⟨b_p_c,[s1.v,(iV t_13.2.at_),(.int .u64 t_13.2.seed.v)],45⟩],q50,[⟨b11,[(iV t_7.1.Level),s8.v,s9.v,(iV t_7.1.Sum)],29⟩],q8,q9,[⟨b5,[(iV 0),nilS.v,nilS.v,(iV 0)],29⟩],[⟨b4,[s2.v],26⟩]]:=hS.sel [1,0,2,3,4,5,6] (by decide)
        have hS51 : St _ _ _ _ ([[⟨b_p_c,[s1.v,(iV t_13.2.at_),(.int .u64 t_13.2.seed.v)],45⟩]]++[q50,[⟨b11,[(iV t_7.1.Level),s8.v,s9.v,(iV t_7.1.Sum)],29⟩],q8,q9,[⟨b5,[(iV 0),nilS.v,nilS.v,(iV 0)],29⟩],[⟨b4,[s2.v],26⟩]]):=hS
        obtain ⟨m51,hl51,hE51,hz51⟩:=hS51.lendX
        refine e_opl rfl rfl rfl fun _ hK=>wp_callX (vs:=[(.pointer (some ⟨b_p_c,0,none⟩)),s50.v]) hF Tryz.func21 (by kernel_rfl) rfl rfl rfl (c_spec_l1Cur_among t_13.2 ([-1,0,6] : List Int) t_52 ht_52 _ m51 b_p_c s1 (h14.mono hl51) s50 (h50.froz hl51 (hz51 0 _ rfl)) _ hE51) fun a w _ hR hF=>hK _ _ ?_
        obtain ⟨rfl,hR51,hk53⟩:=hR
        have hS : St _ _ _ _ [[⟨b_p_c,[s1.v,(iV t_52.2.at_),(.int .u64 t_52.2.seed.v)],45⟩],q50,[⟨b11,[(iV t_7.1.Level),s8.v,s9.v,(iV t_7.1.Sum)],29⟩],q8,q9,[⟨b5,[(iV 0),nilS.v,nilS.v,(iV 0)],29⟩],[⟨b4,[s2.v],26⟩]]:=hS51.leaveF hR51
        have h53 : Rd m s1 t_52.2.code:=by rw [hk53]; exact h14
        refine ⟨kpN,?_⟩
        refine e_x (v:=s8.v) 1 hF hS rfl (ex_load1 2 0 Tryz.underlying24 rfl rfl rfl rfl) rfl rfl (by kernel_rfl) (by kernel_rfl) (by kernel_rfl) (by kernel_rfl) fun a hF=>e_one 5 (by kernel_rfl) (e_op rfl rfl fun _ hK=>wp_buildSlice' (l:=([t_52.1] : List Int)) (cells:=[(iV t_52.1)]) hF hS Tryz.underlying24 inf3 rfl rfl (by kernel_rfl) rfl rfl rfl ⟨rfl,rfl⟩ rfl rfl fun a w q54 s54 hF hS h54 hb=>hK _ _ hb (e_one 6 (by kernel_rfl) ?_))
        have hS : St _ _ _ _ [q8,q54,[⟨b_p_c,[s1.v,(iV t_52.2.at_),(.int .u64 t_52.2.seed.v)],45⟩],q50,[⟨b11,[(iV t_7.1.Level),s8.v,s9.v,(iV t_7.1.Sum)],29⟩],q9,[⟨b5,[(iV 0),nilS.v,nilS.v,(iV 0)],29⟩],[⟨b4,[s2.v],26⟩]]:=hS.sel [4,0,1,2,3,5,6,7] (by decide)
        refine e_opl rfl rfl rfl fun _ hK=>wp_append hF hS h8 Tryz.underlying24 inf3 rfl rfl rfl rfl (h54.vw hS (j:=1) rfl) rfl (by decide) hl_55 rfl fun a w q56 s56 hF hS h56=>hK _ _ (⟨kpN,?_⟩)
        refine e_p (v:=(.pointer (some ⟨b11,1,none⟩))) 7 hF rfl (ex_fieldAddr Tryz.underlying29 rfl sz24 rfl rfl) rfl rfl (by kernel_rfl) (by kernel_rfl) (by kernel_rfl) fun a hF=>e_one 8 (by kernel_rfl) (e_store (vs:=[s56.v]) (cs':=[(iV t_7.1.Level),s56.v,s9.v,(iV t_7.1.Sum)]) 4 0 hF hS rfl rfl sz24 rfl rfl rfl rfl rfl rfl rfl rfl fun a w hF hS=>⟨kpN,?_⟩)
        refine e_end (by kernel_rfl) (n_jn ?_) _
        obtain rfl:=someI hj13
        exact ⟨q56,s56,_,_,rfl,hF.sub ⟨rfl,rfl,trivial⟩,hS.sel [0,5,2,4,6] (by decide),h53,(hk53.trans (hk14.trans hk10)),h56,h9⟩
     ·rintro a w ⟨q60,s60,p_c_57,t_59,rfl,hF,hS,h58,h58k,h60,h61⟩
      refine n_jn ?_
      obtain rfl:=someI hj3
      exact ⟨q60,s60,q9,s9,_,_,rfl,hF.sub ⟨rfl,rfl,trivial⟩,hS,h58,h58k,h60,h61⟩
   ·rintro a w ⟨q65,s65,q66,s66,p_c_62,t_64,rfl,hF,hS,h63,h63k,h65,h66⟩
    refine n_jn ?_
    obtain rfl:=someI hj1
    exact ⟨q65,s65,q66,s66,_,_,rfl,hF.sub ⟨rfl,rfl,trivial⟩,hS,h63,h63k,h65,h66⟩
  ·have hj1:=cond_t hc2 hj1
   refine q_cond_t hF rfl hc2 (q_region (q_x (v:=(.pointer (some ⟨b_p_c,0,none⟩))) hF hS (ex_move rfl) rfl rfl fun a hF=>q_do rfl fun _ hK=>wp_buildSlice' (l:=([-1,3,4] : List Int)) (cells:=[(iV (-1)),(iV 3),(iV 4)]) hF hS Tryz.underlying24 inf3 rfl rfl (by kernel_rfl) rfl rfl rfl ⟨rfl,rfl,rfl,rfl⟩ rfl rfl fun a w q67 s67 hF hS h67 _=>hK _ _ ?_))
   have hS : St _ _ _ _ [[⟨b_p_c,[s1.v,(iV t_13.2.at_),(.int .u64 t_13.2.seed.v)],45⟩],q67,[⟨b11,[(iV t_7.1.Level),s8.v,s9.v,(iV t_7.1.Sum)],29⟩],q8,q9,[⟨b5,[(iV 0),nilS.v,nilS.v,(iV 0)],29⟩],[⟨b4,[s2.v],26⟩]]:=hS.sel [1,0,2,3,4,5,6] (by decide)
   have hS68 : St _ _ _ _ ([[⟨b_p_c,[s1.v,(iV t_13.2.at_),(.int .u64 t_13.2.seed.v)],45⟩]]++[q67,[⟨b11,[(iV t_7.1.Level),s8.v,s9.v,(iV t_7.1.Sum)],29⟩],q8,q9,[⟨b5,[(iV 0),nilS.v,nilS.v,(iV 0)],29⟩],[⟨b4,[s2.v],26⟩]]):=hS
   obtain ⟨m68,hl68,hE68,hz68⟩:=hS68.lendX
   obtain ⟨t_69,ht_69,hj1⟩:=bindS hj1
   refine q_do rfl fun _ hK=>wp_callX (vs:=[(.pointer (some ⟨b_p_c,0,none⟩)),s67.v]) hF Tryz.func21 (by kernel_rfl) rfl rfl rfl (c_spec_l1Cur_among t_13.2 ([-1,3,4] : List Int) t_69 ht_69 _ m68 b_p_c s1 (h14.mono hl68) s67 (h67.froz hl68 (hz68 0 _ rfl)) _ hE68) fun a w _ hR hF=>hK _ _ ?_
   obtain ⟨rfl,hR68,hk70⟩:=hR
   have hS : St _ _ _ _ [[⟨b_p_c,[s1.v,(iV t_69.2.at_),(.int .u64 t_69.2.seed.v)],45⟩],q67,[⟨b11,[(iV t_7.1.Level),s8.v,s9.v,(iV t_7.1.Sum)],29⟩],q8,q9,[⟨b5,[(iV 0),nilS.v,nilS.v,(iV 0)],29⟩],[⟨b4,[s2.v],26⟩]]:=hS68.leaveF hR68
   have h70 : Rd m s1 t_69.2.code:=by rw [hk70]; exact h14
   refine q_x (v:=(.pointer (some ⟨b11,0,none⟩))) hF hS (ex_fieldAddr Tryz.underlying29 rfl sz3 rfl rfl) rfl rfl fun a hF=>q_store (vs:=[(iV t_69.1)]) (cs':=[(iV t_69.1),s8.v,s9.v,(iV t_7.1.Sum)]) 2 0 hF hS sz3 rfl rfl rfl rfl rfl rfl rfl rfl fun a w hF hS=>q_end (n_jn ?_)
   obtain rfl:=someI hj1
   exact ⟨q8,s8,q9,s9,_,_,rfl,hF.sub ⟨rfl,rfl,trivial⟩,hS.sel [3,4,0,2,5] (by decide),h70,(hk70.trans (hk14.trans hk10)),h8,h9⟩
 ·rintro a w ⟨q74,s74,q75,s75,p_c_71,t_73,rfl,hF,hS,h72,h72k,h74,h75⟩
  refine n_ib (n_sq ?_)
  refine q_seq (q_region (q_x (v:=(.agg #[(iV t_73.Level),s74.v,s75.v,(iV t_73.Sum)])) hF hS (ex_loadA (vs:=[(iV t_73.Level),s74.v,s75.v,(iV t_73.Sum)]) 3 0 Tryz.underlying29 rfl sz29 rfl rfl rfl rfl) rfl rfl fun a hF=>q_store (vs:=[(iV t_73.Level),s74.v,s75.v,(iV t_73.Sum)]) (cs':=[(iV t_73.Level),s74.v,s75.v,(iV t_73.Sum)]) 4 0 hF hS sz29 rfl rfl rfl rfl rfl rfl rfl rfl fun a w hF hS=>q_end (n_sq (q_ret ?_))))
  obtain rfl:=someI hr
  exact ret_ofX hF hS rfl (.cellA (us:=[(iV t_73.Level),s74.v,s75.v,(iV t_73.Sum)]) 4 0 Tryz.underlying29 rfl sz29 rfl rfl rfl rfl .nil) ⟨q74,q75,s74,s75,rfl,hS.sel [2,0,1] (by decide),h74,h75,h72k⟩

theorem c_spec_sName (p_s : List UInt8) (r : Bool) (hr : spec_sName p_s = some r) (w0 : World) (m : Mem) (hv : Vis m w0) :
  Ret Tryz.prog 78 [(strV p_s)] w0 (fun v _=>v = (.bool r)):=by
 unfold spec_sName at hr
 refine ret_start Tryz.func78 rfl 23 rfl rfl m hv fun a hF hS=>q_seq (q_region (q_x (v:=(.bool false)) hF hS (ex_assign rfl) rfl rfl fun a hF=>q_end (n_sq (q_seq (q_seq (q_region (q_x (v:=(iV 0)) hF hS (ex_assign rfl) rfl rfl fun a hF=>q_end (n_sq (q_block ?_)))))))))
 obtain ⟨o1,hl1,hr⟩:=bindS hr
 refine q_loop (fun (i_1 : Int) a w=>Fr a 23 [(0,(strV p_s)),(3,(iV i_1))]∧St [] w0 w m []) (fun (o : (Unit) ⊕ (Bool)) e a w=>o = .inl ()∧e = .exit 0∧Fr a 23 [(0,(strV p_s))]∧St [] w0 w m []) hl1 ⟨hF.sub ⟨rfl,rfl,trivial⟩,hS⟩ ?_ ?_
 ·clear hF hS
  rintro i_1 a w st ⟨hF,hS⟩ hb1
  unfold spec_sName_l1 at hb1
  refine q_seq (q_seq (q_region (q_x (v:=(iV i_1)) hF hS (ex_move rfl) rfl rfl fun a hF=>q_x (v:=(strV p_s)) hF hS (ex_move rfl) rfl rfl fun a hF=>q_x (v:=(iV (goLen p_s))) hF hS (ex_strLen Tryz.underlying9 rfl) rfl rfl fun a hF=>q_x (v:=(.bool (decide (i_1 < (goLen p_s))))) hF hS (ex_ibin rfl rfl rfl) rfl rfl fun a hF=>q_end (n_sq ?_))))
  rcases bcase (decide (i_1 < (goLen p_s))) with hc2 | hc2
  ·have hb1:=cond_f hc2 hb1
   refine q_cond_f hF rfl hc2 (q_exit (x_sq ?_))
   obtain rfl:=someI hb1
   exact ⟨nofun,.inl ⟨rfl,rfl,hF.sub ⟨rfl,trivial⟩,hS⟩⟩
  ·have hb1:=cond_t hc2 hb1
   refine q_cond_t hF rfl hc2 (q_skipc (n_sq (q_seq (q_block (q_seq ?_)))))
   obtain ⟨t_4,hj3,hb1⟩:=bindS hb1
   refine q_join (fun a w=>Fr a 23 [(0,(strV p_s)),(3,(iV i_1)),(19,(.bool t_4))]∧St [] w0 w m []) ?_ ?_
   ·refine q_region (q_x (v:=(strV p_s)) hF hS (ex_move rfl) rfl rfl fun a hF=>q_x (v:=(iV i_1)) hF hS (ex_move rfl) rfl rfl fun a hF=>?_)
    obtain ⟨t_2,ht_2,hj3⟩:=bindS hj3
    refine q_x (v:=(.int .u8 t_2)) hF hS (ex_strIdx Tryz.underlying9 rfl rfl ht_2) rfl rfl fun a hF=>q_x (v:=(.bool (decide (t_2 < 97)))) hF hS (ex_ibin rfl rfl rfl) rfl rfl fun a hF=>q_x (v:=(.bool (decide (t_2 < 97)))) hF hS (ex_move rfl) rfl rfl fun a hF=>?_
    rcases bcase (decide (t_2 < 97)) with hc4 | hc4
    ·have hj3:=cond_f hc4 hj3
     refine q_xg (v:=(strV p_s)) hF hS (ex_move rfl) (wanted_t hF rfl rfl rfl hc4) rfl fun a hF=>q_xg (v:=(iV i_1)) hF hS (ex_move rfl) (wanted_t hF rfl rfl rfl hc4) rfl fun a hF=>?_
     obtain ⟨t_3,ht_3,hj3⟩:=bindS hj3
     refine q_xg (v:=(.int .u8 t_3)) hF hS (ex_strIdx Tryz.underlying9 rfl rfl ht_3) (wanted_t hF rfl rfl rfl hc4) rfl fun a hF=>q_xg (v:=(.bool (decide (122 < t_3)))) hF hS (ex_ibin rfl rfl rfl) (wanted_t hF rfl rfl rfl hc4) rfl fun a hF=>q_x (v:=(.bool (decide (122 < t_3)))) hF hS (ex_pick_f rfl rfl hc4) rfl rfl fun a hF=>q_end (n_jn ?_)
     obtain rfl:=someI hj3
     exact ⟨hF.sub ⟨rfl,rfl,rfl,trivial⟩,hS⟩
    ·have hj3:=cond_t hc4 hj3
     refine q_skip hF (wanted_f hF rfl rfl rfl hc4 rfl) rfl fun a hF=>q_skip hF (wanted_f hF rfl rfl rfl hc4 rfl) rfl fun a hF=>q_skip hF (wanted_f hF rfl rfl rfl hc4 rfl) rfl fun a hF=>q_skip hF (wanted_f hF rfl rfl rfl hc4 rfl) rfl fun a hF=>q_x (v:=(.bool true)) hF hS (ex_pick_t rfl rfl hc4) rfl rfl fun a hF=>q_end (n_jn ?_)
     obtain rfl:=someI hj3
     exact ⟨hF.sub ⟨rfl,rfl,rfl,trivial⟩,hS⟩
   ·rintro a w ⟨hF,hS⟩
    refine n_sq ?_
    rcases bcase (t_4) with hc5 | hc5
    ·have hb1:=cond_f hc5 hb1
     refine q_cond_f hF rfl hc5 (q_skipc (n_ib (n_sq (q_region (q_x (v:=(iV i_1)) hF hS (ex_move rfl) rfl rfl fun a hF=>q_x (v:=(iV (w64 (i_1 + 1)))) hF hS (ex_ibin rfl rfl rfl) rfl rfl fun a hF=>q_x (v:=(iV (w64 (i_1 + 1)))) hF hS (ex_assign rfl) rfl rfl fun a hF=>q_end ?_)))))
     obtain rfl:=someI hb1
     exact ⟨rfl,hF.sub ⟨rfl,rfl,trivial⟩,hS⟩
    ·have hb1:=cond_t hc5 hb1
     refine q_cond_t hF rfl hc5 (q_seq (q_region (q_x (v:=(.bool false)) hF hS (ex_assign rfl) rfl rfl fun a hF=>q_end (n_sq (q_ret (r_ib (r_sq ?_)))))))
     obtain rfl:=someI hb1
     refine ⟨nofun,.inr fun ho=>?_⟩
     subst ho
     refine r_ib (r_sq ?_)
     obtain rfl:=someI hr
     exact ret_of hF hS rfl (.tmp rfl .nil) rfl
 ·rintro e a w ⟨rfl,rfl,hF,hS⟩
  refine x_ib (n_sq ?_)
  refine q_seq (q_region (q_x (v:=(strV p_s)) hF hS (ex_move rfl) rfl rfl fun a hF=>q_x (v:=(iV (goLen p_s))) hF hS (ex_strLen Tryz.underlying9 rfl) rfl rfl fun a hF=>?_))
  obtain ⟨t_5,ht_5,hr⟩:=bindS hr
  refine q_call (vs:=[(iV (goLen p_s)),(iV 1),(iV 8)]) hF hS Tryz.func38 (by kernel_rfl) rfl rfl rfl (c_spec_l1In (goLen p_s) 1 8 t_5 ht_5 _ m hS.vis) ?_
  rintro a w _ rfl hF hS
  refine q_x (v:=(.bool t_5)) hF hS (ex_assign rfl) rfl rfl fun a hF=>q_end (n_sq (q_ret ?_))
  obtain rfl:=someI hr
  exact ret_of hF hS rfl (.tmp rfl .nil) rfl

theorem c_spec_sFind (p_s : List impl_Variable) (p_name : List UInt8) (r : Int) (hr : spec_sFind p_s p_name = some r) (w0 : World) (m : Mem) (hv : Vis m w0) (s1 : Sl) (h1 : Rd m s1 p_s) :
  Ret Tryz.prog 79 [s1.v,(strV p_name)] w0 (fun v _=>v = (iV r)):=by
 unfold spec_sFind at hr
 refine ret_start Tryz.func79 rfl 20 rfl rfl m hv fun a hF hS=>q_seq (q_region (q_x (v:=(iV 0)) hF hS (ex_assign rfl) rfl rfl fun a hF=>q_end (n_sq (q_seq (q_seq (q_region (q_x (v:=s1.v) hF hS (ex_move rfl) rfl rfl fun a hF=>q_x (v:=(iV (goLen p_s))) hF hS (ex_len Tryz.underlying27 rfl h1.len) rfl rfl fun a hF=>q_x (v:=(iV 0)) hF hS (ex_move rfl) rfl rfl fun a hF=>q_end (n_sq (q_block ?_)))))))))
 obtain ⟨o1,hl1,hr⟩:=bindS hr
 refine q_loop (fun (t_2 : Int) a w=>Fr a 20 [(1,(strV p_name)),(7,s1.v),(8,(iV (goLen p_s))),(9,(iV t_2))]∧St [] w0 w m []) (fun (o : (Unit) ⊕ (Int)) e a w=>o = .inl ()∧e = .exit 0∧Fr a 20 []∧St [] w0 w m []) hl1 ⟨hF.sub ⟨rfl,rfl,rfl,rfl,trivial⟩,hS⟩ ?_ ?_
 ·clear hF hS
  rintro t_2 a w st ⟨hF,hS⟩ hb1
  unfold spec_sFind_l1 at hb1
  refine q_seq (q_region (q_x (v:=(.bool (decide (t_2 < (goLen p_s))))) hF hS (ex_ibin rfl rfl rfl) rfl rfl fun a hF=>q_end (n_sq (q_seq ?_))))
  rcases bcase (decide (t_2 < (goLen p_s))) with hc2 | hc2
  ·have hb1:=cond_f hc2 hb1
   refine q_cond_f hF rfl hc2 (q_exit (x_sq ?_))
   obtain rfl:=someI hb1
   exact ⟨nofun,.inl ⟨rfl,rfl,hF.sub trivial,hS⟩⟩
  ·have hb1:=cond_t hc2 hb1
   refine q_cond_t hF rfl hc2 (q_skipc (n_sq (q_seq (q_block (q_seq (q_region (q_x (v:=(iV t_2)) hF hS (ex_move rfl) rfl rfl fun a hF=>?_)))))))
   obtain ⟨e_3,he_3,hb1⟩:=bindS hb1
   obtain ⟨vs4,at4,d4⟩:=h1.at he_3 2 rfl
   obtain rfl : vs4 = [(strV e_3.Name),(iV e_3.Levels)]:=d4
   refine q_x (v:=(elP s1 (t_2.toNat * 2))) hF hS (ex_indexAddr Tryz.underlying27 sz100 rfl rfl (h1.idx he_3)) rfl rfl fun a hF=>q_x (v:=(.agg #[(strV e_3.Name),(iV e_3.Levels)])) hF hS (ex_loadEA (us:=[(strV e_3.Name),(iV e_3.Levels)]) 0 Tryz.underlying100 rfl sz100 rfl ((at4).at) rfl rfl rfl) rfl rfl fun a hF=>q_alloc (cs:=[(strV ([] : List UInt8)),(iV 0)]) hF hS rfl rfl rfl fun a w b5 hF hS=>q_x (v:=(iV t_2)) hF hS (ex_assign rfl) rfl rfl fun a hF=>q_store (vs:=[(strV e_3.Name),(iV e_3.Levels)]) (cs':=[(strV e_3.Name),(iV e_3.Levels)]) 0 0 hF hS sz100 rfl rfl rfl rfl rfl rfl rfl rfl fun a w hF hS=>q_end (n_sq (q_seq (q_region (q_x (v:=(.pointer (some ⟨b5,0,none⟩))) hF hS (ex_fieldAddr Tryz.underlying100 rfl sz9 rfl rfl) rfl rfl fun a hF=>q_x (v:=(strV e_3.Name)) hF hS (ex_load1 0 0 Tryz.underlying9 rfl rfl rfl rfl) rfl rfl fun a hF=>q_x (v:=(strV p_name)) hF hS (ex_move rfl) rfl rfl fun a hF=>q_x (v:=(.bool (e_3.Name == p_name))) hF hS (ex_strEq rfl rfl) rfl rfl fun a hF=>q_end (n_sq ?_)))))
   rcases bcase (e_3.Name == p_name) with hc3 | hc3
   ·have hb1:=cond_f hc3 hb1
    refine q_cond_f hF rfl hc3 (q_skipc (n_ib (n_sq (q_region (q_x (v:=(iV (w64 (t_2 + 1)))) hF hS (ex_ibin rfl rfl rfl) rfl rfl fun a hF=>q_x (v:=(iV (w64 (t_2 + 1)))) hF hS (ex_move rfl) rfl rfl fun a hF=>q_end ?_)))))
    obtain rfl:=someI hb1
    exact ⟨rfl,hF.sub ⟨rfl,rfl,rfl,rfl,trivial⟩,hS.mask [false]⟩
   ·have hb1:=cond_t hc3 hb1
    refine q_cond_t hF rfl hc3 (q_seq (q_region (q_x (v:=(iV t_2)) hF hS (ex_move rfl) rfl rfl fun a hF=>q_x (v:=(iV t_2)) hF hS (ex_assign rfl) rfl rfl fun a hF=>q_end (n_sq (q_ret (r_ib (r_sq ?_)))))))
    obtain rfl:=someI hb1
    refine ⟨nofun,.inr fun ho=>?_⟩
    subst ho
    refine r_ib (r_sq ?_)
    obtain rfl:=someI hr
    exact ret_of hF hS rfl (.tmp rfl .nil) rfl
 ·rintro e a w ⟨rfl,rfl,hF,hS⟩
  refine x_ib (n_sq ?_)
  refine q_seq (q_region (q_x (v:=(iV (-1))) hF hS (ex_assign rfl) rfl rfl fun a hF=>q_end (n_sq (q_ret ?_))))
  obtain rfl:=someI hr
  exact ret_of hF hS rfl (.tmp rfl .nil) rfl

theorem c_spec_sGood (p_s : List impl_Variable) (r : Bool) (hr : spec_sGood p_s = some r) (w0 : World) (m : Mem) (hv : Vis m w0) (s1 : Sl) (h1 : Rd m s1 p_s) :
  Ret Tryz.prog 47 [s1.v] w0 (fun v _=>v = (.bool r)):=by
 unfold spec_sGood at hr
 refine ret_start Tryz.func47 rfl 36 rfl rfl m hv fun a hF hS=>q_seq (q_region (q_x (v:=(.bool false)) hF hS (ex_assign rfl) rfl rfl fun a hF=>q_end (n_sq (q_seq (q_seq (q_region (q_x (v:=s1.v) hF hS (ex_move rfl) rfl rfl fun a hF=>q_x (v:=(iV (goLen p_s))) hF hS (ex_len Tryz.underlying27 rfl h1.len) rfl rfl fun a hF=>?_)))))))
 obtain ⟨t_2,ht_2,hr⟩:=bindS hr
 refine q_call (vs:=[(iV (goLen p_s)),(iV 1),(iV 6)]) hF hS Tryz.func38 (by kernel_rfl) rfl rfl rfl (c_spec_l1In (goLen p_s) 1 6 t_2 ht_2 _ m hS.vis) ?_
 rintro a w _ rfl hF hS
 refine q_x (v:=(.bool (!t_2))) hF hS (ex_not rfl) rfl rfl fun a hF=>q_end (n_sq ?_)
 rcases bcase (!t_2) with hc1 | hc1
 ·have hr:=cond_f hc1 hr
  refine q_cond_f hF rfl hc1 (q_skipc (n_sq (q_seq (q_seq (q_region (q_x (v:=s1.v) hF hS (ex_move rfl) rfl rfl fun a hF=>q_x (v:=(iV (goLen p_s))) hF hS (ex_len Tryz.underlying27 rfl h1.len) rfl rfl fun a hF=>q_x (v:=(iV 0)) hF hS (ex_move rfl) rfl rfl fun a hF=>q_end (n_sq (q_block ?_))))))))
  obtain ⟨o2,hl2,hr⟩:=bindS hr
  refine q_loop (fun (t_3 : Int) a w=>Fr a 36 [(0,s1.v),(9,s1.v),(10,(iV (goLen p_s))),(11,(iV t_3))]∧St [] w0 w m []) (fun (o : (Unit) ⊕ (Bool)) e a w=>o = .inl ()∧e = .exit 0∧Fr a 36 []∧St [] w0 w m []) hl2 ⟨hF.sub ⟨rfl,rfl,rfl,rfl,trivial⟩,hS⟩ ?_ ?_
  ·clear hF hS
   rintro t_3 a w st ⟨hF,hS⟩ hb2
   unfold spec_sGood_l1 at hb2
   refine q_seq (q_region (q_x (v:=(.bool (decide (t_3 < (goLen p_s))))) hF hS (ex_ibin rfl rfl rfl) rfl rfl fun a hF=>q_end (n_sq (q_seq ?_))))
   rcases bcase (decide (t_3 < (goLen p_s))) with hc3 | hc3
   ·have hb2:=cond_f hc3 hb2
    refine q_cond_f hF rfl hc3 (q_exit (x_sq ?_))
    obtain rfl:=someI hb2
    exact ⟨nofun,.inl ⟨rfl,rfl,hF.sub trivial,hS⟩⟩
   ·have hb2:=cond_t hc3 hb2
    refine q_cond_t hF rfl hc3 (q_skipc (n_sq (q_seq (q_block (q_seq (q_region (q_x (v:=(iV t_3)) hF hS (ex_move rfl) rfl rfl fun a hF=>?_)))))))
    obtain ⟨e_4,he_4,hb2⟩:=bindS hb2
    obtain ⟨vs5,at5,d5⟩:=h1.at he_4 2 rfl
    obtain rfl : vs5 = [(strV e_4.Name),(iV e_4.Levels)]:=d5
    refine q_x (v:=(elP s1 (t_3.toNat * 2))) hF hS (ex_indexAddr Tryz.underlying27 sz100 rfl rfl (h1.idx he_4)) rfl rfl fun a hF=>q_x (v:=(.agg #[(strV e_4.Name),(iV e_4.Levels)])) hF hS (ex_loadEA (us:=[(strV e_4.Name),(iV e_4.Levels)]) 0 Tryz.underlying100 rfl sz100 rfl ((at5).at) rfl rfl rfl) rfl rfl fun a hF=>q_alloc (cs:=[(strV ([] : List UInt8)),(iV 0)]) hF hS rfl rfl rfl fun a w b6 hF hS=>q_x (v:=(iV t_3)) hF hS (ex_assign rfl) rfl rfl fun a hF=>q_store (vs:=[(strV e_4.Name),(iV e_4.Levels)]) (cs':=[(strV e_4.Name),(iV e_4.Levels)]) 0 0 hF hS sz100 rfl rfl rfl rfl rfl rfl rfl rfl fun a w hF hS=>q_end (n_sq (q_seq ?_))
    obtain ⟨t_12,hj4,hb2⟩:=bindS hb2
    refine q_join (fun a w=>Fr a 36 [(0,s1.v),(9,s1.v),(10,(iV (goLen p_s))),(11,(iV t_3)),(34,(.bool t_12))]∧St [] w0 w m []) ?_ ?_
    ·refine e_region ⟨[],[]⟩ mixed fun w' hw'=>?_
     have hS:=hS.below hw'
     refine e_p (v:=(.pointer (some ⟨b6,0,none⟩))) 0 hF rfl (ex_fieldAddr Tryz.underlying100 rfl sz9 rfl rfl) rfl rfl (by kernel_rfl) (by kernel_rfl) (by kernel_rfl) fun a hF=>e_x (v:=(strV e_4.Name)) 1 hF hS rfl (ex_load1 0 0 Tryz.underlying9 rfl rfl rfl rfl) rfl rfl (by kernel_rfl) (by kernel_rfl) (by kernel_rfl) (by kernel_rfl) fun a hF=>e_one 2 (by kernel_rfl) ?_
     obtain ⟨t_7,ht_7,hj4⟩:=bindS hj4
     refine e_call (vs:=[(strV e_4.Name)]) hF hS rfl Tryz.func78 (by kernel_rfl) rfl rfl rfl (c_spec_sName e_4.Name t_7 ht_7 _ m hS.vis) ?_
     rintro a w _ rfl hF hS
     refine e_p (v:=(.bool (!t_7))) 3 hF rfl (ex_not rfl) rfl rfl (by kernel_rfl) (by kernel_rfl) (by kernel_rfl) fun a hF=>e_p (v:=(.bool (!t_7))) 4 hF rfl (ex_move rfl) rfl rfl (by kernel_rfl) (by kernel_rfl) (by kernel_rfl) fun a hF=>?_
     rcases bcase (!t_7) with hc5 | hc5
     ·have hj4:=cond_f hc5 hj4
      refine e_pg (v:=(.pointer (some ⟨b6,1,none⟩))) 5 hF rfl (ex_fieldAddr Tryz.underlying100 rfl sz3 rfl rfl) (wanted_t hF rfl rfl rfl hc5) rfl (by kernel_rfl) (by kernel_rfl) (by kernel_rfl) fun a hF=>e_xg (v:=(iV e_4.Levels)) 6 hF hS rfl (ex_load1 0 0 Tryz.underlying3 rfl rfl rfl rfl) (wanted_t hF rfl rfl rfl hc5) rfl (by kernel_rfl) (by kernel_rfl) (by kernel_rfl) (by kernel_rfl) fun a hF=>e_one 7 (by kernel_rfl) ?_
      obtain ⟨t_8,ht_8,hj4⟩:=bindS hj4
      refine e_callg (vs:=[(iV e_4.Levels),(iV 2),(iV 8)]) hF hS rfl (wanted_t hF rfl rfl rfl hc5) Tryz.func38 (by kernel_rfl) rfl rfl rfl (c_spec_l1In e_4.Levels 2 8 t_8 ht_8 _ m hS.vis) ?_
      rintro a w _ rfl hF hS
      refine e_pg (v:=(.bool (!t_8))) 8 hF rfl (ex_not rfl) (wanted_t hF rfl rfl rfl hc5) rfl (by kernel_rfl) (by kernel_rfl) (by kernel_rfl) fun a hF=>e_p (v:=(.bool (!t_8))) 9 hF rfl (ex_pick_f rfl rfl hc5) rfl rfl (by kernel_rfl) (by kernel_rfl) (by kernel_rfl) fun a hF=>e_p (v:=(.bool (!t_8))) 10 hF rfl (ex_move rfl) rfl rfl (by kernel_rfl) (by kernel_rfl) (by kernel_rfl) fun a hF=>?_
      rcases bcase (!t_8) with hc6 | hc6
      ·have hj4:=cond_f hc6 hj4
       refine e_pg (v:=s1.v) 11 hF rfl (ex_move rfl) (wanted_t hF rfl rfl rfl hc6) rfl (by kernel_rfl) (by kernel_rfl) (by kernel_rfl) fun a hF=>e_pg (v:=(iV t_3)) 12 hF rfl (ex_move rfl) (wanted_t hF rfl rfl rfl hc6) rfl (by kernel_rfl) (by kernel_rfl) (by kernel_rfl) fun a hF=>?_
       obtain ⟨l_9,hl_9,hj4⟩:=bindS hj4
       have h10 : Rd m (subS s1 2 (0 : Int).toNat t_3.toNat s1.cap) l_9:=h1.sub' hl_9 2 rfl
       refine e_pg (v:=(subS s1 2 (0 : Int).toNat t_3.toNat s1.cap).v) 13 hF rfl (ex_slice Tryz.underlying27 sz100 rfl rfl rfl (.inl ⟨rfl,rfl⟩) (.inr ⟨_,rfl⟩) (h1.subok hl_9)) (wanted_t hF rfl rfl rfl hc6) rfl (by kernel_rfl) (by kernel_rfl) (by kernel_rfl) fun a hF=>e_pg (v:=(.pointer (some ⟨b6,0,none⟩))) 14 hF rfl (ex_fieldAddr Tryz.underlying100 rfl sz9 rfl rfl) (wanted_t hF rfl rfl rfl hc6) rfl (by kernel_rfl) (by kernel_rfl) (by kernel_rfl) fun a hF=>e_xg (v:=(strV e_4.Name)) 15 hF hS rfl (ex_load1 0 0 Tryz.underlying9 rfl rfl rfl rfl) (wanted_t hF rfl rfl rfl hc6) rfl (by kernel_rfl) (by kernel_rfl) (by kernel_rfl) (by kernel_rfl) fun a hF=>e_one 16 (by kernel_rfl) ?_
       obtain ⟨t_11,ht_11,hj4⟩:=bindS hj4
       refine e_callg (vs:=[(subS s1 2 (0 : Int).toNat t_3.toNat s1.cap).v,(strV e_4.Name)]) hF hS rfl (wanted_t hF rfl rfl rfl hc6) Tryz.func79 (by kernel_rfl) rfl rfl rfl (c_spec_sFind l_9 e_4.Name t_11 ht_11 _ m hS.vis (subS s1 2 (0 : Int).toNat t_3.toNat s1.cap) h10) ?_
       rintro a w _ rfl hF hS
       refine e_pg (v:=(.bool (decide (0 ≤ t_11)))) 17 hF rfl (ex_ibin rfl rfl rfl) (wanted_t hF rfl rfl rfl hc6) rfl (by kernel_rfl) (by kernel_rfl) (by kernel_rfl) fun a hF=>e_p (v:=(.bool (decide (0 ≤ t_11)))) 18 hF rfl (ex_pick_f rfl rfl hc6) rfl rfl (by kernel_rfl) (by kernel_rfl) (by kernel_rfl) fun a hF=>e_end (by kernel_rfl) (n_jn ?_) _
       obtain rfl:=someI hj4
       exact ⟨hF.sub ⟨rfl,rfl,rfl,rfl,rfl,trivial⟩,hS.mask [false]⟩
      ·have hj4:=cond_t hc6 hj4
       refine e_skipP 11 hF rfl (wanted_f hF rfl rfl rfl hc6 rfl) rfl (by kernel_rfl) (by kernel_rfl) (by kernel_rfl) fun a hF=>e_skipP 12 hF rfl (wanted_f hF rfl rfl rfl hc6 rfl) rfl (by kernel_rfl) (by kernel_rfl) (by kernel_rfl) fun a hF=>e_skipP 13 hF rfl (wanted_f hF rfl rfl rfl hc6 rfl) rfl (by kernel_rfl) (by kernel_rfl) (by kernel_rfl) fun a hF=>e_skipP 14 hF rfl (wanted_f hF rfl rfl rfl hc6 rfl) rfl (by kernel_rfl) (by kernel_rfl) (by kernel_rfl) fun a hF=>e_skipP 15 hF rfl (wanted_f hF rfl rfl rfl hc6 rfl) rfl (by kernel_rfl) (by kernel_rfl) (by kernel_rfl) fun a hF=>e_skipP 16 hF rfl (wanted_f hF rfl rfl rfl hc6 rfl) rfl (by kernel_rfl) (by kernel_rfl) (by kernel_rfl) fun a hF=>e_skipP 17 hF rfl (wanted_f hF rfl rfl rfl hc6 rfl) rfl (by kernel_rfl) (by kernel_rfl) (by kernel_rfl) fun a hF=>e_p (v:=(.bool true)) 18 hF rfl (ex_pick_t rfl rfl hc6) rfl rfl (by kernel_rfl) (by kernel_rfl) (by kernel_rfl) fun a hF=>e_end (by kernel_rfl) (n_jn ?_) _
       obtain rfl:=someI hj4
       exact ⟨hF.sub ⟨rfl,rfl,rfl,rfl,rfl,trivial⟩,hS.mask [false]⟩
     ·have hj4:=cond_t hc5 hj4
      refine e_skipP 5 hF rfl (wanted_f hF rfl rfl rfl hc5 rfl) rfl (by kernel_rfl) (by kernel_rfl) (by kernel_rfl) fun a hF=>e_skipP 6 hF rfl (wanted_f hF rfl rfl rfl hc5 rfl) rfl (by kernel_rfl) (by kernel_rfl) (by kernel_rfl) fun a hF=>e_skipP 7 hF rfl (wanted_f hF rfl rfl rfl hc5 rfl) rfl (by kernel_rfl) (by kernel_rfl) (by kernel_rfl) fun a hF=>e_skipP 8 hF rfl (wanted_f hF rfl rfl rfl hc5 rfl) rfl (by kernel_rfl) (by kernel_rfl) (by kernel_rfl) fun a hF=>e_p (v:=(.bool true)) 9 hF rfl (ex_pick_t rfl rfl hc5) rfl rfl (by kernel_rfl) (by kernel_rfl) (by kernel_rfl) fun a hF=>e_p (v:=(.bool true)) 10 hF rfl (ex_move rfl) rfl rfl (by kernel_rfl) (by kernel_rfl) (by kernel_rfl) fun a hF=>e_skipP 11 hF rfl (wanted_f hF rfl rfl rfl rfl rfl) rfl (by kernel_rfl) (by kernel_rfl) (by kernel_rfl) fun a hF=>e_skipP 12 hF rfl (wanted_f hF rfl rfl rfl rfl rfl) rfl (by kernel_rfl) (by kernel_rfl) (by kernel_rfl) fun a hF=>e_skipP 13 hF rfl (wanted_f hF rfl rfl rfl rfl rfl) rfl (by kernel_rfl) (by kernel_rfl) (by kernel_rfl) fun a hF=>e_skipP 14 hF rfl (wanted_f hF rfl rfl rfl rfl rfl) rfl (by kernel_rfl) (by kernel_rfl) (by kernel_rfl) fun a hF=>e_skipP 15 hF rfl (wanted_f hF rfl rfl rfl rfl rfl) rfl (by kernel_rfl) (by kernel_rfl) (by kernel_rfl) fun a hF=>e_skipP 16 hF rfl (wanted_f hF rfl rfl rfl rfl rfl) rfl (by kernel_rfl) (by kernel_rfl) (by kernel_rfl) fun a hF=>e_skipP 17 hF rfl (wanted_f hF rfl rfl rfl rfl rfl) rfl (by kernel_rfl) (by kernel_rfl) (by kernel_rfl) fun a hF=>e_p (v:=(.bool true)) 18 hF rfl (ex_pick_t rfl rfl rfl) rfl rfl (by kernel_rfl) (by kernel_rfl) (by kernel_rfl) fun a hF=>e_end (by kernel_rfl) (n_jn ?_) _
      obtain rfl:=someI hj4
      exact ⟨hF.sub ⟨rfl,rfl,rfl,rfl,rfl,trivial⟩,hS.mask [false]⟩
    ·rintro a w ⟨hF,hS⟩
     refine n_sq ?_
     rcases bcase (t_12) with hc7 | hc7
     ·have hb2:=cond_f hc7 hb2
      refine q_cond_f hF rfl hc7 (q_skipc (n_ib (n_sq (q_region (q_x (v:=(iV (w64 (t_3 + 1)))) hF hS (ex_ibin rfl rfl rfl) rfl rfl fun a hF=>q_x (v:=(iV (w64 (t_3 + 1)))) hF hS (ex_move rfl) rfl rfl fun a hF=>q_end ?_)))))
      obtain rfl:=someI hb2
      exact ⟨rfl,hF.sub ⟨rfl,rfl,rfl,rfl,trivial⟩,hS⟩
     ·have hb2:=cond_t hc7 hb2
      refine q_cond_t hF rfl hc7 (q_seq (q_region (q_x (v:=(.bool false)) hF hS (ex_assign rfl) rfl rfl fun a hF=>q_end (n_sq (q_ret (r_ib (r_sq ?_)))))))
      obtain rfl:=someI hb2
      refine ⟨nofun,.inr fun ho=>?_⟩
      subst ho
      refine r_ib (r_sq ?_)
      obtain rfl:=someI hr
      exact ret_of hF hS rfl (.tmp rfl .nil) rfl
  ·rintro e a w ⟨rfl,rfl,hF,hS⟩
   refine x_ib (n_sq ?_)
   refine q_seq (q_region (q_x (v:=(.bool true)) hF hS (ex_assign rfl) rfl rfl fun a hF=>q_end (n_sq (q_ret ?_))))
   obtain rfl:=someI hr
   exact ret_of hF hS rfl (.tmp rfl .nil) rfl
 ·have hr:=cond_t hc1 hr
  refine q_cond_t hF rfl hc1 (q_seq (q_region (q_x (v:=(.bool false)) hF hS (ex_assign rfl) rfl rfl fun a hF=>q_end (n_sq (q_ret (r_sq ?_))))))
  obtain rfl:=someI hr
  exact ret_of hF hS rfl (.tmp rfl .nil) rfl

theorem c_spec_l1Rising (p_l : List Int) (p_lo : Int) (p_hi : Int) (r : Bool) (hr : spec_l1Rising p_l p_lo p_hi = some r) (w0 : World) (m : Mem) (hv : Vis m w0) (s1 : Sl) (h1 : Rd m s1 p_l) :
  Ret Tryz.prog 49 [s1.v,(iV p_lo),(iV p_hi)] w0 (fun v _=>v = (.bool r)):=by
 unfold spec_l1Rising at hr
 refine ret_start Tryz.func49 rfl 35 rfl rfl m hv fun a hF hS=>q_seq (q_region (q_x (v:=(.bool false)) hF hS (ex_assign rfl) rfl rfl fun a hF=>q_end (n_sq (q_seq (q_seq (q_region (q_x (v:=s1.v) hF hS (ex_move rfl) rfl rfl fun a hF=>q_x (v:=(iV (goLen p_l))) hF hS (ex_len Tryz.underlying24 rfl h1.len) rfl rfl fun a hF=>q_x (v:=(iV 0)) hF hS (ex_move rfl) rfl rfl fun a hF=>q_end (n_sq (q_block ?_)))))))))
 obtain ⟨o1,hl1,hr⟩:=bindS hr
 refine q_loop (fun (t_2 : Int) a w=>Fr a 35 [(0,s1.v),(1,(iV p_lo)),(2,(iV p_hi)),(9,s1.v),(10,(iV (goLen p_l))),(11,(iV t_2))]∧St [] w0 w m []) (fun (o : (Unit) ⊕ (Bool)) e a w=>o = .inl ()∧e = .exit 0∧Fr a 35 []∧St [] w0 w m []) hl1 ⟨hF.sub ⟨rfl,rfl,rfl,rfl,rfl,rfl,trivial⟩,hS⟩ ?_ ?_
 ·clear hF hS
  rintro t_2 a w st ⟨hF,hS⟩ hb1
  unfold spec_l1Rising_l1 at hb1
  refine q_seq (q_region (q_x (v:=(.bool (decide (t_2 < (goLen p_l))))) hF hS (ex_ibin rfl rfl rfl) rfl rfl fun a hF=>q_end (n_sq (q_seq ?_))))
  rcases bcase (decide (t_2 < (goLen p_l))) with hc2 | hc2
  ·have hb1:=cond_f hc2 hb1
   refine q_cond_f hF rfl hc2 (q_exit (x_sq ?_))
   obtain rfl:=someI hb1
   exact ⟨nofun,.inl ⟨rfl,rfl,hF.sub trivial,hS⟩⟩
  ·have hb1:=cond_t hc2 hb1
   refine q_cond_t hF rfl hc2 (q_skipc (n_sq (q_seq (q_block (q_seq (q_region (q_x (v:=(iV t_2)) hF hS (ex_move rfl) rfl rfl fun a hF=>?_)))))))
   obtain ⟨e_3,he_3,hb1⟩:=bindS hb1
   obtain ⟨vs4,at4,d4⟩:=h1.at he_3 1 rfl
   obtain rfl : vs4 = [(iV e_3)]:=d4
   refine q_x (v:=(elP s1 (t_2.toNat * 1))) hF hS (ex_indexAddr Tryz.underlying24 sz3 rfl rfl (h1.idx he_3)) rfl rfl fun a hF=>q_x (v:=(iV e_3)) hF hS (ex_loadE1 0 Tryz.underlying3 rfl rfl ((at4).at) rfl rfl) rfl rfl fun a hF=>q_x (v:=(iV t_2)) hF hS (ex_assign rfl) rfl rfl fun a hF=>q_x (v:=(iV e_3)) hF hS (ex_assign rfl) rfl rfl fun a hF=>q_end (n_sq (q_seq ?_))
   obtain ⟨t_8,hj3,hb1⟩:=bindS hb1
   refine q_join (fun a w=>Fr a 35 [(0,s1.v),(1,(iV p_lo)),(2,(iV p_hi)),(9,s1.v),(10,(iV (goLen p_l))),(11,(iV t_2)),(33,(.bool t_8))]∧St [] w0 w m []) ?_ ?_
   ·refine q_region (q_x (v:=(iV e_3)) hF hS (ex_move rfl) rfl rfl fun a hF=>q_x (v:=(iV p_lo)) hF hS (ex_move rfl) rfl rfl fun a hF=>q_x (v:=(iV p_hi)) hF hS (ex_move rfl) rfl rfl fun a hF=>?_)
    obtain ⟨t_5,ht_5,hj3⟩:=bindS hj3
    refine q_call (vs:=[(iV e_3),(iV p_lo),(iV p_hi)]) hF hS Tryz.func38 (by kernel_rfl) rfl rfl rfl (c_spec_l1In e_3 p_lo p_hi t_5 ht_5 _ m hS.vis) ?_
    rintro a w _ rfl hF hS
    refine q_x (v:=(.bool (!t_5))) hF hS (ex_not rfl) rfl rfl fun a hF=>q_x (v:=(.bool (!t_5))) hF hS (ex_move rfl) rfl rfl fun a hF=>?_
    rcases bcase (!t_5) with hc4 | hc4
    ·have hj3:=cond_f hc4 hj3
     refine q_xg (v:=(iV t_2)) hF hS (ex_move rfl) (wanted_t hF rfl rfl rfl hc4) rfl fun a hF=>q_xg (v:=(.bool (decide (0 < t_2)))) hF hS (ex_ibin rfl rfl rfl) (wanted_t hF rfl rfl rfl hc4) rfl fun a hF=>q_xg (v:=(.bool (decide (0 < t_2)))) hF hS (ex_move rfl) (wanted_t hF rfl rfl rfl hc4) rfl fun a hF=>?_
     rcases bcase (decide (0 < t_2)) with hc5 | hc5
     ·have hj3:=cond_f hc5 hj3
      refine q_skip hF (wanted_f hF rfl rfl rfl hc5 rfl) rfl fun a hF=>q_skip hF (wanted_f hF rfl rfl rfl hc5 rfl) rfl fun a hF=>q_skip hF (wanted_f hF rfl rfl rfl hc5 rfl) rfl fun a hF=>q_skip hF (wanted_f hF rfl rfl rfl hc5 rfl) rfl fun a hF=>q_skip hF (wanted_f hF rfl rfl rfl hc5 rfl) rfl fun a hF=>q_skip hF (wanted_f hF rfl rfl rfl hc5 rfl) rfl fun a hF=>q_skip hF (wanted_f hF rfl rfl rfl hc5 rfl) rfl fun a hF=>q_xg (v:=(.bool false)) hF hS (ex_pick_f rfl rfl hc5) (wanted_t hF rfl rfl rfl hc4) rfl fun a hF=>q_x (v:=(.bool false)) hF hS (ex_pick_f rfl rfl hc4) rfl rfl fun a hF=>q_end (n_jn ?_)
      obtain rfl:=someI hj3
      exact ⟨hF.sub ⟨rfl,rfl,rfl,rfl,rfl,rfl,rfl,trivial⟩,hS⟩
     ·have hj3:=cond_t hc5 hj3
      refine q_xg (v:=s1.v) hF hS (ex_move rfl) (wanted_t hF rfl rfl rfl hc5) rfl fun a hF=>q_xg (v:=(iV t_2)) hF hS (ex_move rfl) (wanted_t hF rfl rfl rfl hc5) rfl fun a hF=>q_xg (v:=(iV (w64 (t_2 - 1)))) hF hS (ex_ibin rfl rfl rfl) (wanted_t hF rfl rfl rfl hc5) rfl fun a hF=>?_
      obtain ⟨e_6,he_6,hj3⟩:=bindS hj3
      obtain ⟨vs7,at7,d7⟩:=h1.at he_6 1 rfl
      obtain rfl : vs7 = [(iV e_6)]:=d7
      refine q_xg (v:=(elP s1 ((w64 (t_2 - 1)).toNat * 1))) hF hS (ex_indexAddr Tryz.underlying24 sz3 rfl rfl (h1.idx he_6)) (wanted_t hF rfl rfl rfl hc5) rfl fun a hF=>q_xg (v:=(iV e_6)) hF hS (ex_loadE1 0 Tryz.underlying3 rfl rfl ((at7).at) rfl rfl) (wanted_t hF rfl rfl rfl hc5) rfl fun a hF=>q_xg (v:=(iV e_3)) hF hS (ex_move rfl) (wanted_t hF rfl rfl rfl hc5) rfl fun a hF=>q_xg (v:=(.bool (decide (e_3 ≤ e_6)))) hF hS (ex_ibin rfl rfl rfl) (wanted_t hF rfl rfl rfl hc5) rfl fun a hF=>q_xg (v:=(.bool (decide (e_3 ≤ e_6)))) hF hS (ex_pick_t rfl rfl hc5) (wanted_t hF rfl rfl rfl hc4) rfl fun a hF=>q_x (v:=(.bool (decide (e_3 ≤ e_6)))) hF hS (ex_pick_f rfl rfl hc4) rfl rfl fun a hF=>q_end (n_jn ?_)
      obtain rfl:=someI hj3
      exact ⟨hF.sub ⟨rfl,rfl,rfl,rfl,rfl,rfl,rfl,trivial⟩,hS⟩
    ·have hj3:=cond_t hc4 hj3
     refine q_skip hF (wanted_f hF rfl rfl rfl hc4 rfl) rfl fun a hF=>q_skip hF (wanted_f hF rfl rfl rfl hc4 rfl) rfl fun a hF=>q_skip hF (wanted_f hF rfl rfl rfl hc4 rfl) rfl fun a hF=>q_skip hF (wanted_u hF rfl rfl rfl) rfl fun a hF=>q_skip hF (wanted_u hF rfl rfl rfl) rfl fun a hF=>q_skip hF (wanted_u hF rfl rfl rfl) rfl fun a hF=>q_skip hF (wanted_u hF rfl rfl rfl) rfl fun a hF=>q_skip hF (wanted_u hF rfl rfl rfl) rfl fun a hF=>q_skip hF (wanted_u hF rfl rfl rfl) rfl fun a hF=>q_skip hF (wanted_u hF rfl rfl rfl) rfl fun a hF=>q_skip hF (wanted_f hF rfl rfl rfl hc4 rfl) rfl fun a hF=>q_x (v:=(.bool true)) hF hS (ex_pick_t rfl rfl hc4) rfl rfl fun a hF=>q_end (n_jn ?_)
     obtain rfl:=someI hj3
     exact ⟨hF.sub ⟨rfl,rfl,rfl,rfl,rfl,rfl,rfl,trivial⟩,hS⟩
   ·rintro a w ⟨hF,hS⟩
    refine n_sq ?_
    rcases bcase (t_8) with hc6 | hc6
    ·have hb1:=cond_f hc6 hb1
     refine q_cond_f hF rfl hc6 (q_skipc (n_ib (n_sq (q_region (q_x (v:=(iV (w64 (t_2 + 1)))) hF hS (ex_ibin rfl rfl rfl) rfl rfl fun a hF=>q_x (v:=(iV (w64 (t_2 + 1)))) hF hS (ex_move rfl) rfl rfl fun a hF=>q_end ?_)))))
     obtain rfl:=someI hb1
     exact ⟨rfl,hF.sub ⟨rfl,rfl,rfl,rfl,rfl,rfl,trivial⟩,hS⟩
    ·have hb1:=cond_t hc6 hb1
     refine q_cond_t hF rfl hc6 (q_seq (q_region (q_x (v:=(.bool false)) hF hS (ex_assign rfl) rfl rfl fun a hF=>q_end (n_sq (q_ret (r_ib (r_sq ?_)))))))
     obtain rfl:=someI hb1
     refine ⟨nofun,.inr fun ho=>?_⟩
     subst ho
     refine r_ib (r_sq ?_)
     obtain rfl:=someI hr
     exact ret_of hF hS rfl (.tmp rfl .nil) rfl
 ·rintro e a w ⟨rfl,rfl,hF,hS⟩
  refine x_ib (n_sq ?_)
  refine q_seq (q_region (q_x (v:=(.bool true)) hF hS (ex_assign rfl) rfl rfl fun a hF=>q_end (n_sq (q_ret ?_))))
  obtain rfl:=someI hr
  exact ret_of hF hS rfl (.tmp rfl .nil) rfl

theorem c_spec_uWhere (p_s : List impl_Variable) (p_where : List Int) (r : Bool) (hr : spec_uWhere p_s p_where = some r) (w0 : World) (m : Mem) (hv : Vis m w0) (s1 : Sl) (h1 : Rd m s1 p_s) (s2 : Sl) (h2 : Rd m s2 p_where) :
  Ret Tryz.prog 50 [s1.v,s2.v] w0 (fun v _=>v = (.bool r)):=by
 unfold spec_uWhere at hr
 refine ret_start Tryz.func50 rfl 31 rfl rfl m hv fun a hF hS=>q_seq (q_region (q_x (v:=(.bool false)) hF hS (ex_assign rfl) rfl rfl fun a hF=>q_end (n_sq (q_seq (q_seq (q_region (q_x (v:=s2.v) hF hS (ex_move rfl) rfl rfl fun a hF=>q_x (v:=(iV (goLen p_where))) hF hS (ex_len Tryz.underlying24 rfl h2.len) rfl rfl fun a hF=>q_x (v:=s1.v) hF hS (ex_move rfl) rfl rfl fun a hF=>q_x (v:=(iV (goLen p_s))) hF hS (ex_len Tryz.underlying27 rfl h1.len) rfl rfl fun a hF=>q_x (v:=(.bool ((goLen p_where) != (goLen p_s)))) hF hS (ex_ibin rfl rfl rfl) rfl rfl fun a hF=>q_end (n_sq ?_))))))))
 rcases bcase ((goLen p_where) != (goLen p_s)) with hc1 | hc1
 ·have hr:=cond_f hc1 hr
  refine q_cond_f hF rfl hc1 (q_skipc (n_sq (q_seq (q_seq (q_region (q_x (v:=s1.v) hF hS (ex_move rfl) rfl rfl fun a hF=>q_x (v:=(iV (goLen p_s))) hF hS (ex_len Tryz.underlying27 rfl h1.len) rfl rfl fun a hF=>q_x (v:=(iV 0)) hF hS (ex_move rfl) rfl rfl fun a hF=>q_end (n_sq (q_block ?_))))))))
  obtain ⟨o2,hl2,hr⟩:=bindS hr
  refine q_loop (fun (t_3 : Int) a w=>Fr a 31 [(1,s2.v),(12,s1.v),(13,(iV (goLen p_s))),(14,(iV t_3))]∧St [] w0 w m []) (fun (o : (Unit) ⊕ (Bool)) e a w=>o = .inl ()∧e = .exit 0∧Fr a 31 []∧St [] w0 w m []) hl2 ⟨hF.sub ⟨rfl,rfl,rfl,rfl,trivial⟩,hS⟩ ?_ ?_
  ·clear hF hS
   rintro t_3 a w st ⟨hF,hS⟩ hb2
   unfold spec_uWhere_l1 at hb2
   refine q_seq (q_region (q_x (v:=(.bool (decide (t_3 < (goLen p_s))))) hF hS (ex_ibin rfl rfl rfl) rfl rfl fun a hF=>q_end (n_sq (q_seq ?_))))
   rcases bcase (decide (t_3 < (goLen p_s))) with hc3 | hc3
   ·have hb2:=cond_f hc3 hb2
    refine q_cond_f hF rfl hc3 (q_exit (x_sq ?_))
    obtain rfl:=someI hb2
    exact ⟨nofun,.inl ⟨rfl,rfl,hF.sub trivial,hS⟩⟩
   ·have hb2:=cond_t hc3 hb2
    refine q_cond_t hF rfl hc3 (q_skipc (n_sq (q_seq (q_block (q_seq (q_region (q_x (v:=(iV t_3)) hF hS (ex_move rfl) rfl rfl fun a hF=>?_)))))))
    obtain ⟨e_4,he_4,hb2⟩:=bindS hb2
    obtain ⟨vs5,at5,d5⟩:=h1.at he_4 2 rfl
    obtain rfl : vs5 = [(strV e_4.Name),(iV e_4.Levels)]:=d5
    refine q_x (v:=(elP s1 (t_3.toNat * 2))) hF hS (ex_indexAddr Tryz.underlying27 sz100 rfl rfl (h1.idx he_4)) rfl rfl fun a hF=>q_x (v:=(.agg #[(strV e_4.Name),(iV e_4.Levels)])) hF hS (ex_loadEA (us:=[(strV e_4.Name),(iV e_4.Levels)]) 0 Tryz.underlying100 rfl sz100 rfl ((at5).at) rfl rfl rfl) rfl rfl fun a hF=>q_alloc (cs:=[(strV ([] : List UInt8)),(iV 0)]) hF hS rfl rfl rfl fun a w b6 hF hS=>q_x (v:=(iV t_3)) hF hS (ex_assign rfl) rfl rfl fun a hF=>q_store (vs:=[(strV e_4.Name),(iV e_4.Levels)]) (cs':=[(strV e_4.Name),(iV e_4.Levels)]) 0 0 hF hS sz100 rfl rfl rfl rfl rfl rfl rfl rfl fun a w hF hS=>q_end (n_sq (q_seq (e_region ⟨[],[]⟩ mixed fun w' hw'=>?_)))
    have hS:=hS.below hw'
    refine e_p (v:=s2.v) 0 hF rfl (ex_move rfl) rfl rfl (by kernel_rfl) (by kernel_rfl) (by kernel_rfl) fun a hF=>e_p (v:=(iV t_3)) 1 hF rfl (ex_move rfl) rfl rfl (by kernel_rfl) (by kernel_rfl) (by kernel_rfl) fun a hF=>?_
    obtain ⟨e_7,he_7,hb2⟩:=bindS hb2
    obtain ⟨vs8,at8,d8⟩:=h2.at he_7 1 rfl
    obtain rfl : vs8 = [(iV e_7)]:=d8
    refine e_p (v:=(elP s2 (t_3.toNat * 1))) 2 hF rfl (ex_indexAddr Tryz.underlying24 sz3 rfl rfl (h2.idx he_7)) rfl rfl (by kernel_rfl) (by kernel_rfl) (by kernel_rfl) fun a hF=>e_x (v:=(iV e_7)) 3 hF hS rfl (ex_loadE1 0 Tryz.underlying3 rfl rfl ((at8).at) rfl rfl) rfl rfl (by kernel_rfl) (by kernel_rfl) (by kernel_rfl) (by kernel_rfl) fun a hF=>e_p (v:=(.pointer (some ⟨b6,1,none⟩))) 4 hF rfl (ex_fieldAddr Tryz.underlying100 rfl sz3 rfl rfl) rfl rfl (by kernel_rfl) (by kernel_rfl) (by kernel_rfl) fun a hF=>e_x (v:=(iV e_4.Levels)) 5 hF hS rfl (ex_load1 0 0 Tryz.underlying3 rfl rfl rfl rfl) rfl rfl (by kernel_rfl) (by kernel_rfl) (by kernel_rfl) (by kernel_rfl) fun a hF=>e_p (v:=(.int .u64 (IntKind.wrap .u64 e_4.Levels))) 6 hF rfl (ex_conv Tryz.underlying3 Tryz.underlying110 rfl) rfl rfl (by kernel_rfl) (by kernel_rfl) (by kernel_rfl) fun a hF=>?_
    obtain ⟨t_9,ht_9,hb2⟩:=bindS hb2
    refine e_p (v:=(iV t_9)) 7 hF rfl (ex_shl rfl rfl ht_9) rfl rfl (by kernel_rfl) (by kernel_rfl) (by kernel_rfl) fun a hF=>e_p (v:=(iV (w64 (t_9 - 1)))) 8 hF rfl (ex_ibin rfl rfl rfl) rfl rfl (by kernel_rfl) (by kernel_rfl) (by kernel_rfl) fun a hF=>e_one 9 (by kernel_rfl) ?_
    obtain ⟨t_10,ht_10,hb2⟩:=bindS hb2
    refine e_call (vs:=[(iV e_7),(iV 0),(iV (w64 (t_9 - 1)))]) hF hS rfl Tryz.func38 (by kernel_rfl) rfl rfl rfl (c_spec_l1In e_7 0 (w64 (t_9 - 1)) t_10 ht_10 _ m hS.vis) ?_
    rintro a w _ rfl hF hS
    refine e_p (v:=(.bool (!t_10))) 10 hF rfl (ex_not rfl) rfl rfl (by kernel_rfl) (by kernel_rfl) (by kernel_rfl) fun a hF=>e_end (by kernel_rfl) (n_sq ?_) _
    rcases bcase (!t_10) with hc4 | hc4
    ·have hb2:=cond_f hc4 hb2
     refine q_cond_f hF rfl hc4 (q_skipc (n_ib (n_sq (q_region (q_x (v:=(iV (w64 (t_3 + 1)))) hF hS (ex_ibin rfl rfl rfl) rfl rfl fun a hF=>q_x (v:=(iV (w64 (t_3 + 1)))) hF hS (ex_move rfl) rfl rfl fun a hF=>q_end ?_)))))
     obtain rfl:=someI hb2
     exact ⟨rfl,hF.sub ⟨rfl,rfl,rfl,rfl,trivial⟩,hS.mask [false]⟩
    ·have hb2:=cond_t hc4 hb2
     refine q_cond_t hF rfl hc4 (q_seq (q_region (q_x (v:=(.bool false)) hF hS (ex_assign rfl) rfl rfl fun a hF=>q_end (n_sq (q_ret (r_ib (r_sq ?_)))))))
     obtain rfl:=someI hb2
     refine ⟨nofun,.inr fun ho=>?_⟩
     subst ho
     refine r_ib (r_sq ?_)
     obtain rfl:=someI hr
     exact ret_of hF hS rfl (.tmp rfl .nil) rfl
  ·rintro e a w ⟨rfl,rfl,hF,hS⟩
   refine x_ib (n_sq ?_)
   refine q_seq (q_region (q_x (v:=(.bool true)) hF hS (ex_assign rfl) rfl rfl fun a hF=>q_end (n_sq (q_ret ?_))))
   obtain rfl:=someI hr
   exact ret_of hF hS rfl (.tmp rfl .nil) rfl
 ·have hr:=cond_t hc1 hr
  refine q_cond_t hF rfl hc1 (q_seq (q_region (q_x (v:=(.bool false)) hF hS (ex_assign rfl) rfl rfl fun a hF=>q_end (n_sq (q_ret (r_sq ?_))))))
  obtain rfl:=someI hr
  exact ret_of hF hS rfl (.tmp rfl .nil) rfl

theorem c_spec_sPart (p_s : List impl_Variable) (p_vars : List Int) (r : (List impl_Variable)) (hr : spec_sPart p_s p_vars = some r) (w0 : World) (m : Mem) (hv : Vis m w0) (s1 : Sl) (h1 : Rd m s1 p_s) (s2 : Sl) (h2 : Rd m s2 p_vars) :
  Ret Tryz.prog 70 [s1.v,s2.v] w0 (fun v w=>∃ (q0' : Piece) (s0' : Sl),v = s0'.v∧St [] w0 w m [q0']∧OwnL m 100 q0' s0' r):=by
 unfold spec_sPart at hr
 refine ret_start Tryz.func70 rfl 23 rfl rfl m hv fun a hF hS=>q_seq (q_region (q_x (v:=nilS.v) hF hS (ex_assign rfl) rfl rfl fun a hF=>q_end (n_sq (q_seq (q_region (q_x (v:=nilS.v) hF hS (ex_assign rfl) rfl rfl fun a hF=>q_end (n_sq (q_seq (q_seq (q_region (q_x (v:=s2.v) hF hS (ex_move rfl) rfl rfl fun a hF=>q_x (v:=(iV (goLen p_vars))) hF hS (ex_len Tryz.underlying24 rfl h2.len) rfl rfl fun a hF=>q_x (v:=(iV 0)) hF hS (ex_move rfl) rfl rfl fun a hF=>q_end (n_sq (q_block ?_)))))))))))))
 obtain ⟨out_13,hl1,hr⟩:=bindS hr
 refine q_loop (fun (s : (List impl_Variable) × Int) a w=>∃ (q4 : Piece),∃ (s4 : Sl),∃ out_3,∃ t_5,s = (out_3,t_5)∧Fr a 23 [(0,s1.v),(5,s4.v),(8,s2.v),(9,(iV (goLen p_vars))),(10,(iV t_5))]∧St [] w0 w m [q4]∧OwnL m 100 q4 s4 out_3) (fun (out_13 : (List impl_Variable)) e a w=>∃ (q14 : Piece),∃ (s14 : Sl),e = .exit 0∧Fr a 23 [(5,s14.v)]∧St [] w0 w m [q14]∧OwnL m 100 q14 s14 out_13) hl1 ⟨[],nilS,_,_,rfl,hF.sub ⟨rfl,rfl,rfl,rfl,rfl,trivial⟩,hS.sel [0] (by decide),(OwnL.nil (α:=impl_Variable) m 100)⟩ ?_ ?_
 ·clear hF hS
  rintro s a w st ⟨q4,s4,out_3,t_5,rfl,hF,hS,h4⟩ hb1
  unfold spec_sPart_l1 at hb1
  refine q_seq (q_region (q_x (v:=(.bool (decide (t_5 < (goLen p_vars))))) hF hS (ex_ibin rfl rfl rfl) rfl rfl fun a hF=>q_end (n_sq (q_seq ?_))))
  rcases bcase (decide (t_5 < (goLen p_vars))) with hc2 | hc2
  ·have hb1:=cond_f hc2 hb1
   refine q_cond_f hF rfl hc2 (q_exit (x_sq ?_))
   obtain rfl:=someI hb1
   exact ⟨nofun,.inl ⟨q4,s4,rfl,hF.sub ⟨rfl,trivial⟩,hS,h4⟩⟩
  ·have hb1:=cond_t hc2 hb1
   refine q_cond_t hF rfl hc2 (q_skipc (n_sq (q_seq (q_block (q_seq (q_region ?_))))))
   obtain ⟨e_6,he_6,hb1⟩:=bindS hb1
   obtain ⟨vs7,at7,d7⟩:=h2.at he_6 1 rfl
   obtain rfl : vs7 = [(iV e_6)]:=d7
   refine q_x (v:=(elP s2 (t_5.toNat * 1))) hF hS (ex_indexAddr Tryz.underlying24 sz3 rfl rfl (h2.idx he_6)) rfl rfl fun a hF=>q_x (v:=(iV e_6)) hF hS (ex_loadE1 0 Tryz.underlying3 rfl rfl ((at7).at) rfl rfl) rfl rfl fun a hF=>q_x (v:=(iV e_6)) hF hS (ex_assign rfl) rfl rfl fun a hF=>q_end (n_sq (q_region (q_x (v:=s4.v) hF hS (ex_move rfl) rfl rfl fun a hF=>q_x (v:=s1.v) hF hS (ex_move rfl) rfl rfl fun a hF=>q_x (v:=(iV e_6)) hF hS (ex_move rfl) rfl rfl fun a hF=>?_)))
   obtain ⟨e_8,he_8,hb1⟩:=bindS hb1
   obtain ⟨vs9,at9,d9⟩:=h1.at he_8 2 rfl
   obtain rfl : vs9 = [(strV e_8.Name),(iV e_8.Levels)]:=d9
   refine q_x (v:=(elP s1 (e_6.toNat * 2))) hF hS (ex_indexAddr Tryz.underlying27 sz100 rfl rfl (h1.idx he_8)) rfl rfl fun a hF=>q_x (v:=(.agg #[(strV e_8.Name),(iV e_8.Levels)])) hF hS (ex_loadEA (us:=[(strV e_8.Name),(iV e_8.Levels)]) 0 Tryz.underlying100 rfl sz100 rfl ((at9).at) rfl rfl rfl) rfl rfl fun a hF=>q_do rfl fun _ hK=>wp_buildSlice' (l:=([e_8] : List impl_Variable)) (cells:=[(strV e_8.Name),(iV e_8.Levels)]) hF hS Tryz.underlying27 inf100 rfl rfl (by kernel_rfl) rfl rfl rfl ⟨rfl,rfl⟩ rfl rfl fun a w q10 s10 hF hS h10 _=>hK _ _ ?_
   have hS : St _ _ _ _ [q4,q10]:=hS.sel [1,0] (by decide)
   obtain ⟨l_11,hl_11,hb1⟩:=bindS hb1
   refine q_do rfl fun _ hK=>wp_append hF hS h4 Tryz.underlying27 inf100 rfl rfl rfl rfl (h10.vw hS (j:=1) rfl) rfl (by decide) hl_11 rfl fun a w q12 s12 hF hS h12=>hK _ _ (q_x (v:=s12.v) hF hS (ex_assign rfl) rfl rfl fun a hF=>q_end (n_ib (n_sq (q_region (q_x (v:=(iV (w64 (t_5 + 1)))) hF hS (ex_ibin rfl rfl rfl) rfl rfl fun a hF=>q_x (v:=(iV (w64 (t_5 + 1)))) hF hS (ex_move rfl) rfl rfl fun a hF=>q_end ?_)))))
   obtain rfl:=someI hb1
   exact ⟨rfl,q12,s12,_,_,rfl,hF.sub ⟨rfl,rfl,rfl,rfl,rfl,trivial⟩,hS.mask [true,false],h12⟩
 ·rintro e a w ⟨q14,s14,rfl,hF,hS,h14⟩
  refine x_ib (n_sq ?_)
  refine q_seq (q_region (q_x (v:=s14.v) hF hS (ex_move rfl) rfl rfl fun a hF=>q_x (v:=s14.v) hF hS (ex_assign rfl) rfl rfl fun a hF=>q_end (n_sq (q_ret ?_))))
  obtain rfl:=someI hr
  exact ret_of hF hS rfl (.tmp rfl .nil) ⟨q14,s14,rfl,hS.sel [0] (by decide),h14⟩

theorem c_spec_sCount (p_s : List impl_Variable) (r : Int) (hr : spec_sCount p_s = some r) (w0 : World) (m : Mem) (hv : Vis m w0) (s1 : Sl) (h1 : Rd m s1 p_s) :
  Ret Tryz.prog 69 [s1.v] w0 (fun v _=>v = (iV r)):=by
 unfold spec_sCount at hr
 refine ret_start Tryz.func69 rfl 18 rfl rfl m hv fun a hF hS=>q_seq (q_region (q_x (v:=(iV 0)) hF hS (ex_assign rfl) rfl rfl fun a hF=>q_end (n_sq (q_seq (q_region (q_x (v:=(iV 1)) hF hS (ex_assign rfl) rfl rfl fun a hF=>q_end (n_sq (q_seq (q_seq (q_region (q_x (v:=s1.v) hF hS (ex_move rfl) rfl rfl fun a hF=>q_x (v:=(iV (goLen p_s))) hF hS (ex_len Tryz.underlying27 rfl h1.len) rfl rfl fun a hF=>q_x (v:=(iV 0)) hF hS (ex_move rfl) rfl rfl fun a hF=>q_end (n_sq (q_block ?_)))))))))))))
 obtain ⟨n_7,hl1,hr⟩:=bindS hr
 refine q_loop (fun (s : Int × Int) a w=>∃ n_2,∃ t_3,s = (n_2,t_3)∧Fr a 18 [(3,(iV n_2)),(6,s1.v),(7,(iV (goLen p_s))),(8,(iV t_3))]∧St [] w0 w m []) (fun (n_7 : Int) e a w=>e = .exit 0∧Fr a 18 [(3,(iV n_7))]∧St [] w0 w m []) hl1 ⟨_,_,rfl,hF.sub ⟨rfl,rfl,rfl,rfl,trivial⟩,hS⟩ ?_ ?_
 ·clear hF hS
  rintro s a w st ⟨n_2,t_3,rfl,hF,hS⟩ hb1
  unfold spec_sCount_l1 at hb1
  refine q_seq (q_region (q_x (v:=(.bool (decide (t_3 < (goLen p_s))))) hF hS (ex_ibin rfl rfl rfl) rfl rfl fun a hF=>q_end (n_sq (q_seq ?_))))
  rcases bcase (decide (t_3 < (goLen p_s))) with hc2 | hc2
  ·have hb1:=cond_f hc2 hb1
   refine q_cond_f hF rfl hc2 (q_exit (x_sq ?_))
   obtain rfl:=someI hb1
   exact ⟨nofun,.inl ⟨rfl,hF.sub ⟨rfl,trivial⟩,hS⟩⟩
  ·have hb1:=cond_t hc2 hb1
   refine q_cond_t hF rfl hc2 (q_skipc (n_sq (q_seq (q_block (q_seq (q_region ?_))))))
   obtain ⟨e_4,he_4,hb1⟩:=bindS hb1
   obtain ⟨vs5,at5,d5⟩:=h1.at he_4 2 rfl
   obtain rfl : vs5 = [(strV e_4.Name),(iV e_4.Levels)]:=d5
   refine q_x (v:=(elP s1 (t_3.toNat * 2))) hF hS (ex_indexAddr Tryz.underlying27 sz100 rfl rfl (h1.idx he_4)) rfl rfl fun a hF=>q_x (v:=(.agg #[(strV e_4.Name),(iV e_4.Levels)])) hF hS (ex_loadEA (us:=[(strV e_4.Name),(iV e_4.Levels)]) 0 Tryz.underlying100 rfl sz100 rfl ((at5).at) rfl rfl rfl) rfl rfl fun a hF=>q_alloc (cs:=[(strV ([] : List UInt8)),(iV 0)]) hF hS rfl rfl rfl fun a w b6 hF hS=>q_store (vs:=[(strV e_4.Name),(iV e_4.Levels)]) (cs':=[(strV e_4.Name),(iV e_4.Levels)]) 0 0 hF hS sz100 rfl rfl rfl rfl rfl rfl rfl rfl fun a w hF hS=>q_end (n_sq (q_region (q_x (v:=(iV n_2)) hF hS (ex_move rfl) rfl rfl fun a hF=>q_x (v:=(.pointer (some ⟨b6,1,none⟩))) hF hS (ex_fieldAddr Tryz.underlying100 rfl sz3 rfl rfl) rfl rfl fun a hF=>q_x (v:=(iV e_4.Levels)) hF hS (ex_load1 0 0 Tryz.underlying3 rfl rfl rfl rfl) rfl rfl fun a hF=>q_x (v:=(iV (w64 (n_2 * e_4.Levels)))) hF hS (ex_ibin rfl rfl rfl) rfl rfl fun a hF=>q_x (v:=(iV (w64 (n_2 * e_4.Levels)))) hF hS (ex_assign rfl) rfl rfl fun a hF=>q_end (n_ib (n_sq (q_region (q_x (v:=(iV (w64 (t_3 + 1)))) hF hS (ex_ibin rfl rfl rfl) rfl rfl fun a hF=>q_x (v:=(iV (w64 (t_3 + 1)))) hF hS (ex_move rfl) rfl rfl fun a hF=>q_end ?_)))))))
   obtain rfl:=someI hb1
   exact ⟨rfl,_,_,rfl,hF.sub ⟨rfl,rfl,rfl,rfl,trivial⟩,hS.mask [false]⟩
 ·rintro e a w ⟨rfl,hF,hS⟩
  refine x_ib (n_sq ?_)
  refine q_seq (q_region (q_x (v:=(iV n_7)) hF hS (ex_move rfl) rfl rfl fun a hF=>q_x (v:=(iV n_7)) hF hS (ex_assign rfl) rfl rfl fun a hF=>q_end (n_sq (q_ret ?_))))
  obtain rfl:=someI hr
  exact ret_of hF hS rfl (.tmp rfl .nil) rfl

theorem c_spec_uCount (p_g : impl_Geo) (p_s : List impl_Variable) (p_t : impl_Table) (r : Int) (hr : spec_uCount p_g p_s p_t = some r) (w0 : World) (m : Mem) (hv : Vis m w0) (s1 : Sl) (h1 : Rd m s1 p_g.Parents) (s2 : Sl) (h2 : Rd m s2 p_s) (s3 : Sl) (h3 : Rd m s3 p_t.Vars) (s4 : Sl) (h4 : Rd m s4 p_t.Where) :
  Ret Tryz.prog 39 [(.agg #[s1.v]),s2.v,(.agg #[(iV p_t.Level),s3.v,s4.v,(iV p_t.Sum)])] w0 (fun v _=>v = (iV r)):=by
 unfold spec_uCount at hr
 refine ret_start Tryz.func39 rfl 18 rfl rfl m hv fun a hF hS=>q_seq (q_region (q_box (cs:=[s1.v]) hF hS rfl rfl rfl fun a w b5 hF hS=>q_box (cs:=[(iV p_t.Level),s3.v,s4.v,(iV p_t.Sum)]) hF hS rfl rfl rfl fun a w b6 hF hS=>q_x (v:=(iV 0)) hF hS (ex_assign rfl) rfl rfl fun a hF=>q_end (n_sq (q_seq (e_region ⟨[],[]⟩ mixed fun w' hw'=>?_)))))
 have hS:=hS.below hw'
 refine e_x (v:=(.agg #[s1.v])) 0 hF hS rfl (ex_loadA (vs:=[s1.v]) 1 0 Tryz.underlying26 rfl sz26 rfl rfl rfl rfl) rfl rfl (by kernel_rfl) (by kernel_rfl) (by kernel_rfl) (by kernel_rfl) fun a hF=>e_p (v:=(.pointer (some ⟨b6,0,none⟩))) 1 hF rfl (ex_fieldAddr Tryz.underlying29 rfl sz3 rfl rfl) rfl rfl (by kernel_rfl) (by kernel_rfl) (by kernel_rfl) fun a hF=>e_x (v:=(iV p_t.Level)) 2 hF hS rfl (ex_load1 0 0 Tryz.underlying3 rfl rfl rfl rfl) rfl rfl (by kernel_rfl) (by kernel_rfl) (by kernel_rfl) (by kernel_rfl) fun a hF=>e_p (v:=s2.v) 5 hF rfl (ex_move rfl) rfl rfl (by kernel_rfl) (by kernel_rfl) (by kernel_rfl) fun a hF=>e_p (v:=(.pointer (some ⟨b6,1,none⟩))) 6 hF rfl (ex_fieldAddr Tryz.underlying29 rfl sz24 rfl rfl) rfl rfl (by kernel_rfl) (by kernel_rfl) (by kernel_rfl) fun a hF=>e_x (v:=s3.v) 7 hF hS rfl (ex_load1 0 0 Tryz.underlying24 rfl rfl rfl rfl) rfl rfl (by kernel_rfl) (by kernel_rfl) (by kernel_rfl) (by kernel_rfl) fun a hF=>e_one 3 (by kernel_rfl) ?_
 obtain ⟨t_16,ht_16,hr⟩:=bindS hr
 refine e_call (vs:=[(.agg #[s1.v]),(iV p_t.Level)]) hF hS rfl Tryz.func48 (by kernel_rfl) rfl rfl rfl (c_spec_gLevel p_g p_t.Level t_16 ht_16 _ m hS.vis s1 h1) ?_
 rintro a w _ ⟨q18,s18,rfl,hR17,h18⟩ hF hS2
 have hS : St _ _ _ _ [q18,[⟨b6,[(iV p_t.Level),s3.v,s4.v,(iV p_t.Sum)],29⟩],[⟨b5,[s1.v],26⟩]]:=hS.joinF hR17
 refine e_p (v:=(iV (goLen t_16))) 4 hF rfl (ex_len Tryz.underlying24 rfl h18.len) rfl rfl (by kernel_rfl) (by kernel_rfl) (by kernel_rfl) fun a hF=>e_one 8 (by kernel_rfl) ?_
 obtain ⟨t_19,ht_19,hr⟩:=bindS hr
 refine e_call (vs:=[s2.v,s3.v]) hF hS rfl Tryz.func70 (by kernel_rfl) rfl rfl rfl (c_spec_sPart p_s p_t.Vars t_19 ht_19 _ m hS.vis s2 h2 s3 h3) ?_
 rintro a w _ ⟨q21,s21,rfl,hR20,h21⟩ hF hS2
 have hS : St _ _ _ _ [q21,q18,[⟨b6,[(iV p_t.Level),s3.v,s4.v,(iV p_t.Sum)],29⟩],[⟨b5,[s1.v],26⟩]]:=hS.joinF hR20
 refine e_one 9 (by kernel_rfl) ?_
 obtain ⟨m23,hl23,hv23,hz23⟩:=hS.lend
 obtain ⟨t_22,ht_22,hr⟩:=bindS hr
 refine e_call (vs:=[s21.v]) hF hS rfl Tryz.func69 (by kernel_rfl) rfl rfl rfl (c_spec_sCount t_19 t_22 ht_22 _ m23 hv23 s21 (h21.froz hl23 (hz23 0 _ rfl))) ?_
 rintro a w _ rfl hF hS
 refine e_p (v:=(iV (w64 ((goLen t_16) * t_22)))) 10 hF rfl (ex_ibin rfl rfl rfl) rfl rfl (by kernel_rfl) (by kernel_rfl) (by kernel_rfl) fun a hF=>e_p (v:=(iV (w64 ((goLen t_16) * t_22)))) 11 hF rfl (ex_assign rfl) rfl rfl (by kernel_rfl) (by kernel_rfl) (by kernel_rfl) fun a hF=>e_end (by kernel_rfl) (n_sq (q_ret ?_)) _
 obtain rfl:=someI hr
 exact ret_of hF hS rfl (.tmp rfl .nil) rfl

theorem c_spec_uGood (p_g : impl_Geo) (p_s : List impl_Variable) (p_t : impl_Table) (r : Bool) (hr : spec_uGood p_g p_s p_t = some r) (w0 : World) (m : Mem) (hv : Vis m w0) (s1 : Sl) (h1 : Rd m s1 p_g.Parents) (s2 : Sl) (h2 : Rd m s2 p_s) (s3 : Sl) (h3 : Rd m s3 p_t.Vars) (s4 : Sl) (h4 : Rd m s4 p_t.Where) :
  Ret Tryz.prog 17 [(.agg #[s1.v]),s2.v,(.agg #[(iV p_t.Level),s3.v,s4.v,(iV p_t.Sum)])] w0 (fun v _=>v = (.bool r)):=by
 unfold spec_uGood at hr
 refine ret_start Tryz.func17 rfl 53 rfl rfl m hv fun a hF hS=>q_seq (q_region (q_box (cs:=[s1.v]) hF hS rfl rfl rfl fun a w b5 hF hS=>q_box (cs:=[(iV p_t.Level),s3.v,s4.v,(iV p_t.Sum)]) hF hS rfl rfl rfl fun a w b6 hF hS=>q_x (v:=(.bool false)) hF hS (ex_assign rfl) rfl rfl fun a hF=>q_end (n_sq (q_seq (q_seq ?_)))))
 obtain ⟨t_15,hj1,hr⟩:=bindS hr
 refine q_join (fun a w=>Fr a 53 [(1,s2.v),(3,(.pointer (some ⟨b5,0,none⟩))),(5,(.pointer (some ⟨b6,0,none⟩))),(47,(.bool t_15))]∧St [] w0 w m [[⟨b6,[(iV p_t.Level),s3.v,s4.v,(iV p_t.Sum)],29⟩],[⟨b5,[s1.v],26⟩]]) ?_ ?_
 ·refine q_region (q_x (v:=(.agg #[s1.v])) hF hS (ex_loadA (vs:=[s1.v]) 1 0 Tryz.underlying26 rfl sz26 rfl rfl rfl rfl) rfl rfl fun a hF=>?_)
  obtain ⟨t_7,ht_7,hj1⟩:=bindS hj1
  refine q_call (vs:=[(.agg #[s1.v])]) hF hS Tryz.func46 (by kernel_rfl) rfl rfl rfl (c_spec_gGood p_g t_7 ht_7 _ m hS.vis s1 h1) ?_
  rintro a w _ rfl hF hS
  refine q_x (v:=(.bool (!t_7))) hF hS (ex_not rfl) rfl rfl fun a hF=>q_x (v:=(.bool (!t_7))) hF hS (ex_move rfl) rfl rfl fun a hF=>?_
  rcases bcase (!t_7) with hc2 | hc2
  ·have hj1:=cond_f hc2 hj1
   refine q_xg (v:=s2.v) hF hS (ex_move rfl) (wanted_t hF rfl rfl rfl hc2) rfl fun a hF=>?_
   obtain ⟨t_8,ht_8,hj1⟩:=bindS hj1
   refine q_callg (vs:=[s2.v]) hF hS (wanted_t hF rfl rfl rfl hc2) Tryz.func47 (by kernel_rfl) rfl rfl rfl (c_spec_sGood p_s t_8 ht_8 _ m hS.vis s2 h2) ?_
   rintro a w _ rfl hF hS
   refine q_xg (v:=(.bool (!t_8))) hF hS (ex_not rfl) (wanted_t hF rfl rfl rfl hc2) rfl fun a hF=>q_x (v:=(.bool (!t_8))) hF hS (ex_pick_f rfl rfl hc2) rfl rfl fun a hF=>q_x (v:=(.bool (!t_8))) hF hS (ex_move rfl) rfl rfl fun a hF=>?_
   rcases bcase (!t_8) with hc3 | hc3
   ·have hj1:=cond_f hc3 hj1
    refine q_xg (v:=(.agg #[s1.v])) hF hS (ex_loadA (vs:=[s1.v]) 1 0 Tryz.underlying26 rfl sz26 rfl rfl rfl rfl) (wanted_t hF rfl rfl rfl hc3) rfl fun a hF=>q_xg (v:=(.pointer (some ⟨b6,0,none⟩))) hF hS (ex_fieldAddr Tryz.underlying29 rfl sz3 rfl rfl) (wanted_t hF rfl rfl rfl hc3) rfl fun a hF=>q_xg (v:=(iV p_t.Level)) hF hS (ex_load1 0 0 Tryz.underlying3 rfl rfl rfl rfl) (wanted_t hF rfl rfl rfl hc3) rfl fun a hF=>?_
    obtain ⟨t_9,ht_9,hj1⟩:=bindS hj1
    refine q_callg (vs:=[(.agg #[s1.v]),(iV p_t.Level)]) hF hS (wanted_t hF rfl rfl rfl hc3) Tryz.func48 (by kernel_rfl) rfl rfl rfl (c_spec_gLevel p_g p_t.Level t_9 ht_9 _ m hS.vis s1 h1) ?_
    rintro a w _ ⟨q11,s11,rfl,hR10,h11⟩ hF hS2
    have hS : St _ _ _ _ [q11,[⟨b6,[(iV p_t.Level),s3.v,s4.v,(iV p_t.Sum)],29⟩],[⟨b5,[s1.v],26⟩]]:=hS.joinF hR10
    refine q_xg (v:=(iV (goLen t_9))) hF hS (ex_len Tryz.underlying24 rfl h11.len) (wanted_t hF rfl rfl rfl hc3) rfl fun a hF=>q_xg (v:=(.bool ((goLen t_9) == 0))) hF hS (ex_ibin rfl rfl rfl) (wanted_t hF rfl rfl rfl hc3) rfl fun a hF=>q_x (v:=(.bool ((goLen t_9) == 0))) hF hS (ex_pick_f rfl rfl hc3) rfl rfl fun a hF=>q_x (v:=(.bool ((goLen t_9) == 0))) hF hS (ex_move rfl) rfl rfl fun a hF=>?_
    rcases bcase ((goLen t_9) == 0) with hc4 | hc4
    ·have hj1:=cond_f hc4 hj1
     refine q_xg (v:=(.pointer (some ⟨b6,1,none⟩))) hF hS (ex_fieldAddr Tryz.underlying29 rfl sz24 rfl rfl) (wanted_t hF rfl rfl rfl hc4) rfl fun a hF=>q_xg (v:=s3.v) hF hS (ex_load1 1 0 Tryz.underlying24 rfl rfl rfl rfl) (wanted_t hF rfl rfl rfl hc4) rfl fun a hF=>q_xg (v:=s2.v) hF hS (ex_move rfl) (wanted_t hF rfl rfl rfl hc4) rfl fun a hF=>q_xg (v:=(iV (goLen p_s))) hF hS (ex_len Tryz.underlying27 rfl h2.len) (wanted_t hF rfl rfl rfl hc4) rfl fun a hF=>q_xg (v:=(iV (w64 ((goLen p_s) - 1)))) hF hS (ex_ibin rfl rfl rfl) (wanted_t hF rfl rfl rfl hc4) rfl fun a hF=>?_
     obtain ⟨t_12,ht_12,hj1⟩:=bindS hj1
     refine q_callg (vs:=[s3.v,(iV 0),(iV (w64 ((goLen p_s) - 1)))]) hF hS (wanted_t hF rfl rfl rfl hc4) Tryz.func49 (by kernel_rfl) rfl rfl rfl (c_spec_l1Rising p_t.Vars 0 (w64 ((goLen p_s) - 1)) t_12 ht_12 _ m hS.vis s3 h3) ?_
     rintro a w _ rfl hF hS
     refine q_xg (v:=(.bool (!t_12))) hF hS (ex_not rfl) (wanted_t hF rfl rfl rfl hc4) rfl fun a hF=>q_x (v:=(.bool (!t_12))) hF hS (ex_pick_f rfl rfl hc4) rfl rfl fun a hF=>q_x (v:=(.bool (!t_12))) hF hS (ex_move rfl) rfl rfl fun a hF=>?_
     rcases bcase (!t_12) with hc5 | hc5
     ·have hj1:=cond_f hc5 hj1
      refine q_xg (v:=s2.v) hF hS (ex_move rfl) (wanted_t hF rfl rfl rfl hc5) rfl fun a hF=>q_xg (v:=(.pointer (some ⟨b6,2,none⟩))) hF hS (ex_fieldAddr Tryz.underlying29 rfl sz24 rfl rfl) (wanted_t hF rfl rfl rfl hc5) rfl fun a hF=>q_xg (v:=s4.v) hF hS (ex_load1 1 0 Tryz.underlying24 rfl rfl rfl rfl) (wanted_t hF rfl rfl rfl hc5) rfl fun a hF=>?_
      obtain ⟨t_13,ht_13,hj1⟩:=bindS hj1
      refine q_callg (vs:=[s2.v,s4.v]) hF hS (wanted_t hF rfl rfl rfl hc5) Tryz.func50 (by kernel_rfl) rfl rfl rfl (c_spec_uWhere p_s p_t.Where t_13 ht_13 _ m hS.vis s2 h2 s4 h4) ?_
      rintro a w _ rfl hF hS
      refine q_xg (v:=(.bool (!t_13))) hF hS (ex_not rfl) (wanted_t hF rfl rfl rfl hc5) rfl fun a hF=>q_x (v:=(.bool (!t_13))) hF hS (ex_pick_f rfl rfl hc5) rfl rfl fun a hF=>q_x (v:=(.bool (!t_13))) hF hS (ex_move rfl) rfl rfl fun a hF=>?_
      rcases bcase (!t_13) with hc6 | hc6
      ·have hj1:=cond_f hc6 hj1
       refine q_xg (v:=(.pointer (some ⟨b6,3,none⟩))) hF hS (ex_fieldAddr Tryz.underlying29 rfl sz3 rfl rfl) (wanted_t hF rfl rfl rfl hc6) rfl fun a hF=>q_xg (v:=(iV p_t.Sum)) hF hS (ex_load1 1 0 Tryz.underlying3 rfl rfl rfl rfl) (wanted_t hF rfl rfl rfl hc6) rfl fun a hF=>q_xg (v:=s2.v) hF hS (ex_move rfl) (wanted_t hF rfl rfl rfl hc6) rfl fun a hF=>q_xg (v:=(iV (goLen p_s))) hF hS (ex_len Tryz.underlying27 rfl h2.len) (wanted_t hF rfl rfl rfl hc6) rfl fun a hF=>q_xg (v:=(iV (w64 ((goLen p_s) - 1)))) hF hS (ex_ibin rfl rfl rfl) (wanted_t hF rfl rfl rfl hc6) rfl fun a hF=>?_
       obtain ⟨t_14,ht_14,hj1⟩:=bindS hj1
       refine q_callg (vs:=[(iV p_t.Sum),(iV (-1)),(iV (w64 ((goLen p_s) - 1)))]) hF hS (wanted_t hF rfl rfl rfl hc6) Tryz.func38 (by kernel_rfl) rfl rfl rfl (c_spec_l1In p_t.Sum (-1) (w64 ((goLen p_s) - 1)) t_14 ht_14 _ m hS.vis) ?_
       rintro a w _ rfl hF hS
       refine q_xg (v:=(.bool (!t_14))) hF hS (ex_not rfl) (wanted_t hF rfl rfl rfl hc6) rfl fun a hF=>q_x (v:=(.bool (!t_14))) hF hS (ex_pick_f rfl rfl hc6) rfl rfl fun a hF=>q_end (n_jn ?_)
       obtain rfl:=someI hj1
       exact ⟨hF.sub ⟨rfl,rfl,rfl,rfl,trivial⟩,hS.mask [false,true,true]⟩
      ·have hj1:=cond_t hc6 hj1
       refine q_skip hF (wanted_f hF rfl rfl rfl hc6 rfl) rfl fun a hF=>q_skip hF (wanted_f hF rfl rfl rfl hc6 rfl) rfl fun a hF=>q_skip hF (wanted_f hF rfl rfl rfl hc6 rfl) rfl fun a hF=>q_skip hF (wanted_f hF rfl rfl rfl hc6 rfl) rfl fun a hF=>q_skip hF (wanted_f hF rfl rfl rfl hc6 rfl) rfl fun a hF=>q_skip hF (wanted_f hF rfl rfl rfl hc6 rfl) rfl fun a hF=>q_skip hF (wanted_f hF rfl rfl rfl hc6 rfl) rfl fun a hF=>q_x (v:=(.bool true)) hF hS (ex_pick_t rfl rfl hc6) rfl rfl fun a hF=>q_end (n_jn ?_)
       obtain rfl:=someI hj1
       exact ⟨hF.sub ⟨rfl,rfl,rfl,rfl,trivial⟩,hS.mask [false,true,true]⟩
     ·have hj1:=cond_t hc5 hj1
      refine q_skip hF (wanted_f hF rfl rfl rfl hc5 rfl) rfl fun a hF=>q_skip hF (wanted_f hF rfl rfl rfl hc5 rfl) rfl fun a hF=>q_skip hF (wanted_f hF rfl rfl rfl hc5 rfl) rfl fun a hF=>q_skip hF (wanted_f hF rfl rfl rfl hc5 rfl) rfl fun a hF=>q_skip hF (wanted_f hF rfl rfl rfl hc5 rfl) rfl fun a hF=>q_x (v:=(.bool true)) hF hS (ex_pick_t rfl rfl hc5) rfl rfl fun a hF=>q_x (v:=(.bool true)) hF hS (ex_move rfl) rfl rfl fun a hF=>q_skip hF (wanted_f hF rfl rfl rfl rfl rfl) rfl fun a hF=>q_skip hF (wanted_f hF rfl rfl rfl rfl rfl) rfl fun a hF=>q_skip hF (wanted_f hF rfl rfl rfl rfl rfl) rfl fun a hF=>q_skip hF (wanted_f hF rfl rfl rfl rfl rfl) rfl fun a hF=>q_skip hF (wanted_f hF rfl rfl rfl rfl rfl) rfl fun a hF=>q_skip hF (wanted_f hF rfl rfl rfl rfl rfl) rfl fun a hF=>q_skip hF (wanted_f hF rfl rfl rfl rfl rfl) rfl fun a hF=>q_x (v:=(.bool true)) hF hS (ex_pick_t rfl rfl rfl) rfl rfl fun a hF=>q_end (n_jn ?_)
      obtain rfl:=someI hj1
      exact ⟨hF.sub ⟨rfl,rfl,rfl,rfl,trivial⟩,hS.mask [false,true,true]⟩
    ·have hj1:=cond_t hc4 hj1
     refine q_skip hF (wanted_f hF rfl rfl rfl hc4 rfl) rfl fun a hF=>q_skip hF (wanted_f hF rfl rfl rfl hc4 rfl) rfl fun a hF=>q_skip hF (wanted_f hF rfl rfl rfl hc4 rfl) rfl fun a hF=>q_skip hF (wanted_f hF rfl rfl rfl hc4 rfl) rfl fun a hF=>q_skip hF (wanted_f hF rfl rfl rfl hc4 rfl) rfl fun a hF=>q_skip hF (wanted_f hF rfl rfl rfl hc4 rfl) rfl fun a hF=>q_skip hF (wanted_f hF rfl rfl rfl hc4 rfl) rfl fun a hF=>q_x (v:=(.bool true)) hF hS (ex_pick_t rfl rfl hc4) rfl rfl fun a hF=>q_x (v:=(.bool true)) hF hS (ex_move rfl) rfl rfl fun a hF=>q_skip hF (wanted_f hF rfl rfl rfl rfl rfl) rfl fun a hF=>q_skip hF (wanted_f hF rfl rfl rfl rfl rfl) rfl fun a hF=>q_skip hF (wanted_f hF rfl rfl rfl rfl rfl) rfl fun a hF=>q_skip hF (wanted_f hF rfl rfl rfl rfl rfl) rfl fun a hF=>q_skip hF (wanted_f hF rfl rfl rfl rfl rfl) rfl fun a hF=>q_x (v:=(.bool true)) hF hS (ex_pick_t rfl rfl rfl) rfl rfl fun a hF=>q_x (v:=(.bool true)) hF hS (ex_move rfl) rfl rfl fun a hF=>q_skip hF (wanted_f hF rfl rfl rfl rfl rfl) rfl fun a hF=>q_skip hF (wanted_f hF rfl rfl rfl rfl rfl) rfl fun a hF=>q_skip hF (wanted_f hF rfl rfl rfl rfl rfl) rfl fun a hF=>q_skip hF (wanted_f hF rfl rfl rfl rfl rfl) rfl fun a hF=>q_skip hF (wanted_f hF rfl rfl rfl rfl rfl) rfl fun a hF=>q_skip hF (wanted_f hF rfl rfl rfl rfl rfl) rfl fun a hF=>q_skip hF (wanted_f hF rfl rfl rfl rfl rfl) rfl fun a hF=>q_x (v:=(.bool true)) hF hS (ex_pick_t rfl rfl rfl) rfl rfl fun a hF=>q_end (n_jn ?_)
     obtain rfl:=someI hj1
     exact ⟨hF.sub ⟨rfl,rfl,rfl,rfl,trivial⟩,hS.mask [false,true,true]⟩
   ·have hj1:=cond_t hc3 hj1
    refine q_skip hF (wanted_f hF rfl rfl rfl hc3 rfl) rfl fun a hF=>q_skip hF (wanted_f hF rfl rfl rfl hc3 rfl) rfl fun a hF=>q_skip hF (wanted_f hF rfl rfl rfl hc3 rfl) rfl fun a hF=>q_skip hF (wanted_f hF rfl rfl rfl hc3 rfl) rfl fun a hF=>q_skip hF (wanted_f hF rfl rfl rfl hc3 rfl) rfl fun a hF=>q_skip hF (wanted_f hF rfl rfl rfl hc3 rfl) rfl fun a hF=>q_x (v:=(.bool true)) hF hS (ex_pick_t rfl rfl hc3) rfl rfl fun a hF=>q_x (v:=(.bool true)) hF hS (ex_move rfl) rfl rfl fun a hF=>q_skip hF (wanted_f hF rfl rfl rfl rfl rfl) rfl fun a hF=>q_skip hF (wanted_f hF rfl rfl rfl rfl rfl) rfl fun a hF=>q_skip hF (wanted_f hF rfl rfl rfl rfl rfl) rfl fun a hF=>q_skip hF (wanted_f hF rfl rfl rfl rfl rfl) rfl fun a hF=>q_skip hF (wanted_f hF rfl rfl rfl rfl rfl) rfl fun a hF=>q_skip hF (wanted_f hF rfl rfl rfl rfl rfl) rfl fun a hF=>q_skip hF (wanted_f hF rfl rfl rfl rfl rfl) rfl fun a hF=>q_x (v:=(.bool true)) hF hS (ex_pick_t rfl rfl rfl) rfl rfl fun a hF=>q_x (v:=(.bool true)) hF hS (ex_move rfl) rfl rfl fun a hF=>q_skip hF (wanted_f hF rfl rfl rfl rfl rfl) rfl fun a hF=>q_skip hF (wanted_f hF rfl rfl rfl rfl rfl) rfl fun a hF=>q_skip hF (wanted_f hF rfl rfl rfl rfl rfl) rfl fun a hF=>q_skip hF (wanted_f hF rfl rfl rfl rfl rfl) rfl fun a hF=>q_skip hF (wanted_f hF rfl rfl rfl rfl rfl) rfl fun a hF=>q_x (v:=(.bool true)) hF hS (ex_pick_t rfl rfl rfl) rfl rfl fun a hF=>q_x (v:=(.bool true)) hF hS (ex_move rfl) rfl rfl fun a hF=>q_skip hF (wanted_f hF rfl rfl rfl rfl rfl) rfl fun a hF=>?_
    refine q_skip hF (wanted_f hF rfl rfl rfl rfl rfl) rfl fun a hF=>q_skip hF (wanted_f hF rfl rfl rfl rfl rfl) rfl fun a hF=>q_skip hF (wanted_f hF rfl rfl rfl rfl rfl) rfl fun a hF=>q_skip hF (wanted_f hF rfl rfl rfl rfl rfl) rfl fun a hF=>q_skip hF (wanted_f hF rfl rfl rfl rfl rfl) rfl fun a hF=>q_skip hF (wanted_f hF rfl rfl rfl rfl rfl) rfl fun a hF=>q_x (v:=(.bool true)) hF hS (ex_pick_t rfl rfl rfl) rfl rfl fun a hF=>q_end (n_jn ?_)
    obtain rfl:=someI hj1
    exact ⟨hF.sub ⟨rfl,rfl,rfl,rfl,trivial⟩,hS⟩
  ·have hj1:=cond_t hc2 hj1
   refine q_skip hF (wanted_f hF rfl rfl rfl hc2 rfl) rfl fun a hF=>q_skip hF (wanted_f hF rfl rfl rfl hc2 rfl) rfl fun a hF=>q_skip hF (wanted_f hF rfl rfl rfl hc2 rfl) rfl fun a hF=>q_x (v:=(.bool true)) hF hS (ex_pick_t rfl rfl hc2) rfl rfl fun a hF=>q_x (v:=(.bool true)) hF hS (ex_move rfl) rfl rfl fun a hF=>q_skip hF (wanted_f hF rfl rfl rfl rfl rfl) rfl fun a hF=>q_skip hF (wanted_f hF rfl rfl rfl rfl rfl) rfl fun a hF=>q_skip hF (wanted_f hF rfl rfl rfl rfl rfl) rfl fun a hF=>q_skip hF (wanted_f hF rfl rfl rfl rfl rfl) rfl fun a hF=>q_skip hF (wanted_f hF rfl rfl rfl rfl rfl) rfl fun a hF=>q_skip hF (wanted_f hF rfl rfl rfl rfl rfl) rfl fun a hF=>q_x (v:=(.bool true)) hF hS (ex_pick_t rfl rfl rfl) rfl rfl fun a hF=>q_x (v:=(.bool true)) hF hS (ex_move rfl) rfl rfl fun a hF=>q_skip hF (wanted_f hF rfl rfl rfl rfl rfl) rfl fun a hF=>q_skip hF (wanted_f hF rfl rfl rfl rfl rfl) rfl fun a hF=>q_skip hF (wanted_f hF rfl rfl rfl rfl rfl) rfl fun a hF=>q_skip hF (wanted_f hF rfl rfl rfl rfl rfl) rfl fun a hF=>q_skip hF (wanted_f hF rfl rfl rfl rfl rfl) rfl fun a hF=>q_skip hF (wanted_f hF rfl rfl rfl rfl rfl) rfl fun a hF=>q_skip hF (wanted_f hF rfl rfl rfl rfl rfl) rfl fun a hF=>q_x (v:=(.bool true)) hF hS (ex_pick_t rfl rfl rfl) rfl rfl fun a hF=>q_x (v:=(.bool true)) hF hS (ex_move rfl) rfl rfl fun a hF=>q_skip hF (wanted_f hF rfl rfl rfl rfl rfl) rfl fun a hF=>q_skip hF (wanted_f hF rfl rfl rfl rfl rfl) rfl fun a hF=>q_skip hF (wanted_f hF rfl rfl rfl rfl rfl) rfl fun a hF=>?_
   refine q_skip hF (wanted_f hF rfl rfl rfl rfl rfl) rfl fun a hF=>q_skip hF (wanted_f hF rfl rfl rfl rfl rfl) rfl fun a hF=>q_x (v:=(.bool true)) hF hS (ex_pick_t rfl rfl rfl) rfl rfl fun a hF=>q_x (v:=(.bool true)) hF hS (ex_move rfl) rfl rfl fun a hF=>q_skip hF (wanted_f hF rfl rfl rfl rfl rfl) rfl fun a hF=>q_skip hF (wanted_f hF rfl rfl rfl rfl rfl) rfl fun a hF=>q_skip hF (wanted_f hF rfl rfl rfl rfl rfl) rfl fun a hF=>q_skip hF (wanted_f hF rfl rfl rfl rfl rfl) rfl fun a hF=>q_skip hF (wanted_f hF rfl rfl rfl rfl rfl) rfl fun a hF=>q_skip hF (wanted_f hF rfl rfl rfl rfl rfl) rfl fun a hF=>q_skip hF (wanted_f hF rfl rfl rfl rfl rfl) rfl fun a hF=>q_x (v:=(.bool true)) hF hS (ex_pick_t rfl rfl rfl) rfl rfl fun a hF=>q_end (n_jn ?_)
   obtain rfl:=someI hj1
   exact ⟨hF.sub ⟨rfl,rfl,rfl,rfl,trivial⟩,hS⟩
 ·rintro a w ⟨hF,hS⟩
  refine n_sq ?_
  rcases bcase (t_15) with hc7 | hc7
  ·have hr:=cond_f hc7 hr
   refine q_cond_f hF rfl hc7 (q_skipc (n_sq (q_seq (q_region (q_x (v:=(.agg #[s1.v])) hF hS (ex_loadA (vs:=[s1.v]) 1 0 Tryz.underlying26 rfl sz26 rfl rfl rfl rfl) rfl rfl fun a hF=>q_x (v:=s2.v) hF hS (ex_move rfl) rfl rfl fun a hF=>q_x (v:=(.agg #[(iV p_t.Level),s3.v,s4.v,(iV p_t.Sum)])) hF hS (ex_loadA (vs:=[(iV p_t.Level),s3.v,s4.v,(iV p_t.Sum)]) 0 0 Tryz.underlying29 rfl sz29 rfl rfl rfl rfl) rfl rfl fun a hF=>?_)))))
   obtain ⟨t_16,ht_16,hr⟩:=bindS hr
   refine q_call (vs:=[(.agg #[s1.v]),s2.v,(.agg #[(iV p_t.Level),s3.v,s4.v,(iV p_t.Sum)])]) hF hS Tryz.func39 (by kernel_rfl) rfl rfl rfl (c_spec_uCount p_g p_s p_t t_16 ht_16 _ m hS.vis s1 h1 s2 h2 s3 h3 s4 h4) ?_
   rintro a w _ rfl hF hS
   refine q_x (v:=(.bool (decide (t_16 ≤ 600)))) hF hS (ex_ibin rfl rfl rfl) rfl rfl fun a hF=>q_x (v:=(.bool (decide (t_16 ≤ 600)))) hF hS (ex_assign rfl) rfl rfl fun a hF=>q_end (n_sq (q_ret ?_))
   obtain rfl:=someI hr
   exact ret_of hF hS rfl (.tmp rfl .nil) rfl
  ·have hr:=cond_t hc7 hr
   refine q_cond_t hF rfl hc7 (q_seq (q_region (q_x (v:=(.bool false)) hF hS (ex_assign rfl) rfl rfl fun a hF=>q_end (n_sq (q_ret (r_sq ?_))))))
   obtain rfl:=someI hr
   exact ret_of hF hS rfl (.tmp rfl .nil) rfl

theorem c_spec_sFits (p_s : List impl_Variable) (p_values : List Int) (r : Bool) (hr : spec_sFits p_s p_values = some r) (w0 : World) (m : Mem) (hv : Vis m w0) (s1 : Sl) (h1 : Rd m s1 p_s) (s2 : Sl) (h2 : Rd m s2 p_values) :
  Ret Tryz.prog 106 [s1.v,s2.v] w0 (fun v _=>v = (.bool r)):=by
 unfold spec_sFits at hr
 refine ret_start Tryz.func106 rfl 29 rfl rfl m hv fun a hF hS=>q_seq (q_region (q_x (v:=(.bool false)) hF hS (ex_assign rfl) rfl rfl fun a hF=>q_end (n_sq (q_seq (q_seq (q_region (q_x (v:=s2.v) hF hS (ex_move rfl) rfl rfl fun a hF=>q_x (v:=(iV (goLen p_values))) hF hS (ex_len Tryz.underlying24 rfl h2.len) rfl rfl fun a hF=>q_x (v:=s1.v) hF hS (ex_move rfl) rfl rfl fun a hF=>q_x (v:=(iV (goLen p_s))) hF hS (ex_len Tryz.underlying27 rfl h1.len) rfl rfl fun a hF=>q_x (v:=(.bool ((goLen p_values) != (goLen p_s)))) hF hS (ex_ibin rfl rfl rfl) rfl rfl fun a hF=>q_end (n_sq ?_))))))))
 rcases bcase ((goLen p_values) != (goLen p_s)) with hc1 | hc1
 ·have hr:=cond_f hc1 hr
  refine q_cond_f hF rfl hc1 (q_skipc (n_sq (q_seq (q_seq (q_region (q_x (v:=s1.v) hF hS (ex_move rfl) rfl rfl fun a hF=>q_x (v:=(iV (goLen p_s))) hF hS (ex_len Tryz.underlying27 rfl h1.len) rfl rfl fun a hF=>q_x (v:=(iV 0)) hF hS (ex_move rfl) rfl rfl fun a hF=>q_end (n_sq (q_block ?_))))))))
  obtain ⟨o2,hl2,hr⟩:=bindS hr
  refine q_loop (fun (t_3 : Int) a w=>Fr a 29 [(1,s2.v),(12,s1.v),(13,(iV (goLen p_s))),(14,(iV t_3))]∧St [] w0 w m []) (fun (o : (Unit) ⊕ (Bool)) e a w=>o = .inl ()∧e = .exit 0∧Fr a 29 []∧St [] w0 w m []) hl2 ⟨hF.sub ⟨rfl,rfl,rfl,rfl,trivial⟩,hS⟩ ?_ ?_
  ·clear hF hS
   rintro t_3 a w st ⟨hF,hS⟩ hb2
   unfold spec_sFits_l1 at hb2
   refine q_seq (q_region (q_x (v:=(.bool (decide (t_3 < (goLen p_s))))) hF hS (ex_ibin rfl rfl rfl) rfl rfl fun a hF=>q_end (n_sq (q_seq ?_))))
   rcases bcase (decide (t_3 < (goLen p_s))) with hc3 | hc3
   ·have hb2:=cond_f hc3 hb2
    refine q_cond_f hF rfl hc3 (q_exit (x_sq ?_))
    obtain rfl:=someI hb2
    exact ⟨nofun,.inl ⟨rfl,rfl,hF.sub trivial,hS⟩⟩
   ·have hb2:=cond_t hc3 hb2
    refine q_cond_t hF rfl hc3 (q_skipc (n_sq (q_seq (q_block (q_seq (q_region (q_x (v:=(iV t_3)) hF hS (ex_move rfl) rfl rfl fun a hF=>?_)))))))
    obtain ⟨e_4,he_4,hb2⟩:=bindS hb2
    obtain ⟨vs5,at5,d5⟩:=h1.at he_4 2 rfl
    obtain rfl : vs5 = [(strV e_4.Name),(iV e_4.Levels)]:=d5
    refine q_x (v:=(elP s1 (t_3.toNat * 2))) hF hS (ex_indexAddr Tryz.underlying27 sz100 rfl rfl (h1.idx he_4)) rfl rfl fun a hF=>q_x (v:=(.agg #[(strV e_4.Name),(iV e_4.Levels)])) hF hS (ex_loadEA (us:=[(strV e_4.Name),(iV e_4.Levels)]) 0 Tryz.underlying100 rfl sz100 rfl ((at5).at) rfl rfl rfl) rfl rfl fun a hF=>q_alloc (cs:=[(strV ([] : List UInt8)),(iV 0)]) hF hS rfl rfl rfl fun a w b6 hF hS=>q_x (v:=(iV t_3)) hF hS (ex_assign rfl) rfl rfl fun a hF=>q_store (vs:=[(strV e_4.Name),(iV e_4.Levels)]) (cs':=[(strV e_4.Name),(iV e_4.Levels)]) 0 0 hF hS sz100 rfl rfl rfl rfl rfl rfl rfl rfl fun a w hF hS=>q_end (n_sq (q_seq (e_region ⟨[],[]⟩ mixed fun w' hw'=>?_)))
    have hS:=hS.below hw'
    refine e_p (v:=s2.v) 0 hF rfl (ex_move rfl) rfl rfl (by kernel_rfl) (by kernel_rfl) (by kernel_rfl) fun a hF=>e_p (v:=(iV t_3)) 1 hF rfl (ex_move rfl) rfl rfl (by kernel_rfl) (by kernel_rfl) (by kernel_rfl) fun a hF=>?_
    obtain ⟨e_7,he_7,hb2⟩:=bindS hb2
    obtain ⟨vs8,at8,d8⟩:=h2.at he_7 1 rfl
    obtain rfl : vs8 = [(iV e_7)]:=d8
    refine e_p (v:=(elP s2 (t_3.toNat * 1))) 2 hF rfl (ex_indexAddr Tryz.underlying24 sz3 rfl rfl (h2.idx he_7)) rfl rfl (by kernel_rfl) (by kernel_rfl) (by kernel_rfl) fun a hF=>e_x (v:=(iV e_7)) 3 hF hS rfl (ex_loadE1 0 Tryz.underlying3 rfl rfl ((at8).at) rfl rfl) rfl rfl (by kernel_rfl) (by kernel_rfl) (by kernel_rfl) (by kernel_rfl) fun a hF=>e_p (v:=(.pointer (some ⟨b6,1,none⟩))) 4 hF rfl (ex_fieldAddr Tryz.underlying100 rfl sz3 rfl rfl) rfl rfl (by kernel_rfl) (by kernel_rfl) (by kernel_rfl) fun a hF=>e_x (v:=(iV e_4.Levels)) 5 hF hS rfl (ex_load1 0 0 Tryz.underlying3 rfl rfl rfl rfl) rfl rfl (by kernel_rfl) (by kernel_rfl) (by kernel_rfl) (by kernel_rfl) fun a hF=>e_p (v:=(iV (w64 (e_4.Levels - 1)))) 6 hF rfl (ex_ibin rfl rfl rfl) rfl rfl (by kernel_rfl) (by kernel_rfl) (by kernel_rfl) fun a hF=>e_one 7 (by kernel_rfl) ?_
    obtain ⟨t_9,ht_9,hb2⟩:=bindS hb2
    refine e_call (vs:=[(iV e_7),(iV 0),(iV (w64 (e_4.Levels - 1)))]) hF hS rfl Tryz.func38 (by kernel_rfl) rfl rfl rfl (c_spec_l1In e_7 0 (w64 (e_4.Levels - 1)) t_9 ht_9 _ m hS.vis) ?_
    rintro a w _ rfl hF hS
    refine e_p (v:=(.bool (!t_9))) 8 hF rfl (ex_not rfl) rfl rfl (by kernel_rfl) (by kernel_rfl) (by kernel_rfl) fun a hF=>e_end (by kernel_rfl) (n_sq ?_) _
    rcases bcase (!t_9) with hc4 | hc4
    ·have hb2:=cond_f hc4 hb2
     refine q_cond_f hF rfl hc4 (q_skipc (n_ib (n_sq (q_region (q_x (v:=(iV (w64 (t_3 + 1)))) hF hS (ex_ibin rfl rfl rfl) rfl rfl fun a hF=>q_x (v:=(iV (w64 (t_3 + 1)))) hF hS (ex_move rfl) rfl rfl fun a hF=>q_end ?_)))))
     obtain rfl:=someI hb2
     exact ⟨rfl,hF.sub ⟨rfl,rfl,rfl,rfl,trivial⟩,hS.mask [false]⟩
    ·have hb2:=cond_t hc4 hb2
     refine q_cond_t hF rfl hc4 (q_seq (q_region (q_x (v:=(.bool false)) hF hS (ex_assign rfl) rfl rfl fun a hF=>q_end (n_sq (q_ret (r_ib (r_sq ?_)))))))
     obtain rfl:=someI hb2
     refine ⟨nofun,.inr fun ho=>?_⟩
     subst ho
     refine r_ib (r_sq ?_)
     obtain rfl:=someI hr
     exact ret_of hF hS rfl (.tmp rfl .nil) rfl
  ·rintro e a w ⟨rfl,rfl,hF,hS⟩
   refine x_ib (n_sq ?_)
   refine q_seq (q_region (q_x (v:=(.bool true)) hF hS (ex_assign rfl) rfl rfl fun a hF=>q_end (n_sq (q_ret ?_))))
   obtain rfl:=someI hr
   exact ret_of hF hS rfl (.tmp rfl .nil) rfl
 ·have hr:=cond_t hc1 hr
  refine q_cond_t hF rfl hc1 (q_seq (q_region (q_x (v:=(.bool false)) hF hS (ex_assign rfl) rfl rfl fun a hF=>q_end (n_sq (q_ret (r_sq ?_))))))
  obtain rfl:=someI hr
  exact ret_of hF hS rfl (.tmp rfl .nil) rfl

theorem c_spec_rGood (p_s : List impl_Variable) (p_r : impl_Record) (r : Bool) (hr : spec_rGood p_s p_r = some r) (w0 : World) (m : Mem) (hv : Vis m w0) (s1 : Sl) (h1 : Rd m s1 p_s) (s2 : Sl) (h2 : Rd m s2 p_r.Values) :
  Ret Tryz.prog 100 [s1.v,(.agg #[(iV p_r.Area),(iV p_r.House),s2.v])] w0 (fun v _=>v = (.bool r)):=by
 unfold spec_rGood at hr
 refine ret_start Tryz.func100 rfl 19 rfl rfl m hv fun a hF hS=>q_seq (q_region (q_box (cs:=[(iV p_r.Area),(iV p_r.House),s2.v]) hF hS rfl rfl rfl fun a w b3 hF hS=>q_x (v:=(.bool false)) hF hS (ex_assign rfl) rfl rfl fun a hF=>q_end (n_sq (q_seq ?_))))
 obtain ⟨t_7,hj1,hr⟩:=bindS hr
 refine q_join (fun a w=>Fr a 19 [(4,(.bool t_7))]∧St [] w0 w m []) ?_ ?_
 ·refine q_region (q_x (v:=(.pointer (some ⟨b3,0,none⟩))) hF hS (ex_fieldAddr Tryz.underlying84 rfl sz3 rfl rfl) rfl rfl fun a hF=>q_x (v:=(iV p_r.Area)) hF hS (ex_load1 0 0 Tryz.underlying3 rfl rfl rfl rfl) rfl rfl fun a hF=>?_)
  obtain ⟨t_4,ht_4,hj1⟩:=bindS hj1
  refine q_call (vs:=[(iV p_r.Area),(iV 0),(iV 29)]) hF hS Tryz.func38 (by kernel_rfl) rfl rfl rfl (c_spec_l1In p_r.Area 0 29 t_4 ht_4 _ m hS.vis) ?_
  rintro a w _ rfl hF hS
  refine q_x (v:=(.bool t_4)) hF hS (ex_move rfl) rfl rfl fun a hF=>?_
  rcases bcase (t_4) with hc2 | hc2
  ·have hj1:=cond_f hc2 hj1
   refine q_skip hF (wanted_f hF rfl rfl rfl hc2 rfl) rfl fun a hF=>q_skip hF (wanted_f hF rfl rfl rfl hc2 rfl) rfl fun a hF=>q_skip hF (wanted_f hF rfl rfl rfl hc2 rfl) rfl fun a hF=>q_x (v:=(.bool false)) hF hS (ex_pick_f rfl rfl hc2) rfl rfl fun a hF=>q_x (v:=(.bool false)) hF hS (ex_move rfl) rfl rfl fun a hF=>q_skip hF (wanted_f hF rfl rfl rfl rfl rfl) rfl fun a hF=>q_skip hF (wanted_f hF rfl rfl rfl rfl rfl) rfl fun a hF=>q_skip hF (wanted_f hF rfl rfl rfl rfl rfl) rfl fun a hF=>q_skip hF (wanted_f hF rfl rfl rfl rfl rfl) rfl fun a hF=>q_x (v:=(.bool false)) hF hS (ex_pick_f rfl rfl rfl) rfl rfl fun a hF=>q_x (v:=(.bool false)) hF hS (ex_assign rfl) rfl rfl fun a hF=>q_end (n_jn ?_)
   obtain rfl:=someI hj1
   exact ⟨hF.sub ⟨rfl,trivial⟩,hS.mask [false]⟩
  ·have hj1:=cond_t hc2 hj1
   refine q_xg (v:=(.pointer (some ⟨b3,1,none⟩))) hF hS (ex_fieldAddr Tryz.underlying84 rfl sz3 rfl rfl) (wanted_t hF rfl rfl rfl hc2) rfl fun a hF=>q_xg (v:=(iV p_r.House)) hF hS (ex_load1 0 0 Tryz.underlying3 rfl rfl rfl rfl) (wanted_t hF rfl rfl rfl hc2) rfl fun a hF=>?_
   obtain ⟨t_5,ht_5,hj1⟩:=bindS hj1
   refine q_callg (vs:=[(iV p_r.House),(iV 0),(iV 999)]) hF hS (wanted_t hF rfl rfl rfl hc2) Tryz.func38 (by kernel_rfl) rfl rfl rfl (c_spec_l1In p_r.House 0 999 t_5 ht_5 _ m hS.vis) ?_
   rintro a w _ rfl hF hS
   refine q_x (v:=(.bool t_5)) hF hS (ex_pick_t rfl rfl hc2) rfl rfl fun a hF=>q_x (v:=(.bool t_5)) hF hS (ex_move rfl) rfl rfl fun a hF=>?_
   rcases bcase (t_5) with hc3 | hc3
   ·have hj1:=cond_f hc3 hj1
    refine q_skip hF (wanted_f hF rfl rfl rfl hc3 rfl) rfl fun a hF=>q_skip hF (wanted_f hF rfl rfl rfl hc3 rfl) rfl fun a hF=>q_skip hF (wanted_f hF rfl rfl rfl hc3 rfl) rfl fun a hF=>q_skip hF (wanted_f hF rfl rfl rfl hc3 rfl) rfl fun a hF=>q_x (v:=(.bool false)) hF hS (ex_pick_f rfl rfl hc3) rfl rfl fun a hF=>q_x (v:=(.bool false)) hF hS (ex_assign rfl) rfl rfl fun a hF=>q_end (n_jn ?_)
    obtain rfl:=someI hj1
    exact ⟨hF.sub ⟨rfl,trivial⟩,hS.mask [false]⟩
   ·have hj1:=cond_t hc3 hj1
    refine q_xg (v:=s1.v) hF hS (ex_move rfl) (wanted_t hF rfl rfl rfl hc3) rfl fun a hF=>q_xg (v:=(.pointer (some ⟨b3,2,none⟩))) hF hS (ex_fieldAddr Tryz.underlying84 rfl sz24 rfl rfl) (wanted_t hF rfl rfl rfl hc3) rfl fun a hF=>q_xg (v:=s2.v) hF hS (ex_load1 0 0 Tryz.underlying24 rfl rfl rfl rfl) (wanted_t hF rfl rfl rfl hc3) rfl fun a hF=>?_
    obtain ⟨t_6,ht_6,hj1⟩:=bindS hj1
    refine q_callg (vs:=[s1.v,s2.v]) hF hS (wanted_t hF rfl rfl rfl hc3) Tryz.func106 (by kernel_rfl) rfl rfl rfl (c_spec_sFits p_s p_r.Values t_6 ht_6 _ m hS.vis s1 h1 s2 h2) ?_
    rintro a w _ rfl hF hS
    refine q_x (v:=(.bool t_6)) hF hS (ex_pick_t rfl rfl hc3) rfl rfl fun a hF=>q_x (v:=(.bool t_6)) hF hS (ex_assign rfl) rfl rfl fun a hF=>q_end (n_jn ?_)
    obtain rfl:=someI hj1
    exact ⟨hF.sub ⟨rfl,trivial⟩,hS.mask [false]⟩
 ·rintro a w ⟨hF,hS⟩
  refine n_sq (q_ret ?_)
  obtain rfl:=someI hr
  exact ret_of hF hS rfl (.tmp rfl .nil) rfl

theorem c_spec_dGood (p_s : List impl_Variable) (p_l : List impl_Record) (r : Bool) (hr : spec_dGood p_s p_l = some r) (w0 : World) (m : Mem) (hv : Vis m w0) (s1 : Sl) (h1 : Rd m s1 p_s) (s2 : Sl) (h2 : Rd m s2 p_l) :
  Ret Tryz.prog 81 [s1.v,s2.v] w0 (fun v _=>v = (.bool r)):=by
 unfold spec_dGood at hr
 refine ret_start Tryz.func81 rfl 21 rfl rfl m hv fun a hF hS=>q_seq (q_region (q_x (v:=(.bool false)) hF hS (ex_assign rfl) rfl rfl fun a hF=>q_end (n_sq (q_seq (q_seq (q_region (q_x (v:=s2.v) hF hS (ex_move rfl) rfl rfl fun a hF=>q_x (v:=(iV (goLen p_l))) hF hS (ex_len Tryz.underlying46 rfl h2.len) rfl rfl fun a hF=>q_x (v:=(iV 0)) hF hS (ex_move rfl) rfl rfl fun a hF=>q_end (n_sq (q_block ?_)))))))))
 obtain ⟨o1,hl1,hr⟩:=bindS hr
 refine q_loop (fun (t_3 : Int) a w=>Fr a 21 [(0,s1.v),(1,s2.v),(7,s2.v),(8,(iV (goLen p_l))),(9,(iV t_3))]∧St [] w0 w m []) (fun (o : (Unit) ⊕ (Bool)) e a w=>o = .inl ()∧e = .exit 0∧Fr a 21 [(1,s2.v)]∧St [] w0 w m []) hl1 ⟨hF.sub ⟨rfl,rfl,rfl,rfl,rfl,trivial⟩,hS⟩ ?_ ?_
 ·clear hF hS
  rintro t_3 a w st ⟨hF,hS⟩ hb1
  unfold spec_dGood_l1 at hb1
  refine q_seq (q_region (q_x (v:=(.bool (decide (t_3 < (goLen p_l))))) hF hS (ex_ibin rfl rfl rfl) rfl rfl fun a hF=>q_end (n_sq (q_seq ?_))))
  rcases bcase (decide (t_3 < (goLen p_l))) with hc2 | hc2
  ·have hb1:=cond_f hc2 hb1
   refine q_cond_f hF rfl hc2 (q_exit (x_sq ?_))
   obtain rfl:=someI hb1
   exact ⟨nofun,.inl ⟨rfl,rfl,hF.sub ⟨rfl,trivial⟩,hS⟩⟩
  ·have hb1:=cond_t hc2 hb1
   refine q_cond_t hF rfl hc2 (q_skipc (n_sq (q_seq (q_block (q_seq (q_region ?_))))))
   obtain ⟨e_4,he_4,hb1⟩:=bindS hb1
   obtain ⟨vs5,at5,d5⟩:=h2.at he_4 3 rfl
   obtain ⟨s6,rfl,h6⟩ : ∃ s6 : Sl,vs5 = [(iV e_4.Area),(iV e_4.House),s6.v]∧Rd m s6 e_4.Values:=d5
   refine q_x (v:=(elP s2 (t_3.toNat * 3))) hF hS (ex_indexAddr Tryz.underlying46 sz84 rfl rfl (h2.idx he_4)) rfl rfl fun a hF=>q_x (v:=(.agg #[(iV e_4.Area),(iV e_4.House),s6.v])) hF hS (ex_loadEA (us:=[(iV e_4.Area),(iV e_4.House),s6.v]) 0 Tryz.underlying84 rfl sz84 rfl ((at5).at) rfl rfl rfl) rfl rfl fun a hF=>q_alloc (cs:=[(iV 0),(iV 0),nilS.v]) hF hS rfl rfl rfl fun a w b7 hF hS=>q_store (vs:=[(iV e_4.Area),(iV e_4.House),s6.v]) (cs':=[(iV e_4.Area),(iV e_4.House),s6.v]) 0 0 hF hS sz84 rfl rfl rfl rfl rfl rfl rfl rfl fun a w hF hS=>q_end (n_sq (q_seq (q_region (q_x (v:=s1.v) hF hS (ex_move rfl) rfl rfl fun a hF=>q_x (v:=(.agg #[(iV e_4.Area),(iV e_4.House),s6.v])) hF hS (ex_loadA (vs:=[(iV e_4.Area),(iV e_4.House),s6.v]) 0 0 Tryz.underlying84 rfl sz84 rfl rfl rfl rfl) rfl rfl fun a hF=>?_))))
   obtain ⟨t_8,ht_8,hb1⟩:=bindS hb1
   refine q_call (vs:=[s1.v,(.agg #[(iV e_4.Area),(iV e_4.House),s6.v])]) hF hS Tryz.func100 (by kernel_rfl) rfl rfl rfl (c_spec_rGood p_s e_4 t_8 ht_8 _ m hS.vis s1 h1 s6 h6) ?_
   rintro a w _ rfl hF hS
   refine q_x (v:=(.bool (!t_8))) hF hS (ex_not rfl) rfl rfl fun a hF=>q_end (n_sq ?_)
   rcases bcase (!t_8) with hc3 | hc3
   ·have hb1:=cond_f hc3 hb1
    refine q_cond_f hF rfl hc3 (q_skipc (n_ib (n_sq (q_region (q_x (v:=(iV (w64 (t_3 + 1)))) hF hS (ex_ibin rfl rfl rfl) rfl rfl fun a hF=>q_x (v:=(iV (w64 (t_3 + 1)))) hF hS (ex_move rfl) rfl rfl fun a hF=>q_end ?_)))))
    obtain rfl:=someI hb1
    exact ⟨rfl,hF.sub ⟨rfl,rfl,rfl,rfl,rfl,trivial⟩,hS.mask [false]⟩
   ·have hb1:=cond_t hc3 hb1
    refine q_cond_t hF rfl hc3 (q_seq (q_region (q_x (v:=(.bool false)) hF hS (ex_assign rfl) rfl rfl fun a hF=>q_end (n_sq (q_ret (r_ib (r_sq ?_)))))))
    obtain rfl:=someI hb1
    refine ⟨nofun,.inr fun ho=>?_⟩
    subst ho
    refine r_ib (r_sq ?_)
    obtain rfl:=someI hr
    exact ret_of hF hS rfl (.tmp rfl .nil) rfl
 ·rintro e a w ⟨rfl,rfl,hF,hS⟩
  refine x_ib (n_sq ?_)
  refine q_seq (q_region (q_x (v:=s2.v) hF hS (ex_move rfl) rfl rfl fun a hF=>q_x (v:=(iV (goLen p_l))) hF hS (ex_len Tryz.underlying46 rfl h2.len) rfl rfl fun a hF=>q_x (v:=(.bool (decide ((goLen p_l) ≤ 40)))) hF hS (ex_ibin rfl rfl rfl) rfl rfl fun a hF=>q_x (v:=(.bool (decide ((goLen p_l) ≤ 40)))) hF hS (ex_assign rfl) rfl rfl fun a hF=>q_end (n_sq (q_ret ?_))))
  obtain rfl:=someI hr
  exact ret_of hF hS rfl (.tmp rfl .nil) rfl

theorem c_spec_dInput (p_s : List impl_Variable) (p_l : List impl_Record) (r : Bool) (hr : spec_dInput p_s p_l = some r) (w0 : World) (m : Mem) (hv : Vis m w0) (s1 : Sl) (h1 : Rd m s1 p_s) (s2 : Sl) (h2 : Rd m s2 p_l) :
  Ret Tryz.prog 51 [s1.v,s2.v] w0 (fun v _=>v = (.bool r)):=by
 unfold spec_dInput at hr
 refine ret_start Tryz.func51 rfl 12 rfl rfl m hv fun a hF hS=>q_seq (q_region (q_x (v:=(.bool false)) hF hS (ex_assign rfl) rfl rfl fun a hF=>q_end (n_sq (q_seq ?_))))
 obtain ⟨t_5,hj1,hr⟩:=bindS hr
 refine q_join (fun a w=>Fr a 12 [(4,(.bool t_5))]∧St [] w0 w m []) ?_ ?_
 ·refine q_region (q_x (v:=s1.v) hF hS (ex_move rfl) rfl rfl fun a hF=>?_)
  obtain ⟨t_3,ht_3,hj1⟩:=bindS hj1
  refine q_call (vs:=[s1.v]) hF hS Tryz.func47 (by kernel_rfl) rfl rfl rfl (c_spec_sGood p_s t_3 ht_3 _ m hS.vis s1 h1) ?_
  rintro a w _ rfl hF hS
  refine q_x (v:=(.bool t_3)) hF hS (ex_move rfl) rfl rfl fun a hF=>?_
  rcases bcase (t_3) with hc2 | hc2
  ·have hj1:=cond_f hc2 hj1
   refine q_skip hF (wanted_f hF rfl rfl rfl hc2 rfl) rfl fun a hF=>q_skip hF (wanted_f hF rfl rfl rfl hc2 rfl) rfl fun a hF=>q_skip hF (wanted_f hF rfl rfl rfl hc2 rfl) rfl fun a hF=>q_x (v:=(.bool false)) hF hS (ex_pick_f rfl rfl hc2) rfl rfl fun a hF=>q_x (v:=(.bool false)) hF hS (ex_assign rfl) rfl rfl fun a hF=>q_end (n_jn ?_)
   obtain rfl:=someI hj1
   exact ⟨hF.sub ⟨rfl,trivial⟩,hS⟩
  ·have hj1:=cond_t hc2 hj1
   refine q_xg (v:=s1.v) hF hS (ex_move rfl) (wanted_t hF rfl rfl rfl hc2) rfl fun a hF=>q_xg (v:=s2.v) hF hS (ex_move rfl) (wanted_t hF rfl rfl rfl hc2) rfl fun a hF=>?_
   obtain ⟨t_4,ht_4,hj1⟩:=bindS hj1
   refine q_callg (vs:=[s1.v,s2.v]) hF hS (wanted_t hF rfl rfl rfl hc2) Tryz.func81 (by kernel_rfl) rfl rfl rfl (c_spec_dGood p_s p_l t_4 ht_4 _ m hS.vis s1 h1 s2 h2) ?_
   rintro a w _ rfl hF hS
   refine q_x (v:=(.bool t_4)) hF hS (ex_pick_t rfl rfl hc2) rfl rfl fun a hF=>q_x (v:=(.bool t_4)) hF hS (ex_assign rfl) rfl rfl fun a hF=>q_end (n_jn ?_)
   obtain rfl:=someI hj1
   exact ⟨hF.sub ⟨rfl,trivial⟩,hS⟩
 ·rintro a w ⟨hF,hS⟩
  refine n_sq (q_ret ?_)
  obtain rfl:=someI hr
  exact ret_of hF hS rfl (.tmp rfl .nil) rfl

theorem c_spec_l1Has (p_l : List Int) (p_n : Int) (r : Bool) (hr : spec_l1Has p_l p_n = some r) (w0 : World) (m : Mem) (hv : Vis m w0) (s1 : Sl) (h1 : Rd m s1 p_l) :
  Ret Tryz.prog 53 [s1.v,(iV p_n)] w0 (fun v _=>v = (.bool r)):=by
 unfold spec_l1Has at hr
 refine ret_start Tryz.func53 rfl 17 rfl rfl m hv fun a hF hS=>q_seq (q_region (q_x (v:=(.bool false)) hF hS (ex_assign rfl) rfl rfl fun a hF=>q_end (n_sq (q_seq (q_seq (q_region (q_x (v:=s1.v) hF hS (ex_move rfl) rfl rfl fun a hF=>q_x (v:=(iV (goLen p_l))) hF hS (ex_len Tryz.underlying24 rfl h1.len) rfl rfl fun a hF=>q_x (v:=(iV 0)) hF hS (ex_move rfl) rfl rfl fun a hF=>q_end (n_sq (q_block ?_)))))))))
 obtain ⟨o1,hl1,hr⟩:=bindS hr
 refine q_loop (fun (t_2 : Int) a w=>Fr a 17 [(1,(iV p_n)),(7,s1.v),(8,(iV (goLen p_l))),(9,(iV t_2))]∧St [] w0 w m []) (fun (o : (Unit) ⊕ (Bool)) e a w=>o = .inl ()∧e = .exit 0∧Fr a 17 []∧St [] w0 w m []) hl1 ⟨hF.sub ⟨rfl,rfl,rfl,rfl,trivial⟩,hS⟩ ?_ ?_
 ·clear hF hS
  rintro t_2 a w st ⟨hF,hS⟩ hb1
  unfold spec_l1Has_l1 at hb1
  refine q_seq (q_region (q_x (v:=(.bool (decide (t_2 < (goLen p_l))))) hF hS (ex_ibin rfl rfl rfl) rfl rfl fun a hF=>q_end (n_sq (q_seq ?_))))
  rcases bcase (decide (t_2 < (goLen p_l))) with hc2 | hc2
  ·have hb1:=cond_f hc2 hb1
   refine q_cond_f hF rfl hc2 (q_exit (x_sq ?_))
   obtain rfl:=someI hb1
   exact ⟨nofun,.inl ⟨rfl,rfl,hF.sub trivial,hS⟩⟩
  ·have hb1:=cond_t hc2 hb1
   refine q_cond_t hF rfl hc2 (q_skipc (n_sq (q_seq (q_block (q_seq (q_region ?_))))))
   obtain ⟨e_3,he_3,hb1⟩:=bindS hb1
   obtain ⟨vs4,at4,d4⟩:=h1.at he_3 1 rfl
   obtain rfl : vs4 = [(iV e_3)]:=d4
   refine q_x (v:=(elP s1 (t_2.toNat * 1))) hF hS (ex_indexAddr Tryz.underlying24 sz3 rfl rfl (h1.idx he_3)) rfl rfl fun a hF=>q_x (v:=(iV e_3)) hF hS (ex_loadE1 0 Tryz.underlying3 rfl rfl ((at4).at) rfl rfl) rfl rfl fun a hF=>q_x (v:=(iV e_3)) hF hS (ex_assign rfl) rfl rfl fun a hF=>q_end (n_sq (q_seq (q_region (q_x (v:=(iV e_3)) hF hS (ex_move rfl) rfl rfl fun a hF=>q_x (v:=(iV p_n)) hF hS (ex_move rfl) rfl rfl fun a hF=>q_x (v:=(.bool (e_3 == p_n))) hF hS (ex_ibin rfl rfl rfl) rfl rfl fun a hF=>q_end (n_sq ?_)))))
   rcases bcase (e_3 == p_n) with hc3 | hc3
   ·have hb1:=cond_f hc3 hb1
    refine q_cond_f hF rfl hc3 (q_skipc (n_ib (n_sq (q_region (q_x (v:=(iV (w64 (t_2 + 1)))) hF hS (ex_ibin rfl rfl rfl) rfl rfl fun a hF=>q_x (v:=(iV (w64 (t_2 + 1)))) hF hS (ex_move rfl) rfl rfl fun a hF=>q_end ?_)))))
    obtain rfl:=someI hb1
    exact ⟨rfl,hF.sub ⟨rfl,rfl,rfl,rfl,trivial⟩,hS⟩
   ·have hb1:=cond_t hc3 hb1
    refine q_cond_t hF rfl hc3 (q_seq (q_region (q_x (v:=(.bool true)) hF hS (ex_assign rfl) rfl rfl fun a hF=>q_end (n_sq (q_ret (r_ib (r_sq ?_)))))))
    obtain rfl:=someI hb1
    refine ⟨nofun,.inr fun ho=>?_⟩
    subst ho
    refine r_ib (r_sq ?_)
    obtain rfl:=someI hr
    exact ret_of hF hS rfl (.tmp rfl .nil) rfl
 ·rintro e a w ⟨rfl,rfl,hF,hS⟩
  refine x_ib (n_sq ?_)
  refine q_seq (q_region (q_x (v:=(.bool false)) hF hS (ex_assign rfl) rfl rfl fun a hF=>q_end (n_sq (q_ret ?_))))
  obtain rfl:=someI hr
  exact ret_of hF hS rfl (.tmp rfl .nil) rfl

theorem c_spec_uSurvey (p_g : impl_Geo) (p_s : List impl_Variable) (p_l : List impl_Record) (r : Bool) (hr : spec_uSurvey p_g p_s p_l = some r) (w0 : World) (m : Mem) (hv : Vis m w0) (s1 : Sl) (h1 : Rd m s1 p_g.Parents) (s2 : Sl) (h2 : Rd m s2 p_s) (s3 : Sl) (h3 : Rd m s3 p_l) :
  Ret Tryz.prog 18 [(.agg #[s1.v]),s2.v,s3.v] w0 (fun v _=>v = (.bool r)):=by
 unfold spec_uSurvey at hr
 refine ret_start Tryz.func18 rfl 33 rfl rfl m hv fun a hF hS=>q_seq (q_region (q_box (cs:=[s1.v]) hF hS rfl rfl rfl fun a w b4 hF hS=>q_x (v:=(.bool false)) hF hS (ex_assign rfl) rfl rfl fun a hF=>q_end (n_sq (q_seq (q_seq ?_)))))
 obtain ⟨t_7,hj1,hr⟩:=bindS hr
 refine q_join (fun a w=>Fr a 33 [(2,s3.v),(3,(.pointer (some ⟨b4,0,none⟩))),(18,(.bool t_7))]∧St [] w0 w m [[⟨b4,[s1.v],26⟩]]) ?_ ?_
 ·refine q_region (q_x (v:=(.agg #[s1.v])) hF hS (ex_loadA (vs:=[s1.v]) 0 0 Tryz.underlying26 rfl sz26 rfl rfl rfl rfl) rfl rfl fun a hF=>?_)
  obtain ⟨t_5,ht_5,hj1⟩:=bindS hj1
  refine q_call (vs:=[(.agg #[s1.v])]) hF hS Tryz.func46 (by kernel_rfl) rfl rfl rfl (c_spec_gGood p_g t_5 ht_5 _ m hS.vis s1 h1) ?_
  rintro a w _ rfl hF hS
  refine q_x (v:=(.bool (!t_5))) hF hS (ex_not rfl) rfl rfl fun a hF=>q_x (v:=(.bool (!t_5))) hF hS (ex_move rfl) rfl rfl fun a hF=>?_
  rcases bcase (!t_5) with hc2 | hc2
  ·have hj1:=cond_f hc2 hj1
   refine q_xg (v:=s2.v) hF hS (ex_move rfl) (wanted_t hF rfl rfl rfl hc2) rfl fun a hF=>q_xg (v:=s3.v) hF hS (ex_move rfl) (wanted_t hF rfl rfl rfl hc2) rfl fun a hF=>?_
   obtain ⟨t_6,ht_6,hj1⟩:=bindS hj1
   refine q_callg (vs:=[s2.v,s3.v]) hF hS (wanted_t hF rfl rfl rfl hc2) Tryz.func51 (by kernel_rfl) rfl rfl rfl (c_spec_dInput p_s p_l t_6 ht_6 _ m hS.vis s2 h2 s3 h3) ?_
   rintro a w _ rfl hF hS
   refine q_xg (v:=(.bool (!t_6))) hF hS (ex_not rfl) (wanted_t hF rfl rfl rfl hc2) rfl fun a hF=>q_x (v:=(.bool (!t_6))) hF hS (ex_pick_f rfl rfl hc2) rfl rfl fun a hF=>q_end (n_jn ?_)
   obtain rfl:=someI hj1
   exact ⟨hF.sub ⟨rfl,rfl,rfl,trivial⟩,hS⟩
  ·have hj1:=cond_t hc2 hj1
   refine q_skip hF (wanted_f hF rfl rfl rfl hc2 rfl) rfl fun a hF=>q_skip hF (wanted_f hF rfl rfl rfl hc2 rfl) rfl fun a hF=>q_skip hF (wanted_f hF rfl rfl rfl hc2 rfl) rfl fun a hF=>q_skip hF (wanted_f hF rfl rfl rfl hc2 rfl) rfl fun a hF=>q_x (v:=(.bool true)) hF hS (ex_pick_t rfl rfl hc2) rfl rfl fun a hF=>q_end (n_jn ?_)
   obtain rfl:=someI hj1
   exact ⟨hF.sub ⟨rfl,rfl,rfl,trivial⟩,hS⟩
 ·rintro a w ⟨hF,hS⟩
  refine n_sq ?_
  rcases bcase (t_7) with hc3 | hc3
  ·have hr:=cond_f hc3 hr
   refine q_cond_f hF rfl hc3 (q_skipc (n_sq (q_seq (q_region (q_x (v:=(.agg #[s1.v])) hF hS (ex_loadA (vs:=[s1.v]) 0 0 Tryz.underlying26 rfl sz26 rfl rfl rfl rfl) rfl rfl fun a hF=>?_)))))
   obtain ⟨t_8,ht_8,hr⟩:=bindS hr
   refine q_call (vs:=[(.agg #[s1.v])]) hF hS Tryz.func52 (by kernel_rfl) rfl rfl rfl (c_spec_gLeaves p_g t_8 ht_8 _ m hS.vis s1 h1) ?_
   rintro a w _ ⟨q10,s10,rfl,hR9,h10⟩ hF hS2
   have hS : St _ _ _ _ [q10,[⟨b4,[s1.v],26⟩]]:=hS.joinF hR9
   refine q_x (v:=s10.v) hF hS (ex_assign rfl) rfl rfl fun a hF=>q_end (n_sq (q_seq (q_seq (q_region (q_x (v:=s3.v) hF hS (ex_move rfl) rfl rfl fun a hF=>q_x (v:=(iV (goLen p_l))) hF hS (ex_len Tryz.underlying46 rfl h3.len) rfl rfl fun a hF=>q_x (v:=(iV 0)) hF hS (ex_move rfl) rfl rfl fun a hF=>q_end (n_sq (q_block ?_)))))))
   obtain ⟨o4,hl4,hr⟩:=bindS hr
   refine q_loop (fun (t_11 : Int) a w=>Fr a 33 [(7,s10.v),(21,s3.v),(22,(iV (goLen p_l))),(23,(iV t_11))]∧St [] w0 w m [q10]) (fun (o : (Unit) ⊕ (Bool)) e a w=>o = .inl ()∧e = .exit 0∧Fr a 33 []∧St [] w0 w m []) hl4 ⟨hF.sub ⟨rfl,rfl,rfl,rfl,trivial⟩,hS.mask [true,false]⟩ ?_ ?_
   ·clear hF hS
    rintro t_11 a w st ⟨hF,hS⟩ hb4
    unfold spec_uSurvey_l1 at hb4
    refine q_seq (q_region (q_x (v:=(.bool (decide (t_11 < (goLen p_l))))) hF hS (ex_ibin rfl rfl rfl) rfl rfl fun a hF=>q_end (n_sq (q_seq ?_))))
    rcases bcase (decide (t_11 < (goLen p_l))) with hc5 | hc5
    ·have hb4:=cond_f hc5 hb4
     refine q_cond_f hF rfl hc5 (q_exit (x_sq ?_))
     obtain rfl:=someI hb4
     exact ⟨nofun,.inl ⟨rfl,rfl,hF.sub trivial,hS.mask [false]⟩⟩
    ·have hb4:=cond_t hc5 hb4
     refine q_cond_t hF rfl hc5 (q_skipc (n_sq (q_seq (q_block (q_seq (q_region ?_))))))
     obtain ⟨e_12,he_12,hb4⟩:=bindS hb4
     obtain ⟨vs13,at13,d13⟩:=h3.at he_12 3 rfl
     obtain ⟨s14,rfl,h14⟩ : ∃ s14 : Sl,vs13 = [(iV e_12.Area),(iV e_12.House),s14.v]∧Rd m s14 e_12.Values:=d13
     refine q_x (v:=(elP s3 (t_11.toNat * 3))) hF hS (ex_indexAddr Tryz.underlying46 sz84 rfl rfl (h3.idx he_12)) rfl rfl fun a hF=>q_x (v:=(.agg #[(iV e_12.Area),(iV e_12.House),s14.v])) hF hS (ex_loadEA (us:=[(iV e_12.Area),(iV e_12.House),s14.v]) 0 Tryz.underlying84 rfl sz84 rfl ((at13).at) rfl rfl rfl) rfl rfl fun a hF=>q_alloc (cs:=[(iV 0),(iV 0),nilS.v]) hF hS rfl rfl rfl fun a w b15 hF hS=>q_store (vs:=[(iV e_12.Area),(iV e_12.House),s14.v]) (cs':=[(iV e_12.Area),(iV e_12.House),s14.v]) 0 0 hF hS sz84 rfl rfl rfl rfl rfl rfl rfl rfl fun a w hF hS=>q_end (n_sq (q_seq (q_region (q_x (v:=s10.v) hF hS (ex_move rfl) rfl rfl fun a hF=>q_x (v:=(.pointer (some ⟨b15,0,none⟩))) hF hS (ex_fieldAddr Tryz.underlying84 rfl sz3 rfl rfl) rfl rfl fun a hF=>q_x (v:=(iV e_12.Area)) hF hS (ex_load1 0 0 Tryz.underlying3 rfl rfl rfl rfl) rfl rfl fun a hF=>?_))))
     obtain ⟨m17,hl17,hv17,hz17⟩:=hS.lend
     obtain ⟨t_16,ht_16,hb4⟩:=bindS hb4
     refine q_call (vs:=[s10.v,(iV e_12.Area)]) hF hS Tryz.func53 (by kernel_rfl) rfl rfl rfl (c_spec_l1Has t_8 e_12.Area t_16 ht_16 _ m17 hv17 s10 (h10.froz hl17 (hz17 1 _ rfl))) ?_
     rintro a w _ rfl hF hS
     refine q_x (v:=(.bool (!t_16))) hF hS (ex_not rfl) rfl rfl fun a hF=>q_end (n_sq ?_)
     rcases bcase (!t_16) with hc6 | hc6
     ·have hb4:=cond_f hc6 hb4
      refine q_cond_f hF rfl hc6 (q_skipc (n_ib (n_sq (q_region (q_x (v:=(iV (w64 (t_11 + 1)))) hF hS (ex_ibin rfl rfl rfl) rfl rfl fun a hF=>q_x (v:=(iV (w64 (t_11 + 1)))) hF hS (ex_move rfl) rfl rfl fun a hF=>q_end ?_)))))
      obtain rfl:=someI hb4
      exact ⟨rfl,hF.sub ⟨rfl,rfl,rfl,rfl,trivial⟩,hS.mask [false,true]⟩
     ·have hb4:=cond_t hc6 hb4
      refine q_cond_t hF rfl hc6 (q_seq (q_region (q_x (v:=(.bool false)) hF hS (ex_assign rfl) rfl rfl fun a hF=>q_end (n_sq (q_ret (r_ib (r_sq ?_)))))))
      obtain rfl:=someI hb4
      refine ⟨nofun,.inr fun ho=>?_⟩
      subst ho
      refine r_ib (r_sq ?_)
      obtain rfl:=someI hr
      exact ret_of hF hS rfl (.tmp rfl .nil) rfl
   ·rintro e a w ⟨rfl,rfl,hF,hS⟩
    refine x_ib (n_sq ?_)
    refine q_seq (q_region (q_x (v:=(.bool true)) hF hS (ex_assign rfl) rfl rfl fun a hF=>q_end (n_sq (q_ret ?_))))
    obtain rfl:=someI hr
    exact ret_of hF hS rfl (.tmp rfl .nil) rfl
  ·have hr:=cond_t hc3 hr
   refine q_cond_t hF rfl hc3 (q_seq (q_region (q_x (v:=(.bool false)) hF hS (ex_assign rfl) rfl rfl fun a hF=>q_end (n_sq (q_ret (r_sq ?_))))))
   obtain rfl:=someI hr
   exact ret_of hF hS rfl (.tmp rfl .nil) rfl

theorem c_spec_gUp (p_g : impl_Geo) (p_i : Int) (p_level : Int) (r : Int) (hr : spec_gUp p_g p_i p_level = some r) (w0 : World) (m : Mem) (hv : Vis m w0) (s1 : Sl) (h1 : Rd m s1 p_g.Parents) :
  Ret Tryz.prog 83 [(.agg #[s1.v]),(iV p_i),(iV p_level)] w0 (fun v _=>v = (iV r)):=by
 unfold spec_gUp at hr
 refine ret_start Tryz.func83 rfl 27 rfl rfl m hv fun a hF hS=>q_seq (q_region (q_box (cs:=[s1.v]) hF hS rfl rfl rfl fun a w b2 hF hS=>q_x (v:=(iV 0)) hF hS (ex_assign rfl) rfl rfl fun a hF=>q_end (n_sq (q_seq (q_region (q_x (v:=(.agg #[s1.v])) hF hS (ex_loadA (vs:=[s1.v]) 0 0 Tryz.underlying26 rfl sz26 rfl rfl rfl rfl) rfl rfl fun a hF=>q_x (v:=(iV p_i)) hF hS (ex_move rfl) rfl rfl fun a hF=>?_))))))
 obtain ⟨t_3,ht_3,hr⟩:=bindS hr
 refine q_call (vs:=[(.agg #[s1.v]),(iV p_i)]) hF hS Tryz.func80 (by kernel_rfl) rfl rfl rfl (c_spec_gDepth p_g p_i t_3 ht_3 _ m hS.vis s1 h1) ?_
 rintro a w _ rfl hF hS
 refine q_x (v:=(iV t_3)) hF hS (ex_assign rfl) rfl rfl fun a hF=>q_end (n_sq (q_seq (q_seq (q_region (q_x (v:=(iV p_level)) hF hS (ex_move rfl) rfl rfl fun a hF=>q_x (v:=(.bool (decide (p_level < 0)))) hF hS (ex_ibin rfl rfl rfl) rfl rfl fun a hF=>q_end (n_sq ?_))))))
 rcases bcase (decide (p_level < 0)) with hc1 | hc1
 ·have hr:=cond_f hc1 hr
  refine q_cond_f hF rfl hc1 (q_skipc (n_sq (q_seq (q_block ?_))))
  obtain ⟨o2,hl2,hr⟩:=bindS hr
  refine q_loop (fun (s : Int × Int) a w=>∃ i_4,∃ d_5,s = (i_4,d_5)∧Fr a 27 [(1,(iV i_4)),(2,(iV p_level)),(3,(.pointer (some ⟨b2,0,none⟩))),(7,(iV d_5))]∧St [] w0 w m [[⟨b2,[s1.v],26⟩]]) (fun (o : Int × Int) e a w=>∃ i_8,∃ d_9,o = (i_8,d_9)∧e = .exit 0∧Fr a 27 [(1,(iV i_8)),(2,(iV p_level)),(7,(iV d_9))]∧St [] w0 w m []) hl2 ⟨_,_,rfl,hF.sub ⟨rfl,rfl,rfl,rfl,trivial⟩,hS⟩ ?_ ?_
  ·clear hF hS
   rintro s a w st ⟨i_4,d_5,rfl,hF,hS⟩ hb2
   unfold spec_gUp_l1 at hb2
   refine q_seq (q_seq (q_region (q_x (v:=(iV d_5)) hF hS (ex_move rfl) rfl rfl fun a hF=>q_x (v:=(iV p_level)) hF hS (ex_move rfl) rfl rfl fun a hF=>q_x (v:=(.bool (decide (p_level < d_5)))) hF hS (ex_ibin rfl rfl rfl) rfl rfl fun a hF=>q_end (n_sq ?_))))
   rcases bcase (decide (p_level < d_5)) with hc3 | hc3
   ·have hb2:=cond_f hc3 hb2
    refine q_cond_f hF rfl hc3 (q_exit (x_sq ?_))
    obtain rfl:=someI hb2
    exact ⟨nofun,.inl ⟨_,_,rfl,rfl,hF.sub ⟨rfl,rfl,rfl,trivial⟩,hS.mask [false]⟩⟩
   ·have hb2:=cond_t hc3 hb2
    refine q_cond_t hF rfl hc3 (q_skipc (n_sq (q_seq (q_block (q_region (q_x (v:=(.pointer (some ⟨b2,0,none⟩))) hF hS (ex_fieldAddr Tryz.underlying26 rfl sz24 rfl rfl) rfl rfl fun a hF=>q_x (v:=s1.v) hF hS (ex_load1 0 0 Tryz.underlying24 rfl rfl rfl rfl) rfl rfl fun a hF=>q_x (v:=(iV i_4)) hF hS (ex_move rfl) rfl rfl fun a hF=>?_))))))
    obtain ⟨e_6,he_6,hb2⟩:=bindS hb2
    obtain ⟨vs7,at7,d7⟩:=h1.at he_6 1 rfl
    obtain rfl : vs7 = [(iV e_6)]:=d7
    refine q_x (v:=(elP s1 (i_4.toNat * 1))) hF hS (ex_indexAddr Tryz.underlying24 sz3 rfl rfl (h1.idx he_6)) rfl rfl fun a hF=>q_x (v:=(iV e_6)) hF hS (ex_loadE1 0 Tryz.underlying3 rfl rfl ((at7).at) rfl rfl) rfl rfl fun a hF=>q_x (v:=(iV e_6)) hF hS (ex_assign rfl) rfl rfl fun a hF=>q_end (n_ib (n_sq (q_region (q_x (v:=(iV d_5)) hF hS (ex_move rfl) rfl rfl fun a hF=>q_x (v:=(iV (w64 (d_5 - 1)))) hF hS (ex_ibin rfl rfl rfl) rfl rfl fun a hF=>q_x (v:=(iV (w64 (d_5 - 1)))) hF hS (ex_assign rfl) rfl rfl fun a hF=>q_end ?_))))
    obtain rfl:=someI hb2
    exact ⟨rfl,_,_,rfl,hF.sub ⟨rfl,rfl,rfl,rfl,trivial⟩,hS⟩
  ·rintro e a w ⟨i_8,d_9,rfl,rfl,hF,hS⟩
   refine x_ib (n_sq ?_)
   refine q_seq (q_seq (q_region (q_x (v:=(iV d_9)) hF hS (ex_move rfl) rfl rfl fun a hF=>q_x (v:=(iV p_level)) hF hS (ex_move rfl) rfl rfl fun a hF=>q_x (v:=(.bool (decide (d_9 < p_level)))) hF hS (ex_ibin rfl rfl rfl) rfl rfl fun a hF=>q_end (n_sq ?_))))
   rcases bcase (decide (d_9 < p_level)) with hc4 | hc4
   ·have hr:=cond_f hc4 hr
    refine q_cond_f hF rfl hc4 (q_skipc (n_sq (q_seq (q_region (q_x (v:=(iV i_8)) hF hS (ex_move rfl) rfl rfl fun a hF=>q_x (v:=(iV i_8)) hF hS (ex_assign rfl) rfl rfl fun a hF=>q_end (n_sq (q_ret ?_)))))))
    obtain rfl:=someI hr
    exact ret_of hF hS rfl (.tmp rfl .nil) rfl
   ·have hr:=cond_t hc4 hr
    refine q_cond_t hF rfl hc4 (q_seq (q_region (q_x (v:=(iV (-1))) hF hS (ex_assign rfl) rfl rfl fun a hF=>q_end (n_sq (q_ret (r_sq ?_))))))
    obtain rfl:=someI hr
    exact ret_of hF hS rfl (.tmp rfl .nil) rfl
 ·have hr:=cond_t hc1 hr
  refine q_cond_t hF rfl hc1 (q_seq (q_region (q_x (v:=(iV (-1))) hF hS (ex_assign rfl) rfl rfl fun a hF=>q_end (n_sq (q_ret (r_sq ?_))))))
  obtain rfl:=someI hr
  exact ret_of hF hS rfl (.tmp rfl .nil) rfl

theorem c_spec_uMeets (p_t : impl_Table) (p_values : List Int) (r : Bool) (hr : spec_uMeets p_t p_values = some r) (w0 : World) (m : Mem) (hv : Vis m w0) (s1 : Sl) (h1 : Rd m s1 p_t.Vars) (s2 : Sl) (h2 : Rd m s2 p_t.Where) (s3 : Sl) (h3 : Rd m s3 p_values) :
  Ret Tryz.prog 84 [(.agg #[(iV p_t.Level),s1.v,s2.v,(iV p_t.Sum)]),s3.v] w0 (fun v _=>v = (.bool r)):=by
 unfold spec_uMeets at hr
 refine ret_start Tryz.func84 rfl 29 rfl rfl m hv fun a hF hS=>q_seq (q_region (q_box (cs:=[(iV p_t.Level),s1.v,s2.v,(iV p_t.Sum)]) hF hS rfl rfl rfl fun a w b4 hF hS=>q_x (v:=(.bool false)) hF hS (ex_assign rfl) rfl rfl fun a hF=>q_end (n_sq (q_seq (q_seq (q_region (q_x (v:=(.pointer (some ⟨b4,2,none⟩))) hF hS (ex_fieldAddr Tryz.underlying29 rfl sz24 rfl rfl) rfl rfl fun a hF=>q_x (v:=s2.v) hF hS (ex_load1 0 0 Tryz.underlying24 rfl rfl rfl rfl) rfl rfl fun a hF=>q_x (v:=(iV (goLen p_t.Where))) hF hS (ex_len Tryz.underlying24 rfl h2.len) rfl rfl fun a hF=>q_x (v:=(iV 0)) hF hS (ex_move rfl) rfl rfl fun a hF=>q_end (n_sq (q_block ?_)))))))))
 obtain ⟨o1,hl1,hr⟩:=bindS hr
 refine q_loop (fun (t_5 : Int) a w=>Fr a 29 [(1,s3.v),(8,s2.v),(9,(iV (goLen p_t.Where))),(10,(iV t_5))]∧St [] w0 w m []) (fun (o : (Unit) ⊕ (Bool)) e a w=>o = .inl ()∧e = .exit 0∧Fr a 29 []∧St [] w0 w m []) hl1 ⟨hF.sub ⟨rfl,rfl,rfl,rfl,trivial⟩,hS.mask [false]⟩ ?_ ?_
 ·clear hF hS
  rintro t_5 a w st ⟨hF,hS⟩ hb1
  unfold spec_uMeets_l1 at hb1
  refine q_seq (q_region (q_x (v:=(.bool (decide (t_5 < (goLen p_t.Where))))) hF hS (ex_ibin rfl rfl rfl) rfl rfl fun a hF=>q_end (n_sq (q_seq ?_))))
  rcases bcase (decide (t_5 < (goLen p_t.Where))) with hc2 | hc2
  ·have hb1:=cond_f hc2 hb1
   refine q_cond_f hF rfl hc2 (q_exit (x_sq ?_))
   obtain rfl:=someI hb1
   exact ⟨nofun,.inl ⟨rfl,rfl,hF.sub trivial,hS⟩⟩
  ·have hb1:=cond_t hc2 hb1
   refine q_cond_t hF rfl hc2 (q_skipc (n_sq (q_seq (q_block (q_seq (q_region (q_x (v:=(iV t_5)) hF hS (ex_move rfl) rfl rfl fun a hF=>?_)))))))
   obtain ⟨e_6,he_6,hb1⟩:=bindS hb1
   obtain ⟨vs7,at7,d7⟩:=h2.at he_6 1 rfl
   obtain rfl : vs7 = [(iV e_6)]:=d7
   refine q_x (v:=(elP s2 (t_5.toNat * 1))) hF hS (ex_indexAddr Tryz.underlying24 sz3 rfl rfl (h2.idx he_6)) rfl rfl fun a hF=>q_x (v:=(iV e_6)) hF hS (ex_loadE1 0 Tryz.underlying3 rfl rfl ((at7).at) rfl rfl) rfl rfl fun a hF=>q_x (v:=(iV t_5)) hF hS (ex_assign rfl) rfl rfl fun a hF=>q_x (v:=(iV e_6)) hF hS (ex_assign rfl) rfl rfl fun a hF=>q_end (n_sq (q_seq ?_))
   obtain ⟨t_11,hj3,hb1⟩:=bindS hb1
   refine q_join (fun a w=>Fr a 29 [(1,s3.v),(8,s2.v),(9,(iV (goLen p_t.Where))),(10,(iV t_5)),(27,(.bool t_11))]∧St [] w0 w m []) ?_ ?_
   ·refine q_region (q_x (v:=(iV e_6)) hF hS (ex_move rfl) rfl rfl fun a hF=>q_x (v:=(.bool (e_6 != 0))) hF hS (ex_ibin rfl rfl rfl) rfl rfl fun a hF=>q_x (v:=(.bool (e_6 != 0))) hF hS (ex_move rfl) rfl rfl fun a hF=>?_)
    rcases bcase (e_6 != 0) with hc4 | hc4
    ·have hj3:=cond_f hc4 hj3
     refine q_skip hF (wanted_f hF rfl rfl rfl hc4 rfl) rfl fun a hF=>q_skip hF (wanted_f hF rfl rfl rfl hc4 rfl) rfl fun a hF=>q_skip hF (wanted_f hF rfl rfl rfl hc4 rfl) rfl fun a hF=>q_skip hF (wanted_f hF rfl rfl rfl hc4 rfl) rfl fun a hF=>q_skip hF (wanted_f hF rfl rfl rfl hc4 rfl) rfl fun a hF=>q_skip hF (wanted_f hF rfl rfl rfl hc4 rfl) rfl fun a hF=>q_skip hF (wanted_f hF rfl rfl rfl hc4 rfl) rfl fun a hF=>q_skip hF (wanted_f hF rfl rfl rfl hc4 rfl) rfl fun a hF=>q_skip hF (wanted_f hF rfl rfl rfl hc4 rfl) rfl fun a hF=>q_x (v:=(.bool false)) hF hS (ex_pick_f rfl rfl hc4) rfl rfl fun a hF=>q_end (n_jn ?_)
     obtain rfl:=someI hj3
     exact ⟨hF.sub ⟨rfl,rfl,rfl,rfl,rfl,trivial⟩,hS⟩
    ·have hj3:=cond_t hc4 hj3
     refine q_xg (v:=(iV e_6)) hF hS (ex_move rfl) (wanted_t hF rfl rfl rfl hc4) rfl fun a hF=>q_xg (v:=s3.v) hF hS (ex_move rfl) (wanted_t hF rfl rfl rfl hc4) rfl fun a hF=>q_xg (v:=(iV t_5)) hF hS (ex_move rfl) (wanted_t hF rfl rfl rfl hc4) rfl fun a hF=>?_
     obtain ⟨e_8,he_8,hj3⟩:=bindS hj3
     obtain ⟨vs9,at9,d9⟩:=h3.at he_8 1 rfl
     obtain rfl : vs9 = [(iV e_8)]:=d9
     refine q_xg (v:=(elP s3 (t_5.toNat * 1))) hF hS (ex_indexAddr Tryz.underlying24 sz3 rfl rfl (h3.idx he_8)) (wanted_t hF rfl rfl rfl hc4) rfl fun a hF=>q_xg (v:=(iV e_8)) hF hS (ex_loadE1 0 Tryz.underlying3 rfl rfl ((at9).at) rfl rfl) (wanted_t hF rfl rfl rfl hc4) rfl fun a hF=>q_xg (v:=(.int .u64 (IntKind.wrap .u64 e_8))) hF hS (ex_conv Tryz.underlying3 Tryz.underlying110 rfl) (wanted_t hF rfl rfl rfl hc4) rfl fun a hF=>?_
     obtain ⟨t_10,ht_10,hj3⟩:=bindS hj3
     refine q_xg (v:=(iV t_10)) hF hS (ex_shr rfl rfl ht_10) (wanted_t hF rfl rfl rfl hc4) rfl fun a hF=>q_xg (v:=(iV (goBits .and .i64 t_10 1))) hF hS (ex_bits rfl rfl rfl) (wanted_t hF rfl rfl rfl hc4) rfl fun a hF=>q_xg (v:=(.bool ((goBits .and .i64 t_10 1) == 0))) hF hS (ex_ibin rfl rfl rfl) (wanted_t hF rfl rfl rfl hc4) rfl fun a hF=>q_x (v:=(.bool ((goBits .and .i64 t_10 1) == 0))) hF hS (ex_pick_t rfl rfl hc4) rfl rfl fun a hF=>q_end (n_jn ?_)
     obtain rfl:=someI hj3
     exact ⟨hF.sub ⟨rfl,rfl,rfl,rfl,rfl,trivial⟩,hS⟩
   ·rintro a w ⟨hF,hS⟩
    refine n_sq ?_
    rcases bcase (t_11) with hc5 | hc5
    ·have hb1:=cond_f hc5 hb1
     refine q_cond_f hF rfl hc5 (q_skipc (n_ib (n_sq (q_region (q_x (v:=(iV (w64 (t_5 + 1)))) hF hS (ex_ibin rfl rfl rfl) rfl rfl fun a hF=>q_x (v:=(iV (w64 (t_5 + 1)))) hF hS (ex_move rfl) rfl rfl fun a hF=>q_end ?_)))))
     obtain rfl:=someI hb1
     exact ⟨rfl,hF.sub ⟨rfl,rfl,rfl,rfl,trivial⟩,hS⟩
    ·have hb1:=cond_t hc5 hb1
     refine q_cond_t hF rfl hc5 (q_seq (q_region (q_x (v:=(.bool false)) hF hS (ex_assign rfl) rfl rfl fun a hF=>q_end (n_sq (q_ret (r_ib (r_sq ?_)))))))
     obtain rfl:=someI hb1
     refine ⟨nofun,.inr fun ho=>?_⟩
     subst ho
     refine r_ib (r_sq ?_)
     obtain rfl:=someI hr
     exact ret_of hF hS rfl (.tmp rfl .nil) rfl
 ·rintro e a w ⟨rfl,rfl,hF,hS⟩
  refine x_ib (n_sq ?_)
  refine q_seq (q_region (q_x (v:=(.bool true)) hF hS (ex_assign rfl) rfl rfl fun a hF=>q_end (n_sq (q_ret ?_))))
  obtain rfl:=someI hr
  exact ret_of hF hS rfl (.tmp rfl .nil) rfl

theorem c_spec_l1Find (p_l : List Int) (p_n : Int) (r : Int) (hr : spec_l1Find p_l p_n = some r) (w0 : World) (m : Mem) (hv : Vis m w0) (s1 : Sl) (h1 : Rd m s1 p_l) :
  Ret Tryz.prog 85 [s1.v,(iV p_n)] w0 (fun v _=>v = (iV r)):=by
 unfold spec_l1Find at hr
 refine ret_start Tryz.func85 rfl 19 rfl rfl m hv fun a hF hS=>q_seq (q_region (q_x (v:=(iV 0)) hF hS (ex_assign rfl) rfl rfl fun a hF=>q_end (n_sq (q_seq (q_seq (q_region (q_x (v:=s1.v) hF hS (ex_move rfl) rfl rfl fun a hF=>q_x (v:=(iV (goLen p_l))) hF hS (ex_len Tryz.underlying24 rfl h1.len) rfl rfl fun a hF=>q_x (v:=(iV 0)) hF hS (ex_move rfl) rfl rfl fun a hF=>q_end (n_sq (q_block ?_)))))))))
 obtain ⟨o1,hl1,hr⟩:=bindS hr
 refine q_loop (fun (t_2 : Int) a w=>Fr a 19 [(1,(iV p_n)),(7,s1.v),(8,(iV (goLen p_l))),(9,(iV t_2))]∧St [] w0 w m []) (fun (o : (Unit) ⊕ (Int)) e a w=>o = .inl ()∧e = .exit 0∧Fr a 19 []∧St [] w0 w m []) hl1 ⟨hF.sub ⟨rfl,rfl,rfl,rfl,trivial⟩,hS⟩ ?_ ?_
 ·clear hF hS
  rintro t_2 a w st ⟨hF,hS⟩ hb1
  unfold spec_l1Find_l1 at hb1
  refine q_seq (q_region (q_x (v:=(.bool (decide (t_2 < (goLen p_l))))) hF hS (ex_ibin rfl rfl rfl) rfl rfl fun a hF=>q_end (n_sq (q_seq ?_))))
  rcases bcase (decide (t_2 < (goLen p_l))) with hc2 | hc2
  ·have hb1:=cond_f hc2 hb1
   refine q_cond_f hF rfl hc2 (q_exit (x_sq ?_))
   obtain rfl:=someI hb1
   exact ⟨nofun,.inl ⟨rfl,rfl,hF.sub trivial,hS⟩⟩
  ·have hb1:=cond_t hc2 hb1
   refine q_cond_t hF rfl hc2 (q_skipc (n_sq (q_seq (q_block (q_seq (q_region (q_x (v:=(iV t_2)) hF hS (ex_move rfl) rfl rfl fun a hF=>?_)))))))
   obtain ⟨e_3,he_3,hb1⟩:=bindS hb1
   obtain ⟨vs4,at4,d4⟩:=h1.at he_3 1 rfl
   obtain rfl : vs4 = [(iV e_3)]:=d4
   refine q_x (v:=(elP s1 (t_2.toNat * 1))) hF hS (ex_indexAddr Tryz.underlying24 sz3 rfl rfl (h1.idx he_3)) rfl rfl fun a hF=>q_x (v:=(iV e_3)) hF hS (ex_loadE1 0 Tryz.underlying3 rfl rfl ((at4).at) rfl rfl) rfl rfl fun a hF=>q_x (v:=(iV t_2)) hF hS (ex_assign rfl) rfl rfl fun a hF=>q_x (v:=(iV e_3)) hF hS (ex_assign rfl) rfl rfl fun a hF=>q_end (n_sq (q_seq (q_region (q_x (v:=(iV e_3)) hF hS (ex_move rfl) rfl rfl fun a hF=>q_x (v:=(iV p_n)) hF hS (ex_move rfl) rfl rfl fun a hF=>q_x (v:=(.bool (e_3 == p_n))) hF hS (ex_ibin rfl rfl rfl) rfl rfl fun a hF=>q_end (n_sq ?_)))))
   rcases bcase (e_3 == p_n) with hc3 | hc3
   ·have hb1:=cond_f hc3 hb1
    refine q_cond_f hF rfl hc3 (q_skipc (n_ib (n_sq (q_region (q_x (v:=(iV (w64 (t_2 + 1)))) hF hS (ex_ibin rfl rfl rfl) rfl rfl fun a hF=>q_x (v:=(iV (w64 (t_2 + 1)))) hF hS (ex_move rfl) rfl rfl fun a hF=>q_end ?_)))))
    obtain rfl:=someI hb1
    exact ⟨rfl,hF.sub ⟨rfl,rfl,rfl,rfl,trivial⟩,hS⟩
   ·have hb1:=cond_t hc3 hb1
    refine q_cond_t hF rfl hc3 (q_seq (q_region (q_x (v:=(iV t_2)) hF hS (ex_move rfl) rfl rfl fun a hF=>q_x (v:=(iV t_2)) hF hS (ex_assign rfl) rfl rfl fun a hF=>q_end (n_sq (q_ret (r_ib (r_sq ?_)))))))
    obtain rfl:=someI hb1
    refine ⟨nofun,.inr fun ho=>?_⟩
    subst ho
    refine r_ib (r_sq ?_)
    obtain rfl:=someI hr
    exact ret_of hF hS rfl (.tmp rfl .nil) rfl
 ·rintro e a w ⟨rfl,rfl,hF,hS⟩
  refine x_ib (n_sq ?_)
  refine q_seq (q_region (q_x (v:=(iV (-1))) hF hS (ex_assign rfl) rfl rfl fun a hF=>q_end (n_sq (q_ret ?_))))
  obtain rfl:=someI hr
  exact ret_of hF hS rfl (.tmp rfl .nil) rfl

theorem c_spec_sPick (p_values : List Int) (p_vars : List Int) (r : (List Int)) (hr : spec_sPick p_values p_vars = some r) (w0 : World) (m : Mem) (hv : Vis m w0) (s1 : Sl) (h1 : Rd m s1 p_values) (s2 : Sl) (h2 : Rd m s2 p_vars) :
  Ret Tryz.prog 87 [s1.v,s2.v] w0 (fun v w=>∃ (q0' : Piece) (s0' : Sl),v = s0'.v∧St [] w0 w m [q0']∧OwnL m 3 q0' s0' r):=by
 unfold spec_sPick at hr
 refine ret_start Tryz.func87 rfl 23 rfl rfl m hv fun a hF hS=>q_seq (q_region (q_x (v:=nilS.v) hF hS (ex_assign rfl) rfl rfl fun a hF=>q_end (n_sq (q_seq (q_region (q_x (v:=nilS.v) hF hS (ex_assign rfl) rfl rfl fun a hF=>q_end (n_sq (q_seq (q_seq (q_region (q_x (v:=s2.v) hF hS (ex_move rfl) rfl rfl fun a hF=>q_x (v:=(iV (goLen p_vars))) hF hS (ex_len Tryz.underlying24 rfl h2.len) rfl rfl fun a hF=>q_x (v:=(iV 0)) hF hS (ex_move rfl) rfl rfl fun a hF=>q_end (n_sq (q_block ?_)))))))))))))
 obtain ⟨out_13,hl1,hr⟩:=bindS hr
 refine q_loop (fun (s : (List Int) × Int) a w=>∃ (q4 : Piece),∃ (s4 : Sl),∃ out_3,∃ t_5,s = (out_3,t_5)∧Fr a 23 [(0,s1.v),(5,s4.v),(8,s2.v),(9,(iV (goLen p_vars))),(10,(iV t_5))]∧St [] w0 w m [q4]∧OwnL m 3 q4 s4 out_3) (fun (out_13 : (List Int)) e a w=>∃ (q14 : Piece),∃ (s14 : Sl),e = .exit 0∧Fr a 23 [(5,s14.v)]∧St [] w0 w m [q14]∧OwnL m 3 q14 s14 out_13) hl1 ⟨[],nilS,_,_,rfl,hF.sub ⟨rfl,rfl,rfl,rfl,rfl,trivial⟩,hS.sel [0] (by decide),(OwnL.nil (α:=Int) m 3)⟩ ?_ ?_
 ·clear hF hS
  rintro s a w st ⟨q4,s4,out_3,t_5,rfl,hF,hS,h4⟩ hb1
  unfold spec_sPick_l1 at hb1
  refine q_seq (q_region (q_x (v:=(.bool (decide (t_5 < (goLen p_vars))))) hF hS (ex_ibin rfl rfl rfl) rfl rfl fun a hF=>q_end (n_sq (q_seq ?_))))
  rcases bcase (decide (t_5 < (goLen p_vars))) with hc2 | hc2
  ·have hb1:=cond_f hc2 hb1
   refine q_cond_f hF rfl hc2 (q_exit (x_sq ?_))
   obtain rfl:=someI hb1
   exact ⟨nofun,.inl ⟨q4,s4,rfl,hF.sub ⟨rfl,trivial⟩,hS,h4⟩⟩
  ·have hb1:=cond_t hc2 hb1
   refine q_cond_t hF rfl hc2 (q_skipc (n_sq (q_seq (q_block (q_seq (q_region ?_))))))
   obtain ⟨e_6,he_6,hb1⟩:=bindS hb1
   obtain ⟨vs7,at7,d7⟩:=h2.at he_6 1 rfl
   obtain rfl : vs7 = [(iV e_6)]:=d7
   refine q_x (v:=(elP s2 (t_5.toNat * 1))) hF hS (ex_indexAddr Tryz.underlying24 sz3 rfl rfl (h2.idx he_6)) rfl rfl fun a hF=>q_x (v:=(iV e_6)) hF hS (ex_loadE1 0 Tryz.underlying3 rfl rfl ((at7).at) rfl rfl) rfl rfl fun a hF=>q_x (v:=(iV e_6)) hF hS (ex_assign rfl) rfl rfl fun a hF=>q_end (n_sq (q_region (q_x (v:=s4.v) hF hS (ex_move rfl) rfl rfl fun a hF=>q_x (v:=s1.v) hF hS (ex_move rfl) rfl rfl fun a hF=>q_x (v:=(iV e_6)) hF hS (ex_move rfl) rfl rfl fun a hF=>?_)))
   obtain ⟨e_8,he_8,hb1⟩:=bindS hb1
   obtain ⟨vs9,at9,d9⟩:=h1.at he_8 1 rfl
   obtain rfl : vs9 = [(iV e_8)]:=d9
   refine q_x (v:=(elP s1 (e_6.toNat * 1))) hF hS (ex_indexAddr Tryz.underlying24 sz3 rfl rfl (h1.idx he_8)) rfl rfl fun a hF=>q_x (v:=(iV e_8)) hF hS (ex_loadE1 0 Tryz.underlying3 rfl rfl ((at9).at) rfl rfl) rfl rfl fun a hF=>q_do rfl fun _ hK=>wp_buildSlice' (l:=([e_8] : List Int)) (cells:=[(iV e_8)]) hF hS Tryz.underlying24 inf3 rfl rfl (by kernel_rfl) rfl rfl rfl ⟨rfl,rfl⟩ rfl rfl fun a w q10 s10 hF hS h10 _=>hK _ _ ?_
   have hS : St _ _ _ _ [q4,q10]:=hS.sel [1,0] (by decide)
   obtain ⟨l_11,hl_11,hb1⟩:=bindS hb1
   refine q_do rfl fun _ hK=>wp_append hF hS h4 Tryz.underlying24 inf3 rfl rfl rfl rfl (h10.vw hS (j:=1) rfl) rfl (by decide) hl_11 rfl fun a w q12 s12 hF hS h12=>hK _ _ (q_x (v:=s12.v) hF hS (ex_assign rfl) rfl rfl fun a hF=>q_end (n_ib (n_sq (q_region (q_x (v:=(iV (w64 (t_5 + 1)))) hF hS (ex_ibin rfl rfl rfl) rfl rfl fun a hF=>q_x (v:=(iV (w64 (t_5 + 1)))) hF hS (ex_move rfl) rfl rfl fun a hF=>q_end ?_)))))
   obtain rfl:=someI hb1
   exact ⟨rfl,q12,s12,_,_,rfl,hF.sub ⟨rfl,rfl,rfl,rfl,rfl,trivial⟩,hS.mask [true,false],h12⟩
 ·rintro e a w ⟨q14,s14,rfl,hF,hS,h14⟩
  refine x_ib (n_sq ?_)
  refine q_seq (q_region (q_x (v:=s14.v) hF hS (ex_move rfl) rfl rfl fun a hF=>q_x (v:=s14.v) hF hS (ex_assign rfl) rfl rfl fun a hF=>q_end (n_sq (q_ret ?_))))
  obtain rfl:=someI hr
  exact ret_of hF hS rfl (.tmp rfl .nil) ⟨q14,s14,rfl,hS.sel [0] (by decide),h14⟩

theorem c_spec_sIndex (p_s : List impl_Variable) (p_values : List Int) (r : Int) (hr : spec_sIndex p_s p_values = some r) (w0 : World) (m : Mem) (hv : Vis m w0) (s1 : Sl) (h1 : Rd m s1 p_s) (s2 : Sl) (h2 : Rd m s2 p_values) :
  Ret Tryz.prog 86 [s1.v,s2.v] w0 (fun v _=>v = (iV r)):=by
 unfold spec_sIndex at hr
 refine ret_start Tryz.func86 rfl 26 rfl rfl m hv fun a hF hS=>q_seq (q_region (q_x (v:=(iV 0)) hF hS (ex_assign rfl) rfl rfl fun a hF=>q_end (n_sq (q_seq (q_region (q_x (v:=(iV 0)) hF hS (ex_assign rfl) rfl rfl fun a hF=>q_end (n_sq (q_seq (q_seq (q_region (q_x (v:=s1.v) hF hS (ex_move rfl) rfl rfl fun a hF=>q_x (v:=(iV (goLen p_s))) hF hS (ex_len Tryz.underlying27 rfl h1.len) rfl rfl fun a hF=>q_x (v:=(iV 0)) hF hS (ex_move rfl) rfl rfl fun a hF=>q_end (n_sq (q_block ?_)))))))))))))
 obtain ⟨n_10,hl1,hr⟩:=bindS hr
 refine q_loop (fun (s : Int × Int) a w=>∃ n_3,∃ t_4,s = (n_3,t_4)∧Fr a 26 [(1,s2.v),(5,(iV n_3)),(8,s1.v),(9,(iV (goLen p_s))),(10,(iV t_4))]∧St [] w0 w m []) (fun (n_10 : Int) e a w=>e = .exit 0∧Fr a 26 [(5,(iV n_10))]∧St [] w0 w m []) hl1 ⟨_,_,rfl,hF.sub ⟨rfl,rfl,rfl,rfl,rfl,trivial⟩,hS⟩ ?_ ?_
 ·clear hF hS
  rintro s a w st ⟨n_3,t_4,rfl,hF,hS⟩ hb1
  unfold spec_sIndex_l1 at hb1
  refine q_seq (q_region (q_x (v:=(.bool (decide (t_4 < (goLen p_s))))) hF hS (ex_ibin rfl rfl rfl) rfl rfl fun a hF=>q_end (n_sq (q_seq ?_))))
  rcases bcase (decide (t_4 < (goLen p_s))) with hc2 | hc2
  ·have hb1:=cond_f hc2 hb1
   refine q_cond_f hF rfl hc2 (q_exit (x_sq ?_))
   obtain rfl:=someI hb1
   exact ⟨nofun,.inl ⟨rfl,hF.sub ⟨rfl,trivial⟩,hS⟩⟩
  ·have hb1:=cond_t hc2 hb1
   refine q_cond_t hF rfl hc2 (q_skipc (n_sq (q_seq (q_block (q_seq (q_region (q_x (v:=(iV t_4)) hF hS (ex_move rfl) rfl rfl fun a hF=>?_)))))))
   obtain ⟨e_5,he_5,hb1⟩:=bindS hb1
   obtain ⟨vs6,at6,d6⟩:=h1.at he_5 2 rfl
   obtain rfl : vs6 = [(strV e_5.Name),(iV e_5.Levels)]:=d6
   refine q_x (v:=(elP s1 (t_4.toNat * 2))) hF hS (ex_indexAddr Tryz.underlying27 sz100 rfl rfl (h1.idx he_5)) rfl rfl fun a hF=>q_x (v:=(.agg #[(strV e_5.Name),(iV e_5.Levels)])) hF hS (ex_loadEA (us:=[(strV e_5.Name),(iV e_5.Levels)]) 0 Tryz.underlying100 rfl sz100 rfl ((at6).at) rfl rfl rfl) rfl rfl fun a hF=>q_alloc (cs:=[(strV ([] : List UInt8)),(iV 0)]) hF hS rfl rfl rfl fun a w b7 hF hS=>q_x (v:=(iV t_4)) hF hS (ex_assign rfl) rfl rfl fun a hF=>q_store (vs:=[(strV e_5.Name),(iV e_5.Levels)]) (cs':=[(strV e_5.Name),(iV e_5.Levels)]) 0 0 hF hS sz100 rfl rfl rfl rfl rfl rfl rfl rfl fun a w hF hS=>q_end (n_sq (e_region ⟨[],[]⟩ mixed fun w' hw'=>?_))
   have hS:=hS.below hw'
   refine e_p (v:=(iV n_3)) 0 hF rfl (ex_move rfl) rfl rfl (by kernel_rfl) (by kernel_rfl) (by kernel_rfl) fun a hF=>e_p (v:=(.pointer (some ⟨b7,1,none⟩))) 1 hF rfl (ex_fieldAddr Tryz.underlying100 rfl sz3 rfl rfl) rfl rfl (by kernel_rfl) (by kernel_rfl) (by kernel_rfl) fun a hF=>e_x (v:=(iV e_5.Levels)) 2 hF hS rfl (ex_load1 0 0 Tryz.underlying3 rfl rfl rfl rfl) rfl rfl (by kernel_rfl) (by kernel_rfl) (by kernel_rfl) (by kernel_rfl) fun a hF=>e_p (v:=(iV (w64 (n_3 * e_5.Levels)))) 3 hF rfl (ex_ibin rfl rfl rfl) rfl rfl (by kernel_rfl) (by kernel_rfl) (by kernel_rfl) fun a hF=>e_p (v:=s2.v) 4 hF rfl (ex_move rfl) rfl rfl (by kernel_rfl) (by kernel_rfl) (by kernel_rfl) fun a hF=>e_p (v:=(iV t_4)) 5 hF rfl (ex_move rfl) rfl rfl (by kernel_rfl) (by kernel_rfl) (by kernel_rfl) fun a hF=>?_
   obtain ⟨e_8,he_8,hb1⟩:=bindS hb1
   obtain ⟨vs9,at9,d9⟩:=h2.at he_8 1 rfl
   obtain rfl : vs9 = [(iV e_8)]:=d9
   refine e_p (v:=(elP s2 (t_4.toNat * 1))) 6 hF rfl (ex_indexAddr Tryz.underlying24 sz3 rfl rfl (h2.idx he_8)) rfl rfl (by kernel_rfl) (by kernel_rfl) (by kernel_rfl) fun a hF=>e_x (v:=(iV e_8)) 7 hF hS rfl (ex_loadE1 0 Tryz.underlying3 rfl rfl ((at9).at) rfl rfl) rfl rfl (by kernel_rfl) (by kernel_rfl) (by kernel_rfl) (by kernel_rfl) fun a hF=>e_p (v:=(iV (w64 ((w64 (n_3 * e_5.Levels)) + e_8)))) 8 hF rfl (ex_ibin rfl rfl rfl) rfl rfl (by kernel_rfl) (by kernel_rfl) (by kernel_rfl) fun a hF=>e_p (v:=(iV (w64 ((w64 (n_3 * e_5.Levels)) + e_8)))) 9 hF rfl (ex_assign rfl) rfl rfl (by kernel_rfl) (by kernel_rfl) (by kernel_rfl) fun a hF=>e_end (by kernel_rfl) (n_ib (n_sq ?_)) _
   refine q_region (q_x (v:=(iV (w64 (t_4 + 1)))) hF hS (ex_ibin rfl rfl rfl) rfl rfl fun a hF=>q_x (v:=(iV (w64 (t_4 + 1)))) hF hS (ex_move rfl) rfl rfl fun a hF=>q_end ?_)
   obtain rfl:=someI hb1
   exact ⟨rfl,_,_,rfl,hF.sub ⟨rfl,rfl,rfl,rfl,rfl,trivial⟩,hS.mask [false]⟩
 ·rintro e a w ⟨rfl,hF,hS⟩
  refine x_ib (n_sq ?_)
  refine q_seq (q_region (q_x (v:=(iV n_10)) hF hS (ex_move rfl) rfl rfl fun a hF=>q_x (v:=(iV n_10)) hF hS (ex_assign rfl) rfl rfl fun a hF=>q_end (n_sq (q_ret ?_))))
  obtain rfl:=someI hr
  exact ret_of hF hS rfl (.tmp rfl .nil) rfl

theorem c_spec_uCell (p_g : impl_Geo) (p_s : List impl_Variable) (p_t : impl_Table) (p_r : impl_Record) (r : Int × Int) (hr : spec_uCell p_g p_s p_t p_r = some r) (w0 : World) (m : Mem) (hv : Vis m w0) (s1 : Sl) (h1 : Rd m s1 p_g.Parents) (s2 : Sl) (h2 : Rd m s2 p_s) (s3 : Sl) (h3 : Rd m s3 p_t.Vars) (s4 : Sl) (h4 : Rd m s4 p_t.Where) (s5 : Sl) (h5 : Rd m s5 p_r.Values) :
  Ret Tryz.prog 54 [(.agg #[s1.v]),s2.v,(.agg #[(iV p_t.Level),s3.v,s4.v,(iV p_t.Sum)]),(.agg #[(iV p_r.Area),(iV p_r.House),s5.v])] w0 (fun v _=>v = (.tuple #[(iV r.1),(iV r.2)])):=by
 unfold spec_uCell at hr
 refine ret_start Tryz.func54 rfl 60 rfl rfl m hv fun a hF hS=>q_seq (q_region (q_box (cs:=[s1.v]) hF hS rfl rfl rfl fun a w b6 hF hS=>q_box (cs:=[(iV p_t.Level),s3.v,s4.v,(iV p_t.Sum)]) hF hS rfl rfl rfl fun a w b7 hF hS=>q_box (cs:=[(iV p_r.Area),(iV p_r.House),s5.v]) hF hS rfl rfl rfl fun a w b8 hF hS=>q_x (v:=(iV 0)) hF hS (ex_assign rfl) rfl rfl fun a hF=>q_x (v:=(iV 0)) hF hS (ex_assign rfl) rfl rfl fun a hF=>q_end (n_sq (q_seq (q_region (q_x (v:=(.agg #[s1.v])) hF hS (ex_loadA (vs:=[s1.v]) 2 0 Tryz.underlying26 rfl sz26 rfl rfl rfl rfl) rfl rfl fun a hF=>q_x (v:=(.pointer (some ⟨b8,0,none⟩))) hF hS (ex_fieldAddr Tryz.underlying84 rfl sz3 rfl rfl) rfl rfl fun a hF=>q_x (v:=(iV p_r.Area)) hF hS (ex_load1 0 0 Tryz.underlying3 rfl rfl rfl rfl) rfl rfl fun a hF=>q_x (v:=(.pointer (some ⟨b7,0,none⟩))) hF hS (ex_fieldAddr Tryz.underlying29 rfl sz3 rfl rfl) rfl rfl fun a hF=>q_x (v:=(iV p_t.Level)) hF hS (ex_load1 1 0 Tryz.underlying3 rfl rfl rfl rfl) rfl rfl fun a hF=>?_))))))
 obtain ⟨t_9,ht_9,hr⟩:=bindS hr
 refine q_call (vs:=[(.agg #[s1.v]),(iV p_r.Area),(iV p_t.Level)]) hF hS Tryz.func83 (by kernel_rfl) rfl rfl rfl (c_spec_gUp p_g p_r.Area p_t.Level t_9 ht_9 _ m hS.vis s1 h1) ?_
 rintro a w _ rfl hF hS
 refine q_x (v:=(iV t_9)) hF hS (ex_assign rfl) rfl rfl fun a hF=>q_end (n_sq (q_seq (q_seq ?_)))
 obtain ⟨t_11,hj1,hr⟩:=bindS hr
 refine q_join (fun a w=>Fr a 60 [(1,s2.v),(4,(.pointer (some ⟨b6,0,none⟩))),(6,(.pointer (some ⟨b7,0,none⟩))),(7,(.pointer (some ⟨b8,0,none⟩))),(10,(iV t_9)),(27,(.bool t_11))]∧St [] w0 w m [[⟨b8,[(iV p_r.Area),(iV p_r.House),s5.v],84⟩],[⟨b7,[(iV p_t.Level),s3.v,s4.v,(iV p_t.Sum)],29⟩],[⟨b6,[s1.v],26⟩]]) ?_ ?_
 ·refine q_region (q_x (v:=(iV t_9)) hF hS (ex_move rfl) rfl rfl fun a hF=>q_x (v:=(.bool (decide (t_9 < 0)))) hF hS (ex_ibin rfl rfl rfl) rfl rfl fun a hF=>q_x (v:=(.bool (decide (t_9 < 0)))) hF hS (ex_move rfl) rfl rfl fun a hF=>?_)
  rcases bcase (decide (t_9 < 0)) with hc2 | hc2
  ·have hj1:=cond_f hc2 hj1
   refine q_xg (v:=(.agg #[(iV p_t.Level),s3.v,s4.v,(iV p_t.Sum)])) hF hS (ex_loadA (vs:=[(iV p_t.Level),s3.v,s4.v,(iV p_t.Sum)]) 1 0 Tryz.underlying29 rfl sz29 rfl rfl rfl rfl) (wanted_t hF rfl rfl rfl hc2) rfl fun a hF=>q_xg (v:=(.pointer (some ⟨b8,2,none⟩))) hF hS (ex_fieldAddr Tryz.underlying84 rfl sz24 rfl rfl) (wanted_t hF rfl rfl rfl hc2) rfl fun a hF=>q_xg (v:=s5.v) hF hS (ex_load1 0 0 Tryz.underlying24 rfl rfl rfl rfl) (wanted_t hF rfl rfl rfl hc2) rfl fun a hF=>?_
   obtain ⟨t_10,ht_10,hj1⟩:=bindS hj1
   refine q_callg (vs:=[(.agg #[(iV p_t.Level),s3.v,s4.v,(iV p_t.Sum)]),s5.v]) hF hS (wanted_t hF rfl rfl rfl hc2) Tryz.func84 (by kernel_rfl) rfl rfl rfl (c_spec_uMeets p_t p_r.Values t_10 ht_10 _ m hS.vis s3 h3 s4 h4 s5 h5) ?_
   rintro a w _ rfl hF hS
   refine q_xg (v:=(.bool (!t_10))) hF hS (ex_not rfl) (wanted_t hF rfl rfl rfl hc2) rfl fun a hF=>q_x (v:=(.bool (!t_10))) hF hS (ex_pick_f rfl rfl hc2) rfl rfl fun a hF=>q_end (n_jn ?_)
   obtain rfl:=someI hj1
   exact ⟨hF.sub ⟨rfl,rfl,rfl,rfl,rfl,rfl,trivial⟩,hS⟩
  ·have hj1:=cond_t hc2 hj1
   refine q_skip hF (wanted_f hF rfl rfl rfl hc2 rfl) rfl fun a hF=>q_skip hF (wanted_f hF rfl rfl rfl hc2 rfl) rfl fun a hF=>q_skip hF (wanted_f hF rfl rfl rfl hc2 rfl) rfl fun a hF=>q_skip hF (wanted_f hF rfl rfl rfl hc2 rfl) rfl fun a hF=>q_skip hF (wanted_f hF rfl rfl rfl hc2 rfl) rfl fun a hF=>q_x (v:=(.bool true)) hF hS (ex_pick_t rfl rfl hc2) rfl rfl fun a hF=>q_end (n_jn ?_)
   obtain rfl:=someI hj1
   exact ⟨hF.sub ⟨rfl,rfl,rfl,rfl,rfl,rfl,trivial⟩,hS⟩
 ·rintro a w ⟨hF,hS⟩
  refine n_sq ?_
  rcases bcase (t_11) with hc3 | hc3
  ·have hr:=cond_f hc3 hr
   refine q_cond_f hF rfl hc3 (q_skipc (n_sq (q_seq (q_region (q_x (v:=s2.v) hF hS (ex_move rfl) rfl rfl fun a hF=>q_x (v:=(.pointer (some ⟨b7,1,none⟩))) hF hS (ex_fieldAddr Tryz.underlying29 rfl sz24 rfl rfl) rfl rfl fun a hF=>q_x (v:=s3.v) hF hS (ex_load1 1 0 Tryz.underlying24 rfl rfl rfl rfl) rfl rfl fun a hF=>?_)))))
   obtain ⟨t_12,ht_12,hr⟩:=bindS hr
   refine q_call (vs:=[s2.v,s3.v]) hF hS Tryz.func70 (by kernel_rfl) rfl rfl rfl (c_spec_sPart p_s p_t.Vars t_12 ht_12 _ m hS.vis s2 h2 s3 h3) ?_
   rintro a w _ ⟨q14,s14,rfl,hR13,h14⟩ hF hS2
   have hS : St _ _ _ _ [q14,[⟨b8,[(iV p_r.Area),(iV p_r.House),s5.v],84⟩],[⟨b7,[(iV p_t.Level),s3.v,s4.v,(iV p_t.Sum)],29⟩],[⟨b6,[s1.v],26⟩]]:=hS.joinF hR13
   refine q_x (v:=s14.v) hF hS (ex_assign rfl) rfl rfl fun a hF=>q_end (n_sq (q_seq (e_region ⟨[],[]⟩ mixed fun w' hw'=>?_)))
   have hS:=hS.below hw'
   refine e_x (v:=(.agg #[s1.v])) 0 hF hS rfl (ex_loadA (vs:=[s1.v]) 3 0 Tryz.underlying26 rfl sz26 rfl rfl rfl rfl) rfl rfl (by kernel_rfl) (by kernel_rfl) (by kernel_rfl) (by kernel_rfl) fun a hF=>e_p (v:=(.pointer (some ⟨b7,0,none⟩))) 1 hF rfl (ex_fieldAddr Tryz.underlying29 rfl sz3 rfl rfl) rfl rfl (by kernel_rfl) (by kernel_rfl) (by kernel_rfl) fun a hF=>e_x (v:=(iV p_t.Level)) 2 hF hS rfl (ex_load1 2 0 Tryz.underlying3 rfl rfl rfl rfl) rfl rfl (by kernel_rfl) (by kernel_rfl) (by kernel_rfl) (by kernel_rfl) fun a hF=>e_p (v:=(iV t_9)) 4 hF rfl (ex_move rfl) rfl rfl (by kernel_rfl) (by kernel_rfl) (by kernel_rfl) fun a hF=>e_p (v:=s14.v) 6 hF rfl (ex_move rfl) rfl rfl (by kernel_rfl) (by kernel_rfl) (by kernel_rfl) fun a hF=>e_p (v:=s14.v) 9 hF rfl (ex_move rfl) rfl rfl (by kernel_rfl) (by kernel_rfl) (by kernel_rfl) fun a hF=>e_p (v:=(.pointer (some ⟨b8,2,none⟩))) 10 hF rfl (ex_fieldAddr Tryz.underlying84 rfl sz24 rfl rfl) rfl rfl (by kernel_rfl) (by kernel_rfl) (by kernel_rfl) fun a hF=>e_x (v:=s5.v) 11 hF hS rfl (ex_load1 1 0 Tryz.underlying24 rfl rfl rfl rfl) rfl rfl (by kernel_rfl) (by kernel_rfl) (by kernel_rfl) (by kernel_rfl) fun a hF=>e_p (v:=(.pointer (some ⟨b7,1,none⟩))) 12 hF rfl (ex_fieldAddr Tryz.underlying29 rfl sz24 rfl rfl) rfl rfl (by kernel_rfl) (by kernel_rfl) (by kernel_rfl) fun a hF=>e_x (v:=s3.v) 13 hF hS rfl (ex_load1 2 0 Tryz.underlying24 rfl rfl rfl rfl) rfl rfl (by kernel_rfl) (by kernel_rfl) (by kernel_rfl) (by kernel_rfl) fun a hF=>e_one 3 (by kernel_rfl) ?_
   obtain ⟨t_36,ht_36,hr⟩:=bindS hr
   refine e_call (vs:=[(.agg #[s1.v]),(iV p_t.Level)]) hF hS rfl Tryz.func48 (by kernel_rfl) rfl rfl rfl (c_spec_gLevel p_g p_t.Level t_36 ht_36 _ m hS.vis s1 h1) ?_
   rintro a w _ ⟨q38,s38,rfl,hR37,h38⟩ hF hS2
   have hS : St _ _ _ _ [q38,q14,[⟨b8,[(iV p_r.Area),(iV p_r.House),s5.v],84⟩],[⟨b7,[(iV p_t.Level),s3.v,s4.v,(iV p_t.Sum)],29⟩],[⟨b6,[s1.v],26⟩]]:=hS.joinF hR37
   refine e_one 5 (by kernel_rfl) ?_
   obtain ⟨m40,hl40,hv40,hz40⟩:=hS.lend
   obtain ⟨t_39,ht_39,hr⟩:=bindS hr
   refine e_call (vs:=[s38.v,(iV t_9)]) hF hS rfl Tryz.func85 (by kernel_rfl) rfl rfl rfl (c_spec_l1Find t_36 t_9 t_39 ht_39 _ m40 hv40 s38 (h38.froz hl40 (hz40 0 _ rfl))) ?_
   rintro a w _ rfl hF hS
   refine e_one 7 (by kernel_rfl) ?_
   obtain ⟨m42,hl42,hv42,hz42⟩:=hS.lend
   obtain ⟨t_41,ht_41,hr⟩:=bindS hr
   refine e_call (vs:=[s14.v]) hF hS rfl Tryz.func69 (by kernel_rfl) rfl rfl rfl (c_spec_sCount t_12 t_41 ht_41 _ m42 hv42 s14 (h14.froz hl42 (hz42 1 _ rfl))) ?_
   rintro a w _ rfl hF hS
   refine e_p (v:=(iV (w64 (t_39 * t_41)))) 8 hF rfl (ex_ibin rfl rfl rfl) rfl rfl (by kernel_rfl) (by kernel_rfl) (by kernel_rfl) fun a hF=>e_one 14 (by kernel_rfl) ?_
   obtain ⟨t_43,ht_43,hr⟩:=bindS hr
   refine e_call (vs:=[s5.v,s3.v]) hF hS rfl Tryz.func87 (by kernel_rfl) rfl rfl rfl (c_spec_sPick p_r.Values p_t.Vars t_43 ht_43 _ m hS.vis s5 h5 s3 h3) ?_
   rintro a w _ ⟨q45,s45,rfl,hR44,h45⟩ hF hS2
   have hS : St _ _ _ _ [q45,q38,q14,[⟨b8,[(iV p_r.Area),(iV p_r.House),s5.v],84⟩],[⟨b7,[(iV p_t.Level),s3.v,s4.v,(iV p_t.Sum)],29⟩],[⟨b6,[s1.v],26⟩]]:=hS.joinF hR44
   refine e_one 15 (by kernel_rfl) ?_
   obtain ⟨m47,hl47,hv47,hz47⟩:=hS.lend
   obtain ⟨t_46,ht_46,hr⟩:=bindS hr
   refine e_call (vs:=[s14.v,s45.v]) hF hS rfl Tryz.func86 (by kernel_rfl) rfl rfl rfl (c_spec_sIndex t_12 t_43 t_46 ht_46 _ m47 hv47 s14 (h14.froz hl47 (hz47 2 _ rfl)) s45 (h45.froz hl47 (hz47 0 _ rfl))) ?_
   rintro a w _ rfl hF hS
   refine e_p (v:=(iV (w64 ((w64 (t_39 * t_41)) + t_46)))) 16 hF rfl (ex_ibin rfl rfl rfl) rfl rfl (by kernel_rfl) (by kernel_rfl) (by kernel_rfl) fun a hF=>e_p (v:=(iV (w64 ((w64 (t_39 * t_41)) + t_46)))) 17 hF rfl (ex_assign rfl) rfl rfl (by kernel_rfl) (by kernel_rfl) (by kernel_rfl) fun a hF=>e_end (by kernel_rfl) (n_sq ?_) _
   refine q_seq (q_seq (q_region (q_x (v:=(.pointer (some ⟨b7,3,none⟩))) hF hS (ex_fieldAddr Tryz.underlying29 rfl sz3 rfl rfl) rfl rfl fun a hF=>q_x (v:=(iV p_t.Sum)) hF hS (ex_load1 4 0 Tryz.underlying3 rfl rfl rfl rfl) rfl rfl fun a hF=>q_x (v:=(.bool (decide (p_t.Sum < 0)))) hF hS (ex_ibin rfl rfl rfl) rfl rfl fun a hF=>q_end (n_sq ?_))))
   rcases bcase (decide (p_t.Sum < 0)) with hc4 | hc4
   ·have hr:=cond_f hc4 hr
    refine q_cond_f hF rfl hc4 (q_skipc (n_sq (q_seq (e_region ⟨[],[]⟩ mixed fun w' hw'=>?_))))
    have hS:=hS.below hw'
    refine e_p (v:=(iV (w64 ((w64 (t_39 * t_41)) + t_46)))) 0 hF rfl (ex_move rfl) rfl rfl (by kernel_rfl) (by kernel_rfl) (by kernel_rfl) fun a hF=>e_p (v:=(.pointer (some ⟨b8,2,none⟩))) 1 hF rfl (ex_fieldAddr Tryz.underlying84 rfl sz24 rfl rfl) rfl rfl (by kernel_rfl) (by kernel_rfl) (by kernel_rfl) fun a hF=>e_x (v:=s5.v) 2 hF hS rfl (ex_load1 3 0 Tryz.underlying24 rfl rfl rfl rfl) rfl rfl (by kernel_rfl) (by kernel_rfl) (by kernel_rfl) (by kernel_rfl) fun a hF=>e_p (v:=(.pointer (some ⟨b7,3,none⟩))) 3 hF rfl (ex_fieldAddr Tryz.underlying29 rfl sz3 rfl rfl) rfl rfl (by kernel_rfl) (by kernel_rfl) (by kernel_rfl) fun a hF=>e_x (v:=(iV p_t.Sum)) 4 hF hS rfl (ex_load1 4 0 Tryz.underlying3 rfl rfl rfl rfl) rfl rfl (by kernel_rfl) (by kernel_rfl) (by kernel_rfl) (by kernel_rfl) fun a hF=>?_
    obtain ⟨e_48,he_48,hr⟩:=bindS hr
    obtain ⟨vs49,at49,d49⟩:=h5.at he_48 1 rfl
    obtain rfl : vs49 = [(iV e_48)]:=d49
    refine e_p (v:=(elP s5 (p_t.Sum.toNat * 1))) 5 hF rfl (ex_indexAddr Tryz.underlying24 sz3 rfl rfl (h5.idx he_48)) rfl rfl (by kernel_rfl) (by kernel_rfl) (by kernel_rfl) fun a hF=>e_x (v:=(iV e_48)) 6 hF hS rfl (ex_loadE1 0 Tryz.underlying3 rfl rfl ((at49).at) rfl rfl) rfl rfl (by kernel_rfl) (by kernel_rfl) (by kernel_rfl) (by kernel_rfl) fun a hF=>e_p (v:=(iV (w64 ((w64 (t_39 * t_41)) + t_46)))) 7 hF rfl (ex_assign rfl) rfl rfl (by kernel_rfl) (by kernel_rfl) (by kernel_rfl) fun a hF=>e_p (v:=(iV e_48)) 8 hF rfl (ex_assign rfl) rfl rfl (by kernel_rfl) (by kernel_rfl) (by kernel_rfl) fun a hF=>e_end (by kernel_rfl) (n_sq (q_ret ?_)) _
    obtain rfl:=someI hr
    exact ret_of hF hS rfl (.tmp rfl (.tmp rfl .nil)) rfl
   ·have hr:=cond_t hc4 hr
    refine q_cond_t hF rfl hc4 (q_seq (q_region (q_x (v:=(iV (w64 ((w64 (t_39 * t_41)) + t_46)))) hF hS (ex_move rfl) rfl rfl fun a hF=>q_x (v:=(iV (w64 ((w64 (t_39 * t_41)) + t_46)))) hF hS (ex_assign rfl) rfl rfl fun a hF=>q_x (v:=(iV 1)) hF hS (ex_assign rfl) rfl rfl fun a hF=>q_end (n_sq (q_ret (r_sq ?_))))))
    obtain rfl:=someI hr
    exact ret_of hF hS rfl (.tmp rfl (.tmp rfl .nil)) rfl
  ·have hr:=cond_t hc3 hr
   refine q_cond_t hF rfl hc3 (q_seq (q_region (q_x (v:=(iV (-1))) hF hS (ex_assign rfl) rfl rfl fun a hF=>q_x (v:=(iV 0)) hF hS (ex_assign rfl) rfl rfl fun a hF=>q_end (n_sq (q_ret (r_sq ?_))))))
   obtain rfl:=someI hr
   exact ret_of hF hS rfl (.tmp rfl (.tmp rfl .nil)) rfl

theorem c_spec_uTable (p_g : impl_Geo) (p_s : List impl_Variable) (p_t : impl_Table) (p_l : List impl_Record) (r : (List Int)) (hr : spec_uTable p_g p_s p_t p_l = some r) (w0 : World) (m : Mem) (hv : Vis m w0) (s1 : Sl) (h1 : Rd m s1 p_g.Parents) (s2 : Sl) (h2 : Rd m s2 p_s) (s3 : Sl) (h3 : Rd m s3 p_t.Vars) (s4 : Sl) (h4 : Rd m s4 p_t.Where) (s5 : Sl) (h5 : Rd m s5 p_l) :
  Ret Tryz.prog 19 [(.agg #[s1.v]),s2.v,(.agg #[(iV p_t.Level),s3.v,s4.v,(iV p_t.Sum)]),s5.v] w0 (fun v w=>∃ (q0' : Piece) (s0' : Sl),v = s0'.v∧St [] w0 w m [q0']∧OwnL m 3 q0' s0' r):=by
 unfold spec_uTable at hr
 refine ret_start Tryz.func19 rfl 44 rfl rfl m hv fun a hF hS=>q_seq (q_region (q_box (cs:=[s1.v]) hF hS rfl rfl rfl fun a w b6 hF hS=>q_box (cs:=[(iV p_t.Level),s3.v,s4.v,(iV p_t.Sum)]) hF hS rfl rfl rfl fun a w b7 hF hS=>q_x (v:=nilS.v) hF hS (ex_assign rfl) rfl rfl fun a hF=>q_end (n_sq (q_seq (q_region (q_x (v:=(.agg #[s1.v])) hF hS (ex_loadA (vs:=[s1.v]) 1 0 Tryz.underlying26 rfl sz26 rfl rfl rfl rfl) rfl rfl fun a hF=>q_x (v:=s2.v) hF hS (ex_move rfl) rfl rfl fun a hF=>q_x (v:=(.agg #[(iV p_t.Level),s3.v,s4.v,(iV p_t.Sum)])) hF hS (ex_loadA (vs:=[(iV p_t.Level),s3.v,s4.v,(iV p_t.Sum)]) 0 0 Tryz.underlying29 rfl sz29 rfl rfl rfl rfl) rfl rfl fun a hF=>?_))))))
 obtain ⟨t_8,ht_8,hr⟩:=bindS hr
 refine q_call (vs:=[(.agg #[s1.v]),s2.v,(.agg #[(iV p_t.Level),s3.v,s4.v,(iV p_t.Sum)])]) hF hS Tryz.func39 (by kernel_rfl) rfl rfl rfl (c_spec_uCount p_g p_s p_t t_8 ht_8 _ m hS.vis s1 h1 s2 h2 s3 h3 s4 h4) ?_
 rintro a w _ rfl hF hS
 obtain ⟨l_9,hl_9,hr⟩:=bindS hr
 refine q_do rfl fun _ hK=>wp_make (z:=(0 : Int)) hF hS Tryz.underlying24 inf3 rfl rfl rfl rfl rfl (by decide) hl_9 rfl fun a w q10 s10 hF hS h10 _=>hK _ _ (q_x (v:=s10.v) hF hS (ex_assign rfl) rfl rfl fun a hF=>q_end (n_sq (q_seq (q_seq (q_region (q_x (v:=s5.v) hF hS (ex_move rfl) rfl rfl fun a hF=>q_x (v:=(iV (goLen p_l))) hF hS (ex_len Tryz.underlying46 rfl h5.len) rfl rfl fun a hF=>q_x (v:=(iV 0)) hF hS (ex_move rfl) rfl rfl fun a hF=>q_end (n_sq (q_block ?_))))))))
 obtain ⟨out_26,hl1,hr⟩:=bindS hr
 refine q_loop (fun (s : (List Int) × Int) a w=>∃ (q12 : Piece),∃ out_11,∃ t_13,s = (out_11,t_13)∧Fr a 44 [(1,s2.v),(4,(.pointer (some ⟨b6,0,none⟩))),(6,(.pointer (some ⟨b7,0,none⟩))),(9,s10.v),(19,s5.v),(20,(iV (goLen p_l))),(21,(iV t_13))]∧St [] w0 w m [q12,[⟨b7,[(iV p_t.Level),s3.v,s4.v,(iV p_t.Sum)],29⟩],[⟨b6,[s1.v],26⟩]]∧OwnL m 3 q12 s10 out_11) (fun (out_26 : (List Int)) e a w=>∃ (q27 : Piece),e = .exit 0∧Fr a 44 [(9,s10.v)]∧St [] w0 w m [q27]∧OwnL m 3 q27 s10 out_26) hl1 ⟨q10,_,_,rfl,hF.sub ⟨rfl,rfl,rfl,rfl,rfl,rfl,rfl,trivial⟩,hS,h10⟩ ?_ ?_
 ·clear hF hS
  rintro s a w st ⟨q12,out_11,t_13,rfl,hF,hS,h12⟩ hb1
  unfold spec_uTable_l1 at hb1
  refine q_seq (q_region (q_x (v:=(.bool (decide (t_13 < (goLen p_l))))) hF hS (ex_ibin rfl rfl rfl) rfl rfl fun a hF=>q_end (n_sq (q_seq ?_))))
  rcases bcase (decide (t_13 < (goLen p_l))) with hc2 | hc2
  ·have hb1:=cond_f hc2 hb1
   refine q_cond_f hF rfl hc2 (q_exit (x_sq ?_))
   obtain rfl:=someI hb1
   exact ⟨nofun,.inl ⟨q12,rfl,hF.sub ⟨rfl,trivial⟩,hS.mask [true,false,false],h12⟩⟩
  ·have hb1:=cond_t hc2 hb1
   refine q_cond_t hF rfl hc2 (q_skipc (n_sq (q_seq (q_block (q_seq (q_region ?_))))))
   obtain ⟨e_14,he_14,hb1⟩:=bindS hb1
   obtain ⟨vs15,at15,d15⟩:=h5.at he_14 3 rfl
   obtain ⟨s16,rfl,h16⟩ : ∃ s16 : Sl,vs15 = [(iV e_14.Area),(iV e_14.House),s16.v]∧Rd m s16 e_14.Values:=d15
   refine q_x (v:=(elP s5 (t_13.toNat * 3))) hF hS (ex_indexAddr Tryz.underlying46 sz84 rfl rfl (h5.idx he_14)) rfl rfl fun a hF=>q_x (v:=(.agg #[(iV e_14.Area),(iV e_14.House),s16.v])) hF hS (ex_loadEA (us:=[(iV e_14.Area),(iV e_14.House),s16.v]) 0 Tryz.underlying84 rfl sz84 rfl ((at15).at) rfl rfl rfl) rfl rfl fun a hF=>q_alloc (cs:=[(iV 0),(iV 0),nilS.v]) hF hS rfl rfl rfl fun a w b17 hF hS=>q_store (vs:=[(iV e_14.Area),(iV e_14.House),s16.v]) (cs':=[(iV e_14.Area),(iV e_14.House),s16.v]) 0 0 hF hS sz84 rfl rfl rfl rfl rfl rfl rfl rfl fun a w hF hS=>q_end (n_sq (q_seq (q_region (q_x (v:=(.agg #[s1.v])) hF hS (ex_loadA (vs:=[s1.v]) 3 0 Tryz.underlying26 rfl sz26 rfl rfl rfl rfl) rfl rfl fun a hF=>q_x (v:=s2.v) hF hS (ex_move rfl) rfl rfl fun a hF=>q_x (v:=(.agg #[(iV p_t.Level),s3.v,s4.v,(iV p_t.Sum)])) hF hS (ex_loadA (vs:=[(iV p_t.Level),s3.v,s4.v,(iV p_t.Sum)]) 2 0 Tryz.underlying29 rfl sz29 rfl rfl rfl rfl) rfl rfl fun a hF=>q_x (v:=(.agg #[(iV e_14.Area),(iV e_14.House),s16.v])) hF hS (ex_loadA (vs:=[(iV e_14.Area),(iV e_14.House),s16.v]) 0 0 Tryz.underlying84 rfl sz84 rfl rfl rfl rfl) rfl rfl fun a hF=>?_))))
   obtain ⟨t_18,ht_18,hb1⟩:=bindS hb1
   refine q_call (vs:=[(.agg #[s1.v]),s2.v,(.agg #[(iV p_t.Level),s3.v,s4.v,(iV p_t.Sum)]),(.agg #[(iV e_14.Area),(iV e_14.House),s16.v])]) hF hS Tryz.func54 (by kernel_rfl) rfl rfl rfl (c_spec_uCell p_g p_s p_t e_14 t_18 ht_18 _ m hS.vis s1 h1 s2 h2 s3 h3 s4 h4 s16 h16) ?_
   rintro a w _ rfl hF hS
   refine q_x (v:=(.tuple #[(iV t_18.1),(iV t_18.2)])) hF hS (ex_move rfl) rfl rfl fun a hF=>q_x (v:=(iV t_18.1)) hF hS (ex_extract rfl rfl) rfl rfl fun a hF=>q_x (v:=(iV t_18.2)) hF hS (ex_extract rfl rfl) rfl rfl fun a hF=>q_x (v:=(iV t_18.1)) hF hS (ex_assign rfl) rfl rfl fun a hF=>q_x (v:=(iV t_18.2)) hF hS (ex_assign rfl) rfl rfl fun a hF=>q_end (n_sq (q_seq (q_region (q_x (v:=(iV t_18.1)) hF hS (ex_move rfl) rfl rfl fun a hF=>q_x (v:=(.bool (decide (0 ≤ t_18.1)))) hF hS (ex_ibin rfl rfl rfl) rfl rfl fun a hF=>q_end (n_sq ?_)))))
   obtain ⟨out_24,hj3,hb1⟩:=bindS hb1
   refine q_join (fun a w=>∃ (q25 : Piece),Fr a 44 [(1,s2.v),(4,(.pointer (some ⟨b6,0,none⟩))),(6,(.pointer (some ⟨b7,0,none⟩))),(9,s10.v),(19,s5.v),(20,(iV (goLen p_l))),(21,(iV t_13))]∧St [] w0 w m [q25,[⟨b7,[(iV p_t.Level),s3.v,s4.v,(iV p_t.Sum)],29⟩],[⟨b6,[s1.v],26⟩]]∧OwnL m 3 q25 s10 out_24) ?_ ?_
   ·rcases bcase (decide (0 ≤ t_18.1)) with hc4 | hc4
    ·have hj3:=cond_f hc4 hj3
     refine q_cond_f hF rfl hc4 (q_skipc (n_jn ?_))
     obtain rfl:=someI hj3
     exact ⟨q12,hF.sub ⟨rfl,rfl,rfl,rfl,rfl,rfl,rfl,trivial⟩,hS.mask [false,true,true,true],h12⟩
    ·have hj3:=cond_t hc4 hj3
     refine q_cond_t hF rfl hc4 (q_region (q_x (v:=s10.v) hF hS (ex_move rfl) rfl rfl fun a hF=>q_x (v:=(iV t_18.1)) hF hS (ex_move rfl) rfl rfl fun a hF=>?_))
     obtain ⟨e_19,he_19,hj3⟩:=bindS hj3
     obtain ⟨vs20,at20,d20⟩:=h12.at he_19 1 rfl
     obtain rfl : vs20 = [(iV e_19)]:=d20
     refine q_x (v:=(elP s10 (t_18.1.toNat * 1))) hF hS (ex_indexAddr Tryz.underlying24 sz3 rfl rfl (h12.idx he_19)) rfl rfl fun a hF=>q_x (v:=(iV e_19)) hF hS (ex_loadE1 0 Tryz.underlying3 rfl rfl (at20.at 1 rfl) rfl rfl) rfl rfl fun a hF=>q_x (v:=(iV t_18.2)) hF hS (ex_move rfl) rfl rfl fun a hF=>q_x (v:=(iV (w64 (e_19 + t_18.2)))) hF hS (ex_ibin rfl rfl rfl) rfl rfl fun a hF=>?_
     obtain ⟨e_21,he_21,hj3⟩:=bindS hj3
     obtain ⟨vs22,at22,d22⟩:=h12.at he_21 1 rfl
     obtain rfl : vs22 = [(iV e_21)]:=d22
     refine q_x (v:=(elP s10 (t_18.1.toNat * 1))) hF hS (ex_indexAddr Tryz.underlying24 sz3 rfl rfl (h12.idx he_21)) rfl rfl fun a hF=>?_
     have hS : St _ _ _ _ [q12,[⟨b17,[(iV e_14.Area),(iV e_14.House),s16.v],84⟩],[⟨b7,[(iV p_t.Level),s3.v,s4.v,(iV p_t.Sum)],29⟩],[⟨b6,[s1.v],26⟩]]:=hS.sel [1,0,2,3] (by decide)
     refine q_do rfl fun _ hK=>wp_storeE (e':=(w64 (e_19 + t_18.2))) (us:=[(iV (w64 (e_19 + t_18.2)))]) (vs:=[(iV e_21)]) 0 hF hS h12 sz3 rfl rfl rfl rfl rfl rfl rfl he_21 at22 rfl rfl rfl fun w q23 hS h23=>hK _ _ (q_end (n_jn ?_))
     obtain rfl:=someI hj3
     exact ⟨q23,hF.sub ⟨rfl,rfl,rfl,rfl,rfl,rfl,rfl,trivial⟩,hS.mask [true,false,true,true],h23⟩
   ·rintro a w ⟨q25,hF,hS,h25⟩
    refine n_ib (n_sq ?_)
    refine q_region (q_x (v:=(iV (w64 (t_13 + 1)))) hF hS (ex_ibin rfl rfl rfl) rfl rfl fun a hF=>q_x (v:=(iV (w64 (t_13 + 1)))) hF hS (ex_move rfl) rfl rfl fun a hF=>q_end ?_)
    obtain rfl:=someI hb1
    exact ⟨rfl,q25,_,_,rfl,hF.sub ⟨rfl,rfl,rfl,rfl,rfl,rfl,rfl,trivial⟩,hS,h25⟩
 ·rintro e a w ⟨q27,rfl,hF,hS,h27⟩
  refine x_ib (n_sq ?_)
  refine q_seq (q_region (q_x (v:=s10.v) hF hS (ex_move rfl) rfl rfl fun a hF=>q_x (v:=s10.v) hF hS (ex_assign rfl) rfl rfl fun a hF=>q_end (n_sq (q_ret ?_))))
  obtain rfl:=someI hr
  exact ret_of hF hS rfl (.tmp rfl .nil) ⟨q27,s10,rfl,hS.sel [0] (by decide),h27⟩

theorem c_spec_DrawReportText (p_code : List (K .u8)) (r : impl_Geo × (List impl_Variable) × impl_Table × (List Int)) (hr : spec_DrawReportText p_code = some r) (w0 : World) (m : Mem) (hv : Vis m w0) (s1 : Sl) (h1 : Rd m s1 p_code) :
  Ret Tryz.prog 5 [s1.v] w0 (fun v w=>∃ (m' : Mem) (q0' : Piece) (q2' : Piece) (q3' : Piece) (q4' : Piece) (s0' : Sl) (s1' : Sl) (s2' : Sl) (s3' : Sl) (s4' : Sl),v = (.tuple #[(.agg #[s0'.v]),s1'.v,(.agg #[(iV r.2.2.1.Level),s2'.v,s3'.v,(iV r.2.2.1.Sum)]),s4'.v])∧MLe [] w0.heap.size m m'∧St [] w0 w m' [q0',q2',q3',q4']∧OwnL m' 3 q0' s0' r.1.Parents∧Rd m' s1' r.2.1∧OwnL m' 3 q2' s2' r.2.2.1.Vars∧OwnL m' 3 q3' s3' r.2.2.1.Where∧OwnL m' 3 q4' s4' r.2.2.2):=by
 unfold spec_DrawReportText at hr
 refine ret_start Tryz.func5 rfl 68 rfl rfl m hv fun a hF hS=>q_seq (q_region (q_alloc (cs:=[nilS.v]) hF hS rfl rfl rfl fun a w b2 hF hS=>q_x (v:=nilS.v) hF hS (ex_assign rfl) rfl rfl fun a hF=>q_alloc (cs:=[(iV 0),nilS.v,nilS.v,(iV 0)]) hF hS rfl rfl rfl fun a w b3 hF hS=>q_x (v:=nilS.v) hF hS (ex_assign rfl) rfl rfl fun a hF=>q_end (n_sq (q_seq (q_region (q_x (v:=s1.v) hF hS (ex_move rfl) rfl rfl fun a hF=>q_x (v:=(.agg #[s1.v,(iV 0),(.int .u64 0)])) hF hS (ex_build (cells:=[s1.v,(iV 0),(.int .u64 0)]) rfl (by kernel_rfl)) rfl rfl fun a hF=>q_box (cs:=[s1.v,(iV 0),(.int .u64 0)]) hF hS rfl rfl rfl fun a w b4 hF hS=>q_x (v:=(.pointer (some ⟨b4,0,none⟩))) hF hS (ex_assign rfl) rfl rfl fun a hF=>q_end (n_sq (q_seq (q_region (q_x (v:=(.pointer (some ⟨b4,0,none⟩))) hF hS (ex_move rfl) rfl rfl fun a hF=>?_))))))))))
 have hS5 : St _ _ _ _ ([[⟨b4,[s1.v,(iV 0),(.int .u64 0)],45⟩]]++[[⟨b3,[(iV 0),nilS.v,nilS.v,(iV 0)],29⟩],[⟨b2,[nilS.v],26⟩]]):=hS
 have hE5:=hS5.enter
 obtain ⟨t_6,ht_6,hr⟩:=bindS hr
 refine q_do rfl fun _ hK=>wp_callX (vs:=[(.pointer (some ⟨b4,0,none⟩))]) hF Tryz.func15 (by kernel_rfl) rfl rfl rfl (c_spec_l1Cur_anySurvey (spec_l1Cur.mk p_code 0 (⟨0⟩ : K .u64)) t_6 ht_6 _ m b4 s1 h1 _ hE5) fun a w _ hR hF=>hK _ _ ?_
 obtain ⟨m5',q7,q9,s7,s8,s9,rfl,hm5,hR5,h7,h8,h9,hk10⟩:=hR
 have hS : St _ _ _ _ [[⟨b4,[s1.v,(iV t_6.2.2.2.at_),(.int .u64 t_6.2.2.2.seed.v)],45⟩],q7,q9,[⟨b3,[(iV 0),nilS.v,nilS.v,(iV 0)],29⟩],[⟨b2,[nilS.v],26⟩]]:=hS5.leave hR5 hm5
 have hm5:=MLe.weakX hS5 hm5
 have h10 : Rd m5' s1 t_6.2.2.2.code:=by rw [hk10]; exact (h1.mono hm5.le)
 refine q_x (v:=(.tuple #[(.agg #[s7.v]),s8.v,s9.v])) hF hS (ex_move rfl) rfl rfl fun a hF=>q_x (v:=(.agg #[s7.v])) hF hS (ex_extract rfl rfl) rfl rfl fun a hF=>q_x (v:=s8.v) hF hS (ex_extract rfl rfl) rfl rfl fun a hF=>q_x (v:=s9.v) hF hS (ex_extract rfl rfl) rfl rfl fun a hF=>q_alloc (cs:=[nilS.v]) hF hS rfl rfl rfl fun a w b11 hF hS=>q_store (vs:=[s7.v]) (cs':=[s7.v]) 0 0 hF hS sz26 rfl rfl rfl rfl rfl rfl rfl rfl fun a w hF hS=>q_x (v:=s8.v) hF hS (ex_assign rfl) rfl rfl fun a hF=>q_x (v:=s9.v) hF hS (ex_assign rfl) rfl rfl fun a hF=>q_end (n_sq (q_seq (q_region (q_x (v:=(.pointer (some ⟨b4,0,none⟩))) hF hS (ex_move rfl) rfl rfl fun a hF=>q_x (v:=(.agg #[s7.v])) hF hS (ex_loadA (vs:=[s7.v]) 0 0 Tryz.underlying26 rfl sz26 rfl rfl rfl rfl) rfl rfl fun a hF=>q_x (v:=s8.v) hF hS (ex_move rfl) rfl rfl fun a hF=>?_))))
 have hS : St _ _ _ _ [[⟨b4,[s1.v,(iV t_6.2.2.2.at_),(.int .u64 t_6.2.2.2.seed.v)],45⟩],[⟨b11,[s7.v],26⟩],q7,q9,[⟨b3,[(iV 0),nilS.v,nilS.v,(iV 0)],29⟩],[⟨b2,[nilS.v],26⟩]]:=hS.sel [1,0,2,3,4,5] (by decide)
 have hS12 : St _ _ _ _ ([[⟨b4,[s1.v,(iV t_6.2.2.2.at_),(.int .u64 t_6.2.2.2.seed.v)],45⟩]]++[[⟨b11,[s7.v],26⟩],q7,q9,[⟨b3,[(iV 0),nilS.v,nilS.v,(iV 0)],29⟩],[⟨b2,[nilS.v],26⟩]]):=hS
 obtain ⟨m12,hl12,hE12,hz12⟩:=hS12.lendX
 obtain ⟨t_13,ht_13,hr⟩:=bindS hr
 refine q_do rfl fun _ hK=>wp_callX (vs:=[(.pointer (some ⟨b4,0,none⟩)),(.agg #[s7.v]),s8.v]) hF Tryz.func16 (by kernel_rfl) rfl rfl rfl (c_spec_l1Cur_anyTable t_6.2.2.2 t_6.1 t_6.2.1 t_13 ht_13 _ m12 b4 s1 (h10.mono hl12) s7 (h7.froz hl12 (hz12 1 _ rfl)) s8 (h8.mono hl12) _ hE12) fun a w _ hR hF=>hK _ _ ?_
 obtain ⟨q14,q15,s14,s15,rfl,hR12,h14,h15,hk16⟩:=hR
 have hS : St _ _ _ _ [[⟨b4,[s1.v,(iV t_13.2.at_),(.int .u64 t_13.2.seed.v)],45⟩],q14,q15,[⟨b11,[s7.v],26⟩],q7,q9,[⟨b3,[(iV 0),nilS.v,nilS.v,(iV 0)],29⟩],[⟨b2,[nilS.v],26⟩]]:=hS12.leaveF hR12
 have h14:=h14.any m5'
 have h15:=h15.any m5'
 have h16 : Rd m5' s1 t_13.2.code:=by rw [hk16]; exact h10
 refine q_alloc (cs:=[(iV 0),nilS.v,nilS.v,(iV 0)]) hF hS rfl rfl rfl fun a w b17 hF hS=>q_store (vs:=[(iV t_13.1.Level),s14.v,s15.v,(iV t_13.1.Sum)]) (cs':=[(iV t_13.1.Level),s14.v,s15.v,(iV t_13.1.Sum)]) 0 0 hF hS sz29 rfl rfl rfl rfl rfl rfl rfl rfl fun a w hF hS=>q_end (n_sq (q_seq (q_seq ?_)))
 obtain ⟨t_22,hj1,hr⟩:=bindS hr
 refine q_join (fun a w=>Fr a 68 [(2,(.pointer (some ⟨b2,0,none⟩))),(4,(.pointer (some ⟨b3,0,none⟩))),(6,(.pointer (some ⟨b4,0,none⟩))),(7,(.pointer (some ⟨b11,0,none⟩))),(8,s8.v),(9,s9.v),(10,(.pointer (some ⟨b17,0,none⟩))),(36,(.bool t_22))]∧St [] w0 w m5' [q9,q14,q15,q7,[⟨b17,[(iV t_13.1.Level),s14.v,s15.v,(iV t_13.1.Sum)],29⟩],[⟨b4,[s1.v,(iV t_13.2.at_),(.int .u64 t_13.2.seed.v)],45⟩],[⟨b11,[s7.v],26⟩],[⟨b3,[(iV 0),nilS.v,nilS.v,(iV 0)],29⟩],[⟨b2,[nilS.v],26⟩]]) ?_ ?_
 ·refine q_region (q_x (v:=(.agg #[s7.v])) hF hS (ex_loadA (vs:=[s7.v]) 4 0 Tryz.underlying26 rfl sz26 rfl rfl rfl rfl) rfl rfl fun a hF=>q_x (v:=s8.v) hF hS (ex_move rfl) rfl rfl fun a hF=>q_x (v:=(.agg #[(iV t_13.1.Level),s14.v,s15.v,(iV t_13.1.Sum)])) hF hS (ex_loadA (vs:=[(iV t_13.1.Level),s14.v,s15.v,(iV t_13.1.Sum)]) 0 0 Tryz.underlying29 rfl sz29 rfl rfl rfl rfl) rfl rfl fun a hF=>?_)
  obtain ⟨m19,hl19,hv19,hz19⟩:=hS.lend
  obtain ⟨t_18,ht_18,hj1⟩:=bindS hj1
  refine q_call (vs:=[(.agg #[s7.v]),s8.v,(.agg #[(iV t_13.1.Level),s14.v,s15.v,(iV t_13.1.Sum)])]) hF hS Tryz.func17 (by kernel_rfl) rfl rfl rfl (c_spec_uGood t_6.1 t_6.2.1 t_13.1 t_18 ht_18 _ m19 hv19 s7 (h7.froz hl19 (hz19 5 _ rfl)) s8 (h8.mono hl19) s14 (h14.froz hl19 (hz19 2 _ rfl)) s15 (h15.froz hl19 (hz19 3 _ rfl))) ?_
  rintro a w _ rfl hF hS
  refine q_x (v:=(.bool (!t_18))) hF hS (ex_not rfl) rfl rfl fun a hF=>q_x (v:=(.bool (!t_18))) hF hS (ex_move rfl) rfl rfl fun a hF=>?_
  rcases bcase (!t_18) with hc2 | hc2
  ·have hj1:=cond_f hc2 hj1
   refine q_xg (v:=(.agg #[s7.v])) hF hS (ex_loadA (vs:=[s7.v]) 4 0 Tryz.underlying26 rfl sz26 rfl rfl rfl rfl) (wanted_t hF rfl rfl rfl hc2) rfl fun a hF=>q_xg (v:=s8.v) hF hS (ex_move rfl) (wanted_t hF rfl rfl rfl hc2) rfl fun a hF=>q_xg (v:=s9.v) hF hS (ex_move rfl) (wanted_t hF rfl rfl rfl hc2) rfl fun a hF=>?_
   obtain ⟨m21,hl21,hv21,hz21⟩:=hS.lend
   obtain ⟨t_20,ht_20,hj1⟩:=bindS hj1
   refine q_callg (vs:=[(.agg #[s7.v]),s8.v,s9.v]) hF hS (wanted_t hF rfl rfl rfl hc2) Tryz.func18 (by kernel_rfl) rfl rfl rfl (c_spec_uSurvey t_6.1 t_6.2.1 t_6.2.2.1 t_20 ht_20 _ m21 hv21 s7 (h7.froz hl21 (hz21 5 _ rfl)) s8 (h8.mono hl21) s9 (h9.froz hl21 (hz21 6 _ rfl))) ?_
   rintro a w _ rfl hF hS
   refine q_xg (v:=(.bool (!t_20))) hF hS (ex_not rfl) (wanted_t hF rfl rfl rfl hc2) rfl fun a hF=>q_x (v:=(.bool (!t_20))) hF hS (ex_pick_f rfl rfl hc2) rfl rfl fun a hF=>q_end (n_jn ?_)
   obtain rfl:=someI hj1
   exact ⟨hF.sub ⟨rfl,rfl,rfl,rfl,rfl,rfl,rfl,rfl,trivial⟩,hS.sel [6,2,3,5,0,1,4,7,8] (by decide)⟩
  ·have hj1:=cond_t hc2 hj1
   refine q_skip hF (wanted_f hF rfl rfl rfl hc2 rfl) rfl fun a hF=>q_skip hF (wanted_f hF rfl rfl rfl hc2 rfl) rfl fun a hF=>q_skip hF (wanted_f hF rfl rfl rfl hc2 rfl) rfl fun a hF=>q_skip hF (wanted_f hF rfl rfl rfl hc2 rfl) rfl fun a hF=>q_skip hF (wanted_f hF rfl rfl rfl hc2 rfl) rfl fun a hF=>q_x (v:=(.bool true)) hF hS (ex_pick_t rfl rfl hc2) rfl rfl fun a hF=>q_end (n_jn ?_)
   obtain rfl:=someI hj1
   exact ⟨hF.sub ⟨rfl,rfl,rfl,rfl,rfl,rfl,rfl,rfl,trivial⟩,hS.sel [6,2,3,5,0,1,4,7,8] (by decide)⟩
 ·rintro a w ⟨hF,hS⟩
  refine n_sq ?_
  rcases bcase (t_22) with hc3 | hc3
  ·have hr:=cond_f hc3 hr
   refine q_cond_f hF rfl hc3 (q_skipc (n_sq (q_seq (q_region (q_x (v:=(.agg #[s7.v])) hF hS (ex_loadA (vs:=[s7.v]) 6 0 Tryz.underlying26 rfl sz26 rfl rfl rfl rfl) rfl rfl fun a hF=>q_x (v:=s8.v) hF hS (ex_move rfl) rfl rfl fun a hF=>q_x (v:=(.agg #[(iV t_13.1.Level),s14.v,s15.v,(iV t_13.1.Sum)])) hF hS (ex_loadA (vs:=[(iV t_13.1.Level),s14.v,s15.v,(iV t_13.1.Sum)]) 4 0 Tryz.underlying29 rfl sz29 rfl rfl rfl rfl) rfl rfl fun a hF=>q_x (v:=s9.v) hF hS (ex_move rfl) rfl rfl fun a hF=>?_)))))
   obtain ⟨m24,hl24,hv24,hz24⟩:=hS.lend
   obtain ⟨t_23,ht_23,hr⟩:=bindS hr
   refine q_call (vs:=[(.agg #[s7.v]),s8.v,(.agg #[(iV t_13.1.Level),s14.v,s15.v,(iV t_13.1.Sum)]),s9.v]) hF hS Tryz.func19 (by kernel_rfl) rfl rfl rfl (c_spec_uTable t_6.1 t_6.2.1 t_13.1 t_6.2.2.1 t_23 ht_23 _ m24 hv24 s7 (h7.froz hl24 (hz24 3 _ rfl)) s8 (h8.mono hl24) s14 (h14.froz hl24 (hz24 1 _ rfl)) s15 (h15.froz hl24 (hz24 2 _ rfl)) s9 (h9.froz hl24 (hz24 0 _ rfl))) ?_
   rintro a w _ ⟨q26,s26,rfl,hR25,h26⟩ hF hS2
   have hS : St _ _ _ _ [q26,q9,q14,q15,q7,[⟨b17,[(iV t_13.1.Level),s14.v,s15.v,(iV t_13.1.Sum)],29⟩],[⟨b4,[s1.v,(iV t_13.2.at_),(.int .u64 t_13.2.seed.v)],45⟩],[⟨b11,[s7.v],26⟩],[⟨b3,[(iV 0),nilS.v,nilS.v,(iV 0)],29⟩],[⟨b2,[nilS.v],26⟩]]:=hS.joinF hR25
   have h26:=h26.any m5'
   refine q_x (v:=s26.v) hF hS (ex_assign rfl) rfl rfl fun a hF=>q_end (n_sq (q_seq (q_seq (q_region (q_x (v:=(.pointer (some ⟨b4,0,none⟩))) hF hS (ex_move rfl) rfl rfl fun a hF=>?_)))))
   have hS : St _ _ _ _ [[⟨b4,[s1.v,(iV t_13.2.at_),(.int .u64 t_13.2.seed.v)],45⟩],q26,q9,q14,q15,q7,[⟨b17,[(iV t_13.1.Level),s14.v,s15.v,(iV t_13.1.Sum)],29⟩],[⟨b11,[s7.v],26⟩],[⟨b3,[(iV 0),nilS.v,nilS.v,(iV 0)],29⟩],[⟨b2,[nilS.v],26⟩]]:=hS.sel [6,0,1,2,3,4,5,7,8,9] (by decide)
   have hS27 : St _ _ _ _ ([[⟨b4,[s1.v,(iV t_13.2.at_),(.int .u64 t_13.2.seed.v)],45⟩]]++[q26,q9,q14,q15,q7,[⟨b17,[(iV t_13.1.Level),s14.v,s15.v,(iV t_13.1.Sum)],29⟩],[⟨b11,[s7.v],26⟩],[⟨b3,[(iV 0),nilS.v,nilS.v,(iV 0)],29⟩],[⟨b2,[nilS.v],26⟩]]):=hS
   have hE27:=hS27.enter
   obtain ⟨t_28,ht_28,hr⟩:=bindS hr
   refine q_do rfl fun _ hK=>wp_callX (vs:=[(.pointer (some ⟨b4,0,none⟩)),(iV 12)]) hF Tryz.func20 (by kernel_rfl) rfl rfl rfl (c_spec_l1Cur_pick t_13.2 12 t_28 ht_28 _ m5' b4 s1 h16 _ hE27) fun a w _ hR hF=>hK _ _ ?_
   obtain ⟨rfl,hR27,hk29⟩:=hR
   have hS : St _ _ _ _ [[⟨b4,[s1.v,(iV t_28.2.at_),(.int .u64 t_28.2.seed.v)],45⟩],q26,q9,q14,q15,q7,[⟨b17,[(iV t_13.1.Level),s14.v,s15.v,(iV t_13.1.Sum)],29⟩],[⟨b11,[s7.v],26⟩],[⟨b3,[(iV 0),nilS.v,nilS.v,(iV 0)],29⟩],[⟨b2,[nilS.v],26⟩]]:=hS27.leaveF hR27
   have h29 : Rd m5' s1 t_28.2.code:=by rw [hk29]; exact h16
   refine q_end (n_sq (q_block (q_seq (q_region (q_x (v:=(.bool (t_28.1 == 0))) hF hS (ex_ibin rfl rfl rfl) rfl rfl fun a hF=>q_x (v:=(.bool (t_28.1 == 0))) hF hS (ex_assign rfl) rfl rfl fun a hF=>q_end (n_sq ?_))))))
   obtain ⟨cells_45,hj4,hr⟩:=bindS hr
   refine q_join (fun a w=>∃ (q46 : Piece),∃ (s46 : Sl),Fr a 68 [(2,(.pointer (some ⟨b2,0,none⟩))),(4,(.pointer (some ⟨b3,0,none⟩))),(7,(.pointer (some ⟨b11,0,none⟩))),(8,s8.v),(10,(.pointer (some ⟨b17,0,none⟩))),(11,s46.v)]∧St [] w0 w m5' [q46,q14,q15,q7,[⟨b17,[(iV t_13.1.Level),s14.v,s15.v,(iV t_13.1.Sum)],29⟩],[⟨b11,[s7.v],26⟩],[⟨b3,[(iV 0),nilS.v,nilS.v,(iV 0)],29⟩],[⟨b2,[nilS.v],26⟩]]∧OwnL m5' 3 q46 s46 cells_45) ?_ ?_
   ·rcases bcase (t_28.1 == 0) with hc5 | hc5
    ·have hj4:=cond_f hc5 hj4
     refine q_cond_f hF rfl hc5 (q_seq (q_region (q_x (v:=(.bool (t_28.1 == 1))) hF hS (ex_ibin rfl rfl rfl) rfl rfl fun a hF=>q_x (v:=(.bool (t_28.1 == 1))) hF hS (ex_assign rfl) rfl rfl fun a hF=>q_end (n_sq ?_))))
     obtain ⟨cells_40,hj6,hj4⟩:=bindS hj4
     refine q_join (fun a w=>∃ (q41 : Piece),Fr a 68 [(2,(.pointer (some ⟨b2,0,none⟩))),(4,(.pointer (some ⟨b3,0,none⟩))),(7,(.pointer (some ⟨b11,0,none⟩))),(8,s8.v),(10,(.pointer (some ⟨b17,0,none⟩))),(11,s26.v)]∧St [] w0 w m5' [q41,q14,q15,q7,[⟨b17,[(iV t_13.1.Level),s14.v,s15.v,(iV t_13.1.Sum)],29⟩],[⟨b11,[s7.v],26⟩],[⟨b3,[(iV 0),nilS.v,nilS.v,(iV 0)],29⟩],[⟨b2,[nilS.v],26⟩]]∧OwnL m5' 3 q41 s26 cells_40) ?_ ?_
     ·rcases bcase (t_28.1 == 1) with hc7 | hc7
      ·have hj6:=cond_f hc7 hj6
       refine q_cond_f hF rfl hc7 (q_skipc (n_jn ?_))
       obtain rfl:=someI hj6
       exact ⟨q26,hF.sub ⟨rfl,rfl,rfl,rfl,rfl,rfl,trivial⟩,hS.mask [false,true,false,true,true,true,true,true,true,true],h26⟩
      ·have hj6:=cond_t hc7 hj6
       refine q_cond_t hF rfl hc7 (q_region (q_x (v:=s26.v) hF hS (ex_move rfl) rfl rfl fun a hF=>q_x (v:=(.pointer (some ⟨b4,0,none⟩))) hF hS (ex_move rfl) rfl rfl fun a hF=>q_x (v:=s26.v) hF hS (ex_move rfl) rfl rfl fun a hF=>q_x (v:=(iV (goLen t_23))) hF hS (ex_len Tryz.underlying24 rfl h26.len) rfl rfl fun a hF=>?_))
       have hS30 : St _ _ _ _ ([[⟨b4,[s1.v,(iV t_28.2.at_),(.int .u64 t_28.2.seed.v)],45⟩]]++[q26,q9,q14,q15,q7,[⟨b17,[(iV t_13.1.Level),s14.v,s15.v,(iV t_13.1.Sum)],29⟩],[⟨b11,[s7.v],26⟩],[⟨b3,[(iV 0),nilS.v,nilS.v,(iV 0)],29⟩],[⟨b2,[nilS.v],26⟩]]):=hS
       have hE30:=hS30.enter
       obtain ⟨t_31,ht_31,hj6⟩:=bindS hj6
       refine q_do rfl fun _ hK=>wp_callX (vs:=[(.pointer (some ⟨b4,0,none⟩)),(iV (goLen t_23))]) hF Tryz.func20 (by kernel_rfl) rfl rfl rfl (c_spec_l1Cur_pick t_28.2 (goLen t_23) t_31 ht_31 _ m5' b4 s1 h29 _ hE30) fun a w _ hR hF=>hK _ _ ?_
       obtain ⟨rfl,hR30,hk32⟩:=hR
       have hS : St _ _ _ _ [[⟨b4,[s1.v,(iV t_31.2.at_),(.int .u64 t_31.2.seed.v)],45⟩],q26,q9,q14,q15,q7,[⟨b17,[(iV t_13.1.Level),s14.v,s15.v,(iV t_13.1.Sum)],29⟩],[⟨b11,[s7.v],26⟩],[⟨b3,[(iV 0),nilS.v,nilS.v,(iV 0)],29⟩],[⟨b2,[nilS.v],26⟩]]:=hS30.leaveF hR30
       have h32 : Rd m5' s1 t_31.2.code:=by rw [hk32]; exact h29
       refine q_x (v:=(.pointer (some ⟨b4,0,none⟩))) hF hS (ex_move rfl) rfl rfl fun a hF=>q_do rfl fun _ hK=>wp_buildSlice' (l:=([-5,1000000,1000001,-1000000] : List Int)) (cells:=[(iV (-5)),(iV 1000000),(iV 1000001),(iV (-1000000))]) hF hS Tryz.underlying24 inf3 rfl rfl (by kernel_rfl) rfl rfl rfl ⟨rfl,rfl,rfl,rfl,rfl⟩ rfl rfl fun a w q33 s33 hF hS h33 _=>hK _ _ ?_
       have hS : St _ _ _ _ [[⟨b4,[s1.v,(iV t_31.2.at_),(.int .u64 t_31.2.seed.v)],45⟩],q33,q26,q9,q14,q15,q7,[⟨b17,[(iV t_13.1.Level),s14.v,s15.v,(iV t_13.1.Sum)],29⟩],[⟨b11,[s7.v],26⟩],[⟨b3,[(iV 0),nilS.v,nilS.v,(iV 0)],29⟩],[⟨b2,[nilS.v],26⟩]]:=hS.sel [1,0,2,3,4,5,6,7,8,9,10] (by decide)
       have hS34 : St _ _ _ _ ([[⟨b4,[s1.v,(iV t_31.2.at_),(.int .u64 t_31.2.seed.v)],45⟩]]++[q33,q26,q9,q14,q15,q7,[⟨b17,[(iV t_13.1.Level),s14.v,s15.v,(iV t_13.1.Sum)],29⟩],[⟨b11,[s7.v],26⟩],[⟨b3,[(iV 0),nilS.v,nilS.v,(iV 0)],29⟩],[⟨b2,[nilS.v],26⟩]]):=hS
       obtain ⟨m34,hl34,hE34,hz34⟩:=hS34.lendX
       obtain ⟨t_35,ht_35,hj6⟩:=bindS hj6
       refine q_do rfl fun _ hK=>wp_callX (vs:=[(.pointer (some ⟨b4,0,none⟩)),s33.v]) hF Tryz.func21 (by kernel_rfl) rfl rfl rfl (c_spec_l1Cur_among t_31.2 ([-5,1000000,1000001,-1000000] : List Int) t_35 ht_35 _ m34 b4 s1 (h32.mono hl34) s33 (h33.froz hl34 (hz34 0 _ rfl)) _ hE34) fun a w _ hR hF=>hK _ _ ?_
       obtain ⟨rfl,hR34,hk36⟩:=hR
       have hS : St _ _ _ _ [[⟨b4,[s1.v,(iV t_35.2.at_),(.int .u64 t_35.2.seed.v)],45⟩],q33,q26,q9,q14,q15,q7,[⟨b17,[(iV t_13.1.Level),s14.v,s15.v,(iV t_13.1.Sum)],29⟩],[⟨b11,[s7.v],26⟩],[⟨b3,[(iV 0),nilS.v,nilS.v,(iV 0)],29⟩],[⟨b2,[nilS.v],26⟩]]:=hS34.leaveF hR34
       have h36 : Rd m5' s1 t_35.2.code:=by rw [hk36]; exact h32
       obtain ⟨e_37,he_37,hj6⟩:=bindS hj6
       obtain ⟨vs38,at38,d38⟩:=h26.at he_37 1 rfl
       obtain rfl : vs38 = [(iV e_37)]:=d38
       refine q_x (v:=(elP s26 (t_31.1.toNat * 1))) hF hS (ex_indexAddr Tryz.underlying24 sz3 rfl rfl (h26.idx he_37)) rfl rfl fun a hF=>?_
       have hS : St _ _ _ _ [q26,[⟨b4,[s1.v,(iV t_35.2.at_),(.int .u64 t_35.2.seed.v)],45⟩],q33,q9,q14,q15,q7,[⟨b17,[(iV t_13.1.Level),s14.v,s15.v,(iV t_13.1.Sum)],29⟩],[⟨b11,[s7.v],26⟩],[⟨b3,[(iV 0),nilS.v,nilS.v,(iV 0)],29⟩],[⟨b2,[nilS.v],26⟩]]:=hS.sel [2,0,1,3,4,5,6,7,8,9,10] (by decide)
       refine q_do rfl fun _ hK=>wp_storeE (e':=t_35.1) (us:=[(iV t_35.1)]) (vs:=[(iV e_37)]) 0 hF hS h26 sz3 rfl rfl rfl rfl rfl rfl rfl he_37 at38 rfl rfl rfl fun w q39 hS h39=>hK _ _ (q_end (n_jn ?_))
       obtain rfl:=someI hj6
       exact ⟨q39,hF.sub ⟨rfl,rfl,rfl,rfl,rfl,rfl,trivial⟩,hS.mask [true,false,false,false,true,true,true,true,true,true,true],h39⟩
     ·rintro a w ⟨q41,hF,hS,h41⟩
      refine n_jn ?_
      obtain rfl:=someI hj4
      exact ⟨q41,s26,hF.sub ⟨rfl,rfl,rfl,rfl,rfl,rfl,trivial⟩,hS,h41⟩
    ·have hj4:=cond_t hc5 hj4
     refine q_cond_t hF rfl hc5 (q_region (q_x (v:=s26.v) hF hS (ex_move rfl) rfl rfl fun a hF=>q_do rfl fun _ hK=>wp_buildSlice' (l:=([0] : List Int)) (cells:=[(iV 0)]) hF hS Tryz.underlying24 inf3 rfl rfl (by kernel_rfl) rfl rfl rfl ⟨rfl,rfl⟩ rfl rfl fun a w q42 s42 hF hS h42 _=>hK _ _ ?_))
     have hS : St _ _ _ _ [q26,q42,[⟨b4,[s1.v,(iV t_28.2.at_),(.int .u64 t_28.2.seed.v)],45⟩],q9,q14,q15,q7,[⟨b17,[(iV t_13.1.Level),s14.v,s15.v,(iV t_13.1.Sum)],29⟩],[⟨b11,[s7.v],26⟩],[⟨b3,[(iV 0),nilS.v,nilS.v,(iV 0)],29⟩],[⟨b2,[nilS.v],26⟩]]:=hS.sel [2,0,1,3,4,5,6,7,8,9,10] (by decide)
     obtain ⟨l_43,hl_43,hj4⟩:=bindS hj4
     refine q_do rfl fun _ hK=>wp_append hF hS h26 Tryz.underlying24 inf3 rfl rfl rfl rfl (h42.vw hS (j:=1) rfl) rfl (by decide) hl_43 rfl fun a w q44 s44 hF hS h44=>hK _ _ (q_x (v:=s44.v) hF hS (ex_assign rfl) rfl rfl fun a hF=>q_end (n_jn ?_))
     obtain rfl:=someI hj4
     exact ⟨q44,s44,hF.sub ⟨rfl,rfl,rfl,rfl,rfl,rfl,trivial⟩,hS.mask [true,false,false,false,true,true,true,true,true,true,true],h44⟩
   ·rintro a w ⟨q46,s46,hF,hS,h46⟩
    refine n_ib (n_sq ?_)
    refine q_seq (e_region ⟨[4,6],[b11,b17]⟩ mixed fun w' hw'=>?_)
    have hS:=hS.below hw'
    refine e_xb (v:=(.agg #[s7.v])) 0 5 hF hS (.head _) rfl rfl (ex_loadA (vs:=[s7.v]) 0 0 Tryz.underlying26 rfl sz26 rfl rfl rfl rfl) rfl rfl (by kernel_rfl) (by kernel_rfl) (by kernel_rfl) fun a hF=>e_p (v:=s8.v) 1 hF rfl (ex_move rfl) rfl rfl (by kernel_rfl) (by kernel_rfl) (by kernel_rfl) fun a hF=>e_xb (v:=(.agg #[(iV t_13.1.Level),s14.v,s15.v,(iV t_13.1.Sum)])) 2 4 hF hS (.tail _ (.head _)) rfl rfl (ex_loadA (vs:=[(iV t_13.1.Level),s14.v,s15.v,(iV t_13.1.Sum)]) 0 0 Tryz.underlying29 rfl sz29 rfl rfl rfl rfl) rfl rfl (by kernel_rfl) (by kernel_rfl) (by kernel_rfl) fun a hF=>e_p (v:=s46.v) 3 hF rfl (ex_move rfl) rfl rfl (by kernel_rfl) (by kernel_rfl) (by kernel_rfl) fun a hF=>e_one 4 (by kernel_rfl) ?_
    have hSo:=hS
    refine e_store (vs:=[s7.v]) (cs':=[s7.v]) 7 0 hF hS rfl rfl sz26 rfl rfl rfl rfl rfl rfl rfl rfl fun a w hF hS=>⟨kpC hSo hS 5 5 rfl rfl (kpC hSo hS 4 4 rfl rfl kpN),?_⟩
    refine e_p (v:=s8.v) 5 hF rfl (ex_assign rfl) rfl rfl (by kernel_rfl) (by kernel_rfl) (by kernel_rfl) fun a hF=>e_one 6 (by kernel_rfl) ?_
    have hSo:=hS
    refine e_store (vs:=[(iV t_13.1.Level),s14.v,s15.v,(iV t_13.1.Sum)]) (cs':=[(iV t_13.1.Level),s14.v,s15.v,(iV t_13.1.Sum)]) 6 0 hF hS rfl rfl sz29 rfl rfl rfl rfl rfl rfl rfl rfl fun a w hF hS=>⟨kpC hSo hS 5 5 rfl rfl (kpC hSo hS 4 4 rfl rfl kpN),?_⟩
    refine e_p (v:=s46.v) 7 hF rfl (ex_assign rfl) rfl rfl (by kernel_rfl) (by kernel_rfl) (by kernel_rfl) fun a hF=>e_end (by kernel_rfl) (n_sq (q_ret ?_)) _
    obtain rfl:=someI hr
    exact ret_of hF hS rfl (.cellA (us:=[s7.v]) 7 0 Tryz.underlying26 rfl sz26 rfl rfl rfl rfl (.tmp rfl (.cellA (us:=[(iV t_13.1.Level),s14.v,s15.v,(iV t_13.1.Sum)]) 6 0 Tryz.underlying29 rfl sz29 rfl rfl rfl rfl (.tmp rfl .nil)))) ⟨m5',q7,q14,q15,q46,s7,s8,s14,s15,s46,rfl,hm5,hS.sel [3,1,2,0] (by decide),h7,h8,h14,h15,h46⟩
  ·have hr:=cond_t hc3 hr
   refine q_cond_t hF rfl hc3 (q_seq ?_)
   obtain ⟨t_49,hj8,hr⟩:=bindS hr
   refine q_join (fun a w=>∃ (q50 : Piece),∃ (s50 : Sl),Fr a 68 [(2,(.pointer (some ⟨b2,0,none⟩))),(3,s8.v),(4,(.pointer (some ⟨b3,0,none⟩))),(5,s50.v)]∧St [] w0 w m5' [q50,q14,q15,q7,[⟨b3,[(iV t_13.1.Level),s14.v,s15.v,(iV t_13.1.Sum)],29⟩],[⟨b2,[s7.v],26⟩]]∧OwnL m5' 3 q50 s50 t_49) ?_ ?_
   ·refine e_region ⟨[4,6],[b11,b17]⟩ mixed fun w' hw'=>?_
    have hS:=hS.below hw'
    refine e_xb (v:=(.agg #[s7.v])) 0 6 hF hS (.head _) rfl rfl (ex_loadA (vs:=[s7.v]) 0 0 Tryz.underlying26 rfl sz26 rfl rfl rfl rfl) rfl rfl (by kernel_rfl) (by kernel_rfl) (by kernel_rfl) fun a hF=>e_p (v:=s8.v) 1 hF rfl (ex_move rfl) rfl rfl (by kernel_rfl) (by kernel_rfl) (by kernel_rfl) fun a hF=>e_xb (v:=(.agg #[(iV t_13.1.Level),s14.v,s15.v,(iV t_13.1.Sum)])) 2 4 hF hS (.tail _ (.head _)) rfl rfl (ex_loadA (vs:=[(iV t_13.1.Level),s14.v,s15.v,(iV t_13.1.Sum)]) 0 0 Tryz.underlying29 rfl sz29 rfl rfl rfl rfl) rfl rfl (by kernel_rfl) (by kernel_rfl) (by kernel_rfl) fun a hF=>e_all [3,4] (by kernel_rfl) rfl ⟨?_,?_,trivial⟩
    ·refine e_op rfl rfl fun _ hK=>wp_buildSlice' (l:=([1] : List Int)) (cells:=[(iV 1)]) hF hS Tryz.underlying24 inf3 rfl rfl (by kernel_rfl) rfl rfl rfl ⟨rfl,rfl⟩ rfl rfl fun a w q48 s48 hF hS h48 hb=>hK _ _ hb (e_one 4 (by kernel_rfl) ?_)
     have hSo:=hS
     refine e_store (vs:=[s7.v]) (cs':=[s7.v]) 9 0 hF hS rfl rfl sz26 rfl rfl rfl rfl rfl rfl rfl rfl fun a w hF hS=>⟨kpC hSo hS 7 7 rfl rfl (kpC hSo hS 5 5 rfl rfl kpN),?_⟩
     refine e_p (v:=s8.v) 5 hF rfl (ex_assign rfl) rfl rfl (by kernel_rfl) (by kernel_rfl) (by kernel_rfl) fun a hF=>e_one 6 (by kernel_rfl) ?_
     have hSo:=hS
     refine e_store (vs:=[(iV t_13.1.Level),s14.v,s15.v,(iV t_13.1.Sum)]) (cs':=[(iV t_13.1.Level),s14.v,s15.v,(iV t_13.1.Sum)]) 8 0 hF hS rfl rfl sz29 rfl rfl rfl rfl rfl rfl rfl rfl fun a w hF hS=>⟨kpC hSo hS 7 7 rfl rfl (kpC hSo hS 5 5 rfl rfl kpN),?_⟩
     refine e_p (v:=s48.v) 7 hF rfl (ex_assign rfl) rfl rfl (by kernel_rfl) (by kernel_rfl) (by kernel_rfl) fun a hF=>e_end (by kernel_rfl) (n_jn ?_) _
     obtain rfl:=someI hj8
     exact ⟨q48,s48,hF.sub ⟨rfl,rfl,rfl,rfl,trivial⟩,hS.mask [true,false,true,true,true,false,false,false,true,true],h48⟩
    ·have hSo:=hS
     refine e_store (vs:=[s7.v]) (cs':=[s7.v]) 8 0 hF hS rfl rfl sz26 rfl rfl rfl rfl rfl rfl rfl rfl fun a w hF hS=>⟨kpC hSo hS 6 6 rfl rfl (kpC hSo hS 4 4 rfl rfl kpN),?_⟩
     refine e_p (v:=s8.v) 5 hF rfl (ex_assign rfl) rfl rfl (by kernel_rfl) (by kernel_rfl) (by kernel_rfl) fun a hF=>e_all [3,6] (by kernel_rfl) rfl ⟨?_,?_,trivial⟩
     ·refine e_op rfl rfl fun _ hK=>wp_buildSlice' (l:=([1] : List Int)) (cells:=[(iV 1)]) hF hS Tryz.underlying24 inf3 rfl rfl (by kernel_rfl) rfl rfl rfl ⟨rfl,rfl⟩ rfl rfl fun a w q48 s48 hF hS h48 hb=>hK _ _ hb (e_one 6 (by kernel_rfl) ?_)
      have hSo:=hS
      refine e_store (vs:=[(iV t_13.1.Level),s14.v,s15.v,(iV t_13.1.Sum)]) (cs':=[(iV t_13.1.Level),s14.v,s15.v,(iV t_13.1.Sum)]) 8 0 hF hS rfl rfl sz29 rfl rfl rfl rfl rfl rfl rfl rfl fun a w hF hS=>⟨kpC hSo hS 7 7 rfl rfl (kpC hSo hS 5 5 rfl rfl kpN),?_⟩
      refine e_p (v:=s48.v) 7 hF rfl (ex_assign rfl) rfl rfl (by kernel_rfl) (by kernel_rfl) (by kernel_rfl) fun a hF=>e_end (by kernel_rfl) (n_jn ?_) _
      obtain rfl:=someI hj8
      exact ⟨q48,s48,hF.sub ⟨rfl,rfl,rfl,rfl,trivial⟩,hS.mask [true,false,true,true,true,false,false,false,true,true],h48⟩
     ·have hSo:=hS
      refine e_store (vs:=[(iV t_13.1.Level),s14.v,s15.v,(iV t_13.1.Sum)]) (cs':=[(iV t_13.1.Level),s14.v,s15.v,(iV t_13.1.Sum)]) 7 0 hF hS rfl rfl sz29 rfl rfl rfl rfl rfl rfl rfl rfl fun a w hF hS=>⟨kpC hSo hS 6 6 rfl rfl (kpC hSo hS 4 4 rfl rfl kpN),?_⟩
      refine e_one 3 (by kernel_rfl) (e_op rfl rfl fun _ hK=>wp_buildSlice' (l:=([1] : List Int)) (cells:=[(iV 1)]) hF hS Tryz.underlying24 inf3 rfl rfl (by kernel_rfl) rfl rfl rfl ⟨rfl,rfl⟩ rfl rfl fun a w q48 s48 hF hS h48 hb=>hK _ _ hb (e_p (v:=s48.v) 7 hF rfl (ex_assign rfl) rfl rfl (by kernel_rfl) (by kernel_rfl) (by kernel_rfl) fun a hF=>e_end (by kernel_rfl) (n_jn ?_) _))
      obtain rfl:=someI hj8
      exact ⟨q48,s48,hF.sub ⟨rfl,rfl,rfl,rfl,trivial⟩,hS.mask [true,false,true,true,true,false,false,false,true,true],h48⟩
   ·rintro a w ⟨q50,s50,hF,hS,h50⟩
    refine n_sq (q_ret (r_sq ?_))
    obtain rfl:=someI hr
    exact ret_of hF hS rfl (.cellA (us:=[s7.v]) 5 0 Tryz.underlying26 rfl sz26 rfl rfl rfl rfl (.tmp rfl (.cellA (us:=[(iV t_13.1.Level),s14.v,s15.v,(iV t_13.1.Sum)]) 4 0 Tryz.underlying29 rfl sz29 rfl rfl rfl rfl (.tmp rfl .nil)))) ⟨m5',q7,q14,q15,q50,s7,s8,s14,s15,s50,rfl,hm5,hS.sel [3,1,2,0] (by decide),h7,h8,h14,h15,h50⟩

theorem c_impl_IsGeo (p_g : impl_Geo) (r : Bool) (hr : impl_IsGeo p_g = some r) (w0 : World) (m : Mem) (hv : Vis m w0) (s1 : Sl) (h1 : Rd m s1 p_g.Parents) :
  Ret Tryz.prog 56 [(.agg #[s1.v])] w0 (fun v _=>v = (.bool r)):=by
 unfold impl_IsGeo at hr
 refine ret_start Tryz.func56 rfl 43 rfl rfl m hv fun a hF hS=>q_seq (q_region (q_box (cs:=[s1.v]) hF hS rfl rfl rfl fun a w b2 hF hS=>q_x (v:=(.bool false)) hF hS (ex_assign rfl) rfl rfl fun a hF=>q_end (n_sq (q_seq (q_seq ?_)))))
 obtain ⟨t_5,hj1,hr⟩:=bindS hr
 refine q_join (fun a w=>Fr a 43 [(1,(.pointer (some ⟨b2,0,none⟩))),(20,(.bool t_5))]∧St [] w0 w m [[⟨b2,[s1.v],26⟩]]) ?_ ?_
 ·refine q_region (q_x (v:=(.pointer (some ⟨b2,0,none⟩))) hF hS (ex_fieldAddr Tryz.underlying26 rfl sz24 rfl rfl) rfl rfl fun a hF=>q_x (v:=s1.v) hF hS (ex_load1 0 0 Tryz.underlying24 rfl rfl rfl rfl) rfl rfl fun a hF=>q_x (v:=(iV (goLen p_g.Parents))) hF hS (ex_len Tryz.underlying24 rfl h1.len) rfl rfl fun a hF=>q_x (v:=(.bool (decide ((goLen p_g.Parents) < 1)))) hF hS (ex_ibin rfl rfl rfl) rfl rfl fun a hF=>q_x (v:=(.bool (decide ((goLen p_g.Parents) < 1)))) hF hS (ex_move rfl) rfl rfl fun a hF=>?_)
  rcases bcase (decide ((goLen p_g.Parents) < 1)) with hc2 | hc2
  ·have hj1:=cond_f hc2 hj1
   refine q_xg (v:=(.pointer (some ⟨b2,0,none⟩))) hF hS (ex_fieldAddr Tryz.underlying26 rfl sz24 rfl rfl) (wanted_t hF rfl rfl rfl hc2) rfl fun a hF=>q_xg (v:=s1.v) hF hS (ex_load1 0 0 Tryz.underlying24 rfl rfl rfl rfl) (wanted_t hF rfl rfl rfl hc2) rfl fun a hF=>q_xg (v:=(iV (goLen p_g.Parents))) hF hS (ex_len Tryz.underlying24 rfl h1.len) (wanted_t hF rfl rfl rfl hc2) rfl fun a hF=>q_xg (v:=(.bool (decide (30 < (goLen p_g.Parents))))) hF hS (ex_ibin rfl rfl rfl) (wanted_t hF rfl rfl rfl hc2) rfl fun a hF=>q_x (v:=(.bool (decide (30 < (goLen p_g.Parents))))) hF hS (ex_pick_f rfl rfl hc2) rfl rfl fun a hF=>q_x (v:=(.bool (decide (30 < (goLen p_g.Parents))))) hF hS (ex_move rfl) rfl rfl fun a hF=>?_
   rcases bcase (decide (30 < (goLen p_g.Parents))) with hc3 | hc3
   ·have hj1:=cond_f hc3 hj1
    refine q_xg (v:=(.pointer (some ⟨b2,0,none⟩))) hF hS (ex_fieldAddr Tryz.underlying26 rfl sz24 rfl rfl) (wanted_t hF rfl rfl rfl hc3) rfl fun a hF=>q_xg (v:=s1.v) hF hS (ex_load1 0 0 Tryz.underlying24 rfl rfl rfl rfl) (wanted_t hF rfl rfl rfl hc3) rfl fun a hF=>?_
    obtain ⟨e_3,he_3,hj1⟩:=bindS hj1
    obtain ⟨vs4,at4,d4⟩:=h1.at he_3 1 rfl
    obtain rfl : vs4 = [(iV e_3)]:=d4
    refine q_xg (v:=(elP s1 ((0 : Int).toNat * 1))) hF hS (ex_indexAddr Tryz.underlying24 sz3 rfl rfl (h1.idx he_3)) (wanted_t hF rfl rfl rfl hc3) rfl fun a hF=>q_xg (v:=(iV e_3)) hF hS (ex_loadE1 0 Tryz.underlying3 rfl rfl ((at4).at) rfl rfl) (wanted_t hF rfl rfl rfl hc3) rfl fun a hF=>q_xg (v:=(.bool (e_3 != (-1)))) hF hS (ex_ibin rfl rfl rfl) (wanted_t hF rfl rfl rfl hc3) rfl fun a hF=>q_x (v:=(.bool (e_3 != (-1)))) hF hS (ex_pick_f rfl rfl hc3) rfl rfl fun a hF=>q_end (n_jn ?_)
    obtain rfl:=someI hj1
    exact ⟨hF.sub ⟨rfl,rfl,trivial⟩,hS⟩
   ·have hj1:=cond_t hc3 hj1
    refine q_skip hF (wanted_f hF rfl rfl rfl hc3 rfl) rfl fun a hF=>q_skip hF (wanted_f hF rfl rfl rfl hc3 rfl) rfl fun a hF=>q_skip hF (wanted_f hF rfl rfl rfl hc3 rfl) rfl fun a hF=>q_skip hF (wanted_f hF rfl rfl rfl hc3 rfl) rfl fun a hF=>q_skip hF (wanted_f hF rfl rfl rfl hc3 rfl) rfl fun a hF=>q_x (v:=(.bool true)) hF hS (ex_pick_t rfl rfl hc3) rfl rfl fun a hF=>q_end (n_jn ?_)
    obtain rfl:=someI hj1
    exact ⟨hF.sub ⟨rfl,rfl,trivial⟩,hS⟩
  ·have hj1:=cond_t hc2 hj1
   refine q_skip hF (wanted_f hF rfl rfl rfl hc2 rfl) rfl fun a hF=>q_skip hF (wanted_f hF rfl rfl rfl hc2 rfl) rfl fun a hF=>q_skip hF (wanted_f hF rfl rfl rfl hc2 rfl) rfl fun a hF=>q_skip hF (wanted_f hF rfl rfl rfl hc2 rfl) rfl fun a hF=>q_x (v:=(.bool true)) hF hS (ex_pick_t rfl rfl hc2) rfl rfl fun a hF=>q_x (v:=(.bool true)) hF hS (ex_move rfl) rfl rfl fun a hF=>q_skip hF (wanted_f hF rfl rfl rfl rfl rfl) rfl fun a hF=>q_skip hF (wanted_f hF rfl rfl rfl rfl rfl) rfl fun a hF=>q_skip hF (wanted_f hF rfl rfl rfl rfl rfl) rfl fun a hF=>q_skip hF (wanted_f hF rfl rfl rfl rfl rfl) rfl fun a hF=>q_skip hF (wanted_f hF rfl rfl rfl rfl rfl) rfl fun a hF=>q_x (v:=(.bool true)) hF hS (ex_pick_t rfl rfl rfl) rfl rfl fun a hF=>q_end (n_jn ?_)
   obtain rfl:=someI hj1
   exact ⟨hF.sub ⟨rfl,rfl,trivial⟩,hS⟩
 ·rintro a w ⟨hF,hS⟩
  refine n_sq ?_
  rcases bcase (t_5) with hc4 | hc4
  ·have hr:=cond_f hc4 hr
   refine q_cond_f hF rfl hc4 (q_skipc (n_sq (q_seq (q_seq (q_region (q_x (v:=(iV 1)) hF hS (ex_assign rfl) rfl rfl fun a hF=>q_end (n_sq (q_block ?_))))))))
   obtain ⟨o5,hl5,hr⟩:=bindS hr
   refine q_loop (fun (i_6 : Int) a w=>Fr a 43 [(1,(.pointer (some ⟨b2,0,none⟩))),(3,(iV i_6))]∧St [] w0 w m [[⟨b2,[s1.v],26⟩]]) (fun (o : (Unit) ⊕ (Bool)) e a w=>o = .inl ()∧e = .exit 0∧Fr a 43 []∧St [] w0 w m []) hl5 ⟨hF.sub ⟨rfl,rfl,trivial⟩,hS⟩ ?_ ?_
   ·clear hF hS
    rintro i_6 a w st ⟨hF,hS⟩ hb5
    unfold impl_IsGeo_l1 at hb5
    refine q_seq (q_seq (q_region (q_x (v:=(iV i_6)) hF hS (ex_move rfl) rfl rfl fun a hF=>q_x (v:=(.pointer (some ⟨b2,0,none⟩))) hF hS (ex_fieldAddr Tryz.underlying26 rfl sz24 rfl rfl) rfl rfl fun a hF=>q_x (v:=s1.v) hF hS (ex_load1 0 0 Tryz.underlying24 rfl rfl rfl rfl) rfl rfl fun a hF=>q_x (v:=(iV (goLen p_g.Parents))) hF hS (ex_len Tryz.underlying24 rfl h1.len) rfl rfl fun a hF=>q_x (v:=(.bool (decide (i_6 < (goLen p_g.Parents))))) hF hS (ex_ibin rfl rfl rfl) rfl rfl fun a hF=>q_end (n_sq ?_))))
    rcases bcase (decide (i_6 < (goLen p_g.Parents))) with hc6 | hc6
    ·have hb5:=cond_f hc6 hb5
     refine q_cond_f hF rfl hc6 (q_exit (x_sq ?_))
     obtain rfl:=someI hb5
     exact ⟨nofun,.inl ⟨rfl,rfl,hF.sub trivial,hS.mask [false]⟩⟩
    ·have hb5:=cond_t hc6 hb5
     refine q_cond_t hF rfl hc6 (q_skipc (n_sq (q_seq (q_block (q_seq ?_)))))
     obtain ⟨t_11,hj7,hb5⟩:=bindS hb5
     refine q_join (fun a w=>Fr a 43 [(1,(.pointer (some ⟨b2,0,none⟩))),(3,(iV i_6)),(42,(.bool t_11))]∧St [] w0 w m [[⟨b2,[s1.v],26⟩]]) ?_ ?_
     ·refine q_region (q_x (v:=(.pointer (some ⟨b2,0,none⟩))) hF hS (ex_fieldAddr Tryz.underlying26 rfl sz24 rfl rfl) rfl rfl fun a hF=>q_x (v:=s1.v) hF hS (ex_load1 0 0 Tryz.underlying24 rfl rfl rfl rfl) rfl rfl fun a hF=>q_x (v:=(iV i_6)) hF hS (ex_move rfl) rfl rfl fun a hF=>?_)
      obtain ⟨e_7,he_7,hj7⟩:=bindS hj7
      obtain ⟨vs8,at8,d8⟩:=h1.at he_7 1 rfl
      obtain rfl : vs8 = [(iV e_7)]:=d8
      refine q_x (v:=(elP s1 (i_6.toNat * 1))) hF hS (ex_indexAddr Tryz.underlying24 sz3 rfl rfl (h1.idx he_7)) rfl rfl fun a hF=>q_x (v:=(iV e_7)) hF hS (ex_loadE1 0 Tryz.underlying3 rfl rfl ((at8).at) rfl rfl) rfl rfl fun a hF=>q_x (v:=(.bool (decide (e_7 < 0)))) hF hS (ex_ibin rfl rfl rfl) rfl rfl fun a hF=>q_x (v:=(.bool (decide (e_7 < 0)))) hF hS (ex_move rfl) rfl rfl fun a hF=>?_
      rcases bcase (decide (e_7 < 0)) with hc8 | hc8
      ·have hj7:=cond_f hc8 hj7
       refine q_xg (v:=(.pointer (some ⟨b2,0,none⟩))) hF hS (ex_fieldAddr Tryz.underlying26 rfl sz24 rfl rfl) (wanted_t hF rfl rfl rfl hc8) rfl fun a hF=>q_xg (v:=s1.v) hF hS (ex_load1 0 0 Tryz.underlying24 rfl rfl rfl rfl) (wanted_t hF rfl rfl rfl hc8) rfl fun a hF=>q_xg (v:=(iV i_6)) hF hS (ex_move rfl) (wanted_t hF rfl rfl rfl hc8) rfl fun a hF=>?_
       obtain ⟨e_9,he_9,hj7⟩:=bindS hj7
       obtain ⟨vs10,at10,d10⟩:=h1.at he_9 1 rfl
       obtain rfl : vs10 = [(iV e_9)]:=d10
       refine q_xg (v:=(elP s1 (i_6.toNat * 1))) hF hS (ex_indexAddr Tryz.underlying24 sz3 rfl rfl (h1.idx he_9)) (wanted_t hF rfl rfl rfl hc8) rfl fun a hF=>q_xg (v:=(iV e_9)) hF hS (ex_loadE1 0 Tryz.underlying3 rfl rfl ((at10).at) rfl rfl) (wanted_t hF rfl rfl rfl hc8) rfl fun a hF=>q_xg (v:=(iV i_6)) hF hS (ex_move rfl) (wanted_t hF rfl rfl rfl hc8) rfl fun a hF=>q_xg (v:=(.bool (decide (i_6 ≤ e_9)))) hF hS (ex_ibin rfl rfl rfl) (wanted_t hF rfl rfl rfl hc8) rfl fun a hF=>q_x (v:=(.bool (decide (i_6 ≤ e_9)))) hF hS (ex_pick_f rfl rfl hc8) rfl rfl fun a hF=>q_end (n_jn ?_)
       obtain rfl:=someI hj7
       exact ⟨hF.sub ⟨rfl,rfl,rfl,trivial⟩,hS⟩
      ·have hj7:=cond_t hc8 hj7
       refine q_skip hF (wanted_f hF rfl rfl rfl hc8 rfl) rfl fun a hF=>q_skip hF (wanted_f hF rfl rfl rfl hc8 rfl) rfl fun a hF=>q_skip hF (wanted_f hF rfl rfl rfl hc8 rfl) rfl fun a hF=>q_skip hF (wanted_f hF rfl rfl rfl hc8 rfl) rfl fun a hF=>q_skip hF (wanted_f hF rfl rfl rfl hc8 rfl) rfl fun a hF=>q_skip hF (wanted_f hF rfl rfl rfl hc8 rfl) rfl fun a hF=>q_skip hF (wanted_f hF rfl rfl rfl hc8 rfl) rfl fun a hF=>q_x (v:=(.bool true)) hF hS (ex_pick_t rfl rfl hc8) rfl rfl fun a hF=>q_end (n_jn ?_)
       obtain rfl:=someI hj7
       exact ⟨hF.sub ⟨rfl,rfl,rfl,trivial⟩,hS⟩
     ·rintro a w ⟨hF,hS⟩
      refine n_sq ?_
      rcases bcase (t_11) with hc9 | hc9
      ·have hb5:=cond_f hc9 hb5
       refine q_cond_f hF rfl hc9 (q_skipc (n_ib (n_sq (q_region (q_x (v:=(iV i_6)) hF hS (ex_move rfl) rfl rfl fun a hF=>q_x (v:=(iV (w64 (i_6 + 1)))) hF hS (ex_ibin rfl rfl rfl) rfl rfl fun a hF=>q_x (v:=(iV (w64 (i_6 + 1)))) hF hS (ex_assign rfl) rfl rfl fun a hF=>q_end ?_)))))
       obtain rfl:=someI hb5
       exact ⟨rfl,hF.sub ⟨rfl,rfl,trivial⟩,hS⟩
      ·have hb5:=cond_t hc9 hb5
       refine q_cond_t hF rfl hc9 (q_seq (q_region (q_x (v:=(.bool false)) hF hS (ex_assign rfl) rfl rfl fun a hF=>q_end (n_sq (q_ret (r_ib (r_sq ?_)))))))
       obtain rfl:=someI hb5
       refine ⟨nofun,.inr fun ho=>?_⟩
       subst ho
       refine r_ib (r_sq ?_)
       obtain rfl:=someI hr
       exact ret_of hF hS rfl (.tmp rfl .nil) rfl
   ·rintro e a w ⟨rfl,rfl,hF,hS⟩
    refine x_ib (n_sq ?_)
    refine q_seq (q_region (q_x (v:=(.bool true)) hF hS (ex_assign rfl) rfl rfl fun a hF=>q_end (n_sq (q_ret ?_))))
    obtain rfl:=someI hr
    exact ret_of hF hS rfl (.tmp rfl .nil) rfl
  ·have hr:=cond_t hc4 hr
   refine q_cond_t hF rfl hc4 (q_seq (q_region (q_x (v:=(.bool false)) hF hS (ex_assign rfl) rfl rfl fun a hF=>q_end (n_sq (q_ret (r_sq ?_))))))
   obtain rfl:=someI hr
   exact ret_of hF hS rfl (.tmp rfl .nil) rfl

theorem c_impl_isWord (p_s : List UInt8) (r : Bool) (hr : impl_isWord p_s = some r) (w0 : World) (m : Mem) (hv : Vis m w0) :
  Ret Tryz.prog 88 [(strV p_s)] w0 (fun v _=>v = (.bool r)):=by
 unfold impl_isWord at hr
 refine ret_start Tryz.func88 rfl 28 rfl rfl m hv fun a hF hS=>q_seq (q_region (q_x (v:=(.bool false)) hF hS (ex_assign rfl) rfl rfl fun a hF=>q_end (n_sq (q_seq (q_seq ?_)))))
 obtain ⟨t_1,hj1,hr⟩:=bindS hr
 refine q_join (fun a w=>Fr a 28 [(0,(strV p_s)),(11,(.bool t_1))]∧St [] w0 w m []) ?_ ?_
 ·refine q_region (q_x (v:=(strV p_s)) hF hS (ex_move rfl) rfl rfl fun a hF=>q_x (v:=(iV (goLen p_s))) hF hS (ex_strLen Tryz.underlying9 rfl) rfl rfl fun a hF=>q_x (v:=(.bool (decide ((goLen p_s) < 1)))) hF hS (ex_ibin rfl rfl rfl) rfl rfl fun a hF=>q_x (v:=(.bool (decide ((goLen p_s) < 1)))) hF hS (ex_move rfl) rfl rfl fun a hF=>?_)
  rcases bcase (decide ((goLen p_s) < 1)) with hc2 | hc2
  ·have hj1:=cond_f hc2 hj1
   refine q_xg (v:=(strV p_s)) hF hS (ex_move rfl) (wanted_t hF rfl rfl rfl hc2) rfl fun a hF=>q_xg (v:=(iV (goLen p_s))) hF hS (ex_strLen Tryz.underlying9 rfl) (wanted_t hF rfl rfl rfl hc2) rfl fun a hF=>q_xg (v:=(.bool (decide (8 < (goLen p_s))))) hF hS (ex_ibin rfl rfl rfl) (wanted_t hF rfl rfl rfl hc2) rfl fun a hF=>q_x (v:=(.bool (decide (8 < (goLen p_s))))) hF hS (ex_pick_f rfl rfl hc2) rfl rfl fun a hF=>q_end (n_jn ?_)
   obtain rfl:=someI hj1
   exact ⟨hF.sub ⟨rfl,rfl,trivial⟩,hS⟩
  ·have hj1:=cond_t hc2 hj1
   refine q_skip hF (wanted_f hF rfl rfl rfl hc2 rfl) rfl fun a hF=>q_skip hF (wanted_f hF rfl rfl rfl hc2 rfl) rfl fun a hF=>q_skip hF (wanted_f hF rfl rfl rfl hc2 rfl) rfl fun a hF=>q_x (v:=(.bool true)) hF hS (ex_pick_t rfl rfl hc2) rfl rfl fun a hF=>q_end (n_jn ?_)
   obtain rfl:=someI hj1
   exact ⟨hF.sub ⟨rfl,rfl,trivial⟩,hS⟩
 ·rintro a w ⟨hF,hS⟩
  refine n_sq ?_
  rcases bcase (t_1) with hc3 | hc3
  ·have hr:=cond_f hc3 hr
   refine q_cond_f hF rfl hc3 (q_skipc (n_sq (q_seq (q_seq (q_region (q_x (v:=(strV p_s)) hF hS (ex_move rfl) rfl rfl fun a hF=>q_x (v:=(iV (goLen p_s))) hF hS (ex_strLen Tryz.underlying9 rfl) rfl rfl fun a hF=>q_x (v:=(iV 0)) hF hS (ex_move rfl) rfl rfl fun a hF=>q_end (n_sq (q_block ?_))))))))
   obtain ⟨o4,hl4,hr⟩:=bindS hr
   refine q_loop (fun (t_2 : Int) a w=>Fr a 28 [(0,(strV p_s)),(13,(iV (goLen p_s))),(14,(iV t_2))]∧St [] w0 w m []) (fun (o : (Unit) ⊕ (Bool)) e a w=>o = .inl ()∧e = .exit 0∧Fr a 28 []∧St [] w0 w m []) hl4 ⟨hF.sub ⟨rfl,rfl,rfl,trivial⟩,hS⟩ ?_ ?_
   ·clear hF hS
    rintro t_2 a w st ⟨hF,hS⟩ hb4
    unfold impl_isWord_l1 at hb4
    refine q_seq (q_region (q_x (v:=(.bool (decide (t_2 < (goLen p_s))))) hF hS (ex_ibin rfl rfl rfl) rfl rfl fun a hF=>q_end (n_sq (q_seq ?_))))
    rcases bcase (decide (t_2 < (goLen p_s))) with hc5 | hc5
    ·have hb4:=cond_f hc5 hb4
     refine q_cond_f hF rfl hc5 (q_exit (x_sq ?_))
     obtain rfl:=someI hb4
     exact ⟨nofun,.inl ⟨rfl,rfl,hF.sub trivial,hS⟩⟩
    ·have hb4:=cond_t hc5 hb4
     refine q_cond_t hF rfl hc5 (q_skipc (n_sq (q_seq (q_block (q_seq (q_region (q_x (v:=(iV t_2)) hF hS (ex_move rfl) rfl rfl fun a hF=>q_x (v:=(iV t_2)) hF hS (ex_assign rfl) rfl rfl fun a hF=>q_end (n_sq (q_seq ?_)))))))))
     obtain ⟨t_5,hj6,hb4⟩:=bindS hb4
     refine q_join (fun a w=>Fr a 28 [(0,(strV p_s)),(13,(iV (goLen p_s))),(14,(iV t_2)),(26,(.bool t_5))]∧St [] w0 w m []) ?_ ?_
     ·refine q_region (q_x (v:=(strV p_s)) hF hS (ex_move rfl) rfl rfl fun a hF=>q_x (v:=(iV t_2)) hF hS (ex_move rfl) rfl rfl fun a hF=>?_)
      obtain ⟨t_3,ht_3,hj6⟩:=bindS hj6
      refine q_x (v:=(.int .u8 t_3)) hF hS (ex_strIdx Tryz.underlying9 rfl rfl ht_3) rfl rfl fun a hF=>q_x (v:=(.bool (decide (t_3 < 97)))) hF hS (ex_ibin rfl rfl rfl) rfl rfl fun a hF=>q_x (v:=(.bool (decide (t_3 < 97)))) hF hS (ex_move rfl) rfl rfl fun a hF=>?_
      rcases bcase (decide (t_3 < 97)) with hc7 | hc7
      ·have hj6:=cond_f hc7 hj6
       refine q_xg (v:=(strV p_s)) hF hS (ex_move rfl) (wanted_t hF rfl rfl rfl hc7) rfl fun a hF=>q_xg (v:=(iV t_2)) hF hS (ex_move rfl) (wanted_t hF rfl rfl rfl hc7) rfl fun a hF=>?_
       obtain ⟨t_4,ht_4,hj6⟩:=bindS hj6
       refine q_xg (v:=(.int .u8 t_4)) hF hS (ex_strIdx Tryz.underlying9 rfl rfl ht_4) (wanted_t hF rfl rfl rfl hc7) rfl fun a hF=>q_xg (v:=(.bool (decide (122 < t_4)))) hF hS (ex_ibin rfl rfl rfl) (wanted_t hF rfl rfl rfl hc7) rfl fun a hF=>q_x (v:=(.bool (decide (122 < t_4)))) hF hS (ex_pick_f rfl rfl hc7) rfl rfl fun a hF=>q_end (n_jn ?_)
       obtain rfl:=someI hj6
       exact ⟨hF.sub ⟨rfl,rfl,rfl,rfl,trivial⟩,hS⟩
      ·have hj6:=cond_t hc7 hj6
       refine q_skip hF (wanted_f hF rfl rfl rfl hc7 rfl) rfl fun a hF=>q_skip hF (wanted_f hF rfl rfl rfl hc7 rfl) rfl fun a hF=>q_skip hF (wanted_f hF rfl rfl rfl hc7 rfl) rfl fun a hF=>q_skip hF (wanted_f hF rfl rfl rfl hc7 rfl) rfl fun a hF=>q_x (v:=(.bool true)) hF hS (ex_pick_t rfl rfl hc7) rfl rfl fun a hF=>q_end (n_jn ?_)
       obtain rfl:=someI hj6
       exact ⟨hF.sub ⟨rfl,rfl,rfl,rfl,trivial⟩,hS⟩
     ·rintro a w ⟨hF,hS⟩
      refine n_sq ?_
      rcases bcase (t_5) with hc8 | hc8
      ·have hb4:=cond_f hc8 hb4
       refine q_cond_f hF rfl hc8 (q_skipc (n_ib (n_sq (q_region (q_x (v:=(iV (w64 (t_2 + 1)))) hF hS (ex_ibin rfl rfl rfl) rfl rfl fun a hF=>q_x (v:=(iV (w64 (t_2 + 1)))) hF hS (ex_move rfl) rfl rfl fun a hF=>q_end ?_)))))
       obtain rfl:=someI hb4
       exact ⟨rfl,hF.sub ⟨rfl,rfl,rfl,trivial⟩,hS⟩
      ·have hb4:=cond_t hc8 hb4
       refine q_cond_t hF rfl hc8 (q_seq (q_region (q_x (v:=(.bool false)) hF hS (ex_assign rfl) rfl rfl fun a hF=>q_end (n_sq (q_ret (r_ib (r_sq ?_)))))))
       obtain rfl:=someI hb4
       refine ⟨nofun,.inr fun ho=>?_⟩
       subst ho
       refine r_ib (r_sq ?_)
       obtain rfl:=someI hr
       exact ret_of hF hS rfl (.tmp rfl .nil) rfl
   ·rintro e a w ⟨rfl,rfl,hF,hS⟩
    refine x_ib (n_sq ?_)
    refine q_seq (q_region (q_x (v:=(.bool true)) hF hS (ex_assign rfl) rfl rfl fun a hF=>q_end (n_sq (q_ret ?_))))
    obtain rfl:=someI hr
    exact ret_of hF hS rfl (.tmp rfl .nil) rfl
  ·have hr:=cond_t hc3 hr
   refine q_cond_t hF rfl hc3 (q_seq (q_region (q_x (v:=(.bool false)) hF hS (ex_assign rfl) rfl rfl fun a hF=>q_end (n_sq (q_ret (r_sq ?_))))))
   obtain rfl:=someI hr
   exact ret_of hF hS rfl (.tmp rfl .nil) rfl

theorem c_impl_IsSchema (p_s : List impl_Variable) (r : Bool) (hr : impl_IsSchema p_s = some r) (w0 : World) (m : Mem) (hv : Vis m w0) (s1 : Sl) (h1 : Rd m s1 p_s) :
  Ret Tryz.prog 57 [s1.v] w0 (fun v _=>v = (.bool r)):=by
 unfold impl_IsSchema at hr
 refine ret_start Tryz.func57 rfl 51 rfl rfl m hv fun a hF hS=>q_seq (q_region (q_x (v:=(.bool false)) hF hS (ex_assign rfl) rfl rfl fun a hF=>q_end (n_sq (q_seq (q_seq ?_)))))
 obtain ⟨t_2,hj1,hr⟩:=bindS hr
 refine q_join (fun a w=>Fr a 51 [(0,s1.v),(14,(.bool t_2))]∧St [] w0 w m []) ?_ ?_
 ·refine q_region (q_x (v:=s1.v) hF hS (ex_move rfl) rfl rfl fun a hF=>q_x (v:=(iV (goLen p_s))) hF hS (ex_len Tryz.underlying27 rfl h1.len) rfl rfl fun a hF=>q_x (v:=(.bool (decide ((goLen p_s) < 1)))) hF hS (ex_ibin rfl rfl rfl) rfl rfl fun a hF=>q_x (v:=(.bool (decide ((goLen p_s) < 1)))) hF hS (ex_move rfl) rfl rfl fun a hF=>?_)
  rcases bcase (decide ((goLen p_s) < 1)) with hc2 | hc2
  ·have hj1:=cond_f hc2 hj1
   refine q_xg (v:=s1.v) hF hS (ex_move rfl) (wanted_t hF rfl rfl rfl hc2) rfl fun a hF=>q_xg (v:=(iV (goLen p_s))) hF hS (ex_len Tryz.underlying27 rfl h1.len) (wanted_t hF rfl rfl rfl hc2) rfl fun a hF=>q_xg (v:=(.bool (decide (6 < (goLen p_s))))) hF hS (ex_ibin rfl rfl rfl) (wanted_t hF rfl rfl rfl hc2) rfl fun a hF=>q_x (v:=(.bool (decide (6 < (goLen p_s))))) hF hS (ex_pick_f rfl rfl hc2) rfl rfl fun a hF=>q_end (n_jn ?_)
   obtain rfl:=someI hj1
   exact ⟨hF.sub ⟨rfl,rfl,trivial⟩,hS⟩
  ·have hj1:=cond_t hc2 hj1
   refine q_skip hF (wanted_f hF rfl rfl rfl hc2 rfl) rfl fun a hF=>q_skip hF (wanted_f hF rfl rfl rfl hc2 rfl) rfl fun a hF=>q_skip hF (wanted_f hF rfl rfl rfl hc2 rfl) rfl fun a hF=>q_x (v:=(.bool true)) hF hS (ex_pick_t rfl rfl hc2) rfl rfl fun a hF=>q_end (n_jn ?_)
   obtain rfl:=someI hj1
   exact ⟨hF.sub ⟨rfl,rfl,trivial⟩,hS⟩
 ·rintro a w ⟨hF,hS⟩
  refine n_sq ?_
  rcases bcase (t_2) with hc3 | hc3
  ·have hr:=cond_f hc3 hr
   refine q_cond_f hF rfl hc3 (q_skipc (n_sq (q_seq (q_seq (q_region (q_x (v:=s1.v) hF hS (ex_move rfl) rfl rfl fun a hF=>q_x (v:=(iV (goLen p_s))) hF hS (ex_len Tryz.underlying27 rfl h1.len) rfl rfl fun a hF=>q_x (v:=(iV 0)) hF hS (ex_move rfl) rfl rfl fun a hF=>q_end (n_sq (q_block ?_))))))))
   obtain ⟨o4,hl4,hr⟩:=bindS hr
   refine q_loop (fun (t_3 : Int) a w=>Fr a 51 [(0,s1.v),(15,s1.v),(16,(iV (goLen p_s))),(17,(iV t_3))]∧St [] w0 w m []) (fun (o : (Unit) ⊕ (Bool)) e a w=>o = .inl ()∧e = .exit 0∧Fr a 51 []∧St [] w0 w m []) hl4 ⟨hF.sub ⟨rfl,rfl,rfl,rfl,trivial⟩,hS⟩ ?_ ?_
   ·clear hF hS
    rintro t_3 a w st ⟨hF,hS⟩ hb4
    unfold impl_IsSchema_l1 at hb4
    refine q_seq (q_region (q_x (v:=(.bool (decide (t_3 < (goLen p_s))))) hF hS (ex_ibin rfl rfl rfl) rfl rfl fun a hF=>q_end (n_sq (q_seq ?_))))
    rcases bcase (decide (t_3 < (goLen p_s))) with hc5 | hc5
    ·have hb4:=cond_f hc5 hb4
     refine q_cond_f hF rfl hc5 (q_exit (x_sq ?_))
     obtain rfl:=someI hb4
     exact ⟨nofun,.inl ⟨rfl,rfl,hF.sub trivial,hS⟩⟩
    ·have hb4:=cond_t hc5 hb4
     refine q_cond_t hF rfl hc5 (q_skipc (n_sq (q_seq (q_block (q_seq (q_region (q_x (v:=(iV t_3)) hF hS (ex_move rfl) rfl rfl fun a hF=>?_)))))))
     obtain ⟨e_4,he_4,hb4⟩:=bindS hb4
     obtain ⟨vs5,at5,d5⟩:=h1.at he_4 2 rfl
     obtain rfl : vs5 = [(strV e_4.Name),(iV e_4.Levels)]:=d5
     refine q_x (v:=(elP s1 (t_3.toNat * 2))) hF hS (ex_indexAddr Tryz.underlying27 sz100 rfl rfl (h1.idx he_4)) rfl rfl fun a hF=>q_x (v:=(.agg #[(strV e_4.Name),(iV e_4.Levels)])) hF hS (ex_loadEA (us:=[(strV e_4.Name),(iV e_4.Levels)]) 0 Tryz.underlying100 rfl sz100 rfl ((at5).at) rfl rfl rfl) rfl rfl fun a hF=>q_alloc (cs:=[(strV ([] : List UInt8)),(iV 0)]) hF hS rfl rfl rfl fun a w b6 hF hS=>q_x (v:=(iV t_3)) hF hS (ex_assign rfl) rfl rfl fun a hF=>q_store (vs:=[(strV e_4.Name),(iV e_4.Levels)]) (cs':=[(strV e_4.Name),(iV e_4.Levels)]) 0 0 hF hS sz100 rfl rfl rfl rfl rfl rfl rfl rfl fun a w hF hS=>q_end (n_sq (q_seq (q_seq ?_)))
     obtain ⟨t_8,hj6,hb4⟩:=bindS hb4
     refine q_join (fun a w=>Fr a 51 [(0,s1.v),(3,(iV t_3)),(4,(.pointer (some ⟨b6,0,none⟩))),(15,s1.v),(16,(iV (goLen p_s))),(17,(iV t_3)),(35,(.bool t_8))]∧St [] w0 w m [[⟨b6,[(strV e_4.Name),(iV e_4.Levels)],100⟩]]) ?_ ?_
     ·refine q_region (q_x (v:=(.pointer (some ⟨b6,0,none⟩))) hF hS (ex_fieldAddr Tryz.underlying100 rfl sz9 rfl rfl) rfl rfl fun a hF=>q_x (v:=(strV e_4.Name)) hF hS (ex_load1 0 0 Tryz.underlying9 rfl rfl rfl rfl) rfl rfl fun a hF=>?_)
      obtain ⟨t_7,ht_7,hj6⟩:=bindS hj6
      refine q_call (vs:=[(strV e_4.Name)]) hF hS Tryz.func88 (by kernel_rfl) rfl rfl rfl (c_impl_isWord e_4.Name t_7 ht_7 _ m hS.vis) ?_
      rintro a w _ rfl hF hS
      refine q_x (v:=(.bool (!t_7))) hF hS (ex_not rfl) rfl rfl fun a hF=>q_x (v:=(.bool (!t_7))) hF hS (ex_move rfl) rfl rfl fun a hF=>?_
      rcases bcase (!t_7) with hc7 | hc7
      ·have hj6:=cond_f hc7 hj6
       refine q_xg (v:=(.pointer (some ⟨b6,1,none⟩))) hF hS (ex_fieldAddr Tryz.underlying100 rfl sz3 rfl rfl) (wanted_t hF rfl rfl rfl hc7) rfl fun a hF=>q_xg (v:=(iV e_4.Levels)) hF hS (ex_load1 0 0 Tryz.underlying3 rfl rfl rfl rfl) (wanted_t hF rfl rfl rfl hc7) rfl fun a hF=>q_xg (v:=(.bool (decide (e_4.Levels < 2)))) hF hS (ex_ibin rfl rfl rfl) (wanted_t hF rfl rfl rfl hc7) rfl fun a hF=>q_x (v:=(.bool (decide (e_4.Levels < 2)))) hF hS (ex_pick_f rfl rfl hc7) rfl rfl fun a hF=>q_x (v:=(.bool (decide (e_4.Levels < 2)))) hF hS (ex_move rfl) rfl rfl fun a hF=>?_
       rcases bcase (decide (e_4.Levels < 2)) with hc8 | hc8
       ·have hj6:=cond_f hc8 hj6
        refine q_xg (v:=(.pointer (some ⟨b6,1,none⟩))) hF hS (ex_fieldAddr Tryz.underlying100 rfl sz3 rfl rfl) (wanted_t hF rfl rfl rfl hc8) rfl fun a hF=>q_xg (v:=(iV e_4.Levels)) hF hS (ex_load1 0 0 Tryz.underlying3 rfl rfl rfl rfl) (wanted_t hF rfl rfl rfl hc8) rfl fun a hF=>q_xg (v:=(.bool (decide (8 < e_4.Levels)))) hF hS (ex_ibin rfl rfl rfl) (wanted_t hF rfl rfl rfl hc8) rfl fun a hF=>q_x (v:=(.bool (decide (8 < e_4.Levels)))) hF hS (ex_pick_f rfl rfl hc8) rfl rfl fun a hF=>q_end (n_jn ?_)
        obtain rfl:=someI hj6
        exact ⟨hF.sub ⟨rfl,rfl,rfl,rfl,rfl,rfl,rfl,trivial⟩,hS⟩
       ·have hj6:=cond_t hc8 hj6
        refine q_skip hF (wanted_f hF rfl rfl rfl hc8 rfl) rfl fun a hF=>q_skip hF (wanted_f hF rfl rfl rfl hc8 rfl) rfl fun a hF=>q_skip hF (wanted_f hF rfl rfl rfl hc8 rfl) rfl fun a hF=>q_x (v:=(.bool true)) hF hS (ex_pick_t rfl rfl hc8) rfl rfl fun a hF=>q_end (n_jn ?_)
        obtain rfl:=someI hj6
        exact ⟨hF.sub ⟨rfl,rfl,rfl,rfl,rfl,rfl,rfl,trivial⟩,hS⟩
      ·have hj6:=cond_t hc7 hj6
       refine q_skip hF (wanted_f hF rfl rfl rfl hc7 rfl) rfl fun a hF=>q_skip hF (wanted_f hF rfl rfl rfl hc7 rfl) rfl fun a hF=>q_skip hF (wanted_f hF rfl rfl rfl hc7 rfl) rfl fun a hF=>q_x (v:=(.bool true)) hF hS (ex_pick_t rfl rfl hc7) rfl rfl fun a hF=>q_x (v:=(.bool true)) hF hS (ex_move rfl) rfl rfl fun a hF=>q_skip hF (wanted_f hF rfl rfl rfl rfl rfl) rfl fun a hF=>q_skip hF (wanted_f hF rfl rfl rfl rfl rfl) rfl fun a hF=>q_skip hF (wanted_f hF rfl rfl rfl rfl rfl) rfl fun a hF=>q_x (v:=(.bool true)) hF hS (ex_pick_t rfl rfl rfl) rfl rfl fun a hF=>q_end (n_jn ?_)
       obtain rfl:=someI hj6
       exact ⟨hF.sub ⟨rfl,rfl,rfl,rfl,rfl,rfl,rfl,trivial⟩,hS⟩
     ·rintro a w ⟨hF,hS⟩
      refine n_sq ?_
      rcases bcase (t_8) with hc9 | hc9
      ·have hb4:=cond_f hc9 hb4
       refine q_cond_f hF rfl hc9 (q_skipc (n_sq (q_seq (q_region (q_x (v:=s1.v) hF hS (ex_move rfl) rfl rfl fun a hF=>q_x (v:=(iV t_3)) hF hS (ex_move rfl) rfl rfl fun a hF=>?_)))))
       obtain ⟨l_9,hl_9,hb4⟩:=bindS hb4
       have h10 : Rd m (subS s1 2 (0 : Int).toNat t_3.toNat s1.cap) l_9:=h1.sub' hl_9 2 rfl
       refine q_x (v:=(subS s1 2 (0 : Int).toNat t_3.toNat s1.cap).v) hF hS (ex_slice Tryz.underlying27 sz100 rfl rfl rfl (.inl ⟨rfl,rfl⟩) (.inr ⟨_,rfl⟩) (h1.subok hl_9)) rfl rfl fun a hF=>q_x (v:=(iV (goLen l_9))) hF hS (ex_len Tryz.underlying27 rfl h10.len) rfl rfl fun a hF=>q_x (v:=(iV 0)) hF hS (ex_move rfl) rfl rfl fun a hF=>q_end (n_sq (q_block ?_))
       obtain ⟨o10,hl10,hb4⟩:=bindS hb4
       refine q_loop (fun (t_11 : Int) a w=>Fr a 51 [(0,s1.v),(4,(.pointer (some ⟨b6,0,none⟩))),(15,s1.v),(16,(iV (goLen p_s))),(17,(iV t_3)),(38,(subS s1 2 (0 : Int).toNat t_3.toNat s1.cap).v),(39,(iV (goLen l_9))),(40,(iV t_11))]∧St [] w0 w m [[⟨b6,[(strV e_4.Name),(iV e_4.Levels)],100⟩]]) (fun (o : (Unit) ⊕ (Stp (Int) ((Unit) ⊕ (Bool)))) e a w=>o = .inl ()∧e = .exit 2∧Fr a 51 [(0,s1.v),(15,s1.v),(16,(iV (goLen p_s))),(17,(iV t_3))]∧St [] w0 w m []) hl10 ⟨hF.sub ⟨rfl,rfl,rfl,rfl,rfl,rfl,rfl,rfl,trivial⟩,hS⟩ ?_ ?_
       ·clear hF hS
        rintro t_11 a w st ⟨hF,hS⟩ hb10
        unfold impl_IsSchema_l2 at hb10
        refine q_seq (q_region (q_x (v:=(.bool (decide (t_11 < (goLen l_9))))) hF hS (ex_ibin rfl rfl rfl) rfl rfl fun a hF=>q_end (n_sq (q_seq ?_))))
        rcases bcase (decide (t_11 < (goLen l_9))) with hc11 | hc11
        ·have hb10:=cond_f hc11 hb10
         refine q_cond_f hF rfl hc11 (q_exit (x_sq ?_))
         obtain rfl:=someI hb10
         exact ⟨nofun,.inl ⟨rfl,rfl,hF.sub ⟨rfl,rfl,rfl,rfl,trivial⟩,hS.mask [false]⟩⟩
        ·have hb10:=cond_t hc11 hb10
         refine q_cond_t hF rfl hc11 (q_skipc (n_sq (q_seq (q_block (q_seq (q_region ?_))))))
         obtain ⟨e_12,he_12,hb10⟩:=bindS hb10
         obtain ⟨vs13,at13,d13⟩:=h10.at he_12 2 rfl
         obtain rfl : vs13 = [(strV e_12.Name),(iV e_12.Levels)]:=d13
         refine q_x (v:=(elP (subS s1 2 (0 : Int).toNat t_3.toNat s1.cap) (t_11.toNat * 2))) hF hS (ex_indexAddr Tryz.underlying27 sz100 rfl rfl (h10.idx he_12)) rfl rfl fun a hF=>q_x (v:=(.agg #[(strV e_12.Name),(iV e_12.Levels)])) hF hS (ex_loadEA (us:=[(strV e_12.Name),(iV e_12.Levels)]) 0 Tryz.underlying100 rfl sz100 rfl ((at13).at) rfl rfl rfl) rfl rfl fun a hF=>q_alloc (cs:=[(strV ([] : List UInt8)),(iV 0)]) hF hS rfl rfl rfl fun a w b14 hF hS=>q_store (vs:=[(strV e_12.Name),(iV e_12.Levels)]) (cs':=[(strV e_12.Name),(iV e_12.Levels)]) 0 0 hF hS sz100 rfl rfl rfl rfl rfl rfl rfl rfl fun a w hF hS=>q_end (n_sq (q_seq (q_region (q_x (v:=(.pointer (some ⟨b14,0,none⟩))) hF hS (ex_fieldAddr Tryz.underlying100 rfl sz9 rfl rfl) rfl rfl fun a hF=>q_x (v:=(strV e_12.Name)) hF hS (ex_load1 0 0 Tryz.underlying9 rfl rfl rfl rfl) rfl rfl fun a hF=>q_x (v:=(.pointer (some ⟨b6,0,none⟩))) hF hS (ex_fieldAddr Tryz.underlying100 rfl sz9 rfl rfl) rfl rfl fun a hF=>q_x (v:=(strV e_4.Name)) hF hS (ex_load1 1 0 Tryz.underlying9 rfl rfl rfl rfl) rfl rfl fun a hF=>q_x (v:=(.bool (e_12.Name == e_4.Name))) hF hS (ex_strEq rfl rfl) rfl rfl fun a hF=>q_end (n_sq ?_)))))
         rcases bcase (e_12.Name == e_4.Name) with hc12 | hc12
         ·have hb10:=cond_f hc12 hb10
          refine q_cond_f hF rfl hc12 (q_skipc (n_ib (n_sq (q_region (q_x (v:=(iV (w64 (t_11 + 1)))) hF hS (ex_ibin rfl rfl rfl) rfl rfl fun a hF=>q_x (v:=(iV (w64 (t_11 + 1)))) hF hS (ex_move rfl) rfl rfl fun a hF=>q_end ?_)))))
          obtain rfl:=someI hb10
          exact ⟨rfl,hF.sub ⟨rfl,rfl,rfl,rfl,rfl,rfl,rfl,rfl,trivial⟩,hS.mask [false,true]⟩
         ·have hb10:=cond_t hc12 hb10
          refine q_cond_t hF rfl hc12 (q_seq (q_region (q_x (v:=(.bool false)) hF hS (ex_assign rfl) rfl rfl fun a hF=>q_end (n_sq (q_ret (r_ib (r_sq ?_)))))))
          obtain rfl:=someI hb10
          refine ⟨nofun,.inr fun ho=>?_⟩
          subst ho
          refine r_ib (r_ib (r_sq ?_))
          obtain rfl:=someI hb4
          refine ⟨nofun,.inr fun ho=>?_⟩
          subst ho
          refine r_ib (r_sq ?_)
          obtain rfl:=someI hr
          exact ret_of hF hS rfl (.tmp rfl .nil) rfl
       ·rintro e a w ⟨rfl,rfl,hF,hS⟩
        refine x_ib (n_ib (n_sq ?_))
        refine q_region (q_x (v:=(iV (w64 (t_3 + 1)))) hF hS (ex_ibin rfl rfl rfl) rfl rfl fun a hF=>q_x (v:=(iV (w64 (t_3 + 1)))) hF hS (ex_move rfl) rfl rfl fun a hF=>q_end ?_)
        obtain rfl:=someI hb4
        exact ⟨rfl,hF.sub ⟨rfl,rfl,rfl,rfl,trivial⟩,hS⟩
      ·have hb4:=cond_t hc9 hb4
       refine q_cond_t hF rfl hc9 (q_seq (q_region (q_x (v:=(.bool false)) hF hS (ex_assign rfl) rfl rfl fun a hF=>q_end (n_sq (q_ret (r_sq (r_ib (r_sq ?_))))))))
       obtain rfl:=someI hb4
       refine ⟨nofun,.inr fun ho=>?_⟩
       subst ho
       refine r_ib (r_sq ?_)
       obtain rfl:=someI hr
       exact ret_of hF hS rfl (.tmp rfl .nil) rfl
   ·rintro e a w ⟨rfl,rfl,hF,hS⟩
    refine x_ib (n_sq ?_)
    refine q_seq (q_region (q_x (v:=(.bool true)) hF hS (ex_assign rfl) rfl rfl fun a hF=>q_end (n_sq (q_ret ?_))))
    obtain rfl:=someI hr
    exact ret_of hF hS rfl (.tmp rfl .nil) rfl
  ·have hr:=cond_t hc3 hr
   refine q_cond_t hF rfl hc3 (q_seq (q_region (q_x (v:=(.bool false)) hF hS (ex_assign rfl) rfl rfl fun a hF=>q_end (n_sq (q_ret (r_sq ?_))))))
   obtain rfl:=someI hr
   exact ret_of hF hS rfl (.tmp rfl .nil) rfl

theorem c_impl_areVars (p_s : List impl_Variable) (p_vars : List Int) (r : Bool) (hr : impl_areVars p_s p_vars = some r) (w0 : World) (m : Mem) (hv : Vis m w0) (s1 : Sl) (h1 : Rd m s1 p_s) (s2 : Sl) (h2 : Rd m s2 p_vars) :
  Ret Tryz.prog 89 [s1.v,s2.v] w0 (fun v _=>v = (.bool r)):=by
 unfold impl_areVars at hr
 refine ret_start Tryz.func89 rfl 25 rfl rfl m hv fun a hF hS=>q_seq (q_region (q_x (v:=(.bool false)) hF hS (ex_assign rfl) rfl rfl fun a hF=>q_end (n_sq (q_seq (q_region (q_x (v:=(iV (-1))) hF hS (ex_assign rfl) rfl rfl fun a hF=>q_end (n_sq (q_seq (q_seq (q_region (q_x (v:=s2.v) hF hS (ex_move rfl) rfl rfl fun a hF=>q_x (v:=(iV (goLen p_vars))) hF hS (ex_len Tryz.underlying24 rfl h2.len) rfl rfl fun a hF=>q_x (v:=(iV 0)) hF hS (ex_move rfl) rfl rfl fun a hF=>q_end (n_sq (q_block ?_)))))))))))))
 obtain ⟨o1,hl1,hr⟩:=bindS hr
 refine q_loop (fun (s : Int × Int) a w=>∃ last_3,∃ t_4,s = (last_3,t_4)∧Fr a 25 [(0,s1.v),(5,(iV last_3)),(8,s2.v),(9,(iV (goLen p_vars))),(10,(iV t_4))]∧St [] w0 w m []) (fun (o : (Unit) ⊕ (Bool)) e a w=>o = .inl ()∧e = .exit 0∧Fr a 25 []∧St [] w0 w m []) hl1 ⟨_,_,rfl,hF.sub ⟨rfl,rfl,rfl,rfl,rfl,trivial⟩,hS⟩ ?_ ?_
 ·clear hF hS
  rintro s a w st ⟨last_3,t_4,rfl,hF,hS⟩ hb1
  unfold impl_areVars_l1 at hb1
  refine q_seq (q_region (q_x (v:=(.bool (decide (t_4 < (goLen p_vars))))) hF hS (ex_ibin rfl rfl rfl) rfl rfl fun a hF=>q_end (n_sq (q_seq ?_))))
  rcases bcase (decide (t_4 < (goLen p_vars))) with hc2 | hc2
  ·have hb1:=cond_f hc2 hb1
   refine q_cond_f hF rfl hc2 (q_exit (x_sq ?_))
   obtain rfl:=someI hb1
   exact ⟨nofun,.inl ⟨rfl,rfl,hF.sub trivial,hS⟩⟩
  ·have hb1:=cond_t hc2 hb1
   refine q_cond_t hF rfl hc2 (q_skipc (n_sq (q_seq (q_block (q_seq (q_region ?_))))))
   obtain ⟨e_5,he_5,hb1⟩:=bindS hb1
   obtain ⟨vs6,at6,d6⟩:=h2.at he_5 1 rfl
   obtain rfl : vs6 = [(iV e_5)]:=d6
   refine q_x (v:=(elP s2 (t_4.toNat * 1))) hF hS (ex_indexAddr Tryz.underlying24 sz3 rfl rfl (h2.idx he_5)) rfl rfl fun a hF=>q_x (v:=(iV e_5)) hF hS (ex_loadE1 0 Tryz.underlying3 rfl rfl ((at6).at) rfl rfl) rfl rfl fun a hF=>q_x (v:=(iV e_5)) hF hS (ex_assign rfl) rfl rfl fun a hF=>q_end (n_sq (q_seq (q_seq ?_)))
   obtain ⟨t_7,hj3,hb1⟩:=bindS hb1
   refine q_join (fun a w=>Fr a 25 [(0,s1.v),(7,(iV e_5)),(8,s2.v),(9,(iV (goLen p_vars))),(10,(iV t_4)),(22,(.bool t_7))]∧St [] w0 w m []) ?_ ?_
   ·refine q_region (q_x (v:=(iV e_5)) hF hS (ex_move rfl) rfl rfl fun a hF=>q_x (v:=(iV last_3)) hF hS (ex_move rfl) rfl rfl fun a hF=>q_x (v:=(.bool (decide (e_5 ≤ last_3)))) hF hS (ex_ibin rfl rfl rfl) rfl rfl fun a hF=>q_x (v:=(.bool (decide (e_5 ≤ last_3)))) hF hS (ex_move rfl) rfl rfl fun a hF=>?_)
    rcases bcase (decide (e_5 ≤ last_3)) with hc4 | hc4
    ·have hj3:=cond_f hc4 hj3
     refine q_xg (v:=(iV e_5)) hF hS (ex_move rfl) (wanted_t hF rfl rfl rfl hc4) rfl fun a hF=>q_xg (v:=s1.v) hF hS (ex_move rfl) (wanted_t hF rfl rfl rfl hc4) rfl fun a hF=>q_xg (v:=(iV (goLen p_s))) hF hS (ex_len Tryz.underlying27 rfl h1.len) (wanted_t hF rfl rfl rfl hc4) rfl fun a hF=>q_xg (v:=(.bool (decide ((goLen p_s) ≤ e_5)))) hF hS (ex_ibin rfl rfl rfl) (wanted_t hF rfl rfl rfl hc4) rfl fun a hF=>q_x (v:=(.bool (decide ((goLen p_s) ≤ e_5)))) hF hS (ex_pick_f rfl rfl hc4) rfl rfl fun a hF=>q_end (n_jn ?_)
     obtain rfl:=someI hj3
     exact ⟨hF.sub ⟨rfl,rfl,rfl,rfl,rfl,rfl,trivial⟩,hS⟩
    ·have hj3:=cond_t hc4 hj3
     refine q_skip hF (wanted_f hF rfl rfl rfl hc4 rfl) rfl fun a hF=>q_skip hF (wanted_f hF rfl rfl rfl hc4 rfl) rfl fun a hF=>q_skip hF (wanted_f hF rfl rfl rfl hc4 rfl) rfl fun a hF=>q_skip hF (wanted_f hF rfl rfl rfl hc4 rfl) rfl fun a hF=>q_x (v:=(.bool true)) hF hS (ex_pick_t rfl rfl hc4) rfl rfl fun a hF=>q_end (n_jn ?_)
     obtain rfl:=someI hj3
     exact ⟨hF.sub ⟨rfl,rfl,rfl,rfl,rfl,rfl,trivial⟩,hS⟩
   ·rintro a w ⟨hF,hS⟩
    refine n_sq ?_
    rcases bcase (t_7) with hc5 | hc5
    ·have hb1:=cond_f hc5 hb1
     refine q_cond_f hF rfl hc5 (q_skipc (n_sq (q_region (q_x (v:=(iV e_5)) hF hS (ex_move rfl) rfl rfl fun a hF=>q_x (v:=(iV e_5)) hF hS (ex_assign rfl) rfl rfl fun a hF=>q_end (n_ib (n_sq (q_region (q_x (v:=(iV (w64 (t_4 + 1)))) hF hS (ex_ibin rfl rfl rfl) rfl rfl fun a hF=>q_x (v:=(iV (w64 (t_4 + 1)))) hF hS (ex_move rfl) rfl rfl fun a hF=>q_end ?_))))))))
     obtain rfl:=someI hb1
     exact ⟨rfl,_,_,rfl,hF.sub ⟨rfl,rfl,rfl,rfl,rfl,trivial⟩,hS⟩
    ·have hb1:=cond_t hc5 hb1
     refine q_cond_t hF rfl hc5 (q_seq (q_region (q_x (v:=(.bool false)) hF hS (ex_assign rfl) rfl rfl fun a hF=>q_end (n_sq (q_ret (r_sq (r_ib (r_sq ?_))))))))
     obtain rfl:=someI hb1
     refine ⟨nofun,.inr fun ho=>?_⟩
     subst ho
     refine r_ib (r_sq ?_)
     obtain rfl:=someI hr
     exact ret_of hF hS rfl (.tmp rfl .nil) rfl
 ·rintro e a w ⟨rfl,rfl,hF,hS⟩
  refine x_ib (n_sq ?_)
  refine q_seq (q_region (q_x (v:=(.bool true)) hF hS (ex_assign rfl) rfl rfl fun a hF=>q_end (n_sq (q_ret ?_))))
  obtain rfl:=someI hr
  exact ret_of hF hS rfl (.tmp rfl .nil) rfl

theorem c_impl_fullSet (p_v : impl_Variable) (r : Int) (hr : impl_fullSet p_v = some r) (w0 : World) (m : Mem) (hv : Vis m w0) :
  Ret Tryz.prog 101 [(.agg #[(strV p_v.Name),(iV p_v.Levels)])] w0 (fun v _=>v = (iV r)):=by
 unfold impl_fullSet at hr
 refine ret_start Tryz.func101 rfl 7 rfl rfl m hv fun a hF hS=>q_seq (q_region (q_box (cs:=[(strV p_v.Name),(iV p_v.Levels)]) hF hS rfl rfl rfl fun a w b1 hF hS=>q_x (v:=(iV 0)) hF hS (ex_assign rfl) rfl rfl fun a hF=>q_end (n_sq (q_seq (q_region (q_x (v:=(.pointer (some ⟨b1,1,none⟩))) hF hS (ex_fieldAddr Tryz.underlying100 rfl sz3 rfl rfl) rfl rfl fun a hF=>q_x (v:=(iV p_v.Levels)) hF hS (ex_load1 0 0 Tryz.underlying3 rfl rfl rfl rfl) rfl rfl fun a hF=>?_))))))
 obtain ⟨t_2,ht_2,hr⟩:=bindS hr
 refine q_x (v:=(iV t_2)) hF hS (ex_shl rfl rfl ht_2) rfl rfl fun a hF=>q_x (v:=(iV (w64 (t_2 - 1)))) hF hS (ex_ibin rfl rfl rfl) rfl rfl fun a hF=>q_x (v:=(iV (w64 (t_2 - 1)))) hF hS (ex_assign rfl) rfl rfl fun a hF=>q_end (n_sq (q_ret ?_))
 obtain rfl:=someI hr
 exact ret_of hF hS rfl (.tmp rfl .nil) rfl

theorem c_impl_isWhere (p_s : List impl_Variable) (p_where : List Int) (r : Bool) (hr : impl_isWhere p_s p_where = some r) (w0 : World) (m : Mem) (hv : Vis m w0) (s1 : Sl) (h1 : Rd m s1 p_s) (s2 : Sl) (h2 : Rd m s2 p_where) :
  Ret Tryz.prog 90 [s1.v,s2.v] w0 (fun v _=>v = (.bool r)):=by
 unfold impl_isWhere at hr
 refine ret_start Tryz.func90 rfl 31 rfl rfl m hv fun a hF hS=>q_seq (q_region (q_x (v:=(.bool false)) hF hS (ex_assign rfl) rfl rfl fun a hF=>q_end (n_sq (q_seq (q_seq (q_region (q_x (v:=s2.v) hF hS (ex_move rfl) rfl rfl fun a hF=>q_x (v:=(iV (goLen p_where))) hF hS (ex_len Tryz.underlying24 rfl h2.len) rfl rfl fun a hF=>q_x (v:=s1.v) hF hS (ex_move rfl) rfl rfl fun a hF=>q_x (v:=(iV (goLen p_s))) hF hS (ex_len Tryz.underlying27 rfl h1.len) rfl rfl fun a hF=>q_x (v:=(.bool ((goLen p_where) != (goLen p_s)))) hF hS (ex_ibin rfl rfl rfl) rfl rfl fun a hF=>q_end (n_sq ?_))))))))
 rcases bcase ((goLen p_where) != (goLen p_s)) with hc1 | hc1
 ·have hr:=cond_f hc1 hr
  refine q_cond_f hF rfl hc1 (q_skipc (n_sq (q_seq (q_seq (q_region (q_x (v:=s2.v) hF hS (ex_move rfl) rfl rfl fun a hF=>q_x (v:=(iV (goLen p_where))) hF hS (ex_len Tryz.underlying24 rfl h2.len) rfl rfl fun a hF=>q_x (v:=(iV 0)) hF hS (ex_move rfl) rfl rfl fun a hF=>q_end (n_sq (q_block ?_))))))))
  obtain ⟨o2,hl2,hr⟩:=bindS hr
  refine q_loop (fun (t_3 : Int) a w=>Fr a 31 [(0,s1.v),(12,s2.v),(13,(iV (goLen p_where))),(14,(iV t_3))]∧St [] w0 w m []) (fun (o : (Unit) ⊕ (Bool)) e a w=>o = .inl ()∧e = .exit 0∧Fr a 31 []∧St [] w0 w m []) hl2 ⟨hF.sub ⟨rfl,rfl,rfl,rfl,trivial⟩,hS⟩ ?_ ?_
  ·clear hF hS
   rintro t_3 a w st ⟨hF,hS⟩ hb2
   unfold impl_isWhere_l1 at hb2
   refine q_seq (q_region (q_x (v:=(.bool (decide (t_3 < (goLen p_where))))) hF hS (ex_ibin rfl rfl rfl) rfl rfl fun a hF=>q_end (n_sq (q_seq ?_))))
   rcases bcase (decide (t_3 < (goLen p_where))) with hc3 | hc3
   ·have hb2:=cond_f hc3 hb2
    refine q_cond_f hF rfl hc3 (q_exit (x_sq ?_))
    obtain rfl:=someI hb2
    exact ⟨nofun,.inl ⟨rfl,rfl,hF.sub trivial,hS⟩⟩
   ·have hb2:=cond_t hc3 hb2
    refine q_cond_t hF rfl hc3 (q_skipc (n_sq (q_seq (q_block (q_seq (q_region (q_x (v:=(iV t_3)) hF hS (ex_move rfl) rfl rfl fun a hF=>?_)))))))
    obtain ⟨e_4,he_4,hb2⟩:=bindS hb2
    obtain ⟨vs5,at5,d5⟩:=h2.at he_4 1 rfl
    obtain rfl : vs5 = [(iV e_4)]:=d5
    refine q_x (v:=(elP s2 (t_3.toNat * 1))) hF hS (ex_indexAddr Tryz.underlying24 sz3 rfl rfl (h2.idx he_4)) rfl rfl fun a hF=>q_x (v:=(iV e_4)) hF hS (ex_loadE1 0 Tryz.underlying3 rfl rfl ((at5).at) rfl rfl) rfl rfl fun a hF=>q_x (v:=(iV t_3)) hF hS (ex_assign rfl) rfl rfl fun a hF=>q_x (v:=(iV e_4)) hF hS (ex_assign rfl) rfl rfl fun a hF=>q_end (n_sq (q_seq ?_))
    obtain ⟨t_9,hj4,hb2⟩:=bindS hb2
    refine q_join (fun a w=>Fr a 31 [(0,s1.v),(12,s2.v),(13,(iV (goLen p_where))),(14,(iV t_3)),(29,(.bool t_9))]∧St [] w0 w m []) ?_ ?_
    ·refine q_region (q_x (v:=(iV e_4)) hF hS (ex_move rfl) rfl rfl fun a hF=>q_x (v:=(.bool (decide (e_4 < 0)))) hF hS (ex_ibin rfl rfl rfl) rfl rfl fun a hF=>q_x (v:=(.bool (decide (e_4 < 0)))) hF hS (ex_move rfl) rfl rfl fun a hF=>?_)
     rcases bcase (decide (e_4 < 0)) with hc5 | hc5
     ·have hj4:=cond_f hc5 hj4
      refine q_xg (v:=(iV e_4)) hF hS (ex_move rfl) (wanted_t hF rfl rfl rfl hc5) rfl fun a hF=>q_xg (v:=s1.v) hF hS (ex_move rfl) (wanted_t hF rfl rfl rfl hc5) rfl fun a hF=>q_xg (v:=(iV t_3)) hF hS (ex_move rfl) (wanted_t hF rfl rfl rfl hc5) rfl fun a hF=>?_
      obtain ⟨e_6,he_6,hj4⟩:=bindS hj4
      obtain ⟨vs7,at7,d7⟩:=h1.at he_6 2 rfl
      obtain rfl : vs7 = [(strV e_6.Name),(iV e_6.Levels)]:=d7
      refine q_xg (v:=(elP s1 (t_3.toNat * 2))) hF hS (ex_indexAddr Tryz.underlying27 sz100 rfl rfl (h1.idx he_6)) (wanted_t hF rfl rfl rfl hc5) rfl fun a hF=>q_xg (v:=(.agg #[(strV e_6.Name),(iV e_6.Levels)])) hF hS (ex_loadEA (us:=[(strV e_6.Name),(iV e_6.Levels)]) 0 Tryz.underlying100 rfl sz100 rfl ((at7).at) rfl rfl rfl) (wanted_t hF rfl rfl rfl hc5) rfl fun a hF=>?_
      obtain ⟨t_8,ht_8,hj4⟩:=bindS hj4
      refine q_callg (vs:=[(.agg #[(strV e_6.Name),(iV e_6.Levels)])]) hF hS (wanted_t hF rfl rfl rfl hc5) Tryz.func101 (by kernel_rfl) rfl rfl rfl (c_impl_fullSet e_6 t_8 ht_8 _ m hS.vis) ?_
      rintro a w _ rfl hF hS
      refine q_xg (v:=(.bool (decide (t_8 < e_4)))) hF hS (ex_ibin rfl rfl rfl) (wanted_t hF rfl rfl rfl hc5) rfl fun a hF=>q_x (v:=(.bool (decide (t_8 < e_4)))) hF hS (ex_pick_f rfl rfl hc5) rfl rfl fun a hF=>q_end (n_jn ?_)
      obtain rfl:=someI hj4
      exact ⟨hF.sub ⟨rfl,rfl,rfl,rfl,rfl,trivial⟩,hS⟩
     ·have hj4:=cond_t hc5 hj4
      refine q_skip hF (wanted_f hF rfl rfl rfl hc5 rfl) rfl fun a hF=>q_skip hF (wanted_f hF rfl rfl rfl hc5 rfl) rfl fun a hF=>q_skip hF (wanted_f hF rfl rfl rfl hc5 rfl) rfl fun a hF=>q_skip hF (wanted_f hF rfl rfl rfl hc5 rfl) rfl fun a hF=>q_skip hF (wanted_f hF rfl rfl rfl hc5 rfl) rfl fun a hF=>q_skip hF (wanted_f hF rfl rfl rfl hc5 rfl) rfl fun a hF=>q_skip hF (wanted_f hF rfl rfl rfl hc5 rfl) rfl fun a hF=>q_x (v:=(.bool true)) hF hS (ex_pick_t rfl rfl hc5) rfl rfl fun a hF=>q_end (n_jn ?_)
      obtain rfl:=someI hj4
      exact ⟨hF.sub ⟨rfl,rfl,rfl,rfl,rfl,trivial⟩,hS⟩
    ·rintro a w ⟨hF,hS⟩
     refine n_sq ?_
     rcases bcase (t_9) with hc6 | hc6
     ·have hb2:=cond_f hc6 hb2
      refine q_cond_f hF rfl hc6 (q_skipc (n_ib (n_sq (q_region (q_x (v:=(iV (w64 (t_3 + 1)))) hF hS (ex_ibin rfl rfl rfl) rfl rfl fun a hF=>q_x (v:=(iV (w64 (t_3 + 1)))) hF hS (ex_move rfl) rfl rfl fun a hF=>q_end ?_)))))
      obtain rfl:=someI hb2
      exact ⟨rfl,hF.sub ⟨rfl,rfl,rfl,rfl,trivial⟩,hS⟩
     ·have hb2:=cond_t hc6 hb2
      refine q_cond_t hF rfl hc6 (q_seq (q_region (q_x (v:=(.bool false)) hF hS (ex_assign rfl) rfl rfl fun a hF=>q_end (n_sq (q_ret (r_ib (r_sq ?_)))))))
      obtain rfl:=someI hb2
      refine ⟨nofun,.inr fun ho=>?_⟩
      subst ho
      refine r_ib (r_sq ?_)
      obtain rfl:=someI hr
      exact ret_of hF hS rfl (.tmp rfl .nil) rfl
  ·rintro e a w ⟨rfl,rfl,hF,hS⟩
   refine x_ib (n_sq ?_)
   refine q_seq (q_region (q_x (v:=(.bool true)) hF hS (ex_assign rfl) rfl rfl fun a hF=>q_end (n_sq (q_ret ?_))))
   obtain rfl:=someI hr
   exact ret_of hF hS rfl (.tmp rfl .nil) rfl
 ·have hr:=cond_t hc1 hr
  refine q_cond_t hF rfl hc1 (q_seq (q_region (q_x (v:=(.bool false)) hF hS (ex_assign rfl) rfl rfl fun a hF=>q_end (n_sq (q_ret (r_sq ?_))))))
  obtain rfl:=someI hr
  exact ret_of hF hS rfl (.tmp rfl .nil) rfl

end Go.Proofs.YtgaeknajcakinaaGreatDoor
