/- The walks of the functions: each returns what its plain function says. -/
import Derived.Test.YtnmimeojimfogaaGreatDoorTWalks1
namespace Go.Proofs.YtnmimeojimfogaaGreatDoor
open Go.Gx Go.Gx.F Go.RowKit
set_option linter.all false
set_option maxRecDepth 10000


theorem c_spec_l1Cur_anyTable (p_c : spec_l1Cur) (p_g : impl_Geo) (p_s : List impl_Variable) (r : impl_Table × spec_l1Cur) (hr : spec_l1Cur_anyTable p_c p_g p_s = some r) (w0 : World) (m : Mem) (b_p_c : Nat) (s1 : Sl) (h1 : Rd m s1 p_c.code) (s2 : Sl) (h2 : Rd m s2 p_g.Parents) (s3 : Sl) (h3 : Rd m s3 p_s) (X : List Nat) (hS : St X w0 w0 m [[⟨b_p_c,[s1.v,(iV p_c.at_),(.int .u64 p_c.seed.v)],59⟩]]) :
  RetX Tryz.prog 29 [(.pointer (some ⟨b_p_c,0,none⟩)),(.agg #[s2.v]),s3.v] w0 (fun v w=>∃ (q0' : Piece) (q1' : Piece) (s0' : Sl) (s1' : Sl),v = (.agg #[(iV r.1.Level),s0'.v,s1'.v,(iV r.1.Sum)])∧St X w0 w m [[⟨b_p_c,[s1.v,(iV r.2.at_),(.int .u64 r.2.seed.v)],59⟩],q0',q1']∧OwnL m 3 q0' s0' r.1.Vars∧OwnL m 3 q1' s1' r.1.Where∧r.2.code = p_c.code):=by
 unfold spec_l1Cur_anyTable at hr
 refine ret_startX Tryz.func29 rfl 56 rfl rfl fun a hF=>q_seq (q_region (q_box (cs:=[s2.v]) hF hS rfl rfl rfl fun a w b4 hF hS=>q_alloc (cs:=[(iV 0),nilS.v,nilS.v,(iV 0)]) hF hS rfl rfl rfl fun a w b5 hF hS=>q_end (n_sq (q_seq (q_region (q_x (v:=(.pointer (some ⟨b_p_c,0,none⟩))) hF hS (ex_move rfl) rfl rfl fun a hF=>q_x (v:=(.agg #[s2.v])) hF hS (ex_loadA (vs:=[s2.v]) 1 0 Tryz.underlying26 rfl sz26 rfl rfl rfl rfl) rfl rfl fun a hF=>q_x (v:=s3.v) hF hS (ex_move rfl) rfl rfl fun a hF=>?_))))))
 have hS : St _ _ _ _ [[⟨b_p_c,[s1.v,(iV p_c.at_),(.int .u64 p_c.seed.v)],59⟩],[⟨b5,[(iV 0),nilS.v,nilS.v,(iV 0)],29⟩],[⟨b4,[s2.v],26⟩]]:=hS.sel [2,0,1] (by decide)
 have hS6 : St _ _ _ _ ([[⟨b_p_c,[s1.v,(iV p_c.at_),(.int .u64 p_c.seed.v)],59⟩]]++[[⟨b5,[(iV 0),nilS.v,nilS.v,(iV 0)],29⟩],[⟨b4,[s2.v],26⟩]]):=hS
 have hE6:=hS6.enter
 obtain ⟨t_7,ht_7,hr⟩:=bindS hr
 refine q_do rfl fun _ hK=>wp_callX (vs:=[(.pointer (some ⟨b_p_c,0,none⟩)),(.agg #[s2.v]),s3.v]) hF Tryz.func41 (by kernel_rfl) rfl rfl rfl (c_spec_l1Cur_table p_c p_g p_s t_7 ht_7 _ m b_p_c s1 h1 s2 h2 s3 h3 _ hE6) fun a w _ hR hF=>hK _ _ ?_
 obtain ⟨q8,q9,s8,s9,rfl,hR6,h8,h9,hk10⟩:=hR
 have hS : St _ _ _ _ [[⟨b_p_c,[s1.v,(iV t_7.2.at_),(.int .u64 t_7.2.seed.v)],59⟩],q8,q9,[⟨b5,[(iV 0),nilS.v,nilS.v,(iV 0)],29⟩],[⟨b4,[s2.v],26⟩]]:=hS6.leaveF hR6
 have h10 : Rd m s1 t_7.2.code:=by rw [hk10]; exact h1
 refine q_alloc (cs:=[(iV 0),nilS.v,nilS.v,(iV 0)]) hF hS rfl rfl rfl fun a w b11 hF hS=>q_store (vs:=[(iV t_7.1.Level),s8.v,s9.v,(iV t_7.1.Sum)]) (cs':=[(iV t_7.1.Level),s8.v,s9.v,(iV t_7.1.Sum)]) 0 0 hF hS sz29 rfl rfl rfl rfl rfl rfl rfl rfl fun a w hF hS=>q_end (n_sq (q_seq (q_seq (q_region (q_x (v:=(.pointer (some ⟨b_p_c,0,none⟩))) hF hS (ex_move rfl) rfl rfl fun a hF=>?_)))))
 have hS : St _ _ _ _ [[⟨b_p_c,[s1.v,(iV t_7.2.at_),(.int .u64 t_7.2.seed.v)],59⟩],[⟨b11,[(iV t_7.1.Level),s8.v,s9.v,(iV t_7.1.Sum)],29⟩],q8,q9,[⟨b5,[(iV 0),nilS.v,nilS.v,(iV 0)],29⟩],[⟨b4,[s2.v],26⟩]]:=hS.sel [1,0,2,3,4,5] (by decide)
 have hS12 : St _ _ _ _ ([[⟨b_p_c,[s1.v,(iV t_7.2.at_),(.int .u64 t_7.2.seed.v)],59⟩]]++[[⟨b11,[(iV t_7.1.Level),s8.v,s9.v,(iV t_7.1.Sum)],29⟩],q8,q9,[⟨b5,[(iV 0),nilS.v,nilS.v,(iV 0)],29⟩],[⟨b4,[s2.v],26⟩]]):=hS
 have hE12:=hS12.enter
 obtain ⟨t_13,ht_13,hr⟩:=bindS hr
 refine q_do rfl fun _ hK=>wp_callX (vs:=[(.pointer (some ⟨b_p_c,0,none⟩)),(iV 24)]) hF Tryz.func62 (by kernel_rfl) rfl rfl rfl (c_spec_l1Cur_pick t_7.2 24 t_13 ht_13 _ m b_p_c s1 h10 _ hE12) fun a w _ hR hF=>hK _ _ ?_
 obtain ⟨rfl,hR12,hk14⟩:=hR
 have hS : St _ _ _ _ [[⟨b_p_c,[s1.v,(iV t_13.2.at_),(.int .u64 t_13.2.seed.v)],59⟩],[⟨b11,[(iV t_7.1.Level),s8.v,s9.v,(iV t_7.1.Sum)],29⟩],q8,q9,[⟨b5,[(iV 0),nilS.v,nilS.v,(iV 0)],29⟩],[⟨b4,[s2.v],26⟩]]:=hS12.leaveF hR12
 have h14 : Rd m s1 t_13.2.code:=by rw [hk14]; exact h10
 refine q_end (n_sq (q_block (q_seq (q_region (q_x (v:=(.bool (t_13.1 == 0))) hF hS (ex_ibin rfl rfl rfl) rfl rfl fun a hF=>q_x (v:=(.bool (t_13.1 == 0))) hF hS (ex_assign rfl) rfl rfl fun a hF=>q_end (n_sq ?_))))))
 obtain ⟨j1,hj1,hr⟩:=bindS hr
 refine q_join (fun a w=>∃ (q74 : Piece),∃ (s74 : Sl),∃ (q75 : Piece),∃ (s75 : Sl),∃ p_c_71,∃ t_73,j1 = (p_c_71,t_73)∧Fr a 56 [(6,(.pointer (some ⟨b5,0,none⟩))),(7,(.pointer (some ⟨b11,0,none⟩)))]∧St X w0 w m [q74,q75,[⟨b_p_c,[s1.v,(iV p_c_71.at_),(.int .u64 p_c_71.seed.v)],59⟩],[⟨b11,[(iV t_73.Level),s74.v,s75.v,(iV t_73.Sum)],29⟩],[⟨b5,[(iV 0),nilS.v,nilS.v,(iV 0)],29⟩]]∧Rd m s1 p_c_71.code∧p_c_71.code = p_c.code∧OwnL m 3 q74 s74 t_73.Vars∧OwnL m 3 q75 s75 t_73.Where) ?_ ?_
 ·rcases bcase (t_13.1 == 0) with hc2 | hc2
  ·have hj1:=cond_f hc2 hj1
   refine q_cond_f hF rfl hc2 (q_seq (q_region (q_x (v:=(.bool (t_13.1 == 1))) hF hS (ex_ibin rfl rfl rfl) rfl rfl fun a hF=>q_x (v:=(.bool (t_13.1 == 1))) hF hS (ex_assign rfl) rfl rfl fun a hF=>q_end (n_sq ?_))))
   obtain ⟨j3,hj3,hj1⟩:=bindS hj1
   refine q_join (fun a w=>∃ (q65 : Piece),∃ (s65 : Sl),∃ (q66 : Piece),∃ (s66 : Sl),∃ p_c_62,∃ t_64,j3 = (p_c_62,t_64)∧Fr a 56 [(6,(.pointer (some ⟨b5,0,none⟩))),(7,(.pointer (some ⟨b11,0,none⟩)))]∧St X w0 w m [q65,q66,[⟨b_p_c,[s1.v,(iV p_c_62.at_),(.int .u64 p_c_62.seed.v)],59⟩],[⟨b11,[(iV t_64.Level),s65.v,s66.v,(iV t_64.Sum)],29⟩],[⟨b5,[(iV 0),nilS.v,nilS.v,(iV 0)],29⟩]]∧Rd m s1 p_c_62.code∧p_c_62.code = p_c.code∧OwnL m 3 q65 s65 t_64.Vars∧OwnL m 3 q66 s66 t_64.Where) ?_ ?_
   ·rcases bcase (t_13.1 == 1) with hc4 | hc4
    ·have hj3:=cond_f hc4 hj3
     refine q_cond_f hF rfl hc4 (q_seq (q_region (q_x (v:=(.bool (t_13.1 == 2))) hF hS (ex_ibin rfl rfl rfl) rfl rfl fun a hF=>q_x (v:=(.bool (t_13.1 == 2))) hF hS (ex_assign rfl) rfl rfl fun a hF=>q_end (n_sq ?_))))
     obtain ⟨j5,hj5,hj3⟩:=bindS hj3
     refine q_join (fun a w=>∃ (q48 : Piece),∃ (s48 : Sl),∃ p_c_44,∃ t_46,j5 = (p_c_44,t_46)∧Fr a 56 [(6,(.pointer (some ⟨b5,0,none⟩))),(7,(.pointer (some ⟨b11,0,none⟩)))]∧St X w0 w m [q8,q48,[⟨b_p_c,[s1.v,(iV p_c_44.at_),(.int .u64 p_c_44.seed.v)],59⟩],[⟨b11,[(iV t_46.Level),s8.v,s48.v,(iV t_46.Sum)],29⟩],[⟨b5,[(iV 0),nilS.v,nilS.v,(iV 0)],29⟩]]∧Rd m s1 p_c_44.code∧p_c_44.code = p_c.code∧OwnL m 3 q8 s8 t_46.Vars∧OwnL m 3 q48 s48 t_46.Where) ?_ ?_
     ·rcases bcase (t_13.1 == 2) with hc6 | hc6
      ·have hj5:=cond_f hc6 hj5
       refine q_cond_f hF rfl hc6 (q_seq (q_region (q_x (v:=(.bool (t_13.1 == 3))) hF hS (ex_ibin rfl rfl rfl) rfl rfl fun a hF=>q_x (v:=(.bool (t_13.1 == 3))) hF hS (ex_assign rfl) rfl rfl fun a hF=>q_end (n_sq ?_))))
       obtain ⟨j7,hj7,hj5⟩:=bindS hj5
       refine q_join (fun a w=>∃ (q40 : Piece),∃ p_c_36,∃ t_38,j7 = (p_c_36,t_38)∧Fr a 56 [(6,(.pointer (some ⟨b5,0,none⟩))),(7,(.pointer (some ⟨b11,0,none⟩)))]∧St X w0 w m [q8,q40,[⟨b_p_c,[s1.v,(iV p_c_36.at_),(.int .u64 p_c_36.seed.v)],59⟩],[⟨b11,[(iV t_38.Level),s8.v,s9.v,(iV t_38.Sum)],29⟩],[⟨b5,[(iV 0),nilS.v,nilS.v,(iV 0)],29⟩]]∧Rd m s1 p_c_36.code∧p_c_36.code = p_c.code∧OwnL m 3 q8 s8 t_38.Vars∧OwnL m 3 q40 s9 t_38.Where) ?_ ?_
       ·rcases bcase (t_13.1 == 3) with hc8 | hc8
        ·have hj7:=cond_f hc8 hj7
         refine q_cond_f hF rfl hc8 (q_seq (q_region (q_x (v:=(.bool (t_13.1 == 4))) hF hS (ex_ibin rfl rfl rfl) rfl rfl fun a hF=>q_x (v:=(.bool (t_13.1 == 4))) hF hS (ex_assign rfl) rfl rfl fun a hF=>q_end (n_sq ?_))))
         obtain ⟨j9,hj9,hj7⟩:=bindS hj7
         refine q_join (fun a w=>∃ (q31 : Piece),∃ p_c_27,∃ t_29,j9 = (p_c_27,t_29)∧Fr a 56 [(6,(.pointer (some ⟨b5,0,none⟩))),(7,(.pointer (some ⟨b11,0,none⟩)))]∧St X w0 w m [q8,q31,[⟨b_p_c,[s1.v,(iV p_c_27.at_),(.int .u64 p_c_27.seed.v)],59⟩],[⟨b11,[(iV t_29.Level),s8.v,s9.v,(iV t_29.Sum)],29⟩],[⟨b5,[(iV 0),nilS.v,nilS.v,(iV 0)],29⟩]]∧Rd m s1 p_c_27.code∧p_c_27.code = p_c.code∧OwnL m 3 q8 s8 t_29.Vars∧OwnL m 3 q31 s9 t_29.Where) ?_ ?_
         ·rcases bcase (t_13.1 == 4) with hc10 | hc10
          ·have hj9:=cond_f hc10 hj9
           refine q_cond_f hF rfl hc10 (q_skipc (n_jn ?_))
           obtain rfl:=someI hj9
           exact ⟨q9,_,_,rfl,hF.sub ⟨rfl,rfl,trivial⟩,hS.sel [2,3,0,1,4] (by decide),h14,(hk14.trans hk10),h8,h9⟩
          ·have hj9:=cond_t hc10 hj9
           refine q_cond_t hF rfl hc10 (q_seq (q_region (q_x (v:=(.pointer (some ⟨b11,2,none⟩))) hF hS (ex_fieldAddr Tryz.underlying29 rfl sz24 rfl rfl) rfl rfl fun a hF=>q_x (v:=s9.v) hF hS (ex_load1 1 0 Tryz.underlying24 rfl rfl rfl rfl) rfl rfl fun a hF=>q_x (v:=(iV (goLen t_7.1.Where))) hF hS (ex_len Tryz.underlying24 rfl h9.len) rfl rfl fun a hF=>q_x (v:=(.bool (decide (0 < (goLen t_7.1.Where))))) hF hS (ex_ibin rfl rfl rfl) rfl rfl fun a hF=>q_end (n_sq ?_))))
           obtain ⟨j11,hj11,hj9⟩:=bindS hj9
           refine q_join (fun a w=>∃ (q26 : Piece),∃ p_c_22,∃ t_24,j11 = (p_c_22,t_24)∧Fr a 56 [(6,(.pointer (some ⟨b5,0,none⟩))),(7,(.pointer (some ⟨b11,0,none⟩)))]∧St X w0 w m [q8,q26,[⟨b_p_c,[s1.v,(iV p_c_22.at_),(.int .u64 p_c_22.seed.v)],59⟩],[⟨b11,[(iV t_24.Level),s8.v,s9.v,(iV t_24.Sum)],29⟩],[⟨b5,[(iV 0),nilS.v,nilS.v,(iV 0)],29⟩]]∧Rd m s1 p_c_22.code∧p_c_22.code = p_c.code∧OwnL m 3 q8 s8 t_24.Vars∧OwnL m 3 q26 s9 t_24.Where) ?_ ?_
           ·rcases bcase (decide (0 < (goLen t_7.1.Where))) with hc12 | hc12
            ·have hj11:=cond_f hc12 hj11
             refine q_cond_f hF rfl hc12 (q_skipc (n_jn ?_))
             obtain rfl:=someI hj11
             exact ⟨q9,_,_,rfl,hF.sub ⟨rfl,rfl,trivial⟩,hS.sel [2,3,0,1,4] (by decide),h14,(hk14.trans hk10),h8,h9⟩
            ·have hj11:=cond_t hc12 hj11
             refine q_cond_t hF rfl hc12 (e_region ⟨[4,6],[b11]⟩ mixed fun w' hw'=>?_)
             have hS:=hS.below hw'
             refine e_p (v:=(.pointer (some ⟨b11,2,none⟩))) 0 hF rfl (ex_fieldAddr Tryz.underlying29 rfl sz24 rfl rfl) rfl rfl (by kernel_rfl) (by kernel_rfl) (by kernel_rfl) fun a hF=>e_xb (v:=s9.v) 1 1 hF hS (.head _) rfl rfl (ex_load1 0 0 Tryz.underlying24 rfl rfl rfl rfl) rfl rfl (by kernel_rfl) (by kernel_rfl) (by kernel_rfl) fun a hF=>e_p (v:=(.pointer (some ⟨b_p_c,0,none⟩))) 2 hF rfl (ex_move rfl) rfl rfl (by kernel_rfl) (by kernel_rfl) (by kernel_rfl) fun a hF=>e_one 3 (by kernel_rfl) (e_op rfl rfl fun _ hK=>wp_buildSlice' (l:=([-1,255,256] : List Int)) (cells:=[(iV (-1)),(iV 255),(iV 256)]) hF hS Tryz.underlying24 inf3 rfl rfl (by kernel_rfl) rfl rfl rfl ⟨rfl,rfl,rfl,rfl⟩ rfl rfl fun a w q15 s15 hF hS h15 hb=>hK _ _ hb (e_one 4 (by kernel_rfl) ?_))
             have hS : St _ _ _ _ [[⟨b_p_c,[s1.v,(iV t_13.2.at_),(.int .u64 t_13.2.seed.v)],59⟩],q15,[⟨b11,[(iV t_7.1.Level),s8.v,s9.v,(iV t_7.1.Sum)],29⟩],q8,q9,[⟨b5,[(iV 0),nilS.v,nilS.v,(iV 0)],29⟩],[⟨b4,[s2.v],26⟩]]:=hS.sel [1,0,2,3,4,5,6] (by decide)
             have hS16 : St _ _ _ _ ([[⟨b_p_c,[s1.v,(iV t_13.2.at_),(.int .u64 t_13.2.seed.v)],59⟩]]++[q15,[⟨b11,[(iV t_7.1.Level),s8.v,s9.v,(iV t_7.1.Sum)],29⟩],q8,q9,[⟨b5,[(iV 0),nilS.v,nilS.v,(iV 0)],29⟩],[⟨b4,[s2.v],26⟩]]):=hS
             obtain ⟨m16,hl16,hE16,hz16⟩:=hS16.lendX
             obtain ⟨t_17,ht_17,hj11⟩:=bindS hj11
             have hSo:=hS
             refine e_opl rfl rfl rfl fun _ hK=>wp_callX (vs:=[(.pointer (some ⟨b_p_c,0,none⟩)),s15.v]) hF Tryz.func65 (by kernel_rfl) rfl rfl rfl (c_spec_l1Cur_among t_13.2 ([-1,255,256] : List Int) t_17 ht_17 _ m16 b_p_c s1 (h14.mono hl16) s15 (h15.froz hl16 (hz16 0 _ rfl)) _ hE16) fun a w _ hR hF=>hK _ _ ?_
             obtain ⟨rfl,hR16,hk18⟩:=hR
             have hS : St _ _ _ _ [[⟨b_p_c,[s1.v,(iV t_17.2.at_),(.int .u64 t_17.2.seed.v)],59⟩],q15,[⟨b11,[(iV t_7.1.Level),s8.v,s9.v,(iV t_7.1.Sum)],29⟩],q8,q9,[⟨b5,[(iV 0),nilS.v,nilS.v,(iV 0)],29⟩],[⟨b4,[s2.v],26⟩]]:=hS16.leaveF hR16
             have h18 : Rd m s1 t_17.2.code:=by rw [hk18]; exact h14
             refine ⟨kpC hSo hS 2 2 rfl rfl kpN,?_⟩
             obtain ⟨e_19,he_19,hj11⟩:=bindS hj11
             obtain ⟨vs20,at20,d20⟩:=h9.at he_19 1 rfl
             obtain rfl : vs20 = [(iV e_19)]:=d20
             refine e_p (v:=(elP s9 ((0 : Int).toNat * 1))) 5 hF rfl (ex_indexAddr Tryz.underlying24 sz3 rfl rfl (h9.idx he_19)) rfl rfl (by kernel_rfl) (by kernel_rfl) (by kernel_rfl) fun a hF=>e_one 6 (by kernel_rfl) ?_
             have hS : St _ _ _ _ [q9,[⟨b_p_c,[s1.v,(iV t_17.2.at_),(.int .u64 t_17.2.seed.v)],59⟩],q15,[⟨b11,[(iV t_7.1.Level),s8.v,s9.v,(iV t_7.1.Sum)],29⟩],q8,[⟨b5,[(iV 0),nilS.v,nilS.v,(iV 0)],29⟩],[⟨b4,[s2.v],26⟩]]:=hS.sel [4,0,1,2,3,5,6] (by decide)
             have hSo:=hS
             refine e_opl rfl rfl rfl fun _ hK=>wp_storeE (e':=t_17.1) (us:=[(iV t_17.1)]) (vs:=[(iV e_19)]) 0 hF hS h9 sz3 rfl rfl rfl rfl rfl rfl rfl he_19 at20 rfl rfl rfl fun w q21 hS h21=>hK _ _ (⟨kpC hSo hS 3 3 rfl rfl kpN,?_⟩)
             refine e_end (by kernel_rfl) (n_jn ?_) _
             obtain rfl:=someI hj11
             exact ⟨q21,_,_,rfl,hF.sub ⟨rfl,rfl,trivial⟩,hS.sel [4,0,1,3,5] (by decide),h18,(hk18.trans (hk14.trans hk10)),h8,h21⟩
           ·rintro a w ⟨q26,p_c_22,t_24,rfl,hF,hS,h23,h23k,h25,h26⟩
            refine n_jn ?_
            obtain rfl:=someI hj9
            exact ⟨q26,_,_,rfl,hF.sub ⟨rfl,rfl,trivial⟩,hS,h23,h23k,h25,h26⟩
         ·rintro a w ⟨q31,p_c_27,t_29,rfl,hF,hS,h28,h28k,h30,h31⟩
          refine n_jn ?_
          obtain rfl:=someI hj7
          exact ⟨q31,_,_,rfl,hF.sub ⟨rfl,rfl,trivial⟩,hS,h28,h28k,h30,h31⟩
        ·have hj7:=cond_t hc8 hj7
         refine q_cond_t hF rfl hc8 (q_region (q_x (v:=(.pointer (some ⟨b_p_c,0,none⟩))) hF hS (ex_move rfl) rfl rfl fun a hF=>q_do rfl fun _ hK=>wp_buildSlice' (l:=([-2,3,6] : List Int)) (cells:=[(iV (-2)),(iV 3),(iV 6)]) hF hS Tryz.underlying24 inf3 rfl rfl (by kernel_rfl) rfl rfl rfl ⟨rfl,rfl,rfl,rfl⟩ rfl rfl fun a w q32 s32 hF hS h32 _=>hK _ _ ?_))
         have hS : St _ _ _ _ [[⟨b_p_c,[s1.v,(iV t_13.2.at_),(.int .u64 t_13.2.seed.v)],59⟩],q32,[⟨b11,[(iV t_7.1.Level),s8.v,s9.v,(iV t_7.1.Sum)],29⟩],q8,q9,[⟨b5,[(iV 0),nilS.v,nilS.v,(iV 0)],29⟩],[⟨b4,[s2.v],26⟩]]:=hS.sel [1,0,2,3,4,5,6] (by decide)
         have hS33 : St _ _ _ _ ([[⟨b_p_c,[s1.v,(iV t_13.2.at_),(.int .u64 t_13.2.seed.v)],59⟩]]++[q32,[⟨b11,[(iV t_7.1.Level),s8.v,s9.v,(iV t_7.1.Sum)],29⟩],q8,q9,[⟨b5,[(iV 0),nilS.v,nilS.v,(iV 0)],29⟩],[⟨b4,[s2.v],26⟩]]):=hS
         obtain ⟨m33,hl33,hE33,hz33⟩:=hS33.lendX
         obtain ⟨t_34,ht_34,hj7⟩:=bindS hj7
         refine q_do rfl fun _ hK=>wp_callX (vs:=[(.pointer (some ⟨b_p_c,0,none⟩)),s32.v]) hF Tryz.func65 (by kernel_rfl) rfl rfl rfl (c_spec_l1Cur_among t_13.2 ([-2,3,6] : List Int) t_34 ht_34 _ m33 b_p_c s1 (h14.mono hl33) s32 (h32.froz hl33 (hz33 0 _ rfl)) _ hE33) fun a w _ hR hF=>hK _ _ ?_
         obtain ⟨rfl,hR33,hk35⟩:=hR
         have hS : St _ _ _ _ [[⟨b_p_c,[s1.v,(iV t_34.2.at_),(.int .u64 t_34.2.seed.v)],59⟩],q32,[⟨b11,[(iV t_7.1.Level),s8.v,s9.v,(iV t_7.1.Sum)],29⟩],q8,q9,[⟨b5,[(iV 0),nilS.v,nilS.v,(iV 0)],29⟩],[⟨b4,[s2.v],26⟩]]:=hS33.leaveF hR33
         have h35 : Rd m s1 t_34.2.code:=by rw [hk35]; exact h14
         refine q_x (v:=(.pointer (some ⟨b11,3,none⟩))) hF hS (ex_fieldAddr Tryz.underlying29 rfl sz3 rfl rfl) rfl rfl fun a hF=>q_store (vs:=[(iV t_34.1)]) (cs':=[(iV t_7.1.Level),s8.v,s9.v,(iV t_34.1)]) 2 0 hF hS sz3 rfl rfl rfl rfl rfl rfl rfl rfl fun a w hF hS=>q_end (n_jn ?_)
         obtain rfl:=someI hj7
         exact ⟨q9,_,_,rfl,hF.sub ⟨rfl,rfl,trivial⟩,hS.sel [3,4,0,2,5] (by decide),h35,(hk35.trans (hk14.trans hk10)),h8,h9⟩
       ·rintro a w ⟨q40,p_c_36,t_38,rfl,hF,hS,h37,h37k,h39,h40⟩
        refine n_jn ?_
        obtain rfl:=someI hj5
        exact ⟨q40,s9,_,_,rfl,hF.sub ⟨rfl,rfl,trivial⟩,hS,h37,h37k,h39,h40⟩
      ·have hj5:=cond_t hc6 hj5
       refine q_cond_t hF rfl hc6 (q_region (q_x (v:=(.pointer (some ⟨b11,2,none⟩))) hF hS (ex_fieldAddr Tryz.underlying29 rfl sz24 rfl rfl) rfl rfl fun a hF=>q_x (v:=s9.v) hF hS (ex_load1 1 0 Tryz.underlying24 rfl rfl rfl rfl) rfl rfl fun a hF=>q_do rfl fun _ hK=>wp_buildSlice' (l:=([0] : List Int)) (cells:=[(iV 0)]) hF hS Tryz.underlying24 inf3 rfl rfl (by kernel_rfl) rfl rfl rfl ⟨rfl,rfl⟩ rfl rfl fun a w q41 s41 hF hS h41 _=>hK _ _ ?_))
       have hS : St _ _ _ _ [q9,q41,[⟨b_p_c,[s1.v,(iV t_13.2.at_),(.int .u64 t_13.2.seed.v)],59⟩],[⟨b11,[(iV t_7.1.Level),s8.v,s9.v,(iV t_7.1.Sum)],29⟩],q8,[⟨b5,[(iV 0),nilS.v,nilS.v,(iV 0)],29⟩],[⟨b4,[s2.v],26⟩]]:=hS.sel [4,0,1,2,3,5,6] (by decide)
       obtain ⟨l_42,hl_42,hj5⟩:=bindS hj5
       refine q_do rfl fun _ hK=>wp_append hF hS h9 Tryz.underlying24 inf3 rfl rfl rfl rfl (h41.vw hS (j:=1) rfl) rfl (by decide) hl_42 rfl fun a w q43 s43 hF hS h43=>hK _ _ (q_x (v:=(.pointer (some ⟨b11,2,none⟩))) hF hS (ex_fieldAddr Tryz.underlying29 rfl sz24 rfl rfl) rfl rfl fun a hF=>q_store (vs:=[s43.v]) (cs':=[(iV t_7.1.Level),s8.v,s43.v,(iV t_7.1.Sum)]) 3 0 hF hS sz24 rfl rfl rfl rfl rfl rfl rfl rfl fun a w hF hS=>q_end (n_jn ?_))
       obtain rfl:=someI hj5
       exact ⟨q43,s43,_,_,rfl,hF.sub ⟨rfl,rfl,trivial⟩,hS.sel [4,0,2,3,5] (by decide),h14,(hk14.trans hk10),h8,h43⟩
     ·rintro a w ⟨q48,s48,p_c_44,t_46,rfl,hF,hS,h45,h45k,h47,h48⟩
      refine n_jn ?_
      obtain rfl:=someI hj3
      exact ⟨q8,s8,q48,s48,_,_,rfl,hF.sub ⟨rfl,rfl,trivial⟩,hS,h45,h45k,h47,h48⟩
    ·have hj3:=cond_t hc4 hj3
     refine q_cond_t hF rfl hc4 ?_
     obtain ⟨j13,hj13,hj3⟩:=bindS hj3
     refine q_join (fun a w=>∃ (q60 : Piece),∃ (s60 : Sl),∃ p_c_57,∃ t_59,j13 = (p_c_57,t_59)∧Fr a 56 [(6,(.pointer (some ⟨b5,0,none⟩))),(7,(.pointer (some ⟨b11,0,none⟩)))]∧St X w0 w m [q60,q9,[⟨b_p_c,[s1.v,(iV p_c_57.at_),(.int .u64 p_c_57.seed.v)],59⟩],[⟨b11,[(iV t_59.Level),s60.v,s9.v,(iV t_59.Sum)],29⟩],[⟨b5,[(iV 0),nilS.v,nilS.v,(iV 0)],29⟩]]∧Rd m s1 p_c_57.code∧p_c_57.code = p_c.code∧OwnL m 3 q60 s60 t_59.Vars∧OwnL m 3 q9 s9 t_59.Where) ?_ ?_
     ·refine e_region ⟨[4,6,8],[]⟩ mixed fun w' hw'=>?_
      have hS:=hS.below hw'
      refine e_p (v:=(.pointer (some ⟨b11,1,none⟩))) 0 hF rfl (ex_fieldAddr Tryz.underlying29 rfl sz24 rfl rfl) rfl rfl (by kernel_rfl) (by kernel_rfl) (by kernel_rfl) fun a hF=>e_p (v:=(.pointer (some ⟨b_p_c,0,none⟩))) 2 hF rfl (ex_move rfl) rfl rfl (by kernel_rfl) (by kernel_rfl) (by kernel_rfl) fun a hF=>?_
      obtain ⟨t_52,ht_52,hj13⟩:=bindS hj13
      obtain ⟨l_55,hl_55,hj13⟩:=bindS hj13
      refine e_all [1,3] (by kernel_rfl) rfl ⟨?_,?_,trivial⟩
      ·refine e_lx (v:=s8.v) hF hS rfl (ex_load1 1 0 Tryz.underlying24 rfl rfl rfl rfl) rfl rfl fun a hF=>e_one 3 (by kernel_rfl) (e_op rfl rfl fun _ hK=>wp_buildSlice' (l:=([-1,0,6] : List Int)) (cells:=[(iV (-1)),(iV 0),(iV 6)]) hF hS Tryz.underlying24 inf3 rfl rfl (by kernel_rfl) rfl rfl rfl ⟨rfl,rfl,rfl,rfl⟩ rfl rfl fun a w q50 s50 hF hS h50 hb=>hK _ _ hb (e_one 4 (by kernel_rfl) ?_))
       have hS : St _ _ _ _ [[⟨b_p_c,[s1.v,(iV t_13.2.at_),(.int .u64 t_13.2.seed.v)],59⟩],q50,[⟨b11,[(iV t_7.1.Level),s8.v,s9.v,(iV t_7.1.Sum)],29⟩],q8,q9,[⟨b5,[(iV 0),nilS.v,nilS.v,(iV 0)],29⟩],[⟨b4,[s2.v],26⟩]]:=hS.sel [1,0,2,3,4,5,6] (by decide)
       have hS51 : St _ _ _ _ ([[⟨b_p_c,[s1.v,(iV t_13.2.at_),(.int .u64 t_13.2.seed.v)],59⟩]]++[q50,[⟨b11,[(iV t_7.1.Level),s8.v,s9.v,(iV t_7.1.Sum)],29⟩],q8,q9,[⟨b5,[(iV 0),nilS.v,nilS.v,(iV 0)],29⟩],[⟨b4,[s2.v],26⟩]]):=hS
       obtain ⟨m51,hl51,hE51,hz51⟩:=hS51.lendX
       refine e_opl rfl rfl rfl fun _ hK=>wp_callX (vs:=[(.pointer (some ⟨b_p_c,0,none⟩)),s50.v]) hF Tryz.func65 (by kernel_rfl) rfl rfl rfl (c_spec_l1Cur_among t_13.2 ([-1,0,6] : List Int) t_52 ht_52 _ m51 b_p_c s1 (h14.mono hl51) s50 (h50.froz hl51 (hz51 0 _ rfl)) _ hE51) fun a w _ hR hF=>hK _ _ ?_
       obtain ⟨rfl,hR51,hk53⟩:=hR
       have hS : St _ _ _ _ [[⟨b_p_c,[s1.v,(iV t_52.2.at_),(.int .u64 t_52.2.seed.v)],59⟩],q50,[⟨b11,[(iV t_7.1.Level),s8.v,s9.v,(iV t_7.1.Sum)],29⟩],q8,q9,[⟨b5,[(iV 0),nilS.v,nilS.v,(iV 0)],29⟩],[⟨b4,[s2.v],26⟩]]:=hS51.leaveF hR51
       have h53 : Rd m s1 t_52.2.code:=by rw [hk53]; exact h14
       refine ⟨kpN,?_⟩
       refine e_one 5 (by kernel_rfl) (e_op rfl rfl fun _ hK=>wp_buildSlice' (l:=([t_52.1] : List Int)) (cells:=[(iV t_52.1)]) hF hS Tryz.underlying24 inf3 rfl rfl (by kernel_rfl) rfl rfl rfl ⟨rfl,rfl⟩ rfl rfl fun a w q54 s54 hF hS h54 hb=>hK _ _ hb (e_one 6 (by kernel_rfl) ?_))
       have hS : St _ _ _ _ [q8,q54,[⟨b_p_c,[s1.v,(iV t_52.2.at_),(.int .u64 t_52.2.seed.v)],59⟩],q50,[⟨b11,[(iV t_7.1.Level),s8.v,s9.v,(iV t_7.1.Sum)],29⟩],q9,[⟨b5,[(iV 0),nilS.v,nilS.v,(iV 0)],29⟩],[⟨b4,[s2.v],26⟩]]:=hS.sel [4,0,1,2,3,5,6,7] (by decide)
       refine e_opl rfl rfl rfl fun _ hK=>wp_append hF hS h8 Tryz.underlying24 inf3 rfl rfl rfl rfl (h54.vw hS (j:=1) rfl) rfl (by decide) hl_55 rfl fun a w q56 s56 hF hS h56=>hK _ _ (⟨kpN,?_⟩)
       refine e_p (v:=(.pointer (some ⟨b11,1,none⟩))) 7 hF rfl (ex_fieldAddr Tryz.underlying29 rfl sz24 rfl rfl) rfl rfl (by kernel_rfl) (by kernel_rfl) (by kernel_rfl) fun a hF=>e_one 8 (by kernel_rfl) (e_store (vs:=[s56.v]) (cs':=[(iV t_7.1.Level),s56.v,s9.v,(iV t_7.1.Sum)]) 4 0 hF hS rfl rfl sz24 rfl rfl rfl rfl rfl rfl rfl rfl fun a w hF hS=>⟨kpN,?_⟩)
       refine e_end (by kernel_rfl) (n_jn ?_) _
       obtain rfl:=someI hj13
       exact ⟨q56,s56,_,_,rfl,hF.sub ⟨rfl,rfl,trivial⟩,hS.sel [0,5,2,4,6] (by decide),h53,(hk53.trans (hk14.trans hk10)),h56,h9⟩
      ·refine e_op rfl rfl fun _ hK=>wp_buildSlice' (l:=([-1,0,6] : List Int)) (cells:=[(iV (-1)),(iV 0),(iV 6)]) hF hS Tryz.underlying24 inf3 rfl rfl (by kernel_rfl) rfl rfl rfl ⟨rfl,rfl,rfl,rfl⟩ rfl rfl fun a w q50 s50 hF hS h50 hb=>hK _ _ hb (e_all [1,4] (by kernel_rfl) rfl ⟨?_,?_,trivial⟩)
       ·refine e_lx (v:=s8.v) hF hS rfl (ex_load1 2 0 Tryz.underlying24 rfl rfl rfl rfl) rfl rfl fun a hF=>e_one 4 (by kernel_rfl) ?_
        have hS : St _ _ _ _ [[⟨b_p_c,[s1.v,(iV t_13.2.at_),(.int .u64 t_13.2.seed.v)],59⟩],q50,[⟨b11,[(iV t_7.1.Level),s8.v,s9.v,(iV t_7.1.Sum)],29⟩],q8,q9,[⟨b5,[(iV 0),nilS.v,nilS.v,(iV 0)],29⟩],[⟨b4,[s2.v],26⟩]]:=hS.sel [1,0,2,3,4,5,6] (by decide)
        have hS51 : St _ _ _ _ ([[⟨b_p_c,[s1.v,(iV t_13.2.at_),(.int .u64 t_13.2.seed.v)],59⟩]]++[q50,[⟨b11,[(iV t_7.1.Level),s8.v,s9.v,(iV t_7.1.Sum)],29⟩],q8,q9,[⟨b5,[(iV 0),nilS.v,nilS.v,(iV 0)],29⟩],[⟨b4,[s2.v],26⟩]]):=hS
        obtain ⟨m51,hl51,hE51,hz51⟩:=hS51.lendX
        refine e_opl rfl rfl rfl fun _ hK=>wp_callX (vs:=[(.pointer (some ⟨b_p_c,0,none⟩)),s50.v]) hF Tryz.func65 (by kernel_rfl) rfl rfl rfl (c_spec_l1Cur_among t_13.2 ([-1,0,6] : List Int) t_52 ht_52 _ m51 b_p_c s1 (h14.mono hl51) s50 (h50.froz hl51 (hz51 0 _ rfl)) _ hE51) fun a w _ hR hF=>hK _ _ ?_
        obtain ⟨rfl,hR51,hk53⟩:=hR
        have hS : St _ _ _ _ [[⟨b_p_c,[s1.v,(iV t_52.2.at_),(.int .u64 t_52.2.seed.v)],59⟩],q50,[⟨b11,[(iV t_7.1.Level),s8.v,s9.v,(iV t_7.1.Sum)],29⟩],q8,q9,[⟨b5,[(iV 0),nilS.v,nilS.v,(iV 0)],29⟩],[⟨b4,[s2.v],26⟩]]:=hS51.leaveF hR51
        have h53 : Rd m s1 t_52.2.code:=by rw [hk53]; exact h14
        refine ⟨kpN,?_⟩
        refine e_one 5 (by kernel_rfl) (e_op rfl rfl fun _ hK=>wp_buildSlice' (l:=([t_52.1] : List Int)) (cells:=[(iV t_52.1)]) hF hS Tryz.underlying24 inf3 rfl rfl (by kernel_rfl) rfl rfl rfl ⟨rfl,rfl⟩ rfl rfl fun a w q54 s54 hF hS h54 hb=>hK _ _ hb (e_one 6 (by kernel_rfl) ?_))
        have hS : St _ _ _ _ [q8,q54,[⟨b_p_c,[s1.v,(iV t_52.2.at_),(.int .u64 t_52.2.seed.v)],59⟩],q50,[⟨b11,[(iV t_7.1.Level),s8.v,s9.v,(iV t_7.1.Sum)],29⟩],q9,[⟨b5,[(iV 0),nilS.v,nilS.v,(iV 0)],29⟩],[⟨b4,[s2.v],26⟩]]:=hS.sel [4,0,1,2,3,5,6,7] (by decide)
        refine e_opl rfl rfl rfl fun _ hK=>wp_append hF hS h8 Tryz.underlying24 inf3 rfl rfl rfl rfl (h54.vw hS (j:=1) rfl) rfl (by decide) hl_55 rfl fun a w q56 s56 hF hS h56=>hK _ _ (⟨kpN,?_⟩)
        refine e_p (v:=(.pointer (some ⟨b11,1,none⟩))) 7 hF rfl (ex_fieldAddr Tryz.underlying29 rfl sz24 rfl rfl) rfl rfl (by kernel_rfl) (by kernel_rfl) (by kernel_rfl) fun a hF=>e_one 8 (by kernel_rfl) (e_store (vs:=[s56.v]) (cs':=[(iV t_7.1.Level),s56.v,s9.v,(iV t_7.1.Sum)]) 4 0 hF hS rfl rfl sz24 rfl rfl rfl rfl rfl rfl rfl rfl fun a w hF hS=>⟨kpN,?_⟩)
        refine e_end (by kernel_rfl) (n_jn ?_) _
        obtain rfl:=someI hj13
        exact ⟨q56,s56,_,_,rfl,hF.sub ⟨rfl,rfl,trivial⟩,hS.sel [0,5,2,4,6] (by decide),h53,(hk53.trans (hk14.trans hk10)),h56,h9⟩
       ·have hS : St _ _ _ _ [[⟨b_p_c,[s1.v,(iV t_13.2.at_),(.int .u64 t_13.2.seed.v)],59⟩],q50,[⟨b11,[(iV t_7.1.Level),s8.v,s9.v,(iV t_7.1.Sum)],29⟩],q8,q9,[⟨b5,[(iV 0),nilS.v,nilS.v,(iV 0)],29⟩],[⟨b4,[s2.v],26⟩]]:=hS.sel [1,0,2,3,4,5,6] (by decide)
        have hS51 : St _ _ _ _ ([[⟨b_p_c,[s1.v,(iV t_13.2.at_),(.int .u64 t_13.2.seed.v)],59⟩]]++[q50,[⟨b11,[(iV t_7.1.Level),s8.v,s9.v,(iV t_7.1.Sum)],29⟩],q8,q9,[⟨b5,[(iV 0),nilS.v,nilS.v,(iV 0)],29⟩],[⟨b4,[s2.v],26⟩]]):=hS
        obtain ⟨m51,hl51,hE51,hz51⟩:=hS51.lendX
        refine e_opl rfl rfl rfl fun _ hK=>wp_callX (vs:=[(.pointer (some ⟨b_p_c,0,none⟩)),s50.v]) hF Tryz.func65 (by kernel_rfl) rfl rfl rfl (c_spec_l1Cur_among t_13.2 ([-1,0,6] : List Int) t_52 ht_52 _ m51 b_p_c s1 (h14.mono hl51) s50 (h50.froz hl51 (hz51 0 _ rfl)) _ hE51) fun a w _ hR hF=>hK _ _ ?_
        obtain ⟨rfl,hR51,hk53⟩:=hR
        have hS : St _ _ _ _ [[⟨b_p_c,[s1.v,(iV t_52.2.at_),(.int .u64 t_52.2.seed.v)],59⟩],q50,[⟨b11,[(iV t_7.1.Level),s8.v,s9.v,(iV t_7.1.Sum)],29⟩],q8,q9,[⟨b5,[(iV 0),nilS.v,nilS.v,(iV 0)],29⟩],[⟨b4,[s2.v],26⟩]]:=hS51.leaveF hR51
        have h53 : Rd m s1 t_52.2.code:=by rw [hk53]; exact h14
        refine ⟨kpN,?_⟩
        refine e_x (v:=s8.v) 1 hF hS rfl (ex_load1 2 0 Tryz.underlying24 rfl rfl rfl rfl) rfl rfl (by kernel_rfl) (by kernel_rfl) (by kernel_rfl) (by kernel_rfl) fun a hF=>e_one 5 (by kernel_rfl) (e_op rfl rfl fun _ hK=>wp_buildSlice' (l:=([t_52.1] : List Int)) (cells:=[(iV t_52.1)]) hF hS Tryz.underlying24 inf3 rfl rfl (by kernel_rfl) rfl rfl rfl ⟨rfl,rfl⟩ rfl rfl fun a w q54 s54 hF hS h54 hb=>hK _ _ hb (e_one 6 (by kernel_rfl) ?_))
        have hS : St _ _ _ _ [q8,q54,[⟨b_p_c,[s1.v,(iV t_52.2.at_),(.int .u64 t_52.2.seed.v)],59⟩],q50,[⟨b11,[(iV t_7.1.Level),s8.v,s9.v,(iV t_7.1.Sum)],29⟩],q9,[⟨b5,[(iV 0),nilS.v,nilS.v,(iV 0)],29⟩],[⟨b4,[s2.v],26⟩]]:=hS.sel [4,0,1,2,3,5,6,7] (by decide)
        refine e_opl rfl rfl rfl fun _ hK=>wp_append hF hS h8 Tryz.underlying24 inf3 rfl rfl rfl rfl (h54.vw hS (j:=1) rfl) rfl (by decide) hl_55 rfl fun a w q56 s56 hF hS h56=>hK _ _ (⟨kpN,?_⟩)
        refine e_p (v:=(.pointer (some ⟨b11,1,none⟩))) 7 hF rfl (ex_fieldAddr Tryz.underlying29 rfl sz24 rfl rfl) rfl rfl (by kernel_rfl) (by kernel_rfl) (by kernel_rfl) fun a hF=>e_one 8 (by kernel_rfl) (e_store (vs:=[s56.v]) (cs':=[(iV t_7.1.Level),s56.v,s9.v,(iV t_7.1.Sum)]) 4 0 hF hS rfl rfl sz24 rfl rfl rfl rfl rfl rfl rfl rfl fun a w hF hS=>⟨kpN,?_⟩)
        refine e_end (by kernel_rfl) (n_jn ?_) _
        obtain rfl:=someI hj13
        exact ⟨q56,s56,_,_,rfl,hF.sub ⟨rfl,rfl,trivial⟩,hS.sel [0,5,2,4,6] (by decide),h53,(hk53.trans (hk14.trans hk10)),h56,h9⟩
     ·rintro a w ⟨q60,s60,p_c_57,t_59,rfl,hF,hS,h58,h58k,h60,h61⟩
      refine n_jn ?_
      obtain rfl:=someI hj3
      exact ⟨q60,s60,q9,s9,_,_,rfl,hF.sub ⟨rfl,rfl,trivial⟩,hS,h58,h58k,h60,h61⟩
   ·rintro a w ⟨q65,s65,q66,s66,p_c_62,t_64,rfl,hF,hS,h63,h63k,h65,h66⟩
    refine n_jn ?_
    obtain rfl:=someI hj1
    exact ⟨q65,s65,q66,s66,_,_,rfl,hF.sub ⟨rfl,rfl,trivial⟩,hS,h63,h63k,h65,h66⟩
  ·have hj1:=cond_t hc2 hj1
   refine q_cond_t hF rfl hc2 (q_region (q_x (v:=(.pointer (some ⟨b_p_c,0,none⟩))) hF hS (ex_move rfl) rfl rfl fun a hF=>q_do rfl fun _ hK=>wp_buildSlice' (l:=([-1,3,4] : List Int)) (cells:=[(iV (-1)),(iV 3),(iV 4)]) hF hS Tryz.underlying24 inf3 rfl rfl (by kernel_rfl) rfl rfl rfl ⟨rfl,rfl,rfl,rfl⟩ rfl rfl fun a w q67 s67 hF hS h67 _=>hK _ _ ?_))
   have hS : St _ _ _ _ [[⟨b_p_c,[s1.v,(iV t_13.2.at_),(.int .u64 t_13.2.seed.v)],59⟩],q67,[⟨b11,[(iV t_7.1.Level),s8.v,s9.v,(iV t_7.1.Sum)],29⟩],q8,q9,[⟨b5,[(iV 0),nilS.v,nilS.v,(iV 0)],29⟩],[⟨b4,[s2.v],26⟩]]:=hS.sel [1,0,2,3,4,5,6] (by decide)
   have hS68 : St _ _ _ _ ([[⟨b_p_c,[s1.v,(iV t_13.2.at_),(.int .u64 t_13.2.seed.v)],59⟩]]++[q67,[⟨b11,[(iV t_7.1.Level),s8.v,s9.v,(iV t_7.1.Sum)],29⟩],q8,q9,[⟨b5,[(iV 0),nilS.v,nilS.v,(iV 0)],29⟩],[⟨b4,[s2.v],26⟩]]):=hS
   obtain ⟨m68,hl68,hE68,hz68⟩:=hS68.lendX
   obtain ⟨t_69,ht_69,hj1⟩:=bindS hj1
   refine q_do rfl fun _ hK=>wp_callX (vs:=[(.pointer (some ⟨b_p_c,0,none⟩)),s67.v]) hF Tryz.func65 (by kernel_rfl) rfl rfl rfl (c_spec_l1Cur_among t_13.2 ([-1,3,4] : List Int) t_69 ht_69 _ m68 b_p_c s1 (h14.mono hl68) s67 (h67.froz hl68 (hz68 0 _ rfl)) _ hE68) fun a w _ hR hF=>hK _ _ ?_
   obtain ⟨rfl,hR68,hk70⟩:=hR
   have hS : St _ _ _ _ [[⟨b_p_c,[s1.v,(iV t_69.2.at_),(.int .u64 t_69.2.seed.v)],59⟩],q67,[⟨b11,[(iV t_7.1.Level),s8.v,s9.v,(iV t_7.1.Sum)],29⟩],q8,q9,[⟨b5,[(iV 0),nilS.v,nilS.v,(iV 0)],29⟩],[⟨b4,[s2.v],26⟩]]:=hS68.leaveF hR68
   have h70 : Rd m s1 t_69.2.code:=by rw [hk70]; exact h14
   refine q_x (v:=(.pointer (some ⟨b11,0,none⟩))) hF hS (ex_fieldAddr Tryz.underlying29 rfl sz3 rfl rfl) rfl rfl fun a hF=>q_store (vs:=[(iV t_69.1)]) (cs':=[(iV t_69.1),s8.v,s9.v,(iV t_7.1.Sum)]) 2 0 hF hS sz3 rfl rfl rfl rfl rfl rfl rfl rfl fun a w hF hS=>q_end (n_jn ?_)
   obtain rfl:=someI hj1
   exact ⟨q8,s8,q9,s9,_,_,rfl,hF.sub ⟨rfl,rfl,trivial⟩,hS.sel [3,4,0,2,5] (by decide),h70,(hk70.trans (hk14.trans hk10)),h8,h9⟩
 ·rintro a w ⟨q74,s74,q75,s75,p_c_71,t_73,rfl,hF,hS,h72,h72k,h74,h75⟩
  refine n_ib (n_sq ?_)
  refine q_seq (q_region (q_x (v:=(.agg #[(iV t_73.Level),s74.v,s75.v,(iV t_73.Sum)])) hF hS (ex_loadA (vs:=[(iV t_73.Level),s74.v,s75.v,(iV t_73.Sum)]) 3 0 Tryz.underlying29 rfl sz29 rfl rfl rfl rfl) rfl rfl fun a hF=>q_store (vs:=[(iV t_73.Level),s74.v,s75.v,(iV t_73.Sum)]) (cs':=[(iV t_73.Level),s74.v,s75.v,(iV t_73.Sum)]) 4 0 hF hS sz29 rfl rfl rfl rfl rfl rfl rfl rfl fun a w hF hS=>q_end (n_sq (q_ret ?_))))
  obtain rfl:=someI hr
  exact ret_ofX hF hS rfl (.cellA (us:=[(iV t_73.Level),s74.v,s75.v,(iV t_73.Sum)]) 4 0 Tryz.underlying29 rfl sz29 rfl rfl rfl rfl .nil) ⟨q74,q75,s74,s75,rfl,hS.sel [2,0,1] (by decide),h74,h75,h72k⟩

theorem c_spec_DrawTableText (p_code : List (K .u8)) (r : impl_Geo × (List impl_Variable) × impl_Table) (hr : spec_DrawTableText p_code = some r) (w0 : World) (m : Mem) (hv : Vis m w0) (s1 : Sl) (h1 : Rd m s1 p_code) :
  Ret Tryz.prog 6 [s1.v] w0 (fun v w=>∃ (m' : Mem) (q0' : Piece) (q2' : Piece) (q3' : Piece) (s0' : Sl) (s1' : Sl) (s2' : Sl) (s3' : Sl),v = (.tuple #[(.agg #[s0'.v]),s1'.v,(.agg #[(iV r.2.2.Level),s2'.v,s3'.v,(iV r.2.2.Sum)])])∧MLe [] w0.heap.size m m'∧St [] w0 w m' [q0',q2',q3']∧OwnL m' 3 q0' s0' r.1.Parents∧Rd m' s1' r.2.1∧OwnL m' 3 q2' s2' r.2.2.Vars∧OwnL m' 3 q3' s3' r.2.2.Where):=by
 unfold spec_DrawTableText at hr
 refine ret_start Tryz.func6 rfl 24 rfl rfl m hv fun a hF hS=>q_seq (q_region (q_alloc (cs:=[nilS.v]) hF hS rfl rfl rfl fun a w b2 hF hS=>q_x (v:=nilS.v) hF hS (ex_assign rfl) rfl rfl fun a hF=>q_alloc (cs:=[(iV 0),nilS.v,nilS.v,(iV 0)]) hF hS rfl rfl rfl fun a w b3 hF hS=>q_end (n_sq (q_seq (q_region (q_x (v:=s1.v) hF hS (ex_move rfl) rfl rfl fun a hF=>q_x (v:=(.agg #[s1.v,(iV 0),(.int .u64 0)])) hF hS (ex_build (cells:=[s1.v,(iV 0),(.int .u64 0)]) rfl (by kernel_rfl)) rfl rfl fun a hF=>q_box (cs:=[s1.v,(iV 0),(.int .u64 0)]) hF hS rfl rfl rfl fun a w b4 hF hS=>q_x (v:=(.pointer (some ⟨b4,0,none⟩))) hF hS (ex_assign rfl) rfl rfl fun a hF=>q_end (n_sq (q_seq (q_region (q_x (v:=(.pointer (some ⟨b4,0,none⟩))) hF hS (ex_move rfl) rfl rfl fun a hF=>?_))))))))))
 have hS5 : St _ _ _ _ ([[⟨b4,[s1.v,(iV 0),(.int .u64 0)],59⟩]]++[[⟨b3,[(iV 0),nilS.v,nilS.v,(iV 0)],29⟩],[⟨b2,[nilS.v],26⟩]]):=hS
 have hE5:=hS5.enter
 obtain ⟨t_6,ht_6,hr⟩:=bindS hr
 refine q_do rfl fun _ hK=>wp_callX (vs:=[(.pointer (some ⟨b4,0,none⟩))]) hF Tryz.func28 (by kernel_rfl) rfl rfl rfl (c_spec_l1Cur_anySurvey (spec_l1Cur.mk p_code 0 (⟨0⟩ : K .u64)) t_6 ht_6 _ m b4 s1 h1 _ hE5) fun a w _ hR hF=>hK _ _ ?_
 obtain ⟨m5',q7,q9,s7,s8,s9,rfl,hm5,hR5,h7,h8,h9,hk10⟩:=hR
 have hS : St _ _ _ _ [[⟨b4,[s1.v,(iV t_6.2.2.2.at_),(.int .u64 t_6.2.2.2.seed.v)],59⟩],q7,q9,[⟨b3,[(iV 0),nilS.v,nilS.v,(iV 0)],29⟩],[⟨b2,[nilS.v],26⟩]]:=hS5.leave hR5 hm5
 have hm5:=MLe.weakX hS5 hm5
 have h10 : Rd m5' s1 t_6.2.2.2.code:=by rw [hk10]; exact (h1.mono hm5.le)
 refine q_x (v:=(.tuple #[(.agg #[s7.v]),s8.v,s9.v])) hF hS (ex_move rfl) rfl rfl fun a hF=>q_x (v:=(.agg #[s7.v])) hF hS (ex_extract rfl rfl) rfl rfl fun a hF=>q_x (v:=s8.v) hF hS (ex_extract rfl rfl) rfl rfl fun a hF=>q_x (v:=s9.v) hF hS (ex_extract rfl rfl) rfl rfl fun a hF=>q_alloc (cs:=[nilS.v]) hF hS rfl rfl rfl fun a w b11 hF hS=>q_store (vs:=[s7.v]) (cs':=[s7.v]) 0 0 hF hS sz26 rfl rfl rfl rfl rfl rfl rfl rfl fun a w hF hS=>q_x (v:=s8.v) hF hS (ex_assign rfl) rfl rfl fun a hF=>q_x (v:=s9.v) hF hS (ex_assign rfl) rfl rfl fun a hF=>q_end (n_sq (q_seq (e_region ⟨[5,6,8],[b11]⟩ mixed fun w' hw'=>?_)))
 have hS:=hS.below hw'
 refine e_xb (v:=(.agg #[s7.v])) 0 0 hF hS (.head _) rfl rfl (ex_loadA (vs:=[s7.v]) 0 0 Tryz.underlying26 rfl sz26 rfl rfl rfl rfl) rfl rfl (by kernel_rfl) (by kernel_rfl) (by kernel_rfl) fun a hF=>e_p (v:=s8.v) 1 hF rfl (ex_move rfl) rfl rfl (by kernel_rfl) (by kernel_rfl) (by kernel_rfl) fun a hF=>e_p (v:=(.pointer (some ⟨b4,0,none⟩))) 2 hF rfl (ex_move rfl) rfl rfl (by kernel_rfl) (by kernel_rfl) (by kernel_rfl) fun a hF=>e_xb (v:=(.agg #[s7.v])) 3 0 hF hS (.head _) rfl rfl (ex_loadA (vs:=[s7.v]) 0 0 Tryz.underlying26 rfl sz26 rfl rfl rfl rfl) rfl rfl (by kernel_rfl) (by kernel_rfl) (by kernel_rfl) fun a hF=>e_p (v:=s8.v) 4 hF rfl (ex_move rfl) rfl rfl (by kernel_rfl) (by kernel_rfl) (by kernel_rfl) fun a hF=>e_one 5 (by kernel_rfl) ?_
 have hS : St _ _ _ _ [[⟨b4,[s1.v,(iV t_6.2.2.2.at_),(.int .u64 t_6.2.2.2.seed.v)],59⟩],[⟨b11,[s7.v],26⟩],q7,q9,[⟨b3,[(iV 0),nilS.v,nilS.v,(iV 0)],29⟩],[⟨b2,[nilS.v],26⟩]]:=hS.sel [1,0,2,3,4,5] (by decide)
 have hS12 : St _ _ _ _ ([[⟨b4,[s1.v,(iV t_6.2.2.2.at_),(.int .u64 t_6.2.2.2.seed.v)],59⟩]]++[[⟨b11,[s7.v],26⟩],q7,q9,[⟨b3,[(iV 0),nilS.v,nilS.v,(iV 0)],29⟩],[⟨b2,[nilS.v],26⟩]]):=hS
 obtain ⟨m12,hl12,hE12,hz12⟩:=hS12.lendX
 obtain ⟨t_13,ht_13,hr⟩:=bindS hr
 have hSo:=hS
 refine e_opl rfl rfl rfl fun _ hK=>wp_callX (vs:=[(.pointer (some ⟨b4,0,none⟩)),(.agg #[s7.v]),s8.v]) hF Tryz.func29 (by kernel_rfl) rfl rfl rfl (c_spec_l1Cur_anyTable t_6.2.2.2 t_6.1 t_6.2.1 t_13 ht_13 _ m12 b4 s1 (h10.mono hl12) s7 (h7.froz hl12 (hz12 1 _ rfl)) s8 (h8.mono hl12) _ hE12) fun a w _ hR hF=>hK _ _ ?_
 obtain ⟨q14,q15,s14,s15,rfl,hR12,h14,h15,hk16⟩:=hR
 have hS : St _ _ _ _ [[⟨b4,[s1.v,(iV t_13.2.at_),(.int .u64 t_13.2.seed.v)],59⟩],q14,q15,[⟨b11,[s7.v],26⟩],q7,q9,[⟨b3,[(iV 0),nilS.v,nilS.v,(iV 0)],29⟩],[⟨b2,[nilS.v],26⟩]]:=hS12.leaveF hR12
 have h14:=h14.any m5'
 have h15:=h15.any m5'
 have h16 : Rd m5' s1 t_13.2.code:=by rw [hk16]; exact h10
 refine ⟨kpC hSo hS 1 3 rfl rfl kpN,?_⟩
 refine e_one 6 (by kernel_rfl) ?_
 have hSo:=hS
 refine e_store (vs:=[s7.v]) (cs':=[s7.v]) 7 0 hF hS rfl rfl sz26 rfl rfl rfl rfl rfl rfl rfl rfl fun a w hF hS=>⟨kpC hSo hS 3 3 rfl rfl kpN,?_⟩
 refine e_p (v:=s8.v) 7 hF rfl (ex_assign rfl) rfl rfl (by kernel_rfl) (by kernel_rfl) (by kernel_rfl) fun a hF=>e_one 8 (by kernel_rfl) ?_
 have hSo:=hS
 refine e_store (vs:=[(iV t_13.1.Level),s14.v,s15.v,(iV t_13.1.Sum)]) (cs':=[(iV t_13.1.Level),s14.v,s15.v,(iV t_13.1.Sum)]) 6 0 hF hS rfl rfl sz29 rfl rfl rfl rfl rfl rfl rfl rfl fun a w hF hS=>⟨kpC hSo hS 3 3 rfl rfl kpN,?_⟩
 refine e_end (by kernel_rfl) (n_sq (q_ret ?_)) _
 obtain rfl:=someI hr
 exact ret_of hF hS rfl (.cellA (us:=[s7.v]) 7 0 Tryz.underlying26 rfl sz26 rfl rfl rfl rfl (.tmp rfl (.cellA (us:=[(iV t_13.1.Level),s14.v,s15.v,(iV t_13.1.Sum)]) 6 0 Tryz.underlying29 rfl sz29 rfl rfl rfl rfl .nil))) ⟨m5',q7,q14,q15,s7,s8,s14,s15,rfl,hm5,hS.sel [4,1,2] (by decide),h7,h8,h14,h15⟩

theorem c_impl_IsGeo (p_g : impl_Geo) (r : Bool) (hr : impl_IsGeo p_g = some r) (w0 : World) (m : Mem) (hv : Vis m w0) (s1 : Sl) (h1 : Rd m s1 p_g.Parents) :
  Ret Tryz.prog 34 [(.agg #[s1.v])] w0 (fun v _=>v = (.bool r)):=by
 unfold impl_IsGeo at hr
 refine ret_start Tryz.func34 rfl 43 rfl rfl m hv fun a hF hS=>q_seq (q_region (q_box (cs:=[s1.v]) hF hS rfl rfl rfl fun a w b2 hF hS=>q_x (v:=(.bool false)) hF hS (ex_assign rfl) rfl rfl fun a hF=>q_end (n_sq (q_seq (q_seq ?_)))))
 obtain ⟨t_5,hj1,hr⟩:=bindS hr
 refine q_join (fun a w=>Fr a 43 [(1,(.pointer (some ⟨b2,0,none⟩))),(20,(.bool t_5))]∧St [] w0 w m [[⟨b2,[s1.v],26⟩]]) ?_ ?_
 ·refine q_region (q_x (v:=(.pointer (some ⟨b2,0,none⟩))) hF hS (ex_fieldAddr Tryz.underlying26 rfl sz24 rfl rfl) rfl rfl fun a hF=>q_x (v:=s1.v) hF hS (ex_load1 0 0 Tryz.underlying24 rfl rfl rfl rfl) rfl rfl fun a hF=>q_x (v:=(iV (goLen p_g.Parents))) hF hS (ex_len Tryz.underlying24 rfl h1.len) rfl rfl fun a hF=>q_x (v:=(.bool (decide ((goLen p_g.Parents) < 1)))) hF hS (ex_ibin rfl rfl rfl) rfl rfl fun a hF=>q_x (v:=(.bool (decide ((goLen p_g.Parents) < 1)))) hF hS (ex_move rfl) rfl rfl fun a hF=>?_)
  rcases bcase (decide ((goLen p_g.Parents) < 1)) with hc2 | hc2
  ·have hj1:=cond_f hc2 hj1
   refine q_xg (v:=(.pointer (some ⟨b2,0,none⟩))) hF hS (ex_fieldAddr Tryz.underlying26 rfl sz24 rfl rfl) (wanted_t hF rfl rfl rfl hc2) rfl fun a hF=>q_xg (v:=s1.v) hF hS (ex_load1 0 0 Tryz.underlying24 rfl rfl rfl rfl) (wanted_t hF rfl rfl rfl hc2) rfl fun a hF=>q_xg (v:=(iV (goLen p_g.Parents))) hF hS (ex_len Tryz.underlying24 rfl h1.len) (wanted_t hF rfl rfl rfl hc2) rfl fun a hF=>q_xg (v:=(.bool (decide (30 < (goLen p_g.Parents))))) hF hS (ex_ibin rfl rfl rfl) (wanted_t hF rfl rfl rfl hc2) rfl fun a hF=>q_x (v:=(.bool (decide (30 < (goLen p_g.Parents))))) hF hS (ex_pick_f rfl rfl hc2) rfl rfl fun a hF=>q_x (v:=(.bool (decide (30 < (goLen p_g.Parents))))) hF hS (ex_move rfl) rfl rfl fun a hF=>?_
   rcases bcase (decide (30 < (goLen p_g.Parents))) with hc3 | hc3
   ·have hj1:=cond_f hc3 hj1
    refine q_xg (v:=(.pointer (some ⟨b2,0,none⟩))) hF hS (ex_fieldAddr Tryz.underlying26 rfl sz24 rfl rfl) (wanted_t hF rfl rfl rfl hc3) rfl fun a hF=>q_xg (v:=s1.v) hF hS (ex_load1 0 0 Tryz.underlying24 rfl rfl rfl rfl) (wanted_t hF rfl rfl rfl hc3) rfl fun a hF=>?_
    obtain ⟨e_3,he_3,hj1⟩:=bindS hj1
    obtain ⟨vs4,at4,d4⟩:=h1.at he_3 1 rfl
    obtain rfl : vs4 = [(iV e_3)]:=d4
    refine q_xg (v:=(elP s1 ((0 : Int).toNat * 1))) hF hS (ex_indexAddr Tryz.underlying24 sz3 rfl rfl (h1.idx he_3)) (wanted_t hF rfl rfl rfl hc3) rfl fun a hF=>q_xg (v:=(iV e_3)) hF hS (ex_loadE1 0 Tryz.underlying3 rfl rfl ((at4).at) rfl rfl) (wanted_t hF rfl rfl rfl hc3) rfl fun a hF=>q_xg (v:=(.bool (e_3 != (-1)))) hF hS (ex_ibin rfl rfl rfl) (wanted_t hF rfl rfl rfl hc3) rfl fun a hF=>q_x (v:=(.bool (e_3 != (-1)))) hF hS (ex_pick_f rfl rfl hc3) rfl rfl fun a hF=>q_end (n_jn ?_)
    obtain rfl:=someI hj1
    exact ⟨hF.sub ⟨rfl,rfl,trivial⟩,hS⟩
   ·have hj1:=cond_t hc3 hj1
    refine q_skip hF (wanted_f hF rfl rfl rfl hc3 rfl) rfl fun a hF=>q_skip hF (wanted_f hF rfl rfl rfl hc3 rfl) rfl fun a hF=>q_skip hF (wanted_f hF rfl rfl rfl hc3 rfl) rfl fun a hF=>q_skip hF (wanted_f hF rfl rfl rfl hc3 rfl) rfl fun a hF=>q_skip hF (wanted_f hF rfl rfl rfl hc3 rfl) rfl fun a hF=>q_x (v:=(.bool true)) hF hS (ex_pick_t rfl rfl hc3) rfl rfl fun a hF=>q_end (n_jn ?_)
    obtain rfl:=someI hj1
    exact ⟨hF.sub ⟨rfl,rfl,trivial⟩,hS⟩
  ·have hj1:=cond_t hc2 hj1
   refine q_skip hF (wanted_f hF rfl rfl rfl hc2 rfl) rfl fun a hF=>q_skip hF (wanted_f hF rfl rfl rfl hc2 rfl) rfl fun a hF=>q_skip hF (wanted_f hF rfl rfl rfl hc2 rfl) rfl fun a hF=>q_skip hF (wanted_f hF rfl rfl rfl hc2 rfl) rfl fun a hF=>q_x (v:=(.bool true)) hF hS (ex_pick_t rfl rfl hc2) rfl rfl fun a hF=>q_x (v:=(.bool true)) hF hS (ex_move rfl) rfl rfl fun a hF=>q_skip hF (wanted_f hF rfl rfl rfl rfl rfl) rfl fun a hF=>q_skip hF (wanted_f hF rfl rfl rfl rfl rfl) rfl fun a hF=>q_skip hF (wanted_f hF rfl rfl rfl rfl rfl) rfl fun a hF=>q_skip hF (wanted_f hF rfl rfl rfl rfl rfl) rfl fun a hF=>q_skip hF (wanted_f hF rfl rfl rfl rfl rfl) rfl fun a hF=>q_x (v:=(.bool true)) hF hS (ex_pick_t rfl rfl rfl) rfl rfl fun a hF=>q_end (n_jn ?_)
   obtain rfl:=someI hj1
   exact ⟨hF.sub ⟨rfl,rfl,trivial⟩,hS⟩
 ·rintro a w ⟨hF,hS⟩
  refine n_sq ?_
  rcases bcase (t_5) with hc4 | hc4
  ·have hr:=cond_f hc4 hr
   refine q_cond_f hF rfl hc4 (q_skipc (n_sq (q_seq (q_seq (q_region (q_x (v:=(iV 1)) hF hS (ex_assign rfl) rfl rfl fun a hF=>q_end (n_sq (q_block ?_))))))))
   obtain ⟨o5,hl5,hr⟩:=bindS hr
   refine q_loop (fun (i_6 : Int) a w=>Fr a 43 [(1,(.pointer (some ⟨b2,0,none⟩))),(3,(iV i_6))]∧St [] w0 w m [[⟨b2,[s1.v],26⟩]]) (fun (o : (Unit) ⊕ (Bool)) e a w=>o = .inl ()∧e = .exit 0∧Fr a 43 []∧St [] w0 w m []) hl5 ⟨hF.sub ⟨rfl,rfl,trivial⟩,hS⟩ ?_ ?_
   ·clear hF hS
    rintro i_6 a w st ⟨hF,hS⟩ hb5
    unfold impl_IsGeo_l1 at hb5
    refine q_seq (q_seq (q_region (q_x (v:=(iV i_6)) hF hS (ex_move rfl) rfl rfl fun a hF=>q_x (v:=(.pointer (some ⟨b2,0,none⟩))) hF hS (ex_fieldAddr Tryz.underlying26 rfl sz24 rfl rfl) rfl rfl fun a hF=>q_x (v:=s1.v) hF hS (ex_load1 0 0 Tryz.underlying24 rfl rfl rfl rfl) rfl rfl fun a hF=>q_x (v:=(iV (goLen p_g.Parents))) hF hS (ex_len Tryz.underlying24 rfl h1.len) rfl rfl fun a hF=>q_x (v:=(.bool (decide (i_6 < (goLen p_g.Parents))))) hF hS (ex_ibin rfl rfl rfl) rfl rfl fun a hF=>q_end (n_sq ?_))))
    rcases bcase (decide (i_6 < (goLen p_g.Parents))) with hc6 | hc6
    ·have hb5:=cond_f hc6 hb5
     refine q_cond_f hF rfl hc6 (q_exit (x_sq ?_))
     obtain rfl:=someI hb5
     exact ⟨nofun,.inl ⟨rfl,rfl,hF.sub trivial,hS.mask [false]⟩⟩
    ·have hb5:=cond_t hc6 hb5
     refine q_cond_t hF rfl hc6 (q_skipc (n_sq (q_seq (q_block (q_seq ?_)))))
     obtain ⟨t_11,hj7,hb5⟩:=bindS hb5
     refine q_join (fun a w=>Fr a 43 [(1,(.pointer (some ⟨b2,0,none⟩))),(3,(iV i_6)),(42,(.bool t_11))]∧St [] w0 w m [[⟨b2,[s1.v],26⟩]]) ?_ ?_
     ·refine q_region (q_x (v:=(.pointer (some ⟨b2,0,none⟩))) hF hS (ex_fieldAddr Tryz.underlying26 rfl sz24 rfl rfl) rfl rfl fun a hF=>q_x (v:=s1.v) hF hS (ex_load1 0 0 Tryz.underlying24 rfl rfl rfl rfl) rfl rfl fun a hF=>q_x (v:=(iV i_6)) hF hS (ex_move rfl) rfl rfl fun a hF=>?_)
      obtain ⟨e_7,he_7,hj7⟩:=bindS hj7
      obtain ⟨vs8,at8,d8⟩:=h1.at he_7 1 rfl
      obtain rfl : vs8 = [(iV e_7)]:=d8
      refine q_x (v:=(elP s1 (i_6.toNat * 1))) hF hS (ex_indexAddr Tryz.underlying24 sz3 rfl rfl (h1.idx he_7)) rfl rfl fun a hF=>q_x (v:=(iV e_7)) hF hS (ex_loadE1 0 Tryz.underlying3 rfl rfl ((at8).at) rfl rfl) rfl rfl fun a hF=>q_x (v:=(.bool (decide (e_7 < 0)))) hF hS (ex_ibin rfl rfl rfl) rfl rfl fun a hF=>q_x (v:=(.bool (decide (e_7 < 0)))) hF hS (ex_move rfl) rfl rfl fun a hF=>?_
      rcases bcase (decide (e_7 < 0)) with hc8 | hc8
      ·have hj7:=cond_f hc8 hj7
       refine q_xg (v:=(.pointer (some ⟨b2,0,none⟩))) hF hS (ex_fieldAddr Tryz.underlying26 rfl sz24 rfl rfl) (wanted_t hF rfl rfl rfl hc8) rfl fun a hF=>q_xg (v:=s1.v) hF hS (ex_load1 0 0 Tryz.underlying24 rfl rfl rfl rfl) (wanted_t hF rfl rfl rfl hc8) rfl fun a hF=>q_xg (v:=(iV i_6)) hF hS (ex_move rfl) (wanted_t hF rfl rfl rfl hc8) rfl fun a hF=>?_
       obtain ⟨e_9,he_9,hj7⟩:=bindS hj7
       obtain ⟨vs10,at10,d10⟩:=h1.at he_9 1 rfl
       obtain rfl : vs10 = [(iV e_9)]:=d10
       refine q_xg (v:=(elP s1 (i_6.toNat * 1))) hF hS (ex_indexAddr Tryz.underlying24 sz3 rfl rfl (h1.idx he_9)) (wanted_t hF rfl rfl rfl hc8) rfl fun a hF=>q_xg (v:=(iV e_9)) hF hS (ex_loadE1 0 Tryz.underlying3 rfl rfl ((at10).at) rfl rfl) (wanted_t hF rfl rfl rfl hc8) rfl fun a hF=>q_xg (v:=(iV i_6)) hF hS (ex_move rfl) (wanted_t hF rfl rfl rfl hc8) rfl fun a hF=>q_xg (v:=(.bool (decide (i_6 ≤ e_9)))) hF hS (ex_ibin rfl rfl rfl) (wanted_t hF rfl rfl rfl hc8) rfl fun a hF=>q_x (v:=(.bool (decide (i_6 ≤ e_9)))) hF hS (ex_pick_f rfl rfl hc8) rfl rfl fun a hF=>q_end (n_jn ?_)
       obtain rfl:=someI hj7
       exact ⟨hF.sub ⟨rfl,rfl,rfl,trivial⟩,hS⟩
      ·have hj7:=cond_t hc8 hj7
       refine q_skip hF (wanted_f hF rfl rfl rfl hc8 rfl) rfl fun a hF=>q_skip hF (wanted_f hF rfl rfl rfl hc8 rfl) rfl fun a hF=>q_skip hF (wanted_f hF rfl rfl rfl hc8 rfl) rfl fun a hF=>q_skip hF (wanted_f hF rfl rfl rfl hc8 rfl) rfl fun a hF=>q_skip hF (wanted_f hF rfl rfl rfl hc8 rfl) rfl fun a hF=>q_skip hF (wanted_f hF rfl rfl rfl hc8 rfl) rfl fun a hF=>q_skip hF (wanted_f hF rfl rfl rfl hc8 rfl) rfl fun a hF=>q_x (v:=(.bool true)) hF hS (ex_pick_t rfl rfl hc8) rfl rfl fun a hF=>q_end (n_jn ?_)
       obtain rfl:=someI hj7
       exact ⟨hF.sub ⟨rfl,rfl,rfl,trivial⟩,hS⟩
     ·rintro a w ⟨hF,hS⟩
      refine n_sq ?_
      rcases bcase (t_11) with hc9 | hc9
      ·have hb5:=cond_f hc9 hb5
       refine q_cond_f hF rfl hc9 (q_skipc (n_ib (n_sq (q_region (q_x (v:=(iV i_6)) hF hS (ex_move rfl) rfl rfl fun a hF=>q_x (v:=(iV (w64 (i_6 + 1)))) hF hS (ex_ibin rfl rfl rfl) rfl rfl fun a hF=>q_x (v:=(iV (w64 (i_6 + 1)))) hF hS (ex_assign rfl) rfl rfl fun a hF=>q_end ?_)))))
       obtain rfl:=someI hb5
       exact ⟨rfl,hF.sub ⟨rfl,rfl,trivial⟩,hS⟩
      ·have hb5:=cond_t hc9 hb5
       refine q_cond_t hF rfl hc9 (q_seq (q_region (q_x (v:=(.bool false)) hF hS (ex_assign rfl) rfl rfl fun a hF=>q_end (n_sq (q_ret (r_ib (r_sq ?_)))))))
       obtain rfl:=someI hb5
       refine ⟨nofun,.inr fun ho=>?_⟩
       subst ho
       refine r_ib (r_sq ?_)
       obtain rfl:=someI hr
       exact ret_of hF hS rfl (.tmp rfl .nil) rfl
   ·rintro e a w ⟨rfl,rfl,hF,hS⟩
    refine x_ib (n_sq ?_)
    refine q_seq (q_region (q_x (v:=(.bool true)) hF hS (ex_assign rfl) rfl rfl fun a hF=>q_end (n_sq (q_ret ?_))))
    obtain rfl:=someI hr
    exact ret_of hF hS rfl (.tmp rfl .nil) rfl
  ·have hr:=cond_t hc4 hr
   refine q_cond_t hF rfl hc4 (q_seq (q_region (q_x (v:=(.bool false)) hF hS (ex_assign rfl) rfl rfl fun a hF=>q_end (n_sq (q_ret (r_sq ?_))))))
   obtain rfl:=someI hr
   exact ret_of hF hS rfl (.tmp rfl .nil) rfl

theorem c_impl_isWord (p_s : List UInt8) (r : Bool) (hr : impl_isWord p_s = some r) (w0 : World) (m : Mem) (hv : Vis m w0) :
  Ret Tryz.prog 80 [(strV p_s)] w0 (fun v _=>v = (.bool r)):=by
 unfold impl_isWord at hr
 refine ret_start Tryz.func80 rfl 28 rfl rfl m hv fun a hF hS=>q_seq (q_region (q_x (v:=(.bool false)) hF hS (ex_assign rfl) rfl rfl fun a hF=>q_end (n_sq (q_seq (q_seq ?_)))))
 obtain ⟨t_1,hj1,hr⟩:=bindS hr
 refine q_join (fun a w=>Fr a 28 [(0,(strV p_s)),(11,(.bool t_1))]∧St [] w0 w m []) ?_ ?_
 ·refine q_region (q_x (v:=(strV p_s)) hF hS (ex_move rfl) rfl rfl fun a hF=>q_x (v:=(iV (goLen p_s))) hF hS (ex_strLen Tryz.underlying9 rfl) rfl rfl fun a hF=>q_x (v:=(.bool (decide ((goLen p_s) < 1)))) hF hS (ex_ibin rfl rfl rfl) rfl rfl fun a hF=>q_x (v:=(.bool (decide ((goLen p_s) < 1)))) hF hS (ex_move rfl) rfl rfl fun a hF=>?_)
  rcases bcase (decide ((goLen p_s) < 1)) with hc2 | hc2
  ·have hj1:=cond_f hc2 hj1
   refine q_xg (v:=(strV p_s)) hF hS (ex_move rfl) (wanted_t hF rfl rfl rfl hc2) rfl fun a hF=>q_xg (v:=(iV (goLen p_s))) hF hS (ex_strLen Tryz.underlying9 rfl) (wanted_t hF rfl rfl rfl hc2) rfl fun a hF=>q_xg (v:=(.bool (decide (8 < (goLen p_s))))) hF hS (ex_ibin rfl rfl rfl) (wanted_t hF rfl rfl rfl hc2) rfl fun a hF=>q_x (v:=(.bool (decide (8 < (goLen p_s))))) hF hS (ex_pick_f rfl rfl hc2) rfl rfl fun a hF=>q_end (n_jn ?_)
   obtain rfl:=someI hj1
   exact ⟨hF.sub ⟨rfl,rfl,trivial⟩,hS⟩
  ·have hj1:=cond_t hc2 hj1
   refine q_skip hF (wanted_f hF rfl rfl rfl hc2 rfl) rfl fun a hF=>q_skip hF (wanted_f hF rfl rfl rfl hc2 rfl) rfl fun a hF=>q_skip hF (wanted_f hF rfl rfl rfl hc2 rfl) rfl fun a hF=>q_x (v:=(.bool true)) hF hS (ex_pick_t rfl rfl hc2) rfl rfl fun a hF=>q_end (n_jn ?_)
   obtain rfl:=someI hj1
   exact ⟨hF.sub ⟨rfl,rfl,trivial⟩,hS⟩
 ·rintro a w ⟨hF,hS⟩
  refine n_sq ?_
  rcases bcase (t_1) with hc3 | hc3
  ·have hr:=cond_f hc3 hr
   refine q_cond_f hF rfl hc3 (q_skipc (n_sq (q_seq (q_seq (q_region (q_x (v:=(strV p_s)) hF hS (ex_move rfl) rfl rfl fun a hF=>q_x (v:=(iV (goLen p_s))) hF hS (ex_strLen Tryz.underlying9 rfl) rfl rfl fun a hF=>q_x (v:=(iV 0)) hF hS (ex_move rfl) rfl rfl fun a hF=>q_end (n_sq (q_block ?_))))))))
   obtain ⟨o4,hl4,hr⟩:=bindS hr
   refine q_loop (fun (t_2 : Int) a w=>Fr a 28 [(0,(strV p_s)),(13,(iV (goLen p_s))),(14,(iV t_2))]∧St [] w0 w m []) (fun (o : (Unit) ⊕ (Bool)) e a w=>o = .inl ()∧e = .exit 0∧Fr a 28 []∧St [] w0 w m []) hl4 ⟨hF.sub ⟨rfl,rfl,rfl,trivial⟩,hS⟩ ?_ ?_
   ·clear hF hS
    rintro t_2 a w st ⟨hF,hS⟩ hb4
    unfold impl_isWord_l1 at hb4
    refine q_seq (q_region (q_x (v:=(.bool (decide (t_2 < (goLen p_s))))) hF hS (ex_ibin rfl rfl rfl) rfl rfl fun a hF=>q_end (n_sq (q_seq ?_))))
    rcases bcase (decide (t_2 < (goLen p_s))) with hc5 | hc5
    ·have hb4:=cond_f hc5 hb4
     refine q_cond_f hF rfl hc5 (q_exit (x_sq ?_))
     obtain rfl:=someI hb4
     exact ⟨nofun,.inl ⟨rfl,rfl,hF.sub trivial,hS⟩⟩
    ·have hb4:=cond_t hc5 hb4
     refine q_cond_t hF rfl hc5 (q_skipc (n_sq (q_seq (q_block (q_seq (q_region (q_x (v:=(iV t_2)) hF hS (ex_move rfl) rfl rfl fun a hF=>q_x (v:=(iV t_2)) hF hS (ex_assign rfl) rfl rfl fun a hF=>q_end (n_sq (q_seq ?_)))))))))
     obtain ⟨t_5,hj6,hb4⟩:=bindS hb4
     refine q_join (fun a w=>Fr a 28 [(0,(strV p_s)),(13,(iV (goLen p_s))),(14,(iV t_2)),(26,(.bool t_5))]∧St [] w0 w m []) ?_ ?_
     ·refine q_region (q_x (v:=(strV p_s)) hF hS (ex_move rfl) rfl rfl fun a hF=>q_x (v:=(iV t_2)) hF hS (ex_move rfl) rfl rfl fun a hF=>?_)
      obtain ⟨t_3,ht_3,hj6⟩:=bindS hj6
      refine q_x (v:=(.int .u8 t_3)) hF hS (ex_strIdx Tryz.underlying9 rfl rfl ht_3) rfl rfl fun a hF=>q_x (v:=(.bool (decide (t_3 < 97)))) hF hS (ex_ibin rfl rfl rfl) rfl rfl fun a hF=>q_x (v:=(.bool (decide (t_3 < 97)))) hF hS (ex_move rfl) rfl rfl fun a hF=>?_
      rcases bcase (decide (t_3 < 97)) with hc7 | hc7
      ·have hj6:=cond_f hc7 hj6
       refine q_xg (v:=(strV p_s)) hF hS (ex_move rfl) (wanted_t hF rfl rfl rfl hc7) rfl fun a hF=>q_xg (v:=(iV t_2)) hF hS (ex_move rfl) (wanted_t hF rfl rfl rfl hc7) rfl fun a hF=>?_
       obtain ⟨t_4,ht_4,hj6⟩:=bindS hj6
       refine q_xg (v:=(.int .u8 t_4)) hF hS (ex_strIdx Tryz.underlying9 rfl rfl ht_4) (wanted_t hF rfl rfl rfl hc7) rfl fun a hF=>q_xg (v:=(.bool (decide (122 < t_4)))) hF hS (ex_ibin rfl rfl rfl) (wanted_t hF rfl rfl rfl hc7) rfl fun a hF=>q_x (v:=(.bool (decide (122 < t_4)))) hF hS (ex_pick_f rfl rfl hc7) rfl rfl fun a hF=>q_end (n_jn ?_)
       obtain rfl:=someI hj6
       exact ⟨hF.sub ⟨rfl,rfl,rfl,rfl,trivial⟩,hS⟩
      ·have hj6:=cond_t hc7 hj6
       refine q_skip hF (wanted_f hF rfl rfl rfl hc7 rfl) rfl fun a hF=>q_skip hF (wanted_f hF rfl rfl rfl hc7 rfl) rfl fun a hF=>q_skip hF (wanted_f hF rfl rfl rfl hc7 rfl) rfl fun a hF=>q_skip hF (wanted_f hF rfl rfl rfl hc7 rfl) rfl fun a hF=>q_x (v:=(.bool true)) hF hS (ex_pick_t rfl rfl hc7) rfl rfl fun a hF=>q_end (n_jn ?_)
       obtain rfl:=someI hj6
       exact ⟨hF.sub ⟨rfl,rfl,rfl,rfl,trivial⟩,hS⟩
     ·rintro a w ⟨hF,hS⟩
      refine n_sq ?_
      rcases bcase (t_5) with hc8 | hc8
      ·have hb4:=cond_f hc8 hb4
       refine q_cond_f hF rfl hc8 (q_skipc (n_ib (n_sq (q_region (q_x (v:=(iV (w64 (t_2 + 1)))) hF hS (ex_ibin rfl rfl rfl) rfl rfl fun a hF=>q_x (v:=(iV (w64 (t_2 + 1)))) hF hS (ex_move rfl) rfl rfl fun a hF=>q_end ?_)))))
       obtain rfl:=someI hb4
       exact ⟨rfl,hF.sub ⟨rfl,rfl,rfl,trivial⟩,hS⟩
      ·have hb4:=cond_t hc8 hb4
       refine q_cond_t hF rfl hc8 (q_seq (q_region (q_x (v:=(.bool false)) hF hS (ex_assign rfl) rfl rfl fun a hF=>q_end (n_sq (q_ret (r_ib (r_sq ?_)))))))
       obtain rfl:=someI hb4
       refine ⟨nofun,.inr fun ho=>?_⟩
       subst ho
       refine r_ib (r_sq ?_)
       obtain rfl:=someI hr
       exact ret_of hF hS rfl (.tmp rfl .nil) rfl
   ·rintro e a w ⟨rfl,rfl,hF,hS⟩
    refine x_ib (n_sq ?_)
    refine q_seq (q_region (q_x (v:=(.bool true)) hF hS (ex_assign rfl) rfl rfl fun a hF=>q_end (n_sq (q_ret ?_))))
    obtain rfl:=someI hr
    exact ret_of hF hS rfl (.tmp rfl .nil) rfl
  ·have hr:=cond_t hc3 hr
   refine q_cond_t hF rfl hc3 (q_seq (q_region (q_x (v:=(.bool false)) hF hS (ex_assign rfl) rfl rfl fun a hF=>q_end (n_sq (q_ret (r_sq ?_))))))
   obtain rfl:=someI hr
   exact ret_of hF hS rfl (.tmp rfl .nil) rfl

theorem c_impl_IsSchema (p_s : List impl_Variable) (r : Bool) (hr : impl_IsSchema p_s = some r) (w0 : World) (m : Mem) (hv : Vis m w0) (s1 : Sl) (h1 : Rd m s1 p_s) :
  Ret Tryz.prog 35 [s1.v] w0 (fun v _=>v = (.bool r)):=by
 unfold impl_IsSchema at hr
 refine ret_start Tryz.func35 rfl 51 rfl rfl m hv fun a hF hS=>q_seq (q_region (q_x (v:=(.bool false)) hF hS (ex_assign rfl) rfl rfl fun a hF=>q_end (n_sq (q_seq (q_seq ?_)))))
 obtain ⟨t_2,hj1,hr⟩:=bindS hr
 refine q_join (fun a w=>Fr a 51 [(0,s1.v),(14,(.bool t_2))]∧St [] w0 w m []) ?_ ?_
 ·refine q_region (q_x (v:=s1.v) hF hS (ex_move rfl) rfl rfl fun a hF=>q_x (v:=(iV (goLen p_s))) hF hS (ex_len Tryz.underlying27 rfl h1.len) rfl rfl fun a hF=>q_x (v:=(.bool (decide ((goLen p_s) < 1)))) hF hS (ex_ibin rfl rfl rfl) rfl rfl fun a hF=>q_x (v:=(.bool (decide ((goLen p_s) < 1)))) hF hS (ex_move rfl) rfl rfl fun a hF=>?_)
  rcases bcase (decide ((goLen p_s) < 1)) with hc2 | hc2
  ·have hj1:=cond_f hc2 hj1
   refine q_xg (v:=s1.v) hF hS (ex_move rfl) (wanted_t hF rfl rfl rfl hc2) rfl fun a hF=>q_xg (v:=(iV (goLen p_s))) hF hS (ex_len Tryz.underlying27 rfl h1.len) (wanted_t hF rfl rfl rfl hc2) rfl fun a hF=>q_xg (v:=(.bool (decide (6 < (goLen p_s))))) hF hS (ex_ibin rfl rfl rfl) (wanted_t hF rfl rfl rfl hc2) rfl fun a hF=>q_x (v:=(.bool (decide (6 < (goLen p_s))))) hF hS (ex_pick_f rfl rfl hc2) rfl rfl fun a hF=>q_end (n_jn ?_)
   obtain rfl:=someI hj1
   exact ⟨hF.sub ⟨rfl,rfl,trivial⟩,hS⟩
  ·have hj1:=cond_t hc2 hj1
   refine q_skip hF (wanted_f hF rfl rfl rfl hc2 rfl) rfl fun a hF=>q_skip hF (wanted_f hF rfl rfl rfl hc2 rfl) rfl fun a hF=>q_skip hF (wanted_f hF rfl rfl rfl hc2 rfl) rfl fun a hF=>q_x (v:=(.bool true)) hF hS (ex_pick_t rfl rfl hc2) rfl rfl fun a hF=>q_end (n_jn ?_)
   obtain rfl:=someI hj1
   exact ⟨hF.sub ⟨rfl,rfl,trivial⟩,hS⟩
 ·rintro a w ⟨hF,hS⟩
  refine n_sq ?_
  rcases bcase (t_2) with hc3 | hc3
  ·have hr:=cond_f hc3 hr
   refine q_cond_f hF rfl hc3 (q_skipc (n_sq (q_seq (q_seq (q_region (q_x (v:=s1.v) hF hS (ex_move rfl) rfl rfl fun a hF=>q_x (v:=(iV (goLen p_s))) hF hS (ex_len Tryz.underlying27 rfl h1.len) rfl rfl fun a hF=>q_x (v:=(iV 0)) hF hS (ex_move rfl) rfl rfl fun a hF=>q_end (n_sq (q_block ?_))))))))
   obtain ⟨o4,hl4,hr⟩:=bindS hr
   refine q_loop (fun (t_3 : Int) a w=>Fr a 51 [(0,s1.v),(15,s1.v),(16,(iV (goLen p_s))),(17,(iV t_3))]∧St [] w0 w m []) (fun (o : (Unit) ⊕ (Bool)) e a w=>o = .inl ()∧e = .exit 0∧Fr a 51 []∧St [] w0 w m []) hl4 ⟨hF.sub ⟨rfl,rfl,rfl,rfl,trivial⟩,hS⟩ ?_ ?_
   ·clear hF hS
    rintro t_3 a w st ⟨hF,hS⟩ hb4
    unfold impl_IsSchema_l1 at hb4
    refine q_seq (q_region (q_x (v:=(.bool (decide (t_3 < (goLen p_s))))) hF hS (ex_ibin rfl rfl rfl) rfl rfl fun a hF=>q_end (n_sq (q_seq ?_))))
    rcases bcase (decide (t_3 < (goLen p_s))) with hc5 | hc5
    ·have hb4:=cond_f hc5 hb4
     refine q_cond_f hF rfl hc5 (q_exit (x_sq ?_))
     obtain rfl:=someI hb4
     exact ⟨nofun,.inl ⟨rfl,rfl,hF.sub trivial,hS⟩⟩
    ·have hb4:=cond_t hc5 hb4
     refine q_cond_t hF rfl hc5 (q_skipc (n_sq (q_seq (q_block (q_seq (q_region (q_x (v:=(iV t_3)) hF hS (ex_move rfl) rfl rfl fun a hF=>?_)))))))
     obtain ⟨e_4,he_4,hb4⟩:=bindS hb4
     obtain ⟨vs5,at5,d5⟩:=h1.at he_4 2 rfl
     obtain rfl : vs5 = [(strV e_4.Name),(iV e_4.Levels)]:=d5
     refine q_x (v:=(elP s1 (t_3.toNat * 2))) hF hS (ex_indexAddr Tryz.underlying27 sz95 rfl rfl (h1.idx he_4)) rfl rfl fun a hF=>q_x (v:=(.agg #[(strV e_4.Name),(iV e_4.Levels)])) hF hS (ex_loadEA (us:=[(strV e_4.Name),(iV e_4.Levels)]) 0 Tryz.underlying95 rfl sz95 rfl ((at5).at) rfl rfl rfl) rfl rfl fun a hF=>q_alloc (cs:=[(strV ([] : List UInt8)),(iV 0)]) hF hS rfl rfl rfl fun a w b6 hF hS=>q_x (v:=(iV t_3)) hF hS (ex_assign rfl) rfl rfl fun a hF=>q_store (vs:=[(strV e_4.Name),(iV e_4.Levels)]) (cs':=[(strV e_4.Name),(iV e_4.Levels)]) 0 0 hF hS sz95 rfl rfl rfl rfl rfl rfl rfl rfl fun a w hF hS=>q_end (n_sq (q_seq (q_seq ?_)))
     obtain ⟨t_8,hj6,hb4⟩:=bindS hb4
     refine q_join (fun a w=>Fr a 51 [(0,s1.v),(3,(iV t_3)),(4,(.pointer (some ⟨b6,0,none⟩))),(15,s1.v),(16,(iV (goLen p_s))),(17,(iV t_3)),(35,(.bool t_8))]∧St [] w0 w m [[⟨b6,[(strV e_4.Name),(iV e_4.Levels)],95⟩]]) ?_ ?_
     ·refine q_region (q_x (v:=(.pointer (some ⟨b6,0,none⟩))) hF hS (ex_fieldAddr Tryz.underlying95 rfl sz9 rfl rfl) rfl rfl fun a hF=>q_x (v:=(strV e_4.Name)) hF hS (ex_load1 0 0 Tryz.underlying9 rfl rfl rfl rfl) rfl rfl fun a hF=>?_)
      obtain ⟨t_7,ht_7,hj6⟩:=bindS hj6
      refine q_call (vs:=[(strV e_4.Name)]) hF hS Tryz.func80 (by kernel_rfl) rfl rfl rfl (c_impl_isWord e_4.Name t_7 ht_7 _ m hS.vis) ?_
      rintro a w _ rfl hF hS
      refine q_x (v:=(.bool (!t_7))) hF hS (ex_not rfl) rfl rfl fun a hF=>q_x (v:=(.bool (!t_7))) hF hS (ex_move rfl) rfl rfl fun a hF=>?_
      rcases bcase (!t_7) with hc7 | hc7
      ·have hj6:=cond_f hc7 hj6
       refine q_xg (v:=(.pointer (some ⟨b6,1,none⟩))) hF hS (ex_fieldAddr Tryz.underlying95 rfl sz3 rfl rfl) (wanted_t hF rfl rfl rfl hc7) rfl fun a hF=>q_xg (v:=(iV e_4.Levels)) hF hS (ex_load1 0 0 Tryz.underlying3 rfl rfl rfl rfl) (wanted_t hF rfl rfl rfl hc7) rfl fun a hF=>q_xg (v:=(.bool (decide (e_4.Levels < 2)))) hF hS (ex_ibin rfl rfl rfl) (wanted_t hF rfl rfl rfl hc7) rfl fun a hF=>q_x (v:=(.bool (decide (e_4.Levels < 2)))) hF hS (ex_pick_f rfl rfl hc7) rfl rfl fun a hF=>q_x (v:=(.bool (decide (e_4.Levels < 2)))) hF hS (ex_move rfl) rfl rfl fun a hF=>?_
       rcases bcase (decide (e_4.Levels < 2)) with hc8 | hc8
       ·have hj6:=cond_f hc8 hj6
        refine q_xg (v:=(.pointer (some ⟨b6,1,none⟩))) hF hS (ex_fieldAddr Tryz.underlying95 rfl sz3 rfl rfl) (wanted_t hF rfl rfl rfl hc8) rfl fun a hF=>q_xg (v:=(iV e_4.Levels)) hF hS (ex_load1 0 0 Tryz.underlying3 rfl rfl rfl rfl) (wanted_t hF rfl rfl rfl hc8) rfl fun a hF=>q_xg (v:=(.bool (decide (8 < e_4.Levels)))) hF hS (ex_ibin rfl rfl rfl) (wanted_t hF rfl rfl rfl hc8) rfl fun a hF=>q_x (v:=(.bool (decide (8 < e_4.Levels)))) hF hS (ex_pick_f rfl rfl hc8) rfl rfl fun a hF=>q_end (n_jn ?_)
        obtain rfl:=someI hj6
        exact ⟨hF.sub ⟨rfl,rfl,rfl,rfl,rfl,rfl,rfl,trivial⟩,hS⟩
       ·have hj6:=cond_t hc8 hj6
        refine q_skip hF (wanted_f hF rfl rfl rfl hc8 rfl) rfl fun a hF=>q_skip hF (wanted_f hF rfl rfl rfl hc8 rfl) rfl fun a hF=>q_skip hF (wanted_f hF rfl rfl rfl hc8 rfl) rfl fun a hF=>q_x (v:=(.bool true)) hF hS (ex_pick_t rfl rfl hc8) rfl rfl fun a hF=>q_end (n_jn ?_)
        obtain rfl:=someI hj6
        exact ⟨hF.sub ⟨rfl,rfl,rfl,rfl,rfl,rfl,rfl,trivial⟩,hS⟩
      ·have hj6:=cond_t hc7 hj6
       refine q_skip hF (wanted_f hF rfl rfl rfl hc7 rfl) rfl fun a hF=>q_skip hF (wanted_f hF rfl rfl rfl hc7 rfl) rfl fun a hF=>q_skip hF (wanted_f hF rfl rfl rfl hc7 rfl) rfl fun a hF=>q_x (v:=(.bool true)) hF hS (ex_pick_t rfl rfl hc7) rfl rfl fun a hF=>q_x (v:=(.bool true)) hF hS (ex_move rfl) rfl rfl fun a hF=>q_skip hF (wanted_f hF rfl rfl rfl rfl rfl) rfl fun a hF=>q_skip hF (wanted_f hF rfl rfl rfl rfl rfl) rfl fun a hF=>q_skip hF (wanted_f hF rfl rfl rfl rfl rfl) rfl fun a hF=>q_x (v:=(.bool true)) hF hS (ex_pick_t rfl rfl rfl) rfl rfl fun a hF=>q_end (n_jn ?_)
       obtain rfl:=someI hj6
       exact ⟨hF.sub ⟨rfl,rfl,rfl,rfl,rfl,rfl,rfl,trivial⟩,hS⟩
     ·rintro a w ⟨hF,hS⟩
      refine n_sq ?_
      rcases bcase (t_8) with hc9 | hc9
      ·have hb4:=cond_f hc9 hb4
       refine q_cond_f hF rfl hc9 (q_skipc (n_sq (q_seq (q_region (q_x (v:=s1.v) hF hS (ex_move rfl) rfl rfl fun a hF=>q_x (v:=(iV t_3)) hF hS (ex_move rfl) rfl rfl fun a hF=>?_)))))
       obtain ⟨l_9,hl_9,hb4⟩:=bindS hb4
       have h10 : Rd m (subS s1 2 (0 : Int).toNat t_3.toNat s1.cap) l_9:=h1.sub' hl_9 2 rfl
       refine q_x (v:=(subS s1 2 (0 : Int).toNat t_3.toNat s1.cap).v) hF hS (ex_slice Tryz.underlying27 sz95 rfl rfl rfl (.inl ⟨rfl,rfl⟩) (.inr ⟨_,rfl⟩) (h1.subok hl_9)) rfl rfl fun a hF=>q_x (v:=(iV (goLen l_9))) hF hS (ex_len Tryz.underlying27 rfl h10.len) rfl rfl fun a hF=>q_x (v:=(iV 0)) hF hS (ex_move rfl) rfl rfl fun a hF=>q_end (n_sq (q_block ?_))
       obtain ⟨o10,hl10,hb4⟩:=bindS hb4
       refine q_loop (fun (t_11 : Int) a w=>Fr a 51 [(0,s1.v),(4,(.pointer (some ⟨b6,0,none⟩))),(15,s1.v),(16,(iV (goLen p_s))),(17,(iV t_3)),(38,(subS s1 2 (0 : Int).toNat t_3.toNat s1.cap).v),(39,(iV (goLen l_9))),(40,(iV t_11))]∧St [] w0 w m [[⟨b6,[(strV e_4.Name),(iV e_4.Levels)],95⟩]]) (fun (o : (Unit) ⊕ (Stp (Int) ((Unit) ⊕ (Bool)))) e a w=>o = .inl ()∧e = .exit 2∧Fr a 51 [(0,s1.v),(15,s1.v),(16,(iV (goLen p_s))),(17,(iV t_3))]∧St [] w0 w m []) hl10 ⟨hF.sub ⟨rfl,rfl,rfl,rfl,rfl,rfl,rfl,rfl,trivial⟩,hS⟩ ?_ ?_
       ·clear hF hS
        rintro t_11 a w st ⟨hF,hS⟩ hb10
        unfold impl_IsSchema_l2 at hb10
        refine q_seq (q_region (q_x (v:=(.bool (decide (t_11 < (goLen l_9))))) hF hS (ex_ibin rfl rfl rfl) rfl rfl fun a hF=>q_end (n_sq (q_seq ?_))))
        rcases bcase (decide (t_11 < (goLen l_9))) with hc11 | hc11
        ·have hb10:=cond_f hc11 hb10
         refine q_cond_f hF rfl hc11 (q_exit (x_sq ?_))
         obtain rfl:=someI hb10
         exact ⟨nofun,.inl ⟨rfl,rfl,hF.sub ⟨rfl,rfl,rfl,rfl,trivial⟩,hS.mask [false]⟩⟩
        ·have hb10:=cond_t hc11 hb10
         refine q_cond_t hF rfl hc11 (q_skipc (n_sq (q_seq (q_block (q_seq (q_region ?_))))))
         obtain ⟨e_12,he_12,hb10⟩:=bindS hb10
         obtain ⟨vs13,at13,d13⟩:=h10.at he_12 2 rfl
         obtain rfl : vs13 = [(strV e_12.Name),(iV e_12.Levels)]:=d13
         refine q_x (v:=(elP (subS s1 2 (0 : Int).toNat t_3.toNat s1.cap) (t_11.toNat * 2))) hF hS (ex_indexAddr Tryz.underlying27 sz95 rfl rfl (h10.idx he_12)) rfl rfl fun a hF=>q_x (v:=(.agg #[(strV e_12.Name),(iV e_12.Levels)])) hF hS (ex_loadEA (us:=[(strV e_12.Name),(iV e_12.Levels)]) 0 Tryz.underlying95 rfl sz95 rfl ((at13).at) rfl rfl rfl) rfl rfl fun a hF=>q_alloc (cs:=[(strV ([] : List UInt8)),(iV 0)]) hF hS rfl rfl rfl fun a w b14 hF hS=>q_store (vs:=[(strV e_12.Name),(iV e_12.Levels)]) (cs':=[(strV e_12.Name),(iV e_12.Levels)]) 0 0 hF hS sz95 rfl rfl rfl rfl rfl rfl rfl rfl fun a w hF hS=>q_end (n_sq (q_seq (q_region (q_x (v:=(.pointer (some ⟨b14,0,none⟩))) hF hS (ex_fieldAddr Tryz.underlying95 rfl sz9 rfl rfl) rfl rfl fun a hF=>q_x (v:=(strV e_12.Name)) hF hS (ex_load1 0 0 Tryz.underlying9 rfl rfl rfl rfl) rfl rfl fun a hF=>q_x (v:=(.pointer (some ⟨b6,0,none⟩))) hF hS (ex_fieldAddr Tryz.underlying95 rfl sz9 rfl rfl) rfl rfl fun a hF=>q_x (v:=(strV e_4.Name)) hF hS (ex_load1 1 0 Tryz.underlying9 rfl rfl rfl rfl) rfl rfl fun a hF=>q_x (v:=(.bool (e_12.Name == e_4.Name))) hF hS (ex_strEq rfl rfl) rfl rfl fun a hF=>q_end (n_sq ?_)))))
         rcases bcase (e_12.Name == e_4.Name) with hc12 | hc12
         ·have hb10:=cond_f hc12 hb10
          refine q_cond_f hF rfl hc12 (q_skipc (n_ib (n_sq (q_region (q_x (v:=(iV (w64 (t_11 + 1)))) hF hS (ex_ibin rfl rfl rfl) rfl rfl fun a hF=>q_x (v:=(iV (w64 (t_11 + 1)))) hF hS (ex_move rfl) rfl rfl fun a hF=>q_end ?_)))))
          obtain rfl:=someI hb10
          exact ⟨rfl,hF.sub ⟨rfl,rfl,rfl,rfl,rfl,rfl,rfl,rfl,trivial⟩,hS.mask [false,true]⟩
         ·have hb10:=cond_t hc12 hb10
          refine q_cond_t hF rfl hc12 (q_seq (q_region (q_x (v:=(.bool false)) hF hS (ex_assign rfl) rfl rfl fun a hF=>q_end (n_sq (q_ret (r_ib (r_sq ?_)))))))
          obtain rfl:=someI hb10
          refine ⟨nofun,.inr fun ho=>?_⟩
          subst ho
          refine r_ib (r_ib (r_sq ?_))
          obtain rfl:=someI hb4
          refine ⟨nofun,.inr fun ho=>?_⟩
          subst ho
          refine r_ib (r_sq ?_)
          obtain rfl:=someI hr
          exact ret_of hF hS rfl (.tmp rfl .nil) rfl
       ·rintro e a w ⟨rfl,rfl,hF,hS⟩
        refine x_ib (n_ib (n_sq ?_))
        refine q_region (q_x (v:=(iV (w64 (t_3 + 1)))) hF hS (ex_ibin rfl rfl rfl) rfl rfl fun a hF=>q_x (v:=(iV (w64 (t_3 + 1)))) hF hS (ex_move rfl) rfl rfl fun a hF=>q_end ?_)
        obtain rfl:=someI hb4
        exact ⟨rfl,hF.sub ⟨rfl,rfl,rfl,rfl,trivial⟩,hS⟩
      ·have hb4:=cond_t hc9 hb4
       refine q_cond_t hF rfl hc9 (q_seq (q_region (q_x (v:=(.bool false)) hF hS (ex_assign rfl) rfl rfl fun a hF=>q_end (n_sq (q_ret (r_sq (r_ib (r_sq ?_))))))))
       obtain rfl:=someI hb4
       refine ⟨nofun,.inr fun ho=>?_⟩
       subst ho
       refine r_ib (r_sq ?_)
       obtain rfl:=someI hr
       exact ret_of hF hS rfl (.tmp rfl .nil) rfl
   ·rintro e a w ⟨rfl,rfl,hF,hS⟩
    refine x_ib (n_sq ?_)
    refine q_seq (q_region (q_x (v:=(.bool true)) hF hS (ex_assign rfl) rfl rfl fun a hF=>q_end (n_sq (q_ret ?_))))
    obtain rfl:=someI hr
    exact ret_of hF hS rfl (.tmp rfl .nil) rfl
  ·have hr:=cond_t hc3 hr
   refine q_cond_t hF rfl hc3 (q_seq (q_region (q_x (v:=(.bool false)) hF hS (ex_assign rfl) rfl rfl fun a hF=>q_end (n_sq (q_ret (r_sq ?_))))))
   obtain rfl:=someI hr
   exact ret_of hF hS rfl (.tmp rfl .nil) rfl

theorem c_impl_areVars (p_s : List impl_Variable) (p_vars : List Int) (r : Bool) (hr : impl_areVars p_s p_vars = some r) (w0 : World) (m : Mem) (hv : Vis m w0) (s1 : Sl) (h1 : Rd m s1 p_s) (s2 : Sl) (h2 : Rd m s2 p_vars) :
  Ret Tryz.prog 87 [s1.v,s2.v] w0 (fun v _=>v = (.bool r)):=by
 unfold impl_areVars at hr
 refine ret_start Tryz.func87 rfl 25 rfl rfl m hv fun a hF hS=>q_seq (q_region (q_x (v:=(.bool false)) hF hS (ex_assign rfl) rfl rfl fun a hF=>q_end (n_sq (q_seq (q_region (q_x (v:=(iV (-1))) hF hS (ex_assign rfl) rfl rfl fun a hF=>q_end (n_sq (q_seq (q_seq (q_region (q_x (v:=s2.v) hF hS (ex_move rfl) rfl rfl fun a hF=>q_x (v:=(iV (goLen p_vars))) hF hS (ex_len Tryz.underlying24 rfl h2.len) rfl rfl fun a hF=>q_x (v:=(iV 0)) hF hS (ex_move rfl) rfl rfl fun a hF=>q_end (n_sq (q_block ?_)))))))))))))
 obtain ⟨o1,hl1,hr⟩:=bindS hr
 refine q_loop (fun (s : Int × Int) a w=>∃ last_3,∃ t_4,s = (last_3,t_4)∧Fr a 25 [(0,s1.v),(5,(iV last_3)),(8,s2.v),(9,(iV (goLen p_vars))),(10,(iV t_4))]∧St [] w0 w m []) (fun (o : (Unit) ⊕ (Bool)) e a w=>o = .inl ()∧e = .exit 0∧Fr a 25 []∧St [] w0 w m []) hl1 ⟨_,_,rfl,hF.sub ⟨rfl,rfl,rfl,rfl,rfl,trivial⟩,hS⟩ ?_ ?_
 ·clear hF hS
  rintro s a w st ⟨last_3,t_4,rfl,hF,hS⟩ hb1
  unfold impl_areVars_l1 at hb1
  refine q_seq (q_region (q_x (v:=(.bool (decide (t_4 < (goLen p_vars))))) hF hS (ex_ibin rfl rfl rfl) rfl rfl fun a hF=>q_end (n_sq (q_seq ?_))))
  rcases bcase (decide (t_4 < (goLen p_vars))) with hc2 | hc2
  ·have hb1:=cond_f hc2 hb1
   refine q_cond_f hF rfl hc2 (q_exit (x_sq ?_))
   obtain rfl:=someI hb1
   exact ⟨nofun,.inl ⟨rfl,rfl,hF.sub trivial,hS⟩⟩
  ·have hb1:=cond_t hc2 hb1
   refine q_cond_t hF rfl hc2 (q_skipc (n_sq (q_seq (q_block (q_seq (q_region ?_))))))
   obtain ⟨e_5,he_5,hb1⟩:=bindS hb1
   obtain ⟨vs6,at6,d6⟩:=h2.at he_5 1 rfl
   obtain rfl : vs6 = [(iV e_5)]:=d6
   refine q_x (v:=(elP s2 (t_4.toNat * 1))) hF hS (ex_indexAddr Tryz.underlying24 sz3 rfl rfl (h2.idx he_5)) rfl rfl fun a hF=>q_x (v:=(iV e_5)) hF hS (ex_loadE1 0 Tryz.underlying3 rfl rfl ((at6).at) rfl rfl) rfl rfl fun a hF=>q_x (v:=(iV e_5)) hF hS (ex_assign rfl) rfl rfl fun a hF=>q_end (n_sq (q_seq (q_seq ?_)))
   obtain ⟨t_7,hj3,hb1⟩:=bindS hb1
   refine q_join (fun a w=>Fr a 25 [(0,s1.v),(7,(iV e_5)),(8,s2.v),(9,(iV (goLen p_vars))),(10,(iV t_4)),(22,(.bool t_7))]∧St [] w0 w m []) ?_ ?_
   ·refine q_region (q_x (v:=(iV e_5)) hF hS (ex_move rfl) rfl rfl fun a hF=>q_x (v:=(iV last_3)) hF hS (ex_move rfl) rfl rfl fun a hF=>q_x (v:=(.bool (decide (e_5 ≤ last_3)))) hF hS (ex_ibin rfl rfl rfl) rfl rfl fun a hF=>q_x (v:=(.bool (decide (e_5 ≤ last_3)))) hF hS (ex_move rfl) rfl rfl fun a hF=>?_)
    rcases bcase (decide (e_5 ≤ last_3)) with hc4 | hc4
    ·have hj3:=cond_f hc4 hj3
     refine q_xg (v:=(iV e_5)) hF hS (ex_move rfl) (wanted_t hF rfl rfl rfl hc4) rfl fun a hF=>q_xg (v:=s1.v) hF hS (ex_move rfl) (wanted_t hF rfl rfl rfl hc4) rfl fun a hF=>q_xg (v:=(iV (goLen p_s))) hF hS (ex_len Tryz.underlying27 rfl h1.len) (wanted_t hF rfl rfl rfl hc4) rfl fun a hF=>q_xg (v:=(.bool (decide ((goLen p_s) ≤ e_5)))) hF hS (ex_ibin rfl rfl rfl) (wanted_t hF rfl rfl rfl hc4) rfl fun a hF=>q_x (v:=(.bool (decide ((goLen p_s) ≤ e_5)))) hF hS (ex_pick_f rfl rfl hc4) rfl rfl fun a hF=>q_end (n_jn ?_)
     obtain rfl:=someI hj3
     exact ⟨hF.sub ⟨rfl,rfl,rfl,rfl,rfl,rfl,trivial⟩,hS⟩
    ·have hj3:=cond_t hc4 hj3
     refine q_skip hF (wanted_f hF rfl rfl rfl hc4 rfl) rfl fun a hF=>q_skip hF (wanted_f hF rfl rfl rfl hc4 rfl) rfl fun a hF=>q_skip hF (wanted_f hF rfl rfl rfl hc4 rfl) rfl fun a hF=>q_skip hF (wanted_f hF rfl rfl rfl hc4 rfl) rfl fun a hF=>q_x (v:=(.bool true)) hF hS (ex_pick_t rfl rfl hc4) rfl rfl fun a hF=>q_end (n_jn ?_)
     obtain rfl:=someI hj3
     exact ⟨hF.sub ⟨rfl,rfl,rfl,rfl,rfl,rfl,trivial⟩,hS⟩
   ·rintro a w ⟨hF,hS⟩
    refine n_sq ?_
    rcases bcase (t_7) with hc5 | hc5
    ·have hb1:=cond_f hc5 hb1
     refine q_cond_f hF rfl hc5 (q_skipc (n_sq (q_region (q_x (v:=(iV e_5)) hF hS (ex_move rfl) rfl rfl fun a hF=>q_x (v:=(iV e_5)) hF hS (ex_assign rfl) rfl rfl fun a hF=>q_end (n_ib (n_sq (q_region (q_x (v:=(iV (w64 (t_4 + 1)))) hF hS (ex_ibin rfl rfl rfl) rfl rfl fun a hF=>q_x (v:=(iV (w64 (t_4 + 1)))) hF hS (ex_move rfl) rfl rfl fun a hF=>q_end ?_))))))))
     obtain rfl:=someI hb1
     exact ⟨rfl,_,_,rfl,hF.sub ⟨rfl,rfl,rfl,rfl,rfl,trivial⟩,hS⟩
    ·have hb1:=cond_t hc5 hb1
     refine q_cond_t hF rfl hc5 (q_seq (q_region (q_x (v:=(.bool false)) hF hS (ex_assign rfl) rfl rfl fun a hF=>q_end (n_sq (q_ret (r_sq (r_ib (r_sq ?_))))))))
     obtain rfl:=someI hb1
     refine ⟨nofun,.inr fun ho=>?_⟩
     subst ho
     refine r_ib (r_sq ?_)
     obtain rfl:=someI hr
     exact ret_of hF hS rfl (.tmp rfl .nil) rfl
 ·rintro e a w ⟨rfl,rfl,hF,hS⟩
  refine x_ib (n_sq ?_)
  refine q_seq (q_region (q_x (v:=(.bool true)) hF hS (ex_assign rfl) rfl rfl fun a hF=>q_end (n_sq (q_ret ?_))))
  obtain rfl:=someI hr
  exact ret_of hF hS rfl (.tmp rfl .nil) rfl

theorem c_impl_fullSet (p_v : impl_Variable) (r : Int) (hr : impl_fullSet p_v = some r) (w0 : World) (m : Mem) (hv : Vis m w0) :
  Ret Tryz.prog 90 [(.agg #[(strV p_v.Name),(iV p_v.Levels)])] w0 (fun v _=>v = (iV r)):=by
 unfold impl_fullSet at hr
 refine ret_start Tryz.func90 rfl 7 rfl rfl m hv fun a hF hS=>q_seq (q_region (q_box (cs:=[(strV p_v.Name),(iV p_v.Levels)]) hF hS rfl rfl rfl fun a w b1 hF hS=>q_x (v:=(iV 0)) hF hS (ex_assign rfl) rfl rfl fun a hF=>q_end (n_sq (q_seq (q_region (q_x (v:=(.pointer (some ⟨b1,1,none⟩))) hF hS (ex_fieldAddr Tryz.underlying95 rfl sz3 rfl rfl) rfl rfl fun a hF=>q_x (v:=(iV p_v.Levels)) hF hS (ex_load1 0 0 Tryz.underlying3 rfl rfl rfl rfl) rfl rfl fun a hF=>?_))))))
 obtain ⟨t_2,ht_2,hr⟩:=bindS hr
 refine q_x (v:=(iV t_2)) hF hS (ex_shl rfl rfl ht_2) rfl rfl fun a hF=>q_x (v:=(iV (w64 (t_2 - 1)))) hF hS (ex_ibin rfl rfl rfl) rfl rfl fun a hF=>q_x (v:=(iV (w64 (t_2 - 1)))) hF hS (ex_assign rfl) rfl rfl fun a hF=>q_end (n_sq (q_ret ?_))
 obtain rfl:=someI hr
 exact ret_of hF hS rfl (.tmp rfl .nil) rfl

theorem c_impl_isWhere (p_s : List impl_Variable) (p_where : List Int) (r : Bool) (hr : impl_isWhere p_s p_where = some r) (w0 : World) (m : Mem) (hv : Vis m w0) (s1 : Sl) (h1 : Rd m s1 p_s) (s2 : Sl) (h2 : Rd m s2 p_where) :
  Ret Tryz.prog 88 [s1.v,s2.v] w0 (fun v _=>v = (.bool r)):=by
 unfold impl_isWhere at hr
 refine ret_start Tryz.func88 rfl 31 rfl rfl m hv fun a hF hS=>q_seq (q_region (q_x (v:=(.bool false)) hF hS (ex_assign rfl) rfl rfl fun a hF=>q_end (n_sq (q_seq (q_seq (q_region (q_x (v:=s2.v) hF hS (ex_move rfl) rfl rfl fun a hF=>q_x (v:=(iV (goLen p_where))) hF hS (ex_len Tryz.underlying24 rfl h2.len) rfl rfl fun a hF=>q_x (v:=s1.v) hF hS (ex_move rfl) rfl rfl fun a hF=>q_x (v:=(iV (goLen p_s))) hF hS (ex_len Tryz.underlying27 rfl h1.len) rfl rfl fun a hF=>q_x (v:=(.bool ((goLen p_where) != (goLen p_s)))) hF hS (ex_ibin rfl rfl rfl) rfl rfl fun a hF=>q_end (n_sq ?_))))))))
 rcases bcase ((goLen p_where) != (goLen p_s)) with hc1 | hc1
 ·have hr:=cond_f hc1 hr
  refine q_cond_f hF rfl hc1 (q_skipc (n_sq (q_seq (q_seq (q_region (q_x (v:=s2.v) hF hS (ex_move rfl) rfl rfl fun a hF=>q_x (v:=(iV (goLen p_where))) hF hS (ex_len Tryz.underlying24 rfl h2.len) rfl rfl fun a hF=>q_x (v:=(iV 0)) hF hS (ex_move rfl) rfl rfl fun a hF=>q_end (n_sq (q_block ?_))))))))
  obtain ⟨o2,hl2,hr⟩:=bindS hr
  refine q_loop (fun (t_3 : Int) a w=>Fr a 31 [(0,s1.v),(12,s2.v),(13,(iV (goLen p_where))),(14,(iV t_3))]∧St [] w0 w m []) (fun (o : (Unit) ⊕ (Bool)) e a w=>o = .inl ()∧e = .exit 0∧Fr a 31 []∧St [] w0 w m []) hl2 ⟨hF.sub ⟨rfl,rfl,rfl,rfl,trivial⟩,hS⟩ ?_ ?_
  ·clear hF hS
   rintro t_3 a w st ⟨hF,hS⟩ hb2
   unfold impl_isWhere_l1 at hb2
   refine q_seq (q_region (q_x (v:=(.bool (decide (t_3 < (goLen p_where))))) hF hS (ex_ibin rfl rfl rfl) rfl rfl fun a hF=>q_end (n_sq (q_seq ?_))))
   rcases bcase (decide (t_3 < (goLen p_where))) with hc3 | hc3
   ·have hb2:=cond_f hc3 hb2
    refine q_cond_f hF rfl hc3 (q_exit (x_sq ?_))
    obtain rfl:=someI hb2
    exact ⟨nofun,.inl ⟨rfl,rfl,hF.sub trivial,hS⟩⟩
   ·have hb2:=cond_t hc3 hb2
    refine q_cond_t hF rfl hc3 (q_skipc (n_sq (q_seq (q_block (q_seq (q_region (q_x (v:=(iV t_3)) hF hS (ex_move rfl) rfl rfl fun a hF=>?_)))))))
    obtain ⟨e_4,he_4,hb2⟩:=bindS hb2
    obtain ⟨vs5,at5,d5⟩:=h2.at he_4 1 rfl
    obtain rfl : vs5 = [(iV e_4)]:=d5
    refine q_x (v:=(elP s2 (t_3.toNat * 1))) hF hS (ex_indexAddr Tryz.underlying24 sz3 rfl rfl (h2.idx he_4)) rfl rfl fun a hF=>q_x (v:=(iV e_4)) hF hS (ex_loadE1 0 Tryz.underlying3 rfl rfl ((at5).at) rfl rfl) rfl rfl fun a hF=>q_x (v:=(iV t_3)) hF hS (ex_assign rfl) rfl rfl fun a hF=>q_x (v:=(iV e_4)) hF hS (ex_assign rfl) rfl rfl fun a hF=>q_end (n_sq (q_seq ?_))
    obtain ⟨t_9,hj4,hb2⟩:=bindS hb2
    refine q_join (fun a w=>Fr a 31 [(0,s1.v),(12,s2.v),(13,(iV (goLen p_where))),(14,(iV t_3)),(29,(.bool t_9))]∧St [] w0 w m []) ?_ ?_
    ·refine q_region (q_x (v:=(iV e_4)) hF hS (ex_move rfl) rfl rfl fun a hF=>q_x (v:=(.bool (decide (e_4 < 0)))) hF hS (ex_ibin rfl rfl rfl) rfl rfl fun a hF=>q_x (v:=(.bool (decide (e_4 < 0)))) hF hS (ex_move rfl) rfl rfl fun a hF=>?_)
     rcases bcase (decide (e_4 < 0)) with hc5 | hc5
     ·have hj4:=cond_f hc5 hj4
      refine q_xg (v:=(iV e_4)) hF hS (ex_move rfl) (wanted_t hF rfl rfl rfl hc5) rfl fun a hF=>q_xg (v:=s1.v) hF hS (ex_move rfl) (wanted_t hF rfl rfl rfl hc5) rfl fun a hF=>q_xg (v:=(iV t_3)) hF hS (ex_move rfl) (wanted_t hF rfl rfl rfl hc5) rfl fun a hF=>?_
      obtain ⟨e_6,he_6,hj4⟩:=bindS hj4
      obtain ⟨vs7,at7,d7⟩:=h1.at he_6 2 rfl
      obtain rfl : vs7 = [(strV e_6.Name),(iV e_6.Levels)]:=d7
      refine q_xg (v:=(elP s1 (t_3.toNat * 2))) hF hS (ex_indexAddr Tryz.underlying27 sz95 rfl rfl (h1.idx he_6)) (wanted_t hF rfl rfl rfl hc5) rfl fun a hF=>q_xg (v:=(.agg #[(strV e_6.Name),(iV e_6.Levels)])) hF hS (ex_loadEA (us:=[(strV e_6.Name),(iV e_6.Levels)]) 0 Tryz.underlying95 rfl sz95 rfl ((at7).at) rfl rfl rfl) (wanted_t hF rfl rfl rfl hc5) rfl fun a hF=>?_
      obtain ⟨t_8,ht_8,hj4⟩:=bindS hj4
      refine q_callg (vs:=[(.agg #[(strV e_6.Name),(iV e_6.Levels)])]) hF hS (wanted_t hF rfl rfl rfl hc5) Tryz.func90 (by kernel_rfl) rfl rfl rfl (c_impl_fullSet e_6 t_8 ht_8 _ m hS.vis) ?_
      rintro a w _ rfl hF hS
      refine q_xg (v:=(.bool (decide (t_8 < e_4)))) hF hS (ex_ibin rfl rfl rfl) (wanted_t hF rfl rfl rfl hc5) rfl fun a hF=>q_x (v:=(.bool (decide (t_8 < e_4)))) hF hS (ex_pick_f rfl rfl hc5) rfl rfl fun a hF=>q_end (n_jn ?_)
      obtain rfl:=someI hj4
      exact ⟨hF.sub ⟨rfl,rfl,rfl,rfl,rfl,trivial⟩,hS⟩
     ·have hj4:=cond_t hc5 hj4
      refine q_skip hF (wanted_f hF rfl rfl rfl hc5 rfl) rfl fun a hF=>q_skip hF (wanted_f hF rfl rfl rfl hc5 rfl) rfl fun a hF=>q_skip hF (wanted_f hF rfl rfl rfl hc5 rfl) rfl fun a hF=>q_skip hF (wanted_f hF rfl rfl rfl hc5 rfl) rfl fun a hF=>q_skip hF (wanted_f hF rfl rfl rfl hc5 rfl) rfl fun a hF=>q_skip hF (wanted_f hF rfl rfl rfl hc5 rfl) rfl fun a hF=>q_skip hF (wanted_f hF rfl rfl rfl hc5 rfl) rfl fun a hF=>q_x (v:=(.bool true)) hF hS (ex_pick_t rfl rfl hc5) rfl rfl fun a hF=>q_end (n_jn ?_)
      obtain rfl:=someI hj4
      exact ⟨hF.sub ⟨rfl,rfl,rfl,rfl,rfl,trivial⟩,hS⟩
    ·rintro a w ⟨hF,hS⟩
     refine n_sq ?_
     rcases bcase (t_9) with hc6 | hc6
     ·have hb2:=cond_f hc6 hb2
      refine q_cond_f hF rfl hc6 (q_skipc (n_ib (n_sq (q_region (q_x (v:=(iV (w64 (t_3 + 1)))) hF hS (ex_ibin rfl rfl rfl) rfl rfl fun a hF=>q_x (v:=(iV (w64 (t_3 + 1)))) hF hS (ex_move rfl) rfl rfl fun a hF=>q_end ?_)))))
      obtain rfl:=someI hb2
      exact ⟨rfl,hF.sub ⟨rfl,rfl,rfl,rfl,trivial⟩,hS⟩
     ·have hb2:=cond_t hc6 hb2
      refine q_cond_t hF rfl hc6 (q_seq (q_region (q_x (v:=(.bool false)) hF hS (ex_assign rfl) rfl rfl fun a hF=>q_end (n_sq (q_ret (r_ib (r_sq ?_)))))))
      obtain rfl:=someI hb2
      refine ⟨nofun,.inr fun ho=>?_⟩
      subst ho
      refine r_ib (r_sq ?_)
      obtain rfl:=someI hr
      exact ret_of hF hS rfl (.tmp rfl .nil) rfl
  ·rintro e a w ⟨rfl,rfl,hF,hS⟩
   refine x_ib (n_sq ?_)
   refine q_seq (q_region (q_x (v:=(.bool true)) hF hS (ex_assign rfl) rfl rfl fun a hF=>q_end (n_sq (q_ret ?_))))
   obtain rfl:=someI hr
   exact ret_of hF hS rfl (.tmp rfl .nil) rfl
 ·have hr:=cond_t hc1 hr
  refine q_cond_t hF rfl hc1 (q_seq (q_region (q_x (v:=(.bool false)) hF hS (ex_assign rfl) rfl rfl fun a hF=>q_end (n_sq (q_ret (r_sq ?_))))))
  obtain rfl:=someI hr
  exact ret_of hF hS rfl (.tmp rfl .nil) rfl

theorem c_impl_depthOf (p_g : impl_Geo) (p_i : Int) (r : Int) (hr : impl_depthOf p_g p_i = some r) (w0 : World) (m : Mem) (hv : Vis m w0) (s1 : Sl) (h1 : Rd m s1 p_g.Parents) :
  Ret Tryz.prog 102 [(.agg #[s1.v]),(iV p_i)] w0 (fun v _=>v = (iV r)):=by
 unfold impl_depthOf at hr
 refine ret_start Tryz.func102 rfl 16 rfl rfl m hv fun a hF hS=>q_seq (q_region (q_box (cs:=[s1.v]) hF hS rfl rfl rfl fun a w b2 hF hS=>q_x (v:=(iV 0)) hF hS (ex_assign rfl) rfl rfl fun a hF=>q_end (n_sq (q_seq (q_region (q_x (v:=(iV 0)) hF hS (ex_assign rfl) rfl rfl fun a hF=>q_end (n_sq (q_seq (q_block ?_)))))))))
 obtain ⟨d_7,hl1,hr⟩:=bindS hr
 refine q_loop (fun (s : Int × Int) a w=>∃ i_3,∃ d_4,s = (i_3,d_4)∧Fr a 16 [(1,(iV i_3)),(2,(.pointer (some ⟨b2,0,none⟩))),(5,(iV d_4))]∧St [] w0 w m [[⟨b2,[s1.v],26⟩]]) (fun (d_7 : Int) e a w=>e = .exit 0∧Fr a 16 [(5,(iV d_7))]∧St [] w0 w m []) hl1 ⟨_,_,rfl,hF.sub ⟨rfl,rfl,rfl,trivial⟩,hS⟩ ?_ ?_
 ·clear hF hS
  rintro s a w st ⟨i_3,d_4,rfl,hF,hS⟩ hb1
  unfold impl_depthOf_l1 at hb1
  refine q_seq (q_seq (q_region (q_x (v:=(iV i_3)) hF hS (ex_move rfl) rfl rfl fun a hF=>q_x (v:=(.bool (decide (0 < i_3)))) hF hS (ex_ibin rfl rfl rfl) rfl rfl fun a hF=>q_end (n_sq ?_))))
  rcases bcase (decide (0 < i_3)) with hc2 | hc2
  ·have hb1:=cond_f hc2 hb1
   refine q_cond_f hF rfl hc2 (q_exit (x_sq ?_))
   obtain rfl:=someI hb1
   exact ⟨nofun,.inl ⟨rfl,hF.sub ⟨rfl,trivial⟩,hS.mask [false]⟩⟩
  ·have hb1:=cond_t hc2 hb1
   refine q_cond_t hF rfl hc2 (q_skipc (n_sq (q_block (q_seq (q_region (q_x (v:=(.pointer (some ⟨b2,0,none⟩))) hF hS (ex_fieldAddr Tryz.underlying26 rfl sz24 rfl rfl) rfl rfl fun a hF=>q_x (v:=s1.v) hF hS (ex_load1 0 0 Tryz.underlying24 rfl rfl rfl rfl) rfl rfl fun a hF=>q_x (v:=(iV i_3)) hF hS (ex_move rfl) rfl rfl fun a hF=>?_))))))
   obtain ⟨e_5,he_5,hb1⟩:=bindS hb1
   obtain ⟨vs6,at6,d6⟩:=h1.at he_5 1 rfl
   obtain rfl : vs6 = [(iV e_5)]:=d6
   refine q_x (v:=(elP s1 (i_3.toNat * 1))) hF hS (ex_indexAddr Tryz.underlying24 sz3 rfl rfl (h1.idx he_5)) rfl rfl fun a hF=>q_x (v:=(iV e_5)) hF hS (ex_loadE1 0 Tryz.underlying3 rfl rfl ((at6).at) rfl rfl) rfl rfl fun a hF=>q_x (v:=(iV e_5)) hF hS (ex_assign rfl) rfl rfl fun a hF=>q_end (n_sq (q_region (q_x (v:=(iV d_4)) hF hS (ex_move rfl) rfl rfl fun a hF=>q_x (v:=(iV (w64 (d_4 + 1)))) hF hS (ex_ibin rfl rfl rfl) rfl rfl fun a hF=>q_x (v:=(iV (w64 (d_4 + 1)))) hF hS (ex_assign rfl) rfl rfl fun a hF=>q_end (n_ib ?_))))
   obtain rfl:=someI hb1
   exact ⟨rfl,_,_,rfl,hF.sub ⟨rfl,rfl,rfl,trivial⟩,hS⟩
 ·rintro e a w ⟨rfl,hF,hS⟩
  refine x_ib (n_sq ?_)
  refine q_seq (q_region (q_x (v:=(iV d_7)) hF hS (ex_move rfl) rfl rfl fun a hF=>q_x (v:=(iV d_7)) hF hS (ex_assign rfl) rfl rfl fun a hF=>q_end (n_sq (q_ret ?_))))
  obtain rfl:=someI hr
  exact ret_of hF hS rfl (.tmp rfl .nil) rfl

theorem c_impl_areasAt (p_g : impl_Geo) (p_level : Int) (r : (List Int)) (hr : impl_areasAt p_g p_level = some r) (w0 : World) (m : Mem) (hv : Vis m w0) (s1 : Sl) (h1 : Rd m s1 p_g.Parents) :
  Ret Tryz.prog 125 [(.agg #[s1.v]),(iV p_level)] w0 (fun v w=>∃ (q0' : Piece) (s0' : Sl),v = s0'.v∧St [] w0 w m [q0']∧OwnL m 3 q0' s0' r):=by
 unfold impl_areasAt at hr
 refine ret_start Tryz.func125 rfl 24 rfl rfl m hv fun a hF hS=>q_seq (q_region (q_box (cs:=[s1.v]) hF hS rfl rfl rfl fun a w b2 hF hS=>q_x (v:=nilS.v) hF hS (ex_assign rfl) rfl rfl fun a hF=>q_end (n_sq (q_seq (q_region (q_x (v:=nilS.v) hF hS (ex_assign rfl) rfl rfl fun a hF=>q_end (n_sq (q_seq (q_seq (q_region (q_x (v:=(.pointer (some ⟨b2,0,none⟩))) hF hS (ex_fieldAddr Tryz.underlying26 rfl sz24 rfl rfl) rfl rfl fun a hF=>q_x (v:=s1.v) hF hS (ex_load1 0 0 Tryz.underlying24 rfl rfl rfl rfl) rfl rfl fun a hF=>q_x (v:=(iV (goLen p_g.Parents))) hF hS (ex_len Tryz.underlying24 rfl h1.len) rfl rfl fun a hF=>q_x (v:=(iV 0)) hF hS (ex_move rfl) rfl rfl fun a hF=>q_end (n_sq (q_block ?_)))))))))))))
 obtain ⟨list_12,hl1,hr⟩:=bindS hr
 refine q_loop (fun (s : (List Int) × Int) a w=>∃ (q4 : Piece),∃ (s4 : Sl),∃ list_3,∃ t_5,s = (list_3,t_5)∧Fr a 24 [(1,(iV p_level)),(2,(.pointer (some ⟨b2,0,none⟩))),(5,s4.v),(9,(iV (goLen p_g.Parents))),(10,(iV t_5))]∧St [] w0 w m [q4,[⟨b2,[s1.v],26⟩]]∧OwnL m 3 q4 s4 list_3) (fun (list_12 : (List Int)) e a w=>∃ (q13 : Piece),∃ (s13 : Sl),e = .exit 0∧Fr a 24 [(5,s13.v)]∧St [] w0 w m [q13]∧OwnL m 3 q13 s13 list_12) hl1 ⟨[],nilS,_,_,rfl,hF.sub ⟨rfl,rfl,rfl,rfl,rfl,trivial⟩,hS.sel [1,0] (by decide),(OwnL.nil (α:=Int) m 3)⟩ ?_ ?_
 ·clear hF hS
  rintro s a w st ⟨q4,s4,list_3,t_5,rfl,hF,hS,h4⟩ hb1
  unfold impl_areasAt_l1 at hb1
  refine q_seq (q_region (q_x (v:=(.bool (decide (t_5 < (goLen p_g.Parents))))) hF hS (ex_ibin rfl rfl rfl) rfl rfl fun a hF=>q_end (n_sq (q_seq ?_))))
  rcases bcase (decide (t_5 < (goLen p_g.Parents))) with hc2 | hc2
  ·have hb1:=cond_f hc2 hb1
   refine q_cond_f hF rfl hc2 (q_exit (x_sq ?_))
   obtain rfl:=someI hb1
   exact ⟨nofun,.inl ⟨q4,s4,rfl,hF.sub ⟨rfl,trivial⟩,hS.mask [true,false],h4⟩⟩
  ·have hb1:=cond_t hc2 hb1
   refine q_cond_t hF rfl hc2 (q_skipc (n_sq (q_seq (q_block (q_seq (q_region (q_x (v:=(iV t_5)) hF hS (ex_move rfl) rfl rfl fun a hF=>q_x (v:=(iV t_5)) hF hS (ex_assign rfl) rfl rfl fun a hF=>q_end (n_sq (q_seq (q_region (q_x (v:=(.agg #[s1.v])) hF hS (ex_loadA (vs:=[s1.v]) 1 0 Tryz.underlying26 rfl sz26 rfl rfl rfl rfl) rfl rfl fun a hF=>q_x (v:=(iV t_5)) hF hS (ex_move rfl) rfl rfl fun a hF=>?_)))))))))))
   obtain ⟨t_6,ht_6,hb1⟩:=bindS hb1
   refine q_call (vs:=[(.agg #[s1.v]),(iV t_5)]) hF hS Tryz.func102 (by kernel_rfl) rfl rfl rfl (c_impl_depthOf p_g t_5 t_6 ht_6 _ m hS.vis s1 h1) ?_
   rintro a w _ rfl hF hS
   refine q_x (v:=(iV p_level)) hF hS (ex_move rfl) rfl rfl fun a hF=>q_x (v:=(.bool (t_6 == p_level))) hF hS (ex_ibin rfl rfl rfl) rfl rfl fun a hF=>q_end (n_sq ?_)
   obtain ⟨list_10,hj3,hb1⟩:=bindS hb1
   refine q_join (fun a w=>∃ (q11 : Piece),∃ (s11 : Sl),Fr a 24 [(1,(iV p_level)),(2,(.pointer (some ⟨b2,0,none⟩))),(5,s11.v),(9,(iV (goLen p_g.Parents))),(10,(iV t_5))]∧St [] w0 w m [q11,[⟨b2,[s1.v],26⟩]]∧OwnL m 3 q11 s11 list_10) ?_ ?_
   ·rcases bcase (t_6 == p_level) with hc4 | hc4
    ·have hj3:=cond_f hc4 hj3
     refine q_cond_f hF rfl hc4 (q_skipc (n_jn ?_))
     obtain rfl:=someI hj3
     exact ⟨q4,s4,hF.sub ⟨rfl,rfl,rfl,rfl,rfl,trivial⟩,hS,h4⟩
    ·have hj3:=cond_t hc4 hj3
     refine q_cond_t hF rfl hc4 (q_region (q_x (v:=s4.v) hF hS (ex_move rfl) rfl rfl fun a hF=>q_x (v:=(iV t_5)) hF hS (ex_move rfl) rfl rfl fun a hF=>q_do rfl fun _ hK=>wp_buildSlice' (l:=([t_5] : List Int)) (cells:=[(iV t_5)]) hF hS Tryz.underlying24 inf3 rfl rfl (by kernel_rfl) rfl rfl rfl ⟨rfl,rfl⟩ rfl rfl fun a w q7 s7 hF hS h7 _=>hK _ _ ?_))
     have hS : St _ _ _ _ [q4,q7,[⟨b2,[s1.v],26⟩]]:=hS.sel [1,0,2] (by decide)
     obtain ⟨l_8,hl_8,hj3⟩:=bindS hj3
     refine q_do rfl fun _ hK=>wp_append hF hS h4 Tryz.underlying24 inf3 rfl rfl rfl rfl (h7.vw hS (j:=1) rfl) rfl (by decide) hl_8 rfl fun a w q9 s9 hF hS h9=>hK _ _ (q_x (v:=s9.v) hF hS (ex_assign rfl) rfl rfl fun a hF=>q_end (n_jn ?_))
     obtain rfl:=someI hj3
     exact ⟨q9,s9,hF.sub ⟨rfl,rfl,rfl,rfl,rfl,trivial⟩,hS.mask [true,false,true],h9⟩
   ·rintro a w ⟨q11,s11,hF,hS,h11⟩
    refine n_ib (n_sq ?_)
    refine q_region (q_x (v:=(iV (w64 (t_5 + 1)))) hF hS (ex_ibin rfl rfl rfl) rfl rfl fun a hF=>q_x (v:=(iV (w64 (t_5 + 1)))) hF hS (ex_move rfl) rfl rfl fun a hF=>q_end ?_)
    obtain rfl:=someI hb1
    exact ⟨rfl,q11,s11,_,_,rfl,hF.sub ⟨rfl,rfl,rfl,rfl,rfl,trivial⟩,hS,h11⟩
 ·rintro e a w ⟨q13,s13,rfl,hF,hS,h13⟩
  refine x_ib (n_sq ?_)
  refine q_seq (q_region (q_x (v:=s13.v) hF hS (ex_move rfl) rfl rfl fun a hF=>q_x (v:=s13.v) hF hS (ex_assign rfl) rfl rfl fun a hF=>q_end (n_sq (q_ret ?_))))
  obtain rfl:=someI hr
  exact ret_of hF hS rfl (.tmp rfl .nil) ⟨q13,s13,rfl,hS.sel [0] (by decide),h13⟩

theorem c_impl_crossed (p_s : List impl_Variable) (p_t : impl_Table) (r : (List impl_Variable)) (hr : impl_crossed p_s p_t = some r) (w0 : World) (m : Mem) (hv : Vis m w0) (s1 : Sl) (h1 : Rd m s1 p_s) (s2 : Sl) (h2 : Rd m s2 p_t.Vars) (s3 : Sl) (h3 : Rd m s3 p_t.Where) :
  Ret Tryz.prog 127 [s1.v,(.agg #[(iV p_t.Level),s2.v,s3.v,(iV p_t.Sum)])] w0 (fun v w=>∃ (q0' : Piece) (s0' : Sl),v = s0'.v∧St [] w0 w m [q0']∧OwnL m 95 q0' s0' r):=by
 unfold impl_crossed at hr
 refine ret_start Tryz.func127 rfl 29 rfl rfl m hv fun a hF hS=>q_seq (q_region (q_box (cs:=[(iV p_t.Level),s2.v,s3.v,(iV p_t.Sum)]) hF hS rfl rfl rfl fun a w b4 hF hS=>q_x (v:=nilS.v) hF hS (ex_assign rfl) rfl rfl fun a hF=>q_end (n_sq (q_seq (q_region (q_x (v:=(.pointer (some ⟨b4,1,none⟩))) hF hS (ex_fieldAddr Tryz.underlying29 rfl sz24 rfl rfl) rfl rfl fun a hF=>q_x (v:=s2.v) hF hS (ex_load1 0 0 Tryz.underlying24 rfl rfl rfl rfl) rfl rfl fun a hF=>q_x (v:=(iV (goLen p_t.Vars))) hF hS (ex_len Tryz.underlying24 rfl h2.len) rfl rfl fun a hF=>?_))))))
 obtain ⟨l_5,hl_5,hr⟩:=bindS hr
 refine q_do rfl fun _ hK=>wp_make (z:=((impl_Variable.mk ([] : List UInt8) 0) : impl_Variable)) hF hS Tryz.underlying27 inf95 rfl rfl rfl rfl rfl (by decide) hl_5 rfl fun a w q6 s6 hF hS h6 _=>hK _ _ (q_x (v:=s6.v) hF hS (ex_assign rfl) rfl rfl fun a hF=>q_end (n_sq (q_seq (q_seq (q_region (q_x (v:=(.pointer (some ⟨b4,1,none⟩))) hF hS (ex_fieldAddr Tryz.underlying29 rfl sz24 rfl rfl) rfl rfl fun a hF=>q_x (v:=s2.v) hF hS (ex_load1 1 0 Tryz.underlying24 rfl rfl rfl rfl) rfl rfl fun a hF=>q_x (v:=(iV (goLen p_t.Vars))) hF hS (ex_len Tryz.underlying24 rfl h2.len) rfl rfl fun a hF=>q_x (v:=(iV 0)) hF hS (ex_move rfl) rfl rfl fun a hF=>q_end (n_sq (q_block ?_))))))))
 obtain ⟨out_17,hl1,hr⟩:=bindS hr
 refine q_loop (fun (s : (List impl_Variable) × Int) a w=>∃ (q8 : Piece),∃ out_7,∃ t_9,s = (out_7,t_9)∧Fr a 29 [(0,s1.v),(5,s6.v),(13,s2.v),(14,(iV (goLen p_t.Vars))),(15,(iV t_9))]∧St [] w0 w m [q8]∧OwnL m 95 q8 s6 out_7) (fun (out_17 : (List impl_Variable)) e a w=>∃ (q18 : Piece),e = .exit 0∧Fr a 29 [(5,s6.v)]∧St [] w0 w m [q18]∧OwnL m 95 q18 s6 out_17) hl1 ⟨q6,_,_,rfl,hF.sub ⟨rfl,rfl,rfl,rfl,rfl,trivial⟩,hS.mask [true,false],h6⟩ ?_ ?_
 ·clear hF hS
  rintro s a w st ⟨q8,out_7,t_9,rfl,hF,hS,h8⟩ hb1
  unfold impl_crossed_l1 at hb1
  refine q_seq (q_region (q_x (v:=(.bool (decide (t_9 < (goLen p_t.Vars))))) hF hS (ex_ibin rfl rfl rfl) rfl rfl fun a hF=>q_end (n_sq (q_seq ?_))))
  rcases bcase (decide (t_9 < (goLen p_t.Vars))) with hc2 | hc2
  ·have hb1:=cond_f hc2 hb1
   refine q_cond_f hF rfl hc2 (q_exit (x_sq ?_))
   obtain rfl:=someI hb1
   exact ⟨nofun,.inl ⟨q8,rfl,hF.sub ⟨rfl,trivial⟩,hS,h8⟩⟩
  ·have hb1:=cond_t hc2 hb1
   refine q_cond_t hF rfl hc2 (q_skipc (n_sq (q_seq (q_block (q_seq (q_region (q_x (v:=(iV t_9)) hF hS (ex_move rfl) rfl rfl fun a hF=>?_)))))))
   obtain ⟨e_10,he_10,hb1⟩:=bindS hb1
   obtain ⟨vs11,at11,d11⟩:=h2.at he_10 1 rfl
   obtain rfl : vs11 = [(iV e_10)]:=d11
   refine q_x (v:=(elP s2 (t_9.toNat * 1))) hF hS (ex_indexAddr Tryz.underlying24 sz3 rfl rfl (h2.idx he_10)) rfl rfl fun a hF=>q_x (v:=(iV e_10)) hF hS (ex_loadE1 0 Tryz.underlying3 rfl rfl ((at11).at) rfl rfl) rfl rfl fun a hF=>q_x (v:=(iV t_9)) hF hS (ex_assign rfl) rfl rfl fun a hF=>q_x (v:=(iV e_10)) hF hS (ex_assign rfl) rfl rfl fun a hF=>q_end (n_sq (q_region (q_x (v:=s6.v) hF hS (ex_move rfl) rfl rfl fun a hF=>q_x (v:=(iV t_9)) hF hS (ex_move rfl) rfl rfl fun a hF=>q_x (v:=s1.v) hF hS (ex_move rfl) rfl rfl fun a hF=>q_x (v:=(iV e_10)) hF hS (ex_move rfl) rfl rfl fun a hF=>?_)))
   obtain ⟨e_12,he_12,hb1⟩:=bindS hb1
   obtain ⟨vs13,at13,d13⟩:=h1.at he_12 2 rfl
   obtain rfl : vs13 = [(strV e_12.Name),(iV e_12.Levels)]:=d13
   refine q_x (v:=(elP s1 (e_10.toNat * 2))) hF hS (ex_indexAddr Tryz.underlying27 sz95 rfl rfl (h1.idx he_12)) rfl rfl fun a hF=>q_x (v:=(.agg #[(strV e_12.Name),(iV e_12.Levels)])) hF hS (ex_loadEA (us:=[(strV e_12.Name),(iV e_12.Levels)]) 0 Tryz.underlying95 rfl sz95 rfl ((at13).at) rfl rfl rfl) rfl rfl fun a hF=>?_
   obtain ⟨e_14,he_14,hb1⟩:=bindS hb1
   obtain ⟨vs15,at15,d15⟩:=h8.at he_14 2 rfl
   obtain rfl : vs15 = [(strV e_14.Name),(iV e_14.Levels)]:=d15
   refine q_x (v:=(elP s6 (t_9.toNat * 2))) hF hS (ex_indexAddr Tryz.underlying27 sz95 rfl rfl (h8.idx he_14)) rfl rfl fun a hF=>q_do rfl fun _ hK=>wp_storeE (e':=e_12) (us:=[(strV e_12.Name),(iV e_12.Levels)]) (vs:=[(strV e_14.Name),(iV e_14.Levels)]) 0 hF hS h8 sz95 rfl rfl rfl rfl rfl rfl rfl he_14 at15 rfl rfl rfl fun w q16 hS h16=>hK _ _ (q_end (n_ib (n_sq (q_region (q_x (v:=(iV (w64 (t_9 + 1)))) hF hS (ex_ibin rfl rfl rfl) rfl rfl fun a hF=>q_x (v:=(iV (w64 (t_9 + 1)))) hF hS (ex_move rfl) rfl rfl fun a hF=>q_end ?_)))))
   obtain rfl:=someI hb1
   exact ⟨rfl,q16,_,_,rfl,hF.sub ⟨rfl,rfl,rfl,rfl,rfl,trivial⟩,hS,h16⟩
 ·rintro e a w ⟨q18,rfl,hF,hS,h18⟩
  refine x_ib (n_sq ?_)
  refine q_seq (q_region (q_x (v:=s6.v) hF hS (ex_move rfl) rfl rfl fun a hF=>q_x (v:=s6.v) hF hS (ex_assign rfl) rfl rfl fun a hF=>q_end (n_sq (q_ret ?_))))
  obtain rfl:=someI hr
  exact ret_of hF hS rfl (.tmp rfl .nil) ⟨q18,s6,rfl,hS.sel [0] (by decide),h18⟩

theorem c_impl_combinations (p_s : List impl_Variable) (r : Int) (hr : impl_combinations p_s = some r) (w0 : World) (m : Mem) (hv : Vis m w0) (s1 : Sl) (h1 : Rd m s1 p_s) :
  Ret Tryz.prog 126 [s1.v] w0 (fun v _=>v = (iV r)):=by
 unfold impl_combinations at hr
 refine ret_start Tryz.func126 rfl 18 rfl rfl m hv fun a hF hS=>q_seq (q_region (q_x (v:=(iV 0)) hF hS (ex_assign rfl) rfl rfl fun a hF=>q_end (n_sq (q_seq (q_region (q_x (v:=(iV 1)) hF hS (ex_assign rfl) rfl rfl fun a hF=>q_end (n_sq (q_seq (q_seq (q_region (q_x (v:=s1.v) hF hS (ex_move rfl) rfl rfl fun a hF=>q_x (v:=(iV (goLen p_s))) hF hS (ex_len Tryz.underlying27 rfl h1.len) rfl rfl fun a hF=>q_x (v:=(iV 0)) hF hS (ex_move rfl) rfl rfl fun a hF=>q_end (n_sq (q_block ?_)))))))))))))
 obtain ⟨n_7,hl1,hr⟩:=bindS hr
 refine q_loop (fun (s : Int × Int) a w=>∃ n_2,∃ t_3,s = (n_2,t_3)∧Fr a 18 [(3,(iV n_2)),(6,s1.v),(7,(iV (goLen p_s))),(8,(iV t_3))]∧St [] w0 w m []) (fun (n_7 : Int) e a w=>e = .exit 0∧Fr a 18 [(3,(iV n_7))]∧St [] w0 w m []) hl1 ⟨_,_,rfl,hF.sub ⟨rfl,rfl,rfl,rfl,trivial⟩,hS⟩ ?_ ?_
 ·clear hF hS
  rintro s a w st ⟨n_2,t_3,rfl,hF,hS⟩ hb1
  unfold impl_combinations_l1 at hb1
  refine q_seq (q_region (q_x (v:=(.bool (decide (t_3 < (goLen p_s))))) hF hS (ex_ibin rfl rfl rfl) rfl rfl fun a hF=>q_end (n_sq (q_seq ?_))))
  rcases bcase (decide (t_3 < (goLen p_s))) with hc2 | hc2
  ·have hb1:=cond_f hc2 hb1
   refine q_cond_f hF rfl hc2 (q_exit (x_sq ?_))
   obtain rfl:=someI hb1
   exact ⟨nofun,.inl ⟨rfl,hF.sub ⟨rfl,trivial⟩,hS⟩⟩
  ·have hb1:=cond_t hc2 hb1
   refine q_cond_t hF rfl hc2 (q_skipc (n_sq (q_seq (q_block (q_seq (q_region ?_))))))
   obtain ⟨e_4,he_4,hb1⟩:=bindS hb1
   obtain ⟨vs5,at5,d5⟩:=h1.at he_4 2 rfl
   obtain rfl : vs5 = [(strV e_4.Name),(iV e_4.Levels)]:=d5
   refine q_x (v:=(elP s1 (t_3.toNat * 2))) hF hS (ex_indexAddr Tryz.underlying27 sz95 rfl rfl (h1.idx he_4)) rfl rfl fun a hF=>q_x (v:=(.agg #[(strV e_4.Name),(iV e_4.Levels)])) hF hS (ex_loadEA (us:=[(strV e_4.Name),(iV e_4.Levels)]) 0 Tryz.underlying95 rfl sz95 rfl ((at5).at) rfl rfl rfl) rfl rfl fun a hF=>q_alloc (cs:=[(strV ([] : List UInt8)),(iV 0)]) hF hS rfl rfl rfl fun a w b6 hF hS=>q_store (vs:=[(strV e_4.Name),(iV e_4.Levels)]) (cs':=[(strV e_4.Name),(iV e_4.Levels)]) 0 0 hF hS sz95 rfl rfl rfl rfl rfl rfl rfl rfl fun a w hF hS=>q_end (n_sq (q_region (q_x (v:=(iV n_2)) hF hS (ex_move rfl) rfl rfl fun a hF=>q_x (v:=(.pointer (some ⟨b6,1,none⟩))) hF hS (ex_fieldAddr Tryz.underlying95 rfl sz3 rfl rfl) rfl rfl fun a hF=>q_x (v:=(iV e_4.Levels)) hF hS (ex_load1 0 0 Tryz.underlying3 rfl rfl rfl rfl) rfl rfl fun a hF=>q_x (v:=(iV (w64 (n_2 * e_4.Levels)))) hF hS (ex_ibin rfl rfl rfl) rfl rfl fun a hF=>q_x (v:=(iV (w64 (n_2 * e_4.Levels)))) hF hS (ex_assign rfl) rfl rfl fun a hF=>q_end (n_ib (n_sq (q_region (q_x (v:=(iV (w64 (t_3 + 1)))) hF hS (ex_ibin rfl rfl rfl) rfl rfl fun a hF=>q_x (v:=(iV (w64 (t_3 + 1)))) hF hS (ex_move rfl) rfl rfl fun a hF=>q_end ?_)))))))
   obtain rfl:=someI hb1
   exact ⟨rfl,_,_,rfl,hF.sub ⟨rfl,rfl,rfl,rfl,trivial⟩,hS.mask [false]⟩
 ·rintro e a w ⟨rfl,hF,hS⟩
  refine x_ib (n_sq ?_)
  refine q_seq (q_region (q_x (v:=(iV n_7)) hF hS (ex_move rfl) rfl rfl fun a hF=>q_x (v:=(iV n_7)) hF hS (ex_assign rfl) rfl rfl fun a hF=>q_end (n_sq (q_ret ?_))))
  obtain rfl:=someI hr
  exact ret_of hF hS rfl (.tmp rfl .nil) rfl

theorem c_impl_cellCount (p_g : impl_Geo) (p_s : List impl_Variable) (p_t : impl_Table) (r : Int) (hr : impl_cellCount p_g p_s p_t = some r) (w0 : World) (m : Mem) (hv : Vis m w0) (s1 : Sl) (h1 : Rd m s1 p_g.Parents) (s2 : Sl) (h2 : Rd m s2 p_s) (s3 : Sl) (h3 : Rd m s3 p_t.Vars) (s4 : Sl) (h4 : Rd m s4 p_t.Where) :
  Ret Tryz.prog 89 [(.agg #[s1.v]),s2.v,(.agg #[(iV p_t.Level),s3.v,s4.v,(iV p_t.Sum)])] w0 (fun v _=>v = (iV r)):=by
 unfold impl_cellCount at hr
 refine ret_start Tryz.func89 rfl 17 rfl rfl m hv fun a hF hS=>q_seq (q_region (q_box (cs:=[s1.v]) hF hS rfl rfl rfl fun a w b5 hF hS=>q_box (cs:=[(iV p_t.Level),s3.v,s4.v,(iV p_t.Sum)]) hF hS rfl rfl rfl fun a w b6 hF hS=>q_x (v:=(iV 0)) hF hS (ex_assign rfl) rfl rfl fun a hF=>q_end (n_sq (q_seq (e_region ⟨[],[]⟩ mixed fun w' hw'=>?_)))))
 have hS:=hS.below hw'
 refine e_x (v:=(.agg #[s1.v])) 0 hF hS rfl (ex_loadA (vs:=[s1.v]) 1 0 Tryz.underlying26 rfl sz26 rfl rfl rfl rfl) rfl rfl (by kernel_rfl) (by kernel_rfl) (by kernel_rfl) (by kernel_rfl) fun a hF=>e_p (v:=(.pointer (some ⟨b6,0,none⟩))) 1 hF rfl (ex_fieldAddr Tryz.underlying29 rfl sz3 rfl rfl) rfl rfl (by kernel_rfl) (by kernel_rfl) (by kernel_rfl) fun a hF=>e_x (v:=(iV p_t.Level)) 2 hF hS rfl (ex_load1 0 0 Tryz.underlying3 rfl rfl rfl rfl) rfl rfl (by kernel_rfl) (by kernel_rfl) (by kernel_rfl) (by kernel_rfl) fun a hF=>e_p (v:=s2.v) 5 hF rfl (ex_move rfl) rfl rfl (by kernel_rfl) (by kernel_rfl) (by kernel_rfl) fun a hF=>e_x (v:=(.agg #[(iV p_t.Level),s3.v,s4.v,(iV p_t.Sum)])) 6 hF hS rfl (ex_loadA (vs:=[(iV p_t.Level),s3.v,s4.v,(iV p_t.Sum)]) 0 0 Tryz.underlying29 rfl sz29 rfl rfl rfl rfl) rfl rfl (by kernel_rfl) (by kernel_rfl) (by kernel_rfl) (by kernel_rfl) fun a hF=>e_one 3 (by kernel_rfl) ?_
 obtain ⟨t_13,ht_13,hr⟩:=bindS hr
 refine e_call (vs:=[(.agg #[s1.v]),(iV p_t.Level)]) hF hS rfl Tryz.func125 (by kernel_rfl) rfl rfl rfl (c_impl_areasAt p_g p_t.Level t_13 ht_13 _ m hS.vis s1 h1) ?_
 rintro a w _ ⟨q15,s15,rfl,hR14,h15⟩ hF hS2
 have hS : St _ _ _ _ [q15,[⟨b6,[(iV p_t.Level),s3.v,s4.v,(iV p_t.Sum)],29⟩],[⟨b5,[s1.v],26⟩]]:=hS.joinF hR14
 refine e_p (v:=(iV (goLen t_13))) 4 hF rfl (ex_len Tryz.underlying24 rfl h15.len) rfl rfl (by kernel_rfl) (by kernel_rfl) (by kernel_rfl) fun a hF=>e_one 7 (by kernel_rfl) ?_
 obtain ⟨t_16,ht_16,hr⟩:=bindS hr
 refine e_call (vs:=[s2.v,(.agg #[(iV p_t.Level),s3.v,s4.v,(iV p_t.Sum)])]) hF hS rfl Tryz.func127 (by kernel_rfl) rfl rfl rfl (c_impl_crossed p_s p_t t_16 ht_16 _ m hS.vis s2 h2 s3 h3 s4 h4) ?_
 rintro a w _ ⟨q18,s18,rfl,hR17,h18⟩ hF hS2
 have hS : St _ _ _ _ [q18,q15,[⟨b6,[(iV p_t.Level),s3.v,s4.v,(iV p_t.Sum)],29⟩],[⟨b5,[s1.v],26⟩]]:=hS.joinF hR17
 refine e_one 8 (by kernel_rfl) ?_
 obtain ⟨m20,hl20,hv20,hz20⟩:=hS.lend
 obtain ⟨t_19,ht_19,hr⟩:=bindS hr
 refine e_call (vs:=[s18.v]) hF hS rfl Tryz.func126 (by kernel_rfl) rfl rfl rfl (c_impl_combinations t_16 t_19 ht_19 _ m20 hv20 s18 (h18.froz hl20 (hz20 0 _ rfl))) ?_
 rintro a w _ rfl hF hS
 refine e_p (v:=(iV (w64 ((goLen t_13) * t_19)))) 9 hF rfl (ex_ibin rfl rfl rfl) rfl rfl (by kernel_rfl) (by kernel_rfl) (by kernel_rfl) fun a hF=>e_p (v:=(iV (w64 ((goLen t_13) * t_19)))) 10 hF rfl (ex_assign rfl) rfl rfl (by kernel_rfl) (by kernel_rfl) (by kernel_rfl) fun a hF=>e_end (by kernel_rfl) (n_sq (q_ret ?_)) _
 obtain rfl:=someI hr
 exact ret_of hF hS rfl (.tmp rfl .nil) rfl

theorem c_impl_isTable (p_g : impl_Geo) (p_s : List impl_Variable) (p_t : impl_Table) (r : Bool) (hr : impl_isTable p_g p_s p_t = some r) (w0 : World) (m : Mem) (hv : Vis m w0) (s1 : Sl) (h1 : Rd m s1 p_g.Parents) (s2 : Sl) (h2 : Rd m s2 p_s) (s3 : Sl) (h3 : Rd m s3 p_t.Vars) (s4 : Sl) (h4 : Rd m s4 p_t.Where) :
  Ret Tryz.prog 37 [(.agg #[s1.v]),s2.v,(.agg #[(iV p_t.Level),s3.v,s4.v,(iV p_t.Sum)])] w0 (fun v _=>v = (.bool r)):=by
 unfold impl_isTable at hr
 refine ret_start Tryz.func37 rfl 42 rfl rfl m hv fun a hF hS=>q_seq (q_region (q_box (cs:=[s1.v]) hF hS rfl rfl rfl fun a w b5 hF hS=>q_box (cs:=[(iV p_t.Level),s3.v,s4.v,(iV p_t.Sum)]) hF hS rfl rfl rfl fun a w b6 hF hS=>q_x (v:=(.bool false)) hF hS (ex_assign rfl) rfl rfl fun a hF=>q_end (n_sq (q_seq (q_seq ?_)))))
 obtain ⟨t_9,hj1,hr⟩:=bindS hr
 refine q_join (fun a w=>Fr a 42 [(1,s2.v),(3,(.pointer (some ⟨b5,0,none⟩))),(5,(.pointer (some ⟨b6,0,none⟩))),(31,(.bool t_9))]∧St [] w0 w m [[⟨b6,[(iV p_t.Level),s3.v,s4.v,(iV p_t.Sum)],29⟩],[⟨b5,[s1.v],26⟩]]) ?_ ?_
 ·refine q_region (q_x (v:=s2.v) hF hS (ex_move rfl) rfl rfl fun a hF=>q_x (v:=(.pointer (some ⟨b6,1,none⟩))) hF hS (ex_fieldAddr Tryz.underlying29 rfl sz24 rfl rfl) rfl rfl fun a hF=>q_x (v:=s3.v) hF hS (ex_load1 0 0 Tryz.underlying24 rfl rfl rfl rfl) rfl rfl fun a hF=>?_)
  obtain ⟨t_7,ht_7,hj1⟩:=bindS hj1
  refine q_call (vs:=[s2.v,s3.v]) hF hS Tryz.func87 (by kernel_rfl) rfl rfl rfl (c_impl_areVars p_s p_t.Vars t_7 ht_7 _ m hS.vis s2 h2 s3 h3) ?_
  rintro a w _ rfl hF hS
  refine q_x (v:=(.bool (!t_7))) hF hS (ex_not rfl) rfl rfl fun a hF=>q_x (v:=(.bool (!t_7))) hF hS (ex_move rfl) rfl rfl fun a hF=>?_
  rcases bcase (!t_7) with hc2 | hc2
  ·have hj1:=cond_f hc2 hj1
   refine q_xg (v:=s2.v) hF hS (ex_move rfl) (wanted_t hF rfl rfl rfl hc2) rfl fun a hF=>q_xg (v:=(.pointer (some ⟨b6,2,none⟩))) hF hS (ex_fieldAddr Tryz.underlying29 rfl sz24 rfl rfl) (wanted_t hF rfl rfl rfl hc2) rfl fun a hF=>q_xg (v:=s4.v) hF hS (ex_load1 0 0 Tryz.underlying24 rfl rfl rfl rfl) (wanted_t hF rfl rfl rfl hc2) rfl fun a hF=>?_
   obtain ⟨t_8,ht_8,hj1⟩:=bindS hj1
   refine q_callg (vs:=[s2.v,s4.v]) hF hS (wanted_t hF rfl rfl rfl hc2) Tryz.func88 (by kernel_rfl) rfl rfl rfl (c_impl_isWhere p_s p_t.Where t_8 ht_8 _ m hS.vis s2 h2 s4 h4) ?_
   rintro a w _ rfl hF hS
   refine q_xg (v:=(.bool (!t_8))) hF hS (ex_not rfl) (wanted_t hF rfl rfl rfl hc2) rfl fun a hF=>q_x (v:=(.bool (!t_8))) hF hS (ex_pick_f rfl rfl hc2) rfl rfl fun a hF=>q_x (v:=(.bool (!t_8))) hF hS (ex_move rfl) rfl rfl fun a hF=>?_
   rcases bcase (!t_8) with hc3 | hc3
   ·have hj1:=cond_f hc3 hj1
    refine q_xg (v:=(.pointer (some ⟨b6,3,none⟩))) hF hS (ex_fieldAddr Tryz.underlying29 rfl sz3 rfl rfl) (wanted_t hF rfl rfl rfl hc3) rfl fun a hF=>q_xg (v:=(iV p_t.Sum)) hF hS (ex_load1 0 0 Tryz.underlying3 rfl rfl rfl rfl) (wanted_t hF rfl rfl rfl hc3) rfl fun a hF=>q_xg (v:=(.bool (decide (p_t.Sum < (-1))))) hF hS (ex_ibin rfl rfl rfl) (wanted_t hF rfl rfl rfl hc3) rfl fun a hF=>q_x (v:=(.bool (decide (p_t.Sum < (-1))))) hF hS (ex_pick_f rfl rfl hc3) rfl rfl fun a hF=>q_x (v:=(.bool (decide (p_t.Sum < (-1))))) hF hS (ex_move rfl) rfl rfl fun a hF=>?_
    rcases bcase (decide (p_t.Sum < (-1))) with hc4 | hc4
    ·have hj1:=cond_f hc4 hj1
     refine q_xg (v:=(.pointer (some ⟨b6,3,none⟩))) hF hS (ex_fieldAddr Tryz.underlying29 rfl sz3 rfl rfl) (wanted_t hF rfl rfl rfl hc4) rfl fun a hF=>q_xg (v:=(iV p_t.Sum)) hF hS (ex_load1 0 0 Tryz.underlying3 rfl rfl rfl rfl) (wanted_t hF rfl rfl rfl hc4) rfl fun a hF=>q_xg (v:=s2.v) hF hS (ex_move rfl) (wanted_t hF rfl rfl rfl hc4) rfl fun a hF=>q_xg (v:=(iV (goLen p_s))) hF hS (ex_len Tryz.underlying27 rfl h2.len) (wanted_t hF rfl rfl rfl hc4) rfl fun a hF=>q_xg (v:=(.bool (decide ((goLen p_s) ≤ p_t.Sum)))) hF hS (ex_ibin rfl rfl rfl) (wanted_t hF rfl rfl rfl hc4) rfl fun a hF=>q_x (v:=(.bool (decide ((goLen p_s) ≤ p_t.Sum)))) hF hS (ex_pick_f rfl rfl hc4) rfl rfl fun a hF=>q_end (n_jn ?_)
     obtain rfl:=someI hj1
     exact ⟨hF.sub ⟨rfl,rfl,rfl,rfl,trivial⟩,hS⟩
    ·have hj1:=cond_t hc4 hj1
     refine q_skip hF (wanted_f hF rfl rfl rfl hc4 rfl) rfl fun a hF=>q_skip hF (wanted_f hF rfl rfl rfl hc4 rfl) rfl fun a hF=>q_skip hF (wanted_f hF rfl rfl rfl hc4 rfl) rfl fun a hF=>q_skip hF (wanted_f hF rfl rfl rfl hc4 rfl) rfl fun a hF=>q_skip hF (wanted_f hF rfl rfl rfl hc4 rfl) rfl fun a hF=>q_x (v:=(.bool true)) hF hS (ex_pick_t rfl rfl hc4) rfl rfl fun a hF=>q_end (n_jn ?_)
     obtain rfl:=someI hj1
     exact ⟨hF.sub ⟨rfl,rfl,rfl,rfl,trivial⟩,hS⟩
   ·have hj1:=cond_t hc3 hj1
    refine q_skip hF (wanted_f hF rfl rfl rfl hc3 rfl) rfl fun a hF=>q_skip hF (wanted_f hF rfl rfl rfl hc3 rfl) rfl fun a hF=>q_skip hF (wanted_f hF rfl rfl rfl hc3 rfl) rfl fun a hF=>q_x (v:=(.bool true)) hF hS (ex_pick_t rfl rfl hc3) rfl rfl fun a hF=>q_x (v:=(.bool true)) hF hS (ex_move rfl) rfl rfl fun a hF=>q_skip hF (wanted_f hF rfl rfl rfl rfl rfl) rfl fun a hF=>q_skip hF (wanted_f hF rfl rfl rfl rfl rfl) rfl fun a hF=>q_skip hF (wanted_f hF rfl rfl rfl rfl rfl) rfl fun a hF=>q_skip hF (wanted_f hF rfl rfl rfl rfl rfl) rfl fun a hF=>q_skip hF (wanted_f hF rfl rfl rfl rfl rfl) rfl fun a hF=>q_x (v:=(.bool true)) hF hS (ex_pick_t rfl rfl rfl) rfl rfl fun a hF=>q_end (n_jn ?_)
    obtain rfl:=someI hj1
    exact ⟨hF.sub ⟨rfl,rfl,rfl,rfl,trivial⟩,hS⟩
  ·have hj1:=cond_t hc2 hj1
   refine q_skip hF (wanted_f hF rfl rfl rfl hc2 rfl) rfl fun a hF=>q_skip hF (wanted_f hF rfl rfl rfl hc2 rfl) rfl fun a hF=>q_skip hF (wanted_f hF rfl rfl rfl hc2 rfl) rfl fun a hF=>q_skip hF (wanted_f hF rfl rfl rfl hc2 rfl) rfl fun a hF=>q_skip hF (wanted_f hF rfl rfl rfl hc2 rfl) rfl fun a hF=>q_x (v:=(.bool true)) hF hS (ex_pick_t rfl rfl hc2) rfl rfl fun a hF=>q_x (v:=(.bool true)) hF hS (ex_move rfl) rfl rfl fun a hF=>q_skip hF (wanted_f hF rfl rfl rfl rfl rfl) rfl fun a hF=>q_skip hF (wanted_f hF rfl rfl rfl rfl rfl) rfl fun a hF=>q_skip hF (wanted_f hF rfl rfl rfl rfl rfl) rfl fun a hF=>q_x (v:=(.bool true)) hF hS (ex_pick_t rfl rfl rfl) rfl rfl fun a hF=>q_x (v:=(.bool true)) hF hS (ex_move rfl) rfl rfl fun a hF=>q_skip hF (wanted_f hF rfl rfl rfl rfl rfl) rfl fun a hF=>q_skip hF (wanted_f hF rfl rfl rfl rfl rfl) rfl fun a hF=>q_skip hF (wanted_f hF rfl rfl rfl rfl rfl) rfl fun a hF=>q_skip hF (wanted_f hF rfl rfl rfl rfl rfl) rfl fun a hF=>q_skip hF (wanted_f hF rfl rfl rfl rfl rfl) rfl fun a hF=>q_x (v:=(.bool true)) hF hS (ex_pick_t rfl rfl rfl) rfl rfl fun a hF=>q_end (n_jn ?_)
   obtain rfl:=someI hj1
   exact ⟨hF.sub ⟨rfl,rfl,rfl,rfl,trivial⟩,hS⟩
 ·rintro a w ⟨hF,hS⟩
  refine n_sq ?_
  rcases bcase (t_9) with hc5 | hc5
  ·have hr:=cond_f hc5 hr
   refine q_cond_f hF rfl hc5 (q_skipc (n_sq (q_seq (q_region (q_x (v:=(.agg #[s1.v])) hF hS (ex_loadA (vs:=[s1.v]) 1 0 Tryz.underlying26 rfl sz26 rfl rfl rfl rfl) rfl rfl fun a hF=>q_x (v:=s2.v) hF hS (ex_move rfl) rfl rfl fun a hF=>q_x (v:=(.agg #[(iV p_t.Level),s3.v,s4.v,(iV p_t.Sum)])) hF hS (ex_loadA (vs:=[(iV p_t.Level),s3.v,s4.v,(iV p_t.Sum)]) 0 0 Tryz.underlying29 rfl sz29 rfl rfl rfl rfl) rfl rfl fun a hF=>?_)))))
   obtain ⟨t_10,ht_10,hr⟩:=bindS hr
   refine q_call (vs:=[(.agg #[s1.v]),s2.v,(.agg #[(iV p_t.Level),s3.v,s4.v,(iV p_t.Sum)])]) hF hS Tryz.func89 (by kernel_rfl) rfl rfl rfl (c_impl_cellCount p_g p_s p_t t_10 ht_10 _ m hS.vis s1 h1 s2 h2 s3 h3 s4 h4) ?_
   rintro a w _ rfl hF hS
   refine q_x (v:=(iV t_10)) hF hS (ex_assign rfl) rfl rfl fun a hF=>q_end (n_sq (q_seq ?_))
   obtain ⟨t_11,hj6,hr⟩:=bindS hr
   refine q_join (fun a w=>Fr a 42 [(6,(.bool t_11))]∧St [] w0 w m []) ?_ ?_
   ·refine q_region (q_x (v:=(iV t_10)) hF hS (ex_move rfl) rfl rfl fun a hF=>q_x (v:=(.bool (decide (0 < t_10)))) hF hS (ex_ibin rfl rfl rfl) rfl rfl fun a hF=>q_x (v:=(.bool (decide (0 < t_10)))) hF hS (ex_move rfl) rfl rfl fun a hF=>?_)
    rcases bcase (decide (0 < t_10)) with hc7 | hc7
    ·have hj6:=cond_f hc7 hj6
     refine q_skip hF (wanted_f hF rfl rfl rfl hc7 rfl) rfl fun a hF=>q_skip hF (wanted_f hF rfl rfl rfl hc7 rfl) rfl fun a hF=>q_x (v:=(.bool false)) hF hS (ex_pick_f rfl rfl hc7) rfl rfl fun a hF=>q_x (v:=(.bool false)) hF hS (ex_assign rfl) rfl rfl fun a hF=>q_end (n_jn ?_)
     obtain rfl:=someI hj6
     exact ⟨hF.sub ⟨rfl,trivial⟩,hS.mask [false,false]⟩
    ·have hj6:=cond_t hc7 hj6
     refine q_xg (v:=(iV t_10)) hF hS (ex_move rfl) (wanted_t hF rfl rfl rfl hc7) rfl fun a hF=>q_xg (v:=(.bool (decide (t_10 ≤ 600)))) hF hS (ex_ibin rfl rfl rfl) (wanted_t hF rfl rfl rfl hc7) rfl fun a hF=>q_x (v:=(.bool (decide (t_10 ≤ 600)))) hF hS (ex_pick_t rfl rfl hc7) rfl rfl fun a hF=>q_x (v:=(.bool (decide (t_10 ≤ 600)))) hF hS (ex_assign rfl) rfl rfl fun a hF=>q_end (n_jn ?_)
     obtain rfl:=someI hj6
     exact ⟨hF.sub ⟨rfl,trivial⟩,hS.mask [false,false]⟩
   ·rintro a w ⟨hF,hS⟩
    refine n_sq (q_ret ?_)
    obtain rfl:=someI hr
    exact ret_of hF hS rfl (.tmp rfl .nil) rfl
  ·have hr:=cond_t hc5 hr
   refine q_cond_t hF rfl hc5 (q_seq (q_region (q_x (v:=(.bool false)) hF hS (ex_assign rfl) rfl rfl fun a hF=>q_end (n_sq (q_ret (r_sq ?_))))))
   obtain rfl:=someI hr
   exact ret_of hF hS rfl (.tmp rfl .nil) rfl

theorem c_impl_areTabled (p_g : impl_Geo) (p_s : List impl_Variable) (p_t : impl_Table) (r : Bool) (hr : impl_areTabled p_g p_s p_t = some r) (w0 : World) (m : Mem) (hv : Vis m w0) (s1 : Sl) (h1 : Rd m s1 p_g.Parents) (s2 : Sl) (h2 : Rd m s2 p_s) (s3 : Sl) (h3 : Rd m s3 p_t.Vars) (s4 : Sl) (h4 : Rd m s4 p_t.Where) :
  Ret Tryz.prog 30 [(.agg #[s1.v]),s2.v,(.agg #[(iV p_t.Level),s3.v,s4.v,(iV p_t.Sum)])] w0 (fun v _=>v = (.bool r)):=by
 unfold impl_areTabled at hr
 refine ret_start Tryz.func30 rfl 19 rfl rfl m hv fun a hF hS=>q_seq (q_region (q_box (cs:=[s1.v]) hF hS rfl rfl rfl fun a w b5 hF hS=>q_box (cs:=[(iV p_t.Level),s3.v,s4.v,(iV p_t.Sum)]) hF hS rfl rfl rfl fun a w b6 hF hS=>q_x (v:=(.bool false)) hF hS (ex_assign rfl) rfl rfl fun a hF=>q_end (n_sq (q_seq ?_))))
 obtain ⟨t_10,hj1,hr⟩:=bindS hr
 refine q_join (fun a w=>Fr a 19 [(6,(.bool t_10))]∧St [] w0 w m []) ?_ ?_
 ·refine q_region (q_x (v:=(.agg #[s1.v])) hF hS (ex_loadA (vs:=[s1.v]) 1 0 Tryz.underlying26 rfl sz26 rfl rfl rfl rfl) rfl rfl fun a hF=>?_)
  obtain ⟨t_7,ht_7,hj1⟩:=bindS hj1
  refine q_call (vs:=[(.agg #[s1.v])]) hF hS Tryz.func34 (by kernel_rfl) rfl rfl rfl (c_impl_IsGeo p_g t_7 ht_7 _ m hS.vis s1 h1) ?_
  rintro a w _ rfl hF hS
  refine q_x (v:=(.bool t_7)) hF hS (ex_move rfl) rfl rfl fun a hF=>?_
  rcases bcase (t_7) with hc2 | hc2
  ·have hj1:=cond_f hc2 hj1
   refine q_skip hF (wanted_f hF rfl rfl rfl hc2 rfl) rfl fun a hF=>q_skip hF (wanted_f hF rfl rfl rfl hc2 rfl) rfl fun a hF=>q_x (v:=(.bool false)) hF hS (ex_pick_f rfl rfl hc2) rfl rfl fun a hF=>q_x (v:=(.bool false)) hF hS (ex_move rfl) rfl rfl fun a hF=>q_skip hF (wanted_f hF rfl rfl rfl rfl rfl) rfl fun a hF=>q_skip hF (wanted_f hF rfl rfl rfl rfl rfl) rfl fun a hF=>q_skip hF (wanted_f hF rfl rfl rfl rfl rfl) rfl fun a hF=>q_skip hF (wanted_f hF rfl rfl rfl rfl rfl) rfl fun a hF=>q_x (v:=(.bool false)) hF hS (ex_pick_f rfl rfl rfl) rfl rfl fun a hF=>q_x (v:=(.bool false)) hF hS (ex_assign rfl) rfl rfl fun a hF=>q_end (n_jn ?_)
   obtain rfl:=someI hj1
   exact ⟨hF.sub ⟨rfl,trivial⟩,hS.mask [false,false]⟩
  ·have hj1:=cond_t hc2 hj1
   refine q_xg (v:=s2.v) hF hS (ex_move rfl) (wanted_t hF rfl rfl rfl hc2) rfl fun a hF=>?_
   obtain ⟨t_8,ht_8,hj1⟩:=bindS hj1
   refine q_callg (vs:=[s2.v]) hF hS (wanted_t hF rfl rfl rfl hc2) Tryz.func35 (by kernel_rfl) rfl rfl rfl (c_impl_IsSchema p_s t_8 ht_8 _ m hS.vis s2 h2) ?_
   rintro a w _ rfl hF hS
   refine q_x (v:=(.bool t_8)) hF hS (ex_pick_t rfl rfl hc2) rfl rfl fun a hF=>q_x (v:=(.bool t_8)) hF hS (ex_move rfl) rfl rfl fun a hF=>?_
   rcases bcase (t_8) with hc3 | hc3
   ·have hj1:=cond_f hc3 hj1
    refine q_skip hF (wanted_f hF rfl rfl rfl hc3 rfl) rfl fun a hF=>q_skip hF (wanted_f hF rfl rfl rfl hc3 rfl) rfl fun a hF=>q_skip hF (wanted_f hF rfl rfl rfl hc3 rfl) rfl fun a hF=>q_skip hF (wanted_f hF rfl rfl rfl hc3 rfl) rfl fun a hF=>q_x (v:=(.bool false)) hF hS (ex_pick_f rfl rfl hc3) rfl rfl fun a hF=>q_x (v:=(.bool false)) hF hS (ex_assign rfl) rfl rfl fun a hF=>q_end (n_jn ?_)
    obtain rfl:=someI hj1
    exact ⟨hF.sub ⟨rfl,trivial⟩,hS.mask [false,false]⟩
   ·have hj1:=cond_t hc3 hj1
    refine q_xg (v:=(.agg #[s1.v])) hF hS (ex_loadA (vs:=[s1.v]) 1 0 Tryz.underlying26 rfl sz26 rfl rfl rfl rfl) (wanted_t hF rfl rfl rfl hc3) rfl fun a hF=>q_xg (v:=s2.v) hF hS (ex_move rfl) (wanted_t hF rfl rfl rfl hc3) rfl fun a hF=>q_xg (v:=(.agg #[(iV p_t.Level),s3.v,s4.v,(iV p_t.Sum)])) hF hS (ex_loadA (vs:=[(iV p_t.Level),s3.v,s4.v,(iV p_t.Sum)]) 0 0 Tryz.underlying29 rfl sz29 rfl rfl rfl rfl) (wanted_t hF rfl rfl rfl hc3) rfl fun a hF=>?_
    obtain ⟨t_9,ht_9,hj1⟩:=bindS hj1
    refine q_callg (vs:=[(.agg #[s1.v]),s2.v,(.agg #[(iV p_t.Level),s3.v,s4.v,(iV p_t.Sum)])]) hF hS (wanted_t hF rfl rfl rfl hc3) Tryz.func37 (by kernel_rfl) rfl rfl rfl (c_impl_isTable p_g p_s p_t t_9 ht_9 _ m hS.vis s1 h1 s2 h2 s3 h3 s4 h4) ?_
    rintro a w _ rfl hF hS
    refine q_x (v:=(.bool t_9)) hF hS (ex_pick_t rfl rfl hc3) rfl rfl fun a hF=>q_x (v:=(.bool t_9)) hF hS (ex_assign rfl) rfl rfl fun a hF=>q_end (n_jn ?_)
    obtain rfl:=someI hj1
    exact ⟨hF.sub ⟨rfl,trivial⟩,hS.mask [false,false]⟩
 ·rintro a w ⟨hF,hS⟩
  refine n_sq (q_ret ?_)
  obtain rfl:=someI hr
  exact ret_of hF hS rfl (.tmp rfl .nil) rfl

theorem c_impl_setText (p_set : Int) (r : (List UInt8)) (hr : impl_setText p_set = some r) (w0 : World) (m : Mem) (hv : Vis m w0) :
  Ret Tryz.prog 69 [(iV p_set)] w0 (fun v _=>v = (strV r)):=by
 unfold impl_setText at hr
 refine ret_start Tryz.func69 rfl 23 rfl rfl m hv fun a hF hS=>q_seq (q_region (q_x (v:=(strV ([] : List UInt8))) hF hS (ex_assign rfl) rfl rfl fun a hF=>q_end (n_sq (q_seq (q_region (q_x (v:=nilS.v) hF hS (ex_assign rfl) rfl rfl fun a hF=>q_end (n_sq (q_seq (q_seq (q_region (q_x (v:=(iV 0)) hF hS (ex_move rfl) rfl rfl fun a hF=>q_end (n_sq (q_block ?_)))))))))))))
 obtain ⟨parts_11,hl1,hr⟩:=bindS hr
 refine q_loop (fun (s : (List (List UInt8)) × Int) a w=>∃ (q2 : Piece),∃ (s2 : Sl),∃ parts_1,∃ t_3,s = (parts_1,t_3)∧Fr a 23 [(0,(iV p_set)),(3,s2.v),(5,(iV t_3))]∧St [] w0 w m [q2]∧OwnL m 9 q2 s2 parts_1) (fun (parts_11 : (List (List UInt8))) e a w=>∃ (q12 : Piece),∃ (s12 : Sl),e = .exit 0∧Fr a 23 [(3,s12.v)]∧St [] w0 w m [q12]∧OwnL m 9 q12 s12 parts_11) hl1 ⟨[],nilS,_,_,rfl,hF.sub ⟨rfl,rfl,rfl,trivial⟩,hS.sel [0] (by decide),(OwnL.nil (α:=List UInt8) m 9)⟩ ?_ ?_
 ·clear hF hS
  rintro s a w st ⟨q2,s2,parts_1,t_3,rfl,hF,hS,h2⟩ hb1
  unfold impl_setText_l1 at hb1
  refine q_seq (q_region (q_x (v:=(.bool (decide (t_3 < 8)))) hF hS (ex_ibin rfl rfl rfl) rfl rfl fun a hF=>q_end (n_sq (q_seq ?_))))
  rcases bcase (decide (t_3 < 8)) with hc2 | hc2
  ·have hb1:=cond_f hc2 hb1
   refine q_cond_f hF rfl hc2 (q_exit (x_sq ?_))
   obtain rfl:=someI hb1
   exact ⟨nofun,.inl ⟨q2,s2,rfl,hF.sub ⟨rfl,trivial⟩,hS,h2⟩⟩
  ·have hb1:=cond_t hc2 hb1
   refine q_cond_t hF rfl hc2 (q_skipc (n_sq (q_seq (q_block (q_seq (q_region (q_x (v:=(iV t_3)) hF hS (ex_move rfl) rfl rfl fun a hF=>q_x (v:=(iV t_3)) hF hS (ex_assign rfl) rfl rfl fun a hF=>q_end (n_sq (q_seq (q_region (q_x (v:=(iV p_set)) hF hS (ex_move rfl) rfl rfl fun a hF=>q_x (v:=(iV t_3)) hF hS (ex_move rfl) rfl rfl fun a hF=>?_)))))))))))
   obtain ⟨t_4,ht_4,hb1⟩:=bindS hb1
   refine q_x (v:=(iV t_4)) hF hS (ex_shr rfl rfl ht_4) rfl rfl fun a hF=>q_x (v:=(iV (goBits .and .i64 t_4 1))) hF hS (ex_bits rfl rfl rfl) rfl rfl fun a hF=>q_x (v:=(.bool ((goBits .and .i64 t_4 1) == 1))) hF hS (ex_ibin rfl rfl rfl) rfl rfl fun a hF=>q_end (n_sq ?_)
   obtain ⟨parts_9,hj3,hb1⟩:=bindS hb1
   refine q_join (fun a w=>∃ (q10 : Piece),∃ (s10 : Sl),Fr a 23 [(0,(iV p_set)),(3,s10.v),(5,(iV t_3))]∧St [] w0 w m [q10]∧OwnL m 9 q10 s10 parts_9) ?_ ?_
   ·rcases bcase ((goBits .and .i64 t_4 1) == 1) with hc4 | hc4
    ·have hj3:=cond_f hc4 hj3
     refine q_cond_f hF rfl hc4 (q_skipc (n_jn ?_))
     obtain rfl:=someI hj3
     exact ⟨q2,s2,hF.sub ⟨rfl,rfl,rfl,trivial⟩,hS,h2⟩
    ·have hj3:=cond_t hc4 hj3
     refine q_cond_t hF rfl hc4 (q_region (q_x (v:=s2.v) hF hS (ex_move rfl) rfl rfl fun a hF=>q_x (v:=(iV t_3)) hF hS (ex_move rfl) rfl rfl fun a hF=>q_x (v:=(iV (w64 (48 + t_3)))) hF hS (ex_ibin rfl rfl rfl) rfl rfl fun a hF=>q_x (v:=(.int .i32 (IntKind.wrap .i32 (w64 (48 + t_3))))) hF hS (ex_conv Tryz.underlying3 Tryz.underlying21 rfl) rfl rfl fun a hF=>?_))
     obtain ⟨t_5,ht_5,hj3⟩:=bindS hj3
     refine q_x (v:=(strV t_5)) hF hS (ex_runeStr Tryz.underlying21 Tryz.underlying9 rfl ht_5) rfl rfl fun a hF=>q_do rfl fun _ hK=>wp_buildSlice' (l:=([t_5] : List (List UInt8))) (cells:=[(strV t_5)]) hF hS Tryz.underlying80 inf9 rfl rfl (by kernel_rfl) rfl rfl rfl ⟨rfl,rfl⟩ rfl rfl fun a w q6 s6 hF hS h6 _=>hK _ _ ?_
     have hS : St _ _ _ _ [q2,q6]:=hS.sel [1,0] (by decide)
     obtain ⟨l_7,hl_7,hj3⟩:=bindS hj3
     refine q_do rfl fun _ hK=>wp_append hF hS h2 Tryz.underlying80 inf9 rfl rfl rfl rfl (h6.vw hS (j:=1) rfl) rfl (by decide) hl_7 rfl fun a w q8 s8 hF hS h8=>hK _ _ (q_x (v:=s8.v) hF hS (ex_assign rfl) rfl rfl fun a hF=>q_end (n_jn ?_))
     obtain rfl:=someI hj3
     exact ⟨q8,s8,hF.sub ⟨rfl,rfl,rfl,trivial⟩,hS.mask [true,false],h8⟩
   ·rintro a w ⟨q10,s10,hF,hS,h10⟩
    refine n_ib (n_sq ?_)
    refine q_region (q_x (v:=(iV (w64 (t_3 + 1)))) hF hS (ex_ibin rfl rfl rfl) rfl rfl fun a hF=>q_x (v:=(iV (w64 (t_3 + 1)))) hF hS (ex_move rfl) rfl rfl fun a hF=>q_end ?_)
    obtain rfl:=someI hb1
    exact ⟨rfl,q10,s10,_,_,rfl,hF.sub ⟨rfl,rfl,rfl,trivial⟩,hS,h10⟩
 ·rintro e a w ⟨q12,s12,rfl,hF,hS,h12⟩
  refine x_ib (n_sq ?_)
  refine q_seq (q_region (q_x (v:=s12.v) hF hS (ex_move rfl) rfl rfl fun a hF=>?_))
  obtain ⟨m14,hl14,hv14,hz14⟩:=hS.lend
  obtain ⟨t_13,ht_13,hr⟩:=bindS hr
  refine q_call (vs:=[s12.v,(strV ([44] : List UInt8))]) hF hS Tryz.func68 (by kernel_rfl) rfl rfl rfl (c_strings_Join parts_11 ([44] : List UInt8) t_13 ht_13 _ m14 hv14 s12 (h12.froz hl14 (hz14 0 _ rfl))) ?_
  rintro a w _ rfl hF hS
  refine q_x (v:=(strV t_13)) hF hS (ex_assign rfl) rfl rfl fun a hF=>q_end (n_sq (q_ret ?_))
  obtain rfl:=someI hr
  exact ret_of hF hS rfl (.tmp rfl .nil) rfl

theorem c_impl_tableText (p_s : List impl_Variable) (p_t : impl_Table) (r : (List UInt8)) (hr : impl_tableText p_s p_t = some r) (w0 : World) (m : Mem) (hv : Vis m w0) (ht : Tbl m) (s1 : Sl) (h1 : Rd m s1 p_s) (s2 : Sl) (h2 : Rd m s2 p_t.Vars) (s3 : Sl) (h3 : Rd m s3 p_t.Where) :
  Ret Tryz.prog 31 [s1.v,(.agg #[(iV p_t.Level),s2.v,s3.v,(iV p_t.Sum)])] w0 (fun v _=>v = (strV r)):=by
 unfold impl_tableText at hr
 refine ret_start Tryz.func31 rfl 78 rfl rfl m hv fun a hF hS=>q_seq (q_region (q_box (cs:=[(iV p_t.Level),s2.v,s3.v,(iV p_t.Sum)]) hF hS rfl rfl rfl fun a w b4 hF hS=>q_x (v:=(strV ([] : List UInt8))) hF hS (ex_assign rfl) rfl rfl fun a hF=>q_end (n_sq (q_seq (q_region (q_x (v:=(strV ([99,111,117,110,116] : List UInt8))) hF hS (ex_assign rfl) rfl rfl fun a hF=>q_end (n_sq (q_seq (q_seq (q_region (q_x (v:=(.pointer (some ⟨b4,3,none⟩))) hF hS (ex_fieldAddr Tryz.underlying29 rfl sz3 rfl rfl) rfl rfl fun a hF=>q_x (v:=(iV p_t.Sum)) hF hS (ex_load1 0 0 Tryz.underlying3 rfl rfl rfl rfl) rfl rfl fun a hF=>q_x (v:=(.bool (decide (0 ≤ p_t.Sum)))) hF hS (ex_ibin rfl rfl rfl) rfl rfl fun a hF=>q_end (n_sq ?_))))))))))))
 obtain ⟨text_8,hj1,hr⟩:=bindS hr
 refine q_join (fun a w=>Fr a 78 [(0,s1.v),(3,(.pointer (some ⟨b4,0,none⟩))),(5,(strV text_8))]∧St [] w0 w m [[⟨b4,[(iV p_t.Level),s2.v,s3.v,(iV p_t.Sum)],29⟩]]) ?_ ?_
 ·rcases bcase (decide (0 ≤ p_t.Sum)) with hc2 | hc2
  ·have hj1:=cond_f hc2 hj1
   refine q_cond_f hF rfl hc2 (q_skipc (n_jn ?_))
   obtain rfl:=someI hj1
   exact ⟨hF.sub ⟨rfl,rfl,rfl,trivial⟩,hS⟩
  ·have hj1:=cond_t hc2 hj1
   refine q_cond_t hF rfl hc2 (q_region (q_x (v:=s1.v) hF hS (ex_move rfl) rfl rfl fun a hF=>q_x (v:=(.pointer (some ⟨b4,3,none⟩))) hF hS (ex_fieldAddr Tryz.underlying29 rfl sz3 rfl rfl) rfl rfl fun a hF=>q_x (v:=(iV p_t.Sum)) hF hS (ex_load1 0 0 Tryz.underlying3 rfl rfl rfl rfl) rfl rfl fun a hF=>?_))
   obtain ⟨e_5,he_5,hj1⟩:=bindS hj1
   obtain ⟨vs6,at6,d6⟩:=h1.at he_5 2 rfl
   obtain rfl : vs6 = [(strV e_5.Name),(iV e_5.Levels)]:=d6
   refine q_x (v:=(elP s1 (p_t.Sum.toNat * 2))) hF hS (ex_indexAddr Tryz.underlying27 sz95 rfl rfl (h1.idx he_5)) rfl rfl fun a hF=>q_x (v:=(elP s1 (p_t.Sum.toNat * 2 + 0))) hF hS (ex_fieldAddrE Tryz.underlying95 rfl sz9 rfl (h1.idx he_5) rfl) rfl rfl fun a hF=>q_x (v:=(strV e_5.Name)) hF hS (ex_loadE1 0 Tryz.underlying9 rfl rfl ((at6).at) rfl rfl) rfl rfl fun a hF=>?_
   obtain ⟨t_7,ht_7,hj1⟩:=bindS hj1
   refine q_x (v:=(strV t_7)) hF hS (ex_strCat rfl rfl ht_7) rfl rfl fun a hF=>q_x (v:=(strV t_7)) hF hS (ex_assign rfl) rfl rfl fun a hF=>q_end (n_jn ?_)
   obtain rfl:=someI hj1
   exact ⟨hF.sub ⟨rfl,rfl,rfl,trivial⟩,hS⟩
 ·rintro a w ⟨hF,hS⟩
  refine n_sq ?_
  refine q_seq (q_region (q_x (v:=(strV text_8)) hF hS (ex_move rfl) rfl rfl fun a hF=>q_x (v:=(.pointer (some ⟨b4,0,none⟩))) hF hS (ex_fieldAddr Tryz.underlying29 rfl sz3 rfl rfl) rfl rfl fun a hF=>q_x (v:=(iV p_t.Level)) hF hS (ex_load1 0 0 Tryz.underlying3 rfl rfl rfl rfl) rfl rfl fun a hF=>?_))
  obtain ⟨t_9,ht_9,hr⟩:=bindS hr
  refine q_call (vs:=[(iV p_t.Level)]) hF hS Tryz.func67 (by kernel_rfl) rfl rfl rfl (c_strconv_Itoa p_t.Level t_9 ht_9 _ m hS.vis ht) ?_
  rintro a w _ rfl hF hS
  obtain ⟨t_10,ht_10,hr⟩:=bindS hr
  refine q_x (v:=(strV t_10)) hF hS (ex_strCat rfl rfl ht_10) rfl rfl fun a hF=>?_
  obtain ⟨t_11,ht_11,hr⟩:=bindS hr
  refine q_x (v:=(strV t_11)) hF hS (ex_strCat rfl rfl ht_11) rfl rfl fun a hF=>q_x (v:=(strV t_11)) hF hS (ex_assign rfl) rfl rfl fun a hF=>q_end (n_sq (q_seq (q_seq (q_region (q_x (v:=(.pointer (some ⟨b4,1,none⟩))) hF hS (ex_fieldAddr Tryz.underlying29 rfl sz24 rfl rfl) rfl rfl fun a hF=>q_x (v:=s2.v) hF hS (ex_load1 0 0 Tryz.underlying24 rfl rfl rfl rfl) rfl rfl fun a hF=>q_x (v:=(iV (goLen p_t.Vars))) hF hS (ex_len Tryz.underlying24 rfl h2.len) rfl rfl fun a hF=>q_x (v:=(.bool (decide (0 < (goLen p_t.Vars))))) hF hS (ex_ibin rfl rfl rfl) rfl rfl fun a hF=>q_end (n_sq ?_))))))
  obtain ⟨text_28,hj3,hr⟩:=bindS hr
  refine q_join (fun a w=>Fr a 78 [(0,s1.v),(3,(.pointer (some ⟨b4,0,none⟩))),(5,(strV text_28))]∧St [] w0 w m [[⟨b4,[(iV p_t.Level),s2.v,s3.v,(iV p_t.Sum)],29⟩]]) ?_ ?_
  ·rcases bcase (decide (0 < (goLen p_t.Vars))) with hc4 | hc4
   ·have hj3:=cond_f hc4 hj3
    refine q_cond_f hF rfl hc4 (q_skipc (n_jn ?_))
    obtain rfl:=someI hj3
    exact ⟨hF.sub ⟨rfl,rfl,rfl,trivial⟩,hS⟩
   ·have hj3:=cond_t hc4 hj3
    refine q_cond_t hF rfl hc4 (q_seq (q_region (q_x (v:=nilS.v) hF hS (ex_assign rfl) rfl rfl fun a hF=>q_end (n_sq (q_seq (q_seq (q_region (q_x (v:=(.pointer (some ⟨b4,1,none⟩))) hF hS (ex_fieldAddr Tryz.underlying29 rfl sz24 rfl rfl) rfl rfl fun a hF=>q_x (v:=s2.v) hF hS (ex_load1 0 0 Tryz.underlying24 rfl rfl rfl rfl) rfl rfl fun a hF=>q_x (v:=(iV (goLen p_t.Vars))) hF hS (ex_len Tryz.underlying24 rfl h2.len) rfl rfl fun a hF=>q_x (v:=(iV 0)) hF hS (ex_move rfl) rfl rfl fun a hF=>q_end (n_sq (q_block ?_))))))))))
    obtain ⟨names_22,hl5,hj3⟩:=bindS hj3
    refine q_loop (fun (s : (List (List UInt8)) × Int) a w=>∃ (q13 : Piece),∃ (s13 : Sl),∃ names_12,∃ t_14,s = (names_12,t_14)∧Fr a 78 [(0,s1.v),(3,(.pointer (some ⟨b4,0,none⟩))),(5,(strV t_11)),(6,s13.v),(33,s2.v),(34,(iV (goLen p_t.Vars))),(35,(iV t_14))]∧St [] w0 w m [q13,[⟨b4,[(iV p_t.Level),s2.v,s3.v,(iV p_t.Sum)],29⟩]]∧OwnL m 9 q13 s13 names_12) (fun (names_22 : (List (List UInt8))) e a w=>∃ (q23 : Piece),∃ (s23 : Sl),e = .exit 0∧Fr a 78 [(0,s1.v),(3,(.pointer (some ⟨b4,0,none⟩))),(5,(strV t_11)),(6,s23.v)]∧St [] w0 w m [q23,[⟨b4,[(iV p_t.Level),s2.v,s3.v,(iV p_t.Sum)],29⟩]]∧OwnL m 9 q23 s23 names_22) hl5 ⟨[],nilS,_,_,rfl,hF.sub ⟨rfl,rfl,rfl,rfl,rfl,rfl,rfl,trivial⟩,hS.sel [1,0] (by decide),(OwnL.nil (α:=List UInt8) m 9)⟩ ?_ ?_
    ·clear hF hS
     rintro s a w st ⟨q13,s13,names_12,t_14,rfl,hF,hS,h13⟩ hb5
     unfold impl_tableText_l1 at hb5
     refine q_seq (q_region (q_x (v:=(.bool (decide (t_14 < (goLen p_t.Vars))))) hF hS (ex_ibin rfl rfl rfl) rfl rfl fun a hF=>q_end (n_sq (q_seq ?_))))
     rcases bcase (decide (t_14 < (goLen p_t.Vars))) with hc6 | hc6
     ·have hb5:=cond_f hc6 hb5
      refine q_cond_f hF rfl hc6 (q_exit (x_sq ?_))
      obtain rfl:=someI hb5
      exact ⟨nofun,.inl ⟨q13,s13,rfl,hF.sub ⟨rfl,rfl,rfl,rfl,trivial⟩,hS,h13⟩⟩
     ·have hb5:=cond_t hc6 hb5
      refine q_cond_t hF rfl hc6 (q_skipc (n_sq (q_seq (q_block (q_seq (q_region ?_))))))
      obtain ⟨e_15,he_15,hb5⟩:=bindS hb5
      obtain ⟨vs16,at16,d16⟩:=h2.at he_15 1 rfl
      obtain rfl : vs16 = [(iV e_15)]:=d16
      refine q_x (v:=(elP s2 (t_14.toNat * 1))) hF hS (ex_indexAddr Tryz.underlying24 sz3 rfl rfl (h2.idx he_15)) rfl rfl fun a hF=>q_x (v:=(iV e_15)) hF hS (ex_loadE1 0 Tryz.underlying3 rfl rfl ((at16).at) rfl rfl) rfl rfl fun a hF=>q_x (v:=(iV e_15)) hF hS (ex_assign rfl) rfl rfl fun a hF=>q_end (n_sq (q_region (q_x (v:=s13.v) hF hS (ex_move rfl) rfl rfl fun a hF=>q_x (v:=s1.v) hF hS (ex_move rfl) rfl rfl fun a hF=>q_x (v:=(iV e_15)) hF hS (ex_move rfl) rfl rfl fun a hF=>?_)))
      obtain ⟨e_17,he_17,hb5⟩:=bindS hb5
      obtain ⟨vs18,at18,d18⟩:=h1.at he_17 2 rfl
      obtain rfl : vs18 = [(strV e_17.Name),(iV e_17.Levels)]:=d18
      refine q_x (v:=(elP s1 (e_15.toNat * 2))) hF hS (ex_indexAddr Tryz.underlying27 sz95 rfl rfl (h1.idx he_17)) rfl rfl fun a hF=>q_x (v:=(elP s1 (e_15.toNat * 2 + 0))) hF hS (ex_fieldAddrE Tryz.underlying95 rfl sz9 rfl (h1.idx he_17) rfl) rfl rfl fun a hF=>q_x (v:=(strV e_17.Name)) hF hS (ex_loadE1 0 Tryz.underlying9 rfl rfl ((at18).at) rfl rfl) rfl rfl fun a hF=>q_do rfl fun _ hK=>wp_buildSlice' (l:=([e_17.Name] : List (List UInt8))) (cells:=[(strV e_17.Name)]) hF hS Tryz.underlying80 inf9 rfl rfl (by kernel_rfl) rfl rfl rfl ⟨rfl,rfl⟩ rfl rfl fun a w q19 s19 hF hS h19 _=>hK _ _ ?_
      have hS : St _ _ _ _ [q13,q19,[⟨b4,[(iV p_t.Level),s2.v,s3.v,(iV p_t.Sum)],29⟩]]:=hS.sel [1,0,2] (by decide)
      obtain ⟨l_20,hl_20,hb5⟩:=bindS hb5
      refine q_do rfl fun _ hK=>wp_append hF hS h13 Tryz.underlying80 inf9 rfl rfl rfl rfl (h19.vw hS (j:=1) rfl) rfl (by decide) hl_20 rfl fun a w q21 s21 hF hS h21=>hK _ _ (q_x (v:=s21.v) hF hS (ex_assign rfl) rfl rfl fun a hF=>q_end (n_ib (n_sq (q_region (q_x (v:=(iV (w64 (t_14 + 1)))) hF hS (ex_ibin rfl rfl rfl) rfl rfl fun a hF=>q_x (v:=(iV (w64 (t_14 + 1)))) hF hS (ex_move rfl) rfl rfl fun a hF=>q_end ?_)))))
      obtain rfl:=someI hb5
      exact ⟨rfl,q21,s21,_,_,rfl,hF.sub ⟨rfl,rfl,rfl,rfl,rfl,rfl,rfl,trivial⟩,hS.mask [true,false,true],h21⟩
    ·rintro e a w ⟨q23,s23,rfl,hF,hS,h23⟩
     refine x_ib (n_sq ?_)
     refine q_region (q_x (v:=(strV t_11)) hF hS (ex_move rfl) rfl rfl fun a hF=>q_x (v:=s23.v) hF hS (ex_move rfl) rfl rfl fun a hF=>?_)
     obtain ⟨m25,hl25,hv25,hz25⟩:=hS.lend
     obtain ⟨t_24,ht_24,hj3⟩:=bindS hj3
     refine q_call (vs:=[s23.v,(strV ([44] : List UInt8))]) hF hS Tryz.func68 (by kernel_rfl) rfl rfl rfl (c_strings_Join names_22 ([44] : List UInt8) t_24 ht_24 _ m25 hv25 s23 (h23.froz hl25 (hz25 0 _ rfl))) ?_
     rintro a w _ rfl hF hS
     obtain ⟨t_26,ht_26,hj3⟩:=bindS hj3
     refine q_x (v:=(strV t_26)) hF hS (ex_strCat rfl rfl ht_26) rfl rfl fun a hF=>?_
     obtain ⟨t_27,ht_27,hj3⟩:=bindS hj3
     refine q_x (v:=(strV t_27)) hF hS (ex_strCat rfl rfl ht_27) rfl rfl fun a hF=>q_x (v:=(strV t_27)) hF hS (ex_assign rfl) rfl rfl fun a hF=>q_end (n_jn ?_)
     obtain rfl:=someI hj3
     exact ⟨hF.sub ⟨rfl,rfl,rfl,trivial⟩,hS.mask [false,true]⟩
  ·rintro a w ⟨hF,hS⟩
   refine n_sq ?_
   refine q_seq (q_region (q_x (v:=(strV ([32,119,104,101,114,101,32] : List UInt8))) hF hS (ex_assign rfl) rfl rfl fun a hF=>q_end (n_sq (q_seq (q_seq (q_region (q_x (v:=(.pointer (some ⟨b4,2,none⟩))) hF hS (ex_fieldAddr Tryz.underlying29 rfl sz24 rfl rfl) rfl rfl fun a hF=>q_x (v:=s3.v) hF hS (ex_load1 0 0 Tryz.underlying24 rfl rfl rfl rfl) rfl rfl fun a hF=>q_x (v:=(iV (goLen p_t.Where))) hF hS (ex_len Tryz.underlying24 rfl h3.len) rfl rfl fun a hF=>q_x (v:=(iV 0)) hF hS (ex_move rfl) rfl rfl fun a hF=>q_end (n_sq (q_block ?_)))))))))
   obtain ⟨text_43,hl7,hr⟩:=bindS hr
   refine q_loop (fun (s : (List UInt8) × (List UInt8) × Int) a w=>∃ text_29,∃ word_30,∃ t_31,s = (text_29,word_30,t_31)∧Fr a 78 [(0,s1.v),(5,(strV text_29)),(9,(strV word_30)),(54,s3.v),(55,(iV (goLen p_t.Where))),(56,(iV t_31))]∧St [] w0 w m []) (fun (text_43 : (List UInt8)) e a w=>e = .exit 2∧Fr a 78 [(5,(strV text_43))]∧St [] w0 w m []) hl7 ⟨_,_,_,rfl,hF.sub ⟨rfl,rfl,rfl,rfl,rfl,rfl,trivial⟩,hS.mask [false]⟩ ?_ ?_
   ·clear hF hS
    rintro s a w st ⟨text_29,word_30,t_31,rfl,hF,hS⟩ hb7
    unfold impl_tableText_l2 at hb7
    refine q_seq (q_region (q_x (v:=(.bool (decide (t_31 < (goLen p_t.Where))))) hF hS (ex_ibin rfl rfl rfl) rfl rfl fun a hF=>q_end (n_sq (q_seq ?_))))
    rcases bcase (decide (t_31 < (goLen p_t.Where))) with hc8 | hc8
    ·have hb7:=cond_f hc8 hb7
     refine q_cond_f hF rfl hc8 (q_exit (x_sq ?_))
     obtain rfl:=someI hb7
     exact ⟨nofun,.inl ⟨rfl,hF.sub ⟨rfl,trivial⟩,hS⟩⟩
    ·have hb7:=cond_t hc8 hb7
     refine q_cond_t hF rfl hc8 (q_skipc (n_sq (q_seq (q_block (q_seq (q_region (q_x (v:=(iV t_31)) hF hS (ex_move rfl) rfl rfl fun a hF=>?_)))))))
     obtain ⟨e_32,he_32,hb7⟩:=bindS hb7
     obtain ⟨vs33,at33,d33⟩:=h3.at he_32 1 rfl
     obtain rfl : vs33 = [(iV e_32)]:=d33
     refine q_x (v:=(elP s3 (t_31.toNat * 1))) hF hS (ex_indexAddr Tryz.underlying24 sz3 rfl rfl (h3.idx he_32)) rfl rfl fun a hF=>q_x (v:=(iV e_32)) hF hS (ex_loadE1 0 Tryz.underlying3 rfl rfl ((at33).at) rfl rfl) rfl rfl fun a hF=>q_x (v:=(iV t_31)) hF hS (ex_assign rfl) rfl rfl fun a hF=>q_x (v:=(iV e_32)) hF hS (ex_assign rfl) rfl rfl fun a hF=>q_end (n_sq (q_seq (q_region (q_x (v:=(iV e_32)) hF hS (ex_move rfl) rfl rfl fun a hF=>q_x (v:=(.bool (e_32 != 0))) hF hS (ex_ibin rfl rfl rfl) rfl rfl fun a hF=>q_end (n_sq ?_)))))
     obtain ⟨j9,hj9,hb7⟩:=bindS hb7
     refine q_join (fun a w=>∃ text_41,∃ word_42,j9 = (text_41,word_42)∧Fr a 78 [(0,s1.v),(5,(strV text_41)),(9,(strV word_42)),(54,s3.v),(55,(iV (goLen p_t.Where))),(56,(iV t_31))]∧St [] w0 w m []) ?_ ?_
     ·rcases bcase (e_32 != 0) with hc10 | hc10
      ·have hj9:=cond_f hc10 hj9
       refine q_cond_f hF rfl hc10 (q_skipc (n_jn ?_))
       obtain rfl:=someI hj9
       exact ⟨_,_,rfl,hF.sub ⟨rfl,rfl,rfl,rfl,rfl,rfl,trivial⟩,hS⟩
      ·have hj9:=cond_t hc10 hj9
       refine q_cond_t hF rfl hc10 (q_seq (e_region ⟨[],[]⟩ mixed fun w' hw'=>?_))
       have hS:=hS.below hw'
       refine e_p (v:=(strV text_29)) 0 hF rfl (ex_move rfl) rfl rfl (by kernel_rfl) (by kernel_rfl) (by kernel_rfl) fun a hF=>e_p (v:=(strV word_30)) 1 hF rfl (ex_move rfl) rfl rfl (by kernel_rfl) (by kernel_rfl) (by kernel_rfl) fun a hF=>e_p (v:=s1.v) 2 hF rfl (ex_move rfl) rfl rfl (by kernel_rfl) (by kernel_rfl) (by kernel_rfl) fun a hF=>e_p (v:=(iV t_31)) 3 hF rfl (ex_move rfl) rfl rfl (by kernel_rfl) (by kernel_rfl) (by kernel_rfl) fun a hF=>?_
       obtain ⟨e_34,he_34,hj9⟩:=bindS hj9
       obtain ⟨vs35,at35,d35⟩:=h1.at he_34 2 rfl
       obtain rfl : vs35 = [(strV e_34.Name),(iV e_34.Levels)]:=d35
       refine e_p (v:=(elP s1 (t_31.toNat * 2))) 4 hF rfl (ex_indexAddr Tryz.underlying27 sz95 rfl rfl (h1.idx he_34)) rfl rfl (by kernel_rfl) (by kernel_rfl) (by kernel_rfl) fun a hF=>e_p (v:=(elP s1 (t_31.toNat * 2 + 0))) 5 hF rfl (ex_fieldAddrE Tryz.underlying95 rfl sz9 rfl (h1.idx he_34) rfl) rfl rfl (by kernel_rfl) (by kernel_rfl) (by kernel_rfl) fun a hF=>e_x (v:=(strV e_34.Name)) 6 hF hS rfl (ex_loadE1 0 Tryz.underlying9 rfl rfl ((at35).at) rfl rfl) rfl rfl (by kernel_rfl) (by kernel_rfl) (by kernel_rfl) (by kernel_rfl) fun a hF=>?_
       obtain ⟨t_36,ht_36,hj9⟩:=bindS hj9
       refine e_p (v:=(strV t_36)) 7 hF rfl (ex_strCat rfl rfl ht_36) rfl rfl (by kernel_rfl) (by kernel_rfl) (by kernel_rfl) fun a hF=>?_
       obtain ⟨t_37,ht_37,hj9⟩:=bindS hj9
       refine e_p (v:=(strV t_37)) 8 hF rfl (ex_strCat rfl rfl ht_37) rfl rfl (by kernel_rfl) (by kernel_rfl) (by kernel_rfl) fun a hF=>e_p (v:=(iV e_32)) 9 hF rfl (ex_move rfl) rfl rfl (by kernel_rfl) (by kernel_rfl) (by kernel_rfl) fun a hF=>e_one 10 (by kernel_rfl) ?_
       obtain ⟨t_38,ht_38,hj9⟩:=bindS hj9
       refine e_call (vs:=[(iV e_32)]) hF hS rfl Tryz.func69 (by kernel_rfl) rfl rfl rfl (c_impl_setText e_32 t_38 ht_38 _ m hS.vis) ?_
       rintro a w _ rfl hF hS
       obtain ⟨t_39,ht_39,hj9⟩:=bindS hj9
       refine e_p (v:=(strV t_39)) 11 hF rfl (ex_strCat rfl rfl ht_39) rfl rfl (by kernel_rfl) (by kernel_rfl) (by kernel_rfl) fun a hF=>?_
       obtain ⟨t_40,ht_40,hj9⟩:=bindS hj9
       refine e_p (v:=(strV t_40)) 12 hF rfl (ex_strCat rfl rfl ht_40) rfl rfl (by kernel_rfl) (by kernel_rfl) (by kernel_rfl) fun a hF=>e_p (v:=(strV t_40)) 13 hF rfl (ex_assign rfl) rfl rfl (by kernel_rfl) (by kernel_rfl) (by kernel_rfl) fun a hF=>e_end (by kernel_rfl) (n_sq ?_) _
       refine q_region (q_x (v:=(strV ([32] : List UInt8))) hF hS (ex_assign rfl) rfl rfl fun a hF=>q_end (n_jn ?_))
       obtain rfl:=someI hj9
       exact ⟨_,_,rfl,hF.sub ⟨rfl,rfl,rfl,rfl,rfl,rfl,trivial⟩,hS⟩
     ·rintro a w ⟨text_41,word_42,rfl,hF,hS⟩
      refine n_ib (n_sq ?_)
      refine q_region (q_x (v:=(iV (w64 (t_31 + 1)))) hF hS (ex_ibin rfl rfl rfl) rfl rfl fun a hF=>q_x (v:=(iV (w64 (t_31 + 1)))) hF hS (ex_move rfl) rfl rfl fun a hF=>q_end ?_)
      obtain rfl:=someI hb7
      exact ⟨rfl,_,_,_,rfl,hF.sub ⟨rfl,rfl,rfl,rfl,rfl,rfl,trivial⟩,hS⟩
   ·rintro e a w ⟨rfl,hF,hS⟩
    refine x_ib (n_sq ?_)
    refine q_seq (q_region (q_x (v:=(strV text_43)) hF hS (ex_move rfl) rfl rfl fun a hF=>q_x (v:=(strV text_43)) hF hS (ex_assign rfl) rfl rfl fun a hF=>q_end (n_sq (q_ret ?_))))
    obtain rfl:=someI hr
    exact ret_of hF hS rfl (.tmp rfl .nil) rfl

theorem c_impl_TableText (p_g : impl_Geo) (p_s : List impl_Variable) (p_t : impl_Table) (r : (List UInt8) × Bool) (hr : impl_TableText p_g p_s p_t = some r) (w0 : World) (m : Mem) (hv : Vis m w0) (ht : Tbl m) (s1 : Sl) (h1 : Rd m s1 p_g.Parents) (s2 : Sl) (h2 : Rd m s2 p_s) (s3 : Sl) (h3 : Rd m s3 p_t.Vars) (s4 : Sl) (h4 : Rd m s4 p_t.Where) :
  Ret Tryz.prog 7 [(.agg #[s1.v]),s2.v,(.agg #[(iV p_t.Level),s3.v,s4.v,(iV p_t.Sum)])] w0 (fun v _=>v = (.tuple #[(strV r.1),(.bool r.2)])):=by
 unfold impl_TableText at hr
 refine ret_start Tryz.func7 rfl 16 rfl rfl m hv fun a hF hS=>q_seq (q_region (q_box (cs:=[s1.v]) hF hS rfl rfl rfl fun a w b5 hF hS=>q_box (cs:=[(iV p_t.Level),s3.v,s4.v,(iV p_t.Sum)]) hF hS rfl rfl rfl fun a w b6 hF hS=>q_x (v:=(strV ([] : List UInt8))) hF hS (ex_assign rfl) rfl rfl fun a hF=>q_x (v:=(.bool false)) hF hS (ex_assign rfl) rfl rfl fun a hF=>q_end (n_sq (q_seq (q_seq (q_region (q_x (v:=(.agg #[s1.v])) hF hS (ex_loadA (vs:=[s1.v]) 1 0 Tryz.underlying26 rfl sz26 rfl rfl rfl rfl) rfl rfl fun a hF=>q_x (v:=s2.v) hF hS (ex_move rfl) rfl rfl fun a hF=>q_x (v:=(.agg #[(iV p_t.Level),s3.v,s4.v,(iV p_t.Sum)])) hF hS (ex_loadA (vs:=[(iV p_t.Level),s3.v,s4.v,(iV p_t.Sum)]) 0 0 Tryz.underlying29 rfl sz29 rfl rfl rfl rfl) rfl rfl fun a hF=>?_)))))))
 obtain ⟨t_7,ht_7,hr⟩:=bindS hr
 refine q_call (vs:=[(.agg #[s1.v]),s2.v,(.agg #[(iV p_t.Level),s3.v,s4.v,(iV p_t.Sum)])]) hF hS Tryz.func30 (by kernel_rfl) rfl rfl rfl (c_impl_areTabled p_g p_s p_t t_7 ht_7 _ m hS.vis s1 h1 s2 h2 s3 h3 s4 h4) ?_
 rintro a w _ rfl hF hS
 refine q_x (v:=(.bool (!t_7))) hF hS (ex_not rfl) rfl rfl fun a hF=>q_end (n_sq ?_)
 rcases bcase (!t_7) with hc1 | hc1
 ·have hr:=cond_f hc1 hr
  refine q_cond_f hF rfl hc1 (q_skipc (n_sq (q_seq (q_region (q_x (v:=s2.v) hF hS (ex_move rfl) rfl rfl fun a hF=>q_x (v:=(.agg #[(iV p_t.Level),s3.v,s4.v,(iV p_t.Sum)])) hF hS (ex_loadA (vs:=[(iV p_t.Level),s3.v,s4.v,(iV p_t.Sum)]) 0 0 Tryz.underlying29 rfl sz29 rfl rfl rfl rfl) rfl rfl fun a hF=>?_)))))
  obtain ⟨t_8,ht_8,hr⟩:=bindS hr
  refine q_call (vs:=[s2.v,(.agg #[(iV p_t.Level),s3.v,s4.v,(iV p_t.Sum)])]) hF hS Tryz.func31 (by kernel_rfl) rfl rfl rfl (c_impl_tableText p_s p_t t_8 ht_8 _ m hS.vis ht s2 h2 s3 h3 s4 h4) ?_
  rintro a w _ rfl hF hS
  refine q_x (v:=(strV t_8)) hF hS (ex_assign rfl) rfl rfl fun a hF=>q_x (v:=(.bool true)) hF hS (ex_assign rfl) rfl rfl fun a hF=>q_end (n_sq (q_ret ?_))
  obtain rfl:=someI hr
  exact ret_of hF hS rfl (.tmp rfl (.tmp rfl .nil)) rfl
 ·have hr:=cond_t hc1 hr
  refine q_cond_t hF rfl hc1 (q_seq (q_region (q_x (v:=(strV ([] : List UInt8))) hF hS (ex_assign rfl) rfl rfl fun a hF=>q_x (v:=(.bool false)) hF hS (ex_assign rfl) rfl rfl fun a hF=>q_end (n_sq (q_ret (r_sq ?_))))))
  obtain rfl:=someI hr
  exact ret_of hF hS rfl (.tmp rfl (.tmp rfl .nil)) rfl

theorem c_spec_sName (p_s : List UInt8) (r : Bool) (hr : spec_sName p_s = some r) (w0 : World) (m : Mem) (hv : Vis m w0) :
  Ret Tryz.prog 115 [(strV p_s)] w0 (fun v _=>v = (.bool r)):=by
 unfold spec_sName at hr
 refine ret_start Tryz.func115 rfl 23 rfl rfl m hv fun a hF hS=>q_seq (q_region (q_x (v:=(.bool false)) hF hS (ex_assign rfl) rfl rfl fun a hF=>q_end (n_sq (q_seq (q_seq (q_region (q_x (v:=(iV 0)) hF hS (ex_assign rfl) rfl rfl fun a hF=>q_end (n_sq (q_block ?_)))))))))
 obtain ⟨o1,hl1,hr⟩:=bindS hr
 refine q_loop (fun (i_1 : Int) a w=>Fr a 23 [(0,(strV p_s)),(3,(iV i_1))]∧St [] w0 w m []) (fun (o : (Unit) ⊕ (Bool)) e a w=>o = .inl ()∧e = .exit 0∧Fr a 23 [(0,(strV p_s))]∧St [] w0 w m []) hl1 ⟨hF.sub ⟨rfl,rfl,trivial⟩,hS⟩ ?_ ?_
 ·clear hF hS
  rintro i_1 a w st ⟨hF,hS⟩ hb1
  unfold spec_sName_l1 at hb1
  refine q_seq (q_seq (q_region (q_x (v:=(iV i_1)) hF hS (ex_move rfl) rfl rfl fun a hF=>q_x (v:=(strV p_s)) hF hS (ex_move rfl) rfl rfl fun a hF=>q_x (v:=(iV (goLen p_s))) hF hS (ex_strLen Tryz.underlying9 rfl) rfl rfl fun a hF=>q_x (v:=(.bool (decide (i_1 < (goLen p_s))))) hF hS (ex_ibin rfl rfl rfl) rfl rfl fun a hF=>q_end (n_sq ?_))))
  rcases bcase (decide (i_1 < (goLen p_s))) with hc2 | hc2
  ·have hb1:=cond_f hc2 hb1
   refine q_cond_f hF rfl hc2 (q_exit (x_sq ?_))
   obtain rfl:=someI hb1
   exact ⟨nofun,.inl ⟨rfl,rfl,hF.sub ⟨rfl,trivial⟩,hS⟩⟩
  ·have hb1:=cond_t hc2 hb1
   refine q_cond_t hF rfl hc2 (q_skipc (n_sq (q_seq (q_block (q_seq ?_)))))
   obtain ⟨t_4,hj3,hb1⟩:=bindS hb1
   refine q_join (fun a w=>Fr a 23 [(0,(strV p_s)),(3,(iV i_1)),(19,(.bool t_4))]∧St [] w0 w m []) ?_ ?_
   ·refine q_region (q_x (v:=(strV p_s)) hF hS (ex_move rfl) rfl rfl fun a hF=>q_x (v:=(iV i_1)) hF hS (ex_move rfl) rfl rfl fun a hF=>?_)
    obtain ⟨t_2,ht_2,hj3⟩:=bindS hj3
    refine q_x (v:=(.int .u8 t_2)) hF hS (ex_strIdx Tryz.underlying9 rfl rfl ht_2) rfl rfl fun a hF=>q_x (v:=(.bool (decide (t_2 < 97)))) hF hS (ex_ibin rfl rfl rfl) rfl rfl fun a hF=>q_x (v:=(.bool (decide (t_2 < 97)))) hF hS (ex_move rfl) rfl rfl fun a hF=>?_
    rcases bcase (decide (t_2 < 97)) with hc4 | hc4
    ·have hj3:=cond_f hc4 hj3
     refine q_xg (v:=(strV p_s)) hF hS (ex_move rfl) (wanted_t hF rfl rfl rfl hc4) rfl fun a hF=>q_xg (v:=(iV i_1)) hF hS (ex_move rfl) (wanted_t hF rfl rfl rfl hc4) rfl fun a hF=>?_
     obtain ⟨t_3,ht_3,hj3⟩:=bindS hj3
     refine q_xg (v:=(.int .u8 t_3)) hF hS (ex_strIdx Tryz.underlying9 rfl rfl ht_3) (wanted_t hF rfl rfl rfl hc4) rfl fun a hF=>q_xg (v:=(.bool (decide (122 < t_3)))) hF hS (ex_ibin rfl rfl rfl) (wanted_t hF rfl rfl rfl hc4) rfl fun a hF=>q_x (v:=(.bool (decide (122 < t_3)))) hF hS (ex_pick_f rfl rfl hc4) rfl rfl fun a hF=>q_end (n_jn ?_)
     obtain rfl:=someI hj3
     exact ⟨hF.sub ⟨rfl,rfl,rfl,trivial⟩,hS⟩
    ·have hj3:=cond_t hc4 hj3
     refine q_skip hF (wanted_f hF rfl rfl rfl hc4 rfl) rfl fun a hF=>q_skip hF (wanted_f hF rfl rfl rfl hc4 rfl) rfl fun a hF=>q_skip hF (wanted_f hF rfl rfl rfl hc4 rfl) rfl fun a hF=>q_skip hF (wanted_f hF rfl rfl rfl hc4 rfl) rfl fun a hF=>q_x (v:=(.bool true)) hF hS (ex_pick_t rfl rfl hc4) rfl rfl fun a hF=>q_end (n_jn ?_)
     obtain rfl:=someI hj3
     exact ⟨hF.sub ⟨rfl,rfl,rfl,trivial⟩,hS⟩
   ·rintro a w ⟨hF,hS⟩
    refine n_sq ?_
    rcases bcase (t_4) with hc5 | hc5
    ·have hb1:=cond_f hc5 hb1
     refine q_cond_f hF rfl hc5 (q_skipc (n_ib (n_sq (q_region (q_x (v:=(iV i_1)) hF hS (ex_move rfl) rfl rfl fun a hF=>q_x (v:=(iV (w64 (i_1 + 1)))) hF hS (ex_ibin rfl rfl rfl) rfl rfl fun a hF=>q_x (v:=(iV (w64 (i_1 + 1)))) hF hS (ex_assign rfl) rfl rfl fun a hF=>q_end ?_)))))
     obtain rfl:=someI hb1
     exact ⟨rfl,hF.sub ⟨rfl,rfl,trivial⟩,hS⟩
    ·have hb1:=cond_t hc5 hb1
     refine q_cond_t hF rfl hc5 (q_seq (q_region (q_x (v:=(.bool false)) hF hS (ex_assign rfl) rfl rfl fun a hF=>q_end (n_sq (q_ret (r_ib (r_sq ?_)))))))
     obtain rfl:=someI hb1
     refine ⟨nofun,.inr fun ho=>?_⟩
     subst ho
     refine r_ib (r_sq ?_)
     obtain rfl:=someI hr
     exact ret_of hF hS rfl (.tmp rfl .nil) rfl
 ·rintro e a w ⟨rfl,rfl,hF,hS⟩
  refine x_ib (n_sq ?_)
  refine q_seq (q_region (q_x (v:=(strV p_s)) hF hS (ex_move rfl) rfl rfl fun a hF=>q_x (v:=(iV (goLen p_s))) hF hS (ex_strLen Tryz.underlying9 rfl) rfl rfl fun a hF=>?_))
  obtain ⟨t_5,ht_5,hr⟩:=bindS hr
  refine q_call (vs:=[(iV (goLen p_s)),(iV 1),(iV 8)]) hF hS Tryz.func75 (by kernel_rfl) rfl rfl rfl (c_spec_l1In (goLen p_s) 1 8 t_5 ht_5 _ m hS.vis) ?_
  rintro a w _ rfl hF hS
  refine q_x (v:=(.bool t_5)) hF hS (ex_assign rfl) rfl rfl fun a hF=>q_end (n_sq (q_ret ?_))
  obtain rfl:=someI hr
  exact ret_of hF hS rfl (.tmp rfl .nil) rfl

theorem c_spec_sFind (p_s : List impl_Variable) (p_name : List UInt8) (r : Int) (hr : spec_sFind p_s p_name = some r) (w0 : World) (m : Mem) (hv : Vis m w0) (s1 : Sl) (h1 : Rd m s1 p_s) :
  Ret Tryz.prog 116 [s1.v,(strV p_name)] w0 (fun v _=>v = (iV r)):=by
 unfold spec_sFind at hr
 refine ret_start Tryz.func116 rfl 20 rfl rfl m hv fun a hF hS=>q_seq (q_region (q_x (v:=(iV 0)) hF hS (ex_assign rfl) rfl rfl fun a hF=>q_end (n_sq (q_seq (q_seq (q_region (q_x (v:=s1.v) hF hS (ex_move rfl) rfl rfl fun a hF=>q_x (v:=(iV (goLen p_s))) hF hS (ex_len Tryz.underlying27 rfl h1.len) rfl rfl fun a hF=>q_x (v:=(iV 0)) hF hS (ex_move rfl) rfl rfl fun a hF=>q_end (n_sq (q_block ?_)))))))))
 obtain ⟨o1,hl1,hr⟩:=bindS hr
 refine q_loop (fun (t_2 : Int) a w=>Fr a 20 [(1,(strV p_name)),(7,s1.v),(8,(iV (goLen p_s))),(9,(iV t_2))]∧St [] w0 w m []) (fun (o : (Unit) ⊕ (Int)) e a w=>o = .inl ()∧e = .exit 0∧Fr a 20 []∧St [] w0 w m []) hl1 ⟨hF.sub ⟨rfl,rfl,rfl,rfl,trivial⟩,hS⟩ ?_ ?_
 ·clear hF hS
  rintro t_2 a w st ⟨hF,hS⟩ hb1
  unfold spec_sFind_l1 at hb1
  refine q_seq (q_region (q_x (v:=(.bool (decide (t_2 < (goLen p_s))))) hF hS (ex_ibin rfl rfl rfl) rfl rfl fun a hF=>q_end (n_sq (q_seq ?_))))
  rcases bcase (decide (t_2 < (goLen p_s))) with hc2 | hc2
  ·have hb1:=cond_f hc2 hb1
   refine q_cond_f hF rfl hc2 (q_exit (x_sq ?_))
   obtain rfl:=someI hb1
   exact ⟨nofun,.inl ⟨rfl,rfl,hF.sub trivial,hS⟩⟩
  ·have hb1:=cond_t hc2 hb1
   refine q_cond_t hF rfl hc2 (q_skipc (n_sq (q_seq (q_block (q_seq (q_region (q_x (v:=(iV t_2)) hF hS (ex_move rfl) rfl rfl fun a hF=>?_)))))))
   obtain ⟨e_3,he_3,hb1⟩:=bindS hb1
   obtain ⟨vs4,at4,d4⟩:=h1.at he_3 2 rfl
   obtain rfl : vs4 = [(strV e_3.Name),(iV e_3.Levels)]:=d4
   refine q_x (v:=(elP s1 (t_2.toNat * 2))) hF hS (ex_indexAddr Tryz.underlying27 sz95 rfl rfl (h1.idx he_3)) rfl rfl fun a hF=>q_x (v:=(.agg #[(strV e_3.Name),(iV e_3.Levels)])) hF hS (ex_loadEA (us:=[(strV e_3.Name),(iV e_3.Levels)]) 0 Tryz.underlying95 rfl sz95 rfl ((at4).at) rfl rfl rfl) rfl rfl fun a hF=>q_alloc (cs:=[(strV ([] : List UInt8)),(iV 0)]) hF hS rfl rfl rfl fun a w b5 hF hS=>q_x (v:=(iV t_2)) hF hS (ex_assign rfl) rfl rfl fun a hF=>q_store (vs:=[(strV e_3.Name),(iV e_3.Levels)]) (cs':=[(strV e_3.Name),(iV e_3.Levels)]) 0 0 hF hS sz95 rfl rfl rfl rfl rfl rfl rfl rfl fun a w hF hS=>q_end (n_sq (q_seq (q_region (q_x (v:=(.pointer (some ⟨b5,0,none⟩))) hF hS (ex_fieldAddr Tryz.underlying95 rfl sz9 rfl rfl) rfl rfl fun a hF=>q_x (v:=(strV e_3.Name)) hF hS (ex_load1 0 0 Tryz.underlying9 rfl rfl rfl rfl) rfl rfl fun a hF=>q_x (v:=(strV p_name)) hF hS (ex_move rfl) rfl rfl fun a hF=>q_x (v:=(.bool (e_3.Name == p_name))) hF hS (ex_strEq rfl rfl) rfl rfl fun a hF=>q_end (n_sq ?_)))))
   rcases bcase (e_3.Name == p_name) with hc3 | hc3
   ·have hb1:=cond_f hc3 hb1
    refine q_cond_f hF rfl hc3 (q_skipc (n_ib (n_sq (q_region (q_x (v:=(iV (w64 (t_2 + 1)))) hF hS (ex_ibin rfl rfl rfl) rfl rfl fun a hF=>q_x (v:=(iV (w64 (t_2 + 1)))) hF hS (ex_move rfl) rfl rfl fun a hF=>q_end ?_)))))
    obtain rfl:=someI hb1
    exact ⟨rfl,hF.sub ⟨rfl,rfl,rfl,rfl,trivial⟩,hS.mask [false]⟩
   ·have hb1:=cond_t hc3 hb1
    refine q_cond_t hF rfl hc3 (q_seq (q_region (q_x (v:=(iV t_2)) hF hS (ex_move rfl) rfl rfl fun a hF=>q_x (v:=(iV t_2)) hF hS (ex_assign rfl) rfl rfl fun a hF=>q_end (n_sq (q_ret (r_ib (r_sq ?_)))))))
    obtain rfl:=someI hb1
    refine ⟨nofun,.inr fun ho=>?_⟩
    subst ho
    refine r_ib (r_sq ?_)
    obtain rfl:=someI hr
    exact ret_of hF hS rfl (.tmp rfl .nil) rfl
 ·rintro e a w ⟨rfl,rfl,hF,hS⟩
  refine x_ib (n_sq ?_)
  refine q_seq (q_region (q_x (v:=(iV (-1))) hF hS (ex_assign rfl) rfl rfl fun a hF=>q_end (n_sq (q_ret ?_))))
  obtain rfl:=someI hr
  exact ret_of hF hS rfl (.tmp rfl .nil) rfl

theorem c_spec_sGood (p_s : List impl_Variable) (r : Bool) (hr : spec_sGood p_s = some r) (w0 : World) (m : Mem) (hv : Vis m w0) (s1 : Sl) (h1 : Rd m s1 p_s) :
  Ret Tryz.prog 71 [s1.v] w0 (fun v _=>v = (.bool r)):=by
 unfold spec_sGood at hr
 refine ret_start Tryz.func71 rfl 36 rfl rfl m hv fun a hF hS=>q_seq (q_region (q_x (v:=(.bool false)) hF hS (ex_assign rfl) rfl rfl fun a hF=>q_end (n_sq (q_seq (q_seq (q_region (q_x (v:=s1.v) hF hS (ex_move rfl) rfl rfl fun a hF=>q_x (v:=(iV (goLen p_s))) hF hS (ex_len Tryz.underlying27 rfl h1.len) rfl rfl fun a hF=>?_)))))))
 obtain ⟨t_2,ht_2,hr⟩:=bindS hr
 refine q_call (vs:=[(iV (goLen p_s)),(iV 1),(iV 6)]) hF hS Tryz.func75 (by kernel_rfl) rfl rfl rfl (c_spec_l1In (goLen p_s) 1 6 t_2 ht_2 _ m hS.vis) ?_
 rintro a w _ rfl hF hS
 refine q_x (v:=(.bool (!t_2))) hF hS (ex_not rfl) rfl rfl fun a hF=>q_end (n_sq ?_)
 rcases bcase (!t_2) with hc1 | hc1
 ·have hr:=cond_f hc1 hr
  refine q_cond_f hF rfl hc1 (q_skipc (n_sq (q_seq (q_seq (q_region (q_x (v:=s1.v) hF hS (ex_move rfl) rfl rfl fun a hF=>q_x (v:=(iV (goLen p_s))) hF hS (ex_len Tryz.underlying27 rfl h1.len) rfl rfl fun a hF=>q_x (v:=(iV 0)) hF hS (ex_move rfl) rfl rfl fun a hF=>q_end (n_sq (q_block ?_))))))))
  obtain ⟨o2,hl2,hr⟩:=bindS hr
  refine q_loop (fun (t_3 : Int) a w=>Fr a 36 [(0,s1.v),(9,s1.v),(10,(iV (goLen p_s))),(11,(iV t_3))]∧St [] w0 w m []) (fun (o : (Unit) ⊕ (Bool)) e a w=>o = .inl ()∧e = .exit 0∧Fr a 36 []∧St [] w0 w m []) hl2 ⟨hF.sub ⟨rfl,rfl,rfl,rfl,trivial⟩,hS⟩ ?_ ?_
  ·clear hF hS
   rintro t_3 a w st ⟨hF,hS⟩ hb2
   unfold spec_sGood_l1 at hb2
   refine q_seq (q_region (q_x (v:=(.bool (decide (t_3 < (goLen p_s))))) hF hS (ex_ibin rfl rfl rfl) rfl rfl fun a hF=>q_end (n_sq (q_seq ?_))))
   rcases bcase (decide (t_3 < (goLen p_s))) with hc3 | hc3
   ·have hb2:=cond_f hc3 hb2
    refine q_cond_f hF rfl hc3 (q_exit (x_sq ?_))
    obtain rfl:=someI hb2
    exact ⟨nofun,.inl ⟨rfl,rfl,hF.sub trivial,hS⟩⟩
   ·have hb2:=cond_t hc3 hb2
    refine q_cond_t hF rfl hc3 (q_skipc (n_sq (q_seq (q_block (q_seq (q_region (q_x (v:=(iV t_3)) hF hS (ex_move rfl) rfl rfl fun a hF=>?_)))))))
    obtain ⟨e_4,he_4,hb2⟩:=bindS hb2
    obtain ⟨vs5,at5,d5⟩:=h1.at he_4 2 rfl
    obtain rfl : vs5 = [(strV e_4.Name),(iV e_4.Levels)]:=d5
    refine q_x (v:=(elP s1 (t_3.toNat * 2))) hF hS (ex_indexAddr Tryz.underlying27 sz95 rfl rfl (h1.idx he_4)) rfl rfl fun a hF=>q_x (v:=(.agg #[(strV e_4.Name),(iV e_4.Levels)])) hF hS (ex_loadEA (us:=[(strV e_4.Name),(iV e_4.Levels)]) 0 Tryz.underlying95 rfl sz95 rfl ((at5).at) rfl rfl rfl) rfl rfl fun a hF=>q_alloc (cs:=[(strV ([] : List UInt8)),(iV 0)]) hF hS rfl rfl rfl fun a w b6 hF hS=>q_x (v:=(iV t_3)) hF hS (ex_assign rfl) rfl rfl fun a hF=>q_store (vs:=[(strV e_4.Name),(iV e_4.Levels)]) (cs':=[(strV e_4.Name),(iV e_4.Levels)]) 0 0 hF hS sz95 rfl rfl rfl rfl rfl rfl rfl rfl fun a w hF hS=>q_end (n_sq (q_seq ?_))
    obtain ⟨t_12,hj4,hb2⟩:=bindS hb2
    refine q_join (fun a w=>Fr a 36 [(0,s1.v),(9,s1.v),(10,(iV (goLen p_s))),(11,(iV t_3)),(34,(.bool t_12))]∧St [] w0 w m []) ?_ ?_
    ·refine e_region ⟨[],[]⟩ mixed fun w' hw'=>?_
     have hS:=hS.below hw'
     refine e_p (v:=(.pointer (some ⟨b6,0,none⟩))) 0 hF rfl (ex_fieldAddr Tryz.underlying95 rfl sz9 rfl rfl) rfl rfl (by kernel_rfl) (by kernel_rfl) (by kernel_rfl) fun a hF=>e_x (v:=(strV e_4.Name)) 1 hF hS rfl (ex_load1 0 0 Tryz.underlying9 rfl rfl rfl rfl) rfl rfl (by kernel_rfl) (by kernel_rfl) (by kernel_rfl) (by kernel_rfl) fun a hF=>e_one 2 (by kernel_rfl) ?_
     obtain ⟨t_7,ht_7,hj4⟩:=bindS hj4
     refine e_call (vs:=[(strV e_4.Name)]) hF hS rfl Tryz.func115 (by kernel_rfl) rfl rfl rfl (c_spec_sName e_4.Name t_7 ht_7 _ m hS.vis) ?_
     rintro a w _ rfl hF hS
     refine e_p (v:=(.bool (!t_7))) 3 hF rfl (ex_not rfl) rfl rfl (by kernel_rfl) (by kernel_rfl) (by kernel_rfl) fun a hF=>e_p (v:=(.bool (!t_7))) 4 hF rfl (ex_move rfl) rfl rfl (by kernel_rfl) (by kernel_rfl) (by kernel_rfl) fun a hF=>?_
     rcases bcase (!t_7) with hc5 | hc5
     ·have hj4:=cond_f hc5 hj4
      refine e_pg (v:=(.pointer (some ⟨b6,1,none⟩))) 5 hF rfl (ex_fieldAddr Tryz.underlying95 rfl sz3 rfl rfl) (wanted_t hF rfl rfl rfl hc5) rfl (by kernel_rfl) (by kernel_rfl) (by kernel_rfl) fun a hF=>e_xg (v:=(iV e_4.Levels)) 6 hF hS rfl (ex_load1 0 0 Tryz.underlying3 rfl rfl rfl rfl) (wanted_t hF rfl rfl rfl hc5) rfl (by kernel_rfl) (by kernel_rfl) (by kernel_rfl) (by kernel_rfl) fun a hF=>e_one 7 (by kernel_rfl) ?_
      obtain ⟨t_8,ht_8,hj4⟩:=bindS hj4
      refine e_callg (vs:=[(iV e_4.Levels),(iV 2),(iV 8)]) hF hS rfl (wanted_t hF rfl rfl rfl hc5) Tryz.func75 (by kernel_rfl) rfl rfl rfl (c_spec_l1In e_4.Levels 2 8 t_8 ht_8 _ m hS.vis) ?_
      rintro a w _ rfl hF hS
      refine e_pg (v:=(.bool (!t_8))) 8 hF rfl (ex_not rfl) (wanted_t hF rfl rfl rfl hc5) rfl (by kernel_rfl) (by kernel_rfl) (by kernel_rfl) fun a hF=>e_p (v:=(.bool (!t_8))) 9 hF rfl (ex_pick_f rfl rfl hc5) rfl rfl (by kernel_rfl) (by kernel_rfl) (by kernel_rfl) fun a hF=>e_p (v:=(.bool (!t_8))) 10 hF rfl (ex_move rfl) rfl rfl (by kernel_rfl) (by kernel_rfl) (by kernel_rfl) fun a hF=>?_
      rcases bcase (!t_8) with hc6 | hc6
      ·have hj4:=cond_f hc6 hj4
       refine e_pg (v:=s1.v) 11 hF rfl (ex_move rfl) (wanted_t hF rfl rfl rfl hc6) rfl (by kernel_rfl) (by kernel_rfl) (by kernel_rfl) fun a hF=>e_pg (v:=(iV t_3)) 12 hF rfl (ex_move rfl) (wanted_t hF rfl rfl rfl hc6) rfl (by kernel_rfl) (by kernel_rfl) (by kernel_rfl) fun a hF=>?_
       obtain ⟨l_9,hl_9,hj4⟩:=bindS hj4
       have h10 : Rd m (subS s1 2 (0 : Int).toNat t_3.toNat s1.cap) l_9:=h1.sub' hl_9 2 rfl
       refine e_pg (v:=(subS s1 2 (0 : Int).toNat t_3.toNat s1.cap).v) 13 hF rfl (ex_slice Tryz.underlying27 sz95 rfl rfl rfl (.inl ⟨rfl,rfl⟩) (.inr ⟨_,rfl⟩) (h1.subok hl_9)) (wanted_t hF rfl rfl rfl hc6) rfl (by kernel_rfl) (by kernel_rfl) (by kernel_rfl) fun a hF=>e_pg (v:=(.pointer (some ⟨b6,0,none⟩))) 14 hF rfl (ex_fieldAddr Tryz.underlying95 rfl sz9 rfl rfl) (wanted_t hF rfl rfl rfl hc6) rfl (by kernel_rfl) (by kernel_rfl) (by kernel_rfl) fun a hF=>e_xg (v:=(strV e_4.Name)) 15 hF hS rfl (ex_load1 0 0 Tryz.underlying9 rfl rfl rfl rfl) (wanted_t hF rfl rfl rfl hc6) rfl (by kernel_rfl) (by kernel_rfl) (by kernel_rfl) (by kernel_rfl) fun a hF=>e_one 16 (by kernel_rfl) ?_
       obtain ⟨t_11,ht_11,hj4⟩:=bindS hj4
       refine e_callg (vs:=[(subS s1 2 (0 : Int).toNat t_3.toNat s1.cap).v,(strV e_4.Name)]) hF hS rfl (wanted_t hF rfl rfl rfl hc6) Tryz.func116 (by kernel_rfl) rfl rfl rfl (c_spec_sFind l_9 e_4.Name t_11 ht_11 _ m hS.vis (subS s1 2 (0 : Int).toNat t_3.toNat s1.cap) h10) ?_
       rintro a w _ rfl hF hS
       refine e_pg (v:=(.bool (decide (0 ≤ t_11)))) 17 hF rfl (ex_ibin rfl rfl rfl) (wanted_t hF rfl rfl rfl hc6) rfl (by kernel_rfl) (by kernel_rfl) (by kernel_rfl) fun a hF=>e_p (v:=(.bool (decide (0 ≤ t_11)))) 18 hF rfl (ex_pick_f rfl rfl hc6) rfl rfl (by kernel_rfl) (by kernel_rfl) (by kernel_rfl) fun a hF=>e_end (by kernel_rfl) (n_jn ?_) _
       obtain rfl:=someI hj4
       exact ⟨hF.sub ⟨rfl,rfl,rfl,rfl,rfl,trivial⟩,hS.mask [false]⟩
      ·have hj4:=cond_t hc6 hj4
       refine e_skipP 11 hF rfl (wanted_f hF rfl rfl rfl hc6 rfl) rfl (by kernel_rfl) (by kernel_rfl) (by kernel_rfl) fun a hF=>e_skipP 12 hF rfl (wanted_f hF rfl rfl rfl hc6 rfl) rfl (by kernel_rfl) (by kernel_rfl) (by kernel_rfl) fun a hF=>e_skipP 13 hF rfl (wanted_f hF rfl rfl rfl hc6 rfl) rfl (by kernel_rfl) (by kernel_rfl) (by kernel_rfl) fun a hF=>e_skipP 14 hF rfl (wanted_f hF rfl rfl rfl hc6 rfl) rfl (by kernel_rfl) (by kernel_rfl) (by kernel_rfl) fun a hF=>e_skipP 15 hF rfl (wanted_f hF rfl rfl rfl hc6 rfl) rfl (by kernel_rfl) (by kernel_rfl) (by kernel_rfl) fun a hF=>e_skipP 16 hF rfl (wanted_f hF rfl rfl rfl hc6 rfl) rfl (by kernel_rfl) (by kernel_rfl) (by kernel_rfl) fun a hF=>e_skipP 17 hF rfl (wanted_f hF rfl rfl rfl hc6 rfl) rfl (by kernel_rfl) (by kernel_rfl) (by kernel_rfl) fun a hF=>e_p (v:=(.bool true)) 18 hF rfl (ex_pick_t rfl rfl hc6) rfl rfl (by kernel_rfl) (by kernel_rfl) (by kernel_rfl) fun a hF=>e_end (by kernel_rfl) (n_jn ?_) _
       obtain rfl:=someI hj4
       exact ⟨hF.sub ⟨rfl,rfl,rfl,rfl,rfl,trivial⟩,hS.mask [false]⟩
     ·have hj4:=cond_t hc5 hj4
      refine e_skipP 5 hF rfl (wanted_f hF rfl rfl rfl hc5 rfl) rfl (by kernel_rfl) (by kernel_rfl) (by kernel_rfl) fun a hF=>e_skipP 6 hF rfl (wanted_f hF rfl rfl rfl hc5 rfl) rfl (by kernel_rfl) (by kernel_rfl) (by kernel_rfl) fun a hF=>e_skipP 7 hF rfl (wanted_f hF rfl rfl rfl hc5 rfl) rfl (by kernel_rfl) (by kernel_rfl) (by kernel_rfl) fun a hF=>e_skipP 8 hF rfl (wanted_f hF rfl rfl rfl hc5 rfl) rfl (by kernel_rfl) (by kernel_rfl) (by kernel_rfl) fun a hF=>e_p (v:=(.bool true)) 9 hF rfl (ex_pick_t rfl rfl hc5) rfl rfl (by kernel_rfl) (by kernel_rfl) (by kernel_rfl) fun a hF=>e_p (v:=(.bool true)) 10 hF rfl (ex_move rfl) rfl rfl (by kernel_rfl) (by kernel_rfl) (by kernel_rfl) fun a hF=>e_skipP 11 hF rfl (wanted_f hF rfl rfl rfl rfl rfl) rfl (by kernel_rfl) (by kernel_rfl) (by kernel_rfl) fun a hF=>e_skipP 12 hF rfl (wanted_f hF rfl rfl rfl rfl rfl) rfl (by kernel_rfl) (by kernel_rfl) (by kernel_rfl) fun a hF=>e_skipP 13 hF rfl (wanted_f hF rfl rfl rfl rfl rfl) rfl (by kernel_rfl) (by kernel_rfl) (by kernel_rfl) fun a hF=>e_skipP 14 hF rfl (wanted_f hF rfl rfl rfl rfl rfl) rfl (by kernel_rfl) (by kernel_rfl) (by kernel_rfl) fun a hF=>e_skipP 15 hF rfl (wanted_f hF rfl rfl rfl rfl rfl) rfl (by kernel_rfl) (by kernel_rfl) (by kernel_rfl) fun a hF=>e_skipP 16 hF rfl (wanted_f hF rfl rfl rfl rfl rfl) rfl (by kernel_rfl) (by kernel_rfl) (by kernel_rfl) fun a hF=>e_skipP 17 hF rfl (wanted_f hF rfl rfl rfl rfl rfl) rfl (by kernel_rfl) (by kernel_rfl) (by kernel_rfl) fun a hF=>e_p (v:=(.bool true)) 18 hF rfl (ex_pick_t rfl rfl rfl) rfl rfl (by kernel_rfl) (by kernel_rfl) (by kernel_rfl) fun a hF=>e_end (by kernel_rfl) (n_jn ?_) _
      obtain rfl:=someI hj4
      exact ⟨hF.sub ⟨rfl,rfl,rfl,rfl,rfl,trivial⟩,hS.mask [false]⟩
    ·rintro a w ⟨hF,hS⟩
     refine n_sq ?_
     rcases bcase (t_12) with hc7 | hc7
     ·have hb2:=cond_f hc7 hb2
      refine q_cond_f hF rfl hc7 (q_skipc (n_ib (n_sq (q_region (q_x (v:=(iV (w64 (t_3 + 1)))) hF hS (ex_ibin rfl rfl rfl) rfl rfl fun a hF=>q_x (v:=(iV (w64 (t_3 + 1)))) hF hS (ex_move rfl) rfl rfl fun a hF=>q_end ?_)))))
      obtain rfl:=someI hb2
      exact ⟨rfl,hF.sub ⟨rfl,rfl,rfl,rfl,trivial⟩,hS⟩
     ·have hb2:=cond_t hc7 hb2
      refine q_cond_t hF rfl hc7 (q_seq (q_region (q_x (v:=(.bool false)) hF hS (ex_assign rfl) rfl rfl fun a hF=>q_end (n_sq (q_ret (r_ib (r_sq ?_)))))))
      obtain rfl:=someI hb2
      refine ⟨nofun,.inr fun ho=>?_⟩
      subst ho
      refine r_ib (r_sq ?_)
      obtain rfl:=someI hr
      exact ret_of hF hS rfl (.tmp rfl .nil) rfl
  ·rintro e a w ⟨rfl,rfl,hF,hS⟩
   refine x_ib (n_sq ?_)
   refine q_seq (q_region (q_x (v:=(.bool true)) hF hS (ex_assign rfl) rfl rfl fun a hF=>q_end (n_sq (q_ret ?_))))
   obtain rfl:=someI hr
   exact ret_of hF hS rfl (.tmp rfl .nil) rfl
 ·have hr:=cond_t hc1 hr
  refine q_cond_t hF rfl hc1 (q_seq (q_region (q_x (v:=(.bool false)) hF hS (ex_assign rfl) rfl rfl fun a hF=>q_end (n_sq (q_ret (r_sq ?_))))))
  obtain rfl:=someI hr
  exact ret_of hF hS rfl (.tmp rfl .nil) rfl

theorem c_spec_l1Rising (p_l : List Int) (p_lo : Int) (p_hi : Int) (r : Bool) (hr : spec_l1Rising p_l p_lo p_hi = some r) (w0 : World) (m : Mem) (hv : Vis m w0) (s1 : Sl) (h1 : Rd m s1 p_l) :
  Ret Tryz.prog 73 [s1.v,(iV p_lo),(iV p_hi)] w0 (fun v _=>v = (.bool r)):=by
 unfold spec_l1Rising at hr
 refine ret_start Tryz.func73 rfl 35 rfl rfl m hv fun a hF hS=>q_seq (q_region (q_x (v:=(.bool false)) hF hS (ex_assign rfl) rfl rfl fun a hF=>q_end (n_sq (q_seq (q_seq (q_region (q_x (v:=s1.v) hF hS (ex_move rfl) rfl rfl fun a hF=>q_x (v:=(iV (goLen p_l))) hF hS (ex_len Tryz.underlying24 rfl h1.len) rfl rfl fun a hF=>q_x (v:=(iV 0)) hF hS (ex_move rfl) rfl rfl fun a hF=>q_end (n_sq (q_block ?_)))))))))
 obtain ⟨o1,hl1,hr⟩:=bindS hr
 refine q_loop (fun (t_2 : Int) a w=>Fr a 35 [(0,s1.v),(1,(iV p_lo)),(2,(iV p_hi)),(9,s1.v),(10,(iV (goLen p_l))),(11,(iV t_2))]∧St [] w0 w m []) (fun (o : (Unit) ⊕ (Bool)) e a w=>o = .inl ()∧e = .exit 0∧Fr a 35 []∧St [] w0 w m []) hl1 ⟨hF.sub ⟨rfl,rfl,rfl,rfl,rfl,rfl,trivial⟩,hS⟩ ?_ ?_
 ·clear hF hS
  rintro t_2 a w st ⟨hF,hS⟩ hb1
  unfold spec_l1Rising_l1 at hb1
  refine q_seq (q_region (q_x (v:=(.bool (decide (t_2 < (goLen p_l))))) hF hS (ex_ibin rfl rfl rfl) rfl rfl fun a hF=>q_end (n_sq (q_seq ?_))))
  rcases bcase (decide (t_2 < (goLen p_l))) with hc2 | hc2
  ·have hb1:=cond_f hc2 hb1
   refine q_cond_f hF rfl hc2 (q_exit (x_sq ?_))
   obtain rfl:=someI hb1
   exact ⟨nofun,.inl ⟨rfl,rfl,hF.sub trivial,hS⟩⟩
  ·have hb1:=cond_t hc2 hb1
   refine q_cond_t hF rfl hc2 (q_skipc (n_sq (q_seq (q_block (q_seq (q_region (q_x (v:=(iV t_2)) hF hS (ex_move rfl) rfl rfl fun a hF=>?_)))))))
   obtain ⟨e_3,he_3,hb1⟩:=bindS hb1
   obtain ⟨vs4,at4,d4⟩:=h1.at he_3 1 rfl
   obtain rfl : vs4 = [(iV e_3)]:=d4
   refine q_x (v:=(elP s1 (t_2.toNat * 1))) hF hS (ex_indexAddr Tryz.underlying24 sz3 rfl rfl (h1.idx he_3)) rfl rfl fun a hF=>q_x (v:=(iV e_3)) hF hS (ex_loadE1 0 Tryz.underlying3 rfl rfl ((at4).at) rfl rfl) rfl rfl fun a hF=>q_x (v:=(iV t_2)) hF hS (ex_assign rfl) rfl rfl fun a hF=>q_x (v:=(iV e_3)) hF hS (ex_assign rfl) rfl rfl fun a hF=>q_end (n_sq (q_seq ?_))
   obtain ⟨t_8,hj3,hb1⟩:=bindS hb1
   refine q_join (fun a w=>Fr a 35 [(0,s1.v),(1,(iV p_lo)),(2,(iV p_hi)),(9,s1.v),(10,(iV (goLen p_l))),(11,(iV t_2)),(33,(.bool t_8))]∧St [] w0 w m []) ?_ ?_
   ·refine q_region (q_x (v:=(iV e_3)) hF hS (ex_move rfl) rfl rfl fun a hF=>q_x (v:=(iV p_lo)) hF hS (ex_move rfl) rfl rfl fun a hF=>q_x (v:=(iV p_hi)) hF hS (ex_move rfl) rfl rfl fun a hF=>?_)
    obtain ⟨t_5,ht_5,hj3⟩:=bindS hj3
    refine q_call (vs:=[(iV e_3),(iV p_lo),(iV p_hi)]) hF hS Tryz.func75 (by kernel_rfl) rfl rfl rfl (c_spec_l1In e_3 p_lo p_hi t_5 ht_5 _ m hS.vis) ?_
    rintro a w _ rfl hF hS
    refine q_x (v:=(.bool (!t_5))) hF hS (ex_not rfl) rfl rfl fun a hF=>q_x (v:=(.bool (!t_5))) hF hS (ex_move rfl) rfl rfl fun a hF=>?_
    rcases bcase (!t_5) with hc4 | hc4
    ·have hj3:=cond_f hc4 hj3
     refine q_xg (v:=(iV t_2)) hF hS (ex_move rfl) (wanted_t hF rfl rfl rfl hc4) rfl fun a hF=>q_xg (v:=(.bool (decide (0 < t_2)))) hF hS (ex_ibin rfl rfl rfl) (wanted_t hF rfl rfl rfl hc4) rfl fun a hF=>q_xg (v:=(.bool (decide (0 < t_2)))) hF hS (ex_move rfl) (wanted_t hF rfl rfl rfl hc4) rfl fun a hF=>?_
     rcases bcase (decide (0 < t_2)) with hc5 | hc5
     ·have hj3:=cond_f hc5 hj3
      refine q_skip hF (wanted_f hF rfl rfl rfl hc5 rfl) rfl fun a hF=>q_skip hF (wanted_f hF rfl rfl rfl hc5 rfl) rfl fun a hF=>q_skip hF (wanted_f hF rfl rfl rfl hc5 rfl) rfl fun a hF=>q_skip hF (wanted_f hF rfl rfl rfl hc5 rfl) rfl fun a hF=>q_skip hF (wanted_f hF rfl rfl rfl hc5 rfl) rfl fun a hF=>q_skip hF (wanted_f hF rfl rfl rfl hc5 rfl) rfl fun a hF=>q_skip hF (wanted_f hF rfl rfl rfl hc5 rfl) rfl fun a hF=>q_xg (v:=(.bool false)) hF hS (ex_pick_f rfl rfl hc5) (wanted_t hF rfl rfl rfl hc4) rfl fun a hF=>q_x (v:=(.bool false)) hF hS (ex_pick_f rfl rfl hc4) rfl rfl fun a hF=>q_end (n_jn ?_)
      obtain rfl:=someI hj3
      exact ⟨hF.sub ⟨rfl,rfl,rfl,rfl,rfl,rfl,rfl,trivial⟩,hS⟩
     ·have hj3:=cond_t hc5 hj3
      refine q_xg (v:=s1.v) hF hS (ex_move rfl) (wanted_t hF rfl rfl rfl hc5) rfl fun a hF=>q_xg (v:=(iV t_2)) hF hS (ex_move rfl) (wanted_t hF rfl rfl rfl hc5) rfl fun a hF=>q_xg (v:=(iV (w64 (t_2 - 1)))) hF hS (ex_ibin rfl rfl rfl) (wanted_t hF rfl rfl rfl hc5) rfl fun a hF=>?_
      obtain ⟨e_6,he_6,hj3⟩:=bindS hj3
      obtain ⟨vs7,at7,d7⟩:=h1.at he_6 1 rfl
      obtain rfl : vs7 = [(iV e_6)]:=d7
      refine q_xg (v:=(elP s1 ((w64 (t_2 - 1)).toNat * 1))) hF hS (ex_indexAddr Tryz.underlying24 sz3 rfl rfl (h1.idx he_6)) (wanted_t hF rfl rfl rfl hc5) rfl fun a hF=>q_xg (v:=(iV e_6)) hF hS (ex_loadE1 0 Tryz.underlying3 rfl rfl ((at7).at) rfl rfl) (wanted_t hF rfl rfl rfl hc5) rfl fun a hF=>q_xg (v:=(iV e_3)) hF hS (ex_move rfl) (wanted_t hF rfl rfl rfl hc5) rfl fun a hF=>q_xg (v:=(.bool (decide (e_3 ≤ e_6)))) hF hS (ex_ibin rfl rfl rfl) (wanted_t hF rfl rfl rfl hc5) rfl fun a hF=>q_xg (v:=(.bool (decide (e_3 ≤ e_6)))) hF hS (ex_pick_t rfl rfl hc5) (wanted_t hF rfl rfl rfl hc4) rfl fun a hF=>q_x (v:=(.bool (decide (e_3 ≤ e_6)))) hF hS (ex_pick_f rfl rfl hc4) rfl rfl fun a hF=>q_end (n_jn ?_)
      obtain rfl:=someI hj3
      exact ⟨hF.sub ⟨rfl,rfl,rfl,rfl,rfl,rfl,rfl,trivial⟩,hS⟩
    ·have hj3:=cond_t hc4 hj3
     refine q_skip hF (wanted_f hF rfl rfl rfl hc4 rfl) rfl fun a hF=>q_skip hF (wanted_f hF rfl rfl rfl hc4 rfl) rfl fun a hF=>q_skip hF (wanted_f hF rfl rfl rfl hc4 rfl) rfl fun a hF=>q_skip hF (wanted_u hF rfl rfl rfl) rfl fun a hF=>q_skip hF (wanted_u hF rfl rfl rfl) rfl fun a hF=>q_skip hF (wanted_u hF rfl rfl rfl) rfl fun a hF=>q_skip hF (wanted_u hF rfl rfl rfl) rfl fun a hF=>q_skip hF (wanted_u hF rfl rfl rfl) rfl fun a hF=>q_skip hF (wanted_u hF rfl rfl rfl) rfl fun a hF=>q_skip hF (wanted_u hF rfl rfl rfl) rfl fun a hF=>q_skip hF (wanted_f hF rfl rfl rfl hc4 rfl) rfl fun a hF=>q_x (v:=(.bool true)) hF hS (ex_pick_t rfl rfl hc4) rfl rfl fun a hF=>q_end (n_jn ?_)
     obtain rfl:=someI hj3
     exact ⟨hF.sub ⟨rfl,rfl,rfl,rfl,rfl,rfl,rfl,trivial⟩,hS⟩
   ·rintro a w ⟨hF,hS⟩
    refine n_sq ?_
    rcases bcase (t_8) with hc6 | hc6
    ·have hb1:=cond_f hc6 hb1
     refine q_cond_f hF rfl hc6 (q_skipc (n_ib (n_sq (q_region (q_x (v:=(iV (w64 (t_2 + 1)))) hF hS (ex_ibin rfl rfl rfl) rfl rfl fun a hF=>q_x (v:=(iV (w64 (t_2 + 1)))) hF hS (ex_move rfl) rfl rfl fun a hF=>q_end ?_)))))
     obtain rfl:=someI hb1
     exact ⟨rfl,hF.sub ⟨rfl,rfl,rfl,rfl,rfl,rfl,trivial⟩,hS⟩
    ·have hb1:=cond_t hc6 hb1
     refine q_cond_t hF rfl hc6 (q_seq (q_region (q_x (v:=(.bool false)) hF hS (ex_assign rfl) rfl rfl fun a hF=>q_end (n_sq (q_ret (r_ib (r_sq ?_)))))))
     obtain rfl:=someI hb1
     refine ⟨nofun,.inr fun ho=>?_⟩
     subst ho
     refine r_ib (r_sq ?_)
     obtain rfl:=someI hr
     exact ret_of hF hS rfl (.tmp rfl .nil) rfl
 ·rintro e a w ⟨rfl,rfl,hF,hS⟩
  refine x_ib (n_sq ?_)
  refine q_seq (q_region (q_x (v:=(.bool true)) hF hS (ex_assign rfl) rfl rfl fun a hF=>q_end (n_sq (q_ret ?_))))
  obtain rfl:=someI hr
  exact ret_of hF hS rfl (.tmp rfl .nil) rfl

theorem c_spec_uWhere (p_s : List impl_Variable) (p_where : List Int) (r : Bool) (hr : spec_uWhere p_s p_where = some r) (w0 : World) (m : Mem) (hv : Vis m w0) (s1 : Sl) (h1 : Rd m s1 p_s) (s2 : Sl) (h2 : Rd m s2 p_where) :
  Ret Tryz.prog 74 [s1.v,s2.v] w0 (fun v _=>v = (.bool r)):=by
 unfold spec_uWhere at hr
 refine ret_start Tryz.func74 rfl 31 rfl rfl m hv fun a hF hS=>q_seq (q_region (q_x (v:=(.bool false)) hF hS (ex_assign rfl) rfl rfl fun a hF=>q_end (n_sq (q_seq (q_seq (q_region (q_x (v:=s2.v) hF hS (ex_move rfl) rfl rfl fun a hF=>q_x (v:=(iV (goLen p_where))) hF hS (ex_len Tryz.underlying24 rfl h2.len) rfl rfl fun a hF=>q_x (v:=s1.v) hF hS (ex_move rfl) rfl rfl fun a hF=>q_x (v:=(iV (goLen p_s))) hF hS (ex_len Tryz.underlying27 rfl h1.len) rfl rfl fun a hF=>q_x (v:=(.bool ((goLen p_where) != (goLen p_s)))) hF hS (ex_ibin rfl rfl rfl) rfl rfl fun a hF=>q_end (n_sq ?_))))))))
 rcases bcase ((goLen p_where) != (goLen p_s)) with hc1 | hc1
 ·have hr:=cond_f hc1 hr
  refine q_cond_f hF rfl hc1 (q_skipc (n_sq (q_seq (q_seq (q_region (q_x (v:=s1.v) hF hS (ex_move rfl) rfl rfl fun a hF=>q_x (v:=(iV (goLen p_s))) hF hS (ex_len Tryz.underlying27 rfl h1.len) rfl rfl fun a hF=>q_x (v:=(iV 0)) hF hS (ex_move rfl) rfl rfl fun a hF=>q_end (n_sq (q_block ?_))))))))
  obtain ⟨o2,hl2,hr⟩:=bindS hr
  refine q_loop (fun (t_3 : Int) a w=>Fr a 31 [(1,s2.v),(12,s1.v),(13,(iV (goLen p_s))),(14,(iV t_3))]∧St [] w0 w m []) (fun (o : (Unit) ⊕ (Bool)) e a w=>o = .inl ()∧e = .exit 0∧Fr a 31 []∧St [] w0 w m []) hl2 ⟨hF.sub ⟨rfl,rfl,rfl,rfl,trivial⟩,hS⟩ ?_ ?_
  ·clear hF hS
   rintro t_3 a w st ⟨hF,hS⟩ hb2
   unfold spec_uWhere_l1 at hb2
   refine q_seq (q_region (q_x (v:=(.bool (decide (t_3 < (goLen p_s))))) hF hS (ex_ibin rfl rfl rfl) rfl rfl fun a hF=>q_end (n_sq (q_seq ?_))))
   rcases bcase (decide (t_3 < (goLen p_s))) with hc3 | hc3
   ·have hb2:=cond_f hc3 hb2
    refine q_cond_f hF rfl hc3 (q_exit (x_sq ?_))
    obtain rfl:=someI hb2
    exact ⟨nofun,.inl ⟨rfl,rfl,hF.sub trivial,hS⟩⟩
   ·have hb2:=cond_t hc3 hb2
    refine q_cond_t hF rfl hc3 (q_skipc (n_sq (q_seq (q_block (q_seq (q_region (q_x (v:=(iV t_3)) hF hS (ex_move rfl) rfl rfl fun a hF=>?_)))))))
    obtain ⟨e_4,he_4,hb2⟩:=bindS hb2
    obtain ⟨vs5,at5,d5⟩:=h1.at he_4 2 rfl
    obtain rfl : vs5 = [(strV e_4.Name),(iV e_4.Levels)]:=d5
    refine q_x (v:=(elP s1 (t_3.toNat * 2))) hF hS (ex_indexAddr Tryz.underlying27 sz95 rfl rfl (h1.idx he_4)) rfl rfl fun a hF=>q_x (v:=(.agg #[(strV e_4.Name),(iV e_4.Levels)])) hF hS (ex_loadEA (us:=[(strV e_4.Name),(iV e_4.Levels)]) 0 Tryz.underlying95 rfl sz95 rfl ((at5).at) rfl rfl rfl) rfl rfl fun a hF=>q_alloc (cs:=[(strV ([] : List UInt8)),(iV 0)]) hF hS rfl rfl rfl fun a w b6 hF hS=>q_x (v:=(iV t_3)) hF hS (ex_assign rfl) rfl rfl fun a hF=>q_store (vs:=[(strV e_4.Name),(iV e_4.Levels)]) (cs':=[(strV e_4.Name),(iV e_4.Levels)]) 0 0 hF hS sz95 rfl rfl rfl rfl rfl rfl rfl rfl fun a w hF hS=>q_end (n_sq (q_seq (e_region ⟨[],[]⟩ mixed fun w' hw'=>?_)))
    have hS:=hS.below hw'
    refine e_p (v:=s2.v) 0 hF rfl (ex_move rfl) rfl rfl (by kernel_rfl) (by kernel_rfl) (by kernel_rfl) fun a hF=>e_p (v:=(iV t_3)) 1 hF rfl (ex_move rfl) rfl rfl (by kernel_rfl) (by kernel_rfl) (by kernel_rfl) fun a hF=>?_
    obtain ⟨e_7,he_7,hb2⟩:=bindS hb2
    obtain ⟨vs8,at8,d8⟩:=h2.at he_7 1 rfl
    obtain rfl : vs8 = [(iV e_7)]:=d8
    refine e_p (v:=(elP s2 (t_3.toNat * 1))) 2 hF rfl (ex_indexAddr Tryz.underlying24 sz3 rfl rfl (h2.idx he_7)) rfl rfl (by kernel_rfl) (by kernel_rfl) (by kernel_rfl) fun a hF=>e_x (v:=(iV e_7)) 3 hF hS rfl (ex_loadE1 0 Tryz.underlying3 rfl rfl ((at8).at) rfl rfl) rfl rfl (by kernel_rfl) (by kernel_rfl) (by kernel_rfl) (by kernel_rfl) fun a hF=>e_p (v:=(.pointer (some ⟨b6,1,none⟩))) 4 hF rfl (ex_fieldAddr Tryz.underlying95 rfl sz3 rfl rfl) rfl rfl (by kernel_rfl) (by kernel_rfl) (by kernel_rfl) fun a hF=>e_x (v:=(iV e_4.Levels)) 5 hF hS rfl (ex_load1 0 0 Tryz.underlying3 rfl rfl rfl rfl) rfl rfl (by kernel_rfl) (by kernel_rfl) (by kernel_rfl) (by kernel_rfl) fun a hF=>e_p (v:=(.int .u64 (IntKind.wrap .u64 e_4.Levels))) 6 hF rfl (ex_conv Tryz.underlying3 Tryz.underlying137 rfl) rfl rfl (by kernel_rfl) (by kernel_rfl) (by kernel_rfl) fun a hF=>?_
    obtain ⟨t_9,ht_9,hb2⟩:=bindS hb2
    refine e_p (v:=(iV t_9)) 7 hF rfl (ex_shl rfl rfl ht_9) rfl rfl (by kernel_rfl) (by kernel_rfl) (by kernel_rfl) fun a hF=>e_p (v:=(iV (w64 (t_9 - 1)))) 8 hF rfl (ex_ibin rfl rfl rfl) rfl rfl (by kernel_rfl) (by kernel_rfl) (by kernel_rfl) fun a hF=>e_one 9 (by kernel_rfl) ?_
    obtain ⟨t_10,ht_10,hb2⟩:=bindS hb2
    refine e_call (vs:=[(iV e_7),(iV 0),(iV (w64 (t_9 - 1)))]) hF hS rfl Tryz.func75 (by kernel_rfl) rfl rfl rfl (c_spec_l1In e_7 0 (w64 (t_9 - 1)) t_10 ht_10 _ m hS.vis) ?_
    rintro a w _ rfl hF hS
    refine e_p (v:=(.bool (!t_10))) 10 hF rfl (ex_not rfl) rfl rfl (by kernel_rfl) (by kernel_rfl) (by kernel_rfl) fun a hF=>e_end (by kernel_rfl) (n_sq ?_) _
    rcases bcase (!t_10) with hc4 | hc4
    ·have hb2:=cond_f hc4 hb2
     refine q_cond_f hF rfl hc4 (q_skipc (n_ib (n_sq (q_region (q_x (v:=(iV (w64 (t_3 + 1)))) hF hS (ex_ibin rfl rfl rfl) rfl rfl fun a hF=>q_x (v:=(iV (w64 (t_3 + 1)))) hF hS (ex_move rfl) rfl rfl fun a hF=>q_end ?_)))))
     obtain rfl:=someI hb2
     exact ⟨rfl,hF.sub ⟨rfl,rfl,rfl,rfl,trivial⟩,hS.mask [false]⟩
    ·have hb2:=cond_t hc4 hb2
     refine q_cond_t hF rfl hc4 (q_seq (q_region (q_x (v:=(.bool false)) hF hS (ex_assign rfl) rfl rfl fun a hF=>q_end (n_sq (q_ret (r_ib (r_sq ?_)))))))
     obtain rfl:=someI hb2
     refine ⟨nofun,.inr fun ho=>?_⟩
     subst ho
     refine r_ib (r_sq ?_)
     obtain rfl:=someI hr
     exact ret_of hF hS rfl (.tmp rfl .nil) rfl
  ·rintro e a w ⟨rfl,rfl,hF,hS⟩
   refine x_ib (n_sq ?_)
   refine q_seq (q_region (q_x (v:=(.bool true)) hF hS (ex_assign rfl) rfl rfl fun a hF=>q_end (n_sq (q_ret ?_))))
   obtain rfl:=someI hr
   exact ret_of hF hS rfl (.tmp rfl .nil) rfl
 ·have hr:=cond_t hc1 hr
  refine q_cond_t hF rfl hc1 (q_seq (q_region (q_x (v:=(.bool false)) hF hS (ex_assign rfl) rfl rfl fun a hF=>q_end (n_sq (q_ret (r_sq ?_))))))
  obtain rfl:=someI hr
  exact ret_of hF hS rfl (.tmp rfl .nil) rfl

theorem c_spec_sPart (p_s : List impl_Variable) (p_vars : List Int) (r : (List impl_Variable)) (hr : spec_sPart p_s p_vars = some r) (w0 : World) (m : Mem) (hv : Vis m w0) (s1 : Sl) (h1 : Rd m s1 p_s) (s2 : Sl) (h2 : Rd m s2 p_vars) :
  Ret Tryz.prog 119 [s1.v,s2.v] w0 (fun v w=>∃ (q0' : Piece) (s0' : Sl),v = s0'.v∧St [] w0 w m [q0']∧OwnL m 95 q0' s0' r):=by
 unfold spec_sPart at hr
 refine ret_start Tryz.func119 rfl 23 rfl rfl m hv fun a hF hS=>q_seq (q_region (q_x (v:=nilS.v) hF hS (ex_assign rfl) rfl rfl fun a hF=>q_end (n_sq (q_seq (q_region (q_x (v:=nilS.v) hF hS (ex_assign rfl) rfl rfl fun a hF=>q_end (n_sq (q_seq (q_seq (q_region (q_x (v:=s2.v) hF hS (ex_move rfl) rfl rfl fun a hF=>q_x (v:=(iV (goLen p_vars))) hF hS (ex_len Tryz.underlying24 rfl h2.len) rfl rfl fun a hF=>q_x (v:=(iV 0)) hF hS (ex_move rfl) rfl rfl fun a hF=>q_end (n_sq (q_block ?_)))))))))))))
 obtain ⟨out_13,hl1,hr⟩:=bindS hr
 refine q_loop (fun (s : (List impl_Variable) × Int) a w=>∃ (q4 : Piece),∃ (s4 : Sl),∃ out_3,∃ t_5,s = (out_3,t_5)∧Fr a 23 [(0,s1.v),(5,s4.v),(8,s2.v),(9,(iV (goLen p_vars))),(10,(iV t_5))]∧St [] w0 w m [q4]∧OwnL m 95 q4 s4 out_3) (fun (out_13 : (List impl_Variable)) e a w=>∃ (q14 : Piece),∃ (s14 : Sl),e = .exit 0∧Fr a 23 [(5,s14.v)]∧St [] w0 w m [q14]∧OwnL m 95 q14 s14 out_13) hl1 ⟨[],nilS,_,_,rfl,hF.sub ⟨rfl,rfl,rfl,rfl,rfl,trivial⟩,hS.sel [0] (by decide),(OwnL.nil (α:=impl_Variable) m 95)⟩ ?_ ?_
 ·clear hF hS
  rintro s a w st ⟨q4,s4,out_3,t_5,rfl,hF,hS,h4⟩ hb1
  unfold spec_sPart_l1 at hb1
  refine q_seq (q_region (q_x (v:=(.bool (decide (t_5 < (goLen p_vars))))) hF hS (ex_ibin rfl rfl rfl) rfl rfl fun a hF=>q_end (n_sq (q_seq ?_))))
  rcases bcase (decide (t_5 < (goLen p_vars))) with hc2 | hc2
  ·have hb1:=cond_f hc2 hb1
   refine q_cond_f hF rfl hc2 (q_exit (x_sq ?_))
   obtain rfl:=someI hb1
   exact ⟨nofun,.inl ⟨q4,s4,rfl,hF.sub ⟨rfl,trivial⟩,hS,h4⟩⟩
  ·have hb1:=cond_t hc2 hb1
   refine q_cond_t hF rfl hc2 (q_skipc (n_sq (q_seq (q_block (q_seq (q_region ?_))))))
   obtain ⟨e_6,he_6,hb1⟩:=bindS hb1
   obtain ⟨vs7,at7,d7⟩:=h2.at he_6 1 rfl
   obtain rfl : vs7 = [(iV e_6)]:=d7
   refine q_x (v:=(elP s2 (t_5.toNat * 1))) hF hS (ex_indexAddr Tryz.underlying24 sz3 rfl rfl (h2.idx he_6)) rfl rfl fun a hF=>q_x (v:=(iV e_6)) hF hS (ex_loadE1 0 Tryz.underlying3 rfl rfl ((at7).at) rfl rfl) rfl rfl fun a hF=>q_x (v:=(iV e_6)) hF hS (ex_assign rfl) rfl rfl fun a hF=>q_end (n_sq (q_region (q_x (v:=s4.v) hF hS (ex_move rfl) rfl rfl fun a hF=>q_x (v:=s1.v) hF hS (ex_move rfl) rfl rfl fun a hF=>q_x (v:=(iV e_6)) hF hS (ex_move rfl) rfl rfl fun a hF=>?_)))
   obtain ⟨e_8,he_8,hb1⟩:=bindS hb1
   obtain ⟨vs9,at9,d9⟩:=h1.at he_8 2 rfl
   obtain rfl : vs9 = [(strV e_8.Name),(iV e_8.Levels)]:=d9
   refine q_x (v:=(elP s1 (e_6.toNat * 2))) hF hS (ex_indexAddr Tryz.underlying27 sz95 rfl rfl (h1.idx he_8)) rfl rfl fun a hF=>q_x (v:=(.agg #[(strV e_8.Name),(iV e_8.Levels)])) hF hS (ex_loadEA (us:=[(strV e_8.Name),(iV e_8.Levels)]) 0 Tryz.underlying95 rfl sz95 rfl ((at9).at) rfl rfl rfl) rfl rfl fun a hF=>q_do rfl fun _ hK=>wp_buildSlice' (l:=([e_8] : List impl_Variable)) (cells:=[(strV e_8.Name),(iV e_8.Levels)]) hF hS Tryz.underlying27 inf95 rfl rfl (by kernel_rfl) rfl rfl rfl ⟨rfl,rfl⟩ rfl rfl fun a w q10 s10 hF hS h10 _=>hK _ _ ?_
   have hS : St _ _ _ _ [q4,q10]:=hS.sel [1,0] (by decide)
   obtain ⟨l_11,hl_11,hb1⟩:=bindS hb1
   refine q_do rfl fun _ hK=>wp_append hF hS h4 Tryz.underlying27 inf95 rfl rfl rfl rfl (h10.vw hS (j:=1) rfl) rfl (by decide) hl_11 rfl fun a w q12 s12 hF hS h12=>hK _ _ (q_x (v:=s12.v) hF hS (ex_assign rfl) rfl rfl fun a hF=>q_end (n_ib (n_sq (q_region (q_x (v:=(iV (w64 (t_5 + 1)))) hF hS (ex_ibin rfl rfl rfl) rfl rfl fun a hF=>q_x (v:=(iV (w64 (t_5 + 1)))) hF hS (ex_move rfl) rfl rfl fun a hF=>q_end ?_)))))
   obtain rfl:=someI hb1
   exact ⟨rfl,q12,s12,_,_,rfl,hF.sub ⟨rfl,rfl,rfl,rfl,rfl,trivial⟩,hS.mask [true,false],h12⟩
 ·rintro e a w ⟨q14,s14,rfl,hF,hS,h14⟩
  refine x_ib (n_sq ?_)
  refine q_seq (q_region (q_x (v:=s14.v) hF hS (ex_move rfl) rfl rfl fun a hF=>q_x (v:=s14.v) hF hS (ex_assign rfl) rfl rfl fun a hF=>q_end (n_sq (q_ret ?_))))
  obtain rfl:=someI hr
  exact ret_of hF hS rfl (.tmp rfl .nil) ⟨q14,s14,rfl,hS.sel [0] (by decide),h14⟩

theorem c_spec_sCount (p_s : List impl_Variable) (r : Int) (hr : spec_sCount p_s = some r) (w0 : World) (m : Mem) (hv : Vis m w0) (s1 : Sl) (h1 : Rd m s1 p_s) :
  Ret Tryz.prog 118 [s1.v] w0 (fun v _=>v = (iV r)):=by
 unfold spec_sCount at hr
 refine ret_start Tryz.func118 rfl 18 rfl rfl m hv fun a hF hS=>q_seq (q_region (q_x (v:=(iV 0)) hF hS (ex_assign rfl) rfl rfl fun a hF=>q_end (n_sq (q_seq (q_region (q_x (v:=(iV 1)) hF hS (ex_assign rfl) rfl rfl fun a hF=>q_end (n_sq (q_seq (q_seq (q_region (q_x (v:=s1.v) hF hS (ex_move rfl) rfl rfl fun a hF=>q_x (v:=(iV (goLen p_s))) hF hS (ex_len Tryz.underlying27 rfl h1.len) rfl rfl fun a hF=>q_x (v:=(iV 0)) hF hS (ex_move rfl) rfl rfl fun a hF=>q_end (n_sq (q_block ?_)))))))))))))
 obtain ⟨n_7,hl1,hr⟩:=bindS hr
 refine q_loop (fun (s : Int × Int) a w=>∃ n_2,∃ t_3,s = (n_2,t_3)∧Fr a 18 [(3,(iV n_2)),(6,s1.v),(7,(iV (goLen p_s))),(8,(iV t_3))]∧St [] w0 w m []) (fun (n_7 : Int) e a w=>e = .exit 0∧Fr a 18 [(3,(iV n_7))]∧St [] w0 w m []) hl1 ⟨_,_,rfl,hF.sub ⟨rfl,rfl,rfl,rfl,trivial⟩,hS⟩ ?_ ?_
 ·clear hF hS
  rintro s a w st ⟨n_2,t_3,rfl,hF,hS⟩ hb1
  unfold spec_sCount_l1 at hb1
  refine q_seq (q_region (q_x (v:=(.bool (decide (t_3 < (goLen p_s))))) hF hS (ex_ibin rfl rfl rfl) rfl rfl fun a hF=>q_end (n_sq (q_seq ?_))))
  rcases bcase (decide (t_3 < (goLen p_s))) with hc2 | hc2
  ·have hb1:=cond_f hc2 hb1
   refine q_cond_f hF rfl hc2 (q_exit (x_sq ?_))
   obtain rfl:=someI hb1
   exact ⟨nofun,.inl ⟨rfl,hF.sub ⟨rfl,trivial⟩,hS⟩⟩
  ·have hb1:=cond_t hc2 hb1
   refine q_cond_t hF rfl hc2 (q_skipc (n_sq (q_seq (q_block (q_seq (q_region ?_))))))
   obtain ⟨e_4,he_4,hb1⟩:=bindS hb1
   obtain ⟨vs5,at5,d5⟩:=h1.at he_4 2 rfl
   obtain rfl : vs5 = [(strV e_4.Name),(iV e_4.Levels)]:=d5
   refine q_x (v:=(elP s1 (t_3.toNat * 2))) hF hS (ex_indexAddr Tryz.underlying27 sz95 rfl rfl (h1.idx he_4)) rfl rfl fun a hF=>q_x (v:=(.agg #[(strV e_4.Name),(iV e_4.Levels)])) hF hS (ex_loadEA (us:=[(strV e_4.Name),(iV e_4.Levels)]) 0 Tryz.underlying95 rfl sz95 rfl ((at5).at) rfl rfl rfl) rfl rfl fun a hF=>q_alloc (cs:=[(strV ([] : List UInt8)),(iV 0)]) hF hS rfl rfl rfl fun a w b6 hF hS=>q_store (vs:=[(strV e_4.Name),(iV e_4.Levels)]) (cs':=[(strV e_4.Name),(iV e_4.Levels)]) 0 0 hF hS sz95 rfl rfl rfl rfl rfl rfl rfl rfl fun a w hF hS=>q_end (n_sq (q_region (q_x (v:=(iV n_2)) hF hS (ex_move rfl) rfl rfl fun a hF=>q_x (v:=(.pointer (some ⟨b6,1,none⟩))) hF hS (ex_fieldAddr Tryz.underlying95 rfl sz3 rfl rfl) rfl rfl fun a hF=>q_x (v:=(iV e_4.Levels)) hF hS (ex_load1 0 0 Tryz.underlying3 rfl rfl rfl rfl) rfl rfl fun a hF=>q_x (v:=(iV (w64 (n_2 * e_4.Levels)))) hF hS (ex_ibin rfl rfl rfl) rfl rfl fun a hF=>q_x (v:=(iV (w64 (n_2 * e_4.Levels)))) hF hS (ex_assign rfl) rfl rfl fun a hF=>q_end (n_ib (n_sq (q_region (q_x (v:=(iV (w64 (t_3 + 1)))) hF hS (ex_ibin rfl rfl rfl) rfl rfl fun a hF=>q_x (v:=(iV (w64 (t_3 + 1)))) hF hS (ex_move rfl) rfl rfl fun a hF=>q_end ?_)))))))
   obtain rfl:=someI hb1
   exact ⟨rfl,_,_,rfl,hF.sub ⟨rfl,rfl,rfl,rfl,trivial⟩,hS.mask [false]⟩
 ·rintro e a w ⟨rfl,hF,hS⟩
  refine x_ib (n_sq ?_)
  refine q_seq (q_region (q_x (v:=(iV n_7)) hF hS (ex_move rfl) rfl rfl fun a hF=>q_x (v:=(iV n_7)) hF hS (ex_assign rfl) rfl rfl fun a hF=>q_end (n_sq (q_ret ?_))))
  obtain rfl:=someI hr
  exact ret_of hF hS rfl (.tmp rfl .nil) rfl

theorem c_spec_uCount (p_g : impl_Geo) (p_s : List impl_Variable) (p_t : impl_Table) (r : Int) (hr : spec_uCount p_g p_s p_t = some r) (w0 : World) (m : Mem) (hv : Vis m w0) (s1 : Sl) (h1 : Rd m s1 p_g.Parents) (s2 : Sl) (h2 : Rd m s2 p_s) (s3 : Sl) (h3 : Rd m s3 p_t.Vars) (s4 : Sl) (h4 : Rd m s4 p_t.Where) :
  Ret Tryz.prog 76 [(.agg #[s1.v]),s2.v,(.agg #[(iV p_t.Level),s3.v,s4.v,(iV p_t.Sum)])] w0 (fun v _=>v = (iV r)):=by
 unfold spec_uCount at hr
 refine ret_start Tryz.func76 rfl 18 rfl rfl m hv fun a hF hS=>q_seq (q_region (q_box (cs:=[s1.v]) hF hS rfl rfl rfl fun a w b5 hF hS=>q_box (cs:=[(iV p_t.Level),s3.v,s4.v,(iV p_t.Sum)]) hF hS rfl rfl rfl fun a w b6 hF hS=>q_x (v:=(iV 0)) hF hS (ex_assign rfl) rfl rfl fun a hF=>q_end (n_sq (q_seq (e_region ⟨[],[]⟩ mixed fun w' hw'=>?_)))))
 have hS:=hS.below hw'
 refine e_x (v:=(.agg #[s1.v])) 0 hF hS rfl (ex_loadA (vs:=[s1.v]) 1 0 Tryz.underlying26 rfl sz26 rfl rfl rfl rfl) rfl rfl (by kernel_rfl) (by kernel_rfl) (by kernel_rfl) (by kernel_rfl) fun a hF=>e_p (v:=(.pointer (some ⟨b6,0,none⟩))) 1 hF rfl (ex_fieldAddr Tryz.underlying29 rfl sz3 rfl rfl) rfl rfl (by kernel_rfl) (by kernel_rfl) (by kernel_rfl) fun a hF=>e_x (v:=(iV p_t.Level)) 2 hF hS rfl (ex_load1 0 0 Tryz.underlying3 rfl rfl rfl rfl) rfl rfl (by kernel_rfl) (by kernel_rfl) (by kernel_rfl) (by kernel_rfl) fun a hF=>e_p (v:=s2.v) 5 hF rfl (ex_move rfl) rfl rfl (by kernel_rfl) (by kernel_rfl) (by kernel_rfl) fun a hF=>e_p (v:=(.pointer (some ⟨b6,1,none⟩))) 6 hF rfl (ex_fieldAddr Tryz.underlying29 rfl sz24 rfl rfl) rfl rfl (by kernel_rfl) (by kernel_rfl) (by kernel_rfl) fun a hF=>e_x (v:=s3.v) 7 hF hS rfl (ex_load1 0 0 Tryz.underlying24 rfl rfl rfl rfl) rfl rfl (by kernel_rfl) (by kernel_rfl) (by kernel_rfl) (by kernel_rfl) fun a hF=>e_one 3 (by kernel_rfl) ?_
 obtain ⟨t_16,ht_16,hr⟩:=bindS hr
 refine e_call (vs:=[(.agg #[s1.v]),(iV p_t.Level)]) hF hS rfl Tryz.func72 (by kernel_rfl) rfl rfl rfl (c_spec_gLevel p_g p_t.Level t_16 ht_16 _ m hS.vis s1 h1) ?_
 rintro a w _ ⟨q18,s18,rfl,hR17,h18⟩ hF hS2
 have hS : St _ _ _ _ [q18,[⟨b6,[(iV p_t.Level),s3.v,s4.v,(iV p_t.Sum)],29⟩],[⟨b5,[s1.v],26⟩]]:=hS.joinF hR17
 refine e_p (v:=(iV (goLen t_16))) 4 hF rfl (ex_len Tryz.underlying24 rfl h18.len) rfl rfl (by kernel_rfl) (by kernel_rfl) (by kernel_rfl) fun a hF=>e_one 8 (by kernel_rfl) ?_
 obtain ⟨t_19,ht_19,hr⟩:=bindS hr
 refine e_call (vs:=[s2.v,s3.v]) hF hS rfl Tryz.func119 (by kernel_rfl) rfl rfl rfl (c_spec_sPart p_s p_t.Vars t_19 ht_19 _ m hS.vis s2 h2 s3 h3) ?_
 rintro a w _ ⟨q21,s21,rfl,hR20,h21⟩ hF hS2
 have hS : St _ _ _ _ [q21,q18,[⟨b6,[(iV p_t.Level),s3.v,s4.v,(iV p_t.Sum)],29⟩],[⟨b5,[s1.v],26⟩]]:=hS.joinF hR20
 refine e_one 9 (by kernel_rfl) ?_
 obtain ⟨m23,hl23,hv23,hz23⟩:=hS.lend
 obtain ⟨t_22,ht_22,hr⟩:=bindS hr
 refine e_call (vs:=[s21.v]) hF hS rfl Tryz.func118 (by kernel_rfl) rfl rfl rfl (c_spec_sCount t_19 t_22 ht_22 _ m23 hv23 s21 (h21.froz hl23 (hz23 0 _ rfl))) ?_
 rintro a w _ rfl hF hS
 refine e_p (v:=(iV (w64 ((goLen t_16) * t_22)))) 10 hF rfl (ex_ibin rfl rfl rfl) rfl rfl (by kernel_rfl) (by kernel_rfl) (by kernel_rfl) fun a hF=>e_p (v:=(iV (w64 ((goLen t_16) * t_22)))) 11 hF rfl (ex_assign rfl) rfl rfl (by kernel_rfl) (by kernel_rfl) (by kernel_rfl) fun a hF=>e_end (by kernel_rfl) (n_sq (q_ret ?_)) _
 obtain rfl:=someI hr
 exact ret_of hF hS rfl (.tmp rfl .nil) rfl

theorem c_spec_uGood (p_g : impl_Geo) (p_s : List impl_Variable) (p_t : impl_Table) (r : Bool) (hr : spec_uGood p_g p_s p_t = some r) (w0 : World) (m : Mem) (hv : Vis m w0) (s1 : Sl) (h1 : Rd m s1 p_g.Parents) (s2 : Sl) (h2 : Rd m s2 p_s) (s3 : Sl) (h3 : Rd m s3 p_t.Vars) (s4 : Sl) (h4 : Rd m s4 p_t.Where) :
  Ret Tryz.prog 32 [(.agg #[s1.v]),s2.v,(.agg #[(iV p_t.Level),s3.v,s4.v,(iV p_t.Sum)])] w0 (fun v _=>v = (.bool r)):=by
 unfold spec_uGood at hr
 refine ret_start Tryz.func32 rfl 53 rfl rfl m hv fun a hF hS=>q_seq (q_region (q_box (cs:=[s1.v]) hF hS rfl rfl rfl fun a w b5 hF hS=>q_box (cs:=[(iV p_t.Level),s3.v,s4.v,(iV p_t.Sum)]) hF hS rfl rfl rfl fun a w b6 hF hS=>q_x (v:=(.bool false)) hF hS (ex_assign rfl) rfl rfl fun a hF=>q_end (n_sq (q_seq (q_seq ?_)))))
 obtain ⟨t_15,hj1,hr⟩:=bindS hr
 refine q_join (fun a w=>Fr a 53 [(1,s2.v),(3,(.pointer (some ⟨b5,0,none⟩))),(5,(.pointer (some ⟨b6,0,none⟩))),(47,(.bool t_15))]∧St [] w0 w m [[⟨b6,[(iV p_t.Level),s3.v,s4.v,(iV p_t.Sum)],29⟩],[⟨b5,[s1.v],26⟩]]) ?_ ?_
 ·refine q_region (q_x (v:=(.agg #[s1.v])) hF hS (ex_loadA (vs:=[s1.v]) 1 0 Tryz.underlying26 rfl sz26 rfl rfl rfl rfl) rfl rfl fun a hF=>?_)
  obtain ⟨t_7,ht_7,hj1⟩:=bindS hj1
  refine q_call (vs:=[(.agg #[s1.v])]) hF hS Tryz.func70 (by kernel_rfl) rfl rfl rfl (c_spec_gGood p_g t_7 ht_7 _ m hS.vis s1 h1) ?_
  rintro a w _ rfl hF hS
  refine q_x (v:=(.bool (!t_7))) hF hS (ex_not rfl) rfl rfl fun a hF=>q_x (v:=(.bool (!t_7))) hF hS (ex_move rfl) rfl rfl fun a hF=>?_
  rcases bcase (!t_7) with hc2 | hc2
  ·have hj1:=cond_f hc2 hj1
   refine q_xg (v:=s2.v) hF hS (ex_move rfl) (wanted_t hF rfl rfl rfl hc2) rfl fun a hF=>?_
   obtain ⟨t_8,ht_8,hj1⟩:=bindS hj1
   refine q_callg (vs:=[s2.v]) hF hS (wanted_t hF rfl rfl rfl hc2) Tryz.func71 (by kernel_rfl) rfl rfl rfl (c_spec_sGood p_s t_8 ht_8 _ m hS.vis s2 h2) ?_
   rintro a w _ rfl hF hS
   refine q_xg (v:=(.bool (!t_8))) hF hS (ex_not rfl) (wanted_t hF rfl rfl rfl hc2) rfl fun a hF=>q_x (v:=(.bool (!t_8))) hF hS (ex_pick_f rfl rfl hc2) rfl rfl fun a hF=>q_x (v:=(.bool (!t_8))) hF hS (ex_move rfl) rfl rfl fun a hF=>?_
   rcases bcase (!t_8) with hc3 | hc3
   ·have hj1:=cond_f hc3 hj1
    refine q_xg (v:=(.agg #[s1.v])) hF hS (ex_loadA (vs:=[s1.v]) 1 0 Tryz.underlying26 rfl sz26 rfl rfl rfl rfl) (wanted_t hF rfl rfl rfl hc3) rfl fun a hF=>q_xg (v:=(.pointer (some ⟨b6,0,none⟩))) hF hS (ex_fieldAddr Tryz.underlying29 rfl sz3 rfl rfl) (wanted_t hF rfl rfl rfl hc3) rfl fun a hF=>q_xg (v:=(iV p_t.Level)) hF hS (ex_load1 0 0 Tryz.underlying3 rfl rfl rfl rfl) (wanted_t hF rfl rfl rfl hc3) rfl fun a hF=>?_
    obtain ⟨t_9,ht_9,hj1⟩:=bindS hj1
    refine q_callg (vs:=[(.agg #[s1.v]),(iV p_t.Level)]) hF hS (wanted_t hF rfl rfl rfl hc3) Tryz.func72 (by kernel_rfl) rfl rfl rfl (c_spec_gLevel p_g p_t.Level t_9 ht_9 _ m hS.vis s1 h1) ?_
    rintro a w _ ⟨q11,s11,rfl,hR10,h11⟩ hF hS2
    have hS : St _ _ _ _ [q11,[⟨b6,[(iV p_t.Level),s3.v,s4.v,(iV p_t.Sum)],29⟩],[⟨b5,[s1.v],26⟩]]:=hS.joinF hR10
    refine q_xg (v:=(iV (goLen t_9))) hF hS (ex_len Tryz.underlying24 rfl h11.len) (wanted_t hF rfl rfl rfl hc3) rfl fun a hF=>q_xg (v:=(.bool ((goLen t_9) == 0))) hF hS (ex_ibin rfl rfl rfl) (wanted_t hF rfl rfl rfl hc3) rfl fun a hF=>q_x (v:=(.bool ((goLen t_9) == 0))) hF hS (ex_pick_f rfl rfl hc3) rfl rfl fun a hF=>q_x (v:=(.bool ((goLen t_9) == 0))) hF hS (ex_move rfl) rfl rfl fun a hF=>?_
    rcases bcase ((goLen t_9) == 0) with hc4 | hc4
    ·have hj1:=cond_f hc4 hj1
     refine q_xg (v:=(.pointer (some ⟨b6,1,none⟩))) hF hS (ex_fieldAddr Tryz.underlying29 rfl sz24 rfl rfl) (wanted_t hF rfl rfl rfl hc4) rfl fun a hF=>q_xg (v:=s3.v) hF hS (ex_load1 1 0 Tryz.underlying24 rfl rfl rfl rfl) (wanted_t hF rfl rfl rfl hc4) rfl fun a hF=>q_xg (v:=s2.v) hF hS (ex_move rfl) (wanted_t hF rfl rfl rfl hc4) rfl fun a hF=>q_xg (v:=(iV (goLen p_s))) hF hS (ex_len Tryz.underlying27 rfl h2.len) (wanted_t hF rfl rfl rfl hc4) rfl fun a hF=>q_xg (v:=(iV (w64 ((goLen p_s) - 1)))) hF hS (ex_ibin rfl rfl rfl) (wanted_t hF rfl rfl rfl hc4) rfl fun a hF=>?_
     obtain ⟨t_12,ht_12,hj1⟩:=bindS hj1
     refine q_callg (vs:=[s3.v,(iV 0),(iV (w64 ((goLen p_s) - 1)))]) hF hS (wanted_t hF rfl rfl rfl hc4) Tryz.func73 (by kernel_rfl) rfl rfl rfl (c_spec_l1Rising p_t.Vars 0 (w64 ((goLen p_s) - 1)) t_12 ht_12 _ m hS.vis s3 h3) ?_
     rintro a w _ rfl hF hS
     refine q_xg (v:=(.bool (!t_12))) hF hS (ex_not rfl) (wanted_t hF rfl rfl rfl hc4) rfl fun a hF=>q_x (v:=(.bool (!t_12))) hF hS (ex_pick_f rfl rfl hc4) rfl rfl fun a hF=>q_x (v:=(.bool (!t_12))) hF hS (ex_move rfl) rfl rfl fun a hF=>?_
     rcases bcase (!t_12) with hc5 | hc5
     ·have hj1:=cond_f hc5 hj1
      refine q_xg (v:=s2.v) hF hS (ex_move rfl) (wanted_t hF rfl rfl rfl hc5) rfl fun a hF=>q_xg (v:=(.pointer (some ⟨b6,2,none⟩))) hF hS (ex_fieldAddr Tryz.underlying29 rfl sz24 rfl rfl) (wanted_t hF rfl rfl rfl hc5) rfl fun a hF=>q_xg (v:=s4.v) hF hS (ex_load1 1 0 Tryz.underlying24 rfl rfl rfl rfl) (wanted_t hF rfl rfl rfl hc5) rfl fun a hF=>?_
      obtain ⟨t_13,ht_13,hj1⟩:=bindS hj1
      refine q_callg (vs:=[s2.v,s4.v]) hF hS (wanted_t hF rfl rfl rfl hc5) Tryz.func74 (by kernel_rfl) rfl rfl rfl (c_spec_uWhere p_s p_t.Where t_13 ht_13 _ m hS.vis s2 h2 s4 h4) ?_
      rintro a w _ rfl hF hS
      refine q_xg (v:=(.bool (!t_13))) hF hS (ex_not rfl) (wanted_t hF rfl rfl rfl hc5) rfl fun a hF=>q_x (v:=(.bool (!t_13))) hF hS (ex_pick_f rfl rfl hc5) rfl rfl fun a hF=>q_x (v:=(.bool (!t_13))) hF hS (ex_move rfl) rfl rfl fun a hF=>?_
      rcases bcase (!t_13) with hc6 | hc6
      ·have hj1:=cond_f hc6 hj1
       refine q_xg (v:=(.pointer (some ⟨b6,3,none⟩))) hF hS (ex_fieldAddr Tryz.underlying29 rfl sz3 rfl rfl) (wanted_t hF rfl rfl rfl hc6) rfl fun a hF=>q_xg (v:=(iV p_t.Sum)) hF hS (ex_load1 1 0 Tryz.underlying3 rfl rfl rfl rfl) (wanted_t hF rfl rfl rfl hc6) rfl fun a hF=>q_xg (v:=s2.v) hF hS (ex_move rfl) (wanted_t hF rfl rfl rfl hc6) rfl fun a hF=>q_xg (v:=(iV (goLen p_s))) hF hS (ex_len Tryz.underlying27 rfl h2.len) (wanted_t hF rfl rfl rfl hc6) rfl fun a hF=>q_xg (v:=(iV (w64 ((goLen p_s) - 1)))) hF hS (ex_ibin rfl rfl rfl) (wanted_t hF rfl rfl rfl hc6) rfl fun a hF=>?_
       obtain ⟨t_14,ht_14,hj1⟩:=bindS hj1
       refine q_callg (vs:=[(iV p_t.Sum),(iV (-1)),(iV (w64 ((goLen p_s) - 1)))]) hF hS (wanted_t hF rfl rfl rfl hc6) Tryz.func75 (by kernel_rfl) rfl rfl rfl (c_spec_l1In p_t.Sum (-1) (w64 ((goLen p_s) - 1)) t_14 ht_14 _ m hS.vis) ?_
       rintro a w _ rfl hF hS
       refine q_xg (v:=(.bool (!t_14))) hF hS (ex_not rfl) (wanted_t hF rfl rfl rfl hc6) rfl fun a hF=>q_x (v:=(.bool (!t_14))) hF hS (ex_pick_f rfl rfl hc6) rfl rfl fun a hF=>q_end (n_jn ?_)
       obtain rfl:=someI hj1
       exact ⟨hF.sub ⟨rfl,rfl,rfl,rfl,trivial⟩,hS.mask [false,true,true]⟩
      ·have hj1:=cond_t hc6 hj1
       refine q_skip hF (wanted_f hF rfl rfl rfl hc6 rfl) rfl fun a hF=>q_skip hF (wanted_f hF rfl rfl rfl hc6 rfl) rfl fun a hF=>q_skip hF (wanted_f hF rfl rfl rfl hc6 rfl) rfl fun a hF=>q_skip hF (wanted_f hF rfl rfl rfl hc6 rfl) rfl fun a hF=>q_skip hF (wanted_f hF rfl rfl rfl hc6 rfl) rfl fun a hF=>q_skip hF (wanted_f hF rfl rfl rfl hc6 rfl) rfl fun a hF=>q_skip hF (wanted_f hF rfl rfl rfl hc6 rfl) rfl fun a hF=>q_x (v:=(.bool true)) hF hS (ex_pick_t rfl rfl hc6) rfl rfl fun a hF=>q_end (n_jn ?_)
       obtain rfl:=someI hj1
       exact ⟨hF.sub ⟨rfl,rfl,rfl,rfl,trivial⟩,hS.mask [false,true,true]⟩
     ·have hj1:=cond_t hc5 hj1
      refine q_skip hF (wanted_f hF rfl rfl rfl hc5 rfl) rfl fun a hF=>q_skip hF (wanted_f hF rfl rfl rfl hc5 rfl) rfl fun a hF=>q_skip hF (wanted_f hF rfl rfl rfl hc5 rfl) rfl fun a hF=>q_skip hF (wanted_f hF rfl rfl rfl hc5 rfl) rfl fun a hF=>q_skip hF (wanted_f hF rfl rfl rfl hc5 rfl) rfl fun a hF=>q_x (v:=(.bool true)) hF hS (ex_pick_t rfl rfl hc5) rfl rfl fun a hF=>q_x (v:=(.bool true)) hF hS (ex_move rfl) rfl rfl fun a hF=>q_skip hF (wanted_f hF rfl rfl rfl rfl rfl) rfl fun a hF=>q_skip hF (wanted_f hF rfl rfl rfl rfl rfl) rfl fun a hF=>q_skip hF (wanted_f hF rfl rfl rfl rfl rfl) rfl fun a hF=>q_skip hF (wanted_f hF rfl rfl rfl rfl rfl) rfl fun a hF=>q_skip hF (wanted_f hF rfl rfl rfl rfl rfl) rfl fun a hF=>q_skip hF (wanted_f hF rfl rfl rfl rfl rfl) rfl fun a hF=>q_skip hF (wanted_f hF rfl rfl rfl rfl rfl) rfl fun a hF=>q_x (v:=(.bool true)) hF hS (ex_pick_t rfl rfl rfl) rfl rfl fun a hF=>q_end (n_jn ?_)
      obtain rfl:=someI hj1
      exact ⟨hF.sub ⟨rfl,rfl,rfl,rfl,trivial⟩,hS.mask [false,true,true]⟩
    ·have hj1:=cond_t hc4 hj1
     refine q_skip hF (wanted_f hF rfl rfl rfl hc4 rfl) rfl fun a hF=>q_skip hF (wanted_f hF rfl rfl rfl hc4 rfl) rfl fun a hF=>q_skip hF (wanted_f hF rfl rfl rfl hc4 rfl) rfl fun a hF=>q_skip hF (wanted_f hF rfl rfl rfl hc4 rfl) rfl fun a hF=>q_skip hF (wanted_f hF rfl rfl rfl hc4 rfl) rfl fun a hF=>q_skip hF (wanted_f hF rfl rfl rfl hc4 rfl) rfl fun a hF=>q_skip hF (wanted_f hF rfl rfl rfl hc4 rfl) rfl fun a hF=>q_x (v:=(.bool true)) hF hS (ex_pick_t rfl rfl hc4) rfl rfl fun a hF=>q_x (v:=(.bool true)) hF hS (ex_move rfl) rfl rfl fun a hF=>q_skip hF (wanted_f hF rfl rfl rfl rfl rfl) rfl fun a hF=>q_skip hF (wanted_f hF rfl rfl rfl rfl rfl) rfl fun a hF=>q_skip hF (wanted_f hF rfl rfl rfl rfl rfl) rfl fun a hF=>q_skip hF (wanted_f hF rfl rfl rfl rfl rfl) rfl fun a hF=>q_skip hF (wanted_f hF rfl rfl rfl rfl rfl) rfl fun a hF=>q_x (v:=(.bool true)) hF hS (ex_pick_t rfl rfl rfl) rfl rfl fun a hF=>q_x (v:=(.bool true)) hF hS (ex_move rfl) rfl rfl fun a hF=>q_skip hF (wanted_f hF rfl rfl rfl rfl rfl) rfl fun a hF=>q_skip hF (wanted_f hF rfl rfl rfl rfl rfl) rfl fun a hF=>q_skip hF (wanted_f hF rfl rfl rfl rfl rfl) rfl fun a hF=>q_skip hF (wanted_f hF rfl rfl rfl rfl rfl) rfl fun a hF=>q_skip hF (wanted_f hF rfl rfl rfl rfl rfl) rfl fun a hF=>q_skip hF (wanted_f hF rfl rfl rfl rfl rfl) rfl fun a hF=>q_skip hF (wanted_f hF rfl rfl rfl rfl rfl) rfl fun a hF=>q_x (v:=(.bool true)) hF hS (ex_pick_t rfl rfl rfl) rfl rfl fun a hF=>q_end (n_jn ?_)
     obtain rfl:=someI hj1
     exact ⟨hF.sub ⟨rfl,rfl,rfl,rfl,trivial⟩,hS.mask [false,true,true]⟩
   ·have hj1:=cond_t hc3 hj1
    refine q_skip hF (wanted_f hF rfl rfl rfl hc3 rfl) rfl fun a hF=>q_skip hF (wanted_f hF rfl rfl rfl hc3 rfl) rfl fun a hF=>q_skip hF (wanted_f hF rfl rfl rfl hc3 rfl) rfl fun a hF=>q_skip hF (wanted_f hF rfl rfl rfl hc3 rfl) rfl fun a hF=>q_skip hF (wanted_f hF rfl rfl rfl hc3 rfl) rfl fun a hF=>q_skip hF (wanted_f hF rfl rfl rfl hc3 rfl) rfl fun a hF=>q_x (v:=(.bool true)) hF hS (ex_pick_t rfl rfl hc3) rfl rfl fun a hF=>q_x (v:=(.bool true)) hF hS (ex_move rfl) rfl rfl fun a hF=>q_skip hF (wanted_f hF rfl rfl rfl rfl rfl) rfl fun a hF=>q_skip hF (wanted_f hF rfl rfl rfl rfl rfl) rfl fun a hF=>q_skip hF (wanted_f hF rfl rfl rfl rfl rfl) rfl fun a hF=>q_skip hF (wanted_f hF rfl rfl rfl rfl rfl) rfl fun a hF=>q_skip hF (wanted_f hF rfl rfl rfl rfl rfl) rfl fun a hF=>q_skip hF (wanted_f hF rfl rfl rfl rfl rfl) rfl fun a hF=>q_skip hF (wanted_f hF rfl rfl rfl rfl rfl) rfl fun a hF=>q_x (v:=(.bool true)) hF hS (ex_pick_t rfl rfl rfl) rfl rfl fun a hF=>q_x (v:=(.bool true)) hF hS (ex_move rfl) rfl rfl fun a hF=>q_skip hF (wanted_f hF rfl rfl rfl rfl rfl) rfl fun a hF=>q_skip hF (wanted_f hF rfl rfl rfl rfl rfl) rfl fun a hF=>q_skip hF (wanted_f hF rfl rfl rfl rfl rfl) rfl fun a hF=>q_skip hF (wanted_f hF rfl rfl rfl rfl rfl) rfl fun a hF=>q_skip hF (wanted_f hF rfl rfl rfl rfl rfl) rfl fun a hF=>q_x (v:=(.bool true)) hF hS (ex_pick_t rfl rfl rfl) rfl rfl fun a hF=>q_x (v:=(.bool true)) hF hS (ex_move rfl) rfl rfl fun a hF=>q_skip hF (wanted_f hF rfl rfl rfl rfl rfl) rfl fun a hF=>?_
    refine q_skip hF (wanted_f hF rfl rfl rfl rfl rfl) rfl fun a hF=>q_skip hF (wanted_f hF rfl rfl rfl rfl rfl) rfl fun a hF=>q_skip hF (wanted_f hF rfl rfl rfl rfl rfl) rfl fun a hF=>q_skip hF (wanted_f hF rfl rfl rfl rfl rfl) rfl fun a hF=>q_skip hF (wanted_f hF rfl rfl rfl rfl rfl) rfl fun a hF=>q_skip hF (wanted_f hF rfl rfl rfl rfl rfl) rfl fun a hF=>q_x (v:=(.bool true)) hF hS (ex_pick_t rfl rfl rfl) rfl rfl fun a hF=>q_end (n_jn ?_)
    obtain rfl:=someI hj1
    exact ⟨hF.sub ⟨rfl,rfl,rfl,rfl,trivial⟩,hS⟩
  ·have hj1:=cond_t hc2 hj1
   refine q_skip hF (wanted_f hF rfl rfl rfl hc2 rfl) rfl fun a hF=>q_skip hF (wanted_f hF rfl rfl rfl hc2 rfl) rfl fun a hF=>q_skip hF (wanted_f hF rfl rfl rfl hc2 rfl) rfl fun a hF=>q_x (v:=(.bool true)) hF hS (ex_pick_t rfl rfl hc2) rfl rfl fun a hF=>q_x (v:=(.bool true)) hF hS (ex_move rfl) rfl rfl fun a hF=>q_skip hF (wanted_f hF rfl rfl rfl rfl rfl) rfl fun a hF=>q_skip hF (wanted_f hF rfl rfl rfl rfl rfl) rfl fun a hF=>q_skip hF (wanted_f hF rfl rfl rfl rfl rfl) rfl fun a hF=>q_skip hF (wanted_f hF rfl rfl rfl rfl rfl) rfl fun a hF=>q_skip hF (wanted_f hF rfl rfl rfl rfl rfl) rfl fun a hF=>q_skip hF (wanted_f hF rfl rfl rfl rfl rfl) rfl fun a hF=>q_x (v:=(.bool true)) hF hS (ex_pick_t rfl rfl rfl) rfl rfl fun a hF=>q_x (v:=(.bool true)) hF hS (ex_move rfl) rfl rfl fun a hF=>q_skip hF (wanted_f hF rfl rfl rfl rfl rfl) rfl fun a hF=>q_skip hF (wanted_f hF rfl rfl rfl rfl rfl) rfl fun a hF=>q_skip hF (wanted_f hF rfl rfl rfl rfl rfl) rfl fun a hF=>q_skip hF (wanted_f hF rfl rfl rfl rfl rfl) rfl fun a hF=>q_skip hF (wanted_f hF rfl rfl rfl rfl rfl) rfl fun a hF=>q_skip hF (wanted_f hF rfl rfl rfl rfl rfl) rfl fun a hF=>q_skip hF (wanted_f hF rfl rfl rfl rfl rfl) rfl fun a hF=>q_x (v:=(.bool true)) hF hS (ex_pick_t rfl rfl rfl) rfl rfl fun a hF=>q_x (v:=(.bool true)) hF hS (ex_move rfl) rfl rfl fun a hF=>q_skip hF (wanted_f hF rfl rfl rfl rfl rfl) rfl fun a hF=>q_skip hF (wanted_f hF rfl rfl rfl rfl rfl) rfl fun a hF=>q_skip hF (wanted_f hF rfl rfl rfl rfl rfl) rfl fun a hF=>?_
   refine q_skip hF (wanted_f hF rfl rfl rfl rfl rfl) rfl fun a hF=>q_skip hF (wanted_f hF rfl rfl rfl rfl rfl) rfl fun a hF=>q_x (v:=(.bool true)) hF hS (ex_pick_t rfl rfl rfl) rfl rfl fun a hF=>q_x (v:=(.bool true)) hF hS (ex_move rfl) rfl rfl fun a hF=>q_skip hF (wanted_f hF rfl rfl rfl rfl rfl) rfl fun a hF=>q_skip hF (wanted_f hF rfl rfl rfl rfl rfl) rfl fun a hF=>q_skip hF (wanted_f hF rfl rfl rfl rfl rfl) rfl fun a hF=>q_skip hF (wanted_f hF rfl rfl rfl rfl rfl) rfl fun a hF=>q_skip hF (wanted_f hF rfl rfl rfl rfl rfl) rfl fun a hF=>q_skip hF (wanted_f hF rfl rfl rfl rfl rfl) rfl fun a hF=>q_skip hF (wanted_f hF rfl rfl rfl rfl rfl) rfl fun a hF=>q_x (v:=(.bool true)) hF hS (ex_pick_t rfl rfl rfl) rfl rfl fun a hF=>q_end (n_jn ?_)
   obtain rfl:=someI hj1
   exact ⟨hF.sub ⟨rfl,rfl,rfl,rfl,trivial⟩,hS⟩
 ·rintro a w ⟨hF,hS⟩
  refine n_sq ?_
  rcases bcase (t_15) with hc7 | hc7
  ·have hr:=cond_f hc7 hr
   refine q_cond_f hF rfl hc7 (q_skipc (n_sq (q_seq (q_region (q_x (v:=(.agg #[s1.v])) hF hS (ex_loadA (vs:=[s1.v]) 1 0 Tryz.underlying26 rfl sz26 rfl rfl rfl rfl) rfl rfl fun a hF=>q_x (v:=s2.v) hF hS (ex_move rfl) rfl rfl fun a hF=>q_x (v:=(.agg #[(iV p_t.Level),s3.v,s4.v,(iV p_t.Sum)])) hF hS (ex_loadA (vs:=[(iV p_t.Level),s3.v,s4.v,(iV p_t.Sum)]) 0 0 Tryz.underlying29 rfl sz29 rfl rfl rfl rfl) rfl rfl fun a hF=>?_)))))
   obtain ⟨t_16,ht_16,hr⟩:=bindS hr
   refine q_call (vs:=[(.agg #[s1.v]),s2.v,(.agg #[(iV p_t.Level),s3.v,s4.v,(iV p_t.Sum)])]) hF hS Tryz.func76 (by kernel_rfl) rfl rfl rfl (c_spec_uCount p_g p_s p_t t_16 ht_16 _ m hS.vis s1 h1 s2 h2 s3 h3 s4 h4) ?_
   rintro a w _ rfl hF hS
   refine q_x (v:=(.bool (decide (t_16 ≤ 600)))) hF hS (ex_ibin rfl rfl rfl) rfl rfl fun a hF=>q_x (v:=(.bool (decide (t_16 ≤ 600)))) hF hS (ex_assign rfl) rfl rfl fun a hF=>q_end (n_sq (q_ret ?_))
   obtain rfl:=someI hr
   exact ret_of hF hS rfl (.tmp rfl .nil) rfl
  ·have hr:=cond_t hc7 hr
   refine q_cond_t hF rfl hc7 (q_seq (q_region (q_x (v:=(.bool false)) hF hS (ex_assign rfl) rfl rfl fun a hF=>q_end (n_sq (q_ret (r_sq ?_))))))
   obtain rfl:=someI hr
   exact ret_of hF hS rfl (.tmp rfl .nil) rfl

theorem cB_spec_l1Num (rcf : Int → Option ((List UInt8))) (ih : ∀ (p_n : Int) (r : (List UInt8)) (hr : rcf p_n = some r) (w0 : World) (m : Mem) (hv : Vis m w0),
  Ret Tryz.prog 77 [(iV p_n)] w0 (fun v _=>v = (strV r))) :
  ∀ (p_n : Int) (r : (List UInt8)) (hr : spec_l1Num_B rcf p_n = some r) (w0 : World) (m : Mem) (hv : Vis m w0),
  Ret Tryz.prog 77 [(iV p_n)] w0 (fun v _=>v = (strV r)):=by
 intro p_n r hr w0 m hv
 unfold spec_l1Num_B at hr
 refine ret_start Tryz.func77 rfl 20 rfl rfl m hv fun a hF hS=>q_seq (q_region (q_x (v:=(strV ([] : List UInt8))) hF hS (ex_assign rfl) rfl rfl fun a hF=>q_end (n_sq (q_seq (q_seq (q_region (q_x (v:=(iV p_n)) hF hS (ex_move rfl) rfl rfl fun a hF=>q_x (v:=(.bool (decide (p_n < 10)))) hF hS (ex_ibin rfl rfl rfl) rfl rfl fun a hF=>q_end (n_sq ?_))))))))
 rcases bcase (decide (p_n < 10)) with hc1 | hc1
 ·have hr:=cond_f hc1 hr
  refine q_cond_f hF rfl hc1 (q_skipc (n_sq (q_seq ?_)))
  obtain ⟨t_12,hj2,hr⟩:=bindS hr
  refine q_join (fun a w=>Fr a 20 [(2,(strV t_12))]∧St [] w0 w m []) ?_ ?_
  ·refine e_region ⟨[],[]⟩ mixed fun w' hw'=>?_
   have hS:=hS.below hw'
   refine e_p (v:=(iV p_n)) 0 hF rfl (ex_move rfl) rfl rfl (by kernel_rfl) (by kernel_rfl) (by kernel_rfl) fun a hF=>?_
   obtain ⟨t_1,ht_1,hj2⟩:=bindS hj2
   refine e_p (v:=(iV t_1)) 1 hF rfl (ex_quo rfl rfl ht_1) rfl rfl (by kernel_rfl) (by kernel_rfl) (by kernel_rfl) fun a hF=>e_p (v:=(iV p_n)) 3 hF rfl (ex_move rfl) rfl rfl (by kernel_rfl) (by kernel_rfl) (by kernel_rfl) fun a hF=>?_
   obtain ⟨t_4,ht_4,hj2⟩:=bindS hj2
   refine e_p (v:=(iV t_4)) 4 hF rfl (ex_rem rfl rfl ht_4) rfl rfl (by kernel_rfl) (by kernel_rfl) (by kernel_rfl) fun a hF=>e_p (v:=(iV (w64 (48 + t_4)))) 5 hF rfl (ex_ibin rfl rfl rfl) rfl rfl (by kernel_rfl) (by kernel_rfl) (by kernel_rfl) fun a hF=>e_p (v:=(.int .u8 (IntKind.wrap .u8 (w64 (48 + t_4))))) 6 hF rfl (ex_conv Tryz.underlying3 Tryz.underlying5 rfl) rfl rfl (by kernel_rfl) (by kernel_rfl) (by kernel_rfl) fun a hF=>?_
   obtain ⟨t_9,ht_9,hj2⟩:=bindS hj2
   obtain ⟨t_11,ht_11,hj2⟩:=bindS hj2
   refine e_all [2,7] (by kernel_rfl) rfl ⟨?_,?_,trivial⟩
   ·refine e_call (vs:=[(iV t_1)]) hF hS rfl Tryz.func77 (by kernel_rfl) rfl rfl rfl (ih t_1 t_9 ht_9 _ m hS.vis) ?_
    rintro a w _ rfl hF hS
    refine e_one 7 (by kernel_rfl) (e_op rfl rfl fun _ hK=>wp_buildSlice' (l:=([(⟨(IntKind.wrap .u8 (w64 (48 + t_4)))⟩ : K .u8)] : List (K .u8))) (cells:=[(.int .u8 (IntKind.wrap .u8 (w64 (48 + t_4))))]) hF hS Tryz.underlying22 inf5 rfl rfl (by kernel_rfl) rfl rfl rfl ⟨rfl,rfl⟩ rfl rfl fun a w q10 s10 hF hS h10 hb=>hK _ _ hb (e_x (v:=(strV (goBytes ([(⟨(IntKind.wrap .u8 (w64 (48 + t_4)))⟩ : K .u8)] : List (K .u8))))) 8 hF hS rfl (ex_toStr Tryz.underlying22 Tryz.underlying5 Tryz.underlying9 rfl (fun X w0 w hS=>h10.vw hS (j:=0) rfl)) rfl rfl (by kernel_rfl) (by kernel_rfl) (by kernel_rfl) (by kernel_rfl) fun a hF=>e_p (v:=(strV t_11)) 9 hF rfl (ex_strCat rfl rfl ht_11) rfl rfl (by kernel_rfl) (by kernel_rfl) (by kernel_rfl) fun a hF=>e_p (v:=(strV t_11)) 10 hF rfl (ex_assign rfl) rfl rfl (by kernel_rfl) (by kernel_rfl) (by kernel_rfl) fun a hF=>e_end (by kernel_rfl) (n_jn ?_) _))
    obtain rfl:=someI hj2
    exact ⟨hF.sub ⟨rfl,trivial⟩,hS.mask [false]⟩
   ·refine e_op rfl rfl fun _ hK=>wp_buildSlice' (l:=([(⟨(IntKind.wrap .u8 (w64 (48 + t_4)))⟩ : K .u8)] : List (K .u8))) (cells:=[(.int .u8 (IntKind.wrap .u8 (w64 (48 + t_4))))]) hF hS Tryz.underlying22 inf5 rfl rfl (by kernel_rfl) rfl rfl rfl ⟨rfl,rfl⟩ rfl rfl fun a w q10 s10 hF hS h10 hb=>hK _ _ hb (e_x (v:=(strV (goBytes ([(⟨(IntKind.wrap .u8 (w64 (48 + t_4)))⟩ : K .u8)] : List (K .u8))))) 8 hF hS rfl (ex_toStr Tryz.underlying22 Tryz.underlying5 Tryz.underlying9 rfl (fun X w0 w hS=>h10.vw hS (j:=0) rfl)) rfl rfl (by kernel_rfl) (by kernel_rfl) (by kernel_rfl) (by kernel_rfl) fun a hF=>e_one 2 (by kernel_rfl) (e_call (vs:=[(iV t_1)]) hF hS rfl Tryz.func77 (by kernel_rfl) rfl rfl rfl (ih t_1 t_9 ht_9 _ m hS.vis) ?_))
    rintro a w _ rfl hF hS
    refine e_p (v:=(strV t_11)) 9 hF rfl (ex_strCat rfl rfl ht_11) rfl rfl (by kernel_rfl) (by kernel_rfl) (by kernel_rfl) fun a hF=>e_p (v:=(strV t_11)) 10 hF rfl (ex_assign rfl) rfl rfl (by kernel_rfl) (by kernel_rfl) (by kernel_rfl) fun a hF=>e_end (by kernel_rfl) (n_jn ?_) _
    obtain rfl:=someI hj2
    exact ⟨hF.sub ⟨rfl,trivial⟩,hS.mask [false]⟩
  ·rintro a w ⟨hF,hS⟩
   refine n_sq (q_ret ?_)
   obtain rfl:=someI hr
   exact ret_of hF hS rfl (.tmp rfl .nil) rfl
 ·have hr:=cond_t hc1 hr
  refine q_cond_t hF rfl hc1 (q_seq (q_region (q_x (v:=(iV p_n)) hF hS (ex_move rfl) rfl rfl fun a hF=>q_x (v:=(iV (w64 (48 + p_n)))) hF hS (ex_ibin rfl rfl rfl) rfl rfl fun a hF=>q_x (v:=(.int .u8 (IntKind.wrap .u8 (w64 (48 + p_n))))) hF hS (ex_conv Tryz.underlying3 Tryz.underlying5 rfl) rfl rfl fun a hF=>q_do rfl fun _ hK=>wp_buildSlice' (l:=([(⟨(IntKind.wrap .u8 (w64 (48 + p_n)))⟩ : K .u8)] : List (K .u8))) (cells:=[(.int .u8 (IntKind.wrap .u8 (w64 (48 + p_n))))]) hF hS Tryz.underlying22 inf5 rfl rfl (by kernel_rfl) rfl rfl rfl ⟨rfl,rfl⟩ rfl rfl fun a w q13 s13 hF hS h13 _=>hK _ _ (q_x (v:=(strV (goBytes ([(⟨(IntKind.wrap .u8 (w64 (48 + p_n)))⟩ : K .u8)] : List (K .u8))))) hF hS (ex_toStr Tryz.underlying22 Tryz.underlying5 Tryz.underlying9 rfl (fun X w0 w hS=>h13.vw hS (j:=0) rfl)) rfl rfl fun a hF=>q_x (v:=(strV (goBytes ([(⟨(IntKind.wrap .u8 (w64 (48 + p_n)))⟩ : K .u8)] : List (K .u8))))) hF hS (ex_assign rfl) rfl rfl fun a hF=>q_end (n_sq (q_ret (r_sq ?_)))))))
  obtain rfl:=someI hr
  exact ret_of hF hS rfl (.tmp rfl .nil) rfl

theorem ck_spec_l1Num : ∀ (k : Nat),∀ (p_n : Int) (r : (List UInt8)) (hr : spec_l1Num_k k p_n = some r) (w0 : World) (m : Mem) (hv : Vis m w0),
  Ret Tryz.prog 77 [(iV p_n)] w0 (fun v _=>v = (strV r))
 | 0=>fun _ _ hr=>by cases hr
 | k + 1=>cB_spec_l1Num _ (ck_spec_l1Num k)

theorem c_spec_l1Num : ∀ (p_n : Int) (r : (List UInt8)) (hr : spec_l1Num p_n = some r) (w0 : World) (m : Mem) (hv : Vis m w0),
  Ret Tryz.prog 77 [(iV p_n)] w0 (fun v _=>v = (strV r)):=by
 intro p_n r hr
 obtain ⟨k,hk⟩:=recO_run hr
 exact ck_spec_l1Num k p_n r hk

theorem c_spec_nNames (p_s : List impl_Variable) (p_vars : List Int) (r : (List UInt8)) (hr : spec_nNames p_s p_vars = some r) (w0 : World) (m : Mem) (hv : Vis m w0) (s1 : Sl) (h1 : Rd m s1 p_s) (s2 : Sl) (h2 : Rd m s2 p_vars) :
  Ret Tryz.prog 78 [s1.v,s2.v] w0 (fun v _=>v = (strV r)):=by
 unfold spec_nNames at hr
 refine ret_start Tryz.func78 rfl 28 rfl rfl m hv fun a hF hS=>q_seq (q_region (q_x (v:=(strV ([] : List UInt8))) hF hS (ex_assign rfl) rfl rfl fun a hF=>q_end (n_sq (q_seq (q_region (q_x (v:=(strV ([] : List UInt8))) hF hS (ex_assign rfl) rfl rfl fun a hF=>q_end (n_sq (q_seq (q_seq (q_region (q_x (v:=s2.v) hF hS (ex_move rfl) rfl rfl fun a hF=>q_x (v:=(iV (goLen p_vars))) hF hS (ex_len Tryz.underlying24 rfl h2.len) rfl rfl fun a hF=>q_x (v:=(iV 0)) hF hS (ex_move rfl) rfl rfl fun a hF=>q_end (n_sq (q_block ?_)))))))))))))
 obtain ⟨out_12,hl1,hr⟩:=bindS hr
 refine q_loop (fun (s : (List UInt8) × Int) a w=>∃ out_3,∃ t_4,s = (out_3,t_4)∧Fr a 28 [(0,s1.v),(5,(strV out_3)),(8,s2.v),(9,(iV (goLen p_vars))),(10,(iV t_4))]∧St [] w0 w m []) (fun (out_12 : (List UInt8)) e a w=>e = .exit 0∧Fr a 28 [(5,(strV out_12))]∧St [] w0 w m []) hl1 ⟨_,_,rfl,hF.sub ⟨rfl,rfl,rfl,rfl,rfl,trivial⟩,hS⟩ ?_ ?_
 ·clear hF hS
  rintro s a w st ⟨out_3,t_4,rfl,hF,hS⟩ hb1
  unfold spec_nNames_l1 at hb1
  refine q_seq (q_region (q_x (v:=(.bool (decide (t_4 < (goLen p_vars))))) hF hS (ex_ibin rfl rfl rfl) rfl rfl fun a hF=>q_end (n_sq (q_seq ?_))))
  rcases bcase (decide (t_4 < (goLen p_vars))) with hc2 | hc2
  ·have hb1:=cond_f hc2 hb1
   refine q_cond_f hF rfl hc2 (q_exit (x_sq ?_))
   obtain rfl:=someI hb1
   exact ⟨nofun,.inl ⟨rfl,hF.sub ⟨rfl,trivial⟩,hS⟩⟩
  ·have hb1:=cond_t hc2 hb1
   refine q_cond_t hF rfl hc2 (q_skipc (n_sq (q_seq (q_block (q_seq (q_region (q_x (v:=(iV t_4)) hF hS (ex_move rfl) rfl rfl fun a hF=>?_)))))))
   obtain ⟨e_5,he_5,hb1⟩:=bindS hb1
   obtain ⟨vs6,at6,d6⟩:=h2.at he_5 1 rfl
   obtain rfl : vs6 = [(iV e_5)]:=d6
   refine q_x (v:=(elP s2 (t_4.toNat * 1))) hF hS (ex_indexAddr Tryz.underlying24 sz3 rfl rfl (h2.idx he_5)) rfl rfl fun a hF=>q_x (v:=(iV e_5)) hF hS (ex_loadE1 0 Tryz.underlying3 rfl rfl ((at6).at) rfl rfl) rfl rfl fun a hF=>q_x (v:=(iV t_4)) hF hS (ex_assign rfl) rfl rfl fun a hF=>q_x (v:=(iV e_5)) hF hS (ex_assign rfl) rfl rfl fun a hF=>q_end (n_sq (q_seq (q_seq (q_region (q_x (v:=(iV t_4)) hF hS (ex_move rfl) rfl rfl fun a hF=>q_x (v:=(.bool (decide (0 < t_4)))) hF hS (ex_ibin rfl rfl rfl) rfl rfl fun a hF=>q_end (n_sq ?_))))))
   obtain ⟨out_8,hj3,hb1⟩:=bindS hb1
   refine q_join (fun a w=>Fr a 28 [(0,s1.v),(5,(strV out_8)),(7,(iV e_5)),(8,s2.v),(9,(iV (goLen p_vars))),(10,(iV t_4))]∧St [] w0 w m []) ?_ ?_
   ·rcases bcase (decide (0 < t_4)) with hc4 | hc4
    ·have hj3:=cond_f hc4 hj3
     refine q_cond_f hF rfl hc4 (q_skipc (n_jn ?_))
     obtain rfl:=someI hj3
     exact ⟨hF.sub ⟨rfl,rfl,rfl,rfl,rfl,rfl,trivial⟩,hS⟩
    ·have hj3:=cond_t hc4 hj3
     refine q_cond_t hF rfl hc4 (q_region (q_x (v:=(strV out_3)) hF hS (ex_move rfl) rfl rfl fun a hF=>?_))
     obtain ⟨t_7,ht_7,hj3⟩:=bindS hj3
     refine q_x (v:=(strV t_7)) hF hS (ex_strCat rfl rfl ht_7) rfl rfl fun a hF=>q_x (v:=(strV t_7)) hF hS (ex_assign rfl) rfl rfl fun a hF=>q_end (n_jn ?_)
     obtain rfl:=someI hj3
     exact ⟨hF.sub ⟨rfl,rfl,rfl,rfl,rfl,rfl,trivial⟩,hS⟩
   ·rintro a w ⟨hF,hS⟩
    refine n_sq ?_
    refine q_region (q_x (v:=(strV out_8)) hF hS (ex_move rfl) rfl rfl fun a hF=>q_x (v:=s1.v) hF hS (ex_move rfl) rfl rfl fun a hF=>q_x (v:=(iV e_5)) hF hS (ex_move rfl) rfl rfl fun a hF=>?_)
    obtain ⟨e_9,he_9,hb1⟩:=bindS hb1
    obtain ⟨vs10,at10,d10⟩:=h1.at he_9 2 rfl
    obtain rfl : vs10 = [(strV e_9.Name),(iV e_9.Levels)]:=d10
    refine q_x (v:=(elP s1 (e_5.toNat * 2))) hF hS (ex_indexAddr Tryz.underlying27 sz95 rfl rfl (h1.idx he_9)) rfl rfl fun a hF=>q_x (v:=(elP s1 (e_5.toNat * 2 + 0))) hF hS (ex_fieldAddrE Tryz.underlying95 rfl sz9 rfl (h1.idx he_9) rfl) rfl rfl fun a hF=>q_x (v:=(strV e_9.Name)) hF hS (ex_loadE1 0 Tryz.underlying9 rfl rfl ((at10).at) rfl rfl) rfl rfl fun a hF=>?_
    obtain ⟨t_11,ht_11,hb1⟩:=bindS hb1
    refine q_x (v:=(strV t_11)) hF hS (ex_strCat rfl rfl ht_11) rfl rfl fun a hF=>q_x (v:=(strV t_11)) hF hS (ex_assign rfl) rfl rfl fun a hF=>q_end (n_ib (n_sq (q_region (q_x (v:=(iV (w64 (t_4 + 1)))) hF hS (ex_ibin rfl rfl rfl) rfl rfl fun a hF=>q_x (v:=(iV (w64 (t_4 + 1)))) hF hS (ex_move rfl) rfl rfl fun a hF=>q_end ?_))))
    obtain rfl:=someI hb1
    exact ⟨rfl,_,_,rfl,hF.sub ⟨rfl,rfl,rfl,rfl,rfl,trivial⟩,hS⟩
 ·rintro e a w ⟨rfl,hF,hS⟩
  refine x_ib (n_sq ?_)
  refine q_seq (q_region (q_x (v:=(strV out_12)) hF hS (ex_move rfl) rfl rfl fun a hF=>q_x (v:=(strV out_12)) hF hS (ex_assign rfl) rfl rfl fun a hF=>q_end (n_sq (q_ret ?_))))
  obtain rfl:=someI hr
  exact ret_of hF hS rfl (.tmp rfl .nil) rfl

theorem c_spec_eLevels (p_set : Int) (r : (List Int)) (hr : spec_eLevels p_set = some r) (w0 : World) (m : Mem) (hv : Vis m w0) :
  Ret Tryz.prog 79 [(iV p_set)] w0 (fun v w=>∃ (q0' : Piece) (s0' : Sl),v = s0'.v∧St [] w0 w m [q0']∧OwnL m 3 q0' s0' r):=by
 unfold spec_eLevels at hr
 refine ret_start Tryz.func79 rfl 23 rfl rfl m hv fun a hF hS=>q_seq (q_region (q_x (v:=nilS.v) hF hS (ex_assign rfl) rfl rfl fun a hF=>q_end (n_sq (q_seq (q_region (q_x (v:=nilS.v) hF hS (ex_assign rfl) rfl rfl fun a hF=>q_end (n_sq (q_seq (q_seq (q_region (q_x (v:=(iV 0)) hF hS (ex_assign rfl) rfl rfl fun a hF=>q_end (n_sq (q_block ?_)))))))))))))
 obtain ⟨out_11,hl1,hr⟩:=bindS hr
 refine q_loop (fun (s : (List Int) × Int) a w=>∃ (q2 : Piece),∃ (s2 : Sl),∃ out_1,∃ x_3,s = (out_1,x_3)∧Fr a 23 [(0,(iV p_set)),(3,s2.v),(4,(iV x_3))]∧St [] w0 w m [q2]∧OwnL m 3 q2 s2 out_1) (fun (out_11 : (List Int)) e a w=>∃ (q12 : Piece),∃ (s12 : Sl),e = .exit 0∧Fr a 23 [(3,s12.v)]∧St [] w0 w m [q12]∧OwnL m 3 q12 s12 out_11) hl1 ⟨[],nilS,_,_,rfl,hF.sub ⟨rfl,rfl,rfl,trivial⟩,hS.sel [0] (by decide),(OwnL.nil (α:=Int) m 3)⟩ ?_ ?_
 ·clear hF hS
  rintro s a w st ⟨q2,s2,out_1,x_3,rfl,hF,hS,h2⟩ hb1
  unfold spec_eLevels_l1 at hb1
  refine q_seq (q_seq (q_region (q_x (v:=(iV p_set)) hF hS (ex_move rfl) rfl rfl fun a hF=>q_x (v:=(iV x_3)) hF hS (ex_move rfl) rfl rfl fun a hF=>q_x (v:=(.int .u64 (IntKind.wrap .u64 x_3))) hF hS (ex_conv Tryz.underlying3 Tryz.underlying137 rfl) rfl rfl fun a hF=>?_)))
  obtain ⟨t_4,ht_4,hb1⟩:=bindS hb1
  refine q_x (v:=(iV t_4)) hF hS (ex_shr rfl rfl ht_4) rfl rfl fun a hF=>q_x (v:=(.bool (decide (0 < t_4)))) hF hS (ex_ibin rfl rfl rfl) rfl rfl fun a hF=>q_end (n_sq ?_)
  rcases bcase (decide (0 < t_4)) with hc2 | hc2
  ·have hb1:=cond_f hc2 hb1
   refine q_cond_f hF rfl hc2 (q_exit (x_sq ?_))
   obtain rfl:=someI hb1
   exact ⟨nofun,.inl ⟨q2,s2,rfl,hF.sub ⟨rfl,trivial⟩,hS,h2⟩⟩
  ·have hb1:=cond_t hc2 hb1
   refine q_cond_t hF rfl hc2 (q_skipc (n_sq (q_seq (q_block (q_seq (q_region (q_x (v:=(iV p_set)) hF hS (ex_move rfl) rfl rfl fun a hF=>q_x (v:=(iV x_3)) hF hS (ex_move rfl) rfl rfl fun a hF=>q_x (v:=(.int .u64 (IntKind.wrap .u64 x_3))) hF hS (ex_conv Tryz.underlying3 Tryz.underlying137 rfl) rfl rfl fun a hF=>?_)))))))
   obtain ⟨t_5,ht_5,hb1⟩:=bindS hb1
   refine q_x (v:=(iV t_5)) hF hS (ex_shr rfl rfl ht_5) rfl rfl fun a hF=>q_x (v:=(iV (goBits .and .i64 t_5 1))) hF hS (ex_bits rfl rfl rfl) rfl rfl fun a hF=>q_x (v:=(.bool ((goBits .and .i64 t_5 1) == 1))) hF hS (ex_ibin rfl rfl rfl) rfl rfl fun a hF=>q_end (n_sq ?_)
   obtain ⟨out_9,hj3,hb1⟩:=bindS hb1
   refine q_join (fun a w=>∃ (q10 : Piece),∃ (s10 : Sl),Fr a 23 [(0,(iV p_set)),(3,s10.v),(4,(iV x_3))]∧St [] w0 w m [q10]∧OwnL m 3 q10 s10 out_9) ?_ ?_
   ·rcases bcase ((goBits .and .i64 t_5 1) == 1) with hc4 | hc4
    ·have hj3:=cond_f hc4 hj3
     refine q_cond_f hF rfl hc4 (q_skipc (n_jn ?_))
     obtain rfl:=someI hj3
     exact ⟨q2,s2,hF.sub ⟨rfl,rfl,rfl,trivial⟩,hS,h2⟩
    ·have hj3:=cond_t hc4 hj3
     refine q_cond_t hF rfl hc4 (q_region (q_x (v:=s2.v) hF hS (ex_move rfl) rfl rfl fun a hF=>q_x (v:=(iV x_3)) hF hS (ex_move rfl) rfl rfl fun a hF=>q_do rfl fun _ hK=>wp_buildSlice' (l:=([x_3] : List Int)) (cells:=[(iV x_3)]) hF hS Tryz.underlying24 inf3 rfl rfl (by kernel_rfl) rfl rfl rfl ⟨rfl,rfl⟩ rfl rfl fun a w q6 s6 hF hS h6 _=>hK _ _ ?_))
     have hS : St _ _ _ _ [q2,q6]:=hS.sel [1,0] (by decide)
     obtain ⟨l_7,hl_7,hj3⟩:=bindS hj3
     refine q_do rfl fun _ hK=>wp_append hF hS h2 Tryz.underlying24 inf3 rfl rfl rfl rfl (h6.vw hS (j:=1) rfl) rfl (by decide) hl_7 rfl fun a w q8 s8 hF hS h8=>hK _ _ (q_x (v:=s8.v) hF hS (ex_assign rfl) rfl rfl fun a hF=>q_end (n_jn ?_))
     obtain rfl:=someI hj3
     exact ⟨q8,s8,hF.sub ⟨rfl,rfl,rfl,trivial⟩,hS.mask [true,false],h8⟩
   ·rintro a w ⟨q10,s10,hF,hS,h10⟩
    refine n_ib (n_sq ?_)
    refine q_region (q_x (v:=(iV x_3)) hF hS (ex_move rfl) rfl rfl fun a hF=>q_x (v:=(iV (w64 (x_3 + 1)))) hF hS (ex_ibin rfl rfl rfl) rfl rfl fun a hF=>q_x (v:=(iV (w64 (x_3 + 1)))) hF hS (ex_assign rfl) rfl rfl fun a hF=>q_end ?_)
    obtain rfl:=someI hb1
    exact ⟨rfl,q10,s10,_,_,rfl,hF.sub ⟨rfl,rfl,rfl,trivial⟩,hS,h10⟩
 ·rintro e a w ⟨q12,s12,rfl,hF,hS,h12⟩
  refine x_ib (n_sq ?_)
  refine q_seq (q_region (q_x (v:=s12.v) hF hS (ex_move rfl) rfl rfl fun a hF=>q_x (v:=s12.v) hF hS (ex_assign rfl) rfl rfl fun a hF=>q_end (n_sq (q_ret ?_))))
  obtain rfl:=someI hr
  exact ret_of hF hS rfl (.tmp rfl .nil) ⟨q12,s12,rfl,hS.sel [0] (by decide),h12⟩

theorem c_spec_nTable (p_s : List impl_Variable) (p_t : impl_Table) (r : (List UInt8)) (hr : spec_nTable p_s p_t = some r) (w0 : World) (m : Mem) (hv : Vis m w0) (s1 : Sl) (h1 : Rd m s1 p_s) (s2 : Sl) (h2 : Rd m s2 p_t.Vars) (s3 : Sl) (h3 : Rd m s3 p_t.Where) :
  Ret Tryz.prog 33 [s1.v,(.agg #[(iV p_t.Level),s2.v,s3.v,(iV p_t.Sum)])] w0 (fun v _=>v = (strV r)):=by
 unfold spec_nTable at hr
 refine ret_start Tryz.func33 rfl 79 rfl rfl m hv fun a hF hS=>q_seq (q_region (q_box (cs:=[(iV p_t.Level),s2.v,s3.v,(iV p_t.Sum)]) hF hS rfl rfl rfl fun a w b4 hF hS=>q_x (v:=(strV ([] : List UInt8))) hF hS (ex_assign rfl) rfl rfl fun a hF=>q_end (n_sq (q_seq (q_region (q_x (v:=(strV ([99,111,117,110,116] : List UInt8))) hF hS (ex_assign rfl) rfl rfl fun a hF=>q_end (n_sq (q_seq (q_seq (q_region (q_x (v:=(.pointer (some ⟨b4,3,none⟩))) hF hS (ex_fieldAddr Tryz.underlying29 rfl sz3 rfl rfl) rfl rfl fun a hF=>q_x (v:=(iV p_t.Sum)) hF hS (ex_load1 0 0 Tryz.underlying3 rfl rfl rfl rfl) rfl rfl fun a hF=>q_x (v:=(.bool (decide (0 ≤ p_t.Sum)))) hF hS (ex_ibin rfl rfl rfl) rfl rfl fun a hF=>q_end (n_sq ?_))))))))))))
 obtain ⟨out_8,hj1,hr⟩:=bindS hr
 refine q_join (fun a w=>Fr a 79 [(0,s1.v),(3,(.pointer (some ⟨b4,0,none⟩))),(5,(strV out_8))]∧St [] w0 w m [[⟨b4,[(iV p_t.Level),s2.v,s3.v,(iV p_t.Sum)],29⟩]]) ?_ ?_
 ·rcases bcase (decide (0 ≤ p_t.Sum)) with hc2 | hc2
  ·have hj1:=cond_f hc2 hj1
   refine q_cond_f hF rfl hc2 (q_skipc (n_jn ?_))
   obtain rfl:=someI hj1
   exact ⟨hF.sub ⟨rfl,rfl,rfl,trivial⟩,hS⟩
  ·have hj1:=cond_t hc2 hj1
   refine q_cond_t hF rfl hc2 (q_region (q_x (v:=s1.v) hF hS (ex_move rfl) rfl rfl fun a hF=>q_x (v:=(.pointer (some ⟨b4,3,none⟩))) hF hS (ex_fieldAddr Tryz.underlying29 rfl sz3 rfl rfl) rfl rfl fun a hF=>q_x (v:=(iV p_t.Sum)) hF hS (ex_load1 0 0 Tryz.underlying3 rfl rfl rfl rfl) rfl rfl fun a hF=>?_))
   obtain ⟨e_5,he_5,hj1⟩:=bindS hj1
   obtain ⟨vs6,at6,d6⟩:=h1.at he_5 2 rfl
   obtain rfl : vs6 = [(strV e_5.Name),(iV e_5.Levels)]:=d6
   refine q_x (v:=(elP s1 (p_t.Sum.toNat * 2))) hF hS (ex_indexAddr Tryz.underlying27 sz95 rfl rfl (h1.idx he_5)) rfl rfl fun a hF=>q_x (v:=(elP s1 (p_t.Sum.toNat * 2 + 0))) hF hS (ex_fieldAddrE Tryz.underlying95 rfl sz9 rfl (h1.idx he_5) rfl) rfl rfl fun a hF=>q_x (v:=(strV e_5.Name)) hF hS (ex_loadE1 0 Tryz.underlying9 rfl rfl ((at6).at) rfl rfl) rfl rfl fun a hF=>?_
   obtain ⟨t_7,ht_7,hj1⟩:=bindS hj1
   refine q_x (v:=(strV t_7)) hF hS (ex_strCat rfl rfl ht_7) rfl rfl fun a hF=>q_x (v:=(strV t_7)) hF hS (ex_assign rfl) rfl rfl fun a hF=>q_end (n_jn ?_)
   obtain rfl:=someI hj1
   exact ⟨hF.sub ⟨rfl,rfl,rfl,trivial⟩,hS⟩
 ·rintro a w ⟨hF,hS⟩
  refine n_sq ?_
  refine q_seq (q_region (q_x (v:=(strV out_8)) hF hS (ex_move rfl) rfl rfl fun a hF=>q_x (v:=(.pointer (some ⟨b4,0,none⟩))) hF hS (ex_fieldAddr Tryz.underlying29 rfl sz3 rfl rfl) rfl rfl fun a hF=>q_x (v:=(iV p_t.Level)) hF hS (ex_load1 0 0 Tryz.underlying3 rfl rfl rfl rfl) rfl rfl fun a hF=>?_))
  obtain ⟨t_9,ht_9,hr⟩:=bindS hr
  refine q_call (vs:=[(iV p_t.Level)]) hF hS Tryz.func77 (by kernel_rfl) rfl rfl rfl (c_spec_l1Num p_t.Level t_9 ht_9 _ m hS.vis) ?_
  rintro a w _ rfl hF hS
  obtain ⟨t_10,ht_10,hr⟩:=bindS hr
  refine q_x (v:=(strV t_10)) hF hS (ex_strCat rfl rfl ht_10) rfl rfl fun a hF=>?_
  obtain ⟨t_11,ht_11,hr⟩:=bindS hr
  refine q_x (v:=(strV t_11)) hF hS (ex_strCat rfl rfl ht_11) rfl rfl fun a hF=>q_x (v:=(strV t_11)) hF hS (ex_assign rfl) rfl rfl fun a hF=>q_end (n_sq (q_seq (q_seq (q_region (q_x (v:=(.pointer (some ⟨b4,1,none⟩))) hF hS (ex_fieldAddr Tryz.underlying29 rfl sz24 rfl rfl) rfl rfl fun a hF=>q_x (v:=s2.v) hF hS (ex_load1 0 0 Tryz.underlying24 rfl rfl rfl rfl) rfl rfl fun a hF=>q_x (v:=(iV (goLen p_t.Vars))) hF hS (ex_len Tryz.underlying24 rfl h2.len) rfl rfl fun a hF=>q_x (v:=(.bool (decide (0 < (goLen p_t.Vars))))) hF hS (ex_ibin rfl rfl rfl) rfl rfl fun a hF=>q_end (n_sq ?_))))))
  obtain ⟨out_15,hj3,hr⟩:=bindS hr
  refine q_join (fun a w=>Fr a 79 [(0,s1.v),(3,(.pointer (some ⟨b4,0,none⟩))),(5,(strV out_15))]∧St [] w0 w m [[⟨b4,[(iV p_t.Level),s2.v,s3.v,(iV p_t.Sum)],29⟩]]) ?_ ?_
  ·rcases bcase (decide (0 < (goLen p_t.Vars))) with hc4 | hc4
   ·have hj3:=cond_f hc4 hj3
    refine q_cond_f hF rfl hc4 (q_skipc (n_jn ?_))
    obtain rfl:=someI hj3
    exact ⟨hF.sub ⟨rfl,rfl,rfl,trivial⟩,hS⟩
   ·have hj3:=cond_t hc4 hj3
    refine q_cond_t hF rfl hc4 (q_region (q_x (v:=(strV t_11)) hF hS (ex_move rfl) rfl rfl fun a hF=>q_x (v:=s1.v) hF hS (ex_move rfl) rfl rfl fun a hF=>q_x (v:=(.pointer (some ⟨b4,1,none⟩))) hF hS (ex_fieldAddr Tryz.underlying29 rfl sz24 rfl rfl) rfl rfl fun a hF=>q_x (v:=s2.v) hF hS (ex_load1 0 0 Tryz.underlying24 rfl rfl rfl rfl) rfl rfl fun a hF=>?_))
    obtain ⟨t_12,ht_12,hj3⟩:=bindS hj3
    refine q_call (vs:=[s1.v,s2.v]) hF hS Tryz.func78 (by kernel_rfl) rfl rfl rfl (c_spec_nNames p_s p_t.Vars t_12 ht_12 _ m hS.vis s1 h1 s2 h2) ?_
    rintro a w _ rfl hF hS
    obtain ⟨t_13,ht_13,hj3⟩:=bindS hj3
    refine q_x (v:=(strV t_13)) hF hS (ex_strCat rfl rfl ht_13) rfl rfl fun a hF=>?_
    obtain ⟨t_14,ht_14,hj3⟩:=bindS hj3
    refine q_x (v:=(strV t_14)) hF hS (ex_strCat rfl rfl ht_14) rfl rfl fun a hF=>q_x (v:=(strV t_14)) hF hS (ex_assign rfl) rfl rfl fun a hF=>q_end (n_jn ?_)
    obtain rfl:=someI hj3
    exact ⟨hF.sub ⟨rfl,rfl,rfl,trivial⟩,hS⟩
  ·rintro a w ⟨hF,hS⟩
   refine n_sq ?_
   refine q_seq (q_region (q_x (v:=(.bool true)) hF hS (ex_assign rfl) rfl rfl fun a hF=>q_end (n_sq (q_seq (q_seq (q_region (q_x (v:=(.pointer (some ⟨b4,2,none⟩))) hF hS (ex_fieldAddr Tryz.underlying29 rfl sz24 rfl rfl) rfl rfl fun a hF=>q_x (v:=s3.v) hF hS (ex_load1 0 0 Tryz.underlying24 rfl rfl rfl rfl) rfl rfl fun a hF=>q_x (v:=(iV (goLen p_t.Where))) hF hS (ex_len Tryz.underlying24 rfl h3.len) rfl rfl fun a hF=>q_x (v:=(iV 0)) hF hS (ex_move rfl) rfl rfl fun a hF=>q_end (n_sq (q_block ?_)))))))))
   obtain ⟨out_43,hl5,hr⟩:=bindS hr
   refine q_loop (fun (s : (List UInt8) × Bool × Int) a w=>∃ out_16,∃ first_17,∃ t_18,s = (out_16,first_17,t_18)∧Fr a 79 [(0,s1.v),(5,(strV out_16)),(6,(.bool first_17)),(39,s3.v),(40,(iV (goLen p_t.Where))),(41,(iV t_18))]∧St [] w0 w m []) (fun (out_43 : (List UInt8)) e a w=>e = .exit 0∧Fr a 79 [(5,(strV out_43))]∧St [] w0 w m []) hl5 ⟨_,_,_,rfl,hF.sub ⟨rfl,rfl,rfl,rfl,rfl,rfl,trivial⟩,hS.mask [false]⟩ ?_ ?_
   ·clear hF hS
    rintro s a w st ⟨out_16,first_17,t_18,rfl,hF,hS⟩ hb5
    unfold spec_nTable_l1 at hb5
    refine q_seq (q_region (q_x (v:=(.bool (decide (t_18 < (goLen p_t.Where))))) hF hS (ex_ibin rfl rfl rfl) rfl rfl fun a hF=>q_end (n_sq (q_seq ?_))))
    rcases bcase (decide (t_18 < (goLen p_t.Where))) with hc6 | hc6
    ·have hb5:=cond_f hc6 hb5
     refine q_cond_f hF rfl hc6 (q_exit (x_sq ?_))
     obtain rfl:=someI hb5
     exact ⟨nofun,.inl ⟨rfl,hF.sub ⟨rfl,trivial⟩,hS⟩⟩
    ·have hb5:=cond_t hc6 hb5
     refine q_cond_t hF rfl hc6 (q_skipc (n_sq (q_seq ?_)))
     obtain ⟨j7,hj7,hb5⟩:=bindS hb5
     refine q_join (fun a w=>∃ out_41,∃ first_42,j7 = (out_41,first_42)∧Fr a 79 [(0,s1.v),(5,(strV out_41)),(6,(.bool first_42)),(39,s3.v),(40,(iV (goLen p_t.Where))),(41,(iV t_18))]∧St [] w0 w m []) ?_ ?_
     ·refine q_block (q_seq (q_region (q_x (v:=(iV t_18)) hF hS (ex_move rfl) rfl rfl fun a hF=>?_)))
      obtain ⟨e_19,he_19,hj7⟩:=bindS hj7
      obtain ⟨vs20,at20,d20⟩:=h3.at he_19 1 rfl
      obtain rfl : vs20 = [(iV e_19)]:=d20
      refine q_x (v:=(elP s3 (t_18.toNat * 1))) hF hS (ex_indexAddr Tryz.underlying24 sz3 rfl rfl (h3.idx he_19)) rfl rfl fun a hF=>q_x (v:=(iV e_19)) hF hS (ex_loadE1 0 Tryz.underlying3 rfl rfl ((at20).at) rfl rfl) rfl rfl fun a hF=>q_x (v:=(iV t_18)) hF hS (ex_assign rfl) rfl rfl fun a hF=>q_x (v:=(iV e_19)) hF hS (ex_assign rfl) rfl rfl fun a hF=>q_end (n_sq (q_seq (q_seq (q_region (q_x (v:=(iV e_19)) hF hS (ex_move rfl) rfl rfl fun a hF=>q_x (v:=(.bool (e_19 == 0))) hF hS (ex_ibin rfl rfl rfl) rfl rfl fun a hF=>q_end (n_sq ?_))))))
      rcases bcase (e_19 == 0) with hc8 | hc8
      ·have hj7:=cond_f hc8 hj7
       refine q_cond_f hF rfl hc8 (q_skipc (n_sq (q_seq (q_seq (q_region (q_x (v:=(.bool first_17)) hF hS (ex_move rfl) rfl rfl fun a hF=>q_end (n_sq ?_)))))))
       obtain ⟨j9,hj9,hj7⟩:=bindS hj7
       refine q_join (fun a w=>∃ out_22,∃ first_23,j9 = (out_22,first_23)∧Fr a 79 [(0,s1.v),(5,(strV out_22)),(6,(.bool first_23)),(7,(iV t_18)),(8,(iV e_19)),(39,s3.v),(40,(iV (goLen p_t.Where))),(41,(iV t_18))]∧St [] w0 w m []) ?_ ?_
       ·rcases bcase (first_17) with hc10 | hc10
        ·have hj9:=cond_f hc10 hj9
         refine q_cond_f hF rfl hc10 (q_skipc (n_jn ?_))
         obtain rfl:=someI hj9
         exact ⟨_,_,rfl,hF.sub ⟨rfl,rfl,rfl,rfl,rfl,rfl,rfl,rfl,trivial⟩,hS⟩
        ·have hj9:=cond_t hc10 hj9
         refine q_cond_t hF rfl hc10 (q_seq (q_region (q_x (v:=(strV out_16)) hF hS (ex_move rfl) rfl rfl fun a hF=>?_)))
         obtain ⟨t_21,ht_21,hj9⟩:=bindS hj9
         refine q_x (v:=(strV t_21)) hF hS (ex_strCat rfl rfl ht_21) rfl rfl fun a hF=>q_x (v:=(strV t_21)) hF hS (ex_assign rfl) rfl rfl fun a hF=>q_end (n_sq (q_region (q_x (v:=(.bool false)) hF hS (ex_assign rfl) rfl rfl fun a hF=>q_end (n_jn ?_))))
         obtain rfl:=someI hj9
         exact ⟨_,_,rfl,hF.sub ⟨rfl,rfl,rfl,rfl,rfl,rfl,rfl,rfl,trivial⟩,hS⟩
       ·rintro a w ⟨out_22,first_23,rfl,hF,hS⟩
        refine n_sq ?_
        refine q_seq (q_region (q_x (v:=(strV out_22)) hF hS (ex_move rfl) rfl rfl fun a hF=>q_x (v:=s1.v) hF hS (ex_move rfl) rfl rfl fun a hF=>q_x (v:=(iV t_18)) hF hS (ex_move rfl) rfl rfl fun a hF=>?_))
        obtain ⟨e_24,he_24,hj7⟩:=bindS hj7
        obtain ⟨vs25,at25,d25⟩:=h1.at he_24 2 rfl
        obtain rfl : vs25 = [(strV e_24.Name),(iV e_24.Levels)]:=d25
        refine q_x (v:=(elP s1 (t_18.toNat * 2))) hF hS (ex_indexAddr Tryz.underlying27 sz95 rfl rfl (h1.idx he_24)) rfl rfl fun a hF=>q_x (v:=(elP s1 (t_18.toNat * 2 + 0))) hF hS (ex_fieldAddrE Tryz.underlying95 rfl sz9 rfl (h1.idx he_24) rfl) rfl rfl fun a hF=>q_x (v:=(strV e_24.Name)) hF hS (ex_loadE1 0 Tryz.underlying9 rfl rfl ((at25).at) rfl rfl) rfl rfl fun a hF=>?_
        obtain ⟨t_26,ht_26,hj7⟩:=bindS hj7
        refine q_x (v:=(strV t_26)) hF hS (ex_strCat rfl rfl ht_26) rfl rfl fun a hF=>?_
        obtain ⟨t_27,ht_27,hj7⟩:=bindS hj7
        refine q_x (v:=(strV t_27)) hF hS (ex_strCat rfl rfl ht_27) rfl rfl fun a hF=>?_
        obtain ⟨t_28,ht_28,hj7⟩:=bindS hj7
        refine q_x (v:=(strV t_28)) hF hS (ex_strCat rfl rfl ht_28) rfl rfl fun a hF=>q_x (v:=(strV t_28)) hF hS (ex_assign rfl) rfl rfl fun a hF=>q_end (n_sq (q_seq (q_region (q_x (v:=(iV e_19)) hF hS (ex_move rfl) rfl rfl fun a hF=>?_))))
        obtain ⟨t_29,ht_29,hj7⟩:=bindS hj7
        refine q_call (vs:=[(iV e_19)]) hF hS Tryz.func79 (by kernel_rfl) rfl rfl rfl (c_spec_eLevels e_19 t_29 ht_29 _ m hS.vis) ?_
        rintro a w _ ⟨q31,s31,rfl,hR30,h31⟩ hF hS2
        have hS : St _ _ _ _ [q31]:=hS.joinF hR30
        refine q_x (v:=(iV (goLen t_29))) hF hS (ex_len Tryz.underlying24 rfl h31.len) rfl rfl fun a hF=>q_x (v:=(iV 0)) hF hS (ex_move rfl) rfl rfl fun a hF=>q_end (n_sq (q_block ?_))
        obtain ⟨out_40,hl11,hj7⟩:=bindS hj7
        refine q_loop (fun (s : (List UInt8) × Int) a w=>∃ out_32,∃ t_33,s = (out_32,t_33)∧Fr a 79 [(0,s1.v),(5,(strV out_32)),(6,(.bool first_23)),(39,s3.v),(40,(iV (goLen p_t.Where))),(41,(iV t_18)),(61,s31.v),(62,(iV (goLen t_29))),(63,(iV t_33))]∧St [] w0 w m [q31]) (fun (out_40 : (List UInt8)) e a w=>e = .exit 2∧Fr a 79 [(0,s1.v),(5,(strV out_40)),(6,(.bool first_23)),(39,s3.v),(40,(iV (goLen p_t.Where))),(41,(iV t_18))]∧St [] w0 w m []) hl11 ⟨_,_,rfl,hF.sub ⟨rfl,rfl,rfl,rfl,rfl,rfl,rfl,rfl,rfl,trivial⟩,hS⟩ ?_ ?_
        ·clear hF hS
         rintro s a w st ⟨out_32,t_33,rfl,hF,hS⟩ hb11
         unfold spec_nTable_l2 at hb11
         refine q_seq (q_region (q_x (v:=(.bool (decide (t_33 < (goLen t_29))))) hF hS (ex_ibin rfl rfl rfl) rfl rfl fun a hF=>q_end (n_sq (q_seq ?_))))
         rcases bcase (decide (t_33 < (goLen t_29))) with hc12 | hc12
         ·have hb11:=cond_f hc12 hb11
          refine q_cond_f hF rfl hc12 (q_exit (x_sq ?_))
          obtain rfl:=someI hb11
          exact ⟨nofun,.inl ⟨rfl,hF.sub ⟨rfl,rfl,rfl,rfl,rfl,rfl,trivial⟩,hS.mask [false]⟩⟩
         ·have hb11:=cond_t hc12 hb11
          refine q_cond_t hF rfl hc12 (q_skipc (n_sq (q_seq (q_block (q_seq (q_region (q_x (v:=(iV t_33)) hF hS (ex_move rfl) rfl rfl fun a hF=>?_)))))))
          obtain ⟨e_34,he_34,hb11⟩:=bindS hb11
          obtain ⟨vs35,at35,d35⟩:=h31.at he_34 1 rfl
          obtain rfl : vs35 = [(iV e_34)]:=d35
          refine q_x (v:=(elP s31 (t_33.toNat * 1))) hF hS (ex_indexAddr Tryz.underlying24 sz3 rfl rfl (h31.idx he_34)) rfl rfl fun a hF=>q_x (v:=(iV e_34)) hF hS (ex_loadE1 0 Tryz.underlying3 rfl rfl (at35.at 0 rfl) rfl rfl) rfl rfl fun a hF=>q_x (v:=(iV t_33)) hF hS (ex_assign rfl) rfl rfl fun a hF=>q_x (v:=(iV e_34)) hF hS (ex_assign rfl) rfl rfl fun a hF=>q_end (n_sq (q_seq (q_seq (q_region (q_x (v:=(iV t_33)) hF hS (ex_move rfl) rfl rfl fun a hF=>q_x (v:=(.bool (decide (0 < t_33)))) hF hS (ex_ibin rfl rfl rfl) rfl rfl fun a hF=>q_end (n_sq ?_))))))
          obtain ⟨out_37,hj13,hb11⟩:=bindS hb11
          refine q_join (fun a w=>Fr a 79 [(0,s1.v),(5,(strV out_37)),(6,(.bool first_23)),(10,(iV e_34)),(39,s3.v),(40,(iV (goLen p_t.Where))),(41,(iV t_18)),(61,s31.v),(62,(iV (goLen t_29))),(63,(iV t_33))]∧St [] w0 w m [q31]) ?_ ?_
          ·rcases bcase (decide (0 < t_33)) with hc14 | hc14
           ·have hj13:=cond_f hc14 hj13
            refine q_cond_f hF rfl hc14 (q_skipc (n_jn ?_))
            obtain rfl:=someI hj13
            exact ⟨hF.sub ⟨rfl,rfl,rfl,rfl,rfl,rfl,rfl,rfl,rfl,rfl,trivial⟩,hS⟩
           ·have hj13:=cond_t hc14 hj13
            refine q_cond_t hF rfl hc14 (q_region (q_x (v:=(strV out_32)) hF hS (ex_move rfl) rfl rfl fun a hF=>?_))
            obtain ⟨t_36,ht_36,hj13⟩:=bindS hj13
            refine q_x (v:=(strV t_36)) hF hS (ex_strCat rfl rfl ht_36) rfl rfl fun a hF=>q_x (v:=(strV t_36)) hF hS (ex_assign rfl) rfl rfl fun a hF=>q_end (n_jn ?_)
            obtain rfl:=someI hj13
            exact ⟨hF.sub ⟨rfl,rfl,rfl,rfl,rfl,rfl,rfl,rfl,rfl,rfl,trivial⟩,hS⟩
          ·rintro a w ⟨hF,hS⟩
           refine n_sq ?_
           refine q_region (q_x (v:=(strV out_37)) hF hS (ex_move rfl) rfl rfl fun a hF=>q_x (v:=(iV e_34)) hF hS (ex_move rfl) rfl rfl fun a hF=>?_)
           obtain ⟨t_38,ht_38,hb11⟩:=bindS hb11
           refine q_call (vs:=[(iV e_34)]) hF hS Tryz.func77 (by kernel_rfl) rfl rfl rfl (c_spec_l1Num e_34 t_38 ht_38 _ m hS.vis) ?_
           rintro a w _ rfl hF hS
           obtain ⟨t_39,ht_39,hb11⟩:=bindS hb11
           refine q_x (v:=(strV t_39)) hF hS (ex_strCat rfl rfl ht_39) rfl rfl fun a hF=>q_x (v:=(strV t_39)) hF hS (ex_assign rfl) rfl rfl fun a hF=>q_end (n_ib (n_sq (q_region (q_x (v:=(iV (w64 (t_33 + 1)))) hF hS (ex_ibin rfl rfl rfl) rfl rfl fun a hF=>q_x (v:=(iV (w64 (t_33 + 1)))) hF hS (ex_move rfl) rfl rfl fun a hF=>q_end ?_))))
           obtain rfl:=someI hb11
           exact ⟨rfl,_,_,rfl,hF.sub ⟨rfl,rfl,rfl,rfl,rfl,rfl,rfl,rfl,rfl,trivial⟩,hS⟩
        ·rintro e a w ⟨rfl,hF,hS⟩
         refine x_ib (n_ib (n_jn ?_))
         obtain rfl:=someI hj7
         exact ⟨_,_,rfl,hF.sub ⟨rfl,rfl,rfl,rfl,rfl,rfl,trivial⟩,hS⟩
      ·have hj7:=cond_t hc8 hj7
       refine q_cond_t hF rfl hc8 (q_exit (x_sq (x_ib (n_jn ?_))))
       obtain rfl:=someI hj7
       exact ⟨_,_,rfl,hF.sub ⟨rfl,rfl,rfl,rfl,rfl,rfl,trivial⟩,hS⟩
     ·rintro a w ⟨out_41,first_42,rfl,hF,hS⟩
      refine n_sq ?_
      refine q_region (q_x (v:=(iV (w64 (t_18 + 1)))) hF hS (ex_ibin rfl rfl rfl) rfl rfl fun a hF=>q_x (v:=(iV (w64 (t_18 + 1)))) hF hS (ex_move rfl) rfl rfl fun a hF=>q_end ?_)
      obtain rfl:=someI hb5
      exact ⟨rfl,_,_,_,rfl,hF.sub ⟨rfl,rfl,rfl,rfl,rfl,rfl,trivial⟩,hS⟩
   ·rintro e a w ⟨rfl,hF,hS⟩
    refine x_ib (n_sq ?_)
    refine q_seq (q_region (q_x (v:=(strV out_43)) hF hS (ex_move rfl) rfl rfl fun a hF=>q_x (v:=(strV out_43)) hF hS (ex_assign rfl) rfl rfl fun a hF=>q_end (n_sq (q_ret ?_))))
    obtain rfl:=someI hr
    exact ret_of hF hS rfl (.tmp rfl .nil) rfl

end Go.Proofs.YtnmimeojimfogaaGreatDoor
