/- The walks of the functions: each returns what its plain function says. -/
import Derived.Test.YtmlegfogjdhhkaaGreatWalks1
namespace Go.Proofs.YtmlegfogjdhhkaaGreat
open Go.Gx Go.Gx.F Go.RowKit Go.Proofs.Tryz
set_option linter.all false
set_option maxRecDepth 10000


theorem c_spec_l1Cur_anyTable (p_c:spec_l1Cur) (p_g:impl_Geo) (p_s:List impl_Variable) (r:impl_Table × spec_l1Cur) (hr:spec_l1Cur_anyTable p_c p_g p_s=some r) (w0:World) (m:Mem) (b_p_c:Nat) (s1:Sl) (h1:Rd m s1 p_c.code) (s2:Sl) (h2:Rd m s2 p_g.Parents) (s3:Sl) (h3:Rd m s3 p_s) (X:List Nat) (hS:St X w0 w0 m [[⟨b_p_c,[s1.v,(iV p_c.at_),(.int .u64 p_c.seed.v)],65⟩]]) :
  RetX prog 52 [(.pointer (some ⟨b_p_c,0,none⟩)),(.agg #[s2.v]),s3.v] w0 (fun v w=>∃ (q0':Piece) (q1':Piece) (s0':Sl) (s1':Sl),v=(.agg #[(iV r.1.Level),s0'.v,s1'.v,(iV r.1.Sum)])∧St X w0 w m [[⟨b_p_c,[s1.v,(iV r.2.at_),(.int .u64 r.2.seed.v)],65⟩],q0',q1']∧OwnL m 3 q0' s0' r.1.Vars∧OwnL m 3 q1' s1' r.1.Where∧r.2.code=p_c.code):=by
 unfold spec_l1Cur_anyTable at hr
 refine ret_startX func52 rfl 56 rfl rfl fun a hF=>q_seq (q_region (q_box (cs:=[s2.v]) hF hS rfl rfl rfl fun a w b4 hF hS=>q_alloc (cs:=[(iV 0),nilS.v,nilS.v,(iV 0)]) hF hS rfl rfl rfl fun a w b5 hF hS=>q_end (n_sq (q_seq (q_region (q_x (v:=(.pointer (some ⟨b_p_c,0,none⟩))) hF hS (ex_move rfl) rfl rfl fun a hF=>q_x (v:=(.agg #[s2.v])) hF hS (ex_loadA (vs:=[s2.v]) 1 0 underlying25 rfl sz25 rfl rfl rfl rfl) rfl rfl fun a hF=>q_x (v:=s3.v) hF hS (ex_move rfl) rfl rfl fun a hF=>?_))))))
 have hS:St _ _ _ _ [[⟨b_p_c,[s1.v,(iV p_c.at_),(.int .u64 p_c.seed.v)],65⟩],[⟨b5,[(iV 0),nilS.v,nilS.v,(iV 0)],28⟩],[⟨b4,[s2.v],25⟩]]:=hS.sel [2,0,1] (by decide)
 have hS6:St _ _ _ _ ([[⟨b_p_c,[s1.v,(iV p_c.at_),(.int .u64 p_c.seed.v)],65⟩]]++[[⟨b5,[(iV 0),nilS.v,nilS.v,(iV 0)],28⟩],[⟨b4,[s2.v],25⟩]]):=hS
 have hE6:=hS6.enter
 obtain ⟨t_7,ht_7,hr⟩:=bindS hr
 refine q_do rfl fun _ hK=>wp_callX (vs:=[(.pointer (some ⟨b_p_c,0,none⟩)),(.agg #[s2.v]),s3.v]) hF func89 (by kernel_rfl) rfl rfl rfl (c_spec_l1Cur_table p_c p_g p_s t_7 ht_7 _ m b_p_c s1 h1 s2 h2 s3 h3 _ hE6) fun a w _ hR hF=>hK _ _ ?_
 obtain ⟨q8,q9,s8,s9,rfl,hR6,h8,h9,hk10⟩:=hR
 have hS:St _ _ _ _ [[⟨b_p_c,[s1.v,(iV t_7.2.at_),(.int .u64 t_7.2.seed.v)],65⟩],q8,q9,[⟨b5,[(iV 0),nilS.v,nilS.v,(iV 0)],28⟩],[⟨b4,[s2.v],25⟩]]:=hS6.leaveF hR6
 have h10:Rd m s1 t_7.2.code:=by rw [hk10]; exact h1
 refine q_alloc (cs:=[(iV 0),nilS.v,nilS.v,(iV 0)]) hF hS rfl rfl rfl fun a w b11 hF hS=>q_store (vs:=[(iV t_7.1.Level),s8.v,s9.v,(iV t_7.1.Sum)]) (cs':=[(iV t_7.1.Level),s8.v,s9.v,(iV t_7.1.Sum)]) 0 0 hF hS sz28 rfl rfl rfl rfl rfl rfl rfl rfl fun a w hF hS=>q_end (n_sq (q_seq (q_seq (q_region (q_x (v:=(.pointer (some ⟨b_p_c,0,none⟩))) hF hS (ex_move rfl) rfl rfl fun a hF=>?_)))))
 have hS:St _ _ _ _ [[⟨b_p_c,[s1.v,(iV t_7.2.at_),(.int .u64 t_7.2.seed.v)],65⟩],[⟨b11,[(iV t_7.1.Level),s8.v,s9.v,(iV t_7.1.Sum)],28⟩],q8,q9,[⟨b5,[(iV 0),nilS.v,nilS.v,(iV 0)],28⟩],[⟨b4,[s2.v],25⟩]]:=hS.sel [1,0,2,3,4,5] (by decide)
 have hS12:St _ _ _ _ ([[⟨b_p_c,[s1.v,(iV t_7.2.at_),(.int .u64 t_7.2.seed.v)],65⟩]]++[[⟨b11,[(iV t_7.1.Level),s8.v,s9.v,(iV t_7.1.Sum)],28⟩],q8,q9,[⟨b5,[(iV 0),nilS.v,nilS.v,(iV 0)],28⟩],[⟨b4,[s2.v],25⟩]]):=hS
 have hE12:=hS12.enter
 obtain ⟨t_13,ht_13,hr⟩:=bindS hr
 refine q_do rfl fun _ hK=>wp_callX (vs:=[(.pointer (some ⟨b_p_c,0,none⟩)),(iV 24)]) hF func33 (by kernel_rfl) rfl rfl rfl (c_spec_l1Cur_pick t_7.2 24 t_13 ht_13 _ m b_p_c s1 h10 _ hE12) fun a w _ hR hF=>hK _ _ ?_
 obtain ⟨rfl,hR12,hk14⟩:=hR
 have hS:St _ _ _ _ [[⟨b_p_c,[s1.v,(iV t_13.2.at_),(.int .u64 t_13.2.seed.v)],65⟩],[⟨b11,[(iV t_7.1.Level),s8.v,s9.v,(iV t_7.1.Sum)],28⟩],q8,q9,[⟨b5,[(iV 0),nilS.v,nilS.v,(iV 0)],28⟩],[⟨b4,[s2.v],25⟩]]:=hS12.leaveF hR12
 have h14:Rd m s1 t_13.2.code:=by rw [hk14]; exact h10
 refine q_end (n_sq (q_block (q_seq (q_region (q_x (v:=(.bool (t_13.1 == 0))) hF hS (ex_ibin rfl rfl rfl) rfl rfl fun a hF=>q_x (v:=(.bool (t_13.1 == 0))) hF hS (ex_assign rfl) rfl rfl fun a hF=>q_end (n_sq ?_))))))
 obtain ⟨j1,hj1,hr⟩:=bindS hr
 refine q_join (fun a w=>∃ (q74:Piece),∃ (s74:Sl),∃ (q75:Piece),∃ (s75:Sl),∃ p_c_71,∃ t_73,j1=(p_c_71,t_73)∧Fr a 56 [(6,(.pointer (some ⟨b5,0,none⟩))),(7,(.pointer (some ⟨b11,0,none⟩)))]∧St X w0 w m [q74,q75,[⟨b_p_c,[s1.v,(iV p_c_71.at_),(.int .u64 p_c_71.seed.v)],65⟩],[⟨b11,[(iV t_73.Level),s74.v,s75.v,(iV t_73.Sum)],28⟩],[⟨b5,[(iV 0),nilS.v,nilS.v,(iV 0)],28⟩]]∧Rd m s1 p_c_71.code∧p_c_71.code=p_c.code∧OwnL m 3 q74 s74 t_73.Vars∧OwnL m 3 q75 s75 t_73.Where) ?_ ?_
 ·rcases bcase (t_13.1 == 0) with hc2 | hc2
  ·have hj1:=cond_f hc2 hj1
   refine q_cond_f hF rfl hc2 (q_seq (q_region (q_x (v:=(.bool (t_13.1 == 1))) hF hS (ex_ibin rfl rfl rfl) rfl rfl fun a hF=>q_x (v:=(.bool (t_13.1 == 1))) hF hS (ex_assign rfl) rfl rfl fun a hF=>q_end (n_sq ?_))))
   obtain ⟨j3,hj3,hj1⟩:=bindS hj1
   refine q_join (fun a w=>∃ (q65:Piece),∃ (s65:Sl),∃ (q66:Piece),∃ (s66:Sl),∃ p_c_62,∃ t_64,j3=(p_c_62,t_64)∧Fr a 56 [(6,(.pointer (some ⟨b5,0,none⟩))),(7,(.pointer (some ⟨b11,0,none⟩)))]∧St X w0 w m [q65,q66,[⟨b_p_c,[s1.v,(iV p_c_62.at_),(.int .u64 p_c_62.seed.v)],65⟩],[⟨b11,[(iV t_64.Level),s65.v,s66.v,(iV t_64.Sum)],28⟩],[⟨b5,[(iV 0),nilS.v,nilS.v,(iV 0)],28⟩]]∧Rd m s1 p_c_62.code∧p_c_62.code=p_c.code∧OwnL m 3 q65 s65 t_64.Vars∧OwnL m 3 q66 s66 t_64.Where) ?_ ?_
   ·rcases bcase (t_13.1 == 1) with hc4 | hc4
    ·have hj3:=cond_f hc4 hj3
     refine q_cond_f hF rfl hc4 (q_seq (q_region (q_x (v:=(.bool (t_13.1 == 2))) hF hS (ex_ibin rfl rfl rfl) rfl rfl fun a hF=>q_x (v:=(.bool (t_13.1 == 2))) hF hS (ex_assign rfl) rfl rfl fun a hF=>q_end (n_sq ?_))))
     obtain ⟨j5,hj5,hj3⟩:=bindS hj3
     refine q_join (fun a w=>∃ (q48:Piece),∃ (s48:Sl),∃ p_c_44,∃ t_46,j5=(p_c_44,t_46)∧Fr a 56 [(6,(.pointer (some ⟨b5,0,none⟩))),(7,(.pointer (some ⟨b11,0,none⟩)))]∧St X w0 w m [q8,q48,[⟨b_p_c,[s1.v,(iV p_c_44.at_),(.int .u64 p_c_44.seed.v)],65⟩],[⟨b11,[(iV t_46.Level),s8.v,s48.v,(iV t_46.Sum)],28⟩],[⟨b5,[(iV 0),nilS.v,nilS.v,(iV 0)],28⟩]]∧Rd m s1 p_c_44.code∧p_c_44.code=p_c.code∧OwnL m 3 q8 s8 t_46.Vars∧OwnL m 3 q48 s48 t_46.Where) ?_ ?_
     ·rcases bcase (t_13.1 == 2) with hc6 | hc6
      ·have hj5:=cond_f hc6 hj5
       refine q_cond_f hF rfl hc6 (q_seq (q_region (q_x (v:=(.bool (t_13.1 == 3))) hF hS (ex_ibin rfl rfl rfl) rfl rfl fun a hF=>q_x (v:=(.bool (t_13.1 == 3))) hF hS (ex_assign rfl) rfl rfl fun a hF=>q_end (n_sq ?_))))
       obtain ⟨j7,hj7,hj5⟩:=bindS hj5
       refine q_join (fun a w=>∃ (q40:Piece),∃ p_c_36,∃ t_38,j7=(p_c_36,t_38)∧Fr a 56 [(6,(.pointer (some ⟨b5,0,none⟩))),(7,(.pointer (some ⟨b11,0,none⟩)))]∧St X w0 w m [q8,q40,[⟨b_p_c,[s1.v,(iV p_c_36.at_),(.int .u64 p_c_36.seed.v)],65⟩],[⟨b11,[(iV t_38.Level),s8.v,s9.v,(iV t_38.Sum)],28⟩],[⟨b5,[(iV 0),nilS.v,nilS.v,(iV 0)],28⟩]]∧Rd m s1 p_c_36.code∧p_c_36.code=p_c.code∧OwnL m 3 q8 s8 t_38.Vars∧OwnL m 3 q40 s9 t_38.Where) ?_ ?_
       ·rcases bcase (t_13.1 == 3) with hc8 | hc8
        ·have hj7:=cond_f hc8 hj7
         refine q_cond_f hF rfl hc8 (q_seq (q_region (q_x (v:=(.bool (t_13.1 == 4))) hF hS (ex_ibin rfl rfl rfl) rfl rfl fun a hF=>q_x (v:=(.bool (t_13.1 == 4))) hF hS (ex_assign rfl) rfl rfl fun a hF=>q_end (n_sq ?_))))
         obtain ⟨j9,hj9,hj7⟩:=bindS hj7
         refine q_join (fun a w=>∃ (q31:Piece),∃ p_c_27,∃ t_29,j9=(p_c_27,t_29)∧Fr a 56 [(6,(.pointer (some ⟨b5,0,none⟩))),(7,(.pointer (some ⟨b11,0,none⟩)))]∧St X w0 w m [q8,q31,[⟨b_p_c,[s1.v,(iV p_c_27.at_),(.int .u64 p_c_27.seed.v)],65⟩],[⟨b11,[(iV t_29.Level),s8.v,s9.v,(iV t_29.Sum)],28⟩],[⟨b5,[(iV 0),nilS.v,nilS.v,(iV 0)],28⟩]]∧Rd m s1 p_c_27.code∧p_c_27.code=p_c.code∧OwnL m 3 q8 s8 t_29.Vars∧OwnL m 3 q31 s9 t_29.Where) ?_ ?_
         ·rcases bcase (t_13.1 == 4) with hc10 | hc10
          ·have hj9:=cond_f hc10 hj9
           refine q_cond_f hF rfl hc10 (q_skipc (n_jn ?_))
           obtain rfl:=someI hj9
           exact ⟨q9,_,_,rfl,hF.sub ⟨rfl,rfl,trivial⟩,hS.sel [2,3,0,1,4] (by decide),h14,(hk14.trans hk10),h8,h9⟩
          ·have hj9:=cond_t hc10 hj9
           refine q_cond_t hF rfl hc10 (q_seq (q_region (q_x (v:=(.pointer (some ⟨b11,2,none⟩))) hF hS (ex_fieldAddr underlying28 rfl sz23 rfl rfl) rfl rfl fun a hF=>q_x (v:=s9.v) hF hS (ex_load1 1 0 underlying23 rfl rfl rfl rfl) rfl rfl fun a hF=>q_x (v:=(iV (goLen t_7.1.Where))) hF hS (ex_len underlying23 rfl h9.len) rfl rfl fun a hF=>q_x (v:=(.bool (decide (0<(goLen t_7.1.Where))))) hF hS (ex_ibin rfl rfl rfl) rfl rfl fun a hF=>q_end (n_sq ?_))))
           obtain ⟨j11,hj11,hj9⟩:=bindS hj9
           refine q_join (fun a w=>∃ (q26:Piece),∃ p_c_22,∃ t_24,j11=(p_c_22,t_24)∧Fr a 56 [(6,(.pointer (some ⟨b5,0,none⟩))),(7,(.pointer (some ⟨b11,0,none⟩)))]∧St X w0 w m [q8,q26,[⟨b_p_c,[s1.v,(iV p_c_22.at_),(.int .u64 p_c_22.seed.v)],65⟩],[⟨b11,[(iV t_24.Level),s8.v,s9.v,(iV t_24.Sum)],28⟩],[⟨b5,[(iV 0),nilS.v,nilS.v,(iV 0)],28⟩]]∧Rd m s1 p_c_22.code∧p_c_22.code=p_c.code∧OwnL m 3 q8 s8 t_24.Vars∧OwnL m 3 q26 s9 t_24.Where) ?_ ?_
           ·rcases bcase (decide (0<(goLen t_7.1.Where))) with hc12 | hc12
            ·have hj11:=cond_f hc12 hj11
             refine q_cond_f hF rfl hc12 (q_skipc (n_jn ?_))
             obtain rfl:=someI hj11
             exact ⟨q9,_,_,rfl,hF.sub ⟨rfl,rfl,trivial⟩,hS.sel [2,3,0,1,4] (by decide),h14,(hk14.trans hk10),h8,h9⟩
            ·have hj11:=cond_t hc12 hj11
             refine q_cond_t hF rfl hc12 (e_region ⟨[4,6],[b11]⟩ mixed fun w' hw'=>?_)
             have hS:=hS.below hw'
             refine e_p (v:=(.pointer (some ⟨b11,2,none⟩))) 0 hF rfl (ex_fieldAddr underlying28 rfl sz23 rfl rfl) rfl rfl (by kernel_rfl) (by kernel_rfl) (by kernel_rfl) fun a hF=>e_xb (v:=s9.v) 1 1 hF hS (.head _) rfl rfl (ex_load1 0 0 underlying23 rfl rfl rfl rfl) rfl rfl (by kernel_rfl) (by kernel_rfl) (by kernel_rfl) fun a hF=>e_p (v:=(.pointer (some ⟨b_p_c,0,none⟩))) 2 hF rfl (ex_move rfl) rfl rfl (by kernel_rfl) (by kernel_rfl) (by kernel_rfl) fun a hF=>e_one 3 (by kernel_rfl) (e_op rfl rfl fun _ hK=>wp_buildSlice' (l:=([-1,255,256]:List Int)) (cells:=[(iV (-1)),(iV 255),(iV 256)]) hF hS underlying23 inf3 rfl rfl (by kernel_rfl) rfl rfl rfl ⟨rfl,rfl,rfl,rfl⟩ rfl rfl fun a w q15 s15 hF hS h15 hb=>hK _ _ hb (e_one 4 (by kernel_rfl) ?_))
             have hS:St _ _ _ _ [[⟨b_p_c,[s1.v,(iV t_13.2.at_),(.int .u64 t_13.2.seed.v)],65⟩],q15,[⟨b11,[(iV t_7.1.Level),s8.v,s9.v,(iV t_7.1.Sum)],28⟩],q8,q9,[⟨b5,[(iV 0),nilS.v,nilS.v,(iV 0)],28⟩],[⟨b4,[s2.v],25⟩]]:=hS.sel [1,0,2,3,4,5,6] (by decide)
             have hS16:St _ _ _ _ ([[⟨b_p_c,[s1.v,(iV t_13.2.at_),(.int .u64 t_13.2.seed.v)],65⟩]]++[q15,[⟨b11,[(iV t_7.1.Level),s8.v,s9.v,(iV t_7.1.Sum)],28⟩],q8,q9,[⟨b5,[(iV 0),nilS.v,nilS.v,(iV 0)],28⟩],[⟨b4,[s2.v],25⟩]]):=hS
             obtain ⟨m16,hl16,hE16,hz16⟩:=hS16.lendX
             obtain ⟨t_17,ht_17,hj11⟩:=bindS hj11
             have hSo:=hS
             refine e_opl rfl rfl rfl fun _ hK=>wp_callX (vs:=[(.pointer (some ⟨b_p_c,0,none⟩)),s15.v]) hF func78 (by kernel_rfl) rfl rfl rfl (c_spec_l1Cur_among t_13.2 ([-1,255,256]:List Int) t_17 ht_17 _ m16 b_p_c s1 (h14.mono hl16) s15 (h15.froz hl16 (hz16 0 _ rfl)) _ hE16) fun a w _ hR hF=>hK _ _ ?_
             obtain ⟨rfl,hR16,hk18⟩:=hR
             have hS:St _ _ _ _ [[⟨b_p_c,[s1.v,(iV t_17.2.at_),(.int .u64 t_17.2.seed.v)],65⟩],q15,[⟨b11,[(iV t_7.1.Level),s8.v,s9.v,(iV t_7.1.Sum)],28⟩],q8,q9,[⟨b5,[(iV 0),nilS.v,nilS.v,(iV 0)],28⟩],[⟨b4,[s2.v],25⟩]]:=hS16.leaveF hR16
             have h18:Rd m s1 t_17.2.code:=by rw [hk18]; exact h14
             refine ⟨kpC hSo hS 2 2 rfl rfl kpN,?_⟩
             obtain ⟨e_19,he_19,hj11⟩:=bindS hj11
             obtain ⟨vs20,at20,d20⟩:=h9.at he_19 1 rfl
             obtain rfl:vs20=[(iV e_19)]:=d20
             refine e_p (v:=(elP s9 ((0:Int).toNat * 1))) 5 hF rfl (ex_indexAddr underlying23 sz3 rfl rfl (h9.idx he_19)) rfl rfl (by kernel_rfl) (by kernel_rfl) (by kernel_rfl) fun a hF=>e_one 6 (by kernel_rfl) ?_
             have hS:St _ _ _ _ [q9,[⟨b_p_c,[s1.v,(iV t_17.2.at_),(.int .u64 t_17.2.seed.v)],65⟩],q15,[⟨b11,[(iV t_7.1.Level),s8.v,s9.v,(iV t_7.1.Sum)],28⟩],q8,[⟨b5,[(iV 0),nilS.v,nilS.v,(iV 0)],28⟩],[⟨b4,[s2.v],25⟩]]:=hS.sel [4,0,1,2,3,5,6] (by decide)
             have hSo:=hS
             refine e_opl rfl rfl rfl fun _ hK=>wp_storeE (e':=t_17.1) (us:=[(iV t_17.1)]) (vs:=[(iV e_19)]) 0 hF hS h9 sz3 rfl rfl rfl rfl rfl rfl rfl he_19 at20 rfl rfl rfl fun w q21 hS h21=>hK _ _ (⟨kpC hSo hS 3 3 rfl rfl kpN,?_⟩)
             refine e_end (by kernel_rfl) (n_jn ?_) _
             obtain rfl:=someI hj11
             exact ⟨q21,_,_,rfl,hF.sub ⟨rfl,rfl,trivial⟩,hS.sel [4,0,1,3,5] (by decide),h18,(hk18.trans (hk14.trans hk10)),h8,h21⟩
           ·rintro a w ⟨q26,p_c_22,t_24,rfl,hF,hS,h23,h23k,h25,h26⟩
            refine n_jn ?_
            obtain rfl:=someI hj9
            exact ⟨q26,_,_,rfl,hF.sub ⟨rfl,rfl,trivial⟩,hS,h23,h23k,h25,h26⟩
         ·rintro a w ⟨q31,p_c_27,t_29,rfl,hF,hS,h28,h28k,h30,h31⟩
          refine n_jn ?_
          obtain rfl:=someI hj7
          exact ⟨q31,_,_,rfl,hF.sub ⟨rfl,rfl,trivial⟩,hS,h28,h28k,h30,h31⟩
        ·have hj7:=cond_t hc8 hj7
         refine q_cond_t hF rfl hc8 (q_region (q_x (v:=(.pointer (some ⟨b_p_c,0,none⟩))) hF hS (ex_move rfl) rfl rfl fun a hF=>q_do rfl fun _ hK=>wp_buildSlice' (l:=([-2,3,6]:List Int)) (cells:=[(iV (-2)),(iV 3),(iV 6)]) hF hS underlying23 inf3 rfl rfl (by kernel_rfl) rfl rfl rfl ⟨rfl,rfl,rfl,rfl⟩ rfl rfl fun a w q32 s32 hF hS h32 _=>hK _ _ ?_))
         have hS:St _ _ _ _ [[⟨b_p_c,[s1.v,(iV t_13.2.at_),(.int .u64 t_13.2.seed.v)],65⟩],q32,[⟨b11,[(iV t_7.1.Level),s8.v,s9.v,(iV t_7.1.Sum)],28⟩],q8,q9,[⟨b5,[(iV 0),nilS.v,nilS.v,(iV 0)],28⟩],[⟨b4,[s2.v],25⟩]]:=hS.sel [1,0,2,3,4,5,6] (by decide)
         have hS33:St _ _ _ _ ([[⟨b_p_c,[s1.v,(iV t_13.2.at_),(.int .u64 t_13.2.seed.v)],65⟩]]++[q32,[⟨b11,[(iV t_7.1.Level),s8.v,s9.v,(iV t_7.1.Sum)],28⟩],q8,q9,[⟨b5,[(iV 0),nilS.v,nilS.v,(iV 0)],28⟩],[⟨b4,[s2.v],25⟩]]):=hS
         obtain ⟨m33,hl33,hE33,hz33⟩:=hS33.lendX
         obtain ⟨t_34,ht_34,hj7⟩:=bindS hj7
         refine q_do rfl fun _ hK=>wp_callX (vs:=[(.pointer (some ⟨b_p_c,0,none⟩)),s32.v]) hF func78 (by kernel_rfl) rfl rfl rfl (c_spec_l1Cur_among t_13.2 ([-2,3,6]:List Int) t_34 ht_34 _ m33 b_p_c s1 (h14.mono hl33) s32 (h32.froz hl33 (hz33 0 _ rfl)) _ hE33) fun a w _ hR hF=>hK _ _ ?_
         obtain ⟨rfl,hR33,hk35⟩:=hR
         have hS:St _ _ _ _ [[⟨b_p_c,[s1.v,(iV t_34.2.at_),(.int .u64 t_34.2.seed.v)],65⟩],q32,[⟨b11,[(iV t_7.1.Level),s8.v,s9.v,(iV t_7.1.Sum)],28⟩],q8,q9,[⟨b5,[(iV 0),nilS.v,nilS.v,(iV 0)],28⟩],[⟨b4,[s2.v],25⟩]]:=hS33.leaveF hR33
         have h35:Rd m s1 t_34.2.code:=by rw [hk35]; exact h14
         refine q_x (v:=(.pointer (some ⟨b11,3,none⟩))) hF hS (ex_fieldAddr underlying28 rfl sz3 rfl rfl) rfl rfl fun a hF=>q_store (vs:=[(iV t_34.1)]) (cs':=[(iV t_7.1.Level),s8.v,s9.v,(iV t_34.1)]) 2 0 hF hS sz3 rfl rfl rfl rfl rfl rfl rfl rfl fun a w hF hS=>q_end (n_jn ?_)
         obtain rfl:=someI hj7
         exact ⟨q9,_,_,rfl,hF.sub ⟨rfl,rfl,trivial⟩,hS.sel [3,4,0,2,5] (by decide),h35,(hk35.trans (hk14.trans hk10)),h8,h9⟩
       ·rintro a w ⟨q40,p_c_36,t_38,rfl,hF,hS,h37,h37k,h39,h40⟩
        refine n_jn ?_
        obtain rfl:=someI hj5
        exact ⟨q40,s9,_,_,rfl,hF.sub ⟨rfl,rfl,trivial⟩,hS,h37,h37k,h39,h40⟩
      ·have hj5:=cond_t hc6 hj5
       refine q_cond_t hF rfl hc6 (q_region (q_x (v:=(.pointer (some ⟨b11,2,none⟩))) hF hS (ex_fieldAddr underlying28 rfl sz23 rfl rfl) rfl rfl fun a hF=>q_x (v:=s9.v) hF hS (ex_load1 1 0 underlying23 rfl rfl rfl rfl) rfl rfl fun a hF=>q_do rfl fun _ hK=>wp_buildSlice' (l:=([0]:List Int)) (cells:=[(iV 0)]) hF hS underlying23 inf3 rfl rfl (by kernel_rfl) rfl rfl rfl ⟨rfl,rfl⟩ rfl rfl fun a w q41 s41 hF hS h41 _=>hK _ _ ?_))
       have hS:St _ _ _ _ [q9,q41,[⟨b_p_c,[s1.v,(iV t_13.2.at_),(.int .u64 t_13.2.seed.v)],65⟩],[⟨b11,[(iV t_7.1.Level),s8.v,s9.v,(iV t_7.1.Sum)],28⟩],q8,[⟨b5,[(iV 0),nilS.v,nilS.v,(iV 0)],28⟩],[⟨b4,[s2.v],25⟩]]:=hS.sel [4,0,1,2,3,5,6] (by decide)
       obtain ⟨l_42,hl_42,hj5⟩:=bindS hj5
       refine q_do rfl fun _ hK=>wp_append hF hS h9 underlying23 inf3 rfl rfl rfl rfl (h41.vw hS (j:=1) rfl) rfl (by decide) hl_42 rfl fun a w q43 s43 hF hS h43=>hK _ _ (q_x (v:=(.pointer (some ⟨b11,2,none⟩))) hF hS (ex_fieldAddr underlying28 rfl sz23 rfl rfl) rfl rfl fun a hF=>q_store (vs:=[s43.v]) (cs':=[(iV t_7.1.Level),s8.v,s43.v,(iV t_7.1.Sum)]) 3 0 hF hS sz23 rfl rfl rfl rfl rfl rfl rfl rfl fun a w hF hS=>q_end (n_jn ?_))
       obtain rfl:=someI hj5
       exact ⟨q43,s43,_,_,rfl,hF.sub ⟨rfl,rfl,trivial⟩,hS.sel [4,0,2,3,5] (by decide),h14,(hk14.trans hk10),h8,h43⟩
     ·rintro a w ⟨q48,s48,p_c_44,t_46,rfl,hF,hS,h45,h45k,h47,h48⟩
      refine n_jn ?_
      obtain rfl:=someI hj3
      exact ⟨q8,s8,q48,s48,_,_,rfl,hF.sub ⟨rfl,rfl,trivial⟩,hS,h45,h45k,h47,h48⟩
    ·have hj3:=cond_t hc4 hj3
     refine q_cond_t hF rfl hc4 ?_
     obtain ⟨j13,hj13,hj3⟩:=bindS hj3
     refine q_join (fun a w=>∃ (q60:Piece),∃ (s60:Sl),∃ p_c_57,∃ t_59,j13=(p_c_57,t_59)∧Fr a 56 [(6,(.pointer (some ⟨b5,0,none⟩))),(7,(.pointer (some ⟨b11,0,none⟩)))]∧St X w0 w m [q60,q9,[⟨b_p_c,[s1.v,(iV p_c_57.at_),(.int .u64 p_c_57.seed.v)],65⟩],[⟨b11,[(iV t_59.Level),s60.v,s9.v,(iV t_59.Sum)],28⟩],[⟨b5,[(iV 0),nilS.v,nilS.v,(iV 0)],28⟩]]∧Rd m s1 p_c_57.code∧p_c_57.code=p_c.code∧OwnL m 3 q60 s60 t_59.Vars∧OwnL m 3 q9 s9 t_59.Where) ?_ ?_
     ·refine e_region ⟨[4,6,8],[]⟩ mixed fun w' hw'=>?_
      have hS:=hS.below hw'
      refine e_p (v:=(.pointer (some ⟨b11,1,none⟩))) 0 hF rfl (ex_fieldAddr underlying28 rfl sz23 rfl rfl) rfl rfl (by kernel_rfl) (by kernel_rfl) (by kernel_rfl) fun a hF=>e_p (v:=(.pointer (some ⟨b_p_c,0,none⟩))) 2 hF rfl (ex_move rfl) rfl rfl (by kernel_rfl) (by kernel_rfl) (by kernel_rfl) fun a hF=>?_
      obtain ⟨t_52,ht_52,hj13⟩:=bindS hj13
      obtain ⟨l_55,hl_55,hj13⟩:=bindS hj13
      refine e_all [1,3] (by kernel_rfl) rfl ⟨?_,?_,trivial⟩
      ·refine e_lx (v:=s8.v) hF hS rfl (ex_load1 1 0 underlying23 rfl rfl rfl rfl) rfl rfl fun a hF=>e_one 3 (by kernel_rfl) (e_op rfl rfl fun _ hK=>wp_buildSlice' (l:=([-1,0,6]:List Int)) (cells:=[(iV (-1)),(iV 0),(iV 6)]) hF hS underlying23 inf3 rfl rfl (by kernel_rfl) rfl rfl rfl ⟨rfl,rfl,rfl,rfl⟩ rfl rfl fun a w q50 s50 hF hS h50 hb=>hK _ _ hb (e_one 4 (by kernel_rfl) ?_))
       have hS:St _ _ _ _ [[⟨b_p_c,[s1.v,(iV t_13.2.at_),(.int .u64 t_13.2.seed.v)],65⟩],q50,[⟨b11,[(iV t_7.1.Level),s8.v,s9.v,(iV t_7.1.Sum)],28⟩],q8,q9,[⟨b5,[(iV 0),nilS.v,nilS.v,(iV 0)],28⟩],[⟨b4,[s2.v],25⟩]]:=hS.sel [1,0,2,3,4,5,6] (by decide)
       have hS51:St _ _ _ _ ([[⟨b_p_c,[s1.v,(iV t_13.2.at_),(.int .u64 t_13.2.seed.v)],65⟩]]++[q50,[⟨b11,[(iV t_7.1.Level),s8.v,s9.v,(iV t_7.1.Sum)],28⟩],q8,q9,[⟨b5,[(iV 0),nilS.v,nilS.v,(iV 0)],28⟩],[⟨b4,[s2.v],25⟩]]):=hS
       obtain ⟨m51,hl51,hE51,hz51⟩:=hS51.lendX
       refine e_opl rfl rfl rfl fun _ hK=>wp_callX (vs:=[(.pointer (some ⟨b_p_c,0,none⟩)),s50.v]) hF func78 (by kernel_rfl) rfl rfl rfl (c_spec_l1Cur_among t_13.2 ([-1,0,6]:List Int) t_52 ht_52 _ m51 b_p_c s1 (h14.mono hl51) s50 (h50.froz hl51 (hz51 0 _ rfl)) _ hE51) fun a w _ hR hF=>hK _ _ ?_
       obtain ⟨rfl,hR51,hk53⟩:=hR
       have hS:St _ _ _ _ [[⟨b_p_c,[s1.v,(iV t_52.2.at_),(.int .u64 t_52.2.seed.v)],65⟩],q50,[⟨b11,[(iV t_7.1.Level),s8.v,s9.v,(iV t_7.1.Sum)],28⟩],q8,q9,[⟨b5,[(iV 0),nilS.v,nilS.v,(iV 0)],28⟩],[⟨b4,[s2.v],25⟩]]:=hS51.leaveF hR51
       have h53:Rd m s1 t_52.2.code:=by rw [hk53]; exact h14
       refine ⟨kpN,?_⟩
       refine e_one 5 (by kernel_rfl) (e_op rfl rfl fun _ hK=>wp_buildSlice' (l:=([t_52.1]:List Int)) (cells:=[(iV t_52.1)]) hF hS underlying23 inf3 rfl rfl (by kernel_rfl) rfl rfl rfl ⟨rfl,rfl⟩ rfl rfl fun a w q54 s54 hF hS h54 hb=>hK _ _ hb (e_one 6 (by kernel_rfl) ?_))
       have hS:St _ _ _ _ [q8,q54,[⟨b_p_c,[s1.v,(iV t_52.2.at_),(.int .u64 t_52.2.seed.v)],65⟩],q50,[⟨b11,[(iV t_7.1.Level),s8.v,s9.v,(iV t_7.1.Sum)],28⟩],q9,[⟨b5,[(iV 0),nilS.v,nilS.v,(iV 0)],28⟩],[⟨b4,[s2.v],25⟩]]:=hS.sel [4,0,1,2,3,5,6,7] (by decide)
       refine e_opl rfl rfl rfl fun _ hK=>wp_append hF hS h8 underlying23 inf3 rfl rfl rfl rfl (h54.vw hS (j:=1) rfl) rfl (by decide) hl_55 rfl fun a w q56 s56 hF hS h56=>hK _ _ (⟨kpN,?_⟩)
       refine e_p (v:=(.pointer (some ⟨b11,1,none⟩))) 7 hF rfl (ex_fieldAddr underlying28 rfl sz23 rfl rfl) rfl rfl (by kernel_rfl) (by kernel_rfl) (by kernel_rfl) fun a hF=>e_one 8 (by kernel_rfl) (e_store (vs:=[s56.v]) (cs':=[(iV t_7.1.Level),s56.v,s9.v,(iV t_7.1.Sum)]) 4 0 hF hS rfl rfl sz23 rfl rfl rfl rfl rfl rfl rfl rfl fun a w hF hS=>⟨kpN,?_⟩)
       refine e_end (by kernel_rfl) (n_jn ?_) _
       obtain rfl:=someI hj13
       exact ⟨q56,s56,_,_,rfl,hF.sub ⟨rfl,rfl,trivial⟩,hS.sel [0,5,2,4,6] (by decide),h53,(hk53.trans (hk14.trans hk10)),h56,h9⟩
      ·refine e_op rfl rfl fun _ hK=>wp_buildSlice' (l:=([-1,0,6]:List Int)) (cells:=[(iV (-1)),(iV 0),(iV 6)]) hF hS underlying23 inf3 rfl rfl (by kernel_rfl) rfl rfl rfl ⟨rfl,rfl,rfl,rfl⟩ rfl rfl fun a w q50 s50 hF hS h50 hb=>hK _ _ hb (e_all [1,4] (by kernel_rfl) rfl ⟨?_,?_,trivial⟩)
       ·refine e_lx (v:=s8.v) hF hS rfl (ex_load1 2 0 underlying23 rfl rfl rfl rfl) rfl rfl fun a hF=>e_one 4 (by kernel_rfl) ?_
        have hS:St _ _ _ _ [[⟨b_p_c,[s1.v,(iV t_13.2.at_),(.int .u64 t_13.2.seed.v)],65⟩],q50,[⟨b11,[(iV t_7.1.Level),s8.v,s9.v,(iV t_7.1.Sum)],28⟩],q8,q9,[⟨b5,[(iV 0),nilS.v,nilS.v,(iV 0)],28⟩],[⟨b4,[s2.v],25⟩]]:=hS.sel [1,0,2,3,4,5,6] (by decide)
        have hS51:St _ _ _ _ ([[⟨b_p_c,[s1.v,(iV t_13.2.at_),(.int .u64 t_13.2.seed.v)],65⟩]]++[q50,[⟨b11,[(iV t_7.1.Level),s8.v,s9.v,(iV t_7.1.Sum)],28⟩],q8,q9,[⟨b5,[(iV 0),nilS.v,nilS.v,(iV 0)],28⟩],[⟨b4,[s2.v],25⟩]]):=hS
        obtain ⟨m51,hl51,hE51,hz51⟩:=hS51.lendX
        refine e_opl rfl rfl rfl fun _ hK=>wp_callX (vs:=[(.pointer (some ⟨b_p_c,0,none⟩)),s50.v]) hF func78 (by kernel_rfl) rfl rfl rfl (c_spec_l1Cur_among t_13.2 ([-1,0,6]:List Int) t_52 ht_52 _ m51 b_p_c s1 (h14.mono hl51) s50 (h50.froz hl51 (hz51 0 _ rfl)) _ hE51) fun a w _ hR hF=>hK _ _ ?_
        obtain ⟨rfl,hR51,hk53⟩:=hR
        have hS:St _ _ _ _ [[⟨b_p_c,[s1.v,(iV t_52.2.at_),(.int .u64 t_52.2.seed.v)],65⟩],q50,[⟨b11,[(iV t_7.1.Level),s8.v,s9.v,(iV t_7.1.Sum)],28⟩],q8,q9,[⟨b5,[(iV 0),nilS.v,nilS.v,(iV 0)],28⟩],[⟨b4,[s2.v],25⟩]]:=hS51.leaveF hR51
        have h53:Rd m s1 t_52.2.code:=by rw [hk53]; exact h14
        refine ⟨kpN,?_⟩
        refine e_one 5 (by kernel_rfl) (e_op rfl rfl fun _ hK=>wp_buildSlice' (l:=([t_52.1]:List Int)) (cells:=[(iV t_52.1)]) hF hS underlying23 inf3 rfl rfl (by kernel_rfl) rfl rfl rfl ⟨rfl,rfl⟩ rfl rfl fun a w q54 s54 hF hS h54 hb=>hK _ _ hb (e_one 6 (by kernel_rfl) ?_))
        have hS:St _ _ _ _ [q8,q54,[⟨b_p_c,[s1.v,(iV t_52.2.at_),(.int .u64 t_52.2.seed.v)],65⟩],q50,[⟨b11,[(iV t_7.1.Level),s8.v,s9.v,(iV t_7.1.Sum)],28⟩],q9,[⟨b5,[(iV 0),nilS.v,nilS.v,(iV 0)],28⟩],[⟨b4,[s2.v],25⟩]]:=hS.sel [4,0,1,2,3,5,6,7] (by decide)
        refine e_opl rfl rfl rfl fun _ hK=>wp_append hF hS h8 underlying23 inf3 rfl rfl rfl rfl (h54.vw hS (j:=1) rfl) rfl (by decide) hl_55 rfl fun a w q56 s56 hF hS h56=>hK _ _ (⟨kpN,?_⟩)
        refine e_p (v:=(.pointer (some ⟨b11,1,none⟩))) 7 hF rfl (ex_fieldAddr underlying28 rfl sz23 rfl rfl) rfl rfl (by kernel_rfl) (by kernel_rfl) (by kernel_rfl) fun a hF=>e_one 8 (by kernel_rfl) (e_store (vs:=[s56.v]) (cs':=[(iV t_7.1.Level),s56.v,s9.v,(iV t_7.1.Sum)]) 4 0 hF hS rfl rfl sz23 rfl rfl rfl rfl rfl rfl rfl rfl fun a w hF hS=>⟨kpN,?_⟩)
        refine e_end (by kernel_rfl) (n_jn ?_) _
        obtain rfl:=someI hj13
        exact ⟨q56,s56,_,_,rfl,hF.sub ⟨rfl,rfl,trivial⟩,hS.sel [0,5,2,4,6] (by decide),h53,(hk53.trans (hk14.trans hk10)),h56,h9⟩
       ·have hS:St _ _ _ _ [[⟨b_p_c,[s1.v,(iV t_13.2.at_),(.int .u64 t_13.2.seed.v)],65⟩],q50,[⟨b11,[(iV t_7.1.Level),s8.v,s9.v,(iV t_7.1.Sum)],28⟩],q8,q9,[⟨b5,[(iV 0),nilS.v,nilS.v,(iV 0)],28⟩],[⟨b4,[s2.v],25⟩]]:=hS.sel [1,0,2,3,4,5,6] (by decide)
        have hS51:St _ _ _ _ ([[⟨b_p_c,[s1.v,(iV t_13.2.at_),(.int .u64 t_13.2.seed.v)],65⟩]]++[q50,[⟨b11,[(iV t_7.1.Level),s8.v,s9.v,(iV t_7.1.Sum)],28⟩],q8,q9,[⟨b5,[(iV 0),nilS.v,nilS.v,(iV 0)],28⟩],[⟨b4,[s2.v],25⟩]]):=hS
        obtain ⟨m51,hl51,hE51,hz51⟩:=hS51.lendX
        refine e_opl rfl rfl rfl fun _ hK=>wp_callX (vs:=[(.pointer (some ⟨b_p_c,0,none⟩)),s50.v]) hF func78 (by kernel_rfl) rfl rfl rfl (c_spec_l1Cur_among t_13.2 ([-1,0,6]:List Int) t_52 ht_52 _ m51 b_p_c s1 (h14.mono hl51) s50 (h50.froz hl51 (hz51 0 _ rfl)) _ hE51) fun a w _ hR hF=>hK _ _ ?_
        obtain ⟨rfl,hR51,hk53⟩:=hR
        have hS:St _ _ _ _ [[⟨b_p_c,[s1.v,(iV t_52.2.at_),(.int .u64 t_52.2.seed.v)],65⟩],q50,[⟨b11,[(iV t_7.1.Level),s8.v,s9.v,(iV t_7.1.Sum)],28⟩],q8,q9,[⟨b5,[(iV 0),nilS.v,nilS.v,(iV 0)],28⟩],[⟨b4,[s2.v],25⟩]]:=hS51.leaveF hR51
        have h53:Rd m s1 t_52.2.code:=by rw [hk53]; exact h14
        refine ⟨kpN,?_⟩
        refine e_x (v:=s8.v) 1 hF hS rfl (ex_load1 2 0 underlying23 rfl rfl rfl rfl) rfl rfl (by kernel_rfl) (by kernel_rfl) (by kernel_rfl) (by kernel_rfl) fun a hF=>e_one 5 (by kernel_rfl) (e_op rfl rfl fun _ hK=>wp_buildSlice' (l:=([t_52.1]:List Int)) (cells:=[(iV t_52.1)]) hF hS underlying23 inf3 rfl rfl (by kernel_rfl) rfl rfl rfl ⟨rfl,rfl⟩ rfl rfl fun a w q54 s54 hF hS h54 hb=>hK _ _ hb (e_one 6 (by kernel_rfl) ?_))
        have hS:St _ _ _ _ [q8,q54,[⟨b_p_c,[s1.v,(iV t_52.2.at_),(.int .u64 t_52.2.seed.v)],65⟩],q50,[⟨b11,[(iV t_7.1.Level),s8.v,s9.v,(iV t_7.1.Sum)],28⟩],q9,[⟨b5,[(iV 0),nilS.v,nilS.v,(iV 0)],28⟩],[⟨b4,[s2.v],25⟩]]:=hS.sel [4,0,1,2,3,5,6,7] (by decide)
        refine e_opl rfl rfl rfl fun _ hK=>wp_append hF hS h8 underlying23 inf3 rfl rfl rfl rfl (h54.vw hS (j:=1) rfl) rfl (by decide) hl_55 rfl fun a w q56 s56 hF hS h56=>hK _ _ (⟨kpN,?_⟩)
        refine e_p (v:=(.pointer (some ⟨b11,1,none⟩))) 7 hF rfl (ex_fieldAddr underlying28 rfl sz23 rfl rfl) rfl rfl (by kernel_rfl) (by kernel_rfl) (by kernel_rfl) fun a hF=>e_one 8 (by kernel_rfl) (e_store (vs:=[s56.v]) (cs':=[(iV t_7.1.Level),s56.v,s9.v,(iV t_7.1.Sum)]) 4 0 hF hS rfl rfl sz23 rfl rfl rfl rfl rfl rfl rfl rfl fun a w hF hS=>⟨kpN,?_⟩)
        refine e_end (by kernel_rfl) (n_jn ?_) _
        obtain rfl:=someI hj13
        exact ⟨q56,s56,_,_,rfl,hF.sub ⟨rfl,rfl,trivial⟩,hS.sel [0,5,2,4,6] (by decide),h53,(hk53.trans (hk14.trans hk10)),h56,h9⟩
     ·rintro a w ⟨q60,s60,p_c_57,t_59,rfl,hF,hS,h58,h58k,h60,h61⟩
      refine n_jn ?_
      obtain rfl:=someI hj3
      exact ⟨q60,s60,q9,s9,_,_,rfl,hF.sub ⟨rfl,rfl,trivial⟩,hS,h58,h58k,h60,h61⟩
   ·rintro a w ⟨q65,s65,q66,s66,p_c_62,t_64,rfl,hF,hS,h63,h63k,h65,h66⟩
    refine n_jn ?_
    obtain rfl:=someI hj1
    exact ⟨q65,s65,q66,s66,_,_,rfl,hF.sub ⟨rfl,rfl,trivial⟩,hS,h63,h63k,h65,h66⟩
  ·have hj1:=cond_t hc2 hj1
   refine q_cond_t hF rfl hc2 (q_region (q_x (v:=(.pointer (some ⟨b_p_c,0,none⟩))) hF hS (ex_move rfl) rfl rfl fun a hF=>q_do rfl fun _ hK=>wp_buildSlice' (l:=([-1,3,4]:List Int)) (cells:=[(iV (-1)),(iV 3),(iV 4)]) hF hS underlying23 inf3 rfl rfl (by kernel_rfl) rfl rfl rfl ⟨rfl,rfl,rfl,rfl⟩ rfl rfl fun a w q67 s67 hF hS h67 _=>hK _ _ ?_))
   have hS:St _ _ _ _ [[⟨b_p_c,[s1.v,(iV t_13.2.at_),(.int .u64 t_13.2.seed.v)],65⟩],q67,[⟨b11,[(iV t_7.1.Level),s8.v,s9.v,(iV t_7.1.Sum)],28⟩],q8,q9,[⟨b5,[(iV 0),nilS.v,nilS.v,(iV 0)],28⟩],[⟨b4,[s2.v],25⟩]]:=hS.sel [1,0,2,3,4,5,6] (by decide)
   have hS68:St _ _ _ _ ([[⟨b_p_c,[s1.v,(iV t_13.2.at_),(.int .u64 t_13.2.seed.v)],65⟩]]++[q67,[⟨b11,[(iV t_7.1.Level),s8.v,s9.v,(iV t_7.1.Sum)],28⟩],q8,q9,[⟨b5,[(iV 0),nilS.v,nilS.v,(iV 0)],28⟩],[⟨b4,[s2.v],25⟩]]):=hS
   obtain ⟨m68,hl68,hE68,hz68⟩:=hS68.lendX
   obtain ⟨t_69,ht_69,hj1⟩:=bindS hj1
   refine q_do rfl fun _ hK=>wp_callX (vs:=[(.pointer (some ⟨b_p_c,0,none⟩)),s67.v]) hF func78 (by kernel_rfl) rfl rfl rfl (c_spec_l1Cur_among t_13.2 ([-1,3,4]:List Int) t_69 ht_69 _ m68 b_p_c s1 (h14.mono hl68) s67 (h67.froz hl68 (hz68 0 _ rfl)) _ hE68) fun a w _ hR hF=>hK _ _ ?_
   obtain ⟨rfl,hR68,hk70⟩:=hR
   have hS:St _ _ _ _ [[⟨b_p_c,[s1.v,(iV t_69.2.at_),(.int .u64 t_69.2.seed.v)],65⟩],q67,[⟨b11,[(iV t_7.1.Level),s8.v,s9.v,(iV t_7.1.Sum)],28⟩],q8,q9,[⟨b5,[(iV 0),nilS.v,nilS.v,(iV 0)],28⟩],[⟨b4,[s2.v],25⟩]]:=hS68.leaveF hR68
   have h70:Rd m s1 t_69.2.code:=by rw [hk70]; exact h14
   refine q_x (v:=(.pointer (some ⟨b11,0,none⟩))) hF hS (ex_fieldAddr underlying28 rfl sz3 rfl rfl) rfl rfl fun a hF=>q_store (vs:=[(iV t_69.1)]) (cs':=[(iV t_69.1),s8.v,s9.v,(iV t_7.1.Sum)]) 2 0 hF hS sz3 rfl rfl rfl rfl rfl rfl rfl rfl fun a w hF hS=>q_end (n_jn ?_)
   obtain rfl:=someI hj1
   exact ⟨q8,s8,q9,s9,_,_,rfl,hF.sub ⟨rfl,rfl,trivial⟩,hS.sel [3,4,0,2,5] (by decide),h70,(hk70.trans (hk14.trans hk10)),h8,h9⟩
 ·rintro a w ⟨q74,s74,q75,s75,p_c_71,t_73,rfl,hF,hS,h72,h72k,h74,h75⟩
  refine n_ib (n_sq ?_)
  refine q_seq (q_region (q_x (v:=(.agg #[(iV t_73.Level),s74.v,s75.v,(iV t_73.Sum)])) hF hS (ex_loadA (vs:=[(iV t_73.Level),s74.v,s75.v,(iV t_73.Sum)]) 3 0 underlying28 rfl sz28 rfl rfl rfl rfl) rfl rfl fun a hF=>q_store (vs:=[(iV t_73.Level),s74.v,s75.v,(iV t_73.Sum)]) (cs':=[(iV t_73.Level),s74.v,s75.v,(iV t_73.Sum)]) 4 0 hF hS sz28 rfl rfl rfl rfl rfl rfl rfl rfl fun a w hF hS=>q_end (n_sq (q_ret ?_))))
  obtain rfl:=someI hr
  exact ret_ofX hF hS rfl (.cellA (us:=[(iV t_73.Level),s74.v,s75.v,(iV t_73.Sum)]) 4 0 underlying28 rfl sz28 rfl rfl rfl rfl .nil) ⟨q74,q75,s74,s75,rfl,hS.sel [2,0,1] (by decide),h74,h75,h72k⟩

theorem c_spec_DrawTableOf (p_code:List (K .u8)) (r:impl_Geo × (List impl_Variable) × impl_Table × (List impl_Record)) (hr:spec_DrawTableOf p_code=some r) (w0:World) (m:Mem) (hv:Vis m w0) (s1:Sl) (h1:Rd m s1 p_code) :
  Ret prog 17 [s1.v] w0 (fun v w=>∃ (m':Mem) (q0':Piece) (q2':Piece) (q3':Piece) (q4':Piece) (s0':Sl) (s1':Sl) (s2':Sl) (s3':Sl) (s4':Sl),v=(.tuple #[(.agg #[s0'.v]),s1'.v,(.agg #[(iV r.2.2.1.Level),s2'.v,s3'.v,(iV r.2.2.1.Sum)]),s4'.v])∧MLe [] w0.heap.size m m'∧St [] w0 w m' [q0',q2',q3',q4']∧OwnL m' 3 q0' s0' r.1.Parents∧Rd m' s1' r.2.1∧OwnL m' 3 q2' s2' r.2.2.1.Vars∧OwnL m' 3 q3' s3' r.2.2.1.Where∧OwnL m' 85 q4' s4' r.2.2.2):=by
 unfold spec_DrawTableOf at hr
 refine ret_start func17 rfl 26 rfl rfl m hv fun a hF hS=>q_seq (q_region (q_alloc (cs:=[nilS.v]) hF hS rfl rfl rfl fun a w b2 hF hS=>q_x (v:=nilS.v) hF hS (ex_assign rfl) rfl rfl fun a hF=>q_alloc (cs:=[(iV 0),nilS.v,nilS.v,(iV 0)]) hF hS rfl rfl rfl fun a w b3 hF hS=>q_x (v:=nilS.v) hF hS (ex_assign rfl) rfl rfl fun a hF=>q_end (n_sq (q_seq (q_region (q_x (v:=s1.v) hF hS (ex_move rfl) rfl rfl fun a hF=>q_x (v:=(.agg #[s1.v,(iV 0),(.int .u64 0)])) hF hS (ex_build (cells:=[s1.v,(iV 0),(.int .u64 0)]) rfl (by kernel_rfl)) rfl rfl fun a hF=>q_box (cs:=[s1.v,(iV 0),(.int .u64 0)]) hF hS rfl rfl rfl fun a w b4 hF hS=>q_x (v:=(.pointer (some ⟨b4,0,none⟩))) hF hS (ex_assign rfl) rfl rfl fun a hF=>q_end (n_sq (q_seq (q_region (q_x (v:=(.pointer (some ⟨b4,0,none⟩))) hF hS (ex_move rfl) rfl rfl fun a hF=>?_))))))))))
 have hS5:St _ _ _ _ ([[⟨b4,[s1.v,(iV 0),(.int .u64 0)],65⟩]]++[[⟨b3,[(iV 0),nilS.v,nilS.v,(iV 0)],28⟩],[⟨b2,[nilS.v],25⟩]]):=hS
 have hE5:=hS5.enter
 obtain ⟨t_6,ht_6,hr⟩:=bindS hr
 refine q_do rfl fun _ hK=>wp_callX (vs:=[(.pointer (some ⟨b4,0,none⟩))]) hF func51 (by kernel_rfl) rfl rfl rfl (c_spec_l1Cur_anySurvey (spec_l1Cur.mk p_code 0 (⟨0⟩:K .u64)) t_6 ht_6 _ m b4 s1 h1 _ hE5) fun a w _ hR hF=>hK _ _ ?_
 obtain ⟨m5',q7,q9,s7,s8,s9,rfl,hm5,hR5,h7,h8,h9,hk10⟩:=hR
 have hS:St _ _ _ _ [[⟨b4,[s1.v,(iV t_6.2.2.2.at_),(.int .u64 t_6.2.2.2.seed.v)],65⟩],q7,q9,[⟨b3,[(iV 0),nilS.v,nilS.v,(iV 0)],28⟩],[⟨b2,[nilS.v],25⟩]]:=hS5.leave hR5 hm5
 have hm5:=MLe.weakX hS5 hm5
 have h10:Rd m5' s1 t_6.2.2.2.code:=by rw [hk10]; exact (h1.mono hm5.le)
 refine q_x (v:=(.tuple #[(.agg #[s7.v]),s8.v,s9.v])) hF hS (ex_move rfl) rfl rfl fun a hF=>q_x (v:=(.agg #[s7.v])) hF hS (ex_extract rfl rfl) rfl rfl fun a hF=>q_x (v:=s8.v) hF hS (ex_extract rfl rfl) rfl rfl fun a hF=>q_x (v:=s9.v) hF hS (ex_extract rfl rfl) rfl rfl fun a hF=>q_alloc (cs:=[nilS.v]) hF hS rfl rfl rfl fun a w b11 hF hS=>q_store (vs:=[s7.v]) (cs':=[s7.v]) 0 0 hF hS sz25 rfl rfl rfl rfl rfl rfl rfl rfl fun a w hF hS=>q_x (v:=s8.v) hF hS (ex_assign rfl) rfl rfl fun a hF=>q_x (v:=s9.v) hF hS (ex_assign rfl) rfl rfl fun a hF=>q_end (n_sq (q_seq (e_region ⟨[5,7,9],[b11]⟩ mixed fun w' hw'=>?_)))
 have hS:=hS.below hw'
 refine e_xb (v:=(.agg #[s7.v])) 0 0 hF hS (.head _) rfl rfl (ex_loadA (vs:=[s7.v]) 0 0 underlying25 rfl sz25 rfl rfl rfl rfl) rfl rfl (by kernel_rfl) (by kernel_rfl) (by kernel_rfl) fun a hF=>e_p (v:=s8.v) 1 hF rfl (ex_move rfl) rfl rfl (by kernel_rfl) (by kernel_rfl) (by kernel_rfl) fun a hF=>e_p (v:=(.pointer (some ⟨b4,0,none⟩))) 2 hF rfl (ex_move rfl) rfl rfl (by kernel_rfl) (by kernel_rfl) (by kernel_rfl) fun a hF=>e_xb (v:=(.agg #[s7.v])) 3 0 hF hS (.head _) rfl rfl (ex_loadA (vs:=[s7.v]) 0 0 underlying25 rfl sz25 rfl rfl rfl rfl) rfl rfl (by kernel_rfl) (by kernel_rfl) (by kernel_rfl) fun a hF=>e_p (v:=s8.v) 4 hF rfl (ex_move rfl) rfl rfl (by kernel_rfl) (by kernel_rfl) (by kernel_rfl) fun a hF=>e_p (v:=s9.v) 6 hF rfl (ex_move rfl) rfl rfl (by kernel_rfl) (by kernel_rfl) (by kernel_rfl) fun a hF=>e_one 5 (by kernel_rfl) ?_
 have hS:St _ _ _ _ [[⟨b4,[s1.v,(iV t_6.2.2.2.at_),(.int .u64 t_6.2.2.2.seed.v)],65⟩],[⟨b11,[s7.v],25⟩],q7,q9,[⟨b3,[(iV 0),nilS.v,nilS.v,(iV 0)],28⟩],[⟨b2,[nilS.v],25⟩]]:=hS.sel [1,0,2,3,4,5] (by decide)
 have hS17:St _ _ _ _ ([[⟨b4,[s1.v,(iV t_6.2.2.2.at_),(.int .u64 t_6.2.2.2.seed.v)],65⟩]]++[[⟨b11,[s7.v],25⟩],q7,q9,[⟨b3,[(iV 0),nilS.v,nilS.v,(iV 0)],28⟩],[⟨b2,[nilS.v],25⟩]]):=hS
 obtain ⟨m17,hl17,hE17,hz17⟩:=hS17.lendX
 obtain ⟨t_18,ht_18,hr⟩:=bindS hr
 have hSo:=hS
 refine e_opl rfl rfl rfl fun _ hK=>wp_callX (vs:=[(.pointer (some ⟨b4,0,none⟩)),(.agg #[s7.v]),s8.v]) hF func52 (by kernel_rfl) rfl rfl rfl (c_spec_l1Cur_anyTable t_6.2.2.2 t_6.1 t_6.2.1 t_18 ht_18 _ m17 b4 s1 (h10.mono hl17) s7 (h7.froz hl17 (hz17 1 _ rfl)) s8 (h8.mono hl17) _ hE17) fun a w _ hR hF=>hK _ _ ?_
 obtain ⟨q19,q20,s19,s20,rfl,hR17,h19,h20,hk21⟩:=hR
 have hS:St _ _ _ _ [[⟨b4,[s1.v,(iV t_18.2.at_),(.int .u64 t_18.2.seed.v)],65⟩],q19,q20,[⟨b11,[s7.v],25⟩],q7,q9,[⟨b3,[(iV 0),nilS.v,nilS.v,(iV 0)],28⟩],[⟨b2,[nilS.v],25⟩]]:=hS17.leaveF hR17
 have h19:=h19.any m5'
 have h20:=h20.any m5'
 have h21:Rd m5' s1 t_18.2.code:=by rw [hk21]; exact h10
 refine ⟨kpC hSo hS 1 3 rfl rfl kpN,?_⟩
 refine e_one 7 (by kernel_rfl) ?_
 have hSo:=hS
 refine e_store (vs:=[s7.v]) (cs':=[s7.v]) 7 0 hF hS rfl rfl sz25 rfl rfl rfl rfl rfl rfl rfl rfl fun a w hF hS=>⟨kpC hSo hS 3 3 rfl rfl kpN,?_⟩
 refine e_p (v:=s8.v) 8 hF rfl (ex_assign rfl) rfl rfl (by kernel_rfl) (by kernel_rfl) (by kernel_rfl) fun a hF=>e_one 9 (by kernel_rfl) ?_
 have hSo:=hS
 refine e_store (vs:=[(iV t_18.1.Level),s19.v,s20.v,(iV t_18.1.Sum)]) (cs':=[(iV t_18.1.Level),s19.v,s20.v,(iV t_18.1.Sum)]) 6 0 hF hS rfl rfl sz28 rfl rfl rfl rfl rfl rfl rfl rfl fun a w hF hS=>⟨kpC hSo hS 3 3 rfl rfl kpN,?_⟩
 refine e_p (v:=s9.v) 10 hF rfl (ex_assign rfl) rfl rfl (by kernel_rfl) (by kernel_rfl) (by kernel_rfl) fun a hF=>e_end (by kernel_rfl) (n_sq (q_ret ?_)) _
 obtain rfl:=someI hr
 exact ret_of hF hS rfl (.cellA (us:=[s7.v]) 7 0 underlying25 rfl sz25 rfl rfl rfl rfl (.tmp rfl (.cellA (us:=[(iV t_18.1.Level),s19.v,s20.v,(iV t_18.1.Sum)]) 6 0 underlying28 rfl sz28 rfl rfl rfl rfl (.tmp rfl .nil)))) ⟨m5',q7,q19,q20,q9,s7,s8,s19,s20,s9,rfl,hm5,hS.sel [4,1,2,5] (by decide),h7,h8,h19,h20,h9⟩

theorem c_spec_DrawCubeOfTable (p_code:List (K .u8)) (r:impl_Geo × (List impl_Variable) × impl_Table × (List impl_Record)) (hr:spec_DrawCubeOfTable p_code=some r) (w0:World) (m:Mem) (hv:Vis m w0) (s1:Sl) (h1:Rd m s1 p_code) :
  Ret prog 4 [s1.v] w0 (fun v w=>∃ (m':Mem) (q0':Piece) (q2':Piece) (q3':Piece) (q4':Piece) (s0':Sl) (s1':Sl) (s2':Sl) (s3':Sl) (s4':Sl),v=(.tuple #[(.agg #[s0'.v]),s1'.v,(.agg #[(iV r.2.2.1.Level),s2'.v,s3'.v,(iV r.2.2.1.Sum)]),s4'.v])∧MLe [] w0.heap.size m m'∧St [] w0 w m' [q0',q2',q3',q4']∧OwnL m' 3 q0' s0' r.1.Parents∧Rd m' s1' r.2.1∧OwnL m' 3 q2' s2' r.2.2.1.Vars∧OwnL m' 3 q3' s3' r.2.2.1.Where∧OwnL m' 85 q4' s4' r.2.2.2):=by
 unfold spec_DrawCubeOfTable at hr
 refine ret_start func4 rfl 12 rfl rfl m hv fun a hF hS=>q_seq (q_region (q_alloc (cs:=[nilS.v]) hF hS rfl rfl rfl fun a w b2 hF hS=>q_x (v:=nilS.v) hF hS (ex_assign rfl) rfl rfl fun a hF=>q_alloc (cs:=[(iV 0),nilS.v,nilS.v,(iV 0)]) hF hS rfl rfl rfl fun a w b3 hF hS=>q_x (v:=nilS.v) hF hS (ex_assign rfl) rfl rfl fun a hF=>q_end (n_sq (q_seq (q_region (q_x (v:=s1.v) hF hS (ex_move rfl) rfl rfl fun a hF=>?_))))))
 obtain ⟨t_4,ht_4,hr⟩:=bindS hr
 refine q_call (vs:=[s1.v]) hF hS func17 (by kernel_rfl) rfl rfl rfl (c_spec_DrawTableOf p_code t_4 ht_4 _ m hS.vis s1 h1) ?_
 have hT:=hS
 rintro a w _ ⟨m5,q6,q8,q9,q10,s6,s7,s8,s9,s10,rfl,hm5,hR5,h6,h7,h8,h9,h10⟩ hF hS2
 have hS:St _ _ _ _ [q6,q8,q9,q10,[⟨b3,[(iV 0),nilS.v,nilS.v,(iV 0)],28⟩],[⟨b2,[nilS.v],25⟩]]:=hS.join hR5 hm5
 have hm5:=MLe.weakX (O0:=[]) hT hm5
 refine q_x (v:=(.agg #[s6.v])) hF hS (ex_extract rfl rfl) rfl rfl fun a hF=>q_x (v:=s7.v) hF hS (ex_extract rfl rfl) rfl rfl fun a hF=>q_x (v:=(.agg #[(iV t_4.2.2.1.Level),s8.v,s9.v,(iV t_4.2.2.1.Sum)])) hF hS (ex_extract rfl rfl) rfl rfl fun a hF=>q_x (v:=s10.v) hF hS (ex_extract rfl rfl) rfl rfl fun a hF=>q_store (vs:=[s6.v]) (cs':=[s6.v]) 5 0 hF hS sz25 rfl rfl rfl rfl rfl rfl rfl rfl fun a w hF hS=>q_x (v:=s7.v) hF hS (ex_assign rfl) rfl rfl fun a hF=>q_store (vs:=[(iV t_4.2.2.1.Level),s8.v,s9.v,(iV t_4.2.2.1.Sum)]) (cs':=[(iV t_4.2.2.1.Level),s8.v,s9.v,(iV t_4.2.2.1.Sum)]) 4 0 hF hS sz28 rfl rfl rfl rfl rfl rfl rfl rfl fun a w hF hS=>q_x (v:=s10.v) hF hS (ex_assign rfl) rfl rfl fun a hF=>q_end (n_sq (q_ret ?_))
 obtain rfl:=someI hr
 exact ret_of hF hS rfl (.cellA (us:=[s6.v]) 5 0 underlying25 rfl sz25 rfl rfl rfl rfl (.tmp rfl (.cellA (us:=[(iV t_4.2.2.1.Level),s8.v,s9.v,(iV t_4.2.2.1.Sum)]) 4 0 underlying28 rfl sz28 rfl rfl rfl rfl (.tmp rfl .nil)))) ⟨m5,q6,q8,q9,q10,s6,s7,s8,s9,s10,rfl,hm5,hS.sel [0,1,2,3] (by decide),h6,h7,h8,h9,h10⟩

theorem c_impl_IsGeo (p_g:impl_Geo) (r:Bool) (hr:impl_IsGeo p_g=some r) (w0:World) (m:Mem) (hv:Vis m w0) (s1:Sl) (h1:Rd m s1 p_g.Parents) :
  Ret prog 53 [(.agg #[s1.v])] w0 (fun v _=>v=(.bool r)):=by
 unfold impl_IsGeo at hr
 refine ret_start func53 rfl 43 rfl rfl m hv fun a hF hS=>q_seq (q_region (q_box (cs:=[s1.v]) hF hS rfl rfl rfl fun a w b2 hF hS=>q_x (v:=(.bool false)) hF hS (ex_assign rfl) rfl rfl fun a hF=>q_end (n_sq (q_seq (q_seq ?_)))))
 obtain ⟨t_5,hj1,hr⟩:=bindS hr
 refine q_join (fun a w=>Fr a 43 [(1,(.pointer (some ⟨b2,0,none⟩))),(20,(.bool t_5))]∧St [] w0 w m [[⟨b2,[s1.v],25⟩]]) ?_ ?_
 ·refine q_region (q_x (v:=(.pointer (some ⟨b2,0,none⟩))) hF hS (ex_fieldAddr underlying25 rfl sz23 rfl rfl) rfl rfl fun a hF=>q_x (v:=s1.v) hF hS (ex_load1 0 0 underlying23 rfl rfl rfl rfl) rfl rfl fun a hF=>q_x (v:=(iV (goLen p_g.Parents))) hF hS (ex_len underlying23 rfl h1.len) rfl rfl fun a hF=>q_x (v:=(.bool (decide ((goLen p_g.Parents)<1)))) hF hS (ex_ibin rfl rfl rfl) rfl rfl fun a hF=>q_x (v:=(.bool (decide ((goLen p_g.Parents)<1)))) hF hS (ex_move rfl) rfl rfl fun a hF=>?_)
  rcases bcase (decide ((goLen p_g.Parents)<1)) with hc2 | hc2
  ·have hj1:=cond_f hc2 hj1
   refine q_xg (v:=(.pointer (some ⟨b2,0,none⟩))) hF hS (ex_fieldAddr underlying25 rfl sz23 rfl rfl) (wanted_t hF rfl rfl rfl hc2) rfl fun a hF=>q_xg (v:=s1.v) hF hS (ex_load1 0 0 underlying23 rfl rfl rfl rfl) (wanted_t hF rfl rfl rfl hc2) rfl fun a hF=>q_xg (v:=(iV (goLen p_g.Parents))) hF hS (ex_len underlying23 rfl h1.len) (wanted_t hF rfl rfl rfl hc2) rfl fun a hF=>q_xg (v:=(.bool (decide (30<(goLen p_g.Parents))))) hF hS (ex_ibin rfl rfl rfl) (wanted_t hF rfl rfl rfl hc2) rfl fun a hF=>q_x (v:=(.bool (decide (30<(goLen p_g.Parents))))) hF hS (ex_pick_f rfl rfl hc2) rfl rfl fun a hF=>q_x (v:=(.bool (decide (30<(goLen p_g.Parents))))) hF hS (ex_move rfl) rfl rfl fun a hF=>?_
   rcases bcase (decide (30<(goLen p_g.Parents))) with hc3 | hc3
   ·have hj1:=cond_f hc3 hj1
    refine q_xg (v:=(.pointer (some ⟨b2,0,none⟩))) hF hS (ex_fieldAddr underlying25 rfl sz23 rfl rfl) (wanted_t hF rfl rfl rfl hc3) rfl fun a hF=>q_xg (v:=s1.v) hF hS (ex_load1 0 0 underlying23 rfl rfl rfl rfl) (wanted_t hF rfl rfl rfl hc3) rfl fun a hF=>?_
    obtain ⟨e_3,he_3,hj1⟩:=bindS hj1
    obtain ⟨vs4,at4,d4⟩:=h1.at he_3 1 rfl
    obtain rfl:vs4=[(iV e_3)]:=d4
    refine q_xg (v:=(elP s1 ((0:Int).toNat * 1))) hF hS (ex_indexAddr underlying23 sz3 rfl rfl (h1.idx he_3)) (wanted_t hF rfl rfl rfl hc3) rfl fun a hF=>q_xg (v:=(iV e_3)) hF hS (ex_loadE1 0 underlying3 rfl rfl ((at4).at) rfl rfl) (wanted_t hF rfl rfl rfl hc3) rfl fun a hF=>q_xg (v:=(.bool (e_3 != (-1)))) hF hS (ex_ibin rfl rfl rfl) (wanted_t hF rfl rfl rfl hc3) rfl fun a hF=>q_x (v:=(.bool (e_3 != (-1)))) hF hS (ex_pick_f rfl rfl hc3) rfl rfl fun a hF=>q_end (n_jn ?_)
    obtain rfl:=someI hj1
    exact ⟨hF.sub ⟨rfl,rfl,trivial⟩,hS⟩
   ·have hj1:=cond_t hc3 hj1
    refine q_skip hF (wanted_f hF rfl rfl rfl hc3 rfl) rfl fun a hF=>q_skip hF (wanted_f hF rfl rfl rfl hc3 rfl) rfl fun a hF=>q_skip hF (wanted_f hF rfl rfl rfl hc3 rfl) rfl fun a hF=>q_skip hF (wanted_f hF rfl rfl rfl hc3 rfl) rfl fun a hF=>q_skip hF (wanted_f hF rfl rfl rfl hc3 rfl) rfl fun a hF=>q_x (v:=(.bool true)) hF hS (ex_pick_t rfl rfl hc3) rfl rfl fun a hF=>q_end (n_jn ?_)
    obtain rfl:=someI hj1
    exact ⟨hF.sub ⟨rfl,rfl,trivial⟩,hS⟩
  ·have hj1:=cond_t hc2 hj1
   refine q_skip hF (wanted_f hF rfl rfl rfl hc2 rfl) rfl fun a hF=>q_skip hF (wanted_f hF rfl rfl rfl hc2 rfl) rfl fun a hF=>q_skip hF (wanted_f hF rfl rfl rfl hc2 rfl) rfl fun a hF=>q_skip hF (wanted_f hF rfl rfl rfl hc2 rfl) rfl fun a hF=>q_x (v:=(.bool true)) hF hS (ex_pick_t rfl rfl hc2) rfl rfl fun a hF=>q_x (v:=(.bool true)) hF hS (ex_move rfl) rfl rfl fun a hF=>q_skip hF (wanted_f hF rfl rfl rfl rfl rfl) rfl fun a hF=>q_skip hF (wanted_f hF rfl rfl rfl rfl rfl) rfl fun a hF=>q_skip hF (wanted_f hF rfl rfl rfl rfl rfl) rfl fun a hF=>q_skip hF (wanted_f hF rfl rfl rfl rfl rfl) rfl fun a hF=>q_skip hF (wanted_f hF rfl rfl rfl rfl rfl) rfl fun a hF=>q_x (v:=(.bool true)) hF hS (ex_pick_t rfl rfl rfl) rfl rfl fun a hF=>q_end (n_jn ?_)
   obtain rfl:=someI hj1
   exact ⟨hF.sub ⟨rfl,rfl,trivial⟩,hS⟩
 ·rintro a w ⟨hF,hS⟩
  refine n_sq ?_
  rcases bcase (t_5) with hc4 | hc4
  ·have hr:=cond_f hc4 hr
   refine q_cond_f hF rfl hc4 (q_skipc (n_sq (q_seq (q_seq (q_region (q_x (v:=(iV 1)) hF hS (ex_assign rfl) rfl rfl fun a hF=>q_end (n_sq (q_block ?_))))))))
   obtain ⟨o5,hl5,hr⟩:=bindS hr
   refine q_loop (fun (i_6:Int) a w=>Fr a 43 [(1,(.pointer (some ⟨b2,0,none⟩))),(3,(iV i_6))]∧St [] w0 w m [[⟨b2,[s1.v],25⟩]]) (fun (o:(Unit) ⊕ (Bool)) e a w=>o=.inl ()∧e=.exit 0∧Fr a 43 []∧St [] w0 w m []) hl5 ⟨hF.sub ⟨rfl,rfl,trivial⟩,hS⟩ ?_ ?_
   ·clear hF hS
    rintro i_6 a w st ⟨hF,hS⟩ hb5
    unfold impl_IsGeo_l1 at hb5
    refine q_seq (q_seq (q_region (q_x (v:=(iV i_6)) hF hS (ex_move rfl) rfl rfl fun a hF=>q_x (v:=(.pointer (some ⟨b2,0,none⟩))) hF hS (ex_fieldAddr underlying25 rfl sz23 rfl rfl) rfl rfl fun a hF=>q_x (v:=s1.v) hF hS (ex_load1 0 0 underlying23 rfl rfl rfl rfl) rfl rfl fun a hF=>q_x (v:=(iV (goLen p_g.Parents))) hF hS (ex_len underlying23 rfl h1.len) rfl rfl fun a hF=>q_x (v:=(.bool (decide (i_6<(goLen p_g.Parents))))) hF hS (ex_ibin rfl rfl rfl) rfl rfl fun a hF=>q_end (n_sq ?_))))
    rcases bcase (decide (i_6<(goLen p_g.Parents))) with hc6 | hc6
    ·have hb5:=cond_f hc6 hb5
     refine q_cond_f hF rfl hc6 (q_exit (x_sq ?_))
     obtain rfl:=someI hb5
     exact ⟨nofun,.inl ⟨rfl,rfl,hF.sub trivial,hS.mask [false]⟩⟩
    ·have hb5:=cond_t hc6 hb5
     refine q_cond_t hF rfl hc6 (q_skipc (n_sq (q_seq (q_block (q_seq ?_)))))
     obtain ⟨t_11,hj7,hb5⟩:=bindS hb5
     refine q_join (fun a w=>Fr a 43 [(1,(.pointer (some ⟨b2,0,none⟩))),(3,(iV i_6)),(42,(.bool t_11))]∧St [] w0 w m [[⟨b2,[s1.v],25⟩]]) ?_ ?_
     ·refine q_region (q_x (v:=(.pointer (some ⟨b2,0,none⟩))) hF hS (ex_fieldAddr underlying25 rfl sz23 rfl rfl) rfl rfl fun a hF=>q_x (v:=s1.v) hF hS (ex_load1 0 0 underlying23 rfl rfl rfl rfl) rfl rfl fun a hF=>q_x (v:=(iV i_6)) hF hS (ex_move rfl) rfl rfl fun a hF=>?_)
      obtain ⟨e_7,he_7,hj7⟩:=bindS hj7
      obtain ⟨vs8,at8,d8⟩:=h1.at he_7 1 rfl
      obtain rfl:vs8=[(iV e_7)]:=d8
      refine q_x (v:=(elP s1 (i_6.toNat * 1))) hF hS (ex_indexAddr underlying23 sz3 rfl rfl (h1.idx he_7)) rfl rfl fun a hF=>q_x (v:=(iV e_7)) hF hS (ex_loadE1 0 underlying3 rfl rfl ((at8).at) rfl rfl) rfl rfl fun a hF=>q_x (v:=(.bool (decide (e_7<0)))) hF hS (ex_ibin rfl rfl rfl) rfl rfl fun a hF=>q_x (v:=(.bool (decide (e_7<0)))) hF hS (ex_move rfl) rfl rfl fun a hF=>?_
      rcases bcase (decide (e_7<0)) with hc8 | hc8
      ·have hj7:=cond_f hc8 hj7
       refine q_xg (v:=(.pointer (some ⟨b2,0,none⟩))) hF hS (ex_fieldAddr underlying25 rfl sz23 rfl rfl) (wanted_t hF rfl rfl rfl hc8) rfl fun a hF=>q_xg (v:=s1.v) hF hS (ex_load1 0 0 underlying23 rfl rfl rfl rfl) (wanted_t hF rfl rfl rfl hc8) rfl fun a hF=>q_xg (v:=(iV i_6)) hF hS (ex_move rfl) (wanted_t hF rfl rfl rfl hc8) rfl fun a hF=>?_
       obtain ⟨e_9,he_9,hj7⟩:=bindS hj7
       obtain ⟨vs10,at10,d10⟩:=h1.at he_9 1 rfl
       obtain rfl:vs10=[(iV e_9)]:=d10
       refine q_xg (v:=(elP s1 (i_6.toNat * 1))) hF hS (ex_indexAddr underlying23 sz3 rfl rfl (h1.idx he_9)) (wanted_t hF rfl rfl rfl hc8) rfl fun a hF=>q_xg (v:=(iV e_9)) hF hS (ex_loadE1 0 underlying3 rfl rfl ((at10).at) rfl rfl) (wanted_t hF rfl rfl rfl hc8) rfl fun a hF=>q_xg (v:=(iV i_6)) hF hS (ex_move rfl) (wanted_t hF rfl rfl rfl hc8) rfl fun a hF=>q_xg (v:=(.bool (decide (i_6≤e_9)))) hF hS (ex_ibin rfl rfl rfl) (wanted_t hF rfl rfl rfl hc8) rfl fun a hF=>q_x (v:=(.bool (decide (i_6≤e_9)))) hF hS (ex_pick_f rfl rfl hc8) rfl rfl fun a hF=>q_end (n_jn ?_)
       obtain rfl:=someI hj7
       exact ⟨hF.sub ⟨rfl,rfl,rfl,trivial⟩,hS⟩
      ·have hj7:=cond_t hc8 hj7
       refine q_skip hF (wanted_f hF rfl rfl rfl hc8 rfl) rfl fun a hF=>q_skip hF (wanted_f hF rfl rfl rfl hc8 rfl) rfl fun a hF=>q_skip hF (wanted_f hF rfl rfl rfl hc8 rfl) rfl fun a hF=>q_skip hF (wanted_f hF rfl rfl rfl hc8 rfl) rfl fun a hF=>q_skip hF (wanted_f hF rfl rfl rfl hc8 rfl) rfl fun a hF=>q_skip hF (wanted_f hF rfl rfl rfl hc8 rfl) rfl fun a hF=>q_skip hF (wanted_f hF rfl rfl rfl hc8 rfl) rfl fun a hF=>q_x (v:=(.bool true)) hF hS (ex_pick_t rfl rfl hc8) rfl rfl fun a hF=>q_end (n_jn ?_)
       obtain rfl:=someI hj7
       exact ⟨hF.sub ⟨rfl,rfl,rfl,trivial⟩,hS⟩
     ·rintro a w ⟨hF,hS⟩
      refine n_sq ?_
      rcases bcase (t_11) with hc9 | hc9
      ·have hb5:=cond_f hc9 hb5
       refine q_cond_f hF rfl hc9 (q_skipc (n_ib (n_sq (q_region (q_x (v:=(iV i_6)) hF hS (ex_move rfl) rfl rfl fun a hF=>q_x (v:=(iV (w64 (i_6 + 1)))) hF hS (ex_ibin rfl rfl rfl) rfl rfl fun a hF=>q_x (v:=(iV (w64 (i_6 + 1)))) hF hS (ex_assign rfl) rfl rfl fun a hF=>q_end ?_)))))
       obtain rfl:=someI hb5
       exact ⟨rfl,hF.sub ⟨rfl,rfl,trivial⟩,hS⟩
      ·have hb5:=cond_t hc9 hb5
       refine q_cond_t hF rfl hc9 (q_seq (q_region (q_x (v:=(.bool false)) hF hS (ex_assign rfl) rfl rfl fun a hF=>q_end (n_sq (q_ret (r_ib (r_sq ?_)))))))
       obtain rfl:=someI hb5
       refine ⟨nofun,.inr fun ho=>?_⟩
       subst ho
       refine r_ib (r_sq ?_)
       obtain rfl:=someI hr
       exact ret_of hF hS rfl (.tmp rfl .nil) rfl
   ·rintro e a w ⟨rfl,rfl,hF,hS⟩
    refine x_ib (n_sq ?_)
    refine q_seq (q_region (q_x (v:=(.bool true)) hF hS (ex_assign rfl) rfl rfl fun a hF=>q_end (n_sq (q_ret ?_))))
    obtain rfl:=someI hr
    exact ret_of hF hS rfl (.tmp rfl .nil) rfl
  ·have hr:=cond_t hc4 hr
   refine q_cond_t hF rfl hc4 (q_seq (q_region (q_x (v:=(.bool false)) hF hS (ex_assign rfl) rfl rfl fun a hF=>q_end (n_sq (q_ret (r_sq ?_))))))
   obtain rfl:=someI hr
   exact ret_of hF hS rfl (.tmp rfl .nil) rfl

theorem c_impl_isWord (p_s:List UInt8) (r:Bool) (hr:impl_isWord p_s=some r) (w0:World) (m:Mem) (hv:Vis m w0) :
  Ret prog 90 [(strV p_s)] w0 (fun v _=>v=(.bool r)):=by
 unfold impl_isWord at hr
 refine ret_start func90 rfl 28 rfl rfl m hv fun a hF hS=>q_seq (q_region (q_x (v:=(.bool false)) hF hS (ex_assign rfl) rfl rfl fun a hF=>q_end (n_sq (q_seq (q_seq ?_)))))
 obtain ⟨t_1,hj1,hr⟩:=bindS hr
 refine q_join (fun a w=>Fr a 28 [(0,(strV p_s)),(11,(.bool t_1))]∧St [] w0 w m []) ?_ ?_
 ·refine q_region (q_x (v:=(strV p_s)) hF hS (ex_move rfl) rfl rfl fun a hF=>q_x (v:=(iV (goLen p_s))) hF hS (ex_strLen underlying9 rfl) rfl rfl fun a hF=>q_x (v:=(.bool (decide ((goLen p_s)<1)))) hF hS (ex_ibin rfl rfl rfl) rfl rfl fun a hF=>q_x (v:=(.bool (decide ((goLen p_s)<1)))) hF hS (ex_move rfl) rfl rfl fun a hF=>?_)
  rcases bcase (decide ((goLen p_s)<1)) with hc2 | hc2
  ·have hj1:=cond_f hc2 hj1
   refine q_xg (v:=(strV p_s)) hF hS (ex_move rfl) (wanted_t hF rfl rfl rfl hc2) rfl fun a hF=>q_xg (v:=(iV (goLen p_s))) hF hS (ex_strLen underlying9 rfl) (wanted_t hF rfl rfl rfl hc2) rfl fun a hF=>q_xg (v:=(.bool (decide (8<(goLen p_s))))) hF hS (ex_ibin rfl rfl rfl) (wanted_t hF rfl rfl rfl hc2) rfl fun a hF=>q_x (v:=(.bool (decide (8<(goLen p_s))))) hF hS (ex_pick_f rfl rfl hc2) rfl rfl fun a hF=>q_end (n_jn ?_)
   obtain rfl:=someI hj1
   exact ⟨hF.sub ⟨rfl,rfl,trivial⟩,hS⟩
  ·have hj1:=cond_t hc2 hj1
   refine q_skip hF (wanted_f hF rfl rfl rfl hc2 rfl) rfl fun a hF=>q_skip hF (wanted_f hF rfl rfl rfl hc2 rfl) rfl fun a hF=>q_skip hF (wanted_f hF rfl rfl rfl hc2 rfl) rfl fun a hF=>q_x (v:=(.bool true)) hF hS (ex_pick_t rfl rfl hc2) rfl rfl fun a hF=>q_end (n_jn ?_)
   obtain rfl:=someI hj1
   exact ⟨hF.sub ⟨rfl,rfl,trivial⟩,hS⟩
 ·rintro a w ⟨hF,hS⟩
  refine n_sq ?_
  rcases bcase (t_1) with hc3 | hc3
  ·have hr:=cond_f hc3 hr
   refine q_cond_f hF rfl hc3 (q_skipc (n_sq (q_seq (q_seq (q_region (q_x (v:=(strV p_s)) hF hS (ex_move rfl) rfl rfl fun a hF=>q_x (v:=(iV (goLen p_s))) hF hS (ex_strLen underlying9 rfl) rfl rfl fun a hF=>q_x (v:=(iV 0)) hF hS (ex_move rfl) rfl rfl fun a hF=>q_end (n_sq (q_block ?_))))))))
   obtain ⟨o4,hl4,hr⟩:=bindS hr
   refine q_loop (fun (t_2:Int) a w=>Fr a 28 [(0,(strV p_s)),(13,(iV (goLen p_s))),(14,(iV t_2))]∧St [] w0 w m []) (fun (o:(Unit) ⊕ (Bool)) e a w=>o=.inl ()∧e=.exit 0∧Fr a 28 []∧St [] w0 w m []) hl4 ⟨hF.sub ⟨rfl,rfl,rfl,trivial⟩,hS⟩ ?_ ?_
   ·clear hF hS
    rintro t_2 a w st ⟨hF,hS⟩ hb4
    unfold impl_isWord_l1 at hb4
    refine q_seq (q_region (q_x (v:=(.bool (decide (t_2<(goLen p_s))))) hF hS (ex_ibin rfl rfl rfl) rfl rfl fun a hF=>q_end (n_sq (q_seq ?_))))
    rcases bcase (decide (t_2<(goLen p_s))) with hc5 | hc5
    ·have hb4:=cond_f hc5 hb4
     refine q_cond_f hF rfl hc5 (q_exit (x_sq ?_))
     obtain rfl:=someI hb4
     exact ⟨nofun,.inl ⟨rfl,rfl,hF.sub trivial,hS⟩⟩
    ·have hb4:=cond_t hc5 hb4
     refine q_cond_t hF rfl hc5 (q_skipc (n_sq (q_seq (q_block (q_seq (q_region (q_x (v:=(iV t_2)) hF hS (ex_move rfl) rfl rfl fun a hF=>q_x (v:=(iV t_2)) hF hS (ex_assign rfl) rfl rfl fun a hF=>q_end (n_sq (q_seq ?_)))))))))
     obtain ⟨t_5,hj6,hb4⟩:=bindS hb4
     refine q_join (fun a w=>Fr a 28 [(0,(strV p_s)),(13,(iV (goLen p_s))),(14,(iV t_2)),(26,(.bool t_5))]∧St [] w0 w m []) ?_ ?_
     ·refine q_region (q_x (v:=(strV p_s)) hF hS (ex_move rfl) rfl rfl fun a hF=>q_x (v:=(iV t_2)) hF hS (ex_move rfl) rfl rfl fun a hF=>?_)
      obtain ⟨t_3,ht_3,hj6⟩:=bindS hj6
      refine q_x (v:=(.int .u8 t_3)) hF hS (ex_strIdx underlying9 rfl rfl ht_3) rfl rfl fun a hF=>q_x (v:=(.bool (decide (t_3<97)))) hF hS (ex_ibin rfl rfl rfl) rfl rfl fun a hF=>q_x (v:=(.bool (decide (t_3<97)))) hF hS (ex_move rfl) rfl rfl fun a hF=>?_
      rcases bcase (decide (t_3<97)) with hc7 | hc7
      ·have hj6:=cond_f hc7 hj6
       refine q_xg (v:=(strV p_s)) hF hS (ex_move rfl) (wanted_t hF rfl rfl rfl hc7) rfl fun a hF=>q_xg (v:=(iV t_2)) hF hS (ex_move rfl) (wanted_t hF rfl rfl rfl hc7) rfl fun a hF=>?_
       obtain ⟨t_4,ht_4,hj6⟩:=bindS hj6
       refine q_xg (v:=(.int .u8 t_4)) hF hS (ex_strIdx underlying9 rfl rfl ht_4) (wanted_t hF rfl rfl rfl hc7) rfl fun a hF=>q_xg (v:=(.bool (decide (122<t_4)))) hF hS (ex_ibin rfl rfl rfl) (wanted_t hF rfl rfl rfl hc7) rfl fun a hF=>q_x (v:=(.bool (decide (122<t_4)))) hF hS (ex_pick_f rfl rfl hc7) rfl rfl fun a hF=>q_end (n_jn ?_)
       obtain rfl:=someI hj6
       exact ⟨hF.sub ⟨rfl,rfl,rfl,rfl,trivial⟩,hS⟩
      ·have hj6:=cond_t hc7 hj6
       refine q_skip hF (wanted_f hF rfl rfl rfl hc7 rfl) rfl fun a hF=>q_skip hF (wanted_f hF rfl rfl rfl hc7 rfl) rfl fun a hF=>q_skip hF (wanted_f hF rfl rfl rfl hc7 rfl) rfl fun a hF=>q_skip hF (wanted_f hF rfl rfl rfl hc7 rfl) rfl fun a hF=>q_x (v:=(.bool true)) hF hS (ex_pick_t rfl rfl hc7) rfl rfl fun a hF=>q_end (n_jn ?_)
       obtain rfl:=someI hj6
       exact ⟨hF.sub ⟨rfl,rfl,rfl,rfl,trivial⟩,hS⟩
     ·rintro a w ⟨hF,hS⟩
      refine n_sq ?_
      rcases bcase (t_5) with hc8 | hc8
      ·have hb4:=cond_f hc8 hb4
       refine q_cond_f hF rfl hc8 (q_skipc (n_ib (n_sq (q_region (q_x (v:=(iV (w64 (t_2 + 1)))) hF hS (ex_ibin rfl rfl rfl) rfl rfl fun a hF=>q_x (v:=(iV (w64 (t_2 + 1)))) hF hS (ex_move rfl) rfl rfl fun a hF=>q_end ?_)))))
       obtain rfl:=someI hb4
       exact ⟨rfl,hF.sub ⟨rfl,rfl,rfl,trivial⟩,hS⟩
      ·have hb4:=cond_t hc8 hb4
       refine q_cond_t hF rfl hc8 (q_seq (q_region (q_x (v:=(.bool false)) hF hS (ex_assign rfl) rfl rfl fun a hF=>q_end (n_sq (q_ret (r_ib (r_sq ?_)))))))
       obtain rfl:=someI hb4
       refine ⟨nofun,.inr fun ho=>?_⟩
       subst ho
       refine r_ib (r_sq ?_)
       obtain rfl:=someI hr
       exact ret_of hF hS rfl (.tmp rfl .nil) rfl
   ·rintro e a w ⟨rfl,rfl,hF,hS⟩
    refine x_ib (n_sq ?_)
    refine q_seq (q_region (q_x (v:=(.bool true)) hF hS (ex_assign rfl) rfl rfl fun a hF=>q_end (n_sq (q_ret ?_))))
    obtain rfl:=someI hr
    exact ret_of hF hS rfl (.tmp rfl .nil) rfl
  ·have hr:=cond_t hc3 hr
   refine q_cond_t hF rfl hc3 (q_seq (q_region (q_x (v:=(.bool false)) hF hS (ex_assign rfl) rfl rfl fun a hF=>q_end (n_sq (q_ret (r_sq ?_))))))
   obtain rfl:=someI hr
   exact ret_of hF hS rfl (.tmp rfl .nil) rfl

theorem c_impl_IsSchema (p_s:List impl_Variable) (r:Bool) (hr:impl_IsSchema p_s=some r) (w0:World) (m:Mem) (hv:Vis m w0) (s1:Sl) (h1:Rd m s1 p_s) :
  Ret prog 54 [s1.v] w0 (fun v _=>v=(.bool r)):=by
 unfold impl_IsSchema at hr
 refine ret_start func54 rfl 51 rfl rfl m hv fun a hF hS=>q_seq (q_region (q_x (v:=(.bool false)) hF hS (ex_assign rfl) rfl rfl fun a hF=>q_end (n_sq (q_seq (q_seq ?_)))))
 obtain ⟨t_2,hj1,hr⟩:=bindS hr
 refine q_join (fun a w=>Fr a 51 [(0,s1.v),(14,(.bool t_2))]∧St [] w0 w m []) ?_ ?_
 ·refine q_region (q_x (v:=s1.v) hF hS (ex_move rfl) rfl rfl fun a hF=>q_x (v:=(iV (goLen p_s))) hF hS (ex_len underlying26 rfl h1.len) rfl rfl fun a hF=>q_x (v:=(.bool (decide ((goLen p_s)<1)))) hF hS (ex_ibin rfl rfl rfl) rfl rfl fun a hF=>q_x (v:=(.bool (decide ((goLen p_s)<1)))) hF hS (ex_move rfl) rfl rfl fun a hF=>?_)
  rcases bcase (decide ((goLen p_s)<1)) with hc2 | hc2
  ·have hj1:=cond_f hc2 hj1
   refine q_xg (v:=s1.v) hF hS (ex_move rfl) (wanted_t hF rfl rfl rfl hc2) rfl fun a hF=>q_xg (v:=(iV (goLen p_s))) hF hS (ex_len underlying26 rfl h1.len) (wanted_t hF rfl rfl rfl hc2) rfl fun a hF=>q_xg (v:=(.bool (decide (6<(goLen p_s))))) hF hS (ex_ibin rfl rfl rfl) (wanted_t hF rfl rfl rfl hc2) rfl fun a hF=>q_x (v:=(.bool (decide (6<(goLen p_s))))) hF hS (ex_pick_f rfl rfl hc2) rfl rfl fun a hF=>q_end (n_jn ?_)
   obtain rfl:=someI hj1
   exact ⟨hF.sub ⟨rfl,rfl,trivial⟩,hS⟩
  ·have hj1:=cond_t hc2 hj1
   refine q_skip hF (wanted_f hF rfl rfl rfl hc2 rfl) rfl fun a hF=>q_skip hF (wanted_f hF rfl rfl rfl hc2 rfl) rfl fun a hF=>q_skip hF (wanted_f hF rfl rfl rfl hc2 rfl) rfl fun a hF=>q_x (v:=(.bool true)) hF hS (ex_pick_t rfl rfl hc2) rfl rfl fun a hF=>q_end (n_jn ?_)
   obtain rfl:=someI hj1
   exact ⟨hF.sub ⟨rfl,rfl,trivial⟩,hS⟩
 ·rintro a w ⟨hF,hS⟩
  refine n_sq ?_
  rcases bcase (t_2) with hc3 | hc3
  ·have hr:=cond_f hc3 hr
   refine q_cond_f hF rfl hc3 (q_skipc (n_sq (q_seq (q_seq (q_region (q_x (v:=s1.v) hF hS (ex_move rfl) rfl rfl fun a hF=>q_x (v:=(iV (goLen p_s))) hF hS (ex_len underlying26 rfl h1.len) rfl rfl fun a hF=>q_x (v:=(iV 0)) hF hS (ex_move rfl) rfl rfl fun a hF=>q_end (n_sq (q_block ?_))))))))
   obtain ⟨o4,hl4,hr⟩:=bindS hr
   refine q_loop (fun (t_3:Int) a w=>Fr a 51 [(0,s1.v),(15,s1.v),(16,(iV (goLen p_s))),(17,(iV t_3))]∧St [] w0 w m []) (fun (o:(Unit) ⊕ (Bool)) e a w=>o=.inl ()∧e=.exit 0∧Fr a 51 []∧St [] w0 w m []) hl4 ⟨hF.sub ⟨rfl,rfl,rfl,rfl,trivial⟩,hS⟩ ?_ ?_
   ·clear hF hS
    rintro t_3 a w st ⟨hF,hS⟩ hb4
    unfold impl_IsSchema_l1 at hb4
    refine q_seq (q_region (q_x (v:=(.bool (decide (t_3<(goLen p_s))))) hF hS (ex_ibin rfl rfl rfl) rfl rfl fun a hF=>q_end (n_sq (q_seq ?_))))
    rcases bcase (decide (t_3<(goLen p_s))) with hc5 | hc5
    ·have hb4:=cond_f hc5 hb4
     refine q_cond_f hF rfl hc5 (q_exit (x_sq ?_))
     obtain rfl:=someI hb4
     exact ⟨nofun,.inl ⟨rfl,rfl,hF.sub trivial,hS⟩⟩
    ·have hb4:=cond_t hc5 hb4
     refine q_cond_t hF rfl hc5 (q_skipc (n_sq (q_seq (q_block (q_seq (q_region (q_x (v:=(iV t_3)) hF hS (ex_move rfl) rfl rfl fun a hF=>?_)))))))
     obtain ⟨e_4,he_4,hb4⟩:=bindS hb4
     obtain ⟨vs5,at5,d5⟩:=h1.at he_4 2 rfl
     obtain rfl:vs5=[(strV e_4.Name),(iV e_4.Levels)]:=d5
     refine q_x (v:=(elP s1 (t_3.toNat * 2))) hF hS (ex_indexAddr underlying26 sz55 rfl rfl (h1.idx he_4)) rfl rfl fun a hF=>q_x (v:=(.agg #[(strV e_4.Name),(iV e_4.Levels)])) hF hS (ex_loadEA (us:=[(strV e_4.Name),(iV e_4.Levels)]) 0 underlying55 rfl sz55 rfl ((at5).at) rfl rfl rfl) rfl rfl fun a hF=>q_alloc (cs:=[(strV ([]:List UInt8)),(iV 0)]) hF hS rfl rfl rfl fun a w b6 hF hS=>q_x (v:=(iV t_3)) hF hS (ex_assign rfl) rfl rfl fun a hF=>q_store (vs:=[(strV e_4.Name),(iV e_4.Levels)]) (cs':=[(strV e_4.Name),(iV e_4.Levels)]) 0 0 hF hS sz55 rfl rfl rfl rfl rfl rfl rfl rfl fun a w hF hS=>q_end (n_sq (q_seq (q_seq ?_)))
     obtain ⟨t_8,hj6,hb4⟩:=bindS hb4
     refine q_join (fun a w=>Fr a 51 [(0,s1.v),(3,(iV t_3)),(4,(.pointer (some ⟨b6,0,none⟩))),(15,s1.v),(16,(iV (goLen p_s))),(17,(iV t_3)),(35,(.bool t_8))]∧St [] w0 w m [[⟨b6,[(strV e_4.Name),(iV e_4.Levels)],55⟩]]) ?_ ?_
     ·refine q_region (q_x (v:=(.pointer (some ⟨b6,0,none⟩))) hF hS (ex_fieldAddr underlying55 rfl sz9 rfl rfl) rfl rfl fun a hF=>q_x (v:=(strV e_4.Name)) hF hS (ex_load1 0 0 underlying9 rfl rfl rfl rfl) rfl rfl fun a hF=>?_)
      obtain ⟨t_7,ht_7,hj6⟩:=bindS hj6
      refine q_call (vs:=[(strV e_4.Name)]) hF hS func90 (by kernel_rfl) rfl rfl rfl (c_impl_isWord e_4.Name t_7 ht_7 _ m hS.vis) ?_
      rintro a w _ rfl hF hS
      refine q_x (v:=(.bool (!t_7))) hF hS (ex_not rfl) rfl rfl fun a hF=>q_x (v:=(.bool (!t_7))) hF hS (ex_move rfl) rfl rfl fun a hF=>?_
      rcases bcase (!t_7) with hc7 | hc7
      ·have hj6:=cond_f hc7 hj6
       refine q_xg (v:=(.pointer (some ⟨b6,1,none⟩))) hF hS (ex_fieldAddr underlying55 rfl sz3 rfl rfl) (wanted_t hF rfl rfl rfl hc7) rfl fun a hF=>q_xg (v:=(iV e_4.Levels)) hF hS (ex_load1 0 0 underlying3 rfl rfl rfl rfl) (wanted_t hF rfl rfl rfl hc7) rfl fun a hF=>q_xg (v:=(.bool (decide (e_4.Levels<2)))) hF hS (ex_ibin rfl rfl rfl) (wanted_t hF rfl rfl rfl hc7) rfl fun a hF=>q_x (v:=(.bool (decide (e_4.Levels<2)))) hF hS (ex_pick_f rfl rfl hc7) rfl rfl fun a hF=>q_x (v:=(.bool (decide (e_4.Levels<2)))) hF hS (ex_move rfl) rfl rfl fun a hF=>?_
       rcases bcase (decide (e_4.Levels<2)) with hc8 | hc8
       ·have hj6:=cond_f hc8 hj6
        refine q_xg (v:=(.pointer (some ⟨b6,1,none⟩))) hF hS (ex_fieldAddr underlying55 rfl sz3 rfl rfl) (wanted_t hF rfl rfl rfl hc8) rfl fun a hF=>q_xg (v:=(iV e_4.Levels)) hF hS (ex_load1 0 0 underlying3 rfl rfl rfl rfl) (wanted_t hF rfl rfl rfl hc8) rfl fun a hF=>q_xg (v:=(.bool (decide (8<e_4.Levels)))) hF hS (ex_ibin rfl rfl rfl) (wanted_t hF rfl rfl rfl hc8) rfl fun a hF=>q_x (v:=(.bool (decide (8<e_4.Levels)))) hF hS (ex_pick_f rfl rfl hc8) rfl rfl fun a hF=>q_end (n_jn ?_)
        obtain rfl:=someI hj6
        exact ⟨hF.sub ⟨rfl,rfl,rfl,rfl,rfl,rfl,rfl,trivial⟩,hS⟩
       ·have hj6:=cond_t hc8 hj6
        refine q_skip hF (wanted_f hF rfl rfl rfl hc8 rfl) rfl fun a hF=>q_skip hF (wanted_f hF rfl rfl rfl hc8 rfl) rfl fun a hF=>q_skip hF (wanted_f hF rfl rfl rfl hc8 rfl) rfl fun a hF=>q_x (v:=(.bool true)) hF hS (ex_pick_t rfl rfl hc8) rfl rfl fun a hF=>q_end (n_jn ?_)
        obtain rfl:=someI hj6
        exact ⟨hF.sub ⟨rfl,rfl,rfl,rfl,rfl,rfl,rfl,trivial⟩,hS⟩
      ·have hj6:=cond_t hc7 hj6
       refine q_skip hF (wanted_f hF rfl rfl rfl hc7 rfl) rfl fun a hF=>q_skip hF (wanted_f hF rfl rfl rfl hc7 rfl) rfl fun a hF=>q_skip hF (wanted_f hF rfl rfl rfl hc7 rfl) rfl fun a hF=>q_x (v:=(.bool true)) hF hS (ex_pick_t rfl rfl hc7) rfl rfl fun a hF=>q_x (v:=(.bool true)) hF hS (ex_move rfl) rfl rfl fun a hF=>q_skip hF (wanted_f hF rfl rfl rfl rfl rfl) rfl fun a hF=>q_skip hF (wanted_f hF rfl rfl rfl rfl rfl) rfl fun a hF=>q_skip hF (wanted_f hF rfl rfl rfl rfl rfl) rfl fun a hF=>q_x (v:=(.bool true)) hF hS (ex_pick_t rfl rfl rfl) rfl rfl fun a hF=>q_end (n_jn ?_)
       obtain rfl:=someI hj6
       exact ⟨hF.sub ⟨rfl,rfl,rfl,rfl,rfl,rfl,rfl,trivial⟩,hS⟩
     ·rintro a w ⟨hF,hS⟩
      refine n_sq ?_
      rcases bcase (t_8) with hc9 | hc9
      ·have hb4:=cond_f hc9 hb4
       refine q_cond_f hF rfl hc9 (q_skipc (n_sq (q_seq (q_region (q_x (v:=s1.v) hF hS (ex_move rfl) rfl rfl fun a hF=>q_x (v:=(iV t_3)) hF hS (ex_move rfl) rfl rfl fun a hF=>?_)))))
       obtain ⟨l_9,hl_9,hb4⟩:=bindS hb4
       have h10:Rd m (subS s1 2 (0:Int).toNat t_3.toNat s1.cap) l_9:=h1.sub' hl_9 2 rfl
       refine q_x (v:=(subS s1 2 (0:Int).toNat t_3.toNat s1.cap).v) hF hS (ex_slice underlying26 sz55 rfl rfl rfl (.inl ⟨rfl,rfl⟩) (.inr ⟨_,rfl⟩) (h1.subok hl_9)) rfl rfl fun a hF=>q_x (v:=(iV (goLen l_9))) hF hS (ex_len underlying26 rfl h10.len) rfl rfl fun a hF=>q_x (v:=(iV 0)) hF hS (ex_move rfl) rfl rfl fun a hF=>q_end (n_sq (q_block ?_))
       obtain ⟨o10,hl10,hb4⟩:=bindS hb4
       refine q_loop (fun (t_11:Int) a w=>Fr a 51 [(0,s1.v),(4,(.pointer (some ⟨b6,0,none⟩))),(15,s1.v),(16,(iV (goLen p_s))),(17,(iV t_3)),(38,(subS s1 2 (0:Int).toNat t_3.toNat s1.cap).v),(39,(iV (goLen l_9))),(40,(iV t_11))]∧St [] w0 w m [[⟨b6,[(strV e_4.Name),(iV e_4.Levels)],55⟩]]) (fun (o:(Unit) ⊕ (Stp (Int) ((Unit) ⊕ (Bool)))) e a w=>o=.inl ()∧e=.exit 2∧Fr a 51 [(0,s1.v),(15,s1.v),(16,(iV (goLen p_s))),(17,(iV t_3))]∧St [] w0 w m []) hl10 ⟨hF.sub ⟨rfl,rfl,rfl,rfl,rfl,rfl,rfl,rfl,trivial⟩,hS⟩ ?_ ?_
       ·clear hF hS
        rintro t_11 a w st ⟨hF,hS⟩ hb10
        unfold impl_IsSchema_l2 at hb10
        refine q_seq (q_region (q_x (v:=(.bool (decide (t_11<(goLen l_9))))) hF hS (ex_ibin rfl rfl rfl) rfl rfl fun a hF=>q_end (n_sq (q_seq ?_))))
        rcases bcase (decide (t_11<(goLen l_9))) with hc11 | hc11
        ·have hb10:=cond_f hc11 hb10
         refine q_cond_f hF rfl hc11 (q_exit (x_sq ?_))
         obtain rfl:=someI hb10
         exact ⟨nofun,.inl ⟨rfl,rfl,hF.sub ⟨rfl,rfl,rfl,rfl,trivial⟩,hS.mask [false]⟩⟩
        ·have hb10:=cond_t hc11 hb10
         refine q_cond_t hF rfl hc11 (q_skipc (n_sq (q_seq (q_block (q_seq (q_region ?_))))))
         obtain ⟨e_12,he_12,hb10⟩:=bindS hb10
         obtain ⟨vs13,at13,d13⟩:=h10.at he_12 2 rfl
         obtain rfl:vs13=[(strV e_12.Name),(iV e_12.Levels)]:=d13
         refine q_x (v:=(elP (subS s1 2 (0:Int).toNat t_3.toNat s1.cap) (t_11.toNat * 2))) hF hS (ex_indexAddr underlying26 sz55 rfl rfl (h10.idx he_12)) rfl rfl fun a hF=>q_x (v:=(.agg #[(strV e_12.Name),(iV e_12.Levels)])) hF hS (ex_loadEA (us:=[(strV e_12.Name),(iV e_12.Levels)]) 0 underlying55 rfl sz55 rfl ((at13).at) rfl rfl rfl) rfl rfl fun a hF=>q_alloc (cs:=[(strV ([]:List UInt8)),(iV 0)]) hF hS rfl rfl rfl fun a w b14 hF hS=>q_store (vs:=[(strV e_12.Name),(iV e_12.Levels)]) (cs':=[(strV e_12.Name),(iV e_12.Levels)]) 0 0 hF hS sz55 rfl rfl rfl rfl rfl rfl rfl rfl fun a w hF hS=>q_end (n_sq (q_seq (q_region (q_x (v:=(.pointer (some ⟨b14,0,none⟩))) hF hS (ex_fieldAddr underlying55 rfl sz9 rfl rfl) rfl rfl fun a hF=>q_x (v:=(strV e_12.Name)) hF hS (ex_load1 0 0 underlying9 rfl rfl rfl rfl) rfl rfl fun a hF=>q_x (v:=(.pointer (some ⟨b6,0,none⟩))) hF hS (ex_fieldAddr underlying55 rfl sz9 rfl rfl) rfl rfl fun a hF=>q_x (v:=(strV e_4.Name)) hF hS (ex_load1 1 0 underlying9 rfl rfl rfl rfl) rfl rfl fun a hF=>q_x (v:=(.bool (e_12.Name == e_4.Name))) hF hS (ex_strEq rfl rfl) rfl rfl fun a hF=>q_end (n_sq ?_)))))
         rcases bcase (e_12.Name == e_4.Name) with hc12 | hc12
         ·have hb10:=cond_f hc12 hb10
          refine q_cond_f hF rfl hc12 (q_skipc (n_ib (n_sq (q_region (q_x (v:=(iV (w64 (t_11 + 1)))) hF hS (ex_ibin rfl rfl rfl) rfl rfl fun a hF=>q_x (v:=(iV (w64 (t_11 + 1)))) hF hS (ex_move rfl) rfl rfl fun a hF=>q_end ?_)))))
          obtain rfl:=someI hb10
          exact ⟨rfl,hF.sub ⟨rfl,rfl,rfl,rfl,rfl,rfl,rfl,rfl,trivial⟩,hS.mask [false,true]⟩
         ·have hb10:=cond_t hc12 hb10
          refine q_cond_t hF rfl hc12 (q_seq (q_region (q_x (v:=(.bool false)) hF hS (ex_assign rfl) rfl rfl fun a hF=>q_end (n_sq (q_ret (r_ib (r_sq ?_)))))))
          obtain rfl:=someI hb10
          refine ⟨nofun,.inr fun ho=>?_⟩
          subst ho
          refine r_ib (r_ib (r_sq ?_))
          obtain rfl:=someI hb4
          refine ⟨nofun,.inr fun ho=>?_⟩
          subst ho
          refine r_ib (r_sq ?_)
          obtain rfl:=someI hr
          exact ret_of hF hS rfl (.tmp rfl .nil) rfl
       ·rintro e a w ⟨rfl,rfl,hF,hS⟩
        refine x_ib (n_ib (n_sq ?_))
        refine q_region (q_x (v:=(iV (w64 (t_3 + 1)))) hF hS (ex_ibin rfl rfl rfl) rfl rfl fun a hF=>q_x (v:=(iV (w64 (t_3 + 1)))) hF hS (ex_move rfl) rfl rfl fun a hF=>q_end ?_)
        obtain rfl:=someI hb4
        exact ⟨rfl,hF.sub ⟨rfl,rfl,rfl,rfl,trivial⟩,hS⟩
      ·have hb4:=cond_t hc9 hb4
       refine q_cond_t hF rfl hc9 (q_seq (q_region (q_x (v:=(.bool false)) hF hS (ex_assign rfl) rfl rfl fun a hF=>q_end (n_sq (q_ret (r_sq (r_ib (r_sq ?_))))))))
       obtain rfl:=someI hb4
       refine ⟨nofun,.inr fun ho=>?_⟩
       subst ho
       refine r_ib (r_sq ?_)
       obtain rfl:=someI hr
       exact ret_of hF hS rfl (.tmp rfl .nil) rfl
   ·rintro e a w ⟨rfl,rfl,hF,hS⟩
    refine x_ib (n_sq ?_)
    refine q_seq (q_region (q_x (v:=(.bool true)) hF hS (ex_assign rfl) rfl rfl fun a hF=>q_end (n_sq (q_ret ?_))))
    obtain rfl:=someI hr
    exact ret_of hF hS rfl (.tmp rfl .nil) rfl
  ·have hr:=cond_t hc3 hr
   refine q_cond_t hF rfl hc3 (q_seq (q_region (q_x (v:=(.bool false)) hF hS (ex_assign rfl) rfl rfl fun a hF=>q_end (n_sq (q_ret (r_sq ?_))))))
   obtain rfl:=someI hr
   exact ret_of hF hS rfl (.tmp rfl .nil) rfl

theorem c_impl_areVars (p_s:List impl_Variable) (p_vars:List Int) (r:Bool) (hr:impl_areVars p_s p_vars=some r) (w0:World) (m:Mem) (hv:Vis m w0) (s1:Sl) (h1:Rd m s1 p_s) (s2:Sl) (h2:Rd m s2 p_vars) :
  Ret prog 91 [s1.v,s2.v] w0 (fun v _=>v=(.bool r)):=by
 unfold impl_areVars at hr
 refine ret_start func91 rfl 25 rfl rfl m hv fun a hF hS=>q_seq (q_region (q_x (v:=(.bool false)) hF hS (ex_assign rfl) rfl rfl fun a hF=>q_end (n_sq (q_seq (q_region (q_x (v:=(iV (-1))) hF hS (ex_assign rfl) rfl rfl fun a hF=>q_end (n_sq (q_seq (q_seq (q_region (q_x (v:=s2.v) hF hS (ex_move rfl) rfl rfl fun a hF=>q_x (v:=(iV (goLen p_vars))) hF hS (ex_len underlying23 rfl h2.len) rfl rfl fun a hF=>q_x (v:=(iV 0)) hF hS (ex_move rfl) rfl rfl fun a hF=>q_end (n_sq (q_block ?_)))))))))))))
 obtain ⟨o1,hl1,hr⟩:=bindS hr
 refine q_loop (fun (s:Int × Int) a w=>∃ last_3,∃ t_4,s=(last_3,t_4)∧Fr a 25 [(0,s1.v),(5,(iV last_3)),(8,s2.v),(9,(iV (goLen p_vars))),(10,(iV t_4))]∧St [] w0 w m []) (fun (o:(Unit) ⊕ (Bool)) e a w=>o=.inl ()∧e=.exit 0∧Fr a 25 []∧St [] w0 w m []) hl1 ⟨_,_,rfl,hF.sub ⟨rfl,rfl,rfl,rfl,rfl,trivial⟩,hS⟩ ?_ ?_
 ·clear hF hS
  rintro s a w st ⟨last_3,t_4,rfl,hF,hS⟩ hb1
  unfold impl_areVars_l1 at hb1
  refine q_seq (q_region (q_x (v:=(.bool (decide (t_4<(goLen p_vars))))) hF hS (ex_ibin rfl rfl rfl) rfl rfl fun a hF=>q_end (n_sq (q_seq ?_))))
  rcases bcase (decide (t_4<(goLen p_vars))) with hc2 | hc2
  ·have hb1:=cond_f hc2 hb1
   refine q_cond_f hF rfl hc2 (q_exit (x_sq ?_))
   obtain rfl:=someI hb1
   exact ⟨nofun,.inl ⟨rfl,rfl,hF.sub trivial,hS⟩⟩
  ·have hb1:=cond_t hc2 hb1
   refine q_cond_t hF rfl hc2 (q_skipc (n_sq (q_seq (q_block (q_seq (q_region ?_))))))
   obtain ⟨e_5,he_5,hb1⟩:=bindS hb1
   obtain ⟨vs6,at6,d6⟩:=h2.at he_5 1 rfl
   obtain rfl:vs6=[(iV e_5)]:=d6
   refine q_x (v:=(elP s2 (t_4.toNat * 1))) hF hS (ex_indexAddr underlying23 sz3 rfl rfl (h2.idx he_5)) rfl rfl fun a hF=>q_x (v:=(iV e_5)) hF hS (ex_loadE1 0 underlying3 rfl rfl ((at6).at) rfl rfl) rfl rfl fun a hF=>q_x (v:=(iV e_5)) hF hS (ex_assign rfl) rfl rfl fun a hF=>q_end (n_sq (q_seq (q_seq ?_)))
   obtain ⟨t_7,hj3,hb1⟩:=bindS hb1
   refine q_join (fun a w=>Fr a 25 [(0,s1.v),(7,(iV e_5)),(8,s2.v),(9,(iV (goLen p_vars))),(10,(iV t_4)),(22,(.bool t_7))]∧St [] w0 w m []) ?_ ?_
   ·refine q_region (q_x (v:=(iV e_5)) hF hS (ex_move rfl) rfl rfl fun a hF=>q_x (v:=(iV last_3)) hF hS (ex_move rfl) rfl rfl fun a hF=>q_x (v:=(.bool (decide (e_5≤last_3)))) hF hS (ex_ibin rfl rfl rfl) rfl rfl fun a hF=>q_x (v:=(.bool (decide (e_5≤last_3)))) hF hS (ex_move rfl) rfl rfl fun a hF=>?_)
    rcases bcase (decide (e_5≤last_3)) with hc4 | hc4
    ·have hj3:=cond_f hc4 hj3
     refine q_xg (v:=(iV e_5)) hF hS (ex_move rfl) (wanted_t hF rfl rfl rfl hc4) rfl fun a hF=>q_xg (v:=s1.v) hF hS (ex_move rfl) (wanted_t hF rfl rfl rfl hc4) rfl fun a hF=>q_xg (v:=(iV (goLen p_s))) hF hS (ex_len underlying26 rfl h1.len) (wanted_t hF rfl rfl rfl hc4) rfl fun a hF=>q_xg (v:=(.bool (decide ((goLen p_s)≤e_5)))) hF hS (ex_ibin rfl rfl rfl) (wanted_t hF rfl rfl rfl hc4) rfl fun a hF=>q_x (v:=(.bool (decide ((goLen p_s)≤e_5)))) hF hS (ex_pick_f rfl rfl hc4) rfl rfl fun a hF=>q_end (n_jn ?_)
     obtain rfl:=someI hj3
     exact ⟨hF.sub ⟨rfl,rfl,rfl,rfl,rfl,rfl,trivial⟩,hS⟩
    ·have hj3:=cond_t hc4 hj3
     refine q_skip hF (wanted_f hF rfl rfl rfl hc4 rfl) rfl fun a hF=>q_skip hF (wanted_f hF rfl rfl rfl hc4 rfl) rfl fun a hF=>q_skip hF (wanted_f hF rfl rfl rfl hc4 rfl) rfl fun a hF=>q_skip hF (wanted_f hF rfl rfl rfl hc4 rfl) rfl fun a hF=>q_x (v:=(.bool true)) hF hS (ex_pick_t rfl rfl hc4) rfl rfl fun a hF=>q_end (n_jn ?_)
     obtain rfl:=someI hj3
     exact ⟨hF.sub ⟨rfl,rfl,rfl,rfl,rfl,rfl,trivial⟩,hS⟩
   ·rintro a w ⟨hF,hS⟩
    refine n_sq ?_
    rcases bcase (t_7) with hc5 | hc5
    ·have hb1:=cond_f hc5 hb1
     refine q_cond_f hF rfl hc5 (q_skipc (n_sq (q_region (q_x (v:=(iV e_5)) hF hS (ex_move rfl) rfl rfl fun a hF=>q_x (v:=(iV e_5)) hF hS (ex_assign rfl) rfl rfl fun a hF=>q_end (n_ib (n_sq (q_region (q_x (v:=(iV (w64 (t_4 + 1)))) hF hS (ex_ibin rfl rfl rfl) rfl rfl fun a hF=>q_x (v:=(iV (w64 (t_4 + 1)))) hF hS (ex_move rfl) rfl rfl fun a hF=>q_end ?_))))))))
     obtain rfl:=someI hb1
     exact ⟨rfl,_,_,rfl,hF.sub ⟨rfl,rfl,rfl,rfl,rfl,trivial⟩,hS⟩
    ·have hb1:=cond_t hc5 hb1
     refine q_cond_t hF rfl hc5 (q_seq (q_region (q_x (v:=(.bool false)) hF hS (ex_assign rfl) rfl rfl fun a hF=>q_end (n_sq (q_ret (r_sq (r_ib (r_sq ?_))))))))
     obtain rfl:=someI hb1
     refine ⟨nofun,.inr fun ho=>?_⟩
     subst ho
     refine r_ib (r_sq ?_)
     obtain rfl:=someI hr
     exact ret_of hF hS rfl (.tmp rfl .nil) rfl
 ·rintro e a w ⟨rfl,rfl,hF,hS⟩
  refine x_ib (n_sq ?_)
  refine q_seq (q_region (q_x (v:=(.bool true)) hF hS (ex_assign rfl) rfl rfl fun a hF=>q_end (n_sq (q_ret ?_))))
  obtain rfl:=someI hr
  exact ret_of hF hS rfl (.tmp rfl .nil) rfl

theorem c_impl_fullSet (p_v:impl_Variable) (r:Int) (hr:impl_fullSet p_v=some r) (w0:World) (m:Mem) (hv:Vis m w0) :
  Ret prog 116 [(.agg #[(strV p_v.Name),(iV p_v.Levels)])] w0 (fun v _=>v=(iV r)):=by
 unfold impl_fullSet at hr
 refine ret_start func116 rfl 7 rfl rfl m hv fun a hF hS=>q_seq (q_region (q_box (cs:=[(strV p_v.Name),(iV p_v.Levels)]) hF hS rfl rfl rfl fun a w b1 hF hS=>q_x (v:=(iV 0)) hF hS (ex_assign rfl) rfl rfl fun a hF=>q_end (n_sq (q_seq (q_region (q_x (v:=(.pointer (some ⟨b1,1,none⟩))) hF hS (ex_fieldAddr underlying55 rfl sz3 rfl rfl) rfl rfl fun a hF=>q_x (v:=(iV p_v.Levels)) hF hS (ex_load1 0 0 underlying3 rfl rfl rfl rfl) rfl rfl fun a hF=>?_))))))
 obtain ⟨t_2,ht_2,hr⟩:=bindS hr
 refine q_x (v:=(iV t_2)) hF hS (ex_shl rfl rfl ht_2) rfl rfl fun a hF=>q_x (v:=(iV (w64 (t_2 - 1)))) hF hS (ex_ibin rfl rfl rfl) rfl rfl fun a hF=>q_x (v:=(iV (w64 (t_2 - 1)))) hF hS (ex_assign rfl) rfl rfl fun a hF=>q_end (n_sq (q_ret ?_))
 obtain rfl:=someI hr
 exact ret_of hF hS rfl (.tmp rfl .nil) rfl

theorem c_impl_isWhere (p_s:List impl_Variable) (p_where:List Int) (r:Bool) (hr:impl_isWhere p_s p_where=some r) (w0:World) (m:Mem) (hv:Vis m w0) (s1:Sl) (h1:Rd m s1 p_s) (s2:Sl) (h2:Rd m s2 p_where) :
  Ret prog 92 [s1.v,s2.v] w0 (fun v _=>v=(.bool r)):=by
 unfold impl_isWhere at hr
 refine ret_start func92 rfl 31 rfl rfl m hv fun a hF hS=>q_seq (q_region (q_x (v:=(.bool false)) hF hS (ex_assign rfl) rfl rfl fun a hF=>q_end (n_sq (q_seq (q_seq (q_region (q_x (v:=s2.v) hF hS (ex_move rfl) rfl rfl fun a hF=>q_x (v:=(iV (goLen p_where))) hF hS (ex_len underlying23 rfl h2.len) rfl rfl fun a hF=>q_x (v:=s1.v) hF hS (ex_move rfl) rfl rfl fun a hF=>q_x (v:=(iV (goLen p_s))) hF hS (ex_len underlying26 rfl h1.len) rfl rfl fun a hF=>q_x (v:=(.bool ((goLen p_where) != (goLen p_s)))) hF hS (ex_ibin rfl rfl rfl) rfl rfl fun a hF=>q_end (n_sq ?_))))))))
 rcases bcase ((goLen p_where) != (goLen p_s)) with hc1 | hc1
 ·have hr:=cond_f hc1 hr
  refine q_cond_f hF rfl hc1 (q_skipc (n_sq (q_seq (q_seq (q_region (q_x (v:=s2.v) hF hS (ex_move rfl) rfl rfl fun a hF=>q_x (v:=(iV (goLen p_where))) hF hS (ex_len underlying23 rfl h2.len) rfl rfl fun a hF=>q_x (v:=(iV 0)) hF hS (ex_move rfl) rfl rfl fun a hF=>q_end (n_sq (q_block ?_))))))))
  obtain ⟨o2,hl2,hr⟩:=bindS hr
  refine q_loop (fun (t_3:Int) a w=>Fr a 31 [(0,s1.v),(12,s2.v),(13,(iV (goLen p_where))),(14,(iV t_3))]∧St [] w0 w m []) (fun (o:(Unit) ⊕ (Bool)) e a w=>o=.inl ()∧e=.exit 0∧Fr a 31 []∧St [] w0 w m []) hl2 ⟨hF.sub ⟨rfl,rfl,rfl,rfl,trivial⟩,hS⟩ ?_ ?_
  ·clear hF hS
   rintro t_3 a w st ⟨hF,hS⟩ hb2
   unfold impl_isWhere_l1 at hb2
   refine q_seq (q_region (q_x (v:=(.bool (decide (t_3<(goLen p_where))))) hF hS (ex_ibin rfl rfl rfl) rfl rfl fun a hF=>q_end (n_sq (q_seq ?_))))
   rcases bcase (decide (t_3<(goLen p_where))) with hc3 | hc3
   ·have hb2:=cond_f hc3 hb2
    refine q_cond_f hF rfl hc3 (q_exit (x_sq ?_))
    obtain rfl:=someI hb2
    exact ⟨nofun,.inl ⟨rfl,rfl,hF.sub trivial,hS⟩⟩
   ·have hb2:=cond_t hc3 hb2
    refine q_cond_t hF rfl hc3 (q_skipc (n_sq (q_seq (q_block (q_seq (q_region (q_x (v:=(iV t_3)) hF hS (ex_move rfl) rfl rfl fun a hF=>?_)))))))
    obtain ⟨e_4,he_4,hb2⟩:=bindS hb2
    obtain ⟨vs5,at5,d5⟩:=h2.at he_4 1 rfl
    obtain rfl:vs5=[(iV e_4)]:=d5
    refine q_x (v:=(elP s2 (t_3.toNat * 1))) hF hS (ex_indexAddr underlying23 sz3 rfl rfl (h2.idx he_4)) rfl rfl fun a hF=>q_x (v:=(iV e_4)) hF hS (ex_loadE1 0 underlying3 rfl rfl ((at5).at) rfl rfl) rfl rfl fun a hF=>q_x (v:=(iV t_3)) hF hS (ex_assign rfl) rfl rfl fun a hF=>q_x (v:=(iV e_4)) hF hS (ex_assign rfl) rfl rfl fun a hF=>q_end (n_sq (q_seq ?_))
    obtain ⟨t_9,hj4,hb2⟩:=bindS hb2
    refine q_join (fun a w=>Fr a 31 [(0,s1.v),(12,s2.v),(13,(iV (goLen p_where))),(14,(iV t_3)),(29,(.bool t_9))]∧St [] w0 w m []) ?_ ?_
    ·refine q_region (q_x (v:=(iV e_4)) hF hS (ex_move rfl) rfl rfl fun a hF=>q_x (v:=(.bool (decide (e_4<0)))) hF hS (ex_ibin rfl rfl rfl) rfl rfl fun a hF=>q_x (v:=(.bool (decide (e_4<0)))) hF hS (ex_move rfl) rfl rfl fun a hF=>?_)
     rcases bcase (decide (e_4<0)) with hc5 | hc5
     ·have hj4:=cond_f hc5 hj4
      refine q_xg (v:=(iV e_4)) hF hS (ex_move rfl) (wanted_t hF rfl rfl rfl hc5) rfl fun a hF=>q_xg (v:=s1.v) hF hS (ex_move rfl) (wanted_t hF rfl rfl rfl hc5) rfl fun a hF=>q_xg (v:=(iV t_3)) hF hS (ex_move rfl) (wanted_t hF rfl rfl rfl hc5) rfl fun a hF=>?_
      obtain ⟨e_6,he_6,hj4⟩:=bindS hj4
      obtain ⟨vs7,at7,d7⟩:=h1.at he_6 2 rfl
      obtain rfl:vs7=[(strV e_6.Name),(iV e_6.Levels)]:=d7
      refine q_xg (v:=(elP s1 (t_3.toNat * 2))) hF hS (ex_indexAddr underlying26 sz55 rfl rfl (h1.idx he_6)) (wanted_t hF rfl rfl rfl hc5) rfl fun a hF=>q_xg (v:=(.agg #[(strV e_6.Name),(iV e_6.Levels)])) hF hS (ex_loadEA (us:=[(strV e_6.Name),(iV e_6.Levels)]) 0 underlying55 rfl sz55 rfl ((at7).at) rfl rfl rfl) (wanted_t hF rfl rfl rfl hc5) rfl fun a hF=>?_
      obtain ⟨t_8,ht_8,hj4⟩:=bindS hj4
      refine q_callg (vs:=[(.agg #[(strV e_6.Name),(iV e_6.Levels)])]) hF hS (wanted_t hF rfl rfl rfl hc5) func116 (by kernel_rfl) rfl rfl rfl (c_impl_fullSet e_6 t_8 ht_8 _ m hS.vis) ?_
      rintro a w _ rfl hF hS
      refine q_xg (v:=(.bool (decide (t_8<e_4)))) hF hS (ex_ibin rfl rfl rfl) (wanted_t hF rfl rfl rfl hc5) rfl fun a hF=>q_x (v:=(.bool (decide (t_8<e_4)))) hF hS (ex_pick_f rfl rfl hc5) rfl rfl fun a hF=>q_end (n_jn ?_)
      obtain rfl:=someI hj4
      exact ⟨hF.sub ⟨rfl,rfl,rfl,rfl,rfl,trivial⟩,hS⟩
     ·have hj4:=cond_t hc5 hj4
      refine q_skip hF (wanted_f hF rfl rfl rfl hc5 rfl) rfl fun a hF=>q_skip hF (wanted_f hF rfl rfl rfl hc5 rfl) rfl fun a hF=>q_skip hF (wanted_f hF rfl rfl rfl hc5 rfl) rfl fun a hF=>q_skip hF (wanted_f hF rfl rfl rfl hc5 rfl) rfl fun a hF=>q_skip hF (wanted_f hF rfl rfl rfl hc5 rfl) rfl fun a hF=>q_skip hF (wanted_f hF rfl rfl rfl hc5 rfl) rfl fun a hF=>q_skip hF (wanted_f hF rfl rfl rfl hc5 rfl) rfl fun a hF=>q_x (v:=(.bool true)) hF hS (ex_pick_t rfl rfl hc5) rfl rfl fun a hF=>q_end (n_jn ?_)
      obtain rfl:=someI hj4
      exact ⟨hF.sub ⟨rfl,rfl,rfl,rfl,rfl,trivial⟩,hS⟩
    ·rintro a w ⟨hF,hS⟩
     refine n_sq ?_
     rcases bcase (t_9) with hc6 | hc6
     ·have hb2:=cond_f hc6 hb2
      refine q_cond_f hF rfl hc6 (q_skipc (n_ib (n_sq (q_region (q_x (v:=(iV (w64 (t_3 + 1)))) hF hS (ex_ibin rfl rfl rfl) rfl rfl fun a hF=>q_x (v:=(iV (w64 (t_3 + 1)))) hF hS (ex_move rfl) rfl rfl fun a hF=>q_end ?_)))))
      obtain rfl:=someI hb2
      exact ⟨rfl,hF.sub ⟨rfl,rfl,rfl,rfl,trivial⟩,hS⟩
     ·have hb2:=cond_t hc6 hb2
      refine q_cond_t hF rfl hc6 (q_seq (q_region (q_x (v:=(.bool false)) hF hS (ex_assign rfl) rfl rfl fun a hF=>q_end (n_sq (q_ret (r_ib (r_sq ?_)))))))
      obtain rfl:=someI hb2
      refine ⟨nofun,.inr fun ho=>?_⟩
      subst ho
      refine r_ib (r_sq ?_)
      obtain rfl:=someI hr
      exact ret_of hF hS rfl (.tmp rfl .nil) rfl
  ·rintro e a w ⟨rfl,rfl,hF,hS⟩
   refine x_ib (n_sq ?_)
   refine q_seq (q_region (q_x (v:=(.bool true)) hF hS (ex_assign rfl) rfl rfl fun a hF=>q_end (n_sq (q_ret ?_))))
   obtain rfl:=someI hr
   exact ret_of hF hS rfl (.tmp rfl .nil) rfl
 ·have hr:=cond_t hc1 hr
  refine q_cond_t hF rfl hc1 (q_seq (q_region (q_x (v:=(.bool false)) hF hS (ex_assign rfl) rfl rfl fun a hF=>q_end (n_sq (q_ret (r_sq ?_))))))
  obtain rfl:=someI hr
  exact ret_of hF hS rfl (.tmp rfl .nil) rfl

theorem c_impl_depthOf (p_g:impl_Geo) (p_i:Int) (r:Int) (hr:impl_depthOf p_g p_i=some r) (w0:World) (m:Mem) (hv:Vis m w0) (s1:Sl) (h1:Rd m s1 p_g.Parents) :
  Ret prog 59 [(.agg #[s1.v]),(iV p_i)] w0 (fun v _=>v=(iV r)):=by
 unfold impl_depthOf at hr
 refine ret_start func59 rfl 16 rfl rfl m hv fun a hF hS=>q_seq (q_region (q_box (cs:=[s1.v]) hF hS rfl rfl rfl fun a w b2 hF hS=>q_x (v:=(iV 0)) hF hS (ex_assign rfl) rfl rfl fun a hF=>q_end (n_sq (q_seq (q_region (q_x (v:=(iV 0)) hF hS (ex_assign rfl) rfl rfl fun a hF=>q_end (n_sq (q_seq (q_block ?_)))))))))
 obtain ⟨d_7,hl1,hr⟩:=bindS hr
 refine q_loop (fun (s:Int × Int) a w=>∃ i_3,∃ d_4,s=(i_3,d_4)∧Fr a 16 [(1,(iV i_3)),(2,(.pointer (some ⟨b2,0,none⟩))),(5,(iV d_4))]∧St [] w0 w m [[⟨b2,[s1.v],25⟩]]) (fun (d_7:Int) e a w=>e=.exit 0∧Fr a 16 [(5,(iV d_7))]∧St [] w0 w m []) hl1 ⟨_,_,rfl,hF.sub ⟨rfl,rfl,rfl,trivial⟩,hS⟩ ?_ ?_
 ·clear hF hS
  rintro s a w st ⟨i_3,d_4,rfl,hF,hS⟩ hb1
  unfold impl_depthOf_l1 at hb1
  refine q_seq (q_seq (q_region (q_x (v:=(iV i_3)) hF hS (ex_move rfl) rfl rfl fun a hF=>q_x (v:=(.bool (decide (0<i_3)))) hF hS (ex_ibin rfl rfl rfl) rfl rfl fun a hF=>q_end (n_sq ?_))))
  rcases bcase (decide (0<i_3)) with hc2 | hc2
  ·have hb1:=cond_f hc2 hb1
   refine q_cond_f hF rfl hc2 (q_exit (x_sq ?_))
   obtain rfl:=someI hb1
   exact ⟨nofun,.inl ⟨rfl,hF.sub ⟨rfl,trivial⟩,hS.mask [false]⟩⟩
  ·have hb1:=cond_t hc2 hb1
   refine q_cond_t hF rfl hc2 (q_skipc (n_sq (q_block (q_seq (q_region (q_x (v:=(.pointer (some ⟨b2,0,none⟩))) hF hS (ex_fieldAddr underlying25 rfl sz23 rfl rfl) rfl rfl fun a hF=>q_x (v:=s1.v) hF hS (ex_load1 0 0 underlying23 rfl rfl rfl rfl) rfl rfl fun a hF=>q_x (v:=(iV i_3)) hF hS (ex_move rfl) rfl rfl fun a hF=>?_))))))
   obtain ⟨e_5,he_5,hb1⟩:=bindS hb1
   obtain ⟨vs6,at6,d6⟩:=h1.at he_5 1 rfl
   obtain rfl:vs6=[(iV e_5)]:=d6
   refine q_x (v:=(elP s1 (i_3.toNat * 1))) hF hS (ex_indexAddr underlying23 sz3 rfl rfl (h1.idx he_5)) rfl rfl fun a hF=>q_x (v:=(iV e_5)) hF hS (ex_loadE1 0 underlying3 rfl rfl ((at6).at) rfl rfl) rfl rfl fun a hF=>q_x (v:=(iV e_5)) hF hS (ex_assign rfl) rfl rfl fun a hF=>q_end (n_sq (q_region (q_x (v:=(iV d_4)) hF hS (ex_move rfl) rfl rfl fun a hF=>q_x (v:=(iV (w64 (d_4 + 1)))) hF hS (ex_ibin rfl rfl rfl) rfl rfl fun a hF=>q_x (v:=(iV (w64 (d_4 + 1)))) hF hS (ex_assign rfl) rfl rfl fun a hF=>q_end (n_ib ?_))))
   obtain rfl:=someI hb1
   exact ⟨rfl,_,_,rfl,hF.sub ⟨rfl,rfl,rfl,trivial⟩,hS⟩
 ·rintro e a w ⟨rfl,hF,hS⟩
  refine x_ib (n_sq ?_)
  refine q_seq (q_region (q_x (v:=(iV d_7)) hF hS (ex_move rfl) rfl rfl fun a hF=>q_x (v:=(iV d_7)) hF hS (ex_assign rfl) rfl rfl fun a hF=>q_end (n_sq (q_ret ?_))))
  obtain rfl:=someI hr
  exact ret_of hF hS rfl (.tmp rfl .nil) rfl

theorem c_impl_areasAt (p_g:impl_Geo) (p_level:Int) (r:(List Int)) (hr:impl_areasAt p_g p_level=some r) (w0:World) (m:Mem) (hv:Vis m w0) (s1:Sl) (h1:Rd m s1 p_g.Parents) :
  Ret prog 20 [(.agg #[s1.v]),(iV p_level)] w0 (fun v w=>∃ (q0':Piece) (s0':Sl),v=s0'.v∧St [] w0 w m [q0']∧OwnL m 3 q0' s0' r):=by
 unfold impl_areasAt at hr
 refine ret_start func20 rfl 24 rfl rfl m hv fun a hF hS=>q_seq (q_region (q_box (cs:=[s1.v]) hF hS rfl rfl rfl fun a w b2 hF hS=>q_x (v:=nilS.v) hF hS (ex_assign rfl) rfl rfl fun a hF=>q_end (n_sq (q_seq (q_region (q_x (v:=nilS.v) hF hS (ex_assign rfl) rfl rfl fun a hF=>q_end (n_sq (q_seq (q_seq (q_region (q_x (v:=(.pointer (some ⟨b2,0,none⟩))) hF hS (ex_fieldAddr underlying25 rfl sz23 rfl rfl) rfl rfl fun a hF=>q_x (v:=s1.v) hF hS (ex_load1 0 0 underlying23 rfl rfl rfl rfl) rfl rfl fun a hF=>q_x (v:=(iV (goLen p_g.Parents))) hF hS (ex_len underlying23 rfl h1.len) rfl rfl fun a hF=>q_x (v:=(iV 0)) hF hS (ex_move rfl) rfl rfl fun a hF=>q_end (n_sq (q_block ?_)))))))))))))
 obtain ⟨list_12,hl1,hr⟩:=bindS hr
 refine q_loop (fun (s:(List Int) × Int) a w=>∃ (q4:Piece),∃ (s4:Sl),∃ list_3,∃ t_5,s=(list_3,t_5)∧Fr a 24 [(1,(iV p_level)),(2,(.pointer (some ⟨b2,0,none⟩))),(5,s4.v),(9,(iV (goLen p_g.Parents))),(10,(iV t_5))]∧St [] w0 w m [q4,[⟨b2,[s1.v],25⟩]]∧OwnL m 3 q4 s4 list_3) (fun (list_12:(List Int)) e a w=>∃ (q13:Piece),∃ (s13:Sl),e=.exit 0∧Fr a 24 [(5,s13.v)]∧St [] w0 w m [q13]∧OwnL m 3 q13 s13 list_12) hl1 ⟨[],nilS,_,_,rfl,hF.sub ⟨rfl,rfl,rfl,rfl,rfl,trivial⟩,hS.sel [1,0] (by decide),(OwnL.nil (α:=Int) m 3)⟩ ?_ ?_
 ·clear hF hS
  rintro s a w st ⟨q4,s4,list_3,t_5,rfl,hF,hS,h4⟩ hb1
  unfold impl_areasAt_l1 at hb1
  refine q_seq (q_region (q_x (v:=(.bool (decide (t_5<(goLen p_g.Parents))))) hF hS (ex_ibin rfl rfl rfl) rfl rfl fun a hF=>q_end (n_sq (q_seq ?_))))
  rcases bcase (decide (t_5<(goLen p_g.Parents))) with hc2 | hc2
  ·have hb1:=cond_f hc2 hb1
   refine q_cond_f hF rfl hc2 (q_exit (x_sq ?_))
   obtain rfl:=someI hb1
   exact ⟨nofun,.inl ⟨q4,s4,rfl,hF.sub ⟨rfl,trivial⟩,hS.mask [true,false],h4⟩⟩
  ·have hb1:=cond_t hc2 hb1
   refine q_cond_t hF rfl hc2 (q_skipc (n_sq (q_seq (q_block (q_seq (q_region (q_x (v:=(iV t_5)) hF hS (ex_move rfl) rfl rfl fun a hF=>q_x (v:=(iV t_5)) hF hS (ex_assign rfl) rfl rfl fun a hF=>q_end (n_sq (q_seq (q_region (q_x (v:=(.agg #[s1.v])) hF hS (ex_loadA (vs:=[s1.v]) 1 0 underlying25 rfl sz25 rfl rfl rfl rfl) rfl rfl fun a hF=>q_x (v:=(iV t_5)) hF hS (ex_move rfl) rfl rfl fun a hF=>?_)))))))))))
   obtain ⟨t_6,ht_6,hb1⟩:=bindS hb1
   refine q_call (vs:=[(.agg #[s1.v]),(iV t_5)]) hF hS func59 (by kernel_rfl) rfl rfl rfl (c_impl_depthOf p_g t_5 t_6 ht_6 _ m hS.vis s1 h1) ?_
   rintro a w _ rfl hF hS
   refine q_x (v:=(iV p_level)) hF hS (ex_move rfl) rfl rfl fun a hF=>q_x (v:=(.bool (t_6 == p_level))) hF hS (ex_ibin rfl rfl rfl) rfl rfl fun a hF=>q_end (n_sq ?_)
   obtain ⟨list_10,hj3,hb1⟩:=bindS hb1
   refine q_join (fun a w=>∃ (q11:Piece),∃ (s11:Sl),Fr a 24 [(1,(iV p_level)),(2,(.pointer (some ⟨b2,0,none⟩))),(5,s11.v),(9,(iV (goLen p_g.Parents))),(10,(iV t_5))]∧St [] w0 w m [q11,[⟨b2,[s1.v],25⟩]]∧OwnL m 3 q11 s11 list_10) ?_ ?_
   ·rcases bcase (t_6 == p_level) with hc4 | hc4
    ·have hj3:=cond_f hc4 hj3
     refine q_cond_f hF rfl hc4 (q_skipc (n_jn ?_))
     obtain rfl:=someI hj3
     exact ⟨q4,s4,hF.sub ⟨rfl,rfl,rfl,rfl,rfl,trivial⟩,hS,h4⟩
    ·have hj3:=cond_t hc4 hj3
     refine q_cond_t hF rfl hc4 (q_region (q_x (v:=s4.v) hF hS (ex_move rfl) rfl rfl fun a hF=>q_x (v:=(iV t_5)) hF hS (ex_move rfl) rfl rfl fun a hF=>q_do rfl fun _ hK=>wp_buildSlice' (l:=([t_5]:List Int)) (cells:=[(iV t_5)]) hF hS underlying23 inf3 rfl rfl (by kernel_rfl) rfl rfl rfl ⟨rfl,rfl⟩ rfl rfl fun a w q7 s7 hF hS h7 _=>hK _ _ ?_))
     have hS:St _ _ _ _ [q4,q7,[⟨b2,[s1.v],25⟩]]:=hS.sel [1,0,2] (by decide)
     obtain ⟨l_8,hl_8,hj3⟩:=bindS hj3
     refine q_do rfl fun _ hK=>wp_append hF hS h4 underlying23 inf3 rfl rfl rfl rfl (h7.vw hS (j:=1) rfl) rfl (by decide) hl_8 rfl fun a w q9 s9 hF hS h9=>hK _ _ (q_x (v:=s9.v) hF hS (ex_assign rfl) rfl rfl fun a hF=>q_end (n_jn ?_))
     obtain rfl:=someI hj3
     exact ⟨q9,s9,hF.sub ⟨rfl,rfl,rfl,rfl,rfl,trivial⟩,hS.mask [true,false,true],h9⟩
   ·rintro a w ⟨q11,s11,hF,hS,h11⟩
    refine n_ib (n_sq ?_)
    refine q_region (q_x (v:=(iV (w64 (t_5 + 1)))) hF hS (ex_ibin rfl rfl rfl) rfl rfl fun a hF=>q_x (v:=(iV (w64 (t_5 + 1)))) hF hS (ex_move rfl) rfl rfl fun a hF=>q_end ?_)
    obtain rfl:=someI hb1
    exact ⟨rfl,q11,s11,_,_,rfl,hF.sub ⟨rfl,rfl,rfl,rfl,rfl,trivial⟩,hS,h11⟩
 ·rintro e a w ⟨q13,s13,rfl,hF,hS,h13⟩
  refine x_ib (n_sq ?_)
  refine q_seq (q_region (q_x (v:=s13.v) hF hS (ex_move rfl) rfl rfl fun a hF=>q_x (v:=s13.v) hF hS (ex_assign rfl) rfl rfl fun a hF=>q_end (n_sq (q_ret ?_))))
  obtain rfl:=someI hr
  exact ret_of hF hS rfl (.tmp rfl .nil) ⟨q13,s13,rfl,hS.sel [0] (by decide),h13⟩

theorem c_impl_crossed (p_s:List impl_Variable) (p_t:impl_Table) (r:(List impl_Variable)) (hr:impl_crossed p_s p_t=some r) (w0:World) (m:Mem) (hv:Vis m w0) (s1:Sl) (h1:Rd m s1 p_s) (s2:Sl) (h2:Rd m s2 p_t.Vars) (s3:Sl) (h3:Rd m s3 p_t.Where) :
  Ret prog 21 [s1.v,(.agg #[(iV p_t.Level),s2.v,s3.v,(iV p_t.Sum)])] w0 (fun v w=>∃ (q0':Piece) (s0':Sl),v=s0'.v∧St [] w0 w m [q0']∧OwnL m 55 q0' s0' r):=by
 unfold impl_crossed at hr
 refine ret_start func21 rfl 29 rfl rfl m hv fun a hF hS=>q_seq (q_region (q_box (cs:=[(iV p_t.Level),s2.v,s3.v,(iV p_t.Sum)]) hF hS rfl rfl rfl fun a w b4 hF hS=>q_x (v:=nilS.v) hF hS (ex_assign rfl) rfl rfl fun a hF=>q_end (n_sq (q_seq (q_region (q_x (v:=(.pointer (some ⟨b4,1,none⟩))) hF hS (ex_fieldAddr underlying28 rfl sz23 rfl rfl) rfl rfl fun a hF=>q_x (v:=s2.v) hF hS (ex_load1 0 0 underlying23 rfl rfl rfl rfl) rfl rfl fun a hF=>q_x (v:=(iV (goLen p_t.Vars))) hF hS (ex_len underlying23 rfl h2.len) rfl rfl fun a hF=>?_))))))
 obtain ⟨l_5,hl_5,hr⟩:=bindS hr
 refine q_do rfl fun _ hK=>wp_make (z:=((impl_Variable.mk ([]:List UInt8) 0):impl_Variable)) hF hS underlying26 inf55 rfl rfl rfl rfl rfl (by decide) hl_5 rfl fun a w q6 s6 hF hS h6 _=>hK _ _ (q_x (v:=s6.v) hF hS (ex_assign rfl) rfl rfl fun a hF=>q_end (n_sq (q_seq (q_seq (q_region (q_x (v:=(.pointer (some ⟨b4,1,none⟩))) hF hS (ex_fieldAddr underlying28 rfl sz23 rfl rfl) rfl rfl fun a hF=>q_x (v:=s2.v) hF hS (ex_load1 1 0 underlying23 rfl rfl rfl rfl) rfl rfl fun a hF=>q_x (v:=(iV (goLen p_t.Vars))) hF hS (ex_len underlying23 rfl h2.len) rfl rfl fun a hF=>q_x (v:=(iV 0)) hF hS (ex_move rfl) rfl rfl fun a hF=>q_end (n_sq (q_block ?_))))))))
 obtain ⟨out_17,hl1,hr⟩:=bindS hr
 refine q_loop (fun (s:(List impl_Variable) × Int) a w=>∃ (q8:Piece),∃ out_7,∃ t_9,s=(out_7,t_9)∧Fr a 29 [(0,s1.v),(5,s6.v),(13,s2.v),(14,(iV (goLen p_t.Vars))),(15,(iV t_9))]∧St [] w0 w m [q8]∧OwnL m 55 q8 s6 out_7) (fun (out_17:(List impl_Variable)) e a w=>∃ (q18:Piece),e=.exit 0∧Fr a 29 [(5,s6.v)]∧St [] w0 w m [q18]∧OwnL m 55 q18 s6 out_17) hl1 ⟨q6,_,_,rfl,hF.sub ⟨rfl,rfl,rfl,rfl,rfl,trivial⟩,hS.mask [true,false],h6⟩ ?_ ?_
 ·clear hF hS
  rintro s a w st ⟨q8,out_7,t_9,rfl,hF,hS,h8⟩ hb1
  unfold impl_crossed_l1 at hb1
  refine q_seq (q_region (q_x (v:=(.bool (decide (t_9<(goLen p_t.Vars))))) hF hS (ex_ibin rfl rfl rfl) rfl rfl fun a hF=>q_end (n_sq (q_seq ?_))))
  rcases bcase (decide (t_9<(goLen p_t.Vars))) with hc2 | hc2
  ·have hb1:=cond_f hc2 hb1
   refine q_cond_f hF rfl hc2 (q_exit (x_sq ?_))
   obtain rfl:=someI hb1
   exact ⟨nofun,.inl ⟨q8,rfl,hF.sub ⟨rfl,trivial⟩,hS,h8⟩⟩
  ·have hb1:=cond_t hc2 hb1
   refine q_cond_t hF rfl hc2 (q_skipc (n_sq (q_seq (q_block (q_seq (q_region (q_x (v:=(iV t_9)) hF hS (ex_move rfl) rfl rfl fun a hF=>?_)))))))
   obtain ⟨e_10,he_10,hb1⟩:=bindS hb1
   obtain ⟨vs11,at11,d11⟩:=h2.at he_10 1 rfl
   obtain rfl:vs11=[(iV e_10)]:=d11
   refine q_x (v:=(elP s2 (t_9.toNat * 1))) hF hS (ex_indexAddr underlying23 sz3 rfl rfl (h2.idx he_10)) rfl rfl fun a hF=>q_x (v:=(iV e_10)) hF hS (ex_loadE1 0 underlying3 rfl rfl ((at11).at) rfl rfl) rfl rfl fun a hF=>q_x (v:=(iV t_9)) hF hS (ex_assign rfl) rfl rfl fun a hF=>q_x (v:=(iV e_10)) hF hS (ex_assign rfl) rfl rfl fun a hF=>q_end (n_sq (q_region (q_x (v:=s6.v) hF hS (ex_move rfl) rfl rfl fun a hF=>q_x (v:=(iV t_9)) hF hS (ex_move rfl) rfl rfl fun a hF=>q_x (v:=s1.v) hF hS (ex_move rfl) rfl rfl fun a hF=>q_x (v:=(iV e_10)) hF hS (ex_move rfl) rfl rfl fun a hF=>?_)))
   obtain ⟨e_12,he_12,hb1⟩:=bindS hb1
   obtain ⟨vs13,at13,d13⟩:=h1.at he_12 2 rfl
   obtain rfl:vs13=[(strV e_12.Name),(iV e_12.Levels)]:=d13
   refine q_x (v:=(elP s1 (e_10.toNat * 2))) hF hS (ex_indexAddr underlying26 sz55 rfl rfl (h1.idx he_12)) rfl rfl fun a hF=>q_x (v:=(.agg #[(strV e_12.Name),(iV e_12.Levels)])) hF hS (ex_loadEA (us:=[(strV e_12.Name),(iV e_12.Levels)]) 0 underlying55 rfl sz55 rfl ((at13).at) rfl rfl rfl) rfl rfl fun a hF=>?_
   obtain ⟨e_14,he_14,hb1⟩:=bindS hb1
   obtain ⟨vs15,at15,d15⟩:=h8.at he_14 2 rfl
   obtain rfl:vs15=[(strV e_14.Name),(iV e_14.Levels)]:=d15
   refine q_x (v:=(elP s6 (t_9.toNat * 2))) hF hS (ex_indexAddr underlying26 sz55 rfl rfl (h8.idx he_14)) rfl rfl fun a hF=>q_do rfl fun _ hK=>wp_storeE (e':=e_12) (us:=[(strV e_12.Name),(iV e_12.Levels)]) (vs:=[(strV e_14.Name),(iV e_14.Levels)]) 0 hF hS h8 sz55 rfl rfl rfl rfl rfl rfl rfl he_14 at15 rfl rfl rfl fun w q16 hS h16=>hK _ _ (q_end (n_ib (n_sq (q_region (q_x (v:=(iV (w64 (t_9 + 1)))) hF hS (ex_ibin rfl rfl rfl) rfl rfl fun a hF=>q_x (v:=(iV (w64 (t_9 + 1)))) hF hS (ex_move rfl) rfl rfl fun a hF=>q_end ?_)))))
   obtain rfl:=someI hb1
   exact ⟨rfl,q16,_,_,rfl,hF.sub ⟨rfl,rfl,rfl,rfl,rfl,trivial⟩,hS,h16⟩
 ·rintro e a w ⟨q18,rfl,hF,hS,h18⟩
  refine x_ib (n_sq ?_)
  refine q_seq (q_region (q_x (v:=s6.v) hF hS (ex_move rfl) rfl rfl fun a hF=>q_x (v:=s6.v) hF hS (ex_assign rfl) rfl rfl fun a hF=>q_end (n_sq (q_ret ?_))))
  obtain rfl:=someI hr
  exact ret_of hF hS rfl (.tmp rfl .nil) ⟨q18,s6,rfl,hS.sel [0] (by decide),h18⟩

theorem c_impl_combinations (p_s:List impl_Variable) (r:Int) (hr:impl_combinations p_s=some r) (w0:World) (m:Mem) (hv:Vis m w0) (s1:Sl) (h1:Rd m s1 p_s) :
  Ret prog 95 [s1.v] w0 (fun v _=>v=(iV r)):=by
 unfold impl_combinations at hr
 refine ret_start func95 rfl 18 rfl rfl m hv fun a hF hS=>q_seq (q_region (q_x (v:=(iV 0)) hF hS (ex_assign rfl) rfl rfl fun a hF=>q_end (n_sq (q_seq (q_region (q_x (v:=(iV 1)) hF hS (ex_assign rfl) rfl rfl fun a hF=>q_end (n_sq (q_seq (q_seq (q_region (q_x (v:=s1.v) hF hS (ex_move rfl) rfl rfl fun a hF=>q_x (v:=(iV (goLen p_s))) hF hS (ex_len underlying26 rfl h1.len) rfl rfl fun a hF=>q_x (v:=(iV 0)) hF hS (ex_move rfl) rfl rfl fun a hF=>q_end (n_sq (q_block ?_)))))))))))))
 obtain ⟨n_7,hl1,hr⟩:=bindS hr
 refine q_loop (fun (s:Int × Int) a w=>∃ n_2,∃ t_3,s=(n_2,t_3)∧Fr a 18 [(3,(iV n_2)),(6,s1.v),(7,(iV (goLen p_s))),(8,(iV t_3))]∧St [] w0 w m []) (fun (n_7:Int) e a w=>e=.exit 0∧Fr a 18 [(3,(iV n_7))]∧St [] w0 w m []) hl1 ⟨_,_,rfl,hF.sub ⟨rfl,rfl,rfl,rfl,trivial⟩,hS⟩ ?_ ?_
 ·clear hF hS
  rintro s a w st ⟨n_2,t_3,rfl,hF,hS⟩ hb1
  unfold impl_combinations_l1 at hb1
  refine q_seq (q_region (q_x (v:=(.bool (decide (t_3<(goLen p_s))))) hF hS (ex_ibin rfl rfl rfl) rfl rfl fun a hF=>q_end (n_sq (q_seq ?_))))
  rcases bcase (decide (t_3<(goLen p_s))) with hc2 | hc2
  ·have hb1:=cond_f hc2 hb1
   refine q_cond_f hF rfl hc2 (q_exit (x_sq ?_))
   obtain rfl:=someI hb1
   exact ⟨nofun,.inl ⟨rfl,hF.sub ⟨rfl,trivial⟩,hS⟩⟩
  ·have hb1:=cond_t hc2 hb1
   refine q_cond_t hF rfl hc2 (q_skipc (n_sq (q_seq (q_block (q_seq (q_region ?_))))))
   obtain ⟨e_4,he_4,hb1⟩:=bindS hb1
   obtain ⟨vs5,at5,d5⟩:=h1.at he_4 2 rfl
   obtain rfl:vs5=[(strV e_4.Name),(iV e_4.Levels)]:=d5
   refine q_x (v:=(elP s1 (t_3.toNat * 2))) hF hS (ex_indexAddr underlying26 sz55 rfl rfl (h1.idx he_4)) rfl rfl fun a hF=>q_x (v:=(.agg #[(strV e_4.Name),(iV e_4.Levels)])) hF hS (ex_loadEA (us:=[(strV e_4.Name),(iV e_4.Levels)]) 0 underlying55 rfl sz55 rfl ((at5).at) rfl rfl rfl) rfl rfl fun a hF=>q_alloc (cs:=[(strV ([]:List UInt8)),(iV 0)]) hF hS rfl rfl rfl fun a w b6 hF hS=>q_store (vs:=[(strV e_4.Name),(iV e_4.Levels)]) (cs':=[(strV e_4.Name),(iV e_4.Levels)]) 0 0 hF hS sz55 rfl rfl rfl rfl rfl rfl rfl rfl fun a w hF hS=>q_end (n_sq (q_region (q_x (v:=(iV n_2)) hF hS (ex_move rfl) rfl rfl fun a hF=>q_x (v:=(.pointer (some ⟨b6,1,none⟩))) hF hS (ex_fieldAddr underlying55 rfl sz3 rfl rfl) rfl rfl fun a hF=>q_x (v:=(iV e_4.Levels)) hF hS (ex_load1 0 0 underlying3 rfl rfl rfl rfl) rfl rfl fun a hF=>q_x (v:=(iV (w64 (n_2 * e_4.Levels)))) hF hS (ex_ibin rfl rfl rfl) rfl rfl fun a hF=>q_x (v:=(iV (w64 (n_2 * e_4.Levels)))) hF hS (ex_assign rfl) rfl rfl fun a hF=>q_end (n_ib (n_sq (q_region (q_x (v:=(iV (w64 (t_3 + 1)))) hF hS (ex_ibin rfl rfl rfl) rfl rfl fun a hF=>q_x (v:=(iV (w64 (t_3 + 1)))) hF hS (ex_move rfl) rfl rfl fun a hF=>q_end ?_)))))))
   obtain rfl:=someI hb1
   exact ⟨rfl,_,_,rfl,hF.sub ⟨rfl,rfl,rfl,rfl,trivial⟩,hS.mask [false]⟩
 ·rintro e a w ⟨rfl,hF,hS⟩
  refine x_ib (n_sq ?_)
  refine q_seq (q_region (q_x (v:=(iV n_7)) hF hS (ex_move rfl) rfl rfl fun a hF=>q_x (v:=(iV n_7)) hF hS (ex_assign rfl) rfl rfl fun a hF=>q_end (n_sq (q_ret ?_))))
  obtain rfl:=someI hr
  exact ret_of hF hS rfl (.tmp rfl .nil) rfl

theorem c_impl_cellCount (p_g:impl_Geo) (p_s:List impl_Variable) (p_t:impl_Table) (r:Int) (hr:impl_cellCount p_g p_s p_t=some r) (w0:World) (m:Mem) (hv:Vis m w0) (s1:Sl) (h1:Rd m s1 p_g.Parents) (s2:Sl) (h2:Rd m s2 p_s) (s3:Sl) (h3:Rd m s3 p_t.Vars) (s4:Sl) (h4:Rd m s4 p_t.Where) :
  Ret prog 61 [(.agg #[s1.v]),s2.v,(.agg #[(iV p_t.Level),s3.v,s4.v,(iV p_t.Sum)])] w0 (fun v _=>v=(iV r)):=by
 unfold impl_cellCount at hr
 refine ret_start func61 rfl 17 rfl rfl m hv fun a hF hS=>q_seq (q_region (q_box (cs:=[s1.v]) hF hS rfl rfl rfl fun a w b5 hF hS=>q_box (cs:=[(iV p_t.Level),s3.v,s4.v,(iV p_t.Sum)]) hF hS rfl rfl rfl fun a w b6 hF hS=>q_x (v:=(iV 0)) hF hS (ex_assign rfl) rfl rfl fun a hF=>q_end (n_sq (q_seq (e_region ⟨[],[]⟩ mixed fun w' hw'=>?_)))))
 have hS:=hS.below hw'
 refine e_x (v:=(.agg #[s1.v])) 0 hF hS rfl (ex_loadA (vs:=[s1.v]) 1 0 underlying25 rfl sz25 rfl rfl rfl rfl) rfl rfl (by kernel_rfl) (by kernel_rfl) (by kernel_rfl) (by kernel_rfl) fun a hF=>e_p (v:=(.pointer (some ⟨b6,0,none⟩))) 1 hF rfl (ex_fieldAddr underlying28 rfl sz3 rfl rfl) rfl rfl (by kernel_rfl) (by kernel_rfl) (by kernel_rfl) fun a hF=>e_x (v:=(iV p_t.Level)) 2 hF hS rfl (ex_load1 0 0 underlying3 rfl rfl rfl rfl) rfl rfl (by kernel_rfl) (by kernel_rfl) (by kernel_rfl) (by kernel_rfl) fun a hF=>e_p (v:=s2.v) 5 hF rfl (ex_move rfl) rfl rfl (by kernel_rfl) (by kernel_rfl) (by kernel_rfl) fun a hF=>e_x (v:=(.agg #[(iV p_t.Level),s3.v,s4.v,(iV p_t.Sum)])) 6 hF hS rfl (ex_loadA (vs:=[(iV p_t.Level),s3.v,s4.v,(iV p_t.Sum)]) 0 0 underlying28 rfl sz28 rfl rfl rfl rfl) rfl rfl (by kernel_rfl) (by kernel_rfl) (by kernel_rfl) (by kernel_rfl) fun a hF=>e_one 3 (by kernel_rfl) ?_
 obtain ⟨t_13,ht_13,hr⟩:=bindS hr
 refine e_call (vs:=[(.agg #[s1.v]),(iV p_t.Level)]) hF hS rfl func20 (by kernel_rfl) rfl rfl rfl (c_impl_areasAt p_g p_t.Level t_13 ht_13 _ m hS.vis s1 h1) ?_
 rintro a w _ ⟨q15,s15,rfl,hR14,h15⟩ hF hS2
 have hS:St _ _ _ _ [q15,[⟨b6,[(iV p_t.Level),s3.v,s4.v,(iV p_t.Sum)],28⟩],[⟨b5,[s1.v],25⟩]]:=hS.joinF hR14
 refine e_p (v:=(iV (goLen t_13))) 4 hF rfl (ex_len underlying23 rfl h15.len) rfl rfl (by kernel_rfl) (by kernel_rfl) (by kernel_rfl) fun a hF=>e_one 7 (by kernel_rfl) ?_
 obtain ⟨t_16,ht_16,hr⟩:=bindS hr
 refine e_call (vs:=[s2.v,(.agg #[(iV p_t.Level),s3.v,s4.v,(iV p_t.Sum)])]) hF hS rfl func21 (by kernel_rfl) rfl rfl rfl (c_impl_crossed p_s p_t t_16 ht_16 _ m hS.vis s2 h2 s3 h3 s4 h4) ?_
 rintro a w _ ⟨q18,s18,rfl,hR17,h18⟩ hF hS2
 have hS:St _ _ _ _ [q18,q15,[⟨b6,[(iV p_t.Level),s3.v,s4.v,(iV p_t.Sum)],28⟩],[⟨b5,[s1.v],25⟩]]:=hS.joinF hR17
 refine e_one 8 (by kernel_rfl) ?_
 obtain ⟨m20,hl20,hv20,hz20⟩:=hS.lend
 obtain ⟨t_19,ht_19,hr⟩:=bindS hr
 refine e_call (vs:=[s18.v]) hF hS rfl func95 (by kernel_rfl) rfl rfl rfl (c_impl_combinations t_16 t_19 ht_19 _ m20 hv20 s18 (h18.froz hl20 (hz20 0 _ rfl))) ?_
 rintro a w _ rfl hF hS
 refine e_p (v:=(iV (w64 ((goLen t_13) * t_19)))) 9 hF rfl (ex_ibin rfl rfl rfl) rfl rfl (by kernel_rfl) (by kernel_rfl) (by kernel_rfl) fun a hF=>e_p (v:=(iV (w64 ((goLen t_13) * t_19)))) 10 hF rfl (ex_assign rfl) rfl rfl (by kernel_rfl) (by kernel_rfl) (by kernel_rfl) fun a hF=>e_end (by kernel_rfl) (n_sq (q_ret ?_)) _
 obtain rfl:=someI hr
 exact ret_of hF hS rfl (.tmp rfl .nil) rfl

theorem c_impl_isTable (p_g:impl_Geo) (p_s:List impl_Variable) (p_t:impl_Table) (r:Bool) (hr:impl_isTable p_g p_s p_t=some r) (w0:World) (m:Mem) (hv:Vis m w0) (s1:Sl) (h1:Rd m s1 p_g.Parents) (s2:Sl) (h2:Rd m s2 p_s) (s3:Sl) (h3:Rd m s3 p_t.Vars) (s4:Sl) (h4:Rd m s4 p_t.Where) :
  Ret prog 55 [(.agg #[s1.v]),s2.v,(.agg #[(iV p_t.Level),s3.v,s4.v,(iV p_t.Sum)])] w0 (fun v _=>v=(.bool r)):=by
 unfold impl_isTable at hr
 refine ret_start func55 rfl 42 rfl rfl m hv fun a hF hS=>q_seq (q_region (q_box (cs:=[s1.v]) hF hS rfl rfl rfl fun a w b5 hF hS=>q_box (cs:=[(iV p_t.Level),s3.v,s4.v,(iV p_t.Sum)]) hF hS rfl rfl rfl fun a w b6 hF hS=>q_x (v:=(.bool false)) hF hS (ex_assign rfl) rfl rfl fun a hF=>q_end (n_sq (q_seq (q_seq ?_)))))
 obtain ⟨t_9,hj1,hr⟩:=bindS hr
 refine q_join (fun a w=>Fr a 42 [(1,s2.v),(3,(.pointer (some ⟨b5,0,none⟩))),(5,(.pointer (some ⟨b6,0,none⟩))),(31,(.bool t_9))]∧St [] w0 w m [[⟨b6,[(iV p_t.Level),s3.v,s4.v,(iV p_t.Sum)],28⟩],[⟨b5,[s1.v],25⟩]]) ?_ ?_
 ·refine q_region (q_x (v:=s2.v) hF hS (ex_move rfl) rfl rfl fun a hF=>q_x (v:=(.pointer (some ⟨b6,1,none⟩))) hF hS (ex_fieldAddr underlying28 rfl sz23 rfl rfl) rfl rfl fun a hF=>q_x (v:=s3.v) hF hS (ex_load1 0 0 underlying23 rfl rfl rfl rfl) rfl rfl fun a hF=>?_)
  obtain ⟨t_7,ht_7,hj1⟩:=bindS hj1
  refine q_call (vs:=[s2.v,s3.v]) hF hS func91 (by kernel_rfl) rfl rfl rfl (c_impl_areVars p_s p_t.Vars t_7 ht_7 _ m hS.vis s2 h2 s3 h3) ?_
  rintro a w _ rfl hF hS
  refine q_x (v:=(.bool (!t_7))) hF hS (ex_not rfl) rfl rfl fun a hF=>q_x (v:=(.bool (!t_7))) hF hS (ex_move rfl) rfl rfl fun a hF=>?_
  rcases bcase (!t_7) with hc2 | hc2
  ·have hj1:=cond_f hc2 hj1
   refine q_xg (v:=s2.v) hF hS (ex_move rfl) (wanted_t hF rfl rfl rfl hc2) rfl fun a hF=>q_xg (v:=(.pointer (some ⟨b6,2,none⟩))) hF hS (ex_fieldAddr underlying28 rfl sz23 rfl rfl) (wanted_t hF rfl rfl rfl hc2) rfl fun a hF=>q_xg (v:=s4.v) hF hS (ex_load1 0 0 underlying23 rfl rfl rfl rfl) (wanted_t hF rfl rfl rfl hc2) rfl fun a hF=>?_
   obtain ⟨t_8,ht_8,hj1⟩:=bindS hj1
   refine q_callg (vs:=[s2.v,s4.v]) hF hS (wanted_t hF rfl rfl rfl hc2) func92 (by kernel_rfl) rfl rfl rfl (c_impl_isWhere p_s p_t.Where t_8 ht_8 _ m hS.vis s2 h2 s4 h4) ?_
   rintro a w _ rfl hF hS
   refine q_xg (v:=(.bool (!t_8))) hF hS (ex_not rfl) (wanted_t hF rfl rfl rfl hc2) rfl fun a hF=>q_x (v:=(.bool (!t_8))) hF hS (ex_pick_f rfl rfl hc2) rfl rfl fun a hF=>q_x (v:=(.bool (!t_8))) hF hS (ex_move rfl) rfl rfl fun a hF=>?_
   rcases bcase (!t_8) with hc3 | hc3
   ·have hj1:=cond_f hc3 hj1
    refine q_xg (v:=(.pointer (some ⟨b6,3,none⟩))) hF hS (ex_fieldAddr underlying28 rfl sz3 rfl rfl) (wanted_t hF rfl rfl rfl hc3) rfl fun a hF=>q_xg (v:=(iV p_t.Sum)) hF hS (ex_load1 0 0 underlying3 rfl rfl rfl rfl) (wanted_t hF rfl rfl rfl hc3) rfl fun a hF=>q_xg (v:=(.bool (decide (p_t.Sum<(-1))))) hF hS (ex_ibin rfl rfl rfl) (wanted_t hF rfl rfl rfl hc3) rfl fun a hF=>q_x (v:=(.bool (decide (p_t.Sum<(-1))))) hF hS (ex_pick_f rfl rfl hc3) rfl rfl fun a hF=>q_x (v:=(.bool (decide (p_t.Sum<(-1))))) hF hS (ex_move rfl) rfl rfl fun a hF=>?_
    rcases bcase (decide (p_t.Sum<(-1))) with hc4 | hc4
    ·have hj1:=cond_f hc4 hj1
     refine q_xg (v:=(.pointer (some ⟨b6,3,none⟩))) hF hS (ex_fieldAddr underlying28 rfl sz3 rfl rfl) (wanted_t hF rfl rfl rfl hc4) rfl fun a hF=>q_xg (v:=(iV p_t.Sum)) hF hS (ex_load1 0 0 underlying3 rfl rfl rfl rfl) (wanted_t hF rfl rfl rfl hc4) rfl fun a hF=>q_xg (v:=s2.v) hF hS (ex_move rfl) (wanted_t hF rfl rfl rfl hc4) rfl fun a hF=>q_xg (v:=(iV (goLen p_s))) hF hS (ex_len underlying26 rfl h2.len) (wanted_t hF rfl rfl rfl hc4) rfl fun a hF=>q_xg (v:=(.bool (decide ((goLen p_s)≤p_t.Sum)))) hF hS (ex_ibin rfl rfl rfl) (wanted_t hF rfl rfl rfl hc4) rfl fun a hF=>q_x (v:=(.bool (decide ((goLen p_s)≤p_t.Sum)))) hF hS (ex_pick_f rfl rfl hc4) rfl rfl fun a hF=>q_end (n_jn ?_)
     obtain rfl:=someI hj1
     exact ⟨hF.sub ⟨rfl,rfl,rfl,rfl,trivial⟩,hS⟩
    ·have hj1:=cond_t hc4 hj1
     refine q_skip hF (wanted_f hF rfl rfl rfl hc4 rfl) rfl fun a hF=>q_skip hF (wanted_f hF rfl rfl rfl hc4 rfl) rfl fun a hF=>q_skip hF (wanted_f hF rfl rfl rfl hc4 rfl) rfl fun a hF=>q_skip hF (wanted_f hF rfl rfl rfl hc4 rfl) rfl fun a hF=>q_skip hF (wanted_f hF rfl rfl rfl hc4 rfl) rfl fun a hF=>q_x (v:=(.bool true)) hF hS (ex_pick_t rfl rfl hc4) rfl rfl fun a hF=>q_end (n_jn ?_)
     obtain rfl:=someI hj1
     exact ⟨hF.sub ⟨rfl,rfl,rfl,rfl,trivial⟩,hS⟩
   ·have hj1:=cond_t hc3 hj1
    refine q_skip hF (wanted_f hF rfl rfl rfl hc3 rfl) rfl fun a hF=>q_skip hF (wanted_f hF rfl rfl rfl hc3 rfl) rfl fun a hF=>q_skip hF (wanted_f hF rfl rfl rfl hc3 rfl) rfl fun a hF=>q_x (v:=(.bool true)) hF hS (ex_pick_t rfl rfl hc3) rfl rfl fun a hF=>q_x (v:=(.bool true)) hF hS (ex_move rfl) rfl rfl fun a hF=>q_skip hF (wanted_f hF rfl rfl rfl rfl rfl) rfl fun a hF=>q_skip hF (wanted_f hF rfl rfl rfl rfl rfl) rfl fun a hF=>q_skip hF (wanted_f hF rfl rfl rfl rfl rfl) rfl fun a hF=>q_skip hF (wanted_f hF rfl rfl rfl rfl rfl) rfl fun a hF=>q_skip hF (wanted_f hF rfl rfl rfl rfl rfl) rfl fun a hF=>q_x (v:=(.bool true)) hF hS (ex_pick_t rfl rfl rfl) rfl rfl fun a hF=>q_end (n_jn ?_)
    obtain rfl:=someI hj1
    exact ⟨hF.sub ⟨rfl,rfl,rfl,rfl,trivial⟩,hS⟩
  ·have hj1:=cond_t hc2 hj1
   refine q_skip hF (wanted_f hF rfl rfl rfl hc2 rfl) rfl fun a hF=>q_skip hF (wanted_f hF rfl rfl rfl hc2 rfl) rfl fun a hF=>q_skip hF (wanted_f hF rfl rfl rfl hc2 rfl) rfl fun a hF=>q_skip hF (wanted_f hF rfl rfl rfl hc2 rfl) rfl fun a hF=>q_skip hF (wanted_f hF rfl rfl rfl hc2 rfl) rfl fun a hF=>q_x (v:=(.bool true)) hF hS (ex_pick_t rfl rfl hc2) rfl rfl fun a hF=>q_x (v:=(.bool true)) hF hS (ex_move rfl) rfl rfl fun a hF=>q_skip hF (wanted_f hF rfl rfl rfl rfl rfl) rfl fun a hF=>q_skip hF (wanted_f hF rfl rfl rfl rfl rfl) rfl fun a hF=>q_skip hF (wanted_f hF rfl rfl rfl rfl rfl) rfl fun a hF=>q_x (v:=(.bool true)) hF hS (ex_pick_t rfl rfl rfl) rfl rfl fun a hF=>q_x (v:=(.bool true)) hF hS (ex_move rfl) rfl rfl fun a hF=>q_skip hF (wanted_f hF rfl rfl rfl rfl rfl) rfl fun a hF=>q_skip hF (wanted_f hF rfl rfl rfl rfl rfl) rfl fun a hF=>q_skip hF (wanted_f hF rfl rfl rfl rfl rfl) rfl fun a hF=>q_skip hF (wanted_f hF rfl rfl rfl rfl rfl) rfl fun a hF=>q_skip hF (wanted_f hF rfl rfl rfl rfl rfl) rfl fun a hF=>q_x (v:=(.bool true)) hF hS (ex_pick_t rfl rfl rfl) rfl rfl fun a hF=>q_end (n_jn ?_)
   obtain rfl:=someI hj1
   exact ⟨hF.sub ⟨rfl,rfl,rfl,rfl,trivial⟩,hS⟩
 ·rintro a w ⟨hF,hS⟩
  refine n_sq ?_
  rcases bcase (t_9) with hc5 | hc5
  ·have hr:=cond_f hc5 hr
   refine q_cond_f hF rfl hc5 (q_skipc (n_sq (q_seq (q_region (q_x (v:=(.agg #[s1.v])) hF hS (ex_loadA (vs:=[s1.v]) 1 0 underlying25 rfl sz25 rfl rfl rfl rfl) rfl rfl fun a hF=>q_x (v:=s2.v) hF hS (ex_move rfl) rfl rfl fun a hF=>q_x (v:=(.agg #[(iV p_t.Level),s3.v,s4.v,(iV p_t.Sum)])) hF hS (ex_loadA (vs:=[(iV p_t.Level),s3.v,s4.v,(iV p_t.Sum)]) 0 0 underlying28 rfl sz28 rfl rfl rfl rfl) rfl rfl fun a hF=>?_)))))
   obtain ⟨t_10,ht_10,hr⟩:=bindS hr
   refine q_call (vs:=[(.agg #[s1.v]),s2.v,(.agg #[(iV p_t.Level),s3.v,s4.v,(iV p_t.Sum)])]) hF hS func61 (by kernel_rfl) rfl rfl rfl (c_impl_cellCount p_g p_s p_t t_10 ht_10 _ m hS.vis s1 h1 s2 h2 s3 h3 s4 h4) ?_
   rintro a w _ rfl hF hS
   refine q_x (v:=(iV t_10)) hF hS (ex_assign rfl) rfl rfl fun a hF=>q_end (n_sq (q_seq ?_))
   obtain ⟨t_11,hj6,hr⟩:=bindS hr
   refine q_join (fun a w=>Fr a 42 [(6,(.bool t_11))]∧St [] w0 w m []) ?_ ?_
   ·refine q_region (q_x (v:=(iV t_10)) hF hS (ex_move rfl) rfl rfl fun a hF=>q_x (v:=(.bool (decide (0<t_10)))) hF hS (ex_ibin rfl rfl rfl) rfl rfl fun a hF=>q_x (v:=(.bool (decide (0<t_10)))) hF hS (ex_move rfl) rfl rfl fun a hF=>?_)
    rcases bcase (decide (0<t_10)) with hc7 | hc7
    ·have hj6:=cond_f hc7 hj6
     refine q_skip hF (wanted_f hF rfl rfl rfl hc7 rfl) rfl fun a hF=>q_skip hF (wanted_f hF rfl rfl rfl hc7 rfl) rfl fun a hF=>q_x (v:=(.bool false)) hF hS (ex_pick_f rfl rfl hc7) rfl rfl fun a hF=>q_x (v:=(.bool false)) hF hS (ex_assign rfl) rfl rfl fun a hF=>q_end (n_jn ?_)
     obtain rfl:=someI hj6
     exact ⟨hF.sub ⟨rfl,trivial⟩,hS.mask [false,false]⟩
    ·have hj6:=cond_t hc7 hj6
     refine q_xg (v:=(iV t_10)) hF hS (ex_move rfl) (wanted_t hF rfl rfl rfl hc7) rfl fun a hF=>q_xg (v:=(.bool (decide (t_10≤600)))) hF hS (ex_ibin rfl rfl rfl) (wanted_t hF rfl rfl rfl hc7) rfl fun a hF=>q_x (v:=(.bool (decide (t_10≤600)))) hF hS (ex_pick_t rfl rfl hc7) rfl rfl fun a hF=>q_x (v:=(.bool (decide (t_10≤600)))) hF hS (ex_assign rfl) rfl rfl fun a hF=>q_end (n_jn ?_)
     obtain rfl:=someI hj6
     exact ⟨hF.sub ⟨rfl,trivial⟩,hS.mask [false,false]⟩
   ·rintro a w ⟨hF,hS⟩
    refine n_sq (q_ret ?_)
    obtain rfl:=someI hr
    exact ret_of hF hS rfl (.tmp rfl .nil) rfl
  ·have hr:=cond_t hc5 hr
   refine q_cond_t hF rfl hc5 (q_seq (q_region (q_x (v:=(.bool false)) hF hS (ex_assign rfl) rfl rfl fun a hF=>q_end (n_sq (q_ret (r_sq ?_))))))
   obtain rfl:=someI hr
   exact ret_of hF hS rfl (.tmp rfl .nil) rfl

theorem c_impl_areTabled (p_g:impl_Geo) (p_s:List impl_Variable) (p_t:impl_Table) (r:Bool) (hr:impl_areTabled p_g p_s p_t=some r) (w0:World) (m:Mem) (hv:Vis m w0) (s1:Sl) (h1:Rd m s1 p_g.Parents) (s2:Sl) (h2:Rd m s2 p_s) (s3:Sl) (h3:Rd m s3 p_t.Vars) (s4:Sl) (h4:Rd m s4 p_t.Where) :
  Ret prog 18 [(.agg #[s1.v]),s2.v,(.agg #[(iV p_t.Level),s3.v,s4.v,(iV p_t.Sum)])] w0 (fun v _=>v=(.bool r)):=by
 unfold impl_areTabled at hr
 refine ret_start func18 rfl 19 rfl rfl m hv fun a hF hS=>q_seq (q_region (q_box (cs:=[s1.v]) hF hS rfl rfl rfl fun a w b5 hF hS=>q_box (cs:=[(iV p_t.Level),s3.v,s4.v,(iV p_t.Sum)]) hF hS rfl rfl rfl fun a w b6 hF hS=>q_x (v:=(.bool false)) hF hS (ex_assign rfl) rfl rfl fun a hF=>q_end (n_sq (q_seq ?_))))
 obtain ⟨t_10,hj1,hr⟩:=bindS hr
 refine q_join (fun a w=>Fr a 19 [(6,(.bool t_10))]∧St [] w0 w m []) ?_ ?_
 ·refine q_region (q_x (v:=(.agg #[s1.v])) hF hS (ex_loadA (vs:=[s1.v]) 1 0 underlying25 rfl sz25 rfl rfl rfl rfl) rfl rfl fun a hF=>?_)
  obtain ⟨t_7,ht_7,hj1⟩:=bindS hj1
  refine q_call (vs:=[(.agg #[s1.v])]) hF hS func53 (by kernel_rfl) rfl rfl rfl (c_impl_IsGeo p_g t_7 ht_7 _ m hS.vis s1 h1) ?_
  rintro a w _ rfl hF hS
  refine q_x (v:=(.bool t_7)) hF hS (ex_move rfl) rfl rfl fun a hF=>?_
  rcases bcase (t_7) with hc2 | hc2
  ·have hj1:=cond_f hc2 hj1
   refine q_skip hF (wanted_f hF rfl rfl rfl hc2 rfl) rfl fun a hF=>q_skip hF (wanted_f hF rfl rfl rfl hc2 rfl) rfl fun a hF=>q_x (v:=(.bool false)) hF hS (ex_pick_f rfl rfl hc2) rfl rfl fun a hF=>q_x (v:=(.bool false)) hF hS (ex_move rfl) rfl rfl fun a hF=>q_skip hF (wanted_f hF rfl rfl rfl rfl rfl) rfl fun a hF=>q_skip hF (wanted_f hF rfl rfl rfl rfl rfl) rfl fun a hF=>q_skip hF (wanted_f hF rfl rfl rfl rfl rfl) rfl fun a hF=>q_skip hF (wanted_f hF rfl rfl rfl rfl rfl) rfl fun a hF=>q_x (v:=(.bool false)) hF hS (ex_pick_f rfl rfl rfl) rfl rfl fun a hF=>q_x (v:=(.bool false)) hF hS (ex_assign rfl) rfl rfl fun a hF=>q_end (n_jn ?_)
   obtain rfl:=someI hj1
   exact ⟨hF.sub ⟨rfl,trivial⟩,hS.mask [false,false]⟩
  ·have hj1:=cond_t hc2 hj1
   refine q_xg (v:=s2.v) hF hS (ex_move rfl) (wanted_t hF rfl rfl rfl hc2) rfl fun a hF=>?_
   obtain ⟨t_8,ht_8,hj1⟩:=bindS hj1
   refine q_callg (vs:=[s2.v]) hF hS (wanted_t hF rfl rfl rfl hc2) func54 (by kernel_rfl) rfl rfl rfl (c_impl_IsSchema p_s t_8 ht_8 _ m hS.vis s2 h2) ?_
   rintro a w _ rfl hF hS
   refine q_x (v:=(.bool t_8)) hF hS (ex_pick_t rfl rfl hc2) rfl rfl fun a hF=>q_x (v:=(.bool t_8)) hF hS (ex_move rfl) rfl rfl fun a hF=>?_
   rcases bcase (t_8) with hc3 | hc3
   ·have hj1:=cond_f hc3 hj1
    refine q_skip hF (wanted_f hF rfl rfl rfl hc3 rfl) rfl fun a hF=>q_skip hF (wanted_f hF rfl rfl rfl hc3 rfl) rfl fun a hF=>q_skip hF (wanted_f hF rfl rfl rfl hc3 rfl) rfl fun a hF=>q_skip hF (wanted_f hF rfl rfl rfl hc3 rfl) rfl fun a hF=>q_x (v:=(.bool false)) hF hS (ex_pick_f rfl rfl hc3) rfl rfl fun a hF=>q_x (v:=(.bool false)) hF hS (ex_assign rfl) rfl rfl fun a hF=>q_end (n_jn ?_)
    obtain rfl:=someI hj1
    exact ⟨hF.sub ⟨rfl,trivial⟩,hS.mask [false,false]⟩
   ·have hj1:=cond_t hc3 hj1
    refine q_xg (v:=(.agg #[s1.v])) hF hS (ex_loadA (vs:=[s1.v]) 1 0 underlying25 rfl sz25 rfl rfl rfl rfl) (wanted_t hF rfl rfl rfl hc3) rfl fun a hF=>q_xg (v:=s2.v) hF hS (ex_move rfl) (wanted_t hF rfl rfl rfl hc3) rfl fun a hF=>q_xg (v:=(.agg #[(iV p_t.Level),s3.v,s4.v,(iV p_t.Sum)])) hF hS (ex_loadA (vs:=[(iV p_t.Level),s3.v,s4.v,(iV p_t.Sum)]) 0 0 underlying28 rfl sz28 rfl rfl rfl rfl) (wanted_t hF rfl rfl rfl hc3) rfl fun a hF=>?_
    obtain ⟨t_9,ht_9,hj1⟩:=bindS hj1
    refine q_callg (vs:=[(.agg #[s1.v]),s2.v,(.agg #[(iV p_t.Level),s3.v,s4.v,(iV p_t.Sum)])]) hF hS (wanted_t hF rfl rfl rfl hc3) func55 (by kernel_rfl) rfl rfl rfl (c_impl_isTable p_g p_s p_t t_9 ht_9 _ m hS.vis s1 h1 s2 h2 s3 h3 s4 h4) ?_
    rintro a w _ rfl hF hS
    refine q_x (v:=(.bool t_9)) hF hS (ex_pick_t rfl rfl hc3) rfl rfl fun a hF=>q_x (v:=(.bool t_9)) hF hS (ex_assign rfl) rfl rfl fun a hF=>q_end (n_jn ?_)
    obtain rfl:=someI hj1
    exact ⟨hF.sub ⟨rfl,trivial⟩,hS.mask [false,false]⟩
 ·rintro a w ⟨hF,hS⟩
  refine n_sq (q_ret ?_)
  obtain rfl:=someI hr
  exact ret_of hF hS rfl (.tmp rfl .nil) rfl

theorem c_impl_areValues (p_s:List impl_Variable) (p_values:List Int) (r:Bool) (hr:impl_areValues p_s p_values=some r) (w0:World) (m:Mem) (hv:Vis m w0) (s1:Sl) (h1:Rd m s1 p_s) (s2:Sl) (h2:Rd m s2 p_values) :
  Ret prog 117 [s1.v,s2.v] w0 (fun v _=>v=(.bool r)):=by
 unfold impl_areValues at hr
 refine ret_start func117 rfl 31 rfl rfl m hv fun a hF hS=>q_seq (q_region (q_x (v:=(.bool false)) hF hS (ex_assign rfl) rfl rfl fun a hF=>q_end (n_sq (q_seq (q_seq (q_region (q_x (v:=s2.v) hF hS (ex_move rfl) rfl rfl fun a hF=>q_x (v:=(iV (goLen p_values))) hF hS (ex_len underlying23 rfl h2.len) rfl rfl fun a hF=>q_x (v:=s1.v) hF hS (ex_move rfl) rfl rfl fun a hF=>q_x (v:=(iV (goLen p_s))) hF hS (ex_len underlying26 rfl h1.len) rfl rfl fun a hF=>q_x (v:=(.bool ((goLen p_values) != (goLen p_s)))) hF hS (ex_ibin rfl rfl rfl) rfl rfl fun a hF=>q_end (n_sq ?_))))))))
 rcases bcase ((goLen p_values) != (goLen p_s)) with hc1 | hc1
 ·have hr:=cond_f hc1 hr
  refine q_cond_f hF rfl hc1 (q_skipc (n_sq (q_seq (q_seq (q_region (q_x (v:=s2.v) hF hS (ex_move rfl) rfl rfl fun a hF=>q_x (v:=(iV (goLen p_values))) hF hS (ex_len underlying23 rfl h2.len) rfl rfl fun a hF=>q_x (v:=(iV 0)) hF hS (ex_move rfl) rfl rfl fun a hF=>q_end (n_sq (q_block ?_))))))))
  obtain ⟨o2,hl2,hr⟩:=bindS hr
  refine q_loop (fun (t_3:Int) a w=>Fr a 31 [(0,s1.v),(12,s2.v),(13,(iV (goLen p_values))),(14,(iV t_3))]∧St [] w0 w m []) (fun (o:(Unit) ⊕ (Bool)) e a w=>o=.inl ()∧e=.exit 0∧Fr a 31 []∧St [] w0 w m []) hl2 ⟨hF.sub ⟨rfl,rfl,rfl,rfl,trivial⟩,hS⟩ ?_ ?_
  ·clear hF hS
   rintro t_3 a w st ⟨hF,hS⟩ hb2
   unfold impl_areValues_l1 at hb2
   refine q_seq (q_region (q_x (v:=(.bool (decide (t_3<(goLen p_values))))) hF hS (ex_ibin rfl rfl rfl) rfl rfl fun a hF=>q_end (n_sq (q_seq ?_))))
   rcases bcase (decide (t_3<(goLen p_values))) with hc3 | hc3
   ·have hb2:=cond_f hc3 hb2
    refine q_cond_f hF rfl hc3 (q_exit (x_sq ?_))
    obtain rfl:=someI hb2
    exact ⟨nofun,.inl ⟨rfl,rfl,hF.sub trivial,hS⟩⟩
   ·have hb2:=cond_t hc3 hb2
    refine q_cond_t hF rfl hc3 (q_skipc (n_sq (q_seq (q_block (q_seq (q_region (q_x (v:=(iV t_3)) hF hS (ex_move rfl) rfl rfl fun a hF=>?_)))))))
    obtain ⟨e_4,he_4,hb2⟩:=bindS hb2
    obtain ⟨vs5,at5,d5⟩:=h2.at he_4 1 rfl
    obtain rfl:vs5=[(iV e_4)]:=d5
    refine q_x (v:=(elP s2 (t_3.toNat * 1))) hF hS (ex_indexAddr underlying23 sz3 rfl rfl (h2.idx he_4)) rfl rfl fun a hF=>q_x (v:=(iV e_4)) hF hS (ex_loadE1 0 underlying3 rfl rfl ((at5).at) rfl rfl) rfl rfl fun a hF=>q_x (v:=(iV t_3)) hF hS (ex_assign rfl) rfl rfl fun a hF=>q_x (v:=(iV e_4)) hF hS (ex_assign rfl) rfl rfl fun a hF=>q_end (n_sq (q_seq ?_))
    obtain ⟨t_8,hj4,hb2⟩:=bindS hb2
    refine q_join (fun a w=>Fr a 31 [(0,s1.v),(12,s2.v),(13,(iV (goLen p_values))),(14,(iV t_3)),(29,(.bool t_8))]∧St [] w0 w m []) ?_ ?_
    ·refine q_region (q_x (v:=(iV e_4)) hF hS (ex_move rfl) rfl rfl fun a hF=>q_x (v:=(.bool (decide (e_4<0)))) hF hS (ex_ibin rfl rfl rfl) rfl rfl fun a hF=>q_x (v:=(.bool (decide (e_4<0)))) hF hS (ex_move rfl) rfl rfl fun a hF=>?_)
     rcases bcase (decide (e_4<0)) with hc5 | hc5
     ·have hj4:=cond_f hc5 hj4
      refine q_xg (v:=(iV e_4)) hF hS (ex_move rfl) (wanted_t hF rfl rfl rfl hc5) rfl fun a hF=>q_xg (v:=s1.v) hF hS (ex_move rfl) (wanted_t hF rfl rfl rfl hc5) rfl fun a hF=>q_xg (v:=(iV t_3)) hF hS (ex_move rfl) (wanted_t hF rfl rfl rfl hc5) rfl fun a hF=>?_
      obtain ⟨e_6,he_6,hj4⟩:=bindS hj4
      obtain ⟨vs7,at7,d7⟩:=h1.at he_6 2 rfl
      obtain rfl:vs7=[(strV e_6.Name),(iV e_6.Levels)]:=d7
      refine q_xg (v:=(elP s1 (t_3.toNat * 2))) hF hS (ex_indexAddr underlying26 sz55 rfl rfl (h1.idx he_6)) (wanted_t hF rfl rfl rfl hc5) rfl fun a hF=>q_xg (v:=(elP s1 (t_3.toNat * 2 + 1))) hF hS (ex_fieldAddrE underlying55 rfl sz3 rfl (h1.idx he_6) rfl) (wanted_t hF rfl rfl rfl hc5) rfl fun a hF=>q_xg (v:=(iV e_6.Levels)) hF hS (ex_loadE1 1 underlying3 rfl rfl ((at7).at) rfl rfl) (wanted_t hF rfl rfl rfl hc5) rfl fun a hF=>q_xg (v:=(.bool (decide (e_6.Levels≤e_4)))) hF hS (ex_ibin rfl rfl rfl) (wanted_t hF rfl rfl rfl hc5) rfl fun a hF=>q_x (v:=(.bool (decide (e_6.Levels≤e_4)))) hF hS (ex_pick_f rfl rfl hc5) rfl rfl fun a hF=>q_end (n_jn ?_)
      obtain rfl:=someI hj4
      exact ⟨hF.sub ⟨rfl,rfl,rfl,rfl,rfl,trivial⟩,hS⟩
     ·have hj4:=cond_t hc5 hj4
      refine q_skip hF (wanted_f hF rfl rfl rfl hc5 rfl) rfl fun a hF=>q_skip hF (wanted_f hF rfl rfl rfl hc5 rfl) rfl fun a hF=>q_skip hF (wanted_f hF rfl rfl rfl hc5 rfl) rfl fun a hF=>q_skip hF (wanted_f hF rfl rfl rfl hc5 rfl) rfl fun a hF=>q_skip hF (wanted_f hF rfl rfl rfl hc5 rfl) rfl fun a hF=>q_skip hF (wanted_f hF rfl rfl rfl hc5 rfl) rfl fun a hF=>q_skip hF (wanted_f hF rfl rfl rfl hc5 rfl) rfl fun a hF=>q_x (v:=(.bool true)) hF hS (ex_pick_t rfl rfl hc5) rfl rfl fun a hF=>q_end (n_jn ?_)
      obtain rfl:=someI hj4
      exact ⟨hF.sub ⟨rfl,rfl,rfl,rfl,rfl,trivial⟩,hS⟩
    ·rintro a w ⟨hF,hS⟩
     refine n_sq ?_
     rcases bcase (t_8) with hc6 | hc6
     ·have hb2:=cond_f hc6 hb2
      refine q_cond_f hF rfl hc6 (q_skipc (n_ib (n_sq (q_region (q_x (v:=(iV (w64 (t_3 + 1)))) hF hS (ex_ibin rfl rfl rfl) rfl rfl fun a hF=>q_x (v:=(iV (w64 (t_3 + 1)))) hF hS (ex_move rfl) rfl rfl fun a hF=>q_end ?_)))))
      obtain rfl:=someI hb2
      exact ⟨rfl,hF.sub ⟨rfl,rfl,rfl,rfl,trivial⟩,hS⟩
     ·have hb2:=cond_t hc6 hb2
      refine q_cond_t hF rfl hc6 (q_seq (q_region (q_x (v:=(.bool false)) hF hS (ex_assign rfl) rfl rfl fun a hF=>q_end (n_sq (q_ret (r_ib (r_sq ?_)))))))
      obtain rfl:=someI hb2
      refine ⟨nofun,.inr fun ho=>?_⟩
      subst ho
      refine r_ib (r_sq ?_)
      obtain rfl:=someI hr
      exact ret_of hF hS rfl (.tmp rfl .nil) rfl
  ·rintro e a w ⟨rfl,rfl,hF,hS⟩
   refine x_ib (n_sq ?_)
   refine q_seq (q_region (q_x (v:=(.bool true)) hF hS (ex_assign rfl) rfl rfl fun a hF=>q_end (n_sq (q_ret ?_))))
   obtain rfl:=someI hr
   exact ret_of hF hS rfl (.tmp rfl .nil) rfl
 ·have hr:=cond_t hc1 hr
  refine q_cond_t hF rfl hc1 (q_seq (q_region (q_x (v:=(.bool false)) hF hS (ex_assign rfl) rfl rfl fun a hF=>q_end (n_sq (q_ret (r_sq ?_))))))
  obtain rfl:=someI hr
  exact ret_of hF hS rfl (.tmp rfl .nil) rfl

theorem c_impl_isRecord (p_s:List impl_Variable) (p_r:impl_Record) (r:Bool) (hr:impl_isRecord p_s p_r=some r) (w0:World) (m:Mem) (hv:Vis m w0) (s1:Sl) (h1:Rd m s1 p_s) (s2:Sl) (h2:Rd m s2 p_r.Values) :
  Ret prog 93 [s1.v,(.agg #[(iV p_r.Area),(iV p_r.House),s2.v])] w0 (fun v _=>v=(.bool r)):=by
 unfold impl_isRecord at hr
 refine ret_start func93 rfl 29 rfl rfl m hv fun a hF hS=>q_seq (q_region (q_box (cs:=[(iV p_r.Area),(iV p_r.House),s2.v]) hF hS rfl rfl rfl fun a w b3 hF hS=>q_x (v:=(.bool false)) hF hS (ex_assign rfl) rfl rfl fun a hF=>q_end (n_sq (q_seq ?_))))
 obtain ⟨t_5,hj1,hr⟩:=bindS hr
 refine q_join (fun a w=>Fr a 29 [(4,(.bool t_5))]∧St [] w0 w m []) ?_ ?_
 ·refine q_region (q_x (v:=(.pointer (some ⟨b3,0,none⟩))) hF hS (ex_fieldAddr underlying85 rfl sz3 rfl rfl) rfl rfl fun a hF=>q_x (v:=(iV p_r.Area)) hF hS (ex_load1 0 0 underlying3 rfl rfl rfl rfl) rfl rfl fun a hF=>q_x (v:=(.bool (decide (0≤p_r.Area)))) hF hS (ex_ibin rfl rfl rfl) rfl rfl fun a hF=>q_x (v:=(.bool (decide (0≤p_r.Area)))) hF hS (ex_move rfl) rfl rfl fun a hF=>?_)
  rcases bcase (decide (0≤p_r.Area)) with hc2 | hc2
  ·have hj1:=cond_f hc2 hj1
   refine q_skip hF (wanted_f hF rfl rfl rfl hc2 rfl) rfl fun a hF=>q_skip hF (wanted_f hF rfl rfl rfl hc2 rfl) rfl fun a hF=>q_skip hF (wanted_f hF rfl rfl rfl hc2 rfl) rfl fun a hF=>q_x (v:=(.bool false)) hF hS (ex_pick_f rfl rfl hc2) rfl rfl fun a hF=>q_x (v:=(.bool false)) hF hS (ex_move rfl) rfl rfl fun a hF=>q_skip hF (wanted_f hF rfl rfl rfl rfl rfl) rfl fun a hF=>q_skip hF (wanted_f hF rfl rfl rfl rfl rfl) rfl fun a hF=>q_skip hF (wanted_f hF rfl rfl rfl rfl rfl) rfl fun a hF=>q_x (v:=(.bool false)) hF hS (ex_pick_f rfl rfl rfl) rfl rfl fun a hF=>q_x (v:=(.bool false)) hF hS (ex_move rfl) rfl rfl fun a hF=>q_skip hF (wanted_f hF rfl rfl rfl rfl rfl) rfl fun a hF=>q_skip hF (wanted_f hF rfl rfl rfl rfl rfl) rfl fun a hF=>q_skip hF (wanted_f hF rfl rfl rfl rfl rfl) rfl fun a hF=>q_x (v:=(.bool false)) hF hS (ex_pick_f rfl rfl rfl) rfl rfl fun a hF=>q_x (v:=(.bool false)) hF hS (ex_move rfl) rfl rfl fun a hF=>q_skip hF (wanted_f hF rfl rfl rfl rfl rfl) rfl fun a hF=>q_skip hF (wanted_f hF rfl rfl rfl rfl rfl) rfl fun a hF=>q_skip hF (wanted_f hF rfl rfl rfl rfl rfl) rfl fun a hF=>q_skip hF (wanted_f hF rfl rfl rfl rfl rfl) rfl fun a hF=>q_x (v:=(.bool false)) hF hS (ex_pick_f rfl rfl rfl) rfl rfl fun a hF=>q_x (v:=(.bool false)) hF hS (ex_assign rfl) rfl rfl fun a hF=>q_end (n_jn ?_)
   obtain rfl:=someI hj1
   exact ⟨hF.sub ⟨rfl,trivial⟩,hS.mask [false]⟩
  ·have hj1:=cond_t hc2 hj1
   refine q_xg (v:=(.pointer (some ⟨b3,0,none⟩))) hF hS (ex_fieldAddr underlying85 rfl sz3 rfl rfl) (wanted_t hF rfl rfl rfl hc2) rfl fun a hF=>q_xg (v:=(iV p_r.Area)) hF hS (ex_load1 0 0 underlying3 rfl rfl rfl rfl) (wanted_t hF rfl rfl rfl hc2) rfl fun a hF=>q_xg (v:=(.bool (decide (p_r.Area≤29)))) hF hS (ex_ibin rfl rfl rfl) (wanted_t hF rfl rfl rfl hc2) rfl fun a hF=>q_x (v:=(.bool (decide (p_r.Area≤29)))) hF hS (ex_pick_t rfl rfl hc2) rfl rfl fun a hF=>q_x (v:=(.bool (decide (p_r.Area≤29)))) hF hS (ex_move rfl) rfl rfl fun a hF=>?_
   rcases bcase (decide (p_r.Area≤29)) with hc3 | hc3
   ·have hj1:=cond_f hc3 hj1
    refine q_skip hF (wanted_f hF rfl rfl rfl hc3 rfl) rfl fun a hF=>q_skip hF (wanted_f hF rfl rfl rfl hc3 rfl) rfl fun a hF=>q_skip hF (wanted_f hF rfl rfl rfl hc3 rfl) rfl fun a hF=>q_x (v:=(.bool false)) hF hS (ex_pick_f rfl rfl hc3) rfl rfl fun a hF=>q_x (v:=(.bool false)) hF hS (ex_move rfl) rfl rfl fun a hF=>q_skip hF (wanted_f hF rfl rfl rfl rfl rfl) rfl fun a hF=>q_skip hF (wanted_f hF rfl rfl rfl rfl rfl) rfl fun a hF=>q_skip hF (wanted_f hF rfl rfl rfl rfl rfl) rfl fun a hF=>q_x (v:=(.bool false)) hF hS (ex_pick_f rfl rfl rfl) rfl rfl fun a hF=>q_x (v:=(.bool false)) hF hS (ex_move rfl) rfl rfl fun a hF=>q_skip hF (wanted_f hF rfl rfl rfl rfl rfl) rfl fun a hF=>q_skip hF (wanted_f hF rfl rfl rfl rfl rfl) rfl fun a hF=>q_skip hF (wanted_f hF rfl rfl rfl rfl rfl) rfl fun a hF=>q_skip hF (wanted_f hF rfl rfl rfl rfl rfl) rfl fun a hF=>q_x (v:=(.bool false)) hF hS (ex_pick_f rfl rfl rfl) rfl rfl fun a hF=>q_x (v:=(.bool false)) hF hS (ex_assign rfl) rfl rfl fun a hF=>q_end (n_jn ?_)
    obtain rfl:=someI hj1
    exact ⟨hF.sub ⟨rfl,trivial⟩,hS.mask [false]⟩
   ·have hj1:=cond_t hc3 hj1
    refine q_xg (v:=(.pointer (some ⟨b3,1,none⟩))) hF hS (ex_fieldAddr underlying85 rfl sz3 rfl rfl) (wanted_t hF rfl rfl rfl hc3) rfl fun a hF=>q_xg (v:=(iV p_r.House)) hF hS (ex_load1 0 0 underlying3 rfl rfl rfl rfl) (wanted_t hF rfl rfl rfl hc3) rfl fun a hF=>q_xg (v:=(.bool (decide (0≤p_r.House)))) hF hS (ex_ibin rfl rfl rfl) (wanted_t hF rfl rfl rfl hc3) rfl fun a hF=>q_x (v:=(.bool (decide (0≤p_r.House)))) hF hS (ex_pick_t rfl rfl hc3) rfl rfl fun a hF=>q_x (v:=(.bool (decide (0≤p_r.House)))) hF hS (ex_move rfl) rfl rfl fun a hF=>?_
    rcases bcase (decide (0≤p_r.House)) with hc4 | hc4
    ·have hj1:=cond_f hc4 hj1
     refine q_skip hF (wanted_f hF rfl rfl rfl hc4 rfl) rfl fun a hF=>q_skip hF (wanted_f hF rfl rfl rfl hc4 rfl) rfl fun a hF=>q_skip hF (wanted_f hF rfl rfl rfl hc4 rfl) rfl fun a hF=>q_x (v:=(.bool false)) hF hS (ex_pick_f rfl rfl hc4) rfl rfl fun a hF=>q_x (v:=(.bool false)) hF hS (ex_move rfl) rfl rfl fun a hF=>q_skip hF (wanted_f hF rfl rfl rfl rfl rfl) rfl fun a hF=>q_skip hF (wanted_f hF rfl rfl rfl rfl rfl) rfl fun a hF=>q_skip hF (wanted_f hF rfl rfl rfl rfl rfl) rfl fun a hF=>q_skip hF (wanted_f hF rfl rfl rfl rfl rfl) rfl fun a hF=>q_x (v:=(.bool false)) hF hS (ex_pick_f rfl rfl rfl) rfl rfl fun a hF=>q_x (v:=(.bool false)) hF hS (ex_assign rfl) rfl rfl fun a hF=>q_end (n_jn ?_)
     obtain rfl:=someI hj1
     exact ⟨hF.sub ⟨rfl,trivial⟩,hS.mask [false]⟩
    ·have hj1:=cond_t hc4 hj1
     refine q_xg (v:=(.pointer (some ⟨b3,1,none⟩))) hF hS (ex_fieldAddr underlying85 rfl sz3 rfl rfl) (wanted_t hF rfl rfl rfl hc4) rfl fun a hF=>q_xg (v:=(iV p_r.House)) hF hS (ex_load1 0 0 underlying3 rfl rfl rfl rfl) (wanted_t hF rfl rfl rfl hc4) rfl fun a hF=>q_xg (v:=(.bool (decide (p_r.House≤999)))) hF hS (ex_ibin rfl rfl rfl) (wanted_t hF rfl rfl rfl hc4) rfl fun a hF=>q_x (v:=(.bool (decide (p_r.House≤999)))) hF hS (ex_pick_t rfl rfl hc4) rfl rfl fun a hF=>q_x (v:=(.bool (decide (p_r.House≤999)))) hF hS (ex_move rfl) rfl rfl fun a hF=>?_
     rcases bcase (decide (p_r.House≤999)) with hc5 | hc5
     ·have hj1:=cond_f hc5 hj1
      refine q_skip hF (wanted_f hF rfl rfl rfl hc5 rfl) rfl fun a hF=>q_skip hF (wanted_f hF rfl rfl rfl hc5 rfl) rfl fun a hF=>q_skip hF (wanted_f hF rfl rfl rfl hc5 rfl) rfl fun a hF=>q_skip hF (wanted_f hF rfl rfl rfl hc5 rfl) rfl fun a hF=>q_x (v:=(.bool false)) hF hS (ex_pick_f rfl rfl hc5) rfl rfl fun a hF=>q_x (v:=(.bool false)) hF hS (ex_assign rfl) rfl rfl fun a hF=>q_end (n_jn ?_)
      obtain rfl:=someI hj1
      exact ⟨hF.sub ⟨rfl,trivial⟩,hS.mask [false]⟩
     ·have hj1:=cond_t hc5 hj1
      refine q_xg (v:=s1.v) hF hS (ex_move rfl) (wanted_t hF rfl rfl rfl hc5) rfl fun a hF=>q_xg (v:=(.pointer (some ⟨b3,2,none⟩))) hF hS (ex_fieldAddr underlying85 rfl sz23 rfl rfl) (wanted_t hF rfl rfl rfl hc5) rfl fun a hF=>q_xg (v:=s2.v) hF hS (ex_load1 0 0 underlying23 rfl rfl rfl rfl) (wanted_t hF rfl rfl rfl hc5) rfl fun a hF=>?_
      obtain ⟨t_4,ht_4,hj1⟩:=bindS hj1
      refine q_callg (vs:=[s1.v,s2.v]) hF hS (wanted_t hF rfl rfl rfl hc5) func117 (by kernel_rfl) rfl rfl rfl (c_impl_areValues p_s p_r.Values t_4 ht_4 _ m hS.vis s1 h1 s2 h2) ?_
      rintro a w _ rfl hF hS
      refine q_x (v:=(.bool t_4)) hF hS (ex_pick_t rfl rfl hc5) rfl rfl fun a hF=>q_x (v:=(.bool t_4)) hF hS (ex_assign rfl) rfl rfl fun a hF=>q_end (n_jn ?_)
      obtain rfl:=someI hj1
      exact ⟨hF.sub ⟨rfl,trivial⟩,hS.mask [false]⟩
 ·rintro a w ⟨hF,hS⟩
  refine n_sq (q_ret ?_)
  obtain rfl:=someI hr
  exact ret_of hF hS rfl (.tmp rfl .nil) rfl

theorem c_impl_isData (p_s:List impl_Variable) (p_l:List impl_Record) (r:Bool) (hr:impl_isData p_s p_l=some r) (w0:World) (m:Mem) (hv:Vis m w0) (s1:Sl) (h1:Rd m s1 p_s) (s2:Sl) (h2:Rd m s2 p_l) :
  Ret prog 56 [s1.v,s2.v] w0 (fun v _=>v=(.bool r)):=by
 unfold impl_isData at hr
 refine ret_start func56 rfl 21 rfl rfl m hv fun a hF hS=>q_seq (q_region (q_x (v:=(.bool false)) hF hS (ex_assign rfl) rfl rfl fun a hF=>q_end (n_sq (q_seq (q_seq (q_region (q_x (v:=s2.v) hF hS (ex_move rfl) rfl rfl fun a hF=>q_x (v:=(iV (goLen p_l))) hF hS (ex_len underlying29 rfl h2.len) rfl rfl fun a hF=>q_x (v:=(.bool (decide (40<(goLen p_l))))) hF hS (ex_ibin rfl rfl rfl) rfl rfl fun a hF=>q_end (n_sq ?_))))))))
 rcases bcase (decide (40<(goLen p_l))) with hc1 | hc1
 ·have hr:=cond_f hc1 hr
  refine q_cond_f hF rfl hc1 (q_skipc (n_sq (q_seq (q_seq (q_region (q_x (v:=s2.v) hF hS (ex_move rfl) rfl rfl fun a hF=>q_x (v:=(iV (goLen p_l))) hF hS (ex_len underlying29 rfl h2.len) rfl rfl fun a hF=>q_x (v:=(iV 0)) hF hS (ex_move rfl) rfl rfl fun a hF=>q_end (n_sq (q_block ?_))))))))
  obtain ⟨o2,hl2,hr⟩:=bindS hr
  refine q_loop (fun (t_3:Int) a w=>Fr a 21 [(0,s1.v),(10,s2.v),(11,(iV (goLen p_l))),(12,(iV t_3))]∧St [] w0 w m []) (fun (o:(Unit) ⊕ (Bool)) e a w=>o=.inl ()∧e=.exit 0∧Fr a 21 []∧St [] w0 w m []) hl2 ⟨hF.sub ⟨rfl,rfl,rfl,rfl,trivial⟩,hS⟩ ?_ ?_
  ·clear hF hS
   rintro t_3 a w st ⟨hF,hS⟩ hb2
   unfold impl_isData_l1 at hb2
   refine q_seq (q_region (q_x (v:=(.bool (decide (t_3<(goLen p_l))))) hF hS (ex_ibin rfl rfl rfl) rfl rfl fun a hF=>q_end (n_sq (q_seq ?_))))
   rcases bcase (decide (t_3<(goLen p_l))) with hc3 | hc3
   ·have hb2:=cond_f hc3 hb2
    refine q_cond_f hF rfl hc3 (q_exit (x_sq ?_))
    obtain rfl:=someI hb2
    exact ⟨nofun,.inl ⟨rfl,rfl,hF.sub trivial,hS⟩⟩
   ·have hb2:=cond_t hc3 hb2
    refine q_cond_t hF rfl hc3 (q_skipc (n_sq (q_seq (q_block (q_seq (q_region ?_))))))
    obtain ⟨e_4,he_4,hb2⟩:=bindS hb2
    obtain ⟨vs5,at5,d5⟩:=h2.at he_4 3 rfl
    obtain ⟨s6,rfl,h6⟩:∃ s6:Sl,vs5=[(iV e_4.Area),(iV e_4.House),s6.v]∧Rd m s6 e_4.Values:=d5
    refine q_x (v:=(elP s2 (t_3.toNat * 3))) hF hS (ex_indexAddr underlying29 sz85 rfl rfl (h2.idx he_4)) rfl rfl fun a hF=>q_x (v:=(.agg #[(iV e_4.Area),(iV e_4.House),s6.v])) hF hS (ex_loadEA (us:=[(iV e_4.Area),(iV e_4.House),s6.v]) 0 underlying85 rfl sz85 rfl ((at5).at) rfl rfl rfl) rfl rfl fun a hF=>q_alloc (cs:=[(iV 0),(iV 0),nilS.v]) hF hS rfl rfl rfl fun a w b7 hF hS=>q_store (vs:=[(iV e_4.Area),(iV e_4.House),s6.v]) (cs':=[(iV e_4.Area),(iV e_4.House),s6.v]) 0 0 hF hS sz85 rfl rfl rfl rfl rfl rfl rfl rfl fun a w hF hS=>q_end (n_sq (q_seq (q_region (q_x (v:=s1.v) hF hS (ex_move rfl) rfl rfl fun a hF=>q_x (v:=(.agg #[(iV e_4.Area),(iV e_4.House),s6.v])) hF hS (ex_loadA (vs:=[(iV e_4.Area),(iV e_4.House),s6.v]) 0 0 underlying85 rfl sz85 rfl rfl rfl rfl) rfl rfl fun a hF=>?_))))
    obtain ⟨t_8,ht_8,hb2⟩:=bindS hb2
    refine q_call (vs:=[s1.v,(.agg #[(iV e_4.Area),(iV e_4.House),s6.v])]) hF hS func93 (by kernel_rfl) rfl rfl rfl (c_impl_isRecord p_s e_4 t_8 ht_8 _ m hS.vis s1 h1 s6 h6) ?_
    rintro a w _ rfl hF hS
    refine q_x (v:=(.bool (!t_8))) hF hS (ex_not rfl) rfl rfl fun a hF=>q_end (n_sq ?_)
    rcases bcase (!t_8) with hc4 | hc4
    ·have hb2:=cond_f hc4 hb2
     refine q_cond_f hF rfl hc4 (q_skipc (n_ib (n_sq (q_region (q_x (v:=(iV (w64 (t_3 + 1)))) hF hS (ex_ibin rfl rfl rfl) rfl rfl fun a hF=>q_x (v:=(iV (w64 (t_3 + 1)))) hF hS (ex_move rfl) rfl rfl fun a hF=>q_end ?_)))))
     obtain rfl:=someI hb2
     exact ⟨rfl,hF.sub ⟨rfl,rfl,rfl,rfl,trivial⟩,hS.mask [false]⟩
    ·have hb2:=cond_t hc4 hb2
     refine q_cond_t hF rfl hc4 (q_seq (q_region (q_x (v:=(.bool false)) hF hS (ex_assign rfl) rfl rfl fun a hF=>q_end (n_sq (q_ret (r_ib (r_sq ?_)))))))
     obtain rfl:=someI hb2
     refine ⟨nofun,.inr fun ho=>?_⟩
     subst ho
     refine r_ib (r_sq ?_)
     obtain rfl:=someI hr
     exact ret_of hF hS rfl (.tmp rfl .nil) rfl
  ·rintro e a w ⟨rfl,rfl,hF,hS⟩
   refine x_ib (n_sq ?_)
   refine q_seq (q_region (q_x (v:=(.bool true)) hF hS (ex_assign rfl) rfl rfl fun a hF=>q_end (n_sq (q_ret ?_))))
   obtain rfl:=someI hr
   exact ret_of hF hS rfl (.tmp rfl .nil) rfl
 ·have hr:=cond_t hc1 hr
  refine q_cond_t hF rfl hc1 (q_seq (q_region (q_x (v:=(.bool false)) hF hS (ex_assign rfl) rfl rfl fun a hF=>q_end (n_sq (q_ret (r_sq ?_))))))
  obtain rfl:=someI hr
  exact ret_of hF hS rfl (.tmp rfl .nil) rfl

theorem c_impl_isArea (p_g:impl_Geo) (p_i:Int) (r:Bool) (hr:impl_isArea p_g p_i=some r) (w0:World) (m:Mem) (hv:Vis m w0) (s1:Sl) (h1:Rd m s1 p_g.Parents) :
  Ret prog 57 [(.agg #[s1.v]),(iV p_i)] w0 (fun v _=>v=(.bool r)):=by
 unfold impl_isArea at hr
 refine ret_start func57 rfl 14 rfl rfl m hv fun a hF hS=>q_seq (q_region (q_box (cs:=[s1.v]) hF hS rfl rfl rfl fun a w b2 hF hS=>q_x (v:=(.bool false)) hF hS (ex_assign rfl) rfl rfl fun a hF=>q_end (n_sq (q_seq ?_))))
 obtain ⟨t_3,hj1,hr⟩:=bindS hr
 refine q_join (fun a w=>Fr a 14 [(4,(.bool t_3))]∧St [] w0 w m []) ?_ ?_
 ·refine q_region (q_x (v:=(iV p_i)) hF hS (ex_move rfl) rfl rfl fun a hF=>q_x (v:=(.bool (decide (0≤p_i)))) hF hS (ex_ibin rfl rfl rfl) rfl rfl fun a hF=>q_x (v:=(.bool (decide (0≤p_i)))) hF hS (ex_move rfl) rfl rfl fun a hF=>?_)
  rcases bcase (decide (0≤p_i)) with hc2 | hc2
  ·have hj1:=cond_f hc2 hj1
   refine q_skip hF (wanted_f hF rfl rfl rfl hc2 rfl) rfl fun a hF=>q_skip hF (wanted_f hF rfl rfl rfl hc2 rfl) rfl fun a hF=>q_skip hF (wanted_f hF rfl rfl rfl hc2 rfl) rfl fun a hF=>q_skip hF (wanted_f hF rfl rfl rfl hc2 rfl) rfl fun a hF=>q_skip hF (wanted_f hF rfl rfl rfl hc2 rfl) rfl fun a hF=>q_x (v:=(.bool false)) hF hS (ex_pick_f rfl rfl hc2) rfl rfl fun a hF=>q_x (v:=(.bool false)) hF hS (ex_assign rfl) rfl rfl fun a hF=>q_end (n_jn ?_)
   obtain rfl:=someI hj1
   exact ⟨hF.sub ⟨rfl,trivial⟩,hS.mask [false]⟩
  ·have hj1:=cond_t hc2 hj1
   refine q_xg (v:=(iV p_i)) hF hS (ex_move rfl) (wanted_t hF rfl rfl rfl hc2) rfl fun a hF=>q_xg (v:=(.pointer (some ⟨b2,0,none⟩))) hF hS (ex_fieldAddr underlying25 rfl sz23 rfl rfl) (wanted_t hF rfl rfl rfl hc2) rfl fun a hF=>q_xg (v:=s1.v) hF hS (ex_load1 0 0 underlying23 rfl rfl rfl rfl) (wanted_t hF rfl rfl rfl hc2) rfl fun a hF=>q_xg (v:=(iV (goLen p_g.Parents))) hF hS (ex_len underlying23 rfl h1.len) (wanted_t hF rfl rfl rfl hc2) rfl fun a hF=>q_xg (v:=(.bool (decide (p_i<(goLen p_g.Parents))))) hF hS (ex_ibin rfl rfl rfl) (wanted_t hF rfl rfl rfl hc2) rfl fun a hF=>q_x (v:=(.bool (decide (p_i<(goLen p_g.Parents))))) hF hS (ex_pick_t rfl rfl hc2) rfl rfl fun a hF=>q_x (v:=(.bool (decide (p_i<(goLen p_g.Parents))))) hF hS (ex_assign rfl) rfl rfl fun a hF=>q_end (n_jn ?_)
   obtain rfl:=someI hj1
   exact ⟨hF.sub ⟨rfl,trivial⟩,hS.mask [false]⟩
 ·rintro a w ⟨hF,hS⟩
  refine n_sq (q_ret ?_)
  obtain rfl:=someI hr
  exact ret_of hF hS rfl (.tmp rfl .nil) rfl

theorem c_slices_Index_int_int (p_s:List Int) (p_v:Int) (r:Int) (hr:slices_Index_int_int p_s p_v=some r) (w0:World) (m:Mem) (hv:Vis m w0) (s1:Sl) (h1:Rd m s1 p_s) :
  Ret prog 118 [s1.v,(iV p_v)] w0 (fun v _=>v=(iV r)):=by
 unfold slices_Index_int_int at hr
 refine ret_start func118 rfl 19 rfl rfl m hv fun a hF hS=>q_seq (q_region (q_x (v:=(iV 0)) hF hS (ex_assign rfl) rfl rfl fun a hF=>q_end (n_sq (q_seq (q_seq (q_region (q_x (v:=s1.v) hF hS (ex_move rfl) rfl rfl fun a hF=>q_x (v:=(iV (goLen p_s))) hF hS (ex_len underlying23 rfl h1.len) rfl rfl fun a hF=>q_x (v:=(iV 0)) hF hS (ex_move rfl) rfl rfl fun a hF=>q_end (n_sq (q_block ?_)))))))))
 obtain ⟨o1,hl1,hr⟩:=bindS hr
 refine q_loop (fun (t_2:Int) a w=>Fr a 19 [(0,s1.v),(1,(iV p_v)),(7,(iV (goLen p_s))),(8,(iV t_2))]∧St [] w0 w m []) (fun (o:(Unit) ⊕ (Int)) e a w=>o=.inl ()∧e=.exit 0∧Fr a 19 []∧St [] w0 w m []) hl1 ⟨hF.sub ⟨rfl,rfl,rfl,rfl,trivial⟩,hS⟩ ?_ ?_
 ·clear hF hS
  rintro t_2 a w st ⟨hF,hS⟩ hb1
  unfold slices_Index_int_int_l1 at hb1
  refine q_seq (q_region (q_x (v:=(.bool (decide (t_2<(goLen p_s))))) hF hS (ex_ibin rfl rfl rfl) rfl rfl fun a hF=>q_end (n_sq (q_seq ?_))))
  rcases bcase (decide (t_2<(goLen p_s))) with hc2 | hc2
  ·have hb1:=cond_f hc2 hb1
   refine q_cond_f hF rfl hc2 (q_exit (x_sq ?_))
   obtain rfl:=someI hb1
   exact ⟨nofun,.inl ⟨rfl,rfl,hF.sub trivial,hS⟩⟩
  ·have hb1:=cond_t hc2 hb1
   refine q_cond_t hF rfl hc2 (q_skipc (n_sq (q_seq (q_block (q_seq (q_region (q_x (v:=(iV t_2)) hF hS (ex_move rfl) rfl rfl fun a hF=>q_x (v:=(iV t_2)) hF hS (ex_assign rfl) rfl rfl fun a hF=>q_end (n_sq (q_seq (q_region (q_x (v:=(iV p_v)) hF hS (ex_move rfl) rfl rfl fun a hF=>q_x (v:=s1.v) hF hS (ex_move rfl) rfl rfl fun a hF=>q_x (v:=(iV t_2)) hF hS (ex_move rfl) rfl rfl fun a hF=>?_)))))))))))
   obtain ⟨e_3,he_3,hb1⟩:=bindS hb1
   obtain ⟨vs4,at4,d4⟩:=h1.at he_3 1 rfl
   obtain rfl:vs4=[(iV e_3)]:=d4
   refine q_x (v:=(elP s1 (t_2.toNat * 1))) hF hS (ex_indexAddr underlying23 sz3 rfl rfl (h1.idx he_3)) rfl rfl fun a hF=>q_x (v:=(iV e_3)) hF hS (ex_loadE1 0 underlying3 rfl rfl ((at4).at) rfl rfl) rfl rfl fun a hF=>q_x (v:=(.bool (p_v == e_3))) hF hS (ex_ibin rfl rfl rfl) rfl rfl fun a hF=>q_end (n_sq ?_)
   rcases bcase (p_v == e_3) with hc3 | hc3
   ·have hb1:=cond_f hc3 hb1
    refine q_cond_f hF rfl hc3 (q_skipc (n_ib (n_sq (q_region (q_x (v:=(iV (w64 (t_2 + 1)))) hF hS (ex_ibin rfl rfl rfl) rfl rfl fun a hF=>q_x (v:=(iV (w64 (t_2 + 1)))) hF hS (ex_move rfl) rfl rfl fun a hF=>q_end ?_)))))
    obtain rfl:=someI hb1
    exact ⟨rfl,hF.sub ⟨rfl,rfl,rfl,rfl,trivial⟩,hS⟩
   ·have hb1:=cond_t hc3 hb1
    refine q_cond_t hF rfl hc3 (q_seq (q_region (q_x (v:=(iV t_2)) hF hS (ex_move rfl) rfl rfl fun a hF=>q_x (v:=(iV t_2)) hF hS (ex_assign rfl) rfl rfl fun a hF=>q_end (n_sq (q_ret (r_ib (r_sq ?_)))))))
    obtain rfl:=someI hb1
    refine ⟨nofun,.inr fun ho=>?_⟩
    subst ho
    refine r_ib (r_sq ?_)
    obtain rfl:=someI hr
    exact ret_of hF hS rfl (.tmp rfl .nil) rfl
 ·rintro e a w ⟨rfl,rfl,hF,hS⟩
  refine x_ib (n_sq ?_)
  refine q_seq (q_region (q_x (v:=(iV (-1))) hF hS (ex_assign rfl) rfl rfl fun a hF=>q_end (n_sq (q_ret ?_))))
  obtain rfl:=someI hr
  exact ret_of hF hS rfl (.tmp rfl .nil) rfl

theorem c_slices_Contains_int_int (p_s:List Int) (p_v:Int) (r:Bool) (hr:slices_Contains_int_int p_s p_v=some r) (w0:World) (m:Mem) (hv:Vis m w0) (s1:Sl) (h1:Rd m s1 p_s) :
  Ret prog 94 [s1.v,(iV p_v)] w0 (fun v _=>v=(.bool r)):=by
 unfold slices_Contains_int_int at hr
 refine ret_start func94 rfl 9 rfl rfl m hv fun a hF hS=>q_seq (q_region (q_x (v:=(.bool false)) hF hS (ex_assign rfl) rfl rfl fun a hF=>q_end (n_sq (q_seq (q_region (q_x (v:=s1.v) hF hS (ex_move rfl) rfl rfl fun a hF=>q_x (v:=(iV p_v)) hF hS (ex_move rfl) rfl rfl fun a hF=>?_))))))
 obtain ⟨t_2,ht_2,hr⟩:=bindS hr
 refine q_call (vs:=[s1.v,(iV p_v)]) hF hS func118 (by kernel_rfl) rfl rfl rfl (c_slices_Index_int_int p_s p_v t_2 ht_2 _ m hS.vis s1 h1) ?_
 rintro a w _ rfl hF hS
 refine q_x (v:=(.bool (decide (0≤t_2)))) hF hS (ex_ibin rfl rfl rfl) rfl rfl fun a hF=>q_x (v:=(.bool (decide (0≤t_2)))) hF hS (ex_assign rfl) rfl rfl fun a hF=>q_end (n_sq (q_ret ?_))
 obtain rfl:=someI hr
 exact ret_of hF hS rfl (.tmp rfl .nil) rfl

theorem c_impl_isLeaf (p_g:impl_Geo) (p_i:Int) (r:Bool) (hr:impl_isLeaf p_g p_i=some r) (w0:World) (m:Mem) (hv:Vis m w0) (s1:Sl) (h1:Rd m s1 p_g.Parents) :
  Ret prog 58 [(.agg #[s1.v]),(iV p_i)] w0 (fun v _=>v=(.bool r)):=by
 unfold impl_isLeaf at hr
 refine ret_start func58 rfl 10 rfl rfl m hv fun a hF hS=>q_seq (q_region (q_box (cs:=[s1.v]) hF hS rfl rfl rfl fun a w b2 hF hS=>q_x (v:=(.bool false)) hF hS (ex_assign rfl) rfl rfl fun a hF=>q_end (n_sq (q_seq (q_region (q_x (v:=(.pointer (some ⟨b2,0,none⟩))) hF hS (ex_fieldAddr underlying25 rfl sz23 rfl rfl) rfl rfl fun a hF=>q_x (v:=s1.v) hF hS (ex_load1 0 0 underlying23 rfl rfl rfl rfl) rfl rfl fun a hF=>q_x (v:=(iV p_i)) hF hS (ex_move rfl) rfl rfl fun a hF=>?_))))))
 obtain ⟨t_3,ht_3,hr⟩:=bindS hr
 refine q_call (vs:=[s1.v,(iV p_i)]) hF hS func94 (by kernel_rfl) rfl rfl rfl (c_slices_Contains_int_int p_g.Parents p_i t_3 ht_3 _ m hS.vis s1 h1) ?_
 rintro a w _ rfl hF hS
 refine q_x (v:=(.bool (!t_3))) hF hS (ex_not rfl) rfl rfl fun a hF=>q_x (v:=(.bool (!t_3))) hF hS (ex_assign rfl) rfl rfl fun a hF=>q_end (n_sq (q_ret ?_))
 obtain rfl:=someI hr
 exact ret_of hF hS rfl (.tmp rfl .nil) rfl

theorem c_impl_isSurvey (p_g:impl_Geo) (p_s:List impl_Variable) (p_l:List impl_Record) (r:Bool) (hr:impl_isSurvey p_g p_s p_l=some r) (w0:World) (m:Mem) (hv:Vis m w0) (s1:Sl) (h1:Rd m s1 p_g.Parents) (s2:Sl) (h2:Rd m s2 p_s) (s3:Sl) (h3:Rd m s3 p_l) :
  Ret prog 19 [(.agg #[s1.v]),s2.v,s3.v] w0 (fun v _=>v=(.bool r)):=by
 unfold impl_isSurvey at hr
 refine ret_start func19 rfl 32 rfl rfl m hv fun a hF hS=>q_seq (q_region (q_box (cs:=[s1.v]) hF hS rfl rfl rfl fun a w b4 hF hS=>q_x (v:=(.bool false)) hF hS (ex_assign rfl) rfl rfl fun a hF=>q_end (n_sq (q_seq (q_seq (q_region (q_x (v:=s2.v) hF hS (ex_move rfl) rfl rfl fun a hF=>q_x (v:=s3.v) hF hS (ex_move rfl) rfl rfl fun a hF=>?_)))))))
 obtain ⟨t_5,ht_5,hr⟩:=bindS hr
 refine q_call (vs:=[s2.v,s3.v]) hF hS func56 (by kernel_rfl) rfl rfl rfl (c_impl_isData p_s p_l t_5 ht_5 _ m hS.vis s2 h2 s3 h3) ?_
 rintro a w _ rfl hF hS
 refine q_x (v:=(.bool (!t_5))) hF hS (ex_not rfl) rfl rfl fun a hF=>q_end (n_sq ?_)
 rcases bcase (!t_5) with hc1 | hc1
 ·have hr:=cond_f hc1 hr
  refine q_cond_f hF rfl hc1 (q_skipc (n_sq (q_seq (q_seq (q_region (q_x (v:=s3.v) hF hS (ex_move rfl) rfl rfl fun a hF=>q_x (v:=(iV (goLen p_l))) hF hS (ex_len underlying29 rfl h3.len) rfl rfl fun a hF=>q_x (v:=(iV 0)) hF hS (ex_move rfl) rfl rfl fun a hF=>q_end (n_sq (q_block ?_))))))))
  obtain ⟨o2,hl2,hr⟩:=bindS hr
  refine q_loop (fun (t_6:Int) a w=>Fr a 32 [(3,(.pointer (some ⟨b4,0,none⟩))),(13,s3.v),(14,(iV (goLen p_l))),(15,(iV t_6))]∧St [] w0 w m [[⟨b4,[s1.v],25⟩]]) (fun (o:(Unit) ⊕ (Bool)) e a w=>o=.inl ()∧e=.exit 0∧Fr a 32 []∧St [] w0 w m []) hl2 ⟨hF.sub ⟨rfl,rfl,rfl,rfl,trivial⟩,hS⟩ ?_ ?_
  ·clear hF hS
   rintro t_6 a w st ⟨hF,hS⟩ hb2
   unfold impl_isSurvey_l1 at hb2
   refine q_seq (q_region (q_x (v:=(.bool (decide (t_6<(goLen p_l))))) hF hS (ex_ibin rfl rfl rfl) rfl rfl fun a hF=>q_end (n_sq (q_seq ?_))))
   rcases bcase (decide (t_6<(goLen p_l))) with hc3 | hc3
   ·have hb2:=cond_f hc3 hb2
    refine q_cond_f hF rfl hc3 (q_exit (x_sq ?_))
    obtain rfl:=someI hb2
    exact ⟨nofun,.inl ⟨rfl,rfl,hF.sub trivial,hS.mask [false]⟩⟩
   ·have hb2:=cond_t hc3 hb2
    refine q_cond_t hF rfl hc3 (q_skipc (n_sq (q_seq (q_block (q_seq (q_region ?_))))))
    obtain ⟨e_7,he_7,hb2⟩:=bindS hb2
    obtain ⟨vs8,at8,d8⟩:=h3.at he_7 3 rfl
    obtain ⟨s9,rfl,h9⟩:∃ s9:Sl,vs8=[(iV e_7.Area),(iV e_7.House),s9.v]∧Rd m s9 e_7.Values:=d8
    refine q_x (v:=(elP s3 (t_6.toNat * 3))) hF hS (ex_indexAddr underlying29 sz85 rfl rfl (h3.idx he_7)) rfl rfl fun a hF=>q_x (v:=(.agg #[(iV e_7.Area),(iV e_7.House),s9.v])) hF hS (ex_loadEA (us:=[(iV e_7.Area),(iV e_7.House),s9.v]) 0 underlying85 rfl sz85 rfl ((at8).at) rfl rfl rfl) rfl rfl fun a hF=>q_alloc (cs:=[(iV 0),(iV 0),nilS.v]) hF hS rfl rfl rfl fun a w b10 hF hS=>q_store (vs:=[(iV e_7.Area),(iV e_7.House),s9.v]) (cs':=[(iV e_7.Area),(iV e_7.House),s9.v]) 0 0 hF hS sz85 rfl rfl rfl rfl rfl rfl rfl rfl fun a w hF hS=>q_end (n_sq (q_seq ?_))
    obtain ⟨t_13,hj4,hb2⟩:=bindS hb2
    refine q_join (fun a w=>Fr a 32 [(3,(.pointer (some ⟨b4,0,none⟩))),(13,s3.v),(14,(iV (goLen p_l))),(15,(iV t_6)),(30,(.bool t_13))]∧St [] w0 w m [[⟨b4,[s1.v],25⟩]]) ?_ ?_
    ·refine q_region (q_x (v:=(.agg #[s1.v])) hF hS (ex_loadA (vs:=[s1.v]) 1 0 underlying25 rfl sz25 rfl rfl rfl rfl) rfl rfl fun a hF=>q_x (v:=(.pointer (some ⟨b10,0,none⟩))) hF hS (ex_fieldAddr underlying85 rfl sz3 rfl rfl) rfl rfl fun a hF=>q_x (v:=(iV e_7.Area)) hF hS (ex_load1 0 0 underlying3 rfl rfl rfl rfl) rfl rfl fun a hF=>?_)
     obtain ⟨t_11,ht_11,hj4⟩:=bindS hj4
     refine q_call (vs:=[(.agg #[s1.v]),(iV e_7.Area)]) hF hS func57 (by kernel_rfl) rfl rfl rfl (c_impl_isArea p_g e_7.Area t_11 ht_11 _ m hS.vis s1 h1) ?_
     rintro a w _ rfl hF hS
     refine q_x (v:=(.bool (!t_11))) hF hS (ex_not rfl) rfl rfl fun a hF=>q_x (v:=(.bool (!t_11))) hF hS (ex_move rfl) rfl rfl fun a hF=>?_
     rcases bcase (!t_11) with hc5 | hc5
     ·have hj4:=cond_f hc5 hj4
      refine q_xg (v:=(.agg #[s1.v])) hF hS (ex_loadA (vs:=[s1.v]) 1 0 underlying25 rfl sz25 rfl rfl rfl rfl) (wanted_t hF rfl rfl rfl hc5) rfl fun a hF=>q_xg (v:=(.pointer (some ⟨b10,0,none⟩))) hF hS (ex_fieldAddr underlying85 rfl sz3 rfl rfl) (wanted_t hF rfl rfl rfl hc5) rfl fun a hF=>q_xg (v:=(iV e_7.Area)) hF hS (ex_load1 0 0 underlying3 rfl rfl rfl rfl) (wanted_t hF rfl rfl rfl hc5) rfl fun a hF=>?_
      obtain ⟨t_12,ht_12,hj4⟩:=bindS hj4
      refine q_callg (vs:=[(.agg #[s1.v]),(iV e_7.Area)]) hF hS (wanted_t hF rfl rfl rfl hc5) func58 (by kernel_rfl) rfl rfl rfl (c_impl_isLeaf p_g e_7.Area t_12 ht_12 _ m hS.vis s1 h1) ?_
      rintro a w _ rfl hF hS
      refine q_xg (v:=(.bool (!t_12))) hF hS (ex_not rfl) (wanted_t hF rfl rfl rfl hc5) rfl fun a hF=>q_x (v:=(.bool (!t_12))) hF hS (ex_pick_f rfl rfl hc5) rfl rfl fun a hF=>q_end (n_jn ?_)
      obtain rfl:=someI hj4
      exact ⟨hF.sub ⟨rfl,rfl,rfl,rfl,rfl,trivial⟩,hS.mask [false,true]⟩
     ·have hj4:=cond_t hc5 hj4
      refine q_skip hF (wanted_f hF rfl rfl rfl hc5 rfl) rfl fun a hF=>q_skip hF (wanted_f hF rfl rfl rfl hc5 rfl) rfl fun a hF=>q_skip hF (wanted_f hF rfl rfl rfl hc5 rfl) rfl fun a hF=>q_skip hF (wanted_f hF rfl rfl rfl hc5 rfl) rfl fun a hF=>q_skip hF (wanted_f hF rfl rfl rfl hc5 rfl) rfl fun a hF=>q_x (v:=(.bool true)) hF hS (ex_pick_t rfl rfl hc5) rfl rfl fun a hF=>q_end (n_jn ?_)
      obtain rfl:=someI hj4
      exact ⟨hF.sub ⟨rfl,rfl,rfl,rfl,rfl,trivial⟩,hS.mask [false,true]⟩
    ·rintro a w ⟨hF,hS⟩
     refine n_sq ?_
     rcases bcase (t_13) with hc6 | hc6
     ·have hb2:=cond_f hc6 hb2
      refine q_cond_f hF rfl hc6 (q_skipc (n_ib (n_sq (q_region (q_x (v:=(iV (w64 (t_6 + 1)))) hF hS (ex_ibin rfl rfl rfl) rfl rfl fun a hF=>q_x (v:=(iV (w64 (t_6 + 1)))) hF hS (ex_move rfl) rfl rfl fun a hF=>q_end ?_)))))
      obtain rfl:=someI hb2
      exact ⟨rfl,hF.sub ⟨rfl,rfl,rfl,rfl,trivial⟩,hS⟩
     ·have hb2:=cond_t hc6 hb2
      refine q_cond_t hF rfl hc6 (q_seq (q_region (q_x (v:=(.bool false)) hF hS (ex_assign rfl) rfl rfl fun a hF=>q_end (n_sq (q_ret (r_ib (r_sq ?_)))))))
      obtain rfl:=someI hb2
      refine ⟨nofun,.inr fun ho=>?_⟩
      subst ho
      refine r_ib (r_sq ?_)
      obtain rfl:=someI hr
      exact ret_of hF hS rfl (.tmp rfl .nil) rfl
  ·rintro e a w ⟨rfl,rfl,hF,hS⟩
   refine x_ib (n_sq ?_)
   refine q_seq (q_region (q_x (v:=(.bool true)) hF hS (ex_assign rfl) rfl rfl fun a hF=>q_end (n_sq (q_ret ?_))))
   obtain rfl:=someI hr
   exact ret_of hF hS rfl (.tmp rfl .nil) rfl
 ·have hr:=cond_t hc1 hr
  refine q_cond_t hF rfl hc1 (q_seq (q_region (q_x (v:=(.bool false)) hF hS (ex_assign rfl) rfl rfl fun a hF=>q_end (n_sq (q_ret (r_sq ?_))))))
  obtain rfl:=someI hr
  exact ret_of hF hS rfl (.tmp rfl .nil) rfl

theorem c_impl_ancestorAt (p_g:impl_Geo) (p_i:Int) (p_level:Int) (r:Int) (hr:impl_ancestorAt p_g p_i p_level=some r) (w0:World) (m:Mem) (hv:Vis m w0) (s1:Sl) (h1:Rd m s1 p_g.Parents) :
  Ret prog 96 [(.agg #[s1.v]),(iV p_i),(iV p_level)] w0 (fun v _=>v=(iV r)):=by
 unfold impl_ancestorAt at hr
 refine ret_start func96 rfl 29 rfl rfl m hv fun a hF hS=>q_seq (q_region (q_box (cs:=[s1.v]) hF hS rfl rfl rfl fun a w b2 hF hS=>q_x (v:=(iV 0)) hF hS (ex_assign rfl) rfl rfl fun a hF=>q_end (n_sq (q_seq (q_region (q_x (v:=(.agg #[s1.v])) hF hS (ex_loadA (vs:=[s1.v]) 0 0 underlying25 rfl sz25 rfl rfl rfl rfl) rfl rfl fun a hF=>q_x (v:=(iV p_i)) hF hS (ex_move rfl) rfl rfl fun a hF=>?_))))))
 obtain ⟨t_3,ht_3,hr⟩:=bindS hr
 refine q_call (vs:=[(.agg #[s1.v]),(iV p_i)]) hF hS func59 (by kernel_rfl) rfl rfl rfl (c_impl_depthOf p_g p_i t_3 ht_3 _ m hS.vis s1 h1) ?_
 rintro a w _ rfl hF hS
 refine q_x (v:=(iV t_3)) hF hS (ex_assign rfl) rfl rfl fun a hF=>q_end (n_sq (q_seq (q_seq ?_)))
 obtain ⟨t_4,hj1,hr⟩:=bindS hr
 refine q_join (fun a w=>Fr a 29 [(1,(iV p_i)),(2,(iV p_level)),(3,(.pointer (some ⟨b2,0,none⟩))),(7,(iV t_3)),(17,(.bool t_4))]∧St [] w0 w m [[⟨b2,[s1.v],25⟩]]) ?_ ?_
 ·refine q_region (q_x (v:=(iV p_level)) hF hS (ex_move rfl) rfl rfl fun a hF=>q_x (v:=(.bool (decide (p_level<0)))) hF hS (ex_ibin rfl rfl rfl) rfl rfl fun a hF=>q_x (v:=(.bool (decide (p_level<0)))) hF hS (ex_move rfl) rfl rfl fun a hF=>?_)
  rcases bcase (decide (p_level<0)) with hc2 | hc2
  ·have hj1:=cond_f hc2 hj1
   refine q_xg (v:=(iV t_3)) hF hS (ex_move rfl) (wanted_t hF rfl rfl rfl hc2) rfl fun a hF=>q_xg (v:=(iV p_level)) hF hS (ex_move rfl) (wanted_t hF rfl rfl rfl hc2) rfl fun a hF=>q_xg (v:=(.bool (decide (t_3<p_level)))) hF hS (ex_ibin rfl rfl rfl) (wanted_t hF rfl rfl rfl hc2) rfl fun a hF=>q_x (v:=(.bool (decide (t_3<p_level)))) hF hS (ex_pick_f rfl rfl hc2) rfl rfl fun a hF=>q_end (n_jn ?_)
   obtain rfl:=someI hj1
   exact ⟨hF.sub ⟨rfl,rfl,rfl,rfl,rfl,trivial⟩,hS⟩
  ·have hj1:=cond_t hc2 hj1
   refine q_skip hF (wanted_f hF rfl rfl rfl hc2 rfl) rfl fun a hF=>q_skip hF (wanted_f hF rfl rfl rfl hc2 rfl) rfl fun a hF=>q_skip hF (wanted_f hF rfl rfl rfl hc2 rfl) rfl fun a hF=>q_x (v:=(.bool true)) hF hS (ex_pick_t rfl rfl hc2) rfl rfl fun a hF=>q_end (n_jn ?_)
   obtain rfl:=someI hj1
   exact ⟨hF.sub ⟨rfl,rfl,rfl,rfl,rfl,trivial⟩,hS⟩
 ·rintro a w ⟨hF,hS⟩
  refine n_sq ?_
  rcases bcase (t_4) with hc3 | hc3
  ·have hr:=cond_f hc3 hr
   refine q_cond_f hF rfl hc3 (q_skipc (n_sq (q_seq (q_block ?_))))
   obtain ⟨i_9,hl4,hr⟩:=bindS hr
   refine q_loop (fun (s:Int × Int) a w=>∃ i_5,∃ d_6,s=(i_5,d_6)∧Fr a 29 [(1,(iV i_5)),(2,(iV p_level)),(3,(.pointer (some ⟨b2,0,none⟩))),(7,(iV d_6))]∧St [] w0 w m [[⟨b2,[s1.v],25⟩]]) (fun (i_9:Int) e a w=>e=.exit 0∧Fr a 29 [(1,(iV i_9))]∧St [] w0 w m []) hl4 ⟨_,_,rfl,hF.sub ⟨rfl,rfl,rfl,rfl,trivial⟩,hS⟩ ?_ ?_
   ·clear hF hS
    rintro s a w st ⟨i_5,d_6,rfl,hF,hS⟩ hb4
    unfold impl_ancestorAt_l1 at hb4
    refine q_seq (q_seq (q_region (q_x (v:=(iV d_6)) hF hS (ex_move rfl) rfl rfl fun a hF=>q_x (v:=(iV p_level)) hF hS (ex_move rfl) rfl rfl fun a hF=>q_x (v:=(.bool (decide (p_level<d_6)))) hF hS (ex_ibin rfl rfl rfl) rfl rfl fun a hF=>q_end (n_sq ?_))))
    rcases bcase (decide (p_level<d_6)) with hc5 | hc5
    ·have hb4:=cond_f hc5 hb4
     refine q_cond_f hF rfl hc5 (q_exit (x_sq ?_))
     obtain rfl:=someI hb4
     exact ⟨nofun,.inl ⟨rfl,hF.sub ⟨rfl,trivial⟩,hS.mask [false]⟩⟩
    ·have hb4:=cond_t hc5 hb4
     refine q_cond_t hF rfl hc5 (q_skipc (n_sq (q_seq (q_block (q_region (q_x (v:=(.pointer (some ⟨b2,0,none⟩))) hF hS (ex_fieldAddr underlying25 rfl sz23 rfl rfl) rfl rfl fun a hF=>q_x (v:=s1.v) hF hS (ex_load1 0 0 underlying23 rfl rfl rfl rfl) rfl rfl fun a hF=>q_x (v:=(iV i_5)) hF hS (ex_move rfl) rfl rfl fun a hF=>?_))))))
     obtain ⟨e_7,he_7,hb4⟩:=bindS hb4
     obtain ⟨vs8,at8,d8⟩:=h1.at he_7 1 rfl
     obtain rfl:vs8=[(iV e_7)]:=d8
     refine q_x (v:=(elP s1 (i_5.toNat * 1))) hF hS (ex_indexAddr underlying23 sz3 rfl rfl (h1.idx he_7)) rfl rfl fun a hF=>q_x (v:=(iV e_7)) hF hS (ex_loadE1 0 underlying3 rfl rfl ((at8).at) rfl rfl) rfl rfl fun a hF=>q_x (v:=(iV e_7)) hF hS (ex_assign rfl) rfl rfl fun a hF=>q_end (n_ib (n_sq (q_region (q_x (v:=(iV d_6)) hF hS (ex_move rfl) rfl rfl fun a hF=>q_x (v:=(iV (w64 (d_6 - 1)))) hF hS (ex_ibin rfl rfl rfl) rfl rfl fun a hF=>q_x (v:=(iV (w64 (d_6 - 1)))) hF hS (ex_assign rfl) rfl rfl fun a hF=>q_end ?_))))
     obtain rfl:=someI hb4
     exact ⟨rfl,_,_,rfl,hF.sub ⟨rfl,rfl,rfl,rfl,trivial⟩,hS⟩
   ·rintro e a w ⟨rfl,hF,hS⟩
    refine x_ib (n_sq ?_)
    refine q_seq (q_region (q_x (v:=(iV i_9)) hF hS (ex_move rfl) rfl rfl fun a hF=>q_x (v:=(iV i_9)) hF hS (ex_assign rfl) rfl rfl fun a hF=>q_end (n_sq (q_ret ?_))))
    obtain rfl:=someI hr
    exact ret_of hF hS rfl (.tmp rfl .nil) rfl
  ·have hr:=cond_t hc3 hr
   refine q_cond_t hF rfl hc3 (q_seq (q_region (q_x (v:=(iV (-1))) hF hS (ex_assign rfl) rfl rfl fun a hF=>q_end (n_sq (q_ret (r_sq ?_))))))
   obtain rfl:=someI hr
   exact ret_of hF hS rfl (.tmp rfl .nil) rfl

theorem c_impl_meetsWhere (p_t:impl_Table) (p_r:impl_Record) (r:Bool) (hr:impl_meetsWhere p_t p_r=some r) (w0:World) (m:Mem) (hv:Vis m w0) (s1:Sl) (h1:Rd m s1 p_t.Vars) (s2:Sl) (h2:Rd m s2 p_t.Where) (s3:Sl) (h3:Rd m s3 p_r.Values) :
  Ret prog 97 [(.agg #[(iV p_t.Level),s1.v,s2.v,(iV p_t.Sum)]),(.agg #[(iV p_r.Area),(iV p_r.House),s3.v])] w0 (fun v _=>v=(.bool r)):=by
 unfold impl_meetsWhere at hr
 refine ret_start func97 rfl 29 rfl rfl m hv fun a hF hS=>q_seq (q_region (q_box (cs:=[(iV p_t.Level),s1.v,s2.v,(iV p_t.Sum)]) hF hS rfl rfl rfl fun a w b4 hF hS=>q_box (cs:=[(iV p_r.Area),(iV p_r.House),s3.v]) hF hS rfl rfl rfl fun a w b5 hF hS=>q_x (v:=(.bool false)) hF hS (ex_assign rfl) rfl rfl fun a hF=>q_end (n_sq (q_seq (q_seq (q_region (q_x (v:=(.pointer (some ⟨b4,2,none⟩))) hF hS (ex_fieldAddr underlying28 rfl sz23 rfl rfl) rfl rfl fun a hF=>q_x (v:=s2.v) hF hS (ex_load1 1 0 underlying23 rfl rfl rfl rfl) rfl rfl fun a hF=>q_x (v:=(iV (goLen p_t.Where))) hF hS (ex_len underlying23 rfl h2.len) rfl rfl fun a hF=>q_x (v:=(iV 0)) hF hS (ex_move rfl) rfl rfl fun a hF=>q_end (n_sq (q_block ?_)))))))))
 obtain ⟨o1,hl1,hr⟩:=bindS hr
 refine q_loop (fun (t_6:Int) a w=>Fr a 29 [(3,(.pointer (some ⟨b5,0,none⟩))),(8,s2.v),(9,(iV (goLen p_t.Where))),(10,(iV t_6))]∧St [] w0 w m [[⟨b5,[(iV p_r.Area),(iV p_r.House),s3.v],85⟩]]) (fun (o:(Unit) ⊕ (Bool)) e a w=>o=.inl ()∧e=.exit 0∧Fr a 29 []∧St [] w0 w m []) hl1 ⟨hF.sub ⟨rfl,rfl,rfl,rfl,trivial⟩,hS.mask [true,false]⟩ ?_ ?_
 ·clear hF hS
  rintro t_6 a w st ⟨hF,hS⟩ hb1
  unfold impl_meetsWhere_l1 at hb1
  refine q_seq (q_region (q_x (v:=(.bool (decide (t_6<(goLen p_t.Where))))) hF hS (ex_ibin rfl rfl rfl) rfl rfl fun a hF=>q_end (n_sq (q_seq ?_))))
  rcases bcase (decide (t_6<(goLen p_t.Where))) with hc2 | hc2
  ·have hb1:=cond_f hc2 hb1
   refine q_cond_f hF rfl hc2 (q_exit (x_sq ?_))
   obtain rfl:=someI hb1
   exact ⟨nofun,.inl ⟨rfl,rfl,hF.sub trivial,hS.mask [false]⟩⟩
  ·have hb1:=cond_t hc2 hb1
   refine q_cond_t hF rfl hc2 (q_skipc (n_sq (q_seq (q_block (q_seq (q_region (q_x (v:=(iV t_6)) hF hS (ex_move rfl) rfl rfl fun a hF=>?_)))))))
   obtain ⟨e_7,he_7,hb1⟩:=bindS hb1
   obtain ⟨vs8,at8,d8⟩:=h2.at he_7 1 rfl
   obtain rfl:vs8=[(iV e_7)]:=d8
   refine q_x (v:=(elP s2 (t_6.toNat * 1))) hF hS (ex_indexAddr underlying23 sz3 rfl rfl (h2.idx he_7)) rfl rfl fun a hF=>q_x (v:=(iV e_7)) hF hS (ex_loadE1 0 underlying3 rfl rfl ((at8).at) rfl rfl) rfl rfl fun a hF=>q_x (v:=(iV t_6)) hF hS (ex_assign rfl) rfl rfl fun a hF=>q_x (v:=(iV e_7)) hF hS (ex_assign rfl) rfl rfl fun a hF=>q_end (n_sq (q_seq ?_))
   obtain ⟨t_12,hj3,hb1⟩:=bindS hb1
   refine q_join (fun a w=>Fr a 29 [(3,(.pointer (some ⟨b5,0,none⟩))),(8,s2.v),(9,(iV (goLen p_t.Where))),(10,(iV t_6)),(27,(.bool t_12))]∧St [] w0 w m [[⟨b5,[(iV p_r.Area),(iV p_r.House),s3.v],85⟩]]) ?_ ?_
   ·refine q_region (q_x (v:=(iV e_7)) hF hS (ex_move rfl) rfl rfl fun a hF=>q_x (v:=(.bool (e_7 != 0))) hF hS (ex_ibin rfl rfl rfl) rfl rfl fun a hF=>q_x (v:=(.bool (e_7 != 0))) hF hS (ex_move rfl) rfl rfl fun a hF=>?_)
    rcases bcase (e_7 != 0) with hc4 | hc4
    ·have hj3:=cond_f hc4 hj3
     refine q_skip hF (wanted_f hF rfl rfl rfl hc4 rfl) rfl fun a hF=>q_skip hF (wanted_f hF rfl rfl rfl hc4 rfl) rfl fun a hF=>q_skip hF (wanted_f hF rfl rfl rfl hc4 rfl) rfl fun a hF=>q_skip hF (wanted_f hF rfl rfl rfl hc4 rfl) rfl fun a hF=>q_skip hF (wanted_f hF rfl rfl rfl hc4 rfl) rfl fun a hF=>q_skip hF (wanted_f hF rfl rfl rfl hc4 rfl) rfl fun a hF=>q_skip hF (wanted_f hF rfl rfl rfl hc4 rfl) rfl fun a hF=>q_skip hF (wanted_f hF rfl rfl rfl hc4 rfl) rfl fun a hF=>q_skip hF (wanted_f hF rfl rfl rfl hc4 rfl) rfl fun a hF=>q_x (v:=(.bool false)) hF hS (ex_pick_f rfl rfl hc4) rfl rfl fun a hF=>q_end (n_jn ?_)
     obtain rfl:=someI hj3
     exact ⟨hF.sub ⟨rfl,rfl,rfl,rfl,rfl,trivial⟩,hS⟩
    ·have hj3:=cond_t hc4 hj3
     refine q_xg (v:=(iV e_7)) hF hS (ex_move rfl) (wanted_t hF rfl rfl rfl hc4) rfl fun a hF=>q_xg (v:=(.pointer (some ⟨b5,2,none⟩))) hF hS (ex_fieldAddr underlying85 rfl sz23 rfl rfl) (wanted_t hF rfl rfl rfl hc4) rfl fun a hF=>q_xg (v:=s3.v) hF hS (ex_load1 0 0 underlying23 rfl rfl rfl rfl) (wanted_t hF rfl rfl rfl hc4) rfl fun a hF=>q_xg (v:=(iV t_6)) hF hS (ex_move rfl) (wanted_t hF rfl rfl rfl hc4) rfl fun a hF=>?_
     obtain ⟨e_9,he_9,hj3⟩:=bindS hj3
     obtain ⟨vs10,at10,d10⟩:=h3.at he_9 1 rfl
     obtain rfl:vs10=[(iV e_9)]:=d10
     refine q_xg (v:=(elP s3 (t_6.toNat * 1))) hF hS (ex_indexAddr underlying23 sz3 rfl rfl (h3.idx he_9)) (wanted_t hF rfl rfl rfl hc4) rfl fun a hF=>q_xg (v:=(iV e_9)) hF hS (ex_loadE1 0 underlying3 rfl rfl ((at10).at) rfl rfl) (wanted_t hF rfl rfl rfl hc4) rfl fun a hF=>?_
     obtain ⟨t_11,ht_11,hj3⟩:=bindS hj3
     refine q_xg (v:=(iV t_11)) hF hS (ex_shr rfl rfl ht_11) (wanted_t hF rfl rfl rfl hc4) rfl fun a hF=>q_xg (v:=(iV (goBits .and .i64 t_11 1))) hF hS (ex_bits rfl rfl rfl) (wanted_t hF rfl rfl rfl hc4) rfl fun a hF=>q_xg (v:=(.bool ((goBits .and .i64 t_11 1) == 0))) hF hS (ex_ibin rfl rfl rfl) (wanted_t hF rfl rfl rfl hc4) rfl fun a hF=>q_x (v:=(.bool ((goBits .and .i64 t_11 1) == 0))) hF hS (ex_pick_t rfl rfl hc4) rfl rfl fun a hF=>q_end (n_jn ?_)
     obtain rfl:=someI hj3
     exact ⟨hF.sub ⟨rfl,rfl,rfl,rfl,rfl,trivial⟩,hS⟩
   ·rintro a w ⟨hF,hS⟩
    refine n_sq ?_
    rcases bcase (t_12) with hc5 | hc5
    ·have hb1:=cond_f hc5 hb1
     refine q_cond_f hF rfl hc5 (q_skipc (n_ib (n_sq (q_region (q_x (v:=(iV (w64 (t_6 + 1)))) hF hS (ex_ibin rfl rfl rfl) rfl rfl fun a hF=>q_x (v:=(iV (w64 (t_6 + 1)))) hF hS (ex_move rfl) rfl rfl fun a hF=>q_end ?_)))))
     obtain rfl:=someI hb1
     exact ⟨rfl,hF.sub ⟨rfl,rfl,rfl,rfl,trivial⟩,hS⟩
    ·have hb1:=cond_t hc5 hb1
     refine q_cond_t hF rfl hc5 (q_seq (q_region (q_x (v:=(.bool false)) hF hS (ex_assign rfl) rfl rfl fun a hF=>q_end (n_sq (q_ret (r_ib (r_sq ?_)))))))
     obtain rfl:=someI hb1
     refine ⟨nofun,.inr fun ho=>?_⟩
     subst ho
     refine r_ib (r_sq ?_)
     obtain rfl:=someI hr
     exact ret_of hF hS rfl (.tmp rfl .nil) rfl
 ·rintro e a w ⟨rfl,rfl,hF,hS⟩
  refine x_ib (n_sq ?_)
  refine q_seq (q_region (q_x (v:=(.bool true)) hF hS (ex_assign rfl) rfl rfl fun a hF=>q_end (n_sq (q_ret ?_))))
  obtain rfl:=someI hr
  exact ret_of hF hS rfl (.tmp rfl .nil) rfl

theorem c_cmp_isNaN_int (p_x:Int) (r:Bool) (hr:cmp_isNaN_int p_x=some r) (w0:World) (m:Mem) (hv:Vis m w0) :
  Ret prog 127 [(iV p_x)] w0 (fun v _=>v=(.bool r)):=by
 unfold cmp_isNaN_int at hr
 refine ret_start func127 rfl 6 rfl rfl m hv fun a hF hS=>q_seq (q_region (q_x (v:=(.bool false)) hF hS (ex_assign rfl) rfl rfl fun a hF=>q_end (n_sq (q_seq (q_region (q_x (v:=(iV p_x)) hF hS (ex_move rfl) rfl rfl fun a hF=>q_x (v:=(iV p_x)) hF hS (ex_move rfl) rfl rfl fun a hF=>q_x (v:=(.bool (p_x != p_x))) hF hS (ex_ibin rfl rfl rfl) rfl rfl fun a hF=>q_x (v:=(.bool (p_x != p_x))) hF hS (ex_assign rfl) rfl rfl fun a hF=>q_end (n_sq (q_ret ?_))))))))
 obtain rfl:=someI hr
 exact ret_of hF hS rfl (.tmp rfl .nil) rfl

theorem c_cmp_Less_int (p_x:Int) (p_y:Int) (r:Bool) (hr:cmp_Less_int p_x p_y=some r) (w0:World) (m:Mem) (hv:Vis m w0) :
  Ret prog 124 [(iV p_x),(iV p_y)] w0 (fun v _=>v=(.bool r)):=by
 unfold cmp_Less_int at hr
 refine ret_start func124 rfl 17 rfl rfl m hv fun a hF hS=>q_seq (q_region (q_x (v:=(.bool false)) hF hS (ex_assign rfl) rfl rfl fun a hF=>q_end (n_sq (q_seq ?_))))
 obtain ⟨t_3,hj1,hr⟩:=bindS hr
 refine q_join (fun a w=>Fr a 17 [(4,(.bool t_3))]∧St [] w0 w m []) ?_ ?_
 ·refine q_region (q_x (v:=(iV p_x)) hF hS (ex_move rfl) rfl rfl fun a hF=>?_)
  obtain ⟨t_1,ht_1,hj1⟩:=bindS hj1
  refine q_call (vs:=[(iV p_x)]) hF hS func127 (by kernel_rfl) rfl rfl rfl (c_cmp_isNaN_int p_x t_1 ht_1 _ m hS.vis) ?_
  rintro a w _ rfl hF hS
  refine q_x (v:=(.bool t_1)) hF hS (ex_move rfl) rfl rfl fun a hF=>?_
  rcases bcase (t_1) with hc2 | hc2
  ·have hj1:=cond_f hc2 hj1
   refine q_skip hF (wanted_f hF rfl rfl rfl hc2 rfl) rfl fun a hF=>q_skip hF (wanted_f hF rfl rfl rfl hc2 rfl) rfl fun a hF=>q_skip hF (wanted_f hF rfl rfl rfl hc2 rfl) rfl fun a hF=>q_x (v:=(.bool false)) hF hS (ex_pick_f rfl rfl hc2) rfl rfl fun a hF=>q_x (v:=(.bool false)) hF hS (ex_move rfl) rfl rfl fun a hF=>q_xg (v:=(iV p_x)) hF hS (ex_move rfl) (wanted_t hF rfl rfl rfl rfl) rfl fun a hF=>q_xg (v:=(iV p_y)) hF hS (ex_move rfl) (wanted_t hF rfl rfl rfl rfl) rfl fun a hF=>q_xg (v:=(.bool (decide (p_x<p_y)))) hF hS (ex_ibin rfl rfl rfl) (wanted_t hF rfl rfl rfl rfl) rfl fun a hF=>q_x (v:=(.bool (decide (p_x<p_y)))) hF hS (ex_pick_f rfl rfl rfl) rfl rfl fun a hF=>q_x (v:=(.bool (decide (p_x<p_y)))) hF hS (ex_assign rfl) rfl rfl fun a hF=>q_end (n_jn ?_)
   obtain rfl:=someI hj1
   exact ⟨hF.sub ⟨rfl,trivial⟩,hS⟩
  ·have hj1:=cond_t hc2 hj1
   refine q_xg (v:=(iV p_y)) hF hS (ex_move rfl) (wanted_t hF rfl rfl rfl hc2) rfl fun a hF=>?_
   obtain ⟨t_2,ht_2,hj1⟩:=bindS hj1
   refine q_callg (vs:=[(iV p_y)]) hF hS (wanted_t hF rfl rfl rfl hc2) func127 (by kernel_rfl) rfl rfl rfl (c_cmp_isNaN_int p_y t_2 ht_2 _ m hS.vis) ?_
   rintro a w _ rfl hF hS
   refine q_xg (v:=(.bool (!t_2))) hF hS (ex_not rfl) (wanted_t hF rfl rfl rfl hc2) rfl fun a hF=>q_x (v:=(.bool (!t_2))) hF hS (ex_pick_t rfl rfl hc2) rfl rfl fun a hF=>q_x (v:=(.bool (!t_2))) hF hS (ex_move rfl) rfl rfl fun a hF=>?_
   rcases bcase (!t_2) with hc3 | hc3
   ·have hj1:=cond_f hc3 hj1
    refine q_xg (v:=(iV p_x)) hF hS (ex_move rfl) (wanted_t hF rfl rfl rfl hc3) rfl fun a hF=>q_xg (v:=(iV p_y)) hF hS (ex_move rfl) (wanted_t hF rfl rfl rfl hc3) rfl fun a hF=>q_xg (v:=(.bool (decide (p_x<p_y)))) hF hS (ex_ibin rfl rfl rfl) (wanted_t hF rfl rfl rfl hc3) rfl fun a hF=>q_x (v:=(.bool (decide (p_x<p_y)))) hF hS (ex_pick_f rfl rfl hc3) rfl rfl fun a hF=>q_x (v:=(.bool (decide (p_x<p_y)))) hF hS (ex_assign rfl) rfl rfl fun a hF=>q_end (n_jn ?_)
    obtain rfl:=someI hj1
    exact ⟨hF.sub ⟨rfl,trivial⟩,hS⟩
   ·have hj1:=cond_t hc3 hj1
    refine q_skip hF (wanted_f hF rfl rfl rfl hc3 rfl) rfl fun a hF=>q_skip hF (wanted_f hF rfl rfl rfl hc3 rfl) rfl fun a hF=>q_skip hF (wanted_f hF rfl rfl rfl hc3 rfl) rfl fun a hF=>q_x (v:=(.bool true)) hF hS (ex_pick_t rfl rfl hc3) rfl rfl fun a hF=>q_x (v:=(.bool true)) hF hS (ex_assign rfl) rfl rfl fun a hF=>q_end (n_jn ?_)
    obtain rfl:=someI hj1
    exact ⟨hF.sub ⟨rfl,trivial⟩,hS⟩
 ·rintro a w ⟨hF,hS⟩
  refine n_sq (q_ret ?_)
  obtain rfl:=someI hr
  exact ret_of hF hS rfl (.tmp rfl .nil) rfl

theorem c_slices_isNaN_int (p_x:Int) (r:Bool) (hr:slices_isNaN_int p_x=some r) (w0:World) (m:Mem) (hv:Vis m w0) :
  Ret prog 125 [(iV p_x)] w0 (fun v _=>v=(.bool r)):=by
 unfold slices_isNaN_int at hr
 refine ret_start func125 rfl 6 rfl rfl m hv fun a hF hS=>q_seq (q_region (q_x (v:=(.bool false)) hF hS (ex_assign rfl) rfl rfl fun a hF=>q_end (n_sq (q_seq (q_region (q_x (v:=(iV p_x)) hF hS (ex_move rfl) rfl rfl fun a hF=>q_x (v:=(iV p_x)) hF hS (ex_move rfl) rfl rfl fun a hF=>q_x (v:=(.bool (p_x != p_x))) hF hS (ex_ibin rfl rfl rfl) rfl rfl fun a hF=>q_x (v:=(.bool (p_x != p_x))) hF hS (ex_assign rfl) rfl rfl fun a hF=>q_end (n_sq (q_ret ?_))))))))
 obtain rfl:=someI hr
 exact ret_of hF hS rfl (.tmp rfl .nil) rfl

theorem c_slices_BinarySearch_int_int (p_x:List Int) (p_target:Int) (r:Int × Bool) (hr:slices_BinarySearch_int_int p_x p_target=some r) (w0:World) (m:Mem) (hv:Vis m w0) (s1:Sl) (h1:Rd m s1 p_x) :
  Ret prog 119 [s1.v,(iV p_target)] w0 (fun v _=>v=(.tuple #[(iV r.1),(.bool r.2)])):=by
 unfold slices_BinarySearch_int_int at hr
 refine ret_start func119 rfl 54 rfl rfl m hv fun a hF hS=>q_seq (q_region (q_x (v:=(iV 0)) hF hS (ex_assign rfl) rfl rfl fun a hF=>q_x (v:=(.bool false)) hF hS (ex_assign rfl) rfl rfl fun a hF=>q_end (n_sq (q_seq (q_region (q_x (v:=s1.v) hF hS (ex_move rfl) rfl rfl fun a hF=>q_x (v:=(iV (goLen p_x))) hF hS (ex_len underlying23 rfl h1.len) rfl rfl fun a hF=>q_x (v:=(iV (goLen p_x))) hF hS (ex_assign rfl) rfl rfl fun a hF=>q_end (n_sq (q_seq (q_region (q_x (v:=(iV (goLen p_x))) hF hS (ex_move rfl) rfl rfl fun a hF=>q_x (v:=(iV 0)) hF hS (ex_assign rfl) rfl rfl fun a hF=>q_x (v:=(iV (goLen p_x))) hF hS (ex_assign rfl) rfl rfl fun a hF=>q_end (n_sq (q_seq (q_block ?_)))))))))))))
 obtain ⟨i_10,hl1,hr⟩:=bindS hr
 refine q_loop (fun (s:Int × Int) a w=>∃ i_2,∃ j_3,s=(i_2,j_3)∧Fr a 54 [(0,s1.v),(1,(iV p_target)),(6,(iV (goLen p_x))),(7,(iV i_2)),(8,(iV j_3))]∧St [] w0 w m []) (fun (i_10:Int) e a w=>e=.exit 0∧Fr a 54 [(0,s1.v),(1,(iV p_target)),(6,(iV (goLen p_x))),(7,(iV i_10))]∧St [] w0 w m []) hl1 ⟨_,_,rfl,hF.sub ⟨rfl,rfl,rfl,rfl,rfl,trivial⟩,hS⟩ ?_ ?_
 ·clear hF hS
  rintro s a w st ⟨i_2,j_3,rfl,hF,hS⟩ hb1
  unfold slices_BinarySearch_int_int_l1 at hb1
  refine q_seq (q_seq (q_region (q_x (v:=(iV i_2)) hF hS (ex_move rfl) rfl rfl fun a hF=>q_x (v:=(iV j_3)) hF hS (ex_move rfl) rfl rfl fun a hF=>q_x (v:=(.bool (decide (i_2<j_3)))) hF hS (ex_ibin rfl rfl rfl) rfl rfl fun a hF=>q_end (n_sq ?_))))
  rcases bcase (decide (i_2<j_3)) with hc2 | hc2
  ·have hb1:=cond_f hc2 hb1
   refine q_cond_f hF rfl hc2 (q_exit (x_sq ?_))
   obtain rfl:=someI hb1
   exact ⟨nofun,.inl ⟨rfl,hF.sub ⟨rfl,rfl,rfl,rfl,trivial⟩,hS⟩⟩
  ·have hb1:=cond_t hc2 hb1
   refine q_cond_t hF rfl hc2 (q_skipc (n_sq (q_block (q_seq (q_region (q_x (v:=(iV i_2)) hF hS (ex_move rfl) rfl rfl fun a hF=>q_x (v:=(iV j_3)) hF hS (ex_move rfl) rfl rfl fun a hF=>q_x (v:=(iV (w64 (i_2 + j_3)))) hF hS (ex_ibin rfl rfl rfl) rfl rfl fun a hF=>q_x (v:=(.int .u64 (IntKind.wrap .u64 (w64 (i_2 + j_3))))) hF hS (ex_conv underlying3 underlying97 rfl) rfl rfl fun a hF=>?_))))))
   obtain ⟨t_4,ht_4,hb1⟩:=bindS hb1
   refine q_x (v:=(.int .u64 t_4)) hF hS (ex_shr rfl rfl ht_4) rfl rfl fun a hF=>q_x (v:=(iV (w64 t_4))) hF hS (ex_conv underlying97 underlying3 rfl) rfl rfl fun a hF=>q_x (v:=(iV (w64 t_4))) hF hS (ex_assign rfl) rfl rfl fun a hF=>q_end (n_sq (q_seq (q_region (q_x (v:=s1.v) hF hS (ex_move rfl) rfl rfl fun a hF=>q_x (v:=(iV (w64 t_4))) hF hS (ex_move rfl) rfl rfl fun a hF=>?_))))
   obtain ⟨e_5,he_5,hb1⟩:=bindS hb1
   obtain ⟨vs6,at6,d6⟩:=h1.at he_5 1 rfl
   obtain rfl:vs6=[(iV e_5)]:=d6
   refine q_x (v:=(elP s1 ((w64 t_4).toNat * 1))) hF hS (ex_indexAddr underlying23 sz3 rfl rfl (h1.idx he_5)) rfl rfl fun a hF=>q_x (v:=(iV e_5)) hF hS (ex_loadE1 0 underlying3 rfl rfl ((at6).at) rfl rfl) rfl rfl fun a hF=>q_x (v:=(iV p_target)) hF hS (ex_move rfl) rfl rfl fun a hF=>?_
   obtain ⟨t_7,ht_7,hb1⟩:=bindS hb1
   refine q_call (vs:=[(iV e_5),(iV p_target)]) hF hS func124 (by kernel_rfl) rfl rfl rfl (c_cmp_Less_int e_5 p_target t_7 ht_7 _ m hS.vis) ?_
   rintro a w _ rfl hF hS
   refine q_end (n_sq ?_)
   obtain ⟨j3,hj3,hb1⟩:=bindS hb1
   refine q_join (fun a w=>∃ i_8,∃ j_9,j3=(i_8,j_9)∧Fr a 54 [(0,s1.v),(1,(iV p_target)),(6,(iV (goLen p_x))),(7,(iV i_8)),(8,(iV j_9))]∧St [] w0 w m []) ?_ ?_
   ·rcases bcase (t_7) with hc4 | hc4
    ·have hj3:=cond_f hc4 hj3
     refine q_cond_f hF rfl hc4 (q_region (q_x (v:=(iV (w64 t_4))) hF hS (ex_move rfl) rfl rfl fun a hF=>q_x (v:=(iV (w64 t_4))) hF hS (ex_assign rfl) rfl rfl fun a hF=>q_end (n_jn ?_)))
     obtain rfl:=someI hj3
     exact ⟨_,_,rfl,hF.sub ⟨rfl,rfl,rfl,rfl,rfl,trivial⟩,hS⟩
    ·have hj3:=cond_t hc4 hj3
     refine q_cond_t hF rfl hc4 (q_region (q_x (v:=(iV (w64 t_4))) hF hS (ex_move rfl) rfl rfl fun a hF=>q_x (v:=(iV (w64 ((w64 t_4) + 1)))) hF hS (ex_ibin rfl rfl rfl) rfl rfl fun a hF=>q_x (v:=(iV (w64 ((w64 t_4) + 1)))) hF hS (ex_assign rfl) rfl rfl fun a hF=>q_end (n_jn ?_)))
     obtain rfl:=someI hj3
     exact ⟨_,_,rfl,hF.sub ⟨rfl,rfl,rfl,rfl,rfl,trivial⟩,hS⟩
   ·rintro a w ⟨i_8,j_9,rfl,hF,hS⟩
    refine n_ib ?_
    obtain rfl:=someI hb1
    exact ⟨rfl,_,_,rfl,hF.sub ⟨rfl,rfl,rfl,rfl,rfl,trivial⟩,hS⟩
 ·rintro e a w ⟨rfl,hF,hS⟩
  refine x_ib (n_sq ?_)
  refine q_seq ?_
  obtain ⟨t_17,hj5,hr⟩:=bindS hr
  refine q_join (fun a w=>Fr a 54 [(4,(iV i_10)),(5,(.bool t_17))]∧St [] w0 w m []) ?_ ?_
  ·refine q_region (q_x (v:=(iV i_10)) hF hS (ex_move rfl) rfl rfl fun a hF=>q_x (v:=(iV i_10)) hF hS (ex_move rfl) rfl rfl fun a hF=>q_x (v:=(iV (goLen p_x))) hF hS (ex_move rfl) rfl rfl fun a hF=>q_x (v:=(.bool (decide (i_10<(goLen p_x))))) hF hS (ex_ibin rfl rfl rfl) rfl rfl fun a hF=>q_x (v:=(.bool (decide (i_10<(goLen p_x))))) hF hS (ex_move rfl) rfl rfl fun a hF=>?_)
   rcases bcase (decide (i_10<(goLen p_x))) with hc6 | hc6
   ·have hj5:=cond_f hc6 hj5
    refine q_skip hF (wanted_f hF rfl rfl rfl hc6 rfl) rfl fun a hF=>q_skip hF (wanted_f hF rfl rfl rfl hc6 rfl) rfl fun a hF=>q_skip hF (wanted_f hF rfl rfl rfl hc6 rfl) rfl fun a hF=>q_skip hF (wanted_f hF rfl rfl rfl hc6 rfl) rfl fun a hF=>q_skip hF (wanted_f hF rfl rfl rfl hc6 rfl) rfl fun a hF=>q_skip hF (wanted_f hF rfl rfl rfl hc6 rfl) rfl fun a hF=>q_skip hF (wanted_f hF rfl rfl rfl hc6 rfl) rfl fun a hF=>q_skip hF (wanted_u hF rfl rfl rfl) rfl fun a hF=>q_skip hF (wanted_u hF rfl rfl rfl) rfl fun a hF=>q_skip hF (wanted_u hF rfl rfl rfl) rfl fun a hF=>q_skip hF (wanted_u hF rfl rfl rfl) rfl fun a hF=>q_skip hF (wanted_u hF rfl rfl rfl) rfl fun a hF=>q_skip hF (wanted_u hF rfl rfl rfl) rfl fun a hF=>q_skip hF (wanted_u hF rfl rfl rfl) rfl fun a hF=>q_skip hF (wanted_u hF rfl rfl rfl) rfl fun a hF=>q_skip hF (wanted_u hF rfl rfl rfl) rfl fun a hF=>q_skip hF (wanted_f hF rfl rfl rfl hc6 rfl) rfl fun a hF=>q_x (v:=(.bool false)) hF hS (ex_pick_f rfl rfl hc6) rfl rfl fun a hF=>q_x (v:=(iV i_10)) hF hS (ex_assign rfl) rfl rfl fun a hF=>q_x (v:=(.bool false)) hF hS (ex_assign rfl) rfl rfl fun a hF=>q_end (n_jn ?_)
    obtain rfl:=someI hj5
    exact ⟨hF.sub ⟨rfl,rfl,trivial⟩,hS⟩
   ·have hj5:=cond_t hc6 hj5
    refine q_xg (v:=s1.v) hF hS (ex_move rfl) (wanted_t hF rfl rfl rfl hc6) rfl fun a hF=>q_xg (v:=(iV i_10)) hF hS (ex_move rfl) (wanted_t hF rfl rfl rfl hc6) rfl fun a hF=>?_
    obtain ⟨e_11,he_11,hj5⟩:=bindS hj5
    obtain ⟨vs12,at12,d12⟩:=h1.at he_11 1 rfl
    obtain rfl:vs12=[(iV e_11)]:=d12
    refine q_xg (v:=(elP s1 (i_10.toNat * 1))) hF hS (ex_indexAddr underlying23 sz3 rfl rfl (h1.idx he_11)) (wanted_t hF rfl rfl rfl hc6) rfl fun a hF=>q_xg (v:=(iV e_11)) hF hS (ex_loadE1 0 underlying3 rfl rfl ((at12).at) rfl rfl) (wanted_t hF rfl rfl rfl hc6) rfl fun a hF=>q_xg (v:=(iV p_target)) hF hS (ex_move rfl) (wanted_t hF rfl rfl rfl hc6) rfl fun a hF=>q_xg (v:=(.bool (e_11 == p_target))) hF hS (ex_ibin rfl rfl rfl) (wanted_t hF rfl rfl rfl hc6) rfl fun a hF=>q_xg (v:=(.bool (e_11 == p_target))) hF hS (ex_move rfl) (wanted_t hF rfl rfl rfl hc6) rfl fun a hF=>?_
    rcases bcase (e_11 == p_target) with hc7 | hc7
    ·have hj5:=cond_f hc7 hj5
     refine q_xg (v:=s1.v) hF hS (ex_move rfl) (wanted_t hF rfl rfl rfl hc7) rfl fun a hF=>q_xg (v:=(iV i_10)) hF hS (ex_move rfl) (wanted_t hF rfl rfl rfl hc7) rfl fun a hF=>?_
     obtain ⟨e_13,he_13,hj5⟩:=bindS hj5
     obtain ⟨vs14,at14,d14⟩:=h1.at he_13 1 rfl
     obtain rfl:vs14=[(iV e_13)]:=d14
     refine q_xg (v:=(elP s1 (i_10.toNat * 1))) hF hS (ex_indexAddr underlying23 sz3 rfl rfl (h1.idx he_13)) (wanted_t hF rfl rfl rfl hc7) rfl fun a hF=>q_xg (v:=(iV e_13)) hF hS (ex_loadE1 0 underlying3 rfl rfl ((at14).at) rfl rfl) (wanted_t hF rfl rfl rfl hc7) rfl fun a hF=>?_
     obtain ⟨t_15,ht_15,hj5⟩:=bindS hj5
     refine q_callg (vs:=[(iV e_13)]) hF hS (wanted_t hF rfl rfl rfl hc7) func125 (by kernel_rfl) rfl rfl rfl (c_slices_isNaN_int e_13 t_15 ht_15 _ m hS.vis) ?_
     rintro a w _ rfl hF hS
     refine q_xg (v:=(.bool t_15)) hF hS (ex_move rfl) (wanted_t hF rfl rfl rfl hc7) rfl fun a hF=>?_
     rcases bcase (t_15) with hc8 | hc8
     ·have hj5:=cond_f hc8 hj5
      refine q_skip hF (wanted_f hF rfl rfl rfl hc8 rfl) rfl fun a hF=>q_skip hF (wanted_f hF rfl rfl rfl hc8 rfl) rfl fun a hF=>q_xg (v:=(.bool false)) hF hS (ex_pick_f rfl rfl hc8) (wanted_t hF rfl rfl rfl hc7) rfl fun a hF=>q_xg (v:=(.bool false)) hF hS (ex_pick_f rfl rfl hc7) (wanted_t hF rfl rfl rfl hc6) rfl fun a hF=>q_x (v:=(.bool false)) hF hS (ex_pick_t rfl rfl hc6) rfl rfl fun a hF=>q_x (v:=(iV i_10)) hF hS (ex_assign rfl) rfl rfl fun a hF=>q_x (v:=(.bool false)) hF hS (ex_assign rfl) rfl rfl fun a hF=>q_end (n_jn ?_)
      obtain rfl:=someI hj5
      exact ⟨hF.sub ⟨rfl,rfl,trivial⟩,hS⟩
     ·have hj5:=cond_t hc8 hj5
      refine q_xg (v:=(iV p_target)) hF hS (ex_move rfl) (wanted_t hF rfl rfl rfl hc8) rfl fun a hF=>?_
      obtain ⟨t_16,ht_16,hj5⟩:=bindS hj5
      refine q_callg (vs:=[(iV p_target)]) hF hS (wanted_t hF rfl rfl rfl hc8) func125 (by kernel_rfl) rfl rfl rfl (c_slices_isNaN_int p_target t_16 ht_16 _ m hS.vis) ?_
      rintro a w _ rfl hF hS
      refine q_xg (v:=(.bool t_16)) hF hS (ex_pick_t rfl rfl hc8) (wanted_t hF rfl rfl rfl hc7) rfl fun a hF=>q_xg (v:=(.bool t_16)) hF hS (ex_pick_f rfl rfl hc7) (wanted_t hF rfl rfl rfl hc6) rfl fun a hF=>q_x (v:=(.bool t_16)) hF hS (ex_pick_t rfl rfl hc6) rfl rfl fun a hF=>q_x (v:=(iV i_10)) hF hS (ex_assign rfl) rfl rfl fun a hF=>q_x (v:=(.bool t_16)) hF hS (ex_assign rfl) rfl rfl fun a hF=>q_end (n_jn ?_)
      obtain rfl:=someI hj5
      exact ⟨hF.sub ⟨rfl,rfl,trivial⟩,hS⟩
    ·have hj5:=cond_t hc7 hj5
     refine q_skip hF (wanted_f hF rfl rfl rfl hc7 rfl) rfl fun a hF=>q_skip hF (wanted_f hF rfl rfl rfl hc7 rfl) rfl fun a hF=>q_skip hF (wanted_f hF rfl rfl rfl hc7 rfl) rfl fun a hF=>q_skip hF (wanted_f hF rfl rfl rfl hc7 rfl) rfl fun a hF=>q_skip hF (wanted_f hF rfl rfl rfl hc7 rfl) rfl fun a hF=>q_skip hF (wanted_f hF rfl rfl rfl hc7 rfl) rfl fun a hF=>q_skip hF (wanted_u hF rfl rfl rfl) rfl fun a hF=>q_skip hF (wanted_u hF rfl rfl rfl) rfl fun a hF=>q_skip hF (wanted_f hF rfl rfl rfl hc7 rfl) rfl fun a hF=>q_xg (v:=(.bool true)) hF hS (ex_pick_t rfl rfl hc7) (wanted_t hF rfl rfl rfl hc6) rfl fun a hF=>q_x (v:=(.bool true)) hF hS (ex_pick_t rfl rfl hc6) rfl rfl fun a hF=>q_x (v:=(iV i_10)) hF hS (ex_assign rfl) rfl rfl fun a hF=>q_x (v:=(.bool true)) hF hS (ex_assign rfl) rfl rfl fun a hF=>q_end (n_jn ?_)
     obtain rfl:=someI hj5
     exact ⟨hF.sub ⟨rfl,rfl,trivial⟩,hS⟩
  ·rintro a w ⟨hF,hS⟩
   refine n_sq (q_ret ?_)
   obtain rfl:=someI hr
   exact ret_of hF hS rfl (.tmp rfl (.tmp rfl .nil)) rfl

theorem c_impl_indexOfValues (p_s:List impl_Variable) (p_values:List Int) (r:Int) (hr:impl_indexOfValues p_s p_values=some r) (w0:World) (m:Mem) (hv:Vis m w0) (s1:Sl) (h1:Rd m s1 p_s) (s2:Sl) (h2:Rd m s2 p_values) :
  Ret prog 120 [s1.v,s2.v] w0 (fun v _=>v=(iV r)):=by
 unfold impl_indexOfValues at hr
 refine ret_start func120 rfl 26 rfl rfl m hv fun a hF hS=>q_seq (q_region (q_x (v:=(iV 0)) hF hS (ex_assign rfl) rfl rfl fun a hF=>q_end (n_sq (q_seq (q_region (q_x (v:=(iV 0)) hF hS (ex_assign rfl) rfl rfl fun a hF=>q_end (n_sq (q_seq (q_seq (q_region (q_x (v:=s2.v) hF hS (ex_move rfl) rfl rfl fun a hF=>q_x (v:=(iV (goLen p_values))) hF hS (ex_len underlying23 rfl h2.len) rfl rfl fun a hF=>q_x (v:=(iV 0)) hF hS (ex_move rfl) rfl rfl fun a hF=>q_end (n_sq (q_block ?_)))))))))))))
 obtain ⟨i_9,hl1,hr⟩:=bindS hr
 refine q_loop (fun (s:Int × Int) a w=>∃ i_3,∃ t_4,s=(i_3,t_4)∧Fr a 26 [(0,s1.v),(5,(iV i_3)),(8,s2.v),(9,(iV (goLen p_values))),(10,(iV t_4))]∧St [] w0 w m []) (fun (i_9:Int) e a w=>e=.exit 0∧Fr a 26 [(5,(iV i_9))]∧St [] w0 w m []) hl1 ⟨_,_,rfl,hF.sub ⟨rfl,rfl,rfl,rfl,rfl,trivial⟩,hS⟩ ?_ ?_
 ·clear hF hS
  rintro s a w st ⟨i_3,t_4,rfl,hF,hS⟩ hb1
  unfold impl_indexOfValues_l1 at hb1
  refine q_seq (q_region (q_x (v:=(.bool (decide (t_4<(goLen p_values))))) hF hS (ex_ibin rfl rfl rfl) rfl rfl fun a hF=>q_end (n_sq (q_seq ?_))))
  rcases bcase (decide (t_4<(goLen p_values))) with hc2 | hc2
  ·have hb1:=cond_f hc2 hb1
   refine q_cond_f hF rfl hc2 (q_exit (x_sq ?_))
   obtain rfl:=someI hb1
   exact ⟨nofun,.inl ⟨rfl,hF.sub ⟨rfl,trivial⟩,hS⟩⟩
  ·have hb1:=cond_t hc2 hb1
   refine q_cond_t hF rfl hc2 (q_skipc (n_sq (q_seq (q_block (q_seq (q_region (q_x (v:=(iV t_4)) hF hS (ex_move rfl) rfl rfl fun a hF=>?_)))))))
   obtain ⟨e_5,he_5,hb1⟩:=bindS hb1
   obtain ⟨vs6,at6,d6⟩:=h2.at he_5 1 rfl
   obtain rfl:vs6=[(iV e_5)]:=d6
   refine q_x (v:=(elP s2 (t_4.toNat * 1))) hF hS (ex_indexAddr underlying23 sz3 rfl rfl (h2.idx he_5)) rfl rfl fun a hF=>q_x (v:=(iV e_5)) hF hS (ex_loadE1 0 underlying3 rfl rfl ((at6).at) rfl rfl) rfl rfl fun a hF=>q_x (v:=(iV t_4)) hF hS (ex_assign rfl) rfl rfl fun a hF=>q_x (v:=(iV e_5)) hF hS (ex_assign rfl) rfl rfl fun a hF=>q_end (n_sq (q_region (q_x (v:=(iV i_3)) hF hS (ex_move rfl) rfl rfl fun a hF=>q_x (v:=s1.v) hF hS (ex_move rfl) rfl rfl fun a hF=>q_x (v:=(iV t_4)) hF hS (ex_move rfl) rfl rfl fun a hF=>?_)))
   obtain ⟨e_7,he_7,hb1⟩:=bindS hb1
   obtain ⟨vs8,at8,d8⟩:=h1.at he_7 2 rfl
   obtain rfl:vs8=[(strV e_7.Name),(iV e_7.Levels)]:=d8
   refine q_x (v:=(elP s1 (t_4.toNat * 2))) hF hS (ex_indexAddr underlying26 sz55 rfl rfl (h1.idx he_7)) rfl rfl fun a hF=>q_x (v:=(elP s1 (t_4.toNat * 2 + 1))) hF hS (ex_fieldAddrE underlying55 rfl sz3 rfl (h1.idx he_7) rfl) rfl rfl fun a hF=>q_x (v:=(iV e_7.Levels)) hF hS (ex_loadE1 1 underlying3 rfl rfl ((at8).at) rfl rfl) rfl rfl fun a hF=>q_x (v:=(iV (w64 (i_3 * e_7.Levels)))) hF hS (ex_ibin rfl rfl rfl) rfl rfl fun a hF=>q_x (v:=(iV e_5)) hF hS (ex_move rfl) rfl rfl fun a hF=>q_x (v:=(iV (w64 ((w64 (i_3 * e_7.Levels)) + e_5)))) hF hS (ex_ibin rfl rfl rfl) rfl rfl fun a hF=>q_x (v:=(iV (w64 ((w64 (i_3 * e_7.Levels)) + e_5)))) hF hS (ex_assign rfl) rfl rfl fun a hF=>q_end (n_ib (n_sq (q_region (q_x (v:=(iV (w64 (t_4 + 1)))) hF hS (ex_ibin rfl rfl rfl) rfl rfl fun a hF=>q_x (v:=(iV (w64 (t_4 + 1)))) hF hS (ex_move rfl) rfl rfl fun a hF=>q_end ?_))))
   obtain rfl:=someI hb1
   exact ⟨rfl,_,_,rfl,hF.sub ⟨rfl,rfl,rfl,rfl,rfl,trivial⟩,hS⟩
 ·rintro e a w ⟨rfl,hF,hS⟩
  refine x_ib (n_sq ?_)
  refine q_seq (q_region (q_x (v:=(iV i_9)) hF hS (ex_move rfl) rfl rfl fun a hF=>q_x (v:=(iV i_9)) hF hS (ex_assign rfl) rfl rfl fun a hF=>q_end (n_sq (q_ret ?_))))
  obtain rfl:=someI hr
  exact ret_of hF hS rfl (.tmp rfl .nil) rfl

theorem c_impl_cellIndex (p_g:impl_Geo) (p_s:List impl_Variable) (p_t:impl_Table) (p_area:Int) (p_values:List Int) (r:Int) (hr:impl_cellIndex p_g p_s p_t p_area p_values=some r) (w0:World) (m:Mem) (hv:Vis m w0) (s1:Sl) (h1:Rd m s1 p_g.Parents) (s2:Sl) (h2:Rd m s2 p_s) (s3:Sl) (h3:Rd m s3 p_t.Vars) (s4:Sl) (h4:Rd m s4 p_t.Where) (s5:Sl) (h5:Rd m s5 p_values) :
  Ret prog 98 [(.agg #[s1.v]),s2.v,(.agg #[(iV p_t.Level),s3.v,s4.v,(iV p_t.Sum)]),(iV p_area),s5.v] w0 (fun v _=>v=(iV r)):=by
 unfold impl_cellIndex at hr
 refine ret_start func98 rfl 36 rfl rfl m hv fun a hF hS=>q_seq (q_region (q_box (cs:=[s1.v]) hF hS rfl rfl rfl fun a w b6 hF hS=>q_box (cs:=[(iV p_t.Level),s3.v,s4.v,(iV p_t.Sum)]) hF hS rfl rfl rfl fun a w b7 hF hS=>q_x (v:=(iV 0)) hF hS (ex_assign rfl) rfl rfl fun a hF=>q_end (n_sq (q_seq (q_region (q_x (v:=(.agg #[s1.v])) hF hS (ex_loadA (vs:=[s1.v]) 1 0 underlying25 rfl sz25 rfl rfl rfl rfl) rfl rfl fun a hF=>q_x (v:=(.pointer (some ⟨b7,0,none⟩))) hF hS (ex_fieldAddr underlying28 rfl sz3 rfl rfl) rfl rfl fun a hF=>q_x (v:=(iV p_t.Level)) hF hS (ex_load1 0 0 underlying3 rfl rfl rfl rfl) rfl rfl fun a hF=>?_))))))
 obtain ⟨t_8,ht_8,hr⟩:=bindS hr
 refine q_call (vs:=[(.agg #[s1.v]),(iV p_t.Level)]) hF hS func20 (by kernel_rfl) rfl rfl rfl (c_impl_areasAt p_g p_t.Level t_8 ht_8 _ m hS.vis s1 h1) ?_
 rintro a w _ ⟨q10,s10,rfl,hR9,h10⟩ hF hS2
 have hS:St _ _ _ _ [q10,[⟨b7,[(iV p_t.Level),s3.v,s4.v,(iV p_t.Sum)],28⟩],[⟨b6,[s1.v],25⟩]]:=hS.joinF hR9
 refine q_x (v:=(iV p_area)) hF hS (ex_move rfl) rfl rfl fun a hF=>?_
 obtain ⟨m12,hl12,hv12,hz12⟩:=hS.lend
 obtain ⟨t_11,ht_11,hr⟩:=bindS hr
 refine q_call (vs:=[s10.v,(iV p_area)]) hF hS func119 (by kernel_rfl) rfl rfl rfl (c_slices_BinarySearch_int_int t_8 p_area t_11 ht_11 _ m12 hv12 s10 (h10.froz hl12 (hz12 0 _ rfl))) ?_
 rintro a w _ rfl hF hS
 refine q_x (v:=(.tuple #[(iV t_11.1),(.bool t_11.2)])) hF hS (ex_move rfl) rfl rfl fun a hF=>q_x (v:=(iV t_11.1)) hF hS (ex_extract rfl rfl) rfl rfl fun a hF=>q_x (v:=(.bool t_11.2)) hF hS (ex_extract rfl rfl) rfl rfl fun a hF=>q_x (v:=(iV t_11.1)) hF hS (ex_assign rfl) rfl rfl fun a hF=>q_x (v:=(.bool t_11.2)) hF hS (ex_assign rfl) rfl rfl fun a hF=>q_end (n_sq (q_seq (q_seq (q_region (q_x (v:=(.bool t_11.2)) hF hS (ex_move rfl) rfl rfl fun a hF=>q_x (v:=(.bool (!t_11.2))) hF hS (ex_not rfl) rfl rfl fun a hF=>q_end (n_sq ?_))))))
 rcases bcase (!t_11.2) with hc1 | hc1
 ·have hr:=cond_f hc1 hr
  refine q_cond_f hF rfl hc1 (q_skipc (n_sq (q_seq (q_region (q_x (v:=s2.v) hF hS (ex_move rfl) rfl rfl fun a hF=>q_x (v:=(.agg #[(iV p_t.Level),s3.v,s4.v,(iV p_t.Sum)])) hF hS (ex_loadA (vs:=[(iV p_t.Level),s3.v,s4.v,(iV p_t.Sum)]) 1 0 underlying28 rfl sz28 rfl rfl rfl rfl) rfl rfl fun a hF=>?_)))))
  obtain ⟨t_13,ht_13,hr⟩:=bindS hr
  refine q_call (vs:=[s2.v,(.agg #[(iV p_t.Level),s3.v,s4.v,(iV p_t.Sum)])]) hF hS func21 (by kernel_rfl) rfl rfl rfl (c_impl_crossed p_s p_t t_13 ht_13 _ m hS.vis s2 h2 s3 h3 s4 h4) ?_
  rintro a w _ ⟨q15,s15,rfl,hR14,h15⟩ hF hS2
  have hS:St _ _ _ _ [q15,q10,[⟨b7,[(iV p_t.Level),s3.v,s4.v,(iV p_t.Sum)],28⟩],[⟨b6,[s1.v],25⟩]]:=hS.joinF hR14
  refine q_x (v:=s15.v) hF hS (ex_assign rfl) rfl rfl fun a hF=>q_end (n_sq (q_seq (q_region (q_x (v:=(iV t_11.1)) hF hS (ex_move rfl) rfl rfl fun a hF=>q_x (v:=s15.v) hF hS (ex_move rfl) rfl rfl fun a hF=>?_))))
  obtain ⟨m17,hl17,hv17,hz17⟩:=hS.lend
  obtain ⟨t_16,ht_16,hr⟩:=bindS hr
  refine q_call (vs:=[s15.v]) hF hS func95 (by kernel_rfl) rfl rfl rfl (c_impl_combinations t_13 t_16 ht_16 _ m17 hv17 s15 (h15.froz hl17 (hz17 0 _ rfl))) ?_
  rintro a w _ rfl hF hS
  refine q_x (v:=(iV (w64 (t_11.1 * t_16)))) hF hS (ex_ibin rfl rfl rfl) rfl rfl fun a hF=>q_x (v:=s15.v) hF hS (ex_move rfl) rfl rfl fun a hF=>q_x (v:=s5.v) hF hS (ex_move rfl) rfl rfl fun a hF=>?_
  obtain ⟨m19,hl19,hv19,hz19⟩:=hS.lend
  obtain ⟨t_18,ht_18,hr⟩:=bindS hr
  refine q_call (vs:=[s15.v,s5.v]) hF hS func120 (by kernel_rfl) rfl rfl rfl (c_impl_indexOfValues t_13 p_values t_18 ht_18 _ m19 hv19 s15 (h15.froz hl19 (hz19 0 _ rfl)) s5 (h5.mono hl19)) ?_
  rintro a w _ rfl hF hS
  refine q_x (v:=(iV (w64 ((w64 (t_11.1 * t_16)) + t_18)))) hF hS (ex_ibin rfl rfl rfl) rfl rfl fun a hF=>q_x (v:=(iV (w64 ((w64 (t_11.1 * t_16)) + t_18)))) hF hS (ex_assign rfl) rfl rfl fun a hF=>q_end (n_sq (q_ret ?_))
  obtain rfl:=someI hr
  exact ret_of hF hS rfl (.tmp rfl .nil) rfl
 ·have hr:=cond_t hc1 hr
  refine q_cond_t hF rfl hc1 (q_seq (q_region (q_x (v:=(iV (-1))) hF hS (ex_assign rfl) rfl rfl fun a hF=>q_end (n_sq (q_ret (r_sq ?_))))))
  obtain rfl:=someI hr
  exact ret_of hF hS rfl (.tmp rfl .nil) rfl

theorem c_impl_contribution (p_g:impl_Geo) (p_s:List impl_Variable) (p_t:impl_Table) (p_r:impl_Record) (r:Int × Int) (hr:impl_contribution p_g p_s p_t p_r=some r) (w0:World) (m:Mem) (hv:Vis m w0) (s1:Sl) (h1:Rd m s1 p_g.Parents) (s2:Sl) (h2:Rd m s2 p_s) (s3:Sl) (h3:Rd m s3 p_t.Vars) (s4:Sl) (h4:Rd m s4 p_t.Where) (s5:Sl) (h5:Rd m s5 p_r.Values) :
  Ret prog 62 [(.agg #[s1.v]),s2.v,(.agg #[(iV p_t.Level),s3.v,s4.v,(iV p_t.Sum)]),(.agg #[(iV p_r.Area),(iV p_r.House),s5.v])] w0 (fun v _=>v=(.tuple #[(iV r.1),(iV r.2)])):=by
 unfold impl_contribution at hr
 refine ret_start func62 rfl 66 rfl rfl m hv fun a hF hS=>q_seq (q_region (q_box (cs:=[s1.v]) hF hS rfl rfl rfl fun a w b6 hF hS=>q_box (cs:=[(iV p_t.Level),s3.v,s4.v,(iV p_t.Sum)]) hF hS rfl rfl rfl fun a w b7 hF hS=>q_box (cs:=[(iV p_r.Area),(iV p_r.House),s5.v]) hF hS rfl rfl rfl fun a w b8 hF hS=>q_x (v:=(iV 0)) hF hS (ex_assign rfl) rfl rfl fun a hF=>q_x (v:=(iV 0)) hF hS (ex_assign rfl) rfl rfl fun a hF=>q_end (n_sq (q_seq (q_region (q_x (v:=(.agg #[s1.v])) hF hS (ex_loadA (vs:=[s1.v]) 2 0 underlying25 rfl sz25 rfl rfl rfl rfl) rfl rfl fun a hF=>q_x (v:=(.pointer (some ⟨b8,0,none⟩))) hF hS (ex_fieldAddr underlying85 rfl sz3 rfl rfl) rfl rfl fun a hF=>q_x (v:=(iV p_r.Area)) hF hS (ex_load1 0 0 underlying3 rfl rfl rfl rfl) rfl rfl fun a hF=>q_x (v:=(.pointer (some ⟨b7,0,none⟩))) hF hS (ex_fieldAddr underlying28 rfl sz3 rfl rfl) rfl rfl fun a hF=>q_x (v:=(iV p_t.Level)) hF hS (ex_load1 1 0 underlying3 rfl rfl rfl rfl) rfl rfl fun a hF=>?_))))))
 obtain ⟨t_9,ht_9,hr⟩:=bindS hr
 refine q_call (vs:=[(.agg #[s1.v]),(iV p_r.Area),(iV p_t.Level)]) hF hS func96 (by kernel_rfl) rfl rfl rfl (c_impl_ancestorAt p_g p_r.Area p_t.Level t_9 ht_9 _ m hS.vis s1 h1) ?_
 rintro a w _ rfl hF hS
 refine q_x (v:=(iV t_9)) hF hS (ex_assign rfl) rfl rfl fun a hF=>q_end (n_sq (q_seq (q_seq ?_)))
 obtain ⟨t_11,hj1,hr⟩:=bindS hr
 refine q_join (fun a w=>Fr a 66 [(1,s2.v),(4,(.pointer (some ⟨b6,0,none⟩))),(6,(.pointer (some ⟨b7,0,none⟩))),(7,(.pointer (some ⟨b8,0,none⟩))),(10,(iV t_9)),(28,(.bool t_11))]∧St [] w0 w m [[⟨b8,[(iV p_r.Area),(iV p_r.House),s5.v],85⟩],[⟨b7,[(iV p_t.Level),s3.v,s4.v,(iV p_t.Sum)],28⟩],[⟨b6,[s1.v],25⟩]]) ?_ ?_
 ·refine q_region (q_x (v:=(iV t_9)) hF hS (ex_move rfl) rfl rfl fun a hF=>q_x (v:=(.bool (decide (t_9<0)))) hF hS (ex_ibin rfl rfl rfl) rfl rfl fun a hF=>q_x (v:=(.bool (decide (t_9<0)))) hF hS (ex_move rfl) rfl rfl fun a hF=>?_)
  rcases bcase (decide (t_9<0)) with hc2 | hc2
  ·have hj1:=cond_f hc2 hj1
   refine q_xg (v:=(.agg #[(iV p_t.Level),s3.v,s4.v,(iV p_t.Sum)])) hF hS (ex_loadA (vs:=[(iV p_t.Level),s3.v,s4.v,(iV p_t.Sum)]) 1 0 underlying28 rfl sz28 rfl rfl rfl rfl) (wanted_t hF rfl rfl rfl hc2) rfl fun a hF=>q_xg (v:=(.agg #[(iV p_r.Area),(iV p_r.House),s5.v])) hF hS (ex_loadA (vs:=[(iV p_r.Area),(iV p_r.House),s5.v]) 0 0 underlying85 rfl sz85 rfl rfl rfl rfl) (wanted_t hF rfl rfl rfl hc2) rfl fun a hF=>?_
   obtain ⟨t_10,ht_10,hj1⟩:=bindS hj1
   refine q_callg (vs:=[(.agg #[(iV p_t.Level),s3.v,s4.v,(iV p_t.Sum)]),(.agg #[(iV p_r.Area),(iV p_r.House),s5.v])]) hF hS (wanted_t hF rfl rfl rfl hc2) func97 (by kernel_rfl) rfl rfl rfl (c_impl_meetsWhere p_t p_r t_10 ht_10 _ m hS.vis s3 h3 s4 h4 s5 h5) ?_
   rintro a w _ rfl hF hS
   refine q_xg (v:=(.bool (!t_10))) hF hS (ex_not rfl) (wanted_t hF rfl rfl rfl hc2) rfl fun a hF=>q_x (v:=(.bool (!t_10))) hF hS (ex_pick_f rfl rfl hc2) rfl rfl fun a hF=>q_end (n_jn ?_)
   obtain rfl:=someI hj1
   exact ⟨hF.sub ⟨rfl,rfl,rfl,rfl,rfl,rfl,trivial⟩,hS⟩
  ·have hj1:=cond_t hc2 hj1
   refine q_skip hF (wanted_f hF rfl rfl rfl hc2 rfl) rfl fun a hF=>q_skip hF (wanted_f hF rfl rfl rfl hc2 rfl) rfl fun a hF=>q_skip hF (wanted_f hF rfl rfl rfl hc2 rfl) rfl fun a hF=>q_skip hF (wanted_f hF rfl rfl rfl hc2 rfl) rfl fun a hF=>q_x (v:=(.bool true)) hF hS (ex_pick_t rfl rfl hc2) rfl rfl fun a hF=>q_end (n_jn ?_)
   obtain rfl:=someI hj1
   exact ⟨hF.sub ⟨rfl,rfl,rfl,rfl,rfl,rfl,trivial⟩,hS⟩
 ·rintro a w ⟨hF,hS⟩
  refine n_sq ?_
  rcases bcase (t_11) with hc3 | hc3
  ·have hr:=cond_f hc3 hr
   refine q_cond_f hF rfl hc3 (q_skipc (n_sq (q_seq (q_region (q_x (v:=(.pointer (some ⟨b7,1,none⟩))) hF hS (ex_fieldAddr underlying28 rfl sz23 rfl rfl) rfl rfl fun a hF=>q_x (v:=s3.v) hF hS (ex_load1 1 0 underlying23 rfl rfl rfl rfl) rfl rfl fun a hF=>q_x (v:=(iV (goLen p_t.Vars))) hF hS (ex_len underlying23 rfl h3.len) rfl rfl fun a hF=>?_)))))
   obtain ⟨l_12,hl_12,hr⟩:=bindS hr
   refine q_do rfl fun _ hK=>wp_make (z:=(0:Int)) hF hS underlying23 inf3 rfl rfl rfl rfl rfl (by decide) hl_12 rfl fun a w q13 s13 hF hS h13 _=>hK _ _ (q_x (v:=s13.v) hF hS (ex_assign rfl) rfl rfl fun a hF=>q_end (n_sq (q_seq (q_seq (q_region (q_x (v:=(.pointer (some ⟨b7,1,none⟩))) hF hS (ex_fieldAddr underlying28 rfl sz23 rfl rfl) rfl rfl fun a hF=>q_x (v:=s3.v) hF hS (ex_load1 2 0 underlying23 rfl rfl rfl rfl) rfl rfl fun a hF=>q_x (v:=(iV (goLen p_t.Vars))) hF hS (ex_len underlying23 rfl h3.len) rfl rfl fun a hF=>q_x (v:=(iV 0)) hF hS (ex_move rfl) rfl rfl fun a hF=>q_end (n_sq (q_block ?_))))))))
   obtain ⟨values_24,hl4,hr⟩:=bindS hr
   refine q_loop (fun (s:(List Int) × Int) a w=>∃ (q15:Piece),∃ values_14,∃ t_16,s=(values_14,t_16)∧Fr a 66 [(1,s2.v),(4,(.pointer (some ⟨b6,0,none⟩))),(6,(.pointer (some ⟨b7,0,none⟩))),(7,(.pointer (some ⟨b8,0,none⟩))),(10,(iV t_9)),(11,s13.v),(34,s3.v),(35,(iV (goLen p_t.Vars))),(36,(iV t_16))]∧St [] w0 w m [q15,[⟨b8,[(iV p_r.Area),(iV p_r.House),s5.v],85⟩],[⟨b7,[(iV p_t.Level),s3.v,s4.v,(iV p_t.Sum)],28⟩],[⟨b6,[s1.v],25⟩]]∧OwnL m 3 q15 s13 values_14) (fun (values_24:(List Int)) e a w=>∃ (q25:Piece),e=.exit 0∧Fr a 66 [(1,s2.v),(4,(.pointer (some ⟨b6,0,none⟩))),(6,(.pointer (some ⟨b7,0,none⟩))),(7,(.pointer (some ⟨b8,0,none⟩))),(10,(iV t_9)),(11,s13.v)]∧St [] w0 w m [q25,[⟨b8,[(iV p_r.Area),(iV p_r.House),s5.v],85⟩],[⟨b7,[(iV p_t.Level),s3.v,s4.v,(iV p_t.Sum)],28⟩],[⟨b6,[s1.v],25⟩]]∧OwnL m 3 q25 s13 values_24) hl4 ⟨q13,_,_,rfl,hF.sub ⟨rfl,rfl,rfl,rfl,rfl,rfl,rfl,rfl,rfl,trivial⟩,hS,h13⟩ ?_ ?_
   ·clear hF hS
    rintro s a w st ⟨q15,values_14,t_16,rfl,hF,hS,h15⟩ hb4
    unfold impl_contribution_l1 at hb4
    refine q_seq (q_region (q_x (v:=(.bool (decide (t_16<(goLen p_t.Vars))))) hF hS (ex_ibin rfl rfl rfl) rfl rfl fun a hF=>q_end (n_sq (q_seq ?_))))
    rcases bcase (decide (t_16<(goLen p_t.Vars))) with hc5 | hc5
    ·have hb4:=cond_f hc5 hb4
     refine q_cond_f hF rfl hc5 (q_exit (x_sq ?_))
     obtain rfl:=someI hb4
     exact ⟨nofun,.inl ⟨q15,rfl,hF.sub ⟨rfl,rfl,rfl,rfl,rfl,rfl,trivial⟩,hS,h15⟩⟩
    ·have hb4:=cond_t hc5 hb4
     refine q_cond_t hF rfl hc5 (q_skipc (n_sq (q_seq (q_block (q_seq (q_region (q_x (v:=(iV t_16)) hF hS (ex_move rfl) rfl rfl fun a hF=>?_)))))))
     obtain ⟨e_17,he_17,hb4⟩:=bindS hb4
     obtain ⟨vs18,at18,d18⟩:=h3.at he_17 1 rfl
     obtain rfl:vs18=[(iV e_17)]:=d18
     refine q_x (v:=(elP s3 (t_16.toNat * 1))) hF hS (ex_indexAddr underlying23 sz3 rfl rfl (h3.idx he_17)) rfl rfl fun a hF=>q_x (v:=(iV e_17)) hF hS (ex_loadE1 0 underlying3 rfl rfl ((at18).at) rfl rfl) rfl rfl fun a hF=>q_x (v:=(iV t_16)) hF hS (ex_assign rfl) rfl rfl fun a hF=>q_x (v:=(iV e_17)) hF hS (ex_assign rfl) rfl rfl fun a hF=>q_end (n_sq (q_region (q_x (v:=s13.v) hF hS (ex_move rfl) rfl rfl fun a hF=>q_x (v:=(iV t_16)) hF hS (ex_move rfl) rfl rfl fun a hF=>q_x (v:=(.pointer (some ⟨b8,2,none⟩))) hF hS (ex_fieldAddr underlying85 rfl sz23 rfl rfl) rfl rfl fun a hF=>q_x (v:=s5.v) hF hS (ex_load1 1 0 underlying23 rfl rfl rfl rfl) rfl rfl fun a hF=>q_x (v:=(iV e_17)) hF hS (ex_move rfl) rfl rfl fun a hF=>?_)))
     obtain ⟨e_19,he_19,hb4⟩:=bindS hb4
     obtain ⟨vs20,at20,d20⟩:=h5.at he_19 1 rfl
     obtain rfl:vs20=[(iV e_19)]:=d20
     refine q_x (v:=(elP s5 (e_17.toNat * 1))) hF hS (ex_indexAddr underlying23 sz3 rfl rfl (h5.idx he_19)) rfl rfl fun a hF=>q_x (v:=(iV e_19)) hF hS (ex_loadE1 0 underlying3 rfl rfl ((at20).at) rfl rfl) rfl rfl fun a hF=>?_
     obtain ⟨e_21,he_21,hb4⟩:=bindS hb4
     obtain ⟨vs22,at22,d22⟩:=h15.at he_21 1 rfl
     obtain rfl:vs22=[(iV e_21)]:=d22
     refine q_x (v:=(elP s13 (t_16.toNat * 1))) hF hS (ex_indexAddr underlying23 sz3 rfl rfl (h15.idx he_21)) rfl rfl fun a hF=>q_do rfl fun _ hK=>wp_storeE (e':=e_19) (us:=[(iV e_19)]) (vs:=[(iV e_21)]) 0 hF hS h15 sz3 rfl rfl rfl rfl rfl rfl rfl he_21 at22 rfl rfl rfl fun w q23 hS h23=>hK _ _ (q_end (n_ib (n_sq (q_region (q_x (v:=(iV (w64 (t_16 + 1)))) hF hS (ex_ibin rfl rfl rfl) rfl rfl fun a hF=>q_x (v:=(iV (w64 (t_16 + 1)))) hF hS (ex_move rfl) rfl rfl fun a hF=>q_end ?_)))))
     obtain rfl:=someI hb4
     exact ⟨rfl,q23,_,_,rfl,hF.sub ⟨rfl,rfl,rfl,rfl,rfl,rfl,rfl,rfl,rfl,trivial⟩,hS,h23⟩
   ·rintro e a w ⟨q25,rfl,hF,hS,h25⟩
    refine x_ib (n_sq ?_)
    refine q_seq (q_region (q_x (v:=(iV 1)) hF hS (ex_assign rfl) rfl rfl fun a hF=>q_end (n_sq (q_seq (q_seq (q_region (q_x (v:=(.pointer (some ⟨b7,3,none⟩))) hF hS (ex_fieldAddr underlying28 rfl sz3 rfl rfl) rfl rfl fun a hF=>q_x (v:=(iV p_t.Sum)) hF hS (ex_load1 2 0 underlying3 rfl rfl rfl rfl) rfl rfl fun a hF=>q_x (v:=(.bool (decide (0≤p_t.Sum)))) hF hS (ex_ibin rfl rfl rfl) rfl rfl fun a hF=>q_end (n_sq ?_))))))))
    obtain ⟨amount_28,hj6,hr⟩:=bindS hr
    refine q_join (fun a w=>Fr a 66 [(1,s2.v),(4,(.pointer (some ⟨b6,0,none⟩))),(6,(.pointer (some ⟨b7,0,none⟩))),(10,(iV t_9)),(11,s13.v),(14,(iV amount_28))]∧St [] w0 w m [q25,[⟨b7,[(iV p_t.Level),s3.v,s4.v,(iV p_t.Sum)],28⟩],[⟨b6,[s1.v],25⟩]]) ?_ ?_
    ·rcases bcase (decide (0≤p_t.Sum)) with hc7 | hc7
     ·have hj6:=cond_f hc7 hj6
      refine q_cond_f hF rfl hc7 (q_skipc (n_jn ?_))
      obtain rfl:=someI hj6
      exact ⟨hF.sub ⟨rfl,rfl,rfl,rfl,rfl,rfl,trivial⟩,hS.mask [true,false,true,true]⟩
     ·have hj6:=cond_t hc7 hj6
      refine q_cond_t hF rfl hc7 (q_region (q_x (v:=(.pointer (some ⟨b8,2,none⟩))) hF hS (ex_fieldAddr underlying85 rfl sz23 rfl rfl) rfl rfl fun a hF=>q_x (v:=s5.v) hF hS (ex_load1 1 0 underlying23 rfl rfl rfl rfl) rfl rfl fun a hF=>q_x (v:=(.pointer (some ⟨b7,3,none⟩))) hF hS (ex_fieldAddr underlying28 rfl sz3 rfl rfl) rfl rfl fun a hF=>q_x (v:=(iV p_t.Sum)) hF hS (ex_load1 2 0 underlying3 rfl rfl rfl rfl) rfl rfl fun a hF=>?_))
      obtain ⟨e_26,he_26,hj6⟩:=bindS hj6
      obtain ⟨vs27,at27,d27⟩:=h5.at he_26 1 rfl
      obtain rfl:vs27=[(iV e_26)]:=d27
      refine q_x (v:=(elP s5 (p_t.Sum.toNat * 1))) hF hS (ex_indexAddr underlying23 sz3 rfl rfl (h5.idx he_26)) rfl rfl fun a hF=>q_x (v:=(iV e_26)) hF hS (ex_loadE1 0 underlying3 rfl rfl ((at27).at) rfl rfl) rfl rfl fun a hF=>q_x (v:=(iV e_26)) hF hS (ex_assign rfl) rfl rfl fun a hF=>q_end (n_jn ?_)
      obtain rfl:=someI hj6
      exact ⟨hF.sub ⟨rfl,rfl,rfl,rfl,rfl,rfl,trivial⟩,hS.mask [true,false,true,true]⟩
    ·rintro a w ⟨hF,hS⟩
     refine n_sq ?_
     refine q_seq (q_region (q_x (v:=(.agg #[s1.v])) hF hS (ex_loadA (vs:=[s1.v]) 2 0 underlying25 rfl sz25 rfl rfl rfl rfl) rfl rfl fun a hF=>q_x (v:=s2.v) hF hS (ex_move rfl) rfl rfl fun a hF=>q_x (v:=(.agg #[(iV p_t.Level),s3.v,s4.v,(iV p_t.Sum)])) hF hS (ex_loadA (vs:=[(iV p_t.Level),s3.v,s4.v,(iV p_t.Sum)]) 1 0 underlying28 rfl sz28 rfl rfl rfl rfl) rfl rfl fun a hF=>q_x (v:=(iV t_9)) hF hS (ex_move rfl) rfl rfl fun a hF=>q_x (v:=s13.v) hF hS (ex_move rfl) rfl rfl fun a hF=>?_))
     obtain ⟨m30,hl30,hv30,hz30⟩:=hS.lend
     obtain ⟨t_29,ht_29,hr⟩:=bindS hr
     refine q_call (vs:=[(.agg #[s1.v]),s2.v,(.agg #[(iV p_t.Level),s3.v,s4.v,(iV p_t.Sum)]),(iV t_9),s13.v]) hF hS func98 (by kernel_rfl) rfl rfl rfl (c_impl_cellIndex p_g p_s p_t t_9 values_24 t_29 ht_29 _ m30 hv30 s1 (h1.mono hl30) s2 (h2.mono hl30) s3 (h3.mono hl30) s4 (h4.mono hl30) s13 (h25.froz hl30 (hz30 0 _ rfl))) ?_
     rintro a w _ rfl hF hS
     refine q_x (v:=(iV amount_28)) hF hS (ex_move rfl) rfl rfl fun a hF=>q_x (v:=(iV t_29)) hF hS (ex_assign rfl) rfl rfl fun a hF=>q_x (v:=(iV amount_28)) hF hS (ex_assign rfl) rfl rfl fun a hF=>q_end (n_sq (q_ret ?_))
     obtain rfl:=someI hr
     exact ret_of hF hS rfl (.tmp rfl (.tmp rfl .nil)) rfl
  ·have hr:=cond_t hc3 hr
   refine q_cond_t hF rfl hc3 (q_seq (q_region (q_x (v:=(iV (-1))) hF hS (ex_assign rfl) rfl rfl fun a hF=>q_x (v:=(iV 0)) hF hS (ex_assign rfl) rfl rfl fun a hF=>q_end (n_sq (q_ret (r_sq ?_))))))
   obtain rfl:=someI hr
   exact ret_of hF hS rfl (.tmp rfl (.tmp rfl .nil)) rfl

theorem c_impl_tableOf (p_g:impl_Geo) (p_s:List impl_Variable) (p_t:impl_Table) (p_l:List impl_Record) (r:(List Int)) (hr:impl_tableOf p_g p_s p_t p_l=some r) (w0:World) (m:Mem) (hv:Vis m w0) (s1:Sl) (h1:Rd m s1 p_g.Parents) (s2:Sl) (h2:Rd m s2 p_s) (s3:Sl) (h3:Rd m s3 p_t.Vars) (s4:Sl) (h4:Rd m s4 p_t.Where) (s5:Sl) (h5:Rd m s5 p_l) :
  Ret prog 23 [(.agg #[s1.v]),s2.v,(.agg #[(iV p_t.Level),s3.v,s4.v,(iV p_t.Sum)]),s5.v] w0 (fun v w=>∃ (q0':Piece) (s0':Sl),v=s0'.v∧St [] w0 w m [q0']∧OwnL m 3 q0' s0' r):=by
 unfold impl_tableOf at hr
 refine ret_start func23 rfl 44 rfl rfl m hv fun a hF hS=>q_seq (q_region (q_box (cs:=[s1.v]) hF hS rfl rfl rfl fun a w b6 hF hS=>q_box (cs:=[(iV p_t.Level),s3.v,s4.v,(iV p_t.Sum)]) hF hS rfl rfl rfl fun a w b7 hF hS=>q_x (v:=nilS.v) hF hS (ex_assign rfl) rfl rfl fun a hF=>q_end (n_sq (q_seq (q_region (q_x (v:=(.agg #[s1.v])) hF hS (ex_loadA (vs:=[s1.v]) 1 0 underlying25 rfl sz25 rfl rfl rfl rfl) rfl rfl fun a hF=>q_x (v:=s2.v) hF hS (ex_move rfl) rfl rfl fun a hF=>q_x (v:=(.agg #[(iV p_t.Level),s3.v,s4.v,(iV p_t.Sum)])) hF hS (ex_loadA (vs:=[(iV p_t.Level),s3.v,s4.v,(iV p_t.Sum)]) 0 0 underlying28 rfl sz28 rfl rfl rfl rfl) rfl rfl fun a hF=>?_))))))
 obtain ⟨t_8,ht_8,hr⟩:=bindS hr
 refine q_call (vs:=[(.agg #[s1.v]),s2.v,(.agg #[(iV p_t.Level),s3.v,s4.v,(iV p_t.Sum)])]) hF hS func61 (by kernel_rfl) rfl rfl rfl (c_impl_cellCount p_g p_s p_t t_8 ht_8 _ m hS.vis s1 h1 s2 h2 s3 h3 s4 h4) ?_
 rintro a w _ rfl hF hS
 obtain ⟨l_9,hl_9,hr⟩:=bindS hr
 refine q_do rfl fun _ hK=>wp_make (z:=(0:Int)) hF hS underlying23 inf3 rfl rfl rfl rfl rfl (by decide) hl_9 rfl fun a w q10 s10 hF hS h10 _=>hK _ _ (q_x (v:=s10.v) hF hS (ex_assign rfl) rfl rfl fun a hF=>q_end (n_sq (q_seq (q_seq (q_region (q_x (v:=s5.v) hF hS (ex_move rfl) rfl rfl fun a hF=>q_x (v:=(iV (goLen p_l))) hF hS (ex_len underlying29 rfl h5.len) rfl rfl fun a hF=>q_x (v:=(iV 0)) hF hS (ex_move rfl) rfl rfl fun a hF=>q_end (n_sq (q_block ?_))))))))
 obtain ⟨cells_26,hl1,hr⟩:=bindS hr
 refine q_loop (fun (s:(List Int) × Int) a w=>∃ (q12:Piece),∃ cells_11,∃ t_13,s=(cells_11,t_13)∧Fr a 44 [(1,s2.v),(4,(.pointer (some ⟨b6,0,none⟩))),(6,(.pointer (some ⟨b7,0,none⟩))),(9,s10.v),(19,s5.v),(20,(iV (goLen p_l))),(21,(iV t_13))]∧St [] w0 w m [q12,[⟨b7,[(iV p_t.Level),s3.v,s4.v,(iV p_t.Sum)],28⟩],[⟨b6,[s1.v],25⟩]]∧OwnL m 3 q12 s10 cells_11) (fun (cells_26:(List Int)) e a w=>∃ (q27:Piece),e=.exit 0∧Fr a 44 [(9,s10.v)]∧St [] w0 w m [q27]∧OwnL m 3 q27 s10 cells_26) hl1 ⟨q10,_,_,rfl,hF.sub ⟨rfl,rfl,rfl,rfl,rfl,rfl,rfl,trivial⟩,hS,h10⟩ ?_ ?_
 ·clear hF hS
  rintro s a w st ⟨q12,cells_11,t_13,rfl,hF,hS,h12⟩ hb1
  unfold impl_tableOf_l1 at hb1
  refine q_seq (q_region (q_x (v:=(.bool (decide (t_13<(goLen p_l))))) hF hS (ex_ibin rfl rfl rfl) rfl rfl fun a hF=>q_end (n_sq (q_seq ?_))))
  rcases bcase (decide (t_13<(goLen p_l))) with hc2 | hc2
  ·have hb1:=cond_f hc2 hb1
   refine q_cond_f hF rfl hc2 (q_exit (x_sq ?_))
   obtain rfl:=someI hb1
   exact ⟨nofun,.inl ⟨q12,rfl,hF.sub ⟨rfl,trivial⟩,hS.mask [true,false,false],h12⟩⟩
  ·have hb1:=cond_t hc2 hb1
   refine q_cond_t hF rfl hc2 (q_skipc (n_sq (q_seq (q_block (q_seq (q_region ?_))))))
   obtain ⟨e_14,he_14,hb1⟩:=bindS hb1
   obtain ⟨vs15,at15,d15⟩:=h5.at he_14 3 rfl
   obtain ⟨s16,rfl,h16⟩:∃ s16:Sl,vs15=[(iV e_14.Area),(iV e_14.House),s16.v]∧Rd m s16 e_14.Values:=d15
   refine q_x (v:=(elP s5 (t_13.toNat * 3))) hF hS (ex_indexAddr underlying29 sz85 rfl rfl (h5.idx he_14)) rfl rfl fun a hF=>q_x (v:=(.agg #[(iV e_14.Area),(iV e_14.House),s16.v])) hF hS (ex_loadEA (us:=[(iV e_14.Area),(iV e_14.House),s16.v]) 0 underlying85 rfl sz85 rfl ((at15).at) rfl rfl rfl) rfl rfl fun a hF=>q_alloc (cs:=[(iV 0),(iV 0),nilS.v]) hF hS rfl rfl rfl fun a w b17 hF hS=>q_store (vs:=[(iV e_14.Area),(iV e_14.House),s16.v]) (cs':=[(iV e_14.Area),(iV e_14.House),s16.v]) 0 0 hF hS sz85 rfl rfl rfl rfl rfl rfl rfl rfl fun a w hF hS=>q_end (n_sq (q_seq (q_region (q_x (v:=(.agg #[s1.v])) hF hS (ex_loadA (vs:=[s1.v]) 3 0 underlying25 rfl sz25 rfl rfl rfl rfl) rfl rfl fun a hF=>q_x (v:=s2.v) hF hS (ex_move rfl) rfl rfl fun a hF=>q_x (v:=(.agg #[(iV p_t.Level),s3.v,s4.v,(iV p_t.Sum)])) hF hS (ex_loadA (vs:=[(iV p_t.Level),s3.v,s4.v,(iV p_t.Sum)]) 2 0 underlying28 rfl sz28 rfl rfl rfl rfl) rfl rfl fun a hF=>q_x (v:=(.agg #[(iV e_14.Area),(iV e_14.House),s16.v])) hF hS (ex_loadA (vs:=[(iV e_14.Area),(iV e_14.House),s16.v]) 0 0 underlying85 rfl sz85 rfl rfl rfl rfl) rfl rfl fun a hF=>?_))))
   obtain ⟨t_18,ht_18,hb1⟩:=bindS hb1
   refine q_call (vs:=[(.agg #[s1.v]),s2.v,(.agg #[(iV p_t.Level),s3.v,s4.v,(iV p_t.Sum)]),(.agg #[(iV e_14.Area),(iV e_14.House),s16.v])]) hF hS func62 (by kernel_rfl) rfl rfl rfl (c_impl_contribution p_g p_s p_t e_14 t_18 ht_18 _ m hS.vis s1 h1 s2 h2 s3 h3 s4 h4 s16 h16) ?_
   rintro a w _ rfl hF hS
   refine q_x (v:=(.tuple #[(iV t_18.1),(iV t_18.2)])) hF hS (ex_move rfl) rfl rfl fun a hF=>q_x (v:=(iV t_18.1)) hF hS (ex_extract rfl rfl) rfl rfl fun a hF=>q_x (v:=(iV t_18.2)) hF hS (ex_extract rfl rfl) rfl rfl fun a hF=>q_x (v:=(iV t_18.1)) hF hS (ex_assign rfl) rfl rfl fun a hF=>q_x (v:=(iV t_18.2)) hF hS (ex_assign rfl) rfl rfl fun a hF=>q_end (n_sq (q_seq (q_region (q_x (v:=(iV t_18.1)) hF hS (ex_move rfl) rfl rfl fun a hF=>q_x (v:=(.bool (decide (0≤t_18.1)))) hF hS (ex_ibin rfl rfl rfl) rfl rfl fun a hF=>q_end (n_sq ?_)))))
   obtain ⟨cells_24,hj3,hb1⟩:=bindS hb1
   refine q_join (fun a w=>∃ (q25:Piece),Fr a 44 [(1,s2.v),(4,(.pointer (some ⟨b6,0,none⟩))),(6,(.pointer (some ⟨b7,0,none⟩))),(9,s10.v),(19,s5.v),(20,(iV (goLen p_l))),(21,(iV t_13))]∧St [] w0 w m [q25,[⟨b7,[(iV p_t.Level),s3.v,s4.v,(iV p_t.Sum)],28⟩],[⟨b6,[s1.v],25⟩]]∧OwnL m 3 q25 s10 cells_24) ?_ ?_
   ·rcases bcase (decide (0≤t_18.1)) with hc4 | hc4
    ·have hj3:=cond_f hc4 hj3
     refine q_cond_f hF rfl hc4 (q_skipc (n_jn ?_))
     obtain rfl:=someI hj3
     exact ⟨q12,hF.sub ⟨rfl,rfl,rfl,rfl,rfl,rfl,rfl,trivial⟩,hS.mask [false,true,true,true],h12⟩
    ·have hj3:=cond_t hc4 hj3
     refine q_cond_t hF rfl hc4 (q_region (q_x (v:=s10.v) hF hS (ex_move rfl) rfl rfl fun a hF=>q_x (v:=(iV t_18.1)) hF hS (ex_move rfl) rfl rfl fun a hF=>?_))
     obtain ⟨e_19,he_19,hj3⟩:=bindS hj3
     obtain ⟨vs20,at20,d20⟩:=h12.at he_19 1 rfl
     obtain rfl:vs20=[(iV e_19)]:=d20
     refine q_x (v:=(elP s10 (t_18.1.toNat * 1))) hF hS (ex_indexAddr underlying23 sz3 rfl rfl (h12.idx he_19)) rfl rfl fun a hF=>q_x (v:=(iV e_19)) hF hS (ex_loadE1 0 underlying3 rfl rfl (at20.at 1 rfl) rfl rfl) rfl rfl fun a hF=>q_x (v:=(iV t_18.2)) hF hS (ex_move rfl) rfl rfl fun a hF=>q_x (v:=(iV (w64 (e_19 + t_18.2)))) hF hS (ex_ibin rfl rfl rfl) rfl rfl fun a hF=>?_
     obtain ⟨e_21,he_21,hj3⟩:=bindS hj3
     obtain ⟨vs22,at22,d22⟩:=h12.at he_21 1 rfl
     obtain rfl:vs22=[(iV e_21)]:=d22
     refine q_x (v:=(elP s10 (t_18.1.toNat * 1))) hF hS (ex_indexAddr underlying23 sz3 rfl rfl (h12.idx he_21)) rfl rfl fun a hF=>?_
     have hS:St _ _ _ _ [q12,[⟨b17,[(iV e_14.Area),(iV e_14.House),s16.v],85⟩],[⟨b7,[(iV p_t.Level),s3.v,s4.v,(iV p_t.Sum)],28⟩],[⟨b6,[s1.v],25⟩]]:=hS.sel [1,0,2,3] (by decide)
     refine q_do rfl fun _ hK=>wp_storeE (e':=(w64 (e_19 + t_18.2))) (us:=[(iV (w64 (e_19 + t_18.2)))]) (vs:=[(iV e_21)]) 0 hF hS h12 sz3 rfl rfl rfl rfl rfl rfl rfl he_21 at22 rfl rfl rfl fun w q23 hS h23=>hK _ _ (q_end (n_jn ?_))
     obtain rfl:=someI hj3
     exact ⟨q23,hF.sub ⟨rfl,rfl,rfl,rfl,rfl,rfl,rfl,trivial⟩,hS.mask [true,false,true,true],h23⟩
   ·rintro a w ⟨q25,hF,hS,h25⟩
    refine n_ib (n_sq ?_)
    refine q_region (q_x (v:=(iV (w64 (t_13 + 1)))) hF hS (ex_ibin rfl rfl rfl) rfl rfl fun a hF=>q_x (v:=(iV (w64 (t_13 + 1)))) hF hS (ex_move rfl) rfl rfl fun a hF=>q_end ?_)
    obtain rfl:=someI hb1
    exact ⟨rfl,q25,_,_,rfl,hF.sub ⟨rfl,rfl,rfl,rfl,rfl,rfl,rfl,trivial⟩,hS,h25⟩
 ·rintro e a w ⟨q27,rfl,hF,hS,h27⟩
  refine x_ib (n_sq ?_)
  refine q_seq (q_region (q_x (v:=s10.v) hF hS (ex_move rfl) rfl rfl fun a hF=>q_x (v:=s10.v) hF hS (ex_assign rfl) rfl rfl fun a hF=>q_end (n_sq (q_ret ?_))))
  obtain rfl:=someI hr
  exact ret_of hF hS rfl (.tmp rfl .nil) ⟨q27,s10,rfl,hS.sel [0] (by decide),h27⟩

theorem c_impl_cubeCells (p_sizes:List Int) (r:Int) (hr:impl_cubeCells p_sizes=some r) (w0:World) (m:Mem) (hv:Vis m w0) (s1:Sl) (h1:Rd m s1 p_sizes) :
  Ret prog 35 [s1.v] w0 (fun v _=>v=(iV r)):=by
 unfold impl_cubeCells at hr
 refine ret_start func35 rfl 29 rfl rfl m hv fun a hF hS=>q_seq (q_region (q_x (v:=(iV 0)) hF hS (ex_assign rfl) rfl rfl fun a hF=>q_end (n_sq (q_seq (q_seq (q_region (q_x (v:=s1.v) hF hS (ex_move rfl) rfl rfl fun a hF=>q_x (v:=(iV (goLen p_sizes))) hF hS (ex_len underlying23 rfl h1.len) rfl rfl fun a hF=>q_x (v:=(.bool (decide (4<(goLen p_sizes))))) hF hS (ex_ibin rfl rfl rfl) rfl rfl fun a hF=>q_end (n_sq ?_))))))))
 rcases bcase (decide (4<(goLen p_sizes))) with hc1 | hc1
 ·have hr:=cond_f hc1 hr
  refine q_cond_f hF rfl hc1 (q_skipc (n_sq (q_seq (q_region (q_x (v:=(iV 1)) hF hS (ex_assign rfl) rfl rfl fun a hF=>q_end (n_sq (q_seq (q_seq (q_region (q_x (v:=s1.v) hF hS (ex_move rfl) rfl rfl fun a hF=>q_x (v:=(iV (goLen p_sizes))) hF hS (ex_len underlying23 rfl h1.len) rfl rfl fun a hF=>q_x (v:=(iV 0)) hF hS (ex_move rfl) rfl rfl fun a hF=>q_end (n_sq (q_block ?_))))))))))))
  obtain ⟨o2,hl2,hr⟩:=bindS hr
  refine q_loop (fun (s:Int × Int) a w=>∃ n_2,∃ t_3,s=(n_2,t_3)∧Fr a 29 [(3,(iV n_2)),(9,s1.v),(10,(iV (goLen p_sizes))),(11,(iV t_3))]∧St [] w0 w m []) (fun (o:(Int) ⊕ (Int)) e a w=>∃ n_7,o=.inl n_7∧e=.exit 0∧Fr a 29 [(3,(iV n_7))]∧St [] w0 w m []) hl2 ⟨_,_,rfl,hF.sub ⟨rfl,rfl,rfl,rfl,trivial⟩,hS⟩ ?_ ?_
  ·clear hF hS
   rintro s a w st ⟨n_2,t_3,rfl,hF,hS⟩ hb2
   unfold impl_cubeCells_l1 at hb2
   refine q_seq (q_region (q_x (v:=(.bool (decide (t_3<(goLen p_sizes))))) hF hS (ex_ibin rfl rfl rfl) rfl rfl fun a hF=>q_end (n_sq (q_seq ?_))))
   rcases bcase (decide (t_3<(goLen p_sizes))) with hc3 | hc3
   ·have hb2:=cond_f hc3 hb2
    refine q_cond_f hF rfl hc3 (q_exit (x_sq ?_))
    obtain rfl:=someI hb2
    exact ⟨nofun,.inl ⟨_,rfl,rfl,hF.sub ⟨rfl,trivial⟩,hS⟩⟩
   ·have hb2:=cond_t hc3 hb2
    refine q_cond_t hF rfl hc3 (q_skipc (n_sq (q_seq (q_block (q_seq (q_region ?_))))))
    obtain ⟨e_4,he_4,hb2⟩:=bindS hb2
    obtain ⟨vs5,at5,d5⟩:=h1.at he_4 1 rfl
    obtain rfl:vs5=[(iV e_4)]:=d5
    refine q_x (v:=(elP s1 (t_3.toNat * 1))) hF hS (ex_indexAddr underlying23 sz3 rfl rfl (h1.idx he_4)) rfl rfl fun a hF=>q_x (v:=(iV e_4)) hF hS (ex_loadE1 0 underlying3 rfl rfl ((at5).at) rfl rfl) rfl rfl fun a hF=>q_x (v:=(iV e_4)) hF hS (ex_assign rfl) rfl rfl fun a hF=>q_end (n_sq (q_seq (q_seq ?_)))
    obtain ⟨t_6,hj4,hb2⟩:=bindS hb2
    refine q_join (fun a w=>Fr a 29 [(3,(iV n_2)),(5,(iV e_4)),(9,s1.v),(10,(iV (goLen p_sizes))),(11,(iV t_3)),(20,(.bool t_6))]∧St [] w0 w m []) ?_ ?_
    ·refine q_region (q_x (v:=(iV e_4)) hF hS (ex_move rfl) rfl rfl fun a hF=>q_x (v:=(.bool (decide (e_4<1)))) hF hS (ex_ibin rfl rfl rfl) rfl rfl fun a hF=>q_x (v:=(.bool (decide (e_4<1)))) hF hS (ex_move rfl) rfl rfl fun a hF=>?_)
     rcases bcase (decide (e_4<1)) with hc5 | hc5
     ·have hj4:=cond_f hc5 hj4
      refine q_xg (v:=(iV e_4)) hF hS (ex_move rfl) (wanted_t hF rfl rfl rfl hc5) rfl fun a hF=>q_xg (v:=(.bool (decide (30<e_4)))) hF hS (ex_ibin rfl rfl rfl) (wanted_t hF rfl rfl rfl hc5) rfl fun a hF=>q_x (v:=(.bool (decide (30<e_4)))) hF hS (ex_pick_f rfl rfl hc5) rfl rfl fun a hF=>q_end (n_jn ?_)
      obtain rfl:=someI hj4
      exact ⟨hF.sub ⟨rfl,rfl,rfl,rfl,rfl,rfl,trivial⟩,hS⟩
     ·have hj4:=cond_t hc5 hj4
      refine q_skip hF (wanted_f hF rfl rfl rfl hc5 rfl) rfl fun a hF=>q_skip hF (wanted_f hF rfl rfl rfl hc5 rfl) rfl fun a hF=>q_x (v:=(.bool true)) hF hS (ex_pick_t rfl rfl hc5) rfl rfl fun a hF=>q_end (n_jn ?_)
      obtain rfl:=someI hj4
      exact ⟨hF.sub ⟨rfl,rfl,rfl,rfl,rfl,rfl,trivial⟩,hS⟩
    ·rintro a w ⟨hF,hS⟩
     refine n_sq ?_
     rcases bcase (t_6) with hc6 | hc6
     ·have hb2:=cond_f hc6 hb2
      refine q_cond_f hF rfl hc6 (q_skipc (n_sq (q_region (q_x (v:=(iV n_2)) hF hS (ex_move rfl) rfl rfl fun a hF=>q_x (v:=(iV e_4)) hF hS (ex_move rfl) rfl rfl fun a hF=>q_x (v:=(iV (w64 (e_4 + 1)))) hF hS (ex_ibin rfl rfl rfl) rfl rfl fun a hF=>q_x (v:=(iV (w64 (n_2 * (w64 (e_4 + 1)))))) hF hS (ex_ibin rfl rfl rfl) rfl rfl fun a hF=>q_x (v:=(iV (w64 (n_2 * (w64 (e_4 + 1)))))) hF hS (ex_assign rfl) rfl rfl fun a hF=>q_end (n_ib (n_sq (q_region (q_x (v:=(iV (w64 (t_3 + 1)))) hF hS (ex_ibin rfl rfl rfl) rfl rfl fun a hF=>q_x (v:=(iV (w64 (t_3 + 1)))) hF hS (ex_move rfl) rfl rfl fun a hF=>q_end ?_))))))))
      obtain rfl:=someI hb2
      exact ⟨rfl,_,_,rfl,hF.sub ⟨rfl,rfl,rfl,rfl,trivial⟩,hS⟩
     ·have hb2:=cond_t hc6 hb2
      refine q_cond_t hF rfl hc6 (q_seq (q_region (q_x (v:=(iV 0)) hF hS (ex_assign rfl) rfl rfl fun a hF=>q_end (n_sq (q_ret (r_sq (r_ib (r_sq ?_))))))))
      obtain rfl:=someI hb2
      refine ⟨nofun,.inr fun ho=>?_⟩
      subst ho
      refine r_ib (r_sq ?_)
      obtain rfl:=someI hr
      exact ret_of hF hS rfl (.tmp rfl .nil) rfl
  ·rintro e a w ⟨n_7,rfl,rfl,hF,hS⟩
   refine x_ib (n_sq ?_)
   refine q_seq (q_seq (q_region (q_x (v:=(iV n_7)) hF hS (ex_move rfl) rfl rfl fun a hF=>q_x (v:=(.bool (decide (2000<n_7)))) hF hS (ex_ibin rfl rfl rfl) rfl rfl fun a hF=>q_end (n_sq ?_))))
   rcases bcase (decide (2000<n_7)) with hc7 | hc7
   ·have hr:=cond_f hc7 hr
    refine q_cond_f hF rfl hc7 (q_skipc (n_sq (q_seq (q_region (q_x (v:=(iV n_7)) hF hS (ex_move rfl) rfl rfl fun a hF=>q_x (v:=(iV n_7)) hF hS (ex_assign rfl) rfl rfl fun a hF=>q_end (n_sq (q_ret ?_)))))))
    obtain rfl:=someI hr
    exact ret_of hF hS rfl (.tmp rfl .nil) rfl
   ·have hr:=cond_t hc7 hr
    refine q_cond_t hF rfl hc7 (q_seq (q_region (q_x (v:=(iV 0)) hF hS (ex_assign rfl) rfl rfl fun a hF=>q_end (n_sq (q_ret (r_sq ?_))))))
    obtain rfl:=someI hr
    exact ret_of hF hS rfl (.tmp rfl .nil) rfl
 ·have hr:=cond_t hc1 hr
  refine q_cond_t hF rfl hc1 (q_seq (q_region (q_x (v:=(iV 0)) hF hS (ex_assign rfl) rfl rfl fun a hF=>q_end (n_sq (q_ret (r_sq ?_))))))
  obtain rfl:=someI hr
  exact ret_of hF hS rfl (.tmp rfl .nil) rfl

theorem c_slices_Clone_int_int (p_s:List Int) (r:(List Int)) (hr:slices_Clone_int_int p_s=some r) (w0:World) (m:Mem) (hv:Vis m w0) (s1:Sl) (h1:Rd m s1 p_s) :
  Ret prog 45 [s1.v] w0 (fun v w=>∃ (q0':Piece) (s0':Sl),v=s0'.v∧St [] w0 w m [q0']∧OwnL m 3 q0' s0' r):=by
 unfold slices_Clone_int_int at hr
 refine ret_start func45 rfl 8 rfl rfl m hv fun a hF hS=>q_seq (q_region (q_x (v:=nilS.v) hF hS (ex_assign rfl) rfl rfl fun a hF=>q_end (n_sq (q_seq (q_seq (q_region (q_x (v:=s1.v) hF hS (ex_move rfl) rfl rfl fun a hF=>q_x (v:=(.bool s1.p.isNone)) hF hS (ex_eqNil underlying23 rfl rfl) rfl rfl fun a hF=>q_end (n_sq ?_))))))))
 rcases bcase (s1.p.isNone) with hc1 | hc1
 ·refine q_cond_f hF rfl hc1 (q_skipc (n_sq (q_seq (q_region (q_do rfl fun _ hK=>wp_build0 (α:=Int) hF hS underlying23 inf3 rfl fun a w q2 s2 hF hS h2 _=>hK _ _ (q_x (v:=s1.v) hF hS (ex_move rfl) rfl rfl fun a hF=>?_))))))
  obtain ⟨l_3,hl_3,hr⟩:=bindS hr
  refine q_do rfl fun _ hK=>wp_append hF hS h2 underlying23 inf3 rfl rfl rfl rfl (h1.vw hS.vis) rfl (by decide) hl_3 rfl fun a w q4 s4 hF hS h4=>hK _ _ (q_x (v:=s4.v) hF hS (ex_assign rfl) rfl rfl fun a hF=>q_end (n_sq (q_ret ?_)))
  obtain rfl:=someI hr
  exact ret_of hF hS rfl (.tmp rfl .nil) ⟨q4,s4,rfl,hS.sel [0] (by decide),h4⟩
 ·have hnhc1:=h1.nilE hc1
  have hr:(some ([]:List Int))=some r:=by rw [hnhc1] at hr; exact hr
  refine q_cond_t hF rfl hc1 (q_seq (q_region (q_x (v:=nilS.v) hF hS (ex_assign rfl) rfl rfl fun a hF=>q_end (n_sq (q_ret (r_sq ?_))))))
  obtain rfl:=someI hr
  exact ret_of hF hS rfl (.tmp rfl .nil) ⟨[],nilS,rfl,hS.sel [0] (by decide),(OwnL.nil (α:=Int) m 3)⟩

theorem c_impl_strides (p_sizes:List Int) (r:(List Int)) (hr:impl_strides p_sizes=some r) (w0:World) (m:Mem) (hv:Vis m w0) (s1:Sl) (h1:Rd m s1 p_sizes) :
  Ret prog 36 [s1.v] w0 (fun v w=>∃ (q0':Piece) (s0':Sl),v=s0'.v∧St [] w0 w m [q0']∧OwnL m 3 q0' s0' r):=by
 unfold impl_strides at hr
 refine ret_start func36 rfl 28 rfl rfl m hv fun a hF hS=>q_seq (q_region (q_x (v:=nilS.v) hF hS (ex_assign rfl) rfl rfl fun a hF=>q_end (n_sq (q_seq (q_region (q_x (v:=s1.v) hF hS (ex_move rfl) rfl rfl fun a hF=>q_x (v:=(iV (goLen p_sizes))) hF hS (ex_len underlying23 rfl h1.len) rfl rfl fun a hF=>?_))))))
 obtain ⟨l_2,hl_2,hr⟩:=bindS hr
 refine q_do rfl fun _ hK=>wp_make (z:=(0:Int)) hF hS underlying23 inf3 rfl rfl rfl rfl rfl (by decide) hl_2 rfl fun a w q3 s3 hF hS h3 _=>hK _ _ (q_x (v:=s3.v) hF hS (ex_assign rfl) rfl rfl fun a hF=>q_end (n_sq (q_seq (q_region (q_x (v:=(iV 1)) hF hS (ex_assign rfl) rfl rfl fun a hF=>q_end (n_sq (q_seq (q_seq (q_region (q_x (v:=s1.v) hF hS (ex_move rfl) rfl rfl fun a hF=>q_x (v:=(iV (goLen p_sizes))) hF hS (ex_len underlying23 rfl h1.len) rfl rfl fun a hF=>q_x (v:=(iV (w64 ((goLen p_sizes) - 1)))) hF hS (ex_ibin rfl rfl rfl) rfl rfl fun a hF=>q_x (v:=(iV (w64 ((goLen p_sizes) - 1)))) hF hS (ex_assign rfl) rfl rfl fun a hF=>q_end (n_sq (q_block ?_))))))))))))
 obtain ⟨out_13,hl1,hr⟩:=bindS hr
 refine q_loop (fun (s:(List Int) × Int × Int) a w=>∃ (q5:Piece),∃ out_4,∃ n_6,∃ d_7,s=(out_4,n_6,d_7)∧Fr a 28 [(0,s1.v),(3,s3.v),(4,(iV n_6)),(5,(iV d_7))]∧St [] w0 w m [q5]∧OwnL m 3 q5 s3 out_4) (fun (out_13:(List Int)) e a w=>∃ (q14:Piece),e=.exit 0∧Fr a 28 [(3,s3.v)]∧St [] w0 w m [q14]∧OwnL m 3 q14 s3 out_13) hl1 ⟨q3,_,_,_,rfl,hF.sub ⟨rfl,rfl,rfl,rfl,trivial⟩,hS,h3⟩ ?_ ?_
 ·clear hF hS
  rintro s a w st ⟨q5,out_4,n_6,d_7,rfl,hF,hS,h5⟩ hb1
  unfold impl_strides_l1 at hb1
  refine q_seq (q_seq (q_region (q_x (v:=(iV d_7)) hF hS (ex_move rfl) rfl rfl fun a hF=>q_x (v:=(.bool (decide (0≤d_7)))) hF hS (ex_ibin rfl rfl rfl) rfl rfl fun a hF=>q_end (n_sq ?_))))
  rcases bcase (decide (0≤d_7)) with hc2 | hc2
  ·have hb1:=cond_f hc2 hb1
   refine q_cond_f hF rfl hc2 (q_exit (x_sq ?_))
   obtain rfl:=someI hb1
   exact ⟨nofun,.inl ⟨q5,rfl,hF.sub ⟨rfl,trivial⟩,hS,h5⟩⟩
  ·have hb1:=cond_t hc2 hb1
   refine q_cond_t hF rfl hc2 (q_skipc (n_sq (q_seq (q_block (q_seq (q_region (q_x (v:=s3.v) hF hS (ex_move rfl) rfl rfl fun a hF=>q_x (v:=(iV d_7)) hF hS (ex_move rfl) rfl rfl fun a hF=>q_x (v:=(iV n_6)) hF hS (ex_move rfl) rfl rfl fun a hF=>?_)))))))
   obtain ⟨e_8,he_8,hb1⟩:=bindS hb1
   obtain ⟨vs9,at9,d9⟩:=h5.at he_8 1 rfl
   obtain rfl:vs9=[(iV e_8)]:=d9
   refine q_x (v:=(elP s3 (d_7.toNat * 1))) hF hS (ex_indexAddr underlying23 sz3 rfl rfl (h5.idx he_8)) rfl rfl fun a hF=>q_do rfl fun _ hK=>wp_storeE (e':=n_6) (us:=[(iV n_6)]) (vs:=[(iV e_8)]) 0 hF hS h5 sz3 rfl rfl rfl rfl rfl rfl rfl he_8 at9 rfl rfl rfl fun w q10 hS h10=>hK _ _ (q_end (n_sq (q_region (q_x (v:=(iV n_6)) hF hS (ex_move rfl) rfl rfl fun a hF=>q_x (v:=s1.v) hF hS (ex_move rfl) rfl rfl fun a hF=>q_x (v:=(iV d_7)) hF hS (ex_move rfl) rfl rfl fun a hF=>?_))))
   obtain ⟨e_11,he_11,hb1⟩:=bindS hb1
   obtain ⟨vs12,at12,d12⟩:=h1.at he_11 1 rfl
   obtain rfl:vs12=[(iV e_11)]:=d12
   refine q_x (v:=(elP s1 (d_7.toNat * 1))) hF hS (ex_indexAddr underlying23 sz3 rfl rfl (h1.idx he_11)) rfl rfl fun a hF=>q_x (v:=(iV e_11)) hF hS (ex_loadE1 0 underlying3 rfl rfl ((at12).at) rfl rfl) rfl rfl fun a hF=>q_x (v:=(iV (w64 (e_11 + 1)))) hF hS (ex_ibin rfl rfl rfl) rfl rfl fun a hF=>q_x (v:=(iV (w64 (n_6 * (w64 (e_11 + 1)))))) hF hS (ex_ibin rfl rfl rfl) rfl rfl fun a hF=>q_x (v:=(iV (w64 (n_6 * (w64 (e_11 + 1)))))) hF hS (ex_assign rfl) rfl rfl fun a hF=>q_end (n_ib (n_sq (q_region (q_x (v:=(iV d_7)) hF hS (ex_move rfl) rfl rfl fun a hF=>q_x (v:=(iV (w64 (d_7 - 1)))) hF hS (ex_ibin rfl rfl rfl) rfl rfl fun a hF=>q_x (v:=(iV (w64 (d_7 - 1)))) hF hS (ex_assign rfl) rfl rfl fun a hF=>q_end ?_))))
   obtain rfl:=someI hb1
   exact ⟨rfl,q10,_,_,_,rfl,hF.sub ⟨rfl,rfl,rfl,rfl,trivial⟩,hS,h10⟩
 ·rintro e a w ⟨q14,rfl,hF,hS,h14⟩
  refine x_ib (n_sq ?_)
  refine q_seq (q_region (q_x (v:=s3.v) hF hS (ex_move rfl) rfl rfl fun a hF=>q_x (v:=s3.v) hF hS (ex_assign rfl) rfl rfl fun a hF=>q_end (n_sq (q_ret ?_))))
  obtain rfl:=someI hr
  exact ret_of hF hS rfl (.tmp rfl .nil) ⟨q14,s3,rfl,hS.sel [0] (by decide),h14⟩

theorem c_impl_indexOf (p_sizes:List Int) (p_i:Int) (r:(List Int)) (hr:impl_indexOf p_sizes p_i=some r) (w0:World) (m:Mem) (hv:Vis m w0) (s1:Sl) (h1:Rd m s1 p_sizes) :
  Ret prog 37 [s1.v,(iV p_i)] w0 (fun v w=>∃ (q0':Piece) (s0':Sl),v=s0'.v∧St [] w0 w m [q0']∧OwnL m 3 q0' s0' r):=by
 unfold impl_indexOf at hr
 refine ret_start func37 rfl 30 rfl rfl m hv fun a hF hS=>q_seq (q_region (q_x (v:=nilS.v) hF hS (ex_assign rfl) rfl rfl fun a hF=>q_end (n_sq (q_seq (q_region (q_x (v:=s1.v) hF hS (ex_move rfl) rfl rfl fun a hF=>q_x (v:=(iV (goLen p_sizes))) hF hS (ex_len underlying23 rfl h1.len) rfl rfl fun a hF=>?_))))))
 obtain ⟨l_2,hl_2,hr⟩:=bindS hr
 refine q_do rfl fun _ hK=>wp_make (z:=(0:Int)) hF hS underlying23 inf3 rfl rfl rfl rfl rfl (by decide) hl_2 rfl fun a w q3 s3 hF hS h3 _=>hK _ _ (q_x (v:=s3.v) hF hS (ex_assign rfl) rfl rfl fun a hF=>q_end (n_sq (q_seq (q_seq (q_region (q_x (v:=s1.v) hF hS (ex_move rfl) rfl rfl fun a hF=>?_))))))
 obtain ⟨t_4,ht_4,hr⟩:=bindS hr
 refine q_call (vs:=[s1.v]) hF hS func36 (by kernel_rfl) rfl rfl rfl (c_impl_strides p_sizes t_4 ht_4 _ m hS.vis s1 h1) ?_
 rintro a w _ ⟨q6,s6,rfl,hR5,h6⟩ hF hS2
 have hS:St _ _ _ _ [q6,q3]:=hS.joinF hR5
 refine q_x (v:=(iV (goLen t_4))) hF hS (ex_len underlying23 rfl h6.len) rfl rfl fun a hF=>q_x (v:=(iV 0)) hF hS (ex_move rfl) rfl rfl fun a hF=>q_end (n_sq (q_block ?_))
 obtain ⟨out_18,hl1,hr⟩:=bindS hr
 refine q_loop (fun (s:Int × (List Int) × Int) a w=>∃ (q9:Piece),∃ i_7,∃ out_8,∃ t_10,s=(i_7,out_8,t_10)∧Fr a 30 [(1,(iV i_7)),(5,s3.v),(12,s6.v),(13,(iV (goLen t_4))),(14,(iV t_10))]∧St [] w0 w m [q9,q6]∧OwnL m 3 q9 s3 out_8) (fun (out_18:(List Int)) e a w=>∃ (q19:Piece),e=.exit 0∧Fr a 30 [(5,s3.v)]∧St [] w0 w m [q19]∧OwnL m 3 q19 s3 out_18) hl1 ⟨q3,_,_,_,rfl,hF.sub ⟨rfl,rfl,rfl,rfl,rfl,trivial⟩,hS.sel [1,0] (by decide),h3⟩ ?_ ?_
 ·clear hF hS
  rintro s a w st ⟨q9,i_7,out_8,t_10,rfl,hF,hS,h9⟩ hb1
  unfold impl_indexOf_l1 at hb1
  refine q_seq (q_region (q_x (v:=(.bool (decide (t_10<(goLen t_4))))) hF hS (ex_ibin rfl rfl rfl) rfl rfl fun a hF=>q_end (n_sq (q_seq ?_))))
  rcases bcase (decide (t_10<(goLen t_4))) with hc2 | hc2
  ·have hb1:=cond_f hc2 hb1
   refine q_cond_f hF rfl hc2 (q_exit (x_sq ?_))
   obtain rfl:=someI hb1
   exact ⟨nofun,.inl ⟨q9,rfl,hF.sub ⟨rfl,trivial⟩,hS.mask [true,false],h9⟩⟩
  ·have hb1:=cond_t hc2 hb1
   refine q_cond_t hF rfl hc2 (q_skipc (n_sq (q_seq (q_block (q_seq (q_region (q_x (v:=(iV t_10)) hF hS (ex_move rfl) rfl rfl fun a hF=>?_)))))))
   obtain ⟨e_11,he_11,hb1⟩:=bindS hb1
   obtain ⟨vs12,at12,d12⟩:=h6.at he_11 1 rfl
   obtain rfl:vs12=[(iV e_11)]:=d12
   refine q_x (v:=(elP s6 (t_10.toNat * 1))) hF hS (ex_indexAddr underlying23 sz3 rfl rfl (h6.idx he_11)) rfl rfl fun a hF=>q_x (v:=(iV e_11)) hF hS (ex_loadE1 0 underlying3 rfl rfl (at12.at 1 rfl) rfl rfl) rfl rfl fun a hF=>q_x (v:=(iV t_10)) hF hS (ex_assign rfl) rfl rfl fun a hF=>q_x (v:=(iV e_11)) hF hS (ex_assign rfl) rfl rfl fun a hF=>q_end (n_sq (q_seq (q_region (q_x (v:=s3.v) hF hS (ex_move rfl) rfl rfl fun a hF=>q_x (v:=(iV t_10)) hF hS (ex_move rfl) rfl rfl fun a hF=>q_x (v:=(iV i_7)) hF hS (ex_move rfl) rfl rfl fun a hF=>q_x (v:=(iV e_11)) hF hS (ex_move rfl) rfl rfl fun a hF=>?_))))
   obtain ⟨t_13,ht_13,hb1⟩:=bindS hb1
   refine q_x (v:=(iV t_13)) hF hS (ex_quo rfl rfl ht_13) rfl rfl fun a hF=>?_
   obtain ⟨e_14,he_14,hb1⟩:=bindS hb1
   obtain ⟨vs15,at15,d15⟩:=h9.at he_14 1 rfl
   obtain rfl:vs15=[(iV e_14)]:=d15
   refine q_x (v:=(elP s3 (t_10.toNat * 1))) hF hS (ex_indexAddr underlying23 sz3 rfl rfl (h9.idx he_14)) rfl rfl fun a hF=>q_do rfl fun _ hK=>wp_storeE (e':=t_13) (us:=[(iV t_13)]) (vs:=[(iV e_14)]) 0 hF hS h9 sz3 rfl rfl rfl rfl rfl rfl rfl he_14 at15 rfl rfl rfl fun w q16 hS h16=>hK _ _ (q_end (n_sq (q_region (q_x (v:=(iV i_7)) hF hS (ex_move rfl) rfl rfl fun a hF=>q_x (v:=(iV e_11)) hF hS (ex_move rfl) rfl rfl fun a hF=>?_))))
   obtain ⟨t_17,ht_17,hb1⟩:=bindS hb1
   refine q_x (v:=(iV t_17)) hF hS (ex_rem rfl rfl ht_17) rfl rfl fun a hF=>q_x (v:=(iV t_17)) hF hS (ex_assign rfl) rfl rfl fun a hF=>q_end (n_ib (n_sq (q_region (q_x (v:=(iV (w64 (t_10 + 1)))) hF hS (ex_ibin rfl rfl rfl) rfl rfl fun a hF=>q_x (v:=(iV (w64 (t_10 + 1)))) hF hS (ex_move rfl) rfl rfl fun a hF=>q_end ?_))))
   obtain rfl:=someI hb1
   exact ⟨rfl,q16,_,_,_,rfl,hF.sub ⟨rfl,rfl,rfl,rfl,rfl,trivial⟩,hS,h16⟩
 ·rintro e a w ⟨q19,rfl,hF,hS,h19⟩
  refine x_ib (n_sq ?_)
  refine q_seq (q_region (q_x (v:=s3.v) hF hS (ex_move rfl) rfl rfl fun a hF=>q_x (v:=s3.v) hF hS (ex_assign rfl) rfl rfl fun a hF=>q_end (n_sq (q_ret ?_))))
  obtain rfl:=someI hr
  exact ret_of hF hS rfl (.tmp rfl .nil) ⟨q19,s3,rfl,hS.sel [0] (by decide),h19⟩

theorem c_impl_isBase (p_sizes:List Int) (p_index:List Int) (r:Bool) (hr:impl_isBase p_sizes p_index=some r) (w0:World) (m:Mem) (hv:Vis m w0) (s1:Sl) (h1:Rd m s1 p_sizes) (s2:Sl) (h2:Rd m s2 p_index) :
  Ret prog 84 [s1.v,s2.v] w0 (fun v _=>v=(.bool r)):=by
 unfold impl_isBase at hr
 refine ret_start func84 rfl 21 rfl rfl m hv fun a hF hS=>q_seq (q_region (q_x (v:=(.bool false)) hF hS (ex_assign rfl) rfl rfl fun a hF=>q_end (n_sq (q_seq (q_seq (q_region (q_x (v:=s2.v) hF hS (ex_move rfl) rfl rfl fun a hF=>q_x (v:=(iV (goLen p_index))) hF hS (ex_len underlying23 rfl h2.len) rfl rfl fun a hF=>q_x (v:=(iV 0)) hF hS (ex_move rfl) rfl rfl fun a hF=>q_end (n_sq (q_block ?_)))))))))
 obtain ⟨o1,hl1,hr⟩:=bindS hr
 refine q_loop (fun (t_3:Int) a w=>Fr a 21 [(0,s1.v),(7,s2.v),(8,(iV (goLen p_index))),(9,(iV t_3))]∧St [] w0 w m []) (fun (o:(Unit) ⊕ (Bool)) e a w=>o=.inl ()∧e=.exit 0∧Fr a 21 []∧St [] w0 w m []) hl1 ⟨hF.sub ⟨rfl,rfl,rfl,rfl,trivial⟩,hS⟩ ?_ ?_
 ·clear hF hS
  rintro t_3 a w st ⟨hF,hS⟩ hb1
  unfold impl_isBase_l1 at hb1
  refine q_seq (q_region (q_x (v:=(.bool (decide (t_3<(goLen p_index))))) hF hS (ex_ibin rfl rfl rfl) rfl rfl fun a hF=>q_end (n_sq (q_seq ?_))))
  rcases bcase (decide (t_3<(goLen p_index))) with hc2 | hc2
  ·have hb1:=cond_f hc2 hb1
   refine q_cond_f hF rfl hc2 (q_exit (x_sq ?_))
   obtain rfl:=someI hb1
   exact ⟨nofun,.inl ⟨rfl,rfl,hF.sub trivial,hS⟩⟩
  ·have hb1:=cond_t hc2 hb1
   refine q_cond_t hF rfl hc2 (q_skipc (n_sq (q_seq (q_block (q_seq (q_region (q_x (v:=(iV t_3)) hF hS (ex_move rfl) rfl rfl fun a hF=>?_)))))))
   obtain ⟨e_4,he_4,hb1⟩:=bindS hb1
   obtain ⟨vs5,at5,d5⟩:=h2.at he_4 1 rfl
   obtain rfl:vs5=[(iV e_4)]:=d5
   refine q_x (v:=(elP s2 (t_3.toNat * 1))) hF hS (ex_indexAddr underlying23 sz3 rfl rfl (h2.idx he_4)) rfl rfl fun a hF=>q_x (v:=(iV e_4)) hF hS (ex_loadE1 0 underlying3 rfl rfl ((at5).at) rfl rfl) rfl rfl fun a hF=>q_x (v:=(iV t_3)) hF hS (ex_assign rfl) rfl rfl fun a hF=>q_x (v:=(iV e_4)) hF hS (ex_assign rfl) rfl rfl fun a hF=>q_end (n_sq (q_seq (q_region (q_x (v:=(iV e_4)) hF hS (ex_move rfl) rfl rfl fun a hF=>q_x (v:=s1.v) hF hS (ex_move rfl) rfl rfl fun a hF=>q_x (v:=(iV t_3)) hF hS (ex_move rfl) rfl rfl fun a hF=>?_))))
   obtain ⟨e_6,he_6,hb1⟩:=bindS hb1
   obtain ⟨vs7,at7,d7⟩:=h1.at he_6 1 rfl
   obtain rfl:vs7=[(iV e_6)]:=d7
   refine q_x (v:=(elP s1 (t_3.toNat * 1))) hF hS (ex_indexAddr underlying23 sz3 rfl rfl (h1.idx he_6)) rfl rfl fun a hF=>q_x (v:=(iV e_6)) hF hS (ex_loadE1 0 underlying3 rfl rfl ((at7).at) rfl rfl) rfl rfl fun a hF=>q_x (v:=(.bool (e_4 == e_6))) hF hS (ex_ibin rfl rfl rfl) rfl rfl fun a hF=>q_end (n_sq ?_)
   rcases bcase (e_4 == e_6) with hc3 | hc3
   ·have hb1:=cond_f hc3 hb1
    refine q_cond_f hF rfl hc3 (q_skipc (n_ib (n_sq (q_region (q_x (v:=(iV (w64 (t_3 + 1)))) hF hS (ex_ibin rfl rfl rfl) rfl rfl fun a hF=>q_x (v:=(iV (w64 (t_3 + 1)))) hF hS (ex_move rfl) rfl rfl fun a hF=>q_end ?_)))))
    obtain rfl:=someI hb1
    exact ⟨rfl,hF.sub ⟨rfl,rfl,rfl,rfl,trivial⟩,hS⟩
   ·have hb1:=cond_t hc3 hb1
    refine q_cond_t hF rfl hc3 (q_seq (q_region (q_x (v:=(.bool false)) hF hS (ex_assign rfl) rfl rfl fun a hF=>q_end (n_sq (q_ret (r_ib (r_sq ?_)))))))
    obtain rfl:=someI hb1
    refine ⟨nofun,.inr fun ho=>?_⟩
    subst ho
    refine r_ib (r_sq ?_)
    obtain rfl:=someI hr
    exact ret_of hF hS rfl (.tmp rfl .nil) rfl
 ·rintro e a w ⟨rfl,rfl,hF,hS⟩
  refine x_ib (n_sq ?_)
  refine q_seq (q_region (q_x (v:=(.bool true)) hF hS (ex_assign rfl) rfl rfl fun a hF=>q_end (n_sq (q_ret ?_))))
  obtain rfl:=someI hr
  exact ret_of hF hS rfl (.tmp rfl .nil) rfl

end Go.Proofs.YtmlegfogjdhhkaaGreat
