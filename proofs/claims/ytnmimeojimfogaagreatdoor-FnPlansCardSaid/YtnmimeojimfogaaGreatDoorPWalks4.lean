/- The walks of the functions: each returns what its plain function says. -/
import Derived.Test.YtnmimeojimfogaaGreatDoorPWalks3
namespace Go.Proofs.YtnmimeojimfogaaGreatDoor
open Go.Gx Go.Gx.F Go.RowKit
set_option linter.all false
set_option maxRecDepth 10000


theorem c_spec_nGuess (p_s : List impl_Variable) (p_x : List UInt8) (r : impl_Table) (hr : spec_nGuess p_s p_x = some r) (w0 : World) (m : Mem) (hv : Vis m w0) (s1 : Sl) (h1 : Rd m s1 p_s) :
  Ret Tryz.prog 93 [s1.v,(strV p_x)] w0 (fun v w=>∃ (q0' : Piece) (q1' : Piece) (s0' : Sl) (s1' : Sl),v = (.agg #[(iV r.Level),s0'.v,s1'.v,(iV r.Sum)])∧St [] w0 w m [q0',q1']∧OwnL m 3 q0' s0' r.Vars∧OwnL m 3 q1' s1' r.Where):=by
 unfold spec_nGuess at hr
 refine ret_start Tryz.func93 rfl 112 rfl rfl m hv fun a hF hS=>q_sr (q_alloc (cs:=[(iV 0),nilS.v,nilS.v,(iV 0)]) hF hS rfl rfl rfl fun a w b2 hF hS=>q_end (n_sq (q_sr (q_m hF rfl fun a hF=>q_y (v:=(iV (goLen p_s))) hF hS (ex_len U27 rfl h1.len) fun a hF=>?_))))
 obtain ⟨l_3,hl_3,hr⟩:=bindS hr
 refine q_do rfl fun _ hK=>wp_make (z:=(0 : Int)) hF hS U24 inf3 rfl rfl rfl rfl rfl (by decide) hl_3 rfl fun a w q4 s4 hF hS h4 _=>hK _ _ (q_y (v:=(.agg #[(iV 0),nilS.v,s4.v,(iV (-1))])) hF hS (ex_build (cells:=[(iV 0),nilS.v,s4.v,(iV (-1))]) rfl (by kernel_rfl)) fun a hF=>q_alloc (cs:=[(iV 0),nilS.v,nilS.v,(iV 0)]) hF hS rfl rfl rfl fun a w b5 hF hS=>q_store (vs:=[(iV 0),nilS.v,s4.v,(iV (-1))]) (cs':=[(iV 0),nilS.v,s4.v,(iV (-1))]) 0 0 hF hS sz29 rfl rfl rfl rfl rfl rfl rfl rfl fun a w hF hS=>q_end (n_sq (q_sr (q_m hF rfl fun a hF=>?_))))
 obtain ⟨t_6,ht_6,hr⟩:=bindS hr
 refine q_call (vs:=[(strV p_x),(.int .u8 32)]) hF hS Tryz.func53 (by kernel_rfl) rfl rfl rfl (c_spec_l1Split p_x (⟨32⟩ : K .u8) t_6 ht_6 _ m hS.vis) ?_
 rintro a w _ ⟨q8,s8,rfl,hR7,h8⟩ hF hS2
 have hS : St _ _ _ _ [q8,[⟨b5,[(iV 0),nilS.v,s4.v,(iV (-1))],29⟩],q4,[⟨b2,[(iV 0),nilS.v,nilS.v,(iV 0)],29⟩]]:=hS.joinF hR7
 refine q_s hF rfl fun a hF=>q_end (n_sq (q_sr (q_s hF rfl fun a hF=>q_end (n_sq (q_seq (q_sr (q_s hF rfl fun a hF=>q_end (n_sq (q_block ?_)))))))))
 obtain ⟨t_77,hl1,hr⟩:=bindS hr
 refine q_loop (fun (s : Bool × Int × impl_Table) a w=>∃ (q12 : Piece),∃ (s12 : Sl),∃ (q13 : Piece),∃ (s13 : Sl),∃ conditions_9,∃ i_10,∃ t_11,s = (conditions_9,i_10,t_11)∧Fr a 112 [(0,s1.v),(4,(pP b2 0)),(5,(pP b5 0)),(6,s8.v),(7,(.bool conditions_9)),(8,(iV i_10))]∧St [] w0 w m [q12,q13,q8,[⟨b5,[(iV t_11.Level),s12.v,s13.v,(iV t_11.Sum)],29⟩],[⟨b2,[(iV 0),nilS.v,nilS.v,(iV 0)],29⟩]]∧OwnL m 3 q12 s12 t_11.Vars∧OwnL m 3 q13 s13 t_11.Where) (fun (t_77 : impl_Table) e a w=>∃ (q78 : Piece),∃ (s78 : Sl),∃ (q79 : Piece),∃ (s79 : Sl),e = .exit 0∧Fr a 112 [(4,(pP b2 0)),(5,(pP b5 0))]∧St [] w0 w m [q78,q79,[⟨b5,[(iV t_77.Level),s78.v,s79.v,(iV t_77.Sum)],29⟩],[⟨b2,[(iV 0),nilS.v,nilS.v,(iV 0)],29⟩]]∧OwnL m 3 q78 s78 t_77.Vars∧OwnL m 3 q79 s79 t_77.Where) hl1 ⟨[],nilS,q4,s4,_,_,_,rfl,hF.sub ⟨rfl,rfl,rfl,rfl,rfl,rfl,trivial⟩,hS.sel [4,2,0,1,3] (by decide),(OwnL.nil (α:=Int) m 3),h4⟩ ?_ ?_
 ·clear hF hS
  rintro s a w st ⟨q12,s12,q13,s13,conditions_9,i_10,t_11,rfl,hF,hS,h12,h13⟩ hb1
  unfold spec_nGuess_l1 at hb1
  refine q_seq (q_sr (q_m hF rfl fun a hF=>q_m hF rfl fun a hF=>q_y (v:=(iV (goLen t_6))) hF hS (ex_len U80 rfl h8.len) fun a hF=>q_y (v:=(.bool (decide (i_10 < (goLen t_6))))) hF hS (ex_ibin rfl rfl rfl) fun a hF=>q_end (n_sq ?_)))
  rcases bcase (decide (i_10 < (goLen t_6))) with hc2 | hc2
  ·have hb1:=cond_f hc2 hb1
   refine q_cond_f hF rfl hc2 (q_exit (x_sq ?_))
   obtain rfl:=someI hb1
   exact ⟨nofun,.inl ⟨q12,s12,q13,s13,rfl,hF.sub ⟨rfl,rfl,trivial⟩,hS.mask [true,true,false,true,true],h12,h13⟩⟩
  ·have hb1:=cond_t hc2 hb1
   refine q_cond_t hF rfl hc2 (q_skipc (n_sq (q_seq (q_block (q_sr (q_m hF rfl fun a hF=>q_m hF rfl fun a hF=>q_y (v:=(iV (goLen t_6))) hF hS (ex_len U80 rfl h8.len) fun a hF=>q_y (v:=(iV (w64 ((goLen t_6) - 1)))) hF hS (ex_ibin rfl rfl rfl) fun a hF=>q_y (v:=(.bool (i_10 == (w64 ((goLen t_6) - 1))))) hF hS (ex_ibin rfl rfl rfl) fun a hF=>q_s hF rfl fun a hF=>q_end (n_sq (q_block (q_sr (q_m hF rfl fun a hF=>q_s hF rfl fun a hF=>q_end (n_sq ?_)))))))))))
   obtain ⟨j3,hj3,hb1⟩:=bindS hb1
   refine q_join (fun a w=>∃ (q75 : Piece),∃ (s75 : Sl),∃ (q76 : Piece),∃ (s76 : Sl),∃ conditions_72,∃ i_73,∃ t_74,j3 = (conditions_72,i_73,t_74)∧Fr a 112 [(0,s1.v),(4,(pP b2 0)),(5,(pP b5 0)),(6,s8.v),(7,(.bool conditions_72)),(8,(iV i_73))]∧St [] w0 w m [q8,q75,q76,[⟨b5,[(iV t_74.Level),s75.v,s76.v,(iV t_74.Sum)],29⟩],[⟨b2,[(iV 0),nilS.v,nilS.v,(iV 0)],29⟩]]∧OwnL m 3 q75 s75 t_74.Vars∧OwnL m 3 q76 s76 t_74.Where) ?_ ?_
   ·rcases bcase (conditions_9) with hc4 | hc4
    ·have hj3:=cond_f hc4 hj3
     refine q_cond_f hF rfl hc4 (q_sr (q_m hF rfl fun a hF=>q_m hF rfl fun a hF=>?_))
     obtain ⟨e_14,he_14,hj3⟩:=bindS hj3
     obtain ⟨vs15,at15,d15⟩:=h8.at he_14 1 rfl
     obtain rfl : vs15 = [(strV e_14)]:=d15
     refine q_y (v:=(elP s8 (i_10.toNat * 1))) hF hS (ex_indexAddr U80 sz9 rfl rfl (h8.idx he_14)) fun a hF=>q_y (v:=(strV e_14)) hF hS (ex_loadE1 0 U9 rfl rfl (at15.at 2 rfl) rfl rfl) fun a hF=>q_y (v:=(.bool (e_14 == ([119,104,101,114,101] : List UInt8)))) hF hS (ex_strEq rfl rfl) fun a hF=>q_s hF rfl fun a hF=>q_end (n_sq ?_)
     obtain ⟨j5,hj5,hj3⟩:=bindS hj3
     refine q_join (fun a w=>∃ (q64 : Piece),∃ (s64 : Sl),∃ conditions_61,∃ i_62,∃ t_63,j5 = (conditions_61,i_62,t_63)∧Fr a 112 [(0,s1.v),(4,(pP b2 0)),(5,(pP b5 0)),(6,s8.v),(7,(.bool conditions_61)),(8,(iV i_62))]∧St [] w0 w m [q8,q64,q13,[⟨b5,[(iV t_63.Level),s64.v,s13.v,(iV t_63.Sum)],29⟩],[⟨b2,[(iV 0),nilS.v,nilS.v,(iV 0)],29⟩]]∧OwnL m 3 q64 s64 t_63.Vars∧OwnL m 3 q13 s13 t_63.Where∧t_63.Where = t_11.Where) ?_ ?_
     ·rcases bcase (e_14 == ([119,104,101,114,101] : List UInt8)) with hc6 | hc6
      ·have hj5:=cond_f hc6 hj5
       refine q_cond_f hF rfl hc6 (q_seq ?_)
       obtain ⟨t_18,hj7,hj5⟩:=bindS hj5
       refine q_join (fun a w=>Fr a 112 [(0,s1.v),(4,(pP b2 0)),(5,(pP b5 0)),(6,s8.v),(7,(.bool conditions_9)),(8,(iV i_10)),(9,(.bool (i_10 == (w64 ((goLen t_6) - 1))))),(43,(.bool t_18))]∧St [] w0 w m [q8,q12,q13,[⟨b5,[(iV t_11.Level),s12.v,s13.v,(iV t_11.Sum)],29⟩],[⟨b2,[(iV 0),nilS.v,nilS.v,(iV 0)],29⟩]]) ?_ ?_
       ·refine q_region (q_m hF rfl fun a hF=>q_m hF rfl fun a hF=>?_)
        obtain ⟨e_16,he_16,hj7⟩:=bindS hj7
        obtain ⟨vs17,at17,d17⟩:=h8.at he_16 1 rfl
        obtain rfl : vs17 = [(strV e_16)]:=d17
        refine q_y (v:=(elP s8 (i_10.toNat * 1))) hF hS (ex_indexAddr U80 sz9 rfl rfl (h8.idx he_16)) fun a hF=>q_y (v:=(strV e_16)) hF hS (ex_loadE1 0 U9 rfl rfl (at17.at 2 rfl) rfl rfl) fun a hF=>q_y (v:=(.bool (e_16 == ([115,117,109] : List UInt8)))) hF hS (ex_strEq rfl rfl) fun a hF=>q_m hF rfl fun a hF=>?_
        rcases bcase (e_16 == ([115,117,109] : List UInt8)) with hc8 | hc8
        ·have hj7:=cond_f hc8 hj7
         refine q_k hF hc8 fun a hF=>q_k hF hc8 fun a hF=>q_y (v:=(.bool false)) hF hS (ex_pick_f rfl rfl hc8) fun a hF=>q_s hF rfl fun a hF=>q_end (n_jn ?_)
         obtain rfl:=someI hj7
         exact ⟨hF.sub ⟨rfl,rfl,rfl,rfl,rfl,rfl,rfl,rfl,trivial⟩,hS.sel [2,0,1,3,4] (by decide)⟩
        ·have hj7:=cond_t hc8 hj7
         refine q_g (v:=(.bool (i_10 == (w64 ((goLen t_6) - 1))))) hF hS (ex_move rfl) hc8 fun a hF=>q_g (v:=(.bool (!(i_10 == (w64 ((goLen t_6) - 1)))))) hF hS (ex_not rfl) hc8 fun a hF=>q_y (v:=(.bool (!(i_10 == (w64 ((goLen t_6) - 1)))))) hF hS (ex_pick_t rfl rfl hc8) fun a hF=>q_s hF rfl fun a hF=>q_end (n_jn ?_)
         obtain rfl:=someI hj7
         exact ⟨hF.sub ⟨rfl,rfl,rfl,rfl,rfl,rfl,rfl,rfl,trivial⟩,hS.sel [2,0,1,3,4] (by decide)⟩
       ·rintro a w ⟨hF,hS⟩
        refine n_sq ?_
        obtain ⟨j9,hj9,hj5⟩:=bindS hj5
        refine q_join (fun a w=>∃ (q59 : Piece),∃ (s59 : Sl),∃ i_57,∃ t_58,j9 = (i_57,t_58)∧Fr a 112 [(0,s1.v),(4,(pP b2 0)),(5,(pP b5 0)),(6,s8.v),(7,(.bool conditions_9)),(8,(iV i_57))]∧St [] w0 w m [q8,q59,q13,[⟨b5,[(iV t_58.Level),s59.v,s13.v,(iV t_58.Sum)],29⟩],[⟨b2,[(iV 0),nilS.v,nilS.v,(iV 0)],29⟩]]∧OwnL m 3 q59 s59 t_58.Vars∧OwnL m 3 q13 s13 t_58.Where∧t_58.Where = t_11.Where) ?_ ?_
        ·rcases bcase (t_18) with hc10 | hc10
         ·have hj9:=cond_f hc10 hj9
          refine q_cond_f hF rfl hc10 (q_seq ?_)
          obtain ⟨t_21,hj11,hj9⟩:=bindS hj9
          refine q_join (fun a w=>Fr a 112 [(0,s1.v),(4,(pP b2 0)),(5,(pP b5 0)),(6,s8.v),(7,(.bool conditions_9)),(8,(iV i_10)),(9,(.bool (i_10 == (w64 ((goLen t_6) - 1))))),(62,(.bool t_21))]∧St [] w0 w m [q8,q12,q13,[⟨b5,[(iV t_11.Level),s12.v,s13.v,(iV t_11.Sum)],29⟩],[⟨b2,[(iV 0),nilS.v,nilS.v,(iV 0)],29⟩]]) ?_ ?_
          ·refine q_region (q_m hF rfl fun a hF=>q_m hF rfl fun a hF=>?_)
           obtain ⟨e_19,he_19,hj11⟩:=bindS hj11
           obtain ⟨vs20,at20,d20⟩:=h8.at he_19 1 rfl
           obtain rfl : vs20 = [(strV e_19)]:=d20
           refine q_y (v:=(elP s8 (i_10.toNat * 1))) hF hS (ex_indexAddr U80 sz9 rfl rfl (h8.idx he_19)) fun a hF=>q_y (v:=(strV e_19)) hF hS (ex_loadE1 0 U9 rfl rfl (at20.at 0 rfl) rfl rfl) fun a hF=>q_y (v:=(.bool (e_19 == ([108,101,118,101,108] : List UInt8)))) hF hS (ex_strEq rfl rfl) fun a hF=>q_m hF rfl fun a hF=>?_
           rcases bcase (e_19 == ([108,101,118,101,108] : List UInt8)) with hc12 | hc12
           ·have hj11:=cond_f hc12 hj11
            refine q_k hF hc12 fun a hF=>q_k hF hc12 fun a hF=>q_y (v:=(.bool false)) hF hS (ex_pick_f rfl rfl hc12) fun a hF=>q_s hF rfl fun a hF=>q_end (n_jn ?_)
            obtain rfl:=someI hj11
            exact ⟨hF.sub ⟨rfl,rfl,rfl,rfl,rfl,rfl,rfl,rfl,trivial⟩,hS⟩
           ·have hj11:=cond_t hc12 hj11
            refine q_g (v:=(.bool (i_10 == (w64 ((goLen t_6) - 1))))) hF hS (ex_move rfl) hc12 fun a hF=>q_g (v:=(.bool (!(i_10 == (w64 ((goLen t_6) - 1)))))) hF hS (ex_not rfl) hc12 fun a hF=>q_y (v:=(.bool (!(i_10 == (w64 ((goLen t_6) - 1)))))) hF hS (ex_pick_t rfl rfl hc12) fun a hF=>q_s hF rfl fun a hF=>q_end (n_jn ?_)
            obtain rfl:=someI hj11
            exact ⟨hF.sub ⟨rfl,rfl,rfl,rfl,rfl,rfl,rfl,rfl,trivial⟩,hS⟩
          ·rintro a w ⟨hF,hS⟩
           refine n_sq ?_
           obtain ⟨j13,hj13,hj9⟩:=bindS hj9
           refine q_join (fun a w=>∃ (q52 : Piece),∃ (s52 : Sl),∃ i_50,∃ t_51,j13 = (i_50,t_51)∧Fr a 112 [(0,s1.v),(4,(pP b2 0)),(5,(pP b5 0)),(6,s8.v),(7,(.bool conditions_9)),(8,(iV i_50))]∧St [] w0 w m [q8,q52,q13,[⟨b5,[(iV t_51.Level),s52.v,s13.v,(iV t_51.Sum)],29⟩],[⟨b2,[(iV 0),nilS.v,nilS.v,(iV 0)],29⟩]]∧OwnL m 3 q52 s52 t_51.Vars∧OwnL m 3 q13 s13 t_51.Where∧t_51.Where = t_11.Where) ?_ ?_
           ·rcases bcase (t_21) with hc14 | hc14
            ·have hj13:=cond_f hc14 hj13
             refine q_cond_f hF rfl hc14 (q_seq ?_)
             obtain ⟨t_24,hj15,hj13⟩:=bindS hj13
             refine q_join (fun a w=>Fr a 112 [(0,s1.v),(4,(pP b2 0)),(5,(pP b5 0)),(6,s8.v),(7,(.bool conditions_9)),(8,(iV i_10)),(80,(.bool t_24))]∧St [] w0 w m [q8,q12,q13,[⟨b5,[(iV t_11.Level),s12.v,s13.v,(iV t_11.Sum)],29⟩],[⟨b2,[(iV 0),nilS.v,nilS.v,(iV 0)],29⟩]]) ?_ ?_
             ·refine q_region (q_m hF rfl fun a hF=>q_m hF rfl fun a hF=>?_)
              obtain ⟨e_22,he_22,hj15⟩:=bindS hj15
              obtain ⟨vs23,at23,d23⟩:=h8.at he_22 1 rfl
              obtain rfl : vs23 = [(strV e_22)]:=d23
              refine q_y (v:=(elP s8 (i_10.toNat * 1))) hF hS (ex_indexAddr U80 sz9 rfl rfl (h8.idx he_22)) fun a hF=>q_y (v:=(strV e_22)) hF hS (ex_loadE1 0 U9 rfl rfl (at23.at 0 rfl) rfl rfl) fun a hF=>q_y (v:=(.bool (e_22 == ([98,121] : List UInt8)))) hF hS (ex_strEq rfl rfl) fun a hF=>q_m hF rfl fun a hF=>?_
              rcases bcase (e_22 == ([98,121] : List UInt8)) with hc16 | hc16
              ·have hj15:=cond_f hc16 hj15
               refine q_k hF hc16 fun a hF=>q_k hF hc16 fun a hF=>q_y (v:=(.bool false)) hF hS (ex_pick_f rfl rfl hc16) fun a hF=>q_s hF rfl fun a hF=>q_end (n_jn ?_)
               obtain rfl:=someI hj15
               exact ⟨hF.sub ⟨rfl,rfl,rfl,rfl,rfl,rfl,rfl,trivial⟩,hS⟩
              ·have hj15:=cond_t hc16 hj15
               refine q_g (v:=(.bool (i_10 == (w64 ((goLen t_6) - 1))))) hF hS (ex_move rfl) hc16 fun a hF=>q_g (v:=(.bool (!(i_10 == (w64 ((goLen t_6) - 1)))))) hF hS (ex_not rfl) hc16 fun a hF=>q_y (v:=(.bool (!(i_10 == (w64 ((goLen t_6) - 1)))))) hF hS (ex_pick_t rfl rfl hc16) fun a hF=>q_s hF rfl fun a hF=>q_end (n_jn ?_)
               obtain rfl:=someI hj15
               exact ⟨hF.sub ⟨rfl,rfl,rfl,rfl,rfl,rfl,rfl,trivial⟩,hS⟩
             ·rintro a w ⟨hF,hS⟩
              refine n_sq ?_
              obtain ⟨j17,hj17,hj13⟩:=bindS hj13
              refine q_join (fun a w=>∃ (q45 : Piece),∃ (s45 : Sl),∃ i_43,∃ t_44,j17 = (i_43,t_44)∧Fr a 112 [(0,s1.v),(4,(pP b2 0)),(5,(pP b5 0)),(6,s8.v),(7,(.bool conditions_9)),(8,(iV i_43))]∧St [] w0 w m [q8,q45,q13,[⟨b5,[(iV t_44.Level),s45.v,s13.v,(iV t_44.Sum)],29⟩],[⟨b2,[(iV 0),nilS.v,nilS.v,(iV 0)],29⟩]]∧OwnL m 3 q45 s45 t_44.Vars∧OwnL m 3 q13 s13 t_44.Where∧t_44.Where = t_11.Where) ?_ ?_
              ·rcases bcase (t_24) with hc18 | hc18
               ·have hj17:=cond_f hc18 hj17
                refine q_cond_f hF rfl hc18 (q_skipc (n_jn ?_))
                obtain rfl:=someI hj17
                exact ⟨q12,s12,_,_,rfl,hF.sub ⟨rfl,rfl,rfl,rfl,rfl,rfl,trivial⟩,hS,h12,h13,rfl⟩
               ·have hj17:=cond_t hc18 hj17
                refine q_cond_t hF rfl hc18 (q_sr (q_m hF rfl fun a hF=>q_y (v:=(iV (w64 (i_10 + 1)))) hF hS (ex_ibin rfl rfl rfl) fun a hF=>q_s hF rfl fun a hF=>q_end (n_sq (q_sr (q_m hF rfl fun a hF=>q_m hF rfl fun a hF=>?_)))))
                obtain ⟨e_25,he_25,hj17⟩:=bindS hj17
                obtain ⟨vs26,at26,d26⟩:=h8.at he_25 1 rfl
                obtain rfl : vs26 = [(strV e_25)]:=d26
                refine q_y (v:=(elP s8 ((w64 (i_10 + 1)).toNat * 1))) hF hS (ex_indexAddr U80 sz9 rfl rfl (h8.idx he_25)) fun a hF=>q_y (v:=(strV e_25)) hF hS (ex_loadE1 0 U9 rfl rfl (at26.at 0 rfl) rfl rfl) fun a hF=>?_
                obtain ⟨t_27,ht_27,hj17⟩:=bindS hj17
                refine q_call (vs:=[(strV e_25),(.int .u8 44)]) hF hS Tryz.func53 (by kernel_rfl) rfl rfl rfl (c_spec_l1Split e_25 (⟨44⟩ : K .u8) t_27 ht_27 _ m hS.vis) ?_
                rintro a w _ ⟨q29,s29,rfl,hR28,h29⟩ hF hS2
                have hS : St _ _ _ _ [q29,q8,q12,q13,[⟨b5,[(iV t_11.Level),s12.v,s13.v,(iV t_11.Sum)],29⟩],[⟨b2,[(iV 0),nilS.v,nilS.v,(iV 0)],29⟩]]:=hS.joinF hR28
                refine q_y (v:=(iV (goLen t_27))) hF hS (ex_len U80 rfl h29.len) fun a hF=>q_m hF rfl fun a hF=>q_end (n_sq (q_block ?_))
                obtain ⟨t_40,hl19,hj17⟩:=bindS hj17
                refine q_loop (fun (s : Int × impl_Table) a w=>∃ (q32 : Piece),∃ (s32 : Sl),∃ t_30,∃ t_31,s = (t_30,t_31)∧Fr a 112 [(0,s1.v),(4,(pP b2 0)),(5,(pP b5 0)),(6,s8.v),(7,(.bool conditions_9)),(8,(iV (w64 (i_10 + 1)))),(96,s29.v),(97,(iV (goLen t_27))),(98,(iV t_30))]∧St [] w0 w m [q32,q29,q8,q13,[⟨b5,[(iV t_31.Level),s32.v,s13.v,(iV t_31.Sum)],29⟩],[⟨b2,[(iV 0),nilS.v,nilS.v,(iV 0)],29⟩]]∧OwnL m 3 q32 s32 t_31.Vars∧OwnL m 3 q13 s13 t_31.Where∧t_31.Where = t_11.Where) (fun (t_40 : impl_Table) e a w=>∃ (q41 : Piece),∃ (s41 : Sl),e = .exit 3∧Fr a 112 [(0,s1.v),(4,(pP b2 0)),(5,(pP b5 0)),(6,s8.v),(7,(.bool conditions_9)),(8,(iV (w64 (i_10 + 1))))]∧St [] w0 w m [q8,q41,q13,[⟨b5,[(iV t_40.Level),s41.v,s13.v,(iV t_40.Sum)],29⟩],[⟨b2,[(iV 0),nilS.v,nilS.v,(iV 0)],29⟩]]∧OwnL m 3 q41 s41 t_40.Vars∧OwnL m 3 q13 s13 t_40.Where∧t_40.Where = t_11.Where) hl19 ⟨q12,s12,_,_,rfl,hF.sub ⟨rfl,rfl,rfl,rfl,rfl,rfl,rfl,rfl,rfl,trivial⟩,hS.sel [2,0,1,3,4,5] (by decide),h12,h13,rfl⟩ ?_ ?_
                ·clear hF hS
                 rintro s a w st ⟨q32,s32,t_30,t_31,rfl,hF,hS,h32,h33,h33k⟩ hb19
                 unfold spec_nGuess_l2 at hb19
                 refine q_sr (q_y (v:=(.bool (decide (t_30 < (goLen t_27))))) hF hS (ex_ibin rfl rfl rfl) fun a hF=>q_end (n_sq (q_seq ?_)))
                 rcases bcase (decide (t_30 < (goLen t_27))) with hc20 | hc20
                 ·have hb19:=cond_f hc20 hb19
                  refine q_cond_f hF rfl hc20 (q_exit (x_sq ?_))
                  obtain rfl:=someI hb19
                  exact ⟨nofun,.inl ⟨q32,s32,rfl,hF.sub ⟨rfl,rfl,rfl,rfl,rfl,rfl,trivial⟩,hS.sel [2,0,3,4,5] (by decide),h32,h33,h33k⟩⟩
                 ·have hb19:=cond_t hc20 hb19
                  refine q_cond_t hF rfl hc20 (q_skipc (n_sq (q_seq (q_block (q_seq (q_region ?_))))))
                  obtain ⟨e_34,he_34,hb19⟩:=bindS hb19
                  obtain ⟨vs35,at35,d35⟩:=h29.at he_34 1 rfl
                  obtain rfl : vs35 = [(strV e_34)]:=d35
                  refine q_y (v:=(elP s29 (t_30.toNat * 1))) hF hS (ex_indexAddr U80 sz9 rfl rfl (h29.idx he_34)) fun a hF=>q_y (v:=(strV e_34)) hF hS (ex_loadE1 0 U9 rfl rfl (at35.at 1 rfl) rfl rfl) fun a hF=>q_s hF rfl fun a hF=>q_end (n_sq (e_region ⟨[6,8],[]⟩ mixed fun w' hw'=>?_))
                  have hS:=hS.below hw'
                  refine e_P (v:=(pP b5 1)) 0 hF rfl (ex_fieldAddr U29 rfl sz24 rfl rfl) fun a hF=>e_X (v:=s32.v) 1 hF hS rfl (ex_load1 4 0 U24 rfl rfl rfl rfl) fun a hF=>e_P (v:=s1.v) 2 hF rfl (ex_move rfl) fun a hF=>e_P (v:=(strV e_34)) 3 hF rfl (ex_move rfl) fun a hF=>e_one 4 (by kernel_rfl) ?_
                  obtain ⟨t_36,ht_36,hb19⟩:=bindS hb19
                  refine e_call (vs:=[s1.v,(strV e_34)]) hF hS rfl Tryz.func116 (by kernel_rfl) rfl rfl rfl (c_spec_sFind p_s e_34 t_36 ht_36 _ m hS.vis s1 h1) ?_
                  rintro a w _ rfl hF hS
                  refine e_one 5 (by kernel_rfl) (e_op rfl rfl fun _ hK=>wp_buildSlice' (l:=([t_36] : List Int)) (cells:=[(iV t_36)]) hF hS U24 inf3 rfl rfl (by kernel_rfl) rfl rfl rfl ⟨rfl,rfl⟩ rfl rfl fun a w q37 s37 hF hS h37 hb=>hK _ _ hb (e_one 6 (by kernel_rfl) ?_))
                  have hS : St _ _ _ _ [q32,q37,q29,q8,q13,[⟨b5,[(iV t_31.Level),s32.v,s13.v,(iV t_31.Sum)],29⟩],[⟨b2,[(iV 0),nilS.v,nilS.v,(iV 0)],29⟩]]:=hS.sel [1,0,2,3,4,5,6] (by decide)
                  obtain ⟨l_38,hl_38,hb19⟩:=bindS hb19
                  refine e_opl rfl rfl rfl fun _ hK=>wp_append hF hS h32 U24 inf3 rfl rfl rfl rfl (h37.vw hS (j:=1) rfl) rfl (by decide) hl_38 rfl fun a w q39 s39 hF hS h39=>hK _ _ (⟨kpN,?_⟩)
                  refine e_P (v:=(pP b5 1)) 7 hF rfl (ex_fieldAddr U29 rfl sz24 rfl rfl) fun a hF=>e_one 8 (by kernel_rfl) (e_store (vs:=[s39.v]) (cs':=[(iV t_31.Level),s39.v,s13.v,(iV t_31.Sum)]) 5 0 hF hS rfl rfl sz24 rfl rfl rfl rfl rfl rfl rfl rfl fun a w hF hS=>⟨kpN,?_⟩)
                  refine e_end (by kernel_rfl) (n_ib (n_sq ?_)) _
                  refine q_region (q_y (v:=(iV (w64 (t_30 + 1)))) hF hS (ex_ibin rfl rfl rfl) fun a hF=>q_m hF rfl fun a hF=>q_end ?_)
                  obtain rfl:=someI hb19
                  exact ⟨rfl,q39,s39,_,_,rfl,hF.sub ⟨rfl,rfl,rfl,rfl,rfl,rfl,rfl,rfl,rfl,trivial⟩,hS.mask [true,false,true,true,true,true,true],h39,h33,h33k⟩
                ·rintro e a w ⟨q41,s41,rfl,hF,hS,h41,h42,h42k⟩
                 refine x_ib (n_jn ?_)
                 obtain rfl:=someI hj17
                 exact ⟨q41,s41,_,_,rfl,hF.sub ⟨rfl,rfl,rfl,rfl,rfl,rfl,trivial⟩,hS,h41,h42,h42k⟩
              ·rintro a w ⟨q45,s45,i_43,t_44,rfl,hF,hS,h45,h46,h46k⟩
               refine n_jn ?_
               obtain rfl:=someI hj13
               exact ⟨q45,s45,_,_,rfl,hF.sub ⟨rfl,rfl,rfl,rfl,rfl,rfl,trivial⟩,hS,h45,h46,h46k⟩
            ·have hj13:=cond_t hc14 hj13
             refine q_cond_t hF rfl hc14 (q_sr (q_m hF rfl fun a hF=>q_y (v:=(iV (w64 (i_10 + 1)))) hF hS (ex_ibin rfl rfl rfl) fun a hF=>q_s hF rfl fun a hF=>q_end (n_sq (q_region (q_m hF rfl fun a hF=>q_m hF rfl fun a hF=>?_)))))
             obtain ⟨e_47,he_47,hj13⟩:=bindS hj13
             obtain ⟨vs48,at48,d48⟩:=h8.at he_47 1 rfl
             obtain rfl : vs48 = [(strV e_47)]:=d48
             refine q_y (v:=(elP s8 ((w64 (i_10 + 1)).toNat * 1))) hF hS (ex_indexAddr U80 sz9 rfl rfl (h8.idx he_47)) fun a hF=>q_y (v:=(strV e_47)) hF hS (ex_loadE1 0 U9 rfl rfl (at48.at 0 rfl) rfl rfl) fun a hF=>?_
             obtain ⟨t_49,ht_49,hj13⟩:=bindS hj13
             refine q_call (vs:=[(strV e_47)]) hF hS Tryz.func129 (by kernel_rfl) rfl rfl rfl (c_spec_l1Read e_47 t_49 ht_49 _ m hS.vis) ?_
             rintro a w _ rfl hF hS
             refine q_y (v:=(pP b5 0)) hF hS (ex_fieldAddr U29 rfl sz3 rfl rfl) fun a hF=>q_store (vs:=[(iV t_49)]) (cs':=[(iV t_49),s12.v,s13.v,(iV t_11.Sum)]) 3 0 hF hS sz3 rfl rfl rfl rfl rfl rfl rfl rfl fun a w hF hS=>q_end (n_jn ?_)
             obtain rfl:=someI hj13
             exact ⟨q12,s12,_,_,rfl,hF.sub ⟨rfl,rfl,rfl,rfl,rfl,rfl,trivial⟩,hS,h12,h13,rfl⟩
           ·rintro a w ⟨q52,s52,i_50,t_51,rfl,hF,hS,h52,h53,h53k⟩
            refine n_jn ?_
            obtain rfl:=someI hj9
            exact ⟨q52,s52,_,_,rfl,hF.sub ⟨rfl,rfl,rfl,rfl,rfl,rfl,trivial⟩,hS,h52,h53,h53k⟩
         ·have hj9:=cond_t hc10 hj9
          refine q_cond_t hF rfl hc10 (q_sr (q_m hF rfl fun a hF=>q_y (v:=(iV (w64 (i_10 + 1)))) hF hS (ex_ibin rfl rfl rfl) fun a hF=>q_s hF rfl fun a hF=>q_end (n_sq (q_region (q_m hF rfl fun a hF=>q_m hF rfl fun a hF=>q_m hF rfl fun a hF=>?_)))))
          obtain ⟨e_54,he_54,hj9⟩:=bindS hj9
          obtain ⟨vs55,at55,d55⟩:=h8.at he_54 1 rfl
          obtain rfl : vs55 = [(strV e_54)]:=d55
          refine q_y (v:=(elP s8 ((w64 (i_10 + 1)).toNat * 1))) hF hS (ex_indexAddr U80 sz9 rfl rfl (h8.idx he_54)) fun a hF=>q_y (v:=(strV e_54)) hF hS (ex_loadE1 0 U9 rfl rfl (at55.at 0 rfl) rfl rfl) fun a hF=>?_
          obtain ⟨t_56,ht_56,hj9⟩:=bindS hj9
          refine q_call (vs:=[s1.v,(strV e_54)]) hF hS Tryz.func116 (by kernel_rfl) rfl rfl rfl (c_spec_sFind p_s e_54 t_56 ht_56 _ m hS.vis s1 h1) ?_
          rintro a w _ rfl hF hS
          refine q_y (v:=(pP b5 3)) hF hS (ex_fieldAddr U29 rfl sz3 rfl rfl) fun a hF=>q_store (vs:=[(iV t_56)]) (cs':=[(iV t_11.Level),s12.v,s13.v,(iV t_56)]) 3 0 hF hS sz3 rfl rfl rfl rfl rfl rfl rfl rfl fun a w hF hS=>q_end (n_jn ?_)
          obtain rfl:=someI hj9
          exact ⟨q12,s12,_,_,rfl,hF.sub ⟨rfl,rfl,rfl,rfl,rfl,rfl,trivial⟩,hS,h12,h13,rfl⟩
        ·rintro a w ⟨q59,s59,i_57,t_58,rfl,hF,hS,h59,h60,h60k⟩
         refine n_jn ?_
         obtain rfl:=someI hj5
         exact ⟨q59,s59,_,_,_,rfl,hF.sub ⟨rfl,rfl,rfl,rfl,rfl,rfl,trivial⟩,hS,h59,h60,h60k⟩
      ·have hj5:=cond_t hc6 hj5
       refine q_cond_t hF rfl hc6 (q_region (q_s hF rfl fun a hF=>q_end (n_jn ?_)))
       obtain rfl:=someI hj5
       exact ⟨q12,s12,_,_,_,rfl,hF.sub ⟨rfl,rfl,rfl,rfl,rfl,rfl,trivial⟩,hS.sel [2,0,1,3,4] (by decide),h12,h13,rfl⟩
     ·rintro a w ⟨q64,s64,conditions_61,i_62,t_63,rfl,hF,hS,h64,h65,h65k⟩
      refine n_jn ?_
      obtain rfl:=someI hj3
      exact ⟨q64,s64,q13,s13,_,_,_,rfl,hF.sub ⟨rfl,rfl,rfl,rfl,rfl,rfl,trivial⟩,hS,h64,h65⟩
    ·have hj3:=cond_t hc4 hj3
     refine q_cond_t hF rfl hc4 (q_region (q_m hF rfl fun a hF=>q_m hF rfl fun a hF=>q_m hF rfl fun a hF=>?_))
     obtain ⟨e_66,he_66,hj3⟩:=bindS hj3
     obtain ⟨vs67,at67,d67⟩:=h8.at he_66 1 rfl
     obtain rfl : vs67 = [(strV e_66)]:=d67
     refine q_y (v:=(elP s8 (i_10.toNat * 1))) hF hS (ex_indexAddr U80 sz9 rfl rfl (h8.idx he_66)) fun a hF=>q_y (v:=(strV e_66)) hF hS (ex_loadE1 0 U9 rfl rfl (at67.at 2 rfl) rfl rfl) fun a hF=>?_
     have hS : St _ _ _ _ [[⟨b5,[(iV t_11.Level),s12.v,s13.v,(iV t_11.Sum)],29⟩],q13,q12,q8,[⟨b2,[(iV 0),nilS.v,nilS.v,(iV 0)],29⟩]]:=hS.sel [3,1,0,2,4] (by decide)
     have hS68 : St _ _ _ _ ([[⟨b5,[(iV t_11.Level),s12.v,s13.v,(iV t_11.Sum)],29⟩],q13]++[q12,q8,[⟨b2,[(iV 0),nilS.v,nilS.v,(iV 0)],29⟩]]):=hS
     obtain ⟨m68,hl68,hE68,hz68⟩:=hS68.lendX
     obtain ⟨t_69,ht_69,hj3⟩:=bindS hj3
     refine q_do rfl fun _ hK=>wp_callX (vs:=[s1.v,(pP b5 0),(strV e_66)]) hF Tryz.func128 (by kernel_rfl) rfl rfl rfl (c_spec_nSet p_s t_11 e_66 t_69 ht_69 _ m68 b5 s1 (h1.mono hl68) s12 (h12.froz hl68 (hz68 0 _ rfl)) s13 q13 (h13.mono hl68) _ hE68) fun a w _ hR hF=>hK _ _ ?_
     obtain ⟨q71,s71,rfl,hR68,hk70,h71⟩:=hR
     have hS : St _ _ _ _ [[⟨b5,[(iV t_69.Level),s12.v,s71.v,(iV t_69.Sum)],29⟩],q71,q12,q8,[⟨b2,[(iV 0),nilS.v,nilS.v,(iV 0)],29⟩]]:=hS68.leaveF hR68
     have h71:=h71.any m
     have h70 : OwnL m 3 q12 s12 t_69.Vars:=by rw [hk70]; exact h12
     refine q_end (n_jn ?_)
     obtain rfl:=someI hj3
     exact ⟨q12,s12,q71,s71,_,_,_,rfl,hF.sub ⟨rfl,rfl,rfl,rfl,rfl,rfl,trivial⟩,hS.sel [3,2,1,0,4] (by decide),h70,h71⟩
   ·rintro a w ⟨q75,s75,q76,s76,conditions_72,i_73,t_74,rfl,hF,hS,h75,h76⟩
    refine n_ib (n_ib (n_sq ?_))
    refine q_region (q_m hF rfl fun a hF=>q_y (v:=(iV (w64 (i_73 + 1)))) hF hS (ex_ibin rfl rfl rfl) fun a hF=>q_s hF rfl fun a hF=>q_end ?_)
    obtain rfl:=someI hb1
    exact ⟨rfl,q75,s75,q76,s76,_,_,_,rfl,hF.sub ⟨rfl,rfl,rfl,rfl,rfl,rfl,trivial⟩,hS.sel [1,2,0,3,4] (by decide),h75,h76⟩
 ·rintro e a w ⟨q78,s78,q79,s79,rfl,hF,hS,h78,h79⟩
  refine x_ib (n_sq ?_)
  refine q_sr (q_y (v:=(.agg #[(iV t_77.Level),s78.v,s79.v,(iV t_77.Sum)])) hF hS (ex_loadA (vs:=[(iV t_77.Level),s78.v,s79.v,(iV t_77.Sum)]) 2 0 U29 rfl sz29 rfl rfl rfl rfl) fun a hF=>q_store (vs:=[(iV t_77.Level),s78.v,s79.v,(iV t_77.Sum)]) (cs':=[(iV t_77.Level),s78.v,s79.v,(iV t_77.Sum)]) 3 0 hF hS sz29 rfl rfl rfl rfl rfl rfl rfl rfl fun a w hF hS=>q_end (n_sq (q_ret ?_)))
  obtain rfl:=someI hr
  exact ret_of hF hS rfl (.cellA (us:=[(iV t_77.Level),s78.v,s79.v,(iV t_77.Sum)]) 3 0 U29 rfl sz29 rfl rfl rfl rfl .nil) ⟨q78,q79,s78,s79,rfl,hS.sel [0,1] (by decide),h78,h79⟩

theorem c_spec_nParse (p_g : impl_Geo) (p_s : List impl_Variable) (p_x : List UInt8) (r : impl_Table × Bool) (hr : spec_nParse p_g p_s p_x = some r) (w0 : World) (m : Mem) (hv : Vis m w0) (s1 : Sl) (h1 : Rd m s1 p_g.Parents) (s2 : Sl) (h2 : Rd m s2 p_s) :
  Ret Tryz.prog 45 [(.agg #[s1.v]),s2.v,(strV p_x)] w0 (fun v w=>∃ (q0' : Piece) (q1' : Piece) (s0' : Sl) (s1' : Sl),v = (.tuple #[(.agg #[(iV r.1.Level),s0'.v,s1'.v,(iV r.1.Sum)]),(.bool r.2)])∧St [] w0 w m [q0',q1']∧OwnL m 3 q0' s0' r.1.Vars∧OwnL m 3 q1' s1' r.1.Where):=by
 unfold spec_nParse at hr
 refine ret_start Tryz.func45 rfl 26 rfl rfl m hv fun a hF hS=>q_sr (q_box (cs:=[s1.v]) hF hS rfl rfl rfl fun a w b3 hF hS=>q_alloc (cs:=[(iV 0),nilS.v,nilS.v,(iV 0)]) hF hS rfl rfl rfl fun a w b4 hF hS=>q_s hF rfl fun a hF=>q_end (n_sq (q_sr (q_m hF rfl fun a hF=>q_m hF rfl fun a hF=>?_))))
 obtain ⟨t_5,ht_5,hr⟩:=bindS hr
 refine q_call (vs:=[s2.v,(strV p_x)]) hF hS Tryz.func93 (by kernel_rfl) rfl rfl rfl (c_spec_nGuess p_s p_x t_5 ht_5 _ m hS.vis s2 h2) ?_
 rintro a w _ ⟨q7,q8,s7,s8,rfl,hR6,h7,h8⟩ hF hS2
 have hS : St _ _ _ _ [q7,q8,[⟨b4,[(iV 0),nilS.v,nilS.v,(iV 0)],29⟩],[⟨b3,[s1.v],26⟩]]:=hS.joinF hR6
 refine q_alloc (cs:=[(iV 0),nilS.v,nilS.v,(iV 0)]) hF hS rfl rfl rfl fun a w b9 hF hS=>q_store (vs:=[(iV t_5.Level),s7.v,s8.v,(iV t_5.Sum)]) (cs':=[(iV t_5.Level),s7.v,s8.v,(iV t_5.Sum)]) 0 0 hF hS sz29 rfl rfl rfl rfl rfl rfl rfl rfl fun a w hF hS=>q_end (n_sq (q_seq (q_seq ?_)))
 obtain ⟨t_14,hj1,hr⟩:=bindS hr
 refine q_join (fun a w=>Fr a 26 [(6,(pP b4 0)),(8,(pP b9 0)),(23,(.bool t_14))]∧St [] w0 w m [q7,q8,[⟨b9,[(iV t_5.Level),s7.v,s8.v,(iV t_5.Sum)],29⟩],[⟨b4,[(iV 0),nilS.v,nilS.v,(iV 0)],29⟩]]) ?_ ?_
 ·refine q_region (q_y (v:=(.agg #[s1.v])) hF hS (ex_loadA (vs:=[s1.v]) 4 0 U26 rfl sz26 rfl rfl rfl rfl) fun a hF=>q_m hF rfl fun a hF=>q_y (v:=(.agg #[(iV t_5.Level),s7.v,s8.v,(iV t_5.Sum)])) hF hS (ex_loadA (vs:=[(iV t_5.Level),s7.v,s8.v,(iV t_5.Sum)]) 0 0 U29 rfl sz29 rfl rfl rfl rfl) fun a hF=>?_)
  obtain ⟨m11,hl11,hv11,hz11⟩:=hS.lend
  obtain ⟨t_10,ht_10,hj1⟩:=bindS hj1
  refine q_call (vs:=[(.agg #[s1.v]),s2.v,(.agg #[(iV t_5.Level),s7.v,s8.v,(iV t_5.Sum)])]) hF hS Tryz.func32 (by kernel_rfl) rfl rfl rfl (c_spec_uGood p_g p_s t_5 t_10 ht_10 _ m11 hv11 s1 (h1.mono hl11) s2 (h2.mono hl11) s7 (h7.froz hl11 (hz11 1 _ rfl)) s8 (h8.froz hl11 (hz11 2 _ rfl))) ?_
  rintro a w _ rfl hF hS
  refine q_y (v:=(.bool (!t_10))) hF hS (ex_not rfl) fun a hF=>q_m hF rfl fun a hF=>?_
  rcases bcase (!t_10) with hc2 | hc2
  ·have hj1:=cond_f hc2 hj1
   refine q_g (v:=s2.v) hF hS (ex_move rfl) hc2 fun a hF=>q_g (v:=(.agg #[(iV t_5.Level),s7.v,s8.v,(iV t_5.Sum)])) hF hS (ex_loadA (vs:=[(iV t_5.Level),s7.v,s8.v,(iV t_5.Sum)]) 0 0 U29 rfl sz29 rfl rfl rfl rfl) hc2 fun a hF=>?_
   obtain ⟨m13,hl13,hv13,hz13⟩:=hS.lend
   obtain ⟨t_12,ht_12,hj1⟩:=bindS hj1
   refine q_callg (vs:=[s2.v,(.agg #[(iV t_5.Level),s7.v,s8.v,(iV t_5.Sum)])]) hF hS (wanted_t hF rfl rfl rfl hc2) Tryz.func33 (by kernel_rfl) rfl rfl rfl (c_spec_nTable p_s t_5 t_12 ht_12 _ m13 hv13 s2 (h2.mono hl13) s7 (h7.froz hl13 (hz13 1 _ rfl)) s8 (h8.froz hl13 (hz13 2 _ rfl))) ?_
   rintro a w _ rfl hF hS
   refine q_g (v:=(strV p_x)) hF hS (ex_move rfl) hc2 fun a hF=>q_g (v:=(.bool (t_12 != p_x))) hF hS (ex_strNe rfl rfl) hc2 fun a hF=>q_y (v:=(.bool (t_12 != p_x))) hF hS (ex_pick_f rfl rfl hc2) fun a hF=>q_end (n_jn ?_)
   obtain rfl:=someI hj1
   exact ⟨hF.sub ⟨rfl,rfl,rfl,trivial⟩,hS.sel [1,2,0,3] (by decide)⟩
  ·have hj1:=cond_t hc2 hj1
   refine q_k hF hc2 fun a hF=>q_k hF hc2 fun a hF=>q_k hF hc2 fun a hF=>q_k hF hc2 fun a hF=>q_k hF hc2 fun a hF=>q_y (v:=(.bool true)) hF hS (ex_pick_t rfl rfl hc2) fun a hF=>q_end (n_jn ?_)
   obtain rfl:=someI hj1
   exact ⟨hF.sub ⟨rfl,rfl,rfl,trivial⟩,hS.sel [1,2,0,3] (by decide)⟩
 ·rintro a w ⟨hF,hS⟩
  refine n_sq ?_
  rcases bcase (t_14) with hc3 | hc3
  ·have hr:=cond_f hc3 hr
   refine q_cond_f hF rfl hc3 (q_skipc (n_sq (q_sr (q_y (v:=(.agg #[(iV t_5.Level),s7.v,s8.v,(iV t_5.Sum)])) hF hS (ex_loadA (vs:=[(iV t_5.Level),s7.v,s8.v,(iV t_5.Sum)]) 2 0 U29 rfl sz29 rfl rfl rfl rfl) fun a hF=>q_store (vs:=[(iV t_5.Level),s7.v,s8.v,(iV t_5.Sum)]) (cs':=[(iV t_5.Level),s7.v,s8.v,(iV t_5.Sum)]) 3 0 hF hS sz29 rfl rfl rfl rfl rfl rfl rfl rfl fun a w hF hS=>q_s hF rfl fun a hF=>q_end (n_sq (q_ret ?_))))))
   obtain rfl:=someI hr
   exact ret_of hF hS rfl (.cellA (us:=[(iV t_5.Level),s7.v,s8.v,(iV t_5.Sum)]) 3 0 U29 rfl sz29 rfl rfl rfl rfl (.tmp rfl .nil)) ⟨q7,q8,s7,s8,rfl,hS.sel [0,1] (by decide),h7,h8⟩
  ·have hr:=cond_t hc3 hr
   refine q_cond_t hF rfl hc3 (q_sr (q_y (v:=(.agg #[(iV 0),nilS.v,nilS.v,(iV 0)])) hF hS (ex_build (cells:=[(iV 0),nilS.v,nilS.v,(iV 0)]) rfl (by kernel_rfl)) fun a hF=>q_store (vs:=[(iV 0),nilS.v,nilS.v,(iV 0)]) (cs':=[(iV 0),nilS.v,nilS.v,(iV 0)]) 3 0 hF hS sz29 rfl rfl rfl rfl rfl rfl rfl rfl fun a w hF hS=>q_s hF rfl fun a hF=>q_end (n_sq (q_ret (r_sq ?_)))))
   obtain rfl:=someI hr
   exact ret_of hF hS rfl (.cellA (us:=[(iV 0),nilS.v,nilS.v,(iV 0)]) 3 0 U29 rfl sz29 rfl rfl rfl rfl (.tmp rfl .nil)) ⟨[],[],nilS,nilS,rfl,hS.sel [4,5] (by decide),(OwnL.nil (α:=Int) m 3),(OwnL.nil (α:=Int) m 3)⟩

theorem c_spec_ParsePlan (p_g : impl_Geo) (p_s : List impl_Variable) (p_x : List UInt8) (r : (List impl_Table) × Int × Bool) (hr : spec_ParsePlan p_g p_s p_x = some r) (w0 : World) (m : Mem) (hv : Vis m w0) (s1 : Sl) (h1 : Rd m s1 p_g.Parents) (s2 : Sl) (h2 : Rd m s2 p_s) :
  Ret Tryz.prog 23 [(.agg #[s1.v]),s2.v,(strV p_x)] w0 (fun v w=>∃ (m' : Mem) (q0' : Piece) (s0' : Sl),v = (.tuple #[s0'.v,(iV r.2.1),(.bool r.2.2)])∧MLe [] w0.heap.size m m'∧St [] w0 w m' [q0']∧OwnL m' 29 q0' s0' r.1):=by
 unfold spec_ParsePlan at hr
 refine ret_start Tryz.func23 rfl 58 rfl rfl m hv fun a hF hS=>q_sr (q_box (cs:=[s1.v]) hF hS rfl rfl rfl fun a w b3 hF hS=>q_s hF rfl fun a hF=>q_s hF rfl fun a hF=>q_s hF rfl fun a hF=>q_end (n_sq (q_seq (q_sr (q_y (v:=(.agg #[s1.v])) hF hS (ex_loadA (vs:=[s1.v]) 0 0 U26 rfl sz26 rfl rfl rfl rfl) fun a hF=>q_m hF rfl fun a hF=>?_)))))
 obtain ⟨t_4,ht_4,hr⟩:=bindS hr
 refine q_call (vs:=[(.agg #[s1.v]),s2.v]) hF hS Tryz.func44 (by kernel_rfl) rfl rfl rfl (c_spec_nInput p_g p_s t_4 ht_4 _ m hS.vis s1 h1 s2 h2) ?_
 rintro a w _ rfl hF hS
 refine q_y (v:=(.bool (!t_4))) hF hS (ex_not rfl) fun a hF=>q_end (n_sq ?_)
 rcases bcase (!t_4) with hc1 | hc1
 ·have hr:=cond_f hc1 hr
  refine q_cond_f hF rfl hc1 (q_skipc (n_sq (q_sr (q_s hF rfl fun a hF=>q_end (n_sq (q_sr (q_m hF rfl fun a hF=>?_)))))))
  obtain ⟨t_5,ht_5,hr⟩:=bindS hr
  refine q_call (vs:=[(strV p_x),(.int .u8 10)]) hF hS Tryz.func53 (by kernel_rfl) rfl rfl rfl (c_spec_l1Split p_x (⟨10⟩ : K .u8) t_5 ht_5 _ m hS.vis) ?_
  rintro a w _ ⟨q7,s7,rfl,hR6,h7⟩ hF hS2
  have hS : St _ _ _ _ [q7,[⟨b3,[s1.v],26⟩]]:=hS.joinF hR6
  refine q_s hF rfl fun a hF=>q_end (n_sq (q_seq (q_sr (q_m hF rfl fun a hF=>q_y (v:=(iV (goLen t_5))) hF hS (ex_len U80 rfl h7.len) fun a hF=>q_m hF rfl fun a hF=>q_end (n_sq (q_block ?_))))))
  obtain ⟨o2,hl2,hr⟩:=bindS hr
  refine q_loop (fun (s : (List impl_Table) × Int) a w=>∃ (m11 : Mem),∃ (q9 : Piece),∃ (s9 : Sl),∃ out_8,∃ t_10,s = (out_8,t_10)∧Fr a 58 [(1,s2.v),(3,(pP b3 0)),(9,s9.v),(10,s7.v),(21,s7.v),(22,(iV (goLen t_5))),(23,(iV t_10))]∧St [] w0 w m11 [q9,q7,[⟨b3,[s1.v],26⟩]]∧MLe [] w0.heap.size m m11∧OwnL m11 29 q9 s9 out_8) (fun (o : ((List impl_Table)) ⊕ ((List impl_Table) × Int × Bool)) e a w=>∃ (m27 : Mem),∃ (q26 : Piece),∃ (s26 : Sl),∃ out_25,o = .inl out_25∧e = .exit 0∧Fr a 58 [(9,s26.v)]∧St [] w0 w m27 [q26]∧MLe [] w0.heap.size m m27∧OwnL m27 29 q26 s26 out_25) hl2 ⟨m,[],nilS,_,_,rfl,hF.sub ⟨rfl,rfl,rfl,rfl,rfl,rfl,rfl,trivial⟩,hS.sel [2,0,1] (by decide),(MLe.refl _ _),(OwnL.nil (α:=impl_Table) m 29)⟩ ?_ ?_
  ·clear hF hS
   rintro s a w st ⟨m11,q9,s9,out_8,t_10,rfl,hF,hS,hm11,h9⟩ hb2
   unfold spec_ParsePlan_l1 at hb2
   refine q_sr (q_y (v:=(.bool (decide (t_10 < (goLen t_5))))) hF hS (ex_ibin rfl rfl rfl) fun a hF=>q_end (n_sq (q_seq ?_)))
   rcases bcase (decide (t_10 < (goLen t_5))) with hc3 | hc3
   ·have hb2:=cond_f hc3 hb2
    refine q_cond_f hF rfl hc3 (q_exit (x_sq ?_))
    obtain rfl:=someI hb2
    exact ⟨nofun,.inl ⟨m11,q9,s9,_,rfl,rfl,hF.sub ⟨rfl,trivial⟩,hS.mask [true,false,false],hm11,h9⟩⟩
   ·have hb2:=cond_t hc3 hb2
    refine q_cond_t hF rfl hc3 (q_skipc (n_sq (q_seq (q_block (q_sr (q_m hF rfl fun a hF=>?_))))))
    obtain ⟨e_12,he_12,hb2⟩:=bindS hb2
    obtain ⟨vs13,at13,d13⟩:=(h7.mono hm11.le).at he_12 1 rfl
    obtain rfl : vs13 = [(strV e_12)]:=d13
    refine q_y (v:=(elP s7 (t_10.toNat * 1))) hF hS (ex_indexAddr U80 sz9 rfl rfl ((h7.mono hm11.le).idx he_12)) fun a hF=>q_y (v:=(strV e_12)) hF hS (ex_loadE1 0 U9 rfl rfl (at13.at 1 rfl) rfl rfl) fun a hF=>q_s hF rfl fun a hF=>q_s hF rfl fun a hF=>q_end (n_sq (q_seq (q_sr (q_m hF rfl fun a hF=>q_m hF rfl fun a hF=>q_y (v:=(iV (goLen t_5))) hF hS (ex_len U80 rfl (h7.mono hm11.le).len) fun a hF=>q_y (v:=(iV (w64 ((goLen t_5) - 1)))) hF hS (ex_ibin rfl rfl rfl) fun a hF=>q_y (v:=(.bool (t_10 == (w64 ((goLen t_5) - 1))))) hF hS (ex_ibin rfl rfl rfl) fun a hF=>q_end (n_sq ?_)))))
    rcases bcase (t_10 == (w64 ((goLen t_5) - 1))) with hc4 | hc4
    ·have hb2:=cond_f hc4 hb2
     refine q_cond_f hF rfl hc4 (q_skipc (n_sq (q_sr (q_y (v:=(.agg #[s1.v])) hF hS (ex_loadA (vs:=[s1.v]) 2 0 U26 rfl sz26 rfl rfl rfl rfl) fun a hF=>q_m hF rfl fun a hF=>q_m hF rfl fun a hF=>?_))))
     obtain ⟨t_14,ht_14,hb2⟩:=bindS hb2
     refine q_call (vs:=[(.agg #[s1.v]),s2.v,(strV e_12)]) hF hS Tryz.func45 (by kernel_rfl) rfl rfl rfl (c_spec_nParse p_g p_s e_12 t_14 ht_14 _ m11 hS.vis s1 (h1.mono hm11.le) s2 (h2.mono hm11.le)) ?_
     rintro a w _ ⟨q16,q17,s16,s17,rfl,hR15,h16,h17⟩ hF hS2
     have hS : St _ _ _ _ [q16,q17,q9,q7,[⟨b3,[s1.v],26⟩]]:=hS.joinF hR15
     refine q_m hF rfl fun a hF=>q_y (v:=(.agg #[(iV t_14.1.Level),s16.v,s17.v,(iV t_14.1.Sum)])) hF hS (ex_extract rfl rfl) fun a hF=>q_y (v:=(.bool t_14.2)) hF hS (ex_extract rfl rfl) fun a hF=>q_alloc (cs:=[(iV 0),nilS.v,nilS.v,(iV 0)]) hF hS rfl rfl rfl fun a w b18 hF hS=>q_store (vs:=[(iV t_14.1.Level),s16.v,s17.v,(iV t_14.1.Sum)]) (cs':=[(iV t_14.1.Level),s16.v,s17.v,(iV t_14.1.Sum)]) 0 0 hF hS sz29 rfl rfl rfl rfl rfl rfl rfl rfl fun a w hF hS=>q_s hF rfl fun a hF=>q_end (n_sq (q_seq (q_seq ?_)))
     obtain ⟨t_19,hj5,hb2⟩:=bindS hb2
     refine q_join (fun a w=>Fr a 58 [(1,s2.v),(3,(pP b3 0)),(9,s9.v),(10,s7.v),(11,(iV t_10)),(13,(pP b18 0)),(21,s7.v),(22,(iV (goLen t_5))),(23,(iV t_10)),(49,(.bool t_19))]∧St [] w0 w m11 [q9,q7,q16,q17,[⟨b18,[(iV t_14.1.Level),s16.v,s17.v,(iV t_14.1.Sum)],29⟩],[⟨b3,[s1.v],26⟩]]) ?_ ?_
     ·refine q_region (q_m hF rfl fun a hF=>q_y (v:=(.bool (!t_14.2))) hF hS (ex_not rfl) fun a hF=>q_m hF rfl fun a hF=>?_)
      rcases bcase (!t_14.2) with hc6 | hc6
      ·have hj5:=cond_f hc6 hj5
       refine q_g (v:=(iV t_10)) hF hS (ex_move rfl) hc6 fun a hF=>q_g (v:=(.bool (t_10 == 20))) hF hS (ex_ibin rfl rfl rfl) hc6 fun a hF=>q_y (v:=(.bool (t_10 == 20))) hF hS (ex_pick_f rfl rfl hc6) fun a hF=>q_end (n_jn ?_)
       obtain rfl:=someI hj5
       exact ⟨hF.sub ⟨rfl,rfl,rfl,rfl,rfl,rfl,rfl,rfl,rfl,rfl,trivial⟩,hS.sel [3,4,1,2,0,5] (by decide)⟩
      ·have hj5:=cond_t hc6 hj5
       refine q_k hF hc6 fun a hF=>q_k hF hc6 fun a hF=>q_y (v:=(.bool true)) hF hS (ex_pick_t rfl rfl hc6) fun a hF=>q_end (n_jn ?_)
       obtain rfl:=someI hj5
       exact ⟨hF.sub ⟨rfl,rfl,rfl,rfl,rfl,rfl,rfl,rfl,rfl,rfl,trivial⟩,hS.sel [3,4,1,2,0,5] (by decide)⟩
     ·rintro a w ⟨hF,hS⟩
      refine n_sq ?_
      rcases bcase (t_19) with hc7 | hc7
      ·have hb2:=cond_f hc7 hb2
       refine q_cond_f hF rfl hc7 (q_skipc (n_sq (q_region (q_m hF rfl fun a hF=>q_y (v:=(.agg #[(iV t_14.1.Level),s16.v,s17.v,(iV t_14.1.Sum)])) hF hS (ex_loadA (vs:=[(iV t_14.1.Level),s16.v,s17.v,(iV t_14.1.Sum)]) 4 0 U29 rfl sz29 rfl rfl rfl rfl) fun a hF=>?_))))
       have hS : St _ _ _ _ [q16,q9,q7,q17,[⟨b18,[(iV t_14.1.Level),s16.v,s17.v,(iV t_14.1.Sum)],29⟩],[⟨b3,[s1.v],26⟩]]:=hS.sel [2,0,1,3,4,5] (by decide)
       obtain ⟨m21,hm21,hS,hz21⟩:=hS.freeze
       have h21:=h16.froz hm21.le hz21
       have hS : St _ _ _ _ [q17,q9,q7,[⟨b18,[(iV t_14.1.Level),s16.v,s17.v,(iV t_14.1.Sum)],29⟩],[⟨b3,[s1.v],26⟩]]:=hS.sel [2,0,1,3,4] (by decide)
       obtain ⟨m22,hm22,hS,hz22⟩:=hS.freeze
       have h22:=(h17.mono hm21.le).froz hm22.le hz22
       refine q_do rfl fun _ hK=>wp_buildSlice' (l:=([t_14.1] : List impl_Table)) (cells:=[(iV t_14.1.Level),s16.v,s17.v,(iV t_14.1.Sum)]) hF hS U44 inf29 rfl rfl (by kernel_rfl) rfl rfl rfl ⟨⟨s16,s17,rfl,(h21.mono hm22.le),h22⟩,rfl⟩ rfl rfl fun a w q20 s20 hF hS h20 _=>hK _ _ ?_
       have hS : St _ _ _ _ [q9,q20,q7,[⟨b18,[(iV t_14.1.Level),s16.v,s17.v,(iV t_14.1.Sum)],29⟩],[⟨b3,[s1.v],26⟩]]:=hS.sel [1,0,2,3,4] (by decide)
       obtain ⟨l_23,hl_23,hb2⟩:=bindS hb2
       refine q_do rfl fun _ hK=>wp_append hF hS ((h9.mono hm21.le).mono hm22.le) U44 inf29 rfl rfl rfl rfl (h20.vw hS (j:=1) rfl) rfl (by decide) hl_23 rfl fun a w q24 s24 hF hS h24=>hK _ _ (q_s hF rfl fun a hF=>q_end (n_ib (n_sq (q_region (q_y (v:=(iV (w64 (t_10 + 1)))) hF hS (ex_ibin rfl rfl rfl) fun a hF=>q_m hF rfl fun a hF=>q_end ?_)))))
       obtain rfl:=someI hb2
       exact ⟨rfl,m22,q24,s24,_,_,rfl,hF.sub ⟨rfl,rfl,rfl,rfl,rfl,rfl,rfl,trivial⟩,hS.mask [true,false,true,false,true],((hm11.trans hm21).trans hm22),h24⟩
      ·have hb2:=cond_t hc7 hb2
       refine q_cond_t hF rfl hc7 (q_sr (q_m hF rfl fun a hF=>q_y (v:=(iV (w64 (t_10 + 1)))) hF hS (ex_ibin rfl rfl rfl) fun a hF=>q_s hF rfl fun a hF=>q_s hF rfl fun a hF=>q_s hF rfl fun a hF=>q_end (n_sq (q_ret (r_sq (r_ib (r_sq ?_)))))))
       obtain rfl:=someI hb2
       refine ⟨nofun,.inr fun ho=>?_⟩
       subst ho
       refine r_ib (r_sq ?_)
       obtain rfl:=someI hr
       exact ret_of hF hS rfl (.tmp rfl (.tmp rfl (.tmp rfl .nil))) ⟨m11,[],nilS,rfl,hm11,hS.sel [6] (by decide),(OwnL.nil (α:=impl_Table) m11 29)⟩
    ·have hb2:=cond_t hc4 hb2
     refine q_cond_t hF rfl hc4 (q_seq (q_sr (q_m hF rfl fun a hF=>q_y (v:=(.bool (e_12 != ([] : List UInt8)))) hF hS (ex_strNe rfl rfl) fun a hF=>q_end (n_sq ?_))))
     rcases bcase (e_12 != ([] : List UInt8)) with hc8 | hc8
     ·have hb2:=cond_f hc8 hb2
      refine q_cond_f hF rfl hc8 (q_skipc (n_sq (q_exit (x_sq (x_ibn rfl (x_sq ?_))))))
      obtain rfl:=someI hb2
      exact ⟨nofun,.inl ⟨m11,q9,s9,_,rfl,rfl,hF.sub ⟨rfl,trivial⟩,hS.mask [true,false,false],hm11,h9⟩⟩
     ·have hb2:=cond_t hc8 hb2
      refine q_cond_t hF rfl hc8 (q_sr (q_m hF rfl fun a hF=>q_y (v:=(iV (w64 (t_10 + 1)))) hF hS (ex_ibin rfl rfl rfl) fun a hF=>q_s hF rfl fun a hF=>q_s hF rfl fun a hF=>q_s hF rfl fun a hF=>q_end (n_sq (q_ret (r_sq (r_sq (r_ib (r_sq ?_))))))))
      obtain rfl:=someI hb2
      refine ⟨nofun,.inr fun ho=>?_⟩
      subst ho
      refine r_ib (r_sq ?_)
      obtain rfl:=someI hr
      exact ret_of hF hS rfl (.tmp rfl (.tmp rfl (.tmp rfl .nil))) ⟨m11,[],nilS,rfl,hm11,hS.sel [3] (by decide),(OwnL.nil (α:=impl_Table) m11 29)⟩
  ·rintro e a w ⟨m27,q26,s26,out_25,rfl,rfl,hF,hS,hm27,h26⟩
   refine x_ib (n_sq ?_)
   refine q_sr (q_m hF rfl fun a hF=>q_s hF rfl fun a hF=>q_s hF rfl fun a hF=>q_s hF rfl fun a hF=>q_end (n_sq (q_ret ?_)))
   obtain rfl:=someI hr
   exact ret_of hF hS rfl (.tmp rfl (.tmp rfl (.tmp rfl .nil))) ⟨m27,q26,s26,rfl,hm27,hS.sel [0] (by decide),h26⟩
 ·have hr:=cond_t hc1 hr
  refine q_cond_t hF rfl hc1 (q_sr (q_s hF rfl fun a hF=>q_s hF rfl fun a hF=>q_s hF rfl fun a hF=>q_end (n_sq (q_ret (r_sq ?_)))))
  obtain rfl:=someI hr
  exact ret_of hF hS rfl (.tmp rfl (.tmp rfl (.tmp rfl .nil))) ⟨m,[],nilS,rfl,(MLe.refl _ _),hS.sel [1] (by decide),(OwnL.nil (α:=impl_Table) m 29)⟩

theorem c_spec_DrawMergePlans (p_code : List (K .u8)) (r : impl_Geo × (List impl_Variable) × (List impl_Table) × (List impl_Table)) (hr : spec_DrawMergePlans p_code = some r) (w0 : World) (m : Mem) (hv : Vis m w0) (s1 : Sl) (h1 : Rd m s1 p_code) :
  Ret Tryz.prog 24 [s1.v] w0 (fun v w=>∃ (m' : Mem) (q2' : Piece) (q3' : Piece) (s0' : Sl) (s1' : Sl) (s2' : Sl) (s3' : Sl),v = (.tuple #[(.agg #[s0'.v]),s1'.v,s2'.v,s3'.v])∧MLe [] w0.heap.size m m'∧St [] w0 w m' [q2',q3']∧Rd m' s0' r.1.Parents∧Rd m' s1' r.2.1∧OwnL m' 29 q2' s2' r.2.2.1∧OwnL m' 29 q3' s3' r.2.2.2):=by
 unfold spec_DrawMergePlans at hr
 refine ret_start Tryz.func24 rfl 41 rfl rfl m hv fun a hF hS=>q_sr (q_alloc (cs:=[nilS.v]) hF hS rfl rfl rfl fun a w b2 hF hS=>q_s hF rfl fun a hF=>q_s hF rfl fun a hF=>q_s hF rfl fun a hF=>q_end (n_sq (q_sr (q_m hF rfl fun a hF=>q_y (v:=(.agg #[s1.v,(iV 0),(.int .u64 0)])) hF hS (ex_build (cells:=[s1.v,(iV 0),(.int .u64 0)]) rfl (by kernel_rfl)) fun a hF=>q_box (cs:=[s1.v,(iV 0),(.int .u64 0)]) hF hS rfl rfl rfl fun a w b3 hF hS=>q_s hF rfl fun a hF=>q_end (n_sq (q_sr (q_m hF rfl fun a hF=>?_)))))))
 obtain ⟨t_4,ht_4,hr⟩:=bindS hr
 refine q_call (vs:=[s1.v]) hF hS Tryz.func17 (by kernel_rfl) rfl rfl rfl (c_spec_DrawPlanText p_code t_4 ht_4 _ m hS.vis s1 h1) ?_
 have hT:=hS
 rintro a w _ ⟨m5,q8,s6,s7,s8,rfl,hm5,hR5,h6,h7,h8⟩ hF hS2
 have hS : St _ _ _ _ [q8,[⟨b3,[s1.v,(iV 0),(.int .u64 0)],59⟩],[⟨b2,[nilS.v],26⟩]]:=hS.join hR5 hm5
 have hm5:=MLe.weakX (O0:=[]) hT hm5
 refine q_m hF rfl fun a hF=>q_y (v:=(.agg #[s6.v])) hF hS (ex_extract rfl rfl) fun a hF=>q_y (v:=s7.v) hF hS (ex_extract rfl rfl) fun a hF=>q_y (v:=s8.v) hF hS (ex_extract rfl rfl) fun a hF=>q_alloc (cs:=[nilS.v]) hF hS rfl rfl rfl fun a w b9 hF hS=>q_store (vs:=[s6.v]) (cs':=[s6.v]) 0 0 hF hS sz26 rfl rfl rfl rfl rfl rfl rfl rfl fun a w hF hS=>q_s hF rfl fun a hF=>q_s hF rfl fun a hF=>q_end (n_sq (q_sr (q_m hF rfl fun a hF=>q_y (v:=(.agg #[s6.v])) hF hS (ex_loadA (vs:=[s6.v]) 0 0 U26 rfl sz26 rfl rfl rfl rfl) fun a hF=>q_m hF rfl fun a hF=>?_)))
 have hS : St _ _ _ _ [[⟨b3,[s1.v,(iV 0),(.int .u64 0)],59⟩],[⟨b9,[s6.v],26⟩],q8,[⟨b2,[nilS.v],26⟩]]:=hS.sel [2,0,1,3] (by decide)
 have hS10 : St _ _ _ _ ([[⟨b3,[s1.v,(iV 0),(.int .u64 0)],59⟩]]++[[⟨b9,[s6.v],26⟩],q8,[⟨b2,[nilS.v],26⟩]]):=hS
 have hE10:=hS10.enter
 obtain ⟨t_11,ht_11,hr⟩:=bindS hr
 refine q_do rfl fun _ hK=>wp_callX (vs:=[(pP b3 0),(.agg #[s6.v]),s7.v]) hF Tryz.func48 (by kernel_rfl) rfl rfl rfl (c_spec_l1Cur_tables (spec_l1Cur.mk p_code 0 (⟨0⟩ : K .u64)) t_4.1 t_4.2.1 t_11 ht_11 _ m5 b3 s1 (h1.mono hm5.le) s6 h6 s7 h7 _ hE10) fun a w _ hR hF=>hK _ _ ?_
 obtain ⟨m10',q12,s12,rfl,hm10,hR10,h12,hk13⟩:=hR
 have hS : St _ _ _ _ [[⟨b3,[s1.v,(iV t_11.2.at_),(.int .u64 t_11.2.seed.v)],59⟩],q12,[⟨b9,[s6.v],26⟩],q8,[⟨b2,[nilS.v],26⟩]]:=hS10.leave hR10 hm10
 have hm10:=MLe.weakX hS10 hm10
 have h13 : Rd m10' s1 t_11.2.code:=by rw [hk13]; exact ((h1.mono hm5.le).mono hm10.le)
 refine q_s hF rfl fun a hF=>q_end (n_sq (q_seq (q_seq ?_)))
 obtain ⟨t_17,hj1,hr⟩:=bindS hr
 refine q_join (fun a w=>Fr a 41 [(2,(pP b2 0)),(7,(pP b9 0)),(8,s7.v),(9,s8.v),(10,s12.v),(30,(.bool t_17))]∧St [] w0 w m10' [q8,q12,[⟨b9,[s6.v],26⟩],[⟨b2,[nilS.v],26⟩]]) ?_ ?_
 ·refine q_region (q_m hF rfl fun a hF=>q_y (v:=(iV (goLen t_4.2.2))) hF hS (ex_len U44 rfl (h8.mono hm10.le).len) fun a hF=>q_y (v:=(.bool (decide (0 < (goLen t_4.2.2))))) hF hS (ex_ibin rfl rfl rfl) fun a hF=>q_m hF rfl fun a hF=>?_)
  rcases bcase (decide (0 < (goLen t_4.2.2))) with hc2 | hc2
  ·have hj1:=cond_f hc2 hj1
   refine q_k hF hc2 fun a hF=>q_k hF hc2 fun a hF=>q_y (v:=(.bool false)) hF hS (ex_pick_f rfl rfl hc2) fun a hF=>q_end (n_jn ?_)
   obtain rfl:=someI hj1
   exact ⟨hF.sub ⟨rfl,rfl,rfl,rfl,rfl,rfl,trivial⟩,hS.sel [3,1,2,4] (by decide)⟩
  ·have hj1:=cond_t hc2 hj1
   refine q_g (v:=(pP b3 0)) hF hS (ex_move rfl) hc2 fun a hF=>?_
   have hS14 : St _ _ _ _ ([[⟨b3,[s1.v,(iV t_11.2.at_),(.int .u64 t_11.2.seed.v)],59⟩]]++[q12,[⟨b9,[s6.v],26⟩],q8,[⟨b2,[nilS.v],26⟩]]):=hS
   have hE14:=hS14.enter
   obtain ⟨t_15,ht_15,hj1⟩:=bindS hj1
   refine q_dog (wanted_t hF rfl rfl rfl hc2) fun _ hK=>wp_callX (vs:=[(pP b3 0),(iV 2)]) hF Tryz.func42 (by kernel_rfl) rfl rfl rfl (c_spec_l1Cur_one t_11.2 2 t_15 ht_15 _ m10' b3 s1 h13 _ hE14) fun a w _ hR hF=>hK _ _ ?_
   obtain ⟨rfl,hR14,hk16⟩:=hR
   have hS : St _ _ _ _ [[⟨b3,[s1.v,(iV t_15.2.at_),(.int .u64 t_15.2.seed.v)],59⟩],q12,[⟨b9,[s6.v],26⟩],q8,[⟨b2,[nilS.v],26⟩]]:=hS14.leaveF hR14
   have h16 : Rd m10' s1 t_15.2.code:=by rw [hk16]; exact h13
   refine q_y (v:=(.bool t_15.1)) hF hS (ex_pick_t rfl rfl hc2) fun a hF=>q_end (n_jn ?_)
   obtain rfl:=someI hj1
   exact ⟨hF.sub ⟨rfl,rfl,rfl,rfl,rfl,rfl,trivial⟩,hS.sel [3,1,2,4] (by decide)⟩
 ·rintro a w ⟨hF,hS⟩
  refine n_sq ?_
  obtain ⟨b_25,hj3,hr⟩:=bindS hr
  refine q_join (fun a w=>∃ (q26 : Piece),∃ (s26 : Sl),Fr a 41 [(2,(pP b2 0)),(7,(pP b9 0)),(8,s7.v),(9,s8.v),(10,s26.v)]∧St [] w0 w m10' [q8,q26,[⟨b9,[s6.v],26⟩],[⟨b2,[nilS.v],26⟩]]∧OwnL m10' 29 q26 s26 b_25) ?_ ?_
  ·rcases bcase (t_17) with hc4 | hc4
   ·have hj3:=cond_f hc4 hj3
    refine q_cond_f hF rfl hc4 (q_skipc (n_jn ?_))
    obtain rfl:=someI hj3
    exact ⟨q12,s12,hF.sub ⟨rfl,rfl,rfl,rfl,rfl,trivial⟩,hS,h12⟩
   ·have hj3:=cond_t hc4 hj3
    refine q_cond_t hF rfl hc4 (q_region (q_m hF rfl fun a hF=>q_m hF rfl fun a hF=>?_))
    obtain ⟨e_18,he_18,hj3⟩:=bindS hj3
    obtain ⟨vs19,at19,d19⟩:=(h8.mono hm10.le).at he_18 4 rfl
    obtain ⟨s20,s21,rfl,h20,h21⟩ : ∃ s20 s21 : Sl,vs19 = [(iV e_18.Level),s20.v,s21.v,(iV e_18.Sum)]∧Rd m10' s20 e_18.Vars∧Rd m10' s21 e_18.Where:=d19
    refine q_y (v:=(elP s8 ((0 : Int).toNat * 4))) hF hS (ex_indexAddr U44 sz29 rfl rfl ((h8.mono hm10.le).idx he_18)) fun a hF=>q_y (v:=(.agg #[(iV e_18.Level),s20.v,s21.v,(iV e_18.Sum)])) hF hS (ex_loadEA (us:=[(iV e_18.Level),s20.v,s21.v,(iV e_18.Sum)]) 0 U29 rfl sz29 rfl (at19.at 0 rfl) rfl rfl rfl) fun a hF=>q_do rfl fun _ hK=>wp_buildSlice' (l:=([e_18] : List impl_Table)) (cells:=[(iV e_18.Level),s20.v,s21.v,(iV e_18.Sum)]) hF hS U44 inf29 rfl rfl (by kernel_rfl) rfl rfl rfl ⟨⟨s20,s21,rfl,h20,h21⟩,rfl⟩ rfl rfl fun a w q22 s22 hF hS h22 _=>hK _ _ ?_
    have hS : St _ _ _ _ [q12,q22,q8,[⟨b9,[s6.v],26⟩],[⟨b2,[nilS.v],26⟩]]:=hS.sel [2,0,1,3,4] (by decide)
    obtain ⟨l_23,hl_23,hj3⟩:=bindS hj3
    refine q_do rfl fun _ hK=>wp_append hF hS h12 U44 inf29 rfl rfl rfl rfl (h22.vw hS (j:=1) rfl) rfl (by decide) hl_23 rfl fun a w q24 s24 hF hS h24=>hK _ _ (q_s hF rfl fun a hF=>q_end (n_jn ?_))
    obtain rfl:=someI hj3
    exact ⟨q24,s24,hF.sub ⟨rfl,rfl,rfl,rfl,rfl,trivial⟩,hS.sel [2,0,3,4] (by decide),h24⟩
  ·rintro a w ⟨q26,s26,hF,hS,h26⟩
   refine n_sq ?_
   refine q_sr (q_y (v:=(.agg #[s6.v])) hF hS (ex_loadA (vs:=[s6.v]) 2 0 U26 rfl sz26 rfl rfl rfl rfl) fun a hF=>q_m hF rfl fun a hF=>q_m hF rfl fun a hF=>q_m hF rfl fun a hF=>q_store (vs:=[s6.v]) (cs':=[s6.v]) 3 0 hF hS sz26 rfl rfl rfl rfl rfl rfl rfl rfl fun a w hF hS=>q_s hF rfl fun a hF=>q_s hF rfl fun a hF=>q_s hF rfl fun a hF=>q_end (n_sq (q_ret ?_)))
   obtain rfl:=someI hr
   exact ret_of hF hS rfl (.cellA (us:=[s6.v]) 3 0 U26 rfl sz26 rfl rfl rfl rfl (.tmp rfl (.tmp rfl (.tmp rfl .nil)))) ⟨m10',q8,q26,s6,s7,s8,s26,rfl,(hm5.trans hm10),hS.sel [0,1] (by decide),(h6.mono hm10.le),(h7.mono hm10.le),(h8.mono hm10.le),h26⟩

theorem c_slices_Concat_impl_Table_impl_Table (p_slices : List (List impl_Table)) (r : (List impl_Table)) (hr : slices_Concat_impl_Table_impl_Table p_slices = some r) (w0 : World) (m : Mem) (hv : Vis m w0) (s1 : Sl) (h1 : Rd m s1 p_slices) :
  Ret Tryz.prog 54 [s1.v] w0 (fun v w=>∃ (q0' : Piece) (s0' : Sl),v = s0'.v∧St [] w0 w m [q0']∧OwnL m 29 q0' s0' r):=by
 unfold slices_Concat_impl_Table_impl_Table at hr
 refine ret_start Tryz.func54 rfl 36 rfl rfl m hv fun a hF hS=>q_sr (q_s hF rfl fun a hF=>q_end (n_sq (q_sr (q_s hF rfl fun a hF=>q_end (n_sq (q_seq (q_sr (q_m hF rfl fun a hF=>q_y (v:=(iV (goLen p_slices))) hF hS (ex_len U118 rfl h1.len) fun a hF=>q_m hF rfl fun a hF=>q_end (n_sq (q_block ?_))))))))))
 obtain ⟨size_7,hl1,hr⟩:=bindS hr
 refine q_loop (fun (s : Int × Int) a w=>∃ size_2,∃ t_3,s = (size_2,t_3)∧Fr a 36 [(0,s1.v),(3,(iV size_2)),(9,s1.v),(10,(iV (goLen p_slices))),(11,(iV t_3))]∧St [] w0 w m []) (fun (size_7 : Int) e a w=>e = .exit 0∧Fr a 36 [(0,s1.v),(3,(iV size_7))]∧St [] w0 w m []) hl1 ⟨_,_,rfl,hF.sub ⟨rfl,rfl,rfl,rfl,rfl,trivial⟩,hS⟩ ?_ ?_
 ·clear hF hS
  rintro s a w st ⟨size_2,t_3,rfl,hF,hS⟩ hb1
  unfold slices_Concat_impl_Table_impl_Table_l1 at hb1
  refine q_sr (q_y (v:=(.bool (decide (t_3 < (goLen p_slices))))) hF hS (ex_ibin rfl rfl rfl) fun a hF=>q_end (n_sq (q_seq ?_)))
  rcases bcase (decide (t_3 < (goLen p_slices))) with hc2 | hc2
  ·have hb1:=cond_f hc2 hb1
   refine q_cond_f hF rfl hc2 (q_exit (x_sq ?_))
   obtain rfl:=someI hb1
   exact ⟨nofun,.inl ⟨rfl,hF.sub ⟨rfl,rfl,trivial⟩,hS⟩⟩
  ·have hb1:=cond_t hc2 hb1
   refine q_cond_t hF rfl hc2 (q_skipc (n_sq (q_seq (q_block (q_seq (q_region ?_))))))
   obtain ⟨e_4,he_4,hb1⟩:=bindS hb1
   obtain ⟨vs5,at5,d5⟩:=h1.at he_4 1 rfl
   obtain ⟨s6,rfl,h6⟩ : ∃ s6 : Sl,vs5 = [s6.v]∧Rd m s6 e_4:=d5
   refine q_y (v:=(elP s1 (t_3.toNat * 1))) hF hS (ex_indexAddr U118 sz44 rfl rfl (h1.idx he_4)) fun a hF=>q_y (v:=s6.v) hF hS (ex_loadE1 0 U44 rfl rfl ((at5).at) rfl rfl) fun a hF=>q_s hF rfl fun a hF=>q_end (n_sq (q_sr (q_m hF rfl fun a hF=>q_m hF rfl fun a hF=>q_y (v:=(iV (goLen e_4))) hF hS (ex_len U44 rfl h6.len) fun a hF=>q_y (v:=(iV (w64 (size_2 + (goLen e_4))))) hF hS (ex_ibin rfl rfl rfl) fun a hF=>q_s hF rfl fun a hF=>q_end (n_sq (q_sr (q_m hF rfl fun a hF=>q_y (v:=(.bool (decide ((w64 (size_2 + (goLen e_4))) < 0)))) hF hS (ex_ibin rfl rfl rfl) fun a hF=>q_end (n_sq ?_)))))))
   rcases bcase (decide ((w64 (size_2 + (goLen e_4))) < 0)) with hc3 | hc3
   ·have hb1:=cond_f hc3 hb1
    refine q_cond_f hF rfl hc3 (q_skipc (n_ib (n_sq (q_region (q_y (v:=(iV (w64 (t_3 + 1)))) hF hS (ex_ibin rfl rfl rfl) fun a hF=>q_m hF rfl fun a hF=>q_end ?_)))))
    obtain rfl:=someI hb1
    exact ⟨rfl,_,_,rfl,hF.sub ⟨rfl,rfl,rfl,rfl,rfl,trivial⟩,hS⟩
   ·have hb1:=cond_t hc3 hb1
    refine q_cond_t hF rfl hc3 ?_
    cases hb1
 ·rintro e a w ⟨rfl,hF,hS⟩
  refine x_ib (n_sq ?_)
  refine q_sr (q_m hF rfl fun a hF=>?_)
  obtain ⟨t_8,ht_8,hr⟩:=bindS hr
  refine q_call (vs:=[nilS.v,(iV size_7)]) hF hS Tryz.func97 (by kernel_rfl) rfl rfl rfl (c_slices_Grow_impl_Table size_7 t_8 ht_8 _ m hS.vis) ?_
  rintro a w _ ⟨q10,s10,rfl,hR9,h10⟩ hF hS2
  have hS : St _ _ _ _ [q10]:=hS.joinF hR9
  refine q_s hF rfl fun a hF=>q_end (n_sq (q_seq (q_sr (q_m hF rfl fun a hF=>q_y (v:=(iV (goLen p_slices))) hF hS (ex_len U118 rfl h1.len) fun a hF=>q_m hF rfl fun a hF=>q_end (n_sq (q_block ?_))))))
  obtain ⟨newslice_19,hl4,hr⟩:=bindS hr
  refine q_loop (fun (s : (List impl_Table) × Int) a w=>∃ (q12 : Piece),∃ (s12 : Sl),∃ newslice_11,∃ t_13,s = (newslice_11,t_13)∧Fr a 36 [(6,s12.v),(25,s1.v),(26,(iV (goLen p_slices))),(27,(iV t_13))]∧St [] w0 w m [q12]∧OwnL m 29 q12 s12 newslice_11) (fun (newslice_19 : (List impl_Table)) e a w=>∃ (q20 : Piece),∃ (s20 : Sl),e = .exit 2∧Fr a 36 [(6,s20.v)]∧St [] w0 w m [q20]∧OwnL m 29 q20 s20 newslice_19) hl4 ⟨q10,s10,_,_,rfl,hF.sub ⟨rfl,rfl,rfl,rfl,trivial⟩,hS,h10⟩ ?_ ?_
  ·clear hF hS
   rintro s a w st ⟨q12,s12,newslice_11,t_13,rfl,hF,hS,h12⟩ hb4
   unfold slices_Concat_impl_Table_impl_Table_l2 at hb4
   refine q_sr (q_y (v:=(.bool (decide (t_13 < (goLen p_slices))))) hF hS (ex_ibin rfl rfl rfl) fun a hF=>q_end (n_sq (q_seq ?_)))
   rcases bcase (decide (t_13 < (goLen p_slices))) with hc5 | hc5
   ·have hb4:=cond_f hc5 hb4
    refine q_cond_f hF rfl hc5 (q_exit (x_sq ?_))
    obtain rfl:=someI hb4
    exact ⟨nofun,.inl ⟨q12,s12,rfl,hF.sub ⟨rfl,trivial⟩,hS,h12⟩⟩
   ·have hb4:=cond_t hc5 hb4
    refine q_cond_t hF rfl hc5 (q_skipc (n_sq (q_seq (q_block (q_seq (q_region ?_))))))
    obtain ⟨e_14,he_14,hb4⟩:=bindS hb4
    obtain ⟨vs15,at15,d15⟩:=h1.at he_14 1 rfl
    obtain ⟨s16,rfl,h16⟩ : ∃ s16 : Sl,vs15 = [s16.v]∧Rd m s16 e_14:=d15
    refine q_y (v:=(elP s1 (t_13.toNat * 1))) hF hS (ex_indexAddr U118 sz44 rfl rfl (h1.idx he_14)) fun a hF=>q_y (v:=s16.v) hF hS (ex_loadE1 0 U44 rfl rfl ((at15).at) rfl rfl) fun a hF=>q_s hF rfl fun a hF=>q_end (n_sq (q_region (q_m hF rfl fun a hF=>q_m hF rfl fun a hF=>?_)))
    obtain ⟨l_17,hl_17,hb4⟩:=bindS hb4
    refine q_do rfl fun _ hK=>wp_append hF hS h12 U44 inf29 rfl rfl rfl rfl (h16.vw hS.vis) rfl (by decide) hl_17 rfl fun a w q18 s18 hF hS h18=>hK _ _ (q_s hF rfl fun a hF=>q_end (n_ib (n_sq (q_region (q_y (v:=(iV (w64 (t_13 + 1)))) hF hS (ex_ibin rfl rfl rfl) fun a hF=>q_m hF rfl fun a hF=>q_end ?_)))))
    obtain rfl:=someI hb4
    exact ⟨rfl,q18,s18,_,_,rfl,hF.sub ⟨rfl,rfl,rfl,rfl,trivial⟩,hS,h18⟩
  ·rintro e a w ⟨q20,s20,rfl,hF,hS,h20⟩
   refine x_ib (n_sq ?_)
   refine q_sr (q_m hF rfl fun a hF=>q_s hF rfl fun a hF=>q_end (n_sq (q_ret ?_)))
   obtain rfl:=someI hr
   exact ret_of hF hS rfl (.tmp rfl .nil) ⟨q20,s20,rfl,hS.sel [0] (by decide),h20⟩

theorem c_slices_Clone_int_int (p_s : List Int) (r : (List Int)) (hr : slices_Clone_int_int p_s = some r) (w0 : World) (m : Mem) (hv : Vis m w0) (s1 : Sl) (h1 : Rd m s1 p_s) :
  Ret Tryz.prog 99 [s1.v] w0 (fun v w=>∃ (q0' : Piece) (s0' : Sl),v = s0'.v∧St [] w0 w m [q0']∧OwnL m 3 q0' s0' r):=by
 unfold slices_Clone_int_int at hr
 refine ret_start Tryz.func99 rfl 8 rfl rfl m hv fun a hF hS=>q_sr (q_s hF rfl fun a hF=>q_end (n_sq (q_seq (q_sr (q_m hF rfl fun a hF=>q_y (v:=(.bool s1.p.isNone)) hF hS (ex_eqNil U24 rfl rfl) fun a hF=>q_end (n_sq ?_))))))
 rcases bcase (s1.p.isNone) with hc1 | hc1
 ·refine q_cond_f hF rfl hc1 (q_skipc (n_sq (q_sr (q_do rfl fun _ hK=>wp_build0 (α:=Int) hF hS U24 inf3 rfl fun a w q2 s2 hF hS h2 _=>hK _ _ (q_m hF rfl fun a hF=>?_)))))
  obtain ⟨l_3,hl_3,hr⟩:=bindS hr
  refine q_do rfl fun _ hK=>wp_append hF hS h2 U24 inf3 rfl rfl rfl rfl (h1.vw hS.vis) rfl (by decide) hl_3 rfl fun a w q4 s4 hF hS h4=>hK _ _ (q_s hF rfl fun a hF=>q_end (n_sq (q_ret ?_)))
  obtain rfl:=someI hr
  exact ret_of hF hS rfl (.tmp rfl .nil) ⟨q4,s4,rfl,hS.sel [0] (by decide),h4⟩
 ·have hnhc1:=h1.nilE hc1
  have hr : (some ([] : List Int)) = some r:=by rw [hnhc1] at hr; exact hr
  refine q_cond_t hF rfl hc1 (q_sr (q_s hF rfl fun a hF=>q_end (n_sq (q_ret (r_sq ?_)))))
  obtain rfl:=someI hr
  exact ret_of hF hS rfl (.tmp rfl .nil) ⟨[],nilS,rfl,hS.sel [0] (by decide),(OwnL.nil (α:=Int) m 3)⟩

theorem c_impl_copyTable (p_t : impl_Table) (r : impl_Table) (hr : impl_copyTable p_t = some r) (w0 : World) (m : Mem) (hv : Vis m w0) (s1 : Sl) (h1 : Rd m s1 p_t.Vars) (s2 : Sl) (h2 : Rd m s2 p_t.Where) :
  Ret Tryz.prog 57 [(.agg #[(iV p_t.Level),s1.v,s2.v,(iV p_t.Sum)])] w0 (fun v w=>∃ (q0' : Piece) (q1' : Piece) (s0' : Sl) (s1' : Sl),v = (.agg #[(iV r.Level),s0'.v,s1'.v,(iV r.Sum)])∧St [] w0 w m [q0',q1']∧OwnL m 3 q0' s0' r.Vars∧OwnL m 3 q1' s1' r.Where):=by
 unfold impl_copyTable at hr
 refine ret_start Tryz.func57 rfl 12 rfl rfl m hv fun a hF hS=>q_sr (q_box (cs:=[(iV p_t.Level),s1.v,s2.v,(iV p_t.Sum)]) hF hS rfl rfl rfl fun a w b3 hF hS=>q_alloc (cs:=[(iV 0),nilS.v,nilS.v,(iV 0)]) hF hS rfl rfl rfl fun a w b4 hF hS=>q_end (n_sq (q_seq (e_region ⟨[7,9],[]⟩ mixed fun w' hw'=>?_))))
 have hS:=hS.below hw'
 refine e_P (v:=(pP b3 1)) 0 hF rfl (ex_fieldAddr U29 rfl sz24 rfl rfl) fun a hF=>e_X (v:=s1.v) 1 hF hS rfl (ex_load1 1 0 U24 rfl rfl rfl rfl) fun a hF=>e_P (v:=(pP b3 2)) 3 hF rfl (ex_fieldAddr U29 rfl sz24 rfl rfl) fun a hF=>e_X (v:=s2.v) 4 hF hS rfl (ex_load1 1 0 U24 rfl rfl rfl rfl) fun a hF=>e_one 2 (by kernel_rfl) ?_
 obtain ⟨t_11,ht_11,hr⟩:=bindS hr
 refine e_call (vs:=[s1.v]) hF hS rfl Tryz.func99 (by kernel_rfl) rfl rfl rfl (c_slices_Clone_int_int p_t.Vars t_11 ht_11 _ m hS.vis s1 h1) ?_
 rintro a w _ ⟨q13,s13,rfl,hR12,h13⟩ hF hS2
 have hS : St _ _ _ _ [q13,[⟨b4,[(iV 0),nilS.v,nilS.v,(iV 0)],29⟩],[⟨b3,[(iV p_t.Level),s1.v,s2.v,(iV p_t.Sum)],29⟩]]:=hS.joinF hR12
 refine e_P (v:=(pP b3 1)) 6 hF rfl (ex_fieldAddr U29 rfl sz24 rfl rfl) fun a hF=>e_one 5 (by kernel_rfl) ?_
 obtain ⟨t_17,ht_17,hr⟩:=bindS hr
 refine e_call (vs:=[s2.v]) hF hS rfl Tryz.func99 (by kernel_rfl) rfl rfl rfl (c_slices_Clone_int_int p_t.Where t_17 ht_17 _ m hS.vis s2 h2) ?_
 rintro a w _ ⟨q19,s19,rfl,hR18,h19⟩ hF hS2
 have hS : St _ _ _ _ [q19,q13,[⟨b4,[(iV 0),nilS.v,nilS.v,(iV 0)],29⟩],[⟨b3,[(iV p_t.Level),s1.v,s2.v,(iV p_t.Sum)],29⟩]]:=hS.joinF hR18
 refine e_one 7 (by kernel_rfl) (e_store (vs:=[s13.v]) (cs':=[(iV p_t.Level),s13.v,s2.v,(iV p_t.Sum)]) 3 0 hF hS rfl rfl sz24 rfl rfl rfl rfl rfl rfl rfl rfl fun a w hF hS=>⟨kpN,?_⟩)
 refine e_P (v:=(pP b3 2)) 8 hF rfl (ex_fieldAddr U29 rfl sz24 rfl rfl) fun a hF=>e_one 9 (by kernel_rfl) (e_store (vs:=[s19.v]) (cs':=[(iV p_t.Level),s13.v,s19.v,(iV p_t.Sum)]) 3 0 hF hS rfl rfl sz24 rfl rfl rfl rfl rfl rfl rfl rfl fun a w hF hS=>⟨kpN,?_⟩)
 refine e_end (by kernel_rfl) (n_sq ?_) _
 refine q_sr (q_y (v:=(.agg #[(iV p_t.Level),s13.v,s19.v,(iV p_t.Sum)])) hF hS (ex_loadA (vs:=[(iV p_t.Level),s13.v,s19.v,(iV p_t.Sum)]) 3 0 U29 rfl sz29 rfl rfl rfl rfl) fun a hF=>q_store (vs:=[(iV p_t.Level),s13.v,s19.v,(iV p_t.Sum)]) (cs':=[(iV p_t.Level),s13.v,s19.v,(iV p_t.Sum)]) 2 0 hF hS sz29 rfl rfl rfl rfl rfl rfl rfl rfl fun a w hF hS=>q_end (n_sq (q_ret ?_)))
 obtain rfl:=someI hr
 exact ret_of hF hS rfl (.cellA (us:=[(iV p_t.Level),s13.v,s19.v,(iV p_t.Sum)]) 2 0 U29 rfl sz29 rfl rfl rfl rfl .nil) ⟨q13,q19,s13,s19,rfl,hS.sel [1,0] (by decide),h13,h19⟩

theorem c_impl_normalTable (p_s : List impl_Variable) (p_t : impl_Table) (r : impl_Table) (hr : impl_normalTable p_s p_t = some r) (w0 : World) (m : Mem) (hv : Vis m w0) (s1 : Sl) (h1 : Rd m s1 p_s) (s2 : Sl) (h2 : Rd m s2 p_t.Vars) (s3 : Sl) (h3 : Rd m s3 p_t.Where) :
  Ret Tryz.prog 38 [s1.v,(.agg #[(iV p_t.Level),s2.v,s3.v,(iV p_t.Sum)])] w0 (fun v w=>∃ (q0' : Piece) (q1' : Piece) (s0' : Sl) (s1' : Sl),v = (.agg #[(iV r.Level),s0'.v,s1'.v,(iV r.Sum)])∧St [] w0 w m [q0',q1']∧OwnL m 3 q0' s0' r.Vars∧OwnL m 3 q1' s1' r.Where):=by
 unfold impl_normalTable at hr
 refine ret_start Tryz.func38 rfl 30 rfl rfl m hv fun a hF hS=>q_sr (q_box (cs:=[(iV p_t.Level),s2.v,s3.v,(iV p_t.Sum)]) hF hS rfl rfl rfl fun a w b4 hF hS=>q_alloc (cs:=[(iV 0),nilS.v,nilS.v,(iV 0)]) hF hS rfl rfl rfl fun a w b5 hF hS=>q_end (n_sq (q_sr (q_y (v:=(.agg #[(iV p_t.Level),s2.v,s3.v,(iV p_t.Sum)])) hF hS (ex_loadA (vs:=[(iV p_t.Level),s2.v,s3.v,(iV p_t.Sum)]) 1 0 U29 rfl sz29 rfl rfl rfl rfl) fun a hF=>?_))))
 obtain ⟨t_6,ht_6,hr⟩:=bindS hr
 refine q_call (vs:=[(.agg #[(iV p_t.Level),s2.v,s3.v,(iV p_t.Sum)])]) hF hS Tryz.func57 (by kernel_rfl) rfl rfl rfl (c_impl_copyTable p_t t_6 ht_6 _ m hS.vis s2 h2 s3 h3) ?_
 rintro a w _ ⟨q8,q9,s8,s9,rfl,hR7,h8,h9⟩ hF hS2
 have hS : St _ _ _ _ [q8,q9,[⟨b5,[(iV 0),nilS.v,nilS.v,(iV 0)],29⟩],[⟨b4,[(iV p_t.Level),s2.v,s3.v,(iV p_t.Sum)],29⟩]]:=hS.joinF hR7
 refine q_store (vs:=[(iV t_6.Level),s8.v,s9.v,(iV t_6.Sum)]) (cs':=[(iV t_6.Level),s8.v,s9.v,(iV t_6.Sum)]) 3 0 hF hS sz29 rfl rfl rfl rfl rfl rfl rfl rfl fun a w hF hS=>q_end (n_sq (q_seq (q_sr (q_y (v:=(pP b4 2)) hF hS (ex_fieldAddr U29 rfl sz24 rfl rfl) fun a hF=>q_y (v:=s9.v) hF hS (ex_load1 3 0 U24 rfl rfl rfl rfl) fun a hF=>q_y (v:=(iV (goLen t_6.Where))) hF hS (ex_len U24 rfl h9.len) fun a hF=>q_m hF rfl fun a hF=>q_end (n_sq (q_block ?_))))))
 obtain ⟨t_25,hl1,hr⟩:=bindS hr
 refine q_loop (fun (s : impl_Table × Int) a w=>∃ (q12 : Piece),∃ t_10,∃ t_13,s = (t_10,t_13)∧Fr a 30 [(0,s1.v),(3,(pP b4 0)),(4,(pP b5 0)),(10,s9.v),(11,(iV (goLen t_6.Where))),(12,(iV t_13))]∧St [] w0 w m [q12,q8,[⟨b5,[(iV 0),nilS.v,nilS.v,(iV 0)],29⟩],[⟨b4,[(iV t_10.Level),s8.v,s9.v,(iV t_10.Sum)],29⟩]]∧OwnL m 3 q8 s8 t_10.Vars∧t_10.Vars = t_6.Vars∧OwnL m 3 q12 s9 t_10.Where) (fun (t_25 : impl_Table) e a w=>∃ (q27 : Piece),e = .exit 0∧Fr a 30 [(3,(pP b4 0)),(4,(pP b5 0))]∧St [] w0 w m [q8,q27,[⟨b5,[(iV 0),nilS.v,nilS.v,(iV 0)],29⟩],[⟨b4,[(iV t_25.Level),s8.v,s9.v,(iV t_25.Sum)],29⟩]]∧OwnL m 3 q8 s8 t_25.Vars∧t_25.Vars = t_6.Vars∧OwnL m 3 q27 s9 t_25.Where) hl1 ⟨q9,_,_,rfl,hF.sub ⟨rfl,rfl,rfl,rfl,rfl,rfl,trivial⟩,hS.sel [1,0,2,3] (by decide),h8,rfl,h9⟩ ?_ ?_
 ·clear hF hS
  rintro s a w st ⟨q12,t_10,t_13,rfl,hF,hS,h11,h11k,h12⟩ hb1
  unfold impl_normalTable_l1 at hb1
  refine q_sr (q_y (v:=(.bool (decide (t_13 < (goLen t_6.Where))))) hF hS (ex_ibin rfl rfl rfl) fun a hF=>q_end (n_sq (q_seq ?_)))
  rcases bcase (decide (t_13 < (goLen t_6.Where))) with hc2 | hc2
  ·have hb1:=cond_f hc2 hb1
   refine q_cond_f hF rfl hc2 (q_exit (x_sq ?_))
   obtain rfl:=someI hb1
   exact ⟨nofun,.inl ⟨q12,rfl,hF.sub ⟨rfl,rfl,trivial⟩,hS.sel [1,0,2,3] (by decide),h11,h11k,h12⟩⟩
  ·have hb1:=cond_t hc2 hb1
   refine q_cond_t hF rfl hc2 (q_skipc (n_sq (q_seq (q_block (q_sr (q_m hF rfl fun a hF=>?_))))))
   obtain ⟨e_14,he_14,hb1⟩:=bindS hb1
   obtain ⟨vs15,at15,d15⟩:=h12.at he_14 1 rfl
   obtain rfl : vs15 = [(iV e_14)]:=d15
   refine q_y (v:=(elP s9 (t_13.toNat * 1))) hF hS (ex_indexAddr U24 sz3 rfl rfl (h12.idx he_14)) fun a hF=>q_y (v:=(iV e_14)) hF hS (ex_loadE1 0 U3 rfl rfl (at15.at 0 rfl) rfl rfl) fun a hF=>q_s hF rfl fun a hF=>q_s hF rfl fun a hF=>q_end (n_sq (q_sr (q_m hF rfl fun a hF=>q_m hF rfl fun a hF=>q_m hF rfl fun a hF=>?_)))
   obtain ⟨e_16,he_16,hb1⟩:=bindS hb1
   obtain ⟨vs17,at17,d17⟩:=h1.at he_16 2 rfl
   obtain rfl : vs17 = [(strV e_16.Name),(iV e_16.Levels)]:=d17
   refine q_y (v:=(elP s1 (t_13.toNat * 2))) hF hS (ex_indexAddr U27 sz95 rfl rfl (h1.idx he_16)) fun a hF=>q_y (v:=(.agg #[(strV e_16.Name),(iV e_16.Levels)])) hF hS (ex_loadEA (us:=[(strV e_16.Name),(iV e_16.Levels)]) 0 U95 rfl sz95 rfl ((at17).at) rfl rfl rfl) fun a hF=>?_
   obtain ⟨t_18,ht_18,hb1⟩:=bindS hb1
   refine q_call (vs:=[(.agg #[(strV e_16.Name),(iV e_16.Levels)])]) hF hS Tryz.func90 (by kernel_rfl) rfl rfl rfl (c_impl_fullSet e_16 t_18 ht_18 _ m hS.vis) ?_
   rintro a w _ rfl hF hS
   refine q_y (v:=(.bool (e_14 == t_18))) hF hS (ex_ibin rfl rfl rfl) fun a hF=>q_end (n_sq ?_)
   obtain ⟨t_22,hj3,hb1⟩:=bindS hb1
   refine q_join (fun a w=>∃ (q24 : Piece),Fr a 30 [(0,s1.v),(3,(pP b4 0)),(4,(pP b5 0)),(10,s9.v),(11,(iV (goLen t_6.Where))),(12,(iV t_13))]∧St [] w0 w m [q8,q24,[⟨b5,[(iV 0),nilS.v,nilS.v,(iV 0)],29⟩],[⟨b4,[(iV t_22.Level),s8.v,s9.v,(iV t_22.Sum)],29⟩]]∧OwnL m 3 q8 s8 t_22.Vars∧t_22.Vars = t_6.Vars∧OwnL m 3 q24 s9 t_22.Where) ?_ ?_
   ·rcases bcase (e_14 == t_18) with hc4 | hc4
    ·have hj3:=cond_f hc4 hj3
     refine q_cond_f hF rfl hc4 (q_skipc (n_jn ?_))
     obtain rfl:=someI hj3
     exact ⟨q12,hF.sub ⟨rfl,rfl,rfl,rfl,rfl,rfl,trivial⟩,hS.sel [1,0,2,3] (by decide),h11,h11k,h12⟩
    ·have hj3:=cond_t hc4 hj3
     refine q_cond_t hF rfl hc4 (q_region (q_y (v:=(pP b4 2)) hF hS (ex_fieldAddr U29 rfl sz24 rfl rfl) fun a hF=>q_y (v:=s9.v) hF hS (ex_load1 3 0 U24 rfl rfl rfl rfl) fun a hF=>q_m hF rfl fun a hF=>?_))
     obtain ⟨e_19,he_19,hj3⟩:=bindS hj3
     obtain ⟨vs20,at20,d20⟩:=h12.at he_19 1 rfl
     obtain rfl : vs20 = [(iV e_19)]:=d20
     refine q_y (v:=(elP s9 (t_13.toNat * 1))) hF hS (ex_indexAddr U24 sz3 rfl rfl (h12.idx he_19)) fun a hF=>q_do rfl fun _ hK=>wp_storeE (e':=0) (us:=[(iV 0)]) (vs:=[(iV e_19)]) 0 hF hS h12 sz3 rfl rfl rfl rfl rfl rfl rfl he_19 at20 rfl rfl rfl fun w q21 hS h21=>hK _ _ (q_end (n_jn ?_))
     obtain rfl:=someI hj3
     exact ⟨q21,hF.sub ⟨rfl,rfl,rfl,rfl,rfl,rfl,trivial⟩,hS.sel [1,0,2,3] (by decide),h11,h11k,h21⟩
   ·rintro a w ⟨q24,hF,hS,h23,h23k,h24⟩
    refine n_ib (n_sq ?_)
    refine q_region (q_y (v:=(iV (w64 (t_13 + 1)))) hF hS (ex_ibin rfl rfl rfl) fun a hF=>q_m hF rfl fun a hF=>q_end ?_)
    obtain rfl:=someI hb1
    exact ⟨rfl,q24,_,_,rfl,hF.sub ⟨rfl,rfl,rfl,rfl,rfl,rfl,trivial⟩,hS.sel [1,0,2,3] (by decide),h23,h23k,h24⟩
 ·rintro e a w ⟨q27,rfl,hF,hS,h26,h26k,h27⟩
  refine x_ib (n_sq ?_)
  refine q_sr (q_y (v:=(.agg #[(iV t_25.Level),s8.v,s9.v,(iV t_25.Sum)])) hF hS (ex_loadA (vs:=[(iV t_25.Level),s8.v,s9.v,(iV t_25.Sum)]) 3 0 U29 rfl sz29 rfl rfl rfl rfl) fun a hF=>q_store (vs:=[(iV t_25.Level),s8.v,s9.v,(iV t_25.Sum)]) (cs':=[(iV t_25.Level),s8.v,s9.v,(iV t_25.Sum)]) 2 0 hF hS sz29 rfl rfl rfl rfl rfl rfl rfl rfl fun a w hF hS=>q_end (n_sq (q_ret ?_)))
  obtain rfl:=someI hr
  exact ret_of hF hS rfl (.cellA (us:=[(iV t_25.Level),s8.v,s9.v,(iV t_25.Sum)]) 2 0 U29 rfl sz29 rfl rfl rfl rfl .nil) ⟨q8,q27,s8,s9,rfl,hS.sel [0,1] (by decide),h26,h27⟩

theorem c_slices_Equal_int_int (p_s1 : List Int) (p_s2 : List Int) (r : Bool) (hr : slices_Equal_int_int p_s1 p_s2 = some r) (w0 : World) (m : Mem) (hv : Vis m w0) (s1 : Sl) (h1 : Rd m s1 p_s1) (s2 : Sl) (h2 : Rd m s2 p_s2) :
  Ret Tryz.prog 91 [s1.v,s2.v] w0 (fun v _=>v = (.bool r)):=by
 unfold slices_Equal_int_int at hr
 refine ret_start Tryz.func91 rfl 26 rfl rfl m hv fun a hF hS=>q_sr (q_s hF rfl fun a hF=>q_end (n_sq (q_seq (q_sr (q_m hF rfl fun a hF=>q_y (v:=(iV (goLen p_s1))) hF hS (ex_len U24 rfl h1.len) fun a hF=>q_m hF rfl fun a hF=>q_y (v:=(iV (goLen p_s2))) hF hS (ex_len U24 rfl h2.len) fun a hF=>q_y (v:=(.bool ((goLen p_s1) != (goLen p_s2)))) hF hS (ex_ibin rfl rfl rfl) fun a hF=>q_end (n_sq ?_))))))
 rcases bcase ((goLen p_s1) != (goLen p_s2)) with hc1 | hc1
 ·have hr:=cond_f hc1 hr
  refine q_cond_f hF rfl hc1 (q_skipc (n_sq (q_seq (q_sr (q_m hF rfl fun a hF=>q_y (v:=(iV (goLen p_s1))) hF hS (ex_len U24 rfl h1.len) fun a hF=>q_m hF rfl fun a hF=>q_end (n_sq (q_block ?_)))))))
  obtain ⟨o2,hl2,hr⟩:=bindS hr
  refine q_loop (fun (t_3 : Int) a w=>Fr a 26 [(0,s1.v),(1,s2.v),(12,(iV (goLen p_s1))),(13,(iV t_3))]∧St [] w0 w m []) (fun (o : (Unit) ⊕ (Bool)) e a w=>o = .inl ()∧e = .exit 0∧Fr a 26 []∧St [] w0 w m []) hl2 ⟨hF.sub ⟨rfl,rfl,rfl,rfl,trivial⟩,hS⟩ ?_ ?_
  ·clear hF hS
   rintro t_3 a w st ⟨hF,hS⟩ hb2
   unfold slices_Equal_int_int_l1 at hb2
   refine q_sr (q_y (v:=(.bool (decide (t_3 < (goLen p_s1))))) hF hS (ex_ibin rfl rfl rfl) fun a hF=>q_end (n_sq (q_seq ?_)))
   rcases bcase (decide (t_3 < (goLen p_s1))) with hc3 | hc3
   ·have hb2:=cond_f hc3 hb2
    refine q_cond_f hF rfl hc3 (q_exit (x_sq ?_))
    obtain rfl:=someI hb2
    exact ⟨nofun,.inl ⟨rfl,rfl,hF.sub trivial,hS⟩⟩
   ·have hb2:=cond_t hc3 hb2
    refine q_cond_t hF rfl hc3 (q_skipc (n_sq (q_seq (q_block (q_sr (q_m hF rfl fun a hF=>q_s hF rfl fun a hF=>q_end (n_sq (q_seq (e_region ⟨[],[]⟩ mixed fun w' hw'=>?_)))))))))
    have hS:=hS.below hw'
    refine e_P (v:=s1.v) 0 hF rfl (ex_move rfl) fun a hF=>e_P (v:=(iV t_3)) 1 hF rfl (ex_move rfl) fun a hF=>?_
    obtain ⟨e_4,he_4,hb2⟩:=bindS hb2
    obtain ⟨vs5,at5,d5⟩:=h1.at he_4 1 rfl
    obtain rfl : vs5 = [(iV e_4)]:=d5
    refine e_P (v:=(elP s1 (t_3.toNat * 1))) 2 hF rfl (ex_indexAddr U24 sz3 rfl rfl (h1.idx he_4)) fun a hF=>e_X (v:=(iV e_4)) 3 hF hS rfl (ex_loadE1 0 U3 rfl rfl ((at5).at) rfl rfl) fun a hF=>e_P (v:=s2.v) 4 hF rfl (ex_move rfl) fun a hF=>e_P (v:=(iV t_3)) 5 hF rfl (ex_move rfl) fun a hF=>?_
    obtain ⟨e_6,he_6,hb2⟩:=bindS hb2
    obtain ⟨vs7,at7,d7⟩:=h2.at he_6 1 rfl
    obtain rfl : vs7 = [(iV e_6)]:=d7
    refine e_P (v:=(elP s2 (t_3.toNat * 1))) 6 hF rfl (ex_indexAddr U24 sz3 rfl rfl (h2.idx he_6)) fun a hF=>e_X (v:=(iV e_6)) 7 hF hS rfl (ex_loadE1 0 U3 rfl rfl ((at7).at) rfl rfl) fun a hF=>e_P (v:=(.bool (e_4 != e_6))) 8 hF rfl (ex_ibin rfl rfl rfl) fun a hF=>e_end (by kernel_rfl) (n_sq ?_) _
    rcases bcase (e_4 != e_6) with hc4 | hc4
    ·have hb2:=cond_f hc4 hb2
     refine q_cond_f hF rfl hc4 (q_skipc (n_ib (n_sq (q_region (q_y (v:=(iV (w64 (t_3 + 1)))) hF hS (ex_ibin rfl rfl rfl) fun a hF=>q_m hF rfl fun a hF=>q_end ?_)))))
     obtain rfl:=someI hb2
     exact ⟨rfl,hF.sub ⟨rfl,rfl,rfl,rfl,trivial⟩,hS⟩
    ·have hb2:=cond_t hc4 hb2
     refine q_cond_t hF rfl hc4 (q_sr (q_s hF rfl fun a hF=>q_end (n_sq (q_ret (r_ib (r_sq ?_))))))
     obtain rfl:=someI hb2
     refine ⟨nofun,.inr fun ho=>?_⟩
     subst ho
     refine r_ib (r_sq ?_)
     obtain rfl:=someI hr
     exact ret_of hF hS rfl (.tmp rfl .nil) rfl
  ·rintro e a w ⟨rfl,rfl,hF,hS⟩
   refine x_ib (n_sq ?_)
   refine q_sr (q_s hF rfl fun a hF=>q_end (n_sq (q_ret ?_)))
   obtain rfl:=someI hr
   exact ret_of hF hS rfl (.tmp rfl .nil) rfl
 ·have hr:=cond_t hc1 hr
  refine q_cond_t hF rfl hc1 (q_sr (q_s hF rfl fun a hF=>q_end (n_sq (q_ret (r_sq ?_)))))
  obtain rfl:=someI hr
  exact ret_of hF hS rfl (.tmp rfl .nil) rfl

theorem c_impl_sameMeaning (p_s : List impl_Variable) (p_a : impl_Table) (p_b : impl_Table) (r : Bool) (hr : impl_sameMeaning p_s p_a p_b = some r) (w0 : World) (m : Mem) (hv : Vis m w0) (s1 : Sl) (h1 : Rd m s1 p_s) (s2 : Sl) (h2 : Rd m s2 p_a.Vars) (s3 : Sl) (h3 : Rd m s3 p_a.Where) (s4 : Sl) (h4 : Rd m s4 p_b.Vars) (s5 : Sl) (h5 : Rd m s5 p_b.Where) :
  Ret Tryz.prog 39 [s1.v,(.agg #[(iV p_a.Level),s2.v,s3.v,(iV p_a.Sum)]),(.agg #[(iV p_b.Level),s4.v,s5.v,(iV p_b.Sum)])] w0 (fun v _=>v = (.bool r)):=by
 unfold impl_sameMeaning at hr
 refine ret_start Tryz.func39 rfl 39 rfl rfl m hv fun a hF hS=>q_sr (q_box (cs:=[(iV p_a.Level),s2.v,s3.v,(iV p_a.Sum)]) hF hS rfl rfl rfl fun a w b6 hF hS=>q_box (cs:=[(iV p_b.Level),s4.v,s5.v,(iV p_b.Sum)]) hF hS rfl rfl rfl fun a w b7 hF hS=>q_s hF rfl fun a hF=>q_end (n_sq (q_seq (e_region ⟨[6,7],[]⟩ mixed fun w' hw'=>?_))))
 have hS:=hS.below hw'
 refine e_P (v:=s1.v) 0 hF rfl (ex_move rfl) fun a hF=>e_X (v:=(.agg #[(iV p_a.Level),s2.v,s3.v,(iV p_a.Sum)])) 1 hF hS rfl (ex_loadA (vs:=[(iV p_a.Level),s2.v,s3.v,(iV p_a.Sum)]) 1 0 U29 rfl sz29 rfl rfl rfl rfl) fun a hF=>e_P (v:=s1.v) 3 hF rfl (ex_move rfl) fun a hF=>?_
 obtain ⟨t_16,ht_16,hr⟩:=bindS hr
 obtain ⟨t_20,ht_20,hr⟩:=bindS hr
 refine e_all [2,4] (by kernel_rfl) rfl ⟨?_,?_,trivial⟩
 ·refine e_call (vs:=[s1.v,(.agg #[(iV p_a.Level),s2.v,s3.v,(iV p_a.Sum)])]) hF hS rfl Tryz.func38 (by kernel_rfl) rfl rfl rfl (c_impl_normalTable p_s p_a t_16 ht_16 _ m hS.vis s1 h1 s2 h2 s3 h3) ?_
  rintro a w _ ⟨q18,q19,s18,s19,rfl,hR17,h18,h19⟩ hF hS2
  have hS : St _ _ _ _ [q18,q19,[⟨b7,[(iV p_b.Level),s4.v,s5.v,(iV p_b.Sum)],29⟩],[⟨b6,[(iV p_a.Level),s2.v,s3.v,(iV p_a.Sum)],29⟩]]:=hS.joinF hR17
  refine e_one 4 (by kernel_rfl) (e_lx (v:=(.agg #[(iV p_b.Level),s4.v,s5.v,(iV p_b.Sum)])) hF hS rfl (ex_loadA (vs:=[(iV p_b.Level),s4.v,s5.v,(iV p_b.Sum)]) 2 0 U29 rfl sz29 rfl rfl rfl rfl) rfl rfl fun a hF=>e_one 5 (by kernel_rfl) (e_call (vs:=[s1.v,(.agg #[(iV p_b.Level),s4.v,s5.v,(iV p_b.Sum)])]) hF hS rfl Tryz.func38 (by kernel_rfl) rfl rfl rfl (c_impl_normalTable p_s p_b t_20 ht_20 _ m hS.vis s1 h1 s4 h4 s5 h5) ?_))
  rintro a w _ ⟨q22,q23,s22,s23,rfl,hR21,h22,h23⟩ hF hS2
  have hS : St _ _ _ _ [q22,q23,q18,q19,[⟨b7,[(iV p_b.Level),s4.v,s5.v,(iV p_b.Sum)],29⟩],[⟨b6,[(iV p_a.Level),s2.v,s3.v,(iV p_a.Sum)],29⟩]]:=hS.joinF hR21
  refine e_one 6 (by kernel_rfl) (e_store (vs:=[(iV t_16.Level),s18.v,s19.v,(iV t_16.Sum)]) (cs':=[(iV t_16.Level),s18.v,s19.v,(iV t_16.Sum)]) 5 0 hF hS rfl rfl sz29 rfl rfl rfl rfl rfl rfl rfl rfl fun a w hF hS=>⟨kpN,?_⟩)
  refine e_one 7 (by kernel_rfl) (e_store (vs:=[(iV t_20.Level),s22.v,s23.v,(iV t_20.Sum)]) (cs':=[(iV t_20.Level),s22.v,s23.v,(iV t_20.Sum)]) 4 0 hF hS rfl rfl sz29 rfl rfl rfl rfl rfl rfl rfl rfl fun a w hF hS=>⟨kpN,?_⟩)
  refine e_end (by kernel_rfl) (n_sq ?_) _
  refine q_seq ?_
  obtain ⟨t_28,hj1,hr⟩:=bindS hr
  refine q_join (fun a w=>Fr a 39 [(6,(.bool t_28))]∧St [] w0 w m []) ?_ ?_
  ·refine q_region (q_y (v:=(pP b6 0)) hF hS (ex_fieldAddr U29 rfl sz3 rfl rfl) fun a hF=>q_y (v:=(iV t_16.Level)) hF hS (ex_load1 5 0 U3 rfl rfl rfl rfl) fun a hF=>q_y (v:=(pP b7 0)) hF hS (ex_fieldAddr U29 rfl sz3 rfl rfl) fun a hF=>q_y (v:=(iV t_20.Level)) hF hS (ex_load1 4 0 U3 rfl rfl rfl rfl) fun a hF=>q_y (v:=(.bool (t_16.Level == t_20.Level))) hF hS (ex_ibin rfl rfl rfl) fun a hF=>q_m hF rfl fun a hF=>?_)
   rcases bcase (t_16.Level == t_20.Level) with hc2 | hc2
   ·have hj1:=cond_f hc2 hj1
    refine q_k hF hc2 fun a hF=>q_k hF hc2 fun a hF=>q_k hF hc2 fun a hF=>q_k hF hc2 fun a hF=>q_k hF hc2 fun a hF=>q_y (v:=(.bool false)) hF hS (ex_pick_f rfl rfl hc2) fun a hF=>q_m hF rfl fun a hF=>q_k hF rfl fun a hF=>q_k hF rfl fun a hF=>q_k hF rfl fun a hF=>q_k hF rfl fun a hF=>q_k hF rfl fun a hF=>q_y (v:=(.bool false)) hF hS (ex_pick_f rfl rfl rfl) fun a hF=>q_m hF rfl fun a hF=>q_k hF rfl fun a hF=>q_k hF rfl fun a hF=>q_k hF rfl fun a hF=>q_k hF rfl fun a hF=>q_k hF rfl fun a hF=>q_y (v:=(.bool false)) hF hS (ex_pick_f rfl rfl rfl) fun a hF=>q_s hF rfl fun a hF=>q_end (n_jn ?_)
    obtain rfl:=someI hj1
    exact ⟨hF.sub ⟨rfl,trivial⟩,hS.mask [false,false,false,false,false,false]⟩
   ·have hj1:=cond_t hc2 hj1
    refine q_g (v:=(pP b6 3)) hF hS (ex_fieldAddr U29 rfl sz3 rfl rfl) hc2 fun a hF=>q_g (v:=(iV t_16.Sum)) hF hS (ex_load1 5 0 U3 rfl rfl rfl rfl) hc2 fun a hF=>q_g (v:=(pP b7 3)) hF hS (ex_fieldAddr U29 rfl sz3 rfl rfl) hc2 fun a hF=>q_g (v:=(iV t_20.Sum)) hF hS (ex_load1 4 0 U3 rfl rfl rfl rfl) hc2 fun a hF=>q_g (v:=(.bool (t_16.Sum == t_20.Sum))) hF hS (ex_ibin rfl rfl rfl) hc2 fun a hF=>q_y (v:=(.bool (t_16.Sum == t_20.Sum))) hF hS (ex_pick_t rfl rfl hc2) fun a hF=>q_m hF rfl fun a hF=>?_
    rcases bcase (t_16.Sum == t_20.Sum) with hc3 | hc3
    ·have hj1:=cond_f hc3 hj1
     refine q_k hF hc3 fun a hF=>q_k hF hc3 fun a hF=>q_k hF hc3 fun a hF=>q_k hF hc3 fun a hF=>q_k hF hc3 fun a hF=>q_y (v:=(.bool false)) hF hS (ex_pick_f rfl rfl hc3) fun a hF=>q_m hF rfl fun a hF=>q_k hF rfl fun a hF=>q_k hF rfl fun a hF=>q_k hF rfl fun a hF=>q_k hF rfl fun a hF=>q_k hF rfl fun a hF=>q_y (v:=(.bool false)) hF hS (ex_pick_f rfl rfl rfl) fun a hF=>q_s hF rfl fun a hF=>q_end (n_jn ?_)
     obtain rfl:=someI hj1
     exact ⟨hF.sub ⟨rfl,trivial⟩,hS.mask [false,false,false,false,false,false]⟩
    ·have hj1:=cond_t hc3 hj1
     refine q_g (v:=(pP b6 1)) hF hS (ex_fieldAddr U29 rfl sz24 rfl rfl) hc3 fun a hF=>q_g (v:=s18.v) hF hS (ex_load1 5 0 U24 rfl rfl rfl rfl) hc3 fun a hF=>q_g (v:=(pP b7 1)) hF hS (ex_fieldAddr U29 rfl sz24 rfl rfl) hc3 fun a hF=>q_g (v:=s22.v) hF hS (ex_load1 4 0 U24 rfl rfl rfl rfl) hc3 fun a hF=>?_
     obtain ⟨m25,hl25,hv25,hz25⟩:=hS.lend
     obtain ⟨t_24,ht_24,hj1⟩:=bindS hj1
     refine q_callg (vs:=[s18.v,s22.v]) hF hS (wanted_t hF rfl rfl rfl hc3) Tryz.func91 (by kernel_rfl) rfl rfl rfl (c_slices_Equal_int_int t_16.Vars t_20.Vars t_24 ht_24 _ m25 hv25 s18 (h18.froz hl25 (hz25 2 _ rfl)) s22 (h22.froz hl25 (hz25 0 _ rfl))) ?_
     rintro a w _ rfl hF hS
     refine q_y (v:=(.bool t_24)) hF hS (ex_pick_t rfl rfl hc3) fun a hF=>q_m hF rfl fun a hF=>?_
     rcases bcase (t_24) with hc4 | hc4
     ·have hj1:=cond_f hc4 hj1
      refine q_k hF hc4 fun a hF=>q_k hF hc4 fun a hF=>q_k hF hc4 fun a hF=>q_k hF hc4 fun a hF=>q_k hF hc4 fun a hF=>q_y (v:=(.bool false)) hF hS (ex_pick_f rfl rfl hc4) fun a hF=>q_s hF rfl fun a hF=>q_end (n_jn ?_)
      obtain rfl:=someI hj1
      exact ⟨hF.sub ⟨rfl,trivial⟩,hS.mask [false,false,false,false,false,false]⟩
     ·have hj1:=cond_t hc4 hj1
      refine q_g (v:=(pP b6 2)) hF hS (ex_fieldAddr U29 rfl sz24 rfl rfl) hc4 fun a hF=>q_g (v:=s19.v) hF hS (ex_load1 5 0 U24 rfl rfl rfl rfl) hc4 fun a hF=>q_g (v:=(pP b7 2)) hF hS (ex_fieldAddr U29 rfl sz24 rfl rfl) hc4 fun a hF=>q_g (v:=s23.v) hF hS (ex_load1 4 0 U24 rfl rfl rfl rfl) hc4 fun a hF=>?_
      obtain ⟨m27,hl27,hv27,hz27⟩:=hS.lend
      obtain ⟨t_26,ht_26,hj1⟩:=bindS hj1
      refine q_callg (vs:=[s19.v,s23.v]) hF hS (wanted_t hF rfl rfl rfl hc4) Tryz.func91 (by kernel_rfl) rfl rfl rfl (c_slices_Equal_int_int t_16.Where t_20.Where t_26 ht_26 _ m27 hv27 s19 (h19.froz hl27 (hz27 3 _ rfl)) s23 (h23.froz hl27 (hz27 1 _ rfl))) ?_
      rintro a w _ rfl hF hS
      refine q_y (v:=(.bool t_26)) hF hS (ex_pick_t rfl rfl hc4) fun a hF=>q_s hF rfl fun a hF=>q_end (n_jn ?_)
      obtain rfl:=someI hj1
      exact ⟨hF.sub ⟨rfl,trivial⟩,hS.mask [false,false,false,false,false,false]⟩
  ·rintro a w ⟨hF,hS⟩
   refine n_sq (q_ret ?_)
   obtain rfl:=someI hr
   exact ret_of hF hS rfl (.tmp rfl .nil) rfl
 ·refine e_lx (v:=(.agg #[(iV p_b.Level),s4.v,s5.v,(iV p_b.Sum)])) hF hS rfl (ex_loadA (vs:=[(iV p_b.Level),s4.v,s5.v,(iV p_b.Sum)]) 0 0 U29 rfl sz29 rfl rfl rfl rfl) rfl rfl fun a hF=>e_one 2 (by kernel_rfl) (e_call (vs:=[s1.v,(.agg #[(iV p_a.Level),s2.v,s3.v,(iV p_a.Sum)])]) hF hS rfl Tryz.func38 (by kernel_rfl) rfl rfl rfl (c_impl_normalTable p_s p_a t_16 ht_16 _ m hS.vis s1 h1 s2 h2 s3 h3) ?_)
  rintro a w _ ⟨q18,q19,s18,s19,rfl,hR17,h18,h19⟩ hF hS2
  have hS : St _ _ _ _ [q18,q19,[⟨b7,[(iV p_b.Level),s4.v,s5.v,(iV p_b.Sum)],29⟩],[⟨b6,[(iV p_a.Level),s2.v,s3.v,(iV p_a.Sum)],29⟩]]:=hS.joinF hR17
  refine e_one 5 (by kernel_rfl) (e_call (vs:=[s1.v,(.agg #[(iV p_b.Level),s4.v,s5.v,(iV p_b.Sum)])]) hF hS rfl Tryz.func38 (by kernel_rfl) rfl rfl rfl (c_impl_normalTable p_s p_b t_20 ht_20 _ m hS.vis s1 h1 s4 h4 s5 h5) ?_)
  rintro a w _ ⟨q22,q23,s22,s23,rfl,hR21,h22,h23⟩ hF hS2
  have hS : St _ _ _ _ [q22,q23,q18,q19,[⟨b7,[(iV p_b.Level),s4.v,s5.v,(iV p_b.Sum)],29⟩],[⟨b6,[(iV p_a.Level),s2.v,s3.v,(iV p_a.Sum)],29⟩]]:=hS.joinF hR21
  refine e_one 6 (by kernel_rfl) (e_store (vs:=[(iV t_16.Level),s18.v,s19.v,(iV t_16.Sum)]) (cs':=[(iV t_16.Level),s18.v,s19.v,(iV t_16.Sum)]) 5 0 hF hS rfl rfl sz29 rfl rfl rfl rfl rfl rfl rfl rfl fun a w hF hS=>⟨kpN,?_⟩)
  refine e_one 7 (by kernel_rfl) (e_store (vs:=[(iV t_20.Level),s22.v,s23.v,(iV t_20.Sum)]) (cs':=[(iV t_20.Level),s22.v,s23.v,(iV t_20.Sum)]) 4 0 hF hS rfl rfl sz29 rfl rfl rfl rfl rfl rfl rfl rfl fun a w hF hS=>⟨kpN,?_⟩)
  refine e_end (by kernel_rfl) (n_sq ?_) _
  refine q_seq ?_
  obtain ⟨t_33,hj5,hr⟩:=bindS hr
  refine q_join (fun a w=>Fr a 39 [(6,(.bool t_33))]∧St [] w0 w m []) ?_ ?_
  ·refine q_region (q_y (v:=(pP b6 0)) hF hS (ex_fieldAddr U29 rfl sz3 rfl rfl) fun a hF=>q_y (v:=(iV t_16.Level)) hF hS (ex_load1 5 0 U3 rfl rfl rfl rfl) fun a hF=>q_y (v:=(pP b7 0)) hF hS (ex_fieldAddr U29 rfl sz3 rfl rfl) fun a hF=>q_y (v:=(iV t_20.Level)) hF hS (ex_load1 4 0 U3 rfl rfl rfl rfl) fun a hF=>q_y (v:=(.bool (t_16.Level == t_20.Level))) hF hS (ex_ibin rfl rfl rfl) fun a hF=>q_m hF rfl fun a hF=>?_)
   rcases bcase (t_16.Level == t_20.Level) with hc6 | hc6
   ·have hj5:=cond_f hc6 hj5
    refine q_k hF hc6 fun a hF=>q_k hF hc6 fun a hF=>q_k hF hc6 fun a hF=>q_k hF hc6 fun a hF=>q_k hF hc6 fun a hF=>q_y (v:=(.bool false)) hF hS (ex_pick_f rfl rfl hc6) fun a hF=>q_m hF rfl fun a hF=>q_k hF rfl fun a hF=>q_k hF rfl fun a hF=>q_k hF rfl fun a hF=>q_k hF rfl fun a hF=>q_k hF rfl fun a hF=>q_y (v:=(.bool false)) hF hS (ex_pick_f rfl rfl rfl) fun a hF=>q_m hF rfl fun a hF=>q_k hF rfl fun a hF=>q_k hF rfl fun a hF=>q_k hF rfl fun a hF=>q_k hF rfl fun a hF=>q_k hF rfl fun a hF=>q_y (v:=(.bool false)) hF hS (ex_pick_f rfl rfl rfl) fun a hF=>q_s hF rfl fun a hF=>q_end (n_jn ?_)
    obtain rfl:=someI hj5
    exact ⟨hF.sub ⟨rfl,trivial⟩,hS.mask [false,false,false,false,false,false]⟩
   ·have hj5:=cond_t hc6 hj5
    refine q_g (v:=(pP b6 3)) hF hS (ex_fieldAddr U29 rfl sz3 rfl rfl) hc6 fun a hF=>q_g (v:=(iV t_16.Sum)) hF hS (ex_load1 5 0 U3 rfl rfl rfl rfl) hc6 fun a hF=>q_g (v:=(pP b7 3)) hF hS (ex_fieldAddr U29 rfl sz3 rfl rfl) hc6 fun a hF=>q_g (v:=(iV t_20.Sum)) hF hS (ex_load1 4 0 U3 rfl rfl rfl rfl) hc6 fun a hF=>q_g (v:=(.bool (t_16.Sum == t_20.Sum))) hF hS (ex_ibin rfl rfl rfl) hc6 fun a hF=>q_y (v:=(.bool (t_16.Sum == t_20.Sum))) hF hS (ex_pick_t rfl rfl hc6) fun a hF=>q_m hF rfl fun a hF=>?_
    rcases bcase (t_16.Sum == t_20.Sum) with hc7 | hc7
    ·have hj5:=cond_f hc7 hj5
     refine q_k hF hc7 fun a hF=>q_k hF hc7 fun a hF=>q_k hF hc7 fun a hF=>q_k hF hc7 fun a hF=>q_k hF hc7 fun a hF=>q_y (v:=(.bool false)) hF hS (ex_pick_f rfl rfl hc7) fun a hF=>q_m hF rfl fun a hF=>q_k hF rfl fun a hF=>q_k hF rfl fun a hF=>q_k hF rfl fun a hF=>q_k hF rfl fun a hF=>q_k hF rfl fun a hF=>q_y (v:=(.bool false)) hF hS (ex_pick_f rfl rfl rfl) fun a hF=>q_s hF rfl fun a hF=>q_end (n_jn ?_)
     obtain rfl:=someI hj5
     exact ⟨hF.sub ⟨rfl,trivial⟩,hS.mask [false,false,false,false,false,false]⟩
    ·have hj5:=cond_t hc7 hj5
     refine q_g (v:=(pP b6 1)) hF hS (ex_fieldAddr U29 rfl sz24 rfl rfl) hc7 fun a hF=>q_g (v:=s18.v) hF hS (ex_load1 5 0 U24 rfl rfl rfl rfl) hc7 fun a hF=>q_g (v:=(pP b7 1)) hF hS (ex_fieldAddr U29 rfl sz24 rfl rfl) hc7 fun a hF=>q_g (v:=s22.v) hF hS (ex_load1 4 0 U24 rfl rfl rfl rfl) hc7 fun a hF=>?_
     obtain ⟨m30,hl30,hv30,hz30⟩:=hS.lend
     obtain ⟨t_29,ht_29,hj5⟩:=bindS hj5
     refine q_callg (vs:=[s18.v,s22.v]) hF hS (wanted_t hF rfl rfl rfl hc7) Tryz.func91 (by kernel_rfl) rfl rfl rfl (c_slices_Equal_int_int t_16.Vars t_20.Vars t_29 ht_29 _ m30 hv30 s18 (h18.froz hl30 (hz30 2 _ rfl)) s22 (h22.froz hl30 (hz30 0 _ rfl))) ?_
     rintro a w _ rfl hF hS
     refine q_y (v:=(.bool t_29)) hF hS (ex_pick_t rfl rfl hc7) fun a hF=>q_m hF rfl fun a hF=>?_
     rcases bcase (t_29) with hc8 | hc8
     ·have hj5:=cond_f hc8 hj5
      refine q_k hF hc8 fun a hF=>q_k hF hc8 fun a hF=>q_k hF hc8 fun a hF=>q_k hF hc8 fun a hF=>q_k hF hc8 fun a hF=>q_y (v:=(.bool false)) hF hS (ex_pick_f rfl rfl hc8) fun a hF=>q_s hF rfl fun a hF=>q_end (n_jn ?_)
      obtain rfl:=someI hj5
      exact ⟨hF.sub ⟨rfl,trivial⟩,hS.mask [false,false,false,false,false,false]⟩
     ·have hj5:=cond_t hc8 hj5
      refine q_g (v:=(pP b6 2)) hF hS (ex_fieldAddr U29 rfl sz24 rfl rfl) hc8 fun a hF=>q_g (v:=s19.v) hF hS (ex_load1 5 0 U24 rfl rfl rfl rfl) hc8 fun a hF=>q_g (v:=(pP b7 2)) hF hS (ex_fieldAddr U29 rfl sz24 rfl rfl) hc8 fun a hF=>q_g (v:=s23.v) hF hS (ex_load1 4 0 U24 rfl rfl rfl rfl) hc8 fun a hF=>?_
      obtain ⟨m32,hl32,hv32,hz32⟩:=hS.lend
      obtain ⟨t_31,ht_31,hj5⟩:=bindS hj5
      refine q_callg (vs:=[s19.v,s23.v]) hF hS (wanted_t hF rfl rfl rfl hc8) Tryz.func91 (by kernel_rfl) rfl rfl rfl (c_slices_Equal_int_int t_16.Where t_20.Where t_31 ht_31 _ m32 hv32 s19 (h19.froz hl32 (hz32 3 _ rfl)) s23 (h23.froz hl32 (hz32 1 _ rfl))) ?_
      rintro a w _ rfl hF hS
      refine q_y (v:=(.bool t_31)) hF hS (ex_pick_t rfl rfl hc8) fun a hF=>q_s hF rfl fun a hF=>q_end (n_jn ?_)
      obtain rfl:=someI hj5
      exact ⟨hF.sub ⟨rfl,trivial⟩,hS.mask [false,false,false,false,false,false]⟩
  ·rintro a w ⟨hF,hS⟩
   refine n_sq (q_ret ?_)
   obtain rfl:=someI hr
   exact ret_of hF hS rfl (.tmp rfl .nil) rfl

theorem c_impl_MergePlans_1 (p_u : impl_Table) (p_x1 : List impl_Variable) (p_x2 : impl_Table) (r : Bool) (hr : impl_MergePlans_1 p_u p_x1 p_x2 = some r) (w0 : World) (m : Mem) (b_p_x1 : Nat) (b_p_x2 : Nat) (s1 : Sl) (h1 : Rd m s1 p_u.Vars) (s2 : Sl) (h2 : Rd m s2 p_u.Where) (s3 : Sl) (h3 : Rd m s3 p_x1) (s4 : Sl) (h4 : Rd m s4 p_x2.Vars) (s5 : Sl) (h5 : Rd m s5 p_x2.Where) (X : List Nat) (hS : St X w0 w0 m [[⟨b_p_x1,[s3.v],27⟩],[⟨b_p_x2,[(iV p_x2.Level),s4.v,s5.v,(iV p_x2.Sum)],29⟩]]) :
  RetX Tryz.prog 56 [(.agg #[(iV p_u.Level),s1.v,s2.v,(iV p_u.Sum)]),(pP b_p_x1 0),(pP b_p_x2 0)] w0 (fun v w=>v = (.bool r)∧St X w0 w m [[⟨b_p_x1,[s3.v],27⟩],[⟨b_p_x2,[(iV p_x2.Level),s4.v,s5.v,(iV p_x2.Sum)],29⟩]]):=by
 unfold impl_MergePlans_1 at hr
 refine ret_startX Tryz.func56 rfl 9 rfl rfl fun a hF=>q_sr (q_box (cs:=[(iV p_u.Level),s1.v,s2.v,(iV p_u.Sum)]) hF hS rfl rfl rfl fun a w b6 hF hS=>q_s hF rfl fun a hF=>q_end (n_sq (q_sr (q_y (v:=s3.v) hF hS (ex_load1 1 0 U27 rfl rfl rfl rfl) fun a hF=>q_y (v:=(.agg #[(iV p_x2.Level),s4.v,s5.v,(iV p_x2.Sum)])) hF hS (ex_loadA (vs:=[(iV p_x2.Level),s4.v,s5.v,(iV p_x2.Sum)]) 2 0 U29 rfl sz29 rfl rfl rfl rfl) fun a hF=>q_y (v:=(.agg #[(iV p_u.Level),s1.v,s2.v,(iV p_u.Sum)])) hF hS (ex_loadA (vs:=[(iV p_u.Level),s1.v,s2.v,(iV p_u.Sum)]) 0 0 U29 rfl sz29 rfl rfl rfl rfl) fun a hF=>?_))))
 obtain ⟨t_7,ht_7,hr⟩:=bindS hr
 refine q_call (vs:=[s3.v,(.agg #[(iV p_x2.Level),s4.v,s5.v,(iV p_x2.Sum)]),(.agg #[(iV p_u.Level),s1.v,s2.v,(iV p_u.Sum)])]) hF hS Tryz.func39 (by kernel_rfl) rfl rfl rfl (c_impl_sameMeaning p_x1 p_x2 p_u t_7 ht_7 _ m hS.vis s3 h3 s4 h4 s5 h5 s1 h1 s2 h2) ?_
 rintro a w _ rfl hF hS
 refine q_s hF rfl fun a hF=>q_end (n_sq (q_ret ?_))
 obtain rfl:=someI hr
 exact ret_ofX hF hS rfl (.tmp rfl .nil) ⟨rfl,hS.sel [1,2] (by decide)⟩

theorem c_slices_IndexFunc_impl_Table_impl_Table_of_impl_MergePlans_1 (p_s : List impl_Table) (p_x200 : List impl_Variable) (p_x201 : impl_Table) (r : Int) (hr : slices_IndexFunc_impl_Table_impl_Table_of_impl_MergePlans_1 p_s p_x200 p_x201 = some r) (w0 : World) (m : Mem) (b_p_x200 : Nat) (b_p_x201 : Nat) (s1 : Sl) (h1 : Rd m s1 p_s) (s2 : Sl) (h2 : Rd m s2 p_x200) (s3 : Sl) (h3 : Rd m s3 p_x201.Vars) (s4 : Sl) (h4 : Rd m s4 p_x201.Where) (X : List Nat) (hS : St X w0 w0 m [[⟨b_p_x200,[s2.v],27⟩],[⟨b_p_x201,[(iV p_x201.Level),s3.v,s4.v,(iV p_x201.Sum)],29⟩]]) :
  RetX Tryz.prog 98 [s1.v,(.func (.func 56) #[] #[(pP b_p_x200 0),(pP b_p_x201 0)])] w0 (fun v w=>v = (iV r)∧St X w0 w m [[⟨b_p_x200,[s2.v],27⟩],[⟨b_p_x201,[(iV p_x201.Level),s3.v,s4.v,(iV p_x201.Sum)],29⟩]]):=by
 unfold slices_IndexFunc_impl_Table_impl_Table_of_impl_MergePlans_1 at hr
 refine ret_startX Tryz.func98 rfl 19 rfl rfl fun a hF=>q_sr (q_s hF rfl fun a hF=>q_end (n_sq (q_seq (q_sr (q_m hF rfl fun a hF=>q_y (v:=(iV (goLen p_s))) hF hS (ex_len U44 rfl h1.len) fun a hF=>q_m hF rfl fun a hF=>q_end (n_sq (q_block ?_)))))))
 obtain ⟨o1,hl1,hr⟩:=bindS hr
 refine q_loop (fun (t_5 : Int) a w=>Fr a 19 [(0,s1.v),(1,(.func (.func 56) #[] #[(pP b_p_x200 0),(pP b_p_x201 0)])),(7,(iV (goLen p_s))),(8,(iV t_5))]∧St X w0 w m [[⟨b_p_x200,[s2.v],27⟩],[⟨b_p_x201,[(iV p_x201.Level),s3.v,s4.v,(iV p_x201.Sum)],29⟩]]) (fun (o : (Unit) ⊕ (Int)) e a w=>o = .inl ()∧e = .exit 0∧Fr a 19 []∧St X w0 w m [[⟨b_p_x200,[s2.v],27⟩],[⟨b_p_x201,[(iV p_x201.Level),s3.v,s4.v,(iV p_x201.Sum)],29⟩]]) hl1 ⟨hF.sub ⟨rfl,rfl,rfl,rfl,trivial⟩,hS⟩ ?_ ?_
 ·clear hF hS
  rintro t_5 a w st ⟨hF,hS⟩ hb1
  unfold slices_IndexFunc_impl_Table_impl_Table_of_impl_MergePlans_1_l1 at hb1
  refine q_sr (q_y (v:=(.bool (decide (t_5 < (goLen p_s))))) hF hS (ex_ibin rfl rfl rfl) fun a hF=>q_end (n_sq (q_seq ?_)))
  rcases bcase (decide (t_5 < (goLen p_s))) with hc2 | hc2
  ·have hb1:=cond_f hc2 hb1
   refine q_cond_f hF rfl hc2 (q_exit (x_sq ?_))
   obtain rfl:=someI hb1
   exact ⟨nofun,.inl ⟨rfl,rfl,hF.sub trivial,hS⟩⟩
  ·have hb1:=cond_t hc2 hb1
   refine q_cond_t hF rfl hc2 (q_skipc (n_sq (q_seq (q_block (q_sr (q_m hF rfl fun a hF=>q_s hF rfl fun a hF=>q_end (n_sq (q_sr (q_m hF rfl fun a hF=>q_m hF rfl fun a hF=>q_m hF rfl fun a hF=>?_)))))))))
   obtain ⟨e_6,he_6,hb1⟩:=bindS hb1
   obtain ⟨vs7,at7,d7⟩:=h1.at he_6 4 rfl
   obtain ⟨s8,s9,rfl,h8,h9⟩ : ∃ s8 s9 : Sl,vs7 = [(iV e_6.Level),s8.v,s9.v,(iV e_6.Sum)]∧Rd m s8 e_6.Vars∧Rd m s9 e_6.Where:=d7
   refine q_y (v:=(elP s1 (t_5.toNat * 4))) hF hS (ex_indexAddr U44 sz29 rfl rfl (h1.idx he_6)) fun a hF=>q_y (v:=(.agg #[(iV e_6.Level),s8.v,s9.v,(iV e_6.Sum)])) hF hS (ex_loadEA (us:=[(iV e_6.Level),s8.v,s9.v,(iV e_6.Sum)]) 0 U29 rfl sz29 rfl ((at7).at) rfl rfl rfl) fun a hF=>?_
   have hS10 : St _ _ _ _ ([[⟨b_p_x200,[s2.v],27⟩],[⟨b_p_x201,[(iV p_x201.Level),s3.v,s4.v,(iV p_x201.Sum)],29⟩]]++[]):=hS
   have hE10:=hS10.enter
   obtain ⟨t_11,ht_11,hb1⟩:=bindS hb1
   refine q_do rfl fun _ hK=>wp_callV (vs:=[(.agg #[(iV e_6.Level),s8.v,s9.v,(iV e_6.Sum)])]) (cap:=[(pP b_p_x200 0),(pP b_p_x201 0)]) hF rfl Tryz.func56 (by kernel_rfl) rfl rfl rfl (c_impl_MergePlans_1 e_6 p_x200 p_x201 t_11 ht_11 _ m b_p_x200 b_p_x201 s8 h8 s9 h9 s2 h2 s3 h3 s4 h4 _ hE10) fun a w _ hR hF=>hK _ _ ?_
   obtain ⟨rfl,hR10⟩:=hR
   have hS : St _ _ _ _ [[⟨b_p_x200,[s2.v],27⟩],[⟨b_p_x201,[(iV p_x201.Level),s3.v,s4.v,(iV p_x201.Sum)],29⟩]]:=hS10.leaveF hR10
   refine q_end (n_sq ?_)
   rcases bcase (t_11) with hc3 | hc3
   ·have hb1:=cond_f hc3 hb1
    refine q_cond_f hF rfl hc3 (q_skipc (n_ib (n_sq (q_region (q_y (v:=(iV (w64 (t_5 + 1)))) hF hS (ex_ibin rfl rfl rfl) fun a hF=>q_m hF rfl fun a hF=>q_end ?_)))))
    obtain rfl:=someI hb1
    exact ⟨rfl,hF.sub ⟨rfl,rfl,rfl,rfl,trivial⟩,hS⟩
   ·have hb1:=cond_t hc3 hb1
    refine q_cond_t hF rfl hc3 (q_sr (q_m hF rfl fun a hF=>q_s hF rfl fun a hF=>q_end (n_sq (q_ret (r_ib (r_sq ?_))))))
    obtain rfl:=someI hb1
    refine ⟨nofun,.inr fun ho=>?_⟩
    subst ho
    refine r_ib (r_sq ?_)
    obtain rfl:=someI hr
    exact ret_ofX hF hS rfl (.tmp rfl .nil) ⟨rfl,hS.sel [0,1] (by decide)⟩
 ·rintro e a w ⟨rfl,rfl,hF,hS⟩
  refine x_ib (n_sq ?_)
  refine q_sr (q_s hF rfl fun a hF=>q_end (n_sq (q_ret ?_)))
  obtain rfl:=someI hr
  exact ret_ofX hF hS rfl (.tmp rfl .nil) ⟨rfl,hS.sel [0,1] (by decide)⟩

theorem c_slices_ContainsFunc_impl_Table_impl_Table_of_impl_MergePlans_1 (p_s : List impl_Table) (p_x200 : List impl_Variable) (p_x201 : impl_Table) (r : Bool) (hr : slices_ContainsFunc_impl_Table_impl_Table_of_impl_MergePlans_1 p_s p_x200 p_x201 = some r) (w0 : World) (m : Mem) (b_p_x200 : Nat) (b_p_x201 : Nat) (s1 : Sl) (h1 : Rd m s1 p_s) (s2 : Sl) (h2 : Rd m s2 p_x200) (s3 : Sl) (h3 : Rd m s3 p_x201.Vars) (s4 : Sl) (h4 : Rd m s4 p_x201.Where) (X : List Nat) (hS : St X w0 w0 m [[⟨b_p_x200,[s2.v],27⟩],[⟨b_p_x201,[(iV p_x201.Level),s3.v,s4.v,(iV p_x201.Sum)],29⟩]]) :
  RetX Tryz.prog 55 [s1.v,(.func (.func 56) #[] #[(pP b_p_x200 0),(pP b_p_x201 0)])] w0 (fun v w=>v = (.bool r)∧St X w0 w m [[⟨b_p_x200,[s2.v],27⟩],[⟨b_p_x201,[(iV p_x201.Level),s3.v,s4.v,(iV p_x201.Sum)],29⟩]]):=by
 unfold slices_ContainsFunc_impl_Table_impl_Table_of_impl_MergePlans_1 at hr
 refine ret_startX Tryz.func55 rfl 9 rfl rfl fun a hF=>q_sr (q_s hF rfl fun a hF=>q_end (n_sq (q_sr (q_m hF rfl fun a hF=>q_m hF rfl fun a hF=>?_))))
 have hS5 : St _ _ _ _ ([[⟨b_p_x200,[s2.v],27⟩],[⟨b_p_x201,[(iV p_x201.Level),s3.v,s4.v,(iV p_x201.Sum)],29⟩]]++[]):=hS
 have hE5:=hS5.enter
 obtain ⟨t_6,ht_6,hr⟩:=bindS hr
 refine q_do rfl fun _ hK=>wp_callX (vs:=[s1.v,(.func (.func 56) #[] #[(pP b_p_x200 0),(pP b_p_x201 0)])]) hF Tryz.func98 (by kernel_rfl) rfl rfl rfl (c_slices_IndexFunc_impl_Table_impl_Table_of_impl_MergePlans_1 p_s p_x200 p_x201 t_6 ht_6 _ m b_p_x200 b_p_x201 s1 h1 s2 h2 s3 h3 s4 h4 _ hE5) fun a w _ hR hF=>hK _ _ ?_
 obtain ⟨rfl,hR5⟩:=hR
 have hS : St _ _ _ _ [[⟨b_p_x200,[s2.v],27⟩],[⟨b_p_x201,[(iV p_x201.Level),s3.v,s4.v,(iV p_x201.Sum)],29⟩]]:=hS5.leaveF hR5
 refine q_y (v:=(.bool (decide (0 ≤ t_6)))) hF hS (ex_ibin rfl rfl rfl) fun a hF=>q_s hF rfl fun a hF=>q_end (n_sq (q_ret ?_))
 obtain rfl:=someI hr
 exact ret_ofX hF hS rfl (.tmp rfl .nil) ⟨rfl,hS.sel [0,1] (by decide)⟩

theorem c_impl_MergePlans (p_g : impl_Geo) (p_s : List impl_Variable) (p_a : List impl_Table) (p_b : List impl_Table) (r : (List impl_Table) × Bool) (hr : impl_MergePlans p_g p_s p_a p_b = some r) (w0 : World) (m : Mem) (hv : Vis m w0) (s1 : Sl) (h1 : Rd m s1 p_g.Parents) (s2 : Sl) (h2 : Rd m s2 p_s) (s3 : Sl) (h3 : Rd m s3 p_a) (s4 : Sl) (h4 : Rd m s4 p_b) :
  Ret Tryz.prog 25 [(.agg #[s1.v]),s2.v,s3.v,s4.v] w0 (fun v w=>∃ (m' : Mem) (q0' : Piece) (s0' : Sl),v = (.tuple #[s0'.v,(.bool r.2)])∧MLe [] w0.heap.size m m'∧St [] w0 w m' [q0']∧OwnL m' 29 q0' s0' r.1):=by
 unfold impl_MergePlans at hr
 refine ret_start Tryz.func25 rfl 48 rfl rfl m hv fun a hF hS=>q_sr (q_box (cs:=[s1.v]) hF hS rfl rfl rfl fun a w b5 hF hS=>q_box (cs:=[s2.v]) hF hS rfl rfl rfl fun a w b6 hF hS=>q_s hF rfl fun a hF=>q_s hF rfl fun a hF=>q_end (n_sq (q_seq (q_seq ?_))))
 obtain ⟨t_9,hj1,hr⟩:=bindS hr
 refine q_join (fun a w=>Fr a 48 [(2,s3.v),(3,s4.v),(5,(pP b6 0)),(24,(.bool t_9))]∧St [] w0 w m [[⟨b6,[s2.v],27⟩]]) ?_ ?_
 ·refine q_region (q_y (v:=(.agg #[s1.v])) hF hS (ex_loadA (vs:=[s1.v]) 1 0 U26 rfl sz26 rfl rfl rfl rfl) fun a hF=>q_y (v:=s2.v) hF hS (ex_load1 0 0 U27 rfl rfl rfl rfl) fun a hF=>q_m hF rfl fun a hF=>?_)
  obtain ⟨t_7,ht_7,hj1⟩:=bindS hj1
  refine q_call (vs:=[(.agg #[s1.v]),s2.v,s3.v]) hF hS Tryz.func49 (by kernel_rfl) rfl rfl rfl (c_impl_isPlan p_g p_s p_a t_7 ht_7 _ m hS.vis s1 h1 s2 h2 s3 h3) ?_
  rintro a w _ rfl hF hS
  refine q_y (v:=(.bool (!t_7))) hF hS (ex_not rfl) fun a hF=>q_m hF rfl fun a hF=>?_
  rcases bcase (!t_7) with hc2 | hc2
  ·have hj1:=cond_f hc2 hj1
   refine q_g (v:=(.agg #[s1.v])) hF hS (ex_loadA (vs:=[s1.v]) 1 0 U26 rfl sz26 rfl rfl rfl rfl) hc2 fun a hF=>q_g (v:=s2.v) hF hS (ex_load1 0 0 U27 rfl rfl rfl rfl) hc2 fun a hF=>q_g (v:=s4.v) hF hS (ex_move rfl) hc2 fun a hF=>?_
   obtain ⟨t_8,ht_8,hj1⟩:=bindS hj1
   refine q_callg (vs:=[(.agg #[s1.v]),s2.v,s4.v]) hF hS (wanted_t hF rfl rfl rfl hc2) Tryz.func49 (by kernel_rfl) rfl rfl rfl (c_impl_isPlan p_g p_s p_b t_8 ht_8 _ m hS.vis s1 h1 s2 h2 s4 h4) ?_
   rintro a w _ rfl hF hS
   refine q_g (v:=(.bool (!t_8))) hF hS (ex_not rfl) hc2 fun a hF=>q_y (v:=(.bool (!t_8))) hF hS (ex_pick_f rfl rfl hc2) fun a hF=>q_end (n_jn ?_)
   obtain rfl:=someI hj1
   exact ⟨hF.sub ⟨rfl,rfl,rfl,rfl,trivial⟩,hS.mask [true,false]⟩
  ·have hj1:=cond_t hc2 hj1
   refine q_k hF hc2 fun a hF=>q_k hF hc2 fun a hF=>q_k hF hc2 fun a hF=>q_k hF hc2 fun a hF=>q_k hF hc2 fun a hF=>q_y (v:=(.bool true)) hF hS (ex_pick_t rfl rfl hc2) fun a hF=>q_end (n_jn ?_)
   obtain rfl:=someI hj1
   exact ⟨hF.sub ⟨rfl,rfl,rfl,rfl,trivial⟩,hS.mask [true,false]⟩
 ·rintro a w ⟨hF,hS⟩
  refine n_sq ?_
  rcases bcase (t_9) with hc3 | hc3
  ·have hr:=cond_f hc3 hr
   refine q_cond_f hF rfl hc3 (q_skipc (n_sq (q_sr (q_s hF rfl fun a hF=>q_end (n_sq (q_seq (q_sr (q_m hF rfl fun a hF=>q_m hF rfl fun a hF=>q_do rfl fun _ hK=>wp_buildSlice' (l:=([p_a,p_b] : List (List impl_Table))) (cells:=[s3.v,s4.v]) hF hS U118 inf44 rfl rfl (by kernel_rfl) rfl rfl rfl ⟨⟨s3,rfl,h3⟩,⟨s4,rfl,h4⟩,rfl⟩ rfl rfl fun a w q10 s10 hF hS h10 _=>hK _ _ ?_))))))))
   obtain ⟨m11,hm11,hS,hz11⟩:=hS.freeze
   have h11:=h10.froz hm11.le hz11
   obtain ⟨t_12,ht_12,hr⟩:=bindS hr
   refine q_call (vs:=[s10.v]) hF hS Tryz.func54 (by kernel_rfl) rfl rfl rfl (c_slices_Concat_impl_Table_impl_Table ([p_a,p_b] : List (List impl_Table)) t_12 ht_12 _ m11 hS.vis s10 h11) ?_
   rintro a w _ ⟨q14,s14,rfl,hR13,h14⟩ hF hS2
   have hS : St _ _ _ _ [q14,[⟨b6,[s2.v],27⟩]]:=hS.joinF hR13
   refine q_y (v:=(iV (goLen t_12))) hF hS (ex_len U44 rfl h14.len) fun a hF=>q_m hF rfl fun a hF=>q_end (n_sq (q_block ?_))
   obtain ⟨out_38,hl4,hr⟩:=bindS hr
   refine q_loop (fun (s : (List impl_Table) × Int) a w=>∃ (m18 : Mem),∃ (q16 : Piece),∃ (s16 : Sl),∃ out_15,∃ t_17,s = (out_15,t_17)∧Fr a 48 [(5,(pP b6 0)),(10,s16.v),(28,s14.v),(29,(iV (goLen t_12))),(30,(iV t_17))]∧St [] w0 w m18 [q16,q14,[⟨b6,[s2.v],27⟩]]∧MLe [] w0.heap.size m11 m18∧OwnL m18 29 q16 s16 out_15) (fun (out_38 : (List impl_Table)) e a w=>∃ (m40 : Mem),∃ (q39 : Piece),∃ (s39 : Sl),e = .exit 0∧Fr a 48 [(10,s39.v)]∧St [] w0 w m40 [q39]∧MLe [] w0.heap.size m11 m40∧OwnL m40 29 q39 s39 out_38) hl4 ⟨m11,[],nilS,_,_,rfl,hF.sub ⟨rfl,rfl,rfl,rfl,rfl,trivial⟩,hS.sel [2,0,1] (by decide),(MLe.refl _ _),(OwnL.nil (α:=impl_Table) m11 29)⟩ ?_ ?_
   ·clear hF hS
    rintro s a w st ⟨m18,q16,s16,out_15,t_17,rfl,hF,hS,hm18,h16⟩ hb4
    unfold impl_MergePlans_l1 at hb4
    refine q_sr (q_y (v:=(.bool (decide (t_17 < (goLen t_12))))) hF hS (ex_ibin rfl rfl rfl) fun a hF=>q_end (n_sq (q_seq ?_)))
    rcases bcase (decide (t_17 < (goLen t_12))) with hc5 | hc5
    ·have hb4:=cond_f hc5 hb4
     refine q_cond_f hF rfl hc5 (q_exit (x_sq ?_))
     obtain rfl:=someI hb4
     exact ⟨nofun,.inl ⟨m18,q16,s16,rfl,hF.sub ⟨rfl,trivial⟩,hS.mask [true,false,false],hm18,h16⟩⟩
    ·have hb4:=cond_t hc5 hb4
     refine q_cond_t hF rfl hc5 (q_skipc (n_sq (q_seq (q_block (q_seq (q_region ?_))))))
     obtain ⟨e_19,he_19,hb4⟩:=bindS hb4
     obtain ⟨vs20,at20,d20⟩:=(h14.mono hm18.le).at he_19 4 rfl
     obtain ⟨s21,s22,rfl,h21,h22⟩ : ∃ s21 s22 : Sl,vs20 = [(iV e_19.Level),s21.v,s22.v,(iV e_19.Sum)]∧Rd m18 s21 e_19.Vars∧Rd m18 s22 e_19.Where:=d20
     refine q_y (v:=(elP s14 (t_17.toNat * 4))) hF hS (ex_indexAddr U44 sz29 rfl rfl ((h14.mono hm18.le).idx he_19)) fun a hF=>q_y (v:=(.agg #[(iV e_19.Level),s21.v,s22.v,(iV e_19.Sum)])) hF hS (ex_loadEA (us:=[(iV e_19.Level),s21.v,s22.v,(iV e_19.Sum)]) 0 U29 rfl sz29 rfl (at20.at 1 rfl) rfl rfl rfl) fun a hF=>q_alloc (cs:=[(iV 0),nilS.v,nilS.v,(iV 0)]) hF hS rfl rfl rfl fun a w b23 hF hS=>q_store (vs:=[(iV e_19.Level),s21.v,s22.v,(iV e_19.Sum)]) (cs':=[(iV e_19.Level),s21.v,s22.v,(iV e_19.Sum)]) 0 0 hF hS sz29 rfl rfl rfl rfl rfl rfl rfl rfl fun a w hF hS=>q_end (n_sq (q_sr (q_m hF rfl fun a hF=>q_y (v:=(.func (.func 56) #[] #[(pP b6 0),(pP b23 0)])) hF hS (ex_makeFunc rfl) fun a hF=>?_)))
     have hS : St _ _ _ _ [[⟨b6,[s2.v],27⟩],[⟨b23,[(iV e_19.Level),s21.v,s22.v,(iV e_19.Sum)],29⟩],q16,q14]:=hS.sel [3,0,1,2] (by decide)
     have hS24 : St _ _ _ _ ([[⟨b6,[s2.v],27⟩],[⟨b23,[(iV e_19.Level),s21.v,s22.v,(iV e_19.Sum)],29⟩]]++[q16,q14]):=hS
     obtain ⟨m24,hl24,hE24,hz24⟩:=hS24.lendX
     obtain ⟨t_25,ht_25,hb4⟩:=bindS hb4
     refine q_do rfl fun _ hK=>wp_callX (vs:=[s16.v,(.func (.func 56) #[] #[(pP b6 0),(pP b23 0)])]) hF Tryz.func55 (by kernel_rfl) rfl rfl rfl (c_slices_ContainsFunc_impl_Table_impl_Table_of_impl_MergePlans_1 out_15 p_s e_19 t_25 ht_25 _ m24 b6 b23 s16 (h16.froz hl24 (hz24 0 _ rfl)) s2 (((h2.mono hm11.le).mono hm18.le).mono hl24) s21 (h21.mono hl24) s22 (h22.mono hl24) _ hE24) fun a w _ hR hF=>hK _ _ ?_
     obtain ⟨rfl,hR24⟩:=hR
     have hS : St _ _ _ _ [[⟨b6,[s2.v],27⟩],[⟨b23,[(iV e_19.Level),s21.v,s22.v,(iV e_19.Sum)],29⟩],q16,q14]:=hS24.leaveF hR24
     refine q_y (v:=(.bool (!t_25))) hF hS (ex_not rfl) fun a hF=>q_end (n_sq ?_)
     obtain ⟨out_35,hj6,hb4⟩:=bindS hb4
     refine q_join (fun a w=>∃ (m37 : Mem),∃ (q36 : Piece),∃ (s36 : Sl),Fr a 48 [(5,(pP b6 0)),(10,s36.v),(28,s14.v),(29,(iV (goLen t_12))),(30,(iV t_17))]∧St [] w0 w m37 [q36,q14,[⟨b6,[s2.v],27⟩]]∧MLe [] w0.heap.size m18 m37∧OwnL m37 29 q36 s36 out_35) ?_ ?_
     ·rcases bcase (!t_25) with hc7 | hc7
      ·have hj6:=cond_f hc7 hj6
       refine q_cond_f hF rfl hc7 (q_skipc (n_jn ?_))
       obtain rfl:=someI hj6
       exact ⟨m18,q16,s16,hF.sub ⟨rfl,rfl,rfl,rfl,rfl,trivial⟩,hS.sel [2,3,0] (by decide),(MLe.refl _ _),h16⟩
      ·have hj6:=cond_t hc7 hj6
       refine q_cond_t hF rfl hc7 (q_region (q_m hF rfl fun a hF=>q_y (v:=(.agg #[(iV e_19.Level),s21.v,s22.v,(iV e_19.Sum)])) hF hS (ex_loadA (vs:=[(iV e_19.Level),s21.v,s22.v,(iV e_19.Sum)]) 1 0 U29 rfl sz29 rfl rfl rfl rfl) fun a hF=>?_))
       obtain ⟨t_26,ht_26,hj6⟩:=bindS hj6
       refine q_call (vs:=[(.agg #[(iV e_19.Level),s21.v,s22.v,(iV e_19.Sum)])]) hF hS Tryz.func57 (by kernel_rfl) rfl rfl rfl (c_impl_copyTable e_19 t_26 ht_26 _ m18 hS.vis s21 h21 s22 h22) ?_
       rintro a w _ ⟨q28,q29,s28,s29,rfl,hR27,h28,h29⟩ hF hS2
       have hS : St _ _ _ _ [q28,q29,[⟨b6,[s2.v],27⟩],[⟨b23,[(iV e_19.Level),s21.v,s22.v,(iV e_19.Sum)],29⟩],q16,q14]:=hS.joinF hR27
       obtain ⟨m31,hm31,hS,hz31⟩:=hS.freeze
       have h31:=h28.froz hm31.le hz31
       obtain ⟨m32,hm32,hS,hz32⟩:=hS.freeze
       have h32:=(h29.mono hm31.le).froz hm32.le hz32
       refine q_do rfl fun _ hK=>wp_buildSlice' (l:=([t_26] : List impl_Table)) (cells:=[(iV t_26.Level),s28.v,s29.v,(iV t_26.Sum)]) hF hS U44 inf29 rfl rfl (by kernel_rfl) rfl rfl rfl ⟨⟨s28,s29,rfl,(h31.mono hm32.le),h32⟩,rfl⟩ rfl rfl fun a w q30 s30 hF hS h30 _=>hK _ _ ?_
       have hS : St _ _ _ _ [q16,q30,[⟨b6,[s2.v],27⟩],[⟨b23,[(iV e_19.Level),s21.v,s22.v,(iV e_19.Sum)],29⟩],q14]:=hS.sel [3,0,1,2,4] (by decide)
       obtain ⟨l_33,hl_33,hj6⟩:=bindS hj6
       refine q_do rfl fun _ hK=>wp_append hF hS ((h16.mono hm31.le).mono hm32.le) U44 inf29 rfl rfl rfl rfl (h30.vw hS (j:=1) rfl) rfl (by decide) hl_33 rfl fun a w q34 s34 hF hS h34=>hK _ _ (q_s hF rfl fun a hF=>q_end (n_jn ?_))
       obtain rfl:=someI hj6
       exact ⟨m32,q34,s34,hF.sub ⟨rfl,rfl,rfl,rfl,rfl,trivial⟩,hS.sel [0,4,2] (by decide),(hm31.trans hm32),h34⟩
     ·rintro a w ⟨m37,q36,s36,hF,hS,hm37,h36⟩
      refine n_ib (n_sq ?_)
      refine q_region (q_y (v:=(iV (w64 (t_17 + 1)))) hF hS (ex_ibin rfl rfl rfl) fun a hF=>q_m hF rfl fun a hF=>q_end ?_)
      obtain rfl:=someI hb4
      exact ⟨rfl,m37,q36,s36,_,_,rfl,hF.sub ⟨rfl,rfl,rfl,rfl,rfl,trivial⟩,hS,(hm18.trans hm37),h36⟩
   ·rintro e a w ⟨m40,q39,s39,rfl,hF,hS,hm40,h39⟩
    refine x_ib (n_sq ?_)
    refine q_seq (q_sr (q_m hF rfl fun a hF=>q_y (v:=(iV (goLen out_38))) hF hS (ex_len U44 rfl h39.len) fun a hF=>q_y (v:=(.bool (decide (20 < (goLen out_38))))) hF hS (ex_ibin rfl rfl rfl) fun a hF=>q_end (n_sq ?_)))
    rcases bcase (decide (20 < (goLen out_38))) with hc8 | hc8
    ·have hr:=cond_f hc8 hr
     refine q_cond_f hF rfl hc8 (q_skipc (n_sq (q_sr (q_m hF rfl fun a hF=>q_s hF rfl fun a hF=>q_s hF rfl fun a hF=>q_end (n_sq (q_ret ?_))))))
     obtain rfl:=someI hr
     exact ret_of hF hS rfl (.tmp rfl (.tmp rfl .nil)) ⟨m40,q39,s39,rfl,(hm11.trans hm40),hS.sel [0] (by decide),h39⟩
    ·have hr:=cond_t hc8 hr
     refine q_cond_t hF rfl hc8 (q_sr (q_s hF rfl fun a hF=>q_s hF rfl fun a hF=>q_end (n_sq (q_ret (r_sq ?_)))))
     obtain rfl:=someI hr
     exact ret_of hF hS rfl (.tmp rfl (.tmp rfl .nil)) ⟨m40,[],nilS,rfl,(hm11.trans hm40),hS.sel [1] (by decide),(OwnL.nil (α:=impl_Table) m40 29)⟩
  ·have hr:=cond_t hc3 hr
   refine q_cond_t hF rfl hc3 (q_sr (q_s hF rfl fun a hF=>q_s hF rfl fun a hF=>q_end (n_sq (q_ret (r_sq ?_)))))
   obtain rfl:=someI hr
   exact ret_of hF hS rfl (.tmp rfl (.tmp rfl .nil)) ⟨m,[],nilS,rfl,(MLe.refl _ _),hS.sel [1] (by decide),(OwnL.nil (α:=impl_Table) m 29)⟩

theorem c_spec_nOwn (p_t : impl_Table) (r : impl_Table) (hr : spec_nOwn p_t = some r) (w0 : World) (m : Mem) (hv : Vis m w0) (s1 : Sl) (h1 : Rd m s1 p_t.Vars) (s2 : Sl) (h2 : Rd m s2 p_t.Where) :
  Ret Tryz.prog 58 [(.agg #[(iV p_t.Level),s1.v,s2.v,(iV p_t.Sum)])] w0 (fun v w=>∃ (q0' : Piece) (q1' : Piece) (s0' : Sl) (s1' : Sl),v = (.agg #[(iV r.Level),s0'.v,s1'.v,(iV r.Sum)])∧St [] w0 w m [q0',q1']∧OwnL m 3 q0' s0' r.Vars∧OwnL m 3 q1' s1' r.Where):=by
 unfold spec_nOwn at hr
 refine ret_start Tryz.func58 rfl 14 rfl rfl m hv fun a hF hS=>q_sr (q_box (cs:=[(iV p_t.Level),s1.v,s2.v,(iV p_t.Sum)]) hF hS rfl rfl rfl fun a w b3 hF hS=>q_alloc (cs:=[(iV 0),nilS.v,nilS.v,(iV 0)]) hF hS rfl rfl rfl fun a w b4 hF hS=>q_end (n_sq (q_seq (e_region ⟨[11],[b3]⟩ mixed fun w' hw'=>?_))))
 have hS:=hS.below hw'
 refine e_P (v:=(pP b3 0)) 0 hF rfl (ex_fieldAddr U29 rfl sz3 rfl rfl) fun a hF=>e_xb (v:=(iV p_t.Level)) 1 1 hF hS (.head _) rfl rfl (ex_load1 0 0 U3 rfl rfl rfl rfl) rfl rfl (by kernel_rfl) (by kernel_rfl) (by kernel_rfl) fun a hF=>e_P (v:=(pP b3 1)) 2 hF rfl (ex_fieldAddr U29 rfl sz24 rfl rfl) fun a hF=>e_xb (v:=s1.v) 3 1 hF hS (.head _) rfl rfl (ex_load1 0 0 U24 rfl rfl rfl rfl) rfl rfl (by kernel_rfl) (by kernel_rfl) (by kernel_rfl) fun a hF=>e_P (v:=(pP b3 2)) 5 hF rfl (ex_fieldAddr U29 rfl sz24 rfl rfl) fun a hF=>e_xb (v:=s2.v) 6 1 hF hS (.head _) rfl rfl (ex_load1 0 0 U24 rfl rfl rfl rfl) rfl rfl (by kernel_rfl) (by kernel_rfl) (by kernel_rfl) fun a hF=>e_P (v:=(pP b3 3)) 8 hF rfl (ex_fieldAddr U29 rfl sz3 rfl rfl) fun a hF=>e_xb (v:=(iV p_t.Sum)) 9 1 hF hS (.head _) rfl rfl (ex_load1 0 0 U3 rfl rfl rfl rfl) rfl rfl (by kernel_rfl) (by kernel_rfl) (by kernel_rfl) fun a hF=>e_one 4 (by kernel_rfl) ?_
 obtain ⟨t_17,ht_17,hr⟩:=bindS hr
 refine e_call (vs:=[s1.v]) hF hS rfl Tryz.func100 (by kernel_rfl) rfl rfl rfl (c_spec_l1Own p_t.Vars t_17 ht_17 _ m hS.vis s1 h1) ?_
 rintro a w _ ⟨q19,s19,rfl,hR18,h19⟩ hF hS2
 have hS : St _ _ _ _ [q19,[⟨b4,[(iV 0),nilS.v,nilS.v,(iV 0)],29⟩],[⟨b3,[(iV p_t.Level),s1.v,s2.v,(iV p_t.Sum)],29⟩]]:=hS.joinF hR18
 refine e_one 7 (by kernel_rfl) ?_
 obtain ⟨t_20,ht_20,hr⟩:=bindS hr
 refine e_call (vs:=[s2.v]) hF hS rfl Tryz.func100 (by kernel_rfl) rfl rfl rfl (c_spec_l1Own p_t.Where t_20 ht_20 _ m hS.vis s2 h2) ?_
 rintro a w _ ⟨q22,s22,rfl,hR21,h22⟩ hF hS2
 have hS : St _ _ _ _ [q22,q19,[⟨b4,[(iV 0),nilS.v,nilS.v,(iV 0)],29⟩],[⟨b3,[(iV p_t.Level),s1.v,s2.v,(iV p_t.Sum)],29⟩]]:=hS.joinF hR21
 refine e_P (v:=(.agg #[(iV p_t.Level),s19.v,s22.v,(iV p_t.Sum)])) 10 hF rfl (ex_build (cells:=[(iV p_t.Level),s19.v,s22.v,(iV p_t.Sum)]) rfl (by kernel_rfl)) fun a hF=>e_one 11 (by kernel_rfl) ?_
 have hSo:=hS
 refine e_store (vs:=[(iV p_t.Level),s19.v,s22.v,(iV p_t.Sum)]) (cs':=[(iV p_t.Level),s19.v,s22.v,(iV p_t.Sum)]) 2 0 hF hS rfl rfl sz29 rfl rfl rfl rfl rfl rfl rfl rfl fun a w hF hS=>⟨kpC hSo hS 3 3 rfl rfl kpN,?_⟩
 refine e_end (by kernel_rfl) (n_sq (q_ret ?_)) _
 obtain rfl:=someI hr
 exact ret_of hF hS rfl (.cellA (us:=[(iV p_t.Level),s19.v,s22.v,(iV p_t.Sum)]) 2 0 U29 rfl sz29 rfl rfl rfl rfl .nil) ⟨q19,q22,s19,s22,rfl,hS.sel [1,0] (by decide),h19,h22⟩

theorem c_spec_eFull (p_s : List impl_Variable) (p_v : Int) (r : Int) (hr : spec_eFull p_s p_v = some r) (w0 : World) (m : Mem) (hv : Vis m w0) (s1 : Sl) (h1 : Rd m s1 p_s) :
  Ret Tryz.prog 94 [s1.v,(iV p_v)] w0 (fun v _=>v = (iV r)):=by
 unfold spec_eFull at hr
 refine ret_start Tryz.func94 rfl 13 rfl rfl m hv fun a hF hS=>q_sr (q_s hF rfl fun a hF=>q_end (n_sq (q_sr (q_m hF rfl fun a hF=>q_m hF rfl fun a hF=>?_))))
 obtain ⟨e_2,he_2,hr⟩:=bindS hr
 obtain ⟨vs3,at3,d3⟩:=h1.at he_2 2 rfl
 obtain rfl : vs3 = [(strV e_2.Name),(iV e_2.Levels)]:=d3
 refine q_y (v:=(elP s1 (p_v.toNat * 2))) hF hS (ex_indexAddr U27 sz95 rfl rfl (h1.idx he_2)) fun a hF=>q_y (v:=(elP s1 (p_v.toNat * 2 + 1))) hF hS (ex_fieldAddrE U95 rfl sz3 rfl (h1.idx he_2) rfl) fun a hF=>q_y (v:=(iV e_2.Levels)) hF hS (ex_loadE1 1 U3 rfl rfl ((at3).at) rfl rfl) fun a hF=>q_y (v:=(.int .u64 (IntKind.wrap .u64 e_2.Levels))) hF hS (ex_conv U3 U137 rfl) fun a hF=>?_
 obtain ⟨t_4,ht_4,hr⟩:=bindS hr
 refine q_y (v:=(iV t_4)) hF hS (ex_shl rfl rfl ht_4) fun a hF=>q_y (v:=(iV (w64 (t_4 - 1)))) hF hS (ex_ibin rfl rfl rfl) fun a hF=>q_s hF rfl fun a hF=>q_end (n_sq (q_ret ?_))
 obtain rfl:=someI hr
 exact ret_of hF hS rfl (.tmp rfl .nil) rfl

theorem c_spec_nNormal (p_s : List impl_Variable) (p_t : impl_Table) (r : impl_Table) (hr : spec_nNormal p_s p_t = some r) (w0 : World) (m : Mem) (hv : Vis m w0) (s1 : Sl) (h1 : Rd m s1 p_s) (s2 : Sl) (h2 : Rd m s2 p_t.Vars) (s3 : Sl) (h3 : Rd m s3 p_t.Where) :
  Ret Tryz.prog 46 [s1.v,(.agg #[(iV p_t.Level),s2.v,s3.v,(iV p_t.Sum)])] w0 (fun v w=>∃ (q0' : Piece) (q1' : Piece) (s0' : Sl) (s1' : Sl),v = (.agg #[(iV r.Level),s0'.v,s1'.v,(iV r.Sum)])∧St [] w0 w m [q0',q1']∧OwnL m 3 q0' s0' r.Vars∧OwnL m 3 q1' s1' r.Where):=by
 unfold spec_nNormal at hr
 refine ret_start Tryz.func46 rfl 29 rfl rfl m hv fun a hF hS=>q_sr (q_box (cs:=[(iV p_t.Level),s2.v,s3.v,(iV p_t.Sum)]) hF hS rfl rfl rfl fun a w b4 hF hS=>q_alloc (cs:=[(iV 0),nilS.v,nilS.v,(iV 0)]) hF hS rfl rfl rfl fun a w b5 hF hS=>q_end (n_sq (q_sr (q_y (v:=(.agg #[(iV p_t.Level),s2.v,s3.v,(iV p_t.Sum)])) hF hS (ex_loadA (vs:=[(iV p_t.Level),s2.v,s3.v,(iV p_t.Sum)]) 1 0 U29 rfl sz29 rfl rfl rfl rfl) fun a hF=>?_))))
 obtain ⟨t_6,ht_6,hr⟩:=bindS hr
 refine q_call (vs:=[(.agg #[(iV p_t.Level),s2.v,s3.v,(iV p_t.Sum)])]) hF hS Tryz.func58 (by kernel_rfl) rfl rfl rfl (c_spec_nOwn p_t t_6 ht_6 _ m hS.vis s2 h2 s3 h3) ?_
 rintro a w _ ⟨q8,q9,s8,s9,rfl,hR7,h8,h9⟩ hF hS2
 have hS : St _ _ _ _ [q8,q9,[⟨b5,[(iV 0),nilS.v,nilS.v,(iV 0)],29⟩],[⟨b4,[(iV p_t.Level),s2.v,s3.v,(iV p_t.Sum)],29⟩]]:=hS.joinF hR7
 refine q_alloc (cs:=[(iV 0),nilS.v,nilS.v,(iV 0)]) hF hS rfl rfl rfl fun a w b10 hF hS=>q_store (vs:=[(iV t_6.Level),s8.v,s9.v,(iV t_6.Sum)]) (cs':=[(iV t_6.Level),s8.v,s9.v,(iV t_6.Sum)]) 0 0 hF hS sz29 rfl rfl rfl rfl rfl rfl rfl rfl fun a w hF hS=>q_end (n_sq (q_seq (q_sr (q_m hF rfl fun a hF=>q_y (v:=(iV (goLen p_s))) hF hS (ex_len U27 rfl h1.len) fun a hF=>q_m hF rfl fun a hF=>q_end (n_sq (q_block ?_))))))
 obtain ⟨out_24,hl1,hr⟩:=bindS hr
 refine q_loop (fun (s : Int × impl_Table) a w=>∃ (q14 : Piece),∃ t_11,∃ out_12,s = (t_11,out_12)∧Fr a 29 [(0,s1.v),(4,(pP b5 0)),(5,(pP b10 0)),(10,(iV (goLen p_s))),(11,(iV t_11))]∧St [] w0 w m [q14,[⟨b10,[(iV out_12.Level),s8.v,s9.v,(iV out_12.Sum)],29⟩],q8,[⟨b5,[(iV 0),nilS.v,nilS.v,(iV 0)],29⟩]]∧OwnL m 3 q8 s8 out_12.Vars∧out_12.Vars = t_6.Vars∧OwnL m 3 q14 s9 out_12.Where) (fun (out_24 : impl_Table) e a w=>∃ (q26 : Piece),e = .exit 0∧Fr a 29 [(4,(pP b5 0)),(5,(pP b10 0))]∧St [] w0 w m [q8,q26,[⟨b10,[(iV out_24.Level),s8.v,s9.v,(iV out_24.Sum)],29⟩],[⟨b5,[(iV 0),nilS.v,nilS.v,(iV 0)],29⟩]]∧OwnL m 3 q8 s8 out_24.Vars∧out_24.Vars = t_6.Vars∧OwnL m 3 q26 s9 out_24.Where) hl1 ⟨q9,_,_,rfl,hF.sub ⟨rfl,rfl,rfl,rfl,rfl,trivial⟩,hS.sel [2,0,1,3] (by decide),h8,rfl,h9⟩ ?_ ?_
 ·clear hF hS
  rintro s a w st ⟨q14,t_11,out_12,rfl,hF,hS,h13,h13k,h14⟩ hb1
  unfold spec_nNormal_l1 at hb1
  refine q_sr (q_y (v:=(.bool (decide (t_11 < (goLen p_s))))) hF hS (ex_ibin rfl rfl rfl) fun a hF=>q_end (n_sq (q_seq ?_)))
  rcases bcase (decide (t_11 < (goLen p_s))) with hc2 | hc2
  ·have hb1:=cond_f hc2 hb1
   refine q_cond_f hF rfl hc2 (q_exit (x_sq ?_))
   obtain rfl:=someI hb1
   exact ⟨nofun,.inl ⟨q14,rfl,hF.sub ⟨rfl,rfl,trivial⟩,hS.sel [2,0,1,3] (by decide),h13,h13k,h14⟩⟩
  ·have hb1:=cond_t hc2 hb1
   refine q_cond_t hF rfl hc2 (q_skipc (n_sq (q_seq (q_block (q_sr (q_m hF rfl fun a hF=>q_s hF rfl fun a hF=>q_end (n_sq (q_seq (e_region ⟨[],[]⟩ mixed fun w' hw'=>?_)))))))))
   have hS:=hS.below hw'
   refine e_P (v:=(pP b10 2)) 0 hF rfl (ex_fieldAddr U29 rfl sz24 rfl rfl) fun a hF=>e_X (v:=s9.v) 1 hF hS rfl (ex_load1 1 0 U24 rfl rfl rfl rfl) fun a hF=>e_P (v:=(iV t_11)) 2 hF rfl (ex_move rfl) fun a hF=>?_
   obtain ⟨e_15,he_15,hb1⟩:=bindS hb1
   obtain ⟨vs16,at16,d16⟩:=h14.at he_15 1 rfl
   obtain rfl : vs16 = [(iV e_15)]:=d16
   refine e_P (v:=(elP s9 (t_11.toNat * 1))) 3 hF rfl (ex_indexAddr U24 sz3 rfl rfl (h14.idx he_15)) fun a hF=>e_X (v:=(iV e_15)) 4 hF hS rfl (ex_loadE1 0 U3 rfl rfl (at16.at 0 rfl) rfl rfl) fun a hF=>e_P (v:=s1.v) 5 hF rfl (ex_move rfl) fun a hF=>e_P (v:=(iV t_11)) 6 hF rfl (ex_move rfl) fun a hF=>e_one 7 (by kernel_rfl) ?_
   obtain ⟨t_17,ht_17,hb1⟩:=bindS hb1
   refine e_call (vs:=[s1.v,(iV t_11)]) hF hS rfl Tryz.func94 (by kernel_rfl) rfl rfl rfl (c_spec_eFull p_s t_11 t_17 ht_17 _ m hS.vis s1 h1) ?_
   rintro a w _ rfl hF hS
   refine e_P (v:=(.bool (e_15 == t_17))) 8 hF rfl (ex_ibin rfl rfl rfl) fun a hF=>e_end (by kernel_rfl) (n_sq ?_) _
   obtain ⟨out_21,hj3,hb1⟩:=bindS hb1
   refine q_join (fun a w=>∃ (q23 : Piece),Fr a 29 [(0,s1.v),(4,(pP b5 0)),(5,(pP b10 0)),(10,(iV (goLen p_s))),(11,(iV t_11))]∧St [] w0 w m [q8,q23,[⟨b10,[(iV out_21.Level),s8.v,s9.v,(iV out_21.Sum)],29⟩],[⟨b5,[(iV 0),nilS.v,nilS.v,(iV 0)],29⟩]]∧OwnL m 3 q8 s8 out_21.Vars∧out_21.Vars = t_6.Vars∧OwnL m 3 q23 s9 out_21.Where) ?_ ?_
   ·rcases bcase (e_15 == t_17) with hc4 | hc4
    ·have hj3:=cond_f hc4 hj3
     refine q_cond_f hF rfl hc4 (q_skipc (n_jn ?_))
     obtain rfl:=someI hj3
     exact ⟨q14,hF.sub ⟨rfl,rfl,rfl,rfl,rfl,trivial⟩,hS.sel [2,0,1,3] (by decide),h13,h13k,h14⟩
    ·have hj3:=cond_t hc4 hj3
     refine q_cond_t hF rfl hc4 (q_region (q_y (v:=(pP b10 2)) hF hS (ex_fieldAddr U29 rfl sz24 rfl rfl) fun a hF=>q_y (v:=s9.v) hF hS (ex_load1 1 0 U24 rfl rfl rfl rfl) fun a hF=>q_m hF rfl fun a hF=>?_))
     obtain ⟨e_18,he_18,hj3⟩:=bindS hj3
     obtain ⟨vs19,at19,d19⟩:=h14.at he_18 1 rfl
     obtain rfl : vs19 = [(iV e_18)]:=d19
     refine q_y (v:=(elP s9 (t_11.toNat * 1))) hF hS (ex_indexAddr U24 sz3 rfl rfl (h14.idx he_18)) fun a hF=>q_do rfl fun _ hK=>wp_storeE (e':=0) (us:=[(iV 0)]) (vs:=[(iV e_18)]) 0 hF hS h14 sz3 rfl rfl rfl rfl rfl rfl rfl he_18 at19 rfl rfl rfl fun w q20 hS h20=>hK _ _ (q_end (n_jn ?_))
     obtain rfl:=someI hj3
     exact ⟨q20,hF.sub ⟨rfl,rfl,rfl,rfl,rfl,trivial⟩,hS.sel [2,0,1,3] (by decide),h13,h13k,h20⟩
   ·rintro a w ⟨q23,hF,hS,h22,h22k,h23⟩
    refine n_ib (n_sq ?_)
    refine q_region (q_y (v:=(iV (w64 (t_11 + 1)))) hF hS (ex_ibin rfl rfl rfl) fun a hF=>q_m hF rfl fun a hF=>q_end ?_)
    obtain rfl:=someI hb1
    exact ⟨rfl,q23,_,_,rfl,hF.sub ⟨rfl,rfl,rfl,rfl,rfl,trivial⟩,hS.sel [1,2,0,3] (by decide),h22,h22k,h23⟩
 ·rintro e a w ⟨q26,rfl,hF,hS,h25,h25k,h26⟩
  refine x_ib (n_sq ?_)
  refine q_sr (q_y (v:=(.agg #[(iV out_24.Level),s8.v,s9.v,(iV out_24.Sum)])) hF hS (ex_loadA (vs:=[(iV out_24.Level),s8.v,s9.v,(iV out_24.Sum)]) 2 0 U29 rfl sz29 rfl rfl rfl rfl) fun a hF=>q_store (vs:=[(iV out_24.Level),s8.v,s9.v,(iV out_24.Sum)]) (cs':=[(iV out_24.Level),s8.v,s9.v,(iV out_24.Sum)]) 3 0 hF hS sz29 rfl rfl rfl rfl rfl rfl rfl rfl fun a w hF hS=>q_end (n_sq (q_ret ?_)))
  obtain rfl:=someI hr
  exact ret_of hF hS rfl (.cellA (us:=[(iV out_24.Level),s8.v,s9.v,(iV out_24.Sum)]) 3 0 U29 rfl sz29 rfl rfl rfl rfl .nil) ⟨q8,q26,s8,s9,rfl,hS.sel [0,1] (by decide),h25,h26⟩

theorem c_spec_l1Same (p_a : List Int) (p_b : List Int) (r : Bool) (hr : spec_l1Same p_a p_b = some r) (w0 : World) (m : Mem) (hv : Vis m w0) (s1 : Sl) (h1 : Rd m s1 p_a) (s2 : Sl) (h2 : Rd m s2 p_b) :
  Ret Tryz.prog 95 [s1.v,s2.v] w0 (fun v _=>v = (.bool r)):=by
 unfold spec_l1Same at hr
 refine ret_start Tryz.func95 rfl 26 rfl rfl m hv fun a hF hS=>q_sr (q_s hF rfl fun a hF=>q_end (n_sq (q_seq (q_sr (q_m hF rfl fun a hF=>q_y (v:=(iV (goLen p_a))) hF hS (ex_len U24 rfl h1.len) fun a hF=>q_m hF rfl fun a hF=>q_y (v:=(iV (goLen p_b))) hF hS (ex_len U24 rfl h2.len) fun a hF=>q_y (v:=(.bool ((goLen p_a) != (goLen p_b)))) hF hS (ex_ibin rfl rfl rfl) fun a hF=>q_end (n_sq ?_))))))
 rcases bcase ((goLen p_a) != (goLen p_b)) with hc1 | hc1
 ·have hr:=cond_f hc1 hr
  refine q_cond_f hF rfl hc1 (q_skipc (n_sq (q_seq (q_sr (q_m hF rfl fun a hF=>q_y (v:=(iV (goLen p_a))) hF hS (ex_len U24 rfl h1.len) fun a hF=>q_m hF rfl fun a hF=>q_end (n_sq (q_block ?_)))))))
  obtain ⟨o2,hl2,hr⟩:=bindS hr
  refine q_loop (fun (t_3 : Int) a w=>Fr a 26 [(0,s1.v),(1,s2.v),(12,(iV (goLen p_a))),(13,(iV t_3))]∧St [] w0 w m []) (fun (o : (Unit) ⊕ (Bool)) e a w=>o = .inl ()∧e = .exit 0∧Fr a 26 []∧St [] w0 w m []) hl2 ⟨hF.sub ⟨rfl,rfl,rfl,rfl,trivial⟩,hS⟩ ?_ ?_
  ·clear hF hS
   rintro t_3 a w st ⟨hF,hS⟩ hb2
   unfold spec_l1Same_l1 at hb2
   refine q_sr (q_y (v:=(.bool (decide (t_3 < (goLen p_a))))) hF hS (ex_ibin rfl rfl rfl) fun a hF=>q_end (n_sq (q_seq ?_)))
   rcases bcase (decide (t_3 < (goLen p_a))) with hc3 | hc3
   ·have hb2:=cond_f hc3 hb2
    refine q_cond_f hF rfl hc3 (q_exit (x_sq ?_))
    obtain rfl:=someI hb2
    exact ⟨nofun,.inl ⟨rfl,rfl,hF.sub trivial,hS⟩⟩
   ·have hb2:=cond_t hc3 hb2
    refine q_cond_t hF rfl hc3 (q_skipc (n_sq (q_seq (q_block (q_sr (q_m hF rfl fun a hF=>q_s hF rfl fun a hF=>q_end (n_sq (q_seq (e_region ⟨[],[]⟩ mixed fun w' hw'=>?_)))))))))
    have hS:=hS.below hw'
    refine e_P (v:=s1.v) 0 hF rfl (ex_move rfl) fun a hF=>e_P (v:=(iV t_3)) 1 hF rfl (ex_move rfl) fun a hF=>?_
    obtain ⟨e_4,he_4,hb2⟩:=bindS hb2
    obtain ⟨vs5,at5,d5⟩:=h1.at he_4 1 rfl
    obtain rfl : vs5 = [(iV e_4)]:=d5
    refine e_P (v:=(elP s1 (t_3.toNat * 1))) 2 hF rfl (ex_indexAddr U24 sz3 rfl rfl (h1.idx he_4)) fun a hF=>e_X (v:=(iV e_4)) 3 hF hS rfl (ex_loadE1 0 U3 rfl rfl ((at5).at) rfl rfl) fun a hF=>e_P (v:=s2.v) 4 hF rfl (ex_move rfl) fun a hF=>e_P (v:=(iV t_3)) 5 hF rfl (ex_move rfl) fun a hF=>?_
    obtain ⟨e_6,he_6,hb2⟩:=bindS hb2
    obtain ⟨vs7,at7,d7⟩:=h2.at he_6 1 rfl
    obtain rfl : vs7 = [(iV e_6)]:=d7
    refine e_P (v:=(elP s2 (t_3.toNat * 1))) 6 hF rfl (ex_indexAddr U24 sz3 rfl rfl (h2.idx he_6)) fun a hF=>e_X (v:=(iV e_6)) 7 hF hS rfl (ex_loadE1 0 U3 rfl rfl ((at7).at) rfl rfl) fun a hF=>e_P (v:=(.bool (e_4 != e_6))) 8 hF rfl (ex_ibin rfl rfl rfl) fun a hF=>e_end (by kernel_rfl) (n_sq ?_) _
    rcases bcase (e_4 != e_6) with hc4 | hc4
    ·have hb2:=cond_f hc4 hb2
     refine q_cond_f hF rfl hc4 (q_skipc (n_ib (n_sq (q_region (q_y (v:=(iV (w64 (t_3 + 1)))) hF hS (ex_ibin rfl rfl rfl) fun a hF=>q_m hF rfl fun a hF=>q_end ?_)))))
     obtain rfl:=someI hb2
     exact ⟨rfl,hF.sub ⟨rfl,rfl,rfl,rfl,trivial⟩,hS⟩
    ·have hb2:=cond_t hc4 hb2
     refine q_cond_t hF rfl hc4 (q_sr (q_s hF rfl fun a hF=>q_end (n_sq (q_ret (r_ib (r_sq ?_))))))
     obtain rfl:=someI hb2
     refine ⟨nofun,.inr fun ho=>?_⟩
     subst ho
     refine r_ib (r_sq ?_)
     obtain rfl:=someI hr
     exact ret_of hF hS rfl (.tmp rfl .nil) rfl
  ·rintro e a w ⟨rfl,rfl,hF,hS⟩
   refine x_ib (n_sq ?_)
   refine q_sr (q_s hF rfl fun a hF=>q_end (n_sq (q_ret ?_)))
   obtain rfl:=someI hr
   exact ret_of hF hS rfl (.tmp rfl .nil) rfl
 ·have hr:=cond_t hc1 hr
  refine q_cond_t hF rfl hc1 (q_sr (q_s hF rfl fun a hF=>q_end (n_sq (q_ret (r_sq ?_)))))
  obtain rfl:=someI hr
  exact ret_of hF hS rfl (.tmp rfl .nil) rfl

theorem c_spec_nSame (p_s : List impl_Variable) (p_a : impl_Table) (p_b : impl_Table) (r : Bool) (hr : spec_nSame p_s p_a p_b = some r) (w0 : World) (m : Mem) (hv : Vis m w0) (s1 : Sl) (h1 : Rd m s1 p_s) (s2 : Sl) (h2 : Rd m s2 p_a.Vars) (s3 : Sl) (h3 : Rd m s3 p_a.Where) (s4 : Sl) (h4 : Rd m s4 p_b.Vars) (s5 : Sl) (h5 : Rd m s5 p_b.Where) :
  Ret Tryz.prog 47 [s1.v,(.agg #[(iV p_a.Level),s2.v,s3.v,(iV p_a.Sum)]),(.agg #[(iV p_b.Level),s4.v,s5.v,(iV p_b.Sum)])] w0 (fun v _=>v = (.bool r)):=by
 unfold spec_nSame at hr
 refine ret_start Tryz.func47 rfl 41 rfl rfl m hv fun a hF hS=>q_sr (q_box (cs:=[(iV p_a.Level),s2.v,s3.v,(iV p_a.Sum)]) hF hS rfl rfl rfl fun a w b6 hF hS=>q_box (cs:=[(iV p_b.Level),s4.v,s5.v,(iV p_b.Sum)]) hF hS rfl rfl rfl fun a w b7 hF hS=>q_s hF rfl fun a hF=>q_end (n_sq (q_seq ?_)))
 obtain ⟨j1,hj1,hr⟩:=bindS hr
 refine q_join (fun a w=>∃ b29,∃ b28,∃ (q31 : Piece),∃ (s31 : Sl),∃ (q32 : Piece),∃ (s32 : Sl),∃ (q34 : Piece),∃ (s34 : Sl),∃ (q35 : Piece),∃ (s35 : Sl),∃ y_30,∃ x_33,j1 = (y_30,x_33)∧Fr a 41 [(7,(pP b28 0)),(8,(pP b29 0))]∧St [] w0 w m [q31,q32,q34,q35,[⟨b29,[(iV y_30.Level),s31.v,s32.v,(iV y_30.Sum)],29⟩],[⟨b28,[(iV x_33.Level),s34.v,s35.v,(iV x_33.Sum)],29⟩]]∧OwnL m 3 q31 s31 y_30.Vars∧OwnL m 3 q32 s32 y_30.Where∧OwnL m 3 q34 s34 x_33.Vars∧OwnL m 3 q35 s35 x_33.Where) ?_ ?_
 ·refine e_region ⟨[8,9],[b6,b7]⟩ mixed fun w' hw'=>?_
  have hS:=hS.below hw'
  refine e_P (v:=s1.v) 0 hF rfl (ex_move rfl) fun a hF=>e_xb (v:=(.agg #[(iV p_a.Level),s2.v,s3.v,(iV p_a.Sum)])) 1 1 hF hS (.head _) rfl rfl (ex_loadA (vs:=[(iV p_a.Level),s2.v,s3.v,(iV p_a.Sum)]) 0 0 U29 rfl sz29 rfl rfl rfl rfl) rfl rfl (by kernel_rfl) (by kernel_rfl) (by kernel_rfl) fun a hF=>e_P (v:=s1.v) 3 hF rfl (ex_move rfl) fun a hF=>e_xb (v:=(.agg #[(iV p_b.Level),s4.v,s5.v,(iV p_b.Sum)])) 4 0 hF hS (.tail _ (.head _)) rfl rfl (ex_loadA (vs:=[(iV p_b.Level),s4.v,s5.v,(iV p_b.Sum)]) 0 0 U29 rfl sz29 rfl rfl rfl rfl) rfl rfl (by kernel_rfl) (by kernel_rfl) (by kernel_rfl) fun a hF=>?_
  obtain ⟨t_20,ht_20,hj1⟩:=bindS hj1
  obtain ⟨t_24,ht_24,hj1⟩:=bindS hj1
  refine e_all [2,6,7] (by kernel_rfl) rfl ⟨?_,?_,?_,trivial⟩
  ·refine e_call (vs:=[s1.v,(.agg #[(iV p_a.Level),s2.v,s3.v,(iV p_a.Sum)])]) hF hS rfl Tryz.func46 (by kernel_rfl) rfl rfl rfl (c_spec_nNormal p_s p_a t_20 ht_20 _ m hS.vis s1 h1 s2 h2 s3 h3) ?_
   rintro a w _ ⟨q22,q23,s22,s23,rfl,hR21,h22,h23⟩ hF hS2
   have hS : St _ _ _ _ [q22,q23,[⟨b7,[(iV p_b.Level),s4.v,s5.v,(iV p_b.Sum)],29⟩],[⟨b6,[(iV p_a.Level),s2.v,s3.v,(iV p_a.Sum)],29⟩]]:=hS.joinF hR21
   refine e_all [5,6,7] (by kernel_rfl) rfl ⟨?_,?_,?_,trivial⟩
   ·refine e_call (vs:=[s1.v,(.agg #[(iV p_b.Level),s4.v,s5.v,(iV p_b.Sum)])]) hF hS rfl Tryz.func46 (by kernel_rfl) rfl rfl rfl (c_spec_nNormal p_s p_b t_24 ht_24 _ m hS.vis s1 h1 s4 h4 s5 h5) ?_
    rintro a w _ ⟨q26,q27,s26,s27,rfl,hR25,h26,h27⟩ hF hS2
    have hS : St _ _ _ _ [q26,q27,q22,q23,[⟨b7,[(iV p_b.Level),s4.v,s5.v,(iV p_b.Sum)],29⟩],[⟨b6,[(iV p_a.Level),s2.v,s3.v,(iV p_a.Sum)],29⟩]]:=hS.joinF hR25
    refine e_all [6,7] (by kernel_rfl) rfl ⟨?_,?_,trivial⟩
    ·refine e_alloc (cs:=[(iV 0),nilS.v,nilS.v,(iV 0)]) hF hS rfl rfl rfl rfl fun a w b28 hF hS=>e_one 7 (by kernel_rfl) (e_alloc (cs:=[(iV 0),nilS.v,nilS.v,(iV 0)]) hF hS rfl rfl rfl rfl fun a w b29 hF hS=>e_one 8 (by kernel_rfl) ?_)
     have hSo:=hS
     refine e_store (vs:=[(iV t_20.Level),s22.v,s23.v,(iV t_20.Sum)]) (cs':=[(iV t_20.Level),s22.v,s23.v,(iV t_20.Sum)]) 1 0 hF hS rfl rfl sz29 rfl rfl rfl rfl rfl rfl rfl rfl fun a w hF hS=>⟨kpC hSo hS 7 7 rfl rfl (kpC hSo hS 6 6 rfl rfl kpN),?_⟩
     refine e_one 9 (by kernel_rfl) ?_
     have hSo:=hS
     refine e_store (vs:=[(iV t_24.Level),s26.v,s27.v,(iV t_24.Sum)]) (cs':=[(iV t_24.Level),s26.v,s27.v,(iV t_24.Sum)]) 0 0 hF hS rfl rfl sz29 rfl rfl rfl rfl rfl rfl rfl rfl fun a w hF hS=>⟨kpC hSo hS 7 7 rfl rfl (kpC hSo hS 6 6 rfl rfl kpN),?_⟩
     refine e_end (by kernel_rfl) (n_jn ?_) _
     obtain rfl:=someI hj1
     exact ⟨b29,b28,q26,s26,q27,s27,q22,s22,q23,s23,_,_,rfl,hF.sub ⟨rfl,rfl,trivial⟩,hS.sel [2,3,4,5,0,1] (by decide),h26,h27,h22,h23⟩
    ·refine e_alloc (cs:=[(iV 0),nilS.v,nilS.v,(iV 0)]) hF hS rfl rfl rfl rfl fun a w b29 hF hS=>e_one 6 (by kernel_rfl) (e_alloc (cs:=[(iV 0),nilS.v,nilS.v,(iV 0)]) hF hS rfl rfl rfl rfl fun a w b28 hF hS=>e_one 8 (by kernel_rfl) ?_)
     have hSo:=hS
     refine e_store (vs:=[(iV t_20.Level),s22.v,s23.v,(iV t_20.Sum)]) (cs':=[(iV t_20.Level),s22.v,s23.v,(iV t_20.Sum)]) 0 0 hF hS rfl rfl sz29 rfl rfl rfl rfl rfl rfl rfl rfl fun a w hF hS=>⟨kpC hSo hS 7 7 rfl rfl (kpC hSo hS 6 6 rfl rfl kpN),?_⟩
     refine e_one 9 (by kernel_rfl) ?_
     have hSo:=hS
     refine e_store (vs:=[(iV t_24.Level),s26.v,s27.v,(iV t_24.Sum)]) (cs':=[(iV t_24.Level),s26.v,s27.v,(iV t_24.Sum)]) 1 0 hF hS rfl rfl sz29 rfl rfl rfl rfl rfl rfl rfl rfl fun a w hF hS=>⟨kpC hSo hS 7 7 rfl rfl (kpC hSo hS 6 6 rfl rfl kpN),?_⟩
     refine e_end (by kernel_rfl) (n_jn ?_) _
     obtain rfl:=someI hj1
     exact ⟨b29,b28,q26,s26,q27,s27,q22,s22,q23,s23,_,_,rfl,hF.sub ⟨rfl,rfl,trivial⟩,hS.sel [2,3,4,5,1,0] (by decide),h26,h27,h22,h23⟩
   ·refine e_alloc (cs:=[(iV 0),nilS.v,nilS.v,(iV 0)]) hF hS rfl rfl rfl rfl fun a w b28 hF hS=>e_all [5,7] (by kernel_rfl) rfl ⟨?_,?_,trivial⟩
    ·refine e_call (vs:=[s1.v,(.agg #[(iV p_b.Level),s4.v,s5.v,(iV p_b.Sum)])]) hF hS rfl Tryz.func46 (by kernel_rfl) rfl rfl rfl (c_spec_nNormal p_s p_b t_24 ht_24 _ m hS.vis s1 h1 s4 h4 s5 h5) ?_
     rintro a w _ ⟨q26,q27,s26,s27,rfl,hR25,h26,h27⟩ hF hS2
     have hS : St _ _ _ _ [q26,q27,[⟨b28,[(iV 0),nilS.v,nilS.v,(iV 0)],29⟩],q22,q23,[⟨b7,[(iV p_b.Level),s4.v,s5.v,(iV p_b.Sum)],29⟩],[⟨b6,[(iV p_a.Level),s2.v,s3.v,(iV p_a.Sum)],29⟩]]:=hS.joinF hR25
     refine e_one 7 (by kernel_rfl) (e_alloc (cs:=[(iV 0),nilS.v,nilS.v,(iV 0)]) hF hS rfl rfl rfl rfl fun a w b29 hF hS=>e_one 8 (by kernel_rfl) ?_)
     have hSo:=hS
     refine e_store (vs:=[(iV t_20.Level),s22.v,s23.v,(iV t_20.Sum)]) (cs':=[(iV t_20.Level),s22.v,s23.v,(iV t_20.Sum)]) 3 0 hF hS rfl rfl sz29 rfl rfl rfl rfl rfl rfl rfl rfl fun a w hF hS=>⟨kpC hSo hS 7 7 rfl rfl (kpC hSo hS 6 6 rfl rfl kpN),?_⟩
     refine e_one 9 (by kernel_rfl) ?_
     have hSo:=hS
     refine e_store (vs:=[(iV t_24.Level),s26.v,s27.v,(iV t_24.Sum)]) (cs':=[(iV t_24.Level),s26.v,s27.v,(iV t_24.Sum)]) 0 0 hF hS rfl rfl sz29 rfl rfl rfl rfl rfl rfl rfl rfl fun a w hF hS=>⟨kpC hSo hS 7 7 rfl rfl (kpC hSo hS 6 6 rfl rfl kpN),?_⟩
     refine e_end (by kernel_rfl) (n_jn ?_) _
     obtain rfl:=someI hj1
     exact ⟨b29,b28,q26,s26,q27,s27,q22,s22,q23,s23,_,_,rfl,hF.sub ⟨rfl,rfl,trivial⟩,hS.sel [1,2,4,5,0,3] (by decide),h26,h27,h22,h23⟩
    ·refine e_alloc (cs:=[(iV 0),nilS.v,nilS.v,(iV 0)]) hF hS rfl rfl rfl rfl fun a w b29 hF hS=>e_one 5 (by kernel_rfl) (e_call (vs:=[s1.v,(.agg #[(iV p_b.Level),s4.v,s5.v,(iV p_b.Sum)])]) hF hS rfl Tryz.func46 (by kernel_rfl) rfl rfl rfl (c_spec_nNormal p_s p_b t_24 ht_24 _ m hS.vis s1 h1 s4 h4 s5 h5) ?_)
     rintro a w _ ⟨q26,q27,s26,s27,rfl,hR25,h26,h27⟩ hF hS2
     have hS : St _ _ _ _ [q26,q27,[⟨b29,[(iV 0),nilS.v,nilS.v,(iV 0)],29⟩],[⟨b28,[(iV 0),nilS.v,nilS.v,(iV 0)],29⟩],q22,q23,[⟨b7,[(iV p_b.Level),s4.v,s5.v,(iV p_b.Sum)],29⟩],[⟨b6,[(iV p_a.Level),s2.v,s3.v,(iV p_a.Sum)],29⟩]]:=hS.joinF hR25
     refine e_one 8 (by kernel_rfl) ?_
     have hSo:=hS
     refine e_store (vs:=[(iV t_20.Level),s22.v,s23.v,(iV t_20.Sum)]) (cs':=[(iV t_20.Level),s22.v,s23.v,(iV t_20.Sum)]) 3 0 hF hS rfl rfl sz29 rfl rfl rfl rfl rfl rfl rfl rfl fun a w hF hS=>⟨kpC hSo hS 7 7 rfl rfl (kpC hSo hS 6 6 rfl rfl kpN),?_⟩
     refine e_one 9 (by kernel_rfl) ?_
     have hSo:=hS
     refine e_store (vs:=[(iV t_24.Level),s26.v,s27.v,(iV t_24.Sum)]) (cs':=[(iV t_24.Level),s26.v,s27.v,(iV t_24.Sum)]) 2 0 hF hS rfl rfl sz29 rfl rfl rfl rfl rfl rfl rfl rfl fun a w hF hS=>⟨kpC hSo hS 7 7 rfl rfl (kpC hSo hS 6 6 rfl rfl kpN),?_⟩
     refine e_end (by kernel_rfl) (n_jn ?_) _
     obtain rfl:=someI hj1
     exact ⟨b29,b28,q26,s26,q27,s27,q22,s22,q23,s23,_,_,rfl,hF.sub ⟨rfl,rfl,trivial⟩,hS.sel [0,1,4,5,2,3] (by decide),h26,h27,h22,h23⟩
   ·refine e_alloc (cs:=[(iV 0),nilS.v,nilS.v,(iV 0)]) hF hS rfl rfl rfl rfl fun a w b29 hF hS=>e_all [5,6] (by kernel_rfl) rfl ⟨?_,?_,trivial⟩
    ·refine e_call (vs:=[s1.v,(.agg #[(iV p_b.Level),s4.v,s5.v,(iV p_b.Sum)])]) hF hS rfl Tryz.func46 (by kernel_rfl) rfl rfl rfl (c_spec_nNormal p_s p_b t_24 ht_24 _ m hS.vis s1 h1 s4 h4 s5 h5) ?_
     rintro a w _ ⟨q26,q27,s26,s27,rfl,hR25,h26,h27⟩ hF hS2
     have hS : St _ _ _ _ [q26,q27,[⟨b29,[(iV 0),nilS.v,nilS.v,(iV 0)],29⟩],q22,q23,[⟨b7,[(iV p_b.Level),s4.v,s5.v,(iV p_b.Sum)],29⟩],[⟨b6,[(iV p_a.Level),s2.v,s3.v,(iV p_a.Sum)],29⟩]]:=hS.joinF hR25
     refine e_one 6 (by kernel_rfl) (e_alloc (cs:=[(iV 0),nilS.v,nilS.v,(iV 0)]) hF hS rfl rfl rfl rfl fun a w b28 hF hS=>e_one 8 (by kernel_rfl) ?_)
     have hSo:=hS
     refine e_store (vs:=[(iV t_20.Level),s22.v,s23.v,(iV t_20.Sum)]) (cs':=[(iV t_20.Level),s22.v,s23.v,(iV t_20.Sum)]) 0 0 hF hS rfl rfl sz29 rfl rfl rfl rfl rfl rfl rfl rfl fun a w hF hS=>⟨kpC hSo hS 7 7 rfl rfl (kpC hSo hS 6 6 rfl rfl kpN),?_⟩
     refine e_one 9 (by kernel_rfl) ?_
     have hSo:=hS
     refine e_store (vs:=[(iV t_24.Level),s26.v,s27.v,(iV t_24.Sum)]) (cs':=[(iV t_24.Level),s26.v,s27.v,(iV t_24.Sum)]) 3 0 hF hS rfl rfl sz29 rfl rfl rfl rfl rfl rfl rfl rfl fun a w hF hS=>⟨kpC hSo hS 7 7 rfl rfl (kpC hSo hS 6 6 rfl rfl kpN),?_⟩
     refine e_end (by kernel_rfl) (n_jn ?_) _
     obtain rfl:=someI hj1
     exact ⟨b29,b28,q26,s26,q27,s27,q22,s22,q23,s23,_,_,rfl,hF.sub ⟨rfl,rfl,trivial⟩,hS.sel [1,2,4,5,3,0] (by decide),h26,h27,h22,h23⟩
    ·refine e_alloc (cs:=[(iV 0),nilS.v,nilS.v,(iV 0)]) hF hS rfl rfl rfl rfl fun a w b28 hF hS=>e_one 5 (by kernel_rfl) (e_call (vs:=[s1.v,(.agg #[(iV p_b.Level),s4.v,s5.v,(iV p_b.Sum)])]) hF hS rfl Tryz.func46 (by kernel_rfl) rfl rfl rfl (c_spec_nNormal p_s p_b t_24 ht_24 _ m hS.vis s1 h1 s4 h4 s5 h5) ?_)
     rintro a w _ ⟨q26,q27,s26,s27,rfl,hR25,h26,h27⟩ hF hS2
     have hS : St _ _ _ _ [q26,q27,[⟨b28,[(iV 0),nilS.v,nilS.v,(iV 0)],29⟩],[⟨b29,[(iV 0),nilS.v,nilS.v,(iV 0)],29⟩],q22,q23,[⟨b7,[(iV p_b.Level),s4.v,s5.v,(iV p_b.Sum)],29⟩],[⟨b6,[(iV p_a.Level),s2.v,s3.v,(iV p_a.Sum)],29⟩]]:=hS.joinF hR25
     refine e_one 8 (by kernel_rfl) ?_
     have hSo:=hS
     refine e_store (vs:=[(iV t_20.Level),s22.v,s23.v,(iV t_20.Sum)]) (cs':=[(iV t_20.Level),s22.v,s23.v,(iV t_20.Sum)]) 2 0 hF hS rfl rfl sz29 rfl rfl rfl rfl rfl rfl rfl rfl fun a w hF hS=>⟨kpC hSo hS 7 7 rfl rfl (kpC hSo hS 6 6 rfl rfl kpN),?_⟩
     refine e_one 9 (by kernel_rfl) ?_
     have hSo:=hS
     refine e_store (vs:=[(iV t_24.Level),s26.v,s27.v,(iV t_24.Sum)]) (cs':=[(iV t_24.Level),s26.v,s27.v,(iV t_24.Sum)]) 3 0 hF hS rfl rfl sz29 rfl rfl rfl rfl rfl rfl rfl rfl fun a w hF hS=>⟨kpC hSo hS 7 7 rfl rfl (kpC hSo hS 6 6 rfl rfl kpN),?_⟩
     refine e_end (by kernel_rfl) (n_jn ?_) _
     obtain rfl:=someI hj1
     exact ⟨b29,b28,q26,s26,q27,s27,q22,s22,q23,s23,_,_,rfl,hF.sub ⟨rfl,rfl,trivial⟩,hS.sel [0,1,4,5,3,2] (by decide),h26,h27,h22,h23⟩
  ·refine e_alloc (cs:=[(iV 0),nilS.v,nilS.v,(iV 0)]) hF hS rfl rfl rfl rfl fun a w b28 hF hS=>e_all [2,7] (by kernel_rfl) rfl ⟨?_,?_,trivial⟩
   ·refine e_call (vs:=[s1.v,(.agg #[(iV p_a.Level),s2.v,s3.v,(iV p_a.Sum)])]) hF hS rfl Tryz.func46 (by kernel_rfl) rfl rfl rfl (c_spec_nNormal p_s p_a t_20 ht_20 _ m hS.vis s1 h1 s2 h2 s3 h3) ?_
    rintro a w _ ⟨q22,q23,s22,s23,rfl,hR21,h22,h23⟩ hF hS2
    have hS : St _ _ _ _ [q22,q23,[⟨b28,[(iV 0),nilS.v,nilS.v,(iV 0)],29⟩],[⟨b7,[(iV p_b.Level),s4.v,s5.v,(iV p_b.Sum)],29⟩],[⟨b6,[(iV p_a.Level),s2.v,s3.v,(iV p_a.Sum)],29⟩]]:=hS.joinF hR21
    refine e_all [5,7] (by kernel_rfl) rfl ⟨?_,?_,trivial⟩
    ·refine e_call (vs:=[s1.v,(.agg #[(iV p_b.Level),s4.v,s5.v,(iV p_b.Sum)])]) hF hS rfl Tryz.func46 (by kernel_rfl) rfl rfl rfl (c_spec_nNormal p_s p_b t_24 ht_24 _ m hS.vis s1 h1 s4 h4 s5 h5) ?_
     rintro a w _ ⟨q26,q27,s26,s27,rfl,hR25,h26,h27⟩ hF hS2
     have hS : St _ _ _ _ [q26,q27,q22,q23,[⟨b28,[(iV 0),nilS.v,nilS.v,(iV 0)],29⟩],[⟨b7,[(iV p_b.Level),s4.v,s5.v,(iV p_b.Sum)],29⟩],[⟨b6,[(iV p_a.Level),s2.v,s3.v,(iV p_a.Sum)],29⟩]]:=hS.joinF hR25
     refine e_one 7 (by kernel_rfl) (e_alloc (cs:=[(iV 0),nilS.v,nilS.v,(iV 0)]) hF hS rfl rfl rfl rfl fun a w b29 hF hS=>e_one 8 (by kernel_rfl) ?_)
     have hSo:=hS
     refine e_store (vs:=[(iV t_20.Level),s22.v,s23.v,(iV t_20.Sum)]) (cs':=[(iV t_20.Level),s22.v,s23.v,(iV t_20.Sum)]) 5 0 hF hS rfl rfl sz29 rfl rfl rfl rfl rfl rfl rfl rfl fun a w hF hS=>⟨kpC hSo hS 7 7 rfl rfl (kpC hSo hS 6 6 rfl rfl kpN),?_⟩
     refine e_one 9 (by kernel_rfl) ?_
     have hSo:=hS
     refine e_store (vs:=[(iV t_24.Level),s26.v,s27.v,(iV t_24.Sum)]) (cs':=[(iV t_24.Level),s26.v,s27.v,(iV t_24.Sum)]) 0 0 hF hS rfl rfl sz29 rfl rfl rfl rfl rfl rfl rfl rfl fun a w hF hS=>⟨kpC hSo hS 7 7 rfl rfl (kpC hSo hS 6 6 rfl rfl kpN),?_⟩
     refine e_end (by kernel_rfl) (n_jn ?_) _
     obtain rfl:=someI hj1
     exact ⟨b29,b28,q26,s26,q27,s27,q22,s22,q23,s23,_,_,rfl,hF.sub ⟨rfl,rfl,trivial⟩,hS.sel [1,2,3,4,0,5] (by decide),h26,h27,h22,h23⟩
    ·refine e_alloc (cs:=[(iV 0),nilS.v,nilS.v,(iV 0)]) hF hS rfl rfl rfl rfl fun a w b29 hF hS=>e_one 5 (by kernel_rfl) (e_call (vs:=[s1.v,(.agg #[(iV p_b.Level),s4.v,s5.v,(iV p_b.Sum)])]) hF hS rfl Tryz.func46 (by kernel_rfl) rfl rfl rfl (c_spec_nNormal p_s p_b t_24 ht_24 _ m hS.vis s1 h1 s4 h4 s5 h5) ?_)
     rintro a w _ ⟨q26,q27,s26,s27,rfl,hR25,h26,h27⟩ hF hS2
     have hS : St _ _ _ _ [q26,q27,[⟨b29,[(iV 0),nilS.v,nilS.v,(iV 0)],29⟩],q22,q23,[⟨b28,[(iV 0),nilS.v,nilS.v,(iV 0)],29⟩],[⟨b7,[(iV p_b.Level),s4.v,s5.v,(iV p_b.Sum)],29⟩],[⟨b6,[(iV p_a.Level),s2.v,s3.v,(iV p_a.Sum)],29⟩]]:=hS.joinF hR25
     refine e_one 8 (by kernel_rfl) ?_
     have hSo:=hS
     refine e_store (vs:=[(iV t_20.Level),s22.v,s23.v,(iV t_20.Sum)]) (cs':=[(iV t_20.Level),s22.v,s23.v,(iV t_20.Sum)]) 5 0 hF hS rfl rfl sz29 rfl rfl rfl rfl rfl rfl rfl rfl fun a w hF hS=>⟨kpC hSo hS 7 7 rfl rfl (kpC hSo hS 6 6 rfl rfl kpN),?_⟩
     refine e_one 9 (by kernel_rfl) ?_
     have hSo:=hS
     refine e_store (vs:=[(iV t_24.Level),s26.v,s27.v,(iV t_24.Sum)]) (cs':=[(iV t_24.Level),s26.v,s27.v,(iV t_24.Sum)]) 2 0 hF hS rfl rfl sz29 rfl rfl rfl rfl rfl rfl rfl rfl fun a w hF hS=>⟨kpC hSo hS 7 7 rfl rfl (kpC hSo hS 6 6 rfl rfl kpN),?_⟩
     refine e_end (by kernel_rfl) (n_jn ?_) _
     obtain rfl:=someI hj1
     exact ⟨b29,b28,q26,s26,q27,s27,q22,s22,q23,s23,_,_,rfl,hF.sub ⟨rfl,rfl,trivial⟩,hS.sel [0,1,3,4,2,5] (by decide),h26,h27,h22,h23⟩
   ·refine e_alloc (cs:=[(iV 0),nilS.v,nilS.v,(iV 0)]) hF hS rfl rfl rfl rfl fun a w b29 hF hS=>e_one 2 (by kernel_rfl) (e_call (vs:=[s1.v,(.agg #[(iV p_a.Level),s2.v,s3.v,(iV p_a.Sum)])]) hF hS rfl Tryz.func46 (by kernel_rfl) rfl rfl rfl (c_spec_nNormal p_s p_a t_20 ht_20 _ m hS.vis s1 h1 s2 h2 s3 h3) ?_)
    rintro a w _ ⟨q22,q23,s22,s23,rfl,hR21,h22,h23⟩ hF hS2
    have hS : St _ _ _ _ [q22,q23,[⟨b29,[(iV 0),nilS.v,nilS.v,(iV 0)],29⟩],[⟨b28,[(iV 0),nilS.v,nilS.v,(iV 0)],29⟩],[⟨b7,[(iV p_b.Level),s4.v,s5.v,(iV p_b.Sum)],29⟩],[⟨b6,[(iV p_a.Level),s2.v,s3.v,(iV p_a.Sum)],29⟩]]:=hS.joinF hR21
    refine e_one 5 (by kernel_rfl) (e_call (vs:=[s1.v,(.agg #[(iV p_b.Level),s4.v,s5.v,(iV p_b.Sum)])]) hF hS rfl Tryz.func46 (by kernel_rfl) rfl rfl rfl (c_spec_nNormal p_s p_b t_24 ht_24 _ m hS.vis s1 h1 s4 h4 s5 h5) ?_)
    rintro a w _ ⟨q26,q27,s26,s27,rfl,hR25,h26,h27⟩ hF hS2
    have hS : St _ _ _ _ [q26,q27,q22,q23,[⟨b29,[(iV 0),nilS.v,nilS.v,(iV 0)],29⟩],[⟨b28,[(iV 0),nilS.v,nilS.v,(iV 0)],29⟩],[⟨b7,[(iV p_b.Level),s4.v,s5.v,(iV p_b.Sum)],29⟩],[⟨b6,[(iV p_a.Level),s2.v,s3.v,(iV p_a.Sum)],29⟩]]:=hS.joinF hR25
    refine e_one 8 (by kernel_rfl) ?_
    have hSo:=hS
    refine e_store (vs:=[(iV t_20.Level),s22.v,s23.v,(iV t_20.Sum)]) (cs':=[(iV t_20.Level),s22.v,s23.v,(iV t_20.Sum)]) 5 0 hF hS rfl rfl sz29 rfl rfl rfl rfl rfl rfl rfl rfl fun a w hF hS=>⟨kpC hSo hS 7 7 rfl rfl (kpC hSo hS 6 6 rfl rfl kpN),?_⟩
    refine e_one 9 (by kernel_rfl) ?_
    have hSo:=hS
    refine e_store (vs:=[(iV t_24.Level),s26.v,s27.v,(iV t_24.Sum)]) (cs':=[(iV t_24.Level),s26.v,s27.v,(iV t_24.Sum)]) 4 0 hF hS rfl rfl sz29 rfl rfl rfl rfl rfl rfl rfl rfl fun a w hF hS=>⟨kpC hSo hS 7 7 rfl rfl (kpC hSo hS 6 6 rfl rfl kpN),?_⟩
    refine e_end (by kernel_rfl) (n_jn ?_) _
    obtain rfl:=someI hj1
    exact ⟨b29,b28,q26,s26,q27,s27,q22,s22,q23,s23,_,_,rfl,hF.sub ⟨rfl,rfl,trivial⟩,hS.mask [true,true,true,true,true,true,false,false],h26,h27,h22,h23⟩
  ·refine e_alloc (cs:=[(iV 0),nilS.v,nilS.v,(iV 0)]) hF hS rfl rfl rfl rfl fun a w b29 hF hS=>e_all [2,6] (by kernel_rfl) rfl ⟨?_,?_,trivial⟩
   ·refine e_call (vs:=[s1.v,(.agg #[(iV p_a.Level),s2.v,s3.v,(iV p_a.Sum)])]) hF hS rfl Tryz.func46 (by kernel_rfl) rfl rfl rfl (c_spec_nNormal p_s p_a t_20 ht_20 _ m hS.vis s1 h1 s2 h2 s3 h3) ?_
    rintro a w _ ⟨q22,q23,s22,s23,rfl,hR21,h22,h23⟩ hF hS2
    have hS : St _ _ _ _ [q22,q23,[⟨b29,[(iV 0),nilS.v,nilS.v,(iV 0)],29⟩],[⟨b7,[(iV p_b.Level),s4.v,s5.v,(iV p_b.Sum)],29⟩],[⟨b6,[(iV p_a.Level),s2.v,s3.v,(iV p_a.Sum)],29⟩]]:=hS.joinF hR21
    refine e_all [5,6] (by kernel_rfl) rfl ⟨?_,?_,trivial⟩
    ·refine e_call (vs:=[s1.v,(.agg #[(iV p_b.Level),s4.v,s5.v,(iV p_b.Sum)])]) hF hS rfl Tryz.func46 (by kernel_rfl) rfl rfl rfl (c_spec_nNormal p_s p_b t_24 ht_24 _ m hS.vis s1 h1 s4 h4 s5 h5) ?_
     rintro a w _ ⟨q26,q27,s26,s27,rfl,hR25,h26,h27⟩ hF hS2
     have hS : St _ _ _ _ [q26,q27,q22,q23,[⟨b29,[(iV 0),nilS.v,nilS.v,(iV 0)],29⟩],[⟨b7,[(iV p_b.Level),s4.v,s5.v,(iV p_b.Sum)],29⟩],[⟨b6,[(iV p_a.Level),s2.v,s3.v,(iV p_a.Sum)],29⟩]]:=hS.joinF hR25
     refine e_one 6 (by kernel_rfl) (e_alloc (cs:=[(iV 0),nilS.v,nilS.v,(iV 0)]) hF hS rfl rfl rfl rfl fun a w b28 hF hS=>e_one 8 (by kernel_rfl) ?_)
     have hSo:=hS
     refine e_store (vs:=[(iV t_20.Level),s22.v,s23.v,(iV t_20.Sum)]) (cs':=[(iV t_20.Level),s22.v,s23.v,(iV t_20.Sum)]) 0 0 hF hS rfl rfl sz29 rfl rfl rfl rfl rfl rfl rfl rfl fun a w hF hS=>⟨kpC hSo hS 7 7 rfl rfl (kpC hSo hS 6 6 rfl rfl kpN),?_⟩
     refine e_one 9 (by kernel_rfl) ?_
     have hSo:=hS
     refine e_store (vs:=[(iV t_24.Level),s26.v,s27.v,(iV t_24.Sum)]) (cs':=[(iV t_24.Level),s26.v,s27.v,(iV t_24.Sum)]) 5 0 hF hS rfl rfl sz29 rfl rfl rfl rfl rfl rfl rfl rfl fun a w hF hS=>⟨kpC hSo hS 7 7 rfl rfl (kpC hSo hS 6 6 rfl rfl kpN),?_⟩
     refine e_end (by kernel_rfl) (n_jn ?_) _
     obtain rfl:=someI hj1
     exact ⟨b29,b28,q26,s26,q27,s27,q22,s22,q23,s23,_,_,rfl,hF.sub ⟨rfl,rfl,trivial⟩,hS.sel [1,2,3,4,5,0] (by decide),h26,h27,h22,h23⟩
    ·refine e_alloc (cs:=[(iV 0),nilS.v,nilS.v,(iV 0)]) hF hS rfl rfl rfl rfl fun a w b28 hF hS=>e_one 5 (by kernel_rfl) (e_call (vs:=[s1.v,(.agg #[(iV p_b.Level),s4.v,s5.v,(iV p_b.Sum)])]) hF hS rfl Tryz.func46 (by kernel_rfl) rfl rfl rfl (c_spec_nNormal p_s p_b t_24 ht_24 _ m hS.vis s1 h1 s4 h4 s5 h5) ?_)
     rintro a w _ ⟨q26,q27,s26,s27,rfl,hR25,h26,h27⟩ hF hS2
     have hS : St _ _ _ _ [q26,q27,[⟨b28,[(iV 0),nilS.v,nilS.v,(iV 0)],29⟩],q22,q23,[⟨b29,[(iV 0),nilS.v,nilS.v,(iV 0)],29⟩],[⟨b7,[(iV p_b.Level),s4.v,s5.v,(iV p_b.Sum)],29⟩],[⟨b6,[(iV p_a.Level),s2.v,s3.v,(iV p_a.Sum)],29⟩]]:=hS.joinF hR25
     refine e_one 8 (by kernel_rfl) ?_
     have hSo:=hS
     refine e_store (vs:=[(iV t_20.Level),s22.v,s23.v,(iV t_20.Sum)]) (cs':=[(iV t_20.Level),s22.v,s23.v,(iV t_20.Sum)]) 2 0 hF hS rfl rfl sz29 rfl rfl rfl rfl rfl rfl rfl rfl fun a w hF hS=>⟨kpC hSo hS 7 7 rfl rfl (kpC hSo hS 6 6 rfl rfl kpN),?_⟩
     refine e_one 9 (by kernel_rfl) ?_
     have hSo:=hS
     refine e_store (vs:=[(iV t_24.Level),s26.v,s27.v,(iV t_24.Sum)]) (cs':=[(iV t_24.Level),s26.v,s27.v,(iV t_24.Sum)]) 5 0 hF hS rfl rfl sz29 rfl rfl rfl rfl rfl rfl rfl rfl fun a w hF hS=>⟨kpC hSo hS 7 7 rfl rfl (kpC hSo hS 6 6 rfl rfl kpN),?_⟩
     refine e_end (by kernel_rfl) (n_jn ?_) _
     obtain rfl:=someI hj1
     exact ⟨b29,b28,q26,s26,q27,s27,q22,s22,q23,s23,_,_,rfl,hF.sub ⟨rfl,rfl,trivial⟩,hS.sel [0,1,3,4,5,2] (by decide),h26,h27,h22,h23⟩
   ·refine e_alloc (cs:=[(iV 0),nilS.v,nilS.v,(iV 0)]) hF hS rfl rfl rfl rfl fun a w b28 hF hS=>e_one 2 (by kernel_rfl) (e_call (vs:=[s1.v,(.agg #[(iV p_a.Level),s2.v,s3.v,(iV p_a.Sum)])]) hF hS rfl Tryz.func46 (by kernel_rfl) rfl rfl rfl (c_spec_nNormal p_s p_a t_20 ht_20 _ m hS.vis s1 h1 s2 h2 s3 h3) ?_)
    rintro a w _ ⟨q22,q23,s22,s23,rfl,hR21,h22,h23⟩ hF hS2
    have hS : St _ _ _ _ [q22,q23,[⟨b28,[(iV 0),nilS.v,nilS.v,(iV 0)],29⟩],[⟨b29,[(iV 0),nilS.v,nilS.v,(iV 0)],29⟩],[⟨b7,[(iV p_b.Level),s4.v,s5.v,(iV p_b.Sum)],29⟩],[⟨b6,[(iV p_a.Level),s2.v,s3.v,(iV p_a.Sum)],29⟩]]:=hS.joinF hR21
    refine e_one 5 (by kernel_rfl) (e_call (vs:=[s1.v,(.agg #[(iV p_b.Level),s4.v,s5.v,(iV p_b.Sum)])]) hF hS rfl Tryz.func46 (by kernel_rfl) rfl rfl rfl (c_spec_nNormal p_s p_b t_24 ht_24 _ m hS.vis s1 h1 s4 h4 s5 h5) ?_)
    rintro a w _ ⟨q26,q27,s26,s27,rfl,hR25,h26,h27⟩ hF hS2
    have hS : St _ _ _ _ [q26,q27,q22,q23,[⟨b28,[(iV 0),nilS.v,nilS.v,(iV 0)],29⟩],[⟨b29,[(iV 0),nilS.v,nilS.v,(iV 0)],29⟩],[⟨b7,[(iV p_b.Level),s4.v,s5.v,(iV p_b.Sum)],29⟩],[⟨b6,[(iV p_a.Level),s2.v,s3.v,(iV p_a.Sum)],29⟩]]:=hS.joinF hR25
    refine e_one 8 (by kernel_rfl) ?_
    have hSo:=hS
    refine e_store (vs:=[(iV t_20.Level),s22.v,s23.v,(iV t_20.Sum)]) (cs':=[(iV t_20.Level),s22.v,s23.v,(iV t_20.Sum)]) 4 0 hF hS rfl rfl sz29 rfl rfl rfl rfl rfl rfl rfl rfl fun a w hF hS=>⟨kpC hSo hS 7 7 rfl rfl (kpC hSo hS 6 6 rfl rfl kpN),?_⟩
    refine e_one 9 (by kernel_rfl) ?_
    have hSo:=hS
    refine e_store (vs:=[(iV t_24.Level),s26.v,s27.v,(iV t_24.Sum)]) (cs':=[(iV t_24.Level),s26.v,s27.v,(iV t_24.Sum)]) 5 0 hF hS rfl rfl sz29 rfl rfl rfl rfl rfl rfl rfl rfl fun a w hF hS=>⟨kpC hSo hS 7 7 rfl rfl (kpC hSo hS 6 6 rfl rfl kpN),?_⟩
    refine e_end (by kernel_rfl) (n_jn ?_) _
    obtain rfl:=someI hj1
    exact ⟨b29,b28,q26,s26,q27,s27,q22,s22,q23,s23,_,_,rfl,hF.sub ⟨rfl,rfl,trivial⟩,hS.sel [0,1,2,3,5,4] (by decide),h26,h27,h22,h23⟩
 ·rintro a w ⟨b29,b28,q31,s31,q32,s32,q34,s34,q35,s35,y_30,x_33,rfl,hF,hS,h31,h32,h34,h35⟩
  refine n_sq ?_
  refine q_seq ?_
  obtain ⟨t_40,hj2,hr⟩:=bindS hr
  refine q_join (fun a w=>Fr a 41 [(6,(.bool t_40))]∧St [] w0 w m []) ?_ ?_
  ·refine q_region (q_y (v:=(pP b28 0)) hF hS (ex_fieldAddr U29 rfl sz3 rfl rfl) fun a hF=>q_y (v:=(iV x_33.Level)) hF hS (ex_load1 5 0 U3 rfl rfl rfl rfl) fun a hF=>q_y (v:=(pP b29 0)) hF hS (ex_fieldAddr U29 rfl sz3 rfl rfl) fun a hF=>q_y (v:=(iV y_30.Level)) hF hS (ex_load1 4 0 U3 rfl rfl rfl rfl) fun a hF=>q_y (v:=(.bool (x_33.Level == y_30.Level))) hF hS (ex_ibin rfl rfl rfl) fun a hF=>q_m hF rfl fun a hF=>?_)
   rcases bcase (x_33.Level == y_30.Level) with hc3 | hc3
   ·have hj2:=cond_f hc3 hj2
    refine q_k hF hc3 fun a hF=>q_k hF hc3 fun a hF=>q_k hF hc3 fun a hF=>q_k hF hc3 fun a hF=>q_k hF hc3 fun a hF=>q_y (v:=(.bool false)) hF hS (ex_pick_f rfl rfl hc3) fun a hF=>q_m hF rfl fun a hF=>q_k hF rfl fun a hF=>q_k hF rfl fun a hF=>q_k hF rfl fun a hF=>q_k hF rfl fun a hF=>q_k hF rfl fun a hF=>q_y (v:=(.bool false)) hF hS (ex_pick_f rfl rfl rfl) fun a hF=>q_m hF rfl fun a hF=>q_k hF rfl fun a hF=>q_k hF rfl fun a hF=>q_k hF rfl fun a hF=>q_k hF rfl fun a hF=>q_k hF rfl fun a hF=>q_y (v:=(.bool false)) hF hS (ex_pick_f rfl rfl rfl) fun a hF=>q_s hF rfl fun a hF=>q_end (n_jn ?_)
    obtain rfl:=someI hj2
    exact ⟨hF.sub ⟨rfl,trivial⟩,hS.mask [false,false,false,false,false,false]⟩
   ·have hj2:=cond_t hc3 hj2
    refine q_g (v:=(pP b28 1)) hF hS (ex_fieldAddr U29 rfl sz24 rfl rfl) hc3 fun a hF=>q_g (v:=s34.v) hF hS (ex_load1 5 0 U24 rfl rfl rfl rfl) hc3 fun a hF=>q_g (v:=(pP b29 1)) hF hS (ex_fieldAddr U29 rfl sz24 rfl rfl) hc3 fun a hF=>q_g (v:=s31.v) hF hS (ex_load1 4 0 U24 rfl rfl rfl rfl) hc3 fun a hF=>?_
    obtain ⟨m37,hl37,hv37,hz37⟩:=hS.lend
    obtain ⟨t_36,ht_36,hj2⟩:=bindS hj2
    refine q_callg (vs:=[s34.v,s31.v]) hF hS (wanted_t hF rfl rfl rfl hc3) Tryz.func95 (by kernel_rfl) rfl rfl rfl (c_spec_l1Same x_33.Vars y_30.Vars t_36 ht_36 _ m37 hv37 s34 (h34.froz hl37 (hz37 2 _ rfl)) s31 (h31.froz hl37 (hz37 0 _ rfl))) ?_
    rintro a w _ rfl hF hS
    refine q_y (v:=(.bool t_36)) hF hS (ex_pick_t rfl rfl hc3) fun a hF=>q_m hF rfl fun a hF=>?_
    rcases bcase (t_36) with hc4 | hc4
    ·have hj2:=cond_f hc4 hj2
     refine q_k hF hc4 fun a hF=>q_k hF hc4 fun a hF=>q_k hF hc4 fun a hF=>q_k hF hc4 fun a hF=>q_k hF hc4 fun a hF=>q_y (v:=(.bool false)) hF hS (ex_pick_f rfl rfl hc4) fun a hF=>q_m hF rfl fun a hF=>q_k hF rfl fun a hF=>q_k hF rfl fun a hF=>q_k hF rfl fun a hF=>q_k hF rfl fun a hF=>q_k hF rfl fun a hF=>q_y (v:=(.bool false)) hF hS (ex_pick_f rfl rfl rfl) fun a hF=>q_s hF rfl fun a hF=>q_end (n_jn ?_)
     obtain rfl:=someI hj2
     exact ⟨hF.sub ⟨rfl,trivial⟩,hS.mask [false,false,false,false,false,false]⟩
    ·have hj2:=cond_t hc4 hj2
     refine q_g (v:=(pP b28 2)) hF hS (ex_fieldAddr U29 rfl sz24 rfl rfl) hc4 fun a hF=>q_g (v:=s35.v) hF hS (ex_load1 5 0 U24 rfl rfl rfl rfl) hc4 fun a hF=>q_g (v:=(pP b29 2)) hF hS (ex_fieldAddr U29 rfl sz24 rfl rfl) hc4 fun a hF=>q_g (v:=s32.v) hF hS (ex_load1 4 0 U24 rfl rfl rfl rfl) hc4 fun a hF=>?_
     obtain ⟨m39,hl39,hv39,hz39⟩:=hS.lend
     obtain ⟨t_38,ht_38,hj2⟩:=bindS hj2
     refine q_callg (vs:=[s35.v,s32.v]) hF hS (wanted_t hF rfl rfl rfl hc4) Tryz.func95 (by kernel_rfl) rfl rfl rfl (c_spec_l1Same x_33.Where y_30.Where t_38 ht_38 _ m39 hv39 s35 (h35.froz hl39 (hz39 3 _ rfl)) s32 (h32.froz hl39 (hz39 1 _ rfl))) ?_
     rintro a w _ rfl hF hS
     refine q_y (v:=(.bool t_38)) hF hS (ex_pick_t rfl rfl hc4) fun a hF=>q_m hF rfl fun a hF=>?_
     rcases bcase (t_38) with hc5 | hc5
     ·have hj2:=cond_f hc5 hj2
      refine q_k hF hc5 fun a hF=>q_k hF hc5 fun a hF=>q_k hF hc5 fun a hF=>q_k hF hc5 fun a hF=>q_k hF hc5 fun a hF=>q_y (v:=(.bool false)) hF hS (ex_pick_f rfl rfl hc5) fun a hF=>q_s hF rfl fun a hF=>q_end (n_jn ?_)
      obtain rfl:=someI hj2
      exact ⟨hF.sub ⟨rfl,trivial⟩,hS.mask [false,false,false,false,false,false]⟩
     ·have hj2:=cond_t hc5 hj2
      refine q_g (v:=(pP b28 3)) hF hS (ex_fieldAddr U29 rfl sz3 rfl rfl) hc5 fun a hF=>q_g (v:=(iV x_33.Sum)) hF hS (ex_load1 5 0 U3 rfl rfl rfl rfl) hc5 fun a hF=>q_g (v:=(pP b29 3)) hF hS (ex_fieldAddr U29 rfl sz3 rfl rfl) hc5 fun a hF=>q_g (v:=(iV y_30.Sum)) hF hS (ex_load1 4 0 U3 rfl rfl rfl rfl) hc5 fun a hF=>q_g (v:=(.bool (x_33.Sum == y_30.Sum))) hF hS (ex_ibin rfl rfl rfl) hc5 fun a hF=>q_y (v:=(.bool (x_33.Sum == y_30.Sum))) hF hS (ex_pick_t rfl rfl hc5) fun a hF=>q_s hF rfl fun a hF=>q_end (n_jn ?_)
      obtain rfl:=someI hj2
      exact ⟨hF.sub ⟨rfl,trivial⟩,hS.mask [false,false,false,false,false,false]⟩
  ·rintro a w ⟨hF,hS⟩
   refine n_sq (q_ret ?_)
   obtain rfl:=someI hr
   exact ret_of hF hS rfl (.tmp rfl .nil) rfl

theorem c_spec_MergePlans (p_g : impl_Geo) (p_s : List impl_Variable) (p_a : List impl_Table) (p_b : List impl_Table) (r : (List impl_Table) × Bool) (hr : spec_MergePlans p_g p_s p_a p_b = some r) (w0 : World) (m : Mem) (hv : Vis m w0) (s1 : Sl) (h1 : Rd m s1 p_g.Parents) (s2 : Sl) (h2 : Rd m s2 p_s) (s3 : Sl) (h3 : Rd m s3 p_a) (s4 : Sl) (h4 : Rd m s4 p_b) :
  Ret Tryz.prog 26 [(.agg #[s1.v]),s2.v,s3.v,s4.v] w0 (fun v w=>∃ (m' : Mem) (q0' : Piece) (s0' : Sl),v = (.tuple #[s0'.v,(.bool r.2)])∧MLe [] w0.heap.size m m'∧St [] w0 w m' [q0']∧OwnL m' 29 q0' s0' r.1):=by
 unfold spec_MergePlans at hr
 refine ret_start Tryz.func26 rfl 64 rfl rfl m hv fun a hF hS=>q_sr (q_box (cs:=[s1.v]) hF hS rfl rfl rfl fun a w b5 hF hS=>q_s hF rfl fun a hF=>q_s hF rfl fun a hF=>q_end (n_sq (q_seq (q_seq ?_))))
 obtain ⟨t_8,hj1,hr⟩:=bindS hr
 refine q_join (fun a w=>Fr a 64 [(1,s2.v),(2,s3.v),(3,s4.v),(27,(.bool t_8))]∧St [] w0 w m []) ?_ ?_
 ·refine q_region (q_y (v:=(.agg #[s1.v])) hF hS (ex_loadA (vs:=[s1.v]) 0 0 U26 rfl sz26 rfl rfl rfl rfl) fun a hF=>q_m hF rfl fun a hF=>q_m hF rfl fun a hF=>?_)
  obtain ⟨t_6,ht_6,hj1⟩:=bindS hj1
  refine q_call (vs:=[(.agg #[s1.v]),s2.v,s3.v]) hF hS Tryz.func51 (by kernel_rfl) rfl rfl rfl (c_spec_nPlan p_g p_s p_a t_6 ht_6 _ m hS.vis s1 h1 s2 h2 s3 h3) ?_
  rintro a w _ rfl hF hS
  refine q_y (v:=(.bool (!t_6))) hF hS (ex_not rfl) fun a hF=>q_m hF rfl fun a hF=>?_
  rcases bcase (!t_6) with hc2 | hc2
  ·have hj1:=cond_f hc2 hj1
   refine q_g (v:=(.agg #[s1.v])) hF hS (ex_loadA (vs:=[s1.v]) 0 0 U26 rfl sz26 rfl rfl rfl rfl) hc2 fun a hF=>q_g (v:=s2.v) hF hS (ex_move rfl) hc2 fun a hF=>q_g (v:=s4.v) hF hS (ex_move rfl) hc2 fun a hF=>?_
   obtain ⟨t_7,ht_7,hj1⟩:=bindS hj1
   refine q_callg (vs:=[(.agg #[s1.v]),s2.v,s4.v]) hF hS (wanted_t hF rfl rfl rfl hc2) Tryz.func51 (by kernel_rfl) rfl rfl rfl (c_spec_nPlan p_g p_s p_b t_7 ht_7 _ m hS.vis s1 h1 s2 h2 s4 h4) ?_
   rintro a w _ rfl hF hS
   refine q_g (v:=(.bool (!t_7))) hF hS (ex_not rfl) hc2 fun a hF=>q_y (v:=(.bool (!t_7))) hF hS (ex_pick_f rfl rfl hc2) fun a hF=>q_end (n_jn ?_)
   obtain rfl:=someI hj1
   exact ⟨hF.sub ⟨rfl,rfl,rfl,rfl,trivial⟩,hS.mask [false]⟩
  ·have hj1:=cond_t hc2 hj1
   refine q_k hF hc2 fun a hF=>q_k hF hc2 fun a hF=>q_k hF hc2 fun a hF=>q_k hF hc2 fun a hF=>q_k hF hc2 fun a hF=>q_y (v:=(.bool true)) hF hS (ex_pick_t rfl rfl hc2) fun a hF=>q_end (n_jn ?_)
   obtain rfl:=someI hj1
   exact ⟨hF.sub ⟨rfl,rfl,rfl,rfl,trivial⟩,hS.mask [false]⟩
 ·rintro a w ⟨hF,hS⟩
  refine n_sq ?_
  rcases bcase (t_8) with hc3 | hc3
  ·have hr:=cond_f hc3 hr
   refine q_cond_f hF rfl hc3 (q_skipc (n_sq (q_sr (q_s hF rfl fun a hF=>q_end (n_sq (q_seq (q_sr (q_do rfl fun _ hK=>wp_build0 (α:=impl_Table) hF hS U44 inf29 rfl fun a w q9 s9 hF hS h9 _=>hK _ _ (q_m hF rfl fun a hF=>?_)))))))))
   obtain ⟨l_10,hl_10,hr⟩:=bindS hr
   refine q_do rfl fun _ hK=>wp_append hF hS h9 U44 inf29 rfl rfl rfl rfl (h3.vw hS.vis) rfl (by decide) hl_10 rfl fun a w q11 s11 hF hS h11=>hK _ _ (q_m hF rfl fun a hF=>?_)
   obtain ⟨l_12,hl_12,hr⟩:=bindS hr
   refine q_do rfl fun _ hK=>wp_append hF hS h11 U44 inf29 rfl rfl rfl rfl (h4.vw hS.vis) rfl (by decide) hl_12 rfl fun a w q13 s13 hF hS h13=>hK _ _ (q_y (v:=(iV (goLen l_12))) hF hS (ex_len U44 rfl h13.len) fun a hF=>q_m hF rfl fun a hF=>q_end (n_sq (q_block ?_)))
   obtain ⟨out_45,hl4,hr⟩:=bindS hr
   refine q_loop (fun (s : (List impl_Table) × Int) a w=>∃ (m17 : Mem),∃ (q15 : Piece),∃ (s15 : Sl),∃ out_14,∃ t_16,s = (out_14,t_16)∧Fr a 64 [(1,s2.v),(10,s15.v),(32,s13.v),(33,(iV (goLen l_12))),(34,(iV t_16))]∧St [] w0 w m17 [q15,q13]∧MLe [] w0.heap.size m m17∧OwnL m17 29 q15 s15 out_14) (fun (out_45 : (List impl_Table)) e a w=>∃ (m47 : Mem),∃ (q46 : Piece),∃ (s46 : Sl),e = .exit 0∧Fr a 64 [(10,s46.v)]∧St [] w0 w m47 [q46]∧MLe [] w0.heap.size m m47∧OwnL m47 29 q46 s46 out_45) hl4 ⟨m,[],nilS,_,_,rfl,hF.sub ⟨rfl,rfl,rfl,rfl,rfl,trivial⟩,hS.sel [1,0] (by decide),(MLe.refl _ _),(OwnL.nil (α:=impl_Table) m 29)⟩ ?_ ?_
   ·clear hF hS
    rintro s a w st ⟨m17,q15,s15,out_14,t_16,rfl,hF,hS,hm17,h15⟩ hb4
    unfold spec_MergePlans_l1 at hb4
    refine q_sr (q_y (v:=(.bool (decide (t_16 < (goLen l_12))))) hF hS (ex_ibin rfl rfl rfl) fun a hF=>q_end (n_sq (q_seq ?_)))
    rcases bcase (decide (t_16 < (goLen l_12))) with hc5 | hc5
    ·have hb4:=cond_f hc5 hb4
     refine q_cond_f hF rfl hc5 (q_exit (x_sq ?_))
     obtain rfl:=someI hb4
     exact ⟨nofun,.inl ⟨m17,q15,s15,rfl,hF.sub ⟨rfl,trivial⟩,hS.mask [true,false],hm17,h15⟩⟩
    ·have hb4:=cond_t hc5 hb4
     refine q_cond_t hF rfl hc5 (q_skipc (n_sq (q_seq (q_block (q_seq (q_region ?_))))))
     obtain ⟨e_18,he_18,hb4⟩:=bindS hb4
     obtain ⟨vs19,at19,d19⟩:=(h13.mono hm17.le).at he_18 4 rfl
     obtain ⟨s20,s21,rfl,h20,h21⟩ : ∃ s20 s21 : Sl,vs19 = [(iV e_18.Level),s20.v,s21.v,(iV e_18.Sum)]∧Rd m17 s20 e_18.Vars∧Rd m17 s21 e_18.Where:=d19
     refine q_y (v:=(elP s13 (t_16.toNat * 4))) hF hS (ex_indexAddr U44 sz29 rfl rfl ((h13.mono hm17.le).idx he_18)) fun a hF=>q_y (v:=(.agg #[(iV e_18.Level),s20.v,s21.v,(iV e_18.Sum)])) hF hS (ex_loadEA (us:=[(iV e_18.Level),s20.v,s21.v,(iV e_18.Sum)]) 0 U29 rfl sz29 rfl (at19.at 1 rfl) rfl rfl rfl) fun a hF=>q_alloc (cs:=[(iV 0),nilS.v,nilS.v,(iV 0)]) hF hS rfl rfl rfl fun a w b22 hF hS=>q_store (vs:=[(iV e_18.Level),s20.v,s21.v,(iV e_18.Sum)]) (cs':=[(iV e_18.Level),s20.v,s21.v,(iV e_18.Sum)]) 0 0 hF hS sz29 rfl rfl rfl rfl rfl rfl rfl rfl fun a w hF hS=>q_end (n_sq (q_sr (q_s hF rfl fun a hF=>q_end (n_sq (q_seq (q_sr (q_m hF rfl fun a hF=>q_y (v:=(iV (goLen out_14))) hF hS (ex_len U44 rfl h15.len) fun a hF=>q_m hF rfl fun a hF=>q_end (n_sq (q_block ?_)))))))))
     obtain ⟨known_32,hl6,hb4⟩:=bindS hb4
     refine q_loop (fun (s : Bool × Int) a w=>∃ known_23,∃ t_24,s = (known_23,t_24)∧Fr a 64 [(1,s2.v),(10,s15.v),(12,(pP b22 0)),(13,(.bool known_23)),(32,s13.v),(33,(iV (goLen l_12))),(34,(iV t_16)),(38,s15.v),(39,(iV (goLen out_14))),(40,(iV t_24))]∧St [] w0 w m17 [[⟨b22,[(iV e_18.Level),s20.v,s21.v,(iV e_18.Sum)],29⟩],q15,q13]) (fun (known_32 : Bool) e a w=>e = .exit 2∧Fr a 64 [(1,s2.v),(10,s15.v),(12,(pP b22 0)),(13,(.bool known_32)),(32,s13.v),(33,(iV (goLen l_12))),(34,(iV t_16))]∧St [] w0 w m17 [q15,q13,[⟨b22,[(iV e_18.Level),s20.v,s21.v,(iV e_18.Sum)],29⟩]]) hl6 ⟨_,_,rfl,hF.sub ⟨rfl,rfl,rfl,rfl,rfl,rfl,rfl,rfl,rfl,rfl,trivial⟩,hS⟩ ?_ ?_
     ·clear hF hS
      rintro s a w st ⟨known_23,t_24,rfl,hF,hS⟩ hb6
      unfold spec_MergePlans_l2 at hb6
      refine q_sr (q_y (v:=(.bool (decide (t_24 < (goLen out_14))))) hF hS (ex_ibin rfl rfl rfl) fun a hF=>q_end (n_sq (q_seq ?_)))
      rcases bcase (decide (t_24 < (goLen out_14))) with hc7 | hc7
      ·have hb6:=cond_f hc7 hb6
       refine q_cond_f hF rfl hc7 (q_exit (x_sq ?_))
       obtain rfl:=someI hb6
       exact ⟨nofun,.inl ⟨rfl,hF.sub ⟨rfl,rfl,rfl,rfl,rfl,rfl,rfl,trivial⟩,hS.sel [1,2,0] (by decide)⟩⟩
      ·have hb6:=cond_t hc7 hb6
       refine q_cond_t hF rfl hc7 (q_skipc (n_sq (q_seq (q_block (q_seq (q_region ?_))))))
       obtain ⟨e_25,he_25,hb6⟩:=bindS hb6
       obtain ⟨vs26,at26,d26⟩:=h15.at he_25 4 rfl
       obtain ⟨s27,s28,rfl,h27,h28⟩ : ∃ s27 s28 : Sl,vs26 = [(iV e_25.Level),s27.v,s28.v,(iV e_25.Sum)]∧Rd m17 s27 e_25.Vars∧Rd m17 s28 e_25.Where:=d26
       refine q_y (v:=(elP s15 (t_24.toNat * 4))) hF hS (ex_indexAddr U44 sz29 rfl rfl (h15.idx he_25)) fun a hF=>q_y (v:=(.agg #[(iV e_25.Level),s27.v,s28.v,(iV e_25.Sum)])) hF hS (ex_loadEA (us:=[(iV e_25.Level),s27.v,s28.v,(iV e_25.Sum)]) 0 U29 rfl sz29 rfl (at26.at 1 rfl) rfl rfl rfl) fun a hF=>q_alloc (cs:=[(iV 0),nilS.v,nilS.v,(iV 0)]) hF hS rfl rfl rfl fun a w b29 hF hS=>q_store (vs:=[(iV e_25.Level),s27.v,s28.v,(iV e_25.Sum)]) (cs':=[(iV e_25.Level),s27.v,s28.v,(iV e_25.Sum)]) 0 0 hF hS sz29 rfl rfl rfl rfl rfl rfl rfl rfl fun a w hF hS=>q_end (n_sq ?_)
       obtain ⟨known_31,hj8,hb6⟩:=bindS hb6
       refine q_join (fun a w=>Fr a 64 [(1,s2.v),(10,s15.v),(12,(pP b22 0)),(13,(.bool known_31)),(32,s13.v),(33,(iV (goLen l_12))),(34,(iV t_16)),(38,s15.v),(39,(iV (goLen out_14))),(40,(iV t_24))]∧St [] w0 w m17 [q15,q13,[⟨b22,[(iV e_18.Level),s20.v,s21.v,(iV e_18.Sum)],29⟩]]) ?_ ?_
       ·refine q_region (q_m hF rfl fun a hF=>q_m hF rfl fun a hF=>?_)
        rcases bcase (known_23) with hc9 | hc9
        ·have hj8:=cond_f hc9 hj8
         refine q_g (v:=s2.v) hF hS (ex_move rfl) hc9 fun a hF=>q_g (v:=(.agg #[(iV e_18.Level),s20.v,s21.v,(iV e_18.Sum)])) hF hS (ex_loadA (vs:=[(iV e_18.Level),s20.v,s21.v,(iV e_18.Sum)]) 1 0 U29 rfl sz29 rfl rfl rfl rfl) hc9 fun a hF=>q_g (v:=(.agg #[(iV e_25.Level),s27.v,s28.v,(iV e_25.Sum)])) hF hS (ex_loadA (vs:=[(iV e_25.Level),s27.v,s28.v,(iV e_25.Sum)]) 0 0 U29 rfl sz29 rfl rfl rfl rfl) hc9 fun a hF=>?_
         obtain ⟨t_30,ht_30,hj8⟩:=bindS hj8
         refine q_callg (vs:=[s2.v,(.agg #[(iV e_18.Level),s20.v,s21.v,(iV e_18.Sum)]),(.agg #[(iV e_25.Level),s27.v,s28.v,(iV e_25.Sum)])]) hF hS (wanted_t hF rfl rfl rfl hc9) Tryz.func47 (by kernel_rfl) rfl rfl rfl (c_spec_nSame p_s e_18 e_25 t_30 ht_30 _ m17 hS.vis s2 (h2.mono hm17.le) s20 h20 s21 h21 s27 h27 s28 h28) ?_
         rintro a w _ rfl hF hS
         refine q_y (v:=(.bool t_30)) hF hS (ex_pick_f rfl rfl hc9) fun a hF=>q_s hF rfl fun a hF=>q_end (n_jn ?_)
         obtain rfl:=someI hj8
         exact ⟨hF.sub ⟨rfl,rfl,rfl,rfl,rfl,rfl,rfl,rfl,rfl,rfl,trivial⟩,hS.sel [2,3,1] (by decide)⟩
        ·have hj8:=cond_t hc9 hj8
         refine q_k hF hc9 fun a hF=>q_k hF hc9 fun a hF=>q_k hF hc9 fun a hF=>q_k hF hc9 fun a hF=>q_y (v:=(.bool true)) hF hS (ex_pick_t rfl rfl hc9) fun a hF=>q_s hF rfl fun a hF=>q_end (n_jn ?_)
         obtain rfl:=someI hj8
         exact ⟨hF.sub ⟨rfl,rfl,rfl,rfl,rfl,rfl,rfl,rfl,rfl,rfl,trivial⟩,hS.sel [2,3,1] (by decide)⟩
       ·rintro a w ⟨hF,hS⟩
        refine n_ib (n_sq ?_)
        refine q_region (q_y (v:=(iV (w64 (t_24 + 1)))) hF hS (ex_ibin rfl rfl rfl) fun a hF=>q_m hF rfl fun a hF=>q_end ?_)
        obtain rfl:=someI hb6
        exact ⟨rfl,_,_,rfl,hF.sub ⟨rfl,rfl,rfl,rfl,rfl,rfl,rfl,rfl,rfl,rfl,trivial⟩,hS.sel [2,0,1] (by decide)⟩
     ·rintro e a w ⟨rfl,hF,hS⟩
      refine x_ib (n_sq ?_)
      refine q_sr (q_m hF rfl fun a hF=>q_y (v:=(.bool (!known_32))) hF hS (ex_not rfl) fun a hF=>q_end (n_sq ?_))
      obtain ⟨out_42,hj10,hb4⟩:=bindS hb4
      refine q_join (fun a w=>∃ (m44 : Mem),∃ (q43 : Piece),∃ (s43 : Sl),Fr a 64 [(1,s2.v),(10,s43.v),(32,s13.v),(33,(iV (goLen l_12))),(34,(iV t_16))]∧St [] w0 w m44 [q43,q13]∧MLe [] w0.heap.size m17 m44∧OwnL m44 29 q43 s43 out_42) ?_ ?_
      ·rcases bcase (!known_32) with hc11 | hc11
       ·have hj10:=cond_f hc11 hj10
        refine q_cond_f hF rfl hc11 (q_skipc (n_jn ?_))
        obtain rfl:=someI hj10
        exact ⟨m17,q15,s15,hF.sub ⟨rfl,rfl,rfl,rfl,rfl,trivial⟩,hS.mask [true,true,false],(MLe.refl _ _),h15⟩
       ·have hj10:=cond_t hc11 hj10
        refine q_cond_t hF rfl hc11 (q_region (q_m hF rfl fun a hF=>q_y (v:=(.agg #[(iV e_18.Level),s20.v,s21.v,(iV e_18.Sum)])) hF hS (ex_loadA (vs:=[(iV e_18.Level),s20.v,s21.v,(iV e_18.Sum)]) 2 0 U29 rfl sz29 rfl rfl rfl rfl) fun a hF=>?_))
        obtain ⟨t_33,ht_33,hj10⟩:=bindS hj10
        refine q_call (vs:=[(.agg #[(iV e_18.Level),s20.v,s21.v,(iV e_18.Sum)])]) hF hS Tryz.func58 (by kernel_rfl) rfl rfl rfl (c_spec_nOwn e_18 t_33 ht_33 _ m17 hS.vis s20 h20 s21 h21) ?_
        rintro a w _ ⟨q35,q36,s35,s36,rfl,hR34,h35,h36⟩ hF hS2
        have hS : St _ _ _ _ [q35,q36,q15,q13,[⟨b22,[(iV e_18.Level),s20.v,s21.v,(iV e_18.Sum)],29⟩]]:=hS.joinF hR34
        obtain ⟨m38,hm38,hS,hz38⟩:=hS.freeze
        have h38:=h35.froz hm38.le hz38
        obtain ⟨m39,hm39,hS,hz39⟩:=hS.freeze
        have h39:=(h36.mono hm38.le).froz hm39.le hz39
        refine q_do rfl fun _ hK=>wp_buildSlice' (l:=([t_33] : List impl_Table)) (cells:=[(iV t_33.Level),s35.v,s36.v,(iV t_33.Sum)]) hF hS U44 inf29 rfl rfl (by kernel_rfl) rfl rfl rfl ⟨⟨s35,s36,rfl,(h38.mono hm39.le),h39⟩,rfl⟩ rfl rfl fun a w q37 s37 hF hS h37 _=>hK _ _ ?_
        have hS : St _ _ _ _ [q15,q37,q13,[⟨b22,[(iV e_18.Level),s20.v,s21.v,(iV e_18.Sum)],29⟩]]:=hS.sel [1,0,2,3] (by decide)
        obtain ⟨l_40,hl_40,hj10⟩:=bindS hj10
        refine q_do rfl fun _ hK=>wp_append hF hS ((h15.mono hm38.le).mono hm39.le) U44 inf29 rfl rfl rfl rfl (h37.vw hS (j:=1) rfl) rfl (by decide) hl_40 rfl fun a w q41 s41 hF hS h41=>hK _ _ (q_s hF rfl fun a hF=>q_end (n_jn ?_))
        obtain rfl:=someI hj10
        exact ⟨m39,q41,s41,hF.sub ⟨rfl,rfl,rfl,rfl,rfl,trivial⟩,hS.mask [true,false,true,false],(hm38.trans hm39),h41⟩
      ·rintro a w ⟨m44,q43,s43,hF,hS,hm44,h43⟩
       refine n_ib (n_sq ?_)
       refine q_region (q_y (v:=(iV (w64 (t_16 + 1)))) hF hS (ex_ibin rfl rfl rfl) fun a hF=>q_m hF rfl fun a hF=>q_end ?_)
       obtain rfl:=someI hb4
       exact ⟨rfl,m44,q43,s43,_,_,rfl,hF.sub ⟨rfl,rfl,rfl,rfl,rfl,trivial⟩,hS,(hm17.trans hm44),h43⟩
   ·rintro e a w ⟨m47,q46,s46,rfl,hF,hS,hm47,h46⟩
    refine x_ib (n_sq ?_)
    refine q_seq (q_sr (q_m hF rfl fun a hF=>q_y (v:=(iV (goLen out_45))) hF hS (ex_len U44 rfl h46.len) fun a hF=>q_y (v:=(.bool (decide (20 < (goLen out_45))))) hF hS (ex_ibin rfl rfl rfl) fun a hF=>q_end (n_sq ?_)))
    rcases bcase (decide (20 < (goLen out_45))) with hc12 | hc12
    ·have hr:=cond_f hc12 hr
     refine q_cond_f hF rfl hc12 (q_skipc (n_sq (q_sr (q_m hF rfl fun a hF=>q_s hF rfl fun a hF=>q_s hF rfl fun a hF=>q_end (n_sq (q_ret ?_))))))
     obtain rfl:=someI hr
     exact ret_of hF hS rfl (.tmp rfl (.tmp rfl .nil)) ⟨m47,q46,s46,rfl,hm47,hS.sel [0] (by decide),h46⟩
    ·have hr:=cond_t hc12 hr
     refine q_cond_t hF rfl hc12 (q_sr (q_s hF rfl fun a hF=>q_s hF rfl fun a hF=>q_end (n_sq (q_ret (r_sq ?_)))))
     obtain rfl:=someI hr
     exact ret_of hF hS rfl (.tmp rfl (.tmp rfl .nil)) ⟨m47,[],nilS,rfl,hm47,hS.sel [1] (by decide),(OwnL.nil (α:=impl_Table) m47 29)⟩
  ·have hr:=cond_t hc3 hr
   refine q_cond_t hF rfl hc3 (q_sr (q_s hF rfl fun a hF=>q_s hF rfl fun a hF=>q_end (n_sq (q_ret (r_sq ?_)))))
   obtain rfl:=someI hr
   exact ret_of hF hS rfl (.tmp rfl (.tmp rfl .nil)) ⟨m,[],nilS,rfl,(MLe.refl _ _),hS.sel [0] (by decide),(OwnL.nil (α:=impl_Table) m 29)⟩

theorem c_slices_Index_int_int (p_s : List Int) (p_v : Int) (r : Int) (hr : slices_Index_int_int p_s p_v = some r) (w0 : World) (m : Mem) (hv : Vis m w0) (s1 : Sl) (h1 : Rd m s1 p_s) :
  Ret Tryz.prog 132 [s1.v,(iV p_v)] w0 (fun v _=>v = (iV r)):=by
 unfold slices_Index_int_int at hr
 refine ret_start Tryz.func132 rfl 19 rfl rfl m hv fun a hF hS=>q_sr (q_s hF rfl fun a hF=>q_end (n_sq (q_seq (q_sr (q_m hF rfl fun a hF=>q_y (v:=(iV (goLen p_s))) hF hS (ex_len U24 rfl h1.len) fun a hF=>q_m hF rfl fun a hF=>q_end (n_sq (q_block ?_)))))))
 obtain ⟨o1,hl1,hr⟩:=bindS hr
 refine q_loop (fun (t_2 : Int) a w=>Fr a 19 [(0,s1.v),(1,(iV p_v)),(7,(iV (goLen p_s))),(8,(iV t_2))]∧St [] w0 w m []) (fun (o : (Unit) ⊕ (Int)) e a w=>o = .inl ()∧e = .exit 0∧Fr a 19 []∧St [] w0 w m []) hl1 ⟨hF.sub ⟨rfl,rfl,rfl,rfl,trivial⟩,hS⟩ ?_ ?_
 ·clear hF hS
  rintro t_2 a w st ⟨hF,hS⟩ hb1
  unfold slices_Index_int_int_l1 at hb1
  refine q_sr (q_y (v:=(.bool (decide (t_2 < (goLen p_s))))) hF hS (ex_ibin rfl rfl rfl) fun a hF=>q_end (n_sq (q_seq ?_)))
  rcases bcase (decide (t_2 < (goLen p_s))) with hc2 | hc2
  ·have hb1:=cond_f hc2 hb1
   refine q_cond_f hF rfl hc2 (q_exit (x_sq ?_))
   obtain rfl:=someI hb1
   exact ⟨nofun,.inl ⟨rfl,rfl,hF.sub trivial,hS⟩⟩
  ·have hb1:=cond_t hc2 hb1
   refine q_cond_t hF rfl hc2 (q_skipc (n_sq (q_seq (q_block (q_sr (q_m hF rfl fun a hF=>q_s hF rfl fun a hF=>q_end (n_sq (q_sr (q_m hF rfl fun a hF=>q_m hF rfl fun a hF=>q_m hF rfl fun a hF=>?_)))))))))
   obtain ⟨e_3,he_3,hb1⟩:=bindS hb1
   obtain ⟨vs4,at4,d4⟩:=h1.at he_3 1 rfl
   obtain rfl : vs4 = [(iV e_3)]:=d4
   refine q_y (v:=(elP s1 (t_2.toNat * 1))) hF hS (ex_indexAddr U24 sz3 rfl rfl (h1.idx he_3)) fun a hF=>q_y (v:=(iV e_3)) hF hS (ex_loadE1 0 U3 rfl rfl ((at4).at) rfl rfl) fun a hF=>q_y (v:=(.bool (p_v == e_3))) hF hS (ex_ibin rfl rfl rfl) fun a hF=>q_end (n_sq ?_)
   rcases bcase (p_v == e_3) with hc3 | hc3
   ·have hb1:=cond_f hc3 hb1
    refine q_cond_f hF rfl hc3 (q_skipc (n_ib (n_sq (q_region (q_y (v:=(iV (w64 (t_2 + 1)))) hF hS (ex_ibin rfl rfl rfl) fun a hF=>q_m hF rfl fun a hF=>q_end ?_)))))
    obtain rfl:=someI hb1
    exact ⟨rfl,hF.sub ⟨rfl,rfl,rfl,rfl,trivial⟩,hS⟩
   ·have hb1:=cond_t hc3 hb1
    refine q_cond_t hF rfl hc3 (q_sr (q_m hF rfl fun a hF=>q_s hF rfl fun a hF=>q_end (n_sq (q_ret (r_ib (r_sq ?_))))))
    obtain rfl:=someI hb1
    refine ⟨nofun,.inr fun ho=>?_⟩
    subst ho
    refine r_ib (r_sq ?_)
    obtain rfl:=someI hr
    exact ret_of hF hS rfl (.tmp rfl .nil) rfl
 ·rintro e a w ⟨rfl,rfl,hF,hS⟩
  refine x_ib (n_sq ?_)
  refine q_sr (q_s hF rfl fun a hF=>q_end (n_sq (q_ret ?_)))
  obtain rfl:=someI hr
  exact ret_of hF hS rfl (.tmp rfl .nil) rfl

theorem c_slices_Contains_int_int (p_s : List Int) (p_v : Int) (r : Bool) (hr : slices_Contains_int_int p_s p_v = some r) (w0 : World) (m : Mem) (hv : Vis m w0) (s1 : Sl) (h1 : Rd m s1 p_s) :
  Ret Tryz.prog 103 [s1.v,(iV p_v)] w0 (fun v _=>v = (.bool r)):=by
 unfold slices_Contains_int_int at hr
 refine ret_start Tryz.func103 rfl 9 rfl rfl m hv fun a hF hS=>q_sr (q_s hF rfl fun a hF=>q_end (n_sq (q_sr (q_m hF rfl fun a hF=>q_m hF rfl fun a hF=>?_))))
 obtain ⟨t_2,ht_2,hr⟩:=bindS hr
 refine q_call (vs:=[s1.v,(iV p_v)]) hF hS Tryz.func132 (by kernel_rfl) rfl rfl rfl (c_slices_Index_int_int p_s p_v t_2 ht_2 _ m hS.vis s1 h1) ?_
 rintro a w _ rfl hF hS
 refine q_y (v:=(.bool (decide (0 ≤ t_2)))) hF hS (ex_ibin rfl rfl rfl) fun a hF=>q_s hF rfl fun a hF=>q_end (n_sq (q_ret ?_))
 obtain rfl:=someI hr
 exact ret_of hF hS rfl (.tmp rfl .nil) rfl

theorem c_impl_isLeaf (p_g : impl_Geo) (p_i : Int) (r : Bool) (hr : impl_isLeaf p_g p_i = some r) (w0 : World) (m : Mem) (hv : Vis m w0) (s1 : Sl) (h1 : Rd m s1 p_g.Parents) :
  Ret Tryz.prog 131 [(.agg #[s1.v]),(iV p_i)] w0 (fun v _=>v = (.bool r)):=by
 unfold impl_isLeaf at hr
 refine ret_start Tryz.func131 rfl 10 rfl rfl m hv fun a hF hS=>q_sr (q_box (cs:=[s1.v]) hF hS rfl rfl rfl fun a w b2 hF hS=>q_s hF rfl fun a hF=>q_end (n_sq (q_sr (q_y (v:=(pP b2 0)) hF hS (ex_fieldAddr U26 rfl sz24 rfl rfl) fun a hF=>q_y (v:=s1.v) hF hS (ex_load1 0 0 U24 rfl rfl rfl rfl) fun a hF=>q_m hF rfl fun a hF=>?_))))
 obtain ⟨t_3,ht_3,hr⟩:=bindS hr
 refine q_call (vs:=[s1.v,(iV p_i)]) hF hS Tryz.func103 (by kernel_rfl) rfl rfl rfl (c_slices_Contains_int_int p_g.Parents p_i t_3 ht_3 _ m hS.vis s1 h1) ?_
 rintro a w _ rfl hF hS
 refine q_y (v:=(.bool (!t_3))) hF hS (ex_not rfl) fun a hF=>q_s hF rfl fun a hF=>q_end (n_sq (q_ret ?_))
 obtain rfl:=someI hr
 exact ret_of hF hS rfl (.tmp rfl .nil) rfl

theorem c_impl_leavesOf (p_g : impl_Geo) (r : (List Int)) (hr : impl_leavesOf p_g = some r) (w0 : World) (m : Mem) (hv : Vis m w0) (s1 : Sl) (h1 : Rd m s1 p_g.Parents) :
  Ret Tryz.prog 101 [(.agg #[s1.v])] w0 (fun v w=>∃ (q0' : Piece) (s0' : Sl),v = s0'.v∧St [] w0 w m [q0']∧OwnL m 3 q0' s0' r):=by
 unfold impl_leavesOf at hr
 refine ret_start Tryz.func101 rfl 20 rfl rfl m hv fun a hF hS=>q_sr (q_box (cs:=[s1.v]) hF hS rfl rfl rfl fun a w b2 hF hS=>q_s hF rfl fun a hF=>q_end (n_sq (q_sr (q_s hF rfl fun a hF=>q_end (n_sq (q_seq (q_sr (q_y (v:=(pP b2 0)) hF hS (ex_fieldAddr U26 rfl sz24 rfl rfl) fun a hF=>q_y (v:=s1.v) hF hS (ex_load1 0 0 U24 rfl rfl rfl rfl) fun a hF=>q_y (v:=(iV (goLen p_g.Parents))) hF hS (ex_len U24 rfl h1.len) fun a hF=>q_m hF rfl fun a hF=>q_end (n_sq (q_block ?_))))))))))
 obtain ⟨list_12,hl1,hr⟩:=bindS hr
 refine q_loop (fun (s : (List Int) × Int) a w=>∃ (q4 : Piece),∃ (s4 : Sl),∃ list_3,∃ t_5,s = (list_3,t_5)∧Fr a 20 [(1,(pP b2 0)),(3,s4.v),(7,(iV (goLen p_g.Parents))),(8,(iV t_5))]∧St [] w0 w m [q4,[⟨b2,[s1.v],26⟩]]∧OwnL m 3 q4 s4 list_3) (fun (list_12 : (List Int)) e a w=>∃ (q13 : Piece),∃ (s13 : Sl),e = .exit 0∧Fr a 20 [(3,s13.v)]∧St [] w0 w m [q13]∧OwnL m 3 q13 s13 list_12) hl1 ⟨[],nilS,_,_,rfl,hF.sub ⟨rfl,rfl,rfl,rfl,trivial⟩,hS.sel [1,0] (by decide),(OwnL.nil (α:=Int) m 3)⟩ ?_ ?_
 ·clear hF hS
  rintro s a w st ⟨q4,s4,list_3,t_5,rfl,hF,hS,h4⟩ hb1
  unfold impl_leavesOf_l1 at hb1
  refine q_sr (q_y (v:=(.bool (decide (t_5 < (goLen p_g.Parents))))) hF hS (ex_ibin rfl rfl rfl) fun a hF=>q_end (n_sq (q_seq ?_)))
  rcases bcase (decide (t_5 < (goLen p_g.Parents))) with hc2 | hc2
  ·have hb1:=cond_f hc2 hb1
   refine q_cond_f hF rfl hc2 (q_exit (x_sq ?_))
   obtain rfl:=someI hb1
   exact ⟨nofun,.inl ⟨q4,s4,rfl,hF.sub ⟨rfl,trivial⟩,hS.mask [true,false],h4⟩⟩
  ·have hb1:=cond_t hc2 hb1
   refine q_cond_t hF rfl hc2 (q_skipc (n_sq (q_seq (q_block (q_sr (q_m hF rfl fun a hF=>q_s hF rfl fun a hF=>q_end (n_sq (q_sr (q_y (v:=(.agg #[s1.v])) hF hS (ex_loadA (vs:=[s1.v]) 1 0 U26 rfl sz26 rfl rfl rfl rfl) fun a hF=>q_m hF rfl fun a hF=>?_)))))))))
   obtain ⟨t_6,ht_6,hb1⟩:=bindS hb1
   refine q_call (vs:=[(.agg #[s1.v]),(iV t_5)]) hF hS Tryz.func131 (by kernel_rfl) rfl rfl rfl (c_impl_isLeaf p_g t_5 t_6 ht_6 _ m hS.vis s1 h1) ?_
   rintro a w _ rfl hF hS
   refine q_end (n_sq ?_)
   obtain ⟨list_10,hj3,hb1⟩:=bindS hb1
   refine q_join (fun a w=>∃ (q11 : Piece),∃ (s11 : Sl),Fr a 20 [(1,(pP b2 0)),(3,s11.v),(7,(iV (goLen p_g.Parents))),(8,(iV t_5))]∧St [] w0 w m [q11,[⟨b2,[s1.v],26⟩]]∧OwnL m 3 q11 s11 list_10) ?_ ?_
   ·rcases bcase (t_6) with hc4 | hc4
    ·have hj3:=cond_f hc4 hj3
     refine q_cond_f hF rfl hc4 (q_skipc (n_jn ?_))
     obtain rfl:=someI hj3
     exact ⟨q4,s4,hF.sub ⟨rfl,rfl,rfl,rfl,trivial⟩,hS,h4⟩
    ·have hj3:=cond_t hc4 hj3
     refine q_cond_t hF rfl hc4 (q_region (q_m hF rfl fun a hF=>q_m hF rfl fun a hF=>q_do rfl fun _ hK=>wp_buildSlice' (l:=([t_5] : List Int)) (cells:=[(iV t_5)]) hF hS U24 inf3 rfl rfl (by kernel_rfl) rfl rfl rfl ⟨rfl,rfl⟩ rfl rfl fun a w q7 s7 hF hS h7 _=>hK _ _ ?_))
     have hS : St _ _ _ _ [q4,q7,[⟨b2,[s1.v],26⟩]]:=hS.sel [1,0,2] (by decide)
     obtain ⟨l_8,hl_8,hj3⟩:=bindS hj3
     refine q_do rfl fun _ hK=>wp_append hF hS h4 U24 inf3 rfl rfl rfl rfl (h7.vw hS (j:=1) rfl) rfl (by decide) hl_8 rfl fun a w q9 s9 hF hS h9=>hK _ _ (q_s hF rfl fun a hF=>q_end (n_jn ?_))
     obtain rfl:=someI hj3
     exact ⟨q9,s9,hF.sub ⟨rfl,rfl,rfl,rfl,trivial⟩,hS.mask [true,false,true],h9⟩
   ·rintro a w ⟨q11,s11,hF,hS,h11⟩
    refine n_ib (n_sq ?_)
    refine q_region (q_y (v:=(iV (w64 (t_5 + 1)))) hF hS (ex_ibin rfl rfl rfl) fun a hF=>q_m hF rfl fun a hF=>q_end ?_)
    obtain rfl:=someI hb1
    exact ⟨rfl,q11,s11,_,_,rfl,hF.sub ⟨rfl,rfl,rfl,rfl,trivial⟩,hS,h11⟩
 ·rintro e a w ⟨q13,s13,rfl,hF,hS,h13⟩
  refine x_ib (n_sq ?_)
  refine q_sr (q_m hF rfl fun a hF=>q_s hF rfl fun a hF=>q_end (n_sq (q_ret ?_)))
  obtain rfl:=someI hr
  exact ret_of hF hS rfl (.tmp rfl .nil) ⟨q13,s13,rfl,hS.sel [0] (by decide),h13⟩

theorem c_impl_conditionOf (p_s : List impl_Variable) (p_t : impl_Table) (p_v : Int) (r : Int) (hr : impl_conditionOf p_s p_t p_v = some r) (w0 : World) (m : Mem) (hv : Vis m w0) (s1 : Sl) (h1 : Rd m s1 p_s) (s2 : Sl) (h2 : Rd m s2 p_t.Vars) (s3 : Sl) (h3 : Rd m s3 p_t.Where) :
  Ret Tryz.prog 104 [s1.v,(.agg #[(iV p_t.Level),s2.v,s3.v,(iV p_t.Sum)]),(iV p_v)] w0 (fun v _=>v = (iV r)):=by
 unfold impl_conditionOf at hr
 refine ret_start Tryz.func104 rfl 23 rfl rfl m hv fun a hF hS=>q_sr (q_box (cs:=[(iV p_t.Level),s2.v,s3.v,(iV p_t.Sum)]) hF hS rfl rfl rfl fun a w b4 hF hS=>q_s hF rfl fun a hF=>q_end (n_sq (q_seq (q_sr (q_y (v:=(pP b4 2)) hF hS (ex_fieldAddr U29 rfl sz24 rfl rfl) fun a hF=>q_y (v:=s3.v) hF hS (ex_load1 0 0 U24 rfl rfl rfl rfl) fun a hF=>q_m hF rfl fun a hF=>?_)))))
 obtain ⟨e_5,he_5,hr⟩:=bindS hr
 obtain ⟨vs6,at6,d6⟩:=h3.at he_5 1 rfl
 obtain rfl : vs6 = [(iV e_5)]:=d6
 refine q_y (v:=(elP s3 (p_v.toNat * 1))) hF hS (ex_indexAddr U24 sz3 rfl rfl (h3.idx he_5)) fun a hF=>q_y (v:=(iV e_5)) hF hS (ex_loadE1 0 U3 rfl rfl ((at6).at) rfl rfl) fun a hF=>q_y (v:=(.bool (e_5 == 0))) hF hS (ex_ibin rfl rfl rfl) fun a hF=>q_end (n_sq ?_)
 rcases bcase (e_5 == 0) with hc1 | hc1
 ·have hr:=cond_f hc1 hr
  refine q_cond_f hF rfl hc1 (q_skipc (n_sq (q_sr (q_y (v:=(pP b4 2)) hF hS (ex_fieldAddr U29 rfl sz24 rfl rfl) fun a hF=>q_y (v:=s3.v) hF hS (ex_load1 0 0 U24 rfl rfl rfl rfl) fun a hF=>q_m hF rfl fun a hF=>?_))))
  obtain ⟨e_7,he_7,hr⟩:=bindS hr
  obtain ⟨vs8,at8,d8⟩:=h3.at he_7 1 rfl
  obtain rfl : vs8 = [(iV e_7)]:=d8
  refine q_y (v:=(elP s3 (p_v.toNat * 1))) hF hS (ex_indexAddr U24 sz3 rfl rfl (h3.idx he_7)) fun a hF=>q_y (v:=(iV e_7)) hF hS (ex_loadE1 0 U3 rfl rfl ((at8).at) rfl rfl) fun a hF=>q_s hF rfl fun a hF=>q_end (n_sq (q_ret ?_))
  obtain rfl:=someI hr
  exact ret_of hF hS rfl (.tmp rfl .nil) rfl
 ·have hr:=cond_t hc1 hr
  refine q_cond_t hF rfl hc1 (q_sr (q_m hF rfl fun a hF=>q_m hF rfl fun a hF=>?_))
  obtain ⟨e_9,he_9,hr⟩:=bindS hr
  obtain ⟨vs10,at10,d10⟩:=h1.at he_9 2 rfl
  obtain rfl : vs10 = [(strV e_9.Name),(iV e_9.Levels)]:=d10
  refine q_y (v:=(elP s1 (p_v.toNat * 2))) hF hS (ex_indexAddr U27 sz95 rfl rfl (h1.idx he_9)) fun a hF=>q_y (v:=(.agg #[(strV e_9.Name),(iV e_9.Levels)])) hF hS (ex_loadEA (us:=[(strV e_9.Name),(iV e_9.Levels)]) 0 U95 rfl sz95 rfl ((at10).at) rfl rfl rfl) fun a hF=>?_
  obtain ⟨t_11,ht_11,hr⟩:=bindS hr
  refine q_call (vs:=[(.agg #[(strV e_9.Name),(iV e_9.Levels)])]) hF hS Tryz.func90 (by kernel_rfl) rfl rfl rfl (c_impl_fullSet e_9 t_11 ht_11 _ m hS.vis) ?_
  rintro a w _ rfl hF hS
  refine q_s hF rfl fun a hF=>q_end (n_sq (q_ret (r_sq ?_)))
  obtain rfl:=someI hr
  exact ret_of hF hS rfl (.tmp rfl .nil) rfl

end Go.Proofs.YtnmimeojimfogaaGreatDoor
