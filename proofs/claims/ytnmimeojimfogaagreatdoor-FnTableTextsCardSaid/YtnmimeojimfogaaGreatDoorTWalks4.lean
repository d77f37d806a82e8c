/- The walks of the functions: each returns what its plain function says. -/
import Derived.Test.YtnmimeojimfogaaGreatDoorTWalks3
namespace Go.Proofs.YtnmimeojimfogaaGreatDoor
open Go.Gx Go.Gx.F Go.RowKit
set_option linter.all false
set_option maxRecDepth 10000


theorem c_spec_nGuess (p_s : List impl_Variable) (p_x : List UInt8) (r : impl_Table) (hr : spec_nGuess p_s p_x = some r) (w0 : World) (m : Mem) (hv : Vis m w0) (s1 : Sl) (h1 : Rd m s1 p_s) :
  Ret Tryz.prog 93 [s1.v,(strV p_x)] w0 (fun v w=>∃ (q0' : Piece) (q1' : Piece) (s0' : Sl) (s1' : Sl),v = (.agg #[(iV r.Level),s0'.v,s1'.v,(iV r.Sum)])∧St [] w0 w m [q0',q1']∧OwnL m 3 q0' s0' r.Vars∧OwnL m 3 q1' s1' r.Where):=by
 unfold spec_nGuess at hr
 refine ret_start Tryz.func93 rfl 112 rfl rfl m hv fun a hF hS=>q_seq (q_region (q_alloc (cs:=[(iV 0),nilS.v,nilS.v,(iV 0)]) hF hS rfl rfl rfl fun a w b2 hF hS=>q_end (n_sq (q_seq (q_region (q_x (v:=s1.v) hF hS (ex_move rfl) rfl rfl fun a hF=>q_x (v:=(iV (goLen p_s))) hF hS (ex_len Tryz.underlying27 rfl h1.len) rfl rfl fun a hF=>?_))))))
 obtain ⟨l_3,hl_3,hr⟩:=bindS hr
 refine q_do rfl fun _ hK=>wp_make (z:=(0 : Int)) hF hS Tryz.underlying24 inf3 rfl rfl rfl rfl rfl (by decide) hl_3 rfl fun a w q4 s4 hF hS h4 _=>hK _ _ (q_x (v:=(.agg #[(iV 0),nilS.v,s4.v,(iV (-1))])) hF hS (ex_build (cells:=[(iV 0),nilS.v,s4.v,(iV (-1))]) rfl (by kernel_rfl)) rfl rfl fun a hF=>q_alloc (cs:=[(iV 0),nilS.v,nilS.v,(iV 0)]) hF hS rfl rfl rfl fun a w b5 hF hS=>q_store (vs:=[(iV 0),nilS.v,s4.v,(iV (-1))]) (cs':=[(iV 0),nilS.v,s4.v,(iV (-1))]) 0 0 hF hS sz29 rfl rfl rfl rfl rfl rfl rfl rfl fun a w hF hS=>q_end (n_sq (q_seq (q_region (q_x (v:=(strV p_x)) hF hS (ex_move rfl) rfl rfl fun a hF=>?_)))))
 obtain ⟨t_6,ht_6,hr⟩:=bindS hr
 refine q_call (vs:=[(strV p_x),(.int .u8 32)]) hF hS Tryz.func53 (by kernel_rfl) rfl rfl rfl (c_spec_l1Split p_x (⟨32⟩ : K .u8) t_6 ht_6 _ m hS.vis) ?_
 rintro a w _ ⟨q8,s8,rfl,hR7,h8⟩ hF hS2
 have hS : St _ _ _ _ [q8,[⟨b5,[(iV 0),nilS.v,s4.v,(iV (-1))],29⟩],q4,[⟨b2,[(iV 0),nilS.v,nilS.v,(iV 0)],29⟩]]:=hS.joinF hR7
 refine q_x (v:=s8.v) hF hS (ex_assign rfl) rfl rfl fun a hF=>q_end (n_sq (q_seq (q_region (q_x (v:=(.bool false)) hF hS (ex_assign rfl) rfl rfl fun a hF=>q_end (n_sq (q_seq (q_seq (q_region (q_x (v:=(iV 0)) hF hS (ex_assign rfl) rfl rfl fun a hF=>q_end (n_sq (q_block ?_)))))))))))
 obtain ⟨t_77,hl1,hr⟩:=bindS hr
 refine q_loop (fun (s : Bool × Int × impl_Table) a w=>∃ (q12 : Piece),∃ (s12 : Sl),∃ (q13 : Piece),∃ (s13 : Sl),∃ conditions_9,∃ i_10,∃ t_11,s = (conditions_9,i_10,t_11)∧Fr a 112 [(0,s1.v),(4,(.pointer (some ⟨b2,0,none⟩))),(5,(.pointer (some ⟨b5,0,none⟩))),(6,s8.v),(7,(.bool conditions_9)),(8,(iV i_10))]∧St [] w0 w m [q12,q13,q8,[⟨b5,[(iV t_11.Level),s12.v,s13.v,(iV t_11.Sum)],29⟩],[⟨b2,[(iV 0),nilS.v,nilS.v,(iV 0)],29⟩]]∧OwnL m 3 q12 s12 t_11.Vars∧OwnL m 3 q13 s13 t_11.Where) (fun (t_77 : impl_Table) e a w=>∃ (q78 : Piece),∃ (s78 : Sl),∃ (q79 : Piece),∃ (s79 : Sl),e = .exit 0∧Fr a 112 [(4,(.pointer (some ⟨b2,0,none⟩))),(5,(.pointer (some ⟨b5,0,none⟩)))]∧St [] w0 w m [q78,q79,[⟨b5,[(iV t_77.Level),s78.v,s79.v,(iV t_77.Sum)],29⟩],[⟨b2,[(iV 0),nilS.v,nilS.v,(iV 0)],29⟩]]∧OwnL m 3 q78 s78 t_77.Vars∧OwnL m 3 q79 s79 t_77.Where) hl1 ⟨[],nilS,q4,s4,_,_,_,rfl,hF.sub ⟨rfl,rfl,rfl,rfl,rfl,rfl,trivial⟩,hS.sel [4,2,0,1,3] (by decide),(OwnL.nil (α:=Int) m 3),h4⟩ ?_ ?_
 ·clear hF hS
  rintro s a w st ⟨q12,s12,q13,s13,conditions_9,i_10,t_11,rfl,hF,hS,h12,h13⟩ hb1
  unfold spec_nGuess_l1 at hb1
  refine q_seq (q_seq (q_region (q_x (v:=(iV i_10)) hF hS (ex_move rfl) rfl rfl fun a hF=>q_x (v:=s8.v) hF hS (ex_move rfl) rfl rfl fun a hF=>q_x (v:=(iV (goLen t_6))) hF hS (ex_len Tryz.underlying80 rfl h8.len) rfl rfl fun a hF=>q_x (v:=(.bool (decide (i_10 < (goLen t_6))))) hF hS (ex_ibin rfl rfl rfl) rfl rfl fun a hF=>q_end (n_sq ?_))))
  rcases bcase (decide (i_10 < (goLen t_6))) with hc2 | hc2
  ·have hb1:=cond_f hc2 hb1
   refine q_cond_f hF rfl hc2 (q_exit (x_sq ?_))
   obtain rfl:=someI hb1
   exact ⟨nofun,.inl ⟨q12,s12,q13,s13,rfl,hF.sub ⟨rfl,rfl,trivial⟩,hS.mask [true,true,false,true,true],h12,h13⟩⟩
  ·have hb1:=cond_t hc2 hb1
   refine q_cond_t hF rfl hc2 (q_skipc (n_sq (q_seq (q_block (q_seq (q_region (q_x (v:=(iV i_10)) hF hS (ex_move rfl) rfl rfl fun a hF=>q_x (v:=s8.v) hF hS (ex_move rfl) rfl rfl fun a hF=>q_x (v:=(iV (goLen t_6))) hF hS (ex_len Tryz.underlying80 rfl h8.len) rfl rfl fun a hF=>q_x (v:=(iV (w64 ((goLen t_6) - 1)))) hF hS (ex_ibin rfl rfl rfl) rfl rfl fun a hF=>q_x (v:=(.bool (i_10 == (w64 ((goLen t_6) - 1))))) hF hS (ex_ibin rfl rfl rfl) rfl rfl fun a hF=>q_x (v:=(.bool (i_10 == (w64 ((goLen t_6) - 1))))) hF hS (ex_assign rfl) rfl rfl fun a hF=>q_end (n_sq (q_block (q_seq (q_region (q_x (v:=(.bool conditions_9)) hF hS (ex_move rfl) rfl rfl fun a hF=>q_x (v:=(.bool conditions_9)) hF hS (ex_assign rfl) rfl rfl fun a hF=>q_end (n_sq ?_)))))))))))))
   obtain ⟨j3,hj3,hb1⟩:=bindS hb1
   refine q_join (fun a w=>∃ (q75 : Piece),∃ (s75 : Sl),∃ (q76 : Piece),∃ (s76 : Sl),∃ conditions_72,∃ i_73,∃ t_74,j3 = (conditions_72,i_73,t_74)∧Fr a 112 [(0,s1.v),(4,(.pointer (some ⟨b2,0,none⟩))),(5,(.pointer (some ⟨b5,0,none⟩))),(6,s8.v),(7,(.bool conditions_72)),(8,(iV i_73))]∧St [] w0 w m [q8,q75,q76,[⟨b5,[(iV t_74.Level),s75.v,s76.v,(iV t_74.Sum)],29⟩],[⟨b2,[(iV 0),nilS.v,nilS.v,(iV 0)],29⟩]]∧OwnL m 3 q75 s75 t_74.Vars∧OwnL m 3 q76 s76 t_74.Where) ?_ ?_
   ·rcases bcase (conditions_9) with hc4 | hc4
    ·have hj3:=cond_f hc4 hj3
     refine q_cond_f hF rfl hc4 (q_seq (q_region (q_x (v:=s8.v) hF hS (ex_move rfl) rfl rfl fun a hF=>q_x (v:=(iV i_10)) hF hS (ex_move rfl) rfl rfl fun a hF=>?_)))
     obtain ⟨e_14,he_14,hj3⟩:=bindS hj3
     obtain ⟨vs15,at15,d15⟩:=h8.at he_14 1 rfl
     obtain rfl : vs15 = [(strV e_14)]:=d15
     refine q_x (v:=(elP s8 (i_10.toNat * 1))) hF hS (ex_indexAddr Tryz.underlying80 sz9 rfl rfl (h8.idx he_14)) rfl rfl fun a hF=>q_x (v:=(strV e_14)) hF hS (ex_loadE1 0 Tryz.underlying9 rfl rfl (at15.at 2 rfl) rfl rfl) rfl rfl fun a hF=>q_x (v:=(.bool (e_14 == ([119,104,101,114,101] : List UInt8)))) hF hS (ex_strEq rfl rfl) rfl rfl fun a hF=>q_x (v:=(.bool (e_14 == ([119,104,101,114,101] : List UInt8)))) hF hS (ex_assign rfl) rfl rfl fun a hF=>q_end (n_sq ?_)
     obtain ⟨j5,hj5,hj3⟩:=bindS hj3
     refine q_join (fun a w=>∃ (q64 : Piece),∃ (s64 : Sl),∃ conditions_61,∃ i_62,∃ t_63,j5 = (conditions_61,i_62,t_63)∧Fr a 112 [(0,s1.v),(4,(.pointer (some ⟨b2,0,none⟩))),(5,(.pointer (some ⟨b5,0,none⟩))),(6,s8.v),(7,(.bool conditions_61)),(8,(iV i_62))]∧St [] w0 w m [q8,q64,q13,[⟨b5,[(iV t_63.Level),s64.v,s13.v,(iV t_63.Sum)],29⟩],[⟨b2,[(iV 0),nilS.v,nilS.v,(iV 0)],29⟩]]∧OwnL m 3 q64 s64 t_63.Vars∧OwnL m 3 q13 s13 t_63.Where∧t_63.Where = t_11.Where) ?_ ?_
     ·rcases bcase (e_14 == ([119,104,101,114,101] : List UInt8)) with hc6 | hc6
      ·have hj5:=cond_f hc6 hj5
       refine q_cond_f hF rfl hc6 (q_seq ?_)
       obtain ⟨t_18,hj7,hj5⟩:=bindS hj5
       refine q_join (fun a w=>Fr a 112 [(0,s1.v),(4,(.pointer (some ⟨b2,0,none⟩))),(5,(.pointer (some ⟨b5,0,none⟩))),(6,s8.v),(7,(.bool conditions_9)),(8,(iV i_10)),(9,(.bool (i_10 == (w64 ((goLen t_6) - 1))))),(43,(.bool t_18))]∧St [] w0 w m [q8,q12,q13,[⟨b5,[(iV t_11.Level),s12.v,s13.v,(iV t_11.Sum)],29⟩],[⟨b2,[(iV 0),nilS.v,nilS.v,(iV 0)],29⟩]]) ?_ ?_
       ·refine q_region (q_x (v:=s8.v) hF hS (ex_move rfl) rfl rfl fun a hF=>q_x (v:=(iV i_10)) hF hS (ex_move rfl) rfl rfl fun a hF=>?_)
        obtain ⟨e_16,he_16,hj7⟩:=bindS hj7
        obtain ⟨vs17,at17,d17⟩:=h8.at he_16 1 rfl
        obtain rfl : vs17 = [(strV e_16)]:=d17
        refine q_x (v:=(elP s8 (i_10.toNat * 1))) hF hS (ex_indexAddr Tryz.underlying80 sz9 rfl rfl (h8.idx he_16)) rfl rfl fun a hF=>q_x (v:=(strV e_16)) hF hS (ex_loadE1 0 Tryz.underlying9 rfl rfl (at17.at 2 rfl) rfl rfl) rfl rfl fun a hF=>q_x (v:=(.bool (e_16 == ([115,117,109] : List UInt8)))) hF hS (ex_strEq rfl rfl) rfl rfl fun a hF=>q_x (v:=(.bool (e_16 == ([115,117,109] : List UInt8)))) hF hS (ex_move rfl) rfl rfl fun a hF=>?_
        rcases bcase (e_16 == ([115,117,109] : List UInt8)) with hc8 | hc8
        ·have hj7:=cond_f hc8 hj7
         refine q_skip hF (wanted_f hF rfl rfl rfl hc8 rfl) rfl fun a hF=>q_skip hF (wanted_f hF rfl rfl rfl hc8 rfl) rfl fun a hF=>q_x (v:=(.bool false)) hF hS (ex_pick_f rfl rfl hc8) rfl rfl fun a hF=>q_x (v:=(.bool false)) hF hS (ex_assign rfl) rfl rfl fun a hF=>q_end (n_jn ?_)
         obtain rfl:=someI hj7
         exact ⟨hF.sub ⟨rfl,rfl,rfl,rfl,rfl,rfl,rfl,rfl,trivial⟩,hS.sel [2,0,1,3,4] (by decide)⟩
        ·have hj7:=cond_t hc8 hj7
         refine q_xg (v:=(.bool (i_10 == (w64 ((goLen t_6) - 1))))) hF hS (ex_move rfl) (wanted_t hF rfl rfl rfl hc8) rfl fun a hF=>q_xg (v:=(.bool (!(i_10 == (w64 ((goLen t_6) - 1)))))) hF hS (ex_not rfl) (wanted_t hF rfl rfl rfl hc8) rfl fun a hF=>q_x (v:=(.bool (!(i_10 == (w64 ((goLen t_6) - 1)))))) hF hS (ex_pick_t rfl rfl hc8) rfl rfl fun a hF=>q_x (v:=(.bool (!(i_10 == (w64 ((goLen t_6) - 1)))))) hF hS (ex_assign rfl) rfl rfl fun a hF=>q_end (n_jn ?_)
         obtain rfl:=someI hj7
         exact ⟨hF.sub ⟨rfl,rfl,rfl,rfl,rfl,rfl,rfl,rfl,trivial⟩,hS.sel [2,0,1,3,4] (by decide)⟩
       ·rintro a w ⟨hF,hS⟩
        refine n_sq ?_
        obtain ⟨j9,hj9,hj5⟩:=bindS hj5
        refine q_join (fun a w=>∃ (q59 : Piece),∃ (s59 : Sl),∃ i_57,∃ t_58,j9 = (i_57,t_58)∧Fr a 112 [(0,s1.v),(4,(.pointer (some ⟨b2,0,none⟩))),(5,(.pointer (some ⟨b5,0,none⟩))),(6,s8.v),(7,(.bool conditions_9)),(8,(iV i_57))]∧St [] w0 w m [q8,q59,q13,[⟨b5,[(iV t_58.Level),s59.v,s13.v,(iV t_58.Sum)],29⟩],[⟨b2,[(iV 0),nilS.v,nilS.v,(iV 0)],29⟩]]∧OwnL m 3 q59 s59 t_58.Vars∧OwnL m 3 q13 s13 t_58.Where∧t_58.Where = t_11.Where) ?_ ?_
        ·rcases bcase (t_18) with hc10 | hc10
         ·have hj9:=cond_f hc10 hj9
          refine q_cond_f hF rfl hc10 (q_seq ?_)
          obtain ⟨t_21,hj11,hj9⟩:=bindS hj9
          refine q_join (fun a w=>Fr a 112 [(0,s1.v),(4,(.pointer (some ⟨b2,0,none⟩))),(5,(.pointer (some ⟨b5,0,none⟩))),(6,s8.v),(7,(.bool conditions_9)),(8,(iV i_10)),(9,(.bool (i_10 == (w64 ((goLen t_6) - 1))))),(62,(.bool t_21))]∧St [] w0 w m [q8,q12,q13,[⟨b5,[(iV t_11.Level),s12.v,s13.v,(iV t_11.Sum)],29⟩],[⟨b2,[(iV 0),nilS.v,nilS.v,(iV 0)],29⟩]]) ?_ ?_
          ·refine q_region (q_x (v:=s8.v) hF hS (ex_move rfl) rfl rfl fun a hF=>q_x (v:=(iV i_10)) hF hS (ex_move rfl) rfl rfl fun a hF=>?_)
           obtain ⟨e_19,he_19,hj11⟩:=bindS hj11
           obtain ⟨vs20,at20,d20⟩:=h8.at he_19 1 rfl
           obtain rfl : vs20 = [(strV e_19)]:=d20
           refine q_x (v:=(elP s8 (i_10.toNat * 1))) hF hS (ex_indexAddr Tryz.underlying80 sz9 rfl rfl (h8.idx he_19)) rfl rfl fun a hF=>q_x (v:=(strV e_19)) hF hS (ex_loadE1 0 Tryz.underlying9 rfl rfl (at20.at 0 rfl) rfl rfl) rfl rfl fun a hF=>q_x (v:=(.bool (e_19 == ([108,101,118,101,108] : List UInt8)))) hF hS (ex_strEq rfl rfl) rfl rfl fun a hF=>q_x (v:=(.bool (e_19 == ([108,101,118,101,108] : List UInt8)))) hF hS (ex_move rfl) rfl rfl fun a hF=>?_
           rcases bcase (e_19 == ([108,101,118,101,108] : List UInt8)) with hc12 | hc12
           ·have hj11:=cond_f hc12 hj11
            refine q_skip hF (wanted_f hF rfl rfl rfl hc12 rfl) rfl fun a hF=>q_skip hF (wanted_f hF rfl rfl rfl hc12 rfl) rfl fun a hF=>q_x (v:=(.bool false)) hF hS (ex_pick_f rfl rfl hc12) rfl rfl fun a hF=>q_x (v:=(.bool false)) hF hS (ex_assign rfl) rfl rfl fun a hF=>q_end (n_jn ?_)
            obtain rfl:=someI hj11
            exact ⟨hF.sub ⟨rfl,rfl,rfl,rfl,rfl,rfl,rfl,rfl,trivial⟩,hS⟩
           ·have hj11:=cond_t hc12 hj11
            refine q_xg (v:=(.bool (i_10 == (w64 ((goLen t_6) - 1))))) hF hS (ex_move rfl) (wanted_t hF rfl rfl rfl hc12) rfl fun a hF=>q_xg (v:=(.bool (!(i_10 == (w64 ((goLen t_6) - 1)))))) hF hS (ex_not rfl) (wanted_t hF rfl rfl rfl hc12) rfl fun a hF=>q_x (v:=(.bool (!(i_10 == (w64 ((goLen t_6) - 1)))))) hF hS (ex_pick_t rfl rfl hc12) rfl rfl fun a hF=>q_x (v:=(.bool (!(i_10 == (w64 ((goLen t_6) - 1)))))) hF hS (ex_assign rfl) rfl rfl fun a hF=>q_end (n_jn ?_)
            obtain rfl:=someI hj11
            exact ⟨hF.sub ⟨rfl,rfl,rfl,rfl,rfl,rfl,rfl,rfl,trivial⟩,hS⟩
          ·rintro a w ⟨hF,hS⟩
           refine n_sq ?_
           obtain ⟨j13,hj13,hj9⟩:=bindS hj9
           refine q_join (fun a w=>∃ (q52 : Piece),∃ (s52 : Sl),∃ i_50,∃ t_51,j13 = (i_50,t_51)∧Fr a 112 [(0,s1.v),(4,(.pointer (some ⟨b2,0,none⟩))),(5,(.pointer (some ⟨b5,0,none⟩))),(6,s8.v),(7,(.bool conditions_9)),(8,(iV i_50))]∧St [] w0 w m [q8,q52,q13,[⟨b5,[(iV t_51.Level),s52.v,s13.v,(iV t_51.Sum)],29⟩],[⟨b2,[(iV 0),nilS.v,nilS.v,(iV 0)],29⟩]]∧OwnL m 3 q52 s52 t_51.Vars∧OwnL m 3 q13 s13 t_51.Where∧t_51.Where = t_11.Where) ?_ ?_
           ·rcases bcase (t_21) with hc14 | hc14
            ·have hj13:=cond_f hc14 hj13
             refine q_cond_f hF rfl hc14 (q_seq ?_)
             obtain ⟨t_24,hj15,hj13⟩:=bindS hj13
             refine q_join (fun a w=>Fr a 112 [(0,s1.v),(4,(.pointer (some ⟨b2,0,none⟩))),(5,(.pointer (some ⟨b5,0,none⟩))),(6,s8.v),(7,(.bool conditions_9)),(8,(iV i_10)),(80,(.bool t_24))]∧St [] w0 w m [q8,q12,q13,[⟨b5,[(iV t_11.Level),s12.v,s13.v,(iV t_11.Sum)],29⟩],[⟨b2,[(iV 0),nilS.v,nilS.v,(iV 0)],29⟩]]) ?_ ?_
             ·refine q_region (q_x (v:=s8.v) hF hS (ex_move rfl) rfl rfl fun a hF=>q_x (v:=(iV i_10)) hF hS (ex_move rfl) rfl rfl fun a hF=>?_)
              obtain ⟨e_22,he_22,hj15⟩:=bindS hj15
              obtain ⟨vs23,at23,d23⟩:=h8.at he_22 1 rfl
              obtain rfl : vs23 = [(strV e_22)]:=d23
              refine q_x (v:=(elP s8 (i_10.toNat * 1))) hF hS (ex_indexAddr Tryz.underlying80 sz9 rfl rfl (h8.idx he_22)) rfl rfl fun a hF=>q_x (v:=(strV e_22)) hF hS (ex_loadE1 0 Tryz.underlying9 rfl rfl (at23.at 0 rfl) rfl rfl) rfl rfl fun a hF=>q_x (v:=(.bool (e_22 == ([98,121] : List UInt8)))) hF hS (ex_strEq rfl rfl) rfl rfl fun a hF=>q_x (v:=(.bool (e_22 == ([98,121] : List UInt8)))) hF hS (ex_move rfl) rfl rfl fun a hF=>?_
              rcases bcase (e_22 == ([98,121] : List UInt8)) with hc16 | hc16
              ·have hj15:=cond_f hc16 hj15
               refine q_skip hF (wanted_f hF rfl rfl rfl hc16 rfl) rfl fun a hF=>q_skip hF (wanted_f hF rfl rfl rfl hc16 rfl) rfl fun a hF=>q_x (v:=(.bool false)) hF hS (ex_pick_f rfl rfl hc16) rfl rfl fun a hF=>q_x (v:=(.bool false)) hF hS (ex_assign rfl) rfl rfl fun a hF=>q_end (n_jn ?_)
               obtain rfl:=someI hj15
               exact ⟨hF.sub ⟨rfl,rfl,rfl,rfl,rfl,rfl,rfl,trivial⟩,hS⟩
              ·have hj15:=cond_t hc16 hj15
               refine q_xg (v:=(.bool (i_10 == (w64 ((goLen t_6) - 1))))) hF hS (ex_move rfl) (wanted_t hF rfl rfl rfl hc16) rfl fun a hF=>q_xg (v:=(.bool (!(i_10 == (w64 ((goLen t_6) - 1)))))) hF hS (ex_not rfl) (wanted_t hF rfl rfl rfl hc16) rfl fun a hF=>q_x (v:=(.bool (!(i_10 == (w64 ((goLen t_6) - 1)))))) hF hS (ex_pick_t rfl rfl hc16) rfl rfl fun a hF=>q_x (v:=(.bool (!(i_10 == (w64 ((goLen t_6) - 1)))))) hF hS (ex_assign rfl) rfl rfl fun a hF=>q_end (n_jn ?_)
               obtain rfl:=someI hj15
               exact ⟨hF.sub ⟨rfl,rfl,rfl,rfl,rfl,rfl,rfl,trivial⟩,hS⟩
             ·rintro a w ⟨hF,hS⟩
              refine n_sq ?_
              obtain ⟨j17,hj17,hj13⟩:=bindS hj13
              refine q_join (fun a w=>∃ (q45 : Piece),∃ (s45 : Sl),∃ i_43,∃ t_44,j17 = (i_43,t_44)∧Fr a 112 [(0,s1.v),(4,(.pointer (some ⟨b2,0,none⟩))),(5,(.pointer (some ⟨b5,0,none⟩))),(6,s8.v),(7,(.bool conditions_9)),(8,(iV i_43))]∧St [] w0 w m [q8,q45,q13,[⟨b5,[(iV t_44.Level),s45.v,s13.v,(iV t_44.Sum)],29⟩],[⟨b2,[(iV 0),nilS.v,nilS.v,(iV 0)],29⟩]]∧OwnL m 3 q45 s45 t_44.Vars∧OwnL m 3 q13 s13 t_44.Where∧t_44.Where = t_11.Where) ?_ ?_
              ·rcases bcase (t_24) with hc18 | hc18
               ·have hj17:=cond_f hc18 hj17
                refine q_cond_f hF rfl hc18 (q_skipc (n_jn ?_))
                obtain rfl:=someI hj17
                exact ⟨q12,s12,_,_,rfl,hF.sub ⟨rfl,rfl,rfl,rfl,rfl,rfl,trivial⟩,hS,h12,h13,rfl⟩
               ·have hj17:=cond_t hc18 hj17
                refine q_cond_t hF rfl hc18 (q_seq (q_region (q_x (v:=(iV i_10)) hF hS (ex_move rfl) rfl rfl fun a hF=>q_x (v:=(iV (w64 (i_10 + 1)))) hF hS (ex_ibin rfl rfl rfl) rfl rfl fun a hF=>q_x (v:=(iV (w64 (i_10 + 1)))) hF hS (ex_assign rfl) rfl rfl fun a hF=>q_end (n_sq (q_seq (q_region (q_x (v:=s8.v) hF hS (ex_move rfl) rfl rfl fun a hF=>q_x (v:=(iV (w64 (i_10 + 1)))) hF hS (ex_move rfl) rfl rfl fun a hF=>?_)))))))
                obtain ⟨e_25,he_25,hj17⟩:=bindS hj17
                obtain ⟨vs26,at26,d26⟩:=h8.at he_25 1 rfl
                obtain rfl : vs26 = [(strV e_25)]:=d26
                refine q_x (v:=(elP s8 ((w64 (i_10 + 1)).toNat * 1))) hF hS (ex_indexAddr Tryz.underlying80 sz9 rfl rfl (h8.idx he_25)) rfl rfl fun a hF=>q_x (v:=(strV e_25)) hF hS (ex_loadE1 0 Tryz.underlying9 rfl rfl (at26.at 0 rfl) rfl rfl) rfl rfl fun a hF=>?_
                obtain ⟨t_27,ht_27,hj17⟩:=bindS hj17
                refine q_call (vs:=[(strV e_25),(.int .u8 44)]) hF hS Tryz.func53 (by kernel_rfl) rfl rfl rfl (c_spec_l1Split e_25 (⟨44⟩ : K .u8) t_27 ht_27 _ m hS.vis) ?_
                rintro a w _ ⟨q29,s29,rfl,hR28,h29⟩ hF hS2
                have hS : St _ _ _ _ [q29,q8,q12,q13,[⟨b5,[(iV t_11.Level),s12.v,s13.v,(iV t_11.Sum)],29⟩],[⟨b2,[(iV 0),nilS.v,nilS.v,(iV 0)],29⟩]]:=hS.joinF hR28
                refine q_x (v:=(iV (goLen t_27))) hF hS (ex_len Tryz.underlying80 rfl h29.len) rfl rfl fun a hF=>q_x (v:=(iV 0)) hF hS (ex_move rfl) rfl rfl fun a hF=>q_end (n_sq (q_block ?_))
                obtain ⟨t_40,hl19,hj17⟩:=bindS hj17
                refine q_loop (fun (s : Int × impl_Table) a w=>∃ (q32 : Piece),∃ (s32 : Sl),∃ t_30,∃ t_31,s = (t_30,t_31)∧Fr a 112 [(0,s1.v),(4,(.pointer (some ⟨b2,0,none⟩))),(5,(.pointer (some ⟨b5,0,none⟩))),(6,s8.v),(7,(.bool conditions_9)),(8,(iV (w64 (i_10 + 1)))),(96,s29.v),(97,(iV (goLen t_27))),(98,(iV t_30))]∧St [] w0 w m [q32,q29,q8,q13,[⟨b5,[(iV t_31.Level),s32.v,s13.v,(iV t_31.Sum)],29⟩],[⟨b2,[(iV 0),nilS.v,nilS.v,(iV 0)],29⟩]]∧OwnL m 3 q32 s32 t_31.Vars∧OwnL m 3 q13 s13 t_31.Where∧t_31.Where = t_11.Where) (fun (t_40 : impl_Table) e a w=>∃ (q41 : Piece),∃ (s41 : Sl),e = .exit 3∧Fr a 112 [(0,s1.v),(4,(.pointer (some ⟨b2,0,none⟩))),(5,(.pointer (some ⟨b5,0,none⟩))),(6,s8.v),(7,(.bool conditions_9)),(8,(iV (w64 (i_10 + 1))))]∧St [] w0 w m [q8,q41,q13,[⟨b5,[(iV t_40.Level),s41.v,s13.v,(iV t_40.Sum)],29⟩],[⟨b2,[(iV 0),nilS.v,nilS.v,(iV 0)],29⟩]]∧OwnL m 3 q41 s41 t_40.Vars∧OwnL m 3 q13 s13 t_40.Where∧t_40.Where = t_11.Where) hl19 ⟨q12,s12,_,_,rfl,hF.sub ⟨rfl,rfl,rfl,rfl,rfl,rfl,rfl,rfl,rfl,trivial⟩,hS.sel [2,0,1,3,4,5] (by decide),h12,h13,rfl⟩ ?_ ?_
                ·clear hF hS
                 rintro s a w st ⟨q32,s32,t_30,t_31,rfl,hF,hS,h32,h33,h33k⟩ hb19
                 unfold spec_nGuess_l2 at hb19
                 refine q_seq (q_region (q_x (v:=(.bool (decide (t_30 < (goLen t_27))))) hF hS (ex_ibin rfl rfl rfl) rfl rfl fun a hF=>q_end (n_sq (q_seq ?_))))
                 rcases bcase (decide (t_30 < (goLen t_27))) with hc20 | hc20
                 ·have hb19:=cond_f hc20 hb19
                  refine q_cond_f hF rfl hc20 (q_exit (x_sq ?_))
                  obtain rfl:=someI hb19
                  exact ⟨nofun,.inl ⟨q32,s32,rfl,hF.sub ⟨rfl,rfl,rfl,rfl,rfl,rfl,trivial⟩,hS.sel [2,0,3,4,5] (by decide),h32,h33,h33k⟩⟩
                 ·have hb19:=cond_t hc20 hb19
                  refine q_cond_t hF rfl hc20 (q_skipc (n_sq (q_seq (q_block (q_seq (q_region ?_))))))
                  obtain ⟨e_34,he_34,hb19⟩:=bindS hb19
                  obtain ⟨vs35,at35,d35⟩:=h29.at he_34 1 rfl
                  obtain rfl : vs35 = [(strV e_34)]:=d35
                  refine q_x (v:=(elP s29 (t_30.toNat * 1))) hF hS (ex_indexAddr Tryz.underlying80 sz9 rfl rfl (h29.idx he_34)) rfl rfl fun a hF=>q_x (v:=(strV e_34)) hF hS (ex_loadE1 0 Tryz.underlying9 rfl rfl (at35.at 1 rfl) rfl rfl) rfl rfl fun a hF=>q_x (v:=(strV e_34)) hF hS (ex_assign rfl) rfl rfl fun a hF=>q_end (n_sq (e_region ⟨[6,8],[]⟩ mixed fun w' hw'=>?_))
                  have hS:=hS.below hw'
                  refine e_p (v:=(.pointer (some ⟨b5,1,none⟩))) 0 hF rfl (ex_fieldAddr Tryz.underlying29 rfl sz24 rfl rfl) rfl rfl (by kernel_rfl) (by kernel_rfl) (by kernel_rfl) fun a hF=>e_x (v:=s32.v) 1 hF hS rfl (ex_load1 4 0 Tryz.underlying24 rfl rfl rfl rfl) rfl rfl (by kernel_rfl) (by kernel_rfl) (by kernel_rfl) (by kernel_rfl) fun a hF=>e_p (v:=s1.v) 2 hF rfl (ex_move rfl) rfl rfl (by kernel_rfl) (by kernel_rfl) (by kernel_rfl) fun a hF=>e_p (v:=(strV e_34)) 3 hF rfl (ex_move rfl) rfl rfl (by kernel_rfl) (by kernel_rfl) (by kernel_rfl) fun a hF=>e_one 4 (by kernel_rfl) ?_
                  obtain ⟨t_36,ht_36,hb19⟩:=bindS hb19
                  refine e_call (vs:=[s1.v,(strV e_34)]) hF hS rfl Tryz.func116 (by kernel_rfl) rfl rfl rfl (c_spec_sFind p_s e_34 t_36 ht_36 _ m hS.vis s1 h1) ?_
                  rintro a w _ rfl hF hS
                  refine e_one 5 (by kernel_rfl) (e_op rfl rfl fun _ hK=>wp_buildSlice' (l:=([t_36] : List Int)) (cells:=[(iV t_36)]) hF hS Tryz.underlying24 inf3 rfl rfl (by kernel_rfl) rfl rfl rfl ⟨rfl,rfl⟩ rfl rfl fun a w q37 s37 hF hS h37 hb=>hK _ _ hb (e_one 6 (by kernel_rfl) ?_))
                  have hS : St _ _ _ _ [q32,q37,q29,q8,q13,[⟨b5,[(iV t_31.Level),s32.v,s13.v,(iV t_31.Sum)],29⟩],[⟨b2,[(iV 0),nilS.v,nilS.v,(iV 0)],29⟩]]:=hS.sel [1,0,2,3,4,5,6] (by decide)
                  obtain ⟨l_38,hl_38,hb19⟩:=bindS hb19
                  refine e_opl rfl rfl rfl fun _ hK=>wp_append hF hS h32 Tryz.underlying24 inf3 rfl rfl rfl rfl (h37.vw hS (j:=1) rfl) rfl (by decide) hl_38 rfl fun a w q39 s39 hF hS h39=>hK _ _ (⟨kpN,?_⟩)
                  refine e_p (v:=(.pointer (some ⟨b5,1,none⟩))) 7 hF rfl (ex_fieldAddr Tryz.underlying29 rfl sz24 rfl rfl) rfl rfl (by kernel_rfl) (by kernel_rfl) (by kernel_rfl) fun a hF=>e_one 8 (by kernel_rfl) (e_store (vs:=[s39.v]) (cs':=[(iV t_31.Level),s39.v,s13.v,(iV t_31.Sum)]) 5 0 hF hS rfl rfl sz24 rfl rfl rfl rfl rfl rfl rfl rfl fun a w hF hS=>⟨kpN,?_⟩)
                  refine e_end (by kernel_rfl) (n_ib (n_sq ?_)) _
                  refine q_region (q_x (v:=(iV (w64 (t_30 + 1)))) hF hS (ex_ibin rfl rfl rfl) rfl rfl fun a hF=>q_x (v:=(iV (w64 (t_30 + 1)))) hF hS (ex_move rfl) rfl rfl fun a hF=>q_end ?_)
                  obtain rfl:=someI hb19
                  exact ⟨rfl,q39,s39,_,_,rfl,hF.sub ⟨rfl,rfl,rfl,rfl,rfl,rfl,rfl,rfl,rfl,trivial⟩,hS.mask [true,false,true,true,true,true,true],h39,h33,h33k⟩
                ·rintro e a w ⟨q41,s41,rfl,hF,hS,h41,h42,h42k⟩
                 refine x_ib (n_jn ?_)
                 obtain rfl:=someI hj17
                 exact ⟨q41,s41,_,_,rfl,hF.sub ⟨rfl,rfl,rfl,rfl,rfl,rfl,trivial⟩,hS,h41,h42,h42k⟩
              ·rintro a w ⟨q45,s45,i_43,t_44,rfl,hF,hS,h45,h46,h46k⟩
               refine n_jn ?_
               obtain rfl:=someI hj13
               exact ⟨q45,s45,_,_,rfl,hF.sub ⟨rfl,rfl,rfl,rfl,rfl,rfl,trivial⟩,hS,h45,h46,h46k⟩
            ·have hj13:=cond_t hc14 hj13
             refine q_cond_t hF rfl hc14 (q_seq (q_region (q_x (v:=(iV i_10)) hF hS (ex_move rfl) rfl rfl fun a hF=>q_x (v:=(iV (w64 (i_10 + 1)))) hF hS (ex_ibin rfl rfl rfl) rfl rfl fun a hF=>q_x (v:=(iV (w64 (i_10 + 1)))) hF hS (ex_assign rfl) rfl rfl fun a hF=>q_end (n_sq (q_region (q_x (v:=s8.v) hF hS (ex_move rfl) rfl rfl fun a hF=>q_x (v:=(iV (w64 (i_10 + 1)))) hF hS (ex_move rfl) rfl rfl fun a hF=>?_))))))
             obtain ⟨e_47,he_47,hj13⟩:=bindS hj13
             obtain ⟨vs48,at48,d48⟩:=h8.at he_47 1 rfl
             obtain rfl : vs48 = [(strV e_47)]:=d48
             refine q_x (v:=(elP s8 ((w64 (i_10 + 1)).toNat * 1))) hF hS (ex_indexAddr Tryz.underlying80 sz9 rfl rfl (h8.idx he_47)) rfl rfl fun a hF=>q_x (v:=(strV e_47)) hF hS (ex_loadE1 0 Tryz.underlying9 rfl rfl (at48.at 0 rfl) rfl rfl) rfl rfl fun a hF=>?_
             obtain ⟨t_49,ht_49,hj13⟩:=bindS hj13
             refine q_call (vs:=[(strV e_47)]) hF hS Tryz.func129 (by kernel_rfl) rfl rfl rfl (c_spec_l1Read e_47 t_49 ht_49 _ m hS.vis) ?_
             rintro a w _ rfl hF hS
             refine q_x (v:=(.pointer (some ⟨b5,0,none⟩))) hF hS (ex_fieldAddr Tryz.underlying29 rfl sz3 rfl rfl) rfl rfl fun a hF=>q_store (vs:=[(iV t_49)]) (cs':=[(iV t_49),s12.v,s13.v,(iV t_11.Sum)]) 3 0 hF hS sz3 rfl rfl rfl rfl rfl rfl rfl rfl fun a w hF hS=>q_end (n_jn ?_)
             obtain rfl:=someI hj13
             exact ⟨q12,s12,_,_,rfl,hF.sub ⟨rfl,rfl,rfl,rfl,rfl,rfl,trivial⟩,hS,h12,h13,rfl⟩
           ·rintro a w ⟨q52,s52,i_50,t_51,rfl,hF,hS,h52,h53,h53k⟩
            refine n_jn ?_
            obtain rfl:=someI hj9
            exact ⟨q52,s52,_,_,rfl,hF.sub ⟨rfl,rfl,rfl,rfl,rfl,rfl,trivial⟩,hS,h52,h53,h53k⟩
         ·have hj9:=cond_t hc10 hj9
          refine q_cond_t hF rfl hc10 (q_seq (q_region (q_x (v:=(iV i_10)) hF hS (ex_move rfl) rfl rfl fun a hF=>q_x (v:=(iV (w64 (i_10 + 1)))) hF hS (ex_ibin rfl rfl rfl) rfl rfl fun a hF=>q_x (v:=(iV (w64 (i_10 + 1)))) hF hS (ex_assign rfl) rfl rfl fun a hF=>q_end (n_sq (q_region (q_x (v:=s1.v) hF hS (ex_move rfl) rfl rfl fun a hF=>q_x (v:=s8.v) hF hS (ex_move rfl) rfl rfl fun a hF=>q_x (v:=(iV (w64 (i_10 + 1)))) hF hS (ex_move rfl) rfl rfl fun a hF=>?_))))))
          obtain ⟨e_54,he_54,hj9⟩:=bindS hj9
          obtain ⟨vs55,at55,d55⟩:=h8.at he_54 1 rfl
          obtain rfl : vs55 = [(strV e_54)]:=d55
          refine q_x (v:=(elP s8 ((w64 (i_10 + 1)).toNat * 1))) hF hS (ex_indexAddr Tryz.underlying80 sz9 rfl rfl (h8.idx he_54)) rfl rfl fun a hF=>q_x (v:=(strV e_54)) hF hS (ex_loadE1 0 Tryz.underlying9 rfl rfl (at55.at 0 rfl) rfl rfl) rfl rfl fun a hF=>?_
          obtain ⟨t_56,ht_56,hj9⟩:=bindS hj9
          refine q_call (vs:=[s1.v,(strV e_54)]) hF hS Tryz.func116 (by kernel_rfl) rfl rfl rfl (c_spec_sFind p_s e_54 t_56 ht_56 _ m hS.vis s1 h1) ?_
          rintro a w _ rfl hF hS
          refine q_x (v:=(.pointer (some ⟨b5,3,none⟩))) hF hS (ex_fieldAddr Tryz.underlying29 rfl sz3 rfl rfl) rfl rfl fun a hF=>q_store (vs:=[(iV t_56)]) (cs':=[(iV t_11.Level),s12.v,s13.v,(iV t_56)]) 3 0 hF hS sz3 rfl rfl rfl rfl rfl rfl rfl rfl fun a w hF hS=>q_end (n_jn ?_)
          obtain rfl:=someI hj9
          exact ⟨q12,s12,_,_,rfl,hF.sub ⟨rfl,rfl,rfl,rfl,rfl,rfl,trivial⟩,hS,h12,h13,rfl⟩
        ·rintro a w ⟨q59,s59,i_57,t_58,rfl,hF,hS,h59,h60,h60k⟩
         refine n_jn ?_
         obtain rfl:=someI hj5
         exact ⟨q59,s59,_,_,_,rfl,hF.sub ⟨rfl,rfl,rfl,rfl,rfl,rfl,trivial⟩,hS,h59,h60,h60k⟩
      ·have hj5:=cond_t hc6 hj5
       refine q_cond_t hF rfl hc6 (q_region (q_x (v:=(.bool true)) hF hS (ex_assign rfl) rfl rfl fun a hF=>q_end (n_jn ?_)))
       obtain rfl:=someI hj5
       exact ⟨q12,s12,_,_,_,rfl,hF.sub ⟨rfl,rfl,rfl,rfl,rfl,rfl,trivial⟩,hS.sel [2,0,1,3,4] (by decide),h12,h13,rfl⟩
     ·rintro a w ⟨q64,s64,conditions_61,i_62,t_63,rfl,hF,hS,h64,h65,h65k⟩
      refine n_jn ?_
      obtain rfl:=someI hj3
      exact ⟨q64,s64,q13,s13,_,_,_,rfl,hF.sub ⟨rfl,rfl,rfl,rfl,rfl,rfl,trivial⟩,hS,h64,h65⟩
    ·have hj3:=cond_t hc4 hj3
     refine q_cond_t hF rfl hc4 (q_region (q_x (v:=s1.v) hF hS (ex_move rfl) rfl rfl fun a hF=>q_x (v:=s8.v) hF hS (ex_move rfl) rfl rfl fun a hF=>q_x (v:=(iV i_10)) hF hS (ex_move rfl) rfl rfl fun a hF=>?_))
     obtain ⟨e_66,he_66,hj3⟩:=bindS hj3
     obtain ⟨vs67,at67,d67⟩:=h8.at he_66 1 rfl
     obtain rfl : vs67 = [(strV e_66)]:=d67
     refine q_x (v:=(elP s8 (i_10.toNat * 1))) hF hS (ex_indexAddr Tryz.underlying80 sz9 rfl rfl (h8.idx he_66)) rfl rfl fun a hF=>q_x (v:=(strV e_66)) hF hS (ex_loadE1 0 Tryz.underlying9 rfl rfl (at67.at 2 rfl) rfl rfl) rfl rfl fun a hF=>?_
     have hS : St _ _ _ _ [[⟨b5,[(iV t_11.Level),s12.v,s13.v,(iV t_11.Sum)],29⟩],q13,q12,q8,[⟨b2,[(iV 0),nilS.v,nilS.v,(iV 0)],29⟩]]:=hS.sel [3,1,0,2,4] (by decide)
     have hS68 : St _ _ _ _ ([[⟨b5,[(iV t_11.Level),s12.v,s13.v,(iV t_11.Sum)],29⟩],q13]++[q12,q8,[⟨b2,[(iV 0),nilS.v,nilS.v,(iV 0)],29⟩]]):=hS
     obtain ⟨m68,hl68,hE68,hz68⟩:=hS68.lendX
     obtain ⟨t_69,ht_69,hj3⟩:=bindS hj3
     refine q_do rfl fun _ hK=>wp_callX (vs:=[s1.v,(.pointer (some ⟨b5,0,none⟩)),(strV e_66)]) hF Tryz.func128 (by kernel_rfl) rfl rfl rfl (c_spec_nSet p_s t_11 e_66 t_69 ht_69 _ m68 b5 s1 (h1.mono hl68) s12 (h12.froz hl68 (hz68 0 _ rfl)) s13 q13 (h13.mono hl68) _ hE68) fun a w _ hR hF=>hK _ _ ?_
     obtain ⟨q71,s71,rfl,hR68,hk70,h71⟩:=hR
     have hS : St _ _ _ _ [[⟨b5,[(iV t_69.Level),s12.v,s71.v,(iV t_69.Sum)],29⟩],q71,q12,q8,[⟨b2,[(iV 0),nilS.v,nilS.v,(iV 0)],29⟩]]:=hS68.leaveF hR68
     have h71:=h71.any m
     have h70 : OwnL m 3 q12 s12 t_69.Vars:=by rw [hk70]; exact h12
     refine q_end (n_jn ?_)
     obtain rfl:=someI hj3
     exact ⟨q12,s12,q71,s71,_,_,_,rfl,hF.sub ⟨rfl,rfl,rfl,rfl,rfl,rfl,trivial⟩,hS.sel [3,2,1,0,4] (by decide),h70,h71⟩
   ·rintro a w ⟨q75,s75,q76,s76,conditions_72,i_73,t_74,rfl,hF,hS,h75,h76⟩
    refine n_ib (n_ib (n_sq ?_))
    refine q_region (q_x (v:=(iV i_73)) hF hS (ex_move rfl) rfl rfl fun a hF=>q_x (v:=(iV (w64 (i_73 + 1)))) hF hS (ex_ibin rfl rfl rfl) rfl rfl fun a hF=>q_x (v:=(iV (w64 (i_73 + 1)))) hF hS (ex_assign rfl) rfl rfl fun a hF=>q_end ?_)
    obtain rfl:=someI hb1
    exact ⟨rfl,q75,s75,q76,s76,_,_,_,rfl,hF.sub ⟨rfl,rfl,rfl,rfl,rfl,rfl,trivial⟩,hS.sel [1,2,0,3,4] (by decide),h75,h76⟩
 ·rintro e a w ⟨q78,s78,q79,s79,rfl,hF,hS,h78,h79⟩
  refine x_ib (n_sq ?_)
  refine q_seq (q_region (q_x (v:=(.agg #[(iV t_77.Level),s78.v,s79.v,(iV t_77.Sum)])) hF hS (ex_loadA (vs:=[(iV t_77.Level),s78.v,s79.v,(iV t_77.Sum)]) 2 0 Tryz.underlying29 rfl sz29 rfl rfl rfl rfl) rfl rfl fun a hF=>q_store (vs:=[(iV t_77.Level),s78.v,s79.v,(iV t_77.Sum)]) (cs':=[(iV t_77.Level),s78.v,s79.v,(iV t_77.Sum)]) 3 0 hF hS sz29 rfl rfl rfl rfl rfl rfl rfl rfl fun a w hF hS=>q_end (n_sq (q_ret ?_))))
  obtain rfl:=someI hr
  exact ret_of hF hS rfl (.cellA (us:=[(iV t_77.Level),s78.v,s79.v,(iV t_77.Sum)]) 3 0 Tryz.underlying29 rfl sz29 rfl rfl rfl rfl .nil) ⟨q78,q79,s78,s79,rfl,hS.sel [0,1] (by decide),h78,h79⟩

theorem c_spec_nParse (p_g : impl_Geo) (p_s : List impl_Variable) (p_x : List UInt8) (r : impl_Table × Bool) (hr : spec_nParse p_g p_s p_x = some r) (w0 : World) (m : Mem) (hv : Vis m w0) (s1 : Sl) (h1 : Rd m s1 p_g.Parents) (s2 : Sl) (h2 : Rd m s2 p_s) :
  Ret Tryz.prog 45 [(.agg #[s1.v]),s2.v,(strV p_x)] w0 (fun v w=>∃ (q0' : Piece) (q1' : Piece) (s0' : Sl) (s1' : Sl),v = (.tuple #[(.agg #[(iV r.1.Level),s0'.v,s1'.v,(iV r.1.Sum)]),(.bool r.2)])∧St [] w0 w m [q0',q1']∧OwnL m 3 q0' s0' r.1.Vars∧OwnL m 3 q1' s1' r.1.Where):=by
 unfold spec_nParse at hr
 refine ret_start Tryz.func45 rfl 26 rfl rfl m hv fun a hF hS=>q_seq (q_region (q_box (cs:=[s1.v]) hF hS rfl rfl rfl fun a w b3 hF hS=>q_alloc (cs:=[(iV 0),nilS.v,nilS.v,(iV 0)]) hF hS rfl rfl rfl fun a w b4 hF hS=>q_x (v:=(.bool false)) hF hS (ex_assign rfl) rfl rfl fun a hF=>q_end (n_sq (q_seq (q_region (q_x (v:=s2.v) hF hS (ex_move rfl) rfl rfl fun a hF=>q_x (v:=(strV p_x)) hF hS (ex_move rfl) rfl rfl fun a hF=>?_))))))
 obtain ⟨t_5,ht_5,hr⟩:=bindS hr
 refine q_call (vs:=[s2.v,(strV p_x)]) hF hS Tryz.func93 (by kernel_rfl) rfl rfl rfl (c_spec_nGuess p_s p_x t_5 ht_5 _ m hS.vis s2 h2) ?_
 rintro a w _ ⟨q7,q8,s7,s8,rfl,hR6,h7,h8⟩ hF hS2
 have hS : St _ _ _ _ [q7,q8,[⟨b4,[(iV 0),nilS.v,nilS.v,(iV 0)],29⟩],[⟨b3,[s1.v],26⟩]]:=hS.joinF hR6
 refine q_alloc (cs:=[(iV 0),nilS.v,nilS.v,(iV 0)]) hF hS rfl rfl rfl fun a w b9 hF hS=>q_store (vs:=[(iV t_5.Level),s7.v,s8.v,(iV t_5.Sum)]) (cs':=[(iV t_5.Level),s7.v,s8.v,(iV t_5.Sum)]) 0 0 hF hS sz29 rfl rfl rfl rfl rfl rfl rfl rfl fun a w hF hS=>q_end (n_sq (q_seq (q_seq ?_)))
 obtain ⟨t_14,hj1,hr⟩:=bindS hr
 refine q_join (fun a w=>Fr a 26 [(6,(.pointer (some ⟨b4,0,none⟩))),(8,(.pointer (some ⟨b9,0,none⟩))),(23,(.bool t_14))]∧St [] w0 w m [q7,q8,[⟨b9,[(iV t_5.Level),s7.v,s8.v,(iV t_5.Sum)],29⟩],[⟨b4,[(iV 0),nilS.v,nilS.v,(iV 0)],29⟩]]) ?_ ?_
 ·refine q_region (q_x (v:=(.agg #[s1.v])) hF hS (ex_loadA (vs:=[s1.v]) 4 0 Tryz.underlying26 rfl sz26 rfl rfl rfl rfl) rfl rfl fun a hF=>q_x (v:=s2.v) hF hS (ex_move rfl) rfl rfl fun a hF=>q_x (v:=(.agg #[(iV t_5.Level),s7.v,s8.v,(iV t_5.Sum)])) hF hS (ex_loadA (vs:=[(iV t_5.Level),s7.v,s8.v,(iV t_5.Sum)]) 0 0 Tryz.underlying29 rfl sz29 rfl rfl rfl rfl) rfl rfl fun a hF=>?_)
  obtain ⟨m11,hl11,hv11,hz11⟩:=hS.lend
  obtain ⟨t_10,ht_10,hj1⟩:=bindS hj1
  refine q_call (vs:=[(.agg #[s1.v]),s2.v,(.agg #[(iV t_5.Level),s7.v,s8.v,(iV t_5.Sum)])]) hF hS Tryz.func32 (by kernel_rfl) rfl rfl rfl (c_spec_uGood p_g p_s t_5 t_10 ht_10 _ m11 hv11 s1 (h1.mono hl11) s2 (h2.mono hl11) s7 (h7.froz hl11 (hz11 1 _ rfl)) s8 (h8.froz hl11 (hz11 2 _ rfl))) ?_
  rintro a w _ rfl hF hS
  refine q_x (v:=(.bool (!t_10))) hF hS (ex_not rfl) rfl rfl fun a hF=>q_x (v:=(.bool (!t_10))) hF hS (ex_move rfl) rfl rfl fun a hF=>?_
  rcases bcase (!t_10) with hc2 | hc2
  ·have hj1:=cond_f hc2 hj1
   refine q_xg (v:=s2.v) hF hS (ex_move rfl) (wanted_t hF rfl rfl rfl hc2) rfl fun a hF=>q_xg (v:=(.agg #[(iV t_5.Level),s7.v,s8.v,(iV t_5.Sum)])) hF hS (ex_loadA (vs:=[(iV t_5.Level),s7.v,s8.v,(iV t_5.Sum)]) 0 0 Tryz.underlying29 rfl sz29 rfl rfl rfl rfl) (wanted_t hF rfl rfl rfl hc2) rfl fun a hF=>?_
   obtain ⟨m13,hl13,hv13,hz13⟩:=hS.lend
   obtain ⟨t_12,ht_12,hj1⟩:=bindS hj1
   refine q_callg (vs:=[s2.v,(.agg #[(iV t_5.Level),s7.v,s8.v,(iV t_5.Sum)])]) hF hS (wanted_t hF rfl rfl rfl hc2) Tryz.func33 (by kernel_rfl) rfl rfl rfl (c_spec_nTable p_s t_5 t_12 ht_12 _ m13 hv13 s2 (h2.mono hl13) s7 (h7.froz hl13 (hz13 1 _ rfl)) s8 (h8.froz hl13 (hz13 2 _ rfl))) ?_
   rintro a w _ rfl hF hS
   refine q_xg (v:=(strV p_x)) hF hS (ex_move rfl) (wanted_t hF rfl rfl rfl hc2) rfl fun a hF=>q_xg (v:=(.bool (t_12 != p_x))) hF hS (ex_strNe rfl rfl) (wanted_t hF rfl rfl rfl hc2) rfl fun a hF=>q_x (v:=(.bool (t_12 != p_x))) hF hS (ex_pick_f rfl rfl hc2) rfl rfl fun a hF=>q_end (n_jn ?_)
   obtain rfl:=someI hj1
   exact ⟨hF.sub ⟨rfl,rfl,rfl,trivial⟩,hS.sel [1,2,0,3] (by decide)⟩
  ·have hj1:=cond_t hc2 hj1
   refine q_skip hF (wanted_f hF rfl rfl rfl hc2 rfl) rfl fun a hF=>q_skip hF (wanted_f hF rfl rfl rfl hc2 rfl) rfl fun a hF=>q_skip hF (wanted_f hF rfl rfl rfl hc2 rfl) rfl fun a hF=>q_skip hF (wanted_f hF rfl rfl rfl hc2 rfl) rfl fun a hF=>q_skip hF (wanted_f hF rfl rfl rfl hc2 rfl) rfl fun a hF=>q_x (v:=(.bool true)) hF hS (ex_pick_t rfl rfl hc2) rfl rfl fun a hF=>q_end (n_jn ?_)
   obtain rfl:=someI hj1
   exact ⟨hF.sub ⟨rfl,rfl,rfl,trivial⟩,hS.sel [1,2,0,3] (by decide)⟩
 ·rintro a w ⟨hF,hS⟩
  refine n_sq ?_
  rcases bcase (t_14) with hc3 | hc3
  ·have hr:=cond_f hc3 hr
   refine q_cond_f hF rfl hc3 (q_skipc (n_sq (q_seq (q_region (q_x (v:=(.agg #[(iV t_5.Level),s7.v,s8.v,(iV t_5.Sum)])) hF hS (ex_loadA (vs:=[(iV t_5.Level),s7.v,s8.v,(iV t_5.Sum)]) 2 0 Tryz.underlying29 rfl sz29 rfl rfl rfl rfl) rfl rfl fun a hF=>q_store (vs:=[(iV t_5.Level),s7.v,s8.v,(iV t_5.Sum)]) (cs':=[(iV t_5.Level),s7.v,s8.v,(iV t_5.Sum)]) 3 0 hF hS sz29 rfl rfl rfl rfl rfl rfl rfl rfl fun a w hF hS=>q_x (v:=(.bool true)) hF hS (ex_assign rfl) rfl rfl fun a hF=>q_end (n_sq (q_ret ?_)))))))
   obtain rfl:=someI hr
   exact ret_of hF hS rfl (.cellA (us:=[(iV t_5.Level),s7.v,s8.v,(iV t_5.Sum)]) 3 0 Tryz.underlying29 rfl sz29 rfl rfl rfl rfl (.tmp rfl .nil)) ⟨q7,q8,s7,s8,rfl,hS.sel [0,1] (by decide),h7,h8⟩
  ·have hr:=cond_t hc3 hr
   refine q_cond_t hF rfl hc3 (q_seq (q_region (q_x (v:=(.agg #[(iV 0),nilS.v,nilS.v,(iV 0)])) hF hS (ex_build (cells:=[(iV 0),nilS.v,nilS.v,(iV 0)]) rfl (by kernel_rfl)) rfl rfl fun a hF=>q_store (vs:=[(iV 0),nilS.v,nilS.v,(iV 0)]) (cs':=[(iV 0),nilS.v,nilS.v,(iV 0)]) 3 0 hF hS sz29 rfl rfl rfl rfl rfl rfl rfl rfl fun a w hF hS=>q_x (v:=(.bool false)) hF hS (ex_assign rfl) rfl rfl fun a hF=>q_end (n_sq (q_ret (r_sq ?_))))))
   obtain rfl:=someI hr
   exact ret_of hF hS rfl (.cellA (us:=[(iV 0),nilS.v,nilS.v,(iV 0)]) 3 0 Tryz.underlying29 rfl sz29 rfl rfl rfl rfl (.tmp rfl .nil)) ⟨[],[],nilS,nilS,rfl,hS.sel [4,5] (by decide),(OwnL.nil (α:=Int) m 3),(OwnL.nil (α:=Int) m 3)⟩

theorem c_spec_ParseTable (p_g : impl_Geo) (p_s : List impl_Variable) (p_x : List UInt8) (r : impl_Table × Bool) (hr : spec_ParseTable p_g p_s p_x = some r) (w0 : World) (m : Mem) (hv : Vis m w0) (s1 : Sl) (h1 : Rd m s1 p_g.Parents) (s2 : Sl) (h2 : Rd m s2 p_s) :
  Ret Tryz.prog 14 [(.agg #[s1.v]),s2.v,(strV p_x)] w0 (fun v w=>∃ (q0' : Piece) (q1' : Piece) (s0' : Sl) (s1' : Sl),v = (.tuple #[(.agg #[(iV r.1.Level),s0'.v,s1'.v,(iV r.1.Sum)]),(.bool r.2)])∧St [] w0 w m [q0',q1']∧OwnL m 3 q0' s0' r.1.Vars∧OwnL m 3 q1' s1' r.1.Where):=by
 unfold spec_ParseTable at hr
 refine ret_start Tryz.func14 rfl 19 rfl rfl m hv fun a hF hS=>q_seq (q_region (q_box (cs:=[s1.v]) hF hS rfl rfl rfl fun a w b3 hF hS=>q_alloc (cs:=[(iV 0),nilS.v,nilS.v,(iV 0)]) hF hS rfl rfl rfl fun a w b4 hF hS=>q_x (v:=(.bool false)) hF hS (ex_assign rfl) rfl rfl fun a hF=>q_end (n_sq (q_seq (q_seq (q_region (q_x (v:=(.agg #[s1.v])) hF hS (ex_loadA (vs:=[s1.v]) 1 0 Tryz.underlying26 rfl sz26 rfl rfl rfl rfl) rfl rfl fun a hF=>q_x (v:=s2.v) hF hS (ex_move rfl) rfl rfl fun a hF=>?_)))))))
 obtain ⟨t_5,ht_5,hr⟩:=bindS hr
 refine q_call (vs:=[(.agg #[s1.v]),s2.v]) hF hS Tryz.func44 (by kernel_rfl) rfl rfl rfl (c_spec_nInput p_g p_s t_5 ht_5 _ m hS.vis s1 h1 s2 h2) ?_
 rintro a w _ rfl hF hS
 refine q_x (v:=(.bool (!t_5))) hF hS (ex_not rfl) rfl rfl fun a hF=>q_end (n_sq ?_)
 rcases bcase (!t_5) with hc1 | hc1
 ·have hr:=cond_f hc1 hr
  refine q_cond_f hF rfl hc1 (q_skipc (n_sq (q_seq (q_region (q_x (v:=(.agg #[s1.v])) hF hS (ex_loadA (vs:=[s1.v]) 1 0 Tryz.underlying26 rfl sz26 rfl rfl rfl rfl) rfl rfl fun a hF=>q_x (v:=s2.v) hF hS (ex_move rfl) rfl rfl fun a hF=>q_x (v:=(strV p_x)) hF hS (ex_move rfl) rfl rfl fun a hF=>?_)))))
  obtain ⟨t_6,ht_6,hr⟩:=bindS hr
  refine q_call (vs:=[(.agg #[s1.v]),s2.v,(strV p_x)]) hF hS Tryz.func45 (by kernel_rfl) rfl rfl rfl (c_spec_nParse p_g p_s p_x t_6 ht_6 _ m hS.vis s1 h1 s2 h2) ?_
  rintro a w _ ⟨q8,q9,s8,s9,rfl,hR7,h8,h9⟩ hF hS2
  have hS : St _ _ _ _ [q8,q9,[⟨b4,[(iV 0),nilS.v,nilS.v,(iV 0)],29⟩],[⟨b3,[s1.v],26⟩]]:=hS.joinF hR7
  refine q_x (v:=(.agg #[(iV t_6.1.Level),s8.v,s9.v,(iV t_6.1.Sum)])) hF hS (ex_extract rfl rfl) rfl rfl fun a hF=>q_x (v:=(.bool t_6.2)) hF hS (ex_extract rfl rfl) rfl rfl fun a hF=>q_store (vs:=[(iV t_6.1.Level),s8.v,s9.v,(iV t_6.1.Sum)]) (cs':=[(iV t_6.1.Level),s8.v,s9.v,(iV t_6.1.Sum)]) 2 0 hF hS sz29 rfl rfl rfl rfl rfl rfl rfl rfl fun a w hF hS=>q_x (v:=(.bool t_6.2)) hF hS (ex_assign rfl) rfl rfl fun a hF=>q_end (n_sq (q_ret ?_))
  obtain rfl:=someI hr
  exact ret_of hF hS rfl (.cellA (us:=[(iV t_6.1.Level),s8.v,s9.v,(iV t_6.1.Sum)]) 2 0 Tryz.underlying29 rfl sz29 rfl rfl rfl rfl (.tmp rfl .nil)) ⟨q8,q9,s8,s9,rfl,hS.sel [0,1] (by decide),h8,h9⟩
 ·have hr:=cond_t hc1 hr
  refine q_cond_t hF rfl hc1 (q_seq (q_region (q_x (v:=(.agg #[(iV 0),nilS.v,nilS.v,(iV 0)])) hF hS (ex_build (cells:=[(iV 0),nilS.v,nilS.v,(iV 0)]) rfl (by kernel_rfl)) rfl rfl fun a hF=>q_store (vs:=[(iV 0),nilS.v,nilS.v,(iV 0)]) (cs':=[(iV 0),nilS.v,nilS.v,(iV 0)]) 0 0 hF hS sz29 rfl rfl rfl rfl rfl rfl rfl rfl fun a w hF hS=>q_x (v:=(.bool false)) hF hS (ex_assign rfl) rfl rfl fun a hF=>q_end (n_sq (q_ret (r_sq ?_))))))
  obtain rfl:=someI hr
  exact ret_of hF hS rfl (.cellA (us:=[(iV 0),nilS.v,nilS.v,(iV 0)]) 0 0 Tryz.underlying29 rfl sz29 rfl rfl rfl rfl (.tmp rfl .nil)) ⟨[],[],nilS,nilS,rfl,hS.sel [2,3] (by decide),(OwnL.nil (α:=Int) m 3),(OwnL.nil (α:=Int) m 3)⟩

theorem c_spec_nOwn (p_t : impl_Table) (r : impl_Table) (hr : spec_nOwn p_t = some r) (w0 : World) (m : Mem) (hv : Vis m w0) (s1 : Sl) (h1 : Rd m s1 p_t.Vars) (s2 : Sl) (h2 : Rd m s2 p_t.Where) :
  Ret Tryz.prog 58 [(.agg #[(iV p_t.Level),s1.v,s2.v,(iV p_t.Sum)])] w0 (fun v w=>∃ (q0' : Piece) (q1' : Piece) (s0' : Sl) (s1' : Sl),v = (.agg #[(iV r.Level),s0'.v,s1'.v,(iV r.Sum)])∧St [] w0 w m [q0',q1']∧OwnL m 3 q0' s0' r.Vars∧OwnL m 3 q1' s1' r.Where):=by
 unfold spec_nOwn at hr
 refine ret_start Tryz.func58 rfl 14 rfl rfl m hv fun a hF hS=>q_seq (q_region (q_box (cs:=[(iV p_t.Level),s1.v,s2.v,(iV p_t.Sum)]) hF hS rfl rfl rfl fun a w b3 hF hS=>q_alloc (cs:=[(iV 0),nilS.v,nilS.v,(iV 0)]) hF hS rfl rfl rfl fun a w b4 hF hS=>q_end (n_sq (q_seq (e_region ⟨[11],[b3]⟩ mixed fun w' hw'=>?_)))))
 have hS:=hS.below hw'
 refine e_p (v:=(.pointer (some ⟨b3,0,none⟩))) 0 hF rfl (ex_fieldAddr Tryz.underlying29 rfl sz3 rfl rfl) rfl rfl (by kernel_rfl) (by kernel_rfl) (by kernel_rfl) fun a hF=>e_xb (v:=(iV p_t.Level)) 1 1 hF hS (.head _) rfl rfl (ex_load1 0 0 Tryz.underlying3 rfl rfl rfl rfl) rfl rfl (by kernel_rfl) (by kernel_rfl) (by kernel_rfl) fun a hF=>e_p (v:=(.pointer (some ⟨b3,1,none⟩))) 2 hF rfl (ex_fieldAddr Tryz.underlying29 rfl sz24 rfl rfl) rfl rfl (by kernel_rfl) (by kernel_rfl) (by kernel_rfl) fun a hF=>e_xb (v:=s1.v) 3 1 hF hS (.head _) rfl rfl (ex_load1 0 0 Tryz.underlying24 rfl rfl rfl rfl) rfl rfl (by kernel_rfl) (by kernel_rfl) (by kernel_rfl) fun a hF=>e_p (v:=(.pointer (some ⟨b3,2,none⟩))) 5 hF rfl (ex_fieldAddr Tryz.underlying29 rfl sz24 rfl rfl) rfl rfl (by kernel_rfl) (by kernel_rfl) (by kernel_rfl) fun a hF=>e_xb (v:=s2.v) 6 1 hF hS (.head _) rfl rfl (ex_load1 0 0 Tryz.underlying24 rfl rfl rfl rfl) rfl rfl (by kernel_rfl) (by kernel_rfl) (by kernel_rfl) fun a hF=>e_p (v:=(.pointer (some ⟨b3,3,none⟩))) 8 hF rfl (ex_fieldAddr Tryz.underlying29 rfl sz3 rfl rfl) rfl rfl (by kernel_rfl) (by kernel_rfl) (by kernel_rfl) fun a hF=>e_xb (v:=(iV p_t.Sum)) 9 1 hF hS (.head _) rfl rfl (ex_load1 0 0 Tryz.underlying3 rfl rfl rfl rfl) rfl rfl (by kernel_rfl) (by kernel_rfl) (by kernel_rfl) fun a hF=>e_one 4 (by kernel_rfl) ?_
 obtain ⟨t_17,ht_17,hr⟩:=bindS hr
 refine e_call (vs:=[s1.v]) hF hS rfl Tryz.func100 (by kernel_rfl) rfl rfl rfl (c_spec_l1Own p_t.Vars t_17 ht_17 _ m hS.vis s1 h1) ?_
 rintro a w _ ⟨q19,s19,rfl,hR18,h19⟩ hF hS2
 have hS : St _ _ _ _ [q19,[⟨b4,[(iV 0),nilS.v,nilS.v,(iV 0)],29⟩],[⟨b3,[(iV p_t.Level),s1.v,s2.v,(iV p_t.Sum)],29⟩]]:=hS.joinF hR18
 refine e_one 7 (by kernel_rfl) ?_
 obtain ⟨t_20,ht_20,hr⟩:=bindS hr
 refine e_call (vs:=[s2.v]) hF hS rfl Tryz.func100 (by kernel_rfl) rfl rfl rfl (c_spec_l1Own p_t.Where t_20 ht_20 _ m hS.vis s2 h2) ?_
 rintro a w _ ⟨q22,s22,rfl,hR21,h22⟩ hF hS2
 have hS : St _ _ _ _ [q22,q19,[⟨b4,[(iV 0),nilS.v,nilS.v,(iV 0)],29⟩],[⟨b3,[(iV p_t.Level),s1.v,s2.v,(iV p_t.Sum)],29⟩]]:=hS.joinF hR21
 refine e_p (v:=(.agg #[(iV p_t.Level),s19.v,s22.v,(iV p_t.Sum)])) 10 hF rfl (ex_build (cells:=[(iV p_t.Level),s19.v,s22.v,(iV p_t.Sum)]) rfl (by kernel_rfl)) rfl rfl (by kernel_rfl) (by kernel_rfl) (by kernel_rfl) fun a hF=>e_one 11 (by kernel_rfl) ?_
 have hSo:=hS
 refine e_store (vs:=[(iV p_t.Level),s19.v,s22.v,(iV p_t.Sum)]) (cs':=[(iV p_t.Level),s19.v,s22.v,(iV p_t.Sum)]) 2 0 hF hS rfl rfl sz29 rfl rfl rfl rfl rfl rfl rfl rfl fun a w hF hS=>⟨kpC hSo hS 3 3 rfl rfl kpN,?_⟩
 refine e_end (by kernel_rfl) (n_sq (q_ret ?_)) _
 obtain rfl:=someI hr
 exact ret_of hF hS rfl (.cellA (us:=[(iV p_t.Level),s19.v,s22.v,(iV p_t.Sum)]) 2 0 Tryz.underlying29 rfl sz29 rfl rfl rfl rfl .nil) ⟨q19,q22,s19,s22,rfl,hS.sel [1,0] (by decide),h19,h22⟩

theorem c_spec_eFull (p_s : List impl_Variable) (p_v : Int) (r : Int) (hr : spec_eFull p_s p_v = some r) (w0 : World) (m : Mem) (hv : Vis m w0) (s1 : Sl) (h1 : Rd m s1 p_s) :
  Ret Tryz.prog 94 [s1.v,(iV p_v)] w0 (fun v _=>v = (iV r)):=by
 unfold spec_eFull at hr
 refine ret_start Tryz.func94 rfl 13 rfl rfl m hv fun a hF hS=>q_seq (q_region (q_x (v:=(iV 0)) hF hS (ex_assign rfl) rfl rfl fun a hF=>q_end (n_sq (q_seq (q_region (q_x (v:=s1.v) hF hS (ex_move rfl) rfl rfl fun a hF=>q_x (v:=(iV p_v)) hF hS (ex_move rfl) rfl rfl fun a hF=>?_))))))
 obtain ⟨e_2,he_2,hr⟩:=bindS hr
 obtain ⟨vs3,at3,d3⟩:=h1.at he_2 2 rfl
 obtain rfl : vs3 = [(strV e_2.Name),(iV e_2.Levels)]:=d3
 refine q_x (v:=(elP s1 (p_v.toNat * 2))) hF hS (ex_indexAddr Tryz.underlying27 sz95 rfl rfl (h1.idx he_2)) rfl rfl fun a hF=>q_x (v:=(elP s1 (p_v.toNat * 2 + 1))) hF hS (ex_fieldAddrE Tryz.underlying95 rfl sz3 rfl (h1.idx he_2) rfl) rfl rfl fun a hF=>q_x (v:=(iV e_2.Levels)) hF hS (ex_loadE1 1 Tryz.underlying3 rfl rfl ((at3).at) rfl rfl) rfl rfl fun a hF=>q_x (v:=(.int .u64 (IntKind.wrap .u64 e_2.Levels))) hF hS (ex_conv Tryz.underlying3 Tryz.underlying137 rfl) rfl rfl fun a hF=>?_
 obtain ⟨t_4,ht_4,hr⟩:=bindS hr
 refine q_x (v:=(iV t_4)) hF hS (ex_shl rfl rfl ht_4) rfl rfl fun a hF=>q_x (v:=(iV (w64 (t_4 - 1)))) hF hS (ex_ibin rfl rfl rfl) rfl rfl fun a hF=>q_x (v:=(iV (w64 (t_4 - 1)))) hF hS (ex_assign rfl) rfl rfl fun a hF=>q_end (n_sq (q_ret ?_))
 obtain rfl:=someI hr
 exact ret_of hF hS rfl (.tmp rfl .nil) rfl

theorem c_spec_nNormal (p_s : List impl_Variable) (p_t : impl_Table) (r : impl_Table) (hr : spec_nNormal p_s p_t = some r) (w0 : World) (m : Mem) (hv : Vis m w0) (s1 : Sl) (h1 : Rd m s1 p_s) (s2 : Sl) (h2 : Rd m s2 p_t.Vars) (s3 : Sl) (h3 : Rd m s3 p_t.Where) :
  Ret Tryz.prog 46 [s1.v,(.agg #[(iV p_t.Level),s2.v,s3.v,(iV p_t.Sum)])] w0 (fun v w=>∃ (q0' : Piece) (q1' : Piece) (s0' : Sl) (s1' : Sl),v = (.agg #[(iV r.Level),s0'.v,s1'.v,(iV r.Sum)])∧St [] w0 w m [q0',q1']∧OwnL m 3 q0' s0' r.Vars∧OwnL m 3 q1' s1' r.Where):=by
 unfold spec_nNormal at hr
 refine ret_start Tryz.func46 rfl 29 rfl rfl m hv fun a hF hS=>q_seq (q_region (q_box (cs:=[(iV p_t.Level),s2.v,s3.v,(iV p_t.Sum)]) hF hS rfl rfl rfl fun a w b4 hF hS=>q_alloc (cs:=[(iV 0),nilS.v,nilS.v,(iV 0)]) hF hS rfl rfl rfl fun a w b5 hF hS=>q_end (n_sq (q_seq (q_region (q_x (v:=(.agg #[(iV p_t.Level),s2.v,s3.v,(iV p_t.Sum)])) hF hS (ex_loadA (vs:=[(iV p_t.Level),s2.v,s3.v,(iV p_t.Sum)]) 1 0 Tryz.underlying29 rfl sz29 rfl rfl rfl rfl) rfl rfl fun a hF=>?_))))))
 obtain ⟨t_6,ht_6,hr⟩:=bindS hr
 refine q_call (vs:=[(.agg #[(iV p_t.Level),s2.v,s3.v,(iV p_t.Sum)])]) hF hS Tryz.func58 (by kernel_rfl) rfl rfl rfl (c_spec_nOwn p_t t_6 ht_6 _ m hS.vis s2 h2 s3 h3) ?_
 rintro a w _ ⟨q8,q9,s8,s9,rfl,hR7,h8,h9⟩ hF hS2
 have hS : St _ _ _ _ [q8,q9,[⟨b5,[(iV 0),nilS.v,nilS.v,(iV 0)],29⟩],[⟨b4,[(iV p_t.Level),s2.v,s3.v,(iV p_t.Sum)],29⟩]]:=hS.joinF hR7
 refine q_alloc (cs:=[(iV 0),nilS.v,nilS.v,(iV 0)]) hF hS rfl rfl rfl fun a w b10 hF hS=>q_store (vs:=[(iV t_6.Level),s8.v,s9.v,(iV t_6.Sum)]) (cs':=[(iV t_6.Level),s8.v,s9.v,(iV t_6.Sum)]) 0 0 hF hS sz29 rfl rfl rfl rfl rfl rfl rfl rfl fun a w hF hS=>q_end (n_sq (q_seq (q_seq (q_region (q_x (v:=s1.v) hF hS (ex_move rfl) rfl rfl fun a hF=>q_x (v:=(iV (goLen p_s))) hF hS (ex_len Tryz.underlying27 rfl h1.len) rfl rfl fun a hF=>q_x (v:=(iV 0)) hF hS (ex_move rfl) rfl rfl fun a hF=>q_end (n_sq (q_block ?_)))))))
 obtain ⟨out_24,hl1,hr⟩:=bindS hr
 refine q_loop (fun (s : Int × impl_Table) a w=>∃ (q14 : Piece),∃ t_11,∃ out_12,s = (t_11,out_12)∧Fr a 29 [(0,s1.v),(4,(.pointer (some ⟨b5,0,none⟩))),(5,(.pointer (some ⟨b10,0,none⟩))),(10,(iV (goLen p_s))),(11,(iV t_11))]∧St [] w0 w m [q14,[⟨b10,[(iV out_12.Level),s8.v,s9.v,(iV out_12.Sum)],29⟩],q8,[⟨b5,[(iV 0),nilS.v,nilS.v,(iV 0)],29⟩]]∧OwnL m 3 q8 s8 out_12.Vars∧out_12.Vars = t_6.Vars∧OwnL m 3 q14 s9 out_12.Where) (fun (out_24 : impl_Table) e a w=>∃ (q26 : Piece),e = .exit 0∧Fr a 29 [(4,(.pointer (some ⟨b5,0,none⟩))),(5,(.pointer (some ⟨b10,0,none⟩)))]∧St [] w0 w m [q8,q26,[⟨b10,[(iV out_24.Level),s8.v,s9.v,(iV out_24.Sum)],29⟩],[⟨b5,[(iV 0),nilS.v,nilS.v,(iV 0)],29⟩]]∧OwnL m 3 q8 s8 out_24.Vars∧out_24.Vars = t_6.Vars∧OwnL m 3 q26 s9 out_24.Where) hl1 ⟨q9,_,_,rfl,hF.sub ⟨rfl,rfl,rfl,rfl,rfl,trivial⟩,hS.sel [2,0,1,3] (by decide),h8,rfl,h9⟩ ?_ ?_
 ·clear hF hS
  rintro s a w st ⟨q14,t_11,out_12,rfl,hF,hS,h13,h13k,h14⟩ hb1
  unfold spec_nNormal_l1 at hb1
  refine q_seq (q_region (q_x (v:=(.bool (decide (t_11 < (goLen p_s))))) hF hS (ex_ibin rfl rfl rfl) rfl rfl fun a hF=>q_end (n_sq (q_seq ?_))))
  rcases bcase (decide (t_11 < (goLen p_s))) with hc2 | hc2
  ·have hb1:=cond_f hc2 hb1
   refine q_cond_f hF rfl hc2 (q_exit (x_sq ?_))
   obtain rfl:=someI hb1
   exact ⟨nofun,.inl ⟨q14,rfl,hF.sub ⟨rfl,rfl,trivial⟩,hS.sel [2,0,1,3] (by decide),h13,h13k,h14⟩⟩
  ·have hb1:=cond_t hc2 hb1
   refine q_cond_t hF rfl hc2 (q_skipc (n_sq (q_seq (q_block (q_seq (q_region (q_x (v:=(iV t_11)) hF hS (ex_move rfl) rfl rfl fun a hF=>q_x (v:=(iV t_11)) hF hS (ex_assign rfl) rfl rfl fun a hF=>q_end (n_sq (q_seq (e_region ⟨[],[]⟩ mixed fun w' hw'=>?_))))))))))
   have hS:=hS.below hw'
   refine e_p (v:=(.pointer (some ⟨b10,2,none⟩))) 0 hF rfl (ex_fieldAddr Tryz.underlying29 rfl sz24 rfl rfl) rfl rfl (by kernel_rfl) (by kernel_rfl) (by kernel_rfl) fun a hF=>e_x (v:=s9.v) 1 hF hS rfl (ex_load1 1 0 Tryz.underlying24 rfl rfl rfl rfl) rfl rfl (by kernel_rfl) (by kernel_rfl) (by kernel_rfl) (by kernel_rfl) fun a hF=>e_p (v:=(iV t_11)) 2 hF rfl (ex_move rfl) rfl rfl (by kernel_rfl) (by kernel_rfl) (by kernel_rfl) fun a hF=>?_
   obtain ⟨e_15,he_15,hb1⟩:=bindS hb1
   obtain ⟨vs16,at16,d16⟩:=h14.at he_15 1 rfl
   obtain rfl : vs16 = [(iV e_15)]:=d16
   refine e_p (v:=(elP s9 (t_11.toNat * 1))) 3 hF rfl (ex_indexAddr Tryz.underlying24 sz3 rfl rfl (h14.idx he_15)) rfl rfl (by kernel_rfl) (by kernel_rfl) (by kernel_rfl) fun a hF=>e_x (v:=(iV e_15)) 4 hF hS rfl (ex_loadE1 0 Tryz.underlying3 rfl rfl (at16.at 0 rfl) rfl rfl) rfl rfl (by kernel_rfl) (by kernel_rfl) (by kernel_rfl) (by kernel_rfl) fun a hF=>e_p (v:=s1.v) 5 hF rfl (ex_move rfl) rfl rfl (by kernel_rfl) (by kernel_rfl) (by kernel_rfl) fun a hF=>e_p (v:=(iV t_11)) 6 hF rfl (ex_move rfl) rfl rfl (by kernel_rfl) (by kernel_rfl) (by kernel_rfl) fun a hF=>e_one 7 (by kernel_rfl) ?_
   obtain ⟨t_17,ht_17,hb1⟩:=bindS hb1
   refine e_call (vs:=[s1.v,(iV t_11)]) hF hS rfl Tryz.func94 (by kernel_rfl) rfl rfl rfl (c_spec_eFull p_s t_11 t_17 ht_17 _ m hS.vis s1 h1) ?_
   rintro a w _ rfl hF hS
   refine e_p (v:=(.bool (e_15 == t_17))) 8 hF rfl (ex_ibin rfl rfl rfl) rfl rfl (by kernel_rfl) (by kernel_rfl) (by kernel_rfl) fun a hF=>e_end (by kernel_rfl) (n_sq ?_) _
   obtain ⟨out_21,hj3,hb1⟩:=bindS hb1
   refine q_join (fun a w=>∃ (q23 : Piece),Fr a 29 [(0,s1.v),(4,(.pointer (some ⟨b5,0,none⟩))),(5,(.pointer (some ⟨b10,0,none⟩))),(10,(iV (goLen p_s))),(11,(iV t_11))]∧St [] w0 w m [q8,q23,[⟨b10,[(iV out_21.Level),s8.v,s9.v,(iV out_21.Sum)],29⟩],[⟨b5,[(iV 0),nilS.v,nilS.v,(iV 0)],29⟩]]∧OwnL m 3 q8 s8 out_21.Vars∧out_21.Vars = t_6.Vars∧OwnL m 3 q23 s9 out_21.Where) ?_ ?_
   ·rcases bcase (e_15 == t_17) with hc4 | hc4
    ·have hj3:=cond_f hc4 hj3
     refine q_cond_f hF rfl hc4 (q_skipc (n_jn ?_))
     obtain rfl:=someI hj3
     exact ⟨q14,hF.sub ⟨rfl,rfl,rfl,rfl,rfl,trivial⟩,hS.sel [2,0,1,3] (by decide),h13,h13k,h14⟩
    ·have hj3:=cond_t hc4 hj3
     refine q_cond_t hF rfl hc4 (q_region (q_x (v:=(.pointer (some ⟨b10,2,none⟩))) hF hS (ex_fieldAddr Tryz.underlying29 rfl sz24 rfl rfl) rfl rfl fun a hF=>q_x (v:=s9.v) hF hS (ex_load1 1 0 Tryz.underlying24 rfl rfl rfl rfl) rfl rfl fun a hF=>q_x (v:=(iV t_11)) hF hS (ex_move rfl) rfl rfl fun a hF=>?_))
     obtain ⟨e_18,he_18,hj3⟩:=bindS hj3
     obtain ⟨vs19,at19,d19⟩:=h14.at he_18 1 rfl
     obtain rfl : vs19 = [(iV e_18)]:=d19
     refine q_x (v:=(elP s9 (t_11.toNat * 1))) hF hS (ex_indexAddr Tryz.underlying24 sz3 rfl rfl (h14.idx he_18)) rfl rfl fun a hF=>q_do rfl fun _ hK=>wp_storeE (e':=0) (us:=[(iV 0)]) (vs:=[(iV e_18)]) 0 hF hS h14 sz3 rfl rfl rfl rfl rfl rfl rfl he_18 at19 rfl rfl rfl fun w q20 hS h20=>hK _ _ (q_end (n_jn ?_))
     obtain rfl:=someI hj3
     exact ⟨q20,hF.sub ⟨rfl,rfl,rfl,rfl,rfl,trivial⟩,hS.sel [2,0,1,3] (by decide),h13,h13k,h20⟩
   ·rintro a w ⟨q23,hF,hS,h22,h22k,h23⟩
    refine n_ib (n_sq ?_)
    refine q_region (q_x (v:=(iV (w64 (t_11 + 1)))) hF hS (ex_ibin rfl rfl rfl) rfl rfl fun a hF=>q_x (v:=(iV (w64 (t_11 + 1)))) hF hS (ex_move rfl) rfl rfl fun a hF=>q_end ?_)
    obtain rfl:=someI hb1
    exact ⟨rfl,q23,_,_,rfl,hF.sub ⟨rfl,rfl,rfl,rfl,rfl,trivial⟩,hS.sel [1,2,0,3] (by decide),h22,h22k,h23⟩
 ·rintro e a w ⟨q26,rfl,hF,hS,h25,h25k,h26⟩
  refine x_ib (n_sq ?_)
  refine q_seq (q_region (q_x (v:=(.agg #[(iV out_24.Level),s8.v,s9.v,(iV out_24.Sum)])) hF hS (ex_loadA (vs:=[(iV out_24.Level),s8.v,s9.v,(iV out_24.Sum)]) 2 0 Tryz.underlying29 rfl sz29 rfl rfl rfl rfl) rfl rfl fun a hF=>q_store (vs:=[(iV out_24.Level),s8.v,s9.v,(iV out_24.Sum)]) (cs':=[(iV out_24.Level),s8.v,s9.v,(iV out_24.Sum)]) 3 0 hF hS sz29 rfl rfl rfl rfl rfl rfl rfl rfl fun a w hF hS=>q_end (n_sq (q_ret ?_))))
  obtain rfl:=someI hr
  exact ret_of hF hS rfl (.cellA (us:=[(iV out_24.Level),s8.v,s9.v,(iV out_24.Sum)]) 3 0 Tryz.underlying29 rfl sz29 rfl rfl rfl rfl .nil) ⟨q8,q26,s8,s9,rfl,hS.sel [0,1] (by decide),h25,h26⟩

theorem c_spec_DrawSameMeaning (p_code : List (K .u8)) (r : impl_Geo × (List impl_Variable) × impl_Table × impl_Table) (hr : spec_DrawSameMeaning p_code = some r) (w0 : World) (m : Mem) (hv : Vis m w0) (s1 : Sl) (h1 : Rd m s1 p_code) :
  Ret Tryz.prog 15 [s1.v] w0 (fun v w=>∃ (m' : Mem) (q0' : Piece) (q2' : Piece) (q3' : Piece) (q4' : Piece) (q5' : Piece) (s0' : Sl) (s1' : Sl) (s2' : Sl) (s3' : Sl) (s4' : Sl) (s5' : Sl),v = (.tuple #[(.agg #[s0'.v]),s1'.v,(.agg #[(iV r.2.2.1.Level),s2'.v,s3'.v,(iV r.2.2.1.Sum)]),(.agg #[(iV r.2.2.2.Level),s4'.v,s5'.v,(iV r.2.2.2.Sum)])])∧MLe [] w0.heap.size m m'∧St [] w0 w m' [q0',q2',q3',q4',q5']∧OwnL m' 3 q0' s0' r.1.Parents∧Rd m' s1' r.2.1∧OwnL m' 3 q2' s2' r.2.2.1.Vars∧OwnL m' 3 q3' s3' r.2.2.1.Where∧OwnL m' 3 q4' s4' r.2.2.2.Vars∧OwnL m' 3 q5' s5' r.2.2.2.Where):=by
 unfold spec_DrawSameMeaning at hr
 refine ret_start Tryz.func15 rfl 44 rfl rfl m hv fun a hF hS=>q_seq (q_region (q_alloc (cs:=[nilS.v]) hF hS rfl rfl rfl fun a w b2 hF hS=>q_x (v:=nilS.v) hF hS (ex_assign rfl) rfl rfl fun a hF=>q_alloc (cs:=[(iV 0),nilS.v,nilS.v,(iV 0)]) hF hS rfl rfl rfl fun a w b3 hF hS=>q_alloc (cs:=[(iV 0),nilS.v,nilS.v,(iV 0)]) hF hS rfl rfl rfl fun a w b4 hF hS=>q_end (n_sq (q_seq (q_region (q_x (v:=s1.v) hF hS (ex_move rfl) rfl rfl fun a hF=>q_x (v:=(.agg #[s1.v,(iV 0),(.int .u64 0)])) hF hS (ex_build (cells:=[s1.v,(iV 0),(.int .u64 0)]) rfl (by kernel_rfl)) rfl rfl fun a hF=>q_box (cs:=[s1.v,(iV 0),(.int .u64 0)]) hF hS rfl rfl rfl fun a w b5 hF hS=>q_x (v:=(.pointer (some ⟨b5,0,none⟩))) hF hS (ex_assign rfl) rfl rfl fun a hF=>q_end (n_sq (q_seq (q_region (q_x (v:=(.pointer (some ⟨b5,0,none⟩))) hF hS (ex_move rfl) rfl rfl fun a hF=>?_))))))))))
 have hS6 : St _ _ _ _ ([[⟨b5,[s1.v,(iV 0),(.int .u64 0)],59⟩]]++[[⟨b4,[(iV 0),nilS.v,nilS.v,(iV 0)],29⟩],[⟨b3,[(iV 0),nilS.v,nilS.v,(iV 0)],29⟩],[⟨b2,[nilS.v],26⟩]]):=hS
 have hE6:=hS6.enter
 obtain ⟨t_7,ht_7,hr⟩:=bindS hr
 refine q_do rfl fun _ hK=>wp_callX (vs:=[(.pointer (some ⟨b5,0,none⟩))]) hF Tryz.func28 (by kernel_rfl) rfl rfl rfl (c_spec_l1Cur_anySurvey (spec_l1Cur.mk p_code 0 (⟨0⟩ : K .u64)) t_7 ht_7 _ m b5 s1 h1 _ hE6) fun a w _ hR hF=>hK _ _ ?_
 obtain ⟨m6',q8,q10,s8,s9,s10,rfl,hm6,hR6,h8,h9,h10,hk11⟩:=hR
 have hS : St _ _ _ _ [[⟨b5,[s1.v,(iV t_7.2.2.2.at_),(.int .u64 t_7.2.2.2.seed.v)],59⟩],q8,q10,[⟨b4,[(iV 0),nilS.v,nilS.v,(iV 0)],29⟩],[⟨b3,[(iV 0),nilS.v,nilS.v,(iV 0)],29⟩],[⟨b2,[nilS.v],26⟩]]:=hS6.leave hR6 hm6
 have hm6:=MLe.weakX hS6 hm6
 have h11 : Rd m6' s1 t_7.2.2.2.code:=by rw [hk11]; exact (h1.mono hm6.le)
 refine q_x (v:=(.tuple #[(.agg #[s8.v]),s9.v,s10.v])) hF hS (ex_move rfl) rfl rfl fun a hF=>q_x (v:=(.agg #[s8.v])) hF hS (ex_extract rfl rfl) rfl rfl fun a hF=>q_x (v:=s9.v) hF hS (ex_extract rfl rfl) rfl rfl fun a hF=>q_x (v:=s10.v) hF hS (ex_extract rfl rfl) rfl rfl fun a hF=>q_alloc (cs:=[nilS.v]) hF hS rfl rfl rfl fun a w b12 hF hS=>q_store (vs:=[s8.v]) (cs':=[s8.v]) 0 0 hF hS sz26 rfl rfl rfl rfl rfl rfl rfl rfl fun a w hF hS=>q_x (v:=s9.v) hF hS (ex_assign rfl) rfl rfl fun a hF=>q_x (v:=s10.v) hF hS (ex_assign rfl) rfl rfl fun a hF=>q_end (n_sq (q_seq ?_))
 obtain ⟨j1,hj1,hr⟩:=bindS hr
 refine q_join (fun a w=>∃ b44,∃ b43,∃ (q46 : Piece),∃ (s46 : Sl),∃ (q47 : Piece),∃ (s47 : Sl),∃ (q49 : Piece),∃ (s49 : Sl),∃ (q50 : Piece),∃ (s50 : Sl),∃ b_45,∃ a_48,∃ t_51,j1 = (b_45,a_48,t_51)∧Fr a 44 [(2,(.pointer (some ⟨b2,0,none⟩))),(4,(.pointer (some ⟨b3,0,none⟩))),(5,(.pointer (some ⟨b4,0,none⟩))),(6,(.pointer (some ⟨b5,0,none⟩))),(7,(.pointer (some ⟨b12,0,none⟩))),(8,s9.v),(10,(.pointer (some ⟨b43,0,none⟩))),(11,(.pointer (some ⟨b44,0,none⟩)))]∧St [] w0 w m6' [q46,q47,q49,q50,q8,[⟨b44,[(iV b_45.Level),s46.v,s47.v,(iV b_45.Sum)],29⟩],[⟨b43,[(iV a_48.Level),s49.v,s50.v,(iV a_48.Sum)],29⟩],[⟨b5,[s1.v,(iV t_51.at_),(.int .u64 t_51.seed.v)],59⟩],[⟨b12,[s8.v],26⟩],[⟨b4,[(iV 0),nilS.v,nilS.v,(iV 0)],29⟩],[⟨b3,[(iV 0),nilS.v,nilS.v,(iV 0)],29⟩],[⟨b2,[nilS.v],26⟩]]∧OwnL m6' 3 q46 s46 b_45.Vars∧OwnL m6' 3 q47 s47 b_45.Where∧OwnL m6' 3 q49 s49 a_48.Vars∧OwnL m6' 3 q50 s50 a_48.Where∧Rd m6' s1 t_51.code∧t_51.code = p_code) ?_ ?_
 ·refine e_region ⟨[3,7,10,11],[b12]⟩ mixed fun w' hw'=>?_
  have hS:=hS.below hw'
  refine e_p (v:=(.pointer (some ⟨b5,0,none⟩))) 0 hF rfl (ex_move rfl) rfl rfl (by kernel_rfl) (by kernel_rfl) (by kernel_rfl) fun a hF=>e_xb (v:=(.agg #[s8.v])) 1 0 hF hS (.head _) rfl rfl (ex_loadA (vs:=[s8.v]) 0 0 Tryz.underlying26 rfl sz26 rfl rfl rfl rfl) rfl rfl (by kernel_rfl) (by kernel_rfl) (by kernel_rfl) fun a hF=>e_p (v:=s9.v) 2 hF rfl (ex_move rfl) rfl rfl (by kernel_rfl) (by kernel_rfl) (by kernel_rfl) fun a hF=>e_p (v:=(.pointer (some ⟨b5,0,none⟩))) 4 hF rfl (ex_move rfl) rfl rfl (by kernel_rfl) (by kernel_rfl) (by kernel_rfl) fun a hF=>e_xb (v:=(.agg #[s8.v])) 5 0 hF hS (.head _) rfl rfl (ex_loadA (vs:=[s8.v]) 0 0 Tryz.underlying26 rfl sz26 rfl rfl rfl rfl) rfl rfl (by kernel_rfl) (by kernel_rfl) (by kernel_rfl) fun a hF=>e_p (v:=s9.v) 6 hF rfl (ex_move rfl) rfl rfl (by kernel_rfl) (by kernel_rfl) (by kernel_rfl) fun a hF=>?_
  obtain ⟨t_34,ht_34,hj1⟩:=bindS hj1
  obtain ⟨t_39,ht_39,hj1⟩:=bindS hj1
  refine e_all [3,8,9] (by kernel_rfl) rfl ⟨?_,?_,?_,trivial⟩
  ·have hS : St _ _ _ _ [[⟨b5,[s1.v,(iV t_7.2.2.2.at_),(.int .u64 t_7.2.2.2.seed.v)],59⟩],[⟨b12,[s8.v],26⟩],q8,q10,[⟨b4,[(iV 0),nilS.v,nilS.v,(iV 0)],29⟩],[⟨b3,[(iV 0),nilS.v,nilS.v,(iV 0)],29⟩],[⟨b2,[nilS.v],26⟩]]:=hS.sel [1,0,2,3,4,5,6] (by decide)
   have hS33 : St _ _ _ _ ([[⟨b5,[s1.v,(iV t_7.2.2.2.at_),(.int .u64 t_7.2.2.2.seed.v)],59⟩]]++[[⟨b12,[s8.v],26⟩],q8,q10,[⟨b4,[(iV 0),nilS.v,nilS.v,(iV 0)],29⟩],[⟨b3,[(iV 0),nilS.v,nilS.v,(iV 0)],29⟩],[⟨b2,[nilS.v],26⟩]]):=hS
   obtain ⟨m33,hl33,hE33,hz33⟩:=hS33.lendX
   have hSo:=hS
   refine e_opl rfl rfl rfl fun _ hK=>wp_callX (vs:=[(.pointer (some ⟨b5,0,none⟩)),(.agg #[s8.v]),s9.v]) hF Tryz.func29 (by kernel_rfl) rfl rfl rfl (c_spec_l1Cur_anyTable t_7.2.2.2 t_7.1 t_7.2.1 t_34 ht_34 _ m33 b5 s1 (h11.mono hl33) s8 (h8.froz hl33 (hz33 1 _ rfl)) s9 (h9.mono hl33) _ hE33) fun a w _ hR hF=>hK _ _ ?_
   obtain ⟨q35,q36,s35,s36,rfl,hR33,h35,h36,hk37⟩:=hR
   have hS : St _ _ _ _ [[⟨b5,[s1.v,(iV t_34.2.at_),(.int .u64 t_34.2.seed.v)],59⟩],q35,q36,[⟨b12,[s8.v],26⟩],q8,q10,[⟨b4,[(iV 0),nilS.v,nilS.v,(iV 0)],29⟩],[⟨b3,[(iV 0),nilS.v,nilS.v,(iV 0)],29⟩],[⟨b2,[nilS.v],26⟩]]:=hS33.leaveF hR33
   have h35:=h35.any m6'
   have h36:=h36.any m6'
   have h37 : Rd m6' s1 t_34.2.code:=by rw [hk37]; exact h11
   refine ⟨kpC hSo hS 1 3 rfl rfl kpN,?_⟩
   refine e_all [7,8,9] (by kernel_rfl) rfl ⟨?_,?_,?_,trivial⟩
   ·have hS38 : St _ _ _ _ ([[⟨b5,[s1.v,(iV t_34.2.at_),(.int .u64 t_34.2.seed.v)],59⟩]]++[q35,q36,[⟨b12,[s8.v],26⟩],q8,q10,[⟨b4,[(iV 0),nilS.v,nilS.v,(iV 0)],29⟩],[⟨b3,[(iV 0),nilS.v,nilS.v,(iV 0)],29⟩],[⟨b2,[nilS.v],26⟩]]):=hS
    obtain ⟨m38,hl38,hE38,hz38⟩:=hS38.lendX
    have hSo:=hS
    refine e_opl rfl rfl rfl fun _ hK=>wp_callX (vs:=[(.pointer (some ⟨b5,0,none⟩)),(.agg #[s8.v]),s9.v]) hF Tryz.func29 (by kernel_rfl) rfl rfl rfl (c_spec_l1Cur_anyTable t_34.2 t_7.1 t_7.2.1 t_39 ht_39 _ m38 b5 s1 (h37.mono hl38) s8 (h8.froz hl38 (hz38 3 _ rfl)) s9 (h9.mono hl38) _ hE38) fun a w _ hR hF=>hK _ _ ?_
    obtain ⟨q40,q41,s40,s41,rfl,hR38,h40,h41,hk42⟩:=hR
    have hS : St _ _ _ _ [[⟨b5,[s1.v,(iV t_39.2.at_),(.int .u64 t_39.2.seed.v)],59⟩],q40,q41,q35,q36,[⟨b12,[s8.v],26⟩],q8,q10,[⟨b4,[(iV 0),nilS.v,nilS.v,(iV 0)],29⟩],[⟨b3,[(iV 0),nilS.v,nilS.v,(iV 0)],29⟩],[⟨b2,[nilS.v],26⟩]]:=hS38.leaveF hR38
    have h40:=h40.any m6'
    have h41:=h41.any m6'
    have h42 : Rd m6' s1 t_39.2.code:=by rw [hk42]; exact h37
    refine ⟨kpC hSo hS 3 5 rfl rfl kpN,?_⟩
    refine e_all [8,9] (by kernel_rfl) rfl ⟨?_,?_,trivial⟩
    ·refine e_alloc (cs:=[(iV 0),nilS.v,nilS.v,(iV 0)]) hF hS rfl rfl rfl rfl fun a w b43 hF hS=>e_one 9 (by kernel_rfl) (e_alloc (cs:=[(iV 0),nilS.v,nilS.v,(iV 0)]) hF hS rfl rfl rfl rfl fun a w b44 hF hS=>e_one 10 (by kernel_rfl) ?_)
     have hSo:=hS
     refine e_store (vs:=[(iV t_34.1.Level),s35.v,s36.v,(iV t_34.1.Sum)]) (cs':=[(iV t_34.1.Level),s35.v,s36.v,(iV t_34.1.Sum)]) 1 0 hF hS rfl rfl sz29 rfl rfl rfl rfl rfl rfl rfl rfl fun a w hF hS=>⟨kpC hSo hS 7 7 rfl rfl kpN,?_⟩
     refine e_one 11 (by kernel_rfl) ?_
     have hSo:=hS
     refine e_store (vs:=[(iV t_39.1.Level),s40.v,s41.v,(iV t_39.1.Sum)]) (cs':=[(iV t_39.1.Level),s40.v,s41.v,(iV t_39.1.Sum)]) 0 0 hF hS rfl rfl sz29 rfl rfl rfl rfl rfl rfl rfl rfl fun a w hF hS=>⟨kpC hSo hS 7 7 rfl rfl kpN,?_⟩
     refine e_end (by kernel_rfl) (n_jn ?_) _
     obtain rfl:=someI hj1
     exact ⟨b44,b43,q40,s40,q41,s41,q35,s35,q36,s36,_,_,_,rfl,hF.sub ⟨rfl,rfl,rfl,rfl,rfl,rfl,rfl,rfl,trivial⟩,hS.sel [3,4,5,6,8,0,1,2,7,10,11,12] (by decide),h40,h41,h35,h36,h42,(hk42.trans (hk37.trans hk11))⟩
    ·refine e_alloc (cs:=[(iV 0),nilS.v,nilS.v,(iV 0)]) hF hS rfl rfl rfl rfl fun a w b44 hF hS=>e_one 8 (by kernel_rfl) (e_alloc (cs:=[(iV 0),nilS.v,nilS.v,(iV 0)]) hF hS rfl rfl rfl rfl fun a w b43 hF hS=>e_one 10 (by kernel_rfl) ?_)
     have hSo:=hS
     refine e_store (vs:=[(iV t_34.1.Level),s35.v,s36.v,(iV t_34.1.Sum)]) (cs':=[(iV t_34.1.Level),s35.v,s36.v,(iV t_34.1.Sum)]) 0 0 hF hS rfl rfl sz29 rfl rfl rfl rfl rfl rfl rfl rfl fun a w hF hS=>⟨kpC hSo hS 7 7 rfl rfl kpN,?_⟩
     refine e_one 11 (by kernel_rfl) ?_
     have hSo:=hS
     refine e_store (vs:=[(iV t_39.1.Level),s40.v,s41.v,(iV t_39.1.Sum)]) (cs':=[(iV t_39.1.Level),s40.v,s41.v,(iV t_39.1.Sum)]) 1 0 hF hS rfl rfl sz29 rfl rfl rfl rfl rfl rfl rfl rfl fun a w hF hS=>⟨kpC hSo hS 7 7 rfl rfl kpN,?_⟩
     refine e_end (by kernel_rfl) (n_jn ?_) _
     obtain rfl:=someI hj1
     exact ⟨b44,b43,q40,s40,q41,s41,q35,s35,q36,s36,_,_,_,rfl,hF.sub ⟨rfl,rfl,rfl,rfl,rfl,rfl,rfl,rfl,trivial⟩,hS.sel [3,4,5,6,8,1,0,2,7,10,11,12] (by decide),h40,h41,h35,h36,h42,(hk42.trans (hk37.trans hk11))⟩
   ·refine e_alloc (cs:=[(iV 0),nilS.v,nilS.v,(iV 0)]) hF hS rfl rfl rfl rfl fun a w b43 hF hS=>e_all [7,9] (by kernel_rfl) rfl ⟨?_,?_,trivial⟩
    ·have hS : St _ _ _ _ [[⟨b5,[s1.v,(iV t_34.2.at_),(.int .u64 t_34.2.seed.v)],59⟩],[⟨b43,[(iV 0),nilS.v,nilS.v,(iV 0)],29⟩],q35,q36,[⟨b12,[s8.v],26⟩],q8,q10,[⟨b4,[(iV 0),nilS.v,nilS.v,(iV 0)],29⟩],[⟨b3,[(iV 0),nilS.v,nilS.v,(iV 0)],29⟩],[⟨b2,[nilS.v],26⟩]]:=hS.sel [1,0,2,3,4,5,6,7,8,9] (by decide)
     have hS38 : St _ _ _ _ ([[⟨b5,[s1.v,(iV t_34.2.at_),(.int .u64 t_34.2.seed.v)],59⟩]]++[[⟨b43,[(iV 0),nilS.v,nilS.v,(iV 0)],29⟩],q35,q36,[⟨b12,[s8.v],26⟩],q8,q10,[⟨b4,[(iV 0),nilS.v,nilS.v,(iV 0)],29⟩],[⟨b3,[(iV 0),nilS.v,nilS.v,(iV 0)],29⟩],[⟨b2,[nilS.v],26⟩]]):=hS
     obtain ⟨m38,hl38,hE38,hz38⟩:=hS38.lendX
     have hSo:=hS
     refine e_opl rfl rfl rfl fun _ hK=>wp_callX (vs:=[(.pointer (some ⟨b5,0,none⟩)),(.agg #[s8.v]),s9.v]) hF Tryz.func29 (by kernel_rfl) rfl rfl rfl (c_spec_l1Cur_anyTable t_34.2 t_7.1 t_7.2.1 t_39 ht_39 _ m38 b5 s1 (h37.mono hl38) s8 (h8.froz hl38 (hz38 4 _ rfl)) s9 (h9.mono hl38) _ hE38) fun a w _ hR hF=>hK _ _ ?_
     obtain ⟨q40,q41,s40,s41,rfl,hR38,h40,h41,hk42⟩:=hR
     have hS : St _ _ _ _ [[⟨b5,[s1.v,(iV t_39.2.at_),(.int .u64 t_39.2.seed.v)],59⟩],q40,q41,[⟨b43,[(iV 0),nilS.v,nilS.v,(iV 0)],29⟩],q35,q36,[⟨b12,[s8.v],26⟩],q8,q10,[⟨b4,[(iV 0),nilS.v,nilS.v,(iV 0)],29⟩],[⟨b3,[(iV 0),nilS.v,nilS.v,(iV 0)],29⟩],[⟨b2,[nilS.v],26⟩]]:=hS38.leaveF hR38
     have h40:=h40.any m6'
     have h41:=h41.any m6'
     have h42 : Rd m6' s1 t_39.2.code:=by rw [hk42]; exact h37
     refine ⟨kpC hSo hS 4 6 rfl rfl kpN,?_⟩
     refine e_one 9 (by kernel_rfl) (e_alloc (cs:=[(iV 0),nilS.v,nilS.v,(iV 0)]) hF hS rfl rfl rfl rfl fun a w b44 hF hS=>e_one 10 (by kernel_rfl) ?_)
     have hSo:=hS
     refine e_store (vs:=[(iV t_34.1.Level),s35.v,s36.v,(iV t_34.1.Sum)]) (cs':=[(iV t_34.1.Level),s35.v,s36.v,(iV t_34.1.Sum)]) 4 0 hF hS rfl rfl sz29 rfl rfl rfl rfl rfl rfl rfl rfl fun a w hF hS=>⟨kpC hSo hS 7 7 rfl rfl kpN,?_⟩
     refine e_one 11 (by kernel_rfl) ?_
     have hSo:=hS
     refine e_store (vs:=[(iV t_39.1.Level),s40.v,s41.v,(iV t_39.1.Sum)]) (cs':=[(iV t_39.1.Level),s40.v,s41.v,(iV t_39.1.Sum)]) 0 0 hF hS rfl rfl sz29 rfl rfl rfl rfl rfl rfl rfl rfl fun a w hF hS=>⟨kpC hSo hS 7 7 rfl rfl kpN,?_⟩
     refine e_end (by kernel_rfl) (n_jn ?_) _
     obtain rfl:=someI hj1
     exact ⟨b44,b43,q40,s40,q41,s41,q35,s35,q36,s36,_,_,_,rfl,hF.sub ⟨rfl,rfl,rfl,rfl,rfl,rfl,rfl,rfl,trivial⟩,hS.sel [2,3,5,6,8,0,4,1,7,10,11,12] (by decide),h40,h41,h35,h36,h42,(hk42.trans (hk37.trans hk11))⟩
    ·refine e_alloc (cs:=[(iV 0),nilS.v,nilS.v,(iV 0)]) hF hS rfl rfl rfl rfl fun a w b44 hF hS=>e_one 7 (by kernel_rfl) ?_
     have hS : St _ _ _ _ [[⟨b5,[s1.v,(iV t_34.2.at_),(.int .u64 t_34.2.seed.v)],59⟩],[⟨b44,[(iV 0),nilS.v,nilS.v,(iV 0)],29⟩],[⟨b43,[(iV 0),nilS.v,nilS.v,(iV 0)],29⟩],q35,q36,[⟨b12,[s8.v],26⟩],q8,q10,[⟨b4,[(iV 0),nilS.v,nilS.v,(iV 0)],29⟩],[⟨b3,[(iV 0),nilS.v,nilS.v,(iV 0)],29⟩],[⟨b2,[nilS.v],26⟩]]:=hS.sel [2,0,1,3,4,5,6,7,8,9,10] (by decide)
     have hS38 : St _ _ _ _ ([[⟨b5,[s1.v,(iV t_34.2.at_),(.int .u64 t_34.2.seed.v)],59⟩]]++[[⟨b44,[(iV 0),nilS.v,nilS.v,(iV 0)],29⟩],[⟨b43,[(iV 0),nilS.v,nilS.v,(iV 0)],29⟩],q35,q36,[⟨b12,[s8.v],26⟩],q8,q10,[⟨b4,[(iV 0),nilS.v,nilS.v,(iV 0)],29⟩],[⟨b3,[(iV 0),nilS.v,nilS.v,(iV 0)],29⟩],[⟨b2,[nilS.v],26⟩]]):=hS
     obtain ⟨m38,hl38,hE38,hz38⟩:=hS38.lendX
     have hSo:=hS
     refine e_opl rfl rfl rfl fun _ hK=>wp_callX (vs:=[(.pointer (some ⟨b5,0,none⟩)),(.agg #[s8.v]),s9.v]) hF Tryz.func29 (by kernel_rfl) rfl rfl rfl (c_spec_l1Cur_anyTable t_34.2 t_7.1 t_7.2.1 t_39 ht_39 _ m38 b5 s1 (h37.mono hl38) s8 (h8.froz hl38 (hz38 5 _ rfl)) s9 (h9.mono hl38) _ hE38) fun a w _ hR hF=>hK _ _ ?_
     obtain ⟨q40,q41,s40,s41,rfl,hR38,h40,h41,hk42⟩:=hR
     have hS : St _ _ _ _ [[⟨b5,[s1.v,(iV t_39.2.at_),(.int .u64 t_39.2.seed.v)],59⟩],q40,q41,[⟨b44,[(iV 0),nilS.v,nilS.v,(iV 0)],29⟩],[⟨b43,[(iV 0),nilS.v,nilS.v,(iV 0)],29⟩],q35,q36,[⟨b12,[s8.v],26⟩],q8,q10,[⟨b4,[(iV 0),nilS.v,nilS.v,(iV 0)],29⟩],[⟨b3,[(iV 0),nilS.v,nilS.v,(iV 0)],29⟩],[⟨b2,[nilS.v],26⟩]]:=hS38.leaveF hR38
     have h40:=h40.any m6'
     have h41:=h41.any m6'
     have h42 : Rd m6' s1 t_39.2.code:=by rw [hk42]; exact h37
     refine ⟨kpC hSo hS 5 7 rfl rfl kpN,?_⟩
     refine e_one 10 (by kernel_rfl) ?_
     have hSo:=hS
     refine e_store (vs:=[(iV t_34.1.Level),s35.v,s36.v,(iV t_34.1.Sum)]) (cs':=[(iV t_34.1.Level),s35.v,s36.v,(iV t_34.1.Sum)]) 4 0 hF hS rfl rfl sz29 rfl rfl rfl rfl rfl rfl rfl rfl fun a w hF hS=>⟨kpC hSo hS 7 7 rfl rfl kpN,?_⟩
     refine e_one 11 (by kernel_rfl) ?_
     have hSo:=hS
     refine e_store (vs:=[(iV t_39.1.Level),s40.v,s41.v,(iV t_39.1.Sum)]) (cs':=[(iV t_39.1.Level),s40.v,s41.v,(iV t_39.1.Sum)]) 3 0 hF hS rfl rfl sz29 rfl rfl rfl rfl rfl rfl rfl rfl fun a w hF hS=>⟨kpC hSo hS 7 7 rfl rfl kpN,?_⟩
     refine e_end (by kernel_rfl) (n_jn ?_) _
     obtain rfl:=someI hj1
     exact ⟨b44,b43,q40,s40,q41,s41,q35,s35,q36,s36,_,_,_,rfl,hF.sub ⟨rfl,rfl,rfl,rfl,rfl,rfl,rfl,rfl,trivial⟩,hS.sel [1,2,5,6,8,3,4,0,7,10,11,12] (by decide),h40,h41,h35,h36,h42,(hk42.trans (hk37.trans hk11))⟩
   ·refine e_alloc (cs:=[(iV 0),nilS.v,nilS.v,(iV 0)]) hF hS rfl rfl rfl rfl fun a w b44 hF hS=>e_all [7,8] (by kernel_rfl) rfl ⟨?_,?_,trivial⟩
    ·have hS : St _ _ _ _ [[⟨b5,[s1.v,(iV t_34.2.at_),(.int .u64 t_34.2.seed.v)],59⟩],[⟨b44,[(iV 0),nilS.v,nilS.v,(iV 0)],29⟩],q35,q36,[⟨b12,[s8.v],26⟩],q8,q10,[⟨b4,[(iV 0),nilS.v,nilS.v,(iV 0)],29⟩],[⟨b3,[(iV 0),nilS.v,nilS.v,(iV 0)],29⟩],[⟨b2,[nilS.v],26⟩]]:=hS.sel [1,0,2,3,4,5,6,7,8,9] (by decide)
     have hS38 : St _ _ _ _ ([[⟨b5,[s1.v,(iV t_34.2.at_),(.int .u64 t_34.2.seed.v)],59⟩]]++[[⟨b44,[(iV 0),nilS.v,nilS.v,(iV 0)],29⟩],q35,q36,[⟨b12,[s8.v],26⟩],q8,q10,[⟨b4,[(iV 0),nilS.v,nilS.v,(iV 0)],29⟩],[⟨b3,[(iV 0),nilS.v,nilS.v,(iV 0)],29⟩],[⟨b2,[nilS.v],26⟩]]):=hS
     obtain ⟨m38,hl38,hE38,hz38⟩:=hS38.lendX
     have hSo:=hS
     refine e_opl rfl rfl rfl fun _ hK=>wp_callX (vs:=[(.pointer (some ⟨b5,0,none⟩)),(.agg #[s8.v]),s9.v]) hF Tryz.func29 (by kernel_rfl) rfl rfl rfl (c_spec_l1Cur_anyTable t_34.2 t_7.1 t_7.2.1 t_39 ht_39 _ m38 b5 s1 (h37.mono hl38) s8 (h8.froz hl38 (hz38 4 _ rfl)) s9 (h9.mono hl38) _ hE38) fun a w _ hR hF=>hK _ _ ?_
     obtain ⟨q40,q41,s40,s41,rfl,hR38,h40,h41,hk42⟩:=hR
     have hS : St _ _ _ _ [[⟨b5,[s1.v,(iV t_39.2.at_),(.int .u64 t_39.2.seed.v)],59⟩],q40,q41,[⟨b44,[(iV 0),nilS.v,nilS.v,(iV 0)],29⟩],q35,q36,[⟨b12,[s8.v],26⟩],q8,q10,[⟨b4,[(iV 0),nilS.v,nilS.v,(iV 0)],29⟩],[⟨b3,[(iV 0),nilS.v,nilS.v,(iV 0)],29⟩],[⟨b2,[nilS.v],26⟩]]:=hS38.leaveF hR38
     have h40:=h40.any m6'
     have h41:=h41.any m6'
     have h42 : Rd m6' s1 t_39.2.code:=by rw [hk42]; exact h37
     refine ⟨kpC hSo hS 4 6 rfl rfl kpN,?_⟩
     refine e_one 8 (by kernel_rfl) (e_alloc (cs:=[(iV 0),nilS.v,nilS.v,(iV 0)]) hF hS rfl rfl rfl rfl fun a w b43 hF hS=>e_one 10 (by kernel_rfl) ?_)
     have hSo:=hS
     refine e_store (vs:=[(iV t_34.1.Level),s35.v,s36.v,(iV t_34.1.Sum)]) (cs':=[(iV t_34.1.Level),s35.v,s36.v,(iV t_34.1.Sum)]) 0 0 hF hS rfl rfl sz29 rfl rfl rfl rfl rfl rfl rfl rfl fun a w hF hS=>⟨kpC hSo hS 7 7 rfl rfl kpN,?_⟩
     refine e_one 11 (by kernel_rfl) ?_
     have hSo:=hS
     refine e_store (vs:=[(iV t_39.1.Level),s40.v,s41.v,(iV t_39.1.Sum)]) (cs':=[(iV t_39.1.Level),s40.v,s41.v,(iV t_39.1.Sum)]) 4 0 hF hS rfl rfl sz29 rfl rfl rfl rfl rfl rfl rfl rfl fun a w hF hS=>⟨kpC hSo hS 7 7 rfl rfl kpN,?_⟩
     refine e_end (by kernel_rfl) (n_jn ?_) _
     obtain rfl:=someI hj1
     exact ⟨b44,b43,q40,s40,q41,s41,q35,s35,q36,s36,_,_,_,rfl,hF.sub ⟨rfl,rfl,rfl,rfl,rfl,rfl,rfl,rfl,trivial⟩,hS.sel [2,3,5,6,8,4,0,1,7,10,11,12] (by decide),h40,h41,h35,h36,h42,(hk42.trans (hk37.trans hk11))⟩
    ·refine e_alloc (cs:=[(iV 0),nilS.v,nilS.v,(iV 0)]) hF hS rfl rfl rfl rfl fun a w b43 hF hS=>e_one 7 (by kernel_rfl) ?_
     have hS : St _ _ _ _ [[⟨b5,[s1.v,(iV t_34.2.at_),(.int .u64 t_34.2.seed.v)],59⟩],[⟨b43,[(iV 0),nilS.v,nilS.v,(iV 0)],29⟩],[⟨b44,[(iV 0),nilS.v,nilS.v,(iV 0)],29⟩],q35,q36,[⟨b12,[s8.v],26⟩],q8,q10,[⟨b4,[(iV 0),nilS.v,nilS.v,(iV 0)],29⟩],[⟨b3,[(iV 0),nilS.v,nilS.v,(iV 0)],29⟩],[⟨b2,[nilS.v],26⟩]]:=hS.sel [2,0,1,3,4,5,6,7,8,9,10] (by decide)
     have hS38 : St _ _ _ _ ([[⟨b5,[s1.v,(iV t_34.2.at_),(.int .u64 t_34.2.seed.v)],59⟩]]++[[⟨b43,[(iV 0),nilS.v,nilS.v,(iV 0)],29⟩],[⟨b44,[(iV 0),nilS.v,nilS.v,(iV 0)],29⟩],q35,q36,[⟨b12,[s8.v],26⟩],q8,q10,[⟨b4,[(iV 0),nilS.v,nilS.v,(iV 0)],29⟩],[⟨b3,[(iV 0),nilS.v,nilS.v,(iV 0)],29⟩],[⟨b2,[nilS.v],26⟩]]):=hS
     obtain ⟨m38,hl38,hE38,hz38⟩:=hS38.lendX
     have hSo:=hS
     refine e_opl rfl rfl rfl fun _ hK=>wp_callX (vs:=[(.pointer (some ⟨b5,0,none⟩)),(.agg #[s8.v]),s9.v]) hF Tryz.func29 (by kernel_rfl) rfl rfl rfl (c_spec_l1Cur_anyTable t_34.2 t_7.1 t_7.2.1 t_39 ht_39 _ m38 b5 s1 (h37.mono hl38) s8 (h8.froz hl38 (hz38 5 _ rfl)) s9 (h9.mono hl38) _ hE38) fun a w _ hR hF=>hK _ _ ?_
     obtain ⟨q40,q41,s40,s41,rfl,hR38,h40,h41,hk42⟩:=hR
     have hS : St _ _ _ _ [[⟨b5,[s1.v,(iV t_39.2.at_),(.int .u64 t_39.2.seed.v)],59⟩],q40,q41,[⟨b43,[(iV 0),nilS.v,nilS.v,(iV 0)],29⟩],[⟨b44,[(iV 0),nilS.v,nilS.v,(iV 0)],29⟩],q35,q36,[⟨b12,[s8.v],26⟩],q8,q10,[⟨b4,[(iV 0),nilS.v,nilS.v,(iV 0)],29⟩],[⟨b3,[(iV 0),nilS.v,nilS.v,(iV 0)],29⟩],[⟨b2,[nilS.v],26⟩]]:=hS38.leaveF hR38
     have h40:=h40.any m6'
     have h41:=h41.any m6'
     have h42 : Rd m6' s1 t_39.2.code:=by rw [hk42]; exact h37
     refine ⟨kpC hSo hS 5 7 rfl rfl kpN,?_⟩
     refine e_one 10 (by kernel_rfl) ?_
     have hSo:=hS
     refine e_store (vs:=[(iV t_34.1.Level),s35.v,s36.v,(iV t_34.1.Sum)]) (cs':=[(iV t_34.1.Level),s35.v,s36.v,(iV t_34.1.Sum)]) 3 0 hF hS rfl rfl sz29 rfl rfl rfl rfl rfl rfl rfl rfl fun a w hF hS=>⟨kpC hSo hS 7 7 rfl rfl kpN,?_⟩
     refine e_one 11 (by kernel_rfl) ?_
     have hSo:=hS
     refine e_store (vs:=[(iV t_39.1.Level),s40.v,s41.v,(iV t_39.1.Sum)]) (cs':=[(iV t_39.1.Level),s40.v,s41.v,(iV t_39.1.Sum)]) 4 0 hF hS rfl rfl sz29 rfl rfl rfl rfl rfl rfl rfl rfl fun a w hF hS=>⟨kpC hSo hS 7 7 rfl rfl kpN,?_⟩
     refine e_end (by kernel_rfl) (n_jn ?_) _
     obtain rfl:=someI hj1
     exact ⟨b44,b43,q40,s40,q41,s41,q35,s35,q36,s36,_,_,_,rfl,hF.sub ⟨rfl,rfl,rfl,rfl,rfl,rfl,rfl,rfl,trivial⟩,hS.sel [1,2,5,6,8,4,3,0,7,10,11,12] (by decide),h40,h41,h35,h36,h42,(hk42.trans (hk37.trans hk11))⟩
  ·refine e_alloc (cs:=[(iV 0),nilS.v,nilS.v,(iV 0)]) hF hS rfl rfl rfl rfl fun a w b43 hF hS=>e_all [3,9] (by kernel_rfl) rfl ⟨?_,?_,trivial⟩
   ·have hS : St _ _ _ _ [[⟨b5,[s1.v,(iV t_7.2.2.2.at_),(.int .u64 t_7.2.2.2.seed.v)],59⟩],[⟨b43,[(iV 0),nilS.v,nilS.v,(iV 0)],29⟩],[⟨b12,[s8.v],26⟩],q8,q10,[⟨b4,[(iV 0),nilS.v,nilS.v,(iV 0)],29⟩],[⟨b3,[(iV 0),nilS.v,nilS.v,(iV 0)],29⟩],[⟨b2,[nilS.v],26⟩]]:=hS.sel [2,0,1,3,4,5,6,7] (by decide)
    have hS33 : St _ _ _ _ ([[⟨b5,[s1.v,(iV t_7.2.2.2.at_),(.int .u64 t_7.2.2.2.seed.v)],59⟩]]++[[⟨b43,[(iV 0),nilS.v,nilS.v,(iV 0)],29⟩],[⟨b12,[s8.v],26⟩],q8,q10,[⟨b4,[(iV 0),nilS.v,nilS.v,(iV 0)],29⟩],[⟨b3,[(iV 0),nilS.v,nilS.v,(iV 0)],29⟩],[⟨b2,[nilS.v],26⟩]]):=hS
    obtain ⟨m33,hl33,hE33,hz33⟩:=hS33.lendX
    have hSo:=hS
    refine e_opl rfl rfl rfl fun _ hK=>wp_callX (vs:=[(.pointer (some ⟨b5,0,none⟩)),(.agg #[s8.v]),s9.v]) hF Tryz.func29 (by kernel_rfl) rfl rfl rfl (c_spec_l1Cur_anyTable t_7.2.2.2 t_7.1 t_7.2.1 t_34 ht_34 _ m33 b5 s1 (h11.mono hl33) s8 (h8.froz hl33 (hz33 2 _ rfl)) s9 (h9.mono hl33) _ hE33) fun a w _ hR hF=>hK _ _ ?_
    obtain ⟨q35,q36,s35,s36,rfl,hR33,h35,h36,hk37⟩:=hR
    have hS : St _ _ _ _ [[⟨b5,[s1.v,(iV t_34.2.at_),(.int .u64 t_34.2.seed.v)],59⟩],q35,q36,[⟨b43,[(iV 0),nilS.v,nilS.v,(iV 0)],29⟩],[⟨b12,[s8.v],26⟩],q8,q10,[⟨b4,[(iV 0),nilS.v,nilS.v,(iV 0)],29⟩],[⟨b3,[(iV 0),nilS.v,nilS.v,(iV 0)],29⟩],[⟨b2,[nilS.v],26⟩]]:=hS33.leaveF hR33
    have h35:=h35.any m6'
    have h36:=h36.any m6'
    have h37 : Rd m6' s1 t_34.2.code:=by rw [hk37]; exact h11
    refine ⟨kpC hSo hS 2 4 rfl rfl kpN,?_⟩
    refine e_all [7,9] (by kernel_rfl) rfl ⟨?_,?_,trivial⟩
    ·have hS38 : St _ _ _ _ ([[⟨b5,[s1.v,(iV t_34.2.at_),(.int .u64 t_34.2.seed.v)],59⟩]]++[q35,q36,[⟨b43,[(iV 0),nilS.v,nilS.v,(iV 0)],29⟩],[⟨b12,[s8.v],26⟩],q8,q10,[⟨b4,[(iV 0),nilS.v,nilS.v,(iV 0)],29⟩],[⟨b3,[(iV 0),nilS.v,nilS.v,(iV 0)],29⟩],[⟨b2,[nilS.v],26⟩]]):=hS
     obtain ⟨m38,hl38,hE38,hz38⟩:=hS38.lendX
     have hSo:=hS
     refine e_opl rfl rfl rfl fun _ hK=>wp_callX (vs:=[(.pointer (some ⟨b5,0,none⟩)),(.agg #[s8.v]),s9.v]) hF Tryz.func29 (by kernel_rfl) rfl rfl rfl (c_spec_l1Cur_anyTable t_34.2 t_7.1 t_7.2.1 t_39 ht_39 _ m38 b5 s1 (h37.mono hl38) s8 (h8.froz hl38 (hz38 4 _ rfl)) s9 (h9.mono hl38) _ hE38) fun a w _ hR hF=>hK _ _ ?_
     obtain ⟨q40,q41,s40,s41,rfl,hR38,h40,h41,hk42⟩:=hR
     have hS : St _ _ _ _ [[⟨b5,[s1.v,(iV t_39.2.at_),(.int .u64 t_39.2.seed.v)],59⟩],q40,q41,q35,q36,[⟨b43,[(iV 0),nilS.v,nilS.v,(iV 0)],29⟩],[⟨b12,[s8.v],26⟩],q8,q10,[⟨b4,[(iV 0),nilS.v,nilS.v,(iV 0)],29⟩],[⟨b3,[(iV 0),nilS.v,nilS.v,(iV 0)],29⟩],[⟨b2,[nilS.v],26⟩]]:=hS38.leaveF hR38
     have h40:=h40.any m6'
     have h41:=h41.any m6'
     have h42 : Rd m6' s1 t_39.2.code:=by rw [hk42]; exact h37
     refine ⟨kpC hSo hS 4 6 rfl rfl kpN,?_⟩
     refine e_one 9 (by kernel_rfl) (e_alloc (cs:=[(iV 0),nilS.v,nilS.v,(iV 0)]) hF hS rfl rfl rfl rfl fun a w b44 hF hS=>e_one 10 (by kernel_rfl) ?_)
     have hSo:=hS
     refine e_store (vs:=[(iV t_34.1.Level),s35.v,s36.v,(iV t_34.1.Sum)]) (cs':=[(iV t_34.1.Level),s35.v,s36.v,(iV t_34.1.Sum)]) 6 0 hF hS rfl rfl sz29 rfl rfl rfl rfl rfl rfl rfl rfl fun a w hF hS=>⟨kpC hSo hS 7 7 rfl rfl kpN,?_⟩
     refine e_one 11 (by kernel_rfl) ?_
     have hSo:=hS
     refine e_store (vs:=[(iV t_39.1.Level),s40.v,s41.v,(iV t_39.1.Sum)]) (cs':=[(iV t_39.1.Level),s40.v,s41.v,(iV t_39.1.Sum)]) 0 0 hF hS rfl rfl sz29 rfl rfl rfl rfl rfl rfl rfl rfl fun a w hF hS=>⟨kpC hSo hS 7 7 rfl rfl kpN,?_⟩
     refine e_end (by kernel_rfl) (n_jn ?_) _
     obtain rfl:=someI hj1
     exact ⟨b44,b43,q40,s40,q41,s41,q35,s35,q36,s36,_,_,_,rfl,hF.sub ⟨rfl,rfl,rfl,rfl,rfl,rfl,rfl,rfl,trivial⟩,hS.sel [2,3,4,5,8,0,6,1,7,10,11,12] (by decide),h40,h41,h35,h36,h42,(hk42.trans (hk37.trans hk11))⟩
    ·refine e_alloc (cs:=[(iV 0),nilS.v,nilS.v,(iV 0)]) hF hS rfl rfl rfl rfl fun a w b44 hF hS=>e_one 7 (by kernel_rfl) ?_
     have hS : St _ _ _ _ [[⟨b5,[s1.v,(iV t_34.2.at_),(.int .u64 t_34.2.seed.v)],59⟩],[⟨b44,[(iV 0),nilS.v,nilS.v,(iV 0)],29⟩],q35,q36,[⟨b43,[(iV 0),nilS.v,nilS.v,(iV 0)],29⟩],[⟨b12,[s8.v],26⟩],q8,q10,[⟨b4,[(iV 0),nilS.v,nilS.v,(iV 0)],29⟩],[⟨b3,[(iV 0),nilS.v,nilS.v,(iV 0)],29⟩],[⟨b2,[nilS.v],26⟩]]:=hS.sel [1,0,2,3,4,5,6,7,8,9,10] (by decide)
     have hS38 : St _ _ _ _ ([[⟨b5,[s1.v,(iV t_34.2.at_),(.int .u64 t_34.2.seed.v)],59⟩]]++[[⟨b44,[(iV 0),nilS.v,nilS.v,(iV 0)],29⟩],q35,q36,[⟨b43,[(iV 0),nilS.v,nilS.v,(iV 0)],29⟩],[⟨b12,[s8.v],26⟩],q8,q10,[⟨b4,[(iV 0),nilS.v,nilS.v,(iV 0)],29⟩],[⟨b3,[(iV 0),nilS.v,nilS.v,(iV 0)],29⟩],[⟨b2,[nilS.v],26⟩]]):=hS
     obtain ⟨m38,hl38,hE38,hz38⟩:=hS38.lendX
     have hSo:=hS
     refine e_opl rfl rfl rfl fun _ hK=>wp_callX (vs:=[(.pointer (some ⟨b5,0,none⟩)),(.agg #[s8.v]),s9.v]) hF Tryz.func29 (by kernel_rfl) rfl rfl rfl (c_spec_l1Cur_anyTable t_34.2 t_7.1 t_7.2.1 t_39 ht_39 _ m38 b5 s1 (h37.mono hl38) s8 (h8.froz hl38 (hz38 5 _ rfl)) s9 (h9.mono hl38) _ hE38) fun a w _ hR hF=>hK _ _ ?_
     obtain ⟨q40,q41,s40,s41,rfl,hR38,h40,h41,hk42⟩:=hR
     have hS : St _ _ _ _ [[⟨b5,[s1.v,(iV t_39.2.at_),(.int .u64 t_39.2.seed.v)],59⟩],q40,q41,[⟨b44,[(iV 0),nilS.v,nilS.v,(iV 0)],29⟩],q35,q36,[⟨b43,[(iV 0),nilS.v,nilS.v,(iV 0)],29⟩],[⟨b12,[s8.v],26⟩],q8,q10,[⟨b4,[(iV 0),nilS.v,nilS.v,(iV 0)],29⟩],[⟨b3,[(iV 0),nilS.v,nilS.v,(iV 0)],29⟩],[⟨b2,[nilS.v],26⟩]]:=hS38.leaveF hR38
     have h40:=h40.any m6'
     have h41:=h41.any m6'
     have h42 : Rd m6' s1 t_39.2.code:=by rw [hk42]; exact h37
     refine ⟨kpC hSo hS 5 7 rfl rfl kpN,?_⟩
     refine e_one 10 (by kernel_rfl) ?_
     have hSo:=hS
     refine e_store (vs:=[(iV t_34.1.Level),s35.v,s36.v,(iV t_34.1.Sum)]) (cs':=[(iV t_34.1.Level),s35.v,s36.v,(iV t_34.1.Sum)]) 6 0 hF hS rfl rfl sz29 rfl rfl rfl rfl rfl rfl rfl rfl fun a w hF hS=>⟨kpC hSo hS 7 7 rfl rfl kpN,?_⟩
     refine e_one 11 (by kernel_rfl) ?_
     have hSo:=hS
     refine e_store (vs:=[(iV t_39.1.Level),s40.v,s41.v,(iV t_39.1.Sum)]) (cs':=[(iV t_39.1.Level),s40.v,s41.v,(iV t_39.1.Sum)]) 3 0 hF hS rfl rfl sz29 rfl rfl rfl rfl rfl rfl rfl rfl fun a w hF hS=>⟨kpC hSo hS 7 7 rfl rfl kpN,?_⟩
     refine e_end (by kernel_rfl) (n_jn ?_) _
     obtain rfl:=someI hj1
     exact ⟨b44,b43,q40,s40,q41,s41,q35,s35,q36,s36,_,_,_,rfl,hF.sub ⟨rfl,rfl,rfl,rfl,rfl,rfl,rfl,rfl,trivial⟩,hS.sel [1,2,4,5,8,3,6,0,7,10,11,12] (by decide),h40,h41,h35,h36,h42,(hk42.trans (hk37.trans hk11))⟩
   ·refine e_alloc (cs:=[(iV 0),nilS.v,nilS.v,(iV 0)]) hF hS rfl rfl rfl rfl fun a w b44 hF hS=>e_one 3 (by kernel_rfl) ?_
    have hS : St _ _ _ _ [[⟨b5,[s1.v,(iV t_7.2.2.2.at_),(.int .u64 t_7.2.2.2.seed.v)],59⟩],[⟨b44,[(iV 0),nilS.v,nilS.v,(iV 0)],29⟩],[⟨b43,[(iV 0),nilS.v,nilS.v,(iV 0)],29⟩],[⟨b12,[s8.v],26⟩],q8,q10,[⟨b4,[(iV 0),nilS.v,nilS.v,(iV 0)],29⟩],[⟨b3,[(iV 0),nilS.v,nilS.v,(iV 0)],29⟩],[⟨b2,[nilS.v],26⟩]]:=hS.sel [3,0,1,2,4,5,6,7,8] (by decide)
    have hS33 : St _ _ _ _ ([[⟨b5,[s1.v,(iV t_7.2.2.2.at_),(.int .u64 t_7.2.2.2.seed.v)],59⟩]]++[[⟨b44,[(iV 0),nilS.v,nilS.v,(iV 0)],29⟩],[⟨b43,[(iV 0),nilS.v,nilS.v,(iV 0)],29⟩],[⟨b12,[s8.v],26⟩],q8,q10,[⟨b4,[(iV 0),nilS.v,nilS.v,(iV 0)],29⟩],[⟨b3,[(iV 0),nilS.v,nilS.v,(iV 0)],29⟩],[⟨b2,[nilS.v],26⟩]]):=hS
    obtain ⟨m33,hl33,hE33,hz33⟩:=hS33.lendX
    have hSo:=hS
    refine e_opl rfl rfl rfl fun _ hK=>wp_callX (vs:=[(.pointer (some ⟨b5,0,none⟩)),(.agg #[s8.v]),s9.v]) hF Tryz.func29 (by kernel_rfl) rfl rfl rfl (c_spec_l1Cur_anyTable t_7.2.2.2 t_7.1 t_7.2.1 t_34 ht_34 _ m33 b5 s1 (h11.mono hl33) s8 (h8.froz hl33 (hz33 3 _ rfl)) s9 (h9.mono hl33) _ hE33) fun a w _ hR hF=>hK _ _ ?_
    obtain ⟨q35,q36,s35,s36,rfl,hR33,h35,h36,hk37⟩:=hR
    have hS : St _ _ _ _ [[⟨b5,[s1.v,(iV t_34.2.at_),(.int .u64 t_34.2.seed.v)],59⟩],q35,q36,[⟨b44,[(iV 0),nilS.v,nilS.v,(iV 0)],29⟩],[⟨b43,[(iV 0),nilS.v,nilS.v,(iV 0)],29⟩],[⟨b12,[s8.v],26⟩],q8,q10,[⟨b4,[(iV 0),nilS.v,nilS.v,(iV 0)],29⟩],[⟨b3,[(iV 0),nilS.v,nilS.v,(iV 0)],29⟩],[⟨b2,[nilS.v],26⟩]]:=hS33.leaveF hR33
    have h35:=h35.any m6'
    have h36:=h36.any m6'
    have h37 : Rd m6' s1 t_34.2.code:=by rw [hk37]; exact h11
    refine ⟨kpC hSo hS 3 5 rfl rfl kpN,?_⟩
    refine e_one 7 (by kernel_rfl) ?_
    have hS38 : St _ _ _ _ ([[⟨b5,[s1.v,(iV t_34.2.at_),(.int .u64 t_34.2.seed.v)],59⟩]]++[q35,q36,[⟨b44,[(iV 0),nilS.v,nilS.v,(iV 0)],29⟩],[⟨b43,[(iV 0),nilS.v,nilS.v,(iV 0)],29⟩],[⟨b12,[s8.v],26⟩],q8,q10,[⟨b4,[(iV 0),nilS.v,nilS.v,(iV 0)],29⟩],[⟨b3,[(iV 0),nilS.v,nilS.v,(iV 0)],29⟩],[⟨b2,[nilS.v],26⟩]]):=hS
    obtain ⟨m38,hl38,hE38,hz38⟩:=hS38.lendX
    have hSo:=hS
    refine e_opl rfl rfl rfl fun _ hK=>wp_callX (vs:=[(.pointer (some ⟨b5,0,none⟩)),(.agg #[s8.v]),s9.v]) hF Tryz.func29 (by kernel_rfl) rfl rfl rfl (c_spec_l1Cur_anyTable t_34.2 t_7.1 t_7.2.1 t_39 ht_39 _ m38 b5 s1 (h37.mono hl38) s8 (h8.froz hl38 (hz38 5 _ rfl)) s9 (h9.mono hl38) _ hE38) fun a w _ hR hF=>hK _ _ ?_
    obtain ⟨q40,q41,s40,s41,rfl,hR38,h40,h41,hk42⟩:=hR
    have hS : St _ _ _ _ [[⟨b5,[s1.v,(iV t_39.2.at_),(.int .u64 t_39.2.seed.v)],59⟩],q40,q41,q35,q36,[⟨b44,[(iV 0),nilS.v,nilS.v,(iV 0)],29⟩],[⟨b43,[(iV 0),nilS.v,nilS.v,(iV 0)],29⟩],[⟨b12,[s8.v],26⟩],q8,q10,[⟨b4,[(iV 0),nilS.v,nilS.v,(iV 0)],29⟩],[⟨b3,[(iV 0),nilS.v,nilS.v,(iV 0)],29⟩],[⟨b2,[nilS.v],26⟩]]:=hS38.leaveF hR38
    have h40:=h40.any m6'
    have h41:=h41.any m6'
    have h42 : Rd m6' s1 t_39.2.code:=by rw [hk42]; exact h37
    refine ⟨kpC hSo hS 5 7 rfl rfl kpN,?_⟩
    refine e_one 10 (by kernel_rfl) ?_
    have hSo:=hS
    refine e_store (vs:=[(iV t_34.1.Level),s35.v,s36.v,(iV t_34.1.Sum)]) (cs':=[(iV t_34.1.Level),s35.v,s36.v,(iV t_34.1.Sum)]) 6 0 hF hS rfl rfl sz29 rfl rfl rfl rfl rfl rfl rfl rfl fun a w hF hS=>⟨kpC hSo hS 7 7 rfl rfl kpN,?_⟩
    refine e_one 11 (by kernel_rfl) ?_
    have hSo:=hS
    refine e_store (vs:=[(iV t_39.1.Level),s40.v,s41.v,(iV t_39.1.Sum)]) (cs':=[(iV t_39.1.Level),s40.v,s41.v,(iV t_39.1.Sum)]) 5 0 hF hS rfl rfl sz29 rfl rfl rfl rfl rfl rfl rfl rfl fun a w hF hS=>⟨kpC hSo hS 7 7 rfl rfl kpN,?_⟩
    refine e_end (by kernel_rfl) (n_jn ?_) _
    obtain rfl:=someI hj1
    exact ⟨b44,b43,q40,s40,q41,s41,q35,s35,q36,s36,_,_,_,rfl,hF.sub ⟨rfl,rfl,rfl,rfl,rfl,rfl,rfl,rfl,trivial⟩,hS.sel [1,2,3,4,8,5,6,0,7,10,11,12] (by decide),h40,h41,h35,h36,h42,(hk42.trans (hk37.trans hk11))⟩
  ·refine e_alloc (cs:=[(iV 0),nilS.v,nilS.v,(iV 0)]) hF hS rfl rfl rfl rfl fun a w b44 hF hS=>e_all [3,8] (by kernel_rfl) rfl ⟨?_,?_,trivial⟩
   ·have hS : St _ _ _ _ [[⟨b5,[s1.v,(iV t_7.2.2.2.at_),(.int .u64 t_7.2.2.2.seed.v)],59⟩],[⟨b44,[(iV 0),nilS.v,nilS.v,(iV 0)],29⟩],[⟨b12,[s8.v],26⟩],q8,q10,[⟨b4,[(iV 0),nilS.v,nilS.v,(iV 0)],29⟩],[⟨b3,[(iV 0),nilS.v,nilS.v,(iV 0)],29⟩],[⟨b2,[nilS.v],26⟩]]:=hS.sel [2,0,1,3,4,5,6,7] (by decide)
    have hS33 : St _ _ _ _ ([[⟨b5,[s1.v,(iV t_7.2.2.2.at_),(.int .u64 t_7.2.2.2.seed.v)],59⟩]]++[[⟨b44,[(iV 0),nilS.v,nilS.v,(iV 0)],29⟩],[⟨b12,[s8.v],26⟩],q8,q10,[⟨b4,[(iV 0),nilS.v,nilS.v,(iV 0)],29⟩],[⟨b3,[(iV 0),nilS.v,nilS.v,(iV 0)],29⟩],[⟨b2,[nilS.v],26⟩]]):=hS
    obtain ⟨m33,hl33,hE33,hz33⟩:=hS33.lendX
    have hSo:=hS
    refine e_opl rfl rfl rfl fun _ hK=>wp_callX (vs:=[(.pointer (some ⟨b5,0,none⟩)),(.agg #[s8.v]),s9.v]) hF Tryz.func29 (by kernel_rfl) rfl rfl rfl (c_spec_l1Cur_anyTable t_7.2.2.2 t_7.1 t_7.2.1 t_34 ht_34 _ m33 b5 s1 (h11.mono hl33) s8 (h8.froz hl33 (hz33 2 _ rfl)) s9 (h9.mono hl33) _ hE33) fun a w _ hR hF=>hK _ _ ?_
    obtain ⟨q35,q36,s35,s36,rfl,hR33,h35,h36,hk37⟩:=hR
    have hS : St _ _ _ _ [[⟨b5,[s1.v,(iV t_34.2.at_),(.int .u64 t_34.2.seed.v)],59⟩],q35,q36,[⟨b44,[(iV 0),nilS.v,nilS.v,(iV 0)],29⟩],[⟨b12,[s8.v],26⟩],q8,q10,[⟨b4,[(iV 0),nilS.v,nilS.v,(iV 0)],29⟩],[⟨b3,[(iV 0),nilS.v,nilS.v,(iV 0)],29⟩],[⟨b2,[nilS.v],26⟩]]:=hS33.leaveF hR33
    have h35:=h35.any m6'
    have h36:=h36.any m6'
    have h37 : Rd m6' s1 t_34.2.code:=by rw [hk37]; exact h11
    refine ⟨kpC hSo hS 2 4 rfl rfl kpN,?_⟩
    refine e_all [7,8] (by kernel_rfl) rfl ⟨?_,?_,trivial⟩
    ·have hS38 : St _ _ _ _ ([[⟨b5,[s1.v,(iV t_34.2.at_),(.int .u64 t_34.2.seed.v)],59⟩]]++[q35,q36,[⟨b44,[(iV 0),nilS.v,nilS.v,(iV 0)],29⟩],[⟨b12,[s8.v],26⟩],q8,q10,[⟨b4,[(iV 0),nilS.v,nilS.v,(iV 0)],29⟩],[⟨b3,[(iV 0),nilS.v,nilS.v,(iV 0)],29⟩],[⟨b2,[nilS.v],26⟩]]):=hS
     obtain ⟨m38,hl38,hE38,hz38⟩:=hS38.lendX
     have hSo:=hS
     refine e_opl rfl rfl rfl fun _ hK=>wp_callX (vs:=[(.pointer (some ⟨b5,0,none⟩)),(.agg #[s8.v]),s9.v]) hF Tryz.func29 (by kernel_rfl) rfl rfl rfl (c_spec_l1Cur_anyTable t_34.2 t_7.1 t_7.2.1 t_39 ht_39 _ m38 b5 s1 (h37.mono hl38) s8 (h8.froz hl38 (hz38 4 _ rfl)) s9 (h9.mono hl38) _ hE38) fun a w _ hR hF=>hK _ _ ?_
     obtain ⟨q40,q41,s40,s41,rfl,hR38,h40,h41,hk42⟩:=hR
     have hS : St _ _ _ _ [[⟨b5,[s1.v,(iV t_39.2.at_),(.int .u64 t_39.2.seed.v)],59⟩],q40,q41,q35,q36,[⟨b44,[(iV 0),nilS.v,nilS.v,(iV 0)],29⟩],[⟨b12,[s8.v],26⟩],q8,q10,[⟨b4,[(iV 0),nilS.v,nilS.v,(iV 0)],29⟩],[⟨b3,[(iV 0),nilS.v,nilS.v,(iV 0)],29⟩],[⟨b2,[nilS.v],26⟩]]:=hS38.leaveF hR38
     have h40:=h40.any m6'
     have h41:=h41.any m6'
     have h42 : Rd m6' s1 t_39.2.code:=by rw [hk42]; exact h37
     refine ⟨kpC hSo hS 4 6 rfl rfl kpN,?_⟩
     refine e_one 8 (by kernel_rfl) (e_alloc (cs:=[(iV 0),nilS.v,nilS.v,(iV 0)]) hF hS rfl rfl rfl rfl fun a w b43 hF hS=>e_one 10 (by kernel_rfl) ?_)
     have hSo:=hS
     refine e_store (vs:=[(iV t_34.1.Level),s35.v,s36.v,(iV t_34.1.Sum)]) (cs':=[(iV t_34.1.Level),s35.v,s36.v,(iV t_34.1.Sum)]) 0 0 hF hS rfl rfl sz29 rfl rfl rfl rfl rfl rfl rfl rfl fun a w hF hS=>⟨kpC hSo hS 7 7 rfl rfl kpN,?_⟩
     refine e_one 11 (by kernel_rfl) ?_
     have hSo:=hS
     refine e_store (vs:=[(iV t_39.1.Level),s40.v,s41.v,(iV t_39.1.Sum)]) (cs':=[(iV t_39.1.Level),s40.v,s41.v,(iV t_39.1.Sum)]) 6 0 hF hS rfl rfl sz29 rfl rfl rfl rfl rfl rfl rfl rfl fun a w hF hS=>⟨kpC hSo hS 7 7 rfl rfl kpN,?_⟩
     refine e_end (by kernel_rfl) (n_jn ?_) _
     obtain rfl:=someI hj1
     exact ⟨b44,b43,q40,s40,q41,s41,q35,s35,q36,s36,_,_,_,rfl,hF.sub ⟨rfl,rfl,rfl,rfl,rfl,rfl,rfl,rfl,trivial⟩,hS.sel [2,3,4,5,8,6,0,1,7,10,11,12] (by decide),h40,h41,h35,h36,h42,(hk42.trans (hk37.trans hk11))⟩
    ·refine e_alloc (cs:=[(iV 0),nilS.v,nilS.v,(iV 0)]) hF hS rfl rfl rfl rfl fun a w b43 hF hS=>e_one 7 (by kernel_rfl) ?_
     have hS : St _ _ _ _ [[⟨b5,[s1.v,(iV t_34.2.at_),(.int .u64 t_34.2.seed.v)],59⟩],[⟨b43,[(iV 0),nilS.v,nilS.v,(iV 0)],29⟩],q35,q36,[⟨b44,[(iV 0),nilS.v,nilS.v,(iV 0)],29⟩],[⟨b12,[s8.v],26⟩],q8,q10,[⟨b4,[(iV 0),nilS.v,nilS.v,(iV 0)],29⟩],[⟨b3,[(iV 0),nilS.v,nilS.v,(iV 0)],29⟩],[⟨b2,[nilS.v],26⟩]]:=hS.sel [1,0,2,3,4,5,6,7,8,9,10] (by decide)
     have hS38 : St _ _ _ _ ([[⟨b5,[s1.v,(iV t_34.2.at_),(.int .u64 t_34.2.seed.v)],59⟩]]++[[⟨b43,[(iV 0),nilS.v,nilS.v,(iV 0)],29⟩],q35,q36,[⟨b44,[(iV 0),nilS.v,nilS.v,(iV 0)],29⟩],[⟨b12,[s8.v],26⟩],q8,q10,[⟨b4,[(iV 0),nilS.v,nilS.v,(iV 0)],29⟩],[⟨b3,[(iV 0),nilS.v,nilS.v,(iV 0)],29⟩],[⟨b2,[nilS.v],26⟩]]):=hS
     obtain ⟨m38,hl38,hE38,hz38⟩:=hS38.lendX
     have hSo:=hS
     refine e_opl rfl rfl rfl fun _ hK=>wp_callX (vs:=[(.pointer (some ⟨b5,0,none⟩)),(.agg #[s8.v]),s9.v]) hF Tryz.func29 (by kernel_rfl) rfl rfl rfl (c_spec_l1Cur_anyTable t_34.2 t_7.1 t_7.2.1 t_39 ht_39 _ m38 b5 s1 (h37.mono hl38) s8 (h8.froz hl38 (hz38 5 _ rfl)) s9 (h9.mono hl38) _ hE38) fun a w _ hR hF=>hK _ _ ?_
     obtain ⟨q40,q41,s40,s41,rfl,hR38,h40,h41,hk42⟩:=hR
     have hS : St _ _ _ _ [[⟨b5,[s1.v,(iV t_39.2.at_),(.int .u64 t_39.2.seed.v)],59⟩],q40,q41,[⟨b43,[(iV 0),nilS.v,nilS.v,(iV 0)],29⟩],q35,q36,[⟨b44,[(iV 0),nilS.v,nilS.v,(iV 0)],29⟩],[⟨b12,[s8.v],26⟩],q8,q10,[⟨b4,[(iV 0),nilS.v,nilS.v,(iV 0)],29⟩],[⟨b3,[(iV 0),nilS.v,nilS.v,(iV 0)],29⟩],[⟨b2,[nilS.v],26⟩]]:=hS38.leaveF hR38
     have h40:=h40.any m6'
     have h41:=h41.any m6'
     have h42 : Rd m6' s1 t_39.2.code:=by rw [hk42]; exact h37
     refine ⟨kpC hSo hS 5 7 rfl rfl kpN,?_⟩
     refine e_one 10 (by kernel_rfl) ?_
     have hSo:=hS
     refine e_store (vs:=[(iV t_34.1.Level),s35.v,s36.v,(iV t_34.1.Sum)]) (cs':=[(iV t_34.1.Level),s35.v,s36.v,(iV t_34.1.Sum)]) 3 0 hF hS rfl rfl sz29 rfl rfl rfl rfl rfl rfl rfl rfl fun a w hF hS=>⟨kpC hSo hS 7 7 rfl rfl kpN,?_⟩
     refine e_one 11 (by kernel_rfl) ?_
     have hSo:=hS
     refine e_store (vs:=[(iV t_39.1.Level),s40.v,s41.v,(iV t_39.1.Sum)]) (cs':=[(iV t_39.1.Level),s40.v,s41.v,(iV t_39.1.Sum)]) 6 0 hF hS rfl rfl sz29 rfl rfl rfl rfl rfl rfl rfl rfl fun a w hF hS=>⟨kpC hSo hS 7 7 rfl rfl kpN,?_⟩
     refine e_end (by kernel_rfl) (n_jn ?_) _
     obtain rfl:=someI hj1
     exact ⟨b44,b43,q40,s40,q41,s41,q35,s35,q36,s36,_,_,_,rfl,hF.sub ⟨rfl,rfl,rfl,rfl,rfl,rfl,rfl,rfl,trivial⟩,hS.sel [1,2,4,5,8,6,3,0,7,10,11,12] (by decide),h40,h41,h35,h36,h42,(hk42.trans (hk37.trans hk11))⟩
   ·refine e_alloc (cs:=[(iV 0),nilS.v,nilS.v,(iV 0)]) hF hS rfl rfl rfl rfl fun a w b43 hF hS=>e_one 3 (by kernel_rfl) ?_
    have hS : St _ _ _ _ [[⟨b5,[s1.v,(iV t_7.2.2.2.at_),(.int .u64 t_7.2.2.2.seed.v)],59⟩],[⟨b43,[(iV 0),nilS.v,nilS.v,(iV 0)],29⟩],[⟨b44,[(iV 0),nilS.v,nilS.v,(iV 0)],29⟩],[⟨b12,[s8.v],26⟩],q8,q10,[⟨b4,[(iV 0),nilS.v,nilS.v,(iV 0)],29⟩],[⟨b3,[(iV 0),nilS.v,nilS.v,(iV 0)],29⟩],[⟨b2,[nilS.v],26⟩]]:=hS.sel [3,0,1,2,4,5,6,7,8] (by decide)
    have hS33 : St _ _ _ _ ([[⟨b5,[s1.v,(iV t_7.2.2.2.at_),(.int .u64 t_7.2.2.2.seed.v)],59⟩]]++[[⟨b43,[(iV 0),nilS.v,nilS.v,(iV 0)],29⟩],[⟨b44,[(iV 0),nilS.v,nilS.v,(iV 0)],29⟩],[⟨b12,[s8.v],26⟩],q8,q10,[⟨b4,[(iV 0),nilS.v,nilS.v,(iV 0)],29⟩],[⟨b3,[(iV 0),nilS.v,nilS.v,(iV 0)],29⟩],[⟨b2,[nilS.v],26⟩]]):=hS
    obtain ⟨m33,hl33,hE33,hz33⟩:=hS33.lendX
    have hSo:=hS
    refine e_opl rfl rfl rfl fun _ hK=>wp_callX (vs:=[(.pointer (some ⟨b5,0,none⟩)),(.agg #[s8.v]),s9.v]) hF Tryz.func29 (by kernel_rfl) rfl rfl rfl (c_spec_l1Cur_anyTable t_7.2.2.2 t_7.1 t_7.2.1 t_34 ht_34 _ m33 b5 s1 (h11.mono hl33) s8 (h8.froz hl33 (hz33 3 _ rfl)) s9 (h9.mono hl33) _ hE33) fun a w _ hR hF=>hK _ _ ?_
    obtain ⟨q35,q36,s35,s36,rfl,hR33,h35,h36,hk37⟩:=hR
    have hS : St _ _ _ _ [[⟨b5,[s1.v,(iV t_34.2.at_),(.int .u64 t_34.2.seed.v)],59⟩],q35,q36,[⟨b43,[(iV 0),nilS.v,nilS.v,(iV 0)],29⟩],[⟨b44,[(iV 0),nilS.v,nilS.v,(iV 0)],29⟩],[⟨b12,[s8.v],26⟩],q8,q10,[⟨b4,[(iV 0),nilS.v,nilS.v,(iV 0)],29⟩],[⟨b3,[(iV 0),nilS.v,nilS.v,(iV 0)],29⟩],[⟨b2,[nilS.v],26⟩]]:=hS33.leaveF hR33
    have h35:=h35.any m6'
    have h36:=h36.any m6'
    have h37 : Rd m6' s1 t_34.2.code:=by rw [hk37]; exact h11
    refine ⟨kpC hSo hS 3 5 rfl rfl kpN,?_⟩
    refine e_one 7 (by kernel_rfl) ?_
    have hS38 : St _ _ _ _ ([[⟨b5,[s1.v,(iV t_34.2.at_),(.int .u64 t_34.2.seed.v)],59⟩]]++[q35,q36,[⟨b43,[(iV 0),nilS.v,nilS.v,(iV 0)],29⟩],[⟨b44,[(iV 0),nilS.v,nilS.v,(iV 0)],29⟩],[⟨b12,[s8.v],26⟩],q8,q10,[⟨b4,[(iV 0),nilS.v,nilS.v,(iV 0)],29⟩],[⟨b3,[(iV 0),nilS.v,nilS.v,(iV 0)],29⟩],[⟨b2,[nilS.v],26⟩]]):=hS
    obtain ⟨m38,hl38,hE38,hz38⟩:=hS38.lendX
    have hSo:=hS
    refine e_opl rfl rfl rfl fun _ hK=>wp_callX (vs:=[(.pointer (some ⟨b5,0,none⟩)),(.agg #[s8.v]),s9.v]) hF Tryz.func29 (by kernel_rfl) rfl rfl rfl (c_spec_l1Cur_anyTable t_34.2 t_7.1 t_7.2.1 t_39 ht_39 _ m38 b5 s1 (h37.mono hl38) s8 (h8.froz hl38 (hz38 5 _ rfl)) s9 (h9.mono hl38) _ hE38) fun a w _ hR hF=>hK _ _ ?_
    obtain ⟨q40,q41,s40,s41,rfl,hR38,h40,h41,hk42⟩:=hR
    have hS : St _ _ _ _ [[⟨b5,[s1.v,(iV t_39.2.at_),(.int .u64 t_39.2.seed.v)],59⟩],q40,q41,q35,q36,[⟨b43,[(iV 0),nilS.v,nilS.v,(iV 0)],29⟩],[⟨b44,[(iV 0),nilS.v,nilS.v,(iV 0)],29⟩],[⟨b12,[s8.v],26⟩],q8,q10,[⟨b4,[(iV 0),nilS.v,nilS.v,(iV 0)],29⟩],[⟨b3,[(iV 0),nilS.v,nilS.v,(iV 0)],29⟩],[⟨b2,[nilS.v],26⟩]]:=hS38.leaveF hR38
    have h40:=h40.any m6'
    have h41:=h41.any m6'
    have h42 : Rd m6' s1 t_39.2.code:=by rw [hk42]; exact h37
    refine ⟨kpC hSo hS 5 7 rfl rfl kpN,?_⟩
    refine e_one 10 (by kernel_rfl) ?_
    have hSo:=hS
    refine e_store (vs:=[(iV t_34.1.Level),s35.v,s36.v,(iV t_34.1.Sum)]) (cs':=[(iV t_34.1.Level),s35.v,s36.v,(iV t_34.1.Sum)]) 5 0 hF hS rfl rfl sz29 rfl rfl rfl rfl rfl rfl rfl rfl fun a w hF hS=>⟨kpC hSo hS 7 7 rfl rfl kpN,?_⟩
    refine e_one 11 (by kernel_rfl) ?_
    have hSo:=hS
    refine e_store (vs:=[(iV t_39.1.Level),s40.v,s41.v,(iV t_39.1.Sum)]) (cs':=[(iV t_39.1.Level),s40.v,s41.v,(iV t_39.1.Sum)]) 6 0 hF hS rfl rfl sz29 rfl rfl rfl rfl rfl rfl rfl rfl fun a w hF hS=>⟨kpC hSo hS 7 7 rfl rfl kpN,?_⟩
    refine e_end (by kernel_rfl) (n_jn ?_) _
    obtain rfl:=someI hj1
    exact ⟨b44,b43,q40,s40,q41,s41,q35,s35,q36,s36,_,_,_,rfl,hF.sub ⟨rfl,rfl,rfl,rfl,rfl,rfl,rfl,rfl,trivial⟩,hS.sel [1,2,3,4,8,6,5,0,7,10,11,12] (by decide),h40,h41,h35,h36,h42,(hk42.trans (hk37.trans hk11))⟩
 ·rintro a w ⟨b44,b43,q46,s46,q47,s47,q49,s49,q50,s50,b_45,a_48,t_51,rfl,hF,hS,h46,h47,h49,h50,h52,h52k⟩
  refine n_sq ?_
  refine q_seq (q_seq ?_)
  obtain ⟨t_58,hj2,hr⟩:=bindS hr
  refine q_join (fun a w=>Fr a 44 [(2,(.pointer (some ⟨b2,0,none⟩))),(4,(.pointer (some ⟨b3,0,none⟩))),(5,(.pointer (some ⟨b4,0,none⟩))),(7,(.pointer (some ⟨b12,0,none⟩))),(8,s9.v),(10,(.pointer (some ⟨b43,0,none⟩))),(11,(.pointer (some ⟨b44,0,none⟩))),(36,(.bool t_58))]∧St [] w0 w m6' [q46,q47,q49,q50,q8,[⟨b44,[(iV b_45.Level),s46.v,s47.v,(iV b_45.Sum)],29⟩],[⟨b43,[(iV a_48.Level),s49.v,s50.v,(iV a_48.Sum)],29⟩],[⟨b12,[s8.v],26⟩],[⟨b4,[(iV 0),nilS.v,nilS.v,(iV 0)],29⟩],[⟨b3,[(iV 0),nilS.v,nilS.v,(iV 0)],29⟩],[⟨b2,[nilS.v],26⟩]]) ?_ ?_
  ·refine q_region (q_x (v:=(.pointer (some ⟨b5,0,none⟩))) hF hS (ex_move rfl) rfl rfl fun a hF=>?_)
   have hS : St _ _ _ _ [[⟨b5,[s1.v,(iV t_51.at_),(.int .u64 t_51.seed.v)],59⟩],q46,q47,q49,q50,q8,[⟨b44,[(iV b_45.Level),s46.v,s47.v,(iV b_45.Sum)],29⟩],[⟨b43,[(iV a_48.Level),s49.v,s50.v,(iV a_48.Sum)],29⟩],[⟨b12,[s8.v],26⟩],[⟨b4,[(iV 0),nilS.v,nilS.v,(iV 0)],29⟩],[⟨b3,[(iV 0),nilS.v,nilS.v,(iV 0)],29⟩],[⟨b2,[nilS.v],26⟩]]:=hS.sel [7,0,1,2,3,4,5,6,8,9,10,11] (by decide)
   have hS53 : St _ _ _ _ ([[⟨b5,[s1.v,(iV t_51.at_),(.int .u64 t_51.seed.v)],59⟩]]++[q46,q47,q49,q50,q8,[⟨b44,[(iV b_45.Level),s46.v,s47.v,(iV b_45.Sum)],29⟩],[⟨b43,[(iV a_48.Level),s49.v,s50.v,(iV a_48.Sum)],29⟩],[⟨b12,[s8.v],26⟩],[⟨b4,[(iV 0),nilS.v,nilS.v,(iV 0)],29⟩],[⟨b3,[(iV 0),nilS.v,nilS.v,(iV 0)],29⟩],[⟨b2,[nilS.v],26⟩]]):=hS
   have hE53:=hS53.enter
   obtain ⟨t_54,ht_54,hj2⟩:=bindS hj2
   refine q_do rfl fun _ hK=>wp_callX (vs:=[(.pointer (some ⟨b5,0,none⟩)),(iV 2)]) hF Tryz.func42 (by kernel_rfl) rfl rfl rfl (c_spec_l1Cur_one t_51 2 t_54 ht_54 _ m6' b5 s1 h52 _ hE53) fun a w _ hR hF=>hK _ _ ?_
   obtain ⟨rfl,hR53,hk55⟩:=hR
   have hS : St _ _ _ _ [[⟨b5,[s1.v,(iV t_54.2.at_),(.int .u64 t_54.2.seed.v)],59⟩],q46,q47,q49,q50,q8,[⟨b44,[(iV b_45.Level),s46.v,s47.v,(iV b_45.Sum)],29⟩],[⟨b43,[(iV a_48.Level),s49.v,s50.v,(iV a_48.Sum)],29⟩],[⟨b12,[s8.v],26⟩],[⟨b4,[(iV 0),nilS.v,nilS.v,(iV 0)],29⟩],[⟨b3,[(iV 0),nilS.v,nilS.v,(iV 0)],29⟩],[⟨b2,[nilS.v],26⟩]]:=hS53.leaveF hR53
   have h55 : Rd m6' s1 t_54.2.code:=by rw [hk55]; exact h52
   refine q_x (v:=(.bool t_54.1)) hF hS (ex_move rfl) rfl rfl fun a hF=>?_
   rcases bcase (t_54.1) with hc3 | hc3
   ·have hj2:=cond_f hc3 hj2
    refine q_skip hF (wanted_f hF rfl rfl rfl hc3 rfl) rfl fun a hF=>q_skip hF (wanted_f hF rfl rfl rfl hc3 rfl) rfl fun a hF=>q_skip hF (wanted_f hF rfl rfl rfl hc3 rfl) rfl fun a hF=>q_skip hF (wanted_f hF rfl rfl rfl hc3 rfl) rfl fun a hF=>q_x (v:=(.bool false)) hF hS (ex_pick_f rfl rfl hc3) rfl rfl fun a hF=>q_end (n_jn ?_)
    obtain rfl:=someI hj2
    exact ⟨hF.sub ⟨rfl,rfl,rfl,rfl,rfl,rfl,rfl,rfl,trivial⟩,hS.mask [false,true,true,true,true,true,true,true,true,true,true,true]⟩
   ·have hj2:=cond_t hc3 hj2
    refine q_xg (v:=(.agg #[s8.v])) hF hS (ex_loadA (vs:=[s8.v]) 8 0 Tryz.underlying26 rfl sz26 rfl rfl rfl rfl) (wanted_t hF rfl rfl rfl hc3) rfl fun a hF=>q_xg (v:=s9.v) hF hS (ex_move rfl) (wanted_t hF rfl rfl rfl hc3) rfl fun a hF=>q_xg (v:=(.agg #[(iV a_48.Level),s49.v,s50.v,(iV a_48.Sum)])) hF hS (ex_loadA (vs:=[(iV a_48.Level),s49.v,s50.v,(iV a_48.Sum)]) 7 0 Tryz.underlying29 rfl sz29 rfl rfl rfl rfl) (wanted_t hF rfl rfl rfl hc3) rfl fun a hF=>?_
    obtain ⟨m57,hl57,hv57,hz57⟩:=hS.lend
    obtain ⟨t_56,ht_56,hj2⟩:=bindS hj2
    refine q_callg (vs:=[(.agg #[s8.v]),s9.v,(.agg #[(iV a_48.Level),s49.v,s50.v,(iV a_48.Sum)])]) hF hS (wanted_t hF rfl rfl rfl hc3) Tryz.func32 (by kernel_rfl) rfl rfl rfl (c_spec_uGood t_7.1 t_7.2.1 a_48 t_56 ht_56 _ m57 hv57 s8 (h8.froz hl57 (hz57 5 _ rfl)) s9 (h9.mono hl57) s49 (h49.froz hl57 (hz57 3 _ rfl)) s50 (h50.froz hl57 (hz57 4 _ rfl))) ?_
    rintro a w _ rfl hF hS
    refine q_x (v:=(.bool t_56)) hF hS (ex_pick_t rfl rfl hc3) rfl rfl fun a hF=>q_end (n_jn ?_)
    obtain rfl:=someI hj2
    exact ⟨hF.sub ⟨rfl,rfl,rfl,rfl,rfl,rfl,rfl,rfl,trivial⟩,hS.mask [false,true,true,true,true,true,true,true,true,true,true,true]⟩
  ·rintro a w ⟨hF,hS⟩
   refine n_sq ?_
   obtain ⟨b_64,hj4,hr⟩:=bindS hr
   refine q_join (fun a w=>∃ (q65 : Piece),∃ (s65 : Sl),∃ (q66 : Piece),∃ (s66 : Sl),Fr a 44 [(2,(.pointer (some ⟨b2,0,none⟩))),(4,(.pointer (some ⟨b3,0,none⟩))),(5,(.pointer (some ⟨b4,0,none⟩))),(7,(.pointer (some ⟨b12,0,none⟩))),(8,s9.v),(10,(.pointer (some ⟨b43,0,none⟩))),(11,(.pointer (some ⟨b44,0,none⟩)))]∧St [] w0 w m6' [q65,q66,q49,q50,q8,[⟨b44,[(iV b_64.Level),s65.v,s66.v,(iV b_64.Sum)],29⟩],[⟨b43,[(iV a_48.Level),s49.v,s50.v,(iV a_48.Sum)],29⟩],[⟨b12,[s8.v],26⟩],[⟨b4,[(iV 0),nilS.v,nilS.v,(iV 0)],29⟩],[⟨b3,[(iV 0),nilS.v,nilS.v,(iV 0)],29⟩],[⟨b2,[nilS.v],26⟩]]∧OwnL m6' 3 q65 s65 b_64.Vars∧OwnL m6' 3 q66 s66 b_64.Where) ?_ ?_
   ·rcases bcase (t_58) with hc5 | hc5
    ·have hj4:=cond_f hc5 hj4
     refine q_cond_f hF rfl hc5 (q_skipc (n_jn ?_))
     obtain rfl:=someI hj4
     exact ⟨q46,s46,q47,s47,hF.sub ⟨rfl,rfl,rfl,rfl,rfl,rfl,rfl,trivial⟩,hS,h46,h47⟩
    ·have hj4:=cond_t hc5 hj4
     refine q_cond_t hF rfl hc5 (q_region (q_x (v:=s9.v) hF hS (ex_move rfl) rfl rfl fun a hF=>q_x (v:=(.agg #[(iV a_48.Level),s49.v,s50.v,(iV a_48.Sum)])) hF hS (ex_loadA (vs:=[(iV a_48.Level),s49.v,s50.v,(iV a_48.Sum)]) 6 0 Tryz.underlying29 rfl sz29 rfl rfl rfl rfl) rfl rfl fun a hF=>?_))
     obtain ⟨m60,hl60,hv60,hz60⟩:=hS.lend
     obtain ⟨t_59,ht_59,hj4⟩:=bindS hj4
     refine q_call (vs:=[s9.v,(.agg #[(iV a_48.Level),s49.v,s50.v,(iV a_48.Sum)])]) hF hS Tryz.func46 (by kernel_rfl) rfl rfl rfl (c_spec_nNormal t_7.2.1 a_48 t_59 ht_59 _ m60 hv60 s9 (h9.mono hl60) s49 (h49.froz hl60 (hz60 2 _ rfl)) s50 (h50.froz hl60 (hz60 3 _ rfl))) ?_
     rintro a w _ ⟨q62,q63,s62,s63,rfl,hR61,h62,h63⟩ hF hS2
     have hS : St _ _ _ _ [q62,q63,q46,q47,q49,q50,q8,[⟨b44,[(iV b_45.Level),s46.v,s47.v,(iV b_45.Sum)],29⟩],[⟨b43,[(iV a_48.Level),s49.v,s50.v,(iV a_48.Sum)],29⟩],[⟨b12,[s8.v],26⟩],[⟨b4,[(iV 0),nilS.v,nilS.v,(iV 0)],29⟩],[⟨b3,[(iV 0),nilS.v,nilS.v,(iV 0)],29⟩],[⟨b2,[nilS.v],26⟩]]:=hS.joinF hR61
     have h62:=h62.any m6'
     have h63:=h63.any m6'
     refine q_store (vs:=[(iV t_59.Level),s62.v,s63.v,(iV t_59.Sum)]) (cs':=[(iV t_59.Level),s62.v,s63.v,(iV t_59.Sum)]) 7 0 hF hS sz29 rfl rfl rfl rfl rfl rfl rfl rfl fun a w hF hS=>q_end (n_jn ?_)
     obtain rfl:=someI hj4
     exact ⟨q62,s62,q63,s63,hF.sub ⟨rfl,rfl,rfl,rfl,rfl,rfl,rfl,trivial⟩,hS.mask [true,true,false,false,true,true,true,true,true,true,true,true,true],h62,h63⟩
   ·rintro a w ⟨q65,s65,q66,s66,hF,hS,h65,h66⟩
    refine n_sq ?_
    refine q_seq (e_region ⟨[4,6,7],[b12,b43,b44]⟩ mixed fun w' hw'=>?_)
    have hS:=hS.below hw'
    refine e_xb (v:=(.agg #[s8.v])) 0 7 hF hS (.head _) rfl rfl (ex_loadA (vs:=[s8.v]) 0 0 Tryz.underlying26 rfl sz26 rfl rfl rfl rfl) rfl rfl (by kernel_rfl) (by kernel_rfl) (by kernel_rfl) fun a hF=>e_p (v:=s9.v) 1 hF rfl (ex_move rfl) rfl rfl (by kernel_rfl) (by kernel_rfl) (by kernel_rfl) fun a hF=>e_xb (v:=(.agg #[(iV a_48.Level),s49.v,s50.v,(iV a_48.Sum)])) 2 6 hF hS (.tail _ (.head _)) rfl rfl (ex_loadA (vs:=[(iV a_48.Level),s49.v,s50.v,(iV a_48.Sum)]) 0 0 Tryz.underlying29 rfl sz29 rfl rfl rfl rfl) rfl rfl (by kernel_rfl) (by kernel_rfl) (by kernel_rfl) fun a hF=>e_xb (v:=(.agg #[(iV b_64.Level),s65.v,s66.v,(iV b_64.Sum)])) 3 5 hF hS (.tail _ (.tail _ (.head _))) rfl rfl (ex_loadA (vs:=[(iV b_64.Level),s65.v,s66.v,(iV b_64.Sum)]) 0 0 Tryz.underlying29 rfl sz29 rfl rfl rfl rfl) rfl rfl (by kernel_rfl) (by kernel_rfl) (by kernel_rfl) fun a hF=>e_one 4 (by kernel_rfl) ?_
    have hSo:=hS
    refine e_store (vs:=[s8.v]) (cs':=[s8.v]) 10 0 hF hS rfl rfl sz26 rfl rfl rfl rfl rfl rfl rfl rfl fun a w hF hS=>⟨kpC hSo hS 7 7 rfl rfl (kpC hSo hS 6 6 rfl rfl (kpC hSo hS 5 5 rfl rfl kpN)),?_⟩
    refine e_p (v:=s9.v) 5 hF rfl (ex_assign rfl) rfl rfl (by kernel_rfl) (by kernel_rfl) (by kernel_rfl) fun a hF=>e_one 6 (by kernel_rfl) ?_
    have hSo:=hS
    refine e_store (vs:=[(iV a_48.Level),s49.v,s50.v,(iV a_48.Sum)]) (cs':=[(iV a_48.Level),s49.v,s50.v,(iV a_48.Sum)]) 9 0 hF hS rfl rfl sz29 rfl rfl rfl rfl rfl rfl rfl rfl fun a w hF hS=>⟨kpC hSo hS 7 7 rfl rfl (kpC hSo hS 6 6 rfl rfl (kpC hSo hS 5 5 rfl rfl kpN)),?_⟩
    refine e_one 7 (by kernel_rfl) ?_
    have hSo:=hS
    refine e_store (vs:=[(iV b_64.Level),s65.v,s66.v,(iV b_64.Sum)]) (cs':=[(iV b_64.Level),s65.v,s66.v,(iV b_64.Sum)]) 8 0 hF hS rfl rfl sz29 rfl rfl rfl rfl rfl rfl rfl rfl fun a w hF hS=>⟨kpC hSo hS 7 7 rfl rfl (kpC hSo hS 6 6 rfl rfl (kpC hSo hS 5 5 rfl rfl kpN)),?_⟩
    refine e_end (by kernel_rfl) (n_sq (q_ret ?_)) _
    obtain rfl:=someI hr
    exact ret_of hF hS rfl (.cellA (us:=[s8.v]) 10 0 Tryz.underlying26 rfl sz26 rfl rfl rfl rfl (.tmp rfl (.cellA (us:=[(iV a_48.Level),s49.v,s50.v,(iV a_48.Sum)]) 9 0 Tryz.underlying29 rfl sz29 rfl rfl rfl rfl (.cellA (us:=[(iV b_64.Level),s65.v,s66.v,(iV b_64.Sum)]) 8 0 Tryz.underlying29 rfl sz29 rfl rfl rfl rfl .nil)))) ⟨m6',q8,q49,q50,q65,q66,s8,s9,s49,s50,s65,s66,rfl,hm6,hS.sel [4,2,3,0,1] (by decide),h8,h9,h49,h50,h65,h66⟩

theorem c_spec_l1Same (p_a : List Int) (p_b : List Int) (r : Bool) (hr : spec_l1Same p_a p_b = some r) (w0 : World) (m : Mem) (hv : Vis m w0) (s1 : Sl) (h1 : Rd m s1 p_a) (s2 : Sl) (h2 : Rd m s2 p_b) :
  Ret Tryz.prog 95 [s1.v,s2.v] w0 (fun v _=>v = (.bool r)):=by
 unfold spec_l1Same at hr
 refine ret_start Tryz.func95 rfl 26 rfl rfl m hv fun a hF hS=>q_seq (q_region (q_x (v:=(.bool false)) hF hS (ex_assign rfl) rfl rfl fun a hF=>q_end (n_sq (q_seq (q_seq (q_region (q_x (v:=s1.v) hF hS (ex_move rfl) rfl rfl fun a hF=>q_x (v:=(iV (goLen p_a))) hF hS (ex_len Tryz.underlying24 rfl h1.len) rfl rfl fun a hF=>q_x (v:=s2.v) hF hS (ex_move rfl) rfl rfl fun a hF=>q_x (v:=(iV (goLen p_b))) hF hS (ex_len Tryz.underlying24 rfl h2.len) rfl rfl fun a hF=>q_x (v:=(.bool ((goLen p_a) != (goLen p_b)))) hF hS (ex_ibin rfl rfl rfl) rfl rfl fun a hF=>q_end (n_sq ?_))))))))
 rcases bcase ((goLen p_a) != (goLen p_b)) with hc1 | hc1
 ·have hr:=cond_f hc1 hr
  refine q_cond_f hF rfl hc1 (q_skipc (n_sq (q_seq (q_seq (q_region (q_x (v:=s1.v) hF hS (ex_move rfl) rfl rfl fun a hF=>q_x (v:=(iV (goLen p_a))) hF hS (ex_len Tryz.underlying24 rfl h1.len) rfl rfl fun a hF=>q_x (v:=(iV 0)) hF hS (ex_move rfl) rfl rfl fun a hF=>q_end (n_sq (q_block ?_))))))))
  obtain ⟨o2,hl2,hr⟩:=bindS hr
  refine q_loop (fun (t_3 : Int) a w=>Fr a 26 [(0,s1.v),(1,s2.v),(12,(iV (goLen p_a))),(13,(iV t_3))]∧St [] w0 w m []) (fun (o : (Unit) ⊕ (Bool)) e a w=>o = .inl ()∧e = .exit 0∧Fr a 26 []∧St [] w0 w m []) hl2 ⟨hF.sub ⟨rfl,rfl,rfl,rfl,trivial⟩,hS⟩ ?_ ?_
  ·clear hF hS
   rintro t_3 a w st ⟨hF,hS⟩ hb2
   unfold spec_l1Same_l1 at hb2
   refine q_seq (q_region (q_x (v:=(.bool (decide (t_3 < (goLen p_a))))) hF hS (ex_ibin rfl rfl rfl) rfl rfl fun a hF=>q_end (n_sq (q_seq ?_))))
   rcases bcase (decide (t_3 < (goLen p_a))) with hc3 | hc3
   ·have hb2:=cond_f hc3 hb2
    refine q_cond_f hF rfl hc3 (q_exit (x_sq ?_))
    obtain rfl:=someI hb2
    exact ⟨nofun,.inl ⟨rfl,rfl,hF.sub trivial,hS⟩⟩
   ·have hb2:=cond_t hc3 hb2
    refine q_cond_t hF rfl hc3 (q_skipc (n_sq (q_seq (q_block (q_seq (q_region (q_x (v:=(iV t_3)) hF hS (ex_move rfl) rfl rfl fun a hF=>q_x (v:=(iV t_3)) hF hS (ex_assign rfl) rfl rfl fun a hF=>q_end (n_sq (q_seq (e_region ⟨[],[]⟩ mixed fun w' hw'=>?_))))))))))
    have hS:=hS.below hw'
    refine e_p (v:=s1.v) 0 hF rfl (ex_move rfl) rfl rfl (by kernel_rfl) (by kernel_rfl) (by kernel_rfl) fun a hF=>e_p (v:=(iV t_3)) 1 hF rfl (ex_move rfl) rfl rfl (by kernel_rfl) (by kernel_rfl) (by kernel_rfl) fun a hF=>?_
    obtain ⟨e_4,he_4,hb2⟩:=bindS hb2
    obtain ⟨vs5,at5,d5⟩:=h1.at he_4 1 rfl
    obtain rfl : vs5 = [(iV e_4)]:=d5
    refine e_p (v:=(elP s1 (t_3.toNat * 1))) 2 hF rfl (ex_indexAddr Tryz.underlying24 sz3 rfl rfl (h1.idx he_4)) rfl rfl (by kernel_rfl) (by kernel_rfl) (by kernel_rfl) fun a hF=>e_x (v:=(iV e_4)) 3 hF hS rfl (ex_loadE1 0 Tryz.underlying3 rfl rfl ((at5).at) rfl rfl) rfl rfl (by kernel_rfl) (by kernel_rfl) (by kernel_rfl) (by kernel_rfl) fun a hF=>e_p (v:=s2.v) 4 hF rfl (ex_move rfl) rfl rfl (by kernel_rfl) (by kernel_rfl) (by kernel_rfl) fun a hF=>e_p (v:=(iV t_3)) 5 hF rfl (ex_move rfl) rfl rfl (by kernel_rfl) (by kernel_rfl) (by kernel_rfl) fun a hF=>?_
    obtain ⟨e_6,he_6,hb2⟩:=bindS hb2
    obtain ⟨vs7,at7,d7⟩:=h2.at he_6 1 rfl
    obtain rfl : vs7 = [(iV e_6)]:=d7
    refine e_p (v:=(elP s2 (t_3.toNat * 1))) 6 hF rfl (ex_indexAddr Tryz.underlying24 sz3 rfl rfl (h2.idx he_6)) rfl rfl (by kernel_rfl) (by kernel_rfl) (by kernel_rfl) fun a hF=>e_x (v:=(iV e_6)) 7 hF hS rfl (ex_loadE1 0 Tryz.underlying3 rfl rfl ((at7).at) rfl rfl) rfl rfl (by kernel_rfl) (by kernel_rfl) (by kernel_rfl) (by kernel_rfl) fun a hF=>e_p (v:=(.bool (e_4 != e_6))) 8 hF rfl (ex_ibin rfl rfl rfl) rfl rfl (by kernel_rfl) (by kernel_rfl) (by kernel_rfl) fun a hF=>e_end (by kernel_rfl) (n_sq ?_) _
    rcases bcase (e_4 != e_6) with hc4 | hc4
    ·have hb2:=cond_f hc4 hb2
     refine q_cond_f hF rfl hc4 (q_skipc (n_ib (n_sq (q_region (q_x (v:=(iV (w64 (t_3 + 1)))) hF hS (ex_ibin rfl rfl rfl) rfl rfl fun a hF=>q_x (v:=(iV (w64 (t_3 + 1)))) hF hS (ex_move rfl) rfl rfl fun a hF=>q_end ?_)))))
     obtain rfl:=someI hb2
     exact ⟨rfl,hF.sub ⟨rfl,rfl,rfl,rfl,trivial⟩,hS⟩
    ·have hb2:=cond_t hc4 hb2
     refine q_cond_t hF rfl hc4 (q_seq (q_region (q_x (v:=(.bool false)) hF hS (ex_assign rfl) rfl rfl fun a hF=>q_end (n_sq (q_ret (r_ib (r_sq ?_)))))))
     obtain rfl:=someI hb2
     refine ⟨nofun,.inr fun ho=>?_⟩
     subst ho
     refine r_ib (r_sq ?_)
     obtain rfl:=someI hr
     exact ret_of hF hS rfl (.tmp rfl .nil) rfl
  ·rintro e a w ⟨rfl,rfl,hF,hS⟩
   refine x_ib (n_sq ?_)
   refine q_seq (q_region (q_x (v:=(.bool true)) hF hS (ex_assign rfl) rfl rfl fun a hF=>q_end (n_sq (q_ret ?_))))
   obtain rfl:=someI hr
   exact ret_of hF hS rfl (.tmp rfl .nil) rfl
 ·have hr:=cond_t hc1 hr
  refine q_cond_t hF rfl hc1 (q_seq (q_region (q_x (v:=(.bool false)) hF hS (ex_assign rfl) rfl rfl fun a hF=>q_end (n_sq (q_ret (r_sq ?_))))))
  obtain rfl:=someI hr
  exact ret_of hF hS rfl (.tmp rfl .nil) rfl

theorem c_spec_nSame (p_s : List impl_Variable) (p_a : impl_Table) (p_b : impl_Table) (r : Bool) (hr : spec_nSame p_s p_a p_b = some r) (w0 : World) (m : Mem) (hv : Vis m w0) (s1 : Sl) (h1 : Rd m s1 p_s) (s2 : Sl) (h2 : Rd m s2 p_a.Vars) (s3 : Sl) (h3 : Rd m s3 p_a.Where) (s4 : Sl) (h4 : Rd m s4 p_b.Vars) (s5 : Sl) (h5 : Rd m s5 p_b.Where) :
  Ret Tryz.prog 47 [s1.v,(.agg #[(iV p_a.Level),s2.v,s3.v,(iV p_a.Sum)]),(.agg #[(iV p_b.Level),s4.v,s5.v,(iV p_b.Sum)])] w0 (fun v _=>v = (.bool r)):=by
 unfold spec_nSame at hr
 refine ret_start Tryz.func47 rfl 41 rfl rfl m hv fun a hF hS=>q_seq (q_region (q_box (cs:=[(iV p_a.Level),s2.v,s3.v,(iV p_a.Sum)]) hF hS rfl rfl rfl fun a w b6 hF hS=>q_box (cs:=[(iV p_b.Level),s4.v,s5.v,(iV p_b.Sum)]) hF hS rfl rfl rfl fun a w b7 hF hS=>q_x (v:=(.bool false)) hF hS (ex_assign rfl) rfl rfl fun a hF=>q_end (n_sq (q_seq ?_))))
 obtain ⟨j1,hj1,hr⟩:=bindS hr
 refine q_join (fun a w=>∃ b29,∃ b28,∃ (q31 : Piece),∃ (s31 : Sl),∃ (q32 : Piece),∃ (s32 : Sl),∃ (q34 : Piece),∃ (s34 : Sl),∃ (q35 : Piece),∃ (s35 : Sl),∃ y_30,∃ x_33,j1 = (y_30,x_33)∧Fr a 41 [(7,(.pointer (some ⟨b28,0,none⟩))),(8,(.pointer (some ⟨b29,0,none⟩)))]∧St [] w0 w m [q31,q32,q34,q35,[⟨b29,[(iV y_30.Level),s31.v,s32.v,(iV y_30.Sum)],29⟩],[⟨b28,[(iV x_33.Level),s34.v,s35.v,(iV x_33.Sum)],29⟩]]∧OwnL m 3 q31 s31 y_30.Vars∧OwnL m 3 q32 s32 y_30.Where∧OwnL m 3 q34 s34 x_33.Vars∧OwnL m 3 q35 s35 x_33.Where) ?_ ?_
 ·refine e_region ⟨[8,9],[b6,b7]⟩ mixed fun w' hw'=>?_
  have hS:=hS.below hw'
  refine e_p (v:=s1.v) 0 hF rfl (ex_move rfl) rfl rfl (by kernel_rfl) (by kernel_rfl) (by kernel_rfl) fun a hF=>e_xb (v:=(.agg #[(iV p_a.Level),s2.v,s3.v,(iV p_a.Sum)])) 1 1 hF hS (.head _) rfl rfl (ex_loadA (vs:=[(iV p_a.Level),s2.v,s3.v,(iV p_a.Sum)]) 0 0 Tryz.underlying29 rfl sz29 rfl rfl rfl rfl) rfl rfl (by kernel_rfl) (by kernel_rfl) (by kernel_rfl) fun a hF=>e_p (v:=s1.v) 3 hF rfl (ex_move rfl) rfl rfl (by kernel_rfl) (by kernel_rfl) (by kernel_rfl) fun a hF=>e_xb (v:=(.agg #[(iV p_b.Level),s4.v,s5.v,(iV p_b.Sum)])) 4 0 hF hS (.tail _ (.head _)) rfl rfl (ex_loadA (vs:=[(iV p_b.Level),s4.v,s5.v,(iV p_b.Sum)]) 0 0 Tryz.underlying29 rfl sz29 rfl rfl rfl rfl) rfl rfl (by kernel_rfl) (by kernel_rfl) (by kernel_rfl) fun a hF=>?_
  obtain ⟨t_20,ht_20,hj1⟩:=bindS hj1
  obtain ⟨t_24,ht_24,hj1⟩:=bindS hj1
  refine e_all [2,6,7] (by kernel_rfl) rfl ⟨?_,?_,?_,trivial⟩
  ·refine e_call (vs:=[s1.v,(.agg #[(iV p_a.Level),s2.v,s3.v,(iV p_a.Sum)])]) hF hS rfl Tryz.func46 (by kernel_rfl) rfl rfl rfl (c_spec_nNormal p_s p_a t_20 ht_20 _ m hS.vis s1 h1 s2 h2 s3 h3) ?_
   rintro a w _ ⟨q22,q23,s22,s23,rfl,hR21,h22,h23⟩ hF hS2
   have hS : St _ _ _ _ [q22,q23,[⟨b7,[(iV p_b.Level),s4.v,s5.v,(iV p_b.Sum)],29⟩],[⟨b6,[(iV p_a.Level),s2.v,s3.v,(iV p_a.Sum)],29⟩]]:=hS.joinF hR21
   refine e_all [5,6,7] (by kernel_rfl) rfl ⟨?_,?_,?_,trivial⟩
   ·refine e_call (vs:=[s1.v,(.agg #[(iV p_b.Level),s4.v,s5.v,(iV p_b.Sum)])]) hF hS rfl Tryz.func46 (by kernel_rfl) rfl rfl rfl (c_spec_nNormal p_s p_b t_24 ht_24 _ m hS.vis s1 h1 s4 h4 s5 h5) ?_
    rintro a w _ ⟨q26,q27,s26,s27,rfl,hR25,h26,h27⟩ hF hS2
    have hS : St _ _ _ _ [q26,q27,q22,q23,[⟨b7,[(iV p_b.Level),s4.v,s5.v,(iV p_b.Sum)],29⟩],[⟨b6,[(iV p_a.Level),s2.v,s3.v,(iV p_a.Sum)],29⟩]]:=hS.joinF hR25
    refine e_all [6,7] (by kernel_rfl) rfl ⟨?_,?_,trivial⟩
    ·refine e_alloc (cs:=[(iV 0),nilS.v,nilS.v,(iV 0)]) hF hS rfl rfl rfl rfl fun a w b28 hF hS=>e_one 7 (by kernel_rfl) (e_alloc (cs:=[(iV 0),nilS.v,nilS.v,(iV 0)]) hF hS rfl rfl rfl rfl fun a w b29 hF hS=>e_one 8 (by kernel_rfl) ?_)
     have hSo:=hS
     refine e_store (vs:=[(iV t_20.Level),s22.v,s23.v,(iV t_20.Sum)]) (cs':=[(iV t_20.Level),s22.v,s23.v,(iV t_20.Sum)]) 1 0 hF hS rfl rfl sz29 rfl rfl rfl rfl rfl rfl rfl rfl fun a w hF hS=>⟨kpC hSo hS 7 7 rfl rfl (kpC hSo hS 6 6 rfl rfl kpN),?_⟩
     refine e_one 9 (by kernel_rfl) ?_
     have hSo:=hS
     refine e_store (vs:=[(iV t_24.Level),s26.v,s27.v,(iV t_24.Sum)]) (cs':=[(iV t_24.Level),s26.v,s27.v,(iV t_24.Sum)]) 0 0 hF hS rfl rfl sz29 rfl rfl rfl rfl rfl rfl rfl rfl fun a w hF hS=>⟨kpC hSo hS 7 7 rfl rfl (kpC hSo hS 6 6 rfl rfl kpN),?_⟩
     refine e_end (by kernel_rfl) (n_jn ?_) _
     obtain rfl:=someI hj1
     exact ⟨b29,b28,q26,s26,q27,s27,q22,s22,q23,s23,_,_,rfl,hF.sub ⟨rfl,rfl,trivial⟩,hS.sel [2,3,4,5,0,1] (by decide),h26,h27,h22,h23⟩
    ·refine e_alloc (cs:=[(iV 0),nilS.v,nilS.v,(iV 0)]) hF hS rfl rfl rfl rfl fun a w b29 hF hS=>e_one 6 (by kernel_rfl) (e_alloc (cs:=[(iV 0),nilS.v,nilS.v,(iV 0)]) hF hS rfl rfl rfl rfl fun a w b28 hF hS=>e_one 8 (by kernel_rfl) ?_)
     have hSo:=hS
     refine e_store (vs:=[(iV t_20.Level),s22.v,s23.v,(iV t_20.Sum)]) (cs':=[(iV t_20.Level),s22.v,s23.v,(iV t_20.Sum)]) 0 0 hF hS rfl rfl sz29 rfl rfl rfl rfl rfl rfl rfl rfl fun a w hF hS=>⟨kpC hSo hS 7 7 rfl rfl (kpC hSo hS 6 6 rfl rfl kpN),?_⟩
     refine e_one 9 (by kernel_rfl) ?_
     have hSo:=hS
     refine e_store (vs:=[(iV t_24.Level),s26.v,s27.v,(iV t_24.Sum)]) (cs':=[(iV t_24.Level),s26.v,s27.v,(iV t_24.Sum)]) 1 0 hF hS rfl rfl sz29 rfl rfl rfl rfl rfl rfl rfl rfl fun a w hF hS=>⟨kpC hSo hS 7 7 rfl rfl (kpC hSo hS 6 6 rfl rfl kpN),?_⟩
     refine e_end (by kernel_rfl) (n_jn ?_) _
     obtain rfl:=someI hj1
     exact ⟨b29,b28,q26,s26,q27,s27,q22,s22,q23,s23,_,_,rfl,hF.sub ⟨rfl,rfl,trivial⟩,hS.sel [2,3,4,5,1,0] (by decide),h26,h27,h22,h23⟩
   ·refine e_alloc (cs:=[(iV 0),nilS.v,nilS.v,(iV 0)]) hF hS rfl rfl rfl rfl fun a w b28 hF hS=>e_all [5,7] (by kernel_rfl) rfl ⟨?_,?_,trivial⟩
    ·refine e_call (vs:=[s1.v,(.agg #[(iV p_b.Level),s4.v,s5.v,(iV p_b.Sum)])]) hF hS rfl Tryz.func46 (by kernel_rfl) rfl rfl rfl (c_spec_nNormal p_s p_b t_24 ht_24 _ m hS.vis s1 h1 s4 h4 s5 h5) ?_
     rintro a w _ ⟨q26,q27,s26,s27,rfl,hR25,h26,h27⟩ hF hS2
     have hS : St _ _ _ _ [q26,q27,[⟨b28,[(iV 0),nilS.v,nilS.v,(iV 0)],29⟩],q22,q23,[⟨b7,[(iV p_b.Level),s4.v,s5.v,(iV p_b.Sum)],29⟩],[⟨b6,[(iV p_a.Level),s2.v,s3.v,(iV p_a.Sum)],29⟩]]:=hS.joinF hR25
     refine e_one 7 (by kernel_rfl) (e_alloc (cs:=[(iV 0),nilS.v,nilS.v,(iV 0)]) hF hS rfl rfl rfl rfl fun a w b29 hF hS=>e_one 8 (by kernel_rfl) ?_)
     have hSo:=hS
     refine e_store (vs:=[(iV t_20.Level),s22.v,s23.v,(iV t_20.Sum)]) (cs':=[(iV t_20.Level),s22.v,s23.v,(iV t_20.Sum)]) 3 0 hF hS rfl rfl sz29 rfl rfl rfl rfl rfl rfl rfl rfl fun a w hF hS=>⟨kpC hSo hS 7 7 rfl rfl (kpC hSo hS 6 6 rfl rfl kpN),?_⟩
     refine e_one 9 (by kernel_rfl) ?_
     have hSo:=hS
     refine e_store (vs:=[(iV t_24.Level),s26.v,s27.v,(iV t_24.Sum)]) (cs':=[(iV t_24.Level),s26.v,s27.v,(iV t_24.Sum)]) 0 0 hF hS rfl rfl sz29 rfl rfl rfl rfl rfl rfl rfl rfl fun a w hF hS=>⟨kpC hSo hS 7 7 rfl rfl (kpC hSo hS 6 6 rfl rfl kpN),?_⟩
     refine e_end (by kernel_rfl) (n_jn ?_) _
     obtain rfl:=someI hj1
     exact ⟨b29,b28,q26,s26,q27,s27,q22,s22,q23,s23,_,_,rfl,hF.sub ⟨rfl,rfl,trivial⟩,hS.sel [1,2,4,5,0,3] (by decide),h26,h27,h22,h23⟩
    ·refine e_alloc (cs:=[(iV 0),nilS.v,nilS.v,(iV 0)]) hF hS rfl rfl rfl rfl fun a w b29 hF hS=>e_one 5 (by kernel_rfl) (e_call (vs:=[s1.v,(.agg #[(iV p_b.Level),s4.v,s5.v,(iV p_b.Sum)])]) hF hS rfl Tryz.func46 (by kernel_rfl) rfl rfl rfl (c_spec_nNormal p_s p_b t_24 ht_24 _ m hS.vis s1 h1 s4 h4 s5 h5) ?_)
     rintro a w _ ⟨q26,q27,s26,s27,rfl,hR25,h26,h27⟩ hF hS2
     have hS : St _ _ _ _ [q26,q27,[⟨b29,[(iV 0),nilS.v,nilS.v,(iV 0)],29⟩],[⟨b28,[(iV 0),nilS.v,nilS.v,(iV 0)],29⟩],q22,q23,[⟨b7,[(iV p_b.Level),s4.v,s5.v,(iV p_b.Sum)],29⟩],[⟨b6,[(iV p_a.Level),s2.v,s3.v,(iV p_a.Sum)],29⟩]]:=hS.joinF hR25
     refine e_one 8 (by kernel_rfl) ?_
     have hSo:=hS
     refine e_store (vs:=[(iV t_20.Level),s22.v,s23.v,(iV t_20.Sum)]) (cs':=[(iV t_20.Level),s22.v,s23.v,(iV t_20.Sum)]) 3 0 hF hS rfl rfl sz29 rfl rfl rfl rfl rfl rfl rfl rfl fun a w hF hS=>⟨kpC hSo hS 7 7 rfl rfl (kpC hSo hS 6 6 rfl rfl kpN),?_⟩
     refine e_one 9 (by kernel_rfl) ?_
     have hSo:=hS
     refine e_store (vs:=[(iV t_24.Level),s26.v,s27.v,(iV t_24.Sum)]) (cs':=[(iV t_24.Level),s26.v,s27.v,(iV t_24.Sum)]) 2 0 hF hS rfl rfl sz29 rfl rfl rfl rfl rfl rfl rfl rfl fun a w hF hS=>⟨kpC hSo hS 7 7 rfl rfl (kpC hSo hS 6 6 rfl rfl kpN),?_⟩
     refine e_end (by kernel_rfl) (n_jn ?_) _
     obtain rfl:=someI hj1
     exact ⟨b29,b28,q26,s26,q27,s27,q22,s22,q23,s23,_,_,rfl,hF.sub ⟨rfl,rfl,trivial⟩,hS.sel [0,1,4,5,2,3] (by decide),h26,h27,h22,h23⟩
   ·refine e_alloc (cs:=[(iV 0),nilS.v,nilS.v,(iV 0)]) hF hS rfl rfl rfl rfl fun a w b29 hF hS=>e_all [5,6] (by kernel_rfl) rfl ⟨?_,?_,trivial⟩
    ·refine e_call (vs:=[s1.v,(.agg #[(iV p_b.Level),s4.v,s5.v,(iV p_b.Sum)])]) hF hS rfl Tryz.func46 (by kernel_rfl) rfl rfl rfl (c_spec_nNormal p_s p_b t_24 ht_24 _ m hS.vis s1 h1 s4 h4 s5 h5) ?_
     rintro a w _ ⟨q26,q27,s26,s27,rfl,hR25,h26,h27⟩ hF hS2
     have hS : St _ _ _ _ [q26,q27,[⟨b29,[(iV 0),nilS.v,nilS.v,(iV 0)],29⟩],q22,q23,[⟨b7,[(iV p_b.Level),s4.v,s5.v,(iV p_b.Sum)],29⟩],[⟨b6,[(iV p_a.Level),s2.v,s3.v,(iV p_a.Sum)],29⟩]]:=hS.joinF hR25
     refine e_one 6 (by kernel_rfl) (e_alloc (cs:=[(iV 0),nilS.v,nilS.v,(iV 0)]) hF hS rfl rfl rfl rfl fun a w b28 hF hS=>e_one 8 (by kernel_rfl) ?_)
     have hSo:=hS
     refine e_store (vs:=[(iV t_20.Level),s22.v,s23.v,(iV t_20.Sum)]) (cs':=[(iV t_20.Level),s22.v,s23.v,(iV t_20.Sum)]) 0 0 hF hS rfl rfl sz29 rfl rfl rfl rfl rfl rfl rfl rfl fun a w hF hS=>⟨kpC hSo hS 7 7 rfl rfl (kpC hSo hS 6 6 rfl rfl kpN),?_⟩
     refine e_one 9 (by kernel_rfl) ?_
     have hSo:=hS
     refine e_store (vs:=[(iV t_24.Level),s26.v,s27.v,(iV t_24.Sum)]) (cs':=[(iV t_24.Level),s26.v,s27.v,(iV t_24.Sum)]) 3 0 hF hS rfl rfl sz29 rfl rfl rfl rfl rfl rfl rfl rfl fun a w hF hS=>⟨kpC hSo hS 7 7 rfl rfl (kpC hSo hS 6 6 rfl rfl kpN),?_⟩
     refine e_end (by kernel_rfl) (n_jn ?_) _
     obtain rfl:=someI hj1
     exact ⟨b29,b28,q26,s26,q27,s27,q22,s22,q23,s23,_,_,rfl,hF.sub ⟨rfl,rfl,trivial⟩,hS.sel [1,2,4,5,3,0] (by decide),h26,h27,h22,h23⟩
    ·refine e_alloc (cs:=[(iV 0),nilS.v,nilS.v,(iV 0)]) hF hS rfl rfl rfl rfl fun a w b28 hF hS=>e_one 5 (by kernel_rfl) (e_call (vs:=[s1.v,(.agg #[(iV p_b.Level),s4.v,s5.v,(iV p_b.Sum)])]) hF hS rfl Tryz.func46 (by kernel_rfl) rfl rfl rfl (c_spec_nNormal p_s p_b t_24 ht_24 _ m hS.vis s1 h1 s4 h4 s5 h5) ?_)
     rintro a w _ ⟨q26,q27,s26,s27,rfl,hR25,h26,h27⟩ hF hS2
     have hS : St _ _ _ _ [q26,q27,[⟨b28,[(iV 0),nilS.v,nilS.v,(iV 0)],29⟩],[⟨b29,[(iV 0),nilS.v,nilS.v,(iV 0)],29⟩],q22,q23,[⟨b7,[(iV p_b.Level),s4.v,s5.v,(iV p_b.Sum)],29⟩],[⟨b6,[(iV p_a.Level),s2.v,s3.v,(iV p_a.Sum)],29⟩]]:=hS.joinF hR25
     refine e_one 8 (by kernel_rfl) ?_
     have hSo:=hS
     refine e_store (vs:=[(iV t_20.Level),s22.v,s23.v,(iV t_20.Sum)]) (cs':=[(iV t_20.Level),s22.v,s23.v,(iV t_20.Sum)]) 2 0 hF hS rfl rfl sz29 rfl rfl rfl rfl rfl rfl rfl rfl fun a w hF hS=>⟨kpC hSo hS 7 7 rfl rfl (kpC hSo hS 6 6 rfl rfl kpN),?_⟩
     refine e_one 9 (by kernel_rfl) ?_
     have hSo:=hS
     refine e_store (vs:=[(iV t_24.Level),s26.v,s27.v,(iV t_24.Sum)]) (cs':=[(iV t_24.Level),s26.v,s27.v,(iV t_24.Sum)]) 3 0 hF hS rfl rfl sz29 rfl rfl rfl rfl rfl rfl rfl rfl fun a w hF hS=>⟨kpC hSo hS 7 7 rfl rfl (kpC hSo hS 6 6 rfl rfl kpN),?_⟩
     refine e_end (by kernel_rfl) (n_jn ?_) _
     obtain rfl:=someI hj1
     exact ⟨b29,b28,q26,s26,q27,s27,q22,s22,q23,s23,_,_,rfl,hF.sub ⟨rfl,rfl,trivial⟩,hS.sel [0,1,4,5,3,2] (by decide),h26,h27,h22,h23⟩
  ·refine e_alloc (cs:=[(iV 0),nilS.v,nilS.v,(iV 0)]) hF hS rfl rfl rfl rfl fun a w b28 hF hS=>e_all [2,7] (by kernel_rfl) rfl ⟨?_,?_,trivial⟩
   ·refine e_call (vs:=[s1.v,(.agg #[(iV p_a.Level),s2.v,s3.v,(iV p_a.Sum)])]) hF hS rfl Tryz.func46 (by kernel_rfl) rfl rfl rfl (c_spec_nNormal p_s p_a t_20 ht_20 _ m hS.vis s1 h1 s2 h2 s3 h3) ?_
    rintro a w _ ⟨q22,q23,s22,s23,rfl,hR21,h22,h23⟩ hF hS2
    have hS : St _ _ _ _ [q22,q23,[⟨b28,[(iV 0),nilS.v,nilS.v,(iV 0)],29⟩],[⟨b7,[(iV p_b.Level),s4.v,s5.v,(iV p_b.Sum)],29⟩],[⟨b6,[(iV p_a.Level),s2.v,s3.v,(iV p_a.Sum)],29⟩]]:=hS.joinF hR21
    refine e_all [5,7] (by kernel_rfl) rfl ⟨?_,?_,trivial⟩
    ·refine e_call (vs:=[s1.v,(.agg #[(iV p_b.Level),s4.v,s5.v,(iV p_b.Sum)])]) hF hS rfl Tryz.func46 (by kernel_rfl) rfl rfl rfl (c_spec_nNormal p_s p_b t_24 ht_24 _ m hS.vis s1 h1 s4 h4 s5 h5) ?_
     rintro a w _ ⟨q26,q27,s26,s27,rfl,hR25,h26,h27⟩ hF hS2
     have hS : St _ _ _ _ [q26,q27,q22,q23,[⟨b28,[(iV 0),nilS.v,nilS.v,(iV 0)],29⟩],[⟨b7,[(iV p_b.Level),s4.v,s5.v,(iV p_b.Sum)],29⟩],[⟨b6,[(iV p_a.Level),s2.v,s3.v,(iV p_a.Sum)],29⟩]]:=hS.joinF hR25
     refine e_one 7 (by kernel_rfl) (e_alloc (cs:=[(iV 0),nilS.v,nilS.v,(iV 0)]) hF hS rfl rfl rfl rfl fun a w b29 hF hS=>e_one 8 (by kernel_rfl) ?_)
     have hSo:=hS
     refine e_store (vs:=[(iV t_20.Level),s22.v,s23.v,(iV t_20.Sum)]) (cs':=[(iV t_20.Level),s22.v,s23.v,(iV t_20.Sum)]) 5 0 hF hS rfl rfl sz29 rfl rfl rfl rfl rfl rfl rfl rfl fun a w hF hS=>⟨kpC hSo hS 7 7 rfl rfl (kpC hSo hS 6 6 rfl rfl kpN),?_⟩
     refine e_one 9 (by kernel_rfl) ?_
     have hSo:=hS
     refine e_store (vs:=[(iV t_24.Level),s26.v,s27.v,(iV t_24.Sum)]) (cs':=[(iV t_24.Level),s26.v,s27.v,(iV t_24.Sum)]) 0 0 hF hS rfl rfl sz29 rfl rfl rfl rfl rfl rfl rfl rfl fun a w hF hS=>⟨kpC hSo hS 7 7 rfl rfl (kpC hSo hS 6 6 rfl rfl kpN),?_⟩
     refine e_end (by kernel_rfl) (n_jn ?_) _
     obtain rfl:=someI hj1
     exact ⟨b29,b28,q26,s26,q27,s27,q22,s22,q23,s23,_,_,rfl,hF.sub ⟨rfl,rfl,trivial⟩,hS.sel [1,2,3,4,0,5] (by decide),h26,h27,h22,h23⟩
    ·refine e_alloc (cs:=[(iV 0),nilS.v,nilS.v,(iV 0)]) hF hS rfl rfl rfl rfl fun a w b29 hF hS=>e_one 5 (by kernel_rfl) (e_call (vs:=[s1.v,(.agg #[(iV p_b.Level),s4.v,s5.v,(iV p_b.Sum)])]) hF hS rfl Tryz.func46 (by kernel_rfl) rfl rfl rfl (c_spec_nNormal p_s p_b t_24 ht_24 _ m hS.vis s1 h1 s4 h4 s5 h5) ?_)
     rintro a w _ ⟨q26,q27,s26,s27,rfl,hR25,h26,h27⟩ hF hS2
     have hS : St _ _ _ _ [q26,q27,[⟨b29,[(iV 0),nilS.v,nilS.v,(iV 0)],29⟩],q22,q23,[⟨b28,[(iV 0),nilS.v,nilS.v,(iV 0)],29⟩],[⟨b7,[(iV p_b.Level),s4.v,s5.v,(iV p_b.Sum)],29⟩],[⟨b6,[(iV p_a.Level),s2.v,s3.v,(iV p_a.Sum)],29⟩]]:=hS.joinF hR25
     refine e_one 8 (by kernel_rfl) ?_
     have hSo:=hS
     refine e_store (vs:=[(iV t_20.Level),s22.v,s23.v,(iV t_20.Sum)]) (cs':=[(iV t_20.Level),s22.v,s23.v,(iV t_20.Sum)]) 5 0 hF hS rfl rfl sz29 rfl rfl rfl rfl rfl rfl rfl rfl fun a w hF hS=>⟨kpC hSo hS 7 7 rfl rfl (kpC hSo hS 6 6 rfl rfl kpN),?_⟩
     refine e_one 9 (by kernel_rfl) ?_
     have hSo:=hS
     refine e_store (vs:=[(iV t_24.Level),s26.v,s27.v,(iV t_24.Sum)]) (cs':=[(iV t_24.Level),s26.v,s27.v,(iV t_24.Sum)]) 2 0 hF hS rfl rfl sz29 rfl rfl rfl rfl rfl rfl rfl rfl fun a w hF hS=>⟨kpC hSo hS 7 7 rfl rfl (kpC hSo hS 6 6 rfl rfl kpN),?_⟩
     refine e_end (by kernel_rfl) (n_jn ?_) _
     obtain rfl:=someI hj1
     exact ⟨b29,b28,q26,s26,q27,s27,q22,s22,q23,s23,_,_,rfl,hF.sub ⟨rfl,rfl,trivial⟩,hS.sel [0,1,3,4,2,5] (by decide),h26,h27,h22,h23⟩
   ·refine e_alloc (cs:=[(iV 0),nilS.v,nilS.v,(iV 0)]) hF hS rfl rfl rfl rfl fun a w b29 hF hS=>e_one 2 (by kernel_rfl) (e_call (vs:=[s1.v,(.agg #[(iV p_a.Level),s2.v,s3.v,(iV p_a.Sum)])]) hF hS rfl Tryz.func46 (by kernel_rfl) rfl rfl rfl (c_spec_nNormal p_s p_a t_20 ht_20 _ m hS.vis s1 h1 s2 h2 s3 h3) ?_)
    rintro a w _ ⟨q22,q23,s22,s23,rfl,hR21,h22,h23⟩ hF hS2
    have hS : St _ _ _ _ [q22,q23,[⟨b29,[(iV 0),nilS.v,nilS.v,(iV 0)],29⟩],[⟨b28,[(iV 0),nilS.v,nilS.v,(iV 0)],29⟩],[⟨b7,[(iV p_b.Level),s4.v,s5.v,(iV p_b.Sum)],29⟩],[⟨b6,[(iV p_a.Level),s2.v,s3.v,(iV p_a.Sum)],29⟩]]:=hS.joinF hR21
    refine e_one 5 (by kernel_rfl) (e_call (vs:=[s1.v,(.agg #[(iV p_b.Level),s4.v,s5.v,(iV p_b.Sum)])]) hF hS rfl Tryz.func46 (by kernel_rfl) rfl rfl rfl (c_spec_nNormal p_s p_b t_24 ht_24 _ m hS.vis s1 h1 s4 h4 s5 h5) ?_)
    rintro a w _ ⟨q26,q27,s26,s27,rfl,hR25,h26,h27⟩ hF hS2
    have hS : St _ _ _ _ [q26,q27,q22,q23,[⟨b29,[(iV 0),nilS.v,nilS.v,(iV 0)],29⟩],[⟨b28,[(iV 0),nilS.v,nilS.v,(iV 0)],29⟩],[⟨b7,[(iV p_b.Level),s4.v,s5.v,(iV p_b.Sum)],29⟩],[⟨b6,[(iV p_a.Level),s2.v,s3.v,(iV p_a.Sum)],29⟩]]:=hS.joinF hR25
    refine e_one 8 (by kernel_rfl) ?_
    have hSo:=hS
    refine e_store (vs:=[(iV t_20.Level),s22.v,s23.v,(iV t_20.Sum)]) (cs':=[(iV t_20.Level),s22.v,s23.v,(iV t_20.Sum)]) 5 0 hF hS rfl rfl sz29 rfl rfl rfl rfl rfl rfl rfl rfl fun a w hF hS=>⟨kpC hSo hS 7 7 rfl rfl (kpC hSo hS 6 6 rfl rfl kpN),?_⟩
    refine e_one 9 (by kernel_rfl) ?_
    have hSo:=hS
    refine e_store (vs:=[(iV t_24.Level),s26.v,s27.v,(iV t_24.Sum)]) (cs':=[(iV t_24.Level),s26.v,s27.v,(iV t_24.Sum)]) 4 0 hF hS rfl rfl sz29 rfl rfl rfl rfl rfl rfl rfl rfl fun a w hF hS=>⟨kpC hSo hS 7 7 rfl rfl (kpC hSo hS 6 6 rfl rfl kpN),?_⟩
    refine e_end (by kernel_rfl) (n_jn ?_) _
    obtain rfl:=someI hj1
    exact ⟨b29,b28,q26,s26,q27,s27,q22,s22,q23,s23,_,_,rfl,hF.sub ⟨rfl,rfl,trivial⟩,hS.mask [true,true,true,true,true,true,false,false],h26,h27,h22,h23⟩
  ·refine e_alloc (cs:=[(iV 0),nilS.v,nilS.v,(iV 0)]) hF hS rfl rfl rfl rfl fun a w b29 hF hS=>e_all [2,6] (by kernel_rfl) rfl ⟨?_,?_,trivial⟩
   ·refine e_call (vs:=[s1.v,(.agg #[(iV p_a.Level),s2.v,s3.v,(iV p_a.Sum)])]) hF hS rfl Tryz.func46 (by kernel_rfl) rfl rfl rfl (c_spec_nNormal p_s p_a t_20 ht_20 _ m hS.vis s1 h1 s2 h2 s3 h3) ?_
    rintro a w _ ⟨q22,q23,s22,s23,rfl,hR21,h22,h23⟩ hF hS2
    have hS : St _ _ _ _ [q22,q23,[⟨b29,[(iV 0),nilS.v,nilS.v,(iV 0)],29⟩],[⟨b7,[(iV p_b.Level),s4.v,s5.v,(iV p_b.Sum)],29⟩],[⟨b6,[(iV p_a.Level),s2.v,s3.v,(iV p_a.Sum)],29⟩]]:=hS.joinF hR21
    refine e_all [5,6] (by kernel_rfl) rfl ⟨?_,?_,trivial⟩
    ·refine e_call (vs:=[s1.v,(.agg #[(iV p_b.Level),s4.v,s5.v,(iV p_b.Sum)])]) hF hS rfl Tryz.func46 (by kernel_rfl) rfl rfl rfl (c_spec_nNormal p_s p_b t_24 ht_24 _ m hS.vis s1 h1 s4 h4 s5 h5) ?_
     rintro a w _ ⟨q26,q27,s26,s27,rfl,hR25,h26,h27⟩ hF hS2
     have hS : St _ _ _ _ [q26,q27,q22,q23,[⟨b29,[(iV 0),nilS.v,nilS.v,(iV 0)],29⟩],[⟨b7,[(iV p_b.Level),s4.v,s5.v,(iV p_b.Sum)],29⟩],[⟨b6,[(iV p_a.Level),s2.v,s3.v,(iV p_a.Sum)],29⟩]]:=hS.joinF hR25
     refine e_one 6 (by kernel_rfl) (e_alloc (cs:=[(iV 0),nilS.v,nilS.v,(iV 0)]) hF hS rfl rfl rfl rfl fun a w b28 hF hS=>e_one 8 (by kernel_rfl) ?_)
     have hSo:=hS
     refine e_store (vs:=[(iV t_20.Level),s22.v,s23.v,(iV t_20.Sum)]) (cs':=[(iV t_20.Level),s22.v,s23.v,(iV t_20.Sum)]) 0 0 hF hS rfl rfl sz29 rfl rfl rfl rfl rfl rfl rfl rfl fun a w hF hS=>⟨kpC hSo hS 7 7 rfl rfl (kpC hSo hS 6 6 rfl rfl kpN),?_⟩
     refine e_one 9 (by kernel_rfl) ?_
     have hSo:=hS
     refine e_store (vs:=[(iV t_24.Level),s26.v,s27.v,(iV t_24.Sum)]) (cs':=[(iV t_24.Level),s26.v,s27.v,(iV t_24.Sum)]) 5 0 hF hS rfl rfl sz29 rfl rfl rfl rfl rfl rfl rfl rfl fun a w hF hS=>⟨kpC hSo hS 7 7 rfl rfl (kpC hSo hS 6 6 rfl rfl kpN),?_⟩
     refine e_end (by kernel_rfl) (n_jn ?_) _
     obtain rfl:=someI hj1
     exact ⟨b29,b28,q26,s26,q27,s27,q22,s22,q23,s23,_,_,rfl,hF.sub ⟨rfl,rfl,trivial⟩,hS.sel [1,2,3,4,5,0] (by decide),h26,h27,h22,h23⟩
    ·refine e_alloc (cs:=[(iV 0),nilS.v,nilS.v,(iV 0)]) hF hS rfl rfl rfl rfl fun a w b28 hF hS=>e_one 5 (by kernel_rfl) (e_call (vs:=[s1.v,(.agg #[(iV p_b.Level),s4.v,s5.v,(iV p_b.Sum)])]) hF hS rfl Tryz.func46 (by kernel_rfl) rfl rfl rfl (c_spec_nNormal p_s p_b t_24 ht_24 _ m hS.vis s1 h1 s4 h4 s5 h5) ?_)
     rintro a w _ ⟨q26,q27,s26,s27,rfl,hR25,h26,h27⟩ hF hS2
     have hS : St _ _ _ _ [q26,q27,[⟨b28,[(iV 0),nilS.v,nilS.v,(iV 0)],29⟩],q22,q23,[⟨b29,[(iV 0),nilS.v,nilS.v,(iV 0)],29⟩],[⟨b7,[(iV p_b.Level),s4.v,s5.v,(iV p_b.Sum)],29⟩],[⟨b6,[(iV p_a.Level),s2.v,s3.v,(iV p_a.Sum)],29⟩]]:=hS.joinF hR25
     refine e_one 8 (by kernel_rfl) ?_
     have hSo:=hS
     refine e_store (vs:=[(iV t_20.Level),s22.v,s23.v,(iV t_20.Sum)]) (cs':=[(iV t_20.Level),s22.v,s23.v,(iV t_20.Sum)]) 2 0 hF hS rfl rfl sz29 rfl rfl rfl rfl rfl rfl rfl rfl fun a w hF hS=>⟨kpC hSo hS 7 7 rfl rfl (kpC hSo hS 6 6 rfl rfl kpN),?_⟩
     refine e_one 9 (by kernel_rfl) ?_
     have hSo:=hS
     refine e_store (vs:=[(iV t_24.Level),s26.v,s27.v,(iV t_24.Sum)]) (cs':=[(iV t_24.Level),s26.v,s27.v,(iV t_24.Sum)]) 5 0 hF hS rfl rfl sz29 rfl rfl rfl rfl rfl rfl rfl rfl fun a w hF hS=>⟨kpC hSo hS 7 7 rfl rfl (kpC hSo hS 6 6 rfl rfl kpN),?_⟩
     refine e_end (by kernel_rfl) (n_jn ?_) _
     obtain rfl:=someI hj1
     exact ⟨b29,b28,q26,s26,q27,s27,q22,s22,q23,s23,_,_,rfl,hF.sub ⟨rfl,rfl,trivial⟩,hS.sel [0,1,3,4,5,2] (by decide),h26,h27,h22,h23⟩
   ·refine e_alloc (cs:=[(iV 0),nilS.v,nilS.v,(iV 0)]) hF hS rfl rfl rfl rfl fun a w b28 hF hS=>e_one 2 (by kernel_rfl) (e_call (vs:=[s1.v,(.agg #[(iV p_a.Level),s2.v,s3.v,(iV p_a.Sum)])]) hF hS rfl Tryz.func46 (by kernel_rfl) rfl rfl rfl (c_spec_nNormal p_s p_a t_20 ht_20 _ m hS.vis s1 h1 s2 h2 s3 h3) ?_)
    rintro a w _ ⟨q22,q23,s22,s23,rfl,hR21,h22,h23⟩ hF hS2
    have hS : St _ _ _ _ [q22,q23,[⟨b28,[(iV 0),nilS.v,nilS.v,(iV 0)],29⟩],[⟨b29,[(iV 0),nilS.v,nilS.v,(iV 0)],29⟩],[⟨b7,[(iV p_b.Level),s4.v,s5.v,(iV p_b.Sum)],29⟩],[⟨b6,[(iV p_a.Level),s2.v,s3.v,(iV p_a.Sum)],29⟩]]:=hS.joinF hR21
    refine e_one 5 (by kernel_rfl) (e_call (vs:=[s1.v,(.agg #[(iV p_b.Level),s4.v,s5.v,(iV p_b.Sum)])]) hF hS rfl Tryz.func46 (by kernel_rfl) rfl rfl rfl (c_spec_nNormal p_s p_b t_24 ht_24 _ m hS.vis s1 h1 s4 h4 s5 h5) ?_)
    rintro a w _ ⟨q26,q27,s26,s27,rfl,hR25,h26,h27⟩ hF hS2
    have hS : St _ _ _ _ [q26,q27,q22,q23,[⟨b28,[(iV 0),nilS.v,nilS.v,(iV 0)],29⟩],[⟨b29,[(iV 0),nilS.v,nilS.v,(iV 0)],29⟩],[⟨b7,[(iV p_b.Level),s4.v,s5.v,(iV p_b.Sum)],29⟩],[⟨b6,[(iV p_a.Level),s2.v,s3.v,(iV p_a.Sum)],29⟩]]:=hS.joinF hR25
    refine e_one 8 (by kernel_rfl) ?_
    have hSo:=hS
    refine e_store (vs:=[(iV t_20.Level),s22.v,s23.v,(iV t_20.Sum)]) (cs':=[(iV t_20.Level),s22.v,s23.v,(iV t_20.Sum)]) 4 0 hF hS rfl rfl sz29 rfl rfl rfl rfl rfl rfl rfl rfl fun a w hF hS=>⟨kpC hSo hS 7 7 rfl rfl (kpC hSo hS 6 6 rfl rfl kpN),?_⟩
    refine e_one 9 (by kernel_rfl) ?_
    have hSo:=hS
    refine e_store (vs:=[(iV t_24.Level),s26.v,s27.v,(iV t_24.Sum)]) (cs':=[(iV t_24.Level),s26.v,s27.v,(iV t_24.Sum)]) 5 0 hF hS rfl rfl sz29 rfl rfl rfl rfl rfl rfl rfl rfl fun a w hF hS=>⟨kpC hSo hS 7 7 rfl rfl (kpC hSo hS 6 6 rfl rfl kpN),?_⟩
    refine e_end (by kernel_rfl) (n_jn ?_) _
    obtain rfl:=someI hj1
    exact ⟨b29,b28,q26,s26,q27,s27,q22,s22,q23,s23,_,_,rfl,hF.sub ⟨rfl,rfl,trivial⟩,hS.sel [0,1,2,3,5,4] (by decide),h26,h27,h22,h23⟩
 ·rintro a w ⟨b29,b28,q31,s31,q32,s32,q34,s34,q35,s35,y_30,x_33,rfl,hF,hS,h31,h32,h34,h35⟩
  refine n_sq ?_
  refine q_seq ?_
  obtain ⟨t_40,hj2,hr⟩:=bindS hr
  refine q_join (fun a w=>Fr a 41 [(6,(.bool t_40))]∧St [] w0 w m []) ?_ ?_
  ·refine q_region (q_x (v:=(.pointer (some ⟨b28,0,none⟩))) hF hS (ex_fieldAddr Tryz.underlying29 rfl sz3 rfl rfl) rfl rfl fun a hF=>q_x (v:=(iV x_33.Level)) hF hS (ex_load1 5 0 Tryz.underlying3 rfl rfl rfl rfl) rfl rfl fun a hF=>q_x (v:=(.pointer (some ⟨b29,0,none⟩))) hF hS (ex_fieldAddr Tryz.underlying29 rfl sz3 rfl rfl) rfl rfl fun a hF=>q_x (v:=(iV y_30.Level)) hF hS (ex_load1 4 0 Tryz.underlying3 rfl rfl rfl rfl) rfl rfl fun a hF=>q_x (v:=(.bool (x_33.Level == y_30.Level))) hF hS (ex_ibin rfl rfl rfl) rfl rfl fun a hF=>q_x (v:=(.bool (x_33.Level == y_30.Level))) hF hS (ex_move rfl) rfl rfl fun a hF=>?_)
   rcases bcase (x_33.Level == y_30.Level) with hc3 | hc3
   ·have hj2:=cond_f hc3 hj2
    refine q_skip hF (wanted_f hF rfl rfl rfl hc3 rfl) rfl fun a hF=>q_skip hF (wanted_f hF rfl rfl rfl hc3 rfl) rfl fun a hF=>q_skip hF (wanted_f hF rfl rfl rfl hc3 rfl) rfl fun a hF=>q_skip hF (wanted_f hF rfl rfl rfl hc3 rfl) rfl fun a hF=>q_skip hF (wanted_f hF rfl rfl rfl hc3 rfl) rfl fun a hF=>q_x (v:=(.bool false)) hF hS (ex_pick_f rfl rfl hc3) rfl rfl fun a hF=>q_x (v:=(.bool false)) hF hS (ex_move rfl) rfl rfl fun a hF=>q_skip hF (wanted_f hF rfl rfl rfl rfl rfl) rfl fun a hF=>q_skip hF (wanted_f hF rfl rfl rfl rfl rfl) rfl fun a hF=>q_skip hF (wanted_f hF rfl rfl rfl rfl rfl) rfl fun a hF=>q_skip hF (wanted_f hF rfl rfl rfl rfl rfl) rfl fun a hF=>q_skip hF (wanted_f hF rfl rfl rfl rfl rfl) rfl fun a hF=>q_x (v:=(.bool false)) hF hS (ex_pick_f rfl rfl rfl) rfl rfl fun a hF=>q_x (v:=(.bool false)) hF hS (ex_move rfl) rfl rfl fun a hF=>q_skip hF (wanted_f hF rfl rfl rfl rfl rfl) rfl fun a hF=>q_skip hF (wanted_f hF rfl rfl rfl rfl rfl) rfl fun a hF=>q_skip hF (wanted_f hF rfl rfl rfl rfl rfl) rfl fun a hF=>q_skip hF (wanted_f hF rfl rfl rfl rfl rfl) rfl fun a hF=>q_skip hF (wanted_f hF rfl rfl rfl rfl rfl) rfl fun a hF=>q_x (v:=(.bool false)) hF hS (ex_pick_f rfl rfl rfl) rfl rfl fun a hF=>q_x (v:=(.bool false)) hF hS (ex_assign rfl) rfl rfl fun a hF=>q_end (n_jn ?_)
    obtain rfl:=someI hj2
    exact ⟨hF.sub ⟨rfl,trivial⟩,hS.mask [false,false,false,false,false,false]⟩
   ·have hj2:=cond_t hc3 hj2
    refine q_xg (v:=(.pointer (some ⟨b28,1,none⟩))) hF hS (ex_fieldAddr Tryz.underlying29 rfl sz24 rfl rfl) (wanted_t hF rfl rfl rfl hc3) rfl fun a hF=>q_xg (v:=s34.v) hF hS (ex_load1 5 0 Tryz.underlying24 rfl rfl rfl rfl) (wanted_t hF rfl rfl rfl hc3) rfl fun a hF=>q_xg (v:=(.pointer (some ⟨b29,1,none⟩))) hF hS (ex_fieldAddr Tryz.underlying29 rfl sz24 rfl rfl) (wanted_t hF rfl rfl rfl hc3) rfl fun a hF=>q_xg (v:=s31.v) hF hS (ex_load1 4 0 Tryz.underlying24 rfl rfl rfl rfl) (wanted_t hF rfl rfl rfl hc3) rfl fun a hF=>?_
    obtain ⟨m37,hl37,hv37,hz37⟩:=hS.lend
    obtain ⟨t_36,ht_36,hj2⟩:=bindS hj2
    refine q_callg (vs:=[s34.v,s31.v]) hF hS (wanted_t hF rfl rfl rfl hc3) Tryz.func95 (by kernel_rfl) rfl rfl rfl (c_spec_l1Same x_33.Vars y_30.Vars t_36 ht_36 _ m37 hv37 s34 (h34.froz hl37 (hz37 2 _ rfl)) s31 (h31.froz hl37 (hz37 0 _ rfl))) ?_
    rintro a w _ rfl hF hS
    refine q_x (v:=(.bool t_36)) hF hS (ex_pick_t rfl rfl hc3) rfl rfl fun a hF=>q_x (v:=(.bool t_36)) hF hS (ex_move rfl) rfl rfl fun a hF=>?_
    rcases bcase (t_36) with hc4 | hc4
    ·have hj2:=cond_f hc4 hj2
     refine q_skip hF (wanted_f hF rfl rfl rfl hc4 rfl) rfl fun a hF=>q_skip hF (wanted_f hF rfl rfl rfl hc4 rfl) rfl fun a hF=>q_skip hF (wanted_f hF rfl rfl rfl hc4 rfl) rfl fun a hF=>q_skip hF (wanted_f hF rfl rfl rfl hc4 rfl) rfl fun a hF=>q_skip hF (wanted_f hF rfl rfl rfl hc4 rfl) rfl fun a hF=>q_x (v:=(.bool false)) hF hS (ex_pick_f rfl rfl hc4) rfl rfl fun a hF=>q_x (v:=(.bool false)) hF hS (ex_move rfl) rfl rfl fun a hF=>q_skip hF (wanted_f hF rfl rfl rfl rfl rfl) rfl fun a hF=>q_skip hF (wanted_f hF rfl rfl rfl rfl rfl) rfl fun a hF=>q_skip hF (wanted_f hF rfl rfl rfl rfl rfl) rfl fun a hF=>q_skip hF (wanted_f hF rfl rfl rfl rfl rfl) rfl fun a hF=>q_skip hF (wanted_f hF rfl rfl rfl rfl rfl) rfl fun a hF=>q_x (v:=(.bool false)) hF hS (ex_pick_f rfl rfl rfl) rfl rfl fun a hF=>q_x (v:=(.bool false)) hF hS (ex_assign rfl) rfl rfl fun a hF=>q_end (n_jn ?_)
     obtain rfl:=someI hj2
     exact ⟨hF.sub ⟨rfl,trivial⟩,hS.mask [false,false,false,false,false,false]⟩
    ·have hj2:=cond_t hc4 hj2
     refine q_xg (v:=(.pointer (some ⟨b28,2,none⟩))) hF hS (ex_fieldAddr Tryz.underlying29 rfl sz24 rfl rfl) (wanted_t hF rfl rfl rfl hc4) rfl fun a hF=>q_xg (v:=s35.v) hF hS (ex_load1 5 0 Tryz.underlying24 rfl rfl rfl rfl) (wanted_t hF rfl rfl rfl hc4) rfl fun a hF=>q_xg (v:=(.pointer (some ⟨b29,2,none⟩))) hF hS (ex_fieldAddr Tryz.underlying29 rfl sz24 rfl rfl) (wanted_t hF rfl rfl rfl hc4) rfl fun a hF=>q_xg (v:=s32.v) hF hS (ex_load1 4 0 Tryz.underlying24 rfl rfl rfl rfl) (wanted_t hF rfl rfl rfl hc4) rfl fun a hF=>?_
     obtain ⟨m39,hl39,hv39,hz39⟩:=hS.lend
     obtain ⟨t_38,ht_38,hj2⟩:=bindS hj2
     refine q_callg (vs:=[s35.v,s32.v]) hF hS (wanted_t hF rfl rfl rfl hc4) Tryz.func95 (by kernel_rfl) rfl rfl rfl (c_spec_l1Same x_33.Where y_30.Where t_38 ht_38 _ m39 hv39 s35 (h35.froz hl39 (hz39 3 _ rfl)) s32 (h32.froz hl39 (hz39 1 _ rfl))) ?_
     rintro a w _ rfl hF hS
     refine q_x (v:=(.bool t_38)) hF hS (ex_pick_t rfl rfl hc4) rfl rfl fun a hF=>q_x (v:=(.bool t_38)) hF hS (ex_move rfl) rfl rfl fun a hF=>?_
     rcases bcase (t_38) with hc5 | hc5
     ·have hj2:=cond_f hc5 hj2
      refine q_skip hF (wanted_f hF rfl rfl rfl hc5 rfl) rfl fun a hF=>q_skip hF (wanted_f hF rfl rfl rfl hc5 rfl) rfl fun a hF=>q_skip hF (wanted_f hF rfl rfl rfl hc5 rfl) rfl fun a hF=>q_skip hF (wanted_f hF rfl rfl rfl hc5 rfl) rfl fun a hF=>q_skip hF (wanted_f hF rfl rfl rfl hc5 rfl) rfl fun a hF=>q_x (v:=(.bool false)) hF hS (ex_pick_f rfl rfl hc5) rfl rfl fun a hF=>q_x (v:=(.bool false)) hF hS (ex_assign rfl) rfl rfl fun a hF=>q_end (n_jn ?_)
      obtain rfl:=someI hj2
      exact ⟨hF.sub ⟨rfl,trivial⟩,hS.mask [false,false,false,false,false,false]⟩
     ·have hj2:=cond_t hc5 hj2
      refine q_xg (v:=(.pointer (some ⟨b28,3,none⟩))) hF hS (ex_fieldAddr Tryz.underlying29 rfl sz3 rfl rfl) (wanted_t hF rfl rfl rfl hc5) rfl fun a hF=>q_xg (v:=(iV x_33.Sum)) hF hS (ex_load1 5 0 Tryz.underlying3 rfl rfl rfl rfl) (wanted_t hF rfl rfl rfl hc5) rfl fun a hF=>q_xg (v:=(.pointer (some ⟨b29,3,none⟩))) hF hS (ex_fieldAddr Tryz.underlying29 rfl sz3 rfl rfl) (wanted_t hF rfl rfl rfl hc5) rfl fun a hF=>q_xg (v:=(iV y_30.Sum)) hF hS (ex_load1 4 0 Tryz.underlying3 rfl rfl rfl rfl) (wanted_t hF rfl rfl rfl hc5) rfl fun a hF=>q_xg (v:=(.bool (x_33.Sum == y_30.Sum))) hF hS (ex_ibin rfl rfl rfl) (wanted_t hF rfl rfl rfl hc5) rfl fun a hF=>q_x (v:=(.bool (x_33.Sum == y_30.Sum))) hF hS (ex_pick_t rfl rfl hc5) rfl rfl fun a hF=>q_x (v:=(.bool (x_33.Sum == y_30.Sum))) hF hS (ex_assign rfl) rfl rfl fun a hF=>q_end (n_jn ?_)
      obtain rfl:=someI hj2
      exact ⟨hF.sub ⟨rfl,trivial⟩,hS.mask [false,false,false,false,false,false]⟩
  ·rintro a w ⟨hF,hS⟩
   refine n_sq (q_ret ?_)
   obtain rfl:=someI hr
   exact ret_of hF hS rfl (.tmp rfl .nil) rfl

theorem c_spec_SameMeaning (p_g : impl_Geo) (p_s : List impl_Variable) (p_a : impl_Table) (p_b : impl_Table) (r : Bool × Bool) (hr : spec_SameMeaning p_g p_s p_a p_b = some r) (w0 : World) (m : Mem) (hv : Vis m w0) (s1 : Sl) (h1 : Rd m s1 p_g.Parents) (s2 : Sl) (h2 : Rd m s2 p_s) (s3 : Sl) (h3 : Rd m s3 p_a.Vars) (s4 : Sl) (h4 : Rd m s4 p_a.Where) (s5 : Sl) (h5 : Rd m s5 p_b.Vars) (s6 : Sl) (h6 : Rd m s6 p_b.Where) :
  Ret Tryz.prog 16 [(.agg #[s1.v]),s2.v,(.agg #[(iV p_a.Level),s3.v,s4.v,(iV p_a.Sum)]),(.agg #[(iV p_b.Level),s5.v,s6.v,(iV p_b.Sum)])] w0 (fun v _=>v = (.tuple #[(.bool r.1),(.bool r.2)])):=by
 unfold spec_SameMeaning at hr
 refine ret_start Tryz.func16 rfl 26 rfl rfl m hv fun a hF hS=>q_seq (q_region (q_box (cs:=[s1.v]) hF hS rfl rfl rfl fun a w b7 hF hS=>q_box (cs:=[(iV p_a.Level),s3.v,s4.v,(iV p_a.Sum)]) hF hS rfl rfl rfl fun a w b8 hF hS=>q_box (cs:=[(iV p_b.Level),s5.v,s6.v,(iV p_b.Sum)]) hF hS rfl rfl rfl fun a w b9 hF hS=>q_x (v:=(.bool false)) hF hS (ex_assign rfl) rfl rfl fun a hF=>q_x (v:=(.bool false)) hF hS (ex_assign rfl) rfl rfl fun a hF=>q_end (n_sq (q_seq (q_seq ?_)))))
 obtain ⟨t_12,hj1,hr⟩:=bindS hr
 refine q_join (fun a w=>Fr a 26 [(1,s2.v),(6,(.pointer (some ⟨b8,0,none⟩))),(7,(.pointer (some ⟨b9,0,none⟩))),(21,(.bool t_12))]∧St [] w0 w m [[⟨b9,[(iV p_b.Level),s5.v,s6.v,(iV p_b.Sum)],29⟩],[⟨b8,[(iV p_a.Level),s3.v,s4.v,(iV p_a.Sum)],29⟩]]) ?_ ?_
 ·refine q_region (q_x (v:=(.agg #[s1.v])) hF hS (ex_loadA (vs:=[s1.v]) 2 0 Tryz.underlying26 rfl sz26 rfl rfl rfl rfl) rfl rfl fun a hF=>q_x (v:=s2.v) hF hS (ex_move rfl) rfl rfl fun a hF=>q_x (v:=(.agg #[(iV p_a.Level),s3.v,s4.v,(iV p_a.Sum)])) hF hS (ex_loadA (vs:=[(iV p_a.Level),s3.v,s4.v,(iV p_a.Sum)]) 1 0 Tryz.underlying29 rfl sz29 rfl rfl rfl rfl) rfl rfl fun a hF=>?_)
  obtain ⟨t_10,ht_10,hj1⟩:=bindS hj1
  refine q_call (vs:=[(.agg #[s1.v]),s2.v,(.agg #[(iV p_a.Level),s3.v,s4.v,(iV p_a.Sum)])]) hF hS Tryz.func32 (by kernel_rfl) rfl rfl rfl (c_spec_uGood p_g p_s p_a t_10 ht_10 _ m hS.vis s1 h1 s2 h2 s3 h3 s4 h4) ?_
  rintro a w _ rfl hF hS
  refine q_x (v:=(.bool (!t_10))) hF hS (ex_not rfl) rfl rfl fun a hF=>q_x (v:=(.bool (!t_10))) hF hS (ex_move rfl) rfl rfl fun a hF=>?_
  rcases bcase (!t_10) with hc2 | hc2
  ·have hj1:=cond_f hc2 hj1
   refine q_xg (v:=(.agg #[s1.v])) hF hS (ex_loadA (vs:=[s1.v]) 2 0 Tryz.underlying26 rfl sz26 rfl rfl rfl rfl) (wanted_t hF rfl rfl rfl hc2) rfl fun a hF=>q_xg (v:=s2.v) hF hS (ex_move rfl) (wanted_t hF rfl rfl rfl hc2) rfl fun a hF=>q_xg (v:=(.agg #[(iV p_b.Level),s5.v,s6.v,(iV p_b.Sum)])) hF hS (ex_loadA (vs:=[(iV p_b.Level),s5.v,s6.v,(iV p_b.Sum)]) 0 0 Tryz.underlying29 rfl sz29 rfl rfl rfl rfl) (wanted_t hF rfl rfl rfl hc2) rfl fun a hF=>?_
   obtain ⟨t_11,ht_11,hj1⟩:=bindS hj1
   refine q_callg (vs:=[(.agg #[s1.v]),s2.v,(.agg #[(iV p_b.Level),s5.v,s6.v,(iV p_b.Sum)])]) hF hS (wanted_t hF rfl rfl rfl hc2) Tryz.func32 (by kernel_rfl) rfl rfl rfl (c_spec_uGood p_g p_s p_b t_11 ht_11 _ m hS.vis s1 h1 s2 h2 s5 h5 s6 h6) ?_
   rintro a w _ rfl hF hS
   refine q_xg (v:=(.bool (!t_11))) hF hS (ex_not rfl) (wanted_t hF rfl rfl rfl hc2) rfl fun a hF=>q_x (v:=(.bool (!t_11))) hF hS (ex_pick_f rfl rfl hc2) rfl rfl fun a hF=>q_end (n_jn ?_)
   obtain rfl:=someI hj1
   exact ⟨hF.sub ⟨rfl,rfl,rfl,rfl,trivial⟩,hS.mask [true,true,false]⟩
  ·have hj1:=cond_t hc2 hj1
   refine q_skip hF (wanted_f hF rfl rfl rfl hc2 rfl) rfl fun a hF=>q_skip hF (wanted_f hF rfl rfl rfl hc2 rfl) rfl fun a hF=>q_skip hF (wanted_f hF rfl rfl rfl hc2 rfl) rfl fun a hF=>q_skip hF (wanted_f hF rfl rfl rfl hc2 rfl) rfl fun a hF=>q_skip hF (wanted_f hF rfl rfl rfl hc2 rfl) rfl fun a hF=>q_x (v:=(.bool true)) hF hS (ex_pick_t rfl rfl hc2) rfl rfl fun a hF=>q_end (n_jn ?_)
   obtain rfl:=someI hj1
   exact ⟨hF.sub ⟨rfl,rfl,rfl,rfl,trivial⟩,hS.mask [true,true,false]⟩
 ·rintro a w ⟨hF,hS⟩
  refine n_sq ?_
  rcases bcase (t_12) with hc3 | hc3
  ·have hr:=cond_f hc3 hr
   refine q_cond_f hF rfl hc3 (q_skipc (n_sq (q_seq (q_region (q_x (v:=s2.v) hF hS (ex_move rfl) rfl rfl fun a hF=>q_x (v:=(.agg #[(iV p_a.Level),s3.v,s4.v,(iV p_a.Sum)])) hF hS (ex_loadA (vs:=[(iV p_a.Level),s3.v,s4.v,(iV p_a.Sum)]) 1 0 Tryz.underlying29 rfl sz29 rfl rfl rfl rfl) rfl rfl fun a hF=>q_x (v:=(.agg #[(iV p_b.Level),s5.v,s6.v,(iV p_b.Sum)])) hF hS (ex_loadA (vs:=[(iV p_b.Level),s5.v,s6.v,(iV p_b.Sum)]) 0 0 Tryz.underlying29 rfl sz29 rfl rfl rfl rfl) rfl rfl fun a hF=>?_)))))
   obtain ⟨t_13,ht_13,hr⟩:=bindS hr
   refine q_call (vs:=[s2.v,(.agg #[(iV p_a.Level),s3.v,s4.v,(iV p_a.Sum)]),(.agg #[(iV p_b.Level),s5.v,s6.v,(iV p_b.Sum)])]) hF hS Tryz.func47 (by kernel_rfl) rfl rfl rfl (c_spec_nSame p_s p_a p_b t_13 ht_13 _ m hS.vis s2 h2 s3 h3 s4 h4 s5 h5 s6 h6) ?_
   rintro a w _ rfl hF hS
   refine q_x (v:=(.bool t_13)) hF hS (ex_assign rfl) rfl rfl fun a hF=>q_x (v:=(.bool true)) hF hS (ex_assign rfl) rfl rfl fun a hF=>q_end (n_sq (q_ret ?_))
   obtain rfl:=someI hr
   exact ret_of hF hS rfl (.tmp rfl (.tmp rfl .nil)) rfl
  ·have hr:=cond_t hc3 hr
   refine q_cond_t hF rfl hc3 (q_seq (q_region (q_x (v:=(.bool false)) hF hS (ex_assign rfl) rfl rfl fun a hF=>q_x (v:=(.bool false)) hF hS (ex_assign rfl) rfl rfl fun a hF=>q_end (n_sq (q_ret (r_sq ?_))))))
   obtain rfl:=someI hr
   exact ret_of hF hS rfl (.tmp rfl (.tmp rfl .nil)) rfl

theorem c_laws_FnTableTexts (p_code : List (K .u8)) (p_more : List (K .u8)) (r : Bool) (hr : laws_FnTableTexts p_code p_more = some r) (w0 : World) (m : Mem) (hv : Vis m w0) (ht : Tbl m) (s1 : Sl) (h1 : Rd m s1 p_code) (s2 : Sl) (h2 : Rd m s2 p_more) :
  Ret Tryz.prog 3 [s1.v,s2.v] w0 (fun v _=>v = (.bool r)):=by
 unfold laws_FnTableTexts at hr
 refine ret_start Tryz.func3 rfl 167 rfl rfl m hv fun a hF hS=>q_seq (q_region (q_x (v:=(.bool false)) hF hS (ex_assign rfl) rfl rfl fun a hF=>q_end (n_sq (q_seq (q_seq (q_region (q_x (v:=s1.v) hF hS (ex_move rfl) rfl rfl fun a hF=>q_x (v:=s2.v) hF hS (ex_move rfl) rfl rfl fun a hF=>?_)))))))
 obtain ⟨t_3,ht_3,hr⟩:=bindS hr
 refine q_call (vs:=[s1.v,s2.v]) hF hS Tryz.func5 (by kernel_rfl) rfl rfl rfl (c_laws_big p_code p_more t_3 ht_3 _ m hS.vis s1 h1 s2 h2) ?_
 rintro a w _ rfl hF hS
 refine q_end (n_sq ?_)
 rcases bcase (t_3) with hc1 | hc1
 ·have hr:=cond_f hc1 hr
  refine q_cond_f hF rfl hc1 (q_skipc (n_sq (q_seq (q_region (q_x (v:=s1.v) hF hS (ex_move rfl) rfl rfl fun a hF=>?_)))))
  obtain ⟨t_4,ht_4,hr⟩:=bindS hr
  refine q_call (vs:=[s1.v]) hF hS Tryz.func6 (by kernel_rfl) rfl rfl rfl (c_spec_DrawTableText p_code t_4 ht_4 _ m hS.vis s1 h1) ?_
  have hT:=hS
  rintro a w _ ⟨m5,q6,q8,q9,s6,s7,s8,s9,rfl,hm5,hR5,h6,h7,h8,h9⟩ hF hS2
  have hS : St _ _ _ _ [q6,q8,q9]:=hS.join hR5 hm5
  have hm5:=MLe.weakX (O0:=[]) hT hm5
  refine q_x (v:=(.tuple #[(.agg #[s6.v]),s7.v,(.agg #[(iV t_4.2.2.Level),s8.v,s9.v,(iV t_4.2.2.Sum)])])) hF hS (ex_move rfl) rfl rfl fun a hF=>q_x (v:=(.agg #[s6.v])) hF hS (ex_extract rfl rfl) rfl rfl fun a hF=>q_x (v:=s7.v) hF hS (ex_extract rfl rfl) rfl rfl fun a hF=>q_x (v:=(.agg #[(iV t_4.2.2.Level),s8.v,s9.v,(iV t_4.2.2.Sum)])) hF hS (ex_extract rfl rfl) rfl rfl fun a hF=>q_alloc (cs:=[nilS.v]) hF hS rfl rfl rfl fun a w b10 hF hS=>q_alloc (cs:=[(iV 0),nilS.v,nilS.v,(iV 0)]) hF hS rfl rfl rfl fun a w b11 hF hS=>q_store (vs:=[s6.v]) (cs':=[s6.v]) 1 0 hF hS sz26 rfl rfl rfl rfl rfl rfl rfl rfl fun a w hF hS=>q_x (v:=s7.v) hF hS (ex_assign rfl) rfl rfl fun a hF=>q_store (vs:=[(iV t_4.2.2.Level),s8.v,s9.v,(iV t_4.2.2.Sum)]) (cs':=[(iV t_4.2.2.Level),s8.v,s9.v,(iV t_4.2.2.Sum)]) 0 0 hF hS sz29 rfl rfl rfl rfl rfl rfl rfl rfl fun a w hF hS=>q_end (n_sq (q_seq (q_region (q_x (v:=(.agg #[s6.v])) hF hS (ex_loadA (vs:=[s6.v]) 1 0 Tryz.underlying26 rfl sz26 rfl rfl rfl rfl) rfl rfl fun a hF=>q_x (v:=s7.v) hF hS (ex_move rfl) rfl rfl fun a hF=>q_x (v:=(.agg #[(iV t_4.2.2.Level),s8.v,s9.v,(iV t_4.2.2.Sum)])) hF hS (ex_loadA (vs:=[(iV t_4.2.2.Level),s8.v,s9.v,(iV t_4.2.2.Sum)]) 0 0 Tryz.underlying29 rfl sz29 rfl rfl rfl rfl) rfl rfl fun a hF=>?_))))
  obtain ⟨m13,hl13,hv13,hz13⟩:=hS.lend
  obtain ⟨t_12,ht_12,hr⟩:=bindS hr
  refine q_call (vs:=[(.agg #[s6.v]),s7.v,(.agg #[(iV t_4.2.2.Level),s8.v,s9.v,(iV t_4.2.2.Sum)])]) hF hS Tryz.func7 (by kernel_rfl) rfl rfl rfl (c_impl_TableText t_4.1 t_4.2.1 t_4.2.2 t_12 ht_12 _ m13 hv13 ((ht.mono hm5.le).mono hl13) s6 (h6.froz hl13 (hz13 2 _ rfl)) s7 (h7.mono hl13) s8 (h8.froz hl13 (hz13 3 _ rfl)) s9 (h9.froz hl13 (hz13 4 _ rfl))) ?_
  rintro a w _ rfl hF hS
  refine q_x (v:=(.tuple #[(strV t_12.1),(.bool t_12.2)])) hF hS (ex_move rfl) rfl rfl fun a hF=>q_x (v:=(strV t_12.1)) hF hS (ex_extract rfl rfl) rfl rfl fun a hF=>q_x (v:=(.bool t_12.2)) hF hS (ex_extract rfl rfl) rfl rfl fun a hF=>q_x (v:=(strV t_12.1)) hF hS (ex_assign rfl) rfl rfl fun a hF=>q_x (v:=(.bool t_12.2)) hF hS (ex_assign rfl) rfl rfl fun a hF=>q_end (n_sq (q_seq (q_region (q_x (v:=(.agg #[s6.v])) hF hS (ex_loadA (vs:=[s6.v]) 1 0 Tryz.underlying26 rfl sz26 rfl rfl rfl rfl) rfl rfl fun a hF=>q_x (v:=s7.v) hF hS (ex_move rfl) rfl rfl fun a hF=>q_x (v:=(.agg #[(iV t_4.2.2.Level),s8.v,s9.v,(iV t_4.2.2.Sum)])) hF hS (ex_loadA (vs:=[(iV t_4.2.2.Level),s8.v,s9.v,(iV t_4.2.2.Sum)]) 0 0 Tryz.underlying29 rfl sz29 rfl rfl rfl rfl) rfl rfl fun a hF=>?_))))
  obtain ⟨m15,hl15,hv15,hz15⟩:=hS.lend
  obtain ⟨t_14,ht_14,hr⟩:=bindS hr
  refine q_call (vs:=[(.agg #[s6.v]),s7.v,(.agg #[(iV t_4.2.2.Level),s8.v,s9.v,(iV t_4.2.2.Sum)])]) hF hS Tryz.func8 (by kernel_rfl) rfl rfl rfl (c_spec_TableText t_4.1 t_4.2.1 t_4.2.2 t_14 ht_14 _ m15 hv15 s6 (h6.froz hl15 (hz15 2 _ rfl)) s7 (h7.mono hl15) s8 (h8.froz hl15 (hz15 3 _ rfl)) s9 (h9.froz hl15 (hz15 4 _ rfl))) ?_
  rintro a w _ rfl hF hS
  refine q_x (v:=(.tuple #[(strV t_14.1),(.bool t_14.2)])) hF hS (ex_move rfl) rfl rfl fun a hF=>q_x (v:=(strV t_14.1)) hF hS (ex_extract rfl rfl) rfl rfl fun a hF=>q_x (v:=(.bool t_14.2)) hF hS (ex_extract rfl rfl) rfl rfl fun a hF=>q_x (v:=(strV t_14.1)) hF hS (ex_assign rfl) rfl rfl fun a hF=>q_x (v:=(.bool t_14.2)) hF hS (ex_assign rfl) rfl rfl fun a hF=>q_end (n_sq (q_seq (q_seq ?_)))
  obtain ⟨t_16,hj2,hr⟩:=bindS hr
  refine q_join (fun a w=>Fr a 167 [(1,s2.v),(5,(.pointer (some ⟨b10,0,none⟩))),(6,s7.v),(7,(.pointer (some ⟨b11,0,none⟩))),(8,(strV t_12.1)),(9,(.bool t_12.2)),(63,(.bool t_16))]∧St [] w0 w m5 [q8,q9,q6,[⟨b11,[(iV t_4.2.2.Level),s8.v,s9.v,(iV t_4.2.2.Sum)],29⟩],[⟨b10,[s6.v],26⟩]]) ?_ ?_
  ·refine q_region (q_x (v:=(.bool t_12.2)) hF hS (ex_move rfl) rfl rfl fun a hF=>q_x (v:=(.bool t_14.2)) hF hS (ex_move rfl) rfl rfl fun a hF=>q_x (v:=(.bool (t_12.2 != t_14.2))) hF hS (ex_bne Tryz.underlying4 rfl rfl) rfl rfl fun a hF=>q_x (v:=(.bool (t_12.2 != t_14.2))) hF hS (ex_move rfl) rfl rfl fun a hF=>?_)
   rcases bcase (t_12.2 != t_14.2) with hc3 | hc3
   ·have hj2:=cond_f hc3 hj2
    refine q_xg (v:=(strV t_12.1)) hF hS (ex_move rfl) (wanted_t hF rfl rfl rfl hc3) rfl fun a hF=>q_xg (v:=(strV t_14.1)) hF hS (ex_move rfl) (wanted_t hF rfl rfl rfl hc3) rfl fun a hF=>q_xg (v:=(.bool (t_12.1 != t_14.1))) hF hS (ex_strNe rfl rfl) (wanted_t hF rfl rfl rfl hc3) rfl fun a hF=>q_x (v:=(.bool (t_12.1 != t_14.1))) hF hS (ex_pick_f rfl rfl hc3) rfl rfl fun a hF=>q_end (n_jn ?_)
    obtain rfl:=someI hj2
    exact ⟨hF.sub ⟨rfl,rfl,rfl,rfl,rfl,rfl,rfl,trivial⟩,hS.sel [3,4,2,0,1] (by decide)⟩
   ·have hj2:=cond_t hc3 hj2
    refine q_skip hF (wanted_f hF rfl rfl rfl hc3 rfl) rfl fun a hF=>q_skip hF (wanted_f hF rfl rfl rfl hc3 rfl) rfl fun a hF=>q_skip hF (wanted_f hF rfl rfl rfl hc3 rfl) rfl fun a hF=>q_x (v:=(.bool true)) hF hS (ex_pick_t rfl rfl hc3) rfl rfl fun a hF=>q_end (n_jn ?_)
    obtain rfl:=someI hj2
    exact ⟨hF.sub ⟨rfl,rfl,rfl,rfl,rfl,rfl,rfl,trivial⟩,hS.sel [3,4,2,0,1] (by decide)⟩
  ·rintro a w ⟨hF,hS⟩
   refine n_sq ?_
   rcases bcase (t_16) with hc4 | hc4
   ·have hr:=cond_f hc4 hr
    refine q_cond_f hF rfl hc4 (q_skipc (n_sq (q_seq (q_seq (q_region (q_x (v:=(.bool t_12.2)) hF hS (ex_move rfl) rfl rfl fun a hF=>q_end (n_sq ?_)))))))
    obtain ⟨j5,hj5,hr⟩:=bindS hr
    refine q_join (fun a w=>∃ (m34 : Mem),j5 = .inl ()∧Fr a 167 [(1,s2.v)]∧St [] w0 w m34 []∧MLe [] w0.heap.size m5 m34) ?_ ?_
    ·rcases bcase (t_12.2) with hc6 | hc6
     ·have hj5:=cond_f hc6 hj5
      refine q_cond_f hF rfl hc6 (q_skipc (n_jn ?_))
      obtain rfl:=someI hj5
      exact ⟨m5,rfl,hF.sub ⟨rfl,trivial⟩,hS.mask [false,false,false,false,false],(MLe.refl _ _)⟩
     ·have hj5:=cond_t hc6 hj5
      refine q_cond_t hF rfl hc6 (q_seq (q_region (q_x (v:=(.agg #[s6.v])) hF hS (ex_loadA (vs:=[s6.v]) 4 0 Tryz.underlying26 rfl sz26 rfl rfl rfl rfl) rfl rfl fun a hF=>q_x (v:=s7.v) hF hS (ex_move rfl) rfl rfl fun a hF=>q_x (v:=(strV t_12.1)) hF hS (ex_move rfl) rfl rfl fun a hF=>?_)))
      have hS : St _ _ _ _ [q6,q8,q9,[⟨b11,[(iV t_4.2.2.Level),s8.v,s9.v,(iV t_4.2.2.Sum)],29⟩],[⟨b10,[s6.v],26⟩]]:=hS.sel [2,0,1,3,4] (by decide)
      obtain ⟨m17,hm17,hS,hz17⟩:=hS.freeze
      have h17:=h6.froz hm17.le hz17
      obtain ⟨t_18,ht_18,hj5⟩:=bindS hj5
      refine q_call (vs:=[(.agg #[s6.v]),s7.v,(strV t_12.1)]) hF hS Tryz.func9 (by kernel_rfl) rfl rfl rfl (c_impl_ParseTable t_4.1 t_4.2.1 t_12.1 t_18 ht_18 _ m17 hS.vis ((ht.mono hm5.le).mono hm17.le) s6 h17 s7 (h7.mono hm17.le)) ?_
      have hT:=hS
      rintro a w _ ⟨m19,q20,q21,s20,s21,rfl,hm19,hR19,h20,h21⟩ hF hS2
      have hS : St _ _ _ _ [q20,q21,q8,q9,[⟨b11,[(iV t_4.2.2.Level),s8.v,s9.v,(iV t_4.2.2.Sum)],29⟩],[⟨b10,[s6.v],26⟩]]:=hS.join hR19 hm19
      have hm19:=MLe.weakX (O0:=[]) hT hm19
      refine q_x (v:=(.tuple #[(.agg #[(iV t_18.1.Level),s20.v,s21.v,(iV t_18.1.Sum)]),(.bool t_18.2)])) hF hS (ex_move rfl) rfl rfl fun a hF=>q_x (v:=(.agg #[(iV t_18.1.Level),s20.v,s21.v,(iV t_18.1.Sum)])) hF hS (ex_extract rfl rfl) rfl rfl fun a hF=>q_x (v:=(.bool t_18.2)) hF hS (ex_extract rfl rfl) rfl rfl fun a hF=>q_alloc (cs:=[(iV 0),nilS.v,nilS.v,(iV 0)]) hF hS rfl rfl rfl fun a w b22 hF hS=>q_store (vs:=[(iV t_18.1.Level),s20.v,s21.v,(iV t_18.1.Sum)]) (cs':=[(iV t_18.1.Level),s20.v,s21.v,(iV t_18.1.Sum)]) 0 0 hF hS sz29 rfl rfl rfl rfl rfl rfl rfl rfl fun a w hF hS=>q_x (v:=(.bool t_18.2)) hF hS (ex_assign rfl) rfl rfl fun a hF=>q_end (n_sq (q_seq (q_region (q_x (v:=(.agg #[s6.v])) hF hS (ex_loadA (vs:=[s6.v]) 6 0 Tryz.underlying26 rfl sz26 rfl rfl rfl rfl) rfl rfl fun a hF=>q_x (v:=s7.v) hF hS (ex_move rfl) rfl rfl fun a hF=>q_x (v:=(.agg #[(iV t_4.2.2.Level),s8.v,s9.v,(iV t_4.2.2.Sum)])) hF hS (ex_loadA (vs:=[(iV t_4.2.2.Level),s8.v,s9.v,(iV t_4.2.2.Sum)]) 5 0 Tryz.underlying29 rfl sz29 rfl rfl rfl rfl) rfl rfl fun a hF=>?_))))
      obtain ⟨m24,hl24,hv24,hz24⟩:=hS.lend
      obtain ⟨t_23,ht_23,hj5⟩:=bindS hj5
      refine q_call (vs:=[(.agg #[s6.v]),s7.v,(.agg #[(iV t_4.2.2.Level),s8.v,s9.v,(iV t_4.2.2.Sum)])]) hF hS Tryz.func10 (by kernel_rfl) rfl rfl rfl (c_impl_NormalTable t_4.1 t_4.2.1 t_4.2.2 t_23 ht_23 _ m24 hv24 s6 ((h17.mono hm19.le).mono hl24) s7 (((h7.mono hm17.le).mono hm19.le).mono hl24) s8 (((h8.mono hm17.le).mono hm19.le).froz hl24 (hz24 3 _ rfl)) s9 (((h9.mono hm17.le).mono hm19.le).froz hl24 (hz24 4 _ rfl))) ?_
      rintro a w _ ⟨q26,q27,s26,s27,rfl,hR25,h26,h27⟩ hF hS2
      have hS : St _ _ _ _ [q26,q27,[⟨b22,[(iV t_18.1.Level),s20.v,s21.v,(iV t_18.1.Sum)],29⟩],q20,q21,q8,q9,[⟨b11,[(iV t_4.2.2.Level),s8.v,s9.v,(iV t_4.2.2.Sum)],29⟩],[⟨b10,[s6.v],26⟩]]:=hS.joinF hR25
      have h26:=h26.any m19
      have h27:=h27.any m19
      refine q_x (v:=(.tuple #[(.agg #[(iV t_23.1.Level),s26.v,s27.v,(iV t_23.1.Sum)]),(.bool t_23.2)])) hF hS (ex_move rfl) rfl rfl fun a hF=>q_x (v:=(.agg #[(iV t_23.1.Level),s26.v,s27.v,(iV t_23.1.Sum)])) hF hS (ex_extract rfl rfl) rfl rfl fun a hF=>q_x (v:=(.bool t_23.2)) hF hS (ex_extract rfl rfl) rfl rfl fun a hF=>q_alloc (cs:=[(iV 0),nilS.v,nilS.v,(iV 0)]) hF hS rfl rfl rfl fun a w b28 hF hS=>q_store (vs:=[(iV t_23.1.Level),s26.v,s27.v,(iV t_23.1.Sum)]) (cs':=[(iV t_23.1.Level),s26.v,s27.v,(iV t_23.1.Sum)]) 0 0 hF hS sz29 rfl rfl rfl rfl rfl rfl rfl rfl fun a w hF hS=>q_x (v:=(.bool t_23.2)) hF hS (ex_assign rfl) rfl rfl fun a hF=>q_end (n_sq (q_seq (q_region (q_x (v:=(.agg #[s6.v])) hF hS (ex_loadA (vs:=[s6.v]) 9 0 Tryz.underlying26 rfl sz26 rfl rfl rfl rfl) rfl rfl fun a hF=>q_x (v:=s7.v) hF hS (ex_move rfl) rfl rfl fun a hF=>q_x (v:=(.agg #[(iV t_23.1.Level),s26.v,s27.v,(iV t_23.1.Sum)])) hF hS (ex_loadA (vs:=[(iV t_23.1.Level),s26.v,s27.v,(iV t_23.1.Sum)]) 0 0 Tryz.underlying29 rfl sz29 rfl rfl rfl rfl) rfl rfl fun a hF=>q_x (v:=(.agg #[(iV t_4.2.2.Level),s8.v,s9.v,(iV t_4.2.2.Sum)])) hF hS (ex_loadA (vs:=[(iV t_4.2.2.Level),s8.v,s9.v,(iV t_4.2.2.Sum)]) 8 0 Tryz.underlying29 rfl sz29 rfl rfl rfl rfl) rfl rfl fun a hF=>?_))))
      obtain ⟨m30,hl30,hv30,hz30⟩:=hS.lend
      obtain ⟨t_29,ht_29,hj5⟩:=bindS hj5
      refine q_call (vs:=[(.agg #[s6.v]),s7.v,(.agg #[(iV t_23.1.Level),s26.v,s27.v,(iV t_23.1.Sum)]),(.agg #[(iV t_4.2.2.Level),s8.v,s9.v,(iV t_4.2.2.Sum)])]) hF hS Tryz.func11 (by kernel_rfl) rfl rfl rfl (c_impl_SameMeaning t_4.1 t_4.2.1 t_23.1 t_4.2.2 t_29 ht_29 _ m30 hv30 s6 ((h17.mono hm19.le).mono hl30) s7 (((h7.mono hm17.le).mono hm19.le).mono hl30) s26 (h26.froz hl30 (hz30 1 _ rfl)) s27 (h27.froz hl30 (hz30 2 _ rfl)) s8 (((h8.mono hm17.le).mono hm19.le).froz hl30 (hz30 6 _ rfl)) s9 (((h9.mono hm17.le).mono hm19.le).froz hl30 (hz30 7 _ rfl))) ?_
      rintro a w _ rfl hF hS
      refine q_x (v:=(.tuple #[(.bool t_29.1),(.bool t_29.2)])) hF hS (ex_move rfl) rfl rfl fun a hF=>q_x (v:=(.bool t_29.1)) hF hS (ex_extract rfl rfl) rfl rfl fun a hF=>q_x (v:=(.bool t_29.2)) hF hS (ex_extract rfl rfl) rfl rfl fun a hF=>q_x (v:=(.bool t_29.1)) hF hS (ex_assign rfl) rfl rfl fun a hF=>q_x (v:=(.bool t_29.2)) hF hS (ex_assign rfl) rfl rfl fun a hF=>q_end (n_sq (q_seq ?_))
      obtain ⟨t_33,hj7,hj5⟩:=bindS hj5
      refine q_join (fun a w=>Fr a 167 [(1,s2.v),(106,(.bool t_33))]∧St [] w0 w m19 []) ?_ ?_
      ·refine q_region (q_x (v:=(.bool t_18.2)) hF hS (ex_move rfl) rfl rfl fun a hF=>q_x (v:=(.bool (!t_18.2))) hF hS (ex_not rfl) rfl rfl fun a hF=>q_x (v:=(.bool (!t_18.2))) hF hS (ex_move rfl) rfl rfl fun a hF=>?_)
       rcases bcase (!t_18.2) with hc8 | hc8
       ·have hj7:=cond_f hc8 hj7
        refine q_xg (v:=(.bool t_23.2)) hF hS (ex_move rfl) (wanted_t hF rfl rfl rfl hc8) rfl fun a hF=>q_xg (v:=(.bool (!t_23.2))) hF hS (ex_not rfl) (wanted_t hF rfl rfl rfl hc8) rfl fun a hF=>q_x (v:=(.bool (!t_23.2))) hF hS (ex_pick_f rfl rfl hc8) rfl rfl fun a hF=>q_x (v:=(.bool (!t_23.2))) hF hS (ex_move rfl) rfl rfl fun a hF=>?_
        rcases bcase (!t_23.2) with hc9 | hc9
        ·have hj7:=cond_f hc9 hj7
         refine q_xg (v:=(.bool t_29.2)) hF hS (ex_move rfl) (wanted_t hF rfl rfl rfl hc9) rfl fun a hF=>q_xg (v:=(.bool (!t_29.2))) hF hS (ex_not rfl) (wanted_t hF rfl rfl rfl hc9) rfl fun a hF=>q_x (v:=(.bool (!t_29.2))) hF hS (ex_pick_f rfl rfl hc9) rfl rfl fun a hF=>q_x (v:=(.bool (!t_29.2))) hF hS (ex_move rfl) rfl rfl fun a hF=>?_
         rcases bcase (!t_29.2) with hc10 | hc10
         ·have hj7:=cond_f hc10 hj7
          refine q_xg (v:=(.bool t_29.1)) hF hS (ex_move rfl) (wanted_t hF rfl rfl rfl hc10) rfl fun a hF=>q_xg (v:=(.bool (!t_29.1))) hF hS (ex_not rfl) (wanted_t hF rfl rfl rfl hc10) rfl fun a hF=>q_x (v:=(.bool (!t_29.1))) hF hS (ex_pick_f rfl rfl hc10) rfl rfl fun a hF=>q_x (v:=(.bool (!t_29.1))) hF hS (ex_move rfl) rfl rfl fun a hF=>?_
          rcases bcase (!t_29.1) with hc11 | hc11
          ·have hj7:=cond_f hc11 hj7
           refine q_xg (v:=(.agg #[(iV t_18.1.Level),s20.v,s21.v,(iV t_18.1.Sum)])) hF hS (ex_loadA (vs:=[(iV t_18.1.Level),s20.v,s21.v,(iV t_18.1.Sum)]) 3 0 Tryz.underlying29 rfl sz29 rfl rfl rfl rfl) (wanted_t hF rfl rfl rfl hc11) rfl fun a hF=>q_xg (v:=(.agg #[(iV t_4.2.2.Level),s8.v,s9.v,(iV t_4.2.2.Sum)])) hF hS (ex_loadA (vs:=[(iV t_4.2.2.Level),s8.v,s9.v,(iV t_4.2.2.Sum)]) 8 0 Tryz.underlying29 rfl sz29 rfl rfl rfl rfl) (wanted_t hF rfl rfl rfl hc11) rfl fun a hF=>?_
           obtain ⟨m32,hl32,hv32,hz32⟩:=hS.lend
           obtain ⟨t_31,ht_31,hj7⟩:=bindS hj7
           refine q_callg (vs:=[(.agg #[(iV t_18.1.Level),s20.v,s21.v,(iV t_18.1.Sum)]),(.agg #[(iV t_4.2.2.Level),s8.v,s9.v,(iV t_4.2.2.Sum)])]) hF hS (wanted_t hF rfl rfl rfl hc11) Tryz.func12 (by kernel_rfl) rfl rfl rfl (c_laws_pSameTable t_18.1 t_4.2.2 t_31 ht_31 _ m32 hv32 s20 (h20.froz hl32 (hz32 4 _ rfl)) s21 (h21.froz hl32 (hz32 5 _ rfl)) s8 (((h8.mono hm17.le).mono hm19.le).froz hl32 (hz32 6 _ rfl)) s9 (((h9.mono hm17.le).mono hm19.le).froz hl32 (hz32 7 _ rfl))) ?_
           rintro a w _ rfl hF hS
           refine q_xg (v:=(.bool (!t_31))) hF hS (ex_not rfl) (wanted_t hF rfl rfl rfl hc11) rfl fun a hF=>q_x (v:=(.bool (!t_31))) hF hS (ex_pick_f rfl rfl hc11) rfl rfl fun a hF=>q_end (n_jn ?_)
           obtain rfl:=someI hj7
           exact ⟨hF.sub ⟨rfl,rfl,trivial⟩,hS.mask [false,false,false,false,false,false,false,false,false,false]⟩
          ·have hj7:=cond_t hc11 hj7
           refine q_skip hF (wanted_f hF rfl rfl rfl hc11 rfl) rfl fun a hF=>q_skip hF (wanted_f hF rfl rfl rfl hc11 rfl) rfl fun a hF=>q_skip hF (wanted_f hF rfl rfl rfl hc11 rfl) rfl fun a hF=>q_skip hF (wanted_f hF rfl rfl rfl hc11 rfl) rfl fun a hF=>q_x (v:=(.bool true)) hF hS (ex_pick_t rfl rfl hc11) rfl rfl fun a hF=>q_end (n_jn ?_)
           obtain rfl:=someI hj7
           exact ⟨hF.sub ⟨rfl,rfl,trivial⟩,hS.mask [false,false,false,false,false,false,false,false,false,false]⟩
         ·have hj7:=cond_t hc10 hj7
          refine q_skip hF (wanted_f hF rfl rfl rfl hc10 rfl) rfl fun a hF=>q_skip hF (wanted_f hF rfl rfl rfl hc10 rfl) rfl fun a hF=>q_x (v:=(.bool true)) hF hS (ex_pick_t rfl rfl hc10) rfl rfl fun a hF=>q_x (v:=(.bool true)) hF hS (ex_move rfl) rfl rfl fun a hF=>q_skip hF (wanted_f hF rfl rfl rfl rfl rfl) rfl fun a hF=>q_skip hF (wanted_f hF rfl rfl rfl rfl rfl) rfl fun a hF=>q_skip hF (wanted_f hF rfl rfl rfl rfl rfl) rfl fun a hF=>q_skip hF (wanted_f hF rfl rfl rfl rfl rfl) rfl fun a hF=>q_x (v:=(.bool true)) hF hS (ex_pick_t rfl rfl rfl) rfl rfl fun a hF=>q_end (n_jn ?_)
          obtain rfl:=someI hj7
          exact ⟨hF.sub ⟨rfl,rfl,trivial⟩,hS.mask [false,false,false,false,false,false,false,false,false,false]⟩
        ·have hj7:=cond_t hc9 hj7
         refine q_skip hF (wanted_f hF rfl rfl rfl hc9 rfl) rfl fun a hF=>q_skip hF (wanted_f hF rfl rfl rfl hc9 rfl) rfl fun a hF=>q_x (v:=(.bool true)) hF hS (ex_pick_t rfl rfl hc9) rfl rfl fun a hF=>q_x (v:=(.bool true)) hF hS (ex_move rfl) rfl rfl fun a hF=>q_skip hF (wanted_f hF rfl rfl rfl rfl rfl) rfl fun a hF=>q_skip hF (wanted_f hF rfl rfl rfl rfl rfl) rfl fun a hF=>q_x (v:=(.bool true)) hF hS (ex_pick_t rfl rfl rfl) rfl rfl fun a hF=>q_x (v:=(.bool true)) hF hS (ex_move rfl) rfl rfl fun a hF=>q_skip hF (wanted_f hF rfl rfl rfl rfl rfl) rfl fun a hF=>q_skip hF (wanted_f hF rfl rfl rfl rfl rfl) rfl fun a hF=>q_skip hF (wanted_f hF rfl rfl rfl rfl rfl) rfl fun a hF=>q_skip hF (wanted_f hF rfl rfl rfl rfl rfl) rfl fun a hF=>q_x (v:=(.bool true)) hF hS (ex_pick_t rfl rfl rfl) rfl rfl fun a hF=>q_end (n_jn ?_)
         obtain rfl:=someI hj7
         exact ⟨hF.sub ⟨rfl,rfl,trivial⟩,hS.mask [false,false,false,false,false,false,false,false,false,false]⟩
       ·have hj7:=cond_t hc8 hj7
        refine q_skip hF (wanted_f hF rfl rfl rfl hc8 rfl) rfl fun a hF=>q_skip hF (wanted_f hF rfl rfl rfl hc8 rfl) rfl fun a hF=>q_x (v:=(.bool true)) hF hS (ex_pick_t rfl rfl hc8) rfl rfl fun a hF=>q_x (v:=(.bool true)) hF hS (ex_move rfl) rfl rfl fun a hF=>q_skip hF (wanted_f hF rfl rfl rfl rfl rfl) rfl fun a hF=>q_skip hF (wanted_f hF rfl rfl rfl rfl rfl) rfl fun a hF=>q_x (v:=(.bool true)) hF hS (ex_pick_t rfl rfl rfl) rfl rfl fun a hF=>q_x (v:=(.bool true)) hF hS (ex_move rfl) rfl rfl fun a hF=>q_skip hF (wanted_f hF rfl rfl rfl rfl rfl) rfl fun a hF=>q_skip hF (wanted_f hF rfl rfl rfl rfl rfl) rfl fun a hF=>q_x (v:=(.bool true)) hF hS (ex_pick_t rfl rfl rfl) rfl rfl fun a hF=>q_x (v:=(.bool true)) hF hS (ex_move rfl) rfl rfl fun a hF=>q_skip hF (wanted_f hF rfl rfl rfl rfl rfl) rfl fun a hF=>q_skip hF (wanted_f hF rfl rfl rfl rfl rfl) rfl fun a hF=>q_skip hF (wanted_f hF rfl rfl rfl rfl rfl) rfl fun a hF=>q_skip hF (wanted_f hF rfl rfl rfl rfl rfl) rfl fun a hF=>q_x (v:=(.bool true)) hF hS (ex_pick_t rfl rfl rfl) rfl rfl fun a hF=>q_end (n_jn ?_)
        obtain rfl:=someI hj7
        exact ⟨hF.sub ⟨rfl,rfl,trivial⟩,hS.mask [false,false,false,false,false,false,false,false,false,false]⟩
      ·rintro a w ⟨hF,hS⟩
       refine n_sq ?_
       rcases bcase (t_33) with hc12 | hc12
       ·have hj5:=cond_f hc12 hj5
        refine q_cond_f hF rfl hc12 (q_skipc (n_jn ?_))
        obtain rfl:=someI hj5
        exact ⟨m19,rfl,hF.sub ⟨rfl,trivial⟩,hS,(hm17.trans hm19)⟩
       ·have hj5:=cond_t hc12 hj5
        refine q_cond_t hF rfl hc12 (q_seq (q_region (q_x (v:=(.bool false)) hF hS (ex_assign rfl) rfl rfl fun a hF=>q_end (n_sq (q_ret (r_jn ?_))))))
        obtain rfl:=someI hj5
        refine r_sq ?_
        obtain rfl:=someI hr
        exact ret_of hF hS rfl (.tmp rfl .nil) rfl
    ·rintro a w ⟨m34,rfl,hF,hS,hm34⟩
     refine n_sq ?_
     refine q_seq (q_region (q_x (v:=s2.v) hF hS (ex_move rfl) rfl rfl fun a hF=>?_))
     obtain ⟨t_35,ht_35,hr⟩:=bindS hr
     refine q_call (vs:=[s2.v]) hF hS Tryz.func13 (by kernel_rfl) rfl rfl rfl (c_spec_DrawParseTable p_more t_35 ht_35 _ m34 hS.vis s2 ((h2.mono hm5.le).mono hm34.le)) ?_
     have hT:=hS
     rintro a w _ ⟨m36,q37,s37,s38,rfl,hm36,hR36,h37,h38⟩ hF hS2
     have hS : St _ _ _ _ [q37]:=hS.join hR36 hm36
     have hm36:=MLe.weakX (O0:=[]) hT hm36
     refine q_x (v:=(.tuple #[(.agg #[s37.v]),s38.v,(strV t_35.2.2)])) hF hS (ex_move rfl) rfl rfl fun a hF=>q_x (v:=(.agg #[s37.v])) hF hS (ex_extract rfl rfl) rfl rfl fun a hF=>q_x (v:=s38.v) hF hS (ex_extract rfl rfl) rfl rfl fun a hF=>q_x (v:=(strV t_35.2.2)) hF hS (ex_extract rfl rfl) rfl rfl fun a hF=>q_alloc (cs:=[nilS.v]) hF hS rfl rfl rfl fun a w b39 hF hS=>q_store (vs:=[s37.v]) (cs':=[s37.v]) 0 0 hF hS sz26 rfl rfl rfl rfl rfl rfl rfl rfl fun a w hF hS=>q_x (v:=s38.v) hF hS (ex_assign rfl) rfl rfl fun a hF=>q_x (v:=(strV t_35.2.2)) hF hS (ex_assign rfl) rfl rfl fun a hF=>q_end (n_sq (q_seq (q_region (q_x (v:=(.agg #[s37.v])) hF hS (ex_loadA (vs:=[s37.v]) 0 0 Tryz.underlying26 rfl sz26 rfl rfl rfl rfl) rfl rfl fun a hF=>q_x (v:=s38.v) hF hS (ex_move rfl) rfl rfl fun a hF=>q_x (v:=(strV t_35.2.2)) hF hS (ex_move rfl) rfl rfl fun a hF=>?_))))
     have hS : St _ _ _ _ [q37,[⟨b39,[s37.v],26⟩]]:=hS.sel [1,0] (by decide)
     obtain ⟨m40,hm40,hS,hz40⟩:=hS.freeze
     have h40:=h37.froz hm40.le hz40
     obtain ⟨t_41,ht_41,hr⟩:=bindS hr
     refine q_call (vs:=[(.agg #[s37.v]),s38.v,(strV t_35.2.2)]) hF hS Tryz.func9 (by kernel_rfl) rfl rfl rfl (c_impl_ParseTable t_35.1 t_35.2.1 t_35.2.2 t_41 ht_41 _ m40 hS.vis ((((ht.mono hm5.le).mono hm34.le).mono hm36.le).mono hm40.le) s37 h40 s38 (h38.mono hm40.le)) ?_
     have hT:=hS
     rintro a w _ ⟨m42,q43,q44,s43,s44,rfl,hm42,hR42,h43,h44⟩ hF hS2
     have hS : St _ _ _ _ [q43,q44,[⟨b39,[s37.v],26⟩]]:=hS.join hR42 hm42
     have hm42:=MLe.weakX (O0:=[]) hT hm42
     refine q_x (v:=(.tuple #[(.agg #[(iV t_41.1.Level),s43.v,s44.v,(iV t_41.1.Sum)]),(.bool t_41.2)])) hF hS (ex_move rfl) rfl rfl fun a hF=>q_x (v:=(.agg #[(iV t_41.1.Level),s43.v,s44.v,(iV t_41.1.Sum)])) hF hS (ex_extract rfl rfl) rfl rfl fun a hF=>q_x (v:=(.bool t_41.2)) hF hS (ex_extract rfl rfl) rfl rfl fun a hF=>q_alloc (cs:=[(iV 0),nilS.v,nilS.v,(iV 0)]) hF hS rfl rfl rfl fun a w b45 hF hS=>q_store (vs:=[(iV t_41.1.Level),s43.v,s44.v,(iV t_41.1.Sum)]) (cs':=[(iV t_41.1.Level),s43.v,s44.v,(iV t_41.1.Sum)]) 0 0 hF hS sz29 rfl rfl rfl rfl rfl rfl rfl rfl fun a w hF hS=>q_x (v:=(.bool t_41.2)) hF hS (ex_assign rfl) rfl rfl fun a hF=>q_end (n_sq (q_seq (q_region (q_x (v:=(.agg #[s37.v])) hF hS (ex_loadA (vs:=[s37.v]) 3 0 Tryz.underlying26 rfl sz26 rfl rfl rfl rfl) rfl rfl fun a hF=>q_x (v:=s38.v) hF hS (ex_move rfl) rfl rfl fun a hF=>q_x (v:=(strV t_35.2.2)) hF hS (ex_move rfl) rfl rfl fun a hF=>?_))))
     obtain ⟨t_46,ht_46,hr⟩:=bindS hr
     refine q_call (vs:=[(.agg #[s37.v]),s38.v,(strV t_35.2.2)]) hF hS Tryz.func14 (by kernel_rfl) rfl rfl rfl (c_spec_ParseTable t_35.1 t_35.2.1 t_35.2.2 t_46 ht_46 _ m42 hS.vis s37 (h40.mono hm42.le) s38 ((h38.mono hm40.le).mono hm42.le)) ?_
     rintro a w _ ⟨q48,q49,s48,s49,rfl,hR47,h48,h49⟩ hF hS2
     have hS : St _ _ _ _ [q48,q49,[⟨b45,[(iV t_41.1.Level),s43.v,s44.v,(iV t_41.1.Sum)],29⟩],q43,q44,[⟨b39,[s37.v],26⟩]]:=hS.joinF hR47
     refine q_x (v:=(.tuple #[(.agg #[(iV t_46.1.Level),s48.v,s49.v,(iV t_46.1.Sum)]),(.bool t_46.2)])) hF hS (ex_move rfl) rfl rfl fun a hF=>q_x (v:=(.agg #[(iV t_46.1.Level),s48.v,s49.v,(iV t_46.1.Sum)])) hF hS (ex_extract rfl rfl) rfl rfl fun a hF=>q_x (v:=(.bool t_46.2)) hF hS (ex_extract rfl rfl) rfl rfl fun a hF=>q_alloc (cs:=[(iV 0),nilS.v,nilS.v,(iV 0)]) hF hS rfl rfl rfl fun a w b50 hF hS=>q_store (vs:=[(iV t_46.1.Level),s48.v,s49.v,(iV t_46.1.Sum)]) (cs':=[(iV t_46.1.Level),s48.v,s49.v,(iV t_46.1.Sum)]) 0 0 hF hS sz29 rfl rfl rfl rfl rfl rfl rfl rfl fun a w hF hS=>q_x (v:=(.bool t_46.2)) hF hS (ex_assign rfl) rfl rfl fun a hF=>q_end (n_sq (q_seq (q_seq ?_)))
     obtain ⟨t_53,hj13,hr⟩:=bindS hr
     refine q_join (fun a w=>Fr a 167 [(1,s2.v),(135,(.bool t_53))]∧St [] w0 w m42 []) ?_ ?_
     ·refine q_region (q_x (v:=(.bool t_41.2)) hF hS (ex_move rfl) rfl rfl fun a hF=>q_x (v:=(.bool t_46.2)) hF hS (ex_move rfl) rfl rfl fun a hF=>q_x (v:=(.bool (t_41.2 != t_46.2))) hF hS (ex_bne Tryz.underlying4 rfl rfl) rfl rfl fun a hF=>q_x (v:=(.bool (t_41.2 != t_46.2))) hF hS (ex_move rfl) rfl rfl fun a hF=>?_)
      rcases bcase (t_41.2 != t_46.2) with hc14 | hc14
      ·have hj13:=cond_f hc14 hj13
       refine q_xg (v:=(.agg #[(iV t_41.1.Level),s43.v,s44.v,(iV t_41.1.Sum)])) hF hS (ex_loadA (vs:=[(iV t_41.1.Level),s43.v,s44.v,(iV t_41.1.Sum)]) 3 0 Tryz.underlying29 rfl sz29 rfl rfl rfl rfl) (wanted_t hF rfl rfl rfl hc14) rfl fun a hF=>q_xg (v:=(.agg #[(iV t_46.1.Level),s48.v,s49.v,(iV t_46.1.Sum)])) hF hS (ex_loadA (vs:=[(iV t_46.1.Level),s48.v,s49.v,(iV t_46.1.Sum)]) 0 0 Tryz.underlying29 rfl sz29 rfl rfl rfl rfl) (wanted_t hF rfl rfl rfl hc14) rfl fun a hF=>?_
       obtain ⟨m52,hl52,hv52,hz52⟩:=hS.lend
       obtain ⟨t_51,ht_51,hj13⟩:=bindS hj13
       refine q_callg (vs:=[(.agg #[(iV t_41.1.Level),s43.v,s44.v,(iV t_41.1.Sum)]),(.agg #[(iV t_46.1.Level),s48.v,s49.v,(iV t_46.1.Sum)])]) hF hS (wanted_t hF rfl rfl rfl hc14) Tryz.func12 (by kernel_rfl) rfl rfl rfl (c_laws_pSameTable t_41.1 t_46.1 t_51 ht_51 _ m52 hv52 s43 (h43.froz hl52 (hz52 4 _ rfl)) s44 (h44.froz hl52 (hz52 5 _ rfl)) s48 (h48.froz hl52 (hz52 1 _ rfl)) s49 (h49.froz hl52 (hz52 2 _ rfl))) ?_
       rintro a w _ rfl hF hS
       refine q_xg (v:=(.bool (!t_51))) hF hS (ex_not rfl) (wanted_t hF rfl rfl rfl hc14) rfl fun a hF=>q_x (v:=(.bool (!t_51))) hF hS (ex_pick_f rfl rfl hc14) rfl rfl fun a hF=>q_end (n_jn ?_)
       obtain rfl:=someI hj13
       exact ⟨hF.sub ⟨rfl,rfl,trivial⟩,hS.mask [false,false,false,false,false,false,false]⟩
      ·have hj13:=cond_t hc14 hj13
       refine q_skip hF (wanted_f hF rfl rfl rfl hc14 rfl) rfl fun a hF=>q_skip hF (wanted_f hF rfl rfl rfl hc14 rfl) rfl fun a hF=>q_skip hF (wanted_f hF rfl rfl rfl hc14 rfl) rfl fun a hF=>q_skip hF (wanted_f hF rfl rfl rfl hc14 rfl) rfl fun a hF=>q_x (v:=(.bool true)) hF hS (ex_pick_t rfl rfl hc14) rfl rfl fun a hF=>q_end (n_jn ?_)
       obtain rfl:=someI hj13
       exact ⟨hF.sub ⟨rfl,rfl,trivial⟩,hS.mask [false,false,false,false,false,false,false]⟩
     ·rintro a w ⟨hF,hS⟩
      refine n_sq ?_
      rcases bcase (t_53) with hc15 | hc15
      ·have hr:=cond_f hc15 hr
       refine q_cond_f hF rfl hc15 (q_skipc (n_sq (q_seq (q_region (q_x (v:=s2.v) hF hS (ex_move rfl) rfl rfl fun a hF=>?_)))))
       obtain ⟨t_54,ht_54,hr⟩:=bindS hr
       refine q_call (vs:=[s2.v]) hF hS Tryz.func15 (by kernel_rfl) rfl rfl rfl (c_spec_DrawSameMeaning p_more t_54 ht_54 _ m42 hS.vis s2 (((((h2.mono hm5.le).mono hm34.le).mono hm36.le).mono hm40.le).mono hm42.le)) ?_
       have hT:=hS
       rintro a w _ ⟨m55,q56,q58,q59,q60,q61,s56,s57,s58,s59,s60,s61,rfl,hm55,hR55,h56,h57,h58,h59,h60,h61⟩ hF hS2
       have hS : St _ _ _ _ [q56,q58,q59,q60,q61]:=hS.join hR55 hm55
       have hm55:=MLe.weakX (O0:=[]) hT hm55
       refine q_x (v:=(.tuple #[(.agg #[s56.v]),s57.v,(.agg #[(iV t_54.2.2.1.Level),s58.v,s59.v,(iV t_54.2.2.1.Sum)]),(.agg #[(iV t_54.2.2.2.Level),s60.v,s61.v,(iV t_54.2.2.2.Sum)])])) hF hS (ex_move rfl) rfl rfl fun a hF=>q_x (v:=(.agg #[s56.v])) hF hS (ex_extract rfl rfl) rfl rfl fun a hF=>q_x (v:=s57.v) hF hS (ex_extract rfl rfl) rfl rfl fun a hF=>q_x (v:=(.agg #[(iV t_54.2.2.1.Level),s58.v,s59.v,(iV t_54.2.2.1.Sum)])) hF hS (ex_extract rfl rfl) rfl rfl fun a hF=>q_x (v:=(.agg #[(iV t_54.2.2.2.Level),s60.v,s61.v,(iV t_54.2.2.2.Sum)])) hF hS (ex_extract rfl rfl) rfl rfl fun a hF=>q_alloc (cs:=[nilS.v]) hF hS rfl rfl rfl fun a w b62 hF hS=>q_alloc (cs:=[(iV 0),nilS.v,nilS.v,(iV 0)]) hF hS rfl rfl rfl fun a w b63 hF hS=>q_alloc (cs:=[(iV 0),nilS.v,nilS.v,(iV 0)]) hF hS rfl rfl rfl fun a w b64 hF hS=>q_store (vs:=[s56.v]) (cs':=[s56.v]) 2 0 hF hS sz26 rfl rfl rfl rfl rfl rfl rfl rfl fun a w hF hS=>q_x (v:=s57.v) hF hS (ex_assign rfl) rfl rfl fun a hF=>q_store (vs:=[(iV t_54.2.2.1.Level),s58.v,s59.v,(iV t_54.2.2.1.Sum)]) (cs':=[(iV t_54.2.2.1.Level),s58.v,s59.v,(iV t_54.2.2.1.Sum)]) 1 0 hF hS sz29 rfl rfl rfl rfl rfl rfl rfl rfl fun a w hF hS=>q_store (vs:=[(iV t_54.2.2.2.Level),s60.v,s61.v,(iV t_54.2.2.2.Sum)]) (cs':=[(iV t_54.2.2.2.Level),s60.v,s61.v,(iV t_54.2.2.2.Sum)]) 0 0 hF hS sz29 rfl rfl rfl rfl rfl rfl rfl rfl fun a w hF hS=>q_end (n_sq (q_seq (q_region (q_x (v:=(.agg #[s56.v])) hF hS (ex_loadA (vs:=[s56.v]) 2 0 Tryz.underlying26 rfl sz26 rfl rfl rfl rfl) rfl rfl fun a hF=>q_x (v:=s57.v) hF hS (ex_move rfl) rfl rfl fun a hF=>q_x (v:=(.agg #[(iV t_54.2.2.1.Level),s58.v,s59.v,(iV t_54.2.2.1.Sum)])) hF hS (ex_loadA (vs:=[(iV t_54.2.2.1.Level),s58.v,s59.v,(iV t_54.2.2.1.Sum)]) 1 0 Tryz.underlying29 rfl sz29 rfl rfl rfl rfl) rfl rfl fun a hF=>q_x (v:=(.agg #[(iV t_54.2.2.2.Level),s60.v,s61.v,(iV t_54.2.2.2.Sum)])) hF hS (ex_loadA (vs:=[(iV t_54.2.2.2.Level),s60.v,s61.v,(iV t_54.2.2.2.Sum)]) 0 0 Tryz.underlying29 rfl sz29 rfl rfl rfl rfl) rfl rfl fun a hF=>?_))))
       obtain ⟨m66,hl66,hv66,hz66⟩:=hS.lend
       obtain ⟨t_65,ht_65,hr⟩:=bindS hr
       refine q_call (vs:=[(.agg #[s56.v]),s57.v,(.agg #[(iV t_54.2.2.1.Level),s58.v,s59.v,(iV t_54.2.2.1.Sum)]),(.agg #[(iV t_54.2.2.2.Level),s60.v,s61.v,(iV t_54.2.2.2.Sum)])]) hF hS Tryz.func11 (by kernel_rfl) rfl rfl rfl (c_impl_SameMeaning t_54.1 t_54.2.1 t_54.2.2.1 t_54.2.2.2 t_65 ht_65 _ m66 hv66 s56 (h56.froz hl66 (hz66 3 _ rfl)) s57 (h57.mono hl66) s58 (h58.froz hl66 (hz66 4 _ rfl)) s59 (h59.froz hl66 (hz66 5 _ rfl)) s60 (h60.froz hl66 (hz66 6 _ rfl)) s61 (h61.froz hl66 (hz66 7 _ rfl))) ?_
       rintro a w _ rfl hF hS
       refine q_x (v:=(.tuple #[(.bool t_65.1),(.bool t_65.2)])) hF hS (ex_move rfl) rfl rfl fun a hF=>q_x (v:=(.bool t_65.1)) hF hS (ex_extract rfl rfl) rfl rfl fun a hF=>q_x (v:=(.bool t_65.2)) hF hS (ex_extract rfl rfl) rfl rfl fun a hF=>q_x (v:=(.bool t_65.1)) hF hS (ex_assign rfl) rfl rfl fun a hF=>q_x (v:=(.bool t_65.2)) hF hS (ex_assign rfl) rfl rfl fun a hF=>q_end (n_sq (q_seq (q_region (q_x (v:=(.agg #[s56.v])) hF hS (ex_loadA (vs:=[s56.v]) 2 0 Tryz.underlying26 rfl sz26 rfl rfl rfl rfl) rfl rfl fun a hF=>q_x (v:=s57.v) hF hS (ex_move rfl) rfl rfl fun a hF=>q_x (v:=(.agg #[(iV t_54.2.2.1.Level),s58.v,s59.v,(iV t_54.2.2.1.Sum)])) hF hS (ex_loadA (vs:=[(iV t_54.2.2.1.Level),s58.v,s59.v,(iV t_54.2.2.1.Sum)]) 1 0 Tryz.underlying29 rfl sz29 rfl rfl rfl rfl) rfl rfl fun a hF=>q_x (v:=(.agg #[(iV t_54.2.2.2.Level),s60.v,s61.v,(iV t_54.2.2.2.Sum)])) hF hS (ex_loadA (vs:=[(iV t_54.2.2.2.Level),s60.v,s61.v,(iV t_54.2.2.2.Sum)]) 0 0 Tryz.underlying29 rfl sz29 rfl rfl rfl rfl) rfl rfl fun a hF=>?_))))
       obtain ⟨m68,hl68,hv68,hz68⟩:=hS.lend
       obtain ⟨t_67,ht_67,hr⟩:=bindS hr
       refine q_call (vs:=[(.agg #[s56.v]),s57.v,(.agg #[(iV t_54.2.2.1.Level),s58.v,s59.v,(iV t_54.2.2.1.Sum)]),(.agg #[(iV t_54.2.2.2.Level),s60.v,s61.v,(iV t_54.2.2.2.Sum)])]) hF hS Tryz.func16 (by kernel_rfl) rfl rfl rfl (c_spec_SameMeaning t_54.1 t_54.2.1 t_54.2.2.1 t_54.2.2.2 t_67 ht_67 _ m68 hv68 s56 (h56.froz hl68 (hz68 3 _ rfl)) s57 (h57.mono hl68) s58 (h58.froz hl68 (hz68 4 _ rfl)) s59 (h59.froz hl68 (hz68 5 _ rfl)) s60 (h60.froz hl68 (hz68 6 _ rfl)) s61 (h61.froz hl68 (hz68 7 _ rfl))) ?_
       rintro a w _ rfl hF hS
       refine q_x (v:=(.tuple #[(.bool t_67.1),(.bool t_67.2)])) hF hS (ex_move rfl) rfl rfl fun a hF=>q_x (v:=(.bool t_67.1)) hF hS (ex_extract rfl rfl) rfl rfl fun a hF=>q_x (v:=(.bool t_67.2)) hF hS (ex_extract rfl rfl) rfl rfl fun a hF=>q_x (v:=(.bool t_67.1)) hF hS (ex_assign rfl) rfl rfl fun a hF=>q_x (v:=(.bool t_67.2)) hF hS (ex_assign rfl) rfl rfl fun a hF=>q_end (n_sq (q_seq ?_))
       obtain ⟨t_69,hj16,hr⟩:=bindS hr
       refine q_join (fun a w=>Fr a 167 [(4,(.bool t_69))]∧St [] w0 w m55 []) ?_ ?_
       ·refine q_region (q_x (v:=(.bool t_65.2)) hF hS (ex_move rfl) rfl rfl fun a hF=>q_x (v:=(.bool t_67.2)) hF hS (ex_move rfl) rfl rfl fun a hF=>q_x (v:=(.bool (t_65.2 == t_67.2))) hF hS (ex_beq Tryz.underlying4 rfl rfl) rfl rfl fun a hF=>q_x (v:=(.bool (t_65.2 == t_67.2))) hF hS (ex_move rfl) rfl rfl fun a hF=>?_)
        rcases bcase (t_65.2 == t_67.2) with hc17 | hc17
        ·have hj16:=cond_f hc17 hj16
         refine q_skip hF (wanted_f hF rfl rfl rfl hc17 rfl) rfl fun a hF=>q_skip hF (wanted_f hF rfl rfl rfl hc17 rfl) rfl fun a hF=>q_skip hF (wanted_f hF rfl rfl rfl hc17 rfl) rfl fun a hF=>q_x (v:=(.bool false)) hF hS (ex_pick_f rfl rfl hc17) rfl rfl fun a hF=>q_x (v:=(.bool false)) hF hS (ex_assign rfl) rfl rfl fun a hF=>q_end (n_jn ?_)
         obtain rfl:=someI hj16
         exact ⟨hF.sub ⟨rfl,trivial⟩,hS.mask [false,false,false,false,false,false,false,false]⟩
        ·have hj16:=cond_t hc17 hj16
         refine q_xg (v:=(.bool t_65.1)) hF hS (ex_move rfl) (wanted_t hF rfl rfl rfl hc17) rfl fun a hF=>q_xg (v:=(.bool t_67.1)) hF hS (ex_move rfl) (wanted_t hF rfl rfl rfl hc17) rfl fun a hF=>q_xg (v:=(.bool (t_65.1 == t_67.1))) hF hS (ex_beq Tryz.underlying4 rfl rfl) (wanted_t hF rfl rfl rfl hc17) rfl fun a hF=>q_x (v:=(.bool (t_65.1 == t_67.1))) hF hS (ex_pick_t rfl rfl hc17) rfl rfl fun a hF=>q_x (v:=(.bool (t_65.1 == t_67.1))) hF hS (ex_assign rfl) rfl rfl fun a hF=>q_end (n_jn ?_)
         obtain rfl:=someI hj16
         exact ⟨hF.sub ⟨rfl,trivial⟩,hS.mask [false,false,false,false,false,false,false,false]⟩
       ·rintro a w ⟨hF,hS⟩
        refine n_sq (q_ret ?_)
        obtain rfl:=someI hr
        exact ret_of hF hS rfl (.tmp rfl .nil) rfl
      ·have hr:=cond_t hc15 hr
       refine q_cond_t hF rfl hc15 (q_seq (q_region (q_x (v:=(.bool false)) hF hS (ex_assign rfl) rfl rfl fun a hF=>q_end (n_sq (q_ret (r_sq ?_))))))
       obtain rfl:=someI hr
       exact ret_of hF hS rfl (.tmp rfl .nil) rfl
   ·have hr:=cond_t hc4 hr
    refine q_cond_t hF rfl hc4 (q_seq (q_region (q_x (v:=(.bool false)) hF hS (ex_assign rfl) rfl rfl fun a hF=>q_end (n_sq (q_ret (r_sq ?_))))))
    obtain rfl:=someI hr
    exact ret_of hF hS rfl (.tmp rfl .nil) rfl
 ·have hr:=cond_t hc1 hr
  refine q_cond_t hF rfl hc1 (q_seq (q_region (q_x (v:=(.bool true)) hF hS (ex_assign rfl) rfl rfl fun a hF=>q_end (n_sq (q_ret (r_sq ?_))))))
  obtain rfl:=someI hr
  exact ret_of hF hS rfl (.tmp rfl .nil) rfl

end Go.Proofs.YtnmimeojimfogaaGreatDoor
