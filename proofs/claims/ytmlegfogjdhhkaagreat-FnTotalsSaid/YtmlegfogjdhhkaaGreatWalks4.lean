/- The walks of the functions: each returns what its plain function says. -/
import Derived.Test.YtmlegfogjdhhkaaGreatWalks3
namespace Go.Proofs.YtmlegfogjdhhkaaGreat
open Go.Gx Go.Gx.F Go.RowKit Go.Proofs.Tryz
set_option linter.all false
set_option maxRecDepth 10000


theorem c_spec_cbOf (p_sizes:List Int) (p_base:List Int) (r:impl_Cube) (hr:spec_cbOf p_sizes p_base=some r) (w0:World) (m:Mem) (hv:Vis m w0) (s1:Sl) (h1:Rd m s1 p_sizes) (s2:Sl) (h2:Rd m s2 p_base) :
  Ret prog 29 [s1.v,s2.v] w0 (fun v w=>∃ (q0':Piece) (q1':Piece) (s0':Sl) (s1':Sl),v=(.agg #[s0'.v,s1'.v])∧St [] w0 w m [q0',q1']∧OwnL m 3 q0' s0' r.Sizes∧OwnL m 3 q1' s1' r.Cells):=by
 unfold spec_cbOf at hr
 refine ret_start func29 rfl 73 rfl rfl m hv fun a hF hS=>q_seq (q_region (q_alloc (cs:=[nilS.v,nilS.v]) hF hS rfl rfl rfl fun a w b3 hF hS=>q_end (n_sq (q_seq (q_region (q_x (v:=s1.v) hF hS (ex_move rfl) rfl rfl fun a hF=>?_))))))
 obtain ⟨t_4,ht_4,hr⟩:=bindS hr
 refine q_call (vs:=[s1.v]) hF hS func49 (by kernel_rfl) rfl rfl rfl (c_spec_l1Own p_sizes t_4 ht_4 _ m hS.vis s1 h1) ?_
 rintro a w _ ⟨q6,s6,rfl,hR5,h6⟩ hF hS2
 have hS:St _ _ _ _ [q6,[⟨b3,[nilS.v,nilS.v],33⟩]]:=hS.joinF hR5
 refine q_x (v:=s1.v) hF hS (ex_move rfl) rfl rfl fun a hF=>?_
 obtain ⟨t_7,ht_7,hr⟩:=bindS hr
 refine q_call (vs:=[s1.v]) hF hS func26 (by kernel_rfl) rfl rfl rfl (c_spec_cbCount p_sizes t_7 ht_7 _ m hS.vis s1 h1) ?_
 rintro a w _ rfl hF hS
 obtain ⟨l_8,hl_8,hr⟩:=bindS hr
 refine q_do rfl fun _ hK=>wp_make (z:=(0:Int)) hF hS underlying23 inf3 rfl rfl rfl rfl rfl (by decide) hl_8 rfl fun a w q9 s9 hF hS h9 _=>hK _ _ (q_x (v:=(.agg #[s6.v,s9.v])) hF hS (ex_build (cells:=[s6.v,s9.v]) rfl (by kernel_rfl)) rfl rfl fun a hF=>q_alloc (cs:=[nilS.v,nilS.v]) hF hS rfl rfl rfl fun a w b10 hF hS=>q_store (vs:=[s6.v,s9.v]) (cs':=[s6.v,s9.v]) 0 0 hF hS sz33 rfl rfl rfl rfl rfl rfl rfl rfl fun a w hF hS=>q_end (n_sq (q_seq (q_seq (q_region (q_x (v:=s1.v) hF hS (ex_move rfl) rfl rfl fun a hF=>?_))))))
 obtain ⟨t_11,ht_11,hr⟩:=bindS hr
 refine q_call (vs:=[s1.v]) hF hS func75 (by kernel_rfl) rfl rfl rfl (c_spec_cbBase p_sizes t_11 ht_11 _ m hS.vis s1 h1) ?_
 rintro a w _ ⟨q13,s13,rfl,hR12,h13⟩ hF hS2
 have hS:St _ _ _ _ [q13,[⟨b10,[s6.v,s9.v],33⟩],q9,q6,[⟨b3,[nilS.v,nilS.v],33⟩]]:=hS.joinF hR12
 refine q_x (v:=(iV (goLen t_11))) hF hS (ex_len underlying23 rfl h13.len) rfl rfl fun a hF=>q_x (v:=(iV 0)) hF hS (ex_move rfl) rfl rfl fun a hF=>q_end (n_sq (q_block ?_))
 obtain ⟨c_65,hl1,hr⟩:=bindS hr
 refine q_loop (fun (s:Int × impl_Cube) a w=>∃ (q17:Piece),∃ t_14,∃ c_15,s=(t_14,c_15)∧Fr a 73 [(0,s1.v),(1,s2.v),(4,(.pointer (some ⟨b3,0,none⟩))),(5,(.pointer (some ⟨b10,0,none⟩))),(19,s13.v),(20,(iV (goLen t_11))),(21,(iV t_14))]∧St [] w0 w m [q17,q13,[⟨b10,[s6.v,s9.v],33⟩],q6,[⟨b3,[nilS.v,nilS.v],33⟩]]∧OwnL m 3 q6 s6 c_15.Sizes∧c_15.Sizes=t_4∧OwnL m 3 q17 s9 c_15.Cells) (fun (c_65:impl_Cube) e a w=>∃ (q67:Piece),e=.exit 0∧Fr a 73 [(4,(.pointer (some ⟨b3,0,none⟩))),(5,(.pointer (some ⟨b10,0,none⟩)))]∧St [] w0 w m [q6,q67,[⟨b10,[s6.v,s9.v],33⟩],[⟨b3,[nilS.v,nilS.v],33⟩]]∧OwnL m 3 q6 s6 c_65.Sizes∧c_65.Sizes=t_4∧OwnL m 3 q67 s9 c_65.Cells) hl1 ⟨q9,_,_,rfl,hF.sub ⟨rfl,rfl,rfl,rfl,rfl,rfl,rfl,trivial⟩,hS.sel [2,0,1,3,4] (by decide),h6,rfl,h9⟩ ?_ ?_
 ·clear hF hS
  rintro s a w st ⟨q17,t_14,c_15,rfl,hF,hS,h16,h16k,h17⟩ hb1
  unfold spec_cbOf_l1 at hb1
  refine q_seq (q_region (q_x (v:=(.bool (decide (t_14<(goLen t_11))))) hF hS (ex_ibin rfl rfl rfl) rfl rfl fun a hF=>q_end (n_sq (q_seq ?_))))
  rcases bcase (decide (t_14<(goLen t_11))) with hc2 | hc2
  ·have hb1:=cond_f hc2 hb1
   refine q_cond_f hF rfl hc2 (q_exit (x_sq ?_))
   obtain rfl:=someI hb1
   exact ⟨nofun,.inl ⟨q17,rfl,hF.sub ⟨rfl,rfl,trivial⟩,hS.sel [3,0,2,4] (by decide),h16,h16k,h17⟩⟩
  ·have hb1:=cond_t hc2 hb1
   refine q_cond_t hF rfl hc2 (q_skipc (n_sq (q_seq (q_block (q_seq (q_region (q_x (v:=(iV t_14)) hF hS (ex_move rfl) rfl rfl fun a hF=>?_)))))))
   obtain ⟨e_18,he_18,hb1⟩:=bindS hb1
   obtain ⟨vs19,at19,d19⟩:=h13.at he_18 1 rfl
   obtain rfl:vs19=[(iV e_18)]:=d19
   refine q_x (v:=(elP s13 (t_14.toNat * 1))) hF hS (ex_indexAddr underlying23 sz3 rfl rfl (h13.idx he_18)) rfl rfl fun a hF=>q_x (v:=(iV e_18)) hF hS (ex_loadE1 0 underlying3 rfl rfl (at19.at 1 rfl) rfl rfl) rfl rfl fun a hF=>q_x (v:=(iV t_14)) hF hS (ex_assign rfl) rfl rfl fun a hF=>q_x (v:=(iV e_18)) hF hS (ex_assign rfl) rfl rfl fun a hF=>q_end (n_sq (q_seq (q_region (q_x (v:=s1.v) hF hS (ex_move rfl) rfl rfl fun a hF=>q_x (v:=(iV e_18)) hF hS (ex_move rfl) rfl rfl fun a hF=>?_))))
   obtain ⟨t_20,ht_20,hb1⟩:=bindS hb1
   refine q_call (vs:=[s1.v,(iV e_18)]) hF hS func39 (by kernel_rfl) rfl rfl rfl (c_spec_cbIndices p_sizes e_18 t_20 ht_20 _ m hS.vis s1 h1) ?_
   rintro a w _ ⟨q22,s22,rfl,hR21,h22⟩ hF hS2
   have hS:St _ _ _ _ [q22,q17,q13,[⟨b10,[s6.v,s9.v],33⟩],q6,[⟨b3,[nilS.v,nilS.v],33⟩]]:=hS.joinF hR21
   refine q_x (v:=s22.v) hF hS (ex_assign rfl) rfl rfl fun a hF=>q_end (n_sq (q_seq (q_region (q_x (v:=(iV 0)) hF hS (ex_assign rfl) rfl rfl fun a hF=>q_end (n_sq (q_block ?_))))))
   obtain ⟨c_62,hl3,hb1⟩:=bindS hb1
   refine q_loop (fun (s:Int × impl_Cube) a w=>∃ (q26:Piece),∃ mask_23,∃ c_24,s=(mask_23,c_24)∧Fr a 73 [(0,s1.v),(1,s2.v),(4,(.pointer (some ⟨b3,0,none⟩))),(5,(.pointer (some ⟨b10,0,none⟩))),(6,(iV t_14)),(8,s22.v),(9,(iV mask_23)),(19,s13.v),(20,(iV (goLen t_11))),(21,(iV t_14))]∧St [] w0 w m [q26,q22,q13,[⟨b10,[s6.v,s9.v],33⟩],q6,[⟨b3,[nilS.v,nilS.v],33⟩]]∧OwnL m 3 q6 s6 c_24.Sizes∧c_24.Sizes=t_4∧OwnL m 3 q26 s9 c_24.Cells) (fun (c_62:impl_Cube) e a w=>∃ (q64:Piece),e=.exit 2∧Fr a 73 [(0,s1.v),(1,s2.v),(4,(.pointer (some ⟨b3,0,none⟩))),(5,(.pointer (some ⟨b10,0,none⟩))),(19,s13.v),(20,(iV (goLen t_11))),(21,(iV t_14))]∧St [] w0 w m [q13,q6,q64,[⟨b10,[s6.v,s9.v],33⟩],[⟨b3,[nilS.v,nilS.v],33⟩]]∧OwnL m 3 q6 s6 c_62.Sizes∧c_62.Sizes=t_4∧OwnL m 3 q64 s9 c_62.Cells) hl3 ⟨q17,_,_,rfl,hF.sub ⟨rfl,rfl,rfl,rfl,rfl,rfl,rfl,rfl,rfl,rfl,trivial⟩,hS.sel [1,0,2,3,4,5] (by decide),h16,h16k,h17⟩ ?_ ?_
   ·clear hF hS
    rintro s a w st ⟨q26,mask_23,c_24,rfl,hF,hS,h25,h25k,h26⟩ hb3
    unfold spec_cbOf_l2 at hb3
    refine q_seq (q_seq (q_region (q_x (v:=(iV mask_23)) hF hS (ex_move rfl) rfl rfl fun a hF=>q_x (v:=s1.v) hF hS (ex_move rfl) rfl rfl fun a hF=>q_x (v:=(iV (goLen p_sizes))) hF hS (ex_len underlying23 rfl h1.len) rfl rfl fun a hF=>q_x (v:=(.int .u64 (IntKind.wrap .u64 (goLen p_sizes)))) hF hS (ex_conv underlying3 underlying97 rfl) rfl rfl fun a hF=>?_)))
    obtain ⟨t_27,ht_27,hb3⟩:=bindS hb3
    refine q_x (v:=(iV t_27)) hF hS (ex_shl rfl rfl ht_27) rfl rfl fun a hF=>q_x (v:=(.bool (decide (mask_23<t_27)))) hF hS (ex_ibin rfl rfl rfl) rfl rfl fun a hF=>q_end (n_sq ?_)
    rcases bcase (decide (mask_23<t_27)) with hc4 | hc4
    ·have hb3:=cond_f hc4 hb3
     refine q_cond_f hF rfl hc4 (q_exit (x_sq ?_))
     obtain rfl:=someI hb3
     exact ⟨nofun,.inl ⟨q26,rfl,hF.sub ⟨rfl,rfl,rfl,rfl,rfl,rfl,rfl,trivial⟩,hS.sel [2,4,0,3,5] (by decide),h25,h25k,h26⟩⟩
    ·have hb3:=cond_t hc4 hb3
     refine q_cond_t hF rfl hc4 (q_skipc (n_sq (q_seq (q_block (q_seq (q_region (q_x (v:=s22.v) hF hS (ex_move rfl) rfl rfl fun a hF=>?_)))))))
     obtain ⟨m29,hl29,hv29,hz29⟩:=hS.lend
     obtain ⟨t_28,ht_28,hb3⟩:=bindS hb3
     refine q_call (vs:=[s22.v]) hF hS func49 (by kernel_rfl) rfl rfl rfl (c_spec_l1Own t_20 t_28 ht_28 _ m29 hv29 s22 (h22.froz hl29 (hz29 1 _ rfl))) ?_
     rintro a w _ ⟨q31,s31,rfl,hR30,h31⟩ hF hS2
     have hS:St _ _ _ _ [q31,q26,q22,q13,[⟨b10,[s6.v,s9.v],33⟩],q6,[⟨b3,[nilS.v,nilS.v],33⟩]]:=hS.joinF hR30
     have h31:=h31.any m
     refine q_x (v:=s31.v) hF hS (ex_assign rfl) rfl rfl fun a hF=>q_end (n_sq (q_seq (q_seq (q_region (q_x (v:=s31.v) hF hS (ex_move rfl) rfl rfl fun a hF=>q_x (v:=(iV (goLen t_28))) hF hS (ex_len underlying23 rfl h31.len) rfl rfl fun a hF=>q_x (v:=(iV 0)) hF hS (ex_move rfl) rfl rfl fun a hF=>q_end (n_sq (q_block ?_)))))))
     obtain ⟨at_43,hl5,hb3⟩:=bindS hb3
     refine q_loop (fun (s:(List Int) × Int) a w=>∃ (q33:Piece),∃ at_32,∃ t_34,s=(at_32,t_34)∧Fr a 73 [(0,s1.v),(1,s2.v),(4,(.pointer (some ⟨b3,0,none⟩))),(5,(.pointer (some ⟨b10,0,none⟩))),(6,(iV t_14)),(8,s22.v),(9,(iV mask_23)),(10,s31.v),(19,s13.v),(20,(iV (goLen t_11))),(21,(iV t_14)),(40,(iV (goLen t_28))),(41,(iV t_34))]∧St [] w0 w m [q33,q26,q22,q13,[⟨b10,[s6.v,s9.v],33⟩],q6,[⟨b3,[nilS.v,nilS.v],33⟩]]∧OwnL m 3 q33 s31 at_32) (fun (at_43:(List Int)) e a w=>∃ (q44:Piece),e=.exit 4∧Fr a 73 [(0,s1.v),(1,s2.v),(4,(.pointer (some ⟨b3,0,none⟩))),(5,(.pointer (some ⟨b10,0,none⟩))),(6,(iV t_14)),(8,s22.v),(9,(iV mask_23)),(10,s31.v),(19,s13.v),(20,(iV (goLen t_11))),(21,(iV t_14))]∧St [] w0 w m [q22,q44,q13,q6,q26,[⟨b10,[s6.v,s9.v],33⟩],[⟨b3,[nilS.v,nilS.v],33⟩]]∧OwnL m 3 q44 s31 at_43) hl5 ⟨q31,_,_,rfl,hF.sub ⟨rfl,rfl,rfl,rfl,rfl,rfl,rfl,rfl,rfl,rfl,rfl,rfl,rfl,trivial⟩,hS,h31⟩ ?_ ?_
     ·clear hF hS
      rintro s a w st ⟨q33,at_32,t_34,rfl,hF,hS,h33⟩ hb5
      unfold spec_cbOf_l3 at hb5
      refine q_seq (q_region (q_x (v:=(.bool (decide (t_34<(goLen t_28))))) hF hS (ex_ibin rfl rfl rfl) rfl rfl fun a hF=>q_end (n_sq (q_seq ?_))))
      rcases bcase (decide (t_34<(goLen t_28))) with hc6 | hc6
      ·have hb5:=cond_f hc6 hb5
       refine q_cond_f hF rfl hc6 (q_exit (x_sq ?_))
       obtain rfl:=someI hb5
       exact ⟨nofun,.inl ⟨q33,rfl,hF.sub ⟨rfl,rfl,rfl,rfl,rfl,rfl,rfl,rfl,rfl,rfl,rfl,trivial⟩,hS.sel [2,0,3,5,1,4,6] (by decide),h33⟩⟩
      ·have hb5:=cond_t hc6 hb5
       refine q_cond_t hF rfl hc6 (q_skipc (n_sq (q_seq (q_block (q_seq (q_region (q_x (v:=(iV t_34)) hF hS (ex_move rfl) rfl rfl fun a hF=>q_x (v:=(iV t_34)) hF hS (ex_assign rfl) rfl rfl fun a hF=>q_end (n_sq (q_seq (q_region (q_x (v:=(iV mask_23)) hF hS (ex_move rfl) rfl rfl fun a hF=>q_x (v:=(iV t_34)) hF hS (ex_move rfl) rfl rfl fun a hF=>q_x (v:=(.int .u64 (IntKind.wrap .u64 t_34))) hF hS (ex_conv underlying3 underlying97 rfl) rfl rfl fun a hF=>?_)))))))))))
       obtain ⟨t_35,ht_35,hb5⟩:=bindS hb5
       refine q_x (v:=(iV t_35)) hF hS (ex_shr rfl rfl ht_35) rfl rfl fun a hF=>q_x (v:=(iV (goBits .and .i64 t_35 1))) hF hS (ex_bits rfl rfl rfl) rfl rfl fun a hF=>q_x (v:=(.bool ((goBits .and .i64 t_35 1) == 1))) hF hS (ex_ibin rfl rfl rfl) rfl rfl fun a hF=>q_end (n_sq ?_)
       obtain ⟨at_41,hj7,hb5⟩:=bindS hb5
       refine q_join (fun a w=>∃ (q42:Piece),Fr a 73 [(0,s1.v),(1,s2.v),(4,(.pointer (some ⟨b3,0,none⟩))),(5,(.pointer (some ⟨b10,0,none⟩))),(6,(iV t_14)),(8,s22.v),(9,(iV mask_23)),(10,s31.v),(19,s13.v),(20,(iV (goLen t_11))),(21,(iV t_14)),(40,(iV (goLen t_28))),(41,(iV t_34))]∧St [] w0 w m [q22,q42,q13,q6,q26,[⟨b10,[s6.v,s9.v],33⟩],[⟨b3,[nilS.v,nilS.v],33⟩]]∧OwnL m 3 q42 s31 at_41) ?_ ?_
       ·rcases bcase ((goBits .and .i64 t_35 1) == 1) with hc8 | hc8
        ·have hj7:=cond_f hc8 hj7
         refine q_cond_f hF rfl hc8 (q_skipc (n_jn ?_))
         obtain rfl:=someI hj7
         exact ⟨q33,hF.sub ⟨rfl,rfl,rfl,rfl,rfl,rfl,rfl,rfl,rfl,rfl,rfl,rfl,rfl,trivial⟩,hS.sel [2,0,3,5,1,4,6] (by decide),h33⟩
        ·have hj7:=cond_t hc8 hj7
         refine q_cond_t hF rfl hc8 (q_region (q_x (v:=s31.v) hF hS (ex_move rfl) rfl rfl fun a hF=>q_x (v:=(iV t_34)) hF hS (ex_move rfl) rfl rfl fun a hF=>q_x (v:=s1.v) hF hS (ex_move rfl) rfl rfl fun a hF=>q_x (v:=(iV t_34)) hF hS (ex_move rfl) rfl rfl fun a hF=>?_))
         obtain ⟨e_36,he_36,hj7⟩:=bindS hj7
         obtain ⟨vs37,at37,d37⟩:=h1.at he_36 1 rfl
         obtain rfl:vs37=[(iV e_36)]:=d37
         refine q_x (v:=(elP s1 (t_34.toNat * 1))) hF hS (ex_indexAddr underlying23 sz3 rfl rfl (h1.idx he_36)) rfl rfl fun a hF=>q_x (v:=(iV e_36)) hF hS (ex_loadE1 0 underlying3 rfl rfl ((at37).at) rfl rfl) rfl rfl fun a hF=>?_
         obtain ⟨e_38,he_38,hj7⟩:=bindS hj7
         obtain ⟨vs39,at39,d39⟩:=h33.at he_38 1 rfl
         obtain rfl:vs39=[(iV e_38)]:=d39
         refine q_x (v:=(elP s31 (t_34.toNat * 1))) hF hS (ex_indexAddr underlying23 sz3 rfl rfl (h33.idx he_38)) rfl rfl fun a hF=>q_do rfl fun _ hK=>wp_storeE (e':=e_36) (us:=[(iV e_36)]) (vs:=[(iV e_38)]) 0 hF hS h33 sz3 rfl rfl rfl rfl rfl rfl rfl he_38 at39 rfl rfl rfl fun w q40 hS h40=>hK _ _ (q_end (n_jn ?_))
         obtain rfl:=someI hj7
         exact ⟨q40,hF.sub ⟨rfl,rfl,rfl,rfl,rfl,rfl,rfl,rfl,rfl,rfl,rfl,rfl,rfl,trivial⟩,hS.sel [2,0,3,5,1,4,6] (by decide),h40⟩
       ·rintro a w ⟨q42,hF,hS,h42⟩
        refine n_ib (n_sq ?_)
        refine q_region (q_x (v:=(iV (w64 (t_34 + 1)))) hF hS (ex_ibin rfl rfl rfl) rfl rfl fun a hF=>q_x (v:=(iV (w64 (t_34 + 1)))) hF hS (ex_move rfl) rfl rfl fun a hF=>q_end ?_)
        obtain rfl:=someI hb5
        exact ⟨rfl,q42,_,_,rfl,hF.sub ⟨rfl,rfl,rfl,rfl,rfl,rfl,rfl,rfl,rfl,rfl,rfl,rfl,rfl,trivial⟩,hS.sel [1,4,0,2,5,3,6] (by decide),h42⟩
     ·rintro e a w ⟨q44,rfl,hF,hS,h44⟩
      refine x_ib (n_sq ?_)
      refine e_region ⟨[13],[b10]⟩ mixed fun w' hw'=>?_
      have hS:=hS.below hw'
      refine e_p (v:=(.pointer (some ⟨b10,1,none⟩))) 0 hF rfl (ex_fieldAddr underlying33 rfl sz23 rfl rfl) rfl rfl (by kernel_rfl) (by kernel_rfl) (by kernel_rfl) fun a hF=>e_xb (v:=s9.v) 1 5 hF hS (.head _) rfl rfl (ex_load1 0 0 underlying23 rfl rfl rfl rfl) rfl rfl (by kernel_rfl) (by kernel_rfl) (by kernel_rfl) fun a hF=>e_p (v:=s1.v) 2 hF rfl (ex_move rfl) rfl rfl (by kernel_rfl) (by kernel_rfl) (by kernel_rfl) fun a hF=>e_p (v:=s31.v) 3 hF rfl (ex_move rfl) rfl rfl (by kernel_rfl) (by kernel_rfl) (by kernel_rfl) fun a hF=>e_p (v:=s2.v) 7 hF rfl (ex_move rfl) rfl rfl (by kernel_rfl) (by kernel_rfl) (by kernel_rfl) fun a hF=>e_p (v:=(iV t_14)) 8 hF rfl (ex_move rfl) rfl rfl (by kernel_rfl) (by kernel_rfl) (by kernel_rfl) fun a hF=>?_
      obtain ⟨e_51,he_51,hb3⟩:=bindS hb3
      obtain ⟨vs52,at52,d52⟩:=h2.at he_51 1 rfl
      obtain rfl:vs52=[(iV e_51)]:=d52
      refine e_p (v:=(elP s2 (t_14.toNat * 1))) 9 hF rfl (ex_indexAddr underlying23 sz3 rfl rfl (h2.idx he_51)) rfl rfl (by kernel_rfl) (by kernel_rfl) (by kernel_rfl) fun a hF=>e_x (v:=(iV e_51)) 10 hF hS rfl (ex_loadE1 0 underlying3 rfl rfl ((at52).at) rfl rfl) rfl rfl (by kernel_rfl) (by kernel_rfl) (by kernel_rfl) (by kernel_rfl) fun a hF=>e_one 4 (by kernel_rfl) ?_
      obtain ⟨m56,hl56,hv56,hz56⟩:=hS.lend
      obtain ⟨t_55,ht_55,hb3⟩:=bindS hb3
      refine e_call (vs:=[s1.v,s31.v]) hF hS rfl func76 (by kernel_rfl) rfl rfl rfl (c_spec_cbAt p_sizes at_43 t_55 ht_55 _ m56 hv56 s1 (h1.mono hl56) s31 (h44.froz hl56 (hz56 1 _ rfl))) ?_
      rintro a w _ rfl hF hS
      obtain ⟨e_57,he_57,hb3⟩:=bindS hb3
      obtain ⟨vs58,at58,d58⟩:=h26.at he_57 1 rfl
      obtain rfl:vs58=[(iV e_57)]:=d58
      refine e_p (v:=(elP s9 (t_55.toNat * 1))) 5 hF rfl (ex_indexAddr underlying23 sz3 rfl rfl (h26.idx he_57)) rfl rfl (by kernel_rfl) (by kernel_rfl) (by kernel_rfl) fun a hF=>e_x (v:=(iV e_57)) 6 hF hS rfl (ex_loadE1 0 underlying3 rfl rfl (at58.at 4 rfl) rfl rfl) rfl rfl (by kernel_rfl) (by kernel_rfl) (by kernel_rfl) (by kernel_rfl) fun a hF=>e_p (v:=(iV (w64 (e_57 + e_51)))) 11 hF rfl (ex_ibin rfl rfl rfl) rfl rfl (by kernel_rfl) (by kernel_rfl) (by kernel_rfl) fun a hF=>?_
      obtain ⟨e_59,he_59,hb3⟩:=bindS hb3
      obtain ⟨vs60,at60,d60⟩:=h26.at he_59 1 rfl
      obtain rfl:vs60=[(iV e_59)]:=d60
      refine e_p (v:=(elP s9 (t_55.toNat * 1))) 12 hF rfl (ex_indexAddr underlying23 sz3 rfl rfl (h26.idx he_59)) rfl rfl (by kernel_rfl) (by kernel_rfl) (by kernel_rfl) fun a hF=>e_one 13 (by kernel_rfl) ?_
      have hS:St _ _ _ _ [q26,q22,q44,q13,q6,[⟨b10,[s6.v,s9.v],33⟩],[⟨b3,[nilS.v,nilS.v],33⟩]]:=hS.sel [4,0,1,2,3,5,6] (by decide)
      have hSo:=hS
      refine e_opl rfl rfl rfl fun _ hK=>wp_storeE (e':=(w64 (e_57 + e_51))) (us:=[(iV (w64 (e_57 + e_51)))]) (vs:=[(iV e_59)]) 0 hF hS h26 sz3 rfl rfl rfl rfl rfl rfl rfl he_59 at60 rfl rfl rfl fun w q61 hS h61=>hK _ _ (⟨kpC hSo hS 5 5 rfl rfl kpN,?_⟩)
      refine e_end (by kernel_rfl) (n_ib (n_sq ?_)) _
      refine q_region (q_x (v:=(iV mask_23)) hF hS (ex_move rfl) rfl rfl fun a hF=>q_x (v:=(iV (w64 (mask_23 + 1)))) hF hS (ex_ibin rfl rfl rfl) rfl rfl fun a hF=>q_x (v:=(iV (w64 (mask_23 + 1)))) hF hS (ex_assign rfl) rfl rfl fun a hF=>q_end ?_)
      obtain rfl:=someI hb3
      exact ⟨rfl,q61,_,_,rfl,hF.sub ⟨rfl,rfl,rfl,rfl,rfl,rfl,rfl,rfl,rfl,rfl,trivial⟩,hS.sel [0,1,3,5,4,6] (by decide),h25,h25k,h61⟩
   ·rintro e a w ⟨q64,rfl,hF,hS,h63,h63k,h64⟩
    refine x_ib (n_ib (n_sq ?_))
    refine q_region (q_x (v:=(iV (w64 (t_14 + 1)))) hF hS (ex_ibin rfl rfl rfl) rfl rfl fun a hF=>q_x (v:=(iV (w64 (t_14 + 1)))) hF hS (ex_move rfl) rfl rfl fun a hF=>q_end ?_)
    obtain rfl:=someI hb1
    exact ⟨rfl,q64,_,_,rfl,hF.sub ⟨rfl,rfl,rfl,rfl,rfl,rfl,rfl,trivial⟩,hS.sel [2,0,3,1,4] (by decide),h63,h63k,h64⟩
 ·rintro e a w ⟨q67,rfl,hF,hS,h66,h66k,h67⟩
  refine x_ib (n_sq ?_)
  refine q_seq (q_region (q_x (v:=(.agg #[s6.v,s9.v])) hF hS (ex_loadA (vs:=[s6.v,s9.v]) 2 0 underlying33 rfl sz33 rfl rfl rfl rfl) rfl rfl fun a hF=>q_store (vs:=[s6.v,s9.v]) (cs':=[s6.v,s9.v]) 3 0 hF hS sz33 rfl rfl rfl rfl rfl rfl rfl rfl fun a w hF hS=>q_end (n_sq (q_ret ?_))))
  obtain rfl:=someI hr
  exact ret_of hF hS rfl (.cellA (us:=[s6.v,s9.v]) 3 0 underlying33 rfl sz33 rfl rfl rfl rfl .nil) ⟨q6,q67,s6,s9,rfl,hS.sel [0,1] (by decide),h66,h67⟩

theorem c_spec_cbForm (p_c:impl_Cube) (r:Bool) (hr:spec_cbForm p_c=some r) (w0:World) (m:Mem) (hv:Vis m w0) (s1:Sl) (h1:Rd m s1 p_c.Sizes) (s2:Sl) (h2:Rd m s2 p_c.Cells) :
  Ret prog 82 [(.agg #[s1.v,s2.v])] w0 (fun v _=>v=(.bool r)):=by
 unfold spec_cbForm at hr
 refine ret_start func82 rfl 21 rfl rfl m hv fun a hF hS=>q_seq (q_region (q_box (cs:=[s1.v,s2.v]) hF hS rfl rfl rfl fun a w b3 hF hS=>q_x (v:=(.bool false)) hF hS (ex_assign rfl) rfl rfl fun a hF=>q_end (n_sq (q_seq (q_region (q_x (v:=(.pointer (some ⟨b3,0,none⟩))) hF hS (ex_fieldAddr underlying33 rfl sz23 rfl rfl) rfl rfl fun a hF=>q_x (v:=s1.v) hF hS (ex_load1 0 0 underlying23 rfl rfl rfl rfl) rfl rfl fun a hF=>?_))))))
 obtain ⟨t_4,ht_4,hr⟩:=bindS hr
 refine q_call (vs:=[s1.v]) hF hS func26 (by kernel_rfl) rfl rfl rfl (c_spec_cbCount p_c.Sizes t_4 ht_4 _ m hS.vis s1 h1) ?_
 rintro a w _ rfl hF hS
 refine q_x (v:=(iV t_4)) hF hS (ex_assign rfl) rfl rfl fun a hF=>q_end (n_sq (q_seq ?_))
 obtain ⟨t_6,hj1,hr⟩:=bindS hr
 refine q_join (fun a w=>Fr a 21 [(2,(.bool t_6))]∧St [] w0 w m []) ?_ ?_
 ·refine q_region (q_x (v:=(iV t_4)) hF hS (ex_move rfl) rfl rfl fun a hF=>q_x (v:=(.bool (decide (0<t_4)))) hF hS (ex_ibin rfl rfl rfl) rfl rfl fun a hF=>q_x (v:=(.bool (decide (0<t_4)))) hF hS (ex_move rfl) rfl rfl fun a hF=>?_)
  rcases bcase (decide (0<t_4)) with hc2 | hc2
  ·have hj1:=cond_f hc2 hj1
   refine q_skip hF (wanted_f hF rfl rfl rfl hc2 rfl) rfl fun a hF=>q_skip hF (wanted_f hF rfl rfl rfl hc2 rfl) rfl fun a hF=>q_skip hF (wanted_f hF rfl rfl rfl hc2 rfl) rfl fun a hF=>q_skip hF (wanted_f hF rfl rfl rfl hc2 rfl) rfl fun a hF=>q_skip hF (wanted_f hF rfl rfl rfl hc2 rfl) rfl fun a hF=>q_x (v:=(.bool false)) hF hS (ex_pick_f rfl rfl hc2) rfl rfl fun a hF=>q_x (v:=(.bool false)) hF hS (ex_move rfl) rfl rfl fun a hF=>q_skip hF (wanted_f hF rfl rfl rfl rfl rfl) rfl fun a hF=>q_skip hF (wanted_f hF rfl rfl rfl rfl rfl) rfl fun a hF=>q_skip hF (wanted_f hF rfl rfl rfl rfl rfl) rfl fun a hF=>q_x (v:=(.bool false)) hF hS (ex_pick_f rfl rfl rfl) rfl rfl fun a hF=>q_x (v:=(.bool false)) hF hS (ex_assign rfl) rfl rfl fun a hF=>q_end (n_jn ?_)
   obtain rfl:=someI hj1
   exact ⟨hF.sub ⟨rfl,trivial⟩,hS.mask [false]⟩
  ·have hj1:=cond_t hc2 hj1
   refine q_xg (v:=(.pointer (some ⟨b3,1,none⟩))) hF hS (ex_fieldAddr underlying33 rfl sz23 rfl rfl) (wanted_t hF rfl rfl rfl hc2) rfl fun a hF=>q_xg (v:=s2.v) hF hS (ex_load1 0 0 underlying23 rfl rfl rfl rfl) (wanted_t hF rfl rfl rfl hc2) rfl fun a hF=>q_xg (v:=(iV (goLen p_c.Cells))) hF hS (ex_len underlying23 rfl h2.len) (wanted_t hF rfl rfl rfl hc2) rfl fun a hF=>q_xg (v:=(iV t_4)) hF hS (ex_move rfl) (wanted_t hF rfl rfl rfl hc2) rfl fun a hF=>q_xg (v:=(.bool ((goLen p_c.Cells) == t_4))) hF hS (ex_ibin rfl rfl rfl) (wanted_t hF rfl rfl rfl hc2) rfl fun a hF=>q_x (v:=(.bool ((goLen p_c.Cells) == t_4))) hF hS (ex_pick_t rfl rfl hc2) rfl rfl fun a hF=>q_x (v:=(.bool ((goLen p_c.Cells) == t_4))) hF hS (ex_move rfl) rfl rfl fun a hF=>?_
   rcases bcase ((goLen p_c.Cells) == t_4) with hc3 | hc3
   ·have hj1:=cond_f hc3 hj1
    refine q_skip hF (wanted_f hF rfl rfl rfl hc3 rfl) rfl fun a hF=>q_skip hF (wanted_f hF rfl rfl rfl hc3 rfl) rfl fun a hF=>q_skip hF (wanted_f hF rfl rfl rfl hc3 rfl) rfl fun a hF=>q_x (v:=(.bool false)) hF hS (ex_pick_f rfl rfl hc3) rfl rfl fun a hF=>q_x (v:=(.bool false)) hF hS (ex_assign rfl) rfl rfl fun a hF=>q_end (n_jn ?_)
    obtain rfl:=someI hj1
    exact ⟨hF.sub ⟨rfl,trivial⟩,hS.mask [false]⟩
   ·have hj1:=cond_t hc3 hj1
    refine q_xg (v:=(.pointer (some ⟨b3,1,none⟩))) hF hS (ex_fieldAddr underlying33 rfl sz23 rfl rfl) (wanted_t hF rfl rfl rfl hc3) rfl fun a hF=>q_xg (v:=s2.v) hF hS (ex_load1 0 0 underlying23 rfl rfl rfl rfl) (wanted_t hF rfl rfl rfl hc3) rfl fun a hF=>?_
    obtain ⟨t_5,ht_5,hj1⟩:=bindS hj1
    refine q_callg (vs:=[s2.v,(iV (-1000000)),(iV 1000000)]) hF hS (wanted_t hF rfl rfl rfl hc3) func72 (by kernel_rfl) rfl rfl rfl (c_spec_l1All p_c.Cells (-1000000) 1000000 t_5 ht_5 _ m hS.vis s2 h2) ?_
    rintro a w _ rfl hF hS
    refine q_x (v:=(.bool t_5)) hF hS (ex_pick_t rfl rfl hc3) rfl rfl fun a hF=>q_x (v:=(.bool t_5)) hF hS (ex_assign rfl) rfl rfl fun a hF=>q_end (n_jn ?_)
    obtain rfl:=someI hj1
    exact ⟨hF.sub ⟨rfl,trivial⟩,hS.mask [false]⟩
 ·rintro a w ⟨hF,hS⟩
  refine n_sq (q_ret ?_)
  obtain rfl:=someI hr
  exact ret_of hF hS rfl (.tmp rfl .nil) rfl

theorem c_spec_cbParts (p_sizes:List Int) (p_i:Int) (p_d:Int) (r:(List Int)) (hr:spec_cbParts p_sizes p_i p_d=some r) (w0:World) (m:Mem) (hv:Vis m w0) (s1:Sl) (h1:Rd m s1 p_sizes) :
  Ret prog 40 [s1.v,(iV p_i),(iV p_d)] w0 (fun v w=>∃ (q0':Piece) (s0':Sl),v=s0'.v∧St [] w0 w m [q0']∧OwnL m 3 q0' s0' r):=by
 unfold spec_cbParts at hr
 refine ret_start func40 rfl 32 rfl rfl m hv fun a hF hS=>q_seq (q_region (q_x (v:=nilS.v) hF hS (ex_assign rfl) rfl rfl fun a hF=>q_end (n_sq (q_seq (q_region (q_x (v:=s1.v) hF hS (ex_move rfl) rfl rfl fun a hF=>q_x (v:=(iV p_i)) hF hS (ex_move rfl) rfl rfl fun a hF=>?_))))))
 obtain ⟨t_2,ht_2,hr⟩:=bindS hr
 refine q_call (vs:=[s1.v,(iV p_i)]) hF hS func39 (by kernel_rfl) rfl rfl rfl (c_spec_cbIndices p_sizes p_i t_2 ht_2 _ m hS.vis s1 h1) ?_
 rintro a w _ ⟨q4,s4,rfl,hR3,h4⟩ hF hS2
 have hS:St _ _ _ _ [q4]:=hS.joinF hR3
 refine q_x (v:=s4.v) hF hS (ex_assign rfl) rfl rfl fun a hF=>q_end (n_sq (q_seq (q_region (q_x (v:=nilS.v) hF hS (ex_assign rfl) rfl rfl fun a hF=>q_end (n_sq (q_seq (q_seq (q_region (q_x (v:=(iV 0)) hF hS (ex_assign rfl) rfl rfl fun a hF=>q_end (n_sq (q_block ?_)))))))))))
 obtain ⟨out_20,hl1,hr⟩:=bindS hr
 refine q_loop (fun (s:(List Int) × (List Int) × Int) a w=>∃ (q6:Piece),∃ (q8:Piece),∃ (s8:Sl),∃ index_5,∃ out_7,∃ k_9,s=(index_5,out_7,k_9)∧Fr a 32 [(0,s1.v),(2,(iV p_d)),(7,s4.v),(8,s8.v),(9,(iV k_9))]∧St [] w0 w m [q6,q8]∧OwnL m 3 q6 s4 index_5∧OwnL m 3 q8 s8 out_7) (fun (out_20:(List Int)) e a w=>∃ (q21:Piece),∃ (s21:Sl),e=.exit 0∧Fr a 32 [(8,s21.v)]∧St [] w0 w m [q21]∧OwnL m 3 q21 s21 out_20) hl1 ⟨q4,[],nilS,_,_,_,rfl,hF.sub ⟨rfl,rfl,rfl,rfl,rfl,trivial⟩,hS.sel [0,1] (by decide),h4,(OwnL.nil (α:=Int) m 3)⟩ ?_ ?_
 ·clear hF hS
  rintro s a w st ⟨q6,q8,s8,index_5,out_7,k_9,rfl,hF,hS,h6,h8⟩ hb1
  unfold spec_cbParts_l1 at hb1
  refine q_seq (q_seq (q_region (q_x (v:=(iV k_9)) hF hS (ex_move rfl) rfl rfl fun a hF=>q_x (v:=s1.v) hF hS (ex_move rfl) rfl rfl fun a hF=>q_x (v:=(iV p_d)) hF hS (ex_move rfl) rfl rfl fun a hF=>?_)))
  obtain ⟨e_10,he_10,hb1⟩:=bindS hb1
  obtain ⟨vs11,at11,d11⟩:=h1.at he_10 1 rfl
  obtain rfl:vs11=[(iV e_10)]:=d11
  refine q_x (v:=(elP s1 (p_d.toNat * 1))) hF hS (ex_indexAddr underlying23 sz3 rfl rfl (h1.idx he_10)) rfl rfl fun a hF=>q_x (v:=(iV e_10)) hF hS (ex_loadE1 0 underlying3 rfl rfl ((at11).at) rfl rfl) rfl rfl fun a hF=>q_x (v:=(.bool (decide (k_9<e_10)))) hF hS (ex_ibin rfl rfl rfl) rfl rfl fun a hF=>q_end (n_sq ?_)
  rcases bcase (decide (k_9<e_10)) with hc2 | hc2
  ·have hb1:=cond_f hc2 hb1
   refine q_cond_f hF rfl hc2 (q_exit (x_sq ?_))
   obtain rfl:=someI hb1
   exact ⟨nofun,.inl ⟨q8,s8,rfl,hF.sub ⟨rfl,trivial⟩,hS.mask [false,true],h8⟩⟩
  ·have hb1:=cond_t hc2 hb1
   refine q_cond_t hF rfl hc2 (q_skipc (n_sq (q_seq (q_block (q_seq (q_region (q_x (v:=s4.v) hF hS (ex_move rfl) rfl rfl fun a hF=>q_x (v:=(iV p_d)) hF hS (ex_move rfl) rfl rfl fun a hF=>q_x (v:=(iV k_9)) hF hS (ex_move rfl) rfl rfl fun a hF=>?_)))))))
   obtain ⟨e_12,he_12,hb1⟩:=bindS hb1
   obtain ⟨vs13,at13,d13⟩:=h6.at he_12 1 rfl
   obtain rfl:vs13=[(iV e_12)]:=d13
   refine q_x (v:=(elP s4 (p_d.toNat * 1))) hF hS (ex_indexAddr underlying23 sz3 rfl rfl (h6.idx he_12)) rfl rfl fun a hF=>q_do rfl fun _ hK=>wp_storeE (e':=k_9) (us:=[(iV k_9)]) (vs:=[(iV e_12)]) 0 hF hS h6 sz3 rfl rfl rfl rfl rfl rfl rfl he_12 at13 rfl rfl rfl fun w q14 hS h14=>hK _ _ (q_end (n_sq (q_region (q_x (v:=s8.v) hF hS (ex_move rfl) rfl rfl fun a hF=>q_x (v:=s1.v) hF hS (ex_move rfl) rfl rfl fun a hF=>q_x (v:=s4.v) hF hS (ex_move rfl) rfl rfl fun a hF=>?_))))
   obtain ⟨m16,hl16,hv16,hz16⟩:=hS.lend
   obtain ⟨t_15,ht_15,hb1⟩:=bindS hb1
   refine q_call (vs:=[s1.v,s4.v]) hF hS func76 (by kernel_rfl) rfl rfl rfl (c_spec_cbAt p_sizes (goSet index_5 p_d k_9) t_15 ht_15 _ m16 hv16 s1 (h1.mono hl16) s4 (h14.froz hl16 (hz16 0 _ rfl))) ?_
   rintro a w _ rfl hF hS
   refine q_do rfl fun _ hK=>wp_buildSlice' (l:=([t_15]:List Int)) (cells:=[(iV t_15)]) hF hS underlying23 inf3 rfl rfl (by kernel_rfl) rfl rfl rfl ⟨rfl,rfl⟩ rfl rfl fun a w q17 s17 hF hS h17 _=>hK _ _ ?_
   have hS:St _ _ _ _ [q8,q17,q14]:=hS.sel [2,0,1] (by decide)
   obtain ⟨l_18,hl_18,hb1⟩:=bindS hb1
   refine q_do rfl fun _ hK=>wp_append hF hS h8 underlying23 inf3 rfl rfl rfl rfl (h17.vw hS (j:=1) rfl) rfl (by decide) hl_18 rfl fun a w q19 s19 hF hS h19=>hK _ _ (q_x (v:=s19.v) hF hS (ex_assign rfl) rfl rfl fun a hF=>q_end (n_ib (n_sq (q_region (q_x (v:=(iV k_9)) hF hS (ex_move rfl) rfl rfl fun a hF=>q_x (v:=(iV (w64 (k_9 + 1)))) hF hS (ex_ibin rfl rfl rfl) rfl rfl fun a hF=>q_x (v:=(iV (w64 (k_9 + 1)))) hF hS (ex_assign rfl) rfl rfl fun a hF=>q_end ?_)))))
   obtain rfl:=someI hb1
   exact ⟨rfl,q14,q19,s19,_,_,_,rfl,hF.sub ⟨rfl,rfl,rfl,rfl,rfl,trivial⟩,hS.sel [2,0] (by decide),h14,h19⟩
 ·rintro e a w ⟨q21,s21,rfl,hF,hS,h21⟩
  refine x_ib (n_sq ?_)
  refine q_seq (q_region (q_x (v:=s21.v) hF hS (ex_move rfl) rfl rfl fun a hF=>q_x (v:=s21.v) hF hS (ex_assign rfl) rfl rfl fun a hF=>q_end (n_sq (q_ret ?_))))
  obtain rfl:=someI hr
  exact ret_of hF hS rfl (.tmp rfl .nil) ⟨q21,s21,rfl,hS.sel [0] (by decide),h21⟩

theorem c_spec_cbBroken (p_c:impl_Cube) (p_i:Int) (r:Bool) (hr:spec_cbBroken p_c p_i=some r) (w0:World) (m:Mem) (hv:Vis m w0) (s1:Sl) (h1:Rd m s1 p_c.Sizes) (s2:Sl) (h2:Rd m s2 p_c.Cells) :
  Ret prog 110 [(.agg #[s1.v,s2.v]),(iV p_i)] w0 (fun v _=>v=(.bool r)):=by
 unfold spec_cbBroken at hr
 refine ret_start func110 rfl 53 rfl rfl m hv fun a hF hS=>q_seq (q_region (q_box (cs:=[s1.v,s2.v]) hF hS rfl rfl rfl fun a w b3 hF hS=>q_x (v:=(.bool false)) hF hS (ex_assign rfl) rfl rfl fun a hF=>q_end (n_sq (q_seq (q_seq (q_region (q_x (v:=(.pointer (some ⟨b3,0,none⟩))) hF hS (ex_fieldAddr underlying33 rfl sz23 rfl rfl) rfl rfl fun a hF=>q_x (v:=s1.v) hF hS (ex_load1 0 0 underlying23 rfl rfl rfl rfl) rfl rfl fun a hF=>q_x (v:=(iV p_i)) hF hS (ex_move rfl) rfl rfl fun a hF=>?_)))))))
 obtain ⟨t_4,ht_4,hr⟩:=bindS hr
 refine q_call (vs:=[s1.v,(iV p_i)]) hF hS func39 (by kernel_rfl) rfl rfl rfl (c_spec_cbIndices p_c.Sizes p_i t_4 ht_4 _ m hS.vis s1 h1) ?_
 rintro a w _ ⟨q6,s6,rfl,hR5,h6⟩ hF hS2
 have hS:St _ _ _ _ [q6,[⟨b3,[s1.v,s2.v],33⟩]]:=hS.joinF hR5
 refine q_x (v:=(iV (goLen t_4))) hF hS (ex_len underlying23 rfl h6.len) rfl rfl fun a hF=>q_x (v:=(iV 0)) hF hS (ex_move rfl) rfl rfl fun a hF=>q_end (n_sq (q_block ?_))
 obtain ⟨o1,hl1,hr⟩:=bindS hr
 refine q_loop (fun (t_7:Int) a w=>Fr a 53 [(1,(iV p_i)),(2,(.pointer (some ⟨b3,0,none⟩))),(13,s6.v),(14,(iV (goLen t_4))),(15,(iV t_7))]∧St [] w0 w m [q6,[⟨b3,[s1.v,s2.v],33⟩]]) (fun (o:(Unit) ⊕ (Bool)) e a w=>o=.inl ()∧e=.exit 0∧Fr a 53 []∧St [] w0 w m []) hl1 ⟨hF.sub ⟨rfl,rfl,rfl,rfl,rfl,trivial⟩,hS⟩ ?_ ?_
 ·clear hF hS
  rintro t_7 a w st ⟨hF,hS⟩ hb1
  unfold spec_cbBroken_l1 at hb1
  refine q_seq (q_region (q_x (v:=(.bool (decide (t_7<(goLen t_4))))) hF hS (ex_ibin rfl rfl rfl) rfl rfl fun a hF=>q_end (n_sq (q_seq ?_))))
  rcases bcase (decide (t_7<(goLen t_4))) with hc2 | hc2
  ·have hb1:=cond_f hc2 hb1
   refine q_cond_f hF rfl hc2 (q_exit (x_sq ?_))
   obtain rfl:=someI hb1
   exact ⟨nofun,.inl ⟨rfl,rfl,hF.sub trivial,hS.mask [false,false]⟩⟩
  ·have hb1:=cond_t hc2 hb1
   refine q_cond_t hF rfl hc2 (q_skipc (n_sq (q_seq ?_)))
   obtain ⟨j3,hj3,hb1⟩:=bindS hb1
   refine q_join (fun a w=>j3=.inl ()∧Fr a 53 [(1,(iV p_i)),(2,(.pointer (some ⟨b3,0,none⟩))),(13,s6.v),(14,(iV (goLen t_4))),(15,(iV t_7))]∧St [] w0 w m [q6,[⟨b3,[s1.v,s2.v],33⟩]]) ?_ ?_
   ·refine q_block (q_seq (q_region (q_x (v:=(iV t_7)) hF hS (ex_move rfl) rfl rfl fun a hF=>?_)))
    obtain ⟨e_8,he_8,hj3⟩:=bindS hj3
    obtain ⟨vs9,at9,d9⟩:=h6.at he_8 1 rfl
    obtain rfl:vs9=[(iV e_8)]:=d9
    refine q_x (v:=(elP s6 (t_7.toNat * 1))) hF hS (ex_indexAddr underlying23 sz3 rfl rfl (h6.idx he_8)) rfl rfl fun a hF=>q_x (v:=(iV e_8)) hF hS (ex_loadE1 0 underlying3 rfl rfl (at9.at 0 rfl) rfl rfl) rfl rfl fun a hF=>q_x (v:=(iV t_7)) hF hS (ex_assign rfl) rfl rfl fun a hF=>q_x (v:=(iV e_8)) hF hS (ex_assign rfl) rfl rfl fun a hF=>q_end (n_sq (q_seq (q_seq (q_region (q_x (v:=(iV e_8)) hF hS (ex_move rfl) rfl rfl fun a hF=>q_x (v:=(.pointer (some ⟨b3,0,none⟩))) hF hS (ex_fieldAddr underlying33 rfl sz23 rfl rfl) rfl rfl fun a hF=>q_x (v:=s1.v) hF hS (ex_load1 1 0 underlying23 rfl rfl rfl rfl) rfl rfl fun a hF=>q_x (v:=(iV t_7)) hF hS (ex_move rfl) rfl rfl fun a hF=>?_)))))
    obtain ⟨e_10,he_10,hj3⟩:=bindS hj3
    obtain ⟨vs11,at11,d11⟩:=h1.at he_10 1 rfl
    obtain rfl:vs11=[(iV e_10)]:=d11
    refine q_x (v:=(elP s1 (t_7.toNat * 1))) hF hS (ex_indexAddr underlying23 sz3 rfl rfl (h1.idx he_10)) rfl rfl fun a hF=>q_x (v:=(iV e_10)) hF hS (ex_loadE1 0 underlying3 rfl rfl ((at11).at) rfl rfl) rfl rfl fun a hF=>q_x (v:=(.bool (e_8 != e_10))) hF hS (ex_ibin rfl rfl rfl) rfl rfl fun a hF=>q_end (n_sq ?_)
    rcases bcase (e_8 != e_10) with hc4 | hc4
    ·have hj3:=cond_f hc4 hj3
     refine q_cond_f hF rfl hc4 (q_skipc (n_sq (q_seq (q_region (q_x (v:=(iV 0)) hF hS (ex_assign rfl) rfl rfl fun a hF=>q_end (n_sq (q_seq (q_seq (q_region (q_x (v:=(.pointer (some ⟨b3,0,none⟩))) hF hS (ex_fieldAddr underlying33 rfl sz23 rfl rfl) rfl rfl fun a hF=>q_x (v:=s1.v) hF hS (ex_load1 1 0 underlying23 rfl rfl rfl rfl) rfl rfl fun a hF=>q_x (v:=(iV p_i)) hF hS (ex_move rfl) rfl rfl fun a hF=>q_x (v:=(iV t_7)) hF hS (ex_move rfl) rfl rfl fun a hF=>?_))))))))))
     obtain ⟨t_12,ht_12,hj3⟩:=bindS hj3
     refine q_call (vs:=[s1.v,(iV p_i),(iV t_7)]) hF hS func40 (by kernel_rfl) rfl rfl rfl (c_spec_cbParts p_c.Sizes p_i t_7 t_12 ht_12 _ m hS.vis s1 h1) ?_
     rintro a w _ ⟨q14,s14,rfl,hR13,h14⟩ hF hS2
     have hS:St _ _ _ _ [q14,q6,[⟨b3,[s1.v,s2.v],33⟩]]:=hS.joinF hR13
     refine q_x (v:=(iV (goLen t_12))) hF hS (ex_len underlying23 rfl h14.len) rfl rfl fun a hF=>q_x (v:=(iV 0)) hF hS (ex_move rfl) rfl rfl fun a hF=>q_end (n_sq (q_block ?_))
     obtain ⟨sum_21,hl5,hj3⟩:=bindS hj3
     refine q_loop (fun (s:Int × Int) a w=>∃ sum_15,∃ t_16,s=(sum_15,t_16)∧Fr a 53 [(1,(iV p_i)),(2,(.pointer (some ⟨b3,0,none⟩))),(7,(iV sum_15)),(13,s6.v),(14,(iV (goLen t_4))),(15,(iV t_7)),(31,s14.v),(32,(iV (goLen t_12))),(33,(iV t_16))]∧St [] w0 w m [q14,q6,[⟨b3,[s1.v,s2.v],33⟩]]) (fun (sum_21:Int) e a w=>e=.exit 2∧Fr a 53 [(1,(iV p_i)),(2,(.pointer (some ⟨b3,0,none⟩))),(7,(iV sum_21)),(13,s6.v),(14,(iV (goLen t_4))),(15,(iV t_7))]∧St [] w0 w m [q6,[⟨b3,[s1.v,s2.v],33⟩]]) hl5 ⟨_,_,rfl,hF.sub ⟨rfl,rfl,rfl,rfl,rfl,rfl,rfl,rfl,rfl,trivial⟩,hS⟩ ?_ ?_
     ·clear hF hS
      rintro s a w st ⟨sum_15,t_16,rfl,hF,hS⟩ hb5
      unfold spec_cbBroken_l2 at hb5
      refine q_seq (q_region (q_x (v:=(.bool (decide (t_16<(goLen t_12))))) hF hS (ex_ibin rfl rfl rfl) rfl rfl fun a hF=>q_end (n_sq (q_seq ?_))))
      rcases bcase (decide (t_16<(goLen t_12))) with hc6 | hc6
      ·have hb5:=cond_f hc6 hb5
       refine q_cond_f hF rfl hc6 (q_exit (x_sq ?_))
       obtain rfl:=someI hb5
       exact ⟨nofun,.inl ⟨rfl,hF.sub ⟨rfl,rfl,rfl,rfl,rfl,rfl,trivial⟩,hS.mask [false,true,true]⟩⟩
      ·have hb5:=cond_t hc6 hb5
       refine q_cond_t hF rfl hc6 (q_skipc (n_sq (q_seq (q_block (q_seq (q_region ?_))))))
       obtain ⟨e_17,he_17,hb5⟩:=bindS hb5
       obtain ⟨vs18,at18,d18⟩:=h14.at he_17 1 rfl
       obtain rfl:vs18=[(iV e_17)]:=d18
       refine q_x (v:=(elP s14 (t_16.toNat * 1))) hF hS (ex_indexAddr underlying23 sz3 rfl rfl (h14.idx he_17)) rfl rfl fun a hF=>q_x (v:=(iV e_17)) hF hS (ex_loadE1 0 underlying3 rfl rfl (at18.at 0 rfl) rfl rfl) rfl rfl fun a hF=>q_x (v:=(iV e_17)) hF hS (ex_assign rfl) rfl rfl fun a hF=>q_end (n_sq (q_region (q_x (v:=(iV sum_15)) hF hS (ex_move rfl) rfl rfl fun a hF=>q_x (v:=(.pointer (some ⟨b3,1,none⟩))) hF hS (ex_fieldAddr underlying33 rfl sz23 rfl rfl) rfl rfl fun a hF=>q_x (v:=s2.v) hF hS (ex_load1 2 0 underlying23 rfl rfl rfl rfl) rfl rfl fun a hF=>q_x (v:=(iV e_17)) hF hS (ex_move rfl) rfl rfl fun a hF=>?_)))
       obtain ⟨e_19,he_19,hb5⟩:=bindS hb5
       obtain ⟨vs20,at20,d20⟩:=h2.at he_19 1 rfl
       obtain rfl:vs20=[(iV e_19)]:=d20
       refine q_x (v:=(elP s2 (e_17.toNat * 1))) hF hS (ex_indexAddr underlying23 sz3 rfl rfl (h2.idx he_19)) rfl rfl fun a hF=>q_x (v:=(iV e_19)) hF hS (ex_loadE1 0 underlying3 rfl rfl ((at20).at) rfl rfl) rfl rfl fun a hF=>q_x (v:=(iV (w64 (sum_15 + e_19)))) hF hS (ex_ibin rfl rfl rfl) rfl rfl fun a hF=>q_x (v:=(iV (w64 (sum_15 + e_19)))) hF hS (ex_assign rfl) rfl rfl fun a hF=>q_end (n_ib (n_sq (q_region (q_x (v:=(iV (w64 (t_16 + 1)))) hF hS (ex_ibin rfl rfl rfl) rfl rfl fun a hF=>q_x (v:=(iV (w64 (t_16 + 1)))) hF hS (ex_move rfl) rfl rfl fun a hF=>q_end ?_))))
       obtain rfl:=someI hb5
       exact ⟨rfl,_,_,rfl,hF.sub ⟨rfl,rfl,rfl,rfl,rfl,rfl,rfl,rfl,rfl,trivial⟩,hS⟩
     ·rintro e a w ⟨rfl,hF,hS⟩
      refine x_ib (n_sq ?_)
      refine q_seq (q_region (q_x (v:=(iV sum_21)) hF hS (ex_move rfl) rfl rfl fun a hF=>q_x (v:=(.pointer (some ⟨b3,1,none⟩))) hF hS (ex_fieldAddr underlying33 rfl sz23 rfl rfl) rfl rfl fun a hF=>q_x (v:=s2.v) hF hS (ex_load1 1 0 underlying23 rfl rfl rfl rfl) rfl rfl fun a hF=>q_x (v:=(iV p_i)) hF hS (ex_move rfl) rfl rfl fun a hF=>?_))
      obtain ⟨e_22,he_22,hj3⟩:=bindS hj3
      obtain ⟨vs23,at23,d23⟩:=h2.at he_22 1 rfl
      obtain rfl:vs23=[(iV e_22)]:=d23
      refine q_x (v:=(elP s2 (p_i.toNat * 1))) hF hS (ex_indexAddr underlying23 sz3 rfl rfl (h2.idx he_22)) rfl rfl fun a hF=>q_x (v:=(iV e_22)) hF hS (ex_loadE1 0 underlying3 rfl rfl ((at23).at) rfl rfl) rfl rfl fun a hF=>q_x (v:=(.bool (sum_21 != e_22))) hF hS (ex_ibin rfl rfl rfl) rfl rfl fun a hF=>q_end (n_sq ?_)
      rcases bcase (sum_21 != e_22) with hc7 | hc7
      ·have hj3:=cond_f hc7 hj3
       refine q_cond_f hF rfl hc7 (q_skipc (n_ib (n_jn ?_)))
       obtain rfl:=someI hj3
       exact ⟨rfl,hF.sub ⟨rfl,rfl,rfl,rfl,rfl,trivial⟩,hS⟩
      ·have hj3:=cond_t hc7 hj3
       refine q_cond_t hF rfl hc7 (q_seq (q_region (q_x (v:=(.bool true)) hF hS (ex_assign rfl) rfl rfl fun a hF=>q_end (n_sq (q_ret (r_ib (r_jn ?_)))))))
       obtain rfl:=someI hj3
       refine r_sq ?_
       obtain rfl:=someI hb1
       refine ⟨nofun,.inr fun ho=>?_⟩
       subst ho
       refine r_ib (r_sq ?_)
       obtain rfl:=someI hr
       exact ret_of hF hS rfl (.tmp rfl .nil) rfl
    ·have hj3:=cond_t hc4 hj3
     refine q_cond_t hF rfl hc4 (q_exit (x_sq (x_ib (n_jn ?_))))
     obtain rfl:=someI hj3
     exact ⟨rfl,hF.sub ⟨rfl,rfl,rfl,rfl,rfl,trivial⟩,hS⟩
   ·rintro a w ⟨rfl,hF,hS⟩
    refine n_sq ?_
    refine q_region (q_x (v:=(iV (w64 (t_7 + 1)))) hF hS (ex_ibin rfl rfl rfl) rfl rfl fun a hF=>q_x (v:=(iV (w64 (t_7 + 1)))) hF hS (ex_move rfl) rfl rfl fun a hF=>q_end ?_)
    obtain rfl:=someI hb1
    exact ⟨rfl,hF.sub ⟨rfl,rfl,rfl,rfl,rfl,trivial⟩,hS⟩
 ·rintro e a w ⟨rfl,rfl,hF,hS⟩
  refine x_ib (n_sq ?_)
  refine q_seq (q_region (q_x (v:=(.bool false)) hF hS (ex_assign rfl) rfl rfl fun a hF=>q_end (n_sq (q_ret ?_))))
  obtain rfl:=someI hr
  exact ret_of hF hS rfl (.tmp rfl .nil) rfl

theorem c_spec_cbFirst (p_c:impl_Cube) (r:Int) (hr:spec_cbFirst p_c=some r) (w0:World) (m:Mem) (hv:Vis m w0) (s1:Sl) (h1:Rd m s1 p_c.Sizes) (s2:Sl) (h2:Rd m s2 p_c.Cells) :
  Ret prog 83 [(.agg #[s1.v,s2.v])] w0 (fun v _=>v=(iV r)):=by
 unfold spec_cbFirst at hr
 refine ret_start func83 rfl 18 rfl rfl m hv fun a hF hS=>q_seq (q_region (q_box (cs:=[s1.v,s2.v]) hF hS rfl rfl rfl fun a w b3 hF hS=>q_x (v:=(iV 0)) hF hS (ex_assign rfl) rfl rfl fun a hF=>q_end (n_sq (q_seq (q_seq (q_region (q_x (v:=(.pointer (some ⟨b3,1,none⟩))) hF hS (ex_fieldAddr underlying33 rfl sz23 rfl rfl) rfl rfl fun a hF=>q_x (v:=s2.v) hF hS (ex_load1 0 0 underlying23 rfl rfl rfl rfl) rfl rfl fun a hF=>q_x (v:=(iV (goLen p_c.Cells))) hF hS (ex_len underlying23 rfl h2.len) rfl rfl fun a hF=>q_x (v:=(iV 0)) hF hS (ex_move rfl) rfl rfl fun a hF=>q_end (n_sq (q_block ?_)))))))))
 obtain ⟨o1,hl1,hr⟩:=bindS hr
 refine q_loop (fun (t_4:Int) a w=>Fr a 18 [(1,(.pointer (some ⟨b3,0,none⟩))),(6,(iV (goLen p_c.Cells))),(7,(iV t_4))]∧St [] w0 w m [[⟨b3,[s1.v,s2.v],33⟩]]) (fun (o:(Unit) ⊕ (Int)) e a w=>o=.inl ()∧e=.exit 0∧Fr a 18 [(1,(.pointer (some ⟨b3,0,none⟩)))]∧St [] w0 w m [[⟨b3,[s1.v,s2.v],33⟩]]) hl1 ⟨hF.sub ⟨rfl,rfl,rfl,trivial⟩,hS⟩ ?_ ?_
 ·clear hF hS
  rintro t_4 a w st ⟨hF,hS⟩ hb1
  unfold spec_cbFirst_l1 at hb1
  refine q_seq (q_region (q_x (v:=(.bool (decide (t_4<(goLen p_c.Cells))))) hF hS (ex_ibin rfl rfl rfl) rfl rfl fun a hF=>q_end (n_sq (q_seq ?_))))
  rcases bcase (decide (t_4<(goLen p_c.Cells))) with hc2 | hc2
  ·have hb1:=cond_f hc2 hb1
   refine q_cond_f hF rfl hc2 (q_exit (x_sq ?_))
   obtain rfl:=someI hb1
   exact ⟨nofun,.inl ⟨rfl,rfl,hF.sub ⟨rfl,trivial⟩,hS⟩⟩
  ·have hb1:=cond_t hc2 hb1
   refine q_cond_t hF rfl hc2 (q_skipc (n_sq (q_seq (q_block (q_seq (q_region (q_x (v:=(iV t_4)) hF hS (ex_move rfl) rfl rfl fun a hF=>q_x (v:=(iV t_4)) hF hS (ex_assign rfl) rfl rfl fun a hF=>q_end (n_sq (q_seq (q_region (q_x (v:=(.agg #[s1.v,s2.v])) hF hS (ex_loadA (vs:=[s1.v,s2.v]) 0 0 underlying33 rfl sz33 rfl rfl rfl rfl) rfl rfl fun a hF=>q_x (v:=(iV t_4)) hF hS (ex_move rfl) rfl rfl fun a hF=>?_)))))))))))
   obtain ⟨t_5,ht_5,hb1⟩:=bindS hb1
   refine q_call (vs:=[(.agg #[s1.v,s2.v]),(iV t_4)]) hF hS func110 (by kernel_rfl) rfl rfl rfl (c_spec_cbBroken p_c t_4 t_5 ht_5 _ m hS.vis s1 h1 s2 h2) ?_
   rintro a w _ rfl hF hS
   refine q_end (n_sq ?_)
   rcases bcase (t_5) with hc3 | hc3
   ·have hb1:=cond_f hc3 hb1
    refine q_cond_f hF rfl hc3 (q_skipc (n_ib (n_sq (q_region (q_x (v:=(iV (w64 (t_4 + 1)))) hF hS (ex_ibin rfl rfl rfl) rfl rfl fun a hF=>q_x (v:=(iV (w64 (t_4 + 1)))) hF hS (ex_move rfl) rfl rfl fun a hF=>q_end ?_)))))
    obtain rfl:=someI hb1
    exact ⟨rfl,hF.sub ⟨rfl,rfl,rfl,trivial⟩,hS⟩
   ·have hb1:=cond_t hc3 hb1
    refine q_cond_t hF rfl hc3 (q_seq (q_region (q_x (v:=(iV t_4)) hF hS (ex_move rfl) rfl rfl fun a hF=>q_x (v:=(iV t_4)) hF hS (ex_assign rfl) rfl rfl fun a hF=>q_end (n_sq (q_ret (r_ib (r_sq ?_)))))))
    obtain rfl:=someI hb1
    refine ⟨nofun,.inr fun ho=>?_⟩
    subst ho
    refine r_ib (r_sq ?_)
    obtain rfl:=someI hr
    exact ret_of hF hS rfl (.tmp rfl .nil) rfl
 ·rintro e a w ⟨rfl,rfl,hF,hS⟩
  refine x_ib (n_sq ?_)
  refine q_seq (q_region (q_x (v:=(.pointer (some ⟨b3,1,none⟩))) hF hS (ex_fieldAddr underlying33 rfl sz23 rfl rfl) rfl rfl fun a hF=>q_x (v:=s2.v) hF hS (ex_load1 0 0 underlying23 rfl rfl rfl rfl) rfl rfl fun a hF=>q_x (v:=(iV (goLen p_c.Cells))) hF hS (ex_len underlying23 rfl h2.len) rfl rfl fun a hF=>q_x (v:=(iV (goLen p_c.Cells))) hF hS (ex_assign rfl) rfl rfl fun a hF=>q_end (n_sq (q_ret ?_))))
  obtain rfl:=someI hr
  exact ret_of hF hS rfl (.tmp rfl .nil) rfl

theorem c_spec_cbGood (p_c:impl_Cube) (r:Bool) (hr:spec_cbGood p_c=some r) (w0:World) (m:Mem) (hv:Vis m w0) (s1:Sl) (h1:Rd m s1 p_c.Sizes) (s2:Sl) (h2:Rd m s2 p_c.Cells) :
  Ret prog 47 [(.agg #[s1.v,s2.v])] w0 (fun v _=>v=(.bool r)):=by
 unfold spec_cbGood at hr
 refine ret_start func47 rfl 13 rfl rfl m hv fun a hF hS=>q_seq (q_region (q_box (cs:=[s1.v,s2.v]) hF hS rfl rfl rfl fun a w b3 hF hS=>q_x (v:=(.bool false)) hF hS (ex_assign rfl) rfl rfl fun a hF=>q_end (n_sq (q_seq ?_))))
 obtain ⟨t_9,hj1,hr⟩:=bindS hr
 refine q_join (fun a w=>Fr a 13 [(2,(.bool t_9))]∧St [] w0 w m []) ?_ ?_
 ·refine e_region ⟨[],[]⟩ mixed fun w' hw'=>?_
  have hS:=hS.below hw'
  refine e_x (v:=(.agg #[s1.v,s2.v])) 0 hF hS rfl (ex_loadA (vs:=[s1.v,s2.v]) 0 0 underlying33 rfl sz33 rfl rfl rfl rfl) rfl rfl (by kernel_rfl) (by kernel_rfl) (by kernel_rfl) (by kernel_rfl) fun a hF=>e_one 1 (by kernel_rfl) ?_
  obtain ⟨t_4,ht_4,hj1⟩:=bindS hj1
  refine e_call (vs:=[(.agg #[s1.v,s2.v])]) hF hS rfl func82 (by kernel_rfl) rfl rfl rfl (c_spec_cbForm p_c t_4 ht_4 _ m hS.vis s1 h1 s2 h2) ?_
  rintro a w _ rfl hF hS
  refine e_p (v:=(.bool t_4)) 2 hF rfl (ex_move rfl) rfl rfl (by kernel_rfl) (by kernel_rfl) (by kernel_rfl) fun a hF=>?_
  rcases bcase (t_4) with hc2 | hc2
  ·have hj1:=cond_f hc2 hj1
   refine e_skipP 3 hF rfl (wanted_f hF rfl rfl rfl hc2 rfl) rfl (by kernel_rfl) (by kernel_rfl) (by kernel_rfl) fun a hF=>e_skipP 4 hF rfl (wanted_f hF rfl rfl rfl hc2 rfl) rfl (by kernel_rfl) (by kernel_rfl) (by kernel_rfl) fun a hF=>e_skipP 5 hF rfl (wanted_f hF rfl rfl rfl hc2 rfl) rfl (by kernel_rfl) (by kernel_rfl) (by kernel_rfl) fun a hF=>e_skipP 6 hF rfl (wanted_f hF rfl rfl rfl hc2 rfl) rfl (by kernel_rfl) (by kernel_rfl) (by kernel_rfl) fun a hF=>e_skipP 7 hF rfl (wanted_f hF rfl rfl rfl hc2 rfl) rfl (by kernel_rfl) (by kernel_rfl) (by kernel_rfl) fun a hF=>e_skipP 8 hF rfl (wanted_f hF rfl rfl rfl hc2 rfl) rfl (by kernel_rfl) (by kernel_rfl) (by kernel_rfl) fun a hF=>e_p (v:=(.bool false)) 9 hF rfl (ex_pick_f rfl rfl hc2) rfl rfl (by kernel_rfl) (by kernel_rfl) (by kernel_rfl) fun a hF=>e_p (v:=(.bool false)) 10 hF rfl (ex_assign rfl) rfl rfl (by kernel_rfl) (by kernel_rfl) (by kernel_rfl) fun a hF=>e_end (by kernel_rfl) (n_jn ?_) _
   obtain rfl:=someI hj1
   exact ⟨hF.sub ⟨rfl,trivial⟩,hS.mask [false]⟩
  ·have hj1:=cond_t hc2 hj1
   refine e_xg (v:=(.agg #[s1.v,s2.v])) 3 hF hS rfl (ex_loadA (vs:=[s1.v,s2.v]) 0 0 underlying33 rfl sz33 rfl rfl rfl rfl) (wanted_t hF rfl rfl rfl hc2) rfl (by kernel_rfl) (by kernel_rfl) (by kernel_rfl) (by kernel_rfl) fun a hF=>e_pg (v:=(.pointer (some ⟨b3,1,none⟩))) 5 hF rfl (ex_fieldAddr underlying33 rfl sz23 rfl rfl) (wanted_t hF rfl rfl rfl hc2) rfl (by kernel_rfl) (by kernel_rfl) (by kernel_rfl) fun a hF=>e_xg (v:=s2.v) 6 hF hS rfl (ex_load1 0 0 underlying23 rfl rfl rfl rfl) (wanted_t hF rfl rfl rfl hc2) rfl (by kernel_rfl) (by kernel_rfl) (by kernel_rfl) (by kernel_rfl) fun a hF=>e_pg (v:=(iV (goLen p_c.Cells))) 7 hF rfl (ex_len underlying23 rfl h2.len) (wanted_t hF rfl rfl rfl hc2) rfl (by kernel_rfl) (by kernel_rfl) (by kernel_rfl) fun a hF=>e_one 4 (by kernel_rfl) ?_
   obtain ⟨t_8,ht_8,hj1⟩:=bindS hj1
   refine e_callg (vs:=[(.agg #[s1.v,s2.v])]) hF hS rfl (wanted_t hF rfl rfl rfl hc2) func83 (by kernel_rfl) rfl rfl rfl (c_spec_cbFirst p_c t_8 ht_8 _ m hS.vis s1 h1 s2 h2) ?_
   rintro a w _ rfl hF hS
   refine e_pg (v:=(.bool (t_8 == (goLen p_c.Cells)))) 8 hF rfl (ex_ibin rfl rfl rfl) (wanted_t hF rfl rfl rfl hc2) rfl (by kernel_rfl) (by kernel_rfl) (by kernel_rfl) fun a hF=>e_p (v:=(.bool (t_8 == (goLen p_c.Cells)))) 9 hF rfl (ex_pick_t rfl rfl hc2) rfl rfl (by kernel_rfl) (by kernel_rfl) (by kernel_rfl) fun a hF=>e_p (v:=(.bool (t_8 == (goLen p_c.Cells)))) 10 hF rfl (ex_assign rfl) rfl rfl (by kernel_rfl) (by kernel_rfl) (by kernel_rfl) fun a hF=>e_end (by kernel_rfl) (n_jn ?_) _
   obtain rfl:=someI hj1
   exact ⟨hF.sub ⟨rfl,trivial⟩,hS.mask [false]⟩
 ·rintro a w ⟨hF,hS⟩
  refine n_sq (q_ret ?_)
  obtain rfl:=someI hr
  exact ret_of hF hS rfl (.tmp rfl .nil) rfl

theorem c_spec_cbIf (p_c:impl_Cube) (r:impl_Cube × Bool) (hr:spec_cbIf p_c=some r) (w0:World) (m:Mem) (hv:Vis m w0) (s1:Sl) (h1:Rd m s1 p_c.Sizes) (s2:Sl) (h2:Rd m s2 p_c.Cells) :
  Ret prog 28 [(.agg #[s1.v,s2.v])] w0 (fun v w=>∃ (m':Mem) (s0':Sl) (s1':Sl),v=(.tuple #[(.agg #[s0'.v,s1'.v]),(.bool r.2)])∧MLe [] w0.heap.size m m'∧St [] w0 w m' []∧Rd m' s0' r.1.Sizes∧Rd m' s1' r.1.Cells):=by
 unfold spec_cbIf at hr
 refine ret_start func28 rfl 9 rfl rfl m hv fun a hF hS=>q_seq (q_region (q_box (cs:=[s1.v,s2.v]) hF hS rfl rfl rfl fun a w b3 hF hS=>q_alloc (cs:=[nilS.v,nilS.v]) hF hS rfl rfl rfl fun a w b4 hF hS=>q_x (v:=(.bool false)) hF hS (ex_assign rfl) rfl rfl fun a hF=>q_end (n_sq (q_seq (q_seq (q_region (q_x (v:=(.agg #[s1.v,s2.v])) hF hS (ex_loadA (vs:=[s1.v,s2.v]) 1 0 underlying33 rfl sz33 rfl rfl rfl rfl) rfl rfl fun a hF=>?_)))))))
 obtain ⟨t_5,ht_5,hr⟩:=bindS hr
 refine q_call (vs:=[(.agg #[s1.v,s2.v])]) hF hS func47 (by kernel_rfl) rfl rfl rfl (c_spec_cbGood p_c t_5 ht_5 _ m hS.vis s1 h1 s2 h2) ?_
 rintro a w _ rfl hF hS
 refine q_x (v:=(.bool (!t_5))) hF hS (ex_not rfl) rfl rfl fun a hF=>q_end (n_sq ?_)
 rcases bcase (!t_5) with hc1 | hc1
 ·have hr:=cond_f hc1 hr
  refine q_cond_f hF rfl hc1 (q_skipc (n_sq (q_seq (q_region (q_x (v:=(.agg #[s1.v,s2.v])) hF hS (ex_loadA (vs:=[s1.v,s2.v]) 1 0 underlying33 rfl sz33 rfl rfl rfl rfl) rfl rfl fun a hF=>q_store (vs:=[s1.v,s2.v]) (cs':=[s1.v,s2.v]) 0 0 hF hS sz33 rfl rfl rfl rfl rfl rfl rfl rfl fun a w hF hS=>q_x (v:=(.bool true)) hF hS (ex_assign rfl) rfl rfl fun a hF=>q_end (n_sq (q_ret ?_)))))))
  obtain rfl:=someI hr
  exact ret_of hF hS rfl (.cellA (us:=[s1.v,s2.v]) 0 0 underlying33 rfl sz33 rfl rfl rfl rfl (.tmp rfl .nil)) ⟨m,s1,s2,rfl,(MLe.refl _ _),hS.sel [] (by decide),h1,h2⟩
 ·have hr:=cond_t hc1 hr
  refine q_cond_t hF rfl hc1 (q_seq (q_region (q_x (v:=(.agg #[nilS.v,nilS.v])) hF hS (ex_build (cells:=[nilS.v,nilS.v]) rfl (by kernel_rfl)) rfl rfl fun a hF=>q_store (vs:=[nilS.v,nilS.v]) (cs':=[nilS.v,nilS.v]) 0 0 hF hS sz33 rfl rfl rfl rfl rfl rfl rfl rfl fun a w hF hS=>q_x (v:=(.bool false)) hF hS (ex_assign rfl) rfl rfl fun a hF=>q_end (n_sq (q_ret (r_sq ?_))))))
  obtain rfl:=someI hr
  exact ret_of hF hS rfl (.cellA (us:=[nilS.v,nilS.v]) 0 0 underlying33 rfl sz33 rfl rfl rfl rfl (.tmp rfl .nil)) ⟨m,nilS,nilS,rfl,(MLe.refl _ _),hS.sel [] (by decide),(Rd.nil0 (α:=Int) m),(Rd.nil0 (α:=Int) m)⟩

theorem c_spec_CubeOfTable (p_g:impl_Geo) (p_s:List impl_Variable) (p_t:impl_Table) (p_l:List impl_Record) (r:impl_Cube × Bool) (hr:spec_CubeOfTable p_g p_s p_t p_l=some r) (w0:World) (m:Mem) (hv:Vis m w0) (s1:Sl) (h1:Rd m s1 p_g.Parents) (s2:Sl) (h2:Rd m s2 p_s) (s3:Sl) (h3:Rd m s3 p_t.Vars) (s4:Sl) (h4:Rd m s4 p_t.Where) (s5:Sl) (h5:Rd m s5 p_l) :
  Ret prog 6 [(.agg #[s1.v]),s2.v,(.agg #[(iV p_t.Level),s3.v,s4.v,(iV p_t.Sum)]),s5.v] w0 (fun v w=>∃ (m':Mem) (s0':Sl) (s1':Sl),v=(.tuple #[(.agg #[s0'.v,s1'.v]),(.bool r.2)])∧MLe [] w0.heap.size m m'∧St [] w0 w m' []∧Rd m' s0' r.1.Sizes∧Rd m' s1' r.1.Cells):=by
 unfold spec_CubeOfTable at hr
 refine ret_start func6 rfl 44 rfl rfl m hv fun a hF hS=>q_seq (q_region (q_box (cs:=[s1.v]) hF hS rfl rfl rfl fun a w b6 hF hS=>q_box (cs:=[(iV p_t.Level),s3.v,s4.v,(iV p_t.Sum)]) hF hS rfl rfl rfl fun a w b7 hF hS=>q_alloc (cs:=[nilS.v,nilS.v]) hF hS rfl rfl rfl fun a w b8 hF hS=>q_x (v:=(.bool false)) hF hS (ex_assign rfl) rfl rfl fun a hF=>q_end (n_sq (q_seq (q_seq ?_)))))
 obtain ⟨t_16,hj1,hr⟩:=bindS hr
 refine q_join (fun a w=>Fr a 44 [(1,s2.v),(3,s5.v),(4,(.pointer (some ⟨b6,0,none⟩))),(6,(.pointer (some ⟨b7,0,none⟩))),(8,(.pointer (some ⟨b8,0,none⟩))),(29,(.bool t_16))]∧St [] w0 w m [[⟨b8,[nilS.v,nilS.v],33⟩],[⟨b7,[(iV p_t.Level),s3.v,s4.v,(iV p_t.Sum)],28⟩],[⟨b6,[s1.v],25⟩]]) ?_ ?_
 ·refine q_region (q_x (v:=(.agg #[s1.v])) hF hS (ex_loadA (vs:=[s1.v]) 2 0 underlying25 rfl sz25 rfl rfl rfl rfl) rfl rfl fun a hF=>q_x (v:=s2.v) hF hS (ex_move rfl) rfl rfl fun a hF=>q_x (v:=(.agg #[(iV p_t.Level),s3.v,s4.v,(iV p_t.Sum)])) hF hS (ex_loadA (vs:=[(iV p_t.Level),s3.v,s4.v,(iV p_t.Sum)]) 1 0 underlying28 rfl sz28 rfl rfl rfl rfl) rfl rfl fun a hF=>?_)
  obtain ⟨t_9,ht_9,hj1⟩:=bindS hj1
  refine q_call (vs:=[(.agg #[s1.v]),s2.v,(.agg #[(iV p_t.Level),s3.v,s4.v,(iV p_t.Sum)])]) hF hS func24 (by kernel_rfl) rfl rfl rfl (c_spec_uGood p_g p_s p_t t_9 ht_9 _ m hS.vis s1 h1 s2 h2 s3 h3 s4 h4) ?_
  rintro a w _ rfl hF hS
  refine q_x (v:=(.bool (!t_9))) hF hS (ex_not rfl) rfl rfl fun a hF=>q_x (v:=(.bool (!t_9))) hF hS (ex_move rfl) rfl rfl fun a hF=>?_
  rcases bcase (!t_9) with hc2 | hc2
  ·have hj1:=cond_f hc2 hj1
   refine q_xg (v:=(.agg #[s1.v])) hF hS (ex_loadA (vs:=[s1.v]) 2 0 underlying25 rfl sz25 rfl rfl rfl rfl) (wanted_t hF rfl rfl rfl hc2) rfl fun a hF=>q_xg (v:=s2.v) hF hS (ex_move rfl) (wanted_t hF rfl rfl rfl hc2) rfl fun a hF=>q_xg (v:=s5.v) hF hS (ex_move rfl) (wanted_t hF rfl rfl rfl hc2) rfl fun a hF=>?_
   obtain ⟨t_10,ht_10,hj1⟩:=bindS hj1
   refine q_callg (vs:=[(.agg #[s1.v]),s2.v,s5.v]) hF hS (wanted_t hF rfl rfl rfl hc2) func25 (by kernel_rfl) rfl rfl rfl (c_spec_uSurvey p_g p_s p_l t_10 ht_10 _ m hS.vis s1 h1 s2 h2 s5 h5) ?_
   rintro a w _ rfl hF hS
   refine q_xg (v:=(.bool (!t_10))) hF hS (ex_not rfl) (wanted_t hF rfl rfl rfl hc2) rfl fun a hF=>q_x (v:=(.bool (!t_10))) hF hS (ex_pick_f rfl rfl hc2) rfl rfl fun a hF=>q_x (v:=(.bool (!t_10))) hF hS (ex_move rfl) rfl rfl fun a hF=>?_
   rcases bcase (!t_10) with hc3 | hc3
   ·have hj1:=cond_f hc3 hj1
    refine q_xg (v:=(.agg #[s1.v])) hF hS (ex_loadA (vs:=[s1.v]) 2 0 underlying25 rfl sz25 rfl rfl rfl rfl) (wanted_t hF rfl rfl rfl hc3) rfl fun a hF=>q_xg (v:=s2.v) hF hS (ex_move rfl) (wanted_t hF rfl rfl rfl hc3) rfl fun a hF=>q_xg (v:=(.agg #[(iV p_t.Level),s3.v,s4.v,(iV p_t.Sum)])) hF hS (ex_loadA (vs:=[(iV p_t.Level),s3.v,s4.v,(iV p_t.Sum)]) 1 0 underlying28 rfl sz28 rfl rfl rfl rfl) (wanted_t hF rfl rfl rfl hc3) rfl fun a hF=>?_
    obtain ⟨t_11,ht_11,hj1⟩:=bindS hj1
    refine q_callg (vs:=[(.agg #[s1.v]),s2.v,(.agg #[(iV p_t.Level),s3.v,s4.v,(iV p_t.Sum)])]) hF hS (wanted_t hF rfl rfl rfl hc3) func27 (by kernel_rfl) rfl rfl rfl (c_spec_cbSizes p_g p_s p_t t_11 ht_11 _ m hS.vis s1 h1 s2 h2 s3 h3 s4 h4) ?_
    rintro a w _ ⟨q13,s13,rfl,hR12,h13⟩ hF hS2
    have hS:St _ _ _ _ [q13,[⟨b8,[nilS.v,nilS.v],33⟩],[⟨b7,[(iV p_t.Level),s3.v,s4.v,(iV p_t.Sum)],28⟩],[⟨b6,[s1.v],25⟩]]:=hS.joinF hR12
    obtain ⟨m15,hl15,hv15,hz15⟩:=hS.lend
    obtain ⟨t_14,ht_14,hj1⟩:=bindS hj1
    refine q_callg (vs:=[s13.v]) hF hS (wanted_t hF rfl rfl rfl hc3) func26 (by kernel_rfl) rfl rfl rfl (c_spec_cbCount t_11 t_14 ht_14 _ m15 hv15 s13 (h13.froz hl15 (hz15 0 _ rfl))) ?_
    rintro a w _ rfl hF hS
    refine q_xg (v:=(.bool (t_14 == 0))) hF hS (ex_ibin rfl rfl rfl) (wanted_t hF rfl rfl rfl hc3) rfl fun a hF=>q_x (v:=(.bool (t_14 == 0))) hF hS (ex_pick_f rfl rfl hc3) rfl rfl fun a hF=>q_end (n_jn ?_)
    obtain rfl:=someI hj1
    exact ⟨hF.sub ⟨rfl,rfl,rfl,rfl,rfl,rfl,trivial⟩,hS.mask [false,true,true,true]⟩
   ·have hj1:=cond_t hc3 hj1
    refine q_skip hF (wanted_f hF rfl rfl rfl hc3 rfl) rfl fun a hF=>q_skip hF (wanted_f hF rfl rfl rfl hc3 rfl) rfl fun a hF=>q_skip hF (wanted_f hF rfl rfl rfl hc3 rfl) rfl fun a hF=>q_skip hF (wanted_f hF rfl rfl rfl hc3 rfl) rfl fun a hF=>q_skip hF (wanted_f hF rfl rfl rfl hc3 rfl) rfl fun a hF=>q_skip hF (wanted_f hF rfl rfl rfl hc3 rfl) rfl fun a hF=>q_x (v:=(.bool true)) hF hS (ex_pick_t rfl rfl hc3) rfl rfl fun a hF=>q_end (n_jn ?_)
    obtain rfl:=someI hj1
    exact ⟨hF.sub ⟨rfl,rfl,rfl,rfl,rfl,rfl,trivial⟩,hS⟩
  ·have hj1:=cond_t hc2 hj1
   refine q_skip hF (wanted_f hF rfl rfl rfl hc2 rfl) rfl fun a hF=>q_skip hF (wanted_f hF rfl rfl rfl hc2 rfl) rfl fun a hF=>q_skip hF (wanted_f hF rfl rfl rfl hc2 rfl) rfl fun a hF=>q_skip hF (wanted_f hF rfl rfl rfl hc2 rfl) rfl fun a hF=>q_skip hF (wanted_f hF rfl rfl rfl hc2 rfl) rfl fun a hF=>q_x (v:=(.bool true)) hF hS (ex_pick_t rfl rfl hc2) rfl rfl fun a hF=>q_x (v:=(.bool true)) hF hS (ex_move rfl) rfl rfl fun a hF=>q_skip hF (wanted_f hF rfl rfl rfl rfl rfl) rfl fun a hF=>q_skip hF (wanted_f hF rfl rfl rfl rfl rfl) rfl fun a hF=>q_skip hF (wanted_f hF rfl rfl rfl rfl rfl) rfl fun a hF=>q_skip hF (wanted_f hF rfl rfl rfl rfl rfl) rfl fun a hF=>q_skip hF (wanted_f hF rfl rfl rfl rfl rfl) rfl fun a hF=>q_skip hF (wanted_f hF rfl rfl rfl rfl rfl) rfl fun a hF=>q_x (v:=(.bool true)) hF hS (ex_pick_t rfl rfl rfl) rfl rfl fun a hF=>q_end (n_jn ?_)
   obtain rfl:=someI hj1
   exact ⟨hF.sub ⟨rfl,rfl,rfl,rfl,rfl,rfl,trivial⟩,hS⟩
 ·rintro a w ⟨hF,hS⟩
  refine n_sq ?_
  rcases bcase (t_16) with hc4 | hc4
  ·have hr:=cond_f hc4 hr
   refine q_cond_f hF rfl hc4 (q_skipc (n_sq (q_seq (e_region ⟨[13],[b6,b7]⟩ mixed fun w' hw'=>?_))))
   have hS:=hS.below hw'
   refine e_xb (v:=(.agg #[s1.v])) 0 2 hF hS (.head _) rfl rfl (ex_loadA (vs:=[s1.v]) 0 0 underlying25 rfl sz25 rfl rfl rfl rfl) rfl rfl (by kernel_rfl) (by kernel_rfl) (by kernel_rfl) fun a hF=>e_p (v:=s2.v) 1 hF rfl (ex_move rfl) rfl rfl (by kernel_rfl) (by kernel_rfl) (by kernel_rfl) fun a hF=>e_xb (v:=(.agg #[(iV p_t.Level),s3.v,s4.v,(iV p_t.Sum)])) 2 1 hF hS (.tail _ (.head _)) rfl rfl (ex_loadA (vs:=[(iV p_t.Level),s3.v,s4.v,(iV p_t.Sum)]) 0 0 underlying28 rfl sz28 rfl rfl rfl rfl) rfl rfl (by kernel_rfl) (by kernel_rfl) (by kernel_rfl) fun a hF=>e_xb (v:=(.agg #[s1.v])) 4 2 hF hS (.head _) rfl rfl (ex_loadA (vs:=[s1.v]) 0 0 underlying25 rfl sz25 rfl rfl rfl rfl) rfl rfl (by kernel_rfl) (by kernel_rfl) (by kernel_rfl) fun a hF=>e_p (v:=s2.v) 5 hF rfl (ex_move rfl) rfl rfl (by kernel_rfl) (by kernel_rfl) (by kernel_rfl) fun a hF=>e_xb (v:=(.agg #[(iV p_t.Level),s3.v,s4.v,(iV p_t.Sum)])) 6 1 hF hS (.tail _ (.head _)) rfl rfl (ex_loadA (vs:=[(iV p_t.Level),s3.v,s4.v,(iV p_t.Sum)]) 0 0 underlying28 rfl sz28 rfl rfl rfl rfl) rfl rfl (by kernel_rfl) (by kernel_rfl) (by kernel_rfl) fun a hF=>e_p (v:=s5.v) 7 hF rfl (ex_move rfl) rfl rfl (by kernel_rfl) (by kernel_rfl) (by kernel_rfl) fun a hF=>e_one 3 (by kernel_rfl) ?_
   obtain ⟨t_29,ht_29,hr⟩:=bindS hr
   refine e_call (vs:=[(.agg #[s1.v]),s2.v,(.agg #[(iV p_t.Level),s3.v,s4.v,(iV p_t.Sum)])]) hF hS rfl func27 (by kernel_rfl) rfl rfl rfl (c_spec_cbSizes p_g p_s p_t t_29 ht_29 _ m hS.vis s1 h1 s2 h2 s3 h3 s4 h4) ?_
   rintro a w _ ⟨q31,s31,rfl,hR30,h31⟩ hF hS2
   have hS:St _ _ _ _ [q31,[⟨b8,[nilS.v,nilS.v],33⟩],[⟨b7,[(iV p_t.Level),s3.v,s4.v,(iV p_t.Sum)],28⟩],[⟨b6,[s1.v],25⟩]]:=hS.joinF hR30
   refine e_one 8 (by kernel_rfl) ?_
   obtain ⟨t_32,ht_32,hr⟩:=bindS hr
   refine e_call (vs:=[(.agg #[s1.v]),s2.v,(.agg #[(iV p_t.Level),s3.v,s4.v,(iV p_t.Sum)]),s5.v]) hF hS rfl func30 (by kernel_rfl) rfl rfl rfl (c_spec_uTable p_g p_s p_t p_l t_32 ht_32 _ m hS.vis s1 h1 s2 h2 s3 h3 s4 h4 s5 h5) ?_
   rintro a w _ ⟨q34,s34,rfl,hR33,h34⟩ hF hS2
   have hS:St _ _ _ _ [q34,q31,[⟨b8,[nilS.v,nilS.v],33⟩],[⟨b7,[(iV p_t.Level),s3.v,s4.v,(iV p_t.Sum)],28⟩],[⟨b6,[s1.v],25⟩]]:=hS.joinF hR33
   refine e_one 9 (by kernel_rfl) ?_
   obtain ⟨m36,hl36,hv36,hz36⟩:=hS.lend
   obtain ⟨t_35,ht_35,hr⟩:=bindS hr
   refine e_call (vs:=[s31.v,s34.v]) hF hS rfl func29 (by kernel_rfl) rfl rfl rfl (c_spec_cbOf t_29 t_32 t_35 ht_35 _ m36 hv36 s31 (h31.froz hl36 (hz36 1 _ rfl)) s34 (h34.froz hl36 (hz36 0 _ rfl))) ?_
   rintro a w _ ⟨q38,q39,s38,s39,rfl,hR37,h38,h39⟩ hF hS2
   have hS:St _ _ _ _ [q38,q39,q34,q31,[⟨b8,[nilS.v,nilS.v],33⟩],[⟨b7,[(iV p_t.Level),s3.v,s4.v,(iV p_t.Sum)],28⟩],[⟨b6,[s1.v],25⟩]]:=hS.joinF hR37
   have h38:=h38.any m
   have h39:=h39.any m
   refine e_one 10 (by kernel_rfl) ?_
   obtain ⟨m40,hm40,hS,hz40⟩:=hS.freeze
   have h40:=h38.froz hm40.le hz40
   obtain ⟨m41,hm41,hS,hz41⟩:=hS.freeze
   have h41:=(h39.mono hm40.le).froz hm41.le hz41
   obtain ⟨t_42,ht_42,hr⟩:=bindS hr
   refine e_call (vs:=[(.agg #[s38.v,s39.v])]) hF hS rfl func28 (by kernel_rfl) rfl rfl rfl (c_spec_cbIf t_35 t_42 ht_42 _ m41 hS.vis s38 (h40.mono hm41.le) s39 h41) ?_
   have hT:=hS
   rintro a w _ ⟨m43,s44,s45,rfl,hm43,hR43,h44,h45⟩ hF hS2
   have hS:St _ _ _ _ [q34,q31,[⟨b8,[nilS.v,nilS.v],33⟩],[⟨b7,[(iV p_t.Level),s3.v,s4.v,(iV p_t.Sum)],28⟩],[⟨b6,[s1.v],25⟩]]:=hS.join hR43 hm43
   have hm43:=MLe.weakX (O0:=[]) hT hm43
   refine e_p (v:=(.agg #[s44.v,s45.v])) 11 hF rfl (ex_extract rfl rfl) rfl rfl (by kernel_rfl) (by kernel_rfl) (by kernel_rfl) fun a hF=>e_p (v:=(.bool t_42.2)) 12 hF rfl (ex_extract rfl rfl) rfl rfl (by kernel_rfl) (by kernel_rfl) (by kernel_rfl) fun a hF=>e_one 13 (by kernel_rfl) ?_
   have hSo:=hS
   refine e_store (vs:=[s44.v,s45.v]) (cs':=[s44.v,s45.v]) 2 0 hF hS rfl rfl sz33 rfl rfl rfl rfl rfl rfl rfl rfl fun a w hF hS=>⟨kpC hSo hS 4 4 rfl rfl (kpC hSo hS 3 3 rfl rfl kpN),?_⟩
   refine e_p (v:=(.bool t_42.2)) 14 hF rfl (ex_assign rfl) rfl rfl (by kernel_rfl) (by kernel_rfl) (by kernel_rfl) fun a hF=>e_end (by kernel_rfl) (n_sq (q_ret ?_)) _
   obtain rfl:=someI hr
   exact ret_of hF hS rfl (.cellA (us:=[s44.v,s45.v]) 2 0 underlying33 rfl sz33 rfl rfl rfl rfl (.tmp rfl .nil)) ⟨m43,s44,s45,rfl,((hm40.trans hm41).trans hm43),hS.sel [] (by decide),h44,h45⟩
  ·have hr:=cond_t hc4 hr
   refine q_cond_t hF rfl hc4 (q_seq (q_region (q_x (v:=(.agg #[nilS.v,nilS.v])) hF hS (ex_build (cells:=[nilS.v,nilS.v]) rfl (by kernel_rfl)) rfl rfl fun a hF=>q_store (vs:=[nilS.v,nilS.v]) (cs':=[nilS.v,nilS.v]) 0 0 hF hS sz33 rfl rfl rfl rfl rfl rfl rfl rfl fun a w hF hS=>q_x (v:=(.bool false)) hF hS (ex_assign rfl) rfl rfl fun a hF=>q_end (n_sq (q_ret (r_sq ?_))))))
   obtain rfl:=someI hr
   exact ret_of hF hS rfl (.cellA (us:=[nilS.v,nilS.v]) 0 0 underlying33 rfl sz33 rfl rfl rfl rfl (.tmp rfl .nil)) ⟨m,nilS,nilS,rfl,(MLe.refl _ _),hS.sel [] (by decide),(Rd.nil0 (α:=Int) m),(Rd.nil0 (α:=Int) m)⟩

theorem c_spec_l1Cur_sizes (p_c:spec_l1Cur) (r:(List Int) × spec_l1Cur) (hr:spec_l1Cur_sizes p_c=some r) (w0:World) (m:Mem) (b_p_c:Nat) (s1:Sl) (h1:Rd m s1 p_c.code) (X:List Nat) (hS:St X w0 w0 m [[⟨b_p_c,[s1.v,(iV p_c.at_),(.int .u64 p_c.seed.v)],65⟩]]) :
  RetX prog 31 [(.pointer (some ⟨b_p_c,0,none⟩))] w0 (fun v w=>∃ (m':Mem) (s0':Sl),v=s0'.v∧MLe X w0.heap.size m m'∧St X w0 w m' [[⟨b_p_c,[s1.v,(iV r.2.at_),(.int .u64 r.2.seed.v)],65⟩]]∧Rd m' s0' r.1∧r.2.code=p_c.code):=by
 unfold spec_l1Cur_sizes at hr
 refine ret_startX func31 rfl 47 rfl rfl fun a hF=>q_seq (q_region (q_x (v:=nilS.v) hF hS (ex_assign rfl) rfl rfl fun a hF=>q_end (n_sq (q_seq (q_region (q_x (v:=nilS.v) hF hS (ex_assign rfl) rfl rfl fun a hF=>q_end (n_sq (q_seq (q_seq (q_region (q_x (v:=(.pointer (some ⟨b_p_c,0,none⟩))) hF hS (ex_move rfl) rfl rfl fun a hF=>?_)))))))))))
 have hS2:St _ _ _ _ ([[⟨b_p_c,[s1.v,(iV p_c.at_),(.int .u64 p_c.seed.v)],65⟩]]++[]):=hS
 have hE2:=hS2.enter
 obtain ⟨t_3,ht_3,hr⟩:=bindS hr
 refine q_do rfl fun _ hK=>wp_callX (vs:=[(.pointer (some ⟨b_p_c,0,none⟩)),(iV 4)]) hF func33 (by kernel_rfl) rfl rfl rfl (c_spec_l1Cur_pick p_c 4 t_3 ht_3 _ m b_p_c s1 h1 _ hE2) fun a w _ hR hF=>hK _ _ ?_
 obtain ⟨rfl,hR2,hk4⟩:=hR
 have hS:St _ _ _ _ [[⟨b_p_c,[s1.v,(iV t_3.2.at_),(.int .u64 t_3.2.seed.v)],65⟩]]:=hS2.leaveF hR2
 have h4:Rd m s1 t_3.2.code:=by rw [hk4]; exact h1
 refine q_x (v:=(iV t_3.1)) hF hS (ex_assign rfl) rfl rfl fun a hF=>q_end (n_sq (q_block ?_))
 obtain ⟨o1,hl1,hr⟩:=bindS hr
 refine q_loop (fun (s:(List Int) × Int × spec_l1Cur) a w=>∃ (q6:Piece),∃ (s6:Sl),∃ out_5,∃ k_7,∃ p_c_8,s=(out_5,k_7,p_c_8)∧Fr a 47 [(0,(.pointer (some ⟨b_p_c,0,none⟩))),(3,s6.v),(4,(iV k_7))]∧St X w0 w m [q6,[⟨b_p_c,[s1.v,(iV p_c_8.at_),(.int .u64 p_c_8.seed.v)],65⟩]]∧OwnL m 3 q6 s6 out_5∧Rd m s1 p_c_8.code∧p_c_8.code=p_c.code) (fun (o:(List Int) × spec_l1Cur) e a w=>∃ (q17:Piece),∃ (s17:Sl),∃ out_16,∃ p_c_18,o=(out_16,p_c_18)∧e=.exit 0∧Fr a 47 [(0,(.pointer (some ⟨b_p_c,0,none⟩))),(3,s17.v)]∧St X w0 w m [q17,[⟨b_p_c,[s1.v,(iV p_c_18.at_),(.int .u64 p_c_18.seed.v)],65⟩]]∧OwnL m 3 q17 s17 out_16∧Rd m s1 p_c_18.code∧p_c_18.code=p_c.code) hl1 ⟨[],nilS,_,_,_,rfl,hF.sub ⟨rfl,rfl,rfl,trivial⟩,hS.sel [1,0] (by decide),(OwnL.nil (α:=Int) m 3),h4,hk4⟩ ?_ ?_
 ·clear hF hS
  rintro s a w st ⟨q6,s6,out_5,k_7,p_c_8,rfl,hF,hS,h6,h9,h9k⟩ hb1
  unfold spec_l1Cur_sizes_l1 at hb1
  refine q_seq (q_seq (q_region (q_x (v:=(iV k_7)) hF hS (ex_move rfl) rfl rfl fun a hF=>q_x (v:=(.bool (decide (0<k_7)))) hF hS (ex_ibin rfl rfl rfl) rfl rfl fun a hF=>q_end (n_sq ?_))))
  rcases bcase (decide (0<k_7)) with hc2 | hc2
  ·have hb1:=cond_f hc2 hb1
   refine q_cond_f hF rfl hc2 (q_exit (x_sq ?_))
   obtain rfl:=someI hb1
   exact ⟨nofun,.inl ⟨q6,s6,_,_,rfl,rfl,hF.sub ⟨rfl,rfl,trivial⟩,hS,h6,h9,h9k⟩⟩
  ·have hb1:=cond_t hc2 hb1
   refine q_cond_t hF rfl hc2 (q_skipc (n_sq (q_seq (q_block (q_region (q_x (v:=s6.v) hF hS (ex_move rfl) rfl rfl fun a hF=>q_x (v:=(.pointer (some ⟨b_p_c,0,none⟩))) hF hS (ex_move rfl) rfl rfl fun a hF=>?_))))))
   have hS:St _ _ _ _ [[⟨b_p_c,[s1.v,(iV p_c_8.at_),(.int .u64 p_c_8.seed.v)],65⟩],q6]:=hS.sel [1,0] (by decide)
   have hS10:St _ _ _ _ ([[⟨b_p_c,[s1.v,(iV p_c_8.at_),(.int .u64 p_c_8.seed.v)],65⟩]]++[q6]):=hS
   have hE10:=hS10.enter
   obtain ⟨t_11,ht_11,hb1⟩:=bindS hb1
   refine q_do rfl fun _ hK=>wp_callX (vs:=[(.pointer (some ⟨b_p_c,0,none⟩)),(iV 4)]) hF func33 (by kernel_rfl) rfl rfl rfl (c_spec_l1Cur_pick p_c_8 4 t_11 ht_11 _ m b_p_c s1 h9 _ hE10) fun a w _ hR hF=>hK _ _ ?_
   obtain ⟨rfl,hR10,hk12⟩:=hR
   have hS:St _ _ _ _ [[⟨b_p_c,[s1.v,(iV t_11.2.at_),(.int .u64 t_11.2.seed.v)],65⟩],q6]:=hS10.leaveF hR10
   have h12:Rd m s1 t_11.2.code:=by rw [hk12]; exact h9
   refine q_x (v:=(iV (w64 (1 + t_11.1)))) hF hS (ex_ibin rfl rfl rfl) rfl rfl fun a hF=>q_do rfl fun _ hK=>wp_buildSlice' (l:=([(w64 (1 + t_11.1))]:List Int)) (cells:=[(iV (w64 (1 + t_11.1)))]) hF hS underlying23 inf3 rfl rfl (by kernel_rfl) rfl rfl rfl ⟨rfl,rfl⟩ rfl rfl fun a w q13 s13 hF hS h13 _=>hK _ _ ?_
   have hS:St _ _ _ _ [q6,q13,[⟨b_p_c,[s1.v,(iV t_11.2.at_),(.int .u64 t_11.2.seed.v)],65⟩]]:=hS.sel [2,0,1] (by decide)
   obtain ⟨l_14,hl_14,hb1⟩:=bindS hb1
   refine q_do rfl fun _ hK=>wp_append hF hS h6 underlying23 inf3 rfl rfl rfl rfl (h13.vw hS (j:=1) rfl) rfl (by decide) hl_14 rfl fun a w q15 s15 hF hS h15=>hK _ _ (q_x (v:=s15.v) hF hS (ex_assign rfl) rfl rfl fun a hF=>q_end (n_ib (n_sq (q_region (q_x (v:=(iV k_7)) hF hS (ex_move rfl) rfl rfl fun a hF=>q_x (v:=(iV (w64 (k_7 - 1)))) hF hS (ex_ibin rfl rfl rfl) rfl rfl fun a hF=>q_x (v:=(iV (w64 (k_7 - 1)))) hF hS (ex_assign rfl) rfl rfl fun a hF=>q_end ?_)))))
   obtain rfl:=someI hb1
   exact ⟨rfl,q15,s15,_,_,_,rfl,hF.sub ⟨rfl,rfl,rfl,trivial⟩,hS.mask [true,false,true],h15,h12,(hk12.trans h9k)⟩
 ·rintro e a w ⟨q17,s17,out_16,p_c_18,rfl,rfl,hF,hS,h17,h19,h19k⟩
  refine x_ib (n_sq ?_)
  refine q_seq (q_seq (q_region (q_x (v:=(.pointer (some ⟨b_p_c,0,none⟩))) hF hS (ex_move rfl) rfl rfl fun a hF=>?_)))
  have hS:St _ _ _ _ [[⟨b_p_c,[s1.v,(iV p_c_18.at_),(.int .u64 p_c_18.seed.v)],65⟩],q17]:=hS.sel [1,0] (by decide)
  have hS20:St _ _ _ _ ([[⟨b_p_c,[s1.v,(iV p_c_18.at_),(.int .u64 p_c_18.seed.v)],65⟩]]++[q17]):=hS
  have hE20:=hS20.enter
  obtain ⟨t_21,ht_21,hr⟩:=bindS hr
  refine q_do rfl fun _ hK=>wp_callX (vs:=[(.pointer (some ⟨b_p_c,0,none⟩)),(iV 24)]) hF func33 (by kernel_rfl) rfl rfl rfl (c_spec_l1Cur_pick p_c_18 24 t_21 ht_21 _ m b_p_c s1 h19 _ hE20) fun a w _ hR hF=>hK _ _ ?_
  obtain ⟨rfl,hR20,hk22⟩:=hR
  have hS:St _ _ _ _ [[⟨b_p_c,[s1.v,(iV t_21.2.at_),(.int .u64 t_21.2.seed.v)],65⟩],q17]:=hS20.leaveF hR20
  have h22:Rd m s1 t_21.2.code:=by rw [hk22]; exact h19
  refine q_end (n_sq (q_block (q_seq (q_region (q_x (v:=(.bool (t_21.1 == 0))) hF hS (ex_ibin rfl rfl rfl) rfl rfl fun a hF=>q_x (v:=(.bool (t_21.1 == 0))) hF hS (ex_assign rfl) rfl rfl fun a hF=>q_end (n_sq ?_))))))
  obtain ⟨j3,hj3,hr⟩:=bindS hr
  refine q_join (fun a w=>∃ (q51:Piece),∃ (s51:Sl),∃ out_50,∃ p_c_52,j3=.inl (out_50,p_c_52)∧Fr a 47 [(3,s51.v)]∧St X w0 w m [q51,[⟨b_p_c,[s1.v,(iV p_c_52.at_),(.int .u64 p_c_52.seed.v)],65⟩]]∧OwnL m 3 q51 s51 out_50∧Rd m s1 p_c_52.code∧p_c_52.code=p_c.code) ?_ ?_
  ·rcases bcase (t_21.1 == 0) with hc4 | hc4
   ·have hj3:=cond_f hc4 hj3
    refine q_cond_f hF rfl hc4 (q_seq (q_region (q_x (v:=(.bool (t_21.1 == 1))) hF hS (ex_ibin rfl rfl rfl) rfl rfl fun a hF=>q_x (v:=(.bool (t_21.1 == 1))) hF hS (ex_assign rfl) rfl rfl fun a hF=>q_end (n_sq ?_))))
    rcases bcase (t_21.1 == 1) with hc5 | hc5
    ·have hj3:=cond_f hc5 hj3
     refine q_cond_f hF rfl hc5 (q_seq (q_region (q_x (v:=(.bool (t_21.1 == 2))) hF hS (ex_ibin rfl rfl rfl) rfl rfl fun a hF=>q_x (v:=(.bool (t_21.1 == 2))) hF hS (ex_assign rfl) rfl rfl fun a hF=>q_end (n_sq ?_))))
     rcases bcase (t_21.1 == 2) with hc6 | hc6
     ·have hj3:=cond_f hc6 hj3
      refine q_cond_f hF rfl hc6 (q_seq (q_region (q_x (v:=(.bool (t_21.1 == 3))) hF hS (ex_ibin rfl rfl rfl) rfl rfl fun a hF=>q_x (v:=(.bool (t_21.1 == 3))) hF hS (ex_assign rfl) rfl rfl fun a hF=>q_end (n_sq ?_))))
      rcases bcase (t_21.1 == 3) with hc7 | hc7
      ·have hj3:=cond_f hc7 hj3
       refine q_cond_f hF rfl hc7 (q_skipc (n_jn ?_))
       obtain rfl:=someI hj3
       exact ⟨q17,s17,_,_,rfl,hF.sub ⟨rfl,trivial⟩,hS.sel [1,0] (by decide),h17,h22,(hk22.trans h19k)⟩
      ·have hj3:=cond_t hc7 hj3
       refine q_cond_t hF rfl hc7 (q_seq (q_region (q_do rfl fun _ hK=>wp_buildSlice' (l:=([24,19,3]:List Int)) (cells:=[(iV 24),(iV 19),(iV 3)]) hF hS underlying23 inf3 rfl rfl (by kernel_rfl) rfl rfl rfl ⟨rfl,rfl,rfl,rfl⟩ rfl rfl fun a w q23 s23 hF hS h23 _=>hK _ _ (q_do rfl fun _ hK=>wp_buildSlice' (l:=([2,22,28]:List Int)) (cells:=[(iV 2),(iV 22),(iV 28)]) hF hS underlying23 inf3 rfl rfl (by kernel_rfl) rfl rfl rfl ⟨rfl,rfl,rfl,rfl⟩ rfl rfl fun a w q24 s24 hF hS h24 _=>hK _ _ ?_))))
       have hS:St _ _ _ _ [q23,q24,[⟨b_p_c,[s1.v,(iV t_21.2.at_),(.int .u64 t_21.2.seed.v)],65⟩],q17]:=hS.sel [1,0,2,3] (by decide)
       obtain ⟨m26,hm26,hS,hz26⟩:=hS.freeze
       have h26:=h23.froz hm26.le hz26
       obtain ⟨m27,hm27,hS,hz27⟩:=hS.freeze
       have h27:=(h24.mono hm26.le).froz hm27.le hz27
       refine q_do rfl fun _ hK=>wp_buildSlice' (l:=([([24,19,3]:List Int),([2,22,28]:List Int)]:List (List Int))) (cells:=[s23.v,s24.v]) hF hS underlying38 inf23 rfl rfl (by kernel_rfl) rfl rfl rfl ⟨⟨s23,rfl,(h26.mono hm27.le)⟩,⟨s24,rfl,h27⟩,rfl⟩ rfl rfl fun a w q25 s25 hF hS h25 _=>hK _ _ (q_x (v:=(.pointer (some ⟨b_p_c,0,none⟩))) hF hS (ex_move rfl) rfl rfl fun a hF=>?_)
       have hS:St _ _ _ _ [[⟨b_p_c,[s1.v,(iV t_21.2.at_),(.int .u64 t_21.2.seed.v)],65⟩],q25,q17]:=hS.sel [1,0,2] (by decide)
       have hS28:St _ _ _ _ ([[⟨b_p_c,[s1.v,(iV t_21.2.at_),(.int .u64 t_21.2.seed.v)],65⟩]]++[q25,q17]):=hS
       have hE28:=hS28.enter
       obtain ⟨t_29,ht_29,hj3⟩:=bindS hj3
       refine q_do rfl fun _ hK=>wp_callX (vs:=[(.pointer (some ⟨b_p_c,0,none⟩)),(iV 2)]) hF func33 (by kernel_rfl) rfl rfl rfl (c_spec_l1Cur_pick t_21.2 2 t_29 ht_29 _ m27 b_p_c s1 ((h22.mono hm26.le).mono hm27.le) _ hE28) fun a w _ hR hF=>hK _ _ ?_
       obtain ⟨rfl,hR28,hk30⟩:=hR
       have hS:St _ _ _ _ [[⟨b_p_c,[s1.v,(iV t_29.2.at_),(.int .u64 t_29.2.seed.v)],65⟩],q25,q17]:=hS28.leaveF hR28
       have h30:Rd m27 s1 t_29.2.code:=by rw [hk30]; exact ((h22.mono hm26.le).mono hm27.le)
       obtain ⟨e_31,he_31,hj3⟩:=bindS hj3
       obtain ⟨vs32,at32,d32⟩:=h25.at he_31 1 rfl
       obtain ⟨s33,rfl,h33⟩:∃ s33:Sl,vs32=[s33.v]∧Rd m27 s33 e_31:=d32
       refine q_x (v:=(elP s25 (t_29.1.toNat * 1))) hF hS (ex_indexAddr underlying38 sz23 rfl rfl (h25.idx he_31)) rfl rfl fun a hF=>q_x (v:=s33.v) hF hS (ex_loadE1 0 underlying23 rfl rfl (at32.at 1 rfl) rfl rfl) rfl rfl fun a hF=>q_x (v:=s33.v) hF hS (ex_assign rfl) rfl rfl fun a hF=>q_end (n_sq (q_ret (r_jn ?_)))
       obtain rfl:=someI hj3
       refine r_ib (r_sq ?_)
       obtain rfl:=someI hr
       exact ret_ofX hF hS rfl (.tmp rfl .nil) ⟨m27,s33,rfl,(hm26.trans hm27),hS.sel [0] (by decide),h33,(hk30.trans (hk22.trans h19k))⟩
     ·have hj3:=cond_t hc6 hj3
      refine q_cond_t hF rfl hc6 (q_seq (q_region (q_do rfl fun _ hK=>wp_buildSlice' (l:=([11,12,13]:List Int)) (cells:=[(iV 11),(iV 12),(iV 13)]) hF hS underlying23 inf3 rfl rfl (by kernel_rfl) rfl rfl rfl ⟨rfl,rfl,rfl,rfl⟩ rfl rfl fun a w q34 s34 hF hS h34 _=>hK _ _ (q_x (v:=s34.v) hF hS (ex_assign rfl) rfl rfl fun a hF=>q_end (n_sq (q_ret (r_jn ?_)))))))
      obtain rfl:=someI hj3
      refine r_ib (r_sq ?_)
      obtain rfl:=someI hr
      obtain ⟨m35,hm35,hS,hz35⟩:=hS.freeze
      have h35:=h34.froz hm35.le hz35
      exact ret_ofX hF hS rfl (.tmp rfl .nil) ⟨m35,s34,rfl,hm35,hS.sel [0] (by decide),h35,(hk22.trans h19k)⟩
    ·have hj3:=cond_t hc5 hj3
     refine q_cond_t hF rfl hc5 (q_seq (q_region (q_do rfl fun _ hK=>wp_buildSlice' (l:=([2,2,2,2,2]:List Int)) (cells:=[(iV 2),(iV 2),(iV 2),(iV 2),(iV 2)]) hF hS underlying23 inf3 rfl rfl (by kernel_rfl) rfl rfl rfl ⟨rfl,rfl,rfl,rfl,rfl,rfl⟩ rfl rfl fun a w q36 s36 hF hS h36 _=>hK _ _ (q_x (v:=(.pointer (some ⟨b_p_c,0,none⟩))) hF hS (ex_move rfl) rfl rfl fun a hF=>?_))))
     have hS:St _ _ _ _ [[⟨b_p_c,[s1.v,(iV t_21.2.at_),(.int .u64 t_21.2.seed.v)],65⟩],q36,q17]:=hS.sel [1,0,2] (by decide)
     have hS37:St _ _ _ _ ([[⟨b_p_c,[s1.v,(iV t_21.2.at_),(.int .u64 t_21.2.seed.v)],65⟩]]++[q36,q17]):=hS
     have hE37:=hS37.enter
     obtain ⟨t_38,ht_38,hj3⟩:=bindS hj3
     refine q_do rfl fun _ hK=>wp_callX (vs:=[(.pointer (some ⟨b_p_c,0,none⟩)),(iV 3)]) hF func33 (by kernel_rfl) rfl rfl rfl (c_spec_l1Cur_pick t_21.2 3 t_38 ht_38 _ m b_p_c s1 h22 _ hE37) fun a w _ hR hF=>hK _ _ ?_
     obtain ⟨rfl,hR37,hk39⟩:=hR
     have hS:St _ _ _ _ [[⟨b_p_c,[s1.v,(iV t_38.2.at_),(.int .u64 t_38.2.seed.v)],65⟩],q36,q17]:=hS37.leaveF hR37
     have h39:Rd m s1 t_38.2.code:=by rw [hk39]; exact h22
     refine q_x (v:=(iV (w64 (3 + t_38.1)))) hF hS (ex_ibin rfl rfl rfl) rfl rfl fun a hF=>?_
     obtain ⟨l_40,hl_40,hj3⟩:=bindS hj3
     have h41:OwnL m 3 q36 (subS s36 1 (0:Int).toNat (w64 (3 + t_38.1)).toNat s36.cap) l_40:=h36.sub0 hl_40
     refine q_x (v:=(subS s36 1 (0:Int).toNat (w64 (3 + t_38.1)).toNat s36.cap).v) hF hS (ex_slice underlying23 sz3 rfl rfl rfl (.inl ⟨rfl,rfl⟩) (.inr ⟨_,rfl⟩) (h36.subok hl_40)) rfl rfl fun a hF=>q_x (v:=(subS s36 1 (0:Int).toNat (w64 (3 + t_38.1)).toNat s36.cap).v) hF hS (ex_assign rfl) rfl rfl fun a hF=>q_end (n_sq (q_ret (r_jn ?_)))
     obtain rfl:=someI hj3
     refine r_ib (r_sq ?_)
     obtain rfl:=someI hr
     have hS:St _ _ _ _ [q36,[⟨b_p_c,[s1.v,(iV t_38.2.at_),(.int .u64 t_38.2.seed.v)],65⟩],q17]:=hS.sel [1,0,2] (by decide)
     obtain ⟨m42,hm42,hS,hz42⟩:=hS.freeze
     have h42:=h41.froz hm42.le hz42
     have h42_1:=(h36.froz hm42.le (hz42))
     exact ret_ofX hF hS rfl (.tmp rfl .nil) ⟨m42,(subS s36 1 (0:Int).toNat (w64 (3 + t_38.1)).toNat s36.cap),rfl,hm42,hS.sel [0] (by decide),h42,(hk39.trans (hk22.trans h19k))⟩
   ·have hj3:=cond_t hc4 hj3
    refine q_cond_t hF rfl hc4 (q_region (q_x (v:=s17.v) hF hS (ex_move rfl) rfl rfl fun a hF=>q_x (v:=(.pointer (some ⟨b_p_c,0,none⟩))) hF hS (ex_move rfl) rfl rfl fun a hF=>q_do rfl fun _ hK=>wp_buildSlice' (l:=([0,30,31]:List Int)) (cells:=[(iV 0),(iV 30),(iV 31)]) hF hS underlying23 inf3 rfl rfl (by kernel_rfl) rfl rfl rfl ⟨rfl,rfl,rfl,rfl⟩ rfl rfl fun a w q43 s43 hF hS h43 _=>hK _ _ ?_))
    have hS:St _ _ _ _ [[⟨b_p_c,[s1.v,(iV t_21.2.at_),(.int .u64 t_21.2.seed.v)],65⟩],q43,q17]:=hS.sel [1,0,2] (by decide)
    have hS44:St _ _ _ _ ([[⟨b_p_c,[s1.v,(iV t_21.2.at_),(.int .u64 t_21.2.seed.v)],65⟩]]++[q43,q17]):=hS
    obtain ⟨m44,hl44,hE44,hz44⟩:=hS44.lendX
    obtain ⟨t_45,ht_45,hj3⟩:=bindS hj3
    refine q_do rfl fun _ hK=>wp_callX (vs:=[(.pointer (some ⟨b_p_c,0,none⟩)),s43.v]) hF func78 (by kernel_rfl) rfl rfl rfl (c_spec_l1Cur_among t_21.2 ([0,30,31]:List Int) t_45 ht_45 _ m44 b_p_c s1 (h22.mono hl44) s43 (h43.froz hl44 (hz44 0 _ rfl)) _ hE44) fun a w _ hR hF=>hK _ _ ?_
    obtain ⟨rfl,hR44,hk46⟩:=hR
    have hS:St _ _ _ _ [[⟨b_p_c,[s1.v,(iV t_45.2.at_),(.int .u64 t_45.2.seed.v)],65⟩],q43,q17]:=hS44.leaveF hR44
    have h46:Rd m s1 t_45.2.code:=by rw [hk46]; exact h22
    refine q_do rfl fun _ hK=>wp_buildSlice' (l:=([t_45.1]:List Int)) (cells:=[(iV t_45.1)]) hF hS underlying23 inf3 rfl rfl (by kernel_rfl) rfl rfl rfl ⟨rfl,rfl⟩ rfl rfl fun a w q47 s47 hF hS h47 _=>hK _ _ ?_
    have hS:St _ _ _ _ [q17,q47,[⟨b_p_c,[s1.v,(iV t_45.2.at_),(.int .u64 t_45.2.seed.v)],65⟩],q43]:=hS.sel [3,0,1,2] (by decide)
    obtain ⟨l_48,hl_48,hj3⟩:=bindS hj3
    refine q_do rfl fun _ hK=>wp_append hF hS h17 underlying23 inf3 rfl rfl rfl rfl (h47.vw hS (j:=1) rfl) rfl (by decide) hl_48 rfl fun a w q49 s49 hF hS h49=>hK _ _ (q_x (v:=s49.v) hF hS (ex_assign rfl) rfl rfl fun a hF=>q_end (n_jn ?_))
    obtain rfl:=someI hj3
    exact ⟨q49,s49,_,_,rfl,hF.sub ⟨rfl,trivial⟩,hS.mask [true,false,true,false],h49,h46,(hk46.trans (hk22.trans h19k))⟩
  ·rintro a w ⟨q51,s51,out_50,p_c_52,rfl,hF,hS,h51,h53,h53k⟩
   refine n_ib (n_sq ?_)
   refine q_seq (q_region (q_x (v:=s51.v) hF hS (ex_move rfl) rfl rfl fun a hF=>q_x (v:=s51.v) hF hS (ex_assign rfl) rfl rfl fun a hF=>q_end (n_sq (q_ret ?_))))
   obtain rfl:=someI hr
   obtain ⟨m54,hm54,hS,hz54⟩:=hS.freeze
   have h54:=h51.froz hm54.le hz54
   exact ret_ofX hF hS rfl (.tmp rfl .nil) ⟨m54,s51,rfl,hm54,hS.sel [0] (by decide),h54,h53k⟩

theorem c_spec_l1Least (p_a:Int) (p_b:Int) (r:Int) (hr:spec_l1Least p_a p_b=some r) (w0:World) (m:Mem) (hv:Vis m w0) :
  Ret prog 34 [(iV p_a),(iV p_b)] w0 (fun v _=>v=(iV r)):=by
 unfold spec_l1Least at hr
 refine ret_start func34 rfl 10 rfl rfl m hv fun a hF hS=>q_seq (q_region (q_x (v:=(iV 0)) hF hS (ex_assign rfl) rfl rfl fun a hF=>q_end (n_sq (q_seq (q_seq (q_region (q_x (v:=(iV p_a)) hF hS (ex_move rfl) rfl rfl fun a hF=>q_x (v:=(iV p_b)) hF hS (ex_move rfl) rfl rfl fun a hF=>q_x (v:=(.bool (decide (p_a<p_b)))) hF hS (ex_ibin rfl rfl rfl) rfl rfl fun a hF=>q_end (n_sq ?_))))))))
 rcases bcase (decide (p_a<p_b)) with hc1 | hc1
 ·have hr:=cond_f hc1 hr
  refine q_cond_f hF rfl hc1 (q_skipc (n_sq (q_seq (q_region (q_x (v:=(iV p_b)) hF hS (ex_move rfl) rfl rfl fun a hF=>q_x (v:=(iV p_b)) hF hS (ex_assign rfl) rfl rfl fun a hF=>q_end (n_sq (q_ret ?_)))))))
  obtain rfl:=someI hr
  exact ret_of hF hS rfl (.tmp rfl .nil) rfl
 ·have hr:=cond_t hc1 hr
  refine q_cond_t hF rfl hc1 (q_seq (q_region (q_x (v:=(iV p_a)) hF hS (ex_move rfl) rfl rfl fun a hF=>q_x (v:=(iV p_a)) hF hS (ex_assign rfl) rfl rfl fun a hF=>q_end (n_sq (q_ret (r_sq ?_))))))
  obtain rfl:=someI hr
  exact ret_of hF hS rfl (.tmp rfl .nil) rfl

theorem c_spec_DrawPartsOf (p_code:List (K .u8)) (r:(List Int) × Int) (hr:spec_DrawPartsOf p_code=some r) (w0:World) (m:Mem) (hv:Vis m w0) (s1:Sl) (h1:Rd m s1 p_code) :
  Ret prog 7 [s1.v] w0 (fun v w=>∃ (m':Mem) (s0':Sl),v=(.tuple #[s0'.v,(iV r.2)])∧MLe [] w0.heap.size m m'∧St [] w0 w m' []∧Rd m' s0' r.1):=by
 unfold spec_DrawPartsOf at hr
 refine ret_start func7 rfl 35 rfl rfl m hv fun a hF hS=>q_seq (q_region (q_x (v:=nilS.v) hF hS (ex_assign rfl) rfl rfl fun a hF=>q_x (v:=(iV 0)) hF hS (ex_assign rfl) rfl rfl fun a hF=>q_end (n_sq (q_seq (q_region (q_x (v:=s1.v) hF hS (ex_move rfl) rfl rfl fun a hF=>q_x (v:=(.agg #[s1.v,(iV 0),(.int .u64 0)])) hF hS (ex_build (cells:=[s1.v,(iV 0),(.int .u64 0)]) rfl (by kernel_rfl)) rfl rfl fun a hF=>q_box (cs:=[s1.v,(iV 0),(.int .u64 0)]) hF hS rfl rfl rfl fun a w b2 hF hS=>q_x (v:=(.pointer (some ⟨b2,0,none⟩))) hF hS (ex_assign rfl) rfl rfl fun a hF=>q_end (n_sq (q_seq (q_region (q_x (v:=(.pointer (some ⟨b2,0,none⟩))) hF hS (ex_move rfl) rfl rfl fun a hF=>?_))))))))))
 have hS3:St _ _ _ _ ([[⟨b2,[s1.v,(iV 0),(.int .u64 0)],65⟩]]++[]):=hS
 have hE3:=hS3.enter
 obtain ⟨t_4,ht_4,hr⟩:=bindS hr
 refine q_do rfl fun _ hK=>wp_callX (vs:=[(.pointer (some ⟨b2,0,none⟩))]) hF func31 (by kernel_rfl) rfl rfl rfl (c_spec_l1Cur_sizes (spec_l1Cur.mk p_code 0 (⟨0⟩:K .u64)) t_4 ht_4 _ m b2 s1 h1 _ hE3) fun a w _ hR hF=>hK _ _ ?_
 obtain ⟨m3',s5,rfl,hm3,hR3,h5,hk6⟩:=hR
 have hS:St _ _ _ _ [[⟨b2,[s1.v,(iV t_4.2.at_),(.int .u64 t_4.2.seed.v)],65⟩]]:=hS3.leave hR3 hm3
 have hm3:=MLe.weakX hS3 hm3
 have h6:Rd m3' s1 t_4.2.code:=by rw [hk6]; exact (h1.mono hm3.le)
 refine q_x (v:=s5.v) hF hS (ex_assign rfl) rfl rfl fun a hF=>q_end (n_sq (q_seq (q_region (q_x (v:=s5.v) hF hS (ex_move rfl) rfl rfl fun a hF=>?_))))
 obtain ⟨t_7,ht_7,hr⟩:=bindS hr
 refine q_call (vs:=[s5.v]) hF hS func26 (by kernel_rfl) rfl rfl rfl (c_spec_cbCount t_4.1 t_7 ht_7 _ m3' hS.vis s5 h5) ?_
 rintro a w _ rfl hF hS
 refine q_x (v:=(iV t_7)) hF hS (ex_assign rfl) rfl rfl fun a hF=>q_end (n_sq (q_seq (q_seq ?_)))
 obtain ⟨j1,hj1,hr⟩:=bindS hr
 refine q_join (fun a w=>∃ t_11,∃ t_12,j1=(t_11,t_12)∧Fr a 35 [(4,(.pointer (some ⟨b2,0,none⟩))),(5,s5.v),(6,(iV t_7)),(20,(.bool t_11))]∧St [] w0 w m3' [[⟨b2,[s1.v,(iV t_12.at_),(.int .u64 t_12.seed.v)],65⟩]]∧Rd m3' s1 t_12.code∧t_12.code=p_code) ?_ ?_
 ·refine q_region (q_x (v:=(iV t_7)) hF hS (ex_move rfl) rfl rfl fun a hF=>q_x (v:=(.bool (decide (0<t_7)))) hF hS (ex_ibin rfl rfl rfl) rfl rfl fun a hF=>q_x (v:=(.bool (decide (0<t_7)))) hF hS (ex_move rfl) rfl rfl fun a hF=>?_)
  rcases bcase (decide (0<t_7)) with hc2 | hc2
  ·have hj1:=cond_f hc2 hj1
   refine q_skip hF (wanted_f hF rfl rfl rfl hc2 rfl) rfl fun a hF=>q_skip hF (wanted_f hF rfl rfl rfl hc2 rfl) rfl fun a hF=>q_skip hF (wanted_f hF rfl rfl rfl hc2 rfl) rfl fun a hF=>q_x (v:=(.bool false)) hF hS (ex_pick_f rfl rfl hc2) rfl rfl fun a hF=>q_end (n_jn ?_)
   obtain rfl:=someI hj1
   exact ⟨_,_,rfl,hF.sub ⟨rfl,rfl,rfl,rfl,trivial⟩,hS,h6,hk6⟩
  ·have hj1:=cond_t hc2 hj1
   refine q_xg (v:=(.pointer (some ⟨b2,0,none⟩))) hF hS (ex_move rfl) (wanted_t hF rfl rfl rfl hc2) rfl fun a hF=>?_
   have hS8:St _ _ _ _ ([[⟨b2,[s1.v,(iV t_4.2.at_),(.int .u64 t_4.2.seed.v)],65⟩]]++[]):=hS
   have hE8:=hS8.enter
   obtain ⟨t_9,ht_9,hj1⟩:=bindS hj1
   refine q_dog (wanted_t hF rfl rfl rfl hc2) fun _ hK=>wp_callX (vs:=[(.pointer (some ⟨b2,0,none⟩)),(iV 4)]) hF func32 (by kernel_rfl) rfl rfl rfl (c_spec_l1Cur_one t_4.2 4 t_9 ht_9 _ m3' b2 s1 h6 _ hE8) fun a w _ hR hF=>hK _ _ ?_
   obtain ⟨rfl,hR8,hk10⟩:=hR
   have hS:St _ _ _ _ [[⟨b2,[s1.v,(iV t_9.2.at_),(.int .u64 t_9.2.seed.v)],65⟩]]:=hS8.leaveF hR8
   have h10:Rd m3' s1 t_9.2.code:=by rw [hk10]; exact h6
   refine q_xg (v:=(.bool (!t_9.1))) hF hS (ex_not rfl) (wanted_t hF rfl rfl rfl hc2) rfl fun a hF=>q_x (v:=(.bool (!t_9.1))) hF hS (ex_pick_t rfl rfl hc2) rfl rfl fun a hF=>q_end (n_jn ?_)
   obtain rfl:=someI hj1
   exact ⟨_,_,rfl,hF.sub ⟨rfl,rfl,rfl,rfl,trivial⟩,hS,h10,(hk10.trans hk6)⟩
 ·rintro a w ⟨t_11,t_12,rfl,hF,hS,h13,h13k⟩
  refine n_sq ?_
  rcases bcase (t_11) with hc3 | hc3
  ·have hr:=cond_f hc3 hr
   refine q_cond_f hF rfl hc3 (q_skipc (n_sq (q_seq (q_region (q_x (v:=s5.v) hF hS (ex_move rfl) rfl rfl fun a hF=>q_x (v:=(.pointer (some ⟨b2,0,none⟩))) hF hS (ex_move rfl) rfl rfl fun a hF=>q_x (v:=(iV t_7)) hF hS (ex_move rfl) rfl rfl fun a hF=>q_x (v:=(iV (w64 (t_7 + 2)))) hF hS (ex_ibin rfl rfl rfl) rfl rfl fun a hF=>?_)))))
   have hS14:St _ _ _ _ ([[⟨b2,[s1.v,(iV t_12.at_),(.int .u64 t_12.seed.v)],65⟩]]++[]):=hS
   have hE14:=hS14.enter
   obtain ⟨t_15,ht_15,hr⟩:=bindS hr
   refine q_do rfl fun _ hK=>wp_callX (vs:=[(.pointer (some ⟨b2,0,none⟩)),(iV (w64 (t_7 + 2)))]) hF func33 (by kernel_rfl) rfl rfl rfl (c_spec_l1Cur_pick t_12 (w64 (t_7 + 2)) t_15 ht_15 _ m3' b2 s1 h13 _ hE14) fun a w _ hR hF=>hK _ _ ?_
   obtain ⟨rfl,hR14,hk16⟩:=hR
   have hS:St _ _ _ _ [[⟨b2,[s1.v,(iV t_15.2.at_),(.int .u64 t_15.2.seed.v)],65⟩]]:=hS14.leaveF hR14
   have h16:Rd m3' s1 t_15.2.code:=by rw [hk16]; exact h13
   refine q_x (v:=(iV (w64 (t_15.1 - 1)))) hF hS (ex_ibin rfl rfl rfl) rfl rfl fun a hF=>q_x (v:=s5.v) hF hS (ex_assign rfl) rfl rfl fun a hF=>q_x (v:=(iV (w64 (t_15.1 - 1)))) hF hS (ex_assign rfl) rfl rfl fun a hF=>q_end (n_sq (q_ret ?_))
   obtain rfl:=someI hr
   exact ret_of hF hS rfl (.tmp rfl (.tmp rfl .nil)) ⟨m3',s5,rfl,hm3,hS.sel [] (by decide),h5⟩
  ·have hr:=cond_t hc3 hr
   refine q_cond_t hF rfl hc3 (q_seq (q_region (q_x (v:=s5.v) hF hS (ex_move rfl) rfl rfl fun a hF=>q_x (v:=(iV t_7)) hF hS (ex_move rfl) rfl rfl fun a hF=>q_x (v:=(iV (w64 (t_7 - 1)))) hF hS (ex_ibin rfl rfl rfl) rfl rfl fun a hF=>q_x (v:=(.pointer (some ⟨b2,0,none⟩))) hF hS (ex_move rfl) rfl rfl fun a hF=>q_x (v:=(iV t_7)) hF hS (ex_move rfl) rfl rfl fun a hF=>?_)))
   obtain ⟨t_17,ht_17,hr⟩:=bindS hr
   refine q_call (vs:=[(iV t_7),(iV 5)]) hF hS func34 (by kernel_rfl) rfl rfl rfl (c_spec_l1Least t_7 5 t_17 ht_17 _ m3' hS.vis) ?_
   rintro a w _ rfl hF hS
   have hS18:St _ _ _ _ ([[⟨b2,[s1.v,(iV t_12.at_),(.int .u64 t_12.seed.v)],65⟩]]++[]):=hS
   have hE18:=hS18.enter
   obtain ⟨t_19,ht_19,hr⟩:=bindS hr
   refine q_do rfl fun _ hK=>wp_callX (vs:=[(.pointer (some ⟨b2,0,none⟩)),(iV t_17)]) hF func33 (by kernel_rfl) rfl rfl rfl (c_spec_l1Cur_pick t_12 t_17 t_19 ht_19 _ m3' b2 s1 h13 _ hE18) fun a w _ hR hF=>hK _ _ ?_
   obtain ⟨rfl,hR18,hk20⟩:=hR
   have hS:St _ _ _ _ [[⟨b2,[s1.v,(iV t_19.2.at_),(.int .u64 t_19.2.seed.v)],65⟩]]:=hS18.leaveF hR18
   have h20:Rd m3' s1 t_19.2.code:=by rw [hk20]; exact h13
   refine q_x (v:=(iV (w64 ((w64 (t_7 - 1)) - t_19.1)))) hF hS (ex_ibin rfl rfl rfl) rfl rfl fun a hF=>q_x (v:=s5.v) hF hS (ex_assign rfl) rfl rfl fun a hF=>q_x (v:=(iV (w64 ((w64 (t_7 - 1)) - t_19.1)))) hF hS (ex_assign rfl) rfl rfl fun a hF=>q_end (n_sq (q_ret (r_sq ?_)))
   obtain rfl:=someI hr
   exact ret_of hF hS rfl (.tmp rfl (.tmp rfl .nil)) ⟨m3',s5,rfl,hm3,hS.sel [] (by decide),h5⟩

theorem c_impl_PartsOf (p_sizes:List Int) (p_i:Int) (r:(List (List Int)) × Bool) (hr:impl_PartsOf p_sizes p_i=some r) (w0:World) (m:Mem) (hv:Vis m w0) (s1:Sl) (h1:Rd m s1 p_sizes) :
  Ret prog 8 [s1.v,(iV p_i)] w0 (fun v w=>∃ (m':Mem) (q0':Piece) (s0':Sl),v=(.tuple #[s0'.v,(.bool r.2)])∧MLe [] w0.heap.size m m'∧St [] w0 w m' [q0']∧OwnL m' 23 q0' s0' r.1):=by
 unfold impl_PartsOf at hr
 refine ret_start func8 rfl 59 rfl rfl m hv fun a hF hS=>q_seq (q_region (q_x (v:=nilS.v) hF hS (ex_assign rfl) rfl rfl fun a hF=>q_x (v:=(.bool false)) hF hS (ex_assign rfl) rfl rfl fun a hF=>q_end (n_sq (q_seq (q_seq ?_)))))
 obtain ⟨t_3,hj1,hr⟩:=bindS hr
 refine q_join (fun a w=>Fr a 59 [(0,s1.v),(1,(iV p_i)),(19,(.bool t_3))]∧St [] w0 w m []) ?_ ?_
 ·refine q_region (q_x (v:=(iV p_i)) hF hS (ex_move rfl) rfl rfl fun a hF=>q_x (v:=(.bool (decide (p_i<0)))) hF hS (ex_ibin rfl rfl rfl) rfl rfl fun a hF=>q_x (v:=(.bool (decide (p_i<0)))) hF hS (ex_move rfl) rfl rfl fun a hF=>?_)
  rcases bcase (decide (p_i<0)) with hc2 | hc2
  ·have hj1:=cond_f hc2 hj1
   refine q_xg (v:=(iV p_i)) hF hS (ex_move rfl) (wanted_t hF rfl rfl rfl hc2) rfl fun a hF=>q_xg (v:=s1.v) hF hS (ex_move rfl) (wanted_t hF rfl rfl rfl hc2) rfl fun a hF=>?_
   obtain ⟨t_2,ht_2,hj1⟩:=bindS hj1
   refine q_callg (vs:=[s1.v]) hF hS (wanted_t hF rfl rfl rfl hc2) func35 (by kernel_rfl) rfl rfl rfl (c_impl_cubeCells p_sizes t_2 ht_2 _ m hS.vis s1 h1) ?_
   rintro a w _ rfl hF hS
   refine q_xg (v:=(.bool (decide (t_2≤p_i)))) hF hS (ex_ibin rfl rfl rfl) (wanted_t hF rfl rfl rfl hc2) rfl fun a hF=>q_x (v:=(.bool (decide (t_2≤p_i)))) hF hS (ex_pick_f rfl rfl hc2) rfl rfl fun a hF=>q_end (n_jn ?_)
   obtain rfl:=someI hj1
   exact ⟨hF.sub ⟨rfl,rfl,rfl,trivial⟩,hS⟩
  ·have hj1:=cond_t hc2 hj1
   refine q_skip hF (wanted_f hF rfl rfl rfl hc2 rfl) rfl fun a hF=>q_skip hF (wanted_f hF rfl rfl rfl hc2 rfl) rfl fun a hF=>q_skip hF (wanted_f hF rfl rfl rfl hc2 rfl) rfl fun a hF=>q_skip hF (wanted_f hF rfl rfl rfl hc2 rfl) rfl fun a hF=>q_x (v:=(.bool true)) hF hS (ex_pick_t rfl rfl hc2) rfl rfl fun a hF=>q_end (n_jn ?_)
   obtain rfl:=someI hj1
   exact ⟨hF.sub ⟨rfl,rfl,rfl,trivial⟩,hS⟩
 ·rintro a w ⟨hF,hS⟩
  refine n_sq ?_
  rcases bcase (t_3) with hc3 | hc3
  ·have hr:=cond_f hc3 hr
   refine q_cond_f hF rfl hc3 (q_skipc (n_sq (q_seq (q_region (q_x (v:=nilS.v) hF hS (ex_assign rfl) rfl rfl fun a hF=>q_end (n_sq (q_seq (q_region (q_x (v:=s1.v) hF hS (ex_move rfl) rfl rfl fun a hF=>?_)))))))))
   obtain ⟨t_4,ht_4,hr⟩:=bindS hr
   refine q_call (vs:=[s1.v]) hF hS func36 (by kernel_rfl) rfl rfl rfl (c_impl_strides p_sizes t_4 ht_4 _ m hS.vis s1 h1) ?_
   rintro a w _ ⟨q6,s6,rfl,hR5,h6⟩ hF hS2
   have hS:St _ _ _ _ [q6]:=hS.joinF hR5
   refine q_x (v:=s6.v) hF hS (ex_assign rfl) rfl rfl fun a hF=>q_end (n_sq (q_seq (q_seq (q_region (q_x (v:=s1.v) hF hS (ex_move rfl) rfl rfl fun a hF=>q_x (v:=(iV p_i)) hF hS (ex_move rfl) rfl rfl fun a hF=>?_)))))
   obtain ⟨t_7,ht_7,hr⟩:=bindS hr
   refine q_call (vs:=[s1.v,(iV p_i)]) hF hS func37 (by kernel_rfl) rfl rfl rfl (c_impl_indexOf p_sizes p_i t_7 ht_7 _ m hS.vis s1 h1) ?_
   rintro a w _ ⟨q9,s9,rfl,hR8,h9⟩ hF hS2
   have hS:St _ _ _ _ [q9,q6]:=hS.joinF hR8
   refine q_x (v:=(iV (goLen t_7))) hF hS (ex_len underlying23 rfl h9.len) rfl rfl fun a hF=>q_x (v:=(iV 0)) hF hS (ex_move rfl) rfl rfl fun a hF=>q_end (n_sq (q_block ?_))
   obtain ⟨out_35,hl4,hr⟩:=bindS hr
   refine q_loop (fun (s:(List (List Int)) × Int) a w=>∃ (m13:Mem),∃ (q11:Piece),∃ (s11:Sl),∃ out_10,∃ t_12,s=(out_10,t_12)∧Fr a 59 [(0,s1.v),(1,(iV p_i)),(6,s11.v),(7,s6.v),(24,s9.v),(25,(iV (goLen t_7))),(26,(iV t_12))]∧St [] w0 w m13 [q11,q9,q6]∧MLe [] w0.heap.size m m13∧OwnL m13 23 q11 s11 out_10) (fun (out_35:(List (List Int))) e a w=>∃ (m37:Mem),∃ (q36:Piece),∃ (s36:Sl),e=.exit 0∧Fr a 59 [(6,s36.v)]∧St [] w0 w m37 [q36]∧MLe [] w0.heap.size m m37∧OwnL m37 23 q36 s36 out_35) hl4 ⟨m,[],nilS,_,_,rfl,hF.sub ⟨rfl,rfl,rfl,rfl,rfl,rfl,rfl,trivial⟩,hS.sel [2,0,1] (by decide),(MLe.refl _ _),(OwnL.nil (α:=List Int) m 23)⟩ ?_ ?_
   ·clear hF hS
    rintro s a w st ⟨m13,q11,s11,out_10,t_12,rfl,hF,hS,hm13,h11⟩ hb4
    unfold impl_PartsOf_l1 at hb4
    refine q_seq (q_region (q_x (v:=(.bool (decide (t_12<(goLen t_7))))) hF hS (ex_ibin rfl rfl rfl) rfl rfl fun a hF=>q_end (n_sq (q_seq ?_))))
    rcases bcase (decide (t_12<(goLen t_7))) with hc5 | hc5
    ·have hb4:=cond_f hc5 hb4
     refine q_cond_f hF rfl hc5 (q_exit (x_sq ?_))
     obtain rfl:=someI hb4
     exact ⟨nofun,.inl ⟨m13,q11,s11,rfl,hF.sub ⟨rfl,trivial⟩,hS.mask [true,false,false],hm13,h11⟩⟩
    ·have hb4:=cond_t hc5 hb4
     refine q_cond_t hF rfl hc5 (q_skipc (n_sq (q_seq ?_)))
     obtain ⟨out_32,hj6,hb4⟩:=bindS hb4
     refine q_join (fun a w=>∃ (m34:Mem),∃ (q33:Piece),∃ (s33:Sl),Fr a 59 [(0,s1.v),(1,(iV p_i)),(6,s33.v),(7,s6.v),(24,s9.v),(25,(iV (goLen t_7))),(26,(iV t_12))]∧St [] w0 w m34 [q33,q6,q9]∧MLe [] w0.heap.size m13 m34∧OwnL m34 23 q33 s33 out_32) ?_ ?_
     ·refine q_block (q_seq (q_region (q_x (v:=(iV t_12)) hF hS (ex_move rfl) rfl rfl fun a hF=>?_)))
      obtain ⟨e_14,he_14,hj6⟩:=bindS hj6
      obtain ⟨vs15,at15,d15⟩:=(h9.mono hm13.le).at he_14 1 rfl
      obtain rfl:vs15=[(iV e_14)]:=d15
      refine q_x (v:=(elP s9 (t_12.toNat * 1))) hF hS (ex_indexAddr underlying23 sz3 rfl rfl ((h9.mono hm13.le).idx he_14)) rfl rfl fun a hF=>q_x (v:=(iV e_14)) hF hS (ex_loadE1 0 underlying3 rfl rfl (at15.at 1 rfl) rfl rfl) rfl rfl fun a hF=>q_x (v:=(iV t_12)) hF hS (ex_assign rfl) rfl rfl fun a hF=>q_x (v:=(iV e_14)) hF hS (ex_assign rfl) rfl rfl fun a hF=>q_end (n_sq (q_seq (q_seq (q_region (q_x (v:=(iV e_14)) hF hS (ex_move rfl) rfl rfl fun a hF=>q_x (v:=s1.v) hF hS (ex_move rfl) rfl rfl fun a hF=>q_x (v:=(iV t_12)) hF hS (ex_move rfl) rfl rfl fun a hF=>?_)))))
      obtain ⟨e_16,he_16,hj6⟩:=bindS hj6
      obtain ⟨vs17,at17,d17⟩:=(h1.mono hm13.le).at he_16 1 rfl
      obtain rfl:vs17=[(iV e_16)]:=d17
      refine q_x (v:=(elP s1 (t_12.toNat * 1))) hF hS (ex_indexAddr underlying23 sz3 rfl rfl ((h1.mono hm13.le).idx he_16)) rfl rfl fun a hF=>q_x (v:=(iV e_16)) hF hS (ex_loadE1 0 underlying3 rfl rfl ((at17).at) rfl rfl) rfl rfl fun a hF=>q_x (v:=(.bool (e_14 != e_16))) hF hS (ex_ibin rfl rfl rfl) rfl rfl fun a hF=>q_end (n_sq ?_)
      rcases bcase (e_14 != e_16) with hc7 | hc7
      ·have hj6:=cond_f hc7 hj6
       refine q_cond_f hF rfl hc7 (q_skipc (n_sq (q_seq (q_region (q_x (v:=nilS.v) hF hS (ex_assign rfl) rfl rfl fun a hF=>q_end (n_sq (q_seq (q_seq (q_region (q_x (v:=(iV e_14)) hF hS (ex_move rfl) rfl rfl fun a hF=>q_x (v:=(iV e_14)) hF hS (ex_assign rfl) rfl rfl fun a hF=>q_end (n_sq (q_block ?_))))))))))))
       obtain ⟨part_26,hl8,hj6⟩:=bindS hj6
       refine q_loop (fun (s:(List Int) × Int) a w=>∃ (q19:Piece),∃ (s19:Sl),∃ part_18,∃ k_20,s=(part_18,k_20)∧Fr a 59 [(0,s1.v),(1,(iV p_i)),(6,s11.v),(7,s6.v),(8,(iV t_12)),(10,s19.v),(11,(iV k_20)),(24,s9.v),(25,(iV (goLen t_7))),(26,(iV t_12))]∧St [] w0 w m13 [q19,q11,q9,q6]∧OwnL m13 3 q19 s19 part_18) (fun (part_26:(List Int)) e a w=>∃ (q27:Piece),∃ (s27:Sl),e=.exit 2∧Fr a 59 [(0,s1.v),(1,(iV p_i)),(6,s11.v),(7,s6.v),(10,s27.v),(24,s9.v),(25,(iV (goLen t_7))),(26,(iV t_12))]∧St [] w0 w m13 [q11,q6,q27,q9]∧OwnL m13 3 q27 s27 part_26) hl8 ⟨[],nilS,_,_,rfl,hF.sub ⟨rfl,rfl,rfl,rfl,rfl,rfl,rfl,rfl,rfl,rfl,trivial⟩,hS.sel [3,0,1,2] (by decide),(OwnL.nil (α:=Int) m13 3)⟩ ?_ ?_
       ·clear hF hS
        rintro s a w st ⟨q19,s19,part_18,k_20,rfl,hF,hS,h19⟩ hb8
        unfold impl_PartsOf_l2 at hb8
        refine q_seq (q_seq (q_region (q_x (v:=(iV k_20)) hF hS (ex_move rfl) rfl rfl fun a hF=>q_x (v:=(.bool (decide (0<k_20)))) hF hS (ex_ibin rfl rfl rfl) rfl rfl fun a hF=>q_end (n_sq ?_))))
        rcases bcase (decide (0<k_20)) with hc9 | hc9
        ·have hb8:=cond_f hc9 hb8
         refine q_cond_f hF rfl hc9 (q_exit (x_sq ?_))
         obtain rfl:=someI hb8
         exact ⟨nofun,.inl ⟨q19,s19,rfl,hF.sub ⟨rfl,rfl,rfl,rfl,rfl,rfl,rfl,rfl,trivial⟩,hS.sel [1,3,0,2] (by decide),h19⟩⟩
        ·have hb8:=cond_t hc9 hb8
         refine q_cond_t hF rfl hc9 (q_skipc (n_sq (q_seq (q_block (q_region (q_x (v:=s19.v) hF hS (ex_move rfl) rfl rfl fun a hF=>q_x (v:=(iV p_i)) hF hS (ex_move rfl) rfl rfl fun a hF=>q_x (v:=(iV k_20)) hF hS (ex_move rfl) rfl rfl fun a hF=>q_x (v:=s6.v) hF hS (ex_move rfl) rfl rfl fun a hF=>q_x (v:=(iV t_12)) hF hS (ex_move rfl) rfl rfl fun a hF=>?_))))))
         obtain ⟨e_21,he_21,hb8⟩:=bindS hb8
         obtain ⟨vs22,at22,d22⟩:=(h6.mono hm13.le).at he_21 1 rfl
         obtain rfl:vs22=[(iV e_21)]:=d22
         refine q_x (v:=(elP s6 (t_12.toNat * 1))) hF hS (ex_indexAddr underlying23 sz3 rfl rfl ((h6.mono hm13.le).idx he_21)) rfl rfl fun a hF=>q_x (v:=(iV e_21)) hF hS (ex_loadE1 0 underlying3 rfl rfl (at22.at 3 rfl) rfl rfl) rfl rfl fun a hF=>q_x (v:=(iV (w64 (k_20 * e_21)))) hF hS (ex_ibin rfl rfl rfl) rfl rfl fun a hF=>q_x (v:=(iV (w64 (p_i - (w64 (k_20 * e_21)))))) hF hS (ex_ibin rfl rfl rfl) rfl rfl fun a hF=>q_do rfl fun _ hK=>wp_buildSlice' (l:=([(w64 (p_i - (w64 (k_20 * e_21))))]:List Int)) (cells:=[(iV (w64 (p_i - (w64 (k_20 * e_21)))))]) hF hS underlying23 inf3 rfl rfl (by kernel_rfl) rfl rfl rfl ⟨rfl,rfl⟩ rfl rfl fun a w q23 s23 hF hS h23 _=>hK _ _ ?_
         have hS:St _ _ _ _ [q19,q23,q11,q9,q6]:=hS.sel [1,0,2,3,4] (by decide)
         obtain ⟨l_24,hl_24,hb8⟩:=bindS hb8
         refine q_do rfl fun _ hK=>wp_append hF hS h19 underlying23 inf3 rfl rfl rfl rfl (h23.vw hS (j:=1) rfl) rfl (by decide) hl_24 rfl fun a w q25 s25 hF hS h25=>hK _ _ (q_x (v:=s25.v) hF hS (ex_assign rfl) rfl rfl fun a hF=>q_end (n_ib (n_sq (q_region (q_x (v:=(iV k_20)) hF hS (ex_move rfl) rfl rfl fun a hF=>q_x (v:=(iV (w64 (k_20 - 1)))) hF hS (ex_ibin rfl rfl rfl) rfl rfl fun a hF=>q_x (v:=(iV (w64 (k_20 - 1)))) hF hS (ex_assign rfl) rfl rfl fun a hF=>q_end ?_)))))
         obtain rfl:=someI hb8
         exact ⟨rfl,q25,s25,_,_,rfl,hF.sub ⟨rfl,rfl,rfl,rfl,rfl,rfl,rfl,rfl,rfl,rfl,trivial⟩,hS.mask [true,false,true,true,true],h25⟩
       ·rintro e a w ⟨q27,s27,rfl,hF,hS,h27⟩
        refine x_ib (n_sq ?_)
        refine q_region (q_x (v:=s11.v) hF hS (ex_move rfl) rfl rfl fun a hF=>q_x (v:=s27.v) hF hS (ex_move rfl) rfl rfl fun a hF=>?_)
        have hS:St _ _ _ _ [q27,q11,q6,q9]:=hS.sel [2,0,1,3] (by decide)
        obtain ⟨m29,hm29,hS,hz29⟩:=hS.freeze
        have h29:=h27.froz hm29.le hz29
        refine q_do rfl fun _ hK=>wp_buildSlice' (l:=([part_26]:List (List Int))) (cells:=[s27.v]) hF hS underlying38 inf23 rfl rfl (by kernel_rfl) rfl rfl rfl ⟨⟨s27,rfl,h29⟩,rfl⟩ rfl rfl fun a w q28 s28 hF hS h28 _=>hK _ _ ?_
        have hS:St _ _ _ _ [q11,q28,q6,q9]:=hS.sel [1,0,2,3] (by decide)
        obtain ⟨l_30,hl_30,hj6⟩:=bindS hj6
        refine q_do rfl fun _ hK=>wp_append hF hS (h11.mono hm29.le) underlying38 inf23 rfl rfl rfl rfl (h28.vw hS (j:=1) rfl) rfl (by decide) hl_30 rfl fun a w q31 s31 hF hS h31=>hK _ _ (q_x (v:=s31.v) hF hS (ex_assign rfl) rfl rfl fun a hF=>q_end (n_ib (n_jn ?_)))
        obtain rfl:=someI hj6
        exact ⟨m29,q31,s31,hF.sub ⟨rfl,rfl,rfl,rfl,rfl,rfl,rfl,trivial⟩,hS.mask [true,false,true,true],hm29,h31⟩
      ·have hj6:=cond_t hc7 hj6
       refine q_cond_t hF rfl hc7 (q_exit (x_sq (x_ib (n_jn ?_))))
       obtain rfl:=someI hj6
       exact ⟨m13,q11,s11,hF.sub ⟨rfl,rfl,rfl,rfl,rfl,rfl,rfl,trivial⟩,hS.sel [0,2,1] (by decide),(MLe.refl _ _),h11⟩
     ·rintro a w ⟨m34,q33,s33,hF,hS,hm34,h33⟩
      refine n_sq ?_
      refine q_region (q_x (v:=(iV (w64 (t_12 + 1)))) hF hS (ex_ibin rfl rfl rfl) rfl rfl fun a hF=>q_x (v:=(iV (w64 (t_12 + 1)))) hF hS (ex_move rfl) rfl rfl fun a hF=>q_end ?_)
      obtain rfl:=someI hb4
      exact ⟨rfl,m34,q33,s33,_,_,rfl,hF.sub ⟨rfl,rfl,rfl,rfl,rfl,rfl,rfl,trivial⟩,hS.sel [0,2,1] (by decide),(hm13.trans hm34),h33⟩
   ·rintro e a w ⟨m37,q36,s36,rfl,hF,hS,hm37,h36⟩
    refine x_ib (n_sq ?_)
    refine q_seq (q_region (q_x (v:=s36.v) hF hS (ex_move rfl) rfl rfl fun a hF=>q_x (v:=s36.v) hF hS (ex_assign rfl) rfl rfl fun a hF=>q_x (v:=(.bool true)) hF hS (ex_assign rfl) rfl rfl fun a hF=>q_end (n_sq (q_ret ?_))))
    obtain rfl:=someI hr
    exact ret_of hF hS rfl (.tmp rfl (.tmp rfl .nil)) ⟨m37,q36,s36,rfl,hm37,hS.sel [0] (by decide),h36⟩
  ·have hr:=cond_t hc3 hr
   refine q_cond_t hF rfl hc3 (q_seq (q_region (q_x (v:=nilS.v) hF hS (ex_assign rfl) rfl rfl fun a hF=>q_x (v:=(.bool false)) hF hS (ex_assign rfl) rfl rfl fun a hF=>q_end (n_sq (q_ret (r_sq ?_))))))
   obtain rfl:=someI hr
   exact ret_of hF hS rfl (.tmp rfl (.tmp rfl .nil)) ⟨m,[],nilS,rfl,(MLe.refl _ _),hS.sel [0] (by decide),(OwnL.nil (α:=List Int) m 23)⟩

theorem c_spec_PartsOf (p_sizes:List Int) (p_i:Int) (r:(List (List Int)) × Bool) (hr:spec_PartsOf p_sizes p_i=some r) (w0:World) (m:Mem) (hv:Vis m w0) (s1:Sl) (h1:Rd m s1 p_sizes) :
  Ret prog 9 [s1.v,(iV p_i)] w0 (fun v w=>∃ (m':Mem) (q0':Piece) (s0':Sl),v=(.tuple #[s0'.v,(.bool r.2)])∧MLe [] w0.heap.size m m'∧St [] w0 w m' [q0']∧OwnL m' 23 q0' s0' r.1):=by
 unfold spec_PartsOf at hr
 refine ret_start func9 rfl 39 rfl rfl m hv fun a hF hS=>q_seq (q_region (q_x (v:=nilS.v) hF hS (ex_assign rfl) rfl rfl fun a hF=>q_x (v:=(.bool false)) hF hS (ex_assign rfl) rfl rfl fun a hF=>q_end (n_sq (q_seq (q_seq (q_region (q_x (v:=(iV p_i)) hF hS (ex_move rfl) rfl rfl fun a hF=>q_x (v:=s1.v) hF hS (ex_move rfl) rfl rfl fun a hF=>?_)))))))
 obtain ⟨t_2,ht_2,hr⟩:=bindS hr
 refine q_call (vs:=[s1.v]) hF hS func26 (by kernel_rfl) rfl rfl rfl (c_spec_cbCount p_sizes t_2 ht_2 _ m hS.vis s1 h1) ?_
 rintro a w _ rfl hF hS
 refine q_x (v:=(iV (w64 (t_2 - 1)))) hF hS (ex_ibin rfl rfl rfl) rfl rfl fun a hF=>?_
 obtain ⟨t_3,ht_3,hr⟩:=bindS hr
 refine q_call (vs:=[(iV p_i),(iV 0),(iV (w64 (t_2 - 1)))]) hF hS func38 (by kernel_rfl) rfl rfl rfl (c_spec_l1In p_i 0 (w64 (t_2 - 1)) t_3 ht_3 _ m hS.vis) ?_
 rintro a w _ rfl hF hS
 refine q_x (v:=(.bool (!t_3))) hF hS (ex_not rfl) rfl rfl fun a hF=>q_end (n_sq ?_)
 rcases bcase (!t_3) with hc1 | hc1
 ·have hr:=cond_f hc1 hr
  refine q_cond_f hF rfl hc1 (q_skipc (n_sq (q_seq (q_region (q_x (v:=nilS.v) hF hS (ex_assign rfl) rfl rfl fun a hF=>q_end (n_sq (q_seq (q_seq (q_region (q_x (v:=s1.v) hF hS (ex_move rfl) rfl rfl fun a hF=>q_x (v:=(iV p_i)) hF hS (ex_move rfl) rfl rfl fun a hF=>?_))))))))))
  obtain ⟨t_4,ht_4,hr⟩:=bindS hr
  refine q_call (vs:=[s1.v,(iV p_i)]) hF hS func39 (by kernel_rfl) rfl rfl rfl (c_spec_cbIndices p_sizes p_i t_4 ht_4 _ m hS.vis s1 h1) ?_
  rintro a w _ ⟨q6,s6,rfl,hR5,h6⟩ hF hS2
  have hS:St _ _ _ _ [q6]:=hS.joinF hR5
  refine q_x (v:=(iV (goLen t_4))) hF hS (ex_len underlying23 rfl h6.len) rfl rfl fun a hF=>q_x (v:=(iV 0)) hF hS (ex_move rfl) rfl rfl fun a hF=>q_end (n_sq (q_block ?_))
  obtain ⟨out_25,hl2,hr⟩:=bindS hr
  refine q_loop (fun (s:(List (List Int)) × Int) a w=>∃ (m10:Mem),∃ (q8:Piece),∃ (s8:Sl),∃ out_7,∃ t_9,s=(out_7,t_9)∧Fr a 39 [(0,s1.v),(1,(iV p_i)),(6,s8.v),(17,s6.v),(18,(iV (goLen t_4))),(19,(iV t_9))]∧St [] w0 w m10 [q8,q6]∧MLe [] w0.heap.size m m10∧OwnL m10 23 q8 s8 out_7) (fun (out_25:(List (List Int))) e a w=>∃ (m27:Mem),∃ (q26:Piece),∃ (s26:Sl),e=.exit 0∧Fr a 39 [(6,s26.v)]∧St [] w0 w m27 [q26]∧MLe [] w0.heap.size m m27∧OwnL m27 23 q26 s26 out_25) hl2 ⟨m,[],nilS,_,_,rfl,hF.sub ⟨rfl,rfl,rfl,rfl,rfl,rfl,trivial⟩,hS.sel [1,0] (by decide),(MLe.refl _ _),(OwnL.nil (α:=List Int) m 23)⟩ ?_ ?_
  ·clear hF hS
   rintro s a w st ⟨m10,q8,s8,out_7,t_9,rfl,hF,hS,hm10,h8⟩ hb2
   unfold spec_PartsOf_l1 at hb2
   refine q_seq (q_region (q_x (v:=(.bool (decide (t_9<(goLen t_4))))) hF hS (ex_ibin rfl rfl rfl) rfl rfl fun a hF=>q_end (n_sq (q_seq ?_))))
   rcases bcase (decide (t_9<(goLen t_4))) with hc3 | hc3
   ·have hb2:=cond_f hc3 hb2
    refine q_cond_f hF rfl hc3 (q_exit (x_sq ?_))
    obtain rfl:=someI hb2
    exact ⟨nofun,.inl ⟨m10,q8,s8,rfl,hF.sub ⟨rfl,trivial⟩,hS.mask [true,false],hm10,h8⟩⟩
   ·have hb2:=cond_t hc3 hb2
    refine q_cond_t hF rfl hc3 (q_skipc (n_sq (q_seq (q_block (q_seq (q_region (q_x (v:=(iV t_9)) hF hS (ex_move rfl) rfl rfl fun a hF=>?_)))))))
    obtain ⟨e_11,he_11,hb2⟩:=bindS hb2
    obtain ⟨vs12,at12,d12⟩:=(h6.mono hm10.le).at he_11 1 rfl
    obtain rfl:vs12=[(iV e_11)]:=d12
    refine q_x (v:=(elP s6 (t_9.toNat * 1))) hF hS (ex_indexAddr underlying23 sz3 rfl rfl ((h6.mono hm10.le).idx he_11)) rfl rfl fun a hF=>q_x (v:=(iV e_11)) hF hS (ex_loadE1 0 underlying3 rfl rfl (at12.at 1 rfl) rfl rfl) rfl rfl fun a hF=>q_x (v:=(iV t_9)) hF hS (ex_assign rfl) rfl rfl fun a hF=>q_x (v:=(iV e_11)) hF hS (ex_assign rfl) rfl rfl fun a hF=>q_end (n_sq (q_seq (q_region (q_x (v:=(iV e_11)) hF hS (ex_move rfl) rfl rfl fun a hF=>q_x (v:=s1.v) hF hS (ex_move rfl) rfl rfl fun a hF=>q_x (v:=(iV t_9)) hF hS (ex_move rfl) rfl rfl fun a hF=>?_))))
    obtain ⟨e_13,he_13,hb2⟩:=bindS hb2
    obtain ⟨vs14,at14,d14⟩:=(h1.mono hm10.le).at he_13 1 rfl
    obtain rfl:vs14=[(iV e_13)]:=d14
    refine q_x (v:=(elP s1 (t_9.toNat * 1))) hF hS (ex_indexAddr underlying23 sz3 rfl rfl ((h1.mono hm10.le).idx he_13)) rfl rfl fun a hF=>q_x (v:=(iV e_13)) hF hS (ex_loadE1 0 underlying3 rfl rfl ((at14).at) rfl rfl) rfl rfl fun a hF=>q_x (v:=(.bool (e_11 == e_13))) hF hS (ex_ibin rfl rfl rfl) rfl rfl fun a hF=>q_end (n_sq ?_)
    obtain ⟨out_22,hj4,hb2⟩:=bindS hb2
    refine q_join (fun a w=>∃ (m24:Mem),∃ (q23:Piece),∃ (s23:Sl),Fr a 39 [(0,s1.v),(1,(iV p_i)),(6,s23.v),(17,s6.v),(18,(iV (goLen t_4))),(19,(iV t_9))]∧St [] w0 w m24 [q23,q6]∧MLe [] w0.heap.size m10 m24∧OwnL m24 23 q23 s23 out_22) ?_ ?_
    ·rcases bcase (e_11 == e_13) with hc5 | hc5
     ·have hj4:=cond_f hc5 hj4
      refine q_cond_f hF rfl hc5 (q_skipc (n_jn ?_))
      obtain rfl:=someI hj4
      exact ⟨m10,q8,s8,hF.sub ⟨rfl,rfl,rfl,rfl,rfl,rfl,trivial⟩,hS,(MLe.refl _ _),h8⟩
     ·have hj4:=cond_t hc5 hj4
      refine q_cond_t hF rfl hc5 (q_region (q_x (v:=s8.v) hF hS (ex_move rfl) rfl rfl fun a hF=>q_x (v:=s1.v) hF hS (ex_move rfl) rfl rfl fun a hF=>q_x (v:=(iV p_i)) hF hS (ex_move rfl) rfl rfl fun a hF=>q_x (v:=(iV t_9)) hF hS (ex_move rfl) rfl rfl fun a hF=>?_))
      obtain ⟨t_15,ht_15,hj4⟩:=bindS hj4
      refine q_call (vs:=[s1.v,(iV p_i),(iV t_9)]) hF hS func40 (by kernel_rfl) rfl rfl rfl (c_spec_cbParts p_sizes p_i t_9 t_15 ht_15 _ m10 hS.vis s1 (h1.mono hm10.le)) ?_
      rintro a w _ ⟨q17,s17,rfl,hR16,h17⟩ hF hS2
      have hS:St _ _ _ _ [q17,q8,q6]:=hS.joinF hR16
      obtain ⟨m19,hm19,hS,hz19⟩:=hS.freeze
      have h19:=h17.froz hm19.le hz19
      refine q_do rfl fun _ hK=>wp_buildSlice' (l:=([t_15]:List (List Int))) (cells:=[s17.v]) hF hS underlying38 inf23 rfl rfl (by kernel_rfl) rfl rfl rfl ⟨⟨s17,rfl,h19⟩,rfl⟩ rfl rfl fun a w q18 s18 hF hS h18 _=>hK _ _ ?_
      have hS:St _ _ _ _ [q8,q18,q6]:=hS.sel [1,0,2] (by decide)
      obtain ⟨l_20,hl_20,hj4⟩:=bindS hj4
      refine q_do rfl fun _ hK=>wp_append hF hS (h8.mono hm19.le) underlying38 inf23 rfl rfl rfl rfl (h18.vw hS (j:=1) rfl) rfl (by decide) hl_20 rfl fun a w q21 s21 hF hS h21=>hK _ _ (q_x (v:=s21.v) hF hS (ex_assign rfl) rfl rfl fun a hF=>q_end (n_jn ?_))
      obtain rfl:=someI hj4
      exact ⟨m19,q21,s21,hF.sub ⟨rfl,rfl,rfl,rfl,rfl,rfl,trivial⟩,hS.mask [true,false,true],hm19,h21⟩
    ·rintro a w ⟨m24,q23,s23,hF,hS,hm24,h23⟩
     refine n_ib (n_sq ?_)
     refine q_region (q_x (v:=(iV (w64 (t_9 + 1)))) hF hS (ex_ibin rfl rfl rfl) rfl rfl fun a hF=>q_x (v:=(iV (w64 (t_9 + 1)))) hF hS (ex_move rfl) rfl rfl fun a hF=>q_end ?_)
     obtain rfl:=someI hb2
     exact ⟨rfl,m24,q23,s23,_,_,rfl,hF.sub ⟨rfl,rfl,rfl,rfl,rfl,rfl,trivial⟩,hS,(hm10.trans hm24),h23⟩
  ·rintro e a w ⟨m27,q26,s26,rfl,hF,hS,hm27,h26⟩
   refine x_ib (n_sq ?_)
   refine q_seq (q_region (q_x (v:=s26.v) hF hS (ex_move rfl) rfl rfl fun a hF=>q_x (v:=s26.v) hF hS (ex_assign rfl) rfl rfl fun a hF=>q_x (v:=(.bool true)) hF hS (ex_assign rfl) rfl rfl fun a hF=>q_end (n_sq (q_ret ?_))))
   obtain rfl:=someI hr
   exact ret_of hF hS rfl (.tmp rfl (.tmp rfl .nil)) ⟨m27,q26,s26,rfl,hm27,hS.sel [0] (by decide),h26⟩
 ·have hr:=cond_t hc1 hr
  refine q_cond_t hF rfl hc1 (q_seq (q_region (q_x (v:=nilS.v) hF hS (ex_assign rfl) rfl rfl fun a hF=>q_x (v:=(.bool false)) hF hS (ex_assign rfl) rfl rfl fun a hF=>q_end (n_sq (q_ret (r_sq ?_))))))
  obtain rfl:=someI hr
  exact ret_of hF hS rfl (.tmp rfl (.tmp rfl .nil)) ⟨m,[],nilS,rfl,(MLe.refl _ _),hS.sel [0] (by decide),(OwnL.nil (α:=List Int) m 23)⟩

theorem c_spec_l1Cur_baseCells (p_c:spec_l1Cur) (p_sizes:List Int) (r:(List Int) × spec_l1Cur) (hr:spec_l1Cur_baseCells p_c p_sizes=some r) (w0:World) (m:Mem) (b_p_c:Nat) (s1:Sl) (h1:Rd m s1 p_c.code) (s2:Sl) (h2:Rd m s2 p_sizes) (X:List Nat) (hS:St X w0 w0 m [[⟨b_p_c,[s1.v,(iV p_c.at_),(.int .u64 p_c.seed.v)],65⟩]]) :
  RetX prog 42 [(.pointer (some ⟨b_p_c,0,none⟩)),s2.v] w0 (fun v w=>∃ (q0':Piece) (s0':Sl),v=s0'.v∧St X w0 w m [[⟨b_p_c,[s1.v,(iV r.2.at_),(.int .u64 r.2.seed.v)],65⟩],q0']∧OwnL m 3 q0' s0' r.1∧r.2.code=p_c.code):=by
 unfold spec_l1Cur_baseCells at hr
 refine ret_startX func42 rfl 25 rfl rfl fun a hF=>q_seq (q_region (q_x (v:=nilS.v) hF hS (ex_assign rfl) rfl rfl fun a hF=>q_end (n_sq (q_seq (q_region (q_x (v:=nilS.v) hF hS (ex_assign rfl) rfl rfl fun a hF=>q_end (n_sq (q_seq (q_seq (q_region (q_x (v:=s2.v) hF hS (ex_move rfl) rfl rfl fun a hF=>?_)))))))))))
 obtain ⟨t_3,ht_3,hr⟩:=bindS hr
 refine q_call (vs:=[s2.v]) hF hS func75 (by kernel_rfl) rfl rfl rfl (c_spec_cbBase p_sizes t_3 ht_3 _ m hS.vis s2 h2) ?_
 rintro a w _ ⟨q5,s5,rfl,hR4,h5⟩ hF hS2
 have hS:St _ _ _ _ [q5,[⟨b_p_c,[s1.v,(iV p_c.at_),(.int .u64 p_c.seed.v)],65⟩]]:=hS.joinF hR4
 refine q_x (v:=(iV (goLen t_3))) hF hS (ex_len underlying23 rfl h5.len) rfl rfl fun a hF=>q_x (v:=(iV 0)) hF hS (ex_move rfl) rfl rfl fun a hF=>q_end (n_sq (q_block ?_))
 obtain ⟨o1,hl1,hr⟩:=bindS hr
 refine q_loop (fun (s:(List Int) × Int × spec_l1Cur) a w=>∃ (q7:Piece),∃ (s7:Sl),∃ out_6,∃ t_8,∃ p_c_9,s=(out_6,t_8,p_c_9)∧Fr a 25 [(0,(.pointer (some ⟨b_p_c,0,none⟩))),(5,s7.v),(9,(iV (goLen t_3))),(10,(iV t_8))]∧St X w0 w m [q7,[⟨b_p_c,[s1.v,(iV p_c_9.at_),(.int .u64 p_c_9.seed.v)],65⟩]]∧OwnL m 3 q7 s7 out_6∧Rd m s1 p_c_9.code∧p_c_9.code=p_c.code) (fun (o:(List Int) × spec_l1Cur) e a w=>∃ (q27:Piece),∃ (s27:Sl),∃ out_26,∃ p_c_28,o=(out_26,p_c_28)∧e=.exit 0∧Fr a 25 [(5,s27.v)]∧St X w0 w m [q27,[⟨b_p_c,[s1.v,(iV p_c_28.at_),(.int .u64 p_c_28.seed.v)],65⟩]]∧OwnL m 3 q27 s27 out_26∧Rd m s1 p_c_28.code∧p_c_28.code=p_c.code) hl1 ⟨[],nilS,_,_,_,rfl,hF.sub ⟨rfl,rfl,rfl,rfl,trivial⟩,hS.sel [2,1] (by decide),(OwnL.nil (α:=Int) m 3),h1,rfl⟩ ?_ ?_
 ·clear hF hS
  rintro s a w st ⟨q7,s7,out_6,t_8,p_c_9,rfl,hF,hS,h7,h10,h10k⟩ hb1
  unfold spec_l1Cur_baseCells_l1 at hb1
  refine q_seq (q_region (q_x (v:=(.bool (decide (t_8<(goLen t_3))))) hF hS (ex_ibin rfl rfl rfl) rfl rfl fun a hF=>q_end (n_sq (q_seq ?_))))
  rcases bcase (decide (t_8<(goLen t_3))) with hc2 | hc2
  ·have hb1:=cond_f hc2 hb1
   refine q_cond_f hF rfl hc2 (q_exit (x_sq ?_))
   obtain rfl:=someI hb1
   exact ⟨nofun,.inl ⟨q7,s7,_,_,rfl,rfl,hF.sub ⟨rfl,trivial⟩,hS,h7,h10,h10k⟩⟩
  ·have hb1:=cond_t hc2 hb1
   refine q_cond_t hF rfl hc2 (q_skipc (n_sq (q_seq (q_block (q_seq (q_region (q_x (v:=(.pointer (some ⟨b_p_c,0,none⟩))) hF hS (ex_move rfl) rfl rfl fun a hF=>?_)))))))
   have hS:St _ _ _ _ [[⟨b_p_c,[s1.v,(iV p_c_9.at_),(.int .u64 p_c_9.seed.v)],65⟩],q7]:=hS.sel [1,0] (by decide)
   have hS11:St _ _ _ _ ([[⟨b_p_c,[s1.v,(iV p_c_9.at_),(.int .u64 p_c_9.seed.v)],65⟩]]++[q7]):=hS
   have hE11:=hS11.enter
   obtain ⟨t_12,ht_12,hb1⟩:=bindS hb1
   refine q_do rfl fun _ hK=>wp_callX (vs:=[(.pointer (some ⟨b_p_c,0,none⟩)),(iV 12)]) hF func33 (by kernel_rfl) rfl rfl rfl (c_spec_l1Cur_pick p_c_9 12 t_12 ht_12 _ m b_p_c s1 h10 _ hE11) fun a w _ hR hF=>hK _ _ ?_
   obtain ⟨rfl,hR11,hk13⟩:=hR
   have hS:St _ _ _ _ [[⟨b_p_c,[s1.v,(iV t_12.2.at_),(.int .u64 t_12.2.seed.v)],65⟩],q7]:=hS11.leaveF hR11
   have h13:Rd m s1 t_12.2.code:=by rw [hk13]; exact h10
   refine q_x (v:=(iV t_12.1)) hF hS (ex_assign rfl) rfl rfl fun a hF=>q_end (n_sq (q_seq (q_seq (q_region (q_x (v:=(.pointer (some ⟨b_p_c,0,none⟩))) hF hS (ex_move rfl) rfl rfl fun a hF=>?_)))))
   have hS14:St _ _ _ _ ([[⟨b_p_c,[s1.v,(iV t_12.2.at_),(.int .u64 t_12.2.seed.v)],65⟩]]++[q7]):=hS
   have hE14:=hS14.enter
   obtain ⟨t_15,ht_15,hb1⟩:=bindS hb1
   refine q_do rfl fun _ hK=>wp_callX (vs:=[(.pointer (some ⟨b_p_c,0,none⟩)),(iV 6)]) hF func32 (by kernel_rfl) rfl rfl rfl (c_spec_l1Cur_one t_12.2 6 t_15 ht_15 _ m b_p_c s1 h13 _ hE14) fun a w _ hR hF=>hK _ _ ?_
   obtain ⟨rfl,hR14,hk16⟩:=hR
   have hS:St _ _ _ _ [[⟨b_p_c,[s1.v,(iV t_15.2.at_),(.int .u64 t_15.2.seed.v)],65⟩],q7]:=hS14.leaveF hR14
   have h16:Rd m s1 t_15.2.code:=by rw [hk16]; exact h13
   refine q_end (n_sq ?_)
   obtain ⟨j3,hj3,hb1⟩:=bindS hb1
   refine q_join (fun a w=>∃ x_20,∃ p_c_21,j3=(x_20,p_c_21)∧Fr a 25 [(0,(.pointer (some ⟨b_p_c,0,none⟩))),(5,s7.v),(6,(iV x_20)),(9,(iV (goLen t_3))),(10,(iV t_8))]∧St X w0 w m [q7,[⟨b_p_c,[s1.v,(iV p_c_21.at_),(.int .u64 p_c_21.seed.v)],65⟩]]∧Rd m s1 p_c_21.code∧p_c_21.code=p_c.code) ?_ ?_
   ·rcases bcase (t_15.1) with hc4 | hc4
    ·have hj3:=cond_f hc4 hj3
     refine q_cond_f hF rfl hc4 (q_skipc (n_jn ?_))
     obtain rfl:=someI hj3
     exact ⟨_,_,rfl,hF.sub ⟨rfl,rfl,rfl,rfl,rfl,trivial⟩,hS.sel [1,0] (by decide),h16,(hk16.trans (hk13.trans h10k))⟩
    ·have hj3:=cond_t hc4 hj3
     refine q_cond_t hF rfl hc4 (q_region (q_x (v:=(.pointer (some ⟨b_p_c,0,none⟩))) hF hS (ex_move rfl) rfl rfl fun a hF=>?_))
     have hS17:St _ _ _ _ ([[⟨b_p_c,[s1.v,(iV t_15.2.at_),(.int .u64 t_15.2.seed.v)],65⟩]]++[q7]):=hS
     have hE17:=hS17.enter
     obtain ⟨t_18,ht_18,hj3⟩:=bindS hj3
     refine q_do rfl fun _ hK=>wp_callX (vs:=[(.pointer (some ⟨b_p_c,0,none⟩)),(iV 4)]) hF func33 (by kernel_rfl) rfl rfl rfl (c_spec_l1Cur_pick t_15.2 4 t_18 ht_18 _ m b_p_c s1 h16 _ hE17) fun a w _ hR hF=>hK _ _ ?_
     obtain ⟨rfl,hR17,hk19⟩:=hR
     have hS:St _ _ _ _ [[⟨b_p_c,[s1.v,(iV t_18.2.at_),(.int .u64 t_18.2.seed.v)],65⟩],q7]:=hS17.leaveF hR17
     have h19:Rd m s1 t_18.2.code:=by rw [hk19]; exact h16
     refine q_x (v:=(iV (w64 (-t_18.1)))) hF hS (ex_neg rfl) rfl rfl fun a hF=>q_x (v:=(iV (w64 (-t_18.1)))) hF hS (ex_assign rfl) rfl rfl fun a hF=>q_end (n_jn ?_)
     obtain rfl:=someI hj3
     exact ⟨_,_,rfl,hF.sub ⟨rfl,rfl,rfl,rfl,rfl,trivial⟩,hS.sel [1,0] (by decide),h19,(hk19.trans (hk16.trans (hk13.trans h10k)))⟩
   ·rintro a w ⟨x_20,p_c_21,rfl,hF,hS,h22,h22k⟩
    refine n_sq ?_
    refine q_region (q_x (v:=s7.v) hF hS (ex_move rfl) rfl rfl fun a hF=>q_x (v:=(iV x_20)) hF hS (ex_move rfl) rfl rfl fun a hF=>q_do rfl fun _ hK=>wp_buildSlice' (l:=([x_20]:List Int)) (cells:=[(iV x_20)]) hF hS underlying23 inf3 rfl rfl (by kernel_rfl) rfl rfl rfl ⟨rfl,rfl⟩ rfl rfl fun a w q23 s23 hF hS h23 _=>hK _ _ ?_)
    have hS:St _ _ _ _ [q7,q23,[⟨b_p_c,[s1.v,(iV p_c_21.at_),(.int .u64 p_c_21.seed.v)],65⟩]]:=hS.sel [1,0,2] (by decide)
    obtain ⟨l_24,hl_24,hb1⟩:=bindS hb1
    refine q_do rfl fun _ hK=>wp_append hF hS h7 underlying23 inf3 rfl rfl rfl rfl (h23.vw hS (j:=1) rfl) rfl (by decide) hl_24 rfl fun a w q25 s25 hF hS h25=>hK _ _ (q_x (v:=s25.v) hF hS (ex_assign rfl) rfl rfl fun a hF=>q_end (n_ib (n_sq (q_region (q_x (v:=(iV (w64 (t_8 + 1)))) hF hS (ex_ibin rfl rfl rfl) rfl rfl fun a hF=>q_x (v:=(iV (w64 (t_8 + 1)))) hF hS (ex_move rfl) rfl rfl fun a hF=>q_end ?_)))))
    obtain rfl:=someI hb1
    exact ⟨rfl,q25,s25,_,_,_,rfl,hF.sub ⟨rfl,rfl,rfl,rfl,trivial⟩,hS.mask [true,false,true],h25,h22,h22k⟩
 ·rintro e a w ⟨q27,s27,out_26,p_c_28,rfl,rfl,hF,hS,h27,h29,h29k⟩
  refine x_ib (n_sq ?_)
  refine q_seq (q_region (q_x (v:=s27.v) hF hS (ex_move rfl) rfl rfl fun a hF=>q_x (v:=s27.v) hF hS (ex_assign rfl) rfl rfl fun a hF=>q_end (n_sq (q_ret ?_))))
  obtain rfl:=someI hr
  exact ret_ofX hF hS rfl (.tmp rfl .nil) ⟨q27,s27,rfl,hS.sel [1,0] (by decide),h27,h29k⟩

theorem c_spec_l1Cur_cube (p_c:spec_l1Cur) (r:impl_Cube × spec_l1Cur) (hr:spec_l1Cur_cube p_c=some r) (w0:World) (m:Mem) (b_p_c:Nat) (s1:Sl) (h1:Rd m s1 p_c.code) (X:List Nat) (hS:St X w0 w0 m [[⟨b_p_c,[s1.v,(iV p_c.at_),(.int .u64 p_c.seed.v)],65⟩]]) :
  RetX prog 41 [(.pointer (some ⟨b_p_c,0,none⟩))] w0 (fun v w=>∃ (m':Mem) (q1':Piece) (s0':Sl) (s1':Sl),v=(.agg #[s0'.v,s1'.v])∧MLe X w0.heap.size m m'∧St X w0 w m' [[⟨b_p_c,[s1.v,(iV r.2.at_),(.int .u64 r.2.seed.v)],65⟩],q1']∧Rd m' s0' r.1.Sizes∧OwnL m' 3 q1' s1' r.1.Cells∧r.2.code=p_c.code):=by
 unfold spec_l1Cur_cube at hr
 refine ret_startX func41 rfl 49 rfl rfl fun a hF=>q_seq (q_region (q_alloc (cs:=[nilS.v,nilS.v]) hF hS rfl rfl rfl fun a w b2 hF hS=>q_end (n_sq (q_seq (q_region (q_x (v:=(.pointer (some ⟨b_p_c,0,none⟩))) hF hS (ex_move rfl) rfl rfl fun a hF=>?_))))))
 have hS:St _ _ _ _ [[⟨b_p_c,[s1.v,(iV p_c.at_),(.int .u64 p_c.seed.v)],65⟩],[⟨b2,[nilS.v,nilS.v],33⟩]]:=hS.sel [1,0] (by decide)
 have hS3:St _ _ _ _ ([[⟨b_p_c,[s1.v,(iV p_c.at_),(.int .u64 p_c.seed.v)],65⟩]]++[[⟨b2,[nilS.v,nilS.v],33⟩]]):=hS
 have hE3:=hS3.enter
 obtain ⟨t_4,ht_4,hr⟩:=bindS hr
 refine q_do rfl fun _ hK=>wp_callX (vs:=[(.pointer (some ⟨b_p_c,0,none⟩))]) hF func31 (by kernel_rfl) rfl rfl rfl (c_spec_l1Cur_sizes p_c t_4 ht_4 _ m b_p_c s1 h1 _ hE3) fun a w _ hR hF=>hK _ _ ?_
 obtain ⟨m3',s5,rfl,hm3,hR3,h5,hk6⟩:=hR
 have hS:St _ _ _ _ [[⟨b_p_c,[s1.v,(iV t_4.2.at_),(.int .u64 t_4.2.seed.v)],65⟩],[⟨b2,[nilS.v,nilS.v],33⟩]]:=hS3.leave hR3 hm3
 have hm3:=MLe.weakX hS3 hm3
 have h6:Rd m3' s1 t_4.2.code:=by rw [hk6]; exact (h1.mono hm3.le)
 refine q_x (v:=s5.v) hF hS (ex_assign rfl) rfl rfl fun a hF=>q_end (n_sq (q_seq (q_seq (q_region (q_x (v:=s5.v) hF hS (ex_move rfl) rfl rfl fun a hF=>?_)))))
 obtain ⟨t_7,ht_7,hr⟩:=bindS hr
 refine q_call (vs:=[s5.v]) hF hS func26 (by kernel_rfl) rfl rfl rfl (c_spec_cbCount t_4.1 t_7 ht_7 _ m3' hS.vis s5 h5) ?_
 rintro a w _ rfl hF hS
 refine q_x (v:=(.bool (t_7 == 0))) hF hS (ex_ibin rfl rfl rfl) rfl rfl fun a hF=>q_end (n_sq ?_)
 rcases bcase (t_7 == 0) with hc1 | hc1
 ·have hr:=cond_f hc1 hr
  refine q_cond_f hF rfl hc1 (q_skipc (n_sq (q_seq (q_region (q_x (v:=s5.v) hF hS (ex_move rfl) rfl rfl fun a hF=>q_x (v:=(.pointer (some ⟨b_p_c,0,none⟩))) hF hS (ex_move rfl) rfl rfl fun a hF=>q_x (v:=s5.v) hF hS (ex_move rfl) rfl rfl fun a hF=>?_)))))
  have hS8:St _ _ _ _ ([[⟨b_p_c,[s1.v,(iV t_4.2.at_),(.int .u64 t_4.2.seed.v)],65⟩]]++[[⟨b2,[nilS.v,nilS.v],33⟩]]):=hS
  have hE8:=hS8.enter
  obtain ⟨t_9,ht_9,hr⟩:=bindS hr
  refine q_do rfl fun _ hK=>wp_callX (vs:=[(.pointer (some ⟨b_p_c,0,none⟩)),s5.v]) hF func42 (by kernel_rfl) rfl rfl rfl (c_spec_l1Cur_baseCells t_4.2 t_4.1 t_9 ht_9 _ m3' b_p_c s1 h6 s5 h5 _ hE8) fun a w _ hR hF=>hK _ _ ?_
  obtain ⟨q10,s10,rfl,hR8,h10,hk11⟩:=hR
  have hS:St _ _ _ _ [[⟨b_p_c,[s1.v,(iV t_9.2.at_),(.int .u64 t_9.2.seed.v)],65⟩],q10,[⟨b2,[nilS.v,nilS.v],33⟩]]:=hS8.leaveF hR8
  have h11:Rd m3' s1 t_9.2.code:=by rw [hk11]; exact h6
  obtain ⟨m13,hl13,hv13,hz13⟩:=hS.lend
  obtain ⟨t_12,ht_12,hr⟩:=bindS hr
  refine q_call (vs:=[s5.v,s10.v]) hF hS func29 (by kernel_rfl) rfl rfl rfl (c_spec_cbOf t_4.1 t_9.1 t_12 ht_12 _ m13 hv13 s5 (h5.mono hl13) s10 (h10.froz hl13 (hz13 1 _ rfl))) ?_
  rintro a w _ ⟨q15,q16,s15,s16,rfl,hR14,h15,h16⟩ hF hS2
  have hS:St _ _ _ _ [q15,q16,[⟨b_p_c,[s1.v,(iV t_9.2.at_),(.int .u64 t_9.2.seed.v)],65⟩],q10,[⟨b2,[nilS.v,nilS.v],33⟩]]:=hS.joinF hR14
  have h15:=h15.any m3'
  have h16:=h16.any m3'
  refine q_alloc (cs:=[nilS.v,nilS.v]) hF hS rfl rfl rfl fun a w b17 hF hS=>q_store (vs:=[s15.v,s16.v]) (cs':=[s15.v,s16.v]) 0 0 hF hS sz33 rfl rfl rfl rfl rfl rfl rfl rfl fun a w hF hS=>q_end (n_sq (q_seq (q_seq (q_region (q_x (v:=(.pointer (some ⟨b_p_c,0,none⟩))) hF hS (ex_move rfl) rfl rfl fun a hF=>?_)))))
  have hS:St _ _ _ _ [[⟨b_p_c,[s1.v,(iV t_9.2.at_),(.int .u64 t_9.2.seed.v)],65⟩],[⟨b17,[s15.v,s16.v],33⟩],q15,q16,q10,[⟨b2,[nilS.v,nilS.v],33⟩]]:=hS.sel [3,0,1,2,4,5] (by decide)
  have hS18:St _ _ _ _ ([[⟨b_p_c,[s1.v,(iV t_9.2.at_),(.int .u64 t_9.2.seed.v)],65⟩]]++[[⟨b17,[s15.v,s16.v],33⟩],q15,q16,q10,[⟨b2,[nilS.v,nilS.v],33⟩]]):=hS
  have hE18:=hS18.enter
  obtain ⟨t_19,ht_19,hr⟩:=bindS hr
  refine q_do rfl fun _ hK=>wp_callX (vs:=[(.pointer (some ⟨b_p_c,0,none⟩)),(iV 16)]) hF func33 (by kernel_rfl) rfl rfl rfl (c_spec_l1Cur_pick t_9.2 16 t_19 ht_19 _ m3' b_p_c s1 h11 _ hE18) fun a w _ hR hF=>hK _ _ ?_
  obtain ⟨rfl,hR18,hk20⟩:=hR
  have hS:St _ _ _ _ [[⟨b_p_c,[s1.v,(iV t_19.2.at_),(.int .u64 t_19.2.seed.v)],65⟩],[⟨b17,[s15.v,s16.v],33⟩],q15,q16,q10,[⟨b2,[nilS.v,nilS.v],33⟩]]:=hS18.leaveF hR18
  have h20:Rd m3' s1 t_19.2.code:=by rw [hk20]; exact h11
  refine q_end (n_sq (q_block (q_seq (q_region (q_x (v:=(.bool (t_19.1 == 0))) hF hS (ex_ibin rfl rfl rfl) rfl rfl fun a hF=>q_x (v:=(.bool (t_19.1 == 0))) hF hS (ex_assign rfl) rfl rfl fun a hF=>q_end (n_sq ?_))))))
  obtain ⟨j2,hj2,hr⟩:=bindS hr
  refine q_join (fun a w=>∃ (q53:Piece),∃ (s53:Sl),∃ p_c_49,∃ x_51,j2=(p_c_49,x_51)∧Fr a 49 [(2,(.pointer (some ⟨b2,0,none⟩))),(4,(.pointer (some ⟨b17,0,none⟩)))]∧St X w0 w m3' [q15,q53,[⟨b_p_c,[s1.v,(iV p_c_49.at_),(.int .u64 p_c_49.seed.v)],65⟩],[⟨b17,[s15.v,s53.v],33⟩],[⟨b2,[nilS.v,nilS.v],33⟩]]∧Rd m3' s1 p_c_49.code∧p_c_49.code=p_c.code∧OwnL m3' 3 q15 s15 x_51.Sizes∧OwnL m3' 3 q53 s53 x_51.Cells) ?_ ?_
  ·rcases bcase (t_19.1 == 0) with hc3 | hc3
   ·have hj2:=cond_f hc3 hj2
    refine q_cond_f hF rfl hc3 (q_seq (q_region (q_x (v:=(.bool (t_19.1 == 1))) hF hS (ex_ibin rfl rfl rfl) rfl rfl fun a hF=>q_x (v:=(.bool (t_19.1 == 1))) hF hS (ex_assign rfl) rfl rfl fun a hF=>q_end (n_sq ?_))))
    obtain ⟨j4,hj4,hj2⟩:=bindS hj2
    refine q_join (fun a w=>∃ (q40:Piece),∃ (s40:Sl),∃ p_c_36,∃ x_38,j4=(p_c_36,x_38)∧Fr a 49 [(2,(.pointer (some ⟨b2,0,none⟩))),(4,(.pointer (some ⟨b17,0,none⟩)))]∧St X w0 w m3' [q15,q40,[⟨b_p_c,[s1.v,(iV p_c_36.at_),(.int .u64 p_c_36.seed.v)],65⟩],[⟨b17,[s15.v,s40.v],33⟩],[⟨b2,[nilS.v,nilS.v],33⟩]]∧Rd m3' s1 p_c_36.code∧p_c_36.code=p_c.code∧OwnL m3' 3 q15 s15 x_38.Sizes∧OwnL m3' 3 q40 s40 x_38.Cells) ?_ ?_
    ·rcases bcase (t_19.1 == 1) with hc5 | hc5
     ·have hj4:=cond_f hc5 hj4
      refine q_cond_f hF rfl hc5 (q_seq (q_region (q_x (v:=(.bool (t_19.1 == 2))) hF hS (ex_ibin rfl rfl rfl) rfl rfl fun a hF=>q_x (v:=(.bool (t_19.1 == 2))) hF hS (ex_assign rfl) rfl rfl fun a hF=>q_end (n_sq ?_))))
      obtain ⟨j6,hj6,hj4⟩:=bindS hj4
      refine q_join (fun a w=>∃ (q32:Piece),∃ p_c_28,∃ x_30,j6=(p_c_28,x_30)∧Fr a 49 [(2,(.pointer (some ⟨b2,0,none⟩))),(4,(.pointer (some ⟨b17,0,none⟩)))]∧St X w0 w m3' [q15,q32,[⟨b_p_c,[s1.v,(iV p_c_28.at_),(.int .u64 p_c_28.seed.v)],65⟩],[⟨b17,[s15.v,s16.v],33⟩],[⟨b2,[nilS.v,nilS.v],33⟩]]∧Rd m3' s1 p_c_28.code∧p_c_28.code=p_c.code∧OwnL m3' 3 q15 s15 x_30.Sizes∧OwnL m3' 3 q32 s16 x_30.Cells) ?_ ?_
      ·rcases bcase (t_19.1 == 2) with hc7 | hc7
       ·have hj6:=cond_f hc7 hj6
        refine q_cond_f hF rfl hc7 (q_skipc (n_jn ?_))
        obtain rfl:=someI hj6
        exact ⟨q16,_,_,rfl,hF.sub ⟨rfl,rfl,trivial⟩,hS.sel [2,3,0,1,5] (by decide),h20,(hk20.trans (hk11.trans hk6)),h15,h16⟩
       ·have hj6:=cond_t hc7 hj6
        refine q_cond_t hF rfl hc7 (e_region ⟨[4,6],[b17]⟩ mixed fun w' hw'=>?_)
        have hS:=hS.below hw'
        refine e_p (v:=(.pointer (some ⟨b17,1,none⟩))) 0 hF rfl (ex_fieldAddr underlying33 rfl sz23 rfl rfl) rfl rfl (by kernel_rfl) (by kernel_rfl) (by kernel_rfl) fun a hF=>e_xb (v:=s16.v) 1 1 hF hS (.head _) rfl rfl (ex_load1 0 0 underlying23 rfl rfl rfl rfl) rfl rfl (by kernel_rfl) (by kernel_rfl) (by kernel_rfl) fun a hF=>e_p (v:=(.pointer (some ⟨b_p_c,0,none⟩))) 2 hF rfl (ex_move rfl) rfl rfl (by kernel_rfl) (by kernel_rfl) (by kernel_rfl) fun a hF=>e_one 3 (by kernel_rfl) (e_op rfl rfl fun _ hK=>wp_buildSlice' (l:=([1000000,1000001,-1000000]:List Int)) (cells:=[(iV 1000000),(iV 1000001),(iV (-1000000))]) hF hS underlying23 inf3 rfl rfl (by kernel_rfl) rfl rfl rfl ⟨rfl,rfl,rfl,rfl⟩ rfl rfl fun a w q21 s21 hF hS h21 hb=>hK _ _ hb (e_one 4 (by kernel_rfl) ?_))
        have hS:St _ _ _ _ [[⟨b_p_c,[s1.v,(iV t_19.2.at_),(.int .u64 t_19.2.seed.v)],65⟩],q21,[⟨b17,[s15.v,s16.v],33⟩],q15,q16,q10,[⟨b2,[nilS.v,nilS.v],33⟩]]:=hS.sel [1,0,2,3,4,5,6] (by decide)
        have hS22:St _ _ _ _ ([[⟨b_p_c,[s1.v,(iV t_19.2.at_),(.int .u64 t_19.2.seed.v)],65⟩]]++[q21,[⟨b17,[s15.v,s16.v],33⟩],q15,q16,q10,[⟨b2,[nilS.v,nilS.v],33⟩]]):=hS
        obtain ⟨m22,hl22,hE22,hz22⟩:=hS22.lendX
        obtain ⟨t_23,ht_23,hj6⟩:=bindS hj6
        have hSo:=hS
        refine e_opl rfl rfl rfl fun _ hK=>wp_callX (vs:=[(.pointer (some ⟨b_p_c,0,none⟩)),s21.v]) hF func78 (by kernel_rfl) rfl rfl rfl (c_spec_l1Cur_among t_19.2 ([1000000,1000001,-1000000]:List Int) t_23 ht_23 _ m22 b_p_c s1 (h20.mono hl22) s21 (h21.froz hl22 (hz22 0 _ rfl)) _ hE22) fun a w _ hR hF=>hK _ _ ?_
        obtain ⟨rfl,hR22,hk24⟩:=hR
        have hS:St _ _ _ _ [[⟨b_p_c,[s1.v,(iV t_23.2.at_),(.int .u64 t_23.2.seed.v)],65⟩],q21,[⟨b17,[s15.v,s16.v],33⟩],q15,q16,q10,[⟨b2,[nilS.v,nilS.v],33⟩]]:=hS22.leaveF hR22
        have h24:Rd m3' s1 t_23.2.code:=by rw [hk24]; exact h20
        refine ⟨kpC hSo hS 2 2 rfl rfl kpN,?_⟩
        obtain ⟨e_25,he_25,hj6⟩:=bindS hj6
        obtain ⟨vs26,at26,d26⟩:=h16.at he_25 1 rfl
        obtain rfl:vs26=[(iV e_25)]:=d26
        refine e_p (v:=(elP s16 ((0:Int).toNat * 1))) 5 hF rfl (ex_indexAddr underlying23 sz3 rfl rfl (h16.idx he_25)) rfl rfl (by kernel_rfl) (by kernel_rfl) (by kernel_rfl) fun a hF=>e_one 6 (by kernel_rfl) ?_
        have hS:St _ _ _ _ [q16,[⟨b_p_c,[s1.v,(iV t_23.2.at_),(.int .u64 t_23.2.seed.v)],65⟩],q21,[⟨b17,[s15.v,s16.v],33⟩],q15,q10,[⟨b2,[nilS.v,nilS.v],33⟩]]:=hS.sel [4,0,1,2,3,5,6] (by decide)
        have hSo:=hS
        refine e_opl rfl rfl rfl fun _ hK=>wp_storeE (e':=t_23.1) (us:=[(iV t_23.1)]) (vs:=[(iV e_25)]) 0 hF hS h16 sz3 rfl rfl rfl rfl rfl rfl rfl he_25 at26 rfl rfl rfl fun w q27 hS h27=>hK _ _ (⟨kpC hSo hS 3 3 rfl rfl kpN,?_⟩)
        refine e_end (by kernel_rfl) (n_jn ?_) _
        obtain rfl:=someI hj6
        exact ⟨q27,_,_,rfl,hF.sub ⟨rfl,rfl,trivial⟩,hS.sel [4,0,1,3,6] (by decide),h24,(hk24.trans (hk20.trans (hk11.trans hk6))),h15,h27⟩
      ·rintro a w ⟨q32,p_c_28,x_30,rfl,hF,hS,h29,h29k,h31,h32⟩
       refine n_jn ?_
       obtain rfl:=someI hj4
       exact ⟨q32,s16,_,_,rfl,hF.sub ⟨rfl,rfl,trivial⟩,hS,h29,h29k,h31,h32⟩
     ·have hj4:=cond_t hc5 hj4
      refine q_cond_t hF rfl hc5 (q_region (q_x (v:=(.pointer (some ⟨b17,1,none⟩))) hF hS (ex_fieldAddr underlying33 rfl sz23 rfl rfl) rfl rfl fun a hF=>q_x (v:=s16.v) hF hS (ex_load1 1 0 underlying23 rfl rfl rfl rfl) rfl rfl fun a hF=>q_do rfl fun _ hK=>wp_buildSlice' (l:=([0]:List Int)) (cells:=[(iV 0)]) hF hS underlying23 inf3 rfl rfl (by kernel_rfl) rfl rfl rfl ⟨rfl,rfl⟩ rfl rfl fun a w q33 s33 hF hS h33 _=>hK _ _ ?_))
      have hS:St _ _ _ _ [q16,q33,[⟨b_p_c,[s1.v,(iV t_19.2.at_),(.int .u64 t_19.2.seed.v)],65⟩],[⟨b17,[s15.v,s16.v],33⟩],q15,q10,[⟨b2,[nilS.v,nilS.v],33⟩]]:=hS.sel [4,0,1,2,3,5,6] (by decide)
      obtain ⟨l_34,hl_34,hj4⟩:=bindS hj4
      refine q_do rfl fun _ hK=>wp_append hF hS h16 underlying23 inf3 rfl rfl rfl rfl (h33.vw hS (j:=1) rfl) rfl (by decide) hl_34 rfl fun a w q35 s35 hF hS h35=>hK _ _ (q_x (v:=(.pointer (some ⟨b17,1,none⟩))) hF hS (ex_fieldAddr underlying33 rfl sz23 rfl rfl) rfl rfl fun a hF=>q_store (vs:=[s35.v]) (cs':=[s15.v,s35.v]) 3 0 hF hS sz23 rfl rfl rfl rfl rfl rfl rfl rfl fun a w hF hS=>q_end (n_jn ?_))
      obtain rfl:=someI hj4
      exact ⟨q35,s35,_,_,rfl,hF.sub ⟨rfl,rfl,trivial⟩,hS.sel [4,0,2,3,6] (by decide),h20,(hk20.trans (hk11.trans hk6)),h15,h35⟩
    ·rintro a w ⟨q40,s40,p_c_36,x_38,rfl,hF,hS,h37,h37k,h39,h40⟩
     refine n_jn ?_
     obtain rfl:=someI hj2
     exact ⟨q40,s40,_,_,rfl,hF.sub ⟨rfl,rfl,trivial⟩,hS,h37,h37k,h39,h40⟩
   ·have hj2:=cond_t hc3 hj2
    refine q_cond_t hF rfl hc3 (e_region ⟨[6,11],[b17]⟩ mixed fun w' hw'=>?_)
    have hS:=hS.below hw'
    refine e_p (v:=(.pointer (some ⟨b17,1,none⟩))) 0 hF rfl (ex_fieldAddr underlying33 rfl sz23 rfl rfl) rfl rfl (by kernel_rfl) (by kernel_rfl) (by kernel_rfl) fun a hF=>e_xb (v:=s16.v) 1 1 hF hS (.head _) rfl rfl (ex_load1 0 0 underlying23 rfl rfl rfl rfl) rfl rfl (by kernel_rfl) (by kernel_rfl) (by kernel_rfl) fun a hF=>e_p (v:=(.pointer (some ⟨b_p_c,0,none⟩))) 2 hF rfl (ex_move rfl) rfl rfl (by kernel_rfl) (by kernel_rfl) (by kernel_rfl) fun a hF=>e_p (v:=(.pointer (some ⟨b17,1,none⟩))) 3 hF rfl (ex_fieldAddr underlying33 rfl sz23 rfl rfl) rfl rfl (by kernel_rfl) (by kernel_rfl) (by kernel_rfl) fun a hF=>e_xb (v:=s16.v) 4 1 hF hS (.head _) rfl rfl (ex_load1 0 0 underlying23 rfl rfl rfl rfl) rfl rfl (by kernel_rfl) (by kernel_rfl) (by kernel_rfl) fun a hF=>e_p (v:=(iV (goLen t_12.Cells))) 5 hF rfl (ex_len underlying23 rfl h16.len) rfl rfl (by kernel_rfl) (by kernel_rfl) (by kernel_rfl) fun a hF=>e_one 6 (by kernel_rfl) ?_
    have hS41:St _ _ _ _ ([[⟨b_p_c,[s1.v,(iV t_19.2.at_),(.int .u64 t_19.2.seed.v)],65⟩]]++[[⟨b17,[s15.v,s16.v],33⟩],q15,q16,q10,[⟨b2,[nilS.v,nilS.v],33⟩]]):=hS
    have hE41:=hS41.enter
    obtain ⟨t_42,ht_42,hj2⟩:=bindS hj2
    have hSo:=hS
    refine e_opl rfl rfl rfl fun _ hK=>wp_callX (vs:=[(.pointer (some ⟨b_p_c,0,none⟩)),(iV (goLen t_12.Cells))]) hF func33 (by kernel_rfl) rfl rfl rfl (c_spec_l1Cur_pick t_19.2 (goLen t_12.Cells) t_42 ht_42 _ m3' b_p_c s1 h20 _ hE41) fun a w _ hR hF=>hK _ _ ?_
    obtain ⟨rfl,hR41,hk43⟩:=hR
    have hS:St _ _ _ _ [[⟨b_p_c,[s1.v,(iV t_42.2.at_),(.int .u64 t_42.2.seed.v)],65⟩],[⟨b17,[s15.v,s16.v],33⟩],q15,q16,q10,[⟨b2,[nilS.v,nilS.v],33⟩]]:=hS41.leaveF hR41
    have h43:Rd m3' s1 t_42.2.code:=by rw [hk43]; exact h20
    refine ⟨kpC hSo hS 1 1 rfl rfl kpN,?_⟩
    obtain ⟨e_44,he_44,hj2⟩:=bindS hj2
    obtain ⟨vs45,at45,d45⟩:=h16.at he_44 1 rfl
    obtain rfl:vs45=[(iV e_44)]:=d45
    refine e_p (v:=(elP s16 (t_42.1.toNat * 1))) 7 hF rfl (ex_indexAddr underlying23 sz3 rfl rfl (h16.idx he_44)) rfl rfl (by kernel_rfl) (by kernel_rfl) (by kernel_rfl) fun a hF=>e_x (v:=(iV e_44)) 8 hF hS rfl (ex_loadE1 0 underlying3 rfl rfl (at45.at 3 rfl) rfl rfl) rfl rfl (by kernel_rfl) (by kernel_rfl) (by kernel_rfl) (by kernel_rfl) fun a hF=>e_p (v:=(iV (w64 (e_44 + 1)))) 9 hF rfl (ex_ibin rfl rfl rfl) rfl rfl (by kernel_rfl) (by kernel_rfl) (by kernel_rfl) fun a hF=>?_
    obtain ⟨e_46,he_46,hj2⟩:=bindS hj2
    obtain ⟨vs47,at47,d47⟩:=h16.at he_46 1 rfl
    obtain rfl:vs47=[(iV e_46)]:=d47
    refine e_p (v:=(elP s16 (t_42.1.toNat * 1))) 10 hF rfl (ex_indexAddr underlying23 sz3 rfl rfl (h16.idx he_46)) rfl rfl (by kernel_rfl) (by kernel_rfl) (by kernel_rfl) fun a hF=>e_one 11 (by kernel_rfl) ?_
    have hS:St _ _ _ _ [q16,[⟨b_p_c,[s1.v,(iV t_42.2.at_),(.int .u64 t_42.2.seed.v)],65⟩],[⟨b17,[s15.v,s16.v],33⟩],q15,q10,[⟨b2,[nilS.v,nilS.v],33⟩]]:=hS.sel [3,0,1,2,4,5] (by decide)
    have hSo:=hS
    refine e_opl rfl rfl rfl fun _ hK=>wp_storeE (e':=(w64 (e_44 + 1))) (us:=[(iV (w64 (e_44 + 1)))]) (vs:=[(iV e_46)]) 0 hF hS h16 sz3 rfl rfl rfl rfl rfl rfl rfl he_46 at47 rfl rfl rfl fun w q48 hS h48=>hK _ _ (⟨kpC hSo hS 2 2 rfl rfl kpN,?_⟩)
    refine e_end (by kernel_rfl) (n_jn ?_) _
    obtain rfl:=someI hj2
    exact ⟨q48,s16,_,_,rfl,hF.sub ⟨rfl,rfl,trivial⟩,hS.sel [3,0,1,2,5] (by decide),h43,(hk43.trans (hk20.trans (hk11.trans hk6))),h15,h48⟩
  ·rintro a w ⟨q53,s53,p_c_49,x_51,rfl,hF,hS,h50,h50k,h52,h53⟩
   refine n_ib (n_sq ?_)
   refine q_seq (q_region (q_x (v:=(.agg #[s15.v,s53.v])) hF hS (ex_loadA (vs:=[s15.v,s53.v]) 3 0 underlying33 rfl sz33 rfl rfl rfl rfl) rfl rfl fun a hF=>q_store (vs:=[s15.v,s53.v]) (cs':=[s15.v,s53.v]) 4 0 hF hS sz33 rfl rfl rfl rfl rfl rfl rfl rfl fun a w hF hS=>q_end (n_sq (q_ret ?_))))
   obtain rfl:=someI hr
   obtain ⟨m54,hm54,hS,hz54⟩:=hS.freeze
   have h54:=h52.froz hm54.le hz54
   exact ret_ofX hF hS rfl (.cellA (us:=[s15.v,s53.v]) 3 0 underlying33 rfl sz33 rfl rfl rfl rfl .nil) ⟨m54,q53,s15,s53,rfl,(hm3.trans hm54),hS.sel [1,0] (by decide),h54,(h53.mono hm54.le),h50k⟩
 ·have hr:=cond_t hc1 hr
  refine q_cond_t hF rfl hc1 (q_seq (q_region (q_x (v:=s5.v) hF hS (ex_move rfl) rfl rfl fun a hF=>q_do rfl fun _ hK=>wp_buildSlice' (l:=([1]:List Int)) (cells:=[(iV 1)]) hF hS underlying23 inf3 rfl rfl (by kernel_rfl) rfl rfl rfl ⟨rfl,rfl⟩ rfl rfl fun a w q55 s55 hF hS h55 _=>hK _ _ (q_x (v:=(.agg #[s5.v,s55.v])) hF hS (ex_build (cells:=[s5.v,s55.v]) rfl (by kernel_rfl)) rfl rfl fun a hF=>q_store (vs:=[s5.v,s55.v]) (cs':=[s5.v,s55.v]) 2 0 hF hS sz33 rfl rfl rfl rfl rfl rfl rfl rfl fun a w hF hS=>q_end (n_sq (q_ret (r_sq ?_)))))))
  obtain rfl:=someI hr
  exact ret_ofX hF hS rfl (.cellA (us:=[s5.v,s55.v]) 2 0 underlying33 rfl sz33 rfl rfl rfl rfl .nil) ⟨m3',q55,s5,s55,rfl,hm3,hS.sel [1,0] (by decide),h5,h55,hk6⟩

theorem c_spec_DrawDifferenceOf (p_code:List (K .u8)) (r:impl_Cube × impl_Cube) (hr:spec_DrawDifferenceOf p_code=some r) (w0:World) (m:Mem) (hv:Vis m w0) (s1:Sl) (h1:Rd m s1 p_code) :
  Ret prog 10 [s1.v] w0 (fun v w=>∃ (m':Mem) (q1':Piece) (q3':Piece) (s0':Sl) (s1':Sl) (s2':Sl) (s3':Sl),v=(.tuple #[(.agg #[s0'.v,s1'.v]),(.agg #[s2'.v,s3'.v])])∧MLe [] w0.heap.size m m'∧St [] w0 w m' [q1',q3']∧Rd m' s0' r.1.Sizes∧OwnL m' 3 q1' s1' r.1.Cells∧Rd m' s2' r.2.Sizes∧OwnL m' 3 q3' s3' r.2.Cells):=by
 unfold spec_DrawDifferenceOf at hr
 refine ret_start func10 rfl 31 rfl rfl m hv fun a hF hS=>q_seq (q_region (q_alloc (cs:=[nilS.v,nilS.v]) hF hS rfl rfl rfl fun a w b2 hF hS=>q_alloc (cs:=[nilS.v,nilS.v]) hF hS rfl rfl rfl fun a w b3 hF hS=>q_end (n_sq (q_seq (q_region (q_x (v:=s1.v) hF hS (ex_move rfl) rfl rfl fun a hF=>q_x (v:=(.agg #[s1.v,(iV 0),(.int .u64 0)])) hF hS (ex_build (cells:=[s1.v,(iV 0),(.int .u64 0)]) rfl (by kernel_rfl)) rfl rfl fun a hF=>q_box (cs:=[s1.v,(iV 0),(.int .u64 0)]) hF hS rfl rfl rfl fun a w b4 hF hS=>q_x (v:=(.pointer (some ⟨b4,0,none⟩))) hF hS (ex_assign rfl) rfl rfl fun a hF=>q_end (n_sq (q_seq (q_region (q_x (v:=(.pointer (some ⟨b4,0,none⟩))) hF hS (ex_move rfl) rfl rfl fun a hF=>?_))))))))))
 have hS5:St _ _ _ _ ([[⟨b4,[s1.v,(iV 0),(.int .u64 0)],65⟩]]++[[⟨b3,[nilS.v,nilS.v],33⟩],[⟨b2,[nilS.v,nilS.v],33⟩]]):=hS
 have hE5:=hS5.enter
 obtain ⟨t_6,ht_6,hr⟩:=bindS hr
 refine q_do rfl fun _ hK=>wp_callX (vs:=[(.pointer (some ⟨b4,0,none⟩))]) hF func41 (by kernel_rfl) rfl rfl rfl (c_spec_l1Cur_cube (spec_l1Cur.mk p_code 0 (⟨0⟩:K .u64)) t_6 ht_6 _ m b4 s1 h1 _ hE5) fun a w _ hR hF=>hK _ _ ?_
 obtain ⟨m5',q8,s7,s8,rfl,hm5,hR5,h7,h8,hk9⟩:=hR
 have hS:St _ _ _ _ [[⟨b4,[s1.v,(iV t_6.2.at_),(.int .u64 t_6.2.seed.v)],65⟩],q8,[⟨b3,[nilS.v,nilS.v],33⟩],[⟨b2,[nilS.v,nilS.v],33⟩]]:=hS5.leave hR5 hm5
 have hm5:=MLe.weakX hS5 hm5
 have h9:Rd m5' s1 t_6.2.code:=by rw [hk9]; exact (h1.mono hm5.le)
 refine q_alloc (cs:=[nilS.v,nilS.v]) hF hS rfl rfl rfl fun a w b10 hF hS=>q_store (vs:=[s7.v,s8.v]) (cs':=[s7.v,s8.v]) 0 0 hF hS sz33 rfl rfl rfl rfl rfl rfl rfl rfl fun a w hF hS=>q_end (n_sq (q_seq (q_seq ?_)))
 obtain ⟨j1,hj1,hr⟩:=bindS hr
 refine q_join (fun a w=>∃ t_15,∃ t_16,j1=(t_15,t_16)∧Fr a 31 [(2,(.pointer (some ⟨b2,0,none⟩))),(3,(.pointer (some ⟨b3,0,none⟩))),(4,(.pointer (some ⟨b4,0,none⟩))),(5,(.pointer (some ⟨b10,0,none⟩))),(19,(.bool t_15))]∧St [] w0 w m5' [q8,[⟨b10,[s7.v,s8.v],33⟩],[⟨b4,[s1.v,(iV t_16.at_),(.int .u64 t_16.seed.v)],65⟩],[⟨b3,[nilS.v,nilS.v],33⟩],[⟨b2,[nilS.v,nilS.v],33⟩]]∧Rd m5' s1 t_16.code∧t_16.code=p_code) ?_ ?_
 ·refine q_region (q_x (v:=(.pointer (some ⟨b10,0,none⟩))) hF hS (ex_fieldAddr underlying33 rfl sz23 rfl rfl) rfl rfl fun a hF=>q_x (v:=s7.v) hF hS (ex_load1 0 0 underlying23 rfl rfl rfl rfl) rfl rfl fun a hF=>?_)
  obtain ⟨t_11,ht_11,hj1⟩:=bindS hj1
  refine q_call (vs:=[s7.v]) hF hS func26 (by kernel_rfl) rfl rfl rfl (c_spec_cbCount t_6.1.Sizes t_11 ht_11 _ m5' hS.vis s7 h7) ?_
  rintro a w _ rfl hF hS
  refine q_x (v:=(.bool (decide (0<t_11)))) hF hS (ex_ibin rfl rfl rfl) rfl rfl fun a hF=>q_x (v:=(.bool (decide (0<t_11)))) hF hS (ex_move rfl) rfl rfl fun a hF=>?_
  rcases bcase (decide (0<t_11)) with hc2 | hc2
  ·have hj1:=cond_f hc2 hj1
   refine q_skip hF (wanted_f hF rfl rfl rfl hc2 rfl) rfl fun a hF=>q_skip hF (wanted_f hF rfl rfl rfl hc2 rfl) rfl fun a hF=>q_skip hF (wanted_f hF rfl rfl rfl hc2 rfl) rfl fun a hF=>q_x (v:=(.bool false)) hF hS (ex_pick_f rfl rfl hc2) rfl rfl fun a hF=>q_end (n_jn ?_)
   obtain rfl:=someI hj1
   exact ⟨_,_,rfl,hF.sub ⟨rfl,rfl,rfl,rfl,rfl,trivial⟩,hS.sel [2,0,1,3,4] (by decide),h9,hk9⟩
  ·have hj1:=cond_t hc2 hj1
   refine q_xg (v:=(.pointer (some ⟨b4,0,none⟩))) hF hS (ex_move rfl) (wanted_t hF rfl rfl rfl hc2) rfl fun a hF=>?_
   have hS:St _ _ _ _ [[⟨b4,[s1.v,(iV t_6.2.at_),(.int .u64 t_6.2.seed.v)],65⟩],[⟨b10,[s7.v,s8.v],33⟩],q8,[⟨b3,[nilS.v,nilS.v],33⟩],[⟨b2,[nilS.v,nilS.v],33⟩]]:=hS.sel [1,0,2,3,4] (by decide)
   have hS12:St _ _ _ _ ([[⟨b4,[s1.v,(iV t_6.2.at_),(.int .u64 t_6.2.seed.v)],65⟩]]++[[⟨b10,[s7.v,s8.v],33⟩],q8,[⟨b3,[nilS.v,nilS.v],33⟩],[⟨b2,[nilS.v,nilS.v],33⟩]]):=hS
   have hE12:=hS12.enter
   obtain ⟨t_13,ht_13,hj1⟩:=bindS hj1
   refine q_dog (wanted_t hF rfl rfl rfl hc2) fun _ hK=>wp_callX (vs:=[(.pointer (some ⟨b4,0,none⟩)),(iV 5)]) hF func32 (by kernel_rfl) rfl rfl rfl (c_spec_l1Cur_one t_6.2 5 t_13 ht_13 _ m5' b4 s1 h9 _ hE12) fun a w _ hR hF=>hK _ _ ?_
   obtain ⟨rfl,hR12,hk14⟩:=hR
   have hS:St _ _ _ _ [[⟨b4,[s1.v,(iV t_13.2.at_),(.int .u64 t_13.2.seed.v)],65⟩],[⟨b10,[s7.v,s8.v],33⟩],q8,[⟨b3,[nilS.v,nilS.v],33⟩],[⟨b2,[nilS.v,nilS.v],33⟩]]:=hS12.leaveF hR12
   have h14:Rd m5' s1 t_13.2.code:=by rw [hk14]; exact h9
   refine q_xg (v:=(.bool (!t_13.1))) hF hS (ex_not rfl) (wanted_t hF rfl rfl rfl hc2) rfl fun a hF=>q_x (v:=(.bool (!t_13.1))) hF hS (ex_pick_t rfl rfl hc2) rfl rfl fun a hF=>q_end (n_jn ?_)
   obtain rfl:=someI hj1
   exact ⟨_,_,rfl,hF.sub ⟨rfl,rfl,rfl,rfl,rfl,trivial⟩,hS.sel [2,1,0,3,4] (by decide),h14,(hk14.trans hk9)⟩
 ·rintro a w ⟨t_15,t_16,rfl,hF,hS,h17,h17k⟩
  refine n_sq ?_
  rcases bcase (t_15) with hc3 | hc3
  ·have hr:=cond_f hc3 hr
   refine q_cond_f hF rfl hc3 (q_skipc (n_sq (q_seq (e_region ⟨[2,3,4],[b10]⟩ mixed fun w' hw'=>?_))))
   have hS:=hS.below hw'
   refine e_xb (v:=(.agg #[s7.v,s8.v])) 0 1 hF hS (.head _) rfl rfl (ex_loadA (vs:=[s7.v,s8.v]) 0 0 underlying33 rfl sz33 rfl rfl rfl rfl) rfl rfl (by kernel_rfl) (by kernel_rfl) (by kernel_rfl) fun a hF=>e_p (v:=(.pointer (some ⟨b4,0,none⟩))) 1 hF rfl (ex_move rfl) rfl rfl (by kernel_rfl) (by kernel_rfl) (by kernel_rfl) fun a hF=>e_one 2 (by kernel_rfl) ?_
   have hS:St _ _ _ _ [[⟨b4,[s1.v,(iV t_16.at_),(.int .u64 t_16.seed.v)],65⟩],q8,[⟨b10,[s7.v,s8.v],33⟩],[⟨b3,[nilS.v,nilS.v],33⟩],[⟨b2,[nilS.v,nilS.v],33⟩]]:=hS.sel [2,0,1,3,4] (by decide)
   have hS18:St _ _ _ _ ([[⟨b4,[s1.v,(iV t_16.at_),(.int .u64 t_16.seed.v)],65⟩]]++[q8,[⟨b10,[s7.v,s8.v],33⟩],[⟨b3,[nilS.v,nilS.v],33⟩],[⟨b2,[nilS.v,nilS.v],33⟩]]):=hS
   have hE18:=hS18.enter
   obtain ⟨t_19,ht_19,hr⟩:=bindS hr
   have hSo:=hS
   refine e_opl rfl rfl rfl fun _ hK=>wp_callX (vs:=[(.pointer (some ⟨b4,0,none⟩))]) hF func41 (by kernel_rfl) rfl rfl rfl (c_spec_l1Cur_cube t_16 t_19 ht_19 _ m5' b4 s1 h17 _ hE18) fun a w _ hR hF=>hK _ _ ?_
   obtain ⟨m18',q21,s20,s21,rfl,hm18,hR18,h20,h21,hk22⟩:=hR
   have hS:St _ _ _ _ [[⟨b4,[s1.v,(iV t_19.2.at_),(.int .u64 t_19.2.seed.v)],65⟩],q21,q8,[⟨b10,[s7.v,s8.v],33⟩],[⟨b3,[nilS.v,nilS.v],33⟩],[⟨b2,[nilS.v,nilS.v],33⟩]]:=hS18.leave hR18 hm18
   have hm18:=MLe.weakX hS18 hm18
   have h22:Rd m18' s1 t_19.2.code:=by rw [hk22]; exact (h17.mono hm18.le)
   refine ⟨kpC hSo hS 2 3 rfl rfl kpN,?_⟩
   refine e_one 3 (by kernel_rfl) ?_
   have hSo:=hS
   refine e_store (vs:=[s7.v,s8.v]) (cs':=[s7.v,s8.v]) 5 0 hF hS rfl rfl sz33 rfl rfl rfl rfl rfl rfl rfl rfl fun a w hF hS=>⟨kpC hSo hS 3 3 rfl rfl kpN,?_⟩
   refine e_one 4 (by kernel_rfl) ?_
   have hSo:=hS
   refine e_store (vs:=[s20.v,s21.v]) (cs':=[s20.v,s21.v]) 4 0 hF hS rfl rfl sz33 rfl rfl rfl rfl rfl rfl rfl rfl fun a w hF hS=>⟨kpC hSo hS 3 3 rfl rfl kpN,?_⟩
   refine e_end (by kernel_rfl) (n_sq (q_ret ?_)) _
   obtain rfl:=someI hr
   exact ret_of hF hS rfl (.cellA (us:=[s7.v,s8.v]) 5 0 underlying33 rfl sz33 rfl rfl rfl rfl (.cellA (us:=[s20.v,s21.v]) 4 0 underlying33 rfl sz33 rfl rfl rfl rfl .nil)) ⟨m18',q8,q21,s7,s8,s20,s21,rfl,(hm5.trans hm18),hS.sel [2,1] (by decide),(h7.mono hm18.le),(h8.mono hm18.le),h20,h21⟩
  ·have hr:=cond_t hc3 hr
   refine q_cond_t hF rfl hc3 (q_seq (e_region ⟨[6,8,9],[b10]⟩ mixed fun w' hw'=>?_))
   have hS:=hS.below hw'
   refine e_xb (v:=(.agg #[s7.v,s8.v])) 0 1 hF hS (.head _) rfl rfl (ex_loadA (vs:=[s7.v,s8.v]) 0 0 underlying33 rfl sz33 rfl rfl rfl rfl) rfl rfl (by kernel_rfl) (by kernel_rfl) (by kernel_rfl) fun a hF=>e_p (v:=(.pointer (some ⟨b10,0,none⟩))) 1 hF rfl (ex_fieldAddr underlying33 rfl sz23 rfl rfl) rfl rfl (by kernel_rfl) (by kernel_rfl) (by kernel_rfl) fun a hF=>e_xb (v:=s7.v) 2 1 hF hS (.head _) rfl rfl (ex_load1 0 0 underlying23 rfl rfl rfl rfl) rfl rfl (by kernel_rfl) (by kernel_rfl) (by kernel_rfl) fun a hF=>e_p (v:=(.pointer (some ⟨b4,0,none⟩))) 3 hF rfl (ex_move rfl) rfl rfl (by kernel_rfl) (by kernel_rfl) (by kernel_rfl) fun a hF=>e_p (v:=(.pointer (some ⟨b10,0,none⟩))) 4 hF rfl (ex_fieldAddr underlying33 rfl sz23 rfl rfl) rfl rfl (by kernel_rfl) (by kernel_rfl) (by kernel_rfl) fun a hF=>e_xb (v:=s7.v) 5 1 hF hS (.head _) rfl rfl (ex_load1 0 0 underlying23 rfl rfl rfl rfl) rfl rfl (by kernel_rfl) (by kernel_rfl) (by kernel_rfl) fun a hF=>e_one 6 (by kernel_rfl) ?_
   have hS:St _ _ _ _ [[⟨b4,[s1.v,(iV t_16.at_),(.int .u64 t_16.seed.v)],65⟩],q8,[⟨b10,[s7.v,s8.v],33⟩],[⟨b3,[nilS.v,nilS.v],33⟩],[⟨b2,[nilS.v,nilS.v],33⟩]]:=hS.sel [2,0,1,3,4] (by decide)
   have hS23:St _ _ _ _ ([[⟨b4,[s1.v,(iV t_16.at_),(.int .u64 t_16.seed.v)],65⟩]]++[q8,[⟨b10,[s7.v,s8.v],33⟩],[⟨b3,[nilS.v,nilS.v],33⟩],[⟨b2,[nilS.v,nilS.v],33⟩]]):=hS
   have hE23:=hS23.enter
   obtain ⟨t_24,ht_24,hr⟩:=bindS hr
   have hSo:=hS
   refine e_opl rfl rfl rfl fun _ hK=>wp_callX (vs:=[(.pointer (some ⟨b4,0,none⟩)),s7.v]) hF func42 (by kernel_rfl) rfl rfl rfl (c_spec_l1Cur_baseCells t_16 t_6.1.Sizes t_24 ht_24 _ m5' b4 s1 h17 s7 h7 _ hE23) fun a w _ hR hF=>hK _ _ ?_
   obtain ⟨q25,s25,rfl,hR23,h25,hk26⟩:=hR
   have hS:St _ _ _ _ [[⟨b4,[s1.v,(iV t_24.2.at_),(.int .u64 t_24.2.seed.v)],65⟩],q25,q8,[⟨b10,[s7.v,s8.v],33⟩],[⟨b3,[nilS.v,nilS.v],33⟩],[⟨b2,[nilS.v,nilS.v],33⟩]]:=hS23.leaveF hR23
   have h26:Rd m5' s1 t_24.2.code:=by rw [hk26]; exact h17
   refine ⟨kpC hSo hS 2 3 rfl rfl kpN,?_⟩
   refine e_one 7 (by kernel_rfl) ?_
   obtain ⟨m28,hl28,hv28,hz28⟩:=hS.lend
   obtain ⟨t_27,ht_27,hr⟩:=bindS hr
   refine e_call (vs:=[s7.v,s25.v]) hF hS rfl func29 (by kernel_rfl) rfl rfl rfl (c_spec_cbOf t_6.1.Sizes t_24.1 t_27 ht_27 _ m28 hv28 s7 (h7.mono hl28) s25 (h25.froz hl28 (hz28 1 _ rfl))) ?_
   rintro a w _ ⟨q30,q31,s30,s31,rfl,hR29,h30,h31⟩ hF hS2
   have hS:St _ _ _ _ [q30,q31,[⟨b4,[s1.v,(iV t_24.2.at_),(.int .u64 t_24.2.seed.v)],65⟩],q25,q8,[⟨b10,[s7.v,s8.v],33⟩],[⟨b3,[nilS.v,nilS.v],33⟩],[⟨b2,[nilS.v,nilS.v],33⟩]]:=hS.joinF hR29
   have h30:=h30.any m5'
   have h31:=h31.any m5'
   refine e_one 8 (by kernel_rfl) ?_
   have hSo:=hS
   refine e_store (vs:=[s7.v,s8.v]) (cs':=[s7.v,s8.v]) 7 0 hF hS rfl rfl sz33 rfl rfl rfl rfl rfl rfl rfl rfl fun a w hF hS=>⟨kpC hSo hS 5 5 rfl rfl kpN,?_⟩
   refine e_one 9 (by kernel_rfl) ?_
   have hSo:=hS
   refine e_store (vs:=[s30.v,s31.v]) (cs':=[s30.v,s31.v]) 6 0 hF hS rfl rfl sz33 rfl rfl rfl rfl rfl rfl rfl rfl fun a w hF hS=>⟨kpC hSo hS 5 5 rfl rfl kpN,?_⟩
   refine e_end (by kernel_rfl) (n_sq (q_ret (r_sq ?_))) _
   obtain rfl:=someI hr
   obtain ⟨m32,hm32,hS,hz32⟩:=hS.freeze
   have h32:=h30.froz hm32.le hz32
   exact ret_of hF hS rfl (.cellA (us:=[s7.v,s8.v]) 6 0 underlying33 rfl sz33 rfl rfl rfl rfl (.cellA (us:=[s30.v,s31.v]) 5 0 underlying33 rfl sz33 rfl rfl rfl rfl .nil)) ⟨m32,q8,q31,s7,s8,s30,s31,rfl,(hm5.trans hm32),hS.sel [3,0] (by decide),(h7.mono hm32.le),(h8.mono hm32.le),h32,(h31.mono hm32.le)⟩

theorem c_impl_hasRightForm (p_c:impl_Cube) (r:Bool) (hr:impl_hasRightForm p_c=some r) (w0:World) (m:Mem) (hv:Vis m w0) (s1:Sl) (h1:Rd m s1 p_c.Sizes) (s2:Sl) (h2:Rd m s2 p_c.Cells) :
  Ret prog 80 [(.agg #[s1.v,s2.v])] w0 (fun v _=>v=(.bool r)):=by
 unfold impl_hasRightForm at hr
 refine ret_start func80 rfl 21 rfl rfl m hv fun a hF hS=>q_seq (q_region (q_box (cs:=[s1.v,s2.v]) hF hS rfl rfl rfl fun a w b3 hF hS=>q_x (v:=(.bool false)) hF hS (ex_assign rfl) rfl rfl fun a hF=>q_end (n_sq (q_seq (q_region (q_x (v:=(.pointer (some ⟨b3,0,none⟩))) hF hS (ex_fieldAddr underlying33 rfl sz23 rfl rfl) rfl rfl fun a hF=>q_x (v:=s1.v) hF hS (ex_load1 0 0 underlying23 rfl rfl rfl rfl) rfl rfl fun a hF=>?_))))))
 obtain ⟨t_4,ht_4,hr⟩:=bindS hr
 refine q_call (vs:=[s1.v]) hF hS func35 (by kernel_rfl) rfl rfl rfl (c_impl_cubeCells p_c.Sizes t_4 ht_4 _ m hS.vis s1 h1) ?_
 rintro a w _ rfl hF hS
 refine q_x (v:=(iV t_4)) hF hS (ex_assign rfl) rfl rfl fun a hF=>q_end (n_sq (q_seq ?_))
 obtain ⟨t_6,hj1,hr⟩:=bindS hr
 refine q_join (fun a w=>Fr a 21 [(2,(.bool t_6))]∧St [] w0 w m []) ?_ ?_
 ·refine q_region (q_x (v:=(iV t_4)) hF hS (ex_move rfl) rfl rfl fun a hF=>q_x (v:=(.bool (decide (0<t_4)))) hF hS (ex_ibin rfl rfl rfl) rfl rfl fun a hF=>q_x (v:=(.bool (decide (0<t_4)))) hF hS (ex_move rfl) rfl rfl fun a hF=>?_)
  rcases bcase (decide (0<t_4)) with hc2 | hc2
  ·have hj1:=cond_f hc2 hj1
   refine q_skip hF (wanted_f hF rfl rfl rfl hc2 rfl) rfl fun a hF=>q_skip hF (wanted_f hF rfl rfl rfl hc2 rfl) rfl fun a hF=>q_skip hF (wanted_f hF rfl rfl rfl hc2 rfl) rfl fun a hF=>q_skip hF (wanted_f hF rfl rfl rfl hc2 rfl) rfl fun a hF=>q_skip hF (wanted_f hF rfl rfl rfl hc2 rfl) rfl fun a hF=>q_x (v:=(.bool false)) hF hS (ex_pick_f rfl rfl hc2) rfl rfl fun a hF=>q_x (v:=(.bool false)) hF hS (ex_move rfl) rfl rfl fun a hF=>q_skip hF (wanted_f hF rfl rfl rfl rfl rfl) rfl fun a hF=>q_skip hF (wanted_f hF rfl rfl rfl rfl rfl) rfl fun a hF=>q_skip hF (wanted_f hF rfl rfl rfl rfl rfl) rfl fun a hF=>q_x (v:=(.bool false)) hF hS (ex_pick_f rfl rfl rfl) rfl rfl fun a hF=>q_x (v:=(.bool false)) hF hS (ex_assign rfl) rfl rfl fun a hF=>q_end (n_jn ?_)
   obtain rfl:=someI hj1
   exact ⟨hF.sub ⟨rfl,trivial⟩,hS.mask [false]⟩
  ·have hj1:=cond_t hc2 hj1
   refine q_xg (v:=(.pointer (some ⟨b3,1,none⟩))) hF hS (ex_fieldAddr underlying33 rfl sz23 rfl rfl) (wanted_t hF rfl rfl rfl hc2) rfl fun a hF=>q_xg (v:=s2.v) hF hS (ex_load1 0 0 underlying23 rfl rfl rfl rfl) (wanted_t hF rfl rfl rfl hc2) rfl fun a hF=>q_xg (v:=(iV (goLen p_c.Cells))) hF hS (ex_len underlying23 rfl h2.len) (wanted_t hF rfl rfl rfl hc2) rfl fun a hF=>q_xg (v:=(iV t_4)) hF hS (ex_move rfl) (wanted_t hF rfl rfl rfl hc2) rfl fun a hF=>q_xg (v:=(.bool ((goLen p_c.Cells) == t_4))) hF hS (ex_ibin rfl rfl rfl) (wanted_t hF rfl rfl rfl hc2) rfl fun a hF=>q_x (v:=(.bool ((goLen p_c.Cells) == t_4))) hF hS (ex_pick_t rfl rfl hc2) rfl rfl fun a hF=>q_x (v:=(.bool ((goLen p_c.Cells) == t_4))) hF hS (ex_move rfl) rfl rfl fun a hF=>?_
   rcases bcase ((goLen p_c.Cells) == t_4) with hc3 | hc3
   ·have hj1:=cond_f hc3 hj1
    refine q_skip hF (wanted_f hF rfl rfl rfl hc3 rfl) rfl fun a hF=>q_skip hF (wanted_f hF rfl rfl rfl hc3 rfl) rfl fun a hF=>q_skip hF (wanted_f hF rfl rfl rfl hc3 rfl) rfl fun a hF=>q_x (v:=(.bool false)) hF hS (ex_pick_f rfl rfl hc3) rfl rfl fun a hF=>q_x (v:=(.bool false)) hF hS (ex_assign rfl) rfl rfl fun a hF=>q_end (n_jn ?_)
    obtain rfl:=someI hj1
    exact ⟨hF.sub ⟨rfl,trivial⟩,hS.mask [false]⟩
   ·have hj1:=cond_t hc3 hj1
    refine q_xg (v:=(.pointer (some ⟨b3,1,none⟩))) hF hS (ex_fieldAddr underlying33 rfl sz23 rfl rfl) (wanted_t hF rfl rfl rfl hc3) rfl fun a hF=>q_xg (v:=s2.v) hF hS (ex_load1 0 0 underlying23 rfl rfl rfl rfl) (wanted_t hF rfl rfl rfl hc3) rfl fun a hF=>?_
    obtain ⟨t_5,ht_5,hj1⟩:=bindS hj1
    refine q_callg (vs:=[s2.v]) hF hS (wanted_t hF rfl rfl rfl hc3) func46 (by kernel_rfl) rfl rfl rfl (c_impl_areCubeValues p_c.Cells t_5 ht_5 _ m hS.vis s2 h2) ?_
    rintro a w _ rfl hF hS
    refine q_x (v:=(.bool t_5)) hF hS (ex_pick_t rfl rfl hc3) rfl rfl fun a hF=>q_x (v:=(.bool t_5)) hF hS (ex_assign rfl) rfl rfl fun a hF=>q_end (n_jn ?_)
    obtain rfl:=someI hj1
    exact ⟨hF.sub ⟨rfl,trivial⟩,hS.mask [false]⟩
 ·rintro a w ⟨hF,hS⟩
  refine n_sq (q_ret ?_)
  obtain rfl:=someI hr
  exact ret_of hF hS rfl (.tmp rfl .nil) rfl

theorem c_impl_firstBreak (p_c:impl_Cube) (r:Int) (hr:impl_firstBreak p_c=some r) (w0:World) (m:Mem) (hv:Vis m w0) (s1:Sl) (h1:Rd m s1 p_c.Sizes) (s2:Sl) (h2:Rd m s2 p_c.Cells) :
  Ret prog 81 [(.agg #[s1.v,s2.v])] w0 (fun v _=>v=(iV r)):=by
 unfold impl_firstBreak at hr
 refine ret_start func81 rfl 66 rfl rfl m hv fun a hF hS=>q_seq (q_region (q_box (cs:=[s1.v,s2.v]) hF hS rfl rfl rfl fun a w b3 hF hS=>q_x (v:=(iV 0)) hF hS (ex_assign rfl) rfl rfl fun a hF=>q_end (n_sq (q_seq (q_region (q_x (v:=(.pointer (some ⟨b3,0,none⟩))) hF hS (ex_fieldAddr underlying33 rfl sz23 rfl rfl) rfl rfl fun a hF=>q_x (v:=s1.v) hF hS (ex_load1 0 0 underlying23 rfl rfl rfl rfl) rfl rfl fun a hF=>?_))))))
 obtain ⟨t_4,ht_4,hr⟩:=bindS hr
 refine q_call (vs:=[s1.v]) hF hS func36 (by kernel_rfl) rfl rfl rfl (c_impl_strides p_c.Sizes t_4 ht_4 _ m hS.vis s1 h1) ?_
 rintro a w _ ⟨q6,s6,rfl,hR5,h6⟩ hF hS2
 have hS:St _ _ _ _ [q6,[⟨b3,[s1.v,s2.v],33⟩]]:=hS.joinF hR5
 refine q_x (v:=s6.v) hF hS (ex_assign rfl) rfl rfl fun a hF=>q_end (n_sq (q_seq (q_seq (q_region (q_x (v:=(.pointer (some ⟨b3,1,none⟩))) hF hS (ex_fieldAddr underlying33 rfl sz23 rfl rfl) rfl rfl fun a hF=>q_x (v:=s2.v) hF hS (ex_load1 1 0 underlying23 rfl rfl rfl rfl) rfl rfl fun a hF=>q_x (v:=(iV (goLen p_c.Cells))) hF hS (ex_len underlying23 rfl h2.len) rfl rfl fun a hF=>q_x (v:=(iV 0)) hF hS (ex_move rfl) rfl rfl fun a hF=>q_end (n_sq (q_block ?_)))))))
 obtain ⟨o1,hl1,hr⟩:=bindS hr
 refine q_loop (fun (t_7:Int) a w=>Fr a 66 [(1,(.pointer (some ⟨b3,0,none⟩))),(3,s6.v),(14,s2.v),(15,(iV (goLen p_c.Cells))),(16,(iV t_7))]∧St [] w0 w m [q6,[⟨b3,[s1.v,s2.v],33⟩]]) (fun (o:(Unit) ⊕ (Int)) e a w=>o=.inl ()∧e=.exit 0∧Fr a 66 [(1,(.pointer (some ⟨b3,0,none⟩)))]∧St [] w0 w m [[⟨b3,[s1.v,s2.v],33⟩]]) hl1 ⟨hF.sub ⟨rfl,rfl,rfl,rfl,rfl,trivial⟩,hS⟩ ?_ ?_
 ·clear hF hS
  rintro t_7 a w st ⟨hF,hS⟩ hb1
  unfold impl_firstBreak_l1 at hb1
  refine q_seq (q_region (q_x (v:=(.bool (decide (t_7<(goLen p_c.Cells))))) hF hS (ex_ibin rfl rfl rfl) rfl rfl fun a hF=>q_end (n_sq (q_seq ?_))))
  rcases bcase (decide (t_7<(goLen p_c.Cells))) with hc2 | hc2
  ·have hb1:=cond_f hc2 hb1
   refine q_cond_f hF rfl hc2 (q_exit (x_sq ?_))
   obtain rfl:=someI hb1
   exact ⟨nofun,.inl ⟨rfl,rfl,hF.sub ⟨rfl,trivial⟩,hS.mask [false,true]⟩⟩
  ·have hb1:=cond_t hc2 hb1
   refine q_cond_t hF rfl hc2 (q_skipc (n_sq (q_seq (q_block (q_seq (q_region (q_x (v:=(iV t_7)) hF hS (ex_move rfl) rfl rfl fun a hF=>?_)))))))
   obtain ⟨e_8,he_8,hb1⟩:=bindS hb1
   obtain ⟨vs9,at9,d9⟩:=h2.at he_8 1 rfl
   obtain rfl:vs9=[(iV e_8)]:=d9
   refine q_x (v:=(elP s2 (t_7.toNat * 1))) hF hS (ex_indexAddr underlying23 sz3 rfl rfl (h2.idx he_8)) rfl rfl fun a hF=>q_x (v:=(iV e_8)) hF hS (ex_loadE1 0 underlying3 rfl rfl ((at9).at) rfl rfl) rfl rfl fun a hF=>q_x (v:=(iV t_7)) hF hS (ex_assign rfl) rfl rfl fun a hF=>q_x (v:=(iV e_8)) hF hS (ex_assign rfl) rfl rfl fun a hF=>q_end (n_sq (q_seq (q_region (q_x (v:=(.pointer (some ⟨b3,0,none⟩))) hF hS (ex_fieldAddr underlying33 rfl sz23 rfl rfl) rfl rfl fun a hF=>q_x (v:=s1.v) hF hS (ex_load1 1 0 underlying23 rfl rfl rfl rfl) rfl rfl fun a hF=>q_x (v:=(iV t_7)) hF hS (ex_move rfl) rfl rfl fun a hF=>?_))))
   obtain ⟨t_10,ht_10,hb1⟩:=bindS hb1
   refine q_call (vs:=[s1.v,(iV t_7)]) hF hS func37 (by kernel_rfl) rfl rfl rfl (c_impl_indexOf p_c.Sizes t_7 t_10 ht_10 _ m hS.vis s1 h1) ?_
   rintro a w _ ⟨q12,s12,rfl,hR11,h12⟩ hF hS2
   have hS:St _ _ _ _ [q12,q6,[⟨b3,[s1.v,s2.v],33⟩]]:=hS.joinF hR11
   refine q_x (v:=(iV (goLen t_10))) hF hS (ex_len underlying23 rfl h12.len) rfl rfl fun a hF=>q_x (v:=(iV 0)) hF hS (ex_move rfl) rfl rfl fun a hF=>q_end (n_sq (q_block ?_))
   obtain ⟨o3,hl3,hb1⟩:=bindS hb1
   refine q_loop (fun (t_13:Int) a w=>Fr a 66 [(1,(.pointer (some ⟨b3,0,none⟩))),(3,s6.v),(4,(iV t_7)),(5,(iV e_8)),(14,s2.v),(15,(iV (goLen p_c.Cells))),(16,(iV t_7)),(24,s12.v),(25,(iV (goLen t_10))),(26,(iV t_13))]∧St [] w0 w m [q12,q6,[⟨b3,[s1.v,s2.v],33⟩]]) (fun (o:(Unit) ⊕ (Stp (Int) ((Unit) ⊕ (Int)))) e a w=>o=.inl ()∧e=.exit 2∧Fr a 66 [(1,(.pointer (some ⟨b3,0,none⟩))),(3,s6.v),(14,s2.v),(15,(iV (goLen p_c.Cells))),(16,(iV t_7))]∧St [] w0 w m [q6,[⟨b3,[s1.v,s2.v],33⟩]]) hl3 ⟨hF.sub ⟨rfl,rfl,rfl,rfl,rfl,rfl,rfl,rfl,rfl,rfl,trivial⟩,hS⟩ ?_ ?_
   ·clear hF hS
    rintro t_13 a w st ⟨hF,hS⟩ hb3
    unfold impl_firstBreak_l2 at hb3
    refine q_seq (q_region (q_x (v:=(.bool (decide (t_13<(goLen t_10))))) hF hS (ex_ibin rfl rfl rfl) rfl rfl fun a hF=>q_end (n_sq (q_seq ?_))))
    rcases bcase (decide (t_13<(goLen t_10))) with hc4 | hc4
    ·have hb3:=cond_f hc4 hb3
     refine q_cond_f hF rfl hc4 (q_exit (x_sq ?_))
     obtain rfl:=someI hb3
     exact ⟨nofun,.inl ⟨rfl,rfl,hF.sub ⟨rfl,rfl,rfl,rfl,rfl,trivial⟩,hS.mask [false,true,true]⟩⟩
    ·have hb3:=cond_t hc4 hb3
     refine q_cond_t hF rfl hc4 (q_skipc (n_sq (q_seq ?_)))
     obtain ⟨j5,hj5,hb3⟩:=bindS hb3
     refine q_join (fun a w=>j5=.inl ()∧Fr a 66 [(1,(.pointer (some ⟨b3,0,none⟩))),(3,s6.v),(4,(iV t_7)),(5,(iV e_8)),(14,s2.v),(15,(iV (goLen p_c.Cells))),(16,(iV t_7)),(24,s12.v),(25,(iV (goLen t_10))),(26,(iV t_13))]∧St [] w0 w m [q6,q12,[⟨b3,[s1.v,s2.v],33⟩]]) ?_ ?_
     ·refine q_block (q_seq (q_region (q_x (v:=(iV t_13)) hF hS (ex_move rfl) rfl rfl fun a hF=>?_)))
      obtain ⟨e_14,he_14,hj5⟩:=bindS hj5
      obtain ⟨vs15,at15,d15⟩:=h12.at he_14 1 rfl
      obtain rfl:vs15=[(iV e_14)]:=d15
      refine q_x (v:=(elP s12 (t_13.toNat * 1))) hF hS (ex_indexAddr underlying23 sz3 rfl rfl (h12.idx he_14)) rfl rfl fun a hF=>q_x (v:=(iV e_14)) hF hS (ex_loadE1 0 underlying3 rfl rfl (at15.at 0 rfl) rfl rfl) rfl rfl fun a hF=>q_x (v:=(iV t_13)) hF hS (ex_assign rfl) rfl rfl fun a hF=>q_x (v:=(iV e_14)) hF hS (ex_assign rfl) rfl rfl fun a hF=>q_end (n_sq (q_seq (q_seq (q_region (q_x (v:=(iV e_14)) hF hS (ex_move rfl) rfl rfl fun a hF=>q_x (v:=(.pointer (some ⟨b3,0,none⟩))) hF hS (ex_fieldAddr underlying33 rfl sz23 rfl rfl) rfl rfl fun a hF=>q_x (v:=s1.v) hF hS (ex_load1 2 0 underlying23 rfl rfl rfl rfl) rfl rfl fun a hF=>q_x (v:=(iV t_13)) hF hS (ex_move rfl) rfl rfl fun a hF=>?_)))))
      obtain ⟨e_16,he_16,hj5⟩:=bindS hj5
      obtain ⟨vs17,at17,d17⟩:=h1.at he_16 1 rfl
      obtain rfl:vs17=[(iV e_16)]:=d17
      refine q_x (v:=(elP s1 (t_13.toNat * 1))) hF hS (ex_indexAddr underlying23 sz3 rfl rfl (h1.idx he_16)) rfl rfl fun a hF=>q_x (v:=(iV e_16)) hF hS (ex_loadE1 0 underlying3 rfl rfl ((at17).at) rfl rfl) rfl rfl fun a hF=>q_x (v:=(.bool (e_14 != e_16))) hF hS (ex_ibin rfl rfl rfl) rfl rfl fun a hF=>q_end (n_sq ?_)
      rcases bcase (e_14 != e_16) with hc6 | hc6
      ·have hj5:=cond_f hc6 hj5
       refine q_cond_f hF rfl hc6 (q_skipc (n_sq (q_seq (q_region (q_x (v:=(iV 0)) hF hS (ex_assign rfl) rfl rfl fun a hF=>q_end (n_sq (q_seq (q_seq (q_region (q_x (v:=(iV 1)) hF hS (ex_assign rfl) rfl rfl fun a hF=>q_end (n_sq (q_block ?_))))))))))))
       obtain ⟨sum_24,hl7,hj5⟩:=bindS hj5
       refine q_loop (fun (s:Int × Int) a w=>∃ sum_18,∃ k_19,s=(sum_18,k_19)∧Fr a 66 [(1,(.pointer (some ⟨b3,0,none⟩))),(3,s6.v),(4,(iV t_7)),(5,(iV e_8)),(6,(iV t_13)),(7,(iV e_14)),(8,(iV sum_18)),(9,(iV k_19)),(14,s2.v),(15,(iV (goLen p_c.Cells))),(16,(iV t_7)),(24,s12.v),(25,(iV (goLen t_10))),(26,(iV t_13))]∧St [] w0 w m [q12,q6,[⟨b3,[s1.v,s2.v],33⟩]]) (fun (sum_24:Int) e a w=>e=.exit 4∧Fr a 66 [(1,(.pointer (some ⟨b3,0,none⟩))),(3,s6.v),(4,(iV t_7)),(5,(iV e_8)),(8,(iV sum_24)),(14,s2.v),(15,(iV (goLen p_c.Cells))),(16,(iV t_7)),(24,s12.v),(25,(iV (goLen t_10))),(26,(iV t_13))]∧St [] w0 w m [q6,q12,[⟨b3,[s1.v,s2.v],33⟩]]) hl7 ⟨_,_,rfl,hF.sub ⟨rfl,rfl,rfl,rfl,rfl,rfl,rfl,rfl,rfl,rfl,rfl,rfl,rfl,rfl,trivial⟩,hS⟩ ?_ ?_
       ·clear hF hS
        rintro s a w st ⟨sum_18,k_19,rfl,hF,hS⟩ hb7
        unfold impl_firstBreak_l3 at hb7
        refine q_seq (q_seq (q_region (q_x (v:=(iV k_19)) hF hS (ex_move rfl) rfl rfl fun a hF=>q_x (v:=(iV e_14)) hF hS (ex_move rfl) rfl rfl fun a hF=>q_x (v:=(.bool (decide (k_19≤e_14)))) hF hS (ex_ibin rfl rfl rfl) rfl rfl fun a hF=>q_end (n_sq ?_))))
        rcases bcase (decide (k_19≤e_14)) with hc8 | hc8
        ·have hb7:=cond_f hc8 hb7
         refine q_cond_f hF rfl hc8 (q_exit (x_sq ?_))
         obtain rfl:=someI hb7
         exact ⟨nofun,.inl ⟨rfl,hF.sub ⟨rfl,rfl,rfl,rfl,rfl,rfl,rfl,rfl,rfl,rfl,rfl,trivial⟩,hS.sel [1,0,2] (by decide)⟩⟩
        ·have hb7:=cond_t hc8 hb7
         refine q_cond_t hF rfl hc8 (q_skipc (n_sq (q_seq (q_block (e_region ⟨[],[]⟩ mixed fun w' hw'=>?_)))))
         have hS:=hS.below hw'
         refine e_p (v:=(iV sum_18)) 0 hF rfl (ex_move rfl) rfl rfl (by kernel_rfl) (by kernel_rfl) (by kernel_rfl) fun a hF=>e_p (v:=(.pointer (some ⟨b3,1,none⟩))) 1 hF rfl (ex_fieldAddr underlying33 rfl sz23 rfl rfl) rfl rfl (by kernel_rfl) (by kernel_rfl) (by kernel_rfl) fun a hF=>e_x (v:=s2.v) 2 hF hS rfl (ex_load1 2 0 underlying23 rfl rfl rfl rfl) rfl rfl (by kernel_rfl) (by kernel_rfl) (by kernel_rfl) (by kernel_rfl) fun a hF=>e_p (v:=(iV t_7)) 3 hF rfl (ex_move rfl) rfl rfl (by kernel_rfl) (by kernel_rfl) (by kernel_rfl) fun a hF=>e_p (v:=(iV k_19)) 4 hF rfl (ex_move rfl) rfl rfl (by kernel_rfl) (by kernel_rfl) (by kernel_rfl) fun a hF=>e_p (v:=s6.v) 5 hF rfl (ex_move rfl) rfl rfl (by kernel_rfl) (by kernel_rfl) (by kernel_rfl) fun a hF=>e_p (v:=(iV t_13)) 6 hF rfl (ex_move rfl) rfl rfl (by kernel_rfl) (by kernel_rfl) (by kernel_rfl) fun a hF=>?_
         obtain ⟨e_20,he_20,hb7⟩:=bindS hb7
         obtain ⟨vs21,at21,d21⟩:=h6.at he_20 1 rfl
         obtain rfl:vs21=[(iV e_20)]:=d21
         refine e_p (v:=(elP s6 (t_13.toNat * 1))) 7 hF rfl (ex_indexAddr underlying23 sz3 rfl rfl (h6.idx he_20)) rfl rfl (by kernel_rfl) (by kernel_rfl) (by kernel_rfl) fun a hF=>e_x (v:=(iV e_20)) 8 hF hS rfl (ex_loadE1 0 underlying3 rfl rfl (at21.at 1 rfl) rfl rfl) rfl rfl (by kernel_rfl) (by kernel_rfl) (by kernel_rfl) (by kernel_rfl) fun a hF=>e_p (v:=(iV (w64 (k_19 * e_20)))) 9 hF rfl (ex_ibin rfl rfl rfl) rfl rfl (by kernel_rfl) (by kernel_rfl) (by kernel_rfl) fun a hF=>e_p (v:=(iV (w64 (t_7 - (w64 (k_19 * e_20)))))) 10 hF rfl (ex_ibin rfl rfl rfl) rfl rfl (by kernel_rfl) (by kernel_rfl) (by kernel_rfl) fun a hF=>?_
         obtain ⟨e_22,he_22,hb7⟩:=bindS hb7
         obtain ⟨vs23,at23,d23⟩:=h2.at he_22 1 rfl
         obtain rfl:vs23=[(iV e_22)]:=d23
         refine e_p (v:=(elP s2 ((w64 (t_7 - (w64 (k_19 * e_20)))).toNat * 1))) 11 hF rfl (ex_indexAddr underlying23 sz3 rfl rfl (h2.idx he_22)) rfl rfl (by kernel_rfl) (by kernel_rfl) (by kernel_rfl) fun a hF=>e_x (v:=(iV e_22)) 12 hF hS rfl (ex_loadE1 0 underlying3 rfl rfl ((at23).at) rfl rfl) rfl rfl (by kernel_rfl) (by kernel_rfl) (by kernel_rfl) (by kernel_rfl) fun a hF=>e_p (v:=(iV (w64 (sum_18 + e_22)))) 13 hF rfl (ex_ibin rfl rfl rfl) rfl rfl (by kernel_rfl) (by kernel_rfl) (by kernel_rfl) fun a hF=>e_p (v:=(iV (w64 (sum_18 + e_22)))) 14 hF rfl (ex_assign rfl) rfl rfl (by kernel_rfl) (by kernel_rfl) (by kernel_rfl) fun a hF=>e_end (by kernel_rfl) (n_ib (n_sq ?_)) _
         refine q_region (q_x (v:=(iV k_19)) hF hS (ex_move rfl) rfl rfl fun a hF=>q_x (v:=(iV (w64 (k_19 + 1)))) hF hS (ex_ibin rfl rfl rfl) rfl rfl fun a hF=>q_x (v:=(iV (w64 (k_19 + 1)))) hF hS (ex_assign rfl) rfl rfl fun a hF=>q_end ?_)
         obtain rfl:=someI hb7
         exact ⟨rfl,_,_,rfl,hF.sub ⟨rfl,rfl,rfl,rfl,rfl,rfl,rfl,rfl,rfl,rfl,rfl,rfl,rfl,rfl,trivial⟩,hS⟩
       ·rintro e a w ⟨rfl,hF,hS⟩
        refine x_ib (n_sq ?_)
        refine q_seq (q_region (q_x (v:=(iV sum_24)) hF hS (ex_move rfl) rfl rfl fun a hF=>q_x (v:=(iV e_8)) hF hS (ex_move rfl) rfl rfl fun a hF=>q_x (v:=(.bool (sum_24 != e_8))) hF hS (ex_ibin rfl rfl rfl) rfl rfl fun a hF=>q_end (n_sq ?_)))
        rcases bcase (sum_24 != e_8) with hc9 | hc9
        ·have hj5:=cond_f hc9 hj5
         refine q_cond_f hF rfl hc9 (q_skipc (n_ib (n_jn ?_)))
         obtain rfl:=someI hj5
         exact ⟨rfl,hF.sub ⟨rfl,rfl,rfl,rfl,rfl,rfl,rfl,rfl,rfl,rfl,trivial⟩,hS⟩
        ·have hj5:=cond_t hc9 hj5
         refine q_cond_t hF rfl hc9 (q_seq (q_region (q_x (v:=(iV t_7)) hF hS (ex_move rfl) rfl rfl fun a hF=>q_x (v:=(iV t_7)) hF hS (ex_assign rfl) rfl rfl fun a hF=>q_end (n_sq (q_ret (r_ib (r_jn ?_)))))))
         obtain rfl:=someI hj5
         refine r_sq ?_
         obtain rfl:=someI hb3
         refine ⟨nofun,.inr fun ho=>?_⟩
         subst ho
         refine r_ib (r_ib (r_sq ?_))
         obtain rfl:=someI hb1
         refine ⟨nofun,.inr fun ho=>?_⟩
         subst ho
         refine r_ib (r_sq ?_)
         obtain rfl:=someI hr
         exact ret_of hF hS rfl (.tmp rfl .nil) rfl
      ·have hj5:=cond_t hc6 hj5
       refine q_cond_t hF rfl hc6 (q_exit (x_sq (x_ib (n_jn ?_))))
       obtain rfl:=someI hj5
       exact ⟨rfl,hF.sub ⟨rfl,rfl,rfl,rfl,rfl,rfl,rfl,rfl,rfl,rfl,trivial⟩,hS.sel [1,0,2] (by decide)⟩
     ·rintro a w ⟨rfl,hF,hS⟩
      refine n_sq ?_
      refine q_region (q_x (v:=(iV (w64 (t_13 + 1)))) hF hS (ex_ibin rfl rfl rfl) rfl rfl fun a hF=>q_x (v:=(iV (w64 (t_13 + 1)))) hF hS (ex_move rfl) rfl rfl fun a hF=>q_end ?_)
      obtain rfl:=someI hb3
      exact ⟨rfl,hF.sub ⟨rfl,rfl,rfl,rfl,rfl,rfl,rfl,rfl,rfl,rfl,trivial⟩,hS.sel [1,0,2] (by decide)⟩
   ·rintro e a w ⟨rfl,rfl,hF,hS⟩
    refine x_ib (n_ib (n_sq ?_))
    refine q_region (q_x (v:=(iV (w64 (t_7 + 1)))) hF hS (ex_ibin rfl rfl rfl) rfl rfl fun a hF=>q_x (v:=(iV (w64 (t_7 + 1)))) hF hS (ex_move rfl) rfl rfl fun a hF=>q_end ?_)
    obtain rfl:=someI hb1
    exact ⟨rfl,hF.sub ⟨rfl,rfl,rfl,rfl,rfl,trivial⟩,hS⟩
 ·rintro e a w ⟨rfl,rfl,hF,hS⟩
  refine x_ib (n_sq ?_)
  refine q_seq (q_region (q_x (v:=(.pointer (some ⟨b3,1,none⟩))) hF hS (ex_fieldAddr underlying33 rfl sz23 rfl rfl) rfl rfl fun a hF=>q_x (v:=s2.v) hF hS (ex_load1 0 0 underlying23 rfl rfl rfl rfl) rfl rfl fun a hF=>q_x (v:=(iV (goLen p_c.Cells))) hF hS (ex_len underlying23 rfl h2.len) rfl rfl fun a hF=>q_x (v:=(iV (goLen p_c.Cells))) hF hS (ex_assign rfl) rfl rfl fun a hF=>q_end (n_sq (q_ret ?_))))
  obtain rfl:=someI hr
  exact ret_of hF hS rfl (.tmp rfl .nil) rfl

theorem c_impl_IsCube (p_c:impl_Cube) (r:Bool) (hr:impl_IsCube p_c=some r) (w0:World) (m:Mem) (hv:Vis m w0) (s1:Sl) (h1:Rd m s1 p_c.Sizes) (s2:Sl) (h2:Rd m s2 p_c.Cells) :
  Ret prog 43 [(.agg #[s1.v,s2.v])] w0 (fun v _=>v=(.bool r)):=by
 unfold impl_IsCube at hr
 refine ret_start func43 rfl 13 rfl rfl m hv fun a hF hS=>q_seq (q_region (q_box (cs:=[s1.v,s2.v]) hF hS rfl rfl rfl fun a w b3 hF hS=>q_x (v:=(.bool false)) hF hS (ex_assign rfl) rfl rfl fun a hF=>q_end (n_sq (q_seq ?_))))
 obtain ⟨t_9,hj1,hr⟩:=bindS hr
 refine q_join (fun a w=>Fr a 13 [(2,(.bool t_9))]∧St [] w0 w m []) ?_ ?_
 ·refine e_region ⟨[],[]⟩ mixed fun w' hw'=>?_
  have hS:=hS.below hw'
  refine e_x (v:=(.agg #[s1.v,s2.v])) 0 hF hS rfl (ex_loadA (vs:=[s1.v,s2.v]) 0 0 underlying33 rfl sz33 rfl rfl rfl rfl) rfl rfl (by kernel_rfl) (by kernel_rfl) (by kernel_rfl) (by kernel_rfl) fun a hF=>e_one 1 (by kernel_rfl) ?_
  obtain ⟨t_4,ht_4,hj1⟩:=bindS hj1
  refine e_call (vs:=[(.agg #[s1.v,s2.v])]) hF hS rfl func80 (by kernel_rfl) rfl rfl rfl (c_impl_hasRightForm p_c t_4 ht_4 _ m hS.vis s1 h1 s2 h2) ?_
  rintro a w _ rfl hF hS
  refine e_p (v:=(.bool t_4)) 2 hF rfl (ex_move rfl) rfl rfl (by kernel_rfl) (by kernel_rfl) (by kernel_rfl) fun a hF=>?_
  rcases bcase (t_4) with hc2 | hc2
  ·have hj1:=cond_f hc2 hj1
   refine e_skipP 3 hF rfl (wanted_f hF rfl rfl rfl hc2 rfl) rfl (by kernel_rfl) (by kernel_rfl) (by kernel_rfl) fun a hF=>e_skipP 4 hF rfl (wanted_f hF rfl rfl rfl hc2 rfl) rfl (by kernel_rfl) (by kernel_rfl) (by kernel_rfl) fun a hF=>e_skipP 5 hF rfl (wanted_f hF rfl rfl rfl hc2 rfl) rfl (by kernel_rfl) (by kernel_rfl) (by kernel_rfl) fun a hF=>e_skipP 6 hF rfl (wanted_f hF rfl rfl rfl hc2 rfl) rfl (by kernel_rfl) (by kernel_rfl) (by kernel_rfl) fun a hF=>e_skipP 7 hF rfl (wanted_f hF rfl rfl rfl hc2 rfl) rfl (by kernel_rfl) (by kernel_rfl) (by kernel_rfl) fun a hF=>e_skipP 8 hF rfl (wanted_f hF rfl rfl rfl hc2 rfl) rfl (by kernel_rfl) (by kernel_rfl) (by kernel_rfl) fun a hF=>e_p (v:=(.bool false)) 9 hF rfl (ex_pick_f rfl rfl hc2) rfl rfl (by kernel_rfl) (by kernel_rfl) (by kernel_rfl) fun a hF=>e_p (v:=(.bool false)) 10 hF rfl (ex_assign rfl) rfl rfl (by kernel_rfl) (by kernel_rfl) (by kernel_rfl) fun a hF=>e_end (by kernel_rfl) (n_jn ?_) _
   obtain rfl:=someI hj1
   exact ⟨hF.sub ⟨rfl,trivial⟩,hS.mask [false]⟩
  ·have hj1:=cond_t hc2 hj1
   refine e_xg (v:=(.agg #[s1.v,s2.v])) 3 hF hS rfl (ex_loadA (vs:=[s1.v,s2.v]) 0 0 underlying33 rfl sz33 rfl rfl rfl rfl) (wanted_t hF rfl rfl rfl hc2) rfl (by kernel_rfl) (by kernel_rfl) (by kernel_rfl) (by kernel_rfl) fun a hF=>e_pg (v:=(.pointer (some ⟨b3,1,none⟩))) 5 hF rfl (ex_fieldAddr underlying33 rfl sz23 rfl rfl) (wanted_t hF rfl rfl rfl hc2) rfl (by kernel_rfl) (by kernel_rfl) (by kernel_rfl) fun a hF=>e_xg (v:=s2.v) 6 hF hS rfl (ex_load1 0 0 underlying23 rfl rfl rfl rfl) (wanted_t hF rfl rfl rfl hc2) rfl (by kernel_rfl) (by kernel_rfl) (by kernel_rfl) (by kernel_rfl) fun a hF=>e_pg (v:=(iV (goLen p_c.Cells))) 7 hF rfl (ex_len underlying23 rfl h2.len) (wanted_t hF rfl rfl rfl hc2) rfl (by kernel_rfl) (by kernel_rfl) (by kernel_rfl) fun a hF=>e_one 4 (by kernel_rfl) ?_
   obtain ⟨t_8,ht_8,hj1⟩:=bindS hj1
   refine e_callg (vs:=[(.agg #[s1.v,s2.v])]) hF hS rfl (wanted_t hF rfl rfl rfl hc2) func81 (by kernel_rfl) rfl rfl rfl (c_impl_firstBreak p_c t_8 ht_8 _ m hS.vis s1 h1 s2 h2) ?_
   rintro a w _ rfl hF hS
   refine e_pg (v:=(.bool (t_8 == (goLen p_c.Cells)))) 8 hF rfl (ex_ibin rfl rfl rfl) (wanted_t hF rfl rfl rfl hc2) rfl (by kernel_rfl) (by kernel_rfl) (by kernel_rfl) fun a hF=>e_p (v:=(.bool (t_8 == (goLen p_c.Cells)))) 9 hF rfl (ex_pick_t rfl rfl hc2) rfl rfl (by kernel_rfl) (by kernel_rfl) (by kernel_rfl) fun a hF=>e_p (v:=(.bool (t_8 == (goLen p_c.Cells)))) 10 hF rfl (ex_assign rfl) rfl rfl (by kernel_rfl) (by kernel_rfl) (by kernel_rfl) fun a hF=>e_end (by kernel_rfl) (n_jn ?_) _
   obtain rfl:=someI hj1
   exact ⟨hF.sub ⟨rfl,trivial⟩,hS.mask [false]⟩
 ·rintro a w ⟨hF,hS⟩
  refine n_sq (q_ret ?_)
  obtain rfl:=someI hr
  exact ret_of hF hS rfl (.tmp rfl .nil) rfl

theorem c_slices_Equal_int_int (p_s1:List Int) (p_s2:List Int) (r:Bool) (hr:slices_Equal_int_int p_s1 p_s2=some r) (w0:World) (m:Mem) (hv:Vis m w0) (s1:Sl) (h1:Rd m s1 p_s1) (s2:Sl) (h2:Rd m s2 p_s2) :
  Ret prog 44 [s1.v,s2.v] w0 (fun v _=>v=(.bool r)):=by
 unfold slices_Equal_int_int at hr
 refine ret_start func44 rfl 26 rfl rfl m hv fun a hF hS=>q_seq (q_region (q_x (v:=(.bool false)) hF hS (ex_assign rfl) rfl rfl fun a hF=>q_end (n_sq (q_seq (q_seq (q_region (q_x (v:=s1.v) hF hS (ex_move rfl) rfl rfl fun a hF=>q_x (v:=(iV (goLen p_s1))) hF hS (ex_len underlying23 rfl h1.len) rfl rfl fun a hF=>q_x (v:=s2.v) hF hS (ex_move rfl) rfl rfl fun a hF=>q_x (v:=(iV (goLen p_s2))) hF hS (ex_len underlying23 rfl h2.len) rfl rfl fun a hF=>q_x (v:=(.bool ((goLen p_s1) != (goLen p_s2)))) hF hS (ex_ibin rfl rfl rfl) rfl rfl fun a hF=>q_end (n_sq ?_))))))))
 rcases bcase ((goLen p_s1) != (goLen p_s2)) with hc1 | hc1
 ·have hr:=cond_f hc1 hr
  refine q_cond_f hF rfl hc1 (q_skipc (n_sq (q_seq (q_seq (q_region (q_x (v:=s1.v) hF hS (ex_move rfl) rfl rfl fun a hF=>q_x (v:=(iV (goLen p_s1))) hF hS (ex_len underlying23 rfl h1.len) rfl rfl fun a hF=>q_x (v:=(iV 0)) hF hS (ex_move rfl) rfl rfl fun a hF=>q_end (n_sq (q_block ?_))))))))
  obtain ⟨o2,hl2,hr⟩:=bindS hr
  refine q_loop (fun (t_3:Int) a w=>Fr a 26 [(0,s1.v),(1,s2.v),(12,(iV (goLen p_s1))),(13,(iV t_3))]∧St [] w0 w m []) (fun (o:(Unit) ⊕ (Bool)) e a w=>o=.inl ()∧e=.exit 0∧Fr a 26 []∧St [] w0 w m []) hl2 ⟨hF.sub ⟨rfl,rfl,rfl,rfl,trivial⟩,hS⟩ ?_ ?_
  ·clear hF hS
   rintro t_3 a w st ⟨hF,hS⟩ hb2
   unfold slices_Equal_int_int_l1 at hb2
   refine q_seq (q_region (q_x (v:=(.bool (decide (t_3<(goLen p_s1))))) hF hS (ex_ibin rfl rfl rfl) rfl rfl fun a hF=>q_end (n_sq (q_seq ?_))))
   rcases bcase (decide (t_3<(goLen p_s1))) with hc3 | hc3
   ·have hb2:=cond_f hc3 hb2
    refine q_cond_f hF rfl hc3 (q_exit (x_sq ?_))
    obtain rfl:=someI hb2
    exact ⟨nofun,.inl ⟨rfl,rfl,hF.sub trivial,hS⟩⟩
   ·have hb2:=cond_t hc3 hb2
    refine q_cond_t hF rfl hc3 (q_skipc (n_sq (q_seq (q_block (q_seq (q_region (q_x (v:=(iV t_3)) hF hS (ex_move rfl) rfl rfl fun a hF=>q_x (v:=(iV t_3)) hF hS (ex_assign rfl) rfl rfl fun a hF=>q_end (n_sq (q_seq (e_region ⟨[],[]⟩ mixed fun w' hw'=>?_))))))))))
    have hS:=hS.below hw'
    refine e_p (v:=s1.v) 0 hF rfl (ex_move rfl) rfl rfl (by kernel_rfl) (by kernel_rfl) (by kernel_rfl) fun a hF=>e_p (v:=(iV t_3)) 1 hF rfl (ex_move rfl) rfl rfl (by kernel_rfl) (by kernel_rfl) (by kernel_rfl) fun a hF=>?_
    obtain ⟨e_4,he_4,hb2⟩:=bindS hb2
    obtain ⟨vs5,at5,d5⟩:=h1.at he_4 1 rfl
    obtain rfl:vs5=[(iV e_4)]:=d5
    refine e_p (v:=(elP s1 (t_3.toNat * 1))) 2 hF rfl (ex_indexAddr underlying23 sz3 rfl rfl (h1.idx he_4)) rfl rfl (by kernel_rfl) (by kernel_rfl) (by kernel_rfl) fun a hF=>e_x (v:=(iV e_4)) 3 hF hS rfl (ex_loadE1 0 underlying3 rfl rfl ((at5).at) rfl rfl) rfl rfl (by kernel_rfl) (by kernel_rfl) (by kernel_rfl) (by kernel_rfl) fun a hF=>e_p (v:=s2.v) 4 hF rfl (ex_move rfl) rfl rfl (by kernel_rfl) (by kernel_rfl) (by kernel_rfl) fun a hF=>e_p (v:=(iV t_3)) 5 hF rfl (ex_move rfl) rfl rfl (by kernel_rfl) (by kernel_rfl) (by kernel_rfl) fun a hF=>?_
    obtain ⟨e_6,he_6,hb2⟩:=bindS hb2
    obtain ⟨vs7,at7,d7⟩:=h2.at he_6 1 rfl
    obtain rfl:vs7=[(iV e_6)]:=d7
    refine e_p (v:=(elP s2 (t_3.toNat * 1))) 6 hF rfl (ex_indexAddr underlying23 sz3 rfl rfl (h2.idx he_6)) rfl rfl (by kernel_rfl) (by kernel_rfl) (by kernel_rfl) fun a hF=>e_x (v:=(iV e_6)) 7 hF hS rfl (ex_loadE1 0 underlying3 rfl rfl ((at7).at) rfl rfl) rfl rfl (by kernel_rfl) (by kernel_rfl) (by kernel_rfl) (by kernel_rfl) fun a hF=>e_p (v:=(.bool (e_4 != e_6))) 8 hF rfl (ex_ibin rfl rfl rfl) rfl rfl (by kernel_rfl) (by kernel_rfl) (by kernel_rfl) fun a hF=>e_end (by kernel_rfl) (n_sq ?_) _
    rcases bcase (e_4 != e_6) with hc4 | hc4
    ·have hb2:=cond_f hc4 hb2
     refine q_cond_f hF rfl hc4 (q_skipc (n_ib (n_sq (q_region (q_x (v:=(iV (w64 (t_3 + 1)))) hF hS (ex_ibin rfl rfl rfl) rfl rfl fun a hF=>q_x (v:=(iV (w64 (t_3 + 1)))) hF hS (ex_move rfl) rfl rfl fun a hF=>q_end ?_)))))
     obtain rfl:=someI hb2
     exact ⟨rfl,hF.sub ⟨rfl,rfl,rfl,rfl,trivial⟩,hS⟩
    ·have hb2:=cond_t hc4 hb2
     refine q_cond_t hF rfl hc4 (q_seq (q_region (q_x (v:=(.bool false)) hF hS (ex_assign rfl) rfl rfl fun a hF=>q_end (n_sq (q_ret (r_ib (r_sq ?_)))))))
     obtain rfl:=someI hb2
     refine ⟨nofun,.inr fun ho=>?_⟩
     subst ho
     refine r_ib (r_sq ?_)
     obtain rfl:=someI hr
     exact ret_of hF hS rfl (.tmp rfl .nil) rfl
  ·rintro e a w ⟨rfl,rfl,hF,hS⟩
   refine x_ib (n_sq ?_)
   refine q_seq (q_region (q_x (v:=(.bool true)) hF hS (ex_assign rfl) rfl rfl fun a hF=>q_end (n_sq (q_ret ?_))))
   obtain rfl:=someI hr
   exact ret_of hF hS rfl (.tmp rfl .nil) rfl
 ·have hr:=cond_t hc1 hr
  refine q_cond_t hF rfl hc1 (q_seq (q_region (q_x (v:=(.bool false)) hF hS (ex_assign rfl) rfl rfl fun a hF=>q_end (n_sq (q_ret (r_sq ?_))))))
  obtain rfl:=someI hr
  exact ret_of hF hS rfl (.tmp rfl .nil) rfl

theorem c_impl_DifferenceOf (p_a:impl_Cube) (p_b:impl_Cube) (r:impl_Cube × Bool) (hr:impl_DifferenceOf p_a p_b=some r) (w0:World) (m:Mem) (hv:Vis m w0) (s1:Sl) (h1:Rd m s1 p_a.Sizes) (s2:Sl) (h2:Rd m s2 p_a.Cells) (s3:Sl) (h3:Rd m s3 p_b.Sizes) (s4:Sl) (h4:Rd m s4 p_b.Cells) :
  Ret prog 11 [(.agg #[s1.v,s2.v]),(.agg #[s3.v,s4.v])] w0 (fun v w=>∃ (q0':Piece) (q1':Piece) (s0':Sl) (s1':Sl),v=(.tuple #[(.agg #[s0'.v,s1'.v]),(.bool r.2)])∧St [] w0 w m [q0',q1']∧OwnL m 3 q0' s0' r.1.Sizes∧OwnL m 3 q1' s1' r.1.Cells):=by
 unfold impl_DifferenceOf at hr
 refine ret_start func11 rfl 56 rfl rfl m hv fun a hF hS=>q_seq (q_region (q_box (cs:=[s1.v,s2.v]) hF hS rfl rfl rfl fun a w b5 hF hS=>q_box (cs:=[s3.v,s4.v]) hF hS rfl rfl rfl fun a w b6 hF hS=>q_alloc (cs:=[nilS.v,nilS.v]) hF hS rfl rfl rfl fun a w b7 hF hS=>q_x (v:=(.bool false)) hF hS (ex_assign rfl) rfl rfl fun a hF=>q_end (n_sq (q_seq (q_seq ?_)))))
 obtain ⟨t_11,hj1,hr⟩:=bindS hr
 refine q_join (fun a w=>Fr a 56 [(2,(.pointer (some ⟨b5,0,none⟩))),(3,(.pointer (some ⟨b6,0,none⟩))),(4,(.pointer (some ⟨b7,0,none⟩))),(24,(.bool t_11))]∧St [] w0 w m [[⟨b7,[nilS.v,nilS.v],33⟩],[⟨b6,[s3.v,s4.v],33⟩],[⟨b5,[s1.v,s2.v],33⟩]]) ?_ ?_
 ·refine q_region (q_x (v:=(.agg #[s1.v,s2.v])) hF hS (ex_loadA (vs:=[s1.v,s2.v]) 2 0 underlying33 rfl sz33 rfl rfl rfl rfl) rfl rfl fun a hF=>?_)
  obtain ⟨t_8,ht_8,hj1⟩:=bindS hj1
  refine q_call (vs:=[(.agg #[s1.v,s2.v])]) hF hS func43 (by kernel_rfl) rfl rfl rfl (c_impl_IsCube p_a t_8 ht_8 _ m hS.vis s1 h1 s2 h2) ?_
  rintro a w _ rfl hF hS
  refine q_x (v:=(.bool (!t_8))) hF hS (ex_not rfl) rfl rfl fun a hF=>q_x (v:=(.bool (!t_8))) hF hS (ex_move rfl) rfl rfl fun a hF=>?_
  rcases bcase (!t_8) with hc2 | hc2
  ·have hj1:=cond_f hc2 hj1
   refine q_xg (v:=(.agg #[s3.v,s4.v])) hF hS (ex_loadA (vs:=[s3.v,s4.v]) 1 0 underlying33 rfl sz33 rfl rfl rfl rfl) (wanted_t hF rfl rfl rfl hc2) rfl fun a hF=>?_
   obtain ⟨t_9,ht_9,hj1⟩:=bindS hj1
   refine q_callg (vs:=[(.agg #[s3.v,s4.v])]) hF hS (wanted_t hF rfl rfl rfl hc2) func43 (by kernel_rfl) rfl rfl rfl (c_impl_IsCube p_b t_9 ht_9 _ m hS.vis s3 h3 s4 h4) ?_
   rintro a w _ rfl hF hS
   refine q_xg (v:=(.bool (!t_9))) hF hS (ex_not rfl) (wanted_t hF rfl rfl rfl hc2) rfl fun a hF=>q_x (v:=(.bool (!t_9))) hF hS (ex_pick_f rfl rfl hc2) rfl rfl fun a hF=>q_x (v:=(.bool (!t_9))) hF hS (ex_move rfl) rfl rfl fun a hF=>?_
   rcases bcase (!t_9) with hc3 | hc3
   ·have hj1:=cond_f hc3 hj1
    refine q_xg (v:=(.pointer (some ⟨b5,0,none⟩))) hF hS (ex_fieldAddr underlying33 rfl sz23 rfl rfl) (wanted_t hF rfl rfl rfl hc3) rfl fun a hF=>q_xg (v:=s1.v) hF hS (ex_load1 2 0 underlying23 rfl rfl rfl rfl) (wanted_t hF rfl rfl rfl hc3) rfl fun a hF=>q_xg (v:=(.pointer (some ⟨b6,0,none⟩))) hF hS (ex_fieldAddr underlying33 rfl sz23 rfl rfl) (wanted_t hF rfl rfl rfl hc3) rfl fun a hF=>q_xg (v:=s3.v) hF hS (ex_load1 1 0 underlying23 rfl rfl rfl rfl) (wanted_t hF rfl rfl rfl hc3) rfl fun a hF=>?_
    obtain ⟨t_10,ht_10,hj1⟩:=bindS hj1
    refine q_callg (vs:=[s1.v,s3.v]) hF hS (wanted_t hF rfl rfl rfl hc3) func44 (by kernel_rfl) rfl rfl rfl (c_slices_Equal_int_int p_a.Sizes p_b.Sizes t_10 ht_10 _ m hS.vis s1 h1 s3 h3) ?_
    rintro a w _ rfl hF hS
    refine q_xg (v:=(.bool (!t_10))) hF hS (ex_not rfl) (wanted_t hF rfl rfl rfl hc3) rfl fun a hF=>q_x (v:=(.bool (!t_10))) hF hS (ex_pick_f rfl rfl hc3) rfl rfl fun a hF=>q_end (n_jn ?_)
    obtain rfl:=someI hj1
    exact ⟨hF.sub ⟨rfl,rfl,rfl,rfl,trivial⟩,hS⟩
   ·have hj1:=cond_t hc3 hj1
    refine q_skip hF (wanted_f hF rfl rfl rfl hc3 rfl) rfl fun a hF=>q_skip hF (wanted_f hF rfl rfl rfl hc3 rfl) rfl fun a hF=>q_skip hF (wanted_f hF rfl rfl rfl hc3 rfl) rfl fun a hF=>q_skip hF (wanted_f hF rfl rfl rfl hc3 rfl) rfl fun a hF=>q_skip hF (wanted_f hF rfl rfl rfl hc3 rfl) rfl fun a hF=>q_skip hF (wanted_f hF rfl rfl rfl hc3 rfl) rfl fun a hF=>q_x (v:=(.bool true)) hF hS (ex_pick_t rfl rfl hc3) rfl rfl fun a hF=>q_end (n_jn ?_)
    obtain rfl:=someI hj1
    exact ⟨hF.sub ⟨rfl,rfl,rfl,rfl,trivial⟩,hS⟩
  ·have hj1:=cond_t hc2 hj1
   refine q_skip hF (wanted_f hF rfl rfl rfl hc2 rfl) rfl fun a hF=>q_skip hF (wanted_f hF rfl rfl rfl hc2 rfl) rfl fun a hF=>q_skip hF (wanted_f hF rfl rfl rfl hc2 rfl) rfl fun a hF=>q_x (v:=(.bool true)) hF hS (ex_pick_t rfl rfl hc2) rfl rfl fun a hF=>q_x (v:=(.bool true)) hF hS (ex_move rfl) rfl rfl fun a hF=>q_skip hF (wanted_f hF rfl rfl rfl rfl rfl) rfl fun a hF=>q_skip hF (wanted_f hF rfl rfl rfl rfl rfl) rfl fun a hF=>q_skip hF (wanted_f hF rfl rfl rfl rfl rfl) rfl fun a hF=>q_skip hF (wanted_f hF rfl rfl rfl rfl rfl) rfl fun a hF=>q_skip hF (wanted_f hF rfl rfl rfl rfl rfl) rfl fun a hF=>q_skip hF (wanted_f hF rfl rfl rfl rfl rfl) rfl fun a hF=>q_x (v:=(.bool true)) hF hS (ex_pick_t rfl rfl rfl) rfl rfl fun a hF=>q_end (n_jn ?_)
   obtain rfl:=someI hj1
   exact ⟨hF.sub ⟨rfl,rfl,rfl,rfl,trivial⟩,hS⟩
 ·rintro a w ⟨hF,hS⟩
  refine n_sq ?_
  rcases bcase (t_11) with hc4 | hc4
  ·have hr:=cond_f hc4 hr
   refine q_cond_f hF rfl hc4 (q_skipc (n_sq (q_seq ?_)))
   obtain ⟨out_28,hj5,hr⟩:=bindS hr
   refine q_join (fun a w=>∃ b27,∃ (q29:Piece),∃ (s29:Sl),∃ (q30:Piece),∃ (s30:Sl),Fr a 56 [(3,(.pointer (some ⟨b6,0,none⟩))),(4,(.pointer (some ⟨b7,0,none⟩))),(6,(.pointer (some ⟨b27,0,none⟩)))]∧St [] w0 w m [q29,q30,[⟨b27,[s29.v,s30.v],33⟩],[⟨b7,[nilS.v,nilS.v],33⟩],[⟨b6,[s3.v,s4.v],33⟩]]∧OwnL m 3 q29 s29 out_28.Sizes∧OwnL m 3 q30 s30 out_28.Cells) ?_ ?_
   ·refine e_region ⟨[8],[b5]⟩ mixed fun w' hw'=>?_
    have hS:=hS.below hw'
    refine e_p (v:=(.pointer (some ⟨b5,0,none⟩))) 0 hF rfl (ex_fieldAddr underlying33 rfl sz23 rfl rfl) rfl rfl (by kernel_rfl) (by kernel_rfl) (by kernel_rfl) fun a hF=>e_xb (v:=s1.v) 1 2 hF hS (.head _) rfl rfl (ex_load1 0 0 underlying23 rfl rfl rfl rfl) rfl rfl (by kernel_rfl) (by kernel_rfl) (by kernel_rfl) fun a hF=>e_p (v:=(.pointer (some ⟨b5,1,none⟩))) 3 hF rfl (ex_fieldAddr underlying33 rfl sz23 rfl rfl) rfl rfl (by kernel_rfl) (by kernel_rfl) (by kernel_rfl) fun a hF=>e_xb (v:=s2.v) 4 2 hF hS (.head _) rfl rfl (ex_load1 0 0 underlying23 rfl rfl rfl rfl) rfl rfl (by kernel_rfl) (by kernel_rfl) (by kernel_rfl) fun a hF=>?_
    obtain ⟨t_21,ht_21,hj5⟩:=bindS hj5
    obtain ⟨t_24,ht_24,hj5⟩:=bindS hj5
    refine e_all [2,7] (by kernel_rfl) rfl ⟨?_,?_,trivial⟩
    ·refine e_call (vs:=[s1.v]) hF hS rfl func45 (by kernel_rfl) rfl rfl rfl (c_slices_Clone_int_int p_a.Sizes t_21 ht_21 _ m hS.vis s1 h1) ?_
     rintro a w _ ⟨q23,s23,rfl,hR22,h23⟩ hF hS2
     have hS:St _ _ _ _ [q23,[⟨b7,[nilS.v,nilS.v],33⟩],[⟨b6,[s3.v,s4.v],33⟩],[⟨b5,[s1.v,s2.v],33⟩]]:=hS.joinF hR22
     refine e_all [5,7] (by kernel_rfl) rfl ⟨?_,?_,trivial⟩
     ·refine e_call (vs:=[s2.v]) hF hS rfl func45 (by kernel_rfl) rfl rfl rfl (c_slices_Clone_int_int p_a.Cells t_24 ht_24 _ m hS.vis s2 h2) ?_
      rintro a w _ ⟨q26,s26,rfl,hR25,h26⟩ hF hS2
      have hS:St _ _ _ _ [q26,q23,[⟨b7,[nilS.v,nilS.v],33⟩],[⟨b6,[s3.v,s4.v],33⟩],[⟨b5,[s1.v,s2.v],33⟩]]:=hS.joinF hR25
      refine e_p (v:=(.agg #[s23.v,s26.v])) 6 hF rfl (ex_build (cells:=[s23.v,s26.v]) rfl (by kernel_rfl)) rfl rfl (by kernel_rfl) (by kernel_rfl) (by kernel_rfl) fun a hF=>e_one 7 (by kernel_rfl) (e_alloc (cs:=[nilS.v,nilS.v]) hF hS rfl rfl rfl rfl fun a w b27 hF hS=>e_one 8 (by kernel_rfl) ?_)
      have hSo:=hS
      refine e_store (vs:=[s23.v,s26.v]) (cs':=[s23.v,s26.v]) 0 0 hF hS rfl rfl sz33 rfl rfl rfl rfl rfl rfl rfl rfl fun a w hF hS=>⟨kpC hSo hS 5 5 rfl rfl kpN,?_⟩
      refine e_end (by kernel_rfl) (n_jn ?_) _
      obtain rfl:=someI hj5
      exact ⟨b27,q23,s23,q26,s26,hF.sub ⟨rfl,rfl,rfl,trivial⟩,hS.sel [2,1,0,3,4] (by decide),h23,h26⟩
     ·refine e_alloc (cs:=[nilS.v,nilS.v]) hF hS rfl rfl rfl rfl fun a w b27 hF hS=>e_one 5 (by kernel_rfl) (e_call (vs:=[s2.v]) hF hS rfl func45 (by kernel_rfl) rfl rfl rfl (c_slices_Clone_int_int p_a.Cells t_24 ht_24 _ m hS.vis s2 h2) ?_)
      rintro a w _ ⟨q26,s26,rfl,hR25,h26⟩ hF hS2
      have hS:St _ _ _ _ [q26,[⟨b27,[nilS.v,nilS.v],33⟩],q23,[⟨b7,[nilS.v,nilS.v],33⟩],[⟨b6,[s3.v,s4.v],33⟩],[⟨b5,[s1.v,s2.v],33⟩]]:=hS.joinF hR25
      refine e_p (v:=(.agg #[s23.v,s26.v])) 6 hF rfl (ex_build (cells:=[s23.v,s26.v]) rfl (by kernel_rfl)) rfl rfl (by kernel_rfl) (by kernel_rfl) (by kernel_rfl) fun a hF=>e_one 8 (by kernel_rfl) ?_
      have hSo:=hS
      refine e_store (vs:=[s23.v,s26.v]) (cs':=[s23.v,s26.v]) 1 0 hF hS rfl rfl sz33 rfl rfl rfl rfl rfl rfl rfl rfl fun a w hF hS=>⟨kpC hSo hS 5 5 rfl rfl kpN,?_⟩
      refine e_end (by kernel_rfl) (n_jn ?_) _
      obtain rfl:=someI hj5
      exact ⟨b27,q23,s23,q26,s26,hF.sub ⟨rfl,rfl,rfl,trivial⟩,hS.sel [2,0,1,3,4] (by decide),h23,h26⟩
    ·refine e_alloc (cs:=[nilS.v,nilS.v]) hF hS rfl rfl rfl rfl fun a w b27 hF hS=>e_one 2 (by kernel_rfl) (e_call (vs:=[s1.v]) hF hS rfl func45 (by kernel_rfl) rfl rfl rfl (c_slices_Clone_int_int p_a.Sizes t_21 ht_21 _ m hS.vis s1 h1) ?_)
     rintro a w _ ⟨q23,s23,rfl,hR22,h23⟩ hF hS2
     have hS:St _ _ _ _ [q23,[⟨b27,[nilS.v,nilS.v],33⟩],[⟨b7,[nilS.v,nilS.v],33⟩],[⟨b6,[s3.v,s4.v],33⟩],[⟨b5,[s1.v,s2.v],33⟩]]:=hS.joinF hR22
     refine e_one 5 (by kernel_rfl) (e_call (vs:=[s2.v]) hF hS rfl func45 (by kernel_rfl) rfl rfl rfl (c_slices_Clone_int_int p_a.Cells t_24 ht_24 _ m hS.vis s2 h2) ?_)
     rintro a w _ ⟨q26,s26,rfl,hR25,h26⟩ hF hS2
     have hS:St _ _ _ _ [q26,q23,[⟨b27,[nilS.v,nilS.v],33⟩],[⟨b7,[nilS.v,nilS.v],33⟩],[⟨b6,[s3.v,s4.v],33⟩],[⟨b5,[s1.v,s2.v],33⟩]]:=hS.joinF hR25
     refine e_p (v:=(.agg #[s23.v,s26.v])) 6 hF rfl (ex_build (cells:=[s23.v,s26.v]) rfl (by kernel_rfl)) rfl rfl (by kernel_rfl) (by kernel_rfl) (by kernel_rfl) fun a hF=>e_one 8 (by kernel_rfl) ?_
     have hSo:=hS
     refine e_store (vs:=[s23.v,s26.v]) (cs':=[s23.v,s26.v]) 2 0 hF hS rfl rfl sz33 rfl rfl rfl rfl rfl rfl rfl rfl fun a w hF hS=>⟨kpC hSo hS 5 5 rfl rfl kpN,?_⟩
     refine e_end (by kernel_rfl) (n_jn ?_) _
     obtain rfl:=someI hj5
     exact ⟨b27,q23,s23,q26,s26,hF.sub ⟨rfl,rfl,rfl,trivial⟩,hS.sel [1,0,2,3,4] (by decide),h23,h26⟩
   ·rintro a w ⟨b27,q29,s29,q30,s30,hF,hS,h29,h30⟩
    refine n_sq ?_
    refine q_seq (q_seq (q_region (q_x (v:=(.pointer (some ⟨b6,1,none⟩))) hF hS (ex_fieldAddr underlying33 rfl sz23 rfl rfl) rfl rfl fun a hF=>q_x (v:=s4.v) hF hS (ex_load1 4 0 underlying23 rfl rfl rfl rfl) rfl rfl fun a hF=>q_x (v:=(iV (goLen p_b.Cells))) hF hS (ex_len underlying23 rfl h4.len) rfl rfl fun a hF=>q_x (v:=(iV 0)) hF hS (ex_move rfl) rfl rfl fun a hF=>q_end (n_sq (q_block ?_)))))
    obtain ⟨out_42,hl6,hr⟩:=bindS hr
    refine q_loop (fun (s:Int × impl_Cube) a w=>∃ (q34:Piece),∃ t_31,∃ out_32,s=(t_31,out_32)∧Fr a 56 [(4,(.pointer (some ⟨b7,0,none⟩))),(6,(.pointer (some ⟨b27,0,none⟩))),(34,s4.v),(35,(iV (goLen p_b.Cells))),(36,(iV t_31))]∧St [] w0 w m [q34,q29,[⟨b27,[s29.v,s30.v],33⟩],[⟨b7,[nilS.v,nilS.v],33⟩]]∧OwnL m 3 q29 s29 out_32.Sizes∧out_32.Sizes=out_28.Sizes∧OwnL m 3 q34 s30 out_32.Cells) (fun (out_42:impl_Cube) e a w=>∃ (q44:Piece),e=.exit 0∧Fr a 56 [(4,(.pointer (some ⟨b7,0,none⟩))),(6,(.pointer (some ⟨b27,0,none⟩)))]∧St [] w0 w m [q29,q44,[⟨b27,[s29.v,s30.v],33⟩],[⟨b7,[nilS.v,nilS.v],33⟩]]∧OwnL m 3 q29 s29 out_42.Sizes∧out_42.Sizes=out_28.Sizes∧OwnL m 3 q44 s30 out_42.Cells) hl6 ⟨q30,_,_,rfl,hF.sub ⟨rfl,rfl,rfl,rfl,rfl,trivial⟩,hS.sel [1,0,2,3] (by decide),h29,rfl,h30⟩ ?_ ?_
    ·clear hF hS
     rintro s a w st ⟨q34,t_31,out_32,rfl,hF,hS,h33,h33k,h34⟩ hb6
     unfold impl_DifferenceOf_l1 at hb6
     refine q_seq (q_region (q_x (v:=(.bool (decide (t_31<(goLen p_b.Cells))))) hF hS (ex_ibin rfl rfl rfl) rfl rfl fun a hF=>q_end (n_sq (q_seq ?_))))
     rcases bcase (decide (t_31<(goLen p_b.Cells))) with hc7 | hc7
     ·have hb6:=cond_f hc7 hb6
      refine q_cond_f hF rfl hc7 (q_exit (x_sq ?_))
      obtain rfl:=someI hb6
      exact ⟨nofun,.inl ⟨q34,rfl,hF.sub ⟨rfl,rfl,trivial⟩,hS.sel [1,0,2,3] (by decide),h33,h33k,h34⟩⟩
     ·have hb6:=cond_t hc7 hb6
      refine q_cond_t hF rfl hc7 (q_skipc (n_sq (q_seq (q_block (q_seq (q_region (q_x (v:=(iV t_31)) hF hS (ex_move rfl) rfl rfl fun a hF=>?_)))))))
      obtain ⟨e_35,he_35,hb6⟩:=bindS hb6
      obtain ⟨vs36,at36,d36⟩:=h4.at he_35 1 rfl
      obtain rfl:vs36=[(iV e_35)]:=d36
      refine q_x (v:=(elP s4 (t_31.toNat * 1))) hF hS (ex_indexAddr underlying23 sz3 rfl rfl (h4.idx he_35)) rfl rfl fun a hF=>q_x (v:=(iV e_35)) hF hS (ex_loadE1 0 underlying3 rfl rfl ((at36).at) rfl rfl) rfl rfl fun a hF=>q_x (v:=(iV t_31)) hF hS (ex_assign rfl) rfl rfl fun a hF=>q_x (v:=(iV e_35)) hF hS (ex_assign rfl) rfl rfl fun a hF=>q_end (n_sq (q_region (q_x (v:=(.pointer (some ⟨b27,1,none⟩))) hF hS (ex_fieldAddr underlying33 rfl sz23 rfl rfl) rfl rfl fun a hF=>q_x (v:=s30.v) hF hS (ex_load1 2 0 underlying23 rfl rfl rfl rfl) rfl rfl fun a hF=>q_x (v:=(iV t_31)) hF hS (ex_move rfl) rfl rfl fun a hF=>?_)))
      obtain ⟨e_37,he_37,hb6⟩:=bindS hb6
      obtain ⟨vs38,at38,d38⟩:=h34.at he_37 1 rfl
      obtain rfl:vs38=[(iV e_37)]:=d38
      refine q_x (v:=(elP s30 (t_31.toNat * 1))) hF hS (ex_indexAddr underlying23 sz3 rfl rfl (h34.idx he_37)) rfl rfl fun a hF=>q_x (v:=(iV e_37)) hF hS (ex_loadE1 0 underlying3 rfl rfl (at38.at 0 rfl) rfl rfl) rfl rfl fun a hF=>q_x (v:=(iV e_35)) hF hS (ex_move rfl) rfl rfl fun a hF=>q_x (v:=(iV (w64 (e_37 - e_35)))) hF hS (ex_ibin rfl rfl rfl) rfl rfl fun a hF=>?_
      obtain ⟨e_39,he_39,hb6⟩:=bindS hb6
      obtain ⟨vs40,at40,d40⟩:=h34.at he_39 1 rfl
      obtain rfl:vs40=[(iV e_39)]:=d40
      refine q_x (v:=(elP s30 (t_31.toNat * 1))) hF hS (ex_indexAddr underlying23 sz3 rfl rfl (h34.idx he_39)) rfl rfl fun a hF=>q_do rfl fun _ hK=>wp_storeE (e':=(w64 (e_37 - e_35))) (us:=[(iV (w64 (e_37 - e_35)))]) (vs:=[(iV e_39)]) 0 hF hS h34 sz3 rfl rfl rfl rfl rfl rfl rfl he_39 at40 rfl rfl rfl fun w q41 hS h41=>hK _ _ (q_end (n_ib (n_sq (q_region (q_x (v:=(iV (w64 (t_31 + 1)))) hF hS (ex_ibin rfl rfl rfl) rfl rfl fun a hF=>q_x (v:=(iV (w64 (t_31 + 1)))) hF hS (ex_move rfl) rfl rfl fun a hF=>q_end ?_)))))
      obtain rfl:=someI hb6
      exact ⟨rfl,q41,_,_,rfl,hF.sub ⟨rfl,rfl,rfl,rfl,rfl,trivial⟩,hS,h33,h33k,h41⟩
    ·rintro e a w ⟨q44,rfl,hF,hS,h43,h43k,h44⟩
     refine x_ib (n_sq ?_)
     refine q_seq (q_seq (q_region (q_x (v:=(.pointer (some ⟨b27,1,none⟩))) hF hS (ex_fieldAddr underlying33 rfl sz23 rfl rfl) rfl rfl fun a hF=>q_x (v:=s30.v) hF hS (ex_load1 2 0 underlying23 rfl rfl rfl rfl) rfl rfl fun a hF=>?_)))
     obtain ⟨m46,hl46,hv46,hz46⟩:=hS.lend
     obtain ⟨t_45,ht_45,hr⟩:=bindS hr
     refine q_call (vs:=[s30.v]) hF hS func46 (by kernel_rfl) rfl rfl rfl (c_impl_areCubeValues out_42.Cells t_45 ht_45 _ m46 hv46 s30 (h44.froz hl46 (hz46 1 _ rfl))) ?_
     rintro a w _ rfl hF hS
     refine q_x (v:=(.bool (!t_45))) hF hS (ex_not rfl) rfl rfl fun a hF=>q_end (n_sq ?_)
     rcases bcase (!t_45) with hc8 | hc8
     ·have hr:=cond_f hc8 hr
      refine q_cond_f hF rfl hc8 (q_skipc (n_sq (q_seq (q_region (q_x (v:=(.agg #[s29.v,s30.v])) hF hS (ex_loadA (vs:=[s29.v,s30.v]) 2 0 underlying33 rfl sz33 rfl rfl rfl rfl) rfl rfl fun a hF=>q_store (vs:=[s29.v,s30.v]) (cs':=[s29.v,s30.v]) 3 0 hF hS sz33 rfl rfl rfl rfl rfl rfl rfl rfl fun a w hF hS=>q_x (v:=(.bool true)) hF hS (ex_assign rfl) rfl rfl fun a hF=>q_end (n_sq (q_ret ?_)))))))
      obtain rfl:=someI hr
      exact ret_of hF hS rfl (.cellA (us:=[s29.v,s30.v]) 3 0 underlying33 rfl sz33 rfl rfl rfl rfl (.tmp rfl .nil)) ⟨q29,q44,s29,s30,rfl,hS.sel [0,1] (by decide),h43,h44⟩
     ·have hr:=cond_t hc8 hr
      refine q_cond_t hF rfl hc8 (q_seq (q_region (q_x (v:=(.agg #[nilS.v,nilS.v])) hF hS (ex_build (cells:=[nilS.v,nilS.v]) rfl (by kernel_rfl)) rfl rfl fun a hF=>q_store (vs:=[nilS.v,nilS.v]) (cs':=[nilS.v,nilS.v]) 3 0 hF hS sz33 rfl rfl rfl rfl rfl rfl rfl rfl fun a w hF hS=>q_x (v:=(.bool false)) hF hS (ex_assign rfl) rfl rfl fun a hF=>q_end (n_sq (q_ret (r_sq ?_))))))
      obtain rfl:=someI hr
      exact ret_of hF hS rfl (.cellA (us:=[nilS.v,nilS.v]) 3 0 underlying33 rfl sz33 rfl rfl rfl rfl (.tmp rfl .nil)) ⟨[],[],nilS,nilS,rfl,hS.sel [4,5] (by decide),(OwnL.nil (α:=Int) m 3),(OwnL.nil (α:=Int) m 3)⟩
  ·have hr:=cond_t hc4 hr
   refine q_cond_t hF rfl hc4 (q_seq (q_region (q_x (v:=(.agg #[nilS.v,nilS.v])) hF hS (ex_build (cells:=[nilS.v,nilS.v]) rfl (by kernel_rfl)) rfl rfl fun a hF=>q_store (vs:=[nilS.v,nilS.v]) (cs':=[nilS.v,nilS.v]) 0 0 hF hS sz33 rfl rfl rfl rfl rfl rfl rfl rfl fun a w hF hS=>q_x (v:=(.bool false)) hF hS (ex_assign rfl) rfl rfl fun a hF=>q_end (n_sq (q_ret (r_sq ?_))))))
   obtain rfl:=someI hr
   exact ret_of hF hS rfl (.cellA (us:=[nilS.v,nilS.v]) 0 0 underlying33 rfl sz33 rfl rfl rfl rfl (.tmp rfl .nil)) ⟨[],[],nilS,nilS,rfl,hS.sel [3,4] (by decide),(OwnL.nil (α:=Int) m 3),(OwnL.nil (α:=Int) m 3)⟩

theorem c_spec_l1Same (p_a:List Int) (p_b:List Int) (r:Bool) (hr:spec_l1Same p_a p_b=some r) (w0:World) (m:Mem) (hv:Vis m w0) (s1:Sl) (h1:Rd m s1 p_a) (s2:Sl) (h2:Rd m s2 p_b) :
  Ret prog 48 [s1.v,s2.v] w0 (fun v _=>v=(.bool r)):=by
 unfold spec_l1Same at hr
 refine ret_start func48 rfl 26 rfl rfl m hv fun a hF hS=>q_seq (q_region (q_x (v:=(.bool false)) hF hS (ex_assign rfl) rfl rfl fun a hF=>q_end (n_sq (q_seq (q_seq (q_region (q_x (v:=s1.v) hF hS (ex_move rfl) rfl rfl fun a hF=>q_x (v:=(iV (goLen p_a))) hF hS (ex_len underlying23 rfl h1.len) rfl rfl fun a hF=>q_x (v:=s2.v) hF hS (ex_move rfl) rfl rfl fun a hF=>q_x (v:=(iV (goLen p_b))) hF hS (ex_len underlying23 rfl h2.len) rfl rfl fun a hF=>q_x (v:=(.bool ((goLen p_a) != (goLen p_b)))) hF hS (ex_ibin rfl rfl rfl) rfl rfl fun a hF=>q_end (n_sq ?_))))))))
 rcases bcase ((goLen p_a) != (goLen p_b)) with hc1 | hc1
 ·have hr:=cond_f hc1 hr
  refine q_cond_f hF rfl hc1 (q_skipc (n_sq (q_seq (q_seq (q_region (q_x (v:=s1.v) hF hS (ex_move rfl) rfl rfl fun a hF=>q_x (v:=(iV (goLen p_a))) hF hS (ex_len underlying23 rfl h1.len) rfl rfl fun a hF=>q_x (v:=(iV 0)) hF hS (ex_move rfl) rfl rfl fun a hF=>q_end (n_sq (q_block ?_))))))))
  obtain ⟨o2,hl2,hr⟩:=bindS hr
  refine q_loop (fun (t_3:Int) a w=>Fr a 26 [(0,s1.v),(1,s2.v),(12,(iV (goLen p_a))),(13,(iV t_3))]∧St [] w0 w m []) (fun (o:(Unit) ⊕ (Bool)) e a w=>o=.inl ()∧e=.exit 0∧Fr a 26 []∧St [] w0 w m []) hl2 ⟨hF.sub ⟨rfl,rfl,rfl,rfl,trivial⟩,hS⟩ ?_ ?_
  ·clear hF hS
   rintro t_3 a w st ⟨hF,hS⟩ hb2
   unfold spec_l1Same_l1 at hb2
   refine q_seq (q_region (q_x (v:=(.bool (decide (t_3<(goLen p_a))))) hF hS (ex_ibin rfl rfl rfl) rfl rfl fun a hF=>q_end (n_sq (q_seq ?_))))
   rcases bcase (decide (t_3<(goLen p_a))) with hc3 | hc3
   ·have hb2:=cond_f hc3 hb2
    refine q_cond_f hF rfl hc3 (q_exit (x_sq ?_))
    obtain rfl:=someI hb2
    exact ⟨nofun,.inl ⟨rfl,rfl,hF.sub trivial,hS⟩⟩
   ·have hb2:=cond_t hc3 hb2
    refine q_cond_t hF rfl hc3 (q_skipc (n_sq (q_seq (q_block (q_seq (q_region (q_x (v:=(iV t_3)) hF hS (ex_move rfl) rfl rfl fun a hF=>q_x (v:=(iV t_3)) hF hS (ex_assign rfl) rfl rfl fun a hF=>q_end (n_sq (q_seq (e_region ⟨[],[]⟩ mixed fun w' hw'=>?_))))))))))
    have hS:=hS.below hw'
    refine e_p (v:=s1.v) 0 hF rfl (ex_move rfl) rfl rfl (by kernel_rfl) (by kernel_rfl) (by kernel_rfl) fun a hF=>e_p (v:=(iV t_3)) 1 hF rfl (ex_move rfl) rfl rfl (by kernel_rfl) (by kernel_rfl) (by kernel_rfl) fun a hF=>?_
    obtain ⟨e_4,he_4,hb2⟩:=bindS hb2
    obtain ⟨vs5,at5,d5⟩:=h1.at he_4 1 rfl
    obtain rfl:vs5=[(iV e_4)]:=d5
    refine e_p (v:=(elP s1 (t_3.toNat * 1))) 2 hF rfl (ex_indexAddr underlying23 sz3 rfl rfl (h1.idx he_4)) rfl rfl (by kernel_rfl) (by kernel_rfl) (by kernel_rfl) fun a hF=>e_x (v:=(iV e_4)) 3 hF hS rfl (ex_loadE1 0 underlying3 rfl rfl ((at5).at) rfl rfl) rfl rfl (by kernel_rfl) (by kernel_rfl) (by kernel_rfl) (by kernel_rfl) fun a hF=>e_p (v:=s2.v) 4 hF rfl (ex_move rfl) rfl rfl (by kernel_rfl) (by kernel_rfl) (by kernel_rfl) fun a hF=>e_p (v:=(iV t_3)) 5 hF rfl (ex_move rfl) rfl rfl (by kernel_rfl) (by kernel_rfl) (by kernel_rfl) fun a hF=>?_
    obtain ⟨e_6,he_6,hb2⟩:=bindS hb2
    obtain ⟨vs7,at7,d7⟩:=h2.at he_6 1 rfl
    obtain rfl:vs7=[(iV e_6)]:=d7
    refine e_p (v:=(elP s2 (t_3.toNat * 1))) 6 hF rfl (ex_indexAddr underlying23 sz3 rfl rfl (h2.idx he_6)) rfl rfl (by kernel_rfl) (by kernel_rfl) (by kernel_rfl) fun a hF=>e_x (v:=(iV e_6)) 7 hF hS rfl (ex_loadE1 0 underlying3 rfl rfl ((at7).at) rfl rfl) rfl rfl (by kernel_rfl) (by kernel_rfl) (by kernel_rfl) (by kernel_rfl) fun a hF=>e_p (v:=(.bool (e_4 != e_6))) 8 hF rfl (ex_ibin rfl rfl rfl) rfl rfl (by kernel_rfl) (by kernel_rfl) (by kernel_rfl) fun a hF=>e_end (by kernel_rfl) (n_sq ?_) _
    rcases bcase (e_4 != e_6) with hc4 | hc4
    ·have hb2:=cond_f hc4 hb2
     refine q_cond_f hF rfl hc4 (q_skipc (n_ib (n_sq (q_region (q_x (v:=(iV (w64 (t_3 + 1)))) hF hS (ex_ibin rfl rfl rfl) rfl rfl fun a hF=>q_x (v:=(iV (w64 (t_3 + 1)))) hF hS (ex_move rfl) rfl rfl fun a hF=>q_end ?_)))))
     obtain rfl:=someI hb2
     exact ⟨rfl,hF.sub ⟨rfl,rfl,rfl,rfl,trivial⟩,hS⟩
    ·have hb2:=cond_t hc4 hb2
     refine q_cond_t hF rfl hc4 (q_seq (q_region (q_x (v:=(.bool false)) hF hS (ex_assign rfl) rfl rfl fun a hF=>q_end (n_sq (q_ret (r_ib (r_sq ?_)))))))
     obtain rfl:=someI hb2
     refine ⟨nofun,.inr fun ho=>?_⟩
     subst ho
     refine r_ib (r_sq ?_)
     obtain rfl:=someI hr
     exact ret_of hF hS rfl (.tmp rfl .nil) rfl
  ·rintro e a w ⟨rfl,rfl,hF,hS⟩
   refine x_ib (n_sq ?_)
   refine q_seq (q_region (q_x (v:=(.bool true)) hF hS (ex_assign rfl) rfl rfl fun a hF=>q_end (n_sq (q_ret ?_))))
   obtain rfl:=someI hr
   exact ret_of hF hS rfl (.tmp rfl .nil) rfl
 ·have hr:=cond_t hc1 hr
  refine q_cond_t hF rfl hc1 (q_seq (q_region (q_x (v:=(.bool false)) hF hS (ex_assign rfl) rfl rfl fun a hF=>q_end (n_sq (q_ret (r_sq ?_))))))
  obtain rfl:=someI hr
  exact ret_of hF hS rfl (.tmp rfl .nil) rfl

theorem c_spec_DifferenceOf (p_a:impl_Cube) (p_b:impl_Cube) (r:impl_Cube × Bool) (hr:spec_DifferenceOf p_a p_b=some r) (w0:World) (m:Mem) (hv:Vis m w0) (s1:Sl) (h1:Rd m s1 p_a.Sizes) (s2:Sl) (h2:Rd m s2 p_a.Cells) (s3:Sl) (h3:Rd m s3 p_b.Sizes) (s4:Sl) (h4:Rd m s4 p_b.Cells) :
  Ret prog 12 [(.agg #[s1.v,s2.v]),(.agg #[s3.v,s4.v])] w0 (fun v w=>∃ (m':Mem) (s0':Sl) (s1':Sl),v=(.tuple #[(.agg #[s0'.v,s1'.v]),(.bool r.2)])∧MLe [] w0.heap.size m m'∧St [] w0 w m' []∧Rd m' s0' r.1.Sizes∧Rd m' s1' r.1.Cells):=by
 unfold spec_DifferenceOf at hr
 refine ret_start func12 rfl 55 rfl rfl m hv fun a hF hS=>q_seq (q_region (q_box (cs:=[s1.v,s2.v]) hF hS rfl rfl rfl fun a w b5 hF hS=>q_box (cs:=[s3.v,s4.v]) hF hS rfl rfl rfl fun a w b6 hF hS=>q_alloc (cs:=[nilS.v,nilS.v]) hF hS rfl rfl rfl fun a w b7 hF hS=>q_x (v:=(.bool false)) hF hS (ex_assign rfl) rfl rfl fun a hF=>q_end (n_sq (q_seq (q_seq ?_)))))
 obtain ⟨t_11,hj1,hr⟩:=bindS hr
 refine q_join (fun a w=>Fr a 55 [(2,(.pointer (some ⟨b5,0,none⟩))),(3,(.pointer (some ⟨b6,0,none⟩))),(4,(.pointer (some ⟨b7,0,none⟩))),(24,(.bool t_11))]∧St [] w0 w m [[⟨b7,[nilS.v,nilS.v],33⟩],[⟨b6,[s3.v,s4.v],33⟩],[⟨b5,[s1.v,s2.v],33⟩]]) ?_ ?_
 ·refine q_region (q_x (v:=(.agg #[s1.v,s2.v])) hF hS (ex_loadA (vs:=[s1.v,s2.v]) 2 0 underlying33 rfl sz33 rfl rfl rfl rfl) rfl rfl fun a hF=>?_)
  obtain ⟨t_8,ht_8,hj1⟩:=bindS hj1
  refine q_call (vs:=[(.agg #[s1.v,s2.v])]) hF hS func47 (by kernel_rfl) rfl rfl rfl (c_spec_cbGood p_a t_8 ht_8 _ m hS.vis s1 h1 s2 h2) ?_
  rintro a w _ rfl hF hS
  refine q_x (v:=(.bool (!t_8))) hF hS (ex_not rfl) rfl rfl fun a hF=>q_x (v:=(.bool (!t_8))) hF hS (ex_move rfl) rfl rfl fun a hF=>?_
  rcases bcase (!t_8) with hc2 | hc2
  ·have hj1:=cond_f hc2 hj1
   refine q_xg (v:=(.agg #[s3.v,s4.v])) hF hS (ex_loadA (vs:=[s3.v,s4.v]) 1 0 underlying33 rfl sz33 rfl rfl rfl rfl) (wanted_t hF rfl rfl rfl hc2) rfl fun a hF=>?_
   obtain ⟨t_9,ht_9,hj1⟩:=bindS hj1
   refine q_callg (vs:=[(.agg #[s3.v,s4.v])]) hF hS (wanted_t hF rfl rfl rfl hc2) func47 (by kernel_rfl) rfl rfl rfl (c_spec_cbGood p_b t_9 ht_9 _ m hS.vis s3 h3 s4 h4) ?_
   rintro a w _ rfl hF hS
   refine q_xg (v:=(.bool (!t_9))) hF hS (ex_not rfl) (wanted_t hF rfl rfl rfl hc2) rfl fun a hF=>q_x (v:=(.bool (!t_9))) hF hS (ex_pick_f rfl rfl hc2) rfl rfl fun a hF=>q_x (v:=(.bool (!t_9))) hF hS (ex_move rfl) rfl rfl fun a hF=>?_
   rcases bcase (!t_9) with hc3 | hc3
   ·have hj1:=cond_f hc3 hj1
    refine q_xg (v:=(.pointer (some ⟨b5,0,none⟩))) hF hS (ex_fieldAddr underlying33 rfl sz23 rfl rfl) (wanted_t hF rfl rfl rfl hc3) rfl fun a hF=>q_xg (v:=s1.v) hF hS (ex_load1 2 0 underlying23 rfl rfl rfl rfl) (wanted_t hF rfl rfl rfl hc3) rfl fun a hF=>q_xg (v:=(.pointer (some ⟨b6,0,none⟩))) hF hS (ex_fieldAddr underlying33 rfl sz23 rfl rfl) (wanted_t hF rfl rfl rfl hc3) rfl fun a hF=>q_xg (v:=s3.v) hF hS (ex_load1 1 0 underlying23 rfl rfl rfl rfl) (wanted_t hF rfl rfl rfl hc3) rfl fun a hF=>?_
    obtain ⟨t_10,ht_10,hj1⟩:=bindS hj1
    refine q_callg (vs:=[s1.v,s3.v]) hF hS (wanted_t hF rfl rfl rfl hc3) func48 (by kernel_rfl) rfl rfl rfl (c_spec_l1Same p_a.Sizes p_b.Sizes t_10 ht_10 _ m hS.vis s1 h1 s3 h3) ?_
    rintro a w _ rfl hF hS
    refine q_xg (v:=(.bool (!t_10))) hF hS (ex_not rfl) (wanted_t hF rfl rfl rfl hc3) rfl fun a hF=>q_x (v:=(.bool (!t_10))) hF hS (ex_pick_f rfl rfl hc3) rfl rfl fun a hF=>q_end (n_jn ?_)
    obtain rfl:=someI hj1
    exact ⟨hF.sub ⟨rfl,rfl,rfl,rfl,trivial⟩,hS⟩
   ·have hj1:=cond_t hc3 hj1
    refine q_skip hF (wanted_f hF rfl rfl rfl hc3 rfl) rfl fun a hF=>q_skip hF (wanted_f hF rfl rfl rfl hc3 rfl) rfl fun a hF=>q_skip hF (wanted_f hF rfl rfl rfl hc3 rfl) rfl fun a hF=>q_skip hF (wanted_f hF rfl rfl rfl hc3 rfl) rfl fun a hF=>q_skip hF (wanted_f hF rfl rfl rfl hc3 rfl) rfl fun a hF=>q_skip hF (wanted_f hF rfl rfl rfl hc3 rfl) rfl fun a hF=>q_x (v:=(.bool true)) hF hS (ex_pick_t rfl rfl hc3) rfl rfl fun a hF=>q_end (n_jn ?_)
    obtain rfl:=someI hj1
    exact ⟨hF.sub ⟨rfl,rfl,rfl,rfl,trivial⟩,hS⟩
  ·have hj1:=cond_t hc2 hj1
   refine q_skip hF (wanted_f hF rfl rfl rfl hc2 rfl) rfl fun a hF=>q_skip hF (wanted_f hF rfl rfl rfl hc2 rfl) rfl fun a hF=>q_skip hF (wanted_f hF rfl rfl rfl hc2 rfl) rfl fun a hF=>q_x (v:=(.bool true)) hF hS (ex_pick_t rfl rfl hc2) rfl rfl fun a hF=>q_x (v:=(.bool true)) hF hS (ex_move rfl) rfl rfl fun a hF=>q_skip hF (wanted_f hF rfl rfl rfl rfl rfl) rfl fun a hF=>q_skip hF (wanted_f hF rfl rfl rfl rfl rfl) rfl fun a hF=>q_skip hF (wanted_f hF rfl rfl rfl rfl rfl) rfl fun a hF=>q_skip hF (wanted_f hF rfl rfl rfl rfl rfl) rfl fun a hF=>q_skip hF (wanted_f hF rfl rfl rfl rfl rfl) rfl fun a hF=>q_skip hF (wanted_f hF rfl rfl rfl rfl rfl) rfl fun a hF=>q_x (v:=(.bool true)) hF hS (ex_pick_t rfl rfl rfl) rfl rfl fun a hF=>q_end (n_jn ?_)
   obtain rfl:=someI hj1
   exact ⟨hF.sub ⟨rfl,rfl,rfl,rfl,trivial⟩,hS⟩
 ·rintro a w ⟨hF,hS⟩
  refine n_sq ?_
  rcases bcase (t_11) with hc4 | hc4
  ·have hr:=cond_f hc4 hr
   refine q_cond_f hF rfl hc4 (q_skipc (n_sq (q_seq (q_region (q_x (v:=(.pointer (some ⟨b5,0,none⟩))) hF hS (ex_fieldAddr underlying33 rfl sz23 rfl rfl) rfl rfl fun a hF=>q_x (v:=s1.v) hF hS (ex_load1 2 0 underlying23 rfl rfl rfl rfl) rfl rfl fun a hF=>?_)))))
   obtain ⟨t_12,ht_12,hr⟩:=bindS hr
   refine q_call (vs:=[s1.v]) hF hS func49 (by kernel_rfl) rfl rfl rfl (c_spec_l1Own p_a.Sizes t_12 ht_12 _ m hS.vis s1 h1) ?_
   rintro a w _ ⟨q14,s14,rfl,hR13,h14⟩ hF hS2
   have hS:St _ _ _ _ [q14,[⟨b7,[nilS.v,nilS.v],33⟩],[⟨b6,[s3.v,s4.v],33⟩],[⟨b5,[s1.v,s2.v],33⟩]]:=hS.joinF hR13
   refine q_x (v:=(.agg #[s14.v,nilS.v])) hF hS (ex_build (cells:=[s14.v,nilS.v]) rfl (by kernel_rfl)) rfl rfl fun a hF=>q_alloc (cs:=[nilS.v,nilS.v]) hF hS rfl rfl rfl fun a w b15 hF hS=>q_store (vs:=[s14.v,nilS.v]) (cs':=[s14.v,nilS.v]) 0 0 hF hS sz33 rfl rfl rfl rfl rfl rfl rfl rfl fun a w hF hS=>q_end (n_sq (q_seq (q_seq (q_region (q_x (v:=(.pointer (some ⟨b5,1,none⟩))) hF hS (ex_fieldAddr underlying33 rfl sz23 rfl rfl) rfl rfl fun a hF=>q_x (v:=s2.v) hF hS (ex_load1 4 0 underlying23 rfl rfl rfl rfl) rfl rfl fun a hF=>q_x (v:=(iV (goLen p_a.Cells))) hF hS (ex_len underlying23 rfl h2.len) rfl rfl fun a hF=>q_x (v:=(iV 0)) hF hS (ex_move rfl) rfl rfl fun a hF=>q_end (n_sq (q_block ?_)))))))
   obtain ⟨out_27,hl5,hr⟩:=bindS hr
   refine q_loop (fun (s:Int × impl_Cube) a w=>∃ (q19:Piece),∃ (s19:Sl),∃ t_16,∃ out_17,s=(t_16,out_17)∧Fr a 55 [(3,(.pointer (some ⟨b6,0,none⟩))),(4,(.pointer (some ⟨b7,0,none⟩))),(6,(.pointer (some ⟨b15,0,none⟩))),(31,s2.v),(32,(iV (goLen p_a.Cells))),(33,(iV t_16))]∧St [] w0 w m [q19,[⟨b15,[s14.v,s19.v],33⟩],q14,[⟨b7,[nilS.v,nilS.v],33⟩],[⟨b6,[s3.v,s4.v],33⟩]]∧OwnL m 3 q14 s14 out_17.Sizes∧out_17.Sizes=t_12∧OwnL m 3 q19 s19 out_17.Cells) (fun (out_27:impl_Cube) e a w=>∃ (q29:Piece),∃ (s29:Sl),e=.exit 0∧Fr a 55 [(4,(.pointer (some ⟨b7,0,none⟩))),(6,(.pointer (some ⟨b15,0,none⟩)))]∧St [] w0 w m [q14,q29,[⟨b15,[s14.v,s29.v],33⟩],[⟨b7,[nilS.v,nilS.v],33⟩]]∧OwnL m 3 q14 s14 out_27.Sizes∧out_27.Sizes=t_12∧OwnL m 3 q29 s29 out_27.Cells) hl5 ⟨[],nilS,_,_,rfl,hF.sub ⟨rfl,rfl,rfl,rfl,rfl,rfl,trivial⟩,hS.sel [5,0,1,2,3] (by decide),h14,rfl,(OwnL.nil (α:=Int) m 3)⟩ ?_ ?_
   ·clear hF hS
    rintro s a w st ⟨q19,s19,t_16,out_17,rfl,hF,hS,h18,h18k,h19⟩ hb5
    unfold spec_DifferenceOf_l1 at hb5
    refine q_seq (q_region (q_x (v:=(.bool (decide (t_16<(goLen p_a.Cells))))) hF hS (ex_ibin rfl rfl rfl) rfl rfl fun a hF=>q_end (n_sq (q_seq ?_))))
    rcases bcase (decide (t_16<(goLen p_a.Cells))) with hc6 | hc6
    ·have hb5:=cond_f hc6 hb5
     refine q_cond_f hF rfl hc6 (q_exit (x_sq ?_))
     obtain rfl:=someI hb5
     exact ⟨nofun,.inl ⟨q19,s19,rfl,hF.sub ⟨rfl,rfl,trivial⟩,hS.sel [2,0,1,3] (by decide),h18,h18k,h19⟩⟩
    ·have hb5:=cond_t hc6 hb5
     refine q_cond_t hF rfl hc6 (q_skipc (n_sq (q_seq (q_block (q_seq (q_region (q_x (v:=(iV t_16)) hF hS (ex_move rfl) rfl rfl fun a hF=>?_)))))))
     obtain ⟨e_20,he_20,hb5⟩:=bindS hb5
     obtain ⟨vs21,at21,d21⟩:=h2.at he_20 1 rfl
     obtain rfl:vs21=[(iV e_20)]:=d21
     refine q_x (v:=(elP s2 (t_16.toNat * 1))) hF hS (ex_indexAddr underlying23 sz3 rfl rfl (h2.idx he_20)) rfl rfl fun a hF=>q_x (v:=(iV e_20)) hF hS (ex_loadE1 0 underlying3 rfl rfl ((at21).at) rfl rfl) rfl rfl fun a hF=>q_x (v:=(iV t_16)) hF hS (ex_assign rfl) rfl rfl fun a hF=>q_x (v:=(iV e_20)) hF hS (ex_assign rfl) rfl rfl fun a hF=>q_end (n_sq (e_region ⟨[10,12],[b6]⟩ mixed fun w' hw'=>?_))
     have hS:=hS.below hw'
     refine e_p (v:=(.pointer (some ⟨b15,1,none⟩))) 0 hF rfl (ex_fieldAddr underlying33 rfl sz23 rfl rfl) rfl rfl (by kernel_rfl) (by kernel_rfl) (by kernel_rfl) fun a hF=>e_x (v:=s19.v) 1 hF hS rfl (ex_load1 1 0 underlying23 rfl rfl rfl rfl) rfl rfl (by kernel_rfl) (by kernel_rfl) (by kernel_rfl) (by kernel_rfl) fun a hF=>e_p (v:=(iV e_20)) 2 hF rfl (ex_move rfl) rfl rfl (by kernel_rfl) (by kernel_rfl) (by kernel_rfl) fun a hF=>e_p (v:=(.pointer (some ⟨b6,1,none⟩))) 3 hF rfl (ex_fieldAddr underlying33 rfl sz23 rfl rfl) rfl rfl (by kernel_rfl) (by kernel_rfl) (by kernel_rfl) fun a hF=>e_xb (v:=s4.v) 4 4 hF hS (.head _) rfl rfl (ex_load1 0 0 underlying23 rfl rfl rfl rfl) rfl rfl (by kernel_rfl) (by kernel_rfl) (by kernel_rfl) fun a hF=>e_p (v:=(iV t_16)) 5 hF rfl (ex_move rfl) rfl rfl (by kernel_rfl) (by kernel_rfl) (by kernel_rfl) fun a hF=>?_
     obtain ⟨e_22,he_22,hb5⟩:=bindS hb5
     obtain ⟨vs23,at23,d23⟩:=h4.at he_22 1 rfl
     obtain rfl:vs23=[(iV e_22)]:=d23
     refine e_p (v:=(elP s4 (t_16.toNat * 1))) 6 hF rfl (ex_indexAddr underlying23 sz3 rfl rfl (h4.idx he_22)) rfl rfl (by kernel_rfl) (by kernel_rfl) (by kernel_rfl) fun a hF=>e_one 7 (by kernel_rfl) (e_lx (v:=(iV e_22)) hF hS rfl (ex_loadE1 0 underlying3 rfl rfl ((at23).at) rfl rfl) rfl rfl fun a hF=>e_p (v:=(iV (w64 (e_20 - e_22)))) 8 hF rfl (ex_ibin rfl rfl rfl) rfl rfl (by kernel_rfl) (by kernel_rfl) (by kernel_rfl) fun a hF=>e_one 9 (by kernel_rfl) (e_op rfl rfl fun _ hK=>wp_buildSlice' (l:=([(w64 (e_20 - e_22))]:List Int)) (cells:=[(iV (w64 (e_20 - e_22)))]) hF hS underlying23 inf3 rfl rfl (by kernel_rfl) rfl rfl rfl ⟨rfl,rfl⟩ rfl rfl fun a w q24 s24 hF hS h24 hb=>hK _ _ hb (e_one 10 (by kernel_rfl) ?_)))
     have hS:St _ _ _ _ [q19,q24,[⟨b15,[s14.v,s19.v],33⟩],q14,[⟨b7,[nilS.v,nilS.v],33⟩],[⟨b6,[s3.v,s4.v],33⟩]]:=hS.sel [1,0,2,3,4,5] (by decide)
     obtain ⟨l_25,hl_25,hb5⟩:=bindS hb5
     have hSo:=hS
     refine e_opl rfl rfl rfl fun _ hK=>wp_append hF hS h19 underlying23 inf3 rfl rfl rfl rfl (h24.vw hS (j:=1) rfl) rfl (by decide) hl_25 rfl fun a w q26 s26 hF hS h26=>hK _ _ (⟨kpC hSo hS 5 5 rfl rfl kpN,?_⟩)
     refine e_p (v:=(.pointer (some ⟨b15,1,none⟩))) 11 hF rfl (ex_fieldAddr underlying33 rfl sz23 rfl rfl) rfl rfl (by kernel_rfl) (by kernel_rfl) (by kernel_rfl) fun a hF=>e_one 12 (by kernel_rfl) ?_
     have hSo:=hS
     refine e_store (vs:=[s26.v]) (cs':=[s14.v,s26.v]) 2 0 hF hS rfl rfl sz23 rfl rfl rfl rfl rfl rfl rfl rfl fun a w hF hS=>⟨kpC hSo hS 5 5 rfl rfl kpN,?_⟩
     refine e_end (by kernel_rfl) (n_ib (n_sq ?_)) _
     refine q_region (q_x (v:=(iV (w64 (t_16 + 1)))) hF hS (ex_ibin rfl rfl rfl) rfl rfl fun a hF=>q_x (v:=(iV (w64 (t_16 + 1)))) hF hS (ex_move rfl) rfl rfl fun a hF=>q_end ?_)
     obtain rfl:=someI hb5
     exact ⟨rfl,q26,s26,_,_,rfl,hF.sub ⟨rfl,rfl,rfl,rfl,rfl,rfl,trivial⟩,hS.mask [true,false,true,true,true,true],h18,h18k,h26⟩
   ·rintro e a w ⟨q29,s29,rfl,hF,hS,h28,h28k,h29⟩
    refine x_ib (n_sq ?_)
    refine q_seq (q_region (q_x (v:=(.agg #[s14.v,s29.v])) hF hS (ex_loadA (vs:=[s14.v,s29.v]) 2 0 underlying33 rfl sz33 rfl rfl rfl rfl) rfl rfl fun a hF=>?_))
    obtain ⟨m30,hm30,hS,hz30⟩:=hS.freeze
    have h30:=h28.froz hm30.le hz30
    obtain ⟨m31,hm31,hS,hz31⟩:=hS.freeze
    have h31:=(h29.mono hm30.le).froz hm31.le hz31
    obtain ⟨t_32,ht_32,hr⟩:=bindS hr
    refine q_call (vs:=[(.agg #[s14.v,s29.v])]) hF hS func28 (by kernel_rfl) rfl rfl rfl (c_spec_cbIf out_27 t_32 ht_32 _ m31 hS.vis s14 (h30.mono hm31.le) s29 h31) ?_
    have hT:=hS
    rintro a w _ ⟨m33,s34,s35,rfl,hm33,hR33,h34,h35⟩ hF hS2
    have hS:St _ _ _ _ [[⟨b15,[s14.v,s29.v],33⟩],[⟨b7,[nilS.v,nilS.v],33⟩]]:=hS.join hR33 hm33
    have hm33:=MLe.weakX (O0:=[]) hT hm33
    refine q_x (v:=(.agg #[s34.v,s35.v])) hF hS (ex_extract rfl rfl) rfl rfl fun a hF=>q_x (v:=(.bool t_32.2)) hF hS (ex_extract rfl rfl) rfl rfl fun a hF=>q_store (vs:=[s34.v,s35.v]) (cs':=[s34.v,s35.v]) 1 0 hF hS sz33 rfl rfl rfl rfl rfl rfl rfl rfl fun a w hF hS=>q_x (v:=(.bool t_32.2)) hF hS (ex_assign rfl) rfl rfl fun a hF=>q_end (n_sq (q_ret ?_))
    obtain rfl:=someI hr
    exact ret_of hF hS rfl (.cellA (us:=[s34.v,s35.v]) 1 0 underlying33 rfl sz33 rfl rfl rfl rfl (.tmp rfl .nil)) ⟨m33,s34,s35,rfl,((hm30.trans hm31).trans hm33),hS.sel [] (by decide),h34,h35⟩
  ·have hr:=cond_t hc4 hr
   refine q_cond_t hF rfl hc4 (q_seq (q_region (q_x (v:=(.agg #[nilS.v,nilS.v])) hF hS (ex_build (cells:=[nilS.v,nilS.v]) rfl (by kernel_rfl)) rfl rfl fun a hF=>q_store (vs:=[nilS.v,nilS.v]) (cs':=[nilS.v,nilS.v]) 0 0 hF hS sz33 rfl rfl rfl rfl rfl rfl rfl rfl fun a w hF hS=>q_x (v:=(.bool false)) hF hS (ex_assign rfl) rfl rfl fun a hF=>q_end (n_sq (q_ret (r_sq ?_))))))
   obtain rfl:=someI hr
   exact ret_of hF hS rfl (.cellA (us:=[nilS.v,nilS.v]) 0 0 underlying33 rfl sz33 rfl rfl rfl rfl (.tmp rfl .nil)) ⟨m,nilS,nilS,rfl,(MLe.refl _ _),hS.sel [] (by decide),(Rd.nil0 (α:=Int) m),(Rd.nil0 (α:=Int) m)⟩

theorem c_laws_qInts (p_a:List Int) (p_b:List Int) (r:Bool) (hr:laws_qInts p_a p_b=some r) (w0:World) (m:Mem) (hv:Vis m w0) (s1:Sl) (h1:Rd m s1 p_a) (s2:Sl) (h2:Rd m s2 p_b) :
  Ret prog 13 [s1.v,s2.v] w0 (fun v _=>v=(.bool r)):=by
 unfold laws_qInts at hr
 refine ret_start func13 rfl 26 rfl rfl m hv fun a hF hS=>q_seq (q_region (q_x (v:=(.bool false)) hF hS (ex_assign rfl) rfl rfl fun a hF=>q_end (n_sq (q_seq (q_seq (q_region (q_x (v:=s1.v) hF hS (ex_move rfl) rfl rfl fun a hF=>q_x (v:=(iV (goLen p_a))) hF hS (ex_len underlying23 rfl h1.len) rfl rfl fun a hF=>q_x (v:=s2.v) hF hS (ex_move rfl) rfl rfl fun a hF=>q_x (v:=(iV (goLen p_b))) hF hS (ex_len underlying23 rfl h2.len) rfl rfl fun a hF=>q_x (v:=(.bool ((goLen p_a) != (goLen p_b)))) hF hS (ex_ibin rfl rfl rfl) rfl rfl fun a hF=>q_end (n_sq ?_))))))))
 rcases bcase ((goLen p_a) != (goLen p_b)) with hc1 | hc1
 ·have hr:=cond_f hc1 hr
  refine q_cond_f hF rfl hc1 (q_skipc (n_sq (q_seq (q_seq (q_region (q_x (v:=s1.v) hF hS (ex_move rfl) rfl rfl fun a hF=>q_x (v:=(iV (goLen p_a))) hF hS (ex_len underlying23 rfl h1.len) rfl rfl fun a hF=>q_x (v:=(iV 0)) hF hS (ex_move rfl) rfl rfl fun a hF=>q_end (n_sq (q_block ?_))))))))
  obtain ⟨o2,hl2,hr⟩:=bindS hr
  refine q_loop (fun (t_3:Int) a w=>Fr a 26 [(0,s1.v),(1,s2.v),(12,(iV (goLen p_a))),(13,(iV t_3))]∧St [] w0 w m []) (fun (o:(Unit) ⊕ (Bool)) e a w=>o=.inl ()∧e=.exit 0∧Fr a 26 []∧St [] w0 w m []) hl2 ⟨hF.sub ⟨rfl,rfl,rfl,rfl,trivial⟩,hS⟩ ?_ ?_
  ·clear hF hS
   rintro t_3 a w st ⟨hF,hS⟩ hb2
   unfold laws_qInts_l1 at hb2
   refine q_seq (q_region (q_x (v:=(.bool (decide (t_3<(goLen p_a))))) hF hS (ex_ibin rfl rfl rfl) rfl rfl fun a hF=>q_end (n_sq (q_seq ?_))))
   rcases bcase (decide (t_3<(goLen p_a))) with hc3 | hc3
   ·have hb2:=cond_f hc3 hb2
    refine q_cond_f hF rfl hc3 (q_exit (x_sq ?_))
    obtain rfl:=someI hb2
    exact ⟨nofun,.inl ⟨rfl,rfl,hF.sub trivial,hS⟩⟩
   ·have hb2:=cond_t hc3 hb2
    refine q_cond_t hF rfl hc3 (q_skipc (n_sq (q_seq (q_block (q_seq (q_region (q_x (v:=(iV t_3)) hF hS (ex_move rfl) rfl rfl fun a hF=>q_x (v:=(iV t_3)) hF hS (ex_assign rfl) rfl rfl fun a hF=>q_end (n_sq (q_seq (e_region ⟨[],[]⟩ mixed fun w' hw'=>?_))))))))))
    have hS:=hS.below hw'
    refine e_p (v:=s1.v) 0 hF rfl (ex_move rfl) rfl rfl (by kernel_rfl) (by kernel_rfl) (by kernel_rfl) fun a hF=>e_p (v:=(iV t_3)) 1 hF rfl (ex_move rfl) rfl rfl (by kernel_rfl) (by kernel_rfl) (by kernel_rfl) fun a hF=>?_
    obtain ⟨e_4,he_4,hb2⟩:=bindS hb2
    obtain ⟨vs5,at5,d5⟩:=h1.at he_4 1 rfl
    obtain rfl:vs5=[(iV e_4)]:=d5
    refine e_p (v:=(elP s1 (t_3.toNat * 1))) 2 hF rfl (ex_indexAddr underlying23 sz3 rfl rfl (h1.idx he_4)) rfl rfl (by kernel_rfl) (by kernel_rfl) (by kernel_rfl) fun a hF=>e_x (v:=(iV e_4)) 3 hF hS rfl (ex_loadE1 0 underlying3 rfl rfl ((at5).at) rfl rfl) rfl rfl (by kernel_rfl) (by kernel_rfl) (by kernel_rfl) (by kernel_rfl) fun a hF=>e_p (v:=s2.v) 4 hF rfl (ex_move rfl) rfl rfl (by kernel_rfl) (by kernel_rfl) (by kernel_rfl) fun a hF=>e_p (v:=(iV t_3)) 5 hF rfl (ex_move rfl) rfl rfl (by kernel_rfl) (by kernel_rfl) (by kernel_rfl) fun a hF=>?_
    obtain ⟨e_6,he_6,hb2⟩:=bindS hb2
    obtain ⟨vs7,at7,d7⟩:=h2.at he_6 1 rfl
    obtain rfl:vs7=[(iV e_6)]:=d7
    refine e_p (v:=(elP s2 (t_3.toNat * 1))) 6 hF rfl (ex_indexAddr underlying23 sz3 rfl rfl (h2.idx he_6)) rfl rfl (by kernel_rfl) (by kernel_rfl) (by kernel_rfl) fun a hF=>e_x (v:=(iV e_6)) 7 hF hS rfl (ex_loadE1 0 underlying3 rfl rfl ((at7).at) rfl rfl) rfl rfl (by kernel_rfl) (by kernel_rfl) (by kernel_rfl) (by kernel_rfl) fun a hF=>e_p (v:=(.bool (e_4 != e_6))) 8 hF rfl (ex_ibin rfl rfl rfl) rfl rfl (by kernel_rfl) (by kernel_rfl) (by kernel_rfl) fun a hF=>e_end (by kernel_rfl) (n_sq ?_) _
    rcases bcase (e_4 != e_6) with hc4 | hc4
    ·have hb2:=cond_f hc4 hb2
     refine q_cond_f hF rfl hc4 (q_skipc (n_ib (n_sq (q_region (q_x (v:=(iV (w64 (t_3 + 1)))) hF hS (ex_ibin rfl rfl rfl) rfl rfl fun a hF=>q_x (v:=(iV (w64 (t_3 + 1)))) hF hS (ex_move rfl) rfl rfl fun a hF=>q_end ?_)))))
     obtain rfl:=someI hb2
     exact ⟨rfl,hF.sub ⟨rfl,rfl,rfl,rfl,trivial⟩,hS⟩
    ·have hb2:=cond_t hc4 hb2
     refine q_cond_t hF rfl hc4 (q_seq (q_region (q_x (v:=(.bool false)) hF hS (ex_assign rfl) rfl rfl fun a hF=>q_end (n_sq (q_ret (r_ib (r_sq ?_)))))))
     obtain rfl:=someI hb2
     refine ⟨nofun,.inr fun ho=>?_⟩
     subst ho
     refine r_ib (r_sq ?_)
     obtain rfl:=someI hr
     exact ret_of hF hS rfl (.tmp rfl .nil) rfl
  ·rintro e a w ⟨rfl,rfl,hF,hS⟩
   refine x_ib (n_sq ?_)
   refine q_seq (q_region (q_x (v:=(.bool true)) hF hS (ex_assign rfl) rfl rfl fun a hF=>q_end (n_sq (q_ret ?_))))
   obtain rfl:=someI hr
   exact ret_of hF hS rfl (.tmp rfl .nil) rfl
 ·have hr:=cond_t hc1 hr
  refine q_cond_t hF rfl hc1 (q_seq (q_region (q_x (v:=(.bool false)) hF hS (ex_assign rfl) rfl rfl fun a hF=>q_end (n_sq (q_ret (r_sq ?_))))))
  obtain rfl:=someI hr
  exact ret_of hF hS rfl (.tmp rfl .nil) rfl

theorem c_laws_qLists (p_a:List (List Int)) (p_b:List (List Int)) (r:Bool) (hr:laws_qLists p_a p_b=some r) (w0:World) (m:Mem) (hv:Vis m w0) (s1:Sl) (h1:Rd m s1 p_a) (s2:Sl) (h2:Rd m s2 p_b) :
  Ret prog 14 [s1.v,s2.v] w0 (fun v _=>v=(.bool r)):=by
 unfold laws_qLists at hr
 refine ret_start func14 rfl 27 rfl rfl m hv fun a hF hS=>q_seq (q_region (q_x (v:=(.bool false)) hF hS (ex_assign rfl) rfl rfl fun a hF=>q_end (n_sq (q_seq (q_seq (q_region (q_x (v:=s1.v) hF hS (ex_move rfl) rfl rfl fun a hF=>q_x (v:=(iV (goLen p_a))) hF hS (ex_len underlying38 rfl h1.len) rfl rfl fun a hF=>q_x (v:=s2.v) hF hS (ex_move rfl) rfl rfl fun a hF=>q_x (v:=(iV (goLen p_b))) hF hS (ex_len underlying38 rfl h2.len) rfl rfl fun a hF=>q_x (v:=(.bool ((goLen p_a) != (goLen p_b)))) hF hS (ex_ibin rfl rfl rfl) rfl rfl fun a hF=>q_end (n_sq ?_))))))))
 rcases bcase ((goLen p_a) != (goLen p_b)) with hc1 | hc1
 ·have hr:=cond_f hc1 hr
  refine q_cond_f hF rfl hc1 (q_skipc (n_sq (q_seq (q_seq (q_region (q_x (v:=s1.v) hF hS (ex_move rfl) rfl rfl fun a hF=>q_x (v:=(iV (goLen p_a))) hF hS (ex_len underlying38 rfl h1.len) rfl rfl fun a hF=>q_x (v:=(iV 0)) hF hS (ex_move rfl) rfl rfl fun a hF=>q_end (n_sq (q_block ?_))))))))
  obtain ⟨o2,hl2,hr⟩:=bindS hr
  refine q_loop (fun (t_3:Int) a w=>Fr a 27 [(0,s1.v),(1,s2.v),(12,(iV (goLen p_a))),(13,(iV t_3))]∧St [] w0 w m []) (fun (o:(Unit) ⊕ (Bool)) e a w=>o=.inl ()∧e=.exit 0∧Fr a 27 []∧St [] w0 w m []) hl2 ⟨hF.sub ⟨rfl,rfl,rfl,rfl,trivial⟩,hS⟩ ?_ ?_
  ·clear hF hS
   rintro t_3 a w st ⟨hF,hS⟩ hb2
   unfold laws_qLists_l1 at hb2
   refine q_seq (q_region (q_x (v:=(.bool (decide (t_3<(goLen p_a))))) hF hS (ex_ibin rfl rfl rfl) rfl rfl fun a hF=>q_end (n_sq (q_seq ?_))))
   rcases bcase (decide (t_3<(goLen p_a))) with hc3 | hc3
   ·have hb2:=cond_f hc3 hb2
    refine q_cond_f hF rfl hc3 (q_exit (x_sq ?_))
    obtain rfl:=someI hb2
    exact ⟨nofun,.inl ⟨rfl,rfl,hF.sub trivial,hS⟩⟩
   ·have hb2:=cond_t hc3 hb2
    refine q_cond_t hF rfl hc3 (q_skipc (n_sq (q_seq (q_block (q_seq (q_region (q_x (v:=(iV t_3)) hF hS (ex_move rfl) rfl rfl fun a hF=>q_x (v:=(iV t_3)) hF hS (ex_assign rfl) rfl rfl fun a hF=>q_end (n_sq (q_seq (e_region ⟨[],[]⟩ mixed fun w' hw'=>?_))))))))))
    have hS:=hS.below hw'
    refine e_p (v:=s1.v) 0 hF rfl (ex_move rfl) rfl rfl (by kernel_rfl) (by kernel_rfl) (by kernel_rfl) fun a hF=>e_p (v:=(iV t_3)) 1 hF rfl (ex_move rfl) rfl rfl (by kernel_rfl) (by kernel_rfl) (by kernel_rfl) fun a hF=>?_
    obtain ⟨e_4,he_4,hb2⟩:=bindS hb2
    obtain ⟨vs5,at5,d5⟩:=h1.at he_4 1 rfl
    obtain ⟨s6,rfl,h6⟩:∃ s6:Sl,vs5=[s6.v]∧Rd m s6 e_4:=d5
    refine e_p (v:=(elP s1 (t_3.toNat * 1))) 2 hF rfl (ex_indexAddr underlying38 sz23 rfl rfl (h1.idx he_4)) rfl rfl (by kernel_rfl) (by kernel_rfl) (by kernel_rfl) fun a hF=>e_x (v:=s6.v) 3 hF hS rfl (ex_loadE1 0 underlying23 rfl rfl ((at5).at) rfl rfl) rfl rfl (by kernel_rfl) (by kernel_rfl) (by kernel_rfl) (by kernel_rfl) fun a hF=>e_p (v:=s2.v) 4 hF rfl (ex_move rfl) rfl rfl (by kernel_rfl) (by kernel_rfl) (by kernel_rfl) fun a hF=>e_p (v:=(iV t_3)) 5 hF rfl (ex_move rfl) rfl rfl (by kernel_rfl) (by kernel_rfl) (by kernel_rfl) fun a hF=>?_
    obtain ⟨e_7,he_7,hb2⟩:=bindS hb2
    obtain ⟨vs8,at8,d8⟩:=h2.at he_7 1 rfl
    obtain ⟨s9,rfl,h9⟩:∃ s9:Sl,vs8=[s9.v]∧Rd m s9 e_7:=d8
    refine e_p (v:=(elP s2 (t_3.toNat * 1))) 6 hF rfl (ex_indexAddr underlying38 sz23 rfl rfl (h2.idx he_7)) rfl rfl (by kernel_rfl) (by kernel_rfl) (by kernel_rfl) fun a hF=>e_x (v:=s9.v) 7 hF hS rfl (ex_loadE1 0 underlying23 rfl rfl ((at8).at) rfl rfl) rfl rfl (by kernel_rfl) (by kernel_rfl) (by kernel_rfl) (by kernel_rfl) fun a hF=>e_one 8 (by kernel_rfl) ?_
    obtain ⟨t_10,ht_10,hb2⟩:=bindS hb2
    refine e_call (vs:=[s6.v,s9.v]) hF hS rfl func13 (by kernel_rfl) rfl rfl rfl (c_laws_qInts e_4 e_7 t_10 ht_10 _ m hS.vis s6 h6 s9 h9) ?_
    rintro a w _ rfl hF hS
    refine e_p (v:=(.bool (!t_10))) 9 hF rfl (ex_not rfl) rfl rfl (by kernel_rfl) (by kernel_rfl) (by kernel_rfl) fun a hF=>e_end (by kernel_rfl) (n_sq ?_) _
    rcases bcase (!t_10) with hc4 | hc4
    ·have hb2:=cond_f hc4 hb2
     refine q_cond_f hF rfl hc4 (q_skipc (n_ib (n_sq (q_region (q_x (v:=(iV (w64 (t_3 + 1)))) hF hS (ex_ibin rfl rfl rfl) rfl rfl fun a hF=>q_x (v:=(iV (w64 (t_3 + 1)))) hF hS (ex_move rfl) rfl rfl fun a hF=>q_end ?_)))))
     obtain rfl:=someI hb2
     exact ⟨rfl,hF.sub ⟨rfl,rfl,rfl,rfl,trivial⟩,hS⟩
    ·have hb2:=cond_t hc4 hb2
     refine q_cond_t hF rfl hc4 (q_seq (q_region (q_x (v:=(.bool false)) hF hS (ex_assign rfl) rfl rfl fun a hF=>q_end (n_sq (q_ret (r_ib (r_sq ?_)))))))
     obtain rfl:=someI hb2
     refine ⟨nofun,.inr fun ho=>?_⟩
     subst ho
     refine r_ib (r_sq ?_)
     obtain rfl:=someI hr
     exact ret_of hF hS rfl (.tmp rfl .nil) rfl
  ·rintro e a w ⟨rfl,rfl,hF,hS⟩
   refine x_ib (n_sq ?_)
   refine q_seq (q_region (q_x (v:=(.bool true)) hF hS (ex_assign rfl) rfl rfl fun a hF=>q_end (n_sq (q_ret ?_))))
   obtain rfl:=someI hr
   exact ret_of hF hS rfl (.tmp rfl .nil) rfl
 ·have hr:=cond_t hc1 hr
  refine q_cond_t hF rfl hc1 (q_seq (q_region (q_x (v:=(.bool false)) hF hS (ex_assign rfl) rfl rfl fun a hF=>q_end (n_sq (q_ret (r_sq ?_))))))
  obtain rfl:=someI hr
  exact ret_of hF hS rfl (.tmp rfl .nil) rfl

theorem c_impl_baseOf (p_c:impl_Cube) (r:(List Int)) (hr:impl_baseOf p_c=some r) (w0:World) (m:Mem) (hv:Vis m w0) (s1:Sl) (h1:Rd m s1 p_c.Sizes) (s2:Sl) (h2:Rd m s2 p_c.Cells) :
  Ret prog 50 [(.agg #[s1.v,s2.v])] w0 (fun v w=>∃ (q0':Piece) (s0':Sl),v=s0'.v∧St [] w0 w m [q0']∧OwnL m 3 q0' s0' r):=by
 unfold impl_baseOf at hr
 refine ret_start func50 rfl 27 rfl rfl m hv fun a hF hS=>q_seq (q_region (q_box (cs:=[s1.v,s2.v]) hF hS rfl rfl rfl fun a w b3 hF hS=>q_x (v:=nilS.v) hF hS (ex_assign rfl) rfl rfl fun a hF=>q_end (n_sq (q_seq (q_region (q_x (v:=nilS.v) hF hS (ex_assign rfl) rfl rfl fun a hF=>q_end (n_sq (q_seq (q_seq (q_region (q_x (v:=(.pointer (some ⟨b3,1,none⟩))) hF hS (ex_fieldAddr underlying33 rfl sz23 rfl rfl) rfl rfl fun a hF=>q_x (v:=s2.v) hF hS (ex_load1 0 0 underlying23 rfl rfl rfl rfl) rfl rfl fun a hF=>q_x (v:=(iV (goLen p_c.Cells))) hF hS (ex_len underlying23 rfl h2.len) rfl rfl fun a hF=>q_x (v:=(iV 0)) hF hS (ex_move rfl) rfl rfl fun a hF=>q_end (n_sq (q_block ?_)))))))))))))
 obtain ⟨base_19,hl1,hr⟩:=bindS hr
 refine q_loop (fun (s:(List Int) × Int) a w=>∃ (q5:Piece),∃ (s5:Sl),∃ base_4,∃ t_6,s=(base_4,t_6)∧Fr a 27 [(1,(.pointer (some ⟨b3,0,none⟩))),(3,s5.v),(7,s2.v),(8,(iV (goLen p_c.Cells))),(9,(iV t_6))]∧St [] w0 w m [q5,[⟨b3,[s1.v,s2.v],33⟩]]∧OwnL m 3 q5 s5 base_4) (fun (base_19:(List Int)) e a w=>∃ (q20:Piece),∃ (s20:Sl),e=.exit 0∧Fr a 27 [(3,s20.v)]∧St [] w0 w m [q20]∧OwnL m 3 q20 s20 base_19) hl1 ⟨[],nilS,_,_,rfl,hF.sub ⟨rfl,rfl,rfl,rfl,rfl,trivial⟩,hS.sel [1,0] (by decide),(OwnL.nil (α:=Int) m 3)⟩ ?_ ?_
 ·clear hF hS
  rintro s a w st ⟨q5,s5,base_4,t_6,rfl,hF,hS,h5⟩ hb1
  unfold impl_baseOf_l1 at hb1
  refine q_seq (q_region (q_x (v:=(.bool (decide (t_6<(goLen p_c.Cells))))) hF hS (ex_ibin rfl rfl rfl) rfl rfl fun a hF=>q_end (n_sq (q_seq ?_))))
  rcases bcase (decide (t_6<(goLen p_c.Cells))) with hc2 | hc2
  ·have hb1:=cond_f hc2 hb1
   refine q_cond_f hF rfl hc2 (q_exit (x_sq ?_))
   obtain rfl:=someI hb1
   exact ⟨nofun,.inl ⟨q5,s5,rfl,hF.sub ⟨rfl,trivial⟩,hS.mask [true,false],h5⟩⟩
  ·have hb1:=cond_t hc2 hb1
   refine q_cond_t hF rfl hc2 (q_skipc (n_sq (q_seq (q_block (q_seq (q_region (q_x (v:=(iV t_6)) hF hS (ex_move rfl) rfl rfl fun a hF=>?_)))))))
   obtain ⟨e_7,he_7,hb1⟩:=bindS hb1
   obtain ⟨vs8,at8,d8⟩:=h2.at he_7 1 rfl
   obtain rfl:vs8=[(iV e_7)]:=d8
   refine q_x (v:=(elP s2 (t_6.toNat * 1))) hF hS (ex_indexAddr underlying23 sz3 rfl rfl (h2.idx he_7)) rfl rfl fun a hF=>q_x (v:=(iV e_7)) hF hS (ex_loadE1 0 underlying3 rfl rfl ((at8).at) rfl rfl) rfl rfl fun a hF=>q_x (v:=(iV t_6)) hF hS (ex_assign rfl) rfl rfl fun a hF=>q_x (v:=(iV e_7)) hF hS (ex_assign rfl) rfl rfl fun a hF=>q_end (n_sq (q_seq (e_region ⟨[],[]⟩ mixed fun w' hw'=>?_)))
   have hS:=hS.below hw'
   refine e_p (v:=(.pointer (some ⟨b3,0,none⟩))) 0 hF rfl (ex_fieldAddr underlying33 rfl sz23 rfl rfl) rfl rfl (by kernel_rfl) (by kernel_rfl) (by kernel_rfl) fun a hF=>e_x (v:=s1.v) 1 hF hS rfl (ex_load1 1 0 underlying23 rfl rfl rfl rfl) rfl rfl (by kernel_rfl) (by kernel_rfl) (by kernel_rfl) (by kernel_rfl) fun a hF=>e_p (v:=(.pointer (some ⟨b3,0,none⟩))) 2 hF rfl (ex_fieldAddr underlying33 rfl sz23 rfl rfl) rfl rfl (by kernel_rfl) (by kernel_rfl) (by kernel_rfl) fun a hF=>e_x (v:=s1.v) 3 hF hS rfl (ex_load1 1 0 underlying23 rfl rfl rfl rfl) rfl rfl (by kernel_rfl) (by kernel_rfl) (by kernel_rfl) (by kernel_rfl) fun a hF=>e_p (v:=(iV t_6)) 4 hF rfl (ex_move rfl) rfl rfl (by kernel_rfl) (by kernel_rfl) (by kernel_rfl) fun a hF=>e_one 5 (by kernel_rfl) ?_
   obtain ⟨t_9,ht_9,hb1⟩:=bindS hb1
   refine e_call (vs:=[s1.v,(iV t_6)]) hF hS rfl func37 (by kernel_rfl) rfl rfl rfl (c_impl_indexOf p_c.Sizes t_6 t_9 ht_9 _ m hS.vis s1 h1) ?_
   rintro a w _ ⟨q11,s11,rfl,hR10,h11⟩ hF hS2
   have hS:St _ _ _ _ [q11,q5,[⟨b3,[s1.v,s2.v],33⟩]]:=hS.joinF hR10
   refine e_one 6 (by kernel_rfl) ?_
   obtain ⟨m13,hl13,hv13,hz13⟩:=hS.lend
   obtain ⟨t_12,ht_12,hb1⟩:=bindS hb1
   refine e_call (vs:=[s1.v,s11.v]) hF hS rfl func84 (by kernel_rfl) rfl rfl rfl (c_impl_isBase p_c.Sizes t_9 t_12 ht_12 _ m13 hv13 s1 (h1.mono hl13) s11 (h11.froz hl13 (hz13 0 _ rfl))) ?_
   rintro a w _ rfl hF hS
   refine e_end (by kernel_rfl) (n_sq ?_) _
   obtain ⟨base_17,hj3,hb1⟩:=bindS hb1
   refine q_join (fun a w=>∃ (q18:Piece),∃ (s18:Sl),Fr a 27 [(1,(.pointer (some ⟨b3,0,none⟩))),(3,s18.v),(7,s2.v),(8,(iV (goLen p_c.Cells))),(9,(iV t_6))]∧St [] w0 w m [q18,[⟨b3,[s1.v,s2.v],33⟩]]∧OwnL m 3 q18 s18 base_17) ?_ ?_
   ·rcases bcase (t_12) with hc4 | hc4
    ·have hj3:=cond_f hc4 hj3
     refine q_cond_f hF rfl hc4 (q_skipc (n_jn ?_))
     obtain rfl:=someI hj3
     exact ⟨q5,s5,hF.sub ⟨rfl,rfl,rfl,rfl,rfl,trivial⟩,hS.mask [false,true,true],h5⟩
    ·have hj3:=cond_t hc4 hj3
     refine q_cond_t hF rfl hc4 (q_region (q_x (v:=s5.v) hF hS (ex_move rfl) rfl rfl fun a hF=>q_x (v:=(iV e_7)) hF hS (ex_move rfl) rfl rfl fun a hF=>q_do rfl fun _ hK=>wp_buildSlice' (l:=([e_7]:List Int)) (cells:=[(iV e_7)]) hF hS underlying23 inf3 rfl rfl (by kernel_rfl) rfl rfl rfl ⟨rfl,rfl⟩ rfl rfl fun a w q14 s14 hF hS h14 _=>hK _ _ ?_))
     have hS:St _ _ _ _ [q5,q14,q11,[⟨b3,[s1.v,s2.v],33⟩]]:=hS.sel [2,0,1,3] (by decide)
     obtain ⟨l_15,hl_15,hj3⟩:=bindS hj3
     refine q_do rfl fun _ hK=>wp_append hF hS h5 underlying23 inf3 rfl rfl rfl rfl (h14.vw hS (j:=1) rfl) rfl (by decide) hl_15 rfl fun a w q16 s16 hF hS h16=>hK _ _ (q_x (v:=s16.v) hF hS (ex_assign rfl) rfl rfl fun a hF=>q_end (n_jn ?_))
     obtain rfl:=someI hj3
     exact ⟨q16,s16,hF.sub ⟨rfl,rfl,rfl,rfl,rfl,trivial⟩,hS.mask [true,false,false,true],h16⟩
   ·rintro a w ⟨q18,s18,hF,hS,h18⟩
    refine n_ib (n_sq ?_)
    refine q_region (q_x (v:=(iV (w64 (t_6 + 1)))) hF hS (ex_ibin rfl rfl rfl) rfl rfl fun a hF=>q_x (v:=(iV (w64 (t_6 + 1)))) hF hS (ex_move rfl) rfl rfl fun a hF=>q_end ?_)
    obtain rfl:=someI hb1
    exact ⟨rfl,q18,s18,_,_,rfl,hF.sub ⟨rfl,rfl,rfl,rfl,rfl,trivial⟩,hS,h18⟩
 ·rintro e a w ⟨q20,s20,rfl,hF,hS,h20⟩
  refine x_ib (n_sq ?_)
  refine q_seq (q_region (q_x (v:=s20.v) hF hS (ex_move rfl) rfl rfl fun a hF=>q_x (v:=s20.v) hF hS (ex_assign rfl) rfl rfl fun a hF=>q_end (n_sq (q_ret ?_))))
  obtain rfl:=someI hr
  exact ret_of hF hS rfl (.tmp rfl .nil) ⟨q20,s20,rfl,hS.sel [0] (by decide),h20⟩

theorem c_impl_BaseOf (p_c:impl_Cube) (r:(List Int) × Bool) (hr:impl_BaseOf p_c=some r) (w0:World) (m:Mem) (hv:Vis m w0) (s1:Sl) (h1:Rd m s1 p_c.Sizes) (s2:Sl) (h2:Rd m s2 p_c.Cells) :
  Ret prog 15 [(.agg #[s1.v,s2.v])] w0 (fun v w=>∃ (q0':Piece) (s0':Sl),v=(.tuple #[s0'.v,(.bool r.2)])∧St [] w0 w m [q0']∧OwnL m 3 q0' s0' r.1):=by
 unfold impl_BaseOf at hr
 refine ret_start func15 rfl 9 rfl rfl m hv fun a hF hS=>q_seq (q_region (q_box (cs:=[s1.v,s2.v]) hF hS rfl rfl rfl fun a w b3 hF hS=>q_x (v:=nilS.v) hF hS (ex_assign rfl) rfl rfl fun a hF=>q_x (v:=(.bool false)) hF hS (ex_assign rfl) rfl rfl fun a hF=>q_end (n_sq (q_seq (q_seq (q_region (q_x (v:=(.agg #[s1.v,s2.v])) hF hS (ex_loadA (vs:=[s1.v,s2.v]) 0 0 underlying33 rfl sz33 rfl rfl rfl rfl) rfl rfl fun a hF=>?_)))))))
 obtain ⟨t_4,ht_4,hr⟩:=bindS hr
 refine q_call (vs:=[(.agg #[s1.v,s2.v])]) hF hS func43 (by kernel_rfl) rfl rfl rfl (c_impl_IsCube p_c t_4 ht_4 _ m hS.vis s1 h1 s2 h2) ?_
 rintro a w _ rfl hF hS
 refine q_x (v:=(.bool (!t_4))) hF hS (ex_not rfl) rfl rfl fun a hF=>q_end (n_sq ?_)
 rcases bcase (!t_4) with hc1 | hc1
 ·have hr:=cond_f hc1 hr
  refine q_cond_f hF rfl hc1 (q_skipc (n_sq (q_seq (q_region (q_x (v:=(.agg #[s1.v,s2.v])) hF hS (ex_loadA (vs:=[s1.v,s2.v]) 0 0 underlying33 rfl sz33 rfl rfl rfl rfl) rfl rfl fun a hF=>?_)))))
  obtain ⟨t_5,ht_5,hr⟩:=bindS hr
  refine q_call (vs:=[(.agg #[s1.v,s2.v])]) hF hS func50 (by kernel_rfl) rfl rfl rfl (c_impl_baseOf p_c t_5 ht_5 _ m hS.vis s1 h1 s2 h2) ?_
  rintro a w _ ⟨q7,s7,rfl,hR6,h7⟩ hF hS2
  have hS:St _ _ _ _ [q7,[⟨b3,[s1.v,s2.v],33⟩]]:=hS.joinF hR6
  refine q_x (v:=s7.v) hF hS (ex_assign rfl) rfl rfl fun a hF=>q_x (v:=(.bool true)) hF hS (ex_assign rfl) rfl rfl fun a hF=>q_end (n_sq (q_ret ?_))
  obtain rfl:=someI hr
  exact ret_of hF hS rfl (.tmp rfl (.tmp rfl .nil)) ⟨q7,s7,rfl,hS.sel [0] (by decide),h7⟩
 ·have hr:=cond_t hc1 hr
  refine q_cond_t hF rfl hc1 (q_seq (q_region (q_x (v:=nilS.v) hF hS (ex_assign rfl) rfl rfl fun a hF=>q_x (v:=(.bool false)) hF hS (ex_assign rfl) rfl rfl fun a hF=>q_end (n_sq (q_ret (r_sq ?_))))))
  obtain rfl:=someI hr
  exact ret_of hF hS rfl (.tmp rfl (.tmp rfl .nil)) ⟨[],nilS,rfl,hS.sel [1] (by decide),(OwnL.nil (α:=Int) m 3)⟩

end Go.Proofs.YtmlegfogjdhhkaaGreat
