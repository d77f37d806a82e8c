/- The walks of the functions: each returns what its plain function says. -/
import Derived.Test.YtmlegfogjdhhkaaGreatWalks2
namespace Go.Proofs.YtmlegfogjdhhkaaGreat
open Go.Gx Go.Gx.F Go.RowKit Go.Proofs.Tryz
set_option linter.all false
set_option maxRecDepth 10000


theorem c_impl_areCubeValues (p_cells:List Int) (r:Bool) (hr:impl_areCubeValues p_cells=some r) (w0:World) (m:Mem) (hv:Vis m w0) (s1:Sl) (h1:Rd m s1 p_cells) :
  Ret prog 46 [s1.v] w0 (fun v _=>v=(.bool r)):=by
 unfold impl_areCubeValues at hr
 refine ret_start func46 rfl 18 rfl rfl m hv fun a hF hS=>q_seq (q_region (q_x (v:=(.bool false)) hF hS (ex_assign rfl) rfl rfl fun a hF=>q_end (n_sq (q_seq (q_seq (q_region (q_x (v:=s1.v) hF hS (ex_move rfl) rfl rfl fun a hF=>q_x (v:=(iV (goLen p_cells))) hF hS (ex_len underlying23 rfl h1.len) rfl rfl fun a hF=>q_x (v:=(iV 0)) hF hS (ex_move rfl) rfl rfl fun a hF=>q_end (n_sq (q_block ?_)))))))))
 obtain ⟨o1,hl1,hr⟩:=bindS hr
 refine q_loop (fun (t_2:Int) a w=>Fr a 18 [(5,s1.v),(6,(iV (goLen p_cells))),(7,(iV t_2))]∧St [] w0 w m []) (fun (o:(Unit) ⊕ (Bool)) e a w=>o=.inl ()∧e=.exit 0∧Fr a 18 []∧St [] w0 w m []) hl1 ⟨hF.sub ⟨rfl,rfl,rfl,trivial⟩,hS⟩ ?_ ?_
 ·clear hF hS
  rintro t_2 a w st ⟨hF,hS⟩ hb1
  unfold impl_areCubeValues_l1 at hb1
  refine q_seq (q_region (q_x (v:=(.bool (decide (t_2<(goLen p_cells))))) hF hS (ex_ibin rfl rfl rfl) rfl rfl fun a hF=>q_end (n_sq (q_seq ?_))))
  rcases bcase (decide (t_2<(goLen p_cells))) with hc2 | hc2
  ·have hb1:=cond_f hc2 hb1
   refine q_cond_f hF rfl hc2 (q_exit (x_sq ?_))
   obtain rfl:=someI hb1
   exact ⟨nofun,.inl ⟨rfl,rfl,hF.sub trivial,hS⟩⟩
  ·have hb1:=cond_t hc2 hb1
   refine q_cond_t hF rfl hc2 (q_skipc (n_sq (q_seq (q_block (q_seq (q_region ?_))))))
   obtain ⟨e_3,he_3,hb1⟩:=bindS hb1
   obtain ⟨vs4,at4,d4⟩:=h1.at he_3 1 rfl
   obtain rfl:vs4=[(iV e_3)]:=d4
   refine q_x (v:=(elP s1 (t_2.toNat * 1))) hF hS (ex_indexAddr underlying23 sz3 rfl rfl (h1.idx he_3)) rfl rfl fun a hF=>q_x (v:=(iV e_3)) hF hS (ex_loadE1 0 underlying3 rfl rfl ((at4).at) rfl rfl) rfl rfl fun a hF=>q_x (v:=(iV e_3)) hF hS (ex_assign rfl) rfl rfl fun a hF=>q_end (n_sq (q_seq ?_))
   obtain ⟨t_5,hj3,hb1⟩:=bindS hb1
   refine q_join (fun a w=>Fr a 18 [(5,s1.v),(6,(iV (goLen p_cells))),(7,(iV t_2)),(16,(.bool t_5))]∧St [] w0 w m []) ?_ ?_
   ·refine q_region (q_x (v:=(iV e_3)) hF hS (ex_move rfl) rfl rfl fun a hF=>q_x (v:=(.bool (decide (e_3<(-1000000))))) hF hS (ex_ibin rfl rfl rfl) rfl rfl fun a hF=>q_x (v:=(.bool (decide (e_3<(-1000000))))) hF hS (ex_move rfl) rfl rfl fun a hF=>?_)
    rcases bcase (decide (e_3<(-1000000))) with hc4 | hc4
    ·have hj3:=cond_f hc4 hj3
     refine q_xg (v:=(iV e_3)) hF hS (ex_move rfl) (wanted_t hF rfl rfl rfl hc4) rfl fun a hF=>q_xg (v:=(.bool (decide (1000000<e_3)))) hF hS (ex_ibin rfl rfl rfl) (wanted_t hF rfl rfl rfl hc4) rfl fun a hF=>q_x (v:=(.bool (decide (1000000<e_3)))) hF hS (ex_pick_f rfl rfl hc4) rfl rfl fun a hF=>q_end (n_jn ?_)
     obtain rfl:=someI hj3
     exact ⟨hF.sub ⟨rfl,rfl,rfl,rfl,trivial⟩,hS⟩
    ·have hj3:=cond_t hc4 hj3
     refine q_skip hF (wanted_f hF rfl rfl rfl hc4 rfl) rfl fun a hF=>q_skip hF (wanted_f hF rfl rfl rfl hc4 rfl) rfl fun a hF=>q_x (v:=(.bool true)) hF hS (ex_pick_t rfl rfl hc4) rfl rfl fun a hF=>q_end (n_jn ?_)
     obtain rfl:=someI hj3
     exact ⟨hF.sub ⟨rfl,rfl,rfl,rfl,trivial⟩,hS⟩
   ·rintro a w ⟨hF,hS⟩
    refine n_sq ?_
    rcases bcase (t_5) with hc5 | hc5
    ·have hb1:=cond_f hc5 hb1
     refine q_cond_f hF rfl hc5 (q_skipc (n_ib (n_sq (q_region (q_x (v:=(iV (w64 (t_2 + 1)))) hF hS (ex_ibin rfl rfl rfl) rfl rfl fun a hF=>q_x (v:=(iV (w64 (t_2 + 1)))) hF hS (ex_move rfl) rfl rfl fun a hF=>q_end ?_)))))
     obtain rfl:=someI hb1
     exact ⟨rfl,hF.sub ⟨rfl,rfl,rfl,trivial⟩,hS⟩
    ·have hb1:=cond_t hc5 hb1
     refine q_cond_t hF rfl hc5 (q_seq (q_region (q_x (v:=(.bool false)) hF hS (ex_assign rfl) rfl rfl fun a hF=>q_end (n_sq (q_ret (r_ib (r_sq ?_)))))))
     obtain rfl:=someI hb1
     refine ⟨nofun,.inr fun ho=>?_⟩
     subst ho
     refine r_ib (r_sq ?_)
     obtain rfl:=someI hr
     exact ret_of hF hS rfl (.tmp rfl .nil) rfl
 ·rintro e a w ⟨rfl,rfl,hF,hS⟩
  refine x_ib (n_sq ?_)
  refine q_seq (q_region (q_x (v:=(.bool true)) hF hS (ex_assign rfl) rfl rfl fun a hF=>q_end (n_sq (q_ret ?_))))
  obtain rfl:=someI hr
  exact ret_of hF hS rfl (.tmp rfl .nil) rfl

theorem c_impl_cubeOf (p_sizes:List Int) (p_base:List Int) (r:impl_Cube × Bool) (hr:impl_cubeOf p_sizes p_base=some r) (w0:World) (m:Mem) (hv:Vis m w0) (s1:Sl) (h1:Rd m s1 p_sizes) (s2:Sl) (h2:Rd m s2 p_base) :
  Ret prog 60 [s1.v,s2.v] w0 (fun v w=>∃ (m':Mem) (q0':Piece) (q1':Piece) (s0':Sl) (s1':Sl),v=(.tuple #[(.agg #[s0'.v,s1'.v]),(.bool r.2)])∧MLe [] w0.heap.size m m'∧St [] w0 w m' [q0',q1']∧OwnL m' 3 q0' s0' r.1.Sizes∧OwnL m' 3 q1' s1' r.1.Cells):=by
 unfold impl_cubeOf at hr
 refine ret_start func60 rfl 138 rfl rfl m hv fun a hF hS=>q_seq (q_region (q_alloc (cs:=[nilS.v,nilS.v]) hF hS rfl rfl rfl fun a w b3 hF hS=>q_x (v:=(.bool false)) hF hS (ex_assign rfl) rfl rfl fun a hF=>q_end (n_sq (q_seq (q_region (q_x (v:=s1.v) hF hS (ex_move rfl) rfl rfl fun a hF=>?_))))))
 obtain ⟨t_4,ht_4,hr⟩:=bindS hr
 refine q_call (vs:=[s1.v]) hF hS func45 (by kernel_rfl) rfl rfl rfl (c_slices_Clone_int_int p_sizes t_4 ht_4 _ m hS.vis s1 h1) ?_
 rintro a w _ ⟨q6,s6,rfl,hR5,h6⟩ hF hS2
 have hS:St _ _ _ _ [q6,[⟨b3,[nilS.v,nilS.v],33⟩]]:=hS.joinF hR5
 refine q_x (v:=s1.v) hF hS (ex_move rfl) rfl rfl fun a hF=>?_
 obtain ⟨t_7,ht_7,hr⟩:=bindS hr
 refine q_call (vs:=[s1.v]) hF hS func35 (by kernel_rfl) rfl rfl rfl (c_impl_cubeCells p_sizes t_7 ht_7 _ m hS.vis s1 h1) ?_
 rintro a w _ rfl hF hS
 obtain ⟨l_8,hl_8,hr⟩:=bindS hr
 refine q_do rfl fun _ hK=>wp_make (z:=(0:Int)) hF hS underlying23 inf3 rfl rfl rfl rfl rfl (by decide) hl_8 rfl fun a w q9 s9 hF hS h9 _=>hK _ _ (q_x (v:=(.agg #[s6.v,s9.v])) hF hS (ex_build (cells:=[s6.v,s9.v]) rfl (by kernel_rfl)) rfl rfl fun a hF=>q_alloc (cs:=[nilS.v,nilS.v]) hF hS rfl rfl rfl fun a w b10 hF hS=>q_store (vs:=[s6.v,s9.v]) (cs':=[s6.v,s9.v]) 0 0 hF hS sz33 rfl rfl rfl rfl rfl rfl rfl rfl fun a w hF hS=>q_end (n_sq (q_seq (q_region (q_x (v:=(iV 0)) hF hS (ex_assign rfl) rfl rfl fun a hF=>q_end (n_sq (q_seq (q_seq (q_region (q_x (v:=(.pointer (some ⟨b10,1,none⟩))) hF hS (ex_fieldAddr underlying33 rfl sz23 rfl rfl) rfl rfl fun a hF=>q_x (v:=s9.v) hF hS (ex_load1 0 0 underlying23 rfl rfl rfl rfl) rfl rfl fun a hF=>q_x (v:=(iV (goLen l_8))) hF hS (ex_len underlying23 rfl h9.len) rfl rfl fun a hF=>q_x (v:=(iV 0)) hF hS (ex_move rfl) rfl rfl fun a hF=>q_end (n_sq (q_block ?_))))))))))))
 obtain ⟨n_19,hl1,hr⟩:=bindS hr
 refine q_loop (fun (s:Int × Int) a w=>∃ n_11,∃ t_12,s=(n_11,t_12)∧Fr a 138 [(0,s1.v),(1,s2.v),(4,(.pointer (some ⟨b3,0,none⟩))),(6,(.pointer (some ⟨b10,0,none⟩))),(7,(iV n_11)),(24,(iV (goLen l_8))),(25,(iV t_12))]∧St [] w0 w m [[⟨b10,[s6.v,s9.v],33⟩],q9,q6,[⟨b3,[nilS.v,nilS.v],33⟩]]) (fun (n_19:Int) e a w=>e=.exit 0∧Fr a 138 [(0,s1.v),(1,s2.v),(4,(.pointer (some ⟨b3,0,none⟩))),(6,(.pointer (some ⟨b10,0,none⟩))),(7,(iV n_19))]∧St [] w0 w m [q6,q9,[⟨b10,[s6.v,s9.v],33⟩],[⟨b3,[nilS.v,nilS.v],33⟩]]) hl1 ⟨_,_,rfl,hF.sub ⟨rfl,rfl,rfl,rfl,rfl,rfl,rfl,trivial⟩,hS⟩ ?_ ?_
 ·clear hF hS
  rintro s a w st ⟨n_11,t_12,rfl,hF,hS⟩ hb1
  unfold impl_cubeOf_l1 at hb1
  refine q_seq (q_region (q_x (v:=(.bool (decide (t_12<(goLen l_8))))) hF hS (ex_ibin rfl rfl rfl) rfl rfl fun a hF=>q_end (n_sq (q_seq ?_))))
  rcases bcase (decide (t_12<(goLen l_8))) with hc2 | hc2
  ·have hb1:=cond_f hc2 hb1
   refine q_cond_f hF rfl hc2 (q_exit (x_sq ?_))
   obtain rfl:=someI hb1
   exact ⟨nofun,.inl ⟨rfl,hF.sub ⟨rfl,rfl,rfl,rfl,rfl,trivial⟩,hS.sel [2,1,0,3] (by decide)⟩⟩
  ·have hb1:=cond_t hc2 hb1
   refine q_cond_t hF rfl hc2 (q_skipc (n_sq (q_seq (q_block (q_seq (q_region (q_x (v:=(iV t_12)) hF hS (ex_move rfl) rfl rfl fun a hF=>q_x (v:=(iV t_12)) hF hS (ex_assign rfl) rfl rfl fun a hF=>q_end (n_sq (q_seq (q_region (q_x (v:=s1.v) hF hS (ex_move rfl) rfl rfl fun a hF=>q_x (v:=s1.v) hF hS (ex_move rfl) rfl rfl fun a hF=>q_x (v:=(iV t_12)) hF hS (ex_move rfl) rfl rfl fun a hF=>?_)))))))))))
   obtain ⟨t_13,ht_13,hb1⟩:=bindS hb1
   refine q_call (vs:=[s1.v,(iV t_12)]) hF hS func37 (by kernel_rfl) rfl rfl rfl (c_impl_indexOf p_sizes t_12 t_13 ht_13 _ m hS.vis s1 h1) ?_
   rintro a w _ ⟨q15,s15,rfl,hR14,h15⟩ hF hS2
   have hS:St _ _ _ _ [q15,[⟨b10,[s6.v,s9.v],33⟩],q9,q6,[⟨b3,[nilS.v,nilS.v],33⟩]]:=hS.joinF hR14
   obtain ⟨m17,hl17,hv17,hz17⟩:=hS.lend
   obtain ⟨t_16,ht_16,hb1⟩:=bindS hb1
   refine q_call (vs:=[s1.v,s15.v]) hF hS func84 (by kernel_rfl) rfl rfl rfl (c_impl_isBase p_sizes t_13 t_16 ht_16 _ m17 hv17 s1 (h1.mono hl17) s15 (h15.froz hl17 (hz17 0 _ rfl))) ?_
   rintro a w _ rfl hF hS
   refine q_end (n_sq ?_)
   obtain ⟨n_18,hj3,hb1⟩:=bindS hb1
   refine q_join (fun a w=>Fr a 138 [(0,s1.v),(1,s2.v),(4,(.pointer (some ⟨b3,0,none⟩))),(6,(.pointer (some ⟨b10,0,none⟩))),(7,(iV n_18)),(24,(iV (goLen l_8))),(25,(iV t_12))]∧St [] w0 w m [q6,q9,[⟨b10,[s6.v,s9.v],33⟩],[⟨b3,[nilS.v,nilS.v],33⟩]]) ?_ ?_
   ·rcases bcase (t_16) with hc4 | hc4
    ·have hj3:=cond_f hc4 hj3
     refine q_cond_f hF rfl hc4 (q_skipc (n_jn ?_))
     obtain rfl:=someI hj3
     exact ⟨hF.sub ⟨rfl,rfl,rfl,rfl,rfl,rfl,rfl,trivial⟩,hS.sel [3,2,1,4] (by decide)⟩
    ·have hj3:=cond_t hc4 hj3
     refine q_cond_t hF rfl hc4 (q_region (q_x (v:=(iV n_11)) hF hS (ex_move rfl) rfl rfl fun a hF=>q_x (v:=(iV (w64 (n_11 + 1)))) hF hS (ex_ibin rfl rfl rfl) rfl rfl fun a hF=>q_x (v:=(iV (w64 (n_11 + 1)))) hF hS (ex_assign rfl) rfl rfl fun a hF=>q_end (n_jn ?_)))
     obtain rfl:=someI hj3
     exact ⟨hF.sub ⟨rfl,rfl,rfl,rfl,rfl,rfl,rfl,trivial⟩,hS.sel [3,2,1,4] (by decide)⟩
   ·rintro a w ⟨hF,hS⟩
    refine n_ib (n_sq ?_)
    refine q_region (q_x (v:=(iV (w64 (t_12 + 1)))) hF hS (ex_ibin rfl rfl rfl) rfl rfl fun a hF=>q_x (v:=(iV (w64 (t_12 + 1)))) hF hS (ex_move rfl) rfl rfl fun a hF=>q_end ?_)
    obtain rfl:=someI hb1
    exact ⟨rfl,_,_,rfl,hF.sub ⟨rfl,rfl,rfl,rfl,rfl,rfl,rfl,trivial⟩,hS.sel [2,1,0,3] (by decide)⟩
 ·rintro e a w ⟨rfl,hF,hS⟩
  refine x_ib (n_sq ?_)
  refine q_seq (q_seq ?_)
  obtain ⟨t_21,hj5,hr⟩:=bindS hr
  refine q_join (fun a w=>Fr a 138 [(0,s1.v),(1,s2.v),(4,(.pointer (some ⟨b3,0,none⟩))),(6,(.pointer (some ⟨b10,0,none⟩))),(44,(.bool t_21))]∧St [] w0 w m [q6,q9,[⟨b10,[s6.v,s9.v],33⟩],[⟨b3,[nilS.v,nilS.v],33⟩]]) ?_ ?_
  ·refine q_region (q_x (v:=(iV n_19)) hF hS (ex_move rfl) rfl rfl fun a hF=>q_x (v:=s2.v) hF hS (ex_move rfl) rfl rfl fun a hF=>q_x (v:=(iV (goLen p_base))) hF hS (ex_len underlying23 rfl h2.len) rfl rfl fun a hF=>q_x (v:=(.bool (n_19 != (goLen p_base)))) hF hS (ex_ibin rfl rfl rfl) rfl rfl fun a hF=>q_x (v:=(.bool (n_19 != (goLen p_base)))) hF hS (ex_move rfl) rfl rfl fun a hF=>?_)
   rcases bcase (n_19 != (goLen p_base)) with hc6 | hc6
   ·have hj5:=cond_f hc6 hj5
    refine q_xg (v:=s2.v) hF hS (ex_move rfl) (wanted_t hF rfl rfl rfl hc6) rfl fun a hF=>?_
    obtain ⟨t_20,ht_20,hj5⟩:=bindS hj5
    refine q_callg (vs:=[s2.v]) hF hS (wanted_t hF rfl rfl rfl hc6) func46 (by kernel_rfl) rfl rfl rfl (c_impl_areCubeValues p_base t_20 ht_20 _ m hS.vis s2 h2) ?_
    rintro a w _ rfl hF hS
    refine q_xg (v:=(.bool (!t_20))) hF hS (ex_not rfl) (wanted_t hF rfl rfl rfl hc6) rfl fun a hF=>q_x (v:=(.bool (!t_20))) hF hS (ex_pick_f rfl rfl hc6) rfl rfl fun a hF=>q_end (n_jn ?_)
    obtain rfl:=someI hj5
    exact ⟨hF.sub ⟨rfl,rfl,rfl,rfl,rfl,trivial⟩,hS⟩
   ·have hj5:=cond_t hc6 hj5
    refine q_skip hF (wanted_f hF rfl rfl rfl hc6 rfl) rfl fun a hF=>q_skip hF (wanted_f hF rfl rfl rfl hc6 rfl) rfl fun a hF=>q_skip hF (wanted_f hF rfl rfl rfl hc6 rfl) rfl fun a hF=>q_x (v:=(.bool true)) hF hS (ex_pick_t rfl rfl hc6) rfl rfl fun a hF=>q_end (n_jn ?_)
    obtain rfl:=someI hj5
    exact ⟨hF.sub ⟨rfl,rfl,rfl,rfl,rfl,trivial⟩,hS⟩
  ·rintro a w ⟨hF,hS⟩
   refine n_sq ?_
   rcases bcase (t_21) with hc7 | hc7
   ·have hr:=cond_f hc7 hr
    refine q_cond_f hF rfl hc7 (q_skipc (n_sq (q_seq (q_region (q_x (v:=(iV 0)) hF hS (ex_assign rfl) rfl rfl fun a hF=>q_end (n_sq (q_seq (q_seq (q_region (q_x (v:=(.pointer (some ⟨b10,1,none⟩))) hF hS (ex_fieldAddr underlying33 rfl sz23 rfl rfl) rfl rfl fun a hF=>q_x (v:=s9.v) hF hS (ex_load1 2 0 underlying23 rfl rfl rfl rfl) rfl rfl fun a hF=>q_x (v:=(iV (goLen l_8))) hF hS (ex_len underlying23 rfl h9.len) rfl rfl fun a hF=>q_x (v:=(iV 0)) hF hS (ex_move rfl) rfl rfl fun a hF=>q_end (n_sq (q_block ?_))))))))))))
    obtain ⟨c_41,hl8,hr⟩:=bindS hr
    refine q_loop (fun (s:Int × Int × impl_Cube) a w=>∃ (q26:Piece),∃ k_22,∃ t_23,∃ c_24,s=(k_22,t_23,c_24)∧Fr a 138 [(0,s1.v),(1,s2.v),(4,(.pointer (some ⟨b3,0,none⟩))),(6,(.pointer (some ⟨b10,0,none⟩))),(9,(iV k_22)),(48,(iV (goLen l_8))),(49,(iV t_23))]∧St [] w0 w m [q26,q6,[⟨b10,[s6.v,s9.v],33⟩],[⟨b3,[nilS.v,nilS.v],33⟩]]∧OwnL m 3 q6 s6 c_24.Sizes∧c_24.Sizes=t_4∧OwnL m 3 q26 s9 c_24.Cells) (fun (c_41:impl_Cube) e a w=>∃ (q43:Piece),e=.exit 2∧Fr a 138 [(0,s1.v),(4,(.pointer (some ⟨b3,0,none⟩))),(6,(.pointer (some ⟨b10,0,none⟩)))]∧St [] w0 w m [q6,q43,[⟨b10,[s6.v,s9.v],33⟩],[⟨b3,[nilS.v,nilS.v],33⟩]]∧OwnL m 3 q6 s6 c_41.Sizes∧c_41.Sizes=t_4∧OwnL m 3 q43 s9 c_41.Cells) hl8 ⟨q9,_,_,_,rfl,hF.sub ⟨rfl,rfl,rfl,rfl,rfl,rfl,rfl,trivial⟩,hS.sel [1,0,2,3] (by decide),h6,rfl,h9⟩ ?_ ?_
    ·clear hF hS
     rintro s a w st ⟨q26,k_22,t_23,c_24,rfl,hF,hS,h25,h25k,h26⟩ hb8
     unfold impl_cubeOf_l2 at hb8
     refine q_seq (q_region (q_x (v:=(.bool (decide (t_23<(goLen l_8))))) hF hS (ex_ibin rfl rfl rfl) rfl rfl fun a hF=>q_end (n_sq (q_seq ?_))))
     rcases bcase (decide (t_23<(goLen l_8))) with hc9 | hc9
     ·have hb8:=cond_f hc9 hb8
      refine q_cond_f hF rfl hc9 (q_exit (x_sq ?_))
      obtain rfl:=someI hb8
      exact ⟨nofun,.inl ⟨q26,rfl,hF.sub ⟨rfl,rfl,rfl,trivial⟩,hS.sel [1,0,2,3] (by decide),h25,h25k,h26⟩⟩
     ·have hb8:=cond_t hc9 hb8
      refine q_cond_t hF rfl hc9 (q_skipc (n_sq (q_seq (q_block (q_seq (q_region (q_x (v:=(iV t_23)) hF hS (ex_move rfl) rfl rfl fun a hF=>q_x (v:=(iV t_23)) hF hS (ex_assign rfl) rfl rfl fun a hF=>q_end (n_sq (q_seq (q_region (q_x (v:=s1.v) hF hS (ex_move rfl) rfl rfl fun a hF=>q_x (v:=s1.v) hF hS (ex_move rfl) rfl rfl fun a hF=>q_x (v:=(iV t_23)) hF hS (ex_move rfl) rfl rfl fun a hF=>?_)))))))))))
      obtain ⟨t_27,ht_27,hb8⟩:=bindS hb8
      refine q_call (vs:=[s1.v,(iV t_23)]) hF hS func37 (by kernel_rfl) rfl rfl rfl (c_impl_indexOf p_sizes t_23 t_27 ht_27 _ m hS.vis s1 h1) ?_
      rintro a w _ ⟨q29,s29,rfl,hR28,h29⟩ hF hS2
      have hS:St _ _ _ _ [q29,q26,q6,[⟨b10,[s6.v,s9.v],33⟩],[⟨b3,[nilS.v,nilS.v],33⟩]]:=hS.joinF hR28
      obtain ⟨m31,hl31,hv31,hz31⟩:=hS.lend
      obtain ⟨t_30,ht_30,hb8⟩:=bindS hb8
      refine q_call (vs:=[s1.v,s29.v]) hF hS func84 (by kernel_rfl) rfl rfl rfl (c_impl_isBase p_sizes t_27 t_30 ht_30 _ m31 hv31 s1 (h1.mono hl31) s29 (h29.froz hl31 (hz31 0 _ rfl))) ?_
      rintro a w _ rfl hF hS
      refine q_end (n_sq ?_)
      obtain ⟨j10,hj10,hb8⟩:=bindS hb8
      refine q_join (fun a w=>∃ (q40:Piece),∃ k_37,∃ c_38,j10=(k_37,c_38)∧Fr a 138 [(0,s1.v),(1,s2.v),(4,(.pointer (some ⟨b3,0,none⟩))),(6,(.pointer (some ⟨b10,0,none⟩))),(9,(iV k_37)),(48,(iV (goLen l_8))),(49,(iV t_23))]∧St [] w0 w m [q6,q40,[⟨b10,[s6.v,s9.v],33⟩],[⟨b3,[nilS.v,nilS.v],33⟩]]∧OwnL m 3 q6 s6 c_38.Sizes∧c_38.Sizes=t_4∧OwnL m 3 q40 s9 c_38.Cells) ?_ ?_
      ·rcases bcase (t_30) with hc11 | hc11
       ·have hj10:=cond_f hc11 hj10
        refine q_cond_f hF rfl hc11 (q_skipc (n_jn ?_))
        obtain rfl:=someI hj10
        exact ⟨q26,_,_,rfl,hF.sub ⟨rfl,rfl,rfl,rfl,rfl,rfl,rfl,trivial⟩,hS.sel [2,1,3,4] (by decide),h25,h25k,h26⟩
       ·have hj10:=cond_t hc11 hj10
        refine q_cond_t hF rfl hc11 (q_seq (e_region ⟨[8],[b10]⟩ mixed fun w' hw'=>?_))
        have hS:=hS.below hw'
        refine e_p (v:=(.pointer (some ⟨b10,1,none⟩))) 0 hF rfl (ex_fieldAddr underlying33 rfl sz23 rfl rfl) rfl rfl (by kernel_rfl) (by kernel_rfl) (by kernel_rfl) fun a hF=>e_xb (v:=s9.v) 1 3 hF hS (.head _) rfl rfl (ex_load1 0 0 underlying23 rfl rfl rfl rfl) rfl rfl (by kernel_rfl) (by kernel_rfl) (by kernel_rfl) fun a hF=>e_p (v:=(iV t_23)) 2 hF rfl (ex_move rfl) rfl rfl (by kernel_rfl) (by kernel_rfl) (by kernel_rfl) fun a hF=>e_p (v:=s2.v) 3 hF rfl (ex_move rfl) rfl rfl (by kernel_rfl) (by kernel_rfl) (by kernel_rfl) fun a hF=>e_p (v:=(iV k_22)) 4 hF rfl (ex_move rfl) rfl rfl (by kernel_rfl) (by kernel_rfl) (by kernel_rfl) fun a hF=>?_
        obtain ⟨e_32,he_32,hj10⟩:=bindS hj10
        obtain ⟨vs33,at33,d33⟩:=h2.at he_32 1 rfl
        obtain rfl:vs33=[(iV e_32)]:=d33
        refine e_p (v:=(elP s2 (k_22.toNat * 1))) 5 hF rfl (ex_indexAddr underlying23 sz3 rfl rfl (h2.idx he_32)) rfl rfl (by kernel_rfl) (by kernel_rfl) (by kernel_rfl) fun a hF=>e_x (v:=(iV e_32)) 6 hF hS rfl (ex_loadE1 0 underlying3 rfl rfl ((at33).at) rfl rfl) rfl rfl (by kernel_rfl) (by kernel_rfl) (by kernel_rfl) (by kernel_rfl) fun a hF=>?_
        obtain ⟨e_34,he_34,hj10⟩:=bindS hj10
        obtain ⟨vs35,at35,d35⟩:=h26.at he_34 1 rfl
        obtain rfl:vs35=[(iV e_34)]:=d35
        refine e_p (v:=(elP s9 (t_23.toNat * 1))) 7 hF rfl (ex_indexAddr underlying23 sz3 rfl rfl (h26.idx he_34)) rfl rfl (by kernel_rfl) (by kernel_rfl) (by kernel_rfl) fun a hF=>e_one 8 (by kernel_rfl) ?_
        have hS:St _ _ _ _ [q26,q29,q6,[⟨b10,[s6.v,s9.v],33⟩],[⟨b3,[nilS.v,nilS.v],33⟩]]:=hS.sel [1,0,2,3,4] (by decide)
        have hSo:=hS
        refine e_opl rfl rfl rfl fun _ hK=>wp_storeE (e':=e_32) (us:=[(iV e_32)]) (vs:=[(iV e_34)]) 0 hF hS h26 sz3 rfl rfl rfl rfl rfl rfl rfl he_34 at35 rfl rfl rfl fun w q36 hS h36=>hK _ _ (⟨kpC hSo hS 3 3 rfl rfl kpN,?_⟩)
        refine e_end (by kernel_rfl) (n_sq ?_) _
        refine q_region (q_x (v:=(iV k_22)) hF hS (ex_move rfl) rfl rfl fun a hF=>q_x (v:=(iV (w64 (k_22 + 1)))) hF hS (ex_ibin rfl rfl rfl) rfl rfl fun a hF=>q_x (v:=(iV (w64 (k_22 + 1)))) hF hS (ex_assign rfl) rfl rfl fun a hF=>q_end (n_jn ?_))
        obtain rfl:=someI hj10
        exact ⟨q36,_,_,rfl,hF.sub ⟨rfl,rfl,rfl,rfl,rfl,rfl,rfl,trivial⟩,hS.sel [2,0,3,4] (by decide),h25,h25k,h36⟩
      ·rintro a w ⟨q40,k_37,c_38,rfl,hF,hS,h39,h39k,h40⟩
       refine n_ib (n_sq ?_)
       refine q_region (q_x (v:=(iV (w64 (t_23 + 1)))) hF hS (ex_ibin rfl rfl rfl) rfl rfl fun a hF=>q_x (v:=(iV (w64 (t_23 + 1)))) hF hS (ex_move rfl) rfl rfl fun a hF=>q_end ?_)
       obtain rfl:=someI hb8
       exact ⟨rfl,q40,_,_,_,rfl,hF.sub ⟨rfl,rfl,rfl,rfl,rfl,rfl,rfl,trivial⟩,hS.sel [1,0,2,3] (by decide),h39,h39k,h40⟩
    ·rintro e a w ⟨q43,rfl,hF,hS,h42,h42k,h43⟩
     refine x_ib (n_sq ?_)
     refine q_seq (q_seq (q_region (q_x (v:=s1.v) hF hS (ex_move rfl) rfl rfl fun a hF=>?_)))
     obtain ⟨t_44,ht_44,hr⟩:=bindS hr
     refine q_call (vs:=[s1.v]) hF hS func36 (by kernel_rfl) rfl rfl rfl (c_impl_strides p_sizes t_44 ht_44 _ m hS.vis s1 h1) ?_
     rintro a w _ ⟨q46,s46,rfl,hR45,h46⟩ hF hS2
     have hS:St _ _ _ _ [q46,q6,q43,[⟨b10,[s6.v,s9.v],33⟩],[⟨b3,[nilS.v,nilS.v],33⟩]]:=hS.joinF hR45
     refine q_x (v:=(iV (goLen t_44))) hF hS (ex_len underlying23 rfl h46.len) rfl rfl fun a hF=>q_x (v:=(iV 0)) hF hS (ex_move rfl) rfl rfl fun a hF=>q_end (n_sq (q_block ?_))
     obtain ⟨c_98,hl12,hr⟩:=bindS hr
     refine q_loop (fun (s:Int × impl_Cube) a w=>∃ (m51:Mem),∃ (q50:Piece),∃ t_47,∃ c_48,s=(t_47,c_48)∧Fr a 138 [(0,s1.v),(4,(.pointer (some ⟨b3,0,none⟩))),(6,(.pointer (some ⟨b10,0,none⟩))),(69,s46.v),(70,(iV (goLen t_44))),(71,(iV t_47))]∧St [] w0 w m51 [q50,q46,q6,[⟨b10,[s6.v,s9.v],33⟩],[⟨b3,[nilS.v,nilS.v],33⟩]]∧MLe [] w0.heap.size m m51∧OwnL m51 3 q6 s6 c_48.Sizes∧c_48.Sizes=t_4∧OwnL m51 3 q50 s9 c_48.Cells) (fun (c_98:impl_Cube) e a w=>∃ (m101:Mem),∃ (q100:Piece),e=.exit 4∧Fr a 138 [(4,(.pointer (some ⟨b3,0,none⟩))),(6,(.pointer (some ⟨b10,0,none⟩)))]∧St [] w0 w m101 [q6,q100,[⟨b10,[s6.v,s9.v],33⟩],[⟨b3,[nilS.v,nilS.v],33⟩]]∧MLe [] w0.heap.size m m101∧OwnL m101 3 q6 s6 c_98.Sizes∧c_98.Sizes=t_4∧OwnL m101 3 q100 s9 c_98.Cells) hl12 ⟨m,q43,_,_,rfl,hF.sub ⟨rfl,rfl,rfl,rfl,rfl,rfl,trivial⟩,hS.sel [2,0,1,3,4] (by decide),(MLe.refl _ _),h42,h42k,h43⟩ ?_ ?_
     ·clear hF hS
      rintro s a w st ⟨m51,q50,t_47,c_48,rfl,hF,hS,hm51,h49,h49k,h50⟩ hb12
      unfold impl_cubeOf_l3 at hb12
      refine q_seq (q_region (q_x (v:=(.bool (decide (t_47<(goLen t_44))))) hF hS (ex_ibin rfl rfl rfl) rfl rfl fun a hF=>q_end (n_sq (q_seq ?_))))
      rcases bcase (decide (t_47<(goLen t_44))) with hc13 | hc13
      ·have hb12:=cond_f hc13 hb12
       refine q_cond_f hF rfl hc13 (q_exit (x_sq ?_))
       obtain rfl:=someI hb12
       exact ⟨nofun,.inl ⟨m51,q50,rfl,hF.sub ⟨rfl,rfl,trivial⟩,hS.sel [2,0,3,4] (by decide),hm51,h49,h49k,h50⟩⟩
      ·have hb12:=cond_t hc13 hb12
       refine q_cond_t hF rfl hc13 (q_skipc (n_sq (q_seq (q_block (q_seq (q_region (q_x (v:=(iV t_47)) hF hS (ex_move rfl) rfl rfl fun a hF=>?_)))))))
       obtain ⟨e_52,he_52,hb12⟩:=bindS hb12
       obtain ⟨vs53,at53,d53⟩:=(h46.mono hm51.le).at he_52 1 rfl
       obtain rfl:vs53=[(iV e_52)]:=d53
       refine q_x (v:=(elP s46 (t_47.toNat * 1))) hF hS (ex_indexAddr underlying23 sz3 rfl rfl ((h46.mono hm51.le).idx he_52)) rfl rfl fun a hF=>q_x (v:=(iV e_52)) hF hS (ex_loadE1 0 underlying3 rfl rfl (at53.at 1 rfl) rfl rfl) rfl rfl fun a hF=>q_x (v:=(iV t_47)) hF hS (ex_assign rfl) rfl rfl fun a hF=>q_x (v:=(iV e_52)) hF hS (ex_assign rfl) rfl rfl fun a hF=>q_end (n_sq (q_seq (q_region (q_x (v:=(.pointer (some ⟨b10,1,none⟩))) hF hS (ex_fieldAddr underlying33 rfl sz23 rfl rfl) rfl rfl fun a hF=>q_x (v:=s9.v) hF hS (ex_load1 3 0 underlying23 rfl rfl rfl rfl) rfl rfl fun a hF=>q_x (v:=(iV (goLen c_48.Cells))) hF hS (ex_len underlying23 rfl h50.len) rfl rfl fun a hF=>q_x (v:=(iV 0)) hF hS (ex_move rfl) rfl rfl fun a hF=>q_end (n_sq (q_block ?_))))))
       obtain ⟨c_94,hl14,hb12⟩:=bindS hb12
       refine q_loop (fun (s:Int × impl_Cube) a w=>∃ (m58:Mem),∃ (q57:Piece),∃ t_54,∃ c_55,s=(t_54,c_55)∧Fr a 138 [(0,s1.v),(4,(.pointer (some ⟨b3,0,none⟩))),(6,(.pointer (some ⟨b10,0,none⟩))),(11,(iV t_47)),(12,(iV e_52)),(69,s46.v),(70,(iV (goLen t_44))),(71,(iV t_47)),(78,(iV (goLen c_48.Cells))),(79,(iV t_54))]∧St [] w0 w m58 [q57,q46,q6,[⟨b10,[s6.v,s9.v],33⟩],[⟨b3,[nilS.v,nilS.v],33⟩]]∧MLe [] w0.heap.size m51 m58∧OwnL m58 3 q6 s6 c_55.Sizes∧c_55.Sizes=t_4∧OwnL m58 3 q57 s9 c_55.Cells) (fun (c_94:impl_Cube) e a w=>∃ (m97:Mem),∃ (q96:Piece),e=.exit 6∧Fr a 138 [(0,s1.v),(4,(.pointer (some ⟨b3,0,none⟩))),(6,(.pointer (some ⟨b10,0,none⟩))),(69,s46.v),(70,(iV (goLen t_44))),(71,(iV t_47))]∧St [] w0 w m97 [q46,q6,q96,[⟨b10,[s6.v,s9.v],33⟩],[⟨b3,[nilS.v,nilS.v],33⟩]]∧MLe [] w0.heap.size m51 m97∧OwnL m97 3 q6 s6 c_94.Sizes∧c_94.Sizes=t_4∧OwnL m97 3 q96 s9 c_94.Cells) hl14 ⟨m51,q50,_,_,rfl,hF.sub ⟨rfl,rfl,rfl,rfl,rfl,rfl,rfl,rfl,rfl,rfl,trivial⟩,hS,(MLe.refl _ _),h49,h49k,h50⟩ ?_ ?_
       ·clear hF hS
        rintro s a w st ⟨m58,q57,t_54,c_55,rfl,hF,hS,hm58,h56,h56k,h57⟩ hb14
        unfold impl_cubeOf_l4 at hb14
        refine q_seq (q_region (q_x (v:=(.bool (decide (t_54<(goLen c_48.Cells))))) hF hS (ex_ibin rfl rfl rfl) rfl rfl fun a hF=>q_end (n_sq (q_seq ?_))))
        rcases bcase (decide (t_54<(goLen c_48.Cells))) with hc15 | hc15
        ·have hb14:=cond_f hc15 hb14
         refine q_cond_f hF rfl hc15 (q_exit (x_sq ?_))
         obtain rfl:=someI hb14
         exact ⟨nofun,.inl ⟨m58,q57,rfl,hF.sub ⟨rfl,rfl,rfl,rfl,rfl,rfl,trivial⟩,hS.sel [1,2,0,3,4] (by decide),hm58,h56,h56k,h57⟩⟩
        ·have hb14:=cond_t hc15 hb14
         refine q_cond_t hF rfl hc15 (q_skipc (n_sq (q_seq ?_)))
         obtain ⟨c_90,hj16,hb14⟩:=bindS hb14
         refine q_join (fun a w=>∃ (m93:Mem),∃ (q92:Piece),Fr a 138 [(0,s1.v),(4,(.pointer (some ⟨b3,0,none⟩))),(6,(.pointer (some ⟨b10,0,none⟩))),(11,(iV t_47)),(12,(iV e_52)),(69,s46.v),(70,(iV (goLen t_44))),(71,(iV t_47)),(78,(iV (goLen c_48.Cells))),(79,(iV t_54))]∧St [] w0 w m93 [q46,q6,q92,[⟨b10,[s6.v,s9.v],33⟩],[⟨b3,[nilS.v,nilS.v],33⟩]]∧MLe [] w0.heap.size m58 m93∧OwnL m93 3 q6 s6 c_90.Sizes∧c_90.Sizes=t_4∧OwnL m93 3 q92 s9 c_90.Cells) ?_ ?_
         ·refine q_block (q_seq (q_region (q_x (v:=(iV t_54)) hF hS (ex_move rfl) rfl rfl fun a hF=>q_x (v:=(iV t_54)) hF hS (ex_assign rfl) rfl rfl fun a hF=>q_end (n_sq (q_seq (q_region (q_x (v:=s1.v) hF hS (ex_move rfl) rfl rfl fun a hF=>q_x (v:=(iV t_54)) hF hS (ex_move rfl) rfl rfl fun a hF=>?_)))))))
          obtain ⟨t_59,ht_59,hj16⟩:=bindS hj16
          refine q_call (vs:=[s1.v,(iV t_54)]) hF hS func37 (by kernel_rfl) rfl rfl rfl (c_impl_indexOf p_sizes t_54 t_59 ht_59 _ m58 hS.vis s1 ((h1.mono hm51.le).mono hm58.le)) ?_
          rintro a w _ ⟨q61,s61,rfl,hR60,h61⟩ hF hS2
          have hS:St _ _ _ _ [q61,q57,q46,q6,[⟨b10,[s6.v,s9.v],33⟩],[⟨b3,[nilS.v,nilS.v],33⟩]]:=hS.joinF hR60
          refine q_x (v:=s61.v) hF hS (ex_assign rfl) rfl rfl fun a hF=>q_end (n_sq (q_seq (q_seq ?_)))
          obtain ⟨t_72,hj17,hj16⟩:=bindS hj16
          refine q_join (fun a w=>∃ (m73:Mem),Fr a 138 [(0,s1.v),(4,(.pointer (some ⟨b3,0,none⟩))),(6,(.pointer (some ⟨b10,0,none⟩))),(11,(iV t_47)),(12,(iV e_52)),(13,(iV t_54)),(69,s46.v),(70,(iV (goLen t_44))),(71,(iV t_47)),(78,(iV (goLen c_48.Cells))),(79,(iV t_54)),(105,(.bool t_72))]∧St [] w0 w m73 [q46,q6,q57,[⟨b10,[s6.v,s9.v],33⟩],[⟨b3,[nilS.v,nilS.v],33⟩]]∧MLe [] w0.heap.size m58 m73) ?_ ?_
          ·refine e_region ⟨[],[]⟩ mixed fun w' hw'=>?_
           have hS:=hS.below hw'
           refine e_p (v:=s61.v) 0 hF rfl (ex_move rfl) rfl rfl (by kernel_rfl) (by kernel_rfl) (by kernel_rfl) fun a hF=>e_p (v:=(iV t_47)) 1 hF rfl (ex_move rfl) rfl rfl (by kernel_rfl) (by kernel_rfl) (by kernel_rfl) fun a hF=>?_
           obtain ⟨e_62,he_62,hj17⟩:=bindS hj17
           obtain ⟨vs63,at63,d63⟩:=h61.at he_62 1 rfl
           obtain rfl:vs63=[(iV e_62)]:=d63
           refine e_p (v:=(elP s61 (t_47.toNat * 1))) 2 hF rfl (ex_indexAddr underlying23 sz3 rfl rfl (h61.idx he_62)) rfl rfl (by kernel_rfl) (by kernel_rfl) (by kernel_rfl) fun a hF=>e_x (v:=(iV e_62)) 3 hF hS rfl (ex_loadE1 0 underlying3 rfl rfl (at63.at 0 rfl) rfl rfl) rfl rfl (by kernel_rfl) (by kernel_rfl) (by kernel_rfl) (by kernel_rfl) fun a hF=>e_p (v:=s1.v) 4 hF rfl (ex_move rfl) rfl rfl (by kernel_rfl) (by kernel_rfl) (by kernel_rfl) fun a hF=>e_p (v:=(iV t_47)) 5 hF rfl (ex_move rfl) rfl rfl (by kernel_rfl) (by kernel_rfl) (by kernel_rfl) fun a hF=>?_
           obtain ⟨e_64,he_64,hj17⟩:=bindS hj17
           obtain ⟨vs65,at65,d65⟩:=((h1.mono hm51.le).mono hm58.le).at he_64 1 rfl
           obtain rfl:vs65=[(iV e_64)]:=d65
           refine e_p (v:=(elP s1 (t_47.toNat * 1))) 6 hF rfl (ex_indexAddr underlying23 sz3 rfl rfl (((h1.mono hm51.le).mono hm58.le).idx he_64)) rfl rfl (by kernel_rfl) (by kernel_rfl) (by kernel_rfl) fun a hF=>e_x (v:=(iV e_64)) 7 hF hS rfl (ex_loadE1 0 underlying3 rfl rfl ((at65).at) rfl rfl) rfl rfl (by kernel_rfl) (by kernel_rfl) (by kernel_rfl) (by kernel_rfl) fun a hF=>e_p (v:=(.bool (e_62 != e_64))) 8 hF rfl (ex_ibin rfl rfl rfl) rfl rfl (by kernel_rfl) (by kernel_rfl) (by kernel_rfl) fun a hF=>e_p (v:=(.bool (e_62 != e_64))) 9 hF rfl (ex_move rfl) rfl rfl (by kernel_rfl) (by kernel_rfl) (by kernel_rfl) fun a hF=>?_
           rcases bcase (e_62 != e_64) with hc18 | hc18
           ·have hj17:=cond_f hc18 hj17
            refine e_pg (v:=s1.v) 10 hF rfl (ex_move rfl) (wanted_t hF rfl rfl rfl hc18) rfl (by kernel_rfl) (by kernel_rfl) (by kernel_rfl) fun a hF=>e_pg (v:=(iV t_47)) 11 hF rfl (ex_move rfl) (wanted_t hF rfl rfl rfl hc18) rfl (by kernel_rfl) (by kernel_rfl) (by kernel_rfl) fun a hF=>e_pg (v:=(iV (w64 (t_47 + 1)))) 12 hF rfl (ex_ibin rfl rfl rfl) (wanted_t hF rfl rfl rfl hc18) rfl (by kernel_rfl) (by kernel_rfl) (by kernel_rfl) fun a hF=>?_
            obtain ⟨l_66,hl_66,hj17⟩:=bindS hj17
            have h67:Rd m58 (subS s1 1 ((w64 (t_47 + 1)):Int).toNat (goLen p_sizes).toNat s1.cap) l_66:=((h1.mono hm51.le).mono hm58.le).sub' hl_66 1 rfl
            refine e_pg (v:=(subS s1 1 ((w64 (t_47 + 1)):Int).toNat (goLen p_sizes).toNat s1.cap).v) 13 hF rfl (ex_slice underlying23 sz3 rfl rfl rfl (.inr ⟨_,rfl⟩) (.inl ⟨rfl,((h1.mono hm51.le).mono hm58.le).jlen⟩) (((h1.mono hm51.le).mono hm58.le).subok hl_66)) (wanted_t hF rfl rfl rfl hc18) rfl (by kernel_rfl) (by kernel_rfl) (by kernel_rfl) fun a hF=>e_pg (v:=s61.v) 14 hF rfl (ex_move rfl) (wanted_t hF rfl rfl rfl hc18) rfl (by kernel_rfl) (by kernel_rfl) (by kernel_rfl) fun a hF=>e_pg (v:=(iV t_47)) 15 hF rfl (ex_move rfl) (wanted_t hF rfl rfl rfl hc18) rfl (by kernel_rfl) (by kernel_rfl) (by kernel_rfl) fun a hF=>e_pg (v:=(iV (w64 (t_47 + 1)))) 16 hF rfl (ex_ibin rfl rfl rfl) (wanted_t hF rfl rfl rfl hc18) rfl (by kernel_rfl) (by kernel_rfl) (by kernel_rfl) fun a hF=>?_
            obtain ⟨m68,hm68,hS,hz68⟩:=hS.freeze
            have h68:=h61.froz hm68.le hz68
            obtain ⟨l_69,hl_69,hj17⟩:=bindS hj17
            have h70:Rd m68 (subS s61 1 ((w64 (t_47 + 1)):Int).toNat (goLen t_59).toNat s61.cap) l_69:=h68.sub' hl_69 1 rfl
            refine e_pg (v:=(subS s61 1 ((w64 (t_47 + 1)):Int).toNat (goLen t_59).toNat s61.cap).v) 17 hF rfl (ex_slice underlying23 sz3 rfl rfl rfl (.inr ⟨_,rfl⟩) (.inl ⟨rfl,h68.jlen⟩) (h68.subok hl_69)) (wanted_t hF rfl rfl rfl hc18) rfl (by kernel_rfl) (by kernel_rfl) (by kernel_rfl) fun a hF=>e_one 18 (by kernel_rfl) ?_
            obtain ⟨t_71,ht_71,hj17⟩:=bindS hj17
            refine e_callg (vs:=[(subS s1 1 ((w64 (t_47 + 1)):Int).toNat (goLen p_sizes).toNat s1.cap).v,(subS s61 1 ((w64 (t_47 + 1)):Int).toNat (goLen t_59).toNat s61.cap).v]) hF hS rfl (wanted_t hF rfl rfl rfl hc18) func84 (by kernel_rfl) rfl rfl rfl (c_impl_isBase l_66 l_69 t_71 ht_71 _ m68 hS.vis (subS s1 1 ((w64 (t_47 + 1)):Int).toNat (goLen p_sizes).toNat s1.cap) (h67.mono hm68.le) (subS s61 1 ((w64 (t_47 + 1)):Int).toNat (goLen t_59).toNat s61.cap) h70) ?_
            rintro a w _ rfl hF hS
            refine e_pg (v:=(.bool (!t_71))) 19 hF rfl (ex_not rfl) (wanted_t hF rfl rfl rfl hc18) rfl (by kernel_rfl) (by kernel_rfl) (by kernel_rfl) fun a hF=>e_p (v:=(.bool (!t_71))) 20 hF rfl (ex_pick_f rfl rfl hc18) rfl rfl (by kernel_rfl) (by kernel_rfl) (by kernel_rfl) fun a hF=>e_end (by kernel_rfl) (n_jn ?_) _
            obtain rfl:=someI hj17
            exact ⟨m68,hF.sub ⟨rfl,rfl,rfl,rfl,rfl,rfl,rfl,rfl,rfl,rfl,rfl,rfl,trivial⟩,hS.sel [1,2,0,3,4] (by decide),hm68⟩
           ·have hj17:=cond_t hc18 hj17
            refine e_skipP 10 hF rfl (wanted_f hF rfl rfl rfl hc18 rfl) rfl (by kernel_rfl) (by kernel_rfl) (by kernel_rfl) fun a hF=>e_skipP 11 hF rfl (wanted_f hF rfl rfl rfl hc18 rfl) rfl (by kernel_rfl) (by kernel_rfl) (by kernel_rfl) fun a hF=>e_skipP 12 hF rfl (wanted_f hF rfl rfl rfl hc18 rfl) rfl (by kernel_rfl) (by kernel_rfl) (by kernel_rfl) fun a hF=>e_skipP 13 hF rfl (wanted_f hF rfl rfl rfl hc18 rfl) rfl (by kernel_rfl) (by kernel_rfl) (by kernel_rfl) fun a hF=>e_skipP 14 hF rfl (wanted_f hF rfl rfl rfl hc18 rfl) rfl (by kernel_rfl) (by kernel_rfl) (by kernel_rfl) fun a hF=>e_skipP 15 hF rfl (wanted_f hF rfl rfl rfl hc18 rfl) rfl (by kernel_rfl) (by kernel_rfl) (by kernel_rfl) fun a hF=>e_skipP 16 hF rfl (wanted_f hF rfl rfl rfl hc18 rfl) rfl (by kernel_rfl) (by kernel_rfl) (by kernel_rfl) fun a hF=>e_skipP 17 hF rfl (wanted_f hF rfl rfl rfl hc18 rfl) rfl (by kernel_rfl) (by kernel_rfl) (by kernel_rfl) fun a hF=>e_skipP 18 hF rfl (wanted_f hF rfl rfl rfl hc18 rfl) rfl (by kernel_rfl) (by kernel_rfl) (by kernel_rfl) fun a hF=>e_skipP 19 hF rfl (wanted_f hF rfl rfl rfl hc18 rfl) rfl (by kernel_rfl) (by kernel_rfl) (by kernel_rfl) fun a hF=>e_p (v:=(.bool true)) 20 hF rfl (ex_pick_t rfl rfl hc18) rfl rfl (by kernel_rfl) (by kernel_rfl) (by kernel_rfl) fun a hF=>e_end (by kernel_rfl) (n_jn ?_) _
            obtain rfl:=someI hj17
            exact ⟨m58,hF.sub ⟨rfl,rfl,rfl,rfl,rfl,rfl,rfl,rfl,rfl,rfl,rfl,rfl,trivial⟩,hS.sel [2,3,1,4,5] (by decide),(MLe.refl _ _)⟩
          ·rintro a w ⟨m73,hF,hS,hm73⟩
           refine n_sq ?_
           rcases bcase (t_72) with hc19 | hc19
           ·have hj16:=cond_f hc19 hj16
            refine q_cond_f hF rfl hc19 (q_skipc (n_sq (q_seq (q_region (q_x (v:=(iV 1)) hF hS (ex_assign rfl) rfl rfl fun a hF=>q_end (n_sq (q_block ?_)))))))
            obtain ⟨c_87,hl20,hj16⟩:=bindS hj16
            refine q_loop (fun (s:Int × impl_Cube) a w=>∃ (q77:Piece),∃ x_74,∃ c_75,s=(x_74,c_75)∧Fr a 138 [(0,s1.v),(4,(.pointer (some ⟨b3,0,none⟩))),(6,(.pointer (some ⟨b10,0,none⟩))),(11,(iV t_47)),(12,(iV e_52)),(13,(iV t_54)),(15,(iV x_74)),(69,s46.v),(70,(iV (goLen t_44))),(71,(iV t_47)),(78,(iV (goLen c_48.Cells))),(79,(iV t_54))]∧St [] w0 w m73 [q77,q46,q6,[⟨b10,[s6.v,s9.v],33⟩],[⟨b3,[nilS.v,nilS.v],33⟩]]∧OwnL m73 3 q6 s6 c_75.Sizes∧c_75.Sizes=t_4∧OwnL m73 3 q77 s9 c_75.Cells) (fun (c_87:impl_Cube) e a w=>∃ (q89:Piece),e=.exit 8∧Fr a 138 [(0,s1.v),(4,(.pointer (some ⟨b3,0,none⟩))),(6,(.pointer (some ⟨b10,0,none⟩))),(11,(iV t_47)),(12,(iV e_52)),(69,s46.v),(70,(iV (goLen t_44))),(71,(iV t_47)),(78,(iV (goLen c_48.Cells))),(79,(iV t_54))]∧St [] w0 w m73 [q46,q6,q89,[⟨b10,[s6.v,s9.v],33⟩],[⟨b3,[nilS.v,nilS.v],33⟩]]∧OwnL m73 3 q6 s6 c_87.Sizes∧c_87.Sizes=t_4∧OwnL m73 3 q89 s9 c_87.Cells) hl20 ⟨q57,_,_,rfl,hF.sub ⟨rfl,rfl,rfl,rfl,rfl,rfl,rfl,rfl,rfl,rfl,rfl,rfl,trivial⟩,hS.sel [2,0,1,3,4] (by decide),(h56.mono hm73.le),h56k,(h57.mono hm73.le)⟩ ?_ ?_
            ·clear hF hS
             rintro s a w st ⟨q77,x_74,c_75,rfl,hF,hS,h76,h76k,h77⟩ hb20
             unfold impl_cubeOf_l5 at hb20
             refine q_seq (q_seq (q_region (q_x (v:=(iV x_74)) hF hS (ex_move rfl) rfl rfl fun a hF=>q_x (v:=s1.v) hF hS (ex_move rfl) rfl rfl fun a hF=>q_x (v:=(iV t_47)) hF hS (ex_move rfl) rfl rfl fun a hF=>?_)))
             obtain ⟨e_78,he_78,hb20⟩:=bindS hb20
             obtain ⟨vs79,at79,d79⟩:=(((h1.mono hm51.le).mono hm58.le).mono hm73.le).at he_78 1 rfl
             obtain rfl:vs79=[(iV e_78)]:=d79
             refine q_x (v:=(elP s1 (t_47.toNat * 1))) hF hS (ex_indexAddr underlying23 sz3 rfl rfl ((((h1.mono hm51.le).mono hm58.le).mono hm73.le).idx he_78)) rfl rfl fun a hF=>q_x (v:=(iV e_78)) hF hS (ex_loadE1 0 underlying3 rfl rfl ((at79).at) rfl rfl) rfl rfl fun a hF=>q_x (v:=(.bool (decide (x_74≤e_78)))) hF hS (ex_ibin rfl rfl rfl) rfl rfl fun a hF=>q_end (n_sq ?_)
             rcases bcase (decide (x_74≤e_78)) with hc21 | hc21
             ·have hb20:=cond_f hc21 hb20
              refine q_cond_f hF rfl hc21 (q_exit (x_sq ?_))
              obtain rfl:=someI hb20
              exact ⟨nofun,.inl ⟨q77,rfl,hF.sub ⟨rfl,rfl,rfl,rfl,rfl,rfl,rfl,rfl,rfl,rfl,trivial⟩,hS.sel [1,2,0,3,4] (by decide),h76,h76k,h77⟩⟩
             ·have hb20:=cond_t hc21 hb20
              refine q_cond_t hF rfl hc21 (q_skipc (n_sq (q_seq (q_block (e_region ⟨[16],[b10]⟩ mixed fun w' hw'=>?_)))))
              have hS:=hS.below hw'
              refine e_p (v:=(.pointer (some ⟨b10,1,none⟩))) 0 hF rfl (ex_fieldAddr underlying33 rfl sz23 rfl rfl) rfl rfl (by kernel_rfl) (by kernel_rfl) (by kernel_rfl) fun a hF=>e_xb (v:=s9.v) 1 3 hF hS (.head _) rfl rfl (ex_load1 0 0 underlying23 rfl rfl rfl rfl) rfl rfl (by kernel_rfl) (by kernel_rfl) (by kernel_rfl) fun a hF=>e_p (v:=(iV t_54)) 2 hF rfl (ex_move rfl) rfl rfl (by kernel_rfl) (by kernel_rfl) (by kernel_rfl) fun a hF=>?_
              obtain ⟨e_80,he_80,hb20⟩:=bindS hb20
              obtain ⟨vs81,at81,d81⟩:=h77.at he_80 1 rfl
              obtain rfl:vs81=[(iV e_80)]:=d81
              refine e_p (v:=(elP s9 (t_54.toNat * 1))) 3 hF rfl (ex_indexAddr underlying23 sz3 rfl rfl (h77.idx he_80)) rfl rfl (by kernel_rfl) (by kernel_rfl) (by kernel_rfl) fun a hF=>e_x (v:=(iV e_80)) 4 hF hS rfl (ex_loadE1 0 underlying3 rfl rfl (at81.at 0 rfl) rfl rfl) rfl rfl (by kernel_rfl) (by kernel_rfl) (by kernel_rfl) (by kernel_rfl) fun a hF=>e_p (v:=(.pointer (some ⟨b10,1,none⟩))) 5 hF rfl (ex_fieldAddr underlying33 rfl sz23 rfl rfl) rfl rfl (by kernel_rfl) (by kernel_rfl) (by kernel_rfl) fun a hF=>e_xb (v:=s9.v) 6 3 hF hS (.head _) rfl rfl (ex_load1 0 0 underlying23 rfl rfl rfl rfl) rfl rfl (by kernel_rfl) (by kernel_rfl) (by kernel_rfl) fun a hF=>e_p (v:=(iV t_54)) 7 hF rfl (ex_move rfl) rfl rfl (by kernel_rfl) (by kernel_rfl) (by kernel_rfl) fun a hF=>e_p (v:=(iV x_74)) 8 hF rfl (ex_move rfl) rfl rfl (by kernel_rfl) (by kernel_rfl) (by kernel_rfl) fun a hF=>e_p (v:=(iV e_52)) 9 hF rfl (ex_move rfl) rfl rfl (by kernel_rfl) (by kernel_rfl) (by kernel_rfl) fun a hF=>e_p (v:=(iV (w64 (x_74 * e_52)))) 10 hF rfl (ex_ibin rfl rfl rfl) rfl rfl (by kernel_rfl) (by kernel_rfl) (by kernel_rfl) fun a hF=>e_p (v:=(iV (w64 (t_54 - (w64 (x_74 * e_52)))))) 11 hF rfl (ex_ibin rfl rfl rfl) rfl rfl (by kernel_rfl) (by kernel_rfl) (by kernel_rfl) fun a hF=>?_
              obtain ⟨e_82,he_82,hb20⟩:=bindS hb20
              obtain ⟨vs83,at83,d83⟩:=h77.at he_82 1 rfl
              obtain rfl:vs83=[(iV e_82)]:=d83
              refine e_p (v:=(elP s9 ((w64 (t_54 - (w64 (x_74 * e_52)))).toNat * 1))) 12 hF rfl (ex_indexAddr underlying23 sz3 rfl rfl (h77.idx he_82)) rfl rfl (by kernel_rfl) (by kernel_rfl) (by kernel_rfl) fun a hF=>e_x (v:=(iV e_82)) 13 hF hS rfl (ex_loadE1 0 underlying3 rfl rfl (at83.at 0 rfl) rfl rfl) rfl rfl (by kernel_rfl) (by kernel_rfl) (by kernel_rfl) (by kernel_rfl) fun a hF=>e_p (v:=(iV (w64 (e_80 + e_82)))) 14 hF rfl (ex_ibin rfl rfl rfl) rfl rfl (by kernel_rfl) (by kernel_rfl) (by kernel_rfl) fun a hF=>?_
              obtain ⟨e_84,he_84,hb20⟩:=bindS hb20
              obtain ⟨vs85,at85,d85⟩:=h77.at he_84 1 rfl
              obtain rfl:vs85=[(iV e_84)]:=d85
              refine e_p (v:=(elP s9 (t_54.toNat * 1))) 15 hF rfl (ex_indexAddr underlying23 sz3 rfl rfl (h77.idx he_84)) rfl rfl (by kernel_rfl) (by kernel_rfl) (by kernel_rfl) fun a hF=>e_one 16 (by kernel_rfl) ?_
              have hSo:=hS
              refine e_opl rfl rfl rfl fun _ hK=>wp_storeE (e':=(w64 (e_80 + e_82))) (us:=[(iV (w64 (e_80 + e_82)))]) (vs:=[(iV e_84)]) 0 hF hS h77 sz3 rfl rfl rfl rfl rfl rfl rfl he_84 at85 rfl rfl rfl fun w q86 hS h86=>hK _ _ (⟨kpC hSo hS 3 3 rfl rfl kpN,?_⟩)
              refine e_end (by kernel_rfl) (n_ib (n_sq ?_)) _
              refine q_region (q_x (v:=(iV x_74)) hF hS (ex_move rfl) rfl rfl fun a hF=>q_x (v:=(iV (w64 (x_74 + 1)))) hF hS (ex_ibin rfl rfl rfl) rfl rfl fun a hF=>q_x (v:=(iV (w64 (x_74 + 1)))) hF hS (ex_assign rfl) rfl rfl fun a hF=>q_end ?_)
              obtain rfl:=someI hb20
              exact ⟨rfl,q86,_,_,rfl,hF.sub ⟨rfl,rfl,rfl,rfl,rfl,rfl,rfl,rfl,rfl,rfl,rfl,rfl,trivial⟩,hS,h76,h76k,h86⟩
            ·rintro e a w ⟨q89,rfl,hF,hS,h88,h88k,h89⟩
             refine x_ib (n_ib (n_jn ?_))
             obtain rfl:=someI hj16
             exact ⟨m73,q89,hF.sub ⟨rfl,rfl,rfl,rfl,rfl,rfl,rfl,rfl,rfl,rfl,trivial⟩,hS,hm73,h88,h88k,h89⟩
           ·have hj16:=cond_t hc19 hj16
            refine q_cond_t hF rfl hc19 (q_exit (x_sq (x_ib (n_jn ?_))))
            obtain rfl:=someI hj16
            exact ⟨m73,q57,hF.sub ⟨rfl,rfl,rfl,rfl,rfl,rfl,rfl,rfl,rfl,rfl,trivial⟩,hS,hm73,(h56.mono hm73.le),h56k,(h57.mono hm73.le)⟩
         ·rintro a w ⟨m93,q92,hF,hS,hm93,h91,h91k,h92⟩
          refine n_sq ?_
          refine q_region (q_x (v:=(iV (w64 (t_54 + 1)))) hF hS (ex_ibin rfl rfl rfl) rfl rfl fun a hF=>q_x (v:=(iV (w64 (t_54 + 1)))) hF hS (ex_move rfl) rfl rfl fun a hF=>q_end ?_)
          obtain rfl:=someI hb14
          exact ⟨rfl,m93,q92,_,_,rfl,hF.sub ⟨rfl,rfl,rfl,rfl,rfl,rfl,rfl,rfl,rfl,rfl,trivial⟩,hS.sel [2,0,1,3,4] (by decide),(hm58.trans hm93),h91,h91k,h92⟩
       ·rintro e a w ⟨m97,q96,rfl,hF,hS,hm97,h95,h95k,h96⟩
        refine x_ib (n_ib (n_sq ?_))
        refine q_region (q_x (v:=(iV (w64 (t_47 + 1)))) hF hS (ex_ibin rfl rfl rfl) rfl rfl fun a hF=>q_x (v:=(iV (w64 (t_47 + 1)))) hF hS (ex_move rfl) rfl rfl fun a hF=>q_end ?_)
        obtain rfl:=someI hb12
        exact ⟨rfl,m97,q96,_,_,rfl,hF.sub ⟨rfl,rfl,rfl,rfl,rfl,rfl,trivial⟩,hS.sel [2,0,1,3,4] (by decide),(hm51.trans hm97),h95,h95k,h96⟩
     ·rintro e a w ⟨m101,q100,rfl,hF,hS,hm101,h99,h99k,h100⟩
      refine x_ib (n_sq ?_)
      refine q_seq (q_seq (q_region (q_x (v:=(.pointer (some ⟨b10,1,none⟩))) hF hS (ex_fieldAddr underlying33 rfl sz23 rfl rfl) rfl rfl fun a hF=>q_x (v:=s9.v) hF hS (ex_load1 2 0 underlying23 rfl rfl rfl rfl) rfl rfl fun a hF=>?_)))
      obtain ⟨m103,hl103,hv103,hz103⟩:=hS.lend
      obtain ⟨t_102,ht_102,hr⟩:=bindS hr
      refine q_call (vs:=[s9.v]) hF hS func46 (by kernel_rfl) rfl rfl rfl (c_impl_areCubeValues c_98.Cells t_102 ht_102 _ m103 hv103 s9 (h100.froz hl103 (hz103 1 _ rfl))) ?_
      rintro a w _ rfl hF hS
      refine q_x (v:=(.bool (!t_102))) hF hS (ex_not rfl) rfl rfl fun a hF=>q_end (n_sq ?_)
      rcases bcase (!t_102) with hc22 | hc22
      ·have hr:=cond_f hc22 hr
       refine q_cond_f hF rfl hc22 (q_skipc (n_sq (q_seq (q_region (q_x (v:=(.agg #[s6.v,s9.v])) hF hS (ex_loadA (vs:=[s6.v,s9.v]) 2 0 underlying33 rfl sz33 rfl rfl rfl rfl) rfl rfl fun a hF=>q_store (vs:=[s6.v,s9.v]) (cs':=[s6.v,s9.v]) 3 0 hF hS sz33 rfl rfl rfl rfl rfl rfl rfl rfl fun a w hF hS=>q_x (v:=(.bool true)) hF hS (ex_assign rfl) rfl rfl fun a hF=>q_end (n_sq (q_ret ?_)))))))
       obtain rfl:=someI hr
       exact ret_of hF hS rfl (.cellA (us:=[s6.v,s9.v]) 3 0 underlying33 rfl sz33 rfl rfl rfl rfl (.tmp rfl .nil)) ⟨m101,q6,q100,s6,s9,rfl,hm101,hS.sel [0,1] (by decide),h99,h100⟩
      ·have hr:=cond_t hc22 hr
       refine q_cond_t hF rfl hc22 (q_seq (q_region (q_x (v:=(.agg #[nilS.v,nilS.v])) hF hS (ex_build (cells:=[nilS.v,nilS.v]) rfl (by kernel_rfl)) rfl rfl fun a hF=>q_store (vs:=[nilS.v,nilS.v]) (cs':=[nilS.v,nilS.v]) 3 0 hF hS sz33 rfl rfl rfl rfl rfl rfl rfl rfl fun a w hF hS=>q_x (v:=(.bool false)) hF hS (ex_assign rfl) rfl rfl fun a hF=>q_end (n_sq (q_ret (r_sq ?_))))))
       obtain rfl:=someI hr
       exact ret_of hF hS rfl (.cellA (us:=[nilS.v,nilS.v]) 3 0 underlying33 rfl sz33 rfl rfl rfl rfl (.tmp rfl .nil)) ⟨m101,[],[],nilS,nilS,rfl,hm101,hS.sel [4,5] (by decide),(OwnL.nil (α:=Int) m101 3),(OwnL.nil (α:=Int) m101 3)⟩
   ·have hr:=cond_t hc7 hr
    refine q_cond_t hF rfl hc7 (q_seq (q_region (q_x (v:=(.agg #[nilS.v,nilS.v])) hF hS (ex_build (cells:=[nilS.v,nilS.v]) rfl (by kernel_rfl)) rfl rfl fun a hF=>q_store (vs:=[nilS.v,nilS.v]) (cs':=[nilS.v,nilS.v]) 3 0 hF hS sz33 rfl rfl rfl rfl rfl rfl rfl rfl fun a w hF hS=>q_x (v:=(.bool false)) hF hS (ex_assign rfl) rfl rfl fun a hF=>q_end (n_sq (q_ret (r_sq ?_))))))
    obtain rfl:=someI hr
    exact ret_of hF hS rfl (.cellA (us:=[nilS.v,nilS.v]) 3 0 underlying33 rfl sz33 rfl rfl rfl rfl (.tmp rfl .nil)) ⟨m,[],[],nilS,nilS,rfl,(MLe.refl _ _),hS.sel [4,5] (by decide),(OwnL.nil (α:=Int) m 3),(OwnL.nil (α:=Int) m 3)⟩

theorem c_impl_CubeOf (p_sizes:List Int) (p_base:List Int) (r:impl_Cube × Bool) (hr:impl_CubeOf p_sizes p_base=some r) (w0:World) (m:Mem) (hv:Vis m w0) (s1:Sl) (h1:Rd m s1 p_sizes) (s2:Sl) (h2:Rd m s2 p_base) :
  Ret prog 22 [s1.v,s2.v] w0 (fun v w=>∃ (m':Mem) (q0':Piece) (q1':Piece) (s0':Sl) (s1':Sl),v=(.tuple #[(.agg #[s0'.v,s1'.v]),(.bool r.2)])∧MLe [] w0.heap.size m m'∧St [] w0 w m' [q0',q1']∧OwnL m' 3 q0' s0' r.1.Sizes∧OwnL m' 3 q1' s1' r.1.Cells):=by
 unfold impl_CubeOf at hr
 refine ret_start func22 rfl 15 rfl rfl m hv fun a hF hS=>q_seq (q_region (q_alloc (cs:=[nilS.v,nilS.v]) hF hS rfl rfl rfl fun a w b3 hF hS=>q_x (v:=(.bool false)) hF hS (ex_assign rfl) rfl rfl fun a hF=>q_end (n_sq (q_seq (q_seq (q_region (q_x (v:=s1.v) hF hS (ex_move rfl) rfl rfl fun a hF=>?_)))))))
 obtain ⟨t_4,ht_4,hr⟩:=bindS hr
 refine q_call (vs:=[s1.v]) hF hS func35 (by kernel_rfl) rfl rfl rfl (c_impl_cubeCells p_sizes t_4 ht_4 _ m hS.vis s1 h1) ?_
 rintro a w _ rfl hF hS
 refine q_x (v:=(.bool (t_4 == 0))) hF hS (ex_ibin rfl rfl rfl) rfl rfl fun a hF=>q_end (n_sq ?_)
 rcases bcase (t_4 == 0) with hc1 | hc1
 ·have hr:=cond_f hc1 hr
  refine q_cond_f hF rfl hc1 (q_skipc (n_sq (q_seq (q_region (q_x (v:=s1.v) hF hS (ex_move rfl) rfl rfl fun a hF=>q_x (v:=s2.v) hF hS (ex_move rfl) rfl rfl fun a hF=>?_)))))
  obtain ⟨t_5,ht_5,hr⟩:=bindS hr
  refine q_call (vs:=[s1.v,s2.v]) hF hS func60 (by kernel_rfl) rfl rfl rfl (c_impl_cubeOf p_sizes p_base t_5 ht_5 _ m hS.vis s1 h1 s2 h2) ?_
  have hT:=hS
  rintro a w _ ⟨m6,q7,q8,s7,s8,rfl,hm6,hR6,h7,h8⟩ hF hS2
  have hS:St _ _ _ _ [q7,q8,[⟨b3,[nilS.v,nilS.v],33⟩]]:=hS.join hR6 hm6
  have hm6:=MLe.weakX (O0:=[]) hT hm6
  refine q_x (v:=(.agg #[s7.v,s8.v])) hF hS (ex_extract rfl rfl) rfl rfl fun a hF=>q_x (v:=(.bool t_5.2)) hF hS (ex_extract rfl rfl) rfl rfl fun a hF=>q_store (vs:=[s7.v,s8.v]) (cs':=[s7.v,s8.v]) 2 0 hF hS sz33 rfl rfl rfl rfl rfl rfl rfl rfl fun a w hF hS=>q_x (v:=(.bool t_5.2)) hF hS (ex_assign rfl) rfl rfl fun a hF=>q_end (n_sq (q_ret ?_))
  obtain rfl:=someI hr
  exact ret_of hF hS rfl (.cellA (us:=[s7.v,s8.v]) 2 0 underlying33 rfl sz33 rfl rfl rfl rfl (.tmp rfl .nil)) ⟨m6,q7,q8,s7,s8,rfl,hm6,hS.sel [0,1] (by decide),h7,h8⟩
 ·have hr:=cond_t hc1 hr
  refine q_cond_t hF rfl hc1 (q_seq (q_region (q_x (v:=(.agg #[nilS.v,nilS.v])) hF hS (ex_build (cells:=[nilS.v,nilS.v]) rfl (by kernel_rfl)) rfl rfl fun a hF=>q_store (vs:=[nilS.v,nilS.v]) (cs':=[nilS.v,nilS.v]) 0 0 hF hS sz33 rfl rfl rfl rfl rfl rfl rfl rfl fun a w hF hS=>q_x (v:=(.bool false)) hF hS (ex_assign rfl) rfl rfl fun a hF=>q_end (n_sq (q_ret (r_sq ?_))))))
  obtain rfl:=someI hr
  exact ret_of hF hS rfl (.cellA (us:=[nilS.v,nilS.v]) 0 0 underlying33 rfl sz33 rfl rfl rfl rfl (.tmp rfl .nil)) ⟨m,[],[],nilS,nilS,rfl,(MLe.refl _ _),hS.sel [1,2] (by decide),(OwnL.nil (α:=Int) m 3),(OwnL.nil (α:=Int) m 3)⟩

theorem c_impl_CubeOfTable (p_g:impl_Geo) (p_s:List impl_Variable) (p_t:impl_Table) (p_l:List impl_Record) (r:impl_Cube × Bool) (hr:impl_CubeOfTable p_g p_s p_t p_l=some r) (w0:World) (m:Mem) (hv:Vis m w0) (s1:Sl) (h1:Rd m s1 p_g.Parents) (s2:Sl) (h2:Rd m s2 p_s) (s3:Sl) (h3:Rd m s3 p_t.Vars) (s4:Sl) (h4:Rd m s4 p_t.Where) (s5:Sl) (h5:Rd m s5 p_l) :
  Ret prog 5 [(.agg #[s1.v]),s2.v,(.agg #[(iV p_t.Level),s3.v,s4.v,(iV p_t.Sum)]),s5.v] w0 (fun v w=>∃ (m':Mem) (q0':Piece) (q1':Piece) (s0':Sl) (s1':Sl),v=(.tuple #[(.agg #[s0'.v,s1'.v]),(.bool r.2)])∧MLe [] w0.heap.size m m'∧St [] w0 w m' [q0',q1']∧OwnL m' 3 q0' s0' r.1.Sizes∧OwnL m' 3 q1' s1' r.1.Cells):=by
 unfold impl_CubeOfTable at hr
 refine ret_start func5 rfl 55 rfl rfl m hv fun a hF hS=>q_seq (q_region (q_box (cs:=[s1.v]) hF hS rfl rfl rfl fun a w b6 hF hS=>q_box (cs:=[(iV p_t.Level),s3.v,s4.v,(iV p_t.Sum)]) hF hS rfl rfl rfl fun a w b7 hF hS=>q_alloc (cs:=[nilS.v,nilS.v]) hF hS rfl rfl rfl fun a w b8 hF hS=>q_x (v:=(.bool false)) hF hS (ex_assign rfl) rfl rfl fun a hF=>q_end (n_sq (q_seq (q_seq ?_)))))
 obtain ⟨t_11,hj1,hr⟩:=bindS hr
 refine q_join (fun a w=>Fr a 55 [(1,s2.v),(3,s5.v),(4,(.pointer (some ⟨b6,0,none⟩))),(6,(.pointer (some ⟨b7,0,none⟩))),(8,(.pointer (some ⟨b8,0,none⟩))),(24,(.bool t_11))]∧St [] w0 w m [[⟨b8,[nilS.v,nilS.v],33⟩],[⟨b7,[(iV p_t.Level),s3.v,s4.v,(iV p_t.Sum)],28⟩],[⟨b6,[s1.v],25⟩]]) ?_ ?_
 ·refine q_region (q_x (v:=(.agg #[s1.v])) hF hS (ex_loadA (vs:=[s1.v]) 2 0 underlying25 rfl sz25 rfl rfl rfl rfl) rfl rfl fun a hF=>q_x (v:=s2.v) hF hS (ex_move rfl) rfl rfl fun a hF=>q_x (v:=(.agg #[(iV p_t.Level),s3.v,s4.v,(iV p_t.Sum)])) hF hS (ex_loadA (vs:=[(iV p_t.Level),s3.v,s4.v,(iV p_t.Sum)]) 1 0 underlying28 rfl sz28 rfl rfl rfl rfl) rfl rfl fun a hF=>?_)
  obtain ⟨t_9,ht_9,hj1⟩:=bindS hj1
  refine q_call (vs:=[(.agg #[s1.v]),s2.v,(.agg #[(iV p_t.Level),s3.v,s4.v,(iV p_t.Sum)])]) hF hS func18 (by kernel_rfl) rfl rfl rfl (c_impl_areTabled p_g p_s p_t t_9 ht_9 _ m hS.vis s1 h1 s2 h2 s3 h3 s4 h4) ?_
  rintro a w _ rfl hF hS
  refine q_x (v:=(.bool (!t_9))) hF hS (ex_not rfl) rfl rfl fun a hF=>q_x (v:=(.bool (!t_9))) hF hS (ex_move rfl) rfl rfl fun a hF=>?_
  rcases bcase (!t_9) with hc2 | hc2
  ·have hj1:=cond_f hc2 hj1
   refine q_xg (v:=(.agg #[s1.v])) hF hS (ex_loadA (vs:=[s1.v]) 2 0 underlying25 rfl sz25 rfl rfl rfl rfl) (wanted_t hF rfl rfl rfl hc2) rfl fun a hF=>q_xg (v:=s2.v) hF hS (ex_move rfl) (wanted_t hF rfl rfl rfl hc2) rfl fun a hF=>q_xg (v:=s5.v) hF hS (ex_move rfl) (wanted_t hF rfl rfl rfl hc2) rfl fun a hF=>?_
   obtain ⟨t_10,ht_10,hj1⟩:=bindS hj1
   refine q_callg (vs:=[(.agg #[s1.v]),s2.v,s5.v]) hF hS (wanted_t hF rfl rfl rfl hc2) func19 (by kernel_rfl) rfl rfl rfl (c_impl_isSurvey p_g p_s p_l t_10 ht_10 _ m hS.vis s1 h1 s2 h2 s5 h5) ?_
   rintro a w _ rfl hF hS
   refine q_xg (v:=(.bool (!t_10))) hF hS (ex_not rfl) (wanted_t hF rfl rfl rfl hc2) rfl fun a hF=>q_x (v:=(.bool (!t_10))) hF hS (ex_pick_f rfl rfl hc2) rfl rfl fun a hF=>q_end (n_jn ?_)
   obtain rfl:=someI hj1
   exact ⟨hF.sub ⟨rfl,rfl,rfl,rfl,rfl,rfl,trivial⟩,hS⟩
  ·have hj1:=cond_t hc2 hj1
   refine q_skip hF (wanted_f hF rfl rfl rfl hc2 rfl) rfl fun a hF=>q_skip hF (wanted_f hF rfl rfl rfl hc2 rfl) rfl fun a hF=>q_skip hF (wanted_f hF rfl rfl rfl hc2 rfl) rfl fun a hF=>q_skip hF (wanted_f hF rfl rfl rfl hc2 rfl) rfl fun a hF=>q_skip hF (wanted_f hF rfl rfl rfl hc2 rfl) rfl fun a hF=>q_x (v:=(.bool true)) hF hS (ex_pick_t rfl rfl hc2) rfl rfl fun a hF=>q_end (n_jn ?_)
   obtain rfl:=someI hj1
   exact ⟨hF.sub ⟨rfl,rfl,rfl,rfl,rfl,rfl,trivial⟩,hS⟩
 ·rintro a w ⟨hF,hS⟩
  refine n_sq ?_
  rcases bcase (t_11) with hc3 | hc3
  ·have hr:=cond_f hc3 hr
   refine q_cond_f hF rfl hc3 (q_skipc (n_sq (q_seq (q_region (q_x (v:=(.agg #[s1.v])) hF hS (ex_loadA (vs:=[s1.v]) 2 0 underlying25 rfl sz25 rfl rfl rfl rfl) rfl rfl fun a hF=>q_x (v:=(.pointer (some ⟨b7,0,none⟩))) hF hS (ex_fieldAddr underlying28 rfl sz3 rfl rfl) rfl rfl fun a hF=>q_x (v:=(iV p_t.Level)) hF hS (ex_load1 1 0 underlying3 rfl rfl rfl rfl) rfl rfl fun a hF=>?_)))))
   obtain ⟨t_12,ht_12,hr⟩:=bindS hr
   refine q_call (vs:=[(.agg #[s1.v]),(iV p_t.Level)]) hF hS func20 (by kernel_rfl) rfl rfl rfl (c_impl_areasAt p_g p_t.Level t_12 ht_12 _ m hS.vis s1 h1) ?_
   rintro a w _ ⟨q14,s14,rfl,hR13,h14⟩ hF hS2
   have hS:St _ _ _ _ [q14,[⟨b8,[nilS.v,nilS.v],33⟩],[⟨b7,[(iV p_t.Level),s3.v,s4.v,(iV p_t.Sum)],28⟩],[⟨b6,[s1.v],25⟩]]:=hS.joinF hR13
   refine q_x (v:=(iV (goLen t_12))) hF hS (ex_len underlying23 rfl h14.len) rfl rfl fun a hF=>q_do rfl fun _ hK=>wp_buildSlice' (l:=([goLen t_12]:List Int)) (cells:=[(iV (goLen t_12))]) hF hS underlying23 inf3 rfl rfl (by kernel_rfl) rfl rfl rfl ⟨rfl,rfl⟩ rfl rfl fun a w q15 s15 hF hS h15 _=>hK _ _ (q_x (v:=s15.v) hF hS (ex_assign rfl) rfl rfl fun a hF=>q_end (n_sq (q_seq (q_seq (q_region (q_x (v:=s2.v) hF hS (ex_move rfl) rfl rfl fun a hF=>q_x (v:=(.agg #[(iV p_t.Level),s3.v,s4.v,(iV p_t.Sum)])) hF hS (ex_loadA (vs:=[(iV p_t.Level),s3.v,s4.v,(iV p_t.Sum)]) 3 0 underlying28 rfl sz28 rfl rfl rfl rfl) rfl rfl fun a hF=>?_))))))
   obtain ⟨t_16,ht_16,hr⟩:=bindS hr
   refine q_call (vs:=[s2.v,(.agg #[(iV p_t.Level),s3.v,s4.v,(iV p_t.Sum)])]) hF hS func21 (by kernel_rfl) rfl rfl rfl (c_impl_crossed p_s p_t t_16 ht_16 _ m hS.vis s2 h2 s3 h3 s4 h4) ?_
   rintro a w _ ⟨q18,s18,rfl,hR17,h18⟩ hF hS2
   have hS:St _ _ _ _ [q18,q15,q14,[⟨b8,[nilS.v,nilS.v],33⟩],[⟨b7,[(iV p_t.Level),s3.v,s4.v,(iV p_t.Sum)],28⟩],[⟨b6,[s1.v],25⟩]]:=hS.joinF hR17
   refine q_x (v:=(iV (goLen t_16))) hF hS (ex_len underlying26 rfl h18.len) rfl rfl fun a hF=>q_x (v:=(iV 0)) hF hS (ex_move rfl) rfl rfl fun a hF=>q_end (n_sq (q_block ?_))
   obtain ⟨sizes_28,hl4,hr⟩:=bindS hr
   refine q_loop (fun (s:(List Int) × Int) a w=>∃ (q20:Piece),∃ (s20:Sl),∃ sizes_19,∃ t_21,s=(sizes_19,t_21)∧Fr a 55 [(1,s2.v),(3,s5.v),(4,(.pointer (some ⟨b6,0,none⟩))),(6,(.pointer (some ⟨b7,0,none⟩))),(8,(.pointer (some ⟨b8,0,none⟩))),(10,s20.v),(34,s18.v),(35,(iV (goLen t_16))),(36,(iV t_21))]∧St [] w0 w m [q20,q18,[⟨b8,[nilS.v,nilS.v],33⟩],[⟨b7,[(iV p_t.Level),s3.v,s4.v,(iV p_t.Sum)],28⟩],[⟨b6,[s1.v],25⟩]]∧OwnL m 3 q20 s20 sizes_19) (fun (sizes_28:(List Int)) e a w=>∃ (q29:Piece),∃ (s29:Sl),e=.exit 0∧Fr a 55 [(1,s2.v),(3,s5.v),(4,(.pointer (some ⟨b6,0,none⟩))),(6,(.pointer (some ⟨b7,0,none⟩))),(8,(.pointer (some ⟨b8,0,none⟩))),(10,s29.v)]∧St [] w0 w m [q29,[⟨b8,[nilS.v,nilS.v],33⟩],[⟨b7,[(iV p_t.Level),s3.v,s4.v,(iV p_t.Sum)],28⟩],[⟨b6,[s1.v],25⟩]]∧OwnL m 3 q29 s29 sizes_28) hl4 ⟨q15,s15,_,_,rfl,hF.sub ⟨rfl,rfl,rfl,rfl,rfl,rfl,rfl,rfl,rfl,trivial⟩,hS.sel [1,0,3,4,5] (by decide),h15⟩ ?_ ?_
   ·clear hF hS
    rintro s a w st ⟨q20,s20,sizes_19,t_21,rfl,hF,hS,h20⟩ hb4
    unfold impl_CubeOfTable_l1 at hb4
    refine q_seq (q_region (q_x (v:=(.bool (decide (t_21<(goLen t_16))))) hF hS (ex_ibin rfl rfl rfl) rfl rfl fun a hF=>q_end (n_sq (q_seq ?_))))
    rcases bcase (decide (t_21<(goLen t_16))) with hc5 | hc5
    ·have hb4:=cond_f hc5 hb4
     refine q_cond_f hF rfl hc5 (q_exit (x_sq ?_))
     obtain rfl:=someI hb4
     exact ⟨nofun,.inl ⟨q20,s20,rfl,hF.sub ⟨rfl,rfl,rfl,rfl,rfl,rfl,trivial⟩,hS.mask [true,false,true,true,true],h20⟩⟩
    ·have hb4:=cond_t hc5 hb4
     refine q_cond_t hF rfl hc5 (q_skipc (n_sq (q_seq (q_block (q_seq (q_region ?_))))))
     obtain ⟨e_22,he_22,hb4⟩:=bindS hb4
     obtain ⟨vs23,at23,d23⟩:=h18.at he_22 2 rfl
     obtain rfl:vs23=[(strV e_22.Name),(iV e_22.Levels)]:=d23
     refine q_x (v:=(elP s18 (t_21.toNat * 2))) hF hS (ex_indexAddr underlying26 sz55 rfl rfl (h18.idx he_22)) rfl rfl fun a hF=>q_x (v:=(.agg #[(strV e_22.Name),(iV e_22.Levels)])) hF hS (ex_loadEA (us:=[(strV e_22.Name),(iV e_22.Levels)]) 0 underlying55 rfl sz55 rfl (at23.at 1 rfl) rfl rfl rfl) rfl rfl fun a hF=>q_alloc (cs:=[(strV ([]:List UInt8)),(iV 0)]) hF hS rfl rfl rfl fun a w b24 hF hS=>q_store (vs:=[(strV e_22.Name),(iV e_22.Levels)]) (cs':=[(strV e_22.Name),(iV e_22.Levels)]) 0 0 hF hS sz55 rfl rfl rfl rfl rfl rfl rfl rfl fun a w hF hS=>q_end (n_sq (q_region (q_x (v:=s20.v) hF hS (ex_move rfl) rfl rfl fun a hF=>q_x (v:=(.pointer (some ⟨b24,1,none⟩))) hF hS (ex_fieldAddr underlying55 rfl sz3 rfl rfl) rfl rfl fun a hF=>q_x (v:=(iV e_22.Levels)) hF hS (ex_load1 0 0 underlying3 rfl rfl rfl rfl) rfl rfl fun a hF=>q_do rfl fun _ hK=>wp_buildSlice' (l:=([e_22.Levels]:List Int)) (cells:=[(iV e_22.Levels)]) hF hS underlying23 inf3 rfl rfl (by kernel_rfl) rfl rfl rfl ⟨rfl,rfl⟩ rfl rfl fun a w q25 s25 hF hS h25 _=>hK _ _ ?_)))
     have hS:St _ _ _ _ [q20,q25,[⟨b24,[(strV e_22.Name),(iV e_22.Levels)],55⟩],q18,[⟨b8,[nilS.v,nilS.v],33⟩],[⟨b7,[(iV p_t.Level),s3.v,s4.v,(iV p_t.Sum)],28⟩],[⟨b6,[s1.v],25⟩]]:=hS.sel [2,0,1,3,4,5,6] (by decide)
     obtain ⟨l_26,hl_26,hb4⟩:=bindS hb4
     refine q_do rfl fun _ hK=>wp_append hF hS h20 underlying23 inf3 rfl rfl rfl rfl (h25.vw hS (j:=1) rfl) rfl (by decide) hl_26 rfl fun a w q27 s27 hF hS h27=>hK _ _ (q_x (v:=s27.v) hF hS (ex_assign rfl) rfl rfl fun a hF=>q_end (n_ib (n_sq (q_region (q_x (v:=(iV (w64 (t_21 + 1)))) hF hS (ex_ibin rfl rfl rfl) rfl rfl fun a hF=>q_x (v:=(iV (w64 (t_21 + 1)))) hF hS (ex_move rfl) rfl rfl fun a hF=>q_end ?_)))))
     obtain rfl:=someI hb4
     exact ⟨rfl,q27,s27,_,_,rfl,hF.sub ⟨rfl,rfl,rfl,rfl,rfl,rfl,rfl,rfl,rfl,trivial⟩,hS.mask [true,false,false,true,true,true,true],h27⟩
   ·rintro e a w ⟨q29,s29,rfl,hF,hS,h29⟩
    refine x_ib (n_sq ?_)
    refine q_seq (q_region (q_x (v:=s29.v) hF hS (ex_move rfl) rfl rfl fun a hF=>q_x (v:=(.agg #[s1.v])) hF hS (ex_loadA (vs:=[s1.v]) 3 0 underlying25 rfl sz25 rfl rfl rfl rfl) rfl rfl fun a hF=>q_x (v:=s2.v) hF hS (ex_move rfl) rfl rfl fun a hF=>q_x (v:=(.agg #[(iV p_t.Level),s3.v,s4.v,(iV p_t.Sum)])) hF hS (ex_loadA (vs:=[(iV p_t.Level),s3.v,s4.v,(iV p_t.Sum)]) 2 0 underlying28 rfl sz28 rfl rfl rfl rfl) rfl rfl fun a hF=>q_x (v:=s5.v) hF hS (ex_move rfl) rfl rfl fun a hF=>?_))
    obtain ⟨t_30,ht_30,hr⟩:=bindS hr
    refine q_call (vs:=[(.agg #[s1.v]),s2.v,(.agg #[(iV p_t.Level),s3.v,s4.v,(iV p_t.Sum)]),s5.v]) hF hS func23 (by kernel_rfl) rfl rfl rfl (c_impl_tableOf p_g p_s p_t p_l t_30 ht_30 _ m hS.vis s1 h1 s2 h2 s3 h3 s4 h4 s5 h5) ?_
    rintro a w _ ⟨q32,s32,rfl,hR31,h32⟩ hF hS2
    have hS:St _ _ _ _ [q32,q29,[⟨b8,[nilS.v,nilS.v],33⟩],[⟨b7,[(iV p_t.Level),s3.v,s4.v,(iV p_t.Sum)],28⟩],[⟨b6,[s1.v],25⟩]]:=hS.joinF hR31
    have hS:St _ _ _ _ [q29,q32,[⟨b8,[nilS.v,nilS.v],33⟩],[⟨b7,[(iV p_t.Level),s3.v,s4.v,(iV p_t.Sum)],28⟩],[⟨b6,[s1.v],25⟩]]:=hS.sel [1,0,2,3,4] (by decide)
    obtain ⟨m33,hm33,hS,hz33⟩:=hS.freeze
    have h33:=h29.froz hm33.le hz33
    obtain ⟨m34,hm34,hS,hz34⟩:=hS.freeze
    have h34:=(h32.mono hm33.le).froz hm34.le hz34
    obtain ⟨t_35,ht_35,hr⟩:=bindS hr
    refine q_call (vs:=[s29.v,s32.v]) hF hS func22 (by kernel_rfl) rfl rfl rfl (c_impl_CubeOf sizes_28 t_30 t_35 ht_35 _ m34 hS.vis s29 (h33.mono hm34.le) s32 h34) ?_
    have hT:=hS
    rintro a w _ ⟨m36,q37,q38,s37,s38,rfl,hm36,hR36,h37,h38⟩ hF hS2
    have hS:St _ _ _ _ [q37,q38,[⟨b8,[nilS.v,nilS.v],33⟩],[⟨b7,[(iV p_t.Level),s3.v,s4.v,(iV p_t.Sum)],28⟩],[⟨b6,[s1.v],25⟩]]:=hS.join hR36 hm36
    have hm36:=MLe.weakX (O0:=[]) hT hm36
    refine q_x (v:=(.agg #[s37.v,s38.v])) hF hS (ex_extract rfl rfl) rfl rfl fun a hF=>q_x (v:=(.bool t_35.2)) hF hS (ex_extract rfl rfl) rfl rfl fun a hF=>q_store (vs:=[s37.v,s38.v]) (cs':=[s37.v,s38.v]) 2 0 hF hS sz33 rfl rfl rfl rfl rfl rfl rfl rfl fun a w hF hS=>q_x (v:=(.bool t_35.2)) hF hS (ex_assign rfl) rfl rfl fun a hF=>q_end (n_sq (q_ret ?_))
    obtain rfl:=someI hr
    exact ret_of hF hS rfl (.cellA (us:=[s37.v,s38.v]) 2 0 underlying33 rfl sz33 rfl rfl rfl rfl (.tmp rfl .nil)) ⟨m36,q37,q38,s37,s38,rfl,((hm33.trans hm34).trans hm36),hS.sel [0,1] (by decide),h37,h38⟩
  ·have hr:=cond_t hc3 hr
   refine q_cond_t hF rfl hc3 (q_seq (q_region (q_x (v:=(.agg #[nilS.v,nilS.v])) hF hS (ex_build (cells:=[nilS.v,nilS.v]) rfl (by kernel_rfl)) rfl rfl fun a hF=>q_store (vs:=[nilS.v,nilS.v]) (cs':=[nilS.v,nilS.v]) 0 0 hF hS sz33 rfl rfl rfl rfl rfl rfl rfl rfl fun a w hF hS=>q_x (v:=(.bool false)) hF hS (ex_assign rfl) rfl rfl fun a hF=>q_end (n_sq (q_ret (r_sq ?_))))))
   obtain rfl:=someI hr
   exact ret_of hF hS rfl (.cellA (us:=[nilS.v,nilS.v]) 0 0 underlying33 rfl sz33 rfl rfl rfl rfl (.tmp rfl .nil)) ⟨m,[],[],nilS,nilS,rfl,(MLe.refl _ _),hS.sel [3,4] (by decide),(OwnL.nil (α:=Int) m 3),(OwnL.nil (α:=Int) m 3)⟩

theorem c_spec_sName (p_s:List UInt8) (r:Bool) (hr:spec_sName p_s=some r) (w0:World) (m:Mem) (hv:Vis m w0) :
  Ret prog 99 [(strV p_s)] w0 (fun v _=>v=(.bool r)):=by
 unfold spec_sName at hr
 refine ret_start func99 rfl 23 rfl rfl m hv fun a hF hS=>q_seq (q_region (q_x (v:=(.bool false)) hF hS (ex_assign rfl) rfl rfl fun a hF=>q_end (n_sq (q_seq (q_seq (q_region (q_x (v:=(iV 0)) hF hS (ex_assign rfl) rfl rfl fun a hF=>q_end (n_sq (q_block ?_)))))))))
 obtain ⟨o1,hl1,hr⟩:=bindS hr
 refine q_loop (fun (i_1:Int) a w=>Fr a 23 [(0,(strV p_s)),(3,(iV i_1))]∧St [] w0 w m []) (fun (o:(Unit) ⊕ (Bool)) e a w=>o=.inl ()∧e=.exit 0∧Fr a 23 [(0,(strV p_s))]∧St [] w0 w m []) hl1 ⟨hF.sub ⟨rfl,rfl,trivial⟩,hS⟩ ?_ ?_
 ·clear hF hS
  rintro i_1 a w st ⟨hF,hS⟩ hb1
  unfold spec_sName_l1 at hb1
  refine q_seq (q_seq (q_region (q_x (v:=(iV i_1)) hF hS (ex_move rfl) rfl rfl fun a hF=>q_x (v:=(strV p_s)) hF hS (ex_move rfl) rfl rfl fun a hF=>q_x (v:=(iV (goLen p_s))) hF hS (ex_strLen underlying9 rfl) rfl rfl fun a hF=>q_x (v:=(.bool (decide (i_1<(goLen p_s))))) hF hS (ex_ibin rfl rfl rfl) rfl rfl fun a hF=>q_end (n_sq ?_))))
  rcases bcase (decide (i_1<(goLen p_s))) with hc2 | hc2
  ·have hb1:=cond_f hc2 hb1
   refine q_cond_f hF rfl hc2 (q_exit (x_sq ?_))
   obtain rfl:=someI hb1
   exact ⟨nofun,.inl ⟨rfl,rfl,hF.sub ⟨rfl,trivial⟩,hS⟩⟩
  ·have hb1:=cond_t hc2 hb1
   refine q_cond_t hF rfl hc2 (q_skipc (n_sq (q_seq (q_block (q_seq ?_)))))
   obtain ⟨t_4,hj3,hb1⟩:=bindS hb1
   refine q_join (fun a w=>Fr a 23 [(0,(strV p_s)),(3,(iV i_1)),(19,(.bool t_4))]∧St [] w0 w m []) ?_ ?_
   ·refine q_region (q_x (v:=(strV p_s)) hF hS (ex_move rfl) rfl rfl fun a hF=>q_x (v:=(iV i_1)) hF hS (ex_move rfl) rfl rfl fun a hF=>?_)
    obtain ⟨t_2,ht_2,hj3⟩:=bindS hj3
    refine q_x (v:=(.int .u8 t_2)) hF hS (ex_strIdx underlying9 rfl rfl ht_2) rfl rfl fun a hF=>q_x (v:=(.bool (decide (t_2<97)))) hF hS (ex_ibin rfl rfl rfl) rfl rfl fun a hF=>q_x (v:=(.bool (decide (t_2<97)))) hF hS (ex_move rfl) rfl rfl fun a hF=>?_
    rcases bcase (decide (t_2<97)) with hc4 | hc4
    ·have hj3:=cond_f hc4 hj3
     refine q_xg (v:=(strV p_s)) hF hS (ex_move rfl) (wanted_t hF rfl rfl rfl hc4) rfl fun a hF=>q_xg (v:=(iV i_1)) hF hS (ex_move rfl) (wanted_t hF rfl rfl rfl hc4) rfl fun a hF=>?_
     obtain ⟨t_3,ht_3,hj3⟩:=bindS hj3
     refine q_xg (v:=(.int .u8 t_3)) hF hS (ex_strIdx underlying9 rfl rfl ht_3) (wanted_t hF rfl rfl rfl hc4) rfl fun a hF=>q_xg (v:=(.bool (decide (122<t_3)))) hF hS (ex_ibin rfl rfl rfl) (wanted_t hF rfl rfl rfl hc4) rfl fun a hF=>q_x (v:=(.bool (decide (122<t_3)))) hF hS (ex_pick_f rfl rfl hc4) rfl rfl fun a hF=>q_end (n_jn ?_)
     obtain rfl:=someI hj3
     exact ⟨hF.sub ⟨rfl,rfl,rfl,trivial⟩,hS⟩
    ·have hj3:=cond_t hc4 hj3
     refine q_skip hF (wanted_f hF rfl rfl rfl hc4 rfl) rfl fun a hF=>q_skip hF (wanted_f hF rfl rfl rfl hc4 rfl) rfl fun a hF=>q_skip hF (wanted_f hF rfl rfl rfl hc4 rfl) rfl fun a hF=>q_skip hF (wanted_f hF rfl rfl rfl hc4 rfl) rfl fun a hF=>q_x (v:=(.bool true)) hF hS (ex_pick_t rfl rfl hc4) rfl rfl fun a hF=>q_end (n_jn ?_)
     obtain rfl:=someI hj3
     exact ⟨hF.sub ⟨rfl,rfl,rfl,trivial⟩,hS⟩
   ·rintro a w ⟨hF,hS⟩
    refine n_sq ?_
    rcases bcase (t_4) with hc5 | hc5
    ·have hb1:=cond_f hc5 hb1
     refine q_cond_f hF rfl hc5 (q_skipc (n_ib (n_sq (q_region (q_x (v:=(iV i_1)) hF hS (ex_move rfl) rfl rfl fun a hF=>q_x (v:=(iV (w64 (i_1 + 1)))) hF hS (ex_ibin rfl rfl rfl) rfl rfl fun a hF=>q_x (v:=(iV (w64 (i_1 + 1)))) hF hS (ex_assign rfl) rfl rfl fun a hF=>q_end ?_)))))
     obtain rfl:=someI hb1
     exact ⟨rfl,hF.sub ⟨rfl,rfl,trivial⟩,hS⟩
    ·have hb1:=cond_t hc5 hb1
     refine q_cond_t hF rfl hc5 (q_seq (q_region (q_x (v:=(.bool false)) hF hS (ex_assign rfl) rfl rfl fun a hF=>q_end (n_sq (q_ret (r_ib (r_sq ?_)))))))
     obtain rfl:=someI hb1
     refine ⟨nofun,.inr fun ho=>?_⟩
     subst ho
     refine r_ib (r_sq ?_)
     obtain rfl:=someI hr
     exact ret_of hF hS rfl (.tmp rfl .nil) rfl
 ·rintro e a w ⟨rfl,rfl,hF,hS⟩
  refine x_ib (n_sq ?_)
  refine q_seq (q_region (q_x (v:=(strV p_s)) hF hS (ex_move rfl) rfl rfl fun a hF=>q_x (v:=(iV (goLen p_s))) hF hS (ex_strLen underlying9 rfl) rfl rfl fun a hF=>?_))
  obtain ⟨t_5,ht_5,hr⟩:=bindS hr
  refine q_call (vs:=[(iV (goLen p_s)),(iV 1),(iV 8)]) hF hS func38 (by kernel_rfl) rfl rfl rfl (c_spec_l1In (goLen p_s) 1 8 t_5 ht_5 _ m hS.vis) ?_
  rintro a w _ rfl hF hS
  refine q_x (v:=(.bool t_5)) hF hS (ex_assign rfl) rfl rfl fun a hF=>q_end (n_sq (q_ret ?_))
  obtain rfl:=someI hr
  exact ret_of hF hS rfl (.tmp rfl .nil) rfl

theorem c_spec_sFind (p_s:List impl_Variable) (p_name:List UInt8) (r:Int) (hr:spec_sFind p_s p_name=some r) (w0:World) (m:Mem) (hv:Vis m w0) (s1:Sl) (h1:Rd m s1 p_s) :
  Ret prog 100 [s1.v,(strV p_name)] w0 (fun v _=>v=(iV r)):=by
 unfold spec_sFind at hr
 refine ret_start func100 rfl 20 rfl rfl m hv fun a hF hS=>q_seq (q_region (q_x (v:=(iV 0)) hF hS (ex_assign rfl) rfl rfl fun a hF=>q_end (n_sq (q_seq (q_seq (q_region (q_x (v:=s1.v) hF hS (ex_move rfl) rfl rfl fun a hF=>q_x (v:=(iV (goLen p_s))) hF hS (ex_len underlying26 rfl h1.len) rfl rfl fun a hF=>q_x (v:=(iV 0)) hF hS (ex_move rfl) rfl rfl fun a hF=>q_end (n_sq (q_block ?_)))))))))
 obtain ⟨o1,hl1,hr⟩:=bindS hr
 refine q_loop (fun (t_2:Int) a w=>Fr a 20 [(1,(strV p_name)),(7,s1.v),(8,(iV (goLen p_s))),(9,(iV t_2))]∧St [] w0 w m []) (fun (o:(Unit) ⊕ (Int)) e a w=>o=.inl ()∧e=.exit 0∧Fr a 20 []∧St [] w0 w m []) hl1 ⟨hF.sub ⟨rfl,rfl,rfl,rfl,trivial⟩,hS⟩ ?_ ?_
 ·clear hF hS
  rintro t_2 a w st ⟨hF,hS⟩ hb1
  unfold spec_sFind_l1 at hb1
  refine q_seq (q_region (q_x (v:=(.bool (decide (t_2<(goLen p_s))))) hF hS (ex_ibin rfl rfl rfl) rfl rfl fun a hF=>q_end (n_sq (q_seq ?_))))
  rcases bcase (decide (t_2<(goLen p_s))) with hc2 | hc2
  ·have hb1:=cond_f hc2 hb1
   refine q_cond_f hF rfl hc2 (q_exit (x_sq ?_))
   obtain rfl:=someI hb1
   exact ⟨nofun,.inl ⟨rfl,rfl,hF.sub trivial,hS⟩⟩
  ·have hb1:=cond_t hc2 hb1
   refine q_cond_t hF rfl hc2 (q_skipc (n_sq (q_seq (q_block (q_seq (q_region (q_x (v:=(iV t_2)) hF hS (ex_move rfl) rfl rfl fun a hF=>?_)))))))
   obtain ⟨e_3,he_3,hb1⟩:=bindS hb1
   obtain ⟨vs4,at4,d4⟩:=h1.at he_3 2 rfl
   obtain rfl:vs4=[(strV e_3.Name),(iV e_3.Levels)]:=d4
   refine q_x (v:=(elP s1 (t_2.toNat * 2))) hF hS (ex_indexAddr underlying26 sz55 rfl rfl (h1.idx he_3)) rfl rfl fun a hF=>q_x (v:=(.agg #[(strV e_3.Name),(iV e_3.Levels)])) hF hS (ex_loadEA (us:=[(strV e_3.Name),(iV e_3.Levels)]) 0 underlying55 rfl sz55 rfl ((at4).at) rfl rfl rfl) rfl rfl fun a hF=>q_alloc (cs:=[(strV ([]:List UInt8)),(iV 0)]) hF hS rfl rfl rfl fun a w b5 hF hS=>q_x (v:=(iV t_2)) hF hS (ex_assign rfl) rfl rfl fun a hF=>q_store (vs:=[(strV e_3.Name),(iV e_3.Levels)]) (cs':=[(strV e_3.Name),(iV e_3.Levels)]) 0 0 hF hS sz55 rfl rfl rfl rfl rfl rfl rfl rfl fun a w hF hS=>q_end (n_sq (q_seq (q_region (q_x (v:=(.pointer (some ⟨b5,0,none⟩))) hF hS (ex_fieldAddr underlying55 rfl sz9 rfl rfl) rfl rfl fun a hF=>q_x (v:=(strV e_3.Name)) hF hS (ex_load1 0 0 underlying9 rfl rfl rfl rfl) rfl rfl fun a hF=>q_x (v:=(strV p_name)) hF hS (ex_move rfl) rfl rfl fun a hF=>q_x (v:=(.bool (e_3.Name == p_name))) hF hS (ex_strEq rfl rfl) rfl rfl fun a hF=>q_end (n_sq ?_)))))
   rcases bcase (e_3.Name == p_name) with hc3 | hc3
   ·have hb1:=cond_f hc3 hb1
    refine q_cond_f hF rfl hc3 (q_skipc (n_ib (n_sq (q_region (q_x (v:=(iV (w64 (t_2 + 1)))) hF hS (ex_ibin rfl rfl rfl) rfl rfl fun a hF=>q_x (v:=(iV (w64 (t_2 + 1)))) hF hS (ex_move rfl) rfl rfl fun a hF=>q_end ?_)))))
    obtain rfl:=someI hb1
    exact ⟨rfl,hF.sub ⟨rfl,rfl,rfl,rfl,trivial⟩,hS.mask [false]⟩
   ·have hb1:=cond_t hc3 hb1
    refine q_cond_t hF rfl hc3 (q_seq (q_region (q_x (v:=(iV t_2)) hF hS (ex_move rfl) rfl rfl fun a hF=>q_x (v:=(iV t_2)) hF hS (ex_assign rfl) rfl rfl fun a hF=>q_end (n_sq (q_ret (r_ib (r_sq ?_)))))))
    obtain rfl:=someI hb1
    refine ⟨nofun,.inr fun ho=>?_⟩
    subst ho
    refine r_ib (r_sq ?_)
    obtain rfl:=someI hr
    exact ret_of hF hS rfl (.tmp rfl .nil) rfl
 ·rintro e a w ⟨rfl,rfl,hF,hS⟩
  refine x_ib (n_sq ?_)
  refine q_seq (q_region (q_x (v:=(iV (-1))) hF hS (ex_assign rfl) rfl rfl fun a hF=>q_end (n_sq (q_ret ?_))))
  obtain rfl:=someI hr
  exact ret_of hF hS rfl (.tmp rfl .nil) rfl

theorem c_spec_sGood (p_s:List impl_Variable) (r:Bool) (hr:spec_sGood p_s=some r) (w0:World) (m:Mem) (hv:Vis m w0) (s1:Sl) (h1:Rd m s1 p_s) :
  Ret prog 64 [s1.v] w0 (fun v _=>v=(.bool r)):=by
 unfold spec_sGood at hr
 refine ret_start func64 rfl 36 rfl rfl m hv fun a hF hS=>q_seq (q_region (q_x (v:=(.bool false)) hF hS (ex_assign rfl) rfl rfl fun a hF=>q_end (n_sq (q_seq (q_seq (q_region (q_x (v:=s1.v) hF hS (ex_move rfl) rfl rfl fun a hF=>q_x (v:=(iV (goLen p_s))) hF hS (ex_len underlying26 rfl h1.len) rfl rfl fun a hF=>?_)))))))
 obtain ⟨t_2,ht_2,hr⟩:=bindS hr
 refine q_call (vs:=[(iV (goLen p_s)),(iV 1),(iV 6)]) hF hS func38 (by kernel_rfl) rfl rfl rfl (c_spec_l1In (goLen p_s) 1 6 t_2 ht_2 _ m hS.vis) ?_
 rintro a w _ rfl hF hS
 refine q_x (v:=(.bool (!t_2))) hF hS (ex_not rfl) rfl rfl fun a hF=>q_end (n_sq ?_)
 rcases bcase (!t_2) with hc1 | hc1
 ·have hr:=cond_f hc1 hr
  refine q_cond_f hF rfl hc1 (q_skipc (n_sq (q_seq (q_seq (q_region (q_x (v:=s1.v) hF hS (ex_move rfl) rfl rfl fun a hF=>q_x (v:=(iV (goLen p_s))) hF hS (ex_len underlying26 rfl h1.len) rfl rfl fun a hF=>q_x (v:=(iV 0)) hF hS (ex_move rfl) rfl rfl fun a hF=>q_end (n_sq (q_block ?_))))))))
  obtain ⟨o2,hl2,hr⟩:=bindS hr
  refine q_loop (fun (t_3:Int) a w=>Fr a 36 [(0,s1.v),(9,s1.v),(10,(iV (goLen p_s))),(11,(iV t_3))]∧St [] w0 w m []) (fun (o:(Unit) ⊕ (Bool)) e a w=>o=.inl ()∧e=.exit 0∧Fr a 36 []∧St [] w0 w m []) hl2 ⟨hF.sub ⟨rfl,rfl,rfl,rfl,trivial⟩,hS⟩ ?_ ?_
  ·clear hF hS
   rintro t_3 a w st ⟨hF,hS⟩ hb2
   unfold spec_sGood_l1 at hb2
   refine q_seq (q_region (q_x (v:=(.bool (decide (t_3<(goLen p_s))))) hF hS (ex_ibin rfl rfl rfl) rfl rfl fun a hF=>q_end (n_sq (q_seq ?_))))
   rcases bcase (decide (t_3<(goLen p_s))) with hc3 | hc3
   ·have hb2:=cond_f hc3 hb2
    refine q_cond_f hF rfl hc3 (q_exit (x_sq ?_))
    obtain rfl:=someI hb2
    exact ⟨nofun,.inl ⟨rfl,rfl,hF.sub trivial,hS⟩⟩
   ·have hb2:=cond_t hc3 hb2
    refine q_cond_t hF rfl hc3 (q_skipc (n_sq (q_seq (q_block (q_seq (q_region (q_x (v:=(iV t_3)) hF hS (ex_move rfl) rfl rfl fun a hF=>?_)))))))
    obtain ⟨e_4,he_4,hb2⟩:=bindS hb2
    obtain ⟨vs5,at5,d5⟩:=h1.at he_4 2 rfl
    obtain rfl:vs5=[(strV e_4.Name),(iV e_4.Levels)]:=d5
    refine q_x (v:=(elP s1 (t_3.toNat * 2))) hF hS (ex_indexAddr underlying26 sz55 rfl rfl (h1.idx he_4)) rfl rfl fun a hF=>q_x (v:=(.agg #[(strV e_4.Name),(iV e_4.Levels)])) hF hS (ex_loadEA (us:=[(strV e_4.Name),(iV e_4.Levels)]) 0 underlying55 rfl sz55 rfl ((at5).at) rfl rfl rfl) rfl rfl fun a hF=>q_alloc (cs:=[(strV ([]:List UInt8)),(iV 0)]) hF hS rfl rfl rfl fun a w b6 hF hS=>q_x (v:=(iV t_3)) hF hS (ex_assign rfl) rfl rfl fun a hF=>q_store (vs:=[(strV e_4.Name),(iV e_4.Levels)]) (cs':=[(strV e_4.Name),(iV e_4.Levels)]) 0 0 hF hS sz55 rfl rfl rfl rfl rfl rfl rfl rfl fun a w hF hS=>q_end (n_sq (q_seq ?_))
    obtain ⟨t_12,hj4,hb2⟩:=bindS hb2
    refine q_join (fun a w=>Fr a 36 [(0,s1.v),(9,s1.v),(10,(iV (goLen p_s))),(11,(iV t_3)),(34,(.bool t_12))]∧St [] w0 w m []) ?_ ?_
    ·refine e_region ⟨[],[]⟩ mixed fun w' hw'=>?_
     have hS:=hS.below hw'
     refine e_p (v:=(.pointer (some ⟨b6,0,none⟩))) 0 hF rfl (ex_fieldAddr underlying55 rfl sz9 rfl rfl) rfl rfl (by kernel_rfl) (by kernel_rfl) (by kernel_rfl) fun a hF=>e_x (v:=(strV e_4.Name)) 1 hF hS rfl (ex_load1 0 0 underlying9 rfl rfl rfl rfl) rfl rfl (by kernel_rfl) (by kernel_rfl) (by kernel_rfl) (by kernel_rfl) fun a hF=>e_one 2 (by kernel_rfl) ?_
     obtain ⟨t_7,ht_7,hj4⟩:=bindS hj4
     refine e_call (vs:=[(strV e_4.Name)]) hF hS rfl func99 (by kernel_rfl) rfl rfl rfl (c_spec_sName e_4.Name t_7 ht_7 _ m hS.vis) ?_
     rintro a w _ rfl hF hS
     refine e_p (v:=(.bool (!t_7))) 3 hF rfl (ex_not rfl) rfl rfl (by kernel_rfl) (by kernel_rfl) (by kernel_rfl) fun a hF=>e_p (v:=(.bool (!t_7))) 4 hF rfl (ex_move rfl) rfl rfl (by kernel_rfl) (by kernel_rfl) (by kernel_rfl) fun a hF=>?_
     rcases bcase (!t_7) with hc5 | hc5
     ·have hj4:=cond_f hc5 hj4
      refine e_pg (v:=(.pointer (some ⟨b6,1,none⟩))) 5 hF rfl (ex_fieldAddr underlying55 rfl sz3 rfl rfl) (wanted_t hF rfl rfl rfl hc5) rfl (by kernel_rfl) (by kernel_rfl) (by kernel_rfl) fun a hF=>e_xg (v:=(iV e_4.Levels)) 6 hF hS rfl (ex_load1 0 0 underlying3 rfl rfl rfl rfl) (wanted_t hF rfl rfl rfl hc5) rfl (by kernel_rfl) (by kernel_rfl) (by kernel_rfl) (by kernel_rfl) fun a hF=>e_one 7 (by kernel_rfl) ?_
      obtain ⟨t_8,ht_8,hj4⟩:=bindS hj4
      refine e_callg (vs:=[(iV e_4.Levels),(iV 2),(iV 8)]) hF hS rfl (wanted_t hF rfl rfl rfl hc5) func38 (by kernel_rfl) rfl rfl rfl (c_spec_l1In e_4.Levels 2 8 t_8 ht_8 _ m hS.vis) ?_
      rintro a w _ rfl hF hS
      refine e_pg (v:=(.bool (!t_8))) 8 hF rfl (ex_not rfl) (wanted_t hF rfl rfl rfl hc5) rfl (by kernel_rfl) (by kernel_rfl) (by kernel_rfl) fun a hF=>e_p (v:=(.bool (!t_8))) 9 hF rfl (ex_pick_f rfl rfl hc5) rfl rfl (by kernel_rfl) (by kernel_rfl) (by kernel_rfl) fun a hF=>e_p (v:=(.bool (!t_8))) 10 hF rfl (ex_move rfl) rfl rfl (by kernel_rfl) (by kernel_rfl) (by kernel_rfl) fun a hF=>?_
      rcases bcase (!t_8) with hc6 | hc6
      ·have hj4:=cond_f hc6 hj4
       refine e_pg (v:=s1.v) 11 hF rfl (ex_move rfl) (wanted_t hF rfl rfl rfl hc6) rfl (by kernel_rfl) (by kernel_rfl) (by kernel_rfl) fun a hF=>e_pg (v:=(iV t_3)) 12 hF rfl (ex_move rfl) (wanted_t hF rfl rfl rfl hc6) rfl (by kernel_rfl) (by kernel_rfl) (by kernel_rfl) fun a hF=>?_
       obtain ⟨l_9,hl_9,hj4⟩:=bindS hj4
       have h10:Rd m (subS s1 2 (0:Int).toNat t_3.toNat s1.cap) l_9:=h1.sub' hl_9 2 rfl
       refine e_pg (v:=(subS s1 2 (0:Int).toNat t_3.toNat s1.cap).v) 13 hF rfl (ex_slice underlying26 sz55 rfl rfl rfl (.inl ⟨rfl,rfl⟩) (.inr ⟨_,rfl⟩) (h1.subok hl_9)) (wanted_t hF rfl rfl rfl hc6) rfl (by kernel_rfl) (by kernel_rfl) (by kernel_rfl) fun a hF=>e_pg (v:=(.pointer (some ⟨b6,0,none⟩))) 14 hF rfl (ex_fieldAddr underlying55 rfl sz9 rfl rfl) (wanted_t hF rfl rfl rfl hc6) rfl (by kernel_rfl) (by kernel_rfl) (by kernel_rfl) fun a hF=>e_xg (v:=(strV e_4.Name)) 15 hF hS rfl (ex_load1 0 0 underlying9 rfl rfl rfl rfl) (wanted_t hF rfl rfl rfl hc6) rfl (by kernel_rfl) (by kernel_rfl) (by kernel_rfl) (by kernel_rfl) fun a hF=>e_one 16 (by kernel_rfl) ?_
       obtain ⟨t_11,ht_11,hj4⟩:=bindS hj4
       refine e_callg (vs:=[(subS s1 2 (0:Int).toNat t_3.toNat s1.cap).v,(strV e_4.Name)]) hF hS rfl (wanted_t hF rfl rfl rfl hc6) func100 (by kernel_rfl) rfl rfl rfl (c_spec_sFind l_9 e_4.Name t_11 ht_11 _ m hS.vis (subS s1 2 (0:Int).toNat t_3.toNat s1.cap) h10) ?_
       rintro a w _ rfl hF hS
       refine e_pg (v:=(.bool (decide (0≤t_11)))) 17 hF rfl (ex_ibin rfl rfl rfl) (wanted_t hF rfl rfl rfl hc6) rfl (by kernel_rfl) (by kernel_rfl) (by kernel_rfl) fun a hF=>e_p (v:=(.bool (decide (0≤t_11)))) 18 hF rfl (ex_pick_f rfl rfl hc6) rfl rfl (by kernel_rfl) (by kernel_rfl) (by kernel_rfl) fun a hF=>e_end (by kernel_rfl) (n_jn ?_) _
       obtain rfl:=someI hj4
       exact ⟨hF.sub ⟨rfl,rfl,rfl,rfl,rfl,trivial⟩,hS.mask [false]⟩
      ·have hj4:=cond_t hc6 hj4
       refine e_skipP 11 hF rfl (wanted_f hF rfl rfl rfl hc6 rfl) rfl (by kernel_rfl) (by kernel_rfl) (by kernel_rfl) fun a hF=>e_skipP 12 hF rfl (wanted_f hF rfl rfl rfl hc6 rfl) rfl (by kernel_rfl) (by kernel_rfl) (by kernel_rfl) fun a hF=>e_skipP 13 hF rfl (wanted_f hF rfl rfl rfl hc6 rfl) rfl (by kernel_rfl) (by kernel_rfl) (by kernel_rfl) fun a hF=>e_skipP 14 hF rfl (wanted_f hF rfl rfl rfl hc6 rfl) rfl (by kernel_rfl) (by kernel_rfl) (by kernel_rfl) fun a hF=>e_skipP 15 hF rfl (wanted_f hF rfl rfl rfl hc6 rfl) rfl (by kernel_rfl) (by kernel_rfl) (by kernel_rfl) fun a hF=>e_skipP 16 hF rfl (wanted_f hF rfl rfl rfl hc6 rfl) rfl (by kernel_rfl) (by kernel_rfl) (by kernel_rfl) fun a hF=>e_skipP 17 hF rfl (wanted_f hF rfl rfl rfl hc6 rfl) rfl (by kernel_rfl) (by kernel_rfl) (by kernel_rfl) fun a hF=>e_p (v:=(.bool true)) 18 hF rfl (ex_pick_t rfl rfl hc6) rfl rfl (by kernel_rfl) (by kernel_rfl) (by kernel_rfl) fun a hF=>e_end (by kernel_rfl) (n_jn ?_) _
       obtain rfl:=someI hj4
       exact ⟨hF.sub ⟨rfl,rfl,rfl,rfl,rfl,trivial⟩,hS.mask [false]⟩
     ·have hj4:=cond_t hc5 hj4
      refine e_skipP 5 hF rfl (wanted_f hF rfl rfl rfl hc5 rfl) rfl (by kernel_rfl) (by kernel_rfl) (by kernel_rfl) fun a hF=>e_skipP 6 hF rfl (wanted_f hF rfl rfl rfl hc5 rfl) rfl (by kernel_rfl) (by kernel_rfl) (by kernel_rfl) fun a hF=>e_skipP 7 hF rfl (wanted_f hF rfl rfl rfl hc5 rfl) rfl (by kernel_rfl) (by kernel_rfl) (by kernel_rfl) fun a hF=>e_skipP 8 hF rfl (wanted_f hF rfl rfl rfl hc5 rfl) rfl (by kernel_rfl) (by kernel_rfl) (by kernel_rfl) fun a hF=>e_p (v:=(.bool true)) 9 hF rfl (ex_pick_t rfl rfl hc5) rfl rfl (by kernel_rfl) (by kernel_rfl) (by kernel_rfl) fun a hF=>e_p (v:=(.bool true)) 10 hF rfl (ex_move rfl) rfl rfl (by kernel_rfl) (by kernel_rfl) (by kernel_rfl) fun a hF=>e_skipP 11 hF rfl (wanted_f hF rfl rfl rfl rfl rfl) rfl (by kernel_rfl) (by kernel_rfl) (by kernel_rfl) fun a hF=>e_skipP 12 hF rfl (wanted_f hF rfl rfl rfl rfl rfl) rfl (by kernel_rfl) (by kernel_rfl) (by kernel_rfl) fun a hF=>e_skipP 13 hF rfl (wanted_f hF rfl rfl rfl rfl rfl) rfl (by kernel_rfl) (by kernel_rfl) (by kernel_rfl) fun a hF=>e_skipP 14 hF rfl (wanted_f hF rfl rfl rfl rfl rfl) rfl (by kernel_rfl) (by kernel_rfl) (by kernel_rfl) fun a hF=>e_skipP 15 hF rfl (wanted_f hF rfl rfl rfl rfl rfl) rfl (by kernel_rfl) (by kernel_rfl) (by kernel_rfl) fun a hF=>e_skipP 16 hF rfl (wanted_f hF rfl rfl rfl rfl rfl) rfl (by kernel_rfl) (by kernel_rfl) (by kernel_rfl) fun a hF=>e_skipP 17 hF rfl (wanted_f hF rfl rfl rfl rfl rfl) rfl (by kernel_rfl) (by kernel_rfl) (by kernel_rfl) fun a hF=>e_p (v:=(.bool true)) 18 hF rfl (ex_pick_t rfl rfl rfl) rfl rfl (by kernel_rfl) (by kernel_rfl) (by kernel_rfl) fun a hF=>e_end (by kernel_rfl) (n_jn ?_) _
      obtain rfl:=someI hj4
      exact ⟨hF.sub ⟨rfl,rfl,rfl,rfl,rfl,trivial⟩,hS.mask [false]⟩
    ·rintro a w ⟨hF,hS⟩
     refine n_sq ?_
     rcases bcase (t_12) with hc7 | hc7
     ·have hb2:=cond_f hc7 hb2
      refine q_cond_f hF rfl hc7 (q_skipc (n_ib (n_sq (q_region (q_x (v:=(iV (w64 (t_3 + 1)))) hF hS (ex_ibin rfl rfl rfl) rfl rfl fun a hF=>q_x (v:=(iV (w64 (t_3 + 1)))) hF hS (ex_move rfl) rfl rfl fun a hF=>q_end ?_)))))
      obtain rfl:=someI hb2
      exact ⟨rfl,hF.sub ⟨rfl,rfl,rfl,rfl,trivial⟩,hS⟩
     ·have hb2:=cond_t hc7 hb2
      refine q_cond_t hF rfl hc7 (q_seq (q_region (q_x (v:=(.bool false)) hF hS (ex_assign rfl) rfl rfl fun a hF=>q_end (n_sq (q_ret (r_ib (r_sq ?_)))))))
      obtain rfl:=someI hb2
      refine ⟨nofun,.inr fun ho=>?_⟩
      subst ho
      refine r_ib (r_sq ?_)
      obtain rfl:=someI hr
      exact ret_of hF hS rfl (.tmp rfl .nil) rfl
  ·rintro e a w ⟨rfl,rfl,hF,hS⟩
   refine x_ib (n_sq ?_)
   refine q_seq (q_region (q_x (v:=(.bool true)) hF hS (ex_assign rfl) rfl rfl fun a hF=>q_end (n_sq (q_ret ?_))))
   obtain rfl:=someI hr
   exact ret_of hF hS rfl (.tmp rfl .nil) rfl
 ·have hr:=cond_t hc1 hr
  refine q_cond_t hF rfl hc1 (q_seq (q_region (q_x (v:=(.bool false)) hF hS (ex_assign rfl) rfl rfl fun a hF=>q_end (n_sq (q_ret (r_sq ?_))))))
  obtain rfl:=someI hr
  exact ret_of hF hS rfl (.tmp rfl .nil) rfl

theorem c_spec_l1Rising (p_l:List Int) (p_lo:Int) (p_hi:Int) (r:Bool) (hr:spec_l1Rising p_l p_lo p_hi=some r) (w0:World) (m:Mem) (hv:Vis m w0) (s1:Sl) (h1:Rd m s1 p_l) :
  Ret prog 66 [s1.v,(iV p_lo),(iV p_hi)] w0 (fun v _=>v=(.bool r)):=by
 unfold spec_l1Rising at hr
 refine ret_start func66 rfl 35 rfl rfl m hv fun a hF hS=>q_seq (q_region (q_x (v:=(.bool false)) hF hS (ex_assign rfl) rfl rfl fun a hF=>q_end (n_sq (q_seq (q_seq (q_region (q_x (v:=s1.v) hF hS (ex_move rfl) rfl rfl fun a hF=>q_x (v:=(iV (goLen p_l))) hF hS (ex_len underlying23 rfl h1.len) rfl rfl fun a hF=>q_x (v:=(iV 0)) hF hS (ex_move rfl) rfl rfl fun a hF=>q_end (n_sq (q_block ?_)))))))))
 obtain ⟨o1,hl1,hr⟩:=bindS hr
 refine q_loop (fun (t_2:Int) a w=>Fr a 35 [(0,s1.v),(1,(iV p_lo)),(2,(iV p_hi)),(9,s1.v),(10,(iV (goLen p_l))),(11,(iV t_2))]∧St [] w0 w m []) (fun (o:(Unit) ⊕ (Bool)) e a w=>o=.inl ()∧e=.exit 0∧Fr a 35 []∧St [] w0 w m []) hl1 ⟨hF.sub ⟨rfl,rfl,rfl,rfl,rfl,rfl,trivial⟩,hS⟩ ?_ ?_
 ·clear hF hS
  rintro t_2 a w st ⟨hF,hS⟩ hb1
  unfold spec_l1Rising_l1 at hb1
  refine q_seq (q_region (q_x (v:=(.bool (decide (t_2<(goLen p_l))))) hF hS (ex_ibin rfl rfl rfl) rfl rfl fun a hF=>q_end (n_sq (q_seq ?_))))
  rcases bcase (decide (t_2<(goLen p_l))) with hc2 | hc2
  ·have hb1:=cond_f hc2 hb1
   refine q_cond_f hF rfl hc2 (q_exit (x_sq ?_))
   obtain rfl:=someI hb1
   exact ⟨nofun,.inl ⟨rfl,rfl,hF.sub trivial,hS⟩⟩
  ·have hb1:=cond_t hc2 hb1
   refine q_cond_t hF rfl hc2 (q_skipc (n_sq (q_seq (q_block (q_seq (q_region (q_x (v:=(iV t_2)) hF hS (ex_move rfl) rfl rfl fun a hF=>?_)))))))
   obtain ⟨e_3,he_3,hb1⟩:=bindS hb1
   obtain ⟨vs4,at4,d4⟩:=h1.at he_3 1 rfl
   obtain rfl:vs4=[(iV e_3)]:=d4
   refine q_x (v:=(elP s1 (t_2.toNat * 1))) hF hS (ex_indexAddr underlying23 sz3 rfl rfl (h1.idx he_3)) rfl rfl fun a hF=>q_x (v:=(iV e_3)) hF hS (ex_loadE1 0 underlying3 rfl rfl ((at4).at) rfl rfl) rfl rfl fun a hF=>q_x (v:=(iV t_2)) hF hS (ex_assign rfl) rfl rfl fun a hF=>q_x (v:=(iV e_3)) hF hS (ex_assign rfl) rfl rfl fun a hF=>q_end (n_sq (q_seq ?_))
   obtain ⟨t_8,hj3,hb1⟩:=bindS hb1
   refine q_join (fun a w=>Fr a 35 [(0,s1.v),(1,(iV p_lo)),(2,(iV p_hi)),(9,s1.v),(10,(iV (goLen p_l))),(11,(iV t_2)),(33,(.bool t_8))]∧St [] w0 w m []) ?_ ?_
   ·refine q_region (q_x (v:=(iV e_3)) hF hS (ex_move rfl) rfl rfl fun a hF=>q_x (v:=(iV p_lo)) hF hS (ex_move rfl) rfl rfl fun a hF=>q_x (v:=(iV p_hi)) hF hS (ex_move rfl) rfl rfl fun a hF=>?_)
    obtain ⟨t_5,ht_5,hj3⟩:=bindS hj3
    refine q_call (vs:=[(iV e_3),(iV p_lo),(iV p_hi)]) hF hS func38 (by kernel_rfl) rfl rfl rfl (c_spec_l1In e_3 p_lo p_hi t_5 ht_5 _ m hS.vis) ?_
    rintro a w _ rfl hF hS
    refine q_x (v:=(.bool (!t_5))) hF hS (ex_not rfl) rfl rfl fun a hF=>q_x (v:=(.bool (!t_5))) hF hS (ex_move rfl) rfl rfl fun a hF=>?_
    rcases bcase (!t_5) with hc4 | hc4
    ·have hj3:=cond_f hc4 hj3
     refine q_xg (v:=(iV t_2)) hF hS (ex_move rfl) (wanted_t hF rfl rfl rfl hc4) rfl fun a hF=>q_xg (v:=(.bool (decide (0<t_2)))) hF hS (ex_ibin rfl rfl rfl) (wanted_t hF rfl rfl rfl hc4) rfl fun a hF=>q_xg (v:=(.bool (decide (0<t_2)))) hF hS (ex_move rfl) (wanted_t hF rfl rfl rfl hc4) rfl fun a hF=>?_
     rcases bcase (decide (0<t_2)) with hc5 | hc5
     ·have hj3:=cond_f hc5 hj3
      refine q_skip hF (wanted_f hF rfl rfl rfl hc5 rfl) rfl fun a hF=>q_skip hF (wanted_f hF rfl rfl rfl hc5 rfl) rfl fun a hF=>q_skip hF (wanted_f hF rfl rfl rfl hc5 rfl) rfl fun a hF=>q_skip hF (wanted_f hF rfl rfl rfl hc5 rfl) rfl fun a hF=>q_skip hF (wanted_f hF rfl rfl rfl hc5 rfl) rfl fun a hF=>q_skip hF (wanted_f hF rfl rfl rfl hc5 rfl) rfl fun a hF=>q_skip hF (wanted_f hF rfl rfl rfl hc5 rfl) rfl fun a hF=>q_xg (v:=(.bool false)) hF hS (ex_pick_f rfl rfl hc5) (wanted_t hF rfl rfl rfl hc4) rfl fun a hF=>q_x (v:=(.bool false)) hF hS (ex_pick_f rfl rfl hc4) rfl rfl fun a hF=>q_end (n_jn ?_)
      obtain rfl:=someI hj3
      exact ⟨hF.sub ⟨rfl,rfl,rfl,rfl,rfl,rfl,rfl,trivial⟩,hS⟩
     ·have hj3:=cond_t hc5 hj3
      refine q_xg (v:=s1.v) hF hS (ex_move rfl) (wanted_t hF rfl rfl rfl hc5) rfl fun a hF=>q_xg (v:=(iV t_2)) hF hS (ex_move rfl) (wanted_t hF rfl rfl rfl hc5) rfl fun a hF=>q_xg (v:=(iV (w64 (t_2 - 1)))) hF hS (ex_ibin rfl rfl rfl) (wanted_t hF rfl rfl rfl hc5) rfl fun a hF=>?_
      obtain ⟨e_6,he_6,hj3⟩:=bindS hj3
      obtain ⟨vs7,at7,d7⟩:=h1.at he_6 1 rfl
      obtain rfl:vs7=[(iV e_6)]:=d7
      refine q_xg (v:=(elP s1 ((w64 (t_2 - 1)).toNat * 1))) hF hS (ex_indexAddr underlying23 sz3 rfl rfl (h1.idx he_6)) (wanted_t hF rfl rfl rfl hc5) rfl fun a hF=>q_xg (v:=(iV e_6)) hF hS (ex_loadE1 0 underlying3 rfl rfl ((at7).at) rfl rfl) (wanted_t hF rfl rfl rfl hc5) rfl fun a hF=>q_xg (v:=(iV e_3)) hF hS (ex_move rfl) (wanted_t hF rfl rfl rfl hc5) rfl fun a hF=>q_xg (v:=(.bool (decide (e_3≤e_6)))) hF hS (ex_ibin rfl rfl rfl) (wanted_t hF rfl rfl rfl hc5) rfl fun a hF=>q_xg (v:=(.bool (decide (e_3≤e_6)))) hF hS (ex_pick_t rfl rfl hc5) (wanted_t hF rfl rfl rfl hc4) rfl fun a hF=>q_x (v:=(.bool (decide (e_3≤e_6)))) hF hS (ex_pick_f rfl rfl hc4) rfl rfl fun a hF=>q_end (n_jn ?_)
      obtain rfl:=someI hj3
      exact ⟨hF.sub ⟨rfl,rfl,rfl,rfl,rfl,rfl,rfl,trivial⟩,hS⟩
    ·have hj3:=cond_t hc4 hj3
     refine q_skip hF (wanted_f hF rfl rfl rfl hc4 rfl) rfl fun a hF=>q_skip hF (wanted_f hF rfl rfl rfl hc4 rfl) rfl fun a hF=>q_skip hF (wanted_f hF rfl rfl rfl hc4 rfl) rfl fun a hF=>q_skip hF (wanted_u hF rfl rfl rfl) rfl fun a hF=>q_skip hF (wanted_u hF rfl rfl rfl) rfl fun a hF=>q_skip hF (wanted_u hF rfl rfl rfl) rfl fun a hF=>q_skip hF (wanted_u hF rfl rfl rfl) rfl fun a hF=>q_skip hF (wanted_u hF rfl rfl rfl) rfl fun a hF=>q_skip hF (wanted_u hF rfl rfl rfl) rfl fun a hF=>q_skip hF (wanted_u hF rfl rfl rfl) rfl fun a hF=>q_skip hF (wanted_f hF rfl rfl rfl hc4 rfl) rfl fun a hF=>q_x (v:=(.bool true)) hF hS (ex_pick_t rfl rfl hc4) rfl rfl fun a hF=>q_end (n_jn ?_)
     obtain rfl:=someI hj3
     exact ⟨hF.sub ⟨rfl,rfl,rfl,rfl,rfl,rfl,rfl,trivial⟩,hS⟩
   ·rintro a w ⟨hF,hS⟩
    refine n_sq ?_
    rcases bcase (t_8) with hc6 | hc6
    ·have hb1:=cond_f hc6 hb1
     refine q_cond_f hF rfl hc6 (q_skipc (n_ib (n_sq (q_region (q_x (v:=(iV (w64 (t_2 + 1)))) hF hS (ex_ibin rfl rfl rfl) rfl rfl fun a hF=>q_x (v:=(iV (w64 (t_2 + 1)))) hF hS (ex_move rfl) rfl rfl fun a hF=>q_end ?_)))))
     obtain rfl:=someI hb1
     exact ⟨rfl,hF.sub ⟨rfl,rfl,rfl,rfl,rfl,rfl,trivial⟩,hS⟩
    ·have hb1:=cond_t hc6 hb1
     refine q_cond_t hF rfl hc6 (q_seq (q_region (q_x (v:=(.bool false)) hF hS (ex_assign rfl) rfl rfl fun a hF=>q_end (n_sq (q_ret (r_ib (r_sq ?_)))))))
     obtain rfl:=someI hb1
     refine ⟨nofun,.inr fun ho=>?_⟩
     subst ho
     refine r_ib (r_sq ?_)
     obtain rfl:=someI hr
     exact ret_of hF hS rfl (.tmp rfl .nil) rfl
 ·rintro e a w ⟨rfl,rfl,hF,hS⟩
  refine x_ib (n_sq ?_)
  refine q_seq (q_region (q_x (v:=(.bool true)) hF hS (ex_assign rfl) rfl rfl fun a hF=>q_end (n_sq (q_ret ?_))))
  obtain rfl:=someI hr
  exact ret_of hF hS rfl (.tmp rfl .nil) rfl

theorem c_spec_uWhere (p_s:List impl_Variable) (p_where:List Int) (r:Bool) (hr:spec_uWhere p_s p_where=some r) (w0:World) (m:Mem) (hv:Vis m w0) (s1:Sl) (h1:Rd m s1 p_s) (s2:Sl) (h2:Rd m s2 p_where) :
  Ret prog 67 [s1.v,s2.v] w0 (fun v _=>v=(.bool r)):=by
 unfold spec_uWhere at hr
 refine ret_start func67 rfl 31 rfl rfl m hv fun a hF hS=>q_seq (q_region (q_x (v:=(.bool false)) hF hS (ex_assign rfl) rfl rfl fun a hF=>q_end (n_sq (q_seq (q_seq (q_region (q_x (v:=s2.v) hF hS (ex_move rfl) rfl rfl fun a hF=>q_x (v:=(iV (goLen p_where))) hF hS (ex_len underlying23 rfl h2.len) rfl rfl fun a hF=>q_x (v:=s1.v) hF hS (ex_move rfl) rfl rfl fun a hF=>q_x (v:=(iV (goLen p_s))) hF hS (ex_len underlying26 rfl h1.len) rfl rfl fun a hF=>q_x (v:=(.bool ((goLen p_where) != (goLen p_s)))) hF hS (ex_ibin rfl rfl rfl) rfl rfl fun a hF=>q_end (n_sq ?_))))))))
 rcases bcase ((goLen p_where) != (goLen p_s)) with hc1 | hc1
 ·have hr:=cond_f hc1 hr
  refine q_cond_f hF rfl hc1 (q_skipc (n_sq (q_seq (q_seq (q_region (q_x (v:=s1.v) hF hS (ex_move rfl) rfl rfl fun a hF=>q_x (v:=(iV (goLen p_s))) hF hS (ex_len underlying26 rfl h1.len) rfl rfl fun a hF=>q_x (v:=(iV 0)) hF hS (ex_move rfl) rfl rfl fun a hF=>q_end (n_sq (q_block ?_))))))))
  obtain ⟨o2,hl2,hr⟩:=bindS hr
  refine q_loop (fun (t_3:Int) a w=>Fr a 31 [(1,s2.v),(12,s1.v),(13,(iV (goLen p_s))),(14,(iV t_3))]∧St [] w0 w m []) (fun (o:(Unit) ⊕ (Bool)) e a w=>o=.inl ()∧e=.exit 0∧Fr a 31 []∧St [] w0 w m []) hl2 ⟨hF.sub ⟨rfl,rfl,rfl,rfl,trivial⟩,hS⟩ ?_ ?_
  ·clear hF hS
   rintro t_3 a w st ⟨hF,hS⟩ hb2
   unfold spec_uWhere_l1 at hb2
   refine q_seq (q_region (q_x (v:=(.bool (decide (t_3<(goLen p_s))))) hF hS (ex_ibin rfl rfl rfl) rfl rfl fun a hF=>q_end (n_sq (q_seq ?_))))
   rcases bcase (decide (t_3<(goLen p_s))) with hc3 | hc3
   ·have hb2:=cond_f hc3 hb2
    refine q_cond_f hF rfl hc3 (q_exit (x_sq ?_))
    obtain rfl:=someI hb2
    exact ⟨nofun,.inl ⟨rfl,rfl,hF.sub trivial,hS⟩⟩
   ·have hb2:=cond_t hc3 hb2
    refine q_cond_t hF rfl hc3 (q_skipc (n_sq (q_seq (q_block (q_seq (q_region (q_x (v:=(iV t_3)) hF hS (ex_move rfl) rfl rfl fun a hF=>?_)))))))
    obtain ⟨e_4,he_4,hb2⟩:=bindS hb2
    obtain ⟨vs5,at5,d5⟩:=h1.at he_4 2 rfl
    obtain rfl:vs5=[(strV e_4.Name),(iV e_4.Levels)]:=d5
    refine q_x (v:=(elP s1 (t_3.toNat * 2))) hF hS (ex_indexAddr underlying26 sz55 rfl rfl (h1.idx he_4)) rfl rfl fun a hF=>q_x (v:=(.agg #[(strV e_4.Name),(iV e_4.Levels)])) hF hS (ex_loadEA (us:=[(strV e_4.Name),(iV e_4.Levels)]) 0 underlying55 rfl sz55 rfl ((at5).at) rfl rfl rfl) rfl rfl fun a hF=>q_alloc (cs:=[(strV ([]:List UInt8)),(iV 0)]) hF hS rfl rfl rfl fun a w b6 hF hS=>q_x (v:=(iV t_3)) hF hS (ex_assign rfl) rfl rfl fun a hF=>q_store (vs:=[(strV e_4.Name),(iV e_4.Levels)]) (cs':=[(strV e_4.Name),(iV e_4.Levels)]) 0 0 hF hS sz55 rfl rfl rfl rfl rfl rfl rfl rfl fun a w hF hS=>q_end (n_sq (q_seq (e_region ⟨[],[]⟩ mixed fun w' hw'=>?_)))
    have hS:=hS.below hw'
    refine e_p (v:=s2.v) 0 hF rfl (ex_move rfl) rfl rfl (by kernel_rfl) (by kernel_rfl) (by kernel_rfl) fun a hF=>e_p (v:=(iV t_3)) 1 hF rfl (ex_move rfl) rfl rfl (by kernel_rfl) (by kernel_rfl) (by kernel_rfl) fun a hF=>?_
    obtain ⟨e_7,he_7,hb2⟩:=bindS hb2
    obtain ⟨vs8,at8,d8⟩:=h2.at he_7 1 rfl
    obtain rfl:vs8=[(iV e_7)]:=d8
    refine e_p (v:=(elP s2 (t_3.toNat * 1))) 2 hF rfl (ex_indexAddr underlying23 sz3 rfl rfl (h2.idx he_7)) rfl rfl (by kernel_rfl) (by kernel_rfl) (by kernel_rfl) fun a hF=>e_x (v:=(iV e_7)) 3 hF hS rfl (ex_loadE1 0 underlying3 rfl rfl ((at8).at) rfl rfl) rfl rfl (by kernel_rfl) (by kernel_rfl) (by kernel_rfl) (by kernel_rfl) fun a hF=>e_p (v:=(.pointer (some ⟨b6,1,none⟩))) 4 hF rfl (ex_fieldAddr underlying55 rfl sz3 rfl rfl) rfl rfl (by kernel_rfl) (by kernel_rfl) (by kernel_rfl) fun a hF=>e_x (v:=(iV e_4.Levels)) 5 hF hS rfl (ex_load1 0 0 underlying3 rfl rfl rfl rfl) rfl rfl (by kernel_rfl) (by kernel_rfl) (by kernel_rfl) (by kernel_rfl) fun a hF=>e_p (v:=(.int .u64 (IntKind.wrap .u64 e_4.Levels))) 6 hF rfl (ex_conv underlying3 underlying97 rfl) rfl rfl (by kernel_rfl) (by kernel_rfl) (by kernel_rfl) fun a hF=>?_
    obtain ⟨t_9,ht_9,hb2⟩:=bindS hb2
    refine e_p (v:=(iV t_9)) 7 hF rfl (ex_shl rfl rfl ht_9) rfl rfl (by kernel_rfl) (by kernel_rfl) (by kernel_rfl) fun a hF=>e_p (v:=(iV (w64 (t_9 - 1)))) 8 hF rfl (ex_ibin rfl rfl rfl) rfl rfl (by kernel_rfl) (by kernel_rfl) (by kernel_rfl) fun a hF=>e_one 9 (by kernel_rfl) ?_
    obtain ⟨t_10,ht_10,hb2⟩:=bindS hb2
    refine e_call (vs:=[(iV e_7),(iV 0),(iV (w64 (t_9 - 1)))]) hF hS rfl func38 (by kernel_rfl) rfl rfl rfl (c_spec_l1In e_7 0 (w64 (t_9 - 1)) t_10 ht_10 _ m hS.vis) ?_
    rintro a w _ rfl hF hS
    refine e_p (v:=(.bool (!t_10))) 10 hF rfl (ex_not rfl) rfl rfl (by kernel_rfl) (by kernel_rfl) (by kernel_rfl) fun a hF=>e_end (by kernel_rfl) (n_sq ?_) _
    rcases bcase (!t_10) with hc4 | hc4
    ·have hb2:=cond_f hc4 hb2
     refine q_cond_f hF rfl hc4 (q_skipc (n_ib (n_sq (q_region (q_x (v:=(iV (w64 (t_3 + 1)))) hF hS (ex_ibin rfl rfl rfl) rfl rfl fun a hF=>q_x (v:=(iV (w64 (t_3 + 1)))) hF hS (ex_move rfl) rfl rfl fun a hF=>q_end ?_)))))
     obtain rfl:=someI hb2
     exact ⟨rfl,hF.sub ⟨rfl,rfl,rfl,rfl,trivial⟩,hS.mask [false]⟩
    ·have hb2:=cond_t hc4 hb2
     refine q_cond_t hF rfl hc4 (q_seq (q_region (q_x (v:=(.bool false)) hF hS (ex_assign rfl) rfl rfl fun a hF=>q_end (n_sq (q_ret (r_ib (r_sq ?_)))))))
     obtain rfl:=someI hb2
     refine ⟨nofun,.inr fun ho=>?_⟩
     subst ho
     refine r_ib (r_sq ?_)
     obtain rfl:=someI hr
     exact ret_of hF hS rfl (.tmp rfl .nil) rfl
  ·rintro e a w ⟨rfl,rfl,hF,hS⟩
   refine x_ib (n_sq ?_)
   refine q_seq (q_region (q_x (v:=(.bool true)) hF hS (ex_assign rfl) rfl rfl fun a hF=>q_end (n_sq (q_ret ?_))))
   obtain rfl:=someI hr
   exact ret_of hF hS rfl (.tmp rfl .nil) rfl
 ·have hr:=cond_t hc1 hr
  refine q_cond_t hF rfl hc1 (q_seq (q_region (q_x (v:=(.bool false)) hF hS (ex_assign rfl) rfl rfl fun a hF=>q_end (n_sq (q_ret (r_sq ?_))))))
  obtain rfl:=someI hr
  exact ret_of hF hS rfl (.tmp rfl .nil) rfl

theorem c_spec_sPart (p_s:List impl_Variable) (p_vars:List Int) (r:(List impl_Variable)) (hr:spec_sPart p_s p_vars=some r) (w0:World) (m:Mem) (hv:Vis m w0) (s1:Sl) (h1:Rd m s1 p_s) (s2:Sl) (h2:Rd m s2 p_vars) :
  Ret prog 74 [s1.v,s2.v] w0 (fun v w=>∃ (q0':Piece) (s0':Sl),v=s0'.v∧St [] w0 w m [q0']∧OwnL m 55 q0' s0' r):=by
 unfold spec_sPart at hr
 refine ret_start func74 rfl 23 rfl rfl m hv fun a hF hS=>q_seq (q_region (q_x (v:=nilS.v) hF hS (ex_assign rfl) rfl rfl fun a hF=>q_end (n_sq (q_seq (q_region (q_x (v:=nilS.v) hF hS (ex_assign rfl) rfl rfl fun a hF=>q_end (n_sq (q_seq (q_seq (q_region (q_x (v:=s2.v) hF hS (ex_move rfl) rfl rfl fun a hF=>q_x (v:=(iV (goLen p_vars))) hF hS (ex_len underlying23 rfl h2.len) rfl rfl fun a hF=>q_x (v:=(iV 0)) hF hS (ex_move rfl) rfl rfl fun a hF=>q_end (n_sq (q_block ?_)))))))))))))
 obtain ⟨out_13,hl1,hr⟩:=bindS hr
 refine q_loop (fun (s:(List impl_Variable) × Int) a w=>∃ (q4:Piece),∃ (s4:Sl),∃ out_3,∃ t_5,s=(out_3,t_5)∧Fr a 23 [(0,s1.v),(5,s4.v),(8,s2.v),(9,(iV (goLen p_vars))),(10,(iV t_5))]∧St [] w0 w m [q4]∧OwnL m 55 q4 s4 out_3) (fun (out_13:(List impl_Variable)) e a w=>∃ (q14:Piece),∃ (s14:Sl),e=.exit 0∧Fr a 23 [(5,s14.v)]∧St [] w0 w m [q14]∧OwnL m 55 q14 s14 out_13) hl1 ⟨[],nilS,_,_,rfl,hF.sub ⟨rfl,rfl,rfl,rfl,rfl,trivial⟩,hS.sel [0] (by decide),(OwnL.nil (α:=impl_Variable) m 55)⟩ ?_ ?_
 ·clear hF hS
  rintro s a w st ⟨q4,s4,out_3,t_5,rfl,hF,hS,h4⟩ hb1
  unfold spec_sPart_l1 at hb1
  refine q_seq (q_region (q_x (v:=(.bool (decide (t_5<(goLen p_vars))))) hF hS (ex_ibin rfl rfl rfl) rfl rfl fun a hF=>q_end (n_sq (q_seq ?_))))
  rcases bcase (decide (t_5<(goLen p_vars))) with hc2 | hc2
  ·have hb1:=cond_f hc2 hb1
   refine q_cond_f hF rfl hc2 (q_exit (x_sq ?_))
   obtain rfl:=someI hb1
   exact ⟨nofun,.inl ⟨q4,s4,rfl,hF.sub ⟨rfl,trivial⟩,hS,h4⟩⟩
  ·have hb1:=cond_t hc2 hb1
   refine q_cond_t hF rfl hc2 (q_skipc (n_sq (q_seq (q_block (q_seq (q_region ?_))))))
   obtain ⟨e_6,he_6,hb1⟩:=bindS hb1
   obtain ⟨vs7,at7,d7⟩:=h2.at he_6 1 rfl
   obtain rfl:vs7=[(iV e_6)]:=d7
   refine q_x (v:=(elP s2 (t_5.toNat * 1))) hF hS (ex_indexAddr underlying23 sz3 rfl rfl (h2.idx he_6)) rfl rfl fun a hF=>q_x (v:=(iV e_6)) hF hS (ex_loadE1 0 underlying3 rfl rfl ((at7).at) rfl rfl) rfl rfl fun a hF=>q_x (v:=(iV e_6)) hF hS (ex_assign rfl) rfl rfl fun a hF=>q_end (n_sq (q_region (q_x (v:=s4.v) hF hS (ex_move rfl) rfl rfl fun a hF=>q_x (v:=s1.v) hF hS (ex_move rfl) rfl rfl fun a hF=>q_x (v:=(iV e_6)) hF hS (ex_move rfl) rfl rfl fun a hF=>?_)))
   obtain ⟨e_8,he_8,hb1⟩:=bindS hb1
   obtain ⟨vs9,at9,d9⟩:=h1.at he_8 2 rfl
   obtain rfl:vs9=[(strV e_8.Name),(iV e_8.Levels)]:=d9
   refine q_x (v:=(elP s1 (e_6.toNat * 2))) hF hS (ex_indexAddr underlying26 sz55 rfl rfl (h1.idx he_8)) rfl rfl fun a hF=>q_x (v:=(.agg #[(strV e_8.Name),(iV e_8.Levels)])) hF hS (ex_loadEA (us:=[(strV e_8.Name),(iV e_8.Levels)]) 0 underlying55 rfl sz55 rfl ((at9).at) rfl rfl rfl) rfl rfl fun a hF=>q_do rfl fun _ hK=>wp_buildSlice' (l:=([e_8]:List impl_Variable)) (cells:=[(strV e_8.Name),(iV e_8.Levels)]) hF hS underlying26 inf55 rfl rfl (by kernel_rfl) rfl rfl rfl ⟨rfl,rfl⟩ rfl rfl fun a w q10 s10 hF hS h10 _=>hK _ _ ?_
   have hS:St _ _ _ _ [q4,q10]:=hS.sel [1,0] (by decide)
   obtain ⟨l_11,hl_11,hb1⟩:=bindS hb1
   refine q_do rfl fun _ hK=>wp_append hF hS h4 underlying26 inf55 rfl rfl rfl rfl (h10.vw hS (j:=1) rfl) rfl (by decide) hl_11 rfl fun a w q12 s12 hF hS h12=>hK _ _ (q_x (v:=s12.v) hF hS (ex_assign rfl) rfl rfl fun a hF=>q_end (n_ib (n_sq (q_region (q_x (v:=(iV (w64 (t_5 + 1)))) hF hS (ex_ibin rfl rfl rfl) rfl rfl fun a hF=>q_x (v:=(iV (w64 (t_5 + 1)))) hF hS (ex_move rfl) rfl rfl fun a hF=>q_end ?_)))))
   obtain rfl:=someI hb1
   exact ⟨rfl,q12,s12,_,_,rfl,hF.sub ⟨rfl,rfl,rfl,rfl,rfl,trivial⟩,hS.mask [true,false],h12⟩
 ·rintro e a w ⟨q14,s14,rfl,hF,hS,h14⟩
  refine x_ib (n_sq ?_)
  refine q_seq (q_region (q_x (v:=s14.v) hF hS (ex_move rfl) rfl rfl fun a hF=>q_x (v:=s14.v) hF hS (ex_assign rfl) rfl rfl fun a hF=>q_end (n_sq (q_ret ?_))))
  obtain rfl:=someI hr
  exact ret_of hF hS rfl (.tmp rfl .nil) ⟨q14,s14,rfl,hS.sel [0] (by decide),h14⟩

theorem c_spec_sCount (p_s:List impl_Variable) (r:Int) (hr:spec_sCount p_s=some r) (w0:World) (m:Mem) (hv:Vis m w0) (s1:Sl) (h1:Rd m s1 p_s) :
  Ret prog 102 [s1.v] w0 (fun v _=>v=(iV r)):=by
 unfold spec_sCount at hr
 refine ret_start func102 rfl 18 rfl rfl m hv fun a hF hS=>q_seq (q_region (q_x (v:=(iV 0)) hF hS (ex_assign rfl) rfl rfl fun a hF=>q_end (n_sq (q_seq (q_region (q_x (v:=(iV 1)) hF hS (ex_assign rfl) rfl rfl fun a hF=>q_end (n_sq (q_seq (q_seq (q_region (q_x (v:=s1.v) hF hS (ex_move rfl) rfl rfl fun a hF=>q_x (v:=(iV (goLen p_s))) hF hS (ex_len underlying26 rfl h1.len) rfl rfl fun a hF=>q_x (v:=(iV 0)) hF hS (ex_move rfl) rfl rfl fun a hF=>q_end (n_sq (q_block ?_)))))))))))))
 obtain ⟨n_7,hl1,hr⟩:=bindS hr
 refine q_loop (fun (s:Int × Int) a w=>∃ n_2,∃ t_3,s=(n_2,t_3)∧Fr a 18 [(3,(iV n_2)),(6,s1.v),(7,(iV (goLen p_s))),(8,(iV t_3))]∧St [] w0 w m []) (fun (n_7:Int) e a w=>e=.exit 0∧Fr a 18 [(3,(iV n_7))]∧St [] w0 w m []) hl1 ⟨_,_,rfl,hF.sub ⟨rfl,rfl,rfl,rfl,trivial⟩,hS⟩ ?_ ?_
 ·clear hF hS
  rintro s a w st ⟨n_2,t_3,rfl,hF,hS⟩ hb1
  unfold spec_sCount_l1 at hb1
  refine q_seq (q_region (q_x (v:=(.bool (decide (t_3<(goLen p_s))))) hF hS (ex_ibin rfl rfl rfl) rfl rfl fun a hF=>q_end (n_sq (q_seq ?_))))
  rcases bcase (decide (t_3<(goLen p_s))) with hc2 | hc2
  ·have hb1:=cond_f hc2 hb1
   refine q_cond_f hF rfl hc2 (q_exit (x_sq ?_))
   obtain rfl:=someI hb1
   exact ⟨nofun,.inl ⟨rfl,hF.sub ⟨rfl,trivial⟩,hS⟩⟩
  ·have hb1:=cond_t hc2 hb1
   refine q_cond_t hF rfl hc2 (q_skipc (n_sq (q_seq (q_block (q_seq (q_region ?_))))))
   obtain ⟨e_4,he_4,hb1⟩:=bindS hb1
   obtain ⟨vs5,at5,d5⟩:=h1.at he_4 2 rfl
   obtain rfl:vs5=[(strV e_4.Name),(iV e_4.Levels)]:=d5
   refine q_x (v:=(elP s1 (t_3.toNat * 2))) hF hS (ex_indexAddr underlying26 sz55 rfl rfl (h1.idx he_4)) rfl rfl fun a hF=>q_x (v:=(.agg #[(strV e_4.Name),(iV e_4.Levels)])) hF hS (ex_loadEA (us:=[(strV e_4.Name),(iV e_4.Levels)]) 0 underlying55 rfl sz55 rfl ((at5).at) rfl rfl rfl) rfl rfl fun a hF=>q_alloc (cs:=[(strV ([]:List UInt8)),(iV 0)]) hF hS rfl rfl rfl fun a w b6 hF hS=>q_store (vs:=[(strV e_4.Name),(iV e_4.Levels)]) (cs':=[(strV e_4.Name),(iV e_4.Levels)]) 0 0 hF hS sz55 rfl rfl rfl rfl rfl rfl rfl rfl fun a w hF hS=>q_end (n_sq (q_region (q_x (v:=(iV n_2)) hF hS (ex_move rfl) rfl rfl fun a hF=>q_x (v:=(.pointer (some ⟨b6,1,none⟩))) hF hS (ex_fieldAddr underlying55 rfl sz3 rfl rfl) rfl rfl fun a hF=>q_x (v:=(iV e_4.Levels)) hF hS (ex_load1 0 0 underlying3 rfl rfl rfl rfl) rfl rfl fun a hF=>q_x (v:=(iV (w64 (n_2 * e_4.Levels)))) hF hS (ex_ibin rfl rfl rfl) rfl rfl fun a hF=>q_x (v:=(iV (w64 (n_2 * e_4.Levels)))) hF hS (ex_assign rfl) rfl rfl fun a hF=>q_end (n_ib (n_sq (q_region (q_x (v:=(iV (w64 (t_3 + 1)))) hF hS (ex_ibin rfl rfl rfl) rfl rfl fun a hF=>q_x (v:=(iV (w64 (t_3 + 1)))) hF hS (ex_move rfl) rfl rfl fun a hF=>q_end ?_)))))))
   obtain rfl:=someI hb1
   exact ⟨rfl,_,_,rfl,hF.sub ⟨rfl,rfl,rfl,rfl,trivial⟩,hS.mask [false]⟩
 ·rintro e a w ⟨rfl,hF,hS⟩
  refine x_ib (n_sq ?_)
  refine q_seq (q_region (q_x (v:=(iV n_7)) hF hS (ex_move rfl) rfl rfl fun a hF=>q_x (v:=(iV n_7)) hF hS (ex_assign rfl) rfl rfl fun a hF=>q_end (n_sq (q_ret ?_))))
  obtain rfl:=someI hr
  exact ret_of hF hS rfl (.tmp rfl .nil) rfl

theorem c_spec_uCount (p_g:impl_Geo) (p_s:List impl_Variable) (p_t:impl_Table) (r:Int) (hr:spec_uCount p_g p_s p_t=some r) (w0:World) (m:Mem) (hv:Vis m w0) (s1:Sl) (h1:Rd m s1 p_g.Parents) (s2:Sl) (h2:Rd m s2 p_s) (s3:Sl) (h3:Rd m s3 p_t.Vars) (s4:Sl) (h4:Rd m s4 p_t.Where) :
  Ret prog 68 [(.agg #[s1.v]),s2.v,(.agg #[(iV p_t.Level),s3.v,s4.v,(iV p_t.Sum)])] w0 (fun v _=>v=(iV r)):=by
 unfold spec_uCount at hr
 refine ret_start func68 rfl 18 rfl rfl m hv fun a hF hS=>q_seq (q_region (q_box (cs:=[s1.v]) hF hS rfl rfl rfl fun a w b5 hF hS=>q_box (cs:=[(iV p_t.Level),s3.v,s4.v,(iV p_t.Sum)]) hF hS rfl rfl rfl fun a w b6 hF hS=>q_x (v:=(iV 0)) hF hS (ex_assign rfl) rfl rfl fun a hF=>q_end (n_sq (q_seq (e_region ⟨[],[]⟩ mixed fun w' hw'=>?_)))))
 have hS:=hS.below hw'
 refine e_x (v:=(.agg #[s1.v])) 0 hF hS rfl (ex_loadA (vs:=[s1.v]) 1 0 underlying25 rfl sz25 rfl rfl rfl rfl) rfl rfl (by kernel_rfl) (by kernel_rfl) (by kernel_rfl) (by kernel_rfl) fun a hF=>e_p (v:=(.pointer (some ⟨b6,0,none⟩))) 1 hF rfl (ex_fieldAddr underlying28 rfl sz3 rfl rfl) rfl rfl (by kernel_rfl) (by kernel_rfl) (by kernel_rfl) fun a hF=>e_x (v:=(iV p_t.Level)) 2 hF hS rfl (ex_load1 0 0 underlying3 rfl rfl rfl rfl) rfl rfl (by kernel_rfl) (by kernel_rfl) (by kernel_rfl) (by kernel_rfl) fun a hF=>e_p (v:=s2.v) 5 hF rfl (ex_move rfl) rfl rfl (by kernel_rfl) (by kernel_rfl) (by kernel_rfl) fun a hF=>e_p (v:=(.pointer (some ⟨b6,1,none⟩))) 6 hF rfl (ex_fieldAddr underlying28 rfl sz23 rfl rfl) rfl rfl (by kernel_rfl) (by kernel_rfl) (by kernel_rfl) fun a hF=>e_x (v:=s3.v) 7 hF hS rfl (ex_load1 0 0 underlying23 rfl rfl rfl rfl) rfl rfl (by kernel_rfl) (by kernel_rfl) (by kernel_rfl) (by kernel_rfl) fun a hF=>e_one 3 (by kernel_rfl) ?_
 obtain ⟨t_16,ht_16,hr⟩:=bindS hr
 refine e_call (vs:=[(.agg #[s1.v]),(iV p_t.Level)]) hF hS rfl func65 (by kernel_rfl) rfl rfl rfl (c_spec_gLevel p_g p_t.Level t_16 ht_16 _ m hS.vis s1 h1) ?_
 rintro a w _ ⟨q18,s18,rfl,hR17,h18⟩ hF hS2
 have hS:St _ _ _ _ [q18,[⟨b6,[(iV p_t.Level),s3.v,s4.v,(iV p_t.Sum)],28⟩],[⟨b5,[s1.v],25⟩]]:=hS.joinF hR17
 refine e_p (v:=(iV (goLen t_16))) 4 hF rfl (ex_len underlying23 rfl h18.len) rfl rfl (by kernel_rfl) (by kernel_rfl) (by kernel_rfl) fun a hF=>e_one 8 (by kernel_rfl) ?_
 obtain ⟨t_19,ht_19,hr⟩:=bindS hr
 refine e_call (vs:=[s2.v,s3.v]) hF hS rfl func74 (by kernel_rfl) rfl rfl rfl (c_spec_sPart p_s p_t.Vars t_19 ht_19 _ m hS.vis s2 h2 s3 h3) ?_
 rintro a w _ ⟨q21,s21,rfl,hR20,h21⟩ hF hS2
 have hS:St _ _ _ _ [q21,q18,[⟨b6,[(iV p_t.Level),s3.v,s4.v,(iV p_t.Sum)],28⟩],[⟨b5,[s1.v],25⟩]]:=hS.joinF hR20
 refine e_one 9 (by kernel_rfl) ?_
 obtain ⟨m23,hl23,hv23,hz23⟩:=hS.lend
 obtain ⟨t_22,ht_22,hr⟩:=bindS hr
 refine e_call (vs:=[s21.v]) hF hS rfl func102 (by kernel_rfl) rfl rfl rfl (c_spec_sCount t_19 t_22 ht_22 _ m23 hv23 s21 (h21.froz hl23 (hz23 0 _ rfl))) ?_
 rintro a w _ rfl hF hS
 refine e_p (v:=(iV (w64 ((goLen t_16) * t_22)))) 10 hF rfl (ex_ibin rfl rfl rfl) rfl rfl (by kernel_rfl) (by kernel_rfl) (by kernel_rfl) fun a hF=>e_p (v:=(iV (w64 ((goLen t_16) * t_22)))) 11 hF rfl (ex_assign rfl) rfl rfl (by kernel_rfl) (by kernel_rfl) (by kernel_rfl) fun a hF=>e_end (by kernel_rfl) (n_sq (q_ret ?_)) _
 obtain rfl:=someI hr
 exact ret_of hF hS rfl (.tmp rfl .nil) rfl

theorem c_spec_uGood (p_g:impl_Geo) (p_s:List impl_Variable) (p_t:impl_Table) (r:Bool) (hr:spec_uGood p_g p_s p_t=some r) (w0:World) (m:Mem) (hv:Vis m w0) (s1:Sl) (h1:Rd m s1 p_g.Parents) (s2:Sl) (h2:Rd m s2 p_s) (s3:Sl) (h3:Rd m s3 p_t.Vars) (s4:Sl) (h4:Rd m s4 p_t.Where) :
  Ret prog 24 [(.agg #[s1.v]),s2.v,(.agg #[(iV p_t.Level),s3.v,s4.v,(iV p_t.Sum)])] w0 (fun v _=>v=(.bool r)):=by
 unfold spec_uGood at hr
 refine ret_start func24 rfl 53 rfl rfl m hv fun a hF hS=>q_seq (q_region (q_box (cs:=[s1.v]) hF hS rfl rfl rfl fun a w b5 hF hS=>q_box (cs:=[(iV p_t.Level),s3.v,s4.v,(iV p_t.Sum)]) hF hS rfl rfl rfl fun a w b6 hF hS=>q_x (v:=(.bool false)) hF hS (ex_assign rfl) rfl rfl fun a hF=>q_end (n_sq (q_seq (q_seq ?_)))))
 obtain ⟨t_15,hj1,hr⟩:=bindS hr
 refine q_join (fun a w=>Fr a 53 [(1,s2.v),(3,(.pointer (some ⟨b5,0,none⟩))),(5,(.pointer (some ⟨b6,0,none⟩))),(47,(.bool t_15))]∧St [] w0 w m [[⟨b6,[(iV p_t.Level),s3.v,s4.v,(iV p_t.Sum)],28⟩],[⟨b5,[s1.v],25⟩]]) ?_ ?_
 ·refine q_region (q_x (v:=(.agg #[s1.v])) hF hS (ex_loadA (vs:=[s1.v]) 1 0 underlying25 rfl sz25 rfl rfl rfl rfl) rfl rfl fun a hF=>?_)
  obtain ⟨t_7,ht_7,hj1⟩:=bindS hj1
  refine q_call (vs:=[(.agg #[s1.v])]) hF hS func63 (by kernel_rfl) rfl rfl rfl (c_spec_gGood p_g t_7 ht_7 _ m hS.vis s1 h1) ?_
  rintro a w _ rfl hF hS
  refine q_x (v:=(.bool (!t_7))) hF hS (ex_not rfl) rfl rfl fun a hF=>q_x (v:=(.bool (!t_7))) hF hS (ex_move rfl) rfl rfl fun a hF=>?_
  rcases bcase (!t_7) with hc2 | hc2
  ·have hj1:=cond_f hc2 hj1
   refine q_xg (v:=s2.v) hF hS (ex_move rfl) (wanted_t hF rfl rfl rfl hc2) rfl fun a hF=>?_
   obtain ⟨t_8,ht_8,hj1⟩:=bindS hj1
   refine q_callg (vs:=[s2.v]) hF hS (wanted_t hF rfl rfl rfl hc2) func64 (by kernel_rfl) rfl rfl rfl (c_spec_sGood p_s t_8 ht_8 _ m hS.vis s2 h2) ?_
   rintro a w _ rfl hF hS
   refine q_xg (v:=(.bool (!t_8))) hF hS (ex_not rfl) (wanted_t hF rfl rfl rfl hc2) rfl fun a hF=>q_x (v:=(.bool (!t_8))) hF hS (ex_pick_f rfl rfl hc2) rfl rfl fun a hF=>q_x (v:=(.bool (!t_8))) hF hS (ex_move rfl) rfl rfl fun a hF=>?_
   rcases bcase (!t_8) with hc3 | hc3
   ·have hj1:=cond_f hc3 hj1
    refine q_xg (v:=(.agg #[s1.v])) hF hS (ex_loadA (vs:=[s1.v]) 1 0 underlying25 rfl sz25 rfl rfl rfl rfl) (wanted_t hF rfl rfl rfl hc3) rfl fun a hF=>q_xg (v:=(.pointer (some ⟨b6,0,none⟩))) hF hS (ex_fieldAddr underlying28 rfl sz3 rfl rfl) (wanted_t hF rfl rfl rfl hc3) rfl fun a hF=>q_xg (v:=(iV p_t.Level)) hF hS (ex_load1 0 0 underlying3 rfl rfl rfl rfl) (wanted_t hF rfl rfl rfl hc3) rfl fun a hF=>?_
    obtain ⟨t_9,ht_9,hj1⟩:=bindS hj1
    refine q_callg (vs:=[(.agg #[s1.v]),(iV p_t.Level)]) hF hS (wanted_t hF rfl rfl rfl hc3) func65 (by kernel_rfl) rfl rfl rfl (c_spec_gLevel p_g p_t.Level t_9 ht_9 _ m hS.vis s1 h1) ?_
    rintro a w _ ⟨q11,s11,rfl,hR10,h11⟩ hF hS2
    have hS:St _ _ _ _ [q11,[⟨b6,[(iV p_t.Level),s3.v,s4.v,(iV p_t.Sum)],28⟩],[⟨b5,[s1.v],25⟩]]:=hS.joinF hR10
    refine q_xg (v:=(iV (goLen t_9))) hF hS (ex_len underlying23 rfl h11.len) (wanted_t hF rfl rfl rfl hc3) rfl fun a hF=>q_xg (v:=(.bool ((goLen t_9) == 0))) hF hS (ex_ibin rfl rfl rfl) (wanted_t hF rfl rfl rfl hc3) rfl fun a hF=>q_x (v:=(.bool ((goLen t_9) == 0))) hF hS (ex_pick_f rfl rfl hc3) rfl rfl fun a hF=>q_x (v:=(.bool ((goLen t_9) == 0))) hF hS (ex_move rfl) rfl rfl fun a hF=>?_
    rcases bcase ((goLen t_9) == 0) with hc4 | hc4
    ·have hj1:=cond_f hc4 hj1
     refine q_xg (v:=(.pointer (some ⟨b6,1,none⟩))) hF hS (ex_fieldAddr underlying28 rfl sz23 rfl rfl) (wanted_t hF rfl rfl rfl hc4) rfl fun a hF=>q_xg (v:=s3.v) hF hS (ex_load1 1 0 underlying23 rfl rfl rfl rfl) (wanted_t hF rfl rfl rfl hc4) rfl fun a hF=>q_xg (v:=s2.v) hF hS (ex_move rfl) (wanted_t hF rfl rfl rfl hc4) rfl fun a hF=>q_xg (v:=(iV (goLen p_s))) hF hS (ex_len underlying26 rfl h2.len) (wanted_t hF rfl rfl rfl hc4) rfl fun a hF=>q_xg (v:=(iV (w64 ((goLen p_s) - 1)))) hF hS (ex_ibin rfl rfl rfl) (wanted_t hF rfl rfl rfl hc4) rfl fun a hF=>?_
     obtain ⟨t_12,ht_12,hj1⟩:=bindS hj1
     refine q_callg (vs:=[s3.v,(iV 0),(iV (w64 ((goLen p_s) - 1)))]) hF hS (wanted_t hF rfl rfl rfl hc4) func66 (by kernel_rfl) rfl rfl rfl (c_spec_l1Rising p_t.Vars 0 (w64 ((goLen p_s) - 1)) t_12 ht_12 _ m hS.vis s3 h3) ?_
     rintro a w _ rfl hF hS
     refine q_xg (v:=(.bool (!t_12))) hF hS (ex_not rfl) (wanted_t hF rfl rfl rfl hc4) rfl fun a hF=>q_x (v:=(.bool (!t_12))) hF hS (ex_pick_f rfl rfl hc4) rfl rfl fun a hF=>q_x (v:=(.bool (!t_12))) hF hS (ex_move rfl) rfl rfl fun a hF=>?_
     rcases bcase (!t_12) with hc5 | hc5
     ·have hj1:=cond_f hc5 hj1
      refine q_xg (v:=s2.v) hF hS (ex_move rfl) (wanted_t hF rfl rfl rfl hc5) rfl fun a hF=>q_xg (v:=(.pointer (some ⟨b6,2,none⟩))) hF hS (ex_fieldAddr underlying28 rfl sz23 rfl rfl) (wanted_t hF rfl rfl rfl hc5) rfl fun a hF=>q_xg (v:=s4.v) hF hS (ex_load1 1 0 underlying23 rfl rfl rfl rfl) (wanted_t hF rfl rfl rfl hc5) rfl fun a hF=>?_
      obtain ⟨t_13,ht_13,hj1⟩:=bindS hj1
      refine q_callg (vs:=[s2.v,s4.v]) hF hS (wanted_t hF rfl rfl rfl hc5) func67 (by kernel_rfl) rfl rfl rfl (c_spec_uWhere p_s p_t.Where t_13 ht_13 _ m hS.vis s2 h2 s4 h4) ?_
      rintro a w _ rfl hF hS
      refine q_xg (v:=(.bool (!t_13))) hF hS (ex_not rfl) (wanted_t hF rfl rfl rfl hc5) rfl fun a hF=>q_x (v:=(.bool (!t_13))) hF hS (ex_pick_f rfl rfl hc5) rfl rfl fun a hF=>q_x (v:=(.bool (!t_13))) hF hS (ex_move rfl) rfl rfl fun a hF=>?_
      rcases bcase (!t_13) with hc6 | hc6
      ·have hj1:=cond_f hc6 hj1
       refine q_xg (v:=(.pointer (some ⟨b6,3,none⟩))) hF hS (ex_fieldAddr underlying28 rfl sz3 rfl rfl) (wanted_t hF rfl rfl rfl hc6) rfl fun a hF=>q_xg (v:=(iV p_t.Sum)) hF hS (ex_load1 1 0 underlying3 rfl rfl rfl rfl) (wanted_t hF rfl rfl rfl hc6) rfl fun a hF=>q_xg (v:=s2.v) hF hS (ex_move rfl) (wanted_t hF rfl rfl rfl hc6) rfl fun a hF=>q_xg (v:=(iV (goLen p_s))) hF hS (ex_len underlying26 rfl h2.len) (wanted_t hF rfl rfl rfl hc6) rfl fun a hF=>q_xg (v:=(iV (w64 ((goLen p_s) - 1)))) hF hS (ex_ibin rfl rfl rfl) (wanted_t hF rfl rfl rfl hc6) rfl fun a hF=>?_
       obtain ⟨t_14,ht_14,hj1⟩:=bindS hj1
       refine q_callg (vs:=[(iV p_t.Sum),(iV (-1)),(iV (w64 ((goLen p_s) - 1)))]) hF hS (wanted_t hF rfl rfl rfl hc6) func38 (by kernel_rfl) rfl rfl rfl (c_spec_l1In p_t.Sum (-1) (w64 ((goLen p_s) - 1)) t_14 ht_14 _ m hS.vis) ?_
       rintro a w _ rfl hF hS
       refine q_xg (v:=(.bool (!t_14))) hF hS (ex_not rfl) (wanted_t hF rfl rfl rfl hc6) rfl fun a hF=>q_x (v:=(.bool (!t_14))) hF hS (ex_pick_f rfl rfl hc6) rfl rfl fun a hF=>q_end (n_jn ?_)
       obtain rfl:=someI hj1
       exact ⟨hF.sub ⟨rfl,rfl,rfl,rfl,trivial⟩,hS.mask [false,true,true]⟩
      ·have hj1:=cond_t hc6 hj1
       refine q_skip hF (wanted_f hF rfl rfl rfl hc6 rfl) rfl fun a hF=>q_skip hF (wanted_f hF rfl rfl rfl hc6 rfl) rfl fun a hF=>q_skip hF (wanted_f hF rfl rfl rfl hc6 rfl) rfl fun a hF=>q_skip hF (wanted_f hF rfl rfl rfl hc6 rfl) rfl fun a hF=>q_skip hF (wanted_f hF rfl rfl rfl hc6 rfl) rfl fun a hF=>q_skip hF (wanted_f hF rfl rfl rfl hc6 rfl) rfl fun a hF=>q_skip hF (wanted_f hF rfl rfl rfl hc6 rfl) rfl fun a hF=>q_x (v:=(.bool true)) hF hS (ex_pick_t rfl rfl hc6) rfl rfl fun a hF=>q_end (n_jn ?_)
       obtain rfl:=someI hj1
       exact ⟨hF.sub ⟨rfl,rfl,rfl,rfl,trivial⟩,hS.mask [false,true,true]⟩
     ·have hj1:=cond_t hc5 hj1
      refine q_skip hF (wanted_f hF rfl rfl rfl hc5 rfl) rfl fun a hF=>q_skip hF (wanted_f hF rfl rfl rfl hc5 rfl) rfl fun a hF=>q_skip hF (wanted_f hF rfl rfl rfl hc5 rfl) rfl fun a hF=>q_skip hF (wanted_f hF rfl rfl rfl hc5 rfl) rfl fun a hF=>q_skip hF (wanted_f hF rfl rfl rfl hc5 rfl) rfl fun a hF=>q_x (v:=(.bool true)) hF hS (ex_pick_t rfl rfl hc5) rfl rfl fun a hF=>q_x (v:=(.bool true)) hF hS (ex_move rfl) rfl rfl fun a hF=>q_skip hF (wanted_f hF rfl rfl rfl rfl rfl) rfl fun a hF=>q_skip hF (wanted_f hF rfl rfl rfl rfl rfl) rfl fun a hF=>q_skip hF (wanted_f hF rfl rfl rfl rfl rfl) rfl fun a hF=>q_skip hF (wanted_f hF rfl rfl rfl rfl rfl) rfl fun a hF=>q_skip hF (wanted_f hF rfl rfl rfl rfl rfl) rfl fun a hF=>q_skip hF (wanted_f hF rfl rfl rfl rfl rfl) rfl fun a hF=>q_skip hF (wanted_f hF rfl rfl rfl rfl rfl) rfl fun a hF=>q_x (v:=(.bool true)) hF hS (ex_pick_t rfl rfl rfl) rfl rfl fun a hF=>q_end (n_jn ?_)
      obtain rfl:=someI hj1
      exact ⟨hF.sub ⟨rfl,rfl,rfl,rfl,trivial⟩,hS.mask [false,true,true]⟩
    ·have hj1:=cond_t hc4 hj1
     refine q_skip hF (wanted_f hF rfl rfl rfl hc4 rfl) rfl fun a hF=>q_skip hF (wanted_f hF rfl rfl rfl hc4 rfl) rfl fun a hF=>q_skip hF (wanted_f hF rfl rfl rfl hc4 rfl) rfl fun a hF=>q_skip hF (wanted_f hF rfl rfl rfl hc4 rfl) rfl fun a hF=>q_skip hF (wanted_f hF rfl rfl rfl hc4 rfl) rfl fun a hF=>q_skip hF (wanted_f hF rfl rfl rfl hc4 rfl) rfl fun a hF=>q_skip hF (wanted_f hF rfl rfl rfl hc4 rfl) rfl fun a hF=>q_x (v:=(.bool true)) hF hS (ex_pick_t rfl rfl hc4) rfl rfl fun a hF=>q_x (v:=(.bool true)) hF hS (ex_move rfl) rfl rfl fun a hF=>q_skip hF (wanted_f hF rfl rfl rfl rfl rfl) rfl fun a hF=>q_skip hF (wanted_f hF rfl rfl rfl rfl rfl) rfl fun a hF=>q_skip hF (wanted_f hF rfl rfl rfl rfl rfl) rfl fun a hF=>q_skip hF (wanted_f hF rfl rfl rfl rfl rfl) rfl fun a hF=>q_skip hF (wanted_f hF rfl rfl rfl rfl rfl) rfl fun a hF=>q_x (v:=(.bool true)) hF hS (ex_pick_t rfl rfl rfl) rfl rfl fun a hF=>q_x (v:=(.bool true)) hF hS (ex_move rfl) rfl rfl fun a hF=>q_skip hF (wanted_f hF rfl rfl rfl rfl rfl) rfl fun a hF=>q_skip hF (wanted_f hF rfl rfl rfl rfl rfl) rfl fun a hF=>q_skip hF (wanted_f hF rfl rfl rfl rfl rfl) rfl fun a hF=>q_skip hF (wanted_f hF rfl rfl rfl rfl rfl) rfl fun a hF=>q_skip hF (wanted_f hF rfl rfl rfl rfl rfl) rfl fun a hF=>q_skip hF (wanted_f hF rfl rfl rfl rfl rfl) rfl fun a hF=>q_skip hF (wanted_f hF rfl rfl rfl rfl rfl) rfl fun a hF=>q_x (v:=(.bool true)) hF hS (ex_pick_t rfl rfl rfl) rfl rfl fun a hF=>q_end (n_jn ?_)
     obtain rfl:=someI hj1
     exact ⟨hF.sub ⟨rfl,rfl,rfl,rfl,trivial⟩,hS.mask [false,true,true]⟩
   ·have hj1:=cond_t hc3 hj1
    refine q_skip hF (wanted_f hF rfl rfl rfl hc3 rfl) rfl fun a hF=>q_skip hF (wanted_f hF rfl rfl rfl hc3 rfl) rfl fun a hF=>q_skip hF (wanted_f hF rfl rfl rfl hc3 rfl) rfl fun a hF=>q_skip hF (wanted_f hF rfl rfl rfl hc3 rfl) rfl fun a hF=>q_skip hF (wanted_f hF rfl rfl rfl hc3 rfl) rfl fun a hF=>q_skip hF (wanted_f hF rfl rfl rfl hc3 rfl) rfl fun a hF=>q_x (v:=(.bool true)) hF hS (ex_pick_t rfl rfl hc3) rfl rfl fun a hF=>q_x (v:=(.bool true)) hF hS (ex_move rfl) rfl rfl fun a hF=>q_skip hF (wanted_f hF rfl rfl rfl rfl rfl) rfl fun a hF=>q_skip hF (wanted_f hF rfl rfl rfl rfl rfl) rfl fun a hF=>q_skip hF (wanted_f hF rfl rfl rfl rfl rfl) rfl fun a hF=>q_skip hF (wanted_f hF rfl rfl rfl rfl rfl) rfl fun a hF=>q_skip hF (wanted_f hF rfl rfl rfl rfl rfl) rfl fun a hF=>q_skip hF (wanted_f hF rfl rfl rfl rfl rfl) rfl fun a hF=>q_skip hF (wanted_f hF rfl rfl rfl rfl rfl) rfl fun a hF=>q_x (v:=(.bool true)) hF hS (ex_pick_t rfl rfl rfl) rfl rfl fun a hF=>q_x (v:=(.bool true)) hF hS (ex_move rfl) rfl rfl fun a hF=>q_skip hF (wanted_f hF rfl rfl rfl rfl rfl) rfl fun a hF=>q_skip hF (wanted_f hF rfl rfl rfl rfl rfl) rfl fun a hF=>q_skip hF (wanted_f hF rfl rfl rfl rfl rfl) rfl fun a hF=>q_skip hF (wanted_f hF rfl rfl rfl rfl rfl) rfl fun a hF=>q_skip hF (wanted_f hF rfl rfl rfl rfl rfl) rfl fun a hF=>q_x (v:=(.bool true)) hF hS (ex_pick_t rfl rfl rfl) rfl rfl fun a hF=>q_x (v:=(.bool true)) hF hS (ex_move rfl) rfl rfl fun a hF=>q_skip hF (wanted_f hF rfl rfl rfl rfl rfl) rfl fun a hF=>?_
    refine q_skip hF (wanted_f hF rfl rfl rfl rfl rfl) rfl fun a hF=>q_skip hF (wanted_f hF rfl rfl rfl rfl rfl) rfl fun a hF=>q_skip hF (wanted_f hF rfl rfl rfl rfl rfl) rfl fun a hF=>q_skip hF (wanted_f hF rfl rfl rfl rfl rfl) rfl fun a hF=>q_skip hF (wanted_f hF rfl rfl rfl rfl rfl) rfl fun a hF=>q_skip hF (wanted_f hF rfl rfl rfl rfl rfl) rfl fun a hF=>q_x (v:=(.bool true)) hF hS (ex_pick_t rfl rfl rfl) rfl rfl fun a hF=>q_end (n_jn ?_)
    obtain rfl:=someI hj1
    exact ⟨hF.sub ⟨rfl,rfl,rfl,rfl,trivial⟩,hS⟩
  ·have hj1:=cond_t hc2 hj1
   refine q_skip hF (wanted_f hF rfl rfl rfl hc2 rfl) rfl fun a hF=>q_skip hF (wanted_f hF rfl rfl rfl hc2 rfl) rfl fun a hF=>q_skip hF (wanted_f hF rfl rfl rfl hc2 rfl) rfl fun a hF=>q_x (v:=(.bool true)) hF hS (ex_pick_t rfl rfl hc2) rfl rfl fun a hF=>q_x (v:=(.bool true)) hF hS (ex_move rfl) rfl rfl fun a hF=>q_skip hF (wanted_f hF rfl rfl rfl rfl rfl) rfl fun a hF=>q_skip hF (wanted_f hF rfl rfl rfl rfl rfl) rfl fun a hF=>q_skip hF (wanted_f hF rfl rfl rfl rfl rfl) rfl fun a hF=>q_skip hF (wanted_f hF rfl rfl rfl rfl rfl) rfl fun a hF=>q_skip hF (wanted_f hF rfl rfl rfl rfl rfl) rfl fun a hF=>q_skip hF (wanted_f hF rfl rfl rfl rfl rfl) rfl fun a hF=>q_x (v:=(.bool true)) hF hS (ex_pick_t rfl rfl rfl) rfl rfl fun a hF=>q_x (v:=(.bool true)) hF hS (ex_move rfl) rfl rfl fun a hF=>q_skip hF (wanted_f hF rfl rfl rfl rfl rfl) rfl fun a hF=>q_skip hF (wanted_f hF rfl rfl rfl rfl rfl) rfl fun a hF=>q_skip hF (wanted_f hF rfl rfl rfl rfl rfl) rfl fun a hF=>q_skip hF (wanted_f hF rfl rfl rfl rfl rfl) rfl fun a hF=>q_skip hF (wanted_f hF rfl rfl rfl rfl rfl) rfl fun a hF=>q_skip hF (wanted_f hF rfl rfl rfl rfl rfl) rfl fun a hF=>q_skip hF (wanted_f hF rfl rfl rfl rfl rfl) rfl fun a hF=>q_x (v:=(.bool true)) hF hS (ex_pick_t rfl rfl rfl) rfl rfl fun a hF=>q_x (v:=(.bool true)) hF hS (ex_move rfl) rfl rfl fun a hF=>q_skip hF (wanted_f hF rfl rfl rfl rfl rfl) rfl fun a hF=>q_skip hF (wanted_f hF rfl rfl rfl rfl rfl) rfl fun a hF=>q_skip hF (wanted_f hF rfl rfl rfl rfl rfl) rfl fun a hF=>?_
   refine q_skip hF (wanted_f hF rfl rfl rfl rfl rfl) rfl fun a hF=>q_skip hF (wanted_f hF rfl rfl rfl rfl rfl) rfl fun a hF=>q_x (v:=(.bool true)) hF hS (ex_pick_t rfl rfl rfl) rfl rfl fun a hF=>q_x (v:=(.bool true)) hF hS (ex_move rfl) rfl rfl fun a hF=>q_skip hF (wanted_f hF rfl rfl rfl rfl rfl) rfl fun a hF=>q_skip hF (wanted_f hF rfl rfl rfl rfl rfl) rfl fun a hF=>q_skip hF (wanted_f hF rfl rfl rfl rfl rfl) rfl fun a hF=>q_skip hF (wanted_f hF rfl rfl rfl rfl rfl) rfl fun a hF=>q_skip hF (wanted_f hF rfl rfl rfl rfl rfl) rfl fun a hF=>q_skip hF (wanted_f hF rfl rfl rfl rfl rfl) rfl fun a hF=>q_skip hF (wanted_f hF rfl rfl rfl rfl rfl) rfl fun a hF=>q_x (v:=(.bool true)) hF hS (ex_pick_t rfl rfl rfl) rfl rfl fun a hF=>q_end (n_jn ?_)
   obtain rfl:=someI hj1
   exact ⟨hF.sub ⟨rfl,rfl,rfl,rfl,trivial⟩,hS⟩
 ·rintro a w ⟨hF,hS⟩
  refine n_sq ?_
  rcases bcase (t_15) with hc7 | hc7
  ·have hr:=cond_f hc7 hr
   refine q_cond_f hF rfl hc7 (q_skipc (n_sq (q_seq (q_region (q_x (v:=(.agg #[s1.v])) hF hS (ex_loadA (vs:=[s1.v]) 1 0 underlying25 rfl sz25 rfl rfl rfl rfl) rfl rfl fun a hF=>q_x (v:=s2.v) hF hS (ex_move rfl) rfl rfl fun a hF=>q_x (v:=(.agg #[(iV p_t.Level),s3.v,s4.v,(iV p_t.Sum)])) hF hS (ex_loadA (vs:=[(iV p_t.Level),s3.v,s4.v,(iV p_t.Sum)]) 0 0 underlying28 rfl sz28 rfl rfl rfl rfl) rfl rfl fun a hF=>?_)))))
   obtain ⟨t_16,ht_16,hr⟩:=bindS hr
   refine q_call (vs:=[(.agg #[s1.v]),s2.v,(.agg #[(iV p_t.Level),s3.v,s4.v,(iV p_t.Sum)])]) hF hS func68 (by kernel_rfl) rfl rfl rfl (c_spec_uCount p_g p_s p_t t_16 ht_16 _ m hS.vis s1 h1 s2 h2 s3 h3 s4 h4) ?_
   rintro a w _ rfl hF hS
   refine q_x (v:=(.bool (decide (t_16≤600)))) hF hS (ex_ibin rfl rfl rfl) rfl rfl fun a hF=>q_x (v:=(.bool (decide (t_16≤600)))) hF hS (ex_assign rfl) rfl rfl fun a hF=>q_end (n_sq (q_ret ?_))
   obtain rfl:=someI hr
   exact ret_of hF hS rfl (.tmp rfl .nil) rfl
  ·have hr:=cond_t hc7 hr
   refine q_cond_t hF rfl hc7 (q_seq (q_region (q_x (v:=(.bool false)) hF hS (ex_assign rfl) rfl rfl fun a hF=>q_end (n_sq (q_ret (r_sq ?_))))))
   obtain rfl:=someI hr
   exact ret_of hF hS rfl (.tmp rfl .nil) rfl

theorem c_spec_sFits (p_s:List impl_Variable) (p_values:List Int) (r:Bool) (hr:spec_sFits p_s p_values=some r) (w0:World) (m:Mem) (hv:Vis m w0) (s1:Sl) (h1:Rd m s1 p_s) (s2:Sl) (h2:Rd m s2 p_values) :
  Ret prog 126 [s1.v,s2.v] w0 (fun v _=>v=(.bool r)):=by
 unfold spec_sFits at hr
 refine ret_start func126 rfl 29 rfl rfl m hv fun a hF hS=>q_seq (q_region (q_x (v:=(.bool false)) hF hS (ex_assign rfl) rfl rfl fun a hF=>q_end (n_sq (q_seq (q_seq (q_region (q_x (v:=s2.v) hF hS (ex_move rfl) rfl rfl fun a hF=>q_x (v:=(iV (goLen p_values))) hF hS (ex_len underlying23 rfl h2.len) rfl rfl fun a hF=>q_x (v:=s1.v) hF hS (ex_move rfl) rfl rfl fun a hF=>q_x (v:=(iV (goLen p_s))) hF hS (ex_len underlying26 rfl h1.len) rfl rfl fun a hF=>q_x (v:=(.bool ((goLen p_values) != (goLen p_s)))) hF hS (ex_ibin rfl rfl rfl) rfl rfl fun a hF=>q_end (n_sq ?_))))))))
 rcases bcase ((goLen p_values) != (goLen p_s)) with hc1 | hc1
 ·have hr:=cond_f hc1 hr
  refine q_cond_f hF rfl hc1 (q_skipc (n_sq (q_seq (q_seq (q_region (q_x (v:=s1.v) hF hS (ex_move rfl) rfl rfl fun a hF=>q_x (v:=(iV (goLen p_s))) hF hS (ex_len underlying26 rfl h1.len) rfl rfl fun a hF=>q_x (v:=(iV 0)) hF hS (ex_move rfl) rfl rfl fun a hF=>q_end (n_sq (q_block ?_))))))))
  obtain ⟨o2,hl2,hr⟩:=bindS hr
  refine q_loop (fun (t_3:Int) a w=>Fr a 29 [(1,s2.v),(12,s1.v),(13,(iV (goLen p_s))),(14,(iV t_3))]∧St [] w0 w m []) (fun (o:(Unit) ⊕ (Bool)) e a w=>o=.inl ()∧e=.exit 0∧Fr a 29 []∧St [] w0 w m []) hl2 ⟨hF.sub ⟨rfl,rfl,rfl,rfl,trivial⟩,hS⟩ ?_ ?_
  ·clear hF hS
   rintro t_3 a w st ⟨hF,hS⟩ hb2
   unfold spec_sFits_l1 at hb2
   refine q_seq (q_region (q_x (v:=(.bool (decide (t_3<(goLen p_s))))) hF hS (ex_ibin rfl rfl rfl) rfl rfl fun a hF=>q_end (n_sq (q_seq ?_))))
   rcases bcase (decide (t_3<(goLen p_s))) with hc3 | hc3
   ·have hb2:=cond_f hc3 hb2
    refine q_cond_f hF rfl hc3 (q_exit (x_sq ?_))
    obtain rfl:=someI hb2
    exact ⟨nofun,.inl ⟨rfl,rfl,hF.sub trivial,hS⟩⟩
   ·have hb2:=cond_t hc3 hb2
    refine q_cond_t hF rfl hc3 (q_skipc (n_sq (q_seq (q_block (q_seq (q_region (q_x (v:=(iV t_3)) hF hS (ex_move rfl) rfl rfl fun a hF=>?_)))))))
    obtain ⟨e_4,he_4,hb2⟩:=bindS hb2
    obtain ⟨vs5,at5,d5⟩:=h1.at he_4 2 rfl
    obtain rfl:vs5=[(strV e_4.Name),(iV e_4.Levels)]:=d5
    refine q_x (v:=(elP s1 (t_3.toNat * 2))) hF hS (ex_indexAddr underlying26 sz55 rfl rfl (h1.idx he_4)) rfl rfl fun a hF=>q_x (v:=(.agg #[(strV e_4.Name),(iV e_4.Levels)])) hF hS (ex_loadEA (us:=[(strV e_4.Name),(iV e_4.Levels)]) 0 underlying55 rfl sz55 rfl ((at5).at) rfl rfl rfl) rfl rfl fun a hF=>q_alloc (cs:=[(strV ([]:List UInt8)),(iV 0)]) hF hS rfl rfl rfl fun a w b6 hF hS=>q_x (v:=(iV t_3)) hF hS (ex_assign rfl) rfl rfl fun a hF=>q_store (vs:=[(strV e_4.Name),(iV e_4.Levels)]) (cs':=[(strV e_4.Name),(iV e_4.Levels)]) 0 0 hF hS sz55 rfl rfl rfl rfl rfl rfl rfl rfl fun a w hF hS=>q_end (n_sq (q_seq (e_region ⟨[],[]⟩ mixed fun w' hw'=>?_)))
    have hS:=hS.below hw'
    refine e_p (v:=s2.v) 0 hF rfl (ex_move rfl) rfl rfl (by kernel_rfl) (by kernel_rfl) (by kernel_rfl) fun a hF=>e_p (v:=(iV t_3)) 1 hF rfl (ex_move rfl) rfl rfl (by kernel_rfl) (by kernel_rfl) (by kernel_rfl) fun a hF=>?_
    obtain ⟨e_7,he_7,hb2⟩:=bindS hb2
    obtain ⟨vs8,at8,d8⟩:=h2.at he_7 1 rfl
    obtain rfl:vs8=[(iV e_7)]:=d8
    refine e_p (v:=(elP s2 (t_3.toNat * 1))) 2 hF rfl (ex_indexAddr underlying23 sz3 rfl rfl (h2.idx he_7)) rfl rfl (by kernel_rfl) (by kernel_rfl) (by kernel_rfl) fun a hF=>e_x (v:=(iV e_7)) 3 hF hS rfl (ex_loadE1 0 underlying3 rfl rfl ((at8).at) rfl rfl) rfl rfl (by kernel_rfl) (by kernel_rfl) (by kernel_rfl) (by kernel_rfl) fun a hF=>e_p (v:=(.pointer (some ⟨b6,1,none⟩))) 4 hF rfl (ex_fieldAddr underlying55 rfl sz3 rfl rfl) rfl rfl (by kernel_rfl) (by kernel_rfl) (by kernel_rfl) fun a hF=>e_x (v:=(iV e_4.Levels)) 5 hF hS rfl (ex_load1 0 0 underlying3 rfl rfl rfl rfl) rfl rfl (by kernel_rfl) (by kernel_rfl) (by kernel_rfl) (by kernel_rfl) fun a hF=>e_p (v:=(iV (w64 (e_4.Levels - 1)))) 6 hF rfl (ex_ibin rfl rfl rfl) rfl rfl (by kernel_rfl) (by kernel_rfl) (by kernel_rfl) fun a hF=>e_one 7 (by kernel_rfl) ?_
    obtain ⟨t_9,ht_9,hb2⟩:=bindS hb2
    refine e_call (vs:=[(iV e_7),(iV 0),(iV (w64 (e_4.Levels - 1)))]) hF hS rfl func38 (by kernel_rfl) rfl rfl rfl (c_spec_l1In e_7 0 (w64 (e_4.Levels - 1)) t_9 ht_9 _ m hS.vis) ?_
    rintro a w _ rfl hF hS
    refine e_p (v:=(.bool (!t_9))) 8 hF rfl (ex_not rfl) rfl rfl (by kernel_rfl) (by kernel_rfl) (by kernel_rfl) fun a hF=>e_end (by kernel_rfl) (n_sq ?_) _
    rcases bcase (!t_9) with hc4 | hc4
    ·have hb2:=cond_f hc4 hb2
     refine q_cond_f hF rfl hc4 (q_skipc (n_ib (n_sq (q_region (q_x (v:=(iV (w64 (t_3 + 1)))) hF hS (ex_ibin rfl rfl rfl) rfl rfl fun a hF=>q_x (v:=(iV (w64 (t_3 + 1)))) hF hS (ex_move rfl) rfl rfl fun a hF=>q_end ?_)))))
     obtain rfl:=someI hb2
     exact ⟨rfl,hF.sub ⟨rfl,rfl,rfl,rfl,trivial⟩,hS.mask [false]⟩
    ·have hb2:=cond_t hc4 hb2
     refine q_cond_t hF rfl hc4 (q_seq (q_region (q_x (v:=(.bool false)) hF hS (ex_assign rfl) rfl rfl fun a hF=>q_end (n_sq (q_ret (r_ib (r_sq ?_)))))))
     obtain rfl:=someI hb2
     refine ⟨nofun,.inr fun ho=>?_⟩
     subst ho
     refine r_ib (r_sq ?_)
     obtain rfl:=someI hr
     exact ret_of hF hS rfl (.tmp rfl .nil) rfl
  ·rintro e a w ⟨rfl,rfl,hF,hS⟩
   refine x_ib (n_sq ?_)
   refine q_seq (q_region (q_x (v:=(.bool true)) hF hS (ex_assign rfl) rfl rfl fun a hF=>q_end (n_sq (q_ret ?_))))
   obtain rfl:=someI hr
   exact ret_of hF hS rfl (.tmp rfl .nil) rfl
 ·have hr:=cond_t hc1 hr
  refine q_cond_t hF rfl hc1 (q_seq (q_region (q_x (v:=(.bool false)) hF hS (ex_assign rfl) rfl rfl fun a hF=>q_end (n_sq (q_ret (r_sq ?_))))))
  obtain rfl:=someI hr
  exact ret_of hF hS rfl (.tmp rfl .nil) rfl

theorem c_spec_rGood (p_s:List impl_Variable) (p_r:impl_Record) (r:Bool) (hr:spec_rGood p_s p_r=some r) (w0:World) (m:Mem) (hv:Vis m w0) (s1:Sl) (h1:Rd m s1 p_s) (s2:Sl) (h2:Rd m s2 p_r.Values) :
  Ret prog 121 [s1.v,(.agg #[(iV p_r.Area),(iV p_r.House),s2.v])] w0 (fun v _=>v=(.bool r)):=by
 unfold spec_rGood at hr
 refine ret_start func121 rfl 19 rfl rfl m hv fun a hF hS=>q_seq (q_region (q_box (cs:=[(iV p_r.Area),(iV p_r.House),s2.v]) hF hS rfl rfl rfl fun a w b3 hF hS=>q_x (v:=(.bool false)) hF hS (ex_assign rfl) rfl rfl fun a hF=>q_end (n_sq (q_seq ?_))))
 obtain ⟨t_7,hj1,hr⟩:=bindS hr
 refine q_join (fun a w=>Fr a 19 [(4,(.bool t_7))]∧St [] w0 w m []) ?_ ?_
 ·refine q_region (q_x (v:=(.pointer (some ⟨b3,0,none⟩))) hF hS (ex_fieldAddr underlying85 rfl sz3 rfl rfl) rfl rfl fun a hF=>q_x (v:=(iV p_r.Area)) hF hS (ex_load1 0 0 underlying3 rfl rfl rfl rfl) rfl rfl fun a hF=>?_)
  obtain ⟨t_4,ht_4,hj1⟩:=bindS hj1
  refine q_call (vs:=[(iV p_r.Area),(iV 0),(iV 29)]) hF hS func38 (by kernel_rfl) rfl rfl rfl (c_spec_l1In p_r.Area 0 29 t_4 ht_4 _ m hS.vis) ?_
  rintro a w _ rfl hF hS
  refine q_x (v:=(.bool t_4)) hF hS (ex_move rfl) rfl rfl fun a hF=>?_
  rcases bcase (t_4) with hc2 | hc2
  ·have hj1:=cond_f hc2 hj1
   refine q_skip hF (wanted_f hF rfl rfl rfl hc2 rfl) rfl fun a hF=>q_skip hF (wanted_f hF rfl rfl rfl hc2 rfl) rfl fun a hF=>q_skip hF (wanted_f hF rfl rfl rfl hc2 rfl) rfl fun a hF=>q_x (v:=(.bool false)) hF hS (ex_pick_f rfl rfl hc2) rfl rfl fun a hF=>q_x (v:=(.bool false)) hF hS (ex_move rfl) rfl rfl fun a hF=>q_skip hF (wanted_f hF rfl rfl rfl rfl rfl) rfl fun a hF=>q_skip hF (wanted_f hF rfl rfl rfl rfl rfl) rfl fun a hF=>q_skip hF (wanted_f hF rfl rfl rfl rfl rfl) rfl fun a hF=>q_skip hF (wanted_f hF rfl rfl rfl rfl rfl) rfl fun a hF=>q_x (v:=(.bool false)) hF hS (ex_pick_f rfl rfl rfl) rfl rfl fun a hF=>q_x (v:=(.bool false)) hF hS (ex_assign rfl) rfl rfl fun a hF=>q_end (n_jn ?_)
   obtain rfl:=someI hj1
   exact ⟨hF.sub ⟨rfl,trivial⟩,hS.mask [false]⟩
  ·have hj1:=cond_t hc2 hj1
   refine q_xg (v:=(.pointer (some ⟨b3,1,none⟩))) hF hS (ex_fieldAddr underlying85 rfl sz3 rfl rfl) (wanted_t hF rfl rfl rfl hc2) rfl fun a hF=>q_xg (v:=(iV p_r.House)) hF hS (ex_load1 0 0 underlying3 rfl rfl rfl rfl) (wanted_t hF rfl rfl rfl hc2) rfl fun a hF=>?_
   obtain ⟨t_5,ht_5,hj1⟩:=bindS hj1
   refine q_callg (vs:=[(iV p_r.House),(iV 0),(iV 999)]) hF hS (wanted_t hF rfl rfl rfl hc2) func38 (by kernel_rfl) rfl rfl rfl (c_spec_l1In p_r.House 0 999 t_5 ht_5 _ m hS.vis) ?_
   rintro a w _ rfl hF hS
   refine q_x (v:=(.bool t_5)) hF hS (ex_pick_t rfl rfl hc2) rfl rfl fun a hF=>q_x (v:=(.bool t_5)) hF hS (ex_move rfl) rfl rfl fun a hF=>?_
   rcases bcase (t_5) with hc3 | hc3
   ·have hj1:=cond_f hc3 hj1
    refine q_skip hF (wanted_f hF rfl rfl rfl hc3 rfl) rfl fun a hF=>q_skip hF (wanted_f hF rfl rfl rfl hc3 rfl) rfl fun a hF=>q_skip hF (wanted_f hF rfl rfl rfl hc3 rfl) rfl fun a hF=>q_skip hF (wanted_f hF rfl rfl rfl hc3 rfl) rfl fun a hF=>q_x (v:=(.bool false)) hF hS (ex_pick_f rfl rfl hc3) rfl rfl fun a hF=>q_x (v:=(.bool false)) hF hS (ex_assign rfl) rfl rfl fun a hF=>q_end (n_jn ?_)
    obtain rfl:=someI hj1
    exact ⟨hF.sub ⟨rfl,trivial⟩,hS.mask [false]⟩
   ·have hj1:=cond_t hc3 hj1
    refine q_xg (v:=s1.v) hF hS (ex_move rfl) (wanted_t hF rfl rfl rfl hc3) rfl fun a hF=>q_xg (v:=(.pointer (some ⟨b3,2,none⟩))) hF hS (ex_fieldAddr underlying85 rfl sz23 rfl rfl) (wanted_t hF rfl rfl rfl hc3) rfl fun a hF=>q_xg (v:=s2.v) hF hS (ex_load1 0 0 underlying23 rfl rfl rfl rfl) (wanted_t hF rfl rfl rfl hc3) rfl fun a hF=>?_
    obtain ⟨t_6,ht_6,hj1⟩:=bindS hj1
    refine q_callg (vs:=[s1.v,s2.v]) hF hS (wanted_t hF rfl rfl rfl hc3) func126 (by kernel_rfl) rfl rfl rfl (c_spec_sFits p_s p_r.Values t_6 ht_6 _ m hS.vis s1 h1 s2 h2) ?_
    rintro a w _ rfl hF hS
    refine q_x (v:=(.bool t_6)) hF hS (ex_pick_t rfl rfl hc3) rfl rfl fun a hF=>q_x (v:=(.bool t_6)) hF hS (ex_assign rfl) rfl rfl fun a hF=>q_end (n_jn ?_)
    obtain rfl:=someI hj1
    exact ⟨hF.sub ⟨rfl,trivial⟩,hS.mask [false]⟩
 ·rintro a w ⟨hF,hS⟩
  refine n_sq (q_ret ?_)
  obtain rfl:=someI hr
  exact ret_of hF hS rfl (.tmp rfl .nil) rfl

theorem c_spec_dGood (p_s:List impl_Variable) (p_l:List impl_Record) (r:Bool) (hr:spec_dGood p_s p_l=some r) (w0:World) (m:Mem) (hv:Vis m w0) (s1:Sl) (h1:Rd m s1 p_s) (s2:Sl) (h2:Rd m s2 p_l) :
  Ret prog 103 [s1.v,s2.v] w0 (fun v _=>v=(.bool r)):=by
 unfold spec_dGood at hr
 refine ret_start func103 rfl 21 rfl rfl m hv fun a hF hS=>q_seq (q_region (q_x (v:=(.bool false)) hF hS (ex_assign rfl) rfl rfl fun a hF=>q_end (n_sq (q_seq (q_seq (q_region (q_x (v:=s2.v) hF hS (ex_move rfl) rfl rfl fun a hF=>q_x (v:=(iV (goLen p_l))) hF hS (ex_len underlying29 rfl h2.len) rfl rfl fun a hF=>q_x (v:=(iV 0)) hF hS (ex_move rfl) rfl rfl fun a hF=>q_end (n_sq (q_block ?_)))))))))
 obtain ⟨o1,hl1,hr⟩:=bindS hr
 refine q_loop (fun (t_3:Int) a w=>Fr a 21 [(0,s1.v),(1,s2.v),(7,s2.v),(8,(iV (goLen p_l))),(9,(iV t_3))]∧St [] w0 w m []) (fun (o:(Unit) ⊕ (Bool)) e a w=>o=.inl ()∧e=.exit 0∧Fr a 21 [(1,s2.v)]∧St [] w0 w m []) hl1 ⟨hF.sub ⟨rfl,rfl,rfl,rfl,rfl,trivial⟩,hS⟩ ?_ ?_
 ·clear hF hS
  rintro t_3 a w st ⟨hF,hS⟩ hb1
  unfold spec_dGood_l1 at hb1
  refine q_seq (q_region (q_x (v:=(.bool (decide (t_3<(goLen p_l))))) hF hS (ex_ibin rfl rfl rfl) rfl rfl fun a hF=>q_end (n_sq (q_seq ?_))))
  rcases bcase (decide (t_3<(goLen p_l))) with hc2 | hc2
  ·have hb1:=cond_f hc2 hb1
   refine q_cond_f hF rfl hc2 (q_exit (x_sq ?_))
   obtain rfl:=someI hb1
   exact ⟨nofun,.inl ⟨rfl,rfl,hF.sub ⟨rfl,trivial⟩,hS⟩⟩
  ·have hb1:=cond_t hc2 hb1
   refine q_cond_t hF rfl hc2 (q_skipc (n_sq (q_seq (q_block (q_seq (q_region ?_))))))
   obtain ⟨e_4,he_4,hb1⟩:=bindS hb1
   obtain ⟨vs5,at5,d5⟩:=h2.at he_4 3 rfl
   obtain ⟨s6,rfl,h6⟩:∃ s6:Sl,vs5=[(iV e_4.Area),(iV e_4.House),s6.v]∧Rd m s6 e_4.Values:=d5
   refine q_x (v:=(elP s2 (t_3.toNat * 3))) hF hS (ex_indexAddr underlying29 sz85 rfl rfl (h2.idx he_4)) rfl rfl fun a hF=>q_x (v:=(.agg #[(iV e_4.Area),(iV e_4.House),s6.v])) hF hS (ex_loadEA (us:=[(iV e_4.Area),(iV e_4.House),s6.v]) 0 underlying85 rfl sz85 rfl ((at5).at) rfl rfl rfl) rfl rfl fun a hF=>q_alloc (cs:=[(iV 0),(iV 0),nilS.v]) hF hS rfl rfl rfl fun a w b7 hF hS=>q_store (vs:=[(iV e_4.Area),(iV e_4.House),s6.v]) (cs':=[(iV e_4.Area),(iV e_4.House),s6.v]) 0 0 hF hS sz85 rfl rfl rfl rfl rfl rfl rfl rfl fun a w hF hS=>q_end (n_sq (q_seq (q_region (q_x (v:=s1.v) hF hS (ex_move rfl) rfl rfl fun a hF=>q_x (v:=(.agg #[(iV e_4.Area),(iV e_4.House),s6.v])) hF hS (ex_loadA (vs:=[(iV e_4.Area),(iV e_4.House),s6.v]) 0 0 underlying85 rfl sz85 rfl rfl rfl rfl) rfl rfl fun a hF=>?_))))
   obtain ⟨t_8,ht_8,hb1⟩:=bindS hb1
   refine q_call (vs:=[s1.v,(.agg #[(iV e_4.Area),(iV e_4.House),s6.v])]) hF hS func121 (by kernel_rfl) rfl rfl rfl (c_spec_rGood p_s e_4 t_8 ht_8 _ m hS.vis s1 h1 s6 h6) ?_
   rintro a w _ rfl hF hS
   refine q_x (v:=(.bool (!t_8))) hF hS (ex_not rfl) rfl rfl fun a hF=>q_end (n_sq ?_)
   rcases bcase (!t_8) with hc3 | hc3
   ·have hb1:=cond_f hc3 hb1
    refine q_cond_f hF rfl hc3 (q_skipc (n_ib (n_sq (q_region (q_x (v:=(iV (w64 (t_3 + 1)))) hF hS (ex_ibin rfl rfl rfl) rfl rfl fun a hF=>q_x (v:=(iV (w64 (t_3 + 1)))) hF hS (ex_move rfl) rfl rfl fun a hF=>q_end ?_)))))
    obtain rfl:=someI hb1
    exact ⟨rfl,hF.sub ⟨rfl,rfl,rfl,rfl,rfl,trivial⟩,hS.mask [false]⟩
   ·have hb1:=cond_t hc3 hb1
    refine q_cond_t hF rfl hc3 (q_seq (q_region (q_x (v:=(.bool false)) hF hS (ex_assign rfl) rfl rfl fun a hF=>q_end (n_sq (q_ret (r_ib (r_sq ?_)))))))
    obtain rfl:=someI hb1
    refine ⟨nofun,.inr fun ho=>?_⟩
    subst ho
    refine r_ib (r_sq ?_)
    obtain rfl:=someI hr
    exact ret_of hF hS rfl (.tmp rfl .nil) rfl
 ·rintro e a w ⟨rfl,rfl,hF,hS⟩
  refine x_ib (n_sq ?_)
  refine q_seq (q_region (q_x (v:=s2.v) hF hS (ex_move rfl) rfl rfl fun a hF=>q_x (v:=(iV (goLen p_l))) hF hS (ex_len underlying29 rfl h2.len) rfl rfl fun a hF=>q_x (v:=(.bool (decide ((goLen p_l)≤40)))) hF hS (ex_ibin rfl rfl rfl) rfl rfl fun a hF=>q_x (v:=(.bool (decide ((goLen p_l)≤40)))) hF hS (ex_assign rfl) rfl rfl fun a hF=>q_end (n_sq (q_ret ?_))))
  obtain rfl:=someI hr
  exact ret_of hF hS rfl (.tmp rfl .nil) rfl

theorem c_spec_dInput (p_s:List impl_Variable) (p_l:List impl_Record) (r:Bool) (hr:spec_dInput p_s p_l=some r) (w0:World) (m:Mem) (hv:Vis m w0) (s1:Sl) (h1:Rd m s1 p_s) (s2:Sl) (h2:Rd m s2 p_l) :
  Ret prog 69 [s1.v,s2.v] w0 (fun v _=>v=(.bool r)):=by
 unfold spec_dInput at hr
 refine ret_start func69 rfl 12 rfl rfl m hv fun a hF hS=>q_seq (q_region (q_x (v:=(.bool false)) hF hS (ex_assign rfl) rfl rfl fun a hF=>q_end (n_sq (q_seq ?_))))
 obtain ⟨t_5,hj1,hr⟩:=bindS hr
 refine q_join (fun a w=>Fr a 12 [(4,(.bool t_5))]∧St [] w0 w m []) ?_ ?_
 ·refine q_region (q_x (v:=s1.v) hF hS (ex_move rfl) rfl rfl fun a hF=>?_)
  obtain ⟨t_3,ht_3,hj1⟩:=bindS hj1
  refine q_call (vs:=[s1.v]) hF hS func64 (by kernel_rfl) rfl rfl rfl (c_spec_sGood p_s t_3 ht_3 _ m hS.vis s1 h1) ?_
  rintro a w _ rfl hF hS
  refine q_x (v:=(.bool t_3)) hF hS (ex_move rfl) rfl rfl fun a hF=>?_
  rcases bcase (t_3) with hc2 | hc2
  ·have hj1:=cond_f hc2 hj1
   refine q_skip hF (wanted_f hF rfl rfl rfl hc2 rfl) rfl fun a hF=>q_skip hF (wanted_f hF rfl rfl rfl hc2 rfl) rfl fun a hF=>q_skip hF (wanted_f hF rfl rfl rfl hc2 rfl) rfl fun a hF=>q_x (v:=(.bool false)) hF hS (ex_pick_f rfl rfl hc2) rfl rfl fun a hF=>q_x (v:=(.bool false)) hF hS (ex_assign rfl) rfl rfl fun a hF=>q_end (n_jn ?_)
   obtain rfl:=someI hj1
   exact ⟨hF.sub ⟨rfl,trivial⟩,hS⟩
  ·have hj1:=cond_t hc2 hj1
   refine q_xg (v:=s1.v) hF hS (ex_move rfl) (wanted_t hF rfl rfl rfl hc2) rfl fun a hF=>q_xg (v:=s2.v) hF hS (ex_move rfl) (wanted_t hF rfl rfl rfl hc2) rfl fun a hF=>?_
   obtain ⟨t_4,ht_4,hj1⟩:=bindS hj1
   refine q_callg (vs:=[s1.v,s2.v]) hF hS (wanted_t hF rfl rfl rfl hc2) func103 (by kernel_rfl) rfl rfl rfl (c_spec_dGood p_s p_l t_4 ht_4 _ m hS.vis s1 h1 s2 h2) ?_
   rintro a w _ rfl hF hS
   refine q_x (v:=(.bool t_4)) hF hS (ex_pick_t rfl rfl hc2) rfl rfl fun a hF=>q_x (v:=(.bool t_4)) hF hS (ex_assign rfl) rfl rfl fun a hF=>q_end (n_jn ?_)
   obtain rfl:=someI hj1
   exact ⟨hF.sub ⟨rfl,trivial⟩,hS⟩
 ·rintro a w ⟨hF,hS⟩
  refine n_sq (q_ret ?_)
  obtain rfl:=someI hr
  exact ret_of hF hS rfl (.tmp rfl .nil) rfl

theorem c_spec_l1Has (p_l:List Int) (p_n:Int) (r:Bool) (hr:spec_l1Has p_l p_n=some r) (w0:World) (m:Mem) (hv:Vis m w0) (s1:Sl) (h1:Rd m s1 p_l) :
  Ret prog 71 [s1.v,(iV p_n)] w0 (fun v _=>v=(.bool r)):=by
 unfold spec_l1Has at hr
 refine ret_start func71 rfl 17 rfl rfl m hv fun a hF hS=>q_seq (q_region (q_x (v:=(.bool false)) hF hS (ex_assign rfl) rfl rfl fun a hF=>q_end (n_sq (q_seq (q_seq (q_region (q_x (v:=s1.v) hF hS (ex_move rfl) rfl rfl fun a hF=>q_x (v:=(iV (goLen p_l))) hF hS (ex_len underlying23 rfl h1.len) rfl rfl fun a hF=>q_x (v:=(iV 0)) hF hS (ex_move rfl) rfl rfl fun a hF=>q_end (n_sq (q_block ?_)))))))))
 obtain ⟨o1,hl1,hr⟩:=bindS hr
 refine q_loop (fun (t_2:Int) a w=>Fr a 17 [(1,(iV p_n)),(7,s1.v),(8,(iV (goLen p_l))),(9,(iV t_2))]∧St [] w0 w m []) (fun (o:(Unit) ⊕ (Bool)) e a w=>o=.inl ()∧e=.exit 0∧Fr a 17 []∧St [] w0 w m []) hl1 ⟨hF.sub ⟨rfl,rfl,rfl,rfl,trivial⟩,hS⟩ ?_ ?_
 ·clear hF hS
  rintro t_2 a w st ⟨hF,hS⟩ hb1
  unfold spec_l1Has_l1 at hb1
  refine q_seq (q_region (q_x (v:=(.bool (decide (t_2<(goLen p_l))))) hF hS (ex_ibin rfl rfl rfl) rfl rfl fun a hF=>q_end (n_sq (q_seq ?_))))
  rcases bcase (decide (t_2<(goLen p_l))) with hc2 | hc2
  ·have hb1:=cond_f hc2 hb1
   refine q_cond_f hF rfl hc2 (q_exit (x_sq ?_))
   obtain rfl:=someI hb1
   exact ⟨nofun,.inl ⟨rfl,rfl,hF.sub trivial,hS⟩⟩
  ·have hb1:=cond_t hc2 hb1
   refine q_cond_t hF rfl hc2 (q_skipc (n_sq (q_seq (q_block (q_seq (q_region ?_))))))
   obtain ⟨e_3,he_3,hb1⟩:=bindS hb1
   obtain ⟨vs4,at4,d4⟩:=h1.at he_3 1 rfl
   obtain rfl:vs4=[(iV e_3)]:=d4
   refine q_x (v:=(elP s1 (t_2.toNat * 1))) hF hS (ex_indexAddr underlying23 sz3 rfl rfl (h1.idx he_3)) rfl rfl fun a hF=>q_x (v:=(iV e_3)) hF hS (ex_loadE1 0 underlying3 rfl rfl ((at4).at) rfl rfl) rfl rfl fun a hF=>q_x (v:=(iV e_3)) hF hS (ex_assign rfl) rfl rfl fun a hF=>q_end (n_sq (q_seq (q_region (q_x (v:=(iV e_3)) hF hS (ex_move rfl) rfl rfl fun a hF=>q_x (v:=(iV p_n)) hF hS (ex_move rfl) rfl rfl fun a hF=>q_x (v:=(.bool (e_3 == p_n))) hF hS (ex_ibin rfl rfl rfl) rfl rfl fun a hF=>q_end (n_sq ?_)))))
   rcases bcase (e_3 == p_n) with hc3 | hc3
   ·have hb1:=cond_f hc3 hb1
    refine q_cond_f hF rfl hc3 (q_skipc (n_ib (n_sq (q_region (q_x (v:=(iV (w64 (t_2 + 1)))) hF hS (ex_ibin rfl rfl rfl) rfl rfl fun a hF=>q_x (v:=(iV (w64 (t_2 + 1)))) hF hS (ex_move rfl) rfl rfl fun a hF=>q_end ?_)))))
    obtain rfl:=someI hb1
    exact ⟨rfl,hF.sub ⟨rfl,rfl,rfl,rfl,trivial⟩,hS⟩
   ·have hb1:=cond_t hc3 hb1
    refine q_cond_t hF rfl hc3 (q_seq (q_region (q_x (v:=(.bool true)) hF hS (ex_assign rfl) rfl rfl fun a hF=>q_end (n_sq (q_ret (r_ib (r_sq ?_)))))))
    obtain rfl:=someI hb1
    refine ⟨nofun,.inr fun ho=>?_⟩
    subst ho
    refine r_ib (r_sq ?_)
    obtain rfl:=someI hr
    exact ret_of hF hS rfl (.tmp rfl .nil) rfl
 ·rintro e a w ⟨rfl,rfl,hF,hS⟩
  refine x_ib (n_sq ?_)
  refine q_seq (q_region (q_x (v:=(.bool false)) hF hS (ex_assign rfl) rfl rfl fun a hF=>q_end (n_sq (q_ret ?_))))
  obtain rfl:=someI hr
  exact ret_of hF hS rfl (.tmp rfl .nil) rfl

theorem c_spec_uSurvey (p_g:impl_Geo) (p_s:List impl_Variable) (p_l:List impl_Record) (r:Bool) (hr:spec_uSurvey p_g p_s p_l=some r) (w0:World) (m:Mem) (hv:Vis m w0) (s1:Sl) (h1:Rd m s1 p_g.Parents) (s2:Sl) (h2:Rd m s2 p_s) (s3:Sl) (h3:Rd m s3 p_l) :
  Ret prog 25 [(.agg #[s1.v]),s2.v,s3.v] w0 (fun v _=>v=(.bool r)):=by
 unfold spec_uSurvey at hr
 refine ret_start func25 rfl 33 rfl rfl m hv fun a hF hS=>q_seq (q_region (q_box (cs:=[s1.v]) hF hS rfl rfl rfl fun a w b4 hF hS=>q_x (v:=(.bool false)) hF hS (ex_assign rfl) rfl rfl fun a hF=>q_end (n_sq (q_seq (q_seq ?_)))))
 obtain ⟨t_7,hj1,hr⟩:=bindS hr
 refine q_join (fun a w=>Fr a 33 [(2,s3.v),(3,(.pointer (some ⟨b4,0,none⟩))),(18,(.bool t_7))]∧St [] w0 w m [[⟨b4,[s1.v],25⟩]]) ?_ ?_
 ·refine q_region (q_x (v:=(.agg #[s1.v])) hF hS (ex_loadA (vs:=[s1.v]) 0 0 underlying25 rfl sz25 rfl rfl rfl rfl) rfl rfl fun a hF=>?_)
  obtain ⟨t_5,ht_5,hj1⟩:=bindS hj1
  refine q_call (vs:=[(.agg #[s1.v])]) hF hS func63 (by kernel_rfl) rfl rfl rfl (c_spec_gGood p_g t_5 ht_5 _ m hS.vis s1 h1) ?_
  rintro a w _ rfl hF hS
  refine q_x (v:=(.bool (!t_5))) hF hS (ex_not rfl) rfl rfl fun a hF=>q_x (v:=(.bool (!t_5))) hF hS (ex_move rfl) rfl rfl fun a hF=>?_
  rcases bcase (!t_5) with hc2 | hc2
  ·have hj1:=cond_f hc2 hj1
   refine q_xg (v:=s2.v) hF hS (ex_move rfl) (wanted_t hF rfl rfl rfl hc2) rfl fun a hF=>q_xg (v:=s3.v) hF hS (ex_move rfl) (wanted_t hF rfl rfl rfl hc2) rfl fun a hF=>?_
   obtain ⟨t_6,ht_6,hj1⟩:=bindS hj1
   refine q_callg (vs:=[s2.v,s3.v]) hF hS (wanted_t hF rfl rfl rfl hc2) func69 (by kernel_rfl) rfl rfl rfl (c_spec_dInput p_s p_l t_6 ht_6 _ m hS.vis s2 h2 s3 h3) ?_
   rintro a w _ rfl hF hS
   refine q_xg (v:=(.bool (!t_6))) hF hS (ex_not rfl) (wanted_t hF rfl rfl rfl hc2) rfl fun a hF=>q_x (v:=(.bool (!t_6))) hF hS (ex_pick_f rfl rfl hc2) rfl rfl fun a hF=>q_end (n_jn ?_)
   obtain rfl:=someI hj1
   exact ⟨hF.sub ⟨rfl,rfl,rfl,trivial⟩,hS⟩
  ·have hj1:=cond_t hc2 hj1
   refine q_skip hF (wanted_f hF rfl rfl rfl hc2 rfl) rfl fun a hF=>q_skip hF (wanted_f hF rfl rfl rfl hc2 rfl) rfl fun a hF=>q_skip hF (wanted_f hF rfl rfl rfl hc2 rfl) rfl fun a hF=>q_skip hF (wanted_f hF rfl rfl rfl hc2 rfl) rfl fun a hF=>q_x (v:=(.bool true)) hF hS (ex_pick_t rfl rfl hc2) rfl rfl fun a hF=>q_end (n_jn ?_)
   obtain rfl:=someI hj1
   exact ⟨hF.sub ⟨rfl,rfl,rfl,trivial⟩,hS⟩
 ·rintro a w ⟨hF,hS⟩
  refine n_sq ?_
  rcases bcase (t_7) with hc3 | hc3
  ·have hr:=cond_f hc3 hr
   refine q_cond_f hF rfl hc3 (q_skipc (n_sq (q_seq (q_region (q_x (v:=(.agg #[s1.v])) hF hS (ex_loadA (vs:=[s1.v]) 0 0 underlying25 rfl sz25 rfl rfl rfl rfl) rfl rfl fun a hF=>?_)))))
   obtain ⟨t_8,ht_8,hr⟩:=bindS hr
   refine q_call (vs:=[(.agg #[s1.v])]) hF hS func70 (by kernel_rfl) rfl rfl rfl (c_spec_gLeaves p_g t_8 ht_8 _ m hS.vis s1 h1) ?_
   rintro a w _ ⟨q10,s10,rfl,hR9,h10⟩ hF hS2
   have hS:St _ _ _ _ [q10,[⟨b4,[s1.v],25⟩]]:=hS.joinF hR9
   refine q_x (v:=s10.v) hF hS (ex_assign rfl) rfl rfl fun a hF=>q_end (n_sq (q_seq (q_seq (q_region (q_x (v:=s3.v) hF hS (ex_move rfl) rfl rfl fun a hF=>q_x (v:=(iV (goLen p_l))) hF hS (ex_len underlying29 rfl h3.len) rfl rfl fun a hF=>q_x (v:=(iV 0)) hF hS (ex_move rfl) rfl rfl fun a hF=>q_end (n_sq (q_block ?_)))))))
   obtain ⟨o4,hl4,hr⟩:=bindS hr
   refine q_loop (fun (t_11:Int) a w=>Fr a 33 [(7,s10.v),(21,s3.v),(22,(iV (goLen p_l))),(23,(iV t_11))]∧St [] w0 w m [q10]) (fun (o:(Unit) ⊕ (Bool)) e a w=>o=.inl ()∧e=.exit 0∧Fr a 33 []∧St [] w0 w m []) hl4 ⟨hF.sub ⟨rfl,rfl,rfl,rfl,trivial⟩,hS.mask [true,false]⟩ ?_ ?_
   ·clear hF hS
    rintro t_11 a w st ⟨hF,hS⟩ hb4
    unfold spec_uSurvey_l1 at hb4
    refine q_seq (q_region (q_x (v:=(.bool (decide (t_11<(goLen p_l))))) hF hS (ex_ibin rfl rfl rfl) rfl rfl fun a hF=>q_end (n_sq (q_seq ?_))))
    rcases bcase (decide (t_11<(goLen p_l))) with hc5 | hc5
    ·have hb4:=cond_f hc5 hb4
     refine q_cond_f hF rfl hc5 (q_exit (x_sq ?_))
     obtain rfl:=someI hb4
     exact ⟨nofun,.inl ⟨rfl,rfl,hF.sub trivial,hS.mask [false]⟩⟩
    ·have hb4:=cond_t hc5 hb4
     refine q_cond_t hF rfl hc5 (q_skipc (n_sq (q_seq (q_block (q_seq (q_region ?_))))))
     obtain ⟨e_12,he_12,hb4⟩:=bindS hb4
     obtain ⟨vs13,at13,d13⟩:=h3.at he_12 3 rfl
     obtain ⟨s14,rfl,h14⟩:∃ s14:Sl,vs13=[(iV e_12.Area),(iV e_12.House),s14.v]∧Rd m s14 e_12.Values:=d13
     refine q_x (v:=(elP s3 (t_11.toNat * 3))) hF hS (ex_indexAddr underlying29 sz85 rfl rfl (h3.idx he_12)) rfl rfl fun a hF=>q_x (v:=(.agg #[(iV e_12.Area),(iV e_12.House),s14.v])) hF hS (ex_loadEA (us:=[(iV e_12.Area),(iV e_12.House),s14.v]) 0 underlying85 rfl sz85 rfl ((at13).at) rfl rfl rfl) rfl rfl fun a hF=>q_alloc (cs:=[(iV 0),(iV 0),nilS.v]) hF hS rfl rfl rfl fun a w b15 hF hS=>q_store (vs:=[(iV e_12.Area),(iV e_12.House),s14.v]) (cs':=[(iV e_12.Area),(iV e_12.House),s14.v]) 0 0 hF hS sz85 rfl rfl rfl rfl rfl rfl rfl rfl fun a w hF hS=>q_end (n_sq (q_seq (q_region (q_x (v:=s10.v) hF hS (ex_move rfl) rfl rfl fun a hF=>q_x (v:=(.pointer (some ⟨b15,0,none⟩))) hF hS (ex_fieldAddr underlying85 rfl sz3 rfl rfl) rfl rfl fun a hF=>q_x (v:=(iV e_12.Area)) hF hS (ex_load1 0 0 underlying3 rfl rfl rfl rfl) rfl rfl fun a hF=>?_))))
     obtain ⟨m17,hl17,hv17,hz17⟩:=hS.lend
     obtain ⟨t_16,ht_16,hb4⟩:=bindS hb4
     refine q_call (vs:=[s10.v,(iV e_12.Area)]) hF hS func71 (by kernel_rfl) rfl rfl rfl (c_spec_l1Has t_8 e_12.Area t_16 ht_16 _ m17 hv17 s10 (h10.froz hl17 (hz17 1 _ rfl))) ?_
     rintro a w _ rfl hF hS
     refine q_x (v:=(.bool (!t_16))) hF hS (ex_not rfl) rfl rfl fun a hF=>q_end (n_sq ?_)
     rcases bcase (!t_16) with hc6 | hc6
     ·have hb4:=cond_f hc6 hb4
      refine q_cond_f hF rfl hc6 (q_skipc (n_ib (n_sq (q_region (q_x (v:=(iV (w64 (t_11 + 1)))) hF hS (ex_ibin rfl rfl rfl) rfl rfl fun a hF=>q_x (v:=(iV (w64 (t_11 + 1)))) hF hS (ex_move rfl) rfl rfl fun a hF=>q_end ?_)))))
      obtain rfl:=someI hb4
      exact ⟨rfl,hF.sub ⟨rfl,rfl,rfl,rfl,trivial⟩,hS.mask [false,true]⟩
     ·have hb4:=cond_t hc6 hb4
      refine q_cond_t hF rfl hc6 (q_seq (q_region (q_x (v:=(.bool false)) hF hS (ex_assign rfl) rfl rfl fun a hF=>q_end (n_sq (q_ret (r_ib (r_sq ?_)))))))
      obtain rfl:=someI hb4
      refine ⟨nofun,.inr fun ho=>?_⟩
      subst ho
      refine r_ib (r_sq ?_)
      obtain rfl:=someI hr
      exact ret_of hF hS rfl (.tmp rfl .nil) rfl
   ·rintro e a w ⟨rfl,rfl,hF,hS⟩
    refine x_ib (n_sq ?_)
    refine q_seq (q_region (q_x (v:=(.bool true)) hF hS (ex_assign rfl) rfl rfl fun a hF=>q_end (n_sq (q_ret ?_))))
    obtain rfl:=someI hr
    exact ret_of hF hS rfl (.tmp rfl .nil) rfl
  ·have hr:=cond_t hc3 hr
   refine q_cond_t hF rfl hc3 (q_seq (q_region (q_x (v:=(.bool false)) hF hS (ex_assign rfl) rfl rfl fun a hF=>q_end (n_sq (q_ret (r_sq ?_))))))
   obtain rfl:=someI hr
   exact ret_of hF hS rfl (.tmp rfl .nil) rfl

theorem c_spec_sLevels (p_s:List impl_Variable) (r:(List Int)) (hr:spec_sLevels p_s=some r) (w0:World) (m:Mem) (hv:Vis m w0) (s1:Sl) (h1:Rd m s1 p_s) :
  Ret prog 73 [s1.v] w0 (fun v w=>∃ (q0':Piece) (s0':Sl),v=s0'.v∧St [] w0 w m [q0']∧OwnL m 3 q0' s0' r):=by
 unfold spec_sLevels at hr
 refine ret_start func73 rfl 19 rfl rfl m hv fun a hF hS=>q_seq (q_region (q_x (v:=nilS.v) hF hS (ex_assign rfl) rfl rfl fun a hF=>q_end (n_sq (q_seq (q_region (q_x (v:=nilS.v) hF hS (ex_assign rfl) rfl rfl fun a hF=>q_end (n_sq (q_seq (q_seq (q_region (q_x (v:=s1.v) hF hS (ex_move rfl) rfl rfl fun a hF=>q_x (v:=(iV (goLen p_s))) hF hS (ex_len underlying26 rfl h1.len) rfl rfl fun a hF=>q_x (v:=(iV 0)) hF hS (ex_move rfl) rfl rfl fun a hF=>q_end (n_sq (q_block ?_)))))))))))))
 obtain ⟨out_11,hl1,hr⟩:=bindS hr
 refine q_loop (fun (s:(List Int) × Int) a w=>∃ (q3:Piece),∃ (s3:Sl),∃ out_2,∃ t_4,s=(out_2,t_4)∧Fr a 19 [(3,s3.v),(6,s1.v),(7,(iV (goLen p_s))),(8,(iV t_4))]∧St [] w0 w m [q3]∧OwnL m 3 q3 s3 out_2) (fun (out_11:(List Int)) e a w=>∃ (q12:Piece),∃ (s12:Sl),e=.exit 0∧Fr a 19 [(3,s12.v)]∧St [] w0 w m [q12]∧OwnL m 3 q12 s12 out_11) hl1 ⟨[],nilS,_,_,rfl,hF.sub ⟨rfl,rfl,rfl,rfl,trivial⟩,hS.sel [0] (by decide),(OwnL.nil (α:=Int) m 3)⟩ ?_ ?_
 ·clear hF hS
  rintro s a w st ⟨q3,s3,out_2,t_4,rfl,hF,hS,h3⟩ hb1
  unfold spec_sLevels_l1 at hb1
  refine q_seq (q_region (q_x (v:=(.bool (decide (t_4<(goLen p_s))))) hF hS (ex_ibin rfl rfl rfl) rfl rfl fun a hF=>q_end (n_sq (q_seq ?_))))
  rcases bcase (decide (t_4<(goLen p_s))) with hc2 | hc2
  ·have hb1:=cond_f hc2 hb1
   refine q_cond_f hF rfl hc2 (q_exit (x_sq ?_))
   obtain rfl:=someI hb1
   exact ⟨nofun,.inl ⟨q3,s3,rfl,hF.sub ⟨rfl,trivial⟩,hS,h3⟩⟩
  ·have hb1:=cond_t hc2 hb1
   refine q_cond_t hF rfl hc2 (q_skipc (n_sq (q_seq (q_block (q_seq (q_region ?_))))))
   obtain ⟨e_5,he_5,hb1⟩:=bindS hb1
   obtain ⟨vs6,at6,d6⟩:=h1.at he_5 2 rfl
   obtain rfl:vs6=[(strV e_5.Name),(iV e_5.Levels)]:=d6
   refine q_x (v:=(elP s1 (t_4.toNat * 2))) hF hS (ex_indexAddr underlying26 sz55 rfl rfl (h1.idx he_5)) rfl rfl fun a hF=>q_x (v:=(.agg #[(strV e_5.Name),(iV e_5.Levels)])) hF hS (ex_loadEA (us:=[(strV e_5.Name),(iV e_5.Levels)]) 0 underlying55 rfl sz55 rfl ((at6).at) rfl rfl rfl) rfl rfl fun a hF=>q_alloc (cs:=[(strV ([]:List UInt8)),(iV 0)]) hF hS rfl rfl rfl fun a w b7 hF hS=>q_store (vs:=[(strV e_5.Name),(iV e_5.Levels)]) (cs':=[(strV e_5.Name),(iV e_5.Levels)]) 0 0 hF hS sz55 rfl rfl rfl rfl rfl rfl rfl rfl fun a w hF hS=>q_end (n_sq (q_region (q_x (v:=s3.v) hF hS (ex_move rfl) rfl rfl fun a hF=>q_x (v:=(.pointer (some ⟨b7,1,none⟩))) hF hS (ex_fieldAddr underlying55 rfl sz3 rfl rfl) rfl rfl fun a hF=>q_x (v:=(iV e_5.Levels)) hF hS (ex_load1 0 0 underlying3 rfl rfl rfl rfl) rfl rfl fun a hF=>q_do rfl fun _ hK=>wp_buildSlice' (l:=([e_5.Levels]:List Int)) (cells:=[(iV e_5.Levels)]) hF hS underlying23 inf3 rfl rfl (by kernel_rfl) rfl rfl rfl ⟨rfl,rfl⟩ rfl rfl fun a w q8 s8 hF hS h8 _=>hK _ _ ?_)))
   have hS:St _ _ _ _ [q3,q8,[⟨b7,[(strV e_5.Name),(iV e_5.Levels)],55⟩]]:=hS.sel [2,0,1] (by decide)
   obtain ⟨l_9,hl_9,hb1⟩:=bindS hb1
   refine q_do rfl fun _ hK=>wp_append hF hS h3 underlying23 inf3 rfl rfl rfl rfl (h8.vw hS (j:=1) rfl) rfl (by decide) hl_9 rfl fun a w q10 s10 hF hS h10=>hK _ _ (q_x (v:=s10.v) hF hS (ex_assign rfl) rfl rfl fun a hF=>q_end (n_ib (n_sq (q_region (q_x (v:=(iV (w64 (t_4 + 1)))) hF hS (ex_ibin rfl rfl rfl) rfl rfl fun a hF=>q_x (v:=(iV (w64 (t_4 + 1)))) hF hS (ex_move rfl) rfl rfl fun a hF=>q_end ?_)))))
   obtain rfl:=someI hb1
   exact ⟨rfl,q10,s10,_,_,rfl,hF.sub ⟨rfl,rfl,rfl,rfl,trivial⟩,hS.mask [true,false,false],h10⟩
 ·rintro e a w ⟨q12,s12,rfl,hF,hS,h12⟩
  refine x_ib (n_sq ?_)
  refine q_seq (q_region (q_x (v:=s12.v) hF hS (ex_move rfl) rfl rfl fun a hF=>q_x (v:=s12.v) hF hS (ex_assign rfl) rfl rfl fun a hF=>q_end (n_sq (q_ret ?_))))
  obtain rfl:=someI hr
  exact ret_of hF hS rfl (.tmp rfl .nil) ⟨q12,s12,rfl,hS.sel [0] (by decide),h12⟩

theorem c_spec_cbSizes (p_g:impl_Geo) (p_s:List impl_Variable) (p_t:impl_Table) (r:(List Int)) (hr:spec_cbSizes p_g p_s p_t=some r) (w0:World) (m:Mem) (hv:Vis m w0) (s1:Sl) (h1:Rd m s1 p_g.Parents) (s2:Sl) (h2:Rd m s2 p_s) (s3:Sl) (h3:Rd m s3 p_t.Vars) (s4:Sl) (h4:Rd m s4 p_t.Where) :
  Ret prog 27 [(.agg #[s1.v]),s2.v,(.agg #[(iV p_t.Level),s3.v,s4.v,(iV p_t.Sum)])] w0 (fun v w=>∃ (q0':Piece) (s0':Sl),v=s0'.v∧St [] w0 w m [q0']∧OwnL m 3 q0' s0' r):=by
 unfold spec_cbSizes at hr
 refine ret_start func27 rfl 19 rfl rfl m hv fun a hF hS=>q_seq (q_region (q_box (cs:=[s1.v]) hF hS rfl rfl rfl fun a w b5 hF hS=>q_box (cs:=[(iV p_t.Level),s3.v,s4.v,(iV p_t.Sum)]) hF hS rfl rfl rfl fun a w b6 hF hS=>q_x (v:=nilS.v) hF hS (ex_assign rfl) rfl rfl fun a hF=>q_end (n_sq (q_seq ?_))))
 obtain ⟨t_33,hj1,hr⟩:=bindS hr
 refine q_join (fun a w=>∃ (q34:Piece),∃ (s34:Sl),Fr a 19 [(6,s34.v)]∧St [] w0 w m [q34]∧OwnL m 3 q34 s34 t_33) ?_ ?_
 ·refine e_region ⟨[11],[b5,b6]⟩ mixed fun w' hw'=>?_
  have hS:=hS.below hw'
  refine e_xb (v:=(.agg #[s1.v])) 0 1 hF hS (.head _) rfl rfl (ex_loadA (vs:=[s1.v]) 0 0 underlying25 rfl sz25 rfl rfl rfl rfl) rfl rfl (by kernel_rfl) (by kernel_rfl) (by kernel_rfl) fun a hF=>e_p (v:=(.pointer (some ⟨b6,0,none⟩))) 1 hF rfl (ex_fieldAddr underlying28 rfl sz3 rfl rfl) rfl rfl (by kernel_rfl) (by kernel_rfl) (by kernel_rfl) fun a hF=>e_xb (v:=(iV p_t.Level)) 2 0 hF hS (.tail _ (.head _)) rfl rfl (ex_load1 0 0 underlying3 rfl rfl rfl rfl) rfl rfl (by kernel_rfl) (by kernel_rfl) (by kernel_rfl) fun a hF=>e_p (v:=s2.v) 6 hF rfl (ex_move rfl) rfl rfl (by kernel_rfl) (by kernel_rfl) (by kernel_rfl) fun a hF=>e_p (v:=(.pointer (some ⟨b6,1,none⟩))) 7 hF rfl (ex_fieldAddr underlying28 rfl sz23 rfl rfl) rfl rfl (by kernel_rfl) (by kernel_rfl) (by kernel_rfl) fun a hF=>e_xb (v:=s3.v) 8 0 hF hS (.tail _ (.head _)) rfl rfl (ex_load1 0 0 underlying23 rfl rfl rfl rfl) rfl rfl (by kernel_rfl) (by kernel_rfl) (by kernel_rfl) fun a hF=>e_one 3 (by kernel_rfl) ?_
  obtain ⟨t_16,ht_16,hj1⟩:=bindS hj1
  refine e_call (vs:=[(.agg #[s1.v]),(iV p_t.Level)]) hF hS rfl func65 (by kernel_rfl) rfl rfl rfl (c_spec_gLevel p_g p_t.Level t_16 ht_16 _ m hS.vis s1 h1) ?_
  rintro a w _ ⟨q18,s18,rfl,hR17,h18⟩ hF hS2
  have hS:St _ _ _ _ [q18,[⟨b6,[(iV p_t.Level),s3.v,s4.v,(iV p_t.Sum)],28⟩],[⟨b5,[s1.v],25⟩]]:=hS.joinF hR17
  refine e_p (v:=(iV (goLen t_16))) 4 hF rfl (ex_len underlying23 rfl h18.len) rfl rfl (by kernel_rfl) (by kernel_rfl) (by kernel_rfl) fun a hF=>?_
  obtain ⟨t_24,ht_24,hj1⟩:=bindS hj1
  obtain ⟨t_27,ht_27,hj1⟩:=bindS hj1
  obtain ⟨l_31,hl_31,hj1⟩:=bindS hj1
  refine e_all [5,9] (by kernel_rfl) rfl ⟨?_,?_,trivial⟩
  ·refine e_op rfl rfl fun _ hK=>wp_buildSlice' (l:=([goLen t_16]:List Int)) (cells:=[(iV (goLen t_16))]) hF hS underlying23 inf3 rfl rfl (by kernel_rfl) rfl rfl rfl ⟨rfl,rfl⟩ rfl rfl fun a w q23 s23 hF hS h23 hb=>hK _ _ hb (e_one 9 (by kernel_rfl) (e_call (vs:=[s2.v,s3.v]) hF hS rfl func74 (by kernel_rfl) rfl rfl rfl (c_spec_sPart p_s p_t.Vars t_24 ht_24 _ m hS.vis s2 h2 s3 h3) ?_))
   rintro a w _ ⟨q26,s26,rfl,hR25,h26⟩ hF hS2
   have hS:St _ _ _ _ [q26,q23,q18,[⟨b6,[(iV p_t.Level),s3.v,s4.v,(iV p_t.Sum)],28⟩],[⟨b5,[s1.v],25⟩]]:=hS.joinF hR25
   refine e_one 10 (by kernel_rfl) ?_
   obtain ⟨m28,hl28,hv28,hz28⟩:=hS.lend
   refine e_call (vs:=[s26.v]) hF hS rfl func73 (by kernel_rfl) rfl rfl rfl (c_spec_sLevels t_24 t_27 ht_27 _ m28 hv28 s26 (h26.froz hl28 (hz28 0 _ rfl))) ?_
   rintro a w _ ⟨q30,s30,rfl,hR29,h30⟩ hF hS2
   have hS:St _ _ _ _ [q30,q26,q23,q18,[⟨b6,[(iV p_t.Level),s3.v,s4.v,(iV p_t.Sum)],28⟩],[⟨b5,[s1.v],25⟩]]:=hS.joinF hR29
   have h30:=h30.any m
   refine e_one 11 (by kernel_rfl) ?_
   have hS:St _ _ _ _ [q23,q30,q26,q18,[⟨b6,[(iV p_t.Level),s3.v,s4.v,(iV p_t.Sum)],28⟩],[⟨b5,[s1.v],25⟩]]:=hS.sel [2,0,1,3,4,5] (by decide)
   have hSo:=hS
   refine e_opl rfl rfl rfl fun _ hK=>wp_append hF hS h23 underlying23 inf3 rfl rfl rfl rfl (h30.vw hS (j:=1) rfl) rfl (by decide) hl_31 rfl fun a w q32 s32 hF hS h32=>hK _ _ (⟨kpC hSo hS 5 5 rfl rfl (kpC hSo hS 4 4 rfl rfl kpN),?_⟩)
   refine e_p (v:=s32.v) 12 hF rfl (ex_assign rfl) rfl rfl (by kernel_rfl) (by kernel_rfl) (by kernel_rfl) fun a hF=>e_end (by kernel_rfl) (n_jn ?_) _
   obtain rfl:=someI hj1
   exact ⟨q32,s32,hF.sub ⟨rfl,trivial⟩,hS.mask [true,false,false,false,false,false],h32⟩
  ·refine e_call (vs:=[s2.v,s3.v]) hF hS rfl func74 (by kernel_rfl) rfl rfl rfl (c_spec_sPart p_s p_t.Vars t_24 ht_24 _ m hS.vis s2 h2 s3 h3) ?_
   rintro a w _ ⟨q26,s26,rfl,hR25,h26⟩ hF hS2
   have hS:St _ _ _ _ [q26,q18,[⟨b6,[(iV p_t.Level),s3.v,s4.v,(iV p_t.Sum)],28⟩],[⟨b5,[s1.v],25⟩]]:=hS.joinF hR25
   refine e_all [5,10] (by kernel_rfl) rfl ⟨?_,?_,trivial⟩
   ·refine e_op rfl rfl fun _ hK=>wp_buildSlice' (l:=([goLen t_16]:List Int)) (cells:=[(iV (goLen t_16))]) hF hS underlying23 inf3 rfl rfl (by kernel_rfl) rfl rfl rfl ⟨rfl,rfl⟩ rfl rfl fun a w q23 s23 hF hS h23 hb=>hK _ _ hb (e_one 10 (by kernel_rfl) ?_)
    obtain ⟨m28,hl28,hv28,hz28⟩:=hS.lend
    refine e_call (vs:=[s26.v]) hF hS rfl func73 (by kernel_rfl) rfl rfl rfl (c_spec_sLevels t_24 t_27 ht_27 _ m28 hv28 s26 (h26.froz hl28 (hz28 1 _ rfl))) ?_
    rintro a w _ ⟨q30,s30,rfl,hR29,h30⟩ hF hS2
    have hS:St _ _ _ _ [q30,q23,q26,q18,[⟨b6,[(iV p_t.Level),s3.v,s4.v,(iV p_t.Sum)],28⟩],[⟨b5,[s1.v],25⟩]]:=hS.joinF hR29
    have h30:=h30.any m
    refine e_one 11 (by kernel_rfl) ?_
    have hS:St _ _ _ _ [q23,q30,q26,q18,[⟨b6,[(iV p_t.Level),s3.v,s4.v,(iV p_t.Sum)],28⟩],[⟨b5,[s1.v],25⟩]]:=hS.sel [1,0,2,3,4,5] (by decide)
    have hSo:=hS
    refine e_opl rfl rfl rfl fun _ hK=>wp_append hF hS h23 underlying23 inf3 rfl rfl rfl rfl (h30.vw hS (j:=1) rfl) rfl (by decide) hl_31 rfl fun a w q32 s32 hF hS h32=>hK _ _ (⟨kpC hSo hS 5 5 rfl rfl (kpC hSo hS 4 4 rfl rfl kpN),?_⟩)
    refine e_p (v:=s32.v) 12 hF rfl (ex_assign rfl) rfl rfl (by kernel_rfl) (by kernel_rfl) (by kernel_rfl) fun a hF=>e_end (by kernel_rfl) (n_jn ?_) _
    obtain rfl:=someI hj1
    exact ⟨q32,s32,hF.sub ⟨rfl,trivial⟩,hS.mask [true,false,false,false,false,false],h32⟩
   ·obtain ⟨m28,hl28,hv28,hz28⟩:=hS.lend
    refine e_call (vs:=[s26.v]) hF hS rfl func73 (by kernel_rfl) rfl rfl rfl (c_spec_sLevels t_24 t_27 ht_27 _ m28 hv28 s26 (h26.froz hl28 (hz28 0 _ rfl))) ?_
    rintro a w _ ⟨q30,s30,rfl,hR29,h30⟩ hF hS2
    have hS:St _ _ _ _ [q30,q26,q18,[⟨b6,[(iV p_t.Level),s3.v,s4.v,(iV p_t.Sum)],28⟩],[⟨b5,[s1.v],25⟩]]:=hS.joinF hR29
    have h30:=h30.any m
    refine e_one 5 (by kernel_rfl) (e_op rfl rfl fun _ hK=>wp_buildSlice' (l:=([goLen t_16]:List Int)) (cells:=[(iV (goLen t_16))]) hF hS underlying23 inf3 rfl rfl (by kernel_rfl) rfl rfl rfl ⟨rfl,rfl⟩ rfl rfl fun a w q23 s23 hF hS h23 hb=>hK _ _ hb (e_one 11 (by kernel_rfl) ?_))
    have hSo:=hS
    refine e_opl rfl rfl rfl fun _ hK=>wp_append hF hS h23 underlying23 inf3 rfl rfl rfl rfl (h30.vw hS (j:=1) rfl) rfl (by decide) hl_31 rfl fun a w q32 s32 hF hS h32=>hK _ _ (⟨kpC hSo hS 5 5 rfl rfl (kpC hSo hS 4 4 rfl rfl kpN),?_⟩)
    refine e_p (v:=s32.v) 12 hF rfl (ex_assign rfl) rfl rfl (by kernel_rfl) (by kernel_rfl) (by kernel_rfl) fun a hF=>e_end (by kernel_rfl) (n_jn ?_) _
    obtain rfl:=someI hj1
    exact ⟨q32,s32,hF.sub ⟨rfl,trivial⟩,hS.mask [true,false,false,false,false,false],h32⟩
 ·rintro a w ⟨q34,s34,hF,hS,h34⟩
  refine n_sq (q_ret ?_)
  obtain rfl:=someI hr
  exact ret_of hF hS rfl (.tmp rfl .nil) ⟨q34,s34,rfl,hS.sel [0] (by decide),h34⟩

theorem c_spec_l1All (p_l:List Int) (p_lo:Int) (p_hi:Int) (r:Bool) (hr:spec_l1All p_l p_lo p_hi=some r) (w0:World) (m:Mem) (hv:Vis m w0) (s1:Sl) (h1:Rd m s1 p_l) :
  Ret prog 72 [s1.v,(iV p_lo),(iV p_hi)] w0 (fun v _=>v=(.bool r)):=by
 unfold spec_l1All at hr
 refine ret_start func72 rfl 21 rfl rfl m hv fun a hF hS=>q_seq (q_region (q_x (v:=(.bool false)) hF hS (ex_assign rfl) rfl rfl fun a hF=>q_end (n_sq (q_seq (q_seq (q_region (q_x (v:=s1.v) hF hS (ex_move rfl) rfl rfl fun a hF=>q_x (v:=(iV (goLen p_l))) hF hS (ex_len underlying23 rfl h1.len) rfl rfl fun a hF=>q_x (v:=(iV 0)) hF hS (ex_move rfl) rfl rfl fun a hF=>q_end (n_sq (q_block ?_)))))))))
 obtain ⟨o1,hl1,hr⟩:=bindS hr
 refine q_loop (fun (t_2:Int) a w=>Fr a 21 [(1,(iV p_lo)),(2,(iV p_hi)),(9,s1.v),(10,(iV (goLen p_l))),(11,(iV t_2))]∧St [] w0 w m []) (fun (o:(Unit) ⊕ (Bool)) e a w=>o=.inl ()∧e=.exit 0∧Fr a 21 []∧St [] w0 w m []) hl1 ⟨hF.sub ⟨rfl,rfl,rfl,rfl,rfl,trivial⟩,hS⟩ ?_ ?_
 ·clear hF hS
  rintro t_2 a w st ⟨hF,hS⟩ hb1
  unfold spec_l1All_l1 at hb1
  refine q_seq (q_region (q_x (v:=(.bool (decide (t_2<(goLen p_l))))) hF hS (ex_ibin rfl rfl rfl) rfl rfl fun a hF=>q_end (n_sq (q_seq ?_))))
  rcases bcase (decide (t_2<(goLen p_l))) with hc2 | hc2
  ·have hb1:=cond_f hc2 hb1
   refine q_cond_f hF rfl hc2 (q_exit (x_sq ?_))
   obtain rfl:=someI hb1
   exact ⟨nofun,.inl ⟨rfl,rfl,hF.sub trivial,hS⟩⟩
  ·have hb1:=cond_t hc2 hb1
   refine q_cond_t hF rfl hc2 (q_skipc (n_sq (q_seq (q_block (q_seq (q_region ?_))))))
   obtain ⟨e_3,he_3,hb1⟩:=bindS hb1
   obtain ⟨vs4,at4,d4⟩:=h1.at he_3 1 rfl
   obtain rfl:vs4=[(iV e_3)]:=d4
   refine q_x (v:=(elP s1 (t_2.toNat * 1))) hF hS (ex_indexAddr underlying23 sz3 rfl rfl (h1.idx he_3)) rfl rfl fun a hF=>q_x (v:=(iV e_3)) hF hS (ex_loadE1 0 underlying3 rfl rfl ((at4).at) rfl rfl) rfl rfl fun a hF=>q_x (v:=(iV e_3)) hF hS (ex_assign rfl) rfl rfl fun a hF=>q_end (n_sq (q_seq (q_region (q_x (v:=(iV e_3)) hF hS (ex_move rfl) rfl rfl fun a hF=>q_x (v:=(iV p_lo)) hF hS (ex_move rfl) rfl rfl fun a hF=>q_x (v:=(iV p_hi)) hF hS (ex_move rfl) rfl rfl fun a hF=>?_))))
   obtain ⟨t_5,ht_5,hb1⟩:=bindS hb1
   refine q_call (vs:=[(iV e_3),(iV p_lo),(iV p_hi)]) hF hS func38 (by kernel_rfl) rfl rfl rfl (c_spec_l1In e_3 p_lo p_hi t_5 ht_5 _ m hS.vis) ?_
   rintro a w _ rfl hF hS
   refine q_x (v:=(.bool (!t_5))) hF hS (ex_not rfl) rfl rfl fun a hF=>q_end (n_sq ?_)
   rcases bcase (!t_5) with hc3 | hc3
   ·have hb1:=cond_f hc3 hb1
    refine q_cond_f hF rfl hc3 (q_skipc (n_ib (n_sq (q_region (q_x (v:=(iV (w64 (t_2 + 1)))) hF hS (ex_ibin rfl rfl rfl) rfl rfl fun a hF=>q_x (v:=(iV (w64 (t_2 + 1)))) hF hS (ex_move rfl) rfl rfl fun a hF=>q_end ?_)))))
    obtain rfl:=someI hb1
    exact ⟨rfl,hF.sub ⟨rfl,rfl,rfl,rfl,rfl,trivial⟩,hS⟩
   ·have hb1:=cond_t hc3 hb1
    refine q_cond_t hF rfl hc3 (q_seq (q_region (q_x (v:=(.bool false)) hF hS (ex_assign rfl) rfl rfl fun a hF=>q_end (n_sq (q_ret (r_ib (r_sq ?_)))))))
    obtain rfl:=someI hb1
    refine ⟨nofun,.inr fun ho=>?_⟩
    subst ho
    refine r_ib (r_sq ?_)
    obtain rfl:=someI hr
    exact ret_of hF hS rfl (.tmp rfl .nil) rfl
 ·rintro e a w ⟨rfl,rfl,hF,hS⟩
  refine x_ib (n_sq ?_)
  refine q_seq (q_region (q_x (v:=(.bool true)) hF hS (ex_assign rfl) rfl rfl fun a hF=>q_end (n_sq (q_ret ?_))))
  obtain rfl:=someI hr
  exact ret_of hF hS rfl (.tmp rfl .nil) rfl

theorem c_spec_cbCount (p_sizes:List Int) (r:Int) (hr:spec_cbCount p_sizes=some r) (w0:World) (m:Mem) (hv:Vis m w0) (s1:Sl) (h1:Rd m s1 p_sizes) :
  Ret prog 26 [s1.v] w0 (fun v _=>v=(iV r)):=by
 unfold spec_cbCount at hr
 refine ret_start func26 rfl 28 rfl rfl m hv fun a hF hS=>q_seq (q_region (q_x (v:=(iV 0)) hF hS (ex_assign rfl) rfl rfl fun a hF=>q_end (n_sq (q_seq (q_seq ?_)))))
 obtain ⟨t_3,hj1,hr⟩:=bindS hr
 refine q_join (fun a w=>Fr a 28 [(0,s1.v),(13,(.bool t_3))]∧St [] w0 w m []) ?_ ?_
 ·refine q_region (q_x (v:=s1.v) hF hS (ex_move rfl) rfl rfl fun a hF=>q_x (v:=(iV (goLen p_sizes))) hF hS (ex_len underlying23 rfl h1.len) rfl rfl fun a hF=>q_x (v:=(.bool (decide (4<(goLen p_sizes))))) hF hS (ex_ibin rfl rfl rfl) rfl rfl fun a hF=>q_x (v:=(.bool (decide (4<(goLen p_sizes))))) hF hS (ex_move rfl) rfl rfl fun a hF=>?_)
  rcases bcase (decide (4<(goLen p_sizes))) with hc2 | hc2
  ·have hj1:=cond_f hc2 hj1
   refine q_xg (v:=s1.v) hF hS (ex_move rfl) (wanted_t hF rfl rfl rfl hc2) rfl fun a hF=>?_
   obtain ⟨t_2,ht_2,hj1⟩:=bindS hj1
   refine q_callg (vs:=[s1.v,(iV 1),(iV 30)]) hF hS (wanted_t hF rfl rfl rfl hc2) func72 (by kernel_rfl) rfl rfl rfl (c_spec_l1All p_sizes 1 30 t_2 ht_2 _ m hS.vis s1 h1) ?_
   rintro a w _ rfl hF hS
   refine q_xg (v:=(.bool (!t_2))) hF hS (ex_not rfl) (wanted_t hF rfl rfl rfl hc2) rfl fun a hF=>q_x (v:=(.bool (!t_2))) hF hS (ex_pick_f rfl rfl hc2) rfl rfl fun a hF=>q_end (n_jn ?_)
   obtain rfl:=someI hj1
   exact ⟨hF.sub ⟨rfl,rfl,trivial⟩,hS⟩
  ·have hj1:=cond_t hc2 hj1
   refine q_skip hF (wanted_f hF rfl rfl rfl hc2 rfl) rfl fun a hF=>q_skip hF (wanted_f hF rfl rfl rfl hc2 rfl) rfl fun a hF=>q_skip hF (wanted_f hF rfl rfl rfl hc2 rfl) rfl fun a hF=>q_x (v:=(.bool true)) hF hS (ex_pick_t rfl rfl hc2) rfl rfl fun a hF=>q_end (n_jn ?_)
   obtain rfl:=someI hj1
   exact ⟨hF.sub ⟨rfl,rfl,trivial⟩,hS⟩
 ·rintro a w ⟨hF,hS⟩
  refine n_sq ?_
  rcases bcase (t_3) with hc3 | hc3
  ·have hr:=cond_f hc3 hr
   refine q_cond_f hF rfl hc3 (q_skipc (n_sq (q_seq (q_region (q_x (v:=(iV 1)) hF hS (ex_assign rfl) rfl rfl fun a hF=>q_end (n_sq (q_seq (q_seq (q_region (q_x (v:=s1.v) hF hS (ex_move rfl) rfl rfl fun a hF=>q_x (v:=(iV (goLen p_sizes))) hF hS (ex_len underlying23 rfl h1.len) rfl rfl fun a hF=>q_x (v:=(iV 0)) hF hS (ex_move rfl) rfl rfl fun a hF=>q_end (n_sq (q_block ?_))))))))))))
   obtain ⟨n_8,hl4,hr⟩:=bindS hr
   refine q_loop (fun (s:Int × Int) a w=>∃ n_4,∃ t_5,s=(n_4,t_5)∧Fr a 28 [(3,(iV n_4)),(14,s1.v),(15,(iV (goLen p_sizes))),(16,(iV t_5))]∧St [] w0 w m []) (fun (n_8:Int) e a w=>e=.exit 0∧Fr a 28 [(3,(iV n_8))]∧St [] w0 w m []) hl4 ⟨_,_,rfl,hF.sub ⟨rfl,rfl,rfl,rfl,trivial⟩,hS⟩ ?_ ?_
   ·clear hF hS
    rintro s a w st ⟨n_4,t_5,rfl,hF,hS⟩ hb4
    unfold spec_cbCount_l1 at hb4
    refine q_seq (q_region (q_x (v:=(.bool (decide (t_5<(goLen p_sizes))))) hF hS (ex_ibin rfl rfl rfl) rfl rfl fun a hF=>q_end (n_sq (q_seq ?_))))
    rcases bcase (decide (t_5<(goLen p_sizes))) with hc5 | hc5
    ·have hb4:=cond_f hc5 hb4
     refine q_cond_f hF rfl hc5 (q_exit (x_sq ?_))
     obtain rfl:=someI hb4
     exact ⟨nofun,.inl ⟨rfl,hF.sub ⟨rfl,trivial⟩,hS⟩⟩
    ·have hb4:=cond_t hc5 hb4
     refine q_cond_t hF rfl hc5 (q_skipc (n_sq (q_seq (q_block (q_seq (q_region ?_))))))
     obtain ⟨e_6,he_6,hb4⟩:=bindS hb4
     obtain ⟨vs7,at7,d7⟩:=h1.at he_6 1 rfl
     obtain rfl:vs7=[(iV e_6)]:=d7
     refine q_x (v:=(elP s1 (t_5.toNat * 1))) hF hS (ex_indexAddr underlying23 sz3 rfl rfl (h1.idx he_6)) rfl rfl fun a hF=>q_x (v:=(iV e_6)) hF hS (ex_loadE1 0 underlying3 rfl rfl ((at7).at) rfl rfl) rfl rfl fun a hF=>q_x (v:=(iV e_6)) hF hS (ex_assign rfl) rfl rfl fun a hF=>q_end (n_sq (q_region (q_x (v:=(iV n_4)) hF hS (ex_move rfl) rfl rfl fun a hF=>q_x (v:=(iV e_6)) hF hS (ex_move rfl) rfl rfl fun a hF=>q_x (v:=(iV (w64 (e_6 + 1)))) hF hS (ex_ibin rfl rfl rfl) rfl rfl fun a hF=>q_x (v:=(iV (w64 (n_4 * (w64 (e_6 + 1)))))) hF hS (ex_ibin rfl rfl rfl) rfl rfl fun a hF=>q_x (v:=(iV (w64 (n_4 * (w64 (e_6 + 1)))))) hF hS (ex_assign rfl) rfl rfl fun a hF=>q_end (n_ib (n_sq (q_region (q_x (v:=(iV (w64 (t_5 + 1)))) hF hS (ex_ibin rfl rfl rfl) rfl rfl fun a hF=>q_x (v:=(iV (w64 (t_5 + 1)))) hF hS (ex_move rfl) rfl rfl fun a hF=>q_end ?_)))))))
     obtain rfl:=someI hb4
     exact ⟨rfl,_,_,rfl,hF.sub ⟨rfl,rfl,rfl,rfl,trivial⟩,hS⟩
   ·rintro e a w ⟨rfl,hF,hS⟩
    refine x_ib (n_sq ?_)
    refine q_seq (q_seq (q_region (q_x (v:=(iV n_8)) hF hS (ex_move rfl) rfl rfl fun a hF=>q_x (v:=(.bool (decide (2000<n_8)))) hF hS (ex_ibin rfl rfl rfl) rfl rfl fun a hF=>q_end (n_sq ?_))))
    rcases bcase (decide (2000<n_8)) with hc6 | hc6
    ·have hr:=cond_f hc6 hr
     refine q_cond_f hF rfl hc6 (q_skipc (n_sq (q_seq (q_region (q_x (v:=(iV n_8)) hF hS (ex_move rfl) rfl rfl fun a hF=>q_x (v:=(iV n_8)) hF hS (ex_assign rfl) rfl rfl fun a hF=>q_end (n_sq (q_ret ?_)))))))
     obtain rfl:=someI hr
     exact ret_of hF hS rfl (.tmp rfl .nil) rfl
    ·have hr:=cond_t hc6 hr
     refine q_cond_t hF rfl hc6 (q_seq (q_region (q_x (v:=(iV 0)) hF hS (ex_assign rfl) rfl rfl fun a hF=>q_end (n_sq (q_ret (r_sq ?_))))))
     obtain rfl:=someI hr
     exact ret_of hF hS rfl (.tmp rfl .nil) rfl
  ·have hr:=cond_t hc3 hr
   refine q_cond_t hF rfl hc3 (q_seq (q_region (q_x (v:=(iV 0)) hF hS (ex_assign rfl) rfl rfl fun a hF=>q_end (n_sq (q_ret (r_sq ?_))))))
   obtain rfl:=someI hr
   exact ret_of hF hS rfl (.tmp rfl .nil) rfl

theorem c_spec_gUp (p_g:impl_Geo) (p_i:Int) (p_level:Int) (r:Int) (hr:spec_gUp p_g p_i p_level=some r) (w0:World) (m:Mem) (hv:Vis m w0) (s1:Sl) (h1:Rd m s1 p_g.Parents) :
  Ret prog 105 [(.agg #[s1.v]),(iV p_i),(iV p_level)] w0 (fun v _=>v=(iV r)):=by
 unfold spec_gUp at hr
 refine ret_start func105 rfl 27 rfl rfl m hv fun a hF hS=>q_seq (q_region (q_box (cs:=[s1.v]) hF hS rfl rfl rfl fun a w b2 hF hS=>q_x (v:=(iV 0)) hF hS (ex_assign rfl) rfl rfl fun a hF=>q_end (n_sq (q_seq (q_region (q_x (v:=(.agg #[s1.v])) hF hS (ex_loadA (vs:=[s1.v]) 0 0 underlying25 rfl sz25 rfl rfl rfl rfl) rfl rfl fun a hF=>q_x (v:=(iV p_i)) hF hS (ex_move rfl) rfl rfl fun a hF=>?_))))))
 obtain ⟨t_3,ht_3,hr⟩:=bindS hr
 refine q_call (vs:=[(.agg #[s1.v]),(iV p_i)]) hF hS func101 (by kernel_rfl) rfl rfl rfl (c_spec_gDepth p_g p_i t_3 ht_3 _ m hS.vis s1 h1) ?_
 rintro a w _ rfl hF hS
 refine q_x (v:=(iV t_3)) hF hS (ex_assign rfl) rfl rfl fun a hF=>q_end (n_sq (q_seq (q_seq (q_region (q_x (v:=(iV p_level)) hF hS (ex_move rfl) rfl rfl fun a hF=>q_x (v:=(.bool (decide (p_level<0)))) hF hS (ex_ibin rfl rfl rfl) rfl rfl fun a hF=>q_end (n_sq ?_))))))
 rcases bcase (decide (p_level<0)) with hc1 | hc1
 ·have hr:=cond_f hc1 hr
  refine q_cond_f hF rfl hc1 (q_skipc (n_sq (q_seq (q_block ?_))))
  obtain ⟨o2,hl2,hr⟩:=bindS hr
  refine q_loop (fun (s:Int × Int) a w=>∃ i_4,∃ d_5,s=(i_4,d_5)∧Fr a 27 [(1,(iV i_4)),(2,(iV p_level)),(3,(.pointer (some ⟨b2,0,none⟩))),(7,(iV d_5))]∧St [] w0 w m [[⟨b2,[s1.v],25⟩]]) (fun (o:Int × Int) e a w=>∃ i_8,∃ d_9,o=(i_8,d_9)∧e=.exit 0∧Fr a 27 [(1,(iV i_8)),(2,(iV p_level)),(7,(iV d_9))]∧St [] w0 w m []) hl2 ⟨_,_,rfl,hF.sub ⟨rfl,rfl,rfl,rfl,trivial⟩,hS⟩ ?_ ?_
  ·clear hF hS
   rintro s a w st ⟨i_4,d_5,rfl,hF,hS⟩ hb2
   unfold spec_gUp_l1 at hb2
   refine q_seq (q_seq (q_region (q_x (v:=(iV d_5)) hF hS (ex_move rfl) rfl rfl fun a hF=>q_x (v:=(iV p_level)) hF hS (ex_move rfl) rfl rfl fun a hF=>q_x (v:=(.bool (decide (p_level<d_5)))) hF hS (ex_ibin rfl rfl rfl) rfl rfl fun a hF=>q_end (n_sq ?_))))
   rcases bcase (decide (p_level<d_5)) with hc3 | hc3
   ·have hb2:=cond_f hc3 hb2
    refine q_cond_f hF rfl hc3 (q_exit (x_sq ?_))
    obtain rfl:=someI hb2
    exact ⟨nofun,.inl ⟨_,_,rfl,rfl,hF.sub ⟨rfl,rfl,rfl,trivial⟩,hS.mask [false]⟩⟩
   ·have hb2:=cond_t hc3 hb2
    refine q_cond_t hF rfl hc3 (q_skipc (n_sq (q_seq (q_block (q_region (q_x (v:=(.pointer (some ⟨b2,0,none⟩))) hF hS (ex_fieldAddr underlying25 rfl sz23 rfl rfl) rfl rfl fun a hF=>q_x (v:=s1.v) hF hS (ex_load1 0 0 underlying23 rfl rfl rfl rfl) rfl rfl fun a hF=>q_x (v:=(iV i_4)) hF hS (ex_move rfl) rfl rfl fun a hF=>?_))))))
    obtain ⟨e_6,he_6,hb2⟩:=bindS hb2
    obtain ⟨vs7,at7,d7⟩:=h1.at he_6 1 rfl
    obtain rfl:vs7=[(iV e_6)]:=d7
    refine q_x (v:=(elP s1 (i_4.toNat * 1))) hF hS (ex_indexAddr underlying23 sz3 rfl rfl (h1.idx he_6)) rfl rfl fun a hF=>q_x (v:=(iV e_6)) hF hS (ex_loadE1 0 underlying3 rfl rfl ((at7).at) rfl rfl) rfl rfl fun a hF=>q_x (v:=(iV e_6)) hF hS (ex_assign rfl) rfl rfl fun a hF=>q_end (n_ib (n_sq (q_region (q_x (v:=(iV d_5)) hF hS (ex_move rfl) rfl rfl fun a hF=>q_x (v:=(iV (w64 (d_5 - 1)))) hF hS (ex_ibin rfl rfl rfl) rfl rfl fun a hF=>q_x (v:=(iV (w64 (d_5 - 1)))) hF hS (ex_assign rfl) rfl rfl fun a hF=>q_end ?_))))
    obtain rfl:=someI hb2
    exact ⟨rfl,_,_,rfl,hF.sub ⟨rfl,rfl,rfl,rfl,trivial⟩,hS⟩
  ·rintro e a w ⟨i_8,d_9,rfl,rfl,hF,hS⟩
   refine x_ib (n_sq ?_)
   refine q_seq (q_seq (q_region (q_x (v:=(iV d_9)) hF hS (ex_move rfl) rfl rfl fun a hF=>q_x (v:=(iV p_level)) hF hS (ex_move rfl) rfl rfl fun a hF=>q_x (v:=(.bool (decide (d_9<p_level)))) hF hS (ex_ibin rfl rfl rfl) rfl rfl fun a hF=>q_end (n_sq ?_))))
   rcases bcase (decide (d_9<p_level)) with hc4 | hc4
   ·have hr:=cond_f hc4 hr
    refine q_cond_f hF rfl hc4 (q_skipc (n_sq (q_seq (q_region (q_x (v:=(iV i_8)) hF hS (ex_move rfl) rfl rfl fun a hF=>q_x (v:=(iV i_8)) hF hS (ex_assign rfl) rfl rfl fun a hF=>q_end (n_sq (q_ret ?_)))))))
    obtain rfl:=someI hr
    exact ret_of hF hS rfl (.tmp rfl .nil) rfl
   ·have hr:=cond_t hc4 hr
    refine q_cond_t hF rfl hc4 (q_seq (q_region (q_x (v:=(iV (-1))) hF hS (ex_assign rfl) rfl rfl fun a hF=>q_end (n_sq (q_ret (r_sq ?_))))))
    obtain rfl:=someI hr
    exact ret_of hF hS rfl (.tmp rfl .nil) rfl
 ·have hr:=cond_t hc1 hr
  refine q_cond_t hF rfl hc1 (q_seq (q_region (q_x (v:=(iV (-1))) hF hS (ex_assign rfl) rfl rfl fun a hF=>q_end (n_sq (q_ret (r_sq ?_))))))
  obtain rfl:=someI hr
  exact ret_of hF hS rfl (.tmp rfl .nil) rfl

theorem c_spec_uMeets (p_t:impl_Table) (p_values:List Int) (r:Bool) (hr:spec_uMeets p_t p_values=some r) (w0:World) (m:Mem) (hv:Vis m w0) (s1:Sl) (h1:Rd m s1 p_t.Vars) (s2:Sl) (h2:Rd m s2 p_t.Where) (s3:Sl) (h3:Rd m s3 p_values) :
  Ret prog 106 [(.agg #[(iV p_t.Level),s1.v,s2.v,(iV p_t.Sum)]),s3.v] w0 (fun v _=>v=(.bool r)):=by
 unfold spec_uMeets at hr
 refine ret_start func106 rfl 29 rfl rfl m hv fun a hF hS=>q_seq (q_region (q_box (cs:=[(iV p_t.Level),s1.v,s2.v,(iV p_t.Sum)]) hF hS rfl rfl rfl fun a w b4 hF hS=>q_x (v:=(.bool false)) hF hS (ex_assign rfl) rfl rfl fun a hF=>q_end (n_sq (q_seq (q_seq (q_region (q_x (v:=(.pointer (some ⟨b4,2,none⟩))) hF hS (ex_fieldAddr underlying28 rfl sz23 rfl rfl) rfl rfl fun a hF=>q_x (v:=s2.v) hF hS (ex_load1 0 0 underlying23 rfl rfl rfl rfl) rfl rfl fun a hF=>q_x (v:=(iV (goLen p_t.Where))) hF hS (ex_len underlying23 rfl h2.len) rfl rfl fun a hF=>q_x (v:=(iV 0)) hF hS (ex_move rfl) rfl rfl fun a hF=>q_end (n_sq (q_block ?_)))))))))
 obtain ⟨o1,hl1,hr⟩:=bindS hr
 refine q_loop (fun (t_5:Int) a w=>Fr a 29 [(1,s3.v),(8,s2.v),(9,(iV (goLen p_t.Where))),(10,(iV t_5))]∧St [] w0 w m []) (fun (o:(Unit) ⊕ (Bool)) e a w=>o=.inl ()∧e=.exit 0∧Fr a 29 []∧St [] w0 w m []) hl1 ⟨hF.sub ⟨rfl,rfl,rfl,rfl,trivial⟩,hS.mask [false]⟩ ?_ ?_
 ·clear hF hS
  rintro t_5 a w st ⟨hF,hS⟩ hb1
  unfold spec_uMeets_l1 at hb1
  refine q_seq (q_region (q_x (v:=(.bool (decide (t_5<(goLen p_t.Where))))) hF hS (ex_ibin rfl rfl rfl) rfl rfl fun a hF=>q_end (n_sq (q_seq ?_))))
  rcases bcase (decide (t_5<(goLen p_t.Where))) with hc2 | hc2
  ·have hb1:=cond_f hc2 hb1
   refine q_cond_f hF rfl hc2 (q_exit (x_sq ?_))
   obtain rfl:=someI hb1
   exact ⟨nofun,.inl ⟨rfl,rfl,hF.sub trivial,hS⟩⟩
  ·have hb1:=cond_t hc2 hb1
   refine q_cond_t hF rfl hc2 (q_skipc (n_sq (q_seq (q_block (q_seq (q_region (q_x (v:=(iV t_5)) hF hS (ex_move rfl) rfl rfl fun a hF=>?_)))))))
   obtain ⟨e_6,he_6,hb1⟩:=bindS hb1
   obtain ⟨vs7,at7,d7⟩:=h2.at he_6 1 rfl
   obtain rfl:vs7=[(iV e_6)]:=d7
   refine q_x (v:=(elP s2 (t_5.toNat * 1))) hF hS (ex_indexAddr underlying23 sz3 rfl rfl (h2.idx he_6)) rfl rfl fun a hF=>q_x (v:=(iV e_6)) hF hS (ex_loadE1 0 underlying3 rfl rfl ((at7).at) rfl rfl) rfl rfl fun a hF=>q_x (v:=(iV t_5)) hF hS (ex_assign rfl) rfl rfl fun a hF=>q_x (v:=(iV e_6)) hF hS (ex_assign rfl) rfl rfl fun a hF=>q_end (n_sq (q_seq ?_))
   obtain ⟨t_11,hj3,hb1⟩:=bindS hb1
   refine q_join (fun a w=>Fr a 29 [(1,s3.v),(8,s2.v),(9,(iV (goLen p_t.Where))),(10,(iV t_5)),(27,(.bool t_11))]∧St [] w0 w m []) ?_ ?_
   ·refine q_region (q_x (v:=(iV e_6)) hF hS (ex_move rfl) rfl rfl fun a hF=>q_x (v:=(.bool (e_6 != 0))) hF hS (ex_ibin rfl rfl rfl) rfl rfl fun a hF=>q_x (v:=(.bool (e_6 != 0))) hF hS (ex_move rfl) rfl rfl fun a hF=>?_)
    rcases bcase (e_6 != 0) with hc4 | hc4
    ·have hj3:=cond_f hc4 hj3
     refine q_skip hF (wanted_f hF rfl rfl rfl hc4 rfl) rfl fun a hF=>q_skip hF (wanted_f hF rfl rfl rfl hc4 rfl) rfl fun a hF=>q_skip hF (wanted_f hF rfl rfl rfl hc4 rfl) rfl fun a hF=>q_skip hF (wanted_f hF rfl rfl rfl hc4 rfl) rfl fun a hF=>q_skip hF (wanted_f hF rfl rfl rfl hc4 rfl) rfl fun a hF=>q_skip hF (wanted_f hF rfl rfl rfl hc4 rfl) rfl fun a hF=>q_skip hF (wanted_f hF rfl rfl rfl hc4 rfl) rfl fun a hF=>q_skip hF (wanted_f hF rfl rfl rfl hc4 rfl) rfl fun a hF=>q_skip hF (wanted_f hF rfl rfl rfl hc4 rfl) rfl fun a hF=>q_x (v:=(.bool false)) hF hS (ex_pick_f rfl rfl hc4) rfl rfl fun a hF=>q_end (n_jn ?_)
     obtain rfl:=someI hj3
     exact ⟨hF.sub ⟨rfl,rfl,rfl,rfl,rfl,trivial⟩,hS⟩
    ·have hj3:=cond_t hc4 hj3
     refine q_xg (v:=(iV e_6)) hF hS (ex_move rfl) (wanted_t hF rfl rfl rfl hc4) rfl fun a hF=>q_xg (v:=s3.v) hF hS (ex_move rfl) (wanted_t hF rfl rfl rfl hc4) rfl fun a hF=>q_xg (v:=(iV t_5)) hF hS (ex_move rfl) (wanted_t hF rfl rfl rfl hc4) rfl fun a hF=>?_
     obtain ⟨e_8,he_8,hj3⟩:=bindS hj3
     obtain ⟨vs9,at9,d9⟩:=h3.at he_8 1 rfl
     obtain rfl:vs9=[(iV e_8)]:=d9
     refine q_xg (v:=(elP s3 (t_5.toNat * 1))) hF hS (ex_indexAddr underlying23 sz3 rfl rfl (h3.idx he_8)) (wanted_t hF rfl rfl rfl hc4) rfl fun a hF=>q_xg (v:=(iV e_8)) hF hS (ex_loadE1 0 underlying3 rfl rfl ((at9).at) rfl rfl) (wanted_t hF rfl rfl rfl hc4) rfl fun a hF=>q_xg (v:=(.int .u64 (IntKind.wrap .u64 e_8))) hF hS (ex_conv underlying3 underlying97 rfl) (wanted_t hF rfl rfl rfl hc4) rfl fun a hF=>?_
     obtain ⟨t_10,ht_10,hj3⟩:=bindS hj3
     refine q_xg (v:=(iV t_10)) hF hS (ex_shr rfl rfl ht_10) (wanted_t hF rfl rfl rfl hc4) rfl fun a hF=>q_xg (v:=(iV (goBits .and .i64 t_10 1))) hF hS (ex_bits rfl rfl rfl) (wanted_t hF rfl rfl rfl hc4) rfl fun a hF=>q_xg (v:=(.bool ((goBits .and .i64 t_10 1) == 0))) hF hS (ex_ibin rfl rfl rfl) (wanted_t hF rfl rfl rfl hc4) rfl fun a hF=>q_x (v:=(.bool ((goBits .and .i64 t_10 1) == 0))) hF hS (ex_pick_t rfl rfl hc4) rfl rfl fun a hF=>q_end (n_jn ?_)
     obtain rfl:=someI hj3
     exact ⟨hF.sub ⟨rfl,rfl,rfl,rfl,rfl,trivial⟩,hS⟩
   ·rintro a w ⟨hF,hS⟩
    refine n_sq ?_
    rcases bcase (t_11) with hc5 | hc5
    ·have hb1:=cond_f hc5 hb1
     refine q_cond_f hF rfl hc5 (q_skipc (n_ib (n_sq (q_region (q_x (v:=(iV (w64 (t_5 + 1)))) hF hS (ex_ibin rfl rfl rfl) rfl rfl fun a hF=>q_x (v:=(iV (w64 (t_5 + 1)))) hF hS (ex_move rfl) rfl rfl fun a hF=>q_end ?_)))))
     obtain rfl:=someI hb1
     exact ⟨rfl,hF.sub ⟨rfl,rfl,rfl,rfl,trivial⟩,hS⟩
    ·have hb1:=cond_t hc5 hb1
     refine q_cond_t hF rfl hc5 (q_seq (q_region (q_x (v:=(.bool false)) hF hS (ex_assign rfl) rfl rfl fun a hF=>q_end (n_sq (q_ret (r_ib (r_sq ?_)))))))
     obtain rfl:=someI hb1
     refine ⟨nofun,.inr fun ho=>?_⟩
     subst ho
     refine r_ib (r_sq ?_)
     obtain rfl:=someI hr
     exact ret_of hF hS rfl (.tmp rfl .nil) rfl
 ·rintro e a w ⟨rfl,rfl,hF,hS⟩
  refine x_ib (n_sq ?_)
  refine q_seq (q_region (q_x (v:=(.bool true)) hF hS (ex_assign rfl) rfl rfl fun a hF=>q_end (n_sq (q_ret ?_))))
  obtain rfl:=someI hr
  exact ret_of hF hS rfl (.tmp rfl .nil) rfl

theorem c_spec_l1Find (p_l:List Int) (p_n:Int) (r:Int) (hr:spec_l1Find p_l p_n=some r) (w0:World) (m:Mem) (hv:Vis m w0) (s1:Sl) (h1:Rd m s1 p_l) :
  Ret prog 107 [s1.v,(iV p_n)] w0 (fun v _=>v=(iV r)):=by
 unfold spec_l1Find at hr
 refine ret_start func107 rfl 19 rfl rfl m hv fun a hF hS=>q_seq (q_region (q_x (v:=(iV 0)) hF hS (ex_assign rfl) rfl rfl fun a hF=>q_end (n_sq (q_seq (q_seq (q_region (q_x (v:=s1.v) hF hS (ex_move rfl) rfl rfl fun a hF=>q_x (v:=(iV (goLen p_l))) hF hS (ex_len underlying23 rfl h1.len) rfl rfl fun a hF=>q_x (v:=(iV 0)) hF hS (ex_move rfl) rfl rfl fun a hF=>q_end (n_sq (q_block ?_)))))))))
 obtain ⟨o1,hl1,hr⟩:=bindS hr
 refine q_loop (fun (t_2:Int) a w=>Fr a 19 [(1,(iV p_n)),(7,s1.v),(8,(iV (goLen p_l))),(9,(iV t_2))]∧St [] w0 w m []) (fun (o:(Unit) ⊕ (Int)) e a w=>o=.inl ()∧e=.exit 0∧Fr a 19 []∧St [] w0 w m []) hl1 ⟨hF.sub ⟨rfl,rfl,rfl,rfl,trivial⟩,hS⟩ ?_ ?_
 ·clear hF hS
  rintro t_2 a w st ⟨hF,hS⟩ hb1
  unfold spec_l1Find_l1 at hb1
  refine q_seq (q_region (q_x (v:=(.bool (decide (t_2<(goLen p_l))))) hF hS (ex_ibin rfl rfl rfl) rfl rfl fun a hF=>q_end (n_sq (q_seq ?_))))
  rcases bcase (decide (t_2<(goLen p_l))) with hc2 | hc2
  ·have hb1:=cond_f hc2 hb1
   refine q_cond_f hF rfl hc2 (q_exit (x_sq ?_))
   obtain rfl:=someI hb1
   exact ⟨nofun,.inl ⟨rfl,rfl,hF.sub trivial,hS⟩⟩
  ·have hb1:=cond_t hc2 hb1
   refine q_cond_t hF rfl hc2 (q_skipc (n_sq (q_seq (q_block (q_seq (q_region (q_x (v:=(iV t_2)) hF hS (ex_move rfl) rfl rfl fun a hF=>?_)))))))
   obtain ⟨e_3,he_3,hb1⟩:=bindS hb1
   obtain ⟨vs4,at4,d4⟩:=h1.at he_3 1 rfl
   obtain rfl:vs4=[(iV e_3)]:=d4
   refine q_x (v:=(elP s1 (t_2.toNat * 1))) hF hS (ex_indexAddr underlying23 sz3 rfl rfl (h1.idx he_3)) rfl rfl fun a hF=>q_x (v:=(iV e_3)) hF hS (ex_loadE1 0 underlying3 rfl rfl ((at4).at) rfl rfl) rfl rfl fun a hF=>q_x (v:=(iV t_2)) hF hS (ex_assign rfl) rfl rfl fun a hF=>q_x (v:=(iV e_3)) hF hS (ex_assign rfl) rfl rfl fun a hF=>q_end (n_sq (q_seq (q_region (q_x (v:=(iV e_3)) hF hS (ex_move rfl) rfl rfl fun a hF=>q_x (v:=(iV p_n)) hF hS (ex_move rfl) rfl rfl fun a hF=>q_x (v:=(.bool (e_3 == p_n))) hF hS (ex_ibin rfl rfl rfl) rfl rfl fun a hF=>q_end (n_sq ?_)))))
   rcases bcase (e_3 == p_n) with hc3 | hc3
   ·have hb1:=cond_f hc3 hb1
    refine q_cond_f hF rfl hc3 (q_skipc (n_ib (n_sq (q_region (q_x (v:=(iV (w64 (t_2 + 1)))) hF hS (ex_ibin rfl rfl rfl) rfl rfl fun a hF=>q_x (v:=(iV (w64 (t_2 + 1)))) hF hS (ex_move rfl) rfl rfl fun a hF=>q_end ?_)))))
    obtain rfl:=someI hb1
    exact ⟨rfl,hF.sub ⟨rfl,rfl,rfl,rfl,trivial⟩,hS⟩
   ·have hb1:=cond_t hc3 hb1
    refine q_cond_t hF rfl hc3 (q_seq (q_region (q_x (v:=(iV t_2)) hF hS (ex_move rfl) rfl rfl fun a hF=>q_x (v:=(iV t_2)) hF hS (ex_assign rfl) rfl rfl fun a hF=>q_end (n_sq (q_ret (r_ib (r_sq ?_)))))))
    obtain rfl:=someI hb1
    refine ⟨nofun,.inr fun ho=>?_⟩
    subst ho
    refine r_ib (r_sq ?_)
    obtain rfl:=someI hr
    exact ret_of hF hS rfl (.tmp rfl .nil) rfl
 ·rintro e a w ⟨rfl,rfl,hF,hS⟩
  refine x_ib (n_sq ?_)
  refine q_seq (q_region (q_x (v:=(iV (-1))) hF hS (ex_assign rfl) rfl rfl fun a hF=>q_end (n_sq (q_ret ?_))))
  obtain rfl:=someI hr
  exact ret_of hF hS rfl (.tmp rfl .nil) rfl

theorem c_spec_sPick (p_values:List Int) (p_vars:List Int) (r:(List Int)) (hr:spec_sPick p_values p_vars=some r) (w0:World) (m:Mem) (hv:Vis m w0) (s1:Sl) (h1:Rd m s1 p_values) (s2:Sl) (h2:Rd m s2 p_vars) :
  Ret prog 109 [s1.v,s2.v] w0 (fun v w=>∃ (q0':Piece) (s0':Sl),v=s0'.v∧St [] w0 w m [q0']∧OwnL m 3 q0' s0' r):=by
 unfold spec_sPick at hr
 refine ret_start func109 rfl 23 rfl rfl m hv fun a hF hS=>q_seq (q_region (q_x (v:=nilS.v) hF hS (ex_assign rfl) rfl rfl fun a hF=>q_end (n_sq (q_seq (q_region (q_x (v:=nilS.v) hF hS (ex_assign rfl) rfl rfl fun a hF=>q_end (n_sq (q_seq (q_seq (q_region (q_x (v:=s2.v) hF hS (ex_move rfl) rfl rfl fun a hF=>q_x (v:=(iV (goLen p_vars))) hF hS (ex_len underlying23 rfl h2.len) rfl rfl fun a hF=>q_x (v:=(iV 0)) hF hS (ex_move rfl) rfl rfl fun a hF=>q_end (n_sq (q_block ?_)))))))))))))
 obtain ⟨out_13,hl1,hr⟩:=bindS hr
 refine q_loop (fun (s:(List Int) × Int) a w=>∃ (q4:Piece),∃ (s4:Sl),∃ out_3,∃ t_5,s=(out_3,t_5)∧Fr a 23 [(0,s1.v),(5,s4.v),(8,s2.v),(9,(iV (goLen p_vars))),(10,(iV t_5))]∧St [] w0 w m [q4]∧OwnL m 3 q4 s4 out_3) (fun (out_13:(List Int)) e a w=>∃ (q14:Piece),∃ (s14:Sl),e=.exit 0∧Fr a 23 [(5,s14.v)]∧St [] w0 w m [q14]∧OwnL m 3 q14 s14 out_13) hl1 ⟨[],nilS,_,_,rfl,hF.sub ⟨rfl,rfl,rfl,rfl,rfl,trivial⟩,hS.sel [0] (by decide),(OwnL.nil (α:=Int) m 3)⟩ ?_ ?_
 ·clear hF hS
  rintro s a w st ⟨q4,s4,out_3,t_5,rfl,hF,hS,h4⟩ hb1
  unfold spec_sPick_l1 at hb1
  refine q_seq (q_region (q_x (v:=(.bool (decide (t_5<(goLen p_vars))))) hF hS (ex_ibin rfl rfl rfl) rfl rfl fun a hF=>q_end (n_sq (q_seq ?_))))
  rcases bcase (decide (t_5<(goLen p_vars))) with hc2 | hc2
  ·have hb1:=cond_f hc2 hb1
   refine q_cond_f hF rfl hc2 (q_exit (x_sq ?_))
   obtain rfl:=someI hb1
   exact ⟨nofun,.inl ⟨q4,s4,rfl,hF.sub ⟨rfl,trivial⟩,hS,h4⟩⟩
  ·have hb1:=cond_t hc2 hb1
   refine q_cond_t hF rfl hc2 (q_skipc (n_sq (q_seq (q_block (q_seq (q_region ?_))))))
   obtain ⟨e_6,he_6,hb1⟩:=bindS hb1
   obtain ⟨vs7,at7,d7⟩:=h2.at he_6 1 rfl
   obtain rfl:vs7=[(iV e_6)]:=d7
   refine q_x (v:=(elP s2 (t_5.toNat * 1))) hF hS (ex_indexAddr underlying23 sz3 rfl rfl (h2.idx he_6)) rfl rfl fun a hF=>q_x (v:=(iV e_6)) hF hS (ex_loadE1 0 underlying3 rfl rfl ((at7).at) rfl rfl) rfl rfl fun a hF=>q_x (v:=(iV e_6)) hF hS (ex_assign rfl) rfl rfl fun a hF=>q_end (n_sq (q_region (q_x (v:=s4.v) hF hS (ex_move rfl) rfl rfl fun a hF=>q_x (v:=s1.v) hF hS (ex_move rfl) rfl rfl fun a hF=>q_x (v:=(iV e_6)) hF hS (ex_move rfl) rfl rfl fun a hF=>?_)))
   obtain ⟨e_8,he_8,hb1⟩:=bindS hb1
   obtain ⟨vs9,at9,d9⟩:=h1.at he_8 1 rfl
   obtain rfl:vs9=[(iV e_8)]:=d9
   refine q_x (v:=(elP s1 (e_6.toNat * 1))) hF hS (ex_indexAddr underlying23 sz3 rfl rfl (h1.idx he_8)) rfl rfl fun a hF=>q_x (v:=(iV e_8)) hF hS (ex_loadE1 0 underlying3 rfl rfl ((at9).at) rfl rfl) rfl rfl fun a hF=>q_do rfl fun _ hK=>wp_buildSlice' (l:=([e_8]:List Int)) (cells:=[(iV e_8)]) hF hS underlying23 inf3 rfl rfl (by kernel_rfl) rfl rfl rfl ⟨rfl,rfl⟩ rfl rfl fun a w q10 s10 hF hS h10 _=>hK _ _ ?_
   have hS:St _ _ _ _ [q4,q10]:=hS.sel [1,0] (by decide)
   obtain ⟨l_11,hl_11,hb1⟩:=bindS hb1
   refine q_do rfl fun _ hK=>wp_append hF hS h4 underlying23 inf3 rfl rfl rfl rfl (h10.vw hS (j:=1) rfl) rfl (by decide) hl_11 rfl fun a w q12 s12 hF hS h12=>hK _ _ (q_x (v:=s12.v) hF hS (ex_assign rfl) rfl rfl fun a hF=>q_end (n_ib (n_sq (q_region (q_x (v:=(iV (w64 (t_5 + 1)))) hF hS (ex_ibin rfl rfl rfl) rfl rfl fun a hF=>q_x (v:=(iV (w64 (t_5 + 1)))) hF hS (ex_move rfl) rfl rfl fun a hF=>q_end ?_)))))
   obtain rfl:=someI hb1
   exact ⟨rfl,q12,s12,_,_,rfl,hF.sub ⟨rfl,rfl,rfl,rfl,rfl,trivial⟩,hS.mask [true,false],h12⟩
 ·rintro e a w ⟨q14,s14,rfl,hF,hS,h14⟩
  refine x_ib (n_sq ?_)
  refine q_seq (q_region (q_x (v:=s14.v) hF hS (ex_move rfl) rfl rfl fun a hF=>q_x (v:=s14.v) hF hS (ex_assign rfl) rfl rfl fun a hF=>q_end (n_sq (q_ret ?_))))
  obtain rfl:=someI hr
  exact ret_of hF hS rfl (.tmp rfl .nil) ⟨q14,s14,rfl,hS.sel [0] (by decide),h14⟩

theorem c_spec_sIndex (p_s:List impl_Variable) (p_values:List Int) (r:Int) (hr:spec_sIndex p_s p_values=some r) (w0:World) (m:Mem) (hv:Vis m w0) (s1:Sl) (h1:Rd m s1 p_s) (s2:Sl) (h2:Rd m s2 p_values) :
  Ret prog 108 [s1.v,s2.v] w0 (fun v _=>v=(iV r)):=by
 unfold spec_sIndex at hr
 refine ret_start func108 rfl 26 rfl rfl m hv fun a hF hS=>q_seq (q_region (q_x (v:=(iV 0)) hF hS (ex_assign rfl) rfl rfl fun a hF=>q_end (n_sq (q_seq (q_region (q_x (v:=(iV 0)) hF hS (ex_assign rfl) rfl rfl fun a hF=>q_end (n_sq (q_seq (q_seq (q_region (q_x (v:=s1.v) hF hS (ex_move rfl) rfl rfl fun a hF=>q_x (v:=(iV (goLen p_s))) hF hS (ex_len underlying26 rfl h1.len) rfl rfl fun a hF=>q_x (v:=(iV 0)) hF hS (ex_move rfl) rfl rfl fun a hF=>q_end (n_sq (q_block ?_)))))))))))))
 obtain ⟨n_10,hl1,hr⟩:=bindS hr
 refine q_loop (fun (s:Int × Int) a w=>∃ n_3,∃ t_4,s=(n_3,t_4)∧Fr a 26 [(1,s2.v),(5,(iV n_3)),(8,s1.v),(9,(iV (goLen p_s))),(10,(iV t_4))]∧St [] w0 w m []) (fun (n_10:Int) e a w=>e=.exit 0∧Fr a 26 [(5,(iV n_10))]∧St [] w0 w m []) hl1 ⟨_,_,rfl,hF.sub ⟨rfl,rfl,rfl,rfl,rfl,trivial⟩,hS⟩ ?_ ?_
 ·clear hF hS
  rintro s a w st ⟨n_3,t_4,rfl,hF,hS⟩ hb1
  unfold spec_sIndex_l1 at hb1
  refine q_seq (q_region (q_x (v:=(.bool (decide (t_4<(goLen p_s))))) hF hS (ex_ibin rfl rfl rfl) rfl rfl fun a hF=>q_end (n_sq (q_seq ?_))))
  rcases bcase (decide (t_4<(goLen p_s))) with hc2 | hc2
  ·have hb1:=cond_f hc2 hb1
   refine q_cond_f hF rfl hc2 (q_exit (x_sq ?_))
   obtain rfl:=someI hb1
   exact ⟨nofun,.inl ⟨rfl,hF.sub ⟨rfl,trivial⟩,hS⟩⟩
  ·have hb1:=cond_t hc2 hb1
   refine q_cond_t hF rfl hc2 (q_skipc (n_sq (q_seq (q_block (q_seq (q_region (q_x (v:=(iV t_4)) hF hS (ex_move rfl) rfl rfl fun a hF=>?_)))))))
   obtain ⟨e_5,he_5,hb1⟩:=bindS hb1
   obtain ⟨vs6,at6,d6⟩:=h1.at he_5 2 rfl
   obtain rfl:vs6=[(strV e_5.Name),(iV e_5.Levels)]:=d6
   refine q_x (v:=(elP s1 (t_4.toNat * 2))) hF hS (ex_indexAddr underlying26 sz55 rfl rfl (h1.idx he_5)) rfl rfl fun a hF=>q_x (v:=(.agg #[(strV e_5.Name),(iV e_5.Levels)])) hF hS (ex_loadEA (us:=[(strV e_5.Name),(iV e_5.Levels)]) 0 underlying55 rfl sz55 rfl ((at6).at) rfl rfl rfl) rfl rfl fun a hF=>q_alloc (cs:=[(strV ([]:List UInt8)),(iV 0)]) hF hS rfl rfl rfl fun a w b7 hF hS=>q_x (v:=(iV t_4)) hF hS (ex_assign rfl) rfl rfl fun a hF=>q_store (vs:=[(strV e_5.Name),(iV e_5.Levels)]) (cs':=[(strV e_5.Name),(iV e_5.Levels)]) 0 0 hF hS sz55 rfl rfl rfl rfl rfl rfl rfl rfl fun a w hF hS=>q_end (n_sq (e_region ⟨[],[]⟩ mixed fun w' hw'=>?_))
   have hS:=hS.below hw'
   refine e_p (v:=(iV n_3)) 0 hF rfl (ex_move rfl) rfl rfl (by kernel_rfl) (by kernel_rfl) (by kernel_rfl) fun a hF=>e_p (v:=(.pointer (some ⟨b7,1,none⟩))) 1 hF rfl (ex_fieldAddr underlying55 rfl sz3 rfl rfl) rfl rfl (by kernel_rfl) (by kernel_rfl) (by kernel_rfl) fun a hF=>e_x (v:=(iV e_5.Levels)) 2 hF hS rfl (ex_load1 0 0 underlying3 rfl rfl rfl rfl) rfl rfl (by kernel_rfl) (by kernel_rfl) (by kernel_rfl) (by kernel_rfl) fun a hF=>e_p (v:=(iV (w64 (n_3 * e_5.Levels)))) 3 hF rfl (ex_ibin rfl rfl rfl) rfl rfl (by kernel_rfl) (by kernel_rfl) (by kernel_rfl) fun a hF=>e_p (v:=s2.v) 4 hF rfl (ex_move rfl) rfl rfl (by kernel_rfl) (by kernel_rfl) (by kernel_rfl) fun a hF=>e_p (v:=(iV t_4)) 5 hF rfl (ex_move rfl) rfl rfl (by kernel_rfl) (by kernel_rfl) (by kernel_rfl) fun a hF=>?_
   obtain ⟨e_8,he_8,hb1⟩:=bindS hb1
   obtain ⟨vs9,at9,d9⟩:=h2.at he_8 1 rfl
   obtain rfl:vs9=[(iV e_8)]:=d9
   refine e_p (v:=(elP s2 (t_4.toNat * 1))) 6 hF rfl (ex_indexAddr underlying23 sz3 rfl rfl (h2.idx he_8)) rfl rfl (by kernel_rfl) (by kernel_rfl) (by kernel_rfl) fun a hF=>e_x (v:=(iV e_8)) 7 hF hS rfl (ex_loadE1 0 underlying3 rfl rfl ((at9).at) rfl rfl) rfl rfl (by kernel_rfl) (by kernel_rfl) (by kernel_rfl) (by kernel_rfl) fun a hF=>e_p (v:=(iV (w64 ((w64 (n_3 * e_5.Levels)) + e_8)))) 8 hF rfl (ex_ibin rfl rfl rfl) rfl rfl (by kernel_rfl) (by kernel_rfl) (by kernel_rfl) fun a hF=>e_p (v:=(iV (w64 ((w64 (n_3 * e_5.Levels)) + e_8)))) 9 hF rfl (ex_assign rfl) rfl rfl (by kernel_rfl) (by kernel_rfl) (by kernel_rfl) fun a hF=>e_end (by kernel_rfl) (n_ib (n_sq ?_)) _
   refine q_region (q_x (v:=(iV (w64 (t_4 + 1)))) hF hS (ex_ibin rfl rfl rfl) rfl rfl fun a hF=>q_x (v:=(iV (w64 (t_4 + 1)))) hF hS (ex_move rfl) rfl rfl fun a hF=>q_end ?_)
   obtain rfl:=someI hb1
   exact ⟨rfl,_,_,rfl,hF.sub ⟨rfl,rfl,rfl,rfl,rfl,trivial⟩,hS.mask [false]⟩
 ·rintro e a w ⟨rfl,hF,hS⟩
  refine x_ib (n_sq ?_)
  refine q_seq (q_region (q_x (v:=(iV n_10)) hF hS (ex_move rfl) rfl rfl fun a hF=>q_x (v:=(iV n_10)) hF hS (ex_assign rfl) rfl rfl fun a hF=>q_end (n_sq (q_ret ?_))))
  obtain rfl:=someI hr
  exact ret_of hF hS rfl (.tmp rfl .nil) rfl

theorem c_spec_uCell (p_g:impl_Geo) (p_s:List impl_Variable) (p_t:impl_Table) (p_r:impl_Record) (r:Int × Int) (hr:spec_uCell p_g p_s p_t p_r=some r) (w0:World) (m:Mem) (hv:Vis m w0) (s1:Sl) (h1:Rd m s1 p_g.Parents) (s2:Sl) (h2:Rd m s2 p_s) (s3:Sl) (h3:Rd m s3 p_t.Vars) (s4:Sl) (h4:Rd m s4 p_t.Where) (s5:Sl) (h5:Rd m s5 p_r.Values) :
  Ret prog 77 [(.agg #[s1.v]),s2.v,(.agg #[(iV p_t.Level),s3.v,s4.v,(iV p_t.Sum)]),(.agg #[(iV p_r.Area),(iV p_r.House),s5.v])] w0 (fun v _=>v=(.tuple #[(iV r.1),(iV r.2)])):=by
 unfold spec_uCell at hr
 refine ret_start func77 rfl 60 rfl rfl m hv fun a hF hS=>q_seq (q_region (q_box (cs:=[s1.v]) hF hS rfl rfl rfl fun a w b6 hF hS=>q_box (cs:=[(iV p_t.Level),s3.v,s4.v,(iV p_t.Sum)]) hF hS rfl rfl rfl fun a w b7 hF hS=>q_box (cs:=[(iV p_r.Area),(iV p_r.House),s5.v]) hF hS rfl rfl rfl fun a w b8 hF hS=>q_x (v:=(iV 0)) hF hS (ex_assign rfl) rfl rfl fun a hF=>q_x (v:=(iV 0)) hF hS (ex_assign rfl) rfl rfl fun a hF=>q_end (n_sq (q_seq (q_region (q_x (v:=(.agg #[s1.v])) hF hS (ex_loadA (vs:=[s1.v]) 2 0 underlying25 rfl sz25 rfl rfl rfl rfl) rfl rfl fun a hF=>q_x (v:=(.pointer (some ⟨b8,0,none⟩))) hF hS (ex_fieldAddr underlying85 rfl sz3 rfl rfl) rfl rfl fun a hF=>q_x (v:=(iV p_r.Area)) hF hS (ex_load1 0 0 underlying3 rfl rfl rfl rfl) rfl rfl fun a hF=>q_x (v:=(.pointer (some ⟨b7,0,none⟩))) hF hS (ex_fieldAddr underlying28 rfl sz3 rfl rfl) rfl rfl fun a hF=>q_x (v:=(iV p_t.Level)) hF hS (ex_load1 1 0 underlying3 rfl rfl rfl rfl) rfl rfl fun a hF=>?_))))))
 obtain ⟨t_9,ht_9,hr⟩:=bindS hr
 refine q_call (vs:=[(.agg #[s1.v]),(iV p_r.Area),(iV p_t.Level)]) hF hS func105 (by kernel_rfl) rfl rfl rfl (c_spec_gUp p_g p_r.Area p_t.Level t_9 ht_9 _ m hS.vis s1 h1) ?_
 rintro a w _ rfl hF hS
 refine q_x (v:=(iV t_9)) hF hS (ex_assign rfl) rfl rfl fun a hF=>q_end (n_sq (q_seq (q_seq ?_)))
 obtain ⟨t_11,hj1,hr⟩:=bindS hr
 refine q_join (fun a w=>Fr a 60 [(1,s2.v),(4,(.pointer (some ⟨b6,0,none⟩))),(6,(.pointer (some ⟨b7,0,none⟩))),(7,(.pointer (some ⟨b8,0,none⟩))),(10,(iV t_9)),(27,(.bool t_11))]∧St [] w0 w m [[⟨b8,[(iV p_r.Area),(iV p_r.House),s5.v],85⟩],[⟨b7,[(iV p_t.Level),s3.v,s4.v,(iV p_t.Sum)],28⟩],[⟨b6,[s1.v],25⟩]]) ?_ ?_
 ·refine q_region (q_x (v:=(iV t_9)) hF hS (ex_move rfl) rfl rfl fun a hF=>q_x (v:=(.bool (decide (t_9<0)))) hF hS (ex_ibin rfl rfl rfl) rfl rfl fun a hF=>q_x (v:=(.bool (decide (t_9<0)))) hF hS (ex_move rfl) rfl rfl fun a hF=>?_)
  rcases bcase (decide (t_9<0)) with hc2 | hc2
  ·have hj1:=cond_f hc2 hj1
   refine q_xg (v:=(.agg #[(iV p_t.Level),s3.v,s4.v,(iV p_t.Sum)])) hF hS (ex_loadA (vs:=[(iV p_t.Level),s3.v,s4.v,(iV p_t.Sum)]) 1 0 underlying28 rfl sz28 rfl rfl rfl rfl) (wanted_t hF rfl rfl rfl hc2) rfl fun a hF=>q_xg (v:=(.pointer (some ⟨b8,2,none⟩))) hF hS (ex_fieldAddr underlying85 rfl sz23 rfl rfl) (wanted_t hF rfl rfl rfl hc2) rfl fun a hF=>q_xg (v:=s5.v) hF hS (ex_load1 0 0 underlying23 rfl rfl rfl rfl) (wanted_t hF rfl rfl rfl hc2) rfl fun a hF=>?_
   obtain ⟨t_10,ht_10,hj1⟩:=bindS hj1
   refine q_callg (vs:=[(.agg #[(iV p_t.Level),s3.v,s4.v,(iV p_t.Sum)]),s5.v]) hF hS (wanted_t hF rfl rfl rfl hc2) func106 (by kernel_rfl) rfl rfl rfl (c_spec_uMeets p_t p_r.Values t_10 ht_10 _ m hS.vis s3 h3 s4 h4 s5 h5) ?_
   rintro a w _ rfl hF hS
   refine q_xg (v:=(.bool (!t_10))) hF hS (ex_not rfl) (wanted_t hF rfl rfl rfl hc2) rfl fun a hF=>q_x (v:=(.bool (!t_10))) hF hS (ex_pick_f rfl rfl hc2) rfl rfl fun a hF=>q_end (n_jn ?_)
   obtain rfl:=someI hj1
   exact ⟨hF.sub ⟨rfl,rfl,rfl,rfl,rfl,rfl,trivial⟩,hS⟩
  ·have hj1:=cond_t hc2 hj1
   refine q_skip hF (wanted_f hF rfl rfl rfl hc2 rfl) rfl fun a hF=>q_skip hF (wanted_f hF rfl rfl rfl hc2 rfl) rfl fun a hF=>q_skip hF (wanted_f hF rfl rfl rfl hc2 rfl) rfl fun a hF=>q_skip hF (wanted_f hF rfl rfl rfl hc2 rfl) rfl fun a hF=>q_skip hF (wanted_f hF rfl rfl rfl hc2 rfl) rfl fun a hF=>q_x (v:=(.bool true)) hF hS (ex_pick_t rfl rfl hc2) rfl rfl fun a hF=>q_end (n_jn ?_)
   obtain rfl:=someI hj1
   exact ⟨hF.sub ⟨rfl,rfl,rfl,rfl,rfl,rfl,trivial⟩,hS⟩
 ·rintro a w ⟨hF,hS⟩
  refine n_sq ?_
  rcases bcase (t_11) with hc3 | hc3
  ·have hr:=cond_f hc3 hr
   refine q_cond_f hF rfl hc3 (q_skipc (n_sq (q_seq (q_region (q_x (v:=s2.v) hF hS (ex_move rfl) rfl rfl fun a hF=>q_x (v:=(.pointer (some ⟨b7,1,none⟩))) hF hS (ex_fieldAddr underlying28 rfl sz23 rfl rfl) rfl rfl fun a hF=>q_x (v:=s3.v) hF hS (ex_load1 1 0 underlying23 rfl rfl rfl rfl) rfl rfl fun a hF=>?_)))))
   obtain ⟨t_12,ht_12,hr⟩:=bindS hr
   refine q_call (vs:=[s2.v,s3.v]) hF hS func74 (by kernel_rfl) rfl rfl rfl (c_spec_sPart p_s p_t.Vars t_12 ht_12 _ m hS.vis s2 h2 s3 h3) ?_
   rintro a w _ ⟨q14,s14,rfl,hR13,h14⟩ hF hS2
   have hS:St _ _ _ _ [q14,[⟨b8,[(iV p_r.Area),(iV p_r.House),s5.v],85⟩],[⟨b7,[(iV p_t.Level),s3.v,s4.v,(iV p_t.Sum)],28⟩],[⟨b6,[s1.v],25⟩]]:=hS.joinF hR13
   refine q_x (v:=s14.v) hF hS (ex_assign rfl) rfl rfl fun a hF=>q_end (n_sq (q_seq (e_region ⟨[],[]⟩ mixed fun w' hw'=>?_)))
   have hS:=hS.below hw'
   refine e_x (v:=(.agg #[s1.v])) 0 hF hS rfl (ex_loadA (vs:=[s1.v]) 3 0 underlying25 rfl sz25 rfl rfl rfl rfl) rfl rfl (by kernel_rfl) (by kernel_rfl) (by kernel_rfl) (by kernel_rfl) fun a hF=>e_p (v:=(.pointer (some ⟨b7,0,none⟩))) 1 hF rfl (ex_fieldAddr underlying28 rfl sz3 rfl rfl) rfl rfl (by kernel_rfl) (by kernel_rfl) (by kernel_rfl) fun a hF=>e_x (v:=(iV p_t.Level)) 2 hF hS rfl (ex_load1 2 0 underlying3 rfl rfl rfl rfl) rfl rfl (by kernel_rfl) (by kernel_rfl) (by kernel_rfl) (by kernel_rfl) fun a hF=>e_p (v:=(iV t_9)) 4 hF rfl (ex_move rfl) rfl rfl (by kernel_rfl) (by kernel_rfl) (by kernel_rfl) fun a hF=>e_p (v:=s14.v) 6 hF rfl (ex_move rfl) rfl rfl (by kernel_rfl) (by kernel_rfl) (by kernel_rfl) fun a hF=>e_p (v:=s14.v) 9 hF rfl (ex_move rfl) rfl rfl (by kernel_rfl) (by kernel_rfl) (by kernel_rfl) fun a hF=>e_p (v:=(.pointer (some ⟨b8,2,none⟩))) 10 hF rfl (ex_fieldAddr underlying85 rfl sz23 rfl rfl) rfl rfl (by kernel_rfl) (by kernel_rfl) (by kernel_rfl) fun a hF=>e_x (v:=s5.v) 11 hF hS rfl (ex_load1 1 0 underlying23 rfl rfl rfl rfl) rfl rfl (by kernel_rfl) (by kernel_rfl) (by kernel_rfl) (by kernel_rfl) fun a hF=>e_p (v:=(.pointer (some ⟨b7,1,none⟩))) 12 hF rfl (ex_fieldAddr underlying28 rfl sz23 rfl rfl) rfl rfl (by kernel_rfl) (by kernel_rfl) (by kernel_rfl) fun a hF=>e_x (v:=s3.v) 13 hF hS rfl (ex_load1 2 0 underlying23 rfl rfl rfl rfl) rfl rfl (by kernel_rfl) (by kernel_rfl) (by kernel_rfl) (by kernel_rfl) fun a hF=>e_one 3 (by kernel_rfl) ?_
   obtain ⟨t_36,ht_36,hr⟩:=bindS hr
   refine e_call (vs:=[(.agg #[s1.v]),(iV p_t.Level)]) hF hS rfl func65 (by kernel_rfl) rfl rfl rfl (c_spec_gLevel p_g p_t.Level t_36 ht_36 _ m hS.vis s1 h1) ?_
   rintro a w _ ⟨q38,s38,rfl,hR37,h38⟩ hF hS2
   have hS:St _ _ _ _ [q38,q14,[⟨b8,[(iV p_r.Area),(iV p_r.House),s5.v],85⟩],[⟨b7,[(iV p_t.Level),s3.v,s4.v,(iV p_t.Sum)],28⟩],[⟨b6,[s1.v],25⟩]]:=hS.joinF hR37
   refine e_one 5 (by kernel_rfl) ?_
   obtain ⟨m40,hl40,hv40,hz40⟩:=hS.lend
   obtain ⟨t_39,ht_39,hr⟩:=bindS hr
   refine e_call (vs:=[s38.v,(iV t_9)]) hF hS rfl func107 (by kernel_rfl) rfl rfl rfl (c_spec_l1Find t_36 t_9 t_39 ht_39 _ m40 hv40 s38 (h38.froz hl40 (hz40 0 _ rfl))) ?_
   rintro a w _ rfl hF hS
   refine e_one 7 (by kernel_rfl) ?_
   obtain ⟨m42,hl42,hv42,hz42⟩:=hS.lend
   obtain ⟨t_41,ht_41,hr⟩:=bindS hr
   refine e_call (vs:=[s14.v]) hF hS rfl func102 (by kernel_rfl) rfl rfl rfl (c_spec_sCount t_12 t_41 ht_41 _ m42 hv42 s14 (h14.froz hl42 (hz42 1 _ rfl))) ?_
   rintro a w _ rfl hF hS
   refine e_p (v:=(iV (w64 (t_39 * t_41)))) 8 hF rfl (ex_ibin rfl rfl rfl) rfl rfl (by kernel_rfl) (by kernel_rfl) (by kernel_rfl) fun a hF=>e_one 14 (by kernel_rfl) ?_
   obtain ⟨t_43,ht_43,hr⟩:=bindS hr
   refine e_call (vs:=[s5.v,s3.v]) hF hS rfl func109 (by kernel_rfl) rfl rfl rfl (c_spec_sPick p_r.Values p_t.Vars t_43 ht_43 _ m hS.vis s5 h5 s3 h3) ?_
   rintro a w _ ⟨q45,s45,rfl,hR44,h45⟩ hF hS2
   have hS:St _ _ _ _ [q45,q38,q14,[⟨b8,[(iV p_r.Area),(iV p_r.House),s5.v],85⟩],[⟨b7,[(iV p_t.Level),s3.v,s4.v,(iV p_t.Sum)],28⟩],[⟨b6,[s1.v],25⟩]]:=hS.joinF hR44
   refine e_one 15 (by kernel_rfl) ?_
   obtain ⟨m47,hl47,hv47,hz47⟩:=hS.lend
   obtain ⟨t_46,ht_46,hr⟩:=bindS hr
   refine e_call (vs:=[s14.v,s45.v]) hF hS rfl func108 (by kernel_rfl) rfl rfl rfl (c_spec_sIndex t_12 t_43 t_46 ht_46 _ m47 hv47 s14 (h14.froz hl47 (hz47 2 _ rfl)) s45 (h45.froz hl47 (hz47 0 _ rfl))) ?_
   rintro a w _ rfl hF hS
   refine e_p (v:=(iV (w64 ((w64 (t_39 * t_41)) + t_46)))) 16 hF rfl (ex_ibin rfl rfl rfl) rfl rfl (by kernel_rfl) (by kernel_rfl) (by kernel_rfl) fun a hF=>e_p (v:=(iV (w64 ((w64 (t_39 * t_41)) + t_46)))) 17 hF rfl (ex_assign rfl) rfl rfl (by kernel_rfl) (by kernel_rfl) (by kernel_rfl) fun a hF=>e_end (by kernel_rfl) (n_sq ?_) _
   refine q_seq (q_seq (q_region (q_x (v:=(.pointer (some ⟨b7,3,none⟩))) hF hS (ex_fieldAddr underlying28 rfl sz3 rfl rfl) rfl rfl fun a hF=>q_x (v:=(iV p_t.Sum)) hF hS (ex_load1 4 0 underlying3 rfl rfl rfl rfl) rfl rfl fun a hF=>q_x (v:=(.bool (decide (p_t.Sum<0)))) hF hS (ex_ibin rfl rfl rfl) rfl rfl fun a hF=>q_end (n_sq ?_))))
   rcases bcase (decide (p_t.Sum<0)) with hc4 | hc4
   ·have hr:=cond_f hc4 hr
    refine q_cond_f hF rfl hc4 (q_skipc (n_sq (q_seq (e_region ⟨[],[]⟩ mixed fun w' hw'=>?_))))
    have hS:=hS.below hw'
    refine e_p (v:=(iV (w64 ((w64 (t_39 * t_41)) + t_46)))) 0 hF rfl (ex_move rfl) rfl rfl (by kernel_rfl) (by kernel_rfl) (by kernel_rfl) fun a hF=>e_p (v:=(.pointer (some ⟨b8,2,none⟩))) 1 hF rfl (ex_fieldAddr underlying85 rfl sz23 rfl rfl) rfl rfl (by kernel_rfl) (by kernel_rfl) (by kernel_rfl) fun a hF=>e_x (v:=s5.v) 2 hF hS rfl (ex_load1 3 0 underlying23 rfl rfl rfl rfl) rfl rfl (by kernel_rfl) (by kernel_rfl) (by kernel_rfl) (by kernel_rfl) fun a hF=>e_p (v:=(.pointer (some ⟨b7,3,none⟩))) 3 hF rfl (ex_fieldAddr underlying28 rfl sz3 rfl rfl) rfl rfl (by kernel_rfl) (by kernel_rfl) (by kernel_rfl) fun a hF=>e_x (v:=(iV p_t.Sum)) 4 hF hS rfl (ex_load1 4 0 underlying3 rfl rfl rfl rfl) rfl rfl (by kernel_rfl) (by kernel_rfl) (by kernel_rfl) (by kernel_rfl) fun a hF=>?_
    obtain ⟨e_48,he_48,hr⟩:=bindS hr
    obtain ⟨vs49,at49,d49⟩:=h5.at he_48 1 rfl
    obtain rfl:vs49=[(iV e_48)]:=d49
    refine e_p (v:=(elP s5 (p_t.Sum.toNat * 1))) 5 hF rfl (ex_indexAddr underlying23 sz3 rfl rfl (h5.idx he_48)) rfl rfl (by kernel_rfl) (by kernel_rfl) (by kernel_rfl) fun a hF=>e_x (v:=(iV e_48)) 6 hF hS rfl (ex_loadE1 0 underlying3 rfl rfl ((at49).at) rfl rfl) rfl rfl (by kernel_rfl) (by kernel_rfl) (by kernel_rfl) (by kernel_rfl) fun a hF=>e_p (v:=(iV (w64 ((w64 (t_39 * t_41)) + t_46)))) 7 hF rfl (ex_assign rfl) rfl rfl (by kernel_rfl) (by kernel_rfl) (by kernel_rfl) fun a hF=>e_p (v:=(iV e_48)) 8 hF rfl (ex_assign rfl) rfl rfl (by kernel_rfl) (by kernel_rfl) (by kernel_rfl) fun a hF=>e_end (by kernel_rfl) (n_sq (q_ret ?_)) _
    obtain rfl:=someI hr
    exact ret_of hF hS rfl (.tmp rfl (.tmp rfl .nil)) rfl
   ·have hr:=cond_t hc4 hr
    refine q_cond_t hF rfl hc4 (q_seq (q_region (q_x (v:=(iV (w64 ((w64 (t_39 * t_41)) + t_46)))) hF hS (ex_move rfl) rfl rfl fun a hF=>q_x (v:=(iV (w64 ((w64 (t_39 * t_41)) + t_46)))) hF hS (ex_assign rfl) rfl rfl fun a hF=>q_x (v:=(iV 1)) hF hS (ex_assign rfl) rfl rfl fun a hF=>q_end (n_sq (q_ret (r_sq ?_))))))
    obtain rfl:=someI hr
    exact ret_of hF hS rfl (.tmp rfl (.tmp rfl .nil)) rfl
  ·have hr:=cond_t hc3 hr
   refine q_cond_t hF rfl hc3 (q_seq (q_region (q_x (v:=(iV (-1))) hF hS (ex_assign rfl) rfl rfl fun a hF=>q_x (v:=(iV 0)) hF hS (ex_assign rfl) rfl rfl fun a hF=>q_end (n_sq (q_ret (r_sq ?_))))))
   obtain rfl:=someI hr
   exact ret_of hF hS rfl (.tmp rfl (.tmp rfl .nil)) rfl

theorem c_spec_uTable (p_g:impl_Geo) (p_s:List impl_Variable) (p_t:impl_Table) (p_l:List impl_Record) (r:(List Int)) (hr:spec_uTable p_g p_s p_t p_l=some r) (w0:World) (m:Mem) (hv:Vis m w0) (s1:Sl) (h1:Rd m s1 p_g.Parents) (s2:Sl) (h2:Rd m s2 p_s) (s3:Sl) (h3:Rd m s3 p_t.Vars) (s4:Sl) (h4:Rd m s4 p_t.Where) (s5:Sl) (h5:Rd m s5 p_l) :
  Ret prog 30 [(.agg #[s1.v]),s2.v,(.agg #[(iV p_t.Level),s3.v,s4.v,(iV p_t.Sum)]),s5.v] w0 (fun v w=>∃ (q0':Piece) (s0':Sl),v=s0'.v∧St [] w0 w m [q0']∧OwnL m 3 q0' s0' r):=by
 unfold spec_uTable at hr
 refine ret_start func30 rfl 44 rfl rfl m hv fun a hF hS=>q_seq (q_region (q_box (cs:=[s1.v]) hF hS rfl rfl rfl fun a w b6 hF hS=>q_box (cs:=[(iV p_t.Level),s3.v,s4.v,(iV p_t.Sum)]) hF hS rfl rfl rfl fun a w b7 hF hS=>q_x (v:=nilS.v) hF hS (ex_assign rfl) rfl rfl fun a hF=>q_end (n_sq (q_seq (q_region (q_x (v:=(.agg #[s1.v])) hF hS (ex_loadA (vs:=[s1.v]) 1 0 underlying25 rfl sz25 rfl rfl rfl rfl) rfl rfl fun a hF=>q_x (v:=s2.v) hF hS (ex_move rfl) rfl rfl fun a hF=>q_x (v:=(.agg #[(iV p_t.Level),s3.v,s4.v,(iV p_t.Sum)])) hF hS (ex_loadA (vs:=[(iV p_t.Level),s3.v,s4.v,(iV p_t.Sum)]) 0 0 underlying28 rfl sz28 rfl rfl rfl rfl) rfl rfl fun a hF=>?_))))))
 obtain ⟨t_8,ht_8,hr⟩:=bindS hr
 refine q_call (vs:=[(.agg #[s1.v]),s2.v,(.agg #[(iV p_t.Level),s3.v,s4.v,(iV p_t.Sum)])]) hF hS func68 (by kernel_rfl) rfl rfl rfl (c_spec_uCount p_g p_s p_t t_8 ht_8 _ m hS.vis s1 h1 s2 h2 s3 h3 s4 h4) ?_
 rintro a w _ rfl hF hS
 obtain ⟨l_9,hl_9,hr⟩:=bindS hr
 refine q_do rfl fun _ hK=>wp_make (z:=(0:Int)) hF hS underlying23 inf3 rfl rfl rfl rfl rfl (by decide) hl_9 rfl fun a w q10 s10 hF hS h10 _=>hK _ _ (q_x (v:=s10.v) hF hS (ex_assign rfl) rfl rfl fun a hF=>q_end (n_sq (q_seq (q_seq (q_region (q_x (v:=s5.v) hF hS (ex_move rfl) rfl rfl fun a hF=>q_x (v:=(iV (goLen p_l))) hF hS (ex_len underlying29 rfl h5.len) rfl rfl fun a hF=>q_x (v:=(iV 0)) hF hS (ex_move rfl) rfl rfl fun a hF=>q_end (n_sq (q_block ?_))))))))
 obtain ⟨out_26,hl1,hr⟩:=bindS hr
 refine q_loop (fun (s:(List Int) × Int) a w=>∃ (q12:Piece),∃ out_11,∃ t_13,s=(out_11,t_13)∧Fr a 44 [(1,s2.v),(4,(.pointer (some ⟨b6,0,none⟩))),(6,(.pointer (some ⟨b7,0,none⟩))),(9,s10.v),(19,s5.v),(20,(iV (goLen p_l))),(21,(iV t_13))]∧St [] w0 w m [q12,[⟨b7,[(iV p_t.Level),s3.v,s4.v,(iV p_t.Sum)],28⟩],[⟨b6,[s1.v],25⟩]]∧OwnL m 3 q12 s10 out_11) (fun (out_26:(List Int)) e a w=>∃ (q27:Piece),e=.exit 0∧Fr a 44 [(9,s10.v)]∧St [] w0 w m [q27]∧OwnL m 3 q27 s10 out_26) hl1 ⟨q10,_,_,rfl,hF.sub ⟨rfl,rfl,rfl,rfl,rfl,rfl,rfl,trivial⟩,hS,h10⟩ ?_ ?_
 ·clear hF hS
  rintro s a w st ⟨q12,out_11,t_13,rfl,hF,hS,h12⟩ hb1
  unfold spec_uTable_l1 at hb1
  refine q_seq (q_region (q_x (v:=(.bool (decide (t_13<(goLen p_l))))) hF hS (ex_ibin rfl rfl rfl) rfl rfl fun a hF=>q_end (n_sq (q_seq ?_))))
  rcases bcase (decide (t_13<(goLen p_l))) with hc2 | hc2
  ·have hb1:=cond_f hc2 hb1
   refine q_cond_f hF rfl hc2 (q_exit (x_sq ?_))
   obtain rfl:=someI hb1
   exact ⟨nofun,.inl ⟨q12,rfl,hF.sub ⟨rfl,trivial⟩,hS.mask [true,false,false],h12⟩⟩
  ·have hb1:=cond_t hc2 hb1
   refine q_cond_t hF rfl hc2 (q_skipc (n_sq (q_seq (q_block (q_seq (q_region ?_))))))
   obtain ⟨e_14,he_14,hb1⟩:=bindS hb1
   obtain ⟨vs15,at15,d15⟩:=h5.at he_14 3 rfl
   obtain ⟨s16,rfl,h16⟩:∃ s16:Sl,vs15=[(iV e_14.Area),(iV e_14.House),s16.v]∧Rd m s16 e_14.Values:=d15
   refine q_x (v:=(elP s5 (t_13.toNat * 3))) hF hS (ex_indexAddr underlying29 sz85 rfl rfl (h5.idx he_14)) rfl rfl fun a hF=>q_x (v:=(.agg #[(iV e_14.Area),(iV e_14.House),s16.v])) hF hS (ex_loadEA (us:=[(iV e_14.Area),(iV e_14.House),s16.v]) 0 underlying85 rfl sz85 rfl ((at15).at) rfl rfl rfl) rfl rfl fun a hF=>q_alloc (cs:=[(iV 0),(iV 0),nilS.v]) hF hS rfl rfl rfl fun a w b17 hF hS=>q_store (vs:=[(iV e_14.Area),(iV e_14.House),s16.v]) (cs':=[(iV e_14.Area),(iV e_14.House),s16.v]) 0 0 hF hS sz85 rfl rfl rfl rfl rfl rfl rfl rfl fun a w hF hS=>q_end (n_sq (q_seq (q_region (q_x (v:=(.agg #[s1.v])) hF hS (ex_loadA (vs:=[s1.v]) 3 0 underlying25 rfl sz25 rfl rfl rfl rfl) rfl rfl fun a hF=>q_x (v:=s2.v) hF hS (ex_move rfl) rfl rfl fun a hF=>q_x (v:=(.agg #[(iV p_t.Level),s3.v,s4.v,(iV p_t.Sum)])) hF hS (ex_loadA (vs:=[(iV p_t.Level),s3.v,s4.v,(iV p_t.Sum)]) 2 0 underlying28 rfl sz28 rfl rfl rfl rfl) rfl rfl fun a hF=>q_x (v:=(.agg #[(iV e_14.Area),(iV e_14.House),s16.v])) hF hS (ex_loadA (vs:=[(iV e_14.Area),(iV e_14.House),s16.v]) 0 0 underlying85 rfl sz85 rfl rfl rfl rfl) rfl rfl fun a hF=>?_))))
   obtain ⟨t_18,ht_18,hb1⟩:=bindS hb1
   refine q_call (vs:=[(.agg #[s1.v]),s2.v,(.agg #[(iV p_t.Level),s3.v,s4.v,(iV p_t.Sum)]),(.agg #[(iV e_14.Area),(iV e_14.House),s16.v])]) hF hS func77 (by kernel_rfl) rfl rfl rfl (c_spec_uCell p_g p_s p_t e_14 t_18 ht_18 _ m hS.vis s1 h1 s2 h2 s3 h3 s4 h4 s16 h16) ?_
   rintro a w _ rfl hF hS
   refine q_x (v:=(.tuple #[(iV t_18.1),(iV t_18.2)])) hF hS (ex_move rfl) rfl rfl fun a hF=>q_x (v:=(iV t_18.1)) hF hS (ex_extract rfl rfl) rfl rfl fun a hF=>q_x (v:=(iV t_18.2)) hF hS (ex_extract rfl rfl) rfl rfl fun a hF=>q_x (v:=(iV t_18.1)) hF hS (ex_assign rfl) rfl rfl fun a hF=>q_x (v:=(iV t_18.2)) hF hS (ex_assign rfl) rfl rfl fun a hF=>q_end (n_sq (q_seq (q_region (q_x (v:=(iV t_18.1)) hF hS (ex_move rfl) rfl rfl fun a hF=>q_x (v:=(.bool (decide (0≤t_18.1)))) hF hS (ex_ibin rfl rfl rfl) rfl rfl fun a hF=>q_end (n_sq ?_)))))
   obtain ⟨out_24,hj3,hb1⟩:=bindS hb1
   refine q_join (fun a w=>∃ (q25:Piece),Fr a 44 [(1,s2.v),(4,(.pointer (some ⟨b6,0,none⟩))),(6,(.pointer (some ⟨b7,0,none⟩))),(9,s10.v),(19,s5.v),(20,(iV (goLen p_l))),(21,(iV t_13))]∧St [] w0 w m [q25,[⟨b7,[(iV p_t.Level),s3.v,s4.v,(iV p_t.Sum)],28⟩],[⟨b6,[s1.v],25⟩]]∧OwnL m 3 q25 s10 out_24) ?_ ?_
   ·rcases bcase (decide (0≤t_18.1)) with hc4 | hc4
    ·have hj3:=cond_f hc4 hj3
     refine q_cond_f hF rfl hc4 (q_skipc (n_jn ?_))
     obtain rfl:=someI hj3
     exact ⟨q12,hF.sub ⟨rfl,rfl,rfl,rfl,rfl,rfl,rfl,trivial⟩,hS.mask [false,true,true,true],h12⟩
    ·have hj3:=cond_t hc4 hj3
     refine q_cond_t hF rfl hc4 (q_region (q_x (v:=s10.v) hF hS (ex_move rfl) rfl rfl fun a hF=>q_x (v:=(iV t_18.1)) hF hS (ex_move rfl) rfl rfl fun a hF=>?_))
     obtain ⟨e_19,he_19,hj3⟩:=bindS hj3
     obtain ⟨vs20,at20,d20⟩:=h12.at he_19 1 rfl
     obtain rfl:vs20=[(iV e_19)]:=d20
     refine q_x (v:=(elP s10 (t_18.1.toNat * 1))) hF hS (ex_indexAddr underlying23 sz3 rfl rfl (h12.idx he_19)) rfl rfl fun a hF=>q_x (v:=(iV e_19)) hF hS (ex_loadE1 0 underlying3 rfl rfl (at20.at 1 rfl) rfl rfl) rfl rfl fun a hF=>q_x (v:=(iV t_18.2)) hF hS (ex_move rfl) rfl rfl fun a hF=>q_x (v:=(iV (w64 (e_19 + t_18.2)))) hF hS (ex_ibin rfl rfl rfl) rfl rfl fun a hF=>?_
     obtain ⟨e_21,he_21,hj3⟩:=bindS hj3
     obtain ⟨vs22,at22,d22⟩:=h12.at he_21 1 rfl
     obtain rfl:vs22=[(iV e_21)]:=d22
     refine q_x (v:=(elP s10 (t_18.1.toNat * 1))) hF hS (ex_indexAddr underlying23 sz3 rfl rfl (h12.idx he_21)) rfl rfl fun a hF=>?_
     have hS:St _ _ _ _ [q12,[⟨b17,[(iV e_14.Area),(iV e_14.House),s16.v],85⟩],[⟨b7,[(iV p_t.Level),s3.v,s4.v,(iV p_t.Sum)],28⟩],[⟨b6,[s1.v],25⟩]]:=hS.sel [1,0,2,3] (by decide)
     refine q_do rfl fun _ hK=>wp_storeE (e':=(w64 (e_19 + t_18.2))) (us:=[(iV (w64 (e_19 + t_18.2)))]) (vs:=[(iV e_21)]) 0 hF hS h12 sz3 rfl rfl rfl rfl rfl rfl rfl he_21 at22 rfl rfl rfl fun w q23 hS h23=>hK _ _ (q_end (n_jn ?_))
     obtain rfl:=someI hj3
     exact ⟨q23,hF.sub ⟨rfl,rfl,rfl,rfl,rfl,rfl,rfl,trivial⟩,hS.mask [true,false,true,true],h23⟩
   ·rintro a w ⟨q25,hF,hS,h25⟩
    refine n_ib (n_sq ?_)
    refine q_region (q_x (v:=(iV (w64 (t_13 + 1)))) hF hS (ex_ibin rfl rfl rfl) rfl rfl fun a hF=>q_x (v:=(iV (w64 (t_13 + 1)))) hF hS (ex_move rfl) rfl rfl fun a hF=>q_end ?_)
    obtain rfl:=someI hb1
    exact ⟨rfl,q25,_,_,rfl,hF.sub ⟨rfl,rfl,rfl,rfl,rfl,rfl,rfl,trivial⟩,hS,h25⟩
 ·rintro e a w ⟨q27,rfl,hF,hS,h27⟩
  refine x_ib (n_sq ?_)
  refine q_seq (q_region (q_x (v:=s10.v) hF hS (ex_move rfl) rfl rfl fun a hF=>q_x (v:=s10.v) hF hS (ex_assign rfl) rfl rfl fun a hF=>q_end (n_sq (q_ret ?_))))
  obtain rfl:=someI hr
  exact ret_of hF hS rfl (.tmp rfl .nil) ⟨q27,s10,rfl,hS.sel [0] (by decide),h27⟩

theorem c_spec_cbIndices (p_sizes:List Int) (p_i:Int) (r:(List Int)) (hr:spec_cbIndices p_sizes p_i=some r) (w0:World) (m:Mem) (hv:Vis m w0) (s1:Sl) (h1:Rd m s1 p_sizes) :
  Ret prog 39 [s1.v,(iV p_i)] w0 (fun v w=>∃ (q0':Piece) (s0':Sl),v=s0'.v∧St [] w0 w m [q0']∧OwnL m 3 q0' s0' r):=by
 unfold spec_cbIndices at hr
 refine ret_start func39 rfl 35 rfl rfl m hv fun a hF hS=>q_seq (q_region (q_x (v:=nilS.v) hF hS (ex_assign rfl) rfl rfl fun a hF=>q_end (n_sq (q_seq (q_region (q_x (v:=s1.v) hF hS (ex_move rfl) rfl rfl fun a hF=>q_x (v:=(iV (goLen p_sizes))) hF hS (ex_len underlying23 rfl h1.len) rfl rfl fun a hF=>?_))))))
 obtain ⟨l_2,hl_2,hr⟩:=bindS hr
 refine q_do rfl fun _ hK=>wp_make (z:=(0:Int)) hF hS underlying23 inf3 rfl rfl rfl rfl rfl (by decide) hl_2 rfl fun a w q3 s3 hF hS h3 _=>hK _ _ (q_x (v:=s3.v) hF hS (ex_assign rfl) rfl rfl fun a hF=>q_end (n_sq (q_seq (q_seq (q_region (q_x (v:=s1.v) hF hS (ex_move rfl) rfl rfl fun a hF=>q_x (v:=(iV (goLen p_sizes))) hF hS (ex_len underlying23 rfl h1.len) rfl rfl fun a hF=>q_x (v:=(iV (w64 ((goLen p_sizes) - 1)))) hF hS (ex_ibin rfl rfl rfl) rfl rfl fun a hF=>q_x (v:=(iV (w64 ((goLen p_sizes) - 1)))) hF hS (ex_assign rfl) rfl rfl fun a hF=>q_end (n_sq (q_block ?_))))))))
 obtain ⟨out_17,hl1,hr⟩:=bindS hr
 refine q_loop (fun (s:Int × (List Int) × Int) a w=>∃ (q6:Piece),∃ i_4,∃ out_5,∃ d_7,s=(i_4,out_5,d_7)∧Fr a 35 [(0,s1.v),(1,(iV i_4)),(5,s3.v),(6,(iV d_7))]∧St [] w0 w m [q6]∧OwnL m 3 q6 s3 out_5) (fun (out_17:(List Int)) e a w=>∃ (q18:Piece),e=.exit 0∧Fr a 35 [(5,s3.v)]∧St [] w0 w m [q18]∧OwnL m 3 q18 s3 out_17) hl1 ⟨q3,_,_,_,rfl,hF.sub ⟨rfl,rfl,rfl,rfl,trivial⟩,hS,h3⟩ ?_ ?_
 ·clear hF hS
  rintro s a w st ⟨q6,i_4,out_5,d_7,rfl,hF,hS,h6⟩ hb1
  unfold spec_cbIndices_l1 at hb1
  refine q_seq (q_seq (q_region (q_x (v:=(iV d_7)) hF hS (ex_move rfl) rfl rfl fun a hF=>q_x (v:=(.bool (decide (0≤d_7)))) hF hS (ex_ibin rfl rfl rfl) rfl rfl fun a hF=>q_end (n_sq ?_))))
  rcases bcase (decide (0≤d_7)) with hc2 | hc2
  ·have hb1:=cond_f hc2 hb1
   refine q_cond_f hF rfl hc2 (q_exit (x_sq ?_))
   obtain rfl:=someI hb1
   exact ⟨nofun,.inl ⟨q6,rfl,hF.sub ⟨rfl,trivial⟩,hS,h6⟩⟩
  ·have hb1:=cond_t hc2 hb1
   refine q_cond_t hF rfl hc2 (q_skipc (n_sq (q_seq (q_block (q_seq (q_region (q_x (v:=s3.v) hF hS (ex_move rfl) rfl rfl fun a hF=>q_x (v:=(iV d_7)) hF hS (ex_move rfl) rfl rfl fun a hF=>q_x (v:=(iV i_4)) hF hS (ex_move rfl) rfl rfl fun a hF=>q_x (v:=s1.v) hF hS (ex_move rfl) rfl rfl fun a hF=>q_x (v:=(iV d_7)) hF hS (ex_move rfl) rfl rfl fun a hF=>?_)))))))
   obtain ⟨e_8,he_8,hb1⟩:=bindS hb1
   obtain ⟨vs9,at9,d9⟩:=h1.at he_8 1 rfl
   obtain rfl:vs9=[(iV e_8)]:=d9
   refine q_x (v:=(elP s1 (d_7.toNat * 1))) hF hS (ex_indexAddr underlying23 sz3 rfl rfl (h1.idx he_8)) rfl rfl fun a hF=>q_x (v:=(iV e_8)) hF hS (ex_loadE1 0 underlying3 rfl rfl ((at9).at) rfl rfl) rfl rfl fun a hF=>q_x (v:=(iV (w64 (e_8 + 1)))) hF hS (ex_ibin rfl rfl rfl) rfl rfl fun a hF=>?_
   obtain ⟨t_10,ht_10,hb1⟩:=bindS hb1
   refine q_x (v:=(iV t_10)) hF hS (ex_rem rfl rfl ht_10) rfl rfl fun a hF=>?_
   obtain ⟨e_11,he_11,hb1⟩:=bindS hb1
   obtain ⟨vs12,at12,d12⟩:=h6.at he_11 1 rfl
   obtain rfl:vs12=[(iV e_11)]:=d12
   refine q_x (v:=(elP s3 (d_7.toNat * 1))) hF hS (ex_indexAddr underlying23 sz3 rfl rfl (h6.idx he_11)) rfl rfl fun a hF=>q_do rfl fun _ hK=>wp_storeE (e':=t_10) (us:=[(iV t_10)]) (vs:=[(iV e_11)]) 0 hF hS h6 sz3 rfl rfl rfl rfl rfl rfl rfl he_11 at12 rfl rfl rfl fun w q13 hS h13=>hK _ _ (q_end (n_sq (q_region (q_x (v:=(iV i_4)) hF hS (ex_move rfl) rfl rfl fun a hF=>q_x (v:=s1.v) hF hS (ex_move rfl) rfl rfl fun a hF=>q_x (v:=(iV d_7)) hF hS (ex_move rfl) rfl rfl fun a hF=>?_))))
   obtain ⟨e_14,he_14,hb1⟩:=bindS hb1
   obtain ⟨vs15,at15,d15⟩:=h1.at he_14 1 rfl
   obtain rfl:vs15=[(iV e_14)]:=d15
   refine q_x (v:=(elP s1 (d_7.toNat * 1))) hF hS (ex_indexAddr underlying23 sz3 rfl rfl (h1.idx he_14)) rfl rfl fun a hF=>q_x (v:=(iV e_14)) hF hS (ex_loadE1 0 underlying3 rfl rfl ((at15).at) rfl rfl) rfl rfl fun a hF=>q_x (v:=(iV (w64 (e_14 + 1)))) hF hS (ex_ibin rfl rfl rfl) rfl rfl fun a hF=>?_
   obtain ⟨t_16,ht_16,hb1⟩:=bindS hb1
   refine q_x (v:=(iV t_16)) hF hS (ex_quo rfl rfl ht_16) rfl rfl fun a hF=>q_x (v:=(iV t_16)) hF hS (ex_assign rfl) rfl rfl fun a hF=>q_end (n_ib (n_sq (q_region (q_x (v:=(iV d_7)) hF hS (ex_move rfl) rfl rfl fun a hF=>q_x (v:=(iV (w64 (d_7 - 1)))) hF hS (ex_ibin rfl rfl rfl) rfl rfl fun a hF=>q_x (v:=(iV (w64 (d_7 - 1)))) hF hS (ex_assign rfl) rfl rfl fun a hF=>q_end ?_))))
   obtain rfl:=someI hb1
   exact ⟨rfl,q13,_,_,_,rfl,hF.sub ⟨rfl,rfl,rfl,rfl,trivial⟩,hS,h13⟩
 ·rintro e a w ⟨q18,rfl,hF,hS,h18⟩
  refine x_ib (n_sq ?_)
  refine q_seq (q_region (q_x (v:=s3.v) hF hS (ex_move rfl) rfl rfl fun a hF=>q_x (v:=s3.v) hF hS (ex_assign rfl) rfl rfl fun a hF=>q_end (n_sq (q_ret ?_))))
  obtain rfl:=someI hr
  exact ret_of hF hS rfl (.tmp rfl .nil) ⟨q18,s3,rfl,hS.sel [0] (by decide),h18⟩

theorem c_spec_cbBase (p_sizes:List Int) (r:(List Int)) (hr:spec_cbBase p_sizes=some r) (w0:World) (m:Mem) (hv:Vis m w0) (s1:Sl) (h1:Rd m s1 p_sizes) :
  Ret prog 75 [s1.v] w0 (fun v w=>∃ (q0':Piece) (s0':Sl),v=s0'.v∧St [] w0 w m [q0']∧OwnL m 3 q0' s0' r):=by
 unfold spec_cbBase at hr
 refine ret_start func75 rfl 39 rfl rfl m hv fun a hF hS=>q_seq (q_region (q_x (v:=nilS.v) hF hS (ex_assign rfl) rfl rfl fun a hF=>q_end (n_sq (q_seq (q_region (q_x (v:=nilS.v) hF hS (ex_assign rfl) rfl rfl fun a hF=>q_end (n_sq (q_seq (q_seq (q_region (q_x (v:=(iV 0)) hF hS (ex_assign rfl) rfl rfl fun a hF=>q_end (n_sq (q_block ?_)))))))))))))
 obtain ⟨out_22,hl1,hr⟩:=bindS hr
 refine q_loop (fun (s:(List Int) × Int) a w=>∃ (q3:Piece),∃ (s3:Sl),∃ out_2,∃ i_4,s=(out_2,i_4)∧Fr a 39 [(0,s1.v),(3,s3.v),(4,(iV i_4))]∧St [] w0 w m [q3]∧OwnL m 3 q3 s3 out_2) (fun (out_22:(List Int)) e a w=>∃ (q23:Piece),∃ (s23:Sl),e=.exit 0∧Fr a 39 [(3,s23.v)]∧St [] w0 w m [q23]∧OwnL m 3 q23 s23 out_22) hl1 ⟨[],nilS,_,_,rfl,hF.sub ⟨rfl,rfl,rfl,trivial⟩,hS.sel [0] (by decide),(OwnL.nil (α:=Int) m 3)⟩ ?_ ?_
 ·clear hF hS
  rintro s a w st ⟨q3,s3,out_2,i_4,rfl,hF,hS,h3⟩ hb1
  unfold spec_cbBase_l1 at hb1
  refine q_seq (q_seq (q_region (q_x (v:=(iV i_4)) hF hS (ex_move rfl) rfl rfl fun a hF=>q_x (v:=s1.v) hF hS (ex_move rfl) rfl rfl fun a hF=>?_)))
  obtain ⟨t_5,ht_5,hb1⟩:=bindS hb1
  refine q_call (vs:=[s1.v]) hF hS func26 (by kernel_rfl) rfl rfl rfl (c_spec_cbCount p_sizes t_5 ht_5 _ m hS.vis s1 h1) ?_
  rintro a w _ rfl hF hS
  refine q_x (v:=(.bool (decide (i_4<t_5)))) hF hS (ex_ibin rfl rfl rfl) rfl rfl fun a hF=>q_end (n_sq ?_)
  rcases bcase (decide (i_4<t_5)) with hc2 | hc2
  ·have hb1:=cond_f hc2 hb1
   refine q_cond_f hF rfl hc2 (q_exit (x_sq ?_))
   obtain rfl:=someI hb1
   exact ⟨nofun,.inl ⟨q3,s3,rfl,hF.sub ⟨rfl,trivial⟩,hS,h3⟩⟩
  ·have hb1:=cond_t hc2 hb1
   refine q_cond_t hF rfl hc2 (q_skipc (n_sq (q_seq (q_block (q_seq (q_region (q_x (v:=(.bool true)) hF hS (ex_assign rfl) rfl rfl fun a hF=>q_end (n_sq (q_seq (q_seq (q_region (q_x (v:=s1.v) hF hS (ex_move rfl) rfl rfl fun a hF=>q_x (v:=(iV i_4)) hF hS (ex_move rfl) rfl rfl fun a hF=>?_))))))))))))
   obtain ⟨t_6,ht_6,hb1⟩:=bindS hb1
   refine q_call (vs:=[s1.v,(iV i_4)]) hF hS func39 (by kernel_rfl) rfl rfl rfl (c_spec_cbIndices p_sizes i_4 t_6 ht_6 _ m hS.vis s1 h1) ?_
   rintro a w _ ⟨q8,s8,rfl,hR7,h8⟩ hF hS2
   have hS:St _ _ _ _ [q8,q3]:=hS.joinF hR7
   refine q_x (v:=(iV (goLen t_6))) hF hS (ex_len underlying23 rfl h8.len) rfl rfl fun a hF=>q_x (v:=(iV 0)) hF hS (ex_move rfl) rfl rfl fun a hF=>q_end (n_sq (q_block ?_))
   obtain ⟨base_16,hl3,hb1⟩:=bindS hb1
   refine q_loop (fun (s:Bool × Int) a w=>∃ base_9,∃ t_10,s=(base_9,t_10)∧Fr a 39 [(0,s1.v),(3,s3.v),(4,(iV i_4)),(5,(.bool base_9)),(16,s8.v),(17,(iV (goLen t_6))),(18,(iV t_10))]∧St [] w0 w m [q8,q3]) (fun (base_16:Bool) e a w=>e=.exit 2∧Fr a 39 [(0,s1.v),(3,s3.v),(4,(iV i_4)),(5,(.bool base_16))]∧St [] w0 w m [q3]) hl3 ⟨_,_,rfl,hF.sub ⟨rfl,rfl,rfl,rfl,rfl,rfl,rfl,trivial⟩,hS⟩ ?_ ?_
   ·clear hF hS
    rintro s a w st ⟨base_9,t_10,rfl,hF,hS⟩ hb3
    unfold spec_cbBase_l2 at hb3
    refine q_seq (q_region (q_x (v:=(.bool (decide (t_10<(goLen t_6))))) hF hS (ex_ibin rfl rfl rfl) rfl rfl fun a hF=>q_end (n_sq (q_seq ?_))))
    rcases bcase (decide (t_10<(goLen t_6))) with hc4 | hc4
    ·have hb3:=cond_f hc4 hb3
     refine q_cond_f hF rfl hc4 (q_exit (x_sq ?_))
     obtain rfl:=someI hb3
     exact ⟨nofun,.inl ⟨rfl,hF.sub ⟨rfl,rfl,rfl,rfl,trivial⟩,hS.mask [false,true]⟩⟩
    ·have hb3:=cond_t hc4 hb3
     refine q_cond_t hF rfl hc4 (q_skipc (n_sq (q_seq (q_block (q_seq (q_region (q_x (v:=(iV t_10)) hF hS (ex_move rfl) rfl rfl fun a hF=>?_)))))))
     obtain ⟨e_11,he_11,hb3⟩:=bindS hb3
     obtain ⟨vs12,at12,d12⟩:=h8.at he_11 1 rfl
     obtain rfl:vs12=[(iV e_11)]:=d12
     refine q_x (v:=(elP s8 (t_10.toNat * 1))) hF hS (ex_indexAddr underlying23 sz3 rfl rfl (h8.idx he_11)) rfl rfl fun a hF=>q_x (v:=(iV e_11)) hF hS (ex_loadE1 0 underlying3 rfl rfl (at12.at 0 rfl) rfl rfl) rfl rfl fun a hF=>q_x (v:=(iV t_10)) hF hS (ex_assign rfl) rfl rfl fun a hF=>q_x (v:=(iV e_11)) hF hS (ex_assign rfl) rfl rfl fun a hF=>q_end (n_sq ?_)
     obtain ⟨base_15,hj5,hb3⟩:=bindS hb3
     refine q_join (fun a w=>Fr a 39 [(0,s1.v),(3,s3.v),(4,(iV i_4)),(5,(.bool base_15)),(16,s8.v),(17,(iV (goLen t_6))),(18,(iV t_10))]∧St [] w0 w m [q3,q8]) ?_ ?_
     ·refine q_region (q_x (v:=(.bool base_9)) hF hS (ex_move rfl) rfl rfl fun a hF=>q_x (v:=(.bool base_9)) hF hS (ex_move rfl) rfl rfl fun a hF=>?_)
      rcases bcase (base_9) with hc6 | hc6
      ·have hj5:=cond_f hc6 hj5
       refine q_skip hF (wanted_f hF rfl rfl rfl hc6 rfl) rfl fun a hF=>q_skip hF (wanted_f hF rfl rfl rfl hc6 rfl) rfl fun a hF=>q_skip hF (wanted_f hF rfl rfl rfl hc6 rfl) rfl fun a hF=>q_skip hF (wanted_f hF rfl rfl rfl hc6 rfl) rfl fun a hF=>q_skip hF (wanted_f hF rfl rfl rfl hc6 rfl) rfl fun a hF=>q_skip hF (wanted_f hF rfl rfl rfl hc6 rfl) rfl fun a hF=>q_x (v:=(.bool false)) hF hS (ex_pick_f rfl rfl hc6) rfl rfl fun a hF=>q_x (v:=(.bool false)) hF hS (ex_assign rfl) rfl rfl fun a hF=>q_end (n_jn ?_)
       obtain rfl:=someI hj5
       exact ⟨hF.sub ⟨rfl,rfl,rfl,rfl,rfl,rfl,rfl,trivial⟩,hS.sel [1,0] (by decide)⟩
      ·have hj5:=cond_t hc6 hj5
       refine q_xg (v:=(iV e_11)) hF hS (ex_move rfl) (wanted_t hF rfl rfl rfl hc6) rfl fun a hF=>q_xg (v:=s1.v) hF hS (ex_move rfl) (wanted_t hF rfl rfl rfl hc6) rfl fun a hF=>q_xg (v:=(iV t_10)) hF hS (ex_move rfl) (wanted_t hF rfl rfl rfl hc6) rfl fun a hF=>?_
       obtain ⟨e_13,he_13,hj5⟩:=bindS hj5
       obtain ⟨vs14,at14,d14⟩:=h1.at he_13 1 rfl
       obtain rfl:vs14=[(iV e_13)]:=d14
       refine q_xg (v:=(elP s1 (t_10.toNat * 1))) hF hS (ex_indexAddr underlying23 sz3 rfl rfl (h1.idx he_13)) (wanted_t hF rfl rfl rfl hc6) rfl fun a hF=>q_xg (v:=(iV e_13)) hF hS (ex_loadE1 0 underlying3 rfl rfl ((at14).at) rfl rfl) (wanted_t hF rfl rfl rfl hc6) rfl fun a hF=>q_xg (v:=(.bool (decide (e_11<e_13)))) hF hS (ex_ibin rfl rfl rfl) (wanted_t hF rfl rfl rfl hc6) rfl fun a hF=>q_x (v:=(.bool (decide (e_11<e_13)))) hF hS (ex_pick_t rfl rfl hc6) rfl rfl fun a hF=>q_x (v:=(.bool (decide (e_11<e_13)))) hF hS (ex_assign rfl) rfl rfl fun a hF=>q_end (n_jn ?_)
       obtain rfl:=someI hj5
       exact ⟨hF.sub ⟨rfl,rfl,rfl,rfl,rfl,rfl,rfl,trivial⟩,hS.sel [1,0] (by decide)⟩
     ·rintro a w ⟨hF,hS⟩
      refine n_ib (n_sq ?_)
      refine q_region (q_x (v:=(iV (w64 (t_10 + 1)))) hF hS (ex_ibin rfl rfl rfl) rfl rfl fun a hF=>q_x (v:=(iV (w64 (t_10 + 1)))) hF hS (ex_move rfl) rfl rfl fun a hF=>q_end ?_)
      obtain rfl:=someI hb3
      exact ⟨rfl,_,_,rfl,hF.sub ⟨rfl,rfl,rfl,rfl,rfl,rfl,rfl,trivial⟩,hS.sel [1,0] (by decide)⟩
   ·rintro e a w ⟨rfl,hF,hS⟩
    refine x_ib (n_sq ?_)
    refine q_seq (q_region (q_x (v:=(.bool base_16)) hF hS (ex_move rfl) rfl rfl fun a hF=>q_end (n_sq ?_)))
    obtain ⟨out_20,hj7,hb1⟩:=bindS hb1
    refine q_join (fun a w=>∃ (q21:Piece),∃ (s21:Sl),Fr a 39 [(0,s1.v),(3,s21.v),(4,(iV i_4))]∧St [] w0 w m [q21]∧OwnL m 3 q21 s21 out_20) ?_ ?_
    ·rcases bcase (base_16) with hc8 | hc8
     ·have hj7:=cond_f hc8 hj7
      refine q_cond_f hF rfl hc8 (q_skipc (n_jn ?_))
      obtain rfl:=someI hj7
      exact ⟨q3,s3,hF.sub ⟨rfl,rfl,rfl,trivial⟩,hS,h3⟩
     ·have hj7:=cond_t hc8 hj7
      refine q_cond_t hF rfl hc8 (q_region (q_x (v:=s3.v) hF hS (ex_move rfl) rfl rfl fun a hF=>q_x (v:=(iV i_4)) hF hS (ex_move rfl) rfl rfl fun a hF=>q_do rfl fun _ hK=>wp_buildSlice' (l:=([i_4]:List Int)) (cells:=[(iV i_4)]) hF hS underlying23 inf3 rfl rfl (by kernel_rfl) rfl rfl rfl ⟨rfl,rfl⟩ rfl rfl fun a w q17 s17 hF hS h17 _=>hK _ _ ?_))
      have hS:St _ _ _ _ [q3,q17]:=hS.sel [1,0] (by decide)
      obtain ⟨l_18,hl_18,hj7⟩:=bindS hj7
      refine q_do rfl fun _ hK=>wp_append hF hS h3 underlying23 inf3 rfl rfl rfl rfl (h17.vw hS (j:=1) rfl) rfl (by decide) hl_18 rfl fun a w q19 s19 hF hS h19=>hK _ _ (q_x (v:=s19.v) hF hS (ex_assign rfl) rfl rfl fun a hF=>q_end (n_jn ?_))
      obtain rfl:=someI hj7
      exact ⟨q19,s19,hF.sub ⟨rfl,rfl,rfl,trivial⟩,hS.mask [true,false],h19⟩
    ·rintro a w ⟨q21,s21,hF,hS,h21⟩
     refine n_ib (n_sq ?_)
     refine q_region (q_x (v:=(iV i_4)) hF hS (ex_move rfl) rfl rfl fun a hF=>q_x (v:=(iV (w64 (i_4 + 1)))) hF hS (ex_ibin rfl rfl rfl) rfl rfl fun a hF=>q_x (v:=(iV (w64 (i_4 + 1)))) hF hS (ex_assign rfl) rfl rfl fun a hF=>q_end ?_)
     obtain rfl:=someI hb1
     exact ⟨rfl,q21,s21,_,_,rfl,hF.sub ⟨rfl,rfl,rfl,trivial⟩,hS,h21⟩
 ·rintro e a w ⟨q23,s23,rfl,hF,hS,h23⟩
  refine x_ib (n_sq ?_)
  refine q_seq (q_region (q_x (v:=s23.v) hF hS (ex_move rfl) rfl rfl fun a hF=>q_x (v:=s23.v) hF hS (ex_assign rfl) rfl rfl fun a hF=>q_end (n_sq (q_ret ?_))))
  obtain rfl:=someI hr
  exact ret_of hF hS rfl (.tmp rfl .nil) ⟨q23,s23,rfl,hS.sel [0] (by decide),h23⟩

theorem c_spec_cbAt (p_sizes:List Int) (p_index:List Int) (r:Int) (hr:spec_cbAt p_sizes p_index=some r) (w0:World) (m:Mem) (hv:Vis m w0) (s1:Sl) (h1:Rd m s1 p_sizes) (s2:Sl) (h2:Rd m s2 p_index) :
  Ret prog 76 [s1.v,s2.v] w0 (fun v _=>v=(iV r)):=by
 unfold spec_cbAt at hr
 refine ret_start func76 rfl 26 rfl rfl m hv fun a hF hS=>q_seq (q_region (q_x (v:=(iV 0)) hF hS (ex_assign rfl) rfl rfl fun a hF=>q_end (n_sq (q_seq (q_region (q_x (v:=(iV 0)) hF hS (ex_assign rfl) rfl rfl fun a hF=>q_end (n_sq (q_seq (q_seq (q_region (q_x (v:=s1.v) hF hS (ex_move rfl) rfl rfl fun a hF=>q_x (v:=(iV (goLen p_sizes))) hF hS (ex_len underlying23 rfl h1.len) rfl rfl fun a hF=>q_x (v:=(iV 0)) hF hS (ex_move rfl) rfl rfl fun a hF=>q_end (n_sq (q_block ?_)))))))))))))
 obtain ⟨n_9,hl1,hr⟩:=bindS hr
 refine q_loop (fun (s:Int × Int) a w=>∃ n_3,∃ t_4,s=(n_3,t_4)∧Fr a 26 [(1,s2.v),(5,(iV n_3)),(8,s1.v),(9,(iV (goLen p_sizes))),(10,(iV t_4))]∧St [] w0 w m []) (fun (n_9:Int) e a w=>e=.exit 0∧Fr a 26 [(5,(iV n_9))]∧St [] w0 w m []) hl1 ⟨_,_,rfl,hF.sub ⟨rfl,rfl,rfl,rfl,rfl,trivial⟩,hS⟩ ?_ ?_
 ·clear hF hS
  rintro s a w st ⟨n_3,t_4,rfl,hF,hS⟩ hb1
  unfold spec_cbAt_l1 at hb1
  refine q_seq (q_region (q_x (v:=(.bool (decide (t_4<(goLen p_sizes))))) hF hS (ex_ibin rfl rfl rfl) rfl rfl fun a hF=>q_end (n_sq (q_seq ?_))))
  rcases bcase (decide (t_4<(goLen p_sizes))) with hc2 | hc2
  ·have hb1:=cond_f hc2 hb1
   refine q_cond_f hF rfl hc2 (q_exit (x_sq ?_))
   obtain rfl:=someI hb1
   exact ⟨nofun,.inl ⟨rfl,hF.sub ⟨rfl,trivial⟩,hS⟩⟩
  ·have hb1:=cond_t hc2 hb1
   refine q_cond_t hF rfl hc2 (q_skipc (n_sq (q_seq (q_block (q_seq (q_region (q_x (v:=(iV t_4)) hF hS (ex_move rfl) rfl rfl fun a hF=>?_)))))))
   obtain ⟨e_5,he_5,hb1⟩:=bindS hb1
   obtain ⟨vs6,at6,d6⟩:=h1.at he_5 1 rfl
   obtain rfl:vs6=[(iV e_5)]:=d6
   refine q_x (v:=(elP s1 (t_4.toNat * 1))) hF hS (ex_indexAddr underlying23 sz3 rfl rfl (h1.idx he_5)) rfl rfl fun a hF=>q_x (v:=(iV e_5)) hF hS (ex_loadE1 0 underlying3 rfl rfl ((at6).at) rfl rfl) rfl rfl fun a hF=>q_x (v:=(iV t_4)) hF hS (ex_assign rfl) rfl rfl fun a hF=>q_x (v:=(iV e_5)) hF hS (ex_assign rfl) rfl rfl fun a hF=>q_end (n_sq (q_region (q_x (v:=(iV n_3)) hF hS (ex_move rfl) rfl rfl fun a hF=>q_x (v:=(iV e_5)) hF hS (ex_move rfl) rfl rfl fun a hF=>q_x (v:=(iV (w64 (e_5 + 1)))) hF hS (ex_ibin rfl rfl rfl) rfl rfl fun a hF=>q_x (v:=(iV (w64 (n_3 * (w64 (e_5 + 1)))))) hF hS (ex_ibin rfl rfl rfl) rfl rfl fun a hF=>q_x (v:=s2.v) hF hS (ex_move rfl) rfl rfl fun a hF=>q_x (v:=(iV t_4)) hF hS (ex_move rfl) rfl rfl fun a hF=>?_)))
   obtain ⟨e_7,he_7,hb1⟩:=bindS hb1
   obtain ⟨vs8,at8,d8⟩:=h2.at he_7 1 rfl
   obtain rfl:vs8=[(iV e_7)]:=d8
   refine q_x (v:=(elP s2 (t_4.toNat * 1))) hF hS (ex_indexAddr underlying23 sz3 rfl rfl (h2.idx he_7)) rfl rfl fun a hF=>q_x (v:=(iV e_7)) hF hS (ex_loadE1 0 underlying3 rfl rfl ((at8).at) rfl rfl) rfl rfl fun a hF=>q_x (v:=(iV (w64 ((w64 (n_3 * (w64 (e_5 + 1)))) + e_7)))) hF hS (ex_ibin rfl rfl rfl) rfl rfl fun a hF=>q_x (v:=(iV (w64 ((w64 (n_3 * (w64 (e_5 + 1)))) + e_7)))) hF hS (ex_assign rfl) rfl rfl fun a hF=>q_end (n_ib (n_sq (q_region (q_x (v:=(iV (w64 (t_4 + 1)))) hF hS (ex_ibin rfl rfl rfl) rfl rfl fun a hF=>q_x (v:=(iV (w64 (t_4 + 1)))) hF hS (ex_move rfl) rfl rfl fun a hF=>q_end ?_))))
   obtain rfl:=someI hb1
   exact ⟨rfl,_,_,rfl,hF.sub ⟨rfl,rfl,rfl,rfl,rfl,trivial⟩,hS⟩
 ·rintro e a w ⟨rfl,hF,hS⟩
  refine x_ib (n_sq ?_)
  refine q_seq (q_region (q_x (v:=(iV n_9)) hF hS (ex_move rfl) rfl rfl fun a hF=>q_x (v:=(iV n_9)) hF hS (ex_assign rfl) rfl rfl fun a hF=>q_end (n_sq (q_ret ?_))))
  obtain rfl:=someI hr
  exact ret_of hF hS rfl (.tmp rfl .nil) rfl

end Go.Proofs.YtmlegfogjdhhkaaGreat
