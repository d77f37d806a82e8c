/- The walks of the functions: each returns what its plain function says. -/
import Derived.Test.YtgaeknajcakinaaDoorCWalks1
namespace Go.Proofs.YtgaeknajcakinaaDoor
open Go.Gx Go.Gx.F Go.RowKit
set_option linter.all false
set_option maxRecDepth 10000


theorem c_spec_sGroups (p_s : List impl_Variable) (p_g : impl_Grouping) (r : Int) (hr : spec_sGroups p_s p_g = some r) (w0 : World) (m : Mem) (hv : Vis m w0) (s1 : Sl) (h1 : Rd m s1 p_s) (s2 : Sl) (h2 : Rd m s2 p_g.Groups) :
  Ret Tryd.prog 82 [s1.v,(.agg #[(iV p_g.Var),s2.v])] w0 (fun v _=>v = (iV r)):=by
 unfold spec_sGroups at hr
 refine ret_start Tryd.func82 rfl 61 rfl rfl m hv fun a hF hS=>q_seq (q_region (q_box (cs:=[(iV p_g.Var),s2.v]) hF hS rfl rfl rfl fun a w b3 hF hS=>q_x (v:=(iV 0)) hF hS (ex_assign rfl) rfl rfl fun a hF=>q_end (n_sq (q_seq (q_seq ?_)))))
 obtain ⟨t_8,hj1,hr⟩:=bindS hr
 refine q_join (fun a w=>Fr a 61 [(3,(.pointer (some ⟨b3,0,none⟩))),(32,(.bool t_8))]∧St [] w0 w m [[⟨b3,[(iV p_g.Var),s2.v],46⟩]]) ?_ ?_
 ·refine e_region ⟨[],[]⟩ mixed fun w' hw'=>?_
  have hS:=hS.below hw'
  refine e_p (v:=(.pointer (some ⟨b3,0,none⟩))) 0 hF rfl (ex_fieldAddr Tryd.underlying46 rfl sz3 rfl rfl) rfl rfl (by kernel_rfl) (by kernel_rfl) (by kernel_rfl) fun a hF=>e_x (v:=(iV p_g.Var)) 1 hF hS rfl (ex_load1 0 0 Tryd.underlying3 rfl rfl rfl rfl) rfl rfl (by kernel_rfl) (by kernel_rfl) (by kernel_rfl) (by kernel_rfl) fun a hF=>e_p (v:=s1.v) 2 hF rfl (ex_move rfl) rfl rfl (by kernel_rfl) (by kernel_rfl) (by kernel_rfl) fun a hF=>e_p (v:=(iV (goLen p_s))) 3 hF rfl (ex_len Tryd.underlying39 rfl h1.len) rfl rfl (by kernel_rfl) (by kernel_rfl) (by kernel_rfl) fun a hF=>e_p (v:=(iV (w64 ((goLen p_s) - 1)))) 4 hF rfl (ex_ibin rfl rfl rfl) rfl rfl (by kernel_rfl) (by kernel_rfl) (by kernel_rfl) fun a hF=>e_one 5 (by kernel_rfl) ?_
  obtain ⟨t_4,ht_4,hj1⟩:=bindS hj1
  refine e_call (vs:=[(iV p_g.Var),(iV 0),(iV (w64 ((goLen p_s) - 1)))]) hF hS rfl Tryd.func62 (by kernel_rfl) rfl rfl rfl (c_spec_l1In p_g.Var 0 (w64 ((goLen p_s) - 1)) t_4 ht_4 _ m hS.vis) ?_
  rintro a w _ rfl hF hS
  refine e_p (v:=(.bool (!t_4))) 6 hF rfl (ex_not rfl) rfl rfl (by kernel_rfl) (by kernel_rfl) (by kernel_rfl) fun a hF=>e_p (v:=(.bool (!t_4))) 7 hF rfl (ex_move rfl) rfl rfl (by kernel_rfl) (by kernel_rfl) (by kernel_rfl) fun a hF=>?_
  rcases bcase (!t_4) with hc2 | hc2
  ·have hj1:=cond_f hc2 hj1
   refine e_pg (v:=(.pointer (some ⟨b3,1,none⟩))) 8 hF rfl (ex_fieldAddr Tryd.underlying46 rfl sz42 rfl rfl) (wanted_t hF rfl rfl rfl hc2) rfl (by kernel_rfl) (by kernel_rfl) (by kernel_rfl) fun a hF=>e_xg (v:=s2.v) 9 hF hS rfl (ex_load1 0 0 Tryd.underlying42 rfl rfl rfl rfl) (wanted_t hF rfl rfl rfl hc2) rfl (by kernel_rfl) (by kernel_rfl) (by kernel_rfl) (by kernel_rfl) fun a hF=>e_pg (v:=(iV (goLen p_g.Groups))) 10 hF rfl (ex_len Tryd.underlying42 rfl h2.len) (wanted_t hF rfl rfl rfl hc2) rfl (by kernel_rfl) (by kernel_rfl) (by kernel_rfl) fun a hF=>e_pg (v:=s1.v) 11 hF rfl (ex_move rfl) (wanted_t hF rfl rfl rfl hc2) rfl (by kernel_rfl) (by kernel_rfl) (by kernel_rfl) fun a hF=>e_pg (v:=(.pointer (some ⟨b3,0,none⟩))) 12 hF rfl (ex_fieldAddr Tryd.underlying46 rfl sz3 rfl rfl) (wanted_t hF rfl rfl rfl hc2) rfl (by kernel_rfl) (by kernel_rfl) (by kernel_rfl) fun a hF=>e_xg (v:=(iV p_g.Var)) 13 hF hS rfl (ex_load1 0 0 Tryd.underlying3 rfl rfl rfl rfl) (wanted_t hF rfl rfl rfl hc2) rfl (by kernel_rfl) (by kernel_rfl) (by kernel_rfl) (by kernel_rfl) fun a hF=>?_
   obtain ⟨e_5,he_5,hj1⟩:=bindS hj1
   obtain ⟨vs6,at6,d6⟩:=h1.at he_5 2 rfl
   obtain rfl : vs6 = [(strV e_5.Name),(iV e_5.Levels)]:=d6
   refine e_pg (v:=(elP s1 (p_g.Var.toNat * 2))) 14 hF rfl (ex_indexAddr Tryd.underlying39 sz101 rfl rfl (h1.idx he_5)) (wanted_t hF rfl rfl rfl hc2) rfl (by kernel_rfl) (by kernel_rfl) (by kernel_rfl) fun a hF=>e_pg (v:=(elP s1 (p_g.Var.toNat * 2 + 1))) 15 hF rfl (ex_fieldAddrE Tryd.underlying101 rfl sz3 rfl (h1.idx he_5) rfl) (wanted_t hF rfl rfl rfl hc2) rfl (by kernel_rfl) (by kernel_rfl) (by kernel_rfl) fun a hF=>e_xg (v:=(iV e_5.Levels)) 16 hF hS rfl (ex_loadE1 1 Tryd.underlying3 rfl rfl ((at6).at) rfl rfl) (wanted_t hF rfl rfl rfl hc2) rfl (by kernel_rfl) (by kernel_rfl) (by kernel_rfl) (by kernel_rfl) fun a hF=>e_pg (v:=(.bool ((goLen p_g.Groups) != e_5.Levels))) 17 hF rfl (ex_ibin rfl rfl rfl) (wanted_t hF rfl rfl rfl hc2) rfl (by kernel_rfl) (by kernel_rfl) (by kernel_rfl) fun a hF=>e_p (v:=(.bool ((goLen p_g.Groups) != e_5.Levels))) 18 hF rfl (ex_pick_f rfl rfl hc2) rfl rfl (by kernel_rfl) (by kernel_rfl) (by kernel_rfl) fun a hF=>e_p (v:=(.bool ((goLen p_g.Groups) != e_5.Levels))) 19 hF rfl (ex_move rfl) rfl rfl (by kernel_rfl) (by kernel_rfl) (by kernel_rfl) fun a hF=>?_
   rcases bcase ((goLen p_g.Groups) != e_5.Levels) with hc3 | hc3
   ·have hj1:=cond_f hc3 hj1
    refine e_pg (v:=(.pointer (some ⟨b3,1,none⟩))) 20 hF rfl (ex_fieldAddr Tryd.underlying46 rfl sz42 rfl rfl) (wanted_t hF rfl rfl rfl hc3) rfl (by kernel_rfl) (by kernel_rfl) (by kernel_rfl) fun a hF=>e_xg (v:=s2.v) 21 hF hS rfl (ex_load1 0 0 Tryd.underlying42 rfl rfl rfl rfl) (wanted_t hF rfl rfl rfl hc3) rfl (by kernel_rfl) (by kernel_rfl) (by kernel_rfl) (by kernel_rfl) fun a hF=>e_one 22 (by kernel_rfl) ?_
    obtain ⟨t_7,ht_7,hj1⟩:=bindS hj1
    refine e_callg (vs:=[s2.v,(iV 0),(iV 7)]) hF hS rfl (wanted_t hF rfl rfl rfl hc3) Tryd.func104 (by kernel_rfl) rfl rfl rfl (c_spec_l1All p_g.Groups 0 7 t_7 ht_7 _ m hS.vis s2 h2) ?_
    rintro a w _ rfl hF hS
    refine e_pg (v:=(.bool (!t_7))) 23 hF rfl (ex_not rfl) (wanted_t hF rfl rfl rfl hc3) rfl (by kernel_rfl) (by kernel_rfl) (by kernel_rfl) fun a hF=>e_p (v:=(.bool (!t_7))) 24 hF rfl (ex_pick_f rfl rfl hc3) rfl rfl (by kernel_rfl) (by kernel_rfl) (by kernel_rfl) fun a hF=>e_end (by kernel_rfl) (n_jn ?_) _
    obtain rfl:=someI hj1
    exact ⟨hF.sub ⟨rfl,rfl,trivial⟩,hS⟩
   ·have hj1:=cond_t hc3 hj1
    refine e_skipP 20 hF rfl (wanted_f hF rfl rfl rfl hc3 rfl) rfl (by kernel_rfl) (by kernel_rfl) (by kernel_rfl) fun a hF=>e_skipP 21 hF rfl (wanted_f hF rfl rfl rfl hc3 rfl) rfl (by kernel_rfl) (by kernel_rfl) (by kernel_rfl) fun a hF=>e_skipP 22 hF rfl (wanted_f hF rfl rfl rfl hc3 rfl) rfl (by kernel_rfl) (by kernel_rfl) (by kernel_rfl) fun a hF=>e_skipP 23 hF rfl (wanted_f hF rfl rfl rfl hc3 rfl) rfl (by kernel_rfl) (by kernel_rfl) (by kernel_rfl) fun a hF=>e_p (v:=(.bool true)) 24 hF rfl (ex_pick_t rfl rfl hc3) rfl rfl (by kernel_rfl) (by kernel_rfl) (by kernel_rfl) fun a hF=>e_end (by kernel_rfl) (n_jn ?_) _
    obtain rfl:=someI hj1
    exact ⟨hF.sub ⟨rfl,rfl,trivial⟩,hS⟩
  ·have hj1:=cond_t hc2 hj1
   refine e_skipP 8 hF rfl (wanted_f hF rfl rfl rfl hc2 rfl) rfl (by kernel_rfl) (by kernel_rfl) (by kernel_rfl) fun a hF=>e_skipP 9 hF rfl (wanted_f hF rfl rfl rfl hc2 rfl) rfl (by kernel_rfl) (by kernel_rfl) (by kernel_rfl) fun a hF=>e_skipP 10 hF rfl (wanted_f hF rfl rfl rfl hc2 rfl) rfl (by kernel_rfl) (by kernel_rfl) (by kernel_rfl) fun a hF=>e_skipP 11 hF rfl (wanted_f hF rfl rfl rfl hc2 rfl) rfl (by kernel_rfl) (by kernel_rfl) (by kernel_rfl) fun a hF=>e_skipP 12 hF rfl (wanted_f hF rfl rfl rfl hc2 rfl) rfl (by kernel_rfl) (by kernel_rfl) (by kernel_rfl) fun a hF=>e_skipP 13 hF rfl (wanted_f hF rfl rfl rfl hc2 rfl) rfl (by kernel_rfl) (by kernel_rfl) (by kernel_rfl) fun a hF=>e_skipP 14 hF rfl (wanted_f hF rfl rfl rfl hc2 rfl) rfl (by kernel_rfl) (by kernel_rfl) (by kernel_rfl) fun a hF=>e_skipP 15 hF rfl (wanted_f hF rfl rfl rfl hc2 rfl) rfl (by kernel_rfl) (by kernel_rfl) (by kernel_rfl) fun a hF=>e_skipP 16 hF rfl (wanted_f hF rfl rfl rfl hc2 rfl) rfl (by kernel_rfl) (by kernel_rfl) (by kernel_rfl) fun a hF=>e_skipP 17 hF rfl (wanted_f hF rfl rfl rfl hc2 rfl) rfl (by kernel_rfl) (by kernel_rfl) (by kernel_rfl) fun a hF=>e_p (v:=(.bool true)) 18 hF rfl (ex_pick_t rfl rfl hc2) rfl rfl (by kernel_rfl) (by kernel_rfl) (by kernel_rfl) fun a hF=>e_p (v:=(.bool true)) 19 hF rfl (ex_move rfl) rfl rfl (by kernel_rfl) (by kernel_rfl) (by kernel_rfl) fun a hF=>e_skipP 20 hF rfl (wanted_f hF rfl rfl rfl rfl rfl) rfl (by kernel_rfl) (by kernel_rfl) (by kernel_rfl) fun a hF=>e_skipP 21 hF rfl (wanted_f hF rfl rfl rfl rfl rfl) rfl (by kernel_rfl) (by kernel_rfl) (by kernel_rfl) fun a hF=>e_skipP 22 hF rfl (wanted_f hF rfl rfl rfl rfl rfl) rfl (by kernel_rfl) (by kernel_rfl) (by kernel_rfl) fun a hF=>e_skipP 23 hF rfl (wanted_f hF rfl rfl rfl rfl rfl) rfl (by kernel_rfl) (by kernel_rfl) (by kernel_rfl) fun a hF=>e_p (v:=(.bool true)) 24 hF rfl (ex_pick_t rfl rfl rfl) rfl rfl (by kernel_rfl) (by kernel_rfl) (by kernel_rfl) fun a hF=>e_end (by kernel_rfl) (n_jn ?_) _
   obtain rfl:=someI hj1
   exact ⟨hF.sub ⟨rfl,rfl,trivial⟩,hS⟩
 ·rintro a w ⟨hF,hS⟩
  refine n_sq ?_
  rcases bcase (t_8) with hc4 | hc4
  ·have hr:=cond_f hc4 hr
   refine q_cond_f hF rfl hc4 (q_skipc (n_sq (q_seq (q_region (q_x (v:=nilS.v) hF hS (ex_assign rfl) rfl rfl fun a hF=>q_end (n_sq (q_seq (q_seq (q_region (q_x (v:=(.pointer (some ⟨b3,1,none⟩))) hF hS (ex_fieldAddr Tryd.underlying46 rfl sz42 rfl rfl) rfl rfl fun a hF=>q_x (v:=s2.v) hF hS (ex_load1 0 0 Tryd.underlying42 rfl rfl rfl rfl) rfl rfl fun a hF=>q_x (v:=(iV (goLen p_g.Groups))) hF hS (ex_len Tryd.underlying42 rfl h2.len) rfl rfl fun a hF=>q_x (v:=(iV 0)) hF hS (ex_move rfl) rfl rfl fun a hF=>q_end (n_sq (q_block ?_))))))))))))
   obtain ⟨met_18,hl5,hr⟩:=bindS hr
   refine q_loop (fun (s : (List Int) × Int) a w=>∃ (m12 : Mem),∃ (s10 : Sl),∃ met_9,∃ t_11,s = (met_9,t_11)∧Fr a 61 [(5,s10.v),(34,s2.v),(35,(iV (goLen p_g.Groups))),(36,(iV t_11))]∧St [] w0 w m12 []∧MLe [] w0.heap.size m m12∧Rd m12 s10 met_9) (fun (met_18 : (List Int)) e a w=>∃ (m20 : Mem),∃ (s19 : Sl),e = .exit 0∧Fr a 61 [(5,s19.v)]∧St [] w0 w m20 []∧MLe [] w0.heap.size m m20∧Rd m20 s19 met_18) hl5 ⟨m,nilS,_,_,rfl,hF.sub ⟨rfl,rfl,rfl,rfl,trivial⟩,hS.mask [false],(MLe.refl _ _),(Rd.nil0 (α:=Int) m)⟩ ?_ ?_
   ·clear hF hS
    rintro s a w st ⟨m12,s10,met_9,t_11,rfl,hF,hS,hm12,h10⟩ hb5
    unfold spec_sGroups_l1 at hb5
    refine q_seq (q_region (q_x (v:=(.bool (decide (t_11 < (goLen p_g.Groups))))) hF hS (ex_ibin rfl rfl rfl) rfl rfl fun a hF=>q_end (n_sq (q_seq ?_))))
    rcases bcase (decide (t_11 < (goLen p_g.Groups))) with hc6 | hc6
    ·have hb5:=cond_f hc6 hb5
     refine q_cond_f hF rfl hc6 (q_exit (x_sq ?_))
     obtain rfl:=someI hb5
     exact ⟨nofun,.inl ⟨m12,s10,rfl,hF.sub ⟨rfl,trivial⟩,hS,hm12,h10⟩⟩
    ·have hb5:=cond_t hc6 hb5
     refine q_cond_t hF rfl hc6 (q_skipc (n_sq (q_seq (q_block (q_seq (q_region ?_))))))
     obtain ⟨e_13,he_13,hb5⟩:=bindS hb5
     obtain ⟨vs14,at14,d14⟩:=(h2.mono hm12.le).at he_13 1 rfl
     obtain rfl : vs14 = [(iV e_13)]:=d14
     refine q_x (v:=(elP s2 (t_11.toNat * 1))) hF hS (ex_indexAddr Tryd.underlying42 sz3 rfl rfl ((h2.mono hm12.le).idx he_13)) rfl rfl fun a hF=>q_x (v:=(iV e_13)) hF hS (ex_loadE1 0 Tryd.underlying3 rfl rfl ((at14).at) rfl rfl) rfl rfl fun a hF=>q_x (v:=(iV e_13)) hF hS (ex_assign rfl) rfl rfl fun a hF=>q_end (n_sq (q_region (q_x (v:=s10.v) hF hS (ex_move rfl) rfl rfl fun a hF=>q_x (v:=(iV e_13)) hF hS (ex_move rfl) rfl rfl fun a hF=>?_)))
     obtain ⟨t_15,ht_15,hb5⟩:=bindS hb5
     refine q_call (vs:=[s10.v,(iV e_13)]) hF hS Tryd.func121 (by kernel_rfl) rfl rfl rfl (c_spec_l1Put met_9 e_13 t_15 ht_15 _ m12 hS.vis s10 h10) ?_
     have hT:=hS
     rintro a w _ ⟨m16,s17,rfl,hm16,hR16,h17⟩ hF hS2
     have hS : St _ _ _ _ []:=hS.join hR16 hm16
     have hm16:=MLe.weakX (O0:=[]) hT hm16
     refine q_x (v:=s17.v) hF hS (ex_assign rfl) rfl rfl fun a hF=>q_end (n_ib (n_sq (q_region (q_x (v:=(iV (w64 (t_11 + 1)))) hF hS (ex_ibin rfl rfl rfl) rfl rfl fun a hF=>q_x (v:=(iV (w64 (t_11 + 1)))) hF hS (ex_move rfl) rfl rfl fun a hF=>q_end ?_))))
     obtain rfl:=someI hb5
     exact ⟨rfl,m16,s17,_,_,rfl,hF.sub ⟨rfl,rfl,rfl,rfl,trivial⟩,hS,(hm12.trans hm16),h17⟩
   ·rintro e a w ⟨m20,s19,rfl,hF,hS,hm20,h19⟩
    refine x_ib (n_sq ?_)
    refine q_seq (q_seq ?_)
    obtain ⟨t_23,hj7,hr⟩:=bindS hr
    refine q_join (fun a w=>Fr a 61 [(5,s19.v),(58,(.bool t_23))]∧St [] w0 w m20 []) ?_ ?_
    ·refine q_region (q_x (v:=s19.v) hF hS (ex_move rfl) rfl rfl fun a hF=>q_x (v:=(iV (goLen met_18))) hF hS (ex_len Tryd.underlying42 rfl h19.len) rfl rfl fun a hF=>q_x (v:=(.bool (decide ((goLen met_18) < 2)))) hF hS (ex_ibin rfl rfl rfl) rfl rfl fun a hF=>q_x (v:=(.bool (decide ((goLen met_18) < 2)))) hF hS (ex_move rfl) rfl rfl fun a hF=>?_)
     rcases bcase (decide ((goLen met_18) < 2)) with hc8 | hc8
     ·have hj7:=cond_f hc8 hj7
      refine q_xg (v:=s19.v) hF hS (ex_move rfl) (wanted_t hF rfl rfl rfl hc8) rfl fun a hF=>q_xg (v:=s19.v) hF hS (ex_move rfl) (wanted_t hF rfl rfl rfl hc8) rfl fun a hF=>q_xg (v:=(iV (goLen met_18))) hF hS (ex_len Tryd.underlying42 rfl h19.len) (wanted_t hF rfl rfl rfl hc8) rfl fun a hF=>q_xg (v:=(iV (w64 ((goLen met_18) - 1)))) hF hS (ex_ibin rfl rfl rfl) (wanted_t hF rfl rfl rfl hc8) rfl fun a hF=>?_
      obtain ⟨e_21,he_21,hj7⟩:=bindS hj7
      obtain ⟨vs22,at22,d22⟩:=h19.at he_21 1 rfl
      obtain rfl : vs22 = [(iV e_21)]:=d22
      refine q_xg (v:=(elP s19 ((w64 ((goLen met_18) - 1)).toNat * 1))) hF hS (ex_indexAddr Tryd.underlying42 sz3 rfl rfl (h19.idx he_21)) (wanted_t hF rfl rfl rfl hc8) rfl fun a hF=>q_xg (v:=(iV e_21)) hF hS (ex_loadE1 0 Tryd.underlying3 rfl rfl ((at22).at) rfl rfl) (wanted_t hF rfl rfl rfl hc8) rfl fun a hF=>q_xg (v:=s19.v) hF hS (ex_move rfl) (wanted_t hF rfl rfl rfl hc8) rfl fun a hF=>q_xg (v:=(iV (goLen met_18))) hF hS (ex_len Tryd.underlying42 rfl h19.len) (wanted_t hF rfl rfl rfl hc8) rfl fun a hF=>q_xg (v:=(iV (w64 ((goLen met_18) - 1)))) hF hS (ex_ibin rfl rfl rfl) (wanted_t hF rfl rfl rfl hc8) rfl fun a hF=>q_xg (v:=(.bool (e_21 != (w64 ((goLen met_18) - 1))))) hF hS (ex_ibin rfl rfl rfl) (wanted_t hF rfl rfl rfl hc8) rfl fun a hF=>q_x (v:=(.bool (e_21 != (w64 ((goLen met_18) - 1))))) hF hS (ex_pick_f rfl rfl hc8) rfl rfl fun a hF=>q_end (n_jn ?_)
      obtain rfl:=someI hj7
      exact ⟨hF.sub ⟨rfl,rfl,trivial⟩,hS⟩
     ·have hj7:=cond_t hc8 hj7
      refine q_skip hF (wanted_f hF rfl rfl rfl hc8 rfl) rfl fun a hF=>q_skip hF (wanted_f hF rfl rfl rfl hc8 rfl) rfl fun a hF=>q_skip hF (wanted_f hF rfl rfl rfl hc8 rfl) rfl fun a hF=>q_skip hF (wanted_f hF rfl rfl rfl hc8 rfl) rfl fun a hF=>q_skip hF (wanted_f hF rfl rfl rfl hc8 rfl) rfl fun a hF=>q_skip hF (wanted_f hF rfl rfl rfl hc8 rfl) rfl fun a hF=>q_skip hF (wanted_f hF rfl rfl rfl hc8 rfl) rfl fun a hF=>q_skip hF (wanted_f hF rfl rfl rfl hc8 rfl) rfl fun a hF=>q_skip hF (wanted_f hF rfl rfl rfl hc8 rfl) rfl fun a hF=>q_skip hF (wanted_f hF rfl rfl rfl hc8 rfl) rfl fun a hF=>q_x (v:=(.bool true)) hF hS (ex_pick_t rfl rfl hc8) rfl rfl fun a hF=>q_end (n_jn ?_)
      obtain rfl:=someI hj7
      exact ⟨hF.sub ⟨rfl,rfl,trivial⟩,hS⟩
    ·rintro a w ⟨hF,hS⟩
     refine n_sq ?_
     rcases bcase (t_23) with hc9 | hc9
     ·have hr:=cond_f hc9 hr
      refine q_cond_f hF rfl hc9 (q_skipc (n_sq (q_seq (q_region (q_x (v:=s19.v) hF hS (ex_move rfl) rfl rfl fun a hF=>q_x (v:=(iV (goLen met_18))) hF hS (ex_len Tryd.underlying42 rfl h19.len) rfl rfl fun a hF=>q_x (v:=(iV (goLen met_18))) hF hS (ex_assign rfl) rfl rfl fun a hF=>q_end (n_sq (q_ret ?_)))))))
      obtain rfl:=someI hr
      exact ret_of hF hS rfl (.tmp rfl .nil) rfl
     ·have hr:=cond_t hc9 hr
      refine q_cond_t hF rfl hc9 (q_seq (q_region (q_x (v:=(iV 0)) hF hS (ex_assign rfl) rfl rfl fun a hF=>q_end (n_sq (q_ret (r_sq ?_))))))
      obtain rfl:=someI hr
      exact ret_of hF hS rfl (.tmp rfl .nil) rfl
  ·have hr:=cond_t hc4 hr
   refine q_cond_t hF rfl hc4 (q_seq (q_region (q_x (v:=(iV 0)) hF hS (ex_assign rfl) rfl rfl fun a hF=>q_end (n_sq (q_ret (r_sq ?_))))))
   obtain rfl:=someI hr
   exact ret_of hF hS rfl (.tmp rfl .nil) rfl

theorem c_spec_sFits (p_s : List impl_Variable) (p_values : List Int) (r : Bool) (hr : spec_sFits p_s p_values = some r) (w0 : World) (m : Mem) (hv : Vis m w0) (s1 : Sl) (h1 : Rd m s1 p_s) (s2 : Sl) (h2 : Rd m s2 p_values) :
  Ret Tryd.prog 83 [s1.v,s2.v] w0 (fun v _=>v = (.bool r)):=by
 unfold spec_sFits at hr
 refine ret_start Tryd.func83 rfl 29 rfl rfl m hv fun a hF hS=>q_seq (q_region (q_x (v:=(.bool false)) hF hS (ex_assign rfl) rfl rfl fun a hF=>q_end (n_sq (q_seq (q_seq (q_region (q_x (v:=s2.v) hF hS (ex_move rfl) rfl rfl fun a hF=>q_x (v:=(iV (goLen p_values))) hF hS (ex_len Tryd.underlying42 rfl h2.len) rfl rfl fun a hF=>q_x (v:=s1.v) hF hS (ex_move rfl) rfl rfl fun a hF=>q_x (v:=(iV (goLen p_s))) hF hS (ex_len Tryd.underlying39 rfl h1.len) rfl rfl fun a hF=>q_x (v:=(.bool ((goLen p_values) != (goLen p_s)))) hF hS (ex_ibin rfl rfl rfl) rfl rfl fun a hF=>q_end (n_sq ?_))))))))
 rcases bcase ((goLen p_values) != (goLen p_s)) with hc1 | hc1
 ·have hr:=cond_f hc1 hr
  refine q_cond_f hF rfl hc1 (q_skipc (n_sq (q_seq (q_seq (q_region (q_x (v:=s1.v) hF hS (ex_move rfl) rfl rfl fun a hF=>q_x (v:=(iV (goLen p_s))) hF hS (ex_len Tryd.underlying39 rfl h1.len) rfl rfl fun a hF=>q_x (v:=(iV 0)) hF hS (ex_move rfl) rfl rfl fun a hF=>q_end (n_sq (q_block ?_))))))))
  obtain ⟨o2,hl2,hr⟩:=bindS hr
  refine q_loop (fun (t_3 : Int) a w=>Fr a 29 [(1,s2.v),(12,s1.v),(13,(iV (goLen p_s))),(14,(iV t_3))]∧St [] w0 w m []) (fun (o : (Unit) ⊕ (Bool)) e a w=>o = .inl ()∧e = .exit 0∧Fr a 29 []∧St [] w0 w m []) hl2 ⟨hF.sub ⟨rfl,rfl,rfl,rfl,trivial⟩,hS⟩ ?_ ?_
  ·clear hF hS
   rintro t_3 a w st ⟨hF,hS⟩ hb2
   unfold spec_sFits_l1 at hb2
   refine q_seq (q_region (q_x (v:=(.bool (decide (t_3 < (goLen p_s))))) hF hS (ex_ibin rfl rfl rfl) rfl rfl fun a hF=>q_end (n_sq (q_seq ?_))))
   rcases bcase (decide (t_3 < (goLen p_s))) with hc3 | hc3
   ·have hb2:=cond_f hc3 hb2
    refine q_cond_f hF rfl hc3 (q_exit (x_sq ?_))
    obtain rfl:=someI hb2
    exact ⟨nofun,.inl ⟨rfl,rfl,hF.sub trivial,hS⟩⟩
   ·have hb2:=cond_t hc3 hb2
    refine q_cond_t hF rfl hc3 (q_skipc (n_sq (q_seq (q_block (q_seq (q_region (q_x (v:=(iV t_3)) hF hS (ex_move rfl) rfl rfl fun a hF=>?_)))))))
    obtain ⟨e_4,he_4,hb2⟩:=bindS hb2
    obtain ⟨vs5,at5,d5⟩:=h1.at he_4 2 rfl
    obtain rfl : vs5 = [(strV e_4.Name),(iV e_4.Levels)]:=d5
    refine q_x (v:=(elP s1 (t_3.toNat * 2))) hF hS (ex_indexAddr Tryd.underlying39 sz101 rfl rfl (h1.idx he_4)) rfl rfl fun a hF=>q_x (v:=(.agg #[(strV e_4.Name),(iV e_4.Levels)])) hF hS (ex_loadEA (us:=[(strV e_4.Name),(iV e_4.Levels)]) 0 Tryd.underlying101 rfl sz101 rfl ((at5).at) rfl rfl rfl) rfl rfl fun a hF=>q_alloc (cs:=[(strV ([] : List UInt8)),(iV 0)]) hF hS rfl rfl rfl fun a w b6 hF hS=>q_x (v:=(iV t_3)) hF hS (ex_assign rfl) rfl rfl fun a hF=>q_store (vs:=[(strV e_4.Name),(iV e_4.Levels)]) (cs':=[(strV e_4.Name),(iV e_4.Levels)]) 0 0 hF hS sz101 rfl rfl rfl rfl rfl rfl rfl rfl fun a w hF hS=>q_end (n_sq (q_seq (e_region ⟨[],[]⟩ mixed fun w' hw'=>?_)))
    have hS:=hS.below hw'
    refine e_p (v:=s2.v) 0 hF rfl (ex_move rfl) rfl rfl (by kernel_rfl) (by kernel_rfl) (by kernel_rfl) fun a hF=>e_p (v:=(iV t_3)) 1 hF rfl (ex_move rfl) rfl rfl (by kernel_rfl) (by kernel_rfl) (by kernel_rfl) fun a hF=>?_
    obtain ⟨e_7,he_7,hb2⟩:=bindS hb2
    obtain ⟨vs8,at8,d8⟩:=h2.at he_7 1 rfl
    obtain rfl : vs8 = [(iV e_7)]:=d8
    refine e_p (v:=(elP s2 (t_3.toNat * 1))) 2 hF rfl (ex_indexAddr Tryd.underlying42 sz3 rfl rfl (h2.idx he_7)) rfl rfl (by kernel_rfl) (by kernel_rfl) (by kernel_rfl) fun a hF=>e_x (v:=(iV e_7)) 3 hF hS rfl (ex_loadE1 0 Tryd.underlying3 rfl rfl ((at8).at) rfl rfl) rfl rfl (by kernel_rfl) (by kernel_rfl) (by kernel_rfl) (by kernel_rfl) fun a hF=>e_p (v:=(.pointer (some ⟨b6,1,none⟩))) 4 hF rfl (ex_fieldAddr Tryd.underlying101 rfl sz3 rfl rfl) rfl rfl (by kernel_rfl) (by kernel_rfl) (by kernel_rfl) fun a hF=>e_x (v:=(iV e_4.Levels)) 5 hF hS rfl (ex_load1 0 0 Tryd.underlying3 rfl rfl rfl rfl) rfl rfl (by kernel_rfl) (by kernel_rfl) (by kernel_rfl) (by kernel_rfl) fun a hF=>e_p (v:=(iV (w64 (e_4.Levels - 1)))) 6 hF rfl (ex_ibin rfl rfl rfl) rfl rfl (by kernel_rfl) (by kernel_rfl) (by kernel_rfl) fun a hF=>e_one 7 (by kernel_rfl) ?_
    obtain ⟨t_9,ht_9,hb2⟩:=bindS hb2
    refine e_call (vs:=[(iV e_7),(iV 0),(iV (w64 (e_4.Levels - 1)))]) hF hS rfl Tryd.func62 (by kernel_rfl) rfl rfl rfl (c_spec_l1In e_7 0 (w64 (e_4.Levels - 1)) t_9 ht_9 _ m hS.vis) ?_
    rintro a w _ rfl hF hS
    refine e_p (v:=(.bool (!t_9))) 8 hF rfl (ex_not rfl) rfl rfl (by kernel_rfl) (by kernel_rfl) (by kernel_rfl) fun a hF=>e_end (by kernel_rfl) (n_sq ?_) _
    rcases bcase (!t_9) with hc4 | hc4
    ·have hb2:=cond_f hc4 hb2
     refine q_cond_f hF rfl hc4 (q_skipc (n_ib (n_sq (q_region (q_x (v:=(iV (w64 (t_3 + 1)))) hF hS (ex_ibin rfl rfl rfl) rfl rfl fun a hF=>q_x (v:=(iV (w64 (t_3 + 1)))) hF hS (ex_move rfl) rfl rfl fun a hF=>q_end ?_)))))
     obtain rfl:=someI hb2
     exact ⟨rfl,hF.sub ⟨rfl,rfl,rfl,rfl,trivial⟩,hS.mask [false]⟩
    ·have hb2:=cond_t hc4 hb2
     refine q_cond_t hF rfl hc4 (q_seq (q_region (q_x (v:=(.bool false)) hF hS (ex_assign rfl) rfl rfl fun a hF=>q_end (n_sq (q_ret (r_ib (r_sq ?_)))))))
     obtain rfl:=someI hb2
     refine ⟨nofun,.inr fun ho=>?_⟩
     subst ho
     refine r_ib (r_sq ?_)
     obtain rfl:=someI hr
     exact ret_of hF hS rfl (.tmp rfl .nil) rfl
  ·rintro e a w ⟨rfl,rfl,hF,hS⟩
   refine x_ib (n_sq ?_)
   refine q_seq (q_region (q_x (v:=(.bool true)) hF hS (ex_assign rfl) rfl rfl fun a hF=>q_end (n_sq (q_ret ?_))))
   obtain rfl:=someI hr
   exact ret_of hF hS rfl (.tmp rfl .nil) rfl
 ·have hr:=cond_t hc1 hr
  refine q_cond_t hF rfl hc1 (q_seq (q_region (q_x (v:=(.bool false)) hF hS (ex_assign rfl) rfl rfl fun a hF=>q_end (n_sq (q_ret (r_sq ?_))))))
  obtain rfl:=someI hr
  exact ret_of hF hS rfl (.tmp rfl .nil) rfl

theorem c_spec_l1Own (p_l : List Int) (r : (List Int)) (hr : spec_l1Own p_l = some r) (w0 : World) (m : Mem) (hv : Vis m w0) (s1 : Sl) (h1 : Rd m s1 p_l) :
  Ret Tryd.prog 84 [s1.v] w0 (fun v w=>∃ (q0' : Piece) (s0' : Sl),v = s0'.v∧St [] w0 w m [q0']∧OwnL m 3 q0' s0' r):=by
 unfold spec_l1Own at hr
 refine ret_start Tryd.func84 rfl 6 rfl rfl m hv fun a hF hS=>q_seq (q_region (q_x (v:=nilS.v) hF hS (ex_assign rfl) rfl rfl fun a hF=>q_end (n_sq (q_seq (q_region (q_do rfl fun _ hK=>wp_build0 (α:=Int) hF hS Tryd.underlying42 inf3 rfl fun a w q2 s2 hF hS h2 _=>hK _ _ (q_x (v:=s1.v) hF hS (ex_move rfl) rfl rfl fun a hF=>?_)))))))
 obtain ⟨l_3,hl_3,hr⟩:=bindS hr
 refine q_do rfl fun _ hK=>wp_append hF hS h2 Tryd.underlying42 inf3 rfl rfl rfl rfl (h1.vw hS.vis) rfl (by decide) hl_3 rfl fun a w q4 s4 hF hS h4=>hK _ _ (q_x (v:=s4.v) hF hS (ex_assign rfl) rfl rfl fun a hF=>q_end (n_sq (q_ret ?_)))
 obtain rfl:=someI hr
 exact ret_of hF hS rfl (.tmp rfl .nil) ⟨q4,s4,rfl,hS.sel [0] (by decide),h4⟩

theorem c_spec_GroupValues (p_s : List impl_Variable) (p_g : impl_Grouping) (p_values : List Int) (r : (List Int) × Bool) (hr : spec_GroupValues p_s p_g p_values = some r) (w0 : World) (m : Mem) (hv : Vis m w0) (s1 : Sl) (h1 : Rd m s1 p_s) (s2 : Sl) (h2 : Rd m s2 p_g.Groups) (s3 : Sl) (h3 : Rd m s3 p_values) :
  Ret Tryd.prog 24 [s1.v,(.agg #[(iV p_g.Var),s2.v]),s3.v] w0 (fun v w=>∃ (q0' : Piece) (s0' : Sl),v = (.tuple #[s0'.v,(.bool r.2)])∧St [] w0 w m [q0']∧OwnL m 3 q0' s0' r.1):=by
 unfold spec_GroupValues at hr
 refine ret_start Tryd.func24 rfl 40 rfl rfl m hv fun a hF hS=>q_seq (q_region (q_box (cs:=[(iV p_g.Var),s2.v]) hF hS rfl rfl rfl fun a w b4 hF hS=>q_x (v:=nilS.v) hF hS (ex_assign rfl) rfl rfl fun a hF=>q_x (v:=(.bool false)) hF hS (ex_assign rfl) rfl rfl fun a hF=>q_end (n_sq (q_seq (q_seq ?_)))))
 obtain ⟨t_8,hj1,hr⟩:=bindS hr
 refine q_join (fun a w=>Fr a 40 [(2,s3.v),(4,(.pointer (some ⟨b4,0,none⟩))),(23,(.bool t_8))]∧St [] w0 w m [[⟨b4,[(iV p_g.Var),s2.v],46⟩]]) ?_ ?_
 ·refine q_region (q_x (v:=s1.v) hF hS (ex_move rfl) rfl rfl fun a hF=>?_)
  obtain ⟨t_5,ht_5,hj1⟩:=bindS hj1
  refine q_call (vs:=[s1.v]) hF hS Tryd.func75 (by kernel_rfl) rfl rfl rfl (c_spec_sGood p_s t_5 ht_5 _ m hS.vis s1 h1) ?_
  rintro a w _ rfl hF hS
  refine q_x (v:=(.bool (!t_5))) hF hS (ex_not rfl) rfl rfl fun a hF=>q_x (v:=(.bool (!t_5))) hF hS (ex_move rfl) rfl rfl fun a hF=>?_
  rcases bcase (!t_5) with hc2 | hc2
  ·have hj1:=cond_f hc2 hj1
   refine q_xg (v:=s1.v) hF hS (ex_move rfl) (wanted_t hF rfl rfl rfl hc2) rfl fun a hF=>q_xg (v:=(.agg #[(iV p_g.Var),s2.v])) hF hS (ex_loadA (vs:=[(iV p_g.Var),s2.v]) 0 0 Tryd.underlying46 rfl sz46 rfl rfl rfl rfl) (wanted_t hF rfl rfl rfl hc2) rfl fun a hF=>?_
   obtain ⟨t_6,ht_6,hj1⟩:=bindS hj1
   refine q_callg (vs:=[s1.v,(.agg #[(iV p_g.Var),s2.v])]) hF hS (wanted_t hF rfl rfl rfl hc2) Tryd.func82 (by kernel_rfl) rfl rfl rfl (c_spec_sGroups p_s p_g t_6 ht_6 _ m hS.vis s1 h1 s2 h2) ?_
   rintro a w _ rfl hF hS
   refine q_xg (v:=(.bool (t_6 == 0))) hF hS (ex_ibin rfl rfl rfl) (wanted_t hF rfl rfl rfl hc2) rfl fun a hF=>q_x (v:=(.bool (t_6 == 0))) hF hS (ex_pick_f rfl rfl hc2) rfl rfl fun a hF=>q_x (v:=(.bool (t_6 == 0))) hF hS (ex_move rfl) rfl rfl fun a hF=>?_
   rcases bcase (t_6 == 0) with hc3 | hc3
   ·have hj1:=cond_f hc3 hj1
    refine q_xg (v:=s1.v) hF hS (ex_move rfl) (wanted_t hF rfl rfl rfl hc3) rfl fun a hF=>q_xg (v:=s3.v) hF hS (ex_move rfl) (wanted_t hF rfl rfl rfl hc3) rfl fun a hF=>?_
    obtain ⟨t_7,ht_7,hj1⟩:=bindS hj1
    refine q_callg (vs:=[s1.v,s3.v]) hF hS (wanted_t hF rfl rfl rfl hc3) Tryd.func83 (by kernel_rfl) rfl rfl rfl (c_spec_sFits p_s p_values t_7 ht_7 _ m hS.vis s1 h1 s3 h3) ?_
    rintro a w _ rfl hF hS
    refine q_xg (v:=(.bool (!t_7))) hF hS (ex_not rfl) (wanted_t hF rfl rfl rfl hc3) rfl fun a hF=>q_x (v:=(.bool (!t_7))) hF hS (ex_pick_f rfl rfl hc3) rfl rfl fun a hF=>q_end (n_jn ?_)
    obtain rfl:=someI hj1
    exact ⟨hF.sub ⟨rfl,rfl,rfl,trivial⟩,hS⟩
   ·have hj1:=cond_t hc3 hj1
    refine q_skip hF (wanted_f hF rfl rfl rfl hc3 rfl) rfl fun a hF=>q_skip hF (wanted_f hF rfl rfl rfl hc3 rfl) rfl fun a hF=>q_skip hF (wanted_f hF rfl rfl rfl hc3 rfl) rfl fun a hF=>q_skip hF (wanted_f hF rfl rfl rfl hc3 rfl) rfl fun a hF=>q_x (v:=(.bool true)) hF hS (ex_pick_t rfl rfl hc3) rfl rfl fun a hF=>q_end (n_jn ?_)
    obtain rfl:=someI hj1
    exact ⟨hF.sub ⟨rfl,rfl,rfl,trivial⟩,hS⟩
  ·have hj1:=cond_t hc2 hj1
   refine q_skip hF (wanted_f hF rfl rfl rfl hc2 rfl) rfl fun a hF=>q_skip hF (wanted_f hF rfl rfl rfl hc2 rfl) rfl fun a hF=>q_skip hF (wanted_f hF rfl rfl rfl hc2 rfl) rfl fun a hF=>q_skip hF (wanted_f hF rfl rfl rfl hc2 rfl) rfl fun a hF=>q_x (v:=(.bool true)) hF hS (ex_pick_t rfl rfl hc2) rfl rfl fun a hF=>q_x (v:=(.bool true)) hF hS (ex_move rfl) rfl rfl fun a hF=>q_skip hF (wanted_f hF rfl rfl rfl rfl rfl) rfl fun a hF=>q_skip hF (wanted_f hF rfl rfl rfl rfl rfl) rfl fun a hF=>q_skip hF (wanted_f hF rfl rfl rfl rfl rfl) rfl fun a hF=>q_skip hF (wanted_f hF rfl rfl rfl rfl rfl) rfl fun a hF=>q_x (v:=(.bool true)) hF hS (ex_pick_t rfl rfl rfl) rfl rfl fun a hF=>q_end (n_jn ?_)
   obtain rfl:=someI hj1
   exact ⟨hF.sub ⟨rfl,rfl,rfl,trivial⟩,hS⟩
 ·rintro a w ⟨hF,hS⟩
  refine n_sq ?_
  rcases bcase (t_8) with hc4 | hc4
  ·have hr:=cond_f hc4 hr
   refine q_cond_f hF rfl hc4 (q_skipc (n_sq (q_seq (q_region (q_x (v:=s3.v) hF hS (ex_move rfl) rfl rfl fun a hF=>?_)))))
   obtain ⟨t_9,ht_9,hr⟩:=bindS hr
   refine q_call (vs:=[s3.v]) hF hS Tryd.func84 (by kernel_rfl) rfl rfl rfl (c_spec_l1Own p_values t_9 ht_9 _ m hS.vis s3 h3) ?_
   rintro a w _ ⟨q11,s11,rfl,hR10,h11⟩ hF hS2
   have hS : St _ _ _ _ [q11,[⟨b4,[(iV p_g.Var),s2.v],46⟩]]:=hS.joinF hR10
   refine q_x (v:=s11.v) hF hS (ex_assign rfl) rfl rfl fun a hF=>q_end (n_sq (q_seq (e_region ⟨[13],[b4]⟩ mixed fun w' hw'=>?_)))
   have hS:=hS.below hw'
   refine e_p (v:=s11.v) 0 hF rfl (ex_move rfl) rfl rfl (by kernel_rfl) (by kernel_rfl) (by kernel_rfl) fun a hF=>e_p (v:=(.pointer (some ⟨b4,0,none⟩))) 1 hF rfl (ex_fieldAddr Tryd.underlying46 rfl sz3 rfl rfl) rfl rfl (by kernel_rfl) (by kernel_rfl) (by kernel_rfl) fun a hF=>e_xb (v:=(iV p_g.Var)) 2 1 hF hS (.head _) rfl rfl (ex_load1 0 0 Tryd.underlying3 rfl rfl rfl rfl) rfl rfl (by kernel_rfl) (by kernel_rfl) (by kernel_rfl) fun a hF=>e_p (v:=(.pointer (some ⟨b4,1,none⟩))) 3 hF rfl (ex_fieldAddr Tryd.underlying46 rfl sz42 rfl rfl) rfl rfl (by kernel_rfl) (by kernel_rfl) (by kernel_rfl) fun a hF=>e_xb (v:=s2.v) 4 1 hF hS (.head _) rfl rfl (ex_load1 0 0 Tryd.underlying42 rfl rfl rfl rfl) rfl rfl (by kernel_rfl) (by kernel_rfl) (by kernel_rfl) fun a hF=>e_p (v:=s11.v) 5 hF rfl (ex_move rfl) rfl rfl (by kernel_rfl) (by kernel_rfl) (by kernel_rfl) fun a hF=>e_p (v:=(.pointer (some ⟨b4,0,none⟩))) 6 hF rfl (ex_fieldAddr Tryd.underlying46 rfl sz3 rfl rfl) rfl rfl (by kernel_rfl) (by kernel_rfl) (by kernel_rfl) fun a hF=>e_xb (v:=(iV p_g.Var)) 7 1 hF hS (.head _) rfl rfl (ex_load1 0 0 Tryd.underlying3 rfl rfl rfl rfl) rfl rfl (by kernel_rfl) (by kernel_rfl) (by kernel_rfl) fun a hF=>?_
   obtain ⟨e_12,he_12,hr⟩:=bindS hr
   obtain ⟨vs13,at13,d13⟩:=h11.at he_12 1 rfl
   obtain rfl : vs13 = [(iV e_12)]:=d13
   refine e_p (v:=(elP s11 (p_g.Var.toNat * 1))) 8 hF rfl (ex_indexAddr Tryd.underlying42 sz3 rfl rfl (h11.idx he_12)) rfl rfl (by kernel_rfl) (by kernel_rfl) (by kernel_rfl) fun a hF=>e_x (v:=(iV e_12)) 9 hF hS rfl (ex_loadE1 0 Tryd.underlying3 rfl rfl (at13.at 0 rfl) rfl rfl) rfl rfl (by kernel_rfl) (by kernel_rfl) (by kernel_rfl) (by kernel_rfl) fun a hF=>?_
   obtain ⟨e_14,he_14,hr⟩:=bindS hr
   obtain ⟨vs15,at15,d15⟩:=h2.at he_14 1 rfl
   obtain rfl : vs15 = [(iV e_14)]:=d15
   refine e_p (v:=(elP s2 (e_12.toNat * 1))) 10 hF rfl (ex_indexAddr Tryd.underlying42 sz3 rfl rfl (h2.idx he_14)) rfl rfl (by kernel_rfl) (by kernel_rfl) (by kernel_rfl) fun a hF=>e_x (v:=(iV e_14)) 11 hF hS rfl (ex_loadE1 0 Tryd.underlying3 rfl rfl ((at15).at) rfl rfl) rfl rfl (by kernel_rfl) (by kernel_rfl) (by kernel_rfl) (by kernel_rfl) fun a hF=>?_
   obtain ⟨e_16,he_16,hr⟩:=bindS hr
   obtain ⟨vs17,at17,d17⟩:=h11.at he_16 1 rfl
   obtain rfl : vs17 = [(iV e_16)]:=d17
   refine e_p (v:=(elP s11 (p_g.Var.toNat * 1))) 12 hF rfl (ex_indexAddr Tryd.underlying42 sz3 rfl rfl (h11.idx he_16)) rfl rfl (by kernel_rfl) (by kernel_rfl) (by kernel_rfl) fun a hF=>e_one 13 (by kernel_rfl) ?_
   have hSo:=hS
   refine e_opl rfl rfl rfl fun _ hK=>wp_storeE (e':=e_14) (us:=[(iV e_14)]) (vs:=[(iV e_16)]) 0 hF hS h11 sz3 rfl rfl rfl rfl rfl rfl rfl he_16 at17 rfl rfl rfl fun w q18 hS h18=>hK _ _ (⟨kpC hSo hS 1 1 rfl rfl kpN,?_⟩)
   refine e_end (by kernel_rfl) (n_sq ?_) _
   refine q_seq (q_region (q_x (v:=s11.v) hF hS (ex_move rfl) rfl rfl fun a hF=>q_x (v:=s11.v) hF hS (ex_assign rfl) rfl rfl fun a hF=>q_x (v:=(.bool true)) hF hS (ex_assign rfl) rfl rfl fun a hF=>q_end (n_sq (q_ret ?_))))
   obtain rfl:=someI hr
   exact ret_of hF hS rfl (.tmp rfl (.tmp rfl .nil)) ⟨q18,s11,rfl,hS.sel [0] (by decide),h18⟩
  ·have hr:=cond_t hc4 hr
   refine q_cond_t hF rfl hc4 (q_seq (q_region (q_x (v:=nilS.v) hF hS (ex_assign rfl) rfl rfl fun a hF=>q_x (v:=(.bool false)) hF hS (ex_assign rfl) rfl rfl fun a hF=>q_end (n_sq (q_ret (r_sq ?_))))))
   obtain rfl:=someI hr
   exact ret_of hF hS rfl (.tmp rfl (.tmp rfl .nil)) ⟨[],nilS,rfl,hS.sel [1] (by decide),(OwnL.nil (α:=Int) m 3)⟩

theorem c_laws_qInts (p_a : List Int) (p_b : List Int) (r : Bool) (hr : laws_qInts p_a p_b = some r) (w0 : World) (m : Mem) (hv : Vis m w0) (s1 : Sl) (h1 : Rd m s1 p_a) (s2 : Sl) (h2 : Rd m s2 p_b) :
  Ret Tryd.prog 25 [s1.v,s2.v] w0 (fun v _=>v = (.bool r)):=by
 unfold laws_qInts at hr
 refine ret_start Tryd.func25 rfl 26 rfl rfl m hv fun a hF hS=>q_seq (q_region (q_x (v:=(.bool false)) hF hS (ex_assign rfl) rfl rfl fun a hF=>q_end (n_sq (q_seq (q_seq (q_region (q_x (v:=s1.v) hF hS (ex_move rfl) rfl rfl fun a hF=>q_x (v:=(iV (goLen p_a))) hF hS (ex_len Tryd.underlying42 rfl h1.len) rfl rfl fun a hF=>q_x (v:=s2.v) hF hS (ex_move rfl) rfl rfl fun a hF=>q_x (v:=(iV (goLen p_b))) hF hS (ex_len Tryd.underlying42 rfl h2.len) rfl rfl fun a hF=>q_x (v:=(.bool ((goLen p_a) != (goLen p_b)))) hF hS (ex_ibin rfl rfl rfl) rfl rfl fun a hF=>q_end (n_sq ?_))))))))
 rcases bcase ((goLen p_a) != (goLen p_b)) with hc1 | hc1
 ·have hr:=cond_f hc1 hr
  refine q_cond_f hF rfl hc1 (q_skipc (n_sq (q_seq (q_seq (q_region (q_x (v:=s1.v) hF hS (ex_move rfl) rfl rfl fun a hF=>q_x (v:=(iV (goLen p_a))) hF hS (ex_len Tryd.underlying42 rfl h1.len) rfl rfl fun a hF=>q_x (v:=(iV 0)) hF hS (ex_move rfl) rfl rfl fun a hF=>q_end (n_sq (q_block ?_))))))))
  obtain ⟨o2,hl2,hr⟩:=bindS hr
  refine q_loop (fun (t_3 : Int) a w=>Fr a 26 [(0,s1.v),(1,s2.v),(12,(iV (goLen p_a))),(13,(iV t_3))]∧St [] w0 w m []) (fun (o : (Unit) ⊕ (Bool)) e a w=>o = .inl ()∧e = .exit 0∧Fr a 26 []∧St [] w0 w m []) hl2 ⟨hF.sub ⟨rfl,rfl,rfl,rfl,trivial⟩,hS⟩ ?_ ?_
  ·clear hF hS
   rintro t_3 a w st ⟨hF,hS⟩ hb2
   unfold laws_qInts_l1 at hb2
   refine q_seq (q_region (q_x (v:=(.bool (decide (t_3 < (goLen p_a))))) hF hS (ex_ibin rfl rfl rfl) rfl rfl fun a hF=>q_end (n_sq (q_seq ?_))))
   rcases bcase (decide (t_3 < (goLen p_a))) with hc3 | hc3
   ·have hb2:=cond_f hc3 hb2
    refine q_cond_f hF rfl hc3 (q_exit (x_sq ?_))
    obtain rfl:=someI hb2
    exact ⟨nofun,.inl ⟨rfl,rfl,hF.sub trivial,hS⟩⟩
   ·have hb2:=cond_t hc3 hb2
    refine q_cond_t hF rfl hc3 (q_skipc (n_sq (q_seq (q_block (q_seq (q_region (q_x (v:=(iV t_3)) hF hS (ex_move rfl) rfl rfl fun a hF=>q_x (v:=(iV t_3)) hF hS (ex_assign rfl) rfl rfl fun a hF=>q_end (n_sq (q_seq (e_region ⟨[],[]⟩ mixed fun w' hw'=>?_))))))))))
    have hS:=hS.below hw'
    refine e_p (v:=s1.v) 0 hF rfl (ex_move rfl) rfl rfl (by kernel_rfl) (by kernel_rfl) (by kernel_rfl) fun a hF=>e_p (v:=(iV t_3)) 1 hF rfl (ex_move rfl) rfl rfl (by kernel_rfl) (by kernel_rfl) (by kernel_rfl) fun a hF=>?_
    obtain ⟨e_4,he_4,hb2⟩:=bindS hb2
    obtain ⟨vs5,at5,d5⟩:=h1.at he_4 1 rfl
    obtain rfl : vs5 = [(iV e_4)]:=d5
    refine e_p (v:=(elP s1 (t_3.toNat * 1))) 2 hF rfl (ex_indexAddr Tryd.underlying42 sz3 rfl rfl (h1.idx he_4)) rfl rfl (by kernel_rfl) (by kernel_rfl) (by kernel_rfl) fun a hF=>e_x (v:=(iV e_4)) 3 hF hS rfl (ex_loadE1 0 Tryd.underlying3 rfl rfl ((at5).at) rfl rfl) rfl rfl (by kernel_rfl) (by kernel_rfl) (by kernel_rfl) (by kernel_rfl) fun a hF=>e_p (v:=s2.v) 4 hF rfl (ex_move rfl) rfl rfl (by kernel_rfl) (by kernel_rfl) (by kernel_rfl) fun a hF=>e_p (v:=(iV t_3)) 5 hF rfl (ex_move rfl) rfl rfl (by kernel_rfl) (by kernel_rfl) (by kernel_rfl) fun a hF=>?_
    obtain ⟨e_6,he_6,hb2⟩:=bindS hb2
    obtain ⟨vs7,at7,d7⟩:=h2.at he_6 1 rfl
    obtain rfl : vs7 = [(iV e_6)]:=d7
    refine e_p (v:=(elP s2 (t_3.toNat * 1))) 6 hF rfl (ex_indexAddr Tryd.underlying42 sz3 rfl rfl (h2.idx he_6)) rfl rfl (by kernel_rfl) (by kernel_rfl) (by kernel_rfl) fun a hF=>e_x (v:=(iV e_6)) 7 hF hS rfl (ex_loadE1 0 Tryd.underlying3 rfl rfl ((at7).at) rfl rfl) rfl rfl (by kernel_rfl) (by kernel_rfl) (by kernel_rfl) (by kernel_rfl) fun a hF=>e_p (v:=(.bool (e_4 != e_6))) 8 hF rfl (ex_ibin rfl rfl rfl) rfl rfl (by kernel_rfl) (by kernel_rfl) (by kernel_rfl) fun a hF=>e_end (by kernel_rfl) (n_sq ?_) _
    rcases bcase (e_4 != e_6) with hc4 | hc4
    ·have hb2:=cond_f hc4 hb2
     refine q_cond_f hF rfl hc4 (q_skipc (n_ib (n_sq (q_region (q_x (v:=(iV (w64 (t_3 + 1)))) hF hS (ex_ibin rfl rfl rfl) rfl rfl fun a hF=>q_x (v:=(iV (w64 (t_3 + 1)))) hF hS (ex_move rfl) rfl rfl fun a hF=>q_end ?_)))))
     obtain rfl:=someI hb2
     exact ⟨rfl,hF.sub ⟨rfl,rfl,rfl,rfl,trivial⟩,hS⟩
    ·have hb2:=cond_t hc4 hb2
     refine q_cond_t hF rfl hc4 (q_seq (q_region (q_x (v:=(.bool false)) hF hS (ex_assign rfl) rfl rfl fun a hF=>q_end (n_sq (q_ret (r_ib (r_sq ?_)))))))
     obtain rfl:=someI hb2
     refine ⟨nofun,.inr fun ho=>?_⟩
     subst ho
     refine r_ib (r_sq ?_)
     obtain rfl:=someI hr
     exact ret_of hF hS rfl (.tmp rfl .nil) rfl
  ·rintro e a w ⟨rfl,rfl,hF,hS⟩
   refine x_ib (n_sq ?_)
   refine q_seq (q_region (q_x (v:=(.bool true)) hF hS (ex_assign rfl) rfl rfl fun a hF=>q_end (n_sq (q_ret ?_))))
   obtain rfl:=someI hr
   exact ret_of hF hS rfl (.tmp rfl .nil) rfl
 ·have hr:=cond_t hc1 hr
  refine q_cond_t hF rfl hc1 (q_seq (q_region (q_x (v:=(.bool false)) hF hS (ex_assign rfl) rfl rfl fun a hF=>q_end (n_sq (q_ret (r_sq ?_))))))
  obtain rfl:=someI hr
  exact ret_of hF hS rfl (.tmp rfl .nil) rfl

theorem c_slices_Clone_impl_Variable_impl_Variable (p_s : List impl_Variable) (r : (List impl_Variable)) (hr : slices_Clone_impl_Variable_impl_Variable p_s = some r) (w0 : World) (m : Mem) (hv : Vis m w0) (s1 : Sl) (h1 : Rd m s1 p_s) :
  Ret Tryd.prog 85 [s1.v] w0 (fun v w=>∃ (q0' : Piece) (s0' : Sl),v = s0'.v∧St [] w0 w m [q0']∧OwnL m 101 q0' s0' r):=by
 unfold slices_Clone_impl_Variable_impl_Variable at hr
 refine ret_start Tryd.func85 rfl 8 rfl rfl m hv fun a hF hS=>q_seq (q_region (q_x (v:=nilS.v) hF hS (ex_assign rfl) rfl rfl fun a hF=>q_end (n_sq (q_seq (q_seq (q_region (q_x (v:=s1.v) hF hS (ex_move rfl) rfl rfl fun a hF=>q_x (v:=(.bool s1.p.isNone)) hF hS (ex_eqNil Tryd.underlying39 rfl rfl) rfl rfl fun a hF=>q_end (n_sq ?_))))))))
 rcases bcase (s1.p.isNone) with hc1 | hc1
 ·refine q_cond_f hF rfl hc1 (q_skipc (n_sq (q_seq (q_region (q_do rfl fun _ hK=>wp_build0 (α:=impl_Variable) hF hS Tryd.underlying39 inf101 rfl fun a w q2 s2 hF hS h2 _=>hK _ _ (q_x (v:=s1.v) hF hS (ex_move rfl) rfl rfl fun a hF=>?_))))))
  obtain ⟨l_3,hl_3,hr⟩:=bindS hr
  refine q_do rfl fun _ hK=>wp_append hF hS h2 Tryd.underlying39 inf101 rfl rfl rfl rfl (h1.vw hS.vis) rfl (by decide) hl_3 rfl fun a w q4 s4 hF hS h4=>hK _ _ (q_x (v:=s4.v) hF hS (ex_assign rfl) rfl rfl fun a hF=>q_end (n_sq (q_ret ?_)))
  obtain rfl:=someI hr
  exact ret_of hF hS rfl (.tmp rfl .nil) ⟨q4,s4,rfl,hS.sel [0] (by decide),h4⟩
 ·have hnhc1:=h1.nilE hc1
  have hr : (some ([] : List impl_Variable)) = some r:=by rw [hnhc1] at hr; exact hr
  refine q_cond_t hF rfl hc1 (q_seq (q_region (q_x (v:=nilS.v) hF hS (ex_assign rfl) rfl rfl fun a hF=>q_end (n_sq (q_ret (r_sq ?_))))))
  obtain rfl:=someI hr
  exact ret_of hF hS rfl (.tmp rfl .nil) ⟨[],nilS,rfl,hS.sel [0] (by decide),(OwnL.nil (α:=impl_Variable) m 101)⟩

theorem c_impl_GroupSchema (p_s : List impl_Variable) (p_g : impl_Grouping) (r : (List impl_Variable) × Bool) (hr : impl_GroupSchema p_s p_g = some r) (w0 : World) (m : Mem) (hv : Vis m w0) (s1 : Sl) (h1 : Rd m s1 p_s) (s2 : Sl) (h2 : Rd m s2 p_g.Groups) :
  Ret Tryd.prog 26 [s1.v,(.agg #[(iV p_g.Var),s2.v])] w0 (fun v w=>∃ (q0' : Piece) (s0' : Sl),v = (.tuple #[s0'.v,(.bool r.2)])∧St [] w0 w m [q0']∧OwnL m 101 q0' s0' r.1):=by
 unfold impl_GroupSchema at hr
 refine ret_start Tryd.func26 rfl 27 rfl rfl m hv fun a hF hS=>q_seq (q_region (q_box (cs:=[(iV p_g.Var),s2.v]) hF hS rfl rfl rfl fun a w b3 hF hS=>q_x (v:=nilS.v) hF hS (ex_assign rfl) rfl rfl fun a hF=>q_x (v:=(.bool false)) hF hS (ex_assign rfl) rfl rfl fun a hF=>q_end (n_sq (q_seq (q_seq ?_)))))
 obtain ⟨t_6,hj1,hr⟩:=bindS hr
 refine q_join (fun a w=>Fr a 27 [(0,s1.v),(3,(.pointer (some ⟨b3,0,none⟩))),(15,(.bool t_6))]∧St [] w0 w m [[⟨b3,[(iV p_g.Var),s2.v],46⟩]]) ?_ ?_
 ·refine q_region (q_x (v:=s1.v) hF hS (ex_move rfl) rfl rfl fun a hF=>?_)
  obtain ⟨t_4,ht_4,hj1⟩:=bindS hj1
  refine q_call (vs:=[s1.v]) hF hS Tryd.func72 (by kernel_rfl) rfl rfl rfl (c_impl_IsSchema p_s t_4 ht_4 _ m hS.vis s1 h1) ?_
  rintro a w _ rfl hF hS
  refine q_x (v:=(.bool (!t_4))) hF hS (ex_not rfl) rfl rfl fun a hF=>q_x (v:=(.bool (!t_4))) hF hS (ex_move rfl) rfl rfl fun a hF=>?_
  rcases bcase (!t_4) with hc2 | hc2
  ·have hj1:=cond_f hc2 hj1
   refine q_xg (v:=s1.v) hF hS (ex_move rfl) (wanted_t hF rfl rfl rfl hc2) rfl fun a hF=>q_xg (v:=(.agg #[(iV p_g.Var),s2.v])) hF hS (ex_loadA (vs:=[(iV p_g.Var),s2.v]) 0 0 Tryd.underlying46 rfl sz46 rfl rfl rfl rfl) (wanted_t hF rfl rfl rfl hc2) rfl fun a hF=>?_
   obtain ⟨t_5,ht_5,hj1⟩:=bindS hj1
   refine q_callg (vs:=[s1.v,(.agg #[(iV p_g.Var),s2.v])]) hF hS (wanted_t hF rfl rfl rfl hc2) Tryd.func79 (by kernel_rfl) rfl rfl rfl (c_impl_groupCount p_s p_g t_5 ht_5 _ m hS.vis s1 h1 s2 h2) ?_
   rintro a w _ rfl hF hS
   refine q_xg (v:=(.bool (t_5 == 0))) hF hS (ex_ibin rfl rfl rfl) (wanted_t hF rfl rfl rfl hc2) rfl fun a hF=>q_x (v:=(.bool (t_5 == 0))) hF hS (ex_pick_f rfl rfl hc2) rfl rfl fun a hF=>q_end (n_jn ?_)
   obtain rfl:=someI hj1
   exact ⟨hF.sub ⟨rfl,rfl,rfl,trivial⟩,hS⟩
  ·have hj1:=cond_t hc2 hj1
   refine q_skip hF (wanted_f hF rfl rfl rfl hc2 rfl) rfl fun a hF=>q_skip hF (wanted_f hF rfl rfl rfl hc2 rfl) rfl fun a hF=>q_skip hF (wanted_f hF rfl rfl rfl hc2 rfl) rfl fun a hF=>q_skip hF (wanted_f hF rfl rfl rfl hc2 rfl) rfl fun a hF=>q_x (v:=(.bool true)) hF hS (ex_pick_t rfl rfl hc2) rfl rfl fun a hF=>q_end (n_jn ?_)
   obtain rfl:=someI hj1
   exact ⟨hF.sub ⟨rfl,rfl,rfl,trivial⟩,hS⟩
 ·rintro a w ⟨hF,hS⟩
  refine n_sq ?_
  rcases bcase (t_6) with hc3 | hc3
  ·have hr:=cond_f hc3 hr
   refine q_cond_f hF rfl hc3 (q_skipc (n_sq (q_seq (q_region (q_x (v:=s1.v) hF hS (ex_move rfl) rfl rfl fun a hF=>?_)))))
   obtain ⟨t_7,ht_7,hr⟩:=bindS hr
   refine q_call (vs:=[s1.v]) hF hS Tryd.func85 (by kernel_rfl) rfl rfl rfl (c_slices_Clone_impl_Variable_impl_Variable p_s t_7 ht_7 _ m hS.vis s1 h1) ?_
   rintro a w _ ⟨q9,s9,rfl,hR8,h9⟩ hF hS2
   have hS : St _ _ _ _ [q9,[⟨b3,[(iV p_g.Var),s2.v],46⟩]]:=hS.joinF hR8
   refine q_x (v:=s9.v) hF hS (ex_assign rfl) rfl rfl fun a hF=>q_end (n_sq (q_seq (e_region ⟨[8],[b3]⟩ mixed fun w' hw'=>?_)))
   have hS:=hS.below hw'
   refine e_p (v:=s9.v) 0 hF rfl (ex_move rfl) rfl rfl (by kernel_rfl) (by kernel_rfl) (by kernel_rfl) fun a hF=>e_p (v:=(.pointer (some ⟨b3,0,none⟩))) 1 hF rfl (ex_fieldAddr Tryd.underlying46 rfl sz3 rfl rfl) rfl rfl (by kernel_rfl) (by kernel_rfl) (by kernel_rfl) fun a hF=>e_xb (v:=(iV p_g.Var)) 2 1 hF hS (.head _) rfl rfl (ex_load1 0 0 Tryd.underlying3 rfl rfl rfl rfl) rfl rfl (by kernel_rfl) (by kernel_rfl) (by kernel_rfl) fun a hF=>e_p (v:=s1.v) 3 hF rfl (ex_move rfl) rfl rfl (by kernel_rfl) (by kernel_rfl) (by kernel_rfl) fun a hF=>e_xb (v:=(.agg #[(iV p_g.Var),s2.v])) 4 1 hF hS (.head _) rfl rfl (ex_loadA (vs:=[(iV p_g.Var),s2.v]) 0 0 Tryd.underlying46 rfl sz46 rfl rfl rfl rfl) rfl rfl (by kernel_rfl) (by kernel_rfl) (by kernel_rfl) fun a hF=>e_one 5 (by kernel_rfl) ?_
   obtain ⟨t_10,ht_10,hr⟩:=bindS hr
   refine e_call (vs:=[s1.v,(.agg #[(iV p_g.Var),s2.v])]) hF hS rfl Tryd.func79 (by kernel_rfl) rfl rfl rfl (c_impl_groupCount p_s p_g t_10 ht_10 _ m hS.vis s1 h1 s2 h2) ?_
   rintro a w _ rfl hF hS
   obtain ⟨e_11,he_11,hr⟩:=bindS hr
   obtain ⟨vs12,at12,d12⟩:=h9.at he_11 2 rfl
   obtain rfl : vs12 = [(strV e_11.Name),(iV e_11.Levels)]:=d12
   refine e_p (v:=(elP s9 (p_g.Var.toNat * 2))) 6 hF rfl (ex_indexAddr Tryd.underlying39 sz101 rfl rfl (h9.idx he_11)) rfl rfl (by kernel_rfl) (by kernel_rfl) (by kernel_rfl) fun a hF=>e_p (v:=(elP s9 (p_g.Var.toNat * 2 + 1))) 7 hF rfl (ex_fieldAddrE Tryd.underlying101 rfl sz3 rfl (h9.idx he_11) rfl) rfl rfl (by kernel_rfl) (by kernel_rfl) (by kernel_rfl) fun a hF=>e_one 8 (by kernel_rfl) ?_
   have hSo:=hS
   refine e_opl rfl rfl rfl fun _ hK=>wp_storeE (e':=(impl_Variable.mk e_11.Name t_10)) (us:=[(iV t_10)]) (vs:=[(strV e_11.Name),(iV e_11.Levels)]) 1 hF hS h9 sz3 rfl rfl rfl rfl rfl rfl rfl he_11 at12 rfl rfl rfl fun w q13 hS h13=>hK _ _ (⟨kpC hSo hS 1 1 rfl rfl kpN,?_⟩)
   refine e_end (by kernel_rfl) (n_sq ?_) _
   refine q_seq (q_region (q_x (v:=s9.v) hF hS (ex_move rfl) rfl rfl fun a hF=>q_x (v:=s9.v) hF hS (ex_assign rfl) rfl rfl fun a hF=>q_x (v:=(.bool true)) hF hS (ex_assign rfl) rfl rfl fun a hF=>q_end (n_sq (q_ret ?_))))
   obtain rfl:=someI hr
   exact ret_of hF hS rfl (.tmp rfl (.tmp rfl .nil)) ⟨q13,s9,rfl,hS.sel [0] (by decide),h13⟩
  ·have hr:=cond_t hc3 hr
   refine q_cond_t hF rfl hc3 (q_seq (q_region (q_x (v:=nilS.v) hF hS (ex_assign rfl) rfl rfl fun a hF=>q_x (v:=(.bool false)) hF hS (ex_assign rfl) rfl rfl fun a hF=>q_end (n_sq (q_ret (r_sq ?_))))))
   obtain rfl:=someI hr
   exact ret_of hF hS rfl (.tmp rfl (.tmp rfl .nil)) ⟨[],nilS,rfl,hS.sel [1] (by decide),(OwnL.nil (α:=impl_Variable) m 101)⟩

theorem c_impl_indexOfValues (p_s : List impl_Variable) (p_values : List Int) (r : Int) (hr : impl_indexOfValues p_s p_values = some r) (w0 : World) (m : Mem) (hv : Vis m w0) (s1 : Sl) (h1 : Rd m s1 p_s) (s2 : Sl) (h2 : Rd m s2 p_values) :
  Ret Tryd.prog 86 [s1.v,s2.v] w0 (fun v _=>v = (iV r)):=by
 unfold impl_indexOfValues at hr
 refine ret_start Tryd.func86 rfl 26 rfl rfl m hv fun a hF hS=>q_seq (q_region (q_x (v:=(iV 0)) hF hS (ex_assign rfl) rfl rfl fun a hF=>q_end (n_sq (q_seq (q_region (q_x (v:=(iV 0)) hF hS (ex_assign rfl) rfl rfl fun a hF=>q_end (n_sq (q_seq (q_seq (q_region (q_x (v:=s2.v) hF hS (ex_move rfl) rfl rfl fun a hF=>q_x (v:=(iV (goLen p_values))) hF hS (ex_len Tryd.underlying42 rfl h2.len) rfl rfl fun a hF=>q_x (v:=(iV 0)) hF hS (ex_move rfl) rfl rfl fun a hF=>q_end (n_sq (q_block ?_)))))))))))))
 obtain ⟨i_9,hl1,hr⟩:=bindS hr
 refine q_loop (fun (s : Int × Int) a w=>∃ i_3,∃ t_4,s = (i_3,t_4)∧Fr a 26 [(0,s1.v),(5,(iV i_3)),(8,s2.v),(9,(iV (goLen p_values))),(10,(iV t_4))]∧St [] w0 w m []) (fun (i_9 : Int) e a w=>e = .exit 0∧Fr a 26 [(5,(iV i_9))]∧St [] w0 w m []) hl1 ⟨_,_,rfl,hF.sub ⟨rfl,rfl,rfl,rfl,rfl,trivial⟩,hS⟩ ?_ ?_
 ·clear hF hS
  rintro s a w st ⟨i_3,t_4,rfl,hF,hS⟩ hb1
  unfold impl_indexOfValues_l1 at hb1
  refine q_seq (q_region (q_x (v:=(.bool (decide (t_4 < (goLen p_values))))) hF hS (ex_ibin rfl rfl rfl) rfl rfl fun a hF=>q_end (n_sq (q_seq ?_))))
  rcases bcase (decide (t_4 < (goLen p_values))) with hc2 | hc2
  ·have hb1:=cond_f hc2 hb1
   refine q_cond_f hF rfl hc2 (q_exit (x_sq ?_))
   obtain rfl:=someI hb1
   exact ⟨nofun,.inl ⟨rfl,hF.sub ⟨rfl,trivial⟩,hS⟩⟩
  ·have hb1:=cond_t hc2 hb1
   refine q_cond_t hF rfl hc2 (q_skipc (n_sq (q_seq (q_block (q_seq (q_region (q_x (v:=(iV t_4)) hF hS (ex_move rfl) rfl rfl fun a hF=>?_)))))))
   obtain ⟨e_5,he_5,hb1⟩:=bindS hb1
   obtain ⟨vs6,at6,d6⟩:=h2.at he_5 1 rfl
   obtain rfl : vs6 = [(iV e_5)]:=d6
   refine q_x (v:=(elP s2 (t_4.toNat * 1))) hF hS (ex_indexAddr Tryd.underlying42 sz3 rfl rfl (h2.idx he_5)) rfl rfl fun a hF=>q_x (v:=(iV e_5)) hF hS (ex_loadE1 0 Tryd.underlying3 rfl rfl ((at6).at) rfl rfl) rfl rfl fun a hF=>q_x (v:=(iV t_4)) hF hS (ex_assign rfl) rfl rfl fun a hF=>q_x (v:=(iV e_5)) hF hS (ex_assign rfl) rfl rfl fun a hF=>q_end (n_sq (q_region (q_x (v:=(iV i_3)) hF hS (ex_move rfl) rfl rfl fun a hF=>q_x (v:=s1.v) hF hS (ex_move rfl) rfl rfl fun a hF=>q_x (v:=(iV t_4)) hF hS (ex_move rfl) rfl rfl fun a hF=>?_)))
   obtain ⟨e_7,he_7,hb1⟩:=bindS hb1
   obtain ⟨vs8,at8,d8⟩:=h1.at he_7 2 rfl
   obtain rfl : vs8 = [(strV e_7.Name),(iV e_7.Levels)]:=d8
   refine q_x (v:=(elP s1 (t_4.toNat * 2))) hF hS (ex_indexAddr Tryd.underlying39 sz101 rfl rfl (h1.idx he_7)) rfl rfl fun a hF=>q_x (v:=(elP s1 (t_4.toNat * 2 + 1))) hF hS (ex_fieldAddrE Tryd.underlying101 rfl sz3 rfl (h1.idx he_7) rfl) rfl rfl fun a hF=>q_x (v:=(iV e_7.Levels)) hF hS (ex_loadE1 1 Tryd.underlying3 rfl rfl ((at8).at) rfl rfl) rfl rfl fun a hF=>q_x (v:=(iV (w64 (i_3 * e_7.Levels)))) hF hS (ex_ibin rfl rfl rfl) rfl rfl fun a hF=>q_x (v:=(iV e_5)) hF hS (ex_move rfl) rfl rfl fun a hF=>q_x (v:=(iV (w64 ((w64 (i_3 * e_7.Levels)) + e_5)))) hF hS (ex_ibin rfl rfl rfl) rfl rfl fun a hF=>q_x (v:=(iV (w64 ((w64 (i_3 * e_7.Levels)) + e_5)))) hF hS (ex_assign rfl) rfl rfl fun a hF=>q_end (n_ib (n_sq (q_region (q_x (v:=(iV (w64 (t_4 + 1)))) hF hS (ex_ibin rfl rfl rfl) rfl rfl fun a hF=>q_x (v:=(iV (w64 (t_4 + 1)))) hF hS (ex_move rfl) rfl rfl fun a hF=>q_end ?_))))
   obtain rfl:=someI hb1
   exact ⟨rfl,_,_,rfl,hF.sub ⟨rfl,rfl,rfl,rfl,rfl,trivial⟩,hS⟩
 ·rintro e a w ⟨rfl,hF,hS⟩
  refine x_ib (n_sq ?_)
  refine q_seq (q_region (q_x (v:=(iV i_9)) hF hS (ex_move rfl) rfl rfl fun a hF=>q_x (v:=(iV i_9)) hF hS (ex_assign rfl) rfl rfl fun a hF=>q_end (n_sq (q_ret ?_))))
  obtain rfl:=someI hr
  exact ret_of hF hS rfl (.tmp rfl .nil) rfl

theorem c_impl_CombinationIndex (p_s : List impl_Variable) (p_values : List Int) (r : Int × Bool) (hr : impl_CombinationIndex p_s p_values = some r) (w0 : World) (m : Mem) (hv : Vis m w0) (s1 : Sl) (h1 : Rd m s1 p_s) (s2 : Sl) (h2 : Rd m s2 p_values) :
  Ret Tryd.prog 27 [s1.v,s2.v] w0 (fun v _=>v = (.tuple #[(iV r.1),(.bool r.2)])):=by
 unfold impl_CombinationIndex at hr
 refine ret_start Tryd.func27 rfl 18 rfl rfl m hv fun a hF hS=>q_seq (q_region (q_x (v:=(iV 0)) hF hS (ex_assign rfl) rfl rfl fun a hF=>q_x (v:=(.bool false)) hF hS (ex_assign rfl) rfl rfl fun a hF=>q_end (n_sq (q_seq (q_seq ?_)))))
 obtain ⟨t_5,hj1,hr⟩:=bindS hr
 refine q_join (fun a w=>Fr a 18 [(0,s1.v),(1,s2.v),(14,(.bool t_5))]∧St [] w0 w m []) ?_ ?_
 ·refine q_region (q_x (v:=s1.v) hF hS (ex_move rfl) rfl rfl fun a hF=>?_)
  obtain ⟨t_3,ht_3,hj1⟩:=bindS hj1
  refine q_call (vs:=[s1.v]) hF hS Tryd.func72 (by kernel_rfl) rfl rfl rfl (c_impl_IsSchema p_s t_3 ht_3 _ m hS.vis s1 h1) ?_
  rintro a w _ rfl hF hS
  refine q_x (v:=(.bool (!t_3))) hF hS (ex_not rfl) rfl rfl fun a hF=>q_x (v:=(.bool (!t_3))) hF hS (ex_move rfl) rfl rfl fun a hF=>?_
  rcases bcase (!t_3) with hc2 | hc2
  ·have hj1:=cond_f hc2 hj1
   refine q_xg (v:=s1.v) hF hS (ex_move rfl) (wanted_t hF rfl rfl rfl hc2) rfl fun a hF=>q_xg (v:=s2.v) hF hS (ex_move rfl) (wanted_t hF rfl rfl rfl hc2) rfl fun a hF=>?_
   obtain ⟨t_4,ht_4,hj1⟩:=bindS hj1
   refine q_callg (vs:=[s1.v,s2.v]) hF hS (wanted_t hF rfl rfl rfl hc2) Tryd.func80 (by kernel_rfl) rfl rfl rfl (c_impl_areValues p_s p_values t_4 ht_4 _ m hS.vis s1 h1 s2 h2) ?_
   rintro a w _ rfl hF hS
   refine q_xg (v:=(.bool (!t_4))) hF hS (ex_not rfl) (wanted_t hF rfl rfl rfl hc2) rfl fun a hF=>q_x (v:=(.bool (!t_4))) hF hS (ex_pick_f rfl rfl hc2) rfl rfl fun a hF=>q_end (n_jn ?_)
   obtain rfl:=someI hj1
   exact ⟨hF.sub ⟨rfl,rfl,rfl,trivial⟩,hS⟩
  ·have hj1:=cond_t hc2 hj1
   refine q_skip hF (wanted_f hF rfl rfl rfl hc2 rfl) rfl fun a hF=>q_skip hF (wanted_f hF rfl rfl rfl hc2 rfl) rfl fun a hF=>q_skip hF (wanted_f hF rfl rfl rfl hc2 rfl) rfl fun a hF=>q_skip hF (wanted_f hF rfl rfl rfl hc2 rfl) rfl fun a hF=>q_x (v:=(.bool true)) hF hS (ex_pick_t rfl rfl hc2) rfl rfl fun a hF=>q_end (n_jn ?_)
   obtain rfl:=someI hj1
   exact ⟨hF.sub ⟨rfl,rfl,rfl,trivial⟩,hS⟩
 ·rintro a w ⟨hF,hS⟩
  refine n_sq ?_
  rcases bcase (t_5) with hc3 | hc3
  ·have hr:=cond_f hc3 hr
   refine q_cond_f hF rfl hc3 (q_skipc (n_sq (q_seq (q_region (q_x (v:=s1.v) hF hS (ex_move rfl) rfl rfl fun a hF=>q_x (v:=s2.v) hF hS (ex_move rfl) rfl rfl fun a hF=>?_)))))
   obtain ⟨t_6,ht_6,hr⟩:=bindS hr
   refine q_call (vs:=[s1.v,s2.v]) hF hS Tryd.func86 (by kernel_rfl) rfl rfl rfl (c_impl_indexOfValues p_s p_values t_6 ht_6 _ m hS.vis s1 h1 s2 h2) ?_
   rintro a w _ rfl hF hS
   refine q_x (v:=(iV t_6)) hF hS (ex_assign rfl) rfl rfl fun a hF=>q_x (v:=(.bool true)) hF hS (ex_assign rfl) rfl rfl fun a hF=>q_end (n_sq (q_ret ?_))
   obtain rfl:=someI hr
   exact ret_of hF hS rfl (.tmp rfl (.tmp rfl .nil)) rfl
  ·have hr:=cond_t hc3 hr
   refine q_cond_t hF rfl hc3 (q_seq (q_region (q_x (v:=(iV 0)) hF hS (ex_assign rfl) rfl rfl fun a hF=>q_x (v:=(.bool false)) hF hS (ex_assign rfl) rfl rfl fun a hF=>q_end (n_sq (q_ret (r_sq ?_))))))
   obtain rfl:=someI hr
   exact ret_of hF hS rfl (.tmp rfl (.tmp rfl .nil)) rfl

theorem c_impl_CombinationCount (p_s : List impl_Variable) (r : Int × Bool) (hr : impl_CombinationCount p_s = some r) (w0 : World) (m : Mem) (hv : Vis m w0) (s1 : Sl) (h1 : Rd m s1 p_s) :
  Ret Tryd.prog 28 [s1.v] w0 (fun v _=>v = (.tuple #[(iV r.1),(.bool r.2)])):=by
 unfold impl_CombinationCount at hr
 refine ret_start Tryd.func28 rfl 9 rfl rfl m hv fun a hF hS=>q_seq (q_region (q_x (v:=(iV 0)) hF hS (ex_assign rfl) rfl rfl fun a hF=>q_x (v:=(.bool false)) hF hS (ex_assign rfl) rfl rfl fun a hF=>q_end (n_sq (q_seq (q_seq (q_region (q_x (v:=s1.v) hF hS (ex_move rfl) rfl rfl fun a hF=>?_)))))))
 obtain ⟨t_2,ht_2,hr⟩:=bindS hr
 refine q_call (vs:=[s1.v]) hF hS Tryd.func72 (by kernel_rfl) rfl rfl rfl (c_impl_IsSchema p_s t_2 ht_2 _ m hS.vis s1 h1) ?_
 rintro a w _ rfl hF hS
 refine q_x (v:=(.bool (!t_2))) hF hS (ex_not rfl) rfl rfl fun a hF=>q_end (n_sq ?_)
 rcases bcase (!t_2) with hc1 | hc1
 ·have hr:=cond_f hc1 hr
  refine q_cond_f hF rfl hc1 (q_skipc (n_sq (q_seq (q_region (q_x (v:=s1.v) hF hS (ex_move rfl) rfl rfl fun a hF=>?_)))))
  obtain ⟨t_3,ht_3,hr⟩:=bindS hr
  refine q_call (vs:=[s1.v]) hF hS Tryd.func73 (by kernel_rfl) rfl rfl rfl (c_impl_combinations p_s t_3 ht_3 _ m hS.vis s1 h1) ?_
  rintro a w _ rfl hF hS
  refine q_x (v:=(iV t_3)) hF hS (ex_assign rfl) rfl rfl fun a hF=>q_x (v:=(.bool true)) hF hS (ex_assign rfl) rfl rfl fun a hF=>q_end (n_sq (q_ret ?_))
  obtain rfl:=someI hr
  exact ret_of hF hS rfl (.tmp rfl (.tmp rfl .nil)) rfl
 ·have hr:=cond_t hc1 hr
  refine q_cond_t hF rfl hc1 (q_seq (q_region (q_x (v:=(iV 0)) hF hS (ex_assign rfl) rfl rfl fun a hF=>q_x (v:=(.bool false)) hF hS (ex_assign rfl) rfl rfl fun a hF=>q_end (n_sq (q_ret (r_sq ?_))))))
  obtain rfl:=someI hr
  exact ret_of hF hS rfl (.tmp rfl (.tmp rfl .nil)) rfl

theorem c_impl_schemaText (p_s : List impl_Variable) (r : (List UInt8)) (hr : impl_schemaText p_s = some r) (w0 : World) (m : Mem) (hv : Vis m w0) (ht : Tbl m) (s1 : Sl) (h1 : Rd m s1 p_s) :
  Ret Tryd.prog 87 [s1.v] w0 (fun v _=>v = (strV r)):=by
 unfold impl_schemaText at hr
 refine ret_start Tryd.func87 rfl 29 rfl rfl m hv fun a hF hS=>q_seq (q_region (q_x (v:=(strV ([] : List UInt8))) hF hS (ex_assign rfl) rfl rfl fun a hF=>q_end (n_sq (q_seq (q_region (q_x (v:=s1.v) hF hS (ex_move rfl) rfl rfl fun a hF=>q_x (v:=(iV (goLen p_s))) hF hS (ex_len Tryd.underlying39 rfl h1.len) rfl rfl fun a hF=>?_))))))
 obtain ⟨l_2,hl_2,hr⟩:=bindS hr
 refine q_do rfl fun _ hK=>wp_make (z:=(([] : List UInt8) : List UInt8)) hF hS Tryd.underlying119 inf9 rfl rfl rfl rfl rfl (by decide) hl_2 rfl fun a w q3 s3 hF hS h3 _=>hK _ _ (q_x (v:=s3.v) hF hS (ex_assign rfl) rfl rfl fun a hF=>q_end (n_sq (q_seq (q_seq (q_region (q_x (v:=s1.v) hF hS (ex_move rfl) rfl rfl fun a hF=>q_x (v:=(iV (goLen p_s))) hF hS (ex_len Tryd.underlying39 rfl h1.len) rfl rfl fun a hF=>q_x (v:=(iV 0)) hF hS (ex_move rfl) rfl rfl fun a hF=>q_end (n_sq (q_block ?_))))))))
 obtain ⟨parts_16,hl1,hr⟩:=bindS hr
 refine q_loop (fun (s : (List (List UInt8)) × Int) a w=>∃ (q5 : Piece),∃ parts_4,∃ t_6,s = (parts_4,t_6)∧Fr a 29 [(3,s3.v),(9,s1.v),(10,(iV (goLen p_s))),(11,(iV t_6))]∧St [] w0 w m [q5]∧OwnL m 9 q5 s3 parts_4) (fun (parts_16 : (List (List UInt8))) e a w=>∃ (q17 : Piece),e = .exit 0∧Fr a 29 [(3,s3.v)]∧St [] w0 w m [q17]∧OwnL m 9 q17 s3 parts_16) hl1 ⟨q3,_,_,rfl,hF.sub ⟨rfl,rfl,rfl,rfl,trivial⟩,hS,h3⟩ ?_ ?_
 ·clear hF hS
  rintro s a w st ⟨q5,parts_4,t_6,rfl,hF,hS,h5⟩ hb1
  unfold impl_schemaText_l1 at hb1
  refine q_seq (q_region (q_x (v:=(.bool (decide (t_6 < (goLen p_s))))) hF hS (ex_ibin rfl rfl rfl) rfl rfl fun a hF=>q_end (n_sq (q_seq ?_))))
  rcases bcase (decide (t_6 < (goLen p_s))) with hc2 | hc2
  ·have hb1:=cond_f hc2 hb1
   refine q_cond_f hF rfl hc2 (q_exit (x_sq ?_))
   obtain rfl:=someI hb1
   exact ⟨nofun,.inl ⟨q5,rfl,hF.sub ⟨rfl,trivial⟩,hS,h5⟩⟩
  ·have hb1:=cond_t hc2 hb1
   refine q_cond_t hF rfl hc2 (q_skipc (n_sq (q_seq (q_block (q_seq (q_region (q_x (v:=(iV t_6)) hF hS (ex_move rfl) rfl rfl fun a hF=>?_)))))))
   obtain ⟨e_7,he_7,hb1⟩:=bindS hb1
   obtain ⟨vs8,at8,d8⟩:=h1.at he_7 2 rfl
   obtain rfl : vs8 = [(strV e_7.Name),(iV e_7.Levels)]:=d8
   refine q_x (v:=(elP s1 (t_6.toNat * 2))) hF hS (ex_indexAddr Tryd.underlying39 sz101 rfl rfl (h1.idx he_7)) rfl rfl fun a hF=>q_x (v:=(.agg #[(strV e_7.Name),(iV e_7.Levels)])) hF hS (ex_loadEA (us:=[(strV e_7.Name),(iV e_7.Levels)]) 0 Tryd.underlying101 rfl sz101 rfl ((at8).at) rfl rfl rfl) rfl rfl fun a hF=>q_alloc (cs:=[(strV ([] : List UInt8)),(iV 0)]) hF hS rfl rfl rfl fun a w b9 hF hS=>q_x (v:=(iV t_6)) hF hS (ex_assign rfl) rfl rfl fun a hF=>q_store (vs:=[(strV e_7.Name),(iV e_7.Levels)]) (cs':=[(strV e_7.Name),(iV e_7.Levels)]) 0 0 hF hS sz101 rfl rfl rfl rfl rfl rfl rfl rfl fun a w hF hS=>q_end (n_sq (e_region ⟨[10],[b9]⟩ mixed fun w' hw'=>?_))
   have hS:=hS.below hw'
   refine e_p (v:=s3.v) 0 hF rfl (ex_move rfl) rfl rfl (by kernel_rfl) (by kernel_rfl) (by kernel_rfl) fun a hF=>e_p (v:=(iV t_6)) 1 hF rfl (ex_move rfl) rfl rfl (by kernel_rfl) (by kernel_rfl) (by kernel_rfl) fun a hF=>e_p (v:=(.pointer (some ⟨b9,0,none⟩))) 2 hF rfl (ex_fieldAddr Tryd.underlying101 rfl sz9 rfl rfl) rfl rfl (by kernel_rfl) (by kernel_rfl) (by kernel_rfl) fun a hF=>e_xb (v:=(strV e_7.Name)) 3 0 hF hS (.head _) rfl rfl (ex_load1 0 0 Tryd.underlying9 rfl rfl rfl rfl) rfl rfl (by kernel_rfl) (by kernel_rfl) (by kernel_rfl) fun a hF=>?_
   obtain ⟨t_10,ht_10,hb1⟩:=bindS hb1
   refine e_p (v:=(strV t_10)) 4 hF rfl (ex_strCat rfl rfl ht_10) rfl rfl (by kernel_rfl) (by kernel_rfl) (by kernel_rfl) fun a hF=>e_p (v:=(.pointer (some ⟨b9,1,none⟩))) 5 hF rfl (ex_fieldAddr Tryd.underlying101 rfl sz3 rfl rfl) rfl rfl (by kernel_rfl) (by kernel_rfl) (by kernel_rfl) fun a hF=>e_xb (v:=(iV e_7.Levels)) 6 0 hF hS (.head _) rfl rfl (ex_load1 0 0 Tryd.underlying3 rfl rfl rfl rfl) rfl rfl (by kernel_rfl) (by kernel_rfl) (by kernel_rfl) fun a hF=>e_one 7 (by kernel_rfl) ?_
   obtain ⟨t_11,ht_11,hb1⟩:=bindS hb1
   refine e_call (vs:=[(iV e_7.Levels)]) hF hS rfl Tryd.func68 (by kernel_rfl) rfl rfl rfl (c_strconv_Itoa e_7.Levels t_11 ht_11 _ m hS.vis ht) ?_
   rintro a w _ rfl hF hS
   obtain ⟨t_12,ht_12,hb1⟩:=bindS hb1
   refine e_p (v:=(strV t_12)) 8 hF rfl (ex_strCat rfl rfl ht_12) rfl rfl (by kernel_rfl) (by kernel_rfl) (by kernel_rfl) fun a hF=>?_
   obtain ⟨e_13,he_13,hb1⟩:=bindS hb1
   obtain ⟨vs14,at14,d14⟩:=h5.at he_13 1 rfl
   obtain rfl : vs14 = [(strV e_13)]:=d14
   refine e_p (v:=(elP s3 (t_6.toNat * 1))) 9 hF rfl (ex_indexAddr Tryd.underlying119 sz9 rfl rfl (h5.idx he_13)) rfl rfl (by kernel_rfl) (by kernel_rfl) (by kernel_rfl) fun a hF=>e_one 10 (by kernel_rfl) ?_
   have hS : St _ _ _ _ [q5,[⟨b9,[(strV e_7.Name),(iV e_7.Levels)],101⟩]]:=hS.sel [1,0] (by decide)
   have hSo:=hS
   refine e_opl rfl rfl rfl fun _ hK=>wp_storeE (e':=t_12) (us:=[(strV t_12)]) (vs:=[(strV e_13)]) 0 hF hS h5 sz9 rfl rfl rfl rfl rfl rfl rfl he_13 at14 rfl rfl rfl fun w q15 hS h15=>hK _ _ (⟨kpC hSo hS 1 1 rfl rfl kpN,?_⟩)
   refine e_end (by kernel_rfl) (n_ib (n_sq ?_)) _
   refine q_region (q_x (v:=(iV (w64 (t_6 + 1)))) hF hS (ex_ibin rfl rfl rfl) rfl rfl fun a hF=>q_x (v:=(iV (w64 (t_6 + 1)))) hF hS (ex_move rfl) rfl rfl fun a hF=>q_end ?_)
   obtain rfl:=someI hb1
   exact ⟨rfl,q15,_,_,rfl,hF.sub ⟨rfl,rfl,rfl,rfl,trivial⟩,hS.mask [true,false],h15⟩
 ·rintro e a w ⟨q17,rfl,hF,hS,h17⟩
  refine x_ib (n_sq ?_)
  refine q_seq (q_region (q_x (v:=s3.v) hF hS (ex_move rfl) rfl rfl fun a hF=>?_))
  obtain ⟨m19,hl19,hv19,hz19⟩:=hS.lend
  obtain ⟨t_18,ht_18,hr⟩:=bindS hr
  refine q_call (vs:=[s3.v,(strV ([44] : List UInt8))]) hF hS Tryd.func122 (by kernel_rfl) rfl rfl rfl (c_strings_Join parts_16 ([44] : List UInt8) t_18 ht_18 _ m19 hv19 s3 (h17.froz hl19 (hz19 0 _ rfl))) ?_
  rintro a w _ rfl hF hS
  refine q_x (v:=(strV t_18)) hF hS (ex_assign rfl) rfl rfl fun a hF=>q_end (n_sq (q_ret ?_))
  obtain rfl:=someI hr
  exact ret_of hF hS rfl (.tmp rfl .nil) rfl

theorem c_impl_SchemaText (p_s : List impl_Variable) (r : (List UInt8) × Bool) (hr : impl_SchemaText p_s = some r) (w0 : World) (m : Mem) (hv : Vis m w0) (ht : Tbl m) (s1 : Sl) (h1 : Rd m s1 p_s) :
  Ret Tryd.prog 29 [s1.v] w0 (fun v _=>v = (.tuple #[(strV r.1),(.bool r.2)])):=by
 unfold impl_SchemaText at hr
 refine ret_start Tryd.func29 rfl 9 rfl rfl m hv fun a hF hS=>q_seq (q_region (q_x (v:=(strV ([] : List UInt8))) hF hS (ex_assign rfl) rfl rfl fun a hF=>q_x (v:=(.bool false)) hF hS (ex_assign rfl) rfl rfl fun a hF=>q_end (n_sq (q_seq (q_seq (q_region (q_x (v:=s1.v) hF hS (ex_move rfl) rfl rfl fun a hF=>?_)))))))
 obtain ⟨t_2,ht_2,hr⟩:=bindS hr
 refine q_call (vs:=[s1.v]) hF hS Tryd.func72 (by kernel_rfl) rfl rfl rfl (c_impl_IsSchema p_s t_2 ht_2 _ m hS.vis s1 h1) ?_
 rintro a w _ rfl hF hS
 refine q_x (v:=(.bool (!t_2))) hF hS (ex_not rfl) rfl rfl fun a hF=>q_end (n_sq ?_)
 rcases bcase (!t_2) with hc1 | hc1
 ·have hr:=cond_f hc1 hr
  refine q_cond_f hF rfl hc1 (q_skipc (n_sq (q_seq (q_region (q_x (v:=s1.v) hF hS (ex_move rfl) rfl rfl fun a hF=>?_)))))
  obtain ⟨t_3,ht_3,hr⟩:=bindS hr
  refine q_call (vs:=[s1.v]) hF hS Tryd.func87 (by kernel_rfl) rfl rfl rfl (c_impl_schemaText p_s t_3 ht_3 _ m hS.vis ht s1 h1) ?_
  rintro a w _ rfl hF hS
  refine q_x (v:=(strV t_3)) hF hS (ex_assign rfl) rfl rfl fun a hF=>q_x (v:=(.bool true)) hF hS (ex_assign rfl) rfl rfl fun a hF=>q_end (n_sq (q_ret ?_))
  obtain rfl:=someI hr
  exact ret_of hF hS rfl (.tmp rfl (.tmp rfl .nil)) rfl
 ·have hr:=cond_t hc1 hr
  refine q_cond_t hF rfl hc1 (q_seq (q_region (q_x (v:=(strV ([] : List UInt8))) hF hS (ex_assign rfl) rfl rfl fun a hF=>q_x (v:=(.bool false)) hF hS (ex_assign rfl) rfl rfl fun a hF=>q_end (n_sq (q_ret (r_sq ?_))))))
  obtain rfl:=someI hr
  exact ret_of hF hS rfl (.tmp rfl (.tmp rfl .nil)) rfl

theorem c_impl_readNatural (p_s : List UInt8) (p_most : Int) (r : Int × (List UInt8) × Bool) (hr : impl_readNatural p_s p_most = some r) (w0 : World) (m : Mem) (hv : Vis m w0) :
  Ret Tryd.prog 94 [(strV p_s),(iV p_most)] w0 (fun v _=>v = (.tuple #[(iV r.1),(strV r.2.1),(.bool r.2.2)])):=by
 unfold impl_readNatural at hr
 refine ret_start Tryd.func94 rfl 50 rfl rfl m hv fun a hF hS=>q_seq (q_region (q_x (v:=(iV 0)) hF hS (ex_assign rfl) rfl rfl fun a hF=>q_x (v:=(strV ([] : List UInt8))) hF hS (ex_assign rfl) rfl rfl fun a hF=>q_x (v:=(.bool false)) hF hS (ex_assign rfl) rfl rfl fun a hF=>q_end (n_sq (q_seq (q_region (q_x (v:=(iV 0)) hF hS (ex_assign rfl) rfl rfl fun a hF=>q_x (v:=(iV 0)) hF hS (ex_assign rfl) rfl rfl fun a hF=>q_end (n_sq (q_seq (q_block ?_)))))))))
 obtain ⟨o1,hl1,hr⟩:=bindS hr
 refine q_loop (fun (s : Int × Int) a w=>∃ n_1,∃ i_2,s = (n_1,i_2)∧Fr a 50 [(0,(strV p_s)),(1,(iV p_most)),(7,(iV n_1)),(8,(iV i_2))]∧St [] w0 w m []) (fun (o : (Int × Int) ⊕ (Int × (List UInt8) × Bool)) e a w=>∃ n_8,∃ i_9,o = .inl (n_8,i_9)∧e = .exit 0∧Fr a 50 [(0,(strV p_s)),(7,(iV n_8)),(8,(iV i_9))]∧St [] w0 w m []) hl1 ⟨_,_,rfl,hF.sub ⟨rfl,rfl,rfl,rfl,trivial⟩,hS⟩ ?_ ?_
 ·clear hF hS
  rintro s a w st ⟨n_1,i_2,rfl,hF,hS⟩ hb1
  unfold impl_readNatural_l1 at hb1
  refine q_seq (q_seq ?_)
  obtain ⟨t_5,hj2,hb1⟩:=bindS hb1
  refine q_join (fun a w=>Fr a 50 [(0,(strV p_s)),(1,(iV p_most)),(7,(iV n_1)),(8,(iV i_2)),(24,(.bool t_5))]∧St [] w0 w m []) ?_ ?_
  ·refine q_region (q_x (v:=(iV i_2)) hF hS (ex_move rfl) rfl rfl fun a hF=>q_x (v:=(strV p_s)) hF hS (ex_move rfl) rfl rfl fun a hF=>q_x (v:=(iV (goLen p_s))) hF hS (ex_strLen Tryd.underlying9 rfl) rfl rfl fun a hF=>q_x (v:=(.bool (decide (i_2 < (goLen p_s))))) hF hS (ex_ibin rfl rfl rfl) rfl rfl fun a hF=>q_x (v:=(.bool (decide (i_2 < (goLen p_s))))) hF hS (ex_move rfl) rfl rfl fun a hF=>?_)
   rcases bcase (decide (i_2 < (goLen p_s))) with hc3 | hc3
   ·have hj2:=cond_f hc3 hj2
    refine q_skip hF (wanted_f hF rfl rfl rfl hc3 rfl) rfl fun a hF=>q_skip hF (wanted_f hF rfl rfl rfl hc3 rfl) rfl fun a hF=>q_skip hF (wanted_f hF rfl rfl rfl hc3 rfl) rfl fun a hF=>q_skip hF (wanted_f hF rfl rfl rfl hc3 rfl) rfl fun a hF=>q_x (v:=(.bool false)) hF hS (ex_pick_f rfl rfl hc3) rfl rfl fun a hF=>q_x (v:=(.bool false)) hF hS (ex_move rfl) rfl rfl fun a hF=>q_skip hF (wanted_f hF rfl rfl rfl rfl rfl) rfl fun a hF=>q_skip hF (wanted_f hF rfl rfl rfl rfl rfl) rfl fun a hF=>q_skip hF (wanted_f hF rfl rfl rfl rfl rfl) rfl fun a hF=>q_skip hF (wanted_f hF rfl rfl rfl rfl rfl) rfl fun a hF=>q_x (v:=(.bool false)) hF hS (ex_pick_f rfl rfl rfl) rfl rfl fun a hF=>q_end (n_jn ?_)
    obtain rfl:=someI hj2
    exact ⟨hF.sub ⟨rfl,rfl,rfl,rfl,rfl,trivial⟩,hS⟩
   ·have hj2:=cond_t hc3 hj2
    refine q_xg (v:=(strV p_s)) hF hS (ex_move rfl) (wanted_t hF rfl rfl rfl hc3) rfl fun a hF=>q_xg (v:=(iV i_2)) hF hS (ex_move rfl) (wanted_t hF rfl rfl rfl hc3) rfl fun a hF=>?_
    obtain ⟨t_3,ht_3,hj2⟩:=bindS hj2
    refine q_xg (v:=(.int .u8 t_3)) hF hS (ex_strIdx Tryd.underlying9 rfl rfl ht_3) (wanted_t hF rfl rfl rfl hc3) rfl fun a hF=>q_xg (v:=(.bool (decide (48 ≤ t_3)))) hF hS (ex_ibin rfl rfl rfl) (wanted_t hF rfl rfl rfl hc3) rfl fun a hF=>q_x (v:=(.bool (decide (48 ≤ t_3)))) hF hS (ex_pick_t rfl rfl hc3) rfl rfl fun a hF=>q_x (v:=(.bool (decide (48 ≤ t_3)))) hF hS (ex_move rfl) rfl rfl fun a hF=>?_
    rcases bcase (decide (48 ≤ t_3)) with hc4 | hc4
    ·have hj2:=cond_f hc4 hj2
     refine q_skip hF (wanted_f hF rfl rfl rfl hc4 rfl) rfl fun a hF=>q_skip hF (wanted_f hF rfl rfl rfl hc4 rfl) rfl fun a hF=>q_skip hF (wanted_f hF rfl rfl rfl hc4 rfl) rfl fun a hF=>q_skip hF (wanted_f hF rfl rfl rfl hc4 rfl) rfl fun a hF=>q_x (v:=(.bool false)) hF hS (ex_pick_f rfl rfl hc4) rfl rfl fun a hF=>q_end (n_jn ?_)
     obtain rfl:=someI hj2
     exact ⟨hF.sub ⟨rfl,rfl,rfl,rfl,rfl,trivial⟩,hS⟩
    ·have hj2:=cond_t hc4 hj2
     refine q_xg (v:=(strV p_s)) hF hS (ex_move rfl) (wanted_t hF rfl rfl rfl hc4) rfl fun a hF=>q_xg (v:=(iV i_2)) hF hS (ex_move rfl) (wanted_t hF rfl rfl rfl hc4) rfl fun a hF=>?_
     obtain ⟨t_4,ht_4,hj2⟩:=bindS hj2
     refine q_xg (v:=(.int .u8 t_4)) hF hS (ex_strIdx Tryd.underlying9 rfl rfl ht_4) (wanted_t hF rfl rfl rfl hc4) rfl fun a hF=>q_xg (v:=(.bool (decide (t_4 ≤ 57)))) hF hS (ex_ibin rfl rfl rfl) (wanted_t hF rfl rfl rfl hc4) rfl fun a hF=>q_x (v:=(.bool (decide (t_4 ≤ 57)))) hF hS (ex_pick_t rfl rfl hc4) rfl rfl fun a hF=>q_end (n_jn ?_)
     obtain rfl:=someI hj2
     exact ⟨hF.sub ⟨rfl,rfl,rfl,rfl,rfl,trivial⟩,hS⟩
  ·rintro a w ⟨hF,hS⟩
   refine n_sq ?_
   rcases bcase (t_5) with hc5 | hc5
   ·have hb1:=cond_f hc5 hb1
    refine q_cond_f hF rfl hc5 (q_exit (x_sq ?_))
    obtain rfl:=someI hb1
    exact ⟨nofun,.inl ⟨_,_,rfl,rfl,hF.sub ⟨rfl,rfl,rfl,trivial⟩,hS⟩⟩
   ·have hb1:=cond_t hc5 hb1
    refine q_cond_t hF rfl hc5 (q_skipc (n_sq (q_block (q_seq (q_seq ?_)))))
    obtain ⟨t_6,hj6,hb1⟩:=bindS hb1
    refine q_join (fun a w=>Fr a 50 [(0,(strV p_s)),(1,(iV p_most)),(7,(iV n_1)),(8,(iV i_2)),(30,(.bool t_6))]∧St [] w0 w m []) ?_ ?_
    ·refine q_region (q_x (v:=(iV i_2)) hF hS (ex_move rfl) rfl rfl fun a hF=>q_x (v:=(.bool (decide (0 < i_2)))) hF hS (ex_ibin rfl rfl rfl) rfl rfl fun a hF=>q_x (v:=(.bool (decide (0 < i_2)))) hF hS (ex_move rfl) rfl rfl fun a hF=>?_)
     rcases bcase (decide (0 < i_2)) with hc7 | hc7
     ·have hj6:=cond_f hc7 hj6
      refine q_skip hF (wanted_f hF rfl rfl rfl hc7 rfl) rfl fun a hF=>q_skip hF (wanted_f hF rfl rfl rfl hc7 rfl) rfl fun a hF=>q_x (v:=(.bool false)) hF hS (ex_pick_f rfl rfl hc7) rfl rfl fun a hF=>q_end (n_jn ?_)
      obtain rfl:=someI hj6
      exact ⟨hF.sub ⟨rfl,rfl,rfl,rfl,rfl,trivial⟩,hS⟩
     ·have hj6:=cond_t hc7 hj6
      refine q_xg (v:=(iV n_1)) hF hS (ex_move rfl) (wanted_t hF rfl rfl rfl hc7) rfl fun a hF=>q_xg (v:=(.bool (n_1 == 0))) hF hS (ex_ibin rfl rfl rfl) (wanted_t hF rfl rfl rfl hc7) rfl fun a hF=>q_x (v:=(.bool (n_1 == 0))) hF hS (ex_pick_t rfl rfl hc7) rfl rfl fun a hF=>q_end (n_jn ?_)
      obtain rfl:=someI hj6
      exact ⟨hF.sub ⟨rfl,rfl,rfl,rfl,rfl,trivial⟩,hS⟩
    ·rintro a w ⟨hF,hS⟩
     refine n_sq ?_
     rcases bcase (t_6) with hc8 | hc8
     ·have hb1:=cond_f hc8 hb1
      refine q_cond_f hF rfl hc8 (q_skipc (n_sq (q_seq (q_region (q_x (v:=(iV n_1)) hF hS (ex_move rfl) rfl rfl fun a hF=>q_x (v:=(iV (w64 (n_1 * 10)))) hF hS (ex_ibin rfl rfl rfl) rfl rfl fun a hF=>q_x (v:=(strV p_s)) hF hS (ex_move rfl) rfl rfl fun a hF=>q_x (v:=(iV i_2)) hF hS (ex_move rfl) rfl rfl fun a hF=>?_)))))
      obtain ⟨t_7,ht_7,hb1⟩:=bindS hb1
      refine q_x (v:=(.int .u8 t_7)) hF hS (ex_strIdx Tryd.underlying9 rfl rfl ht_7) rfl rfl fun a hF=>q_x (v:=(.int .u8 (IntKind.wrap .u8 (t_7 - 48)))) hF hS (ex_ibin rfl rfl rfl) rfl rfl fun a hF=>q_x (v:=(iV (w64 (IntKind.wrap .u8 (t_7 - 48))))) hF hS (ex_conv Tryd.underlying5 Tryd.underlying3 rfl) rfl rfl fun a hF=>q_x (v:=(iV (w64 ((w64 (n_1 * 10)) + (w64 (IntKind.wrap .u8 (t_7 - 48))))))) hF hS (ex_ibin rfl rfl rfl) rfl rfl fun a hF=>q_x (v:=(iV (w64 ((w64 (n_1 * 10)) + (w64 (IntKind.wrap .u8 (t_7 - 48))))))) hF hS (ex_assign rfl) rfl rfl fun a hF=>q_end (n_sq (q_seq (q_seq (q_region (q_x (v:=(iV (w64 ((w64 (n_1 * 10)) + (w64 (IntKind.wrap .u8 (t_7 - 48))))))) hF hS (ex_move rfl) rfl rfl fun a hF=>q_x (v:=(iV p_most)) hF hS (ex_move rfl) rfl rfl fun a hF=>q_x (v:=(.bool (decide (p_most < (w64 ((w64 (n_1 * 10)) + (w64 (IntKind.wrap .u8 (t_7 - 48))))))))) hF hS (ex_ibin rfl rfl rfl) rfl rfl fun a hF=>q_end (n_sq ?_))))))
      rcases bcase (decide (p_most < (w64 ((w64 (n_1 * 10)) + (w64 (IntKind.wrap .u8 (t_7 - 48))))))) with hc9 | hc9
      ·have hb1:=cond_f hc9 hb1
       refine q_cond_f hF rfl hc9 (q_skipc (n_sq (q_region (q_x (v:=(iV i_2)) hF hS (ex_move rfl) rfl rfl fun a hF=>q_x (v:=(iV (w64 (i_2 + 1)))) hF hS (ex_ibin rfl rfl rfl) rfl rfl fun a hF=>q_x (v:=(iV (w64 (i_2 + 1)))) hF hS (ex_assign rfl) rfl rfl fun a hF=>q_end (n_ib ?_)))))
       obtain rfl:=someI hb1
       exact ⟨rfl,_,_,rfl,hF.sub ⟨rfl,rfl,rfl,rfl,trivial⟩,hS⟩
      ·have hb1:=cond_t hc9 hb1
       refine q_cond_t hF rfl hc9 (q_seq (q_region (q_x (v:=(iV 0)) hF hS (ex_assign rfl) rfl rfl fun a hF=>q_x (v:=(strV ([] : List UInt8))) hF hS (ex_assign rfl) rfl rfl fun a hF=>q_x (v:=(.bool false)) hF hS (ex_assign rfl) rfl rfl fun a hF=>q_end (n_sq (q_ret (r_sq (r_ib ?_)))))))
       obtain rfl:=someI hb1
       refine ⟨nofun,.inr fun ho=>?_⟩
       subst ho
       refine r_ib (r_sq ?_)
       obtain rfl:=someI hr
       exact ret_of hF hS rfl (.tmp rfl (.tmp rfl (.tmp rfl .nil))) rfl
     ·have hb1:=cond_t hc8 hb1
      refine q_cond_t hF rfl hc8 (q_seq (q_region (q_x (v:=(iV 0)) hF hS (ex_assign rfl) rfl rfl fun a hF=>q_x (v:=(strV ([] : List UInt8))) hF hS (ex_assign rfl) rfl rfl fun a hF=>q_x (v:=(.bool false)) hF hS (ex_assign rfl) rfl rfl fun a hF=>q_end (n_sq (q_ret (r_sq (r_ib ?_)))))))
      obtain rfl:=someI hb1
      refine ⟨nofun,.inr fun ho=>?_⟩
      subst ho
      refine r_ib (r_sq ?_)
      obtain rfl:=someI hr
      exact ret_of hF hS rfl (.tmp rfl (.tmp rfl (.tmp rfl .nil))) rfl
 ·rintro e a w ⟨n_8,i_9,rfl,rfl,hF,hS⟩
  refine x_ib (n_sq ?_)
  refine q_seq (q_seq (q_region (q_x (v:=(iV i_9)) hF hS (ex_move rfl) rfl rfl fun a hF=>q_x (v:=(.bool (i_9 == 0))) hF hS (ex_ibin rfl rfl rfl) rfl rfl fun a hF=>q_end (n_sq ?_))))
  rcases bcase (i_9 == 0) with hc10 | hc10
  ·have hr:=cond_f hc10 hr
   refine q_cond_f hF rfl hc10 (q_skipc (n_sq (q_seq (e_region ⟨[],[]⟩ mixed fun w' hw'=>?_))))
   have hS:=hS.below hw'
   refine e_p (v:=(iV n_8)) 0 hF rfl (ex_move rfl) rfl rfl (by kernel_rfl) (by kernel_rfl) (by kernel_rfl) fun a hF=>e_p (v:=(strV p_s)) 1 hF rfl (ex_move rfl) rfl rfl (by kernel_rfl) (by kernel_rfl) (by kernel_rfl) fun a hF=>e_p (v:=(iV i_9)) 2 hF rfl (ex_move rfl) rfl rfl (by kernel_rfl) (by kernel_rfl) (by kernel_rfl) fun a hF=>?_
   obtain ⟨t_10,ht_10,hr⟩:=bindS hr
   refine e_p (v:=(strV t_10)) 3 hF rfl (ex_strSub Tryd.underlying9 rfl rfl rfl (.inr ⟨_,rfl⟩) (.inl ⟨rfl,rfl⟩) ht_10) rfl rfl (by kernel_rfl) (by kernel_rfl) (by kernel_rfl) fun a hF=>e_p (v:=(iV n_8)) 4 hF rfl (ex_assign rfl) rfl rfl (by kernel_rfl) (by kernel_rfl) (by kernel_rfl) fun a hF=>e_p (v:=(strV t_10)) 5 hF rfl (ex_assign rfl) rfl rfl (by kernel_rfl) (by kernel_rfl) (by kernel_rfl) fun a hF=>e_p (v:=(.bool true)) 6 hF rfl (ex_assign rfl) rfl rfl (by kernel_rfl) (by kernel_rfl) (by kernel_rfl) fun a hF=>e_end (by kernel_rfl) (n_sq (q_ret ?_)) _
   obtain rfl:=someI hr
   exact ret_of hF hS rfl (.tmp rfl (.tmp rfl (.tmp rfl .nil))) rfl
  ·have hr:=cond_t hc10 hr
   refine q_cond_t hF rfl hc10 (q_seq (q_region (q_x (v:=(iV 0)) hF hS (ex_assign rfl) rfl rfl fun a hF=>q_x (v:=(strV ([] : List UInt8))) hF hS (ex_assign rfl) rfl rfl fun a hF=>q_x (v:=(.bool false)) hF hS (ex_assign rfl) rfl rfl fun a hF=>q_end (n_sq (q_ret (r_sq ?_))))))
   obtain rfl:=someI hr
   exact ret_of hF hS rfl (.tmp rfl (.tmp rfl (.tmp rfl .nil))) rfl

theorem c_impl_wholeNatural (p_s : List UInt8) (p_most : Int) (r : Int × Bool) (hr : impl_wholeNatural p_s p_most = some r) (w0 : World) (m : Mem) (hv : Vis m w0) :
  Ret Tryd.prog 89 [(strV p_s),(iV p_most)] w0 (fun v _=>v = (.tuple #[(iV r.1),(.bool r.2)])):=by
 unfold impl_wholeNatural at hr
 refine ret_start Tryd.func89 rfl 23 rfl rfl m hv fun a hF hS=>q_seq (q_region (q_x (v:=(iV 0)) hF hS (ex_assign rfl) rfl rfl fun a hF=>q_x (v:=(.bool false)) hF hS (ex_assign rfl) rfl rfl fun a hF=>q_end (n_sq (q_seq (q_region (q_x (v:=(strV p_s)) hF hS (ex_move rfl) rfl rfl fun a hF=>q_x (v:=(iV p_most)) hF hS (ex_move rfl) rfl rfl fun a hF=>?_))))))
 obtain ⟨t_1,ht_1,hr⟩:=bindS hr
 refine q_call (vs:=[(strV p_s),(iV p_most)]) hF hS Tryd.func94 (by kernel_rfl) rfl rfl rfl (c_impl_readNatural p_s p_most t_1 ht_1 _ m hS.vis) ?_
 rintro a w _ rfl hF hS
 refine q_x (v:=(.tuple #[(iV t_1.1),(strV t_1.2.1),(.bool t_1.2.2)])) hF hS (ex_move rfl) rfl rfl fun a hF=>q_x (v:=(iV t_1.1)) hF hS (ex_extract rfl rfl) rfl rfl fun a hF=>q_x (v:=(strV t_1.2.1)) hF hS (ex_extract rfl rfl) rfl rfl fun a hF=>q_x (v:=(.bool t_1.2.2)) hF hS (ex_extract rfl rfl) rfl rfl fun a hF=>q_x (v:=(iV t_1.1)) hF hS (ex_assign rfl) rfl rfl fun a hF=>q_x (v:=(strV t_1.2.1)) hF hS (ex_assign rfl) rfl rfl fun a hF=>q_x (v:=(.bool t_1.2.2)) hF hS (ex_assign rfl) rfl rfl fun a hF=>q_end (n_sq (q_seq (q_seq ?_)))
 obtain ⟨t_2,hj1,hr⟩:=bindS hr
 refine q_join (fun a w=>Fr a 23 [(6,(iV t_1.1)),(21,(.bool t_2))]∧St [] w0 w m []) ?_ ?_
 ·refine q_region (q_x (v:=(.bool t_1.2.2)) hF hS (ex_move rfl) rfl rfl fun a hF=>q_x (v:=(.bool (!t_1.2.2))) hF hS (ex_not rfl) rfl rfl fun a hF=>q_x (v:=(.bool (!t_1.2.2))) hF hS (ex_move rfl) rfl rfl fun a hF=>?_)
  rcases bcase (!t_1.2.2) with hc2 | hc2
  ·have hj1:=cond_f hc2 hj1
   refine q_xg (v:=(strV t_1.2.1)) hF hS (ex_move rfl) (wanted_t hF rfl rfl rfl hc2) rfl fun a hF=>q_xg (v:=(.bool (t_1.2.1 != ([] : List UInt8)))) hF hS (ex_strNe rfl rfl) (wanted_t hF rfl rfl rfl hc2) rfl fun a hF=>q_x (v:=(.bool (t_1.2.1 != ([] : List UInt8)))) hF hS (ex_pick_f rfl rfl hc2) rfl rfl fun a hF=>q_end (n_jn ?_)
   obtain rfl:=someI hj1
   exact ⟨hF.sub ⟨rfl,rfl,trivial⟩,hS⟩
  ·have hj1:=cond_t hc2 hj1
   refine q_skip hF (wanted_f hF rfl rfl rfl hc2 rfl) rfl fun a hF=>q_skip hF (wanted_f hF rfl rfl rfl hc2 rfl) rfl fun a hF=>q_x (v:=(.bool true)) hF hS (ex_pick_t rfl rfl hc2) rfl rfl fun a hF=>q_end (n_jn ?_)
   obtain rfl:=someI hj1
   exact ⟨hF.sub ⟨rfl,rfl,trivial⟩,hS⟩
 ·rintro a w ⟨hF,hS⟩
  refine n_sq ?_
  rcases bcase (t_2) with hc3 | hc3
  ·have hr:=cond_f hc3 hr
   refine q_cond_f hF rfl hc3 (q_skipc (n_sq (q_seq (q_region (q_x (v:=(iV t_1.1)) hF hS (ex_move rfl) rfl rfl fun a hF=>q_x (v:=(iV t_1.1)) hF hS (ex_assign rfl) rfl rfl fun a hF=>q_x (v:=(.bool true)) hF hS (ex_assign rfl) rfl rfl fun a hF=>q_end (n_sq (q_ret ?_)))))))
   obtain rfl:=someI hr
   exact ret_of hF hS rfl (.tmp rfl (.tmp rfl .nil)) rfl
  ·have hr:=cond_t hc3 hr
   refine q_cond_t hF rfl hc3 (q_seq (q_region (q_x (v:=(iV 0)) hF hS (ex_assign rfl) rfl rfl fun a hF=>q_x (v:=(.bool false)) hF hS (ex_assign rfl) rfl rfl fun a hF=>q_end (n_sq (q_ret (r_sq ?_))))))
   obtain rfl:=someI hr
   exact ret_of hF hS rfl (.tmp rfl (.tmp rfl .nil)) rfl

theorem c_impl_ParseSchema (p_s : List UInt8) (r : (List impl_Variable) × Bool) (hr : impl_ParseSchema p_s = some r) (w0 : World) (m : Mem) (hv : Vis m w0) (ht : Tbl m) :
  Ret Tryd.prog 30 [(strV p_s)] w0 (fun v w=>∃ (q0' : Piece) (s0' : Sl),v = (.tuple #[s0'.v,(.bool r.2)])∧St [] w0 w m [q0']∧OwnL m 101 q0' s0' r.1):=by
 unfold impl_ParseSchema at hr
 refine ret_start Tryd.func30 rfl 54 rfl rfl m hv fun a hF hS=>q_seq (q_region (q_x (v:=nilS.v) hF hS (ex_assign rfl) rfl rfl fun a hF=>q_x (v:=(.bool false)) hF hS (ex_assign rfl) rfl rfl fun a hF=>q_end (n_sq (q_seq (q_region (q_x (v:=nilS.v) hF hS (ex_assign rfl) rfl rfl fun a hF=>q_end (n_sq (q_seq (q_block ?_)))))))))
 obtain ⟨o1,hl1,hr⟩:=bindS hr
 refine q_loop (fun (s : (List UInt8) × (List impl_Variable)) a w=>∃ (q3 : Piece),∃ (s3 : Sl),∃ s_1,∃ schema_2,s = (s_1,schema_2)∧Fr a 54 [(0,(strV s_1)),(4,s3.v)]∧St [] w0 w m [q3]∧OwnL m 101 q3 s3 schema_2) (fun (o : ((List impl_Variable)) ⊕ ((List impl_Variable) × Bool)) e a w=>∃ (q12 : Piece),∃ (s12 : Sl),∃ schema_11,o = .inl schema_11∧e = .exit 0∧Fr a 54 [(4,s12.v)]∧St [] w0 w m [q12]∧OwnL m 101 q12 s12 schema_11) hl1 ⟨[],nilS,_,_,rfl,hF.sub ⟨rfl,rfl,trivial⟩,hS.sel [0] (by decide),(OwnL.nil (α:=impl_Variable) m 101)⟩ ?_ ?_
 ·clear hF hS
  rintro s a w st ⟨q3,s3,s_1,schema_2,rfl,hF,hS,h3⟩ hb1
  unfold impl_ParseSchema_l1 at hb1
  refine q_block (q_seq (q_region (q_x (v:=(strV s_1)) hF hS (ex_move rfl) rfl rfl fun a hF=>?_)))
  obtain ⟨t_4,ht_4,hb1⟩:=bindS hb1
  refine q_call (vs:=[(strV s_1),(strV ([44] : List UInt8))]) hF hS Tryd.func88 (by kernel_rfl) rfl rfl rfl (c_strings_Cut s_1 ([44] : List UInt8) t_4 ht_4 _ m hS.vis ht) ?_
  rintro a w _ rfl hF hS
  refine q_x (v:=(.tuple #[(strV t_4.1),(strV t_4.2.1),(.bool t_4.2.2)])) hF hS (ex_move rfl) rfl rfl fun a hF=>q_x (v:=(strV t_4.1)) hF hS (ex_extract rfl rfl) rfl rfl fun a hF=>q_x (v:=(strV t_4.2.1)) hF hS (ex_extract rfl rfl) rfl rfl fun a hF=>q_x (v:=(.bool t_4.2.2)) hF hS (ex_extract rfl rfl) rfl rfl fun a hF=>q_x (v:=(strV t_4.1)) hF hS (ex_assign rfl) rfl rfl fun a hF=>q_x (v:=(strV t_4.2.1)) hF hS (ex_assign rfl) rfl rfl fun a hF=>q_x (v:=(.bool t_4.2.2)) hF hS (ex_assign rfl) rfl rfl fun a hF=>q_end (n_sq (q_seq (q_region (q_x (v:=(strV t_4.1)) hF hS (ex_move rfl) rfl rfl fun a hF=>?_))))
  obtain ⟨t_5,ht_5,hb1⟩:=bindS hb1
  refine q_call (vs:=[(strV t_4.1),(strV ([58] : List UInt8))]) hF hS Tryd.func88 (by kernel_rfl) rfl rfl rfl (c_strings_Cut t_4.1 ([58] : List UInt8) t_5 ht_5 _ m hS.vis ht) ?_
  rintro a w _ rfl hF hS
  refine q_x (v:=(.tuple #[(strV t_5.1),(strV t_5.2.1),(.bool t_5.2.2)])) hF hS (ex_move rfl) rfl rfl fun a hF=>q_x (v:=(strV t_5.1)) hF hS (ex_extract rfl rfl) rfl rfl fun a hF=>q_x (v:=(strV t_5.2.1)) hF hS (ex_extract rfl rfl) rfl rfl fun a hF=>q_x (v:=(.bool t_5.2.2)) hF hS (ex_extract rfl rfl) rfl rfl fun a hF=>q_x (v:=(strV t_5.1)) hF hS (ex_assign rfl) rfl rfl fun a hF=>q_x (v:=(strV t_5.2.1)) hF hS (ex_assign rfl) rfl rfl fun a hF=>q_x (v:=(.bool t_5.2.2)) hF hS (ex_assign rfl) rfl rfl fun a hF=>q_end (n_sq (q_seq (q_region (q_x (v:=(strV t_5.2.1)) hF hS (ex_move rfl) rfl rfl fun a hF=>?_))))
  obtain ⟨t_6,ht_6,hb1⟩:=bindS hb1
  refine q_call (vs:=[(strV t_5.2.1),(iV 8)]) hF hS Tryd.func89 (by kernel_rfl) rfl rfl rfl (c_impl_wholeNatural t_5.2.1 8 t_6 ht_6 _ m hS.vis) ?_
  rintro a w _ rfl hF hS
  refine q_x (v:=(.tuple #[(iV t_6.1),(.bool t_6.2)])) hF hS (ex_move rfl) rfl rfl fun a hF=>q_x (v:=(iV t_6.1)) hF hS (ex_extract rfl rfl) rfl rfl fun a hF=>q_x (v:=(.bool t_6.2)) hF hS (ex_extract rfl rfl) rfl rfl fun a hF=>q_x (v:=(iV t_6.1)) hF hS (ex_assign rfl) rfl rfl fun a hF=>q_x (v:=(.bool t_6.2)) hF hS (ex_assign rfl) rfl rfl fun a hF=>q_end (n_sq (q_seq (q_seq ?_)))
  obtain ⟨t_7,hj2,hb1⟩:=bindS hb1
  refine q_join (fun a w=>Fr a 54 [(4,s3.v),(6,(strV t_4.2.1)),(7,(.bool t_4.2.2)),(8,(strV t_5.1)),(11,(iV t_6.1)),(40,(.bool t_7))]∧St [] w0 w m [q3]) ?_ ?_
  ·refine q_region (q_x (v:=(.bool t_5.2.2)) hF hS (ex_move rfl) rfl rfl fun a hF=>q_x (v:=(.bool (!t_5.2.2))) hF hS (ex_not rfl) rfl rfl fun a hF=>q_x (v:=(.bool (!t_5.2.2))) hF hS (ex_move rfl) rfl rfl fun a hF=>?_)
   rcases bcase (!t_5.2.2) with hc3 | hc3
   ·have hj2:=cond_f hc3 hj2
    refine q_xg (v:=(.bool t_6.2)) hF hS (ex_move rfl) (wanted_t hF rfl rfl rfl hc3) rfl fun a hF=>q_xg (v:=(.bool (!t_6.2))) hF hS (ex_not rfl) (wanted_t hF rfl rfl rfl hc3) rfl fun a hF=>q_x (v:=(.bool (!t_6.2))) hF hS (ex_pick_f rfl rfl hc3) rfl rfl fun a hF=>q_x (v:=(.bool (!t_6.2))) hF hS (ex_move rfl) rfl rfl fun a hF=>?_
    rcases bcase (!t_6.2) with hc4 | hc4
    ·have hj2:=cond_f hc4 hj2
     refine q_xg (v:=s3.v) hF hS (ex_move rfl) (wanted_t hF rfl rfl rfl hc4) rfl fun a hF=>q_xg (v:=(iV (goLen schema_2))) hF hS (ex_len Tryd.underlying39 rfl h3.len) (wanted_t hF rfl rfl rfl hc4) rfl fun a hF=>q_xg (v:=(.bool ((goLen schema_2) == 6))) hF hS (ex_ibin rfl rfl rfl) (wanted_t hF rfl rfl rfl hc4) rfl fun a hF=>q_x (v:=(.bool ((goLen schema_2) == 6))) hF hS (ex_pick_f rfl rfl hc4) rfl rfl fun a hF=>q_end (n_jn ?_)
     obtain rfl:=someI hj2
     exact ⟨hF.sub ⟨rfl,rfl,rfl,rfl,rfl,rfl,trivial⟩,hS⟩
    ·have hj2:=cond_t hc4 hj2
     refine q_skip hF (wanted_f hF rfl rfl rfl hc4 rfl) rfl fun a hF=>q_skip hF (wanted_f hF rfl rfl rfl hc4 rfl) rfl fun a hF=>q_skip hF (wanted_f hF rfl rfl rfl hc4 rfl) rfl fun a hF=>q_x (v:=(.bool true)) hF hS (ex_pick_t rfl rfl hc4) rfl rfl fun a hF=>q_end (n_jn ?_)
     obtain rfl:=someI hj2
     exact ⟨hF.sub ⟨rfl,rfl,rfl,rfl,rfl,rfl,trivial⟩,hS⟩
   ·have hj2:=cond_t hc3 hj2
    refine q_skip hF (wanted_f hF rfl rfl rfl hc3 rfl) rfl fun a hF=>q_skip hF (wanted_f hF rfl rfl rfl hc3 rfl) rfl fun a hF=>q_x (v:=(.bool true)) hF hS (ex_pick_t rfl rfl hc3) rfl rfl fun a hF=>q_x (v:=(.bool true)) hF hS (ex_move rfl) rfl rfl fun a hF=>q_skip hF (wanted_f hF rfl rfl rfl rfl rfl) rfl fun a hF=>q_skip hF (wanted_f hF rfl rfl rfl rfl rfl) rfl fun a hF=>q_skip hF (wanted_f hF rfl rfl rfl rfl rfl) rfl fun a hF=>q_x (v:=(.bool true)) hF hS (ex_pick_t rfl rfl rfl) rfl rfl fun a hF=>q_end (n_jn ?_)
    obtain rfl:=someI hj2
    exact ⟨hF.sub ⟨rfl,rfl,rfl,rfl,rfl,rfl,trivial⟩,hS⟩
  ·rintro a w ⟨hF,hS⟩
   refine n_sq ?_
   rcases bcase (t_7) with hc5 | hc5
   ·have hb1:=cond_f hc5 hb1
    refine q_cond_f hF rfl hc5 (q_skipc (n_sq (q_seq (q_region (q_x (v:=s3.v) hF hS (ex_move rfl) rfl rfl fun a hF=>q_x (v:=(strV t_5.1)) hF hS (ex_move rfl) rfl rfl fun a hF=>q_x (v:=(iV t_6.1)) hF hS (ex_move rfl) rfl rfl fun a hF=>q_x (v:=(.agg #[(strV t_5.1),(iV t_6.1)])) hF hS (ex_build (cells:=[(strV t_5.1),(iV t_6.1)]) rfl (by kernel_rfl)) rfl rfl fun a hF=>q_do rfl fun _ hK=>wp_buildSlice' (l:=([(impl_Variable.mk t_5.1 t_6.1)] : List impl_Variable)) (cells:=[(strV t_5.1),(iV t_6.1)]) hF hS Tryd.underlying39 inf101 rfl rfl (by kernel_rfl) rfl rfl rfl ⟨rfl,rfl⟩ rfl rfl fun a w q8 s8 hF hS h8 _=>hK _ _ ?_)))))
    have hS : St _ _ _ _ [q3,q8]:=hS.sel [1,0] (by decide)
    obtain ⟨l_9,hl_9,hb1⟩:=bindS hb1
    refine q_do rfl fun _ hK=>wp_append hF hS h3 Tryd.underlying39 inf101 rfl rfl rfl rfl (h8.vw hS (j:=1) rfl) rfl (by decide) hl_9 rfl fun a w q10 s10 hF hS h10=>hK _ _ (q_x (v:=s10.v) hF hS (ex_assign rfl) rfl rfl fun a hF=>q_end (n_sq (q_seq (q_seq (q_region (q_x (v:=(.bool t_4.2.2)) hF hS (ex_move rfl) rfl rfl fun a hF=>q_x (v:=(.bool (!t_4.2.2))) hF hS (ex_not rfl) rfl rfl fun a hF=>q_end (n_sq ?_)))))))
    rcases bcase (!t_4.2.2) with hc6 | hc6
    ·have hb1:=cond_f hc6 hb1
     refine q_cond_f hF rfl hc6 (q_skipc (n_sq (q_region (q_x (v:=(strV t_4.2.1)) hF hS (ex_move rfl) rfl rfl fun a hF=>q_x (v:=(strV t_4.2.1)) hF hS (ex_assign rfl) rfl rfl fun a hF=>q_end (n_ib ?_)))))
     obtain rfl:=someI hb1
     exact ⟨rfl,q10,s10,_,_,rfl,hF.sub ⟨rfl,rfl,trivial⟩,hS.mask [true,false],h10⟩
    ·have hb1:=cond_t hc6 hb1
     refine q_cond_t hF rfl hc6 (q_exit (x_sq (x_ibn rfl ?_)))
     obtain rfl:=someI hb1
     exact ⟨nofun,.inl ⟨q10,s10,_,rfl,rfl,hF.sub ⟨rfl,trivial⟩,hS.mask [true,false],h10⟩⟩
   ·have hb1:=cond_t hc5 hb1
    refine q_cond_t hF rfl hc5 (q_seq (q_region (q_x (v:=nilS.v) hF hS (ex_assign rfl) rfl rfl fun a hF=>q_x (v:=(.bool false)) hF hS (ex_assign rfl) rfl rfl fun a hF=>q_end (n_sq (q_ret (r_sq (r_ib ?_)))))))
    obtain rfl:=someI hb1
    refine ⟨nofun,.inr fun ho=>?_⟩
    subst ho
    refine r_ib (r_sq ?_)
    obtain rfl:=someI hr
    exact ret_of hF hS rfl (.tmp rfl (.tmp rfl .nil)) ⟨[],nilS,rfl,hS.sel [1] (by decide),(OwnL.nil (α:=impl_Variable) m 101)⟩
 ·rintro e a w ⟨q12,s12,schema_11,rfl,rfl,hF,hS,h12⟩
  refine x_ib (n_sq ?_)
  refine q_seq (q_seq (q_region (q_x (v:=s12.v) hF hS (ex_move rfl) rfl rfl fun a hF=>?_)))
  obtain ⟨m14,hl14,hv14,hz14⟩:=hS.lend
  obtain ⟨t_13,ht_13,hr⟩:=bindS hr
  refine q_call (vs:=[s12.v]) hF hS Tryd.func72 (by kernel_rfl) rfl rfl rfl (c_impl_IsSchema schema_11 t_13 ht_13 _ m14 hv14 s12 (h12.froz hl14 (hz14 0 _ rfl))) ?_
  rintro a w _ rfl hF hS
  refine q_x (v:=(.bool (!t_13))) hF hS (ex_not rfl) rfl rfl fun a hF=>q_end (n_sq ?_)
  rcases bcase (!t_13) with hc7 | hc7
  ·have hr:=cond_f hc7 hr
   refine q_cond_f hF rfl hc7 (q_skipc (n_sq (q_seq (q_region (q_x (v:=s12.v) hF hS (ex_move rfl) rfl rfl fun a hF=>q_x (v:=s12.v) hF hS (ex_assign rfl) rfl rfl fun a hF=>q_x (v:=(.bool true)) hF hS (ex_assign rfl) rfl rfl fun a hF=>q_end (n_sq (q_ret ?_)))))))
   obtain rfl:=someI hr
   exact ret_of hF hS rfl (.tmp rfl (.tmp rfl .nil)) ⟨q12,s12,rfl,hS.sel [0] (by decide),h12⟩
  ·have hr:=cond_t hc7 hr
   refine q_cond_t hF rfl hc7 (q_seq (q_region (q_x (v:=nilS.v) hF hS (ex_assign rfl) rfl rfl fun a hF=>q_x (v:=(.bool false)) hF hS (ex_assign rfl) rfl rfl fun a hF=>q_end (n_sq (q_ret (r_sq ?_))))))
   obtain rfl:=someI hr
   exact ret_of hF hS rfl (.tmp rfl (.tmp rfl .nil)) ⟨[],nilS,rfl,hS.sel [1] (by decide),(OwnL.nil (α:=impl_Variable) m 101)⟩

theorem c_impl_ValueDistance (p_s : List impl_Variable) (p_a : List Int) (p_b : List Int) (r : Int × Bool) (hr : impl_ValueDistance p_s p_a p_b = some r) (w0 : World) (m : Mem) (hv : Vis m w0) (s1 : Sl) (h1 : Rd m s1 p_s) (s2 : Sl) (h2 : Rd m s2 p_a) (s3 : Sl) (h3 : Rd m s3 p_b) :
  Ret Tryd.prog 31 [s1.v,s2.v,s3.v] w0 (fun v _=>v = (.tuple #[(iV r.1),(.bool r.2)])):=by
 unfold impl_ValueDistance at hr
 refine ret_start Tryd.func31 rfl 43 rfl rfl m hv fun a hF hS=>q_seq (q_region (q_x (v:=(iV 0)) hF hS (ex_assign rfl) rfl rfl fun a hF=>q_x (v:=(.bool false)) hF hS (ex_assign rfl) rfl rfl fun a hF=>q_end (n_sq (q_seq (q_seq ?_)))))
 obtain ⟨t_7,hj1,hr⟩:=bindS hr
 refine q_join (fun a w=>Fr a 43 [(1,s2.v),(2,s3.v),(24,(.bool t_7))]∧St [] w0 w m []) ?_ ?_
 ·refine q_region (q_x (v:=s1.v) hF hS (ex_move rfl) rfl rfl fun a hF=>?_)
  obtain ⟨t_4,ht_4,hj1⟩:=bindS hj1
  refine q_call (vs:=[s1.v]) hF hS Tryd.func72 (by kernel_rfl) rfl rfl rfl (c_impl_IsSchema p_s t_4 ht_4 _ m hS.vis s1 h1) ?_
  rintro a w _ rfl hF hS
  refine q_x (v:=(.bool (!t_4))) hF hS (ex_not rfl) rfl rfl fun a hF=>q_x (v:=(.bool (!t_4))) hF hS (ex_move rfl) rfl rfl fun a hF=>?_
  rcases bcase (!t_4) with hc2 | hc2
  ·have hj1:=cond_f hc2 hj1
   refine q_xg (v:=s1.v) hF hS (ex_move rfl) (wanted_t hF rfl rfl rfl hc2) rfl fun a hF=>q_xg (v:=s2.v) hF hS (ex_move rfl) (wanted_t hF rfl rfl rfl hc2) rfl fun a hF=>?_
   obtain ⟨t_5,ht_5,hj1⟩:=bindS hj1
   refine q_callg (vs:=[s1.v,s2.v]) hF hS (wanted_t hF rfl rfl rfl hc2) Tryd.func80 (by kernel_rfl) rfl rfl rfl (c_impl_areValues p_s p_a t_5 ht_5 _ m hS.vis s1 h1 s2 h2) ?_
   rintro a w _ rfl hF hS
   refine q_xg (v:=(.bool (!t_5))) hF hS (ex_not rfl) (wanted_t hF rfl rfl rfl hc2) rfl fun a hF=>q_x (v:=(.bool (!t_5))) hF hS (ex_pick_f rfl rfl hc2) rfl rfl fun a hF=>q_x (v:=(.bool (!t_5))) hF hS (ex_move rfl) rfl rfl fun a hF=>?_
   rcases bcase (!t_5) with hc3 | hc3
   ·have hj1:=cond_f hc3 hj1
    refine q_xg (v:=s1.v) hF hS (ex_move rfl) (wanted_t hF rfl rfl rfl hc3) rfl fun a hF=>q_xg (v:=s3.v) hF hS (ex_move rfl) (wanted_t hF rfl rfl rfl hc3) rfl fun a hF=>?_
    obtain ⟨t_6,ht_6,hj1⟩:=bindS hj1
    refine q_callg (vs:=[s1.v,s3.v]) hF hS (wanted_t hF rfl rfl rfl hc3) Tryd.func80 (by kernel_rfl) rfl rfl rfl (c_impl_areValues p_s p_b t_6 ht_6 _ m hS.vis s1 h1 s3 h3) ?_
    rintro a w _ rfl hF hS
    refine q_xg (v:=(.bool (!t_6))) hF hS (ex_not rfl) (wanted_t hF rfl rfl rfl hc3) rfl fun a hF=>q_x (v:=(.bool (!t_6))) hF hS (ex_pick_f rfl rfl hc3) rfl rfl fun a hF=>q_end (n_jn ?_)
    obtain rfl:=someI hj1
    exact ⟨hF.sub ⟨rfl,rfl,rfl,trivial⟩,hS⟩
   ·have hj1:=cond_t hc3 hj1
    refine q_skip hF (wanted_f hF rfl rfl rfl hc3 rfl) rfl fun a hF=>q_skip hF (wanted_f hF rfl rfl rfl hc3 rfl) rfl fun a hF=>q_skip hF (wanted_f hF rfl rfl rfl hc3 rfl) rfl fun a hF=>q_skip hF (wanted_f hF rfl rfl rfl hc3 rfl) rfl fun a hF=>q_x (v:=(.bool true)) hF hS (ex_pick_t rfl rfl hc3) rfl rfl fun a hF=>q_end (n_jn ?_)
    obtain rfl:=someI hj1
    exact ⟨hF.sub ⟨rfl,rfl,rfl,trivial⟩,hS⟩
  ·have hj1:=cond_t hc2 hj1
   refine q_skip hF (wanted_f hF rfl rfl rfl hc2 rfl) rfl fun a hF=>q_skip hF (wanted_f hF rfl rfl rfl hc2 rfl) rfl fun a hF=>q_skip hF (wanted_f hF rfl rfl rfl hc2 rfl) rfl fun a hF=>q_skip hF (wanted_f hF rfl rfl rfl hc2 rfl) rfl fun a hF=>q_x (v:=(.bool true)) hF hS (ex_pick_t rfl rfl hc2) rfl rfl fun a hF=>q_x (v:=(.bool true)) hF hS (ex_move rfl) rfl rfl fun a hF=>q_skip hF (wanted_f hF rfl rfl rfl rfl rfl) rfl fun a hF=>q_skip hF (wanted_f hF rfl rfl rfl rfl rfl) rfl fun a hF=>q_skip hF (wanted_f hF rfl rfl rfl rfl rfl) rfl fun a hF=>q_skip hF (wanted_f hF rfl rfl rfl rfl rfl) rfl fun a hF=>q_x (v:=(.bool true)) hF hS (ex_pick_t rfl rfl rfl) rfl rfl fun a hF=>q_end (n_jn ?_)
   obtain rfl:=someI hj1
   exact ⟨hF.sub ⟨rfl,rfl,rfl,trivial⟩,hS⟩
 ·rintro a w ⟨hF,hS⟩
  refine n_sq ?_
  rcases bcase (t_7) with hc4 | hc4
  ·have hr:=cond_f hc4 hr
   refine q_cond_f hF rfl hc4 (q_skipc (n_sq (q_seq (q_region (q_x (v:=(iV 0)) hF hS (ex_assign rfl) rfl rfl fun a hF=>q_end (n_sq (q_seq (q_seq (q_region (q_x (v:=s2.v) hF hS (ex_move rfl) rfl rfl fun a hF=>q_x (v:=(iV (goLen p_a))) hF hS (ex_len Tryd.underlying42 rfl h2.len) rfl rfl fun a hF=>q_x (v:=(iV 0)) hF hS (ex_move rfl) rfl rfl fun a hF=>q_end (n_sq (q_block ?_))))))))))))
   obtain ⟨n_15,hl5,hr⟩:=bindS hr
   refine q_loop (fun (s : Int × Int) a w=>∃ n_8,∃ t_9,s = (n_8,t_9)∧Fr a 43 [(1,s2.v),(2,s3.v),(8,(iV n_8)),(26,(iV (goLen p_a))),(27,(iV t_9))]∧St [] w0 w m []) (fun (n_15 : Int) e a w=>e = .exit 0∧Fr a 43 [(8,(iV n_15))]∧St [] w0 w m []) hl5 ⟨_,_,rfl,hF.sub ⟨rfl,rfl,rfl,rfl,rfl,trivial⟩,hS⟩ ?_ ?_
   ·clear hF hS
    rintro s a w st ⟨n_8,t_9,rfl,hF,hS⟩ hb5
    unfold impl_ValueDistance_l1 at hb5
    refine q_seq (q_region (q_x (v:=(.bool (decide (t_9 < (goLen p_a))))) hF hS (ex_ibin rfl rfl rfl) rfl rfl fun a hF=>q_end (n_sq (q_seq ?_))))
    rcases bcase (decide (t_9 < (goLen p_a))) with hc6 | hc6
    ·have hb5:=cond_f hc6 hb5
     refine q_cond_f hF rfl hc6 (q_exit (x_sq ?_))
     obtain rfl:=someI hb5
     exact ⟨nofun,.inl ⟨rfl,hF.sub ⟨rfl,trivial⟩,hS⟩⟩
    ·have hb5:=cond_t hc6 hb5
     refine q_cond_t hF rfl hc6 (q_skipc (n_sq (q_seq (q_block (q_seq (q_region (q_x (v:=(iV t_9)) hF hS (ex_move rfl) rfl rfl fun a hF=>q_x (v:=(iV t_9)) hF hS (ex_assign rfl) rfl rfl fun a hF=>q_end (n_sq (q_seq (e_region ⟨[],[]⟩ mixed fun w' hw'=>?_))))))))))
     have hS:=hS.below hw'
     refine e_p (v:=s2.v) 0 hF rfl (ex_move rfl) rfl rfl (by kernel_rfl) (by kernel_rfl) (by kernel_rfl) fun a hF=>e_p (v:=(iV t_9)) 1 hF rfl (ex_move rfl) rfl rfl (by kernel_rfl) (by kernel_rfl) (by kernel_rfl) fun a hF=>?_
     obtain ⟨e_10,he_10,hb5⟩:=bindS hb5
     obtain ⟨vs11,at11,d11⟩:=h2.at he_10 1 rfl
     obtain rfl : vs11 = [(iV e_10)]:=d11
     refine e_p (v:=(elP s2 (t_9.toNat * 1))) 2 hF rfl (ex_indexAddr Tryd.underlying42 sz3 rfl rfl (h2.idx he_10)) rfl rfl (by kernel_rfl) (by kernel_rfl) (by kernel_rfl) fun a hF=>e_x (v:=(iV e_10)) 3 hF hS rfl (ex_loadE1 0 Tryd.underlying3 rfl rfl ((at11).at) rfl rfl) rfl rfl (by kernel_rfl) (by kernel_rfl) (by kernel_rfl) (by kernel_rfl) fun a hF=>e_p (v:=s3.v) 4 hF rfl (ex_move rfl) rfl rfl (by kernel_rfl) (by kernel_rfl) (by kernel_rfl) fun a hF=>e_p (v:=(iV t_9)) 5 hF rfl (ex_move rfl) rfl rfl (by kernel_rfl) (by kernel_rfl) (by kernel_rfl) fun a hF=>?_
     obtain ⟨e_12,he_12,hb5⟩:=bindS hb5
     obtain ⟨vs13,at13,d13⟩:=h3.at he_12 1 rfl
     obtain rfl : vs13 = [(iV e_12)]:=d13
     refine e_p (v:=(elP s3 (t_9.toNat * 1))) 6 hF rfl (ex_indexAddr Tryd.underlying42 sz3 rfl rfl (h3.idx he_12)) rfl rfl (by kernel_rfl) (by kernel_rfl) (by kernel_rfl) fun a hF=>e_x (v:=(iV e_12)) 7 hF hS rfl (ex_loadE1 0 Tryd.underlying3 rfl rfl ((at13).at) rfl rfl) rfl rfl (by kernel_rfl) (by kernel_rfl) (by kernel_rfl) (by kernel_rfl) fun a hF=>e_p (v:=(.bool (e_10 != e_12))) 8 hF rfl (ex_ibin rfl rfl rfl) rfl rfl (by kernel_rfl) (by kernel_rfl) (by kernel_rfl) fun a hF=>e_end (by kernel_rfl) (n_sq ?_) _
     obtain ⟨n_14,hj7,hb5⟩:=bindS hb5
     refine q_join (fun a w=>Fr a 43 [(1,s2.v),(2,s3.v),(8,(iV n_14)),(26,(iV (goLen p_a))),(27,(iV t_9))]∧St [] w0 w m []) ?_ ?_
     ·rcases bcase (e_10 != e_12) with hc8 | hc8
      ·have hj7:=cond_f hc8 hj7
       refine q_cond_f hF rfl hc8 (q_skipc (n_jn ?_))
       obtain rfl:=someI hj7
       exact ⟨hF.sub ⟨rfl,rfl,rfl,rfl,rfl,trivial⟩,hS⟩
      ·have hj7:=cond_t hc8 hj7
       refine q_cond_t hF rfl hc8 (q_region (q_x (v:=(iV n_8)) hF hS (ex_move rfl) rfl rfl fun a hF=>q_x (v:=(iV (w64 (n_8 + 1)))) hF hS (ex_ibin rfl rfl rfl) rfl rfl fun a hF=>q_x (v:=(iV (w64 (n_8 + 1)))) hF hS (ex_assign rfl) rfl rfl fun a hF=>q_end (n_jn ?_)))
       obtain rfl:=someI hj7
       exact ⟨hF.sub ⟨rfl,rfl,rfl,rfl,rfl,trivial⟩,hS⟩
     ·rintro a w ⟨hF,hS⟩
      refine n_ib (n_sq ?_)
      refine q_region (q_x (v:=(iV (w64 (t_9 + 1)))) hF hS (ex_ibin rfl rfl rfl) rfl rfl fun a hF=>q_x (v:=(iV (w64 (t_9 + 1)))) hF hS (ex_move rfl) rfl rfl fun a hF=>q_end ?_)
      obtain rfl:=someI hb5
      exact ⟨rfl,_,_,rfl,hF.sub ⟨rfl,rfl,rfl,rfl,rfl,trivial⟩,hS⟩
   ·rintro e a w ⟨rfl,hF,hS⟩
    refine x_ib (n_sq ?_)
    refine q_seq (q_region (q_x (v:=(iV n_15)) hF hS (ex_move rfl) rfl rfl fun a hF=>q_x (v:=(iV n_15)) hF hS (ex_assign rfl) rfl rfl fun a hF=>q_x (v:=(.bool true)) hF hS (ex_assign rfl) rfl rfl fun a hF=>q_end (n_sq (q_ret ?_))))
    obtain rfl:=someI hr
    exact ret_of hF hS rfl (.tmp rfl (.tmp rfl .nil)) rfl
  ·have hr:=cond_t hc4 hr
   refine q_cond_t hF rfl hc4 (q_seq (q_region (q_x (v:=(iV 0)) hF hS (ex_assign rfl) rfl rfl fun a hF=>q_x (v:=(.bool false)) hF hS (ex_assign rfl) rfl rfl fun a hF=>q_end (n_sq (q_ret (r_sq ?_))))))
   obtain rfl:=someI hr
   exact ret_of hF hS rfl (.tmp rfl (.tmp rfl .nil)) rfl

theorem c_laws_qSchema (p_a : List impl_Variable) (p_b : List impl_Variable) (r : Bool) (hr : laws_qSchema p_a p_b = some r) (w0 : World) (m : Mem) (hv : Vis m w0) (s1 : Sl) (h1 : Rd m s1 p_a) (s2 : Sl) (h2 : Rd m s2 p_b) :
  Ret Tryd.prog 32 [s1.v,s2.v] w0 (fun v _=>v = (.bool r)):=by
 unfold laws_qSchema at hr
 refine ret_start Tryd.func32 rfl 26 rfl rfl m hv fun a hF hS=>q_seq (q_region (q_x (v:=(.bool false)) hF hS (ex_assign rfl) rfl rfl fun a hF=>q_end (n_sq (q_seq (q_seq (q_region (q_x (v:=s1.v) hF hS (ex_move rfl) rfl rfl fun a hF=>q_x (v:=(iV (goLen p_a))) hF hS (ex_len Tryd.underlying39 rfl h1.len) rfl rfl fun a hF=>q_x (v:=s2.v) hF hS (ex_move rfl) rfl rfl fun a hF=>q_x (v:=(iV (goLen p_b))) hF hS (ex_len Tryd.underlying39 rfl h2.len) rfl rfl fun a hF=>q_x (v:=(.bool ((goLen p_a) != (goLen p_b)))) hF hS (ex_ibin rfl rfl rfl) rfl rfl fun a hF=>q_end (n_sq ?_))))))))
 rcases bcase ((goLen p_a) != (goLen p_b)) with hc1 | hc1
 ·have hr:=cond_f hc1 hr
  refine q_cond_f hF rfl hc1 (q_skipc (n_sq (q_seq (q_seq (q_region (q_x (v:=s1.v) hF hS (ex_move rfl) rfl rfl fun a hF=>q_x (v:=(iV (goLen p_a))) hF hS (ex_len Tryd.underlying39 rfl h1.len) rfl rfl fun a hF=>q_x (v:=(iV 0)) hF hS (ex_move rfl) rfl rfl fun a hF=>q_end (n_sq (q_block ?_))))))))
  obtain ⟨o2,hl2,hr⟩:=bindS hr
  refine q_loop (fun (t_3 : Int) a w=>Fr a 26 [(0,s1.v),(1,s2.v),(12,(iV (goLen p_a))),(13,(iV t_3))]∧St [] w0 w m []) (fun (o : (Unit) ⊕ (Bool)) e a w=>o = .inl ()∧e = .exit 0∧Fr a 26 []∧St [] w0 w m []) hl2 ⟨hF.sub ⟨rfl,rfl,rfl,rfl,trivial⟩,hS⟩ ?_ ?_
  ·clear hF hS
   rintro t_3 a w st ⟨hF,hS⟩ hb2
   unfold laws_qSchema_l1 at hb2
   refine q_seq (q_region (q_x (v:=(.bool (decide (t_3 < (goLen p_a))))) hF hS (ex_ibin rfl rfl rfl) rfl rfl fun a hF=>q_end (n_sq (q_seq ?_))))
   rcases bcase (decide (t_3 < (goLen p_a))) with hc3 | hc3
   ·have hb2:=cond_f hc3 hb2
    refine q_cond_f hF rfl hc3 (q_exit (x_sq ?_))
    obtain rfl:=someI hb2
    exact ⟨nofun,.inl ⟨rfl,rfl,hF.sub trivial,hS⟩⟩
   ·have hb2:=cond_t hc3 hb2
    refine q_cond_t hF rfl hc3 (q_skipc (n_sq (q_seq (q_block (q_seq (q_region (q_x (v:=(iV t_3)) hF hS (ex_move rfl) rfl rfl fun a hF=>q_x (v:=(iV t_3)) hF hS (ex_assign rfl) rfl rfl fun a hF=>q_end (n_sq (q_seq (e_region ⟨[],[]⟩ mixed fun w' hw'=>?_))))))))))
    have hS:=hS.below hw'
    refine e_p (v:=s1.v) 0 hF rfl (ex_move rfl) rfl rfl (by kernel_rfl) (by kernel_rfl) (by kernel_rfl) fun a hF=>e_p (v:=(iV t_3)) 1 hF rfl (ex_move rfl) rfl rfl (by kernel_rfl) (by kernel_rfl) (by kernel_rfl) fun a hF=>?_
    obtain ⟨e_4,he_4,hb2⟩:=bindS hb2
    obtain ⟨vs5,at5,d5⟩:=h1.at he_4 2 rfl
    obtain rfl : vs5 = [(strV e_4.Name),(iV e_4.Levels)]:=d5
    refine e_p (v:=(elP s1 (t_3.toNat * 2))) 2 hF rfl (ex_indexAddr Tryd.underlying39 sz101 rfl rfl (h1.idx he_4)) rfl rfl (by kernel_rfl) (by kernel_rfl) (by kernel_rfl) fun a hF=>e_x (v:=(.agg #[(strV e_4.Name),(iV e_4.Levels)])) 3 hF hS rfl (ex_loadEA (us:=[(strV e_4.Name),(iV e_4.Levels)]) 0 Tryd.underlying101 rfl sz101 rfl ((at5).at) rfl rfl rfl) rfl rfl (by kernel_rfl) (by kernel_rfl) (by kernel_rfl) (by kernel_rfl) fun a hF=>e_p (v:=s2.v) 4 hF rfl (ex_move rfl) rfl rfl (by kernel_rfl) (by kernel_rfl) (by kernel_rfl) fun a hF=>e_p (v:=(iV t_3)) 5 hF rfl (ex_move rfl) rfl rfl (by kernel_rfl) (by kernel_rfl) (by kernel_rfl) fun a hF=>?_
    obtain ⟨e_6,he_6,hb2⟩:=bindS hb2
    obtain ⟨vs7,at7,d7⟩:=h2.at he_6 2 rfl
    obtain rfl : vs7 = [(strV e_6.Name),(iV e_6.Levels)]:=d7
    refine e_p (v:=(elP s2 (t_3.toNat * 2))) 6 hF rfl (ex_indexAddr Tryd.underlying39 sz101 rfl rfl (h2.idx he_6)) rfl rfl (by kernel_rfl) (by kernel_rfl) (by kernel_rfl) fun a hF=>e_x (v:=(.agg #[(strV e_6.Name),(iV e_6.Levels)])) 7 hF hS rfl (ex_loadEA (us:=[(strV e_6.Name),(iV e_6.Levels)]) 0 Tryd.underlying101 rfl sz101 rfl ((at7).at) rfl rfl rfl) rfl rfl (by kernel_rfl) (by kernel_rfl) (by kernel_rfl) (by kernel_rfl) fun a hF=>e_p (v:=(.bool (!((e_4.Name == e_6.Name) && ((e_4.Levels == e_6.Levels) && true))))) 8 hF rfl (ex_neA (xs:=[(strV e_4.Name),(iV e_4.Levels)]) (ys:=[(strV e_6.Name),(iV e_6.Levels)]) rfl rfl (by kernel_rfl) (eqv_struct (xs:=[(strV e_4.Name),(iV e_4.Levels)]) (ys:=[(strV e_6.Name),(iV e_6.Levels)]) Tryd.underlying101 (by kernel_rfl) (eqf_cons rfl (part_cell Tryd.underlying9 rfl rfl) (part_cell Tryd.underlying9 rfl rfl) (eqv_string Tryd.underlying9) (eqf_cons rfl (part_cell Tryd.underlying3 rfl rfl) (part_cell Tryd.underlying3 rfl rfl) (eqv_int Tryd.underlying3) (eqf_nil))))) rfl rfl (by kernel_rfl) (by kernel_rfl) (by kernel_rfl) fun a hF=>e_end (by kernel_rfl) (n_sq ?_) _
    rcases bcase (!((e_4.Name == e_6.Name) && ((e_4.Levels == e_6.Levels) && true))) with hc4 | hc4
    ·have hb2:=cond_f hc4 hb2
     refine q_cond_f hF rfl hc4 (q_skipc (n_ib (n_sq (q_region (q_x (v:=(iV (w64 (t_3 + 1)))) hF hS (ex_ibin rfl rfl rfl) rfl rfl fun a hF=>q_x (v:=(iV (w64 (t_3 + 1)))) hF hS (ex_move rfl) rfl rfl fun a hF=>q_end ?_)))))
     obtain rfl:=someI hb2
     exact ⟨rfl,hF.sub ⟨rfl,rfl,rfl,rfl,trivial⟩,hS⟩
    ·have hb2:=cond_t hc4 hb2
     refine q_cond_t hF rfl hc4 (q_seq (q_region (q_x (v:=(.bool false)) hF hS (ex_assign rfl) rfl rfl fun a hF=>q_end (n_sq (q_ret (r_ib (r_sq ?_)))))))
     obtain rfl:=someI hb2
     refine ⟨nofun,.inr fun ho=>?_⟩
     subst ho
     refine r_ib (r_sq ?_)
     obtain rfl:=someI hr
     exact ret_of hF hS rfl (.tmp rfl .nil) rfl
  ·rintro e a w ⟨rfl,rfl,hF,hS⟩
   refine x_ib (n_sq ?_)
   refine q_seq (q_region (q_x (v:=(.bool true)) hF hS (ex_assign rfl) rfl rfl fun a hF=>q_end (n_sq (q_ret ?_))))
   obtain rfl:=someI hr
   exact ret_of hF hS rfl (.tmp rfl .nil) rfl
 ·have hr:=cond_t hc1 hr
  refine q_cond_t hF rfl hc1 (q_seq (q_region (q_x (v:=(.bool false)) hF hS (ex_assign rfl) rfl rfl fun a hF=>q_end (n_sq (q_ret (r_sq ?_))))))
  obtain rfl:=someI hr
  exact ret_of hF hS rfl (.tmp rfl .nil) rfl

theorem c_laws_FnSchemas (p_code : List (K .u8)) (p_more : List (K .u8)) (r : Bool) (hr : laws_FnSchemas p_code p_more = some r) (w0 : World) (m : Mem) (hv : Vis m w0) (ht : Tbl m) (s1 : Sl) (h1 : Rd m s1 p_code) (s2 : Sl) (h2 : Rd m s2 p_more) :
  Ret Tryd.prog 4 [s1.v,s2.v] w0 (fun v _=>v = (.bool r)):=by
 unfold laws_FnSchemas at hr
 refine ret_start Tryd.func4 rfl 176 rfl rfl m hv fun a hF hS=>q_seq (q_region (q_x (v:=(.bool false)) hF hS (ex_assign rfl) rfl rfl fun a hF=>q_end (n_sq (q_seq (q_seq (q_region (q_x (v:=s1.v) hF hS (ex_move rfl) rfl rfl fun a hF=>q_x (v:=(iV (goLen p_code))) hF hS (ex_len Tryd.underlying22 rfl h1.len) rfl rfl fun a hF=>q_x (v:=s2.v) hF hS (ex_move rfl) rfl rfl fun a hF=>q_x (v:=(iV (goLen p_more))) hF hS (ex_len Tryd.underlying22 rfl h2.len) rfl rfl fun a hF=>q_x (v:=(iV (w64 ((goLen p_code) + (goLen p_more))))) hF hS (ex_ibin rfl rfl rfl) rfl rfl fun a hF=>q_x (v:=(.bool (decide (1048576 < (w64 ((goLen p_code) + (goLen p_more))))))) hF hS (ex_ibin rfl rfl rfl) rfl rfl fun a hF=>q_end (n_sq ?_))))))))
 rcases bcase (decide (1048576 < (w64 ((goLen p_code) + (goLen p_more))))) with hc1 | hc1
 ·have hr:=cond_f hc1 hr
  refine q_cond_f hF rfl hc1 (q_skipc (n_sq (q_seq (q_region (q_x (v:=s1.v) hF hS (ex_move rfl) rfl rfl fun a hF=>?_)))))
  obtain ⟨t_3,ht_3,hr⟩:=bindS hr
  refine q_call (vs:=[s1.v]) hF hS Tryd.func19 (by kernel_rfl) rfl rfl rfl (c_spec_DrawCombinationAt p_code t_3 ht_3 _ m hS.vis s1 h1) ?_
  rintro a w _ ⟨q5,s5,rfl,hR4,h5⟩ hF hS2
  have hS : St _ _ _ _ [q5]:=hS.joinF hR4
  refine q_x (v:=(.tuple #[s5.v,(iV t_3.2)])) hF hS (ex_move rfl) rfl rfl fun a hF=>q_x (v:=s5.v) hF hS (ex_extract rfl rfl) rfl rfl fun a hF=>q_x (v:=(iV t_3.2)) hF hS (ex_extract rfl rfl) rfl rfl fun a hF=>q_x (v:=s5.v) hF hS (ex_assign rfl) rfl rfl fun a hF=>q_x (v:=(iV t_3.2)) hF hS (ex_assign rfl) rfl rfl fun a hF=>q_end (n_sq (q_seq (q_region (q_x (v:=s5.v) hF hS (ex_move rfl) rfl rfl fun a hF=>q_x (v:=(iV t_3.2)) hF hS (ex_move rfl) rfl rfl fun a hF=>?_))))
  obtain ⟨m7,hl7,hv7,hz7⟩:=hS.lend
  obtain ⟨t_6,ht_6,hr⟩:=bindS hr
  refine q_call (vs:=[s5.v,(iV t_3.2)]) hF hS Tryd.func20 (by kernel_rfl) rfl rfl rfl (c_impl_CombinationAt t_3.1 t_3.2 t_6 ht_6 _ m7 hv7 s5 (h5.froz hl7 (hz7 0 _ rfl))) ?_
  rintro a w _ ⟨q9,s9,rfl,hR8,h9⟩ hF hS2
  have hS : St _ _ _ _ [q9,q5]:=hS.joinF hR8
  have h9:=h9.any m
  refine q_x (v:=(.tuple #[s9.v,(.bool t_6.2)])) hF hS (ex_move rfl) rfl rfl fun a hF=>q_x (v:=s9.v) hF hS (ex_extract rfl rfl) rfl rfl fun a hF=>q_x (v:=(.bool t_6.2)) hF hS (ex_extract rfl rfl) rfl rfl fun a hF=>q_x (v:=s9.v) hF hS (ex_assign rfl) rfl rfl fun a hF=>q_x (v:=(.bool t_6.2)) hF hS (ex_assign rfl) rfl rfl fun a hF=>q_end (n_sq (q_seq (q_region (q_x (v:=s5.v) hF hS (ex_move rfl) rfl rfl fun a hF=>q_x (v:=(iV t_3.2)) hF hS (ex_move rfl) rfl rfl fun a hF=>?_))))
  obtain ⟨m11,hl11,hv11,hz11⟩:=hS.lend
  obtain ⟨t_10,ht_10,hr⟩:=bindS hr
  refine q_call (vs:=[s5.v,(iV t_3.2)]) hF hS Tryd.func21 (by kernel_rfl) rfl rfl rfl (c_spec_CombinationAt t_3.1 t_3.2 t_10 ht_10 _ m11 hv11 s5 (h5.froz hl11 (hz11 1 _ rfl))) ?_
  rintro a w _ ⟨q13,s13,rfl,hR12,h13⟩ hF hS2
  have hS : St _ _ _ _ [q13,q9,q5]:=hS.joinF hR12
  have h13:=h13.any m
  refine q_x (v:=(.tuple #[s13.v,(.bool t_10.2)])) hF hS (ex_move rfl) rfl rfl fun a hF=>q_x (v:=s13.v) hF hS (ex_extract rfl rfl) rfl rfl fun a hF=>q_x (v:=(.bool t_10.2)) hF hS (ex_extract rfl rfl) rfl rfl fun a hF=>q_x (v:=s13.v) hF hS (ex_assign rfl) rfl rfl fun a hF=>q_x (v:=(.bool t_10.2)) hF hS (ex_assign rfl) rfl rfl fun a hF=>q_end (n_sq (q_seq (q_region (q_x (v:=s2.v) hF hS (ex_move rfl) rfl rfl fun a hF=>?_))))
  obtain ⟨t_14,ht_14,hr⟩:=bindS hr
  refine q_call (vs:=[s2.v]) hF hS Tryd.func22 (by kernel_rfl) rfl rfl rfl (c_spec_DrawGroupValues p_more t_14 ht_14 _ m hS.vis s2 h2) ?_
  rintro a w _ ⟨q16,q17,q18,s16,s17,s18,rfl,hR15,h16,h17,h18⟩ hF hS2
  have hS : St _ _ _ _ [q16,q17,q18,q13,q9,q5]:=hS.joinF hR15
  refine q_x (v:=(.tuple #[s16.v,(.agg #[(iV t_14.2.1.Var),s17.v]),s18.v])) hF hS (ex_move rfl) rfl rfl fun a hF=>q_x (v:=s16.v) hF hS (ex_extract rfl rfl) rfl rfl fun a hF=>q_x (v:=(.agg #[(iV t_14.2.1.Var),s17.v])) hF hS (ex_extract rfl rfl) rfl rfl fun a hF=>q_x (v:=s18.v) hF hS (ex_extract rfl rfl) rfl rfl fun a hF=>q_alloc (cs:=[(iV 0),nilS.v]) hF hS rfl rfl rfl fun a w b19 hF hS=>q_x (v:=s16.v) hF hS (ex_assign rfl) rfl rfl fun a hF=>q_store (vs:=[(iV t_14.2.1.Var),s17.v]) (cs':=[(iV t_14.2.1.Var),s17.v]) 0 0 hF hS sz46 rfl rfl rfl rfl rfl rfl rfl rfl fun a w hF hS=>q_x (v:=s18.v) hF hS (ex_assign rfl) rfl rfl fun a hF=>q_end (n_sq (q_seq (q_region (q_x (v:=s16.v) hF hS (ex_move rfl) rfl rfl fun a hF=>q_x (v:=(.agg #[(iV t_14.2.1.Var),s17.v])) hF hS (ex_loadA (vs:=[(iV t_14.2.1.Var),s17.v]) 0 0 Tryd.underlying46 rfl sz46 rfl rfl rfl rfl) rfl rfl fun a hF=>q_x (v:=s18.v) hF hS (ex_move rfl) rfl rfl fun a hF=>?_))))
  obtain ⟨m21,hl21,hv21,hz21⟩:=hS.lend
  obtain ⟨t_20,ht_20,hr⟩:=bindS hr
  refine q_call (vs:=[s16.v,(.agg #[(iV t_14.2.1.Var),s17.v]),s18.v]) hF hS Tryd.func23 (by kernel_rfl) rfl rfl rfl (c_impl_GroupValues t_14.1 t_14.2.1 t_14.2.2 t_20 ht_20 _ m21 hv21 s16 (h16.froz hl21 (hz21 1 _ rfl)) s17 (h17.froz hl21 (hz21 2 _ rfl)) s18 (h18.froz hl21 (hz21 3 _ rfl))) ?_
  rintro a w _ ⟨q23,s23,rfl,hR22,h23⟩ hF hS2
  have hS : St _ _ _ _ [q23,[⟨b19,[(iV t_14.2.1.Var),s17.v],46⟩],q16,q17,q18,q13,q9,q5]:=hS.joinF hR22
  have h23:=h23.any m
  refine q_x (v:=(.tuple #[s23.v,(.bool t_20.2)])) hF hS (ex_move rfl) rfl rfl fun a hF=>q_x (v:=s23.v) hF hS (ex_extract rfl rfl) rfl rfl fun a hF=>q_x (v:=(.bool t_20.2)) hF hS (ex_extract rfl rfl) rfl rfl fun a hF=>q_x (v:=s23.v) hF hS (ex_assign rfl) rfl rfl fun a hF=>q_x (v:=(.bool t_20.2)) hF hS (ex_assign rfl) rfl rfl fun a hF=>q_end (n_sq (q_seq (q_region (q_x (v:=s16.v) hF hS (ex_move rfl) rfl rfl fun a hF=>q_x (v:=(.agg #[(iV t_14.2.1.Var),s17.v])) hF hS (ex_loadA (vs:=[(iV t_14.2.1.Var),s17.v]) 1 0 Tryd.underlying46 rfl sz46 rfl rfl rfl rfl) rfl rfl fun a hF=>q_x (v:=s18.v) hF hS (ex_move rfl) rfl rfl fun a hF=>?_))))
  obtain ⟨m25,hl25,hv25,hz25⟩:=hS.lend
  obtain ⟨t_24,ht_24,hr⟩:=bindS hr
  refine q_call (vs:=[s16.v,(.agg #[(iV t_14.2.1.Var),s17.v]),s18.v]) hF hS Tryd.func24 (by kernel_rfl) rfl rfl rfl (c_spec_GroupValues t_14.1 t_14.2.1 t_14.2.2 t_24 ht_24 _ m25 hv25 s16 (h16.froz hl25 (hz25 2 _ rfl)) s17 (h17.froz hl25 (hz25 3 _ rfl)) s18 (h18.froz hl25 (hz25 4 _ rfl))) ?_
  rintro a w _ ⟨q27,s27,rfl,hR26,h27⟩ hF hS2
  have hS : St _ _ _ _ [q27,q23,[⟨b19,[(iV t_14.2.1.Var),s17.v],46⟩],q16,q17,q18,q13,q9,q5]:=hS.joinF hR26
  have h27:=h27.any m
  refine q_x (v:=(.tuple #[s27.v,(.bool t_24.2)])) hF hS (ex_move rfl) rfl rfl fun a hF=>q_x (v:=s27.v) hF hS (ex_extract rfl rfl) rfl rfl fun a hF=>q_x (v:=(.bool t_24.2)) hF hS (ex_extract rfl rfl) rfl rfl fun a hF=>q_x (v:=s27.v) hF hS (ex_assign rfl) rfl rfl fun a hF=>q_x (v:=(.bool t_24.2)) hF hS (ex_assign rfl) rfl rfl fun a hF=>q_end (n_sq (q_seq (q_seq ?_)))
  obtain ⟨t_32,hj2,hr⟩:=bindS hr
  refine q_join (fun a w=>Fr a 176 [(5,s5.v),(6,(iV t_3.2)),(7,s9.v),(8,(.bool t_6.2)),(11,s16.v),(12,(.pointer (some ⟨b19,0,none⟩))),(14,s23.v),(15,(.bool t_20.2)),(94,(.bool t_32))]∧St [] w0 w m [q5,q9,q16,q23,q17,[⟨b19,[(iV t_14.2.1.Var),s17.v],46⟩]]) ?_ ?_
  ·refine q_region (q_x (v:=(.bool t_6.2)) hF hS (ex_move rfl) rfl rfl fun a hF=>q_x (v:=(.bool t_10.2)) hF hS (ex_move rfl) rfl rfl fun a hF=>q_x (v:=(.bool (t_6.2 != t_10.2))) hF hS (ex_bne Tryd.underlying4 rfl rfl) rfl rfl fun a hF=>q_x (v:=(.bool (t_6.2 != t_10.2))) hF hS (ex_move rfl) rfl rfl fun a hF=>?_)
   rcases bcase (t_6.2 != t_10.2) with hc3 | hc3
   ·have hj2:=cond_f hc3 hj2
    refine q_xg (v:=s9.v) hF hS (ex_move rfl) (wanted_t hF rfl rfl rfl hc3) rfl fun a hF=>q_xg (v:=s13.v) hF hS (ex_move rfl) (wanted_t hF rfl rfl rfl hc3) rfl fun a hF=>?_
    obtain ⟨m29,hl29,hv29,hz29⟩:=hS.lend
    obtain ⟨t_28,ht_28,hj2⟩:=bindS hj2
    refine q_callg (vs:=[s9.v,s13.v]) hF hS (wanted_t hF rfl rfl rfl hc3) Tryd.func25 (by kernel_rfl) rfl rfl rfl (c_laws_qInts t_6.1 t_10.1 t_28 ht_28 _ m29 hv29 s9 (h9.froz hl29 (hz29 7 _ rfl)) s13 (h13.froz hl29 (hz29 6 _ rfl))) ?_
    rintro a w _ rfl hF hS
    refine q_xg (v:=(.bool (!t_28))) hF hS (ex_not rfl) (wanted_t hF rfl rfl rfl hc3) rfl fun a hF=>q_x (v:=(.bool (!t_28))) hF hS (ex_pick_f rfl rfl hc3) rfl rfl fun a hF=>q_x (v:=(.bool (!t_28))) hF hS (ex_move rfl) rfl rfl fun a hF=>?_
    rcases bcase (!t_28) with hc4 | hc4
    ·have hj2:=cond_f hc4 hj2
     refine q_xg (v:=(.bool t_20.2)) hF hS (ex_move rfl) (wanted_t hF rfl rfl rfl hc4) rfl fun a hF=>q_xg (v:=(.bool t_24.2)) hF hS (ex_move rfl) (wanted_t hF rfl rfl rfl hc4) rfl fun a hF=>q_xg (v:=(.bool (t_20.2 != t_24.2))) hF hS (ex_bne Tryd.underlying4 rfl rfl) (wanted_t hF rfl rfl rfl hc4) rfl fun a hF=>q_x (v:=(.bool (t_20.2 != t_24.2))) hF hS (ex_pick_f rfl rfl hc4) rfl rfl fun a hF=>q_x (v:=(.bool (t_20.2 != t_24.2))) hF hS (ex_move rfl) rfl rfl fun a hF=>?_
     rcases bcase (t_20.2 != t_24.2) with hc5 | hc5
     ·have hj2:=cond_f hc5 hj2
      refine q_xg (v:=s23.v) hF hS (ex_move rfl) (wanted_t hF rfl rfl rfl hc5) rfl fun a hF=>q_xg (v:=s27.v) hF hS (ex_move rfl) (wanted_t hF rfl rfl rfl hc5) rfl fun a hF=>?_
      obtain ⟨m31,hl31,hv31,hz31⟩:=hS.lend
      obtain ⟨t_30,ht_30,hj2⟩:=bindS hj2
      refine q_callg (vs:=[s23.v,s27.v]) hF hS (wanted_t hF rfl rfl rfl hc5) Tryd.func25 (by kernel_rfl) rfl rfl rfl (c_laws_qInts t_20.1 t_24.1 t_30 ht_30 _ m31 hv31 s23 (h23.froz hl31 (hz31 1 _ rfl)) s27 (h27.froz hl31 (hz31 0 _ rfl))) ?_
      rintro a w _ rfl hF hS
      refine q_xg (v:=(.bool (!t_30))) hF hS (ex_not rfl) (wanted_t hF rfl rfl rfl hc5) rfl fun a hF=>q_x (v:=(.bool (!t_30))) hF hS (ex_pick_f rfl rfl hc5) rfl rfl fun a hF=>q_end (n_jn ?_)
      obtain rfl:=someI hj2
      exact ⟨hF.sub ⟨rfl,rfl,rfl,rfl,rfl,rfl,rfl,rfl,rfl,trivial⟩,hS.sel [8,7,3,1,4,2] (by decide)⟩
     ·have hj2:=cond_t hc5 hj2
      refine q_skip hF (wanted_f hF rfl rfl rfl hc5 rfl) rfl fun a hF=>q_skip hF (wanted_f hF rfl rfl rfl hc5 rfl) rfl fun a hF=>q_skip hF (wanted_f hF rfl rfl rfl hc5 rfl) rfl fun a hF=>q_skip hF (wanted_f hF rfl rfl rfl hc5 rfl) rfl fun a hF=>q_x (v:=(.bool true)) hF hS (ex_pick_t rfl rfl hc5) rfl rfl fun a hF=>q_end (n_jn ?_)
      obtain rfl:=someI hj2
      exact ⟨hF.sub ⟨rfl,rfl,rfl,rfl,rfl,rfl,rfl,rfl,rfl,trivial⟩,hS.sel [8,7,3,1,4,2] (by decide)⟩
    ·have hj2:=cond_t hc4 hj2
     refine q_skip hF (wanted_f hF rfl rfl rfl hc4 rfl) rfl fun a hF=>q_skip hF (wanted_f hF rfl rfl rfl hc4 rfl) rfl fun a hF=>q_skip hF (wanted_f hF rfl rfl rfl hc4 rfl) rfl fun a hF=>q_x (v:=(.bool true)) hF hS (ex_pick_t rfl rfl hc4) rfl rfl fun a hF=>q_x (v:=(.bool true)) hF hS (ex_move rfl) rfl rfl fun a hF=>q_skip hF (wanted_f hF rfl rfl rfl rfl rfl) rfl fun a hF=>q_skip hF (wanted_f hF rfl rfl rfl rfl rfl) rfl fun a hF=>q_skip hF (wanted_f hF rfl rfl rfl rfl rfl) rfl fun a hF=>q_skip hF (wanted_f hF rfl rfl rfl rfl rfl) rfl fun a hF=>q_x (v:=(.bool true)) hF hS (ex_pick_t rfl rfl rfl) rfl rfl fun a hF=>q_end (n_jn ?_)
     obtain rfl:=someI hj2
     exact ⟨hF.sub ⟨rfl,rfl,rfl,rfl,rfl,rfl,rfl,rfl,rfl,trivial⟩,hS.sel [8,7,3,1,4,2] (by decide)⟩
   ·have hj2:=cond_t hc3 hj2
    refine q_skip hF (wanted_f hF rfl rfl rfl hc3 rfl) rfl fun a hF=>q_skip hF (wanted_f hF rfl rfl rfl hc3 rfl) rfl fun a hF=>q_skip hF (wanted_f hF rfl rfl rfl hc3 rfl) rfl fun a hF=>q_skip hF (wanted_f hF rfl rfl rfl hc3 rfl) rfl fun a hF=>q_x (v:=(.bool true)) hF hS (ex_pick_t rfl rfl hc3) rfl rfl fun a hF=>q_x (v:=(.bool true)) hF hS (ex_move rfl) rfl rfl fun a hF=>q_skip hF (wanted_f hF rfl rfl rfl rfl rfl) rfl fun a hF=>q_skip hF (wanted_f hF rfl rfl rfl rfl rfl) rfl fun a hF=>q_skip hF (wanted_f hF rfl rfl rfl rfl rfl) rfl fun a hF=>q_x (v:=(.bool true)) hF hS (ex_pick_t rfl rfl rfl) rfl rfl fun a hF=>q_x (v:=(.bool true)) hF hS (ex_move rfl) rfl rfl fun a hF=>q_skip hF (wanted_f hF rfl rfl rfl rfl rfl) rfl fun a hF=>q_skip hF (wanted_f hF rfl rfl rfl rfl rfl) rfl fun a hF=>q_skip hF (wanted_f hF rfl rfl rfl rfl rfl) rfl fun a hF=>q_skip hF (wanted_f hF rfl rfl rfl rfl rfl) rfl fun a hF=>q_x (v:=(.bool true)) hF hS (ex_pick_t rfl rfl rfl) rfl rfl fun a hF=>q_end (n_jn ?_)
    obtain rfl:=someI hj2
    exact ⟨hF.sub ⟨rfl,rfl,rfl,rfl,rfl,rfl,rfl,rfl,rfl,trivial⟩,hS.sel [8,7,3,1,4,2] (by decide)⟩
  ·rintro a w ⟨hF,hS⟩
   refine n_sq ?_
   rcases bcase (t_32) with hc6 | hc6
   ·have hr:=cond_f hc6 hr
    refine q_cond_f hF rfl hc6 (q_skipc (n_sq (q_seq (q_seq (q_region (q_x (v:=(.bool t_20.2)) hF hS (ex_move rfl) rfl rfl fun a hF=>q_end (n_sq ?_)))))))
    obtain ⟨j7,hj7,hr⟩:=bindS hr
    refine q_join (fun a w=>j7 = .inl ()∧Fr a 176 [(5,s5.v),(6,(iV t_3.2)),(7,s9.v),(8,(.bool t_6.2))]∧St [] w0 w m [q5,q9]) ?_ ?_
    ·rcases bcase (t_20.2) with hc8 | hc8
     ·have hj7:=cond_f hc8 hj7
      refine q_cond_f hF rfl hc8 (q_skipc (n_jn ?_))
      obtain rfl:=someI hj7
      exact ⟨rfl,hF.sub ⟨rfl,rfl,rfl,rfl,trivial⟩,hS.mask [true,true,false,false,false,false]⟩
     ·have hj7:=cond_t hc8 hj7
      refine q_cond_t hF rfl hc8 (q_seq (q_region (q_x (v:=s16.v) hF hS (ex_move rfl) rfl rfl fun a hF=>q_x (v:=(.agg #[(iV t_14.2.1.Var),s17.v])) hF hS (ex_loadA (vs:=[(iV t_14.2.1.Var),s17.v]) 5 0 Tryd.underlying46 rfl sz46 rfl rfl rfl rfl) rfl rfl fun a hF=>?_)))
      obtain ⟨m34,hl34,hv34,hz34⟩:=hS.lend
      obtain ⟨t_33,ht_33,hj7⟩:=bindS hj7
      refine q_call (vs:=[s16.v,(.agg #[(iV t_14.2.1.Var),s17.v])]) hF hS Tryd.func26 (by kernel_rfl) rfl rfl rfl (c_impl_GroupSchema t_14.1 t_14.2.1 t_33 ht_33 _ m34 hv34 s16 (h16.froz hl34 (hz34 2 _ rfl)) s17 (h17.froz hl34 (hz34 4 _ rfl))) ?_
      rintro a w _ ⟨q36,s36,rfl,hR35,h36⟩ hF hS2
      have hS : St _ _ _ _ [q36,q5,q9,q16,q23,q17,[⟨b19,[(iV t_14.2.1.Var),s17.v],46⟩]]:=hS.joinF hR35
      have h36:=h36.any m
      refine q_x (v:=(.tuple #[s36.v,(.bool t_33.2)])) hF hS (ex_move rfl) rfl rfl fun a hF=>q_x (v:=s36.v) hF hS (ex_extract rfl rfl) rfl rfl fun a hF=>q_x (v:=(.bool t_33.2)) hF hS (ex_extract rfl rfl) rfl rfl fun a hF=>q_x (v:=s36.v) hF hS (ex_assign rfl) rfl rfl fun a hF=>q_x (v:=(.bool t_33.2)) hF hS (ex_assign rfl) rfl rfl fun a hF=>q_end (n_sq (q_seq (q_region (q_x (v:=s36.v) hF hS (ex_move rfl) rfl rfl fun a hF=>q_x (v:=s23.v) hF hS (ex_move rfl) rfl rfl fun a hF=>?_))))
      obtain ⟨m38,hl38,hv38,hz38⟩:=hS.lend
      obtain ⟨t_37,ht_37,hj7⟩:=bindS hj7
      refine q_call (vs:=[s36.v,s23.v]) hF hS Tryd.func27 (by kernel_rfl) rfl rfl rfl (c_impl_CombinationIndex t_33.1 t_20.1 t_37 ht_37 _ m38 hv38 s36 (h36.froz hl38 (hz38 0 _ rfl)) s23 (h23.froz hl38 (hz38 4 _ rfl))) ?_
      rintro a w _ rfl hF hS
      refine q_x (v:=(.tuple #[(iV t_37.1),(.bool t_37.2)])) hF hS (ex_move rfl) rfl rfl fun a hF=>q_x (v:=(iV t_37.1)) hF hS (ex_extract rfl rfl) rfl rfl fun a hF=>q_x (v:=(.bool t_37.2)) hF hS (ex_extract rfl rfl) rfl rfl fun a hF=>q_x (v:=(iV t_37.1)) hF hS (ex_assign rfl) rfl rfl fun a hF=>q_x (v:=(.bool t_37.2)) hF hS (ex_assign rfl) rfl rfl fun a hF=>q_end (n_sq (q_seq ?_))
      obtain ⟨t_39,hj9,hj7⟩:=bindS hj7
      refine q_join (fun a w=>Fr a 176 [(5,s5.v),(6,(iV t_3.2)),(7,s9.v),(8,(.bool t_6.2)),(113,(.bool t_39))]∧St [] w0 w m [q5,q9]) ?_ ?_
      ·refine q_region (q_x (v:=(.bool t_33.2)) hF hS (ex_move rfl) rfl rfl fun a hF=>q_x (v:=(.bool (!t_33.2))) hF hS (ex_not rfl) rfl rfl fun a hF=>q_x (v:=(.bool (!t_33.2))) hF hS (ex_move rfl) rfl rfl fun a hF=>?_)
       rcases bcase (!t_33.2) with hc10 | hc10
       ·have hj9:=cond_f hc10 hj9
        refine q_xg (v:=(.bool t_37.2)) hF hS (ex_move rfl) (wanted_t hF rfl rfl rfl hc10) rfl fun a hF=>q_xg (v:=(.bool (!t_37.2))) hF hS (ex_not rfl) (wanted_t hF rfl rfl rfl hc10) rfl fun a hF=>q_x (v:=(.bool (!t_37.2))) hF hS (ex_pick_f rfl rfl hc10) rfl rfl fun a hF=>q_end (n_jn ?_)
        obtain rfl:=someI hj9
        exact ⟨hF.sub ⟨rfl,rfl,rfl,rfl,rfl,trivial⟩,hS.mask [false,true,true,false,false,false,false]⟩
       ·have hj9:=cond_t hc10 hj9
        refine q_skip hF (wanted_f hF rfl rfl rfl hc10 rfl) rfl fun a hF=>q_skip hF (wanted_f hF rfl rfl rfl hc10 rfl) rfl fun a hF=>q_x (v:=(.bool true)) hF hS (ex_pick_t rfl rfl hc10) rfl rfl fun a hF=>q_end (n_jn ?_)
        obtain rfl:=someI hj9
        exact ⟨hF.sub ⟨rfl,rfl,rfl,rfl,rfl,trivial⟩,hS.mask [false,true,true,false,false,false,false]⟩
      ·rintro a w ⟨hF,hS⟩
       refine n_sq ?_
       rcases bcase (t_39) with hc11 | hc11
       ·have hj7:=cond_f hc11 hj7
        refine q_cond_f hF rfl hc11 (q_skipc (n_jn ?_))
        obtain rfl:=someI hj7
        exact ⟨rfl,hF.sub ⟨rfl,rfl,rfl,rfl,trivial⟩,hS⟩
       ·have hj7:=cond_t hc11 hj7
        refine q_cond_t hF rfl hc11 (q_seq (q_region (q_x (v:=(.bool false)) hF hS (ex_assign rfl) rfl rfl fun a hF=>q_end (n_sq (q_ret (r_jn ?_))))))
        obtain rfl:=someI hj7
        refine r_sq ?_
        obtain rfl:=someI hr
        exact ret_of hF hS rfl (.tmp rfl .nil) rfl
    ·rintro a w ⟨rfl,hF,hS⟩
     refine n_sq ?_
     refine q_seq (q_seq (q_region (q_x (v:=(.bool t_6.2)) hF hS (ex_move rfl) rfl rfl fun a hF=>q_x (v:=(.bool (!t_6.2))) hF hS (ex_not rfl) rfl rfl fun a hF=>q_end (n_sq ?_))))
     rcases bcase (!t_6.2) with hc12 | hc12
     ·have hr:=cond_f hc12 hr
      refine q_cond_f hF rfl hc12 (q_skipc (n_sq (q_seq (q_region (q_x (v:=s5.v) hF hS (ex_move rfl) rfl rfl fun a hF=>q_x (v:=s9.v) hF hS (ex_move rfl) rfl rfl fun a hF=>?_)))))
      obtain ⟨m41,hl41,hv41,hz41⟩:=hS.lend
      obtain ⟨t_40,ht_40,hr⟩:=bindS hr
      refine q_call (vs:=[s5.v,s9.v]) hF hS Tryd.func27 (by kernel_rfl) rfl rfl rfl (c_impl_CombinationIndex t_3.1 t_6.1 t_40 ht_40 _ m41 hv41 s5 (h5.froz hl41 (hz41 0 _ rfl)) s9 (h9.froz hl41 (hz41 1 _ rfl))) ?_
      rintro a w _ rfl hF hS
      refine q_x (v:=(.tuple #[(iV t_40.1),(.bool t_40.2)])) hF hS (ex_move rfl) rfl rfl fun a hF=>q_x (v:=(iV t_40.1)) hF hS (ex_extract rfl rfl) rfl rfl fun a hF=>q_x (v:=(.bool t_40.2)) hF hS (ex_extract rfl rfl) rfl rfl fun a hF=>q_x (v:=(iV t_40.1)) hF hS (ex_assign rfl) rfl rfl fun a hF=>q_x (v:=(.bool t_40.2)) hF hS (ex_assign rfl) rfl rfl fun a hF=>q_end (n_sq (q_seq (q_region (q_x (v:=s5.v) hF hS (ex_move rfl) rfl rfl fun a hF=>?_))))
      obtain ⟨m43,hl43,hv43,hz43⟩:=hS.lend
      obtain ⟨t_42,ht_42,hr⟩:=bindS hr
      refine q_call (vs:=[s5.v]) hF hS Tryd.func28 (by kernel_rfl) rfl rfl rfl (c_impl_CombinationCount t_3.1 t_42 ht_42 _ m43 hv43 s5 (h5.froz hl43 (hz43 0 _ rfl))) ?_
      rintro a w _ rfl hF hS
      refine q_x (v:=(.tuple #[(iV t_42.1),(.bool t_42.2)])) hF hS (ex_move rfl) rfl rfl fun a hF=>q_x (v:=(iV t_42.1)) hF hS (ex_extract rfl rfl) rfl rfl fun a hF=>q_x (v:=(.bool t_42.2)) hF hS (ex_extract rfl rfl) rfl rfl fun a hF=>q_x (v:=(iV t_42.1)) hF hS (ex_assign rfl) rfl rfl fun a hF=>q_x (v:=(.bool t_42.2)) hF hS (ex_assign rfl) rfl rfl fun a hF=>q_end (n_sq (q_seq (q_region (q_x (v:=s5.v) hF hS (ex_move rfl) rfl rfl fun a hF=>?_))))
      obtain ⟨m45,hl45,hv45,hz45⟩:=hS.lend
      obtain ⟨t_44,ht_44,hr⟩:=bindS hr
      refine q_call (vs:=[s5.v]) hF hS Tryd.func29 (by kernel_rfl) rfl rfl rfl (c_impl_SchemaText t_3.1 t_44 ht_44 _ m45 hv45 (ht.mono hl45) s5 (h5.froz hl45 (hz45 0 _ rfl))) ?_
      rintro a w _ rfl hF hS
      refine q_x (v:=(.tuple #[(strV t_44.1),(.bool t_44.2)])) hF hS (ex_move rfl) rfl rfl fun a hF=>q_x (v:=(strV t_44.1)) hF hS (ex_extract rfl rfl) rfl rfl fun a hF=>q_x (v:=(.bool t_44.2)) hF hS (ex_extract rfl rfl) rfl rfl fun a hF=>q_x (v:=(strV t_44.1)) hF hS (ex_assign rfl) rfl rfl fun a hF=>q_x (v:=(.bool t_44.2)) hF hS (ex_assign rfl) rfl rfl fun a hF=>q_end (n_sq (q_seq (q_region (q_x (v:=(strV t_44.1)) hF hS (ex_move rfl) rfl rfl fun a hF=>?_))))
      obtain ⟨t_46,ht_46,hr⟩:=bindS hr
      refine q_call (vs:=[(strV t_44.1)]) hF hS Tryd.func30 (by kernel_rfl) rfl rfl rfl (c_impl_ParseSchema t_44.1 t_46 ht_46 _ m hS.vis ht) ?_
      rintro a w _ ⟨q48,s48,rfl,hR47,h48⟩ hF hS2
      have hS : St _ _ _ _ [q48,q5,q9]:=hS.joinF hR47
      refine q_x (v:=(.tuple #[s48.v,(.bool t_46.2)])) hF hS (ex_move rfl) rfl rfl fun a hF=>q_x (v:=s48.v) hF hS (ex_extract rfl rfl) rfl rfl fun a hF=>q_x (v:=(.bool t_46.2)) hF hS (ex_extract rfl rfl) rfl rfl fun a hF=>q_x (v:=s48.v) hF hS (ex_assign rfl) rfl rfl fun a hF=>q_x (v:=(.bool t_46.2)) hF hS (ex_assign rfl) rfl rfl fun a hF=>q_end (n_sq (q_seq (q_region (q_x (v:=s5.v) hF hS (ex_move rfl) rfl rfl fun a hF=>q_x (v:=s9.v) hF hS (ex_move rfl) rfl rfl fun a hF=>q_x (v:=s9.v) hF hS (ex_move rfl) rfl rfl fun a hF=>?_))))
      obtain ⟨m50,hl50,hv50,hz50⟩:=hS.lend
      obtain ⟨t_49,ht_49,hr⟩:=bindS hr
      refine q_call (vs:=[s5.v,s9.v,s9.v]) hF hS Tryd.func31 (by kernel_rfl) rfl rfl rfl (c_impl_ValueDistance t_3.1 t_6.1 t_6.1 t_49 ht_49 _ m50 hv50 s5 (h5.froz hl50 (hz50 1 _ rfl)) s9 (h9.froz hl50 (hz50 2 _ rfl)) s9 (h9.froz hl50 (hz50 2 _ rfl))) ?_
      rintro a w _ rfl hF hS
      refine q_x (v:=(.tuple #[(iV t_49.1),(.bool t_49.2)])) hF hS (ex_move rfl) rfl rfl fun a hF=>q_x (v:=(iV t_49.1)) hF hS (ex_extract rfl rfl) rfl rfl fun a hF=>q_x (v:=(.bool t_49.2)) hF hS (ex_extract rfl rfl) rfl rfl fun a hF=>q_x (v:=(iV t_49.1)) hF hS (ex_assign rfl) rfl rfl fun a hF=>q_x (v:=(.bool t_49.2)) hF hS (ex_assign rfl) rfl rfl fun a hF=>q_end (n_sq (q_seq ?_))
      obtain ⟨t_53,hj13,hr⟩:=bindS hr
      refine q_join (fun a w=>Fr a 176 [(4,(.bool t_53))]∧St [] w0 w m []) ?_ ?_
      ·refine q_region (q_x (v:=(.bool t_40.2)) hF hS (ex_move rfl) rfl rfl fun a hF=>q_x (v:=(.bool t_40.2)) hF hS (ex_move rfl) rfl rfl fun a hF=>?_)
       rcases bcase (t_40.2) with hc14 | hc14
       ·have hj13:=cond_f hc14 hj13
        refine q_skip hF (wanted_f hF rfl rfl rfl hc14 rfl) rfl fun a hF=>q_x (v:=(.bool false)) hF hS (ex_pick_f rfl rfl hc14) rfl rfl fun a hF=>q_x (v:=(.bool false)) hF hS (ex_move rfl) rfl rfl fun a hF=>q_skip hF (wanted_f hF rfl rfl rfl rfl rfl) rfl fun a hF=>q_x (v:=(.bool false)) hF hS (ex_pick_f rfl rfl rfl) rfl rfl fun a hF=>q_x (v:=(.bool false)) hF hS (ex_move rfl) rfl rfl fun a hF=>q_skip hF (wanted_f hF rfl rfl rfl rfl rfl) rfl fun a hF=>q_x (v:=(.bool false)) hF hS (ex_pick_f rfl rfl rfl) rfl rfl fun a hF=>q_x (v:=(.bool false)) hF hS (ex_move rfl) rfl rfl fun a hF=>q_skip hF (wanted_f hF rfl rfl rfl rfl rfl) rfl fun a hF=>q_x (v:=(.bool false)) hF hS (ex_pick_f rfl rfl rfl) rfl rfl fun a hF=>q_x (v:=(.bool false)) hF hS (ex_move rfl) rfl rfl fun a hF=>q_skip hF (wanted_f hF rfl rfl rfl rfl rfl) rfl fun a hF=>q_skip hF (wanted_f hF rfl rfl rfl rfl rfl) rfl fun a hF=>q_skip hF (wanted_f hF rfl rfl rfl rfl rfl) rfl fun a hF=>q_x (v:=(.bool false)) hF hS (ex_pick_f rfl rfl rfl) rfl rfl fun a hF=>q_x (v:=(.bool false)) hF hS (ex_move rfl) rfl rfl fun a hF=>q_skip hF (wanted_f hF rfl rfl rfl rfl rfl) rfl fun a hF=>q_skip hF (wanted_f hF rfl rfl rfl rfl rfl) rfl fun a hF=>q_skip hF (wanted_f hF rfl rfl rfl rfl rfl) rfl fun a hF=>q_x (v:=(.bool false)) hF hS (ex_pick_f rfl rfl rfl) rfl rfl fun a hF=>q_x (v:=(.bool false)) hF hS (ex_move rfl) rfl rfl fun a hF=>q_skip hF (wanted_f hF rfl rfl rfl rfl rfl) rfl fun a hF=>q_skip hF (wanted_f hF rfl rfl rfl rfl rfl) rfl fun a hF=>q_skip hF (wanted_f hF rfl rfl rfl rfl rfl) rfl fun a hF=>?_
        refine q_x (v:=(.bool false)) hF hS (ex_pick_f rfl rfl rfl) rfl rfl fun a hF=>q_x (v:=(.bool false)) hF hS (ex_move rfl) rfl rfl fun a hF=>q_skip hF (wanted_f hF rfl rfl rfl rfl rfl) rfl fun a hF=>q_skip hF (wanted_f hF rfl rfl rfl rfl rfl) rfl fun a hF=>q_x (v:=(.bool false)) hF hS (ex_pick_f rfl rfl rfl) rfl rfl fun a hF=>q_x (v:=(.bool false)) hF hS (ex_assign rfl) rfl rfl fun a hF=>q_end (n_jn ?_)
        obtain rfl:=someI hj13
        exact ⟨hF.sub ⟨rfl,trivial⟩,hS.mask [false,false,false]⟩
       ·have hj13:=cond_t hc14 hj13
        refine q_xg (v:=(.bool t_42.2)) hF hS (ex_move rfl) (wanted_t hF rfl rfl rfl hc14) rfl fun a hF=>q_x (v:=(.bool t_42.2)) hF hS (ex_pick_t rfl rfl hc14) rfl rfl fun a hF=>q_x (v:=(.bool t_42.2)) hF hS (ex_move rfl) rfl rfl fun a hF=>?_
        rcases bcase (t_42.2) with hc15 | hc15
        ·have hj13:=cond_f hc15 hj13
         refine q_skip hF (wanted_f hF rfl rfl rfl hc15 rfl) rfl fun a hF=>q_x (v:=(.bool false)) hF hS (ex_pick_f rfl rfl hc15) rfl rfl fun a hF=>q_x (v:=(.bool false)) hF hS (ex_move rfl) rfl rfl fun a hF=>q_skip hF (wanted_f hF rfl rfl rfl rfl rfl) rfl fun a hF=>q_x (v:=(.bool false)) hF hS (ex_pick_f rfl rfl rfl) rfl rfl fun a hF=>q_x (v:=(.bool false)) hF hS (ex_move rfl) rfl rfl fun a hF=>q_skip hF (wanted_f hF rfl rfl rfl rfl rfl) rfl fun a hF=>q_x (v:=(.bool false)) hF hS (ex_pick_f rfl rfl rfl) rfl rfl fun a hF=>q_x (v:=(.bool false)) hF hS (ex_move rfl) rfl rfl fun a hF=>q_skip hF (wanted_f hF rfl rfl rfl rfl rfl) rfl fun a hF=>q_skip hF (wanted_f hF rfl rfl rfl rfl rfl) rfl fun a hF=>q_skip hF (wanted_f hF rfl rfl rfl rfl rfl) rfl fun a hF=>q_x (v:=(.bool false)) hF hS (ex_pick_f rfl rfl rfl) rfl rfl fun a hF=>q_x (v:=(.bool false)) hF hS (ex_move rfl) rfl rfl fun a hF=>q_skip hF (wanted_f hF rfl rfl rfl rfl rfl) rfl fun a hF=>q_skip hF (wanted_f hF rfl rfl rfl rfl rfl) rfl fun a hF=>q_skip hF (wanted_f hF rfl rfl rfl rfl rfl) rfl fun a hF=>q_x (v:=(.bool false)) hF hS (ex_pick_f rfl rfl rfl) rfl rfl fun a hF=>q_x (v:=(.bool false)) hF hS (ex_move rfl) rfl rfl fun a hF=>q_skip hF (wanted_f hF rfl rfl rfl rfl rfl) rfl fun a hF=>q_skip hF (wanted_f hF rfl rfl rfl rfl rfl) rfl fun a hF=>q_skip hF (wanted_f hF rfl rfl rfl rfl rfl) rfl fun a hF=>q_x (v:=(.bool false)) hF hS (ex_pick_f rfl rfl rfl) rfl rfl fun a hF=>q_x (v:=(.bool false)) hF hS (ex_move rfl) rfl rfl fun a hF=>q_skip hF (wanted_f hF rfl rfl rfl rfl rfl) rfl fun a hF=>?_
         refine q_skip hF (wanted_f hF rfl rfl rfl rfl rfl) rfl fun a hF=>q_x (v:=(.bool false)) hF hS (ex_pick_f rfl rfl rfl) rfl rfl fun a hF=>q_x (v:=(.bool false)) hF hS (ex_assign rfl) rfl rfl fun a hF=>q_end (n_jn ?_)
         obtain rfl:=someI hj13
         exact ⟨hF.sub ⟨rfl,trivial⟩,hS.mask [false,false,false]⟩
        ·have hj13:=cond_t hc15 hj13
         refine q_xg (v:=(.bool t_44.2)) hF hS (ex_move rfl) (wanted_t hF rfl rfl rfl hc15) rfl fun a hF=>q_x (v:=(.bool t_44.2)) hF hS (ex_pick_t rfl rfl hc15) rfl rfl fun a hF=>q_x (v:=(.bool t_44.2)) hF hS (ex_move rfl) rfl rfl fun a hF=>?_
         rcases bcase (t_44.2) with hc16 | hc16
         ·have hj13:=cond_f hc16 hj13
          refine q_skip hF (wanted_f hF rfl rfl rfl hc16 rfl) rfl fun a hF=>q_x (v:=(.bool false)) hF hS (ex_pick_f rfl rfl hc16) rfl rfl fun a hF=>q_x (v:=(.bool false)) hF hS (ex_move rfl) rfl rfl fun a hF=>q_skip hF (wanted_f hF rfl rfl rfl rfl rfl) rfl fun a hF=>q_x (v:=(.bool false)) hF hS (ex_pick_f rfl rfl rfl) rfl rfl fun a hF=>q_x (v:=(.bool false)) hF hS (ex_move rfl) rfl rfl fun a hF=>q_skip hF (wanted_f hF rfl rfl rfl rfl rfl) rfl fun a hF=>q_skip hF (wanted_f hF rfl rfl rfl rfl rfl) rfl fun a hF=>q_skip hF (wanted_f hF rfl rfl rfl rfl rfl) rfl fun a hF=>q_x (v:=(.bool false)) hF hS (ex_pick_f rfl rfl rfl) rfl rfl fun a hF=>q_x (v:=(.bool false)) hF hS (ex_move rfl) rfl rfl fun a hF=>q_skip hF (wanted_f hF rfl rfl rfl rfl rfl) rfl fun a hF=>q_skip hF (wanted_f hF rfl rfl rfl rfl rfl) rfl fun a hF=>q_skip hF (wanted_f hF rfl rfl rfl rfl rfl) rfl fun a hF=>q_x (v:=(.bool false)) hF hS (ex_pick_f rfl rfl rfl) rfl rfl fun a hF=>q_x (v:=(.bool false)) hF hS (ex_move rfl) rfl rfl fun a hF=>q_skip hF (wanted_f hF rfl rfl rfl rfl rfl) rfl fun a hF=>q_skip hF (wanted_f hF rfl rfl rfl rfl rfl) rfl fun a hF=>q_skip hF (wanted_f hF rfl rfl rfl rfl rfl) rfl fun a hF=>q_x (v:=(.bool false)) hF hS (ex_pick_f rfl rfl rfl) rfl rfl fun a hF=>q_x (v:=(.bool false)) hF hS (ex_move rfl) rfl rfl fun a hF=>q_skip hF (wanted_f hF rfl rfl rfl rfl rfl) rfl fun a hF=>q_skip hF (wanted_f hF rfl rfl rfl rfl rfl) rfl fun a hF=>q_x (v:=(.bool false)) hF hS (ex_pick_f rfl rfl rfl) rfl rfl fun a hF=>q_x (v:=(.bool false)) hF hS (ex_assign rfl) rfl rfl fun a hF=>?_
          refine q_end (n_jn ?_)
          obtain rfl:=someI hj13
          exact ⟨hF.sub ⟨rfl,trivial⟩,hS.mask [false,false,false]⟩
         ·have hj13:=cond_t hc16 hj13
          refine q_xg (v:=(.bool t_46.2)) hF hS (ex_move rfl) (wanted_t hF rfl rfl rfl hc16) rfl fun a hF=>q_x (v:=(.bool t_46.2)) hF hS (ex_pick_t rfl rfl hc16) rfl rfl fun a hF=>q_x (v:=(.bool t_46.2)) hF hS (ex_move rfl) rfl rfl fun a hF=>?_
          rcases bcase (t_46.2) with hc17 | hc17
          ·have hj13:=cond_f hc17 hj13
           refine q_skip hF (wanted_f hF rfl rfl rfl hc17 rfl) rfl fun a hF=>q_x (v:=(.bool false)) hF hS (ex_pick_f rfl rfl hc17) rfl rfl fun a hF=>q_x (v:=(.bool false)) hF hS (ex_move rfl) rfl rfl fun a hF=>q_skip hF (wanted_f hF rfl rfl rfl rfl rfl) rfl fun a hF=>q_skip hF (wanted_f hF rfl rfl rfl rfl rfl) rfl fun a hF=>q_skip hF (wanted_f hF rfl rfl rfl rfl rfl) rfl fun a hF=>q_x (v:=(.bool false)) hF hS (ex_pick_f rfl rfl rfl) rfl rfl fun a hF=>q_x (v:=(.bool false)) hF hS (ex_move rfl) rfl rfl fun a hF=>q_skip hF (wanted_f hF rfl rfl rfl rfl rfl) rfl fun a hF=>q_skip hF (wanted_f hF rfl rfl rfl rfl rfl) rfl fun a hF=>q_skip hF (wanted_f hF rfl rfl rfl rfl rfl) rfl fun a hF=>q_x (v:=(.bool false)) hF hS (ex_pick_f rfl rfl rfl) rfl rfl fun a hF=>q_x (v:=(.bool false)) hF hS (ex_move rfl) rfl rfl fun a hF=>q_skip hF (wanted_f hF rfl rfl rfl rfl rfl) rfl fun a hF=>q_skip hF (wanted_f hF rfl rfl rfl rfl rfl) rfl fun a hF=>q_skip hF (wanted_f hF rfl rfl rfl rfl rfl) rfl fun a hF=>q_x (v:=(.bool false)) hF hS (ex_pick_f rfl rfl rfl) rfl rfl fun a hF=>q_x (v:=(.bool false)) hF hS (ex_move rfl) rfl rfl fun a hF=>q_skip hF (wanted_f hF rfl rfl rfl rfl rfl) rfl fun a hF=>q_skip hF (wanted_f hF rfl rfl rfl rfl rfl) rfl fun a hF=>q_x (v:=(.bool false)) hF hS (ex_pick_f rfl rfl rfl) rfl rfl fun a hF=>q_x (v:=(.bool false)) hF hS (ex_assign rfl) rfl rfl fun a hF=>q_end (n_jn ?_)
           obtain rfl:=someI hj13
           exact ⟨hF.sub ⟨rfl,trivial⟩,hS.mask [false,false,false]⟩
          ·have hj13:=cond_t hc17 hj13
           refine q_xg (v:=(.bool t_49.2)) hF hS (ex_move rfl) (wanted_t hF rfl rfl rfl hc17) rfl fun a hF=>q_x (v:=(.bool t_49.2)) hF hS (ex_pick_t rfl rfl hc17) rfl rfl fun a hF=>q_x (v:=(.bool t_49.2)) hF hS (ex_move rfl) rfl rfl fun a hF=>?_
           rcases bcase (t_49.2) with hc18 | hc18
           ·have hj13:=cond_f hc18 hj13
            refine q_skip hF (wanted_f hF rfl rfl rfl hc18 rfl) rfl fun a hF=>q_skip hF (wanted_f hF rfl rfl rfl hc18 rfl) rfl fun a hF=>q_skip hF (wanted_f hF rfl rfl rfl hc18 rfl) rfl fun a hF=>q_x (v:=(.bool false)) hF hS (ex_pick_f rfl rfl hc18) rfl rfl fun a hF=>q_x (v:=(.bool false)) hF hS (ex_move rfl) rfl rfl fun a hF=>q_skip hF (wanted_f hF rfl rfl rfl rfl rfl) rfl fun a hF=>q_skip hF (wanted_f hF rfl rfl rfl rfl rfl) rfl fun a hF=>q_skip hF (wanted_f hF rfl rfl rfl rfl rfl) rfl fun a hF=>q_x (v:=(.bool false)) hF hS (ex_pick_f rfl rfl rfl) rfl rfl fun a hF=>q_x (v:=(.bool false)) hF hS (ex_move rfl) rfl rfl fun a hF=>q_skip hF (wanted_f hF rfl rfl rfl rfl rfl) rfl fun a hF=>q_skip hF (wanted_f hF rfl rfl rfl rfl rfl) rfl fun a hF=>q_skip hF (wanted_f hF rfl rfl rfl rfl rfl) rfl fun a hF=>q_x (v:=(.bool false)) hF hS (ex_pick_f rfl rfl rfl) rfl rfl fun a hF=>q_x (v:=(.bool false)) hF hS (ex_move rfl) rfl rfl fun a hF=>q_skip hF (wanted_f hF rfl rfl rfl rfl rfl) rfl fun a hF=>q_skip hF (wanted_f hF rfl rfl rfl rfl rfl) rfl fun a hF=>q_x (v:=(.bool false)) hF hS (ex_pick_f rfl rfl rfl) rfl rfl fun a hF=>q_x (v:=(.bool false)) hF hS (ex_assign rfl) rfl rfl fun a hF=>q_end (n_jn ?_)
            obtain rfl:=someI hj13
            exact ⟨hF.sub ⟨rfl,trivial⟩,hS.mask [false,false,false]⟩
           ·have hj13:=cond_t hc18 hj13
            refine q_xg (v:=(iV t_40.1)) hF hS (ex_move rfl) (wanted_t hF rfl rfl rfl hc18) rfl fun a hF=>q_xg (v:=(iV t_3.2)) hF hS (ex_move rfl) (wanted_t hF rfl rfl rfl hc18) rfl fun a hF=>q_xg (v:=(.bool (t_40.1 == t_3.2))) hF hS (ex_ibin rfl rfl rfl) (wanted_t hF rfl rfl rfl hc18) rfl fun a hF=>q_x (v:=(.bool (t_40.1 == t_3.2))) hF hS (ex_pick_t rfl rfl hc18) rfl rfl fun a hF=>q_x (v:=(.bool (t_40.1 == t_3.2))) hF hS (ex_move rfl) rfl rfl fun a hF=>?_
            rcases bcase (t_40.1 == t_3.2) with hc19 | hc19
            ·have hj13:=cond_f hc19 hj13
             refine q_skip hF (wanted_f hF rfl rfl rfl hc19 rfl) rfl fun a hF=>q_skip hF (wanted_f hF rfl rfl rfl hc19 rfl) rfl fun a hF=>q_skip hF (wanted_f hF rfl rfl rfl hc19 rfl) rfl fun a hF=>q_x (v:=(.bool false)) hF hS (ex_pick_f rfl rfl hc19) rfl rfl fun a hF=>q_x (v:=(.bool false)) hF hS (ex_move rfl) rfl rfl fun a hF=>q_skip hF (wanted_f hF rfl rfl rfl rfl rfl) rfl fun a hF=>q_skip hF (wanted_f hF rfl rfl rfl rfl rfl) rfl fun a hF=>q_skip hF (wanted_f hF rfl rfl rfl rfl rfl) rfl fun a hF=>q_x (v:=(.bool false)) hF hS (ex_pick_f rfl rfl rfl) rfl rfl fun a hF=>q_x (v:=(.bool false)) hF hS (ex_move rfl) rfl rfl fun a hF=>q_skip hF (wanted_f hF rfl rfl rfl rfl rfl) rfl fun a hF=>q_skip hF (wanted_f hF rfl rfl rfl rfl rfl) rfl fun a hF=>q_x (v:=(.bool false)) hF hS (ex_pick_f rfl rfl rfl) rfl rfl fun a hF=>q_x (v:=(.bool false)) hF hS (ex_assign rfl) rfl rfl fun a hF=>q_end (n_jn ?_)
             obtain rfl:=someI hj13
             exact ⟨hF.sub ⟨rfl,trivial⟩,hS.mask [false,false,false]⟩
            ·have hj13:=cond_t hc19 hj13
             refine q_xg (v:=(iV t_3.2)) hF hS (ex_move rfl) (wanted_t hF rfl rfl rfl hc19) rfl fun a hF=>q_xg (v:=(iV t_42.1)) hF hS (ex_move rfl) (wanted_t hF rfl rfl rfl hc19) rfl fun a hF=>q_xg (v:=(.bool (decide (t_3.2 < t_42.1)))) hF hS (ex_ibin rfl rfl rfl) (wanted_t hF rfl rfl rfl hc19) rfl fun a hF=>q_x (v:=(.bool (decide (t_3.2 < t_42.1)))) hF hS (ex_pick_t rfl rfl hc19) rfl rfl fun a hF=>q_x (v:=(.bool (decide (t_3.2 < t_42.1)))) hF hS (ex_move rfl) rfl rfl fun a hF=>?_
             rcases bcase (decide (t_3.2 < t_42.1)) with hc20 | hc20
             ·have hj13:=cond_f hc20 hj13
              refine q_skip hF (wanted_f hF rfl rfl rfl hc20 rfl) rfl fun a hF=>q_skip hF (wanted_f hF rfl rfl rfl hc20 rfl) rfl fun a hF=>q_skip hF (wanted_f hF rfl rfl rfl hc20 rfl) rfl fun a hF=>q_x (v:=(.bool false)) hF hS (ex_pick_f rfl rfl hc20) rfl rfl fun a hF=>q_x (v:=(.bool false)) hF hS (ex_move rfl) rfl rfl fun a hF=>q_skip hF (wanted_f hF rfl rfl rfl rfl rfl) rfl fun a hF=>q_skip hF (wanted_f hF rfl rfl rfl rfl rfl) rfl fun a hF=>q_x (v:=(.bool false)) hF hS (ex_pick_f rfl rfl rfl) rfl rfl fun a hF=>q_x (v:=(.bool false)) hF hS (ex_assign rfl) rfl rfl fun a hF=>q_end (n_jn ?_)
              obtain rfl:=someI hj13
              exact ⟨hF.sub ⟨rfl,trivial⟩,hS.mask [false,false,false]⟩
             ·have hj13:=cond_t hc20 hj13
              refine q_xg (v:=s48.v) hF hS (ex_move rfl) (wanted_t hF rfl rfl rfl hc20) rfl fun a hF=>q_xg (v:=s5.v) hF hS (ex_move rfl) (wanted_t hF rfl rfl rfl hc20) rfl fun a hF=>?_
              obtain ⟨m52,hl52,hv52,hz52⟩:=hS.lend
              obtain ⟨t_51,ht_51,hj13⟩:=bindS hj13
              refine q_callg (vs:=[s48.v,s5.v]) hF hS (wanted_t hF rfl rfl rfl hc20) Tryd.func32 (by kernel_rfl) rfl rfl rfl (c_laws_qSchema t_46.1 t_3.1 t_51 ht_51 _ m52 hv52 s48 (h48.froz hl52 (hz52 0 _ rfl)) s5 (h5.froz hl52 (hz52 1 _ rfl))) ?_
              rintro a w _ rfl hF hS
              refine q_x (v:=(.bool t_51)) hF hS (ex_pick_t rfl rfl hc20) rfl rfl fun a hF=>q_x (v:=(.bool t_51)) hF hS (ex_move rfl) rfl rfl fun a hF=>?_
              rcases bcase (t_51) with hc21 | hc21
              ·have hj13:=cond_f hc21 hj13
               refine q_skip hF (wanted_f hF rfl rfl rfl hc21 rfl) rfl fun a hF=>q_skip hF (wanted_f hF rfl rfl rfl hc21 rfl) rfl fun a hF=>q_x (v:=(.bool false)) hF hS (ex_pick_f rfl rfl hc21) rfl rfl fun a hF=>q_x (v:=(.bool false)) hF hS (ex_assign rfl) rfl rfl fun a hF=>q_end (n_jn ?_)
               obtain rfl:=someI hj13
               exact ⟨hF.sub ⟨rfl,trivial⟩,hS.mask [false,false,false]⟩
              ·have hj13:=cond_t hc21 hj13
               refine q_xg (v:=(iV t_49.1)) hF hS (ex_move rfl) (wanted_t hF rfl rfl rfl hc21) rfl fun a hF=>q_xg (v:=(.bool (t_49.1 == 0))) hF hS (ex_ibin rfl rfl rfl) (wanted_t hF rfl rfl rfl hc21) rfl fun a hF=>q_x (v:=(.bool (t_49.1 == 0))) hF hS (ex_pick_t rfl rfl hc21) rfl rfl fun a hF=>q_x (v:=(.bool (t_49.1 == 0))) hF hS (ex_assign rfl) rfl rfl fun a hF=>q_end (n_jn ?_)
               obtain rfl:=someI hj13
               exact ⟨hF.sub ⟨rfl,trivial⟩,hS.mask [false,false,false]⟩
      ·rintro a w ⟨hF,hS⟩
       refine n_sq (q_ret ?_)
       obtain rfl:=someI hr
       exact ret_of hF hS rfl (.tmp rfl .nil) rfl
     ·have hr:=cond_t hc12 hr
      refine q_cond_t hF rfl hc12 (q_seq (q_region (q_x (v:=(.bool true)) hF hS (ex_assign rfl) rfl rfl fun a hF=>q_end (n_sq (q_ret (r_sq ?_))))))
      obtain rfl:=someI hr
      exact ret_of hF hS rfl (.tmp rfl .nil) rfl
   ·have hr:=cond_t hc6 hr
    refine q_cond_t hF rfl hc6 (q_seq (q_region (q_x (v:=(.bool false)) hF hS (ex_assign rfl) rfl rfl fun a hF=>q_end (n_sq (q_ret (r_sq ?_))))))
    obtain rfl:=someI hr
    exact ret_of hF hS rfl (.tmp rfl .nil) rfl
 ·have hr:=cond_t hc1 hr
  refine q_cond_t hF rfl hc1 (q_seq (q_region (q_x (v:=(.bool true)) hF hS (ex_assign rfl) rfl rfl fun a hF=>q_end (n_sq (q_ret (r_sq ?_))))))
  obtain rfl:=someI hr
  exact ret_of hF hS rfl (.tmp rfl .nil) rfl

end Go.Proofs.YtgaeknajcakinaaDoor
