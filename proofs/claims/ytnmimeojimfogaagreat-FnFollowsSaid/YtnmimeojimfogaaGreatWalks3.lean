/- The walks of the functions: each returns what its plain function says. -/
import Derived.Test.YtnmimeojimfogaaGreatWalks2
namespace Go.Proofs.YtnmimeojimfogaaGreat
open Go.Gx Go.Gx.F Go.RowKit
set_option linter.all false
set_option maxRecDepth 10000


theorem c_spec_l1Rising (p_l : List Int) (p_lo : Int) (p_hi : Int) (r : Bool) (hr : spec_l1Rising p_l p_lo p_hi = some r) (w0 : World) (m : Mem) (hv : Vis m w0) (s1 : Sl) (h1 : Rd m s1 p_l) :
  Ret Tryz.prog 63 [s1.v,(iV p_lo),(iV p_hi)] w0 (fun v _=>v = (.bool r)):=by
 unfold spec_l1Rising at hr
 refine ret_start Tryz.func63 rfl 35 rfl rfl m hv fun a hF hS=>q_seq (q_region (q_x (v:=(.bool false)) hF hS (ex_assign rfl) rfl rfl fun a hF=>q_end (n_sq (q_seq (q_seq (q_region (q_x (v:=s1.v) hF hS (ex_move rfl) rfl rfl fun a hF=>q_x (v:=(iV (goLen p_l))) hF hS (ex_len Tryz.underlying24 rfl h1.len) rfl rfl fun a hF=>q_x (v:=(iV 0)) hF hS (ex_move rfl) rfl rfl fun a hF=>q_end (n_sq (q_block ?_)))))))))
 obtain ⟨o1,hl1,hr⟩:=bindS hr
 refine q_loop (fun (t_2 : Int) a w=>Fr a 35 [(0,s1.v),(1,(iV p_lo)),(2,(iV p_hi)),(9,s1.v),(10,(iV (goLen p_l))),(11,(iV t_2))]∧St [] w0 w m []) (fun (o : (Unit) ⊕ (Bool)) e a w=>o = .inl ()∧e = .exit 0∧Fr a 35 []∧St [] w0 w m []) hl1 ⟨hF.sub ⟨rfl,rfl,rfl,rfl,rfl,rfl,trivial⟩,hS⟩ ?_ ?_
 ·clear hF hS
  rintro t_2 a w st ⟨hF,hS⟩ hb1
  unfold spec_l1Rising_l1 at hb1
  refine q_seq (q_region (q_x (v:=(.bool (decide (t_2 < (goLen p_l))))) hF hS (ex_ibin rfl rfl rfl) rfl rfl fun a hF=>q_end (n_sq (q_seq ?_))))
  rcases bcase (decide (t_2 < (goLen p_l))) with hc2 | hc2
  ·have hb1:=cond_f hc2 hb1
   refine q_cond_f hF rfl hc2 (q_exit (x_sq ?_))
   obtain rfl:=someI hb1
   exact ⟨nofun,.inl ⟨rfl,rfl,hF.sub trivial,hS⟩⟩
  ·have hb1:=cond_t hc2 hb1
   refine q_cond_t hF rfl hc2 (q_skipc (n_sq (q_seq (q_block (q_seq (q_region (q_x (v:=(iV t_2)) hF hS (ex_move rfl) rfl rfl fun a hF=>?_)))))))
   obtain ⟨e_3,he_3,hb1⟩:=bindS hb1
   obtain ⟨vs4,at4,d4⟩:=h1.at he_3 1 rfl
   obtain rfl : vs4 = [(iV e_3)]:=d4
   refine q_x (v:=(elP s1 (t_2.toNat * 1))) hF hS (ex_indexAddr Tryz.underlying24 sz3 rfl rfl (h1.idx he_3)) rfl rfl fun a hF=>q_x (v:=(iV e_3)) hF hS (ex_loadE1 0 Tryz.underlying3 rfl rfl ((at4).at) rfl rfl) rfl rfl fun a hF=>q_x (v:=(iV t_2)) hF hS (ex_assign rfl) rfl rfl fun a hF=>q_x (v:=(iV e_3)) hF hS (ex_assign rfl) rfl rfl fun a hF=>q_end (n_sq (q_seq ?_))
   obtain ⟨t_8,hj3,hb1⟩:=bindS hb1
   refine q_join (fun a w=>Fr a 35 [(0,s1.v),(1,(iV p_lo)),(2,(iV p_hi)),(9,s1.v),(10,(iV (goLen p_l))),(11,(iV t_2)),(33,(.bool t_8))]∧St [] w0 w m []) ?_ ?_
   ·refine q_region (q_x (v:=(iV e_3)) hF hS (ex_move rfl) rfl rfl fun a hF=>q_x (v:=(iV p_lo)) hF hS (ex_move rfl) rfl rfl fun a hF=>q_x (v:=(iV p_hi)) hF hS (ex_move rfl) rfl rfl fun a hF=>?_)
    obtain ⟨t_5,ht_5,hj3⟩:=bindS hj3
    refine q_call (vs:=[(iV e_3),(iV p_lo),(iV p_hi)]) hF hS Tryz.func56 (by kernel_rfl) rfl rfl rfl (c_spec_l1In e_3 p_lo p_hi t_5 ht_5 _ m hS.vis) ?_
    rintro a w _ rfl hF hS
    refine q_x (v:=(.bool (!t_5))) hF hS (ex_not rfl) rfl rfl fun a hF=>q_x (v:=(.bool (!t_5))) hF hS (ex_move rfl) rfl rfl fun a hF=>?_
    rcases bcase (!t_5) with hc4 | hc4
    ·have hj3:=cond_f hc4 hj3
     refine q_xg (v:=(iV t_2)) hF hS (ex_move rfl) (wanted_t hF rfl rfl rfl hc4) rfl fun a hF=>q_xg (v:=(.bool (decide (0 < t_2)))) hF hS (ex_ibin rfl rfl rfl) (wanted_t hF rfl rfl rfl hc4) rfl fun a hF=>q_xg (v:=(.bool (decide (0 < t_2)))) hF hS (ex_move rfl) (wanted_t hF rfl rfl rfl hc4) rfl fun a hF=>?_
     rcases bcase (decide (0 < t_2)) with hc5 | hc5
     ·have hj3:=cond_f hc5 hj3
      refine q_skip hF (wanted_f hF rfl rfl rfl hc5 rfl) rfl fun a hF=>q_skip hF (wanted_f hF rfl rfl rfl hc5 rfl) rfl fun a hF=>q_skip hF (wanted_f hF rfl rfl rfl hc5 rfl) rfl fun a hF=>q_skip hF (wanted_f hF rfl rfl rfl hc5 rfl) rfl fun a hF=>q_skip hF (wanted_f hF rfl rfl rfl hc5 rfl) rfl fun a hF=>q_skip hF (wanted_f hF rfl rfl rfl hc5 rfl) rfl fun a hF=>q_skip hF (wanted_f hF rfl rfl rfl hc5 rfl) rfl fun a hF=>q_xg (v:=(.bool false)) hF hS (ex_pick_f rfl rfl hc5) (wanted_t hF rfl rfl rfl hc4) rfl fun a hF=>q_x (v:=(.bool false)) hF hS (ex_pick_f rfl rfl hc4) rfl rfl fun a hF=>q_end (n_jn ?_)
      obtain rfl:=someI hj3
      exact ⟨hF.sub ⟨rfl,rfl,rfl,rfl,rfl,rfl,rfl,trivial⟩,hS⟩
     ·have hj3:=cond_t hc5 hj3
      refine q_xg (v:=s1.v) hF hS (ex_move rfl) (wanted_t hF rfl rfl rfl hc5) rfl fun a hF=>q_xg (v:=(iV t_2)) hF hS (ex_move rfl) (wanted_t hF rfl rfl rfl hc5) rfl fun a hF=>q_xg (v:=(iV (w64 (t_2 - 1)))) hF hS (ex_ibin rfl rfl rfl) (wanted_t hF rfl rfl rfl hc5) rfl fun a hF=>?_
      obtain ⟨e_6,he_6,hj3⟩:=bindS hj3
      obtain ⟨vs7,at7,d7⟩:=h1.at he_6 1 rfl
      obtain rfl : vs7 = [(iV e_6)]:=d7
      refine q_xg (v:=(elP s1 ((w64 (t_2 - 1)).toNat * 1))) hF hS (ex_indexAddr Tryz.underlying24 sz3 rfl rfl (h1.idx he_6)) (wanted_t hF rfl rfl rfl hc5) rfl fun a hF=>q_xg (v:=(iV e_6)) hF hS (ex_loadE1 0 Tryz.underlying3 rfl rfl ((at7).at) rfl rfl) (wanted_t hF rfl rfl rfl hc5) rfl fun a hF=>q_xg (v:=(iV e_3)) hF hS (ex_move rfl) (wanted_t hF rfl rfl rfl hc5) rfl fun a hF=>q_xg (v:=(.bool (decide (e_3 ≤ e_6)))) hF hS (ex_ibin rfl rfl rfl) (wanted_t hF rfl rfl rfl hc5) rfl fun a hF=>q_xg (v:=(.bool (decide (e_3 ≤ e_6)))) hF hS (ex_pick_t rfl rfl hc5) (wanted_t hF rfl rfl rfl hc4) rfl fun a hF=>q_x (v:=(.bool (decide (e_3 ≤ e_6)))) hF hS (ex_pick_f rfl rfl hc4) rfl rfl fun a hF=>q_end (n_jn ?_)
      obtain rfl:=someI hj3
      exact ⟨hF.sub ⟨rfl,rfl,rfl,rfl,rfl,rfl,rfl,trivial⟩,hS⟩
    ·have hj3:=cond_t hc4 hj3
     refine q_skip hF (wanted_f hF rfl rfl rfl hc4 rfl) rfl fun a hF=>q_skip hF (wanted_f hF rfl rfl rfl hc4 rfl) rfl fun a hF=>q_skip hF (wanted_f hF rfl rfl rfl hc4 rfl) rfl fun a hF=>q_skip hF (wanted_u hF rfl rfl rfl) rfl fun a hF=>q_skip hF (wanted_u hF rfl rfl rfl) rfl fun a hF=>q_skip hF (wanted_u hF rfl rfl rfl) rfl fun a hF=>q_skip hF (wanted_u hF rfl rfl rfl) rfl fun a hF=>q_skip hF (wanted_u hF rfl rfl rfl) rfl fun a hF=>q_skip hF (wanted_u hF rfl rfl rfl) rfl fun a hF=>q_skip hF (wanted_u hF rfl rfl rfl) rfl fun a hF=>q_skip hF (wanted_f hF rfl rfl rfl hc4 rfl) rfl fun a hF=>q_x (v:=(.bool true)) hF hS (ex_pick_t rfl rfl hc4) rfl rfl fun a hF=>q_end (n_jn ?_)
     obtain rfl:=someI hj3
     exact ⟨hF.sub ⟨rfl,rfl,rfl,rfl,rfl,rfl,rfl,trivial⟩,hS⟩
   ·rintro a w ⟨hF,hS⟩
    refine n_sq ?_
    rcases bcase (t_8) with hc6 | hc6
    ·have hb1:=cond_f hc6 hb1
     refine q_cond_f hF rfl hc6 (q_skipc (n_ib (n_sq (q_region (q_x (v:=(iV (w64 (t_2 + 1)))) hF hS (ex_ibin rfl rfl rfl) rfl rfl fun a hF=>q_x (v:=(iV (w64 (t_2 + 1)))) hF hS (ex_move rfl) rfl rfl fun a hF=>q_end ?_)))))
     obtain rfl:=someI hb1
     exact ⟨rfl,hF.sub ⟨rfl,rfl,rfl,rfl,rfl,rfl,trivial⟩,hS⟩
    ·have hb1:=cond_t hc6 hb1
     refine q_cond_t hF rfl hc6 (q_seq (q_region (q_x (v:=(.bool false)) hF hS (ex_assign rfl) rfl rfl fun a hF=>q_end (n_sq (q_ret (r_ib (r_sq ?_)))))))
     obtain rfl:=someI hb1
     refine ⟨nofun,.inr fun ho=>?_⟩
     subst ho
     refine r_ib (r_sq ?_)
     obtain rfl:=someI hr
     exact ret_of hF hS rfl (.tmp rfl .nil) rfl
 ·rintro e a w ⟨rfl,rfl,hF,hS⟩
  refine x_ib (n_sq ?_)
  refine q_seq (q_region (q_x (v:=(.bool true)) hF hS (ex_assign rfl) rfl rfl fun a hF=>q_end (n_sq (q_ret ?_))))
  obtain rfl:=someI hr
  exact ret_of hF hS rfl (.tmp rfl .nil) rfl

theorem c_spec_uWhere (p_s : List impl_Variable) (p_where : List Int) (r : Bool) (hr : spec_uWhere p_s p_where = some r) (w0 : World) (m : Mem) (hv : Vis m w0) (s1 : Sl) (h1 : Rd m s1 p_s) (s2 : Sl) (h2 : Rd m s2 p_where) :
  Ret Tryz.prog 64 [s1.v,s2.v] w0 (fun v _=>v = (.bool r)):=by
 unfold spec_uWhere at hr
 refine ret_start Tryz.func64 rfl 31 rfl rfl m hv fun a hF hS=>q_seq (q_region (q_x (v:=(.bool false)) hF hS (ex_assign rfl) rfl rfl fun a hF=>q_end (n_sq (q_seq (q_seq (q_region (q_x (v:=s2.v) hF hS (ex_move rfl) rfl rfl fun a hF=>q_x (v:=(iV (goLen p_where))) hF hS (ex_len Tryz.underlying24 rfl h2.len) rfl rfl fun a hF=>q_x (v:=s1.v) hF hS (ex_move rfl) rfl rfl fun a hF=>q_x (v:=(iV (goLen p_s))) hF hS (ex_len Tryz.underlying27 rfl h1.len) rfl rfl fun a hF=>q_x (v:=(.bool ((goLen p_where) != (goLen p_s)))) hF hS (ex_ibin rfl rfl rfl) rfl rfl fun a hF=>q_end (n_sq ?_))))))))
 rcases bcase ((goLen p_where) != (goLen p_s)) with hc1 | hc1
 ·have hr:=cond_f hc1 hr
  refine q_cond_f hF rfl hc1 (q_skipc (n_sq (q_seq (q_seq (q_region (q_x (v:=s1.v) hF hS (ex_move rfl) rfl rfl fun a hF=>q_x (v:=(iV (goLen p_s))) hF hS (ex_len Tryz.underlying27 rfl h1.len) rfl rfl fun a hF=>q_x (v:=(iV 0)) hF hS (ex_move rfl) rfl rfl fun a hF=>q_end (n_sq (q_block ?_))))))))
  obtain ⟨o2,hl2,hr⟩:=bindS hr
  refine q_loop (fun (t_3 : Int) a w=>Fr a 31 [(1,s2.v),(12,s1.v),(13,(iV (goLen p_s))),(14,(iV t_3))]∧St [] w0 w m []) (fun (o : (Unit) ⊕ (Bool)) e a w=>o = .inl ()∧e = .exit 0∧Fr a 31 []∧St [] w0 w m []) hl2 ⟨hF.sub ⟨rfl,rfl,rfl,rfl,trivial⟩,hS⟩ ?_ ?_
  ·clear hF hS
   rintro t_3 a w st ⟨hF,hS⟩ hb2
   unfold spec_uWhere_l1 at hb2
   refine q_seq (q_region (q_x (v:=(.bool (decide (t_3 < (goLen p_s))))) hF hS (ex_ibin rfl rfl rfl) rfl rfl fun a hF=>q_end (n_sq (q_seq ?_))))
   rcases bcase (decide (t_3 < (goLen p_s))) with hc3 | hc3
   ·have hb2:=cond_f hc3 hb2
    refine q_cond_f hF rfl hc3 (q_exit (x_sq ?_))
    obtain rfl:=someI hb2
    exact ⟨nofun,.inl ⟨rfl,rfl,hF.sub trivial,hS⟩⟩
   ·have hb2:=cond_t hc3 hb2
    refine q_cond_t hF rfl hc3 (q_skipc (n_sq (q_seq (q_block (q_seq (q_region (q_x (v:=(iV t_3)) hF hS (ex_move rfl) rfl rfl fun a hF=>?_)))))))
    obtain ⟨e_4,he_4,hb2⟩:=bindS hb2
    obtain ⟨vs5,at5,d5⟩:=h1.at he_4 2 rfl
    obtain rfl : vs5 = [(strV e_4.Name),(iV e_4.Levels)]:=d5
    refine q_x (v:=(elP s1 (t_3.toNat * 2))) hF hS (ex_indexAddr Tryz.underlying27 sz88 rfl rfl (h1.idx he_4)) rfl rfl fun a hF=>q_x (v:=(.agg #[(strV e_4.Name),(iV e_4.Levels)])) hF hS (ex_loadEA (us:=[(strV e_4.Name),(iV e_4.Levels)]) 0 Tryz.underlying88 rfl sz88 rfl ((at5).at) rfl rfl rfl) rfl rfl fun a hF=>q_alloc (cs:=[(strV ([] : List UInt8)),(iV 0)]) hF hS rfl rfl rfl fun a w b6 hF hS=>q_x (v:=(iV t_3)) hF hS (ex_assign rfl) rfl rfl fun a hF=>q_store (vs:=[(strV e_4.Name),(iV e_4.Levels)]) (cs':=[(strV e_4.Name),(iV e_4.Levels)]) 0 0 hF hS sz88 rfl rfl rfl rfl rfl rfl rfl rfl fun a w hF hS=>q_end (n_sq (q_seq (e_region ⟨[],[]⟩ mixed fun w' hw'=>?_)))
    have hS:=hS.below hw'
    refine e_p (v:=s2.v) 0 hF rfl (ex_move rfl) rfl rfl (by kernel_rfl) (by kernel_rfl) (by kernel_rfl) fun a hF=>e_p (v:=(iV t_3)) 1 hF rfl (ex_move rfl) rfl rfl (by kernel_rfl) (by kernel_rfl) (by kernel_rfl) fun a hF=>?_
    obtain ⟨e_7,he_7,hb2⟩:=bindS hb2
    obtain ⟨vs8,at8,d8⟩:=h2.at he_7 1 rfl
    obtain rfl : vs8 = [(iV e_7)]:=d8
    refine e_p (v:=(elP s2 (t_3.toNat * 1))) 2 hF rfl (ex_indexAddr Tryz.underlying24 sz3 rfl rfl (h2.idx he_7)) rfl rfl (by kernel_rfl) (by kernel_rfl) (by kernel_rfl) fun a hF=>e_x (v:=(iV e_7)) 3 hF hS rfl (ex_loadE1 0 Tryz.underlying3 rfl rfl ((at8).at) rfl rfl) rfl rfl (by kernel_rfl) (by kernel_rfl) (by kernel_rfl) (by kernel_rfl) fun a hF=>e_p (v:=(.pointer (some ⟨b6,1,none⟩))) 4 hF rfl (ex_fieldAddr Tryz.underlying88 rfl sz3 rfl rfl) rfl rfl (by kernel_rfl) (by kernel_rfl) (by kernel_rfl) fun a hF=>e_x (v:=(iV e_4.Levels)) 5 hF hS rfl (ex_load1 0 0 Tryz.underlying3 rfl rfl rfl rfl) rfl rfl (by kernel_rfl) (by kernel_rfl) (by kernel_rfl) (by kernel_rfl) fun a hF=>e_p (v:=(.int .u64 (IntKind.wrap .u64 e_4.Levels))) 6 hF rfl (ex_conv Tryz.underlying3 Tryz.underlying72 rfl) rfl rfl (by kernel_rfl) (by kernel_rfl) (by kernel_rfl) fun a hF=>?_
    obtain ⟨t_9,ht_9,hb2⟩:=bindS hb2
    refine e_p (v:=(iV t_9)) 7 hF rfl (ex_shl rfl rfl ht_9) rfl rfl (by kernel_rfl) (by kernel_rfl) (by kernel_rfl) fun a hF=>e_p (v:=(iV (w64 (t_9 - 1)))) 8 hF rfl (ex_ibin rfl rfl rfl) rfl rfl (by kernel_rfl) (by kernel_rfl) (by kernel_rfl) fun a hF=>e_one 9 (by kernel_rfl) ?_
    obtain ⟨t_10,ht_10,hb2⟩:=bindS hb2
    refine e_call (vs:=[(iV e_7),(iV 0),(iV (w64 (t_9 - 1)))]) hF hS rfl Tryz.func56 (by kernel_rfl) rfl rfl rfl (c_spec_l1In e_7 0 (w64 (t_9 - 1)) t_10 ht_10 _ m hS.vis) ?_
    rintro a w _ rfl hF hS
    refine e_p (v:=(.bool (!t_10))) 10 hF rfl (ex_not rfl) rfl rfl (by kernel_rfl) (by kernel_rfl) (by kernel_rfl) fun a hF=>e_end (by kernel_rfl) (n_sq ?_) _
    rcases bcase (!t_10) with hc4 | hc4
    ·have hb2:=cond_f hc4 hb2
     refine q_cond_f hF rfl hc4 (q_skipc (n_ib (n_sq (q_region (q_x (v:=(iV (w64 (t_3 + 1)))) hF hS (ex_ibin rfl rfl rfl) rfl rfl fun a hF=>q_x (v:=(iV (w64 (t_3 + 1)))) hF hS (ex_move rfl) rfl rfl fun a hF=>q_end ?_)))))
     obtain rfl:=someI hb2
     exact ⟨rfl,hF.sub ⟨rfl,rfl,rfl,rfl,trivial⟩,hS.mask [false]⟩
    ·have hb2:=cond_t hc4 hb2
     refine q_cond_t hF rfl hc4 (q_seq (q_region (q_x (v:=(.bool false)) hF hS (ex_assign rfl) rfl rfl fun a hF=>q_end (n_sq (q_ret (r_ib (r_sq ?_)))))))
     obtain rfl:=someI hb2
     refine ⟨nofun,.inr fun ho=>?_⟩
     subst ho
     refine r_ib (r_sq ?_)
     obtain rfl:=someI hr
     exact ret_of hF hS rfl (.tmp rfl .nil) rfl
  ·rintro e a w ⟨rfl,rfl,hF,hS⟩
   refine x_ib (n_sq ?_)
   refine q_seq (q_region (q_x (v:=(.bool true)) hF hS (ex_assign rfl) rfl rfl fun a hF=>q_end (n_sq (q_ret ?_))))
   obtain rfl:=someI hr
   exact ret_of hF hS rfl (.tmp rfl .nil) rfl
 ·have hr:=cond_t hc1 hr
  refine q_cond_t hF rfl hc1 (q_seq (q_region (q_x (v:=(.bool false)) hF hS (ex_assign rfl) rfl rfl fun a hF=>q_end (n_sq (q_ret (r_sq ?_))))))
  obtain rfl:=someI hr
  exact ret_of hF hS rfl (.tmp rfl .nil) rfl

theorem c_spec_sPart (p_s : List impl_Variable) (p_vars : List Int) (r : (List impl_Variable)) (hr : spec_sPart p_s p_vars = some r) (w0 : World) (m : Mem) (hv : Vis m w0) (s1 : Sl) (h1 : Rd m s1 p_s) (s2 : Sl) (h2 : Rd m s2 p_vars) :
  Ret Tryz.prog 40 [s1.v,s2.v] w0 (fun v w=>∃ (q0' : Piece) (s0' : Sl),v = s0'.v∧St [] w0 w m [q0']∧OwnL m 88 q0' s0' r):=by
 unfold spec_sPart at hr
 refine ret_start Tryz.func40 rfl 23 rfl rfl m hv fun a hF hS=>q_seq (q_region (q_x (v:=nilS.v) hF hS (ex_assign rfl) rfl rfl fun a hF=>q_end (n_sq (q_seq (q_region (q_x (v:=nilS.v) hF hS (ex_assign rfl) rfl rfl fun a hF=>q_end (n_sq (q_seq (q_seq (q_region (q_x (v:=s2.v) hF hS (ex_move rfl) rfl rfl fun a hF=>q_x (v:=(iV (goLen p_vars))) hF hS (ex_len Tryz.underlying24 rfl h2.len) rfl rfl fun a hF=>q_x (v:=(iV 0)) hF hS (ex_move rfl) rfl rfl fun a hF=>q_end (n_sq (q_block ?_)))))))))))))
 obtain ⟨out_13,hl1,hr⟩:=bindS hr
 refine q_loop (fun (s : (List impl_Variable) × Int) a w=>∃ (q4 : Piece),∃ (s4 : Sl),∃ out_3,∃ t_5,s = (out_3,t_5)∧Fr a 23 [(0,s1.v),(5,s4.v),(8,s2.v),(9,(iV (goLen p_vars))),(10,(iV t_5))]∧St [] w0 w m [q4]∧OwnL m 88 q4 s4 out_3) (fun (out_13 : (List impl_Variable)) e a w=>∃ (q14 : Piece),∃ (s14 : Sl),e = .exit 0∧Fr a 23 [(5,s14.v)]∧St [] w0 w m [q14]∧OwnL m 88 q14 s14 out_13) hl1 ⟨[],nilS,_,_,rfl,hF.sub ⟨rfl,rfl,rfl,rfl,rfl,trivial⟩,hS.sel [0] (by decide),(OwnL.nil (α:=impl_Variable) m 88)⟩ ?_ ?_
 ·clear hF hS
  rintro s a w st ⟨q4,s4,out_3,t_5,rfl,hF,hS,h4⟩ hb1
  unfold spec_sPart_l1 at hb1
  refine q_seq (q_region (q_x (v:=(.bool (decide (t_5 < (goLen p_vars))))) hF hS (ex_ibin rfl rfl rfl) rfl rfl fun a hF=>q_end (n_sq (q_seq ?_))))
  rcases bcase (decide (t_5 < (goLen p_vars))) with hc2 | hc2
  ·have hb1:=cond_f hc2 hb1
   refine q_cond_f hF rfl hc2 (q_exit (x_sq ?_))
   obtain rfl:=someI hb1
   exact ⟨nofun,.inl ⟨q4,s4,rfl,hF.sub ⟨rfl,trivial⟩,hS,h4⟩⟩
  ·have hb1:=cond_t hc2 hb1
   refine q_cond_t hF rfl hc2 (q_skipc (n_sq (q_seq (q_block (q_seq (q_region ?_))))))
   obtain ⟨e_6,he_6,hb1⟩:=bindS hb1
   obtain ⟨vs7,at7,d7⟩:=h2.at he_6 1 rfl
   obtain rfl : vs7 = [(iV e_6)]:=d7
   refine q_x (v:=(elP s2 (t_5.toNat * 1))) hF hS (ex_indexAddr Tryz.underlying24 sz3 rfl rfl (h2.idx he_6)) rfl rfl fun a hF=>q_x (v:=(iV e_6)) hF hS (ex_loadE1 0 Tryz.underlying3 rfl rfl ((at7).at) rfl rfl) rfl rfl fun a hF=>q_x (v:=(iV e_6)) hF hS (ex_assign rfl) rfl rfl fun a hF=>q_end (n_sq (q_region (q_x (v:=s4.v) hF hS (ex_move rfl) rfl rfl fun a hF=>q_x (v:=s1.v) hF hS (ex_move rfl) rfl rfl fun a hF=>q_x (v:=(iV e_6)) hF hS (ex_move rfl) rfl rfl fun a hF=>?_)))
   obtain ⟨e_8,he_8,hb1⟩:=bindS hb1
   obtain ⟨vs9,at9,d9⟩:=h1.at he_8 2 rfl
   obtain rfl : vs9 = [(strV e_8.Name),(iV e_8.Levels)]:=d9
   refine q_x (v:=(elP s1 (e_6.toNat * 2))) hF hS (ex_indexAddr Tryz.underlying27 sz88 rfl rfl (h1.idx he_8)) rfl rfl fun a hF=>q_x (v:=(.agg #[(strV e_8.Name),(iV e_8.Levels)])) hF hS (ex_loadEA (us:=[(strV e_8.Name),(iV e_8.Levels)]) 0 Tryz.underlying88 rfl sz88 rfl ((at9).at) rfl rfl rfl) rfl rfl fun a hF=>q_do rfl fun _ hK=>wp_buildSlice' (l:=([e_8] : List impl_Variable)) (cells:=[(strV e_8.Name),(iV e_8.Levels)]) hF hS Tryz.underlying27 inf88 rfl rfl (by kernel_rfl) rfl rfl rfl ⟨rfl,rfl⟩ rfl rfl fun a w q10 s10 hF hS h10 _=>hK _ _ ?_
   have hS : St _ _ _ _ [q4,q10]:=hS.sel [1,0] (by decide)
   obtain ⟨l_11,hl_11,hb1⟩:=bindS hb1
   refine q_do rfl fun _ hK=>wp_append hF hS h4 Tryz.underlying27 inf88 rfl rfl rfl rfl (h10.vw hS (j:=1) rfl) rfl (by decide) hl_11 rfl fun a w q12 s12 hF hS h12=>hK _ _ (q_x (v:=s12.v) hF hS (ex_assign rfl) rfl rfl fun a hF=>q_end (n_ib (n_sq (q_region (q_x (v:=(iV (w64 (t_5 + 1)))) hF hS (ex_ibin rfl rfl rfl) rfl rfl fun a hF=>q_x (v:=(iV (w64 (t_5 + 1)))) hF hS (ex_move rfl) rfl rfl fun a hF=>q_end ?_)))))
   obtain rfl:=someI hb1
   exact ⟨rfl,q12,s12,_,_,rfl,hF.sub ⟨rfl,rfl,rfl,rfl,rfl,trivial⟩,hS.mask [true,false],h12⟩
 ·rintro e a w ⟨q14,s14,rfl,hF,hS,h14⟩
  refine x_ib (n_sq ?_)
  refine q_seq (q_region (q_x (v:=s14.v) hF hS (ex_move rfl) rfl rfl fun a hF=>q_x (v:=s14.v) hF hS (ex_assign rfl) rfl rfl fun a hF=>q_end (n_sq (q_ret ?_))))
  obtain rfl:=someI hr
  exact ret_of hF hS rfl (.tmp rfl .nil) ⟨q14,s14,rfl,hS.sel [0] (by decide),h14⟩

theorem c_spec_sCount (p_s : List impl_Variable) (r : Int) (hr : spec_sCount p_s = some r) (w0 : World) (m : Mem) (hv : Vis m w0) (s1 : Sl) (h1 : Rd m s1 p_s) :
  Ret Tryz.prog 45 [s1.v] w0 (fun v _=>v = (iV r)):=by
 unfold spec_sCount at hr
 refine ret_start Tryz.func45 rfl 18 rfl rfl m hv fun a hF hS=>q_seq (q_region (q_x (v:=(iV 0)) hF hS (ex_assign rfl) rfl rfl fun a hF=>q_end (n_sq (q_seq (q_region (q_x (v:=(iV 1)) hF hS (ex_assign rfl) rfl rfl fun a hF=>q_end (n_sq (q_seq (q_seq (q_region (q_x (v:=s1.v) hF hS (ex_move rfl) rfl rfl fun a hF=>q_x (v:=(iV (goLen p_s))) hF hS (ex_len Tryz.underlying27 rfl h1.len) rfl rfl fun a hF=>q_x (v:=(iV 0)) hF hS (ex_move rfl) rfl rfl fun a hF=>q_end (n_sq (q_block ?_)))))))))))))
 obtain ⟨n_7,hl1,hr⟩:=bindS hr
 refine q_loop (fun (s : Int × Int) a w=>∃ n_2,∃ t_3,s = (n_2,t_3)∧Fr a 18 [(3,(iV n_2)),(6,s1.v),(7,(iV (goLen p_s))),(8,(iV t_3))]∧St [] w0 w m []) (fun (n_7 : Int) e a w=>e = .exit 0∧Fr a 18 [(3,(iV n_7))]∧St [] w0 w m []) hl1 ⟨_,_,rfl,hF.sub ⟨rfl,rfl,rfl,rfl,trivial⟩,hS⟩ ?_ ?_
 ·clear hF hS
  rintro s a w st ⟨n_2,t_3,rfl,hF,hS⟩ hb1
  unfold spec_sCount_l1 at hb1
  refine q_seq (q_region (q_x (v:=(.bool (decide (t_3 < (goLen p_s))))) hF hS (ex_ibin rfl rfl rfl) rfl rfl fun a hF=>q_end (n_sq (q_seq ?_))))
  rcases bcase (decide (t_3 < (goLen p_s))) with hc2 | hc2
  ·have hb1:=cond_f hc2 hb1
   refine q_cond_f hF rfl hc2 (q_exit (x_sq ?_))
   obtain rfl:=someI hb1
   exact ⟨nofun,.inl ⟨rfl,hF.sub ⟨rfl,trivial⟩,hS⟩⟩
  ·have hb1:=cond_t hc2 hb1
   refine q_cond_t hF rfl hc2 (q_skipc (n_sq (q_seq (q_block (q_seq (q_region ?_))))))
   obtain ⟨e_4,he_4,hb1⟩:=bindS hb1
   obtain ⟨vs5,at5,d5⟩:=h1.at he_4 2 rfl
   obtain rfl : vs5 = [(strV e_4.Name),(iV e_4.Levels)]:=d5
   refine q_x (v:=(elP s1 (t_3.toNat * 2))) hF hS (ex_indexAddr Tryz.underlying27 sz88 rfl rfl (h1.idx he_4)) rfl rfl fun a hF=>q_x (v:=(.agg #[(strV e_4.Name),(iV e_4.Levels)])) hF hS (ex_loadEA (us:=[(strV e_4.Name),(iV e_4.Levels)]) 0 Tryz.underlying88 rfl sz88 rfl ((at5).at) rfl rfl rfl) rfl rfl fun a hF=>q_alloc (cs:=[(strV ([] : List UInt8)),(iV 0)]) hF hS rfl rfl rfl fun a w b6 hF hS=>q_store (vs:=[(strV e_4.Name),(iV e_4.Levels)]) (cs':=[(strV e_4.Name),(iV e_4.Levels)]) 0 0 hF hS sz88 rfl rfl rfl rfl rfl rfl rfl rfl fun a w hF hS=>q_end (n_sq (q_region (q_x (v:=(iV n_2)) hF hS (ex_move rfl) rfl rfl fun a hF=>q_x (v:=(.pointer (some ⟨b6,1,none⟩))) hF hS (ex_fieldAddr Tryz.underlying88 rfl sz3 rfl rfl) rfl rfl fun a hF=>q_x (v:=(iV e_4.Levels)) hF hS (ex_load1 0 0 Tryz.underlying3 rfl rfl rfl rfl) rfl rfl fun a hF=>q_x (v:=(iV (w64 (n_2 * e_4.Levels)))) hF hS (ex_ibin rfl rfl rfl) rfl rfl fun a hF=>q_x (v:=(iV (w64 (n_2 * e_4.Levels)))) hF hS (ex_assign rfl) rfl rfl fun a hF=>q_end (n_ib (n_sq (q_region (q_x (v:=(iV (w64 (t_3 + 1)))) hF hS (ex_ibin rfl rfl rfl) rfl rfl fun a hF=>q_x (v:=(iV (w64 (t_3 + 1)))) hF hS (ex_move rfl) rfl rfl fun a hF=>q_end ?_)))))))
   obtain rfl:=someI hb1
   exact ⟨rfl,_,_,rfl,hF.sub ⟨rfl,rfl,rfl,rfl,trivial⟩,hS.mask [false]⟩
 ·rintro e a w ⟨rfl,hF,hS⟩
  refine x_ib (n_sq ?_)
  refine q_seq (q_region (q_x (v:=(iV n_7)) hF hS (ex_move rfl) rfl rfl fun a hF=>q_x (v:=(iV n_7)) hF hS (ex_assign rfl) rfl rfl fun a hF=>q_end (n_sq (q_ret ?_))))
  obtain rfl:=someI hr
  exact ret_of hF hS rfl (.tmp rfl .nil) rfl

theorem c_spec_uCount (p_g : impl_Geo) (p_s : List impl_Variable) (p_t : impl_Table) (r : Int) (hr : spec_uCount p_g p_s p_t = some r) (w0 : World) (m : Mem) (hv : Vis m w0) (s1 : Sl) (h1 : Rd m s1 p_g.Parents) (s2 : Sl) (h2 : Rd m s2 p_s) (s3 : Sl) (h3 : Rd m s3 p_t.Vars) (s4 : Sl) (h4 : Rd m s4 p_t.Where) :
  Ret Tryz.prog 38 [(.agg #[s1.v]),s2.v,(.agg #[(iV p_t.Level),s3.v,s4.v,(iV p_t.Sum)])] w0 (fun v _=>v = (iV r)):=by
 unfold spec_uCount at hr
 refine ret_start Tryz.func38 rfl 18 rfl rfl m hv fun a hF hS=>q_seq (q_region (q_box (cs:=[s1.v]) hF hS rfl rfl rfl fun a w b5 hF hS=>q_box (cs:=[(iV p_t.Level),s3.v,s4.v,(iV p_t.Sum)]) hF hS rfl rfl rfl fun a w b6 hF hS=>q_x (v:=(iV 0)) hF hS (ex_assign rfl) rfl rfl fun a hF=>q_end (n_sq (q_seq (e_region ⟨[],[]⟩ mixed fun w' hw'=>?_)))))
 have hS:=hS.below hw'
 refine e_x (v:=(.agg #[s1.v])) 0 hF hS rfl (ex_loadA (vs:=[s1.v]) 1 0 Tryz.underlying26 rfl sz26 rfl rfl rfl rfl) rfl rfl (by kernel_rfl) (by kernel_rfl) (by kernel_rfl) (by kernel_rfl) fun a hF=>e_p (v:=(.pointer (some ⟨b6,0,none⟩))) 1 hF rfl (ex_fieldAddr Tryz.underlying29 rfl sz3 rfl rfl) rfl rfl (by kernel_rfl) (by kernel_rfl) (by kernel_rfl) fun a hF=>e_x (v:=(iV p_t.Level)) 2 hF hS rfl (ex_load1 0 0 Tryz.underlying3 rfl rfl rfl rfl) rfl rfl (by kernel_rfl) (by kernel_rfl) (by kernel_rfl) (by kernel_rfl) fun a hF=>e_p (v:=s2.v) 5 hF rfl (ex_move rfl) rfl rfl (by kernel_rfl) (by kernel_rfl) (by kernel_rfl) fun a hF=>e_p (v:=(.pointer (some ⟨b6,1,none⟩))) 6 hF rfl (ex_fieldAddr Tryz.underlying29 rfl sz24 rfl rfl) rfl rfl (by kernel_rfl) (by kernel_rfl) (by kernel_rfl) fun a hF=>e_x (v:=s3.v) 7 hF hS rfl (ex_load1 0 0 Tryz.underlying24 rfl rfl rfl rfl) rfl rfl (by kernel_rfl) (by kernel_rfl) (by kernel_rfl) (by kernel_rfl) fun a hF=>e_one 3 (by kernel_rfl) ?_
 obtain ⟨t_16,ht_16,hr⟩:=bindS hr
 refine e_call (vs:=[(.agg #[s1.v]),(iV p_t.Level)]) hF hS rfl Tryz.func39 (by kernel_rfl) rfl rfl rfl (c_spec_gLevel p_g p_t.Level t_16 ht_16 _ m hS.vis s1 h1) ?_
 rintro a w _ ⟨q18,s18,rfl,hR17,h18⟩ hF hS2
 have hS : St _ _ _ _ [q18,[⟨b6,[(iV p_t.Level),s3.v,s4.v,(iV p_t.Sum)],29⟩],[⟨b5,[s1.v],26⟩]]:=hS.joinF hR17
 refine e_p (v:=(iV (goLen t_16))) 4 hF rfl (ex_len Tryz.underlying24 rfl h18.len) rfl rfl (by kernel_rfl) (by kernel_rfl) (by kernel_rfl) fun a hF=>e_one 8 (by kernel_rfl) ?_
 obtain ⟨t_19,ht_19,hr⟩:=bindS hr
 refine e_call (vs:=[s2.v,s3.v]) hF hS rfl Tryz.func40 (by kernel_rfl) rfl rfl rfl (c_spec_sPart p_s p_t.Vars t_19 ht_19 _ m hS.vis s2 h2 s3 h3) ?_
 rintro a w _ ⟨q21,s21,rfl,hR20,h21⟩ hF hS2
 have hS : St _ _ _ _ [q21,q18,[⟨b6,[(iV p_t.Level),s3.v,s4.v,(iV p_t.Sum)],29⟩],[⟨b5,[s1.v],26⟩]]:=hS.joinF hR20
 refine e_one 9 (by kernel_rfl) ?_
 obtain ⟨m23,hl23,hv23,hz23⟩:=hS.lend
 obtain ⟨t_22,ht_22,hr⟩:=bindS hr
 refine e_call (vs:=[s21.v]) hF hS rfl Tryz.func45 (by kernel_rfl) rfl rfl rfl (c_spec_sCount t_19 t_22 ht_22 _ m23 hv23 s21 (h21.froz hl23 (hz23 0 _ rfl))) ?_
 rintro a w _ rfl hF hS
 refine e_p (v:=(iV (w64 ((goLen t_16) * t_22)))) 10 hF rfl (ex_ibin rfl rfl rfl) rfl rfl (by kernel_rfl) (by kernel_rfl) (by kernel_rfl) fun a hF=>e_p (v:=(iV (w64 ((goLen t_16) * t_22)))) 11 hF rfl (ex_assign rfl) rfl rfl (by kernel_rfl) (by kernel_rfl) (by kernel_rfl) fun a hF=>e_end (by kernel_rfl) (n_sq (q_ret ?_)) _
 obtain rfl:=someI hr
 exact ret_of hF hS rfl (.tmp rfl .nil) rfl

theorem c_spec_uGood (p_g : impl_Geo) (p_s : List impl_Variable) (p_t : impl_Table) (r : Bool) (hr : spec_uGood p_g p_s p_t = some r) (w0 : World) (m : Mem) (hv : Vis m w0) (s1 : Sl) (h1 : Rd m s1 p_g.Parents) (s2 : Sl) (h2 : Rd m s2 p_s) (s3 : Sl) (h3 : Rd m s3 p_t.Vars) (s4 : Sl) (h4 : Rd m s4 p_t.Where) :
  Ret Tryz.prog 23 [(.agg #[s1.v]),s2.v,(.agg #[(iV p_t.Level),s3.v,s4.v,(iV p_t.Sum)])] w0 (fun v _=>v = (.bool r)):=by
 unfold spec_uGood at hr
 refine ret_start Tryz.func23 rfl 53 rfl rfl m hv fun a hF hS=>q_seq (q_region (q_box (cs:=[s1.v]) hF hS rfl rfl rfl fun a w b5 hF hS=>q_box (cs:=[(iV p_t.Level),s3.v,s4.v,(iV p_t.Sum)]) hF hS rfl rfl rfl fun a w b6 hF hS=>q_x (v:=(.bool false)) hF hS (ex_assign rfl) rfl rfl fun a hF=>q_end (n_sq (q_seq (q_seq ?_)))))
 obtain ⟨t_15,hj1,hr⟩:=bindS hr
 refine q_join (fun a w=>Fr a 53 [(1,s2.v),(3,(.pointer (some ⟨b5,0,none⟩))),(5,(.pointer (some ⟨b6,0,none⟩))),(47,(.bool t_15))]∧St [] w0 w m [[⟨b6,[(iV p_t.Level),s3.v,s4.v,(iV p_t.Sum)],29⟩],[⟨b5,[s1.v],26⟩]]) ?_ ?_
 ·refine q_region (q_x (v:=(.agg #[s1.v])) hF hS (ex_loadA (vs:=[s1.v]) 1 0 Tryz.underlying26 rfl sz26 rfl rfl rfl rfl) rfl rfl fun a hF=>?_)
  obtain ⟨t_7,ht_7,hj1⟩:=bindS hj1
  refine q_call (vs:=[(.agg #[s1.v])]) hF hS Tryz.func34 (by kernel_rfl) rfl rfl rfl (c_spec_gGood p_g t_7 ht_7 _ m hS.vis s1 h1) ?_
  rintro a w _ rfl hF hS
  refine q_x (v:=(.bool (!t_7))) hF hS (ex_not rfl) rfl rfl fun a hF=>q_x (v:=(.bool (!t_7))) hF hS (ex_move rfl) rfl rfl fun a hF=>?_
  rcases bcase (!t_7) with hc2 | hc2
  ·have hj1:=cond_f hc2 hj1
   refine q_xg (v:=s2.v) hF hS (ex_move rfl) (wanted_t hF rfl rfl rfl hc2) rfl fun a hF=>?_
   obtain ⟨t_8,ht_8,hj1⟩:=bindS hj1
   refine q_callg (vs:=[s2.v]) hF hS (wanted_t hF rfl rfl rfl hc2) Tryz.func35 (by kernel_rfl) rfl rfl rfl (c_spec_sGood p_s t_8 ht_8 _ m hS.vis s2 h2) ?_
   rintro a w _ rfl hF hS
   refine q_xg (v:=(.bool (!t_8))) hF hS (ex_not rfl) (wanted_t hF rfl rfl rfl hc2) rfl fun a hF=>q_x (v:=(.bool (!t_8))) hF hS (ex_pick_f rfl rfl hc2) rfl rfl fun a hF=>q_x (v:=(.bool (!t_8))) hF hS (ex_move rfl) rfl rfl fun a hF=>?_
   rcases bcase (!t_8) with hc3 | hc3
   ·have hj1:=cond_f hc3 hj1
    refine q_xg (v:=(.agg #[s1.v])) hF hS (ex_loadA (vs:=[s1.v]) 1 0 Tryz.underlying26 rfl sz26 rfl rfl rfl rfl) (wanted_t hF rfl rfl rfl hc3) rfl fun a hF=>q_xg (v:=(.pointer (some ⟨b6,0,none⟩))) hF hS (ex_fieldAddr Tryz.underlying29 rfl sz3 rfl rfl) (wanted_t hF rfl rfl rfl hc3) rfl fun a hF=>q_xg (v:=(iV p_t.Level)) hF hS (ex_load1 0 0 Tryz.underlying3 rfl rfl rfl rfl) (wanted_t hF rfl rfl rfl hc3) rfl fun a hF=>?_
    obtain ⟨t_9,ht_9,hj1⟩:=bindS hj1
    refine q_callg (vs:=[(.agg #[s1.v]),(iV p_t.Level)]) hF hS (wanted_t hF rfl rfl rfl hc3) Tryz.func39 (by kernel_rfl) rfl rfl rfl (c_spec_gLevel p_g p_t.Level t_9 ht_9 _ m hS.vis s1 h1) ?_
    rintro a w _ ⟨q11,s11,rfl,hR10,h11⟩ hF hS2
    have hS : St _ _ _ _ [q11,[⟨b6,[(iV p_t.Level),s3.v,s4.v,(iV p_t.Sum)],29⟩],[⟨b5,[s1.v],26⟩]]:=hS.joinF hR10
    refine q_xg (v:=(iV (goLen t_9))) hF hS (ex_len Tryz.underlying24 rfl h11.len) (wanted_t hF rfl rfl rfl hc3) rfl fun a hF=>q_xg (v:=(.bool ((goLen t_9) == 0))) hF hS (ex_ibin rfl rfl rfl) (wanted_t hF rfl rfl rfl hc3) rfl fun a hF=>q_x (v:=(.bool ((goLen t_9) == 0))) hF hS (ex_pick_f rfl rfl hc3) rfl rfl fun a hF=>q_x (v:=(.bool ((goLen t_9) == 0))) hF hS (ex_move rfl) rfl rfl fun a hF=>?_
    rcases bcase ((goLen t_9) == 0) with hc4 | hc4
    ·have hj1:=cond_f hc4 hj1
     refine q_xg (v:=(.pointer (some ⟨b6,1,none⟩))) hF hS (ex_fieldAddr Tryz.underlying29 rfl sz24 rfl rfl) (wanted_t hF rfl rfl rfl hc4) rfl fun a hF=>q_xg (v:=s3.v) hF hS (ex_load1 1 0 Tryz.underlying24 rfl rfl rfl rfl) (wanted_t hF rfl rfl rfl hc4) rfl fun a hF=>q_xg (v:=s2.v) hF hS (ex_move rfl) (wanted_t hF rfl rfl rfl hc4) rfl fun a hF=>q_xg (v:=(iV (goLen p_s))) hF hS (ex_len Tryz.underlying27 rfl h2.len) (wanted_t hF rfl rfl rfl hc4) rfl fun a hF=>q_xg (v:=(iV (w64 ((goLen p_s) - 1)))) hF hS (ex_ibin rfl rfl rfl) (wanted_t hF rfl rfl rfl hc4) rfl fun a hF=>?_
     obtain ⟨t_12,ht_12,hj1⟩:=bindS hj1
     refine q_callg (vs:=[s3.v,(iV 0),(iV (w64 ((goLen p_s) - 1)))]) hF hS (wanted_t hF rfl rfl rfl hc4) Tryz.func63 (by kernel_rfl) rfl rfl rfl (c_spec_l1Rising p_t.Vars 0 (w64 ((goLen p_s) - 1)) t_12 ht_12 _ m hS.vis s3 h3) ?_
     rintro a w _ rfl hF hS
     refine q_xg (v:=(.bool (!t_12))) hF hS (ex_not rfl) (wanted_t hF rfl rfl rfl hc4) rfl fun a hF=>q_x (v:=(.bool (!t_12))) hF hS (ex_pick_f rfl rfl hc4) rfl rfl fun a hF=>q_x (v:=(.bool (!t_12))) hF hS (ex_move rfl) rfl rfl fun a hF=>?_
     rcases bcase (!t_12) with hc5 | hc5
     ·have hj1:=cond_f hc5 hj1
      refine q_xg (v:=s2.v) hF hS (ex_move rfl) (wanted_t hF rfl rfl rfl hc5) rfl fun a hF=>q_xg (v:=(.pointer (some ⟨b6,2,none⟩))) hF hS (ex_fieldAddr Tryz.underlying29 rfl sz24 rfl rfl) (wanted_t hF rfl rfl rfl hc5) rfl fun a hF=>q_xg (v:=s4.v) hF hS (ex_load1 1 0 Tryz.underlying24 rfl rfl rfl rfl) (wanted_t hF rfl rfl rfl hc5) rfl fun a hF=>?_
      obtain ⟨t_13,ht_13,hj1⟩:=bindS hj1
      refine q_callg (vs:=[s2.v,s4.v]) hF hS (wanted_t hF rfl rfl rfl hc5) Tryz.func64 (by kernel_rfl) rfl rfl rfl (c_spec_uWhere p_s p_t.Where t_13 ht_13 _ m hS.vis s2 h2 s4 h4) ?_
      rintro a w _ rfl hF hS
      refine q_xg (v:=(.bool (!t_13))) hF hS (ex_not rfl) (wanted_t hF rfl rfl rfl hc5) rfl fun a hF=>q_x (v:=(.bool (!t_13))) hF hS (ex_pick_f rfl rfl hc5) rfl rfl fun a hF=>q_x (v:=(.bool (!t_13))) hF hS (ex_move rfl) rfl rfl fun a hF=>?_
      rcases bcase (!t_13) with hc6 | hc6
      ·have hj1:=cond_f hc6 hj1
       refine q_xg (v:=(.pointer (some ⟨b6,3,none⟩))) hF hS (ex_fieldAddr Tryz.underlying29 rfl sz3 rfl rfl) (wanted_t hF rfl rfl rfl hc6) rfl fun a hF=>q_xg (v:=(iV p_t.Sum)) hF hS (ex_load1 1 0 Tryz.underlying3 rfl rfl rfl rfl) (wanted_t hF rfl rfl rfl hc6) rfl fun a hF=>q_xg (v:=s2.v) hF hS (ex_move rfl) (wanted_t hF rfl rfl rfl hc6) rfl fun a hF=>q_xg (v:=(iV (goLen p_s))) hF hS (ex_len Tryz.underlying27 rfl h2.len) (wanted_t hF rfl rfl rfl hc6) rfl fun a hF=>q_xg (v:=(iV (w64 ((goLen p_s) - 1)))) hF hS (ex_ibin rfl rfl rfl) (wanted_t hF rfl rfl rfl hc6) rfl fun a hF=>?_
       obtain ⟨t_14,ht_14,hj1⟩:=bindS hj1
       refine q_callg (vs:=[(iV p_t.Sum),(iV (-1)),(iV (w64 ((goLen p_s) - 1)))]) hF hS (wanted_t hF rfl rfl rfl hc6) Tryz.func56 (by kernel_rfl) rfl rfl rfl (c_spec_l1In p_t.Sum (-1) (w64 ((goLen p_s) - 1)) t_14 ht_14 _ m hS.vis) ?_
       rintro a w _ rfl hF hS
       refine q_xg (v:=(.bool (!t_14))) hF hS (ex_not rfl) (wanted_t hF rfl rfl rfl hc6) rfl fun a hF=>q_x (v:=(.bool (!t_14))) hF hS (ex_pick_f rfl rfl hc6) rfl rfl fun a hF=>q_end (n_jn ?_)
       obtain rfl:=someI hj1
       exact ⟨hF.sub ⟨rfl,rfl,rfl,rfl,trivial⟩,hS.mask [false,true,true]⟩
      ·have hj1:=cond_t hc6 hj1
       refine q_skip hF (wanted_f hF rfl rfl rfl hc6 rfl) rfl fun a hF=>q_skip hF (wanted_f hF rfl rfl rfl hc6 rfl) rfl fun a hF=>q_skip hF (wanted_f hF rfl rfl rfl hc6 rfl) rfl fun a hF=>q_skip hF (wanted_f hF rfl rfl rfl hc6 rfl) rfl fun a hF=>q_skip hF (wanted_f hF rfl rfl rfl hc6 rfl) rfl fun a hF=>q_skip hF (wanted_f hF rfl rfl rfl hc6 rfl) rfl fun a hF=>q_skip hF (wanted_f hF rfl rfl rfl hc6 rfl) rfl fun a hF=>q_x (v:=(.bool true)) hF hS (ex_pick_t rfl rfl hc6) rfl rfl fun a hF=>q_end (n_jn ?_)
       obtain rfl:=someI hj1
       exact ⟨hF.sub ⟨rfl,rfl,rfl,rfl,trivial⟩,hS.mask [false,true,true]⟩
     ·have hj1:=cond_t hc5 hj1
      refine q_skip hF (wanted_f hF rfl rfl rfl hc5 rfl) rfl fun a hF=>q_skip hF (wanted_f hF rfl rfl rfl hc5 rfl) rfl fun a hF=>q_skip hF (wanted_f hF rfl rfl rfl hc5 rfl) rfl fun a hF=>q_skip hF (wanted_f hF rfl rfl rfl hc5 rfl) rfl fun a hF=>q_skip hF (wanted_f hF rfl rfl rfl hc5 rfl) rfl fun a hF=>q_x (v:=(.bool true)) hF hS (ex_pick_t rfl rfl hc5) rfl rfl fun a hF=>q_x (v:=(.bool true)) hF hS (ex_move rfl) rfl rfl fun a hF=>q_skip hF (wanted_f hF rfl rfl rfl rfl rfl) rfl fun a hF=>q_skip hF (wanted_f hF rfl rfl rfl rfl rfl) rfl fun a hF=>q_skip hF (wanted_f hF rfl rfl rfl rfl rfl) rfl fun a hF=>q_skip hF (wanted_f hF rfl rfl rfl rfl rfl) rfl fun a hF=>q_skip hF (wanted_f hF rfl rfl rfl rfl rfl) rfl fun a hF=>q_skip hF (wanted_f hF rfl rfl rfl rfl rfl) rfl fun a hF=>q_skip hF (wanted_f hF rfl rfl rfl rfl rfl) rfl fun a hF=>q_x (v:=(.bool true)) hF hS (ex_pick_t rfl rfl rfl) rfl rfl fun a hF=>q_end (n_jn ?_)
      obtain rfl:=someI hj1
      exact ⟨hF.sub ⟨rfl,rfl,rfl,rfl,trivial⟩,hS.mask [false,true,true]⟩
    ·have hj1:=cond_t hc4 hj1
     refine q_skip hF (wanted_f hF rfl rfl rfl hc4 rfl) rfl fun a hF=>q_skip hF (wanted_f hF rfl rfl rfl hc4 rfl) rfl fun a hF=>q_skip hF (wanted_f hF rfl rfl rfl hc4 rfl) rfl fun a hF=>q_skip hF (wanted_f hF rfl rfl rfl hc4 rfl) rfl fun a hF=>q_skip hF (wanted_f hF rfl rfl rfl hc4 rfl) rfl fun a hF=>q_skip hF (wanted_f hF rfl rfl rfl hc4 rfl) rfl fun a hF=>q_skip hF (wanted_f hF rfl rfl rfl hc4 rfl) rfl fun a hF=>q_x (v:=(.bool true)) hF hS (ex_pick_t rfl rfl hc4) rfl rfl fun a hF=>q_x (v:=(.bool true)) hF hS (ex_move rfl) rfl rfl fun a hF=>q_skip hF (wanted_f hF rfl rfl rfl rfl rfl) rfl fun a hF=>q_skip hF (wanted_f hF rfl rfl rfl rfl rfl) rfl fun a hF=>q_skip hF (wanted_f hF rfl rfl rfl rfl rfl) rfl fun a hF=>q_skip hF (wanted_f hF rfl rfl rfl rfl rfl) rfl fun a hF=>q_skip hF (wanted_f hF rfl rfl rfl rfl rfl) rfl fun a hF=>q_x (v:=(.bool true)) hF hS (ex_pick_t rfl rfl rfl) rfl rfl fun a hF=>q_x (v:=(.bool true)) hF hS (ex_move rfl) rfl rfl fun a hF=>q_skip hF (wanted_f hF rfl rfl rfl rfl rfl) rfl fun a hF=>q_skip hF (wanted_f hF rfl rfl rfl rfl rfl) rfl fun a hF=>q_skip hF (wanted_f hF rfl rfl rfl rfl rfl) rfl fun a hF=>q_skip hF (wanted_f hF rfl rfl rfl rfl rfl) rfl fun a hF=>q_skip hF (wanted_f hF rfl rfl rfl rfl rfl) rfl fun a hF=>q_skip hF (wanted_f hF rfl rfl rfl rfl rfl) rfl fun a hF=>q_skip hF (wanted_f hF rfl rfl rfl rfl rfl) rfl fun a hF=>q_x (v:=(.bool true)) hF hS (ex_pick_t rfl rfl rfl) rfl rfl fun a hF=>q_end (n_jn ?_)
     obtain rfl:=someI hj1
     exact ⟨hF.sub ⟨rfl,rfl,rfl,rfl,trivial⟩,hS.mask [false,true,true]⟩
   ·have hj1:=cond_t hc3 hj1
    refine q_skip hF (wanted_f hF rfl rfl rfl hc3 rfl) rfl fun a hF=>q_skip hF (wanted_f hF rfl rfl rfl hc3 rfl) rfl fun a hF=>q_skip hF (wanted_f hF rfl rfl rfl hc3 rfl) rfl fun a hF=>q_skip hF (wanted_f hF rfl rfl rfl hc3 rfl) rfl fun a hF=>q_skip hF (wanted_f hF rfl rfl rfl hc3 rfl) rfl fun a hF=>q_skip hF (wanted_f hF rfl rfl rfl hc3 rfl) rfl fun a hF=>q_x (v:=(.bool true)) hF hS (ex_pick_t rfl rfl hc3) rfl rfl fun a hF=>q_x (v:=(.bool true)) hF hS (ex_move rfl) rfl rfl fun a hF=>q_skip hF (wanted_f hF rfl rfl rfl rfl rfl) rfl fun a hF=>q_skip hF (wanted_f hF rfl rfl rfl rfl rfl) rfl fun a hF=>q_skip hF (wanted_f hF rfl rfl rfl rfl rfl) rfl fun a hF=>q_skip hF (wanted_f hF rfl rfl rfl rfl rfl) rfl fun a hF=>q_skip hF (wanted_f hF rfl rfl rfl rfl rfl) rfl fun a hF=>q_skip hF (wanted_f hF rfl rfl rfl rfl rfl) rfl fun a hF=>q_skip hF (wanted_f hF rfl rfl rfl rfl rfl) rfl fun a hF=>q_x (v:=(.bool true)) hF hS (ex_pick_t rfl rfl rfl) rfl rfl fun a hF=>q_x (v:=(.bool true)) hF hS (ex_move rfl) rfl rfl fun a hF=>q_skip hF (wanted_f hF rfl rfl rfl rfl rfl) rfl fun a hF=>q_skip hF (wanted_f hF rfl rfl rfl rfl rfl) rfl fun a hF=>q_skip hF (wanted_f hF rfl rfl rfl rfl rfl) rfl fun a hF=>q_skip hF (wanted_f hF rfl rfl rfl rfl rfl) rfl fun a hF=>q_skip hF (wanted_f hF rfl rfl rfl rfl rfl) rfl fun a hF=>q_x (v:=(.bool true)) hF hS (ex_pick_t rfl rfl rfl) rfl rfl fun a hF=>q_x (v:=(.bool true)) hF hS (ex_move rfl) rfl rfl fun a hF=>q_skip hF (wanted_f hF rfl rfl rfl rfl rfl) rfl fun a hF=>?_
    refine q_skip hF (wanted_f hF rfl rfl rfl rfl rfl) rfl fun a hF=>q_skip hF (wanted_f hF rfl rfl rfl rfl rfl) rfl fun a hF=>q_skip hF (wanted_f hF rfl rfl rfl rfl rfl) rfl fun a hF=>q_skip hF (wanted_f hF rfl rfl rfl rfl rfl) rfl fun a hF=>q_skip hF (wanted_f hF rfl rfl rfl rfl rfl) rfl fun a hF=>q_skip hF (wanted_f hF rfl rfl rfl rfl rfl) rfl fun a hF=>q_x (v:=(.bool true)) hF hS (ex_pick_t rfl rfl rfl) rfl rfl fun a hF=>q_end (n_jn ?_)
    obtain rfl:=someI hj1
    exact ⟨hF.sub ⟨rfl,rfl,rfl,rfl,trivial⟩,hS⟩
  ·have hj1:=cond_t hc2 hj1
   refine q_skip hF (wanted_f hF rfl rfl rfl hc2 rfl) rfl fun a hF=>q_skip hF (wanted_f hF rfl rfl rfl hc2 rfl) rfl fun a hF=>q_skip hF (wanted_f hF rfl rfl rfl hc2 rfl) rfl fun a hF=>q_x (v:=(.bool true)) hF hS (ex_pick_t rfl rfl hc2) rfl rfl fun a hF=>q_x (v:=(.bool true)) hF hS (ex_move rfl) rfl rfl fun a hF=>q_skip hF (wanted_f hF rfl rfl rfl rfl rfl) rfl fun a hF=>q_skip hF (wanted_f hF rfl rfl rfl rfl rfl) rfl fun a hF=>q_skip hF (wanted_f hF rfl rfl rfl rfl rfl) rfl fun a hF=>q_skip hF (wanted_f hF rfl rfl rfl rfl rfl) rfl fun a hF=>q_skip hF (wanted_f hF rfl rfl rfl rfl rfl) rfl fun a hF=>q_skip hF (wanted_f hF rfl rfl rfl rfl rfl) rfl fun a hF=>q_x (v:=(.bool true)) hF hS (ex_pick_t rfl rfl rfl) rfl rfl fun a hF=>q_x (v:=(.bool true)) hF hS (ex_move rfl) rfl rfl fun a hF=>q_skip hF (wanted_f hF rfl rfl rfl rfl rfl) rfl fun a hF=>q_skip hF (wanted_f hF rfl rfl rfl rfl rfl) rfl fun a hF=>q_skip hF (wanted_f hF rfl rfl rfl rfl rfl) rfl fun a hF=>q_skip hF (wanted_f hF rfl rfl rfl rfl rfl) rfl fun a hF=>q_skip hF (wanted_f hF rfl rfl rfl rfl rfl) rfl fun a hF=>q_skip hF (wanted_f hF rfl rfl rfl rfl rfl) rfl fun a hF=>q_skip hF (wanted_f hF rfl rfl rfl rfl rfl) rfl fun a hF=>q_x (v:=(.bool true)) hF hS (ex_pick_t rfl rfl rfl) rfl rfl fun a hF=>q_x (v:=(.bool true)) hF hS (ex_move rfl) rfl rfl fun a hF=>q_skip hF (wanted_f hF rfl rfl rfl rfl rfl) rfl fun a hF=>q_skip hF (wanted_f hF rfl rfl rfl rfl rfl) rfl fun a hF=>q_skip hF (wanted_f hF rfl rfl rfl rfl rfl) rfl fun a hF=>?_
   refine q_skip hF (wanted_f hF rfl rfl rfl rfl rfl) rfl fun a hF=>q_skip hF (wanted_f hF rfl rfl rfl rfl rfl) rfl fun a hF=>q_x (v:=(.bool true)) hF hS (ex_pick_t rfl rfl rfl) rfl rfl fun a hF=>q_x (v:=(.bool true)) hF hS (ex_move rfl) rfl rfl fun a hF=>q_skip hF (wanted_f hF rfl rfl rfl rfl rfl) rfl fun a hF=>q_skip hF (wanted_f hF rfl rfl rfl rfl rfl) rfl fun a hF=>q_skip hF (wanted_f hF rfl rfl rfl rfl rfl) rfl fun a hF=>q_skip hF (wanted_f hF rfl rfl rfl rfl rfl) rfl fun a hF=>q_skip hF (wanted_f hF rfl rfl rfl rfl rfl) rfl fun a hF=>q_skip hF (wanted_f hF rfl rfl rfl rfl rfl) rfl fun a hF=>q_skip hF (wanted_f hF rfl rfl rfl rfl rfl) rfl fun a hF=>q_x (v:=(.bool true)) hF hS (ex_pick_t rfl rfl rfl) rfl rfl fun a hF=>q_end (n_jn ?_)
   obtain rfl:=someI hj1
   exact ⟨hF.sub ⟨rfl,rfl,rfl,rfl,trivial⟩,hS⟩
 ·rintro a w ⟨hF,hS⟩
  refine n_sq ?_
  rcases bcase (t_15) with hc7 | hc7
  ·have hr:=cond_f hc7 hr
   refine q_cond_f hF rfl hc7 (q_skipc (n_sq (q_seq (q_region (q_x (v:=(.agg #[s1.v])) hF hS (ex_loadA (vs:=[s1.v]) 1 0 Tryz.underlying26 rfl sz26 rfl rfl rfl rfl) rfl rfl fun a hF=>q_x (v:=s2.v) hF hS (ex_move rfl) rfl rfl fun a hF=>q_x (v:=(.agg #[(iV p_t.Level),s3.v,s4.v,(iV p_t.Sum)])) hF hS (ex_loadA (vs:=[(iV p_t.Level),s3.v,s4.v,(iV p_t.Sum)]) 0 0 Tryz.underlying29 rfl sz29 rfl rfl rfl rfl) rfl rfl fun a hF=>?_)))))
   obtain ⟨t_16,ht_16,hr⟩:=bindS hr
   refine q_call (vs:=[(.agg #[s1.v]),s2.v,(.agg #[(iV p_t.Level),s3.v,s4.v,(iV p_t.Sum)])]) hF hS Tryz.func38 (by kernel_rfl) rfl rfl rfl (c_spec_uCount p_g p_s p_t t_16 ht_16 _ m hS.vis s1 h1 s2 h2 s3 h3 s4 h4) ?_
   rintro a w _ rfl hF hS
   refine q_x (v:=(.bool (decide (t_16 ≤ 600)))) hF hS (ex_ibin rfl rfl rfl) rfl rfl fun a hF=>q_x (v:=(.bool (decide (t_16 ≤ 600)))) hF hS (ex_assign rfl) rfl rfl fun a hF=>q_end (n_sq (q_ret ?_))
   obtain rfl:=someI hr
   exact ret_of hF hS rfl (.tmp rfl .nil) rfl
  ·have hr:=cond_t hc7 hr
   refine q_cond_t hF rfl hc7 (q_seq (q_region (q_x (v:=(.bool false)) hF hS (ex_assign rfl) rfl rfl fun a hF=>q_end (n_sq (q_ret (r_sq ?_))))))
   obtain rfl:=someI hr
   exact ret_of hF hS rfl (.tmp rfl .nil) rfl

theorem c_spec_gUp (p_g : impl_Geo) (p_i : Int) (p_level : Int) (r : Int) (hr : spec_gUp p_g p_i p_level = some r) (w0 : World) (m : Mem) (hv : Vis m w0) (s1 : Sl) (h1 : Rd m s1 p_g.Parents) :
  Ret Tryz.prog 44 [(.agg #[s1.v]),(iV p_i),(iV p_level)] w0 (fun v _=>v = (iV r)):=by
 unfold spec_gUp at hr
 refine ret_start Tryz.func44 rfl 27 rfl rfl m hv fun a hF hS=>q_seq (q_region (q_box (cs:=[s1.v]) hF hS rfl rfl rfl fun a w b2 hF hS=>q_x (v:=(iV 0)) hF hS (ex_assign rfl) rfl rfl fun a hF=>q_end (n_sq (q_seq (q_region (q_x (v:=(.agg #[s1.v])) hF hS (ex_loadA (vs:=[s1.v]) 0 0 Tryz.underlying26 rfl sz26 rfl rfl rfl rfl) rfl rfl fun a hF=>q_x (v:=(iV p_i)) hF hS (ex_move rfl) rfl rfl fun a hF=>?_))))))
 obtain ⟨t_3,ht_3,hr⟩:=bindS hr
 refine q_call (vs:=[(.agg #[s1.v]),(iV p_i)]) hF hS Tryz.func84 (by kernel_rfl) rfl rfl rfl (c_spec_gDepth p_g p_i t_3 ht_3 _ m hS.vis s1 h1) ?_
 rintro a w _ rfl hF hS
 refine q_x (v:=(iV t_3)) hF hS (ex_assign rfl) rfl rfl fun a hF=>q_end (n_sq (q_seq (q_seq (q_region (q_x (v:=(iV p_level)) hF hS (ex_move rfl) rfl rfl fun a hF=>q_x (v:=(.bool (decide (p_level < 0)))) hF hS (ex_ibin rfl rfl rfl) rfl rfl fun a hF=>q_end (n_sq ?_))))))
 rcases bcase (decide (p_level < 0)) with hc1 | hc1
 ·have hr:=cond_f hc1 hr
  refine q_cond_f hF rfl hc1 (q_skipc (n_sq (q_seq (q_block ?_))))
  obtain ⟨o2,hl2,hr⟩:=bindS hr
  refine q_loop (fun (s : Int × Int) a w=>∃ i_4,∃ d_5,s = (i_4,d_5)∧Fr a 27 [(1,(iV i_4)),(2,(iV p_level)),(3,(.pointer (some ⟨b2,0,none⟩))),(7,(iV d_5))]∧St [] w0 w m [[⟨b2,[s1.v],26⟩]]) (fun (o : Int × Int) e a w=>∃ i_8,∃ d_9,o = (i_8,d_9)∧e = .exit 0∧Fr a 27 [(1,(iV i_8)),(2,(iV p_level)),(7,(iV d_9))]∧St [] w0 w m []) hl2 ⟨_,_,rfl,hF.sub ⟨rfl,rfl,rfl,rfl,trivial⟩,hS⟩ ?_ ?_
  ·clear hF hS
   rintro s a w st ⟨i_4,d_5,rfl,hF,hS⟩ hb2
   unfold spec_gUp_l1 at hb2
   refine q_seq (q_seq (q_region (q_x (v:=(iV d_5)) hF hS (ex_move rfl) rfl rfl fun a hF=>q_x (v:=(iV p_level)) hF hS (ex_move rfl) rfl rfl fun a hF=>q_x (v:=(.bool (decide (p_level < d_5)))) hF hS (ex_ibin rfl rfl rfl) rfl rfl fun a hF=>q_end (n_sq ?_))))
   rcases bcase (decide (p_level < d_5)) with hc3 | hc3
   ·have hb2:=cond_f hc3 hb2
    refine q_cond_f hF rfl hc3 (q_exit (x_sq ?_))
    obtain rfl:=someI hb2
    exact ⟨nofun,.inl ⟨_,_,rfl,rfl,hF.sub ⟨rfl,rfl,rfl,trivial⟩,hS.mask [false]⟩⟩
   ·have hb2:=cond_t hc3 hb2
    refine q_cond_t hF rfl hc3 (q_skipc (n_sq (q_seq (q_block (q_region (q_x (v:=(.pointer (some ⟨b2,0,none⟩))) hF hS (ex_fieldAddr Tryz.underlying26 rfl sz24 rfl rfl) rfl rfl fun a hF=>q_x (v:=s1.v) hF hS (ex_load1 0 0 Tryz.underlying24 rfl rfl rfl rfl) rfl rfl fun a hF=>q_x (v:=(iV i_4)) hF hS (ex_move rfl) rfl rfl fun a hF=>?_))))))
    obtain ⟨e_6,he_6,hb2⟩:=bindS hb2
    obtain ⟨vs7,at7,d7⟩:=h1.at he_6 1 rfl
    obtain rfl : vs7 = [(iV e_6)]:=d7
    refine q_x (v:=(elP s1 (i_4.toNat * 1))) hF hS (ex_indexAddr Tryz.underlying24 sz3 rfl rfl (h1.idx he_6)) rfl rfl fun a hF=>q_x (v:=(iV e_6)) hF hS (ex_loadE1 0 Tryz.underlying3 rfl rfl ((at7).at) rfl rfl) rfl rfl fun a hF=>q_x (v:=(iV e_6)) hF hS (ex_assign rfl) rfl rfl fun a hF=>q_end (n_ib (n_sq (q_region (q_x (v:=(iV d_5)) hF hS (ex_move rfl) rfl rfl fun a hF=>q_x (v:=(iV (w64 (d_5 - 1)))) hF hS (ex_ibin rfl rfl rfl) rfl rfl fun a hF=>q_x (v:=(iV (w64 (d_5 - 1)))) hF hS (ex_assign rfl) rfl rfl fun a hF=>q_end ?_))))
    obtain rfl:=someI hb2
    exact ⟨rfl,_,_,rfl,hF.sub ⟨rfl,rfl,rfl,rfl,trivial⟩,hS⟩
  ·rintro e a w ⟨i_8,d_9,rfl,rfl,hF,hS⟩
   refine x_ib (n_sq ?_)
   refine q_seq (q_seq (q_region (q_x (v:=(iV d_9)) hF hS (ex_move rfl) rfl rfl fun a hF=>q_x (v:=(iV p_level)) hF hS (ex_move rfl) rfl rfl fun a hF=>q_x (v:=(.bool (decide (d_9 < p_level)))) hF hS (ex_ibin rfl rfl rfl) rfl rfl fun a hF=>q_end (n_sq ?_))))
   rcases bcase (decide (d_9 < p_level)) with hc4 | hc4
   ·have hr:=cond_f hc4 hr
    refine q_cond_f hF rfl hc4 (q_skipc (n_sq (q_seq (q_region (q_x (v:=(iV i_8)) hF hS (ex_move rfl) rfl rfl fun a hF=>q_x (v:=(iV i_8)) hF hS (ex_assign rfl) rfl rfl fun a hF=>q_end (n_sq (q_ret ?_)))))))
    obtain rfl:=someI hr
    exact ret_of hF hS rfl (.tmp rfl .nil) rfl
   ·have hr:=cond_t hc4 hr
    refine q_cond_t hF rfl hc4 (q_seq (q_region (q_x (v:=(iV (-1))) hF hS (ex_assign rfl) rfl rfl fun a hF=>q_end (n_sq (q_ret (r_sq ?_))))))
    obtain rfl:=someI hr
    exact ret_of hF hS rfl (.tmp rfl .nil) rfl
 ·have hr:=cond_t hc1 hr
  refine q_cond_t hF rfl hc1 (q_seq (q_region (q_x (v:=(iV (-1))) hF hS (ex_assign rfl) rfl rfl fun a hF=>q_end (n_sq (q_ret (r_sq ?_))))))
  obtain rfl:=someI hr
  exact ret_of hF hS rfl (.tmp rfl .nil) rfl

theorem c_spec_lLevels (p_g : impl_Geo) (p_t : impl_Table) (p_u : impl_Table) (r : Bool) (hr : spec_lLevels p_g p_t p_u = some r) (w0 : World) (m : Mem) (hv : Vis m w0) (s1 : Sl) (h1 : Rd m s1 p_g.Parents) (s2 : Sl) (h2 : Rd m s2 p_t.Vars) (s3 : Sl) (h3 : Rd m s3 p_t.Where) (s4 : Sl) (h4 : Rd m s4 p_u.Vars) (s5 : Sl) (h5 : Rd m s5 p_u.Where) :
  Ret Tryz.prog 65 [(.agg #[s1.v]),(.agg #[(iV p_t.Level),s2.v,s3.v,(iV p_t.Sum)]),(.agg #[(iV p_u.Level),s4.v,s5.v,(iV p_u.Sum)])] w0 (fun v _=>v = (.bool r)):=by
 unfold spec_lLevels at hr
 refine ret_start Tryz.func65 rfl 41 rfl rfl m hv fun a hF hS=>q_seq (q_region (q_box (cs:=[s1.v]) hF hS rfl rfl rfl fun a w b6 hF hS=>q_box (cs:=[(iV p_t.Level),s2.v,s3.v,(iV p_t.Sum)]) hF hS rfl rfl rfl fun a w b7 hF hS=>q_box (cs:=[(iV p_u.Level),s4.v,s5.v,(iV p_u.Sum)]) hF hS rfl rfl rfl fun a w b8 hF hS=>q_x (v:=(.bool false)) hF hS (ex_assign rfl) rfl rfl fun a hF=>q_end (n_sq (q_seq (q_seq (q_region (q_x (v:=(.pointer (some ⟨b7,0,none⟩))) hF hS (ex_fieldAddr Tryz.underlying29 rfl sz3 rfl rfl) rfl rfl fun a hF=>q_x (v:=(iV p_t.Level)) hF hS (ex_load1 1 0 Tryz.underlying3 rfl rfl rfl rfl) rfl rfl fun a hF=>q_x (v:=(.pointer (some ⟨b8,0,none⟩))) hF hS (ex_fieldAddr Tryz.underlying29 rfl sz3 rfl rfl) rfl rfl fun a hF=>q_x (v:=(iV p_u.Level)) hF hS (ex_load1 0 0 Tryz.underlying3 rfl rfl rfl rfl) rfl rfl fun a hF=>q_x (v:=(.bool (decide (p_u.Level ≤ p_t.Level)))) hF hS (ex_ibin rfl rfl rfl) rfl rfl fun a hF=>q_end (n_sq ?_))))))))
 rcases bcase (decide (p_u.Level ≤ p_t.Level)) with hc1 | hc1
 ·have hr:=cond_f hc1 hr
  refine q_cond_f hF rfl hc1 (q_skipc (n_sq (q_seq (q_seq (q_region (q_x (v:=(.agg #[s1.v])) hF hS (ex_loadA (vs:=[s1.v]) 2 0 Tryz.underlying26 rfl sz26 rfl rfl rfl rfl) rfl rfl fun a hF=>?_))))))
  obtain ⟨t_9,ht_9,hr⟩:=bindS hr
  refine q_call (vs:=[(.agg #[s1.v])]) hF hS Tryz.func68 (by kernel_rfl) rfl rfl rfl (c_spec_gLeaves p_g t_9 ht_9 _ m hS.vis s1 h1) ?_
  rintro a w _ ⟨q11,s11,rfl,hR10,h11⟩ hF hS2
  have hS : St _ _ _ _ [q11,[⟨b8,[(iV p_u.Level),s4.v,s5.v,(iV p_u.Sum)],29⟩],[⟨b7,[(iV p_t.Level),s2.v,s3.v,(iV p_t.Sum)],29⟩],[⟨b6,[s1.v],26⟩]]:=hS.joinF hR10
  refine q_x (v:=(iV (goLen t_9))) hF hS (ex_len Tryz.underlying24 rfl h11.len) rfl rfl fun a hF=>q_x (v:=(iV 0)) hF hS (ex_move rfl) rfl rfl fun a hF=>q_end (n_sq (q_block ?_))
  obtain ⟨o2,hl2,hr⟩:=bindS hr
  refine q_loop (fun (t_12 : Int) a w=>Fr a 41 [(3,(.pointer (some ⟨b6,0,none⟩))),(4,(.pointer (some ⟨b7,0,none⟩))),(5,(.pointer (some ⟨b8,0,none⟩))),(20,s11.v),(21,(iV (goLen t_9))),(22,(iV t_12))]∧St [] w0 w m [q11,[⟨b8,[(iV p_u.Level),s4.v,s5.v,(iV p_u.Sum)],29⟩],[⟨b7,[(iV p_t.Level),s2.v,s3.v,(iV p_t.Sum)],29⟩],[⟨b6,[s1.v],26⟩]]) (fun (o : (Unit) ⊕ (Bool)) e a w=>o = .inl ()∧e = .exit 0∧Fr a 41 []∧St [] w0 w m []) hl2 ⟨hF.sub ⟨rfl,rfl,rfl,rfl,rfl,rfl,trivial⟩,hS⟩ ?_ ?_
  ·clear hF hS
   rintro t_12 a w st ⟨hF,hS⟩ hb2
   unfold spec_lLevels_l1 at hb2
   refine q_seq (q_region (q_x (v:=(.bool (decide (t_12 < (goLen t_9))))) hF hS (ex_ibin rfl rfl rfl) rfl rfl fun a hF=>q_end (n_sq (q_seq ?_))))
   rcases bcase (decide (t_12 < (goLen t_9))) with hc3 | hc3
   ·have hb2:=cond_f hc3 hb2
    refine q_cond_f hF rfl hc3 (q_exit (x_sq ?_))
    obtain rfl:=someI hb2
    exact ⟨nofun,.inl ⟨rfl,rfl,hF.sub trivial,hS.mask [false,false,false,false]⟩⟩
   ·have hb2:=cond_t hc3 hb2
    refine q_cond_t hF rfl hc3 (q_skipc (n_sq (q_seq (q_block (q_seq (q_region ?_))))))
    obtain ⟨e_13,he_13,hb2⟩:=bindS hb2
    obtain ⟨vs14,at14,d14⟩:=h11.at he_13 1 rfl
    obtain rfl : vs14 = [(iV e_13)]:=d14
    refine q_x (v:=(elP s11 (t_12.toNat * 1))) hF hS (ex_indexAddr Tryz.underlying24 sz3 rfl rfl (h11.idx he_13)) rfl rfl fun a hF=>q_x (v:=(iV e_13)) hF hS (ex_loadE1 0 Tryz.underlying3 rfl rfl (at14.at 0 rfl) rfl rfl) rfl rfl fun a hF=>q_x (v:=(iV e_13)) hF hS (ex_assign rfl) rfl rfl fun a hF=>q_end (n_sq (q_seq ?_))
    obtain ⟨t_17,hj4,hb2⟩:=bindS hb2
    refine q_join (fun a w=>Fr a 41 [(3,(.pointer (some ⟨b6,0,none⟩))),(4,(.pointer (some ⟨b7,0,none⟩))),(5,(.pointer (some ⟨b8,0,none⟩))),(20,s11.v),(21,(iV (goLen t_9))),(22,(iV t_12)),(39,(.bool t_17))]∧St [] w0 w m [q11,[⟨b8,[(iV p_u.Level),s4.v,s5.v,(iV p_u.Sum)],29⟩],[⟨b7,[(iV p_t.Level),s2.v,s3.v,(iV p_t.Sum)],29⟩],[⟨b6,[s1.v],26⟩]]) ?_ ?_
    ·refine q_region (q_x (v:=(.agg #[s1.v])) hF hS (ex_loadA (vs:=[s1.v]) 3 0 Tryz.underlying26 rfl sz26 rfl rfl rfl rfl) rfl rfl fun a hF=>q_x (v:=(iV e_13)) hF hS (ex_move rfl) rfl rfl fun a hF=>q_x (v:=(.pointer (some ⟨b7,0,none⟩))) hF hS (ex_fieldAddr Tryz.underlying29 rfl sz3 rfl rfl) rfl rfl fun a hF=>q_x (v:=(iV p_t.Level)) hF hS (ex_load1 2 0 Tryz.underlying3 rfl rfl rfl rfl) rfl rfl fun a hF=>?_)
     obtain ⟨t_15,ht_15,hj4⟩:=bindS hj4
     refine q_call (vs:=[(.agg #[s1.v]),(iV e_13),(iV p_t.Level)]) hF hS Tryz.func44 (by kernel_rfl) rfl rfl rfl (c_spec_gUp p_g e_13 p_t.Level t_15 ht_15 _ m hS.vis s1 h1) ?_
     rintro a w _ rfl hF hS
     refine q_x (v:=(.bool (decide (0 ≤ t_15)))) hF hS (ex_ibin rfl rfl rfl) rfl rfl fun a hF=>q_x (v:=(.bool (decide (0 ≤ t_15)))) hF hS (ex_move rfl) rfl rfl fun a hF=>?_
     rcases bcase (decide (0 ≤ t_15)) with hc5 | hc5
     ·have hj4:=cond_f hc5 hj4
      refine q_skip hF (wanted_f hF rfl rfl rfl hc5 rfl) rfl fun a hF=>q_skip hF (wanted_f hF rfl rfl rfl hc5 rfl) rfl fun a hF=>q_skip hF (wanted_f hF rfl rfl rfl hc5 rfl) rfl fun a hF=>q_skip hF (wanted_f hF rfl rfl rfl hc5 rfl) rfl fun a hF=>q_skip hF (wanted_f hF rfl rfl rfl hc5 rfl) rfl fun a hF=>q_skip hF (wanted_f hF rfl rfl rfl hc5 rfl) rfl fun a hF=>q_x (v:=(.bool false)) hF hS (ex_pick_f rfl rfl hc5) rfl rfl fun a hF=>q_end (n_jn ?_)
      obtain rfl:=someI hj4
      exact ⟨hF.sub ⟨rfl,rfl,rfl,rfl,rfl,rfl,rfl,trivial⟩,hS⟩
     ·have hj4:=cond_t hc5 hj4
      refine q_xg (v:=(.agg #[s1.v])) hF hS (ex_loadA (vs:=[s1.v]) 3 0 Tryz.underlying26 rfl sz26 rfl rfl rfl rfl) (wanted_t hF rfl rfl rfl hc5) rfl fun a hF=>q_xg (v:=(iV e_13)) hF hS (ex_move rfl) (wanted_t hF rfl rfl rfl hc5) rfl fun a hF=>q_xg (v:=(.pointer (some ⟨b8,0,none⟩))) hF hS (ex_fieldAddr Tryz.underlying29 rfl sz3 rfl rfl) (wanted_t hF rfl rfl rfl hc5) rfl fun a hF=>q_xg (v:=(iV p_u.Level)) hF hS (ex_load1 1 0 Tryz.underlying3 rfl rfl rfl rfl) (wanted_t hF rfl rfl rfl hc5) rfl fun a hF=>?_
      obtain ⟨t_16,ht_16,hj4⟩:=bindS hj4
      refine q_callg (vs:=[(.agg #[s1.v]),(iV e_13),(iV p_u.Level)]) hF hS (wanted_t hF rfl rfl rfl hc5) Tryz.func44 (by kernel_rfl) rfl rfl rfl (c_spec_gUp p_g e_13 p_u.Level t_16 ht_16 _ m hS.vis s1 h1) ?_
      rintro a w _ rfl hF hS
      refine q_xg (v:=(.bool (decide (t_16 < 0)))) hF hS (ex_ibin rfl rfl rfl) (wanted_t hF rfl rfl rfl hc5) rfl fun a hF=>q_x (v:=(.bool (decide (t_16 < 0)))) hF hS (ex_pick_t rfl rfl hc5) rfl rfl fun a hF=>q_end (n_jn ?_)
      obtain rfl:=someI hj4
      exact ⟨hF.sub ⟨rfl,rfl,rfl,rfl,rfl,rfl,rfl,trivial⟩,hS⟩
    ·rintro a w ⟨hF,hS⟩
     refine n_sq ?_
     rcases bcase (t_17) with hc6 | hc6
     ·have hb2:=cond_f hc6 hb2
      refine q_cond_f hF rfl hc6 (q_skipc (n_ib (n_sq (q_region (q_x (v:=(iV (w64 (t_12 + 1)))) hF hS (ex_ibin rfl rfl rfl) rfl rfl fun a hF=>q_x (v:=(iV (w64 (t_12 + 1)))) hF hS (ex_move rfl) rfl rfl fun a hF=>q_end ?_)))))
      obtain rfl:=someI hb2
      exact ⟨rfl,hF.sub ⟨rfl,rfl,rfl,rfl,rfl,rfl,trivial⟩,hS⟩
     ·have hb2:=cond_t hc6 hb2
      refine q_cond_t hF rfl hc6 (q_seq (q_region (q_x (v:=(.bool false)) hF hS (ex_assign rfl) rfl rfl fun a hF=>q_end (n_sq (q_ret (r_ib (r_sq ?_)))))))
      obtain rfl:=someI hb2
      refine ⟨nofun,.inr fun ho=>?_⟩
      subst ho
      refine r_ib (r_sq ?_)
      obtain rfl:=someI hr
      exact ret_of hF hS rfl (.tmp rfl .nil) rfl
  ·rintro e a w ⟨rfl,rfl,hF,hS⟩
   refine x_ib (n_sq ?_)
   refine q_seq (q_region (q_x (v:=(.bool true)) hF hS (ex_assign rfl) rfl rfl fun a hF=>q_end (n_sq (q_ret ?_))))
   obtain rfl:=someI hr
   exact ret_of hF hS rfl (.tmp rfl .nil) rfl
 ·have hr:=cond_t hc1 hr
  refine q_cond_t hF rfl hc1 (q_seq (q_region (q_x (v:=(.pointer (some ⟨b7,0,none⟩))) hF hS (ex_fieldAddr Tryz.underlying29 rfl sz3 rfl rfl) rfl rfl fun a hF=>q_x (v:=(iV p_t.Level)) hF hS (ex_load1 1 0 Tryz.underlying3 rfl rfl rfl rfl) rfl rfl fun a hF=>q_x (v:=(.pointer (some ⟨b8,0,none⟩))) hF hS (ex_fieldAddr Tryz.underlying29 rfl sz3 rfl rfl) rfl rfl fun a hF=>q_x (v:=(iV p_u.Level)) hF hS (ex_load1 0 0 Tryz.underlying3 rfl rfl rfl rfl) rfl rfl fun a hF=>q_x (v:=(.bool (p_t.Level == p_u.Level))) hF hS (ex_ibin rfl rfl rfl) rfl rfl fun a hF=>q_x (v:=(.bool (p_t.Level == p_u.Level))) hF hS (ex_assign rfl) rfl rfl fun a hF=>q_end (n_sq (q_ret (r_sq ?_))))))
  obtain rfl:=someI hr
  exact ret_of hF hS rfl (.tmp rfl .nil) rfl

theorem c_spec_l1Has (p_l : List Int) (p_n : Int) (r : Bool) (hr : spec_l1Has p_l p_n = some r) (w0 : World) (m : Mem) (hv : Vis m w0) (s1 : Sl) (h1 : Rd m s1 p_l) :
  Ret Tryz.prog 66 [s1.v,(iV p_n)] w0 (fun v _=>v = (.bool r)):=by
 unfold spec_l1Has at hr
 refine ret_start Tryz.func66 rfl 17 rfl rfl m hv fun a hF hS=>q_seq (q_region (q_x (v:=(.bool false)) hF hS (ex_assign rfl) rfl rfl fun a hF=>q_end (n_sq (q_seq (q_seq (q_region (q_x (v:=s1.v) hF hS (ex_move rfl) rfl rfl fun a hF=>q_x (v:=(iV (goLen p_l))) hF hS (ex_len Tryz.underlying24 rfl h1.len) rfl rfl fun a hF=>q_x (v:=(iV 0)) hF hS (ex_move rfl) rfl rfl fun a hF=>q_end (n_sq (q_block ?_)))))))))
 obtain ⟨o1,hl1,hr⟩:=bindS hr
 refine q_loop (fun (t_2 : Int) a w=>Fr a 17 [(1,(iV p_n)),(7,s1.v),(8,(iV (goLen p_l))),(9,(iV t_2))]∧St [] w0 w m []) (fun (o : (Unit) ⊕ (Bool)) e a w=>o = .inl ()∧e = .exit 0∧Fr a 17 []∧St [] w0 w m []) hl1 ⟨hF.sub ⟨rfl,rfl,rfl,rfl,trivial⟩,hS⟩ ?_ ?_
 ·clear hF hS
  rintro t_2 a w st ⟨hF,hS⟩ hb1
  unfold spec_l1Has_l1 at hb1
  refine q_seq (q_region (q_x (v:=(.bool (decide (t_2 < (goLen p_l))))) hF hS (ex_ibin rfl rfl rfl) rfl rfl fun a hF=>q_end (n_sq (q_seq ?_))))
  rcases bcase (decide (t_2 < (goLen p_l))) with hc2 | hc2
  ·have hb1:=cond_f hc2 hb1
   refine q_cond_f hF rfl hc2 (q_exit (x_sq ?_))
   obtain rfl:=someI hb1
   exact ⟨nofun,.inl ⟨rfl,rfl,hF.sub trivial,hS⟩⟩
  ·have hb1:=cond_t hc2 hb1
   refine q_cond_t hF rfl hc2 (q_skipc (n_sq (q_seq (q_block (q_seq (q_region ?_))))))
   obtain ⟨e_3,he_3,hb1⟩:=bindS hb1
   obtain ⟨vs4,at4,d4⟩:=h1.at he_3 1 rfl
   obtain rfl : vs4 = [(iV e_3)]:=d4
   refine q_x (v:=(elP s1 (t_2.toNat * 1))) hF hS (ex_indexAddr Tryz.underlying24 sz3 rfl rfl (h1.idx he_3)) rfl rfl fun a hF=>q_x (v:=(iV e_3)) hF hS (ex_loadE1 0 Tryz.underlying3 rfl rfl ((at4).at) rfl rfl) rfl rfl fun a hF=>q_x (v:=(iV e_3)) hF hS (ex_assign rfl) rfl rfl fun a hF=>q_end (n_sq (q_seq (q_region (q_x (v:=(iV e_3)) hF hS (ex_move rfl) rfl rfl fun a hF=>q_x (v:=(iV p_n)) hF hS (ex_move rfl) rfl rfl fun a hF=>q_x (v:=(.bool (e_3 == p_n))) hF hS (ex_ibin rfl rfl rfl) rfl rfl fun a hF=>q_end (n_sq ?_)))))
   rcases bcase (e_3 == p_n) with hc3 | hc3
   ·have hb1:=cond_f hc3 hb1
    refine q_cond_f hF rfl hc3 (q_skipc (n_ib (n_sq (q_region (q_x (v:=(iV (w64 (t_2 + 1)))) hF hS (ex_ibin rfl rfl rfl) rfl rfl fun a hF=>q_x (v:=(iV (w64 (t_2 + 1)))) hF hS (ex_move rfl) rfl rfl fun a hF=>q_end ?_)))))
    obtain rfl:=someI hb1
    exact ⟨rfl,hF.sub ⟨rfl,rfl,rfl,rfl,trivial⟩,hS⟩
   ·have hb1:=cond_t hc3 hb1
    refine q_cond_t hF rfl hc3 (q_seq (q_region (q_x (v:=(.bool true)) hF hS (ex_assign rfl) rfl rfl fun a hF=>q_end (n_sq (q_ret (r_ib (r_sq ?_)))))))
    obtain rfl:=someI hb1
    refine ⟨nofun,.inr fun ho=>?_⟩
    subst ho
    refine r_ib (r_sq ?_)
    obtain rfl:=someI hr
    exact ret_of hF hS rfl (.tmp rfl .nil) rfl
 ·rintro e a w ⟨rfl,rfl,hF,hS⟩
  refine x_ib (n_sq ?_)
  refine q_seq (q_region (q_x (v:=(.bool false)) hF hS (ex_assign rfl) rfl rfl fun a hF=>q_end (n_sq (q_ret ?_))))
  obtain rfl:=someI hr
  exact ret_of hF hS rfl (.tmp rfl .nil) rfl

theorem c_spec_eFull (p_s : List impl_Variable) (p_v : Int) (r : Int) (hr : spec_eFull p_s p_v = some r) (w0 : World) (m : Mem) (hv : Vis m w0) (s1 : Sl) (h1 : Rd m s1 p_s) :
  Ret Tryz.prog 86 [s1.v,(iV p_v)] w0 (fun v _=>v = (iV r)):=by
 unfold spec_eFull at hr
 refine ret_start Tryz.func86 rfl 13 rfl rfl m hv fun a hF hS=>q_seq (q_region (q_x (v:=(iV 0)) hF hS (ex_assign rfl) rfl rfl fun a hF=>q_end (n_sq (q_seq (q_region (q_x (v:=s1.v) hF hS (ex_move rfl) rfl rfl fun a hF=>q_x (v:=(iV p_v)) hF hS (ex_move rfl) rfl rfl fun a hF=>?_))))))
 obtain ⟨e_2,he_2,hr⟩:=bindS hr
 obtain ⟨vs3,at3,d3⟩:=h1.at he_2 2 rfl
 obtain rfl : vs3 = [(strV e_2.Name),(iV e_2.Levels)]:=d3
 refine q_x (v:=(elP s1 (p_v.toNat * 2))) hF hS (ex_indexAddr Tryz.underlying27 sz88 rfl rfl (h1.idx he_2)) rfl rfl fun a hF=>q_x (v:=(elP s1 (p_v.toNat * 2 + 1))) hF hS (ex_fieldAddrE Tryz.underlying88 rfl sz3 rfl (h1.idx he_2) rfl) rfl rfl fun a hF=>q_x (v:=(iV e_2.Levels)) hF hS (ex_loadE1 1 Tryz.underlying3 rfl rfl ((at3).at) rfl rfl) rfl rfl fun a hF=>q_x (v:=(.int .u64 (IntKind.wrap .u64 e_2.Levels))) hF hS (ex_conv Tryz.underlying3 Tryz.underlying72 rfl) rfl rfl fun a hF=>?_
 obtain ⟨t_4,ht_4,hr⟩:=bindS hr
 refine q_x (v:=(iV t_4)) hF hS (ex_shl rfl rfl ht_4) rfl rfl fun a hF=>q_x (v:=(iV (w64 (t_4 - 1)))) hF hS (ex_ibin rfl rfl rfl) rfl rfl fun a hF=>q_x (v:=(iV (w64 (t_4 - 1)))) hF hS (ex_assign rfl) rfl rfl fun a hF=>q_end (n_sq (q_ret ?_))
 obtain rfl:=someI hr
 exact ret_of hF hS rfl (.tmp rfl .nil) rfl

theorem c_spec_lSet (p_s : List impl_Variable) (p_t : impl_Table) (p_v : Int) (r : Int) (hr : spec_lSet p_s p_t p_v = some r) (w0 : World) (m : Mem) (hv : Vis m w0) (s1 : Sl) (h1 : Rd m s1 p_s) (s2 : Sl) (h2 : Rd m s2 p_t.Vars) (s3 : Sl) (h3 : Rd m s3 p_t.Where) :
  Ret Tryz.prog 42 [s1.v,(.agg #[(iV p_t.Level),s2.v,s3.v,(iV p_t.Sum)]),(iV p_v)] w0 (fun v _=>v = (iV r)):=by
 unfold spec_lSet at hr
 refine ret_start Tryz.func42 rfl 21 rfl rfl m hv fun a hF hS=>q_seq (q_region (q_box (cs:=[(iV p_t.Level),s2.v,s3.v,(iV p_t.Sum)]) hF hS rfl rfl rfl fun a w b4 hF hS=>q_x (v:=(iV 0)) hF hS (ex_assign rfl) rfl rfl fun a hF=>q_end (n_sq (q_seq (q_seq (q_region (q_x (v:=(.pointer (some ⟨b4,2,none⟩))) hF hS (ex_fieldAddr Tryz.underlying29 rfl sz24 rfl rfl) rfl rfl fun a hF=>q_x (v:=s3.v) hF hS (ex_load1 0 0 Tryz.underlying24 rfl rfl rfl rfl) rfl rfl fun a hF=>q_x (v:=(iV p_v)) hF hS (ex_move rfl) rfl rfl fun a hF=>?_)))))))
 obtain ⟨e_5,he_5,hr⟩:=bindS hr
 obtain ⟨vs6,at6,d6⟩:=h3.at he_5 1 rfl
 obtain rfl : vs6 = [(iV e_5)]:=d6
 refine q_x (v:=(elP s3 (p_v.toNat * 1))) hF hS (ex_indexAddr Tryz.underlying24 sz3 rfl rfl (h3.idx he_5)) rfl rfl fun a hF=>q_x (v:=(iV e_5)) hF hS (ex_loadE1 0 Tryz.underlying3 rfl rfl ((at6).at) rfl rfl) rfl rfl fun a hF=>q_x (v:=(.bool (e_5 == 0))) hF hS (ex_ibin rfl rfl rfl) rfl rfl fun a hF=>q_end (n_sq ?_)
 rcases bcase (e_5 == 0) with hc1 | hc1
 ·have hr:=cond_f hc1 hr
  refine q_cond_f hF rfl hc1 (q_skipc (n_sq (q_seq (q_region (q_x (v:=(.pointer (some ⟨b4,2,none⟩))) hF hS (ex_fieldAddr Tryz.underlying29 rfl sz24 rfl rfl) rfl rfl fun a hF=>q_x (v:=s3.v) hF hS (ex_load1 0 0 Tryz.underlying24 rfl rfl rfl rfl) rfl rfl fun a hF=>q_x (v:=(iV p_v)) hF hS (ex_move rfl) rfl rfl fun a hF=>?_)))))
  obtain ⟨e_7,he_7,hr⟩:=bindS hr
  obtain ⟨vs8,at8,d8⟩:=h3.at he_7 1 rfl
  obtain rfl : vs8 = [(iV e_7)]:=d8
  refine q_x (v:=(elP s3 (p_v.toNat * 1))) hF hS (ex_indexAddr Tryz.underlying24 sz3 rfl rfl (h3.idx he_7)) rfl rfl fun a hF=>q_x (v:=(iV e_7)) hF hS (ex_loadE1 0 Tryz.underlying3 rfl rfl ((at8).at) rfl rfl) rfl rfl fun a hF=>q_x (v:=(iV e_7)) hF hS (ex_assign rfl) rfl rfl fun a hF=>q_end (n_sq (q_ret ?_))
  obtain rfl:=someI hr
  exact ret_of hF hS rfl (.tmp rfl .nil) rfl
 ·have hr:=cond_t hc1 hr
  refine q_cond_t hF rfl hc1 (q_seq (q_region (q_x (v:=s1.v) hF hS (ex_move rfl) rfl rfl fun a hF=>q_x (v:=(iV p_v)) hF hS (ex_move rfl) rfl rfl fun a hF=>?_)))
  obtain ⟨t_9,ht_9,hr⟩:=bindS hr
  refine q_call (vs:=[s1.v,(iV p_v)]) hF hS Tryz.func86 (by kernel_rfl) rfl rfl rfl (c_spec_eFull p_s p_v t_9 ht_9 _ m hS.vis s1 h1) ?_
  rintro a w _ rfl hF hS
  refine q_x (v:=(iV t_9)) hF hS (ex_assign rfl) rfl rfl fun a hF=>q_end (n_sq (q_ret (r_sq ?_)))
  obtain rfl:=someI hr
  exact ret_of hF hS rfl (.tmp rfl .nil) rfl

theorem c_spec_lFollows (p_g : impl_Geo) (p_s : List impl_Variable) (p_t : impl_Table) (p_u : impl_Table) (r : Bool) (hr : spec_lFollows p_g p_s p_t p_u = some r) (w0 : World) (m : Mem) (hv : Vis m w0) (s1 : Sl) (h1 : Rd m s1 p_g.Parents) (s2 : Sl) (h2 : Rd m s2 p_s) (s3 : Sl) (h3 : Rd m s3 p_t.Vars) (s4 : Sl) (h4 : Rd m s4 p_t.Where) (s5 : Sl) (h5 : Rd m s5 p_u.Vars) (s6 : Sl) (h6 : Rd m s6 p_u.Where) :
  Ret Tryz.prog 24 [(.agg #[s1.v]),s2.v,(.agg #[(iV p_t.Level),s3.v,s4.v,(iV p_t.Sum)]),(.agg #[(iV p_u.Level),s5.v,s6.v,(iV p_u.Sum)])] w0 (fun v _=>v = (.bool r)):=by
 unfold spec_lFollows at hr
 refine ret_start Tryz.func24 rfl 83 rfl rfl m hv fun a hF hS=>q_seq (q_region (q_box (cs:=[s1.v]) hF hS rfl rfl rfl fun a w b7 hF hS=>q_box (cs:=[(iV p_t.Level),s3.v,s4.v,(iV p_t.Sum)]) hF hS rfl rfl rfl fun a w b8 hF hS=>q_box (cs:=[(iV p_u.Level),s5.v,s6.v,(iV p_u.Sum)]) hF hS rfl rfl rfl fun a w b9 hF hS=>q_x (v:=(.bool false)) hF hS (ex_assign rfl) rfl rfl fun a hF=>q_end (n_sq (q_seq (q_seq ?_)))))
 obtain ⟨t_12,hj1,hr⟩:=bindS hr
 refine q_join (fun a w=>Fr a 83 [(1,s2.v),(6,(.pointer (some ⟨b8,0,none⟩))),(7,(.pointer (some ⟨b9,0,none⟩))),(38,(.bool t_12))]∧St [] w0 w m [[⟨b9,[(iV p_u.Level),s5.v,s6.v,(iV p_u.Sum)],29⟩],[⟨b8,[(iV p_t.Level),s3.v,s4.v,(iV p_t.Sum)],29⟩]]) ?_ ?_
 ·refine q_region (q_x (v:=(.agg #[s1.v])) hF hS (ex_loadA (vs:=[s1.v]) 2 0 Tryz.underlying26 rfl sz26 rfl rfl rfl rfl) rfl rfl fun a hF=>q_x (v:=(.agg #[(iV p_t.Level),s3.v,s4.v,(iV p_t.Sum)])) hF hS (ex_loadA (vs:=[(iV p_t.Level),s3.v,s4.v,(iV p_t.Sum)]) 1 0 Tryz.underlying29 rfl sz29 rfl rfl rfl rfl) rfl rfl fun a hF=>q_x (v:=(.agg #[(iV p_u.Level),s5.v,s6.v,(iV p_u.Sum)])) hF hS (ex_loadA (vs:=[(iV p_u.Level),s5.v,s6.v,(iV p_u.Sum)]) 0 0 Tryz.underlying29 rfl sz29 rfl rfl rfl rfl) rfl rfl fun a hF=>?_)
  obtain ⟨t_10,ht_10,hj1⟩:=bindS hj1
  refine q_call (vs:=[(.agg #[s1.v]),(.agg #[(iV p_t.Level),s3.v,s4.v,(iV p_t.Sum)]),(.agg #[(iV p_u.Level),s5.v,s6.v,(iV p_u.Sum)])]) hF hS Tryz.func65 (by kernel_rfl) rfl rfl rfl (c_spec_lLevels p_g p_t p_u t_10 ht_10 _ m hS.vis s1 h1 s3 h3 s4 h4 s5 h5 s6 h6) ?_
  rintro a w _ rfl hF hS
  refine q_x (v:=(.bool (!t_10))) hF hS (ex_not rfl) rfl rfl fun a hF=>q_x (v:=(.bool (!t_10))) hF hS (ex_move rfl) rfl rfl fun a hF=>?_
  rcases bcase (!t_10) with hc2 | hc2
  ·have hj1:=cond_f hc2 hj1
   refine q_xg (v:=(.pointer (some ⟨b8,3,none⟩))) hF hS (ex_fieldAddr Tryz.underlying29 rfl sz3 rfl rfl) (wanted_t hF rfl rfl rfl hc2) rfl fun a hF=>q_xg (v:=(iV p_t.Sum)) hF hS (ex_load1 1 0 Tryz.underlying3 rfl rfl rfl rfl) (wanted_t hF rfl rfl rfl hc2) rfl fun a hF=>q_xg (v:=(.pointer (some ⟨b9,3,none⟩))) hF hS (ex_fieldAddr Tryz.underlying29 rfl sz3 rfl rfl) (wanted_t hF rfl rfl rfl hc2) rfl fun a hF=>q_xg (v:=(iV p_u.Sum)) hF hS (ex_load1 0 0 Tryz.underlying3 rfl rfl rfl rfl) (wanted_t hF rfl rfl rfl hc2) rfl fun a hF=>q_xg (v:=(.bool (p_t.Sum != p_u.Sum))) hF hS (ex_ibin rfl rfl rfl) (wanted_t hF rfl rfl rfl hc2) rfl fun a hF=>q_xg (v:=(.bool (p_t.Sum != p_u.Sum))) hF hS (ex_move rfl) (wanted_t hF rfl rfl rfl hc2) rfl fun a hF=>?_
   rcases bcase (p_t.Sum != p_u.Sum) with hc3 | hc3
   ·have hj1:=cond_f hc3 hj1
    refine q_skip hF (wanted_f hF rfl rfl rfl hc3 rfl) rfl fun a hF=>q_skip hF (wanted_f hF rfl rfl rfl hc3 rfl) rfl fun a hF=>q_skip hF (wanted_f hF rfl rfl rfl hc3 rfl) rfl fun a hF=>q_skip hF (wanted_f hF rfl rfl rfl hc3 rfl) rfl fun a hF=>q_skip hF (wanted_u hF rfl rfl rfl) rfl fun a hF=>q_skip hF (wanted_u hF rfl rfl rfl) rfl fun a hF=>q_skip hF (wanted_u hF rfl rfl rfl) rfl fun a hF=>q_skip hF (wanted_u hF rfl rfl rfl) rfl fun a hF=>q_skip hF (wanted_u hF rfl rfl rfl) rfl fun a hF=>q_skip hF (wanted_u hF rfl rfl rfl) rfl fun a hF=>q_skip hF (wanted_f hF rfl rfl rfl hc3 rfl) rfl fun a hF=>q_xg (v:=(.bool false)) hF hS (ex_pick_f rfl rfl hc3) (wanted_t hF rfl rfl rfl hc2) rfl fun a hF=>q_x (v:=(.bool false)) hF hS (ex_pick_f rfl rfl hc2) rfl rfl fun a hF=>q_end (n_jn ?_)
    obtain rfl:=someI hj1
    exact ⟨hF.sub ⟨rfl,rfl,rfl,rfl,trivial⟩,hS.mask [true,true,false]⟩
   ·have hj1:=cond_t hc3 hj1
    refine q_xg (v:=(.pointer (some ⟨b9,3,none⟩))) hF hS (ex_fieldAddr Tryz.underlying29 rfl sz3 rfl rfl) (wanted_t hF rfl rfl rfl hc3) rfl fun a hF=>q_xg (v:=(iV p_u.Sum)) hF hS (ex_load1 0 0 Tryz.underlying3 rfl rfl rfl rfl) (wanted_t hF rfl rfl rfl hc3) rfl fun a hF=>q_xg (v:=(.bool (p_u.Sum != (-1)))) hF hS (ex_ibin rfl rfl rfl) (wanted_t hF rfl rfl rfl hc3) rfl fun a hF=>q_xg (v:=(.bool (p_u.Sum != (-1)))) hF hS (ex_move rfl) (wanted_t hF rfl rfl rfl hc3) rfl fun a hF=>?_
    rcases bcase (p_u.Sum != (-1)) with hc4 | hc4
    ·have hj1:=cond_f hc4 hj1
     refine q_xg (v:=(.pointer (some ⟨b9,1,none⟩))) hF hS (ex_fieldAddr Tryz.underlying29 rfl sz24 rfl rfl) (wanted_t hF rfl rfl rfl hc4) rfl fun a hF=>q_xg (v:=s5.v) hF hS (ex_load1 0 0 Tryz.underlying24 rfl rfl rfl rfl) (wanted_t hF rfl rfl rfl hc4) rfl fun a hF=>q_xg (v:=(.pointer (some ⟨b8,3,none⟩))) hF hS (ex_fieldAddr Tryz.underlying29 rfl sz3 rfl rfl) (wanted_t hF rfl rfl rfl hc4) rfl fun a hF=>q_xg (v:=(iV p_t.Sum)) hF hS (ex_load1 1 0 Tryz.underlying3 rfl rfl rfl rfl) (wanted_t hF rfl rfl rfl hc4) rfl fun a hF=>?_
     obtain ⟨t_11,ht_11,hj1⟩:=bindS hj1
     refine q_callg (vs:=[s5.v,(iV p_t.Sum)]) hF hS (wanted_t hF rfl rfl rfl hc4) Tryz.func66 (by kernel_rfl) rfl rfl rfl (c_spec_l1Has p_u.Vars p_t.Sum t_11 ht_11 _ m hS.vis s5 h5) ?_
     rintro a w _ rfl hF hS
     refine q_xg (v:=(.bool (!t_11))) hF hS (ex_not rfl) (wanted_t hF rfl rfl rfl hc4) rfl fun a hF=>q_xg (v:=(.bool (!t_11))) hF hS (ex_pick_f rfl rfl hc4) (wanted_t hF rfl rfl rfl hc3) rfl fun a hF=>q_xg (v:=(.bool (!t_11))) hF hS (ex_pick_t rfl rfl hc3) (wanted_t hF rfl rfl rfl hc2) rfl fun a hF=>q_x (v:=(.bool (!t_11))) hF hS (ex_pick_f rfl rfl hc2) rfl rfl fun a hF=>q_end (n_jn ?_)
     obtain rfl:=someI hj1
     exact ⟨hF.sub ⟨rfl,rfl,rfl,rfl,trivial⟩,hS.mask [true,true,false]⟩
    ·have hj1:=cond_t hc4 hj1
     refine q_skip hF (wanted_f hF rfl rfl rfl hc4 rfl) rfl fun a hF=>q_skip hF (wanted_f hF rfl rfl rfl hc4 rfl) rfl fun a hF=>q_skip hF (wanted_f hF rfl rfl rfl hc4 rfl) rfl fun a hF=>q_skip hF (wanted_f hF rfl rfl rfl hc4 rfl) rfl fun a hF=>q_skip hF (wanted_f hF rfl rfl rfl hc4 rfl) rfl fun a hF=>q_skip hF (wanted_f hF rfl rfl rfl hc4 rfl) rfl fun a hF=>q_xg (v:=(.bool true)) hF hS (ex_pick_t rfl rfl hc4) (wanted_t hF rfl rfl rfl hc3) rfl fun a hF=>q_xg (v:=(.bool true)) hF hS (ex_pick_t rfl rfl hc3) (wanted_t hF rfl rfl rfl hc2) rfl fun a hF=>q_x (v:=(.bool true)) hF hS (ex_pick_f rfl rfl hc2) rfl rfl fun a hF=>q_end (n_jn ?_)
     obtain rfl:=someI hj1
     exact ⟨hF.sub ⟨rfl,rfl,rfl,rfl,trivial⟩,hS.mask [true,true,false]⟩
  ·have hj1:=cond_t hc2 hj1
   refine q_skip hF (wanted_f hF rfl rfl rfl hc2 rfl) rfl fun a hF=>q_skip hF (wanted_f hF rfl rfl rfl hc2 rfl) rfl fun a hF=>q_skip hF (wanted_f hF rfl rfl rfl hc2 rfl) rfl fun a hF=>q_skip hF (wanted_f hF rfl rfl rfl hc2 rfl) rfl fun a hF=>q_skip hF (wanted_f hF rfl rfl rfl hc2 rfl) rfl fun a hF=>q_skip hF (wanted_f hF rfl rfl rfl hc2 rfl) rfl fun a hF=>q_skip hF (wanted_u hF rfl rfl rfl) rfl fun a hF=>q_skip hF (wanted_u hF rfl rfl rfl) rfl fun a hF=>q_skip hF (wanted_u hF rfl rfl rfl) rfl fun a hF=>q_skip hF (wanted_u hF rfl rfl rfl) rfl fun a hF=>q_skip hF (wanted_u hF rfl rfl rfl) rfl fun a hF=>q_skip hF (wanted_u hF rfl rfl rfl) rfl fun a hF=>q_skip hF (wanted_u hF rfl rfl rfl) rfl fun a hF=>q_skip hF (wanted_u hF rfl rfl rfl) rfl fun a hF=>q_skip hF (wanted_u hF rfl rfl rfl) rfl fun a hF=>q_skip hF (wanted_u hF rfl rfl rfl) rfl fun a hF=>q_skip hF (wanted_u hF rfl rfl rfl) rfl fun a hF=>q_skip hF (wanted_f hF rfl rfl rfl hc2 rfl) rfl fun a hF=>q_x (v:=(.bool true)) hF hS (ex_pick_t rfl rfl hc2) rfl rfl fun a hF=>q_end (n_jn ?_)
   obtain rfl:=someI hj1
   exact ⟨hF.sub ⟨rfl,rfl,rfl,rfl,trivial⟩,hS.mask [true,true,false]⟩
 ·rintro a w ⟨hF,hS⟩
  refine n_sq ?_
  rcases bcase (t_12) with hc5 | hc5
  ·have hr:=cond_f hc5 hr
   refine q_cond_f hF rfl hc5 (q_skipc (n_sq (q_seq (q_seq (q_region (q_x (v:=(.pointer (some ⟨b8,1,none⟩))) hF hS (ex_fieldAddr Tryz.underlying29 rfl sz24 rfl rfl) rfl rfl fun a hF=>q_x (v:=s3.v) hF hS (ex_load1 1 0 Tryz.underlying24 rfl rfl rfl rfl) rfl rfl fun a hF=>q_x (v:=(iV (goLen p_t.Vars))) hF hS (ex_len Tryz.underlying24 rfl h3.len) rfl rfl fun a hF=>q_x (v:=(iV 0)) hF hS (ex_move rfl) rfl rfl fun a hF=>q_end (n_sq (q_block ?_))))))))
   obtain ⟨o6,hl6,hr⟩:=bindS hr
   refine q_loop (fun (t_13 : Int) a w=>Fr a 83 [(1,s2.v),(6,(.pointer (some ⟨b8,0,none⟩))),(7,(.pointer (some ⟨b9,0,none⟩))),(40,s3.v),(41,(iV (goLen p_t.Vars))),(42,(iV t_13))]∧St [] w0 w m [[⟨b9,[(iV p_u.Level),s5.v,s6.v,(iV p_u.Sum)],29⟩],[⟨b8,[(iV p_t.Level),s3.v,s4.v,(iV p_t.Sum)],29⟩]]) (fun (o : (Unit) ⊕ (Bool)) e a w=>o = .inl ()∧e = .exit 0∧Fr a 83 [(1,s2.v),(6,(.pointer (some ⟨b8,0,none⟩))),(7,(.pointer (some ⟨b9,0,none⟩)))]∧St [] w0 w m [[⟨b9,[(iV p_u.Level),s5.v,s6.v,(iV p_u.Sum)],29⟩],[⟨b8,[(iV p_t.Level),s3.v,s4.v,(iV p_t.Sum)],29⟩]]) hl6 ⟨hF.sub ⟨rfl,rfl,rfl,rfl,rfl,rfl,trivial⟩,hS⟩ ?_ ?_
   ·clear hF hS
    rintro t_13 a w st ⟨hF,hS⟩ hb6
    unfold spec_lFollows_l1 at hb6
    refine q_seq (q_region (q_x (v:=(.bool (decide (t_13 < (goLen p_t.Vars))))) hF hS (ex_ibin rfl rfl rfl) rfl rfl fun a hF=>q_end (n_sq (q_seq ?_))))
    rcases bcase (decide (t_13 < (goLen p_t.Vars))) with hc7 | hc7
    ·have hb6:=cond_f hc7 hb6
     refine q_cond_f hF rfl hc7 (q_exit (x_sq ?_))
     obtain rfl:=someI hb6
     exact ⟨nofun,.inl ⟨rfl,rfl,hF.sub ⟨rfl,rfl,rfl,trivial⟩,hS⟩⟩
    ·have hb6:=cond_t hc7 hb6
     refine q_cond_t hF rfl hc7 (q_skipc (n_sq (q_seq (q_block (q_seq (q_region ?_))))))
     obtain ⟨e_14,he_14,hb6⟩:=bindS hb6
     obtain ⟨vs15,at15,d15⟩:=h3.at he_14 1 rfl
     obtain rfl : vs15 = [(iV e_14)]:=d15
     refine q_x (v:=(elP s3 (t_13.toNat * 1))) hF hS (ex_indexAddr Tryz.underlying24 sz3 rfl rfl (h3.idx he_14)) rfl rfl fun a hF=>q_x (v:=(iV e_14)) hF hS (ex_loadE1 0 Tryz.underlying3 rfl rfl ((at15).at) rfl rfl) rfl rfl fun a hF=>q_x (v:=(iV e_14)) hF hS (ex_assign rfl) rfl rfl fun a hF=>q_end (n_sq (q_seq (q_region (q_x (v:=(.pointer (some ⟨b9,1,none⟩))) hF hS (ex_fieldAddr Tryz.underlying29 rfl sz24 rfl rfl) rfl rfl fun a hF=>q_x (v:=s5.v) hF hS (ex_load1 0 0 Tryz.underlying24 rfl rfl rfl rfl) rfl rfl fun a hF=>q_x (v:=(iV e_14)) hF hS (ex_move rfl) rfl rfl fun a hF=>?_))))
     obtain ⟨t_16,ht_16,hb6⟩:=bindS hb6
     refine q_call (vs:=[s5.v,(iV e_14)]) hF hS Tryz.func66 (by kernel_rfl) rfl rfl rfl (c_spec_l1Has p_u.Vars e_14 t_16 ht_16 _ m hS.vis s5 h5) ?_
     rintro a w _ rfl hF hS
     refine q_x (v:=(.bool (!t_16))) hF hS (ex_not rfl) rfl rfl fun a hF=>q_end (n_sq ?_)
     rcases bcase (!t_16) with hc8 | hc8
     ·have hb6:=cond_f hc8 hb6
      refine q_cond_f hF rfl hc8 (q_skipc (n_ib (n_sq (q_region (q_x (v:=(iV (w64 (t_13 + 1)))) hF hS (ex_ibin rfl rfl rfl) rfl rfl fun a hF=>q_x (v:=(iV (w64 (t_13 + 1)))) hF hS (ex_move rfl) rfl rfl fun a hF=>q_end ?_)))))
      obtain rfl:=someI hb6
      exact ⟨rfl,hF.sub ⟨rfl,rfl,rfl,rfl,rfl,rfl,trivial⟩,hS⟩
     ·have hb6:=cond_t hc8 hb6
      refine q_cond_t hF rfl hc8 (q_seq (q_region (q_x (v:=(.bool false)) hF hS (ex_assign rfl) rfl rfl fun a hF=>q_end (n_sq (q_ret (r_ib (r_sq ?_)))))))
      obtain rfl:=someI hb6
      refine ⟨nofun,.inr fun ho=>?_⟩
      subst ho
      refine r_ib (r_sq ?_)
      obtain rfl:=someI hr
      exact ret_of hF hS rfl (.tmp rfl .nil) rfl
   ·rintro e a w ⟨rfl,rfl,hF,hS⟩
    refine x_ib (n_sq ?_)
    refine q_seq (q_seq (q_region (q_x (v:=s2.v) hF hS (ex_move rfl) rfl rfl fun a hF=>q_x (v:=(iV (goLen p_s))) hF hS (ex_len Tryz.underlying27 rfl h2.len) rfl rfl fun a hF=>q_x (v:=(iV 0)) hF hS (ex_move rfl) rfl rfl fun a hF=>q_end (n_sq (q_block ?_)))))
    obtain ⟨o9,hl9,hr⟩:=bindS hr
    refine q_loop (fun (t_17 : Int) a w=>Fr a 83 [(1,s2.v),(6,(.pointer (some ⟨b8,0,none⟩))),(7,(.pointer (some ⟨b9,0,none⟩))),(53,(iV (goLen p_s))),(54,(iV t_17))]∧St [] w0 w m [[⟨b9,[(iV p_u.Level),s5.v,s6.v,(iV p_u.Sum)],29⟩],[⟨b8,[(iV p_t.Level),s3.v,s4.v,(iV p_t.Sum)],29⟩]]) (fun (o : (Unit) ⊕ (Bool)) e a w=>o = .inl ()∧e = .exit 2∧Fr a 83 []∧St [] w0 w m []) hl9 ⟨hF.sub ⟨rfl,rfl,rfl,rfl,rfl,trivial⟩,hS⟩ ?_ ?_
    ·clear hF hS
     rintro t_17 a w st ⟨hF,hS⟩ hb9
     unfold spec_lFollows_l2 at hb9
     refine q_seq (q_region (q_x (v:=(.bool (decide (t_17 < (goLen p_s))))) hF hS (ex_ibin rfl rfl rfl) rfl rfl fun a hF=>q_end (n_sq (q_seq ?_))))
     rcases bcase (decide (t_17 < (goLen p_s))) with hc10 | hc10
     ·have hb9:=cond_f hc10 hb9
      refine q_cond_f hF rfl hc10 (q_exit (x_sq ?_))
      obtain rfl:=someI hb9
      exact ⟨nofun,.inl ⟨rfl,rfl,hF.sub trivial,hS.mask [false,false]⟩⟩
     ·have hb9:=cond_t hc10 hb9
      refine q_cond_t hF rfl hc10 (q_skipc (n_sq (q_seq (q_block (q_seq (q_region (q_x (v:=(iV t_17)) hF hS (ex_move rfl) rfl rfl fun a hF=>q_x (v:=(iV t_17)) hF hS (ex_assign rfl) rfl rfl fun a hF=>q_end (n_sq (q_seq (e_region ⟨[],[]⟩ mixed fun w' hw'=>?_))))))))))
      have hS:=hS.below hw'
      refine e_p (v:=s2.v) 0 hF rfl (ex_move rfl) rfl rfl (by kernel_rfl) (by kernel_rfl) (by kernel_rfl) fun a hF=>e_x (v:=(.agg #[(iV p_t.Level),s3.v,s4.v,(iV p_t.Sum)])) 1 hF hS rfl (ex_loadA (vs:=[(iV p_t.Level),s3.v,s4.v,(iV p_t.Sum)]) 1 0 Tryz.underlying29 rfl sz29 rfl rfl rfl rfl) rfl rfl (by kernel_rfl) (by kernel_rfl) (by kernel_rfl) (by kernel_rfl) fun a hF=>e_p (v:=(iV t_17)) 2 hF rfl (ex_move rfl) rfl rfl (by kernel_rfl) (by kernel_rfl) (by kernel_rfl) fun a hF=>e_p (v:=s2.v) 4 hF rfl (ex_move rfl) rfl rfl (by kernel_rfl) (by kernel_rfl) (by kernel_rfl) fun a hF=>e_x (v:=(.agg #[(iV p_u.Level),s5.v,s6.v,(iV p_u.Sum)])) 5 hF hS rfl (ex_loadA (vs:=[(iV p_u.Level),s5.v,s6.v,(iV p_u.Sum)]) 0 0 Tryz.underlying29 rfl sz29 rfl rfl rfl rfl) rfl rfl (by kernel_rfl) (by kernel_rfl) (by kernel_rfl) (by kernel_rfl) fun a hF=>e_p (v:=(iV t_17)) 6 hF rfl (ex_move rfl) rfl rfl (by kernel_rfl) (by kernel_rfl) (by kernel_rfl) fun a hF=>e_one 3 (by kernel_rfl) ?_
      obtain ⟨t_21,ht_21,hb9⟩:=bindS hb9
      refine e_call (vs:=[s2.v,(.agg #[(iV p_t.Level),s3.v,s4.v,(iV p_t.Sum)]),(iV t_17)]) hF hS rfl Tryz.func42 (by kernel_rfl) rfl rfl rfl (c_spec_lSet p_s p_t t_17 t_21 ht_21 _ m hS.vis s2 h2 s3 h3 s4 h4) ?_
      rintro a w _ rfl hF hS
      refine e_one 7 (by kernel_rfl) ?_
      obtain ⟨t_22,ht_22,hb9⟩:=bindS hb9
      refine e_call (vs:=[s2.v,(.agg #[(iV p_u.Level),s5.v,s6.v,(iV p_u.Sum)]),(iV t_17)]) hF hS rfl Tryz.func42 (by kernel_rfl) rfl rfl rfl (c_spec_lSet p_s p_u t_17 t_22 ht_22 _ m hS.vis s2 h2 s5 h5 s6 h6) ?_
      rintro a w _ rfl hF hS
      refine e_p (v:=(iV t_21)) 8 hF rfl (ex_assign rfl) rfl rfl (by kernel_rfl) (by kernel_rfl) (by kernel_rfl) fun a hF=>e_p (v:=(iV t_22)) 9 hF rfl (ex_assign rfl) rfl rfl (by kernel_rfl) (by kernel_rfl) (by kernel_rfl) fun a hF=>e_end (by kernel_rfl) (n_sq ?_) _
      refine q_seq ?_
      obtain ⟨t_24,hj11,hb9⟩:=bindS hb9
      refine q_join (fun a w=>Fr a 83 [(1,s2.v),(6,(.pointer (some ⟨b8,0,none⟩))),(7,(.pointer (some ⟨b9,0,none⟩))),(53,(iV (goLen p_s))),(54,(iV t_17)),(81,(.bool t_24))]∧St [] w0 w m [[⟨b9,[(iV p_u.Level),s5.v,s6.v,(iV p_u.Sum)],29⟩],[⟨b8,[(iV p_t.Level),s3.v,s4.v,(iV p_t.Sum)],29⟩]]) ?_ ?_
      ·refine q_region (q_x (v:=(iV t_21)) hF hS (ex_move rfl) rfl rfl fun a hF=>q_x (v:=(iV t_22)) hF hS (ex_move rfl) rfl rfl fun a hF=>q_x (v:=(.bool (t_21 != t_22))) hF hS (ex_ibin rfl rfl rfl) rfl rfl fun a hF=>q_x (v:=(.bool (t_21 != t_22))) hF hS (ex_move rfl) rfl rfl fun a hF=>?_)
       rcases bcase (t_21 != t_22) with hc12 | hc12
       ·have hj11:=cond_f hc12 hj11
        refine q_skip hF (wanted_f hF rfl rfl rfl hc12 rfl) rfl fun a hF=>q_skip hF (wanted_f hF rfl rfl rfl hc12 rfl) rfl fun a hF=>q_skip hF (wanted_f hF rfl rfl rfl hc12 rfl) rfl fun a hF=>q_skip hF (wanted_f hF rfl rfl rfl hc12 rfl) rfl fun a hF=>q_skip hF (wanted_f hF rfl rfl rfl hc12 rfl) rfl fun a hF=>q_skip hF (wanted_f hF rfl rfl rfl hc12 rfl) rfl fun a hF=>q_skip hF (wanted_u hF rfl rfl rfl) rfl fun a hF=>q_skip hF (wanted_u hF rfl rfl rfl) rfl fun a hF=>q_skip hF (wanted_u hF rfl rfl rfl) rfl fun a hF=>q_skip hF (wanted_u hF rfl rfl rfl) rfl fun a hF=>q_skip hF (wanted_u hF rfl rfl rfl) rfl fun a hF=>q_skip hF (wanted_f hF rfl rfl rfl hc12 rfl) rfl fun a hF=>q_x (v:=(.bool false)) hF hS (ex_pick_f rfl rfl hc12) rfl rfl fun a hF=>q_end (n_jn ?_)
        obtain rfl:=someI hj11
        exact ⟨hF.sub ⟨rfl,rfl,rfl,rfl,rfl,rfl,trivial⟩,hS⟩
       ·have hj11:=cond_t hc12 hj11
        refine q_xg (v:=(.pointer (some ⟨b9,1,none⟩))) hF hS (ex_fieldAddr Tryz.underlying29 rfl sz24 rfl rfl) (wanted_t hF rfl rfl rfl hc12) rfl fun a hF=>q_xg (v:=s5.v) hF hS (ex_load1 0 0 Tryz.underlying24 rfl rfl rfl rfl) (wanted_t hF rfl rfl rfl hc12) rfl fun a hF=>q_xg (v:=(iV t_17)) hF hS (ex_move rfl) (wanted_t hF rfl rfl rfl hc12) rfl fun a hF=>?_
        obtain ⟨t_23,ht_23,hj11⟩:=bindS hj11
        refine q_callg (vs:=[s5.v,(iV t_17)]) hF hS (wanted_t hF rfl rfl rfl hc12) Tryz.func66 (by kernel_rfl) rfl rfl rfl (c_spec_l1Has p_u.Vars t_17 t_23 ht_23 _ m hS.vis s5 h5) ?_
        rintro a w _ rfl hF hS
        refine q_xg (v:=(.bool (!t_23))) hF hS (ex_not rfl) (wanted_t hF rfl rfl rfl hc12) rfl fun a hF=>q_xg (v:=(.bool (!t_23))) hF hS (ex_move rfl) (wanted_t hF rfl rfl rfl hc12) rfl fun a hF=>?_
        rcases bcase (!t_23) with hc13 | hc13
        ·have hj11:=cond_f hc13 hj11
         refine q_xg (v:=(iV t_21)) hF hS (ex_move rfl) (wanted_t hF rfl rfl rfl hc13) rfl fun a hF=>q_xg (v:=(iV t_22)) hF hS (ex_move rfl) (wanted_t hF rfl rfl rfl hc13) rfl fun a hF=>q_xg (v:=(iV (goBits .and .i64 t_21 t_22))) hF hS (ex_bits rfl rfl rfl) (wanted_t hF rfl rfl rfl hc13) rfl fun a hF=>q_xg (v:=(iV t_21)) hF hS (ex_move rfl) (wanted_t hF rfl rfl rfl hc13) rfl fun a hF=>q_xg (v:=(.bool ((goBits .and .i64 t_21 t_22) != t_21))) hF hS (ex_ibin rfl rfl rfl) (wanted_t hF rfl rfl rfl hc13) rfl fun a hF=>q_xg (v:=(.bool ((goBits .and .i64 t_21 t_22) != t_21))) hF hS (ex_pick_f rfl rfl hc13) (wanted_t hF rfl rfl rfl hc12) rfl fun a hF=>q_x (v:=(.bool ((goBits .and .i64 t_21 t_22) != t_21))) hF hS (ex_pick_t rfl rfl hc12) rfl rfl fun a hF=>q_end (n_jn ?_)
         obtain rfl:=someI hj11
         exact ⟨hF.sub ⟨rfl,rfl,rfl,rfl,rfl,rfl,trivial⟩,hS⟩
        ·have hj11:=cond_t hc13 hj11
         refine q_skip hF (wanted_f hF rfl rfl rfl hc13 rfl) rfl fun a hF=>q_skip hF (wanted_f hF rfl rfl rfl hc13 rfl) rfl fun a hF=>q_skip hF (wanted_f hF rfl rfl rfl hc13 rfl) rfl fun a hF=>q_skip hF (wanted_f hF rfl rfl rfl hc13 rfl) rfl fun a hF=>q_skip hF (wanted_f hF rfl rfl rfl hc13 rfl) rfl fun a hF=>q_xg (v:=(.bool true)) hF hS (ex_pick_t rfl rfl hc13) (wanted_t hF rfl rfl rfl hc12) rfl fun a hF=>q_x (v:=(.bool true)) hF hS (ex_pick_t rfl rfl hc12) rfl rfl fun a hF=>q_end (n_jn ?_)
         obtain rfl:=someI hj11
         exact ⟨hF.sub ⟨rfl,rfl,rfl,rfl,rfl,rfl,trivial⟩,hS⟩
      ·rintro a w ⟨hF,hS⟩
       refine n_sq ?_
       rcases bcase (t_24) with hc14 | hc14
       ·have hb9:=cond_f hc14 hb9
        refine q_cond_f hF rfl hc14 (q_skipc (n_ib (n_sq (q_region (q_x (v:=(iV (w64 (t_17 + 1)))) hF hS (ex_ibin rfl rfl rfl) rfl rfl fun a hF=>q_x (v:=(iV (w64 (t_17 + 1)))) hF hS (ex_move rfl) rfl rfl fun a hF=>q_end ?_)))))
        obtain rfl:=someI hb9
        exact ⟨rfl,hF.sub ⟨rfl,rfl,rfl,rfl,rfl,trivial⟩,hS⟩
       ·have hb9:=cond_t hc14 hb9
        refine q_cond_t hF rfl hc14 (q_seq (q_region (q_x (v:=(.bool false)) hF hS (ex_assign rfl) rfl rfl fun a hF=>q_end (n_sq (q_ret (r_ib (r_sq ?_)))))))
        obtain rfl:=someI hb9
        refine ⟨nofun,.inr fun ho=>?_⟩
        subst ho
        refine r_ib (r_sq ?_)
        obtain rfl:=someI hr
        exact ret_of hF hS rfl (.tmp rfl .nil) rfl
    ·rintro e a w ⟨rfl,rfl,hF,hS⟩
     refine x_ib (n_sq ?_)
     refine q_seq (q_region (q_x (v:=(.bool true)) hF hS (ex_assign rfl) rfl rfl fun a hF=>q_end (n_sq (q_ret ?_))))
     obtain rfl:=someI hr
     exact ret_of hF hS rfl (.tmp rfl .nil) rfl
  ·have hr:=cond_t hc5 hr
   refine q_cond_t hF rfl hc5 (q_seq (q_region (q_x (v:=(.bool false)) hF hS (ex_assign rfl) rfl rfl fun a hF=>q_end (n_sq (q_ret (r_sq ?_))))))
   obtain rfl:=someI hr
   exact ret_of hF hS rfl (.tmp rfl .nil) rfl

theorem c_spec_FollowsFrom (p_g : impl_Geo) (p_s : List impl_Variable) (p_t : impl_Table) (p_u : impl_Table) (r : Bool × Bool) (hr : spec_FollowsFrom p_g p_s p_t p_u = some r) (w0 : World) (m : Mem) (hv : Vis m w0) (s1 : Sl) (h1 : Rd m s1 p_g.Parents) (s2 : Sl) (h2 : Rd m s2 p_s) (s3 : Sl) (h3 : Rd m s3 p_t.Vars) (s4 : Sl) (h4 : Rd m s4 p_t.Where) (s5 : Sl) (h5 : Rd m s5 p_u.Vars) (s6 : Sl) (h6 : Rd m s6 p_u.Where) :
  Ret Tryz.prog 7 [(.agg #[s1.v]),s2.v,(.agg #[(iV p_t.Level),s3.v,s4.v,(iV p_t.Sum)]),(.agg #[(iV p_u.Level),s5.v,s6.v,(iV p_u.Sum)])] w0 (fun v _=>v = (.tuple #[(.bool r.1),(.bool r.2)])):=by
 unfold spec_FollowsFrom at hr
 refine ret_start Tryz.func7 rfl 27 rfl rfl m hv fun a hF hS=>q_seq (q_region (q_box (cs:=[s1.v]) hF hS rfl rfl rfl fun a w b7 hF hS=>q_box (cs:=[(iV p_t.Level),s3.v,s4.v,(iV p_t.Sum)]) hF hS rfl rfl rfl fun a w b8 hF hS=>q_box (cs:=[(iV p_u.Level),s5.v,s6.v,(iV p_u.Sum)]) hF hS rfl rfl rfl fun a w b9 hF hS=>q_x (v:=(.bool false)) hF hS (ex_assign rfl) rfl rfl fun a hF=>q_x (v:=(.bool false)) hF hS (ex_assign rfl) rfl rfl fun a hF=>q_end (n_sq (q_seq (q_seq ?_)))))
 obtain ⟨t_12,hj1,hr⟩:=bindS hr
 refine q_join (fun a w=>Fr a 27 [(1,s2.v),(4,(.pointer (some ⟨b7,0,none⟩))),(6,(.pointer (some ⟨b8,0,none⟩))),(7,(.pointer (some ⟨b9,0,none⟩))),(21,(.bool t_12))]∧St [] w0 w m [[⟨b9,[(iV p_u.Level),s5.v,s6.v,(iV p_u.Sum)],29⟩],[⟨b8,[(iV p_t.Level),s3.v,s4.v,(iV p_t.Sum)],29⟩],[⟨b7,[s1.v],26⟩]]) ?_ ?_
 ·refine q_region (q_x (v:=(.agg #[s1.v])) hF hS (ex_loadA (vs:=[s1.v]) 2 0 Tryz.underlying26 rfl sz26 rfl rfl rfl rfl) rfl rfl fun a hF=>q_x (v:=s2.v) hF hS (ex_move rfl) rfl rfl fun a hF=>q_x (v:=(.agg #[(iV p_t.Level),s3.v,s4.v,(iV p_t.Sum)])) hF hS (ex_loadA (vs:=[(iV p_t.Level),s3.v,s4.v,(iV p_t.Sum)]) 1 0 Tryz.underlying29 rfl sz29 rfl rfl rfl rfl) rfl rfl fun a hF=>?_)
  obtain ⟨t_10,ht_10,hj1⟩:=bindS hj1
  refine q_call (vs:=[(.agg #[s1.v]),s2.v,(.agg #[(iV p_t.Level),s3.v,s4.v,(iV p_t.Sum)])]) hF hS Tryz.func23 (by kernel_rfl) rfl rfl rfl (c_spec_uGood p_g p_s p_t t_10 ht_10 _ m hS.vis s1 h1 s2 h2 s3 h3 s4 h4) ?_
  rintro a w _ rfl hF hS
  refine q_x (v:=(.bool (!t_10))) hF hS (ex_not rfl) rfl rfl fun a hF=>q_x (v:=(.bool (!t_10))) hF hS (ex_move rfl) rfl rfl fun a hF=>?_
  rcases bcase (!t_10) with hc2 | hc2
  ·have hj1:=cond_f hc2 hj1
   refine q_xg (v:=(.agg #[s1.v])) hF hS (ex_loadA (vs:=[s1.v]) 2 0 Tryz.underlying26 rfl sz26 rfl rfl rfl rfl) (wanted_t hF rfl rfl rfl hc2) rfl fun a hF=>q_xg (v:=s2.v) hF hS (ex_move rfl) (wanted_t hF rfl rfl rfl hc2) rfl fun a hF=>q_xg (v:=(.agg #[(iV p_u.Level),s5.v,s6.v,(iV p_u.Sum)])) hF hS (ex_loadA (vs:=[(iV p_u.Level),s5.v,s6.v,(iV p_u.Sum)]) 0 0 Tryz.underlying29 rfl sz29 rfl rfl rfl rfl) (wanted_t hF rfl rfl rfl hc2) rfl fun a hF=>?_
   obtain ⟨t_11,ht_11,hj1⟩:=bindS hj1
   refine q_callg (vs:=[(.agg #[s1.v]),s2.v,(.agg #[(iV p_u.Level),s5.v,s6.v,(iV p_u.Sum)])]) hF hS (wanted_t hF rfl rfl rfl hc2) Tryz.func23 (by kernel_rfl) rfl rfl rfl (c_spec_uGood p_g p_s p_u t_11 ht_11 _ m hS.vis s1 h1 s2 h2 s5 h5 s6 h6) ?_
   rintro a w _ rfl hF hS
   refine q_xg (v:=(.bool (!t_11))) hF hS (ex_not rfl) (wanted_t hF rfl rfl rfl hc2) rfl fun a hF=>q_x (v:=(.bool (!t_11))) hF hS (ex_pick_f rfl rfl hc2) rfl rfl fun a hF=>q_end (n_jn ?_)
   obtain rfl:=someI hj1
   exact ⟨hF.sub ⟨rfl,rfl,rfl,rfl,rfl,trivial⟩,hS⟩
  ·have hj1:=cond_t hc2 hj1
   refine q_skip hF (wanted_f hF rfl rfl rfl hc2 rfl) rfl fun a hF=>q_skip hF (wanted_f hF rfl rfl rfl hc2 rfl) rfl fun a hF=>q_skip hF (wanted_f hF rfl rfl rfl hc2 rfl) rfl fun a hF=>q_skip hF (wanted_f hF rfl rfl rfl hc2 rfl) rfl fun a hF=>q_skip hF (wanted_f hF rfl rfl rfl hc2 rfl) rfl fun a hF=>q_x (v:=(.bool true)) hF hS (ex_pick_t rfl rfl hc2) rfl rfl fun a hF=>q_end (n_jn ?_)
   obtain rfl:=someI hj1
   exact ⟨hF.sub ⟨rfl,rfl,rfl,rfl,rfl,trivial⟩,hS⟩
 ·rintro a w ⟨hF,hS⟩
  refine n_sq ?_
  rcases bcase (t_12) with hc3 | hc3
  ·have hr:=cond_f hc3 hr
   refine q_cond_f hF rfl hc3 (q_skipc (n_sq (q_seq (q_region (q_x (v:=(.agg #[s1.v])) hF hS (ex_loadA (vs:=[s1.v]) 2 0 Tryz.underlying26 rfl sz26 rfl rfl rfl rfl) rfl rfl fun a hF=>q_x (v:=s2.v) hF hS (ex_move rfl) rfl rfl fun a hF=>q_x (v:=(.agg #[(iV p_t.Level),s3.v,s4.v,(iV p_t.Sum)])) hF hS (ex_loadA (vs:=[(iV p_t.Level),s3.v,s4.v,(iV p_t.Sum)]) 1 0 Tryz.underlying29 rfl sz29 rfl rfl rfl rfl) rfl rfl fun a hF=>q_x (v:=(.agg #[(iV p_u.Level),s5.v,s6.v,(iV p_u.Sum)])) hF hS (ex_loadA (vs:=[(iV p_u.Level),s5.v,s6.v,(iV p_u.Sum)]) 0 0 Tryz.underlying29 rfl sz29 rfl rfl rfl rfl) rfl rfl fun a hF=>?_)))))
   obtain ⟨t_13,ht_13,hr⟩:=bindS hr
   refine q_call (vs:=[(.agg #[s1.v]),s2.v,(.agg #[(iV p_t.Level),s3.v,s4.v,(iV p_t.Sum)]),(.agg #[(iV p_u.Level),s5.v,s6.v,(iV p_u.Sum)])]) hF hS Tryz.func24 (by kernel_rfl) rfl rfl rfl (c_spec_lFollows p_g p_s p_t p_u t_13 ht_13 _ m hS.vis s1 h1 s2 h2 s3 h3 s4 h4 s5 h5 s6 h6) ?_
   rintro a w _ rfl hF hS
   refine q_x (v:=(.bool t_13)) hF hS (ex_assign rfl) rfl rfl fun a hF=>q_x (v:=(.bool true)) hF hS (ex_assign rfl) rfl rfl fun a hF=>q_end (n_sq (q_ret ?_))
   obtain rfl:=someI hr
   exact ret_of hF hS rfl (.tmp rfl (.tmp rfl .nil)) rfl
  ·have hr:=cond_t hc3 hr
   refine q_cond_t hF rfl hc3 (q_seq (q_region (q_x (v:=(.bool false)) hF hS (ex_assign rfl) rfl rfl fun a hF=>q_x (v:=(.bool false)) hF hS (ex_assign rfl) rfl rfl fun a hF=>q_end (n_sq (q_ret (r_sq ?_))))))
   obtain rfl:=someI hr
   exact ret_of hF hS rfl (.tmp rfl (.tmp rfl .nil)) rfl

theorem c_spec_DrawIsSurvey (p_code : List (K .u8)) (r : impl_Geo × (List impl_Variable) × (List impl_Record)) (hr : spec_DrawIsSurvey p_code = some r) (w0 : World) (m : Mem) (hv : Vis m w0) (s1 : Sl) (h1 : Rd m s1 p_code) :
  Ret Tryz.prog 8 [s1.v] w0 (fun v w=>∃ (m' : Mem) (q0' : Piece) (q2' : Piece) (s0' : Sl) (s1' : Sl) (s2' : Sl),v = (.tuple #[(.agg #[s0'.v]),s1'.v,s2'.v])∧MLe [] w0.heap.size m m'∧St [] w0 w m' [q0',q2']∧OwnL m' 3 q0' s0' r.1.Parents∧Rd m' s1' r.2.1∧OwnL m' 84 q2' s2' r.2.2):=by
 unfold spec_DrawIsSurvey at hr
 refine ret_start Tryz.func8 rfl 14 rfl rfl m hv fun a hF hS=>q_seq (q_region (q_alloc (cs:=[nilS.v]) hF hS rfl rfl rfl fun a w b2 hF hS=>q_x (v:=nilS.v) hF hS (ex_assign rfl) rfl rfl fun a hF=>q_x (v:=nilS.v) hF hS (ex_assign rfl) rfl rfl fun a hF=>q_end (n_sq (q_seq (q_region (q_x (v:=s1.v) hF hS (ex_move rfl) rfl rfl fun a hF=>q_x (v:=(.agg #[s1.v,(iV 0),(.int .u64 0)])) hF hS (ex_build (cells:=[s1.v,(iV 0),(.int .u64 0)]) rfl (by kernel_rfl)) rfl rfl fun a hF=>q_box (cs:=[s1.v,(iV 0),(.int .u64 0)]) hF hS rfl rfl rfl fun a w b3 hF hS=>q_x (v:=(.pointer (some ⟨b3,0,none⟩))) hF hS (ex_assign rfl) rfl rfl fun a hF=>q_end (n_sq (q_seq (q_region (q_x (v:=(.pointer (some ⟨b3,0,none⟩))) hF hS (ex_move rfl) rfl rfl fun a hF=>?_))))))))))
 have hS4 : St _ _ _ _ ([[⟨b3,[s1.v,(iV 0),(.int .u64 0)],47⟩]]++[[⟨b2,[nilS.v],26⟩]]):=hS
 have hE4:=hS4.enter
 obtain ⟨t_5,ht_5,hr⟩:=bindS hr
 refine q_do rfl fun _ hK=>wp_callX (vs:=[(.pointer (some ⟨b3,0,none⟩))]) hF Tryz.func16 (by kernel_rfl) rfl rfl rfl (c_spec_l1Cur_anySurvey (spec_l1Cur.mk p_code 0 (⟨0⟩ : K .u64)) t_5 ht_5 _ m b3 s1 h1 _ hE4) fun a w _ hR hF=>hK _ _ ?_
 obtain ⟨m4',q6,q8,s6,s7,s8,rfl,hm4,hR4,h6,h7,h8,hk9⟩:=hR
 have hS : St _ _ _ _ [[⟨b3,[s1.v,(iV t_5.2.2.2.at_),(.int .u64 t_5.2.2.2.seed.v)],47⟩],q6,q8,[⟨b2,[nilS.v],26⟩]]:=hS4.leave hR4 hm4
 have hm4:=MLe.weakX hS4 hm4
 have h9 : Rd m4' s1 t_5.2.2.2.code:=by rw [hk9]; exact (h1.mono hm4.le)
 refine q_x (v:=(.agg #[s6.v])) hF hS (ex_extract rfl rfl) rfl rfl fun a hF=>q_x (v:=s7.v) hF hS (ex_extract rfl rfl) rfl rfl fun a hF=>q_x (v:=s8.v) hF hS (ex_extract rfl rfl) rfl rfl fun a hF=>q_store (vs:=[s6.v]) (cs':=[s6.v]) 3 0 hF hS sz26 rfl rfl rfl rfl rfl rfl rfl rfl fun a w hF hS=>q_x (v:=s7.v) hF hS (ex_assign rfl) rfl rfl fun a hF=>q_x (v:=s8.v) hF hS (ex_assign rfl) rfl rfl fun a hF=>q_end (n_sq (q_ret ?_))
 obtain rfl:=someI hr
 exact ret_of hF hS rfl (.cellA (us:=[s6.v]) 3 0 Tryz.underlying26 rfl sz26 rfl rfl rfl rfl (.tmp rfl (.tmp rfl .nil))) ⟨m4',q6,q8,s6,s7,s8,rfl,hm4,hS.sel [1,2] (by decide),h6,h7,h8⟩

theorem c_spec_sFits (p_s : List impl_Variable) (p_values : List Int) (r : Bool) (hr : spec_sFits p_s p_values = some r) (w0 : World) (m : Mem) (hv : Vis m w0) (s1 : Sl) (h1 : Rd m s1 p_s) (s2 : Sl) (h2 : Rd m s2 p_values) :
  Ret Tryz.prog 107 [s1.v,s2.v] w0 (fun v _=>v = (.bool r)):=by
 unfold spec_sFits at hr
 refine ret_start Tryz.func107 rfl 29 rfl rfl m hv fun a hF hS=>q_seq (q_region (q_x (v:=(.bool false)) hF hS (ex_assign rfl) rfl rfl fun a hF=>q_end (n_sq (q_seq (q_seq (q_region (q_x (v:=s2.v) hF hS (ex_move rfl) rfl rfl fun a hF=>q_x (v:=(iV (goLen p_values))) hF hS (ex_len Tryz.underlying24 rfl h2.len) rfl rfl fun a hF=>q_x (v:=s1.v) hF hS (ex_move rfl) rfl rfl fun a hF=>q_x (v:=(iV (goLen p_s))) hF hS (ex_len Tryz.underlying27 rfl h1.len) rfl rfl fun a hF=>q_x (v:=(.bool ((goLen p_values) != (goLen p_s)))) hF hS (ex_ibin rfl rfl rfl) rfl rfl fun a hF=>q_end (n_sq ?_))))))))
 rcases bcase ((goLen p_values) != (goLen p_s)) with hc1 | hc1
 ·have hr:=cond_f hc1 hr
  refine q_cond_f hF rfl hc1 (q_skipc (n_sq (q_seq (q_seq (q_region (q_x (v:=s1.v) hF hS (ex_move rfl) rfl rfl fun a hF=>q_x (v:=(iV (goLen p_s))) hF hS (ex_len Tryz.underlying27 rfl h1.len) rfl rfl fun a hF=>q_x (v:=(iV 0)) hF hS (ex_move rfl) rfl rfl fun a hF=>q_end (n_sq (q_block ?_))))))))
  obtain ⟨o2,hl2,hr⟩:=bindS hr
  refine q_loop (fun (t_3 : Int) a w=>Fr a 29 [(1,s2.v),(12,s1.v),(13,(iV (goLen p_s))),(14,(iV t_3))]∧St [] w0 w m []) (fun (o : (Unit) ⊕ (Bool)) e a w=>o = .inl ()∧e = .exit 0∧Fr a 29 []∧St [] w0 w m []) hl2 ⟨hF.sub ⟨rfl,rfl,rfl,rfl,trivial⟩,hS⟩ ?_ ?_
  ·clear hF hS
   rintro t_3 a w st ⟨hF,hS⟩ hb2
   unfold spec_sFits_l1 at hb2
   refine q_seq (q_region (q_x (v:=(.bool (decide (t_3 < (goLen p_s))))) hF hS (ex_ibin rfl rfl rfl) rfl rfl fun a hF=>q_end (n_sq (q_seq ?_))))
   rcases bcase (decide (t_3 < (goLen p_s))) with hc3 | hc3
   ·have hb2:=cond_f hc3 hb2
    refine q_cond_f hF rfl hc3 (q_exit (x_sq ?_))
    obtain rfl:=someI hb2
    exact ⟨nofun,.inl ⟨rfl,rfl,hF.sub trivial,hS⟩⟩
   ·have hb2:=cond_t hc3 hb2
    refine q_cond_t hF rfl hc3 (q_skipc (n_sq (q_seq (q_block (q_seq (q_region (q_x (v:=(iV t_3)) hF hS (ex_move rfl) rfl rfl fun a hF=>?_)))))))
    obtain ⟨e_4,he_4,hb2⟩:=bindS hb2
    obtain ⟨vs5,at5,d5⟩:=h1.at he_4 2 rfl
    obtain rfl : vs5 = [(strV e_4.Name),(iV e_4.Levels)]:=d5
    refine q_x (v:=(elP s1 (t_3.toNat * 2))) hF hS (ex_indexAddr Tryz.underlying27 sz88 rfl rfl (h1.idx he_4)) rfl rfl fun a hF=>q_x (v:=(.agg #[(strV e_4.Name),(iV e_4.Levels)])) hF hS (ex_loadEA (us:=[(strV e_4.Name),(iV e_4.Levels)]) 0 Tryz.underlying88 rfl sz88 rfl ((at5).at) rfl rfl rfl) rfl rfl fun a hF=>q_alloc (cs:=[(strV ([] : List UInt8)),(iV 0)]) hF hS rfl rfl rfl fun a w b6 hF hS=>q_x (v:=(iV t_3)) hF hS (ex_assign rfl) rfl rfl fun a hF=>q_store (vs:=[(strV e_4.Name),(iV e_4.Levels)]) (cs':=[(strV e_4.Name),(iV e_4.Levels)]) 0 0 hF hS sz88 rfl rfl rfl rfl rfl rfl rfl rfl fun a w hF hS=>q_end (n_sq (q_seq (e_region ⟨[],[]⟩ mixed fun w' hw'=>?_)))
    have hS:=hS.below hw'
    refine e_p (v:=s2.v) 0 hF rfl (ex_move rfl) rfl rfl (by kernel_rfl) (by kernel_rfl) (by kernel_rfl) fun a hF=>e_p (v:=(iV t_3)) 1 hF rfl (ex_move rfl) rfl rfl (by kernel_rfl) (by kernel_rfl) (by kernel_rfl) fun a hF=>?_
    obtain ⟨e_7,he_7,hb2⟩:=bindS hb2
    obtain ⟨vs8,at8,d8⟩:=h2.at he_7 1 rfl
    obtain rfl : vs8 = [(iV e_7)]:=d8
    refine e_p (v:=(elP s2 (t_3.toNat * 1))) 2 hF rfl (ex_indexAddr Tryz.underlying24 sz3 rfl rfl (h2.idx he_7)) rfl rfl (by kernel_rfl) (by kernel_rfl) (by kernel_rfl) fun a hF=>e_x (v:=(iV e_7)) 3 hF hS rfl (ex_loadE1 0 Tryz.underlying3 rfl rfl ((at8).at) rfl rfl) rfl rfl (by kernel_rfl) (by kernel_rfl) (by kernel_rfl) (by kernel_rfl) fun a hF=>e_p (v:=(.pointer (some ⟨b6,1,none⟩))) 4 hF rfl (ex_fieldAddr Tryz.underlying88 rfl sz3 rfl rfl) rfl rfl (by kernel_rfl) (by kernel_rfl) (by kernel_rfl) fun a hF=>e_x (v:=(iV e_4.Levels)) 5 hF hS rfl (ex_load1 0 0 Tryz.underlying3 rfl rfl rfl rfl) rfl rfl (by kernel_rfl) (by kernel_rfl) (by kernel_rfl) (by kernel_rfl) fun a hF=>e_p (v:=(iV (w64 (e_4.Levels - 1)))) 6 hF rfl (ex_ibin rfl rfl rfl) rfl rfl (by kernel_rfl) (by kernel_rfl) (by kernel_rfl) fun a hF=>e_one 7 (by kernel_rfl) ?_
    obtain ⟨t_9,ht_9,hb2⟩:=bindS hb2
    refine e_call (vs:=[(iV e_7),(iV 0),(iV (w64 (e_4.Levels - 1)))]) hF hS rfl Tryz.func56 (by kernel_rfl) rfl rfl rfl (c_spec_l1In e_7 0 (w64 (e_4.Levels - 1)) t_9 ht_9 _ m hS.vis) ?_
    rintro a w _ rfl hF hS
    refine e_p (v:=(.bool (!t_9))) 8 hF rfl (ex_not rfl) rfl rfl (by kernel_rfl) (by kernel_rfl) (by kernel_rfl) fun a hF=>e_end (by kernel_rfl) (n_sq ?_) _
    rcases bcase (!t_9) with hc4 | hc4
    ·have hb2:=cond_f hc4 hb2
     refine q_cond_f hF rfl hc4 (q_skipc (n_ib (n_sq (q_region (q_x (v:=(iV (w64 (t_3 + 1)))) hF hS (ex_ibin rfl rfl rfl) rfl rfl fun a hF=>q_x (v:=(iV (w64 (t_3 + 1)))) hF hS (ex_move rfl) rfl rfl fun a hF=>q_end ?_)))))
     obtain rfl:=someI hb2
     exact ⟨rfl,hF.sub ⟨rfl,rfl,rfl,rfl,trivial⟩,hS.mask [false]⟩
    ·have hb2:=cond_t hc4 hb2
     refine q_cond_t hF rfl hc4 (q_seq (q_region (q_x (v:=(.bool false)) hF hS (ex_assign rfl) rfl rfl fun a hF=>q_end (n_sq (q_ret (r_ib (r_sq ?_)))))))
     obtain rfl:=someI hb2
     refine ⟨nofun,.inr fun ho=>?_⟩
     subst ho
     refine r_ib (r_sq ?_)
     obtain rfl:=someI hr
     exact ret_of hF hS rfl (.tmp rfl .nil) rfl
  ·rintro e a w ⟨rfl,rfl,hF,hS⟩
   refine x_ib (n_sq ?_)
   refine q_seq (q_region (q_x (v:=(.bool true)) hF hS (ex_assign rfl) rfl rfl fun a hF=>q_end (n_sq (q_ret ?_))))
   obtain rfl:=someI hr
   exact ret_of hF hS rfl (.tmp rfl .nil) rfl
 ·have hr:=cond_t hc1 hr
  refine q_cond_t hF rfl hc1 (q_seq (q_region (q_x (v:=(.bool false)) hF hS (ex_assign rfl) rfl rfl fun a hF=>q_end (n_sq (q_ret (r_sq ?_))))))
  obtain rfl:=someI hr
  exact ret_of hF hS rfl (.tmp rfl .nil) rfl

theorem c_spec_rGood (p_s : List impl_Variable) (p_r : impl_Record) (r : Bool) (hr : spec_rGood p_s p_r = some r) (w0 : World) (m : Mem) (hv : Vis m w0) (s1 : Sl) (h1 : Rd m s1 p_s) (s2 : Sl) (h2 : Rd m s2 p_r.Values) :
  Ret Tryz.prog 103 [s1.v,(.agg #[(iV p_r.Area),(iV p_r.House),s2.v])] w0 (fun v _=>v = (.bool r)):=by
 unfold spec_rGood at hr
 refine ret_start Tryz.func103 rfl 19 rfl rfl m hv fun a hF hS=>q_seq (q_region (q_box (cs:=[(iV p_r.Area),(iV p_r.House),s2.v]) hF hS rfl rfl rfl fun a w b3 hF hS=>q_x (v:=(.bool false)) hF hS (ex_assign rfl) rfl rfl fun a hF=>q_end (n_sq (q_seq ?_))))
 obtain ⟨t_7,hj1,hr⟩:=bindS hr
 refine q_join (fun a w=>Fr a 19 [(4,(.bool t_7))]∧St [] w0 w m []) ?_ ?_
 ·refine q_region (q_x (v:=(.pointer (some ⟨b3,0,none⟩))) hF hS (ex_fieldAddr Tryz.underlying84 rfl sz3 rfl rfl) rfl rfl fun a hF=>q_x (v:=(iV p_r.Area)) hF hS (ex_load1 0 0 Tryz.underlying3 rfl rfl rfl rfl) rfl rfl fun a hF=>?_)
  obtain ⟨t_4,ht_4,hj1⟩:=bindS hj1
  refine q_call (vs:=[(iV p_r.Area),(iV 0),(iV 29)]) hF hS Tryz.func56 (by kernel_rfl) rfl rfl rfl (c_spec_l1In p_r.Area 0 29 t_4 ht_4 _ m hS.vis) ?_
  rintro a w _ rfl hF hS
  refine q_x (v:=(.bool t_4)) hF hS (ex_move rfl) rfl rfl fun a hF=>?_
  rcases bcase (t_4) with hc2 | hc2
  ·have hj1:=cond_f hc2 hj1
   refine q_skip hF (wanted_f hF rfl rfl rfl hc2 rfl) rfl fun a hF=>q_skip hF (wanted_f hF rfl rfl rfl hc2 rfl) rfl fun a hF=>q_skip hF (wanted_f hF rfl rfl rfl hc2 rfl) rfl fun a hF=>q_x (v:=(.bool false)) hF hS (ex_pick_f rfl rfl hc2) rfl rfl fun a hF=>q_x (v:=(.bool false)) hF hS (ex_move rfl) rfl rfl fun a hF=>q_skip hF (wanted_f hF rfl rfl rfl rfl rfl) rfl fun a hF=>q_skip hF (wanted_f hF rfl rfl rfl rfl rfl) rfl fun a hF=>q_skip hF (wanted_f hF rfl rfl rfl rfl rfl) rfl fun a hF=>q_skip hF (wanted_f hF rfl rfl rfl rfl rfl) rfl fun a hF=>q_x (v:=(.bool false)) hF hS (ex_pick_f rfl rfl rfl) rfl rfl fun a hF=>q_x (v:=(.bool false)) hF hS (ex_assign rfl) rfl rfl fun a hF=>q_end (n_jn ?_)
   obtain rfl:=someI hj1
   exact ⟨hF.sub ⟨rfl,trivial⟩,hS.mask [false]⟩
  ·have hj1:=cond_t hc2 hj1
   refine q_xg (v:=(.pointer (some ⟨b3,1,none⟩))) hF hS (ex_fieldAddr Tryz.underlying84 rfl sz3 rfl rfl) (wanted_t hF rfl rfl rfl hc2) rfl fun a hF=>q_xg (v:=(iV p_r.House)) hF hS (ex_load1 0 0 Tryz.underlying3 rfl rfl rfl rfl) (wanted_t hF rfl rfl rfl hc2) rfl fun a hF=>?_
   obtain ⟨t_5,ht_5,hj1⟩:=bindS hj1
   refine q_callg (vs:=[(iV p_r.House),(iV 0),(iV 999)]) hF hS (wanted_t hF rfl rfl rfl hc2) Tryz.func56 (by kernel_rfl) rfl rfl rfl (c_spec_l1In p_r.House 0 999 t_5 ht_5 _ m hS.vis) ?_
   rintro a w _ rfl hF hS
   refine q_x (v:=(.bool t_5)) hF hS (ex_pick_t rfl rfl hc2) rfl rfl fun a hF=>q_x (v:=(.bool t_5)) hF hS (ex_move rfl) rfl rfl fun a hF=>?_
   rcases bcase (t_5) with hc3 | hc3
   ·have hj1:=cond_f hc3 hj1
    refine q_skip hF (wanted_f hF rfl rfl rfl hc3 rfl) rfl fun a hF=>q_skip hF (wanted_f hF rfl rfl rfl hc3 rfl) rfl fun a hF=>q_skip hF (wanted_f hF rfl rfl rfl hc3 rfl) rfl fun a hF=>q_skip hF (wanted_f hF rfl rfl rfl hc3 rfl) rfl fun a hF=>q_x (v:=(.bool false)) hF hS (ex_pick_f rfl rfl hc3) rfl rfl fun a hF=>q_x (v:=(.bool false)) hF hS (ex_assign rfl) rfl rfl fun a hF=>q_end (n_jn ?_)
    obtain rfl:=someI hj1
    exact ⟨hF.sub ⟨rfl,trivial⟩,hS.mask [false]⟩
   ·have hj1:=cond_t hc3 hj1
    refine q_xg (v:=s1.v) hF hS (ex_move rfl) (wanted_t hF rfl rfl rfl hc3) rfl fun a hF=>q_xg (v:=(.pointer (some ⟨b3,2,none⟩))) hF hS (ex_fieldAddr Tryz.underlying84 rfl sz24 rfl rfl) (wanted_t hF rfl rfl rfl hc3) rfl fun a hF=>q_xg (v:=s2.v) hF hS (ex_load1 0 0 Tryz.underlying24 rfl rfl rfl rfl) (wanted_t hF rfl rfl rfl hc3) rfl fun a hF=>?_
    obtain ⟨t_6,ht_6,hj1⟩:=bindS hj1
    refine q_callg (vs:=[s1.v,s2.v]) hF hS (wanted_t hF rfl rfl rfl hc3) Tryz.func107 (by kernel_rfl) rfl rfl rfl (c_spec_sFits p_s p_r.Values t_6 ht_6 _ m hS.vis s1 h1 s2 h2) ?_
    rintro a w _ rfl hF hS
    refine q_x (v:=(.bool t_6)) hF hS (ex_pick_t rfl rfl hc3) rfl rfl fun a hF=>q_x (v:=(.bool t_6)) hF hS (ex_assign rfl) rfl rfl fun a hF=>q_end (n_jn ?_)
    obtain rfl:=someI hj1
    exact ⟨hF.sub ⟨rfl,trivial⟩,hS.mask [false]⟩
 ·rintro a w ⟨hF,hS⟩
  refine n_sq (q_ret ?_)
  obtain rfl:=someI hr
  exact ret_of hF hS rfl (.tmp rfl .nil) rfl

theorem c_spec_dGood (p_s : List impl_Variable) (p_l : List impl_Record) (r : Bool) (hr : spec_dGood p_s p_l = some r) (w0 : World) (m : Mem) (hv : Vis m w0) (s1 : Sl) (h1 : Rd m s1 p_s) (s2 : Sl) (h2 : Rd m s2 p_l) :
  Ret Tryz.prog 95 [s1.v,s2.v] w0 (fun v _=>v = (.bool r)):=by
 unfold spec_dGood at hr
 refine ret_start Tryz.func95 rfl 21 rfl rfl m hv fun a hF hS=>q_seq (q_region (q_x (v:=(.bool false)) hF hS (ex_assign rfl) rfl rfl fun a hF=>q_end (n_sq (q_seq (q_seq (q_region (q_x (v:=s2.v) hF hS (ex_move rfl) rfl rfl fun a hF=>q_x (v:=(iV (goLen p_l))) hF hS (ex_len Tryz.underlying34 rfl h2.len) rfl rfl fun a hF=>q_x (v:=(iV 0)) hF hS (ex_move rfl) rfl rfl fun a hF=>q_end (n_sq (q_block ?_)))))))))
 obtain ⟨o1,hl1,hr⟩:=bindS hr
 refine q_loop (fun (t_3 : Int) a w=>Fr a 21 [(0,s1.v),(1,s2.v),(7,s2.v),(8,(iV (goLen p_l))),(9,(iV t_3))]∧St [] w0 w m []) (fun (o : (Unit) ⊕ (Bool)) e a w=>o = .inl ()∧e = .exit 0∧Fr a 21 [(1,s2.v)]∧St [] w0 w m []) hl1 ⟨hF.sub ⟨rfl,rfl,rfl,rfl,rfl,trivial⟩,hS⟩ ?_ ?_
 ·clear hF hS
  rintro t_3 a w st ⟨hF,hS⟩ hb1
  unfold spec_dGood_l1 at hb1
  refine q_seq (q_region (q_x (v:=(.bool (decide (t_3 < (goLen p_l))))) hF hS (ex_ibin rfl rfl rfl) rfl rfl fun a hF=>q_end (n_sq (q_seq ?_))))
  rcases bcase (decide (t_3 < (goLen p_l))) with hc2 | hc2
  ·have hb1:=cond_f hc2 hb1
   refine q_cond_f hF rfl hc2 (q_exit (x_sq ?_))
   obtain rfl:=someI hb1
   exact ⟨nofun,.inl ⟨rfl,rfl,hF.sub ⟨rfl,trivial⟩,hS⟩⟩
  ·have hb1:=cond_t hc2 hb1
   refine q_cond_t hF rfl hc2 (q_skipc (n_sq (q_seq (q_block (q_seq (q_region ?_))))))
   obtain ⟨e_4,he_4,hb1⟩:=bindS hb1
   obtain ⟨vs5,at5,d5⟩:=h2.at he_4 3 rfl
   obtain ⟨s6,rfl,h6⟩ : ∃ s6 : Sl,vs5 = [(iV e_4.Area),(iV e_4.House),s6.v]∧Rd m s6 e_4.Values:=d5
   refine q_x (v:=(elP s2 (t_3.toNat * 3))) hF hS (ex_indexAddr Tryz.underlying34 sz84 rfl rfl (h2.idx he_4)) rfl rfl fun a hF=>q_x (v:=(.agg #[(iV e_4.Area),(iV e_4.House),s6.v])) hF hS (ex_loadEA (us:=[(iV e_4.Area),(iV e_4.House),s6.v]) 0 Tryz.underlying84 rfl sz84 rfl ((at5).at) rfl rfl rfl) rfl rfl fun a hF=>q_alloc (cs:=[(iV 0),(iV 0),nilS.v]) hF hS rfl rfl rfl fun a w b7 hF hS=>q_store (vs:=[(iV e_4.Area),(iV e_4.House),s6.v]) (cs':=[(iV e_4.Area),(iV e_4.House),s6.v]) 0 0 hF hS sz84 rfl rfl rfl rfl rfl rfl rfl rfl fun a w hF hS=>q_end (n_sq (q_seq (q_region (q_x (v:=s1.v) hF hS (ex_move rfl) rfl rfl fun a hF=>q_x (v:=(.agg #[(iV e_4.Area),(iV e_4.House),s6.v])) hF hS (ex_loadA (vs:=[(iV e_4.Area),(iV e_4.House),s6.v]) 0 0 Tryz.underlying84 rfl sz84 rfl rfl rfl rfl) rfl rfl fun a hF=>?_))))
   obtain ⟨t_8,ht_8,hb1⟩:=bindS hb1
   refine q_call (vs:=[s1.v,(.agg #[(iV e_4.Area),(iV e_4.House),s6.v])]) hF hS Tryz.func103 (by kernel_rfl) rfl rfl rfl (c_spec_rGood p_s e_4 t_8 ht_8 _ m hS.vis s1 h1 s6 h6) ?_
   rintro a w _ rfl hF hS
   refine q_x (v:=(.bool (!t_8))) hF hS (ex_not rfl) rfl rfl fun a hF=>q_end (n_sq ?_)
   rcases bcase (!t_8) with hc3 | hc3
   ·have hb1:=cond_f hc3 hb1
    refine q_cond_f hF rfl hc3 (q_skipc (n_ib (n_sq (q_region (q_x (v:=(iV (w64 (t_3 + 1)))) hF hS (ex_ibin rfl rfl rfl) rfl rfl fun a hF=>q_x (v:=(iV (w64 (t_3 + 1)))) hF hS (ex_move rfl) rfl rfl fun a hF=>q_end ?_)))))
    obtain rfl:=someI hb1
    exact ⟨rfl,hF.sub ⟨rfl,rfl,rfl,rfl,rfl,trivial⟩,hS.mask [false]⟩
   ·have hb1:=cond_t hc3 hb1
    refine q_cond_t hF rfl hc3 (q_seq (q_region (q_x (v:=(.bool false)) hF hS (ex_assign rfl) rfl rfl fun a hF=>q_end (n_sq (q_ret (r_ib (r_sq ?_)))))))
    obtain rfl:=someI hb1
    refine ⟨nofun,.inr fun ho=>?_⟩
    subst ho
    refine r_ib (r_sq ?_)
    obtain rfl:=someI hr
    exact ret_of hF hS rfl (.tmp rfl .nil) rfl
 ·rintro e a w ⟨rfl,rfl,hF,hS⟩
  refine x_ib (n_sq ?_)
  refine q_seq (q_region (q_x (v:=s2.v) hF hS (ex_move rfl) rfl rfl fun a hF=>q_x (v:=(iV (goLen p_l))) hF hS (ex_len Tryz.underlying34 rfl h2.len) rfl rfl fun a hF=>q_x (v:=(.bool (decide ((goLen p_l) ≤ 40)))) hF hS (ex_ibin rfl rfl rfl) rfl rfl fun a hF=>q_x (v:=(.bool (decide ((goLen p_l) ≤ 40)))) hF hS (ex_assign rfl) rfl rfl fun a hF=>q_end (n_sq (q_ret ?_))))
  obtain rfl:=someI hr
  exact ret_of hF hS rfl (.tmp rfl .nil) rfl

theorem c_spec_dInput (p_s : List impl_Variable) (p_l : List impl_Record) (r : Bool) (hr : spec_dInput p_s p_l = some r) (w0 : World) (m : Mem) (hv : Vis m w0) (s1 : Sl) (h1 : Rd m s1 p_s) (s2 : Sl) (h2 : Rd m s2 p_l) :
  Ret Tryz.prog 67 [s1.v,s2.v] w0 (fun v _=>v = (.bool r)):=by
 unfold spec_dInput at hr
 refine ret_start Tryz.func67 rfl 12 rfl rfl m hv fun a hF hS=>q_seq (q_region (q_x (v:=(.bool false)) hF hS (ex_assign rfl) rfl rfl fun a hF=>q_end (n_sq (q_seq ?_))))
 obtain ⟨t_5,hj1,hr⟩:=bindS hr
 refine q_join (fun a w=>Fr a 12 [(4,(.bool t_5))]∧St [] w0 w m []) ?_ ?_
 ·refine q_region (q_x (v:=s1.v) hF hS (ex_move rfl) rfl rfl fun a hF=>?_)
  obtain ⟨t_3,ht_3,hj1⟩:=bindS hj1
  refine q_call (vs:=[s1.v]) hF hS Tryz.func35 (by kernel_rfl) rfl rfl rfl (c_spec_sGood p_s t_3 ht_3 _ m hS.vis s1 h1) ?_
  rintro a w _ rfl hF hS
  refine q_x (v:=(.bool t_3)) hF hS (ex_move rfl) rfl rfl fun a hF=>?_
  rcases bcase (t_3) with hc2 | hc2
  ·have hj1:=cond_f hc2 hj1
   refine q_skip hF (wanted_f hF rfl rfl rfl hc2 rfl) rfl fun a hF=>q_skip hF (wanted_f hF rfl rfl rfl hc2 rfl) rfl fun a hF=>q_skip hF (wanted_f hF rfl rfl rfl hc2 rfl) rfl fun a hF=>q_x (v:=(.bool false)) hF hS (ex_pick_f rfl rfl hc2) rfl rfl fun a hF=>q_x (v:=(.bool false)) hF hS (ex_assign rfl) rfl rfl fun a hF=>q_end (n_jn ?_)
   obtain rfl:=someI hj1
   exact ⟨hF.sub ⟨rfl,trivial⟩,hS⟩
  ·have hj1:=cond_t hc2 hj1
   refine q_xg (v:=s1.v) hF hS (ex_move rfl) (wanted_t hF rfl rfl rfl hc2) rfl fun a hF=>q_xg (v:=s2.v) hF hS (ex_move rfl) (wanted_t hF rfl rfl rfl hc2) rfl fun a hF=>?_
   obtain ⟨t_4,ht_4,hj1⟩:=bindS hj1
   refine q_callg (vs:=[s1.v,s2.v]) hF hS (wanted_t hF rfl rfl rfl hc2) Tryz.func95 (by kernel_rfl) rfl rfl rfl (c_spec_dGood p_s p_l t_4 ht_4 _ m hS.vis s1 h1 s2 h2) ?_
   rintro a w _ rfl hF hS
   refine q_x (v:=(.bool t_4)) hF hS (ex_pick_t rfl rfl hc2) rfl rfl fun a hF=>q_x (v:=(.bool t_4)) hF hS (ex_assign rfl) rfl rfl fun a hF=>q_end (n_jn ?_)
   obtain rfl:=someI hj1
   exact ⟨hF.sub ⟨rfl,trivial⟩,hS⟩
 ·rintro a w ⟨hF,hS⟩
  refine n_sq (q_ret ?_)
  obtain rfl:=someI hr
  exact ret_of hF hS rfl (.tmp rfl .nil) rfl

theorem c_spec_uSurvey (p_g : impl_Geo) (p_s : List impl_Variable) (p_l : List impl_Record) (r : Bool) (hr : spec_uSurvey p_g p_s p_l = some r) (w0 : World) (m : Mem) (hv : Vis m w0) (s1 : Sl) (h1 : Rd m s1 p_g.Parents) (s2 : Sl) (h2 : Rd m s2 p_s) (s3 : Sl) (h3 : Rd m s3 p_l) :
  Ret Tryz.prog 25 [(.agg #[s1.v]),s2.v,s3.v] w0 (fun v _=>v = (.bool r)):=by
 unfold spec_uSurvey at hr
 refine ret_start Tryz.func25 rfl 33 rfl rfl m hv fun a hF hS=>q_seq (q_region (q_box (cs:=[s1.v]) hF hS rfl rfl rfl fun a w b4 hF hS=>q_x (v:=(.bool false)) hF hS (ex_assign rfl) rfl rfl fun a hF=>q_end (n_sq (q_seq (q_seq ?_)))))
 obtain ⟨t_7,hj1,hr⟩:=bindS hr
 refine q_join (fun a w=>Fr a 33 [(2,s3.v),(3,(.pointer (some ⟨b4,0,none⟩))),(18,(.bool t_7))]∧St [] w0 w m [[⟨b4,[s1.v],26⟩]]) ?_ ?_
 ·refine q_region (q_x (v:=(.agg #[s1.v])) hF hS (ex_loadA (vs:=[s1.v]) 0 0 Tryz.underlying26 rfl sz26 rfl rfl rfl rfl) rfl rfl fun a hF=>?_)
  obtain ⟨t_5,ht_5,hj1⟩:=bindS hj1
  refine q_call (vs:=[(.agg #[s1.v])]) hF hS Tryz.func34 (by kernel_rfl) rfl rfl rfl (c_spec_gGood p_g t_5 ht_5 _ m hS.vis s1 h1) ?_
  rintro a w _ rfl hF hS
  refine q_x (v:=(.bool (!t_5))) hF hS (ex_not rfl) rfl rfl fun a hF=>q_x (v:=(.bool (!t_5))) hF hS (ex_move rfl) rfl rfl fun a hF=>?_
  rcases bcase (!t_5) with hc2 | hc2
  ·have hj1:=cond_f hc2 hj1
   refine q_xg (v:=s2.v) hF hS (ex_move rfl) (wanted_t hF rfl rfl rfl hc2) rfl fun a hF=>q_xg (v:=s3.v) hF hS (ex_move rfl) (wanted_t hF rfl rfl rfl hc2) rfl fun a hF=>?_
   obtain ⟨t_6,ht_6,hj1⟩:=bindS hj1
   refine q_callg (vs:=[s2.v,s3.v]) hF hS (wanted_t hF rfl rfl rfl hc2) Tryz.func67 (by kernel_rfl) rfl rfl rfl (c_spec_dInput p_s p_l t_6 ht_6 _ m hS.vis s2 h2 s3 h3) ?_
   rintro a w _ rfl hF hS
   refine q_xg (v:=(.bool (!t_6))) hF hS (ex_not rfl) (wanted_t hF rfl rfl rfl hc2) rfl fun a hF=>q_x (v:=(.bool (!t_6))) hF hS (ex_pick_f rfl rfl hc2) rfl rfl fun a hF=>q_end (n_jn ?_)
   obtain rfl:=someI hj1
   exact ⟨hF.sub ⟨rfl,rfl,rfl,trivial⟩,hS⟩
  ·have hj1:=cond_t hc2 hj1
   refine q_skip hF (wanted_f hF rfl rfl rfl hc2 rfl) rfl fun a hF=>q_skip hF (wanted_f hF rfl rfl rfl hc2 rfl) rfl fun a hF=>q_skip hF (wanted_f hF rfl rfl rfl hc2 rfl) rfl fun a hF=>q_skip hF (wanted_f hF rfl rfl rfl hc2 rfl) rfl fun a hF=>q_x (v:=(.bool true)) hF hS (ex_pick_t rfl rfl hc2) rfl rfl fun a hF=>q_end (n_jn ?_)
   obtain rfl:=someI hj1
   exact ⟨hF.sub ⟨rfl,rfl,rfl,trivial⟩,hS⟩
 ·rintro a w ⟨hF,hS⟩
  refine n_sq ?_
  rcases bcase (t_7) with hc3 | hc3
  ·have hr:=cond_f hc3 hr
   refine q_cond_f hF rfl hc3 (q_skipc (n_sq (q_seq (q_region (q_x (v:=(.agg #[s1.v])) hF hS (ex_loadA (vs:=[s1.v]) 0 0 Tryz.underlying26 rfl sz26 rfl rfl rfl rfl) rfl rfl fun a hF=>?_)))))
   obtain ⟨t_8,ht_8,hr⟩:=bindS hr
   refine q_call (vs:=[(.agg #[s1.v])]) hF hS Tryz.func68 (by kernel_rfl) rfl rfl rfl (c_spec_gLeaves p_g t_8 ht_8 _ m hS.vis s1 h1) ?_
   rintro a w _ ⟨q10,s10,rfl,hR9,h10⟩ hF hS2
   have hS : St _ _ _ _ [q10,[⟨b4,[s1.v],26⟩]]:=hS.joinF hR9
   refine q_x (v:=s10.v) hF hS (ex_assign rfl) rfl rfl fun a hF=>q_end (n_sq (q_seq (q_seq (q_region (q_x (v:=s3.v) hF hS (ex_move rfl) rfl rfl fun a hF=>q_x (v:=(iV (goLen p_l))) hF hS (ex_len Tryz.underlying34 rfl h3.len) rfl rfl fun a hF=>q_x (v:=(iV 0)) hF hS (ex_move rfl) rfl rfl fun a hF=>q_end (n_sq (q_block ?_)))))))
   obtain ⟨o4,hl4,hr⟩:=bindS hr
   refine q_loop (fun (t_11 : Int) a w=>Fr a 33 [(7,s10.v),(21,s3.v),(22,(iV (goLen p_l))),(23,(iV t_11))]∧St [] w0 w m [q10]) (fun (o : (Unit) ⊕ (Bool)) e a w=>o = .inl ()∧e = .exit 0∧Fr a 33 []∧St [] w0 w m []) hl4 ⟨hF.sub ⟨rfl,rfl,rfl,rfl,trivial⟩,hS.mask [true,false]⟩ ?_ ?_
   ·clear hF hS
    rintro t_11 a w st ⟨hF,hS⟩ hb4
    unfold spec_uSurvey_l1 at hb4
    refine q_seq (q_region (q_x (v:=(.bool (decide (t_11 < (goLen p_l))))) hF hS (ex_ibin rfl rfl rfl) rfl rfl fun a hF=>q_end (n_sq (q_seq ?_))))
    rcases bcase (decide (t_11 < (goLen p_l))) with hc5 | hc5
    ·have hb4:=cond_f hc5 hb4
     refine q_cond_f hF rfl hc5 (q_exit (x_sq ?_))
     obtain rfl:=someI hb4
     exact ⟨nofun,.inl ⟨rfl,rfl,hF.sub trivial,hS.mask [false]⟩⟩
    ·have hb4:=cond_t hc5 hb4
     refine q_cond_t hF rfl hc5 (q_skipc (n_sq (q_seq (q_block (q_seq (q_region ?_))))))
     obtain ⟨e_12,he_12,hb4⟩:=bindS hb4
     obtain ⟨vs13,at13,d13⟩:=h3.at he_12 3 rfl
     obtain ⟨s14,rfl,h14⟩ : ∃ s14 : Sl,vs13 = [(iV e_12.Area),(iV e_12.House),s14.v]∧Rd m s14 e_12.Values:=d13
     refine q_x (v:=(elP s3 (t_11.toNat * 3))) hF hS (ex_indexAddr Tryz.underlying34 sz84 rfl rfl (h3.idx he_12)) rfl rfl fun a hF=>q_x (v:=(.agg #[(iV e_12.Area),(iV e_12.House),s14.v])) hF hS (ex_loadEA (us:=[(iV e_12.Area),(iV e_12.House),s14.v]) 0 Tryz.underlying84 rfl sz84 rfl ((at13).at) rfl rfl rfl) rfl rfl fun a hF=>q_alloc (cs:=[(iV 0),(iV 0),nilS.v]) hF hS rfl rfl rfl fun a w b15 hF hS=>q_store (vs:=[(iV e_12.Area),(iV e_12.House),s14.v]) (cs':=[(iV e_12.Area),(iV e_12.House),s14.v]) 0 0 hF hS sz84 rfl rfl rfl rfl rfl rfl rfl rfl fun a w hF hS=>q_end (n_sq (q_seq (q_region (q_x (v:=s10.v) hF hS (ex_move rfl) rfl rfl fun a hF=>q_x (v:=(.pointer (some ⟨b15,0,none⟩))) hF hS (ex_fieldAddr Tryz.underlying84 rfl sz3 rfl rfl) rfl rfl fun a hF=>q_x (v:=(iV e_12.Area)) hF hS (ex_load1 0 0 Tryz.underlying3 rfl rfl rfl rfl) rfl rfl fun a hF=>?_))))
     obtain ⟨m17,hl17,hv17,hz17⟩:=hS.lend
     obtain ⟨t_16,ht_16,hb4⟩:=bindS hb4
     refine q_call (vs:=[s10.v,(iV e_12.Area)]) hF hS Tryz.func66 (by kernel_rfl) rfl rfl rfl (c_spec_l1Has t_8 e_12.Area t_16 ht_16 _ m17 hv17 s10 (h10.froz hl17 (hz17 1 _ rfl))) ?_
     rintro a w _ rfl hF hS
     refine q_x (v:=(.bool (!t_16))) hF hS (ex_not rfl) rfl rfl fun a hF=>q_end (n_sq ?_)
     rcases bcase (!t_16) with hc6 | hc6
     ·have hb4:=cond_f hc6 hb4
      refine q_cond_f hF rfl hc6 (q_skipc (n_ib (n_sq (q_region (q_x (v:=(iV (w64 (t_11 + 1)))) hF hS (ex_ibin rfl rfl rfl) rfl rfl fun a hF=>q_x (v:=(iV (w64 (t_11 + 1)))) hF hS (ex_move rfl) rfl rfl fun a hF=>q_end ?_)))))
      obtain rfl:=someI hb4
      exact ⟨rfl,hF.sub ⟨rfl,rfl,rfl,rfl,trivial⟩,hS.mask [false,true]⟩
     ·have hb4:=cond_t hc6 hb4
      refine q_cond_t hF rfl hc6 (q_seq (q_region (q_x (v:=(.bool false)) hF hS (ex_assign rfl) rfl rfl fun a hF=>q_end (n_sq (q_ret (r_ib (r_sq ?_)))))))
      obtain rfl:=someI hb4
      refine ⟨nofun,.inr fun ho=>?_⟩
      subst ho
      refine r_ib (r_sq ?_)
      obtain rfl:=someI hr
      exact ret_of hF hS rfl (.tmp rfl .nil) rfl
   ·rintro e a w ⟨rfl,rfl,hF,hS⟩
    refine x_ib (n_sq ?_)
    refine q_seq (q_region (q_x (v:=(.bool true)) hF hS (ex_assign rfl) rfl rfl fun a hF=>q_end (n_sq (q_ret ?_))))
    obtain rfl:=someI hr
    exact ret_of hF hS rfl (.tmp rfl .nil) rfl
  ·have hr:=cond_t hc3 hr
   refine q_cond_t hF rfl hc3 (q_seq (q_region (q_x (v:=(.bool false)) hF hS (ex_assign rfl) rfl rfl fun a hF=>q_end (n_sq (q_ret (r_sq ?_))))))
   obtain rfl:=someI hr
   exact ret_of hF hS rfl (.tmp rfl .nil) rfl

theorem c_spec_uMeets (p_t : impl_Table) (p_values : List Int) (r : Bool) (hr : spec_uMeets p_t p_values = some r) (w0 : World) (m : Mem) (hv : Vis m w0) (s1 : Sl) (h1 : Rd m s1 p_t.Vars) (s2 : Sl) (h2 : Rd m s2 p_t.Where) (s3 : Sl) (h3 : Rd m s3 p_values) :
  Ret Tryz.prog 97 [(.agg #[(iV p_t.Level),s1.v,s2.v,(iV p_t.Sum)]),s3.v] w0 (fun v _=>v = (.bool r)):=by
 unfold spec_uMeets at hr
 refine ret_start Tryz.func97 rfl 29 rfl rfl m hv fun a hF hS=>q_seq (q_region (q_box (cs:=[(iV p_t.Level),s1.v,s2.v,(iV p_t.Sum)]) hF hS rfl rfl rfl fun a w b4 hF hS=>q_x (v:=(.bool false)) hF hS (ex_assign rfl) rfl rfl fun a hF=>q_end (n_sq (q_seq (q_seq (q_region (q_x (v:=(.pointer (some ⟨b4,2,none⟩))) hF hS (ex_fieldAddr Tryz.underlying29 rfl sz24 rfl rfl) rfl rfl fun a hF=>q_x (v:=s2.v) hF hS (ex_load1 0 0 Tryz.underlying24 rfl rfl rfl rfl) rfl rfl fun a hF=>q_x (v:=(iV (goLen p_t.Where))) hF hS (ex_len Tryz.underlying24 rfl h2.len) rfl rfl fun a hF=>q_x (v:=(iV 0)) hF hS (ex_move rfl) rfl rfl fun a hF=>q_end (n_sq (q_block ?_)))))))))
 obtain ⟨o1,hl1,hr⟩:=bindS hr
 refine q_loop (fun (t_5 : Int) a w=>Fr a 29 [(1,s3.v),(8,s2.v),(9,(iV (goLen p_t.Where))),(10,(iV t_5))]∧St [] w0 w m []) (fun (o : (Unit) ⊕ (Bool)) e a w=>o = .inl ()∧e = .exit 0∧Fr a 29 []∧St [] w0 w m []) hl1 ⟨hF.sub ⟨rfl,rfl,rfl,rfl,trivial⟩,hS.mask [false]⟩ ?_ ?_
 ·clear hF hS
  rintro t_5 a w st ⟨hF,hS⟩ hb1
  unfold spec_uMeets_l1 at hb1
  refine q_seq (q_region (q_x (v:=(.bool (decide (t_5 < (goLen p_t.Where))))) hF hS (ex_ibin rfl rfl rfl) rfl rfl fun a hF=>q_end (n_sq (q_seq ?_))))
  rcases bcase (decide (t_5 < (goLen p_t.Where))) with hc2 | hc2
  ·have hb1:=cond_f hc2 hb1
   refine q_cond_f hF rfl hc2 (q_exit (x_sq ?_))
   obtain rfl:=someI hb1
   exact ⟨nofun,.inl ⟨rfl,rfl,hF.sub trivial,hS⟩⟩
  ·have hb1:=cond_t hc2 hb1
   refine q_cond_t hF rfl hc2 (q_skipc (n_sq (q_seq (q_block (q_seq (q_region (q_x (v:=(iV t_5)) hF hS (ex_move rfl) rfl rfl fun a hF=>?_)))))))
   obtain ⟨e_6,he_6,hb1⟩:=bindS hb1
   obtain ⟨vs7,at7,d7⟩:=h2.at he_6 1 rfl
   obtain rfl : vs7 = [(iV e_6)]:=d7
   refine q_x (v:=(elP s2 (t_5.toNat * 1))) hF hS (ex_indexAddr Tryz.underlying24 sz3 rfl rfl (h2.idx he_6)) rfl rfl fun a hF=>q_x (v:=(iV e_6)) hF hS (ex_loadE1 0 Tryz.underlying3 rfl rfl ((at7).at) rfl rfl) rfl rfl fun a hF=>q_x (v:=(iV t_5)) hF hS (ex_assign rfl) rfl rfl fun a hF=>q_x (v:=(iV e_6)) hF hS (ex_assign rfl) rfl rfl fun a hF=>q_end (n_sq (q_seq ?_))
   obtain ⟨t_11,hj3,hb1⟩:=bindS hb1
   refine q_join (fun a w=>Fr a 29 [(1,s3.v),(8,s2.v),(9,(iV (goLen p_t.Where))),(10,(iV t_5)),(27,(.bool t_11))]∧St [] w0 w m []) ?_ ?_
   ·refine q_region (q_x (v:=(iV e_6)) hF hS (ex_move rfl) rfl rfl fun a hF=>q_x (v:=(.bool (e_6 != 0))) hF hS (ex_ibin rfl rfl rfl) rfl rfl fun a hF=>q_x (v:=(.bool (e_6 != 0))) hF hS (ex_move rfl) rfl rfl fun a hF=>?_)
    rcases bcase (e_6 != 0) with hc4 | hc4
    ·have hj3:=cond_f hc4 hj3
     refine q_skip hF (wanted_f hF rfl rfl rfl hc4 rfl) rfl fun a hF=>q_skip hF (wanted_f hF rfl rfl rfl hc4 rfl) rfl fun a hF=>q_skip hF (wanted_f hF rfl rfl rfl hc4 rfl) rfl fun a hF=>q_skip hF (wanted_f hF rfl rfl rfl hc4 rfl) rfl fun a hF=>q_skip hF (wanted_f hF rfl rfl rfl hc4 rfl) rfl fun a hF=>q_skip hF (wanted_f hF rfl rfl rfl hc4 rfl) rfl fun a hF=>q_skip hF (wanted_f hF rfl rfl rfl hc4 rfl) rfl fun a hF=>q_skip hF (wanted_f hF rfl rfl rfl hc4 rfl) rfl fun a hF=>q_skip hF (wanted_f hF rfl rfl rfl hc4 rfl) rfl fun a hF=>q_x (v:=(.bool false)) hF hS (ex_pick_f rfl rfl hc4) rfl rfl fun a hF=>q_end (n_jn ?_)
     obtain rfl:=someI hj3
     exact ⟨hF.sub ⟨rfl,rfl,rfl,rfl,rfl,trivial⟩,hS⟩
    ·have hj3:=cond_t hc4 hj3
     refine q_xg (v:=(iV e_6)) hF hS (ex_move rfl) (wanted_t hF rfl rfl rfl hc4) rfl fun a hF=>q_xg (v:=s3.v) hF hS (ex_move rfl) (wanted_t hF rfl rfl rfl hc4) rfl fun a hF=>q_xg (v:=(iV t_5)) hF hS (ex_move rfl) (wanted_t hF rfl rfl rfl hc4) rfl fun a hF=>?_
     obtain ⟨e_8,he_8,hj3⟩:=bindS hj3
     obtain ⟨vs9,at9,d9⟩:=h3.at he_8 1 rfl
     obtain rfl : vs9 = [(iV e_8)]:=d9
     refine q_xg (v:=(elP s3 (t_5.toNat * 1))) hF hS (ex_indexAddr Tryz.underlying24 sz3 rfl rfl (h3.idx he_8)) (wanted_t hF rfl rfl rfl hc4) rfl fun a hF=>q_xg (v:=(iV e_8)) hF hS (ex_loadE1 0 Tryz.underlying3 rfl rfl ((at9).at) rfl rfl) (wanted_t hF rfl rfl rfl hc4) rfl fun a hF=>q_xg (v:=(.int .u64 (IntKind.wrap .u64 e_8))) hF hS (ex_conv Tryz.underlying3 Tryz.underlying72 rfl) (wanted_t hF rfl rfl rfl hc4) rfl fun a hF=>?_
     obtain ⟨t_10,ht_10,hj3⟩:=bindS hj3
     refine q_xg (v:=(iV t_10)) hF hS (ex_shr rfl rfl ht_10) (wanted_t hF rfl rfl rfl hc4) rfl fun a hF=>q_xg (v:=(iV (goBits .and .i64 t_10 1))) hF hS (ex_bits rfl rfl rfl) (wanted_t hF rfl rfl rfl hc4) rfl fun a hF=>q_xg (v:=(.bool ((goBits .and .i64 t_10 1) == 0))) hF hS (ex_ibin rfl rfl rfl) (wanted_t hF rfl rfl rfl hc4) rfl fun a hF=>q_x (v:=(.bool ((goBits .and .i64 t_10 1) == 0))) hF hS (ex_pick_t rfl rfl hc4) rfl rfl fun a hF=>q_end (n_jn ?_)
     obtain rfl:=someI hj3
     exact ⟨hF.sub ⟨rfl,rfl,rfl,rfl,rfl,trivial⟩,hS⟩
   ·rintro a w ⟨hF,hS⟩
    refine n_sq ?_
    rcases bcase (t_11) with hc5 | hc5
    ·have hb1:=cond_f hc5 hb1
     refine q_cond_f hF rfl hc5 (q_skipc (n_ib (n_sq (q_region (q_x (v:=(iV (w64 (t_5 + 1)))) hF hS (ex_ibin rfl rfl rfl) rfl rfl fun a hF=>q_x (v:=(iV (w64 (t_5 + 1)))) hF hS (ex_move rfl) rfl rfl fun a hF=>q_end ?_)))))
     obtain rfl:=someI hb1
     exact ⟨rfl,hF.sub ⟨rfl,rfl,rfl,rfl,trivial⟩,hS⟩
    ·have hb1:=cond_t hc5 hb1
     refine q_cond_t hF rfl hc5 (q_seq (q_region (q_x (v:=(.bool false)) hF hS (ex_assign rfl) rfl rfl fun a hF=>q_end (n_sq (q_ret (r_ib (r_sq ?_)))))))
     obtain rfl:=someI hb1
     refine ⟨nofun,.inr fun ho=>?_⟩
     subst ho
     refine r_ib (r_sq ?_)
     obtain rfl:=someI hr
     exact ret_of hF hS rfl (.tmp rfl .nil) rfl
 ·rintro e a w ⟨rfl,rfl,hF,hS⟩
  refine x_ib (n_sq ?_)
  refine q_seq (q_region (q_x (v:=(.bool true)) hF hS (ex_assign rfl) rfl rfl fun a hF=>q_end (n_sq (q_ret ?_))))
  obtain rfl:=someI hr
  exact ret_of hF hS rfl (.tmp rfl .nil) rfl

theorem c_spec_l1Find (p_l : List Int) (p_n : Int) (r : Int) (hr : spec_l1Find p_l p_n = some r) (w0 : World) (m : Mem) (hv : Vis m w0) (s1 : Sl) (h1 : Rd m s1 p_l) :
  Ret Tryz.prog 43 [s1.v,(iV p_n)] w0 (fun v _=>v = (iV r)):=by
 unfold spec_l1Find at hr
 refine ret_start Tryz.func43 rfl 19 rfl rfl m hv fun a hF hS=>q_seq (q_region (q_x (v:=(iV 0)) hF hS (ex_assign rfl) rfl rfl fun a hF=>q_end (n_sq (q_seq (q_seq (q_region (q_x (v:=s1.v) hF hS (ex_move rfl) rfl rfl fun a hF=>q_x (v:=(iV (goLen p_l))) hF hS (ex_len Tryz.underlying24 rfl h1.len) rfl rfl fun a hF=>q_x (v:=(iV 0)) hF hS (ex_move rfl) rfl rfl fun a hF=>q_end (n_sq (q_block ?_)))))))))
 obtain ⟨o1,hl1,hr⟩:=bindS hr
 refine q_loop (fun (t_2 : Int) a w=>Fr a 19 [(1,(iV p_n)),(7,s1.v),(8,(iV (goLen p_l))),(9,(iV t_2))]∧St [] w0 w m []) (fun (o : (Unit) ⊕ (Int)) e a w=>o = .inl ()∧e = .exit 0∧Fr a 19 []∧St [] w0 w m []) hl1 ⟨hF.sub ⟨rfl,rfl,rfl,rfl,trivial⟩,hS⟩ ?_ ?_
 ·clear hF hS
  rintro t_2 a w st ⟨hF,hS⟩ hb1
  unfold spec_l1Find_l1 at hb1
  refine q_seq (q_region (q_x (v:=(.bool (decide (t_2 < (goLen p_l))))) hF hS (ex_ibin rfl rfl rfl) rfl rfl fun a hF=>q_end (n_sq (q_seq ?_))))
  rcases bcase (decide (t_2 < (goLen p_l))) with hc2 | hc2
  ·have hb1:=cond_f hc2 hb1
   refine q_cond_f hF rfl hc2 (q_exit (x_sq ?_))
   obtain rfl:=someI hb1
   exact ⟨nofun,.inl ⟨rfl,rfl,hF.sub trivial,hS⟩⟩
  ·have hb1:=cond_t hc2 hb1
   refine q_cond_t hF rfl hc2 (q_skipc (n_sq (q_seq (q_block (q_seq (q_region (q_x (v:=(iV t_2)) hF hS (ex_move rfl) rfl rfl fun a hF=>?_)))))))
   obtain ⟨e_3,he_3,hb1⟩:=bindS hb1
   obtain ⟨vs4,at4,d4⟩:=h1.at he_3 1 rfl
   obtain rfl : vs4 = [(iV e_3)]:=d4
   refine q_x (v:=(elP s1 (t_2.toNat * 1))) hF hS (ex_indexAddr Tryz.underlying24 sz3 rfl rfl (h1.idx he_3)) rfl rfl fun a hF=>q_x (v:=(iV e_3)) hF hS (ex_loadE1 0 Tryz.underlying3 rfl rfl ((at4).at) rfl rfl) rfl rfl fun a hF=>q_x (v:=(iV t_2)) hF hS (ex_assign rfl) rfl rfl fun a hF=>q_x (v:=(iV e_3)) hF hS (ex_assign rfl) rfl rfl fun a hF=>q_end (n_sq (q_seq (q_region (q_x (v:=(iV e_3)) hF hS (ex_move rfl) rfl rfl fun a hF=>q_x (v:=(iV p_n)) hF hS (ex_move rfl) rfl rfl fun a hF=>q_x (v:=(.bool (e_3 == p_n))) hF hS (ex_ibin rfl rfl rfl) rfl rfl fun a hF=>q_end (n_sq ?_)))))
   rcases bcase (e_3 == p_n) with hc3 | hc3
   ·have hb1:=cond_f hc3 hb1
    refine q_cond_f hF rfl hc3 (q_skipc (n_ib (n_sq (q_region (q_x (v:=(iV (w64 (t_2 + 1)))) hF hS (ex_ibin rfl rfl rfl) rfl rfl fun a hF=>q_x (v:=(iV (w64 (t_2 + 1)))) hF hS (ex_move rfl) rfl rfl fun a hF=>q_end ?_)))))
    obtain rfl:=someI hb1
    exact ⟨rfl,hF.sub ⟨rfl,rfl,rfl,rfl,trivial⟩,hS⟩
   ·have hb1:=cond_t hc3 hb1
    refine q_cond_t hF rfl hc3 (q_seq (q_region (q_x (v:=(iV t_2)) hF hS (ex_move rfl) rfl rfl fun a hF=>q_x (v:=(iV t_2)) hF hS (ex_assign rfl) rfl rfl fun a hF=>q_end (n_sq (q_ret (r_ib (r_sq ?_)))))))
    obtain rfl:=someI hb1
    refine ⟨nofun,.inr fun ho=>?_⟩
    subst ho
    refine r_ib (r_sq ?_)
    obtain rfl:=someI hr
    exact ret_of hF hS rfl (.tmp rfl .nil) rfl
 ·rintro e a w ⟨rfl,rfl,hF,hS⟩
  refine x_ib (n_sq ?_)
  refine q_seq (q_region (q_x (v:=(iV (-1))) hF hS (ex_assign rfl) rfl rfl fun a hF=>q_end (n_sq (q_ret ?_))))
  obtain rfl:=someI hr
  exact ret_of hF hS rfl (.tmp rfl .nil) rfl

theorem c_spec_sPick (p_values : List Int) (p_vars : List Int) (r : (List Int)) (hr : spec_sPick p_values p_vars = some r) (w0 : World) (m : Mem) (hv : Vis m w0) (s1 : Sl) (h1 : Rd m s1 p_values) (s2 : Sl) (h2 : Rd m s2 p_vars) :
  Ret Tryz.prog 47 [s1.v,s2.v] w0 (fun v w=>∃ (q0' : Piece) (s0' : Sl),v = s0'.v∧St [] w0 w m [q0']∧OwnL m 3 q0' s0' r):=by
 unfold spec_sPick at hr
 refine ret_start Tryz.func47 rfl 23 rfl rfl m hv fun a hF hS=>q_seq (q_region (q_x (v:=nilS.v) hF hS (ex_assign rfl) rfl rfl fun a hF=>q_end (n_sq (q_seq (q_region (q_x (v:=nilS.v) hF hS (ex_assign rfl) rfl rfl fun a hF=>q_end (n_sq (q_seq (q_seq (q_region (q_x (v:=s2.v) hF hS (ex_move rfl) rfl rfl fun a hF=>q_x (v:=(iV (goLen p_vars))) hF hS (ex_len Tryz.underlying24 rfl h2.len) rfl rfl fun a hF=>q_x (v:=(iV 0)) hF hS (ex_move rfl) rfl rfl fun a hF=>q_end (n_sq (q_block ?_)))))))))))))
 obtain ⟨out_13,hl1,hr⟩:=bindS hr
 refine q_loop (fun (s : (List Int) × Int) a w=>∃ (q4 : Piece),∃ (s4 : Sl),∃ out_3,∃ t_5,s = (out_3,t_5)∧Fr a 23 [(0,s1.v),(5,s4.v),(8,s2.v),(9,(iV (goLen p_vars))),(10,(iV t_5))]∧St [] w0 w m [q4]∧OwnL m 3 q4 s4 out_3) (fun (out_13 : (List Int)) e a w=>∃ (q14 : Piece),∃ (s14 : Sl),e = .exit 0∧Fr a 23 [(5,s14.v)]∧St [] w0 w m [q14]∧OwnL m 3 q14 s14 out_13) hl1 ⟨[],nilS,_,_,rfl,hF.sub ⟨rfl,rfl,rfl,rfl,rfl,trivial⟩,hS.sel [0] (by decide),(OwnL.nil (α:=Int) m 3)⟩ ?_ ?_
 ·clear hF hS
  rintro s a w st ⟨q4,s4,out_3,t_5,rfl,hF,hS,h4⟩ hb1
  unfold spec_sPick_l1 at hb1
  refine q_seq (q_region (q_x (v:=(.bool (decide (t_5 < (goLen p_vars))))) hF hS (ex_ibin rfl rfl rfl) rfl rfl fun a hF=>q_end (n_sq (q_seq ?_))))
  rcases bcase (decide (t_5 < (goLen p_vars))) with hc2 | hc2
  ·have hb1:=cond_f hc2 hb1
   refine q_cond_f hF rfl hc2 (q_exit (x_sq ?_))
   obtain rfl:=someI hb1
   exact ⟨nofun,.inl ⟨q4,s4,rfl,hF.sub ⟨rfl,trivial⟩,hS,h4⟩⟩
  ·have hb1:=cond_t hc2 hb1
   refine q_cond_t hF rfl hc2 (q_skipc (n_sq (q_seq (q_block (q_seq (q_region ?_))))))
   obtain ⟨e_6,he_6,hb1⟩:=bindS hb1
   obtain ⟨vs7,at7,d7⟩:=h2.at he_6 1 rfl
   obtain rfl : vs7 = [(iV e_6)]:=d7
   refine q_x (v:=(elP s2 (t_5.toNat * 1))) hF hS (ex_indexAddr Tryz.underlying24 sz3 rfl rfl (h2.idx he_6)) rfl rfl fun a hF=>q_x (v:=(iV e_6)) hF hS (ex_loadE1 0 Tryz.underlying3 rfl rfl ((at7).at) rfl rfl) rfl rfl fun a hF=>q_x (v:=(iV e_6)) hF hS (ex_assign rfl) rfl rfl fun a hF=>q_end (n_sq (q_region (q_x (v:=s4.v) hF hS (ex_move rfl) rfl rfl fun a hF=>q_x (v:=s1.v) hF hS (ex_move rfl) rfl rfl fun a hF=>q_x (v:=(iV e_6)) hF hS (ex_move rfl) rfl rfl fun a hF=>?_)))
   obtain ⟨e_8,he_8,hb1⟩:=bindS hb1
   obtain ⟨vs9,at9,d9⟩:=h1.at he_8 1 rfl
   obtain rfl : vs9 = [(iV e_8)]:=d9
   refine q_x (v:=(elP s1 (e_6.toNat * 1))) hF hS (ex_indexAddr Tryz.underlying24 sz3 rfl rfl (h1.idx he_8)) rfl rfl fun a hF=>q_x (v:=(iV e_8)) hF hS (ex_loadE1 0 Tryz.underlying3 rfl rfl ((at9).at) rfl rfl) rfl rfl fun a hF=>q_do rfl fun _ hK=>wp_buildSlice' (l:=([e_8] : List Int)) (cells:=[(iV e_8)]) hF hS Tryz.underlying24 inf3 rfl rfl (by kernel_rfl) rfl rfl rfl ⟨rfl,rfl⟩ rfl rfl fun a w q10 s10 hF hS h10 _=>hK _ _ ?_
   have hS : St _ _ _ _ [q4,q10]:=hS.sel [1,0] (by decide)
   obtain ⟨l_11,hl_11,hb1⟩:=bindS hb1
   refine q_do rfl fun _ hK=>wp_append hF hS h4 Tryz.underlying24 inf3 rfl rfl rfl rfl (h10.vw hS (j:=1) rfl) rfl (by decide) hl_11 rfl fun a w q12 s12 hF hS h12=>hK _ _ (q_x (v:=s12.v) hF hS (ex_assign rfl) rfl rfl fun a hF=>q_end (n_ib (n_sq (q_region (q_x (v:=(iV (w64 (t_5 + 1)))) hF hS (ex_ibin rfl rfl rfl) rfl rfl fun a hF=>q_x (v:=(iV (w64 (t_5 + 1)))) hF hS (ex_move rfl) rfl rfl fun a hF=>q_end ?_)))))
   obtain rfl:=someI hb1
   exact ⟨rfl,q12,s12,_,_,rfl,hF.sub ⟨rfl,rfl,rfl,rfl,rfl,trivial⟩,hS.mask [true,false],h12⟩
 ·rintro e a w ⟨q14,s14,rfl,hF,hS,h14⟩
  refine x_ib (n_sq ?_)
  refine q_seq (q_region (q_x (v:=s14.v) hF hS (ex_move rfl) rfl rfl fun a hF=>q_x (v:=s14.v) hF hS (ex_assign rfl) rfl rfl fun a hF=>q_end (n_sq (q_ret ?_))))
  obtain rfl:=someI hr
  exact ret_of hF hS rfl (.tmp rfl .nil) ⟨q14,s14,rfl,hS.sel [0] (by decide),h14⟩

theorem c_spec_sIndex (p_s : List impl_Variable) (p_values : List Int) (r : Int) (hr : spec_sIndex p_s p_values = some r) (w0 : World) (m : Mem) (hv : Vis m w0) (s1 : Sl) (h1 : Rd m s1 p_s) (s2 : Sl) (h2 : Rd m s2 p_values) :
  Ret Tryz.prog 46 [s1.v,s2.v] w0 (fun v _=>v = (iV r)):=by
 unfold spec_sIndex at hr
 refine ret_start Tryz.func46 rfl 26 rfl rfl m hv fun a hF hS=>q_seq (q_region (q_x (v:=(iV 0)) hF hS (ex_assign rfl) rfl rfl fun a hF=>q_end (n_sq (q_seq (q_region (q_x (v:=(iV 0)) hF hS (ex_assign rfl) rfl rfl fun a hF=>q_end (n_sq (q_seq (q_seq (q_region (q_x (v:=s1.v) hF hS (ex_move rfl) rfl rfl fun a hF=>q_x (v:=(iV (goLen p_s))) hF hS (ex_len Tryz.underlying27 rfl h1.len) rfl rfl fun a hF=>q_x (v:=(iV 0)) hF hS (ex_move rfl) rfl rfl fun a hF=>q_end (n_sq (q_block ?_)))))))))))))
 obtain ⟨n_10,hl1,hr⟩:=bindS hr
 refine q_loop (fun (s : Int × Int) a w=>∃ n_3,∃ t_4,s = (n_3,t_4)∧Fr a 26 [(1,s2.v),(5,(iV n_3)),(8,s1.v),(9,(iV (goLen p_s))),(10,(iV t_4))]∧St [] w0 w m []) (fun (n_10 : Int) e a w=>e = .exit 0∧Fr a 26 [(5,(iV n_10))]∧St [] w0 w m []) hl1 ⟨_,_,rfl,hF.sub ⟨rfl,rfl,rfl,rfl,rfl,trivial⟩,hS⟩ ?_ ?_
 ·clear hF hS
  rintro s a w st ⟨n_3,t_4,rfl,hF,hS⟩ hb1
  unfold spec_sIndex_l1 at hb1
  refine q_seq (q_region (q_x (v:=(.bool (decide (t_4 < (goLen p_s))))) hF hS (ex_ibin rfl rfl rfl) rfl rfl fun a hF=>q_end (n_sq (q_seq ?_))))
  rcases bcase (decide (t_4 < (goLen p_s))) with hc2 | hc2
  ·have hb1:=cond_f hc2 hb1
   refine q_cond_f hF rfl hc2 (q_exit (x_sq ?_))
   obtain rfl:=someI hb1
   exact ⟨nofun,.inl ⟨rfl,hF.sub ⟨rfl,trivial⟩,hS⟩⟩
  ·have hb1:=cond_t hc2 hb1
   refine q_cond_t hF rfl hc2 (q_skipc (n_sq (q_seq (q_block (q_seq (q_region (q_x (v:=(iV t_4)) hF hS (ex_move rfl) rfl rfl fun a hF=>?_)))))))
   obtain ⟨e_5,he_5,hb1⟩:=bindS hb1
   obtain ⟨vs6,at6,d6⟩:=h1.at he_5 2 rfl
   obtain rfl : vs6 = [(strV e_5.Name),(iV e_5.Levels)]:=d6
   refine q_x (v:=(elP s1 (t_4.toNat * 2))) hF hS (ex_indexAddr Tryz.underlying27 sz88 rfl rfl (h1.idx he_5)) rfl rfl fun a hF=>q_x (v:=(.agg #[(strV e_5.Name),(iV e_5.Levels)])) hF hS (ex_loadEA (us:=[(strV e_5.Name),(iV e_5.Levels)]) 0 Tryz.underlying88 rfl sz88 rfl ((at6).at) rfl rfl rfl) rfl rfl fun a hF=>q_alloc (cs:=[(strV ([] : List UInt8)),(iV 0)]) hF hS rfl rfl rfl fun a w b7 hF hS=>q_x (v:=(iV t_4)) hF hS (ex_assign rfl) rfl rfl fun a hF=>q_store (vs:=[(strV e_5.Name),(iV e_5.Levels)]) (cs':=[(strV e_5.Name),(iV e_5.Levels)]) 0 0 hF hS sz88 rfl rfl rfl rfl rfl rfl rfl rfl fun a w hF hS=>q_end (n_sq (e_region ⟨[],[]⟩ mixed fun w' hw'=>?_))
   have hS:=hS.below hw'
   refine e_p (v:=(iV n_3)) 0 hF rfl (ex_move rfl) rfl rfl (by kernel_rfl) (by kernel_rfl) (by kernel_rfl) fun a hF=>e_p (v:=(.pointer (some ⟨b7,1,none⟩))) 1 hF rfl (ex_fieldAddr Tryz.underlying88 rfl sz3 rfl rfl) rfl rfl (by kernel_rfl) (by kernel_rfl) (by kernel_rfl) fun a hF=>e_x (v:=(iV e_5.Levels)) 2 hF hS rfl (ex_load1 0 0 Tryz.underlying3 rfl rfl rfl rfl) rfl rfl (by kernel_rfl) (by kernel_rfl) (by kernel_rfl) (by kernel_rfl) fun a hF=>e_p (v:=(iV (w64 (n_3 * e_5.Levels)))) 3 hF rfl (ex_ibin rfl rfl rfl) rfl rfl (by kernel_rfl) (by kernel_rfl) (by kernel_rfl) fun a hF=>e_p (v:=s2.v) 4 hF rfl (ex_move rfl) rfl rfl (by kernel_rfl) (by kernel_rfl) (by kernel_rfl) fun a hF=>e_p (v:=(iV t_4)) 5 hF rfl (ex_move rfl) rfl rfl (by kernel_rfl) (by kernel_rfl) (by kernel_rfl) fun a hF=>?_
   obtain ⟨e_8,he_8,hb1⟩:=bindS hb1
   obtain ⟨vs9,at9,d9⟩:=h2.at he_8 1 rfl
   obtain rfl : vs9 = [(iV e_8)]:=d9
   refine e_p (v:=(elP s2 (t_4.toNat * 1))) 6 hF rfl (ex_indexAddr Tryz.underlying24 sz3 rfl rfl (h2.idx he_8)) rfl rfl (by kernel_rfl) (by kernel_rfl) (by kernel_rfl) fun a hF=>e_x (v:=(iV e_8)) 7 hF hS rfl (ex_loadE1 0 Tryz.underlying3 rfl rfl ((at9).at) rfl rfl) rfl rfl (by kernel_rfl) (by kernel_rfl) (by kernel_rfl) (by kernel_rfl) fun a hF=>e_p (v:=(iV (w64 ((w64 (n_3 * e_5.Levels)) + e_8)))) 8 hF rfl (ex_ibin rfl rfl rfl) rfl rfl (by kernel_rfl) (by kernel_rfl) (by kernel_rfl) fun a hF=>e_p (v:=(iV (w64 ((w64 (n_3 * e_5.Levels)) + e_8)))) 9 hF rfl (ex_assign rfl) rfl rfl (by kernel_rfl) (by kernel_rfl) (by kernel_rfl) fun a hF=>e_end (by kernel_rfl) (n_ib (n_sq ?_)) _
   refine q_region (q_x (v:=(iV (w64 (t_4 + 1)))) hF hS (ex_ibin rfl rfl rfl) rfl rfl fun a hF=>q_x (v:=(iV (w64 (t_4 + 1)))) hF hS (ex_move rfl) rfl rfl fun a hF=>q_end ?_)
   obtain rfl:=someI hb1
   exact ⟨rfl,_,_,rfl,hF.sub ⟨rfl,rfl,rfl,rfl,rfl,trivial⟩,hS.mask [false]⟩
 ·rintro e a w ⟨rfl,hF,hS⟩
  refine x_ib (n_sq ?_)
  refine q_seq (q_region (q_x (v:=(iV n_10)) hF hS (ex_move rfl) rfl rfl fun a hF=>q_x (v:=(iV n_10)) hF hS (ex_assign rfl) rfl rfl fun a hF=>q_end (n_sq (q_ret ?_))))
  obtain rfl:=someI hr
  exact ret_of hF hS rfl (.tmp rfl .nil) rfl

theorem c_spec_uCell (p_g : impl_Geo) (p_s : List impl_Variable) (p_t : impl_Table) (p_r : impl_Record) (r : Int × Int) (hr : spec_uCell p_g p_s p_t p_r = some r) (w0 : World) (m : Mem) (hv : Vis m w0) (s1 : Sl) (h1 : Rd m s1 p_g.Parents) (s2 : Sl) (h2 : Rd m s2 p_s) (s3 : Sl) (h3 : Rd m s3 p_t.Vars) (s4 : Sl) (h4 : Rd m s4 p_t.Where) (s5 : Sl) (h5 : Rd m s5 p_r.Values) :
  Ret Tryz.prog 69 [(.agg #[s1.v]),s2.v,(.agg #[(iV p_t.Level),s3.v,s4.v,(iV p_t.Sum)]),(.agg #[(iV p_r.Area),(iV p_r.House),s5.v])] w0 (fun v _=>v = (.tuple #[(iV r.1),(iV r.2)])):=by
 unfold spec_uCell at hr
 refine ret_start Tryz.func69 rfl 60 rfl rfl m hv fun a hF hS=>q_seq (q_region (q_box (cs:=[s1.v]) hF hS rfl rfl rfl fun a w b6 hF hS=>q_box (cs:=[(iV p_t.Level),s3.v,s4.v,(iV p_t.Sum)]) hF hS rfl rfl rfl fun a w b7 hF hS=>q_box (cs:=[(iV p_r.Area),(iV p_r.House),s5.v]) hF hS rfl rfl rfl fun a w b8 hF hS=>q_x (v:=(iV 0)) hF hS (ex_assign rfl) rfl rfl fun a hF=>q_x (v:=(iV 0)) hF hS (ex_assign rfl) rfl rfl fun a hF=>q_end (n_sq (q_seq (q_region (q_x (v:=(.agg #[s1.v])) hF hS (ex_loadA (vs:=[s1.v]) 2 0 Tryz.underlying26 rfl sz26 rfl rfl rfl rfl) rfl rfl fun a hF=>q_x (v:=(.pointer (some ⟨b8,0,none⟩))) hF hS (ex_fieldAddr Tryz.underlying84 rfl sz3 rfl rfl) rfl rfl fun a hF=>q_x (v:=(iV p_r.Area)) hF hS (ex_load1 0 0 Tryz.underlying3 rfl rfl rfl rfl) rfl rfl fun a hF=>q_x (v:=(.pointer (some ⟨b7,0,none⟩))) hF hS (ex_fieldAddr Tryz.underlying29 rfl sz3 rfl rfl) rfl rfl fun a hF=>q_x (v:=(iV p_t.Level)) hF hS (ex_load1 1 0 Tryz.underlying3 rfl rfl rfl rfl) rfl rfl fun a hF=>?_))))))
 obtain ⟨t_9,ht_9,hr⟩:=bindS hr
 refine q_call (vs:=[(.agg #[s1.v]),(iV p_r.Area),(iV p_t.Level)]) hF hS Tryz.func44 (by kernel_rfl) rfl rfl rfl (c_spec_gUp p_g p_r.Area p_t.Level t_9 ht_9 _ m hS.vis s1 h1) ?_
 rintro a w _ rfl hF hS
 refine q_x (v:=(iV t_9)) hF hS (ex_assign rfl) rfl rfl fun a hF=>q_end (n_sq (q_seq (q_seq ?_)))
 obtain ⟨t_11,hj1,hr⟩:=bindS hr
 refine q_join (fun a w=>Fr a 60 [(1,s2.v),(4,(.pointer (some ⟨b6,0,none⟩))),(6,(.pointer (some ⟨b7,0,none⟩))),(7,(.pointer (some ⟨b8,0,none⟩))),(10,(iV t_9)),(27,(.bool t_11))]∧St [] w0 w m [[⟨b8,[(iV p_r.Area),(iV p_r.House),s5.v],84⟩],[⟨b7,[(iV p_t.Level),s3.v,s4.v,(iV p_t.Sum)],29⟩],[⟨b6,[s1.v],26⟩]]) ?_ ?_
 ·refine q_region (q_x (v:=(iV t_9)) hF hS (ex_move rfl) rfl rfl fun a hF=>q_x (v:=(.bool (decide (t_9 < 0)))) hF hS (ex_ibin rfl rfl rfl) rfl rfl fun a hF=>q_x (v:=(.bool (decide (t_9 < 0)))) hF hS (ex_move rfl) rfl rfl fun a hF=>?_)
  rcases bcase (decide (t_9 < 0)) with hc2 | hc2
  ·have hj1:=cond_f hc2 hj1
   refine q_xg (v:=(.agg #[(iV p_t.Level),s3.v,s4.v,(iV p_t.Sum)])) hF hS (ex_loadA (vs:=[(iV p_t.Level),s3.v,s4.v,(iV p_t.Sum)]) 1 0 Tryz.underlying29 rfl sz29 rfl rfl rfl rfl) (wanted_t hF rfl rfl rfl hc2) rfl fun a hF=>q_xg (v:=(.pointer (some ⟨b8,2,none⟩))) hF hS (ex_fieldAddr Tryz.underlying84 rfl sz24 rfl rfl) (wanted_t hF rfl rfl rfl hc2) rfl fun a hF=>q_xg (v:=s5.v) hF hS (ex_load1 0 0 Tryz.underlying24 rfl rfl rfl rfl) (wanted_t hF rfl rfl rfl hc2) rfl fun a hF=>?_
   obtain ⟨t_10,ht_10,hj1⟩:=bindS hj1
   refine q_callg (vs:=[(.agg #[(iV p_t.Level),s3.v,s4.v,(iV p_t.Sum)]),s5.v]) hF hS (wanted_t hF rfl rfl rfl hc2) Tryz.func97 (by kernel_rfl) rfl rfl rfl (c_spec_uMeets p_t p_r.Values t_10 ht_10 _ m hS.vis s3 h3 s4 h4 s5 h5) ?_
   rintro a w _ rfl hF hS
   refine q_xg (v:=(.bool (!t_10))) hF hS (ex_not rfl) (wanted_t hF rfl rfl rfl hc2) rfl fun a hF=>q_x (v:=(.bool (!t_10))) hF hS (ex_pick_f rfl rfl hc2) rfl rfl fun a hF=>q_end (n_jn ?_)
   obtain rfl:=someI hj1
   exact ⟨hF.sub ⟨rfl,rfl,rfl,rfl,rfl,rfl,trivial⟩,hS⟩
  ·have hj1:=cond_t hc2 hj1
   refine q_skip hF (wanted_f hF rfl rfl rfl hc2 rfl) rfl fun a hF=>q_skip hF (wanted_f hF rfl rfl rfl hc2 rfl) rfl fun a hF=>q_skip hF (wanted_f hF rfl rfl rfl hc2 rfl) rfl fun a hF=>q_skip hF (wanted_f hF rfl rfl rfl hc2 rfl) rfl fun a hF=>q_skip hF (wanted_f hF rfl rfl rfl hc2 rfl) rfl fun a hF=>q_x (v:=(.bool true)) hF hS (ex_pick_t rfl rfl hc2) rfl rfl fun a hF=>q_end (n_jn ?_)
   obtain rfl:=someI hj1
   exact ⟨hF.sub ⟨rfl,rfl,rfl,rfl,rfl,rfl,trivial⟩,hS⟩
 ·rintro a w ⟨hF,hS⟩
  refine n_sq ?_
  rcases bcase (t_11) with hc3 | hc3
  ·have hr:=cond_f hc3 hr
   refine q_cond_f hF rfl hc3 (q_skipc (n_sq (q_seq (q_region (q_x (v:=s2.v) hF hS (ex_move rfl) rfl rfl fun a hF=>q_x (v:=(.pointer (some ⟨b7,1,none⟩))) hF hS (ex_fieldAddr Tryz.underlying29 rfl sz24 rfl rfl) rfl rfl fun a hF=>q_x (v:=s3.v) hF hS (ex_load1 1 0 Tryz.underlying24 rfl rfl rfl rfl) rfl rfl fun a hF=>?_)))))
   obtain ⟨t_12,ht_12,hr⟩:=bindS hr
   refine q_call (vs:=[s2.v,s3.v]) hF hS Tryz.func40 (by kernel_rfl) rfl rfl rfl (c_spec_sPart p_s p_t.Vars t_12 ht_12 _ m hS.vis s2 h2 s3 h3) ?_
   rintro a w _ ⟨q14,s14,rfl,hR13,h14⟩ hF hS2
   have hS : St _ _ _ _ [q14,[⟨b8,[(iV p_r.Area),(iV p_r.House),s5.v],84⟩],[⟨b7,[(iV p_t.Level),s3.v,s4.v,(iV p_t.Sum)],29⟩],[⟨b6,[s1.v],26⟩]]:=hS.joinF hR13
   refine q_x (v:=s14.v) hF hS (ex_assign rfl) rfl rfl fun a hF=>q_end (n_sq (q_seq (e_region ⟨[],[]⟩ mixed fun w' hw'=>?_)))
   have hS:=hS.below hw'
   refine e_x (v:=(.agg #[s1.v])) 0 hF hS rfl (ex_loadA (vs:=[s1.v]) 3 0 Tryz.underlying26 rfl sz26 rfl rfl rfl rfl) rfl rfl (by kernel_rfl) (by kernel_rfl) (by kernel_rfl) (by kernel_rfl) fun a hF=>e_p (v:=(.pointer (some ⟨b7,0,none⟩))) 1 hF rfl (ex_fieldAddr Tryz.underlying29 rfl sz3 rfl rfl) rfl rfl (by kernel_rfl) (by kernel_rfl) (by kernel_rfl) fun a hF=>e_x (v:=(iV p_t.Level)) 2 hF hS rfl (ex_load1 2 0 Tryz.underlying3 rfl rfl rfl rfl) rfl rfl (by kernel_rfl) (by kernel_rfl) (by kernel_rfl) (by kernel_rfl) fun a hF=>e_p (v:=(iV t_9)) 4 hF rfl (ex_move rfl) rfl rfl (by kernel_rfl) (by kernel_rfl) (by kernel_rfl) fun a hF=>e_p (v:=s14.v) 6 hF rfl (ex_move rfl) rfl rfl (by kernel_rfl) (by kernel_rfl) (by kernel_rfl) fun a hF=>e_p (v:=s14.v) 9 hF rfl (ex_move rfl) rfl rfl (by kernel_rfl) (by kernel_rfl) (by kernel_rfl) fun a hF=>e_p (v:=(.pointer (some ⟨b8,2,none⟩))) 10 hF rfl (ex_fieldAddr Tryz.underlying84 rfl sz24 rfl rfl) rfl rfl (by kernel_rfl) (by kernel_rfl) (by kernel_rfl) fun a hF=>e_x (v:=s5.v) 11 hF hS rfl (ex_load1 1 0 Tryz.underlying24 rfl rfl rfl rfl) rfl rfl (by kernel_rfl) (by kernel_rfl) (by kernel_rfl) (by kernel_rfl) fun a hF=>e_p (v:=(.pointer (some ⟨b7,1,none⟩))) 12 hF rfl (ex_fieldAddr Tryz.underlying29 rfl sz24 rfl rfl) rfl rfl (by kernel_rfl) (by kernel_rfl) (by kernel_rfl) fun a hF=>e_x (v:=s3.v) 13 hF hS rfl (ex_load1 2 0 Tryz.underlying24 rfl rfl rfl rfl) rfl rfl (by kernel_rfl) (by kernel_rfl) (by kernel_rfl) (by kernel_rfl) fun a hF=>e_one 3 (by kernel_rfl) ?_
   obtain ⟨t_36,ht_36,hr⟩:=bindS hr
   refine e_call (vs:=[(.agg #[s1.v]),(iV p_t.Level)]) hF hS rfl Tryz.func39 (by kernel_rfl) rfl rfl rfl (c_spec_gLevel p_g p_t.Level t_36 ht_36 _ m hS.vis s1 h1) ?_
   rintro a w _ ⟨q38,s38,rfl,hR37,h38⟩ hF hS2
   have hS : St _ _ _ _ [q38,q14,[⟨b8,[(iV p_r.Area),(iV p_r.House),s5.v],84⟩],[⟨b7,[(iV p_t.Level),s3.v,s4.v,(iV p_t.Sum)],29⟩],[⟨b6,[s1.v],26⟩]]:=hS.joinF hR37
   refine e_one 5 (by kernel_rfl) ?_
   obtain ⟨m40,hl40,hv40,hz40⟩:=hS.lend
   obtain ⟨t_39,ht_39,hr⟩:=bindS hr
   refine e_call (vs:=[s38.v,(iV t_9)]) hF hS rfl Tryz.func43 (by kernel_rfl) rfl rfl rfl (c_spec_l1Find t_36 t_9 t_39 ht_39 _ m40 hv40 s38 (h38.froz hl40 (hz40 0 _ rfl))) ?_
   rintro a w _ rfl hF hS
   refine e_one 7 (by kernel_rfl) ?_
   obtain ⟨m42,hl42,hv42,hz42⟩:=hS.lend
   obtain ⟨t_41,ht_41,hr⟩:=bindS hr
   refine e_call (vs:=[s14.v]) hF hS rfl Tryz.func45 (by kernel_rfl) rfl rfl rfl (c_spec_sCount t_12 t_41 ht_41 _ m42 hv42 s14 (h14.froz hl42 (hz42 1 _ rfl))) ?_
   rintro a w _ rfl hF hS
   refine e_p (v:=(iV (w64 (t_39 * t_41)))) 8 hF rfl (ex_ibin rfl rfl rfl) rfl rfl (by kernel_rfl) (by kernel_rfl) (by kernel_rfl) fun a hF=>e_one 14 (by kernel_rfl) ?_
   obtain ⟨t_43,ht_43,hr⟩:=bindS hr
   refine e_call (vs:=[s5.v,s3.v]) hF hS rfl Tryz.func47 (by kernel_rfl) rfl rfl rfl (c_spec_sPick p_r.Values p_t.Vars t_43 ht_43 _ m hS.vis s5 h5 s3 h3) ?_
   rintro a w _ ⟨q45,s45,rfl,hR44,h45⟩ hF hS2
   have hS : St _ _ _ _ [q45,q38,q14,[⟨b8,[(iV p_r.Area),(iV p_r.House),s5.v],84⟩],[⟨b7,[(iV p_t.Level),s3.v,s4.v,(iV p_t.Sum)],29⟩],[⟨b6,[s1.v],26⟩]]:=hS.joinF hR44
   refine e_one 15 (by kernel_rfl) ?_
   obtain ⟨m47,hl47,hv47,hz47⟩:=hS.lend
   obtain ⟨t_46,ht_46,hr⟩:=bindS hr
   refine e_call (vs:=[s14.v,s45.v]) hF hS rfl Tryz.func46 (by kernel_rfl) rfl rfl rfl (c_spec_sIndex t_12 t_43 t_46 ht_46 _ m47 hv47 s14 (h14.froz hl47 (hz47 2 _ rfl)) s45 (h45.froz hl47 (hz47 0 _ rfl))) ?_
   rintro a w _ rfl hF hS
   refine e_p (v:=(iV (w64 ((w64 (t_39 * t_41)) + t_46)))) 16 hF rfl (ex_ibin rfl rfl rfl) rfl rfl (by kernel_rfl) (by kernel_rfl) (by kernel_rfl) fun a hF=>e_p (v:=(iV (w64 ((w64 (t_39 * t_41)) + t_46)))) 17 hF rfl (ex_assign rfl) rfl rfl (by kernel_rfl) (by kernel_rfl) (by kernel_rfl) fun a hF=>e_end (by kernel_rfl) (n_sq ?_) _
   refine q_seq (q_seq (q_region (q_x (v:=(.pointer (some ⟨b7,3,none⟩))) hF hS (ex_fieldAddr Tryz.underlying29 rfl sz3 rfl rfl) rfl rfl fun a hF=>q_x (v:=(iV p_t.Sum)) hF hS (ex_load1 4 0 Tryz.underlying3 rfl rfl rfl rfl) rfl rfl fun a hF=>q_x (v:=(.bool (decide (p_t.Sum < 0)))) hF hS (ex_ibin rfl rfl rfl) rfl rfl fun a hF=>q_end (n_sq ?_))))
   rcases bcase (decide (p_t.Sum < 0)) with hc4 | hc4
   ·have hr:=cond_f hc4 hr
    refine q_cond_f hF rfl hc4 (q_skipc (n_sq (q_seq (e_region ⟨[],[]⟩ mixed fun w' hw'=>?_))))
    have hS:=hS.below hw'
    refine e_p (v:=(iV (w64 ((w64 (t_39 * t_41)) + t_46)))) 0 hF rfl (ex_move rfl) rfl rfl (by kernel_rfl) (by kernel_rfl) (by kernel_rfl) fun a hF=>e_p (v:=(.pointer (some ⟨b8,2,none⟩))) 1 hF rfl (ex_fieldAddr Tryz.underlying84 rfl sz24 rfl rfl) rfl rfl (by kernel_rfl) (by kernel_rfl) (by kernel_rfl) fun a hF=>e_x (v:=s5.v) 2 hF hS rfl (ex_load1 3 0 Tryz.underlying24 rfl rfl rfl rfl) rfl rfl (by kernel_rfl) (by kernel_rfl) (by kernel_rfl) (by kernel_rfl) fun a hF=>e_p (v:=(.pointer (some ⟨b7,3,none⟩))) 3 hF rfl (ex_fieldAddr Tryz.underlying29 rfl sz3 rfl rfl) rfl rfl (by kernel_rfl) (by kernel_rfl) (by kernel_rfl) fun a hF=>e_x (v:=(iV p_t.Sum)) 4 hF hS rfl (ex_load1 4 0 Tryz.underlying3 rfl rfl rfl rfl) rfl rfl (by kernel_rfl) (by kernel_rfl) (by kernel_rfl) (by kernel_rfl) fun a hF=>?_
    obtain ⟨e_48,he_48,hr⟩:=bindS hr
    obtain ⟨vs49,at49,d49⟩:=h5.at he_48 1 rfl
    obtain rfl : vs49 = [(iV e_48)]:=d49
    refine e_p (v:=(elP s5 (p_t.Sum.toNat * 1))) 5 hF rfl (ex_indexAddr Tryz.underlying24 sz3 rfl rfl (h5.idx he_48)) rfl rfl (by kernel_rfl) (by kernel_rfl) (by kernel_rfl) fun a hF=>e_x (v:=(iV e_48)) 6 hF hS rfl (ex_loadE1 0 Tryz.underlying3 rfl rfl ((at49).at) rfl rfl) rfl rfl (by kernel_rfl) (by kernel_rfl) (by kernel_rfl) (by kernel_rfl) fun a hF=>e_p (v:=(iV (w64 ((w64 (t_39 * t_41)) + t_46)))) 7 hF rfl (ex_assign rfl) rfl rfl (by kernel_rfl) (by kernel_rfl) (by kernel_rfl) fun a hF=>e_p (v:=(iV e_48)) 8 hF rfl (ex_assign rfl) rfl rfl (by kernel_rfl) (by kernel_rfl) (by kernel_rfl) fun a hF=>e_end (by kernel_rfl) (n_sq (q_ret ?_)) _
    obtain rfl:=someI hr
    exact ret_of hF hS rfl (.tmp rfl (.tmp rfl .nil)) rfl
   ·have hr:=cond_t hc4 hr
    refine q_cond_t hF rfl hc4 (q_seq (q_region (q_x (v:=(iV (w64 ((w64 (t_39 * t_41)) + t_46)))) hF hS (ex_move rfl) rfl rfl fun a hF=>q_x (v:=(iV (w64 ((w64 (t_39 * t_41)) + t_46)))) hF hS (ex_assign rfl) rfl rfl fun a hF=>q_x (v:=(iV 1)) hF hS (ex_assign rfl) rfl rfl fun a hF=>q_end (n_sq (q_ret (r_sq ?_))))))
    obtain rfl:=someI hr
    exact ret_of hF hS rfl (.tmp rfl (.tmp rfl .nil)) rfl
  ·have hr:=cond_t hc3 hr
   refine q_cond_t hF rfl hc3 (q_seq (q_region (q_x (v:=(iV (-1))) hF hS (ex_assign rfl) rfl rfl fun a hF=>q_x (v:=(iV 0)) hF hS (ex_assign rfl) rfl rfl fun a hF=>q_end (n_sq (q_ret (r_sq ?_))))))
   obtain rfl:=someI hr
   exact ret_of hF hS rfl (.tmp rfl (.tmp rfl .nil)) rfl

theorem c_spec_uTable (p_g : impl_Geo) (p_s : List impl_Variable) (p_t : impl_Table) (p_l : List impl_Record) (r : (List Int)) (hr : spec_uTable p_g p_s p_t p_l = some r) (w0 : World) (m : Mem) (hv : Vis m w0) (s1 : Sl) (h1 : Rd m s1 p_g.Parents) (s2 : Sl) (h2 : Rd m s2 p_s) (s3 : Sl) (h3 : Rd m s3 p_t.Vars) (s4 : Sl) (h4 : Rd m s4 p_t.Where) (s5 : Sl) (h5 : Rd m s5 p_l) :
  Ret Tryz.prog 26 [(.agg #[s1.v]),s2.v,(.agg #[(iV p_t.Level),s3.v,s4.v,(iV p_t.Sum)]),s5.v] w0 (fun v w=>∃ (q0' : Piece) (s0' : Sl),v = s0'.v∧St [] w0 w m [q0']∧OwnL m 3 q0' s0' r):=by
 unfold spec_uTable at hr
 refine ret_start Tryz.func26 rfl 44 rfl rfl m hv fun a hF hS=>q_seq (q_region (q_box (cs:=[s1.v]) hF hS rfl rfl rfl fun a w b6 hF hS=>q_box (cs:=[(iV p_t.Level),s3.v,s4.v,(iV p_t.Sum)]) hF hS rfl rfl rfl fun a w b7 hF hS=>q_x (v:=nilS.v) hF hS (ex_assign rfl) rfl rfl fun a hF=>q_end (n_sq (q_seq (q_region (q_x (v:=(.agg #[s1.v])) hF hS (ex_loadA (vs:=[s1.v]) 1 0 Tryz.underlying26 rfl sz26 rfl rfl rfl rfl) rfl rfl fun a hF=>q_x (v:=s2.v) hF hS (ex_move rfl) rfl rfl fun a hF=>q_x (v:=(.agg #[(iV p_t.Level),s3.v,s4.v,(iV p_t.Sum)])) hF hS (ex_loadA (vs:=[(iV p_t.Level),s3.v,s4.v,(iV p_t.Sum)]) 0 0 Tryz.underlying29 rfl sz29 rfl rfl rfl rfl) rfl rfl fun a hF=>?_))))))
 obtain ⟨t_8,ht_8,hr⟩:=bindS hr
 refine q_call (vs:=[(.agg #[s1.v]),s2.v,(.agg #[(iV p_t.Level),s3.v,s4.v,(iV p_t.Sum)])]) hF hS Tryz.func38 (by kernel_rfl) rfl rfl rfl (c_spec_uCount p_g p_s p_t t_8 ht_8 _ m hS.vis s1 h1 s2 h2 s3 h3 s4 h4) ?_
 rintro a w _ rfl hF hS
 obtain ⟨l_9,hl_9,hr⟩:=bindS hr
 refine q_do rfl fun _ hK=>wp_make (z:=(0 : Int)) hF hS Tryz.underlying24 inf3 rfl rfl rfl rfl rfl (by decide) hl_9 rfl fun a w q10 s10 hF hS h10 _=>hK _ _ (q_x (v:=s10.v) hF hS (ex_assign rfl) rfl rfl fun a hF=>q_end (n_sq (q_seq (q_seq (q_region (q_x (v:=s5.v) hF hS (ex_move rfl) rfl rfl fun a hF=>q_x (v:=(iV (goLen p_l))) hF hS (ex_len Tryz.underlying34 rfl h5.len) rfl rfl fun a hF=>q_x (v:=(iV 0)) hF hS (ex_move rfl) rfl rfl fun a hF=>q_end (n_sq (q_block ?_))))))))
 obtain ⟨out_26,hl1,hr⟩:=bindS hr
 refine q_loop (fun (s : (List Int) × Int) a w=>∃ (q12 : Piece),∃ out_11,∃ t_13,s = (out_11,t_13)∧Fr a 44 [(1,s2.v),(4,(.pointer (some ⟨b6,0,none⟩))),(6,(.pointer (some ⟨b7,0,none⟩))),(9,s10.v),(19,s5.v),(20,(iV (goLen p_l))),(21,(iV t_13))]∧St [] w0 w m [q12,[⟨b7,[(iV p_t.Level),s3.v,s4.v,(iV p_t.Sum)],29⟩],[⟨b6,[s1.v],26⟩]]∧OwnL m 3 q12 s10 out_11) (fun (out_26 : (List Int)) e a w=>∃ (q27 : Piece),e = .exit 0∧Fr a 44 [(9,s10.v)]∧St [] w0 w m [q27]∧OwnL m 3 q27 s10 out_26) hl1 ⟨q10,_,_,rfl,hF.sub ⟨rfl,rfl,rfl,rfl,rfl,rfl,rfl,trivial⟩,hS,h10⟩ ?_ ?_
 ·clear hF hS
  rintro s a w st ⟨q12,out_11,t_13,rfl,hF,hS,h12⟩ hb1
  unfold spec_uTable_l1 at hb1
  refine q_seq (q_region (q_x (v:=(.bool (decide (t_13 < (goLen p_l))))) hF hS (ex_ibin rfl rfl rfl) rfl rfl fun a hF=>q_end (n_sq (q_seq ?_))))
  rcases bcase (decide (t_13 < (goLen p_l))) with hc2 | hc2
  ·have hb1:=cond_f hc2 hb1
   refine q_cond_f hF rfl hc2 (q_exit (x_sq ?_))
   obtain rfl:=someI hb1
   exact ⟨nofun,.inl ⟨q12,rfl,hF.sub ⟨rfl,trivial⟩,hS.mask [true,false,false],h12⟩⟩
  ·have hb1:=cond_t hc2 hb1
   refine q_cond_t hF rfl hc2 (q_skipc (n_sq (q_seq (q_block (q_seq (q_region ?_))))))
   obtain ⟨e_14,he_14,hb1⟩:=bindS hb1
   obtain ⟨vs15,at15,d15⟩:=h5.at he_14 3 rfl
   obtain ⟨s16,rfl,h16⟩ : ∃ s16 : Sl,vs15 = [(iV e_14.Area),(iV e_14.House),s16.v]∧Rd m s16 e_14.Values:=d15
   refine q_x (v:=(elP s5 (t_13.toNat * 3))) hF hS (ex_indexAddr Tryz.underlying34 sz84 rfl rfl (h5.idx he_14)) rfl rfl fun a hF=>q_x (v:=(.agg #[(iV e_14.Area),(iV e_14.House),s16.v])) hF hS (ex_loadEA (us:=[(iV e_14.Area),(iV e_14.House),s16.v]) 0 Tryz.underlying84 rfl sz84 rfl ((at15).at) rfl rfl rfl) rfl rfl fun a hF=>q_alloc (cs:=[(iV 0),(iV 0),nilS.v]) hF hS rfl rfl rfl fun a w b17 hF hS=>q_store (vs:=[(iV e_14.Area),(iV e_14.House),s16.v]) (cs':=[(iV e_14.Area),(iV e_14.House),s16.v]) 0 0 hF hS sz84 rfl rfl rfl rfl rfl rfl rfl rfl fun a w hF hS=>q_end (n_sq (q_seq (q_region (q_x (v:=(.agg #[s1.v])) hF hS (ex_loadA (vs:=[s1.v]) 3 0 Tryz.underlying26 rfl sz26 rfl rfl rfl rfl) rfl rfl fun a hF=>q_x (v:=s2.v) hF hS (ex_move rfl) rfl rfl fun a hF=>q_x (v:=(.agg #[(iV p_t.Level),s3.v,s4.v,(iV p_t.Sum)])) hF hS (ex_loadA (vs:=[(iV p_t.Level),s3.v,s4.v,(iV p_t.Sum)]) 2 0 Tryz.underlying29 rfl sz29 rfl rfl rfl rfl) rfl rfl fun a hF=>q_x (v:=(.agg #[(iV e_14.Area),(iV e_14.House),s16.v])) hF hS (ex_loadA (vs:=[(iV e_14.Area),(iV e_14.House),s16.v]) 0 0 Tryz.underlying84 rfl sz84 rfl rfl rfl rfl) rfl rfl fun a hF=>?_))))
   obtain ⟨t_18,ht_18,hb1⟩:=bindS hb1
   refine q_call (vs:=[(.agg #[s1.v]),s2.v,(.agg #[(iV p_t.Level),s3.v,s4.v,(iV p_t.Sum)]),(.agg #[(iV e_14.Area),(iV e_14.House),s16.v])]) hF hS Tryz.func69 (by kernel_rfl) rfl rfl rfl (c_spec_uCell p_g p_s p_t e_14 t_18 ht_18 _ m hS.vis s1 h1 s2 h2 s3 h3 s4 h4 s16 h16) ?_
   rintro a w _ rfl hF hS
   refine q_x (v:=(.tuple #[(iV t_18.1),(iV t_18.2)])) hF hS (ex_move rfl) rfl rfl fun a hF=>q_x (v:=(iV t_18.1)) hF hS (ex_extract rfl rfl) rfl rfl fun a hF=>q_x (v:=(iV t_18.2)) hF hS (ex_extract rfl rfl) rfl rfl fun a hF=>q_x (v:=(iV t_18.1)) hF hS (ex_assign rfl) rfl rfl fun a hF=>q_x (v:=(iV t_18.2)) hF hS (ex_assign rfl) rfl rfl fun a hF=>q_end (n_sq (q_seq (q_region (q_x (v:=(iV t_18.1)) hF hS (ex_move rfl) rfl rfl fun a hF=>q_x (v:=(.bool (decide (0 ≤ t_18.1)))) hF hS (ex_ibin rfl rfl rfl) rfl rfl fun a hF=>q_end (n_sq ?_)))))
   obtain ⟨out_24,hj3,hb1⟩:=bindS hb1
   refine q_join (fun a w=>∃ (q25 : Piece),Fr a 44 [(1,s2.v),(4,(.pointer (some ⟨b6,0,none⟩))),(6,(.pointer (some ⟨b7,0,none⟩))),(9,s10.v),(19,s5.v),(20,(iV (goLen p_l))),(21,(iV t_13))]∧St [] w0 w m [q25,[⟨b7,[(iV p_t.Level),s3.v,s4.v,(iV p_t.Sum)],29⟩],[⟨b6,[s1.v],26⟩]]∧OwnL m 3 q25 s10 out_24) ?_ ?_
   ·rcases bcase (decide (0 ≤ t_18.1)) with hc4 | hc4
    ·have hj3:=cond_f hc4 hj3
     refine q_cond_f hF rfl hc4 (q_skipc (n_jn ?_))
     obtain rfl:=someI hj3
     exact ⟨q12,hF.sub ⟨rfl,rfl,rfl,rfl,rfl,rfl,rfl,trivial⟩,hS.mask [false,true,true,true],h12⟩
    ·have hj3:=cond_t hc4 hj3
     refine q_cond_t hF rfl hc4 (q_region (q_x (v:=s10.v) hF hS (ex_move rfl) rfl rfl fun a hF=>q_x (v:=(iV t_18.1)) hF hS (ex_move rfl) rfl rfl fun a hF=>?_))
     obtain ⟨e_19,he_19,hj3⟩:=bindS hj3
     obtain ⟨vs20,at20,d20⟩:=h12.at he_19 1 rfl
     obtain rfl : vs20 = [(iV e_19)]:=d20
     refine q_x (v:=(elP s10 (t_18.1.toNat * 1))) hF hS (ex_indexAddr Tryz.underlying24 sz3 rfl rfl (h12.idx he_19)) rfl rfl fun a hF=>q_x (v:=(iV e_19)) hF hS (ex_loadE1 0 Tryz.underlying3 rfl rfl (at20.at 1 rfl) rfl rfl) rfl rfl fun a hF=>q_x (v:=(iV t_18.2)) hF hS (ex_move rfl) rfl rfl fun a hF=>q_x (v:=(iV (w64 (e_19 + t_18.2)))) hF hS (ex_ibin rfl rfl rfl) rfl rfl fun a hF=>?_
     obtain ⟨e_21,he_21,hj3⟩:=bindS hj3
     obtain ⟨vs22,at22,d22⟩:=h12.at he_21 1 rfl
     obtain rfl : vs22 = [(iV e_21)]:=d22
     refine q_x (v:=(elP s10 (t_18.1.toNat * 1))) hF hS (ex_indexAddr Tryz.underlying24 sz3 rfl rfl (h12.idx he_21)) rfl rfl fun a hF=>?_
     have hS : St _ _ _ _ [q12,[⟨b17,[(iV e_14.Area),(iV e_14.House),s16.v],84⟩],[⟨b7,[(iV p_t.Level),s3.v,s4.v,(iV p_t.Sum)],29⟩],[⟨b6,[s1.v],26⟩]]:=hS.sel [1,0,2,3] (by decide)
     refine q_do rfl fun _ hK=>wp_storeE (e':=(w64 (e_19 + t_18.2))) (us:=[(iV (w64 (e_19 + t_18.2)))]) (vs:=[(iV e_21)]) 0 hF hS h12 sz3 rfl rfl rfl rfl rfl rfl rfl he_21 at22 rfl rfl rfl fun w q23 hS h23=>hK _ _ (q_end (n_jn ?_))
     obtain rfl:=someI hj3
     exact ⟨q23,hF.sub ⟨rfl,rfl,rfl,rfl,rfl,rfl,rfl,trivial⟩,hS.mask [true,false,true,true],h23⟩
   ·rintro a w ⟨q25,hF,hS,h25⟩
    refine n_ib (n_sq ?_)
    refine q_region (q_x (v:=(iV (w64 (t_13 + 1)))) hF hS (ex_ibin rfl rfl rfl) rfl rfl fun a hF=>q_x (v:=(iV (w64 (t_13 + 1)))) hF hS (ex_move rfl) rfl rfl fun a hF=>q_end ?_)
    obtain rfl:=someI hb1
    exact ⟨rfl,q25,_,_,rfl,hF.sub ⟨rfl,rfl,rfl,rfl,rfl,rfl,rfl,trivial⟩,hS,h25⟩
 ·rintro e a w ⟨q27,rfl,hF,hS,h27⟩
  refine x_ib (n_sq ?_)
  refine q_seq (q_region (q_x (v:=s10.v) hF hS (ex_move rfl) rfl rfl fun a hF=>q_x (v:=s10.v) hF hS (ex_assign rfl) rfl rfl fun a hF=>q_end (n_sq (q_ret ?_))))
  obtain rfl:=someI hr
  exact ret_of hF hS rfl (.tmp rfl .nil) ⟨q27,s10,rfl,hS.sel [0] (by decide),h27⟩

theorem c_spec_TableOf (p_g : impl_Geo) (p_s : List impl_Variable) (p_t : impl_Table) (p_l : List impl_Record) (r : (List Int) × Bool) (hr : spec_TableOf p_g p_s p_t p_l = some r) (w0 : World) (m : Mem) (hv : Vis m w0) (s1 : Sl) (h1 : Rd m s1 p_g.Parents) (s2 : Sl) (h2 : Rd m s2 p_s) (s3 : Sl) (h3 : Rd m s3 p_t.Vars) (s4 : Sl) (h4 : Rd m s4 p_t.Where) (s5 : Sl) (h5 : Rd m s5 p_l) :
  Ret Tryz.prog 9 [(.agg #[s1.v]),s2.v,(.agg #[(iV p_t.Level),s3.v,s4.v,(iV p_t.Sum)]),s5.v] w0 (fun v w=>∃ (q0' : Piece) (s0' : Sl),v = (.tuple #[s0'.v,(.bool r.2)])∧St [] w0 w m [q0']∧OwnL m 3 q0' s0' r.1):=by
 unfold spec_TableOf at hr
 refine ret_start Tryz.func9 rfl 27 rfl rfl m hv fun a hF hS=>q_seq (q_region (q_box (cs:=[s1.v]) hF hS rfl rfl rfl fun a w b6 hF hS=>q_box (cs:=[(iV p_t.Level),s3.v,s4.v,(iV p_t.Sum)]) hF hS rfl rfl rfl fun a w b7 hF hS=>q_x (v:=nilS.v) hF hS (ex_assign rfl) rfl rfl fun a hF=>q_x (v:=(.bool false)) hF hS (ex_assign rfl) rfl rfl fun a hF=>q_end (n_sq (q_seq (q_seq ?_)))))
 obtain ⟨t_10,hj1,hr⟩:=bindS hr
 refine q_join (fun a w=>Fr a 27 [(1,s2.v),(3,s5.v),(4,(.pointer (some ⟨b6,0,none⟩))),(6,(.pointer (some ⟨b7,0,none⟩))),(21,(.bool t_10))]∧St [] w0 w m [[⟨b7,[(iV p_t.Level),s3.v,s4.v,(iV p_t.Sum)],29⟩],[⟨b6,[s1.v],26⟩]]) ?_ ?_
 ·refine q_region (q_x (v:=(.agg #[s1.v])) hF hS (ex_loadA (vs:=[s1.v]) 1 0 Tryz.underlying26 rfl sz26 rfl rfl rfl rfl) rfl rfl fun a hF=>q_x (v:=s2.v) hF hS (ex_move rfl) rfl rfl fun a hF=>q_x (v:=(.agg #[(iV p_t.Level),s3.v,s4.v,(iV p_t.Sum)])) hF hS (ex_loadA (vs:=[(iV p_t.Level),s3.v,s4.v,(iV p_t.Sum)]) 0 0 Tryz.underlying29 rfl sz29 rfl rfl rfl rfl) rfl rfl fun a hF=>?_)
  obtain ⟨t_8,ht_8,hj1⟩:=bindS hj1
  refine q_call (vs:=[(.agg #[s1.v]),s2.v,(.agg #[(iV p_t.Level),s3.v,s4.v,(iV p_t.Sum)])]) hF hS Tryz.func23 (by kernel_rfl) rfl rfl rfl (c_spec_uGood p_g p_s p_t t_8 ht_8 _ m hS.vis s1 h1 s2 h2 s3 h3 s4 h4) ?_
  rintro a w _ rfl hF hS
  refine q_x (v:=(.bool (!t_8))) hF hS (ex_not rfl) rfl rfl fun a hF=>q_x (v:=(.bool (!t_8))) hF hS (ex_move rfl) rfl rfl fun a hF=>?_
  rcases bcase (!t_8) with hc2 | hc2
  ·have hj1:=cond_f hc2 hj1
   refine q_xg (v:=(.agg #[s1.v])) hF hS (ex_loadA (vs:=[s1.v]) 1 0 Tryz.underlying26 rfl sz26 rfl rfl rfl rfl) (wanted_t hF rfl rfl rfl hc2) rfl fun a hF=>q_xg (v:=s2.v) hF hS (ex_move rfl) (wanted_t hF rfl rfl rfl hc2) rfl fun a hF=>q_xg (v:=s5.v) hF hS (ex_move rfl) (wanted_t hF rfl rfl rfl hc2) rfl fun a hF=>?_
   obtain ⟨t_9,ht_9,hj1⟩:=bindS hj1
   refine q_callg (vs:=[(.agg #[s1.v]),s2.v,s5.v]) hF hS (wanted_t hF rfl rfl rfl hc2) Tryz.func25 (by kernel_rfl) rfl rfl rfl (c_spec_uSurvey p_g p_s p_l t_9 ht_9 _ m hS.vis s1 h1 s2 h2 s5 h5) ?_
   rintro a w _ rfl hF hS
   refine q_xg (v:=(.bool (!t_9))) hF hS (ex_not rfl) (wanted_t hF rfl rfl rfl hc2) rfl fun a hF=>q_x (v:=(.bool (!t_9))) hF hS (ex_pick_f rfl rfl hc2) rfl rfl fun a hF=>q_end (n_jn ?_)
   obtain rfl:=someI hj1
   exact ⟨hF.sub ⟨rfl,rfl,rfl,rfl,rfl,trivial⟩,hS⟩
  ·have hj1:=cond_t hc2 hj1
   refine q_skip hF (wanted_f hF rfl rfl rfl hc2 rfl) rfl fun a hF=>q_skip hF (wanted_f hF rfl rfl rfl hc2 rfl) rfl fun a hF=>q_skip hF (wanted_f hF rfl rfl rfl hc2 rfl) rfl fun a hF=>q_skip hF (wanted_f hF rfl rfl rfl hc2 rfl) rfl fun a hF=>q_skip hF (wanted_f hF rfl rfl rfl hc2 rfl) rfl fun a hF=>q_x (v:=(.bool true)) hF hS (ex_pick_t rfl rfl hc2) rfl rfl fun a hF=>q_end (n_jn ?_)
   obtain rfl:=someI hj1
   exact ⟨hF.sub ⟨rfl,rfl,rfl,rfl,rfl,trivial⟩,hS⟩
 ·rintro a w ⟨hF,hS⟩
  refine n_sq ?_
  rcases bcase (t_10) with hc3 | hc3
  ·have hr:=cond_f hc3 hr
   refine q_cond_f hF rfl hc3 (q_skipc (n_sq (q_seq (q_region (q_x (v:=(.agg #[s1.v])) hF hS (ex_loadA (vs:=[s1.v]) 1 0 Tryz.underlying26 rfl sz26 rfl rfl rfl rfl) rfl rfl fun a hF=>q_x (v:=s2.v) hF hS (ex_move rfl) rfl rfl fun a hF=>q_x (v:=(.agg #[(iV p_t.Level),s3.v,s4.v,(iV p_t.Sum)])) hF hS (ex_loadA (vs:=[(iV p_t.Level),s3.v,s4.v,(iV p_t.Sum)]) 0 0 Tryz.underlying29 rfl sz29 rfl rfl rfl rfl) rfl rfl fun a hF=>q_x (v:=s5.v) hF hS (ex_move rfl) rfl rfl fun a hF=>?_)))))
   obtain ⟨t_11,ht_11,hr⟩:=bindS hr
   refine q_call (vs:=[(.agg #[s1.v]),s2.v,(.agg #[(iV p_t.Level),s3.v,s4.v,(iV p_t.Sum)]),s5.v]) hF hS Tryz.func26 (by kernel_rfl) rfl rfl rfl (c_spec_uTable p_g p_s p_t p_l t_11 ht_11 _ m hS.vis s1 h1 s2 h2 s3 h3 s4 h4 s5 h5) ?_
   rintro a w _ ⟨q13,s13,rfl,hR12,h13⟩ hF hS2
   have hS : St _ _ _ _ [q13,[⟨b7,[(iV p_t.Level),s3.v,s4.v,(iV p_t.Sum)],29⟩],[⟨b6,[s1.v],26⟩]]:=hS.joinF hR12
   refine q_x (v:=s13.v) hF hS (ex_assign rfl) rfl rfl fun a hF=>q_x (v:=(.bool true)) hF hS (ex_assign rfl) rfl rfl fun a hF=>q_end (n_sq (q_ret ?_))
   obtain rfl:=someI hr
   exact ret_of hF hS rfl (.tmp rfl (.tmp rfl .nil)) ⟨q13,s13,rfl,hS.sel [0] (by decide),h13⟩
  ·have hr:=cond_t hc3 hr
   refine q_cond_t hF rfl hc3 (q_seq (q_region (q_x (v:=nilS.v) hF hS (ex_assign rfl) rfl rfl fun a hF=>q_x (v:=(.bool false)) hF hS (ex_assign rfl) rfl rfl fun a hF=>q_end (n_sq (q_ret (r_sq ?_))))))
   obtain rfl:=someI hr
   exact ret_of hF hS rfl (.tmp rfl (.tmp rfl .nil)) ⟨[],nilS,rfl,hS.sel [2] (by decide),(OwnL.nil (α:=Int) m 3)⟩

theorem c_impl_areSmallIntegers (p_list : List Int) (p_n : Int) (r : Bool) (hr : impl_areSmallIntegers p_list p_n = some r) (w0 : World) (m : Mem) (hv : Vis m w0) (s1 : Sl) (h1 : Rd m s1 p_list) :
  Ret Tryz.prog 27 [s1.v,(iV p_n)] w0 (fun v _=>v = (.bool r)):=by
 unfold impl_areSmallIntegers at hr
 refine ret_start Tryz.func27 rfl 24 rfl rfl m hv fun a hF hS=>q_seq (q_region (q_x (v:=(.bool false)) hF hS (ex_assign rfl) rfl rfl fun a hF=>q_end (n_sq (q_seq (q_seq (q_region (q_x (v:=s1.v) hF hS (ex_move rfl) rfl rfl fun a hF=>q_x (v:=(iV (goLen p_list))) hF hS (ex_len Tryz.underlying24 rfl h1.len) rfl rfl fun a hF=>q_x (v:=(iV p_n)) hF hS (ex_move rfl) rfl rfl fun a hF=>q_x (v:=(.bool ((goLen p_list) != p_n))) hF hS (ex_ibin rfl rfl rfl) rfl rfl fun a hF=>q_end (n_sq ?_))))))))
 rcases bcase ((goLen p_list) != p_n) with hc1 | hc1
 ·have hr:=cond_f hc1 hr
  refine q_cond_f hF rfl hc1 (q_skipc (n_sq (q_seq (q_seq (q_region (q_x (v:=s1.v) hF hS (ex_move rfl) rfl rfl fun a hF=>q_x (v:=(iV (goLen p_list))) hF hS (ex_len Tryz.underlying24 rfl h1.len) rfl rfl fun a hF=>q_x (v:=(iV 0)) hF hS (ex_move rfl) rfl rfl fun a hF=>q_end (n_sq (q_block ?_))))))))
  obtain ⟨o2,hl2,hr⟩:=bindS hr
  refine q_loop (fun (t_2 : Int) a w=>Fr a 24 [(11,s1.v),(12,(iV (goLen p_list))),(13,(iV t_2))]∧St [] w0 w m []) (fun (o : (Unit) ⊕ (Bool)) e a w=>o = .inl ()∧e = .exit 0∧Fr a 24 []∧St [] w0 w m []) hl2 ⟨hF.sub ⟨rfl,rfl,rfl,trivial⟩,hS⟩ ?_ ?_
  ·clear hF hS
   rintro t_2 a w st ⟨hF,hS⟩ hb2
   unfold impl_areSmallIntegers_l1 at hb2
   refine q_seq (q_region (q_x (v:=(.bool (decide (t_2 < (goLen p_list))))) hF hS (ex_ibin rfl rfl rfl) rfl rfl fun a hF=>q_end (n_sq (q_seq ?_))))
   rcases bcase (decide (t_2 < (goLen p_list))) with hc3 | hc3
   ·have hb2:=cond_f hc3 hb2
    refine q_cond_f hF rfl hc3 (q_exit (x_sq ?_))
    obtain rfl:=someI hb2
    exact ⟨nofun,.inl ⟨rfl,rfl,hF.sub trivial,hS⟩⟩
   ·have hb2:=cond_t hc3 hb2
    refine q_cond_t hF rfl hc3 (q_skipc (n_sq (q_seq (q_block (q_seq (q_region ?_))))))
    obtain ⟨e_3,he_3,hb2⟩:=bindS hb2
    obtain ⟨vs4,at4,d4⟩:=h1.at he_3 1 rfl
    obtain rfl : vs4 = [(iV e_3)]:=d4
    refine q_x (v:=(elP s1 (t_2.toNat * 1))) hF hS (ex_indexAddr Tryz.underlying24 sz3 rfl rfl (h1.idx he_3)) rfl rfl fun a hF=>q_x (v:=(iV e_3)) hF hS (ex_loadE1 0 Tryz.underlying3 rfl rfl ((at4).at) rfl rfl) rfl rfl fun a hF=>q_x (v:=(iV e_3)) hF hS (ex_assign rfl) rfl rfl fun a hF=>q_end (n_sq (q_seq ?_))
    obtain ⟨t_5,hj4,hb2⟩:=bindS hb2
    refine q_join (fun a w=>Fr a 24 [(11,s1.v),(12,(iV (goLen p_list))),(13,(iV t_2)),(22,(.bool t_5))]∧St [] w0 w m []) ?_ ?_
    ·refine q_region (q_x (v:=(iV e_3)) hF hS (ex_move rfl) rfl rfl fun a hF=>q_x (v:=(.bool (decide (e_3 < (-1000000))))) hF hS (ex_ibin rfl rfl rfl) rfl rfl fun a hF=>q_x (v:=(.bool (decide (e_3 < (-1000000))))) hF hS (ex_move rfl) rfl rfl fun a hF=>?_)
     rcases bcase (decide (e_3 < (-1000000))) with hc5 | hc5
     ·have hj4:=cond_f hc5 hj4
      refine q_xg (v:=(iV e_3)) hF hS (ex_move rfl) (wanted_t hF rfl rfl rfl hc5) rfl fun a hF=>q_xg (v:=(.bool (decide (1000000 < e_3)))) hF hS (ex_ibin rfl rfl rfl) (wanted_t hF rfl rfl rfl hc5) rfl fun a hF=>q_x (v:=(.bool (decide (1000000 < e_3)))) hF hS (ex_pick_f rfl rfl hc5) rfl rfl fun a hF=>q_end (n_jn ?_)
      obtain rfl:=someI hj4
      exact ⟨hF.sub ⟨rfl,rfl,rfl,rfl,trivial⟩,hS⟩
     ·have hj4:=cond_t hc5 hj4
      refine q_skip hF (wanted_f hF rfl rfl rfl hc5 rfl) rfl fun a hF=>q_skip hF (wanted_f hF rfl rfl rfl hc5 rfl) rfl fun a hF=>q_x (v:=(.bool true)) hF hS (ex_pick_t rfl rfl hc5) rfl rfl fun a hF=>q_end (n_jn ?_)
      obtain rfl:=someI hj4
      exact ⟨hF.sub ⟨rfl,rfl,rfl,rfl,trivial⟩,hS⟩
    ·rintro a w ⟨hF,hS⟩
     refine n_sq ?_
     rcases bcase (t_5) with hc6 | hc6
     ·have hb2:=cond_f hc6 hb2
      refine q_cond_f hF rfl hc6 (q_skipc (n_ib (n_sq (q_region (q_x (v:=(iV (w64 (t_2 + 1)))) hF hS (ex_ibin rfl rfl rfl) rfl rfl fun a hF=>q_x (v:=(iV (w64 (t_2 + 1)))) hF hS (ex_move rfl) rfl rfl fun a hF=>q_end ?_)))))
      obtain rfl:=someI hb2
      exact ⟨rfl,hF.sub ⟨rfl,rfl,rfl,trivial⟩,hS⟩
     ·have hb2:=cond_t hc6 hb2
      refine q_cond_t hF rfl hc6 (q_seq (q_region (q_x (v:=(.bool false)) hF hS (ex_assign rfl) rfl rfl fun a hF=>q_end (n_sq (q_ret (r_ib (r_sq ?_)))))))
      obtain rfl:=someI hb2
      refine ⟨nofun,.inr fun ho=>?_⟩
      subst ho
      refine r_ib (r_sq ?_)
      obtain rfl:=someI hr
      exact ret_of hF hS rfl (.tmp rfl .nil) rfl
  ·rintro e a w ⟨rfl,rfl,hF,hS⟩
   refine x_ib (n_sq ?_)
   refine q_seq (q_region (q_x (v:=(.bool true)) hF hS (ex_assign rfl) rfl rfl fun a hF=>q_end (n_sq (q_ret ?_))))
   obtain rfl:=someI hr
   exact ret_of hF hS rfl (.tmp rfl .nil) rfl
 ·have hr:=cond_t hc1 hr
  refine q_cond_t hF rfl hc1 (q_seq (q_region (q_x (v:=(.bool false)) hF hS (ex_assign rfl) rfl rfl fun a hF=>q_end (n_sq (q_ret (r_sq ?_))))))
  obtain rfl:=someI hr
  exact ret_of hF hS rfl (.tmp rfl .nil) rfl

theorem c_impl_valuesAt (p_s : List impl_Variable) (p_i : Int) (r : (List Int)) (hr : impl_valuesAt p_s p_i = some r) (w0 : World) (m : Mem) (hv : Vis m w0) (s1 : Sl) (h1 : Rd m s1 p_s) :
  Ret Tryz.prog 73 [s1.v,(iV p_i)] w0 (fun v w=>∃ (q0' : Piece) (s0' : Sl),v = s0'.v∧St [] w0 w m [q0']∧OwnL m 3 q0' s0' r):=by
 unfold impl_valuesAt at hr
 refine ret_start Tryz.func73 rfl 35 rfl rfl m hv fun a hF hS=>q_seq (q_region (q_x (v:=nilS.v) hF hS (ex_assign rfl) rfl rfl fun a hF=>q_end (n_sq (q_seq (q_region (q_x (v:=s1.v) hF hS (ex_move rfl) rfl rfl fun a hF=>q_x (v:=(iV (goLen p_s))) hF hS (ex_len Tryz.underlying27 rfl h1.len) rfl rfl fun a hF=>?_))))))
 obtain ⟨l_2,hl_2,hr⟩:=bindS hr
 refine q_do rfl fun _ hK=>wp_make (z:=(0 : Int)) hF hS Tryz.underlying24 inf3 rfl rfl rfl rfl rfl (by decide) hl_2 rfl fun a w q3 s3 hF hS h3 _=>hK _ _ (q_x (v:=s3.v) hF hS (ex_assign rfl) rfl rfl fun a hF=>q_end (n_sq (q_seq (q_seq (q_region (q_x (v:=s1.v) hF hS (ex_move rfl) rfl rfl fun a hF=>q_x (v:=(iV (goLen p_s))) hF hS (ex_len Tryz.underlying27 rfl h1.len) rfl rfl fun a hF=>q_x (v:=(iV (w64 ((goLen p_s) - 1)))) hF hS (ex_ibin rfl rfl rfl) rfl rfl fun a hF=>q_x (v:=(iV (w64 ((goLen p_s) - 1)))) hF hS (ex_assign rfl) rfl rfl fun a hF=>q_end (n_sq (q_block ?_))))))))
 obtain ⟨values_17,hl1,hr⟩:=bindS hr
 refine q_loop (fun (s : Int × (List Int) × Int) a w=>∃ (q6 : Piece),∃ i_4,∃ values_5,∃ k_7,s = (i_4,values_5,k_7)∧Fr a 35 [(0,s1.v),(1,(iV i_4)),(5,s3.v),(6,(iV k_7))]∧St [] w0 w m [q6]∧OwnL m 3 q6 s3 values_5) (fun (values_17 : (List Int)) e a w=>∃ (q18 : Piece),e = .exit 0∧Fr a 35 [(5,s3.v)]∧St [] w0 w m [q18]∧OwnL m 3 q18 s3 values_17) hl1 ⟨q3,_,_,_,rfl,hF.sub ⟨rfl,rfl,rfl,rfl,trivial⟩,hS,h3⟩ ?_ ?_
 ·clear hF hS
  rintro s a w st ⟨q6,i_4,values_5,k_7,rfl,hF,hS,h6⟩ hb1
  unfold impl_valuesAt_l1 at hb1
  refine q_seq (q_seq (q_region (q_x (v:=(iV k_7)) hF hS (ex_move rfl) rfl rfl fun a hF=>q_x (v:=(.bool (decide (0 ≤ k_7)))) hF hS (ex_ibin rfl rfl rfl) rfl rfl fun a hF=>q_end (n_sq ?_))))
  rcases bcase (decide (0 ≤ k_7)) with hc2 | hc2
  ·have hb1:=cond_f hc2 hb1
   refine q_cond_f hF rfl hc2 (q_exit (x_sq ?_))
   obtain rfl:=someI hb1
   exact ⟨nofun,.inl ⟨q6,rfl,hF.sub ⟨rfl,trivial⟩,hS,h6⟩⟩
  ·have hb1:=cond_t hc2 hb1
   refine q_cond_t hF rfl hc2 (q_skipc (n_sq (q_seq (q_block (q_seq (q_region (q_x (v:=s3.v) hF hS (ex_move rfl) rfl rfl fun a hF=>q_x (v:=(iV k_7)) hF hS (ex_move rfl) rfl rfl fun a hF=>q_x (v:=(iV i_4)) hF hS (ex_move rfl) rfl rfl fun a hF=>q_x (v:=s1.v) hF hS (ex_move rfl) rfl rfl fun a hF=>q_x (v:=(iV k_7)) hF hS (ex_move rfl) rfl rfl fun a hF=>?_)))))))
   obtain ⟨e_8,he_8,hb1⟩:=bindS hb1
   obtain ⟨vs9,at9,d9⟩:=h1.at he_8 2 rfl
   obtain rfl : vs9 = [(strV e_8.Name),(iV e_8.Levels)]:=d9
   refine q_x (v:=(elP s1 (k_7.toNat * 2))) hF hS (ex_indexAddr Tryz.underlying27 sz88 rfl rfl (h1.idx he_8)) rfl rfl fun a hF=>q_x (v:=(elP s1 (k_7.toNat * 2 + 1))) hF hS (ex_fieldAddrE Tryz.underlying88 rfl sz3 rfl (h1.idx he_8) rfl) rfl rfl fun a hF=>q_x (v:=(iV e_8.Levels)) hF hS (ex_loadE1 1 Tryz.underlying3 rfl rfl ((at9).at) rfl rfl) rfl rfl fun a hF=>?_
   obtain ⟨t_10,ht_10,hb1⟩:=bindS hb1
   refine q_x (v:=(iV t_10)) hF hS (ex_rem rfl rfl ht_10) rfl rfl fun a hF=>?_
   obtain ⟨e_11,he_11,hb1⟩:=bindS hb1
   obtain ⟨vs12,at12,d12⟩:=h6.at he_11 1 rfl
   obtain rfl : vs12 = [(iV e_11)]:=d12
   refine q_x (v:=(elP s3 (k_7.toNat * 1))) hF hS (ex_indexAddr Tryz.underlying24 sz3 rfl rfl (h6.idx he_11)) rfl rfl fun a hF=>q_do rfl fun _ hK=>wp_storeE (e':=t_10) (us:=[(iV t_10)]) (vs:=[(iV e_11)]) 0 hF hS h6 sz3 rfl rfl rfl rfl rfl rfl rfl he_11 at12 rfl rfl rfl fun w q13 hS h13=>hK _ _ (q_end (n_sq (q_region (q_x (v:=(iV i_4)) hF hS (ex_move rfl) rfl rfl fun a hF=>q_x (v:=s1.v) hF hS (ex_move rfl) rfl rfl fun a hF=>q_x (v:=(iV k_7)) hF hS (ex_move rfl) rfl rfl fun a hF=>?_))))
   obtain ⟨e_14,he_14,hb1⟩:=bindS hb1
   obtain ⟨vs15,at15,d15⟩:=h1.at he_14 2 rfl
   obtain rfl : vs15 = [(strV e_14.Name),(iV e_14.Levels)]:=d15
   refine q_x (v:=(elP s1 (k_7.toNat * 2))) hF hS (ex_indexAddr Tryz.underlying27 sz88 rfl rfl (h1.idx he_14)) rfl rfl fun a hF=>q_x (v:=(elP s1 (k_7.toNat * 2 + 1))) hF hS (ex_fieldAddrE Tryz.underlying88 rfl sz3 rfl (h1.idx he_14) rfl) rfl rfl fun a hF=>q_x (v:=(iV e_14.Levels)) hF hS (ex_loadE1 1 Tryz.underlying3 rfl rfl ((at15).at) rfl rfl) rfl rfl fun a hF=>?_
   obtain ⟨t_16,ht_16,hb1⟩:=bindS hb1
   refine q_x (v:=(iV t_16)) hF hS (ex_quo rfl rfl ht_16) rfl rfl fun a hF=>q_x (v:=(iV t_16)) hF hS (ex_assign rfl) rfl rfl fun a hF=>q_end (n_ib (n_sq (q_region (q_x (v:=(iV k_7)) hF hS (ex_move rfl) rfl rfl fun a hF=>q_x (v:=(iV (w64 (k_7 - 1)))) hF hS (ex_ibin rfl rfl rfl) rfl rfl fun a hF=>q_x (v:=(iV (w64 (k_7 - 1)))) hF hS (ex_assign rfl) rfl rfl fun a hF=>q_end ?_))))
   obtain rfl:=someI hb1
   exact ⟨rfl,q13,_,_,_,rfl,hF.sub ⟨rfl,rfl,rfl,rfl,trivial⟩,hS,h13⟩
 ·rintro e a w ⟨q18,rfl,hF,hS,h18⟩
  refine x_ib (n_sq ?_)
  refine q_seq (q_region (q_x (v:=s3.v) hF hS (ex_move rfl) rfl rfl fun a hF=>q_x (v:=s3.v) hF hS (ex_assign rfl) rfl rfl fun a hF=>q_end (n_sq (q_ret ?_))))
  obtain rfl:=someI hr
  exact ret_of hF hS rfl (.tmp rfl .nil) ⟨q18,s3,rfl,hS.sel [0] (by decide),h18⟩

theorem c_impl_cellAt (p_g : impl_Geo) (p_s : List impl_Variable) (p_t : impl_Table) (p_i : Int) (r : Int × (List Int)) (hr : impl_cellAt p_g p_s p_t p_i = some r) (w0 : World) (m : Mem) (hv : Vis m w0) (s1 : Sl) (h1 : Rd m s1 p_g.Parents) (s2 : Sl) (h2 : Rd m s2 p_s) (s3 : Sl) (h3 : Rd m s3 p_t.Vars) (s4 : Sl) (h4 : Rd m s4 p_t.Where) :
  Ret Tryz.prog 29 [(.agg #[s1.v]),s2.v,(.agg #[(iV p_t.Level),s3.v,s4.v,(iV p_t.Sum)]),(iV p_i)] w0 (fun v w=>∃ (q0' : Piece) (s0' : Sl),v = (.tuple #[(iV r.1),s0'.v])∧St [] w0 w m [q0']∧OwnL m 3 q0' s0' r.2):=by
 unfold impl_cellAt at hr
 refine ret_start Tryz.func29 rfl 31 rfl rfl m hv fun a hF hS=>q_seq (q_region (q_box (cs:=[s1.v]) hF hS rfl rfl rfl fun a w b5 hF hS=>q_box (cs:=[(iV p_t.Level),s3.v,s4.v,(iV p_t.Sum)]) hF hS rfl rfl rfl fun a w b6 hF hS=>q_x (v:=(iV 0)) hF hS (ex_assign rfl) rfl rfl fun a hF=>q_x (v:=nilS.v) hF hS (ex_assign rfl) rfl rfl fun a hF=>q_end (n_sq (q_seq (q_region (q_x (v:=s2.v) hF hS (ex_move rfl) rfl rfl fun a hF=>q_x (v:=(.agg #[(iV p_t.Level),s3.v,s4.v,(iV p_t.Sum)])) hF hS (ex_loadA (vs:=[(iV p_t.Level),s3.v,s4.v,(iV p_t.Sum)]) 0 0 Tryz.underlying29 rfl sz29 rfl rfl rfl rfl) rfl rfl fun a hF=>?_))))))
 obtain ⟨t_7,ht_7,hr⟩:=bindS hr
 refine q_call (vs:=[s2.v,(.agg #[(iV p_t.Level),s3.v,s4.v,(iV p_t.Sum)])]) hF hS Tryz.func72 (by kernel_rfl) rfl rfl rfl (c_impl_crossed p_s p_t t_7 ht_7 _ m hS.vis s2 h2 s3 h3 s4 h4) ?_
 rintro a w _ ⟨q9,s9,rfl,hR8,h9⟩ hF hS2
 have hS : St _ _ _ _ [q9,[⟨b6,[(iV p_t.Level),s3.v,s4.v,(iV p_t.Sum)],29⟩],[⟨b5,[s1.v],26⟩]]:=hS.joinF hR8
 refine q_x (v:=s9.v) hF hS (ex_assign rfl) rfl rfl fun a hF=>q_end (n_sq (q_seq (q_region (q_x (v:=s9.v) hF hS (ex_move rfl) rfl rfl fun a hF=>?_))))
 obtain ⟨m11,hl11,hv11,hz11⟩:=hS.lend
 obtain ⟨t_10,ht_10,hr⟩:=bindS hr
 refine q_call (vs:=[s9.v]) hF hS Tryz.func71 (by kernel_rfl) rfl rfl rfl (c_impl_combinations t_7 t_10 ht_10 _ m11 hv11 s9 (h9.froz hl11 (hz11 0 _ rfl))) ?_
 rintro a w _ rfl hF hS
 refine q_x (v:=(iV t_10)) hF hS (ex_assign rfl) rfl rfl fun a hF=>q_end (n_sq (q_seq (e_region ⟨[],[]⟩ mixed fun w' hw'=>?_)))
 have hS:=hS.below hw'
 refine e_x (v:=(.agg #[s1.v])) 0 hF hS rfl (ex_loadA (vs:=[s1.v]) 2 0 Tryz.underlying26 rfl sz26 rfl rfl rfl rfl) rfl rfl (by kernel_rfl) (by kernel_rfl) (by kernel_rfl) (by kernel_rfl) fun a hF=>e_p (v:=(.pointer (some ⟨b6,0,none⟩))) 1 hF rfl (ex_fieldAddr Tryz.underlying29 rfl sz3 rfl rfl) rfl rfl (by kernel_rfl) (by kernel_rfl) (by kernel_rfl) fun a hF=>e_x (v:=(iV p_t.Level)) 2 hF hS rfl (ex_load1 1 0 Tryz.underlying3 rfl rfl rfl rfl) rfl rfl (by kernel_rfl) (by kernel_rfl) (by kernel_rfl) (by kernel_rfl) fun a hF=>e_p (v:=(iV p_i)) 4 hF rfl (ex_move rfl) rfl rfl (by kernel_rfl) (by kernel_rfl) (by kernel_rfl) fun a hF=>e_p (v:=(iV t_10)) 5 hF rfl (ex_move rfl) rfl rfl (by kernel_rfl) (by kernel_rfl) (by kernel_rfl) fun a hF=>?_
 obtain ⟨t_21,ht_21,hr⟩:=bindS hr
 refine e_p (v:=(iV t_21)) 6 hF rfl (ex_quo rfl rfl ht_21) rfl rfl (by kernel_rfl) (by kernel_rfl) (by kernel_rfl) fun a hF=>e_p (v:=s9.v) 9 hF rfl (ex_move rfl) rfl rfl (by kernel_rfl) (by kernel_rfl) (by kernel_rfl) fun a hF=>e_p (v:=(iV p_i)) 10 hF rfl (ex_move rfl) rfl rfl (by kernel_rfl) (by kernel_rfl) (by kernel_rfl) fun a hF=>e_p (v:=(iV t_10)) 11 hF rfl (ex_move rfl) rfl rfl (by kernel_rfl) (by kernel_rfl) (by kernel_rfl) fun a hF=>?_
 obtain ⟨t_34,ht_34,hr⟩:=bindS hr
 refine e_p (v:=(iV t_34)) 12 hF rfl (ex_rem rfl rfl ht_34) rfl rfl (by kernel_rfl) (by kernel_rfl) (by kernel_rfl) fun a hF=>e_one 3 (by kernel_rfl) ?_
 obtain ⟨t_35,ht_35,hr⟩:=bindS hr
 refine e_call (vs:=[(.agg #[s1.v]),(iV p_t.Level)]) hF hS rfl Tryz.func70 (by kernel_rfl) rfl rfl rfl (c_impl_areasAt p_g p_t.Level t_35 ht_35 _ m hS.vis s1 h1) ?_
 rintro a w _ ⟨q37,s37,rfl,hR36,h37⟩ hF hS2
 have hS : St _ _ _ _ [q37,q9,[⟨b6,[(iV p_t.Level),s3.v,s4.v,(iV p_t.Sum)],29⟩],[⟨b5,[s1.v],26⟩]]:=hS.joinF hR36
 obtain ⟨e_38,he_38,hr⟩:=bindS hr
 obtain ⟨vs39,at39,d39⟩:=h37.at he_38 1 rfl
 obtain rfl : vs39 = [(iV e_38)]:=d39
 refine e_p (v:=(elP s37 (t_21.toNat * 1))) 7 hF rfl (ex_indexAddr Tryz.underlying24 sz3 rfl rfl (h37.idx he_38)) rfl rfl (by kernel_rfl) (by kernel_rfl) (by kernel_rfl) fun a hF=>e_x (v:=(iV e_38)) 8 hF hS rfl (ex_loadE1 0 Tryz.underlying3 rfl rfl (at39.at 0 rfl) rfl rfl) rfl rfl (by kernel_rfl) (by kernel_rfl) (by kernel_rfl) (by kernel_rfl) fun a hF=>e_one 13 (by kernel_rfl) ?_
 obtain ⟨m41,hl41,hv41,hz41⟩:=hS.lend
 obtain ⟨t_40,ht_40,hr⟩:=bindS hr
 refine e_call (vs:=[s9.v,(iV t_34)]) hF hS rfl Tryz.func73 (by kernel_rfl) rfl rfl rfl (c_impl_valuesAt t_7 t_34 t_40 ht_40 _ m41 hv41 s9 (h9.froz hl41 (hz41 1 _ rfl))) ?_
 rintro a w _ ⟨q43,s43,rfl,hR42,h43⟩ hF hS2
 have hS : St _ _ _ _ [q43,q37,q9,[⟨b6,[(iV p_t.Level),s3.v,s4.v,(iV p_t.Sum)],29⟩],[⟨b5,[s1.v],26⟩]]:=hS.joinF hR42
 have h43:=h43.any m
 refine e_p (v:=(iV e_38)) 14 hF rfl (ex_assign rfl) rfl rfl (by kernel_rfl) (by kernel_rfl) (by kernel_rfl) fun a hF=>e_p (v:=s43.v) 15 hF rfl (ex_assign rfl) rfl rfl (by kernel_rfl) (by kernel_rfl) (by kernel_rfl) fun a hF=>e_end (by kernel_rfl) (n_sq (q_ret ?_)) _
 obtain rfl:=someI hr
 exact ret_of hF hS rfl (.tmp rfl (.tmp rfl .nil)) ⟨q43,s43,rfl,hS.sel [0] (by decide),h43⟩

theorem c_impl_ancestorAt (p_g : impl_Geo) (p_i : Int) (p_level : Int) (r : Int) (hr : impl_ancestorAt p_g p_i p_level = some r) (w0 : World) (m : Mem) (hv : Vis m w0) (s1 : Sl) (h1 : Rd m s1 p_g.Parents) :
  Ret Tryz.prog 75 [(.agg #[s1.v]),(iV p_i),(iV p_level)] w0 (fun v _=>v = (iV r)):=by
 unfold impl_ancestorAt at hr
 refine ret_start Tryz.func75 rfl 29 rfl rfl m hv fun a hF hS=>q_seq (q_region (q_box (cs:=[s1.v]) hF hS rfl rfl rfl fun a w b2 hF hS=>q_x (v:=(iV 0)) hF hS (ex_assign rfl) rfl rfl fun a hF=>q_end (n_sq (q_seq (q_region (q_x (v:=(.agg #[s1.v])) hF hS (ex_loadA (vs:=[s1.v]) 0 0 Tryz.underlying26 rfl sz26 rfl rfl rfl rfl) rfl rfl fun a hF=>q_x (v:=(iV p_i)) hF hS (ex_move rfl) rfl rfl fun a hF=>?_))))))
 obtain ⟨t_3,ht_3,hr⟩:=bindS hr
 refine q_call (vs:=[(.agg #[s1.v]),(iV p_i)]) hF hS Tryz.func60 (by kernel_rfl) rfl rfl rfl (c_impl_depthOf p_g p_i t_3 ht_3 _ m hS.vis s1 h1) ?_
 rintro a w _ rfl hF hS
 refine q_x (v:=(iV t_3)) hF hS (ex_assign rfl) rfl rfl fun a hF=>q_end (n_sq (q_seq (q_seq ?_)))
 obtain ⟨t_4,hj1,hr⟩:=bindS hr
 refine q_join (fun a w=>Fr a 29 [(1,(iV p_i)),(2,(iV p_level)),(3,(.pointer (some ⟨b2,0,none⟩))),(7,(iV t_3)),(17,(.bool t_4))]∧St [] w0 w m [[⟨b2,[s1.v],26⟩]]) ?_ ?_
 ·refine q_region (q_x (v:=(iV p_level)) hF hS (ex_move rfl) rfl rfl fun a hF=>q_x (v:=(.bool (decide (p_level < 0)))) hF hS (ex_ibin rfl rfl rfl) rfl rfl fun a hF=>q_x (v:=(.bool (decide (p_level < 0)))) hF hS (ex_move rfl) rfl rfl fun a hF=>?_)
  rcases bcase (decide (p_level < 0)) with hc2 | hc2
  ·have hj1:=cond_f hc2 hj1
   refine q_xg (v:=(iV t_3)) hF hS (ex_move rfl) (wanted_t hF rfl rfl rfl hc2) rfl fun a hF=>q_xg (v:=(iV p_level)) hF hS (ex_move rfl) (wanted_t hF rfl rfl rfl hc2) rfl fun a hF=>q_xg (v:=(.bool (decide (t_3 < p_level)))) hF hS (ex_ibin rfl rfl rfl) (wanted_t hF rfl rfl rfl hc2) rfl fun a hF=>q_x (v:=(.bool (decide (t_3 < p_level)))) hF hS (ex_pick_f rfl rfl hc2) rfl rfl fun a hF=>q_end (n_jn ?_)
   obtain rfl:=someI hj1
   exact ⟨hF.sub ⟨rfl,rfl,rfl,rfl,rfl,trivial⟩,hS⟩
  ·have hj1:=cond_t hc2 hj1
   refine q_skip hF (wanted_f hF rfl rfl rfl hc2 rfl) rfl fun a hF=>q_skip hF (wanted_f hF rfl rfl rfl hc2 rfl) rfl fun a hF=>q_skip hF (wanted_f hF rfl rfl rfl hc2 rfl) rfl fun a hF=>q_x (v:=(.bool true)) hF hS (ex_pick_t rfl rfl hc2) rfl rfl fun a hF=>q_end (n_jn ?_)
   obtain rfl:=someI hj1
   exact ⟨hF.sub ⟨rfl,rfl,rfl,rfl,rfl,trivial⟩,hS⟩
 ·rintro a w ⟨hF,hS⟩
  refine n_sq ?_
  rcases bcase (t_4) with hc3 | hc3
  ·have hr:=cond_f hc3 hr
   refine q_cond_f hF rfl hc3 (q_skipc (n_sq (q_seq (q_block ?_))))
   obtain ⟨i_9,hl4,hr⟩:=bindS hr
   refine q_loop (fun (s : Int × Int) a w=>∃ i_5,∃ d_6,s = (i_5,d_6)∧Fr a 29 [(1,(iV i_5)),(2,(iV p_level)),(3,(.pointer (some ⟨b2,0,none⟩))),(7,(iV d_6))]∧St [] w0 w m [[⟨b2,[s1.v],26⟩]]) (fun (i_9 : Int) e a w=>e = .exit 0∧Fr a 29 [(1,(iV i_9))]∧St [] w0 w m []) hl4 ⟨_,_,rfl,hF.sub ⟨rfl,rfl,rfl,rfl,trivial⟩,hS⟩ ?_ ?_
   ·clear hF hS
    rintro s a w st ⟨i_5,d_6,rfl,hF,hS⟩ hb4
    unfold impl_ancestorAt_l1 at hb4
    refine q_seq (q_seq (q_region (q_x (v:=(iV d_6)) hF hS (ex_move rfl) rfl rfl fun a hF=>q_x (v:=(iV p_level)) hF hS (ex_move rfl) rfl rfl fun a hF=>q_x (v:=(.bool (decide (p_level < d_6)))) hF hS (ex_ibin rfl rfl rfl) rfl rfl fun a hF=>q_end (n_sq ?_))))
    rcases bcase (decide (p_level < d_6)) with hc5 | hc5
    ·have hb4:=cond_f hc5 hb4
     refine q_cond_f hF rfl hc5 (q_exit (x_sq ?_))
     obtain rfl:=someI hb4
     exact ⟨nofun,.inl ⟨rfl,hF.sub ⟨rfl,trivial⟩,hS.mask [false]⟩⟩
    ·have hb4:=cond_t hc5 hb4
     refine q_cond_t hF rfl hc5 (q_skipc (n_sq (q_seq (q_block (q_region (q_x (v:=(.pointer (some ⟨b2,0,none⟩))) hF hS (ex_fieldAddr Tryz.underlying26 rfl sz24 rfl rfl) rfl rfl fun a hF=>q_x (v:=s1.v) hF hS (ex_load1 0 0 Tryz.underlying24 rfl rfl rfl rfl) rfl rfl fun a hF=>q_x (v:=(iV i_5)) hF hS (ex_move rfl) rfl rfl fun a hF=>?_))))))
     obtain ⟨e_7,he_7,hb4⟩:=bindS hb4
     obtain ⟨vs8,at8,d8⟩:=h1.at he_7 1 rfl
     obtain rfl : vs8 = [(iV e_7)]:=d8
     refine q_x (v:=(elP s1 (i_5.toNat * 1))) hF hS (ex_indexAddr Tryz.underlying24 sz3 rfl rfl (h1.idx he_7)) rfl rfl fun a hF=>q_x (v:=(iV e_7)) hF hS (ex_loadE1 0 Tryz.underlying3 rfl rfl ((at8).at) rfl rfl) rfl rfl fun a hF=>q_x (v:=(iV e_7)) hF hS (ex_assign rfl) rfl rfl fun a hF=>q_end (n_ib (n_sq (q_region (q_x (v:=(iV d_6)) hF hS (ex_move rfl) rfl rfl fun a hF=>q_x (v:=(iV (w64 (d_6 - 1)))) hF hS (ex_ibin rfl rfl rfl) rfl rfl fun a hF=>q_x (v:=(iV (w64 (d_6 - 1)))) hF hS (ex_assign rfl) rfl rfl fun a hF=>q_end ?_))))
     obtain rfl:=someI hb4
     exact ⟨rfl,_,_,rfl,hF.sub ⟨rfl,rfl,rfl,rfl,trivial⟩,hS⟩
   ·rintro e a w ⟨rfl,hF,hS⟩
    refine x_ib (n_sq ?_)
    refine q_seq (q_region (q_x (v:=(iV i_9)) hF hS (ex_move rfl) rfl rfl fun a hF=>q_x (v:=(iV i_9)) hF hS (ex_assign rfl) rfl rfl fun a hF=>q_end (n_sq (q_ret ?_))))
    obtain rfl:=someI hr
    exact ret_of hF hS rfl (.tmp rfl .nil) rfl
  ·have hr:=cond_t hc3 hr
   refine q_cond_t hF rfl hc3 (q_seq (q_region (q_x (v:=(iV (-1))) hF hS (ex_assign rfl) rfl rfl fun a hF=>q_end (n_sq (q_ret (r_sq ?_))))))
   obtain rfl:=someI hr
   exact ret_of hF hS rfl (.tmp rfl .nil) rfl

theorem c_cmp_isNaN_int (p_x : Int) (r : Bool) (hr : cmp_isNaN_int p_x = some r) (w0 : World) (m : Mem) (hv : Vis m w0) :
  Ret Tryz.prog 108 [(iV p_x)] w0 (fun v _=>v = (.bool r)):=by
 unfold cmp_isNaN_int at hr
 refine ret_start Tryz.func108 rfl 6 rfl rfl m hv fun a hF hS=>q_seq (q_region (q_x (v:=(.bool false)) hF hS (ex_assign rfl) rfl rfl fun a hF=>q_end (n_sq (q_seq (q_region (q_x (v:=(iV p_x)) hF hS (ex_move rfl) rfl rfl fun a hF=>q_x (v:=(iV p_x)) hF hS (ex_move rfl) rfl rfl fun a hF=>q_x (v:=(.bool (p_x != p_x))) hF hS (ex_ibin rfl rfl rfl) rfl rfl fun a hF=>q_x (v:=(.bool (p_x != p_x))) hF hS (ex_assign rfl) rfl rfl fun a hF=>q_end (n_sq (q_ret ?_))))))))
 obtain rfl:=someI hr
 exact ret_of hF hS rfl (.tmp rfl .nil) rfl

theorem c_cmp_Less_int (p_x : Int) (p_y : Int) (r : Bool) (hr : cmp_Less_int p_x p_y = some r) (w0 : World) (m : Mem) (hv : Vis m w0) :
  Ret Tryz.prog 104 [(iV p_x),(iV p_y)] w0 (fun v _=>v = (.bool r)):=by
 unfold cmp_Less_int at hr
 refine ret_start Tryz.func104 rfl 17 rfl rfl m hv fun a hF hS=>q_seq (q_region (q_x (v:=(.bool false)) hF hS (ex_assign rfl) rfl rfl fun a hF=>q_end (n_sq (q_seq ?_))))
 obtain ⟨t_3,hj1,hr⟩:=bindS hr
 refine q_join (fun a w=>Fr a 17 [(4,(.bool t_3))]∧St [] w0 w m []) ?_ ?_
 ·refine q_region (q_x (v:=(iV p_x)) hF hS (ex_move rfl) rfl rfl fun a hF=>?_)
  obtain ⟨t_1,ht_1,hj1⟩:=bindS hj1
  refine q_call (vs:=[(iV p_x)]) hF hS Tryz.func108 (by kernel_rfl) rfl rfl rfl (c_cmp_isNaN_int p_x t_1 ht_1 _ m hS.vis) ?_
  rintro a w _ rfl hF hS
  refine q_x (v:=(.bool t_1)) hF hS (ex_move rfl) rfl rfl fun a hF=>?_
  rcases bcase (t_1) with hc2 | hc2
  ·have hj1:=cond_f hc2 hj1
   refine q_skip hF (wanted_f hF rfl rfl rfl hc2 rfl) rfl fun a hF=>q_skip hF (wanted_f hF rfl rfl rfl hc2 rfl) rfl fun a hF=>q_skip hF (wanted_f hF rfl rfl rfl hc2 rfl) rfl fun a hF=>q_x (v:=(.bool false)) hF hS (ex_pick_f rfl rfl hc2) rfl rfl fun a hF=>q_x (v:=(.bool false)) hF hS (ex_move rfl) rfl rfl fun a hF=>q_xg (v:=(iV p_x)) hF hS (ex_move rfl) (wanted_t hF rfl rfl rfl rfl) rfl fun a hF=>q_xg (v:=(iV p_y)) hF hS (ex_move rfl) (wanted_t hF rfl rfl rfl rfl) rfl fun a hF=>q_xg (v:=(.bool (decide (p_x < p_y)))) hF hS (ex_ibin rfl rfl rfl) (wanted_t hF rfl rfl rfl rfl) rfl fun a hF=>q_x (v:=(.bool (decide (p_x < p_y)))) hF hS (ex_pick_f rfl rfl rfl) rfl rfl fun a hF=>q_x (v:=(.bool (decide (p_x < p_y)))) hF hS (ex_assign rfl) rfl rfl fun a hF=>q_end (n_jn ?_)
   obtain rfl:=someI hj1
   exact ⟨hF.sub ⟨rfl,trivial⟩,hS⟩
  ·have hj1:=cond_t hc2 hj1
   refine q_xg (v:=(iV p_y)) hF hS (ex_move rfl) (wanted_t hF rfl rfl rfl hc2) rfl fun a hF=>?_
   obtain ⟨t_2,ht_2,hj1⟩:=bindS hj1
   refine q_callg (vs:=[(iV p_y)]) hF hS (wanted_t hF rfl rfl rfl hc2) Tryz.func108 (by kernel_rfl) rfl rfl rfl (c_cmp_isNaN_int p_y t_2 ht_2 _ m hS.vis) ?_
   rintro a w _ rfl hF hS
   refine q_xg (v:=(.bool (!t_2))) hF hS (ex_not rfl) (wanted_t hF rfl rfl rfl hc2) rfl fun a hF=>q_x (v:=(.bool (!t_2))) hF hS (ex_pick_t rfl rfl hc2) rfl rfl fun a hF=>q_x (v:=(.bool (!t_2))) hF hS (ex_move rfl) rfl rfl fun a hF=>?_
   rcases bcase (!t_2) with hc3 | hc3
   ·have hj1:=cond_f hc3 hj1
    refine q_xg (v:=(iV p_x)) hF hS (ex_move rfl) (wanted_t hF rfl rfl rfl hc3) rfl fun a hF=>q_xg (v:=(iV p_y)) hF hS (ex_move rfl) (wanted_t hF rfl rfl rfl hc3) rfl fun a hF=>q_xg (v:=(.bool (decide (p_x < p_y)))) hF hS (ex_ibin rfl rfl rfl) (wanted_t hF rfl rfl rfl hc3) rfl fun a hF=>q_x (v:=(.bool (decide (p_x < p_y)))) hF hS (ex_pick_f rfl rfl hc3) rfl rfl fun a hF=>q_x (v:=(.bool (decide (p_x < p_y)))) hF hS (ex_assign rfl) rfl rfl fun a hF=>q_end (n_jn ?_)
    obtain rfl:=someI hj1
    exact ⟨hF.sub ⟨rfl,trivial⟩,hS⟩
   ·have hj1:=cond_t hc3 hj1
    refine q_skip hF (wanted_f hF rfl rfl rfl hc3 rfl) rfl fun a hF=>q_skip hF (wanted_f hF rfl rfl rfl hc3 rfl) rfl fun a hF=>q_skip hF (wanted_f hF rfl rfl rfl hc3 rfl) rfl fun a hF=>q_x (v:=(.bool true)) hF hS (ex_pick_t rfl rfl hc3) rfl rfl fun a hF=>q_x (v:=(.bool true)) hF hS (ex_assign rfl) rfl rfl fun a hF=>q_end (n_jn ?_)
    obtain rfl:=someI hj1
    exact ⟨hF.sub ⟨rfl,trivial⟩,hS⟩
 ·rintro a w ⟨hF,hS⟩
  refine n_sq (q_ret ?_)
  obtain rfl:=someI hr
  exact ret_of hF hS rfl (.tmp rfl .nil) rfl

theorem c_slices_isNaN_int (p_x : Int) (r : Bool) (hr : slices_isNaN_int p_x = some r) (w0 : World) (m : Mem) (hv : Vis m w0) :
  Ret Tryz.prog 105 [(iV p_x)] w0 (fun v _=>v = (.bool r)):=by
 unfold slices_isNaN_int at hr
 refine ret_start Tryz.func105 rfl 6 rfl rfl m hv fun a hF hS=>q_seq (q_region (q_x (v:=(.bool false)) hF hS (ex_assign rfl) rfl rfl fun a hF=>q_end (n_sq (q_seq (q_region (q_x (v:=(iV p_x)) hF hS (ex_move rfl) rfl rfl fun a hF=>q_x (v:=(iV p_x)) hF hS (ex_move rfl) rfl rfl fun a hF=>q_x (v:=(.bool (p_x != p_x))) hF hS (ex_ibin rfl rfl rfl) rfl rfl fun a hF=>q_x (v:=(.bool (p_x != p_x))) hF hS (ex_assign rfl) rfl rfl fun a hF=>q_end (n_sq (q_ret ?_))))))))
 obtain rfl:=someI hr
 exact ret_of hF hS rfl (.tmp rfl .nil) rfl

theorem c_slices_BinarySearch_int_int (p_x : List Int) (p_target : Int) (r : Int × Bool) (hr : slices_BinarySearch_int_int p_x p_target = some r) (w0 : World) (m : Mem) (hv : Vis m w0) (s1 : Sl) (h1 : Rd m s1 p_x) :
  Ret Tryz.prog 98 [s1.v,(iV p_target)] w0 (fun v _=>v = (.tuple #[(iV r.1),(.bool r.2)])):=by
 unfold slices_BinarySearch_int_int at hr
 refine ret_start Tryz.func98 rfl 54 rfl rfl m hv fun a hF hS=>q_seq (q_region (q_x (v:=(iV 0)) hF hS (ex_assign rfl) rfl rfl fun a hF=>q_x (v:=(.bool false)) hF hS (ex_assign rfl) rfl rfl fun a hF=>q_end (n_sq (q_seq (q_region (q_x (v:=s1.v) hF hS (ex_move rfl) rfl rfl fun a hF=>q_x (v:=(iV (goLen p_x))) hF hS (ex_len Tryz.underlying24 rfl h1.len) rfl rfl fun a hF=>q_x (v:=(iV (goLen p_x))) hF hS (ex_assign rfl) rfl rfl fun a hF=>q_end (n_sq (q_seq (q_region (q_x (v:=(iV (goLen p_x))) hF hS (ex_move rfl) rfl rfl fun a hF=>q_x (v:=(iV 0)) hF hS (ex_assign rfl) rfl rfl fun a hF=>q_x (v:=(iV (goLen p_x))) hF hS (ex_assign rfl) rfl rfl fun a hF=>q_end (n_sq (q_seq (q_block ?_)))))))))))))
 obtain ⟨i_10,hl1,hr⟩:=bindS hr
 refine q_loop (fun (s : Int × Int) a w=>∃ i_2,∃ j_3,s = (i_2,j_3)∧Fr a 54 [(0,s1.v),(1,(iV p_target)),(6,(iV (goLen p_x))),(7,(iV i_2)),(8,(iV j_3))]∧St [] w0 w m []) (fun (i_10 : Int) e a w=>e = .exit 0∧Fr a 54 [(0,s1.v),(1,(iV p_target)),(6,(iV (goLen p_x))),(7,(iV i_10))]∧St [] w0 w m []) hl1 ⟨_,_,rfl,hF.sub ⟨rfl,rfl,rfl,rfl,rfl,trivial⟩,hS⟩ ?_ ?_
 ·clear hF hS
  rintro s a w st ⟨i_2,j_3,rfl,hF,hS⟩ hb1
  unfold slices_BinarySearch_int_int_l1 at hb1
  refine q_seq (q_seq (q_region (q_x (v:=(iV i_2)) hF hS (ex_move rfl) rfl rfl fun a hF=>q_x (v:=(iV j_3)) hF hS (ex_move rfl) rfl rfl fun a hF=>q_x (v:=(.bool (decide (i_2 < j_3)))) hF hS (ex_ibin rfl rfl rfl) rfl rfl fun a hF=>q_end (n_sq ?_))))
  rcases bcase (decide (i_2 < j_3)) with hc2 | hc2
  ·have hb1:=cond_f hc2 hb1
   refine q_cond_f hF rfl hc2 (q_exit (x_sq ?_))
   obtain rfl:=someI hb1
   exact ⟨nofun,.inl ⟨rfl,hF.sub ⟨rfl,rfl,rfl,rfl,trivial⟩,hS⟩⟩
  ·have hb1:=cond_t hc2 hb1
   refine q_cond_t hF rfl hc2 (q_skipc (n_sq (q_block (q_seq (q_region (q_x (v:=(iV i_2)) hF hS (ex_move rfl) rfl rfl fun a hF=>q_x (v:=(iV j_3)) hF hS (ex_move rfl) rfl rfl fun a hF=>q_x (v:=(iV (w64 (i_2 + j_3)))) hF hS (ex_ibin rfl rfl rfl) rfl rfl fun a hF=>q_x (v:=(.int .u64 (IntKind.wrap .u64 (w64 (i_2 + j_3))))) hF hS (ex_conv Tryz.underlying3 Tryz.underlying72 rfl) rfl rfl fun a hF=>?_))))))
   obtain ⟨t_4,ht_4,hb1⟩:=bindS hb1
   refine q_x (v:=(.int .u64 t_4)) hF hS (ex_shr rfl rfl ht_4) rfl rfl fun a hF=>q_x (v:=(iV (w64 t_4))) hF hS (ex_conv Tryz.underlying72 Tryz.underlying3 rfl) rfl rfl fun a hF=>q_x (v:=(iV (w64 t_4))) hF hS (ex_assign rfl) rfl rfl fun a hF=>q_end (n_sq (q_seq (q_region (q_x (v:=s1.v) hF hS (ex_move rfl) rfl rfl fun a hF=>q_x (v:=(iV (w64 t_4))) hF hS (ex_move rfl) rfl rfl fun a hF=>?_))))
   obtain ⟨e_5,he_5,hb1⟩:=bindS hb1
   obtain ⟨vs6,at6,d6⟩:=h1.at he_5 1 rfl
   obtain rfl : vs6 = [(iV e_5)]:=d6
   refine q_x (v:=(elP s1 ((w64 t_4).toNat * 1))) hF hS (ex_indexAddr Tryz.underlying24 sz3 rfl rfl (h1.idx he_5)) rfl rfl fun a hF=>q_x (v:=(iV e_5)) hF hS (ex_loadE1 0 Tryz.underlying3 rfl rfl ((at6).at) rfl rfl) rfl rfl fun a hF=>q_x (v:=(iV p_target)) hF hS (ex_move rfl) rfl rfl fun a hF=>?_
   obtain ⟨t_7,ht_7,hb1⟩:=bindS hb1
   refine q_call (vs:=[(iV e_5),(iV p_target)]) hF hS Tryz.func104 (by kernel_rfl) rfl rfl rfl (c_cmp_Less_int e_5 p_target t_7 ht_7 _ m hS.vis) ?_
   rintro a w _ rfl hF hS
   refine q_end (n_sq ?_)
   obtain ⟨j3,hj3,hb1⟩:=bindS hb1
   refine q_join (fun a w=>∃ i_8,∃ j_9,j3 = (i_8,j_9)∧Fr a 54 [(0,s1.v),(1,(iV p_target)),(6,(iV (goLen p_x))),(7,(iV i_8)),(8,(iV j_9))]∧St [] w0 w m []) ?_ ?_
   ·rcases bcase (t_7) with hc4 | hc4
    ·have hj3:=cond_f hc4 hj3
     refine q_cond_f hF rfl hc4 (q_region (q_x (v:=(iV (w64 t_4))) hF hS (ex_move rfl) rfl rfl fun a hF=>q_x (v:=(iV (w64 t_4))) hF hS (ex_assign rfl) rfl rfl fun a hF=>q_end (n_jn ?_)))
     obtain rfl:=someI hj3
     exact ⟨_,_,rfl,hF.sub ⟨rfl,rfl,rfl,rfl,rfl,trivial⟩,hS⟩
    ·have hj3:=cond_t hc4 hj3
     refine q_cond_t hF rfl hc4 (q_region (q_x (v:=(iV (w64 t_4))) hF hS (ex_move rfl) rfl rfl fun a hF=>q_x (v:=(iV (w64 ((w64 t_4) + 1)))) hF hS (ex_ibin rfl rfl rfl) rfl rfl fun a hF=>q_x (v:=(iV (w64 ((w64 t_4) + 1)))) hF hS (ex_assign rfl) rfl rfl fun a hF=>q_end (n_jn ?_)))
     obtain rfl:=someI hj3
     exact ⟨_,_,rfl,hF.sub ⟨rfl,rfl,rfl,rfl,rfl,trivial⟩,hS⟩
   ·rintro a w ⟨i_8,j_9,rfl,hF,hS⟩
    refine n_ib ?_
    obtain rfl:=someI hb1
    exact ⟨rfl,_,_,rfl,hF.sub ⟨rfl,rfl,rfl,rfl,rfl,trivial⟩,hS⟩
 ·rintro e a w ⟨rfl,hF,hS⟩
  refine x_ib (n_sq ?_)
  refine q_seq ?_
  obtain ⟨t_17,hj5,hr⟩:=bindS hr
  refine q_join (fun a w=>Fr a 54 [(4,(iV i_10)),(5,(.bool t_17))]∧St [] w0 w m []) ?_ ?_
  ·refine q_region (q_x (v:=(iV i_10)) hF hS (ex_move rfl) rfl rfl fun a hF=>q_x (v:=(iV i_10)) hF hS (ex_move rfl) rfl rfl fun a hF=>q_x (v:=(iV (goLen p_x))) hF hS (ex_move rfl) rfl rfl fun a hF=>q_x (v:=(.bool (decide (i_10 < (goLen p_x))))) hF hS (ex_ibin rfl rfl rfl) rfl rfl fun a hF=>q_x (v:=(.bool (decide (i_10 < (goLen p_x))))) hF hS (ex_move rfl) rfl rfl fun a hF=>?_)
   rcases bcase (decide (i_10 < (goLen p_x))) with hc6 | hc6
   ·have hj5:=cond_f hc6 hj5
    refine q_skip hF (wanted_f hF rfl rfl rfl hc6 rfl) rfl fun a hF=>q_skip hF (wanted_f hF rfl rfl rfl hc6 rfl) rfl fun a hF=>q_skip hF (wanted_f hF rfl rfl rfl hc6 rfl) rfl fun a hF=>q_skip hF (wanted_f hF rfl rfl rfl hc6 rfl) rfl fun a hF=>q_skip hF (wanted_f hF rfl rfl rfl hc6 rfl) rfl fun a hF=>q_skip hF (wanted_f hF rfl rfl rfl hc6 rfl) rfl fun a hF=>q_skip hF (wanted_f hF rfl rfl rfl hc6 rfl) rfl fun a hF=>q_skip hF (wanted_u hF rfl rfl rfl) rfl fun a hF=>q_skip hF (wanted_u hF rfl rfl rfl) rfl fun a hF=>q_skip hF (wanted_u hF rfl rfl rfl) rfl fun a hF=>q_skip hF (wanted_u hF rfl rfl rfl) rfl fun a hF=>q_skip hF (wanted_u hF rfl rfl rfl) rfl fun a hF=>q_skip hF (wanted_u hF rfl rfl rfl) rfl fun a hF=>q_skip hF (wanted_u hF rfl rfl rfl) rfl fun a hF=>q_skip hF (wanted_u hF rfl rfl rfl) rfl fun a hF=>q_skip hF (wanted_u hF rfl rfl rfl) rfl fun a hF=>q_skip hF (wanted_f hF rfl rfl rfl hc6 rfl) rfl fun a hF=>q_x (v:=(.bool false)) hF hS (ex_pick_f rfl rfl hc6) rfl rfl fun a hF=>q_x (v:=(iV i_10)) hF hS (ex_assign rfl) rfl rfl fun a hF=>q_x (v:=(.bool false)) hF hS (ex_assign rfl) rfl rfl fun a hF=>q_end (n_jn ?_)
    obtain rfl:=someI hj5
    exact ⟨hF.sub ⟨rfl,rfl,trivial⟩,hS⟩
   ·have hj5:=cond_t hc6 hj5
    refine q_xg (v:=s1.v) hF hS (ex_move rfl) (wanted_t hF rfl rfl rfl hc6) rfl fun a hF=>q_xg (v:=(iV i_10)) hF hS (ex_move rfl) (wanted_t hF rfl rfl rfl hc6) rfl fun a hF=>?_
    obtain ⟨e_11,he_11,hj5⟩:=bindS hj5
    obtain ⟨vs12,at12,d12⟩:=h1.at he_11 1 rfl
    obtain rfl : vs12 = [(iV e_11)]:=d12
    refine q_xg (v:=(elP s1 (i_10.toNat * 1))) hF hS (ex_indexAddr Tryz.underlying24 sz3 rfl rfl (h1.idx he_11)) (wanted_t hF rfl rfl rfl hc6) rfl fun a hF=>q_xg (v:=(iV e_11)) hF hS (ex_loadE1 0 Tryz.underlying3 rfl rfl ((at12).at) rfl rfl) (wanted_t hF rfl rfl rfl hc6) rfl fun a hF=>q_xg (v:=(iV p_target)) hF hS (ex_move rfl) (wanted_t hF rfl rfl rfl hc6) rfl fun a hF=>q_xg (v:=(.bool (e_11 == p_target))) hF hS (ex_ibin rfl rfl rfl) (wanted_t hF rfl rfl rfl hc6) rfl fun a hF=>q_xg (v:=(.bool (e_11 == p_target))) hF hS (ex_move rfl) (wanted_t hF rfl rfl rfl hc6) rfl fun a hF=>?_
    rcases bcase (e_11 == p_target) with hc7 | hc7
    ·have hj5:=cond_f hc7 hj5
     refine q_xg (v:=s1.v) hF hS (ex_move rfl) (wanted_t hF rfl rfl rfl hc7) rfl fun a hF=>q_xg (v:=(iV i_10)) hF hS (ex_move rfl) (wanted_t hF rfl rfl rfl hc7) rfl fun a hF=>?_
     obtain ⟨e_13,he_13,hj5⟩:=bindS hj5
     obtain ⟨vs14,at14,d14⟩:=h1.at he_13 1 rfl
     obtain rfl : vs14 = [(iV e_13)]:=d14
     refine q_xg (v:=(elP s1 (i_10.toNat * 1))) hF hS (ex_indexAddr Tryz.underlying24 sz3 rfl rfl (h1.idx he_13)) (wanted_t hF rfl rfl rfl hc7) rfl fun a hF=>q_xg (v:=(iV e_13)) hF hS (ex_loadE1 0 Tryz.underlying3 rfl rfl ((at14).at) rfl rfl) (wanted_t hF rfl rfl rfl hc7) rfl fun a hF=>?_
     obtain ⟨t_15,ht_15,hj5⟩:=bindS hj5
     refine q_callg (vs:=[(iV e_13)]) hF hS (wanted_t hF rfl rfl rfl hc7) Tryz.func105 (by kernel_rfl) rfl rfl rfl (c_slices_isNaN_int e_13 t_15 ht_15 _ m hS.vis) ?_
     rintro a w _ rfl hF hS
     refine q_xg (v:=(.bool t_15)) hF hS (ex_move rfl) (wanted_t hF rfl rfl rfl hc7) rfl fun a hF=>?_
     rcases bcase (t_15) with hc8 | hc8
     ·have hj5:=cond_f hc8 hj5
      refine q_skip hF (wanted_f hF rfl rfl rfl hc8 rfl) rfl fun a hF=>q_skip hF (wanted_f hF rfl rfl rfl hc8 rfl) rfl fun a hF=>q_xg (v:=(.bool false)) hF hS (ex_pick_f rfl rfl hc8) (wanted_t hF rfl rfl rfl hc7) rfl fun a hF=>q_xg (v:=(.bool false)) hF hS (ex_pick_f rfl rfl hc7) (wanted_t hF rfl rfl rfl hc6) rfl fun a hF=>q_x (v:=(.bool false)) hF hS (ex_pick_t rfl rfl hc6) rfl rfl fun a hF=>q_x (v:=(iV i_10)) hF hS (ex_assign rfl) rfl rfl fun a hF=>q_x (v:=(.bool false)) hF hS (ex_assign rfl) rfl rfl fun a hF=>q_end (n_jn ?_)
      obtain rfl:=someI hj5
      exact ⟨hF.sub ⟨rfl,rfl,trivial⟩,hS⟩
     ·have hj5:=cond_t hc8 hj5
      refine q_xg (v:=(iV p_target)) hF hS (ex_move rfl) (wanted_t hF rfl rfl rfl hc8) rfl fun a hF=>?_
      obtain ⟨t_16,ht_16,hj5⟩:=bindS hj5
      refine q_callg (vs:=[(iV p_target)]) hF hS (wanted_t hF rfl rfl rfl hc8) Tryz.func105 (by kernel_rfl) rfl rfl rfl (c_slices_isNaN_int p_target t_16 ht_16 _ m hS.vis) ?_
      rintro a w _ rfl hF hS
      refine q_xg (v:=(.bool t_16)) hF hS (ex_pick_t rfl rfl hc8) (wanted_t hF rfl rfl rfl hc7) rfl fun a hF=>q_xg (v:=(.bool t_16)) hF hS (ex_pick_f rfl rfl hc7) (wanted_t hF rfl rfl rfl hc6) rfl fun a hF=>q_x (v:=(.bool t_16)) hF hS (ex_pick_t rfl rfl hc6) rfl rfl fun a hF=>q_x (v:=(iV i_10)) hF hS (ex_assign rfl) rfl rfl fun a hF=>q_x (v:=(.bool t_16)) hF hS (ex_assign rfl) rfl rfl fun a hF=>q_end (n_jn ?_)
      obtain rfl:=someI hj5
      exact ⟨hF.sub ⟨rfl,rfl,trivial⟩,hS⟩
    ·have hj5:=cond_t hc7 hj5
     refine q_skip hF (wanted_f hF rfl rfl rfl hc7 rfl) rfl fun a hF=>q_skip hF (wanted_f hF rfl rfl rfl hc7 rfl) rfl fun a hF=>q_skip hF (wanted_f hF rfl rfl rfl hc7 rfl) rfl fun a hF=>q_skip hF (wanted_f hF rfl rfl rfl hc7 rfl) rfl fun a hF=>q_skip hF (wanted_f hF rfl rfl rfl hc7 rfl) rfl fun a hF=>q_skip hF (wanted_f hF rfl rfl rfl hc7 rfl) rfl fun a hF=>q_skip hF (wanted_u hF rfl rfl rfl) rfl fun a hF=>q_skip hF (wanted_u hF rfl rfl rfl) rfl fun a hF=>q_skip hF (wanted_f hF rfl rfl rfl hc7 rfl) rfl fun a hF=>q_xg (v:=(.bool true)) hF hS (ex_pick_t rfl rfl hc7) (wanted_t hF rfl rfl rfl hc6) rfl fun a hF=>q_x (v:=(.bool true)) hF hS (ex_pick_t rfl rfl hc6) rfl rfl fun a hF=>q_x (v:=(iV i_10)) hF hS (ex_assign rfl) rfl rfl fun a hF=>q_x (v:=(.bool true)) hF hS (ex_assign rfl) rfl rfl fun a hF=>q_end (n_jn ?_)
     obtain rfl:=someI hj5
     exact ⟨hF.sub ⟨rfl,rfl,trivial⟩,hS⟩
  ·rintro a w ⟨hF,hS⟩
   refine n_sq (q_ret ?_)
   obtain rfl:=someI hr
   exact ret_of hF hS rfl (.tmp rfl (.tmp rfl .nil)) rfl

theorem c_impl_indexOfValues (p_s : List impl_Variable) (p_values : List Int) (r : Int) (hr : impl_indexOfValues p_s p_values = some r) (w0 : World) (m : Mem) (hv : Vis m w0) (s1 : Sl) (h1 : Rd m s1 p_s) (s2 : Sl) (h2 : Rd m s2 p_values) :
  Ret Tryz.prog 99 [s1.v,s2.v] w0 (fun v _=>v = (iV r)):=by
 unfold impl_indexOfValues at hr
 refine ret_start Tryz.func99 rfl 26 rfl rfl m hv fun a hF hS=>q_seq (q_region (q_x (v:=(iV 0)) hF hS (ex_assign rfl) rfl rfl fun a hF=>q_end (n_sq (q_seq (q_region (q_x (v:=(iV 0)) hF hS (ex_assign rfl) rfl rfl fun a hF=>q_end (n_sq (q_seq (q_seq (q_region (q_x (v:=s2.v) hF hS (ex_move rfl) rfl rfl fun a hF=>q_x (v:=(iV (goLen p_values))) hF hS (ex_len Tryz.underlying24 rfl h2.len) rfl rfl fun a hF=>q_x (v:=(iV 0)) hF hS (ex_move rfl) rfl rfl fun a hF=>q_end (n_sq (q_block ?_)))))))))))))
 obtain ⟨i_9,hl1,hr⟩:=bindS hr
 refine q_loop (fun (s : Int × Int) a w=>∃ i_3,∃ t_4,s = (i_3,t_4)∧Fr a 26 [(0,s1.v),(5,(iV i_3)),(8,s2.v),(9,(iV (goLen p_values))),(10,(iV t_4))]∧St [] w0 w m []) (fun (i_9 : Int) e a w=>e = .exit 0∧Fr a 26 [(5,(iV i_9))]∧St [] w0 w m []) hl1 ⟨_,_,rfl,hF.sub ⟨rfl,rfl,rfl,rfl,rfl,trivial⟩,hS⟩ ?_ ?_
 ·clear hF hS
  rintro s a w st ⟨i_3,t_4,rfl,hF,hS⟩ hb1
  unfold impl_indexOfValues_l1 at hb1
  refine q_seq (q_region (q_x (v:=(.bool (decide (t_4 < (goLen p_values))))) hF hS (ex_ibin rfl rfl rfl) rfl rfl fun a hF=>q_end (n_sq (q_seq ?_))))
  rcases bcase (decide (t_4 < (goLen p_values))) with hc2 | hc2
  ·have hb1:=cond_f hc2 hb1
   refine q_cond_f hF rfl hc2 (q_exit (x_sq ?_))
   obtain rfl:=someI hb1
   exact ⟨nofun,.inl ⟨rfl,hF.sub ⟨rfl,trivial⟩,hS⟩⟩
  ·have hb1:=cond_t hc2 hb1
   refine q_cond_t hF rfl hc2 (q_skipc (n_sq (q_seq (q_block (q_seq (q_region (q_x (v:=(iV t_4)) hF hS (ex_move rfl) rfl rfl fun a hF=>?_)))))))
   obtain ⟨e_5,he_5,hb1⟩:=bindS hb1
   obtain ⟨vs6,at6,d6⟩:=h2.at he_5 1 rfl
   obtain rfl : vs6 = [(iV e_5)]:=d6
   refine q_x (v:=(elP s2 (t_4.toNat * 1))) hF hS (ex_indexAddr Tryz.underlying24 sz3 rfl rfl (h2.idx he_5)) rfl rfl fun a hF=>q_x (v:=(iV e_5)) hF hS (ex_loadE1 0 Tryz.underlying3 rfl rfl ((at6).at) rfl rfl) rfl rfl fun a hF=>q_x (v:=(iV t_4)) hF hS (ex_assign rfl) rfl rfl fun a hF=>q_x (v:=(iV e_5)) hF hS (ex_assign rfl) rfl rfl fun a hF=>q_end (n_sq (q_region (q_x (v:=(iV i_3)) hF hS (ex_move rfl) rfl rfl fun a hF=>q_x (v:=s1.v) hF hS (ex_move rfl) rfl rfl fun a hF=>q_x (v:=(iV t_4)) hF hS (ex_move rfl) rfl rfl fun a hF=>?_)))
   obtain ⟨e_7,he_7,hb1⟩:=bindS hb1
   obtain ⟨vs8,at8,d8⟩:=h1.at he_7 2 rfl
   obtain rfl : vs8 = [(strV e_7.Name),(iV e_7.Levels)]:=d8
   refine q_x (v:=(elP s1 (t_4.toNat * 2))) hF hS (ex_indexAddr Tryz.underlying27 sz88 rfl rfl (h1.idx he_7)) rfl rfl fun a hF=>q_x (v:=(elP s1 (t_4.toNat * 2 + 1))) hF hS (ex_fieldAddrE Tryz.underlying88 rfl sz3 rfl (h1.idx he_7) rfl) rfl rfl fun a hF=>q_x (v:=(iV e_7.Levels)) hF hS (ex_loadE1 1 Tryz.underlying3 rfl rfl ((at8).at) rfl rfl) rfl rfl fun a hF=>q_x (v:=(iV (w64 (i_3 * e_7.Levels)))) hF hS (ex_ibin rfl rfl rfl) rfl rfl fun a hF=>q_x (v:=(iV e_5)) hF hS (ex_move rfl) rfl rfl fun a hF=>q_x (v:=(iV (w64 ((w64 (i_3 * e_7.Levels)) + e_5)))) hF hS (ex_ibin rfl rfl rfl) rfl rfl fun a hF=>q_x (v:=(iV (w64 ((w64 (i_3 * e_7.Levels)) + e_5)))) hF hS (ex_assign rfl) rfl rfl fun a hF=>q_end (n_ib (n_sq (q_region (q_x (v:=(iV (w64 (t_4 + 1)))) hF hS (ex_ibin rfl rfl rfl) rfl rfl fun a hF=>q_x (v:=(iV (w64 (t_4 + 1)))) hF hS (ex_move rfl) rfl rfl fun a hF=>q_end ?_))))
   obtain rfl:=someI hb1
   exact ⟨rfl,_,_,rfl,hF.sub ⟨rfl,rfl,rfl,rfl,rfl,trivial⟩,hS⟩
 ·rintro e a w ⟨rfl,hF,hS⟩
  refine x_ib (n_sq ?_)
  refine q_seq (q_region (q_x (v:=(iV i_9)) hF hS (ex_move rfl) rfl rfl fun a hF=>q_x (v:=(iV i_9)) hF hS (ex_assign rfl) rfl rfl fun a hF=>q_end (n_sq (q_ret ?_))))
  obtain rfl:=someI hr
  exact ret_of hF hS rfl (.tmp rfl .nil) rfl

theorem c_impl_cellIndex (p_g : impl_Geo) (p_s : List impl_Variable) (p_t : impl_Table) (p_area : Int) (p_values : List Int) (r : Int) (hr : impl_cellIndex p_g p_s p_t p_area p_values = some r) (w0 : World) (m : Mem) (hv : Vis m w0) (s1 : Sl) (h1 : Rd m s1 p_g.Parents) (s2 : Sl) (h2 : Rd m s2 p_s) (s3 : Sl) (h3 : Rd m s3 p_t.Vars) (s4 : Sl) (h4 : Rd m s4 p_t.Where) (s5 : Sl) (h5 : Rd m s5 p_values) :
  Ret Tryz.prog 76 [(.agg #[s1.v]),s2.v,(.agg #[(iV p_t.Level),s3.v,s4.v,(iV p_t.Sum)]),(iV p_area),s5.v] w0 (fun v _=>v = (iV r)):=by
 unfold impl_cellIndex at hr
 refine ret_start Tryz.func76 rfl 36 rfl rfl m hv fun a hF hS=>q_seq (q_region (q_box (cs:=[s1.v]) hF hS rfl rfl rfl fun a w b6 hF hS=>q_box (cs:=[(iV p_t.Level),s3.v,s4.v,(iV p_t.Sum)]) hF hS rfl rfl rfl fun a w b7 hF hS=>q_x (v:=(iV 0)) hF hS (ex_assign rfl) rfl rfl fun a hF=>q_end (n_sq (q_seq (q_region (q_x (v:=(.agg #[s1.v])) hF hS (ex_loadA (vs:=[s1.v]) 1 0 Tryz.underlying26 rfl sz26 rfl rfl rfl rfl) rfl rfl fun a hF=>q_x (v:=(.pointer (some ⟨b7,0,none⟩))) hF hS (ex_fieldAddr Tryz.underlying29 rfl sz3 rfl rfl) rfl rfl fun a hF=>q_x (v:=(iV p_t.Level)) hF hS (ex_load1 0 0 Tryz.underlying3 rfl rfl rfl rfl) rfl rfl fun a hF=>?_))))))
 obtain ⟨t_8,ht_8,hr⟩:=bindS hr
 refine q_call (vs:=[(.agg #[s1.v]),(iV p_t.Level)]) hF hS Tryz.func70 (by kernel_rfl) rfl rfl rfl (c_impl_areasAt p_g p_t.Level t_8 ht_8 _ m hS.vis s1 h1) ?_
 rintro a w _ ⟨q10,s10,rfl,hR9,h10⟩ hF hS2
 have hS : St _ _ _ _ [q10,[⟨b7,[(iV p_t.Level),s3.v,s4.v,(iV p_t.Sum)],29⟩],[⟨b6,[s1.v],26⟩]]:=hS.joinF hR9
 refine q_x (v:=(iV p_area)) hF hS (ex_move rfl) rfl rfl fun a hF=>?_
 obtain ⟨m12,hl12,hv12,hz12⟩:=hS.lend
 obtain ⟨t_11,ht_11,hr⟩:=bindS hr
 refine q_call (vs:=[s10.v,(iV p_area)]) hF hS Tryz.func98 (by kernel_rfl) rfl rfl rfl (c_slices_BinarySearch_int_int t_8 p_area t_11 ht_11 _ m12 hv12 s10 (h10.froz hl12 (hz12 0 _ rfl))) ?_
 rintro a w _ rfl hF hS
 refine q_x (v:=(.tuple #[(iV t_11.1),(.bool t_11.2)])) hF hS (ex_move rfl) rfl rfl fun a hF=>q_x (v:=(iV t_11.1)) hF hS (ex_extract rfl rfl) rfl rfl fun a hF=>q_x (v:=(.bool t_11.2)) hF hS (ex_extract rfl rfl) rfl rfl fun a hF=>q_x (v:=(iV t_11.1)) hF hS (ex_assign rfl) rfl rfl fun a hF=>q_x (v:=(.bool t_11.2)) hF hS (ex_assign rfl) rfl rfl fun a hF=>q_end (n_sq (q_seq (q_seq (q_region (q_x (v:=(.bool t_11.2)) hF hS (ex_move rfl) rfl rfl fun a hF=>q_x (v:=(.bool (!t_11.2))) hF hS (ex_not rfl) rfl rfl fun a hF=>q_end (n_sq ?_))))))
 rcases bcase (!t_11.2) with hc1 | hc1
 ·have hr:=cond_f hc1 hr
  refine q_cond_f hF rfl hc1 (q_skipc (n_sq (q_seq (q_region (q_x (v:=s2.v) hF hS (ex_move rfl) rfl rfl fun a hF=>q_x (v:=(.agg #[(iV p_t.Level),s3.v,s4.v,(iV p_t.Sum)])) hF hS (ex_loadA (vs:=[(iV p_t.Level),s3.v,s4.v,(iV p_t.Sum)]) 1 0 Tryz.underlying29 rfl sz29 rfl rfl rfl rfl) rfl rfl fun a hF=>?_)))))
  obtain ⟨t_13,ht_13,hr⟩:=bindS hr
  refine q_call (vs:=[s2.v,(.agg #[(iV p_t.Level),s3.v,s4.v,(iV p_t.Sum)])]) hF hS Tryz.func72 (by kernel_rfl) rfl rfl rfl (c_impl_crossed p_s p_t t_13 ht_13 _ m hS.vis s2 h2 s3 h3 s4 h4) ?_
  rintro a w _ ⟨q15,s15,rfl,hR14,h15⟩ hF hS2
  have hS : St _ _ _ _ [q15,q10,[⟨b7,[(iV p_t.Level),s3.v,s4.v,(iV p_t.Sum)],29⟩],[⟨b6,[s1.v],26⟩]]:=hS.joinF hR14
  refine q_x (v:=s15.v) hF hS (ex_assign rfl) rfl rfl fun a hF=>q_end (n_sq (q_seq (q_region (q_x (v:=(iV t_11.1)) hF hS (ex_move rfl) rfl rfl fun a hF=>q_x (v:=s15.v) hF hS (ex_move rfl) rfl rfl fun a hF=>?_))))
  obtain ⟨m17,hl17,hv17,hz17⟩:=hS.lend
  obtain ⟨t_16,ht_16,hr⟩:=bindS hr
  refine q_call (vs:=[s15.v]) hF hS Tryz.func71 (by kernel_rfl) rfl rfl rfl (c_impl_combinations t_13 t_16 ht_16 _ m17 hv17 s15 (h15.froz hl17 (hz17 0 _ rfl))) ?_
  rintro a w _ rfl hF hS
  refine q_x (v:=(iV (w64 (t_11.1 * t_16)))) hF hS (ex_ibin rfl rfl rfl) rfl rfl fun a hF=>q_x (v:=s15.v) hF hS (ex_move rfl) rfl rfl fun a hF=>q_x (v:=s5.v) hF hS (ex_move rfl) rfl rfl fun a hF=>?_
  obtain ⟨m19,hl19,hv19,hz19⟩:=hS.lend
  obtain ⟨t_18,ht_18,hr⟩:=bindS hr
  refine q_call (vs:=[s15.v,s5.v]) hF hS Tryz.func99 (by kernel_rfl) rfl rfl rfl (c_impl_indexOfValues t_13 p_values t_18 ht_18 _ m19 hv19 s15 (h15.froz hl19 (hz19 0 _ rfl)) s5 (h5.mono hl19)) ?_
  rintro a w _ rfl hF hS
  refine q_x (v:=(iV (w64 ((w64 (t_11.1 * t_16)) + t_18)))) hF hS (ex_ibin rfl rfl rfl) rfl rfl fun a hF=>q_x (v:=(iV (w64 ((w64 (t_11.1 * t_16)) + t_18)))) hF hS (ex_assign rfl) rfl rfl fun a hF=>q_end (n_sq (q_ret ?_))
  obtain rfl:=someI hr
  exact ret_of hF hS rfl (.tmp rfl .nil) rfl
 ·have hr:=cond_t hc1 hr
  refine q_cond_t hF rfl hc1 (q_seq (q_region (q_x (v:=(iV (-1))) hF hS (ex_assign rfl) rfl rfl fun a hF=>q_end (n_sq (q_ret (r_sq ?_))))))
  obtain rfl:=someI hr
  exact ret_of hF hS rfl (.tmp rfl .nil) rfl

theorem c_impl_derived (p_g : impl_Geo) (p_s : List impl_Variable) (p_t : impl_Table) (p_u : impl_Table) (p_area : Int) (p_values : List Int) (r : Int × Int) (hr : impl_derived p_g p_s p_t p_u p_area p_values = some r) (w0 : World) (m : Mem) (hv : Vis m w0) (s1 : Sl) (h1 : Rd m s1 p_g.Parents) (s2 : Sl) (h2 : Rd m s2 p_s) (s3 : Sl) (h3 : Rd m s3 p_t.Vars) (s4 : Sl) (h4 : Rd m s4 p_t.Where) (s5 : Sl) (h5 : Rd m s5 p_u.Vars) (s6 : Sl) (h6 : Rd m s6 p_u.Where) (s7 : Sl) (h7 : Rd m s7 p_values) :
  Ret Tryz.prog 30 [(.agg #[s1.v]),s2.v,(.agg #[(iV p_t.Level),s3.v,s4.v,(iV p_t.Sum)]),(.agg #[(iV p_u.Level),s5.v,s6.v,(iV p_u.Sum)]),(iV p_area),s7.v] w0 (fun v _=>v = (.tuple #[(iV r.1),(iV r.2)])):=by
 unfold impl_derived at hr
 refine ret_start Tryz.func30 rfl 84 rfl rfl m hv fun a hF hS=>q_seq (q_region (q_box (cs:=[s1.v]) hF hS rfl rfl rfl fun a w b8 hF hS=>q_box (cs:=[(iV p_t.Level),s3.v,s4.v,(iV p_t.Sum)]) hF hS rfl rfl rfl fun a w b9 hF hS=>q_box (cs:=[(iV p_u.Level),s5.v,s6.v,(iV p_u.Sum)]) hF hS rfl rfl rfl fun a w b10 hF hS=>q_x (v:=(iV 0)) hF hS (ex_assign rfl) rfl rfl fun a hF=>q_x (v:=(iV 0)) hF hS (ex_assign rfl) rfl rfl fun a hF=>q_end (n_sq (q_seq (q_region (q_x (v:=(iV 1)) hF hS (ex_assign rfl) rfl rfl fun a hF=>q_end (n_sq (q_seq (q_region (q_x (v:=(.pointer (some ⟨b9,1,none⟩))) hF hS (ex_fieldAddr Tryz.underlying29 rfl sz24 rfl rfl) rfl rfl fun a hF=>q_x (v:=s3.v) hF hS (ex_load1 1 0 Tryz.underlying24 rfl rfl rfl rfl) rfl rfl fun a hF=>q_x (v:=(iV (goLen p_t.Vars))) hF hS (ex_len Tryz.underlying24 rfl h3.len) rfl rfl fun a hF=>?_))))))))))
 obtain ⟨l_11,hl_11,hr⟩:=bindS hr
 refine q_do rfl fun _ hK=>wp_make (z:=(0 : Int)) hF hS Tryz.underlying24 inf3 rfl rfl rfl rfl rfl (by decide) hl_11 rfl fun a w q12 s12 hF hS h12 _=>hK _ _ (q_x (v:=s12.v) hF hS (ex_assign rfl) rfl rfl fun a hF=>q_end (n_sq (q_seq (q_seq (q_region (q_x (v:=(.pointer (some ⟨b10,1,none⟩))) hF hS (ex_fieldAddr Tryz.underlying29 rfl sz24 rfl rfl) rfl rfl fun a hF=>q_x (v:=s5.v) hF hS (ex_load1 1 0 Tryz.underlying24 rfl rfl rfl rfl) rfl rfl fun a hF=>q_x (v:=(iV (goLen p_u.Vars))) hF hS (ex_len Tryz.underlying24 rfl h5.len) rfl rfl fun a hF=>q_x (v:=(iV 0)) hF hS (ex_move rfl) rfl rfl fun a hF=>q_end (n_sq (q_block ?_))))))))
 obtain ⟨o1,hl1,hr⟩:=bindS hr
 refine q_loop (fun (s : Int × (List Int) × Int) a w=>∃ (q15 : Piece),∃ times_13,∃ own_14,∃ t_16,s = (times_13,own_14,t_16)∧Fr a 84 [(1,s2.v),(4,(iV p_area)),(5,s7.v),(6,(.pointer (some ⟨b8,0,none⟩))),(8,(.pointer (some ⟨b9,0,none⟩))),(9,(.pointer (some ⟨b10,0,none⟩))),(14,(iV times_13)),(15,s12.v),(25,s5.v),(26,(iV (goLen p_u.Vars))),(27,(iV t_16))]∧St [] w0 w m [q15,[⟨b10,[(iV p_u.Level),s5.v,s6.v,(iV p_u.Sum)],29⟩],[⟨b9,[(iV p_t.Level),s3.v,s4.v,(iV p_t.Sum)],29⟩],[⟨b8,[s1.v],26⟩]]∧OwnL m 3 q15 s12 own_14) (fun (o : (Int × (List Int)) ⊕ (Int × Int)) e a w=>∃ (q41 : Piece),∃ times_39,∃ own_40,o = .inl (times_39,own_40)∧e = .exit 0∧Fr a 84 [(1,s2.v),(4,(iV p_area)),(6,(.pointer (some ⟨b8,0,none⟩))),(8,(.pointer (some ⟨b9,0,none⟩))),(14,(iV times_39)),(15,s12.v)]∧St [] w0 w m [q41,[⟨b9,[(iV p_t.Level),s3.v,s4.v,(iV p_t.Sum)],29⟩],[⟨b8,[s1.v],26⟩]]∧OwnL m 3 q41 s12 own_40) hl1 ⟨q12,_,_,_,rfl,hF.sub ⟨rfl,rfl,rfl,rfl,rfl,rfl,rfl,rfl,rfl,rfl,rfl,trivial⟩,hS,h12⟩ ?_ ?_
 ·clear hF hS
  rintro s a w st ⟨q15,times_13,own_14,t_16,rfl,hF,hS,h15⟩ hb1
  unfold impl_derived_l1 at hb1
  refine q_seq (q_region (q_x (v:=(.bool (decide (t_16 < (goLen p_u.Vars))))) hF hS (ex_ibin rfl rfl rfl) rfl rfl fun a hF=>q_end (n_sq (q_seq ?_))))
  rcases bcase (decide (t_16 < (goLen p_u.Vars))) with hc2 | hc2
  ·have hb1:=cond_f hc2 hb1
   refine q_cond_f hF rfl hc2 (q_exit (x_sq ?_))
   obtain rfl:=someI hb1
   exact ⟨nofun,.inl ⟨q15,_,_,rfl,rfl,hF.sub ⟨rfl,rfl,rfl,rfl,rfl,rfl,trivial⟩,hS.mask [true,false,true,true],h15⟩⟩
  ·have hb1:=cond_t hc2 hb1
   refine q_cond_t hF rfl hc2 (q_skipc (n_sq (q_seq (q_block (q_seq (q_region (q_x (v:=(iV t_16)) hF hS (ex_move rfl) rfl rfl fun a hF=>?_)))))))
   obtain ⟨e_17,he_17,hb1⟩:=bindS hb1
   obtain ⟨vs18,at18,d18⟩:=h5.at he_17 1 rfl
   obtain rfl : vs18 = [(iV e_17)]:=d18
   refine q_x (v:=(elP s5 (t_16.toNat * 1))) hF hS (ex_indexAddr Tryz.underlying24 sz3 rfl rfl (h5.idx he_17)) rfl rfl fun a hF=>q_x (v:=(iV e_17)) hF hS (ex_loadE1 0 Tryz.underlying3 rfl rfl ((at18).at) rfl rfl) rfl rfl fun a hF=>q_x (v:=(iV t_16)) hF hS (ex_assign rfl) rfl rfl fun a hF=>q_x (v:=(iV e_17)) hF hS (ex_assign rfl) rfl rfl fun a hF=>q_end (n_sq (q_seq (q_seq (e_region ⟨[],[]⟩ mixed fun w' hw'=>?_))))
   have hS:=hS.below hw'
   refine e_p (v:=s2.v) 0 hF rfl (ex_move rfl) rfl rfl (by kernel_rfl) (by kernel_rfl) (by kernel_rfl) fun a hF=>e_x (v:=(.agg #[(iV p_t.Level),s3.v,s4.v,(iV p_t.Sum)])) 1 hF hS rfl (ex_loadA (vs:=[(iV p_t.Level),s3.v,s4.v,(iV p_t.Sum)]) 2 0 Tryz.underlying29 rfl sz29 rfl rfl rfl rfl) rfl rfl (by kernel_rfl) (by kernel_rfl) (by kernel_rfl) (by kernel_rfl) fun a hF=>e_p (v:=(iV e_17)) 2 hF rfl (ex_move rfl) rfl rfl (by kernel_rfl) (by kernel_rfl) (by kernel_rfl) fun a hF=>e_p (v:=s7.v) 4 hF rfl (ex_move rfl) rfl rfl (by kernel_rfl) (by kernel_rfl) (by kernel_rfl) fun a hF=>e_p (v:=(iV t_16)) 5 hF rfl (ex_move rfl) rfl rfl (by kernel_rfl) (by kernel_rfl) (by kernel_rfl) fun a hF=>?_
   obtain ⟨e_22,he_22,hb1⟩:=bindS hb1
   obtain ⟨vs23,at23,d23⟩:=h7.at he_22 1 rfl
   obtain rfl : vs23 = [(iV e_22)]:=d23
   refine e_p (v:=(elP s7 (t_16.toNat * 1))) 6 hF rfl (ex_indexAddr Tryz.underlying24 sz3 rfl rfl (h7.idx he_22)) rfl rfl (by kernel_rfl) (by kernel_rfl) (by kernel_rfl) fun a hF=>e_x (v:=(iV e_22)) 7 hF hS rfl (ex_loadE1 0 Tryz.underlying3 rfl rfl ((at23).at) rfl rfl) rfl rfl (by kernel_rfl) (by kernel_rfl) (by kernel_rfl) (by kernel_rfl) fun a hF=>e_one 3 (by kernel_rfl) ?_
   obtain ⟨t_25,ht_25,hb1⟩:=bindS hb1
   refine e_call (vs:=[s2.v,(.agg #[(iV p_t.Level),s3.v,s4.v,(iV p_t.Sum)]),(iV e_17)]) hF hS rfl Tryz.func62 (by kernel_rfl) rfl rfl rfl (c_impl_conditionOf p_s p_t e_17 t_25 ht_25 _ m hS.vis s2 h2 s3 h3 s4 h4) ?_
   rintro a w _ rfl hF hS
   obtain ⟨t_26,ht_26,hb1⟩:=bindS hb1
   refine e_p (v:=(iV t_26)) 8 hF rfl (ex_shr rfl rfl ht_26) rfl rfl (by kernel_rfl) (by kernel_rfl) (by kernel_rfl) fun a hF=>e_p (v:=(iV (goBits .and .i64 t_26 1))) 9 hF rfl (ex_bits rfl rfl rfl) rfl rfl (by kernel_rfl) (by kernel_rfl) (by kernel_rfl) fun a hF=>e_p (v:=(.bool ((goBits .and .i64 t_26 1) == 0))) 10 hF rfl (ex_ibin rfl rfl rfl) rfl rfl (by kernel_rfl) (by kernel_rfl) (by kernel_rfl) fun a hF=>e_end (by kernel_rfl) (n_sq ?_) _
   rcases bcase ((goBits .and .i64 t_26 1) == 0) with hc3 | hc3
   ·have hb1:=cond_f hc3 hb1
    refine q_cond_f hF rfl hc3 (q_skipc (n_sq (q_seq (q_seq (q_region (q_x (v:=(.pointer (some ⟨b9,1,none⟩))) hF hS (ex_fieldAddr Tryz.underlying29 rfl sz24 rfl rfl) rfl rfl fun a hF=>q_x (v:=s3.v) hF hS (ex_load1 2 0 Tryz.underlying24 rfl rfl rfl rfl) rfl rfl fun a hF=>q_x (v:=(iV e_17)) hF hS (ex_move rfl) rfl rfl fun a hF=>?_))))))
    obtain ⟨t_27,ht_27,hb1⟩:=bindS hb1
    refine q_call (vs:=[s3.v,(iV e_17)]) hF hS Tryz.func74 (by kernel_rfl) rfl rfl rfl (c_slices_Index_int_int p_t.Vars e_17 t_27 ht_27 _ m hS.vis s3 h3) ?_
    rintro a w _ rfl hF hS
    refine q_x (v:=(iV t_27)) hF hS (ex_assign rfl) rfl rfl fun a hF=>q_end (n_sq (q_seq (q_region (q_x (v:=(iV t_27)) hF hS (ex_move rfl) rfl rfl fun a hF=>q_x (v:=(.bool (decide (0 ≤ t_27)))) hF hS (ex_ibin rfl rfl rfl) rfl rfl fun a hF=>q_end (n_sq ?_)))))
    obtain ⟨own_33,hj4,hb1⟩:=bindS hb1
    refine q_join (fun a w=>∃ (q34 : Piece),Fr a 84 [(1,s2.v),(4,(iV p_area)),(5,s7.v),(6,(.pointer (some ⟨b8,0,none⟩))),(8,(.pointer (some ⟨b9,0,none⟩))),(9,(.pointer (some ⟨b10,0,none⟩))),(14,(iV times_13)),(15,s12.v),(16,(iV t_16)),(17,(iV e_17)),(25,s5.v),(26,(iV (goLen p_u.Vars))),(27,(iV t_16))]∧St [] w0 w m [q34,[⟨b10,[(iV p_u.Level),s5.v,s6.v,(iV p_u.Sum)],29⟩],[⟨b9,[(iV p_t.Level),s3.v,s4.v,(iV p_t.Sum)],29⟩],[⟨b8,[s1.v],26⟩]]∧OwnL m 3 q34 s12 own_33) ?_ ?_
    ·rcases bcase (decide (0 ≤ t_27)) with hc5 | hc5
     ·have hj4:=cond_f hc5 hj4
      refine q_cond_f hF rfl hc5 (q_skipc (n_jn ?_))
      obtain rfl:=someI hj4
      exact ⟨q15,hF.sub ⟨rfl,rfl,rfl,rfl,rfl,rfl,rfl,rfl,rfl,rfl,rfl,rfl,rfl,trivial⟩,hS,h15⟩
     ·have hj4:=cond_t hc5 hj4
      refine q_cond_t hF rfl hc5 (q_region (q_x (v:=s12.v) hF hS (ex_move rfl) rfl rfl fun a hF=>q_x (v:=(iV t_27)) hF hS (ex_move rfl) rfl rfl fun a hF=>q_x (v:=s7.v) hF hS (ex_move rfl) rfl rfl fun a hF=>q_x (v:=(iV t_16)) hF hS (ex_move rfl) rfl rfl fun a hF=>?_))
      obtain ⟨e_28,he_28,hj4⟩:=bindS hj4
      obtain ⟨vs29,at29,d29⟩:=h7.at he_28 1 rfl
      obtain rfl : vs29 = [(iV e_28)]:=d29
      refine q_x (v:=(elP s7 (t_16.toNat * 1))) hF hS (ex_indexAddr Tryz.underlying24 sz3 rfl rfl (h7.idx he_28)) rfl rfl fun a hF=>q_x (v:=(iV e_28)) hF hS (ex_loadE1 0 Tryz.underlying3 rfl rfl ((at29).at) rfl rfl) rfl rfl fun a hF=>?_
      obtain ⟨e_30,he_30,hj4⟩:=bindS hj4
      obtain ⟨vs31,at31,d31⟩:=h15.at he_30 1 rfl
      obtain rfl : vs31 = [(iV e_30)]:=d31
      refine q_x (v:=(elP s12 (t_27.toNat * 1))) hF hS (ex_indexAddr Tryz.underlying24 sz3 rfl rfl (h15.idx he_30)) rfl rfl fun a hF=>q_do rfl fun _ hK=>wp_storeE (e':=e_28) (us:=[(iV e_28)]) (vs:=[(iV e_30)]) 0 hF hS h15 sz3 rfl rfl rfl rfl rfl rfl rfl he_30 at31 rfl rfl rfl fun w q32 hS h32=>hK _ _ (q_end (n_jn ?_))
      obtain rfl:=someI hj4
      exact ⟨q32,hF.sub ⟨rfl,rfl,rfl,rfl,rfl,rfl,rfl,rfl,rfl,rfl,rfl,rfl,rfl,trivial⟩,hS,h32⟩
    ·rintro a w ⟨q34,hF,hS,h34⟩
     refine n_sq ?_
     refine q_seq ?_
     obtain ⟨t_35,hj6,hb1⟩:=bindS hb1
     refine q_join (fun a w=>Fr a 84 [(1,s2.v),(4,(iV p_area)),(5,s7.v),(6,(.pointer (some ⟨b8,0,none⟩))),(8,(.pointer (some ⟨b9,0,none⟩))),(9,(.pointer (some ⟨b10,0,none⟩))),(14,(iV times_13)),(15,s12.v),(16,(iV t_16)),(25,s5.v),(26,(iV (goLen p_u.Vars))),(27,(iV t_16)),(64,(.bool t_35))]∧St [] w0 w m [q34,[⟨b10,[(iV p_u.Level),s5.v,s6.v,(iV p_u.Sum)],29⟩],[⟨b9,[(iV p_t.Level),s3.v,s4.v,(iV p_t.Sum)],29⟩],[⟨b8,[s1.v],26⟩]]) ?_ ?_
     ·refine q_region (q_x (v:=(.pointer (some ⟨b9,3,none⟩))) hF hS (ex_fieldAddr Tryz.underlying29 rfl sz3 rfl rfl) rfl rfl fun a hF=>q_x (v:=(iV p_t.Sum)) hF hS (ex_load1 2 0 Tryz.underlying3 rfl rfl rfl rfl) rfl rfl fun a hF=>q_x (v:=(iV e_17)) hF hS (ex_move rfl) rfl rfl fun a hF=>q_x (v:=(.bool (p_t.Sum == e_17))) hF hS (ex_ibin rfl rfl rfl) rfl rfl fun a hF=>q_x (v:=(.bool (p_t.Sum == e_17))) hF hS (ex_move rfl) rfl rfl fun a hF=>?_)
      rcases bcase (p_t.Sum == e_17) with hc7 | hc7
      ·have hj6:=cond_f hc7 hj6
       refine q_skip hF (wanted_f hF rfl rfl rfl hc7 rfl) rfl fun a hF=>q_skip hF (wanted_f hF rfl rfl rfl hc7 rfl) rfl fun a hF=>q_skip hF (wanted_f hF rfl rfl rfl hc7 rfl) rfl fun a hF=>q_x (v:=(.bool false)) hF hS (ex_pick_f rfl rfl hc7) rfl rfl fun a hF=>q_end (n_jn ?_)
       obtain rfl:=someI hj6
       exact ⟨hF.sub ⟨rfl,rfl,rfl,rfl,rfl,rfl,rfl,rfl,rfl,rfl,rfl,rfl,rfl,trivial⟩,hS⟩
      ·have hj6:=cond_t hc7 hj6
       refine q_xg (v:=(.pointer (some ⟨b10,3,none⟩))) hF hS (ex_fieldAddr Tryz.underlying29 rfl sz3 rfl rfl) (wanted_t hF rfl rfl rfl hc7) rfl fun a hF=>q_xg (v:=(iV p_u.Sum)) hF hS (ex_load1 1 0 Tryz.underlying3 rfl rfl rfl rfl) (wanted_t hF rfl rfl rfl hc7) rfl fun a hF=>q_xg (v:=(.bool (p_u.Sum == (-1)))) hF hS (ex_ibin rfl rfl rfl) (wanted_t hF rfl rfl rfl hc7) rfl fun a hF=>q_x (v:=(.bool (p_u.Sum == (-1)))) hF hS (ex_pick_t rfl rfl hc7) rfl rfl fun a hF=>q_end (n_jn ?_)
       obtain rfl:=someI hj6
       exact ⟨hF.sub ⟨rfl,rfl,rfl,rfl,rfl,rfl,rfl,rfl,rfl,rfl,rfl,rfl,rfl,trivial⟩,hS⟩
     ·rintro a w ⟨hF,hS⟩
      refine n_sq ?_
      obtain ⟨times_38,hj8,hb1⟩:=bindS hb1
      refine q_join (fun a w=>Fr a 84 [(1,s2.v),(4,(iV p_area)),(5,s7.v),(6,(.pointer (some ⟨b8,0,none⟩))),(8,(.pointer (some ⟨b9,0,none⟩))),(9,(.pointer (some ⟨b10,0,none⟩))),(14,(iV times_38)),(15,s12.v),(25,s5.v),(26,(iV (goLen p_u.Vars))),(27,(iV t_16))]∧St [] w0 w m [q34,[⟨b10,[(iV p_u.Level),s5.v,s6.v,(iV p_u.Sum)],29⟩],[⟨b9,[(iV p_t.Level),s3.v,s4.v,(iV p_t.Sum)],29⟩],[⟨b8,[s1.v],26⟩]]) ?_ ?_
      ·rcases bcase (t_35) with hc9 | hc9
       ·have hj8:=cond_f hc9 hj8
        refine q_cond_f hF rfl hc9 (q_skipc (n_jn ?_))
        obtain rfl:=someI hj8
        exact ⟨hF.sub ⟨rfl,rfl,rfl,rfl,rfl,rfl,rfl,rfl,rfl,rfl,rfl,trivial⟩,hS⟩
       ·have hj8:=cond_t hc9 hj8
        refine q_cond_t hF rfl hc9 (q_region (q_x (v:=s7.v) hF hS (ex_move rfl) rfl rfl fun a hF=>q_x (v:=(iV t_16)) hF hS (ex_move rfl) rfl rfl fun a hF=>?_))
        obtain ⟨e_36,he_36,hj8⟩:=bindS hj8
        obtain ⟨vs37,at37,d37⟩:=h7.at he_36 1 rfl
        obtain rfl : vs37 = [(iV e_36)]:=d37
        refine q_x (v:=(elP s7 (t_16.toNat * 1))) hF hS (ex_indexAddr Tryz.underlying24 sz3 rfl rfl (h7.idx he_36)) rfl rfl fun a hF=>q_x (v:=(iV e_36)) hF hS (ex_loadE1 0 Tryz.underlying3 rfl rfl ((at37).at) rfl rfl) rfl rfl fun a hF=>q_x (v:=(iV e_36)) hF hS (ex_assign rfl) rfl rfl fun a hF=>q_end (n_jn ?_)
        obtain rfl:=someI hj8
        exact ⟨hF.sub ⟨rfl,rfl,rfl,rfl,rfl,rfl,rfl,rfl,rfl,rfl,rfl,trivial⟩,hS⟩
      ·rintro a w ⟨hF,hS⟩
       refine n_ib (n_sq ?_)
       refine q_region (q_x (v:=(iV (w64 (t_16 + 1)))) hF hS (ex_ibin rfl rfl rfl) rfl rfl fun a hF=>q_x (v:=(iV (w64 (t_16 + 1)))) hF hS (ex_move rfl) rfl rfl fun a hF=>q_end ?_)
       obtain rfl:=someI hb1
       exact ⟨rfl,q34,_,_,_,rfl,hF.sub ⟨rfl,rfl,rfl,rfl,rfl,rfl,rfl,rfl,rfl,rfl,rfl,trivial⟩,hS,h34⟩
   ·have hb1:=cond_t hc3 hb1
    refine q_cond_t hF rfl hc3 (q_seq (q_region (q_x (v:=(iV (-1))) hF hS (ex_assign rfl) rfl rfl fun a hF=>q_x (v:=(iV 0)) hF hS (ex_assign rfl) rfl rfl fun a hF=>q_end (n_sq (q_ret (r_sq (r_ib (r_sq ?_))))))))
    obtain rfl:=someI hb1
    refine ⟨nofun,.inr fun ho=>?_⟩
    subst ho
    refine r_ib (r_sq ?_)
    obtain rfl:=someI hr
    exact ret_of hF hS rfl (.tmp rfl (.tmp rfl .nil)) rfl
 ·rintro e a w ⟨q41,times_39,own_40,rfl,rfl,hF,hS,h41⟩
  refine x_ib (n_sq ?_)
  refine q_seq (q_region (q_x (v:=(.agg #[s1.v])) hF hS (ex_loadA (vs:=[s1.v]) 2 0 Tryz.underlying26 rfl sz26 rfl rfl rfl rfl) rfl rfl fun a hF=>q_x (v:=(iV p_area)) hF hS (ex_move rfl) rfl rfl fun a hF=>q_x (v:=(.pointer (some ⟨b9,0,none⟩))) hF hS (ex_fieldAddr Tryz.underlying29 rfl sz3 rfl rfl) rfl rfl fun a hF=>q_x (v:=(iV p_t.Level)) hF hS (ex_load1 1 0 Tryz.underlying3 rfl rfl rfl rfl) rfl rfl fun a hF=>?_))
  obtain ⟨t_42,ht_42,hr⟩:=bindS hr
  refine q_call (vs:=[(.agg #[s1.v]),(iV p_area),(iV p_t.Level)]) hF hS Tryz.func75 (by kernel_rfl) rfl rfl rfl (c_impl_ancestorAt p_g p_area p_t.Level t_42 ht_42 _ m hS.vis s1 h1) ?_
  rintro a w _ rfl hF hS
  refine q_x (v:=(iV t_42)) hF hS (ex_assign rfl) rfl rfl fun a hF=>q_end (n_sq (q_seq (q_seq (q_region (q_x (v:=(iV t_42)) hF hS (ex_move rfl) rfl rfl fun a hF=>q_x (v:=(.bool (decide (t_42 < 0)))) hF hS (ex_ibin rfl rfl rfl) rfl rfl fun a hF=>q_end (n_sq ?_))))))
  rcases bcase (decide (t_42 < 0)) with hc10 | hc10
  ·have hr:=cond_f hc10 hr
   refine q_cond_f hF rfl hc10 (q_skipc (n_sq (q_seq (q_region (q_x (v:=(.agg #[s1.v])) hF hS (ex_loadA (vs:=[s1.v]) 2 0 Tryz.underlying26 rfl sz26 rfl rfl rfl rfl) rfl rfl fun a hF=>q_x (v:=s2.v) hF hS (ex_move rfl) rfl rfl fun a hF=>q_x (v:=(.agg #[(iV p_t.Level),s3.v,s4.v,(iV p_t.Sum)])) hF hS (ex_loadA (vs:=[(iV p_t.Level),s3.v,s4.v,(iV p_t.Sum)]) 1 0 Tryz.underlying29 rfl sz29 rfl rfl rfl rfl) rfl rfl fun a hF=>q_x (v:=(iV t_42)) hF hS (ex_move rfl) rfl rfl fun a hF=>q_x (v:=s12.v) hF hS (ex_move rfl) rfl rfl fun a hF=>?_)))))
   obtain ⟨m44,hl44,hv44,hz44⟩:=hS.lend
   obtain ⟨t_43,ht_43,hr⟩:=bindS hr
   refine q_call (vs:=[(.agg #[s1.v]),s2.v,(.agg #[(iV p_t.Level),s3.v,s4.v,(iV p_t.Sum)]),(iV t_42),s12.v]) hF hS Tryz.func76 (by kernel_rfl) rfl rfl rfl (c_impl_cellIndex p_g p_s p_t t_42 own_40 t_43 ht_43 _ m44 hv44 s1 (h1.mono hl44) s2 (h2.mono hl44) s3 (h3.mono hl44) s4 (h4.mono hl44) s12 (h41.froz hl44 (hz44 0 _ rfl))) ?_
   rintro a w _ rfl hF hS
   refine q_x (v:=(iV times_39)) hF hS (ex_move rfl) rfl rfl fun a hF=>q_x (v:=(iV t_43)) hF hS (ex_assign rfl) rfl rfl fun a hF=>q_x (v:=(iV times_39)) hF hS (ex_assign rfl) rfl rfl fun a hF=>q_end (n_sq (q_ret ?_))
   obtain rfl:=someI hr
   exact ret_of hF hS rfl (.tmp rfl (.tmp rfl .nil)) rfl
  ·have hr:=cond_t hc10 hr
   refine q_cond_t hF rfl hc10 (q_seq (q_region (q_x (v:=(iV (-1))) hF hS (ex_assign rfl) rfl rfl fun a hF=>q_x (v:=(iV 0)) hF hS (ex_assign rfl) rfl rfl fun a hF=>q_end (n_sq (q_ret (r_sq ?_))))))
   obtain rfl:=someI hr
   exact ret_of hF hS rfl (.tmp rfl (.tmp rfl .nil)) rfl

end Go.Proofs.YtnmimeojimfogaaGreat
