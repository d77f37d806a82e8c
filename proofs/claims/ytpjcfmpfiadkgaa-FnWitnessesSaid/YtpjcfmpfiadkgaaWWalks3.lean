/- The walks of the functions: each returns what its plain function says. -/
import Derived.Test.YtpjcfmpfiadkgaaWWalks2
namespace Go.Proofs.Ytpjcfmpfiadkgaa
open Go.Gx Go.Gx.F Go.RowKit
set_option linter.all false
set_option maxRecDepth 10000


theorem c_spec_IsProtected (p_x : List (List Int)) (p_p : List (List Int)) (p_i : Int) (p_j : Int) (p_down : Int) (p_up : Int) (r : Bool × Bool) (hr : spec_IsProtected p_x p_p p_i p_j p_down p_up = some r) (w0 : World) (m : Mem) (hv : Vis m w0) (s1 : Sl) (h1 : Rd m s1 p_x) (s2 : Sl) (h2 : Rd m s2 p_p) :
  Ret Try.prog 36 [s1.v,s2.v,(iV p_i),(iV p_j),(iV p_down),(iV p_up)] w0 (fun v _=>v = (.tuple #[(.bool r.1),(.bool r.2)])):=by
 unfold spec_IsProtected at hr
 refine ret_start Try.func36 rfl 33 rfl rfl m hv fun a hF hS=>q_seq (q_region (q_x (v:=(.bool false)) hF hS (ex_assign rfl) rfl rfl fun a hF=>q_x (v:=(.bool false)) hF hS (ex_assign rfl) rfl rfl fun a hF=>q_end (n_sq (q_seq (q_seq ?_)))))
 obtain ⟨t_5,hj1,hr⟩:=bindS hr
 refine q_join (fun a w=>Fr a 33 [(0,s1.v),(1,s2.v),(2,(iV p_i)),(3,(iV p_j)),(4,(iV p_down)),(5,(iV p_up)),(25,(.bool t_5))]∧St [] w0 w m []) ?_ ?_
 ·refine q_region (q_x (v:=s1.v) hF hS (ex_move rfl) rfl rfl fun a hF=>q_x (v:=s2.v) hF hS (ex_move rfl) rfl rfl fun a hF=>q_x (v:=(iV p_i)) hF hS (ex_move rfl) rfl rfl fun a hF=>q_x (v:=(iV p_j)) hF hS (ex_move rfl) rfl rfl fun a hF=>?_)
  obtain ⟨t_3,ht_3,hj1⟩:=bindS hj1
  refine q_call (vs:=[s1.v,s2.v,(iV p_i),(iV p_j)]) hF hS Try.func110 (by kernel_rfl) rfl rfl rfl (c_spec_vCell p_x p_p p_i p_j t_3 ht_3 _ m hS.vis s1 h1 s2 h2) ?_
  rintro a w _ rfl hF hS
  refine q_x (v:=(.bool (!t_3))) hF hS (ex_not rfl) rfl rfl fun a hF=>q_x (v:=(.bool (!t_3))) hF hS (ex_move rfl) rfl rfl fun a hF=>?_
  rcases bcase (!t_3) with hc2 | hc2
  ·have hj1:=cond_f hc2 hj1
   refine q_xg (v:=(iV p_down)) hF hS (ex_move rfl) (wanted_t hF rfl rfl rfl hc2) rfl fun a hF=>q_xg (v:=(iV p_up)) hF hS (ex_move rfl) (wanted_t hF rfl rfl rfl hc2) rfl fun a hF=>?_
   obtain ⟨t_4,ht_4,hj1⟩:=bindS hj1
   refine q_callg (vs:=[(iV p_down),(iV p_up)]) hF hS (wanted_t hF rfl rfl rfl hc2) Try.func111 (by kernel_rfl) rfl rfl rfl (c_spec_vLevels p_down p_up t_4 ht_4 _ m hS.vis) ?_
   rintro a w _ rfl hF hS
   refine q_xg (v:=(.bool (!t_4))) hF hS (ex_not rfl) (wanted_t hF rfl rfl rfl hc2) rfl fun a hF=>q_x (v:=(.bool (!t_4))) hF hS (ex_pick_f rfl rfl hc2) rfl rfl fun a hF=>q_end (n_jn ?_)
   obtain rfl:=someI hj1
   exact ⟨hF.sub ⟨rfl,rfl,rfl,rfl,rfl,rfl,rfl,trivial⟩,hS⟩
  ·have hj1:=cond_t hc2 hj1
   refine q_skip hF (wanted_f hF rfl rfl rfl hc2 rfl) rfl fun a hF=>q_skip hF (wanted_f hF rfl rfl rfl hc2 rfl) rfl fun a hF=>q_skip hF (wanted_f hF rfl rfl rfl hc2 rfl) rfl fun a hF=>q_skip hF (wanted_f hF rfl rfl rfl hc2 rfl) rfl fun a hF=>q_x (v:=(.bool true)) hF hS (ex_pick_t rfl rfl hc2) rfl rfl fun a hF=>q_end (n_jn ?_)
   obtain rfl:=someI hj1
   exact ⟨hF.sub ⟨rfl,rfl,rfl,rfl,rfl,rfl,rfl,trivial⟩,hS⟩
 ·rintro a w ⟨hF,hS⟩
  refine n_sq ?_
  rcases bcase (t_5) with hc3 | hc3
  ·have hr:=cond_f hc3 hr
   refine q_cond_f hF rfl hc3 (q_skipc (n_sq (q_seq (q_region (q_x (v:=s1.v) hF hS (ex_move rfl) rfl rfl fun a hF=>q_x (v:=s2.v) hF hS (ex_move rfl) rfl rfl fun a hF=>q_x (v:=(iV p_i)) hF hS (ex_move rfl) rfl rfl fun a hF=>q_x (v:=(iV p_j)) hF hS (ex_move rfl) rfl rfl fun a hF=>q_x (v:=(iV p_down)) hF hS (ex_move rfl) rfl rfl fun a hF=>q_x (v:=(iV p_up)) hF hS (ex_move rfl) rfl rfl fun a hF=>?_)))))
   obtain ⟨t_6,ht_6,hr⟩:=bindS hr
   refine q_call (vs:=[s1.v,s2.v,(iV p_i),(iV p_j),(iV p_down),(iV p_up)]) hF hS Try.func112 (by kernel_rfl) rfl rfl rfl (c_spec_vProtected p_x p_p p_i p_j p_down p_up t_6 ht_6 _ m hS.vis s1 h1 s2 h2) ?_
   rintro a w _ rfl hF hS
   refine q_x (v:=(.bool t_6)) hF hS (ex_assign rfl) rfl rfl fun a hF=>q_x (v:=(.bool true)) hF hS (ex_assign rfl) rfl rfl fun a hF=>q_end (n_sq (q_ret ?_))
   obtain rfl:=someI hr
   exact ret_of hF hS rfl (.tmp rfl (.tmp rfl .nil)) rfl
  ·have hr:=cond_t hc3 hr
   refine q_cond_t hF rfl hc3 (q_seq (q_region (q_x (v:=(.bool false)) hF hS (ex_assign rfl) rfl rfl fun a hF=>q_x (v:=(.bool false)) hF hS (ex_assign rfl) rfl rfl fun a hF=>q_end (n_sq (q_ret (r_sq ?_))))))
   obtain rfl:=someI hr
   exact ret_of hF hS rfl (.tmp rfl (.tmp rfl .nil)) rfl

theorem c_spec_l1Cur_protection (p_c : spec_l1Cur) (r : (List (List Int)) × (List (List Int)) × Int × Int × spec_l1Cur) (hr : spec_l1Cur_protection p_c = some r) (w0 : World) (m : Mem) (b_p_c : Nat) (s1 : Sl) (h1 : Rd m s1 p_c.code) (X : List Nat) (hS : St X w0 w0 m [[⟨b_p_c,[s1.v,(iV p_c.at_),(.int .u64 p_c.seed.v)],90⟩]]) :
  RetX Try.prog 160 [(.pointer (some ⟨b_p_c,0,none⟩))] w0 (fun v w=>∃ (q0' : Piece) (q1' : Piece) (s0' : Sl) (s1' : Sl),v = (.tuple #[s0'.v,s1'.v,(iV r.2.2.1),(iV r.2.2.2.1)])∧St X w0 w m [[⟨b_p_c,[s1.v,(iV r.2.2.2.2.at_),(.int .u64 r.2.2.2.2.seed.v)],90⟩],q0',q1']∧OwnD m 28 3 q0' s0' r.1∧OwnD m 28 3 q1' s1' r.2.1∧r.2.2.2.2.code = p_c.code):=by
 unfold spec_l1Cur_protection at hr
 refine ret_startX Try.func160 rfl 79 rfl rfl fun a hF=>q_seq (q_region (q_x (v:=nilS.v) hF hS (ex_assign rfl) rfl rfl fun a hF=>q_x (v:=nilS.v) hF hS (ex_assign rfl) rfl rfl fun a hF=>q_x (v:=(iV 0)) hF hS (ex_assign rfl) rfl rfl fun a hF=>q_x (v:=(iV 0)) hF hS (ex_assign rfl) rfl rfl fun a hF=>q_end (n_sq (q_seq (q_region (q_x (v:=(.pointer (some ⟨b_p_c,0,none⟩))) hF hS (ex_move rfl) rfl rfl fun a hF=>?_))))))
 have hS2 : St _ _ _ _ ([[⟨b_p_c,[s1.v,(iV p_c.at_),(.int .u64 p_c.seed.v)],90⟩]]++[]):=hS
 have hE2:=hS2.enter
 obtain ⟨t_3,ht_3,hr⟩:=bindS hr
 refine q_do rfl fun _ hK=>wp_callX (vs:=[(.pointer (some ⟨b_p_c,0,none⟩))]) hF Try.func73 (by kernel_rfl) rfl rfl rfl (c_spec_l1Cur_anyTwoWay p_c t_3 ht_3 _ m b_p_c s1 h1 _ hE2) fun a w _ hR hF=>hK _ _ ?_
 obtain ⟨q4,s4,rfl,hR2,h4,hk5⟩:=hR
 have hS : St _ _ _ _ [[⟨b_p_c,[s1.v,(iV t_3.2.at_),(.int .u64 t_3.2.seed.v)],90⟩],q4]:=hS2.leaveF hR2
 have h5 : Rd m s1 t_3.2.code:=by rw [hk5]; exact h1
 refine q_x (v:=s4.v) hF hS (ex_assign rfl) rfl rfl fun a hF=>q_end (n_sq (q_seq (q_region (q_x (v:=nilS.v) hF hS (ex_assign rfl) rfl rfl fun a hF=>q_end (n_sq (q_seq (q_seq (q_region (q_x (v:=s4.v) hF hS (ex_move rfl) rfl rfl fun a hF=>q_x (v:=(iV (goLen t_3.1))) hF hS (ex_len Try.underlying23 rfl h4.len) rfl rfl fun a hF=>q_x (v:=(iV 0)) hF hS (ex_move rfl) rfl rfl fun a hF=>q_end (n_sq (q_block ?_)))))))))))
 obtain ⟨o1,hl1,hr⟩:=bindS hr
 refine q_loop (fun (s : (List (List Int)) × Int × spec_l1Cur) a w=>∃ (q7 : Piece),∃ (s7 : Sl),∃ p_6,∃ t_8,∃ p_c_9,s = (p_6,t_8,p_c_9)∧Fr a 79 [(0,(.pointer (some ⟨b_p_c,0,none⟩))),(6,s4.v),(7,s7.v),(14,s4.v),(15,(iV (goLen t_3.1))),(16,(iV t_8))]∧St X w0 w m [q7,[⟨b_p_c,[s1.v,(iV p_c_9.at_),(.int .u64 p_c_9.seed.v)],90⟩],q4]∧OwnD m 28 3 q7 s7 p_6∧Rd m s1 p_c_9.code∧p_c_9.code = p_c.code) (fun (o : (List (List Int)) × spec_l1Cur) e a w=>∃ (q46 : Piece),∃ (s46 : Sl),∃ p_45,∃ p_c_47,o = (p_45,p_c_47)∧e = .exit 0∧Fr a 79 [(0,(.pointer (some ⟨b_p_c,0,none⟩))),(6,s4.v),(7,s46.v)]∧St X w0 w m [q4,q46,[⟨b_p_c,[s1.v,(iV p_c_47.at_),(.int .u64 p_c_47.seed.v)],90⟩]]∧OwnD m 28 3 q46 s46 p_45∧Rd m s1 p_c_47.code∧p_c_47.code = p_c.code) hl1 ⟨[],nilS,_,_,_,rfl,hF.sub ⟨rfl,rfl,rfl,rfl,rfl,rfl,trivial⟩,hS.sel [2,0,1] (by decide),(OwnD.nil (β:=Int) m 28 3),h5,hk5⟩ ?_ ?_
 ·clear hF hS
  rintro s a w st ⟨q7,s7,p_6,t_8,p_c_9,rfl,hF,hS,h7,h10,h10k⟩ hb1
  unfold spec_l1Cur_protection_l1 at hb1
  refine q_seq (q_region (q_x (v:=(.bool (decide (t_8 < (goLen t_3.1))))) hF hS (ex_ibin rfl rfl rfl) rfl rfl fun a hF=>q_end (n_sq (q_seq ?_))))
  rcases bcase (decide (t_8 < (goLen t_3.1))) with hc2 | hc2
  ·have hb1:=cond_f hc2 hb1
   refine q_cond_f hF rfl hc2 (q_exit (x_sq ?_))
   obtain rfl:=someI hb1
   exact ⟨nofun,.inl ⟨q7,s7,_,_,rfl,rfl,hF.sub ⟨rfl,rfl,rfl,trivial⟩,hS.sel [2,0,1] (by decide),h7,h10,h10k⟩⟩
  ·have hb1:=cond_t hc2 hb1
   refine q_cond_t hF rfl hc2 (q_skipc (n_sq (q_seq (q_block (q_seq (q_region ?_))))))
   obtain ⟨e_11,he_11,hb1⟩:=bindS hb1
   obtain ⟨s12,hV12⟩:=h4.view he_11
   refine q_x (v:=(elP s4 (t_8.toNat * 1))) hF hS (ex_indexAddr Try.underlying23 sz28 rfl rfl (h4.idx he_11)) rfl rfl fun a hF=>q_x (v:=s12.v) hF hS (ex_loadE1 0 Try.underlying28 rfl rfl ((hV12.atH he_11).at 2 rfl) rfl rfl) rfl rfl fun a hF=>q_x (v:=s12.v) hF hS (ex_assign rfl) rfl rfl fun a hF=>q_end (n_sq (q_seq (q_region (q_x (v:=s12.v) hF hS (ex_move rfl) rfl rfl fun a hF=>q_x (v:=(iV (goLen e_11))) hF hS (ex_len Try.underlying28 rfl (hV12.len he_11)) rfl rfl fun a hF=>?_))))
   obtain ⟨l_13,hl_13,hb1⟩:=bindS hb1
   refine q_do rfl fun _ hK=>wp_make (z:=(0 : Int)) hF hS Try.underlying28 inf3 rfl rfl rfl rfl rfl (by decide) hl_13 rfl fun a w q14 s14 hF hS h14 _=>hK _ _ (q_x (v:=s14.v) hF hS (ex_assign rfl) rfl rfl fun a hF=>q_end (n_sq (q_seq (q_seq (q_region (q_x (v:=s14.v) hF hS (ex_move rfl) rfl rfl fun a hF=>q_x (v:=(iV (goLen l_13))) hF hS (ex_len Try.underlying28 rfl h14.len) rfl rfl fun a hF=>q_x (v:=(iV 0)) hF hS (ex_move rfl) rfl rfl fun a hF=>q_end (n_sq (q_block ?_))))))))
   obtain ⟨o3,hl3,hb1⟩:=bindS hb1
   refine q_loop (fun (s : (List Int) × Int × spec_l1Cur) a w=>∃ (q16 : Piece),∃ l_15,∃ t_17,∃ p_c_18,s = (l_15,t_17,p_c_18)∧Fr a 79 [(0,(.pointer (some ⟨b_p_c,0,none⟩))),(6,s4.v),(7,s7.v),(9,s12.v),(10,s14.v),(14,s4.v),(15,(iV (goLen t_3.1))),(16,(iV t_8)),(24,(iV (goLen l_13))),(25,(iV t_17))]∧St X w0 w m [q16,q7,[⟨b_p_c,[s1.v,(iV p_c_18.at_),(.int .u64 p_c_18.seed.v)],90⟩],q4]∧OwnL m 3 q16 s14 l_15∧Rd m s1 p_c_18.code∧p_c_18.code = p_c.code) (fun (o : (List Int) × spec_l1Cur) e a w=>∃ (q39 : Piece),∃ l_38,∃ p_c_40,o = (l_38,p_c_40)∧e = .exit 2∧Fr a 79 [(0,(.pointer (some ⟨b_p_c,0,none⟩))),(6,s4.v),(7,s7.v),(10,s14.v),(14,s4.v),(15,(iV (goLen t_3.1))),(16,(iV t_8))]∧St X w0 w m [q4,q7,q39,[⟨b_p_c,[s1.v,(iV p_c_40.at_),(.int .u64 p_c_40.seed.v)],90⟩]]∧OwnL m 3 q39 s14 l_38∧Rd m s1 p_c_40.code∧p_c_40.code = p_c.code) hl3 ⟨q14,_,_,_,rfl,hF.sub ⟨rfl,rfl,rfl,rfl,rfl,rfl,rfl,rfl,rfl,rfl,trivial⟩,hS,h14,h10,h10k⟩ ?_ ?_
   ·clear hF hS
    rintro s a w st ⟨q16,l_15,t_17,p_c_18,rfl,hF,hS,h16,h19,h19k⟩ hb3
    unfold spec_l1Cur_protection_l2 at hb3
    refine q_seq (q_region (q_x (v:=(.bool (decide (t_17 < (goLen l_13))))) hF hS (ex_ibin rfl rfl rfl) rfl rfl fun a hF=>q_end (n_sq (q_seq ?_))))
    rcases bcase (decide (t_17 < (goLen l_13))) with hc4 | hc4
    ·have hb3:=cond_f hc4 hb3
     refine q_cond_f hF rfl hc4 (q_exit (x_sq ?_))
     obtain rfl:=someI hb3
     exact ⟨nofun,.inl ⟨q16,_,_,rfl,rfl,hF.sub ⟨rfl,rfl,rfl,rfl,rfl,rfl,rfl,trivial⟩,hS.sel [3,1,0,2] (by decide),h16,h19,h19k⟩⟩
    ·have hb3:=cond_t hc4 hb3
     refine q_cond_t hF rfl hc4 (q_skipc (n_sq (q_seq (q_block (q_seq (q_region (q_x (v:=(iV t_17)) hF hS (ex_move rfl) rfl rfl fun a hF=>q_x (v:=(iV t_17)) hF hS (ex_assign rfl) rfl rfl fun a hF=>q_end (n_sq (q_seq ?_)))))))))
     obtain ⟨j5,hj5,hb3⟩:=bindS hb3
     refine q_join (fun a w=>∃ t_30,∃ p_c_31,j5 = (t_30,p_c_31)∧Fr a 79 [(0,(.pointer (some ⟨b_p_c,0,none⟩))),(6,s4.v),(7,s7.v),(9,s12.v),(10,s14.v),(11,(iV t_17)),(14,s4.v),(15,(iV (goLen t_3.1))),(16,(iV t_8)),(24,(iV (goLen l_13))),(25,(iV t_17)),(43,(.bool t_30))]∧St X w0 w m [q4,q7,q16,[⟨b_p_c,[s1.v,(iV p_c_31.at_),(.int .u64 p_c_31.seed.v)],90⟩]]∧Rd m s1 p_c_31.code∧p_c_31.code = p_c.code) ?_ ?_
     ·refine q_region (q_x (v:=s12.v) hF hS (ex_move rfl) rfl rfl fun a hF=>q_x (v:=(iV t_17)) hF hS (ex_move rfl) rfl rfl fun a hF=>?_)
      obtain ⟨e_20,he_20,hj5⟩:=bindS hj5
      obtain ⟨vs21,at21,d21⟩:=hV12.at he_11 he_20 1 rfl
      obtain rfl : vs21 = [(iV e_20)]:=d21
      refine q_x (v:=(elP s12 (t_17.toNat * 1))) hF hS (ex_indexAddr Try.underlying28 sz3 rfl rfl (hV12.idx he_11 he_20)) rfl rfl fun a hF=>q_x (v:=(iV e_20)) hF hS (ex_loadE1 0 Try.underlying3 rfl rfl (at21.at 3 rfl) rfl rfl) rfl rfl fun a hF=>q_x (v:=(.bool (decide (0 < e_20)))) hF hS (ex_ibin rfl rfl rfl) rfl rfl fun a hF=>q_x (v:=(.bool (decide (0 < e_20)))) hF hS (ex_move rfl) rfl rfl fun a hF=>?_
      rcases bcase (decide (0 < e_20)) with hc6 | hc6
      ·have hj5:=cond_f hc6 hj5
       refine q_skip hF (wanted_f hF rfl rfl rfl hc6 rfl) rfl fun a hF=>q_skip hF (wanted_f hF rfl rfl rfl hc6 rfl) rfl fun a hF=>q_skip hF (wanted_f hF rfl rfl rfl hc6 rfl) rfl fun a hF=>q_skip hF (wanted_f hF rfl rfl rfl hc6 rfl) rfl fun a hF=>q_skip hF (wanted_f hF rfl rfl rfl hc6 rfl) rfl fun a hF=>q_x (v:=(.bool false)) hF hS (ex_pick_f rfl rfl hc6) rfl rfl fun a hF=>q_x (v:=(.bool false)) hF hS (ex_move rfl) rfl rfl fun a hF=>q_xg (v:=(.pointer (some ⟨b_p_c,0,none⟩))) hF hS (ex_move rfl) (wanted_t hF rfl rfl rfl rfl) rfl fun a hF=>?_
       have hS : St _ _ _ _ [[⟨b_p_c,[s1.v,(iV p_c_18.at_),(.int .u64 p_c_18.seed.v)],90⟩],q16,q7,q4]:=hS.sel [2,0,1,3] (by decide)
       have hS22 : St _ _ _ _ ([[⟨b_p_c,[s1.v,(iV p_c_18.at_),(.int .u64 p_c_18.seed.v)],90⟩]]++[q16,q7,q4]):=hS
       have hE22:=hS22.enter
       obtain ⟨t_23,ht_23,hj5⟩:=bindS hj5
       refine q_dog (wanted_t hF rfl rfl rfl rfl) fun _ hK=>wp_callX (vs:=[(.pointer (some ⟨b_p_c,0,none⟩)),(iV 5)]) hF Try.func85 (by kernel_rfl) rfl rfl rfl (c_spec_l1Cur_one p_c_18 5 t_23 ht_23 _ m b_p_c s1 h19 _ hE22) fun a w _ hR hF=>hK _ _ ?_
       obtain ⟨rfl,hR22,hk24⟩:=hR
       have hS : St _ _ _ _ [[⟨b_p_c,[s1.v,(iV t_23.2.at_),(.int .u64 t_23.2.seed.v)],90⟩],q16,q7,q4]:=hS22.leaveF hR22
       have h24 : Rd m s1 t_23.2.code:=by rw [hk24]; exact h19
       refine q_x (v:=(.bool t_23.1)) hF hS (ex_pick_f rfl rfl rfl) rfl rfl fun a hF=>q_end (n_jn ?_)
       obtain rfl:=someI hj5
       exact ⟨_,_,rfl,hF.sub ⟨rfl,rfl,rfl,rfl,rfl,rfl,rfl,rfl,rfl,rfl,rfl,rfl,trivial⟩,hS.sel [3,2,1,0] (by decide),h24,(hk24.trans h19k)⟩
      ·have hj5:=cond_t hc6 hj5
       refine q_xg (v:=s12.v) hF hS (ex_move rfl) (wanted_t hF rfl rfl rfl hc6) rfl fun a hF=>q_xg (v:=(iV t_17)) hF hS (ex_move rfl) (wanted_t hF rfl rfl rfl hc6) rfl fun a hF=>?_
       obtain ⟨e_25,he_25,hj5⟩:=bindS hj5
       obtain ⟨vs26,at26,d26⟩:=hV12.at he_11 he_25 1 rfl
       obtain rfl : vs26 = [(iV e_25)]:=d26
       refine q_xg (v:=(elP s12 (t_17.toNat * 1))) hF hS (ex_indexAddr Try.underlying28 sz3 rfl rfl (hV12.idx he_11 he_25)) (wanted_t hF rfl rfl rfl hc6) rfl fun a hF=>q_xg (v:=(iV e_25)) hF hS (ex_loadE1 0 Try.underlying3 rfl rfl (at26.at 3 rfl) rfl rfl) (wanted_t hF rfl rfl rfl hc6) rfl fun a hF=>q_xg (v:=(.bool (decide (e_25 < 3)))) hF hS (ex_ibin rfl rfl rfl) (wanted_t hF rfl rfl rfl hc6) rfl fun a hF=>q_x (v:=(.bool (decide (e_25 < 3)))) hF hS (ex_pick_t rfl rfl hc6) rfl rfl fun a hF=>q_x (v:=(.bool (decide (e_25 < 3)))) hF hS (ex_move rfl) rfl rfl fun a hF=>?_
       rcases bcase (decide (e_25 < 3)) with hc7 | hc7
       ·have hj5:=cond_f hc7 hj5
        refine q_xg (v:=(.pointer (some ⟨b_p_c,0,none⟩))) hF hS (ex_move rfl) (wanted_t hF rfl rfl rfl hc7) rfl fun a hF=>?_
        have hS : St _ _ _ _ [[⟨b_p_c,[s1.v,(iV p_c_18.at_),(.int .u64 p_c_18.seed.v)],90⟩],q16,q7,q4]:=hS.sel [2,0,1,3] (by decide)
        have hS27 : St _ _ _ _ ([[⟨b_p_c,[s1.v,(iV p_c_18.at_),(.int .u64 p_c_18.seed.v)],90⟩]]++[q16,q7,q4]):=hS
        have hE27:=hS27.enter
        obtain ⟨t_28,ht_28,hj5⟩:=bindS hj5
        refine q_dog (wanted_t hF rfl rfl rfl hc7) fun _ hK=>wp_callX (vs:=[(.pointer (some ⟨b_p_c,0,none⟩)),(iV 5)]) hF Try.func85 (by kernel_rfl) rfl rfl rfl (c_spec_l1Cur_one p_c_18 5 t_28 ht_28 _ m b_p_c s1 h19 _ hE27) fun a w _ hR hF=>hK _ _ ?_
        obtain ⟨rfl,hR27,hk29⟩:=hR
        have hS : St _ _ _ _ [[⟨b_p_c,[s1.v,(iV t_28.2.at_),(.int .u64 t_28.2.seed.v)],90⟩],q16,q7,q4]:=hS27.leaveF hR27
        have h29 : Rd m s1 t_28.2.code:=by rw [hk29]; exact h19
        refine q_x (v:=(.bool t_28.1)) hF hS (ex_pick_f rfl rfl hc7) rfl rfl fun a hF=>q_end (n_jn ?_)
        obtain rfl:=someI hj5
        exact ⟨_,_,rfl,hF.sub ⟨rfl,rfl,rfl,rfl,rfl,rfl,rfl,rfl,rfl,rfl,rfl,rfl,trivial⟩,hS.sel [3,2,1,0] (by decide),h29,(hk29.trans h19k)⟩
       ·have hj5:=cond_t hc7 hj5
        refine q_skip hF (wanted_f hF rfl rfl rfl hc7 rfl) rfl fun a hF=>q_skip hF (wanted_f hF rfl rfl rfl hc7 rfl) rfl fun a hF=>q_x (v:=(.bool true)) hF hS (ex_pick_t rfl rfl hc7) rfl rfl fun a hF=>q_end (n_jn ?_)
        obtain rfl:=someI hj5
        exact ⟨_,_,rfl,hF.sub ⟨rfl,rfl,rfl,rfl,rfl,rfl,rfl,rfl,rfl,rfl,rfl,rfl,trivial⟩,hS.sel [3,1,0,2] (by decide),h19,h19k⟩
     ·rintro a w ⟨t_30,p_c_31,rfl,hF,hS,h32,h32k⟩
      refine n_sq ?_
      obtain ⟨l_36,hj8,hb3⟩:=bindS hb3
      refine q_join (fun a w=>∃ (q37 : Piece),Fr a 79 [(0,(.pointer (some ⟨b_p_c,0,none⟩))),(6,s4.v),(7,s7.v),(9,s12.v),(10,s14.v),(14,s4.v),(15,(iV (goLen t_3.1))),(16,(iV t_8)),(24,(iV (goLen l_13))),(25,(iV t_17))]∧St X w0 w m [q4,q7,q37,[⟨b_p_c,[s1.v,(iV p_c_31.at_),(.int .u64 p_c_31.seed.v)],90⟩]]∧OwnL m 3 q37 s14 l_36) ?_ ?_
      ·rcases bcase (t_30) with hc9 | hc9
       ·have hj8:=cond_f hc9 hj8
        refine q_cond_f hF rfl hc9 (q_skipc (n_jn ?_))
        obtain rfl:=someI hj8
        exact ⟨q16,hF.sub ⟨rfl,rfl,rfl,rfl,rfl,rfl,rfl,rfl,rfl,rfl,trivial⟩,hS,h16⟩
       ·have hj8:=cond_t hc9 hj8
        refine q_cond_t hF rfl hc9 (q_region (q_x (v:=s14.v) hF hS (ex_move rfl) rfl rfl fun a hF=>q_x (v:=(iV t_17)) hF hS (ex_move rfl) rfl rfl fun a hF=>?_))
        obtain ⟨e_33,he_33,hj8⟩:=bindS hj8
        obtain ⟨vs34,at34,d34⟩:=h16.at he_33 1 rfl
        obtain rfl : vs34 = [(iV e_33)]:=d34
        refine q_x (v:=(elP s14 (t_17.toNat * 1))) hF hS (ex_indexAddr Try.underlying28 sz3 rfl rfl (h16.idx he_33)) rfl rfl fun a hF=>?_
        have hS : St _ _ _ _ [q16,q4,q7,[⟨b_p_c,[s1.v,(iV p_c_31.at_),(.int .u64 p_c_31.seed.v)],90⟩]]:=hS.sel [2,0,1,3] (by decide)
        refine q_do rfl fun _ hK=>wp_storeE (e':=1) (us:=[(iV 1)]) (vs:=[(iV e_33)]) 0 hF hS h16 sz3 rfl rfl rfl rfl rfl rfl rfl he_33 at34 rfl rfl rfl fun w q35 hS h35=>hK _ _ (q_end (n_jn ?_))
        obtain rfl:=someI hj8
        exact ⟨q35,hF.sub ⟨rfl,rfl,rfl,rfl,rfl,rfl,rfl,rfl,rfl,rfl,trivial⟩,hS.sel [1,2,0,3] (by decide),h35⟩
      ·rintro a w ⟨q37,hF,hS,h37⟩
       refine n_ib (n_sq ?_)
       refine q_region (q_x (v:=(iV (w64 (t_17 + 1)))) hF hS (ex_ibin rfl rfl rfl) rfl rfl fun a hF=>q_x (v:=(iV (w64 (t_17 + 1)))) hF hS (ex_move rfl) rfl rfl fun a hF=>q_end ?_)
       obtain rfl:=someI hb3
       exact ⟨rfl,q37,_,_,_,rfl,hF.sub ⟨rfl,rfl,rfl,rfl,rfl,rfl,rfl,rfl,rfl,rfl,trivial⟩,hS.sel [2,1,3,0] (by decide),h37,h32,h32k⟩
   ·rintro e a w ⟨q39,l_38,p_c_40,rfl,rfl,hF,hS,h39,h41,h41k⟩
    refine x_ib (n_sq ?_)
    refine q_region (q_x (v:=s7.v) hF hS (ex_move rfl) rfl rfl fun a hF=>q_x (v:=s14.v) hF hS (ex_move rfl) rfl rfl fun a hF=>?_)
    have hS : St _ _ _ _ [q39,q4,q7,[⟨b_p_c,[s1.v,(iV p_c_40.at_),(.int .u64 p_c_40.seed.v)],90⟩]]:=hS.sel [2,0,1,3] (by decide)
    refine q_do rfl fun _ hK=>wp_build1D hF hS h39 Try.underlying23 inf28 rfl rfl rfl fun a w q42 s42 hF hS h42 _=>hK _ _ ?_
    have hS : St _ _ _ _ [q7,q42,q4,[⟨b_p_c,[s1.v,(iV p_c_40.at_),(.int .u64 p_c_40.seed.v)],90⟩]]:=hS.sel [2,0,1,3] (by decide)
    obtain ⟨l_43,hl_43,hb1⟩:=bindS hb1
    refine q_do rfl fun _ hK=>wp_appendD hF hS h7 h42 Try.underlying23 inf28 rfl rfl rfl (by decide) hl_43 rfl fun a w q44 s44 hF hS h44=>hK _ _ (q_x (v:=s44.v) hF hS (ex_assign rfl) rfl rfl fun a hF=>q_end (n_ib (n_sq (q_region (q_x (v:=(iV (w64 (t_8 + 1)))) hF hS (ex_ibin rfl rfl rfl) rfl rfl fun a hF=>q_x (v:=(iV (w64 (t_8 + 1)))) hF hS (ex_move rfl) rfl rfl fun a hF=>q_end ?_)))))
    obtain rfl:=someI hb1
    exact ⟨rfl,q44,s44,_,_,_,rfl,hF.sub ⟨rfl,rfl,rfl,rfl,rfl,rfl,trivial⟩,hS.sel [0,2,1] (by decide),h44,h41,h41k⟩
 ·rintro e a w ⟨q46,s46,p_45,p_c_47,rfl,rfl,hF,hS,h46,h48,h48k⟩
  refine x_ib (n_sq ?_)
  refine q_seq (q_seq ?_)
  obtain ⟨j10,hj10,hr⟩:=bindS hr
  refine q_join (fun a w=>∃ t_54,∃ p_c_55,j10 = (t_54,p_c_55)∧Fr a 79 [(0,(.pointer (some ⟨b_p_c,0,none⟩))),(6,s4.v),(7,s46.v),(66,(.bool t_54))]∧St X w0 w m [q4,q46,[⟨b_p_c,[s1.v,(iV p_c_55.at_),(.int .u64 p_c_55.seed.v)],90⟩]]∧Rd m s1 p_c_55.code∧p_c_55.code = p_c.code) ?_ ?_
  ·refine q_region (q_x (v:=s46.v) hF hS (ex_move rfl) rfl rfl fun a hF=>q_x (v:=(iV (goLen p_45))) hF hS (ex_len Try.underlying23 rfl h46.len) rfl rfl fun a hF=>q_x (v:=(.bool (decide (0 < (goLen p_45))))) hF hS (ex_ibin rfl rfl rfl) rfl rfl fun a hF=>q_x (v:=(.bool (decide (0 < (goLen p_45))))) hF hS (ex_move rfl) rfl rfl fun a hF=>?_)
   rcases bcase (decide (0 < (goLen p_45))) with hc11 | hc11
   ·have hj10:=cond_f hc11 hj10
    refine q_skip hF (wanted_f hF rfl rfl rfl hc11 rfl) rfl fun a hF=>q_skip hF (wanted_f hF rfl rfl rfl hc11 rfl) rfl fun a hF=>q_skip hF (wanted_f hF rfl rfl rfl hc11 rfl) rfl fun a hF=>q_skip hF (wanted_f hF rfl rfl rfl hc11 rfl) rfl fun a hF=>q_skip hF (wanted_f hF rfl rfl rfl hc11 rfl) rfl fun a hF=>q_x (v:=(.bool false)) hF hS (ex_pick_f rfl rfl hc11) rfl rfl fun a hF=>q_x (v:=(.bool false)) hF hS (ex_move rfl) rfl rfl fun a hF=>q_skip hF (wanted_f hF rfl rfl rfl rfl rfl) rfl fun a hF=>q_skip hF (wanted_f hF rfl rfl rfl rfl rfl) rfl fun a hF=>q_x (v:=(.bool false)) hF hS (ex_pick_f rfl rfl rfl) rfl rfl fun a hF=>q_end (n_jn ?_)
    obtain rfl:=someI hj10
    exact ⟨_,_,rfl,hF.sub ⟨rfl,rfl,rfl,rfl,trivial⟩,hS,h48,h48k⟩
   ·have hj10:=cond_t hc11 hj10
    refine q_xg (v:=s46.v) hF hS (ex_move rfl) (wanted_t hF rfl rfl rfl hc11) rfl fun a hF=>?_
    obtain ⟨e_49,he_49,hj10⟩:=bindS hj10
    obtain ⟨s50,hV50⟩:=h46.view he_49
    refine q_xg (v:=(elP s46 ((0 : Int).toNat * 1))) hF hS (ex_indexAddr Try.underlying23 sz28 rfl rfl (h46.idx he_49)) (wanted_t hF rfl rfl rfl hc11) rfl fun a hF=>q_xg (v:=s50.v) hF hS (ex_loadE1 0 Try.underlying28 rfl rfl ((hV50.atH he_49).at 1 rfl) rfl rfl) (wanted_t hF rfl rfl rfl hc11) rfl fun a hF=>q_xg (v:=(iV (goLen e_49))) hF hS (ex_len Try.underlying28 rfl (hV50.len he_49)) (wanted_t hF rfl rfl rfl hc11) rfl fun a hF=>q_xg (v:=(.bool (decide (0 < (goLen e_49))))) hF hS (ex_ibin rfl rfl rfl) (wanted_t hF rfl rfl rfl hc11) rfl fun a hF=>q_x (v:=(.bool (decide (0 < (goLen e_49))))) hF hS (ex_pick_t rfl rfl hc11) rfl rfl fun a hF=>q_x (v:=(.bool (decide (0 < (goLen e_49))))) hF hS (ex_move rfl) rfl rfl fun a hF=>?_
    rcases bcase (decide (0 < (goLen e_49))) with hc12 | hc12
    ·have hj10:=cond_f hc12 hj10
     refine q_skip hF (wanted_f hF rfl rfl rfl hc12 rfl) rfl fun a hF=>q_skip hF (wanted_f hF rfl rfl rfl hc12 rfl) rfl fun a hF=>q_x (v:=(.bool false)) hF hS (ex_pick_f rfl rfl hc12) rfl rfl fun a hF=>q_end (n_jn ?_)
     obtain rfl:=someI hj10
     exact ⟨_,_,rfl,hF.sub ⟨rfl,rfl,rfl,rfl,trivial⟩,hS,h48,h48k⟩
    ·have hj10:=cond_t hc12 hj10
     refine q_xg (v:=(.pointer (some ⟨b_p_c,0,none⟩))) hF hS (ex_move rfl) (wanted_t hF rfl rfl rfl hc12) rfl fun a hF=>?_
     have hS : St _ _ _ _ [[⟨b_p_c,[s1.v,(iV p_c_47.at_),(.int .u64 p_c_47.seed.v)],90⟩],q4,q46]:=hS.sel [2,0,1] (by decide)
     have hS51 : St _ _ _ _ ([[⟨b_p_c,[s1.v,(iV p_c_47.at_),(.int .u64 p_c_47.seed.v)],90⟩]]++[q4,q46]):=hS
     have hE51:=hS51.enter
     obtain ⟨t_52,ht_52,hj10⟩:=bindS hj10
     refine q_dog (wanted_t hF rfl rfl rfl hc12) fun _ hK=>wp_callX (vs:=[(.pointer (some ⟨b_p_c,0,none⟩)),(iV 30)]) hF Try.func85 (by kernel_rfl) rfl rfl rfl (c_spec_l1Cur_one p_c_47 30 t_52 ht_52 _ m b_p_c s1 h48 _ hE51) fun a w _ hR hF=>hK _ _ ?_
     obtain ⟨rfl,hR51,hk53⟩:=hR
     have hS : St _ _ _ _ [[⟨b_p_c,[s1.v,(iV t_52.2.at_),(.int .u64 t_52.2.seed.v)],90⟩],q4,q46]:=hS51.leaveF hR51
     have h53 : Rd m s1 t_52.2.code:=by rw [hk53]; exact h48
     refine q_x (v:=(.bool t_52.1)) hF hS (ex_pick_t rfl rfl hc12) rfl rfl fun a hF=>q_end (n_jn ?_)
     obtain rfl:=someI hj10
     exact ⟨_,_,rfl,hF.sub ⟨rfl,rfl,rfl,rfl,trivial⟩,hS.sel [1,2,0] (by decide),h53,(hk53.trans h48k)⟩
  ·rintro a w ⟨t_54,p_c_55,rfl,hF,hS,h56,h56k⟩
   refine n_sq ?_
   obtain ⟨p_62,hj13,hr⟩:=bindS hr
   refine q_join (fun a w=>∃ (q63 : Piece),Fr a 79 [(0,(.pointer (some ⟨b_p_c,0,none⟩))),(6,s4.v),(7,s46.v)]∧St X w0 w m [q4,q63,[⟨b_p_c,[s1.v,(iV p_c_55.at_),(.int .u64 p_c_55.seed.v)],90⟩]]∧OwnD m 28 3 q63 s46 p_62) ?_ ?_
   ·rcases bcase (t_54) with hc14 | hc14
    ·have hj13:=cond_f hc14 hj13
     refine q_cond_f hF rfl hc14 (q_skipc (n_jn ?_))
     obtain rfl:=someI hj13
     exact ⟨q46,hF.sub ⟨rfl,rfl,rfl,trivial⟩,hS,h46⟩
    ·have hj13:=cond_t hc14 hj13
     refine q_cond_t hF rfl hc14 (q_region (q_x (v:=s46.v) hF hS (ex_move rfl) rfl rfl fun a hF=>?_))
     obtain ⟨e_57,he_57,hj13⟩:=bindS hj13
     obtain ⟨s58,hV58⟩:=h46.view he_57
     refine q_x (v:=(elP s46 ((0 : Int).toNat * 1))) hF hS (ex_indexAddr Try.underlying23 sz28 rfl rfl (h46.idx he_57)) rfl rfl fun a hF=>q_x (v:=s58.v) hF hS (ex_loadE1 0 Try.underlying28 rfl rfl ((hV58.atH he_57).at 1 rfl) rfl rfl) rfl rfl fun a hF=>?_
     obtain ⟨e_59,he_59,hj13⟩:=bindS hj13
     obtain ⟨vs60,at60,d60⟩:=hV58.at he_57 he_59 1 rfl
     obtain rfl : vs60 = [(iV e_59)]:=d60
     refine q_x (v:=(elP s58 ((0 : Int).toNat * 1))) hF hS (ex_indexAddr Try.underlying28 sz3 rfl rfl (hV58.idx he_57 he_59)) rfl rfl fun a hF=>?_
     have hS : St _ _ _ _ [q46,q4,[⟨b_p_c,[s1.v,(iV p_c_55.at_),(.int .u64 p_c_55.seed.v)],90⟩]]:=hS.sel [1,0,2] (by decide)
     refine q_do rfl fun _ hK=>wp_storeV (e':=2) (us:=[(iV 2)]) (vs:=[(iV e_59)]) 0 hF hS hV58 he_57 sz3 rfl rfl rfl rfl rfl rfl rfl he_59 at60 rfl rfl rfl fun w q61 hS h61=>hK _ _ (q_end (n_jn ?_))
     obtain rfl:=someI hj13
     exact ⟨q61,hF.sub ⟨rfl,rfl,rfl,trivial⟩,hS.sel [1,0,2] (by decide),h61.own⟩
   ·rintro a w ⟨q63,hF,hS,h63⟩
    refine n_sq ?_
    refine q_seq (q_region (q_x (v:=s4.v) hF hS (ex_move rfl) rfl rfl fun a hF=>q_x (v:=s46.v) hF hS (ex_move rfl) rfl rfl fun a hF=>q_x (v:=(.pointer (some ⟨b_p_c,0,none⟩))) hF hS (ex_move rfl) rfl rfl fun a hF=>q_do rfl fun _ hK=>wp_buildSlice' (l:=([0,1,1,2,5,-1,1001] : List Int)) (cells:=[(iV 0),(iV 1),(iV 1),(iV 2),(iV 5),(iV (-1)),(iV 1001)]) hF hS Try.underlying28 inf3 rfl rfl (by kernel_rfl) rfl rfl rfl ⟨rfl,rfl,rfl,rfl,rfl,rfl,rfl,rfl⟩ rfl rfl fun a w q64 s64 hF hS h64 _=>hK _ _ ?_))
    have hS : St _ _ _ _ [[⟨b_p_c,[s1.v,(iV p_c_55.at_),(.int .u64 p_c_55.seed.v)],90⟩],q64,q4,q63]:=hS.sel [3,0,1,2] (by decide)
    have hS65 : St _ _ _ _ ([[⟨b_p_c,[s1.v,(iV p_c_55.at_),(.int .u64 p_c_55.seed.v)],90⟩]]++[q64,q4,q63]):=hS
    obtain ⟨m65,hl65,hE65,hz65⟩:=hS65.lendX
    obtain ⟨t_66,ht_66,hr⟩:=bindS hr
    refine q_do rfl fun _ hK=>wp_callX (vs:=[(.pointer (some ⟨b_p_c,0,none⟩)),s64.v]) hF Try.func74 (by kernel_rfl) rfl rfl rfl (c_spec_l1Cur_among p_c_55 ([0,1,1,2,5,-1,1001] : List Int) t_66 ht_66 _ m65 b_p_c s1 (h56.mono hl65) s64 (h64.froz hl65 (hz65 0 _ rfl)) _ hE65) fun a w _ hR hF=>hK _ _ ?_
    obtain ⟨rfl,hR65,hk67⟩:=hR
    have hS : St _ _ _ _ [[⟨b_p_c,[s1.v,(iV t_66.2.at_),(.int .u64 t_66.2.seed.v)],90⟩],q64,q4,q63]:=hS65.leaveF hR65
    have h67 : Rd m s1 t_66.2.code:=by rw [hk67]; exact h56
    refine q_x (v:=(.pointer (some ⟨b_p_c,0,none⟩))) hF hS (ex_move rfl) rfl rfl fun a hF=>q_do rfl fun _ hK=>wp_buildSlice' (l:=([0,1,1,2,5,1000] : List Int)) (cells:=[(iV 0),(iV 1),(iV 1),(iV 2),(iV 5),(iV 1000)]) hF hS Try.underlying28 inf3 rfl rfl (by kernel_rfl) rfl rfl rfl ⟨rfl,rfl,rfl,rfl,rfl,rfl,rfl⟩ rfl rfl fun a w q68 s68 hF hS h68 _=>hK _ _ ?_
    have hS : St _ _ _ _ [[⟨b_p_c,[s1.v,(iV t_66.2.at_),(.int .u64 t_66.2.seed.v)],90⟩],q68,q64,q4,q63]:=hS.sel [1,0,2,3,4] (by decide)
    have hS69 : St _ _ _ _ ([[⟨b_p_c,[s1.v,(iV t_66.2.at_),(.int .u64 t_66.2.seed.v)],90⟩]]++[q68,q64,q4,q63]):=hS
    obtain ⟨m69,hl69,hE69,hz69⟩:=hS69.lendX
    obtain ⟨t_70,ht_70,hr⟩:=bindS hr
    refine q_do rfl fun _ hK=>wp_callX (vs:=[(.pointer (some ⟨b_p_c,0,none⟩)),s68.v]) hF Try.func74 (by kernel_rfl) rfl rfl rfl (c_spec_l1Cur_among t_66.2 ([0,1,1,2,5,1000] : List Int) t_70 ht_70 _ m69 b_p_c s1 (h67.mono hl69) s68 (h68.froz hl69 (hz69 0 _ rfl)) _ hE69) fun a w _ hR hF=>hK _ _ ?_
    obtain ⟨rfl,hR69,hk71⟩:=hR
    have hS : St _ _ _ _ [[⟨b_p_c,[s1.v,(iV t_70.2.at_),(.int .u64 t_70.2.seed.v)],90⟩],q68,q64,q4,q63]:=hS69.leaveF hR69
    have h71 : Rd m s1 t_70.2.code:=by rw [hk71]; exact h67
    refine q_x (v:=s4.v) hF hS (ex_assign rfl) rfl rfl fun a hF=>q_x (v:=s46.v) hF hS (ex_assign rfl) rfl rfl fun a hF=>q_x (v:=(iV t_66.1)) hF hS (ex_assign rfl) rfl rfl fun a hF=>q_x (v:=(iV t_70.1)) hF hS (ex_assign rfl) rfl rfl fun a hF=>q_end (n_sq (q_ret ?_))
    obtain rfl:=someI hr
    exact ret_ofX hF hS rfl (.tmp rfl (.tmp rfl (.tmp rfl (.tmp rfl .nil)))) ⟨q4,q63,s4,s46,rfl,hS.sel [0,3,4] (by decide),h4,h63,(hk71.trans (hk67.trans h56k))⟩

theorem c_spec_JoinPatterns (p_a : List (List Int)) (p_b : List (List Int)) (r : (List (List Int)) × Bool) (hr : spec_JoinPatterns p_a p_b = some r) (w0 : World) (m : Mem) (hv : Vis m w0) (s1 : Sl) (h1 : Rd m s1 p_a) (s2 : Sl) (h2 : Rd m s2 p_b) :
  Ret Try.prog 19 [s1.v,s2.v] w0 (fun v w=>∃ (m' : Mem) (q0' : Piece) (s0' : Sl),v = (.tuple #[s0'.v,(.bool r.2)])∧MLe [] w0.heap.size m m'∧St [] w0 w m' [q0']∧OwnL m' 28 q0' s0' r.1):=by
 unfold spec_JoinPatterns at hr
 refine ret_start Try.func19 rfl 71 rfl rfl m hv fun a hF hS=>q_seq (q_region (q_x (v:=nilS.v) hF hS (ex_assign rfl) rfl rfl fun a hF=>q_x (v:=(.bool false)) hF hS (ex_assign rfl) rfl rfl fun a hF=>q_end (n_sq (q_seq (q_seq ?_)))))
 obtain ⟨t_11,hj1,hr⟩:=bindS hr
 refine q_join (fun a w=>Fr a 71 [(0,s1.v),(1,s2.v),(37,(.bool t_11))]∧St [] w0 w m []) ?_ ?_
 ·refine e_region ⟨[],[],m⟩ mixed fun w' hw'=>?_
  have hS:=hS.below hw'
  refine e_p (v:=s1.v) 0 hF rfl (ex_move rfl) rfl rfl (by kernel_rfl) (by kernel_rfl) (by kernel_rfl) fun a hF=>e_one 1 (by kernel_rfl) ?_
  obtain ⟨t_3,ht_3,hj1⟩:=bindS hj1
  refine e_call (vs:=[s1.v,(iV 1)]) hF hS rfl Try.func90 (by kernel_rfl) rfl rfl rfl (c_spec_qForm p_a 1 t_3 ht_3 _ m hS.vis s1 h1) ?_
  rintro a w _ rfl hF hS
  refine e_p (v:=(.bool (!t_3))) 2 hF rfl (ex_not rfl) rfl rfl (by kernel_rfl) (by kernel_rfl) (by kernel_rfl) fun a hF=>e_p (v:=(.bool (!t_3))) 3 hF rfl (ex_move rfl) rfl rfl (by kernel_rfl) (by kernel_rfl) (by kernel_rfl) fun a hF=>?_
  rcases bcase (!t_3) with hc2 | hc2
  ·have hj1:=cond_f hc2 hj1
   refine e_pg (v:=s2.v) 4 hF rfl (ex_move rfl) (wanted_t hF rfl rfl rfl hc2) rfl (by kernel_rfl) (by kernel_rfl) (by kernel_rfl) fun a hF=>e_one 5 (by kernel_rfl) ?_
   obtain ⟨t_4,ht_4,hj1⟩:=bindS hj1
   refine e_callg (vs:=[s2.v,(iV 1)]) hF hS rfl (wanted_t hF rfl rfl rfl hc2) Try.func90 (by kernel_rfl) rfl rfl rfl (c_spec_qForm p_b 1 t_4 ht_4 _ m hS.vis s2 h2) ?_
   rintro a w _ rfl hF hS
   refine e_pg (v:=(.bool (!t_4))) 6 hF rfl (ex_not rfl) (wanted_t hF rfl rfl rfl hc2) rfl (by kernel_rfl) (by kernel_rfl) (by kernel_rfl) fun a hF=>e_p (v:=(.bool (!t_4))) 7 hF rfl (ex_pick_f rfl rfl hc2) rfl rfl (by kernel_rfl) (by kernel_rfl) (by kernel_rfl) fun a hF=>e_p (v:=(.bool (!t_4))) 8 hF rfl (ex_move rfl) rfl rfl (by kernel_rfl) (by kernel_rfl) (by kernel_rfl) fun a hF=>?_
   rcases bcase (!t_4) with hc3 | hc3
   ·have hj1:=cond_f hc3 hj1
    refine e_pg (v:=s1.v) 9 hF rfl (ex_move rfl) (wanted_t hF rfl rfl rfl hc3) rfl (by kernel_rfl) (by kernel_rfl) (by kernel_rfl) fun a hF=>e_pg (v:=(iV (goLen p_a))) 10 hF rfl (ex_len Try.underlying23 rfl h1.len) (wanted_t hF rfl rfl rfl hc3) rfl (by kernel_rfl) (by kernel_rfl) (by kernel_rfl) fun a hF=>e_pg (v:=s2.v) 11 hF rfl (ex_move rfl) (wanted_t hF rfl rfl rfl hc3) rfl (by kernel_rfl) (by kernel_rfl) (by kernel_rfl) fun a hF=>e_pg (v:=(iV (goLen p_b))) 12 hF rfl (ex_len Try.underlying23 rfl h2.len) (wanted_t hF rfl rfl rfl hc3) rfl (by kernel_rfl) (by kernel_rfl) (by kernel_rfl) fun a hF=>e_pg (v:=(.bool ((goLen p_a) != (goLen p_b)))) 13 hF rfl (ex_ibin rfl rfl rfl) (wanted_t hF rfl rfl rfl hc3) rfl (by kernel_rfl) (by kernel_rfl) (by kernel_rfl) fun a hF=>e_p (v:=(.bool ((goLen p_a) != (goLen p_b)))) 14 hF rfl (ex_pick_f rfl rfl hc3) rfl rfl (by kernel_rfl) (by kernel_rfl) (by kernel_rfl) fun a hF=>e_p (v:=(.bool ((goLen p_a) != (goLen p_b)))) 15 hF rfl (ex_move rfl) rfl rfl (by kernel_rfl) (by kernel_rfl) (by kernel_rfl) fun a hF=>?_
    rcases bcase ((goLen p_a) != (goLen p_b)) with hc4 | hc4
    ·have hj1:=cond_f hc4 hj1
     refine e_pg (v:=s1.v) 16 hF rfl (ex_move rfl) (wanted_t hF rfl rfl rfl hc4) rfl (by kernel_rfl) (by kernel_rfl) (by kernel_rfl) fun a hF=>?_
     obtain ⟨e_5,he_5,hj1⟩:=bindS hj1
     obtain ⟨vs6,at6,d6⟩:=h1.at he_5 1 rfl
     obtain ⟨s7,rfl,h7⟩ : ∃ s7 : Sl,vs6 = [s7.v]∧Rd m s7 e_5:=d6
     refine e_pg (v:=(elP s1 ((0 : Int).toNat * 1))) 17 hF rfl (ex_indexAddr Try.underlying23 sz28 rfl rfl (h1.idx he_5)) (wanted_t hF rfl rfl rfl hc4) rfl (by kernel_rfl) (by kernel_rfl) (by kernel_rfl) fun a hF=>e_xg (v:=s7.v) 18 hF hS rfl (ex_loadE1 0 Try.underlying28 rfl rfl ((at6).at) rfl rfl) (wanted_t hF rfl rfl rfl hc4) rfl (by kernel_rfl) (by kernel_rfl) (by kernel_rfl) (by kernel_rfl) fun a hF=>e_pg (v:=(iV (goLen e_5))) 19 hF rfl (ex_len Try.underlying28 rfl h7.len) (wanted_t hF rfl rfl rfl hc4) rfl (by kernel_rfl) (by kernel_rfl) (by kernel_rfl) fun a hF=>e_pg (v:=s2.v) 20 hF rfl (ex_move rfl) (wanted_t hF rfl rfl rfl hc4) rfl (by kernel_rfl) (by kernel_rfl) (by kernel_rfl) fun a hF=>?_
     obtain ⟨e_8,he_8,hj1⟩:=bindS hj1
     obtain ⟨vs9,at9,d9⟩:=h2.at he_8 1 rfl
     obtain ⟨s10,rfl,h10⟩ : ∃ s10 : Sl,vs9 = [s10.v]∧Rd m s10 e_8:=d9
     refine e_pg (v:=(elP s2 ((0 : Int).toNat * 1))) 21 hF rfl (ex_indexAddr Try.underlying23 sz28 rfl rfl (h2.idx he_8)) (wanted_t hF rfl rfl rfl hc4) rfl (by kernel_rfl) (by kernel_rfl) (by kernel_rfl) fun a hF=>e_xg (v:=s10.v) 22 hF hS rfl (ex_loadE1 0 Try.underlying28 rfl rfl ((at9).at) rfl rfl) (wanted_t hF rfl rfl rfl hc4) rfl (by kernel_rfl) (by kernel_rfl) (by kernel_rfl) (by kernel_rfl) fun a hF=>e_pg (v:=(iV (goLen e_8))) 23 hF rfl (ex_len Try.underlying28 rfl h10.len) (wanted_t hF rfl rfl rfl hc4) rfl (by kernel_rfl) (by kernel_rfl) (by kernel_rfl) fun a hF=>e_pg (v:=(.bool ((goLen e_5) != (goLen e_8)))) 24 hF rfl (ex_ibin rfl rfl rfl) (wanted_t hF rfl rfl rfl hc4) rfl (by kernel_rfl) (by kernel_rfl) (by kernel_rfl) fun a hF=>e_p (v:=(.bool ((goLen e_5) != (goLen e_8)))) 25 hF rfl (ex_pick_f rfl rfl hc4) rfl rfl (by kernel_rfl) (by kernel_rfl) (by kernel_rfl) fun a hF=>e_end (by kernel_rfl) (n_jn ?_) _
     obtain rfl:=someI hj1
     exact ⟨hF.sub ⟨rfl,rfl,rfl,trivial⟩,hS⟩
    ·have hj1:=cond_t hc4 hj1
     refine e_skipP 16 hF rfl (wanted_f hF rfl rfl rfl hc4 rfl) rfl (by kernel_rfl) (by kernel_rfl) (by kernel_rfl) fun a hF=>e_skipP 17 hF rfl (wanted_f hF rfl rfl rfl hc4 rfl) rfl (by kernel_rfl) (by kernel_rfl) (by kernel_rfl) fun a hF=>e_skipP 18 hF rfl (wanted_f hF rfl rfl rfl hc4 rfl) rfl (by kernel_rfl) (by kernel_rfl) (by kernel_rfl) fun a hF=>e_skipP 19 hF rfl (wanted_f hF rfl rfl rfl hc4 rfl) rfl (by kernel_rfl) (by kernel_rfl) (by kernel_rfl) fun a hF=>e_skipP 20 hF rfl (wanted_f hF rfl rfl rfl hc4 rfl) rfl (by kernel_rfl) (by kernel_rfl) (by kernel_rfl) fun a hF=>e_skipP 21 hF rfl (wanted_f hF rfl rfl rfl hc4 rfl) rfl (by kernel_rfl) (by kernel_rfl) (by kernel_rfl) fun a hF=>e_skipP 22 hF rfl (wanted_f hF rfl rfl rfl hc4 rfl) rfl (by kernel_rfl) (by kernel_rfl) (by kernel_rfl) fun a hF=>e_skipP 23 hF rfl (wanted_f hF rfl rfl rfl hc4 rfl) rfl (by kernel_rfl) (by kernel_rfl) (by kernel_rfl) fun a hF=>e_skipP 24 hF rfl (wanted_f hF rfl rfl rfl hc4 rfl) rfl (by kernel_rfl) (by kernel_rfl) (by kernel_rfl) fun a hF=>e_p (v:=(.bool true)) 25 hF rfl (ex_pick_t rfl rfl hc4) rfl rfl (by kernel_rfl) (by kernel_rfl) (by kernel_rfl) fun a hF=>e_end (by kernel_rfl) (n_jn ?_) _
     obtain rfl:=someI hj1
     exact ⟨hF.sub ⟨rfl,rfl,rfl,trivial⟩,hS⟩
   ·have hj1:=cond_t hc3 hj1
    refine e_skipP 9 hF rfl (wanted_f hF rfl rfl rfl hc3 rfl) rfl (by kernel_rfl) (by kernel_rfl) (by kernel_rfl) fun a hF=>e_skipP 10 hF rfl (wanted_f hF rfl rfl rfl hc3 rfl) rfl (by kernel_rfl) (by kernel_rfl) (by kernel_rfl) fun a hF=>e_skipP 11 hF rfl (wanted_f hF rfl rfl rfl hc3 rfl) rfl (by kernel_rfl) (by kernel_rfl) (by kernel_rfl) fun a hF=>e_skipP 12 hF rfl (wanted_f hF rfl rfl rfl hc3 rfl) rfl (by kernel_rfl) (by kernel_rfl) (by kernel_rfl) fun a hF=>e_skipP 13 hF rfl (wanted_f hF rfl rfl rfl hc3 rfl) rfl (by kernel_rfl) (by kernel_rfl) (by kernel_rfl) fun a hF=>e_p (v:=(.bool true)) 14 hF rfl (ex_pick_t rfl rfl hc3) rfl rfl (by kernel_rfl) (by kernel_rfl) (by kernel_rfl) fun a hF=>e_p (v:=(.bool true)) 15 hF rfl (ex_move rfl) rfl rfl (by kernel_rfl) (by kernel_rfl) (by kernel_rfl) fun a hF=>e_skipP 16 hF rfl (wanted_f hF rfl rfl rfl rfl rfl) rfl (by kernel_rfl) (by kernel_rfl) (by kernel_rfl) fun a hF=>e_skipP 17 hF rfl (wanted_f hF rfl rfl rfl rfl rfl) rfl (by kernel_rfl) (by kernel_rfl) (by kernel_rfl) fun a hF=>e_skipP 18 hF rfl (wanted_f hF rfl rfl rfl rfl rfl) rfl (by kernel_rfl) (by kernel_rfl) (by kernel_rfl) fun a hF=>e_skipP 19 hF rfl (wanted_f hF rfl rfl rfl rfl rfl) rfl (by kernel_rfl) (by kernel_rfl) (by kernel_rfl) fun a hF=>e_skipP 20 hF rfl (wanted_f hF rfl rfl rfl rfl rfl) rfl (by kernel_rfl) (by kernel_rfl) (by kernel_rfl) fun a hF=>e_skipP 21 hF rfl (wanted_f hF rfl rfl rfl rfl rfl) rfl (by kernel_rfl) (by kernel_rfl) (by kernel_rfl) fun a hF=>e_skipP 22 hF rfl (wanted_f hF rfl rfl rfl rfl rfl) rfl (by kernel_rfl) (by kernel_rfl) (by kernel_rfl) fun a hF=>e_skipP 23 hF rfl (wanted_f hF rfl rfl rfl rfl rfl) rfl (by kernel_rfl) (by kernel_rfl) (by kernel_rfl) fun a hF=>e_skipP 24 hF rfl (wanted_f hF rfl rfl rfl rfl rfl) rfl (by kernel_rfl) (by kernel_rfl) (by kernel_rfl) fun a hF=>e_p (v:=(.bool true)) 25 hF rfl (ex_pick_t rfl rfl rfl) rfl rfl (by kernel_rfl) (by kernel_rfl) (by kernel_rfl) fun a hF=>e_end (by kernel_rfl) (n_jn ?_) _
    obtain rfl:=someI hj1
    exact ⟨hF.sub ⟨rfl,rfl,rfl,trivial⟩,hS⟩
  ·have hj1:=cond_t hc2 hj1
   refine e_skipP 4 hF rfl (wanted_f hF rfl rfl rfl hc2 rfl) rfl (by kernel_rfl) (by kernel_rfl) (by kernel_rfl) fun a hF=>e_skipP 5 hF rfl (wanted_f hF rfl rfl rfl hc2 rfl) rfl (by kernel_rfl) (by kernel_rfl) (by kernel_rfl) fun a hF=>e_skipP 6 hF rfl (wanted_f hF rfl rfl rfl hc2 rfl) rfl (by kernel_rfl) (by kernel_rfl) (by kernel_rfl) fun a hF=>e_p (v:=(.bool true)) 7 hF rfl (ex_pick_t rfl rfl hc2) rfl rfl (by kernel_rfl) (by kernel_rfl) (by kernel_rfl) fun a hF=>e_p (v:=(.bool true)) 8 hF rfl (ex_move rfl) rfl rfl (by kernel_rfl) (by kernel_rfl) (by kernel_rfl) fun a hF=>e_skipP 9 hF rfl (wanted_f hF rfl rfl rfl rfl rfl) rfl (by kernel_rfl) (by kernel_rfl) (by kernel_rfl) fun a hF=>e_skipP 10 hF rfl (wanted_f hF rfl rfl rfl rfl rfl) rfl (by kernel_rfl) (by kernel_rfl) (by kernel_rfl) fun a hF=>e_skipP 11 hF rfl (wanted_f hF rfl rfl rfl rfl rfl) rfl (by kernel_rfl) (by kernel_rfl) (by kernel_rfl) fun a hF=>e_skipP 12 hF rfl (wanted_f hF rfl rfl rfl rfl rfl) rfl (by kernel_rfl) (by kernel_rfl) (by kernel_rfl) fun a hF=>e_skipP 13 hF rfl (wanted_f hF rfl rfl rfl rfl rfl) rfl (by kernel_rfl) (by kernel_rfl) (by kernel_rfl) fun a hF=>e_p (v:=(.bool true)) 14 hF rfl (ex_pick_t rfl rfl rfl) rfl rfl (by kernel_rfl) (by kernel_rfl) (by kernel_rfl) fun a hF=>e_p (v:=(.bool true)) 15 hF rfl (ex_move rfl) rfl rfl (by kernel_rfl) (by kernel_rfl) (by kernel_rfl) fun a hF=>e_skipP 16 hF rfl (wanted_f hF rfl rfl rfl rfl rfl) rfl (by kernel_rfl) (by kernel_rfl) (by kernel_rfl) fun a hF=>e_skipP 17 hF rfl (wanted_f hF rfl rfl rfl rfl rfl) rfl (by kernel_rfl) (by kernel_rfl) (by kernel_rfl) fun a hF=>e_skipP 18 hF rfl (wanted_f hF rfl rfl rfl rfl rfl) rfl (by kernel_rfl) (by kernel_rfl) (by kernel_rfl) fun a hF=>e_skipP 19 hF rfl (wanted_f hF rfl rfl rfl rfl rfl) rfl (by kernel_rfl) (by kernel_rfl) (by kernel_rfl) fun a hF=>e_skipP 20 hF rfl (wanted_f hF rfl rfl rfl rfl rfl) rfl (by kernel_rfl) (by kernel_rfl) (by kernel_rfl) fun a hF=>e_skipP 21 hF rfl (wanted_f hF rfl rfl rfl rfl rfl) rfl (by kernel_rfl) (by kernel_rfl) (by kernel_rfl) fun a hF=>e_skipP 22 hF rfl (wanted_f hF rfl rfl rfl rfl rfl) rfl (by kernel_rfl) (by kernel_rfl) (by kernel_rfl) fun a hF=>e_skipP 23 hF rfl (wanted_f hF rfl rfl rfl rfl rfl) rfl (by kernel_rfl) (by kernel_rfl) (by kernel_rfl) fun a hF=>e_skipP 24 hF rfl (wanted_f hF rfl rfl rfl rfl rfl) rfl (by kernel_rfl) (by kernel_rfl) (by kernel_rfl) fun a hF=>e_p (v:=(.bool true)) 25 hF rfl (ex_pick_t rfl rfl rfl) rfl rfl (by kernel_rfl) (by kernel_rfl) (by kernel_rfl) fun a hF=>e_end (by kernel_rfl) (n_jn ?_) _
   obtain rfl:=someI hj1
   exact ⟨hF.sub ⟨rfl,rfl,rfl,trivial⟩,hS⟩
 ·rintro a w ⟨hF,hS⟩
  refine n_sq ?_
  rcases bcase (t_11) with hc5 | hc5
  ·have hr:=cond_f hc5 hr
   refine q_cond_f hF rfl hc5 (q_skipc (n_sq (q_seq (q_region (q_x (v:=nilS.v) hF hS (ex_assign rfl) rfl rfl fun a hF=>q_end (n_sq (q_seq (q_seq (q_region (q_x (v:=s1.v) hF hS (ex_move rfl) rfl rfl fun a hF=>q_x (v:=(iV (goLen p_a))) hF hS (ex_len Try.underlying23 rfl h1.len) rfl rfl fun a hF=>q_x (v:=(iV 0)) hF hS (ex_move rfl) rfl rfl fun a hF=>q_end (n_sq (q_block ?_))))))))))))
   obtain ⟨out_39,hl6,hr⟩:=bindS hr
   refine q_loop (fun (s : (List (List Int)) × Int) a w=>∃ (m15 : Mem),∃ (q13 : Piece),∃ (s13 : Sl),∃ out_12,∃ t_14,s = (out_12,t_14)∧Fr a 71 [(1,s2.v),(6,s13.v),(38,s1.v),(39,(iV (goLen p_a))),(40,(iV t_14))]∧St [] w0 w m15 [q13]∧MLe [] w0.heap.size m m15∧OwnL m15 28 q13 s13 out_12) (fun (out_39 : (List (List Int))) e a w=>∃ (m41 : Mem),∃ (q40 : Piece),∃ (s40 : Sl),e = .exit 0∧Fr a 71 [(6,s40.v)]∧St [] w0 w m41 [q40]∧MLe [] w0.heap.size m m41∧OwnL m41 28 q40 s40 out_39) hl6 ⟨m,[],nilS,_,_,rfl,hF.sub ⟨rfl,rfl,rfl,rfl,rfl,trivial⟩,hS.sel [0] (by decide),(MLe.refl _ _),(OwnL.nil (α:=List Int) m 28)⟩ ?_ ?_
   ·clear hF hS
    rintro s a w st ⟨m15,q13,s13,out_12,t_14,rfl,hF,hS,hm15,h13⟩ hb6
    unfold spec_JoinPatterns_l1 at hb6
    refine q_seq (q_region (q_x (v:=(.bool (decide (t_14 < (goLen p_a))))) hF hS (ex_ibin rfl rfl rfl) rfl rfl fun a hF=>q_end (n_sq (q_seq ?_))))
    rcases bcase (decide (t_14 < (goLen p_a))) with hc7 | hc7
    ·have hb6:=cond_f hc7 hb6
     refine q_cond_f hF rfl hc7 (q_exit (x_sq ?_))
     obtain rfl:=someI hb6
     exact ⟨nofun,.inl ⟨m15,q13,s13,rfl,hF.sub ⟨rfl,trivial⟩,hS,hm15,h13⟩⟩
    ·have hb6:=cond_t hc7 hb6
     refine q_cond_t hF rfl hc7 (q_skipc (n_sq (q_seq (q_block (q_seq (q_region (q_x (v:=(iV t_14)) hF hS (ex_move rfl) rfl rfl fun a hF=>?_)))))))
     obtain ⟨e_16,he_16,hb6⟩:=bindS hb6
     obtain ⟨vs17,at17,d17⟩:=h1.at he_16 1 rfl
     obtain ⟨s18,rfl,h18⟩ : ∃ s18 : Sl,vs17 = [s18.v]∧Rd m s18 e_16:=d17
     refine q_x (v:=(elP s1 (t_14.toNat * 1))) hF hS (ex_indexAddr Try.underlying23 sz28 rfl rfl ((h1.mono hm15.le).idx he_16)) rfl rfl fun a hF=>q_x (v:=s18.v) hF hS (ex_loadE1 0 Try.underlying28 rfl rfl (((at17.mono hm15.le)).at) rfl rfl) rfl rfl fun a hF=>q_x (v:=(iV t_14)) hF hS (ex_assign rfl) rfl rfl fun a hF=>q_x (v:=s18.v) hF hS (ex_assign rfl) rfl rfl fun a hF=>q_end (n_sq (q_seq (q_region (q_x (v:=nilS.v) hF hS (ex_assign rfl) rfl rfl fun a hF=>q_end (n_sq (q_seq (q_seq (q_region (q_x (v:=s18.v) hF hS (ex_move rfl) rfl rfl fun a hF=>q_x (v:=(iV (goLen e_16))) hF hS (ex_len Try.underlying28 rfl (h18.mono hm15.le).len) rfl rfl fun a hF=>q_x (v:=(iV 0)) hF hS (ex_move rfl) rfl rfl fun a hF=>q_end (n_sq (q_block ?_)))))))))))
     obtain ⟨l_33,hl8,hb6⟩:=bindS hb6
     refine q_loop (fun (s : (List Int) × Int) a w=>∃ (q20 : Piece),∃ (s20 : Sl),∃ l_19,∃ t_21,s = (l_19,t_21)∧Fr a 71 [(1,s2.v),(6,s13.v),(7,(iV t_14)),(9,s20.v),(38,s1.v),(39,(iV (goLen p_a))),(40,(iV t_14)),(45,s18.v),(46,(iV (goLen e_16))),(47,(iV t_21))]∧St [] w0 w m15 [q20,q13]∧OwnL m15 3 q20 s20 l_19) (fun (l_33 : (List Int)) e a w=>∃ (q34 : Piece),∃ (s34 : Sl),e = .exit 2∧Fr a 71 [(1,s2.v),(6,s13.v),(9,s34.v),(38,s1.v),(39,(iV (goLen p_a))),(40,(iV t_14))]∧St [] w0 w m15 [q13,q34]∧OwnL m15 3 q34 s34 l_33) hl8 ⟨[],nilS,_,_,rfl,hF.sub ⟨rfl,rfl,rfl,rfl,rfl,rfl,rfl,rfl,rfl,rfl,trivial⟩,hS.sel [1,0] (by decide),(OwnL.nil (α:=Int) m15 3)⟩ ?_ ?_
     ·clear hF hS
      rintro s a w st ⟨q20,s20,l_19,t_21,rfl,hF,hS,h20⟩ hb8
      unfold spec_JoinPatterns_l2 at hb8
      refine q_seq (q_region (q_x (v:=(.bool (decide (t_21 < (goLen e_16))))) hF hS (ex_ibin rfl rfl rfl) rfl rfl fun a hF=>q_end (n_sq (q_seq ?_))))
      rcases bcase (decide (t_21 < (goLen e_16))) with hc9 | hc9
      ·have hb8:=cond_f hc9 hb8
       refine q_cond_f hF rfl hc9 (q_exit (x_sq ?_))
       obtain rfl:=someI hb8
       exact ⟨nofun,.inl ⟨q20,s20,rfl,hF.sub ⟨rfl,rfl,rfl,rfl,rfl,rfl,trivial⟩,hS.sel [1,0] (by decide),h20⟩⟩
      ·have hb8:=cond_t hc9 hb8
       refine q_cond_t hF rfl hc9 (q_skipc (n_sq (q_seq (q_block (q_seq (q_region (q_x (v:=(iV t_21)) hF hS (ex_move rfl) rfl rfl fun a hF=>?_)))))))
       obtain ⟨e_22,he_22,hb8⟩:=bindS hb8
       obtain ⟨vs23,at23,d23⟩:=h18.at he_22 1 rfl
       obtain rfl : vs23 = [(iV e_22)]:=d23
       refine q_x (v:=(elP s18 (t_21.toNat * 1))) hF hS (ex_indexAddr Try.underlying28 sz3 rfl rfl ((h18.mono hm15.le).idx he_22)) rfl rfl fun a hF=>q_x (v:=(iV e_22)) hF hS (ex_loadE1 0 Try.underlying3 rfl rfl (((at23.mono hm15.le)).at) rfl rfl) rfl rfl fun a hF=>q_x (v:=(iV t_21)) hF hS (ex_assign rfl) rfl rfl fun a hF=>q_x (v:=(iV e_22)) hF hS (ex_assign rfl) rfl rfl fun a hF=>q_end (n_sq (q_region (q_x (v:=s20.v) hF hS (ex_move rfl) rfl rfl fun a hF=>q_x (v:=(iV e_22)) hF hS (ex_move rfl) rfl rfl fun a hF=>q_x (v:=s2.v) hF hS (ex_move rfl) rfl rfl fun a hF=>q_x (v:=(iV t_14)) hF hS (ex_move rfl) rfl rfl fun a hF=>?_)))
       obtain ⟨e_24,he_24,hb8⟩:=bindS hb8
       obtain ⟨vs25,at25,d25⟩:=h2.at he_24 1 rfl
       obtain ⟨s26,rfl,h26⟩ : ∃ s26 : Sl,vs25 = [s26.v]∧Rd m s26 e_24:=d25
       refine q_x (v:=(elP s2 (t_14.toNat * 1))) hF hS (ex_indexAddr Try.underlying23 sz28 rfl rfl ((h2.mono hm15.le).idx he_24)) rfl rfl fun a hF=>q_x (v:=s26.v) hF hS (ex_loadE1 0 Try.underlying28 rfl rfl (((at25.mono hm15.le)).at) rfl rfl) rfl rfl fun a hF=>q_x (v:=(iV t_21)) hF hS (ex_move rfl) rfl rfl fun a hF=>?_
       obtain ⟨e_27,he_27,hb8⟩:=bindS hb8
       obtain ⟨vs28,at28,d28⟩:=h26.at he_27 1 rfl
       obtain rfl : vs28 = [(iV e_27)]:=d28
       refine q_x (v:=(elP s26 (t_21.toNat * 1))) hF hS (ex_indexAddr Try.underlying28 sz3 rfl rfl ((h26.mono hm15.le).idx he_27)) rfl rfl fun a hF=>q_x (v:=(iV e_27)) hF hS (ex_loadE1 0 Try.underlying3 rfl rfl (((at28.mono hm15.le)).at) rfl rfl) rfl rfl fun a hF=>?_
       obtain ⟨t_29,ht_29,hb8⟩:=bindS hb8
       refine q_call (vs:=[(iV e_22),(iV e_27)]) hF hS Try.func91 (by kernel_rfl) rfl rfl rfl (c_spec_l1Most e_22 e_27 t_29 ht_29 _ m15 hS.vis) ?_
       rintro a w _ rfl hF hS
       refine q_do rfl fun _ hK=>wp_buildSlice' (l:=([t_29] : List Int)) (cells:=[(iV t_29)]) hF hS Try.underlying28 inf3 rfl rfl (by kernel_rfl) rfl rfl rfl ⟨rfl,rfl⟩ rfl rfl fun a w q30 s30 hF hS h30 _=>hK _ _ ?_
       have hS : St _ _ _ _ [q20,q30,q13]:=hS.sel [1,0,2] (by decide)
       obtain ⟨l_31,hl_31,hb8⟩:=bindS hb8
       refine q_do rfl fun _ hK=>wp_append hF hS h20 Try.underlying28 inf3 rfl rfl rfl rfl (h30.vw hS (j:=1) rfl) rfl (by decide) hl_31 rfl fun a w q32 s32 hF hS h32=>hK _ _ (q_x (v:=s32.v) hF hS (ex_assign rfl) rfl rfl fun a hF=>q_end (n_ib (n_sq (q_region (q_x (v:=(iV (w64 (t_21 + 1)))) hF hS (ex_ibin rfl rfl rfl) rfl rfl fun a hF=>q_x (v:=(iV (w64 (t_21 + 1)))) hF hS (ex_move rfl) rfl rfl fun a hF=>q_end ?_)))))
       obtain rfl:=someI hb8
       exact ⟨rfl,q32,s32,_,_,rfl,hF.sub ⟨rfl,rfl,rfl,rfl,rfl,rfl,rfl,rfl,rfl,rfl,trivial⟩,hS.mask [true,false,true],h32⟩
     ·rintro e a w ⟨q34,s34,rfl,hF,hS,h34⟩
      refine x_ib (n_sq ?_)
      refine q_region (q_x (v:=s13.v) hF hS (ex_move rfl) rfl rfl fun a hF=>q_x (v:=s34.v) hF hS (ex_move rfl) rfl rfl fun a hF=>?_)
      have hS : St _ _ _ _ [q34,q13]:=hS.sel [1,0] (by decide)
      obtain ⟨m36,hm36,hS,hz36⟩:=hS.freeze
      have h36:=h34.froz hm36.le hz36
      refine q_do rfl fun _ hK=>wp_buildSlice' (l:=([l_33] : List (List Int))) (cells:=[s34.v]) hF hS Try.underlying23 inf28 rfl rfl (by kernel_rfl) rfl rfl rfl ⟨⟨s34,rfl,h36⟩,rfl⟩ rfl rfl fun a w q35 s35 hF hS h35 _=>hK _ _ ?_
      have hS : St _ _ _ _ [q13,q35]:=hS.sel [1,0] (by decide)
      obtain ⟨l_37,hl_37,hb6⟩:=bindS hb6
      refine q_do rfl fun _ hK=>wp_append hF hS (h13.mono hm36.le) Try.underlying23 inf28 rfl rfl rfl rfl (h35.vw hS (j:=1) rfl) rfl (by decide) hl_37 rfl fun a w q38 s38 hF hS h38=>hK _ _ (q_x (v:=s38.v) hF hS (ex_assign rfl) rfl rfl fun a hF=>q_end (n_ib (n_sq (q_region (q_x (v:=(iV (w64 (t_14 + 1)))) hF hS (ex_ibin rfl rfl rfl) rfl rfl fun a hF=>q_x (v:=(iV (w64 (t_14 + 1)))) hF hS (ex_move rfl) rfl rfl fun a hF=>q_end ?_)))))
      obtain rfl:=someI hb6
      exact ⟨rfl,m36,q38,s38,_,_,rfl,hF.sub ⟨rfl,rfl,rfl,rfl,rfl,trivial⟩,hS.mask [true,false],(hm15.trans hm36),h38⟩
   ·rintro e a w ⟨m41,q40,s40,rfl,hF,hS,hm41,h40⟩
    refine x_ib (n_sq ?_)
    refine q_seq (q_region (q_x (v:=s40.v) hF hS (ex_move rfl) rfl rfl fun a hF=>q_x (v:=s40.v) hF hS (ex_assign rfl) rfl rfl fun a hF=>q_x (v:=(.bool true)) hF hS (ex_assign rfl) rfl rfl fun a hF=>q_end (n_sq (q_ret ?_))))
    obtain rfl:=someI hr
    exact ret_of hF hS rfl (.tmp rfl (.tmp rfl .nil)) ⟨m41,q40,s40,rfl,hm41,hS.sel [0] (by decide),h40⟩
  ·have hr:=cond_t hc5 hr
   refine q_cond_t hF rfl hc5 (q_seq (q_region (q_x (v:=nilS.v) hF hS (ex_assign rfl) rfl rfl fun a hF=>q_x (v:=(.bool false)) hF hS (ex_assign rfl) rfl rfl fun a hF=>q_end (n_sq (q_ret (r_sq ?_))))))
   obtain rfl:=someI hr
   exact ret_of hF hS rfl (.tmp rfl (.tmp rfl .nil)) ⟨m,[],nilS,rfl,(MLe.refl _ _),hS.sel [0] (by decide),(OwnL.nil (α:=List Int) m 28)⟩

theorem c_spec_DrawUnprotectedCells (p_code : List (K .u8)) (r : (List (List Int)) × (List (List Int)) × (List (List Int)) × Int × Int) (hr : spec_DrawUnprotectedCells p_code = some r) (w0 : World) (m : Mem) (hv : Vis m w0) (s1 : Sl) (h1 : Rd m s1 p_code) :
  Ret Try.prog 113 [s1.v] w0 (fun v w=>∃ (m' : Mem) (q0' : Piece) (s0' : Sl) (s1' : Sl) (s2' : Sl),v = (.tuple #[s0'.v,s1'.v,s2'.v,(iV r.2.2.2.1),(iV r.2.2.2.2)])∧MLe [] w0.heap.size m m'∧St [] w0 w m' [q0']∧OwnD m' 28 3 q0' s0' r.1∧Rd m' s1' r.2.1∧Rd m' s2' r.2.2.1):=by
 unfold spec_DrawUnprotectedCells at hr
 refine ret_start Try.func113 rfl 46 rfl rfl m hv fun a hF hS=>q_seq (q_region (q_x (v:=nilS.v) hF hS (ex_assign rfl) rfl rfl fun a hF=>q_x (v:=nilS.v) hF hS (ex_assign rfl) rfl rfl fun a hF=>q_x (v:=nilS.v) hF hS (ex_assign rfl) rfl rfl fun a hF=>q_x (v:=(iV 0)) hF hS (ex_assign rfl) rfl rfl fun a hF=>q_x (v:=(iV 0)) hF hS (ex_assign rfl) rfl rfl fun a hF=>q_end (n_sq (q_seq (q_region (q_x (v:=s1.v) hF hS (ex_move rfl) rfl rfl fun a hF=>q_x (v:=(.agg #[s1.v,(iV 0),(.int .u64 0)])) hF hS (ex_build (cells:=[s1.v,(iV 0),(.int .u64 0)]) rfl (by kernel_rfl)) rfl rfl fun a hF=>q_box (cs:=[s1.v,(iV 0),(.int .u64 0)]) hF hS rfl rfl rfl fun a w b2 hF hS=>q_x (v:=(.pointer (some ⟨b2,0,none⟩))) hF hS (ex_assign rfl) rfl rfl fun a hF=>q_end (n_sq (q_seq (q_region (q_x (v:=(.pointer (some ⟨b2,0,none⟩))) hF hS (ex_move rfl) rfl rfl fun a hF=>?_))))))))))
 have hS3 : St _ _ _ _ ([[⟨b2,[s1.v,(iV 0),(.int .u64 0)],90⟩]]++[]):=hS
 have hE3:=hS3.enter
 obtain ⟨t_4,ht_4,hr⟩:=bindS hr
 refine q_do rfl fun _ hK=>wp_callX (vs:=[(.pointer (some ⟨b2,0,none⟩))]) hF Try.func160 (by kernel_rfl) rfl rfl rfl (c_spec_l1Cur_protection (spec_l1Cur.mk p_code 0 (⟨0⟩ : K .u64)) t_4 ht_4 _ m b2 s1 h1 _ hE3) fun a w _ hR hF=>hK _ _ ?_
 obtain ⟨q5,q6,s5,s6,rfl,hR3,h5,h6,hk7⟩:=hR
 have hS : St _ _ _ _ [[⟨b2,[s1.v,(iV t_4.2.2.2.2.at_),(.int .u64 t_4.2.2.2.2.seed.v)],90⟩],q5,q6]:=hS3.leaveF hR3
 have h7 : Rd m s1 t_4.2.2.2.2.code:=by rw [hk7]; exact h1
 refine q_x (v:=(.tuple #[s5.v,s6.v,(iV t_4.2.2.1),(iV t_4.2.2.2.1)])) hF hS (ex_move rfl) rfl rfl fun a hF=>q_x (v:=s5.v) hF hS (ex_extract rfl rfl) rfl rfl fun a hF=>q_x (v:=s6.v) hF hS (ex_extract rfl rfl) rfl rfl fun a hF=>q_x (v:=(iV t_4.2.2.1)) hF hS (ex_extract rfl rfl) rfl rfl fun a hF=>q_x (v:=(iV t_4.2.2.2.1)) hF hS (ex_extract rfl rfl) rfl rfl fun a hF=>q_x (v:=s5.v) hF hS (ex_assign rfl) rfl rfl fun a hF=>q_x (v:=s6.v) hF hS (ex_assign rfl) rfl rfl fun a hF=>q_x (v:=(iV t_4.2.2.1)) hF hS (ex_assign rfl) rfl rfl fun a hF=>q_x (v:=(iV t_4.2.2.2.1)) hF hS (ex_assign rfl) rfl rfl fun a hF=>q_end (n_sq (q_seq (q_region (q_x (v:=(.pointer (some ⟨b2,0,none⟩))) hF hS (ex_move rfl) rfl rfl fun a hF=>q_x (v:=s5.v) hF hS (ex_move rfl) rfl rfl fun a hF=>?_))))
 have hS8 : St _ _ _ _ ([[⟨b2,[s1.v,(iV t_4.2.2.2.2.at_),(.int .u64 t_4.2.2.2.2.seed.v)],90⟩]]++[q5,q6]):=hS
 obtain ⟨m8,hl8,hE8,hz8⟩:=hS8.lendX
 obtain ⟨t_9,ht_9,hr⟩:=bindS hr
 refine q_do rfl fun _ hK=>wp_callX (vs:=[(.pointer (some ⟨b2,0,none⟩)),s5.v]) hF Try.func86 (by kernel_rfl) rfl rfl rfl (c_spec_l1Cur_pattern t_4.2.2.2.2 t_4.1 t_9 ht_9 _ m8 b2 s1 (h7.mono hl8) s5 (h5.froz hl8 (hz8 0 _ rfl)) _ hE8) fun a w _ hR hF=>hK _ _ ?_
 obtain ⟨q10,s10,rfl,hR8,h10,hk11⟩:=hR
 have hS : St _ _ _ _ [[⟨b2,[s1.v,(iV t_9.2.at_),(.int .u64 t_9.2.seed.v)],90⟩],q10,q5,q6]:=hS8.leaveF hR8
 have h10:=h10.any m
 have h11 : Rd m s1 t_9.2.code:=by rw [hk11]; exact h7
 refine q_x (v:=s10.v) hF hS (ex_assign rfl) rfl rfl fun a hF=>q_end (n_sq (q_seq (q_seq (q_region (q_x (v:=s10.v) hF hS (ex_move rfl) rfl rfl fun a hF=>q_x (v:=s6.v) hF hS (ex_move rfl) rfl rfl fun a hF=>?_)))))
 have hS : St _ _ _ _ [q10,[⟨b2,[s1.v,(iV t_9.2.at_),(.int .u64 t_9.2.seed.v)],90⟩],q5,q6]:=hS.sel [1,0,2,3] (by decide)
 obtain ⟨m12,hm12,hS,hz12⟩:=hS.freeze
 have h12:=h10.froz hm12.le hz12
 have hS : St _ _ _ _ [q6,[⟨b2,[s1.v,(iV t_9.2.at_),(.int .u64 t_9.2.seed.v)],90⟩],q5]:=hS.sel [2,0,1] (by decide)
 obtain ⟨m13,hm13,hS,hz13⟩:=hS.freeze
 have h13:=(h6.mono hm12.le).froz hm13.le hz13
 obtain ⟨t_14,ht_14,hr⟩:=bindS hr
 refine q_call (vs:=[s10.v,s6.v]) hF hS Try.func19 (by kernel_rfl) rfl rfl rfl (c_spec_JoinPatterns t_9.1 t_4.2.1 t_14 ht_14 _ m13 hS.vis s10 (h12.mono hm13.le) s6 h13) ?_
 have hT:=hS
 rintro a w _ ⟨m15,q16,s16,rfl,hm15,hR15,h16⟩ hF hS2
 have hS : St _ _ _ _ [q16,[⟨b2,[s1.v,(iV t_9.2.at_),(.int .u64 t_9.2.seed.v)],90⟩],q5]:=hS.join hR15 hm15
 have hm15:=MLe.weakX (O0:=[]) hT hm15
 refine q_x (v:=(.tuple #[s16.v,(.bool t_14.2)])) hF hS (ex_move rfl) rfl rfl fun a hF=>q_x (v:=s16.v) hF hS (ex_extract rfl rfl) rfl rfl fun a hF=>q_x (v:=(.bool t_14.2)) hF hS (ex_extract rfl rfl) rfl rfl fun a hF=>q_x (v:=s16.v) hF hS (ex_assign rfl) rfl rfl fun a hF=>q_x (v:=(.bool t_14.2)) hF hS (ex_assign rfl) rfl rfl fun a hF=>q_end (n_sq (q_seq ?_))
 obtain ⟨t_20,hj1,hr⟩:=bindS hr
 refine q_join (fun a w=>Fr a 46 [(8,s5.v),(9,s6.v),(10,(iV t_4.2.2.1)),(11,(iV t_4.2.2.2.1)),(12,s10.v),(13,s16.v),(39,(.bool t_20))]∧St [] w0 w m15 [q5,q16]) ?_ ?_
 ·refine q_region (q_x (v:=(.bool t_14.2)) hF hS (ex_move rfl) rfl rfl fun a hF=>q_x (v:=(.bool t_14.2)) hF hS (ex_move rfl) rfl rfl fun a hF=>?_)
  rcases bcase (t_14.2) with hc2 | hc2
  ·have hj1:=cond_f hc2 hj1
   refine q_skip hF (wanted_f hF rfl rfl rfl hc2 rfl) rfl fun a hF=>q_skip hF (wanted_f hF rfl rfl rfl hc2 rfl) rfl fun a hF=>q_skip hF (wanted_f hF rfl rfl rfl hc2 rfl) rfl fun a hF=>q_x (v:=(.bool false)) hF hS (ex_pick_f rfl rfl hc2) rfl rfl fun a hF=>q_end (n_jn ?_)
   obtain rfl:=someI hj1
   exact ⟨hF.sub ⟨rfl,rfl,rfl,rfl,rfl,rfl,rfl,trivial⟩,hS.sel [2,0] (by decide)⟩
  ·have hj1:=cond_t hc2 hj1
   refine q_xg (v:=(.pointer (some ⟨b2,0,none⟩))) hF hS (ex_move rfl) (wanted_t hF rfl rfl rfl hc2) rfl fun a hF=>?_
   have hS : St _ _ _ _ [[⟨b2,[s1.v,(iV t_9.2.at_),(.int .u64 t_9.2.seed.v)],90⟩],q16,q5]:=hS.sel [1,0,2] (by decide)
   have hS17 : St _ _ _ _ ([[⟨b2,[s1.v,(iV t_9.2.at_),(.int .u64 t_9.2.seed.v)],90⟩]]++[q16,q5]):=hS
   have hE17:=hS17.enter
   obtain ⟨t_18,ht_18,hj1⟩:=bindS hj1
   refine q_dog (wanted_t hF rfl rfl rfl hc2) fun _ hK=>wp_callX (vs:=[(.pointer (some ⟨b2,0,none⟩)),(iV 8)]) hF Try.func85 (by kernel_rfl) rfl rfl rfl (c_spec_l1Cur_one t_9.2 8 t_18 ht_18 _ m15 b2 s1 (((h11.mono hm12.le).mono hm13.le).mono hm15.le) _ hE17) fun a w _ hR hF=>hK _ _ ?_
   obtain ⟨rfl,hR17,hk19⟩:=hR
   have hS : St _ _ _ _ [[⟨b2,[s1.v,(iV t_18.2.at_),(.int .u64 t_18.2.seed.v)],90⟩],q16,q5]:=hS17.leaveF hR17
   have h19 : Rd m15 s1 t_18.2.code:=by rw [hk19]; exact (((h11.mono hm12.le).mono hm13.le).mono hm15.le)
   refine q_xg (v:=(.bool (!t_18.1))) hF hS (ex_not rfl) (wanted_t hF rfl rfl rfl hc2) rfl fun a hF=>q_x (v:=(.bool (!t_18.1))) hF hS (ex_pick_t rfl rfl hc2) rfl rfl fun a hF=>q_end (n_jn ?_)
   obtain rfl:=someI hj1
   exact ⟨hF.sub ⟨rfl,rfl,rfl,rfl,rfl,rfl,rfl,trivial⟩,hS.sel [2,1] (by decide)⟩
 ·rintro a w ⟨hF,hS⟩
  refine n_sq ?_
  obtain ⟨p_21,hj3,hr⟩:=bindS hr
  refine q_join (fun a w=>∃ (m23 : Mem),∃ (s22 : Sl),Fr a 46 [(8,s5.v),(9,s6.v),(10,(iV t_4.2.2.1)),(11,(iV t_4.2.2.2.1)),(12,s22.v)]∧St [] w0 w m23 [q5]∧MLe [] w0.heap.size m15 m23∧Rd m23 s22 p_21) ?_ ?_
  ·rcases bcase (t_20) with hc4 | hc4
   ·have hj3:=cond_f hc4 hj3
    refine q_cond_f hF rfl hc4 (q_skipc (n_jn ?_))
    obtain rfl:=someI hj3
    exact ⟨m15,s10,hF.sub ⟨rfl,rfl,rfl,rfl,rfl,trivial⟩,hS.mask [true,false],(MLe.refl _ _),((h12.mono hm13.le).mono hm15.le)⟩
   ·have hj3:=cond_t hc4 hj3
    refine q_cond_t hF rfl hc4 (q_region (q_x (v:=s16.v) hF hS (ex_move rfl) rfl rfl fun a hF=>q_x (v:=s16.v) hF hS (ex_assign rfl) rfl rfl fun a hF=>q_end (n_jn ?_)))
    obtain rfl:=someI hj3
    have hS : St _ _ _ _ [q16,q5]:=hS.sel [1,0] (by decide)
    obtain ⟨mf1,hmf1,hS,hzf1⟩:=hS.freeze
    have hf1:=h16.froz hmf1.le hzf1
    exact ⟨mf1,s16,hF.sub ⟨rfl,rfl,rfl,rfl,rfl,trivial⟩,hS,hmf1,hf1⟩
  ·rintro a w ⟨m23,s22,hF,hS,hm23,h22⟩
   refine n_sq ?_
   refine q_seq (q_region (q_x (v:=s5.v) hF hS (ex_move rfl) rfl rfl fun a hF=>q_x (v:=s22.v) hF hS (ex_move rfl) rfl rfl fun a hF=>q_x (v:=s6.v) hF hS (ex_move rfl) rfl rfl fun a hF=>q_x (v:=(iV t_4.2.2.1)) hF hS (ex_move rfl) rfl rfl fun a hF=>q_x (v:=(iV t_4.2.2.2.1)) hF hS (ex_move rfl) rfl rfl fun a hF=>q_x (v:=s5.v) hF hS (ex_assign rfl) rfl rfl fun a hF=>q_x (v:=s22.v) hF hS (ex_assign rfl) rfl rfl fun a hF=>q_x (v:=s6.v) hF hS (ex_assign rfl) rfl rfl fun a hF=>q_x (v:=(iV t_4.2.2.1)) hF hS (ex_assign rfl) rfl rfl fun a hF=>q_x (v:=(iV t_4.2.2.2.1)) hF hS (ex_assign rfl) rfl rfl fun a hF=>q_end (n_sq (q_ret ?_))))
   obtain rfl:=someI hr
   exact ret_of hF hS rfl (.tmp rfl (.tmp rfl (.tmp rfl (.tmp rfl (.tmp rfl .nil))))) ⟨m23,q5,s5,s22,s6,rfl,(((hm12.trans hm13).trans hm15).trans hm23),hS.sel [0] (by decide),((((h5.mono hm12.le).mono hm13.le).mono hm15.le).mono hm23.le),h22,((h13.mono hm15.le).mono hm23.le)⟩

theorem c_spec_DrawNeedsPartners (p_code : List (K .u8)) (r : (List (List Int)) × (List (List Int)) × (List (List Int))) (hr : spec_DrawNeedsPartners p_code = some r) (w0 : World) (m : Mem) (hv : Vis m w0) (s1 : Sl) (h1 : Rd m s1 p_code) :
  Ret Try.prog 37 [s1.v] w0 (fun v w=>∃ (m' : Mem) (q0' : Piece) (s0' : Sl) (s1' : Sl) (s2' : Sl),v = (.tuple #[s0'.v,s1'.v,s2'.v])∧MLe [] w0.heap.size m m'∧St [] w0 w m' [q0']∧OwnD m' 28 3 q0' s0' r.1∧Rd m' s1' r.2.1∧Rd m' s2' r.2.2):=by
 unfold spec_DrawNeedsPartners at hr
 refine ret_start Try.func37 rfl 21 rfl rfl m hv fun a hF hS=>q_seq (q_region (q_x (v:=nilS.v) hF hS (ex_assign rfl) rfl rfl fun a hF=>q_x (v:=nilS.v) hF hS (ex_assign rfl) rfl rfl fun a hF=>q_x (v:=nilS.v) hF hS (ex_assign rfl) rfl rfl fun a hF=>q_end (n_sq (q_seq (q_region (q_x (v:=s1.v) hF hS (ex_move rfl) rfl rfl fun a hF=>?_))))))
 obtain ⟨t_2,ht_2,hr⟩:=bindS hr
 refine q_call (vs:=[s1.v]) hF hS Try.func113 (by kernel_rfl) rfl rfl rfl (c_spec_DrawUnprotectedCells p_code t_2 ht_2 _ m hS.vis s1 h1) ?_
 have hT:=hS
 rintro a w _ ⟨m3,q4,s4,s5,s6,rfl,hm3,hR3,h4,h5,h6⟩ hF hS2
 have hS : St _ _ _ _ [q4]:=hS.join hR3 hm3
 have hm3:=MLe.weakX (O0:=[]) hT hm3
 refine q_x (v:=(.tuple #[s4.v,s5.v,s6.v,(iV t_2.2.2.2.1),(iV t_2.2.2.2.2)])) hF hS (ex_move rfl) rfl rfl fun a hF=>q_x (v:=s4.v) hF hS (ex_extract rfl rfl) rfl rfl fun a hF=>q_x (v:=s5.v) hF hS (ex_extract rfl rfl) rfl rfl fun a hF=>q_x (v:=s6.v) hF hS (ex_extract rfl rfl) rfl rfl fun a hF=>q_x (v:=(iV t_2.2.2.2.1)) hF hS (ex_extract rfl rfl) rfl rfl fun a hF=>q_x (v:=(iV t_2.2.2.2.2)) hF hS (ex_extract rfl rfl) rfl rfl fun a hF=>q_x (v:=s4.v) hF hS (ex_assign rfl) rfl rfl fun a hF=>q_x (v:=s5.v) hF hS (ex_assign rfl) rfl rfl fun a hF=>q_x (v:=s6.v) hF hS (ex_assign rfl) rfl rfl fun a hF=>q_x (v:=(iV t_2.2.2.2.1)) hF hS (ex_assign rfl) rfl rfl fun a hF=>q_x (v:=(iV t_2.2.2.2.2)) hF hS (ex_assign rfl) rfl rfl fun a hF=>q_end (n_sq (q_seq (q_region (q_x (v:=s4.v) hF hS (ex_move rfl) rfl rfl fun a hF=>q_x (v:=s5.v) hF hS (ex_move rfl) rfl rfl fun a hF=>q_x (v:=s6.v) hF hS (ex_move rfl) rfl rfl fun a hF=>q_x (v:=s4.v) hF hS (ex_assign rfl) rfl rfl fun a hF=>q_x (v:=s5.v) hF hS (ex_assign rfl) rfl rfl fun a hF=>q_x (v:=s6.v) hF hS (ex_assign rfl) rfl rfl fun a hF=>q_end (n_sq (q_ret ?_))))))
 obtain rfl:=someI hr
 exact ret_of hF hS rfl (.tmp rfl (.tmp rfl (.tmp rfl .nil))) ⟨m3,q4,s4,s5,s6,rfl,hm3,hS.sel [0] (by decide),h4,h5,h6⟩

theorem c_impl_positions (p_p : List (List Int)) (r : (List (List Int))) (hr : impl_positions p_p = some r) (w0 : World) (m : Mem) (hv : Vis m w0) (s1 : Sl) (h1 : Rd m s1 p_p) :
  Ret Try.prog 100 [s1.v] w0 (fun v w=>∃ (m' : Mem) (q0' : Piece) (s0' : Sl),v = s0'.v∧MLe [] w0.heap.size m m'∧St [] w0 w m' [q0']∧OwnL m' 28 q0' s0' r):=by
 unfold impl_positions at hr
 refine ret_start Try.func100 rfl 33 rfl rfl m hv fun a hF hS=>q_seq (q_region (q_x (v:=nilS.v) hF hS (ex_assign rfl) rfl rfl fun a hF=>q_end (n_sq (q_seq (q_region (q_x (v:=nilS.v) hF hS (ex_assign rfl) rfl rfl fun a hF=>q_end (n_sq (q_seq (q_seq (q_region (q_x (v:=s1.v) hF hS (ex_move rfl) rfl rfl fun a hF=>q_x (v:=(iV (goLen p_p))) hF hS (ex_len Try.underlying23 rfl h1.len) rfl rfl fun a hF=>q_x (v:=(iV 0)) hF hS (ex_move rfl) rfl rfl fun a hF=>q_end (n_sq (q_block ?_)))))))))))))
 obtain ⟨out_26,hl1,hr⟩:=bindS hr
 refine q_loop (fun (s : (List (List Int)) × Int) a w=>∃ (m5 : Mem),∃ (q3 : Piece),∃ (s3 : Sl),∃ out_2,∃ t_4,s = (out_2,t_4)∧Fr a 33 [(3,s3.v),(8,s1.v),(9,(iV (goLen p_p))),(10,(iV t_4))]∧St [] w0 w m5 [q3]∧MLe [] w0.heap.size m m5∧OwnL m5 28 q3 s3 out_2) (fun (out_26 : (List (List Int))) e a w=>∃ (m28 : Mem),∃ (q27 : Piece),∃ (s27 : Sl),e = .exit 0∧Fr a 33 [(3,s27.v)]∧St [] w0 w m28 [q27]∧MLe [] w0.heap.size m m28∧OwnL m28 28 q27 s27 out_26) hl1 ⟨m,[],nilS,_,_,rfl,hF.sub ⟨rfl,rfl,rfl,rfl,trivial⟩,hS.sel [0] (by decide),(MLe.refl _ _),(OwnL.nil (α:=List Int) m 28)⟩ ?_ ?_
 ·clear hF hS
  rintro s a w st ⟨m5,q3,s3,out_2,t_4,rfl,hF,hS,hm5,h3⟩ hb1
  unfold impl_positions_l1 at hb1
  refine q_seq (q_region (q_x (v:=(.bool (decide (t_4 < (goLen p_p))))) hF hS (ex_ibin rfl rfl rfl) rfl rfl fun a hF=>q_end (n_sq (q_seq ?_))))
  rcases bcase (decide (t_4 < (goLen p_p))) with hc2 | hc2
  ·have hb1:=cond_f hc2 hb1
   refine q_cond_f hF rfl hc2 (q_exit (x_sq ?_))
   obtain rfl:=someI hb1
   exact ⟨nofun,.inl ⟨m5,q3,s3,rfl,hF.sub ⟨rfl,trivial⟩,hS,hm5,h3⟩⟩
  ·have hb1:=cond_t hc2 hb1
   refine q_cond_t hF rfl hc2 (q_skipc (n_sq (q_seq (q_block (q_seq (q_region (q_x (v:=(iV t_4)) hF hS (ex_move rfl) rfl rfl fun a hF=>?_)))))))
   obtain ⟨e_6,he_6,hb1⟩:=bindS hb1
   obtain ⟨vs7,at7,d7⟩:=h1.at he_6 1 rfl
   obtain ⟨s8,rfl,h8⟩ : ∃ s8 : Sl,vs7 = [s8.v]∧Rd m s8 e_6:=d7
   refine q_x (v:=(elP s1 (t_4.toNat * 1))) hF hS (ex_indexAddr Try.underlying23 sz28 rfl rfl ((h1.mono hm5.le).idx he_6)) rfl rfl fun a hF=>q_x (v:=s8.v) hF hS (ex_loadE1 0 Try.underlying28 rfl rfl (((at7.mono hm5.le)).at) rfl rfl) rfl rfl fun a hF=>q_x (v:=(iV t_4)) hF hS (ex_assign rfl) rfl rfl fun a hF=>q_x (v:=s8.v) hF hS (ex_assign rfl) rfl rfl fun a hF=>q_end (n_sq (q_seq (q_region (q_x (v:=s8.v) hF hS (ex_move rfl) rfl rfl fun a hF=>q_x (v:=(iV (goLen e_6))) hF hS (ex_len Try.underlying28 rfl (h8.mono hm5.le).len) rfl rfl fun a hF=>q_x (v:=(iV 0)) hF hS (ex_move rfl) rfl rfl fun a hF=>q_end (n_sq (q_block ?_))))))
   obtain ⟨out_23,hl3,hb1⟩:=bindS hb1
   refine q_loop (fun (s : (List (List Int)) × Int) a w=>∃ (m12 : Mem),∃ (q10 : Piece),∃ (s10 : Sl),∃ out_9,∃ t_11,s = (out_9,t_11)∧Fr a 33 [(3,s10.v),(4,(iV t_4)),(8,s1.v),(9,(iV (goLen p_p))),(10,(iV t_4)),(15,s8.v),(16,(iV (goLen e_6))),(17,(iV t_11))]∧St [] w0 w m12 [q10]∧MLe [] w0.heap.size m5 m12∧OwnL m12 28 q10 s10 out_9) (fun (out_23 : (List (List Int))) e a w=>∃ (m25 : Mem),∃ (q24 : Piece),∃ (s24 : Sl),e = .exit 2∧Fr a 33 [(3,s24.v),(8,s1.v),(9,(iV (goLen p_p))),(10,(iV t_4))]∧St [] w0 w m25 [q24]∧MLe [] w0.heap.size m5 m25∧OwnL m25 28 q24 s24 out_23) hl3 ⟨m5,q3,s3,_,_,rfl,hF.sub ⟨rfl,rfl,rfl,rfl,rfl,rfl,rfl,rfl,trivial⟩,hS,(MLe.refl _ _),h3⟩ ?_ ?_
   ·clear hF hS
    rintro s a w st ⟨m12,q10,s10,out_9,t_11,rfl,hF,hS,hm12,h10⟩ hb3
    unfold impl_positions_l2 at hb3
    refine q_seq (q_region (q_x (v:=(.bool (decide (t_11 < (goLen e_6))))) hF hS (ex_ibin rfl rfl rfl) rfl rfl fun a hF=>q_end (n_sq (q_seq ?_))))
    rcases bcase (decide (t_11 < (goLen e_6))) with hc4 | hc4
    ·have hb3:=cond_f hc4 hb3
     refine q_cond_f hF rfl hc4 (q_exit (x_sq ?_))
     obtain rfl:=someI hb3
     exact ⟨nofun,.inl ⟨m12,q10,s10,rfl,hF.sub ⟨rfl,rfl,rfl,rfl,trivial⟩,hS,hm12,h10⟩⟩
    ·have hb3:=cond_t hc4 hb3
     refine q_cond_t hF rfl hc4 (q_skipc (n_sq (q_seq (q_block (q_seq (q_region (q_x (v:=(iV t_11)) hF hS (ex_move rfl) rfl rfl fun a hF=>?_)))))))
     obtain ⟨e_13,he_13,hb3⟩:=bindS hb3
     obtain ⟨vs14,at14,d14⟩:=h8.at he_13 1 rfl
     obtain rfl : vs14 = [(iV e_13)]:=d14
     refine q_x (v:=(elP s8 (t_11.toNat * 1))) hF hS (ex_indexAddr Try.underlying28 sz3 rfl rfl (((h8.mono hm5.le).mono hm12.le).idx he_13)) rfl rfl fun a hF=>q_x (v:=(iV e_13)) hF hS (ex_loadE1 0 Try.underlying3 rfl rfl ((((at14.mono hm5.le).mono hm12.le)).at) rfl rfl) rfl rfl fun a hF=>q_x (v:=(iV t_11)) hF hS (ex_assign rfl) rfl rfl fun a hF=>q_x (v:=(iV e_13)) hF hS (ex_assign rfl) rfl rfl fun a hF=>q_end (n_sq (q_seq (q_region (q_x (v:=(iV e_13)) hF hS (ex_move rfl) rfl rfl fun a hF=>q_x (v:=(.bool (e_13 == 1))) hF hS (ex_ibin rfl rfl rfl) rfl rfl fun a hF=>q_end (n_sq ?_)))))
     obtain ⟨out_20,hj5,hb3⟩:=bindS hb3
     refine q_join (fun a w=>∃ (m22 : Mem),∃ (q21 : Piece),∃ (s21 : Sl),Fr a 33 [(3,s21.v),(4,(iV t_4)),(8,s1.v),(9,(iV (goLen p_p))),(10,(iV t_4)),(15,s8.v),(16,(iV (goLen e_6))),(17,(iV t_11))]∧St [] w0 w m22 [q21]∧MLe [] w0.heap.size m12 m22∧OwnL m22 28 q21 s21 out_20) ?_ ?_
     ·rcases bcase (e_13 == 1) with hc6 | hc6
      ·have hj5:=cond_f hc6 hj5
       refine q_cond_f hF rfl hc6 (q_skipc (n_jn ?_))
       obtain rfl:=someI hj5
       exact ⟨m12,q10,s10,hF.sub ⟨rfl,rfl,rfl,rfl,rfl,rfl,rfl,rfl,trivial⟩,hS,(MLe.refl _ _),h10⟩
      ·have hj5:=cond_t hc6 hj5
       refine q_cond_t hF rfl hc6 (q_region (q_x (v:=s10.v) hF hS (ex_move rfl) rfl rfl fun a hF=>q_x (v:=(iV t_4)) hF hS (ex_move rfl) rfl rfl fun a hF=>q_x (v:=(iV t_11)) hF hS (ex_move rfl) rfl rfl fun a hF=>q_do rfl fun _ hK=>wp_buildSlice' (l:=([t_4,t_11] : List Int)) (cells:=[(iV t_4),(iV t_11)]) hF hS Try.underlying28 inf3 rfl rfl (by kernel_rfl) rfl rfl rfl ⟨rfl,rfl,rfl⟩ rfl rfl fun a w q15 s15 hF hS h15 _=>hK _ _ ?_))
       obtain ⟨m17,hm17,hS,hz17⟩:=hS.freeze
       have h17:=h15.froz hm17.le hz17
       refine q_do rfl fun _ hK=>wp_buildSlice' (l:=([([t_4,t_11] : List Int)] : List (List Int))) (cells:=[s15.v]) hF hS Try.underlying23 inf28 rfl rfl (by kernel_rfl) rfl rfl rfl ⟨⟨s15,rfl,h17⟩,rfl⟩ rfl rfl fun a w q16 s16 hF hS h16 _=>hK _ _ ?_
       have hS : St _ _ _ _ [q10,q16]:=hS.sel [1,0] (by decide)
       obtain ⟨l_18,hl_18,hj5⟩:=bindS hj5
       refine q_do rfl fun _ hK=>wp_append hF hS (h10.mono hm17.le) Try.underlying23 inf28 rfl rfl rfl rfl (h16.vw hS (j:=1) rfl) rfl (by decide) hl_18 rfl fun a w q19 s19 hF hS h19=>hK _ _ (q_x (v:=s19.v) hF hS (ex_assign rfl) rfl rfl fun a hF=>q_end (n_jn ?_))
       obtain rfl:=someI hj5
       exact ⟨m17,q19,s19,hF.sub ⟨rfl,rfl,rfl,rfl,rfl,rfl,rfl,rfl,trivial⟩,hS.mask [true,false],hm17,h19⟩
     ·rintro a w ⟨m22,q21,s21,hF,hS,hm22,h21⟩
      refine n_ib (n_sq ?_)
      refine q_region (q_x (v:=(iV (w64 (t_11 + 1)))) hF hS (ex_ibin rfl rfl rfl) rfl rfl fun a hF=>q_x (v:=(iV (w64 (t_11 + 1)))) hF hS (ex_move rfl) rfl rfl fun a hF=>q_end ?_)
      obtain rfl:=someI hb3
      exact ⟨rfl,m22,q21,s21,_,_,rfl,hF.sub ⟨rfl,rfl,rfl,rfl,rfl,rfl,rfl,rfl,trivial⟩,hS,(hm12.trans hm22),h21⟩
   ·rintro e a w ⟨m25,q24,s24,rfl,hF,hS,hm25,h24⟩
    refine x_ib (n_ib (n_sq ?_))
    refine q_region (q_x (v:=(iV (w64 (t_4 + 1)))) hF hS (ex_ibin rfl rfl rfl) rfl rfl fun a hF=>q_x (v:=(iV (w64 (t_4 + 1)))) hF hS (ex_move rfl) rfl rfl fun a hF=>q_end ?_)
    obtain rfl:=someI hb1
    exact ⟨rfl,m25,q24,s24,_,_,rfl,hF.sub ⟨rfl,rfl,rfl,rfl,trivial⟩,hS,(hm5.trans hm25),h24⟩
 ·rintro e a w ⟨m28,q27,s27,rfl,hF,hS,hm28,h27⟩
  refine x_ib (n_sq ?_)
  refine q_seq (q_region (q_x (v:=s27.v) hF hS (ex_move rfl) rfl rfl fun a hF=>q_x (v:=s27.v) hF hS (ex_assign rfl) rfl rfl fun a hF=>q_end (n_sq (q_ret ?_))))
  obtain rfl:=someI hr
  exact ret_of hF hS rfl (.tmp rfl .nil) ⟨m28,q27,s27,rfl,hm28,hS.sel [0] (by decide),h27⟩

theorem c_impl_covers (p_p : List (List Int)) (p_primary : List (List Int)) (r : Bool) (hr : impl_covers p_p p_primary = some r) (w0 : World) (m : Mem) (hv : Vis m w0) (s1 : Sl) (h1 : Rd m s1 p_p) (s2 : Sl) (h2 : Rd m s2 p_primary) :
  Ret Try.prog 114 [s1.v,s2.v] w0 (fun v _=>v = (.bool r)):=by
 unfold impl_covers at hr
 refine ret_start Try.func114 rfl 27 rfl rfl m hv fun a hF hS=>q_seq (q_region (q_x (v:=(.bool false)) hF hS (ex_assign rfl) rfl rfl fun a hF=>q_end (n_sq (q_seq (q_seq (q_region (q_x (v:=s2.v) hF hS (ex_move rfl) rfl rfl fun a hF=>?_)))))))
 obtain ⟨t_3,ht_3,hr⟩:=bindS hr
 refine q_call (vs:=[s2.v]) hF hS Try.func100 (by kernel_rfl) rfl rfl rfl (c_impl_positions p_primary t_3 ht_3 _ m hS.vis s2 h2) ?_
 have hT:=hS
 rintro a w _ ⟨m4,q5,s5,rfl,hm4,hR4,h5⟩ hF hS2
 have hS : St _ _ _ _ [q5]:=hS.join hR4 hm4
 have hm4:=MLe.weakX (O0:=[]) hT hm4
 refine q_x (v:=(iV (goLen t_3))) hF hS (ex_len Try.underlying23 rfl h5.len) rfl rfl fun a hF=>q_x (v:=(iV 0)) hF hS (ex_move rfl) rfl rfl fun a hF=>q_end (n_sq (q_block ?_))
 obtain ⟨o1,hl1,hr⟩:=bindS hr
 refine q_loop (fun (t_6 : Int) a w=>Fr a 27 [(0,s1.v),(8,s5.v),(9,(iV (goLen t_3))),(10,(iV t_6))]∧St [] w0 w m4 [q5]) (fun (o : (Unit) ⊕ (Bool)) e a w=>o = .inl ()∧e = .exit 0∧Fr a 27 []∧St [] w0 w m4 []) hl1 ⟨hF.sub ⟨rfl,rfl,rfl,rfl,trivial⟩,hS⟩ ?_ ?_
 ·clear hF hS
  rintro t_6 a w st ⟨hF,hS⟩ hb1
  unfold impl_covers_l1 at hb1
  refine q_seq (q_region (q_x (v:=(.bool (decide (t_6 < (goLen t_3))))) hF hS (ex_ibin rfl rfl rfl) rfl rfl fun a hF=>q_end (n_sq (q_seq ?_))))
  rcases bcase (decide (t_6 < (goLen t_3))) with hc2 | hc2
  ·have hb1:=cond_f hc2 hb1
   refine q_cond_f hF rfl hc2 (q_exit (x_sq ?_))
   obtain rfl:=someI hb1
   exact ⟨nofun,.inl ⟨rfl,rfl,hF.sub trivial,hS.mask [false]⟩⟩
  ·have hb1:=cond_t hc2 hb1
   refine q_cond_t hF rfl hc2 (q_skipc (n_sq (q_seq (q_block (q_seq (q_region ?_))))))
   obtain ⟨e_7,he_7,hb1⟩:=bindS hb1
   obtain ⟨vs8,at8,d8⟩:=h5.at he_7 1 rfl
   obtain ⟨s9,rfl,h9⟩ : ∃ s9 : Sl,vs8 = [s9.v]∧Rd m4 s9 e_7:=d8
   refine q_x (v:=(elP s5 (t_6.toNat * 1))) hF hS (ex_indexAddr Try.underlying23 sz28 rfl rfl (h5.idx he_7)) rfl rfl fun a hF=>q_x (v:=s9.v) hF hS (ex_loadE1 0 Try.underlying28 rfl rfl (at8.at 0 rfl) rfl rfl) rfl rfl fun a hF=>q_x (v:=s9.v) hF hS (ex_assign rfl) rfl rfl fun a hF=>q_end (n_sq (q_seq (e_region ⟨[],[],m4⟩ mixed fun w' hw'=>?_)))
   have hS:=hS.below hw'
   refine e_p (v:=s1.v) 0 hF rfl (ex_move rfl) rfl rfl (by kernel_rfl) (by kernel_rfl) (by kernel_rfl) fun a hF=>e_p (v:=s9.v) 1 hF rfl (ex_move rfl) rfl rfl (by kernel_rfl) (by kernel_rfl) (by kernel_rfl) fun a hF=>?_
   obtain ⟨e_10,he_10,hb1⟩:=bindS hb1
   obtain ⟨vs11,at11,d11⟩:=h9.at he_10 1 rfl
   obtain rfl : vs11 = [(iV e_10)]:=d11
   refine e_p (v:=(elP s9 ((0 : Int).toNat * 1))) 2 hF rfl (ex_indexAddr Try.underlying28 sz3 rfl rfl (h9.idx he_10)) rfl rfl (by kernel_rfl) (by kernel_rfl) (by kernel_rfl) fun a hF=>e_xm (v:=(iV e_10)) 3 hF hS (Mem.le.refl _) rfl (ex_loadE1 0 Try.underlying3 rfl rfl ((at11).at) rfl rfl) rfl rfl (by kernel_rfl) (by kernel_rfl) (by kernel_rfl) fun a hF=>?_
   obtain ⟨e_12,he_12,hb1⟩:=bindS hb1
   obtain ⟨vs13,at13,d13⟩:=h1.at he_12 1 rfl
   obtain ⟨s14,rfl,h14⟩ : ∃ s14 : Sl,vs13 = [s14.v]∧Rd m s14 e_12:=d13
   refine e_p (v:=(elP s1 (e_10.toNat * 1))) 4 hF rfl (ex_indexAddr Try.underlying23 sz28 rfl rfl ((h1.mono hm4.le).idx he_12)) rfl rfl (by kernel_rfl) (by kernel_rfl) (by kernel_rfl) fun a hF=>e_xm (v:=s14.v) 5 hF hS (Mem.le.refl _) rfl (ex_loadE1 0 Try.underlying28 rfl rfl (((at13.mono hm4.le)).at) rfl rfl) rfl rfl (by kernel_rfl) (by kernel_rfl) (by kernel_rfl) fun a hF=>e_p (v:=s9.v) 6 hF rfl (ex_move rfl) rfl rfl (by kernel_rfl) (by kernel_rfl) (by kernel_rfl) fun a hF=>?_
   obtain ⟨e_15,he_15,hb1⟩:=bindS hb1
   obtain ⟨vs16,at16,d16⟩:=h9.at he_15 1 rfl
   obtain rfl : vs16 = [(iV e_15)]:=d16
   refine e_p (v:=(elP s9 ((1 : Int).toNat * 1))) 7 hF rfl (ex_indexAddr Try.underlying28 sz3 rfl rfl (h9.idx he_15)) rfl rfl (by kernel_rfl) (by kernel_rfl) (by kernel_rfl) fun a hF=>e_xm (v:=(iV e_15)) 8 hF hS (Mem.le.refl _) rfl (ex_loadE1 0 Try.underlying3 rfl rfl ((at16).at) rfl rfl) rfl rfl (by kernel_rfl) (by kernel_rfl) (by kernel_rfl) fun a hF=>?_
   obtain ⟨e_17,he_17,hb1⟩:=bindS hb1
   obtain ⟨vs18,at18,d18⟩:=h14.at he_17 1 rfl
   obtain rfl : vs18 = [(iV e_17)]:=d18
   refine e_p (v:=(elP s14 (e_15.toNat * 1))) 9 hF rfl (ex_indexAddr Try.underlying28 sz3 rfl rfl ((h14.mono hm4.le).idx he_17)) rfl rfl (by kernel_rfl) (by kernel_rfl) (by kernel_rfl) fun a hF=>e_xm (v:=(iV e_17)) 10 hF hS (Mem.le.refl _) rfl (ex_loadE1 0 Try.underlying3 rfl rfl (((at18.mono hm4.le)).at) rfl rfl) rfl rfl (by kernel_rfl) (by kernel_rfl) (by kernel_rfl) fun a hF=>e_p (v:=(.bool (e_17 == 0))) 11 hF rfl (ex_ibin rfl rfl rfl) rfl rfl (by kernel_rfl) (by kernel_rfl) (by kernel_rfl) fun a hF=>e_end (by kernel_rfl) (n_sq ?_) _
   rcases bcase (e_17 == 0) with hc3 | hc3
   ·have hb1:=cond_f hc3 hb1
    refine q_cond_f hF rfl hc3 (q_skipc (n_ib (n_sq (q_region (q_x (v:=(iV (w64 (t_6 + 1)))) hF hS (ex_ibin rfl rfl rfl) rfl rfl fun a hF=>q_x (v:=(iV (w64 (t_6 + 1)))) hF hS (ex_move rfl) rfl rfl fun a hF=>q_end ?_)))))
    obtain rfl:=someI hb1
    exact ⟨rfl,hF.sub ⟨rfl,rfl,rfl,rfl,trivial⟩,hS⟩
   ·have hb1:=cond_t hc3 hb1
    refine q_cond_t hF rfl hc3 (q_seq (q_region (q_x (v:=(.bool false)) hF hS (ex_assign rfl) rfl rfl fun a hF=>q_end (n_sq (q_ret (r_ib (r_sq ?_)))))))
    obtain rfl:=someI hb1
    refine ⟨nofun,.inr fun ho=>?_⟩
    subst ho
    refine r_ib (r_sq ?_)
    obtain rfl:=someI hr
    exact ret_of hF hS rfl (.tmp rfl .nil) rfl
 ·rintro e a w ⟨rfl,rfl,hF,hS⟩
  refine x_ib (n_sq ?_)
  refine q_seq (q_region (q_x (v:=(.bool true)) hF hS (ex_assign rfl) rfl rfl fun a hF=>q_end (n_sq (q_ret ?_))))
  obtain rfl:=someI hr
  exact ret_of hF hS rfl (.tmp rfl .nil) rfl

theorem c_impl_NeedsPartners (p_x : List (List Int)) (p_p : List (List Int)) (p_primary : List (List Int)) (r : Bool × Bool) (hr : impl_NeedsPartners p_x p_p p_primary = some r) (w0 : World) (m : Mem) (hv : Vis m w0) (s1 : Sl) (h1 : Rd m s1 p_x) (s2 : Sl) (h2 : Rd m s2 p_p) (s3 : Sl) (h3 : Rd m s3 p_primary) :
  Ret Try.prog 38 [s1.v,s2.v,s3.v] w0 (fun v _=>v = (.tuple #[(.bool r.1),(.bool r.2)])):=by
 unfold impl_NeedsPartners at hr
 refine ret_start Try.func38 rfl 56 rfl rfl m hv fun a hF hS=>q_seq (q_region (q_x (v:=(.bool false)) hF hS (ex_assign rfl) rfl rfl fun a hF=>q_x (v:=(.bool false)) hF hS (ex_assign rfl) rfl rfl fun a hF=>q_end (n_sq (q_seq (q_seq ?_)))))
 obtain ⟨t_7,hj1,hr⟩:=bindS hr
 refine q_join (fun a w=>Fr a 56 [(1,s2.v),(2,s3.v),(27,(.bool t_7))]∧St [] w0 w m []) ?_ ?_
 ·refine q_region (q_x (v:=s1.v) hF hS (ex_move rfl) rfl rfl fun a hF=>q_x (v:=s2.v) hF hS (ex_move rfl) rfl rfl fun a hF=>?_)
  obtain ⟨t_4,ht_4,hj1⟩:=bindS hj1
  refine q_call (vs:=[s1.v,s2.v]) hF hS Try.func95 (by kernel_rfl) rfl rfl rfl (c_impl_areSuppressed p_x p_p t_4 ht_4 _ m hS.vis s1 h1 s2 h2) ?_
  rintro a w _ rfl hF hS
  refine q_x (v:=(.bool (!t_4))) hF hS (ex_not rfl) rfl rfl fun a hF=>q_x (v:=(.bool (!t_4))) hF hS (ex_move rfl) rfl rfl fun a hF=>?_
  rcases bcase (!t_4) with hc2 | hc2
  ·have hj1:=cond_f hc2 hj1
   refine q_xg (v:=s1.v) hF hS (ex_move rfl) (wanted_t hF rfl rfl rfl hc2) rfl fun a hF=>q_xg (v:=s3.v) hF hS (ex_move rfl) (wanted_t hF rfl rfl rfl hc2) rfl fun a hF=>?_
   obtain ⟨t_5,ht_5,hj1⟩:=bindS hj1
   refine q_callg (vs:=[s1.v,s3.v]) hF hS (wanted_t hF rfl rfl rfl hc2) Try.func93 (by kernel_rfl) rfl rfl rfl (c_impl_isPattern p_x p_primary t_5 ht_5 _ m hS.vis s1 h1 s3 h3) ?_
   rintro a w _ rfl hF hS
   refine q_xg (v:=(.bool (!t_5))) hF hS (ex_not rfl) (wanted_t hF rfl rfl rfl hc2) rfl fun a hF=>q_x (v:=(.bool (!t_5))) hF hS (ex_pick_f rfl rfl hc2) rfl rfl fun a hF=>q_x (v:=(.bool (!t_5))) hF hS (ex_move rfl) rfl rfl fun a hF=>?_
   rcases bcase (!t_5) with hc3 | hc3
   ·have hj1:=cond_f hc3 hj1
    refine q_xg (v:=s2.v) hF hS (ex_move rfl) (wanted_t hF rfl rfl rfl hc3) rfl fun a hF=>q_xg (v:=s3.v) hF hS (ex_move rfl) (wanted_t hF rfl rfl rfl hc3) rfl fun a hF=>?_
    obtain ⟨t_6,ht_6,hj1⟩:=bindS hj1
    refine q_callg (vs:=[s2.v,s3.v]) hF hS (wanted_t hF rfl rfl rfl hc3) Try.func114 (by kernel_rfl) rfl rfl rfl (c_impl_covers p_p p_primary t_6 ht_6 _ m hS.vis s2 h2 s3 h3) ?_
    rintro a w _ rfl hF hS
    refine q_xg (v:=(.bool (!t_6))) hF hS (ex_not rfl) (wanted_t hF rfl rfl rfl hc3) rfl fun a hF=>q_x (v:=(.bool (!t_6))) hF hS (ex_pick_f rfl rfl hc3) rfl rfl fun a hF=>q_end (n_jn ?_)
    obtain rfl:=someI hj1
    exact ⟨hF.sub ⟨rfl,rfl,rfl,trivial⟩,hS⟩
   ·have hj1:=cond_t hc3 hj1
    refine q_skip hF (wanted_f hF rfl rfl rfl hc3 rfl) rfl fun a hF=>q_skip hF (wanted_f hF rfl rfl rfl hc3 rfl) rfl fun a hF=>q_skip hF (wanted_f hF rfl rfl rfl hc3 rfl) rfl fun a hF=>q_skip hF (wanted_f hF rfl rfl rfl hc3 rfl) rfl fun a hF=>q_x (v:=(.bool true)) hF hS (ex_pick_t rfl rfl hc3) rfl rfl fun a hF=>q_end (n_jn ?_)
    obtain rfl:=someI hj1
    exact ⟨hF.sub ⟨rfl,rfl,rfl,trivial⟩,hS⟩
  ·have hj1:=cond_t hc2 hj1
   refine q_skip hF (wanted_f hF rfl rfl rfl hc2 rfl) rfl fun a hF=>q_skip hF (wanted_f hF rfl rfl rfl hc2 rfl) rfl fun a hF=>q_skip hF (wanted_f hF rfl rfl rfl hc2 rfl) rfl fun a hF=>q_skip hF (wanted_f hF rfl rfl rfl hc2 rfl) rfl fun a hF=>q_x (v:=(.bool true)) hF hS (ex_pick_t rfl rfl hc2) rfl rfl fun a hF=>q_x (v:=(.bool true)) hF hS (ex_move rfl) rfl rfl fun a hF=>q_skip hF (wanted_f hF rfl rfl rfl rfl rfl) rfl fun a hF=>q_skip hF (wanted_f hF rfl rfl rfl rfl rfl) rfl fun a hF=>q_skip hF (wanted_f hF rfl rfl rfl rfl rfl) rfl fun a hF=>q_skip hF (wanted_f hF rfl rfl rfl rfl rfl) rfl fun a hF=>q_x (v:=(.bool true)) hF hS (ex_pick_t rfl rfl rfl) rfl rfl fun a hF=>q_end (n_jn ?_)
   obtain rfl:=someI hj1
   exact ⟨hF.sub ⟨rfl,rfl,rfl,trivial⟩,hS⟩
 ·rintro a w ⟨hF,hS⟩
  refine n_sq ?_
  rcases bcase (t_7) with hc4 | hc4
  ·have hr:=cond_f hc4 hr
   refine q_cond_f hF rfl hc4 (q_skipc (n_sq (q_seq (q_region (q_x (v:=s2.v) hF hS (ex_move rfl) rfl rfl fun a hF=>?_)))))
   obtain ⟨t_8,ht_8,hr⟩:=bindS hr
   refine q_call (vs:=[s2.v]) hF hS Try.func104 (by kernel_rfl) rfl rfl rfl (c_impl_rowSums p_p t_8 ht_8 _ m hS.vis s2 h2) ?_
   rintro a w _ ⟨q10,s10,rfl,hR9,h10⟩ hF hS2
   have hS : St _ _ _ _ [q10]:=hS.joinF hR9
   refine q_x (v:=s2.v) hF hS (ex_move rfl) rfl rfl fun a hF=>?_
   obtain ⟨t_11,ht_11,hr⟩:=bindS hr
   refine q_call (vs:=[s2.v]) hF hS Try.func105 (by kernel_rfl) rfl rfl rfl (c_impl_colSums p_p t_11 ht_11 _ m hS.vis s2 h2) ?_
   rintro a w _ ⟨q13,s13,rfl,hR12,h13⟩ hF hS2
   have hS : St _ _ _ _ [q13,q10]:=hS.joinF hR12
   refine q_x (v:=s10.v) hF hS (ex_assign rfl) rfl rfl fun a hF=>q_x (v:=s13.v) hF hS (ex_assign rfl) rfl rfl fun a hF=>q_end (n_sq (q_seq (q_seq (q_region (q_x (v:=s3.v) hF hS (ex_move rfl) rfl rfl fun a hF=>?_)))))
   obtain ⟨t_14,ht_14,hr⟩:=bindS hr
   refine q_call (vs:=[s3.v]) hF hS Try.func100 (by kernel_rfl) rfl rfl rfl (c_impl_positions p_primary t_14 ht_14 _ m hS.vis s3 h3) ?_
   have hT:=hS
   rintro a w _ ⟨m15,q16,s16,rfl,hm15,hR15,h16⟩ hF hS2
   have hS : St _ _ _ _ [q16,q13,q10]:=hS.join hR15 hm15
   have hm15:=MLe.weakX (O0:=[]) hT hm15
   refine q_x (v:=(iV (goLen t_14))) hF hS (ex_len Try.underlying23 rfl h16.len) rfl rfl fun a hF=>q_x (v:=(iV 0)) hF hS (ex_move rfl) rfl rfl fun a hF=>q_end (n_sq (q_block ?_))
   obtain ⟨o5,hl5,hr⟩:=bindS hr
   refine q_loop (fun (t_17 : Int) a w=>Fr a 56 [(8,s10.v),(9,s13.v),(33,s16.v),(34,(iV (goLen t_14))),(35,(iV t_17))]∧St [] w0 w m15 [q16,q13,q10]) (fun (o : (Unit) ⊕ (Bool × Bool)) e a w=>o = .inl ()∧e = .exit 0∧Fr a 56 []∧St [] w0 w m15 []) hl5 ⟨hF.sub ⟨rfl,rfl,rfl,rfl,rfl,trivial⟩,hS⟩ ?_ ?_
   ·clear hF hS
    rintro t_17 a w st ⟨hF,hS⟩ hb5
    unfold impl_NeedsPartners_l1 at hb5
    refine q_seq (q_region (q_x (v:=(.bool (decide (t_17 < (goLen t_14))))) hF hS (ex_ibin rfl rfl rfl) rfl rfl fun a hF=>q_end (n_sq (q_seq ?_))))
    rcases bcase (decide (t_17 < (goLen t_14))) with hc6 | hc6
    ·have hb5:=cond_f hc6 hb5
     refine q_cond_f hF rfl hc6 (q_exit (x_sq ?_))
     obtain rfl:=someI hb5
     exact ⟨nofun,.inl ⟨rfl,rfl,hF.sub trivial,hS.mask [false,false,false]⟩⟩
    ·have hb5:=cond_t hc6 hb5
     refine q_cond_t hF rfl hc6 (q_skipc (n_sq (q_seq (q_block (q_seq (q_region ?_))))))
     obtain ⟨e_18,he_18,hb5⟩:=bindS hb5
     obtain ⟨vs19,at19,d19⟩:=h16.at he_18 1 rfl
     obtain ⟨s20,rfl,h20⟩ : ∃ s20 : Sl,vs19 = [s20.v]∧Rd m15 s20 e_18:=d19
     refine q_x (v:=(elP s16 (t_17.toNat * 1))) hF hS (ex_indexAddr Try.underlying23 sz28 rfl rfl (h16.idx he_18)) rfl rfl fun a hF=>q_x (v:=s20.v) hF hS (ex_loadE1 0 Try.underlying28 rfl rfl (at19.at 0 rfl) rfl rfl) rfl rfl fun a hF=>q_x (v:=s20.v) hF hS (ex_assign rfl) rfl rfl fun a hF=>q_end (n_sq (q_seq ?_))
     obtain ⟨t_29,hj7,hb5⟩:=bindS hb5
     refine q_join (fun a w=>Fr a 56 [(8,s10.v),(9,s13.v),(33,s16.v),(34,(iV (goLen t_14))),(35,(iV t_17)),(54,(.bool t_29))]∧St [] w0 w m15 [q10,q13,q16]) ?_ ?_
     ·refine q_region (q_x (v:=s10.v) hF hS (ex_move rfl) rfl rfl fun a hF=>q_x (v:=s20.v) hF hS (ex_move rfl) rfl rfl fun a hF=>?_)
      obtain ⟨e_21,he_21,hj7⟩:=bindS hj7
      obtain ⟨vs22,at22,d22⟩:=h20.at he_21 1 rfl
      obtain rfl : vs22 = [(iV e_21)]:=d22
      refine q_x (v:=(elP s20 ((0 : Int).toNat * 1))) hF hS (ex_indexAddr Try.underlying28 sz3 rfl rfl (h20.idx he_21)) rfl rfl fun a hF=>q_x (v:=(iV e_21)) hF hS (ex_loadE1 0 Try.underlying3 rfl rfl ((at22).at) rfl rfl) rfl rfl fun a hF=>?_
      obtain ⟨e_23,he_23,hj7⟩:=bindS hj7
      obtain ⟨vs24,at24,d24⟩:=(h10.mono hm15.le).at he_23 1 rfl
      obtain rfl : vs24 = [(iV e_23)]:=d24
      refine q_x (v:=(elP s10 (e_21.toNat * 1))) hF hS (ex_indexAddr Try.underlying28 sz3 rfl rfl ((h10.mono hm15.le).idx he_23)) rfl rfl fun a hF=>q_x (v:=(iV e_23)) hF hS (ex_loadE1 0 Try.underlying3 rfl rfl (at24.at 2 rfl) rfl rfl) rfl rfl fun a hF=>q_x (v:=(.bool (e_23 == 1))) hF hS (ex_ibin rfl rfl rfl) rfl rfl fun a hF=>q_x (v:=(.bool (e_23 == 1))) hF hS (ex_move rfl) rfl rfl fun a hF=>?_
      rcases bcase (e_23 == 1) with hc8 | hc8
      ·have hj7:=cond_f hc8 hj7
       refine q_xg (v:=s13.v) hF hS (ex_move rfl) (wanted_t hF rfl rfl rfl hc8) rfl fun a hF=>q_xg (v:=s20.v) hF hS (ex_move rfl) (wanted_t hF rfl rfl rfl hc8) rfl fun a hF=>?_
       obtain ⟨e_25,he_25,hj7⟩:=bindS hj7
       obtain ⟨vs26,at26,d26⟩:=h20.at he_25 1 rfl
       obtain rfl : vs26 = [(iV e_25)]:=d26
       refine q_xg (v:=(elP s20 ((1 : Int).toNat * 1))) hF hS (ex_indexAddr Try.underlying28 sz3 rfl rfl (h20.idx he_25)) (wanted_t hF rfl rfl rfl hc8) rfl fun a hF=>q_xg (v:=(iV e_25)) hF hS (ex_loadE1 0 Try.underlying3 rfl rfl ((at26).at) rfl rfl) (wanted_t hF rfl rfl rfl hc8) rfl fun a hF=>?_
       obtain ⟨e_27,he_27,hj7⟩:=bindS hj7
       obtain ⟨vs28,at28,d28⟩:=(h13.mono hm15.le).at he_27 1 rfl
       obtain rfl : vs28 = [(iV e_27)]:=d28
       refine q_xg (v:=(elP s13 (e_25.toNat * 1))) hF hS (ex_indexAddr Try.underlying28 sz3 rfl rfl ((h13.mono hm15.le).idx he_27)) (wanted_t hF rfl rfl rfl hc8) rfl fun a hF=>q_xg (v:=(iV e_27)) hF hS (ex_loadE1 0 Try.underlying3 rfl rfl (at28.at 1 rfl) rfl rfl) (wanted_t hF rfl rfl rfl hc8) rfl fun a hF=>q_xg (v:=(.bool (e_27 == 1))) hF hS (ex_ibin rfl rfl rfl) (wanted_t hF rfl rfl rfl hc8) rfl fun a hF=>q_x (v:=(.bool (e_27 == 1))) hF hS (ex_pick_f rfl rfl hc8) rfl rfl fun a hF=>q_end (n_jn ?_)
       obtain rfl:=someI hj7
       exact ⟨hF.sub ⟨rfl,rfl,rfl,rfl,rfl,rfl,trivial⟩,hS.sel [2,1,0] (by decide)⟩
      ·have hj7:=cond_t hc8 hj7
       refine q_skip hF (wanted_f hF rfl rfl rfl hc8 rfl) rfl fun a hF=>q_skip hF (wanted_f hF rfl rfl rfl hc8 rfl) rfl fun a hF=>q_skip hF (wanted_f hF rfl rfl rfl hc8 rfl) rfl fun a hF=>q_skip hF (wanted_f hF rfl rfl rfl hc8 rfl) rfl fun a hF=>q_skip hF (wanted_f hF rfl rfl rfl hc8 rfl) rfl fun a hF=>q_skip hF (wanted_f hF rfl rfl rfl hc8 rfl) rfl fun a hF=>q_skip hF (wanted_f hF rfl rfl rfl hc8 rfl) rfl fun a hF=>q_x (v:=(.bool true)) hF hS (ex_pick_t rfl rfl hc8) rfl rfl fun a hF=>q_end (n_jn ?_)
       obtain rfl:=someI hj7
       exact ⟨hF.sub ⟨rfl,rfl,rfl,rfl,rfl,rfl,trivial⟩,hS.sel [2,1,0] (by decide)⟩
     ·rintro a w ⟨hF,hS⟩
      refine n_sq ?_
      rcases bcase (t_29) with hc9 | hc9
      ·have hb5:=cond_f hc9 hb5
       refine q_cond_f hF rfl hc9 (q_skipc (n_ib (n_sq (q_region (q_x (v:=(iV (w64 (t_17 + 1)))) hF hS (ex_ibin rfl rfl rfl) rfl rfl fun a hF=>q_x (v:=(iV (w64 (t_17 + 1)))) hF hS (ex_move rfl) rfl rfl fun a hF=>q_end ?_)))))
       obtain rfl:=someI hb5
       exact ⟨rfl,hF.sub ⟨rfl,rfl,rfl,rfl,rfl,trivial⟩,hS.sel [2,1,0] (by decide)⟩
      ·have hb5:=cond_t hc9 hb5
       refine q_cond_t hF rfl hc9 (q_seq (q_region (q_x (v:=(.bool true)) hF hS (ex_assign rfl) rfl rfl fun a hF=>q_x (v:=(.bool true)) hF hS (ex_assign rfl) rfl rfl fun a hF=>q_end (n_sq (q_ret (r_ib (r_sq ?_)))))))
       obtain rfl:=someI hb5
       refine ⟨nofun,.inr fun ho=>?_⟩
       subst ho
       refine r_ib (r_sq ?_)
       obtain rfl:=someI hr
       exact ret_of hF hS rfl (.tmp rfl (.tmp rfl .nil)) rfl
   ·rintro e a w ⟨rfl,rfl,hF,hS⟩
    refine x_ib (n_sq ?_)
    refine q_seq (q_region (q_x (v:=(.bool false)) hF hS (ex_assign rfl) rfl rfl fun a hF=>q_x (v:=(.bool true)) hF hS (ex_assign rfl) rfl rfl fun a hF=>q_end (n_sq (q_ret ?_))))
    obtain rfl:=someI hr
    exact ret_of hF hS rfl (.tmp rfl (.tmp rfl .nil)) rfl
  ·have hr:=cond_t hc4 hr
   refine q_cond_t hF rfl hc4 (q_seq (q_region (q_x (v:=(.bool false)) hF hS (ex_assign rfl) rfl rfl fun a hF=>q_x (v:=(.bool false)) hF hS (ex_assign rfl) rfl rfl fun a hF=>q_end (n_sq (q_ret (r_sq ?_))))))
   obtain rfl:=someI hr
   exact ret_of hF hS rfl (.tmp rfl (.tmp rfl .nil)) rfl

theorem c_spec_vContains (p_p : List (List Int)) (p_primary : List (List Int)) (r : Bool) (hr : spec_vContains p_p p_primary = some r) (w0 : World) (m : Mem) (hv : Vis m w0) (s1 : Sl) (h1 : Rd m s1 p_p) (s2 : Sl) (h2 : Rd m s2 p_primary) :
  Ret Try.prog 161 [s1.v,s2.v] w0 (fun v _=>v = (.bool r)):=by
 unfold spec_vContains at hr
 refine ret_start Try.func161 rfl 37 rfl rfl m hv fun a hF hS=>q_seq (q_region (q_x (v:=(.bool false)) hF hS (ex_assign rfl) rfl rfl fun a hF=>q_end (n_sq (q_seq (q_seq (q_region (q_x (v:=s2.v) hF hS (ex_move rfl) rfl rfl fun a hF=>q_x (v:=(iV (goLen p_primary))) hF hS (ex_len Try.underlying23 rfl h2.len) rfl rfl fun a hF=>q_x (v:=(iV 0)) hF hS (ex_move rfl) rfl rfl fun a hF=>q_end (n_sq (q_block ?_)))))))))
 obtain ⟨o1,hl1,hr⟩:=bindS hr
 refine q_loop (fun (t_3 : Int) a w=>Fr a 37 [(0,s1.v),(9,s2.v),(10,(iV (goLen p_primary))),(11,(iV t_3))]∧St [] w0 w m []) (fun (o : (Unit) ⊕ (Bool)) e a w=>o = .inl ()∧e = .exit 0∧Fr a 37 []∧St [] w0 w m []) hl1 ⟨hF.sub ⟨rfl,rfl,rfl,rfl,trivial⟩,hS⟩ ?_ ?_
 ·clear hF hS
  rintro t_3 a w st ⟨hF,hS⟩ hb1
  unfold spec_vContains_l1 at hb1
  refine q_seq (q_region (q_x (v:=(.bool (decide (t_3 < (goLen p_primary))))) hF hS (ex_ibin rfl rfl rfl) rfl rfl fun a hF=>q_end (n_sq (q_seq ?_))))
  rcases bcase (decide (t_3 < (goLen p_primary))) with hc2 | hc2
  ·have hb1:=cond_f hc2 hb1
   refine q_cond_f hF rfl hc2 (q_exit (x_sq ?_))
   obtain rfl:=someI hb1
   exact ⟨nofun,.inl ⟨rfl,rfl,hF.sub trivial,hS⟩⟩
  ·have hb1:=cond_t hc2 hb1
   refine q_cond_t hF rfl hc2 (q_skipc (n_sq (q_seq (q_block (q_seq (q_region (q_x (v:=(iV t_3)) hF hS (ex_move rfl) rfl rfl fun a hF=>?_)))))))
   obtain ⟨e_4,he_4,hb1⟩:=bindS hb1
   obtain ⟨vs5,at5,d5⟩:=h2.at he_4 1 rfl
   obtain ⟨s6,rfl,h6⟩ : ∃ s6 : Sl,vs5 = [s6.v]∧Rd m s6 e_4:=d5
   refine q_x (v:=(elP s2 (t_3.toNat * 1))) hF hS (ex_indexAddr Try.underlying23 sz28 rfl rfl (h2.idx he_4)) rfl rfl fun a hF=>q_x (v:=s6.v) hF hS (ex_loadE1 0 Try.underlying28 rfl rfl ((at5).at) rfl rfl) rfl rfl fun a hF=>q_x (v:=(iV t_3)) hF hS (ex_assign rfl) rfl rfl fun a hF=>q_x (v:=s6.v) hF hS (ex_assign rfl) rfl rfl fun a hF=>q_end (n_sq (q_seq (q_region (q_x (v:=s6.v) hF hS (ex_move rfl) rfl rfl fun a hF=>q_x (v:=(iV (goLen e_4))) hF hS (ex_len Try.underlying28 rfl h6.len) rfl rfl fun a hF=>q_x (v:=(iV 0)) hF hS (ex_move rfl) rfl rfl fun a hF=>q_end (n_sq (q_block ?_))))))
   obtain ⟨o3,hl3,hb1⟩:=bindS hb1
   refine q_loop (fun (t_7 : Int) a w=>Fr a 37 [(0,s1.v),(5,(iV t_3)),(9,s2.v),(10,(iV (goLen p_primary))),(11,(iV t_3)),(16,s6.v),(17,(iV (goLen e_4))),(18,(iV t_7))]∧St [] w0 w m []) (fun (o : (Unit) ⊕ (Stp (Int) ((Unit) ⊕ (Bool)))) e a w=>o = .inl ()∧e = .exit 2∧Fr a 37 [(0,s1.v),(9,s2.v),(10,(iV (goLen p_primary))),(11,(iV t_3))]∧St [] w0 w m []) hl3 ⟨hF.sub ⟨rfl,rfl,rfl,rfl,rfl,rfl,rfl,rfl,trivial⟩,hS⟩ ?_ ?_
   ·clear hF hS
    rintro t_7 a w st ⟨hF,hS⟩ hb3
    unfold spec_vContains_l2 at hb3
    refine q_seq (q_region (q_x (v:=(.bool (decide (t_7 < (goLen e_4))))) hF hS (ex_ibin rfl rfl rfl) rfl rfl fun a hF=>q_end (n_sq (q_seq ?_))))
    rcases bcase (decide (t_7 < (goLen e_4))) with hc4 | hc4
    ·have hb3:=cond_f hc4 hb3
     refine q_cond_f hF rfl hc4 (q_exit (x_sq ?_))
     obtain rfl:=someI hb3
     exact ⟨nofun,.inl ⟨rfl,rfl,hF.sub ⟨rfl,rfl,rfl,rfl,trivial⟩,hS⟩⟩
    ·have hb3:=cond_t hc4 hb3
     refine q_cond_t hF rfl hc4 (q_skipc (n_sq (q_seq (q_block (q_seq (q_region (q_x (v:=(iV t_7)) hF hS (ex_move rfl) rfl rfl fun a hF=>?_)))))))
     obtain ⟨e_8,he_8,hb3⟩:=bindS hb3
     obtain ⟨vs9,at9,d9⟩:=h6.at he_8 1 rfl
     obtain rfl : vs9 = [(iV e_8)]:=d9
     refine q_x (v:=(elP s6 (t_7.toNat * 1))) hF hS (ex_indexAddr Try.underlying28 sz3 rfl rfl (h6.idx he_8)) rfl rfl fun a hF=>q_x (v:=(iV e_8)) hF hS (ex_loadE1 0 Try.underlying3 rfl rfl ((at9).at) rfl rfl) rfl rfl fun a hF=>q_x (v:=(iV t_7)) hF hS (ex_assign rfl) rfl rfl fun a hF=>q_x (v:=(iV e_8)) hF hS (ex_assign rfl) rfl rfl fun a hF=>q_end (n_sq (q_seq ?_))
     obtain ⟨t_15,hj5,hb3⟩:=bindS hb3
     refine q_join (fun a w=>Fr a 37 [(0,s1.v),(5,(iV t_3)),(9,s2.v),(10,(iV (goLen p_primary))),(11,(iV t_3)),(16,s6.v),(17,(iV (goLen e_4))),(18,(iV t_7)),(34,(.bool t_15))]∧St [] w0 w m []) ?_ ?_
     ·refine q_region (q_x (v:=(iV e_8)) hF hS (ex_move rfl) rfl rfl fun a hF=>q_x (v:=(.bool (e_8 == 1))) hF hS (ex_ibin rfl rfl rfl) rfl rfl fun a hF=>q_x (v:=(.bool (e_8 == 1))) hF hS (ex_move rfl) rfl rfl fun a hF=>?_)
      rcases bcase (e_8 == 1) with hc6 | hc6
      ·have hj5:=cond_f hc6 hj5
       refine q_skip hF (wanted_f hF rfl rfl rfl hc6 rfl) rfl fun a hF=>q_skip hF (wanted_f hF rfl rfl rfl hc6 rfl) rfl fun a hF=>q_skip hF (wanted_f hF rfl rfl rfl hc6 rfl) rfl fun a hF=>q_skip hF (wanted_f hF rfl rfl rfl hc6 rfl) rfl fun a hF=>q_skip hF (wanted_f hF rfl rfl rfl hc6 rfl) rfl fun a hF=>q_skip hF (wanted_f hF rfl rfl rfl hc6 rfl) rfl fun a hF=>q_skip hF (wanted_f hF rfl rfl rfl hc6 rfl) rfl fun a hF=>q_skip hF (wanted_f hF rfl rfl rfl hc6 rfl) rfl fun a hF=>q_x (v:=(.bool false)) hF hS (ex_pick_f rfl rfl hc6) rfl rfl fun a hF=>q_end (n_jn ?_)
       obtain rfl:=someI hj5
       exact ⟨hF.sub ⟨rfl,rfl,rfl,rfl,rfl,rfl,rfl,rfl,rfl,trivial⟩,hS⟩
      ·have hj5:=cond_t hc6 hj5
       refine q_xg (v:=s1.v) hF hS (ex_move rfl) (wanted_t hF rfl rfl rfl hc6) rfl fun a hF=>q_xg (v:=(iV t_3)) hF hS (ex_move rfl) (wanted_t hF rfl rfl rfl hc6) rfl fun a hF=>?_
       obtain ⟨e_10,he_10,hj5⟩:=bindS hj5
       obtain ⟨vs11,at11,d11⟩:=h1.at he_10 1 rfl
       obtain ⟨s12,rfl,h12⟩ : ∃ s12 : Sl,vs11 = [s12.v]∧Rd m s12 e_10:=d11
       refine q_xg (v:=(elP s1 (t_3.toNat * 1))) hF hS (ex_indexAddr Try.underlying23 sz28 rfl rfl (h1.idx he_10)) (wanted_t hF rfl rfl rfl hc6) rfl fun a hF=>q_xg (v:=s12.v) hF hS (ex_loadE1 0 Try.underlying28 rfl rfl ((at11).at) rfl rfl) (wanted_t hF rfl rfl rfl hc6) rfl fun a hF=>q_xg (v:=(iV t_7)) hF hS (ex_move rfl) (wanted_t hF rfl rfl rfl hc6) rfl fun a hF=>?_
       obtain ⟨e_13,he_13,hj5⟩:=bindS hj5
       obtain ⟨vs14,at14,d14⟩:=h12.at he_13 1 rfl
       obtain rfl : vs14 = [(iV e_13)]:=d14
       refine q_xg (v:=(elP s12 (t_7.toNat * 1))) hF hS (ex_indexAddr Try.underlying28 sz3 rfl rfl (h12.idx he_13)) (wanted_t hF rfl rfl rfl hc6) rfl fun a hF=>q_xg (v:=(iV e_13)) hF hS (ex_loadE1 0 Try.underlying3 rfl rfl ((at14).at) rfl rfl) (wanted_t hF rfl rfl rfl hc6) rfl fun a hF=>q_xg (v:=(.bool (e_13 == 0))) hF hS (ex_ibin rfl rfl rfl) (wanted_t hF rfl rfl rfl hc6) rfl fun a hF=>q_x (v:=(.bool (e_13 == 0))) hF hS (ex_pick_t rfl rfl hc6) rfl rfl fun a hF=>q_end (n_jn ?_)
       obtain rfl:=someI hj5
       exact ⟨hF.sub ⟨rfl,rfl,rfl,rfl,rfl,rfl,rfl,rfl,rfl,trivial⟩,hS⟩
     ·rintro a w ⟨hF,hS⟩
      refine n_sq ?_
      rcases bcase (t_15) with hc7 | hc7
      ·have hb3:=cond_f hc7 hb3
       refine q_cond_f hF rfl hc7 (q_skipc (n_ib (n_sq (q_region (q_x (v:=(iV (w64 (t_7 + 1)))) hF hS (ex_ibin rfl rfl rfl) rfl rfl fun a hF=>q_x (v:=(iV (w64 (t_7 + 1)))) hF hS (ex_move rfl) rfl rfl fun a hF=>q_end ?_)))))
       obtain rfl:=someI hb3
       exact ⟨rfl,hF.sub ⟨rfl,rfl,rfl,rfl,rfl,rfl,rfl,rfl,trivial⟩,hS⟩
      ·have hb3:=cond_t hc7 hb3
       refine q_cond_t hF rfl hc7 (q_seq (q_region (q_x (v:=(.bool false)) hF hS (ex_assign rfl) rfl rfl fun a hF=>q_end (n_sq (q_ret (r_ib (r_sq ?_)))))))
       obtain rfl:=someI hb3
       refine ⟨nofun,.inr fun ho=>?_⟩
       subst ho
       refine r_ib (r_ib (r_sq ?_))
       obtain rfl:=someI hb1
       refine ⟨nofun,.inr fun ho=>?_⟩
       subst ho
       refine r_ib (r_sq ?_)
       obtain rfl:=someI hr
       exact ret_of hF hS rfl (.tmp rfl .nil) rfl
   ·rintro e a w ⟨rfl,rfl,hF,hS⟩
    refine x_ib (n_ib (n_sq ?_))
    refine q_region (q_x (v:=(iV (w64 (t_3 + 1)))) hF hS (ex_ibin rfl rfl rfl) rfl rfl fun a hF=>q_x (v:=(iV (w64 (t_3 + 1)))) hF hS (ex_move rfl) rfl rfl fun a hF=>q_end ?_)
    obtain rfl:=someI hb1
    exact ⟨rfl,hF.sub ⟨rfl,rfl,rfl,rfl,trivial⟩,hS⟩
 ·rintro e a w ⟨rfl,rfl,hF,hS⟩
  refine x_ib (n_sq ?_)
  refine q_seq (q_region (q_x (v:=(.bool true)) hF hS (ex_assign rfl) rfl rfl fun a hF=>q_end (n_sq (q_ret ?_))))
  obtain rfl:=someI hr
  exact ret_of hF hS rfl (.tmp rfl .nil) rfl

theorem c_spec_vInput (p_x : List (List Int)) (p_p : List (List Int)) (p_primary : List (List Int)) (r : Bool) (hr : spec_vInput p_x p_p p_primary = some r) (w0 : World) (m : Mem) (hv : Vis m w0) (s1 : Sl) (h1 : Rd m s1 p_x) (s2 : Sl) (h2 : Rd m s2 p_p) (s3 : Sl) (h3 : Rd m s3 p_primary) :
  Ret Try.prog 115 [s1.v,s2.v,s3.v] w0 (fun v _=>v = (.bool r)):=by
 unfold spec_vInput at hr
 refine ret_start Try.func115 rfl 20 rfl rfl m hv fun a hF hS=>q_seq (q_region (q_x (v:=(.bool false)) hF hS (ex_assign rfl) rfl rfl fun a hF=>q_end (n_sq (q_seq ?_))))
 obtain ⟨t_7,hj1,hr⟩:=bindS hr
 refine q_join (fun a w=>Fr a 20 [(6,(.bool t_7))]∧St [] w0 w m []) ?_ ?_
 ·refine q_region (q_x (v:=s1.v) hF hS (ex_move rfl) rfl rfl fun a hF=>q_x (v:=s2.v) hF hS (ex_move rfl) rfl rfl fun a hF=>?_)
  obtain ⟨t_4,ht_4,hj1⟩:=bindS hj1
  refine q_call (vs:=[s1.v,s2.v]) hF hS Try.func98 (by kernel_rfl) rfl rfl rfl (c_spec_qPattern p_x p_p t_4 ht_4 _ m hS.vis s1 h1 s2 h2) ?_
  rintro a w _ rfl hF hS
  refine q_x (v:=(.bool t_4)) hF hS (ex_move rfl) rfl rfl fun a hF=>?_
  rcases bcase (t_4) with hc2 | hc2
  ·have hj1:=cond_f hc2 hj1
   refine q_skip hF (wanted_f hF rfl rfl rfl hc2 rfl) rfl fun a hF=>q_skip hF (wanted_f hF rfl rfl rfl hc2 rfl) rfl fun a hF=>q_skip hF (wanted_f hF rfl rfl rfl hc2 rfl) rfl fun a hF=>q_x (v:=(.bool false)) hF hS (ex_pick_f rfl rfl hc2) rfl rfl fun a hF=>q_x (v:=(.bool false)) hF hS (ex_move rfl) rfl rfl fun a hF=>q_skip hF (wanted_f hF rfl rfl rfl rfl rfl) rfl fun a hF=>q_skip hF (wanted_f hF rfl rfl rfl rfl rfl) rfl fun a hF=>q_skip hF (wanted_f hF rfl rfl rfl rfl rfl) rfl fun a hF=>q_x (v:=(.bool false)) hF hS (ex_pick_f rfl rfl rfl) rfl rfl fun a hF=>q_x (v:=(.bool false)) hF hS (ex_assign rfl) rfl rfl fun a hF=>q_end (n_jn ?_)
   obtain rfl:=someI hj1
   exact ⟨hF.sub ⟨rfl,trivial⟩,hS⟩
  ·have hj1:=cond_t hc2 hj1
   refine q_xg (v:=s1.v) hF hS (ex_move rfl) (wanted_t hF rfl rfl rfl hc2) rfl fun a hF=>q_xg (v:=s3.v) hF hS (ex_move rfl) (wanted_t hF rfl rfl rfl hc2) rfl fun a hF=>?_
   obtain ⟨t_5,ht_5,hj1⟩:=bindS hj1
   refine q_callg (vs:=[s1.v,s3.v]) hF hS (wanted_t hF rfl rfl rfl hc2) Try.func98 (by kernel_rfl) rfl rfl rfl (c_spec_qPattern p_x p_primary t_5 ht_5 _ m hS.vis s1 h1 s3 h3) ?_
   rintro a w _ rfl hF hS
   refine q_x (v:=(.bool t_5)) hF hS (ex_pick_t rfl rfl hc2) rfl rfl fun a hF=>q_x (v:=(.bool t_5)) hF hS (ex_move rfl) rfl rfl fun a hF=>?_
   rcases bcase (t_5) with hc3 | hc3
   ·have hj1:=cond_f hc3 hj1
    refine q_skip hF (wanted_f hF rfl rfl rfl hc3 rfl) rfl fun a hF=>q_skip hF (wanted_f hF rfl rfl rfl hc3 rfl) rfl fun a hF=>q_skip hF (wanted_f hF rfl rfl rfl hc3 rfl) rfl fun a hF=>q_x (v:=(.bool false)) hF hS (ex_pick_f rfl rfl hc3) rfl rfl fun a hF=>q_x (v:=(.bool false)) hF hS (ex_assign rfl) rfl rfl fun a hF=>q_end (n_jn ?_)
    obtain rfl:=someI hj1
    exact ⟨hF.sub ⟨rfl,trivial⟩,hS⟩
   ·have hj1:=cond_t hc3 hj1
    refine q_xg (v:=s2.v) hF hS (ex_move rfl) (wanted_t hF rfl rfl rfl hc3) rfl fun a hF=>q_xg (v:=s3.v) hF hS (ex_move rfl) (wanted_t hF rfl rfl rfl hc3) rfl fun a hF=>?_
    obtain ⟨t_6,ht_6,hj1⟩:=bindS hj1
    refine q_callg (vs:=[s2.v,s3.v]) hF hS (wanted_t hF rfl rfl rfl hc3) Try.func161 (by kernel_rfl) rfl rfl rfl (c_spec_vContains p_p p_primary t_6 ht_6 _ m hS.vis s2 h2 s3 h3) ?_
    rintro a w _ rfl hF hS
    refine q_x (v:=(.bool t_6)) hF hS (ex_pick_t rfl rfl hc3) rfl rfl fun a hF=>q_x (v:=(.bool t_6)) hF hS (ex_assign rfl) rfl rfl fun a hF=>q_end (n_jn ?_)
    obtain rfl:=someI hj1
    exact ⟨hF.sub ⟨rfl,trivial⟩,hS⟩
 ·rintro a w ⟨hF,hS⟩
  refine n_sq (q_ret ?_)
  obtain rfl:=someI hr
  exact ret_of hF hS rfl (.tmp rfl .nil) rfl

theorem c_spec_vAlone (p_p : List (List Int)) (p_primary : List (List Int)) (r : Bool) (hr : spec_vAlone p_p p_primary = some r) (w0 : World) (m : Mem) (hv : Vis m w0) (s1 : Sl) (h1 : Rd m s1 p_p) (s2 : Sl) (h2 : Rd m s2 p_primary) :
  Ret Try.prog 116 [s1.v,s2.v] w0 (fun v _=>v = (.bool r)):=by
 unfold spec_vAlone at hr
 refine ret_start Try.func116 rfl 42 rfl rfl m hv fun a hF hS=>q_seq (q_region (q_x (v:=(.bool false)) hF hS (ex_assign rfl) rfl rfl fun a hF=>q_end (n_sq (q_seq (q_seq (q_region (q_x (v:=s2.v) hF hS (ex_move rfl) rfl rfl fun a hF=>q_x (v:=(iV (goLen p_primary))) hF hS (ex_len Try.underlying23 rfl h2.len) rfl rfl fun a hF=>q_x (v:=(iV 0)) hF hS (ex_move rfl) rfl rfl fun a hF=>q_end (n_sq (q_block ?_)))))))))
 obtain ⟨o1,hl1,hr⟩:=bindS hr
 refine q_loop (fun (t_3 : Int) a w=>Fr a 42 [(0,s1.v),(9,s2.v),(10,(iV (goLen p_primary))),(11,(iV t_3))]∧St [] w0 w m []) (fun (o : (Unit) ⊕ (Bool)) e a w=>o = .inl ()∧e = .exit 0∧Fr a 42 []∧St [] w0 w m []) hl1 ⟨hF.sub ⟨rfl,rfl,rfl,rfl,trivial⟩,hS⟩ ?_ ?_
 ·clear hF hS
  rintro t_3 a w st ⟨hF,hS⟩ hb1
  unfold spec_vAlone_l1 at hb1
  refine q_seq (q_region (q_x (v:=(.bool (decide (t_3 < (goLen p_primary))))) hF hS (ex_ibin rfl rfl rfl) rfl rfl fun a hF=>q_end (n_sq (q_seq ?_))))
  rcases bcase (decide (t_3 < (goLen p_primary))) with hc2 | hc2
  ·have hb1:=cond_f hc2 hb1
   refine q_cond_f hF rfl hc2 (q_exit (x_sq ?_))
   obtain rfl:=someI hb1
   exact ⟨nofun,.inl ⟨rfl,rfl,hF.sub trivial,hS⟩⟩
  ·have hb1:=cond_t hc2 hb1
   refine q_cond_t hF rfl hc2 (q_skipc (n_sq (q_seq (q_block (q_seq (q_region (q_x (v:=(iV t_3)) hF hS (ex_move rfl) rfl rfl fun a hF=>?_)))))))
   obtain ⟨e_4,he_4,hb1⟩:=bindS hb1
   obtain ⟨vs5,at5,d5⟩:=h2.at he_4 1 rfl
   obtain ⟨s6,rfl,h6⟩ : ∃ s6 : Sl,vs5 = [s6.v]∧Rd m s6 e_4:=d5
   refine q_x (v:=(elP s2 (t_3.toNat * 1))) hF hS (ex_indexAddr Try.underlying23 sz28 rfl rfl (h2.idx he_4)) rfl rfl fun a hF=>q_x (v:=s6.v) hF hS (ex_loadE1 0 Try.underlying28 rfl rfl ((at5).at) rfl rfl) rfl rfl fun a hF=>q_x (v:=(iV t_3)) hF hS (ex_assign rfl) rfl rfl fun a hF=>q_x (v:=s6.v) hF hS (ex_assign rfl) rfl rfl fun a hF=>q_end (n_sq (q_seq (q_region (q_x (v:=s6.v) hF hS (ex_move rfl) rfl rfl fun a hF=>q_x (v:=(iV (goLen e_4))) hF hS (ex_len Try.underlying28 rfl h6.len) rfl rfl fun a hF=>q_x (v:=(iV 0)) hF hS (ex_move rfl) rfl rfl fun a hF=>q_end (n_sq (q_block ?_))))))
   obtain ⟨o3,hl3,hb1⟩:=bindS hb1
   refine q_loop (fun (t_7 : Int) a w=>Fr a 42 [(0,s1.v),(5,(iV t_3)),(9,s2.v),(10,(iV (goLen p_primary))),(11,(iV t_3)),(16,s6.v),(17,(iV (goLen e_4))),(18,(iV t_7))]∧St [] w0 w m []) (fun (o : (Unit) ⊕ (Stp (Int) ((Unit) ⊕ (Bool)))) e a w=>o = .inl ()∧e = .exit 2∧Fr a 42 [(0,s1.v),(9,s2.v),(10,(iV (goLen p_primary))),(11,(iV t_3))]∧St [] w0 w m []) hl3 ⟨hF.sub ⟨rfl,rfl,rfl,rfl,rfl,rfl,rfl,rfl,trivial⟩,hS⟩ ?_ ?_
   ·clear hF hS
    rintro t_7 a w st ⟨hF,hS⟩ hb3
    unfold spec_vAlone_l2 at hb3
    refine q_seq (q_region (q_x (v:=(.bool (decide (t_7 < (goLen e_4))))) hF hS (ex_ibin rfl rfl rfl) rfl rfl fun a hF=>q_end (n_sq (q_seq ?_))))
    rcases bcase (decide (t_7 < (goLen e_4))) with hc4 | hc4
    ·have hb3:=cond_f hc4 hb3
     refine q_cond_f hF rfl hc4 (q_exit (x_sq ?_))
     obtain rfl:=someI hb3
     exact ⟨nofun,.inl ⟨rfl,rfl,hF.sub ⟨rfl,rfl,rfl,rfl,trivial⟩,hS⟩⟩
    ·have hb3:=cond_t hc4 hb3
     refine q_cond_t hF rfl hc4 (q_skipc (n_sq (q_seq (q_block (q_seq (q_region (q_x (v:=(iV t_7)) hF hS (ex_move rfl) rfl rfl fun a hF=>?_)))))))
     obtain ⟨e_8,he_8,hb3⟩:=bindS hb3
     obtain ⟨vs9,at9,d9⟩:=h6.at he_8 1 rfl
     obtain rfl : vs9 = [(iV e_8)]:=d9
     refine q_x (v:=(elP s6 (t_7.toNat * 1))) hF hS (ex_indexAddr Try.underlying28 sz3 rfl rfl (h6.idx he_8)) rfl rfl fun a hF=>q_x (v:=(iV e_8)) hF hS (ex_loadE1 0 Try.underlying3 rfl rfl ((at9).at) rfl rfl) rfl rfl fun a hF=>q_x (v:=(iV t_7)) hF hS (ex_assign rfl) rfl rfl fun a hF=>q_x (v:=(iV e_8)) hF hS (ex_assign rfl) rfl rfl fun a hF=>q_end (n_sq (q_seq ?_))
     obtain ⟨t_19,hj5,hb3⟩:=bindS hb3
     refine q_join (fun a w=>Fr a 42 [(0,s1.v),(5,(iV t_3)),(9,s2.v),(10,(iV (goLen p_primary))),(11,(iV t_3)),(16,s6.v),(17,(iV (goLen e_4))),(18,(iV t_7)),(39,(.bool t_19))]∧St [] w0 w m []) ?_ ?_
     ·refine q_region (q_x (v:=(iV e_8)) hF hS (ex_move rfl) rfl rfl fun a hF=>q_x (v:=(.bool (e_8 == 1))) hF hS (ex_ibin rfl rfl rfl) rfl rfl fun a hF=>q_x (v:=(.bool (e_8 == 1))) hF hS (ex_move rfl) rfl rfl fun a hF=>?_)
      rcases bcase (e_8 == 1) with hc6 | hc6
      ·have hj5:=cond_f hc6 hj5
       refine q_skip hF (wanted_f hF rfl rfl rfl hc6 rfl) rfl fun a hF=>q_skip hF (wanted_f hF rfl rfl rfl hc6 rfl) rfl fun a hF=>q_skip hF (wanted_f hF rfl rfl rfl hc6 rfl) rfl fun a hF=>q_skip hF (wanted_f hF rfl rfl rfl hc6 rfl) rfl fun a hF=>q_skip hF (wanted_f hF rfl rfl rfl hc6 rfl) rfl fun a hF=>q_skip hF (wanted_f hF rfl rfl rfl hc6 rfl) rfl fun a hF=>q_skip hF (wanted_f hF rfl rfl rfl hc6 rfl) rfl fun a hF=>q_skip hF (wanted_u hF rfl rfl rfl) rfl fun a hF=>q_skip hF (wanted_u hF rfl rfl rfl) rfl fun a hF=>q_skip hF (wanted_u hF rfl rfl rfl) rfl fun a hF=>q_skip hF (wanted_u hF rfl rfl rfl) rfl fun a hF=>q_skip hF (wanted_u hF rfl rfl rfl) rfl fun a hF=>q_skip hF (wanted_f hF rfl rfl rfl hc6 rfl) rfl fun a hF=>q_x (v:=(.bool false)) hF hS (ex_pick_f rfl rfl hc6) rfl rfl fun a hF=>q_end (n_jn ?_)
       obtain rfl:=someI hj5
       exact ⟨hF.sub ⟨rfl,rfl,rfl,rfl,rfl,rfl,rfl,rfl,rfl,trivial⟩,hS⟩
      ·have hj5:=cond_t hc6 hj5
       refine q_xg (v:=s1.v) hF hS (ex_move rfl) (wanted_t hF rfl rfl rfl hc6) rfl fun a hF=>q_xg (v:=(iV t_3)) hF hS (ex_move rfl) (wanted_t hF rfl rfl rfl hc6) rfl fun a hF=>?_
       obtain ⟨e_10,he_10,hj5⟩:=bindS hj5
       obtain ⟨vs11,at11,d11⟩:=h1.at he_10 1 rfl
       obtain ⟨s12,rfl,h12⟩ : ∃ s12 : Sl,vs11 = [s12.v]∧Rd m s12 e_10:=d11
       refine q_xg (v:=(elP s1 (t_3.toNat * 1))) hF hS (ex_indexAddr Try.underlying23 sz28 rfl rfl (h1.idx he_10)) (wanted_t hF rfl rfl rfl hc6) rfl fun a hF=>q_xg (v:=s12.v) hF hS (ex_loadE1 0 Try.underlying28 rfl rfl ((at11).at) rfl rfl) (wanted_t hF rfl rfl rfl hc6) rfl fun a hF=>?_
       obtain ⟨t_13,ht_13,hj5⟩:=bindS hj5
       refine q_callg (vs:=[s12.v]) hF hS (wanted_t hF rfl rfl rfl hc6) Try.func83 (by kernel_rfl) rfl rfl rfl (c_spec_tSum e_10 t_13 ht_13 _ m hS.vis s12 h12) ?_
       rintro a w _ rfl hF hS
       refine q_xg (v:=(.bool (t_13 == 1))) hF hS (ex_ibin rfl rfl rfl) (wanted_t hF rfl rfl rfl hc6) rfl fun a hF=>q_xg (v:=(.bool (t_13 == 1))) hF hS (ex_move rfl) (wanted_t hF rfl rfl rfl hc6) rfl fun a hF=>?_
       rcases bcase (t_13 == 1) with hc7 | hc7
       ·have hj5:=cond_f hc7 hj5
        refine q_xg (v:=s1.v) hF hS (ex_move rfl) (wanted_t hF rfl rfl rfl hc7) rfl fun a hF=>q_xg (v:=(iV t_7)) hF hS (ex_move rfl) (wanted_t hF rfl rfl rfl hc7) rfl fun a hF=>?_
        obtain ⟨t_14,ht_14,hj5⟩:=bindS hj5
        refine q_callg (vs:=[s1.v,(iV t_7)]) hF hS (wanted_t hF rfl rfl rfl hc7) Try.func162 (by kernel_rfl) rfl rfl rfl (c_spec_tColumn p_p t_7 t_14 ht_14 _ m hS.vis s1 h1) ?_
        rintro a w _ ⟨q16,s16,rfl,hR15,h16⟩ hF hS2
        have hS : St _ _ _ _ [q16]:=hS.joinF hR15
        obtain ⟨m18,hl18,hv18,hz18⟩:=hS.lend
        obtain ⟨t_17,ht_17,hj5⟩:=bindS hj5
        refine q_callg (vs:=[s16.v]) hF hS (wanted_t hF rfl rfl rfl hc7) Try.func83 (by kernel_rfl) rfl rfl rfl (c_spec_tSum t_14 t_17 ht_17 _ m18 hv18 s16 (h16.froz hl18 (hz18 0 _ rfl))) ?_
        rintro a w _ rfl hF hS
        refine q_xg (v:=(.bool (t_17 == 1))) hF hS (ex_ibin rfl rfl rfl) (wanted_t hF rfl rfl rfl hc7) rfl fun a hF=>q_xg (v:=(.bool (t_17 == 1))) hF hS (ex_pick_f rfl rfl hc7) (wanted_t hF rfl rfl rfl hc6) rfl fun a hF=>q_x (v:=(.bool (t_17 == 1))) hF hS (ex_pick_t rfl rfl hc6) rfl rfl fun a hF=>q_end (n_jn ?_)
        obtain rfl:=someI hj5
        exact ⟨hF.sub ⟨rfl,rfl,rfl,rfl,rfl,rfl,rfl,rfl,rfl,trivial⟩,hS.mask [false]⟩
       ·have hj5:=cond_t hc7 hj5
        refine q_skip hF (wanted_f hF rfl rfl rfl hc7 rfl) rfl fun a hF=>q_skip hF (wanted_f hF rfl rfl rfl hc7 rfl) rfl fun a hF=>q_skip hF (wanted_f hF rfl rfl rfl hc7 rfl) rfl fun a hF=>q_skip hF (wanted_f hF rfl rfl rfl hc7 rfl) rfl fun a hF=>q_skip hF (wanted_f hF rfl rfl rfl hc7 rfl) rfl fun a hF=>q_xg (v:=(.bool true)) hF hS (ex_pick_t rfl rfl hc7) (wanted_t hF rfl rfl rfl hc6) rfl fun a hF=>q_x (v:=(.bool true)) hF hS (ex_pick_t rfl rfl hc6) rfl rfl fun a hF=>q_end (n_jn ?_)
        obtain rfl:=someI hj5
        exact ⟨hF.sub ⟨rfl,rfl,rfl,rfl,rfl,rfl,rfl,rfl,rfl,trivial⟩,hS⟩
     ·rintro a w ⟨hF,hS⟩
      refine n_sq ?_
      rcases bcase (t_19) with hc8 | hc8
      ·have hb3:=cond_f hc8 hb3
       refine q_cond_f hF rfl hc8 (q_skipc (n_ib (n_sq (q_region (q_x (v:=(iV (w64 (t_7 + 1)))) hF hS (ex_ibin rfl rfl rfl) rfl rfl fun a hF=>q_x (v:=(iV (w64 (t_7 + 1)))) hF hS (ex_move rfl) rfl rfl fun a hF=>q_end ?_)))))
       obtain rfl:=someI hb3
       exact ⟨rfl,hF.sub ⟨rfl,rfl,rfl,rfl,rfl,rfl,rfl,rfl,trivial⟩,hS⟩
      ·have hb3:=cond_t hc8 hb3
       refine q_cond_t hF rfl hc8 (q_seq (q_region (q_x (v:=(.bool true)) hF hS (ex_assign rfl) rfl rfl fun a hF=>q_end (n_sq (q_ret (r_ib (r_sq ?_)))))))
       obtain rfl:=someI hb3
       refine ⟨nofun,.inr fun ho=>?_⟩
       subst ho
       refine r_ib (r_ib (r_sq ?_))
       obtain rfl:=someI hb1
       refine ⟨nofun,.inr fun ho=>?_⟩
       subst ho
       refine r_ib (r_sq ?_)
       obtain rfl:=someI hr
       exact ret_of hF hS rfl (.tmp rfl .nil) rfl
   ·rintro e a w ⟨rfl,rfl,hF,hS⟩
    refine x_ib (n_ib (n_sq ?_))
    refine q_region (q_x (v:=(iV (w64 (t_3 + 1)))) hF hS (ex_ibin rfl rfl rfl) rfl rfl fun a hF=>q_x (v:=(iV (w64 (t_3 + 1)))) hF hS (ex_move rfl) rfl rfl fun a hF=>q_end ?_)
    obtain rfl:=someI hb1
    exact ⟨rfl,hF.sub ⟨rfl,rfl,rfl,rfl,trivial⟩,hS⟩
 ·rintro e a w ⟨rfl,rfl,hF,hS⟩
  refine x_ib (n_sq ?_)
  refine q_seq (q_region (q_x (v:=(.bool false)) hF hS (ex_assign rfl) rfl rfl fun a hF=>q_end (n_sq (q_ret ?_))))
  obtain rfl:=someI hr
  exact ret_of hF hS rfl (.tmp rfl .nil) rfl

theorem c_spec_NeedsPartners (p_x : List (List Int)) (p_p : List (List Int)) (p_primary : List (List Int)) (r : Bool × Bool) (hr : spec_NeedsPartners p_x p_p p_primary = some r) (w0 : World) (m : Mem) (hv : Vis m w0) (s1 : Sl) (h1 : Rd m s1 p_x) (s2 : Sl) (h2 : Rd m s2 p_p) (s3 : Sl) (h3 : Rd m s3 p_primary) :
  Ret Try.prog 39 [s1.v,s2.v,s3.v] w0 (fun v _=>v = (.tuple #[(.bool r.1),(.bool r.2)])):=by
 unfold spec_NeedsPartners at hr
 refine ret_start Try.func39 rfl 16 rfl rfl m hv fun a hF hS=>q_seq (q_region (q_x (v:=(.bool false)) hF hS (ex_assign rfl) rfl rfl fun a hF=>q_x (v:=(.bool false)) hF hS (ex_assign rfl) rfl rfl fun a hF=>q_end (n_sq (q_seq (q_seq (q_region (q_x (v:=s1.v) hF hS (ex_move rfl) rfl rfl fun a hF=>q_x (v:=s2.v) hF hS (ex_move rfl) rfl rfl fun a hF=>q_x (v:=s3.v) hF hS (ex_move rfl) rfl rfl fun a hF=>?_)))))))
 obtain ⟨t_4,ht_4,hr⟩:=bindS hr
 refine q_call (vs:=[s1.v,s2.v,s3.v]) hF hS Try.func115 (by kernel_rfl) rfl rfl rfl (c_spec_vInput p_x p_p p_primary t_4 ht_4 _ m hS.vis s1 h1 s2 h2 s3 h3) ?_
 rintro a w _ rfl hF hS
 refine q_x (v:=(.bool (!t_4))) hF hS (ex_not rfl) rfl rfl fun a hF=>q_end (n_sq ?_)
 rcases bcase (!t_4) with hc1 | hc1
 ·have hr:=cond_f hc1 hr
  refine q_cond_f hF rfl hc1 (q_skipc (n_sq (q_seq (q_region (q_x (v:=s2.v) hF hS (ex_move rfl) rfl rfl fun a hF=>q_x (v:=s3.v) hF hS (ex_move rfl) rfl rfl fun a hF=>?_)))))
  obtain ⟨t_5,ht_5,hr⟩:=bindS hr
  refine q_call (vs:=[s2.v,s3.v]) hF hS Try.func116 (by kernel_rfl) rfl rfl rfl (c_spec_vAlone p_p p_primary t_5 ht_5 _ m hS.vis s2 h2 s3 h3) ?_
  rintro a w _ rfl hF hS
  refine q_x (v:=(.bool t_5)) hF hS (ex_assign rfl) rfl rfl fun a hF=>q_x (v:=(.bool true)) hF hS (ex_assign rfl) rfl rfl fun a hF=>q_end (n_sq (q_ret ?_))
  obtain rfl:=someI hr
  exact ret_of hF hS rfl (.tmp rfl (.tmp rfl .nil)) rfl
 ·have hr:=cond_t hc1 hr
  refine q_cond_t hF rfl hc1 (q_seq (q_region (q_x (v:=(.bool false)) hF hS (ex_assign rfl) rfl rfl fun a hF=>q_x (v:=(.bool false)) hF hS (ex_assign rfl) rfl rfl fun a hF=>q_end (n_sq (q_ret (r_sq ?_))))))
  obtain rfl:=someI hr
  exact ret_of hF hS rfl (.tmp rfl (.tmp rfl .nil)) rfl

theorem c_impl_SafeMargin (p_x : List (List Int)) (p_p : List (List Int)) (p_i : Int) (p_j : Int) (r : Int × Int × Bool) (hr : impl_SafeMargin p_x p_p p_i p_j = some r) (w0 : World) (m : Mem) (hv : Vis m w0) (s1 : Sl) (h1 : Rd m s1 p_x) (s2 : Sl) (h2 : Rd m s2 p_p) :
  Ret Try.prog 40 [s1.v,s2.v,(iV p_i),(iV p_j)] w0 (fun v _=>v = (.tuple #[(iV r.1),(iV r.2.1),(.bool r.2.2)])):=by
 unfold impl_SafeMargin at hr
 refine ret_start Try.func40 rfl 52 rfl rfl m hv fun a hF hS=>q_seq (q_region (q_x (v:=(iV 0)) hF hS (ex_assign rfl) rfl rfl fun a hF=>q_x (v:=(iV 0)) hF hS (ex_assign rfl) rfl rfl fun a hF=>q_x (v:=(.bool false)) hF hS (ex_assign rfl) rfl rfl fun a hF=>q_end (n_sq (q_seq (q_seq ?_)))))
 obtain ⟨t_5,hj1,hr⟩:=bindS hr
 refine q_join (fun a w=>Fr a 52 [(0,s1.v),(1,s2.v),(2,(iV p_i)),(3,(iV p_j)),(23,(.bool t_5))]∧St [] w0 w m []) ?_ ?_
 ·refine q_region (q_x (v:=s1.v) hF hS (ex_move rfl) rfl rfl fun a hF=>q_x (v:=s2.v) hF hS (ex_move rfl) rfl rfl fun a hF=>?_)
  obtain ⟨t_3,ht_3,hj1⟩:=bindS hj1
  refine q_call (vs:=[s1.v,s2.v]) hF hS Try.func95 (by kernel_rfl) rfl rfl rfl (c_impl_areSuppressed p_x p_p t_3 ht_3 _ m hS.vis s1 h1 s2 h2) ?_
  rintro a w _ rfl hF hS
  refine q_x (v:=(.bool (!t_3))) hF hS (ex_not rfl) rfl rfl fun a hF=>q_x (v:=(.bool (!t_3))) hF hS (ex_move rfl) rfl rfl fun a hF=>?_
  rcases bcase (!t_3) with hc2 | hc2
  ·have hj1:=cond_f hc2 hj1
   refine q_xg (v:=s2.v) hF hS (ex_move rfl) (wanted_t hF rfl rfl rfl hc2) rfl fun a hF=>q_xg (v:=(iV p_i)) hF hS (ex_move rfl) (wanted_t hF rfl rfl rfl hc2) rfl fun a hF=>q_xg (v:=(iV p_j)) hF hS (ex_move rfl) (wanted_t hF rfl rfl rfl hc2) rfl fun a hF=>?_
   obtain ⟨t_4,ht_4,hj1⟩:=bindS hj1
   refine q_callg (vs:=[s2.v,(iV p_i),(iV p_j)]) hF hS (wanted_t hF rfl rfl rfl hc2) Try.func108 (by kernel_rfl) rfl rfl rfl (c_impl_isHidden p_p p_i p_j t_4 ht_4 _ m hS.vis s2 h2) ?_
   rintro a w _ rfl hF hS
   refine q_xg (v:=(.bool (!t_4))) hF hS (ex_not rfl) (wanted_t hF rfl rfl rfl hc2) rfl fun a hF=>q_x (v:=(.bool (!t_4))) hF hS (ex_pick_f rfl rfl hc2) rfl rfl fun a hF=>q_end (n_jn ?_)
   obtain rfl:=someI hj1
   exact ⟨hF.sub ⟨rfl,rfl,rfl,rfl,rfl,trivial⟩,hS⟩
  ·have hj1:=cond_t hc2 hj1
   refine q_skip hF (wanted_f hF rfl rfl rfl hc2 rfl) rfl fun a hF=>q_skip hF (wanted_f hF rfl rfl rfl hc2 rfl) rfl fun a hF=>q_skip hF (wanted_f hF rfl rfl rfl hc2 rfl) rfl fun a hF=>q_skip hF (wanted_f hF rfl rfl rfl hc2 rfl) rfl fun a hF=>q_skip hF (wanted_f hF rfl rfl rfl hc2 rfl) rfl fun a hF=>q_x (v:=(.bool true)) hF hS (ex_pick_t rfl rfl hc2) rfl rfl fun a hF=>q_end (n_jn ?_)
   obtain rfl:=someI hj1
   exact ⟨hF.sub ⟨rfl,rfl,rfl,rfl,rfl,trivial⟩,hS⟩
 ·rintro a w ⟨hF,hS⟩
  refine n_sq ?_
  rcases bcase (t_5) with hc3 | hc3
  ·have hr:=cond_f hc3 hr
   refine q_cond_f hF rfl hc3 (q_skipc (n_sq (q_seq (q_region (q_x (v:=s1.v) hF hS (ex_move rfl) rfl rfl fun a hF=>q_x (v:=s2.v) hF hS (ex_move rfl) rfl rfl fun a hF=>?_)))))
   obtain ⟨t_6,ht_6,hr⟩:=bindS hr
   refine q_call (vs:=[s1.v,s2.v]) hF hS Try.func97 (by kernel_rfl) rfl rfl rfl (c_impl_attackNetwork p_x p_p t_6 ht_6 _ m hS.vis s1 h1 s2 h2) ?_
   rintro a w _ ⟨q8,q9,q10,q11,s8,s9,s10,s11,rfl,hR7,h8,h9,h10,h11⟩ hF hS2
   have hS : St _ _ _ _ [q8,q9,q10,q11]:=hS.joinF hR7
   refine q_x (v:=s1.v) hF hS (ex_move rfl) rfl rfl fun a hF=>q_x (v:=(iV p_i)) hF hS (ex_move rfl) rfl rfl fun a hF=>q_x (v:=(iV p_j)) hF hS (ex_move rfl) rfl rfl fun a hF=>?_
   obtain ⟨m13,hl13,hv13,hz13⟩:=hS.lend
   obtain ⟨t_12,ht_12,hr⟩:=bindS hr
   refine q_call (vs:=[(.agg #[s8.v,s9.v,s10.v,s11.v]),s1.v,(iV p_i),(iV p_j)]) hF hS Try.func101 (by kernel_rfl) rfl rfl rfl (c_impl_rangeOf t_6 p_x p_i p_j t_12 ht_12 _ m13 hv13 s8 (h8.froz hl13 (hz13 0 _ rfl)) s9 (h9.froz hl13 (hz13 1 _ rfl)) s10 (h10.froz hl13 (hz13 2 _ rfl)) s11 (h11.froz hl13 (hz13 3 _ rfl)) s1 (h1.mono hl13)) ?_
   rintro a w _ rfl hF hS
   refine q_x (v:=(.tuple #[(iV t_12.1),(iV t_12.2)])) hF hS (ex_move rfl) rfl rfl fun a hF=>q_x (v:=(iV t_12.1)) hF hS (ex_extract rfl rfl) rfl rfl fun a hF=>q_x (v:=(iV t_12.2)) hF hS (ex_extract rfl rfl) rfl rfl fun a hF=>q_x (v:=(iV t_12.1)) hF hS (ex_assign rfl) rfl rfl fun a hF=>q_x (v:=(iV t_12.2)) hF hS (ex_assign rfl) rfl rfl fun a hF=>q_end (n_sq (q_seq (e_region ⟨[],[],m⟩ mixed fun w' hw'=>?_)))
   have hS:=hS.below hw'
   refine e_p (v:=s1.v) 0 hF rfl (ex_move rfl) rfl rfl (by kernel_rfl) (by kernel_rfl) (by kernel_rfl) fun a hF=>e_p (v:=(iV p_i)) 1 hF rfl (ex_move rfl) rfl rfl (by kernel_rfl) (by kernel_rfl) (by kernel_rfl) fun a hF=>?_
   obtain ⟨e_14,he_14,hr⟩:=bindS hr
   obtain ⟨vs15,at15,d15⟩:=h1.at he_14 1 rfl
   obtain ⟨s16,rfl,h16⟩ : ∃ s16 : Sl,vs15 = [s16.v]∧Rd m s16 e_14:=d15
   refine e_p (v:=(elP s1 (p_i.toNat * 1))) 2 hF rfl (ex_indexAddr Try.underlying23 sz28 rfl rfl (h1.idx he_14)) rfl rfl (by kernel_rfl) (by kernel_rfl) (by kernel_rfl) fun a hF=>e_xm (v:=s16.v) 3 hF hS (Mem.le.refl _) rfl (ex_loadE1 0 Try.underlying28 rfl rfl ((at15).at) rfl rfl) rfl rfl (by kernel_rfl) (by kernel_rfl) (by kernel_rfl) fun a hF=>e_p (v:=(iV p_j)) 4 hF rfl (ex_move rfl) rfl rfl (by kernel_rfl) (by kernel_rfl) (by kernel_rfl) fun a hF=>?_
   obtain ⟨e_17,he_17,hr⟩:=bindS hr
   obtain ⟨vs18,at18,d18⟩:=h16.at he_17 1 rfl
   obtain rfl : vs18 = [(iV e_17)]:=d18
   refine e_p (v:=(elP s16 (p_j.toNat * 1))) 5 hF rfl (ex_indexAddr Try.underlying28 sz3 rfl rfl (h16.idx he_17)) rfl rfl (by kernel_rfl) (by kernel_rfl) (by kernel_rfl) fun a hF=>e_xm (v:=(iV e_17)) 6 hF hS (Mem.le.refl _) rfl (ex_loadE1 0 Try.underlying3 rfl rfl ((at18).at) rfl rfl) rfl rfl (by kernel_rfl) (by kernel_rfl) (by kernel_rfl) fun a hF=>e_p (v:=(iV t_12.1)) 7 hF rfl (ex_move rfl) rfl rfl (by kernel_rfl) (by kernel_rfl) (by kernel_rfl) fun a hF=>e_p (v:=(iV (w64 (e_17 - t_12.1)))) 8 hF rfl (ex_ibin rfl rfl rfl) rfl rfl (by kernel_rfl) (by kernel_rfl) (by kernel_rfl) fun a hF=>e_p (v:=(iV t_12.2)) 9 hF rfl (ex_move rfl) rfl rfl (by kernel_rfl) (by kernel_rfl) (by kernel_rfl) fun a hF=>e_p (v:=s1.v) 10 hF rfl (ex_move rfl) rfl rfl (by kernel_rfl) (by kernel_rfl) (by kernel_rfl) fun a hF=>e_p (v:=(iV p_i)) 11 hF rfl (ex_move rfl) rfl rfl (by kernel_rfl) (by kernel_rfl) (by kernel_rfl) fun a hF=>?_
   obtain ⟨e_19,he_19,hr⟩:=bindS hr
   obtain ⟨vs20,at20,d20⟩:=h1.at he_19 1 rfl
   obtain ⟨s21,rfl,h21⟩ : ∃ s21 : Sl,vs20 = [s21.v]∧Rd m s21 e_19:=d20
   refine e_p (v:=(elP s1 (p_i.toNat * 1))) 12 hF rfl (ex_indexAddr Try.underlying23 sz28 rfl rfl (h1.idx he_19)) rfl rfl (by kernel_rfl) (by kernel_rfl) (by kernel_rfl) fun a hF=>e_xm (v:=s21.v) 13 hF hS (Mem.le.refl _) rfl (ex_loadE1 0 Try.underlying28 rfl rfl ((at20).at) rfl rfl) rfl rfl (by kernel_rfl) (by kernel_rfl) (by kernel_rfl) fun a hF=>e_p (v:=(iV p_j)) 14 hF rfl (ex_move rfl) rfl rfl (by kernel_rfl) (by kernel_rfl) (by kernel_rfl) fun a hF=>?_
   obtain ⟨e_22,he_22,hr⟩:=bindS hr
   obtain ⟨vs23,at23,d23⟩:=h21.at he_22 1 rfl
   obtain rfl : vs23 = [(iV e_22)]:=d23
   refine e_p (v:=(elP s21 (p_j.toNat * 1))) 15 hF rfl (ex_indexAddr Try.underlying28 sz3 rfl rfl (h21.idx he_22)) rfl rfl (by kernel_rfl) (by kernel_rfl) (by kernel_rfl) fun a hF=>e_xm (v:=(iV e_22)) 16 hF hS (Mem.le.refl _) rfl (ex_loadE1 0 Try.underlying3 rfl rfl ((at23).at) rfl rfl) rfl rfl (by kernel_rfl) (by kernel_rfl) (by kernel_rfl) fun a hF=>e_p (v:=(iV (w64 (t_12.2 - e_22)))) 17 hF rfl (ex_ibin rfl rfl rfl) rfl rfl (by kernel_rfl) (by kernel_rfl) (by kernel_rfl) fun a hF=>e_p (v:=(iV (w64 (e_17 - t_12.1)))) 18 hF rfl (ex_assign rfl) rfl rfl (by kernel_rfl) (by kernel_rfl) (by kernel_rfl) fun a hF=>e_p (v:=(iV (w64 (t_12.2 - e_22)))) 19 hF rfl (ex_assign rfl) rfl rfl (by kernel_rfl) (by kernel_rfl) (by kernel_rfl) fun a hF=>e_p (v:=(.bool true)) 20 hF rfl (ex_assign rfl) rfl rfl (by kernel_rfl) (by kernel_rfl) (by kernel_rfl) fun a hF=>e_end (by kernel_rfl) (n_sq (q_ret ?_)) _
   obtain rfl:=someI hr
   exact ret_of hF hS rfl (.tmp rfl (.tmp rfl (.tmp rfl .nil))) rfl
  ·have hr:=cond_t hc3 hr
   refine q_cond_t hF rfl hc3 (q_seq (q_region (q_x (v:=(iV 0)) hF hS (ex_assign rfl) rfl rfl fun a hF=>q_x (v:=(iV 0)) hF hS (ex_assign rfl) rfl rfl fun a hF=>q_x (v:=(.bool false)) hF hS (ex_assign rfl) rfl rfl fun a hF=>q_end (n_sq (q_ret (r_sq ?_))))))
   obtain rfl:=someI hr
   exact ret_of hF hS rfl (.tmp rfl (.tmp rfl (.tmp rfl .nil))) rfl

theorem c_impl_total (p_l : List Int) (r : Int) (hr : impl_total p_l = some r) (w0 : World) (m : Mem) (hv : Vis m w0) (s1 : Sl) (h1 : Rd m s1 p_l) :
  Ret Try.prog 80 [s1.v] w0 (fun v _=>v = (iV r)):=by
 unfold impl_total at hr
 refine ret_start Try.func80 rfl 17 rfl rfl m hv fun a hF hS=>q_seq (q_region (q_x (v:=(iV 0)) hF hS (ex_assign rfl) rfl rfl fun a hF=>q_end (n_sq (q_seq (q_region (q_x (v:=(iV 0)) hF hS (ex_assign rfl) rfl rfl fun a hF=>q_end (n_sq (q_seq (q_seq (q_region (q_x (v:=s1.v) hF hS (ex_move rfl) rfl rfl fun a hF=>q_x (v:=(iV (goLen p_l))) hF hS (ex_len Try.underlying28 rfl h1.len) rfl rfl fun a hF=>q_x (v:=(iV 0)) hF hS (ex_move rfl) rfl rfl fun a hF=>q_end (n_sq (q_block ?_)))))))))))))
 obtain ⟨sum_6,hl1,hr⟩:=bindS hr
 refine q_loop (fun (s : Int × Int) a w=>∃ sum_2,∃ t_3,s = (sum_2,t_3)∧Fr a 17 [(3,(iV sum_2)),(6,s1.v),(7,(iV (goLen p_l))),(8,(iV t_3))]∧St [] w0 w m []) (fun (sum_6 : Int) e a w=>e = .exit 0∧Fr a 17 [(3,(iV sum_6))]∧St [] w0 w m []) hl1 ⟨_,_,rfl,hF.sub ⟨rfl,rfl,rfl,rfl,trivial⟩,hS⟩ ?_ ?_
 ·clear hF hS
  rintro s a w st ⟨sum_2,t_3,rfl,hF,hS⟩ hb1
  unfold impl_total_l1 at hb1
  refine q_seq (q_region (q_x (v:=(.bool (decide (t_3 < (goLen p_l))))) hF hS (ex_ibin rfl rfl rfl) rfl rfl fun a hF=>q_end (n_sq (q_seq ?_))))
  rcases bcase (decide (t_3 < (goLen p_l))) with hc2 | hc2
  ·have hb1:=cond_f hc2 hb1
   refine q_cond_f hF rfl hc2 (q_exit (x_sq ?_))
   obtain rfl:=someI hb1
   exact ⟨nofun,.inl ⟨rfl,hF.sub ⟨rfl,trivial⟩,hS⟩⟩
  ·have hb1:=cond_t hc2 hb1
   refine q_cond_t hF rfl hc2 (q_skipc (n_sq (q_seq (q_block (q_seq (q_region ?_))))))
   obtain ⟨e_4,he_4,hb1⟩:=bindS hb1
   obtain ⟨vs5,at5,d5⟩:=h1.at he_4 1 rfl
   obtain rfl : vs5 = [(iV e_4)]:=d5
   refine q_x (v:=(elP s1 (t_3.toNat * 1))) hF hS (ex_indexAddr Try.underlying28 sz3 rfl rfl (h1.idx he_4)) rfl rfl fun a hF=>q_x (v:=(iV e_4)) hF hS (ex_loadE1 0 Try.underlying3 rfl rfl ((at5).at) rfl rfl) rfl rfl fun a hF=>q_x (v:=(iV e_4)) hF hS (ex_assign rfl) rfl rfl fun a hF=>q_end (n_sq (q_region (q_x (v:=(iV sum_2)) hF hS (ex_move rfl) rfl rfl fun a hF=>q_x (v:=(iV e_4)) hF hS (ex_move rfl) rfl rfl fun a hF=>q_x (v:=(iV (w64 (sum_2 + e_4)))) hF hS (ex_ibin rfl rfl rfl) rfl rfl fun a hF=>q_x (v:=(iV (w64 (sum_2 + e_4)))) hF hS (ex_assign rfl) rfl rfl fun a hF=>q_end (n_ib (n_sq (q_region (q_x (v:=(iV (w64 (t_3 + 1)))) hF hS (ex_ibin rfl rfl rfl) rfl rfl fun a hF=>q_x (v:=(iV (w64 (t_3 + 1)))) hF hS (ex_move rfl) rfl rfl fun a hF=>q_end ?_)))))))
   obtain rfl:=someI hb1
   exact ⟨rfl,_,_,rfl,hF.sub ⟨rfl,rfl,rfl,rfl,trivial⟩,hS⟩
 ·rintro e a w ⟨rfl,hF,hS⟩
  refine x_ib (n_sq ?_)
  refine q_seq (q_region (q_x (v:=(iV sum_6)) hF hS (ex_move rfl) rfl rfl fun a hF=>q_x (v:=(iV sum_6)) hF hS (ex_assign rfl) rfl rfl fun a hF=>q_end (n_sq (q_ret ?_))))
  obtain rfl:=someI hr
  exact ret_of hF hS rfl (.tmp rfl .nil) rfl

theorem c_impl_restore (p_t : impl_Transport) (p_x : List (List Int)) (p_r : List (List Int)) (p_fixed : Int) (r : (List (List Int))) (hr : impl_restore p_t p_x p_r p_fixed = some r) (w0 : World) (m : Mem) (hv : Vis m w0) (s1 : Sl) (h1 : Rd m s1 p_t.Rows) (s2 : Sl) (h2 : Rd m s2 p_t.Cols) (s3 : Sl) (h3 : Rd m s3 p_t.Lo) (s4 : Sl) (h4 : Rd m s4 p_t.Hi) (s5 : Sl) (h5 : Rd m s5 p_x) (s6 : Sl) (h6 : Rd m s6 p_r) :
  Ret Try.prog 169 [(.agg #[s1.v,s2.v,s3.v,s4.v]),s5.v,s6.v,(iV p_fixed)] w0 (fun v w=>∃ (q0' : Piece) (s0' : Sl),v = s0'.v∧St [] w0 w m [q0']∧OwnD m 28 3 q0' s0' r∧NF s0' r):=by
 unfold impl_restore at hr
 refine ret_start Try.func169 rfl 69 rfl rfl m hv fun a hF hS=>q_seq (q_region (q_box (cs:=[s1.v,s2.v,s3.v,s4.v]) hF hS rfl rfl rfl fun a w b7 hF hS=>q_x (v:=nilS.v) hF hS (ex_assign rfl) rfl rfl fun a hF=>q_end (n_sq (q_seq (e_region ⟨[],[],m⟩ mixed fun w' hw'=>?_)))))
 have hS:=hS.below hw'
 refine e_p (v:=(.pointer (some ⟨b7,0,none⟩))) 0 hF rfl (ex_fieldAddr Try.underlying50 rfl sz28 rfl rfl) rfl rfl (by kernel_rfl) (by kernel_rfl) (by kernel_rfl) fun a hF=>e_x (v:=s1.v) 1 hF hS rfl (ex_load1 0 0 Try.underlying28 rfl rfl rfl rfl) rfl rfl (by kernel_rfl) (by kernel_rfl) (by kernel_rfl) (by kernel_rfl) fun a hF=>e_p (v:=(iV (goLen p_t.Rows))) 2 hF rfl (ex_len Try.underlying28 rfl h1.len) rfl rfl (by kernel_rfl) (by kernel_rfl) (by kernel_rfl) fun a hF=>e_p (v:=(.pointer (some ⟨b7,1,none⟩))) 3 hF rfl (ex_fieldAddr Try.underlying50 rfl sz28 rfl rfl) rfl rfl (by kernel_rfl) (by kernel_rfl) (by kernel_rfl) fun a hF=>e_x (v:=s2.v) 4 hF hS rfl (ex_load1 0 0 Try.underlying28 rfl rfl rfl rfl) rfl rfl (by kernel_rfl) (by kernel_rfl) (by kernel_rfl) (by kernel_rfl) fun a hF=>e_p (v:=(iV (goLen p_t.Cols))) 5 hF rfl (ex_len Try.underlying28 rfl h2.len) rfl rfl (by kernel_rfl) (by kernel_rfl) (by kernel_rfl) fun a hF=>e_p (v:=(iV (goLen p_t.Rows))) 6 hF rfl (ex_assign rfl) rfl rfl (by kernel_rfl) (by kernel_rfl) (by kernel_rfl) fun a hF=>e_p (v:=(iV (goLen p_t.Cols))) 7 hF rfl (ex_assign rfl) rfl rfl (by kernel_rfl) (by kernel_rfl) (by kernel_rfl) fun a hF=>e_end (by kernel_rfl) (n_sq ?_) _
 refine q_seq (q_region (q_x (v:=s5.v) hF hS (ex_move rfl) rfl rfl fun a hF=>?_))
 obtain ⟨t_8,ht_8,hr⟩:=bindS hr
 refine q_call (vs:=[s5.v]) hF hS Try.func75 (by kernel_rfl) rfl rfl rfl (c_impl_copyMatrix p_x t_8 ht_8 _ m hS.vis s5 h5) ?_
 rintro a w _ ⟨q10,s10,rfl,hR9,h10,h10n⟩ hF hS2
 have hS : St _ _ _ _ [q10,[⟨b7,[s1.v,s2.v,s3.v,s4.v],50⟩]]:=hS.joinF hR9
 refine q_x (v:=s10.v) hF hS (ex_assign rfl) rfl rfl fun a hF=>q_end (n_sq (q_seq (q_seq (q_region (q_x (v:=s10.v) hF hS (ex_move rfl) rfl rfl fun a hF=>q_x (v:=(iV (goLen t_8))) hF hS (ex_len Try.underlying23 rfl h10.len) rfl rfl fun a hF=>q_x (v:=(iV 0)) hF hS (ex_move rfl) rfl rfl fun a hF=>q_end (n_sq (q_block ?_)))))))
 obtain ⟨out_38,hl1,hr⟩:=bindS hr
 refine q_loop (fun (s : (List (List Int)) × Int) a w=>∃ (q12 : Piece),∃ out_11,∃ t_13,s = (out_11,t_13)∧Fr a 69 [(2,s6.v),(3,(iV p_fixed)),(4,(.pointer (some ⟨b7,0,none⟩))),(9,(iV (goLen p_t.Rows))),(10,(iV (goLen p_t.Cols))),(11,s10.v),(23,(iV (goLen t_8))),(24,(iV t_13))]∧St [] w0 w m [q12,[⟨b7,[s1.v,s2.v,s3.v,s4.v],50⟩]]∧OwnD m 28 3 q12 s10 out_11∧NF s10 out_11) (fun (out_38 : (List (List Int))) e a w=>∃ (q39 : Piece),e = .exit 0∧Fr a 69 [(11,s10.v)]∧St [] w0 w m [q39]∧OwnD m 28 3 q39 s10 out_38∧NF s10 out_38) hl1 ⟨q10,_,_,rfl,hF.sub ⟨rfl,rfl,rfl,rfl,rfl,rfl,rfl,rfl,trivial⟩,hS,h10,h10n⟩ ?_ ?_
 ·clear hF hS
  rintro s a w st ⟨q12,out_11,t_13,rfl,hF,hS,h12,h12n⟩ hb1
  unfold impl_restore_l1 at hb1
  refine q_seq (q_region (q_x (v:=(.bool (decide (t_13 < (goLen t_8))))) hF hS (ex_ibin rfl rfl rfl) rfl rfl fun a hF=>q_end (n_sq (q_seq ?_))))
  rcases bcase (decide (t_13 < (goLen t_8))) with hc2 | hc2
  ·have hb1:=cond_f hc2 hb1
   refine q_cond_f hF rfl hc2 (q_exit (x_sq ?_))
   obtain rfl:=someI hb1
   exact ⟨nofun,.inl ⟨q12,rfl,hF.sub ⟨rfl,trivial⟩,hS.mask [true,false],h12,h12n⟩⟩
  ·have hb1:=cond_t hc2 hb1
   refine q_cond_t hF rfl hc2 (q_skipc (n_sq (q_seq (q_block (q_seq (q_region (q_x (v:=(iV t_13)) hF hS (ex_move rfl) rfl rfl fun a hF=>q_x (v:=(iV t_13)) hF hS (ex_assign rfl) rfl rfl fun a hF=>q_end (n_sq (q_seq (q_region (q_x (v:=s10.v) hF hS (ex_move rfl) rfl rfl fun a hF=>q_x (v:=(iV t_13)) hF hS (ex_move rfl) rfl rfl fun a hF=>?_)))))))))))
   obtain ⟨e_14,he_14,hb1⟩:=bindS hb1
   obtain ⟨s15,hV15⟩:=h12.view he_14
   refine q_x (v:=(elP s10 (t_13.toNat * 1))) hF hS (ex_indexAddr Try.underlying23 sz28 rfl rfl (h12.idx he_14)) rfl rfl fun a hF=>q_x (v:=s15.v) hF hS (ex_loadE1 0 Try.underlying28 rfl rfl ((hV15.atH he_14).at 0 rfl) rfl rfl) rfl rfl fun a hF=>q_x (v:=(iV (goLen e_14))) hF hS (ex_len Try.underlying28 rfl (hV15.len he_14)) rfl rfl fun a hF=>q_x (v:=(iV 0)) hF hS (ex_move rfl) rfl rfl fun a hF=>q_end (n_sq (q_block ?_))
   obtain ⟨out_36,hl3,hb1⟩:=bindS hb1
   refine q_loop (fun (s : (List (List Int)) × Int) a w=>∃ (q17 : Piece),∃ out_16,∃ t_18,s = (out_16,t_18)∧Fr a 69 [(2,s6.v),(3,(iV p_fixed)),(4,(.pointer (some ⟨b7,0,none⟩))),(9,(iV (goLen p_t.Rows))),(10,(iV (goLen p_t.Cols))),(11,s10.v),(12,(iV t_13)),(23,(iV (goLen t_8))),(24,(iV t_13)),(31,(iV (goLen e_14))),(32,(iV t_18))]∧St [] w0 w m [q17,[⟨b7,[s1.v,s2.v,s3.v,s4.v],50⟩]]∧OwnD m 28 3 q17 s10 out_16∧NF s10 out_16) (fun (out_36 : (List (List Int))) e a w=>∃ (q37 : Piece),e = .exit 2∧Fr a 69 [(2,s6.v),(3,(iV p_fixed)),(4,(.pointer (some ⟨b7,0,none⟩))),(9,(iV (goLen p_t.Rows))),(10,(iV (goLen p_t.Cols))),(11,s10.v),(23,(iV (goLen t_8))),(24,(iV t_13))]∧St [] w0 w m [q37,[⟨b7,[s1.v,s2.v,s3.v,s4.v],50⟩]]∧OwnD m 28 3 q37 s10 out_36∧NF s10 out_36) hl3 ⟨q12,_,_,rfl,hF.sub ⟨rfl,rfl,rfl,rfl,rfl,rfl,rfl,rfl,rfl,rfl,rfl,trivial⟩,hS,h12,h12n⟩ ?_ ?_
   ·clear hF hS
    rintro s a w st ⟨q17,out_16,t_18,rfl,hF,hS,h17,h17n⟩ hb3
    unfold impl_restore_l2 at hb3
    refine q_seq (q_region (q_x (v:=(.bool (decide (t_18 < (goLen e_14))))) hF hS (ex_ibin rfl rfl rfl) rfl rfl fun a hF=>q_end (n_sq (q_seq ?_))))
    rcases bcase (decide (t_18 < (goLen e_14))) with hc4 | hc4
    ·have hb3:=cond_f hc4 hb3
     refine q_cond_f hF rfl hc4 (q_exit (x_sq ?_))
     obtain rfl:=someI hb3
     exact ⟨nofun,.inl ⟨q17,rfl,hF.sub ⟨rfl,rfl,rfl,rfl,rfl,rfl,rfl,rfl,trivial⟩,hS,h17,h17n⟩⟩
    ·have hb3:=cond_t hc4 hb3
     refine q_cond_t hF rfl hc4 (q_skipc (n_sq (q_seq (q_block (q_seq (q_region (q_x (v:=(iV t_18)) hF hS (ex_move rfl) rfl rfl fun a hF=>q_x (v:=(iV t_18)) hF hS (ex_assign rfl) rfl rfl fun a hF=>q_end (n_sq (q_seq (q_region (q_x (v:=(iV t_13)) hF hS (ex_move rfl) rfl rfl fun a hF=>q_x (v:=(iV (goLen p_t.Cols))) hF hS (ex_move rfl) rfl rfl fun a hF=>q_x (v:=(iV (w64 (t_13 * (goLen p_t.Cols))))) hF hS (ex_ibin rfl rfl rfl) rfl rfl fun a hF=>q_x (v:=(iV t_18)) hF hS (ex_move rfl) rfl rfl fun a hF=>q_x (v:=(iV (w64 ((w64 (t_13 * (goLen p_t.Cols))) + t_18)))) hF hS (ex_ibin rfl rfl rfl) rfl rfl fun a hF=>q_x (v:=(iV p_fixed)) hF hS (ex_move rfl) rfl rfl fun a hF=>q_x (v:=(.bool (decide (p_fixed < (w64 ((w64 (t_13 * (goLen p_t.Cols))) + t_18)))))) hF hS (ex_ibin rfl rfl rfl) rfl rfl fun a hF=>q_end (n_sq ?_))))))))))))
     obtain ⟨out_34,hj5,hb3⟩:=bindS hb3
     refine q_join (fun a w=>∃ (q35 : Piece),Fr a 69 [(2,s6.v),(3,(iV p_fixed)),(4,(.pointer (some ⟨b7,0,none⟩))),(9,(iV (goLen p_t.Rows))),(10,(iV (goLen p_t.Cols))),(11,s10.v),(12,(iV t_13)),(23,(iV (goLen t_8))),(24,(iV t_13)),(31,(iV (goLen e_14))),(32,(iV t_18))]∧St [] w0 w m [q35,[⟨b7,[s1.v,s2.v,s3.v,s4.v],50⟩]]∧OwnD m 28 3 q35 s10 out_34∧NF s10 out_34) ?_ ?_
     ·rcases bcase (decide (p_fixed < (w64 ((w64 (t_13 * (goLen p_t.Cols))) + t_18)))) with hc6 | hc6
      ·have hj5:=cond_f hc6 hj5
       refine q_cond_f hF rfl hc6 (q_skipc (n_jn ?_))
       obtain rfl:=someI hj5
       exact ⟨q17,hF.sub ⟨rfl,rfl,rfl,rfl,rfl,rfl,rfl,rfl,rfl,rfl,rfl,trivial⟩,hS,h17,h17n⟩
      ·have hj5:=cond_t hc6 hj5
       refine q_cond_t hF rfl hc6 (e_region ⟨[24],[b7],m⟩ mixed fun w' hw'=>?_)
       have hS:=hS.below hw'
       refine e_p (v:=s10.v) 0 hF rfl (ex_move rfl) rfl rfl (by kernel_rfl) (by kernel_rfl) (by kernel_rfl) fun a hF=>e_p (v:=(iV t_13)) 1 hF rfl (ex_move rfl) rfl rfl (by kernel_rfl) (by kernel_rfl) (by kernel_rfl) fun a hF=>?_
       obtain ⟨e_19,he_19,hj5⟩:=bindS hj5
       obtain ⟨s20,hV20⟩:=h17.view he_19
       refine e_p (v:=(elP s10 (t_13.toNat * 1))) 2 hF rfl (ex_indexAddr Try.underlying23 sz28 rfl rfl (h17.idx he_19)) rfl rfl (by kernel_rfl) (by kernel_rfl) (by kernel_rfl) fun a hF=>e_x (v:=s20.v) 3 hF hS rfl (ex_loadE1 0 Try.underlying28 rfl rfl ((hV20.atH he_19).at 0 rfl) rfl rfl) rfl rfl (by kernel_rfl) (by kernel_rfl) (by kernel_rfl) (by kernel_rfl) fun a hF=>e_p (v:=(iV t_18)) 4 hF rfl (ex_move rfl) rfl rfl (by kernel_rfl) (by kernel_rfl) (by kernel_rfl) fun a hF=>e_p (v:=(.pointer (some ⟨b7,3,none⟩))) 5 hF rfl (ex_fieldAddr Try.underlying50 rfl sz23 rfl rfl) rfl rfl (by kernel_rfl) (by kernel_rfl) (by kernel_rfl) fun a hF=>e_xb (v:=s4.v) 6 1 hF hS (.head _) rfl rfl (ex_load1 0 0 Try.underlying23 rfl rfl rfl rfl) rfl rfl (by kernel_rfl) (by kernel_rfl) (by kernel_rfl) fun a hF=>e_p (v:=(iV t_13)) 7 hF rfl (ex_move rfl) rfl rfl (by kernel_rfl) (by kernel_rfl) (by kernel_rfl) fun a hF=>?_
       obtain ⟨e_21,he_21,hj5⟩:=bindS hj5
       obtain ⟨vs22,at22,d22⟩:=h4.at he_21 1 rfl
       obtain ⟨s23,rfl,h23⟩ : ∃ s23 : Sl,vs22 = [s23.v]∧Rd m s23 e_21:=d22
       refine e_p (v:=(elP s4 (t_13.toNat * 1))) 8 hF rfl (ex_indexAddr Try.underlying23 sz28 rfl rfl (h4.idx he_21)) rfl rfl (by kernel_rfl) (by kernel_rfl) (by kernel_rfl) fun a hF=>e_xm (v:=s23.v) 9 hF hS (Mem.le.refl _) rfl (ex_loadE1 0 Try.underlying28 rfl rfl ((at22).at) rfl rfl) rfl rfl (by kernel_rfl) (by kernel_rfl) (by kernel_rfl) fun a hF=>e_p (v:=(iV t_18)) 10 hF rfl (ex_move rfl) rfl rfl (by kernel_rfl) (by kernel_rfl) (by kernel_rfl) fun a hF=>?_
       obtain ⟨e_24,he_24,hj5⟩:=bindS hj5
       obtain ⟨vs25,at25,d25⟩:=h23.at he_24 1 rfl
       obtain rfl : vs25 = [(iV e_24)]:=d25
       refine e_p (v:=(elP s23 (t_18.toNat * 1))) 11 hF rfl (ex_indexAddr Try.underlying28 sz3 rfl rfl (h23.idx he_24)) rfl rfl (by kernel_rfl) (by kernel_rfl) (by kernel_rfl) fun a hF=>e_xm (v:=(iV e_24)) 12 hF hS (Mem.le.refl _) rfl (ex_loadE1 0 Try.underlying3 rfl rfl ((at25).at) rfl rfl) rfl rfl (by kernel_rfl) (by kernel_rfl) (by kernel_rfl) fun a hF=>e_p (v:=s6.v) 13 hF rfl (ex_move rfl) rfl rfl (by kernel_rfl) (by kernel_rfl) (by kernel_rfl) fun a hF=>e_p (v:=(iV t_13)) 14 hF rfl (ex_move rfl) rfl rfl (by kernel_rfl) (by kernel_rfl) (by kernel_rfl) fun a hF=>?_
       obtain ⟨e_26,he_26,hj5⟩:=bindS hj5
       obtain ⟨vs27,at27,d27⟩:=h6.at he_26 1 rfl
       obtain ⟨s28,rfl,h28⟩ : ∃ s28 : Sl,vs27 = [s28.v]∧Rd m s28 e_26:=d27
       refine e_p (v:=(elP s6 (t_13.toNat * 1))) 15 hF rfl (ex_indexAddr Try.underlying23 sz28 rfl rfl (h6.idx he_26)) rfl rfl (by kernel_rfl) (by kernel_rfl) (by kernel_rfl) fun a hF=>e_xm (v:=s28.v) 16 hF hS (Mem.le.refl _) rfl (ex_loadE1 0 Try.underlying28 rfl rfl ((at27).at) rfl rfl) rfl rfl (by kernel_rfl) (by kernel_rfl) (by kernel_rfl) fun a hF=>e_p (v:=(iV (goLen p_t.Rows))) 17 hF rfl (ex_move rfl) rfl rfl (by kernel_rfl) (by kernel_rfl) (by kernel_rfl) fun a hF=>e_p (v:=(iV t_18)) 18 hF rfl (ex_move rfl) rfl rfl (by kernel_rfl) (by kernel_rfl) (by kernel_rfl) fun a hF=>e_p (v:=(iV (w64 ((goLen p_t.Rows) + t_18)))) 19 hF rfl (ex_ibin rfl rfl rfl) rfl rfl (by kernel_rfl) (by kernel_rfl) (by kernel_rfl) fun a hF=>?_
       obtain ⟨e_29,he_29,hj5⟩:=bindS hj5
       obtain ⟨vs30,at30,d30⟩:=h28.at he_29 1 rfl
       obtain rfl : vs30 = [(iV e_29)]:=d30
       refine e_p (v:=(elP s28 ((w64 ((goLen p_t.Rows) + t_18)).toNat * 1))) 20 hF rfl (ex_indexAddr Try.underlying28 sz3 rfl rfl (h28.idx he_29)) rfl rfl (by kernel_rfl) (by kernel_rfl) (by kernel_rfl) fun a hF=>e_xm (v:=(iV e_29)) 21 hF hS (Mem.le.refl _) rfl (ex_loadE1 0 Try.underlying3 rfl rfl ((at30).at) rfl rfl) rfl rfl (by kernel_rfl) (by kernel_rfl) (by kernel_rfl) fun a hF=>e_p (v:=(iV (w64 (e_24 - e_29)))) 22 hF rfl (ex_ibin rfl rfl rfl) rfl rfl (by kernel_rfl) (by kernel_rfl) (by kernel_rfl) fun a hF=>?_
       obtain ⟨e_31,he_31,hj5⟩:=bindS hj5
       obtain ⟨vs32,at32,d32⟩:=hV20.at he_19 he_31 1 rfl
       obtain rfl : vs32 = [(iV e_31)]:=d32
       refine e_p (v:=(elP s20 (t_18.toNat * 1))) 23 hF rfl (ex_indexAddr Try.underlying28 sz3 rfl rfl (hV20.idx he_19 he_31)) rfl rfl (by kernel_rfl) (by kernel_rfl) (by kernel_rfl) fun a hF=>e_one 24 (by kernel_rfl) ?_
       have hSo:=hS
       refine e_opl rfl rfl rfl fun _ hK=>wp_storeV (e':=(w64 (e_24 - e_29))) (us:=[(iV (w64 (e_24 - e_29)))]) (vs:=[(iV e_31)]) 0 hF hS hV20 he_19 sz3 rfl rfl rfl rfl rfl rfl rfl he_31 at32 rfl rfl rfl fun w q33 hS h33=>hK _ _ (⟨⟨kpC hSo hS 1 1 rfl rfl kpN,fun _=>hS.vis.of_le (Mem.le.refl _)⟩,?_⟩)
       refine e_end (by kernel_rfl) (n_jn ?_) _
       obtain rfl:=someI hj5
       exact ⟨q33,hF.sub ⟨rfl,rfl,rfl,rfl,rfl,rfl,rfl,rfl,rfl,rfl,rfl,trivial⟩,hS,h33.own,(NF.set h17n)⟩
     ·rintro a w ⟨q35,hF,hS,h35,h35n⟩
      refine n_ib (n_sq ?_)
      refine q_region (q_x (v:=(iV (w64 (t_18 + 1)))) hF hS (ex_ibin rfl rfl rfl) rfl rfl fun a hF=>q_x (v:=(iV (w64 (t_18 + 1)))) hF hS (ex_move rfl) rfl rfl fun a hF=>q_end ?_)
      obtain rfl:=someI hb3
      exact ⟨rfl,q35,_,_,rfl,hF.sub ⟨rfl,rfl,rfl,rfl,rfl,rfl,rfl,rfl,rfl,rfl,rfl,trivial⟩,hS,h35,h35n⟩
   ·rintro e a w ⟨q37,rfl,hF,hS,h37,h37n⟩
    refine x_ib (n_ib (n_sq ?_))
    refine q_region (q_x (v:=(iV (w64 (t_13 + 1)))) hF hS (ex_ibin rfl rfl rfl) rfl rfl fun a hF=>q_x (v:=(iV (w64 (t_13 + 1)))) hF hS (ex_move rfl) rfl rfl fun a hF=>q_end ?_)
    obtain rfl:=someI hb1
    exact ⟨rfl,q37,_,_,rfl,hF.sub ⟨rfl,rfl,rfl,rfl,rfl,rfl,rfl,rfl,trivial⟩,hS,h37,h37n⟩
 ·rintro e a w ⟨q39,rfl,hF,hS,h39,h39n⟩
  refine x_ib (n_sq ?_)
  refine q_seq (q_region (q_x (v:=s10.v) hF hS (ex_move rfl) rfl rfl fun a hF=>q_x (v:=s10.v) hF hS (ex_assign rfl) rfl rfl fun a hF=>q_end (n_sq (q_ret ?_))))
  obtain rfl:=someI hr
  exact ret_of hF hS rfl (.tmp rfl .nil) ⟨q39,s10,rfl,hS.sel [0] (by decide),h39,h39n⟩

theorem c_impl_fill (p_t : impl_Transport) (r : (List (List Int))) (hr : impl_fill p_t = some r) (w0 : World) (m : Mem) (hv : Vis m w0) (s1 : Sl) (h1 : Rd m s1 p_t.Rows) (s2 : Sl) (h2 : Rd m s2 p_t.Cols) (s3 : Sl) (h3 : Rd m s3 p_t.Lo) (s4 : Sl) (h4 : Rd m s4 p_t.Hi) :
  Ret Try.prog 168 [(.agg #[s1.v,s2.v,s3.v,s4.v])] w0 (fun v w=>∃ (q0' : Piece) (s0' : Sl),v = s0'.v∧St [] w0 w m [q0']∧OwnD m 28 3 q0' s0' r∧NF s0' r):=by
 unfold impl_fill at hr
 refine ret_start Try.func168 rfl 141 rfl rfl m hv fun a hF hS=>q_seq (q_region (q_box (cs:=[s1.v,s2.v,s3.v,s4.v]) hF hS rfl rfl rfl fun a w b5 hF hS=>q_x (v:=nilS.v) hF hS (ex_assign rfl) rfl rfl fun a hF=>q_end (n_sq (q_seq (e_region ⟨[],[],m⟩ mixed fun w' hw'=>?_)))))
 have hS:=hS.below hw'
 refine e_p (v:=(.pointer (some ⟨b5,0,none⟩))) 0 hF rfl (ex_fieldAddr Try.underlying50 rfl sz28 rfl rfl) rfl rfl (by kernel_rfl) (by kernel_rfl) (by kernel_rfl) fun a hF=>e_x (v:=s1.v) 1 hF hS rfl (ex_load1 0 0 Try.underlying28 rfl rfl rfl rfl) rfl rfl (by kernel_rfl) (by kernel_rfl) (by kernel_rfl) (by kernel_rfl) fun a hF=>e_p (v:=(iV (goLen p_t.Rows))) 2 hF rfl (ex_len Try.underlying28 rfl h1.len) rfl rfl (by kernel_rfl) (by kernel_rfl) (by kernel_rfl) fun a hF=>e_p (v:=(.pointer (some ⟨b5,1,none⟩))) 3 hF rfl (ex_fieldAddr Try.underlying50 rfl sz28 rfl rfl) rfl rfl (by kernel_rfl) (by kernel_rfl) (by kernel_rfl) fun a hF=>e_x (v:=s2.v) 4 hF hS rfl (ex_load1 0 0 Try.underlying28 rfl rfl rfl rfl) rfl rfl (by kernel_rfl) (by kernel_rfl) (by kernel_rfl) (by kernel_rfl) fun a hF=>e_p (v:=(iV (goLen p_t.Cols))) 5 hF rfl (ex_len Try.underlying28 rfl h2.len) rfl rfl (by kernel_rfl) (by kernel_rfl) (by kernel_rfl) fun a hF=>e_p (v:=(iV (goLen p_t.Rows))) 6 hF rfl (ex_assign rfl) rfl rfl (by kernel_rfl) (by kernel_rfl) (by kernel_rfl) fun a hF=>e_p (v:=(iV (goLen p_t.Cols))) 7 hF rfl (ex_assign rfl) rfl rfl (by kernel_rfl) (by kernel_rfl) (by kernel_rfl) fun a hF=>e_end (by kernel_rfl) (n_sq ?_) _
 refine q_seq (q_region (q_x (v:=(.agg #[s1.v,s2.v,s3.v,s4.v])) hF hS (ex_loadA (vs:=[s1.v,s2.v,s3.v,s4.v]) 0 0 Try.underlying50 rfl sz50 rfl rfl rfl rfl) rfl rfl fun a hF=>q_x (v:=(.pointer (some ⟨b5,2,none⟩))) hF hS (ex_fieldAddr Try.underlying50 rfl sz23 rfl rfl) rfl rfl fun a hF=>q_x (v:=s3.v) hF hS (ex_load1 0 0 Try.underlying23 rfl rfl rfl rfl) rfl rfl fun a hF=>?_))
 obtain ⟨t_6,ht_6,hr⟩:=bindS hr
 refine q_call (vs:=[(.agg #[s1.v,s2.v,s3.v,s4.v]),s3.v,(iV (-1))]) hF hS Try.func155 (by kernel_rfl) rfl rfl rfl (c_impl_residual p_t p_t.Lo (-1) t_6 ht_6 _ m hS.vis s1 h1 s2 h2 s3 h3 s4 h4 s3 h3) ?_
 rintro a w _ ⟨q8,s8,rfl,hR7,h8⟩ hF hS2
 have hS : St _ _ _ _ [q8,[⟨b5,[s1.v,s2.v,s3.v,s4.v],50⟩]]:=hS.joinF hR7
 refine q_x (v:=s8.v) hF hS (ex_assign rfl) rfl rfl fun a hF=>q_end (n_sq (q_seq (q_region (q_x (v:=(iV (goLen p_t.Rows))) hF hS (ex_move rfl) rfl rfl fun a hF=>q_x (v:=(iV (goLen p_t.Cols))) hF hS (ex_move rfl) rfl rfl fun a hF=>q_x (v:=(iV (w64 ((goLen p_t.Rows) + (goLen p_t.Cols))))) hF hS (ex_ibin rfl rfl rfl) rfl rfl fun a hF=>q_x (v:=(iV (w64 ((w64 ((goLen p_t.Rows) + (goLen p_t.Cols))) + 2)))) hF hS (ex_ibin rfl rfl rfl) rfl rfl fun a hF=>?_))))
 obtain ⟨l_9,hl_9,hr⟩:=bindS hr
 refine q_do rfl fun _ hK=>wp_makeD (Ei:=3) hF hS Try.underlying23 inf28 rfl rfl rfl (by decide) hl_9 rfl fun a w q10 s10 hF hS h10 _=>hK _ _ (q_x (v:=s10.v) hF hS (ex_assign rfl) rfl rfl fun a hF=>q_end (n_sq (q_seq (q_seq (q_region (q_x (v:=s10.v) hF hS (ex_move rfl) rfl rfl fun a hF=>q_x (v:=(iV (goLen l_9))) hF hS (ex_len Try.underlying23 rfl h10.len) rfl rfl fun a hF=>q_x (v:=(iV 0)) hF hS (ex_move rfl) rfl rfl fun a hF=>q_end (n_sq (q_block ?_))))))))
 obtain ⟨r_27,hl1,hr⟩:=bindS hr
 refine q_loop (fun (s : (List (List Int)) × Int) a w=>∃ (q12 : Piece),∃ r_11,∃ t_13,s = (r_11,t_13)∧Fr a 141 [(1,(.pointer (some ⟨b5,0,none⟩))),(3,(iV (goLen p_t.Rows))),(4,(iV (goLen p_t.Cols))),(5,s8.v),(6,s10.v),(30,(iV (goLen l_9))),(31,(iV t_13))]∧St [] w0 w m [q12,q8,[⟨b5,[s1.v,s2.v,s3.v,s4.v],50⟩]]∧OwnD m 28 3 q12 s10 r_11) (fun (r_27 : (List (List Int))) e a w=>∃ (q28 : Piece),e = .exit 0∧Fr a 141 [(1,(.pointer (some ⟨b5,0,none⟩))),(3,(iV (goLen p_t.Rows))),(4,(iV (goLen p_t.Cols))),(6,s10.v)]∧St [] w0 w m [q28,[⟨b5,[s1.v,s2.v,s3.v,s4.v],50⟩]]∧OwnD m 28 3 q28 s10 r_27) hl1 ⟨q10,_,_,rfl,hF.sub ⟨rfl,rfl,rfl,rfl,rfl,rfl,rfl,trivial⟩,hS,h10⟩ ?_ ?_
 ·clear hF hS
  rintro s a w st ⟨q12,r_11,t_13,rfl,hF,hS,h12⟩ hb1
  unfold impl_fill_l1 at hb1
  refine q_seq (q_region (q_x (v:=(.bool (decide (t_13 < (goLen l_9))))) hF hS (ex_ibin rfl rfl rfl) rfl rfl fun a hF=>q_end (n_sq (q_seq ?_))))
  rcases bcase (decide (t_13 < (goLen l_9))) with hc2 | hc2
  ·have hb1:=cond_f hc2 hb1
   refine q_cond_f hF rfl hc2 (q_exit (x_sq ?_))
   obtain rfl:=someI hb1
   exact ⟨nofun,.inl ⟨q12,rfl,hF.sub ⟨rfl,rfl,rfl,rfl,trivial⟩,hS.mask [true,false,true],h12⟩⟩
  ·have hb1:=cond_t hc2 hb1
   refine q_cond_t hF rfl hc2 (q_skipc (n_sq (q_seq (q_block (q_seq (q_region (q_x (v:=(iV t_13)) hF hS (ex_move rfl) rfl rfl fun a hF=>q_x (v:=(iV t_13)) hF hS (ex_assign rfl) rfl rfl fun a hF=>q_end (n_sq (q_seq (q_region (q_x (v:=s10.v) hF hS (ex_move rfl) rfl rfl fun a hF=>q_x (v:=(iV t_13)) hF hS (ex_move rfl) rfl rfl fun a hF=>q_x (v:=(iV (goLen p_t.Rows))) hF hS (ex_move rfl) rfl rfl fun a hF=>q_x (v:=(iV (goLen p_t.Cols))) hF hS (ex_move rfl) rfl rfl fun a hF=>q_x (v:=(iV (w64 ((goLen p_t.Rows) + (goLen p_t.Cols))))) hF hS (ex_ibin rfl rfl rfl) rfl rfl fun a hF=>q_x (v:=(iV (w64 ((w64 ((goLen p_t.Rows) + (goLen p_t.Cols))) + 2)))) hF hS (ex_ibin rfl rfl rfl) rfl rfl fun a hF=>?_)))))))))))
   obtain ⟨l_14,hl_14,hb1⟩:=bindS hb1
   refine q_do rfl fun _ hK=>wp_make (z:=(0 : Int)) hF hS Try.underlying28 inf3 rfl rfl rfl rfl rfl (by decide) hl_14 rfl fun a w q15 s15 hF hS h15 _=>hK _ _ ?_
   obtain ⟨e_16,he_16,hb1⟩:=bindS hb1
   obtain ⟨s17,hV17⟩:=h12.view he_16
   refine q_x (v:=(elP s10 (t_13.toNat * 1))) hF hS (ex_indexAddr Try.underlying23 sz28 rfl rfl (h12.idx he_16)) rfl rfl fun a hF=>?_
   have hS : St _ _ _ _ [q12,q15,q8,[⟨b5,[s1.v,s2.v,s3.v,s4.v],50⟩]]:=hS.sel [1,0,2,3] (by decide)
   refine q_do rfl fun _ hK=>wp_storeD hF hS h12 h15 sz28 rfl rfl he_16 rfl fun w q18 hS h18=>hK _ _ (q_end (n_sq (q_seq (q_region (q_x (v:=(iV t_13)) hF hS (ex_move rfl) rfl rfl fun a hF=>q_x (v:=(iV (goLen p_t.Rows))) hF hS (ex_move rfl) rfl rfl fun a hF=>q_x (v:=(iV (goLen p_t.Cols))) hF hS (ex_move rfl) rfl rfl fun a hF=>q_x (v:=(iV (w64 ((goLen p_t.Rows) + (goLen p_t.Cols))))) hF hS (ex_ibin rfl rfl rfl) rfl rfl fun a hF=>q_x (v:=(.bool (decide (t_13 < (w64 ((goLen p_t.Rows) + (goLen p_t.Cols))))))) hF hS (ex_ibin rfl rfl rfl) rfl rfl fun a hF=>q_end (n_sq ?_))))))
   obtain ⟨r_25,hj3,hb1⟩:=bindS hb1
   refine q_join (fun a w=>∃ (q26 : Piece),Fr a 141 [(1,(.pointer (some ⟨b5,0,none⟩))),(3,(iV (goLen p_t.Rows))),(4,(iV (goLen p_t.Cols))),(5,s8.v),(6,s10.v),(30,(iV (goLen l_9))),(31,(iV t_13))]∧St [] w0 w m [q8,q26,[⟨b5,[s1.v,s2.v,s3.v,s4.v],50⟩]]∧OwnD m 28 3 q26 s10 r_25) ?_ ?_
   ·rcases bcase (decide (t_13 < (w64 ((goLen p_t.Rows) + (goLen p_t.Cols))))) with hc4 | hc4
    ·have hj3:=cond_f hc4 hj3
     refine q_cond_f hF rfl hc4 (q_skipc (n_jn ?_))
     obtain rfl:=someI hj3
     exact ⟨q18,hF.sub ⟨rfl,rfl,rfl,rfl,rfl,rfl,rfl,trivial⟩,hS.sel [1,0,2] (by decide),h18⟩
    ·have hj3:=cond_t hc4 hj3
     refine q_cond_t hF rfl hc4 (e_region ⟨[8],[],m⟩ mixed fun w' hw'=>?_)
     have hS:=hS.below hw'
     refine e_p (v:=s10.v) 0 hF rfl (ex_move rfl) rfl rfl (by kernel_rfl) (by kernel_rfl) (by kernel_rfl) fun a hF=>e_p (v:=(iV t_13)) 1 hF rfl (ex_move rfl) rfl rfl (by kernel_rfl) (by kernel_rfl) (by kernel_rfl) fun a hF=>?_
     obtain ⟨e_19,he_19,hj3⟩:=bindS hj3
     obtain ⟨s20,hV20⟩:=h18.view he_19
     refine e_p (v:=(elP s10 (t_13.toNat * 1))) 2 hF rfl (ex_indexAddr Try.underlying23 sz28 rfl rfl (h18.idx he_19)) rfl rfl (by kernel_rfl) (by kernel_rfl) (by kernel_rfl) fun a hF=>e_x (v:=s20.v) 3 hF hS rfl (ex_loadE1 0 Try.underlying28 rfl rfl ((hV20.atH he_19).at 0 rfl) rfl rfl) rfl rfl (by kernel_rfl) (by kernel_rfl) (by kernel_rfl) (by kernel_rfl) fun a hF=>e_p (v:=s8.v) 4 hF rfl (ex_move rfl) rfl rfl (by kernel_rfl) (by kernel_rfl) (by kernel_rfl) fun a hF=>e_p (v:=(iV t_13)) 5 hF rfl (ex_move rfl) rfl rfl (by kernel_rfl) (by kernel_rfl) (by kernel_rfl) fun a hF=>?_
     obtain ⟨e_21,he_21,hj3⟩:=bindS hj3
     obtain ⟨s22,hV22⟩:=h8.view he_21
     refine e_p (v:=(elP s8 (t_13.toNat * 1))) 6 hF rfl (ex_indexAddr Try.underlying23 sz28 rfl rfl (h8.idx he_21)) rfl rfl (by kernel_rfl) (by kernel_rfl) (by kernel_rfl) fun a hF=>e_x (v:=s22.v) 7 hF hS rfl (ex_loadE1 0 Try.underlying28 rfl rfl ((hV22.atH he_21).at 1 rfl) rfl rfl) rfl rfl (by kernel_rfl) (by kernel_rfl) (by kernel_rfl) (by kernel_rfl) fun a hF=>e_one 8 (by kernel_rfl) ?_
     obtain ⟨l_23,hl_23,hj3⟩:=bindS hj3
     refine e_opl rfl rfl rfl fun _ hK=>wp_copyV hF hS hV20 he_19 Try.underlying28 sz3 rfl rfl (hV22.vw he_21 hS (j:=1) rfl) hl_23 rfl fun a w q24 hF hS h24=>hK _ _ (⟨⟨kpN,fun _=>hS.vis.of_le (Mem.le.refl _)⟩,?_⟩)
     refine e_end (by kernel_rfl) (n_jn ?_) _
     obtain rfl:=someI hj3
     exact ⟨q24,hF.sub ⟨rfl,rfl,rfl,rfl,rfl,rfl,rfl,trivial⟩,hS.sel [1,0,2] (by decide),h24.own⟩
   ·rintro a w ⟨q26,hF,hS,h26⟩
    refine n_ib (n_sq ?_)
    refine q_region (q_x (v:=(iV (w64 (t_13 + 1)))) hF hS (ex_ibin rfl rfl rfl) rfl rfl fun a hF=>q_x (v:=(iV (w64 (t_13 + 1)))) hF hS (ex_move rfl) rfl rfl fun a hF=>q_end ?_)
    obtain rfl:=someI hb1
    exact ⟨rfl,q26,_,_,rfl,hF.sub ⟨rfl,rfl,rfl,rfl,rfl,rfl,rfl,trivial⟩,hS.sel [1,0,2] (by decide),h26⟩
 ·rintro e a w ⟨q28,rfl,hF,hS,h28⟩
  refine x_ib (n_sq ?_)
  refine q_seq (e_region ⟨[],[],m⟩ mixed fun w' hw'=>?_)
  have hS:=hS.below hw'
  refine e_p (v:=(.pointer (some ⟨b5,2,none⟩))) 0 hF rfl (ex_fieldAddr Try.underlying50 rfl sz23 rfl rfl) rfl rfl (by kernel_rfl) (by kernel_rfl) (by kernel_rfl) fun a hF=>e_x (v:=s3.v) 1 hF hS rfl (ex_load1 1 0 Try.underlying23 rfl rfl rfl rfl) rfl rfl (by kernel_rfl) (by kernel_rfl) (by kernel_rfl) (by kernel_rfl) fun a hF=>e_p (v:=(.pointer (some ⟨b5,2,none⟩))) 3 hF rfl (ex_fieldAddr Try.underlying50 rfl sz23 rfl rfl) rfl rfl (by kernel_rfl) (by kernel_rfl) (by kernel_rfl) fun a hF=>e_x (v:=s3.v) 4 hF hS rfl (ex_load1 1 0 Try.underlying23 rfl rfl rfl rfl) rfl rfl (by kernel_rfl) (by kernel_rfl) (by kernel_rfl) (by kernel_rfl) fun a hF=>e_one 2 (by kernel_rfl) ?_
  obtain ⟨t_35,ht_35,hr⟩:=bindS hr
  refine e_call (vs:=[s3.v]) hF hS rfl Try.func104 (by kernel_rfl) rfl rfl rfl (c_impl_rowSums p_t.Lo t_35 ht_35 _ m hS.vis s3 h3) ?_
  rintro a w _ ⟨q37,s37,rfl,hR36,h37⟩ hF hS2
  have hS : St _ _ _ _ [q37,q28,[⟨b5,[s1.v,s2.v,s3.v,s4.v],50⟩]]:=hS.joinF hR36
  refine e_one 5 (by kernel_rfl) ?_
  obtain ⟨t_38,ht_38,hr⟩:=bindS hr
  refine e_call (vs:=[s3.v]) hF hS rfl Try.func105 (by kernel_rfl) rfl rfl rfl (c_impl_colSums p_t.Lo t_38 ht_38 _ m hS.vis s3 h3) ?_
  rintro a w _ ⟨q40,s40,rfl,hR39,h40⟩ hF hS2
  have hS : St _ _ _ _ [q40,q37,q28,[⟨b5,[s1.v,s2.v,s3.v,s4.v],50⟩]]:=hS.joinF hR39
  refine e_p (v:=s37.v) 6 hF rfl (ex_assign rfl) rfl rfl (by kernel_rfl) (by kernel_rfl) (by kernel_rfl) fun a hF=>e_p (v:=s40.v) 7 hF rfl (ex_assign rfl) rfl rfl (by kernel_rfl) (by kernel_rfl) (by kernel_rfl) fun a hF=>e_end (by kernel_rfl) (n_sq ?_) _
  refine q_seq (q_seq (q_region (q_x (v:=(.pointer (some ⟨b5,0,none⟩))) hF hS (ex_fieldAddr Try.underlying50 rfl sz28 rfl rfl) rfl rfl fun a hF=>q_x (v:=s1.v) hF hS (ex_load1 3 0 Try.underlying28 rfl rfl rfl rfl) rfl rfl fun a hF=>q_x (v:=(iV (goLen p_t.Rows))) hF hS (ex_len Try.underlying28 rfl h1.len) rfl rfl fun a hF=>q_x (v:=(iV 0)) hF hS (ex_move rfl) rfl rfl fun a hF=>q_end (n_sq (q_block ?_)))))
  obtain ⟨o5,hl5,hr⟩:=bindS hr
  refine q_loop (fun (s : (List (List Int)) × Int) a w=>∃ (q42 : Piece),∃ r_41,∃ t_43,s = (r_41,t_43)∧Fr a 141 [(1,(.pointer (some ⟨b5,0,none⟩))),(3,(iV (goLen p_t.Rows))),(4,(iV (goLen p_t.Cols))),(6,s10.v),(8,s37.v),(9,s40.v),(64,s1.v),(65,(iV (goLen p_t.Rows))),(66,(iV t_43))]∧St [] w0 w m [q42,q40,q37,[⟨b5,[s1.v,s2.v,s3.v,s4.v],50⟩]]∧OwnD m 28 3 q42 s10 r_41) (fun (o : ((List (List Int))) ⊕ ((List (List Int)))) e a w=>∃ (q56 : Piece),∃ r_55,o = .inl r_55∧e = .exit 2∧Fr a 141 [(1,(.pointer (some ⟨b5,0,none⟩))),(3,(iV (goLen p_t.Rows))),(4,(iV (goLen p_t.Cols))),(6,s10.v),(9,s40.v)]∧St [] w0 w m [q56,q40,[⟨b5,[s1.v,s2.v,s3.v,s4.v],50⟩]]∧OwnD m 28 3 q56 s10 r_55) hl5 ⟨q28,_,_,rfl,hF.sub ⟨rfl,rfl,rfl,rfl,rfl,rfl,rfl,rfl,rfl,trivial⟩,hS.sel [2,0,1,3] (by decide),h28⟩ ?_ ?_
  ·clear hF hS
   rintro s a w st ⟨q42,r_41,t_43,rfl,hF,hS,h42⟩ hb5
   unfold impl_fill_l2 at hb5
   refine q_seq (q_region (q_x (v:=(.bool (decide (t_43 < (goLen p_t.Rows))))) hF hS (ex_ibin rfl rfl rfl) rfl rfl fun a hF=>q_end (n_sq (q_seq ?_))))
   rcases bcase (decide (t_43 < (goLen p_t.Rows))) with hc6 | hc6
   ·have hb5:=cond_f hc6 hb5
    refine q_cond_f hF rfl hc6 (q_exit (x_sq ?_))
    obtain rfl:=someI hb5
    exact ⟨nofun,.inl ⟨q42,_,rfl,rfl,hF.sub ⟨rfl,rfl,rfl,rfl,rfl,trivial⟩,hS.mask [true,true,false,true],h42⟩⟩
   ·have hb5:=cond_t hc6 hb5
    refine q_cond_t hF rfl hc6 (q_skipc (n_sq (q_seq (q_block (q_seq (q_region (q_x (v:=(iV t_43)) hF hS (ex_move rfl) rfl rfl fun a hF=>?_)))))))
    obtain ⟨e_44,he_44,hb5⟩:=bindS hb5
    obtain ⟨vs45,at45,d45⟩:=h1.at he_44 1 rfl
    obtain rfl : vs45 = [(iV e_44)]:=d45
    refine q_x (v:=(elP s1 (t_43.toNat * 1))) hF hS (ex_indexAddr Try.underlying28 sz3 rfl rfl (h1.idx he_44)) rfl rfl fun a hF=>q_x (v:=(iV e_44)) hF hS (ex_loadE1 0 Try.underlying3 rfl rfl ((at45).at) rfl rfl) rfl rfl fun a hF=>q_x (v:=(iV t_43)) hF hS (ex_assign rfl) rfl rfl fun a hF=>q_x (v:=(iV e_44)) hF hS (ex_assign rfl) rfl rfl fun a hF=>q_end (n_sq (q_seq (q_seq (q_region (q_x (v:=(iV e_44)) hF hS (ex_move rfl) rfl rfl fun a hF=>q_x (v:=s37.v) hF hS (ex_move rfl) rfl rfl fun a hF=>q_x (v:=(iV t_43)) hF hS (ex_move rfl) rfl rfl fun a hF=>?_)))))
    obtain ⟨e_46,he_46,hb5⟩:=bindS hb5
    obtain ⟨vs47,at47,d47⟩:=h37.at he_46 1 rfl
    obtain rfl : vs47 = [(iV e_46)]:=d47
    refine q_x (v:=(elP s37 (t_43.toNat * 1))) hF hS (ex_indexAddr Try.underlying28 sz3 rfl rfl (h37.idx he_46)) rfl rfl fun a hF=>q_x (v:=(iV e_46)) hF hS (ex_loadE1 0 Try.underlying3 rfl rfl (at47.at 2 rfl) rfl rfl) rfl rfl fun a hF=>q_x (v:=(.bool (decide (e_44 < e_46)))) hF hS (ex_ibin rfl rfl rfl) rfl rfl fun a hF=>q_end (n_sq ?_)
    rcases bcase (decide (e_44 < e_46)) with hc7 | hc7
    ·have hb5:=cond_f hc7 hb5
     refine q_cond_f hF rfl hc7 (q_skipc (n_sq (e_region ⟨[14],[],m⟩ mixed fun w' hw'=>?_)))
     have hS:=hS.below hw'
     refine e_p (v:=s10.v) 0 hF rfl (ex_move rfl) rfl rfl (by kernel_rfl) (by kernel_rfl) (by kernel_rfl) fun a hF=>e_p (v:=(iV (goLen p_t.Rows))) 1 hF rfl (ex_move rfl) rfl rfl (by kernel_rfl) (by kernel_rfl) (by kernel_rfl) fun a hF=>e_p (v:=(iV (goLen p_t.Cols))) 2 hF rfl (ex_move rfl) rfl rfl (by kernel_rfl) (by kernel_rfl) (by kernel_rfl) fun a hF=>e_p (v:=(iV (w64 ((goLen p_t.Rows) + (goLen p_t.Cols))))) 3 hF rfl (ex_ibin rfl rfl rfl) rfl rfl (by kernel_rfl) (by kernel_rfl) (by kernel_rfl) fun a hF=>?_
     obtain ⟨e_48,he_48,hb5⟩:=bindS hb5
     obtain ⟨s49,hV49⟩:=h42.view he_48
     refine e_p (v:=(elP s10 ((w64 ((goLen p_t.Rows) + (goLen p_t.Cols))).toNat * 1))) 4 hF rfl (ex_indexAddr Try.underlying23 sz28 rfl rfl (h42.idx he_48)) rfl rfl (by kernel_rfl) (by kernel_rfl) (by kernel_rfl) fun a hF=>e_x (v:=s49.v) 5 hF hS rfl (ex_loadE1 0 Try.underlying28 rfl rfl ((hV49.atH he_48).at 0 rfl) rfl rfl) rfl rfl (by kernel_rfl) (by kernel_rfl) (by kernel_rfl) (by kernel_rfl) fun a hF=>e_p (v:=(iV t_43)) 6 hF rfl (ex_move rfl) rfl rfl (by kernel_rfl) (by kernel_rfl) (by kernel_rfl) fun a hF=>e_p (v:=(iV e_44)) 7 hF rfl (ex_move rfl) rfl rfl (by kernel_rfl) (by kernel_rfl) (by kernel_rfl) fun a hF=>e_p (v:=s37.v) 8 hF rfl (ex_move rfl) rfl rfl (by kernel_rfl) (by kernel_rfl) (by kernel_rfl) fun a hF=>e_p (v:=(iV t_43)) 9 hF rfl (ex_move rfl) rfl rfl (by kernel_rfl) (by kernel_rfl) (by kernel_rfl) fun a hF=>?_
     obtain ⟨e_50,he_50,hb5⟩:=bindS hb5
     obtain ⟨vs51,at51,d51⟩:=h37.at he_50 1 rfl
     obtain rfl : vs51 = [(iV e_50)]:=d51
     refine e_p (v:=(elP s37 (t_43.toNat * 1))) 10 hF rfl (ex_indexAddr Try.underlying28 sz3 rfl rfl (h37.idx he_50)) rfl rfl (by kernel_rfl) (by kernel_rfl) (by kernel_rfl) fun a hF=>e_x (v:=(iV e_50)) 11 hF hS rfl (ex_loadE1 0 Try.underlying3 rfl rfl (at51.at 2 rfl) rfl rfl) rfl rfl (by kernel_rfl) (by kernel_rfl) (by kernel_rfl) (by kernel_rfl) fun a hF=>e_p (v:=(iV (w64 (e_44 - e_50)))) 12 hF rfl (ex_ibin rfl rfl rfl) rfl rfl (by kernel_rfl) (by kernel_rfl) (by kernel_rfl) fun a hF=>?_
     obtain ⟨e_52,he_52,hb5⟩:=bindS hb5
     obtain ⟨vs53,at53,d53⟩:=hV49.at he_48 he_52 1 rfl
     obtain rfl : vs53 = [(iV e_52)]:=d53
     refine e_p (v:=(elP s49 (t_43.toNat * 1))) 13 hF rfl (ex_indexAddr Try.underlying28 sz3 rfl rfl (hV49.idx he_48 he_52)) rfl rfl (by kernel_rfl) (by kernel_rfl) (by kernel_rfl) fun a hF=>e_one 14 (by kernel_rfl) (e_opl rfl rfl rfl fun _ hK=>wp_storeV (e':=(w64 (e_44 - e_50))) (us:=[(iV (w64 (e_44 - e_50)))]) (vs:=[(iV e_52)]) 0 hF hS hV49 he_48 sz3 rfl rfl rfl rfl rfl rfl rfl he_52 at53 rfl rfl rfl fun w q54 hS h54=>hK _ _ (⟨⟨kpN,fun _=>hS.vis.of_le (Mem.le.refl _)⟩,?_⟩))
     refine e_end (by kernel_rfl) (n_ib (n_sq ?_)) _
     refine q_region (q_x (v:=(iV (w64 (t_43 + 1)))) hF hS (ex_ibin rfl rfl rfl) rfl rfl fun a hF=>q_x (v:=(iV (w64 (t_43 + 1)))) hF hS (ex_move rfl) rfl rfl fun a hF=>q_end ?_)
     obtain rfl:=someI hb5
     exact ⟨rfl,q54,_,_,rfl,hF.sub ⟨rfl,rfl,rfl,rfl,rfl,rfl,rfl,rfl,rfl,trivial⟩,hS,h54.own⟩
    ·have hb5:=cond_t hc7 hb5
     refine q_cond_t hF rfl hc7 (q_seq (q_region (q_x (v:=nilS.v) hF hS (ex_assign rfl) rfl rfl fun a hF=>q_end (n_sq (q_ret (r_sq (r_ib (r_sq ?_))))))))
     obtain rfl:=someI hb5
     refine ⟨nofun,.inr fun ho=>?_⟩
     subst ho
     refine r_ib (r_sq ?_)
     obtain rfl:=someI hr
     exact ret_of hF hS rfl (.tmp rfl .nil) ⟨[],nilS,rfl,hS.sel [4] (by decide),(OwnD.nil (β:=Int) m 28 3),(NF.nil)⟩
  ·rintro e a w ⟨q56,r_55,rfl,rfl,hF,hS,h56⟩
   refine x_ib (n_sq ?_)
   refine q_seq (q_seq (q_region (q_x (v:=(.pointer (some ⟨b5,1,none⟩))) hF hS (ex_fieldAddr Try.underlying50 rfl sz28 rfl rfl) rfl rfl fun a hF=>q_x (v:=s2.v) hF hS (ex_load1 2 0 Try.underlying28 rfl rfl rfl rfl) rfl rfl fun a hF=>q_x (v:=(iV (goLen p_t.Cols))) hF hS (ex_len Try.underlying28 rfl h2.len) rfl rfl fun a hF=>q_x (v:=(iV 0)) hF hS (ex_move rfl) rfl rfl fun a hF=>q_end (n_sq (q_block ?_)))))
   obtain ⟨o8,hl8,hr⟩:=bindS hr
   refine q_loop (fun (s : (List (List Int)) × Int) a w=>∃ (q58 : Piece),∃ r_57,∃ t_59,s = (r_57,t_59)∧Fr a 141 [(1,(.pointer (some ⟨b5,0,none⟩))),(3,(iV (goLen p_t.Rows))),(4,(iV (goLen p_t.Cols))),(6,s10.v),(9,s40.v),(93,s2.v),(94,(iV (goLen p_t.Cols))),(95,(iV t_59))]∧St [] w0 w m [q58,q40,[⟨b5,[s1.v,s2.v,s3.v,s4.v],50⟩]]∧OwnD m 28 3 q58 s10 r_57) (fun (o : ((List (List Int))) ⊕ ((List (List Int)))) e a w=>∃ (q72 : Piece),∃ r_71,o = .inl r_71∧e = .exit 4∧Fr a 141 [(1,(.pointer (some ⟨b5,0,none⟩))),(3,(iV (goLen p_t.Rows))),(4,(iV (goLen p_t.Cols))),(6,s10.v)]∧St [] w0 w m [q72,[⟨b5,[s1.v,s2.v,s3.v,s4.v],50⟩]]∧OwnD m 28 3 q72 s10 r_71) hl8 ⟨q56,_,_,rfl,hF.sub ⟨rfl,rfl,rfl,rfl,rfl,rfl,rfl,rfl,trivial⟩,hS,h56⟩ ?_ ?_
   ·clear hF hS
    rintro s a w st ⟨q58,r_57,t_59,rfl,hF,hS,h58⟩ hb8
    unfold impl_fill_l3 at hb8
    refine q_seq (q_region (q_x (v:=(.bool (decide (t_59 < (goLen p_t.Cols))))) hF hS (ex_ibin rfl rfl rfl) rfl rfl fun a hF=>q_end (n_sq (q_seq ?_))))
    rcases bcase (decide (t_59 < (goLen p_t.Cols))) with hc9 | hc9
    ·have hb8:=cond_f hc9 hb8
     refine q_cond_f hF rfl hc9 (q_exit (x_sq ?_))
     obtain rfl:=someI hb8
     exact ⟨nofun,.inl ⟨q58,_,rfl,rfl,hF.sub ⟨rfl,rfl,rfl,rfl,trivial⟩,hS.mask [true,false,true],h58⟩⟩
    ·have hb8:=cond_t hc9 hb8
     refine q_cond_t hF rfl hc9 (q_skipc (n_sq (q_seq (q_block (q_seq (q_region (q_x (v:=(iV t_59)) hF hS (ex_move rfl) rfl rfl fun a hF=>?_)))))))
     obtain ⟨e_60,he_60,hb8⟩:=bindS hb8
     obtain ⟨vs61,at61,d61⟩:=h2.at he_60 1 rfl
     obtain rfl : vs61 = [(iV e_60)]:=d61
     refine q_x (v:=(elP s2 (t_59.toNat * 1))) hF hS (ex_indexAddr Try.underlying28 sz3 rfl rfl (h2.idx he_60)) rfl rfl fun a hF=>q_x (v:=(iV e_60)) hF hS (ex_loadE1 0 Try.underlying3 rfl rfl ((at61).at) rfl rfl) rfl rfl fun a hF=>q_x (v:=(iV t_59)) hF hS (ex_assign rfl) rfl rfl fun a hF=>q_x (v:=(iV e_60)) hF hS (ex_assign rfl) rfl rfl fun a hF=>q_end (n_sq (q_seq (q_seq (q_region (q_x (v:=(iV e_60)) hF hS (ex_move rfl) rfl rfl fun a hF=>q_x (v:=s40.v) hF hS (ex_move rfl) rfl rfl fun a hF=>q_x (v:=(iV t_59)) hF hS (ex_move rfl) rfl rfl fun a hF=>?_)))))
     obtain ⟨e_62,he_62,hb8⟩:=bindS hb8
     obtain ⟨vs63,at63,d63⟩:=h40.at he_62 1 rfl
     obtain rfl : vs63 = [(iV e_62)]:=d63
     refine q_x (v:=(elP s40 (t_59.toNat * 1))) hF hS (ex_indexAddr Try.underlying28 sz3 rfl rfl (h40.idx he_62)) rfl rfl fun a hF=>q_x (v:=(iV e_62)) hF hS (ex_loadE1 0 Try.underlying3 rfl rfl (at63.at 1 rfl) rfl rfl) rfl rfl fun a hF=>q_x (v:=(.bool (decide (e_60 < e_62)))) hF hS (ex_ibin rfl rfl rfl) rfl rfl fun a hF=>q_end (n_sq ?_)
     rcases bcase (decide (e_60 < e_62)) with hc10 | hc10
     ·have hb8:=cond_f hc10 hb8
      refine q_cond_f hF rfl hc10 (q_skipc (n_sq (e_region ⟨[17],[],m⟩ mixed fun w' hw'=>?_)))
      have hS:=hS.below hw'
      refine e_p (v:=s10.v) 0 hF rfl (ex_move rfl) rfl rfl (by kernel_rfl) (by kernel_rfl) (by kernel_rfl) fun a hF=>e_p (v:=(iV (goLen p_t.Rows))) 1 hF rfl (ex_move rfl) rfl rfl (by kernel_rfl) (by kernel_rfl) (by kernel_rfl) fun a hF=>e_p (v:=(iV t_59)) 2 hF rfl (ex_move rfl) rfl rfl (by kernel_rfl) (by kernel_rfl) (by kernel_rfl) fun a hF=>e_p (v:=(iV (w64 ((goLen p_t.Rows) + t_59)))) 3 hF rfl (ex_ibin rfl rfl rfl) rfl rfl (by kernel_rfl) (by kernel_rfl) (by kernel_rfl) fun a hF=>?_
      obtain ⟨e_64,he_64,hb8⟩:=bindS hb8
      obtain ⟨s65,hV65⟩:=h58.view he_64
      refine e_p (v:=(elP s10 ((w64 ((goLen p_t.Rows) + t_59)).toNat * 1))) 4 hF rfl (ex_indexAddr Try.underlying23 sz28 rfl rfl (h58.idx he_64)) rfl rfl (by kernel_rfl) (by kernel_rfl) (by kernel_rfl) fun a hF=>e_x (v:=s65.v) 5 hF hS rfl (ex_loadE1 0 Try.underlying28 rfl rfl ((hV65.atH he_64).at 0 rfl) rfl rfl) rfl rfl (by kernel_rfl) (by kernel_rfl) (by kernel_rfl) (by kernel_rfl) fun a hF=>e_p (v:=(iV (goLen p_t.Rows))) 6 hF rfl (ex_move rfl) rfl rfl (by kernel_rfl) (by kernel_rfl) (by kernel_rfl) fun a hF=>e_p (v:=(iV (goLen p_t.Cols))) 7 hF rfl (ex_move rfl) rfl rfl (by kernel_rfl) (by kernel_rfl) (by kernel_rfl) fun a hF=>e_p (v:=(iV (w64 ((goLen p_t.Rows) + (goLen p_t.Cols))))) 8 hF rfl (ex_ibin rfl rfl rfl) rfl rfl (by kernel_rfl) (by kernel_rfl) (by kernel_rfl) fun a hF=>e_p (v:=(iV (w64 ((w64 ((goLen p_t.Rows) + (goLen p_t.Cols))) + 1)))) 9 hF rfl (ex_ibin rfl rfl rfl) rfl rfl (by kernel_rfl) (by kernel_rfl) (by kernel_rfl) fun a hF=>e_p (v:=(iV e_60)) 10 hF rfl (ex_move rfl) rfl rfl (by kernel_rfl) (by kernel_rfl) (by kernel_rfl) fun a hF=>e_p (v:=s40.v) 11 hF rfl (ex_move rfl) rfl rfl (by kernel_rfl) (by kernel_rfl) (by kernel_rfl) fun a hF=>e_p (v:=(iV t_59)) 12 hF rfl (ex_move rfl) rfl rfl (by kernel_rfl) (by kernel_rfl) (by kernel_rfl) fun a hF=>?_
      obtain ⟨e_66,he_66,hb8⟩:=bindS hb8
      obtain ⟨vs67,at67,d67⟩:=h40.at he_66 1 rfl
      obtain rfl : vs67 = [(iV e_66)]:=d67
      refine e_p (v:=(elP s40 (t_59.toNat * 1))) 13 hF rfl (ex_indexAddr Try.underlying28 sz3 rfl rfl (h40.idx he_66)) rfl rfl (by kernel_rfl) (by kernel_rfl) (by kernel_rfl) fun a hF=>e_x (v:=(iV e_66)) 14 hF hS rfl (ex_loadE1 0 Try.underlying3 rfl rfl (at67.at 1 rfl) rfl rfl) rfl rfl (by kernel_rfl) (by kernel_rfl) (by kernel_rfl) (by kernel_rfl) fun a hF=>e_p (v:=(iV (w64 (e_60 - e_66)))) 15 hF rfl (ex_ibin rfl rfl rfl) rfl rfl (by kernel_rfl) (by kernel_rfl) (by kernel_rfl) fun a hF=>?_
      obtain ⟨e_68,he_68,hb8⟩:=bindS hb8
      obtain ⟨vs69,at69,d69⟩:=hV65.at he_64 he_68 1 rfl
      obtain rfl : vs69 = [(iV e_68)]:=d69
      refine e_p (v:=(elP s65 ((w64 ((w64 ((goLen p_t.Rows) + (goLen p_t.Cols))) + 1)).toNat * 1))) 16 hF rfl (ex_indexAddr Try.underlying28 sz3 rfl rfl (hV65.idx he_64 he_68)) rfl rfl (by kernel_rfl) (by kernel_rfl) (by kernel_rfl) fun a hF=>e_one 17 (by kernel_rfl) (e_opl rfl rfl rfl fun _ hK=>wp_storeV (e':=(w64 (e_60 - e_66))) (us:=[(iV (w64 (e_60 - e_66)))]) (vs:=[(iV e_68)]) 0 hF hS hV65 he_64 sz3 rfl rfl rfl rfl rfl rfl rfl he_68 at69 rfl rfl rfl fun w q70 hS h70=>hK _ _ (⟨⟨kpN,fun _=>hS.vis.of_le (Mem.le.refl _)⟩,?_⟩))
      refine e_end (by kernel_rfl) (n_ib (n_sq ?_)) _
      refine q_region (q_x (v:=(iV (w64 (t_59 + 1)))) hF hS (ex_ibin rfl rfl rfl) rfl rfl fun a hF=>q_x (v:=(iV (w64 (t_59 + 1)))) hF hS (ex_move rfl) rfl rfl fun a hF=>q_end ?_)
      obtain rfl:=someI hb8
      exact ⟨rfl,q70,_,_,rfl,hF.sub ⟨rfl,rfl,rfl,rfl,rfl,rfl,rfl,rfl,trivial⟩,hS,h70.own⟩
     ·have hb8:=cond_t hc10 hb8
      refine q_cond_t hF rfl hc10 (q_seq (q_region (q_x (v:=nilS.v) hF hS (ex_assign rfl) rfl rfl fun a hF=>q_end (n_sq (q_ret (r_sq (r_ib (r_sq ?_))))))))
      obtain rfl:=someI hb8
      refine ⟨nofun,.inr fun ho=>?_⟩
      subst ho
      refine r_ib (r_sq ?_)
      obtain rfl:=someI hr
      exact ret_of hF hS rfl (.tmp rfl .nil) ⟨[],nilS,rfl,hS.sel [3] (by decide),(OwnD.nil (β:=Int) m 28 3),(NF.nil)⟩
   ·rintro e a w ⟨q72,r_71,rfl,rfl,hF,hS,h72⟩
    refine x_ib (n_sq ?_)
    refine q_seq (q_region (q_x (v:=s10.v) hF hS (ex_move rfl) rfl rfl fun a hF=>q_x (v:=(iV (goLen p_t.Rows))) hF hS (ex_move rfl) rfl rfl fun a hF=>q_x (v:=(iV (goLen p_t.Cols))) hF hS (ex_move rfl) rfl rfl fun a hF=>q_x (v:=(iV (w64 ((goLen p_t.Rows) + (goLen p_t.Cols))))) hF hS (ex_ibin rfl rfl rfl) rfl rfl fun a hF=>q_x (v:=(iV (goLen p_t.Rows))) hF hS (ex_move rfl) rfl rfl fun a hF=>q_x (v:=(iV (goLen p_t.Cols))) hF hS (ex_move rfl) rfl rfl fun a hF=>q_x (v:=(iV (w64 ((goLen p_t.Rows) + (goLen p_t.Cols))))) hF hS (ex_ibin rfl rfl rfl) rfl rfl fun a hF=>q_x (v:=(iV (w64 ((w64 ((goLen p_t.Rows) + (goLen p_t.Cols))) + 1)))) hF hS (ex_ibin rfl rfl rfl) rfl rfl fun a hF=>q_x (v:=(.pointer (some ⟨b5,0,none⟩))) hF hS (ex_fieldAddr Try.underlying50 rfl sz28 rfl rfl) rfl rfl fun a hF=>q_x (v:=s1.v) hF hS (ex_load1 1 0 Try.underlying28 rfl rfl rfl rfl) rfl rfl fun a hF=>?_))
    obtain ⟨t_73,ht_73,hr⟩:=bindS hr
    refine q_call (vs:=[s1.v]) hF hS Try.func80 (by kernel_rfl) rfl rfl rfl (c_impl_total p_t.Rows t_73 ht_73 _ m hS.vis s1 h1) ?_
    rintro a w _ rfl hF hS
    have hS74 : St _ _ _ _ ([q72]++[[⟨b5,[s1.v,s2.v,s3.v,s4.v],50⟩]]):=hS
    have hE74:=hS74.enter
    obtain ⟨t_75,ht_75,hr⟩:=bindS hr
    refine q_do rfl fun _ hK=>wp_callX (vs:=[s10.v,(iV (w64 ((goLen p_t.Rows) + (goLen p_t.Cols)))),(iV (w64 ((w64 ((goLen p_t.Rows) + (goLen p_t.Cols))) + 1))),(iV t_73)]) hF Try.func156 (by kernel_rfl) rfl rfl rfl (c_impl_push r_71 (w64 ((goLen p_t.Rows) + (goLen p_t.Cols))) (w64 ((w64 ((goLen p_t.Rows) + (goLen p_t.Cols))) + 1)) t_73 t_75 ht_75 _ m s10 q72 h72 _ hE74) fun a w _ hR hF=>hK _ _ ?_
    obtain ⟨q76,rfl,hR74,h76⟩:=hR
    have hS : St _ _ _ _ [q76,[⟨b5,[s1.v,s2.v,s3.v,s4.v],50⟩]]:=hS74.leaveF hR74
    refine q_end (n_sq (q_seq (q_region (q_x (v:=(.agg #[s1.v,s2.v,s3.v,s4.v])) hF hS (ex_loadA (vs:=[s1.v,s2.v,s3.v,s4.v]) 1 0 Try.underlying50 rfl sz50 rfl rfl rfl rfl) rfl rfl fun a hF=>q_x (v:=(.pointer (some ⟨b5,2,none⟩))) hF hS (ex_fieldAddr Try.underlying50 rfl sz23 rfl rfl) rfl rfl fun a hF=>q_x (v:=s3.v) hF hS (ex_load1 1 0 Try.underlying23 rfl rfl rfl rfl) rfl rfl fun a hF=>q_x (v:=s10.v) hF hS (ex_move rfl) rfl rfl fun a hF=>?_))))
    obtain ⟨m78,hl78,hv78,hz78⟩:=hS.lend
    obtain ⟨t_77,ht_77,hr⟩:=bindS hr
    refine q_call (vs:=[(.agg #[s1.v,s2.v,s3.v,s4.v]),s3.v,s10.v,(iV (-1))]) hF hS Try.func169 (by kernel_rfl) rfl rfl rfl (c_impl_restore p_t p_t.Lo t_75.2 (-1) t_77 ht_77 _ m78 hv78 s1 (h1.mono hl78) s2 (h2.mono hl78) s3 (h3.mono hl78) s4 (h4.mono hl78) s3 (h3.mono hl78) s10 (h76.froz hl78 (hz78 0 _ rfl))) ?_
    rintro a w _ ⟨q80,s80,rfl,hR79,h80,h80n⟩ hF hS2
    have hS : St _ _ _ _ [q80,q76,[⟨b5,[s1.v,s2.v,s3.v,s4.v],50⟩]]:=hS.joinF hR79
    have h80:=h80.any m
    refine q_x (v:=s80.v) hF hS (ex_assign rfl) rfl rfl fun a hF=>q_end (n_sq (q_ret ?_))
    obtain rfl:=someI hr
    exact ret_of hF hS rfl (.tmp rfl .nil) ⟨q80,s80,rfl,hS.sel [0] (by decide),h80,h80n⟩

theorem c_slices_Equal_int_int (p_s1 : List Int) (p_s2 : List Int) (r : Bool) (hr : slices_Equal_int_int p_s1 p_s2 = some r) (w0 : World) (m : Mem) (hv : Vis m w0) (s1 : Sl) (h1 : Rd m s1 p_s1) (s2 : Sl) (h2 : Rd m s2 p_s2) :
  Ret Try.prog 103 [s1.v,s2.v] w0 (fun v _=>v = (.bool r)):=by
 unfold slices_Equal_int_int at hr
 refine ret_start Try.func103 rfl 26 rfl rfl m hv fun a hF hS=>q_seq (q_region (q_x (v:=(.bool false)) hF hS (ex_assign rfl) rfl rfl fun a hF=>q_end (n_sq (q_seq (q_seq (q_region (q_x (v:=s1.v) hF hS (ex_move rfl) rfl rfl fun a hF=>q_x (v:=(iV (goLen p_s1))) hF hS (ex_len Try.underlying28 rfl h1.len) rfl rfl fun a hF=>q_x (v:=s2.v) hF hS (ex_move rfl) rfl rfl fun a hF=>q_x (v:=(iV (goLen p_s2))) hF hS (ex_len Try.underlying28 rfl h2.len) rfl rfl fun a hF=>q_x (v:=(.bool ((goLen p_s1) != (goLen p_s2)))) hF hS (ex_ibin rfl rfl rfl) rfl rfl fun a hF=>q_end (n_sq ?_))))))))
 rcases bcase ((goLen p_s1) != (goLen p_s2)) with hc1 | hc1
 ·have hr:=cond_f hc1 hr
  refine q_cond_f hF rfl hc1 (q_skipc (n_sq (q_seq (q_seq (q_region (q_x (v:=s1.v) hF hS (ex_move rfl) rfl rfl fun a hF=>q_x (v:=(iV (goLen p_s1))) hF hS (ex_len Try.underlying28 rfl h1.len) rfl rfl fun a hF=>q_x (v:=(iV 0)) hF hS (ex_move rfl) rfl rfl fun a hF=>q_end (n_sq (q_block ?_))))))))
  obtain ⟨o2,hl2,hr⟩:=bindS hr
  refine q_loop (fun (t_3 : Int) a w=>Fr a 26 [(0,s1.v),(1,s2.v),(12,(iV (goLen p_s1))),(13,(iV t_3))]∧St [] w0 w m []) (fun (o : (Unit) ⊕ (Bool)) e a w=>o = .inl ()∧e = .exit 0∧Fr a 26 []∧St [] w0 w m []) hl2 ⟨hF.sub ⟨rfl,rfl,rfl,rfl,trivial⟩,hS⟩ ?_ ?_
  ·clear hF hS
   rintro t_3 a w st ⟨hF,hS⟩ hb2
   unfold slices_Equal_int_int_l1 at hb2
   refine q_seq (q_region (q_x (v:=(.bool (decide (t_3 < (goLen p_s1))))) hF hS (ex_ibin rfl rfl rfl) rfl rfl fun a hF=>q_end (n_sq (q_seq ?_))))
   rcases bcase (decide (t_3 < (goLen p_s1))) with hc3 | hc3
   ·have hb2:=cond_f hc3 hb2
    refine q_cond_f hF rfl hc3 (q_exit (x_sq ?_))
    obtain rfl:=someI hb2
    exact ⟨nofun,.inl ⟨rfl,rfl,hF.sub trivial,hS⟩⟩
   ·have hb2:=cond_t hc3 hb2
    refine q_cond_t hF rfl hc3 (q_skipc (n_sq (q_seq (q_block (q_seq (q_region (q_x (v:=(iV t_3)) hF hS (ex_move rfl) rfl rfl fun a hF=>q_x (v:=(iV t_3)) hF hS (ex_assign rfl) rfl rfl fun a hF=>q_end (n_sq (q_seq (e_region ⟨[],[],m⟩ mixed fun w' hw'=>?_))))))))))
    have hS:=hS.below hw'
    refine e_p (v:=s1.v) 0 hF rfl (ex_move rfl) rfl rfl (by kernel_rfl) (by kernel_rfl) (by kernel_rfl) fun a hF=>e_p (v:=(iV t_3)) 1 hF rfl (ex_move rfl) rfl rfl (by kernel_rfl) (by kernel_rfl) (by kernel_rfl) fun a hF=>?_
    obtain ⟨e_4,he_4,hb2⟩:=bindS hb2
    obtain ⟨vs5,at5,d5⟩:=h1.at he_4 1 rfl
    obtain rfl : vs5 = [(iV e_4)]:=d5
    refine e_p (v:=(elP s1 (t_3.toNat * 1))) 2 hF rfl (ex_indexAddr Try.underlying28 sz3 rfl rfl (h1.idx he_4)) rfl rfl (by kernel_rfl) (by kernel_rfl) (by kernel_rfl) fun a hF=>e_xm (v:=(iV e_4)) 3 hF hS (Mem.le.refl _) rfl (ex_loadE1 0 Try.underlying3 rfl rfl ((at5).at) rfl rfl) rfl rfl (by kernel_rfl) (by kernel_rfl) (by kernel_rfl) fun a hF=>e_p (v:=s2.v) 4 hF rfl (ex_move rfl) rfl rfl (by kernel_rfl) (by kernel_rfl) (by kernel_rfl) fun a hF=>e_p (v:=(iV t_3)) 5 hF rfl (ex_move rfl) rfl rfl (by kernel_rfl) (by kernel_rfl) (by kernel_rfl) fun a hF=>?_
    obtain ⟨e_6,he_6,hb2⟩:=bindS hb2
    obtain ⟨vs7,at7,d7⟩:=h2.at he_6 1 rfl
    obtain rfl : vs7 = [(iV e_6)]:=d7
    refine e_p (v:=(elP s2 (t_3.toNat * 1))) 6 hF rfl (ex_indexAddr Try.underlying28 sz3 rfl rfl (h2.idx he_6)) rfl rfl (by kernel_rfl) (by kernel_rfl) (by kernel_rfl) fun a hF=>e_xm (v:=(iV e_6)) 7 hF hS (Mem.le.refl _) rfl (ex_loadE1 0 Try.underlying3 rfl rfl ((at7).at) rfl rfl) rfl rfl (by kernel_rfl) (by kernel_rfl) (by kernel_rfl) fun a hF=>e_p (v:=(.bool (e_4 != e_6))) 8 hF rfl (ex_ibin rfl rfl rfl) rfl rfl (by kernel_rfl) (by kernel_rfl) (by kernel_rfl) fun a hF=>e_end (by kernel_rfl) (n_sq ?_) _
    rcases bcase (e_4 != e_6) with hc4 | hc4
    ·have hb2:=cond_f hc4 hb2
     refine q_cond_f hF rfl hc4 (q_skipc (n_ib (n_sq (q_region (q_x (v:=(iV (w64 (t_3 + 1)))) hF hS (ex_ibin rfl rfl rfl) rfl rfl fun a hF=>q_x (v:=(iV (w64 (t_3 + 1)))) hF hS (ex_move rfl) rfl rfl fun a hF=>q_end ?_)))))
     obtain rfl:=someI hb2
     exact ⟨rfl,hF.sub ⟨rfl,rfl,rfl,rfl,trivial⟩,hS⟩
    ·have hb2:=cond_t hc4 hb2
     refine q_cond_t hF rfl hc4 (q_seq (q_region (q_x (v:=(.bool false)) hF hS (ex_assign rfl) rfl rfl fun a hF=>q_end (n_sq (q_ret (r_ib (r_sq ?_)))))))
     obtain rfl:=someI hb2
     refine ⟨nofun,.inr fun ho=>?_⟩
     subst ho
     refine r_ib (r_sq ?_)
     obtain rfl:=someI hr
     exact ret_of hF hS rfl (.tmp rfl .nil) rfl
  ·rintro e a w ⟨rfl,rfl,hF,hS⟩
   refine x_ib (n_sq ?_)
   refine q_seq (q_region (q_x (v:=(.bool true)) hF hS (ex_assign rfl) rfl rfl fun a hF=>q_end (n_sq (q_ret ?_))))
   obtain rfl:=someI hr
   exact ret_of hF hS rfl (.tmp rfl .nil) rfl
 ·have hr:=cond_t hc1 hr
  refine q_cond_t hF rfl hc1 (q_seq (q_region (q_x (v:=(.bool false)) hF hS (ex_assign rfl) rfl rfl fun a hF=>q_end (n_sq (q_ret (r_sq ?_))))))
  obtain rfl:=someI hr
  exact ret_of hF hS rfl (.tmp rfl .nil) rfl

theorem c_impl_anyFlow (p_t : impl_Transport) (r : (List (List Int))) (hr : impl_anyFlow p_t = some r) (w0 : World) (m : Mem) (hv : Vis m w0) (s1 : Sl) (h1 : Rd m s1 p_t.Rows) (s2 : Sl) (h2 : Rd m s2 p_t.Cols) (s3 : Sl) (h3 : Rd m s3 p_t.Lo) (s4 : Sl) (h4 : Rd m s4 p_t.Hi) :
  Ret Try.prog 124 [(.agg #[s1.v,s2.v,s3.v,s4.v])] w0 (fun v w=>∃ (q0' : Piece) (s0' : Sl),v = s0'.v∧St [] w0 w m [q0']∧OwnD m 28 3 q0' s0' r∧NF s0' r):=by
 unfold impl_anyFlow at hr
 refine ret_start Try.func124 rfl 24 rfl rfl m hv fun a hF hS=>q_seq (q_region (q_box (cs:=[s1.v,s2.v,s3.v,s4.v]) hF hS rfl rfl rfl fun a w b5 hF hS=>q_x (v:=nilS.v) hF hS (ex_assign rfl) rfl rfl fun a hF=>q_end (n_sq (q_seq (q_seq (e_region ⟨[],[],m⟩ mixed fun w' hw'=>?_))))))
 have hS:=hS.below hw'
 refine e_p (v:=(.pointer (some ⟨b5,0,none⟩))) 0 hF rfl (ex_fieldAddr Try.underlying50 rfl sz28 rfl rfl) rfl rfl (by kernel_rfl) (by kernel_rfl) (by kernel_rfl) fun a hF=>e_x (v:=s1.v) 1 hF hS rfl (ex_load1 0 0 Try.underlying28 rfl rfl rfl rfl) rfl rfl (by kernel_rfl) (by kernel_rfl) (by kernel_rfl) (by kernel_rfl) fun a hF=>e_p (v:=(.pointer (some ⟨b5,1,none⟩))) 3 hF rfl (ex_fieldAddr Try.underlying50 rfl sz28 rfl rfl) rfl rfl (by kernel_rfl) (by kernel_rfl) (by kernel_rfl) fun a hF=>e_x (v:=s2.v) 4 hF hS rfl (ex_load1 0 0 Try.underlying28 rfl rfl rfl rfl) rfl rfl (by kernel_rfl) (by kernel_rfl) (by kernel_rfl) (by kernel_rfl) fun a hF=>e_one 2 (by kernel_rfl) ?_
 obtain ⟨t_8,ht_8,hr⟩:=bindS hr
 refine e_call (vs:=[s1.v]) hF hS rfl Try.func80 (by kernel_rfl) rfl rfl rfl (c_impl_total p_t.Rows t_8 ht_8 _ m hS.vis s1 h1) ?_
 rintro a w _ rfl hF hS
 refine e_one 5 (by kernel_rfl) ?_
 obtain ⟨t_9,ht_9,hr⟩:=bindS hr
 refine e_call (vs:=[s2.v]) hF hS rfl Try.func80 (by kernel_rfl) rfl rfl rfl (c_impl_total p_t.Cols t_9 ht_9 _ m hS.vis s2 h2) ?_
 rintro a w _ rfl hF hS
 refine e_p (v:=(.bool (t_8 != t_9))) 6 hF rfl (ex_ibin rfl rfl rfl) rfl rfl (by kernel_rfl) (by kernel_rfl) (by kernel_rfl) fun a hF=>e_end (by kernel_rfl) (n_sq ?_) _
 rcases bcase (t_8 != t_9) with hc1 | hc1
 ·have hr:=cond_f hc1 hr
  refine q_cond_f hF rfl hc1 (q_skipc (n_sq (q_seq (q_region (q_x (v:=(.agg #[s1.v,s2.v,s3.v,s4.v])) hF hS (ex_loadA (vs:=[s1.v,s2.v,s3.v,s4.v]) 0 0 Try.underlying50 rfl sz50 rfl rfl rfl rfl) rfl rfl fun a hF=>?_)))))
  obtain ⟨t_10,ht_10,hr⟩:=bindS hr
  refine q_call (vs:=[(.agg #[s1.v,s2.v,s3.v,s4.v])]) hF hS Try.func168 (by kernel_rfl) rfl rfl rfl (c_impl_fill p_t t_10 ht_10 _ m hS.vis s1 h1 s2 h2 s3 h3 s4 h4) ?_
  rintro a w _ ⟨q12,s12,rfl,hR11,h12,h12n⟩ hF hS2
  have hS : St _ _ _ _ [q12,[⟨b5,[s1.v,s2.v,s3.v,s4.v],50⟩]]:=hS.joinF hR11
  refine q_x (v:=s12.v) hF hS (ex_assign rfl) rfl rfl fun a hF=>q_end (n_sq (q_seq (q_seq ?_)))
  obtain ⟨t_27,hj2,hr⟩:=bindS hr
  refine q_join (fun a w=>Fr a 24 [(3,s12.v),(22,(.bool t_27))]∧St [] w0 w m [q12]) ?_ ?_
  ·refine e_region ⟨[],[],m⟩ mixed fun w' hw'=>?_
   have hS:=hS.below hw'
   refine e_p (v:=s12.v) 0 hF rfl (ex_move rfl) rfl rfl (by kernel_rfl) (by kernel_rfl) (by kernel_rfl) fun a hF=>e_p (v:=(.bool t_10.isEmpty)) 1 hF rfl (ex_eqNilF Try.underlying23 h12n h12.nilE rfl rfl) rfl rfl (by kernel_rfl) (by kernel_rfl) (by kernel_rfl) fun a hF=>e_p (v:=(.bool t_10.isEmpty)) 2 hF rfl (ex_move rfl) rfl rfl (by kernel_rfl) (by kernel_rfl) (by kernel_rfl) fun a hF=>?_
   rcases bcase (t_10.isEmpty) with hc3 | hc3
   ·have hj2:=cond_f hc3 hj2
    refine e_pg (v:=s12.v) 3 hF rfl (ex_move rfl) (wanted_t hF rfl rfl rfl hc3) rfl (by kernel_rfl) (by kernel_rfl) (by kernel_rfl) fun a hF=>e_pg (v:=(.pointer (some ⟨b5,0,none⟩))) 5 hF rfl (ex_fieldAddr Try.underlying50 rfl sz28 rfl rfl) (wanted_t hF rfl rfl rfl hc3) rfl (by kernel_rfl) (by kernel_rfl) (by kernel_rfl) fun a hF=>e_xg (v:=s1.v) 6 hF hS rfl (ex_load1 1 0 Try.underlying28 rfl rfl rfl rfl) (wanted_t hF rfl rfl rfl hc3) rfl (by kernel_rfl) (by kernel_rfl) (by kernel_rfl) (by kernel_rfl) fun a hF=>e_one 4 (by kernel_rfl) ?_
    obtain ⟨m22,hl22,hv22,hz22⟩:=hS.lend
    obtain ⟨t_21,ht_21,hj2⟩:=bindS hj2
    refine e_callg (vs:=[s12.v]) hF hS rfl (wanted_t hF rfl rfl rfl hc3) Try.func104 (by kernel_rfl) rfl rfl rfl (c_impl_rowSums t_10 t_21 ht_21 _ m22 hv22 s12 (h12.froz hl22 (hz22 0 _ rfl))) ?_
    rintro a w _ ⟨q24,s24,rfl,hR23,h24⟩ hF hS2
    have hS : St _ _ _ _ [q24,q12,[⟨b5,[s1.v,s2.v,s3.v,s4.v],50⟩]]:=hS.joinF hR23
    have h24:=h24.any m
    refine e_one 7 (by kernel_rfl) ?_
    obtain ⟨m26,hl26,hv26,hz26⟩:=hS.lend
    obtain ⟨t_25,ht_25,hj2⟩:=bindS hj2
    refine e_callg (vs:=[s24.v,s1.v]) hF hS rfl (wanted_t hF rfl rfl rfl hc3) Try.func103 (by kernel_rfl) rfl rfl rfl (c_slices_Equal_int_int t_21 p_t.Rows t_25 ht_25 _ m26 hv26 s24 (h24.froz hl26 (hz26 0 _ rfl)) s1 (h1.mono hl26)) ?_
    rintro a w _ rfl hF hS
    refine e_pg (v:=(.bool (!t_25))) 8 hF rfl (ex_not rfl) (wanted_t hF rfl rfl rfl hc3) rfl (by kernel_rfl) (by kernel_rfl) (by kernel_rfl) fun a hF=>e_p (v:=(.bool (!t_25))) 9 hF rfl (ex_pick_f rfl rfl hc3) rfl rfl (by kernel_rfl) (by kernel_rfl) (by kernel_rfl) fun a hF=>e_end (by kernel_rfl) (n_jn ?_) _
    obtain rfl:=someI hj2
    exact ⟨hF.sub ⟨rfl,rfl,trivial⟩,hS.mask [false,true,false]⟩
   ·have hj2:=cond_t hc3 hj2
    refine e_skipP 3 hF rfl (wanted_f hF rfl rfl rfl hc3 rfl) rfl (by kernel_rfl) (by kernel_rfl) (by kernel_rfl) fun a hF=>e_skipP 4 hF rfl (wanted_f hF rfl rfl rfl hc3 rfl) rfl (by kernel_rfl) (by kernel_rfl) (by kernel_rfl) fun a hF=>e_skipP 5 hF rfl (wanted_f hF rfl rfl rfl hc3 rfl) rfl (by kernel_rfl) (by kernel_rfl) (by kernel_rfl) fun a hF=>e_skipP 6 hF rfl (wanted_f hF rfl rfl rfl hc3 rfl) rfl (by kernel_rfl) (by kernel_rfl) (by kernel_rfl) fun a hF=>e_skipP 7 hF rfl (wanted_f hF rfl rfl rfl hc3 rfl) rfl (by kernel_rfl) (by kernel_rfl) (by kernel_rfl) fun a hF=>e_skipP 8 hF rfl (wanted_f hF rfl rfl rfl hc3 rfl) rfl (by kernel_rfl) (by kernel_rfl) (by kernel_rfl) fun a hF=>e_p (v:=(.bool true)) 9 hF rfl (ex_pick_t rfl rfl hc3) rfl rfl (by kernel_rfl) (by kernel_rfl) (by kernel_rfl) fun a hF=>e_end (by kernel_rfl) (n_jn ?_) _
    obtain rfl:=someI hj2
    exact ⟨hF.sub ⟨rfl,rfl,trivial⟩,hS.mask [true,false]⟩
  ·rintro a w ⟨hF,hS⟩
   refine n_sq ?_
   rcases bcase (t_27) with hc4 | hc4
   ·have hr:=cond_f hc4 hr
    refine q_cond_f hF rfl hc4 (q_skipc (n_sq (q_seq (q_region (q_x (v:=s12.v) hF hS (ex_move rfl) rfl rfl fun a hF=>q_x (v:=s12.v) hF hS (ex_assign rfl) rfl rfl fun a hF=>q_end (n_sq (q_ret ?_)))))))
    obtain rfl:=someI hr
    exact ret_of hF hS rfl (.tmp rfl .nil) ⟨q12,s12,rfl,hS.sel [0] (by decide),h12,h12n⟩
   ·have hr:=cond_t hc4 hr
    refine q_cond_t hF rfl hc4 (q_seq (q_region (q_x (v:=nilS.v) hF hS (ex_assign rfl) rfl rfl fun a hF=>q_end (n_sq (q_ret (r_sq ?_))))))
    obtain rfl:=someI hr
    exact ret_of hF hS rfl (.tmp rfl .nil) ⟨[],nilS,rfl,hS.sel [1] (by decide),(OwnD.nil (β:=Int) m 28 3),(NF.nil)⟩
 ·have hr:=cond_t hc1 hr
  refine q_cond_t hF rfl hc1 (q_seq (q_region (q_x (v:=nilS.v) hF hS (ex_assign rfl) rfl rfl fun a hF=>q_end (n_sq (q_ret (r_sq ?_))))))
  obtain rfl:=someI hr
  exact ret_of hF hS rfl (.tmp rfl .nil) ⟨[],nilS,rfl,hS.sel [1] (by decide),(OwnD.nil (β:=Int) m 28 3),(NF.nil)⟩

theorem c_impl_lowered (p_t : impl_Transport) (p_x : List (List Int)) (p_i : Int) (p_j : Int) (r : (List (List Int))) (hr : impl_lowered p_t p_x p_i p_j = some r) (w0 : World) (m : Mem) (hv : Vis m w0) (s1 : Sl) (h1 : Rd m s1 p_t.Rows) (s2 : Sl) (h2 : Rd m s2 p_t.Cols) (s3 : Sl) (h3 : Rd m s3 p_t.Lo) (s4 : Sl) (h4 : Rd m s4 p_t.Hi) (s5 : Sl) (h5 : Rd m s5 p_x) :
  Ret Try.prog 183 [(.agg #[s1.v,s2.v,s3.v,s4.v]),s5.v,(iV p_i),(iV p_j)] w0 (fun v w=>∃ (q0' : Piece) (s0' : Sl),v = s0'.v∧St [] w0 w m [q0']∧OwnD m 28 3 q0' s0' r∧NF s0' r):=by
 unfold impl_lowered at hr
 refine ret_start Try.func183 rfl 66 rfl rfl m hv fun a hF hS=>q_seq (q_region (q_box (cs:=[s1.v,s2.v,s3.v,s4.v]) hF hS rfl rfl rfl fun a w b6 hF hS=>q_x (v:=nilS.v) hF hS (ex_assign rfl) rfl rfl fun a hF=>q_end (n_sq (q_seq (e_region ⟨[],[],m⟩ mixed fun w' hw'=>?_)))))
 have hS:=hS.below hw'
 refine e_p (v:=(.pointer (some ⟨b6,0,none⟩))) 0 hF rfl (ex_fieldAddr Try.underlying50 rfl sz28 rfl rfl) rfl rfl (by kernel_rfl) (by kernel_rfl) (by kernel_rfl) fun a hF=>e_x (v:=s1.v) 1 hF hS rfl (ex_load1 0 0 Try.underlying28 rfl rfl rfl rfl) rfl rfl (by kernel_rfl) (by kernel_rfl) (by kernel_rfl) (by kernel_rfl) fun a hF=>e_p (v:=(iV (goLen p_t.Rows))) 2 hF rfl (ex_len Try.underlying28 rfl h1.len) rfl rfl (by kernel_rfl) (by kernel_rfl) (by kernel_rfl) fun a hF=>e_p (v:=(iV p_i)) 3 hF rfl (ex_move rfl) rfl rfl (by kernel_rfl) (by kernel_rfl) (by kernel_rfl) fun a hF=>e_p (v:=(.pointer (some ⟨b6,1,none⟩))) 4 hF rfl (ex_fieldAddr Try.underlying50 rfl sz28 rfl rfl) rfl rfl (by kernel_rfl) (by kernel_rfl) (by kernel_rfl) fun a hF=>e_x (v:=s2.v) 5 hF hS rfl (ex_load1 0 0 Try.underlying28 rfl rfl rfl rfl) rfl rfl (by kernel_rfl) (by kernel_rfl) (by kernel_rfl) (by kernel_rfl) fun a hF=>e_p (v:=(iV (goLen p_t.Cols))) 6 hF rfl (ex_len Try.underlying28 rfl h2.len) rfl rfl (by kernel_rfl) (by kernel_rfl) (by kernel_rfl) fun a hF=>e_p (v:=(iV (w64 (p_i * (goLen p_t.Cols))))) 7 hF rfl (ex_ibin rfl rfl rfl) rfl rfl (by kernel_rfl) (by kernel_rfl) (by kernel_rfl) fun a hF=>e_p (v:=(iV p_j)) 8 hF rfl (ex_move rfl) rfl rfl (by kernel_rfl) (by kernel_rfl) (by kernel_rfl) fun a hF=>e_p (v:=(iV (w64 ((w64 (p_i * (goLen p_t.Cols))) + p_j)))) 9 hF rfl (ex_ibin rfl rfl rfl) rfl rfl (by kernel_rfl) (by kernel_rfl) (by kernel_rfl) fun a hF=>e_p (v:=(iV (goLen p_t.Rows))) 10 hF rfl (ex_assign rfl) rfl rfl (by kernel_rfl) (by kernel_rfl) (by kernel_rfl) fun a hF=>e_p (v:=(iV (w64 ((w64 (p_i * (goLen p_t.Cols))) + p_j)))) 11 hF rfl (ex_assign rfl) rfl rfl (by kernel_rfl) (by kernel_rfl) (by kernel_rfl) fun a hF=>e_end (by kernel_rfl) (n_sq ?_) _
 refine q_seq (q_region (q_x (v:=(.agg #[s1.v,s2.v,s3.v,s4.v])) hF hS (ex_loadA (vs:=[s1.v,s2.v,s3.v,s4.v]) 0 0 Try.underlying50 rfl sz50 rfl rfl rfl rfl) rfl rfl fun a hF=>q_x (v:=s5.v) hF hS (ex_move rfl) rfl rfl fun a hF=>q_x (v:=(iV (w64 ((w64 (p_i * (goLen p_t.Cols))) + p_j)))) hF hS (ex_move rfl) rfl rfl fun a hF=>?_))
 obtain ⟨t_7,ht_7,hr⟩:=bindS hr
 refine q_call (vs:=[(.agg #[s1.v,s2.v,s3.v,s4.v]),s5.v,(iV (w64 ((w64 (p_i * (goLen p_t.Cols))) + p_j)))]) hF hS Try.func155 (by kernel_rfl) rfl rfl rfl (c_impl_residual p_t p_x (w64 ((w64 (p_i * (goLen p_t.Cols))) + p_j)) t_7 ht_7 _ m hS.vis s1 h1 s2 h2 s3 h3 s4 h4 s5 h5) ?_
 rintro a w _ ⟨q9,s9,rfl,hR8,h9⟩ hF hS2
 have hS : St _ _ _ _ [q9,[⟨b6,[s1.v,s2.v,s3.v,s4.v],50⟩]]:=hS.joinF hR8
 refine q_x (v:=s9.v) hF hS (ex_assign rfl) rfl rfl fun a hF=>q_end (n_sq (q_seq (e_region ⟨[21],[b6],m⟩ mixed fun w' hw'=>?_)))
 have hS:=hS.below hw'
 refine e_p (v:=s9.v) 0 hF rfl (ex_move rfl) rfl rfl (by kernel_rfl) (by kernel_rfl) (by kernel_rfl) fun a hF=>e_p (v:=(iV p_i)) 1 hF rfl (ex_move rfl) rfl rfl (by kernel_rfl) (by kernel_rfl) (by kernel_rfl) fun a hF=>e_p (v:=(iV (goLen p_t.Rows))) 2 hF rfl (ex_move rfl) rfl rfl (by kernel_rfl) (by kernel_rfl) (by kernel_rfl) fun a hF=>e_p (v:=(iV p_j)) 3 hF rfl (ex_move rfl) rfl rfl (by kernel_rfl) (by kernel_rfl) (by kernel_rfl) fun a hF=>e_p (v:=(iV (w64 ((goLen p_t.Rows) + p_j)))) 4 hF rfl (ex_ibin rfl rfl rfl) rfl rfl (by kernel_rfl) (by kernel_rfl) (by kernel_rfl) fun a hF=>e_p (v:=s5.v) 5 hF rfl (ex_move rfl) rfl rfl (by kernel_rfl) (by kernel_rfl) (by kernel_rfl) fun a hF=>e_p (v:=(iV p_i)) 6 hF rfl (ex_move rfl) rfl rfl (by kernel_rfl) (by kernel_rfl) (by kernel_rfl) fun a hF=>?_
 obtain ⟨e_10,he_10,hr⟩:=bindS hr
 obtain ⟨vs11,at11,d11⟩:=h5.at he_10 1 rfl
 obtain ⟨s12,rfl,h12⟩ : ∃ s12 : Sl,vs11 = [s12.v]∧Rd m s12 e_10:=d11
 refine e_p (v:=(elP s5 (p_i.toNat * 1))) 7 hF rfl (ex_indexAddr Try.underlying23 sz28 rfl rfl (h5.idx he_10)) rfl rfl (by kernel_rfl) (by kernel_rfl) (by kernel_rfl) fun a hF=>e_xm (v:=s12.v) 8 hF hS (Mem.le.refl _) rfl (ex_loadE1 0 Try.underlying28 rfl rfl ((at11).at) rfl rfl) rfl rfl (by kernel_rfl) (by kernel_rfl) (by kernel_rfl) fun a hF=>e_p (v:=(iV p_j)) 9 hF rfl (ex_move rfl) rfl rfl (by kernel_rfl) (by kernel_rfl) (by kernel_rfl) fun a hF=>?_
 obtain ⟨e_13,he_13,hr⟩:=bindS hr
 obtain ⟨vs14,at14,d14⟩:=h12.at he_13 1 rfl
 obtain rfl : vs14 = [(iV e_13)]:=d14
 refine e_p (v:=(elP s12 (p_j.toNat * 1))) 10 hF rfl (ex_indexAddr Try.underlying28 sz3 rfl rfl (h12.idx he_13)) rfl rfl (by kernel_rfl) (by kernel_rfl) (by kernel_rfl) fun a hF=>e_xm (v:=(iV e_13)) 11 hF hS (Mem.le.refl _) rfl (ex_loadE1 0 Try.underlying3 rfl rfl ((at14).at) rfl rfl) rfl rfl (by kernel_rfl) (by kernel_rfl) (by kernel_rfl) fun a hF=>e_p (v:=(.pointer (some ⟨b6,2,none⟩))) 12 hF rfl (ex_fieldAddr Try.underlying50 rfl sz23 rfl rfl) rfl rfl (by kernel_rfl) (by kernel_rfl) (by kernel_rfl) fun a hF=>e_xb (v:=s3.v) 13 1 hF hS (.head _) rfl rfl (ex_load1 0 0 Try.underlying23 rfl rfl rfl rfl) rfl rfl (by kernel_rfl) (by kernel_rfl) (by kernel_rfl) fun a hF=>e_p (v:=(iV p_i)) 14 hF rfl (ex_move rfl) rfl rfl (by kernel_rfl) (by kernel_rfl) (by kernel_rfl) fun a hF=>?_
 obtain ⟨e_15,he_15,hr⟩:=bindS hr
 obtain ⟨vs16,at16,d16⟩:=h3.at he_15 1 rfl
 obtain ⟨s17,rfl,h17⟩ : ∃ s17 : Sl,vs16 = [s17.v]∧Rd m s17 e_15:=d16
 refine e_p (v:=(elP s3 (p_i.toNat * 1))) 15 hF rfl (ex_indexAddr Try.underlying23 sz28 rfl rfl (h3.idx he_15)) rfl rfl (by kernel_rfl) (by kernel_rfl) (by kernel_rfl) fun a hF=>e_xm (v:=s17.v) 16 hF hS (Mem.le.refl _) rfl (ex_loadE1 0 Try.underlying28 rfl rfl ((at16).at) rfl rfl) rfl rfl (by kernel_rfl) (by kernel_rfl) (by kernel_rfl) fun a hF=>e_p (v:=(iV p_j)) 17 hF rfl (ex_move rfl) rfl rfl (by kernel_rfl) (by kernel_rfl) (by kernel_rfl) fun a hF=>?_
 obtain ⟨e_18,he_18,hr⟩:=bindS hr
 obtain ⟨vs19,at19,d19⟩:=h17.at he_18 1 rfl
 obtain rfl : vs19 = [(iV e_18)]:=d19
 refine e_p (v:=(elP s17 (p_j.toNat * 1))) 18 hF rfl (ex_indexAddr Try.underlying28 sz3 rfl rfl (h17.idx he_18)) rfl rfl (by kernel_rfl) (by kernel_rfl) (by kernel_rfl) fun a hF=>e_xm (v:=(iV e_18)) 19 hF hS (Mem.le.refl _) rfl (ex_loadE1 0 Try.underlying3 rfl rfl ((at19).at) rfl rfl) rfl rfl (by kernel_rfl) (by kernel_rfl) (by kernel_rfl) fun a hF=>e_p (v:=(iV (w64 (e_13 - e_18)))) 20 hF rfl (ex_ibin rfl rfl rfl) rfl rfl (by kernel_rfl) (by kernel_rfl) (by kernel_rfl) fun a hF=>e_one 21 (by kernel_rfl) ?_
 have hS20 : St _ _ _ _ ([q9]++[[⟨b6,[s1.v,s2.v,s3.v,s4.v],50⟩]]):=hS
 have hE20:=hS20.enter
 obtain ⟨t_21,ht_21,hr⟩:=bindS hr
 have hSo:=hS
 refine e_opl rfl rfl rfl fun _ hK=>wp_callX (vs:=[s9.v,(iV p_i),(iV (w64 ((goLen p_t.Rows) + p_j))),(iV (w64 (e_13 - e_18)))]) hF Try.func156 (by kernel_rfl) rfl rfl rfl (c_impl_push t_7 p_i (w64 ((goLen p_t.Rows) + p_j)) (w64 (e_13 - e_18)) t_21 ht_21 _ m s9 q9 h9 _ hE20) fun a w _ hR hF=>hK _ _ ?_
 obtain ⟨q22,rfl,hR20,h22⟩:=hR
 have hS : St _ _ _ _ [q22,[⟨b6,[s1.v,s2.v,s3.v,s4.v],50⟩]]:=hS20.leaveF hR20
 refine ⟨⟨kpC hSo hS 1 1 rfl rfl kpN,fun _=>hS.vis.of_le (Mem.le.refl _)⟩,?_⟩
 refine e_p (v:=(iV t_21.1)) 22 hF rfl (ex_assign rfl) rfl rfl (by kernel_rfl) (by kernel_rfl) (by kernel_rfl) fun a hF=>e_end (by kernel_rfl) (n_sq ?_) _
 refine q_seq (q_region (q_x (v:=(.agg #[s1.v,s2.v,s3.v,s4.v])) hF hS (ex_loadA (vs:=[s1.v,s2.v,s3.v,s4.v]) 1 0 Try.underlying50 rfl sz50 rfl rfl rfl rfl) rfl rfl fun a hF=>q_x (v:=s5.v) hF hS (ex_move rfl) rfl rfl fun a hF=>q_x (v:=s9.v) hF hS (ex_move rfl) rfl rfl fun a hF=>q_x (v:=(iV (w64 ((w64 (p_i * (goLen p_t.Cols))) + p_j)))) hF hS (ex_move rfl) rfl rfl fun a hF=>?_))
 obtain ⟨m24,hl24,hv24,hz24⟩:=hS.lend
 obtain ⟨t_23,ht_23,hr⟩:=bindS hr
 refine q_call (vs:=[(.agg #[s1.v,s2.v,s3.v,s4.v]),s5.v,s9.v,(iV (w64 ((w64 (p_i * (goLen p_t.Cols))) + p_j)))]) hF hS Try.func169 (by kernel_rfl) rfl rfl rfl (c_impl_restore p_t p_x t_21.2 (w64 ((w64 (p_i * (goLen p_t.Cols))) + p_j)) t_23 ht_23 _ m24 hv24 s1 (h1.mono hl24) s2 (h2.mono hl24) s3 (h3.mono hl24) s4 (h4.mono hl24) s5 (h5.mono hl24) s9 (h22.froz hl24 (hz24 0 _ rfl))) ?_
 rintro a w _ ⟨q26,s26,rfl,hR25,h26,h26n⟩ hF hS2
 have hS : St _ _ _ _ [q26,q22,[⟨b6,[s1.v,s2.v,s3.v,s4.v],50⟩]]:=hS.joinF hR25
 have h26:=h26.any m
 refine q_x (v:=s26.v) hF hS (ex_assign rfl) rfl rfl fun a hF=>q_end (n_sq (q_seq (q_region (q_x (v:=s26.v) hF hS (ex_move rfl) rfl rfl fun a hF=>q_x (v:=(iV p_i)) hF hS (ex_move rfl) rfl rfl fun a hF=>?_))))
 obtain ⟨e_27,he_27,hr⟩:=bindS hr
 obtain ⟨s28,hV28⟩:=h26.view he_27
 refine q_x (v:=(elP s26 (p_i.toNat * 1))) hF hS (ex_indexAddr Try.underlying23 sz28 rfl rfl (h26.idx he_27)) rfl rfl fun a hF=>q_x (v:=s28.v) hF hS (ex_loadE1 0 Try.underlying28 rfl rfl ((hV28.atH he_27).at 0 rfl) rfl rfl) rfl rfl fun a hF=>q_x (v:=(iV p_j)) hF hS (ex_move rfl) rfl rfl fun a hF=>?_
 obtain ⟨e_29,he_29,hr⟩:=bindS hr
 obtain ⟨vs30,at30,d30⟩:=hV28.at he_27 he_29 1 rfl
 obtain rfl : vs30 = [(iV e_29)]:=d30
 refine q_x (v:=(elP s28 (p_j.toNat * 1))) hF hS (ex_indexAddr Try.underlying28 sz3 rfl rfl (hV28.idx he_27 he_29)) rfl rfl fun a hF=>q_x (v:=(iV e_29)) hF hS (ex_loadE1 0 Try.underlying3 rfl rfl (at30.at 0 rfl) rfl rfl) rfl rfl fun a hF=>q_x (v:=(iV t_21.1)) hF hS (ex_move rfl) rfl rfl fun a hF=>q_x (v:=(iV (w64 (e_29 - t_21.1)))) hF hS (ex_ibin rfl rfl rfl) rfl rfl fun a hF=>?_
 obtain ⟨e_31,he_31,hr⟩:=bindS hr
 obtain ⟨vs32,at32,d32⟩:=hV28.at he_27 he_31 1 rfl
 obtain rfl : vs32 = [(iV e_31)]:=d32
 refine q_x (v:=(elP s28 (p_j.toNat * 1))) hF hS (ex_indexAddr Try.underlying28 sz3 rfl rfl (hV28.idx he_27 he_31)) rfl rfl fun a hF=>q_do rfl fun _ hK=>wp_storeV (e':=(w64 (e_29 - t_21.1))) (us:=[(iV (w64 (e_29 - t_21.1)))]) (vs:=[(iV e_31)]) 0 hF hS hV28 he_27 sz3 rfl rfl rfl rfl rfl rfl rfl he_31 at32 rfl rfl rfl fun w q33 hS h33=>hK _ _ (q_end (n_sq (q_seq (q_region (q_x (v:=s26.v) hF hS (ex_move rfl) rfl rfl fun a hF=>q_x (v:=s26.v) hF hS (ex_assign rfl) rfl rfl fun a hF=>q_end (n_sq (q_ret ?_)))))))
 obtain rfl:=someI hr
 exact ret_of hF hS rfl (.tmp rfl .nil) ⟨q33,s26,rfl,hS.sel [0] (by decide),h33.own,(NF.set h26n)⟩

theorem c_impl_firstFrom (p_t : impl_Transport) (p_x : List (List Int)) (p_from : Int) (r : (List (List Int))) (hr : impl_firstFrom p_t p_x p_from = some r) (w0 : World) (m : Mem) (s1 : Sl) (h1 : Rd m s1 p_t.Rows) (s2 : Sl) (h2 : Rd m s2 p_t.Cols) (s3 : Sl) (h3 : Rd m s3 p_t.Lo) (s4 : Sl) (h4 : Rd m s4 p_t.Hi) (s5 : Sl) (q5 : Piece) (h5 : OwnD m 28 3 q5 s5 p_x) (X : List Nat) (hS : St X w0 w0 m [q5]) :
  RetX Try.prog 163 [(.agg #[s1.v,s2.v,s3.v,s4.v]),s5.v,(iV p_from)] w0 (fun v w=>∃ (q0' : Piece) (s0' : Sl),v = s0'.v∧St X w0 w m [q0']∧OwnD m 28 3 q0' s0' r∧NF s0' r):=by
 unfold impl_firstFrom at hr
 refine ret_startX Try.func163 rfl 33 rfl rfl fun a hF=>?_
 obtain ⟨_,hne1,hr⟩:=bindS hr
 refine q_seq (q_region (q_box (cs:=[s1.v,s2.v,s3.v,s4.v]) hF hS rfl rfl rfl fun a w b6 hF hS=>q_x (v:=nilS.v) hF hS (ex_assign rfl) rfl rfl fun a hF=>q_end (n_sq (q_seq (q_region (q_x (v:=(.pointer (some ⟨b6,1,none⟩))) hF hS (ex_fieldAddr Try.underlying50 rfl sz28 rfl rfl) rfl rfl fun a hF=>q_x (v:=s2.v) hF hS (ex_load1 0 0 Try.underlying28 rfl rfl rfl rfl) rfl rfl fun a hF=>q_x (v:=(iV (goLen p_t.Cols))) hF hS (ex_len Try.underlying28 rfl h2.len) rfl rfl fun a hF=>q_x (v:=(iV (goLen p_t.Cols))) hF hS (ex_assign rfl) rfl rfl fun a hF=>q_end (n_sq (q_seq (q_seq (q_region (q_x (v:=(iV p_from)) hF hS (ex_move rfl) rfl rfl fun a hF=>q_x (v:=(iV (w64 (p_from + 1)))) hF hS (ex_ibin rfl rfl rfl) rfl rfl fun a hF=>q_x (v:=(iV (w64 (p_from + 1)))) hF hS (ex_assign rfl) rfl rfl fun a hF=>q_end (n_sq (q_block ?_)))))))))))))
 obtain ⟨x_16,hl1,hr⟩:=bindS hr
 refine q_loop (fun (s : (List (List Int)) × Int) a w=>∃ (q8 : Piece),∃ (s8 : Sl),∃ x_7,∃ p_9,s = (x_7,p_9)∧Fr a 33 [(1,s8.v),(3,(.pointer (some ⟨b6,0,none⟩))),(7,(iV (goLen p_t.Cols))),(8,(iV p_9))]∧St X w0 w m [q8,[⟨b6,[s1.v,s2.v,s3.v,s4.v],50⟩]]∧OwnD m 28 3 q8 s8 x_7∧NF s8 x_7) (fun (x_16 : (List (List Int))) e a w=>∃ (q17 : Piece),∃ (s17 : Sl),e = .exit 0∧Fr a 33 [(1,s17.v)]∧St X w0 w m [q17]∧OwnD m 28 3 q17 s17 x_16∧NF s17 x_16) hl1 ⟨q5,s5,_,_,rfl,hF.sub ⟨rfl,rfl,rfl,rfl,trivial⟩,hS.sel [1,0] (by decide),h5,(NF.goNE hne1)⟩ ?_ ?_
 ·clear hF hS
  rintro s a w st ⟨q8,s8,x_7,p_9,rfl,hF,hS,h8,h8n⟩ hb1
  unfold impl_firstFrom_l1 at hb1
  refine q_seq (q_seq (q_region (q_x (v:=(iV p_9)) hF hS (ex_move rfl) rfl rfl fun a hF=>q_x (v:=(.pointer (some ⟨b6,0,none⟩))) hF hS (ex_fieldAddr Try.underlying50 rfl sz28 rfl rfl) rfl rfl fun a hF=>q_x (v:=s1.v) hF hS (ex_load1 1 0 Try.underlying28 rfl rfl rfl rfl) rfl rfl fun a hF=>q_x (v:=(iV (goLen p_t.Rows))) hF hS (ex_len Try.underlying28 rfl h1.len) rfl rfl fun a hF=>q_x (v:=(iV (goLen p_t.Cols))) hF hS (ex_move rfl) rfl rfl fun a hF=>q_x (v:=(iV (w64 ((goLen p_t.Rows) * (goLen p_t.Cols))))) hF hS (ex_ibin rfl rfl rfl) rfl rfl fun a hF=>q_x (v:=(.bool (decide (p_9 < (w64 ((goLen p_t.Rows) * (goLen p_t.Cols))))))) hF hS (ex_ibin rfl rfl rfl) rfl rfl fun a hF=>q_end (n_sq ?_))))
  rcases bcase (decide (p_9 < (w64 ((goLen p_t.Rows) * (goLen p_t.Cols))))) with hc2 | hc2
  ·have hb1:=cond_f hc2 hb1
   refine q_cond_f hF rfl hc2 (q_exit (x_sq ?_))
   obtain rfl:=someI hb1
   exact ⟨nofun,.inl ⟨q8,s8,rfl,hF.sub ⟨rfl,trivial⟩,hS.mask [true,false],h8,h8n⟩⟩
  ·have hb1:=cond_t hc2 hb1
   refine q_cond_t hF rfl hc2 (q_skipc (n_sq (q_seq (q_block (e_region ⟨[],[],m⟩ mixed fun w' hw'=>?_)))))
   have hS:=hS.below hw'
   refine e_x (v:=(.agg #[s1.v,s2.v,s3.v,s4.v])) 0 hF hS rfl (ex_loadA (vs:=[s1.v,s2.v,s3.v,s4.v]) 1 0 Try.underlying50 rfl sz50 rfl rfl rfl rfl) rfl rfl (by kernel_rfl) (by kernel_rfl) (by kernel_rfl) (by kernel_rfl) fun a hF=>e_p (v:=s8.v) 1 hF rfl (ex_move rfl) rfl rfl (by kernel_rfl) (by kernel_rfl) (by kernel_rfl) fun a hF=>e_p (v:=(iV p_9)) 2 hF rfl (ex_move rfl) rfl rfl (by kernel_rfl) (by kernel_rfl) (by kernel_rfl) fun a hF=>e_p (v:=(iV (goLen p_t.Cols))) 3 hF rfl (ex_move rfl) rfl rfl (by kernel_rfl) (by kernel_rfl) (by kernel_rfl) fun a hF=>?_
   obtain ⟨t_10,ht_10,hb1⟩:=bindS hb1
   refine e_p (v:=(iV t_10)) 4 hF rfl (ex_quo rfl rfl ht_10) rfl rfl (by kernel_rfl) (by kernel_rfl) (by kernel_rfl) fun a hF=>e_p (v:=(iV p_9)) 5 hF rfl (ex_move rfl) rfl rfl (by kernel_rfl) (by kernel_rfl) (by kernel_rfl) fun a hF=>e_p (v:=(iV (goLen p_t.Cols))) 6 hF rfl (ex_move rfl) rfl rfl (by kernel_rfl) (by kernel_rfl) (by kernel_rfl) fun a hF=>?_
   obtain ⟨t_11,ht_11,hb1⟩:=bindS hb1
   refine e_p (v:=(iV t_11)) 7 hF rfl (ex_rem rfl rfl ht_11) rfl rfl (by kernel_rfl) (by kernel_rfl) (by kernel_rfl) fun a hF=>e_one 8 (by kernel_rfl) ?_
   obtain ⟨m13,hl13,hv13,hz13⟩:=hS.lend
   obtain ⟨t_12,ht_12,hb1⟩:=bindS hb1
   refine e_call (vs:=[(.agg #[s1.v,s2.v,s3.v,s4.v]),s8.v,(iV t_10),(iV t_11)]) hF hS rfl Try.func183 (by kernel_rfl) rfl rfl rfl (c_impl_lowered p_t x_7 t_10 t_11 t_12 ht_12 _ m13 hv13 s1 (h1.mono hl13) s2 (h2.mono hl13) s3 (h3.mono hl13) s4 (h4.mono hl13) s8 (h8.froz hl13 (hz13 0 _ rfl))) ?_
   rintro a w _ ⟨q15,s15,rfl,hR14,h15,h15n⟩ hF hS2
   have hS : St _ _ _ _ [q15,q8,[⟨b6,[s1.v,s2.v,s3.v,s4.v],50⟩]]:=hS.joinF hR14
   have h15:=h15.any m
   refine e_p (v:=s15.v) 9 hF rfl (ex_assign rfl) rfl rfl (by kernel_rfl) (by kernel_rfl) (by kernel_rfl) fun a hF=>e_end (by kernel_rfl) (n_ib (n_sq ?_)) _
   refine q_region (q_x (v:=(iV p_9)) hF hS (ex_move rfl) rfl rfl fun a hF=>q_x (v:=(iV (w64 (p_9 + 1)))) hF hS (ex_ibin rfl rfl rfl) rfl rfl fun a hF=>q_x (v:=(iV (w64 (p_9 + 1)))) hF hS (ex_assign rfl) rfl rfl fun a hF=>q_end ?_)
   obtain rfl:=someI hb1
   exact ⟨rfl,q15,s15,_,_,rfl,hF.sub ⟨rfl,rfl,rfl,rfl,trivial⟩,hS.mask [true,false,true],h15,h15n⟩
 ·rintro e a w ⟨q17,s17,rfl,hF,hS,h17,h17n⟩
  refine x_ib (n_sq ?_)
  refine q_seq (q_region (q_x (v:=s17.v) hF hS (ex_move rfl) rfl rfl fun a hF=>q_x (v:=s17.v) hF hS (ex_assign rfl) rfl rfl fun a hF=>q_end (n_sq (q_ret ?_))))
  obtain rfl:=someI hr
  exact ret_ofX hF hS rfl (.tmp rfl .nil) ⟨q17,s17,rfl,hS.sel [0] (by decide),h17,h17n⟩

theorem c_impl_firstFlow (p_t : impl_Transport) (r : (List (List Int))) (hr : impl_firstFlow p_t = some r) (w0 : World) (m : Mem) (hv : Vis m w0) (s1 : Sl) (h1 : Rd m s1 p_t.Rows) (s2 : Sl) (h2 : Rd m s2 p_t.Cols) (s3 : Sl) (h3 : Rd m s3 p_t.Lo) (s4 : Sl) (h4 : Rd m s4 p_t.Hi) :
  Ret Try.prog 117 [(.agg #[s1.v,s2.v,s3.v,s4.v])] w0 (fun v w=>∃ (q0' : Piece) (s0' : Sl),v = s0'.v∧St [] w0 w m [q0']∧OwnD m 28 3 q0' s0' r∧NF s0' r):=by
 unfold impl_firstFlow at hr
 refine ret_start Try.func117 rfl 11 rfl rfl m hv fun a hF hS=>q_seq (q_region (q_box (cs:=[s1.v,s2.v,s3.v,s4.v]) hF hS rfl rfl rfl fun a w b5 hF hS=>q_x (v:=nilS.v) hF hS (ex_assign rfl) rfl rfl fun a hF=>q_end (n_sq (q_seq (q_region (q_x (v:=(.agg #[s1.v,s2.v,s3.v,s4.v])) hF hS (ex_loadA (vs:=[s1.v,s2.v,s3.v,s4.v]) 0 0 Try.underlying50 rfl sz50 rfl rfl rfl rfl) rfl rfl fun a hF=>?_))))))
 obtain ⟨t_6,ht_6,hr⟩:=bindS hr
 refine q_call (vs:=[(.agg #[s1.v,s2.v,s3.v,s4.v])]) hF hS Try.func124 (by kernel_rfl) rfl rfl rfl (c_impl_anyFlow p_t t_6 ht_6 _ m hS.vis s1 h1 s2 h2 s3 h3 s4 h4) ?_
 rintro a w _ ⟨q8,s8,rfl,hR7,h8,h8n⟩ hF hS2
 have hS : St _ _ _ _ [q8,[⟨b5,[s1.v,s2.v,s3.v,s4.v],50⟩]]:=hS.joinF hR7
 refine q_x (v:=s8.v) hF hS (ex_assign rfl) rfl rfl fun a hF=>q_end (n_sq (q_seq (q_seq (q_region (q_x (v:=s8.v) hF hS (ex_move rfl) rfl rfl fun a hF=>q_x (v:=(.bool t_6.isEmpty)) hF hS (ex_eqNilF Try.underlying23 h8n h8.nilE rfl rfl) rfl rfl fun a hF=>q_end (n_sq ?_))))))
 rcases bcase (t_6.isEmpty) with hc1 | hc1
 ·have hr:=cond_f hc1 hr
  refine q_cond_f hF rfl hc1 (q_skipc (n_sq (q_seq (q_region (q_x (v:=(.agg #[s1.v,s2.v,s3.v,s4.v])) hF hS (ex_loadA (vs:=[s1.v,s2.v,s3.v,s4.v]) 1 0 Try.underlying50 rfl sz50 rfl rfl rfl rfl) rfl rfl fun a hF=>q_x (v:=s8.v) hF hS (ex_move rfl) rfl rfl fun a hF=>?_)))))
  have hS9 : St _ _ _ _ ([q8]++[[⟨b5,[s1.v,s2.v,s3.v,s4.v],50⟩]]):=hS
  have hE9:=hS9.enter
  obtain ⟨t_10,ht_10,hr⟩:=bindS hr
  refine q_do rfl fun _ hK=>wp_callX (vs:=[(.agg #[s1.v,s2.v,s3.v,s4.v]),s8.v,(iV (-1))]) hF Try.func163 (by kernel_rfl) rfl rfl rfl (c_impl_firstFrom p_t t_6 (-1) t_10 ht_10 _ m s1 h1 s2 h2 s3 h3 s4 h4 s8 q8 h8 _ hE9) fun a w _ hR hF=>hK _ _ ?_
  obtain ⟨q11,s11,rfl,hR9,h11,h11n⟩:=hR
  have hS : St _ _ _ _ [q11,[⟨b5,[s1.v,s2.v,s3.v,s4.v],50⟩]]:=hS9.leaveF hR9
  refine q_x (v:=s11.v) hF hS (ex_assign rfl) rfl rfl fun a hF=>q_end (n_sq (q_ret ?_))
  obtain rfl:=someI hr
  exact ret_of hF hS rfl (.tmp rfl .nil) ⟨q11,s11,rfl,hS.sel [0] (by decide),h11,h11n⟩
 ·have hr:=cond_t hc1 hr
  refine q_cond_t hF rfl hc1 (q_seq (q_region (q_x (v:=nilS.v) hF hS (ex_assign rfl) rfl rfl fun a hF=>q_end (n_sq (q_ret (r_sq ?_))))))
  obtain rfl:=someI hr
  exact ret_of hF hS rfl (.tmp rfl .nil) ⟨[],nilS,rfl,hS.sel [2] (by decide),(OwnD.nil (β:=Int) m 28 3),(NF.nil)⟩

theorem c_impl_WitnessTables (p_x : List (List Int)) (p_p : List (List Int)) (p_i : Int) (p_j : Int) (r : (List (List Int)) × (List (List Int)) × Bool) (hr : impl_WitnessTables p_x p_p p_i p_j = some r) (w0 : World) (m : Mem) (hv : Vis m w0) (s1 : Sl) (h1 : Rd m s1 p_x) (s2 : Sl) (h2 : Rd m s2 p_p) :
  Ret Try.prog 41 [s1.v,s2.v,(iV p_i),(iV p_j)] w0 (fun v w=>∃ (q0' : Piece) (q1' : Piece) (s0' : Sl) (s1' : Sl),v = (.tuple #[s0'.v,s1'.v,(.bool r.2.2)])∧St [] w0 w m [q0',q1']∧OwnD m 28 3 q0' s0' r.1∧OwnD m 28 3 q1' s1' r.2.1):=by
 unfold impl_WitnessTables at hr
 refine ret_start Try.func41 rfl 65 rfl rfl m hv fun a hF hS=>q_seq (q_region (q_x (v:=nilS.v) hF hS (ex_assign rfl) rfl rfl fun a hF=>q_x (v:=nilS.v) hF hS (ex_assign rfl) rfl rfl fun a hF=>q_x (v:=(.bool false)) hF hS (ex_assign rfl) rfl rfl fun a hF=>q_end (n_sq (q_seq (q_seq ?_)))))
 obtain ⟨t_5,hj1,hr⟩:=bindS hr
 refine q_join (fun a w=>Fr a 65 [(0,s1.v),(1,s2.v),(2,(iV p_i)),(3,(iV p_j)),(25,(.bool t_5))]∧St [] w0 w m []) ?_ ?_
 ·refine q_region (q_x (v:=s1.v) hF hS (ex_move rfl) rfl rfl fun a hF=>q_x (v:=s2.v) hF hS (ex_move rfl) rfl rfl fun a hF=>?_)
  obtain ⟨t_3,ht_3,hj1⟩:=bindS hj1
  refine q_call (vs:=[s1.v,s2.v]) hF hS Try.func95 (by kernel_rfl) rfl rfl rfl (c_impl_areSuppressed p_x p_p t_3 ht_3 _ m hS.vis s1 h1 s2 h2) ?_
  rintro a w _ rfl hF hS
  refine q_x (v:=(.bool (!t_3))) hF hS (ex_not rfl) rfl rfl fun a hF=>q_x (v:=(.bool (!t_3))) hF hS (ex_move rfl) rfl rfl fun a hF=>?_
  rcases bcase (!t_3) with hc2 | hc2
  ·have hj1:=cond_f hc2 hj1
   refine q_xg (v:=s2.v) hF hS (ex_move rfl) (wanted_t hF rfl rfl rfl hc2) rfl fun a hF=>q_xg (v:=(iV p_i)) hF hS (ex_move rfl) (wanted_t hF rfl rfl rfl hc2) rfl fun a hF=>q_xg (v:=(iV p_j)) hF hS (ex_move rfl) (wanted_t hF rfl rfl rfl hc2) rfl fun a hF=>?_
   obtain ⟨t_4,ht_4,hj1⟩:=bindS hj1
   refine q_callg (vs:=[s2.v,(iV p_i),(iV p_j)]) hF hS (wanted_t hF rfl rfl rfl hc2) Try.func108 (by kernel_rfl) rfl rfl rfl (c_impl_isHidden p_p p_i p_j t_4 ht_4 _ m hS.vis s2 h2) ?_
   rintro a w _ rfl hF hS
   refine q_xg (v:=(.bool (!t_4))) hF hS (ex_not rfl) (wanted_t hF rfl rfl rfl hc2) rfl fun a hF=>q_x (v:=(.bool (!t_4))) hF hS (ex_pick_f rfl rfl hc2) rfl rfl fun a hF=>q_end (n_jn ?_)
   obtain rfl:=someI hj1
   exact ⟨hF.sub ⟨rfl,rfl,rfl,rfl,rfl,trivial⟩,hS⟩
  ·have hj1:=cond_t hc2 hj1
   refine q_skip hF (wanted_f hF rfl rfl rfl hc2 rfl) rfl fun a hF=>q_skip hF (wanted_f hF rfl rfl rfl hc2 rfl) rfl fun a hF=>q_skip hF (wanted_f hF rfl rfl rfl hc2 rfl) rfl fun a hF=>q_skip hF (wanted_f hF rfl rfl rfl hc2 rfl) rfl fun a hF=>q_skip hF (wanted_f hF rfl rfl rfl hc2 rfl) rfl fun a hF=>q_x (v:=(.bool true)) hF hS (ex_pick_t rfl rfl hc2) rfl rfl fun a hF=>q_end (n_jn ?_)
   obtain rfl:=someI hj1
   exact ⟨hF.sub ⟨rfl,rfl,rfl,rfl,rfl,trivial⟩,hS⟩
 ·rintro a w ⟨hF,hS⟩
  refine n_sq ?_
  rcases bcase (t_5) with hc3 | hc3
  ·have hr:=cond_f hc3 hr
   refine q_cond_f hF rfl hc3 (q_skipc (n_sq (q_seq (q_region (q_x (v:=s1.v) hF hS (ex_move rfl) rfl rfl fun a hF=>q_x (v:=s2.v) hF hS (ex_move rfl) rfl rfl fun a hF=>?_)))))
   obtain ⟨t_6,ht_6,hr⟩:=bindS hr
   refine q_call (vs:=[s1.v,s2.v]) hF hS Try.func97 (by kernel_rfl) rfl rfl rfl (c_impl_attackNetwork p_x p_p t_6 ht_6 _ m hS.vis s1 h1 s2 h2) ?_
   rintro a w _ ⟨q8,q9,q10,q11,s8,s9,s10,s11,rfl,hR7,h8,h9,h10,h11⟩ hF hS2
   have hS : St _ _ _ _ [q8,q9,q10,q11]:=hS.joinF hR7
   refine q_alloc (cs:=[nilS.v,nilS.v,nilS.v,nilS.v]) hF hS rfl rfl rfl fun a w b12 hF hS=>q_store (vs:=[s8.v,s9.v,s10.v,s11.v]) (cs':=[s8.v,s9.v,s10.v,s11.v]) 0 0 hF hS sz50 rfl rfl rfl rfl rfl rfl rfl rfl fun a w hF hS=>q_end (n_sq (q_seq (q_region (q_x (v:=(.agg #[s8.v,s9.v,s10.v,s11.v])) hF hS (ex_loadA (vs:=[s8.v,s9.v,s10.v,s11.v]) 0 0 Try.underlying50 rfl sz50 rfl rfl rfl rfl) rfl rfl fun a hF=>q_x (v:=s1.v) hF hS (ex_move rfl) rfl rfl fun a hF=>q_x (v:=(iV p_i)) hF hS (ex_move rfl) rfl rfl fun a hF=>q_x (v:=(iV p_j)) hF hS (ex_move rfl) rfl rfl fun a hF=>?_))))
   obtain ⟨m14,hl14,hv14,hz14⟩:=hS.lend
   obtain ⟨t_13,ht_13,hr⟩:=bindS hr
   refine q_call (vs:=[(.agg #[s8.v,s9.v,s10.v,s11.v]),s1.v,(iV p_i),(iV p_j)]) hF hS Try.func101 (by kernel_rfl) rfl rfl rfl (c_impl_rangeOf t_6 p_x p_i p_j t_13 ht_13 _ m14 hv14 s8 (h8.froz hl14 (hz14 1 _ rfl)) s9 (h9.froz hl14 (hz14 2 _ rfl)) s10 (h10.froz hl14 (hz14 3 _ rfl)) s11 (h11.froz hl14 (hz14 4 _ rfl)) s1 (h1.mono hl14)) ?_
   rintro a w _ rfl hF hS
   refine q_x (v:=(.tuple #[(iV t_13.1),(iV t_13.2)])) hF hS (ex_move rfl) rfl rfl fun a hF=>q_x (v:=(iV t_13.1)) hF hS (ex_extract rfl rfl) rfl rfl fun a hF=>q_x (v:=(iV t_13.2)) hF hS (ex_extract rfl rfl) rfl rfl fun a hF=>q_x (v:=(iV t_13.1)) hF hS (ex_assign rfl) rfl rfl fun a hF=>q_x (v:=(iV t_13.2)) hF hS (ex_assign rfl) rfl rfl fun a hF=>q_end (n_sq (q_seq (q_region (q_x (v:=(.pointer (some ⟨b12,3,none⟩))) hF hS (ex_fieldAddr Try.underlying50 rfl sz23 rfl rfl) rfl rfl fun a hF=>q_x (v:=s11.v) hF hS (ex_load1 0 0 Try.underlying23 rfl rfl rfl rfl) rfl rfl fun a hF=>q_x (v:=(iV p_i)) hF hS (ex_move rfl) rfl rfl fun a hF=>?_))))
   obtain ⟨e_15,he_15,hr⟩:=bindS hr
   obtain ⟨s16,hV16⟩:=h11.view he_15
   refine q_x (v:=(elP s11 (p_i.toNat * 1))) hF hS (ex_indexAddr Try.underlying23 sz28 rfl rfl (h11.idx he_15)) rfl rfl fun a hF=>q_x (v:=s16.v) hF hS (ex_loadE1 0 Try.underlying28 rfl rfl ((hV16.atH he_15).at 4 rfl) rfl rfl) rfl rfl fun a hF=>q_x (v:=(iV p_j)) hF hS (ex_move rfl) rfl rfl fun a hF=>q_x (v:=(iV t_13.1)) hF hS (ex_move rfl) rfl rfl fun a hF=>?_
   obtain ⟨e_17,he_17,hr⟩:=bindS hr
   obtain ⟨vs18,at18,d18⟩:=hV16.at he_15 he_17 1 rfl
   obtain rfl : vs18 = [(iV e_17)]:=d18
   refine q_x (v:=(elP s16 (p_j.toNat * 1))) hF hS (ex_indexAddr Try.underlying28 sz3 rfl rfl (hV16.idx he_15 he_17)) rfl rfl fun a hF=>?_
   have hS : St _ _ _ _ [q11,[⟨b12,[s8.v,s9.v,s10.v,s11.v],50⟩],q8,q9,q10]:=hS.sel [4,0,1,2,3] (by decide)
   refine q_do rfl fun _ hK=>wp_storeV (e':=t_13.1) (us:=[(iV t_13.1)]) (vs:=[(iV e_17)]) 0 hF hS hV16 he_15 sz3 rfl rfl rfl rfl rfl rfl rfl he_17 at18 rfl rfl rfl fun w q19 hS h19=>hK _ _ (q_end (n_sq (q_seq (q_region (q_x (v:=(.agg #[s8.v,s9.v,s10.v,s11.v])) hF hS (ex_loadA (vs:=[s8.v,s9.v,s10.v,s11.v]) 1 0 Try.underlying50 rfl sz50 rfl rfl rfl rfl) rfl rfl fun a hF=>?_)))))
   obtain ⟨m21,hl21,hv21,hz21⟩:=hS.lend
   obtain ⟨t_20,ht_20,hr⟩:=bindS hr
   refine q_call (vs:=[(.agg #[s8.v,s9.v,s10.v,s11.v])]) hF hS Try.func117 (by kernel_rfl) rfl rfl rfl (c_impl_firstFlow (impl_Transport.mk t_6.Rows t_6.Cols t_6.Lo (goSet t_6.Hi p_i (goSet e_15 p_j t_13.1))) t_20 ht_20 _ m21 hv21 s8 (h8.froz hl21 (hz21 2 _ rfl)) s9 (h9.froz hl21 (hz21 3 _ rfl)) s10 (h10.froz hl21 (hz21 4 _ rfl)) s11 (h19.own.froz hl21 (hz21 0 _ rfl))) ?_
   rintro a w _ ⟨q23,s23,rfl,hR22,h23,h23n⟩ hF hS2
   have hS : St _ _ _ _ [q23,q19,[⟨b12,[s8.v,s9.v,s10.v,s11.v],50⟩],q8,q9,q10]:=hS.joinF hR22
   have h23:=h23.any m
   refine q_x (v:=s23.v) hF hS (ex_assign rfl) rfl rfl fun a hF=>q_end (n_sq (q_seq (e_region ⟨[14,16],[b12],m⟩ mixed fun w' hw'=>?_)))
   have hS:=hS.below hw'
   refine e_p (v:=(.pointer (some ⟨b12,3,none⟩))) 0 hF rfl (ex_fieldAddr Try.underlying50 rfl sz23 rfl rfl) rfl rfl (by kernel_rfl) (by kernel_rfl) (by kernel_rfl) fun a hF=>e_xb (v:=s11.v) 1 2 hF hS (.head _) rfl rfl (ex_load1 0 0 Try.underlying23 rfl rfl rfl rfl) rfl rfl (by kernel_rfl) (by kernel_rfl) (by kernel_rfl) fun a hF=>e_p (v:=(iV p_i)) 2 hF rfl (ex_move rfl) rfl rfl (by kernel_rfl) (by kernel_rfl) (by kernel_rfl) fun a hF=>?_
   obtain ⟨e_24,he_24,hr⟩:=bindS hr
   obtain ⟨s25,hV25⟩:=h19.own.view he_24
   refine e_p (v:=(elP s11 (p_i.toNat * 1))) 3 hF rfl (ex_indexAddr Try.underlying23 sz28 rfl rfl (h19.own.idx he_24)) rfl rfl (by kernel_rfl) (by kernel_rfl) (by kernel_rfl) fun a hF=>e_x (v:=s25.v) 4 hF hS rfl (ex_loadE1 0 Try.underlying28 rfl rfl ((hV25.atH he_24).at 1 rfl) rfl rfl) rfl rfl (by kernel_rfl) (by kernel_rfl) (by kernel_rfl) (by kernel_rfl) fun a hF=>e_p (v:=(iV p_j)) 5 hF rfl (ex_move rfl) rfl rfl (by kernel_rfl) (by kernel_rfl) (by kernel_rfl) fun a hF=>e_p (v:=(.pointer (some ⟨b12,2,none⟩))) 6 hF rfl (ex_fieldAddr Try.underlying50 rfl sz23 rfl rfl) rfl rfl (by kernel_rfl) (by kernel_rfl) (by kernel_rfl) fun a hF=>e_xb (v:=s10.v) 7 2 hF hS (.head _) rfl rfl (ex_load1 0 0 Try.underlying23 rfl rfl rfl rfl) rfl rfl (by kernel_rfl) (by kernel_rfl) (by kernel_rfl) fun a hF=>e_p (v:=(iV p_i)) 8 hF rfl (ex_move rfl) rfl rfl (by kernel_rfl) (by kernel_rfl) (by kernel_rfl) fun a hF=>?_
   obtain ⟨e_26,he_26,hr⟩:=bindS hr
   obtain ⟨s27,hV27⟩:=h10.view he_26
   refine e_p (v:=(elP s10 (p_i.toNat * 1))) 9 hF rfl (ex_indexAddr Try.underlying23 sz28 rfl rfl (h10.idx he_26)) rfl rfl (by kernel_rfl) (by kernel_rfl) (by kernel_rfl) fun a hF=>e_x (v:=s27.v) 10 hF hS rfl (ex_loadE1 0 Try.underlying28 rfl rfl ((hV27.atH he_26).at 5 rfl) rfl rfl) rfl rfl (by kernel_rfl) (by kernel_rfl) (by kernel_rfl) (by kernel_rfl) fun a hF=>e_p (v:=(iV p_j)) 11 hF rfl (ex_move rfl) rfl rfl (by kernel_rfl) (by kernel_rfl) (by kernel_rfl) fun a hF=>e_p (v:=(iV t_13.2)) 12 hF rfl (ex_move rfl) rfl rfl (by kernel_rfl) (by kernel_rfl) (by kernel_rfl) fun a hF=>?_
   obtain ⟨e_28,he_28,hr⟩:=bindS hr
   obtain ⟨vs29,at29,d29⟩:=hV25.at he_24 he_28 1 rfl
   obtain rfl : vs29 = [(iV e_28)]:=d29
   refine e_p (v:=(elP s25 (p_j.toNat * 1))) 13 hF rfl (ex_indexAddr Try.underlying28 sz3 rfl rfl (hV25.idx he_24 he_28)) rfl rfl (by kernel_rfl) (by kernel_rfl) (by kernel_rfl) fun a hF=>e_one 14 (by kernel_rfl) ?_
   have hS : St _ _ _ _ [q19,q23,[⟨b12,[s8.v,s9.v,s10.v,s11.v],50⟩],q8,q9,q10]:=hS.sel [1,0,2,3,4,5] (by decide)
   have hSo:=hS
   refine e_opl rfl rfl rfl fun _ hK=>wp_storeV (e':=100000) (us:=[(iV 100000)]) (vs:=[(iV e_28)]) 0 hF hS hV25 he_24 sz3 rfl rfl rfl rfl rfl rfl rfl he_28 at29 rfl rfl rfl fun w q30 hS h30=>hK _ _ (⟨⟨kpC hSo hS 2 2 rfl rfl kpN,fun _=>hS.vis.of_le (Mem.le.refl _)⟩,?_⟩)
   obtain ⟨e_31,he_31,hr⟩:=bindS hr
   obtain ⟨vs32,at32,d32⟩:=hV27.at he_26 he_31 1 rfl
   obtain rfl : vs32 = [(iV e_31)]:=d32
   refine e_p (v:=(elP s27 (p_j.toNat * 1))) 15 hF rfl (ex_indexAddr Try.underlying28 sz3 rfl rfl (hV27.idx he_26 he_31)) rfl rfl (by kernel_rfl) (by kernel_rfl) (by kernel_rfl) fun a hF=>e_one 16 (by kernel_rfl) ?_
   have hS : St _ _ _ _ [q10,q30,q23,[⟨b12,[s8.v,s9.v,s10.v,s11.v],50⟩],q8,q9]:=hS.sel [5,0,1,2,3,4] (by decide)
   have hSo:=hS
   refine e_opl rfl rfl rfl fun _ hK=>wp_storeV (e':=t_13.2) (us:=[(iV t_13.2)]) (vs:=[(iV e_31)]) 0 hF hS hV27 he_26 sz3 rfl rfl rfl rfl rfl rfl rfl he_31 at32 rfl rfl rfl fun w q33 hS h33=>hK _ _ (⟨⟨kpC hSo hS 3 3 rfl rfl kpN,fun _=>hS.vis.of_le (Mem.le.refl _)⟩,?_⟩)
   refine e_end (by kernel_rfl) (n_sq ?_) _
   refine q_seq (q_region (q_x (v:=s23.v) hF hS (ex_move rfl) rfl rfl fun a hF=>q_x (v:=(.agg #[s8.v,s9.v,s10.v,s11.v])) hF hS (ex_loadA (vs:=[s8.v,s9.v,s10.v,s11.v]) 3 0 Try.underlying50 rfl sz50 rfl rfl rfl rfl) rfl rfl fun a hF=>?_))
   obtain ⟨m35,hl35,hv35,hz35⟩:=hS.lend
   obtain ⟨t_34,ht_34,hr⟩:=bindS hr
   refine q_call (vs:=[(.agg #[s8.v,s9.v,s10.v,s11.v])]) hF hS Try.func117 (by kernel_rfl) rfl rfl rfl (c_impl_firstFlow (impl_Transport.mk t_6.Rows t_6.Cols (goSet t_6.Lo p_i (goSet e_26 p_j t_13.2)) (goSet (goSet t_6.Hi p_i (goSet e_15 p_j t_13.1)) p_i (goSet e_24 p_j 100000))) t_34 ht_34 _ m35 hv35 s8 (h8.froz hl35 (hz35 4 _ rfl)) s9 (h9.froz hl35 (hz35 5 _ rfl)) s10 (h33.own.froz hl35 (hz35 0 _ rfl)) s11 (h30.own.froz hl35 (hz35 1 _ rfl))) ?_
   rintro a w _ ⟨q37,s37,rfl,hR36,h37,h37n⟩ hF hS2
   have hS : St _ _ _ _ [q37,q33,q30,q23,[⟨b12,[s8.v,s9.v,s10.v,s11.v],50⟩],q8,q9]:=hS.joinF hR36
   have h37:=h37.any m
   refine q_x (v:=s23.v) hF hS (ex_assign rfl) rfl rfl fun a hF=>q_x (v:=s37.v) hF hS (ex_assign rfl) rfl rfl fun a hF=>q_x (v:=(.bool true)) hF hS (ex_assign rfl) rfl rfl fun a hF=>q_end (n_sq (q_ret ?_))
   obtain rfl:=someI hr
   exact ret_of hF hS rfl (.tmp rfl (.tmp rfl (.tmp rfl .nil))) ⟨q23,q37,s23,s37,rfl,hS.sel [3,0] (by decide),h23,h37⟩
  ·have hr:=cond_t hc3 hr
   refine q_cond_t hF rfl hc3 (q_seq (q_region (q_x (v:=nilS.v) hF hS (ex_assign rfl) rfl rfl fun a hF=>q_x (v:=nilS.v) hF hS (ex_assign rfl) rfl rfl fun a hF=>q_x (v:=(.bool false)) hF hS (ex_assign rfl) rfl rfl fun a hF=>q_end (n_sq (q_ret (r_sq ?_))))))
   obtain rfl:=someI hr
   exact ret_of hF hS rfl (.tmp rfl (.tmp rfl (.tmp rfl .nil))) ⟨[],[],nilS,nilS,rfl,hS.sel [0,1] (by decide),(OwnD.nil (β:=Int) m 28 3),(OwnD.nil (β:=Int) m 28 3)⟩

theorem c_spec_tLow (p_t : impl_Transport) (p_i : Int) (p_j : Int) (r : Int) (hr : spec_tLow p_t p_i p_j = some r) (w0 : World) (m : Mem) (hv : Vis m w0) (s1 : Sl) (h1 : Rd m s1 p_t.Rows) (s2 : Sl) (h2 : Rd m s2 p_t.Cols) (s3 : Sl) (h3 : Rd m s3 p_t.Lo) (s4 : Sl) (h4 : Rd m s4 p_t.Hi) :
  Ret Try.prog 164 [(.agg #[s1.v,s2.v,s3.v,s4.v]),(iV p_i),(iV p_j)] w0 (fun v _=>v = (iV r)):=by
 unfold spec_tLow at hr
 refine ret_start Try.func164 rfl 57 rfl rfl m hv fun a hF hS=>q_seq (q_region (q_box (cs:=[s1.v,s2.v,s3.v,s4.v]) hF hS rfl rfl rfl fun a w b5 hF hS=>q_x (v:=(iV 0)) hF hS (ex_assign rfl) rfl rfl fun a hF=>q_end (n_sq (q_seq (e_region ⟨[],[],m⟩ mixed fun w' hw'=>?_)))))
 have hS:=hS.below hw'
 refine e_p (v:=(.pointer (some ⟨b5,2,none⟩))) 0 hF rfl (ex_fieldAddr Try.underlying50 rfl sz23 rfl rfl) rfl rfl (by kernel_rfl) (by kernel_rfl) (by kernel_rfl) fun a hF=>e_x (v:=s3.v) 1 hF hS rfl (ex_load1 0 0 Try.underlying23 rfl rfl rfl rfl) rfl rfl (by kernel_rfl) (by kernel_rfl) (by kernel_rfl) (by kernel_rfl) fun a hF=>e_p (v:=(iV p_i)) 2 hF rfl (ex_move rfl) rfl rfl (by kernel_rfl) (by kernel_rfl) (by kernel_rfl) fun a hF=>?_
 obtain ⟨e_6,he_6,hr⟩:=bindS hr
 obtain ⟨vs7,at7,d7⟩:=h3.at he_6 1 rfl
 obtain ⟨s8,rfl,h8⟩ : ∃ s8 : Sl,vs7 = [s8.v]∧Rd m s8 e_6:=d7
 refine e_p (v:=(elP s3 (p_i.toNat * 1))) 3 hF rfl (ex_indexAddr Try.underlying23 sz28 rfl rfl (h3.idx he_6)) rfl rfl (by kernel_rfl) (by kernel_rfl) (by kernel_rfl) fun a hF=>e_xm (v:=s8.v) 4 hF hS (Mem.le.refl _) rfl (ex_loadE1 0 Try.underlying28 rfl rfl ((at7).at) rfl rfl) rfl rfl (by kernel_rfl) (by kernel_rfl) (by kernel_rfl) fun a hF=>e_p (v:=(iV p_j)) 5 hF rfl (ex_move rfl) rfl rfl (by kernel_rfl) (by kernel_rfl) (by kernel_rfl) fun a hF=>?_
 obtain ⟨e_9,he_9,hr⟩:=bindS hr
 obtain ⟨vs10,at10,d10⟩:=h8.at he_9 1 rfl
 obtain rfl : vs10 = [(iV e_9)]:=d10
 refine e_p (v:=(elP s8 (p_j.toNat * 1))) 6 hF rfl (ex_indexAddr Try.underlying28 sz3 rfl rfl (h8.idx he_9)) rfl rfl (by kernel_rfl) (by kernel_rfl) (by kernel_rfl) fun a hF=>e_xm (v:=(iV e_9)) 7 hF hS (Mem.le.refl _) rfl (ex_loadE1 0 Try.underlying3 rfl rfl ((at10).at) rfl rfl) rfl rfl (by kernel_rfl) (by kernel_rfl) (by kernel_rfl) fun a hF=>e_p (v:=(.pointer (some ⟨b5,3,none⟩))) 8 hF rfl (ex_fieldAddr Try.underlying50 rfl sz23 rfl rfl) rfl rfl (by kernel_rfl) (by kernel_rfl) (by kernel_rfl) fun a hF=>e_x (v:=s4.v) 9 hF hS rfl (ex_load1 0 0 Try.underlying23 rfl rfl rfl rfl) rfl rfl (by kernel_rfl) (by kernel_rfl) (by kernel_rfl) (by kernel_rfl) fun a hF=>e_p (v:=(iV p_i)) 10 hF rfl (ex_move rfl) rfl rfl (by kernel_rfl) (by kernel_rfl) (by kernel_rfl) fun a hF=>?_
 obtain ⟨e_11,he_11,hr⟩:=bindS hr
 obtain ⟨vs12,at12,d12⟩:=h4.at he_11 1 rfl
 obtain ⟨s13,rfl,h13⟩ : ∃ s13 : Sl,vs12 = [s13.v]∧Rd m s13 e_11:=d12
 refine e_p (v:=(elP s4 (p_i.toNat * 1))) 11 hF rfl (ex_indexAddr Try.underlying23 sz28 rfl rfl (h4.idx he_11)) rfl rfl (by kernel_rfl) (by kernel_rfl) (by kernel_rfl) fun a hF=>e_xm (v:=s13.v) 12 hF hS (Mem.le.refl _) rfl (ex_loadE1 0 Try.underlying28 rfl rfl ((at12).at) rfl rfl) rfl rfl (by kernel_rfl) (by kernel_rfl) (by kernel_rfl) fun a hF=>e_p (v:=(iV p_j)) 13 hF rfl (ex_move rfl) rfl rfl (by kernel_rfl) (by kernel_rfl) (by kernel_rfl) fun a hF=>?_
 obtain ⟨e_14,he_14,hr⟩:=bindS hr
 obtain ⟨vs15,at15,d15⟩:=h13.at he_14 1 rfl
 obtain rfl : vs15 = [(iV e_14)]:=d15
 refine e_p (v:=(elP s13 (p_j.toNat * 1))) 14 hF rfl (ex_indexAddr Try.underlying28 sz3 rfl rfl (h13.idx he_14)) rfl rfl (by kernel_rfl) (by kernel_rfl) (by kernel_rfl) fun a hF=>e_xm (v:=(iV e_14)) 15 hF hS (Mem.le.refl _) rfl (ex_loadE1 0 Try.underlying3 rfl rfl ((at15).at) rfl rfl) rfl rfl (by kernel_rfl) (by kernel_rfl) (by kernel_rfl) fun a hF=>e_p (v:=(iV e_9)) 16 hF rfl (ex_assign rfl) rfl rfl (by kernel_rfl) (by kernel_rfl) (by kernel_rfl) fun a hF=>e_p (v:=(iV e_14)) 17 hF rfl (ex_assign rfl) rfl rfl (by kernel_rfl) (by kernel_rfl) (by kernel_rfl) fun a hF=>e_end (by kernel_rfl) (n_sq ?_) _
 refine q_seq (q_block ?_)
 obtain ⟨lo_38,hl1,hr⟩:=bindS hr
 refine q_loop (fun (s : Int × Int) a w=>∃ (m18 : Mem),∃ lo_16,∃ hi_17,s = (lo_16,hi_17)∧Fr a 57 [(1,(iV p_i)),(2,(iV p_j)),(3,(.pointer (some ⟨b5,0,none⟩))),(7,(iV lo_16)),(8,(iV hi_17))]∧St [] w0 w m18 [[⟨b5,[s1.v,s2.v,s3.v,s4.v],50⟩]]∧MLe [] w0.heap.size m m18) (fun (lo_38 : Int) e a w=>∃ (m39 : Mem),e = .exit 0∧Fr a 57 [(7,(iV lo_38))]∧St [] w0 w m39 []∧MLe [] w0.heap.size m m39) hl1 ⟨m,_,_,rfl,hF.sub ⟨rfl,rfl,rfl,rfl,rfl,trivial⟩,hS,(MLe.refl _ _)⟩ ?_ ?_
 ·clear hF hS
  rintro s a w st ⟨m18,lo_16,hi_17,rfl,hF,hS,hm18⟩ hb1
  unfold spec_tLow_l1 at hb1
  refine q_seq (q_seq (q_region (q_x (v:=(iV lo_16)) hF hS (ex_move rfl) rfl rfl fun a hF=>q_x (v:=(iV hi_17)) hF hS (ex_move rfl) rfl rfl fun a hF=>q_x (v:=(.bool (decide (lo_16 < hi_17)))) hF hS (ex_ibin rfl rfl rfl) rfl rfl fun a hF=>q_end (n_sq ?_))))
  rcases bcase (decide (lo_16 < hi_17)) with hc2 | hc2
  ·have hb1:=cond_f hc2 hb1
   refine q_cond_f hF rfl hc2 (q_exit (x_sq ?_))
   obtain rfl:=someI hb1
   exact ⟨nofun,.inl ⟨m18,rfl,hF.sub ⟨rfl,trivial⟩,hS.mask [false],hm18⟩⟩
  ·have hb1:=cond_t hc2 hb1
   refine q_cond_t hF rfl hc2 (q_skipc (n_sq (q_block (q_seq (q_region (q_x (v:=(iV lo_16)) hF hS (ex_move rfl) rfl rfl fun a hF=>q_x (v:=(iV hi_17)) hF hS (ex_move rfl) rfl rfl fun a hF=>q_x (v:=(iV (w64 (lo_16 + hi_17)))) hF hS (ex_ibin rfl rfl rfl) rfl rfl fun a hF=>?_))))))
   obtain ⟨t_19,ht_19,hb1⟩:=bindS hb1
   refine q_x (v:=(iV t_19)) hF hS (ex_quo rfl rfl ht_19) rfl rfl fun a hF=>q_x (v:=(iV t_19)) hF hS (ex_assign rfl) rfl rfl fun a hF=>q_end (n_sq (q_seq (e_region ⟨[],[],m18⟩ mixed fun w' hw'=>?_)))
   have hS:=hS.below hw'
   refine e_x (v:=(.agg #[s1.v,s2.v,s3.v,s4.v])) 0 hF hS rfl (ex_loadA (vs:=[s1.v,s2.v,s3.v,s4.v]) 0 0 Try.underlying50 rfl sz50 rfl rfl rfl rfl) rfl rfl (by kernel_rfl) (by kernel_rfl) (by kernel_rfl) (by kernel_rfl) fun a hF=>e_p (v:=(iV p_i)) 1 hF rfl (ex_move rfl) rfl rfl (by kernel_rfl) (by kernel_rfl) (by kernel_rfl) fun a hF=>e_p (v:=(iV p_j)) 2 hF rfl (ex_move rfl) rfl rfl (by kernel_rfl) (by kernel_rfl) (by kernel_rfl) fun a hF=>e_p (v:=(.pointer (some ⟨b5,2,none⟩))) 3 hF rfl (ex_fieldAddr Try.underlying50 rfl sz23 rfl rfl) rfl rfl (by kernel_rfl) (by kernel_rfl) (by kernel_rfl) fun a hF=>e_x (v:=s3.v) 4 hF hS rfl (ex_load1 0 0 Try.underlying23 rfl rfl rfl rfl) rfl rfl (by kernel_rfl) (by kernel_rfl) (by kernel_rfl) (by kernel_rfl) fun a hF=>e_p (v:=(iV p_i)) 5 hF rfl (ex_move rfl) rfl rfl (by kernel_rfl) (by kernel_rfl) (by kernel_rfl) fun a hF=>?_
   obtain ⟨e_20,he_20,hb1⟩:=bindS hb1
   obtain ⟨vs21,at21,d21⟩:=h3.at he_20 1 rfl
   obtain ⟨s22,rfl,h22⟩ : ∃ s22 : Sl,vs21 = [s22.v]∧Rd m s22 e_20:=d21
   refine e_p (v:=(elP s3 (p_i.toNat * 1))) 6 hF rfl (ex_indexAddr Try.underlying23 sz28 rfl rfl ((h3.mono hm18.le).idx he_20)) rfl rfl (by kernel_rfl) (by kernel_rfl) (by kernel_rfl) fun a hF=>e_xm (v:=s22.v) 7 hF hS (Mem.le.refl _) rfl (ex_loadE1 0 Try.underlying28 rfl rfl (((at21.mono hm18.le)).at) rfl rfl) rfl rfl (by kernel_rfl) (by kernel_rfl) (by kernel_rfl) fun a hF=>e_p (v:=(iV p_j)) 8 hF rfl (ex_move rfl) rfl rfl (by kernel_rfl) (by kernel_rfl) (by kernel_rfl) fun a hF=>?_
   obtain ⟨e_23,he_23,hb1⟩:=bindS hb1
   obtain ⟨vs24,at24,d24⟩:=h22.at he_23 1 rfl
   obtain rfl : vs24 = [(iV e_23)]:=d24
   refine e_p (v:=(elP s22 (p_j.toNat * 1))) 9 hF rfl (ex_indexAddr Try.underlying28 sz3 rfl rfl ((h22.mono hm18.le).idx he_23)) rfl rfl (by kernel_rfl) (by kernel_rfl) (by kernel_rfl) fun a hF=>e_xm (v:=(iV e_23)) 10 hF hS (Mem.le.refl _) rfl (ex_loadE1 0 Try.underlying3 rfl rfl (((at24.mono hm18.le)).at) rfl rfl) rfl rfl (by kernel_rfl) (by kernel_rfl) (by kernel_rfl) fun a hF=>e_p (v:=(iV t_19)) 11 hF rfl (ex_move rfl) rfl rfl (by kernel_rfl) (by kernel_rfl) (by kernel_rfl) fun a hF=>e_one 12 (by kernel_rfl) ?_
   obtain ⟨t_25,ht_25,hb1⟩:=bindS hb1
   refine e_call (vs:=[(.agg #[s1.v,s2.v,s3.v,s4.v]),(iV p_i),(iV p_j),(iV e_23),(iV t_19)]) hF hS rfl Try.func121 (by kernel_rfl) rfl rfl rfl (c_spec_tWith p_t p_i p_j e_23 t_19 t_25 ht_25 _ m18 hS.vis s1 (h1.mono hm18.le) s2 (h2.mono hm18.le) s3 (h3.mono hm18.le) s4 (h4.mono hm18.le)) ?_
   have hT:=hS
   rintro a w _ ⟨m26,q29,q30,s27,s28,s29,s30,rfl,hm26,hR26,h27,h28,h29,h30⟩ hF hS2
   have hS : St _ _ _ _ [q29,q30,[⟨b5,[s1.v,s2.v,s3.v,s4.v],50⟩]]:=hS.join hR26 hm26
   have hm26:=MLe.weakX (O0:=[]) hT hm26
   refine e_one 13 (by kernel_rfl) ?_
   obtain ⟨m31,hm31,hS,hz31⟩:=hS.freeze
   have h31:=h29.froz hm31.le hz31
   obtain ⟨m32,hm32,hS,hz32⟩:=hS.freeze
   have h32:=(h30.mono hm31.le).froz hm32.le hz32
   obtain ⟨t_33,ht_33,hb1⟩:=bindS hb1
   refine e_call (vs:=[(.agg #[s27.v,s28.v,s29.v,s30.v])]) hF hS rfl Try.func158 (by kernel_rfl) rfl rfl rfl (c_spec_tFeasible t_25 t_33 ht_33 _ m32 hS.vis s27 ((h27.mono hm31.le).mono hm32.le) s28 ((h28.mono hm31.le).mono hm32.le) s29 (h31.mono hm32.le) s30 h32) ?_
   have hT:=hS
   rintro a w _ ⟨m34,q35,s35,rfl,hm34,hR34,h35⟩ hF hS2
   have hS : St _ _ _ _ [q35,[⟨b5,[s1.v,s2.v,s3.v,s4.v],50⟩]]:=hS.join hR34 hm34
   have hm34:=MLe.weakX (O0:=[]) hT hm34
   refine e_p (v:=(.tuple #[s35.v,(.bool t_33.2)])) 14 hF rfl (ex_move rfl) rfl rfl (by kernel_rfl) (by kernel_rfl) (by kernel_rfl) fun a hF=>e_p (v:=s35.v) 15 hF rfl (ex_extract rfl rfl) rfl rfl (by kernel_rfl) (by kernel_rfl) (by kernel_rfl) fun a hF=>e_p (v:=(.bool t_33.2)) 16 hF rfl (ex_extract rfl rfl) rfl rfl (by kernel_rfl) (by kernel_rfl) (by kernel_rfl) fun a hF=>e_p (v:=s35.v) 17 hF rfl (ex_assign rfl) rfl rfl (by kernel_rfl) (by kernel_rfl) (by kernel_rfl) fun a hF=>e_p (v:=(.bool t_33.2)) 18 hF rfl (ex_assign rfl) rfl rfl (by kernel_rfl) (by kernel_rfl) (by kernel_rfl) fun a hF=>e_end (by kernel_rfl) (n_sq ?_) _
   refine q_seq (q_region (q_x (v:=(.bool t_33.2)) hF hS (ex_move rfl) rfl rfl fun a hF=>q_end (n_sq ?_)))
   obtain ⟨j3,hj3,hb1⟩:=bindS hb1
   refine q_join (fun a w=>∃ lo_36,∃ hi_37,j3 = (lo_36,hi_37)∧Fr a 57 [(1,(iV p_i)),(2,(iV p_j)),(3,(.pointer (some ⟨b5,0,none⟩))),(7,(iV lo_36)),(8,(iV hi_37))]∧St [] w0 w m34 [[⟨b5,[s1.v,s2.v,s3.v,s4.v],50⟩]]) ?_ ?_
   ·rcases bcase (t_33.2) with hc4 | hc4
    ·have hj3:=cond_f hc4 hj3
     refine q_cond_f hF rfl hc4 (q_region (q_x (v:=(iV t_19)) hF hS (ex_move rfl) rfl rfl fun a hF=>q_x (v:=(iV (w64 (t_19 + 1)))) hF hS (ex_ibin rfl rfl rfl) rfl rfl fun a hF=>q_x (v:=(iV (w64 (t_19 + 1)))) hF hS (ex_assign rfl) rfl rfl fun a hF=>q_end (n_jn ?_)))
     obtain rfl:=someI hj3
     exact ⟨_,_,rfl,hF.sub ⟨rfl,rfl,rfl,rfl,rfl,trivial⟩,hS.mask [false,true]⟩
    ·have hj3:=cond_t hc4 hj3
     refine q_cond_t hF rfl hc4 (q_region (q_x (v:=(iV t_19)) hF hS (ex_move rfl) rfl rfl fun a hF=>q_x (v:=(iV t_19)) hF hS (ex_assign rfl) rfl rfl fun a hF=>q_end (n_jn ?_)))
     obtain rfl:=someI hj3
     exact ⟨_,_,rfl,hF.sub ⟨rfl,rfl,rfl,rfl,rfl,trivial⟩,hS.mask [false,true]⟩
   ·rintro a w ⟨lo_36,hi_37,rfl,hF,hS⟩
    refine n_ib ?_
    obtain rfl:=someI hb1
    exact ⟨rfl,m34,_,_,rfl,hF.sub ⟨rfl,rfl,rfl,rfl,rfl,trivial⟩,hS,((((hm18.trans hm26).trans hm31).trans hm32).trans hm34)⟩
 ·rintro e a w ⟨m39,rfl,hF,hS,hm39⟩
  refine x_ib (n_sq ?_)
  refine q_seq (q_region (q_x (v:=(iV lo_38)) hF hS (ex_move rfl) rfl rfl fun a hF=>q_x (v:=(iV lo_38)) hF hS (ex_assign rfl) rfl rfl fun a hF=>q_end (n_sq (q_ret ?_))))
  obtain rfl:=someI hr
  exact ret_of hF hS rfl (.tmp rfl .nil) rfl

end Go.Proofs.Ytpjcfmpfiadkgaa
