/- The walks of the functions: each returns what its plain function says. -/
import Derived.Test.YtebjhiflnemkhaaGWalks1
namespace Go.Proofs.Ytebjhiflnemkhaa
open Go.Gx Go.Gx.F Go.RowKit
set_option linter.all false
set_option maxRecDepth 10000


theorem c_spec_sName (p_s : List UInt8) (r : Bool) (hr : spec_sName p_s = some r) (w0 : World) (m : Mem) (hv : Vis m w0) :
  Ret Try.prog 81 [(strV p_s)] w0 (fun v _=>v = (.bool r)):=by
 unfold spec_sName at hr
 refine ret_start Try.func81 rfl 23 rfl rfl m hv fun a hF hS=>q_seq (q_region (q_x (v:=(.bool false)) hF hS (ex_assign rfl) rfl rfl fun a hF=>q_end (n_sq (q_seq (q_seq (q_region (q_x (v:=(iV 0)) hF hS (ex_assign rfl) rfl rfl fun a hF=>q_end (n_sq (q_block ?_)))))))))
 obtain ⟨o1,hl1,hr⟩:=bindS hr
 refine q_loop (fun (i_1 : Int) a w=>Fr a 23 [(0,(strV p_s)),(3,(iV i_1))]∧St [] w0 w m []) (fun (o : (Unit) ⊕ (Bool)) e a w=>o = .inl ()∧e = .exit 0∧Fr a 23 [(0,(strV p_s))]∧St [] w0 w m []) hl1 ⟨hF.sub ⟨rfl,rfl,trivial⟩,hS⟩ ?_ ?_
 ·clear hF hS
  rintro i_1 a w st ⟨hF,hS⟩ hb1
  unfold spec_sName_l1 at hb1
  refine q_seq (q_seq (q_region (q_x (v:=(iV i_1)) hF hS (ex_move rfl) rfl rfl fun a hF=>q_x (v:=(strV p_s)) hF hS (ex_move rfl) rfl rfl fun a hF=>q_x (v:=(iV (goLen p_s))) hF hS (ex_strLen Try.underlying9 rfl) rfl rfl fun a hF=>q_x (v:=(.bool (decide (i_1 < (goLen p_s))))) hF hS (ex_ibin rfl rfl rfl) rfl rfl fun a hF=>q_end (n_sq ?_))))
  rcases bcase (decide (i_1 < (goLen p_s))) with hc2 | hc2
  ·have hb1:=cond_f hc2 hb1
   refine q_cond_f hF rfl hc2 (q_exit (x_sq ?_))
   obtain rfl:=someI hb1
   exact ⟨nofun,.inl ⟨rfl,rfl,hF.sub ⟨rfl,trivial⟩,hS⟩⟩
  ·have hb1:=cond_t hc2 hb1
   refine q_cond_t hF rfl hc2 (q_skipc (n_sq (q_seq (q_block (q_seq ?_)))))
   obtain ⟨t_4,hj3,hb1⟩:=bindS hb1
   refine q_join (fun a w=>Fr a 23 [(0,(strV p_s)),(3,(iV i_1)),(19,(.bool t_4))]∧St [] w0 w m []) ?_ ?_
   ·refine q_region (q_x (v:=(strV p_s)) hF hS (ex_move rfl) rfl rfl fun a hF=>q_x (v:=(iV i_1)) hF hS (ex_move rfl) rfl rfl fun a hF=>?_)
    obtain ⟨t_2,ht_2,hj3⟩:=bindS hj3
    refine q_x (v:=(.int .u8 t_2)) hF hS (ex_strIdx Try.underlying9 rfl rfl ht_2) rfl rfl fun a hF=>q_x (v:=(.bool (decide (t_2 < 97)))) hF hS (ex_ibin rfl rfl rfl) rfl rfl fun a hF=>q_x (v:=(.bool (decide (t_2 < 97)))) hF hS (ex_move rfl) rfl rfl fun a hF=>?_
    rcases bcase (decide (t_2 < 97)) with hc4 | hc4
    ·have hj3:=cond_f hc4 hj3
     refine q_xg (v:=(strV p_s)) hF hS (ex_move rfl) (wanted_t hF rfl rfl rfl hc4) rfl fun a hF=>q_xg (v:=(iV i_1)) hF hS (ex_move rfl) (wanted_t hF rfl rfl rfl hc4) rfl fun a hF=>?_
     obtain ⟨t_3,ht_3,hj3⟩:=bindS hj3
     refine q_xg (v:=(.int .u8 t_3)) hF hS (ex_strIdx Try.underlying9 rfl rfl ht_3) (wanted_t hF rfl rfl rfl hc4) rfl fun a hF=>q_xg (v:=(.bool (decide (122 < t_3)))) hF hS (ex_ibin rfl rfl rfl) (wanted_t hF rfl rfl rfl hc4) rfl fun a hF=>q_x (v:=(.bool (decide (122 < t_3)))) hF hS (ex_pick_f rfl rfl hc4) rfl rfl fun a hF=>q_end (n_jn ?_)
     obtain rfl:=someI hj3
     exact ⟨hF.sub ⟨rfl,rfl,rfl,trivial⟩,hS⟩
    ·have hj3:=cond_t hc4 hj3
     refine q_skip hF (wanted_f hF rfl rfl rfl hc4 rfl) rfl fun a hF=>q_skip hF (wanted_f hF rfl rfl rfl hc4 rfl) rfl fun a hF=>q_skip hF (wanted_f hF rfl rfl rfl hc4 rfl) rfl fun a hF=>q_skip hF (wanted_f hF rfl rfl rfl hc4 rfl) rfl fun a hF=>q_x (v:=(.bool true)) hF hS (ex_pick_t rfl rfl hc4) rfl rfl fun a hF=>q_end (n_jn ?_)
     obtain rfl:=someI hj3
     exact ⟨hF.sub ⟨rfl,rfl,rfl,trivial⟩,hS⟩
   ·rintro a w ⟨hF,hS⟩
    refine n_sq ?_
    rcases bcase (t_4) with hc5 | hc5
    ·have hb1:=cond_f hc5 hb1
     refine q_cond_f hF rfl hc5 (q_skipc (n_ib (n_sq (q_region (q_x (v:=(iV i_1)) hF hS (ex_move rfl) rfl rfl fun a hF=>q_x (v:=(iV (w64 (i_1 + 1)))) hF hS (ex_ibin rfl rfl rfl) rfl rfl fun a hF=>q_x (v:=(iV (w64 (i_1 + 1)))) hF hS (ex_assign rfl) rfl rfl fun a hF=>q_end ?_)))))
     obtain rfl:=someI hb1
     exact ⟨rfl,hF.sub ⟨rfl,rfl,trivial⟩,hS⟩
    ·have hb1:=cond_t hc5 hb1
     refine q_cond_t hF rfl hc5 (q_seq (q_region (q_x (v:=(.bool false)) hF hS (ex_assign rfl) rfl rfl fun a hF=>q_end (n_sq (q_ret (r_ib (r_sq ?_)))))))
     obtain rfl:=someI hb1
     refine ⟨nofun,.inr fun ho=>?_⟩
     subst ho
     refine r_ib (r_sq ?_)
     obtain rfl:=someI hr
     exact ret_of hF hS rfl (.tmp rfl .nil) rfl
 ·rintro e a w ⟨rfl,rfl,hF,hS⟩
  refine x_ib (n_sq ?_)
  refine q_seq (q_region (q_x (v:=(strV p_s)) hF hS (ex_move rfl) rfl rfl fun a hF=>q_x (v:=(iV (goLen p_s))) hF hS (ex_strLen Try.underlying9 rfl) rfl rfl fun a hF=>?_))
  obtain ⟨t_5,ht_5,hr⟩:=bindS hr
  refine q_call (vs:=[(iV (goLen p_s)),(iV 1),(iV 8)]) hF hS Try.func42 (by kernel_rfl) rfl rfl rfl (c_spec_l1In (goLen p_s) 1 8 t_5 ht_5 _ m hS.vis) ?_
  rintro a w _ rfl hF hS
  refine q_x (v:=(.bool t_5)) hF hS (ex_assign rfl) rfl rfl fun a hF=>q_end (n_sq (q_ret ?_))
  obtain rfl:=someI hr
  exact ret_of hF hS rfl (.tmp rfl .nil) rfl

theorem c_spec_sFind (p_s : List impl_Variable) (p_name : List UInt8) (r : Int) (hr : spec_sFind p_s p_name = some r) (w0 : World) (m : Mem) (hv : Vis m w0) (s1 : Sl) (h1 : Rd m s1 p_s) :
  Ret Try.prog 82 [s1.v,(strV p_name)] w0 (fun v _=>v = (iV r)):=by
 unfold spec_sFind at hr
 refine ret_start Try.func82 rfl 20 rfl rfl m hv fun a hF hS=>q_seq (q_region (q_x (v:=(iV 0)) hF hS (ex_assign rfl) rfl rfl fun a hF=>q_end (n_sq (q_seq (q_seq (q_region (q_x (v:=s1.v) hF hS (ex_move rfl) rfl rfl fun a hF=>q_x (v:=(iV (goLen p_s))) hF hS (ex_len Try.underlying23 rfl h1.len) rfl rfl fun a hF=>q_x (v:=(iV 0)) hF hS (ex_move rfl) rfl rfl fun a hF=>q_end (n_sq (q_block ?_)))))))))
 obtain ⟨o1,hl1,hr⟩:=bindS hr
 refine q_loop (fun (t_2 : Int) a w=>Fr a 20 [(1,(strV p_name)),(7,s1.v),(8,(iV (goLen p_s))),(9,(iV t_2))]∧St [] w0 w m []) (fun (o : (Unit) ⊕ (Int)) e a w=>o = .inl ()∧e = .exit 0∧Fr a 20 []∧St [] w0 w m []) hl1 ⟨hF.sub ⟨rfl,rfl,rfl,rfl,trivial⟩,hS⟩ ?_ ?_
 ·clear hF hS
  rintro t_2 a w st ⟨hF,hS⟩ hb1
  unfold spec_sFind_l1 at hb1
  refine q_seq (q_region (q_x (v:=(.bool (decide (t_2 < (goLen p_s))))) hF hS (ex_ibin rfl rfl rfl) rfl rfl fun a hF=>q_end (n_sq (q_seq ?_))))
  rcases bcase (decide (t_2 < (goLen p_s))) with hc2 | hc2
  ·have hb1:=cond_f hc2 hb1
   refine q_cond_f hF rfl hc2 (q_exit (x_sq ?_))
   obtain rfl:=someI hb1
   exact ⟨nofun,.inl ⟨rfl,rfl,hF.sub trivial,hS⟩⟩
  ·have hb1:=cond_t hc2 hb1
   refine q_cond_t hF rfl hc2 (q_skipc (n_sq (q_seq (q_block (q_seq (q_region (q_x (v:=(iV t_2)) hF hS (ex_move rfl) rfl rfl fun a hF=>?_)))))))
   obtain ⟨e_3,he_3,hb1⟩:=bindS hb1
   obtain ⟨vs4,at4,d4⟩:=h1.at he_3 2 rfl
   obtain rfl : vs4 = [(strV e_3.Name),(iV e_3.Levels)]:=d4
   refine q_x (v:=(elP s1 (t_2.toNat * 2))) hF hS (ex_indexAddr Try.underlying23 sz85 rfl rfl (h1.idx he_3)) rfl rfl fun a hF=>q_x (v:=(.agg #[(strV e_3.Name),(iV e_3.Levels)])) hF hS (ex_loadEA (us:=[(strV e_3.Name),(iV e_3.Levels)]) 0 Try.underlying85 rfl sz85 rfl ((at4).at) rfl rfl rfl) rfl rfl fun a hF=>q_alloc (cs:=[(strV ([] : List UInt8)),(iV 0)]) hF hS rfl rfl rfl fun a w b5 hF hS=>q_x (v:=(iV t_2)) hF hS (ex_assign rfl) rfl rfl fun a hF=>q_store (vs:=[(strV e_3.Name),(iV e_3.Levels)]) (cs':=[(strV e_3.Name),(iV e_3.Levels)]) 0 0 hF hS sz85 rfl rfl rfl rfl rfl rfl rfl rfl fun a w hF hS=>q_end (n_sq (q_seq (q_region (q_x (v:=(.pointer (some ⟨b5,0,none⟩))) hF hS (ex_fieldAddr Try.underlying85 rfl sz9 rfl rfl) rfl rfl fun a hF=>q_x (v:=(strV e_3.Name)) hF hS (ex_load1 0 0 Try.underlying9 rfl rfl rfl rfl) rfl rfl fun a hF=>q_x (v:=(strV p_name)) hF hS (ex_move rfl) rfl rfl fun a hF=>q_x (v:=(.bool (e_3.Name == p_name))) hF hS (ex_strEq rfl rfl) rfl rfl fun a hF=>q_end (n_sq ?_)))))
   rcases bcase (e_3.Name == p_name) with hc3 | hc3
   ·have hb1:=cond_f hc3 hb1
    refine q_cond_f hF rfl hc3 (q_skipc (n_ib (n_sq (q_region (q_x (v:=(iV (w64 (t_2 + 1)))) hF hS (ex_ibin rfl rfl rfl) rfl rfl fun a hF=>q_x (v:=(iV (w64 (t_2 + 1)))) hF hS (ex_move rfl) rfl rfl fun a hF=>q_end ?_)))))
    obtain rfl:=someI hb1
    exact ⟨rfl,hF.sub ⟨rfl,rfl,rfl,rfl,trivial⟩,hS.mask [false]⟩
   ·have hb1:=cond_t hc3 hb1
    refine q_cond_t hF rfl hc3 (q_seq (q_region (q_x (v:=(iV t_2)) hF hS (ex_move rfl) rfl rfl fun a hF=>q_x (v:=(iV t_2)) hF hS (ex_assign rfl) rfl rfl fun a hF=>q_end (n_sq (q_ret (r_ib (r_sq ?_)))))))
    obtain rfl:=someI hb1
    refine ⟨nofun,.inr fun ho=>?_⟩
    subst ho
    refine r_ib (r_sq ?_)
    obtain rfl:=someI hr
    exact ret_of hF hS rfl (.tmp rfl .nil) rfl
 ·rintro e a w ⟨rfl,rfl,hF,hS⟩
  refine x_ib (n_sq ?_)
  refine q_seq (q_region (q_x (v:=(iV (-1))) hF hS (ex_assign rfl) rfl rfl fun a hF=>q_end (n_sq (q_ret ?_))))
  obtain rfl:=someI hr
  exact ret_of hF hS rfl (.tmp rfl .nil) rfl

theorem c_spec_sGood (p_s : List impl_Variable) (r : Bool) (hr : spec_sGood p_s = some r) (w0 : World) (m : Mem) (hv : Vis m w0) (s1 : Sl) (h1 : Rd m s1 p_s) :
  Ret Try.prog 49 [s1.v] w0 (fun v _=>v = (.bool r)):=by
 unfold spec_sGood at hr
 refine ret_start Try.func49 rfl 36 rfl rfl m hv fun a hF hS=>q_seq (q_region (q_x (v:=(.bool false)) hF hS (ex_assign rfl) rfl rfl fun a hF=>q_end (n_sq (q_seq (q_seq (q_region (q_x (v:=s1.v) hF hS (ex_move rfl) rfl rfl fun a hF=>q_x (v:=(iV (goLen p_s))) hF hS (ex_len Try.underlying23 rfl h1.len) rfl rfl fun a hF=>?_)))))))
 obtain ⟨t_2,ht_2,hr⟩:=bindS hr
 refine q_call (vs:=[(iV (goLen p_s)),(iV 1),(iV 6)]) hF hS Try.func42 (by kernel_rfl) rfl rfl rfl (c_spec_l1In (goLen p_s) 1 6 t_2 ht_2 _ m hS.vis) ?_
 rintro a w _ rfl hF hS
 refine q_x (v:=(.bool (!t_2))) hF hS (ex_not rfl) rfl rfl fun a hF=>q_end (n_sq ?_)
 rcases bcase (!t_2) with hc1 | hc1
 ·have hr:=cond_f hc1 hr
  refine q_cond_f hF rfl hc1 (q_skipc (n_sq (q_seq (q_seq (q_region (q_x (v:=s1.v) hF hS (ex_move rfl) rfl rfl fun a hF=>q_x (v:=(iV (goLen p_s))) hF hS (ex_len Try.underlying23 rfl h1.len) rfl rfl fun a hF=>q_x (v:=(iV 0)) hF hS (ex_move rfl) rfl rfl fun a hF=>q_end (n_sq (q_block ?_))))))))
  obtain ⟨o2,hl2,hr⟩:=bindS hr
  refine q_loop (fun (t_3 : Int) a w=>Fr a 36 [(0,s1.v),(9,s1.v),(10,(iV (goLen p_s))),(11,(iV t_3))]∧St [] w0 w m []) (fun (o : (Unit) ⊕ (Bool)) e a w=>o = .inl ()∧e = .exit 0∧Fr a 36 []∧St [] w0 w m []) hl2 ⟨hF.sub ⟨rfl,rfl,rfl,rfl,trivial⟩,hS⟩ ?_ ?_
  ·clear hF hS
   rintro t_3 a w st ⟨hF,hS⟩ hb2
   unfold spec_sGood_l1 at hb2
   refine q_seq (q_region (q_x (v:=(.bool (decide (t_3 < (goLen p_s))))) hF hS (ex_ibin rfl rfl rfl) rfl rfl fun a hF=>q_end (n_sq (q_seq ?_))))
   rcases bcase (decide (t_3 < (goLen p_s))) with hc3 | hc3
   ·have hb2:=cond_f hc3 hb2
    refine q_cond_f hF rfl hc3 (q_exit (x_sq ?_))
    obtain rfl:=someI hb2
    exact ⟨nofun,.inl ⟨rfl,rfl,hF.sub trivial,hS⟩⟩
   ·have hb2:=cond_t hc3 hb2
    refine q_cond_t hF rfl hc3 (q_skipc (n_sq (q_seq (q_block (q_seq (q_region (q_x (v:=(iV t_3)) hF hS (ex_move rfl) rfl rfl fun a hF=>?_)))))))
    obtain ⟨e_4,he_4,hb2⟩:=bindS hb2
    obtain ⟨vs5,at5,d5⟩:=h1.at he_4 2 rfl
    obtain rfl : vs5 = [(strV e_4.Name),(iV e_4.Levels)]:=d5
    refine q_x (v:=(elP s1 (t_3.toNat * 2))) hF hS (ex_indexAddr Try.underlying23 sz85 rfl rfl (h1.idx he_4)) rfl rfl fun a hF=>q_x (v:=(.agg #[(strV e_4.Name),(iV e_4.Levels)])) hF hS (ex_loadEA (us:=[(strV e_4.Name),(iV e_4.Levels)]) 0 Try.underlying85 rfl sz85 rfl ((at5).at) rfl rfl rfl) rfl rfl fun a hF=>q_alloc (cs:=[(strV ([] : List UInt8)),(iV 0)]) hF hS rfl rfl rfl fun a w b6 hF hS=>q_x (v:=(iV t_3)) hF hS (ex_assign rfl) rfl rfl fun a hF=>q_store (vs:=[(strV e_4.Name),(iV e_4.Levels)]) (cs':=[(strV e_4.Name),(iV e_4.Levels)]) 0 0 hF hS sz85 rfl rfl rfl rfl rfl rfl rfl rfl fun a w hF hS=>q_end (n_sq (q_seq ?_))
    obtain ⟨t_12,hj4,hb2⟩:=bindS hb2
    refine q_join (fun a w=>Fr a 36 [(0,s1.v),(9,s1.v),(10,(iV (goLen p_s))),(11,(iV t_3)),(34,(.bool t_12))]∧St [] w0 w m []) ?_ ?_
    ·refine e_region ⟨[],[]⟩ mixed fun w' hw'=>?_
     have hS:=hS.below hw'
     refine e_p (v:=(.pointer (some ⟨b6,0,none⟩))) 0 hF rfl (ex_fieldAddr Try.underlying85 rfl sz9 rfl rfl) rfl rfl (by kernel_rfl) (by kernel_rfl) (by kernel_rfl) fun a hF=>e_x (v:=(strV e_4.Name)) 1 hF hS rfl (ex_load1 0 0 Try.underlying9 rfl rfl rfl rfl) rfl rfl (by kernel_rfl) (by kernel_rfl) (by kernel_rfl) (by kernel_rfl) fun a hF=>e_one 2 (by kernel_rfl) ?_
     obtain ⟨t_7,ht_7,hj4⟩:=bindS hj4
     refine e_call (vs:=[(strV e_4.Name)]) hF hS rfl Try.func81 (by kernel_rfl) rfl rfl rfl (c_spec_sName e_4.Name t_7 ht_7 _ m hS.vis) ?_
     rintro a w _ rfl hF hS
     refine e_p (v:=(.bool (!t_7))) 3 hF rfl (ex_not rfl) rfl rfl (by kernel_rfl) (by kernel_rfl) (by kernel_rfl) fun a hF=>e_p (v:=(.bool (!t_7))) 4 hF rfl (ex_move rfl) rfl rfl (by kernel_rfl) (by kernel_rfl) (by kernel_rfl) fun a hF=>?_
     rcases bcase (!t_7) with hc5 | hc5
     ·have hj4:=cond_f hc5 hj4
      refine e_pg (v:=(.pointer (some ⟨b6,1,none⟩))) 5 hF rfl (ex_fieldAddr Try.underlying85 rfl sz3 rfl rfl) (wanted_t hF rfl rfl rfl hc5) rfl (by kernel_rfl) (by kernel_rfl) (by kernel_rfl) fun a hF=>e_xg (v:=(iV e_4.Levels)) 6 hF hS rfl (ex_load1 0 0 Try.underlying3 rfl rfl rfl rfl) (wanted_t hF rfl rfl rfl hc5) rfl (by kernel_rfl) (by kernel_rfl) (by kernel_rfl) (by kernel_rfl) fun a hF=>e_one 7 (by kernel_rfl) ?_
      obtain ⟨t_8,ht_8,hj4⟩:=bindS hj4
      refine e_callg (vs:=[(iV e_4.Levels),(iV 2),(iV 8)]) hF hS rfl (wanted_t hF rfl rfl rfl hc5) Try.func42 (by kernel_rfl) rfl rfl rfl (c_spec_l1In e_4.Levels 2 8 t_8 ht_8 _ m hS.vis) ?_
      rintro a w _ rfl hF hS
      refine e_pg (v:=(.bool (!t_8))) 8 hF rfl (ex_not rfl) (wanted_t hF rfl rfl rfl hc5) rfl (by kernel_rfl) (by kernel_rfl) (by kernel_rfl) fun a hF=>e_p (v:=(.bool (!t_8))) 9 hF rfl (ex_pick_f rfl rfl hc5) rfl rfl (by kernel_rfl) (by kernel_rfl) (by kernel_rfl) fun a hF=>e_p (v:=(.bool (!t_8))) 10 hF rfl (ex_move rfl) rfl rfl (by kernel_rfl) (by kernel_rfl) (by kernel_rfl) fun a hF=>?_
      rcases bcase (!t_8) with hc6 | hc6
      ·have hj4:=cond_f hc6 hj4
       refine e_pg (v:=s1.v) 11 hF rfl (ex_move rfl) (wanted_t hF rfl rfl rfl hc6) rfl (by kernel_rfl) (by kernel_rfl) (by kernel_rfl) fun a hF=>e_pg (v:=(iV t_3)) 12 hF rfl (ex_move rfl) (wanted_t hF rfl rfl rfl hc6) rfl (by kernel_rfl) (by kernel_rfl) (by kernel_rfl) fun a hF=>?_
       obtain ⟨l_9,hl_9,hj4⟩:=bindS hj4
       have h10 : Rd m (subS s1 2 (0 : Int).toNat t_3.toNat s1.cap) l_9:=h1.sub' hl_9 2 rfl
       refine e_pg (v:=(subS s1 2 (0 : Int).toNat t_3.toNat s1.cap).v) 13 hF rfl (ex_slice Try.underlying23 sz85 rfl rfl rfl (.inl ⟨rfl,rfl⟩) (.inr ⟨_,rfl⟩) (h1.subok hl_9)) (wanted_t hF rfl rfl rfl hc6) rfl (by kernel_rfl) (by kernel_rfl) (by kernel_rfl) fun a hF=>e_pg (v:=(.pointer (some ⟨b6,0,none⟩))) 14 hF rfl (ex_fieldAddr Try.underlying85 rfl sz9 rfl rfl) (wanted_t hF rfl rfl rfl hc6) rfl (by kernel_rfl) (by kernel_rfl) (by kernel_rfl) fun a hF=>e_xg (v:=(strV e_4.Name)) 15 hF hS rfl (ex_load1 0 0 Try.underlying9 rfl rfl rfl rfl) (wanted_t hF rfl rfl rfl hc6) rfl (by kernel_rfl) (by kernel_rfl) (by kernel_rfl) (by kernel_rfl) fun a hF=>e_one 16 (by kernel_rfl) ?_
       obtain ⟨t_11,ht_11,hj4⟩:=bindS hj4
       refine e_callg (vs:=[(subS s1 2 (0 : Int).toNat t_3.toNat s1.cap).v,(strV e_4.Name)]) hF hS rfl (wanted_t hF rfl rfl rfl hc6) Try.func82 (by kernel_rfl) rfl rfl rfl (c_spec_sFind l_9 e_4.Name t_11 ht_11 _ m hS.vis (subS s1 2 (0 : Int).toNat t_3.toNat s1.cap) h10) ?_
       rintro a w _ rfl hF hS
       refine e_pg (v:=(.bool (decide (0 ≤ t_11)))) 17 hF rfl (ex_ibin rfl rfl rfl) (wanted_t hF rfl rfl rfl hc6) rfl (by kernel_rfl) (by kernel_rfl) (by kernel_rfl) fun a hF=>e_p (v:=(.bool (decide (0 ≤ t_11)))) 18 hF rfl (ex_pick_f rfl rfl hc6) rfl rfl (by kernel_rfl) (by kernel_rfl) (by kernel_rfl) fun a hF=>e_end (by kernel_rfl) (n_jn ?_) _
       obtain rfl:=someI hj4
       exact ⟨hF.sub ⟨rfl,rfl,rfl,rfl,rfl,trivial⟩,hS.mask [false]⟩
      ·have hj4:=cond_t hc6 hj4
       refine e_skipP 11 hF rfl (wanted_f hF rfl rfl rfl hc6 rfl) rfl (by kernel_rfl) (by kernel_rfl) (by kernel_rfl) fun a hF=>e_skipP 12 hF rfl (wanted_f hF rfl rfl rfl hc6 rfl) rfl (by kernel_rfl) (by kernel_rfl) (by kernel_rfl) fun a hF=>e_skipP 13 hF rfl (wanted_f hF rfl rfl rfl hc6 rfl) rfl (by kernel_rfl) (by kernel_rfl) (by kernel_rfl) fun a hF=>e_skipP 14 hF rfl (wanted_f hF rfl rfl rfl hc6 rfl) rfl (by kernel_rfl) (by kernel_rfl) (by kernel_rfl) fun a hF=>e_skipP 15 hF rfl (wanted_f hF rfl rfl rfl hc6 rfl) rfl (by kernel_rfl) (by kernel_rfl) (by kernel_rfl) fun a hF=>e_skipP 16 hF rfl (wanted_f hF rfl rfl rfl hc6 rfl) rfl (by kernel_rfl) (by kernel_rfl) (by kernel_rfl) fun a hF=>e_skipP 17 hF rfl (wanted_f hF rfl rfl rfl hc6 rfl) rfl (by kernel_rfl) (by kernel_rfl) (by kernel_rfl) fun a hF=>e_p (v:=(.bool true)) 18 hF rfl (ex_pick_t rfl rfl hc6) rfl rfl (by kernel_rfl) (by kernel_rfl) (by kernel_rfl) fun a hF=>e_end (by kernel_rfl) (n_jn ?_) _
       obtain rfl:=someI hj4
       exact ⟨hF.sub ⟨rfl,rfl,rfl,rfl,rfl,trivial⟩,hS.mask [false]⟩
     ·have hj4:=cond_t hc5 hj4
      refine e_skipP 5 hF rfl (wanted_f hF rfl rfl rfl hc5 rfl) rfl (by kernel_rfl) (by kernel_rfl) (by kernel_rfl) fun a hF=>e_skipP 6 hF rfl (wanted_f hF rfl rfl rfl hc5 rfl) rfl (by kernel_rfl) (by kernel_rfl) (by kernel_rfl) fun a hF=>e_skipP 7 hF rfl (wanted_f hF rfl rfl rfl hc5 rfl) rfl (by kernel_rfl) (by kernel_rfl) (by kernel_rfl) fun a hF=>e_skipP 8 hF rfl (wanted_f hF rfl rfl rfl hc5 rfl) rfl (by kernel_rfl) (by kernel_rfl) (by kernel_rfl) fun a hF=>e_p (v:=(.bool true)) 9 hF rfl (ex_pick_t rfl rfl hc5) rfl rfl (by kernel_rfl) (by kernel_rfl) (by kernel_rfl) fun a hF=>e_p (v:=(.bool true)) 10 hF rfl (ex_move rfl) rfl rfl (by kernel_rfl) (by kernel_rfl) (by kernel_rfl) fun a hF=>e_skipP 11 hF rfl (wanted_f hF rfl rfl rfl rfl rfl) rfl (by kernel_rfl) (by kernel_rfl) (by kernel_rfl) fun a hF=>e_skipP 12 hF rfl (wanted_f hF rfl rfl rfl rfl rfl) rfl (by kernel_rfl) (by kernel_rfl) (by kernel_rfl) fun a hF=>e_skipP 13 hF rfl (wanted_f hF rfl rfl rfl rfl rfl) rfl (by kernel_rfl) (by kernel_rfl) (by kernel_rfl) fun a hF=>e_skipP 14 hF rfl (wanted_f hF rfl rfl rfl rfl rfl) rfl (by kernel_rfl) (by kernel_rfl) (by kernel_rfl) fun a hF=>e_skipP 15 hF rfl (wanted_f hF rfl rfl rfl rfl rfl) rfl (by kernel_rfl) (by kernel_rfl) (by kernel_rfl) fun a hF=>e_skipP 16 hF rfl (wanted_f hF rfl rfl rfl rfl rfl) rfl (by kernel_rfl) (by kernel_rfl) (by kernel_rfl) fun a hF=>e_skipP 17 hF rfl (wanted_f hF rfl rfl rfl rfl rfl) rfl (by kernel_rfl) (by kernel_rfl) (by kernel_rfl) fun a hF=>e_p (v:=(.bool true)) 18 hF rfl (ex_pick_t rfl rfl rfl) rfl rfl (by kernel_rfl) (by kernel_rfl) (by kernel_rfl) fun a hF=>e_end (by kernel_rfl) (n_jn ?_) _
      obtain rfl:=someI hj4
      exact ⟨hF.sub ⟨rfl,rfl,rfl,rfl,rfl,trivial⟩,hS.mask [false]⟩
    ·rintro a w ⟨hF,hS⟩
     refine n_sq ?_
     rcases bcase (t_12) with hc7 | hc7
     ·have hb2:=cond_f hc7 hb2
      refine q_cond_f hF rfl hc7 (q_skipc (n_ib (n_sq (q_region (q_x (v:=(iV (w64 (t_3 + 1)))) hF hS (ex_ibin rfl rfl rfl) rfl rfl fun a hF=>q_x (v:=(iV (w64 (t_3 + 1)))) hF hS (ex_move rfl) rfl rfl fun a hF=>q_end ?_)))))
      obtain rfl:=someI hb2
      exact ⟨rfl,hF.sub ⟨rfl,rfl,rfl,rfl,trivial⟩,hS⟩
     ·have hb2:=cond_t hc7 hb2
      refine q_cond_t hF rfl hc7 (q_seq (q_region (q_x (v:=(.bool false)) hF hS (ex_assign rfl) rfl rfl fun a hF=>q_end (n_sq (q_ret (r_ib (r_sq ?_)))))))
      obtain rfl:=someI hb2
      refine ⟨nofun,.inr fun ho=>?_⟩
      subst ho
      refine r_ib (r_sq ?_)
      obtain rfl:=someI hr
      exact ret_of hF hS rfl (.tmp rfl .nil) rfl
  ·rintro e a w ⟨rfl,rfl,hF,hS⟩
   refine x_ib (n_sq ?_)
   refine q_seq (q_region (q_x (v:=(.bool true)) hF hS (ex_assign rfl) rfl rfl fun a hF=>q_end (n_sq (q_ret ?_))))
   obtain rfl:=someI hr
   exact ret_of hF hS rfl (.tmp rfl .nil) rfl
 ·have hr:=cond_t hc1 hr
  refine q_cond_t hF rfl hc1 (q_seq (q_region (q_x (v:=(.bool false)) hF hS (ex_assign rfl) rfl rfl fun a hF=>q_end (n_sq (q_ret (r_sq ?_))))))
  obtain rfl:=someI hr
  exact ret_of hF hS rfl (.tmp rfl .nil) rfl

theorem c_spec_sFits (p_s : List impl_Variable) (p_values : List Int) (r : Bool) (hr : spec_sFits p_s p_values = some r) (w0 : World) (m : Mem) (hv : Vis m w0) (s1 : Sl) (h1 : Rd m s1 p_s) (s2 : Sl) (h2 : Rd m s2 p_values) :
  Ret Try.prog 51 [s1.v,s2.v] w0 (fun v _=>v = (.bool r)):=by
 unfold spec_sFits at hr
 refine ret_start Try.func51 rfl 29 rfl rfl m hv fun a hF hS=>q_seq (q_region (q_x (v:=(.bool false)) hF hS (ex_assign rfl) rfl rfl fun a hF=>q_end (n_sq (q_seq (q_seq (q_region (q_x (v:=s2.v) hF hS (ex_move rfl) rfl rfl fun a hF=>q_x (v:=(iV (goLen p_values))) hF hS (ex_len Try.underlying24 rfl h2.len) rfl rfl fun a hF=>q_x (v:=s1.v) hF hS (ex_move rfl) rfl rfl fun a hF=>q_x (v:=(iV (goLen p_s))) hF hS (ex_len Try.underlying23 rfl h1.len) rfl rfl fun a hF=>q_x (v:=(.bool ((goLen p_values) != (goLen p_s)))) hF hS (ex_ibin rfl rfl rfl) rfl rfl fun a hF=>q_end (n_sq ?_))))))))
 rcases bcase ((goLen p_values) != (goLen p_s)) with hc1 | hc1
 ·have hr:=cond_f hc1 hr
  refine q_cond_f hF rfl hc1 (q_skipc (n_sq (q_seq (q_seq (q_region (q_x (v:=s1.v) hF hS (ex_move rfl) rfl rfl fun a hF=>q_x (v:=(iV (goLen p_s))) hF hS (ex_len Try.underlying23 rfl h1.len) rfl rfl fun a hF=>q_x (v:=(iV 0)) hF hS (ex_move rfl) rfl rfl fun a hF=>q_end (n_sq (q_block ?_))))))))
  obtain ⟨o2,hl2,hr⟩:=bindS hr
  refine q_loop (fun (t_3 : Int) a w=>Fr a 29 [(1,s2.v),(12,s1.v),(13,(iV (goLen p_s))),(14,(iV t_3))]∧St [] w0 w m []) (fun (o : (Unit) ⊕ (Bool)) e a w=>o = .inl ()∧e = .exit 0∧Fr a 29 []∧St [] w0 w m []) hl2 ⟨hF.sub ⟨rfl,rfl,rfl,rfl,trivial⟩,hS⟩ ?_ ?_
  ·clear hF hS
   rintro t_3 a w st ⟨hF,hS⟩ hb2
   unfold spec_sFits_l1 at hb2
   refine q_seq (q_region (q_x (v:=(.bool (decide (t_3 < (goLen p_s))))) hF hS (ex_ibin rfl rfl rfl) rfl rfl fun a hF=>q_end (n_sq (q_seq ?_))))
   rcases bcase (decide (t_3 < (goLen p_s))) with hc3 | hc3
   ·have hb2:=cond_f hc3 hb2
    refine q_cond_f hF rfl hc3 (q_exit (x_sq ?_))
    obtain rfl:=someI hb2
    exact ⟨nofun,.inl ⟨rfl,rfl,hF.sub trivial,hS⟩⟩
   ·have hb2:=cond_t hc3 hb2
    refine q_cond_t hF rfl hc3 (q_skipc (n_sq (q_seq (q_block (q_seq (q_region (q_x (v:=(iV t_3)) hF hS (ex_move rfl) rfl rfl fun a hF=>?_)))))))
    obtain ⟨e_4,he_4,hb2⟩:=bindS hb2
    obtain ⟨vs5,at5,d5⟩:=h1.at he_4 2 rfl
    obtain rfl : vs5 = [(strV e_4.Name),(iV e_4.Levels)]:=d5
    refine q_x (v:=(elP s1 (t_3.toNat * 2))) hF hS (ex_indexAddr Try.underlying23 sz85 rfl rfl (h1.idx he_4)) rfl rfl fun a hF=>q_x (v:=(.agg #[(strV e_4.Name),(iV e_4.Levels)])) hF hS (ex_loadEA (us:=[(strV e_4.Name),(iV e_4.Levels)]) 0 Try.underlying85 rfl sz85 rfl ((at5).at) rfl rfl rfl) rfl rfl fun a hF=>q_alloc (cs:=[(strV ([] : List UInt8)),(iV 0)]) hF hS rfl rfl rfl fun a w b6 hF hS=>q_x (v:=(iV t_3)) hF hS (ex_assign rfl) rfl rfl fun a hF=>q_store (vs:=[(strV e_4.Name),(iV e_4.Levels)]) (cs':=[(strV e_4.Name),(iV e_4.Levels)]) 0 0 hF hS sz85 rfl rfl rfl rfl rfl rfl rfl rfl fun a w hF hS=>q_end (n_sq (q_seq (e_region ⟨[],[]⟩ mixed fun w' hw'=>?_)))
    have hS:=hS.below hw'
    refine e_p (v:=s2.v) 0 hF rfl (ex_move rfl) rfl rfl (by kernel_rfl) (by kernel_rfl) (by kernel_rfl) fun a hF=>e_p (v:=(iV t_3)) 1 hF rfl (ex_move rfl) rfl rfl (by kernel_rfl) (by kernel_rfl) (by kernel_rfl) fun a hF=>?_
    obtain ⟨e_7,he_7,hb2⟩:=bindS hb2
    obtain ⟨vs8,at8,d8⟩:=h2.at he_7 1 rfl
    obtain rfl : vs8 = [(iV e_7)]:=d8
    refine e_p (v:=(elP s2 (t_3.toNat * 1))) 2 hF rfl (ex_indexAddr Try.underlying24 sz3 rfl rfl (h2.idx he_7)) rfl rfl (by kernel_rfl) (by kernel_rfl) (by kernel_rfl) fun a hF=>e_x (v:=(iV e_7)) 3 hF hS rfl (ex_loadE1 0 Try.underlying3 rfl rfl ((at8).at) rfl rfl) rfl rfl (by kernel_rfl) (by kernel_rfl) (by kernel_rfl) (by kernel_rfl) fun a hF=>e_p (v:=(.pointer (some ⟨b6,1,none⟩))) 4 hF rfl (ex_fieldAddr Try.underlying85 rfl sz3 rfl rfl) rfl rfl (by kernel_rfl) (by kernel_rfl) (by kernel_rfl) fun a hF=>e_x (v:=(iV e_4.Levels)) 5 hF hS rfl (ex_load1 0 0 Try.underlying3 rfl rfl rfl rfl) rfl rfl (by kernel_rfl) (by kernel_rfl) (by kernel_rfl) (by kernel_rfl) fun a hF=>e_p (v:=(iV (w64 (e_4.Levels - 1)))) 6 hF rfl (ex_ibin rfl rfl rfl) rfl rfl (by kernel_rfl) (by kernel_rfl) (by kernel_rfl) fun a hF=>e_one 7 (by kernel_rfl) ?_
    obtain ⟨t_9,ht_9,hb2⟩:=bindS hb2
    refine e_call (vs:=[(iV e_7),(iV 0),(iV (w64 (e_4.Levels - 1)))]) hF hS rfl Try.func42 (by kernel_rfl) rfl rfl rfl (c_spec_l1In e_7 0 (w64 (e_4.Levels - 1)) t_9 ht_9 _ m hS.vis) ?_
    rintro a w _ rfl hF hS
    refine e_p (v:=(.bool (!t_9))) 8 hF rfl (ex_not rfl) rfl rfl (by kernel_rfl) (by kernel_rfl) (by kernel_rfl) fun a hF=>e_end (by kernel_rfl) (n_sq ?_) _
    rcases bcase (!t_9) with hc4 | hc4
    ·have hb2:=cond_f hc4 hb2
     refine q_cond_f hF rfl hc4 (q_skipc (n_ib (n_sq (q_region (q_x (v:=(iV (w64 (t_3 + 1)))) hF hS (ex_ibin rfl rfl rfl) rfl rfl fun a hF=>q_x (v:=(iV (w64 (t_3 + 1)))) hF hS (ex_move rfl) rfl rfl fun a hF=>q_end ?_)))))
     obtain rfl:=someI hb2
     exact ⟨rfl,hF.sub ⟨rfl,rfl,rfl,rfl,trivial⟩,hS.mask [false]⟩
    ·have hb2:=cond_t hc4 hb2
     refine q_cond_t hF rfl hc4 (q_seq (q_region (q_x (v:=(.bool false)) hF hS (ex_assign rfl) rfl rfl fun a hF=>q_end (n_sq (q_ret (r_ib (r_sq ?_)))))))
     obtain rfl:=someI hb2
     refine ⟨nofun,.inr fun ho=>?_⟩
     subst ho
     refine r_ib (r_sq ?_)
     obtain rfl:=someI hr
     exact ret_of hF hS rfl (.tmp rfl .nil) rfl
  ·rintro e a w ⟨rfl,rfl,hF,hS⟩
   refine x_ib (n_sq ?_)
   refine q_seq (q_region (q_x (v:=(.bool true)) hF hS (ex_assign rfl) rfl rfl fun a hF=>q_end (n_sq (q_ret ?_))))
   obtain rfl:=someI hr
   exact ret_of hF hS rfl (.tmp rfl .nil) rfl
 ·have hr:=cond_t hc1 hr
  refine q_cond_t hF rfl hc1 (q_seq (q_region (q_x (v:=(.bool false)) hF hS (ex_assign rfl) rfl rfl fun a hF=>q_end (n_sq (q_ret (r_sq ?_))))))
  obtain rfl:=someI hr
  exact ret_of hF hS rfl (.tmp rfl .nil) rfl

theorem c_spec_rGood (p_s : List impl_Variable) (p_r : impl_Record) (r : Bool) (hr : spec_rGood p_s p_r = some r) (w0 : World) (m : Mem) (hv : Vis m w0) (s1 : Sl) (h1 : Rd m s1 p_s) (s2 : Sl) (h2 : Rd m s2 p_r.Values) :
  Ret Try.prog 50 [s1.v,(.agg #[(iV p_r.Area),(iV p_r.House),s2.v])] w0 (fun v _=>v = (.bool r)):=by
 unfold spec_rGood at hr
 refine ret_start Try.func50 rfl 19 rfl rfl m hv fun a hF hS=>q_seq (q_region (q_box (cs:=[(iV p_r.Area),(iV p_r.House),s2.v]) hF hS rfl rfl rfl fun a w b3 hF hS=>q_x (v:=(.bool false)) hF hS (ex_assign rfl) rfl rfl fun a hF=>q_end (n_sq (q_seq ?_))))
 obtain ⟨t_7,hj1,hr⟩:=bindS hr
 refine q_join (fun a w=>Fr a 19 [(4,(.bool t_7))]∧St [] w0 w m []) ?_ ?_
 ·refine q_region (q_x (v:=(.pointer (some ⟨b3,0,none⟩))) hF hS (ex_fieldAddr Try.underlying36 rfl sz3 rfl rfl) rfl rfl fun a hF=>q_x (v:=(iV p_r.Area)) hF hS (ex_load1 0 0 Try.underlying3 rfl rfl rfl rfl) rfl rfl fun a hF=>?_)
  obtain ⟨t_4,ht_4,hj1⟩:=bindS hj1
  refine q_call (vs:=[(iV p_r.Area),(iV 0),(iV 29)]) hF hS Try.func42 (by kernel_rfl) rfl rfl rfl (c_spec_l1In p_r.Area 0 29 t_4 ht_4 _ m hS.vis) ?_
  rintro a w _ rfl hF hS
  refine q_x (v:=(.bool t_4)) hF hS (ex_move rfl) rfl rfl fun a hF=>?_
  rcases bcase (t_4) with hc2 | hc2
  ·have hj1:=cond_f hc2 hj1
   refine q_skip hF (wanted_f hF rfl rfl rfl hc2 rfl) rfl fun a hF=>q_skip hF (wanted_f hF rfl rfl rfl hc2 rfl) rfl fun a hF=>q_skip hF (wanted_f hF rfl rfl rfl hc2 rfl) rfl fun a hF=>q_x (v:=(.bool false)) hF hS (ex_pick_f rfl rfl hc2) rfl rfl fun a hF=>q_x (v:=(.bool false)) hF hS (ex_move rfl) rfl rfl fun a hF=>q_skip hF (wanted_f hF rfl rfl rfl rfl rfl) rfl fun a hF=>q_skip hF (wanted_f hF rfl rfl rfl rfl rfl) rfl fun a hF=>q_skip hF (wanted_f hF rfl rfl rfl rfl rfl) rfl fun a hF=>q_skip hF (wanted_f hF rfl rfl rfl rfl rfl) rfl fun a hF=>q_x (v:=(.bool false)) hF hS (ex_pick_f rfl rfl rfl) rfl rfl fun a hF=>q_x (v:=(.bool false)) hF hS (ex_assign rfl) rfl rfl fun a hF=>q_end (n_jn ?_)
   obtain rfl:=someI hj1
   exact ⟨hF.sub ⟨rfl,trivial⟩,hS.mask [false]⟩
  ·have hj1:=cond_t hc2 hj1
   refine q_xg (v:=(.pointer (some ⟨b3,1,none⟩))) hF hS (ex_fieldAddr Try.underlying36 rfl sz3 rfl rfl) (wanted_t hF rfl rfl rfl hc2) rfl fun a hF=>q_xg (v:=(iV p_r.House)) hF hS (ex_load1 0 0 Try.underlying3 rfl rfl rfl rfl) (wanted_t hF rfl rfl rfl hc2) rfl fun a hF=>?_
   obtain ⟨t_5,ht_5,hj1⟩:=bindS hj1
   refine q_callg (vs:=[(iV p_r.House),(iV 0),(iV 999)]) hF hS (wanted_t hF rfl rfl rfl hc2) Try.func42 (by kernel_rfl) rfl rfl rfl (c_spec_l1In p_r.House 0 999 t_5 ht_5 _ m hS.vis) ?_
   rintro a w _ rfl hF hS
   refine q_x (v:=(.bool t_5)) hF hS (ex_pick_t rfl rfl hc2) rfl rfl fun a hF=>q_x (v:=(.bool t_5)) hF hS (ex_move rfl) rfl rfl fun a hF=>?_
   rcases bcase (t_5) with hc3 | hc3
   ·have hj1:=cond_f hc3 hj1
    refine q_skip hF (wanted_f hF rfl rfl rfl hc3 rfl) rfl fun a hF=>q_skip hF (wanted_f hF rfl rfl rfl hc3 rfl) rfl fun a hF=>q_skip hF (wanted_f hF rfl rfl rfl hc3 rfl) rfl fun a hF=>q_skip hF (wanted_f hF rfl rfl rfl hc3 rfl) rfl fun a hF=>q_x (v:=(.bool false)) hF hS (ex_pick_f rfl rfl hc3) rfl rfl fun a hF=>q_x (v:=(.bool false)) hF hS (ex_assign rfl) rfl rfl fun a hF=>q_end (n_jn ?_)
    obtain rfl:=someI hj1
    exact ⟨hF.sub ⟨rfl,trivial⟩,hS.mask [false]⟩
   ·have hj1:=cond_t hc3 hj1
    refine q_xg (v:=s1.v) hF hS (ex_move rfl) (wanted_t hF rfl rfl rfl hc3) rfl fun a hF=>q_xg (v:=(.pointer (some ⟨b3,2,none⟩))) hF hS (ex_fieldAddr Try.underlying36 rfl sz24 rfl rfl) (wanted_t hF rfl rfl rfl hc3) rfl fun a hF=>q_xg (v:=s2.v) hF hS (ex_load1 0 0 Try.underlying24 rfl rfl rfl rfl) (wanted_t hF rfl rfl rfl hc3) rfl fun a hF=>?_
    obtain ⟨t_6,ht_6,hj1⟩:=bindS hj1
    refine q_callg (vs:=[s1.v,s2.v]) hF hS (wanted_t hF rfl rfl rfl hc3) Try.func51 (by kernel_rfl) rfl rfl rfl (c_spec_sFits p_s p_r.Values t_6 ht_6 _ m hS.vis s1 h1 s2 h2) ?_
    rintro a w _ rfl hF hS
    refine q_x (v:=(.bool t_6)) hF hS (ex_pick_t rfl rfl hc3) rfl rfl fun a hF=>q_x (v:=(.bool t_6)) hF hS (ex_assign rfl) rfl rfl fun a hF=>q_end (n_jn ?_)
    obtain rfl:=someI hj1
    exact ⟨hF.sub ⟨rfl,trivial⟩,hS.mask [false]⟩
 ·rintro a w ⟨hF,hS⟩
  refine n_sq (q_ret ?_)
  obtain rfl:=someI hr
  exact ret_of hF hS rfl (.tmp rfl .nil) rfl

theorem c_spec_dGood (p_s : List impl_Variable) (p_l : List impl_Record) (r : Bool) (hr : spec_dGood p_s p_l = some r) (w0 : World) (m : Mem) (hv : Vis m w0) (s1 : Sl) (h1 : Rd m s1 p_s) (s2 : Sl) (h2 : Rd m s2 p_l) :
  Ret Try.prog 66 [s1.v,s2.v] w0 (fun v _=>v = (.bool r)):=by
 unfold spec_dGood at hr
 refine ret_start Try.func66 rfl 21 rfl rfl m hv fun a hF hS=>q_seq (q_region (q_x (v:=(.bool false)) hF hS (ex_assign rfl) rfl rfl fun a hF=>q_end (n_sq (q_seq (q_seq (q_region (q_x (v:=s2.v) hF hS (ex_move rfl) rfl rfl fun a hF=>q_x (v:=(iV (goLen p_l))) hF hS (ex_len Try.underlying27 rfl h2.len) rfl rfl fun a hF=>q_x (v:=(iV 0)) hF hS (ex_move rfl) rfl rfl fun a hF=>q_end (n_sq (q_block ?_)))))))))
 obtain ⟨o1,hl1,hr⟩:=bindS hr
 refine q_loop (fun (t_3 : Int) a w=>Fr a 21 [(0,s1.v),(1,s2.v),(7,s2.v),(8,(iV (goLen p_l))),(9,(iV t_3))]∧St [] w0 w m []) (fun (o : (Unit) ⊕ (Bool)) e a w=>o = .inl ()∧e = .exit 0∧Fr a 21 [(1,s2.v)]∧St [] w0 w m []) hl1 ⟨hF.sub ⟨rfl,rfl,rfl,rfl,rfl,trivial⟩,hS⟩ ?_ ?_
 ·clear hF hS
  rintro t_3 a w st ⟨hF,hS⟩ hb1
  unfold spec_dGood_l1 at hb1
  refine q_seq (q_region (q_x (v:=(.bool (decide (t_3 < (goLen p_l))))) hF hS (ex_ibin rfl rfl rfl) rfl rfl fun a hF=>q_end (n_sq (q_seq ?_))))
  rcases bcase (decide (t_3 < (goLen p_l))) with hc2 | hc2
  ·have hb1:=cond_f hc2 hb1
   refine q_cond_f hF rfl hc2 (q_exit (x_sq ?_))
   obtain rfl:=someI hb1
   exact ⟨nofun,.inl ⟨rfl,rfl,hF.sub ⟨rfl,trivial⟩,hS⟩⟩
  ·have hb1:=cond_t hc2 hb1
   refine q_cond_t hF rfl hc2 (q_skipc (n_sq (q_seq (q_block (q_seq (q_region ?_))))))
   obtain ⟨e_4,he_4,hb1⟩:=bindS hb1
   obtain ⟨vs5,at5,d5⟩:=h2.at he_4 3 rfl
   obtain ⟨s6,rfl,h6⟩ : ∃ s6 : Sl,vs5 = [(iV e_4.Area),(iV e_4.House),s6.v]∧Rd m s6 e_4.Values:=d5
   refine q_x (v:=(elP s2 (t_3.toNat * 3))) hF hS (ex_indexAddr Try.underlying27 sz36 rfl rfl (h2.idx he_4)) rfl rfl fun a hF=>q_x (v:=(.agg #[(iV e_4.Area),(iV e_4.House),s6.v])) hF hS (ex_loadEA (us:=[(iV e_4.Area),(iV e_4.House),s6.v]) 0 Try.underlying36 rfl sz36 rfl ((at5).at) rfl rfl rfl) rfl rfl fun a hF=>q_alloc (cs:=[(iV 0),(iV 0),nilS.v]) hF hS rfl rfl rfl fun a w b7 hF hS=>q_store (vs:=[(iV e_4.Area),(iV e_4.House),s6.v]) (cs':=[(iV e_4.Area),(iV e_4.House),s6.v]) 0 0 hF hS sz36 rfl rfl rfl rfl rfl rfl rfl rfl fun a w hF hS=>q_end (n_sq (q_seq (q_region (q_x (v:=s1.v) hF hS (ex_move rfl) rfl rfl fun a hF=>q_x (v:=(.agg #[(iV e_4.Area),(iV e_4.House),s6.v])) hF hS (ex_loadA (vs:=[(iV e_4.Area),(iV e_4.House),s6.v]) 0 0 Try.underlying36 rfl sz36 rfl rfl rfl rfl) rfl rfl fun a hF=>?_))))
   obtain ⟨t_8,ht_8,hb1⟩:=bindS hb1
   refine q_call (vs:=[s1.v,(.agg #[(iV e_4.Area),(iV e_4.House),s6.v])]) hF hS Try.func50 (by kernel_rfl) rfl rfl rfl (c_spec_rGood p_s e_4 t_8 ht_8 _ m hS.vis s1 h1 s6 h6) ?_
   rintro a w _ rfl hF hS
   refine q_x (v:=(.bool (!t_8))) hF hS (ex_not rfl) rfl rfl fun a hF=>q_end (n_sq ?_)
   rcases bcase (!t_8) with hc3 | hc3
   ·have hb1:=cond_f hc3 hb1
    refine q_cond_f hF rfl hc3 (q_skipc (n_ib (n_sq (q_region (q_x (v:=(iV (w64 (t_3 + 1)))) hF hS (ex_ibin rfl rfl rfl) rfl rfl fun a hF=>q_x (v:=(iV (w64 (t_3 + 1)))) hF hS (ex_move rfl) rfl rfl fun a hF=>q_end ?_)))))
    obtain rfl:=someI hb1
    exact ⟨rfl,hF.sub ⟨rfl,rfl,rfl,rfl,rfl,trivial⟩,hS.mask [false]⟩
   ·have hb1:=cond_t hc3 hb1
    refine q_cond_t hF rfl hc3 (q_seq (q_region (q_x (v:=(.bool false)) hF hS (ex_assign rfl) rfl rfl fun a hF=>q_end (n_sq (q_ret (r_ib (r_sq ?_)))))))
    obtain rfl:=someI hb1
    refine ⟨nofun,.inr fun ho=>?_⟩
    subst ho
    refine r_ib (r_sq ?_)
    obtain rfl:=someI hr
    exact ret_of hF hS rfl (.tmp rfl .nil) rfl
 ·rintro e a w ⟨rfl,rfl,hF,hS⟩
  refine x_ib (n_sq ?_)
  refine q_seq (q_region (q_x (v:=s2.v) hF hS (ex_move rfl) rfl rfl fun a hF=>q_x (v:=(iV (goLen p_l))) hF hS (ex_len Try.underlying27 rfl h2.len) rfl rfl fun a hF=>q_x (v:=(.bool (decide ((goLen p_l) ≤ 40)))) hF hS (ex_ibin rfl rfl rfl) rfl rfl fun a hF=>q_x (v:=(.bool (decide ((goLen p_l) ≤ 40)))) hF hS (ex_assign rfl) rfl rfl fun a hF=>q_end (n_sq (q_ret ?_))))
  obtain rfl:=someI hr
  exact ret_of hF hS rfl (.tmp rfl .nil) rfl

theorem c_spec_dInput (p_s : List impl_Variable) (p_l : List impl_Record) (r : Bool) (hr : spec_dInput p_s p_l = some r) (w0 : World) (m : Mem) (hv : Vis m w0) (s1 : Sl) (h1 : Rd m s1 p_s) (s2 : Sl) (h2 : Rd m s2 p_l) :
  Ret Try.prog 37 [s1.v,s2.v] w0 (fun v _=>v = (.bool r)):=by
 unfold spec_dInput at hr
 refine ret_start Try.func37 rfl 12 rfl rfl m hv fun a hF hS=>q_seq (q_region (q_x (v:=(.bool false)) hF hS (ex_assign rfl) rfl rfl fun a hF=>q_end (n_sq (q_seq ?_))))
 obtain ⟨t_5,hj1,hr⟩:=bindS hr
 refine q_join (fun a w=>Fr a 12 [(4,(.bool t_5))]∧St [] w0 w m []) ?_ ?_
 ·refine q_region (q_x (v:=s1.v) hF hS (ex_move rfl) rfl rfl fun a hF=>?_)
  obtain ⟨t_3,ht_3,hj1⟩:=bindS hj1
  refine q_call (vs:=[s1.v]) hF hS Try.func49 (by kernel_rfl) rfl rfl rfl (c_spec_sGood p_s t_3 ht_3 _ m hS.vis s1 h1) ?_
  rintro a w _ rfl hF hS
  refine q_x (v:=(.bool t_3)) hF hS (ex_move rfl) rfl rfl fun a hF=>?_
  rcases bcase (t_3) with hc2 | hc2
  ·have hj1:=cond_f hc2 hj1
   refine q_skip hF (wanted_f hF rfl rfl rfl hc2 rfl) rfl fun a hF=>q_skip hF (wanted_f hF rfl rfl rfl hc2 rfl) rfl fun a hF=>q_skip hF (wanted_f hF rfl rfl rfl hc2 rfl) rfl fun a hF=>q_x (v:=(.bool false)) hF hS (ex_pick_f rfl rfl hc2) rfl rfl fun a hF=>q_x (v:=(.bool false)) hF hS (ex_assign rfl) rfl rfl fun a hF=>q_end (n_jn ?_)
   obtain rfl:=someI hj1
   exact ⟨hF.sub ⟨rfl,trivial⟩,hS⟩
  ·have hj1:=cond_t hc2 hj1
   refine q_xg (v:=s1.v) hF hS (ex_move rfl) (wanted_t hF rfl rfl rfl hc2) rfl fun a hF=>q_xg (v:=s2.v) hF hS (ex_move rfl) (wanted_t hF rfl rfl rfl hc2) rfl fun a hF=>?_
   obtain ⟨t_4,ht_4,hj1⟩:=bindS hj1
   refine q_callg (vs:=[s1.v,s2.v]) hF hS (wanted_t hF rfl rfl rfl hc2) Try.func66 (by kernel_rfl) rfl rfl rfl (c_spec_dGood p_s p_l t_4 ht_4 _ m hS.vis s1 h1 s2 h2) ?_
   rintro a w _ rfl hF hS
   refine q_x (v:=(.bool t_4)) hF hS (ex_pick_t rfl rfl hc2) rfl rfl fun a hF=>q_x (v:=(.bool t_4)) hF hS (ex_assign rfl) rfl rfl fun a hF=>q_end (n_jn ?_)
   obtain rfl:=someI hj1
   exact ⟨hF.sub ⟨rfl,trivial⟩,hS⟩
 ·rintro a w ⟨hF,hS⟩
  refine n_sq (q_ret ?_)
  obtain rfl:=someI hr
  exact ret_of hF hS rfl (.tmp rfl .nil) rfl

theorem c_spec_l1All (p_l : List Int) (p_lo : Int) (p_hi : Int) (r : Bool) (hr : spec_l1All p_l p_lo p_hi = some r) (w0 : World) (m : Mem) (hv : Vis m w0) (s1 : Sl) (h1 : Rd m s1 p_l) :
  Ret Try.prog 76 [s1.v,(iV p_lo),(iV p_hi)] w0 (fun v _=>v = (.bool r)):=by
 unfold spec_l1All at hr
 refine ret_start Try.func76 rfl 21 rfl rfl m hv fun a hF hS=>q_seq (q_region (q_x (v:=(.bool false)) hF hS (ex_assign rfl) rfl rfl fun a hF=>q_end (n_sq (q_seq (q_seq (q_region (q_x (v:=s1.v) hF hS (ex_move rfl) rfl rfl fun a hF=>q_x (v:=(iV (goLen p_l))) hF hS (ex_len Try.underlying24 rfl h1.len) rfl rfl fun a hF=>q_x (v:=(iV 0)) hF hS (ex_move rfl) rfl rfl fun a hF=>q_end (n_sq (q_block ?_)))))))))
 obtain ⟨o1,hl1,hr⟩:=bindS hr
 refine q_loop (fun (t_2 : Int) a w=>Fr a 21 [(1,(iV p_lo)),(2,(iV p_hi)),(9,s1.v),(10,(iV (goLen p_l))),(11,(iV t_2))]∧St [] w0 w m []) (fun (o : (Unit) ⊕ (Bool)) e a w=>o = .inl ()∧e = .exit 0∧Fr a 21 []∧St [] w0 w m []) hl1 ⟨hF.sub ⟨rfl,rfl,rfl,rfl,rfl,trivial⟩,hS⟩ ?_ ?_
 ·clear hF hS
  rintro t_2 a w st ⟨hF,hS⟩ hb1
  unfold spec_l1All_l1 at hb1
  refine q_seq (q_region (q_x (v:=(.bool (decide (t_2 < (goLen p_l))))) hF hS (ex_ibin rfl rfl rfl) rfl rfl fun a hF=>q_end (n_sq (q_seq ?_))))
  rcases bcase (decide (t_2 < (goLen p_l))) with hc2 | hc2
  ·have hb1:=cond_f hc2 hb1
   refine q_cond_f hF rfl hc2 (q_exit (x_sq ?_))
   obtain rfl:=someI hb1
   exact ⟨nofun,.inl ⟨rfl,rfl,hF.sub trivial,hS⟩⟩
  ·have hb1:=cond_t hc2 hb1
   refine q_cond_t hF rfl hc2 (q_skipc (n_sq (q_seq (q_block (q_seq (q_region ?_))))))
   obtain ⟨e_3,he_3,hb1⟩:=bindS hb1
   obtain ⟨vs4,at4,d4⟩:=h1.at he_3 1 rfl
   obtain rfl : vs4 = [(iV e_3)]:=d4
   refine q_x (v:=(elP s1 (t_2.toNat * 1))) hF hS (ex_indexAddr Try.underlying24 sz3 rfl rfl (h1.idx he_3)) rfl rfl fun a hF=>q_x (v:=(iV e_3)) hF hS (ex_loadE1 0 Try.underlying3 rfl rfl ((at4).at) rfl rfl) rfl rfl fun a hF=>q_x (v:=(iV e_3)) hF hS (ex_assign rfl) rfl rfl fun a hF=>q_end (n_sq (q_seq (q_region (q_x (v:=(iV e_3)) hF hS (ex_move rfl) rfl rfl fun a hF=>q_x (v:=(iV p_lo)) hF hS (ex_move rfl) rfl rfl fun a hF=>q_x (v:=(iV p_hi)) hF hS (ex_move rfl) rfl rfl fun a hF=>?_))))
   obtain ⟨t_5,ht_5,hb1⟩:=bindS hb1
   refine q_call (vs:=[(iV e_3),(iV p_lo),(iV p_hi)]) hF hS Try.func42 (by kernel_rfl) rfl rfl rfl (c_spec_l1In e_3 p_lo p_hi t_5 ht_5 _ m hS.vis) ?_
   rintro a w _ rfl hF hS
   refine q_x (v:=(.bool (!t_5))) hF hS (ex_not rfl) rfl rfl fun a hF=>q_end (n_sq ?_)
   rcases bcase (!t_5) with hc3 | hc3
   ·have hb1:=cond_f hc3 hb1
    refine q_cond_f hF rfl hc3 (q_skipc (n_ib (n_sq (q_region (q_x (v:=(iV (w64 (t_2 + 1)))) hF hS (ex_ibin rfl rfl rfl) rfl rfl fun a hF=>q_x (v:=(iV (w64 (t_2 + 1)))) hF hS (ex_move rfl) rfl rfl fun a hF=>q_end ?_)))))
    obtain rfl:=someI hb1
    exact ⟨rfl,hF.sub ⟨rfl,rfl,rfl,rfl,rfl,trivial⟩,hS⟩
   ·have hb1:=cond_t hc3 hb1
    refine q_cond_t hF rfl hc3 (q_seq (q_region (q_x (v:=(.bool false)) hF hS (ex_assign rfl) rfl rfl fun a hF=>q_end (n_sq (q_ret (r_ib (r_sq ?_)))))))
    obtain rfl:=someI hb1
    refine ⟨nofun,.inr fun ho=>?_⟩
    subst ho
    refine r_ib (r_sq ?_)
    obtain rfl:=someI hr
    exact ret_of hF hS rfl (.tmp rfl .nil) rfl
 ·rintro e a w ⟨rfl,rfl,hF,hS⟩
  refine x_ib (n_sq ?_)
  refine q_seq (q_region (q_x (v:=(.bool true)) hF hS (ex_assign rfl) rfl rfl fun a hF=>q_end (n_sq (q_ret ?_))))
  obtain rfl:=someI hr
  exact ret_of hF hS rfl (.tmp rfl .nil) rfl

theorem c_spec_l1Put (p_l : List Int) (p_n : Int) (r : (List Int)) (hr : spec_l1Put p_l p_n = some r) (w0 : World) (m : Mem) (hv : Vis m w0) (s1 : Sl) (h1 : Rd m s1 p_l) :
  Ret Try.prog 77 [s1.v,(iV p_n)] w0 (fun v w=>∃ (m' : Mem) (s0' : Sl),v = s0'.v∧MLe [] w0.heap.size m m'∧St [] w0 w m' []∧Rd m' s0' r):=by
 unfold spec_l1Put at hr
 refine ret_start Try.func77 rfl 48 rfl rfl m hv fun a hF hS=>q_seq (q_region (q_x (v:=nilS.v) hF hS (ex_assign rfl) rfl rfl fun a hF=>q_end (n_sq (q_seq (q_region (q_x (v:=(iV 0)) hF hS (ex_assign rfl) rfl rfl fun a hF=>q_end (n_sq (q_seq (q_block ?_)))))))))
 obtain ⟨k_6,hl1,hr⟩:=bindS hr
 refine q_loop (fun (k_2 : Int) a w=>Fr a 48 [(0,s1.v),(1,(iV p_n)),(5,(iV k_2))]∧St [] w0 w m []) (fun (k_6 : Int) e a w=>e = .exit 0∧Fr a 48 [(0,s1.v),(1,(iV p_n)),(5,(iV k_6))]∧St [] w0 w m []) hl1 ⟨hF.sub ⟨rfl,rfl,rfl,trivial⟩,hS⟩ ?_ ?_
 ·clear hF hS
  rintro k_2 a w st ⟨hF,hS⟩ hb1
  unfold spec_l1Put_l1 at hb1
  refine q_seq (q_seq ?_)
  obtain ⟨t_5,hj2,hb1⟩:=bindS hb1
  refine q_join (fun a w=>Fr a 48 [(0,s1.v),(1,(iV p_n)),(5,(iV k_2)),(18,(.bool t_5))]∧St [] w0 w m []) ?_ ?_
  ·refine q_region (q_x (v:=(iV k_2)) hF hS (ex_move rfl) rfl rfl fun a hF=>q_x (v:=s1.v) hF hS (ex_move rfl) rfl rfl fun a hF=>q_x (v:=(iV (goLen p_l))) hF hS (ex_len Try.underlying24 rfl h1.len) rfl rfl fun a hF=>q_x (v:=(.bool (decide (k_2 < (goLen p_l))))) hF hS (ex_ibin rfl rfl rfl) rfl rfl fun a hF=>q_x (v:=(.bool (decide (k_2 < (goLen p_l))))) hF hS (ex_move rfl) rfl rfl fun a hF=>?_)
   rcases bcase (decide (k_2 < (goLen p_l))) with hc3 | hc3
   ·have hj2:=cond_f hc3 hj2
    refine q_skip hF (wanted_f hF rfl rfl rfl hc3 rfl) rfl fun a hF=>q_skip hF (wanted_f hF rfl rfl rfl hc3 rfl) rfl fun a hF=>q_skip hF (wanted_f hF rfl rfl rfl hc3 rfl) rfl fun a hF=>q_skip hF (wanted_f hF rfl rfl rfl hc3 rfl) rfl fun a hF=>q_skip hF (wanted_f hF rfl rfl rfl hc3 rfl) rfl fun a hF=>q_skip hF (wanted_f hF rfl rfl rfl hc3 rfl) rfl fun a hF=>q_x (v:=(.bool false)) hF hS (ex_pick_f rfl rfl hc3) rfl rfl fun a hF=>q_end (n_jn ?_)
    obtain rfl:=someI hj2
    exact ⟨hF.sub ⟨rfl,rfl,rfl,rfl,trivial⟩,hS⟩
   ·have hj2:=cond_t hc3 hj2
    refine q_xg (v:=s1.v) hF hS (ex_move rfl) (wanted_t hF rfl rfl rfl hc3) rfl fun a hF=>q_xg (v:=(iV k_2)) hF hS (ex_move rfl) (wanted_t hF rfl rfl rfl hc3) rfl fun a hF=>?_
    obtain ⟨e_3,he_3,hj2⟩:=bindS hj2
    obtain ⟨vs4,at4,d4⟩:=h1.at he_3 1 rfl
    obtain rfl : vs4 = [(iV e_3)]:=d4
    refine q_xg (v:=(elP s1 (k_2.toNat * 1))) hF hS (ex_indexAddr Try.underlying24 sz3 rfl rfl (h1.idx he_3)) (wanted_t hF rfl rfl rfl hc3) rfl fun a hF=>q_xg (v:=(iV e_3)) hF hS (ex_loadE1 0 Try.underlying3 rfl rfl ((at4).at) rfl rfl) (wanted_t hF rfl rfl rfl hc3) rfl fun a hF=>q_xg (v:=(iV p_n)) hF hS (ex_move rfl) (wanted_t hF rfl rfl rfl hc3) rfl fun a hF=>q_xg (v:=(.bool (decide (e_3 < p_n)))) hF hS (ex_ibin rfl rfl rfl) (wanted_t hF rfl rfl rfl hc3) rfl fun a hF=>q_x (v:=(.bool (decide (e_3 < p_n)))) hF hS (ex_pick_t rfl rfl hc3) rfl rfl fun a hF=>q_end (n_jn ?_)
    obtain rfl:=someI hj2
    exact ⟨hF.sub ⟨rfl,rfl,rfl,rfl,trivial⟩,hS⟩
  ·rintro a w ⟨hF,hS⟩
   refine n_sq ?_
   rcases bcase (t_5) with hc4 | hc4
   ·have hb1:=cond_f hc4 hb1
    refine q_cond_f hF rfl hc4 (q_exit (x_sq ?_))
    obtain rfl:=someI hb1
    exact ⟨nofun,.inl ⟨rfl,hF.sub ⟨rfl,rfl,rfl,trivial⟩,hS⟩⟩
   ·have hb1:=cond_t hc4 hb1
    refine q_cond_t hF rfl hc4 (q_skipc (n_sq (q_block (q_region (q_x (v:=(iV k_2)) hF hS (ex_move rfl) rfl rfl fun a hF=>q_x (v:=(iV (w64 (k_2 + 1)))) hF hS (ex_ibin rfl rfl rfl) rfl rfl fun a hF=>q_x (v:=(iV (w64 (k_2 + 1)))) hF hS (ex_assign rfl) rfl rfl fun a hF=>q_end (n_ib ?_))))))
    obtain rfl:=someI hb1
    exact ⟨rfl,hF.sub ⟨rfl,rfl,rfl,trivial⟩,hS⟩
 ·rintro e a w ⟨rfl,hF,hS⟩
  refine x_ib (n_sq ?_)
  refine q_seq (q_seq ?_)
  obtain ⟨t_9,hj5,hr⟩:=bindS hr
  refine q_join (fun a w=>Fr a 48 [(0,s1.v),(1,(iV p_n)),(5,(iV k_6)),(32,(.bool t_9))]∧St [] w0 w m []) ?_ ?_
  ·refine q_region (q_x (v:=(iV k_6)) hF hS (ex_move rfl) rfl rfl fun a hF=>q_x (v:=s1.v) hF hS (ex_move rfl) rfl rfl fun a hF=>q_x (v:=(iV (goLen p_l))) hF hS (ex_len Try.underlying24 rfl h1.len) rfl rfl fun a hF=>q_x (v:=(.bool (decide (k_6 < (goLen p_l))))) hF hS (ex_ibin rfl rfl rfl) rfl rfl fun a hF=>q_x (v:=(.bool (decide (k_6 < (goLen p_l))))) hF hS (ex_move rfl) rfl rfl fun a hF=>?_)
   rcases bcase (decide (k_6 < (goLen p_l))) with hc6 | hc6
   ·have hj5:=cond_f hc6 hj5
    refine q_skip hF (wanted_f hF rfl rfl rfl hc6 rfl) rfl fun a hF=>q_skip hF (wanted_f hF rfl rfl rfl hc6 rfl) rfl fun a hF=>q_skip hF (wanted_f hF rfl rfl rfl hc6 rfl) rfl fun a hF=>q_skip hF (wanted_f hF rfl rfl rfl hc6 rfl) rfl fun a hF=>q_skip hF (wanted_f hF rfl rfl rfl hc6 rfl) rfl fun a hF=>q_skip hF (wanted_f hF rfl rfl rfl hc6 rfl) rfl fun a hF=>q_x (v:=(.bool false)) hF hS (ex_pick_f rfl rfl hc6) rfl rfl fun a hF=>q_end (n_jn ?_)
    obtain rfl:=someI hj5
    exact ⟨hF.sub ⟨rfl,rfl,rfl,rfl,trivial⟩,hS⟩
   ·have hj5:=cond_t hc6 hj5
    refine q_xg (v:=s1.v) hF hS (ex_move rfl) (wanted_t hF rfl rfl rfl hc6) rfl fun a hF=>q_xg (v:=(iV k_6)) hF hS (ex_move rfl) (wanted_t hF rfl rfl rfl hc6) rfl fun a hF=>?_
    obtain ⟨e_7,he_7,hj5⟩:=bindS hj5
    obtain ⟨vs8,at8,d8⟩:=h1.at he_7 1 rfl
    obtain rfl : vs8 = [(iV e_7)]:=d8
    refine q_xg (v:=(elP s1 (k_6.toNat * 1))) hF hS (ex_indexAddr Try.underlying24 sz3 rfl rfl (h1.idx he_7)) (wanted_t hF rfl rfl rfl hc6) rfl fun a hF=>q_xg (v:=(iV e_7)) hF hS (ex_loadE1 0 Try.underlying3 rfl rfl ((at8).at) rfl rfl) (wanted_t hF rfl rfl rfl hc6) rfl fun a hF=>q_xg (v:=(iV p_n)) hF hS (ex_move rfl) (wanted_t hF rfl rfl rfl hc6) rfl fun a hF=>q_xg (v:=(.bool (e_7 == p_n))) hF hS (ex_ibin rfl rfl rfl) (wanted_t hF rfl rfl rfl hc6) rfl fun a hF=>q_x (v:=(.bool (e_7 == p_n))) hF hS (ex_pick_t rfl rfl hc6) rfl rfl fun a hF=>q_end (n_jn ?_)
    obtain rfl:=someI hj5
    exact ⟨hF.sub ⟨rfl,rfl,rfl,rfl,trivial⟩,hS⟩
  ·rintro a w ⟨hF,hS⟩
   refine n_sq ?_
   rcases bcase (t_9) with hc7 | hc7
   ·have hr:=cond_f hc7 hr
    refine q_cond_f hF rfl hc7 (q_skipc (n_sq (q_seq (q_region (q_do rfl fun _ hK=>wp_build0 (α:=Int) hF hS Try.underlying24 inf3 rfl fun a w q10 s10 hF hS h10 _=>hK _ _ (q_x (v:=s1.v) hF hS (ex_move rfl) rfl rfl fun a hF=>q_x (v:=(iV k_6)) hF hS (ex_move rfl) rfl rfl fun a hF=>?_))))))
    obtain ⟨l_11,hl_11,hr⟩:=bindS hr
    have h12 : Rd m (subS s1 1 (0 : Int).toNat k_6.toNat s1.cap) l_11:=h1.sub' hl_11 1 rfl
    refine q_x (v:=(subS s1 1 (0 : Int).toNat k_6.toNat s1.cap).v) hF hS (ex_slice Try.underlying24 sz3 rfl rfl rfl (.inl ⟨rfl,rfl⟩) (.inr ⟨_,rfl⟩) (h1.subok hl_11)) rfl rfl fun a hF=>?_
    obtain ⟨l_13,hl_13,hr⟩:=bindS hr
    refine q_do rfl fun _ hK=>wp_append hF hS h10 Try.underlying24 inf3 rfl rfl rfl rfl (h12.vw hS.vis) rfl (by decide) hl_13 rfl fun a w q14 s14 hF hS h14=>hK _ _ (q_x (v:=s14.v) hF hS (ex_assign rfl) rfl rfl fun a hF=>q_end (n_sq (q_seq (q_region (q_x (v:=s14.v) hF hS (ex_move rfl) rfl rfl fun a hF=>q_x (v:=(iV p_n)) hF hS (ex_move rfl) rfl rfl fun a hF=>q_do rfl fun _ hK=>wp_buildSlice' (l:=([p_n] : List Int)) (cells:=[(iV p_n)]) hF hS Try.underlying24 inf3 rfl rfl (by kernel_rfl) rfl rfl rfl ⟨rfl,rfl⟩ rfl rfl fun a w q15 s15 hF hS h15 _=>hK _ _ ?_)))))
    have hS : St _ _ _ _ [q14,q15]:=hS.sel [1,0] (by decide)
    obtain ⟨l_16,hl_16,hr⟩:=bindS hr
    refine q_do rfl fun _ hK=>wp_append hF hS h14 Try.underlying24 inf3 rfl rfl rfl rfl (h15.vw hS (j:=1) rfl) rfl (by decide) hl_16 rfl fun a w q17 s17 hF hS h17=>hK _ _ (q_x (v:=s17.v) hF hS (ex_assign rfl) rfl rfl fun a hF=>q_end (n_sq (q_seq (q_region (q_x (v:=s17.v) hF hS (ex_move rfl) rfl rfl fun a hF=>q_x (v:=s1.v) hF hS (ex_move rfl) rfl rfl fun a hF=>q_x (v:=(iV k_6)) hF hS (ex_move rfl) rfl rfl fun a hF=>?_)))))
    obtain ⟨l_18,hl_18,hr⟩:=bindS hr
    have h19 : Rd m (subS s1 1 (k_6 : Int).toNat (goLen p_l).toNat s1.cap) l_18:=h1.sub' hl_18 1 rfl
    refine q_x (v:=(subS s1 1 (k_6 : Int).toNat (goLen p_l).toNat s1.cap).v) hF hS (ex_slice Try.underlying24 sz3 rfl rfl rfl (.inr ⟨_,rfl⟩) (.inl ⟨rfl,h1.jlen⟩) (h1.subok hl_18)) rfl rfl fun a hF=>?_
    obtain ⟨l_20,hl_20,hr⟩:=bindS hr
    refine q_do rfl fun _ hK=>wp_append hF hS h17 Try.underlying24 inf3 rfl rfl rfl rfl (h19.vw hS.vis) rfl (by decide) hl_20 rfl fun a w q21 s21 hF hS h21=>hK _ _ (q_x (v:=s21.v) hF hS (ex_assign rfl) rfl rfl fun a hF=>q_end (n_sq (q_ret ?_)))
    obtain rfl:=someI hr
    obtain ⟨m22,hm22,hS,hz22⟩:=hS.freeze
    have h22:=h21.froz hm22.le hz22
    exact ret_of hF hS rfl (.tmp rfl .nil) ⟨m22,s21,rfl,hm22,hS.sel [] (by decide),h22⟩
   ·have hr:=cond_t hc7 hr
    refine q_cond_t hF rfl hc7 (q_seq (q_region (q_x (v:=s1.v) hF hS (ex_move rfl) rfl rfl fun a hF=>q_x (v:=s1.v) hF hS (ex_assign rfl) rfl rfl fun a hF=>q_end (n_sq (q_ret (r_sq ?_))))))
    obtain rfl:=someI hr
    exact ret_of hF hS rfl (.tmp rfl .nil) ⟨m,s1,rfl,(MLe.refl _ _),hS.sel [] (by decide),h1⟩

theorem c_spec_sGroups (p_s : List impl_Variable) (p_g : impl_Grouping) (r : Int) (hr : spec_sGroups p_s p_g = some r) (w0 : World) (m : Mem) (hv : Vis m w0) (s1 : Sl) (h1 : Rd m s1 p_s) (s2 : Sl) (h2 : Rd m s2 p_g.Groups) :
  Ret Try.prog 38 [s1.v,(.agg #[(iV p_g.Var),s2.v])] w0 (fun v _=>v = (iV r)):=by
 unfold spec_sGroups at hr
 refine ret_start Try.func38 rfl 61 rfl rfl m hv fun a hF hS=>q_seq (q_region (q_box (cs:=[(iV p_g.Var),s2.v]) hF hS rfl rfl rfl fun a w b3 hF hS=>q_x (v:=(iV 0)) hF hS (ex_assign rfl) rfl rfl fun a hF=>q_end (n_sq (q_seq (q_seq ?_)))))
 obtain ⟨t_8,hj1,hr⟩:=bindS hr
 refine q_join (fun a w=>Fr a 61 [(3,(.pointer (some ⟨b3,0,none⟩))),(32,(.bool t_8))]∧St [] w0 w m [[⟨b3,[(iV p_g.Var),s2.v],26⟩]]) ?_ ?_
 ·refine e_region ⟨[],[]⟩ mixed fun w' hw'=>?_
  have hS:=hS.below hw'
  refine e_p (v:=(.pointer (some ⟨b3,0,none⟩))) 0 hF rfl (ex_fieldAddr Try.underlying26 rfl sz3 rfl rfl) rfl rfl (by kernel_rfl) (by kernel_rfl) (by kernel_rfl) fun a hF=>e_x (v:=(iV p_g.Var)) 1 hF hS rfl (ex_load1 0 0 Try.underlying3 rfl rfl rfl rfl) rfl rfl (by kernel_rfl) (by kernel_rfl) (by kernel_rfl) (by kernel_rfl) fun a hF=>e_p (v:=s1.v) 2 hF rfl (ex_move rfl) rfl rfl (by kernel_rfl) (by kernel_rfl) (by kernel_rfl) fun a hF=>e_p (v:=(iV (goLen p_s))) 3 hF rfl (ex_len Try.underlying23 rfl h1.len) rfl rfl (by kernel_rfl) (by kernel_rfl) (by kernel_rfl) fun a hF=>e_p (v:=(iV (w64 ((goLen p_s) - 1)))) 4 hF rfl (ex_ibin rfl rfl rfl) rfl rfl (by kernel_rfl) (by kernel_rfl) (by kernel_rfl) fun a hF=>e_one 5 (by kernel_rfl) ?_
  obtain ⟨t_4,ht_4,hj1⟩:=bindS hj1
  refine e_call (vs:=[(iV p_g.Var),(iV 0),(iV (w64 ((goLen p_s) - 1)))]) hF hS rfl Try.func42 (by kernel_rfl) rfl rfl rfl (c_spec_l1In p_g.Var 0 (w64 ((goLen p_s) - 1)) t_4 ht_4 _ m hS.vis) ?_
  rintro a w _ rfl hF hS
  refine e_p (v:=(.bool (!t_4))) 6 hF rfl (ex_not rfl) rfl rfl (by kernel_rfl) (by kernel_rfl) (by kernel_rfl) fun a hF=>e_p (v:=(.bool (!t_4))) 7 hF rfl (ex_move rfl) rfl rfl (by kernel_rfl) (by kernel_rfl) (by kernel_rfl) fun a hF=>?_
  rcases bcase (!t_4) with hc2 | hc2
  ·have hj1:=cond_f hc2 hj1
   refine e_pg (v:=(.pointer (some ⟨b3,1,none⟩))) 8 hF rfl (ex_fieldAddr Try.underlying26 rfl sz24 rfl rfl) (wanted_t hF rfl rfl rfl hc2) rfl (by kernel_rfl) (by kernel_rfl) (by kernel_rfl) fun a hF=>e_xg (v:=s2.v) 9 hF hS rfl (ex_load1 0 0 Try.underlying24 rfl rfl rfl rfl) (wanted_t hF rfl rfl rfl hc2) rfl (by kernel_rfl) (by kernel_rfl) (by kernel_rfl) (by kernel_rfl) fun a hF=>e_pg (v:=(iV (goLen p_g.Groups))) 10 hF rfl (ex_len Try.underlying24 rfl h2.len) (wanted_t hF rfl rfl rfl hc2) rfl (by kernel_rfl) (by kernel_rfl) (by kernel_rfl) fun a hF=>e_pg (v:=s1.v) 11 hF rfl (ex_move rfl) (wanted_t hF rfl rfl rfl hc2) rfl (by kernel_rfl) (by kernel_rfl) (by kernel_rfl) fun a hF=>e_pg (v:=(.pointer (some ⟨b3,0,none⟩))) 12 hF rfl (ex_fieldAddr Try.underlying26 rfl sz3 rfl rfl) (wanted_t hF rfl rfl rfl hc2) rfl (by kernel_rfl) (by kernel_rfl) (by kernel_rfl) fun a hF=>e_xg (v:=(iV p_g.Var)) 13 hF hS rfl (ex_load1 0 0 Try.underlying3 rfl rfl rfl rfl) (wanted_t hF rfl rfl rfl hc2) rfl (by kernel_rfl) (by kernel_rfl) (by kernel_rfl) (by kernel_rfl) fun a hF=>?_
   obtain ⟨e_5,he_5,hj1⟩:=bindS hj1
   obtain ⟨vs6,at6,d6⟩:=h1.at he_5 2 rfl
   obtain rfl : vs6 = [(strV e_5.Name),(iV e_5.Levels)]:=d6
   refine e_pg (v:=(elP s1 (p_g.Var.toNat * 2))) 14 hF rfl (ex_indexAddr Try.underlying23 sz85 rfl rfl (h1.idx he_5)) (wanted_t hF rfl rfl rfl hc2) rfl (by kernel_rfl) (by kernel_rfl) (by kernel_rfl) fun a hF=>e_pg (v:=(elP s1 (p_g.Var.toNat * 2 + 1))) 15 hF rfl (ex_fieldAddrE Try.underlying85 rfl sz3 rfl (h1.idx he_5) rfl) (wanted_t hF rfl rfl rfl hc2) rfl (by kernel_rfl) (by kernel_rfl) (by kernel_rfl) fun a hF=>e_xg (v:=(iV e_5.Levels)) 16 hF hS rfl (ex_loadE1 1 Try.underlying3 rfl rfl ((at6).at) rfl rfl) (wanted_t hF rfl rfl rfl hc2) rfl (by kernel_rfl) (by kernel_rfl) (by kernel_rfl) (by kernel_rfl) fun a hF=>e_pg (v:=(.bool ((goLen p_g.Groups) != e_5.Levels))) 17 hF rfl (ex_ibin rfl rfl rfl) (wanted_t hF rfl rfl rfl hc2) rfl (by kernel_rfl) (by kernel_rfl) (by kernel_rfl) fun a hF=>e_p (v:=(.bool ((goLen p_g.Groups) != e_5.Levels))) 18 hF rfl (ex_pick_f rfl rfl hc2) rfl rfl (by kernel_rfl) (by kernel_rfl) (by kernel_rfl) fun a hF=>e_p (v:=(.bool ((goLen p_g.Groups) != e_5.Levels))) 19 hF rfl (ex_move rfl) rfl rfl (by kernel_rfl) (by kernel_rfl) (by kernel_rfl) fun a hF=>?_
   rcases bcase ((goLen p_g.Groups) != e_5.Levels) with hc3 | hc3
   ·have hj1:=cond_f hc3 hj1
    refine e_pg (v:=(.pointer (some ⟨b3,1,none⟩))) 20 hF rfl (ex_fieldAddr Try.underlying26 rfl sz24 rfl rfl) (wanted_t hF rfl rfl rfl hc3) rfl (by kernel_rfl) (by kernel_rfl) (by kernel_rfl) fun a hF=>e_xg (v:=s2.v) 21 hF hS rfl (ex_load1 0 0 Try.underlying24 rfl rfl rfl rfl) (wanted_t hF rfl rfl rfl hc3) rfl (by kernel_rfl) (by kernel_rfl) (by kernel_rfl) (by kernel_rfl) fun a hF=>e_one 22 (by kernel_rfl) ?_
    obtain ⟨t_7,ht_7,hj1⟩:=bindS hj1
    refine e_callg (vs:=[s2.v,(iV 0),(iV 7)]) hF hS rfl (wanted_t hF rfl rfl rfl hc3) Try.func76 (by kernel_rfl) rfl rfl rfl (c_spec_l1All p_g.Groups 0 7 t_7 ht_7 _ m hS.vis s2 h2) ?_
    rintro a w _ rfl hF hS
    refine e_pg (v:=(.bool (!t_7))) 23 hF rfl (ex_not rfl) (wanted_t hF rfl rfl rfl hc3) rfl (by kernel_rfl) (by kernel_rfl) (by kernel_rfl) fun a hF=>e_p (v:=(.bool (!t_7))) 24 hF rfl (ex_pick_f rfl rfl hc3) rfl rfl (by kernel_rfl) (by kernel_rfl) (by kernel_rfl) fun a hF=>e_end (by kernel_rfl) (n_jn ?_) _
    obtain rfl:=someI hj1
    exact ⟨hF.sub ⟨rfl,rfl,trivial⟩,hS⟩
   ·have hj1:=cond_t hc3 hj1
    refine e_skipP 20 hF rfl (wanted_f hF rfl rfl rfl hc3 rfl) rfl (by kernel_rfl) (by kernel_rfl) (by kernel_rfl) fun a hF=>e_skipP 21 hF rfl (wanted_f hF rfl rfl rfl hc3 rfl) rfl (by kernel_rfl) (by kernel_rfl) (by kernel_rfl) fun a hF=>e_skipP 22 hF rfl (wanted_f hF rfl rfl rfl hc3 rfl) rfl (by kernel_rfl) (by kernel_rfl) (by kernel_rfl) fun a hF=>e_skipP 23 hF rfl (wanted_f hF rfl rfl rfl hc3 rfl) rfl (by kernel_rfl) (by kernel_rfl) (by kernel_rfl) fun a hF=>e_p (v:=(.bool true)) 24 hF rfl (ex_pick_t rfl rfl hc3) rfl rfl (by kernel_rfl) (by kernel_rfl) (by kernel_rfl) fun a hF=>e_end (by kernel_rfl) (n_jn ?_) _
    obtain rfl:=someI hj1
    exact ⟨hF.sub ⟨rfl,rfl,trivial⟩,hS⟩
  ·have hj1:=cond_t hc2 hj1
   refine e_skipP 8 hF rfl (wanted_f hF rfl rfl rfl hc2 rfl) rfl (by kernel_rfl) (by kernel_rfl) (by kernel_rfl) fun a hF=>e_skipP 9 hF rfl (wanted_f hF rfl rfl rfl hc2 rfl) rfl (by kernel_rfl) (by kernel_rfl) (by kernel_rfl) fun a hF=>e_skipP 10 hF rfl (wanted_f hF rfl rfl rfl hc2 rfl) rfl (by kernel_rfl) (by kernel_rfl) (by kernel_rfl) fun a hF=>e_skipP 11 hF rfl (wanted_f hF rfl rfl rfl hc2 rfl) rfl (by kernel_rfl) (by kernel_rfl) (by kernel_rfl) fun a hF=>e_skipP 12 hF rfl (wanted_f hF rfl rfl rfl hc2 rfl) rfl (by kernel_rfl) (by kernel_rfl) (by kernel_rfl) fun a hF=>e_skipP 13 hF rfl (wanted_f hF rfl rfl rfl hc2 rfl) rfl (by kernel_rfl) (by kernel_rfl) (by kernel_rfl) fun a hF=>e_skipP 14 hF rfl (wanted_f hF rfl rfl rfl hc2 rfl) rfl (by kernel_rfl) (by kernel_rfl) (by kernel_rfl) fun a hF=>e_skipP 15 hF rfl (wanted_f hF rfl rfl rfl hc2 rfl) rfl (by kernel_rfl) (by kernel_rfl) (by kernel_rfl) fun a hF=>e_skipP 16 hF rfl (wanted_f hF rfl rfl rfl hc2 rfl) rfl (by kernel_rfl) (by kernel_rfl) (by kernel_rfl) fun a hF=>e_skipP 17 hF rfl (wanted_f hF rfl rfl rfl hc2 rfl) rfl (by kernel_rfl) (by kernel_rfl) (by kernel_rfl) fun a hF=>e_p (v:=(.bool true)) 18 hF rfl (ex_pick_t rfl rfl hc2) rfl rfl (by kernel_rfl) (by kernel_rfl) (by kernel_rfl) fun a hF=>e_p (v:=(.bool true)) 19 hF rfl (ex_move rfl) rfl rfl (by kernel_rfl) (by kernel_rfl) (by kernel_rfl) fun a hF=>e_skipP 20 hF rfl (wanted_f hF rfl rfl rfl rfl rfl) rfl (by kernel_rfl) (by kernel_rfl) (by kernel_rfl) fun a hF=>e_skipP 21 hF rfl (wanted_f hF rfl rfl rfl rfl rfl) rfl (by kernel_rfl) (by kernel_rfl) (by kernel_rfl) fun a hF=>e_skipP 22 hF rfl (wanted_f hF rfl rfl rfl rfl rfl) rfl (by kernel_rfl) (by kernel_rfl) (by kernel_rfl) fun a hF=>e_skipP 23 hF rfl (wanted_f hF rfl rfl rfl rfl rfl) rfl (by kernel_rfl) (by kernel_rfl) (by kernel_rfl) fun a hF=>e_p (v:=(.bool true)) 24 hF rfl (ex_pick_t rfl rfl rfl) rfl rfl (by kernel_rfl) (by kernel_rfl) (by kernel_rfl) fun a hF=>e_end (by kernel_rfl) (n_jn ?_) _
   obtain rfl:=someI hj1
   exact ⟨hF.sub ⟨rfl,rfl,trivial⟩,hS⟩
 ·rintro a w ⟨hF,hS⟩
  refine n_sq ?_
  rcases bcase (t_8) with hc4 | hc4
  ·have hr:=cond_f hc4 hr
   refine q_cond_f hF rfl hc4 (q_skipc (n_sq (q_seq (q_region (q_x (v:=nilS.v) hF hS (ex_assign rfl) rfl rfl fun a hF=>q_end (n_sq (q_seq (q_seq (q_region (q_x (v:=(.pointer (some ⟨b3,1,none⟩))) hF hS (ex_fieldAddr Try.underlying26 rfl sz24 rfl rfl) rfl rfl fun a hF=>q_x (v:=s2.v) hF hS (ex_load1 0 0 Try.underlying24 rfl rfl rfl rfl) rfl rfl fun a hF=>q_x (v:=(iV (goLen p_g.Groups))) hF hS (ex_len Try.underlying24 rfl h2.len) rfl rfl fun a hF=>q_x (v:=(iV 0)) hF hS (ex_move rfl) rfl rfl fun a hF=>q_end (n_sq (q_block ?_))))))))))))
   obtain ⟨met_18,hl5,hr⟩:=bindS hr
   refine q_loop (fun (s : (List Int) × Int) a w=>∃ (m12 : Mem),∃ (s10 : Sl),∃ met_9,∃ t_11,s = (met_9,t_11)∧Fr a 61 [(5,s10.v),(34,s2.v),(35,(iV (goLen p_g.Groups))),(36,(iV t_11))]∧St [] w0 w m12 []∧MLe [] w0.heap.size m m12∧Rd m12 s10 met_9) (fun (met_18 : (List Int)) e a w=>∃ (m20 : Mem),∃ (s19 : Sl),e = .exit 0∧Fr a 61 [(5,s19.v)]∧St [] w0 w m20 []∧MLe [] w0.heap.size m m20∧Rd m20 s19 met_18) hl5 ⟨m,nilS,_,_,rfl,hF.sub ⟨rfl,rfl,rfl,rfl,trivial⟩,hS.mask [false],(MLe.refl _ _),(Rd.nil0 (α:=Int) m)⟩ ?_ ?_
   ·clear hF hS
    rintro s a w st ⟨m12,s10,met_9,t_11,rfl,hF,hS,hm12,h10⟩ hb5
    unfold spec_sGroups_l1 at hb5
    refine q_seq (q_region (q_x (v:=(.bool (decide (t_11 < (goLen p_g.Groups))))) hF hS (ex_ibin rfl rfl rfl) rfl rfl fun a hF=>q_end (n_sq (q_seq ?_))))
    rcases bcase (decide (t_11 < (goLen p_g.Groups))) with hc6 | hc6
    ·have hb5:=cond_f hc6 hb5
     refine q_cond_f hF rfl hc6 (q_exit (x_sq ?_))
     obtain rfl:=someI hb5
     exact ⟨nofun,.inl ⟨m12,s10,rfl,hF.sub ⟨rfl,trivial⟩,hS,hm12,h10⟩⟩
    ·have hb5:=cond_t hc6 hb5
     refine q_cond_t hF rfl hc6 (q_skipc (n_sq (q_seq (q_block (q_seq (q_region ?_))))))
     obtain ⟨e_13,he_13,hb5⟩:=bindS hb5
     obtain ⟨vs14,at14,d14⟩:=(h2.mono hm12.le).at he_13 1 rfl
     obtain rfl : vs14 = [(iV e_13)]:=d14
     refine q_x (v:=(elP s2 (t_11.toNat * 1))) hF hS (ex_indexAddr Try.underlying24 sz3 rfl rfl ((h2.mono hm12.le).idx he_13)) rfl rfl fun a hF=>q_x (v:=(iV e_13)) hF hS (ex_loadE1 0 Try.underlying3 rfl rfl ((at14).at) rfl rfl) rfl rfl fun a hF=>q_x (v:=(iV e_13)) hF hS (ex_assign rfl) rfl rfl fun a hF=>q_end (n_sq (q_region (q_x (v:=s10.v) hF hS (ex_move rfl) rfl rfl fun a hF=>q_x (v:=(iV e_13)) hF hS (ex_move rfl) rfl rfl fun a hF=>?_)))
     obtain ⟨t_15,ht_15,hb5⟩:=bindS hb5
     refine q_call (vs:=[s10.v,(iV e_13)]) hF hS Try.func77 (by kernel_rfl) rfl rfl rfl (c_spec_l1Put met_9 e_13 t_15 ht_15 _ m12 hS.vis s10 h10) ?_
     have hT:=hS
     rintro a w _ ⟨m16,s17,rfl,hm16,hR16,h17⟩ hF hS2
     have hS : St _ _ _ _ []:=hS.join hR16 hm16
     have hm16:=MLe.weakX (O0:=[]) hT hm16
     refine q_x (v:=s17.v) hF hS (ex_assign rfl) rfl rfl fun a hF=>q_end (n_ib (n_sq (q_region (q_x (v:=(iV (w64 (t_11 + 1)))) hF hS (ex_ibin rfl rfl rfl) rfl rfl fun a hF=>q_x (v:=(iV (w64 (t_11 + 1)))) hF hS (ex_move rfl) rfl rfl fun a hF=>q_end ?_))))
     obtain rfl:=someI hb5
     exact ⟨rfl,m16,s17,_,_,rfl,hF.sub ⟨rfl,rfl,rfl,rfl,trivial⟩,hS,(hm12.trans hm16),h17⟩
   ·rintro e a w ⟨m20,s19,rfl,hF,hS,hm20,h19⟩
    refine x_ib (n_sq ?_)
    refine q_seq (q_seq ?_)
    obtain ⟨t_23,hj7,hr⟩:=bindS hr
    refine q_join (fun a w=>Fr a 61 [(5,s19.v),(58,(.bool t_23))]∧St [] w0 w m20 []) ?_ ?_
    ·refine q_region (q_x (v:=s19.v) hF hS (ex_move rfl) rfl rfl fun a hF=>q_x (v:=(iV (goLen met_18))) hF hS (ex_len Try.underlying24 rfl h19.len) rfl rfl fun a hF=>q_x (v:=(.bool (decide ((goLen met_18) < 2)))) hF hS (ex_ibin rfl rfl rfl) rfl rfl fun a hF=>q_x (v:=(.bool (decide ((goLen met_18) < 2)))) hF hS (ex_move rfl) rfl rfl fun a hF=>?_)
     rcases bcase (decide ((goLen met_18) < 2)) with hc8 | hc8
     ·have hj7:=cond_f hc8 hj7
      refine q_xg (v:=s19.v) hF hS (ex_move rfl) (wanted_t hF rfl rfl rfl hc8) rfl fun a hF=>q_xg (v:=s19.v) hF hS (ex_move rfl) (wanted_t hF rfl rfl rfl hc8) rfl fun a hF=>q_xg (v:=(iV (goLen met_18))) hF hS (ex_len Try.underlying24 rfl h19.len) (wanted_t hF rfl rfl rfl hc8) rfl fun a hF=>q_xg (v:=(iV (w64 ((goLen met_18) - 1)))) hF hS (ex_ibin rfl rfl rfl) (wanted_t hF rfl rfl rfl hc8) rfl fun a hF=>?_
      obtain ⟨e_21,he_21,hj7⟩:=bindS hj7
      obtain ⟨vs22,at22,d22⟩:=h19.at he_21 1 rfl
      obtain rfl : vs22 = [(iV e_21)]:=d22
      refine q_xg (v:=(elP s19 ((w64 ((goLen met_18) - 1)).toNat * 1))) hF hS (ex_indexAddr Try.underlying24 sz3 rfl rfl (h19.idx he_21)) (wanted_t hF rfl rfl rfl hc8) rfl fun a hF=>q_xg (v:=(iV e_21)) hF hS (ex_loadE1 0 Try.underlying3 rfl rfl ((at22).at) rfl rfl) (wanted_t hF rfl rfl rfl hc8) rfl fun a hF=>q_xg (v:=s19.v) hF hS (ex_move rfl) (wanted_t hF rfl rfl rfl hc8) rfl fun a hF=>q_xg (v:=(iV (goLen met_18))) hF hS (ex_len Try.underlying24 rfl h19.len) (wanted_t hF rfl rfl rfl hc8) rfl fun a hF=>q_xg (v:=(iV (w64 ((goLen met_18) - 1)))) hF hS (ex_ibin rfl rfl rfl) (wanted_t hF rfl rfl rfl hc8) rfl fun a hF=>q_xg (v:=(.bool (e_21 != (w64 ((goLen met_18) - 1))))) hF hS (ex_ibin rfl rfl rfl) (wanted_t hF rfl rfl rfl hc8) rfl fun a hF=>q_x (v:=(.bool (e_21 != (w64 ((goLen met_18) - 1))))) hF hS (ex_pick_f rfl rfl hc8) rfl rfl fun a hF=>q_end (n_jn ?_)
      obtain rfl:=someI hj7
      exact ⟨hF.sub ⟨rfl,rfl,trivial⟩,hS⟩
     ·have hj7:=cond_t hc8 hj7
      refine q_skip hF (wanted_f hF rfl rfl rfl hc8 rfl) rfl fun a hF=>q_skip hF (wanted_f hF rfl rfl rfl hc8 rfl) rfl fun a hF=>q_skip hF (wanted_f hF rfl rfl rfl hc8 rfl) rfl fun a hF=>q_skip hF (wanted_f hF rfl rfl rfl hc8 rfl) rfl fun a hF=>q_skip hF (wanted_f hF rfl rfl rfl hc8 rfl) rfl fun a hF=>q_skip hF (wanted_f hF rfl rfl rfl hc8 rfl) rfl fun a hF=>q_skip hF (wanted_f hF rfl rfl rfl hc8 rfl) rfl fun a hF=>q_skip hF (wanted_f hF rfl rfl rfl hc8 rfl) rfl fun a hF=>q_skip hF (wanted_f hF rfl rfl rfl hc8 rfl) rfl fun a hF=>q_skip hF (wanted_f hF rfl rfl rfl hc8 rfl) rfl fun a hF=>q_x (v:=(.bool true)) hF hS (ex_pick_t rfl rfl hc8) rfl rfl fun a hF=>q_end (n_jn ?_)
      obtain rfl:=someI hj7
      exact ⟨hF.sub ⟨rfl,rfl,trivial⟩,hS⟩
    ·rintro a w ⟨hF,hS⟩
     refine n_sq ?_
     rcases bcase (t_23) with hc9 | hc9
     ·have hr:=cond_f hc9 hr
      refine q_cond_f hF rfl hc9 (q_skipc (n_sq (q_seq (q_region (q_x (v:=s19.v) hF hS (ex_move rfl) rfl rfl fun a hF=>q_x (v:=(iV (goLen met_18))) hF hS (ex_len Try.underlying24 rfl h19.len) rfl rfl fun a hF=>q_x (v:=(iV (goLen met_18))) hF hS (ex_assign rfl) rfl rfl fun a hF=>q_end (n_sq (q_ret ?_)))))))
      obtain rfl:=someI hr
      exact ret_of hF hS rfl (.tmp rfl .nil) rfl
     ·have hr:=cond_t hc9 hr
      refine q_cond_t hF rfl hc9 (q_seq (q_region (q_x (v:=(iV 0)) hF hS (ex_assign rfl) rfl rfl fun a hF=>q_end (n_sq (q_ret (r_sq ?_))))))
      obtain rfl:=someI hr
      exact ret_of hF hS rfl (.tmp rfl .nil) rfl
  ·have hr:=cond_t hc4 hr
   refine q_cond_t hF rfl hc4 (q_seq (q_region (q_x (v:=(iV 0)) hF hS (ex_assign rfl) rfl rfl fun a hF=>q_end (n_sq (q_ret (r_sq ?_))))))
   obtain rfl:=someI hr
   exact ret_of hF hS rfl (.tmp rfl .nil) rfl

theorem c_spec_GroupData (p_s : List impl_Variable) (p_g : impl_Grouping) (p_l : List impl_Record) (r : (List impl_Record) × Bool) (hr : spec_GroupData p_s p_g p_l = some r) (w0 : World) (m : Mem) (hv : Vis m w0) (s1 : Sl) (h1 : Rd m s1 p_s) (s2 : Sl) (h2 : Rd m s2 p_g.Groups) (s3 : Sl) (h3 : Rd m s3 p_l) :
  Ret Try.prog 7 [s1.v,(.agg #[(iV p_g.Var),s2.v]),s3.v] w0 (fun v w=>∃ (m' : Mem) (q0' : Piece) (s0' : Sl),v = (.tuple #[s0'.v,(.bool r.2)])∧MLe [] w0.heap.size m m'∧St [] w0 w m' [q0']∧OwnL m' 36 q0' s0' r.1):=by
 unfold spec_GroupData at hr
 refine ret_start Try.func7 rfl 51 rfl rfl m hv fun a hF hS=>q_seq (q_region (q_box (cs:=[(iV p_g.Var),s2.v]) hF hS rfl rfl rfl fun a w b4 hF hS=>q_x (v:=nilS.v) hF hS (ex_assign rfl) rfl rfl fun a hF=>q_x (v:=(.bool false)) hF hS (ex_assign rfl) rfl rfl fun a hF=>q_end (n_sq (q_seq (q_seq ?_)))))
 obtain ⟨t_7,hj1,hr⟩:=bindS hr
 refine q_join (fun a w=>Fr a 51 [(2,s3.v),(4,(.pointer (some ⟨b4,0,none⟩))),(21,(.bool t_7))]∧St [] w0 w m [[⟨b4,[(iV p_g.Var),s2.v],26⟩]]) ?_ ?_
 ·refine q_region (q_x (v:=s1.v) hF hS (ex_move rfl) rfl rfl fun a hF=>q_x (v:=s3.v) hF hS (ex_move rfl) rfl rfl fun a hF=>?_)
  obtain ⟨t_5,ht_5,hj1⟩:=bindS hj1
  refine q_call (vs:=[s1.v,s3.v]) hF hS Try.func37 (by kernel_rfl) rfl rfl rfl (c_spec_dInput p_s p_l t_5 ht_5 _ m hS.vis s1 h1 s3 h3) ?_
  rintro a w _ rfl hF hS
  refine q_x (v:=(.bool (!t_5))) hF hS (ex_not rfl) rfl rfl fun a hF=>q_x (v:=(.bool (!t_5))) hF hS (ex_move rfl) rfl rfl fun a hF=>?_
  rcases bcase (!t_5) with hc2 | hc2
  ·have hj1:=cond_f hc2 hj1
   refine q_xg (v:=s1.v) hF hS (ex_move rfl) (wanted_t hF rfl rfl rfl hc2) rfl fun a hF=>q_xg (v:=(.agg #[(iV p_g.Var),s2.v])) hF hS (ex_loadA (vs:=[(iV p_g.Var),s2.v]) 0 0 Try.underlying26 rfl sz26 rfl rfl rfl rfl) (wanted_t hF rfl rfl rfl hc2) rfl fun a hF=>?_
   obtain ⟨t_6,ht_6,hj1⟩:=bindS hj1
   refine q_callg (vs:=[s1.v,(.agg #[(iV p_g.Var),s2.v])]) hF hS (wanted_t hF rfl rfl rfl hc2) Try.func38 (by kernel_rfl) rfl rfl rfl (c_spec_sGroups p_s p_g t_6 ht_6 _ m hS.vis s1 h1 s2 h2) ?_
   rintro a w _ rfl hF hS
   refine q_xg (v:=(.bool (t_6 == 0))) hF hS (ex_ibin rfl rfl rfl) (wanted_t hF rfl rfl rfl hc2) rfl fun a hF=>q_x (v:=(.bool (t_6 == 0))) hF hS (ex_pick_f rfl rfl hc2) rfl rfl fun a hF=>q_end (n_jn ?_)
   obtain rfl:=someI hj1
   exact ⟨hF.sub ⟨rfl,rfl,rfl,trivial⟩,hS⟩
  ·have hj1:=cond_t hc2 hj1
   refine q_skip hF (wanted_f hF rfl rfl rfl hc2 rfl) rfl fun a hF=>q_skip hF (wanted_f hF rfl rfl rfl hc2 rfl) rfl fun a hF=>q_skip hF (wanted_f hF rfl rfl rfl hc2 rfl) rfl fun a hF=>q_skip hF (wanted_f hF rfl rfl rfl hc2 rfl) rfl fun a hF=>q_x (v:=(.bool true)) hF hS (ex_pick_t rfl rfl hc2) rfl rfl fun a hF=>q_end (n_jn ?_)
   obtain rfl:=someI hj1
   exact ⟨hF.sub ⟨rfl,rfl,rfl,trivial⟩,hS⟩
 ·rintro a w ⟨hF,hS⟩
  refine n_sq ?_
  rcases bcase (t_7) with hc3 | hc3
  ·have hr:=cond_f hc3 hr
   refine q_cond_f hF rfl hc3 (q_skipc (n_sq (q_seq (q_region (q_x (v:=nilS.v) hF hS (ex_assign rfl) rfl rfl fun a hF=>q_end (n_sq (q_seq (q_seq (q_region (q_x (v:=s3.v) hF hS (ex_move rfl) rfl rfl fun a hF=>q_x (v:=(iV (goLen p_l))) hF hS (ex_len Try.underlying27 rfl h3.len) rfl rfl fun a hF=>q_x (v:=(iV 0)) hF hS (ex_move rfl) rfl rfl fun a hF=>q_end (n_sq (q_block ?_))))))))))))
   obtain ⟨out_31,hl4,hr⟩:=bindS hr
   refine q_loop (fun (s : (List impl_Record) × Int) a w=>∃ (m11 : Mem),∃ (q9 : Piece),∃ (s9 : Sl),∃ out_8,∃ t_10,s = (out_8,t_10)∧Fr a 51 [(4,(.pointer (some ⟨b4,0,none⟩))),(8,s9.v),(22,s3.v),(23,(iV (goLen p_l))),(24,(iV t_10))]∧St [] w0 w m11 [q9,[⟨b4,[(iV p_g.Var),s2.v],26⟩]]∧MLe [] w0.heap.size m m11∧OwnL m11 36 q9 s9 out_8) (fun (out_31 : (List impl_Record)) e a w=>∃ (m33 : Mem),∃ (q32 : Piece),∃ (s32 : Sl),e = .exit 0∧Fr a 51 [(8,s32.v)]∧St [] w0 w m33 [q32]∧MLe [] w0.heap.size m m33∧OwnL m33 36 q32 s32 out_31) hl4 ⟨m,[],nilS,_,_,rfl,hF.sub ⟨rfl,rfl,rfl,rfl,rfl,trivial⟩,hS.sel [1,0] (by decide),(MLe.refl _ _),(OwnL.nil (α:=impl_Record) m 36)⟩ ?_ ?_
   ·clear hF hS
    rintro s a w st ⟨m11,q9,s9,out_8,t_10,rfl,hF,hS,hm11,h9⟩ hb4
    unfold spec_GroupData_l1 at hb4
    refine q_seq (q_region (q_x (v:=(.bool (decide (t_10 < (goLen p_l))))) hF hS (ex_ibin rfl rfl rfl) rfl rfl fun a hF=>q_end (n_sq (q_seq ?_))))
    rcases bcase (decide (t_10 < (goLen p_l))) with hc5 | hc5
    ·have hb4:=cond_f hc5 hb4
     refine q_cond_f hF rfl hc5 (q_exit (x_sq ?_))
     obtain rfl:=someI hb4
     exact ⟨nofun,.inl ⟨m11,q9,s9,rfl,hF.sub ⟨rfl,trivial⟩,hS.mask [true,false],hm11,h9⟩⟩
    ·have hb4:=cond_t hc5 hb4
     refine q_cond_t hF rfl hc5 (q_skipc (n_sq (q_seq (q_block (q_seq (q_region ?_))))))
     obtain ⟨e_12,he_12,hb4⟩:=bindS hb4
     obtain ⟨vs13,at13,d13⟩:=(h3.mono hm11.le).at he_12 3 rfl
     obtain ⟨s14,rfl,h14⟩ : ∃ s14 : Sl,vs13 = [(iV e_12.Area),(iV e_12.House),s14.v]∧Rd m11 s14 e_12.Values:=d13
     refine q_x (v:=(elP s3 (t_10.toNat * 3))) hF hS (ex_indexAddr Try.underlying27 sz36 rfl rfl ((h3.mono hm11.le).idx he_12)) rfl rfl fun a hF=>q_x (v:=(.agg #[(iV e_12.Area),(iV e_12.House),s14.v])) hF hS (ex_loadEA (us:=[(iV e_12.Area),(iV e_12.House),s14.v]) 0 Try.underlying36 rfl sz36 rfl ((at13).at) rfl rfl rfl) rfl rfl fun a hF=>q_alloc (cs:=[(iV 0),(iV 0),nilS.v]) hF hS rfl rfl rfl fun a w b15 hF hS=>q_store (vs:=[(iV e_12.Area),(iV e_12.House),s14.v]) (cs':=[(iV e_12.Area),(iV e_12.House),s14.v]) 0 0 hF hS sz36 rfl rfl rfl rfl rfl rfl rfl rfl fun a w hF hS=>q_end (n_sq (q_seq (q_region (q_x (v:=(.agg #[(iV e_12.Area),(iV e_12.House),s14.v])) hF hS (ex_loadA (vs:=[(iV e_12.Area),(iV e_12.House),s14.v]) 0 0 Try.underlying36 rfl sz36 rfl rfl rfl rfl) rfl rfl fun a hF=>?_))))
     obtain ⟨t_16,ht_16,hb4⟩:=bindS hb4
     refine q_call (vs:=[(.agg #[(iV e_12.Area),(iV e_12.House),s14.v])]) hF hS Try.func39 (by kernel_rfl) rfl rfl rfl (c_spec_rOwn e_12 t_16 ht_16 _ m11 hS.vis s14 h14) ?_
     rintro a w _ ⟨q18,s18,rfl,hR17,h18⟩ hF hS2
     have hS : St _ _ _ _ [q18,[⟨b15,[(iV e_12.Area),(iV e_12.House),s14.v],36⟩],q9,[⟨b4,[(iV p_g.Var),s2.v],26⟩]]:=hS.joinF hR17
     refine q_alloc (cs:=[(iV 0),(iV 0),nilS.v]) hF hS rfl rfl rfl fun a w b19 hF hS=>q_store (vs:=[(iV t_16.Area),(iV t_16.House),s18.v]) (cs':=[(iV t_16.Area),(iV t_16.House),s18.v]) 0 0 hF hS sz36 rfl rfl rfl rfl rfl rfl rfl rfl fun a w hF hS=>q_end (n_sq (q_seq (e_region ⟨[15],[b19,b4]⟩ mixed fun w' hw'=>?_)))
     have hS:=hS.below hw'
     refine e_p (v:=(.pointer (some ⟨b19,2,none⟩))) 0 hF rfl (ex_fieldAddr Try.underlying36 rfl sz24 rfl rfl) rfl rfl (by kernel_rfl) (by kernel_rfl) (by kernel_rfl) fun a hF=>e_xb (v:=s18.v) 1 0 hF hS (.head _) rfl rfl (ex_load1 0 0 Try.underlying24 rfl rfl rfl rfl) rfl rfl (by kernel_rfl) (by kernel_rfl) (by kernel_rfl) fun a hF=>e_p (v:=(.pointer (some ⟨b4,0,none⟩))) 2 hF rfl (ex_fieldAddr Try.underlying26 rfl sz3 rfl rfl) rfl rfl (by kernel_rfl) (by kernel_rfl) (by kernel_rfl) fun a hF=>e_xb (v:=(iV p_g.Var)) 3 4 hF hS (.tail _ (.head _)) rfl rfl (ex_load1 0 0 Try.underlying3 rfl rfl rfl rfl) rfl rfl (by kernel_rfl) (by kernel_rfl) (by kernel_rfl) fun a hF=>e_p (v:=(.pointer (some ⟨b4,1,none⟩))) 4 hF rfl (ex_fieldAddr Try.underlying26 rfl sz24 rfl rfl) rfl rfl (by kernel_rfl) (by kernel_rfl) (by kernel_rfl) fun a hF=>e_xb (v:=s2.v) 5 4 hF hS (.tail _ (.head _)) rfl rfl (ex_load1 0 0 Try.underlying24 rfl rfl rfl rfl) rfl rfl (by kernel_rfl) (by kernel_rfl) (by kernel_rfl) fun a hF=>e_p (v:=(.pointer (some ⟨b19,2,none⟩))) 6 hF rfl (ex_fieldAddr Try.underlying36 rfl sz24 rfl rfl) rfl rfl (by kernel_rfl) (by kernel_rfl) (by kernel_rfl) fun a hF=>e_xb (v:=s18.v) 7 0 hF hS (.head _) rfl rfl (ex_load1 0 0 Try.underlying24 rfl rfl rfl rfl) rfl rfl (by kernel_rfl) (by kernel_rfl) (by kernel_rfl) fun a hF=>e_p (v:=(.pointer (some ⟨b4,0,none⟩))) 8 hF rfl (ex_fieldAddr Try.underlying26 rfl sz3 rfl rfl) rfl rfl (by kernel_rfl) (by kernel_rfl) (by kernel_rfl) fun a hF=>e_xb (v:=(iV p_g.Var)) 9 4 hF hS (.tail _ (.head _)) rfl rfl (ex_load1 0 0 Try.underlying3 rfl rfl rfl rfl) rfl rfl (by kernel_rfl) (by kernel_rfl) (by kernel_rfl) fun a hF=>?_
     obtain ⟨e_20,he_20,hb4⟩:=bindS hb4
     obtain ⟨vs21,at21,d21⟩:=h18.at he_20 1 rfl
     obtain rfl : vs21 = [(iV e_20)]:=d21
     refine e_p (v:=(elP s18 (p_g.Var.toNat * 1))) 10 hF rfl (ex_indexAddr Try.underlying24 sz3 rfl rfl (h18.idx he_20)) rfl rfl (by kernel_rfl) (by kernel_rfl) (by kernel_rfl) fun a hF=>e_x (v:=(iV e_20)) 11 hF hS rfl (ex_loadE1 0 Try.underlying3 rfl rfl (at21.at 1 rfl) rfl rfl) rfl rfl (by kernel_rfl) (by kernel_rfl) (by kernel_rfl) (by kernel_rfl) fun a hF=>?_
     obtain ⟨e_22,he_22,hb4⟩:=bindS hb4
     obtain ⟨vs23,at23,d23⟩:=(h2.mono hm11.le).at he_22 1 rfl
     obtain rfl : vs23 = [(iV e_22)]:=d23
     refine e_p (v:=(elP s2 (e_20.toNat * 1))) 12 hF rfl (ex_indexAddr Try.underlying24 sz3 rfl rfl ((h2.mono hm11.le).idx he_22)) rfl rfl (by kernel_rfl) (by kernel_rfl) (by kernel_rfl) fun a hF=>e_x (v:=(iV e_22)) 13 hF hS rfl (ex_loadE1 0 Try.underlying3 rfl rfl ((at23).at) rfl rfl) rfl rfl (by kernel_rfl) (by kernel_rfl) (by kernel_rfl) (by kernel_rfl) fun a hF=>?_
     obtain ⟨e_24,he_24,hb4⟩:=bindS hb4
     obtain ⟨vs25,at25,d25⟩:=h18.at he_24 1 rfl
     obtain rfl : vs25 = [(iV e_24)]:=d25
     refine e_p (v:=(elP s18 (p_g.Var.toNat * 1))) 14 hF rfl (ex_indexAddr Try.underlying24 sz3 rfl rfl (h18.idx he_24)) rfl rfl (by kernel_rfl) (by kernel_rfl) (by kernel_rfl) fun a hF=>e_one 15 (by kernel_rfl) ?_
     have hS : St _ _ _ _ [q18,[⟨b19,[(iV t_16.Area),(iV t_16.House),s18.v],36⟩],[⟨b15,[(iV e_12.Area),(iV e_12.House),s14.v],36⟩],q9,[⟨b4,[(iV p_g.Var),s2.v],26⟩]]:=hS.sel [1,0,2,3,4] (by decide)
     have hSo:=hS
     refine e_opl rfl rfl rfl fun _ hK=>wp_storeE (e':=e_22) (us:=[(iV e_22)]) (vs:=[(iV e_24)]) 0 hF hS h18 sz3 rfl rfl rfl rfl rfl rfl rfl he_24 at25 rfl rfl rfl fun w q26 hS h26=>hK _ _ (⟨kpC hSo hS 1 1 rfl rfl (kpC hSo hS 4 4 rfl rfl kpN),?_⟩)
     refine e_end (by kernel_rfl) (n_sq ?_) _
     refine q_region (q_x (v:=s9.v) hF hS (ex_move rfl) rfl rfl fun a hF=>q_x (v:=(.agg #[(iV t_16.Area),(iV t_16.House),s18.v])) hF hS (ex_loadA (vs:=[(iV t_16.Area),(iV t_16.House),s18.v]) 1 0 Try.underlying36 rfl sz36 rfl rfl rfl rfl) rfl rfl fun a hF=>?_)
     obtain ⟨m28,hm28,hS,hz28⟩:=hS.freeze
     have h28:=h26.froz hm28.le hz28
     refine q_do rfl fun _ hK=>wp_buildSlice' (l:=([(impl_Record.mk t_16.Area t_16.House (goSet t_16.Values p_g.Var e_22))] : List impl_Record)) (cells:=[(iV t_16.Area),(iV t_16.House),s18.v]) hF hS Try.underlying27 inf36 rfl rfl (by kernel_rfl) rfl rfl rfl ⟨⟨s18,rfl,h28⟩,rfl⟩ rfl rfl fun a w q27 s27 hF hS h27 _=>hK _ _ ?_
     have hS : St _ _ _ _ [q9,q27,[⟨b19,[(iV t_16.Area),(iV t_16.House),s18.v],36⟩],[⟨b15,[(iV e_12.Area),(iV e_12.House),s14.v],36⟩],[⟨b4,[(iV p_g.Var),s2.v],26⟩]]:=hS.sel [3,0,1,2,4] (by decide)
     obtain ⟨l_29,hl_29,hb4⟩:=bindS hb4
     refine q_do rfl fun _ hK=>wp_append hF hS (h9.mono hm28.le) Try.underlying27 inf36 rfl rfl rfl rfl (h27.vw hS (j:=1) rfl) rfl (by decide) hl_29 rfl fun a w q30 s30 hF hS h30=>hK _ _ (q_x (v:=s30.v) hF hS (ex_assign rfl) rfl rfl fun a hF=>q_end (n_ib (n_sq (q_region (q_x (v:=(iV (w64 (t_10 + 1)))) hF hS (ex_ibin rfl rfl rfl) rfl rfl fun a hF=>q_x (v:=(iV (w64 (t_10 + 1)))) hF hS (ex_move rfl) rfl rfl fun a hF=>q_end ?_)))))
     obtain rfl:=someI hb4
     exact ⟨rfl,m28,q30,s30,_,_,rfl,hF.sub ⟨rfl,rfl,rfl,rfl,rfl,trivial⟩,hS.mask [true,false,false,false,true],(hm11.trans hm28),h30⟩
   ·rintro e a w ⟨m33,q32,s32,rfl,hF,hS,hm33,h32⟩
    refine x_ib (n_sq ?_)
    refine q_seq (q_region (q_x (v:=s32.v) hF hS (ex_move rfl) rfl rfl fun a hF=>q_x (v:=s32.v) hF hS (ex_assign rfl) rfl rfl fun a hF=>q_x (v:=(.bool true)) hF hS (ex_assign rfl) rfl rfl fun a hF=>q_end (n_sq (q_ret ?_))))
    obtain rfl:=someI hr
    exact ret_of hF hS rfl (.tmp rfl (.tmp rfl .nil)) ⟨m33,q32,s32,rfl,hm33,hS.sel [0] (by decide),h32⟩
  ·have hr:=cond_t hc3 hr
   refine q_cond_t hF rfl hc3 (q_seq (q_region (q_x (v:=nilS.v) hF hS (ex_assign rfl) rfl rfl fun a hF=>q_x (v:=(.bool false)) hF hS (ex_assign rfl) rfl rfl fun a hF=>q_end (n_sq (q_ret (r_sq ?_))))))
   obtain rfl:=someI hr
   exact ret_of hF hS rfl (.tmp rfl (.tmp rfl .nil)) ⟨m,[],nilS,rfl,(MLe.refl _ _),hS.sel [1] (by decide),(OwnL.nil (α:=impl_Record) m 36)⟩

theorem c_spec_DrawRemoveRecord (p_code : List (K .u8)) (r : (List impl_Variable) × (List impl_Record) × Int) (hr : spec_DrawRemoveRecord p_code = some r) (w0 : World) (m : Mem) (hv : Vis m w0) (s1 : Sl) (h1 : Rd m s1 p_code) :
  Ret Try.prog 8 [s1.v] w0 (fun v w=>∃ (m' : Mem) (q1' : Piece) (s0' : Sl) (s1' : Sl),v = (.tuple #[s0'.v,s1'.v,(iV r.2.2)])∧MLe [] w0.heap.size m m'∧St [] w0 w m' [q1']∧Rd m' s0' r.1∧OwnL m' 36 q1' s1' r.2.1):=by
 unfold spec_DrawRemoveRecord at hr
 refine ret_start Try.func8 rfl 24 rfl rfl m hv fun a hF hS=>q_seq (q_region (q_x (v:=nilS.v) hF hS (ex_assign rfl) rfl rfl fun a hF=>q_x (v:=nilS.v) hF hS (ex_assign rfl) rfl rfl fun a hF=>q_x (v:=(iV 0)) hF hS (ex_assign rfl) rfl rfl fun a hF=>q_end (n_sq (q_seq (q_region (q_x (v:=s1.v) hF hS (ex_move rfl) rfl rfl fun a hF=>q_x (v:=(.agg #[s1.v,(iV 0),(.int .u64 0)])) hF hS (ex_build (cells:=[s1.v,(iV 0),(.int .u64 0)]) rfl (by kernel_rfl)) rfl rfl fun a hF=>q_box (cs:=[s1.v,(iV 0),(.int .u64 0)]) hF hS rfl rfl rfl fun a w b2 hF hS=>q_x (v:=(.pointer (some ⟨b2,0,none⟩))) hF hS (ex_assign rfl) rfl rfl fun a hF=>q_end (n_sq (q_seq (q_region (q_x (v:=(.pointer (some ⟨b2,0,none⟩))) hF hS (ex_move rfl) rfl rfl fun a hF=>?_))))))))))
 have hS3 : St _ _ _ _ ([[⟨b2,[s1.v,(iV 0),(.int .u64 0)],64⟩]]++[]):=hS
 have hE3:=hS3.enter
 obtain ⟨t_4,ht_4,hr⟩:=bindS hr
 refine q_do rfl fun _ hK=>wp_callX (vs:=[(.pointer (some ⟨b2,0,none⟩))]) hF Try.func30 (by kernel_rfl) rfl rfl rfl (c_spec_l1Cur_anySchema (spec_l1Cur.mk p_code 0 (⟨0⟩ : K .u64)) t_4 ht_4 _ m b2 s1 h1 _ hE3) fun a w _ hR hF=>hK _ _ ?_
 obtain ⟨q5,s5,rfl,hR3,h5,hk6⟩:=hR
 have hS : St _ _ _ _ [[⟨b2,[s1.v,(iV t_4.2.at_),(.int .u64 t_4.2.seed.v)],64⟩],q5]:=hS3.leaveF hR3
 have h6 : Rd m s1 t_4.2.code:=by rw [hk6]; exact h1
 refine q_x (v:=s5.v) hF hS (ex_assign rfl) rfl rfl fun a hF=>q_end (n_sq (q_seq (q_region (q_x (v:=(.pointer (some ⟨b2,0,none⟩))) hF hS (ex_move rfl) rfl rfl fun a hF=>q_x (v:=s5.v) hF hS (ex_move rfl) rfl rfl fun a hF=>?_))))
 have hS : St _ _ _ _ [q5,[⟨b2,[s1.v,(iV t_4.2.at_),(.int .u64 t_4.2.seed.v)],64⟩]]:=hS.sel [1,0] (by decide)
 obtain ⟨m7,hm7,hS,hz7⟩:=hS.freeze
 have h7:=h5.froz hm7.le hz7
 have hS8 : St _ _ _ _ ([[⟨b2,[s1.v,(iV t_4.2.at_),(.int .u64 t_4.2.seed.v)],64⟩]]++[]):=hS
 have hE8:=hS8.enter
 obtain ⟨t_9,ht_9,hr⟩:=bindS hr
 refine q_do rfl fun _ hK=>wp_callX (vs:=[(.pointer (some ⟨b2,0,none⟩)),s5.v]) hF Try.func32 (by kernel_rfl) rfl rfl rfl (c_spec_l1Cur_anyData t_4.2 t_4.1 t_9 ht_9 _ m7 b2 s1 (h6.mono hm7.le) s5 h7 _ hE8) fun a w _ hR hF=>hK _ _ ?_
 obtain ⟨m8',q10,s10,rfl,hm8,hR8,h10,hk11⟩:=hR
 have hS : St _ _ _ _ [[⟨b2,[s1.v,(iV t_9.2.at_),(.int .u64 t_9.2.seed.v)],64⟩],q10]:=hS8.leave hR8 hm8
 have hm8:=MLe.weakX hS8 hm8
 have h11 : Rd m8' s1 t_9.2.code:=by rw [hk11]; exact ((h6.mono hm7.le).mono hm8.le)
 refine q_x (v:=s10.v) hF hS (ex_assign rfl) rfl rfl fun a hF=>q_end (n_sq (q_seq (q_region (q_x (v:=s5.v) hF hS (ex_move rfl) rfl rfl fun a hF=>q_x (v:=s10.v) hF hS (ex_move rfl) rfl rfl fun a hF=>q_x (v:=(.pointer (some ⟨b2,0,none⟩))) hF hS (ex_move rfl) rfl rfl fun a hF=>q_x (v:=s10.v) hF hS (ex_move rfl) rfl rfl fun a hF=>q_x (v:=(iV (goLen t_9.1))) hF hS (ex_len Try.underlying27 rfl h10.len) rfl rfl fun a hF=>q_x (v:=(iV (w64 ((goLen t_9.1) + 2)))) hF hS (ex_ibin rfl rfl rfl) rfl rfl fun a hF=>?_))))
 have hS12 : St _ _ _ _ ([[⟨b2,[s1.v,(iV t_9.2.at_),(.int .u64 t_9.2.seed.v)],64⟩]]++[q10]):=hS
 have hE12:=hS12.enter
 obtain ⟨t_13,ht_13,hr⟩:=bindS hr
 refine q_do rfl fun _ hK=>wp_callX (vs:=[(.pointer (some ⟨b2,0,none⟩)),(iV (w64 ((goLen t_9.1) + 2)))]) hF Try.func40 (by kernel_rfl) rfl rfl rfl (c_spec_l1Cur_pick t_9.2 (w64 ((goLen t_9.1) + 2)) t_13 ht_13 _ m8' b2 s1 h11 _ hE12) fun a w _ hR hF=>hK _ _ ?_
 obtain ⟨rfl,hR12,hk14⟩:=hR
 have hS : St _ _ _ _ [[⟨b2,[s1.v,(iV t_13.2.at_),(.int .u64 t_13.2.seed.v)],64⟩],q10]:=hS12.leaveF hR12
 have h14 : Rd m8' s1 t_13.2.code:=by rw [hk14]; exact h11
 refine q_x (v:=(iV (w64 (t_13.1 - 1)))) hF hS (ex_ibin rfl rfl rfl) rfl rfl fun a hF=>q_x (v:=s5.v) hF hS (ex_assign rfl) rfl rfl fun a hF=>q_x (v:=s10.v) hF hS (ex_assign rfl) rfl rfl fun a hF=>q_x (v:=(iV (w64 (t_13.1 - 1)))) hF hS (ex_assign rfl) rfl rfl fun a hF=>q_end (n_sq (q_ret ?_))
 obtain rfl:=someI hr
 exact ret_of hF hS rfl (.tmp rfl (.tmp rfl (.tmp rfl .nil))) ⟨m8',q10,s5,s10,rfl,(hm7.trans hm8),hS.sel [1] (by decide),(h7.mono hm8.le),h10⟩

theorem c_slices_Delete_impl_Record_impl_Record (p_s : List impl_Record) (p_i : Int) (p_j : Int) (r : (List impl_Record)) (hr : slices_Delete_impl_Record_impl_Record p_s p_i p_j = some r) (w0 : World) (m : Mem) (s1 : Sl) (q1 : Piece) (h1 : OwnL m 36 q1 s1 p_s) (X : List Nat) (hS : St X w0 w0 m [q1]) :
  RetX Try.prog 41 [s1.v,(iV p_i),(iV p_j)] w0 (fun v w=>∃ (q0' : Piece) (s0' : Sl),v = s0'.v∧St X w0 w m [q0']∧OwnL m 36 q0' s0' r):=by
 unfold slices_Delete_impl_Record_impl_Record at hr
 refine ret_startX Try.func41 rfl 33 rfl rfl fun a hF=>q_seq (q_region (q_x (v:=nilS.v) hF hS (ex_assign rfl) rfl rfl fun a hF=>q_end (n_sq (q_seq (q_region (q_x (v:=s1.v) hF hS (ex_move rfl) rfl rfl fun a hF=>q_x (v:=(iV p_i)) hF hS (ex_move rfl) rfl rfl fun a hF=>q_x (v:=(iV p_j)) hF hS (ex_move rfl) rfl rfl fun a hF=>q_x (v:=s1.v) hF hS (ex_move rfl) rfl rfl fun a hF=>q_x (v:=(iV (goLen p_s))) hF hS (ex_len Try.underlying27 rfl h1.len) rfl rfl fun a hF=>?_))))))
 obtain ⟨l_2,hl_2,hr⟩:=bindS hr
 refine q_x (v:=(subS s1 3 (p_i : Int).toNat p_j.toNat (goLen p_s).toNat).v) hF hS (ex_slice3 Try.underlying27 sz36 rfl rfl rfl rfl (.inr ⟨_,rfl⟩) (h1.sub3ok hl_2)) rfl rfl fun a hF=>q_end (n_sq (q_seq (q_seq (q_region (q_x (v:=(iV p_i)) hF hS (ex_move rfl) rfl rfl fun a hF=>q_x (v:=(iV p_j)) hF hS (ex_move rfl) rfl rfl fun a hF=>q_x (v:=(.bool (p_i == p_j))) hF hS (ex_ibin rfl rfl rfl) rfl rfl fun a hF=>q_end (n_sq ?_))))))
 rcases bcase (p_i == p_j) with hc1 | hc1
 ·have hr:=cond_f hc1 hr
  refine q_cond_f hF rfl hc1 (q_skipc (n_sq (q_seq (q_region (q_x (v:=s1.v) hF hS (ex_move rfl) rfl rfl fun a hF=>q_x (v:=(iV (goLen p_s))) hF hS (ex_len Try.underlying27 rfl h1.len) rfl rfl fun a hF=>q_x (v:=(iV (goLen p_s))) hF hS (ex_assign rfl) rfl rfl fun a hF=>q_end (n_sq (q_seq (e_region ⟨[6],[]⟩ mixed fun w' hw'=>?_))))))))
  have hS:=hS.below hw'
  refine e_p (v:=s1.v) 0 hF rfl (ex_move rfl) rfl rfl (by kernel_rfl) (by kernel_rfl) (by kernel_rfl) fun a hF=>e_p (v:=(iV p_i)) 1 hF rfl (ex_move rfl) rfl rfl (by kernel_rfl) (by kernel_rfl) (by kernel_rfl) fun a hF=>?_
  obtain ⟨l_4,hl_4,hr⟩:=bindS hr
  have h5 : OwnL m 36 q1 (subS s1 3 (0 : Int).toNat p_i.toNat s1.cap) l_4:=h1.sub0 hl_4
  refine e_p (v:=(subS s1 3 (0 : Int).toNat p_i.toNat s1.cap).v) 2 hF rfl (ex_slice Try.underlying27 sz36 rfl rfl rfl (.inl ⟨rfl,rfl⟩) (.inr ⟨_,rfl⟩) (h1.subok hl_4)) rfl rfl (by kernel_rfl) (by kernel_rfl) (by kernel_rfl) fun a hF=>e_p (v:=s1.v) 3 hF rfl (ex_move rfl) rfl rfl (by kernel_rfl) (by kernel_rfl) (by kernel_rfl) fun a hF=>e_p (v:=(iV p_j)) 4 hF rfl (ex_move rfl) rfl rfl (by kernel_rfl) (by kernel_rfl) (by kernel_rfl) fun a hF=>?_
  obtain ⟨l_6,hl_6,hr⟩:=bindS hr
  refine e_p (v:=(subS s1 3 (p_j : Int).toNat (goLen p_s).toNat s1.cap).v) 5 hF rfl (ex_tail Try.underlying27 sz36 rfl rfl rfl (.inr ⟨_,rfl⟩) (.inl ⟨rfl,h1.jlen⟩) (h1.subok hl_6)) rfl rfl (by kernel_rfl) (by kernel_rfl) (by kernel_rfl) fun a hF=>e_one 6 (by kernel_rfl) ?_
  obtain ⟨l_7,hl_7,hr⟩:=bindS hr
  refine e_opl rfl rfl rfl fun _ hK=>wp_del hF hS h1 Try.underlying27 inf36 rfl rfl rfl rfl hl_7 rfl fun a w q8 hF hS h8=>hK _ _ (⟨kpN,?_⟩)
  refine e_p (v:=(delS s1 l_7.length).v) 7 hF rfl (ex_assign rfl) rfl rfl (by kernel_rfl) (by kernel_rfl) (by kernel_rfl) fun a hF=>e_end (by kernel_rfl) (n_sq ?_) _
  refine q_seq (q_region (q_x (v:=(delS s1 l_7.length).v) hF hS (ex_move rfl) rfl rfl fun a hF=>q_x (v:=(delS s1 l_7.length).v) hF hS (ex_move rfl) rfl rfl fun a hF=>q_x (v:=(iV (goLen l_7))) hF hS (ex_len Try.underlying27 rfl h8.len) rfl rfl fun a hF=>q_x (v:=(iV (goLen p_s))) hF hS (ex_move rfl) rfl rfl fun a hF=>?_))
  obtain ⟨u_9,hu_9,hr⟩:=bindS hr
  refine q_x (v:=(subS (delS s1 l_7.length) 3 (goLen l_7).toNat (goLen p_s).toNat (delS s1 l_7.length).cap).v) hF hS (ex_rest Try.underlying27 sz36 rfl rfl rfl (Int.natCast_nonneg _) (goLe_le hu_9) (lenCap (s:=s1) h1)) rfl rfl fun a hF=>q_do rfl fun _ hK=>wp_clear hF hS h8 Try.underlying27 inf36 rfl rfl rfl rfl (Nat.le_of_eq (Int.toNat_natCast _).symm) (goLe_nat hu_9) (lenCapN (s:=s1) h1) rfl fun a w q10 hF hS h10=>hK _ _ (q_end (n_sq (q_seq (q_region (q_x (v:=(delS s1 l_7.length).v) hF hS (ex_move rfl) rfl rfl fun a hF=>q_x (v:=(delS s1 l_7.length).v) hF hS (ex_assign rfl) rfl rfl fun a hF=>q_end (n_sq (q_ret ?_)))))))
  obtain rfl:=someI hr
  exact ret_ofX hF hS rfl (.tmp rfl .nil) ⟨q10,(delS s1 l_7.length),rfl,hS.sel [0] (by decide),h10⟩
 ·have hr:=cond_t hc1 hr
  refine q_cond_t hF rfl hc1 (q_seq (q_region (q_x (v:=s1.v) hF hS (ex_move rfl) rfl rfl fun a hF=>q_x (v:=s1.v) hF hS (ex_assign rfl) rfl rfl fun a hF=>q_end (n_sq (q_ret (r_sq ?_))))))
  obtain rfl:=someI hr
  exact ret_ofX hF hS rfl (.tmp rfl .nil) ⟨q1,s1,rfl,hS.sel [0] (by decide),h1⟩

theorem c_impl_RemoveRecord (p_s : List impl_Variable) (p_l : List impl_Record) (p_i : Int) (r : (List impl_Record) × Bool) (hr : impl_RemoveRecord p_s p_l p_i = some r) (w0 : World) (m : Mem) (hv : Vis m w0) (s1 : Sl) (h1 : Rd m s1 p_s) (s2 : Sl) (h2 : Rd m s2 p_l) :
  Ret Try.prog 9 [s1.v,s2.v,(iV p_i)] w0 (fun v w=>∃ (m' : Mem) (q0' : Piece) (s0' : Sl),v = (.tuple #[s0'.v,(.bool r.2)])∧MLe [] w0.heap.size m m'∧St [] w0 w m' [q0']∧OwnL m' 36 q0' s0' r.1):=by
 unfold impl_RemoveRecord at hr
 refine ret_start Try.func9 rfl 35 rfl rfl m hv fun a hF hS=>q_seq (q_region (q_x (v:=nilS.v) hF hS (ex_assign rfl) rfl rfl fun a hF=>q_x (v:=(.bool false)) hF hS (ex_assign rfl) rfl rfl fun a hF=>q_end (n_sq (q_seq (q_seq ?_)))))
 obtain ⟨t_5,hj1,hr⟩:=bindS hr
 refine q_join (fun a w=>Fr a 35 [(1,s2.v),(2,(iV p_i)),(27,(.bool t_5))]∧St [] w0 w m []) ?_ ?_
 ·refine q_region (q_x (v:=s1.v) hF hS (ex_move rfl) rfl rfl fun a hF=>?_)
  obtain ⟨t_3,ht_3,hj1⟩:=bindS hj1
  refine q_call (vs:=[s1.v]) hF hS Try.func33 (by kernel_rfl) rfl rfl rfl (c_impl_IsSchema p_s t_3 ht_3 _ m hS.vis s1 h1) ?_
  rintro a w _ rfl hF hS
  refine q_x (v:=(.bool (!t_3))) hF hS (ex_not rfl) rfl rfl fun a hF=>q_x (v:=(.bool (!t_3))) hF hS (ex_move rfl) rfl rfl fun a hF=>?_
  rcases bcase (!t_3) with hc2 | hc2
  ·have hj1:=cond_f hc2 hj1
   refine q_xg (v:=s1.v) hF hS (ex_move rfl) (wanted_t hF rfl rfl rfl hc2) rfl fun a hF=>q_xg (v:=s2.v) hF hS (ex_move rfl) (wanted_t hF rfl rfl rfl hc2) rfl fun a hF=>?_
   obtain ⟨t_4,ht_4,hj1⟩:=bindS hj1
   refine q_callg (vs:=[s1.v,s2.v]) hF hS (wanted_t hF rfl rfl rfl hc2) Try.func35 (by kernel_rfl) rfl rfl rfl (c_impl_isData p_s p_l t_4 ht_4 _ m hS.vis s1 h1 s2 h2) ?_
   rintro a w _ rfl hF hS
   refine q_xg (v:=(.bool (!t_4))) hF hS (ex_not rfl) (wanted_t hF rfl rfl rfl hc2) rfl fun a hF=>q_x (v:=(.bool (!t_4))) hF hS (ex_pick_f rfl rfl hc2) rfl rfl fun a hF=>q_x (v:=(.bool (!t_4))) hF hS (ex_move rfl) rfl rfl fun a hF=>?_
   rcases bcase (!t_4) with hc3 | hc3
   ·have hj1:=cond_f hc3 hj1
    refine q_xg (v:=(iV p_i)) hF hS (ex_move rfl) (wanted_t hF rfl rfl rfl hc3) rfl fun a hF=>q_xg (v:=(.bool (decide (p_i < 0)))) hF hS (ex_ibin rfl rfl rfl) (wanted_t hF rfl rfl rfl hc3) rfl fun a hF=>q_x (v:=(.bool (decide (p_i < 0)))) hF hS (ex_pick_f rfl rfl hc3) rfl rfl fun a hF=>q_x (v:=(.bool (decide (p_i < 0)))) hF hS (ex_move rfl) rfl rfl fun a hF=>?_
    rcases bcase (decide (p_i < 0)) with hc4 | hc4
    ·have hj1:=cond_f hc4 hj1
     refine q_xg (v:=(iV p_i)) hF hS (ex_move rfl) (wanted_t hF rfl rfl rfl hc4) rfl fun a hF=>q_xg (v:=s2.v) hF hS (ex_move rfl) (wanted_t hF rfl rfl rfl hc4) rfl fun a hF=>q_xg (v:=(iV (goLen p_l))) hF hS (ex_len Try.underlying27 rfl h2.len) (wanted_t hF rfl rfl rfl hc4) rfl fun a hF=>q_xg (v:=(.bool (decide ((goLen p_l) ≤ p_i)))) hF hS (ex_ibin rfl rfl rfl) (wanted_t hF rfl rfl rfl hc4) rfl fun a hF=>q_x (v:=(.bool (decide ((goLen p_l) ≤ p_i)))) hF hS (ex_pick_f rfl rfl hc4) rfl rfl fun a hF=>q_end (n_jn ?_)
     obtain rfl:=someI hj1
     exact ⟨hF.sub ⟨rfl,rfl,rfl,trivial⟩,hS⟩
    ·have hj1:=cond_t hc4 hj1
     refine q_skip hF (wanted_f hF rfl rfl rfl hc4 rfl) rfl fun a hF=>q_skip hF (wanted_f hF rfl rfl rfl hc4 rfl) rfl fun a hF=>q_skip hF (wanted_f hF rfl rfl rfl hc4 rfl) rfl fun a hF=>q_skip hF (wanted_f hF rfl rfl rfl hc4 rfl) rfl fun a hF=>q_x (v:=(.bool true)) hF hS (ex_pick_t rfl rfl hc4) rfl rfl fun a hF=>q_end (n_jn ?_)
     obtain rfl:=someI hj1
     exact ⟨hF.sub ⟨rfl,rfl,rfl,trivial⟩,hS⟩
   ·have hj1:=cond_t hc3 hj1
    refine q_skip hF (wanted_f hF rfl rfl rfl hc3 rfl) rfl fun a hF=>q_skip hF (wanted_f hF rfl rfl rfl hc3 rfl) rfl fun a hF=>q_x (v:=(.bool true)) hF hS (ex_pick_t rfl rfl hc3) rfl rfl fun a hF=>q_x (v:=(.bool true)) hF hS (ex_move rfl) rfl rfl fun a hF=>q_skip hF (wanted_f hF rfl rfl rfl rfl rfl) rfl fun a hF=>q_skip hF (wanted_f hF rfl rfl rfl rfl rfl) rfl fun a hF=>q_skip hF (wanted_f hF rfl rfl rfl rfl rfl) rfl fun a hF=>q_skip hF (wanted_f hF rfl rfl rfl rfl rfl) rfl fun a hF=>q_x (v:=(.bool true)) hF hS (ex_pick_t rfl rfl rfl) rfl rfl fun a hF=>q_end (n_jn ?_)
    obtain rfl:=someI hj1
    exact ⟨hF.sub ⟨rfl,rfl,rfl,trivial⟩,hS⟩
  ·have hj1:=cond_t hc2 hj1
   refine q_skip hF (wanted_f hF rfl rfl rfl hc2 rfl) rfl fun a hF=>q_skip hF (wanted_f hF rfl rfl rfl hc2 rfl) rfl fun a hF=>q_skip hF (wanted_f hF rfl rfl rfl hc2 rfl) rfl fun a hF=>q_skip hF (wanted_f hF rfl rfl rfl hc2 rfl) rfl fun a hF=>q_x (v:=(.bool true)) hF hS (ex_pick_t rfl rfl hc2) rfl rfl fun a hF=>q_x (v:=(.bool true)) hF hS (ex_move rfl) rfl rfl fun a hF=>q_skip hF (wanted_f hF rfl rfl rfl rfl rfl) rfl fun a hF=>q_skip hF (wanted_f hF rfl rfl rfl rfl rfl) rfl fun a hF=>q_x (v:=(.bool true)) hF hS (ex_pick_t rfl rfl rfl) rfl rfl fun a hF=>q_x (v:=(.bool true)) hF hS (ex_move rfl) rfl rfl fun a hF=>q_skip hF (wanted_f hF rfl rfl rfl rfl rfl) rfl fun a hF=>q_skip hF (wanted_f hF rfl rfl rfl rfl rfl) rfl fun a hF=>q_skip hF (wanted_f hF rfl rfl rfl rfl rfl) rfl fun a hF=>q_skip hF (wanted_f hF rfl rfl rfl rfl rfl) rfl fun a hF=>q_x (v:=(.bool true)) hF hS (ex_pick_t rfl rfl rfl) rfl rfl fun a hF=>q_end (n_jn ?_)
   obtain rfl:=someI hj1
   exact ⟨hF.sub ⟨rfl,rfl,rfl,trivial⟩,hS⟩
 ·rintro a w ⟨hF,hS⟩
  refine n_sq ?_
  rcases bcase (t_5) with hc5 | hc5
  ·have hr:=cond_f hc5 hr
   refine q_cond_f hF rfl hc5 (q_skipc (n_sq (q_seq (q_region (q_x (v:=s2.v) hF hS (ex_move rfl) rfl rfl fun a hF=>?_)))))
   obtain ⟨t_6,ht_6,hr⟩:=bindS hr
   refine q_call (vs:=[s2.v]) hF hS Try.func36 (by kernel_rfl) rfl rfl rfl (c_impl_copyRecords p_l t_6 ht_6 _ m hS.vis s2 h2) ?_
   have hT:=hS
   rintro a w _ ⟨m7,q8,s8,rfl,hm7,hR7,h8⟩ hF hS2
   have hS : St _ _ _ _ [q8]:=hS.join hR7 hm7
   have hm7:=MLe.weakX (O0:=[]) hT hm7
   refine q_x (v:=s8.v) hF hS (ex_assign rfl) rfl rfl fun a hF=>q_end (n_sq (q_seq (q_region (q_x (v:=s8.v) hF hS (ex_move rfl) rfl rfl fun a hF=>q_x (v:=(iV p_i)) hF hS (ex_move rfl) rfl rfl fun a hF=>q_x (v:=(iV p_i)) hF hS (ex_move rfl) rfl rfl fun a hF=>q_x (v:=(iV (w64 (p_i + 1)))) hF hS (ex_ibin rfl rfl rfl) rfl rfl fun a hF=>?_))))
   have hS9 : St _ _ _ _ ([q8]++[]):=hS
   have hE9:=hS9.enter
   obtain ⟨t_10,ht_10,hr⟩:=bindS hr
   refine q_do rfl fun _ hK=>wp_callX (vs:=[s8.v,(iV p_i),(iV (w64 (p_i + 1)))]) hF Try.func41 (by kernel_rfl) rfl rfl rfl (c_slices_Delete_impl_Record_impl_Record t_6 p_i (w64 (p_i + 1)) t_10 ht_10 _ m7 s8 q8 h8 _ hE9) fun a w _ hR hF=>hK _ _ ?_
   obtain ⟨q11,s11,rfl,hR9,h11⟩:=hR
   have hS : St _ _ _ _ [q11]:=hS9.leaveF hR9
   refine q_x (v:=s11.v) hF hS (ex_assign rfl) rfl rfl fun a hF=>q_x (v:=(.bool true)) hF hS (ex_assign rfl) rfl rfl fun a hF=>q_end (n_sq (q_ret ?_))
   obtain rfl:=someI hr
   exact ret_of hF hS rfl (.tmp rfl (.tmp rfl .nil)) ⟨m7,q11,s11,rfl,hm7,hS.sel [0] (by decide),h11⟩
  ·have hr:=cond_t hc5 hr
   refine q_cond_t hF rfl hc5 (q_seq (q_region (q_x (v:=nilS.v) hF hS (ex_assign rfl) rfl rfl fun a hF=>q_x (v:=(.bool false)) hF hS (ex_assign rfl) rfl rfl fun a hF=>q_end (n_sq (q_ret (r_sq ?_))))))
   obtain rfl:=someI hr
   exact ret_of hF hS rfl (.tmp rfl (.tmp rfl .nil)) ⟨m,[],nilS,rfl,(MLe.refl _ _),hS.sel [0] (by decide),(OwnL.nil (α:=impl_Record) m 36)⟩

theorem c_spec_dWithout (p_l : List impl_Record) (p_i : Int) (r : (List impl_Record)) (hr : spec_dWithout p_l p_i = some r) (w0 : World) (m : Mem) (hv : Vis m w0) (s1 : Sl) (h1 : Rd m s1 p_l) :
  Ret Try.prog 43 [s1.v,(iV p_i)] w0 (fun v w=>∃ (m' : Mem) (q0' : Piece) (s0' : Sl),v = s0'.v∧MLe [] w0.heap.size m m'∧St [] w0 w m' [q0']∧OwnL m' 36 q0' s0' r):=by
 unfold spec_dWithout at hr
 refine ret_start Try.func43 rfl 25 rfl rfl m hv fun a hF hS=>q_seq (q_region (q_x (v:=nilS.v) hF hS (ex_assign rfl) rfl rfl fun a hF=>q_end (n_sq (q_seq (q_region (q_x (v:=nilS.v) hF hS (ex_assign rfl) rfl rfl fun a hF=>q_end (n_sq (q_seq (q_seq (q_region (q_x (v:=s1.v) hF hS (ex_move rfl) rfl rfl fun a hF=>q_x (v:=(iV (goLen p_l))) hF hS (ex_len Try.underlying27 rfl h1.len) rfl rfl fun a hF=>q_x (v:=(iV 0)) hF hS (ex_move rfl) rfl rfl fun a hF=>q_end (n_sq (q_block ?_)))))))))))))
 obtain ⟨out_20,hl1,hr⟩:=bindS hr
 refine q_loop (fun (s : (List impl_Record) × Int) a w=>∃ (m5 : Mem),∃ (q3 : Piece),∃ (s3 : Sl),∃ out_2,∃ t_4,s = (out_2,t_4)∧Fr a 25 [(1,(iV p_i)),(5,s3.v),(8,s1.v),(9,(iV (goLen p_l))),(10,(iV t_4))]∧St [] w0 w m5 [q3]∧MLe [] w0.heap.size m m5∧OwnL m5 36 q3 s3 out_2) (fun (out_20 : (List impl_Record)) e a w=>∃ (m22 : Mem),∃ (q21 : Piece),∃ (s21 : Sl),e = .exit 0∧Fr a 25 [(5,s21.v)]∧St [] w0 w m22 [q21]∧MLe [] w0.heap.size m m22∧OwnL m22 36 q21 s21 out_20) hl1 ⟨m,[],nilS,_,_,rfl,hF.sub ⟨rfl,rfl,rfl,rfl,rfl,trivial⟩,hS.sel [0] (by decide),(MLe.refl _ _),(OwnL.nil (α:=impl_Record) m 36)⟩ ?_ ?_
 ·clear hF hS
  rintro s a w st ⟨m5,q3,s3,out_2,t_4,rfl,hF,hS,hm5,h3⟩ hb1
  unfold spec_dWithout_l1 at hb1
  refine q_seq (q_region (q_x (v:=(.bool (decide (t_4 < (goLen p_l))))) hF hS (ex_ibin rfl rfl rfl) rfl rfl fun a hF=>q_end (n_sq (q_seq ?_))))
  rcases bcase (decide (t_4 < (goLen p_l))) with hc2 | hc2
  ·have hb1:=cond_f hc2 hb1
   refine q_cond_f hF rfl hc2 (q_exit (x_sq ?_))
   obtain rfl:=someI hb1
   exact ⟨nofun,.inl ⟨m5,q3,s3,rfl,hF.sub ⟨rfl,trivial⟩,hS,hm5,h3⟩⟩
  ·have hb1:=cond_t hc2 hb1
   refine q_cond_t hF rfl hc2 (q_skipc (n_sq (q_seq (q_block (q_seq (q_region (q_x (v:=(iV t_4)) hF hS (ex_move rfl) rfl rfl fun a hF=>?_)))))))
   obtain ⟨e_6,he_6,hb1⟩:=bindS hb1
   obtain ⟨vs7,at7,d7⟩:=(h1.mono hm5.le).at he_6 3 rfl
   obtain ⟨s8,rfl,h8⟩ : ∃ s8 : Sl,vs7 = [(iV e_6.Area),(iV e_6.House),s8.v]∧Rd m5 s8 e_6.Values:=d7
   refine q_x (v:=(elP s1 (t_4.toNat * 3))) hF hS (ex_indexAddr Try.underlying27 sz36 rfl rfl ((h1.mono hm5.le).idx he_6)) rfl rfl fun a hF=>q_x (v:=(.agg #[(iV e_6.Area),(iV e_6.House),s8.v])) hF hS (ex_loadEA (us:=[(iV e_6.Area),(iV e_6.House),s8.v]) 0 Try.underlying36 rfl sz36 rfl ((at7).at) rfl rfl rfl) rfl rfl fun a hF=>q_alloc (cs:=[(iV 0),(iV 0),nilS.v]) hF hS rfl rfl rfl fun a w b9 hF hS=>q_x (v:=(iV t_4)) hF hS (ex_assign rfl) rfl rfl fun a hF=>q_store (vs:=[(iV e_6.Area),(iV e_6.House),s8.v]) (cs':=[(iV e_6.Area),(iV e_6.House),s8.v]) 0 0 hF hS sz36 rfl rfl rfl rfl rfl rfl rfl rfl fun a w hF hS=>q_end (n_sq (q_seq (q_region (q_x (v:=(iV t_4)) hF hS (ex_move rfl) rfl rfl fun a hF=>q_x (v:=(iV p_i)) hF hS (ex_move rfl) rfl rfl fun a hF=>q_x (v:=(.bool (t_4 != p_i))) hF hS (ex_ibin rfl rfl rfl) rfl rfl fun a hF=>q_end (n_sq ?_)))))
   obtain ⟨out_17,hj3,hb1⟩:=bindS hb1
   refine q_join (fun a w=>∃ (m19 : Mem),∃ (q18 : Piece),∃ (s18 : Sl),Fr a 25 [(1,(iV p_i)),(5,s18.v),(8,s1.v),(9,(iV (goLen p_l))),(10,(iV t_4))]∧St [] w0 w m19 [q18]∧MLe [] w0.heap.size m5 m19∧OwnL m19 36 q18 s18 out_17) ?_ ?_
   ·rcases bcase (t_4 != p_i) with hc4 | hc4
    ·have hj3:=cond_f hc4 hj3
     refine q_cond_f hF rfl hc4 (q_skipc (n_jn ?_))
     obtain rfl:=someI hj3
     exact ⟨m5,q3,s3,hF.sub ⟨rfl,rfl,rfl,rfl,rfl,trivial⟩,hS.mask [false,true],(MLe.refl _ _),h3⟩
    ·have hj3:=cond_t hc4 hj3
     refine q_cond_t hF rfl hc4 (q_region (q_x (v:=s3.v) hF hS (ex_move rfl) rfl rfl fun a hF=>q_x (v:=(.agg #[(iV e_6.Area),(iV e_6.House),s8.v])) hF hS (ex_loadA (vs:=[(iV e_6.Area),(iV e_6.House),s8.v]) 0 0 Try.underlying36 rfl sz36 rfl rfl rfl rfl) rfl rfl fun a hF=>?_))
     obtain ⟨t_10,ht_10,hj3⟩:=bindS hj3
     refine q_call (vs:=[(.agg #[(iV e_6.Area),(iV e_6.House),s8.v])]) hF hS Try.func39 (by kernel_rfl) rfl rfl rfl (c_spec_rOwn e_6 t_10 ht_10 _ m5 hS.vis s8 h8) ?_
     rintro a w _ ⟨q12,s12,rfl,hR11,h12⟩ hF hS2
     have hS : St _ _ _ _ [q12,[⟨b9,[(iV e_6.Area),(iV e_6.House),s8.v],36⟩],q3]:=hS.joinF hR11
     obtain ⟨m14,hm14,hS,hz14⟩:=hS.freeze
     have h14:=h12.froz hm14.le hz14
     refine q_do rfl fun _ hK=>wp_buildSlice' (l:=([t_10] : List impl_Record)) (cells:=[(iV t_10.Area),(iV t_10.House),s12.v]) hF hS Try.underlying27 inf36 rfl rfl (by kernel_rfl) rfl rfl rfl ⟨⟨s12,rfl,h14⟩,rfl⟩ rfl rfl fun a w q13 s13 hF hS h13 _=>hK _ _ ?_
     have hS : St _ _ _ _ [q3,q13,[⟨b9,[(iV e_6.Area),(iV e_6.House),s8.v],36⟩]]:=hS.sel [2,0,1] (by decide)
     obtain ⟨l_15,hl_15,hj3⟩:=bindS hj3
     refine q_do rfl fun _ hK=>wp_append hF hS (h3.mono hm14.le) Try.underlying27 inf36 rfl rfl rfl rfl (h13.vw hS (j:=1) rfl) rfl (by decide) hl_15 rfl fun a w q16 s16 hF hS h16=>hK _ _ (q_x (v:=s16.v) hF hS (ex_assign rfl) rfl rfl fun a hF=>q_end (n_jn ?_))
     obtain rfl:=someI hj3
     exact ⟨m14,q16,s16,hF.sub ⟨rfl,rfl,rfl,rfl,rfl,trivial⟩,hS.mask [true,false,false],hm14,h16⟩
   ·rintro a w ⟨m19,q18,s18,hF,hS,hm19,h18⟩
    refine n_ib (n_sq ?_)
    refine q_region (q_x (v:=(iV (w64 (t_4 + 1)))) hF hS (ex_ibin rfl rfl rfl) rfl rfl fun a hF=>q_x (v:=(iV (w64 (t_4 + 1)))) hF hS (ex_move rfl) rfl rfl fun a hF=>q_end ?_)
    obtain rfl:=someI hb1
    exact ⟨rfl,m19,q18,s18,_,_,rfl,hF.sub ⟨rfl,rfl,rfl,rfl,rfl,trivial⟩,hS,(hm5.trans hm19),h18⟩
 ·rintro e a w ⟨m22,q21,s21,rfl,hF,hS,hm22,h21⟩
  refine x_ib (n_sq ?_)
  refine q_seq (q_region (q_x (v:=s21.v) hF hS (ex_move rfl) rfl rfl fun a hF=>q_x (v:=s21.v) hF hS (ex_assign rfl) rfl rfl fun a hF=>q_end (n_sq (q_ret ?_))))
  obtain rfl:=someI hr
  exact ret_of hF hS rfl (.tmp rfl .nil) ⟨m22,q21,s21,rfl,hm22,hS.sel [0] (by decide),h21⟩

theorem c_spec_RemoveRecord (p_s : List impl_Variable) (p_l : List impl_Record) (p_i : Int) (r : (List impl_Record) × Bool) (hr : spec_RemoveRecord p_s p_l p_i = some r) (w0 : World) (m : Mem) (hv : Vis m w0) (s1 : Sl) (h1 : Rd m s1 p_s) (s2 : Sl) (h2 : Rd m s2 p_l) :
  Ret Try.prog 10 [s1.v,s2.v,(iV p_i)] w0 (fun v w=>∃ (m' : Mem) (q0' : Piece) (s0' : Sl),v = (.tuple #[s0'.v,(.bool r.2)])∧MLe [] w0.heap.size m m'∧St [] w0 w m' [q0']∧OwnL m' 36 q0' s0' r.1):=by
 unfold spec_RemoveRecord at hr
 refine ret_start Try.func10 rfl 23 rfl rfl m hv fun a hF hS=>q_seq (q_region (q_x (v:=nilS.v) hF hS (ex_assign rfl) rfl rfl fun a hF=>q_x (v:=(.bool false)) hF hS (ex_assign rfl) rfl rfl fun a hF=>q_end (n_sq (q_seq (q_seq ?_)))))
 obtain ⟨t_5,hj1,hr⟩:=bindS hr
 refine q_join (fun a w=>Fr a 23 [(1,s2.v),(2,(iV p_i)),(19,(.bool t_5))]∧St [] w0 w m []) ?_ ?_
 ·refine q_region (q_x (v:=s1.v) hF hS (ex_move rfl) rfl rfl fun a hF=>q_x (v:=s2.v) hF hS (ex_move rfl) rfl rfl fun a hF=>?_)
  obtain ⟨t_3,ht_3,hj1⟩:=bindS hj1
  refine q_call (vs:=[s1.v,s2.v]) hF hS Try.func37 (by kernel_rfl) rfl rfl rfl (c_spec_dInput p_s p_l t_3 ht_3 _ m hS.vis s1 h1 s2 h2) ?_
  rintro a w _ rfl hF hS
  refine q_x (v:=(.bool (!t_3))) hF hS (ex_not rfl) rfl rfl fun a hF=>q_x (v:=(.bool (!t_3))) hF hS (ex_move rfl) rfl rfl fun a hF=>?_
  rcases bcase (!t_3) with hc2 | hc2
  ·have hj1:=cond_f hc2 hj1
   refine q_xg (v:=(iV p_i)) hF hS (ex_move rfl) (wanted_t hF rfl rfl rfl hc2) rfl fun a hF=>q_xg (v:=s2.v) hF hS (ex_move rfl) (wanted_t hF rfl rfl rfl hc2) rfl fun a hF=>q_xg (v:=(iV (goLen p_l))) hF hS (ex_len Try.underlying27 rfl h2.len) (wanted_t hF rfl rfl rfl hc2) rfl fun a hF=>q_xg (v:=(iV (w64 ((goLen p_l) - 1)))) hF hS (ex_ibin rfl rfl rfl) (wanted_t hF rfl rfl rfl hc2) rfl fun a hF=>?_
   obtain ⟨t_4,ht_4,hj1⟩:=bindS hj1
   refine q_callg (vs:=[(iV p_i),(iV 0),(iV (w64 ((goLen p_l) - 1)))]) hF hS (wanted_t hF rfl rfl rfl hc2) Try.func42 (by kernel_rfl) rfl rfl rfl (c_spec_l1In p_i 0 (w64 ((goLen p_l) - 1)) t_4 ht_4 _ m hS.vis) ?_
   rintro a w _ rfl hF hS
   refine q_xg (v:=(.bool (!t_4))) hF hS (ex_not rfl) (wanted_t hF rfl rfl rfl hc2) rfl fun a hF=>q_x (v:=(.bool (!t_4))) hF hS (ex_pick_f rfl rfl hc2) rfl rfl fun a hF=>q_end (n_jn ?_)
   obtain rfl:=someI hj1
   exact ⟨hF.sub ⟨rfl,rfl,rfl,trivial⟩,hS⟩
  ·have hj1:=cond_t hc2 hj1
   refine q_skip hF (wanted_f hF rfl rfl rfl hc2 rfl) rfl fun a hF=>q_skip hF (wanted_f hF rfl rfl rfl hc2 rfl) rfl fun a hF=>q_skip hF (wanted_f hF rfl rfl rfl hc2 rfl) rfl fun a hF=>q_skip hF (wanted_f hF rfl rfl rfl hc2 rfl) rfl fun a hF=>q_skip hF (wanted_f hF rfl rfl rfl hc2 rfl) rfl fun a hF=>q_skip hF (wanted_f hF rfl rfl rfl hc2 rfl) rfl fun a hF=>q_x (v:=(.bool true)) hF hS (ex_pick_t rfl rfl hc2) rfl rfl fun a hF=>q_end (n_jn ?_)
   obtain rfl:=someI hj1
   exact ⟨hF.sub ⟨rfl,rfl,rfl,trivial⟩,hS⟩
 ·rintro a w ⟨hF,hS⟩
  refine n_sq ?_
  rcases bcase (t_5) with hc3 | hc3
  ·have hr:=cond_f hc3 hr
   refine q_cond_f hF rfl hc3 (q_skipc (n_sq (q_seq (q_region (q_x (v:=s2.v) hF hS (ex_move rfl) rfl rfl fun a hF=>q_x (v:=(iV p_i)) hF hS (ex_move rfl) rfl rfl fun a hF=>?_)))))
   obtain ⟨t_6,ht_6,hr⟩:=bindS hr
   refine q_call (vs:=[s2.v,(iV p_i)]) hF hS Try.func43 (by kernel_rfl) rfl rfl rfl (c_spec_dWithout p_l p_i t_6 ht_6 _ m hS.vis s2 h2) ?_
   have hT:=hS
   rintro a w _ ⟨m7,q8,s8,rfl,hm7,hR7,h8⟩ hF hS2
   have hS : St _ _ _ _ [q8]:=hS.join hR7 hm7
   have hm7:=MLe.weakX (O0:=[]) hT hm7
   refine q_x (v:=s8.v) hF hS (ex_assign rfl) rfl rfl fun a hF=>q_x (v:=(.bool true)) hF hS (ex_assign rfl) rfl rfl fun a hF=>q_end (n_sq (q_ret ?_))
   obtain rfl:=someI hr
   exact ret_of hF hS rfl (.tmp rfl (.tmp rfl .nil)) ⟨m7,q8,s8,rfl,hm7,hS.sel [0] (by decide),h8⟩
  ·have hr:=cond_t hc3 hr
   refine q_cond_t hF rfl hc3 (q_seq (q_region (q_x (v:=nilS.v) hF hS (ex_assign rfl) rfl rfl fun a hF=>q_x (v:=(.bool false)) hF hS (ex_assign rfl) rfl rfl fun a hF=>q_end (n_sq (q_ret (r_sq ?_))))))
   obtain rfl:=someI hr
   exact ret_of hF hS rfl (.tmp rfl (.tmp rfl .nil)) ⟨m,[],nilS,rfl,(MLe.refl _ _),hS.sel [0] (by decide),(OwnL.nil (α:=impl_Record) m 36)⟩

theorem c_spec_DrawIsRecord (p_code : List (K .u8)) (r : (List impl_Variable) × impl_Record) (hr : spec_DrawIsRecord p_code = some r) (w0 : World) (m : Mem) (hv : Vis m w0) (s1 : Sl) (h1 : Rd m s1 p_code) :
  Ret Try.prog 44 [s1.v] w0 (fun v w=>∃ (q0' : Piece) (q1' : Piece) (s0' : Sl) (s1' : Sl),v = (.tuple #[s0'.v,(.agg #[(iV r.2.Area),(iV r.2.House),s1'.v])])∧St [] w0 w m [q0',q1']∧OwnL m 85 q0' s0' r.1∧OwnL m 3 q1' s1' r.2.Values):=by
 unfold spec_DrawIsRecord at hr
 refine ret_start Try.func44 rfl 38 rfl rfl m hv fun a hF hS=>q_seq (q_region (q_x (v:=nilS.v) hF hS (ex_assign rfl) rfl rfl fun a hF=>q_alloc (cs:=[(iV 0),(iV 0),nilS.v]) hF hS rfl rfl rfl fun a w b2 hF hS=>q_end (n_sq (q_seq (q_region (q_x (v:=s1.v) hF hS (ex_move rfl) rfl rfl fun a hF=>q_x (v:=(.agg #[s1.v,(iV 0),(.int .u64 0)])) hF hS (ex_build (cells:=[s1.v,(iV 0),(.int .u64 0)]) rfl (by kernel_rfl)) rfl rfl fun a hF=>q_box (cs:=[s1.v,(iV 0),(.int .u64 0)]) hF hS rfl rfl rfl fun a w b3 hF hS=>q_x (v:=(.pointer (some ⟨b3,0,none⟩))) hF hS (ex_assign rfl) rfl rfl fun a hF=>q_end (n_sq (q_seq (q_region (q_x (v:=(.pointer (some ⟨b3,0,none⟩))) hF hS (ex_move rfl) rfl rfl fun a hF=>?_))))))))))
 have hS4 : St _ _ _ _ ([[⟨b3,[s1.v,(iV 0),(.int .u64 0)],64⟩]]++[[⟨b2,[(iV 0),(iV 0),nilS.v],36⟩]]):=hS
 have hE4:=hS4.enter
 obtain ⟨t_5,ht_5,hr⟩:=bindS hr
 refine q_do rfl fun _ hK=>wp_callX (vs:=[(.pointer (some ⟨b3,0,none⟩))]) hF Try.func30 (by kernel_rfl) rfl rfl rfl (c_spec_l1Cur_anySchema (spec_l1Cur.mk p_code 0 (⟨0⟩ : K .u64)) t_5 ht_5 _ m b3 s1 h1 _ hE4) fun a w _ hR hF=>hK _ _ ?_
 obtain ⟨q6,s6,rfl,hR4,h6,hk7⟩:=hR
 have hS : St _ _ _ _ [[⟨b3,[s1.v,(iV t_5.2.at_),(.int .u64 t_5.2.seed.v)],64⟩],q6,[⟨b2,[(iV 0),(iV 0),nilS.v],36⟩]]:=hS4.leaveF hR4
 have h7 : Rd m s1 t_5.2.code:=by rw [hk7]; exact h1
 refine q_x (v:=s6.v) hF hS (ex_assign rfl) rfl rfl fun a hF=>q_end (n_sq (q_seq (q_region (q_x (v:=(.pointer (some ⟨b3,0,none⟩))) hF hS (ex_move rfl) rfl rfl fun a hF=>q_x (v:=s6.v) hF hS (ex_move rfl) rfl rfl fun a hF=>q_do rfl fun _ hK=>wp_buildSlice' (l:=([0,1,29] : List Int)) (cells:=[(iV 0),(iV 1),(iV 29)]) hF hS Try.underlying24 inf3 rfl rfl (by kernel_rfl) rfl rfl rfl ⟨rfl,rfl,rfl,rfl⟩ rfl rfl fun a w q8 s8 hF hS h8 _=>hK _ _ ?_))))
 have hS : St _ _ _ _ [[⟨b3,[s1.v,(iV t_5.2.at_),(.int .u64 t_5.2.seed.v)],64⟩],q8,q6,[⟨b2,[(iV 0),(iV 0),nilS.v],36⟩]]:=hS.sel [1,0,2,3] (by decide)
 have hS9 : St _ _ _ _ ([[⟨b3,[s1.v,(iV t_5.2.at_),(.int .u64 t_5.2.seed.v)],64⟩]]++[q8,q6,[⟨b2,[(iV 0),(iV 0),nilS.v],36⟩]]):=hS
 obtain ⟨m9,hl9,hE9,hz9⟩:=hS9.lendX
 obtain ⟨t_10,ht_10,hr⟩:=bindS hr
 refine q_do rfl fun _ hK=>wp_callX (vs:=[(.pointer (some ⟨b3,0,none⟩)),s6.v,s8.v]) hF Try.func79 (by kernel_rfl) rfl rfl rfl (c_spec_l1Cur_record t_5.2 t_5.1 ([0,1,29] : List Int) t_10 ht_10 _ m9 b3 s1 (h7.mono hl9) s6 (h6.froz hl9 (hz9 1 _ rfl)) s8 (h8.froz hl9 (hz9 0 _ rfl)) _ hE9) fun a w _ hR hF=>hK _ _ ?_
 obtain ⟨q11,s11,rfl,hR9,h11,hk12⟩:=hR
 have hS : St _ _ _ _ [[⟨b3,[s1.v,(iV t_10.2.at_),(.int .u64 t_10.2.seed.v)],64⟩],q11,q8,q6,[⟨b2,[(iV 0),(iV 0),nilS.v],36⟩]]:=hS9.leaveF hR9
 have h11:=h11.any m
 have h12 : Rd m s1 t_10.2.code:=by rw [hk12]; exact h7
 refine q_alloc (cs:=[(iV 0),(iV 0),nilS.v]) hF hS rfl rfl rfl fun a w b13 hF hS=>q_store (vs:=[(iV t_10.1.Area),(iV t_10.1.House),s11.v]) (cs':=[(iV t_10.1.Area),(iV t_10.1.House),s11.v]) 0 0 hF hS sz36 rfl rfl rfl rfl rfl rfl rfl rfl fun a w hF hS=>q_end (n_sq (q_seq (q_seq (q_region (q_x (v:=(.pointer (some ⟨b3,0,none⟩))) hF hS (ex_move rfl) rfl rfl fun a hF=>?_)))))
 have hS : St _ _ _ _ [[⟨b3,[s1.v,(iV t_10.2.at_),(.int .u64 t_10.2.seed.v)],64⟩],[⟨b13,[(iV t_10.1.Area),(iV t_10.1.House),s11.v],36⟩],q11,q8,q6,[⟨b2,[(iV 0),(iV 0),nilS.v],36⟩]]:=hS.sel [1,0,2,3,4,5] (by decide)
 have hS14 : St _ _ _ _ ([[⟨b3,[s1.v,(iV t_10.2.at_),(.int .u64 t_10.2.seed.v)],64⟩]]++[[⟨b13,[(iV t_10.1.Area),(iV t_10.1.House),s11.v],36⟩],q11,q8,q6,[⟨b2,[(iV 0),(iV 0),nilS.v],36⟩]]):=hS
 have hE14:=hS14.enter
 obtain ⟨t_15,ht_15,hr⟩:=bindS hr
 refine q_do rfl fun _ hK=>wp_callX (vs:=[(.pointer (some ⟨b3,0,none⟩)),(iV 8)]) hF Try.func40 (by kernel_rfl) rfl rfl rfl (c_spec_l1Cur_pick t_10.2 8 t_15 ht_15 _ m b3 s1 h12 _ hE14) fun a w _ hR hF=>hK _ _ ?_
 obtain ⟨rfl,hR14,hk16⟩:=hR
 have hS : St _ _ _ _ [[⟨b3,[s1.v,(iV t_15.2.at_),(.int .u64 t_15.2.seed.v)],64⟩],[⟨b13,[(iV t_10.1.Area),(iV t_10.1.House),s11.v],36⟩],q11,q8,q6,[⟨b2,[(iV 0),(iV 0),nilS.v],36⟩]]:=hS14.leaveF hR14
 have h16 : Rd m s1 t_15.2.code:=by rw [hk16]; exact h12
 refine q_end (n_sq (q_block (q_seq (q_region (q_x (v:=(.bool (t_15.1 == 0))) hF hS (ex_ibin rfl rfl rfl) rfl rfl fun a hF=>q_x (v:=(.bool (t_15.1 == 0))) hF hS (ex_assign rfl) rfl rfl fun a hF=>q_end (n_sq ?_))))))
 obtain ⟨r_33,hj1,hr⟩:=bindS hr
 refine q_join (fun a w=>∃ (q34 : Piece),∃ (s34 : Sl),Fr a 38 [(3,(.pointer (some ⟨b2,0,none⟩))),(5,s6.v),(6,(.pointer (some ⟨b13,0,none⟩)))]∧St [] w0 w m [q6,q34,[⟨b13,[(iV r_33.Area),(iV r_33.House),s34.v],36⟩],[⟨b2,[(iV 0),(iV 0),nilS.v],36⟩]]∧OwnL m 3 q34 s34 r_33.Values) ?_ ?_
 ·rcases bcase (t_15.1 == 0) with hc2 | hc2
  ·have hj1:=cond_f hc2 hj1
   refine q_cond_f hF rfl hc2 (q_seq (q_region (q_x (v:=(.bool (t_15.1 == 1))) hF hS (ex_ibin rfl rfl rfl) rfl rfl fun a hF=>q_x (v:=(.bool (t_15.1 == 1))) hF hS (ex_assign rfl) rfl rfl fun a hF=>q_end (n_sq ?_))))
   obtain ⟨r_27,hj3,hj1⟩:=bindS hj1
   refine q_join (fun a w=>∃ (q28 : Piece),∃ (s28 : Sl),Fr a 38 [(3,(.pointer (some ⟨b2,0,none⟩))),(5,s6.v),(6,(.pointer (some ⟨b13,0,none⟩)))]∧St [] w0 w m [q6,q28,[⟨b13,[(iV r_27.Area),(iV r_27.House),s28.v],36⟩],[⟨b2,[(iV 0),(iV 0),nilS.v],36⟩]]∧OwnL m 3 q28 s28 r_27.Values) ?_ ?_
   ·rcases bcase (t_15.1 == 1) with hc4 | hc4
    ·have hj3:=cond_f hc4 hj3
     refine q_cond_f hF rfl hc4 (q_seq (q_region (q_x (v:=(.bool (t_15.1 == 2))) hF hS (ex_ibin rfl rfl rfl) rfl rfl fun a hF=>q_x (v:=(.bool (t_15.1 == 2))) hF hS (ex_assign rfl) rfl rfl fun a hF=>q_end (n_sq ?_))))
     obtain ⟨r_21,hj5,hj3⟩:=bindS hj3
     refine q_join (fun a w=>∃ (q22 : Piece),∃ (s22 : Sl),Fr a 38 [(3,(.pointer (some ⟨b2,0,none⟩))),(5,s6.v),(6,(.pointer (some ⟨b13,0,none⟩)))]∧St [] w0 w m [q6,q22,[⟨b13,[(iV r_21.Area),(iV r_21.House),s22.v],36⟩],[⟨b2,[(iV 0),(iV 0),nilS.v],36⟩]]∧OwnL m 3 q22 s22 r_21.Values) ?_ ?_
     ·rcases bcase (t_15.1 == 2) with hc6 | hc6
      ·have hj5:=cond_f hc6 hj5
       refine q_cond_f hF rfl hc6 (q_skipc (n_jn ?_))
       obtain rfl:=someI hj5
       exact ⟨q11,s11,hF.sub ⟨rfl,rfl,rfl,trivial⟩,hS.sel [4,2,1,5] (by decide),h11⟩
      ·have hj5:=cond_t hc6 hj5
       refine q_cond_t hF rfl hc6 (q_region (q_x (v:=(.pointer (some ⟨b3,0,none⟩))) hF hS (ex_move rfl) rfl rfl fun a hF=>q_x (v:=s6.v) hF hS (ex_move rfl) rfl rfl fun a hF=>?_))
       have hS17 : St _ _ _ _ ([[⟨b3,[s1.v,(iV t_15.2.at_),(.int .u64 t_15.2.seed.v)],64⟩]]++[[⟨b13,[(iV t_10.1.Area),(iV t_10.1.House),s11.v],36⟩],q11,q8,q6,[⟨b2,[(iV 0),(iV 0),nilS.v],36⟩]]):=hS
       obtain ⟨m17,hl17,hE17,hz17⟩:=hS17.lendX
       obtain ⟨t_18,ht_18,hj5⟩:=bindS hj5
       refine q_do rfl fun _ hK=>wp_callX (vs:=[(.pointer (some ⟨b3,0,none⟩)),s6.v]) hF Try.func45 (by kernel_rfl) rfl rfl rfl (c_spec_l1Cur_anyValues t_15.2 t_5.1 t_18 ht_18 _ m17 b3 s1 (h16.mono hl17) s6 (h6.froz hl17 (hz17 3 _ rfl)) _ hE17) fun a w _ hR hF=>hK _ _ ?_
       obtain ⟨q19,s19,rfl,hR17,h19,hk20⟩:=hR
       have hS : St _ _ _ _ [[⟨b3,[s1.v,(iV t_18.2.at_),(.int .u64 t_18.2.seed.v)],64⟩],q19,[⟨b13,[(iV t_10.1.Area),(iV t_10.1.House),s11.v],36⟩],q11,q8,q6,[⟨b2,[(iV 0),(iV 0),nilS.v],36⟩]]:=hS17.leaveF hR17
       have h19:=h19.any m
       have h20 : Rd m s1 t_18.2.code:=by rw [hk20]; exact h16
       refine q_x (v:=(.pointer (some ⟨b13,2,none⟩))) hF hS (ex_fieldAddr Try.underlying36 rfl sz24 rfl rfl) rfl rfl fun a hF=>q_store (vs:=[s19.v]) (cs':=[(iV t_10.1.Area),(iV t_10.1.House),s19.v]) 2 0 hF hS sz24 rfl rfl rfl rfl rfl rfl rfl rfl fun a w hF hS=>q_end (n_jn ?_)
       obtain rfl:=someI hj5
       exact ⟨q19,s19,hF.sub ⟨rfl,rfl,rfl,trivial⟩,hS.sel [5,1,2,6] (by decide),h19⟩
     ·rintro a w ⟨q22,s22,hF,hS,h22⟩
      refine n_jn ?_
      obtain rfl:=someI hj3
      exact ⟨q22,s22,hF.sub ⟨rfl,rfl,rfl,trivial⟩,hS,h22⟩
    ·have hj3:=cond_t hc4 hj3
     refine q_cond_t hF rfl hc4 (q_region (q_x (v:=(.pointer (some ⟨b3,0,none⟩))) hF hS (ex_move rfl) rfl rfl fun a hF=>q_do rfl fun _ hK=>wp_buildSlice' (l:=([-1,999,1000] : List Int)) (cells:=[(iV (-1)),(iV 999),(iV 1000)]) hF hS Try.underlying24 inf3 rfl rfl (by kernel_rfl) rfl rfl rfl ⟨rfl,rfl,rfl,rfl⟩ rfl rfl fun a w q23 s23 hF hS h23 _=>hK _ _ ?_))
     have hS : St _ _ _ _ [[⟨b3,[s1.v,(iV t_15.2.at_),(.int .u64 t_15.2.seed.v)],64⟩],q23,[⟨b13,[(iV t_10.1.Area),(iV t_10.1.House),s11.v],36⟩],q11,q8,q6,[⟨b2,[(iV 0),(iV 0),nilS.v],36⟩]]:=hS.sel [1,0,2,3,4,5,6] (by decide)
     have hS24 : St _ _ _ _ ([[⟨b3,[s1.v,(iV t_15.2.at_),(.int .u64 t_15.2.seed.v)],64⟩]]++[q23,[⟨b13,[(iV t_10.1.Area),(iV t_10.1.House),s11.v],36⟩],q11,q8,q6,[⟨b2,[(iV 0),(iV 0),nilS.v],36⟩]]):=hS
     obtain ⟨m24,hl24,hE24,hz24⟩:=hS24.lendX
     obtain ⟨t_25,ht_25,hj3⟩:=bindS hj3
     refine q_do rfl fun _ hK=>wp_callX (vs:=[(.pointer (some ⟨b3,0,none⟩)),s23.v]) hF Try.func69 (by kernel_rfl) rfl rfl rfl (c_spec_l1Cur_among t_15.2 ([-1,999,1000] : List Int) t_25 ht_25 _ m24 b3 s1 (h16.mono hl24) s23 (h23.froz hl24 (hz24 0 _ rfl)) _ hE24) fun a w _ hR hF=>hK _ _ ?_
     obtain ⟨rfl,hR24,hk26⟩:=hR
     have hS : St _ _ _ _ [[⟨b3,[s1.v,(iV t_25.2.at_),(.int .u64 t_25.2.seed.v)],64⟩],q23,[⟨b13,[(iV t_10.1.Area),(iV t_10.1.House),s11.v],36⟩],q11,q8,q6,[⟨b2,[(iV 0),(iV 0),nilS.v],36⟩]]:=hS24.leaveF hR24
     have h26 : Rd m s1 t_25.2.code:=by rw [hk26]; exact h16
     refine q_x (v:=(.pointer (some ⟨b13,1,none⟩))) hF hS (ex_fieldAddr Try.underlying36 rfl sz3 rfl rfl) rfl rfl fun a hF=>q_store (vs:=[(iV t_25.1)]) (cs':=[(iV t_10.1.Area),(iV t_25.1),s11.v]) 2 0 hF hS sz3 rfl rfl rfl rfl rfl rfl rfl rfl fun a w hF hS=>q_end (n_jn ?_)
     obtain rfl:=someI hj3
     exact ⟨q11,s11,hF.sub ⟨rfl,rfl,rfl,trivial⟩,hS.sel [5,3,2,6] (by decide),h11⟩
   ·rintro a w ⟨q28,s28,hF,hS,h28⟩
    refine n_jn ?_
    obtain rfl:=someI hj1
    exact ⟨q28,s28,hF.sub ⟨rfl,rfl,rfl,trivial⟩,hS,h28⟩
  ·have hj1:=cond_t hc2 hj1
   refine q_cond_t hF rfl hc2 (q_region (q_x (v:=(.pointer (some ⟨b3,0,none⟩))) hF hS (ex_move rfl) rfl rfl fun a hF=>q_do rfl fun _ hK=>wp_buildSlice' (l:=([-1,30,29] : List Int)) (cells:=[(iV (-1)),(iV 30),(iV 29)]) hF hS Try.underlying24 inf3 rfl rfl (by kernel_rfl) rfl rfl rfl ⟨rfl,rfl,rfl,rfl⟩ rfl rfl fun a w q29 s29 hF hS h29 _=>hK _ _ ?_))
   have hS : St _ _ _ _ [[⟨b3,[s1.v,(iV t_15.2.at_),(.int .u64 t_15.2.seed.v)],64⟩],q29,[⟨b13,[(iV t_10.1.Area),(iV t_10.1.House),s11.v],36⟩],q11,q8,q6,[⟨b2,[(iV 0),(iV 0),nilS.v],36⟩]]:=hS.sel [1,0,2,3,4,5,6] (by decide)
   have hS30 : St _ _ _ _ ([[⟨b3,[s1.v,(iV t_15.2.at_),(.int .u64 t_15.2.seed.v)],64⟩]]++[q29,[⟨b13,[(iV t_10.1.Area),(iV t_10.1.House),s11.v],36⟩],q11,q8,q6,[⟨b2,[(iV 0),(iV 0),nilS.v],36⟩]]):=hS
   obtain ⟨m30,hl30,hE30,hz30⟩:=hS30.lendX
   obtain ⟨t_31,ht_31,hj1⟩:=bindS hj1
   refine q_do rfl fun _ hK=>wp_callX (vs:=[(.pointer (some ⟨b3,0,none⟩)),s29.v]) hF Try.func69 (by kernel_rfl) rfl rfl rfl (c_spec_l1Cur_among t_15.2 ([-1,30,29] : List Int) t_31 ht_31 _ m30 b3 s1 (h16.mono hl30) s29 (h29.froz hl30 (hz30 0 _ rfl)) _ hE30) fun a w _ hR hF=>hK _ _ ?_
   obtain ⟨rfl,hR30,hk32⟩:=hR
   have hS : St _ _ _ _ [[⟨b3,[s1.v,(iV t_31.2.at_),(.int .u64 t_31.2.seed.v)],64⟩],q29,[⟨b13,[(iV t_10.1.Area),(iV t_10.1.House),s11.v],36⟩],q11,q8,q6,[⟨b2,[(iV 0),(iV 0),nilS.v],36⟩]]:=hS30.leaveF hR30
   have h32 : Rd m s1 t_31.2.code:=by rw [hk32]; exact h16
   refine q_x (v:=(.pointer (some ⟨b13,0,none⟩))) hF hS (ex_fieldAddr Try.underlying36 rfl sz3 rfl rfl) rfl rfl fun a hF=>q_store (vs:=[(iV t_31.1)]) (cs':=[(iV t_31.1),(iV t_10.1.House),s11.v]) 2 0 hF hS sz3 rfl rfl rfl rfl rfl rfl rfl rfl fun a w hF hS=>q_end (n_jn ?_)
   obtain rfl:=someI hj1
   exact ⟨q11,s11,hF.sub ⟨rfl,rfl,rfl,trivial⟩,hS.sel [5,3,2,6] (by decide),h11⟩
 ·rintro a w ⟨q34,s34,hF,hS,h34⟩
  refine n_ib (n_sq ?_)
  refine q_seq (e_region ⟨[3],[b13]⟩ mixed fun w' hw'=>?_)
  have hS:=hS.below hw'
  refine e_p (v:=s6.v) 0 hF rfl (ex_move rfl) rfl rfl (by kernel_rfl) (by kernel_rfl) (by kernel_rfl) fun a hF=>e_xb (v:=(.agg #[(iV r_33.Area),(iV r_33.House),s34.v])) 1 2 hF hS (.head _) rfl rfl (ex_loadA (vs:=[(iV r_33.Area),(iV r_33.House),s34.v]) 0 0 Try.underlying36 rfl sz36 rfl rfl rfl rfl) rfl rfl (by kernel_rfl) (by kernel_rfl) (by kernel_rfl) fun a hF=>e_p (v:=s6.v) 2 hF rfl (ex_assign rfl) rfl rfl (by kernel_rfl) (by kernel_rfl) (by kernel_rfl) fun a hF=>e_one 3 (by kernel_rfl) ?_
  have hSo:=hS
  refine e_store (vs:=[(iV r_33.Area),(iV r_33.House),s34.v]) (cs':=[(iV r_33.Area),(iV r_33.House),s34.v]) 3 0 hF hS rfl rfl sz36 rfl rfl rfl rfl rfl rfl rfl rfl fun a w hF hS=>⟨kpC hSo hS 2 2 rfl rfl kpN,?_⟩
  refine e_end (by kernel_rfl) (n_sq (q_ret ?_)) _
  obtain rfl:=someI hr
  exact ret_of hF hS rfl (.tmp rfl (.cellA (us:=[(iV r_33.Area),(iV r_33.House),s34.v]) 3 0 Try.underlying36 rfl sz36 rfl rfl rfl rfl .nil)) ⟨q6,q34,s6,s34,rfl,hS.sel [0,1] (by decide),h6,h34⟩

theorem c_spec_DrawReplaceValues (p_code : List (K .u8)) (r : (List impl_Variable) × impl_Record × (List Int)) (hr : spec_DrawReplaceValues p_code = some r) (w0 : World) (m : Mem) (hv : Vis m w0) (s1 : Sl) (h1 : Rd m s1 p_code) :
  Ret Try.prog 11 [s1.v] w0 (fun v w=>∃ (q0' : Piece) (q1' : Piece) (q2' : Piece) (s0' : Sl) (s1' : Sl) (s2' : Sl),v = (.tuple #[s0'.v,(.agg #[(iV r.2.1.Area),(iV r.2.1.House),s1'.v]),s2'.v])∧St [] w0 w m [q0',q1',q2']∧OwnL m 85 q0' s0' r.1∧OwnL m 3 q1' s1' r.2.1.Values∧OwnL m 3 q2' s2' r.2.2):=by
 unfold spec_DrawReplaceValues at hr
 refine ret_start Try.func11 rfl 21 rfl rfl m hv fun a hF hS=>q_seq (q_region (q_x (v:=nilS.v) hF hS (ex_assign rfl) rfl rfl fun a hF=>q_alloc (cs:=[(iV 0),(iV 0),nilS.v]) hF hS rfl rfl rfl fun a w b2 hF hS=>q_x (v:=nilS.v) hF hS (ex_assign rfl) rfl rfl fun a hF=>q_end (n_sq (q_seq (q_region (q_x (v:=s1.v) hF hS (ex_move rfl) rfl rfl fun a hF=>q_x (v:=(.agg #[s1.v,(iV 0),(.int .u64 0)])) hF hS (ex_build (cells:=[s1.v,(iV 0),(.int .u64 0)]) rfl (by kernel_rfl)) rfl rfl fun a hF=>q_box (cs:=[s1.v,(iV 0),(.int .u64 0)]) hF hS rfl rfl rfl fun a w b3 hF hS=>q_x (v:=(.pointer (some ⟨b3,0,none⟩))) hF hS (ex_assign rfl) rfl rfl fun a hF=>q_end (n_sq (q_seq (q_region (q_x (v:=s1.v) hF hS (ex_move rfl) rfl rfl fun a hF=>?_))))))))))
 obtain ⟨t_4,ht_4,hr⟩:=bindS hr
 refine q_call (vs:=[s1.v]) hF hS Try.func44 (by kernel_rfl) rfl rfl rfl (c_spec_DrawIsRecord p_code t_4 ht_4 _ m hS.vis s1 h1) ?_
 rintro a w _ ⟨q6,q7,s6,s7,rfl,hR5,h6,h7⟩ hF hS2
 have hS : St _ _ _ _ [q6,q7,[⟨b3,[s1.v,(iV 0),(.int .u64 0)],64⟩],[⟨b2,[(iV 0),(iV 0),nilS.v],36⟩]]:=hS.joinF hR5
 refine q_x (v:=(.tuple #[s6.v,(.agg #[(iV t_4.2.Area),(iV t_4.2.House),s7.v])])) hF hS (ex_move rfl) rfl rfl fun a hF=>q_x (v:=s6.v) hF hS (ex_extract rfl rfl) rfl rfl fun a hF=>q_x (v:=(.agg #[(iV t_4.2.Area),(iV t_4.2.House),s7.v])) hF hS (ex_extract rfl rfl) rfl rfl fun a hF=>q_alloc (cs:=[(iV 0),(iV 0),nilS.v]) hF hS rfl rfl rfl fun a w b8 hF hS=>q_x (v:=s6.v) hF hS (ex_assign rfl) rfl rfl fun a hF=>q_store (vs:=[(iV t_4.2.Area),(iV t_4.2.House),s7.v]) (cs':=[(iV t_4.2.Area),(iV t_4.2.House),s7.v]) 0 0 hF hS sz36 rfl rfl rfl rfl rfl rfl rfl rfl fun a w hF hS=>q_end (n_sq (q_seq (e_region ⟨[4,6],[b8]⟩ mixed fun w' hw'=>?_)))
 have hS:=hS.below hw'
 refine e_p (v:=s6.v) 0 hF rfl (ex_move rfl) rfl rfl (by kernel_rfl) (by kernel_rfl) (by kernel_rfl) fun a hF=>e_xb (v:=(.agg #[(iV t_4.2.Area),(iV t_4.2.House),s7.v])) 1 0 hF hS (.head _) rfl rfl (ex_loadA (vs:=[(iV t_4.2.Area),(iV t_4.2.House),s7.v]) 0 0 Try.underlying36 rfl sz36 rfl rfl rfl rfl) rfl rfl (by kernel_rfl) (by kernel_rfl) (by kernel_rfl) fun a hF=>e_p (v:=(.pointer (some ⟨b3,0,none⟩))) 2 hF rfl (ex_move rfl) rfl rfl (by kernel_rfl) (by kernel_rfl) (by kernel_rfl) fun a hF=>e_p (v:=s6.v) 3 hF rfl (ex_move rfl) rfl rfl (by kernel_rfl) (by kernel_rfl) (by kernel_rfl) fun a hF=>e_one 4 (by kernel_rfl) ?_
 have hS : St _ _ _ _ [[⟨b3,[s1.v,(iV 0),(.int .u64 0)],64⟩],[⟨b8,[(iV t_4.2.Area),(iV t_4.2.House),s7.v],36⟩],q6,q7,[⟨b2,[(iV 0),(iV 0),nilS.v],36⟩]]:=hS.sel [3,0,1,2,4] (by decide)
 have hS9 : St _ _ _ _ ([[⟨b3,[s1.v,(iV 0),(.int .u64 0)],64⟩]]++[[⟨b8,[(iV t_4.2.Area),(iV t_4.2.House),s7.v],36⟩],q6,q7,[⟨b2,[(iV 0),(iV 0),nilS.v],36⟩]]):=hS
 obtain ⟨m9,hl9,hE9,hz9⟩:=hS9.lendX
 obtain ⟨t_10,ht_10,hr⟩:=bindS hr
 have hSo:=hS
 refine e_opl rfl rfl rfl fun _ hK=>wp_callX (vs:=[(.pointer (some ⟨b3,0,none⟩)),s6.v]) hF Try.func45 (by kernel_rfl) rfl rfl rfl (c_spec_l1Cur_anyValues (spec_l1Cur.mk p_code 0 (⟨0⟩ : K .u64)) t_4.1 t_10 ht_10 _ m9 b3 s1 (h1.mono hl9) s6 (h6.froz hl9 (hz9 1 _ rfl)) _ hE9) fun a w _ hR hF=>hK _ _ ?_
 obtain ⟨q11,s11,rfl,hR9,h11,hk12⟩:=hR
 have hS : St _ _ _ _ [[⟨b3,[s1.v,(iV t_10.2.at_),(.int .u64 t_10.2.seed.v)],64⟩],q11,[⟨b8,[(iV t_4.2.Area),(iV t_4.2.House),s7.v],36⟩],q6,q7,[⟨b2,[(iV 0),(iV 0),nilS.v],36⟩]]:=hS9.leaveF hR9
 have h11:=h11.any m
 have h12 : Rd m s1 t_10.2.code:=by rw [hk12]; exact h1
 refine ⟨kpC hSo hS 1 2 rfl rfl kpN,?_⟩
 refine e_p (v:=s6.v) 5 hF rfl (ex_assign rfl) rfl rfl (by kernel_rfl) (by kernel_rfl) (by kernel_rfl) fun a hF=>e_one 6 (by kernel_rfl) ?_
 have hSo:=hS
 refine e_store (vs:=[(iV t_4.2.Area),(iV t_4.2.House),s7.v]) (cs':=[(iV t_4.2.Area),(iV t_4.2.House),s7.v]) 5 0 hF hS rfl rfl sz36 rfl rfl rfl rfl rfl rfl rfl rfl fun a w hF hS=>⟨kpC hSo hS 2 2 rfl rfl kpN,?_⟩
 refine e_p (v:=s11.v) 7 hF rfl (ex_assign rfl) rfl rfl (by kernel_rfl) (by kernel_rfl) (by kernel_rfl) fun a hF=>e_end (by kernel_rfl) (n_sq (q_ret ?_)) _
 obtain rfl:=someI hr
 exact ret_of hF hS rfl (.tmp rfl (.cellA (us:=[(iV t_4.2.Area),(iV t_4.2.House),s7.v]) 5 0 Try.underlying36 rfl sz36 rfl rfl rfl rfl (.tmp rfl .nil))) ⟨q6,q7,q11,s6,s7,s11,rfl,hS.sel [3,4,1] (by decide),h6,h7,h11⟩

theorem c_impl_ReplaceValues (p_s : List impl_Variable) (p_r : impl_Record) (p_values : List Int) (r : impl_Record × Bool) (hr : impl_ReplaceValues p_s p_r p_values = some r) (w0 : World) (m : Mem) (hv : Vis m w0) (s1 : Sl) (h1 : Rd m s1 p_s) (s2 : Sl) (h2 : Rd m s2 p_r.Values) (s3 : Sl) (h3 : Rd m s3 p_values) :
  Ret Try.prog 12 [s1.v,(.agg #[(iV p_r.Area),(iV p_r.House),s2.v]),s3.v] w0 (fun v w=>∃ (q0' : Piece) (s0' : Sl),v = (.tuple #[(.agg #[(iV r.1.Area),(iV r.1.House),s0'.v]),(.bool r.2)])∧St [] w0 w m [q0']∧OwnL m 3 q0' s0' r.1.Values):=by
 unfold impl_ReplaceValues at hr
 refine ret_start Try.func12 rfl 31 rfl rfl m hv fun a hF hS=>q_seq (q_region (q_box (cs:=[(iV p_r.Area),(iV p_r.House),s2.v]) hF hS rfl rfl rfl fun a w b4 hF hS=>q_alloc (cs:=[(iV 0),(iV 0),nilS.v]) hF hS rfl rfl rfl fun a w b5 hF hS=>q_x (v:=(.bool false)) hF hS (ex_assign rfl) rfl rfl fun a hF=>q_end (n_sq (q_seq (q_seq ?_)))))
 obtain ⟨t_9,hj1,hr⟩:=bindS hr
 refine q_join (fun a w=>Fr a 31 [(2,s3.v),(4,(.pointer (some ⟨b4,0,none⟩))),(6,(.pointer (some ⟨b5,0,none⟩))),(22,(.bool t_9))]∧St [] w0 w m [[⟨b5,[(iV 0),(iV 0),nilS.v],36⟩],[⟨b4,[(iV p_r.Area),(iV p_r.House),s2.v],36⟩]]) ?_ ?_
 ·refine q_region (q_x (v:=s1.v) hF hS (ex_move rfl) rfl rfl fun a hF=>?_)
  obtain ⟨t_6,ht_6,hj1⟩:=bindS hj1
  refine q_call (vs:=[s1.v]) hF hS Try.func33 (by kernel_rfl) rfl rfl rfl (c_impl_IsSchema p_s t_6 ht_6 _ m hS.vis s1 h1) ?_
  rintro a w _ rfl hF hS
  refine q_x (v:=(.bool (!t_6))) hF hS (ex_not rfl) rfl rfl fun a hF=>q_x (v:=(.bool (!t_6))) hF hS (ex_move rfl) rfl rfl fun a hF=>?_
  rcases bcase (!t_6) with hc2 | hc2
  ·have hj1:=cond_f hc2 hj1
   refine q_xg (v:=s1.v) hF hS (ex_move rfl) (wanted_t hF rfl rfl rfl hc2) rfl fun a hF=>q_xg (v:=(.agg #[(iV p_r.Area),(iV p_r.House),s2.v])) hF hS (ex_loadA (vs:=[(iV p_r.Area),(iV p_r.House),s2.v]) 1 0 Try.underlying36 rfl sz36 rfl rfl rfl rfl) (wanted_t hF rfl rfl rfl hc2) rfl fun a hF=>?_
   obtain ⟨t_7,ht_7,hj1⟩:=bindS hj1
   refine q_callg (vs:=[s1.v,(.agg #[(iV p_r.Area),(iV p_r.House),s2.v])]) hF hS (wanted_t hF rfl rfl rfl hc2) Try.func46 (by kernel_rfl) rfl rfl rfl (c_impl_isRecord p_s p_r t_7 ht_7 _ m hS.vis s1 h1 s2 h2) ?_
   rintro a w _ rfl hF hS
   refine q_xg (v:=(.bool (!t_7))) hF hS (ex_not rfl) (wanted_t hF rfl rfl rfl hc2) rfl fun a hF=>q_x (v:=(.bool (!t_7))) hF hS (ex_pick_f rfl rfl hc2) rfl rfl fun a hF=>q_x (v:=(.bool (!t_7))) hF hS (ex_move rfl) rfl rfl fun a hF=>?_
   rcases bcase (!t_7) with hc3 | hc3
   ·have hj1:=cond_f hc3 hj1
    refine q_xg (v:=s1.v) hF hS (ex_move rfl) (wanted_t hF rfl rfl rfl hc3) rfl fun a hF=>q_xg (v:=s3.v) hF hS (ex_move rfl) (wanted_t hF rfl rfl rfl hc3) rfl fun a hF=>?_
    obtain ⟨t_8,ht_8,hj1⟩:=bindS hj1
    refine q_callg (vs:=[s1.v,s3.v]) hF hS (wanted_t hF rfl rfl rfl hc3) Try.func47 (by kernel_rfl) rfl rfl rfl (c_impl_areValues p_s p_values t_8 ht_8 _ m hS.vis s1 h1 s3 h3) ?_
    rintro a w _ rfl hF hS
    refine q_xg (v:=(.bool (!t_8))) hF hS (ex_not rfl) (wanted_t hF rfl rfl rfl hc3) rfl fun a hF=>q_x (v:=(.bool (!t_8))) hF hS (ex_pick_f rfl rfl hc3) rfl rfl fun a hF=>q_end (n_jn ?_)
    obtain rfl:=someI hj1
    exact ⟨hF.sub ⟨rfl,rfl,rfl,rfl,trivial⟩,hS⟩
   ·have hj1:=cond_t hc3 hj1
    refine q_skip hF (wanted_f hF rfl rfl rfl hc3 rfl) rfl fun a hF=>q_skip hF (wanted_f hF rfl rfl rfl hc3 rfl) rfl fun a hF=>q_skip hF (wanted_f hF rfl rfl rfl hc3 rfl) rfl fun a hF=>q_skip hF (wanted_f hF rfl rfl rfl hc3 rfl) rfl fun a hF=>q_x (v:=(.bool true)) hF hS (ex_pick_t rfl rfl hc3) rfl rfl fun a hF=>q_end (n_jn ?_)
    obtain rfl:=someI hj1
    exact ⟨hF.sub ⟨rfl,rfl,rfl,rfl,trivial⟩,hS⟩
  ·have hj1:=cond_t hc2 hj1
   refine q_skip hF (wanted_f hF rfl rfl rfl hc2 rfl) rfl fun a hF=>q_skip hF (wanted_f hF rfl rfl rfl hc2 rfl) rfl fun a hF=>q_skip hF (wanted_f hF rfl rfl rfl hc2 rfl) rfl fun a hF=>q_skip hF (wanted_f hF rfl rfl rfl hc2 rfl) rfl fun a hF=>q_x (v:=(.bool true)) hF hS (ex_pick_t rfl rfl hc2) rfl rfl fun a hF=>q_x (v:=(.bool true)) hF hS (ex_move rfl) rfl rfl fun a hF=>q_skip hF (wanted_f hF rfl rfl rfl rfl rfl) rfl fun a hF=>q_skip hF (wanted_f hF rfl rfl rfl rfl rfl) rfl fun a hF=>q_skip hF (wanted_f hF rfl rfl rfl rfl rfl) rfl fun a hF=>q_skip hF (wanted_f hF rfl rfl rfl rfl rfl) rfl fun a hF=>q_x (v:=(.bool true)) hF hS (ex_pick_t rfl rfl rfl) rfl rfl fun a hF=>q_end (n_jn ?_)
   obtain rfl:=someI hj1
   exact ⟨hF.sub ⟨rfl,rfl,rfl,rfl,trivial⟩,hS⟩
 ·rintro a w ⟨hF,hS⟩
  refine n_sq ?_
  rcases bcase (t_9) with hc4 | hc4
  ·have hr:=cond_f hc4 hr
   refine q_cond_f hF rfl hc4 (q_skipc (n_sq (q_seq (e_region ⟨[7],[b4]⟩ mixed fun w' hw'=>?_))))
   have hS:=hS.below hw'
   refine e_p (v:=(.pointer (some ⟨b4,0,none⟩))) 0 hF rfl (ex_fieldAddr Try.underlying36 rfl sz3 rfl rfl) rfl rfl (by kernel_rfl) (by kernel_rfl) (by kernel_rfl) fun a hF=>e_xb (v:=(iV p_r.Area)) 1 1 hF hS (.head _) rfl rfl (ex_load1 0 0 Try.underlying3 rfl rfl rfl rfl) rfl rfl (by kernel_rfl) (by kernel_rfl) (by kernel_rfl) fun a hF=>e_p (v:=(.pointer (some ⟨b4,1,none⟩))) 2 hF rfl (ex_fieldAddr Try.underlying36 rfl sz3 rfl rfl) rfl rfl (by kernel_rfl) (by kernel_rfl) (by kernel_rfl) fun a hF=>e_xb (v:=(iV p_r.House)) 3 1 hF hS (.head _) rfl rfl (ex_load1 0 0 Try.underlying3 rfl rfl rfl rfl) rfl rfl (by kernel_rfl) (by kernel_rfl) (by kernel_rfl) fun a hF=>e_p (v:=s3.v) 4 hF rfl (ex_move rfl) rfl rfl (by kernel_rfl) (by kernel_rfl) (by kernel_rfl) fun a hF=>e_one 5 (by kernel_rfl) ?_
   obtain ⟨t_10,ht_10,hr⟩:=bindS hr
   refine e_call (vs:=[s3.v]) hF hS rfl Try.func48 (by kernel_rfl) rfl rfl rfl (c_slices_Clone_int_int p_values t_10 ht_10 _ m hS.vis s3 h3) ?_
   rintro a w _ ⟨q12,s12,rfl,hR11,h12⟩ hF hS2
   have hS : St _ _ _ _ [q12,[⟨b5,[(iV 0),(iV 0),nilS.v],36⟩],[⟨b4,[(iV p_r.Area),(iV p_r.House),s2.v],36⟩]]:=hS.joinF hR11
   refine e_p (v:=(.agg #[(iV p_r.Area),(iV p_r.House),s12.v])) 6 hF rfl (ex_build (cells:=[(iV p_r.Area),(iV p_r.House),s12.v]) rfl (by kernel_rfl)) rfl rfl (by kernel_rfl) (by kernel_rfl) (by kernel_rfl) fun a hF=>e_one 7 (by kernel_rfl) ?_
   have hSo:=hS
   refine e_store (vs:=[(iV p_r.Area),(iV p_r.House),s12.v]) (cs':=[(iV p_r.Area),(iV p_r.House),s12.v]) 1 0 hF hS rfl rfl sz36 rfl rfl rfl rfl rfl rfl rfl rfl fun a w hF hS=>⟨kpC hSo hS 2 2 rfl rfl kpN,?_⟩
   refine e_p (v:=(.bool true)) 8 hF rfl (ex_assign rfl) rfl rfl (by kernel_rfl) (by kernel_rfl) (by kernel_rfl) fun a hF=>e_end (by kernel_rfl) (n_sq (q_ret ?_)) _
   obtain rfl:=someI hr
   exact ret_of hF hS rfl (.cellA (us:=[(iV p_r.Area),(iV p_r.House),s12.v]) 1 0 Try.underlying36 rfl sz36 rfl rfl rfl rfl (.tmp rfl .nil)) ⟨q12,s12,rfl,hS.sel [0] (by decide),h12⟩
  ·have hr:=cond_t hc4 hr
   refine q_cond_t hF rfl hc4 (q_seq (q_region (q_x (v:=(.agg #[(iV 0),(iV 0),nilS.v])) hF hS (ex_build (cells:=[(iV 0),(iV 0),nilS.v]) rfl (by kernel_rfl)) rfl rfl fun a hF=>q_store (vs:=[(iV 0),(iV 0),nilS.v]) (cs':=[(iV 0),(iV 0),nilS.v]) 0 0 hF hS sz36 rfl rfl rfl rfl rfl rfl rfl rfl fun a w hF hS=>q_x (v:=(.bool false)) hF hS (ex_assign rfl) rfl rfl fun a hF=>q_end (n_sq (q_ret (r_sq ?_))))))
   obtain rfl:=someI hr
   exact ret_of hF hS rfl (.cellA (us:=[(iV 0),(iV 0),nilS.v]) 0 0 Try.underlying36 rfl sz36 rfl rfl rfl rfl (.tmp rfl .nil)) ⟨[],nilS,rfl,hS.sel [2] (by decide),(OwnL.nil (α:=Int) m 3)⟩

theorem c_spec_ReplaceValues (p_s : List impl_Variable) (p_r : impl_Record) (p_values : List Int) (r : impl_Record × Bool) (hr : spec_ReplaceValues p_s p_r p_values = some r) (w0 : World) (m : Mem) (hv : Vis m w0) (s1 : Sl) (h1 : Rd m s1 p_s) (s2 : Sl) (h2 : Rd m s2 p_r.Values) (s3 : Sl) (h3 : Rd m s3 p_values) :
  Ret Try.prog 13 [s1.v,(.agg #[(iV p_r.Area),(iV p_r.House),s2.v]),s3.v] w0 (fun v w=>∃ (q0' : Piece) (s0' : Sl),v = (.tuple #[(.agg #[(iV r.1.Area),(iV r.1.House),s0'.v]),(.bool r.2)])∧St [] w0 w m [q0']∧OwnL m 3 q0' s0' r.1.Values):=by
 unfold spec_ReplaceValues at hr
 refine ret_start Try.func13 rfl 31 rfl rfl m hv fun a hF hS=>q_seq (q_region (q_box (cs:=[(iV p_r.Area),(iV p_r.House),s2.v]) hF hS rfl rfl rfl fun a w b4 hF hS=>q_alloc (cs:=[(iV 0),(iV 0),nilS.v]) hF hS rfl rfl rfl fun a w b5 hF hS=>q_x (v:=(.bool false)) hF hS (ex_assign rfl) rfl rfl fun a hF=>q_end (n_sq (q_seq (q_seq ?_)))))
 obtain ⟨t_9,hj1,hr⟩:=bindS hr
 refine q_join (fun a w=>Fr a 31 [(2,s3.v),(4,(.pointer (some ⟨b4,0,none⟩))),(6,(.pointer (some ⟨b5,0,none⟩))),(22,(.bool t_9))]∧St [] w0 w m [[⟨b5,[(iV 0),(iV 0),nilS.v],36⟩],[⟨b4,[(iV p_r.Area),(iV p_r.House),s2.v],36⟩]]) ?_ ?_
 ·refine q_region (q_x (v:=s1.v) hF hS (ex_move rfl) rfl rfl fun a hF=>?_)
  obtain ⟨t_6,ht_6,hj1⟩:=bindS hj1
  refine q_call (vs:=[s1.v]) hF hS Try.func49 (by kernel_rfl) rfl rfl rfl (c_spec_sGood p_s t_6 ht_6 _ m hS.vis s1 h1) ?_
  rintro a w _ rfl hF hS
  refine q_x (v:=(.bool (!t_6))) hF hS (ex_not rfl) rfl rfl fun a hF=>q_x (v:=(.bool (!t_6))) hF hS (ex_move rfl) rfl rfl fun a hF=>?_
  rcases bcase (!t_6) with hc2 | hc2
  ·have hj1:=cond_f hc2 hj1
   refine q_xg (v:=s1.v) hF hS (ex_move rfl) (wanted_t hF rfl rfl rfl hc2) rfl fun a hF=>q_xg (v:=(.agg #[(iV p_r.Area),(iV p_r.House),s2.v])) hF hS (ex_loadA (vs:=[(iV p_r.Area),(iV p_r.House),s2.v]) 1 0 Try.underlying36 rfl sz36 rfl rfl rfl rfl) (wanted_t hF rfl rfl rfl hc2) rfl fun a hF=>?_
   obtain ⟨t_7,ht_7,hj1⟩:=bindS hj1
   refine q_callg (vs:=[s1.v,(.agg #[(iV p_r.Area),(iV p_r.House),s2.v])]) hF hS (wanted_t hF rfl rfl rfl hc2) Try.func50 (by kernel_rfl) rfl rfl rfl (c_spec_rGood p_s p_r t_7 ht_7 _ m hS.vis s1 h1 s2 h2) ?_
   rintro a w _ rfl hF hS
   refine q_xg (v:=(.bool (!t_7))) hF hS (ex_not rfl) (wanted_t hF rfl rfl rfl hc2) rfl fun a hF=>q_x (v:=(.bool (!t_7))) hF hS (ex_pick_f rfl rfl hc2) rfl rfl fun a hF=>q_x (v:=(.bool (!t_7))) hF hS (ex_move rfl) rfl rfl fun a hF=>?_
   rcases bcase (!t_7) with hc3 | hc3
   ·have hj1:=cond_f hc3 hj1
    refine q_xg (v:=s1.v) hF hS (ex_move rfl) (wanted_t hF rfl rfl rfl hc3) rfl fun a hF=>q_xg (v:=s3.v) hF hS (ex_move rfl) (wanted_t hF rfl rfl rfl hc3) rfl fun a hF=>?_
    obtain ⟨t_8,ht_8,hj1⟩:=bindS hj1
    refine q_callg (vs:=[s1.v,s3.v]) hF hS (wanted_t hF rfl rfl rfl hc3) Try.func51 (by kernel_rfl) rfl rfl rfl (c_spec_sFits p_s p_values t_8 ht_8 _ m hS.vis s1 h1 s3 h3) ?_
    rintro a w _ rfl hF hS
    refine q_xg (v:=(.bool (!t_8))) hF hS (ex_not rfl) (wanted_t hF rfl rfl rfl hc3) rfl fun a hF=>q_x (v:=(.bool (!t_8))) hF hS (ex_pick_f rfl rfl hc3) rfl rfl fun a hF=>q_end (n_jn ?_)
    obtain rfl:=someI hj1
    exact ⟨hF.sub ⟨rfl,rfl,rfl,rfl,trivial⟩,hS⟩
   ·have hj1:=cond_t hc3 hj1
    refine q_skip hF (wanted_f hF rfl rfl rfl hc3 rfl) rfl fun a hF=>q_skip hF (wanted_f hF rfl rfl rfl hc3 rfl) rfl fun a hF=>q_skip hF (wanted_f hF rfl rfl rfl hc3 rfl) rfl fun a hF=>q_skip hF (wanted_f hF rfl rfl rfl hc3 rfl) rfl fun a hF=>q_x (v:=(.bool true)) hF hS (ex_pick_t rfl rfl hc3) rfl rfl fun a hF=>q_end (n_jn ?_)
    obtain rfl:=someI hj1
    exact ⟨hF.sub ⟨rfl,rfl,rfl,rfl,trivial⟩,hS⟩
  ·have hj1:=cond_t hc2 hj1
   refine q_skip hF (wanted_f hF rfl rfl rfl hc2 rfl) rfl fun a hF=>q_skip hF (wanted_f hF rfl rfl rfl hc2 rfl) rfl fun a hF=>q_skip hF (wanted_f hF rfl rfl rfl hc2 rfl) rfl fun a hF=>q_skip hF (wanted_f hF rfl rfl rfl hc2 rfl) rfl fun a hF=>q_x (v:=(.bool true)) hF hS (ex_pick_t rfl rfl hc2) rfl rfl fun a hF=>q_x (v:=(.bool true)) hF hS (ex_move rfl) rfl rfl fun a hF=>q_skip hF (wanted_f hF rfl rfl rfl rfl rfl) rfl fun a hF=>q_skip hF (wanted_f hF rfl rfl rfl rfl rfl) rfl fun a hF=>q_skip hF (wanted_f hF rfl rfl rfl rfl rfl) rfl fun a hF=>q_skip hF (wanted_f hF rfl rfl rfl rfl rfl) rfl fun a hF=>q_x (v:=(.bool true)) hF hS (ex_pick_t rfl rfl rfl) rfl rfl fun a hF=>q_end (n_jn ?_)
   obtain rfl:=someI hj1
   exact ⟨hF.sub ⟨rfl,rfl,rfl,rfl,trivial⟩,hS⟩
 ·rintro a w ⟨hF,hS⟩
  refine n_sq ?_
  rcases bcase (t_9) with hc4 | hc4
  ·have hr:=cond_f hc4 hr
   refine q_cond_f hF rfl hc4 (q_skipc (n_sq (q_seq (e_region ⟨[7],[b4]⟩ mixed fun w' hw'=>?_))))
   have hS:=hS.below hw'
   refine e_p (v:=(.pointer (some ⟨b4,0,none⟩))) 0 hF rfl (ex_fieldAddr Try.underlying36 rfl sz3 rfl rfl) rfl rfl (by kernel_rfl) (by kernel_rfl) (by kernel_rfl) fun a hF=>e_xb (v:=(iV p_r.Area)) 1 1 hF hS (.head _) rfl rfl (ex_load1 0 0 Try.underlying3 rfl rfl rfl rfl) rfl rfl (by kernel_rfl) (by kernel_rfl) (by kernel_rfl) fun a hF=>e_p (v:=(.pointer (some ⟨b4,1,none⟩))) 2 hF rfl (ex_fieldAddr Try.underlying36 rfl sz3 rfl rfl) rfl rfl (by kernel_rfl) (by kernel_rfl) (by kernel_rfl) fun a hF=>e_xb (v:=(iV p_r.House)) 3 1 hF hS (.head _) rfl rfl (ex_load1 0 0 Try.underlying3 rfl rfl rfl rfl) rfl rfl (by kernel_rfl) (by kernel_rfl) (by kernel_rfl) fun a hF=>e_p (v:=s3.v) 4 hF rfl (ex_move rfl) rfl rfl (by kernel_rfl) (by kernel_rfl) (by kernel_rfl) fun a hF=>e_one 5 (by kernel_rfl) ?_
   obtain ⟨t_10,ht_10,hr⟩:=bindS hr
   refine e_call (vs:=[s3.v]) hF hS rfl Try.func52 (by kernel_rfl) rfl rfl rfl (c_spec_l1Own p_values t_10 ht_10 _ m hS.vis s3 h3) ?_
   rintro a w _ ⟨q12,s12,rfl,hR11,h12⟩ hF hS2
   have hS : St _ _ _ _ [q12,[⟨b5,[(iV 0),(iV 0),nilS.v],36⟩],[⟨b4,[(iV p_r.Area),(iV p_r.House),s2.v],36⟩]]:=hS.joinF hR11
   refine e_p (v:=(.agg #[(iV p_r.Area),(iV p_r.House),s12.v])) 6 hF rfl (ex_build (cells:=[(iV p_r.Area),(iV p_r.House),s12.v]) rfl (by kernel_rfl)) rfl rfl (by kernel_rfl) (by kernel_rfl) (by kernel_rfl) fun a hF=>e_one 7 (by kernel_rfl) ?_
   have hSo:=hS
   refine e_store (vs:=[(iV p_r.Area),(iV p_r.House),s12.v]) (cs':=[(iV p_r.Area),(iV p_r.House),s12.v]) 1 0 hF hS rfl rfl sz36 rfl rfl rfl rfl rfl rfl rfl rfl fun a w hF hS=>⟨kpC hSo hS 2 2 rfl rfl kpN,?_⟩
   refine e_p (v:=(.bool true)) 8 hF rfl (ex_assign rfl) rfl rfl (by kernel_rfl) (by kernel_rfl) (by kernel_rfl) fun a hF=>e_end (by kernel_rfl) (n_sq (q_ret ?_)) _
   obtain rfl:=someI hr
   exact ret_of hF hS rfl (.cellA (us:=[(iV p_r.Area),(iV p_r.House),s12.v]) 1 0 Try.underlying36 rfl sz36 rfl rfl rfl rfl (.tmp rfl .nil)) ⟨q12,s12,rfl,hS.sel [0] (by decide),h12⟩
  ·have hr:=cond_t hc4 hr
   refine q_cond_t hF rfl hc4 (q_seq (q_region (q_x (v:=(.agg #[(iV 0),(iV 0),nilS.v])) hF hS (ex_build (cells:=[(iV 0),(iV 0),nilS.v]) rfl (by kernel_rfl)) rfl rfl fun a hF=>q_store (vs:=[(iV 0),(iV 0),nilS.v]) (cs':=[(iV 0),(iV 0),nilS.v]) 0 0 hF hS sz36 rfl rfl rfl rfl rfl rfl rfl rfl fun a w hF hS=>q_x (v:=(.bool false)) hF hS (ex_assign rfl) rfl rfl fun a hF=>q_end (n_sq (q_ret (r_sq ?_))))))
   obtain rfl:=someI hr
   exact ret_of hF hS rfl (.cellA (us:=[(iV 0),(iV 0),nilS.v]) 0 0 Try.underlying36 rfl sz36 rfl rfl rfl rfl (.tmp rfl .nil)) ⟨[],nilS,rfl,hS.sel [2] (by decide),(OwnL.nil (α:=Int) m 3)⟩

theorem c_laws_qInts (p_a : List Int) (p_b : List Int) (r : Bool) (hr : laws_qInts p_a p_b = some r) (w0 : World) (m : Mem) (hv : Vis m w0) (s1 : Sl) (h1 : Rd m s1 p_a) (s2 : Sl) (h2 : Rd m s2 p_b) :
  Ret Try.prog 53 [s1.v,s2.v] w0 (fun v _=>v = (.bool r)):=by
 unfold laws_qInts at hr
 refine ret_start Try.func53 rfl 26 rfl rfl m hv fun a hF hS=>q_seq (q_region (q_x (v:=(.bool false)) hF hS (ex_assign rfl) rfl rfl fun a hF=>q_end (n_sq (q_seq (q_seq (q_region (q_x (v:=s1.v) hF hS (ex_move rfl) rfl rfl fun a hF=>q_x (v:=(iV (goLen p_a))) hF hS (ex_len Try.underlying24 rfl h1.len) rfl rfl fun a hF=>q_x (v:=s2.v) hF hS (ex_move rfl) rfl rfl fun a hF=>q_x (v:=(iV (goLen p_b))) hF hS (ex_len Try.underlying24 rfl h2.len) rfl rfl fun a hF=>q_x (v:=(.bool ((goLen p_a) != (goLen p_b)))) hF hS (ex_ibin rfl rfl rfl) rfl rfl fun a hF=>q_end (n_sq ?_))))))))
 rcases bcase ((goLen p_a) != (goLen p_b)) with hc1 | hc1
 ·have hr:=cond_f hc1 hr
  refine q_cond_f hF rfl hc1 (q_skipc (n_sq (q_seq (q_seq (q_region (q_x (v:=s1.v) hF hS (ex_move rfl) rfl rfl fun a hF=>q_x (v:=(iV (goLen p_a))) hF hS (ex_len Try.underlying24 rfl h1.len) rfl rfl fun a hF=>q_x (v:=(iV 0)) hF hS (ex_move rfl) rfl rfl fun a hF=>q_end (n_sq (q_block ?_))))))))
  obtain ⟨o2,hl2,hr⟩:=bindS hr
  refine q_loop (fun (t_3 : Int) a w=>Fr a 26 [(0,s1.v),(1,s2.v),(12,(iV (goLen p_a))),(13,(iV t_3))]∧St [] w0 w m []) (fun (o : (Unit) ⊕ (Bool)) e a w=>o = .inl ()∧e = .exit 0∧Fr a 26 []∧St [] w0 w m []) hl2 ⟨hF.sub ⟨rfl,rfl,rfl,rfl,trivial⟩,hS⟩ ?_ ?_
  ·clear hF hS
   rintro t_3 a w st ⟨hF,hS⟩ hb2
   unfold laws_qInts_l1 at hb2
   refine q_seq (q_region (q_x (v:=(.bool (decide (t_3 < (goLen p_a))))) hF hS (ex_ibin rfl rfl rfl) rfl rfl fun a hF=>q_end (n_sq (q_seq ?_))))
   rcases bcase (decide (t_3 < (goLen p_a))) with hc3 | hc3
   ·have hb2:=cond_f hc3 hb2
    refine q_cond_f hF rfl hc3 (q_exit (x_sq ?_))
    obtain rfl:=someI hb2
    exact ⟨nofun,.inl ⟨rfl,rfl,hF.sub trivial,hS⟩⟩
   ·have hb2:=cond_t hc3 hb2
    refine q_cond_t hF rfl hc3 (q_skipc (n_sq (q_seq (q_block (q_seq (q_region (q_x (v:=(iV t_3)) hF hS (ex_move rfl) rfl rfl fun a hF=>q_x (v:=(iV t_3)) hF hS (ex_assign rfl) rfl rfl fun a hF=>q_end (n_sq (q_seq (e_region ⟨[],[]⟩ mixed fun w' hw'=>?_))))))))))
    have hS:=hS.below hw'
    refine e_p (v:=s1.v) 0 hF rfl (ex_move rfl) rfl rfl (by kernel_rfl) (by kernel_rfl) (by kernel_rfl) fun a hF=>e_p (v:=(iV t_3)) 1 hF rfl (ex_move rfl) rfl rfl (by kernel_rfl) (by kernel_rfl) (by kernel_rfl) fun a hF=>?_
    obtain ⟨e_4,he_4,hb2⟩:=bindS hb2
    obtain ⟨vs5,at5,d5⟩:=h1.at he_4 1 rfl
    obtain rfl : vs5 = [(iV e_4)]:=d5
    refine e_p (v:=(elP s1 (t_3.toNat * 1))) 2 hF rfl (ex_indexAddr Try.underlying24 sz3 rfl rfl (h1.idx he_4)) rfl rfl (by kernel_rfl) (by kernel_rfl) (by kernel_rfl) fun a hF=>e_x (v:=(iV e_4)) 3 hF hS rfl (ex_loadE1 0 Try.underlying3 rfl rfl ((at5).at) rfl rfl) rfl rfl (by kernel_rfl) (by kernel_rfl) (by kernel_rfl) (by kernel_rfl) fun a hF=>e_p (v:=s2.v) 4 hF rfl (ex_move rfl) rfl rfl (by kernel_rfl) (by kernel_rfl) (by kernel_rfl) fun a hF=>e_p (v:=(iV t_3)) 5 hF rfl (ex_move rfl) rfl rfl (by kernel_rfl) (by kernel_rfl) (by kernel_rfl) fun a hF=>?_
    obtain ⟨e_6,he_6,hb2⟩:=bindS hb2
    obtain ⟨vs7,at7,d7⟩:=h2.at he_6 1 rfl
    obtain rfl : vs7 = [(iV e_6)]:=d7
    refine e_p (v:=(elP s2 (t_3.toNat * 1))) 6 hF rfl (ex_indexAddr Try.underlying24 sz3 rfl rfl (h2.idx he_6)) rfl rfl (by kernel_rfl) (by kernel_rfl) (by kernel_rfl) fun a hF=>e_x (v:=(iV e_6)) 7 hF hS rfl (ex_loadE1 0 Try.underlying3 rfl rfl ((at7).at) rfl rfl) rfl rfl (by kernel_rfl) (by kernel_rfl) (by kernel_rfl) (by kernel_rfl) fun a hF=>e_p (v:=(.bool (e_4 != e_6))) 8 hF rfl (ex_ibin rfl rfl rfl) rfl rfl (by kernel_rfl) (by kernel_rfl) (by kernel_rfl) fun a hF=>e_end (by kernel_rfl) (n_sq ?_) _
    rcases bcase (e_4 != e_6) with hc4 | hc4
    ·have hb2:=cond_f hc4 hb2
     refine q_cond_f hF rfl hc4 (q_skipc (n_ib (n_sq (q_region (q_x (v:=(iV (w64 (t_3 + 1)))) hF hS (ex_ibin rfl rfl rfl) rfl rfl fun a hF=>q_x (v:=(iV (w64 (t_3 + 1)))) hF hS (ex_move rfl) rfl rfl fun a hF=>q_end ?_)))))
     obtain rfl:=someI hb2
     exact ⟨rfl,hF.sub ⟨rfl,rfl,rfl,rfl,trivial⟩,hS⟩
    ·have hb2:=cond_t hc4 hb2
     refine q_cond_t hF rfl hc4 (q_seq (q_region (q_x (v:=(.bool false)) hF hS (ex_assign rfl) rfl rfl fun a hF=>q_end (n_sq (q_ret (r_ib (r_sq ?_)))))))
     obtain rfl:=someI hb2
     refine ⟨nofun,.inr fun ho=>?_⟩
     subst ho
     refine r_ib (r_sq ?_)
     obtain rfl:=someI hr
     exact ret_of hF hS rfl (.tmp rfl .nil) rfl
  ·rintro e a w ⟨rfl,rfl,hF,hS⟩
   refine x_ib (n_sq ?_)
   refine q_seq (q_region (q_x (v:=(.bool true)) hF hS (ex_assign rfl) rfl rfl fun a hF=>q_end (n_sq (q_ret ?_))))
   obtain rfl:=someI hr
   exact ret_of hF hS rfl (.tmp rfl .nil) rfl
 ·have hr:=cond_t hc1 hr
  refine q_cond_t hF rfl hc1 (q_seq (q_region (q_x (v:=(.bool false)) hF hS (ex_assign rfl) rfl rfl fun a hF=>q_end (n_sq (q_ret (r_sq ?_))))))
  obtain rfl:=someI hr
  exact ret_of hF hS rfl (.tmp rfl .nil) rfl

theorem c_laws_qRecord (p_a : impl_Record) (p_b : impl_Record) (r : Bool) (hr : laws_qRecord p_a p_b = some r) (w0 : World) (m : Mem) (hv : Vis m w0) (s1 : Sl) (h1 : Rd m s1 p_a.Values) (s2 : Sl) (h2 : Rd m s2 p_b.Values) :
  Ret Try.prog 15 [(.agg #[(iV p_a.Area),(iV p_a.House),s1.v]),(.agg #[(iV p_b.Area),(iV p_b.House),s2.v])] w0 (fun v _=>v = (.bool r)):=by
 unfold laws_qRecord at hr
 refine ret_start Try.func15 rfl 24 rfl rfl m hv fun a hF hS=>q_seq (q_region (q_box (cs:=[(iV p_a.Area),(iV p_a.House),s1.v]) hF hS rfl rfl rfl fun a w b3 hF hS=>q_box (cs:=[(iV p_b.Area),(iV p_b.House),s2.v]) hF hS rfl rfl rfl fun a w b4 hF hS=>q_x (v:=(.bool false)) hF hS (ex_assign rfl) rfl rfl fun a hF=>q_end (n_sq (q_seq ?_))))
 obtain ⟨t_6,hj1,hr⟩:=bindS hr
 refine q_join (fun a w=>Fr a 24 [(4,(.bool t_6))]∧St [] w0 w m []) ?_ ?_
 ·refine q_region (q_x (v:=(.pointer (some ⟨b3,0,none⟩))) hF hS (ex_fieldAddr Try.underlying36 rfl sz3 rfl rfl) rfl rfl fun a hF=>q_x (v:=(iV p_a.Area)) hF hS (ex_load1 1 0 Try.underlying3 rfl rfl rfl rfl) rfl rfl fun a hF=>q_x (v:=(.pointer (some ⟨b4,0,none⟩))) hF hS (ex_fieldAddr Try.underlying36 rfl sz3 rfl rfl) rfl rfl fun a hF=>q_x (v:=(iV p_b.Area)) hF hS (ex_load1 0 0 Try.underlying3 rfl rfl rfl rfl) rfl rfl fun a hF=>q_x (v:=(.bool (p_a.Area == p_b.Area))) hF hS (ex_ibin rfl rfl rfl) rfl rfl fun a hF=>q_x (v:=(.bool (p_a.Area == p_b.Area))) hF hS (ex_move rfl) rfl rfl fun a hF=>?_)
  rcases bcase (p_a.Area == p_b.Area) with hc2 | hc2
  ·have hj1:=cond_f hc2 hj1
   refine q_skip hF (wanted_f hF rfl rfl rfl hc2 rfl) rfl fun a hF=>q_skip hF (wanted_f hF rfl rfl rfl hc2 rfl) rfl fun a hF=>q_skip hF (wanted_f hF rfl rfl rfl hc2 rfl) rfl fun a hF=>q_skip hF (wanted_f hF rfl rfl rfl hc2 rfl) rfl fun a hF=>q_skip hF (wanted_f hF rfl rfl rfl hc2 rfl) rfl fun a hF=>q_x (v:=(.bool false)) hF hS (ex_pick_f rfl rfl hc2) rfl rfl fun a hF=>q_x (v:=(.bool false)) hF hS (ex_move rfl) rfl rfl fun a hF=>q_skip hF (wanted_f hF rfl rfl rfl rfl rfl) rfl fun a hF=>q_skip hF (wanted_f hF rfl rfl rfl rfl rfl) rfl fun a hF=>q_skip hF (wanted_f hF rfl rfl rfl rfl rfl) rfl fun a hF=>q_skip hF (wanted_f hF rfl rfl rfl rfl rfl) rfl fun a hF=>q_skip hF (wanted_f hF rfl rfl rfl rfl rfl) rfl fun a hF=>q_x (v:=(.bool false)) hF hS (ex_pick_f rfl rfl rfl) rfl rfl fun a hF=>q_x (v:=(.bool false)) hF hS (ex_assign rfl) rfl rfl fun a hF=>q_end (n_jn ?_)
   obtain rfl:=someI hj1
   exact ⟨hF.sub ⟨rfl,trivial⟩,hS.mask [false,false]⟩
  ·have hj1:=cond_t hc2 hj1
   refine q_xg (v:=(.pointer (some ⟨b3,1,none⟩))) hF hS (ex_fieldAddr Try.underlying36 rfl sz3 rfl rfl) (wanted_t hF rfl rfl rfl hc2) rfl fun a hF=>q_xg (v:=(iV p_a.House)) hF hS (ex_load1 1 0 Try.underlying3 rfl rfl rfl rfl) (wanted_t hF rfl rfl rfl hc2) rfl fun a hF=>q_xg (v:=(.pointer (some ⟨b4,1,none⟩))) hF hS (ex_fieldAddr Try.underlying36 rfl sz3 rfl rfl) (wanted_t hF rfl rfl rfl hc2) rfl fun a hF=>q_xg (v:=(iV p_b.House)) hF hS (ex_load1 0 0 Try.underlying3 rfl rfl rfl rfl) (wanted_t hF rfl rfl rfl hc2) rfl fun a hF=>q_xg (v:=(.bool (p_a.House == p_b.House))) hF hS (ex_ibin rfl rfl rfl) (wanted_t hF rfl rfl rfl hc2) rfl fun a hF=>q_x (v:=(.bool (p_a.House == p_b.House))) hF hS (ex_pick_t rfl rfl hc2) rfl rfl fun a hF=>q_x (v:=(.bool (p_a.House == p_b.House))) hF hS (ex_move rfl) rfl rfl fun a hF=>?_
   rcases bcase (p_a.House == p_b.House) with hc3 | hc3
   ·have hj1:=cond_f hc3 hj1
    refine q_skip hF (wanted_f hF rfl rfl rfl hc3 rfl) rfl fun a hF=>q_skip hF (wanted_f hF rfl rfl rfl hc3 rfl) rfl fun a hF=>q_skip hF (wanted_f hF rfl rfl rfl hc3 rfl) rfl fun a hF=>q_skip hF (wanted_f hF rfl rfl rfl hc3 rfl) rfl fun a hF=>q_skip hF (wanted_f hF rfl rfl rfl hc3 rfl) rfl fun a hF=>q_x (v:=(.bool false)) hF hS (ex_pick_f rfl rfl hc3) rfl rfl fun a hF=>q_x (v:=(.bool false)) hF hS (ex_assign rfl) rfl rfl fun a hF=>q_end (n_jn ?_)
    obtain rfl:=someI hj1
    exact ⟨hF.sub ⟨rfl,trivial⟩,hS.mask [false,false]⟩
   ·have hj1:=cond_t hc3 hj1
    refine q_xg (v:=(.pointer (some ⟨b3,2,none⟩))) hF hS (ex_fieldAddr Try.underlying36 rfl sz24 rfl rfl) (wanted_t hF rfl rfl rfl hc3) rfl fun a hF=>q_xg (v:=s1.v) hF hS (ex_load1 1 0 Try.underlying24 rfl rfl rfl rfl) (wanted_t hF rfl rfl rfl hc3) rfl fun a hF=>q_xg (v:=(.pointer (some ⟨b4,2,none⟩))) hF hS (ex_fieldAddr Try.underlying36 rfl sz24 rfl rfl) (wanted_t hF rfl rfl rfl hc3) rfl fun a hF=>q_xg (v:=s2.v) hF hS (ex_load1 0 0 Try.underlying24 rfl rfl rfl rfl) (wanted_t hF rfl rfl rfl hc3) rfl fun a hF=>?_
    obtain ⟨t_5,ht_5,hj1⟩:=bindS hj1
    refine q_callg (vs:=[s1.v,s2.v]) hF hS (wanted_t hF rfl rfl rfl hc3) Try.func53 (by kernel_rfl) rfl rfl rfl (c_laws_qInts p_a.Values p_b.Values t_5 ht_5 _ m hS.vis s1 h1 s2 h2) ?_
    rintro a w _ rfl hF hS
    refine q_x (v:=(.bool t_5)) hF hS (ex_pick_t rfl rfl hc3) rfl rfl fun a hF=>q_x (v:=(.bool t_5)) hF hS (ex_assign rfl) rfl rfl fun a hF=>q_end (n_jn ?_)
    obtain rfl:=someI hj1
    exact ⟨hF.sub ⟨rfl,trivial⟩,hS.mask [false,false]⟩
 ·rintro a w ⟨hF,hS⟩
  refine n_sq (q_ret ?_)
  obtain rfl:=someI hr
  exact ret_of hF hS rfl (.tmp rfl .nil) rfl

theorem c_laws_qData (p_a : List impl_Record) (p_b : List impl_Record) (r : Bool) (hr : laws_qData p_a p_b = some r) (w0 : World) (m : Mem) (hv : Vis m w0) (s1 : Sl) (h1 : Rd m s1 p_a) (s2 : Sl) (h2 : Rd m s2 p_b) :
  Ret Try.prog 14 [s1.v,s2.v] w0 (fun v _=>v = (.bool r)):=by
 unfold laws_qData at hr
 refine ret_start Try.func14 rfl 27 rfl rfl m hv fun a hF hS=>q_seq (q_region (q_x (v:=(.bool false)) hF hS (ex_assign rfl) rfl rfl fun a hF=>q_end (n_sq (q_seq (q_seq (q_region (q_x (v:=s1.v) hF hS (ex_move rfl) rfl rfl fun a hF=>q_x (v:=(iV (goLen p_a))) hF hS (ex_len Try.underlying27 rfl h1.len) rfl rfl fun a hF=>q_x (v:=s2.v) hF hS (ex_move rfl) rfl rfl fun a hF=>q_x (v:=(iV (goLen p_b))) hF hS (ex_len Try.underlying27 rfl h2.len) rfl rfl fun a hF=>q_x (v:=(.bool ((goLen p_a) != (goLen p_b)))) hF hS (ex_ibin rfl rfl rfl) rfl rfl fun a hF=>q_end (n_sq ?_))))))))
 rcases bcase ((goLen p_a) != (goLen p_b)) with hc1 | hc1
 ·have hr:=cond_f hc1 hr
  refine q_cond_f hF rfl hc1 (q_skipc (n_sq (q_seq (q_seq (q_region (q_x (v:=s1.v) hF hS (ex_move rfl) rfl rfl fun a hF=>q_x (v:=(iV (goLen p_a))) hF hS (ex_len Try.underlying27 rfl h1.len) rfl rfl fun a hF=>q_x (v:=(iV 0)) hF hS (ex_move rfl) rfl rfl fun a hF=>q_end (n_sq (q_block ?_))))))))
  obtain ⟨o2,hl2,hr⟩:=bindS hr
  refine q_loop (fun (t_3 : Int) a w=>Fr a 27 [(0,s1.v),(1,s2.v),(12,(iV (goLen p_a))),(13,(iV t_3))]∧St [] w0 w m []) (fun (o : (Unit) ⊕ (Bool)) e a w=>o = .inl ()∧e = .exit 0∧Fr a 27 []∧St [] w0 w m []) hl2 ⟨hF.sub ⟨rfl,rfl,rfl,rfl,trivial⟩,hS⟩ ?_ ?_
  ·clear hF hS
   rintro t_3 a w st ⟨hF,hS⟩ hb2
   unfold laws_qData_l1 at hb2
   refine q_seq (q_region (q_x (v:=(.bool (decide (t_3 < (goLen p_a))))) hF hS (ex_ibin rfl rfl rfl) rfl rfl fun a hF=>q_end (n_sq (q_seq ?_))))
   rcases bcase (decide (t_3 < (goLen p_a))) with hc3 | hc3
   ·have hb2:=cond_f hc3 hb2
    refine q_cond_f hF rfl hc3 (q_exit (x_sq ?_))
    obtain rfl:=someI hb2
    exact ⟨nofun,.inl ⟨rfl,rfl,hF.sub trivial,hS⟩⟩
   ·have hb2:=cond_t hc3 hb2
    refine q_cond_t hF rfl hc3 (q_skipc (n_sq (q_seq (q_block (q_seq (q_region (q_x (v:=(iV t_3)) hF hS (ex_move rfl) rfl rfl fun a hF=>q_x (v:=(iV t_3)) hF hS (ex_assign rfl) rfl rfl fun a hF=>q_end (n_sq (q_seq (e_region ⟨[],[]⟩ mixed fun w' hw'=>?_))))))))))
    have hS:=hS.below hw'
    refine e_p (v:=s1.v) 0 hF rfl (ex_move rfl) rfl rfl (by kernel_rfl) (by kernel_rfl) (by kernel_rfl) fun a hF=>e_p (v:=(iV t_3)) 1 hF rfl (ex_move rfl) rfl rfl (by kernel_rfl) (by kernel_rfl) (by kernel_rfl) fun a hF=>?_
    obtain ⟨e_4,he_4,hb2⟩:=bindS hb2
    obtain ⟨vs5,at5,d5⟩:=h1.at he_4 3 rfl
    obtain ⟨s6,rfl,h6⟩ : ∃ s6 : Sl,vs5 = [(iV e_4.Area),(iV e_4.House),s6.v]∧Rd m s6 e_4.Values:=d5
    refine e_p (v:=(elP s1 (t_3.toNat * 3))) 2 hF rfl (ex_indexAddr Try.underlying27 sz36 rfl rfl (h1.idx he_4)) rfl rfl (by kernel_rfl) (by kernel_rfl) (by kernel_rfl) fun a hF=>e_x (v:=(.agg #[(iV e_4.Area),(iV e_4.House),s6.v])) 3 hF hS rfl (ex_loadEA (us:=[(iV e_4.Area),(iV e_4.House),s6.v]) 0 Try.underlying36 rfl sz36 rfl ((at5).at) rfl rfl rfl) rfl rfl (by kernel_rfl) (by kernel_rfl) (by kernel_rfl) (by kernel_rfl) fun a hF=>e_p (v:=s2.v) 4 hF rfl (ex_move rfl) rfl rfl (by kernel_rfl) (by kernel_rfl) (by kernel_rfl) fun a hF=>e_p (v:=(iV t_3)) 5 hF rfl (ex_move rfl) rfl rfl (by kernel_rfl) (by kernel_rfl) (by kernel_rfl) fun a hF=>?_
    obtain ⟨e_7,he_7,hb2⟩:=bindS hb2
    obtain ⟨vs8,at8,d8⟩:=h2.at he_7 3 rfl
    obtain ⟨s9,rfl,h9⟩ : ∃ s9 : Sl,vs8 = [(iV e_7.Area),(iV e_7.House),s9.v]∧Rd m s9 e_7.Values:=d8
    refine e_p (v:=(elP s2 (t_3.toNat * 3))) 6 hF rfl (ex_indexAddr Try.underlying27 sz36 rfl rfl (h2.idx he_7)) rfl rfl (by kernel_rfl) (by kernel_rfl) (by kernel_rfl) fun a hF=>e_x (v:=(.agg #[(iV e_7.Area),(iV e_7.House),s9.v])) 7 hF hS rfl (ex_loadEA (us:=[(iV e_7.Area),(iV e_7.House),s9.v]) 0 Try.underlying36 rfl sz36 rfl ((at8).at) rfl rfl rfl) rfl rfl (by kernel_rfl) (by kernel_rfl) (by kernel_rfl) (by kernel_rfl) fun a hF=>e_one 8 (by kernel_rfl) ?_
    obtain ⟨t_10,ht_10,hb2⟩:=bindS hb2
    refine e_call (vs:=[(.agg #[(iV e_4.Area),(iV e_4.House),s6.v]),(.agg #[(iV e_7.Area),(iV e_7.House),s9.v])]) hF hS rfl Try.func15 (by kernel_rfl) rfl rfl rfl (c_laws_qRecord e_4 e_7 t_10 ht_10 _ m hS.vis s6 h6 s9 h9) ?_
    rintro a w _ rfl hF hS
    refine e_p (v:=(.bool (!t_10))) 9 hF rfl (ex_not rfl) rfl rfl (by kernel_rfl) (by kernel_rfl) (by kernel_rfl) fun a hF=>e_end (by kernel_rfl) (n_sq ?_) _
    rcases bcase (!t_10) with hc4 | hc4
    ·have hb2:=cond_f hc4 hb2
     refine q_cond_f hF rfl hc4 (q_skipc (n_ib (n_sq (q_region (q_x (v:=(iV (w64 (t_3 + 1)))) hF hS (ex_ibin rfl rfl rfl) rfl rfl fun a hF=>q_x (v:=(iV (w64 (t_3 + 1)))) hF hS (ex_move rfl) rfl rfl fun a hF=>q_end ?_)))))
     obtain rfl:=someI hb2
     exact ⟨rfl,hF.sub ⟨rfl,rfl,rfl,rfl,trivial⟩,hS⟩
    ·have hb2:=cond_t hc4 hb2
     refine q_cond_t hF rfl hc4 (q_seq (q_region (q_x (v:=(.bool false)) hF hS (ex_assign rfl) rfl rfl fun a hF=>q_end (n_sq (q_ret (r_ib (r_sq ?_)))))))
     obtain rfl:=someI hb2
     refine ⟨nofun,.inr fun ho=>?_⟩
     subst ho
     refine r_ib (r_sq ?_)
     obtain rfl:=someI hr
     exact ret_of hF hS rfl (.tmp rfl .nil) rfl
  ·rintro e a w ⟨rfl,rfl,hF,hS⟩
   refine x_ib (n_sq ?_)
   refine q_seq (q_region (q_x (v:=(.bool true)) hF hS (ex_assign rfl) rfl rfl fun a hF=>q_end (n_sq (q_ret ?_))))
   obtain rfl:=someI hr
   exact ret_of hF hS rfl (.tmp rfl .nil) rfl
 ·have hr:=cond_t hc1 hr
  refine q_cond_t hF rfl hc1 (q_seq (q_region (q_x (v:=(.bool false)) hF hS (ex_assign rfl) rfl rfl fun a hF=>q_end (n_sq (q_ret (r_sq ?_))))))
  obtain rfl:=someI hr
  exact ret_of hF hS rfl (.tmp rfl .nil) rfl

theorem c_slices_Clone_impl_Variable_impl_Variable (p_s : List impl_Variable) (r : (List impl_Variable)) (hr : slices_Clone_impl_Variable_impl_Variable p_s = some r) (w0 : World) (m : Mem) (hv : Vis m w0) (s1 : Sl) (h1 : Rd m s1 p_s) :
  Ret Try.prog 54 [s1.v] w0 (fun v w=>∃ (q0' : Piece) (s0' : Sl),v = s0'.v∧St [] w0 w m [q0']∧OwnL m 85 q0' s0' r):=by
 unfold slices_Clone_impl_Variable_impl_Variable at hr
 refine ret_start Try.func54 rfl 8 rfl rfl m hv fun a hF hS=>q_seq (q_region (q_x (v:=nilS.v) hF hS (ex_assign rfl) rfl rfl fun a hF=>q_end (n_sq (q_seq (q_seq (q_region (q_x (v:=s1.v) hF hS (ex_move rfl) rfl rfl fun a hF=>q_x (v:=(.bool s1.p.isNone)) hF hS (ex_eqNil Try.underlying23 rfl rfl) rfl rfl fun a hF=>q_end (n_sq ?_))))))))
 rcases bcase (s1.p.isNone) with hc1 | hc1
 ·refine q_cond_f hF rfl hc1 (q_skipc (n_sq (q_seq (q_region (q_do rfl fun _ hK=>wp_build0 (α:=impl_Variable) hF hS Try.underlying23 inf85 rfl fun a w q2 s2 hF hS h2 _=>hK _ _ (q_x (v:=s1.v) hF hS (ex_move rfl) rfl rfl fun a hF=>?_))))))
  obtain ⟨l_3,hl_3,hr⟩:=bindS hr
  refine q_do rfl fun _ hK=>wp_append hF hS h2 Try.underlying23 inf85 rfl rfl rfl rfl (h1.vw hS.vis) rfl (by decide) hl_3 rfl fun a w q4 s4 hF hS h4=>hK _ _ (q_x (v:=s4.v) hF hS (ex_assign rfl) rfl rfl fun a hF=>q_end (n_sq (q_ret ?_)))
  obtain rfl:=someI hr
  exact ret_of hF hS rfl (.tmp rfl .nil) ⟨q4,s4,rfl,hS.sel [0] (by decide),h4⟩
 ·have hnhc1:=h1.nilE hc1
  have hr : (some ([] : List impl_Variable)) = some r:=by rw [hnhc1] at hr; exact hr
  refine q_cond_t hF rfl hc1 (q_seq (q_region (q_x (v:=nilS.v) hF hS (ex_assign rfl) rfl rfl fun a hF=>q_end (n_sq (q_ret (r_sq ?_))))))
  obtain rfl:=someI hr
  exact ret_of hF hS rfl (.tmp rfl .nil) ⟨[],nilS,rfl,hS.sel [0] (by decide),(OwnL.nil (α:=impl_Variable) m 85)⟩

theorem c_impl_GroupSchema (p_s : List impl_Variable) (p_g : impl_Grouping) (r : (List impl_Variable) × Bool) (hr : impl_GroupSchema p_s p_g = some r) (w0 : World) (m : Mem) (hv : Vis m w0) (s1 : Sl) (h1 : Rd m s1 p_s) (s2 : Sl) (h2 : Rd m s2 p_g.Groups) :
  Ret Try.prog 16 [s1.v,(.agg #[(iV p_g.Var),s2.v])] w0 (fun v w=>∃ (q0' : Piece) (s0' : Sl),v = (.tuple #[s0'.v,(.bool r.2)])∧St [] w0 w m [q0']∧OwnL m 85 q0' s0' r.1):=by
 unfold impl_GroupSchema at hr
 refine ret_start Try.func16 rfl 27 rfl rfl m hv fun a hF hS=>q_seq (q_region (q_box (cs:=[(iV p_g.Var),s2.v]) hF hS rfl rfl rfl fun a w b3 hF hS=>q_x (v:=nilS.v) hF hS (ex_assign rfl) rfl rfl fun a hF=>q_x (v:=(.bool false)) hF hS (ex_assign rfl) rfl rfl fun a hF=>q_end (n_sq (q_seq (q_seq ?_)))))
 obtain ⟨t_6,hj1,hr⟩:=bindS hr
 refine q_join (fun a w=>Fr a 27 [(0,s1.v),(3,(.pointer (some ⟨b3,0,none⟩))),(15,(.bool t_6))]∧St [] w0 w m [[⟨b3,[(iV p_g.Var),s2.v],26⟩]]) ?_ ?_
 ·refine q_region (q_x (v:=s1.v) hF hS (ex_move rfl) rfl rfl fun a hF=>?_)
  obtain ⟨t_4,ht_4,hj1⟩:=bindS hj1
  refine q_call (vs:=[s1.v]) hF hS Try.func33 (by kernel_rfl) rfl rfl rfl (c_impl_IsSchema p_s t_4 ht_4 _ m hS.vis s1 h1) ?_
  rintro a w _ rfl hF hS
  refine q_x (v:=(.bool (!t_4))) hF hS (ex_not rfl) rfl rfl fun a hF=>q_x (v:=(.bool (!t_4))) hF hS (ex_move rfl) rfl rfl fun a hF=>?_
  rcases bcase (!t_4) with hc2 | hc2
  ·have hj1:=cond_f hc2 hj1
   refine q_xg (v:=s1.v) hF hS (ex_move rfl) (wanted_t hF rfl rfl rfl hc2) rfl fun a hF=>q_xg (v:=(.agg #[(iV p_g.Var),s2.v])) hF hS (ex_loadA (vs:=[(iV p_g.Var),s2.v]) 0 0 Try.underlying26 rfl sz26 rfl rfl rfl rfl) (wanted_t hF rfl rfl rfl hc2) rfl fun a hF=>?_
   obtain ⟨t_5,ht_5,hj1⟩:=bindS hj1
   refine q_callg (vs:=[s1.v,(.agg #[(iV p_g.Var),s2.v])]) hF hS (wanted_t hF rfl rfl rfl hc2) Try.func34 (by kernel_rfl) rfl rfl rfl (c_impl_groupCount p_s p_g t_5 ht_5 _ m hS.vis s1 h1 s2 h2) ?_
   rintro a w _ rfl hF hS
   refine q_xg (v:=(.bool (t_5 == 0))) hF hS (ex_ibin rfl rfl rfl) (wanted_t hF rfl rfl rfl hc2) rfl fun a hF=>q_x (v:=(.bool (t_5 == 0))) hF hS (ex_pick_f rfl rfl hc2) rfl rfl fun a hF=>q_end (n_jn ?_)
   obtain rfl:=someI hj1
   exact ⟨hF.sub ⟨rfl,rfl,rfl,trivial⟩,hS⟩
  ·have hj1:=cond_t hc2 hj1
   refine q_skip hF (wanted_f hF rfl rfl rfl hc2 rfl) rfl fun a hF=>q_skip hF (wanted_f hF rfl rfl rfl hc2 rfl) rfl fun a hF=>q_skip hF (wanted_f hF rfl rfl rfl hc2 rfl) rfl fun a hF=>q_skip hF (wanted_f hF rfl rfl rfl hc2 rfl) rfl fun a hF=>q_x (v:=(.bool true)) hF hS (ex_pick_t rfl rfl hc2) rfl rfl fun a hF=>q_end (n_jn ?_)
   obtain rfl:=someI hj1
   exact ⟨hF.sub ⟨rfl,rfl,rfl,trivial⟩,hS⟩
 ·rintro a w ⟨hF,hS⟩
  refine n_sq ?_
  rcases bcase (t_6) with hc3 | hc3
  ·have hr:=cond_f hc3 hr
   refine q_cond_f hF rfl hc3 (q_skipc (n_sq (q_seq (q_region (q_x (v:=s1.v) hF hS (ex_move rfl) rfl rfl fun a hF=>?_)))))
   obtain ⟨t_7,ht_7,hr⟩:=bindS hr
   refine q_call (vs:=[s1.v]) hF hS Try.func54 (by kernel_rfl) rfl rfl rfl (c_slices_Clone_impl_Variable_impl_Variable p_s t_7 ht_7 _ m hS.vis s1 h1) ?_
   rintro a w _ ⟨q9,s9,rfl,hR8,h9⟩ hF hS2
   have hS : St _ _ _ _ [q9,[⟨b3,[(iV p_g.Var),s2.v],26⟩]]:=hS.joinF hR8
   refine q_x (v:=s9.v) hF hS (ex_assign rfl) rfl rfl fun a hF=>q_end (n_sq (q_seq (e_region ⟨[8],[b3]⟩ mixed fun w' hw'=>?_)))
   have hS:=hS.below hw'
   refine e_p (v:=s9.v) 0 hF rfl (ex_move rfl) rfl rfl (by kernel_rfl) (by kernel_rfl) (by kernel_rfl) fun a hF=>e_p (v:=(.pointer (some ⟨b3,0,none⟩))) 1 hF rfl (ex_fieldAddr Try.underlying26 rfl sz3 rfl rfl) rfl rfl (by kernel_rfl) (by kernel_rfl) (by kernel_rfl) fun a hF=>e_xb (v:=(iV p_g.Var)) 2 1 hF hS (.head _) rfl rfl (ex_load1 0 0 Try.underlying3 rfl rfl rfl rfl) rfl rfl (by kernel_rfl) (by kernel_rfl) (by kernel_rfl) fun a hF=>e_p (v:=s1.v) 3 hF rfl (ex_move rfl) rfl rfl (by kernel_rfl) (by kernel_rfl) (by kernel_rfl) fun a hF=>e_xb (v:=(.agg #[(iV p_g.Var),s2.v])) 4 1 hF hS (.head _) rfl rfl (ex_loadA (vs:=[(iV p_g.Var),s2.v]) 0 0 Try.underlying26 rfl sz26 rfl rfl rfl rfl) rfl rfl (by kernel_rfl) (by kernel_rfl) (by kernel_rfl) fun a hF=>e_one 5 (by kernel_rfl) ?_
   obtain ⟨t_10,ht_10,hr⟩:=bindS hr
   refine e_call (vs:=[s1.v,(.agg #[(iV p_g.Var),s2.v])]) hF hS rfl Try.func34 (by kernel_rfl) rfl rfl rfl (c_impl_groupCount p_s p_g t_10 ht_10 _ m hS.vis s1 h1 s2 h2) ?_
   rintro a w _ rfl hF hS
   obtain ⟨e_11,he_11,hr⟩:=bindS hr
   obtain ⟨vs12,at12,d12⟩:=h9.at he_11 2 rfl
   obtain rfl : vs12 = [(strV e_11.Name),(iV e_11.Levels)]:=d12
   refine e_p (v:=(elP s9 (p_g.Var.toNat * 2))) 6 hF rfl (ex_indexAddr Try.underlying23 sz85 rfl rfl (h9.idx he_11)) rfl rfl (by kernel_rfl) (by kernel_rfl) (by kernel_rfl) fun a hF=>e_p (v:=(elP s9 (p_g.Var.toNat * 2 + 1))) 7 hF rfl (ex_fieldAddrE Try.underlying85 rfl sz3 rfl (h9.idx he_11) rfl) rfl rfl (by kernel_rfl) (by kernel_rfl) (by kernel_rfl) fun a hF=>e_one 8 (by kernel_rfl) ?_
   have hSo:=hS
   refine e_opl rfl rfl rfl fun _ hK=>wp_storeE (e':=(impl_Variable.mk e_11.Name t_10)) (us:=[(iV t_10)]) (vs:=[(strV e_11.Name),(iV e_11.Levels)]) 1 hF hS h9 sz3 rfl rfl rfl rfl rfl rfl rfl he_11 at12 rfl rfl rfl fun w q13 hS h13=>hK _ _ (⟨kpC hSo hS 1 1 rfl rfl kpN,?_⟩)
   refine e_end (by kernel_rfl) (n_sq ?_) _
   refine q_seq (q_region (q_x (v:=s9.v) hF hS (ex_move rfl) rfl rfl fun a hF=>q_x (v:=s9.v) hF hS (ex_assign rfl) rfl rfl fun a hF=>q_x (v:=(.bool true)) hF hS (ex_assign rfl) rfl rfl fun a hF=>q_end (n_sq (q_ret ?_))))
   obtain rfl:=someI hr
   exact ret_of hF hS rfl (.tmp rfl (.tmp rfl .nil)) ⟨q13,s9,rfl,hS.sel [0] (by decide),h13⟩
  ·have hr:=cond_t hc3 hr
   refine q_cond_t hF rfl hc3 (q_seq (q_region (q_x (v:=nilS.v) hF hS (ex_assign rfl) rfl rfl fun a hF=>q_x (v:=(.bool false)) hF hS (ex_assign rfl) rfl rfl fun a hF=>q_end (n_sq (q_ret (r_sq ?_))))))
   obtain rfl:=someI hr
   exact ret_of hF hS rfl (.tmp rfl (.tmp rfl .nil)) ⟨[],nilS,rfl,hS.sel [1] (by decide),(OwnL.nil (α:=impl_Variable) m 85)⟩

theorem c_impl_IsData (p_s : List impl_Variable) (p_l : List impl_Record) (r : Bool × Bool) (hr : impl_IsData p_s p_l = some r) (w0 : World) (m : Mem) (hv : Vis m w0) (s1 : Sl) (h1 : Rd m s1 p_s) (s2 : Sl) (h2 : Rd m s2 p_l) :
  Ret Try.prog 17 [s1.v,s2.v] w0 (fun v _=>v = (.tuple #[(.bool r.1),(.bool r.2)])):=by
 unfold impl_IsData at hr
 refine ret_start Try.func17 rfl 12 rfl rfl m hv fun a hF hS=>q_seq (q_region (q_x (v:=(.bool false)) hF hS (ex_assign rfl) rfl rfl fun a hF=>q_x (v:=(.bool false)) hF hS (ex_assign rfl) rfl rfl fun a hF=>q_end (n_sq (q_seq (q_seq (q_region (q_x (v:=s1.v) hF hS (ex_move rfl) rfl rfl fun a hF=>?_)))))))
 obtain ⟨t_3,ht_3,hr⟩:=bindS hr
 refine q_call (vs:=[s1.v]) hF hS Try.func33 (by kernel_rfl) rfl rfl rfl (c_impl_IsSchema p_s t_3 ht_3 _ m hS.vis s1 h1) ?_
 rintro a w _ rfl hF hS
 refine q_x (v:=(.bool (!t_3))) hF hS (ex_not rfl) rfl rfl fun a hF=>q_end (n_sq ?_)
 rcases bcase (!t_3) with hc1 | hc1
 ·have hr:=cond_f hc1 hr
  refine q_cond_f hF rfl hc1 (q_skipc (n_sq (q_seq (q_region (q_x (v:=s1.v) hF hS (ex_move rfl) rfl rfl fun a hF=>q_x (v:=s2.v) hF hS (ex_move rfl) rfl rfl fun a hF=>?_)))))
  obtain ⟨t_4,ht_4,hr⟩:=bindS hr
  refine q_call (vs:=[s1.v,s2.v]) hF hS Try.func35 (by kernel_rfl) rfl rfl rfl (c_impl_isData p_s p_l t_4 ht_4 _ m hS.vis s1 h1 s2 h2) ?_
  rintro a w _ rfl hF hS
  refine q_x (v:=(.bool t_4)) hF hS (ex_assign rfl) rfl rfl fun a hF=>q_x (v:=(.bool true)) hF hS (ex_assign rfl) rfl rfl fun a hF=>q_end (n_sq (q_ret ?_))
  obtain rfl:=someI hr
  exact ret_of hF hS rfl (.tmp rfl (.tmp rfl .nil)) rfl
 ·have hr:=cond_t hc1 hr
  refine q_cond_t hF rfl hc1 (q_seq (q_region (q_x (v:=(.bool false)) hF hS (ex_assign rfl) rfl rfl fun a hF=>q_x (v:=(.bool false)) hF hS (ex_assign rfl) rfl rfl fun a hF=>q_end (n_sq (q_ret (r_sq ?_))))))
  obtain rfl:=someI hr
  exact ret_of hF hS rfl (.tmp rfl (.tmp rfl .nil)) rfl

theorem c_laws_FnGroupedData (p_code : List (K .u8)) (p_more : List (K .u8)) (r : Bool) (hr : laws_FnGroupedData p_code p_more = some r) (w0 : World) (m : Mem) (hv : Vis m w0) (s1 : Sl) (h1 : Rd m s1 p_code) (s2 : Sl) (h2 : Rd m s2 p_more) :
  Ret Try.prog 3 [s1.v,s2.v] w0 (fun v _=>v = (.bool r)):=by
 unfold laws_FnGroupedData at hr
 refine ret_start Try.func3 rfl 164 rfl rfl m hv fun a hF hS=>q_seq (q_region (q_x (v:=(.bool false)) hF hS (ex_assign rfl) rfl rfl fun a hF=>q_end (n_sq (q_seq (q_seq (q_region (q_x (v:=s1.v) hF hS (ex_move rfl) rfl rfl fun a hF=>q_x (v:=(iV (goLen p_code))) hF hS (ex_len Try.underlying22 rfl h1.len) rfl rfl fun a hF=>q_x (v:=s2.v) hF hS (ex_move rfl) rfl rfl fun a hF=>q_x (v:=(iV (goLen p_more))) hF hS (ex_len Try.underlying22 rfl h2.len) rfl rfl fun a hF=>q_x (v:=(iV (w64 ((goLen p_code) + (goLen p_more))))) hF hS (ex_ibin rfl rfl rfl) rfl rfl fun a hF=>q_x (v:=(.bool (decide (1048576 < (w64 ((goLen p_code) + (goLen p_more))))))) hF hS (ex_ibin rfl rfl rfl) rfl rfl fun a hF=>q_end (n_sq ?_))))))))
 rcases bcase (decide (1048576 < (w64 ((goLen p_code) + (goLen p_more))))) with hc1 | hc1
 ·have hr:=cond_f hc1 hr
  refine q_cond_f hF rfl hc1 (q_skipc (n_sq (q_seq (q_region (q_x (v:=s1.v) hF hS (ex_move rfl) rfl rfl fun a hF=>?_)))))
  obtain ⟨t_3,ht_3,hr⟩:=bindS hr
  refine q_call (vs:=[s1.v]) hF hS Try.func5 (by kernel_rfl) rfl rfl rfl (c_spec_DrawGroupData p_code t_3 ht_3 _ m hS.vis s1 h1) ?_
  have hT:=hS
  rintro a w _ ⟨m4,q6,q7,s5,s6,s7,rfl,hm4,hR4,h5,h6,h7⟩ hF hS2
  have hS : St _ _ _ _ [q6,q7]:=hS.join hR4 hm4
  have hm4:=MLe.weakX (O0:=[]) hT hm4
  refine q_x (v:=(.tuple #[s5.v,(.agg #[(iV t_3.2.1.Var),s6.v]),s7.v])) hF hS (ex_move rfl) rfl rfl fun a hF=>q_x (v:=s5.v) hF hS (ex_extract rfl rfl) rfl rfl fun a hF=>q_x (v:=(.agg #[(iV t_3.2.1.Var),s6.v])) hF hS (ex_extract rfl rfl) rfl rfl fun a hF=>q_x (v:=s7.v) hF hS (ex_extract rfl rfl) rfl rfl fun a hF=>q_alloc (cs:=[(iV 0),nilS.v]) hF hS rfl rfl rfl fun a w b8 hF hS=>q_x (v:=s5.v) hF hS (ex_assign rfl) rfl rfl fun a hF=>q_store (vs:=[(iV t_3.2.1.Var),s6.v]) (cs':=[(iV t_3.2.1.Var),s6.v]) 0 0 hF hS sz26 rfl rfl rfl rfl rfl rfl rfl rfl fun a w hF hS=>q_x (v:=s7.v) hF hS (ex_assign rfl) rfl rfl fun a hF=>q_end (n_sq (q_seq (q_region (q_x (v:=s5.v) hF hS (ex_move rfl) rfl rfl fun a hF=>q_x (v:=(.agg #[(iV t_3.2.1.Var),s6.v])) hF hS (ex_loadA (vs:=[(iV t_3.2.1.Var),s6.v]) 0 0 Try.underlying26 rfl sz26 rfl rfl rfl rfl) rfl rfl fun a hF=>q_x (v:=s7.v) hF hS (ex_move rfl) rfl rfl fun a hF=>?_))))
  have hS : St _ _ _ _ [q6,[⟨b8,[(iV t_3.2.1.Var),s6.v],26⟩],q7]:=hS.sel [1,0,2] (by decide)
  obtain ⟨m9,hm9,hS,hz9⟩:=hS.freeze
  have h9:=h6.froz hm9.le hz9
  have hS : St _ _ _ _ [q7,[⟨b8,[(iV t_3.2.1.Var),s6.v],26⟩]]:=hS.sel [1,0] (by decide)
  obtain ⟨m10,hm10,hS,hz10⟩:=hS.freeze
  have h10:=(h7.mono hm9.le).froz hm10.le hz10
  obtain ⟨t_11,ht_11,hr⟩:=bindS hr
  refine q_call (vs:=[s5.v,(.agg #[(iV t_3.2.1.Var),s6.v]),s7.v]) hF hS Try.func6 (by kernel_rfl) rfl rfl rfl (c_impl_GroupData t_3.1 t_3.2.1 t_3.2.2 t_11 ht_11 _ m10 hS.vis s5 ((h5.mono hm9.le).mono hm10.le) s6 (h9.mono hm10.le) s7 h10) ?_
  have hT:=hS
  rintro a w _ ⟨m12,q13,s13,rfl,hm12,hR12,h13⟩ hF hS2
  have hS : St _ _ _ _ [q13,[⟨b8,[(iV t_3.2.1.Var),s6.v],26⟩]]:=hS.join hR12 hm12
  have hm12:=MLe.weakX (O0:=[]) hT hm12
  refine q_x (v:=(.tuple #[s13.v,(.bool t_11.2)])) hF hS (ex_move rfl) rfl rfl fun a hF=>q_x (v:=s13.v) hF hS (ex_extract rfl rfl) rfl rfl fun a hF=>q_x (v:=(.bool t_11.2)) hF hS (ex_extract rfl rfl) rfl rfl fun a hF=>q_x (v:=s13.v) hF hS (ex_assign rfl) rfl rfl fun a hF=>q_x (v:=(.bool t_11.2)) hF hS (ex_assign rfl) rfl rfl fun a hF=>q_end (n_sq (q_seq (q_region (q_x (v:=s5.v) hF hS (ex_move rfl) rfl rfl fun a hF=>q_x (v:=(.agg #[(iV t_3.2.1.Var),s6.v])) hF hS (ex_loadA (vs:=[(iV t_3.2.1.Var),s6.v]) 1 0 Try.underlying26 rfl sz26 rfl rfl rfl rfl) rfl rfl fun a hF=>q_x (v:=s7.v) hF hS (ex_move rfl) rfl rfl fun a hF=>?_))))
  obtain ⟨t_14,ht_14,hr⟩:=bindS hr
  refine q_call (vs:=[s5.v,(.agg #[(iV t_3.2.1.Var),s6.v]),s7.v]) hF hS Try.func7 (by kernel_rfl) rfl rfl rfl (c_spec_GroupData t_3.1 t_3.2.1 t_3.2.2 t_14 ht_14 _ m12 hS.vis s5 (((h5.mono hm9.le).mono hm10.le).mono hm12.le) s6 ((h9.mono hm10.le).mono hm12.le) s7 (h10.mono hm12.le)) ?_
  have hT:=hS
  rintro a w _ ⟨m15,q16,s16,rfl,hm15,hR15,h16⟩ hF hS2
  have hS : St _ _ _ _ [q16,q13,[⟨b8,[(iV t_3.2.1.Var),s6.v],26⟩]]:=hS.join hR15 hm15
  have hm15:=MLe.weakX (O0:=[]) hT hm15
  refine q_x (v:=(.tuple #[s16.v,(.bool t_14.2)])) hF hS (ex_move rfl) rfl rfl fun a hF=>q_x (v:=s16.v) hF hS (ex_extract rfl rfl) rfl rfl fun a hF=>q_x (v:=(.bool t_14.2)) hF hS (ex_extract rfl rfl) rfl rfl fun a hF=>q_x (v:=s16.v) hF hS (ex_assign rfl) rfl rfl fun a hF=>q_x (v:=(.bool t_14.2)) hF hS (ex_assign rfl) rfl rfl fun a hF=>q_end (n_sq (q_seq (q_region (q_x (v:=s2.v) hF hS (ex_move rfl) rfl rfl fun a hF=>?_))))
  obtain ⟨t_17,ht_17,hr⟩:=bindS hr
  refine q_call (vs:=[s2.v]) hF hS Try.func8 (by kernel_rfl) rfl rfl rfl (c_spec_DrawRemoveRecord p_more t_17 ht_17 _ m15 hS.vis s2 (((((h2.mono hm4.le).mono hm9.le).mono hm10.le).mono hm12.le).mono hm15.le)) ?_
  have hT:=hS
  rintro a w _ ⟨m18,q20,s19,s20,rfl,hm18,hR18,h19,h20⟩ hF hS2
  have hS : St _ _ _ _ [q20,q16,q13,[⟨b8,[(iV t_3.2.1.Var),s6.v],26⟩]]:=hS.join hR18 hm18
  have hm18:=MLe.weakX (O0:=[]) hT hm18
  refine q_x (v:=(.tuple #[s19.v,s20.v,(iV t_17.2.2)])) hF hS (ex_move rfl) rfl rfl fun a hF=>q_x (v:=s19.v) hF hS (ex_extract rfl rfl) rfl rfl fun a hF=>q_x (v:=s20.v) hF hS (ex_extract rfl rfl) rfl rfl fun a hF=>q_x (v:=(iV t_17.2.2)) hF hS (ex_extract rfl rfl) rfl rfl fun a hF=>q_x (v:=s19.v) hF hS (ex_assign rfl) rfl rfl fun a hF=>q_x (v:=s20.v) hF hS (ex_assign rfl) rfl rfl fun a hF=>q_x (v:=(iV t_17.2.2)) hF hS (ex_assign rfl) rfl rfl fun a hF=>q_end (n_sq (q_seq (q_region (q_x (v:=s19.v) hF hS (ex_move rfl) rfl rfl fun a hF=>q_x (v:=s20.v) hF hS (ex_move rfl) rfl rfl fun a hF=>q_x (v:=(iV t_17.2.2)) hF hS (ex_move rfl) rfl rfl fun a hF=>?_))))
  obtain ⟨m21,hm21,hS,hz21⟩:=hS.freeze
  have h21:=h20.froz hm21.le hz21
  obtain ⟨t_22,ht_22,hr⟩:=bindS hr
  refine q_call (vs:=[s19.v,s20.v,(iV t_17.2.2)]) hF hS Try.func9 (by kernel_rfl) rfl rfl rfl (c_impl_RemoveRecord t_17.1 t_17.2.1 t_17.2.2 t_22 ht_22 _ m21 hS.vis s19 (h19.mono hm21.le) s20 h21) ?_
  have hT:=hS
  rintro a w _ ⟨m23,q24,s24,rfl,hm23,hR23,h24⟩ hF hS2
  have hS : St _ _ _ _ [q24,q16,q13,[⟨b8,[(iV t_3.2.1.Var),s6.v],26⟩]]:=hS.join hR23 hm23
  have hm23:=MLe.weakX (O0:=[]) hT hm23
  refine q_x (v:=(.tuple #[s24.v,(.bool t_22.2)])) hF hS (ex_move rfl) rfl rfl fun a hF=>q_x (v:=s24.v) hF hS (ex_extract rfl rfl) rfl rfl fun a hF=>q_x (v:=(.bool t_22.2)) hF hS (ex_extract rfl rfl) rfl rfl fun a hF=>q_x (v:=s24.v) hF hS (ex_assign rfl) rfl rfl fun a hF=>q_x (v:=(.bool t_22.2)) hF hS (ex_assign rfl) rfl rfl fun a hF=>q_end (n_sq (q_seq (q_region (q_x (v:=s19.v) hF hS (ex_move rfl) rfl rfl fun a hF=>q_x (v:=s20.v) hF hS (ex_move rfl) rfl rfl fun a hF=>q_x (v:=(iV t_17.2.2)) hF hS (ex_move rfl) rfl rfl fun a hF=>?_))))
  obtain ⟨t_25,ht_25,hr⟩:=bindS hr
  refine q_call (vs:=[s19.v,s20.v,(iV t_17.2.2)]) hF hS Try.func10 (by kernel_rfl) rfl rfl rfl (c_spec_RemoveRecord t_17.1 t_17.2.1 t_17.2.2 t_25 ht_25 _ m23 hS.vis s19 ((h19.mono hm21.le).mono hm23.le) s20 (h21.mono hm23.le)) ?_
  have hT:=hS
  rintro a w _ ⟨m26,q27,s27,rfl,hm26,hR26,h27⟩ hF hS2
  have hS : St _ _ _ _ [q27,q24,q16,q13,[⟨b8,[(iV t_3.2.1.Var),s6.v],26⟩]]:=hS.join hR26 hm26
  have hm26:=MLe.weakX (O0:=[]) hT hm26
  refine q_x (v:=(.tuple #[s27.v,(.bool t_25.2)])) hF hS (ex_move rfl) rfl rfl fun a hF=>q_x (v:=s27.v) hF hS (ex_extract rfl rfl) rfl rfl fun a hF=>q_x (v:=(.bool t_25.2)) hF hS (ex_extract rfl rfl) rfl rfl fun a hF=>q_x (v:=s27.v) hF hS (ex_assign rfl) rfl rfl fun a hF=>q_x (v:=(.bool t_25.2)) hF hS (ex_assign rfl) rfl rfl fun a hF=>q_end (n_sq (q_seq (q_region (q_x (v:=s2.v) hF hS (ex_move rfl) rfl rfl fun a hF=>?_))))
  obtain ⟨t_28,ht_28,hr⟩:=bindS hr
  refine q_call (vs:=[s2.v]) hF hS Try.func11 (by kernel_rfl) rfl rfl rfl (c_spec_DrawReplaceValues p_more t_28 ht_28 _ m26 hS.vis s2 (((((((((h2.mono hm4.le).mono hm9.le).mono hm10.le).mono hm12.le).mono hm15.le).mono hm18.le).mono hm21.le).mono hm23.le).mono hm26.le)) ?_
  rintro a w _ ⟨q30,q31,q32,s30,s31,s32,rfl,hR29,h30,h31,h32⟩ hF hS2
  have hS : St _ _ _ _ [q30,q31,q32,q27,q24,q16,q13,[⟨b8,[(iV t_3.2.1.Var),s6.v],26⟩]]:=hS.joinF hR29
  refine q_x (v:=(.tuple #[s30.v,(.agg #[(iV t_28.2.1.Area),(iV t_28.2.1.House),s31.v]),s32.v])) hF hS (ex_move rfl) rfl rfl fun a hF=>q_x (v:=s30.v) hF hS (ex_extract rfl rfl) rfl rfl fun a hF=>q_x (v:=(.agg #[(iV t_28.2.1.Area),(iV t_28.2.1.House),s31.v])) hF hS (ex_extract rfl rfl) rfl rfl fun a hF=>q_x (v:=s32.v) hF hS (ex_extract rfl rfl) rfl rfl fun a hF=>q_alloc (cs:=[(iV 0),(iV 0),nilS.v]) hF hS rfl rfl rfl fun a w b33 hF hS=>q_x (v:=s30.v) hF hS (ex_assign rfl) rfl rfl fun a hF=>q_store (vs:=[(iV t_28.2.1.Area),(iV t_28.2.1.House),s31.v]) (cs':=[(iV t_28.2.1.Area),(iV t_28.2.1.House),s31.v]) 0 0 hF hS sz36 rfl rfl rfl rfl rfl rfl rfl rfl fun a w hF hS=>q_x (v:=s32.v) hF hS (ex_assign rfl) rfl rfl fun a hF=>q_end (n_sq (q_seq (q_region (q_x (v:=s30.v) hF hS (ex_move rfl) rfl rfl fun a hF=>q_x (v:=(.agg #[(iV t_28.2.1.Area),(iV t_28.2.1.House),s31.v])) hF hS (ex_loadA (vs:=[(iV t_28.2.1.Area),(iV t_28.2.1.House),s31.v]) 0 0 Try.underlying36 rfl sz36 rfl rfl rfl rfl) rfl rfl fun a hF=>q_x (v:=s32.v) hF hS (ex_move rfl) rfl rfl fun a hF=>?_))))
  obtain ⟨m35,hl35,hv35,hz35⟩:=hS.lend
  obtain ⟨t_34,ht_34,hr⟩:=bindS hr
  refine q_call (vs:=[s30.v,(.agg #[(iV t_28.2.1.Area),(iV t_28.2.1.House),s31.v]),s32.v]) hF hS Try.func12 (by kernel_rfl) rfl rfl rfl (c_impl_ReplaceValues t_28.1 t_28.2.1 t_28.2.2 t_34 ht_34 _ m35 hv35 s30 (h30.froz hl35 (hz35 1 _ rfl)) s31 (h31.froz hl35 (hz35 2 _ rfl)) s32 (h32.froz hl35 (hz35 3 _ rfl))) ?_
  rintro a w _ ⟨q37,s37,rfl,hR36,h37⟩ hF hS2
  have hS : St _ _ _ _ [q37,[⟨b33,[(iV t_28.2.1.Area),(iV t_28.2.1.House),s31.v],36⟩],q30,q31,q32,q27,q24,q16,q13,[⟨b8,[(iV t_3.2.1.Var),s6.v],26⟩]]:=hS.joinF hR36
  have h37:=h37.any m26
  refine q_x (v:=(.tuple #[(.agg #[(iV t_34.1.Area),(iV t_34.1.House),s37.v]),(.bool t_34.2)])) hF hS (ex_move rfl) rfl rfl fun a hF=>q_x (v:=(.agg #[(iV t_34.1.Area),(iV t_34.1.House),s37.v])) hF hS (ex_extract rfl rfl) rfl rfl fun a hF=>q_x (v:=(.bool t_34.2)) hF hS (ex_extract rfl rfl) rfl rfl fun a hF=>q_alloc (cs:=[(iV 0),(iV 0),nilS.v]) hF hS rfl rfl rfl fun a w b38 hF hS=>q_store (vs:=[(iV t_34.1.Area),(iV t_34.1.House),s37.v]) (cs':=[(iV t_34.1.Area),(iV t_34.1.House),s37.v]) 0 0 hF hS sz36 rfl rfl rfl rfl rfl rfl rfl rfl fun a w hF hS=>q_x (v:=(.bool t_34.2)) hF hS (ex_assign rfl) rfl rfl fun a hF=>q_end (n_sq (q_seq (q_region (q_x (v:=s30.v) hF hS (ex_move rfl) rfl rfl fun a hF=>q_x (v:=(.agg #[(iV t_28.2.1.Area),(iV t_28.2.1.House),s31.v])) hF hS (ex_loadA (vs:=[(iV t_28.2.1.Area),(iV t_28.2.1.House),s31.v]) 2 0 Try.underlying36 rfl sz36 rfl rfl rfl rfl) rfl rfl fun a hF=>q_x (v:=s32.v) hF hS (ex_move rfl) rfl rfl fun a hF=>?_))))
  obtain ⟨m40,hl40,hv40,hz40⟩:=hS.lend
  obtain ⟨t_39,ht_39,hr⟩:=bindS hr
  refine q_call (vs:=[s30.v,(.agg #[(iV t_28.2.1.Area),(iV t_28.2.1.House),s31.v]),s32.v]) hF hS Try.func13 (by kernel_rfl) rfl rfl rfl (c_spec_ReplaceValues t_28.1 t_28.2.1 t_28.2.2 t_39 ht_39 _ m40 hv40 s30 (h30.froz hl40 (hz40 3 _ rfl)) s31 (h31.froz hl40 (hz40 4 _ rfl)) s32 (h32.froz hl40 (hz40 5 _ rfl))) ?_
  rintro a w _ ⟨q42,s42,rfl,hR41,h42⟩ hF hS2
  have hS : St _ _ _ _ [q42,[⟨b38,[(iV t_34.1.Area),(iV t_34.1.House),s37.v],36⟩],q37,[⟨b33,[(iV t_28.2.1.Area),(iV t_28.2.1.House),s31.v],36⟩],q30,q31,q32,q27,q24,q16,q13,[⟨b8,[(iV t_3.2.1.Var),s6.v],26⟩]]:=hS.joinF hR41
  have h42:=h42.any m26
  refine q_x (v:=(.tuple #[(.agg #[(iV t_39.1.Area),(iV t_39.1.House),s42.v]),(.bool t_39.2)])) hF hS (ex_move rfl) rfl rfl fun a hF=>q_x (v:=(.agg #[(iV t_39.1.Area),(iV t_39.1.House),s42.v])) hF hS (ex_extract rfl rfl) rfl rfl fun a hF=>q_x (v:=(.bool t_39.2)) hF hS (ex_extract rfl rfl) rfl rfl fun a hF=>q_alloc (cs:=[(iV 0),(iV 0),nilS.v]) hF hS rfl rfl rfl fun a w b43 hF hS=>q_store (vs:=[(iV t_39.1.Area),(iV t_39.1.House),s42.v]) (cs':=[(iV t_39.1.Area),(iV t_39.1.House),s42.v]) 0 0 hF hS sz36 rfl rfl rfl rfl rfl rfl rfl rfl fun a w hF hS=>q_x (v:=(.bool t_39.2)) hF hS (ex_assign rfl) rfl rfl fun a hF=>q_end (n_sq (q_seq (q_seq ?_)))
  obtain ⟨t_50,hj2,hr⟩:=bindS hr
  refine q_join (fun a w=>Fr a 164 [(5,s5.v),(6,(.pointer (some ⟨b8,0,none⟩))),(7,s7.v),(8,s13.v),(9,(.bool t_11.2)),(13,s20.v),(15,s24.v),(16,(.bool t_22.2)),(126,(.bool t_50))]∧St [] w0 w m26 [q13,q24,[⟨b8,[(iV t_3.2.1.Var),s6.v],26⟩]]) ?_ ?_
  ·refine q_region (q_x (v:=(.bool t_11.2)) hF hS (ex_move rfl) rfl rfl fun a hF=>q_x (v:=(.bool t_14.2)) hF hS (ex_move rfl) rfl rfl fun a hF=>q_x (v:=(.bool (t_11.2 != t_14.2))) hF hS (ex_bne Try.underlying4 rfl rfl) rfl rfl fun a hF=>q_x (v:=(.bool (t_11.2 != t_14.2))) hF hS (ex_move rfl) rfl rfl fun a hF=>?_)
   rcases bcase (t_11.2 != t_14.2) with hc3 | hc3
   ·have hj2:=cond_f hc3 hj2
    refine q_xg (v:=s13.v) hF hS (ex_move rfl) (wanted_t hF rfl rfl rfl hc3) rfl fun a hF=>q_xg (v:=s16.v) hF hS (ex_move rfl) (wanted_t hF rfl rfl rfl hc3) rfl fun a hF=>?_
    obtain ⟨m45,hl45,hv45,hz45⟩:=hS.lend
    obtain ⟨t_44,ht_44,hj2⟩:=bindS hj2
    refine q_callg (vs:=[s13.v,s16.v]) hF hS (wanted_t hF rfl rfl rfl hc3) Try.func14 (by kernel_rfl) rfl rfl rfl (c_laws_qData t_11.1 t_14.1 t_44 ht_44 _ m45 hv45 s13 ((((((h13.mono hm15.le).mono hm18.le).mono hm21.le).mono hm23.le).mono hm26.le).froz hl45 (hz45 11 _ rfl)) s16 (((((h16.mono hm18.le).mono hm21.le).mono hm23.le).mono hm26.le).froz hl45 (hz45 10 _ rfl))) ?_
    rintro a w _ rfl hF hS
    refine q_xg (v:=(.bool (!t_44))) hF hS (ex_not rfl) (wanted_t hF rfl rfl rfl hc3) rfl fun a hF=>q_x (v:=(.bool (!t_44))) hF hS (ex_pick_f rfl rfl hc3) rfl rfl fun a hF=>q_x (v:=(.bool (!t_44))) hF hS (ex_move rfl) rfl rfl fun a hF=>?_
    rcases bcase (!t_44) with hc4 | hc4
    ·have hj2:=cond_f hc4 hj2
     refine q_xg (v:=(.bool t_22.2)) hF hS (ex_move rfl) (wanted_t hF rfl rfl rfl hc4) rfl fun a hF=>q_xg (v:=(.bool t_25.2)) hF hS (ex_move rfl) (wanted_t hF rfl rfl rfl hc4) rfl fun a hF=>q_xg (v:=(.bool (t_22.2 != t_25.2))) hF hS (ex_bne Try.underlying4 rfl rfl) (wanted_t hF rfl rfl rfl hc4) rfl fun a hF=>q_x (v:=(.bool (t_22.2 != t_25.2))) hF hS (ex_pick_f rfl rfl hc4) rfl rfl fun a hF=>q_x (v:=(.bool (t_22.2 != t_25.2))) hF hS (ex_move rfl) rfl rfl fun a hF=>?_
     rcases bcase (t_22.2 != t_25.2) with hc5 | hc5
     ·have hj2:=cond_f hc5 hj2
      refine q_xg (v:=s24.v) hF hS (ex_move rfl) (wanted_t hF rfl rfl rfl hc5) rfl fun a hF=>q_xg (v:=s27.v) hF hS (ex_move rfl) (wanted_t hF rfl rfl rfl hc5) rfl fun a hF=>?_
      obtain ⟨m47,hl47,hv47,hz47⟩:=hS.lend
      obtain ⟨t_46,ht_46,hj2⟩:=bindS hj2
      refine q_callg (vs:=[s24.v,s27.v]) hF hS (wanted_t hF rfl rfl rfl hc5) Try.func14 (by kernel_rfl) rfl rfl rfl (c_laws_qData t_22.1 t_25.1 t_46 ht_46 _ m47 hv47 s24 ((h24.mono hm26.le).froz hl47 (hz47 9 _ rfl)) s27 (h27.froz hl47 (hz47 8 _ rfl))) ?_
      rintro a w _ rfl hF hS
      refine q_xg (v:=(.bool (!t_46))) hF hS (ex_not rfl) (wanted_t hF rfl rfl rfl hc5) rfl fun a hF=>q_x (v:=(.bool (!t_46))) hF hS (ex_pick_f rfl rfl hc5) rfl rfl fun a hF=>q_x (v:=(.bool (!t_46))) hF hS (ex_move rfl) rfl rfl fun a hF=>?_
      rcases bcase (!t_46) with hc6 | hc6
      ·have hj2:=cond_f hc6 hj2
       refine q_xg (v:=(.bool t_34.2)) hF hS (ex_move rfl) (wanted_t hF rfl rfl rfl hc6) rfl fun a hF=>q_xg (v:=(.bool t_39.2)) hF hS (ex_move rfl) (wanted_t hF rfl rfl rfl hc6) rfl fun a hF=>q_xg (v:=(.bool (t_34.2 != t_39.2))) hF hS (ex_bne Try.underlying4 rfl rfl) (wanted_t hF rfl rfl rfl hc6) rfl fun a hF=>q_x (v:=(.bool (t_34.2 != t_39.2))) hF hS (ex_pick_f rfl rfl hc6) rfl rfl fun a hF=>q_x (v:=(.bool (t_34.2 != t_39.2))) hF hS (ex_move rfl) rfl rfl fun a hF=>?_
       rcases bcase (t_34.2 != t_39.2) with hc7 | hc7
       ·have hj2:=cond_f hc7 hj2
        refine q_xg (v:=(.agg #[(iV t_34.1.Area),(iV t_34.1.House),s37.v])) hF hS (ex_loadA (vs:=[(iV t_34.1.Area),(iV t_34.1.House),s37.v]) 2 0 Try.underlying36 rfl sz36 rfl rfl rfl rfl) (wanted_t hF rfl rfl rfl hc7) rfl fun a hF=>q_xg (v:=(.agg #[(iV t_39.1.Area),(iV t_39.1.House),s42.v])) hF hS (ex_loadA (vs:=[(iV t_39.1.Area),(iV t_39.1.House),s42.v]) 0 0 Try.underlying36 rfl sz36 rfl rfl rfl rfl) (wanted_t hF rfl rfl rfl hc7) rfl fun a hF=>?_
        obtain ⟨m49,hl49,hv49,hz49⟩:=hS.lend
        obtain ⟨t_48,ht_48,hj2⟩:=bindS hj2
        refine q_callg (vs:=[(.agg #[(iV t_34.1.Area),(iV t_34.1.House),s37.v]),(.agg #[(iV t_39.1.Area),(iV t_39.1.House),s42.v])]) hF hS (wanted_t hF rfl rfl rfl hc7) Try.func15 (by kernel_rfl) rfl rfl rfl (c_laws_qRecord t_34.1 t_39.1 t_48 ht_48 _ m49 hv49 s37 (h37.froz hl49 (hz49 3 _ rfl)) s42 (h42.froz hl49 (hz49 1 _ rfl))) ?_
        rintro a w _ rfl hF hS
        refine q_xg (v:=(.bool (!t_48))) hF hS (ex_not rfl) (wanted_t hF rfl rfl rfl hc7) rfl fun a hF=>q_x (v:=(.bool (!t_48))) hF hS (ex_pick_f rfl rfl hc7) rfl rfl fun a hF=>q_end (n_jn ?_)
        obtain rfl:=someI hj2
        exact ⟨hF.sub ⟨rfl,rfl,rfl,rfl,rfl,rfl,rfl,rfl,rfl,trivial⟩,hS.sel [11,9,12] (by decide)⟩
       ·have hj2:=cond_t hc7 hj2
        refine q_skip hF (wanted_f hF rfl rfl rfl hc7 rfl) rfl fun a hF=>q_skip hF (wanted_f hF rfl rfl rfl hc7 rfl) rfl fun a hF=>q_skip hF (wanted_f hF rfl rfl rfl hc7 rfl) rfl fun a hF=>q_skip hF (wanted_f hF rfl rfl rfl hc7 rfl) rfl fun a hF=>q_x (v:=(.bool true)) hF hS (ex_pick_t rfl rfl hc7) rfl rfl fun a hF=>q_end (n_jn ?_)
        obtain rfl:=someI hj2
        exact ⟨hF.sub ⟨rfl,rfl,rfl,rfl,rfl,rfl,rfl,rfl,rfl,trivial⟩,hS.sel [11,9,12] (by decide)⟩
      ·have hj2:=cond_t hc6 hj2
       refine q_skip hF (wanted_f hF rfl rfl rfl hc6 rfl) rfl fun a hF=>q_skip hF (wanted_f hF rfl rfl rfl hc6 rfl) rfl fun a hF=>q_skip hF (wanted_f hF rfl rfl rfl hc6 rfl) rfl fun a hF=>q_x (v:=(.bool true)) hF hS (ex_pick_t rfl rfl hc6) rfl rfl fun a hF=>q_x (v:=(.bool true)) hF hS (ex_move rfl) rfl rfl fun a hF=>q_skip hF (wanted_f hF rfl rfl rfl rfl rfl) rfl fun a hF=>q_skip hF (wanted_f hF rfl rfl rfl rfl rfl) rfl fun a hF=>q_skip hF (wanted_f hF rfl rfl rfl rfl rfl) rfl fun a hF=>q_skip hF (wanted_f hF rfl rfl rfl rfl rfl) rfl fun a hF=>q_x (v:=(.bool true)) hF hS (ex_pick_t rfl rfl rfl) rfl rfl fun a hF=>q_end (n_jn ?_)
       obtain rfl:=someI hj2
       exact ⟨hF.sub ⟨rfl,rfl,rfl,rfl,rfl,rfl,rfl,rfl,rfl,trivial⟩,hS.sel [11,9,12] (by decide)⟩
     ·have hj2:=cond_t hc5 hj2
      refine q_skip hF (wanted_f hF rfl rfl rfl hc5 rfl) rfl fun a hF=>q_skip hF (wanted_f hF rfl rfl rfl hc5 rfl) rfl fun a hF=>q_skip hF (wanted_f hF rfl rfl rfl hc5 rfl) rfl fun a hF=>q_skip hF (wanted_f hF rfl rfl rfl hc5 rfl) rfl fun a hF=>q_x (v:=(.bool true)) hF hS (ex_pick_t rfl rfl hc5) rfl rfl fun a hF=>q_x (v:=(.bool true)) hF hS (ex_move rfl) rfl rfl fun a hF=>q_skip hF (wanted_f hF rfl rfl rfl rfl rfl) rfl fun a hF=>q_skip hF (wanted_f hF rfl rfl rfl rfl rfl) rfl fun a hF=>q_skip hF (wanted_f hF rfl rfl rfl rfl rfl) rfl fun a hF=>q_x (v:=(.bool true)) hF hS (ex_pick_t rfl rfl rfl) rfl rfl fun a hF=>q_x (v:=(.bool true)) hF hS (ex_move rfl) rfl rfl fun a hF=>q_skip hF (wanted_f hF rfl rfl rfl rfl rfl) rfl fun a hF=>q_skip hF (wanted_f hF rfl rfl rfl rfl rfl) rfl fun a hF=>q_skip hF (wanted_f hF rfl rfl rfl rfl rfl) rfl fun a hF=>q_skip hF (wanted_f hF rfl rfl rfl rfl rfl) rfl fun a hF=>q_x (v:=(.bool true)) hF hS (ex_pick_t rfl rfl rfl) rfl rfl fun a hF=>q_end (n_jn ?_)
      obtain rfl:=someI hj2
      exact ⟨hF.sub ⟨rfl,rfl,rfl,rfl,rfl,rfl,rfl,rfl,rfl,trivial⟩,hS.sel [11,9,12] (by decide)⟩
    ·have hj2:=cond_t hc4 hj2
     refine q_skip hF (wanted_f hF rfl rfl rfl hc4 rfl) rfl fun a hF=>q_skip hF (wanted_f hF rfl rfl rfl hc4 rfl) rfl fun a hF=>q_skip hF (wanted_f hF rfl rfl rfl hc4 rfl) rfl fun a hF=>q_x (v:=(.bool true)) hF hS (ex_pick_t rfl rfl hc4) rfl rfl fun a hF=>q_x (v:=(.bool true)) hF hS (ex_move rfl) rfl rfl fun a hF=>q_skip hF (wanted_f hF rfl rfl rfl rfl rfl) rfl fun a hF=>q_skip hF (wanted_f hF rfl rfl rfl rfl rfl) rfl fun a hF=>q_skip hF (wanted_f hF rfl rfl rfl rfl rfl) rfl fun a hF=>q_skip hF (wanted_f hF rfl rfl rfl rfl rfl) rfl fun a hF=>q_x (v:=(.bool true)) hF hS (ex_pick_t rfl rfl rfl) rfl rfl fun a hF=>q_x (v:=(.bool true)) hF hS (ex_move rfl) rfl rfl fun a hF=>q_skip hF (wanted_f hF rfl rfl rfl rfl rfl) rfl fun a hF=>q_skip hF (wanted_f hF rfl rfl rfl rfl rfl) rfl fun a hF=>q_skip hF (wanted_f hF rfl rfl rfl rfl rfl) rfl fun a hF=>q_x (v:=(.bool true)) hF hS (ex_pick_t rfl rfl rfl) rfl rfl fun a hF=>q_x (v:=(.bool true)) hF hS (ex_move rfl) rfl rfl fun a hF=>q_skip hF (wanted_f hF rfl rfl rfl rfl rfl) rfl fun a hF=>q_skip hF (wanted_f hF rfl rfl rfl rfl rfl) rfl fun a hF=>q_skip hF (wanted_f hF rfl rfl rfl rfl rfl) rfl fun a hF=>q_skip hF (wanted_f hF rfl rfl rfl rfl rfl) rfl fun a hF=>q_x (v:=(.bool true)) hF hS (ex_pick_t rfl rfl rfl) rfl rfl fun a hF=>q_end (n_jn ?_)
     obtain rfl:=someI hj2
     exact ⟨hF.sub ⟨rfl,rfl,rfl,rfl,rfl,rfl,rfl,rfl,rfl,trivial⟩,hS.sel [11,9,12] (by decide)⟩
   ·have hj2:=cond_t hc3 hj2
    refine q_skip hF (wanted_f hF rfl rfl rfl hc3 rfl) rfl fun a hF=>q_skip hF (wanted_f hF rfl rfl rfl hc3 rfl) rfl fun a hF=>q_skip hF (wanted_f hF rfl rfl rfl hc3 rfl) rfl fun a hF=>q_skip hF (wanted_f hF rfl rfl rfl hc3 rfl) rfl fun a hF=>q_x (v:=(.bool true)) hF hS (ex_pick_t rfl rfl hc3) rfl rfl fun a hF=>q_x (v:=(.bool true)) hF hS (ex_move rfl) rfl rfl fun a hF=>q_skip hF (wanted_f hF rfl rfl rfl rfl rfl) rfl fun a hF=>q_skip hF (wanted_f hF rfl rfl rfl rfl rfl) rfl fun a hF=>q_skip hF (wanted_f hF rfl rfl rfl rfl rfl) rfl fun a hF=>q_x (v:=(.bool true)) hF hS (ex_pick_t rfl rfl rfl) rfl rfl fun a hF=>q_x (v:=(.bool true)) hF hS (ex_move rfl) rfl rfl fun a hF=>q_skip hF (wanted_f hF rfl rfl rfl rfl rfl) rfl fun a hF=>q_skip hF (wanted_f hF rfl rfl rfl rfl rfl) rfl fun a hF=>q_skip hF (wanted_f hF rfl rfl rfl rfl rfl) rfl fun a hF=>q_skip hF (wanted_f hF rfl rfl rfl rfl rfl) rfl fun a hF=>q_x (v:=(.bool true)) hF hS (ex_pick_t rfl rfl rfl) rfl rfl fun a hF=>q_x (v:=(.bool true)) hF hS (ex_move rfl) rfl rfl fun a hF=>q_skip hF (wanted_f hF rfl rfl rfl rfl rfl) rfl fun a hF=>q_skip hF (wanted_f hF rfl rfl rfl rfl rfl) rfl fun a hF=>q_skip hF (wanted_f hF rfl rfl rfl rfl rfl) rfl fun a hF=>q_x (v:=(.bool true)) hF hS (ex_pick_t rfl rfl rfl) rfl rfl fun a hF=>q_x (v:=(.bool true)) hF hS (ex_move rfl) rfl rfl fun a hF=>q_skip hF (wanted_f hF rfl rfl rfl rfl rfl) rfl fun a hF=>q_skip hF (wanted_f hF rfl rfl rfl rfl rfl) rfl fun a hF=>q_skip hF (wanted_f hF rfl rfl rfl rfl rfl) rfl fun a hF=>?_
    refine q_skip hF (wanted_f hF rfl rfl rfl rfl rfl) rfl fun a hF=>q_x (v:=(.bool true)) hF hS (ex_pick_t rfl rfl rfl) rfl rfl fun a hF=>q_end (n_jn ?_)
    obtain rfl:=someI hj2
    exact ⟨hF.sub ⟨rfl,rfl,rfl,rfl,rfl,rfl,rfl,rfl,rfl,trivial⟩,hS.sel [11,9,12] (by decide)⟩
  ·rintro a w ⟨hF,hS⟩
   refine n_sq ?_
   rcases bcase (t_50) with hc8 | hc8
   ·have hr:=cond_f hc8 hr
    refine q_cond_f hF rfl hc8 (q_skipc (n_sq (q_seq (q_seq ?_))))
    obtain ⟨t_51,hj9,hr⟩:=bindS hr
    refine q_join (fun a w=>Fr a 164 [(5,s5.v),(6,(.pointer (some ⟨b8,0,none⟩))),(7,s7.v),(8,s13.v),(9,(.bool t_11.2)),(135,(.bool t_51))]∧St [] w0 w m26 [q13,[⟨b8,[(iV t_3.2.1.Var),s6.v],26⟩]]) ?_ ?_
    ·refine q_region (q_x (v:=(.bool t_22.2)) hF hS (ex_move rfl) rfl rfl fun a hF=>q_x (v:=(.bool t_22.2)) hF hS (ex_move rfl) rfl rfl fun a hF=>?_)
     rcases bcase (t_22.2) with hc10 | hc10
     ·have hj9:=cond_f hc10 hj9
      refine q_skip hF (wanted_f hF rfl rfl rfl hc10 rfl) rfl fun a hF=>q_skip hF (wanted_f hF rfl rfl rfl hc10 rfl) rfl fun a hF=>q_skip hF (wanted_f hF rfl rfl rfl hc10 rfl) rfl fun a hF=>q_skip hF (wanted_f hF rfl rfl rfl hc10 rfl) rfl fun a hF=>q_skip hF (wanted_f hF rfl rfl rfl hc10 rfl) rfl fun a hF=>q_skip hF (wanted_f hF rfl rfl rfl hc10 rfl) rfl fun a hF=>q_x (v:=(.bool false)) hF hS (ex_pick_f rfl rfl hc10) rfl rfl fun a hF=>q_end (n_jn ?_)
      obtain rfl:=someI hj9
      exact ⟨hF.sub ⟨rfl,rfl,rfl,rfl,rfl,rfl,trivial⟩,hS.mask [true,false,true]⟩
     ·have hj9:=cond_t hc10 hj9
      refine q_xg (v:=s24.v) hF hS (ex_move rfl) (wanted_t hF rfl rfl rfl hc10) rfl fun a hF=>q_xg (v:=(iV (goLen t_22.1))) hF hS (ex_len Try.underlying27 rfl (h24.mono hm26.le).len) (wanted_t hF rfl rfl rfl hc10) rfl fun a hF=>q_xg (v:=s20.v) hF hS (ex_move rfl) (wanted_t hF rfl rfl rfl hc10) rfl fun a hF=>q_xg (v:=(iV (goLen t_17.2.1))) hF hS (ex_len Try.underlying27 rfl ((h21.mono hm23.le).mono hm26.le).len) (wanted_t hF rfl rfl rfl hc10) rfl fun a hF=>q_xg (v:=(iV (w64 ((goLen t_17.2.1) - 1)))) hF hS (ex_ibin rfl rfl rfl) (wanted_t hF rfl rfl rfl hc10) rfl fun a hF=>q_xg (v:=(.bool ((goLen t_22.1) != (w64 ((goLen t_17.2.1) - 1))))) hF hS (ex_ibin rfl rfl rfl) (wanted_t hF rfl rfl rfl hc10) rfl fun a hF=>q_x (v:=(.bool ((goLen t_22.1) != (w64 ((goLen t_17.2.1) - 1))))) hF hS (ex_pick_t rfl rfl hc10) rfl rfl fun a hF=>q_end (n_jn ?_)
      obtain rfl:=someI hj9
      exact ⟨hF.sub ⟨rfl,rfl,rfl,rfl,rfl,rfl,trivial⟩,hS.mask [true,false,true]⟩
    ·rintro a w ⟨hF,hS⟩
     refine n_sq ?_
     rcases bcase (t_51) with hc11 | hc11
     ·have hr:=cond_f hc11 hr
      refine q_cond_f hF rfl hc11 (q_skipc (n_sq (q_seq (q_seq (q_region (q_x (v:=(.bool t_11.2)) hF hS (ex_move rfl) rfl rfl fun a hF=>q_x (v:=(.bool (!t_11.2))) hF hS (ex_not rfl) rfl rfl fun a hF=>q_end (n_sq ?_)))))))
      rcases bcase (!t_11.2) with hc12 | hc12
      ·have hr:=cond_f hc12 hr
       refine q_cond_f hF rfl hc12 (q_skipc (n_sq (q_seq (q_region (q_x (v:=s5.v) hF hS (ex_move rfl) rfl rfl fun a hF=>q_x (v:=(.agg #[(iV t_3.2.1.Var),s6.v])) hF hS (ex_loadA (vs:=[(iV t_3.2.1.Var),s6.v]) 1 0 Try.underlying26 rfl sz26 rfl rfl rfl rfl) rfl rfl fun a hF=>?_)))))
       obtain ⟨t_52,ht_52,hr⟩:=bindS hr
       refine q_call (vs:=[s5.v,(.agg #[(iV t_3.2.1.Var),s6.v])]) hF hS Try.func16 (by kernel_rfl) rfl rfl rfl (c_impl_GroupSchema t_3.1 t_3.2.1 t_52 ht_52 _ m26 hS.vis s5 ((((((((h5.mono hm9.le).mono hm10.le).mono hm12.le).mono hm15.le).mono hm18.le).mono hm21.le).mono hm23.le).mono hm26.le) s6 (((((((h9.mono hm10.le).mono hm12.le).mono hm15.le).mono hm18.le).mono hm21.le).mono hm23.le).mono hm26.le)) ?_
       rintro a w _ ⟨q54,s54,rfl,hR53,h54⟩ hF hS2
       have hS : St _ _ _ _ [q54,q13,[⟨b8,[(iV t_3.2.1.Var),s6.v],26⟩]]:=hS.joinF hR53
       refine q_x (v:=(.tuple #[s54.v,(.bool t_52.2)])) hF hS (ex_move rfl) rfl rfl fun a hF=>q_x (v:=s54.v) hF hS (ex_extract rfl rfl) rfl rfl fun a hF=>q_x (v:=(.bool t_52.2)) hF hS (ex_extract rfl rfl) rfl rfl fun a hF=>q_x (v:=s54.v) hF hS (ex_assign rfl) rfl rfl fun a hF=>q_x (v:=(.bool t_52.2)) hF hS (ex_assign rfl) rfl rfl fun a hF=>q_end (n_sq (q_seq (q_region (q_x (v:=s54.v) hF hS (ex_move rfl) rfl rfl fun a hF=>q_x (v:=s13.v) hF hS (ex_move rfl) rfl rfl fun a hF=>?_))))
       obtain ⟨m56,hl56,hv56,hz56⟩:=hS.lend
       obtain ⟨t_55,ht_55,hr⟩:=bindS hr
       refine q_call (vs:=[s54.v,s13.v]) hF hS Try.func17 (by kernel_rfl) rfl rfl rfl (c_impl_IsData t_52.1 t_11.1 t_55 ht_55 _ m56 hv56 s54 (h54.froz hl56 (hz56 0 _ rfl)) s13 ((((((h13.mono hm15.le).mono hm18.le).mono hm21.le).mono hm23.le).mono hm26.le).froz hl56 (hz56 1 _ rfl))) ?_
       rintro a w _ rfl hF hS
       refine q_x (v:=(.tuple #[(.bool t_55.1),(.bool t_55.2)])) hF hS (ex_move rfl) rfl rfl fun a hF=>q_x (v:=(.bool t_55.1)) hF hS (ex_extract rfl rfl) rfl rfl fun a hF=>q_x (v:=(.bool t_55.2)) hF hS (ex_extract rfl rfl) rfl rfl fun a hF=>q_x (v:=(.bool t_55.1)) hF hS (ex_assign rfl) rfl rfl fun a hF=>q_x (v:=(.bool t_55.2)) hF hS (ex_assign rfl) rfl rfl fun a hF=>q_end (n_sq (q_seq ?_))
       obtain ⟨t_57,hj13,hr⟩:=bindS hr
       refine q_join (fun a w=>Fr a 164 [(4,(.bool t_57))]∧St [] w0 w m26 []) ?_ ?_
       ·refine q_region (q_x (v:=(.bool t_52.2)) hF hS (ex_move rfl) rfl rfl fun a hF=>q_x (v:=(.bool t_52.2)) hF hS (ex_move rfl) rfl rfl fun a hF=>?_)
        rcases bcase (t_52.2) with hc14 | hc14
        ·have hj13:=cond_f hc14 hj13
         refine q_skip hF (wanted_f hF rfl rfl rfl hc14 rfl) rfl fun a hF=>q_x (v:=(.bool false)) hF hS (ex_pick_f rfl rfl hc14) rfl rfl fun a hF=>q_x (v:=(.bool false)) hF hS (ex_move rfl) rfl rfl fun a hF=>q_skip hF (wanted_f hF rfl rfl rfl rfl rfl) rfl fun a hF=>q_x (v:=(.bool false)) hF hS (ex_pick_f rfl rfl rfl) rfl rfl fun a hF=>q_x (v:=(.bool false)) hF hS (ex_move rfl) rfl rfl fun a hF=>q_skip hF (wanted_f hF rfl rfl rfl rfl rfl) rfl fun a hF=>q_skip hF (wanted_f hF rfl rfl rfl rfl rfl) rfl fun a hF=>q_skip hF (wanted_f hF rfl rfl rfl rfl rfl) rfl fun a hF=>q_skip hF (wanted_f hF rfl rfl rfl rfl rfl) rfl fun a hF=>q_skip hF (wanted_f hF rfl rfl rfl rfl rfl) rfl fun a hF=>q_x (v:=(.bool false)) hF hS (ex_pick_f rfl rfl rfl) rfl rfl fun a hF=>q_x (v:=(.bool false)) hF hS (ex_assign rfl) rfl rfl fun a hF=>q_end (n_jn ?_)
         obtain rfl:=someI hj13
         exact ⟨hF.sub ⟨rfl,trivial⟩,hS.mask [false,false,false]⟩
        ·have hj13:=cond_t hc14 hj13
         refine q_xg (v:=(.bool t_55.2)) hF hS (ex_move rfl) (wanted_t hF rfl rfl rfl hc14) rfl fun a hF=>q_x (v:=(.bool t_55.2)) hF hS (ex_pick_t rfl rfl hc14) rfl rfl fun a hF=>q_x (v:=(.bool t_55.2)) hF hS (ex_move rfl) rfl rfl fun a hF=>?_
         rcases bcase (t_55.2) with hc15 | hc15
         ·have hj13:=cond_f hc15 hj13
          refine q_skip hF (wanted_f hF rfl rfl rfl hc15 rfl) rfl fun a hF=>q_x (v:=(.bool false)) hF hS (ex_pick_f rfl rfl hc15) rfl rfl fun a hF=>q_x (v:=(.bool false)) hF hS (ex_move rfl) rfl rfl fun a hF=>q_skip hF (wanted_f hF rfl rfl rfl rfl rfl) rfl fun a hF=>q_skip hF (wanted_f hF rfl rfl rfl rfl rfl) rfl fun a hF=>q_skip hF (wanted_f hF rfl rfl rfl rfl rfl) rfl fun a hF=>q_skip hF (wanted_f hF rfl rfl rfl rfl rfl) rfl fun a hF=>q_skip hF (wanted_f hF rfl rfl rfl rfl rfl) rfl fun a hF=>q_x (v:=(.bool false)) hF hS (ex_pick_f rfl rfl rfl) rfl rfl fun a hF=>q_x (v:=(.bool false)) hF hS (ex_assign rfl) rfl rfl fun a hF=>q_end (n_jn ?_)
          obtain rfl:=someI hj13
          exact ⟨hF.sub ⟨rfl,trivial⟩,hS.mask [false,false,false]⟩
         ·have hj13:=cond_t hc15 hj13
          refine q_xg (v:=(.bool t_55.1)) hF hS (ex_move rfl) (wanted_t hF rfl rfl rfl hc15) rfl fun a hF=>q_x (v:=(.bool t_55.1)) hF hS (ex_pick_t rfl rfl hc15) rfl rfl fun a hF=>q_x (v:=(.bool t_55.1)) hF hS (ex_move rfl) rfl rfl fun a hF=>?_
          rcases bcase (t_55.1) with hc16 | hc16
          ·have hj13:=cond_f hc16 hj13
           refine q_skip hF (wanted_f hF rfl rfl rfl hc16 rfl) rfl fun a hF=>q_skip hF (wanted_f hF rfl rfl rfl hc16 rfl) rfl fun a hF=>q_skip hF (wanted_f hF rfl rfl rfl hc16 rfl) rfl fun a hF=>q_skip hF (wanted_f hF rfl rfl rfl hc16 rfl) rfl fun a hF=>q_skip hF (wanted_f hF rfl rfl rfl hc16 rfl) rfl fun a hF=>q_x (v:=(.bool false)) hF hS (ex_pick_f rfl rfl hc16) rfl rfl fun a hF=>q_x (v:=(.bool false)) hF hS (ex_assign rfl) rfl rfl fun a hF=>q_end (n_jn ?_)
           obtain rfl:=someI hj13
           exact ⟨hF.sub ⟨rfl,trivial⟩,hS.mask [false,false,false]⟩
          ·have hj13:=cond_t hc16 hj13
           refine q_xg (v:=s13.v) hF hS (ex_move rfl) (wanted_t hF rfl rfl rfl hc16) rfl fun a hF=>q_xg (v:=(iV (goLen t_11.1))) hF hS (ex_len Try.underlying27 rfl (((((h13.mono hm15.le).mono hm18.le).mono hm21.le).mono hm23.le).mono hm26.le).len) (wanted_t hF rfl rfl rfl hc16) rfl fun a hF=>q_xg (v:=s7.v) hF hS (ex_move rfl) (wanted_t hF rfl rfl rfl hc16) rfl fun a hF=>q_xg (v:=(iV (goLen t_3.2.2))) hF hS (ex_len Try.underlying27 rfl ((((((h10.mono hm12.le).mono hm15.le).mono hm18.le).mono hm21.le).mono hm23.le).mono hm26.le).len) (wanted_t hF rfl rfl rfl hc16) rfl fun a hF=>q_xg (v:=(.bool ((goLen t_11.1) == (goLen t_3.2.2)))) hF hS (ex_ibin rfl rfl rfl) (wanted_t hF rfl rfl rfl hc16) rfl fun a hF=>q_x (v:=(.bool ((goLen t_11.1) == (goLen t_3.2.2)))) hF hS (ex_pick_t rfl rfl hc16) rfl rfl fun a hF=>q_x (v:=(.bool ((goLen t_11.1) == (goLen t_3.2.2)))) hF hS (ex_assign rfl) rfl rfl fun a hF=>q_end (n_jn ?_)
           obtain rfl:=someI hj13
           exact ⟨hF.sub ⟨rfl,trivial⟩,hS.mask [false,false,false]⟩
       ·rintro a w ⟨hF,hS⟩
        refine n_sq (q_ret ?_)
        obtain rfl:=someI hr
        exact ret_of hF hS rfl (.tmp rfl .nil) rfl
      ·have hr:=cond_t hc12 hr
       refine q_cond_t hF rfl hc12 (q_seq (q_region (q_x (v:=(.bool true)) hF hS (ex_assign rfl) rfl rfl fun a hF=>q_end (n_sq (q_ret (r_sq ?_))))))
       obtain rfl:=someI hr
       exact ret_of hF hS rfl (.tmp rfl .nil) rfl
     ·have hr:=cond_t hc11 hr
      refine q_cond_t hF rfl hc11 (q_seq (q_region (q_x (v:=(.bool false)) hF hS (ex_assign rfl) rfl rfl fun a hF=>q_end (n_sq (q_ret (r_sq ?_))))))
      obtain rfl:=someI hr
      exact ret_of hF hS rfl (.tmp rfl .nil) rfl
   ·have hr:=cond_t hc8 hr
    refine q_cond_t hF rfl hc8 (q_seq (q_region (q_x (v:=(.bool false)) hF hS (ex_assign rfl) rfl rfl fun a hF=>q_end (n_sq (q_ret (r_sq ?_))))))
    obtain rfl:=someI hr
    exact ret_of hF hS rfl (.tmp rfl .nil) rfl
 ·have hr:=cond_t hc1 hr
  refine q_cond_t hF rfl hc1 (q_seq (q_region (q_x (v:=(.bool true)) hF hS (ex_assign rfl) rfl rfl fun a hF=>q_end (n_sq (q_ret (r_sq ?_))))))
  obtain rfl:=someI hr
  exact ret_of hF hS rfl (.tmp rfl .nil) rfl

end Go.Proofs.Ytebjhiflnemkhaa
