/- The walks of the functions: each returns what its plain function says. -/
import Derived.Test.YtpjcfmpfiadkgaaRWalks4
namespace Go.Proofs.Ytpjcfmpfiadkgaa
open Go.Gx Go.Gx.F Go.RowKit
set_option linter.all false
set_option maxRecDepth 10000


theorem c_impl_areSums (p_l : List Int) (r : Bool) (hr : impl_areSums p_l = some r) (w0 : World) (m : Mem) (hv : Vis m w0) (s1 : Sl) (h1 : Rd m s1 p_l) :
  Ret Try.prog 144 [s1.v] w0 (fun v _=>v = (.bool r)):=by
 unfold impl_areSums at hr
 refine ret_start Try.func144 rfl 26 rfl rfl m hv fun a hF hS=>q_sr (q_s hF rfl fun a hF=>q_end (n_sq (q_seq (q_seq ?_))))
 obtain ⟨t_2,hj1,hr⟩:=bindS hr
 refine q_join (fun a w=>Fr a 26 [(0,s1.v),(12,(.bool t_2))]∧St [] w0 w m []) ?_ ?_
 ·refine q_region (q_m hF rfl fun a hF=>q_y (v:=(iV (goLen p_l))) hF hS (ex_len U28 rfl h1.len) fun a hF=>q_y (v:=(.bool (decide ((goLen p_l) < 1)))) hF hS (ex_ibin rfl rfl rfl) fun a hF=>q_m hF rfl fun a hF=>?_)
  rcases bcase (decide ((goLen p_l) < 1)) with hc2 | hc2
  ·have hj1:=cond_f hc2 hj1
   refine q_g (v:=s1.v) hF hS (ex_move rfl) hc2 fun a hF=>q_g (v:=(iV (goLen p_l))) hF hS (ex_len U28 rfl h1.len) hc2 fun a hF=>q_g (v:=(.bool (decide (8 < (goLen p_l))))) hF hS (ex_ibin rfl rfl rfl) hc2 fun a hF=>q_y (v:=(.bool (decide (8 < (goLen p_l))))) hF hS (ex_pick_f rfl rfl hc2) fun a hF=>q_end (n_jn ?_)
   obtain rfl:=someI hj1
   exact ⟨hF.sub ⟨rfl,rfl,trivial⟩,hS⟩
  ·have hj1:=cond_t hc2 hj1
   refine q_k hF hc2 fun a hF=>q_k hF hc2 fun a hF=>q_k hF hc2 fun a hF=>q_y (v:=(.bool true)) hF hS (ex_pick_t rfl rfl hc2) fun a hF=>q_end (n_jn ?_)
   obtain rfl:=someI hj1
   exact ⟨hF.sub ⟨rfl,rfl,trivial⟩,hS⟩
 ·rintro a w ⟨hF,hS⟩
  refine n_sq ?_
  rcases bcase (t_2) with hc3 | hc3
  ·have hr:=cond_f hc3 hr
   refine q_cond_f hF rfl hc3 (q_skipc (n_sq (q_seq (q_sr (q_m hF rfl fun a hF=>q_y (v:=(iV (goLen p_l))) hF hS (ex_len U28 rfl h1.len) fun a hF=>q_m hF rfl fun a hF=>q_end (n_sq (q_block ?_)))))))
   obtain ⟨o4,hl4,hr⟩:=bindS hr
   refine q_loop (fun (t_3 : Int) a w=>Fr a 26 [(13,s1.v),(14,(iV (goLen p_l))),(15,(iV t_3))]∧St [] w0 w m []) (fun (o : (Unit) ⊕ (Bool)) e a w=>o = .inl ()∧e = .exit 0∧Fr a 26 []∧St [] w0 w m []) hl4 ⟨hF.sub ⟨rfl,rfl,rfl,trivial⟩,hS⟩ ?_ ?_
   ·clear hF hS
    rintro t_3 a w st ⟨hF,hS⟩ hb4
    unfold impl_areSums_l1 at hb4
    refine q_sr (q_y (v:=(.bool (decide (t_3 < (goLen p_l))))) hF hS (ex_ibin rfl rfl rfl) fun a hF=>q_end (n_sq (q_seq ?_)))
    rcases bcase (decide (t_3 < (goLen p_l))) with hc5 | hc5
    ·have hb4:=cond_f hc5 hb4
     refine q_cond_f hF rfl hc5 (q_exit (x_sq ?_))
     obtain rfl:=someI hb4
     exact ⟨nofun,.inl ⟨rfl,rfl,hF.sub trivial,hS⟩⟩
    ·have hb4:=cond_t hc5 hb4
     refine q_cond_t hF rfl hc5 (q_skipc (n_sq (q_seq (q_block (q_seq (q_region ?_))))))
     obtain ⟨e_4,he_4,hb4⟩:=bindS hb4
     obtain ⟨vs5,at5,d5⟩:=h1.at he_4 1 rfl
     obtain rfl : vs5 = [(iV e_4)]:=d5
     refine q_y (v:=(elP s1 (t_3.toNat * 1))) hF hS (ex_indexAddr U28 sz3 rfl rfl (h1.idx he_4)) fun a hF=>q_y (v:=(iV e_4)) hF hS (ex_loadE1 0 U3 rfl rfl ((at5).at) rfl rfl) fun a hF=>q_s hF rfl fun a hF=>q_end (n_sq (q_seq ?_))
     obtain ⟨t_6,hj6,hb4⟩:=bindS hb4
     refine q_join (fun a w=>Fr a 26 [(13,s1.v),(14,(iV (goLen p_l))),(15,(iV t_3)),(24,(.bool t_6))]∧St [] w0 w m []) ?_ ?_
     ·refine q_region (q_m hF rfl fun a hF=>q_y (v:=(.bool (decide (e_4 < 0)))) hF hS (ex_ibin rfl rfl rfl) fun a hF=>q_m hF rfl fun a hF=>?_)
      rcases bcase (decide (e_4 < 0)) with hc7 | hc7
      ·have hj6:=cond_f hc7 hj6
       refine q_g (v:=(iV e_4)) hF hS (ex_move rfl) hc7 fun a hF=>q_g (v:=(.bool (decide (100000 < e_4)))) hF hS (ex_ibin rfl rfl rfl) hc7 fun a hF=>q_y (v:=(.bool (decide (100000 < e_4)))) hF hS (ex_pick_f rfl rfl hc7) fun a hF=>q_end (n_jn ?_)
       obtain rfl:=someI hj6
       exact ⟨hF.sub ⟨rfl,rfl,rfl,rfl,trivial⟩,hS⟩
      ·have hj6:=cond_t hc7 hj6
       refine q_k hF hc7 fun a hF=>q_k hF hc7 fun a hF=>q_y (v:=(.bool true)) hF hS (ex_pick_t rfl rfl hc7) fun a hF=>q_end (n_jn ?_)
       obtain rfl:=someI hj6
       exact ⟨hF.sub ⟨rfl,rfl,rfl,rfl,trivial⟩,hS⟩
     ·rintro a w ⟨hF,hS⟩
      refine n_sq ?_
      rcases bcase (t_6) with hc8 | hc8
      ·have hb4:=cond_f hc8 hb4
       refine q_cond_f hF rfl hc8 (q_skipc (n_ib (n_sq (q_region (q_y (v:=(iV (w64 (t_3 + 1)))) hF hS (ex_ibin rfl rfl rfl) fun a hF=>q_m hF rfl fun a hF=>q_end ?_)))))
       obtain rfl:=someI hb4
       exact ⟨rfl,hF.sub ⟨rfl,rfl,rfl,trivial⟩,hS⟩
      ·have hb4:=cond_t hc8 hb4
       refine q_cond_t hF rfl hc8 (q_sr (q_s hF rfl fun a hF=>q_end (n_sq (q_ret (r_ib (r_sq ?_))))))
       obtain rfl:=someI hb4
       refine ⟨nofun,.inr fun ho=>?_⟩
       subst ho
       refine r_ib (r_sq ?_)
       obtain rfl:=someI hr
       exact ret_of hF hS rfl (.tmp rfl .nil) rfl
   ·rintro e a w ⟨rfl,rfl,hF,hS⟩
    refine x_ib (n_sq ?_)
    refine q_sr (q_s hF rfl fun a hF=>q_end (n_sq (q_ret ?_)))
    obtain rfl:=someI hr
    exact ret_of hF hS rfl (.tmp rfl .nil) rfl
  ·have hr:=cond_t hc3 hr
   refine q_cond_t hF rfl hc3 (q_sr (q_s hF rfl fun a hF=>q_end (n_sq (q_ret (r_sq ?_)))))
   obtain rfl:=someI hr
   exact ret_of hF hS rfl (.tmp rfl .nil) rfl

theorem c_impl_IsTransport (p_t : impl_Transport) (r : Bool) (hr : impl_IsTransport p_t = some r) (w0 : World) (m : Mem) (hv : Vis m w0) (s1 : Sl) (h1 : Rd m s1 p_t.Rows) (s2 : Sl) (h2 : Rd m s2 p_t.Cols) (s3 : Sl) (h3 : Rd m s3 p_t.Lo) (s4 : Sl) (h4 : Rd m s4 p_t.Hi) :
  Ret Try.prog 67 [(.agg #[s1.v,s2.v,s3.v,s4.v])] w0 (fun v _=>v = (.bool r)):=by
 unfold impl_IsTransport at hr
 refine ret_start Try.func67 rfl 83 rfl rfl m hv fun a hF hS=>q_sr (q_box (cs:=[s1.v,s2.v,s3.v,s4.v]) hF hS rfl rfl rfl fun a w b5 hF hS=>q_s hF rfl fun a hF=>q_end (n_sq (q_seq (q_seq ?_))))
 obtain ⟨t_10,hj1,hr⟩:=bindS hr
 refine q_join (fun a w=>Fr a 83 [(1,(pP b5 0)),(40,(.bool t_10))]∧St [] w0 w m [[⟨b5,[s1.v,s2.v,s3.v,s4.v],50⟩]]) ?_ ?_
 ·refine q_region (q_y (v:=(pP b5 0)) hF hS (ex_fieldAddr U50 rfl sz28 rfl rfl) fun a hF=>q_y (v:=s1.v) hF hS (ex_load1 0 0 U28 rfl rfl rfl rfl) fun a hF=>?_)
  obtain ⟨t_6,ht_6,hj1⟩:=bindS hj1
  refine q_call (vs:=[s1.v]) hF hS Try.func144 (by kernel_rfl) rfl rfl rfl (c_impl_areSums p_t.Rows t_6 ht_6 _ m hS.vis s1 h1) ?_
  rintro a w _ rfl hF hS
  refine q_y (v:=(.bool (!t_6))) hF hS (ex_not rfl) fun a hF=>q_m hF rfl fun a hF=>?_
  rcases bcase (!t_6) with hc2 | hc2
  ·have hj1:=cond_f hc2 hj1
   refine q_g (v:=(pP b5 1)) hF hS (ex_fieldAddr U50 rfl sz28 rfl rfl) hc2 fun a hF=>q_g (v:=s2.v) hF hS (ex_load1 0 0 U28 rfl rfl rfl rfl) hc2 fun a hF=>?_
   obtain ⟨t_7,ht_7,hj1⟩:=bindS hj1
   refine q_callg (vs:=[s2.v]) hF hS (wanted_t hF rfl rfl rfl hc2) Try.func144 (by kernel_rfl) rfl rfl rfl (c_impl_areSums p_t.Cols t_7 ht_7 _ m hS.vis s2 h2) ?_
   rintro a w _ rfl hF hS
   refine q_g (v:=(.bool (!t_7))) hF hS (ex_not rfl) hc2 fun a hF=>q_y (v:=(.bool (!t_7))) hF hS (ex_pick_f rfl rfl hc2) fun a hF=>q_m hF rfl fun a hF=>?_
   rcases bcase (!t_7) with hc3 | hc3
   ·have hj1:=cond_f hc3 hj1
    refine q_g (v:=(pP b5 2)) hF hS (ex_fieldAddr U50 rfl sz23 rfl rfl) hc3 fun a hF=>q_g (v:=s3.v) hF hS (ex_load1 0 0 U23 rfl rfl rfl rfl) hc3 fun a hF=>q_g (v:=(pP b5 0)) hF hS (ex_fieldAddr U50 rfl sz28 rfl rfl) hc3 fun a hF=>q_g (v:=s1.v) hF hS (ex_load1 0 0 U28 rfl rfl rfl rfl) hc3 fun a hF=>q_g (v:=(iV (goLen p_t.Rows))) hF hS (ex_len U28 rfl h1.len) hc3 fun a hF=>q_g (v:=(pP b5 1)) hF hS (ex_fieldAddr U50 rfl sz28 rfl rfl) hc3 fun a hF=>q_g (v:=s2.v) hF hS (ex_load1 0 0 U28 rfl rfl rfl rfl) hc3 fun a hF=>q_g (v:=(iV (goLen p_t.Cols))) hF hS (ex_len U28 rfl h2.len) hc3 fun a hF=>?_
    obtain ⟨t_8,ht_8,hj1⟩:=bindS hj1
    refine q_callg (vs:=[s3.v,(iV (goLen p_t.Rows)),(iV (goLen p_t.Cols))]) hF hS (wanted_t hF rfl rfl rfl hc3) Try.func88 (by kernel_rfl) rfl rfl rfl (c_impl_hasShape p_t.Lo (goLen p_t.Rows) (goLen p_t.Cols) t_8 ht_8 _ m hS.vis s3 h3) ?_
    rintro a w _ rfl hF hS
    refine q_g (v:=(.bool (!t_8))) hF hS (ex_not rfl) hc3 fun a hF=>q_y (v:=(.bool (!t_8))) hF hS (ex_pick_f rfl rfl hc3) fun a hF=>q_m hF rfl fun a hF=>?_
    rcases bcase (!t_8) with hc4 | hc4
    ·have hj1:=cond_f hc4 hj1
     refine q_g (v:=(pP b5 3)) hF hS (ex_fieldAddr U50 rfl sz23 rfl rfl) hc4 fun a hF=>q_g (v:=s4.v) hF hS (ex_load1 0 0 U23 rfl rfl rfl rfl) hc4 fun a hF=>q_g (v:=(pP b5 0)) hF hS (ex_fieldAddr U50 rfl sz28 rfl rfl) hc4 fun a hF=>q_g (v:=s1.v) hF hS (ex_load1 0 0 U28 rfl rfl rfl rfl) hc4 fun a hF=>q_g (v:=(iV (goLen p_t.Rows))) hF hS (ex_len U28 rfl h1.len) hc4 fun a hF=>q_g (v:=(pP b5 1)) hF hS (ex_fieldAddr U50 rfl sz28 rfl rfl) hc4 fun a hF=>q_g (v:=s2.v) hF hS (ex_load1 0 0 U28 rfl rfl rfl rfl) hc4 fun a hF=>q_g (v:=(iV (goLen p_t.Cols))) hF hS (ex_len U28 rfl h2.len) hc4 fun a hF=>?_
     obtain ⟨t_9,ht_9,hj1⟩:=bindS hj1
     refine q_callg (vs:=[s4.v,(iV (goLen p_t.Rows)),(iV (goLen p_t.Cols))]) hF hS (wanted_t hF rfl rfl rfl hc4) Try.func88 (by kernel_rfl) rfl rfl rfl (c_impl_hasShape p_t.Hi (goLen p_t.Rows) (goLen p_t.Cols) t_9 ht_9 _ m hS.vis s4 h4) ?_
     rintro a w _ rfl hF hS
     refine q_g (v:=(.bool (!t_9))) hF hS (ex_not rfl) hc4 fun a hF=>q_y (v:=(.bool (!t_9))) hF hS (ex_pick_f rfl rfl hc4) fun a hF=>q_end (n_jn ?_)
     obtain rfl:=someI hj1
     exact ⟨hF.sub ⟨rfl,rfl,trivial⟩,hS⟩
    ·have hj1:=cond_t hc4 hj1
     refine q_k hF hc4 fun a hF=>q_k hF hc4 fun a hF=>q_k hF hc4 fun a hF=>q_k hF hc4 fun a hF=>q_k hF hc4 fun a hF=>q_k hF hc4 fun a hF=>q_k hF hc4 fun a hF=>q_k hF hc4 fun a hF=>q_k hF hc4 fun a hF=>q_k hF hc4 fun a hF=>q_y (v:=(.bool true)) hF hS (ex_pick_t rfl rfl hc4) fun a hF=>q_end (n_jn ?_)
     obtain rfl:=someI hj1
     exact ⟨hF.sub ⟨rfl,rfl,trivial⟩,hS⟩
   ·have hj1:=cond_t hc3 hj1
    refine q_k hF hc3 fun a hF=>q_k hF hc3 fun a hF=>q_k hF hc3 fun a hF=>q_k hF hc3 fun a hF=>q_k hF hc3 fun a hF=>q_k hF hc3 fun a hF=>q_k hF hc3 fun a hF=>q_k hF hc3 fun a hF=>q_k hF hc3 fun a hF=>q_k hF hc3 fun a hF=>q_y (v:=(.bool true)) hF hS (ex_pick_t rfl rfl hc3) fun a hF=>q_m hF rfl fun a hF=>q_k hF rfl fun a hF=>q_k hF rfl fun a hF=>q_k hF rfl fun a hF=>q_k hF rfl fun a hF=>q_k hF rfl fun a hF=>q_k hF rfl fun a hF=>q_k hF rfl fun a hF=>q_k hF rfl fun a hF=>q_k hF rfl fun a hF=>q_k hF rfl fun a hF=>q_y (v:=(.bool true)) hF hS (ex_pick_t rfl rfl rfl) fun a hF=>q_end (n_jn ?_)
    obtain rfl:=someI hj1
    exact ⟨hF.sub ⟨rfl,rfl,trivial⟩,hS⟩
  ·have hj1:=cond_t hc2 hj1
   refine q_k hF hc2 fun a hF=>q_k hF hc2 fun a hF=>q_k hF hc2 fun a hF=>q_k hF hc2 fun a hF=>q_y (v:=(.bool true)) hF hS (ex_pick_t rfl rfl hc2) fun a hF=>q_m hF rfl fun a hF=>q_k hF rfl fun a hF=>q_k hF rfl fun a hF=>q_k hF rfl fun a hF=>q_k hF rfl fun a hF=>q_k hF rfl fun a hF=>q_k hF rfl fun a hF=>q_k hF rfl fun a hF=>q_k hF rfl fun a hF=>q_k hF rfl fun a hF=>q_k hF rfl fun a hF=>q_y (v:=(.bool true)) hF hS (ex_pick_t rfl rfl rfl) fun a hF=>q_m hF rfl fun a hF=>q_k hF rfl fun a hF=>q_k hF rfl fun a hF=>q_k hF rfl fun a hF=>q_k hF rfl fun a hF=>q_k hF rfl fun a hF=>q_k hF rfl fun a hF=>q_k hF rfl fun a hF=>?_
   refine q_k hF rfl fun a hF=>q_k hF rfl fun a hF=>q_k hF rfl fun a hF=>q_y (v:=(.bool true)) hF hS (ex_pick_t rfl rfl rfl) fun a hF=>q_end (n_jn ?_)
   obtain rfl:=someI hj1
   exact ⟨hF.sub ⟨rfl,rfl,trivial⟩,hS⟩
 ·rintro a w ⟨hF,hS⟩
  refine n_sq ?_
  rcases bcase (t_10) with hc5 | hc5
  ·have hr:=cond_f hc5 hr
   refine q_cond_f hF rfl hc5 (q_skipc (n_sq (q_seq (q_sr (q_y (v:=(pP b5 2)) hF hS (ex_fieldAddr U50 rfl sz23 rfl rfl) fun a hF=>q_y (v:=s3.v) hF hS (ex_load1 0 0 U23 rfl rfl rfl rfl) fun a hF=>q_y (v:=(iV (goLen p_t.Lo))) hF hS (ex_len U23 rfl h3.len) fun a hF=>q_m hF rfl fun a hF=>q_end (n_sq (q_block ?_)))))))
   obtain ⟨o6,hl6,hr⟩:=bindS hr
   refine q_loop (fun (t_11 : Int) a w=>Fr a 83 [(1,(pP b5 0)),(42,s3.v),(43,(iV (goLen p_t.Lo))),(44,(iV t_11))]∧St [] w0 w m [[⟨b5,[s1.v,s2.v,s3.v,s4.v],50⟩]]) (fun (o : (Unit) ⊕ (Bool)) e a w=>o = .inl ()∧e = .exit 0∧Fr a 83 []∧St [] w0 w m []) hl6 ⟨hF.sub ⟨rfl,rfl,rfl,rfl,trivial⟩,hS⟩ ?_ ?_
   ·clear hF hS
    rintro t_11 a w st ⟨hF,hS⟩ hb6
    unfold impl_IsTransport_l1 at hb6
    refine q_sr (q_y (v:=(.bool (decide (t_11 < (goLen p_t.Lo))))) hF hS (ex_ibin rfl rfl rfl) fun a hF=>q_end (n_sq (q_seq ?_)))
    rcases bcase (decide (t_11 < (goLen p_t.Lo))) with hc7 | hc7
    ·have hb6:=cond_f hc7 hb6
     refine q_cond_f hF rfl hc7 (q_exit (x_sq ?_))
     obtain rfl:=someI hb6
     exact ⟨nofun,.inl ⟨rfl,rfl,hF.sub trivial,hS.mask [false]⟩⟩
    ·have hb6:=cond_t hc7 hb6
     refine q_cond_t hF rfl hc7 (q_skipc (n_sq (q_seq (q_block (q_sr (q_m hF rfl fun a hF=>?_))))))
     obtain ⟨e_12,he_12,hb6⟩:=bindS hb6
     obtain ⟨vs13,at13,d13⟩:=h3.at he_12 1 rfl
     obtain ⟨s14,rfl,h14⟩ : ∃ s14 : Sl,vs13 = [s14.v]∧Rd m s14 e_12:=d13
     refine q_y (v:=(elP s3 (t_11.toNat * 1))) hF hS (ex_indexAddr U23 sz28 rfl rfl (h3.idx he_12)) fun a hF=>q_y (v:=s14.v) hF hS (ex_loadE1 0 U28 rfl rfl ((at13).at) rfl rfl) fun a hF=>q_s hF rfl fun a hF=>q_s hF rfl fun a hF=>q_end (n_sq (q_sr (q_m hF rfl fun a hF=>q_y (v:=(iV (goLen e_12))) hF hS (ex_len U28 rfl h14.len) fun a hF=>q_m hF rfl fun a hF=>q_end (n_sq (q_block ?_)))))
     obtain ⟨o8,hl8,hb6⟩:=bindS hb6
     refine q_loop (fun (t_15 : Int) a w=>Fr a 83 [(1,(pP b5 0)),(3,(iV t_11)),(42,s3.v),(43,(iV (goLen p_t.Lo))),(44,(iV t_11)),(49,s14.v),(50,(iV (goLen e_12))),(51,(iV t_15))]∧St [] w0 w m [[⟨b5,[s1.v,s2.v,s3.v,s4.v],50⟩]]) (fun (o : (Unit) ⊕ (Stp (Int) ((Unit) ⊕ (Bool)))) e a w=>o = .inl ()∧e = .exit 2∧Fr a 83 [(1,(pP b5 0)),(42,s3.v),(43,(iV (goLen p_t.Lo))),(44,(iV t_11))]∧St [] w0 w m [[⟨b5,[s1.v,s2.v,s3.v,s4.v],50⟩]]) hl8 ⟨hF.sub ⟨rfl,rfl,rfl,rfl,rfl,rfl,rfl,rfl,trivial⟩,hS⟩ ?_ ?_
     ·clear hF hS
      rintro t_15 a w st ⟨hF,hS⟩ hb8
      unfold impl_IsTransport_l2 at hb8
      refine q_sr (q_y (v:=(.bool (decide (t_15 < (goLen e_12))))) hF hS (ex_ibin rfl rfl rfl) fun a hF=>q_end (n_sq (q_seq ?_)))
      rcases bcase (decide (t_15 < (goLen e_12))) with hc9 | hc9
      ·have hb8:=cond_f hc9 hb8
       refine q_cond_f hF rfl hc9 (q_exit (x_sq ?_))
       obtain rfl:=someI hb8
       exact ⟨nofun,.inl ⟨rfl,rfl,hF.sub ⟨rfl,rfl,rfl,rfl,trivial⟩,hS⟩⟩
      ·have hb8:=cond_t hc9 hb8
       refine q_cond_t hF rfl hc9 (q_skipc (n_sq (q_seq (q_block (q_sr (q_m hF rfl fun a hF=>?_))))))
       obtain ⟨e_16,he_16,hb8⟩:=bindS hb8
       obtain ⟨vs17,at17,d17⟩:=h14.at he_16 1 rfl
       obtain rfl : vs17 = [(iV e_16)]:=d17
       refine q_y (v:=(elP s14 (t_15.toNat * 1))) hF hS (ex_indexAddr U28 sz3 rfl rfl (h14.idx he_16)) fun a hF=>q_y (v:=(iV e_16)) hF hS (ex_loadE1 0 U3 rfl rfl ((at17).at) rfl rfl) fun a hF=>q_s hF rfl fun a hF=>q_s hF rfl fun a hF=>q_end (n_sq (q_seq ?_))
       obtain ⟨t_28,hj10,hb8⟩:=bindS hb8
       refine q_join (fun a w=>Fr a 83 [(1,(pP b5 0)),(3,(iV t_11)),(42,s3.v),(43,(iV (goLen p_t.Lo))),(44,(iV t_11)),(49,s14.v),(50,(iV (goLen e_12))),(51,(iV t_15)),(80,(.bool t_28))]∧St [] w0 w m [[⟨b5,[s1.v,s2.v,s3.v,s4.v],50⟩]]) ?_ ?_
       ·refine q_region (q_m hF rfl fun a hF=>q_y (v:=(.bool (decide (e_16 < 0)))) hF hS (ex_ibin rfl rfl rfl) fun a hF=>q_m hF rfl fun a hF=>?_)
        rcases bcase (decide (e_16 < 0)) with hc11 | hc11
        ·have hj10:=cond_f hc11 hj10
         refine q_g (v:=(iV e_16)) hF hS (ex_move rfl) hc11 fun a hF=>q_g (v:=(pP b5 3)) hF hS (ex_fieldAddr U50 rfl sz23 rfl rfl) hc11 fun a hF=>q_g (v:=s4.v) hF hS (ex_load1 0 0 U23 rfl rfl rfl rfl) hc11 fun a hF=>q_g (v:=(iV t_11)) hF hS (ex_move rfl) hc11 fun a hF=>?_
         obtain ⟨e_18,he_18,hj10⟩:=bindS hj10
         obtain ⟨vs19,at19,d19⟩:=h4.at he_18 1 rfl
         obtain ⟨s20,rfl,h20⟩ : ∃ s20 : Sl,vs19 = [s20.v]∧Rd m s20 e_18:=d19
         refine q_g (v:=(elP s4 (t_11.toNat * 1))) hF hS (ex_indexAddr U23 sz28 rfl rfl (h4.idx he_18)) hc11 fun a hF=>q_g (v:=s20.v) hF hS (ex_loadE1 0 U28 rfl rfl ((at19).at) rfl rfl) hc11 fun a hF=>q_g (v:=(iV t_15)) hF hS (ex_move rfl) hc11 fun a hF=>?_
         obtain ⟨e_21,he_21,hj10⟩:=bindS hj10
         obtain ⟨vs22,at22,d22⟩:=h20.at he_21 1 rfl
         obtain rfl : vs22 = [(iV e_21)]:=d22
         refine q_g (v:=(elP s20 (t_15.toNat * 1))) hF hS (ex_indexAddr U28 sz3 rfl rfl (h20.idx he_21)) hc11 fun a hF=>q_g (v:=(iV e_21)) hF hS (ex_loadE1 0 U3 rfl rfl ((at22).at) rfl rfl) hc11 fun a hF=>q_g (v:=(.bool (decide (e_21 < e_16)))) hF hS (ex_ibin rfl rfl rfl) hc11 fun a hF=>q_y (v:=(.bool (decide (e_21 < e_16)))) hF hS (ex_pick_f rfl rfl hc11) fun a hF=>q_m hF rfl fun a hF=>?_
         rcases bcase (decide (e_21 < e_16)) with hc12 | hc12
         ·have hj10:=cond_f hc12 hj10
          refine q_g (v:=(pP b5 3)) hF hS (ex_fieldAddr U50 rfl sz23 rfl rfl) hc12 fun a hF=>q_g (v:=s4.v) hF hS (ex_load1 0 0 U23 rfl rfl rfl rfl) hc12 fun a hF=>q_g (v:=(iV t_11)) hF hS (ex_move rfl) hc12 fun a hF=>?_
          obtain ⟨e_23,he_23,hj10⟩:=bindS hj10
          obtain ⟨vs24,at24,d24⟩:=h4.at he_23 1 rfl
          obtain ⟨s25,rfl,h25⟩ : ∃ s25 : Sl,vs24 = [s25.v]∧Rd m s25 e_23:=d24
          refine q_g (v:=(elP s4 (t_11.toNat * 1))) hF hS (ex_indexAddr U23 sz28 rfl rfl (h4.idx he_23)) hc12 fun a hF=>q_g (v:=s25.v) hF hS (ex_loadE1 0 U28 rfl rfl ((at24).at) rfl rfl) hc12 fun a hF=>q_g (v:=(iV t_15)) hF hS (ex_move rfl) hc12 fun a hF=>?_
          obtain ⟨e_26,he_26,hj10⟩:=bindS hj10
          obtain ⟨vs27,at27,d27⟩:=h25.at he_26 1 rfl
          obtain rfl : vs27 = [(iV e_26)]:=d27
          refine q_g (v:=(elP s25 (t_15.toNat * 1))) hF hS (ex_indexAddr U28 sz3 rfl rfl (h25.idx he_26)) hc12 fun a hF=>q_g (v:=(iV e_26)) hF hS (ex_loadE1 0 U3 rfl rfl ((at27).at) rfl rfl) hc12 fun a hF=>q_g (v:=(.bool (decide (100000 < e_26)))) hF hS (ex_ibin rfl rfl rfl) hc12 fun a hF=>q_y (v:=(.bool (decide (100000 < e_26)))) hF hS (ex_pick_f rfl rfl hc12) fun a hF=>q_end (n_jn ?_)
          obtain rfl:=someI hj10
          exact ⟨hF.sub ⟨rfl,rfl,rfl,rfl,rfl,rfl,rfl,rfl,rfl,trivial⟩,hS⟩
         ·have hj10:=cond_t hc12 hj10
          refine q_k hF hc12 fun a hF=>q_k hF hc12 fun a hF=>q_k hF hc12 fun a hF=>q_k hF hc12 fun a hF=>q_k hF hc12 fun a hF=>q_k hF hc12 fun a hF=>q_k hF hc12 fun a hF=>q_k hF hc12 fun a hF=>q_k hF hc12 fun a hF=>q_y (v:=(.bool true)) hF hS (ex_pick_t rfl rfl hc12) fun a hF=>q_end (n_jn ?_)
          obtain rfl:=someI hj10
          exact ⟨hF.sub ⟨rfl,rfl,rfl,rfl,rfl,rfl,rfl,rfl,rfl,trivial⟩,hS⟩
        ·have hj10:=cond_t hc11 hj10
         refine q_k hF hc11 fun a hF=>q_k hF hc11 fun a hF=>q_k hF hc11 fun a hF=>q_k hF hc11 fun a hF=>q_k hF hc11 fun a hF=>q_k hF hc11 fun a hF=>q_k hF hc11 fun a hF=>q_k hF hc11 fun a hF=>q_k hF hc11 fun a hF=>q_k hF hc11 fun a hF=>q_y (v:=(.bool true)) hF hS (ex_pick_t rfl rfl hc11) fun a hF=>q_m hF rfl fun a hF=>q_k hF rfl fun a hF=>q_k hF rfl fun a hF=>q_k hF rfl fun a hF=>q_k hF rfl fun a hF=>q_k hF rfl fun a hF=>q_k hF rfl fun a hF=>q_k hF rfl fun a hF=>q_k hF rfl fun a hF=>q_k hF rfl fun a hF=>q_y (v:=(.bool true)) hF hS (ex_pick_t rfl rfl rfl) fun a hF=>q_end (n_jn ?_)
         obtain rfl:=someI hj10
         exact ⟨hF.sub ⟨rfl,rfl,rfl,rfl,rfl,rfl,rfl,rfl,rfl,trivial⟩,hS⟩
       ·rintro a w ⟨hF,hS⟩
        refine n_sq ?_
        rcases bcase (t_28) with hc13 | hc13
        ·have hb8:=cond_f hc13 hb8
         refine q_cond_f hF rfl hc13 (q_skipc (n_ib (n_sq (q_region (q_y (v:=(iV (w64 (t_15 + 1)))) hF hS (ex_ibin rfl rfl rfl) fun a hF=>q_m hF rfl fun a hF=>q_end ?_)))))
         obtain rfl:=someI hb8
         exact ⟨rfl,hF.sub ⟨rfl,rfl,rfl,rfl,rfl,rfl,rfl,rfl,trivial⟩,hS⟩
        ·have hb8:=cond_t hc13 hb8
         refine q_cond_t hF rfl hc13 (q_sr (q_s hF rfl fun a hF=>q_end (n_sq (q_ret (r_ib (r_sq ?_))))))
         obtain rfl:=someI hb8
         refine ⟨nofun,.inr fun ho=>?_⟩
         subst ho
         refine r_ib (r_ib (r_sq ?_))
         obtain rfl:=someI hb6
         refine ⟨nofun,.inr fun ho=>?_⟩
         subst ho
         refine r_ib (r_sq ?_)
         obtain rfl:=someI hr
         exact ret_of hF hS rfl (.tmp rfl .nil) rfl
     ·rintro e a w ⟨rfl,rfl,hF,hS⟩
      refine x_ib (n_ib (n_sq ?_))
      refine q_region (q_y (v:=(iV (w64 (t_11 + 1)))) hF hS (ex_ibin rfl rfl rfl) fun a hF=>q_m hF rfl fun a hF=>q_end ?_)
      obtain rfl:=someI hb6
      exact ⟨rfl,hF.sub ⟨rfl,rfl,rfl,rfl,trivial⟩,hS⟩
   ·rintro e a w ⟨rfl,rfl,hF,hS⟩
    refine x_ib (n_sq ?_)
    refine q_sr (q_s hF rfl fun a hF=>q_end (n_sq (q_ret ?_)))
    obtain rfl:=someI hr
    exact ret_of hF hS rfl (.tmp rfl .nil) rfl
  ·have hr:=cond_t hc5 hr
   refine q_cond_t hF rfl hc5 (q_sr (q_s hF rfl fun a hF=>q_end (n_sq (q_ret (r_sq ?_)))))
   obtain rfl:=someI hr
   exact ret_of hF hS rfl (.tmp rfl .nil) rfl

theorem c_spec_l1Most (p_a : Int) (p_b : Int) (r : Int) (hr : spec_l1Most p_a p_b = some r) (w0 : World) (m : Mem) (hv : Vis m w0) :
  Ret Try.prog 91 [(iV p_a),(iV p_b)] w0 (fun v _=>v = (iV r)):=by
 unfold spec_l1Most at hr
 refine ret_start Try.func91 rfl 10 rfl rfl m hv fun a hF hS=>q_sr (q_s hF rfl fun a hF=>q_end (n_sq (q_seq (q_sr (q_m hF rfl fun a hF=>q_m hF rfl fun a hF=>q_y (v:=(.bool (decide (p_b < p_a)))) hF hS (ex_ibin rfl rfl rfl) fun a hF=>q_end (n_sq ?_))))))
 rcases bcase (decide (p_b < p_a)) with hc1 | hc1
 ·have hr:=cond_f hc1 hr
  refine q_cond_f hF rfl hc1 (q_skipc (n_sq (q_sr (q_m hF rfl fun a hF=>q_s hF rfl fun a hF=>q_end (n_sq (q_ret ?_))))))
  obtain rfl:=someI hr
  exact ret_of hF hS rfl (.tmp rfl .nil) rfl
 ·have hr:=cond_t hc1 hr
  refine q_cond_t hF rfl hc1 (q_sr (q_m hF rfl fun a hF=>q_s hF rfl fun a hF=>q_end (n_sq (q_ret (r_sq ?_)))))
  obtain rfl:=someI hr
  exact ret_of hF hS rfl (.tmp rfl .nil) rfl

theorem c_spec_OriginalBounds (p_y : List (List Int)) (p_base : Int) (r : (List (List Int)) × (List (List Int)) × Bool) (hr : spec_OriginalBounds p_y p_base = some r) (w0 : World) (m : Mem) (hv : Vis m w0) (s1 : Sl) (h1 : Rd m s1 p_y) :
  Ret Try.prog 68 [s1.v,(iV p_base)] w0 (fun v w=>∃ (q0' : Piece) (q1' : Piece) (s0' : Sl) (s1' : Sl),v = (.tuple #[s0'.v,s1'.v,(.bool r.2.2)])∧St [] w0 w m [q0',q1']∧OwnD m 28 3 q0' s0' r.1∧OwnD m 28 3 q1' s1' r.2.1):=by
 unfold spec_OriginalBounds at hr
 refine ret_start Try.func68 rfl 64 rfl rfl m hv fun a hF hS=>q_sr (q_s hF rfl fun a hF=>q_s hF rfl fun a hF=>q_s hF rfl fun a hF=>q_end (n_sq (q_seq (q_sr (q_m hF rfl fun a hF=>q_m hF rfl fun a hF=>?_)))))
 obtain ⟨t_2,ht_2,hr⟩:=bindS hr
 refine q_call (vs:=[s1.v,(iV p_base)]) hF hS Try.func139 (by kernel_rfl) rfl rfl rfl (c_spec_oGood p_y p_base t_2 ht_2 _ m hS.vis s1 h1) ?_
 rintro a w _ rfl hF hS
 refine q_y (v:=(.bool (!t_2))) hF hS (ex_not rfl) fun a hF=>q_end (n_sq ?_)
 rcases bcase (!t_2) with hc1 | hc1
 ·have hr:=cond_f hc1 hr
  refine q_cond_f hF rfl hc1 (q_skipc (n_sq (q_sr (q_m hF rfl fun a hF=>?_))))
  obtain ⟨t_3,ht_3,hr⟩:=bindS hr
  refine q_call (vs:=[s1.v]) hF hS Try.func145 (by kernel_rfl) rfl rfl rfl (c_spec_tOwn p_y t_3 ht_3 _ m hS.vis s1 h1) ?_
  rintro a w _ ⟨q5,s5,rfl,hR4,h5⟩ hF hS2
  have hS : St _ _ _ _ [q5]:=hS.joinF hR4
  refine q_m hF rfl fun a hF=>?_
  obtain ⟨t_6,ht_6,hr⟩:=bindS hr
  refine q_call (vs:=[s1.v]) hF hS Try.func145 (by kernel_rfl) rfl rfl rfl (c_spec_tOwn p_y t_6 ht_6 _ m hS.vis s1 h1) ?_
  rintro a w _ ⟨q8,s8,rfl,hR7,h8⟩ hF hS2
  have hS : St _ _ _ _ [q8,q5]:=hS.joinF hR7
  refine q_s hF rfl fun a hF=>q_s hF rfl fun a hF=>q_end (n_sq (q_seq (q_sr (q_m hF rfl fun a hF=>q_y (v:=(iV (goLen p_y))) hF hS (ex_len U23 rfl h1.len) fun a hF=>q_m hF rfl fun a hF=>q_end (n_sq (q_block ?_))))))
  obtain ⟨o2,hl2,hr⟩:=bindS hr
  refine q_loop (fun (s : (List (List Int)) × (List (List Int)) × Int) a w=>∃ (q10 : Piece),∃ (q12 : Piece),∃ lo_9,∃ hi_11,∃ t_13,s = (lo_9,hi_11,t_13)∧Fr a 64 [(1,(iV p_base)),(7,s5.v),(8,s8.v),(21,s1.v),(22,(iV (goLen p_y))),(23,(iV t_13))]∧St [] w0 w m [q10,q12]∧OwnD m 28 3 q10 s5 lo_9∧OwnD m 28 3 q12 s8 hi_11) (fun (o : ((List (List Int)) × (List (List Int))) ⊕ ((List (List Int)) × (List (List Int)) × Bool)) e a w=>∃ (q41 : Piece),∃ (q43 : Piece),∃ lo_40,∃ hi_42,o = .inl (lo_40,hi_42)∧e = .exit 0∧Fr a 64 [(7,s5.v),(8,s8.v)]∧St [] w0 w m [q41,q43]∧OwnD m 28 3 q41 s5 lo_40∧OwnD m 28 3 q43 s8 hi_42) hl2 ⟨q5,q8,_,_,_,rfl,hF.sub ⟨rfl,rfl,rfl,rfl,rfl,rfl,trivial⟩,hS.sel [1,0] (by decide),h5,h8⟩ ?_ ?_
  ·clear hF hS
   rintro s a w st ⟨q10,q12,lo_9,hi_11,t_13,rfl,hF,hS,h10,h12⟩ hb2
   unfold spec_OriginalBounds_l1 at hb2
   refine q_sr (q_y (v:=(.bool (decide (t_13 < (goLen p_y))))) hF hS (ex_ibin rfl rfl rfl) fun a hF=>q_end (n_sq (q_seq ?_)))
   rcases bcase (decide (t_13 < (goLen p_y))) with hc3 | hc3
   ·have hb2:=cond_f hc3 hb2
    refine q_cond_f hF rfl hc3 (q_exit (x_sq ?_))
    obtain rfl:=someI hb2
    exact ⟨nofun,.inl ⟨q10,q12,_,_,rfl,rfl,hF.sub ⟨rfl,rfl,trivial⟩,hS,h10,h12⟩⟩
   ·have hb2:=cond_t hc3 hb2
    refine q_cond_t hF rfl hc3 (q_skipc (n_sq (q_seq (q_block (q_sr (q_m hF rfl fun a hF=>?_))))))
    obtain ⟨e_14,he_14,hb2⟩:=bindS hb2
    obtain ⟨vs15,at15,d15⟩:=h1.at he_14 1 rfl
    obtain ⟨s16,rfl,h16⟩ : ∃ s16 : Sl,vs15 = [s16.v]∧Rd m s16 e_14:=d15
    refine q_y (v:=(elP s1 (t_13.toNat * 1))) hF hS (ex_indexAddr U23 sz28 rfl rfl (h1.idx he_14)) fun a hF=>q_y (v:=s16.v) hF hS (ex_loadE1 0 U28 rfl rfl ((at15).at) rfl rfl) fun a hF=>q_s hF rfl fun a hF=>q_s hF rfl fun a hF=>q_end (n_sq (q_sr (q_m hF rfl fun a hF=>q_y (v:=(iV (goLen e_14))) hF hS (ex_len U28 rfl h16.len) fun a hF=>q_m hF rfl fun a hF=>q_end (n_sq (q_block ?_)))))
    obtain ⟨o4,hl4,hb2⟩:=bindS hb2
    refine q_loop (fun (s : (List (List Int)) × (List (List Int)) × Int) a w=>∃ (q18 : Piece),∃ (q20 : Piece),∃ lo_17,∃ hi_19,∃ t_21,s = (lo_17,hi_19,t_21)∧Fr a 64 [(1,(iV p_base)),(7,s5.v),(8,s8.v),(9,(iV t_13)),(21,s1.v),(22,(iV (goLen p_y))),(23,(iV t_13)),(28,s16.v),(29,(iV (goLen e_14))),(30,(iV t_21))]∧St [] w0 w m [q18,q20]∧OwnD m 28 3 q18 s5 lo_17∧OwnD m 28 3 q20 s8 hi_19) (fun (o : ((List (List Int)) × (List (List Int))) ⊕ (Stp ((List (List Int)) × (List (List Int)) × Int) (((List (List Int)) × (List (List Int))) ⊕ ((List (List Int)) × (List (List Int)) × Bool)))) e a w=>∃ (q37 : Piece),∃ (q39 : Piece),∃ lo_36,∃ hi_38,o = .inl (lo_36,hi_38)∧e = .exit 2∧Fr a 64 [(1,(iV p_base)),(7,s5.v),(8,s8.v),(21,s1.v),(22,(iV (goLen p_y))),(23,(iV t_13))]∧St [] w0 w m [q37,q39]∧OwnD m 28 3 q37 s5 lo_36∧OwnD m 28 3 q39 s8 hi_38) hl4 ⟨q10,q12,_,_,_,rfl,hF.sub ⟨rfl,rfl,rfl,rfl,rfl,rfl,rfl,rfl,rfl,rfl,trivial⟩,hS,h10,h12⟩ ?_ ?_
    ·clear hF hS
     rintro s a w st ⟨q18,q20,lo_17,hi_19,t_21,rfl,hF,hS,h18,h20⟩ hb4
     unfold spec_OriginalBounds_l2 at hb4
     refine q_sr (q_y (v:=(.bool (decide (t_21 < (goLen e_14))))) hF hS (ex_ibin rfl rfl rfl) fun a hF=>q_end (n_sq (q_seq ?_)))
     rcases bcase (decide (t_21 < (goLen e_14))) with hc5 | hc5
     ·have hb4:=cond_f hc5 hb4
      refine q_cond_f hF rfl hc5 (q_exit (x_sq ?_))
      obtain rfl:=someI hb4
      exact ⟨nofun,.inl ⟨q18,q20,_,_,rfl,rfl,hF.sub ⟨rfl,rfl,rfl,rfl,rfl,rfl,trivial⟩,hS,h18,h20⟩⟩
     ·have hb4:=cond_t hc5 hb4
      refine q_cond_t hF rfl hc5 (q_skipc (n_sq (q_seq (q_block (q_sr (q_m hF rfl fun a hF=>?_))))))
      obtain ⟨e_22,he_22,hb4⟩:=bindS hb4
      obtain ⟨vs23,at23,d23⟩:=h16.at he_22 1 rfl
      obtain rfl : vs23 = [(iV e_22)]:=d23
      refine q_y (v:=(elP s16 (t_21.toNat * 1))) hF hS (ex_indexAddr U28 sz3 rfl rfl (h16.idx he_22)) fun a hF=>q_y (v:=(iV e_22)) hF hS (ex_loadE1 0 U3 rfl rfl ((at23).at) rfl rfl) fun a hF=>q_s hF rfl fun a hF=>q_s hF rfl fun a hF=>q_end (n_sq (q_seq (q_sr (q_m hF rfl fun a hF=>q_m hF rfl fun a hF=>?_))))
      obtain ⟨t_24,ht_24,hb4⟩:=bindS hb4
      refine q_y (v:=(iV t_24)) hF hS (ex_rem rfl rfl ht_24) fun a hF=>q_y (v:=(.bool (t_24 != 0))) hF hS (ex_ibin rfl rfl rfl) fun a hF=>q_end (n_sq ?_)
      rcases bcase (t_24 != 0) with hc6 | hc6
      ·have hb4:=cond_f hc6 hb4
       refine q_cond_f hF rfl hc6 (q_skipc (n_sq (q_seq (e_region ⟨[11],[],m⟩ mixed fun w' hw'=>?_))))
       have hS:=hS.below hw'
       refine e_P (v:=s5.v) 0 hF rfl (ex_move rfl) fun a hF=>e_P (v:=(iV t_13)) 1 hF rfl (ex_move rfl) fun a hF=>?_
       obtain ⟨e_25,he_25,hb4⟩:=bindS hb4
       obtain ⟨s26,hV26⟩:=h18.view he_25
       refine e_P (v:=(elP s5 (t_13.toNat * 1))) 2 hF rfl (ex_indexAddr U23 sz28 rfl rfl (h18.idx he_25)) fun a hF=>e_X (v:=s26.v) 3 hF hS rfl (ex_loadE1 0 U28 rfl rfl ((hV26.atH he_25).at 0 rfl) rfl rfl) fun a hF=>e_P (v:=(iV t_21)) 4 hF rfl (ex_move rfl) fun a hF=>e_P (v:=(iV e_22)) 5 hF rfl (ex_move rfl) fun a hF=>e_P (v:=(iV p_base)) 6 hF rfl (ex_move rfl) fun a hF=>e_P (v:=(iV (w64 (e_22 - p_base)))) 7 hF rfl (ex_ibin rfl rfl rfl) fun a hF=>e_P (v:=(iV (w64 ((w64 (e_22 - p_base)) + 1)))) 8 hF rfl (ex_ibin rfl rfl rfl) fun a hF=>e_one 9 (by kernel_rfl) ?_
       obtain ⟨t_27,ht_27,hb4⟩:=bindS hb4
       refine e_call (vs:=[(iV 0),(iV (w64 ((w64 (e_22 - p_base)) + 1)))]) hF hS rfl Try.func91 (by kernel_rfl) rfl rfl rfl (c_spec_l1Most 0 (w64 ((w64 (e_22 - p_base)) + 1)) t_27 ht_27 _ m hS.vis) ?_
       rintro a w _ rfl hF hS
       obtain ⟨e_28,he_28,hb4⟩:=bindS hb4
       obtain ⟨vs29,at29,d29⟩:=hV26.at he_25 he_28 1 rfl
       obtain rfl : vs29 = [(iV e_28)]:=d29
       refine e_P (v:=(elP s26 (t_21.toNat * 1))) 10 hF rfl (ex_indexAddr U28 sz3 rfl rfl (hV26.idx he_25 he_28)) fun a hF=>e_one 11 (by kernel_rfl) (e_opl rfl rfl rfl fun _ hK=>wp_storeV (e':=t_27) (us:=[(iV t_27)]) (vs:=[(iV e_28)]) 0 hF hS hV26 he_25 sz3 rfl rfl rfl rfl rfl rfl rfl he_28 at29 rfl rfl rfl fun w q30 hS h30=>hK _ _ (⟨⟨kpN,fun _=>hS.vis.of_le (Mem.le.refl _)⟩,?_⟩))
       refine e_end (by kernel_rfl) (n_sq ?_) _
       refine q_region (q_m hF rfl fun a hF=>q_m hF rfl fun a hF=>?_)
       obtain ⟨e_31,he_31,hb4⟩:=bindS hb4
       obtain ⟨s32,hV32⟩:=h20.view he_31
       refine q_y (v:=(elP s8 (t_13.toNat * 1))) hF hS (ex_indexAddr U23 sz28 rfl rfl (h20.idx he_31)) fun a hF=>q_y (v:=s32.v) hF hS (ex_loadE1 0 U28 rfl rfl ((hV32.atH he_31).at 1 rfl) rfl rfl) fun a hF=>q_m hF rfl fun a hF=>q_m hF rfl fun a hF=>q_m hF rfl fun a hF=>q_y (v:=(iV (w64 (e_22 + p_base)))) hF hS (ex_ibin rfl rfl rfl) fun a hF=>q_y (v:=(iV (w64 ((w64 (e_22 + p_base)) - 1)))) hF hS (ex_ibin rfl rfl rfl) fun a hF=>?_
       obtain ⟨e_33,he_33,hb4⟩:=bindS hb4
       obtain ⟨vs34,at34,d34⟩:=hV32.at he_31 he_33 1 rfl
       obtain rfl : vs34 = [(iV e_33)]:=d34
       refine q_y (v:=(elP s32 (t_21.toNat * 1))) hF hS (ex_indexAddr U28 sz3 rfl rfl (hV32.idx he_31 he_33)) fun a hF=>?_
       have hS : St _ _ _ _ [q20,q30]:=hS.sel [1,0] (by decide)
       refine q_do rfl fun _ hK=>wp_storeV (e':=(w64 ((w64 (e_22 + p_base)) - 1))) (us:=[(iV (w64 ((w64 (e_22 + p_base)) - 1)))]) (vs:=[(iV e_33)]) 0 hF hS hV32 he_31 sz3 rfl rfl rfl rfl rfl rfl rfl he_33 at34 rfl rfl rfl fun w q35 hS h35=>hK _ _ (q_end (n_ib (n_sq (q_region (q_y (v:=(iV (w64 (t_21 + 1)))) hF hS (ex_ibin rfl rfl rfl) fun a hF=>q_m hF rfl fun a hF=>q_end ?_)))))
       obtain rfl:=someI hb4
       exact ⟨rfl,q30,q35,_,_,_,rfl,hF.sub ⟨rfl,rfl,rfl,rfl,rfl,rfl,rfl,rfl,rfl,rfl,trivial⟩,hS.sel [1,0] (by decide),h30.own,h35.own⟩
      ·have hb4:=cond_t hc6 hb4
       refine q_cond_t hF rfl hc6 (q_sr (q_s hF rfl fun a hF=>q_s hF rfl fun a hF=>q_s hF rfl fun a hF=>q_end (n_sq (q_ret (r_sq (r_ib (r_sq ?_)))))))
       obtain rfl:=someI hb4
       refine ⟨nofun,.inr fun ho=>?_⟩
       subst ho
       refine r_ib (r_ib (r_sq ?_))
       obtain rfl:=someI hb2
       refine ⟨nofun,.inr fun ho=>?_⟩
       subst ho
       refine r_ib (r_sq ?_)
       obtain rfl:=someI hr
       exact ret_of hF hS rfl (.tmp rfl (.tmp rfl (.tmp rfl .nil))) ⟨[],[],nilS,nilS,rfl,hS.sel [2,3] (by decide),(OwnD.nil (β:=Int) m 28 3),(OwnD.nil (β:=Int) m 28 3)⟩
    ·rintro e a w ⟨q37,q39,lo_36,hi_38,rfl,rfl,hF,hS,h37,h39⟩
     refine x_ib (n_ib (n_sq ?_))
     refine q_region (q_y (v:=(iV (w64 (t_13 + 1)))) hF hS (ex_ibin rfl rfl rfl) fun a hF=>q_m hF rfl fun a hF=>q_end ?_)
     obtain rfl:=someI hb2
     exact ⟨rfl,q37,q39,_,_,_,rfl,hF.sub ⟨rfl,rfl,rfl,rfl,rfl,rfl,trivial⟩,hS,h37,h39⟩
  ·rintro e a w ⟨q41,q43,lo_40,hi_42,rfl,rfl,hF,hS,h41,h43⟩
   refine x_ib (n_sq ?_)
   refine q_sr (q_m hF rfl fun a hF=>q_m hF rfl fun a hF=>q_s hF rfl fun a hF=>q_s hF rfl fun a hF=>q_s hF rfl fun a hF=>q_end (n_sq (q_ret ?_)))
   obtain rfl:=someI hr
   exact ret_of hF hS rfl (.tmp rfl (.tmp rfl (.tmp rfl .nil))) ⟨q41,q43,s5,s8,rfl,hS.sel [0,1] (by decide),h41,h43⟩
 ·have hr:=cond_t hc1 hr
  refine q_cond_t hF rfl hc1 (q_sr (q_s hF rfl fun a hF=>q_s hF rfl fun a hF=>q_s hF rfl fun a hF=>q_end (n_sq (q_ret (r_sq ?_)))))
  obtain rfl:=someI hr
  exact ret_of hF hS rfl (.tmp rfl (.tmp rfl (.tmp rfl .nil))) ⟨[],[],nilS,nilS,rfl,hS.sel [0,1] (by decide),(OwnD.nil (β:=Int) m 28 3),(OwnD.nil (β:=Int) m 28 3)⟩

theorem c_impl_nextFlow (p_t : impl_Transport) (p_x : List (List Int)) (r : (List (List Int))) (hr : impl_nextFlow p_t p_x = some r) (w0 : World) (m : Mem) (hv : Vis m w0) (s1 : Sl) (h1 : Rd m s1 p_t.Rows) (s2 : Sl) (h2 : Rd m s2 p_t.Cols) (s3 : Sl) (h3 : Rd m s3 p_t.Lo) (s4 : Sl) (h4 : Rd m s4 p_t.Hi) (s5 : Sl) (h5 : Rd m s5 p_x) :
  Ret Try.prog 125 [(.agg #[s1.v,s2.v,s3.v,s4.v]),s5.v] w0 (fun v w=>∃ (q0' : Piece) (s0' : Sl),v = s0'.v∧St [] w0 w m [q0']∧OwnD m 28 3 q0' s0' r∧NF s0' r):=by
 unfold impl_nextFlow at hr
 refine ret_start Try.func125 rfl 77 rfl rfl m hv fun a hF hS=>q_sr (q_box (cs:=[s1.v,s2.v,s3.v,s4.v]) hF hS rfl rfl rfl fun a w b6 hF hS=>q_s hF rfl fun a hF=>q_end (n_sq (q_seq (e_region ⟨[],[],m⟩ mixed fun w' hw'=>?_))))
 have hS:=hS.below hw'
 refine e_P (v:=(pP b6 0)) 0 hF rfl (ex_fieldAddr U50 rfl sz28 rfl rfl) fun a hF=>e_X (v:=s1.v) 1 hF hS rfl (ex_load1 0 0 U28 rfl rfl rfl rfl) fun a hF=>e_P (v:=(iV (goLen p_t.Rows))) 2 hF rfl (ex_len U28 rfl h1.len) fun a hF=>e_P (v:=(pP b6 1)) 3 hF rfl (ex_fieldAddr U50 rfl sz28 rfl rfl) fun a hF=>e_X (v:=s2.v) 4 hF hS rfl (ex_load1 0 0 U28 rfl rfl rfl rfl) fun a hF=>e_P (v:=(iV (goLen p_t.Cols))) 5 hF rfl (ex_len U28 rfl h2.len) fun a hF=>e_P (v:=(iV (goLen p_t.Rows))) 6 hF rfl (ex_assign rfl) fun a hF=>e_P (v:=(iV (goLen p_t.Cols))) 7 hF rfl (ex_assign rfl) fun a hF=>e_end (by kernel_rfl) (n_sq ?_) _
 refine q_seq (q_sr (q_m hF rfl fun a hF=>q_m hF rfl fun a hF=>q_y (v:=(iV (w64 ((goLen p_t.Rows) * (goLen p_t.Cols))))) hF hS (ex_ibin rfl rfl rfl) fun a hF=>q_y (v:=(iV (w64 ((w64 ((goLen p_t.Rows) * (goLen p_t.Cols))) - 1)))) hF hS (ex_ibin rfl rfl rfl) fun a hF=>q_s hF rfl fun a hF=>q_end (n_sq (q_block ?_))))
 obtain ⟨o1,hl1,hr⟩:=bindS hr
 refine q_loop (fun (p_7 : Int) a w=>Fr a 77 [(1,s5.v),(2,(pP b6 0)),(5,(iV (goLen p_t.Rows))),(6,(iV (goLen p_t.Cols))),(7,(iV p_7))]∧St [] w0 w m [[⟨b6,[s1.v,s2.v,s3.v,s4.v],50⟩]]) (fun (o : (Unit) ⊕ ((List (List Int)))) e a w=>o = .inl ()∧e = .exit 0∧Fr a 77 []∧St [] w0 w m []) hl1 ⟨hF.sub ⟨rfl,rfl,rfl,rfl,rfl,trivial⟩,hS⟩ ?_ ?_
 ·clear hF hS
  rintro p_7 a w st ⟨hF,hS⟩ hb1
  unfold impl_nextFlow_l1 at hb1
  refine q_seq (q_sr (q_m hF rfl fun a hF=>q_y (v:=(.bool (decide (0 ≤ p_7)))) hF hS (ex_ibin rfl rfl rfl) fun a hF=>q_end (n_sq ?_)))
  rcases bcase (decide (0 ≤ p_7)) with hc2 | hc2
  ·have hb1:=cond_f hc2 hb1
   refine q_cond_f hF rfl hc2 (q_exit (x_sq ?_))
   obtain rfl:=someI hb1
   exact ⟨nofun,.inl ⟨rfl,rfl,hF.sub trivial,hS.mask [false]⟩⟩
  ·have hb1:=cond_t hc2 hb1
   refine q_cond_t hF rfl hc2 (q_skipc (n_sq (q_seq ?_)))
   obtain ⟨j3,hj3,hb1⟩:=bindS hb1
   refine q_join (fun a w=>j3 = .inl ()∧Fr a 77 [(1,s5.v),(2,(pP b6 0)),(5,(iV (goLen p_t.Rows))),(6,(iV (goLen p_t.Cols))),(7,(iV p_7))]∧St [] w0 w m [[⟨b6,[s1.v,s2.v,s3.v,s4.v],50⟩]]) ?_ ?_
   ·refine q_block (q_seq (e_region ⟨[],[],m⟩ mixed fun w' hw'=>?_))
    have hS:=hS.below hw'
    refine e_P (v:=(iV p_7)) 0 hF rfl (ex_move rfl) fun a hF=>e_P (v:=(iV (goLen p_t.Cols))) 1 hF rfl (ex_move rfl) fun a hF=>?_
    obtain ⟨t_8,ht_8,hj3⟩:=bindS hj3
    refine e_P (v:=(iV t_8)) 2 hF rfl (ex_quo rfl rfl ht_8) fun a hF=>e_P (v:=(iV p_7)) 3 hF rfl (ex_move rfl) fun a hF=>e_P (v:=(iV (goLen p_t.Cols))) 4 hF rfl (ex_move rfl) fun a hF=>?_
    obtain ⟨t_9,ht_9,hj3⟩:=bindS hj3
    refine e_P (v:=(iV t_9)) 5 hF rfl (ex_rem rfl rfl ht_9) fun a hF=>e_P (v:=(iV t_8)) 6 hF rfl (ex_assign rfl) fun a hF=>e_P (v:=(iV t_9)) 7 hF rfl (ex_assign rfl) fun a hF=>e_end (by kernel_rfl) (n_sq ?_) _
    refine q_seq (q_seq (e_region ⟨[],[],m⟩ mixed fun w' hw'=>?_))
    have hS:=hS.below hw'
    refine e_P (v:=s5.v) 0 hF rfl (ex_move rfl) fun a hF=>e_P (v:=(iV t_8)) 1 hF rfl (ex_move rfl) fun a hF=>?_
    obtain ⟨e_10,he_10,hj3⟩:=bindS hj3
    obtain ⟨vs11,at11,d11⟩:=h5.at he_10 1 rfl
    obtain ⟨s12,rfl,h12⟩ : ∃ s12 : Sl,vs11 = [s12.v]∧Rd m s12 e_10:=d11
    refine e_P (v:=(elP s5 (t_8.toNat * 1))) 2 hF rfl (ex_indexAddr U23 sz28 rfl rfl (h5.idx he_10)) fun a hF=>e_xm (v:=s12.v) 3 hF hS (Mem.le.refl _) rfl (ex_loadE1 0 U28 rfl rfl ((at11).at) rfl rfl) rfl rfl (by kernel_rfl) (by kernel_rfl) (by kernel_rfl) fun a hF=>e_P (v:=(iV t_9)) 4 hF rfl (ex_move rfl) fun a hF=>?_
    obtain ⟨e_13,he_13,hj3⟩:=bindS hj3
    obtain ⟨vs14,at14,d14⟩:=h12.at he_13 1 rfl
    obtain rfl : vs14 = [(iV e_13)]:=d14
    refine e_P (v:=(elP s12 (t_9.toNat * 1))) 5 hF rfl (ex_indexAddr U28 sz3 rfl rfl (h12.idx he_13)) fun a hF=>e_xm (v:=(iV e_13)) 6 hF hS (Mem.le.refl _) rfl (ex_loadE1 0 U3 rfl rfl ((at14).at) rfl rfl) rfl rfl (by kernel_rfl) (by kernel_rfl) (by kernel_rfl) fun a hF=>e_P (v:=(pP b6 3)) 7 hF rfl (ex_fieldAddr U50 rfl sz23 rfl rfl) fun a hF=>e_X (v:=s4.v) 8 hF hS rfl (ex_load1 0 0 U23 rfl rfl rfl rfl) fun a hF=>e_P (v:=(iV t_8)) 9 hF rfl (ex_move rfl) fun a hF=>?_
    obtain ⟨e_15,he_15,hj3⟩:=bindS hj3
    obtain ⟨vs16,at16,d16⟩:=h4.at he_15 1 rfl
    obtain ⟨s17,rfl,h17⟩ : ∃ s17 : Sl,vs16 = [s17.v]∧Rd m s17 e_15:=d16
    refine e_P (v:=(elP s4 (t_8.toNat * 1))) 10 hF rfl (ex_indexAddr U23 sz28 rfl rfl (h4.idx he_15)) fun a hF=>e_xm (v:=s17.v) 11 hF hS (Mem.le.refl _) rfl (ex_loadE1 0 U28 rfl rfl ((at16).at) rfl rfl) rfl rfl (by kernel_rfl) (by kernel_rfl) (by kernel_rfl) fun a hF=>e_P (v:=(iV t_9)) 12 hF rfl (ex_move rfl) fun a hF=>?_
    obtain ⟨e_18,he_18,hj3⟩:=bindS hj3
    obtain ⟨vs19,at19,d19⟩:=h17.at he_18 1 rfl
    obtain rfl : vs19 = [(iV e_18)]:=d19
    refine e_P (v:=(elP s17 (t_9.toNat * 1))) 13 hF rfl (ex_indexAddr U28 sz3 rfl rfl (h17.idx he_18)) fun a hF=>e_xm (v:=(iV e_18)) 14 hF hS (Mem.le.refl _) rfl (ex_loadE1 0 U3 rfl rfl ((at19).at) rfl rfl) rfl rfl (by kernel_rfl) (by kernel_rfl) (by kernel_rfl) fun a hF=>e_P (v:=(.bool (e_13 == e_18))) 15 hF rfl (ex_ibin rfl rfl rfl) fun a hF=>e_end (by kernel_rfl) (n_sq ?_) _
    rcases bcase (e_13 == e_18) with hc4 | hc4
    ·have hj3:=cond_f hc4 hj3
     refine q_cond_f hF rfl hc4 (q_skipc (n_sq (q_sr (q_y (v:=(.agg #[s1.v,s2.v,s3.v,s4.v])) hF hS (ex_loadA (vs:=[s1.v,s2.v,s3.v,s4.v]) 0 0 U50 rfl sz50 rfl rfl rfl rfl) fun a hF=>q_m hF rfl fun a hF=>q_m hF rfl fun a hF=>?_))))
     obtain ⟨t_20,ht_20,hj3⟩:=bindS hj3
     refine q_call (vs:=[(.agg #[s1.v,s2.v,s3.v,s4.v]),s5.v,(iV p_7)]) hF hS Try.func155 (by kernel_rfl) rfl rfl rfl (c_impl_residual p_t p_x p_7 t_20 ht_20 _ m hS.vis s1 h1 s2 h2 s3 h3 s4 h4 s5 h5) ?_
     rintro a w _ ⟨q22,s22,rfl,hR21,h22⟩ hF hS2
     have hS : St _ _ _ _ [q22,[⟨b6,[s1.v,s2.v,s3.v,s4.v],50⟩]]:=hS.joinF hR21
     refine q_s hF rfl fun a hF=>q_end (n_sq (q_seq (q_sr (q_m hF rfl fun a hF=>q_m hF rfl fun a hF=>q_m hF rfl fun a hF=>q_y (v:=(iV (w64 ((goLen p_t.Rows) + t_9)))) hF hS (ex_ibin rfl rfl rfl) fun a hF=>q_m hF rfl fun a hF=>?_))))
     have hS23 : St _ _ _ _ ([q22]++[[⟨b6,[s1.v,s2.v,s3.v,s4.v],50⟩]]):=hS
     have hE23:=hS23.enter
     obtain ⟨t_24,ht_24,hj3⟩:=bindS hj3
     refine q_do rfl fun _ hK=>wp_callX (vs:=[s22.v,(iV (w64 ((goLen p_t.Rows) + t_9))),(iV t_8),(iV 1)]) hF Try.func156 (by kernel_rfl) rfl rfl rfl (c_impl_push t_20 (w64 ((goLen p_t.Rows) + t_9)) t_8 1 t_24 ht_24 _ m s22 q22 h22 _ hE23) fun a w _ hR hF=>hK _ _ ?_
     obtain ⟨q25,rfl,hR23,h25⟩:=hR
     have hS : St _ _ _ _ [q25,[⟨b6,[s1.v,s2.v,s3.v,s4.v],50⟩]]:=hS23.leaveF hR23
     refine q_y (v:=(.bool (t_24.1 == 0))) hF hS (ex_ibin rfl rfl rfl) fun a hF=>q_end (n_sq ?_)
     rcases bcase (t_24.1 == 0) with hc5 | hc5
     ·have hj3:=cond_f hc5 hj3
      refine q_cond_f hF rfl hc5 (q_skipc (n_sq (q_sr (q_y (v:=(.agg #[s1.v,s2.v,s3.v,s4.v])) hF hS (ex_loadA (vs:=[s1.v,s2.v,s3.v,s4.v]) 1 0 U50 rfl sz50 rfl rfl rfl rfl) fun a hF=>q_m hF rfl fun a hF=>q_m hF rfl fun a hF=>q_m hF rfl fun a hF=>?_))))
      obtain ⟨m27,hl27,hv27,hz27⟩:=hS.lend
      obtain ⟨t_26,ht_26,hj3⟩:=bindS hj3
      refine q_call (vs:=[(.agg #[s1.v,s2.v,s3.v,s4.v]),s5.v,s22.v,(iV p_7)]) hF hS Try.func169 (by kernel_rfl) rfl rfl rfl (c_impl_restore p_t p_x t_24.2 p_7 t_26 ht_26 _ m27 hv27 s1 (h1.mono hl27) s2 (h2.mono hl27) s3 (h3.mono hl27) s4 (h4.mono hl27) s5 (h5.mono hl27) s22 (h25.froz hl27 (hz27 0 _ rfl))) ?_
      rintro a w _ ⟨q29,s29,rfl,hR28,h29,h29n⟩ hF hS2
      have hS : St _ _ _ _ [q29,q25,[⟨b6,[s1.v,s2.v,s3.v,s4.v],50⟩]]:=hS.joinF hR28
      have h29:=h29.any m
      refine q_s hF rfl fun a hF=>q_end (n_sq (q_sr (q_m hF rfl fun a hF=>q_m hF rfl fun a hF=>?_)))
      obtain ⟨e_30,he_30,hj3⟩:=bindS hj3
      obtain ⟨s31,hV31⟩:=h29.view he_30
      refine q_y (v:=(elP s29 (t_8.toNat * 1))) hF hS (ex_indexAddr U23 sz28 rfl rfl (h29.idx he_30)) fun a hF=>q_y (v:=s31.v) hF hS (ex_loadE1 0 U28 rfl rfl ((hV31.atH he_30).at 0 rfl) rfl rfl) fun a hF=>q_m hF rfl fun a hF=>?_
      obtain ⟨e_32,he_32,hj3⟩:=bindS hj3
      obtain ⟨vs33,at33,d33⟩:=hV31.at he_30 he_32 1 rfl
      obtain rfl : vs33 = [(iV e_32)]:=d33
      refine q_y (v:=(elP s31 (t_9.toNat * 1))) hF hS (ex_indexAddr U28 sz3 rfl rfl (hV31.idx he_30 he_32)) fun a hF=>q_y (v:=(iV e_32)) hF hS (ex_loadE1 0 U3 rfl rfl (at33.at 0 rfl) rfl rfl) fun a hF=>q_y (v:=(iV (w64 (e_32 + 1)))) hF hS (ex_ibin rfl rfl rfl) fun a hF=>?_
      obtain ⟨e_34,he_34,hj3⟩:=bindS hj3
      obtain ⟨vs35,at35,d35⟩:=hV31.at he_30 he_34 1 rfl
      obtain rfl : vs35 = [(iV e_34)]:=d35
      refine q_y (v:=(elP s31 (t_9.toNat * 1))) hF hS (ex_indexAddr U28 sz3 rfl rfl (hV31.idx he_30 he_34)) fun a hF=>q_do rfl fun _ hK=>wp_storeV (e':=(w64 (e_32 + 1))) (us:=[(iV (w64 (e_32 + 1)))]) (vs:=[(iV e_34)]) 0 hF hS hV31 he_30 sz3 rfl rfl rfl rfl rfl rfl rfl he_34 at35 rfl rfl rfl fun w q36 hS h36=>hK _ _ (q_end (n_sq (q_sr (q_y (v:=(.agg #[s1.v,s2.v,s3.v,s4.v])) hF hS (ex_loadA (vs:=[s1.v,s2.v,s3.v,s4.v]) 2 0 U50 rfl sz50 rfl rfl rfl rfl) fun a hF=>q_m hF rfl fun a hF=>q_m hF rfl fun a hF=>?_))))
      have hS37 : St _ _ _ _ ([q36]++[q25,[⟨b6,[s1.v,s2.v,s3.v,s4.v],50⟩]]):=hS
      have hE37:=hS37.enter
      obtain ⟨t_38,ht_38,hj3⟩:=bindS hj3
      refine q_do rfl fun _ hK=>wp_callX (vs:=[(.agg #[s1.v,s2.v,s3.v,s4.v]),s29.v,(iV p_7)]) hF Try.func163 (by kernel_rfl) rfl rfl rfl (c_impl_firstFrom p_t (goSet t_26 t_8 (goSet e_30 t_9 (w64 (e_32 + 1)))) p_7 t_38 ht_38 _ m s1 h1 s2 h2 s3 h3 s4 h4 s29 q36 h36.own _ hE37) fun a w _ hR hF=>hK _ _ ?_
      obtain ⟨q39,s39,rfl,hR37,h39,h39n⟩:=hR
      have hS : St _ _ _ _ [q39,q25,[⟨b6,[s1.v,s2.v,s3.v,s4.v],50⟩]]:=hS37.leaveF hR37
      refine q_s hF rfl fun a hF=>q_end (n_sq (q_ret (r_ib (r_jn ?_))))
      obtain rfl:=someI hj3
      refine r_sq ?_
      obtain rfl:=someI hb1
      refine ⟨nofun,.inr fun ho=>?_⟩
      subst ho
      refine r_ib (r_sq ?_)
      obtain rfl:=someI hr
      exact ret_of hF hS rfl (.tmp rfl .nil) ⟨q39,s39,rfl,hS.sel [0] (by decide),h39,h39n⟩
     ·have hj3:=cond_t hc5 hj3
      refine q_cond_t hF rfl hc5 (q_exit (x_sq (x_ib (n_jn ?_))))
      obtain rfl:=someI hj3
      exact ⟨rfl,hF.sub ⟨rfl,rfl,rfl,rfl,rfl,trivial⟩,hS.mask [false,true]⟩
    ·have hj3:=cond_t hc4 hj3
     refine q_cond_t hF rfl hc4 (q_exit (x_sq (x_ib (n_jn ?_))))
     obtain rfl:=someI hj3
     exact ⟨rfl,hF.sub ⟨rfl,rfl,rfl,rfl,rfl,trivial⟩,hS⟩
   ·rintro a w ⟨rfl,hF,hS⟩
    refine n_sq ?_
    refine q_region (q_m hF rfl fun a hF=>q_y (v:=(iV (w64 (p_7 - 1)))) hF hS (ex_ibin rfl rfl rfl) fun a hF=>q_s hF rfl fun a hF=>q_end ?_)
    obtain rfl:=someI hb1
    exact ⟨rfl,hF.sub ⟨rfl,rfl,rfl,rfl,rfl,trivial⟩,hS⟩
 ·rintro e a w ⟨rfl,rfl,hF,hS⟩
  refine x_ib (n_sq ?_)
  refine q_sr (q_s hF rfl fun a hF=>q_end (n_sq (q_ret ?_)))
  obtain rfl:=someI hr
  exact ret_of hF hS rfl (.tmp rfl .nil) ⟨[],nilS,rfl,hS.sel [0] (by decide),(OwnD.nil (β:=Int) m 28 3),(NF.nil)⟩

theorem c_impl_countFlows (p_t : impl_Transport) (r : Int × Bool) (hr : impl_countFlows p_t = some r) (w0 : World) (m : Mem) (hv : Vis m w0) (s1 : Sl) (h1 : Rd m s1 p_t.Rows) (s2 : Sl) (h2 : Rd m s2 p_t.Cols) (s3 : Sl) (h3 : Rd m s3 p_t.Lo) (s4 : Sl) (h4 : Rd m s4 p_t.Hi) :
  Ret Try.prog 102 [(.agg #[s1.v,s2.v,s3.v,s4.v])] w0 (fun v _=>v = (.tuple #[(iV r.1),(.bool r.2)])):=by
 unfold impl_countFlows at hr
 refine ret_start Try.func102 rfl 26 rfl rfl m hv fun a hF hS=>q_sr (q_box (cs:=[s1.v,s2.v,s3.v,s4.v]) hF hS rfl rfl rfl fun a w b5 hF hS=>q_s hF rfl fun a hF=>q_s hF rfl fun a hF=>q_end (n_sq (q_seq (q_sr (q_y (v:=(pP b5 0)) hF hS (ex_fieldAddr U50 rfl sz28 rfl rfl) fun a hF=>q_y (v:=s1.v) hF hS (ex_load1 0 0 U28 rfl rfl rfl rfl) fun a hF=>q_y (v:=(iV (goLen p_t.Rows))) hF hS (ex_len U28 rfl h1.len) fun a hF=>q_y (v:=(pP b5 1)) hF hS (ex_fieldAddr U50 rfl sz28 rfl rfl) fun a hF=>q_y (v:=s2.v) hF hS (ex_load1 0 0 U28 rfl rfl rfl rfl) fun a hF=>q_y (v:=(iV (goLen p_t.Cols))) hF hS (ex_len U28 rfl h2.len) fun a hF=>q_y (v:=(iV (w64 ((goLen p_t.Rows) * (goLen p_t.Cols))))) hF hS (ex_ibin rfl rfl rfl) fun a hF=>q_y (v:=(.bool (decide (16 < (w64 ((goLen p_t.Rows) * (goLen p_t.Cols))))))) hF hS (ex_ibin rfl rfl rfl) fun a hF=>q_end (n_sq ?_))))))
 rcases bcase (decide (16 < (w64 ((goLen p_t.Rows) * (goLen p_t.Cols))))) with hc1 | hc1
 ·have hr:=cond_f hc1 hr
  refine q_cond_f hF rfl hc1 (q_skipc (n_sq (q_sr (q_s hF rfl fun a hF=>q_end (n_sq (q_seq (q_sr (q_y (v:=(.agg #[s1.v,s2.v,s3.v,s4.v])) hF hS (ex_loadA (vs:=[s1.v,s2.v,s3.v,s4.v]) 0 0 U50 rfl sz50 rfl rfl rfl rfl) fun a hF=>?_))))))))
  obtain ⟨t_6,ht_6,hr⟩:=bindS hr
  refine q_call (vs:=[(.agg #[s1.v,s2.v,s3.v,s4.v])]) hF hS Try.func117 (by kernel_rfl) rfl rfl rfl (c_impl_firstFlow p_t t_6 ht_6 _ m hS.vis s1 h1 s2 h2 s3 h3 s4 h4) ?_
  rintro a w _ ⟨q8,s8,rfl,hR7,h8,h8n⟩ hF hS2
  have hS : St _ _ _ _ [q8,[⟨b5,[s1.v,s2.v,s3.v,s4.v],50⟩]]:=hS.joinF hR7
  refine q_s hF rfl fun a hF=>q_end (n_sq (q_block ?_))
  obtain ⟨o2,hl2,hr⟩:=bindS hr
  refine q_loop (fun (s : Int × (List (List Int))) a w=>∃ (q11 : Piece),∃ (s11 : Sl),∃ n_9,∃ x_10,s = (n_9,x_10)∧Fr a 26 [(1,(pP b5 0)),(4,(iV n_9)),(5,s11.v)]∧St [] w0 w m [q11,[⟨b5,[s1.v,s2.v,s3.v,s4.v],50⟩]]∧OwnD m 28 3 q11 s11 x_10∧NF s11 x_10) (fun (o : (Int) ⊕ (Int × Bool)) e a w=>∃ n_16,o = .inl n_16∧e = .exit 0∧Fr a 26 [(4,(iV n_16))]∧St [] w0 w m []) hl2 ⟨q8,s8,_,_,rfl,hF.sub ⟨rfl,rfl,rfl,trivial⟩,hS,h8,h8n⟩ ?_ ?_
  ·clear hF hS
   rintro s a w st ⟨q11,s11,n_9,x_10,rfl,hF,hS,h11,h11n⟩ hb2
   unfold impl_countFlows_l1 at hb2
   refine q_seq (q_sr (q_m hF rfl fun a hF=>q_y (v:=(.bool (!x_10.isEmpty))) hF hS (ex_neNilF U23 h11n h11.nilE rfl rfl) fun a hF=>q_end (n_sq ?_)))
   rcases bcase (!x_10.isEmpty) with hc3 | hc3
   ·have hb2:=cond_f hc3 hb2
    refine q_cond_f hF rfl hc3 (q_exit (x_sq ?_))
    obtain rfl:=someI hb2
    exact ⟨nofun,.inl ⟨_,rfl,rfl,hF.sub ⟨rfl,trivial⟩,hS.mask [false,false]⟩⟩
   ·have hb2:=cond_t hc3 hb2
    refine q_cond_t hF rfl hc3 (q_skipc (n_sq (q_seq (q_block (q_sr (q_m hF rfl fun a hF=>q_y (v:=(iV (w64 (n_9 + 1)))) hF hS (ex_ibin rfl rfl rfl) fun a hF=>q_s hF rfl fun a hF=>q_end (n_sq (q_sr (q_m hF rfl fun a hF=>q_y (v:=(.bool (decide (2000 < (w64 (n_9 + 1)))))) hF hS (ex_ibin rfl rfl rfl) fun a hF=>q_end (n_sq ?_))))))))))
    rcases bcase (decide (2000 < (w64 (n_9 + 1)))) with hc4 | hc4
    ·have hb2:=cond_f hc4 hb2
     refine q_cond_f hF rfl hc4 (q_skipc (n_ib (n_sq (q_region (q_y (v:=(.agg #[s1.v,s2.v,s3.v,s4.v])) hF hS (ex_loadA (vs:=[s1.v,s2.v,s3.v,s4.v]) 1 0 U50 rfl sz50 rfl rfl rfl rfl) fun a hF=>q_m hF rfl fun a hF=>?_)))))
     obtain ⟨m13,hl13,hv13,hz13⟩:=hS.lend
     obtain ⟨t_12,ht_12,hb2⟩:=bindS hb2
     refine q_call (vs:=[(.agg #[s1.v,s2.v,s3.v,s4.v]),s11.v]) hF hS Try.func125 (by kernel_rfl) rfl rfl rfl (c_impl_nextFlow p_t x_10 t_12 ht_12 _ m13 hv13 s1 (h1.mono hl13) s2 (h2.mono hl13) s3 (h3.mono hl13) s4 (h4.mono hl13) s11 (h11.froz hl13 (hz13 0 _ rfl))) ?_
     rintro a w _ ⟨q15,s15,rfl,hR14,h15,h15n⟩ hF hS2
     have hS : St _ _ _ _ [q15,q11,[⟨b5,[s1.v,s2.v,s3.v,s4.v],50⟩]]:=hS.joinF hR14
     have h15:=h15.any m
     refine q_s hF rfl fun a hF=>q_end ?_
     obtain rfl:=someI hb2
     exact ⟨rfl,q15,s15,_,_,rfl,hF.sub ⟨rfl,rfl,rfl,trivial⟩,hS.mask [true,false,true],h15,h15n⟩
    ·have hb2:=cond_t hc4 hb2
     refine q_cond_t hF rfl hc4 (q_sr (q_s hF rfl fun a hF=>q_s hF rfl fun a hF=>q_end (n_sq (q_ret (r_ib (r_sq ?_))))))
     obtain rfl:=someI hb2
     refine ⟨nofun,.inr fun ho=>?_⟩
     subst ho
     refine r_ib (r_sq ?_)
     obtain rfl:=someI hr
     exact ret_of hF hS rfl (.tmp rfl (.tmp rfl .nil)) rfl
  ·rintro e a w ⟨n_16,rfl,rfl,hF,hS⟩
   refine x_ib (n_sq ?_)
   refine q_sr (q_m hF rfl fun a hF=>q_s hF rfl fun a hF=>q_s hF rfl fun a hF=>q_end (n_sq (q_ret ?_)))
   obtain rfl:=someI hr
   exact ret_of hF hS rfl (.tmp rfl (.tmp rfl .nil)) rfl
 ·have hr:=cond_t hc1 hr
  refine q_cond_t hF rfl hc1 (q_sr (q_s hF rfl fun a hF=>q_s hF rfl fun a hF=>q_end (n_sq (q_ret (r_sq ?_)))))
  obtain rfl:=someI hr
  exact ret_of hF hS rfl (.tmp rfl (.tmp rfl .nil)) rfl

theorem c_impl_CountRoundings (p_x : List (List Int)) (p_base : Int) (r : Int × Bool) (hr : impl_CountRoundings p_x p_base = some r) (w0 : World) (m : Mem) (hv : Vis m w0) (s1 : Sl) (h1 : Rd m s1 p_x) :
  Ret Try.prog 69 [s1.v,(iV p_base)] w0 (fun v _=>v = (.tuple #[(iV r.1),(.bool r.2)])):=by
 unfold impl_CountRoundings at hr
 refine ret_start Try.func69 rfl 20 rfl rfl m hv fun a hF hS=>q_sr (q_s hF rfl fun a hF=>q_s hF rfl fun a hF=>q_end (n_sq (q_seq (q_seq ?_))))
 obtain ⟨t_4,hj1,hr⟩:=bindS hr
 refine q_join (fun a w=>Fr a 20 [(0,s1.v),(1,(iV p_base)),(13,(.bool t_4))]∧St [] w0 w m []) ?_ ?_
 ·refine q_region (q_m hF rfl fun a hF=>?_)
  obtain ⟨t_2,ht_2,hj1⟩:=bindS hj1
  refine q_call (vs:=[s1.v]) hF hS Try.func135 (by kernel_rfl) rfl rfl rfl (c_impl_isMatrix p_x t_2 ht_2 _ m hS.vis s1 h1) ?_
  rintro a w _ rfl hF hS
  refine q_y (v:=(.bool (!t_2))) hF hS (ex_not rfl) fun a hF=>q_m hF rfl fun a hF=>?_
  rcases bcase (!t_2) with hc2 | hc2
  ·have hj1:=cond_f hc2 hj1
   refine q_g (v:=(iV p_base)) hF hS (ex_move rfl) hc2 fun a hF=>?_
   obtain ⟨t_3,ht_3,hj1⟩:=bindS hj1
   refine q_callg (vs:=[(iV p_base)]) hF hS (wanted_t hF rfl rfl rfl hc2) Try.func136 (by kernel_rfl) rfl rfl rfl (c_impl_isBaseOf p_base t_3 ht_3 _ m hS.vis) ?_
   rintro a w _ rfl hF hS
   refine q_g (v:=(.bool (!t_3))) hF hS (ex_not rfl) hc2 fun a hF=>q_y (v:=(.bool (!t_3))) hF hS (ex_pick_f rfl rfl hc2) fun a hF=>q_end (n_jn ?_)
   obtain rfl:=someI hj1
   exact ⟨hF.sub ⟨rfl,rfl,rfl,trivial⟩,hS⟩
  ·have hj1:=cond_t hc2 hj1
   refine q_k hF hc2 fun a hF=>q_k hF hc2 fun a hF=>q_k hF hc2 fun a hF=>q_y (v:=(.bool true)) hF hS (ex_pick_t rfl rfl hc2) fun a hF=>q_end (n_jn ?_)
   obtain rfl:=someI hj1
   exact ⟨hF.sub ⟨rfl,rfl,rfl,trivial⟩,hS⟩
 ·rintro a w ⟨hF,hS⟩
  refine n_sq ?_
  rcases bcase (t_4) with hc3 | hc3
  ·have hr:=cond_f hc3 hr
   refine q_cond_f hF rfl hc3 (q_skipc (n_sq (q_sr (q_m hF rfl fun a hF=>q_m hF rfl fun a hF=>?_))))
   obtain ⟨t_5,ht_5,hr⟩:=bindS hr
   refine q_call (vs:=[s1.v,(iV p_base)]) hF hS Try.func137 (by kernel_rfl) rfl rfl rfl (c_impl_roundingNetwork p_x p_base t_5 ht_5 _ m hS.vis s1 h1) ?_
   rintro a w _ ⟨q7,q8,q9,q10,s7,s8,s9,s10,rfl,hR6,h7,h8,h9,h10⟩ hF hS2
   have hS : St _ _ _ _ [q7,q8,q9,q10]:=hS.joinF hR6
   obtain ⟨m12,hl12,hv12,hz12⟩:=hS.lend
   obtain ⟨t_11,ht_11,hr⟩:=bindS hr
   refine q_call (vs:=[(.agg #[s7.v,s8.v,s9.v,s10.v])]) hF hS Try.func102 (by kernel_rfl) rfl rfl rfl (c_impl_countFlows t_5 t_11 ht_11 _ m12 hv12 s7 (h7.froz hl12 (hz12 0 _ rfl)) s8 (h8.froz hl12 (hz12 1 _ rfl)) s9 (h9.froz hl12 (hz12 2 _ rfl)) s10 (h10.froz hl12 (hz12 3 _ rfl))) ?_
   rintro a w _ rfl hF hS
   refine q_y (v:=(iV t_11.1)) hF hS (ex_extract rfl rfl) fun a hF=>q_y (v:=(.bool t_11.2)) hF hS (ex_extract rfl rfl) fun a hF=>q_s hF rfl fun a hF=>q_s hF rfl fun a hF=>q_end (n_sq (q_ret ?_))
   obtain rfl:=someI hr
   exact ret_of hF hS rfl (.tmp rfl (.tmp rfl .nil)) rfl
  ·have hr:=cond_t hc3 hr
   refine q_cond_t hF rfl hc3 (q_sr (q_s hF rfl fun a hF=>q_s hF rfl fun a hF=>q_end (n_sq (q_ret (r_sq ?_)))))
   obtain rfl:=someI hr
   exact ret_of hF hS rfl (.tmp rfl (.tmp rfl .nil)) rfl

theorem c_spec_DrawRoundingRange (p_code : List (K .u8)) (r : (List (List Int)) × Int × Int × Int) (hr : spec_DrawRoundingRange p_code = some r) (w0 : World) (m : Mem) (hv : Vis m w0) (s1 : Sl) (h1 : Rd m s1 p_code) :
  Ret Try.prog 70 [s1.v] w0 (fun v w=>∃ (q0' : Piece) (s0' : Sl),v = (.tuple #[s0'.v,(iV r.2.1),(iV r.2.2.1),(iV r.2.2.2)])∧St [] w0 w m [q0']∧OwnD m 28 3 q0' s0' r.1):=by
 unfold spec_DrawRoundingRange at hr
 refine ret_start Try.func70 rfl 22 rfl rfl m hv fun a hF hS=>q_sr (q_s hF rfl fun a hF=>q_s hF rfl fun a hF=>q_s hF rfl fun a hF=>q_s hF rfl fun a hF=>q_end (n_sq (q_sr (q_m hF rfl fun a hF=>q_y (v:=(.agg #[s1.v,(iV 0),(.int .u64 0)])) hF hS (ex_build (cells:=[s1.v,(iV 0),(.int .u64 0)]) rfl (by kernel_rfl)) fun a hF=>q_box (cs:=[s1.v,(iV 0),(.int .u64 0)]) hF hS rfl rfl rfl fun a w b2 hF hS=>q_s hF rfl fun a hF=>q_end (n_sq (q_sr (q_m hF rfl fun a hF=>?_)))))))
 have hS3 : St _ _ _ _ ([[⟨b2,[s1.v,(iV 0),(.int .u64 0)],90⟩]]++[]):=hS
 have hE3:=hS3.enter
 obtain ⟨t_4,ht_4,hr⟩:=bindS hr
 refine q_do rfl fun _ hK=>wp_callX (vs:=[(pP b2 0)]) hF Try.func146 (by kernel_rfl) rfl rfl rfl (c_spec_l1Cur_anyGrid (spec_l1Cur.mk p_code 0 (⟨0⟩ : K .u64)) t_4 ht_4 _ m b2 s1 h1 _ hE3) fun a w _ hR hF=>hK _ _ ?_
 obtain ⟨q5,s5,rfl,hR3,h5,hk6⟩:=hR
 have hS : St _ _ _ _ [[⟨b2,[s1.v,(iV t_4.2.at_),(.int .u64 t_4.2.seed.v)],90⟩],q5]:=hS3.leaveF hR3
 have h6 : Rd m s1 t_4.2.code:=by rw [hk6]; exact h1
 refine q_m hF rfl fun a hF=>?_
 have hS7 : St _ _ _ _ ([[⟨b2,[s1.v,(iV t_4.2.at_),(.int .u64 t_4.2.seed.v)],90⟩]]++[q5]):=hS
 have hE7:=hS7.enter
 obtain ⟨t_8,ht_8,hr⟩:=bindS hr
 refine q_do rfl fun _ hK=>wp_callX (vs:=[(pP b2 0)]) hF Try.func147 (by kernel_rfl) rfl rfl rfl (c_spec_l1Cur_base t_4.2 t_8 ht_8 _ m b2 s1 h6 _ hE7) fun a w _ hR hF=>hK _ _ ?_
 obtain ⟨rfl,hR7,hk9⟩:=hR
 have hS : St _ _ _ _ [[⟨b2,[s1.v,(iV t_8.2.at_),(.int .u64 t_8.2.seed.v)],90⟩],q5]:=hS7.leaveF hR7
 have h9 : Rd m s1 t_8.2.code:=by rw [hk9]; exact h6
 refine q_m hF rfl fun a hF=>?_
 have hS10 : St _ _ _ _ ([[⟨b2,[s1.v,(iV t_8.2.at_),(.int .u64 t_8.2.seed.v)],90⟩]]++[q5]):=hS
 have hE10:=hS10.enter
 obtain ⟨t_11,ht_11,hr⟩:=bindS hr
 refine q_do rfl fun _ hK=>wp_callX (vs:=[(pP b2 0),(iV 4)]) hF Try.func106 (by kernel_rfl) rfl rfl rfl (c_spec_l1Cur_pick t_8.2 4 t_11 ht_11 _ m b2 s1 h9 _ hE10) fun a w _ hR hF=>hK _ _ ?_
 obtain ⟨rfl,hR10,hk12⟩:=hR
 have hS : St _ _ _ _ [[⟨b2,[s1.v,(iV t_11.2.at_),(.int .u64 t_11.2.seed.v)],90⟩],q5]:=hS10.leaveF hR10
 have h12 : Rd m s1 t_11.2.code:=by rw [hk12]; exact h9
 refine q_m hF rfl fun a hF=>?_
 have hS13 : St _ _ _ _ ([[⟨b2,[s1.v,(iV t_11.2.at_),(.int .u64 t_11.2.seed.v)],90⟩]]++[q5]):=hS
 have hE13:=hS13.enter
 obtain ⟨t_14,ht_14,hr⟩:=bindS hr
 refine q_do rfl fun _ hK=>wp_callX (vs:=[(pP b2 0),(iV 4)]) hF Try.func106 (by kernel_rfl) rfl rfl rfl (c_spec_l1Cur_pick t_11.2 4 t_14 ht_14 _ m b2 s1 h12 _ hE13) fun a w _ hR hF=>hK _ _ ?_
 obtain ⟨rfl,hR13,hk15⟩:=hR
 have hS : St _ _ _ _ [[⟨b2,[s1.v,(iV t_14.2.at_),(.int .u64 t_14.2.seed.v)],90⟩],q5]:=hS13.leaveF hR13
 have h15 : Rd m s1 t_14.2.code:=by rw [hk15]; exact h12
 refine q_m hF rfl fun a hF=>?_
 have hS16 : St _ _ _ _ ([[⟨b2,[s1.v,(iV t_14.2.at_),(.int .u64 t_14.2.seed.v)],90⟩]]++[q5]):=hS
 have hE16:=hS16.enter
 obtain ⟨t_17,ht_17,hr⟩:=bindS hr
 refine q_do rfl fun _ hK=>wp_callX (vs:=[(pP b2 0),(iV 20)]) hF Try.func106 (by kernel_rfl) rfl rfl rfl (c_spec_l1Cur_pick t_14.2 20 t_17 ht_17 _ m b2 s1 h15 _ hE16) fun a w _ hR hF=>hK _ _ ?_
 obtain ⟨rfl,hR16,hk18⟩:=hR
 have hS : St _ _ _ _ [[⟨b2,[s1.v,(iV t_17.2.at_),(.int .u64 t_17.2.seed.v)],90⟩],q5]:=hS16.leaveF hR16
 have h18 : Rd m s1 t_17.2.code:=by rw [hk18]; exact h15
 obtain ⟨t_19,ht_19,hr⟩:=bindS hr
 refine q_y (v:=(iV t_19)) hF hS (ex_quo rfl rfl ht_19) fun a hF=>q_y (v:=(iV (w64 (t_14.1 - t_19)))) hF hS (ex_ibin rfl rfl rfl) fun a hF=>q_s hF rfl fun a hF=>q_s hF rfl fun a hF=>q_s hF rfl fun a hF=>q_s hF rfl fun a hF=>q_end (n_sq (q_ret ?_))
 obtain rfl:=someI hr
 exact ret_of hF hS rfl (.tmp rfl (.tmp rfl (.tmp rfl (.tmp rfl .nil)))) ⟨q5,s5,rfl,hS.sel [1] (by decide),h5⟩

theorem c_impl_rangeOf_1 (p_x0 : impl_Transport) (p_x1 : List (List Int)) (p_x2 : Int) (p_x3 : Int) (p_x4 : Int) (r : (List (List Int))) (hr : impl_rangeOf_1 p_x0 p_x1 p_x2 p_x3 p_x4 = some r) (w0 : World) (m : Mem) (b_p_x0 : Nat) (b_p_x1 : Nat) (b_p_x2 : Nat) (b_p_x3 : Nat) (b_p_x4 : Nat) (s1 : Sl) (h1 : Rd m s1 p_x0.Rows) (s2 : Sl) (h2 : Rd m s2 p_x0.Cols) (s3 : Sl) (h3 : Rd m s3 p_x0.Lo) (s4 : Sl) (h4 : Rd m s4 p_x0.Hi) (s5 : Sl) (h5 : Rd m s5 p_x1) (X : List Nat) (hS : St X w0 w0 m [[⟨b_p_x0,[s1.v,s2.v,s3.v,s4.v],50⟩],[⟨b_p_x1,[s5.v],23⟩],[⟨b_p_x2,[(iV p_x2)],3⟩],[⟨b_p_x3,[(iV p_x3)],3⟩],[⟨b_p_x4,[(iV p_x4)],3⟩]]) :
  RetX Try.prog 154 [(pP b_p_x0 0),(pP b_p_x1 0),(pP b_p_x2 0),(pP b_p_x3 0),(pP b_p_x4 0)] w0 (fun v w=>∃ (q0' : Piece) (s0' : Sl),v = s0'.v∧St X w0 w m [[⟨b_p_x0,[s1.v,s2.v,s3.v,s4.v],50⟩],[⟨b_p_x1,[s5.v],23⟩],[⟨b_p_x2,[(iV p_x2)],3⟩],[⟨b_p_x3,[(iV p_x3)],3⟩],[⟨b_p_x4,[(iV p_x4)],3⟩],q0']∧OwnD m 28 3 q0' s0' r):=by
 unfold impl_rangeOf_1 at hr
 refine ret_startX Try.func154 rfl 27 rfl rfl fun a hF=>q_sr (q_s hF rfl fun a hF=>q_end (n_sq (q_sr (q_y (v:=(.agg #[s1.v,s2.v,s3.v,s4.v])) hF hS (ex_loadA (vs:=[s1.v,s2.v,s3.v,s4.v]) 0 0 U50 rfl sz50 rfl rfl rfl rfl) fun a hF=>q_y (v:=s5.v) hF hS (ex_load1 1 0 U23 rfl rfl rfl rfl) fun a hF=>?_))))
 obtain ⟨t_6,ht_6,hr⟩:=bindS hr
 refine q_call (vs:=[(.agg #[s1.v,s2.v,s3.v,s4.v]),s5.v,(iV (-1))]) hF hS Try.func155 (by kernel_rfl) rfl rfl rfl (c_impl_residual p_x0 p_x1 (-1) t_6 ht_6 _ m hS.vis s1 h1 s2 h2 s3 h3 s4 h4 s5 h5) ?_
 rintro a w _ ⟨q8,s8,rfl,hR7,h8⟩ hF hS2
 have hS : St _ _ _ _ [q8,[⟨b_p_x0,[s1.v,s2.v,s3.v,s4.v],50⟩],[⟨b_p_x1,[s5.v],23⟩],[⟨b_p_x2,[(iV p_x2)],3⟩],[⟨b_p_x3,[(iV p_x3)],3⟩],[⟨b_p_x4,[(iV p_x4)],3⟩]]:=hS.joinF hR7
 refine q_s hF rfl fun a hF=>q_end (n_sq (q_seq (e_region ⟨[15,17],[b_p_x2,b_p_x3,b_p_x4],m⟩ mixed fun w' hw'=>?_)))
 have hS:=hS.below hw'
 refine e_P (v:=s8.v) 0 hF rfl (ex_move rfl) fun a hF=>e_xb (v:=(iV p_x2)) 1 3 hF hS (.head _) rfl rfl (ex_load1 0 0 U3 rfl rfl rfl rfl) rfl rfl (by kernel_rfl) (by kernel_rfl) (by kernel_rfl) fun a hF=>?_
 obtain ⟨e_9,he_9,hr⟩:=bindS hr
 obtain ⟨s10,hV10⟩:=h8.view he_9
 refine e_P (v:=(elP s8 (p_x2.toNat * 1))) 2 hF rfl (ex_indexAddr U23 sz28 rfl rfl (h8.idx he_9)) fun a hF=>e_X (v:=s10.v) 3 hF hS rfl (ex_loadE1 0 U28 rfl rfl ((hV10.atH he_9).at 0 rfl) rfl rfl) fun a hF=>e_xb (v:=(iV p_x3)) 4 4 hF hS (.tail _ (.head _)) rfl rfl (ex_load1 0 0 U3 rfl rfl rfl rfl) rfl rfl (by kernel_rfl) (by kernel_rfl) (by kernel_rfl) fun a hF=>e_xb (v:=(iV p_x4)) 5 5 hF hS (.tail _ (.tail _ (.head _))) rfl rfl (ex_load1 0 0 U3 rfl rfl rfl rfl) rfl rfl (by kernel_rfl) (by kernel_rfl) (by kernel_rfl) fun a hF=>e_P (v:=(iV (w64 (p_x3 + p_x4)))) 6 hF rfl (ex_ibin rfl rfl rfl) fun a hF=>e_P (v:=s8.v) 7 hF rfl (ex_move rfl) fun a hF=>e_xb (v:=(iV p_x3)) 8 4 hF hS (.tail _ (.head _)) rfl rfl (ex_load1 0 0 U3 rfl rfl rfl rfl) rfl rfl (by kernel_rfl) (by kernel_rfl) (by kernel_rfl) fun a hF=>e_xb (v:=(iV p_x4)) 9 5 hF hS (.tail _ (.tail _ (.head _))) rfl rfl (ex_load1 0 0 U3 rfl rfl rfl rfl) rfl rfl (by kernel_rfl) (by kernel_rfl) (by kernel_rfl) fun a hF=>e_P (v:=(iV (w64 (p_x3 + p_x4)))) 10 hF rfl (ex_ibin rfl rfl rfl) fun a hF=>?_
 obtain ⟨e_11,he_11,hr⟩:=bindS hr
 obtain ⟨s12,hV12⟩:=h8.view he_11
 refine e_P (v:=(elP s8 ((w64 (p_x3 + p_x4)).toNat * 1))) 11 hF rfl (ex_indexAddr U23 sz28 rfl rfl (h8.idx he_11)) fun a hF=>e_X (v:=s12.v) 12 hF hS rfl (ex_loadE1 0 U28 rfl rfl ((hV12.atH he_11).at 0 rfl) rfl rfl) fun a hF=>e_xb (v:=(iV p_x2)) 13 3 hF hS (.head _) rfl rfl (ex_load1 0 0 U3 rfl rfl rfl rfl) rfl rfl (by kernel_rfl) (by kernel_rfl) (by kernel_rfl) fun a hF=>?_
 obtain ⟨e_13,he_13,hr⟩:=bindS hr
 obtain ⟨vs14,at14,d14⟩:=hV10.at he_9 he_13 1 rfl
 obtain rfl : vs14 = [(iV e_13)]:=d14
 refine e_P (v:=(elP s10 ((w64 (p_x3 + p_x4)).toNat * 1))) 14 hF rfl (ex_indexAddr U28 sz3 rfl rfl (hV10.idx he_9 he_13)) fun a hF=>e_one 15 (by kernel_rfl) ?_
 obtain ⟨e_16,he_16,hr⟩:=bindS hr
 have hSo:=hS
 refine e_opl rfl rfl rfl fun _ hK=>wp_storeVk (e':=0) (us:=[(iV 0)]) (vs:=[(iV e_13)]) 0 hF hS hV10 hV12 he_9 sz3 rfl rfl rfl rfl rfl rfl rfl he_13 at14 rfl rfl rfl fun w q15 hS h15 h15k=>hK _ _ (⟨⟨kpC hSo hS 3 3 rfl rfl (kpC hSo hS 4 4 rfl rfl (kpC hSo hS 5 5 rfl rfl kpN)),fun _=>hS.vis.of_le (Mem.le.refl _)⟩,?_⟩)
 obtain ⟨e_17,he_17,hr⟩:=bindS hr
 obtain ⟨vs18,at18,d18⟩:=h15k.at he_16 he_17 1 rfl
 obtain rfl : vs18 = [(iV e_17)]:=d18
 refine e_P (v:=(elP s12 (p_x2.toNat * 1))) 16 hF rfl (ex_indexAddr U28 sz3 rfl rfl (h15k.idx he_16 he_17)) fun a hF=>e_one 17 (by kernel_rfl) ?_
 obtain ⟨e_20,he_20,hr⟩:=bindS hr
 have hSo:=hS
 refine e_opl rfl rfl rfl fun _ hK=>wp_storeVk (e':=0) (us:=[(iV 0)]) (vs:=[(iV e_17)]) 0 hF hS h15k h15 he_16 sz3 rfl rfl rfl rfl rfl rfl rfl he_17 at18 rfl rfl rfl fun w q19 hS h19 h19k=>hK _ _ (⟨⟨kpC hSo hS 3 3 rfl rfl (kpC hSo hS 4 4 rfl rfl (kpC hSo hS 5 5 rfl rfl kpN)),fun _=>hS.vis.of_le (Mem.le.refl _)⟩,?_⟩)
 refine e_end (by kernel_rfl) (n_sq ?_) _
 refine q_sr (q_m hF rfl fun a hF=>q_s hF rfl fun a hF=>q_end (n_sq (q_ret ?_)))
 obtain rfl:=someI hr
 exact ret_ofX hF hS rfl (.tmp rfl .nil) ⟨q19,s8,rfl,hS.sel [1,2,3,4,5,0] (by decide),h19.own⟩

theorem c_impl_rangeOf (p_t : impl_Transport) (p_x : List (List Int)) (p_i : Int) (p_j : Int) (r : Int × Int) (hr : impl_rangeOf p_t p_x p_i p_j = some r) (w0 : World) (m : Mem) (hv : Vis m w0) (s1 : Sl) (h1 : Rd m s1 p_t.Rows) (s2 : Sl) (h2 : Rd m s2 p_t.Cols) (s3 : Sl) (h3 : Rd m s3 p_t.Lo) (s4 : Sl) (h4 : Rd m s4 p_t.Hi) (s5 : Sl) (h5 : Rd m s5 p_x) :
  Ret Try.prog 101 [(.agg #[s1.v,s2.v,s3.v,s4.v]),s5.v,(iV p_i),(iV p_j)] w0 (fun v _=>v = (.tuple #[(iV r.1),(iV r.2)])):=by
 unfold impl_rangeOf at hr
 refine ret_start Try.func101 rfl 62 rfl rfl m hv fun a hF hS=>q_sr (q_box (cs:=[s1.v,s2.v,s3.v,s4.v]) hF hS rfl rfl rfl fun a w b6 hF hS=>q_box (cs:=[s5.v]) hF hS rfl rfl rfl fun a w b7 hF hS=>q_box (cs:=[(iV p_i)]) hF hS rfl rfl rfl fun a w b8 hF hS=>q_box (cs:=[(iV p_j)]) hF hS rfl rfl rfl fun a w b9 hF hS=>q_s hF rfl fun a hF=>q_s hF rfl fun a hF=>q_end (n_sq (q_sr (q_y (v:=(pP b6 0)) hF hS (ex_fieldAddr U50 rfl sz28 rfl rfl) fun a hF=>q_y (v:=s1.v) hF hS (ex_load1 3 0 U28 rfl rfl rfl rfl) fun a hF=>q_y (v:=(iV (goLen p_t.Rows))) hF hS (ex_len U28 rfl h1.len) fun a hF=>q_alloc (cs:=[(iV 0)]) hF hS rfl rfl rfl fun a w b10 hF hS=>q_store (vs:=[(iV (goLen p_t.Rows))]) (cs':=[(iV (goLen p_t.Rows))]) 0 0 hF hS sz3 rfl rfl rfl rfl rfl rfl rfl rfl fun a w hF hS=>q_end (n_sq (q_sr (q_y (v:=(.func (.func 154) #[] #[(pP b6 0),(pP b7 0),(pP b8 0),(pP b10 0),(pP b9 0)])) hF hS (ex_makeFunc rfl) fun a hF=>q_s hF rfl fun a hF=>q_end (n_sq (q_seq (e_region ⟨[],[],m⟩ mixed fun w' hw'=>?_))))))))))
 have hS:=hS.below hw'
 refine e_X (v:=s5.v) 0 hF hS rfl (ex_load1 3 0 U23 rfl rfl rfl rfl) fun a hF=>e_X (v:=(iV p_i)) 1 hF hS rfl (ex_load1 2 0 U3 rfl rfl rfl rfl) fun a hF=>?_
 obtain ⟨e_11,he_11,hr⟩:=bindS hr
 obtain ⟨vs12,at12,d12⟩:=h5.at he_11 1 rfl
 obtain ⟨s13,rfl,h13⟩ : ∃ s13 : Sl,vs12 = [s13.v]∧Rd m s13 e_11:=d12
 refine e_P (v:=(elP s5 (p_i.toNat * 1))) 2 hF rfl (ex_indexAddr U23 sz28 rfl rfl (h5.idx he_11)) fun a hF=>e_xm (v:=s13.v) 3 hF hS (Mem.le.refl _) rfl (ex_loadE1 0 U28 rfl rfl ((at12).at) rfl rfl) rfl rfl (by kernel_rfl) (by kernel_rfl) (by kernel_rfl) fun a hF=>e_X (v:=(iV p_j)) 4 hF hS rfl (ex_load1 1 0 U3 rfl rfl rfl rfl) fun a hF=>?_
 obtain ⟨e_14,he_14,hr⟩:=bindS hr
 obtain ⟨vs15,at15,d15⟩:=h13.at he_14 1 rfl
 obtain rfl : vs15 = [(iV e_14)]:=d15
 refine e_P (v:=(elP s13 (p_j.toNat * 1))) 5 hF rfl (ex_indexAddr U28 sz3 rfl rfl (h13.idx he_14)) fun a hF=>e_xm (v:=(iV e_14)) 6 hF hS (Mem.le.refl _) rfl (ex_loadE1 0 U3 rfl rfl ((at15).at) rfl rfl) rfl rfl (by kernel_rfl) (by kernel_rfl) (by kernel_rfl) fun a hF=>e_P (v:=(iV e_14)) 7 hF rfl (ex_assign rfl) fun a hF=>e_end (by kernel_rfl) (n_sq ?_) _
 refine q_seq (e_region ⟨[2,17,21,36],[b8,b10,b9,b6],m⟩ mixed fun w' hw'=>?_)
 have hS:=hS.below hw'
 refine e_P (v:=(iV e_14)) 0 hF rfl (ex_move rfl) fun a hF=>e_P (v:=(.func (.func 154) #[] #[(pP b6 0),(pP b7 0),(pP b8 0),(pP b10 0),(pP b9 0)])) 1 hF rfl (ex_move rfl) fun a hF=>e_xb (v:=(iV p_i)) 3 2 hF hS (.head _) rfl rfl (ex_load1 0 0 U3 rfl rfl rfl rfl) rfl rfl (by kernel_rfl) (by kernel_rfl) (by kernel_rfl) fun a hF=>e_xb (v:=(iV (goLen p_t.Rows))) 4 0 hF hS (.tail _ (.head _)) rfl rfl (ex_load1 0 0 U3 rfl rfl rfl rfl) rfl rfl (by kernel_rfl) (by kernel_rfl) (by kernel_rfl) fun a hF=>e_xb (v:=(iV p_j)) 5 1 hF hS (.tail _ (.tail _ (.head _))) rfl rfl (ex_load1 0 0 U3 rfl rfl rfl rfl) rfl rfl (by kernel_rfl) (by kernel_rfl) (by kernel_rfl) fun a hF=>e_P (v:=(iV (w64 ((goLen p_t.Rows) + p_j)))) 6 hF rfl (ex_ibin rfl rfl rfl) fun a hF=>e_P (v:=(iV e_14)) 7 hF rfl (ex_move rfl) fun a hF=>e_P (v:=(pP b6 2)) 8 hF rfl (ex_fieldAddr U50 rfl sz23 rfl rfl) fun a hF=>e_xb (v:=s3.v) 9 4 hF hS (.tail _ (.tail _ (.tail _ (.head _)))) rfl rfl (ex_load1 0 0 U23 rfl rfl rfl rfl) rfl rfl (by kernel_rfl) (by kernel_rfl) (by kernel_rfl) fun a hF=>e_xb (v:=(iV p_i)) 10 2 hF hS (.head _) rfl rfl (ex_load1 0 0 U3 rfl rfl rfl rfl) rfl rfl (by kernel_rfl) (by kernel_rfl) (by kernel_rfl) fun a hF=>?_
 obtain ⟨e_43,he_43,hr⟩:=bindS hr
 obtain ⟨vs44,at44,d44⟩:=h3.at he_43 1 rfl
 obtain ⟨s45,rfl,h45⟩ : ∃ s45 : Sl,vs44 = [s45.v]∧Rd m s45 e_43:=d44
 refine e_P (v:=(elP s3 (p_i.toNat * 1))) 11 hF rfl (ex_indexAddr U23 sz28 rfl rfl (h3.idx he_43)) fun a hF=>e_xm (v:=s45.v) 12 hF hS (Mem.le.refl _) rfl (ex_loadE1 0 U28 rfl rfl ((at44).at) rfl rfl) rfl rfl (by kernel_rfl) (by kernel_rfl) (by kernel_rfl) fun a hF=>e_xb (v:=(iV p_j)) 13 1 hF hS (.tail _ (.tail _ (.head _))) rfl rfl (ex_load1 0 0 U3 rfl rfl rfl rfl) rfl rfl (by kernel_rfl) (by kernel_rfl) (by kernel_rfl) fun a hF=>?_
 obtain ⟨e_55,he_55,hr⟩:=bindS hr
 obtain ⟨vs56,at56,d56⟩:=h45.at he_55 1 rfl
 obtain rfl : vs56 = [(iV e_55)]:=d56
 refine e_P (v:=(elP s45 (p_j.toNat * 1))) 14 hF rfl (ex_indexAddr U28 sz3 rfl rfl (h45.idx he_55)) fun a hF=>e_xm (v:=(iV e_55)) 15 hF hS (Mem.le.refl _) rfl (ex_loadE1 0 U3 rfl rfl ((at56).at) rfl rfl) rfl rfl (by kernel_rfl) (by kernel_rfl) (by kernel_rfl) fun a hF=>e_P (v:=(iV (w64 (e_14 - e_55)))) 16 hF rfl (ex_ibin rfl rfl rfl) fun a hF=>e_P (v:=(iV e_14)) 19 hF rfl (ex_move rfl) fun a hF=>e_P (v:=(.func (.func 154) #[] #[(pP b6 0),(pP b7 0),(pP b8 0),(pP b10 0),(pP b9 0)])) 20 hF rfl (ex_move rfl) fun a hF=>e_xb (v:=(iV (goLen p_t.Rows))) 22 0 hF hS (.tail _ (.head _)) rfl rfl (ex_load1 0 0 U3 rfl rfl rfl rfl) rfl rfl (by kernel_rfl) (by kernel_rfl) (by kernel_rfl) fun a hF=>e_xb (v:=(iV p_j)) 23 1 hF hS (.tail _ (.tail _ (.head _))) rfl rfl (ex_load1 0 0 U3 rfl rfl rfl rfl) rfl rfl (by kernel_rfl) (by kernel_rfl) (by kernel_rfl) fun a hF=>e_P (v:=(iV (w64 ((goLen p_t.Rows) + p_j)))) 24 hF rfl (ex_ibin rfl rfl rfl) fun a hF=>e_xb (v:=(iV p_i)) 25 2 hF hS (.head _) rfl rfl (ex_load1 0 0 U3 rfl rfl rfl rfl) rfl rfl (by kernel_rfl) (by kernel_rfl) (by kernel_rfl) fun a hF=>e_P (v:=(pP b6 3)) 26 hF rfl (ex_fieldAddr U50 rfl sz23 rfl rfl) fun a hF=>e_xb (v:=s4.v) 27 4 hF hS (.tail _ (.tail _ (.tail _ (.head _)))) rfl rfl (ex_load1 0 0 U23 rfl rfl rfl rfl) rfl rfl (by kernel_rfl) (by kernel_rfl) (by kernel_rfl) fun a hF=>e_xb (v:=(iV p_i)) 28 2 hF hS (.head _) rfl rfl (ex_load1 0 0 U3 rfl rfl rfl rfl) rfl rfl (by kernel_rfl) (by kernel_rfl) (by kernel_rfl) fun a hF=>?_
 obtain ⟨e_93,he_93,hr⟩:=bindS hr
 obtain ⟨vs94,at94,d94⟩:=h4.at he_93 1 rfl
 obtain ⟨s95,rfl,h95⟩ : ∃ s95 : Sl,vs94 = [s95.v]∧Rd m s95 e_93:=d94
 refine e_P (v:=(elP s4 (p_i.toNat * 1))) 29 hF rfl (ex_indexAddr U23 sz28 rfl rfl (h4.idx he_93)) fun a hF=>e_xm (v:=s95.v) 30 hF hS (Mem.le.refl _) rfl (ex_loadE1 0 U28 rfl rfl ((at94).at) rfl rfl) rfl rfl (by kernel_rfl) (by kernel_rfl) (by kernel_rfl) fun a hF=>e_xb (v:=(iV p_j)) 31 1 hF hS (.tail _ (.tail _ (.head _))) rfl rfl (ex_load1 0 0 U3 rfl rfl rfl rfl) rfl rfl (by kernel_rfl) (by kernel_rfl) (by kernel_rfl) fun a hF=>?_
 obtain ⟨e_105,he_105,hr⟩:=bindS hr
 obtain ⟨vs106,at106,d106⟩:=h95.at he_105 1 rfl
 obtain rfl : vs106 = [(iV e_105)]:=d106
 refine e_P (v:=(elP s95 (p_j.toNat * 1))) 32 hF rfl (ex_indexAddr U28 sz3 rfl rfl (h95.idx he_105)) fun a hF=>e_xm (v:=(iV e_105)) 33 hF hS (Mem.le.refl _) rfl (ex_loadE1 0 U3 rfl rfl ((at106).at) rfl rfl) rfl rfl (by kernel_rfl) (by kernel_rfl) (by kernel_rfl) fun a hF=>e_P (v:=(iV e_14)) 34 hF rfl (ex_move rfl) fun a hF=>e_P (v:=(iV (w64 (e_105 - e_14)))) 35 hF rfl (ex_ibin rfl rfl rfl) fun a hF=>e_one 2 (by kernel_rfl) ?_
 have hS : St _ _ _ _ [[⟨b6,[s1.v,s2.v,s3.v,s4.v],50⟩],[⟨b7,[s5.v],23⟩],[⟨b8,[(iV p_i)],3⟩],[⟨b10,[(iV (goLen p_t.Rows))],3⟩],[⟨b9,[(iV p_j)],3⟩]]:=hS.sel [4,3,2,0,1] (by decide)
 have hS116 : St _ _ _ _ ([[⟨b6,[s1.v,s2.v,s3.v,s4.v],50⟩],[⟨b7,[s5.v],23⟩],[⟨b8,[(iV p_i)],3⟩],[⟨b10,[(iV (goLen p_t.Rows))],3⟩],[⟨b9,[(iV p_j)],3⟩]]++[]):=hS
 have hE116:=hS116.enter
 obtain ⟨t_117,ht_117,hr⟩:=bindS hr
 have hSo:=hS
 refine e_opl rfl rfl rfl fun _ hK=>wp_callV (vs:=[]) (cap:=[(pP b6 0),(pP b7 0),(pP b8 0),(pP b10 0),(pP b9 0)]) hF rfl Try.func154 (by kernel_rfl) rfl rfl rfl (c_impl_rangeOf_1 p_t p_x p_i (goLen p_t.Rows) p_j t_117 ht_117 _ m b6 b7 b8 b10 b9 s1 h1 s2 h2 s3 h3 s4 h4 s5 h5 _ hE116) fun a w _ hR hF=>hK _ _ ?_
 obtain ⟨q118,s118,rfl,hR116,h118⟩:=hR
 have hS : St _ _ _ _ [[⟨b6,[s1.v,s2.v,s3.v,s4.v],50⟩],[⟨b7,[s5.v],23⟩],[⟨b8,[(iV p_i)],3⟩],[⟨b10,[(iV (goLen p_t.Rows))],3⟩],[⟨b9,[(iV p_j)],3⟩],q118]:=hS116.leaveF hR116
 refine ⟨⟨kpC hSo hS 2 2 rfl rfl (kpC hSo hS 3 3 rfl rfl (kpC hSo hS 4 4 rfl rfl (kpC hSo hS 0 0 rfl rfl kpN))),fun _=>hS.vis.of_le (Mem.le.refl _)⟩,?_⟩
 refine e_one 17 (by kernel_rfl) ?_
 have hS : St _ _ _ _ [q118,[⟨b6,[s1.v,s2.v,s3.v,s4.v],50⟩],[⟨b7,[s5.v],23⟩],[⟨b8,[(iV p_i)],3⟩],[⟨b10,[(iV (goLen p_t.Rows))],3⟩],[⟨b9,[(iV p_j)],3⟩]]:=hS.sel [5,0,1,2,3,4] (by decide)
 have hS119 : St _ _ _ _ ([q118]++[[⟨b6,[s1.v,s2.v,s3.v,s4.v],50⟩],[⟨b7,[s5.v],23⟩],[⟨b8,[(iV p_i)],3⟩],[⟨b10,[(iV (goLen p_t.Rows))],3⟩],[⟨b9,[(iV p_j)],3⟩]]):=hS
 have hE119:=hS119.enter
 obtain ⟨t_120,ht_120,hr⟩:=bindS hr
 have hSo:=hS
 refine e_opl rfl rfl rfl fun _ hK=>wp_callX (vs:=[s118.v,(iV p_i),(iV (w64 ((goLen p_t.Rows) + p_j))),(iV (w64 (e_14 - e_55)))]) hF Try.func156 (by kernel_rfl) rfl rfl rfl (c_impl_push t_117 p_i (w64 ((goLen p_t.Rows) + p_j)) (w64 (e_14 - e_55)) t_120 ht_120 _ m s118 q118 h118 _ hE119) fun a w _ hR hF=>hK _ _ ?_
 obtain ⟨q121,rfl,hR119,h121⟩:=hR
 have hS : St _ _ _ _ [q121,[⟨b6,[s1.v,s2.v,s3.v,s4.v],50⟩],[⟨b7,[s5.v],23⟩],[⟨b8,[(iV p_i)],3⟩],[⟨b10,[(iV (goLen p_t.Rows))],3⟩],[⟨b9,[(iV p_j)],3⟩]]:=hS119.leaveF hR119
 refine ⟨⟨kpC hSo hS 3 3 rfl rfl (kpC hSo hS 4 4 rfl rfl (kpC hSo hS 5 5 rfl rfl (kpC hSo hS 1 1 rfl rfl kpN))),fun _=>hS.vis.of_le (Mem.le.refl _)⟩,?_⟩
 refine e_P (v:=(iV (w64 (e_14 - t_120.1)))) 18 hF rfl (ex_ibin rfl rfl rfl) fun a hF=>e_one 21 (by kernel_rfl) ?_
 have hS : St _ _ _ _ [[⟨b6,[s1.v,s2.v,s3.v,s4.v],50⟩],[⟨b7,[s5.v],23⟩],[⟨b8,[(iV p_i)],3⟩],[⟨b10,[(iV (goLen p_t.Rows))],3⟩],[⟨b9,[(iV p_j)],3⟩],q121]:=hS.sel [1,2,3,4,5,0] (by decide)
 have hS122 : St _ _ _ _ ([[⟨b6,[s1.v,s2.v,s3.v,s4.v],50⟩],[⟨b7,[s5.v],23⟩],[⟨b8,[(iV p_i)],3⟩],[⟨b10,[(iV (goLen p_t.Rows))],3⟩],[⟨b9,[(iV p_j)],3⟩]]++[q121]):=hS
 have hE122:=hS122.enter
 obtain ⟨t_123,ht_123,hr⟩:=bindS hr
 have hSo:=hS
 refine e_opl rfl rfl rfl fun _ hK=>wp_callV (vs:=[]) (cap:=[(pP b6 0),(pP b7 0),(pP b8 0),(pP b10 0),(pP b9 0)]) hF rfl Try.func154 (by kernel_rfl) rfl rfl rfl (c_impl_rangeOf_1 p_t p_x p_i (goLen p_t.Rows) p_j t_123 ht_123 _ m b6 b7 b8 b10 b9 s1 h1 s2 h2 s3 h3 s4 h4 s5 h5 _ hE122) fun a w _ hR hF=>hK _ _ ?_
 obtain ⟨q124,s124,rfl,hR122,h124⟩:=hR
 have hS : St _ _ _ _ [[⟨b6,[s1.v,s2.v,s3.v,s4.v],50⟩],[⟨b7,[s5.v],23⟩],[⟨b8,[(iV p_i)],3⟩],[⟨b10,[(iV (goLen p_t.Rows))],3⟩],[⟨b9,[(iV p_j)],3⟩],q124,q121]:=hS122.leaveF hR122
 refine ⟨⟨kpC hSo hS 2 2 rfl rfl (kpC hSo hS 3 3 rfl rfl (kpC hSo hS 4 4 rfl rfl (kpC hSo hS 0 0 rfl rfl kpN))),fun _=>hS.vis.of_le (Mem.le.refl _)⟩,?_⟩
 refine e_one 36 (by kernel_rfl) ?_
 have hS : St _ _ _ _ [q124,[⟨b6,[s1.v,s2.v,s3.v,s4.v],50⟩],[⟨b7,[s5.v],23⟩],[⟨b8,[(iV p_i)],3⟩],[⟨b10,[(iV (goLen p_t.Rows))],3⟩],[⟨b9,[(iV p_j)],3⟩],q121]:=hS.sel [5,0,1,2,3,4,6] (by decide)
 have hS125 : St _ _ _ _ ([q124]++[[⟨b6,[s1.v,s2.v,s3.v,s4.v],50⟩],[⟨b7,[s5.v],23⟩],[⟨b8,[(iV p_i)],3⟩],[⟨b10,[(iV (goLen p_t.Rows))],3⟩],[⟨b9,[(iV p_j)],3⟩],q121]):=hS
 have hE125:=hS125.enter
 obtain ⟨t_126,ht_126,hr⟩:=bindS hr
 have hSo:=hS
 refine e_opl rfl rfl rfl fun _ hK=>wp_callX (vs:=[s124.v,(iV (w64 ((goLen p_t.Rows) + p_j))),(iV p_i),(iV (w64 (e_105 - e_14)))]) hF Try.func156 (by kernel_rfl) rfl rfl rfl (c_impl_push t_123 (w64 ((goLen p_t.Rows) + p_j)) p_i (w64 (e_105 - e_14)) t_126 ht_126 _ m s124 q124 h124 _ hE125) fun a w _ hR hF=>hK _ _ ?_
 obtain ⟨q127,rfl,hR125,h127⟩:=hR
 have hS : St _ _ _ _ [q127,[⟨b6,[s1.v,s2.v,s3.v,s4.v],50⟩],[⟨b7,[s5.v],23⟩],[⟨b8,[(iV p_i)],3⟩],[⟨b10,[(iV (goLen p_t.Rows))],3⟩],[⟨b9,[(iV p_j)],3⟩],q121]:=hS125.leaveF hR125
 refine ⟨⟨kpC hSo hS 3 3 rfl rfl (kpC hSo hS 4 4 rfl rfl (kpC hSo hS 5 5 rfl rfl (kpC hSo hS 1 1 rfl rfl kpN))),fun _=>hS.vis.of_le (Mem.le.refl _)⟩,?_⟩
 refine e_P (v:=(iV (w64 (e_14 + t_126.1)))) 37 hF rfl (ex_ibin rfl rfl rfl) fun a hF=>e_P (v:=(iV (w64 (e_14 - t_120.1)))) 38 hF rfl (ex_assign rfl) fun a hF=>e_P (v:=(iV (w64 (e_14 + t_126.1)))) 39 hF rfl (ex_assign rfl) fun a hF=>e_end (by kernel_rfl) (n_sq (q_ret ?_)) _
 obtain rfl:=someI hr
 exact ret_of hF hS rfl (.tmp rfl (.tmp rfl .nil)) rfl

theorem c_impl_CellRange (p_t : impl_Transport) (p_i : Int) (p_j : Int) (r : Int × Int × Bool) (hr : impl_CellRange p_t p_i p_j = some r) (w0 : World) (m : Mem) (hv : Vis m w0) (s1 : Sl) (h1 : Rd m s1 p_t.Rows) (s2 : Sl) (h2 : Rd m s2 p_t.Cols) (s3 : Sl) (h3 : Rd m s3 p_t.Lo) (s4 : Sl) (h4 : Rd m s4 p_t.Hi) :
  Ret Try.prog 148 [(.agg #[s1.v,s2.v,s3.v,s4.v]),(iV p_i),(iV p_j)] w0 (fun v _=>v = (.tuple #[(iV r.1),(iV r.2.1),(.bool r.2.2)])):=by
 unfold impl_CellRange at hr
 refine ret_start Try.func148 rfl 51 rfl rfl m hv fun a hF hS=>q_sr (q_box (cs:=[s1.v,s2.v,s3.v,s4.v]) hF hS rfl rfl rfl fun a w b5 hF hS=>q_s hF rfl fun a hF=>q_s hF rfl fun a hF=>q_s hF rfl fun a hF=>q_end (n_sq (q_seq (q_seq ?_))))
 obtain ⟨t_7,hj1,hr⟩:=bindS hr
 refine q_join (fun a w=>Fr a 51 [(1,(iV p_i)),(2,(iV p_j)),(3,(pP b5 0)),(36,(.bool t_7))]∧St [] w0 w m [[⟨b5,[s1.v,s2.v,s3.v,s4.v],50⟩]]) ?_ ?_
 ·refine q_region (q_y (v:=(.agg #[s1.v,s2.v,s3.v,s4.v])) hF hS (ex_loadA (vs:=[s1.v,s2.v,s3.v,s4.v]) 0 0 U50 rfl sz50 rfl rfl rfl rfl) fun a hF=>?_)
  obtain ⟨t_6,ht_6,hj1⟩:=bindS hj1
  refine q_call (vs:=[(.agg #[s1.v,s2.v,s3.v,s4.v])]) hF hS Try.func67 (by kernel_rfl) rfl rfl rfl (c_impl_IsTransport p_t t_6 ht_6 _ m hS.vis s1 h1 s2 h2 s3 h3 s4 h4) ?_
  rintro a w _ rfl hF hS
  refine q_y (v:=(.bool (!t_6))) hF hS (ex_not rfl) fun a hF=>q_m hF rfl fun a hF=>?_
  rcases bcase (!t_6) with hc2 | hc2
  ·have hj1:=cond_f hc2 hj1
   refine q_g (v:=(iV p_i)) hF hS (ex_move rfl) hc2 fun a hF=>q_g (v:=(.bool (decide (p_i < 0)))) hF hS (ex_ibin rfl rfl rfl) hc2 fun a hF=>q_y (v:=(.bool (decide (p_i < 0)))) hF hS (ex_pick_f rfl rfl hc2) fun a hF=>q_m hF rfl fun a hF=>?_
   rcases bcase (decide (p_i < 0)) with hc3 | hc3
   ·have hj1:=cond_f hc3 hj1
    refine q_g (v:=(iV p_i)) hF hS (ex_move rfl) hc3 fun a hF=>q_g (v:=(pP b5 0)) hF hS (ex_fieldAddr U50 rfl sz28 rfl rfl) hc3 fun a hF=>q_g (v:=s1.v) hF hS (ex_load1 0 0 U28 rfl rfl rfl rfl) hc3 fun a hF=>q_g (v:=(iV (goLen p_t.Rows))) hF hS (ex_len U28 rfl h1.len) hc3 fun a hF=>q_g (v:=(.bool (decide ((goLen p_t.Rows) ≤ p_i)))) hF hS (ex_ibin rfl rfl rfl) hc3 fun a hF=>q_y (v:=(.bool (decide ((goLen p_t.Rows) ≤ p_i)))) hF hS (ex_pick_f rfl rfl hc3) fun a hF=>q_m hF rfl fun a hF=>?_
    rcases bcase (decide ((goLen p_t.Rows) ≤ p_i)) with hc4 | hc4
    ·have hj1:=cond_f hc4 hj1
     refine q_g (v:=(iV p_j)) hF hS (ex_move rfl) hc4 fun a hF=>q_g (v:=(.bool (decide (p_j < 0)))) hF hS (ex_ibin rfl rfl rfl) hc4 fun a hF=>q_y (v:=(.bool (decide (p_j < 0)))) hF hS (ex_pick_f rfl rfl hc4) fun a hF=>q_m hF rfl fun a hF=>?_
     rcases bcase (decide (p_j < 0)) with hc5 | hc5
     ·have hj1:=cond_f hc5 hj1
      refine q_g (v:=(iV p_j)) hF hS (ex_move rfl) hc5 fun a hF=>q_g (v:=(pP b5 1)) hF hS (ex_fieldAddr U50 rfl sz28 rfl rfl) hc5 fun a hF=>q_g (v:=s2.v) hF hS (ex_load1 0 0 U28 rfl rfl rfl rfl) hc5 fun a hF=>q_g (v:=(iV (goLen p_t.Cols))) hF hS (ex_len U28 rfl h2.len) hc5 fun a hF=>q_g (v:=(.bool (decide ((goLen p_t.Cols) ≤ p_j)))) hF hS (ex_ibin rfl rfl rfl) hc5 fun a hF=>q_y (v:=(.bool (decide ((goLen p_t.Cols) ≤ p_j)))) hF hS (ex_pick_f rfl rfl hc5) fun a hF=>q_end (n_jn ?_)
      obtain rfl:=someI hj1
      exact ⟨hF.sub ⟨rfl,rfl,rfl,rfl,trivial⟩,hS⟩
     ·have hj1:=cond_t hc5 hj1
      refine q_k hF hc5 fun a hF=>q_k hF hc5 fun a hF=>q_k hF hc5 fun a hF=>q_k hF hc5 fun a hF=>q_k hF hc5 fun a hF=>q_y (v:=(.bool true)) hF hS (ex_pick_t rfl rfl hc5) fun a hF=>q_end (n_jn ?_)
      obtain rfl:=someI hj1
      exact ⟨hF.sub ⟨rfl,rfl,rfl,rfl,trivial⟩,hS⟩
    ·have hj1:=cond_t hc4 hj1
     refine q_k hF hc4 fun a hF=>q_k hF hc4 fun a hF=>q_y (v:=(.bool true)) hF hS (ex_pick_t rfl rfl hc4) fun a hF=>q_m hF rfl fun a hF=>q_k hF rfl fun a hF=>q_k hF rfl fun a hF=>q_k hF rfl fun a hF=>q_k hF rfl fun a hF=>q_k hF rfl fun a hF=>q_y (v:=(.bool true)) hF hS (ex_pick_t rfl rfl rfl) fun a hF=>q_end (n_jn ?_)
     obtain rfl:=someI hj1
     exact ⟨hF.sub ⟨rfl,rfl,rfl,rfl,trivial⟩,hS⟩
   ·have hj1:=cond_t hc3 hj1
    refine q_k hF hc3 fun a hF=>q_k hF hc3 fun a hF=>q_k hF hc3 fun a hF=>q_k hF hc3 fun a hF=>q_k hF hc3 fun a hF=>q_y (v:=(.bool true)) hF hS (ex_pick_t rfl rfl hc3) fun a hF=>q_m hF rfl fun a hF=>q_k hF rfl fun a hF=>q_k hF rfl fun a hF=>q_y (v:=(.bool true)) hF hS (ex_pick_t rfl rfl rfl) fun a hF=>q_m hF rfl fun a hF=>q_k hF rfl fun a hF=>q_k hF rfl fun a hF=>q_k hF rfl fun a hF=>q_k hF rfl fun a hF=>q_k hF rfl fun a hF=>q_y (v:=(.bool true)) hF hS (ex_pick_t rfl rfl rfl) fun a hF=>q_end (n_jn ?_)
    obtain rfl:=someI hj1
    exact ⟨hF.sub ⟨rfl,rfl,rfl,rfl,trivial⟩,hS⟩
  ·have hj1:=cond_t hc2 hj1
   refine q_k hF hc2 fun a hF=>q_k hF hc2 fun a hF=>q_y (v:=(.bool true)) hF hS (ex_pick_t rfl rfl hc2) fun a hF=>q_m hF rfl fun a hF=>q_k hF rfl fun a hF=>q_k hF rfl fun a hF=>q_k hF rfl fun a hF=>q_k hF rfl fun a hF=>q_k hF rfl fun a hF=>q_y (v:=(.bool true)) hF hS (ex_pick_t rfl rfl rfl) fun a hF=>q_m hF rfl fun a hF=>q_k hF rfl fun a hF=>q_k hF rfl fun a hF=>q_y (v:=(.bool true)) hF hS (ex_pick_t rfl rfl rfl) fun a hF=>q_m hF rfl fun a hF=>q_k hF rfl fun a hF=>q_k hF rfl fun a hF=>q_k hF rfl fun a hF=>q_k hF rfl fun a hF=>q_k hF rfl fun a hF=>q_y (v:=(.bool true)) hF hS (ex_pick_t rfl rfl rfl) fun a hF=>q_end (n_jn ?_)
   obtain rfl:=someI hj1
   exact ⟨hF.sub ⟨rfl,rfl,rfl,rfl,trivial⟩,hS⟩
 ·rintro a w ⟨hF,hS⟩
  refine n_sq ?_
  rcases bcase (t_7) with hc6 | hc6
  ·have hr:=cond_f hc6 hr
   refine q_cond_f hF rfl hc6 (q_skipc (n_sq (q_sr (q_y (v:=(.agg #[s1.v,s2.v,s3.v,s4.v])) hF hS (ex_loadA (vs:=[s1.v,s2.v,s3.v,s4.v]) 0 0 U50 rfl sz50 rfl rfl rfl rfl) fun a hF=>?_))))
   obtain ⟨t_8,ht_8,hr⟩:=bindS hr
   refine q_call (vs:=[(.agg #[s1.v,s2.v,s3.v,s4.v])]) hF hS Try.func124 (by kernel_rfl) rfl rfl rfl (c_impl_anyFlow p_t t_8 ht_8 _ m hS.vis s1 h1 s2 h2 s3 h3 s4 h4) ?_
   rintro a w _ ⟨q10,s10,rfl,hR9,h10,h10n⟩ hF hS2
   have hS : St _ _ _ _ [q10,[⟨b5,[s1.v,s2.v,s3.v,s4.v],50⟩]]:=hS.joinF hR9
   refine q_s hF rfl fun a hF=>q_end (n_sq (q_seq (q_sr (q_m hF rfl fun a hF=>q_y (v:=(.bool t_8.isEmpty)) hF hS (ex_eqNilF U23 h10n h10.nilE rfl rfl) fun a hF=>q_end (n_sq ?_)))))
   rcases bcase (t_8.isEmpty) with hc7 | hc7
   ·have hr:=cond_f hc7 hr
    refine q_cond_f hF rfl hc7 (q_skipc (n_sq (q_sr (q_y (v:=(.agg #[s1.v,s2.v,s3.v,s4.v])) hF hS (ex_loadA (vs:=[s1.v,s2.v,s3.v,s4.v]) 1 0 U50 rfl sz50 rfl rfl rfl rfl) fun a hF=>q_m hF rfl fun a hF=>q_m hF rfl fun a hF=>q_m hF rfl fun a hF=>?_))))
    obtain ⟨m12,hl12,hv12,hz12⟩:=hS.lend
    obtain ⟨t_11,ht_11,hr⟩:=bindS hr
    refine q_call (vs:=[(.agg #[s1.v,s2.v,s3.v,s4.v]),s10.v,(iV p_i),(iV p_j)]) hF hS Try.func101 (by kernel_rfl) rfl rfl rfl (c_impl_rangeOf p_t t_8 p_i p_j t_11 ht_11 _ m12 hv12 s1 (h1.mono hl12) s2 (h2.mono hl12) s3 (h3.mono hl12) s4 (h4.mono hl12) s10 (h10.froz hl12 (hz12 0 _ rfl))) ?_
    rintro a w _ rfl hF hS
    refine q_m hF rfl fun a hF=>q_y (v:=(iV t_11.1)) hF hS (ex_extract rfl rfl) fun a hF=>q_y (v:=(iV t_11.2)) hF hS (ex_extract rfl rfl) fun a hF=>q_s hF rfl fun a hF=>q_s hF rfl fun a hF=>q_end (n_sq (q_sr (q_m hF rfl fun a hF=>q_m hF rfl fun a hF=>q_s hF rfl fun a hF=>q_s hF rfl fun a hF=>q_s hF rfl fun a hF=>q_end (n_sq (q_ret ?_)))))
    obtain rfl:=someI hr
    exact ret_of hF hS rfl (.tmp rfl (.tmp rfl (.tmp rfl .nil))) rfl
   ·have hr:=cond_t hc7 hr
    refine q_cond_t hF rfl hc7 (q_sr (q_s hF rfl fun a hF=>q_s hF rfl fun a hF=>q_s hF rfl fun a hF=>q_end (n_sq (q_ret (r_sq ?_)))))
    obtain rfl:=someI hr
    exact ret_of hF hS rfl (.tmp rfl (.tmp rfl (.tmp rfl .nil))) rfl
  ·have hr:=cond_t hc6 hr
   refine q_cond_t hF rfl hc6 (q_sr (q_s hF rfl fun a hF=>q_s hF rfl fun a hF=>q_s hF rfl fun a hF=>q_end (n_sq (q_ret (r_sq ?_)))))
   obtain rfl:=someI hr
   exact ret_of hF hS rfl (.tmp rfl (.tmp rfl (.tmp rfl .nil))) rfl

theorem c_impl_RoundingRange (p_x : List (List Int)) (p_base : Int) (p_i : Int) (p_j : Int) (r : Int × Int × Bool) (hr : impl_RoundingRange p_x p_base p_i p_j = some r) (w0 : World) (m : Mem) (hv : Vis m w0) (s1 : Sl) (h1 : Rd m s1 p_x) :
  Ret Try.prog 71 [s1.v,(iV p_base),(iV p_i),(iV p_j)] w0 (fun v _=>v = (.tuple #[(iV r.1),(iV r.2.1),(.bool r.2.2)])):=by
 unfold impl_RoundingRange at hr
 refine ret_start Try.func71 rfl 61 rfl rfl m hv fun a hF hS=>q_sr (q_s hF rfl fun a hF=>q_s hF rfl fun a hF=>q_s hF rfl fun a hF=>q_end (n_sq (q_seq (q_seq ?_))))
 obtain ⟨t_7,hj1,hr⟩:=bindS hr
 refine q_join (fun a w=>Fr a 61 [(0,s1.v),(1,(iV p_base)),(2,(iV p_i)),(3,(iV p_j)),(43,(.bool t_7))]∧St [] w0 w m []) ?_ ?_
 ·refine q_region (q_m hF rfl fun a hF=>?_)
  obtain ⟨t_2,ht_2,hj1⟩:=bindS hj1
  refine q_call (vs:=[s1.v]) hF hS Try.func135 (by kernel_rfl) rfl rfl rfl (c_impl_isMatrix p_x t_2 ht_2 _ m hS.vis s1 h1) ?_
  rintro a w _ rfl hF hS
  refine q_y (v:=(.bool (!t_2))) hF hS (ex_not rfl) fun a hF=>q_m hF rfl fun a hF=>?_
  rcases bcase (!t_2) with hc2 | hc2
  ·have hj1:=cond_f hc2 hj1
   refine q_g (v:=(iV p_base)) hF hS (ex_move rfl) hc2 fun a hF=>?_
   obtain ⟨t_3,ht_3,hj1⟩:=bindS hj1
   refine q_callg (vs:=[(iV p_base)]) hF hS (wanted_t hF rfl rfl rfl hc2) Try.func136 (by kernel_rfl) rfl rfl rfl (c_impl_isBaseOf p_base t_3 ht_3 _ m hS.vis) ?_
   rintro a w _ rfl hF hS
   refine q_g (v:=(.bool (!t_3))) hF hS (ex_not rfl) hc2 fun a hF=>q_y (v:=(.bool (!t_3))) hF hS (ex_pick_f rfl rfl hc2) fun a hF=>q_m hF rfl fun a hF=>?_
   rcases bcase (!t_3) with hc3 | hc3
   ·have hj1:=cond_f hc3 hj1
    refine q_g (v:=(iV p_i)) hF hS (ex_move rfl) hc3 fun a hF=>q_g (v:=(.bool (decide (p_i < 0)))) hF hS (ex_ibin rfl rfl rfl) hc3 fun a hF=>q_y (v:=(.bool (decide (p_i < 0)))) hF hS (ex_pick_f rfl rfl hc3) fun a hF=>q_m hF rfl fun a hF=>?_
    rcases bcase (decide (p_i < 0)) with hc4 | hc4
    ·have hj1:=cond_f hc4 hj1
     refine q_g (v:=(iV p_i)) hF hS (ex_move rfl) hc4 fun a hF=>q_g (v:=s1.v) hF hS (ex_move rfl) hc4 fun a hF=>q_g (v:=(iV (goLen p_x))) hF hS (ex_len U23 rfl h1.len) hc4 fun a hF=>q_g (v:=(.bool (decide ((goLen p_x) ≤ p_i)))) hF hS (ex_ibin rfl rfl rfl) hc4 fun a hF=>q_y (v:=(.bool (decide ((goLen p_x) ≤ p_i)))) hF hS (ex_pick_f rfl rfl hc4) fun a hF=>q_m hF rfl fun a hF=>?_
     rcases bcase (decide ((goLen p_x) ≤ p_i)) with hc5 | hc5
     ·have hj1:=cond_f hc5 hj1
      refine q_g (v:=(iV p_j)) hF hS (ex_move rfl) hc5 fun a hF=>q_g (v:=(.bool (decide (p_j < 0)))) hF hS (ex_ibin rfl rfl rfl) hc5 fun a hF=>q_y (v:=(.bool (decide (p_j < 0)))) hF hS (ex_pick_f rfl rfl hc5) fun a hF=>q_m hF rfl fun a hF=>?_
      rcases bcase (decide (p_j < 0)) with hc6 | hc6
      ·have hj1:=cond_f hc6 hj1
       refine q_g (v:=(iV p_j)) hF hS (ex_move rfl) hc6 fun a hF=>q_g (v:=s1.v) hF hS (ex_move rfl) hc6 fun a hF=>?_
       obtain ⟨e_4,he_4,hj1⟩:=bindS hj1
       obtain ⟨vs5,at5,d5⟩:=h1.at he_4 1 rfl
       obtain ⟨s6,rfl,h6⟩ : ∃ s6 : Sl,vs5 = [s6.v]∧Rd m s6 e_4:=d5
       refine q_g (v:=(elP s1 ((0 : Int).toNat * 1))) hF hS (ex_indexAddr U23 sz28 rfl rfl (h1.idx he_4)) hc6 fun a hF=>q_g (v:=s6.v) hF hS (ex_loadE1 0 U28 rfl rfl ((at5).at) rfl rfl) hc6 fun a hF=>q_g (v:=(iV (goLen e_4))) hF hS (ex_len U28 rfl h6.len) hc6 fun a hF=>q_g (v:=(.bool (decide ((goLen e_4) ≤ p_j)))) hF hS (ex_ibin rfl rfl rfl) hc6 fun a hF=>q_y (v:=(.bool (decide ((goLen e_4) ≤ p_j)))) hF hS (ex_pick_f rfl rfl hc6) fun a hF=>q_end (n_jn ?_)
       obtain rfl:=someI hj1
       exact ⟨hF.sub ⟨rfl,rfl,rfl,rfl,rfl,trivial⟩,hS⟩
      ·have hj1:=cond_t hc6 hj1
       refine q_k hF hc6 fun a hF=>q_k hF hc6 fun a hF=>q_k hF hc6 fun a hF=>q_k hF hc6 fun a hF=>q_k hF hc6 fun a hF=>q_k hF hc6 fun a hF=>q_y (v:=(.bool true)) hF hS (ex_pick_t rfl rfl hc6) fun a hF=>q_end (n_jn ?_)
       obtain rfl:=someI hj1
       exact ⟨hF.sub ⟨rfl,rfl,rfl,rfl,rfl,trivial⟩,hS⟩
     ·have hj1:=cond_t hc5 hj1
      refine q_k hF hc5 fun a hF=>q_k hF hc5 fun a hF=>q_y (v:=(.bool true)) hF hS (ex_pick_t rfl rfl hc5) fun a hF=>q_m hF rfl fun a hF=>q_k hF rfl fun a hF=>q_k hF rfl fun a hF=>q_k hF rfl fun a hF=>q_k hF rfl fun a hF=>q_k hF rfl fun a hF=>q_k hF rfl fun a hF=>q_y (v:=(.bool true)) hF hS (ex_pick_t rfl rfl rfl) fun a hF=>q_end (n_jn ?_)
      obtain rfl:=someI hj1
      exact ⟨hF.sub ⟨rfl,rfl,rfl,rfl,rfl,trivial⟩,hS⟩
    ·have hj1:=cond_t hc4 hj1
     refine q_k hF hc4 fun a hF=>q_k hF hc4 fun a hF=>q_k hF hc4 fun a hF=>q_k hF hc4 fun a hF=>q_y (v:=(.bool true)) hF hS (ex_pick_t rfl rfl hc4) fun a hF=>q_m hF rfl fun a hF=>q_k hF rfl fun a hF=>q_k hF rfl fun a hF=>q_y (v:=(.bool true)) hF hS (ex_pick_t rfl rfl rfl) fun a hF=>q_m hF rfl fun a hF=>q_k hF rfl fun a hF=>q_k hF rfl fun a hF=>q_k hF rfl fun a hF=>q_k hF rfl fun a hF=>q_k hF rfl fun a hF=>q_k hF rfl fun a hF=>q_y (v:=(.bool true)) hF hS (ex_pick_t rfl rfl rfl) fun a hF=>q_end (n_jn ?_)
     obtain rfl:=someI hj1
     exact ⟨hF.sub ⟨rfl,rfl,rfl,rfl,rfl,trivial⟩,hS⟩
   ·have hj1:=cond_t hc3 hj1
    refine q_k hF hc3 fun a hF=>q_k hF hc3 fun a hF=>q_y (v:=(.bool true)) hF hS (ex_pick_t rfl rfl hc3) fun a hF=>q_m hF rfl fun a hF=>q_k hF rfl fun a hF=>q_k hF rfl fun a hF=>q_k hF rfl fun a hF=>q_k hF rfl fun a hF=>q_y (v:=(.bool true)) hF hS (ex_pick_t rfl rfl rfl) fun a hF=>q_m hF rfl fun a hF=>q_k hF rfl fun a hF=>q_k hF rfl fun a hF=>q_y (v:=(.bool true)) hF hS (ex_pick_t rfl rfl rfl) fun a hF=>q_m hF rfl fun a hF=>q_k hF rfl fun a hF=>q_k hF rfl fun a hF=>q_k hF rfl fun a hF=>q_k hF rfl fun a hF=>q_k hF rfl fun a hF=>q_k hF rfl fun a hF=>q_y (v:=(.bool true)) hF hS (ex_pick_t rfl rfl rfl) fun a hF=>q_end (n_jn ?_)
    obtain rfl:=someI hj1
    exact ⟨hF.sub ⟨rfl,rfl,rfl,rfl,rfl,trivial⟩,hS⟩
  ·have hj1:=cond_t hc2 hj1
   refine q_k hF hc2 fun a hF=>q_k hF hc2 fun a hF=>q_k hF hc2 fun a hF=>q_y (v:=(.bool true)) hF hS (ex_pick_t rfl rfl hc2) fun a hF=>q_m hF rfl fun a hF=>q_k hF rfl fun a hF=>q_k hF rfl fun a hF=>q_y (v:=(.bool true)) hF hS (ex_pick_t rfl rfl rfl) fun a hF=>q_m hF rfl fun a hF=>q_k hF rfl fun a hF=>q_k hF rfl fun a hF=>q_k hF rfl fun a hF=>q_k hF rfl fun a hF=>q_y (v:=(.bool true)) hF hS (ex_pick_t rfl rfl rfl) fun a hF=>q_m hF rfl fun a hF=>q_k hF rfl fun a hF=>q_k hF rfl fun a hF=>q_y (v:=(.bool true)) hF hS (ex_pick_t rfl rfl rfl) fun a hF=>q_m hF rfl fun a hF=>q_k hF rfl fun a hF=>q_k hF rfl fun a hF=>q_k hF rfl fun a hF=>q_k hF rfl fun a hF=>q_k hF rfl fun a hF=>q_k hF rfl fun a hF=>?_
   refine q_y (v:=(.bool true)) hF hS (ex_pick_t rfl rfl rfl) fun a hF=>q_end (n_jn ?_)
   obtain rfl:=someI hj1
   exact ⟨hF.sub ⟨rfl,rfl,rfl,rfl,rfl,trivial⟩,hS⟩
 ·rintro a w ⟨hF,hS⟩
  refine n_sq ?_
  rcases bcase (t_7) with hc7 | hc7
  ·have hr:=cond_f hc7 hr
   refine q_cond_f hF rfl hc7 (q_skipc (n_sq (q_sr (q_m hF rfl fun a hF=>q_m hF rfl fun a hF=>?_))))
   obtain ⟨t_8,ht_8,hr⟩:=bindS hr
   refine q_call (vs:=[s1.v,(iV p_base)]) hF hS Try.func137 (by kernel_rfl) rfl rfl rfl (c_impl_roundingNetwork p_x p_base t_8 ht_8 _ m hS.vis s1 h1) ?_
   rintro a w _ ⟨q10,q11,q12,q13,s10,s11,s12,s13,rfl,hR9,h10,h11,h12,h13⟩ hF hS2
   have hS : St _ _ _ _ [q10,q11,q12,q13]:=hS.joinF hR9
   refine q_m hF rfl fun a hF=>q_m hF rfl fun a hF=>?_
   obtain ⟨m15,hl15,hv15,hz15⟩:=hS.lend
   obtain ⟨t_14,ht_14,hr⟩:=bindS hr
   refine q_call (vs:=[(.agg #[s10.v,s11.v,s12.v,s13.v]),(iV p_i),(iV p_j)]) hF hS Try.func148 (by kernel_rfl) rfl rfl rfl (c_impl_CellRange t_8 p_i p_j t_14 ht_14 _ m15 hv15 s10 (h10.froz hl15 (hz15 0 _ rfl)) s11 (h11.froz hl15 (hz15 1 _ rfl)) s12 (h12.froz hl15 (hz15 2 _ rfl)) s13 (h13.froz hl15 (hz15 3 _ rfl))) ?_
   rintro a w _ rfl hF hS
   refine q_m hF rfl fun a hF=>q_y (v:=(iV t_14.1)) hF hS (ex_extract rfl rfl) fun a hF=>q_y (v:=(iV t_14.2.1)) hF hS (ex_extract rfl rfl) fun a hF=>q_y (v:=(.bool t_14.2.2)) hF hS (ex_extract rfl rfl) fun a hF=>q_s hF rfl fun a hF=>q_s hF rfl fun a hF=>q_s hF rfl fun a hF=>q_end (n_sq (q_sr (q_m hF rfl fun a hF=>q_m hF rfl fun a hF=>q_y (v:=(iV (w64 (t_14.1 * p_base)))) hF hS (ex_ibin rfl rfl rfl) fun a hF=>q_m hF rfl fun a hF=>q_m hF rfl fun a hF=>q_y (v:=(iV (w64 (t_14.2.1 * p_base)))) hF hS (ex_ibin rfl rfl rfl) fun a hF=>q_m hF rfl fun a hF=>q_s hF rfl fun a hF=>q_s hF rfl fun a hF=>q_s hF rfl fun a hF=>q_end (n_sq (q_ret ?_)))))
   obtain rfl:=someI hr
   exact ret_of hF hS rfl (.tmp rfl (.tmp rfl (.tmp rfl .nil))) rfl
  ·have hr:=cond_t hc7 hr
   refine q_cond_t hF rfl hc7 (q_sr (q_s hF rfl fun a hF=>q_s hF rfl fun a hF=>q_s hF rfl fun a hF=>q_end (n_sq (q_ret (r_sq ?_)))))
   obtain rfl:=someI hr
   exact ret_of hF hS rfl (.tmp rfl (.tmp rfl (.tmp rfl .nil))) rfl

theorem c_spec_tHigh (p_t : impl_Transport) (p_i : Int) (p_j : Int) (r : Int) (hr : spec_tHigh p_t p_i p_j = some r) (w0 : World) (m : Mem) (hv : Vis m w0) (s1 : Sl) (h1 : Rd m s1 p_t.Rows) (s2 : Sl) (h2 : Rd m s2 p_t.Cols) (s3 : Sl) (h3 : Rd m s3 p_t.Lo) (s4 : Sl) (h4 : Rd m s4 p_t.Hi) :
  Ret Try.prog 165 [(.agg #[s1.v,s2.v,s3.v,s4.v]),(iV p_i),(iV p_j)] w0 (fun v _=>v = (iV r)):=by
 unfold spec_tHigh at hr
 refine ret_start Try.func165 rfl 58 rfl rfl m hv fun a hF hS=>q_sr (q_box (cs:=[s1.v,s2.v,s3.v,s4.v]) hF hS rfl rfl rfl fun a w b5 hF hS=>q_s hF rfl fun a hF=>q_end (n_sq (q_seq (e_region ⟨[],[],m⟩ mixed fun w' hw'=>?_))))
 have hS:=hS.below hw'
 refine e_P (v:=(pP b5 2)) 0 hF rfl (ex_fieldAddr U50 rfl sz23 rfl rfl) fun a hF=>e_X (v:=s3.v) 1 hF hS rfl (ex_load1 0 0 U23 rfl rfl rfl rfl) fun a hF=>e_P (v:=(iV p_i)) 2 hF rfl (ex_move rfl) fun a hF=>?_
 obtain ⟨e_6,he_6,hr⟩:=bindS hr
 obtain ⟨vs7,at7,d7⟩:=h3.at he_6 1 rfl
 obtain ⟨s8,rfl,h8⟩ : ∃ s8 : Sl,vs7 = [s8.v]∧Rd m s8 e_6:=d7
 refine e_P (v:=(elP s3 (p_i.toNat * 1))) 3 hF rfl (ex_indexAddr U23 sz28 rfl rfl (h3.idx he_6)) fun a hF=>e_xm (v:=s8.v) 4 hF hS (Mem.le.refl _) rfl (ex_loadE1 0 U28 rfl rfl ((at7).at) rfl rfl) rfl rfl (by kernel_rfl) (by kernel_rfl) (by kernel_rfl) fun a hF=>e_P (v:=(iV p_j)) 5 hF rfl (ex_move rfl) fun a hF=>?_
 obtain ⟨e_9,he_9,hr⟩:=bindS hr
 obtain ⟨vs10,at10,d10⟩:=h8.at he_9 1 rfl
 obtain rfl : vs10 = [(iV e_9)]:=d10
 refine e_P (v:=(elP s8 (p_j.toNat * 1))) 6 hF rfl (ex_indexAddr U28 sz3 rfl rfl (h8.idx he_9)) fun a hF=>e_xm (v:=(iV e_9)) 7 hF hS (Mem.le.refl _) rfl (ex_loadE1 0 U3 rfl rfl ((at10).at) rfl rfl) rfl rfl (by kernel_rfl) (by kernel_rfl) (by kernel_rfl) fun a hF=>e_P (v:=(pP b5 3)) 8 hF rfl (ex_fieldAddr U50 rfl sz23 rfl rfl) fun a hF=>e_X (v:=s4.v) 9 hF hS rfl (ex_load1 0 0 U23 rfl rfl rfl rfl) fun a hF=>e_P (v:=(iV p_i)) 10 hF rfl (ex_move rfl) fun a hF=>?_
 obtain ⟨e_11,he_11,hr⟩:=bindS hr
 obtain ⟨vs12,at12,d12⟩:=h4.at he_11 1 rfl
 obtain ⟨s13,rfl,h13⟩ : ∃ s13 : Sl,vs12 = [s13.v]∧Rd m s13 e_11:=d12
 refine e_P (v:=(elP s4 (p_i.toNat * 1))) 11 hF rfl (ex_indexAddr U23 sz28 rfl rfl (h4.idx he_11)) fun a hF=>e_xm (v:=s13.v) 12 hF hS (Mem.le.refl _) rfl (ex_loadE1 0 U28 rfl rfl ((at12).at) rfl rfl) rfl rfl (by kernel_rfl) (by kernel_rfl) (by kernel_rfl) fun a hF=>e_P (v:=(iV p_j)) 13 hF rfl (ex_move rfl) fun a hF=>?_
 obtain ⟨e_14,he_14,hr⟩:=bindS hr
 obtain ⟨vs15,at15,d15⟩:=h13.at he_14 1 rfl
 obtain rfl : vs15 = [(iV e_14)]:=d15
 refine e_P (v:=(elP s13 (p_j.toNat * 1))) 14 hF rfl (ex_indexAddr U28 sz3 rfl rfl (h13.idx he_14)) fun a hF=>e_xm (v:=(iV e_14)) 15 hF hS (Mem.le.refl _) rfl (ex_loadE1 0 U3 rfl rfl ((at15).at) rfl rfl) rfl rfl (by kernel_rfl) (by kernel_rfl) (by kernel_rfl) fun a hF=>e_P (v:=(iV e_9)) 16 hF rfl (ex_assign rfl) fun a hF=>e_P (v:=(iV e_14)) 17 hF rfl (ex_assign rfl) fun a hF=>e_end (by kernel_rfl) (n_sq ?_) _
 refine q_seq (q_block ?_)
 obtain ⟨lo_38,hl1,hr⟩:=bindS hr
 refine q_loop (fun (s : Int × Int) a w=>∃ (m18 : Mem),∃ lo_16,∃ hi_17,s = (lo_16,hi_17)∧Fr a 58 [(1,(iV p_i)),(2,(iV p_j)),(3,(pP b5 0)),(7,(iV lo_16)),(8,(iV hi_17))]∧St [] w0 w m18 [[⟨b5,[s1.v,s2.v,s3.v,s4.v],50⟩]]∧MLe [] w0.heap.size m m18) (fun (lo_38 : Int) e a w=>∃ (m39 : Mem),e = .exit 0∧Fr a 58 [(7,(iV lo_38))]∧St [] w0 w m39 []∧MLe [] w0.heap.size m m39) hl1 ⟨m,_,_,rfl,hF.sub ⟨rfl,rfl,rfl,rfl,rfl,trivial⟩,hS,(MLe.refl _ _)⟩ ?_ ?_
 ·clear hF hS
  rintro s a w st ⟨m18,lo_16,hi_17,rfl,hF,hS,hm18⟩ hb1
  unfold spec_tHigh_l1 at hb1
  refine q_seq (q_sr (q_m hF rfl fun a hF=>q_m hF rfl fun a hF=>q_y (v:=(.bool (decide (lo_16 < hi_17)))) hF hS (ex_ibin rfl rfl rfl) fun a hF=>q_end (n_sq ?_)))
  rcases bcase (decide (lo_16 < hi_17)) with hc2 | hc2
  ·have hb1:=cond_f hc2 hb1
   refine q_cond_f hF rfl hc2 (q_exit (x_sq ?_))
   obtain rfl:=someI hb1
   exact ⟨nofun,.inl ⟨m18,rfl,hF.sub ⟨rfl,trivial⟩,hS.mask [false],hm18⟩⟩
  ·have hb1:=cond_t hc2 hb1
   refine q_cond_t hF rfl hc2 (q_skipc (n_sq (q_block (q_sr (q_m hF rfl fun a hF=>q_m hF rfl fun a hF=>q_y (v:=(iV (w64 (lo_16 + hi_17)))) hF hS (ex_ibin rfl rfl rfl) fun a hF=>q_y (v:=(iV (w64 ((w64 (lo_16 + hi_17)) + 1)))) hF hS (ex_ibin rfl rfl rfl) fun a hF=>?_)))))
   obtain ⟨t_19,ht_19,hb1⟩:=bindS hb1
   refine q_y (v:=(iV t_19)) hF hS (ex_quo rfl rfl ht_19) fun a hF=>q_s hF rfl fun a hF=>q_end (n_sq (q_seq (e_region ⟨[],[],m18⟩ mixed fun w' hw'=>?_)))
   have hS:=hS.below hw'
   refine e_X (v:=(.agg #[s1.v,s2.v,s3.v,s4.v])) 0 hF hS rfl (ex_loadA (vs:=[s1.v,s2.v,s3.v,s4.v]) 0 0 U50 rfl sz50 rfl rfl rfl rfl) fun a hF=>e_P (v:=(iV p_i)) 1 hF rfl (ex_move rfl) fun a hF=>e_P (v:=(iV p_j)) 2 hF rfl (ex_move rfl) fun a hF=>e_P (v:=(iV t_19)) 3 hF rfl (ex_move rfl) fun a hF=>e_P (v:=(pP b5 3)) 4 hF rfl (ex_fieldAddr U50 rfl sz23 rfl rfl) fun a hF=>e_X (v:=s4.v) 5 hF hS rfl (ex_load1 0 0 U23 rfl rfl rfl rfl) fun a hF=>e_P (v:=(iV p_i)) 6 hF rfl (ex_move rfl) fun a hF=>?_
   obtain ⟨e_20,he_20,hb1⟩:=bindS hb1
   obtain ⟨vs21,at21,d21⟩:=h4.at he_20 1 rfl
   obtain ⟨s22,rfl,h22⟩ : ∃ s22 : Sl,vs21 = [s22.v]∧Rd m s22 e_20:=d21
   refine e_P (v:=(elP s4 (p_i.toNat * 1))) 7 hF rfl (ex_indexAddr U23 sz28 rfl rfl ((h4.mono hm18.le).idx he_20)) fun a hF=>e_xm (v:=s22.v) 8 hF hS (Mem.le.refl _) rfl (ex_loadE1 0 U28 rfl rfl (((at21.mono hm18.le)).at) rfl rfl) rfl rfl (by kernel_rfl) (by kernel_rfl) (by kernel_rfl) fun a hF=>e_P (v:=(iV p_j)) 9 hF rfl (ex_move rfl) fun a hF=>?_
   obtain ⟨e_23,he_23,hb1⟩:=bindS hb1
   obtain ⟨vs24,at24,d24⟩:=h22.at he_23 1 rfl
   obtain rfl : vs24 = [(iV e_23)]:=d24
   refine e_P (v:=(elP s22 (p_j.toNat * 1))) 10 hF rfl (ex_indexAddr U28 sz3 rfl rfl ((h22.mono hm18.le).idx he_23)) fun a hF=>e_xm (v:=(iV e_23)) 11 hF hS (Mem.le.refl _) rfl (ex_loadE1 0 U3 rfl rfl (((at24.mono hm18.le)).at) rfl rfl) rfl rfl (by kernel_rfl) (by kernel_rfl) (by kernel_rfl) fun a hF=>e_one 12 (by kernel_rfl) ?_
   obtain ⟨t_25,ht_25,hb1⟩:=bindS hb1
   refine e_call (vs:=[(.agg #[s1.v,s2.v,s3.v,s4.v]),(iV p_i),(iV p_j),(iV t_19),(iV e_23)]) hF hS rfl Try.func121 (by kernel_rfl) rfl rfl rfl (c_spec_tWith p_t p_i p_j t_19 e_23 t_25 ht_25 _ m18 hS.vis s1 (h1.mono hm18.le) s2 (h2.mono hm18.le) s3 (h3.mono hm18.le) s4 (h4.mono hm18.le)) ?_
   have hT:=hS
   rintro a w _ ⟨m26,q29,q30,s27,s28,s29,s30,rfl,hm26,hR26,h27,h28,h29,h30⟩ hF hS2
   have hS : St _ _ _ _ [q29,q30,[⟨b5,[s1.v,s2.v,s3.v,s4.v],50⟩]]:=hS.join hR26 hm26
   have hm26:=MLe.weakX (O0:=[]) hT hm26
   refine e_one 13 (by kernel_rfl) ?_
   obtain ⟨m31,hm31,hS,hz31⟩:=hS.freeze
   have h31:=h29.froz hm31.le hz31
   obtain ⟨m32,hm32,hS,hz32⟩:=hS.freeze
   have h32:=(h30.mono hm31.le).froz hm32.le hz32
   obtain ⟨t_33,ht_33,hb1⟩:=bindS hb1
   refine e_call (vs:=[(.agg #[s27.v,s28.v,s29.v,s30.v])]) hF hS rfl Try.func158 (by kernel_rfl) rfl rfl rfl (c_spec_tFeasible t_25 t_33 ht_33 _ m32 hS.vis s27 ((h27.mono hm31.le).mono hm32.le) s28 ((h28.mono hm31.le).mono hm32.le) s29 (h31.mono hm32.le) s30 h32) ?_
   have hT:=hS
   rintro a w _ ⟨m34,q35,s35,rfl,hm34,hR34,h35⟩ hF hS2
   have hS : St _ _ _ _ [q35,[⟨b5,[s1.v,s2.v,s3.v,s4.v],50⟩]]:=hS.join hR34 hm34
   have hm34:=MLe.weakX (O0:=[]) hT hm34
   refine e_P (v:=(.tuple #[s35.v,(.bool t_33.2)])) 14 hF rfl (ex_move rfl) fun a hF=>e_P (v:=s35.v) 15 hF rfl (ex_extract rfl rfl) fun a hF=>e_P (v:=(.bool t_33.2)) 16 hF rfl (ex_extract rfl rfl) fun a hF=>e_P (v:=s35.v) 17 hF rfl (ex_assign rfl) fun a hF=>e_P (v:=(.bool t_33.2)) 18 hF rfl (ex_assign rfl) fun a hF=>e_end (by kernel_rfl) (n_sq ?_) _
   refine q_sr (q_m hF rfl fun a hF=>q_end (n_sq ?_))
   obtain ⟨j3,hj3,hb1⟩:=bindS hb1
   refine q_join (fun a w=>∃ lo_36,∃ hi_37,j3 = (lo_36,hi_37)∧Fr a 58 [(1,(iV p_i)),(2,(iV p_j)),(3,(pP b5 0)),(7,(iV lo_36)),(8,(iV hi_37))]∧St [] w0 w m34 [[⟨b5,[s1.v,s2.v,s3.v,s4.v],50⟩]]) ?_ ?_
   ·rcases bcase (t_33.2) with hc4 | hc4
    ·have hj3:=cond_f hc4 hj3
     refine q_cond_f hF rfl hc4 (q_region (q_m hF rfl fun a hF=>q_y (v:=(iV (w64 (t_19 - 1)))) hF hS (ex_ibin rfl rfl rfl) fun a hF=>q_s hF rfl fun a hF=>q_end (n_jn ?_)))
     obtain rfl:=someI hj3
     exact ⟨_,_,rfl,hF.sub ⟨rfl,rfl,rfl,rfl,rfl,trivial⟩,hS.mask [false,true]⟩
    ·have hj3:=cond_t hc4 hj3
     refine q_cond_t hF rfl hc4 (q_region (q_m hF rfl fun a hF=>q_s hF rfl fun a hF=>q_end (n_jn ?_)))
     obtain rfl:=someI hj3
     exact ⟨_,_,rfl,hF.sub ⟨rfl,rfl,rfl,rfl,rfl,trivial⟩,hS.mask [false,true]⟩
   ·rintro a w ⟨lo_36,hi_37,rfl,hF,hS⟩
    refine n_ib ?_
    obtain rfl:=someI hb1
    exact ⟨rfl,m34,_,_,rfl,hF.sub ⟨rfl,rfl,rfl,rfl,rfl,trivial⟩,hS,((((hm18.trans hm26).trans hm31).trans hm32).trans hm34)⟩
 ·rintro e a w ⟨m39,rfl,hF,hS,hm39⟩
  refine x_ib (n_sq ?_)
  refine q_sr (q_m hF rfl fun a hF=>q_s hF rfl fun a hF=>q_end (n_sq (q_ret ?_)))
  obtain rfl:=someI hr
  exact ret_of hF hS rfl (.tmp rfl .nil) rfl

theorem c_spec_tRange (p_t : impl_Transport) (p_i : Int) (p_j : Int) (r : Int × Int × Bool) (hr : spec_tRange p_t p_i p_j = some r) (w0 : World) (m : Mem) (hv : Vis m w0) (s1 : Sl) (h1 : Rd m s1 p_t.Rows) (s2 : Sl) (h2 : Rd m s2 p_t.Cols) (s3 : Sl) (h3 : Rd m s3 p_t.Lo) (s4 : Sl) (h4 : Rd m s4 p_t.Hi) :
  Ret Try.prog 119 [(.agg #[s1.v,s2.v,s3.v,s4.v]),(iV p_i),(iV p_j)] w0 (fun v _=>v = (.tuple #[(iV r.1),(iV r.2.1),(.bool r.2.2)])):=by
 unfold spec_tRange at hr
 refine ret_start Try.func119 rfl 26 rfl rfl m hv fun a hF hS=>q_sr (q_box (cs:=[s1.v,s2.v,s3.v,s4.v]) hF hS rfl rfl rfl fun a w b5 hF hS=>q_s hF rfl fun a hF=>q_s hF rfl fun a hF=>q_s hF rfl fun a hF=>q_end (n_sq (q_seq (q_sr (q_y (v:=(.agg #[s1.v,s2.v,s3.v,s4.v])) hF hS (ex_loadA (vs:=[s1.v,s2.v,s3.v,s4.v]) 0 0 U50 rfl sz50 rfl rfl rfl rfl) fun a hF=>?_)))))
 obtain ⟨t_6,ht_6,hr⟩:=bindS hr
 refine q_call (vs:=[(.agg #[s1.v,s2.v,s3.v,s4.v])]) hF hS Try.func158 (by kernel_rfl) rfl rfl rfl (c_spec_tFeasible p_t t_6 ht_6 _ m hS.vis s1 h1 s2 h2 s3 h3 s4 h4) ?_
 have hT:=hS
 rintro a w _ ⟨m7,q8,s8,rfl,hm7,hR7,h8⟩ hF hS2
 have hS : St _ _ _ _ [q8,[⟨b5,[s1.v,s2.v,s3.v,s4.v],50⟩]]:=hS.join hR7 hm7
 have hm7:=MLe.weakX (O0:=[]) hT hm7
 refine q_m hF rfl fun a hF=>q_y (v:=s8.v) hF hS (ex_extract rfl rfl) fun a hF=>q_y (v:=(.bool t_6.2)) hF hS (ex_extract rfl rfl) fun a hF=>q_s hF rfl fun a hF=>q_s hF rfl fun a hF=>q_end (n_sq (q_sr (q_m hF rfl fun a hF=>q_y (v:=(.bool (!t_6.2))) hF hS (ex_not rfl) fun a hF=>q_end (n_sq ?_))))
 rcases bcase (!t_6.2) with hc1 | hc1
 ·have hr:=cond_f hc1 hr
  refine q_cond_f hF rfl hc1 (q_skipc (n_sq (q_seq (e_region ⟨[],[],m7⟩ mixed fun w' hw'=>?_))))
  have hS:=hS.below hw'
  refine e_X (v:=(.agg #[s1.v,s2.v,s3.v,s4.v])) 0 hF hS rfl (ex_loadA (vs:=[s1.v,s2.v,s3.v,s4.v]) 1 0 U50 rfl sz50 rfl rfl rfl rfl) fun a hF=>e_P (v:=(iV p_i)) 1 hF rfl (ex_move rfl) fun a hF=>e_P (v:=(iV p_j)) 2 hF rfl (ex_move rfl) fun a hF=>e_X (v:=(.agg #[s1.v,s2.v,s3.v,s4.v])) 4 hF hS rfl (ex_loadA (vs:=[s1.v,s2.v,s3.v,s4.v]) 1 0 U50 rfl sz50 rfl rfl rfl rfl) fun a hF=>e_P (v:=(iV p_i)) 5 hF rfl (ex_move rfl) fun a hF=>e_P (v:=(iV p_j)) 6 hF rfl (ex_move rfl) fun a hF=>e_one 3 (by kernel_rfl) ?_
  obtain ⟨t_12,ht_12,hr⟩:=bindS hr
  refine e_call (vs:=[(.agg #[s1.v,s2.v,s3.v,s4.v]),(iV p_i),(iV p_j)]) hF hS rfl Try.func164 (by kernel_rfl) rfl rfl rfl (c_spec_tLow p_t p_i p_j t_12 ht_12 _ m7 hS.vis s1 (h1.mono hm7.le) s2 (h2.mono hm7.le) s3 (h3.mono hm7.le) s4 (h4.mono hm7.le)) ?_
  rintro a w _ rfl hF hS
  refine e_one 7 (by kernel_rfl) ?_
  obtain ⟨t_13,ht_13,hr⟩:=bindS hr
  refine e_call (vs:=[(.agg #[s1.v,s2.v,s3.v,s4.v]),(iV p_i),(iV p_j)]) hF hS rfl Try.func165 (by kernel_rfl) rfl rfl rfl (c_spec_tHigh p_t p_i p_j t_13 ht_13 _ m7 hS.vis s1 (h1.mono hm7.le) s2 (h2.mono hm7.le) s3 (h3.mono hm7.le) s4 (h4.mono hm7.le)) ?_
  rintro a w _ rfl hF hS
  refine e_P (v:=(iV t_12)) 8 hF rfl (ex_assign rfl) fun a hF=>e_P (v:=(iV t_13)) 9 hF rfl (ex_assign rfl) fun a hF=>e_P (v:=(.bool true)) 10 hF rfl (ex_assign rfl) fun a hF=>e_end (by kernel_rfl) (n_sq (q_ret ?_)) _
  obtain rfl:=someI hr
  exact ret_of hF hS rfl (.tmp rfl (.tmp rfl (.tmp rfl .nil))) rfl
 ·have hr:=cond_t hc1 hr
  refine q_cond_t hF rfl hc1 (q_sr (q_s hF rfl fun a hF=>q_s hF rfl fun a hF=>q_s hF rfl fun a hF=>q_end (n_sq (q_ret (r_sq ?_)))))
  obtain rfl:=someI hr
  exact ret_of hF hS rfl (.tmp rfl (.tmp rfl (.tmp rfl .nil))) rfl

theorem c_spec_RoundingRange (p_x : List (List Int)) (p_base : Int) (p_i : Int) (p_j : Int) (r : Int × Int × Bool) (hr : spec_RoundingRange p_x p_base p_i p_j = some r) (w0 : World) (m : Mem) (hv : Vis m w0) (s1 : Sl) (h1 : Rd m s1 p_x) :
  Ret Try.prog 72 [s1.v,(iV p_base),(iV p_i),(iV p_j)] w0 (fun v _=>v = (.tuple #[(iV r.1),(iV r.2.1),(.bool r.2.2)])):=by
 unfold spec_RoundingRange at hr
 refine ret_start Try.func72 rfl 53 rfl rfl m hv fun a hF hS=>q_sr (q_s hF rfl fun a hF=>q_s hF rfl fun a hF=>q_s hF rfl fun a hF=>q_end (n_sq (q_seq (q_seq ?_))))
 obtain ⟨t_8,hj1,hr⟩:=bindS hr
 refine q_join (fun a w=>Fr a 53 [(0,s1.v),(1,(iV p_base)),(2,(iV p_i)),(3,(iV p_j)),(35,(.bool t_8))]∧St [] w0 w m []) ?_ ?_
 ·refine q_region (q_m hF rfl fun a hF=>q_m hF rfl fun a hF=>?_)
  obtain ⟨t_2,ht_2,hj1⟩:=bindS hj1
  refine q_call (vs:=[s1.v,(iV p_base)]) hF hS Try.func139 (by kernel_rfl) rfl rfl rfl (c_spec_oGood p_x p_base t_2 ht_2 _ m hS.vis s1 h1) ?_
  rintro a w _ rfl hF hS
  refine q_y (v:=(.bool (!t_2))) hF hS (ex_not rfl) fun a hF=>q_m hF rfl fun a hF=>?_
  rcases bcase (!t_2) with hc2 | hc2
  ·have hj1:=cond_f hc2 hj1
   refine q_g (v:=(iV p_i)) hF hS (ex_move rfl) hc2 fun a hF=>q_g (v:=s1.v) hF hS (ex_move rfl) hc2 fun a hF=>q_g (v:=(iV (goLen p_x))) hF hS (ex_len U23 rfl h1.len) hc2 fun a hF=>q_g (v:=(iV (w64 ((goLen p_x) - 1)))) hF hS (ex_ibin rfl rfl rfl) hc2 fun a hF=>?_
   obtain ⟨t_3,ht_3,hj1⟩:=bindS hj1
   refine q_callg (vs:=[(iV p_i),(iV 0),(iV (w64 ((goLen p_x) - 1)))]) hF hS (wanted_t hF rfl rfl rfl hc2) Try.func77 (by kernel_rfl) rfl rfl rfl (c_spec_l1In p_i 0 (w64 ((goLen p_x) - 1)) t_3 ht_3 _ m hS.vis) ?_
   rintro a w _ rfl hF hS
   refine q_g (v:=(.bool (!t_3))) hF hS (ex_not rfl) hc2 fun a hF=>q_y (v:=(.bool (!t_3))) hF hS (ex_pick_f rfl rfl hc2) fun a hF=>q_m hF rfl fun a hF=>?_
   rcases bcase (!t_3) with hc3 | hc3
   ·have hj1:=cond_f hc3 hj1
    refine q_g (v:=(iV p_j)) hF hS (ex_move rfl) hc3 fun a hF=>q_g (v:=s1.v) hF hS (ex_move rfl) hc3 fun a hF=>?_
    obtain ⟨e_4,he_4,hj1⟩:=bindS hj1
    obtain ⟨vs5,at5,d5⟩:=h1.at he_4 1 rfl
    obtain ⟨s6,rfl,h6⟩ : ∃ s6 : Sl,vs5 = [s6.v]∧Rd m s6 e_4:=d5
    refine q_g (v:=(elP s1 ((0 : Int).toNat * 1))) hF hS (ex_indexAddr U23 sz28 rfl rfl (h1.idx he_4)) hc3 fun a hF=>q_g (v:=s6.v) hF hS (ex_loadE1 0 U28 rfl rfl ((at5).at) rfl rfl) hc3 fun a hF=>q_g (v:=(iV (goLen e_4))) hF hS (ex_len U28 rfl h6.len) hc3 fun a hF=>q_g (v:=(iV (w64 ((goLen e_4) - 1)))) hF hS (ex_ibin rfl rfl rfl) hc3 fun a hF=>?_
    obtain ⟨t_7,ht_7,hj1⟩:=bindS hj1
    refine q_callg (vs:=[(iV p_j),(iV 0),(iV (w64 ((goLen e_4) - 1)))]) hF hS (wanted_t hF rfl rfl rfl hc3) Try.func77 (by kernel_rfl) rfl rfl rfl (c_spec_l1In p_j 0 (w64 ((goLen e_4) - 1)) t_7 ht_7 _ m hS.vis) ?_
    rintro a w _ rfl hF hS
    refine q_g (v:=(.bool (!t_7))) hF hS (ex_not rfl) hc3 fun a hF=>q_y (v:=(.bool (!t_7))) hF hS (ex_pick_f rfl rfl hc3) fun a hF=>q_end (n_jn ?_)
    obtain rfl:=someI hj1
    exact ⟨hF.sub ⟨rfl,rfl,rfl,rfl,rfl,trivial⟩,hS⟩
   ·have hj1:=cond_t hc3 hj1
    refine q_k hF hc3 fun a hF=>q_k hF hc3 fun a hF=>q_k hF hc3 fun a hF=>q_k hF hc3 fun a hF=>q_k hF hc3 fun a hF=>q_k hF hc3 fun a hF=>q_k hF hc3 fun a hF=>q_k hF hc3 fun a hF=>q_y (v:=(.bool true)) hF hS (ex_pick_t rfl rfl hc3) fun a hF=>q_end (n_jn ?_)
    obtain rfl:=someI hj1
    exact ⟨hF.sub ⟨rfl,rfl,rfl,rfl,rfl,trivial⟩,hS⟩
  ·have hj1:=cond_t hc2 hj1
   refine q_k hF hc2 fun a hF=>q_k hF hc2 fun a hF=>q_k hF hc2 fun a hF=>q_k hF hc2 fun a hF=>q_k hF hc2 fun a hF=>q_k hF hc2 fun a hF=>q_y (v:=(.bool true)) hF hS (ex_pick_t rfl rfl hc2) fun a hF=>q_m hF rfl fun a hF=>q_k hF rfl fun a hF=>q_k hF rfl fun a hF=>q_k hF rfl fun a hF=>q_k hF rfl fun a hF=>q_k hF rfl fun a hF=>q_k hF rfl fun a hF=>q_k hF rfl fun a hF=>q_k hF rfl fun a hF=>q_y (v:=(.bool true)) hF hS (ex_pick_t rfl rfl rfl) fun a hF=>q_end (n_jn ?_)
   obtain rfl:=someI hj1
   exact ⟨hF.sub ⟨rfl,rfl,rfl,rfl,rfl,trivial⟩,hS⟩
 ·rintro a w ⟨hF,hS⟩
  refine n_sq ?_
  rcases bcase (t_8) with hc4 | hc4
  ·have hr:=cond_f hc4 hr
   refine q_cond_f hF rfl hc4 (q_skipc (n_sq (q_sr (q_m hF rfl fun a hF=>q_m hF rfl fun a hF=>?_))))
   obtain ⟨t_9,ht_9,hr⟩:=bindS hr
   refine q_call (vs:=[s1.v,(iV p_base)]) hF hS Try.func140 (by kernel_rfl) rfl rfl rfl (c_spec_oNetwork p_x p_base t_9 ht_9 _ m hS.vis s1 h1) ?_
   have hT:=hS
   rintro a w _ ⟨m10,q11,q12,q13,q14,s11,s12,s13,s14,rfl,hm10,hR10,h11,h12,h13,h14⟩ hF hS2
   have hS : St _ _ _ _ [q11,q12,q13,q14]:=hS.join hR10 hm10
   have hm10:=MLe.weakX (O0:=[]) hT hm10
   refine q_m hF rfl fun a hF=>q_m hF rfl fun a hF=>?_
   obtain ⟨m16,hl16,hv16,hz16⟩:=hS.lend
   obtain ⟨t_15,ht_15,hr⟩:=bindS hr
   refine q_call (vs:=[(.agg #[s11.v,s12.v,s13.v,s14.v]),(iV p_i),(iV p_j)]) hF hS Try.func119 (by kernel_rfl) rfl rfl rfl (c_spec_tRange t_9 p_i p_j t_15 ht_15 _ m16 hv16 s11 (h11.froz hl16 (hz16 0 _ rfl)) s12 (h12.froz hl16 (hz16 1 _ rfl)) s13 (h13.froz hl16 (hz16 2 _ rfl)) s14 (h14.froz hl16 (hz16 3 _ rfl))) ?_
   rintro a w _ rfl hF hS
   refine q_m hF rfl fun a hF=>q_y (v:=(iV t_15.1)) hF hS (ex_extract rfl rfl) fun a hF=>q_y (v:=(iV t_15.2.1)) hF hS (ex_extract rfl rfl) fun a hF=>q_y (v:=(.bool t_15.2.2)) hF hS (ex_extract rfl rfl) fun a hF=>q_s hF rfl fun a hF=>q_s hF rfl fun a hF=>q_s hF rfl fun a hF=>q_end (n_sq (q_sr (q_m hF rfl fun a hF=>q_m hF rfl fun a hF=>q_y (v:=(iV (w64 (t_15.1 * p_base)))) hF hS (ex_ibin rfl rfl rfl) fun a hF=>q_m hF rfl fun a hF=>q_m hF rfl fun a hF=>q_y (v:=(iV (w64 (t_15.2.1 * p_base)))) hF hS (ex_ibin rfl rfl rfl) fun a hF=>q_m hF rfl fun a hF=>q_s hF rfl fun a hF=>q_s hF rfl fun a hF=>q_s hF rfl fun a hF=>q_end (n_sq (q_ret ?_)))))
   obtain rfl:=someI hr
   exact ret_of hF hS rfl (.tmp rfl (.tmp rfl (.tmp rfl .nil))) rfl
  ·have hr:=cond_t hc4 hr
   refine q_cond_t hF rfl hc4 (q_sr (q_s hF rfl fun a hF=>q_s hF rfl fun a hF=>q_s hF rfl fun a hF=>q_end (n_sq (q_ret (r_sq ?_)))))
   obtain rfl:=someI hr
   exact ret_of hF hS rfl (.tmp rfl (.tmp rfl (.tmp rfl .nil))) rfl

theorem c_laws_FnRoundings (p_code : List (K .u8)) (p_more : List (K .u8)) (r : Bool) (hr : laws_FnRoundings p_code p_more = some r) (w0 : World) (m : Mem) (hv : Vis m w0) (s1 : Sl) (h1 : Rd m s1 p_code) (s2 : Sl) (h2 : Rd m s2 p_more) :
  Ret Try.prog 7 [s1.v,s2.v] w0 (fun v _=>v = (.bool r)):=by
 unfold laws_FnRoundings at hr
 refine ret_start Try.func7 rfl 234 rfl rfl m hv fun a hF hS=>q_sr (q_s hF rfl fun a hF=>q_end (n_sq (q_seq (q_sr (q_m hF rfl fun a hF=>q_m hF rfl fun a hF=>?_)))))
 obtain ⟨t_3,ht_3,hr⟩:=bindS hr
 refine q_call (vs:=[s1.v,s2.v]) hF hS Try.func43 (by kernel_rfl) rfl rfl rfl (c_laws_big p_code p_more t_3 ht_3 _ m hS.vis s1 h1 s2 h2) ?_
 rintro a w _ rfl hF hS
 refine q_end (n_sq ?_)
 rcases bcase (t_3) with hc1 | hc1
 ·have hr:=cond_f hc1 hr
  refine q_cond_f hF rfl hc1 (q_skipc (n_sq (q_sr (q_m hF rfl fun a hF=>?_))))
  obtain ⟨t_4,ht_4,hr⟩:=bindS hr
  refine q_call (vs:=[s1.v]) hF hS Try.func58 (by kernel_rfl) rfl rfl rfl (c_spec_DrawFirstRounding p_code t_4 ht_4 _ m hS.vis s1 h1) ?_
  rintro a w _ ⟨q6,s6,rfl,hR5,h6⟩ hF hS2
  have hS : St _ _ _ _ [q6]:=hS.joinF hR5
  refine q_m hF rfl fun a hF=>q_y (v:=s6.v) hF hS (ex_extract rfl rfl) fun a hF=>q_y (v:=(iV t_4.2)) hF hS (ex_extract rfl rfl) fun a hF=>q_s hF rfl fun a hF=>q_s hF rfl fun a hF=>q_end (n_sq (q_sr (q_m hF rfl fun a hF=>q_m hF rfl fun a hF=>?_)))
  obtain ⟨m8,hl8,hv8,hz8⟩:=hS.lend
  obtain ⟨t_7,ht_7,hr⟩:=bindS hr
  refine q_call (vs:=[s6.v,(iV t_4.2)]) hF hS Try.func59 (by kernel_rfl) rfl rfl rfl (c_impl_FirstRounding t_4.1 t_4.2 t_7 ht_7 _ m8 hv8 s6 (h6.froz hl8 (hz8 0 _ rfl))) ?_
  rintro a w _ ⟨q10,q11,q12,s10,s11,s12,rfl,hR9,h10,h11,h12⟩ hF hS2
  have hS : St _ _ _ _ [q10,q11,q12,q6]:=hS.joinF hR9
  have h10:=h10.any m
  have h11:=h11.any m
  have h12:=h12.any m
  refine q_m hF rfl fun a hF=>q_y (v:=(.agg #[s10.v,s11.v,s12.v,(iV t_7.1.Total)])) hF hS (ex_extract rfl rfl) fun a hF=>q_y (v:=(.bool t_7.2)) hF hS (ex_extract rfl rfl) fun a hF=>q_alloc (cs:=[nilS.v,nilS.v,nilS.v,(iV 0)]) hF hS rfl rfl rfl fun a w b13 hF hS=>q_store (vs:=[s10.v,s11.v,s12.v,(iV t_7.1.Total)]) (cs':=[s10.v,s11.v,s12.v,(iV t_7.1.Total)]) 0 0 hF hS sz74 rfl rfl rfl rfl rfl rfl rfl rfl fun a w hF hS=>q_s hF rfl fun a hF=>q_end (n_sq (q_sr (q_m hF rfl fun a hF=>q_m hF rfl fun a hF=>?_)))
  have hS : St _ _ _ _ [q6,[⟨b13,[s10.v,s11.v,s12.v,(iV t_7.1.Total)],74⟩],q10,q11,q12]:=hS.sel [4,0,1,2,3] (by decide)
  obtain ⟨m14,hm14,hS,hz14⟩:=hS.freeze
  have h14:=h6.froz hm14.le hz14
  obtain ⟨t_15,ht_15,hr⟩:=bindS hr
  refine q_call (vs:=[s6.v,(iV t_4.2)]) hF hS Try.func60 (by kernel_rfl) rfl rfl rfl (c_spec_FirstRounding t_4.1 t_4.2 t_15 ht_15 _ m14 hS.vis s6 h14) ?_
  have hT:=hS
  rintro a w _ ⟨m16,q17,q18,q19,s17,s18,s19,rfl,hm16,hR16,h17,h18,h19⟩ hF hS2
  have hS : St _ _ _ _ [q17,q18,q19,[⟨b13,[s10.v,s11.v,s12.v,(iV t_7.1.Total)],74⟩],q10,q11,q12]:=hS.join hR16 hm16
  have hm16:=MLe.weakX (O0:=[]) hT hm16
  refine q_m hF rfl fun a hF=>q_y (v:=(.agg #[s17.v,s18.v,s19.v,(iV t_15.1.Total)])) hF hS (ex_extract rfl rfl) fun a hF=>q_y (v:=(.bool t_15.2)) hF hS (ex_extract rfl rfl) fun a hF=>q_alloc (cs:=[nilS.v,nilS.v,nilS.v,(iV 0)]) hF hS rfl rfl rfl fun a w b20 hF hS=>q_store (vs:=[s17.v,s18.v,s19.v,(iV t_15.1.Total)]) (cs':=[s17.v,s18.v,s19.v,(iV t_15.1.Total)]) 0 0 hF hS sz74 rfl rfl rfl rfl rfl rfl rfl rfl fun a w hF hS=>q_s hF rfl fun a hF=>q_end (n_sq (q_seq (q_seq ?_)))
  obtain ⟨t_23,hj2,hr⟩:=bindS hr
  refine q_join (fun a w=>Fr a 234 [(1,s2.v),(5,s6.v),(6,(iV t_4.2)),(7,(pP b13 0)),(8,(.bool t_7.2)),(9,(pP b20 0)),(65,(.bool t_23))]∧St [] w0 w m16 [q17,q18,q19,q10,q11,q12,[⟨b20,[s17.v,s18.v,s19.v,(iV t_15.1.Total)],74⟩],[⟨b13,[s10.v,s11.v,s12.v,(iV t_7.1.Total)],74⟩]]) ?_ ?_
  ·refine q_region (q_m hF rfl fun a hF=>q_m hF rfl fun a hF=>q_y (v:=(.bool (t_7.2 != t_15.2))) hF hS (ex_bne U4 rfl rfl) fun a hF=>q_m hF rfl fun a hF=>?_)
   rcases bcase (t_7.2 != t_15.2) with hc3 | hc3
   ·have hj2:=cond_f hc3 hj2
    refine q_g (v:=(.agg #[s10.v,s11.v,s12.v,(iV t_7.1.Total)])) hF hS (ex_loadA (vs:=[s10.v,s11.v,s12.v,(iV t_7.1.Total)]) 4 0 U74 rfl sz74 rfl rfl rfl rfl) hc3 fun a hF=>q_g (v:=(.agg #[s17.v,s18.v,s19.v,(iV t_15.1.Total)])) hF hS (ex_loadA (vs:=[s17.v,s18.v,s19.v,(iV t_15.1.Total)]) 0 0 U74 rfl sz74 rfl rfl rfl rfl) hc3 fun a hF=>?_
    obtain ⟨m22,hl22,hv22,hz22⟩:=hS.lend
    obtain ⟨t_21,ht_21,hj2⟩:=bindS hj2
    refine q_callg (vs:=[(.agg #[s10.v,s11.v,s12.v,(iV t_7.1.Total)]),(.agg #[s17.v,s18.v,s19.v,(iV t_15.1.Total)])]) hF hS (wanted_t hF rfl rfl rfl hc3) Try.func61 (by kernel_rfl) rfl rfl rfl (c_laws_pSameRounding t_7.1 t_15.1 t_21 ht_21 _ m22 hv22 s10 (((h10.mono hm14.le).mono hm16.le).froz hl22 (hz22 5 _ rfl)) s11 (((h11.mono hm14.le).mono hm16.le).froz hl22 (hz22 6 _ rfl)) s12 (((h12.mono hm14.le).mono hm16.le).froz hl22 (hz22 7 _ rfl)) s17 (h17.froz hl22 (hz22 1 _ rfl)) s18 (h18.froz hl22 (hz22 2 _ rfl)) s19 (h19.froz hl22 (hz22 3 _ rfl))) ?_
    rintro a w _ rfl hF hS
    refine q_g (v:=(.bool (!t_21))) hF hS (ex_not rfl) hc3 fun a hF=>q_y (v:=(.bool (!t_21))) hF hS (ex_pick_f rfl rfl hc3) fun a hF=>q_end (n_jn ?_)
    obtain rfl:=someI hj2
    exact ⟨hF.sub ⟨rfl,rfl,rfl,rfl,rfl,rfl,rfl,trivial⟩,hS.sel [1,2,3,5,6,7,0,4] (by decide)⟩
   ·have hj2:=cond_t hc3 hj2
    refine q_k hF hc3 fun a hF=>q_k hF hc3 fun a hF=>q_k hF hc3 fun a hF=>q_k hF hc3 fun a hF=>q_y (v:=(.bool true)) hF hS (ex_pick_t rfl rfl hc3) fun a hF=>q_end (n_jn ?_)
    obtain rfl:=someI hj2
    exact ⟨hF.sub ⟨rfl,rfl,rfl,rfl,rfl,rfl,rfl,trivial⟩,hS.sel [1,2,3,5,6,7,0,4] (by decide)⟩
  ·rintro a w ⟨hF,hS⟩
   refine n_sq ?_
   rcases bcase (t_23) with hc4 | hc4
   ·have hr:=cond_f hc4 hr
    refine q_cond_f hF rfl hc4 (q_skipc (n_sq (q_seq (q_sr (q_m hF rfl fun a hF=>q_end (n_sq ?_))))))
    obtain ⟨j5,hj5,hr⟩:=bindS hr
    refine q_join (fun a w=>∃ (m85 : Mem),j5 = .inl ()∧Fr a 234 [(1,s2.v)]∧St [] w0 w m85 []∧MLe [] w0.heap.size m16 m85) ?_ ?_
    ·rcases bcase (t_7.2) with hc6 | hc6
     ·have hj5:=cond_f hc6 hj5
      refine q_cond_f hF rfl hc6 (q_skipc (n_jn ?_))
      obtain rfl:=someI hj5
      exact ⟨m16,rfl,hF.sub ⟨rfl,trivial⟩,hS.mask [false,false,false,false,false,false,false,false],(MLe.refl _ _)⟩
     ·have hj5:=cond_t hc6 hj5
      refine q_cond_t hF rfl hc6 (q_sr (q_m hF rfl fun a hF=>q_m hF rfl fun a hF=>q_y (v:=(.agg #[s10.v,s11.v,s12.v,(iV t_7.1.Total)])) hF hS (ex_loadA (vs:=[s10.v,s11.v,s12.v,(iV t_7.1.Total)]) 7 0 U74 rfl sz74 rfl rfl rfl rfl) fun a hF=>?_))
      obtain ⟨m25,hl25,hv25,hz25⟩:=hS.lend
      obtain ⟨t_24,ht_24,hj5⟩:=bindS hj5
      refine q_call (vs:=[s6.v,(iV t_4.2),(.agg #[s10.v,s11.v,s12.v,(iV t_7.1.Total)])]) hF hS Try.func62 (by kernel_rfl) rfl rfl rfl (c_impl_IsRounding t_4.1 t_4.2 t_7.1 t_24 ht_24 _ m25 hv25 s6 ((h14.mono hm16.le).mono hl25) s10 (((h10.mono hm14.le).mono hm16.le).froz hl25 (hz25 3 _ rfl)) s11 (((h11.mono hm14.le).mono hm16.le).froz hl25 (hz25 4 _ rfl)) s12 (((h12.mono hm14.le).mono hm16.le).froz hl25 (hz25 5 _ rfl))) ?_
      rintro a w _ rfl hF hS
      refine q_m hF rfl fun a hF=>q_y (v:=(.bool t_24.1)) hF hS (ex_extract rfl rfl) fun a hF=>q_y (v:=(.bool t_24.2)) hF hS (ex_extract rfl rfl) fun a hF=>q_s hF rfl fun a hF=>q_s hF rfl fun a hF=>q_end (n_sq (q_sr (q_m hF rfl fun a hF=>q_m hF rfl fun a hF=>?_)))
      obtain ⟨t_26,ht_26,hj5⟩:=bindS hj5
      refine q_call (vs:=[s6.v,(iV t_4.2)]) hF hS Try.func63 (by kernel_rfl) rfl rfl rfl (c_impl_RoundingNetwork t_4.1 t_4.2 t_26 ht_26 _ m16 hS.vis s6 (h14.mono hm16.le)) ?_
      rintro a w _ ⟨q28,q29,q30,q31,s28,s29,s30,s31,rfl,hR27,h28,h29,h30,h31⟩ hF hS2
      have hS : St _ _ _ _ [q28,q29,q30,q31,q17,q18,q19,q10,q11,q12,[⟨b20,[s17.v,s18.v,s19.v,(iV t_15.1.Total)],74⟩],[⟨b13,[s10.v,s11.v,s12.v,(iV t_7.1.Total)],74⟩]]:=hS.joinF hR27
      refine q_m hF rfl fun a hF=>q_y (v:=(.agg #[s28.v,s29.v,s30.v,s31.v])) hF hS (ex_extract rfl rfl) fun a hF=>q_y (v:=(.bool t_26.2)) hF hS (ex_extract rfl rfl) fun a hF=>q_alloc (cs:=[nilS.v,nilS.v,nilS.v,nilS.v]) hF hS rfl rfl rfl fun a w b32 hF hS=>q_store (vs:=[s28.v,s29.v,s30.v,s31.v]) (cs':=[s28.v,s29.v,s30.v,s31.v]) 0 0 hF hS sz50 rfl rfl rfl rfl rfl rfl rfl rfl fun a w hF hS=>q_s hF rfl fun a hF=>q_end (n_sq (q_sr (q_m hF rfl fun a hF=>q_m hF rfl fun a hF=>?_)))
      obtain ⟨t_33,ht_33,hj5⟩:=bindS hj5
      refine q_call (vs:=[s6.v,(iV t_4.2)]) hF hS Try.func64 (by kernel_rfl) rfl rfl rfl (c_spec_RoundingNetwork t_4.1 t_4.2 t_33 ht_33 _ m16 hS.vis s6 (h14.mono hm16.le)) ?_
      have hT:=hS
      rintro a w _ ⟨m34,q35,q36,q37,q38,s35,s36,s37,s38,rfl,hm34,hR34,h35,h36,h37,h38⟩ hF hS2
      have hS : St _ _ _ _ [q35,q36,q37,q38,[⟨b32,[s28.v,s29.v,s30.v,s31.v],50⟩],q28,q29,q30,q31,q17,q18,q19,q10,q11,q12,[⟨b20,[s17.v,s18.v,s19.v,(iV t_15.1.Total)],74⟩],[⟨b13,[s10.v,s11.v,s12.v,(iV t_7.1.Total)],74⟩]]:=hS.join hR34 hm34
      have hm34:=MLe.weakX (O0:=[]) hT hm34
      refine q_m hF rfl fun a hF=>q_y (v:=(.agg #[s35.v,s36.v,s37.v,s38.v])) hF hS (ex_extract rfl rfl) fun a hF=>q_y (v:=(.bool t_33.2)) hF hS (ex_extract rfl rfl) fun a hF=>q_alloc (cs:=[nilS.v,nilS.v,nilS.v,nilS.v]) hF hS rfl rfl rfl fun a w b39 hF hS=>q_store (vs:=[s35.v,s36.v,s37.v,s38.v]) (cs':=[s35.v,s36.v,s37.v,s38.v]) 0 0 hF hS sz50 rfl rfl rfl rfl rfl rfl rfl rfl fun a w hF hS=>q_s hF rfl fun a hF=>q_end (n_sq (q_sr (q_y (v:=(pP b13 0)) hF hS (ex_fieldAddr U74 rfl sz23 rfl rfl) fun a hF=>q_y (v:=s10.v) hF hS (ex_load1 17 0 U23 rfl rfl rfl rfl) fun a hF=>q_m hF rfl fun a hF=>?_)))
      obtain ⟨m41,hl41,hv41,hz41⟩:=hS.lend
      obtain ⟨t_40,ht_40,hj5⟩:=bindS hj5
      refine q_call (vs:=[s10.v,(iV t_4.2)]) hF hS Try.func65 (by kernel_rfl) rfl rfl rfl (c_impl_OriginalBounds t_7.1.Cells t_4.2 t_40 ht_40 _ m41 hv41 s10 ((((h10.mono hm14.le).mono hm16.le).mono hm34.le).froz hl41 (hz41 13 _ rfl))) ?_
      rintro a w _ ⟨q43,q44,s43,s44,rfl,hR42,h43,h44⟩ hF hS2
      have hS : St _ _ _ _ [q43,q44,[⟨b39,[s35.v,s36.v,s37.v,s38.v],50⟩],q35,q36,q37,q38,[⟨b32,[s28.v,s29.v,s30.v,s31.v],50⟩],q28,q29,q30,q31,q17,q18,q19,q10,q11,q12,[⟨b20,[s17.v,s18.v,s19.v,(iV t_15.1.Total)],74⟩],[⟨b13,[s10.v,s11.v,s12.v,(iV t_7.1.Total)],74⟩]]:=hS.joinF hR42
      have h43:=h43.any m34
      have h44:=h44.any m34
      refine q_m hF rfl fun a hF=>q_y (v:=s43.v) hF hS (ex_extract rfl rfl) fun a hF=>q_y (v:=s44.v) hF hS (ex_extract rfl rfl) fun a hF=>q_y (v:=(.bool t_40.2.2)) hF hS (ex_extract rfl rfl) fun a hF=>q_s hF rfl fun a hF=>q_s hF rfl fun a hF=>q_s hF rfl fun a hF=>q_end (n_sq (q_seq (q_seq ?_)))
      obtain ⟨t_49,hj7,hj5⟩:=bindS hj5
      refine q_join (fun a w=>Fr a 234 [(1,s2.v),(5,s6.v),(6,(iV t_4.2)),(9,(pP b20 0)),(17,s43.v),(18,s44.v),(19,(.bool t_40.2.2)),(114,(.bool t_49))]∧St [] w0 w m34 [q43,q44,q17,q18,q19,[⟨b20,[s17.v,s18.v,s19.v,(iV t_15.1.Total)],74⟩]]) ?_ ?_
      ·refine q_region (q_m hF rfl fun a hF=>q_y (v:=(.bool (!t_24.2))) hF hS (ex_not rfl) fun a hF=>q_m hF rfl fun a hF=>?_)
       rcases bcase (!t_24.2) with hc8 | hc8
       ·have hj7:=cond_f hc8 hj7
        refine q_g (v:=(.bool t_24.1)) hF hS (ex_move rfl) hc8 fun a hF=>q_g (v:=(.bool (!t_24.1))) hF hS (ex_not rfl) hc8 fun a hF=>q_y (v:=(.bool (!t_24.1))) hF hS (ex_pick_f rfl rfl hc8) fun a hF=>q_m hF rfl fun a hF=>?_
        rcases bcase (!t_24.1) with hc9 | hc9
        ·have hj7:=cond_f hc9 hj7
         refine q_g (v:=(.bool t_26.2)) hF hS (ex_move rfl) hc9 fun a hF=>q_g (v:=(.bool (!t_26.2))) hF hS (ex_not rfl) hc9 fun a hF=>q_y (v:=(.bool (!t_26.2))) hF hS (ex_pick_f rfl rfl hc9) fun a hF=>q_m hF rfl fun a hF=>?_
         rcases bcase (!t_26.2) with hc10 | hc10
         ·have hj7:=cond_f hc10 hj7
          refine q_g (v:=(.agg #[s28.v,s29.v,s30.v,s31.v])) hF hS (ex_loadA (vs:=[s28.v,s29.v,s30.v,s31.v]) 7 0 U50 rfl sz50 rfl rfl rfl rfl) hc10 fun a hF=>q_g (v:=(.agg #[s35.v,s36.v,s37.v,s38.v])) hF hS (ex_loadA (vs:=[s35.v,s36.v,s37.v,s38.v]) 2 0 U50 rfl sz50 rfl rfl rfl rfl) hc10 fun a hF=>?_
          obtain ⟨m46,hl46,hv46,hz46⟩:=hS.lend
          obtain ⟨t_45,ht_45,hj7⟩:=bindS hj7
          refine q_callg (vs:=[(.agg #[s28.v,s29.v,s30.v,s31.v]),(.agg #[s35.v,s36.v,s37.v,s38.v])]) hF hS (wanted_t hF rfl rfl rfl hc10) Try.func66 (by kernel_rfl) rfl rfl rfl (c_laws_pSameNetwork t_26.1 t_33.1 t_45 ht_45 _ m46 hv46 s28 ((h28.mono hm34.le).froz hl46 (hz46 8 _ rfl)) s29 ((h29.mono hm34.le).froz hl46 (hz46 9 _ rfl)) s30 ((h30.mono hm34.le).froz hl46 (hz46 10 _ rfl)) s31 ((h31.mono hm34.le).froz hl46 (hz46 11 _ rfl)) s35 (h35.froz hl46 (hz46 3 _ rfl)) s36 (h36.froz hl46 (hz46 4 _ rfl)) s37 (h37.froz hl46 (hz46 5 _ rfl)) s38 (h38.froz hl46 (hz46 6 _ rfl))) ?_
          rintro a w _ rfl hF hS
          refine q_g (v:=(.bool (!t_45))) hF hS (ex_not rfl) hc10 fun a hF=>q_y (v:=(.bool (!t_45))) hF hS (ex_pick_f rfl rfl hc10) fun a hF=>q_m hF rfl fun a hF=>?_
          rcases bcase (!t_45) with hc11 | hc11
          ·have hj7:=cond_f hc11 hj7
           refine q_g (v:=(.agg #[s28.v,s29.v,s30.v,s31.v])) hF hS (ex_loadA (vs:=[s28.v,s29.v,s30.v,s31.v]) 7 0 U50 rfl sz50 rfl rfl rfl rfl) hc11 fun a hF=>?_
           obtain ⟨m48,hl48,hv48,hz48⟩:=hS.lend
           obtain ⟨t_47,ht_47,hj7⟩:=bindS hj7
           refine q_callg (vs:=[(.agg #[s28.v,s29.v,s30.v,s31.v])]) hF hS (wanted_t hF rfl rfl rfl hc11) Try.func67 (by kernel_rfl) rfl rfl rfl (c_impl_IsTransport t_26.1 t_47 ht_47 _ m48 hv48 s28 ((h28.mono hm34.le).froz hl48 (hz48 8 _ rfl)) s29 ((h29.mono hm34.le).froz hl48 (hz48 9 _ rfl)) s30 ((h30.mono hm34.le).froz hl48 (hz48 10 _ rfl)) s31 ((h31.mono hm34.le).froz hl48 (hz48 11 _ rfl))) ?_
           rintro a w _ rfl hF hS
           refine q_g (v:=(.bool (!t_47))) hF hS (ex_not rfl) hc11 fun a hF=>q_y (v:=(.bool (!t_47))) hF hS (ex_pick_f rfl rfl hc11) fun a hF=>q_end (n_jn ?_)
           obtain rfl:=someI hj7
           exact ⟨hF.sub ⟨rfl,rfl,rfl,rfl,rfl,rfl,rfl,rfl,trivial⟩,hS.mask [true,true,false,false,false,false,false,false,false,false,false,false,true,true,true,false,false,false,true,false]⟩
          ·have hj7:=cond_t hc11 hj7
           refine q_k hF hc11 fun a hF=>q_k hF hc11 fun a hF=>q_k hF hc11 fun a hF=>q_y (v:=(.bool true)) hF hS (ex_pick_t rfl rfl hc11) fun a hF=>q_end (n_jn ?_)
           obtain rfl:=someI hj7
           exact ⟨hF.sub ⟨rfl,rfl,rfl,rfl,rfl,rfl,rfl,rfl,trivial⟩,hS.mask [true,true,false,false,false,false,false,false,false,false,false,false,true,true,true,false,false,false,true,false]⟩
         ·have hj7:=cond_t hc10 hj7
          refine q_k hF hc10 fun a hF=>q_k hF hc10 fun a hF=>q_k hF hc10 fun a hF=>q_k hF hc10 fun a hF=>q_y (v:=(.bool true)) hF hS (ex_pick_t rfl rfl hc10) fun a hF=>q_m hF rfl fun a hF=>q_k hF rfl fun a hF=>q_k hF rfl fun a hF=>q_k hF rfl fun a hF=>q_y (v:=(.bool true)) hF hS (ex_pick_t rfl rfl rfl) fun a hF=>q_end (n_jn ?_)
          obtain rfl:=someI hj7
          exact ⟨hF.sub ⟨rfl,rfl,rfl,rfl,rfl,rfl,rfl,rfl,trivial⟩,hS.mask [true,true,false,false,false,false,false,false,false,false,false,false,true,true,true,false,false,false,true,false]⟩
        ·have hj7:=cond_t hc9 hj7
         refine q_k hF hc9 fun a hF=>q_k hF hc9 fun a hF=>q_y (v:=(.bool true)) hF hS (ex_pick_t rfl rfl hc9) fun a hF=>q_m hF rfl fun a hF=>q_k hF rfl fun a hF=>q_k hF rfl fun a hF=>q_k hF rfl fun a hF=>q_k hF rfl fun a hF=>q_y (v:=(.bool true)) hF hS (ex_pick_t rfl rfl rfl) fun a hF=>q_m hF rfl fun a hF=>q_k hF rfl fun a hF=>q_k hF rfl fun a hF=>q_k hF rfl fun a hF=>q_y (v:=(.bool true)) hF hS (ex_pick_t rfl rfl rfl) fun a hF=>q_end (n_jn ?_)
         obtain rfl:=someI hj7
         exact ⟨hF.sub ⟨rfl,rfl,rfl,rfl,rfl,rfl,rfl,rfl,trivial⟩,hS.mask [true,true,false,false,false,false,false,false,false,false,false,false,true,true,true,false,false,false,true,false]⟩
       ·have hj7:=cond_t hc8 hj7
        refine q_k hF hc8 fun a hF=>q_k hF hc8 fun a hF=>q_y (v:=(.bool true)) hF hS (ex_pick_t rfl rfl hc8) fun a hF=>q_m hF rfl fun a hF=>q_k hF rfl fun a hF=>q_k hF rfl fun a hF=>q_y (v:=(.bool true)) hF hS (ex_pick_t rfl rfl rfl) fun a hF=>q_m hF rfl fun a hF=>q_k hF rfl fun a hF=>q_k hF rfl fun a hF=>q_k hF rfl fun a hF=>q_k hF rfl fun a hF=>q_y (v:=(.bool true)) hF hS (ex_pick_t rfl rfl rfl) fun a hF=>q_m hF rfl fun a hF=>q_k hF rfl fun a hF=>q_k hF rfl fun a hF=>q_k hF rfl fun a hF=>q_y (v:=(.bool true)) hF hS (ex_pick_t rfl rfl rfl) fun a hF=>q_end (n_jn ?_)
        obtain rfl:=someI hj7
        exact ⟨hF.sub ⟨rfl,rfl,rfl,rfl,rfl,rfl,rfl,rfl,trivial⟩,hS.mask [true,true,false,false,false,false,false,false,false,false,false,false,true,true,true,false,false,false,true,false]⟩
      ·rintro a w ⟨hF,hS⟩
       refine n_sq ?_
       rcases bcase (t_49) with hc12 | hc12
       ·have hj5:=cond_f hc12 hj5
        refine q_cond_f hF rfl hc12 (q_skipc (n_sq (q_sr (q_y (v:=(pP b20 0)) hF hS (ex_fieldAddr U74 rfl sz23 rfl rfl) fun a hF=>q_y (v:=s17.v) hF hS (ex_load1 5 0 U23 rfl rfl rfl rfl) fun a hF=>q_m hF rfl fun a hF=>?_))))
        obtain ⟨m51,hl51,hv51,hz51⟩:=hS.lend
        obtain ⟨t_50,ht_50,hj5⟩:=bindS hj5
        refine q_call (vs:=[s17.v,(iV t_4.2)]) hF hS Try.func68 (by kernel_rfl) rfl rfl rfl (c_spec_OriginalBounds t_15.1.Cells t_4.2 t_50 ht_50 _ m51 hv51 s17 ((h17.mono hm34.le).froz hl51 (hz51 2 _ rfl))) ?_
        rintro a w _ ⟨q53,q54,s53,s54,rfl,hR52,h53,h54⟩ hF hS2
        have hS : St _ _ _ _ [q53,q54,q43,q44,q17,q18,q19,[⟨b20,[s17.v,s18.v,s19.v,(iV t_15.1.Total)],74⟩]]:=hS.joinF hR52
        have h53:=h53.any m34
        have h54:=h54.any m34
        refine q_m hF rfl fun a hF=>q_y (v:=s53.v) hF hS (ex_extract rfl rfl) fun a hF=>q_y (v:=s54.v) hF hS (ex_extract rfl rfl) fun a hF=>q_y (v:=(.bool t_50.2.2)) hF hS (ex_extract rfl rfl) fun a hF=>q_s hF rfl fun a hF=>q_s hF rfl fun a hF=>q_s hF rfl fun a hF=>q_end (n_sq (q_seq (q_seq ?_)))
        obtain ⟨t_59,hj13,hj5⟩:=bindS hj5
        refine q_join (fun a w=>Fr a 234 [(1,s2.v),(5,s6.v),(6,(iV t_4.2)),(20,s53.v),(21,s54.v),(137,(.bool t_59))]∧St [] w0 w m34 [q53,q54]) ?_ ?_
        ·refine q_region (q_m hF rfl fun a hF=>q_m hF rfl fun a hF=>q_y (v:=(.bool (t_40.2.2 != t_50.2.2))) hF hS (ex_bne U4 rfl rfl) fun a hF=>q_m hF rfl fun a hF=>?_)
         rcases bcase (t_40.2.2 != t_50.2.2) with hc14 | hc14
         ·have hj13:=cond_f hc14 hj13
          refine q_g (v:=s43.v) hF hS (ex_move rfl) hc14 fun a hF=>q_g (v:=s53.v) hF hS (ex_move rfl) hc14 fun a hF=>?_
          obtain ⟨m56,hl56,hv56,hz56⟩:=hS.lend
          obtain ⟨t_55,ht_55,hj13⟩:=bindS hj13
          refine q_callg (vs:=[s43.v,s53.v]) hF hS (wanted_t hF rfl rfl rfl hc14) Try.func47 (by kernel_rfl) rfl rfl rfl (c_laws_sameLists t_40.1 t_50.1 t_55 ht_55 _ m56 hv56 s43 (h43.froz hl56 (hz56 2 _ rfl)) s53 (h53.froz hl56 (hz56 0 _ rfl))) ?_
          rintro a w _ rfl hF hS
          refine q_g (v:=(.bool (!t_55))) hF hS (ex_not rfl) hc14 fun a hF=>q_y (v:=(.bool (!t_55))) hF hS (ex_pick_f rfl rfl hc14) fun a hF=>q_m hF rfl fun a hF=>?_
          rcases bcase (!t_55) with hc15 | hc15
          ·have hj13:=cond_f hc15 hj13
           refine q_g (v:=s44.v) hF hS (ex_move rfl) hc15 fun a hF=>q_g (v:=s54.v) hF hS (ex_move rfl) hc15 fun a hF=>?_
           obtain ⟨m58,hl58,hv58,hz58⟩:=hS.lend
           obtain ⟨t_57,ht_57,hj13⟩:=bindS hj13
           refine q_callg (vs:=[s44.v,s54.v]) hF hS (wanted_t hF rfl rfl rfl hc15) Try.func47 (by kernel_rfl) rfl rfl rfl (c_laws_sameLists t_40.2.1 t_50.2.1 t_57 ht_57 _ m58 hv58 s44 (h44.froz hl58 (hz58 3 _ rfl)) s54 (h54.froz hl58 (hz58 1 _ rfl))) ?_
           rintro a w _ rfl hF hS
           refine q_g (v:=(.bool (!t_57))) hF hS (ex_not rfl) hc15 fun a hF=>q_y (v:=(.bool (!t_57))) hF hS (ex_pick_f rfl rfl hc15) fun a hF=>q_end (n_jn ?_)
           obtain rfl:=someI hj13
           exact ⟨hF.sub ⟨rfl,rfl,rfl,rfl,rfl,rfl,trivial⟩,hS.mask [true,true,false,false,false,false,false,false]⟩
          ·have hj13:=cond_t hc15 hj13
           refine q_k hF hc15 fun a hF=>q_k hF hc15 fun a hF=>q_k hF hc15 fun a hF=>q_k hF hc15 fun a hF=>q_y (v:=(.bool true)) hF hS (ex_pick_t rfl rfl hc15) fun a hF=>q_end (n_jn ?_)
           obtain rfl:=someI hj13
           exact ⟨hF.sub ⟨rfl,rfl,rfl,rfl,rfl,rfl,trivial⟩,hS.mask [true,true,false,false,false,false,false,false]⟩
         ·have hj13:=cond_t hc14 hj13
          refine q_k hF hc14 fun a hF=>q_k hF hc14 fun a hF=>q_k hF hc14 fun a hF=>q_k hF hc14 fun a hF=>q_y (v:=(.bool true)) hF hS (ex_pick_t rfl rfl hc14) fun a hF=>q_m hF rfl fun a hF=>q_k hF rfl fun a hF=>q_k hF rfl fun a hF=>q_k hF rfl fun a hF=>q_k hF rfl fun a hF=>q_y (v:=(.bool true)) hF hS (ex_pick_t rfl rfl rfl) fun a hF=>q_end (n_jn ?_)
          obtain rfl:=someI hj13
          exact ⟨hF.sub ⟨rfl,rfl,rfl,rfl,rfl,rfl,trivial⟩,hS.mask [true,true,false,false,false,false,false,false]⟩
        ·rintro a w ⟨hF,hS⟩
         refine n_sq ?_
         rcases bcase (t_59) with hc16 | hc16
         ·have hj5:=cond_f hc16 hj5
          refine q_cond_f hF rfl hc16 (q_skipc (n_sq (q_seq (q_sr (q_m hF rfl fun a hF=>q_y (v:=(iV (goLen t_50.1))) hF hS (ex_len U23 rfl h53.len) fun a hF=>q_m hF rfl fun a hF=>q_end (n_sq (q_block ?_)))))))
          obtain ⟨o17,hl17,hj5⟩:=bindS hj5
          refine q_loop (fun (t_60 : Int) a w=>Fr a 234 [(1,s2.v),(5,s6.v),(6,(iV t_4.2)),(20,s53.v),(21,s54.v),(139,(iV (goLen t_50.1))),(140,(iV t_60))]∧St [] w0 w m34 [q53,q54]) (fun (o : (Unit) ⊕ ((Unit) ⊕ (Bool))) e a w=>o = .inl ()∧e = .exit 0∧Fr a 234 [(1,s2.v),(5,s6.v),(6,(iV t_4.2))]∧St [] w0 w m34 []) hl17 ⟨hF.sub ⟨rfl,rfl,rfl,rfl,rfl,rfl,rfl,trivial⟩,hS⟩ ?_ ?_
          ·clear hF hS
           rintro t_60 a w st ⟨hF,hS⟩ hb17
           unfold laws_FnRoundings_l1 at hb17
           refine q_sr (q_y (v:=(.bool (decide (t_60 < (goLen t_50.1))))) hF hS (ex_ibin rfl rfl rfl) fun a hF=>q_end (n_sq (q_seq ?_)))
           rcases bcase (decide (t_60 < (goLen t_50.1))) with hc18 | hc18
           ·have hb17:=cond_f hc18 hb17
            refine q_cond_f hF rfl hc18 (q_exit (x_sq ?_))
            obtain rfl:=someI hb17
            exact ⟨nofun,.inl ⟨rfl,rfl,hF.sub ⟨rfl,rfl,rfl,trivial⟩,hS.mask [false,false]⟩⟩
           ·have hb17:=cond_t hc18 hb17
            refine q_cond_t hF rfl hc18 (q_skipc (n_sq (q_seq (q_block (q_sr (q_m hF rfl fun a hF=>q_s hF rfl fun a hF=>q_end (n_sq (q_sr (q_m hF rfl fun a hF=>q_m hF rfl fun a hF=>?_)))))))))
            obtain ⟨e_61,he_61,hb17⟩:=bindS hb17
            obtain ⟨s62,hV62⟩:=h53.view he_61
            refine q_y (v:=(elP s53 (t_60.toNat * 1))) hF hS (ex_indexAddr U23 sz28 rfl rfl (h53.idx he_61)) fun a hF=>q_y (v:=s62.v) hF hS (ex_loadE1 0 U28 rfl rfl ((hV62.atH he_61).at 0 rfl) rfl rfl) fun a hF=>q_y (v:=(iV (goLen e_61))) hF hS (ex_len U28 rfl (hV62.len he_61)) fun a hF=>q_m hF rfl fun a hF=>q_end (n_sq (q_block ?_))
            obtain ⟨o19,hl19,hb17⟩:=bindS hb17
            refine q_loop (fun (t_63 : Int) a w=>Fr a 234 [(1,s2.v),(5,s6.v),(6,(iV t_4.2)),(20,s53.v),(21,s54.v),(23,(iV t_60)),(139,(iV (goLen t_50.1))),(140,(iV t_60)),(147,(iV (goLen e_61))),(148,(iV t_63))]∧St [] w0 w m34 [q53,q54]) (fun (o : (Unit) ⊕ (Stp (Int) ((Unit) ⊕ ((Unit) ⊕ (Bool))))) e a w=>o = .inl ()∧e = .exit 2∧Fr a 234 [(1,s2.v),(5,s6.v),(6,(iV t_4.2)),(20,s53.v),(21,s54.v),(139,(iV (goLen t_50.1))),(140,(iV t_60))]∧St [] w0 w m34 [q53,q54]) hl19 ⟨hF.sub ⟨rfl,rfl,rfl,rfl,rfl,rfl,rfl,rfl,rfl,rfl,trivial⟩,hS⟩ ?_ ?_
            ·clear hF hS
             rintro t_63 a w st ⟨hF,hS⟩ hb19
             unfold laws_FnRoundings_l2 at hb19
             refine q_sr (q_y (v:=(.bool (decide (t_63 < (goLen e_61))))) hF hS (ex_ibin rfl rfl rfl) fun a hF=>q_end (n_sq (q_seq ?_)))
             rcases bcase (decide (t_63 < (goLen e_61))) with hc20 | hc20
             ·have hb19:=cond_f hc20 hb19
              refine q_cond_f hF rfl hc20 (q_exit (x_sq ?_))
              obtain rfl:=someI hb19
              exact ⟨nofun,.inl ⟨rfl,rfl,hF.sub ⟨rfl,rfl,rfl,rfl,rfl,rfl,rfl,trivial⟩,hS⟩⟩
             ·have hb19:=cond_t hc20 hb19
              refine q_cond_t hF rfl hc20 (q_skipc (n_sq (q_seq (q_block (q_sr (q_m hF rfl fun a hF=>q_s hF rfl fun a hF=>q_end (n_sq (q_seq ?_))))))))
              obtain ⟨t_82,hj21,hb19⟩:=bindS hb19
              refine q_join (fun a w=>Fr a 234 [(1,s2.v),(5,s6.v),(6,(iV t_4.2)),(20,s53.v),(21,s54.v),(23,(iV t_60)),(139,(iV (goLen t_50.1))),(140,(iV t_60)),(147,(iV (goLen e_61))),(148,(iV t_63)),(182,(.bool t_82))]∧St [] w0 w m34 [q53,q54]) ?_ ?_
              ·refine e_region ⟨[],[],m34⟩ mixed fun w' hw'=>?_
               have hS:=hS.below hw'
               refine e_P (v:=s6.v) 0 hF rfl (ex_move rfl) fun a hF=>e_P (v:=(iV t_60)) 1 hF rfl (ex_move rfl) fun a hF=>?_
               obtain ⟨e_64,he_64,hj21⟩:=bindS hj21
               obtain ⟨vs65,at65,d65⟩:=h14.at he_64 1 rfl
               obtain ⟨s66,rfl,h66⟩ : ∃ s66 : Sl,vs65 = [s66.v]∧Rd m14 s66 e_64:=d65
               refine e_P (v:=(elP s6 (t_60.toNat * 1))) 2 hF rfl (ex_indexAddr U23 sz28 rfl rfl (((h14.mono hm16.le).mono hm34.le).idx he_64)) fun a hF=>e_xm (v:=s66.v) 3 hF hS (Mem.le.refl _) rfl (ex_loadE1 0 U28 rfl rfl ((((at65.mono hm16.le).mono hm34.le)).at) rfl rfl) rfl rfl (by kernel_rfl) (by kernel_rfl) (by kernel_rfl) fun a hF=>e_P (v:=(iV t_63)) 4 hF rfl (ex_move rfl) fun a hF=>?_
               obtain ⟨e_67,he_67,hj21⟩:=bindS hj21
               obtain ⟨vs68,at68,d68⟩:=h66.at he_67 1 rfl
               obtain rfl : vs68 = [(iV e_67)]:=d68
               refine e_P (v:=(elP s66 (t_63.toNat * 1))) 5 hF rfl (ex_indexAddr U28 sz3 rfl rfl (((h66.mono hm16.le).mono hm34.le).idx he_67)) fun a hF=>e_xm (v:=(iV e_67)) 6 hF hS (Mem.le.refl _) rfl (ex_loadE1 0 U3 rfl rfl ((((at68.mono hm16.le).mono hm34.le)).at) rfl rfl) rfl rfl (by kernel_rfl) (by kernel_rfl) (by kernel_rfl) fun a hF=>e_P (v:=s53.v) 7 hF rfl (ex_move rfl) fun a hF=>e_P (v:=(iV t_60)) 8 hF rfl (ex_move rfl) fun a hF=>?_
               obtain ⟨e_69,he_69,hj21⟩:=bindS hj21
               obtain ⟨s70,hV70⟩:=h53.view he_69
               refine e_P (v:=(elP s53 (t_60.toNat * 1))) 9 hF rfl (ex_indexAddr U23 sz28 rfl rfl (h53.idx he_69)) fun a hF=>e_X (v:=s70.v) 10 hF hS rfl (ex_loadE1 0 U28 rfl rfl ((hV70.atH he_69).at 0 rfl) rfl rfl) fun a hF=>e_P (v:=(iV t_63)) 11 hF rfl (ex_move rfl) fun a hF=>?_
               obtain ⟨e_71,he_71,hj21⟩:=bindS hj21
               obtain ⟨vs72,at72,d72⟩:=hV70.at he_69 he_71 1 rfl
               obtain rfl : vs72 = [(iV e_71)]:=d72
               refine e_P (v:=(elP s70 (t_63.toNat * 1))) 12 hF rfl (ex_indexAddr U28 sz3 rfl rfl (hV70.idx he_69 he_71)) fun a hF=>e_X (v:=(iV e_71)) 13 hF hS rfl (ex_loadE1 0 U3 rfl rfl (at72.at 0 rfl) rfl rfl) fun a hF=>e_P (v:=(.bool (decide (e_67 < e_71)))) 14 hF rfl (ex_ibin rfl rfl rfl) fun a hF=>e_P (v:=(.bool (decide (e_67 < e_71)))) 15 hF rfl (ex_move rfl) fun a hF=>?_
               rcases bcase (decide (e_67 < e_71)) with hc22 | hc22
               ·have hj21:=cond_f hc22 hj21
                refine e_pg (v:=s6.v) 16 hF rfl (ex_move rfl) (wanted_t hF rfl rfl rfl hc22) rfl (by kernel_rfl) (by kernel_rfl) (by kernel_rfl) fun a hF=>e_pg (v:=(iV t_60)) 17 hF rfl (ex_move rfl) (wanted_t hF rfl rfl rfl hc22) rfl (by kernel_rfl) (by kernel_rfl) (by kernel_rfl) fun a hF=>?_
                obtain ⟨e_73,he_73,hj21⟩:=bindS hj21
                obtain ⟨vs74,at74,d74⟩:=h14.at he_73 1 rfl
                obtain ⟨s75,rfl,h75⟩ : ∃ s75 : Sl,vs74 = [s75.v]∧Rd m14 s75 e_73:=d74
                refine e_pg (v:=(elP s6 (t_60.toNat * 1))) 18 hF rfl (ex_indexAddr U23 sz28 rfl rfl (((h14.mono hm16.le).mono hm34.le).idx he_73)) (wanted_t hF rfl rfl rfl hc22) rfl (by kernel_rfl) (by kernel_rfl) (by kernel_rfl) fun a hF=>e_xg (v:=s75.v) 19 hF hS rfl (ex_loadE1 0 U28 rfl rfl ((((at74.mono hm16.le).mono hm34.le)).at) rfl rfl) (wanted_t hF rfl rfl rfl hc22) rfl (by kernel_rfl) (by kernel_rfl) (by kernel_rfl) (by kernel_rfl) fun a hF=>e_pg (v:=(iV t_63)) 20 hF rfl (ex_move rfl) (wanted_t hF rfl rfl rfl hc22) rfl (by kernel_rfl) (by kernel_rfl) (by kernel_rfl) fun a hF=>?_
                obtain ⟨e_76,he_76,hj21⟩:=bindS hj21
                obtain ⟨vs77,at77,d77⟩:=h75.at he_76 1 rfl
                obtain rfl : vs77 = [(iV e_76)]:=d77
                refine e_pg (v:=(elP s75 (t_63.toNat * 1))) 21 hF rfl (ex_indexAddr U28 sz3 rfl rfl (((h75.mono hm16.le).mono hm34.le).idx he_76)) (wanted_t hF rfl rfl rfl hc22) rfl (by kernel_rfl) (by kernel_rfl) (by kernel_rfl) fun a hF=>e_xg (v:=(iV e_76)) 22 hF hS rfl (ex_loadE1 0 U3 rfl rfl ((((at77.mono hm16.le).mono hm34.le)).at) rfl rfl) (wanted_t hF rfl rfl rfl hc22) rfl (by kernel_rfl) (by kernel_rfl) (by kernel_rfl) (by kernel_rfl) fun a hF=>e_pg (v:=s54.v) 23 hF rfl (ex_move rfl) (wanted_t hF rfl rfl rfl hc22) rfl (by kernel_rfl) (by kernel_rfl) (by kernel_rfl) fun a hF=>e_pg (v:=(iV t_60)) 24 hF rfl (ex_move rfl) (wanted_t hF rfl rfl rfl hc22) rfl (by kernel_rfl) (by kernel_rfl) (by kernel_rfl) fun a hF=>?_
                obtain ⟨e_78,he_78,hj21⟩:=bindS hj21
                obtain ⟨s79,hV79⟩:=h54.view he_78
                refine e_pg (v:=(elP s54 (t_60.toNat * 1))) 25 hF rfl (ex_indexAddr U23 sz28 rfl rfl (h54.idx he_78)) (wanted_t hF rfl rfl rfl hc22) rfl (by kernel_rfl) (by kernel_rfl) (by kernel_rfl) fun a hF=>e_xg (v:=s79.v) 26 hF hS rfl (ex_loadE1 0 U28 rfl rfl ((hV79.atH he_78).at 1 rfl) rfl rfl) (wanted_t hF rfl rfl rfl hc22) rfl (by kernel_rfl) (by kernel_rfl) (by kernel_rfl) (by kernel_rfl) fun a hF=>e_pg (v:=(iV t_63)) 27 hF rfl (ex_move rfl) (wanted_t hF rfl rfl rfl hc22) rfl (by kernel_rfl) (by kernel_rfl) (by kernel_rfl) fun a hF=>?_
                obtain ⟨e_80,he_80,hj21⟩:=bindS hj21
                obtain ⟨vs81,at81,d81⟩:=hV79.at he_78 he_80 1 rfl
                obtain rfl : vs81 = [(iV e_80)]:=d81
                refine e_pg (v:=(elP s79 (t_63.toNat * 1))) 28 hF rfl (ex_indexAddr U28 sz3 rfl rfl (hV79.idx he_78 he_80)) (wanted_t hF rfl rfl rfl hc22) rfl (by kernel_rfl) (by kernel_rfl) (by kernel_rfl) fun a hF=>e_xg (v:=(iV e_80)) 29 hF hS rfl (ex_loadE1 0 U3 rfl rfl (at81.at 1 rfl) rfl rfl) (wanted_t hF rfl rfl rfl hc22) rfl (by kernel_rfl) (by kernel_rfl) (by kernel_rfl) (by kernel_rfl) fun a hF=>e_pg (v:=(.bool (decide (e_80 < e_76)))) 30 hF rfl (ex_ibin rfl rfl rfl) (wanted_t hF rfl rfl rfl hc22) rfl (by kernel_rfl) (by kernel_rfl) (by kernel_rfl) fun a hF=>e_P (v:=(.bool (decide (e_80 < e_76)))) 31 hF rfl (ex_pick_f rfl rfl hc22) fun a hF=>e_end (by kernel_rfl) (n_jn ?_) _
                obtain rfl:=someI hj21
                exact ⟨hF.sub ⟨rfl,rfl,rfl,rfl,rfl,rfl,rfl,rfl,rfl,rfl,rfl,trivial⟩,hS⟩
               ·have hj21:=cond_t hc22 hj21
                refine e_skipP 16 hF rfl (wanted_f hF rfl rfl rfl hc22 rfl) rfl (by kernel_rfl) (by kernel_rfl) (by kernel_rfl) fun a hF=>e_skipP 17 hF rfl (wanted_f hF rfl rfl rfl hc22 rfl) rfl (by kernel_rfl) (by kernel_rfl) (by kernel_rfl) fun a hF=>e_skipP 18 hF rfl (wanted_f hF rfl rfl rfl hc22 rfl) rfl (by kernel_rfl) (by kernel_rfl) (by kernel_rfl) fun a hF=>e_skipP 19 hF rfl (wanted_f hF rfl rfl rfl hc22 rfl) rfl (by kernel_rfl) (by kernel_rfl) (by kernel_rfl) fun a hF=>e_skipP 20 hF rfl (wanted_f hF rfl rfl rfl hc22 rfl) rfl (by kernel_rfl) (by kernel_rfl) (by kernel_rfl) fun a hF=>e_skipP 21 hF rfl (wanted_f hF rfl rfl rfl hc22 rfl) rfl (by kernel_rfl) (by kernel_rfl) (by kernel_rfl) fun a hF=>e_skipP 22 hF rfl (wanted_f hF rfl rfl rfl hc22 rfl) rfl (by kernel_rfl) (by kernel_rfl) (by kernel_rfl) fun a hF=>e_skipP 23 hF rfl (wanted_f hF rfl rfl rfl hc22 rfl) rfl (by kernel_rfl) (by kernel_rfl) (by kernel_rfl) fun a hF=>e_skipP 24 hF rfl (wanted_f hF rfl rfl rfl hc22 rfl) rfl (by kernel_rfl) (by kernel_rfl) (by kernel_rfl) fun a hF=>e_skipP 25 hF rfl (wanted_f hF rfl rfl rfl hc22 rfl) rfl (by kernel_rfl) (by kernel_rfl) (by kernel_rfl) fun a hF=>e_skipP 26 hF rfl (wanted_f hF rfl rfl rfl hc22 rfl) rfl (by kernel_rfl) (by kernel_rfl) (by kernel_rfl) fun a hF=>e_skipP 27 hF rfl (wanted_f hF rfl rfl rfl hc22 rfl) rfl (by kernel_rfl) (by kernel_rfl) (by kernel_rfl) fun a hF=>e_skipP 28 hF rfl (wanted_f hF rfl rfl rfl hc22 rfl) rfl (by kernel_rfl) (by kernel_rfl) (by kernel_rfl) fun a hF=>e_skipP 29 hF rfl (wanted_f hF rfl rfl rfl hc22 rfl) rfl (by kernel_rfl) (by kernel_rfl) (by kernel_rfl) fun a hF=>e_skipP 30 hF rfl (wanted_f hF rfl rfl rfl hc22 rfl) rfl (by kernel_rfl) (by kernel_rfl) (by kernel_rfl) fun a hF=>e_P (v:=(.bool true)) 31 hF rfl (ex_pick_t rfl rfl hc22) fun a hF=>e_end (by kernel_rfl) (n_jn ?_) _
                obtain rfl:=someI hj21
                exact ⟨hF.sub ⟨rfl,rfl,rfl,rfl,rfl,rfl,rfl,rfl,rfl,rfl,rfl,trivial⟩,hS⟩
              ·rintro a w ⟨hF,hS⟩
               refine n_sq ?_
               rcases bcase (t_82) with hc23 | hc23
               ·have hb19:=cond_f hc23 hb19
                refine q_cond_f hF rfl hc23 (q_skipc (n_ib (n_sq (q_region (q_y (v:=(iV (w64 (t_63 + 1)))) hF hS (ex_ibin rfl rfl rfl) fun a hF=>q_m hF rfl fun a hF=>q_end ?_)))))
                obtain rfl:=someI hb19
                exact ⟨rfl,hF.sub ⟨rfl,rfl,rfl,rfl,rfl,rfl,rfl,rfl,rfl,rfl,trivial⟩,hS⟩
               ·have hb19:=cond_t hc23 hb19
                refine q_cond_t hF rfl hc23 (q_sr (q_s hF rfl fun a hF=>q_end (n_sq (q_ret (r_ib (r_sq ?_))))))
                obtain rfl:=someI hb19
                refine ⟨nofun,.inr fun ho=>?_⟩
                subst ho
                refine r_ib (r_ib (r_sq ?_))
                obtain rfl:=someI hb17
                refine ⟨nofun,.inr fun ho=>?_⟩
                subst ho
                refine r_ib (r_sq (r_jn ?_))
                obtain rfl:=someI hj5
                refine r_sq ?_
                obtain rfl:=someI hr
                exact ret_of hF hS rfl (.tmp rfl .nil) rfl
            ·rintro e a w ⟨rfl,rfl,hF,hS⟩
             refine x_ib (n_ib (n_sq ?_))
             refine q_region (q_y (v:=(iV (w64 (t_60 + 1)))) hF hS (ex_ibin rfl rfl rfl) fun a hF=>q_m hF rfl fun a hF=>q_end ?_)
             obtain rfl:=someI hb17
             exact ⟨rfl,hF.sub ⟨rfl,rfl,rfl,rfl,rfl,rfl,rfl,trivial⟩,hS⟩
          ·rintro e a w ⟨rfl,rfl,hF,hS⟩
           refine x_ib (n_sq ?_)
           refine q_sr (q_m hF rfl fun a hF=>q_m hF rfl fun a hF=>?_)
           obtain ⟨t_83,ht_83,hj5⟩:=bindS hj5
           refine q_call (vs:=[s6.v,(iV t_4.2)]) hF hS Try.func69 (by kernel_rfl) rfl rfl rfl (c_impl_CountRoundings t_4.1 t_4.2 t_83 ht_83 _ m34 hS.vis s6 ((h14.mono hm16.le).mono hm34.le)) ?_
           rintro a w _ rfl hF hS
           refine q_m hF rfl fun a hF=>q_y (v:=(iV t_83.1)) hF hS (ex_extract rfl rfl) fun a hF=>q_y (v:=(.bool t_83.2)) hF hS (ex_extract rfl rfl) fun a hF=>q_s hF rfl fun a hF=>q_s hF rfl fun a hF=>q_end (n_sq (q_seq ?_))
           obtain ⟨t_84,hj24,hj5⟩:=bindS hj5
           refine q_join (fun a w=>Fr a 234 [(1,s2.v),(195,(.bool t_84))]∧St [] w0 w m34 []) ?_ ?_
           ·refine q_region (q_m hF rfl fun a hF=>q_m hF rfl fun a hF=>?_)
            rcases bcase (t_83.2) with hc25 | hc25
            ·have hj24:=cond_f hc25 hj24
             refine q_k hF hc25 fun a hF=>q_k hF hc25 fun a hF=>q_y (v:=(.bool false)) hF hS (ex_pick_f rfl rfl hc25) fun a hF=>q_end (n_jn ?_)
             obtain rfl:=someI hj24
             exact ⟨hF.sub ⟨rfl,rfl,trivial⟩,hS⟩
            ·have hj24:=cond_t hc25 hj24
             refine q_g (v:=(iV t_83.1)) hF hS (ex_move rfl) hc25 fun a hF=>q_g (v:=(.bool (decide (t_83.1 < 1)))) hF hS (ex_ibin rfl rfl rfl) hc25 fun a hF=>q_y (v:=(.bool (decide (t_83.1 < 1)))) hF hS (ex_pick_t rfl rfl hc25) fun a hF=>q_end (n_jn ?_)
             obtain rfl:=someI hj24
             exact ⟨hF.sub ⟨rfl,rfl,trivial⟩,hS⟩
           ·rintro a w ⟨hF,hS⟩
            refine n_sq ?_
            rcases bcase (t_84) with hc26 | hc26
            ·have hj5:=cond_f hc26 hj5
             refine q_cond_f hF rfl hc26 (q_skipc (n_jn ?_))
             obtain rfl:=someI hj5
             exact ⟨m34,rfl,hF.sub ⟨rfl,trivial⟩,hS,hm34⟩
            ·have hj5:=cond_t hc26 hj5
             refine q_cond_t hF rfl hc26 (q_sr (q_s hF rfl fun a hF=>q_end (n_sq (q_ret (r_jn ?_)))))
             obtain rfl:=someI hj5
             refine r_sq ?_
             obtain rfl:=someI hr
             exact ret_of hF hS rfl (.tmp rfl .nil) rfl
         ·have hj5:=cond_t hc16 hj5
          refine q_cond_t hF rfl hc16 (q_sr (q_s hF rfl fun a hF=>q_end (n_sq (q_ret (r_sq (r_jn ?_))))))
          obtain rfl:=someI hj5
          refine r_sq ?_
          obtain rfl:=someI hr
          exact ret_of hF hS rfl (.tmp rfl .nil) rfl
       ·have hj5:=cond_t hc12 hj5
        refine q_cond_t hF rfl hc12 (q_sr (q_s hF rfl fun a hF=>q_end (n_sq (q_ret (r_sq (r_jn ?_))))))
        obtain rfl:=someI hj5
        refine r_sq ?_
        obtain rfl:=someI hr
        exact ret_of hF hS rfl (.tmp rfl .nil) rfl
    ·rintro a w ⟨m85,rfl,hF,hS,hm85⟩
     refine n_sq ?_
     refine q_sr (q_m hF rfl fun a hF=>?_)
     obtain ⟨t_86,ht_86,hr⟩:=bindS hr
     refine q_call (vs:=[s2.v]) hF hS Try.func70 (by kernel_rfl) rfl rfl rfl (c_spec_DrawRoundingRange p_more t_86 ht_86 _ m85 hS.vis s2 (((h2.mono hm14.le).mono hm16.le).mono hm85.le)) ?_
     rintro a w _ ⟨q88,s88,rfl,hR87,h88⟩ hF hS2
     have hS : St _ _ _ _ [q88]:=hS.joinF hR87
     refine q_m hF rfl fun a hF=>q_y (v:=s88.v) hF hS (ex_extract rfl rfl) fun a hF=>q_y (v:=(iV t_86.2.1)) hF hS (ex_extract rfl rfl) fun a hF=>q_y (v:=(iV t_86.2.2.1)) hF hS (ex_extract rfl rfl) fun a hF=>q_y (v:=(iV t_86.2.2.2)) hF hS (ex_extract rfl rfl) fun a hF=>q_s hF rfl fun a hF=>q_s hF rfl fun a hF=>q_s hF rfl fun a hF=>q_s hF rfl fun a hF=>q_end (n_sq (q_sr (q_m hF rfl fun a hF=>q_m hF rfl fun a hF=>q_m hF rfl fun a hF=>q_m hF rfl fun a hF=>?_)))
     obtain ⟨m90,hl90,hv90,hz90⟩:=hS.lend
     obtain ⟨t_89,ht_89,hr⟩:=bindS hr
     refine q_call (vs:=[s88.v,(iV t_86.2.1),(iV t_86.2.2.1),(iV t_86.2.2.2)]) hF hS Try.func71 (by kernel_rfl) rfl rfl rfl (c_impl_RoundingRange t_86.1 t_86.2.1 t_86.2.2.1 t_86.2.2.2 t_89 ht_89 _ m90 hv90 s88 (h88.froz hl90 (hz90 0 _ rfl))) ?_
     rintro a w _ rfl hF hS
     refine q_m hF rfl fun a hF=>q_y (v:=(iV t_89.1)) hF hS (ex_extract rfl rfl) fun a hF=>q_y (v:=(iV t_89.2.1)) hF hS (ex_extract rfl rfl) fun a hF=>q_y (v:=(.bool t_89.2.2)) hF hS (ex_extract rfl rfl) fun a hF=>q_s hF rfl fun a hF=>q_s hF rfl fun a hF=>q_s hF rfl fun a hF=>q_end (n_sq (q_sr (q_m hF rfl fun a hF=>q_m hF rfl fun a hF=>q_m hF rfl fun a hF=>q_m hF rfl fun a hF=>?_)))
     obtain ⟨m92,hl92,hv92,hz92⟩:=hS.lend
     obtain ⟨t_91,ht_91,hr⟩:=bindS hr
     refine q_call (vs:=[s88.v,(iV t_86.2.1),(iV t_86.2.2.1),(iV t_86.2.2.2)]) hF hS Try.func72 (by kernel_rfl) rfl rfl rfl (c_spec_RoundingRange t_86.1 t_86.2.1 t_86.2.2.1 t_86.2.2.2 t_91 ht_91 _ m92 hv92 s88 (h88.froz hl92 (hz92 0 _ rfl))) ?_
     rintro a w _ rfl hF hS
     refine q_m hF rfl fun a hF=>q_y (v:=(iV t_91.1)) hF hS (ex_extract rfl rfl) fun a hF=>q_y (v:=(iV t_91.2.1)) hF hS (ex_extract rfl rfl) fun a hF=>q_y (v:=(.bool t_91.2.2)) hF hS (ex_extract rfl rfl) fun a hF=>q_s hF rfl fun a hF=>q_s hF rfl fun a hF=>q_s hF rfl fun a hF=>q_end (n_sq (q_seq ?_))
     obtain ⟨t_93,hj27,hr⟩:=bindS hr
     refine q_join (fun a w=>Fr a 234 [(4,(.bool t_93))]∧St [] w0 w m85 []) ?_ ?_
     ·refine q_region (q_m hF rfl fun a hF=>q_m hF rfl fun a hF=>q_y (v:=(.bool (t_89.2.2 == t_91.2.2))) hF hS (ex_beq U4 rfl rfl) fun a hF=>q_m hF rfl fun a hF=>?_)
      rcases bcase (t_89.2.2 == t_91.2.2) with hc28 | hc28
      ·have hj27:=cond_f hc28 hj27
       refine q_k hF hc28 fun a hF=>q_k hF hc28 fun a hF=>q_k hF hc28 fun a hF=>q_y (v:=(.bool false)) hF hS (ex_pick_f rfl rfl hc28) fun a hF=>q_m hF rfl fun a hF=>q_k hF rfl fun a hF=>q_k hF rfl fun a hF=>q_k hF rfl fun a hF=>q_y (v:=(.bool false)) hF hS (ex_pick_f rfl rfl rfl) fun a hF=>q_s hF rfl fun a hF=>q_end (n_jn ?_)
       obtain rfl:=someI hj27
       exact ⟨hF.sub ⟨rfl,trivial⟩,hS.mask [false]⟩
      ·have hj27:=cond_t hc28 hj27
       refine q_g (v:=(iV t_89.1)) hF hS (ex_move rfl) hc28 fun a hF=>q_g (v:=(iV t_91.1)) hF hS (ex_move rfl) hc28 fun a hF=>q_g (v:=(.bool (t_89.1 == t_91.1))) hF hS (ex_ibin rfl rfl rfl) hc28 fun a hF=>q_y (v:=(.bool (t_89.1 == t_91.1))) hF hS (ex_pick_t rfl rfl hc28) fun a hF=>q_m hF rfl fun a hF=>?_
       rcases bcase (t_89.1 == t_91.1) with hc29 | hc29
       ·have hj27:=cond_f hc29 hj27
        refine q_k hF hc29 fun a hF=>q_k hF hc29 fun a hF=>q_k hF hc29 fun a hF=>q_y (v:=(.bool false)) hF hS (ex_pick_f rfl rfl hc29) fun a hF=>q_s hF rfl fun a hF=>q_end (n_jn ?_)
        obtain rfl:=someI hj27
        exact ⟨hF.sub ⟨rfl,trivial⟩,hS.mask [false]⟩
       ·have hj27:=cond_t hc29 hj27
        refine q_g (v:=(iV t_89.2.1)) hF hS (ex_move rfl) hc29 fun a hF=>q_g (v:=(iV t_91.2.1)) hF hS (ex_move rfl) hc29 fun a hF=>q_g (v:=(.bool (t_89.2.1 == t_91.2.1))) hF hS (ex_ibin rfl rfl rfl) hc29 fun a hF=>q_y (v:=(.bool (t_89.2.1 == t_91.2.1))) hF hS (ex_pick_t rfl rfl hc29) fun a hF=>q_s hF rfl fun a hF=>q_end (n_jn ?_)
        obtain rfl:=someI hj27
        exact ⟨hF.sub ⟨rfl,trivial⟩,hS.mask [false]⟩
     ·rintro a w ⟨hF,hS⟩
      refine n_sq (q_ret ?_)
      obtain rfl:=someI hr
      exact ret_of hF hS rfl (.tmp rfl .nil) rfl
   ·have hr:=cond_t hc4 hr
    refine q_cond_t hF rfl hc4 (q_sr (q_s hF rfl fun a hF=>q_end (n_sq (q_ret (r_sq ?_)))))
    obtain rfl:=someI hr
    exact ret_of hF hS rfl (.tmp rfl .nil) rfl
 ·have hr:=cond_t hc1 hr
  refine q_cond_t hF rfl hc1 (q_sr (q_s hF rfl fun a hF=>q_end (n_sq (q_ret (r_sq ?_)))))
  obtain rfl:=someI hr
  exact ret_of hF hS rfl (.tmp rfl .nil) rfl

end Go.Proofs.Ytpjcfmpfiadkgaa
