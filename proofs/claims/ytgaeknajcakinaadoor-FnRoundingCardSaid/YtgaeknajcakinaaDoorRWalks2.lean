/- The walks of the functions: each returns what its plain function says. -/
import Derived.Test.YtgaeknajcakinaaDoorRWalks1
namespace Go.Proofs.YtgaeknajcakinaaDoor
open Go.Gx Go.Gx.F Go.RowKit
set_option linter.all false
set_option maxRecDepth 10000


theorem c_impl_readNatural (p_s : List UInt8) (p_most : Int) (r : Int × (List UInt8) × Bool) (hr : impl_readNatural p_s p_most = some r) (w0 : World) (m : Mem) (hv : Vis m w0) :
  Ret Tryd.prog 94 [(strV p_s),(iV p_most)] w0 (fun v _=>v = (.tuple #[(iV r.1),(strV r.2.1),(.bool r.2.2)])):=by
 unfold impl_readNatural at hr
 refine ret_start Tryd.func94 rfl 50 rfl rfl m hv fun a hF hS=>q_seq (q_region (q_x (v:=(iV 0)) hF hS (ex_assign rfl) rfl rfl fun a hF=>q_x (v:=(strV ([] : List UInt8))) hF hS (ex_assign rfl) rfl rfl fun a hF=>q_x (v:=(.bool false)) hF hS (ex_assign rfl) rfl rfl fun a hF=>q_end (n_sq (q_seq (q_region (q_x (v:=(iV 0)) hF hS (ex_assign rfl) rfl rfl fun a hF=>q_x (v:=(iV 0)) hF hS (ex_assign rfl) rfl rfl fun a hF=>q_end (n_sq (q_seq (q_block ?_)))))))))
 obtain ⟨o1,hl1,hr⟩:=bindS hr
 refine q_loop (fun (s : Int × Int) a w=>∃ n_1,∃ i_2,s = (n_1,i_2)∧Fr a 50 [(0,(strV p_s)),(1,(iV p_most)),(7,(iV n_1)),(8,(iV i_2))]∧St [] w0 w m []) (fun (o : (Int × Int) ⊕ (Int × (List UInt8) × Bool)) e a w=>∃ n_8,∃ i_9,o = .inl (n_8,i_9)∧e = .exit 0∧Fr a 50 [(0,(strV p_s)),(7,(iV n_8)),(8,(iV i_9))]∧St [] w0 w m []) hl1 ⟨_,_,rfl,hF.sub ⟨rfl,rfl,rfl,rfl,trivial⟩,hS⟩ ?_ ?_
 ·clear hF hS
  rintro s a w st ⟨n_1,i_2,rfl,hF,hS⟩ hb1
  unfold impl_readNatural_l1 at hb1
  refine q_seq (q_seq ?_)
  obtain ⟨t_5,hj2,hb1⟩:=bindS hb1
  refine q_join (fun a w=>Fr a 50 [(0,(strV p_s)),(1,(iV p_most)),(7,(iV n_1)),(8,(iV i_2)),(24,(.bool t_5))]∧St [] w0 w m []) ?_ ?_
  ·refine q_region (q_x (v:=(iV i_2)) hF hS (ex_move rfl) rfl rfl fun a hF=>q_x (v:=(strV p_s)) hF hS (ex_move rfl) rfl rfl fun a hF=>q_x (v:=(iV (goLen p_s))) hF hS (ex_strLen Tryd.underlying9 rfl) rfl rfl fun a hF=>q_x (v:=(.bool (decide (i_2 < (goLen p_s))))) hF hS (ex_ibin rfl rfl rfl) rfl rfl fun a hF=>q_x (v:=(.bool (decide (i_2 < (goLen p_s))))) hF hS (ex_move rfl) rfl rfl fun a hF=>?_)
   rcases bcase (decide (i_2 < (goLen p_s))) with hc3 | hc3
   ·have hj2:=cond_f hc3 hj2
    refine q_skip hF (wanted_f hF rfl rfl rfl hc3 rfl) rfl fun a hF=>q_skip hF (wanted_f hF rfl rfl rfl hc3 rfl) rfl fun a hF=>q_skip hF (wanted_f hF rfl rfl rfl hc3 rfl) rfl fun a hF=>q_skip hF (wanted_f hF rfl rfl rfl hc3 rfl) rfl fun a hF=>q_x (v:=(.bool false)) hF hS (ex_pick_f rfl rfl hc3) rfl rfl fun a hF=>q_x (v:=(.bool false)) hF hS (ex_move rfl) rfl rfl fun a hF=>q_skip hF (wanted_f hF rfl rfl rfl rfl rfl) rfl fun a hF=>q_skip hF (wanted_f hF rfl rfl rfl rfl rfl) rfl fun a hF=>q_skip hF (wanted_f hF rfl rfl rfl rfl rfl) rfl fun a hF=>q_skip hF (wanted_f hF rfl rfl rfl rfl rfl) rfl fun a hF=>q_x (v:=(.bool false)) hF hS (ex_pick_f rfl rfl rfl) rfl rfl fun a hF=>q_end (n_jn ?_)
    obtain rfl:=someI hj2
    exact ⟨hF.sub ⟨rfl,rfl,rfl,rfl,rfl,trivial⟩,hS⟩
   ·have hj2:=cond_t hc3 hj2
    refine q_xg (v:=(strV p_s)) hF hS (ex_move rfl) (wanted_t hF rfl rfl rfl hc3) rfl fun a hF=>q_xg (v:=(iV i_2)) hF hS (ex_move rfl) (wanted_t hF rfl rfl rfl hc3) rfl fun a hF=>?_
    obtain ⟨t_3,ht_3,hj2⟩:=bindS hj2
    refine q_xg (v:=(.int .u8 t_3)) hF hS (ex_strIdx Tryd.underlying9 rfl rfl ht_3) (wanted_t hF rfl rfl rfl hc3) rfl fun a hF=>q_xg (v:=(.bool (decide (48 ≤ t_3)))) hF hS (ex_ibin rfl rfl rfl) (wanted_t hF rfl rfl rfl hc3) rfl fun a hF=>q_x (v:=(.bool (decide (48 ≤ t_3)))) hF hS (ex_pick_t rfl rfl hc3) rfl rfl fun a hF=>q_x (v:=(.bool (decide (48 ≤ t_3)))) hF hS (ex_move rfl) rfl rfl fun a hF=>?_
    rcases bcase (decide (48 ≤ t_3)) with hc4 | hc4
    ·have hj2:=cond_f hc4 hj2
     refine q_skip hF (wanted_f hF rfl rfl rfl hc4 rfl) rfl fun a hF=>q_skip hF (wanted_f hF rfl rfl rfl hc4 rfl) rfl fun a hF=>q_skip hF (wanted_f hF rfl rfl rfl hc4 rfl) rfl fun a hF=>q_skip hF (wanted_f hF rfl rfl rfl hc4 rfl) rfl fun a hF=>q_x (v:=(.bool false)) hF hS (ex_pick_f rfl rfl hc4) rfl rfl fun a hF=>q_end (n_jn ?_)
     obtain rfl:=someI hj2
     exact ⟨hF.sub ⟨rfl,rfl,rfl,rfl,rfl,trivial⟩,hS⟩
    ·have hj2:=cond_t hc4 hj2
     refine q_xg (v:=(strV p_s)) hF hS (ex_move rfl) (wanted_t hF rfl rfl rfl hc4) rfl fun a hF=>q_xg (v:=(iV i_2)) hF hS (ex_move rfl) (wanted_t hF rfl rfl rfl hc4) rfl fun a hF=>?_
     obtain ⟨t_4,ht_4,hj2⟩:=bindS hj2
     refine q_xg (v:=(.int .u8 t_4)) hF hS (ex_strIdx Tryd.underlying9 rfl rfl ht_4) (wanted_t hF rfl rfl rfl hc4) rfl fun a hF=>q_xg (v:=(.bool (decide (t_4 ≤ 57)))) hF hS (ex_ibin rfl rfl rfl) (wanted_t hF rfl rfl rfl hc4) rfl fun a hF=>q_x (v:=(.bool (decide (t_4 ≤ 57)))) hF hS (ex_pick_t rfl rfl hc4) rfl rfl fun a hF=>q_end (n_jn ?_)
     obtain rfl:=someI hj2
     exact ⟨hF.sub ⟨rfl,rfl,rfl,rfl,rfl,trivial⟩,hS⟩
  ·rintro a w ⟨hF,hS⟩
   refine n_sq ?_
   rcases bcase (t_5) with hc5 | hc5
   ·have hb1:=cond_f hc5 hb1
    refine q_cond_f hF rfl hc5 (q_exit (x_sq ?_))
    obtain rfl:=someI hb1
    exact ⟨nofun,.inl ⟨_,_,rfl,rfl,hF.sub ⟨rfl,rfl,rfl,trivial⟩,hS⟩⟩
   ·have hb1:=cond_t hc5 hb1
    refine q_cond_t hF rfl hc5 (q_skipc (n_sq (q_block (q_seq (q_seq ?_)))))
    obtain ⟨t_6,hj6,hb1⟩:=bindS hb1
    refine q_join (fun a w=>Fr a 50 [(0,(strV p_s)),(1,(iV p_most)),(7,(iV n_1)),(8,(iV i_2)),(30,(.bool t_6))]∧St [] w0 w m []) ?_ ?_
    ·refine q_region (q_x (v:=(iV i_2)) hF hS (ex_move rfl) rfl rfl fun a hF=>q_x (v:=(.bool (decide (0 < i_2)))) hF hS (ex_ibin rfl rfl rfl) rfl rfl fun a hF=>q_x (v:=(.bool (decide (0 < i_2)))) hF hS (ex_move rfl) rfl rfl fun a hF=>?_)
     rcases bcase (decide (0 < i_2)) with hc7 | hc7
     ·have hj6:=cond_f hc7 hj6
      refine q_skip hF (wanted_f hF rfl rfl rfl hc7 rfl) rfl fun a hF=>q_skip hF (wanted_f hF rfl rfl rfl hc7 rfl) rfl fun a hF=>q_x (v:=(.bool false)) hF hS (ex_pick_f rfl rfl hc7) rfl rfl fun a hF=>q_end (n_jn ?_)
      obtain rfl:=someI hj6
      exact ⟨hF.sub ⟨rfl,rfl,rfl,rfl,rfl,trivial⟩,hS⟩
     ·have hj6:=cond_t hc7 hj6
      refine q_xg (v:=(iV n_1)) hF hS (ex_move rfl) (wanted_t hF rfl rfl rfl hc7) rfl fun a hF=>q_xg (v:=(.bool (n_1 == 0))) hF hS (ex_ibin rfl rfl rfl) (wanted_t hF rfl rfl rfl hc7) rfl fun a hF=>q_x (v:=(.bool (n_1 == 0))) hF hS (ex_pick_t rfl rfl hc7) rfl rfl fun a hF=>q_end (n_jn ?_)
      obtain rfl:=someI hj6
      exact ⟨hF.sub ⟨rfl,rfl,rfl,rfl,rfl,trivial⟩,hS⟩
    ·rintro a w ⟨hF,hS⟩
     refine n_sq ?_
     rcases bcase (t_6) with hc8 | hc8
     ·have hb1:=cond_f hc8 hb1
      refine q_cond_f hF rfl hc8 (q_skipc (n_sq (q_seq (q_region (q_x (v:=(iV n_1)) hF hS (ex_move rfl) rfl rfl fun a hF=>q_x (v:=(iV (w64 (n_1 * 10)))) hF hS (ex_ibin rfl rfl rfl) rfl rfl fun a hF=>q_x (v:=(strV p_s)) hF hS (ex_move rfl) rfl rfl fun a hF=>q_x (v:=(iV i_2)) hF hS (ex_move rfl) rfl rfl fun a hF=>?_)))))
      obtain ⟨t_7,ht_7,hb1⟩:=bindS hb1
      refine q_x (v:=(.int .u8 t_7)) hF hS (ex_strIdx Tryd.underlying9 rfl rfl ht_7) rfl rfl fun a hF=>q_x (v:=(.int .u8 (IntKind.wrap .u8 (t_7 - 48)))) hF hS (ex_ibin rfl rfl rfl) rfl rfl fun a hF=>q_x (v:=(iV (w64 (IntKind.wrap .u8 (t_7 - 48))))) hF hS (ex_conv Tryd.underlying5 Tryd.underlying3 rfl) rfl rfl fun a hF=>q_x (v:=(iV (w64 ((w64 (n_1 * 10)) + (w64 (IntKind.wrap .u8 (t_7 - 48))))))) hF hS (ex_ibin rfl rfl rfl) rfl rfl fun a hF=>q_x (v:=(iV (w64 ((w64 (n_1 * 10)) + (w64 (IntKind.wrap .u8 (t_7 - 48))))))) hF hS (ex_assign rfl) rfl rfl fun a hF=>q_end (n_sq (q_seq (q_seq (q_region (q_x (v:=(iV (w64 ((w64 (n_1 * 10)) + (w64 (IntKind.wrap .u8 (t_7 - 48))))))) hF hS (ex_move rfl) rfl rfl fun a hF=>q_x (v:=(iV p_most)) hF hS (ex_move rfl) rfl rfl fun a hF=>q_x (v:=(.bool (decide (p_most < (w64 ((w64 (n_1 * 10)) + (w64 (IntKind.wrap .u8 (t_7 - 48))))))))) hF hS (ex_ibin rfl rfl rfl) rfl rfl fun a hF=>q_end (n_sq ?_))))))
      rcases bcase (decide (p_most < (w64 ((w64 (n_1 * 10)) + (w64 (IntKind.wrap .u8 (t_7 - 48))))))) with hc9 | hc9
      ·have hb1:=cond_f hc9 hb1
       refine q_cond_f hF rfl hc9 (q_skipc (n_sq (q_region (q_x (v:=(iV i_2)) hF hS (ex_move rfl) rfl rfl fun a hF=>q_x (v:=(iV (w64 (i_2 + 1)))) hF hS (ex_ibin rfl rfl rfl) rfl rfl fun a hF=>q_x (v:=(iV (w64 (i_2 + 1)))) hF hS (ex_assign rfl) rfl rfl fun a hF=>q_end (n_ib ?_)))))
       obtain rfl:=someI hb1
       exact ⟨rfl,_,_,rfl,hF.sub ⟨rfl,rfl,rfl,rfl,trivial⟩,hS⟩
      ·have hb1:=cond_t hc9 hb1
       refine q_cond_t hF rfl hc9 (q_seq (q_region (q_x (v:=(iV 0)) hF hS (ex_assign rfl) rfl rfl fun a hF=>q_x (v:=(strV ([] : List UInt8))) hF hS (ex_assign rfl) rfl rfl fun a hF=>q_x (v:=(.bool false)) hF hS (ex_assign rfl) rfl rfl fun a hF=>q_end (n_sq (q_ret (r_sq (r_ib ?_)))))))
       obtain rfl:=someI hb1
       refine ⟨nofun,.inr fun ho=>?_⟩
       subst ho
       refine r_ib (r_sq ?_)
       obtain rfl:=someI hr
       exact ret_of hF hS rfl (.tmp rfl (.tmp rfl (.tmp rfl .nil))) rfl
     ·have hb1:=cond_t hc8 hb1
      refine q_cond_t hF rfl hc8 (q_seq (q_region (q_x (v:=(iV 0)) hF hS (ex_assign rfl) rfl rfl fun a hF=>q_x (v:=(strV ([] : List UInt8))) hF hS (ex_assign rfl) rfl rfl fun a hF=>q_x (v:=(.bool false)) hF hS (ex_assign rfl) rfl rfl fun a hF=>q_end (n_sq (q_ret (r_sq (r_ib ?_)))))))
      obtain rfl:=someI hb1
      refine ⟨nofun,.inr fun ho=>?_⟩
      subst ho
      refine r_ib (r_sq ?_)
      obtain rfl:=someI hr
      exact ret_of hF hS rfl (.tmp rfl (.tmp rfl (.tmp rfl .nil))) rfl
 ·rintro e a w ⟨n_8,i_9,rfl,rfl,hF,hS⟩
  refine x_ib (n_sq ?_)
  refine q_seq (q_seq (q_region (q_x (v:=(iV i_9)) hF hS (ex_move rfl) rfl rfl fun a hF=>q_x (v:=(.bool (i_9 == 0))) hF hS (ex_ibin rfl rfl rfl) rfl rfl fun a hF=>q_end (n_sq ?_))))
  rcases bcase (i_9 == 0) with hc10 | hc10
  ·have hr:=cond_f hc10 hr
   refine q_cond_f hF rfl hc10 (q_skipc (n_sq (q_seq (e_region ⟨[],[]⟩ mixed fun w' hw'=>?_))))
   have hS:=hS.below hw'
   refine e_p (v:=(iV n_8)) 0 hF rfl (ex_move rfl) rfl rfl (by kernel_rfl) (by kernel_rfl) (by kernel_rfl) fun a hF=>e_p (v:=(strV p_s)) 1 hF rfl (ex_move rfl) rfl rfl (by kernel_rfl) (by kernel_rfl) (by kernel_rfl) fun a hF=>e_p (v:=(iV i_9)) 2 hF rfl (ex_move rfl) rfl rfl (by kernel_rfl) (by kernel_rfl) (by kernel_rfl) fun a hF=>?_
   obtain ⟨t_10,ht_10,hr⟩:=bindS hr
   refine e_p (v:=(strV t_10)) 3 hF rfl (ex_strSub Tryd.underlying9 rfl rfl rfl (.inr ⟨_,rfl⟩) (.inl ⟨rfl,rfl⟩) ht_10) rfl rfl (by kernel_rfl) (by kernel_rfl) (by kernel_rfl) fun a hF=>e_p (v:=(iV n_8)) 4 hF rfl (ex_assign rfl) rfl rfl (by kernel_rfl) (by kernel_rfl) (by kernel_rfl) fun a hF=>e_p (v:=(strV t_10)) 5 hF rfl (ex_assign rfl) rfl rfl (by kernel_rfl) (by kernel_rfl) (by kernel_rfl) fun a hF=>e_p (v:=(.bool true)) 6 hF rfl (ex_assign rfl) rfl rfl (by kernel_rfl) (by kernel_rfl) (by kernel_rfl) fun a hF=>e_end (by kernel_rfl) (n_sq (q_ret ?_)) _
   obtain rfl:=someI hr
   exact ret_of hF hS rfl (.tmp rfl (.tmp rfl (.tmp rfl .nil))) rfl
  ·have hr:=cond_t hc10 hr
   refine q_cond_t hF rfl hc10 (q_seq (q_region (q_x (v:=(iV 0)) hF hS (ex_assign rfl) rfl rfl fun a hF=>q_x (v:=(strV ([] : List UInt8))) hF hS (ex_assign rfl) rfl rfl fun a hF=>q_x (v:=(.bool false)) hF hS (ex_assign rfl) rfl rfl fun a hF=>q_end (n_sq (q_ret (r_sq ?_))))))
   obtain rfl:=someI hr
   exact ret_of hF hS rfl (.tmp rfl (.tmp rfl (.tmp rfl .nil))) rfl

theorem c_impl_readInteger (p_s : List UInt8) (p_most : Int) (r : Int × (List UInt8) × Bool) (hr : impl_readInteger p_s p_most = some r) (w0 : World) (m : Mem) (hv : Vis m w0) :
  Ret Tryd.prog 113 [(strV p_s),(iV p_most)] w0 (fun v _=>v = (.tuple #[(iV r.1),(strV r.2.1),(.bool r.2.2)])):=by
 unfold impl_readInteger at hr
 refine ret_start Tryd.func113 rfl 43 rfl rfl m hv fun a hF hS=>q_seq (q_region (q_x (v:=(iV 0)) hF hS (ex_assign rfl) rfl rfl fun a hF=>q_x (v:=(strV ([] : List UInt8))) hF hS (ex_assign rfl) rfl rfl fun a hF=>q_x (v:=(.bool false)) hF hS (ex_assign rfl) rfl rfl fun a hF=>q_end (n_sq (q_seq ?_))))
 obtain ⟨minus_2,hj1,hr⟩:=bindS hr
 refine q_join (fun a w=>Fr a 43 [(0,(strV p_s)),(1,(iV p_most)),(7,(.bool minus_2))]∧St [] w0 w m []) ?_ ?_
 ·refine q_region (q_x (v:=(strV p_s)) hF hS (ex_move rfl) rfl rfl fun a hF=>q_x (v:=(iV (goLen p_s))) hF hS (ex_strLen Tryd.underlying9 rfl) rfl rfl fun a hF=>q_x (v:=(.bool (decide (0 < (goLen p_s))))) hF hS (ex_ibin rfl rfl rfl) rfl rfl fun a hF=>q_x (v:=(.bool (decide (0 < (goLen p_s))))) hF hS (ex_move rfl) rfl rfl fun a hF=>?_)
  rcases bcase (decide (0 < (goLen p_s))) with hc2 | hc2
  ·have hj1:=cond_f hc2 hj1
   refine q_skip hF (wanted_f hF rfl rfl rfl hc2 rfl) rfl fun a hF=>q_skip hF (wanted_f hF rfl rfl rfl hc2 rfl) rfl fun a hF=>q_skip hF (wanted_f hF rfl rfl rfl hc2 rfl) rfl fun a hF=>q_x (v:=(.bool false)) hF hS (ex_pick_f rfl rfl hc2) rfl rfl fun a hF=>q_x (v:=(.bool false)) hF hS (ex_assign rfl) rfl rfl fun a hF=>q_end (n_jn ?_)
   obtain rfl:=someI hj1
   exact ⟨hF.sub ⟨rfl,rfl,rfl,trivial⟩,hS⟩
  ·have hj1:=cond_t hc2 hj1
   refine q_xg (v:=(strV p_s)) hF hS (ex_move rfl) (wanted_t hF rfl rfl rfl hc2) rfl fun a hF=>?_
   obtain ⟨t_1,ht_1,hj1⟩:=bindS hj1
   refine q_xg (v:=(.int .u8 t_1)) hF hS (ex_strIdx Tryd.underlying9 rfl rfl ht_1) (wanted_t hF rfl rfl rfl hc2) rfl fun a hF=>q_xg (v:=(.bool (t_1 == 45))) hF hS (ex_ibin rfl rfl rfl) (wanted_t hF rfl rfl rfl hc2) rfl fun a hF=>q_x (v:=(.bool (t_1 == 45))) hF hS (ex_pick_t rfl rfl hc2) rfl rfl fun a hF=>q_x (v:=(.bool (t_1 == 45))) hF hS (ex_assign rfl) rfl rfl fun a hF=>q_end (n_jn ?_)
   obtain rfl:=someI hj1
   exact ⟨hF.sub ⟨rfl,rfl,rfl,trivial⟩,hS⟩
 ·rintro a w ⟨hF,hS⟩
  refine n_sq ?_
  refine q_seq (q_seq (q_region (q_x (v:=(.bool minus_2)) hF hS (ex_move rfl) rfl rfl fun a hF=>q_end (n_sq ?_))))
  obtain ⟨s_4,hj3,hr⟩:=bindS hr
  refine q_join (fun a w=>Fr a 43 [(0,(strV s_4)),(1,(iV p_most)),(7,(.bool minus_2))]∧St [] w0 w m []) ?_ ?_
  ·rcases bcase (minus_2) with hc4 | hc4
   ·have hj3:=cond_f hc4 hj3
    refine q_cond_f hF rfl hc4 (q_skipc (n_jn ?_))
    obtain rfl:=someI hj3
    exact ⟨hF.sub ⟨rfl,rfl,rfl,trivial⟩,hS⟩
   ·have hj3:=cond_t hc4 hj3
    refine q_cond_t hF rfl hc4 (q_region (q_x (v:=(strV p_s)) hF hS (ex_move rfl) rfl rfl fun a hF=>?_))
    obtain ⟨t_3,ht_3,hj3⟩:=bindS hj3
    refine q_x (v:=(strV t_3)) hF hS (ex_strSub Tryd.underlying9 rfl rfl rfl (.inr ⟨_,rfl⟩) (.inl ⟨rfl,rfl⟩) ht_3) rfl rfl fun a hF=>q_x (v:=(strV t_3)) hF hS (ex_assign rfl) rfl rfl fun a hF=>q_end (n_jn ?_)
    obtain rfl:=someI hj3
    exact ⟨hF.sub ⟨rfl,rfl,rfl,trivial⟩,hS⟩
  ·rintro a w ⟨hF,hS⟩
   refine n_sq ?_
   refine q_seq (q_region (q_x (v:=(strV s_4)) hF hS (ex_move rfl) rfl rfl fun a hF=>q_x (v:=(iV p_most)) hF hS (ex_move rfl) rfl rfl fun a hF=>?_))
   obtain ⟨t_5,ht_5,hr⟩:=bindS hr
   refine q_call (vs:=[(strV s_4),(iV p_most)]) hF hS Tryd.func94 (by kernel_rfl) rfl rfl rfl (c_impl_readNatural s_4 p_most t_5 ht_5 _ m hS.vis) ?_
   rintro a w _ rfl hF hS
   refine q_x (v:=(.tuple #[(iV t_5.1),(strV t_5.2.1),(.bool t_5.2.2)])) hF hS (ex_move rfl) rfl rfl fun a hF=>q_x (v:=(iV t_5.1)) hF hS (ex_extract rfl rfl) rfl rfl fun a hF=>q_x (v:=(strV t_5.2.1)) hF hS (ex_extract rfl rfl) rfl rfl fun a hF=>q_x (v:=(.bool t_5.2.2)) hF hS (ex_extract rfl rfl) rfl rfl fun a hF=>q_x (v:=(iV t_5.1)) hF hS (ex_assign rfl) rfl rfl fun a hF=>q_x (v:=(strV t_5.2.1)) hF hS (ex_assign rfl) rfl rfl fun a hF=>q_x (v:=(.bool t_5.2.2)) hF hS (ex_assign rfl) rfl rfl fun a hF=>q_end (n_sq (q_seq (q_seq ?_)))
   obtain ⟨t_6,hj5,hr⟩:=bindS hr
   refine q_join (fun a w=>Fr a 43 [(7,(.bool minus_2)),(8,(iV t_5.1)),(9,(strV t_5.2.1)),(37,(.bool t_6))]∧St [] w0 w m []) ?_ ?_
   ·refine q_region (q_x (v:=(.bool t_5.2.2)) hF hS (ex_move rfl) rfl rfl fun a hF=>q_x (v:=(.bool (!t_5.2.2))) hF hS (ex_not rfl) rfl rfl fun a hF=>q_x (v:=(.bool (!t_5.2.2))) hF hS (ex_move rfl) rfl rfl fun a hF=>?_)
    rcases bcase (!t_5.2.2) with hc6 | hc6
    ·have hj5:=cond_f hc6 hj5
     refine q_xg (v:=(.bool minus_2)) hF hS (ex_move rfl) (wanted_t hF rfl rfl rfl hc6) rfl fun a hF=>q_xg (v:=(.bool minus_2)) hF hS (ex_move rfl) (wanted_t hF rfl rfl rfl hc6) rfl fun a hF=>?_
     rcases bcase (minus_2) with hc7 | hc7
     ·have hj5:=cond_f hc7 hj5
      refine q_skip hF (wanted_f hF rfl rfl rfl hc7 rfl) rfl fun a hF=>q_skip hF (wanted_f hF rfl rfl rfl hc7 rfl) rfl fun a hF=>q_xg (v:=(.bool false)) hF hS (ex_pick_f rfl rfl hc7) (wanted_t hF rfl rfl rfl hc6) rfl fun a hF=>q_x (v:=(.bool false)) hF hS (ex_pick_f rfl rfl hc6) rfl rfl fun a hF=>q_end (n_jn ?_)
      obtain rfl:=someI hj5
      exact ⟨hF.sub ⟨rfl,rfl,rfl,rfl,trivial⟩,hS⟩
     ·have hj5:=cond_t hc7 hj5
      refine q_xg (v:=(iV t_5.1)) hF hS (ex_move rfl) (wanted_t hF rfl rfl rfl hc7) rfl fun a hF=>q_xg (v:=(.bool (t_5.1 == 0))) hF hS (ex_ibin rfl rfl rfl) (wanted_t hF rfl rfl rfl hc7) rfl fun a hF=>q_xg (v:=(.bool (t_5.1 == 0))) hF hS (ex_pick_t rfl rfl hc7) (wanted_t hF rfl rfl rfl hc6) rfl fun a hF=>q_x (v:=(.bool (t_5.1 == 0))) hF hS (ex_pick_f rfl rfl hc6) rfl rfl fun a hF=>q_end (n_jn ?_)
      obtain rfl:=someI hj5
      exact ⟨hF.sub ⟨rfl,rfl,rfl,rfl,trivial⟩,hS⟩
    ·have hj5:=cond_t hc6 hj5
     refine q_skip hF (wanted_f hF rfl rfl rfl hc6 rfl) rfl fun a hF=>q_skip hF (wanted_f hF rfl rfl rfl hc6 rfl) rfl fun a hF=>q_skip hF (wanted_u hF rfl rfl rfl) rfl fun a hF=>q_skip hF (wanted_u hF rfl rfl rfl) rfl fun a hF=>q_skip hF (wanted_f hF rfl rfl rfl hc6 rfl) rfl fun a hF=>q_x (v:=(.bool true)) hF hS (ex_pick_t rfl rfl hc6) rfl rfl fun a hF=>q_end (n_jn ?_)
     obtain rfl:=someI hj5
     exact ⟨hF.sub ⟨rfl,rfl,rfl,rfl,trivial⟩,hS⟩
   ·rintro a w ⟨hF,hS⟩
    refine n_sq ?_
    rcases bcase (t_6) with hc8 | hc8
    ·have hr:=cond_f hc8 hr
     refine q_cond_f hF rfl hc8 (q_skipc (n_sq (q_seq (q_seq (q_region (q_x (v:=(.bool minus_2)) hF hS (ex_move rfl) rfl rfl fun a hF=>q_end (n_sq ?_)))))))
     obtain ⟨n_7,hj9,hr⟩:=bindS hr
     refine q_join (fun a w=>Fr a 43 [(8,(iV n_7)),(9,(strV t_5.2.1))]∧St [] w0 w m []) ?_ ?_
     ·rcases bcase (minus_2) with hc10 | hc10
      ·have hj9:=cond_f hc10 hj9
       refine q_cond_f hF rfl hc10 (q_skipc (n_jn ?_))
       obtain rfl:=someI hj9
       exact ⟨hF.sub ⟨rfl,rfl,trivial⟩,hS⟩
      ·have hj9:=cond_t hc10 hj9
       refine q_cond_t hF rfl hc10 (q_region (q_x (v:=(iV t_5.1)) hF hS (ex_move rfl) rfl rfl fun a hF=>q_x (v:=(iV (w64 (-t_5.1)))) hF hS (ex_neg rfl) rfl rfl fun a hF=>q_x (v:=(iV (w64 (-t_5.1)))) hF hS (ex_assign rfl) rfl rfl fun a hF=>q_end (n_jn ?_)))
       obtain rfl:=someI hj9
       exact ⟨hF.sub ⟨rfl,rfl,trivial⟩,hS⟩
     ·rintro a w ⟨hF,hS⟩
      refine n_sq ?_
      refine q_seq (q_region (q_x (v:=(iV n_7)) hF hS (ex_move rfl) rfl rfl fun a hF=>q_x (v:=(strV t_5.2.1)) hF hS (ex_move rfl) rfl rfl fun a hF=>q_x (v:=(iV n_7)) hF hS (ex_assign rfl) rfl rfl fun a hF=>q_x (v:=(strV t_5.2.1)) hF hS (ex_assign rfl) rfl rfl fun a hF=>q_x (v:=(.bool true)) hF hS (ex_assign rfl) rfl rfl fun a hF=>q_end (n_sq (q_ret ?_))))
      obtain rfl:=someI hr
      exact ret_of hF hS rfl (.tmp rfl (.tmp rfl (.tmp rfl .nil))) rfl
    ·have hr:=cond_t hc8 hr
     refine q_cond_t hF rfl hc8 (q_seq (q_region (q_x (v:=(iV 0)) hF hS (ex_assign rfl) rfl rfl fun a hF=>q_x (v:=(strV ([] : List UInt8))) hF hS (ex_assign rfl) rfl rfl fun a hF=>q_x (v:=(.bool false)) hF hS (ex_assign rfl) rfl rfl fun a hF=>q_end (n_sq (q_ret (r_sq ?_))))))
     obtain rfl:=someI hr
     exact ret_of hF hS rfl (.tmp rfl (.tmp rfl (.tmp rfl .nil))) rfl

theorem c_impl_readFrac (p_s : List UInt8) (r : impl_Frac × (List UInt8) × Bool) (hr : impl_readFrac p_s = some r) (w0 : World) (m : Mem) (hv : Vis m w0) :
  Ret Tryd.prog 69 [(strV p_s)] w0 (fun v _=>v = (.tuple #[(.agg #[(iV r.1.Num),(iV r.1.Den)]),(strV r.2.1),(.bool r.2.2)])):=by
 unfold impl_readFrac at hr
 refine ret_start Tryd.func69 rfl 50 rfl rfl m hv fun a hF hS=>q_seq (q_region (q_alloc (cs:=[(iV 0),(iV 0)]) hF hS rfl rfl rfl fun a w b1 hF hS=>q_x (v:=(strV ([] : List UInt8))) hF hS (ex_assign rfl) rfl rfl fun a hF=>q_x (v:=(.bool false)) hF hS (ex_assign rfl) rfl rfl fun a hF=>q_end (n_sq (q_seq (q_region (q_x (v:=(strV p_s)) hF hS (ex_move rfl) rfl rfl fun a hF=>?_))))))
 obtain ⟨t_2,ht_2,hr⟩:=bindS hr
 refine q_call (vs:=[(strV p_s),(iV 1000000000)]) hF hS Tryd.func113 (by kernel_rfl) rfl rfl rfl (c_impl_readInteger p_s 1000000000 t_2 ht_2 _ m hS.vis) ?_
 rintro a w _ rfl hF hS
 refine q_x (v:=(.tuple #[(iV t_2.1),(strV t_2.2.1),(.bool t_2.2.2)])) hF hS (ex_move rfl) rfl rfl fun a hF=>q_x (v:=(iV t_2.1)) hF hS (ex_extract rfl rfl) rfl rfl fun a hF=>q_x (v:=(strV t_2.2.1)) hF hS (ex_extract rfl rfl) rfl rfl fun a hF=>q_x (v:=(.bool t_2.2.2)) hF hS (ex_extract rfl rfl) rfl rfl fun a hF=>q_x (v:=(iV t_2.1)) hF hS (ex_assign rfl) rfl rfl fun a hF=>q_x (v:=(strV t_2.2.1)) hF hS (ex_assign rfl) rfl rfl fun a hF=>q_x (v:=(.bool t_2.2.2)) hF hS (ex_assign rfl) rfl rfl fun a hF=>q_end (n_sq (q_seq (q_seq (q_region (q_x (v:=(.bool t_2.2.2)) hF hS (ex_move rfl) rfl rfl fun a hF=>q_x (v:=(.bool (!t_2.2.2))) hF hS (ex_not rfl) rfl rfl fun a hF=>q_end (n_sq ?_))))))
 rcases bcase (!t_2.2.2) with hc1 | hc1
 ·have hr:=cond_f hc1 hr
  refine q_cond_f hF rfl hc1 (q_skipc (n_sq (q_seq (q_region (q_x (v:=(iV 1)) hF hS (ex_assign rfl) rfl rfl fun a hF=>q_end (n_sq (q_seq (q_seq ?_))))))))
  obtain ⟨t_4,hj2,hr⟩:=bindS hr
  refine q_join (fun a w=>Fr a 50 [(2,(.pointer (some ⟨b1,0,none⟩))),(5,(iV t_2.1)),(6,(strV t_2.2.1)),(8,(iV 1)),(26,(.bool t_4))]∧St [] w0 w m [[⟨b1,[(iV 0),(iV 0)],24⟩]]) ?_ ?_
  ·refine q_region (q_x (v:=(strV t_2.2.1)) hF hS (ex_move rfl) rfl rfl fun a hF=>q_x (v:=(iV (goLen t_2.2.1))) hF hS (ex_strLen Tryd.underlying9 rfl) rfl rfl fun a hF=>q_x (v:=(.bool (decide (0 < (goLen t_2.2.1))))) hF hS (ex_ibin rfl rfl rfl) rfl rfl fun a hF=>q_x (v:=(.bool (decide (0 < (goLen t_2.2.1))))) hF hS (ex_move rfl) rfl rfl fun a hF=>?_)
   rcases bcase (decide (0 < (goLen t_2.2.1))) with hc3 | hc3
   ·have hj2:=cond_f hc3 hj2
    refine q_skip hF (wanted_f hF rfl rfl rfl hc3 rfl) rfl fun a hF=>q_skip hF (wanted_f hF rfl rfl rfl hc3 rfl) rfl fun a hF=>q_skip hF (wanted_f hF rfl rfl rfl hc3 rfl) rfl fun a hF=>q_x (v:=(.bool false)) hF hS (ex_pick_f rfl rfl hc3) rfl rfl fun a hF=>q_end (n_jn ?_)
    obtain rfl:=someI hj2
    exact ⟨hF.sub ⟨rfl,rfl,rfl,rfl,rfl,trivial⟩,hS⟩
   ·have hj2:=cond_t hc3 hj2
    refine q_xg (v:=(strV t_2.2.1)) hF hS (ex_move rfl) (wanted_t hF rfl rfl rfl hc3) rfl fun a hF=>?_
    obtain ⟨t_3,ht_3,hj2⟩:=bindS hj2
    refine q_xg (v:=(.int .u8 t_3)) hF hS (ex_strIdx Tryd.underlying9 rfl rfl ht_3) (wanted_t hF rfl rfl rfl hc3) rfl fun a hF=>q_xg (v:=(.bool (t_3 == 47))) hF hS (ex_ibin rfl rfl rfl) (wanted_t hF rfl rfl rfl hc3) rfl fun a hF=>q_x (v:=(.bool (t_3 == 47))) hF hS (ex_pick_t rfl rfl hc3) rfl rfl fun a hF=>q_end (n_jn ?_)
    obtain rfl:=someI hj2
    exact ⟨hF.sub ⟨rfl,rfl,rfl,rfl,rfl,trivial⟩,hS⟩
  ·rintro a w ⟨hF,hS⟩
   refine n_sq ?_
   obtain ⟨j4,hj4,hr⟩:=bindS hr
   refine q_join (fun a w=>∃ rest_8,∃ d_9,j4 = .inl (rest_8,d_9)∧Fr a 50 [(2,(.pointer (some ⟨b1,0,none⟩))),(5,(iV t_2.1)),(6,(strV rest_8)),(8,(iV d_9))]∧St [] w0 w m [[⟨b1,[(iV 0),(iV 0)],24⟩]]) ?_ ?_
   ·rcases bcase (t_4) with hc5 | hc5
    ·have hj4:=cond_f hc5 hj4
     refine q_cond_f hF rfl hc5 (q_skipc (n_jn ?_))
     obtain rfl:=someI hj4
     exact ⟨_,_,rfl,hF.sub ⟨rfl,rfl,rfl,rfl,trivial⟩,hS⟩
    ·have hj4:=cond_t hc5 hj4
     refine q_cond_t hF rfl hc5 (q_seq (q_region (q_x (v:=(strV t_2.2.1)) hF hS (ex_move rfl) rfl rfl fun a hF=>?_)))
     obtain ⟨t_5,ht_5,hj4⟩:=bindS hj4
     refine q_x (v:=(strV t_5)) hF hS (ex_strSub Tryd.underlying9 rfl rfl rfl (.inr ⟨_,rfl⟩) (.inl ⟨rfl,rfl⟩) ht_5) rfl rfl fun a hF=>?_
     obtain ⟨t_6,ht_6,hj4⟩:=bindS hj4
     refine q_call (vs:=[(strV t_5),(iV 1000000000)]) hF hS Tryd.func94 (by kernel_rfl) rfl rfl rfl (c_impl_readNatural t_5 1000000000 t_6 ht_6 _ m hS.vis) ?_
     rintro a w _ rfl hF hS
     refine q_x (v:=(.tuple #[(iV t_6.1),(strV t_6.2.1),(.bool t_6.2.2)])) hF hS (ex_move rfl) rfl rfl fun a hF=>q_x (v:=(iV t_6.1)) hF hS (ex_extract rfl rfl) rfl rfl fun a hF=>q_x (v:=(strV t_6.2.1)) hF hS (ex_extract rfl rfl) rfl rfl fun a hF=>q_x (v:=(.bool t_6.2.2)) hF hS (ex_extract rfl rfl) rfl rfl fun a hF=>q_x (v:=(iV t_6.1)) hF hS (ex_assign rfl) rfl rfl fun a hF=>q_x (v:=(strV t_6.2.1)) hF hS (ex_assign rfl) rfl rfl fun a hF=>q_x (v:=(.bool t_6.2.2)) hF hS (ex_assign rfl) rfl rfl fun a hF=>q_end (n_sq (q_seq ?_))
     obtain ⟨t_7,hj6,hj4⟩:=bindS hj4
     refine q_join (fun a w=>Fr a 50 [(2,(.pointer (some ⟨b1,0,none⟩))),(5,(iV t_2.1)),(6,(strV t_6.2.1)),(8,(iV t_6.1)),(39,(.bool t_7))]∧St [] w0 w m [[⟨b1,[(iV 0),(iV 0)],24⟩]]) ?_ ?_
     ·refine q_region (q_x (v:=(.bool t_6.2.2)) hF hS (ex_move rfl) rfl rfl fun a hF=>q_x (v:=(.bool (!t_6.2.2))) hF hS (ex_not rfl) rfl rfl fun a hF=>q_x (v:=(.bool (!t_6.2.2))) hF hS (ex_move rfl) rfl rfl fun a hF=>?_)
      rcases bcase (!t_6.2.2) with hc7 | hc7
      ·have hj6:=cond_f hc7 hj6
       refine q_xg (v:=(iV t_6.1)) hF hS (ex_move rfl) (wanted_t hF rfl rfl rfl hc7) rfl fun a hF=>q_xg (v:=(.bool (decide (t_6.1 < 2)))) hF hS (ex_ibin rfl rfl rfl) (wanted_t hF rfl rfl rfl hc7) rfl fun a hF=>q_x (v:=(.bool (decide (t_6.1 < 2)))) hF hS (ex_pick_f rfl rfl hc7) rfl rfl fun a hF=>q_end (n_jn ?_)
       obtain rfl:=someI hj6
       exact ⟨hF.sub ⟨rfl,rfl,rfl,rfl,rfl,trivial⟩,hS⟩
      ·have hj6:=cond_t hc7 hj6
       refine q_skip hF (wanted_f hF rfl rfl rfl hc7 rfl) rfl fun a hF=>q_skip hF (wanted_f hF rfl rfl rfl hc7 rfl) rfl fun a hF=>q_x (v:=(.bool true)) hF hS (ex_pick_t rfl rfl hc7) rfl rfl fun a hF=>q_end (n_jn ?_)
       obtain rfl:=someI hj6
       exact ⟨hF.sub ⟨rfl,rfl,rfl,rfl,rfl,trivial⟩,hS⟩
     ·rintro a w ⟨hF,hS⟩
      refine n_sq ?_
      rcases bcase (t_7) with hc8 | hc8
      ·have hj4:=cond_f hc8 hj4
       refine q_cond_f hF rfl hc8 (q_skipc (n_jn ?_))
       obtain rfl:=someI hj4
       exact ⟨_,_,rfl,hF.sub ⟨rfl,rfl,rfl,rfl,trivial⟩,hS⟩
      ·have hj4:=cond_t hc8 hj4
       refine q_cond_t hF rfl hc8 (q_seq (q_region (q_x (v:=(.agg #[(iV 0),(iV 0)])) hF hS (ex_build (cells:=[(iV 0),(iV 0)]) rfl (by kernel_rfl)) rfl rfl fun a hF=>q_store (vs:=[(iV 0),(iV 0)]) (cs':=[(iV 0),(iV 0)]) 0 0 hF hS sz24 rfl rfl rfl rfl rfl rfl rfl rfl fun a w hF hS=>q_x (v:=(strV ([] : List UInt8))) hF hS (ex_assign rfl) rfl rfl fun a hF=>q_x (v:=(.bool false)) hF hS (ex_assign rfl) rfl rfl fun a hF=>q_end (n_sq (q_ret (r_jn ?_))))))
       obtain rfl:=someI hj4
       refine r_sq ?_
       obtain rfl:=someI hr
       exact ret_of hF hS rfl (.cellA (us:=[(iV 0),(iV 0)]) 0 0 Tryd.underlying24 rfl sz24 rfl rfl rfl rfl (.tmp rfl (.tmp rfl .nil))) rfl
   ·rintro a w ⟨rest_8,d_9,rfl,hF,hS⟩
    refine n_sq ?_
    refine q_seq (q_region (q_x (v:=(iV t_2.1)) hF hS (ex_move rfl) rfl rfl fun a hF=>q_x (v:=(iV d_9)) hF hS (ex_move rfl) rfl rfl fun a hF=>q_x (v:=(.agg #[(iV t_2.1),(iV d_9)])) hF hS (ex_build (cells:=[(iV t_2.1),(iV d_9)]) rfl (by kernel_rfl)) rfl rfl fun a hF=>q_alloc (cs:=[(iV 0),(iV 0)]) hF hS rfl rfl rfl fun a w b10 hF hS=>q_store (vs:=[(iV t_2.1),(iV d_9)]) (cs':=[(iV t_2.1),(iV d_9)]) 0 0 hF hS sz24 rfl rfl rfl rfl rfl rfl rfl rfl fun a w hF hS=>q_end (n_sq (q_seq (q_seq (q_region (q_x (v:=(.agg #[(iV t_2.1),(iV d_9)])) hF hS (ex_loadA (vs:=[(iV t_2.1),(iV d_9)]) 0 0 Tryd.underlying24 rfl sz24 rfl rfl rfl rfl) rfl rfl fun a hF=>?_)))))))
    obtain ⟨t_11,ht_11,hr⟩:=bindS hr
    refine q_call (vs:=[(.agg #[(iV t_2.1),(iV d_9)])]) hF hS Tryd.func54 (by kernel_rfl) rfl rfl rfl (c_impl_IsFrac (impl_Frac.mk t_2.1 d_9) t_11 ht_11 _ m hS.vis) ?_
    rintro a w _ rfl hF hS
    refine q_x (v:=(.bool (!t_11))) hF hS (ex_not rfl) rfl rfl fun a hF=>q_end (n_sq ?_)
    rcases bcase (!t_11) with hc9 | hc9
    ·have hr:=cond_f hc9 hr
     refine q_cond_f hF rfl hc9 (q_skipc (n_sq (q_seq (q_region (q_x (v:=(.agg #[(iV t_2.1),(iV d_9)])) hF hS (ex_loadA (vs:=[(iV t_2.1),(iV d_9)]) 0 0 Tryd.underlying24 rfl sz24 rfl rfl rfl rfl) rfl rfl fun a hF=>q_x (v:=(strV rest_8)) hF hS (ex_move rfl) rfl rfl fun a hF=>q_store (vs:=[(iV t_2.1),(iV d_9)]) (cs':=[(iV t_2.1),(iV d_9)]) 1 0 hF hS sz24 rfl rfl rfl rfl rfl rfl rfl rfl fun a w hF hS=>q_x (v:=(strV rest_8)) hF hS (ex_assign rfl) rfl rfl fun a hF=>q_x (v:=(.bool true)) hF hS (ex_assign rfl) rfl rfl fun a hF=>q_end (n_sq (q_ret ?_)))))))
     obtain rfl:=someI hr
     exact ret_of hF hS rfl (.cellA (us:=[(iV t_2.1),(iV d_9)]) 1 0 Tryd.underlying24 rfl sz24 rfl rfl rfl rfl (.tmp rfl (.tmp rfl .nil))) rfl
    ·have hr:=cond_t hc9 hr
     refine q_cond_t hF rfl hc9 (q_seq (q_region (q_x (v:=(.agg #[(iV 0),(iV 0)])) hF hS (ex_build (cells:=[(iV 0),(iV 0)]) rfl (by kernel_rfl)) rfl rfl fun a hF=>q_store (vs:=[(iV 0),(iV 0)]) (cs':=[(iV 0),(iV 0)]) 1 0 hF hS sz24 rfl rfl rfl rfl rfl rfl rfl rfl fun a w hF hS=>q_x (v:=(strV ([] : List UInt8))) hF hS (ex_assign rfl) rfl rfl fun a hF=>q_x (v:=(.bool false)) hF hS (ex_assign rfl) rfl rfl fun a hF=>q_end (n_sq (q_ret (r_sq ?_))))))
     obtain rfl:=someI hr
     exact ret_of hF hS rfl (.cellA (us:=[(iV 0),(iV 0)]) 1 0 Tryd.underlying24 rfl sz24 rfl rfl rfl rfl (.tmp rfl (.tmp rfl .nil))) rfl
 ·have hr:=cond_t hc1 hr
  refine q_cond_t hF rfl hc1 (q_seq (q_region (q_x (v:=(.agg #[(iV 0),(iV 0)])) hF hS (ex_build (cells:=[(iV 0),(iV 0)]) rfl (by kernel_rfl)) rfl rfl fun a hF=>q_store (vs:=[(iV 0),(iV 0)]) (cs':=[(iV 0),(iV 0)]) 0 0 hF hS sz24 rfl rfl rfl rfl rfl rfl rfl rfl fun a w hF hS=>q_x (v:=(strV ([] : List UInt8))) hF hS (ex_assign rfl) rfl rfl fun a hF=>q_x (v:=(.bool false)) hF hS (ex_assign rfl) rfl rfl fun a hF=>q_end (n_sq (q_ret (r_sq ?_))))))
  obtain rfl:=someI hr
  exact ret_of hF hS rfl (.cellA (us:=[(iV 0),(iV 0)]) 0 0 Tryd.underlying24 rfl sz24 rfl rfl rfl rfl (.tmp rfl (.tmp rfl .nil))) rfl

theorem c_impl_ParseFrac (p_s : List UInt8) (r : impl_Frac × Bool) (hr : impl_ParseFrac p_s = some r) (w0 : World) (m : Mem) (hv : Vis m w0) :
  Ret Tryd.prog 18 [(strV p_s)] w0 (fun v _=>v = (.tuple #[(.agg #[(iV r.1.Num),(iV r.1.Den)]),(.bool r.2)])):=by
 unfold impl_ParseFrac at hr
 refine ret_start Tryd.func18 rfl 21 rfl rfl m hv fun a hF hS=>q_seq (q_region (q_alloc (cs:=[(iV 0),(iV 0)]) hF hS rfl rfl rfl fun a w b1 hF hS=>q_x (v:=(.bool false)) hF hS (ex_assign rfl) rfl rfl fun a hF=>q_end (n_sq (q_seq (q_region (q_x (v:=(strV p_s)) hF hS (ex_move rfl) rfl rfl fun a hF=>?_))))))
 obtain ⟨t_2,ht_2,hr⟩:=bindS hr
 refine q_call (vs:=[(strV p_s)]) hF hS Tryd.func69 (by kernel_rfl) rfl rfl rfl (c_impl_readFrac p_s t_2 ht_2 _ m hS.vis) ?_
 rintro a w _ rfl hF hS
 refine q_x (v:=(.tuple #[(.agg #[(iV t_2.1.Num),(iV t_2.1.Den)]),(strV t_2.2.1),(.bool t_2.2.2)])) hF hS (ex_move rfl) rfl rfl fun a hF=>q_x (v:=(.agg #[(iV t_2.1.Num),(iV t_2.1.Den)])) hF hS (ex_extract rfl rfl) rfl rfl fun a hF=>q_x (v:=(strV t_2.2.1)) hF hS (ex_extract rfl rfl) rfl rfl fun a hF=>q_x (v:=(.bool t_2.2.2)) hF hS (ex_extract rfl rfl) rfl rfl fun a hF=>q_alloc (cs:=[(iV 0),(iV 0)]) hF hS rfl rfl rfl fun a w b3 hF hS=>q_store (vs:=[(iV t_2.1.Num),(iV t_2.1.Den)]) (cs':=[(iV t_2.1.Num),(iV t_2.1.Den)]) 0 0 hF hS sz24 rfl rfl rfl rfl rfl rfl rfl rfl fun a w hF hS=>q_x (v:=(strV t_2.2.1)) hF hS (ex_assign rfl) rfl rfl fun a hF=>q_x (v:=(.bool t_2.2.2)) hF hS (ex_assign rfl) rfl rfl fun a hF=>q_end (n_sq (q_seq (q_seq ?_)))
 obtain ⟨t_4,hj1,hr⟩:=bindS hr
 refine q_join (fun a w=>Fr a 21 [(2,(.pointer (some ⟨b1,0,none⟩))),(4,(.pointer (some ⟨b3,0,none⟩))),(18,(.bool t_4))]∧St [] w0 w m [[⟨b3,[(iV t_2.1.Num),(iV t_2.1.Den)],24⟩],[⟨b1,[(iV 0),(iV 0)],24⟩]]) ?_ ?_
 ·refine q_region (q_x (v:=(.bool t_2.2.2)) hF hS (ex_move rfl) rfl rfl fun a hF=>q_x (v:=(.bool (!t_2.2.2))) hF hS (ex_not rfl) rfl rfl fun a hF=>q_x (v:=(.bool (!t_2.2.2))) hF hS (ex_move rfl) rfl rfl fun a hF=>?_)
  rcases bcase (!t_2.2.2) with hc2 | hc2
  ·have hj1:=cond_f hc2 hj1
   refine q_xg (v:=(strV t_2.2.1)) hF hS (ex_move rfl) (wanted_t hF rfl rfl rfl hc2) rfl fun a hF=>q_xg (v:=(.bool (t_2.2.1 != ([] : List UInt8)))) hF hS (ex_strNe rfl rfl) (wanted_t hF rfl rfl rfl hc2) rfl fun a hF=>q_x (v:=(.bool (t_2.2.1 != ([] : List UInt8)))) hF hS (ex_pick_f rfl rfl hc2) rfl rfl fun a hF=>q_end (n_jn ?_)
   obtain rfl:=someI hj1
   exact ⟨hF.sub ⟨rfl,rfl,rfl,trivial⟩,hS⟩
  ·have hj1:=cond_t hc2 hj1
   refine q_skip hF (wanted_f hF rfl rfl rfl hc2 rfl) rfl fun a hF=>q_skip hF (wanted_f hF rfl rfl rfl hc2 rfl) rfl fun a hF=>q_x (v:=(.bool true)) hF hS (ex_pick_t rfl rfl hc2) rfl rfl fun a hF=>q_end (n_jn ?_)
   obtain rfl:=someI hj1
   exact ⟨hF.sub ⟨rfl,rfl,rfl,trivial⟩,hS⟩
 ·rintro a w ⟨hF,hS⟩
  refine n_sq ?_
  rcases bcase (t_4) with hc3 | hc3
  ·have hr:=cond_f hc3 hr
   refine q_cond_f hF rfl hc3 (q_skipc (n_sq (q_seq (q_region (q_x (v:=(.agg #[(iV t_2.1.Num),(iV t_2.1.Den)])) hF hS (ex_loadA (vs:=[(iV t_2.1.Num),(iV t_2.1.Den)]) 0 0 Tryd.underlying24 rfl sz24 rfl rfl rfl rfl) rfl rfl fun a hF=>q_store (vs:=[(iV t_2.1.Num),(iV t_2.1.Den)]) (cs':=[(iV t_2.1.Num),(iV t_2.1.Den)]) 1 0 hF hS sz24 rfl rfl rfl rfl rfl rfl rfl rfl fun a w hF hS=>q_x (v:=(.bool true)) hF hS (ex_assign rfl) rfl rfl fun a hF=>q_end (n_sq (q_ret ?_)))))))
   obtain rfl:=someI hr
   exact ret_of hF hS rfl (.cellA (us:=[(iV t_2.1.Num),(iV t_2.1.Den)]) 1 0 Tryd.underlying24 rfl sz24 rfl rfl rfl rfl (.tmp rfl .nil)) rfl
  ·have hr:=cond_t hc3 hr
   refine q_cond_t hF rfl hc3 (q_seq (q_region (q_x (v:=(.agg #[(iV 0),(iV 0)])) hF hS (ex_build (cells:=[(iV 0),(iV 0)]) rfl (by kernel_rfl)) rfl rfl fun a hF=>q_store (vs:=[(iV 0),(iV 0)]) (cs':=[(iV 0),(iV 0)]) 1 0 hF hS sz24 rfl rfl rfl rfl rfl rfl rfl rfl fun a w hF hS=>q_x (v:=(.bool false)) hF hS (ex_assign rfl) rfl rfl fun a hF=>q_end (n_sq (q_ret (r_sq ?_))))))
   obtain rfl:=someI hr
   exact ret_of hF hS rfl (.cellA (us:=[(iV 0),(iV 0)]) 1 0 Tryd.underlying24 rfl sz24 rfl rfl rfl rfl (.tmp rfl .nil)) rfl

theorem c_laws_FnRounding (p_code : List (K .u8)) (p_more : List (K .u8)) (r : Bool) (hr : laws_FnRounding p_code p_more = some r) (w0 : World) (m : Mem) (hv : Vis m w0) (ht : Tbl m) (s1 : Sl) (h1 : Rd m s1 p_code) (s2 : Sl) (h2 : Rd m s2 p_more) :
  Ret Tryd.prog 3 [s1.v,s2.v] w0 (fun v _=>v = (.bool r)):=by
 unfold laws_FnRounding at hr
 refine ret_start Tryd.func3 rfl 156 rfl rfl m hv fun a hF hS=>q_seq (q_region (q_x (v:=(.bool false)) hF hS (ex_assign rfl) rfl rfl fun a hF=>q_end (n_sq (q_seq (q_seq (q_region (q_x (v:=s1.v) hF hS (ex_move rfl) rfl rfl fun a hF=>q_x (v:=(iV (goLen p_code))) hF hS (ex_len Tryd.underlying22 rfl h1.len) rfl rfl fun a hF=>q_x (v:=s2.v) hF hS (ex_move rfl) rfl rfl fun a hF=>q_x (v:=(iV (goLen p_more))) hF hS (ex_len Tryd.underlying22 rfl h2.len) rfl rfl fun a hF=>q_x (v:=(iV (w64 ((goLen p_code) + (goLen p_more))))) hF hS (ex_ibin rfl rfl rfl) rfl rfl fun a hF=>q_x (v:=(.bool (decide (1048576 < (w64 ((goLen p_code) + (goLen p_more))))))) hF hS (ex_ibin rfl rfl rfl) rfl rfl fun a hF=>q_end (n_sq ?_))))))))
 rcases bcase (decide (1048576 < (w64 ((goLen p_code) + (goLen p_more))))) with hc1 | hc1
 ·have hr:=cond_f hc1 hr
  refine q_cond_f hF rfl hc1 (q_skipc (n_sq (q_seq (q_region (q_x (v:=s1.v) hF hS (ex_move rfl) rfl rfl fun a hF=>?_)))))
  obtain ⟨t_3,ht_3,hr⟩:=bindS hr
  refine q_call (vs:=[s1.v]) hF hS Tryd.func6 (by kernel_rfl) rfl rfl rfl (c_spec_DrawRoundFrac p_code t_3 ht_3 _ m hS.vis s1 h1) ?_
  rintro a w _ rfl hF hS
  refine q_alloc (cs:=[(iV 0),(iV 0)]) hF hS rfl rfl rfl fun a w b4 hF hS=>q_store (vs:=[(iV t_3.Num),(iV t_3.Den)]) (cs':=[(iV t_3.Num),(iV t_3.Den)]) 0 0 hF hS sz24 rfl rfl rfl rfl rfl rfl rfl rfl fun a w hF hS=>q_end (n_sq (q_seq (q_region (q_x (v:=(.agg #[(iV t_3.Num),(iV t_3.Den)])) hF hS (ex_loadA (vs:=[(iV t_3.Num),(iV t_3.Den)]) 0 0 Tryd.underlying24 rfl sz24 rfl rfl rfl rfl) rfl rfl fun a hF=>?_))))
  obtain ⟨t_5,ht_5,hr⟩:=bindS hr
  refine q_call (vs:=[(.agg #[(iV t_3.Num),(iV t_3.Den)])]) hF hS Tryd.func7 (by kernel_rfl) rfl rfl rfl (c_impl_RoundFrac t_3 t_5 ht_5 _ m hS.vis) ?_
  rintro a w _ rfl hF hS
  refine q_x (v:=(.tuple #[(iV t_5.1),(.bool t_5.2)])) hF hS (ex_move rfl) rfl rfl fun a hF=>q_x (v:=(iV t_5.1)) hF hS (ex_extract rfl rfl) rfl rfl fun a hF=>q_x (v:=(.bool t_5.2)) hF hS (ex_extract rfl rfl) rfl rfl fun a hF=>q_x (v:=(iV t_5.1)) hF hS (ex_assign rfl) rfl rfl fun a hF=>q_x (v:=(.bool t_5.2)) hF hS (ex_assign rfl) rfl rfl fun a hF=>q_end (n_sq (q_seq (q_region (q_x (v:=(.agg #[(iV t_3.Num),(iV t_3.Den)])) hF hS (ex_loadA (vs:=[(iV t_3.Num),(iV t_3.Den)]) 0 0 Tryd.underlying24 rfl sz24 rfl rfl rfl rfl) rfl rfl fun a hF=>?_))))
  obtain ⟨t_6,ht_6,hr⟩:=bindS hr
  refine q_call (vs:=[(.agg #[(iV t_3.Num),(iV t_3.Den)])]) hF hS Tryd.func8 (by kernel_rfl) rfl rfl rfl (c_spec_RoundFrac t_3 t_6 ht_6 _ m hS.vis) ?_
  rintro a w _ rfl hF hS
  refine q_x (v:=(.tuple #[(iV t_6.1),(.bool t_6.2)])) hF hS (ex_move rfl) rfl rfl fun a hF=>q_x (v:=(iV t_6.1)) hF hS (ex_extract rfl rfl) rfl rfl fun a hF=>q_x (v:=(.bool t_6.2)) hF hS (ex_extract rfl rfl) rfl rfl fun a hF=>q_x (v:=(iV t_6.1)) hF hS (ex_assign rfl) rfl rfl fun a hF=>q_x (v:=(.bool t_6.2)) hF hS (ex_assign rfl) rfl rfl fun a hF=>q_end (n_sq (q_seq (q_region (q_x (v:=(.agg #[(iV t_3.Num),(iV t_3.Den)])) hF hS (ex_loadA (vs:=[(iV t_3.Num),(iV t_3.Den)]) 0 0 Tryd.underlying24 rfl sz24 rfl rfl rfl rfl) rfl rfl fun a hF=>?_))))
  obtain ⟨t_7,ht_7,hr⟩:=bindS hr
  refine q_call (vs:=[(.agg #[(iV t_3.Num),(iV t_3.Den)])]) hF hS Tryd.func9 (by kernel_rfl) rfl rfl rfl (c_impl_FloorFrac t_3 t_7 ht_7 _ m hS.vis) ?_
  rintro a w _ rfl hF hS
  refine q_x (v:=(.tuple #[(iV t_7.1),(.bool t_7.2)])) hF hS (ex_move rfl) rfl rfl fun a hF=>q_x (v:=(iV t_7.1)) hF hS (ex_extract rfl rfl) rfl rfl fun a hF=>q_x (v:=(.bool t_7.2)) hF hS (ex_extract rfl rfl) rfl rfl fun a hF=>q_x (v:=(iV t_7.1)) hF hS (ex_assign rfl) rfl rfl fun a hF=>q_x (v:=(.bool t_7.2)) hF hS (ex_assign rfl) rfl rfl fun a hF=>q_end (n_sq (q_seq (q_region (q_x (v:=(.agg #[(iV t_3.Num),(iV t_3.Den)])) hF hS (ex_loadA (vs:=[(iV t_3.Num),(iV t_3.Den)]) 0 0 Tryd.underlying24 rfl sz24 rfl rfl rfl rfl) rfl rfl fun a hF=>?_))))
  obtain ⟨t_8,ht_8,hr⟩:=bindS hr
  refine q_call (vs:=[(.agg #[(iV t_3.Num),(iV t_3.Den)])]) hF hS Tryd.func10 (by kernel_rfl) rfl rfl rfl (c_spec_FloorFrac t_3 t_8 ht_8 _ m hS.vis) ?_
  rintro a w _ rfl hF hS
  refine q_x (v:=(.tuple #[(iV t_8.1),(.bool t_8.2)])) hF hS (ex_move rfl) rfl rfl fun a hF=>q_x (v:=(iV t_8.1)) hF hS (ex_extract rfl rfl) rfl rfl fun a hF=>q_x (v:=(.bool t_8.2)) hF hS (ex_extract rfl rfl) rfl rfl fun a hF=>q_x (v:=(iV t_8.1)) hF hS (ex_assign rfl) rfl rfl fun a hF=>q_x (v:=(.bool t_8.2)) hF hS (ex_assign rfl) rfl rfl fun a hF=>q_end (n_sq (q_seq (q_region (q_x (v:=s2.v) hF hS (ex_move rfl) rfl rfl fun a hF=>?_))))
  obtain ⟨t_9,ht_9,hr⟩:=bindS hr
  refine q_call (vs:=[s2.v]) hF hS Tryd.func11 (by kernel_rfl) rfl rfl rfl (c_spec_DrawPowFrac p_more t_9 ht_9 _ m hS.vis s2 h2) ?_
  rintro a w _ rfl hF hS
  refine q_x (v:=(.tuple #[(.agg #[(iV t_9.1.Num),(iV t_9.1.Den)]),(iV t_9.2)])) hF hS (ex_move rfl) rfl rfl fun a hF=>q_x (v:=(.agg #[(iV t_9.1.Num),(iV t_9.1.Den)])) hF hS (ex_extract rfl rfl) rfl rfl fun a hF=>q_x (v:=(iV t_9.2)) hF hS (ex_extract rfl rfl) rfl rfl fun a hF=>q_alloc (cs:=[(iV 0),(iV 0)]) hF hS rfl rfl rfl fun a w b10 hF hS=>q_store (vs:=[(iV t_9.1.Num),(iV t_9.1.Den)]) (cs':=[(iV t_9.1.Num),(iV t_9.1.Den)]) 0 0 hF hS sz24 rfl rfl rfl rfl rfl rfl rfl rfl fun a w hF hS=>q_x (v:=(iV t_9.2)) hF hS (ex_assign rfl) rfl rfl fun a hF=>q_end (n_sq (q_seq (q_region (q_x (v:=(.agg #[(iV t_9.1.Num),(iV t_9.1.Den)])) hF hS (ex_loadA (vs:=[(iV t_9.1.Num),(iV t_9.1.Den)]) 0 0 Tryd.underlying24 rfl sz24 rfl rfl rfl rfl) rfl rfl fun a hF=>q_x (v:=(iV t_9.2)) hF hS (ex_move rfl) rfl rfl fun a hF=>?_))))
  obtain ⟨t_11,ht_11,hr⟩:=bindS hr
  refine q_call (vs:=[(.agg #[(iV t_9.1.Num),(iV t_9.1.Den)]),(iV t_9.2)]) hF hS Tryd.func12 (by kernel_rfl) rfl rfl rfl (c_impl_PowFrac t_9.1 t_9.2 t_11 ht_11 _ m hS.vis) ?_
  rintro a w _ rfl hF hS
  refine q_x (v:=(.tuple #[(.agg #[(iV t_11.1.Num),(iV t_11.1.Den)]),(.bool t_11.2)])) hF hS (ex_move rfl) rfl rfl fun a hF=>q_x (v:=(.agg #[(iV t_11.1.Num),(iV t_11.1.Den)])) hF hS (ex_extract rfl rfl) rfl rfl fun a hF=>q_x (v:=(.bool t_11.2)) hF hS (ex_extract rfl rfl) rfl rfl fun a hF=>q_alloc (cs:=[(iV 0),(iV 0)]) hF hS rfl rfl rfl fun a w b12 hF hS=>q_store (vs:=[(iV t_11.1.Num),(iV t_11.1.Den)]) (cs':=[(iV t_11.1.Num),(iV t_11.1.Den)]) 0 0 hF hS sz24 rfl rfl rfl rfl rfl rfl rfl rfl fun a w hF hS=>q_x (v:=(.bool t_11.2)) hF hS (ex_assign rfl) rfl rfl fun a hF=>q_end (n_sq (q_seq (q_region (q_x (v:=(.agg #[(iV t_9.1.Num),(iV t_9.1.Den)])) hF hS (ex_loadA (vs:=[(iV t_9.1.Num),(iV t_9.1.Den)]) 1 0 Tryd.underlying24 rfl sz24 rfl rfl rfl rfl) rfl rfl fun a hF=>q_x (v:=(iV t_9.2)) hF hS (ex_move rfl) rfl rfl fun a hF=>?_))))
  obtain ⟨t_13,ht_13,hr⟩:=bindS hr
  refine q_call (vs:=[(.agg #[(iV t_9.1.Num),(iV t_9.1.Den)]),(iV t_9.2)]) hF hS Tryd.func13 (by kernel_rfl) rfl rfl rfl (c_spec_PowFrac t_9.1 t_9.2 t_13 ht_13 _ m hS.vis) ?_
  rintro a w _ rfl hF hS
  refine q_x (v:=(.tuple #[(.agg #[(iV t_13.1.Num),(iV t_13.1.Den)]),(.bool t_13.2)])) hF hS (ex_move rfl) rfl rfl fun a hF=>q_x (v:=(.agg #[(iV t_13.1.Num),(iV t_13.1.Den)])) hF hS (ex_extract rfl rfl) rfl rfl fun a hF=>q_x (v:=(.bool t_13.2)) hF hS (ex_extract rfl rfl) rfl rfl fun a hF=>q_alloc (cs:=[(iV 0),(iV 0)]) hF hS rfl rfl rfl fun a w b14 hF hS=>q_store (vs:=[(iV t_13.1.Num),(iV t_13.1.Den)]) (cs':=[(iV t_13.1.Num),(iV t_13.1.Den)]) 0 0 hF hS sz24 rfl rfl rfl rfl rfl rfl rfl rfl fun a w hF hS=>q_x (v:=(.bool t_13.2)) hF hS (ex_assign rfl) rfl rfl fun a hF=>q_end (n_sq (q_seq (q_region (q_x (v:=s2.v) hF hS (ex_move rfl) rfl rfl fun a hF=>?_))))
  obtain ⟨t_15,ht_15,hr⟩:=bindS hr
  refine q_call (vs:=[s2.v]) hF hS Tryd.func14 (by kernel_rfl) rfl rfl rfl (c_spec_DrawSumFracs p_more t_15 ht_15 _ m hS.vis s2 h2) ?_
  rintro a w _ ⟨q17,s17,rfl,hR16,h17⟩ hF hS2
  have hS : St _ _ _ _ [q17,[⟨b14,[(iV t_13.1.Num),(iV t_13.1.Den)],24⟩],[⟨b12,[(iV t_11.1.Num),(iV t_11.1.Den)],24⟩],[⟨b10,[(iV t_9.1.Num),(iV t_9.1.Den)],24⟩],[⟨b4,[(iV t_3.Num),(iV t_3.Den)],24⟩]]:=hS.joinF hR16
  refine q_x (v:=s17.v) hF hS (ex_assign rfl) rfl rfl fun a hF=>q_end (n_sq (q_seq (q_region (q_x (v:=s17.v) hF hS (ex_move rfl) rfl rfl fun a hF=>?_))))
  obtain ⟨m19,hl19,hv19,hz19⟩:=hS.lend
  obtain ⟨t_18,ht_18,hr⟩:=bindS hr
  refine q_call (vs:=[s17.v]) hF hS Tryd.func15 (by kernel_rfl) rfl rfl rfl (c_impl_SumFracs t_15 t_18 ht_18 _ m19 hv19 s17 (h17.froz hl19 (hz19 0 _ rfl))) ?_
  rintro a w _ rfl hF hS
  refine q_x (v:=(.tuple #[(.agg #[(iV t_18.1.Num),(iV t_18.1.Den)]),(.bool t_18.2)])) hF hS (ex_move rfl) rfl rfl fun a hF=>q_x (v:=(.agg #[(iV t_18.1.Num),(iV t_18.1.Den)])) hF hS (ex_extract rfl rfl) rfl rfl fun a hF=>q_x (v:=(.bool t_18.2)) hF hS (ex_extract rfl rfl) rfl rfl fun a hF=>q_alloc (cs:=[(iV 0),(iV 0)]) hF hS rfl rfl rfl fun a w b20 hF hS=>q_store (vs:=[(iV t_18.1.Num),(iV t_18.1.Den)]) (cs':=[(iV t_18.1.Num),(iV t_18.1.Den)]) 0 0 hF hS sz24 rfl rfl rfl rfl rfl rfl rfl rfl fun a w hF hS=>q_x (v:=(.bool t_18.2)) hF hS (ex_assign rfl) rfl rfl fun a hF=>q_end (n_sq (q_seq (q_region (q_x (v:=s17.v) hF hS (ex_move rfl) rfl rfl fun a hF=>?_))))
  obtain ⟨m22,hl22,hv22,hz22⟩:=hS.lend
  obtain ⟨t_21,ht_21,hr⟩:=bindS hr
  refine q_call (vs:=[s17.v]) hF hS Tryd.func16 (by kernel_rfl) rfl rfl rfl (c_spec_SumFracs t_15 t_21 ht_21 _ m22 hv22 s17 (h17.froz hl22 (hz22 1 _ rfl))) ?_
  rintro a w _ rfl hF hS
  refine q_x (v:=(.tuple #[(.agg #[(iV t_21.1.Num),(iV t_21.1.Den)]),(.bool t_21.2)])) hF hS (ex_move rfl) rfl rfl fun a hF=>q_x (v:=(.agg #[(iV t_21.1.Num),(iV t_21.1.Den)])) hF hS (ex_extract rfl rfl) rfl rfl fun a hF=>q_x (v:=(.bool t_21.2)) hF hS (ex_extract rfl rfl) rfl rfl fun a hF=>q_alloc (cs:=[(iV 0),(iV 0)]) hF hS rfl rfl rfl fun a w b23 hF hS=>q_store (vs:=[(iV t_21.1.Num),(iV t_21.1.Den)]) (cs':=[(iV t_21.1.Num),(iV t_21.1.Den)]) 0 0 hF hS sz24 rfl rfl rfl rfl rfl rfl rfl rfl fun a w hF hS=>q_x (v:=(.bool t_21.2)) hF hS (ex_assign rfl) rfl rfl fun a hF=>q_end (n_sq (q_seq (q_seq ?_)))
  obtain ⟨t_24,hj2,hr⟩:=bindS hr
  refine q_join (fun a w=>Fr a 156 [(5,(.pointer (some ⟨b4,0,none⟩))),(6,(iV t_5.1)),(7,(.bool t_5.2)),(10,(iV t_7.1)),(123,(.bool t_24))]∧St [] w0 w m [[⟨b4,[(iV t_3.Num),(iV t_3.Den)],24⟩]]) ?_ ?_
  ·refine q_region (q_x (v:=(.bool t_5.2)) hF hS (ex_move rfl) rfl rfl fun a hF=>q_x (v:=(.bool t_6.2)) hF hS (ex_move rfl) rfl rfl fun a hF=>q_x (v:=(.bool (t_5.2 != t_6.2))) hF hS (ex_bne Tryd.underlying4 rfl rfl) rfl rfl fun a hF=>q_x (v:=(.bool (t_5.2 != t_6.2))) hF hS (ex_move rfl) rfl rfl fun a hF=>?_)
   rcases bcase (t_5.2 != t_6.2) with hc3 | hc3
   ·have hj2:=cond_f hc3 hj2
    refine q_xg (v:=(iV t_5.1)) hF hS (ex_move rfl) (wanted_t hF rfl rfl rfl hc3) rfl fun a hF=>q_xg (v:=(iV t_6.1)) hF hS (ex_move rfl) (wanted_t hF rfl rfl rfl hc3) rfl fun a hF=>q_xg (v:=(.bool (t_5.1 != t_6.1))) hF hS (ex_ibin rfl rfl rfl) (wanted_t hF rfl rfl rfl hc3) rfl fun a hF=>q_x (v:=(.bool (t_5.1 != t_6.1))) hF hS (ex_pick_f rfl rfl hc3) rfl rfl fun a hF=>q_x (v:=(.bool (t_5.1 != t_6.1))) hF hS (ex_move rfl) rfl rfl fun a hF=>?_
    rcases bcase (t_5.1 != t_6.1) with hc4 | hc4
    ·have hj2:=cond_f hc4 hj2
     refine q_xg (v:=(.bool t_7.2)) hF hS (ex_move rfl) (wanted_t hF rfl rfl rfl hc4) rfl fun a hF=>q_xg (v:=(.bool t_8.2)) hF hS (ex_move rfl) (wanted_t hF rfl rfl rfl hc4) rfl fun a hF=>q_xg (v:=(.bool (t_7.2 != t_8.2))) hF hS (ex_bne Tryd.underlying4 rfl rfl) (wanted_t hF rfl rfl rfl hc4) rfl fun a hF=>q_x (v:=(.bool (t_7.2 != t_8.2))) hF hS (ex_pick_f rfl rfl hc4) rfl rfl fun a hF=>q_x (v:=(.bool (t_7.2 != t_8.2))) hF hS (ex_move rfl) rfl rfl fun a hF=>?_
     rcases bcase (t_7.2 != t_8.2) with hc5 | hc5
     ·have hj2:=cond_f hc5 hj2
      refine q_xg (v:=(iV t_7.1)) hF hS (ex_move rfl) (wanted_t hF rfl rfl rfl hc5) rfl fun a hF=>q_xg (v:=(iV t_8.1)) hF hS (ex_move rfl) (wanted_t hF rfl rfl rfl hc5) rfl fun a hF=>q_xg (v:=(.bool (t_7.1 != t_8.1))) hF hS (ex_ibin rfl rfl rfl) (wanted_t hF rfl rfl rfl hc5) rfl fun a hF=>q_x (v:=(.bool (t_7.1 != t_8.1))) hF hS (ex_pick_f rfl rfl hc5) rfl rfl fun a hF=>q_x (v:=(.bool (t_7.1 != t_8.1))) hF hS (ex_move rfl) rfl rfl fun a hF=>?_
      rcases bcase (t_7.1 != t_8.1) with hc6 | hc6
      ·have hj2:=cond_f hc6 hj2
       refine q_xg (v:=(.bool t_11.2)) hF hS (ex_move rfl) (wanted_t hF rfl rfl rfl hc6) rfl fun a hF=>q_xg (v:=(.bool t_13.2)) hF hS (ex_move rfl) (wanted_t hF rfl rfl rfl hc6) rfl fun a hF=>q_xg (v:=(.bool (t_11.2 != t_13.2))) hF hS (ex_bne Tryd.underlying4 rfl rfl) (wanted_t hF rfl rfl rfl hc6) rfl fun a hF=>q_x (v:=(.bool (t_11.2 != t_13.2))) hF hS (ex_pick_f rfl rfl hc6) rfl rfl fun a hF=>q_x (v:=(.bool (t_11.2 != t_13.2))) hF hS (ex_move rfl) rfl rfl fun a hF=>?_
       rcases bcase (t_11.2 != t_13.2) with hc7 | hc7
       ·have hj2:=cond_f hc7 hj2
        refine q_xg (v:=(.agg #[(iV t_11.1.Num),(iV t_11.1.Den)])) hF hS (ex_loadA (vs:=[(iV t_11.1.Num),(iV t_11.1.Den)]) 4 0 Tryd.underlying24 rfl sz24 rfl rfl rfl rfl) (wanted_t hF rfl rfl rfl hc7) rfl fun a hF=>q_xg (v:=(.agg #[(iV t_13.1.Num),(iV t_13.1.Den)])) hF hS (ex_loadA (vs:=[(iV t_13.1.Num),(iV t_13.1.Den)]) 3 0 Tryd.underlying24 rfl sz24 rfl rfl rfl rfl) (wanted_t hF rfl rfl rfl hc7) rfl fun a hF=>q_xg (v:=(.bool (!((t_11.1.Num == t_13.1.Num) && ((t_11.1.Den == t_13.1.Den) && true))))) hF hS (ex_neA (xs:=[(iV t_11.1.Num),(iV t_11.1.Den)]) (ys:=[(iV t_13.1.Num),(iV t_13.1.Den)]) rfl rfl (by kernel_rfl) (eqv_struct (xs:=[(iV t_11.1.Num),(iV t_11.1.Den)]) (ys:=[(iV t_13.1.Num),(iV t_13.1.Den)]) Tryd.underlying24 (by kernel_rfl) (eqf_cons rfl (part_cell Tryd.underlying3 rfl rfl) (part_cell Tryd.underlying3 rfl rfl) (eqv_int Tryd.underlying3) (eqf_cons rfl (part_cell Tryd.underlying3 rfl rfl) (part_cell Tryd.underlying3 rfl rfl) (eqv_int Tryd.underlying3) (eqf_nil))))) (wanted_t hF rfl rfl rfl hc7) rfl fun a hF=>q_x (v:=(.bool (!((t_11.1.Num == t_13.1.Num) && ((t_11.1.Den == t_13.1.Den) && true))))) hF hS (ex_pick_f rfl rfl hc7) rfl rfl fun a hF=>q_x (v:=(.bool (!((t_11.1.Num == t_13.1.Num) && ((t_11.1.Den == t_13.1.Den) && true))))) hF hS (ex_move rfl) rfl rfl fun a hF=>?_
        rcases bcase (!((t_11.1.Num == t_13.1.Num) && ((t_11.1.Den == t_13.1.Den) && true))) with hc8 | hc8
        ·have hj2:=cond_f hc8 hj2
         refine q_xg (v:=(.bool t_18.2)) hF hS (ex_move rfl) (wanted_t hF rfl rfl rfl hc8) rfl fun a hF=>q_xg (v:=(.bool t_21.2)) hF hS (ex_move rfl) (wanted_t hF rfl rfl rfl hc8) rfl fun a hF=>q_xg (v:=(.bool (t_18.2 != t_21.2))) hF hS (ex_bne Tryd.underlying4 rfl rfl) (wanted_t hF rfl rfl rfl hc8) rfl fun a hF=>q_x (v:=(.bool (t_18.2 != t_21.2))) hF hS (ex_pick_f rfl rfl hc8) rfl rfl fun a hF=>q_x (v:=(.bool (t_18.2 != t_21.2))) hF hS (ex_move rfl) rfl rfl fun a hF=>?_
         rcases bcase (t_18.2 != t_21.2) with hc9 | hc9
         ·have hj2:=cond_f hc9 hj2
          refine q_xg (v:=(.agg #[(iV t_18.1.Num),(iV t_18.1.Den)])) hF hS (ex_loadA (vs:=[(iV t_18.1.Num),(iV t_18.1.Den)]) 1 0 Tryd.underlying24 rfl sz24 rfl rfl rfl rfl) (wanted_t hF rfl rfl rfl hc9) rfl fun a hF=>q_xg (v:=(.agg #[(iV t_21.1.Num),(iV t_21.1.Den)])) hF hS (ex_loadA (vs:=[(iV t_21.1.Num),(iV t_21.1.Den)]) 0 0 Tryd.underlying24 rfl sz24 rfl rfl rfl rfl) (wanted_t hF rfl rfl rfl hc9) rfl fun a hF=>q_xg (v:=(.bool (!((t_18.1.Num == t_21.1.Num) && ((t_18.1.Den == t_21.1.Den) && true))))) hF hS (ex_neA (xs:=[(iV t_18.1.Num),(iV t_18.1.Den)]) (ys:=[(iV t_21.1.Num),(iV t_21.1.Den)]) rfl rfl (by kernel_rfl) (eqv_struct (xs:=[(iV t_18.1.Num),(iV t_18.1.Den)]) (ys:=[(iV t_21.1.Num),(iV t_21.1.Den)]) Tryd.underlying24 (by kernel_rfl) (eqf_cons rfl (part_cell Tryd.underlying3 rfl rfl) (part_cell Tryd.underlying3 rfl rfl) (eqv_int Tryd.underlying3) (eqf_cons rfl (part_cell Tryd.underlying3 rfl rfl) (part_cell Tryd.underlying3 rfl rfl) (eqv_int Tryd.underlying3) (eqf_nil))))) (wanted_t hF rfl rfl rfl hc9) rfl fun a hF=>q_x (v:=(.bool (!((t_18.1.Num == t_21.1.Num) && ((t_18.1.Den == t_21.1.Den) && true))))) hF hS (ex_pick_f rfl rfl hc9) rfl rfl fun a hF=>q_end (n_jn ?_)
          obtain rfl:=someI hj2
          exact ⟨hF.sub ⟨rfl,rfl,rfl,rfl,rfl,trivial⟩,hS.mask [false,false,false,false,false,false,true]⟩
         ·have hj2:=cond_t hc9 hj2
          refine q_skip hF (wanted_f hF rfl rfl rfl hc9 rfl) rfl fun a hF=>q_skip hF (wanted_f hF rfl rfl rfl hc9 rfl) rfl fun a hF=>q_skip hF (wanted_f hF rfl rfl rfl hc9 rfl) rfl fun a hF=>q_x (v:=(.bool true)) hF hS (ex_pick_t rfl rfl hc9) rfl rfl fun a hF=>q_end (n_jn ?_)
          obtain rfl:=someI hj2
          exact ⟨hF.sub ⟨rfl,rfl,rfl,rfl,rfl,trivial⟩,hS.mask [false,false,false,false,false,false,true]⟩
        ·have hj2:=cond_t hc8 hj2
         refine q_skip hF (wanted_f hF rfl rfl rfl hc8 rfl) rfl fun a hF=>q_skip hF (wanted_f hF rfl rfl rfl hc8 rfl) rfl fun a hF=>q_skip hF (wanted_f hF rfl rfl rfl hc8 rfl) rfl fun a hF=>q_x (v:=(.bool true)) hF hS (ex_pick_t rfl rfl hc8) rfl rfl fun a hF=>q_x (v:=(.bool true)) hF hS (ex_move rfl) rfl rfl fun a hF=>q_skip hF (wanted_f hF rfl rfl rfl rfl rfl) rfl fun a hF=>q_skip hF (wanted_f hF rfl rfl rfl rfl rfl) rfl fun a hF=>q_skip hF (wanted_f hF rfl rfl rfl rfl rfl) rfl fun a hF=>q_x (v:=(.bool true)) hF hS (ex_pick_t rfl rfl rfl) rfl rfl fun a hF=>q_end (n_jn ?_)
         obtain rfl:=someI hj2
         exact ⟨hF.sub ⟨rfl,rfl,rfl,rfl,rfl,trivial⟩,hS.mask [false,false,false,false,false,false,true]⟩
       ·have hj2:=cond_t hc7 hj2
        refine q_skip hF (wanted_f hF rfl rfl rfl hc7 rfl) rfl fun a hF=>q_skip hF (wanted_f hF rfl rfl rfl hc7 rfl) rfl fun a hF=>q_skip hF (wanted_f hF rfl rfl rfl hc7 rfl) rfl fun a hF=>q_x (v:=(.bool true)) hF hS (ex_pick_t rfl rfl hc7) rfl rfl fun a hF=>q_x (v:=(.bool true)) hF hS (ex_move rfl) rfl rfl fun a hF=>q_skip hF (wanted_f hF rfl rfl rfl rfl rfl) rfl fun a hF=>q_skip hF (wanted_f hF rfl rfl rfl rfl rfl) rfl fun a hF=>q_skip hF (wanted_f hF rfl rfl rfl rfl rfl) rfl fun a hF=>q_x (v:=(.bool true)) hF hS (ex_pick_t rfl rfl rfl) rfl rfl fun a hF=>q_x (v:=(.bool true)) hF hS (ex_move rfl) rfl rfl fun a hF=>q_skip hF (wanted_f hF rfl rfl rfl rfl rfl) rfl fun a hF=>q_skip hF (wanted_f hF rfl rfl rfl rfl rfl) rfl fun a hF=>q_skip hF (wanted_f hF rfl rfl rfl rfl rfl) rfl fun a hF=>q_x (v:=(.bool true)) hF hS (ex_pick_t rfl rfl rfl) rfl rfl fun a hF=>q_end (n_jn ?_)
        obtain rfl:=someI hj2
        exact ⟨hF.sub ⟨rfl,rfl,rfl,rfl,rfl,trivial⟩,hS.mask [false,false,false,false,false,false,true]⟩
      ·have hj2:=cond_t hc6 hj2
       refine q_skip hF (wanted_f hF rfl rfl rfl hc6 rfl) rfl fun a hF=>q_skip hF (wanted_f hF rfl rfl rfl hc6 rfl) rfl fun a hF=>q_skip hF (wanted_f hF rfl rfl rfl hc6 rfl) rfl fun a hF=>q_x (v:=(.bool true)) hF hS (ex_pick_t rfl rfl hc6) rfl rfl fun a hF=>q_x (v:=(.bool true)) hF hS (ex_move rfl) rfl rfl fun a hF=>q_skip hF (wanted_f hF rfl rfl rfl rfl rfl) rfl fun a hF=>q_skip hF (wanted_f hF rfl rfl rfl rfl rfl) rfl fun a hF=>q_skip hF (wanted_f hF rfl rfl rfl rfl rfl) rfl fun a hF=>q_x (v:=(.bool true)) hF hS (ex_pick_t rfl rfl rfl) rfl rfl fun a hF=>q_x (v:=(.bool true)) hF hS (ex_move rfl) rfl rfl fun a hF=>q_skip hF (wanted_f hF rfl rfl rfl rfl rfl) rfl fun a hF=>q_skip hF (wanted_f hF rfl rfl rfl rfl rfl) rfl fun a hF=>q_skip hF (wanted_f hF rfl rfl rfl rfl rfl) rfl fun a hF=>q_x (v:=(.bool true)) hF hS (ex_pick_t rfl rfl rfl) rfl rfl fun a hF=>q_x (v:=(.bool true)) hF hS (ex_move rfl) rfl rfl fun a hF=>q_skip hF (wanted_f hF rfl rfl rfl rfl rfl) rfl fun a hF=>q_skip hF (wanted_f hF rfl rfl rfl rfl rfl) rfl fun a hF=>q_skip hF (wanted_f hF rfl rfl rfl rfl rfl) rfl fun a hF=>q_x (v:=(.bool true)) hF hS (ex_pick_t rfl rfl rfl) rfl rfl fun a hF=>q_end (n_jn ?_)
       obtain rfl:=someI hj2
       exact ⟨hF.sub ⟨rfl,rfl,rfl,rfl,rfl,trivial⟩,hS.mask [false,false,false,false,false,false,true]⟩
     ·have hj2:=cond_t hc5 hj2
      refine q_skip hF (wanted_f hF rfl rfl rfl hc5 rfl) rfl fun a hF=>q_skip hF (wanted_f hF rfl rfl rfl hc5 rfl) rfl fun a hF=>q_skip hF (wanted_f hF rfl rfl rfl hc5 rfl) rfl fun a hF=>q_x (v:=(.bool true)) hF hS (ex_pick_t rfl rfl hc5) rfl rfl fun a hF=>q_x (v:=(.bool true)) hF hS (ex_move rfl) rfl rfl fun a hF=>q_skip hF (wanted_f hF rfl rfl rfl rfl rfl) rfl fun a hF=>q_skip hF (wanted_f hF rfl rfl rfl rfl rfl) rfl fun a hF=>q_skip hF (wanted_f hF rfl rfl rfl rfl rfl) rfl fun a hF=>q_x (v:=(.bool true)) hF hS (ex_pick_t rfl rfl rfl) rfl rfl fun a hF=>q_x (v:=(.bool true)) hF hS (ex_move rfl) rfl rfl fun a hF=>q_skip hF (wanted_f hF rfl rfl rfl rfl rfl) rfl fun a hF=>q_skip hF (wanted_f hF rfl rfl rfl rfl rfl) rfl fun a hF=>q_skip hF (wanted_f hF rfl rfl rfl rfl rfl) rfl fun a hF=>q_x (v:=(.bool true)) hF hS (ex_pick_t rfl rfl rfl) rfl rfl fun a hF=>q_x (v:=(.bool true)) hF hS (ex_move rfl) rfl rfl fun a hF=>q_skip hF (wanted_f hF rfl rfl rfl rfl rfl) rfl fun a hF=>q_skip hF (wanted_f hF rfl rfl rfl rfl rfl) rfl fun a hF=>q_skip hF (wanted_f hF rfl rfl rfl rfl rfl) rfl fun a hF=>q_x (v:=(.bool true)) hF hS (ex_pick_t rfl rfl rfl) rfl rfl fun a hF=>q_x (v:=(.bool true)) hF hS (ex_move rfl) rfl rfl fun a hF=>q_skip hF (wanted_f hF rfl rfl rfl rfl rfl) rfl fun a hF=>q_skip hF (wanted_f hF rfl rfl rfl rfl rfl) rfl fun a hF=>q_skip hF (wanted_f hF rfl rfl rfl rfl rfl) rfl fun a hF=>q_x (v:=(.bool true)) hF hS (ex_pick_t rfl rfl rfl) rfl rfl fun a hF=>q_end (n_jn ?_)
      obtain rfl:=someI hj2
      exact ⟨hF.sub ⟨rfl,rfl,rfl,rfl,rfl,trivial⟩,hS.mask [false,false,false,false,false,false,true]⟩
    ·have hj2:=cond_t hc4 hj2
     refine q_skip hF (wanted_f hF rfl rfl rfl hc4 rfl) rfl fun a hF=>q_skip hF (wanted_f hF rfl rfl rfl hc4 rfl) rfl fun a hF=>q_skip hF (wanted_f hF rfl rfl rfl hc4 rfl) rfl fun a hF=>q_x (v:=(.bool true)) hF hS (ex_pick_t rfl rfl hc4) rfl rfl fun a hF=>q_x (v:=(.bool true)) hF hS (ex_move rfl) rfl rfl fun a hF=>q_skip hF (wanted_f hF rfl rfl rfl rfl rfl) rfl fun a hF=>q_skip hF (wanted_f hF rfl rfl rfl rfl rfl) rfl fun a hF=>q_skip hF (wanted_f hF rfl rfl rfl rfl rfl) rfl fun a hF=>q_x (v:=(.bool true)) hF hS (ex_pick_t rfl rfl rfl) rfl rfl fun a hF=>q_x (v:=(.bool true)) hF hS (ex_move rfl) rfl rfl fun a hF=>q_skip hF (wanted_f hF rfl rfl rfl rfl rfl) rfl fun a hF=>q_skip hF (wanted_f hF rfl rfl rfl rfl rfl) rfl fun a hF=>q_skip hF (wanted_f hF rfl rfl rfl rfl rfl) rfl fun a hF=>q_x (v:=(.bool true)) hF hS (ex_pick_t rfl rfl rfl) rfl rfl fun a hF=>q_x (v:=(.bool true)) hF hS (ex_move rfl) rfl rfl fun a hF=>q_skip hF (wanted_f hF rfl rfl rfl rfl rfl) rfl fun a hF=>q_skip hF (wanted_f hF rfl rfl rfl rfl rfl) rfl fun a hF=>q_skip hF (wanted_f hF rfl rfl rfl rfl rfl) rfl fun a hF=>q_x (v:=(.bool true)) hF hS (ex_pick_t rfl rfl rfl) rfl rfl fun a hF=>q_x (v:=(.bool true)) hF hS (ex_move rfl) rfl rfl fun a hF=>q_skip hF (wanted_f hF rfl rfl rfl rfl rfl) rfl fun a hF=>q_skip hF (wanted_f hF rfl rfl rfl rfl rfl) rfl fun a hF=>q_skip hF (wanted_f hF rfl rfl rfl rfl rfl) rfl fun a hF=>q_x (v:=(.bool true)) hF hS (ex_pick_t rfl rfl rfl) rfl rfl fun a hF=>q_x (v:=(.bool true)) hF hS (ex_move rfl) rfl rfl fun a hF=>?_
     refine q_skip hF (wanted_f hF rfl rfl rfl rfl rfl) rfl fun a hF=>q_skip hF (wanted_f hF rfl rfl rfl rfl rfl) rfl fun a hF=>q_skip hF (wanted_f hF rfl rfl rfl rfl rfl) rfl fun a hF=>q_x (v:=(.bool true)) hF hS (ex_pick_t rfl rfl rfl) rfl rfl fun a hF=>q_end (n_jn ?_)
     obtain rfl:=someI hj2
     exact ⟨hF.sub ⟨rfl,rfl,rfl,rfl,rfl,trivial⟩,hS.mask [false,false,false,false,false,false,true]⟩
   ·have hj2:=cond_t hc3 hj2
    refine q_skip hF (wanted_f hF rfl rfl rfl hc3 rfl) rfl fun a hF=>q_skip hF (wanted_f hF rfl rfl rfl hc3 rfl) rfl fun a hF=>q_skip hF (wanted_f hF rfl rfl rfl hc3 rfl) rfl fun a hF=>q_x (v:=(.bool true)) hF hS (ex_pick_t rfl rfl hc3) rfl rfl fun a hF=>q_x (v:=(.bool true)) hF hS (ex_move rfl) rfl rfl fun a hF=>q_skip hF (wanted_f hF rfl rfl rfl rfl rfl) rfl fun a hF=>q_skip hF (wanted_f hF rfl rfl rfl rfl rfl) rfl fun a hF=>q_skip hF (wanted_f hF rfl rfl rfl rfl rfl) rfl fun a hF=>q_x (v:=(.bool true)) hF hS (ex_pick_t rfl rfl rfl) rfl rfl fun a hF=>q_x (v:=(.bool true)) hF hS (ex_move rfl) rfl rfl fun a hF=>q_skip hF (wanted_f hF rfl rfl rfl rfl rfl) rfl fun a hF=>q_skip hF (wanted_f hF rfl rfl rfl rfl rfl) rfl fun a hF=>q_skip hF (wanted_f hF rfl rfl rfl rfl rfl) rfl fun a hF=>q_x (v:=(.bool true)) hF hS (ex_pick_t rfl rfl rfl) rfl rfl fun a hF=>q_x (v:=(.bool true)) hF hS (ex_move rfl) rfl rfl fun a hF=>q_skip hF (wanted_f hF rfl rfl rfl rfl rfl) rfl fun a hF=>q_skip hF (wanted_f hF rfl rfl rfl rfl rfl) rfl fun a hF=>q_skip hF (wanted_f hF rfl rfl rfl rfl rfl) rfl fun a hF=>q_x (v:=(.bool true)) hF hS (ex_pick_t rfl rfl rfl) rfl rfl fun a hF=>q_x (v:=(.bool true)) hF hS (ex_move rfl) rfl rfl fun a hF=>q_skip hF (wanted_f hF rfl rfl rfl rfl rfl) rfl fun a hF=>q_skip hF (wanted_f hF rfl rfl rfl rfl rfl) rfl fun a hF=>q_skip hF (wanted_f hF rfl rfl rfl rfl rfl) rfl fun a hF=>q_x (v:=(.bool true)) hF hS (ex_pick_t rfl rfl rfl) rfl rfl fun a hF=>q_x (v:=(.bool true)) hF hS (ex_move rfl) rfl rfl fun a hF=>?_
    refine q_skip hF (wanted_f hF rfl rfl rfl rfl rfl) rfl fun a hF=>q_skip hF (wanted_f hF rfl rfl rfl rfl rfl) rfl fun a hF=>q_skip hF (wanted_f hF rfl rfl rfl rfl rfl) rfl fun a hF=>q_x (v:=(.bool true)) hF hS (ex_pick_t rfl rfl rfl) rfl rfl fun a hF=>q_x (v:=(.bool true)) hF hS (ex_move rfl) rfl rfl fun a hF=>q_skip hF (wanted_f hF rfl rfl rfl rfl rfl) rfl fun a hF=>q_skip hF (wanted_f hF rfl rfl rfl rfl rfl) rfl fun a hF=>q_skip hF (wanted_f hF rfl rfl rfl rfl rfl) rfl fun a hF=>q_x (v:=(.bool true)) hF hS (ex_pick_t rfl rfl rfl) rfl rfl fun a hF=>q_end (n_jn ?_)
    obtain rfl:=someI hj2
    exact ⟨hF.sub ⟨rfl,rfl,rfl,rfl,rfl,trivial⟩,hS.mask [false,false,false,false,false,false,true]⟩
  ·rintro a w ⟨hF,hS⟩
   refine n_sq ?_
   rcases bcase (t_24) with hc10 | hc10
   ·have hr:=cond_f hc10 hr
    refine q_cond_f hF rfl hc10 (q_skipc (n_sq (q_seq (q_seq (q_region (q_x (v:=(.bool t_5.2)) hF hS (ex_move rfl) rfl rfl fun a hF=>q_x (v:=(.bool (!t_5.2))) hF hS (ex_not rfl) rfl rfl fun a hF=>q_end (n_sq ?_)))))))
    rcases bcase (!t_5.2) with hc11 | hc11
    ·have hr:=cond_f hc11 hr
     refine q_cond_f hF rfl hc11 (q_skipc (n_sq (q_seq (q_region (q_x (v:=(.agg #[(iV t_3.Num),(iV t_3.Den)])) hF hS (ex_loadA (vs:=[(iV t_3.Num),(iV t_3.Den)]) 0 0 Tryd.underlying24 rfl sz24 rfl rfl rfl rfl) rfl rfl fun a hF=>?_)))))
     obtain ⟨t_25,ht_25,hr⟩:=bindS hr
     refine q_call (vs:=[(.agg #[(iV t_3.Num),(iV t_3.Den)])]) hF hS Tryd.func17 (by kernel_rfl) rfl rfl rfl (c_impl_FracText t_3 t_25 ht_25 _ m hS.vis ht) ?_
     rintro a w _ rfl hF hS
     refine q_x (v:=(.tuple #[(strV t_25.1),(.bool t_25.2)])) hF hS (ex_move rfl) rfl rfl fun a hF=>q_x (v:=(strV t_25.1)) hF hS (ex_extract rfl rfl) rfl rfl fun a hF=>q_x (v:=(.bool t_25.2)) hF hS (ex_extract rfl rfl) rfl rfl fun a hF=>q_x (v:=(strV t_25.1)) hF hS (ex_assign rfl) rfl rfl fun a hF=>q_x (v:=(.bool t_25.2)) hF hS (ex_assign rfl) rfl rfl fun a hF=>q_end (n_sq (q_seq (q_region (q_x (v:=(strV t_25.1)) hF hS (ex_move rfl) rfl rfl fun a hF=>?_))))
     obtain ⟨t_26,ht_26,hr⟩:=bindS hr
     refine q_call (vs:=[(strV t_25.1)]) hF hS Tryd.func18 (by kernel_rfl) rfl rfl rfl (c_impl_ParseFrac t_25.1 t_26 ht_26 _ m hS.vis) ?_
     rintro a w _ rfl hF hS
     refine q_x (v:=(.tuple #[(.agg #[(iV t_26.1.Num),(iV t_26.1.Den)]),(.bool t_26.2)])) hF hS (ex_move rfl) rfl rfl fun a hF=>q_x (v:=(.agg #[(iV t_26.1.Num),(iV t_26.1.Den)])) hF hS (ex_extract rfl rfl) rfl rfl fun a hF=>q_x (v:=(.bool t_26.2)) hF hS (ex_extract rfl rfl) rfl rfl fun a hF=>q_alloc (cs:=[(iV 0),(iV 0)]) hF hS rfl rfl rfl fun a w b27 hF hS=>q_store (vs:=[(iV t_26.1.Num),(iV t_26.1.Den)]) (cs':=[(iV t_26.1.Num),(iV t_26.1.Den)]) 0 0 hF hS sz24 rfl rfl rfl rfl rfl rfl rfl rfl fun a w hF hS=>q_x (v:=(.bool t_26.2)) hF hS (ex_assign rfl) rfl rfl fun a hF=>q_end (n_sq (q_seq ?_))
     obtain ⟨t_28,hj12,hr⟩:=bindS hr
     refine q_join (fun a w=>Fr a 156 [(4,(.bool t_28))]∧St [] w0 w m []) ?_ ?_
     ·refine q_region (q_x (v:=(.bool t_25.2)) hF hS (ex_move rfl) rfl rfl fun a hF=>q_x (v:=(.bool t_25.2)) hF hS (ex_move rfl) rfl rfl fun a hF=>?_)
      rcases bcase (t_25.2) with hc13 | hc13
      ·have hj12:=cond_f hc13 hj12
       refine q_skip hF (wanted_f hF rfl rfl rfl hc13 rfl) rfl fun a hF=>q_x (v:=(.bool false)) hF hS (ex_pick_f rfl rfl hc13) rfl rfl fun a hF=>q_x (v:=(.bool false)) hF hS (ex_move rfl) rfl rfl fun a hF=>q_skip hF (wanted_f hF rfl rfl rfl rfl rfl) rfl fun a hF=>q_skip hF (wanted_f hF rfl rfl rfl rfl rfl) rfl fun a hF=>q_skip hF (wanted_f hF rfl rfl rfl rfl rfl) rfl fun a hF=>q_x (v:=(.bool false)) hF hS (ex_pick_f rfl rfl rfl) rfl rfl fun a hF=>q_x (v:=(.bool false)) hF hS (ex_move rfl) rfl rfl fun a hF=>q_skip hF (wanted_f hF rfl rfl rfl rfl rfl) rfl fun a hF=>q_skip hF (wanted_f hF rfl rfl rfl rfl rfl) rfl fun a hF=>q_skip hF (wanted_f hF rfl rfl rfl rfl rfl) rfl fun a hF=>q_skip hF (wanted_f hF rfl rfl rfl rfl rfl) rfl fun a hF=>q_skip hF (wanted_u hF rfl rfl rfl) rfl fun a hF=>q_skip hF (wanted_u hF rfl rfl rfl) rfl fun a hF=>q_skip hF (wanted_u hF rfl rfl rfl) rfl fun a hF=>q_skip hF (wanted_u hF rfl rfl rfl) rfl fun a hF=>q_skip hF (wanted_f hF rfl rfl rfl rfl rfl) rfl fun a hF=>q_x (v:=(.bool false)) hF hS (ex_pick_f rfl rfl rfl) rfl rfl fun a hF=>q_x (v:=(.bool false)) hF hS (ex_assign rfl) rfl rfl fun a hF=>q_end (n_jn ?_)
       obtain rfl:=someI hj12
       exact ⟨hF.sub ⟨rfl,trivial⟩,hS.mask [false,false]⟩
      ·have hj12:=cond_t hc13 hj12
       refine q_xg (v:=(.bool t_26.2)) hF hS (ex_move rfl) (wanted_t hF rfl rfl rfl hc13) rfl fun a hF=>q_x (v:=(.bool t_26.2)) hF hS (ex_pick_t rfl rfl hc13) rfl rfl fun a hF=>q_x (v:=(.bool t_26.2)) hF hS (ex_move rfl) rfl rfl fun a hF=>?_
       rcases bcase (t_26.2) with hc14 | hc14
       ·have hj12:=cond_f hc14 hj12
        refine q_skip hF (wanted_f hF rfl rfl rfl hc14 rfl) rfl fun a hF=>q_skip hF (wanted_f hF rfl rfl rfl hc14 rfl) rfl fun a hF=>q_skip hF (wanted_f hF rfl rfl rfl hc14 rfl) rfl fun a hF=>q_x (v:=(.bool false)) hF hS (ex_pick_f rfl rfl hc14) rfl rfl fun a hF=>q_x (v:=(.bool false)) hF hS (ex_move rfl) rfl rfl fun a hF=>q_skip hF (wanted_f hF rfl rfl rfl rfl rfl) rfl fun a hF=>q_skip hF (wanted_f hF rfl rfl rfl rfl rfl) rfl fun a hF=>q_skip hF (wanted_f hF rfl rfl rfl rfl rfl) rfl fun a hF=>q_skip hF (wanted_f hF rfl rfl rfl rfl rfl) rfl fun a hF=>q_skip hF (wanted_u hF rfl rfl rfl) rfl fun a hF=>q_skip hF (wanted_u hF rfl rfl rfl) rfl fun a hF=>q_skip hF (wanted_u hF rfl rfl rfl) rfl fun a hF=>q_skip hF (wanted_u hF rfl rfl rfl) rfl fun a hF=>q_skip hF (wanted_f hF rfl rfl rfl rfl rfl) rfl fun a hF=>q_x (v:=(.bool false)) hF hS (ex_pick_f rfl rfl rfl) rfl rfl fun a hF=>q_x (v:=(.bool false)) hF hS (ex_assign rfl) rfl rfl fun a hF=>q_end (n_jn ?_)
        obtain rfl:=someI hj12
        exact ⟨hF.sub ⟨rfl,trivial⟩,hS.mask [false,false]⟩
       ·have hj12:=cond_t hc14 hj12
        refine q_xg (v:=(.agg #[(iV t_26.1.Num),(iV t_26.1.Den)])) hF hS (ex_loadA (vs:=[(iV t_26.1.Num),(iV t_26.1.Den)]) 0 0 Tryd.underlying24 rfl sz24 rfl rfl rfl rfl) (wanted_t hF rfl rfl rfl hc14) rfl fun a hF=>q_xg (v:=(.agg #[(iV t_3.Num),(iV t_3.Den)])) hF hS (ex_loadA (vs:=[(iV t_3.Num),(iV t_3.Den)]) 1 0 Tryd.underlying24 rfl sz24 rfl rfl rfl rfl) (wanted_t hF rfl rfl rfl hc14) rfl fun a hF=>q_xg (v:=(.bool ((t_26.1.Num == t_3.Num) && ((t_26.1.Den == t_3.Den) && true)))) hF hS (ex_eqA (xs:=[(iV t_26.1.Num),(iV t_26.1.Den)]) (ys:=[(iV t_3.Num),(iV t_3.Den)]) rfl rfl (by kernel_rfl) (eqv_struct (xs:=[(iV t_26.1.Num),(iV t_26.1.Den)]) (ys:=[(iV t_3.Num),(iV t_3.Den)]) Tryd.underlying24 (by kernel_rfl) (eqf_cons rfl (part_cell Tryd.underlying3 rfl rfl) (part_cell Tryd.underlying3 rfl rfl) (eqv_int Tryd.underlying3) (eqf_cons rfl (part_cell Tryd.underlying3 rfl rfl) (part_cell Tryd.underlying3 rfl rfl) (eqv_int Tryd.underlying3) (eqf_nil))))) (wanted_t hF rfl rfl rfl hc14) rfl fun a hF=>q_x (v:=(.bool ((t_26.1.Num == t_3.Num) && ((t_26.1.Den == t_3.Den) && true)))) hF hS (ex_pick_t rfl rfl hc14) rfl rfl fun a hF=>q_x (v:=(.bool ((t_26.1.Num == t_3.Num) && ((t_26.1.Den == t_3.Den) && true)))) hF hS (ex_move rfl) rfl rfl fun a hF=>?_
        rcases bcase ((t_26.1.Num == t_3.Num) && ((t_26.1.Den == t_3.Den) && true)) with hc15 | hc15
        ·have hj12:=cond_f hc15 hj12
         refine q_skip hF (wanted_f hF rfl rfl rfl hc15 rfl) rfl fun a hF=>q_skip hF (wanted_f hF rfl rfl rfl hc15 rfl) rfl fun a hF=>q_skip hF (wanted_f hF rfl rfl rfl hc15 rfl) rfl fun a hF=>q_skip hF (wanted_f hF rfl rfl rfl hc15 rfl) rfl fun a hF=>q_skip hF (wanted_u hF rfl rfl rfl) rfl fun a hF=>q_skip hF (wanted_u hF rfl rfl rfl) rfl fun a hF=>q_skip hF (wanted_u hF rfl rfl rfl) rfl fun a hF=>q_skip hF (wanted_u hF rfl rfl rfl) rfl fun a hF=>q_skip hF (wanted_f hF rfl rfl rfl hc15 rfl) rfl fun a hF=>q_x (v:=(.bool false)) hF hS (ex_pick_f rfl rfl hc15) rfl rfl fun a hF=>q_x (v:=(.bool false)) hF hS (ex_assign rfl) rfl rfl fun a hF=>q_end (n_jn ?_)
         obtain rfl:=someI hj12
         exact ⟨hF.sub ⟨rfl,trivial⟩,hS.mask [false,false]⟩
        ·have hj12:=cond_t hc15 hj12
         refine q_xg (v:=(iV t_5.1)) hF hS (ex_move rfl) (wanted_t hF rfl rfl rfl hc15) rfl fun a hF=>q_xg (v:=(iV t_7.1)) hF hS (ex_move rfl) (wanted_t hF rfl rfl rfl hc15) rfl fun a hF=>q_xg (v:=(.bool (t_5.1 == t_7.1))) hF hS (ex_ibin rfl rfl rfl) (wanted_t hF rfl rfl rfl hc15) rfl fun a hF=>q_xg (v:=(.bool (t_5.1 == t_7.1))) hF hS (ex_move rfl) (wanted_t hF rfl rfl rfl hc15) rfl fun a hF=>?_
         rcases bcase (t_5.1 == t_7.1) with hc16 | hc16
         ·have hj12:=cond_f hc16 hj12
          refine q_xg (v:=(iV t_5.1)) hF hS (ex_move rfl) (wanted_t hF rfl rfl rfl hc16) rfl fun a hF=>q_xg (v:=(iV t_7.1)) hF hS (ex_move rfl) (wanted_t hF rfl rfl rfl hc16) rfl fun a hF=>q_xg (v:=(iV (w64 (t_7.1 + 1)))) hF hS (ex_ibin rfl rfl rfl) (wanted_t hF rfl rfl rfl hc16) rfl fun a hF=>q_xg (v:=(.bool (t_5.1 == (w64 (t_7.1 + 1))))) hF hS (ex_ibin rfl rfl rfl) (wanted_t hF rfl rfl rfl hc16) rfl fun a hF=>q_xg (v:=(.bool (t_5.1 == (w64 (t_7.1 + 1))))) hF hS (ex_pick_f rfl rfl hc16) (wanted_t hF rfl rfl rfl hc15) rfl fun a hF=>q_x (v:=(.bool (t_5.1 == (w64 (t_7.1 + 1))))) hF hS (ex_pick_t rfl rfl hc15) rfl rfl fun a hF=>q_x (v:=(.bool (t_5.1 == (w64 (t_7.1 + 1))))) hF hS (ex_assign rfl) rfl rfl fun a hF=>q_end (n_jn ?_)
          obtain rfl:=someI hj12
          exact ⟨hF.sub ⟨rfl,trivial⟩,hS.mask [false,false]⟩
         ·have hj12:=cond_t hc16 hj12
          refine q_skip hF (wanted_f hF rfl rfl rfl hc16 rfl) rfl fun a hF=>q_skip hF (wanted_f hF rfl rfl rfl hc16 rfl) rfl fun a hF=>q_skip hF (wanted_f hF rfl rfl rfl hc16 rfl) rfl fun a hF=>q_skip hF (wanted_f hF rfl rfl rfl hc16 rfl) rfl fun a hF=>q_xg (v:=(.bool true)) hF hS (ex_pick_t rfl rfl hc16) (wanted_t hF rfl rfl rfl hc15) rfl fun a hF=>q_x (v:=(.bool true)) hF hS (ex_pick_t rfl rfl hc15) rfl rfl fun a hF=>q_x (v:=(.bool true)) hF hS (ex_assign rfl) rfl rfl fun a hF=>q_end (n_jn ?_)
          obtain rfl:=someI hj12
          exact ⟨hF.sub ⟨rfl,trivial⟩,hS.mask [false,false]⟩
     ·rintro a w ⟨hF,hS⟩
      refine n_sq (q_ret ?_)
      obtain rfl:=someI hr
      exact ret_of hF hS rfl (.tmp rfl .nil) rfl
    ·have hr:=cond_t hc11 hr
     refine q_cond_t hF rfl hc11 (q_seq (q_region (q_x (v:=(.bool true)) hF hS (ex_assign rfl) rfl rfl fun a hF=>q_end (n_sq (q_ret (r_sq ?_))))))
     obtain rfl:=someI hr
     exact ret_of hF hS rfl (.tmp rfl .nil) rfl
   ·have hr:=cond_t hc10 hr
    refine q_cond_t hF rfl hc10 (q_seq (q_region (q_x (v:=(.bool false)) hF hS (ex_assign rfl) rfl rfl fun a hF=>q_end (n_sq (q_ret (r_sq ?_))))))
    obtain rfl:=someI hr
    exact ret_of hF hS rfl (.tmp rfl .nil) rfl
 ·have hr:=cond_t hc1 hr
  refine q_cond_t hF rfl hc1 (q_seq (q_region (q_x (v:=(.bool true)) hF hS (ex_assign rfl) rfl rfl fun a hF=>q_end (n_sq (q_ret (r_sq ?_))))))
  obtain rfl:=someI hr
  exact ret_of hF hS rfl (.tmp rfl .nil) rfl

end Go.Proofs.YtgaeknajcakinaaDoor
