/- The walks of the functions: each returns what its plain function says. -/
import Derived.Test.YtnmimeojimfogaaGreatDoorPWalks2
namespace Go.Proofs.YtnmimeojimfogaaGreatDoor
open Go.Gx Go.Gx.F Go.RowKit
set_option linter.all false
set_option maxRecDepth 10000


theorem cB_spec_l1Num (rcf : Int → Option ((List UInt8))) (ih : ∀ (p_n : Int) (r : (List UInt8)) (hr : rcf p_n = some r) (w0 : World) (m : Mem) (hv : Vis m w0),
  Ret Tryz.prog 77 [(iV p_n)] w0 (fun v _=>v = (strV r))) :
  ∀ (p_n : Int) (r : (List UInt8)) (hr : spec_l1Num_B rcf p_n = some r) (w0 : World) (m : Mem) (hv : Vis m w0),
  Ret Tryz.prog 77 [(iV p_n)] w0 (fun v _=>v = (strV r)):=by
 intro p_n r hr w0 m hv
 unfold spec_l1Num_B at hr
 refine ret_start Tryz.func77 rfl 20 rfl rfl m hv fun a hF hS=>q_sr (q_s hF rfl fun a hF=>q_end (n_sq (q_seq (q_sr (q_m hF rfl fun a hF=>q_y (v:=(.bool (decide (p_n < 10)))) hF hS (ex_ibin rfl rfl rfl) fun a hF=>q_end (n_sq ?_))))))
 rcases bcase (decide (p_n < 10)) with hc1 | hc1
 ·have hr:=cond_f hc1 hr
  refine q_cond_f hF rfl hc1 (q_skipc (n_sq (q_seq ?_)))
  obtain ⟨t_12,hj2,hr⟩:=bindS hr
  refine q_join (fun a w=>Fr a 20 [(2,(strV t_12))]∧St [] w0 w m []) ?_ ?_
  ·refine e_region ⟨[],[]⟩ mixed fun w' hw'=>?_
   have hS:=hS.below hw'
   refine e_P (v:=(iV p_n)) 0 hF rfl (ex_move rfl) fun a hF=>?_
   obtain ⟨t_1,ht_1,hj2⟩:=bindS hj2
   refine e_P (v:=(iV t_1)) 1 hF rfl (ex_quo rfl rfl ht_1) fun a hF=>e_P (v:=(iV p_n)) 3 hF rfl (ex_move rfl) fun a hF=>?_
   obtain ⟨t_4,ht_4,hj2⟩:=bindS hj2
   refine e_P (v:=(iV t_4)) 4 hF rfl (ex_rem rfl rfl ht_4) fun a hF=>e_P (v:=(iV (w64 (48 + t_4)))) 5 hF rfl (ex_ibin rfl rfl rfl) fun a hF=>e_P (v:=(.int .u8 (IntKind.wrap .u8 (w64 (48 + t_4))))) 6 hF rfl (ex_conv U3 U5 rfl) fun a hF=>?_
   obtain ⟨t_9,ht_9,hj2⟩:=bindS hj2
   obtain ⟨t_11,ht_11,hj2⟩:=bindS hj2
   refine e_all [2,7] (by kernel_rfl) rfl ⟨?_,?_,trivial⟩
   ·refine e_call (vs:=[(iV t_1)]) hF hS rfl Tryz.func77 (by kernel_rfl) rfl rfl rfl (ih t_1 t_9 ht_9 _ m hS.vis) ?_
    rintro a w _ rfl hF hS
    refine e_one 7 (by kernel_rfl) (e_op rfl rfl fun _ hK=>wp_buildSlice' (l:=([(⟨(IntKind.wrap .u8 (w64 (48 + t_4)))⟩ : K .u8)] : List (K .u8))) (cells:=[(.int .u8 (IntKind.wrap .u8 (w64 (48 + t_4))))]) hF hS U22 inf5 rfl rfl (by kernel_rfl) rfl rfl rfl ⟨rfl,rfl⟩ rfl rfl fun a w q10 s10 hF hS h10 hb=>hK _ _ hb (e_X (v:=(strV (goBytes ([(⟨(IntKind.wrap .u8 (w64 (48 + t_4)))⟩ : K .u8)] : List (K .u8))))) 8 hF hS rfl (ex_toStr U22 U5 U9 rfl (fun X w0 w hS=>h10.vw hS (j:=0) rfl)) fun a hF=>e_P (v:=(strV t_11)) 9 hF rfl (ex_strCat rfl rfl ht_11) fun a hF=>e_P (v:=(strV t_11)) 10 hF rfl (ex_assign rfl) fun a hF=>e_end (by kernel_rfl) (n_jn ?_) _))
    obtain rfl:=someI hj2
    exact ⟨hF.sub ⟨rfl,trivial⟩,hS.mask [false]⟩
   ·refine e_op rfl rfl fun _ hK=>wp_buildSlice' (l:=([(⟨(IntKind.wrap .u8 (w64 (48 + t_4)))⟩ : K .u8)] : List (K .u8))) (cells:=[(.int .u8 (IntKind.wrap .u8 (w64 (48 + t_4))))]) hF hS U22 inf5 rfl rfl (by kernel_rfl) rfl rfl rfl ⟨rfl,rfl⟩ rfl rfl fun a w q10 s10 hF hS h10 hb=>hK _ _ hb (e_X (v:=(strV (goBytes ([(⟨(IntKind.wrap .u8 (w64 (48 + t_4)))⟩ : K .u8)] : List (K .u8))))) 8 hF hS rfl (ex_toStr U22 U5 U9 rfl (fun X w0 w hS=>h10.vw hS (j:=0) rfl)) fun a hF=>e_one 2 (by kernel_rfl) (e_call (vs:=[(iV t_1)]) hF hS rfl Tryz.func77 (by kernel_rfl) rfl rfl rfl (ih t_1 t_9 ht_9 _ m hS.vis) ?_))
    rintro a w _ rfl hF hS
    refine e_P (v:=(strV t_11)) 9 hF rfl (ex_strCat rfl rfl ht_11) fun a hF=>e_P (v:=(strV t_11)) 10 hF rfl (ex_assign rfl) fun a hF=>e_end (by kernel_rfl) (n_jn ?_) _
    obtain rfl:=someI hj2
    exact ⟨hF.sub ⟨rfl,trivial⟩,hS.mask [false]⟩
  ·rintro a w ⟨hF,hS⟩
   refine n_sq (q_ret ?_)
   obtain rfl:=someI hr
   exact ret_of hF hS rfl (.tmp rfl .nil) rfl
 ·have hr:=cond_t hc1 hr
  refine q_cond_t hF rfl hc1 (q_sr (q_m hF rfl fun a hF=>q_y (v:=(iV (w64 (48 + p_n)))) hF hS (ex_ibin rfl rfl rfl) fun a hF=>q_y (v:=(.int .u8 (IntKind.wrap .u8 (w64 (48 + p_n))))) hF hS (ex_conv U3 U5 rfl) fun a hF=>q_do rfl fun _ hK=>wp_buildSlice' (l:=([(⟨(IntKind.wrap .u8 (w64 (48 + p_n)))⟩ : K .u8)] : List (K .u8))) (cells:=[(.int .u8 (IntKind.wrap .u8 (w64 (48 + p_n))))]) hF hS U22 inf5 rfl rfl (by kernel_rfl) rfl rfl rfl ⟨rfl,rfl⟩ rfl rfl fun a w q13 s13 hF hS h13 _=>hK _ _ (q_y (v:=(strV (goBytes ([(⟨(IntKind.wrap .u8 (w64 (48 + p_n)))⟩ : K .u8)] : List (K .u8))))) hF hS (ex_toStr U22 U5 U9 rfl (fun X w0 w hS=>h13.vw hS (j:=0) rfl)) fun a hF=>q_s hF rfl fun a hF=>q_end (n_sq (q_ret (r_sq ?_))))))
  obtain rfl:=someI hr
  exact ret_of hF hS rfl (.tmp rfl .nil) rfl

theorem ck_spec_l1Num : ∀ (k : Nat),∀ (p_n : Int) (r : (List UInt8)) (hr : spec_l1Num_k k p_n = some r) (w0 : World) (m : Mem) (hv : Vis m w0),
  Ret Tryz.prog 77 [(iV p_n)] w0 (fun v _=>v = (strV r))
 | 0=>fun _ _ hr=>by cases hr
 | k + 1=>cB_spec_l1Num _ (ck_spec_l1Num k)

theorem c_spec_l1Num : ∀ (p_n : Int) (r : (List UInt8)) (hr : spec_l1Num p_n = some r) (w0 : World) (m : Mem) (hv : Vis m w0),
  Ret Tryz.prog 77 [(iV p_n)] w0 (fun v _=>v = (strV r)):=by
 intro p_n r hr
 obtain ⟨k,hk⟩:=recO_run hr
 exact ck_spec_l1Num k p_n r hk

theorem c_spec_nNames (p_s : List impl_Variable) (p_vars : List Int) (r : (List UInt8)) (hr : spec_nNames p_s p_vars = some r) (w0 : World) (m : Mem) (hv : Vis m w0) (s1 : Sl) (h1 : Rd m s1 p_s) (s2 : Sl) (h2 : Rd m s2 p_vars) :
  Ret Tryz.prog 78 [s1.v,s2.v] w0 (fun v _=>v = (strV r)):=by
 unfold spec_nNames at hr
 refine ret_start Tryz.func78 rfl 28 rfl rfl m hv fun a hF hS=>q_sr (q_s hF rfl fun a hF=>q_end (n_sq (q_sr (q_s hF rfl fun a hF=>q_end (n_sq (q_seq (q_sr (q_m hF rfl fun a hF=>q_y (v:=(iV (goLen p_vars))) hF hS (ex_len U24 rfl h2.len) fun a hF=>q_m hF rfl fun a hF=>q_end (n_sq (q_block ?_))))))))))
 obtain ⟨out_12,hl1,hr⟩:=bindS hr
 refine q_loop (fun (s : (List UInt8) × Int) a w=>∃ out_3,∃ t_4,s = (out_3,t_4)∧Fr a 28 [(0,s1.v),(5,(strV out_3)),(8,s2.v),(9,(iV (goLen p_vars))),(10,(iV t_4))]∧St [] w0 w m []) (fun (out_12 : (List UInt8)) e a w=>e = .exit 0∧Fr a 28 [(5,(strV out_12))]∧St [] w0 w m []) hl1 ⟨_,_,rfl,hF.sub ⟨rfl,rfl,rfl,rfl,rfl,trivial⟩,hS⟩ ?_ ?_
 ·clear hF hS
  rintro s a w st ⟨out_3,t_4,rfl,hF,hS⟩ hb1
  unfold spec_nNames_l1 at hb1
  refine q_sr (q_y (v:=(.bool (decide (t_4 < (goLen p_vars))))) hF hS (ex_ibin rfl rfl rfl) fun a hF=>q_end (n_sq (q_seq ?_)))
  rcases bcase (decide (t_4 < (goLen p_vars))) with hc2 | hc2
  ·have hb1:=cond_f hc2 hb1
   refine q_cond_f hF rfl hc2 (q_exit (x_sq ?_))
   obtain rfl:=someI hb1
   exact ⟨nofun,.inl ⟨rfl,hF.sub ⟨rfl,trivial⟩,hS⟩⟩
  ·have hb1:=cond_t hc2 hb1
   refine q_cond_t hF rfl hc2 (q_skipc (n_sq (q_seq (q_block (q_sr (q_m hF rfl fun a hF=>?_))))))
   obtain ⟨e_5,he_5,hb1⟩:=bindS hb1
   obtain ⟨vs6,at6,d6⟩:=h2.at he_5 1 rfl
   obtain rfl : vs6 = [(iV e_5)]:=d6
   refine q_y (v:=(elP s2 (t_4.toNat * 1))) hF hS (ex_indexAddr U24 sz3 rfl rfl (h2.idx he_5)) fun a hF=>q_y (v:=(iV e_5)) hF hS (ex_loadE1 0 U3 rfl rfl ((at6).at) rfl rfl) fun a hF=>q_s hF rfl fun a hF=>q_s hF rfl fun a hF=>q_end (n_sq (q_seq (q_sr (q_m hF rfl fun a hF=>q_y (v:=(.bool (decide (0 < t_4)))) hF hS (ex_ibin rfl rfl rfl) fun a hF=>q_end (n_sq ?_)))))
   obtain ⟨out_8,hj3,hb1⟩:=bindS hb1
   refine q_join (fun a w=>Fr a 28 [(0,s1.v),(5,(strV out_8)),(7,(iV e_5)),(8,s2.v),(9,(iV (goLen p_vars))),(10,(iV t_4))]∧St [] w0 w m []) ?_ ?_
   ·rcases bcase (decide (0 < t_4)) with hc4 | hc4
    ·have hj3:=cond_f hc4 hj3
     refine q_cond_f hF rfl hc4 (q_skipc (n_jn ?_))
     obtain rfl:=someI hj3
     exact ⟨hF.sub ⟨rfl,rfl,rfl,rfl,rfl,rfl,trivial⟩,hS⟩
    ·have hj3:=cond_t hc4 hj3
     refine q_cond_t hF rfl hc4 (q_region (q_m hF rfl fun a hF=>?_))
     obtain ⟨t_7,ht_7,hj3⟩:=bindS hj3
     refine q_y (v:=(strV t_7)) hF hS (ex_strCat rfl rfl ht_7) fun a hF=>q_s hF rfl fun a hF=>q_end (n_jn ?_)
     obtain rfl:=someI hj3
     exact ⟨hF.sub ⟨rfl,rfl,rfl,rfl,rfl,rfl,trivial⟩,hS⟩
   ·rintro a w ⟨hF,hS⟩
    refine n_sq ?_
    refine q_region (q_m hF rfl fun a hF=>q_m hF rfl fun a hF=>q_m hF rfl fun a hF=>?_)
    obtain ⟨e_9,he_9,hb1⟩:=bindS hb1
    obtain ⟨vs10,at10,d10⟩:=h1.at he_9 2 rfl
    obtain rfl : vs10 = [(strV e_9.Name),(iV e_9.Levels)]:=d10
    refine q_y (v:=(elP s1 (e_5.toNat * 2))) hF hS (ex_indexAddr U27 sz95 rfl rfl (h1.idx he_9)) fun a hF=>q_y (v:=(elP s1 (e_5.toNat * 2 + 0))) hF hS (ex_fieldAddrE U95 rfl sz9 rfl (h1.idx he_9) rfl) fun a hF=>q_y (v:=(strV e_9.Name)) hF hS (ex_loadE1 0 U9 rfl rfl ((at10).at) rfl rfl) fun a hF=>?_
    obtain ⟨t_11,ht_11,hb1⟩:=bindS hb1
    refine q_y (v:=(strV t_11)) hF hS (ex_strCat rfl rfl ht_11) fun a hF=>q_s hF rfl fun a hF=>q_end (n_ib (n_sq (q_region (q_y (v:=(iV (w64 (t_4 + 1)))) hF hS (ex_ibin rfl rfl rfl) fun a hF=>q_m hF rfl fun a hF=>q_end ?_))))
    obtain rfl:=someI hb1
    exact ⟨rfl,_,_,rfl,hF.sub ⟨rfl,rfl,rfl,rfl,rfl,trivial⟩,hS⟩
 ·rintro e a w ⟨rfl,hF,hS⟩
  refine x_ib (n_sq ?_)
  refine q_sr (q_m hF rfl fun a hF=>q_s hF rfl fun a hF=>q_end (n_sq (q_ret ?_)))
  obtain rfl:=someI hr
  exact ret_of hF hS rfl (.tmp rfl .nil) rfl

theorem c_spec_eLevels (p_set : Int) (r : (List Int)) (hr : spec_eLevels p_set = some r) (w0 : World) (m : Mem) (hv : Vis m w0) :
  Ret Tryz.prog 79 [(iV p_set)] w0 (fun v w=>∃ (q0' : Piece) (s0' : Sl),v = s0'.v∧St [] w0 w m [q0']∧OwnL m 3 q0' s0' r):=by
 unfold spec_eLevels at hr
 refine ret_start Tryz.func79 rfl 23 rfl rfl m hv fun a hF hS=>q_sr (q_s hF rfl fun a hF=>q_end (n_sq (q_sr (q_s hF rfl fun a hF=>q_end (n_sq (q_seq (q_sr (q_s hF rfl fun a hF=>q_end (n_sq (q_block ?_))))))))))
 obtain ⟨out_11,hl1,hr⟩:=bindS hr
 refine q_loop (fun (s : (List Int) × Int) a w=>∃ (q2 : Piece),∃ (s2 : Sl),∃ out_1,∃ x_3,s = (out_1,x_3)∧Fr a 23 [(0,(iV p_set)),(3,s2.v),(4,(iV x_3))]∧St [] w0 w m [q2]∧OwnL m 3 q2 s2 out_1) (fun (out_11 : (List Int)) e a w=>∃ (q12 : Piece),∃ (s12 : Sl),e = .exit 0∧Fr a 23 [(3,s12.v)]∧St [] w0 w m [q12]∧OwnL m 3 q12 s12 out_11) hl1 ⟨[],nilS,_,_,rfl,hF.sub ⟨rfl,rfl,rfl,trivial⟩,hS.sel [0] (by decide),(OwnL.nil (α:=Int) m 3)⟩ ?_ ?_
 ·clear hF hS
  rintro s a w st ⟨q2,s2,out_1,x_3,rfl,hF,hS,h2⟩ hb1
  unfold spec_eLevels_l1 at hb1
  refine q_seq (q_sr (q_m hF rfl fun a hF=>q_m hF rfl fun a hF=>q_y (v:=(.int .u64 (IntKind.wrap .u64 x_3))) hF hS (ex_conv U3 U137 rfl) fun a hF=>?_))
  obtain ⟨t_4,ht_4,hb1⟩:=bindS hb1
  refine q_y (v:=(iV t_4)) hF hS (ex_shr rfl rfl ht_4) fun a hF=>q_y (v:=(.bool (decide (0 < t_4)))) hF hS (ex_ibin rfl rfl rfl) fun a hF=>q_end (n_sq ?_)
  rcases bcase (decide (0 < t_4)) with hc2 | hc2
  ·have hb1:=cond_f hc2 hb1
   refine q_cond_f hF rfl hc2 (q_exit (x_sq ?_))
   obtain rfl:=someI hb1
   exact ⟨nofun,.inl ⟨q2,s2,rfl,hF.sub ⟨rfl,trivial⟩,hS,h2⟩⟩
  ·have hb1:=cond_t hc2 hb1
   refine q_cond_t hF rfl hc2 (q_skipc (n_sq (q_seq (q_block (q_sr (q_m hF rfl fun a hF=>q_m hF rfl fun a hF=>q_y (v:=(.int .u64 (IntKind.wrap .u64 x_3))) hF hS (ex_conv U3 U137 rfl) fun a hF=>?_))))))
   obtain ⟨t_5,ht_5,hb1⟩:=bindS hb1
   refine q_y (v:=(iV t_5)) hF hS (ex_shr rfl rfl ht_5) fun a hF=>q_y (v:=(iV (goBits .and .i64 t_5 1))) hF hS (ex_bits rfl rfl rfl) fun a hF=>q_y (v:=(.bool ((goBits .and .i64 t_5 1) == 1))) hF hS (ex_ibin rfl rfl rfl) fun a hF=>q_end (n_sq ?_)
   obtain ⟨out_9,hj3,hb1⟩:=bindS hb1
   refine q_join (fun a w=>∃ (q10 : Piece),∃ (s10 : Sl),Fr a 23 [(0,(iV p_set)),(3,s10.v),(4,(iV x_3))]∧St [] w0 w m [q10]∧OwnL m 3 q10 s10 out_9) ?_ ?_
   ·rcases bcase ((goBits .and .i64 t_5 1) == 1) with hc4 | hc4
    ·have hj3:=cond_f hc4 hj3
     refine q_cond_f hF rfl hc4 (q_skipc (n_jn ?_))
     obtain rfl:=someI hj3
     exact ⟨q2,s2,hF.sub ⟨rfl,rfl,rfl,trivial⟩,hS,h2⟩
    ·have hj3:=cond_t hc4 hj3
     refine q_cond_t hF rfl hc4 (q_region (q_m hF rfl fun a hF=>q_m hF rfl fun a hF=>q_do rfl fun _ hK=>wp_buildSlice' (l:=([x_3] : List Int)) (cells:=[(iV x_3)]) hF hS U24 inf3 rfl rfl (by kernel_rfl) rfl rfl rfl ⟨rfl,rfl⟩ rfl rfl fun a w q6 s6 hF hS h6 _=>hK _ _ ?_))
     have hS : St _ _ _ _ [q2,q6]:=hS.sel [1,0] (by decide)
     obtain ⟨l_7,hl_7,hj3⟩:=bindS hj3
     refine q_do rfl fun _ hK=>wp_append hF hS h2 U24 inf3 rfl rfl rfl rfl (h6.vw hS (j:=1) rfl) rfl (by decide) hl_7 rfl fun a w q8 s8 hF hS h8=>hK _ _ (q_s hF rfl fun a hF=>q_end (n_jn ?_))
     obtain rfl:=someI hj3
     exact ⟨q8,s8,hF.sub ⟨rfl,rfl,rfl,trivial⟩,hS.mask [true,false],h8⟩
   ·rintro a w ⟨q10,s10,hF,hS,h10⟩
    refine n_ib (n_sq ?_)
    refine q_region (q_m hF rfl fun a hF=>q_y (v:=(iV (w64 (x_3 + 1)))) hF hS (ex_ibin rfl rfl rfl) fun a hF=>q_s hF rfl fun a hF=>q_end ?_)
    obtain rfl:=someI hb1
    exact ⟨rfl,q10,s10,_,_,rfl,hF.sub ⟨rfl,rfl,rfl,trivial⟩,hS,h10⟩
 ·rintro e a w ⟨q12,s12,rfl,hF,hS,h12⟩
  refine x_ib (n_sq ?_)
  refine q_sr (q_m hF rfl fun a hF=>q_s hF rfl fun a hF=>q_end (n_sq (q_ret ?_)))
  obtain rfl:=someI hr
  exact ret_of hF hS rfl (.tmp rfl .nil) ⟨q12,s12,rfl,hS.sel [0] (by decide),h12⟩

theorem c_spec_nTable (p_s : List impl_Variable) (p_t : impl_Table) (r : (List UInt8)) (hr : spec_nTable p_s p_t = some r) (w0 : World) (m : Mem) (hv : Vis m w0) (s1 : Sl) (h1 : Rd m s1 p_s) (s2 : Sl) (h2 : Rd m s2 p_t.Vars) (s3 : Sl) (h3 : Rd m s3 p_t.Where) :
  Ret Tryz.prog 33 [s1.v,(.agg #[(iV p_t.Level),s2.v,s3.v,(iV p_t.Sum)])] w0 (fun v _=>v = (strV r)):=by
 unfold spec_nTable at hr
 refine ret_start Tryz.func33 rfl 79 rfl rfl m hv fun a hF hS=>q_sr (q_box (cs:=[(iV p_t.Level),s2.v,s3.v,(iV p_t.Sum)]) hF hS rfl rfl rfl fun a w b4 hF hS=>q_s hF rfl fun a hF=>q_end (n_sq (q_sr (q_s hF rfl fun a hF=>q_end (n_sq (q_seq (q_sr (q_y (v:=(pP b4 3)) hF hS (ex_fieldAddr U29 rfl sz3 rfl rfl) fun a hF=>q_y (v:=(iV p_t.Sum)) hF hS (ex_load1 0 0 U3 rfl rfl rfl rfl) fun a hF=>q_y (v:=(.bool (decide (0 ≤ p_t.Sum)))) hF hS (ex_ibin rfl rfl rfl) fun a hF=>q_end (n_sq ?_)))))))))
 obtain ⟨out_8,hj1,hr⟩:=bindS hr
 refine q_join (fun a w=>Fr a 79 [(0,s1.v),(3,(pP b4 0)),(5,(strV out_8))]∧St [] w0 w m [[⟨b4,[(iV p_t.Level),s2.v,s3.v,(iV p_t.Sum)],29⟩]]) ?_ ?_
 ·rcases bcase (decide (0 ≤ p_t.Sum)) with hc2 | hc2
  ·have hj1:=cond_f hc2 hj1
   refine q_cond_f hF rfl hc2 (q_skipc (n_jn ?_))
   obtain rfl:=someI hj1
   exact ⟨hF.sub ⟨rfl,rfl,rfl,trivial⟩,hS⟩
  ·have hj1:=cond_t hc2 hj1
   refine q_cond_t hF rfl hc2 (q_region (q_m hF rfl fun a hF=>q_y (v:=(pP b4 3)) hF hS (ex_fieldAddr U29 rfl sz3 rfl rfl) fun a hF=>q_y (v:=(iV p_t.Sum)) hF hS (ex_load1 0 0 U3 rfl rfl rfl rfl) fun a hF=>?_))
   obtain ⟨e_5,he_5,hj1⟩:=bindS hj1
   obtain ⟨vs6,at6,d6⟩:=h1.at he_5 2 rfl
   obtain rfl : vs6 = [(strV e_5.Name),(iV e_5.Levels)]:=d6
   refine q_y (v:=(elP s1 (p_t.Sum.toNat * 2))) hF hS (ex_indexAddr U27 sz95 rfl rfl (h1.idx he_5)) fun a hF=>q_y (v:=(elP s1 (p_t.Sum.toNat * 2 + 0))) hF hS (ex_fieldAddrE U95 rfl sz9 rfl (h1.idx he_5) rfl) fun a hF=>q_y (v:=(strV e_5.Name)) hF hS (ex_loadE1 0 U9 rfl rfl ((at6).at) rfl rfl) fun a hF=>?_
   obtain ⟨t_7,ht_7,hj1⟩:=bindS hj1
   refine q_y (v:=(strV t_7)) hF hS (ex_strCat rfl rfl ht_7) fun a hF=>q_s hF rfl fun a hF=>q_end (n_jn ?_)
   obtain rfl:=someI hj1
   exact ⟨hF.sub ⟨rfl,rfl,rfl,trivial⟩,hS⟩
 ·rintro a w ⟨hF,hS⟩
  refine n_sq ?_
  refine q_sr (q_m hF rfl fun a hF=>q_y (v:=(pP b4 0)) hF hS (ex_fieldAddr U29 rfl sz3 rfl rfl) fun a hF=>q_y (v:=(iV p_t.Level)) hF hS (ex_load1 0 0 U3 rfl rfl rfl rfl) fun a hF=>?_)
  obtain ⟨t_9,ht_9,hr⟩:=bindS hr
  refine q_call (vs:=[(iV p_t.Level)]) hF hS Tryz.func77 (by kernel_rfl) rfl rfl rfl (c_spec_l1Num p_t.Level t_9 ht_9 _ m hS.vis) ?_
  rintro a w _ rfl hF hS
  obtain ⟨t_10,ht_10,hr⟩:=bindS hr
  refine q_y (v:=(strV t_10)) hF hS (ex_strCat rfl rfl ht_10) fun a hF=>?_
  obtain ⟨t_11,ht_11,hr⟩:=bindS hr
  refine q_y (v:=(strV t_11)) hF hS (ex_strCat rfl rfl ht_11) fun a hF=>q_s hF rfl fun a hF=>q_end (n_sq (q_seq (q_sr (q_y (v:=(pP b4 1)) hF hS (ex_fieldAddr U29 rfl sz24 rfl rfl) fun a hF=>q_y (v:=s2.v) hF hS (ex_load1 0 0 U24 rfl rfl rfl rfl) fun a hF=>q_y (v:=(iV (goLen p_t.Vars))) hF hS (ex_len U24 rfl h2.len) fun a hF=>q_y (v:=(.bool (decide (0 < (goLen p_t.Vars))))) hF hS (ex_ibin rfl rfl rfl) fun a hF=>q_end (n_sq ?_)))))
  obtain ⟨out_15,hj3,hr⟩:=bindS hr
  refine q_join (fun a w=>Fr a 79 [(0,s1.v),(3,(pP b4 0)),(5,(strV out_15))]∧St [] w0 w m [[⟨b4,[(iV p_t.Level),s2.v,s3.v,(iV p_t.Sum)],29⟩]]) ?_ ?_
  ·rcases bcase (decide (0 < (goLen p_t.Vars))) with hc4 | hc4
   ·have hj3:=cond_f hc4 hj3
    refine q_cond_f hF rfl hc4 (q_skipc (n_jn ?_))
    obtain rfl:=someI hj3
    exact ⟨hF.sub ⟨rfl,rfl,rfl,trivial⟩,hS⟩
   ·have hj3:=cond_t hc4 hj3
    refine q_cond_t hF rfl hc4 (q_region (q_m hF rfl fun a hF=>q_m hF rfl fun a hF=>q_y (v:=(pP b4 1)) hF hS (ex_fieldAddr U29 rfl sz24 rfl rfl) fun a hF=>q_y (v:=s2.v) hF hS (ex_load1 0 0 U24 rfl rfl rfl rfl) fun a hF=>?_))
    obtain ⟨t_12,ht_12,hj3⟩:=bindS hj3
    refine q_call (vs:=[s1.v,s2.v]) hF hS Tryz.func78 (by kernel_rfl) rfl rfl rfl (c_spec_nNames p_s p_t.Vars t_12 ht_12 _ m hS.vis s1 h1 s2 h2) ?_
    rintro a w _ rfl hF hS
    obtain ⟨t_13,ht_13,hj3⟩:=bindS hj3
    refine q_y (v:=(strV t_13)) hF hS (ex_strCat rfl rfl ht_13) fun a hF=>?_
    obtain ⟨t_14,ht_14,hj3⟩:=bindS hj3
    refine q_y (v:=(strV t_14)) hF hS (ex_strCat rfl rfl ht_14) fun a hF=>q_s hF rfl fun a hF=>q_end (n_jn ?_)
    obtain rfl:=someI hj3
    exact ⟨hF.sub ⟨rfl,rfl,rfl,trivial⟩,hS⟩
  ·rintro a w ⟨hF,hS⟩
   refine n_sq ?_
   refine q_sr (q_s hF rfl fun a hF=>q_end (n_sq (q_seq (q_sr (q_y (v:=(pP b4 2)) hF hS (ex_fieldAddr U29 rfl sz24 rfl rfl) fun a hF=>q_y (v:=s3.v) hF hS (ex_load1 0 0 U24 rfl rfl rfl rfl) fun a hF=>q_y (v:=(iV (goLen p_t.Where))) hF hS (ex_len U24 rfl h3.len) fun a hF=>q_m hF rfl fun a hF=>q_end (n_sq (q_block ?_)))))))
   obtain ⟨out_43,hl5,hr⟩:=bindS hr
   refine q_loop (fun (s : (List UInt8) × Bool × Int) a w=>∃ out_16,∃ first_17,∃ t_18,s = (out_16,first_17,t_18)∧Fr a 79 [(0,s1.v),(5,(strV out_16)),(6,(.bool first_17)),(39,s3.v),(40,(iV (goLen p_t.Where))),(41,(iV t_18))]∧St [] w0 w m []) (fun (out_43 : (List UInt8)) e a w=>e = .exit 0∧Fr a 79 [(5,(strV out_43))]∧St [] w0 w m []) hl5 ⟨_,_,_,rfl,hF.sub ⟨rfl,rfl,rfl,rfl,rfl,rfl,trivial⟩,hS.mask [false]⟩ ?_ ?_
   ·clear hF hS
    rintro s a w st ⟨out_16,first_17,t_18,rfl,hF,hS⟩ hb5
    unfold spec_nTable_l1 at hb5
    refine q_sr (q_y (v:=(.bool (decide (t_18 < (goLen p_t.Where))))) hF hS (ex_ibin rfl rfl rfl) fun a hF=>q_end (n_sq (q_seq ?_)))
    rcases bcase (decide (t_18 < (goLen p_t.Where))) with hc6 | hc6
    ·have hb5:=cond_f hc6 hb5
     refine q_cond_f hF rfl hc6 (q_exit (x_sq ?_))
     obtain rfl:=someI hb5
     exact ⟨nofun,.inl ⟨rfl,hF.sub ⟨rfl,trivial⟩,hS⟩⟩
    ·have hb5:=cond_t hc6 hb5
     refine q_cond_t hF rfl hc6 (q_skipc (n_sq (q_seq ?_)))
     obtain ⟨j7,hj7,hb5⟩:=bindS hb5
     refine q_join (fun a w=>∃ out_41,∃ first_42,j7 = (out_41,first_42)∧Fr a 79 [(0,s1.v),(5,(strV out_41)),(6,(.bool first_42)),(39,s3.v),(40,(iV (goLen p_t.Where))),(41,(iV t_18))]∧St [] w0 w m []) ?_ ?_
     ·refine q_block (q_sr (q_m hF rfl fun a hF=>?_))
      obtain ⟨e_19,he_19,hj7⟩:=bindS hj7
      obtain ⟨vs20,at20,d20⟩:=h3.at he_19 1 rfl
      obtain rfl : vs20 = [(iV e_19)]:=d20
      refine q_y (v:=(elP s3 (t_18.toNat * 1))) hF hS (ex_indexAddr U24 sz3 rfl rfl (h3.idx he_19)) fun a hF=>q_y (v:=(iV e_19)) hF hS (ex_loadE1 0 U3 rfl rfl ((at20).at) rfl rfl) fun a hF=>q_s hF rfl fun a hF=>q_s hF rfl fun a hF=>q_end (n_sq (q_seq (q_sr (q_m hF rfl fun a hF=>q_y (v:=(.bool (e_19 == 0))) hF hS (ex_ibin rfl rfl rfl) fun a hF=>q_end (n_sq ?_)))))
      rcases bcase (e_19 == 0) with hc8 | hc8
      ·have hj7:=cond_f hc8 hj7
       refine q_cond_f hF rfl hc8 (q_skipc (n_sq (q_seq (q_sr (q_m hF rfl fun a hF=>q_end (n_sq ?_))))))
       obtain ⟨j9,hj9,hj7⟩:=bindS hj7
       refine q_join (fun a w=>∃ out_22,∃ first_23,j9 = (out_22,first_23)∧Fr a 79 [(0,s1.v),(5,(strV out_22)),(6,(.bool first_23)),(7,(iV t_18)),(8,(iV e_19)),(39,s3.v),(40,(iV (goLen p_t.Where))),(41,(iV t_18))]∧St [] w0 w m []) ?_ ?_
       ·rcases bcase (first_17) with hc10 | hc10
        ·have hj9:=cond_f hc10 hj9
         refine q_cond_f hF rfl hc10 (q_skipc (n_jn ?_))
         obtain rfl:=someI hj9
         exact ⟨_,_,rfl,hF.sub ⟨rfl,rfl,rfl,rfl,rfl,rfl,rfl,rfl,trivial⟩,hS⟩
        ·have hj9:=cond_t hc10 hj9
         refine q_cond_t hF rfl hc10 (q_sr (q_m hF rfl fun a hF=>?_))
         obtain ⟨t_21,ht_21,hj9⟩:=bindS hj9
         refine q_y (v:=(strV t_21)) hF hS (ex_strCat rfl rfl ht_21) fun a hF=>q_s hF rfl fun a hF=>q_end (n_sq (q_region (q_s hF rfl fun a hF=>q_end (n_jn ?_))))
         obtain rfl:=someI hj9
         exact ⟨_,_,rfl,hF.sub ⟨rfl,rfl,rfl,rfl,rfl,rfl,rfl,rfl,trivial⟩,hS⟩
       ·rintro a w ⟨out_22,first_23,rfl,hF,hS⟩
        refine n_sq ?_
        refine q_sr (q_m hF rfl fun a hF=>q_m hF rfl fun a hF=>q_m hF rfl fun a hF=>?_)
        obtain ⟨e_24,he_24,hj7⟩:=bindS hj7
        obtain ⟨vs25,at25,d25⟩:=h1.at he_24 2 rfl
        obtain rfl : vs25 = [(strV e_24.Name),(iV e_24.Levels)]:=d25
        refine q_y (v:=(elP s1 (t_18.toNat * 2))) hF hS (ex_indexAddr U27 sz95 rfl rfl (h1.idx he_24)) fun a hF=>q_y (v:=(elP s1 (t_18.toNat * 2 + 0))) hF hS (ex_fieldAddrE U95 rfl sz9 rfl (h1.idx he_24) rfl) fun a hF=>q_y (v:=(strV e_24.Name)) hF hS (ex_loadE1 0 U9 rfl rfl ((at25).at) rfl rfl) fun a hF=>?_
        obtain ⟨t_26,ht_26,hj7⟩:=bindS hj7
        refine q_y (v:=(strV t_26)) hF hS (ex_strCat rfl rfl ht_26) fun a hF=>?_
        obtain ⟨t_27,ht_27,hj7⟩:=bindS hj7
        refine q_y (v:=(strV t_27)) hF hS (ex_strCat rfl rfl ht_27) fun a hF=>?_
        obtain ⟨t_28,ht_28,hj7⟩:=bindS hj7
        refine q_y (v:=(strV t_28)) hF hS (ex_strCat rfl rfl ht_28) fun a hF=>q_s hF rfl fun a hF=>q_end (n_sq (q_sr (q_m hF rfl fun a hF=>?_)))
        obtain ⟨t_29,ht_29,hj7⟩:=bindS hj7
        refine q_call (vs:=[(iV e_19)]) hF hS Tryz.func79 (by kernel_rfl) rfl rfl rfl (c_spec_eLevels e_19 t_29 ht_29 _ m hS.vis) ?_
        rintro a w _ ⟨q31,s31,rfl,hR30,h31⟩ hF hS2
        have hS : St _ _ _ _ [q31]:=hS.joinF hR30
        refine q_y (v:=(iV (goLen t_29))) hF hS (ex_len U24 rfl h31.len) fun a hF=>q_m hF rfl fun a hF=>q_end (n_sq (q_block ?_))
        obtain ⟨out_40,hl11,hj7⟩:=bindS hj7
        refine q_loop (fun (s : (List UInt8) × Int) a w=>∃ out_32,∃ t_33,s = (out_32,t_33)∧Fr a 79 [(0,s1.v),(5,(strV out_32)),(6,(.bool first_23)),(39,s3.v),(40,(iV (goLen p_t.Where))),(41,(iV t_18)),(61,s31.v),(62,(iV (goLen t_29))),(63,(iV t_33))]∧St [] w0 w m [q31]) (fun (out_40 : (List UInt8)) e a w=>e = .exit 2∧Fr a 79 [(0,s1.v),(5,(strV out_40)),(6,(.bool first_23)),(39,s3.v),(40,(iV (goLen p_t.Where))),(41,(iV t_18))]∧St [] w0 w m []) hl11 ⟨_,_,rfl,hF.sub ⟨rfl,rfl,rfl,rfl,rfl,rfl,rfl,rfl,rfl,trivial⟩,hS⟩ ?_ ?_
        ·clear hF hS
         rintro s a w st ⟨out_32,t_33,rfl,hF,hS⟩ hb11
         unfold spec_nTable_l2 at hb11
         refine q_sr (q_y (v:=(.bool (decide (t_33 < (goLen t_29))))) hF hS (ex_ibin rfl rfl rfl) fun a hF=>q_end (n_sq (q_seq ?_)))
         rcases bcase (decide (t_33 < (goLen t_29))) with hc12 | hc12
         ·have hb11:=cond_f hc12 hb11
          refine q_cond_f hF rfl hc12 (q_exit (x_sq ?_))
          obtain rfl:=someI hb11
          exact ⟨nofun,.inl ⟨rfl,hF.sub ⟨rfl,rfl,rfl,rfl,rfl,rfl,trivial⟩,hS.mask [false]⟩⟩
         ·have hb11:=cond_t hc12 hb11
          refine q_cond_t hF rfl hc12 (q_skipc (n_sq (q_seq (q_block (q_sr (q_m hF rfl fun a hF=>?_))))))
          obtain ⟨e_34,he_34,hb11⟩:=bindS hb11
          obtain ⟨vs35,at35,d35⟩:=h31.at he_34 1 rfl
          obtain rfl : vs35 = [(iV e_34)]:=d35
          refine q_y (v:=(elP s31 (t_33.toNat * 1))) hF hS (ex_indexAddr U24 sz3 rfl rfl (h31.idx he_34)) fun a hF=>q_y (v:=(iV e_34)) hF hS (ex_loadE1 0 U3 rfl rfl (at35.at 0 rfl) rfl rfl) fun a hF=>q_s hF rfl fun a hF=>q_s hF rfl fun a hF=>q_end (n_sq (q_seq (q_sr (q_m hF rfl fun a hF=>q_y (v:=(.bool (decide (0 < t_33)))) hF hS (ex_ibin rfl rfl rfl) fun a hF=>q_end (n_sq ?_)))))
          obtain ⟨out_37,hj13,hb11⟩:=bindS hb11
          refine q_join (fun a w=>Fr a 79 [(0,s1.v),(5,(strV out_37)),(6,(.bool first_23)),(10,(iV e_34)),(39,s3.v),(40,(iV (goLen p_t.Where))),(41,(iV t_18)),(61,s31.v),(62,(iV (goLen t_29))),(63,(iV t_33))]∧St [] w0 w m [q31]) ?_ ?_
          ·rcases bcase (decide (0 < t_33)) with hc14 | hc14
           ·have hj13:=cond_f hc14 hj13
            refine q_cond_f hF rfl hc14 (q_skipc (n_jn ?_))
            obtain rfl:=someI hj13
            exact ⟨hF.sub ⟨rfl,rfl,rfl,rfl,rfl,rfl,rfl,rfl,rfl,rfl,trivial⟩,hS⟩
           ·have hj13:=cond_t hc14 hj13
            refine q_cond_t hF rfl hc14 (q_region (q_m hF rfl fun a hF=>?_))
            obtain ⟨t_36,ht_36,hj13⟩:=bindS hj13
            refine q_y (v:=(strV t_36)) hF hS (ex_strCat rfl rfl ht_36) fun a hF=>q_s hF rfl fun a hF=>q_end (n_jn ?_)
            obtain rfl:=someI hj13
            exact ⟨hF.sub ⟨rfl,rfl,rfl,rfl,rfl,rfl,rfl,rfl,rfl,rfl,trivial⟩,hS⟩
          ·rintro a w ⟨hF,hS⟩
           refine n_sq ?_
           refine q_region (q_m hF rfl fun a hF=>q_m hF rfl fun a hF=>?_)
           obtain ⟨t_38,ht_38,hb11⟩:=bindS hb11
           refine q_call (vs:=[(iV e_34)]) hF hS Tryz.func77 (by kernel_rfl) rfl rfl rfl (c_spec_l1Num e_34 t_38 ht_38 _ m hS.vis) ?_
           rintro a w _ rfl hF hS
           obtain ⟨t_39,ht_39,hb11⟩:=bindS hb11
           refine q_y (v:=(strV t_39)) hF hS (ex_strCat rfl rfl ht_39) fun a hF=>q_s hF rfl fun a hF=>q_end (n_ib (n_sq (q_region (q_y (v:=(iV (w64 (t_33 + 1)))) hF hS (ex_ibin rfl rfl rfl) fun a hF=>q_m hF rfl fun a hF=>q_end ?_))))
           obtain rfl:=someI hb11
           exact ⟨rfl,_,_,rfl,hF.sub ⟨rfl,rfl,rfl,rfl,rfl,rfl,rfl,rfl,rfl,trivial⟩,hS⟩
        ·rintro e a w ⟨rfl,hF,hS⟩
         refine x_ib (n_ib (n_jn ?_))
         obtain rfl:=someI hj7
         exact ⟨_,_,rfl,hF.sub ⟨rfl,rfl,rfl,rfl,rfl,rfl,trivial⟩,hS⟩
      ·have hj7:=cond_t hc8 hj7
       refine q_cond_t hF rfl hc8 (q_exit (x_sq (x_ib (n_jn ?_))))
       obtain rfl:=someI hj7
       exact ⟨_,_,rfl,hF.sub ⟨rfl,rfl,rfl,rfl,rfl,rfl,trivial⟩,hS⟩
     ·rintro a w ⟨out_41,first_42,rfl,hF,hS⟩
      refine n_sq ?_
      refine q_region (q_y (v:=(iV (w64 (t_18 + 1)))) hF hS (ex_ibin rfl rfl rfl) fun a hF=>q_m hF rfl fun a hF=>q_end ?_)
      obtain rfl:=someI hb5
      exact ⟨rfl,_,_,_,rfl,hF.sub ⟨rfl,rfl,rfl,rfl,rfl,rfl,trivial⟩,hS⟩
   ·rintro e a w ⟨rfl,hF,hS⟩
    refine x_ib (n_sq ?_)
    refine q_sr (q_m hF rfl fun a hF=>q_s hF rfl fun a hF=>q_end (n_sq (q_ret ?_)))
    obtain rfl:=someI hr
    exact ret_of hF hS rfl (.tmp rfl .nil) rfl

theorem c_spec_PlanText (p_g : impl_Geo) (p_s : List impl_Variable) (p_l : List impl_Table) (r : (List UInt8) × Bool) (hr : spec_PlanText p_g p_s p_l = some r) (w0 : World) (m : Mem) (hv : Vis m w0) (s1 : Sl) (h1 : Rd m s1 p_g.Parents) (s2 : Sl) (h2 : Rd m s2 p_s) (s3 : Sl) (h3 : Rd m s3 p_l) :
  Ret Tryz.prog 19 [(.agg #[s1.v]),s2.v,s3.v] w0 (fun v _=>v = (.tuple #[(strV r.1),(.bool r.2)])):=by
 unfold spec_PlanText at hr
 refine ret_start Tryz.func19 rfl 30 rfl rfl m hv fun a hF hS=>q_sr (q_box (cs:=[s1.v]) hF hS rfl rfl rfl fun a w b4 hF hS=>q_s hF rfl fun a hF=>q_s hF rfl fun a hF=>q_end (n_sq (q_seq (q_sr (q_y (v:=(.agg #[s1.v])) hF hS (ex_loadA (vs:=[s1.v]) 0 0 U26 rfl sz26 rfl rfl rfl rfl) fun a hF=>q_m hF rfl fun a hF=>q_m hF rfl fun a hF=>?_)))))
 obtain ⟨t_5,ht_5,hr⟩:=bindS hr
 refine q_call (vs:=[(.agg #[s1.v]),s2.v,s3.v]) hF hS Tryz.func51 (by kernel_rfl) rfl rfl rfl (c_spec_nPlan p_g p_s p_l t_5 ht_5 _ m hS.vis s1 h1 s2 h2 s3 h3) ?_
 rintro a w _ rfl hF hS
 refine q_y (v:=(.bool (!t_5))) hF hS (ex_not rfl) fun a hF=>q_end (n_sq ?_)
 rcases bcase (!t_5) with hc1 | hc1
 ·have hr:=cond_f hc1 hr
  refine q_cond_f hF rfl hc1 (q_skipc (n_sq (q_sr (q_s hF rfl fun a hF=>q_end (n_sq (q_seq (q_sr (q_m hF rfl fun a hF=>q_y (v:=(iV (goLen p_l))) hF hS (ex_len U44 rfl h3.len) fun a hF=>q_m hF rfl fun a hF=>q_end (n_sq (q_block ?_))))))))))
  obtain ⟨out_16,hl2,hr⟩:=bindS hr
  refine q_loop (fun (s : (List UInt8) × Int) a w=>∃ out_6,∃ t_7,s = (out_6,t_7)∧Fr a 30 [(1,s2.v),(8,(strV out_6)),(16,s3.v),(17,(iV (goLen p_l))),(18,(iV t_7))]∧St [] w0 w m []) (fun (out_16 : (List UInt8)) e a w=>e = .exit 0∧Fr a 30 [(8,(strV out_16))]∧St [] w0 w m []) hl2 ⟨_,_,rfl,hF.sub ⟨rfl,rfl,rfl,rfl,rfl,trivial⟩,hS.mask [false]⟩ ?_ ?_
  ·clear hF hS
   rintro s a w st ⟨out_6,t_7,rfl,hF,hS⟩ hb2
   unfold spec_PlanText_l1 at hb2
   refine q_sr (q_y (v:=(.bool (decide (t_7 < (goLen p_l))))) hF hS (ex_ibin rfl rfl rfl) fun a hF=>q_end (n_sq (q_seq ?_)))
   rcases bcase (decide (t_7 < (goLen p_l))) with hc3 | hc3
   ·have hb2:=cond_f hc3 hb2
    refine q_cond_f hF rfl hc3 (q_exit (x_sq ?_))
    obtain rfl:=someI hb2
    exact ⟨nofun,.inl ⟨rfl,hF.sub ⟨rfl,trivial⟩,hS⟩⟩
   ·have hb2:=cond_t hc3 hb2
    refine q_cond_t hF rfl hc3 (q_skipc (n_sq (q_seq (q_block (q_seq (q_region ?_))))))
    obtain ⟨e_8,he_8,hb2⟩:=bindS hb2
    obtain ⟨vs9,at9,d9⟩:=h3.at he_8 4 rfl
    obtain ⟨s10,s11,rfl,h10,h11⟩ : ∃ s10 s11 : Sl,vs9 = [(iV e_8.Level),s10.v,s11.v,(iV e_8.Sum)]∧Rd m s10 e_8.Vars∧Rd m s11 e_8.Where:=d9
    refine q_y (v:=(elP s3 (t_7.toNat * 4))) hF hS (ex_indexAddr U44 sz29 rfl rfl (h3.idx he_8)) fun a hF=>q_y (v:=(.agg #[(iV e_8.Level),s10.v,s11.v,(iV e_8.Sum)])) hF hS (ex_loadEA (us:=[(iV e_8.Level),s10.v,s11.v,(iV e_8.Sum)]) 0 U29 rfl sz29 rfl ((at9).at) rfl rfl rfl) fun a hF=>q_alloc (cs:=[(iV 0),nilS.v,nilS.v,(iV 0)]) hF hS rfl rfl rfl fun a w b12 hF hS=>q_store (vs:=[(iV e_8.Level),s10.v,s11.v,(iV e_8.Sum)]) (cs':=[(iV e_8.Level),s10.v,s11.v,(iV e_8.Sum)]) 0 0 hF hS sz29 rfl rfl rfl rfl rfl rfl rfl rfl fun a w hF hS=>q_end (n_sq (q_region (q_m hF rfl fun a hF=>q_m hF rfl fun a hF=>q_y (v:=(.agg #[(iV e_8.Level),s10.v,s11.v,(iV e_8.Sum)])) hF hS (ex_loadA (vs:=[(iV e_8.Level),s10.v,s11.v,(iV e_8.Sum)]) 0 0 U29 rfl sz29 rfl rfl rfl rfl) fun a hF=>?_)))
    obtain ⟨t_13,ht_13,hb2⟩:=bindS hb2
    refine q_call (vs:=[s2.v,(.agg #[(iV e_8.Level),s10.v,s11.v,(iV e_8.Sum)])]) hF hS Tryz.func33 (by kernel_rfl) rfl rfl rfl (c_spec_nTable p_s e_8 t_13 ht_13 _ m hS.vis s2 h2 s10 h10 s11 h11) ?_
    rintro a w _ rfl hF hS
    obtain ⟨t_14,ht_14,hb2⟩:=bindS hb2
    refine q_y (v:=(strV t_14)) hF hS (ex_strCat rfl rfl ht_14) fun a hF=>?_
    obtain ⟨t_15,ht_15,hb2⟩:=bindS hb2
    refine q_y (v:=(strV t_15)) hF hS (ex_strCat rfl rfl ht_15) fun a hF=>q_s hF rfl fun a hF=>q_end (n_ib (n_sq (q_region (q_y (v:=(iV (w64 (t_7 + 1)))) hF hS (ex_ibin rfl rfl rfl) fun a hF=>q_m hF rfl fun a hF=>q_end ?_))))
    obtain rfl:=someI hb2
    exact ⟨rfl,_,_,rfl,hF.sub ⟨rfl,rfl,rfl,rfl,rfl,trivial⟩,hS.mask [false]⟩
  ·rintro e a w ⟨rfl,hF,hS⟩
   refine x_ib (n_sq ?_)
   refine q_sr (q_m hF rfl fun a hF=>q_s hF rfl fun a hF=>q_s hF rfl fun a hF=>q_end (n_sq (q_ret ?_)))
   obtain rfl:=someI hr
   exact ret_of hF hS rfl (.tmp rfl (.tmp rfl .nil)) rfl
 ·have hr:=cond_t hc1 hr
  refine q_cond_t hF rfl hc1 (q_sr (q_s hF rfl fun a hF=>q_s hF rfl fun a hF=>q_end (n_sq (q_ret (r_sq ?_)))))
  obtain rfl:=someI hr
  exact ret_of hF hS rfl (.tmp rfl (.tmp rfl .nil)) rfl

theorem c_impl_nameIndex_1 (p_v : impl_Variable) (p_x1 : List UInt8) (r : Bool) (hr : impl_nameIndex_1 p_v p_x1 = some r) (w0 : World) (m : Mem) (b_p_x1 : Nat) (X : List Nat) (hS : St X w0 w0 m [[⟨b_p_x1,[(strV p_x1)],9⟩]]) :
  RetX Tryz.prog 122 [(.agg #[(strV p_v.Name),(iV p_v.Levels)]),(pP b_p_x1 0)] w0 (fun v w=>v = (.bool r)∧St X w0 w m [[⟨b_p_x1,[(strV p_x1)],9⟩]]):=by
 unfold impl_nameIndex_1 at hr
 refine ret_startX Tryz.func122 rfl 8 rfl rfl fun a hF=>q_sr (q_box (cs:=[(strV p_v.Name),(iV p_v.Levels)]) hF hS rfl rfl rfl fun a w b1 hF hS=>q_s hF rfl fun a hF=>q_end (n_sq (q_sr (q_y (v:=(pP b1 0)) hF hS (ex_fieldAddr U95 rfl sz9 rfl rfl) fun a hF=>q_y (v:=(strV p_v.Name)) hF hS (ex_load1 0 0 U9 rfl rfl rfl rfl) fun a hF=>q_y (v:=(strV p_x1)) hF hS (ex_load1 1 0 U9 rfl rfl rfl rfl) fun a hF=>q_y (v:=(.bool (p_v.Name == p_x1))) hF hS (ex_strEq rfl rfl) fun a hF=>q_s hF rfl fun a hF=>q_end (n_sq (q_ret ?_))))))
 obtain rfl:=someI hr
 exact ret_ofX hF hS rfl (.tmp rfl .nil) ⟨rfl,hS.sel [1] (by decide)⟩

theorem c_slices_IndexFunc_impl_Variable_impl_Variable_of_impl_nameIndex_1 (p_s : List impl_Variable) (p_x200 : List UInt8) (r : Int) (hr : slices_IndexFunc_impl_Variable_impl_Variable_of_impl_nameIndex_1 p_s p_x200 = some r) (w0 : World) (m : Mem) (b_p_x200 : Nat) (s1 : Sl) (h1 : Rd m s1 p_s) (X : List Nat) (hS : St X w0 w0 m [[⟨b_p_x200,[(strV p_x200)],9⟩]]) :
  RetX Tryz.prog 121 [s1.v,(.func (.func 122) #[] #[(pP b_p_x200 0)])] w0 (fun v w=>v = (iV r)∧St X w0 w m [[⟨b_p_x200,[(strV p_x200)],9⟩]]):=by
 unfold slices_IndexFunc_impl_Variable_impl_Variable_of_impl_nameIndex_1 at hr
 refine ret_startX Tryz.func121 rfl 19 rfl rfl fun a hF=>q_sr (q_s hF rfl fun a hF=>q_end (n_sq (q_seq (q_sr (q_m hF rfl fun a hF=>q_y (v:=(iV (goLen p_s))) hF hS (ex_len U27 rfl h1.len) fun a hF=>q_m hF rfl fun a hF=>q_end (n_sq (q_block ?_)))))))
 obtain ⟨o1,hl1,hr⟩:=bindS hr
 refine q_loop (fun (t_2 : Int) a w=>Fr a 19 [(0,s1.v),(1,(.func (.func 122) #[] #[(pP b_p_x200 0)])),(7,(iV (goLen p_s))),(8,(iV t_2))]∧St X w0 w m [[⟨b_p_x200,[(strV p_x200)],9⟩]]) (fun (o : (Unit) ⊕ (Int)) e a w=>o = .inl ()∧e = .exit 0∧Fr a 19 []∧St X w0 w m [[⟨b_p_x200,[(strV p_x200)],9⟩]]) hl1 ⟨hF.sub ⟨rfl,rfl,rfl,rfl,trivial⟩,hS⟩ ?_ ?_
 ·clear hF hS
  rintro t_2 a w st ⟨hF,hS⟩ hb1
  unfold slices_IndexFunc_impl_Variable_impl_Variable_of_impl_nameIndex_1_l1 at hb1
  refine q_sr (q_y (v:=(.bool (decide (t_2 < (goLen p_s))))) hF hS (ex_ibin rfl rfl rfl) fun a hF=>q_end (n_sq (q_seq ?_)))
  rcases bcase (decide (t_2 < (goLen p_s))) with hc2 | hc2
  ·have hb1:=cond_f hc2 hb1
   refine q_cond_f hF rfl hc2 (q_exit (x_sq ?_))
   obtain rfl:=someI hb1
   exact ⟨nofun,.inl ⟨rfl,rfl,hF.sub trivial,hS⟩⟩
  ·have hb1:=cond_t hc2 hb1
   refine q_cond_t hF rfl hc2 (q_skipc (n_sq (q_seq (q_block (q_sr (q_m hF rfl fun a hF=>q_s hF rfl fun a hF=>q_end (n_sq (q_sr (q_m hF rfl fun a hF=>q_m hF rfl fun a hF=>q_m hF rfl fun a hF=>?_)))))))))
   obtain ⟨e_3,he_3,hb1⟩:=bindS hb1
   obtain ⟨vs4,at4,d4⟩:=h1.at he_3 2 rfl
   obtain rfl : vs4 = [(strV e_3.Name),(iV e_3.Levels)]:=d4
   refine q_y (v:=(elP s1 (t_2.toNat * 2))) hF hS (ex_indexAddr U27 sz95 rfl rfl (h1.idx he_3)) fun a hF=>q_y (v:=(.agg #[(strV e_3.Name),(iV e_3.Levels)])) hF hS (ex_loadEA (us:=[(strV e_3.Name),(iV e_3.Levels)]) 0 U95 rfl sz95 rfl ((at4).at) rfl rfl rfl) fun a hF=>?_
   have hS5 : St _ _ _ _ ([[⟨b_p_x200,[(strV p_x200)],9⟩]]++[]):=hS
   have hE5:=hS5.enter
   obtain ⟨t_6,ht_6,hb1⟩:=bindS hb1
   refine q_do rfl fun _ hK=>wp_callV (vs:=[(.agg #[(strV e_3.Name),(iV e_3.Levels)])]) (cap:=[(pP b_p_x200 0)]) hF rfl Tryz.func122 (by kernel_rfl) rfl rfl rfl (c_impl_nameIndex_1 e_3 p_x200 t_6 ht_6 _ m b_p_x200 _ hE5) fun a w _ hR hF=>hK _ _ ?_
   obtain ⟨rfl,hR5⟩:=hR
   have hS : St _ _ _ _ [[⟨b_p_x200,[(strV p_x200)],9⟩]]:=hS5.leaveF hR5
   refine q_end (n_sq ?_)
   rcases bcase (t_6) with hc3 | hc3
   ·have hb1:=cond_f hc3 hb1
    refine q_cond_f hF rfl hc3 (q_skipc (n_ib (n_sq (q_region (q_y (v:=(iV (w64 (t_2 + 1)))) hF hS (ex_ibin rfl rfl rfl) fun a hF=>q_m hF rfl fun a hF=>q_end ?_)))))
    obtain rfl:=someI hb1
    exact ⟨rfl,hF.sub ⟨rfl,rfl,rfl,rfl,trivial⟩,hS⟩
   ·have hb1:=cond_t hc3 hb1
    refine q_cond_t hF rfl hc3 (q_sr (q_m hF rfl fun a hF=>q_s hF rfl fun a hF=>q_end (n_sq (q_ret (r_ib (r_sq ?_))))))
    obtain rfl:=someI hb1
    refine ⟨nofun,.inr fun ho=>?_⟩
    subst ho
    refine r_ib (r_sq ?_)
    obtain rfl:=someI hr
    exact ret_ofX hF hS rfl (.tmp rfl .nil) ⟨rfl,hS.sel [0] (by decide)⟩
 ·rintro e a w ⟨rfl,rfl,hF,hS⟩
  refine x_ib (n_sq ?_)
  refine q_sr (q_s hF rfl fun a hF=>q_end (n_sq (q_ret ?_)))
  obtain rfl:=someI hr
  exact ret_ofX hF hS rfl (.tmp rfl .nil) ⟨rfl,hS.sel [0] (by decide)⟩

theorem c_impl_nameIndex (p_s : List impl_Variable) (p_name : List UInt8) (r : Int) (hr : impl_nameIndex p_s p_name = some r) (w0 : World) (m : Mem) (hv : Vis m w0) (s1 : Sl) (h1 : Rd m s1 p_s) :
  Ret Tryz.prog 83 [s1.v,(strV p_name)] w0 (fun v _=>v = (iV r)):=by
 unfold impl_nameIndex at hr
 refine ret_start Tryz.func83 rfl 8 rfl rfl m hv fun a hF hS=>q_sr (q_box (cs:=[(strV p_name)]) hF hS rfl rfl rfl fun a w b2 hF hS=>q_s hF rfl fun a hF=>q_end (n_sq (q_sr (q_m hF rfl fun a hF=>q_y (v:=(.func (.func 122) #[] #[(pP b2 0)])) hF hS (ex_makeFunc rfl) fun a hF=>?_))))
 have hS3 : St _ _ _ _ ([[⟨b2,[(strV p_name)],9⟩]]++[]):=hS
 have hE3:=hS3.enter
 obtain ⟨t_4,ht_4,hr⟩:=bindS hr
 refine q_do rfl fun _ hK=>wp_callX (vs:=[s1.v,(.func (.func 122) #[] #[(pP b2 0)])]) hF Tryz.func121 (by kernel_rfl) rfl rfl rfl (c_slices_IndexFunc_impl_Variable_impl_Variable_of_impl_nameIndex_1 p_s p_name t_4 ht_4 _ m b2 s1 h1 _ hE3) fun a w _ hR hF=>hK _ _ ?_
 obtain ⟨rfl,hR3⟩:=hR
 have hS : St _ _ _ _ [[⟨b2,[(strV p_name)],9⟩]]:=hS3.leaveF hR3
 refine q_s hF rfl fun a hF=>q_end (n_sq (q_ret ?_))
 obtain rfl:=someI hr
 exact ret_of hF hS rfl (.tmp rfl .nil) rfl

theorem c_impl_readNatural (p_s : List UInt8) (p_most : Int) (r : Int × (List UInt8) × Bool) (hr : impl_readNatural p_s p_most = some r) (w0 : World) (m : Mem) (hv : Vis m w0) :
  Ret Tryz.prog 142 [(strV p_s),(iV p_most)] w0 (fun v _=>v = (.tuple #[(iV r.1),(strV r.2.1),(.bool r.2.2)])):=by
 unfold impl_readNatural at hr
 refine ret_start Tryz.func142 rfl 50 rfl rfl m hv fun a hF hS=>q_sr (q_s hF rfl fun a hF=>q_s hF rfl fun a hF=>q_s hF rfl fun a hF=>q_end (n_sq (q_sr (q_s hF rfl fun a hF=>q_s hF rfl fun a hF=>q_end (n_sq (q_seq (q_block ?_)))))))
 obtain ⟨o1,hl1,hr⟩:=bindS hr
 refine q_loop (fun (s : Int × Int) a w=>∃ n_1,∃ i_2,s = (n_1,i_2)∧Fr a 50 [(0,(strV p_s)),(1,(iV p_most)),(7,(iV n_1)),(8,(iV i_2))]∧St [] w0 w m []) (fun (o : (Int × Int) ⊕ (Int × (List UInt8) × Bool)) e a w=>∃ n_8,∃ i_9,o = .inl (n_8,i_9)∧e = .exit 0∧Fr a 50 [(0,(strV p_s)),(7,(iV n_8)),(8,(iV i_9))]∧St [] w0 w m []) hl1 ⟨_,_,rfl,hF.sub ⟨rfl,rfl,rfl,rfl,trivial⟩,hS⟩ ?_ ?_
 ·clear hF hS
  rintro s a w st ⟨n_1,i_2,rfl,hF,hS⟩ hb1
  unfold impl_readNatural_l1 at hb1
  refine q_seq (q_seq ?_)
  obtain ⟨t_5,hj2,hb1⟩:=bindS hb1
  refine q_join (fun a w=>Fr a 50 [(0,(strV p_s)),(1,(iV p_most)),(7,(iV n_1)),(8,(iV i_2)),(24,(.bool t_5))]∧St [] w0 w m []) ?_ ?_
  ·refine q_region (q_m hF rfl fun a hF=>q_m hF rfl fun a hF=>q_y (v:=(iV (goLen p_s))) hF hS (ex_strLen U9 rfl) fun a hF=>q_y (v:=(.bool (decide (i_2 < (goLen p_s))))) hF hS (ex_ibin rfl rfl rfl) fun a hF=>q_m hF rfl fun a hF=>?_)
   rcases bcase (decide (i_2 < (goLen p_s))) with hc3 | hc3
   ·have hj2:=cond_f hc3 hj2
    refine q_k hF hc3 fun a hF=>q_k hF hc3 fun a hF=>q_k hF hc3 fun a hF=>q_k hF hc3 fun a hF=>q_y (v:=(.bool false)) hF hS (ex_pick_f rfl rfl hc3) fun a hF=>q_m hF rfl fun a hF=>q_k hF rfl fun a hF=>q_k hF rfl fun a hF=>q_k hF rfl fun a hF=>q_k hF rfl fun a hF=>q_y (v:=(.bool false)) hF hS (ex_pick_f rfl rfl rfl) fun a hF=>q_end (n_jn ?_)
    obtain rfl:=someI hj2
    exact ⟨hF.sub ⟨rfl,rfl,rfl,rfl,rfl,trivial⟩,hS⟩
   ·have hj2:=cond_t hc3 hj2
    refine q_g (v:=(strV p_s)) hF hS (ex_move rfl) hc3 fun a hF=>q_g (v:=(iV i_2)) hF hS (ex_move rfl) hc3 fun a hF=>?_
    obtain ⟨t_3,ht_3,hj2⟩:=bindS hj2
    refine q_g (v:=(.int .u8 t_3)) hF hS (ex_strIdx U9 rfl rfl ht_3) hc3 fun a hF=>q_g (v:=(.bool (decide (48 ≤ t_3)))) hF hS (ex_ibin rfl rfl rfl) hc3 fun a hF=>q_y (v:=(.bool (decide (48 ≤ t_3)))) hF hS (ex_pick_t rfl rfl hc3) fun a hF=>q_m hF rfl fun a hF=>?_
    rcases bcase (decide (48 ≤ t_3)) with hc4 | hc4
    ·have hj2:=cond_f hc4 hj2
     refine q_k hF hc4 fun a hF=>q_k hF hc4 fun a hF=>q_k hF hc4 fun a hF=>q_k hF hc4 fun a hF=>q_y (v:=(.bool false)) hF hS (ex_pick_f rfl rfl hc4) fun a hF=>q_end (n_jn ?_)
     obtain rfl:=someI hj2
     exact ⟨hF.sub ⟨rfl,rfl,rfl,rfl,rfl,trivial⟩,hS⟩
    ·have hj2:=cond_t hc4 hj2
     refine q_g (v:=(strV p_s)) hF hS (ex_move rfl) hc4 fun a hF=>q_g (v:=(iV i_2)) hF hS (ex_move rfl) hc4 fun a hF=>?_
     obtain ⟨t_4,ht_4,hj2⟩:=bindS hj2
     refine q_g (v:=(.int .u8 t_4)) hF hS (ex_strIdx U9 rfl rfl ht_4) hc4 fun a hF=>q_g (v:=(.bool (decide (t_4 ≤ 57)))) hF hS (ex_ibin rfl rfl rfl) hc4 fun a hF=>q_y (v:=(.bool (decide (t_4 ≤ 57)))) hF hS (ex_pick_t rfl rfl hc4) fun a hF=>q_end (n_jn ?_)
     obtain rfl:=someI hj2
     exact ⟨hF.sub ⟨rfl,rfl,rfl,rfl,rfl,trivial⟩,hS⟩
  ·rintro a w ⟨hF,hS⟩
   refine n_sq ?_
   rcases bcase (t_5) with hc5 | hc5
   ·have hb1:=cond_f hc5 hb1
    refine q_cond_f hF rfl hc5 (q_exit (x_sq ?_))
    obtain rfl:=someI hb1
    exact ⟨nofun,.inl ⟨_,_,rfl,rfl,hF.sub ⟨rfl,rfl,rfl,trivial⟩,hS⟩⟩
   ·have hb1:=cond_t hc5 hb1
    refine q_cond_t hF rfl hc5 (q_skipc (n_sq (q_block (q_seq (q_seq ?_)))))
    obtain ⟨t_6,hj6,hb1⟩:=bindS hb1
    refine q_join (fun a w=>Fr a 50 [(0,(strV p_s)),(1,(iV p_most)),(7,(iV n_1)),(8,(iV i_2)),(30,(.bool t_6))]∧St [] w0 w m []) ?_ ?_
    ·refine q_region (q_m hF rfl fun a hF=>q_y (v:=(.bool (decide (0 < i_2)))) hF hS (ex_ibin rfl rfl rfl) fun a hF=>q_m hF rfl fun a hF=>?_)
     rcases bcase (decide (0 < i_2)) with hc7 | hc7
     ·have hj6:=cond_f hc7 hj6
      refine q_k hF hc7 fun a hF=>q_k hF hc7 fun a hF=>q_y (v:=(.bool false)) hF hS (ex_pick_f rfl rfl hc7) fun a hF=>q_end (n_jn ?_)
      obtain rfl:=someI hj6
      exact ⟨hF.sub ⟨rfl,rfl,rfl,rfl,rfl,trivial⟩,hS⟩
     ·have hj6:=cond_t hc7 hj6
      refine q_g (v:=(iV n_1)) hF hS (ex_move rfl) hc7 fun a hF=>q_g (v:=(.bool (n_1 == 0))) hF hS (ex_ibin rfl rfl rfl) hc7 fun a hF=>q_y (v:=(.bool (n_1 == 0))) hF hS (ex_pick_t rfl rfl hc7) fun a hF=>q_end (n_jn ?_)
      obtain rfl:=someI hj6
      exact ⟨hF.sub ⟨rfl,rfl,rfl,rfl,rfl,trivial⟩,hS⟩
    ·rintro a w ⟨hF,hS⟩
     refine n_sq ?_
     rcases bcase (t_6) with hc8 | hc8
     ·have hb1:=cond_f hc8 hb1
      refine q_cond_f hF rfl hc8 (q_skipc (n_sq (q_sr (q_m hF rfl fun a hF=>q_y (v:=(iV (w64 (n_1 * 10)))) hF hS (ex_ibin rfl rfl rfl) fun a hF=>q_m hF rfl fun a hF=>q_m hF rfl fun a hF=>?_))))
      obtain ⟨t_7,ht_7,hb1⟩:=bindS hb1
      refine q_y (v:=(.int .u8 t_7)) hF hS (ex_strIdx U9 rfl rfl ht_7) fun a hF=>q_y (v:=(.int .u8 (IntKind.wrap .u8 (t_7 - 48)))) hF hS (ex_ibin rfl rfl rfl) fun a hF=>q_y (v:=(iV (w64 (IntKind.wrap .u8 (t_7 - 48))))) hF hS (ex_conv U5 U3 rfl) fun a hF=>q_y (v:=(iV (w64 ((w64 (n_1 * 10)) + (w64 (IntKind.wrap .u8 (t_7 - 48))))))) hF hS (ex_ibin rfl rfl rfl) fun a hF=>q_s hF rfl fun a hF=>q_end (n_sq (q_seq (q_sr (q_m hF rfl fun a hF=>q_m hF rfl fun a hF=>q_y (v:=(.bool (decide (p_most < (w64 ((w64 (n_1 * 10)) + (w64 (IntKind.wrap .u8 (t_7 - 48))))))))) hF hS (ex_ibin rfl rfl rfl) fun a hF=>q_end (n_sq ?_)))))
      rcases bcase (decide (p_most < (w64 ((w64 (n_1 * 10)) + (w64 (IntKind.wrap .u8 (t_7 - 48))))))) with hc9 | hc9
      ·have hb1:=cond_f hc9 hb1
       refine q_cond_f hF rfl hc9 (q_skipc (n_sq (q_region (q_m hF rfl fun a hF=>q_y (v:=(iV (w64 (i_2 + 1)))) hF hS (ex_ibin rfl rfl rfl) fun a hF=>q_s hF rfl fun a hF=>q_end (n_ib ?_)))))
       obtain rfl:=someI hb1
       exact ⟨rfl,_,_,rfl,hF.sub ⟨rfl,rfl,rfl,rfl,trivial⟩,hS⟩
      ·have hb1:=cond_t hc9 hb1
       refine q_cond_t hF rfl hc9 (q_sr (q_s hF rfl fun a hF=>q_s hF rfl fun a hF=>q_s hF rfl fun a hF=>q_end (n_sq (q_ret (r_sq (r_ib ?_))))))
       obtain rfl:=someI hb1
       refine ⟨nofun,.inr fun ho=>?_⟩
       subst ho
       refine r_ib (r_sq ?_)
       obtain rfl:=someI hr
       exact ret_of hF hS rfl (.tmp rfl (.tmp rfl (.tmp rfl .nil))) rfl
     ·have hb1:=cond_t hc8 hb1
      refine q_cond_t hF rfl hc8 (q_sr (q_s hF rfl fun a hF=>q_s hF rfl fun a hF=>q_s hF rfl fun a hF=>q_end (n_sq (q_ret (r_sq (r_ib ?_))))))
      obtain rfl:=someI hb1
      refine ⟨nofun,.inr fun ho=>?_⟩
      subst ho
      refine r_ib (r_sq ?_)
      obtain rfl:=someI hr
      exact ret_of hF hS rfl (.tmp rfl (.tmp rfl (.tmp rfl .nil))) rfl
 ·rintro e a w ⟨n_8,i_9,rfl,rfl,hF,hS⟩
  refine x_ib (n_sq ?_)
  refine q_seq (q_sr (q_m hF rfl fun a hF=>q_y (v:=(.bool (i_9 == 0))) hF hS (ex_ibin rfl rfl rfl) fun a hF=>q_end (n_sq ?_)))
  rcases bcase (i_9 == 0) with hc10 | hc10
  ·have hr:=cond_f hc10 hr
   refine q_cond_f hF rfl hc10 (q_skipc (n_sq (q_seq (e_region ⟨[],[]⟩ mixed fun w' hw'=>?_))))
   have hS:=hS.below hw'
   refine e_P (v:=(iV n_8)) 0 hF rfl (ex_move rfl) fun a hF=>e_P (v:=(strV p_s)) 1 hF rfl (ex_move rfl) fun a hF=>e_P (v:=(iV i_9)) 2 hF rfl (ex_move rfl) fun a hF=>?_
   obtain ⟨t_10,ht_10,hr⟩:=bindS hr
   refine e_P (v:=(strV t_10)) 3 hF rfl (ex_strSub U9 rfl rfl rfl (.inr ⟨_,rfl⟩) (.inl ⟨rfl,rfl⟩) ht_10) fun a hF=>e_P (v:=(iV n_8)) 4 hF rfl (ex_assign rfl) fun a hF=>e_P (v:=(strV t_10)) 5 hF rfl (ex_assign rfl) fun a hF=>e_P (v:=(.bool true)) 6 hF rfl (ex_assign rfl) fun a hF=>e_end (by kernel_rfl) (n_sq (q_ret ?_)) _
   obtain rfl:=someI hr
   exact ret_of hF hS rfl (.tmp rfl (.tmp rfl (.tmp rfl .nil))) rfl
  ·have hr:=cond_t hc10 hr
   refine q_cond_t hF rfl hc10 (q_sr (q_s hF rfl fun a hF=>q_s hF rfl fun a hF=>q_s hF rfl fun a hF=>q_end (n_sq (q_ret (r_sq ?_)))))
   obtain rfl:=someI hr
   exact ret_of hF hS rfl (.tmp rfl (.tmp rfl (.tmp rfl .nil))) rfl

theorem c_impl_wholeNatural (p_s : List UInt8) (p_most : Int) (r : Int × Bool) (hr : impl_wholeNatural p_s p_most = some r) (w0 : World) (m : Mem) (hv : Vis m w0) :
  Ret Tryz.prog 123 [(strV p_s),(iV p_most)] w0 (fun v _=>v = (.tuple #[(iV r.1),(.bool r.2)])):=by
 unfold impl_wholeNatural at hr
 refine ret_start Tryz.func123 rfl 23 rfl rfl m hv fun a hF hS=>q_sr (q_s hF rfl fun a hF=>q_s hF rfl fun a hF=>q_end (n_sq (q_sr (q_m hF rfl fun a hF=>q_m hF rfl fun a hF=>?_))))
 obtain ⟨t_1,ht_1,hr⟩:=bindS hr
 refine q_call (vs:=[(strV p_s),(iV p_most)]) hF hS Tryz.func142 (by kernel_rfl) rfl rfl rfl (c_impl_readNatural p_s p_most t_1 ht_1 _ m hS.vis) ?_
 rintro a w _ rfl hF hS
 refine q_m hF rfl fun a hF=>q_y (v:=(iV t_1.1)) hF hS (ex_extract rfl rfl) fun a hF=>q_y (v:=(strV t_1.2.1)) hF hS (ex_extract rfl rfl) fun a hF=>q_y (v:=(.bool t_1.2.2)) hF hS (ex_extract rfl rfl) fun a hF=>q_s hF rfl fun a hF=>q_s hF rfl fun a hF=>q_s hF rfl fun a hF=>q_end (n_sq (q_seq (q_seq ?_)))
 obtain ⟨t_2,hj1,hr⟩:=bindS hr
 refine q_join (fun a w=>Fr a 23 [(6,(iV t_1.1)),(21,(.bool t_2))]∧St [] w0 w m []) ?_ ?_
 ·refine q_region (q_m hF rfl fun a hF=>q_y (v:=(.bool (!t_1.2.2))) hF hS (ex_not rfl) fun a hF=>q_m hF rfl fun a hF=>?_)
  rcases bcase (!t_1.2.2) with hc2 | hc2
  ·have hj1:=cond_f hc2 hj1
   refine q_g (v:=(strV t_1.2.1)) hF hS (ex_move rfl) hc2 fun a hF=>q_g (v:=(.bool (t_1.2.1 != ([] : List UInt8)))) hF hS (ex_strNe rfl rfl) hc2 fun a hF=>q_y (v:=(.bool (t_1.2.1 != ([] : List UInt8)))) hF hS (ex_pick_f rfl rfl hc2) fun a hF=>q_end (n_jn ?_)
   obtain rfl:=someI hj1
   exact ⟨hF.sub ⟨rfl,rfl,trivial⟩,hS⟩
  ·have hj1:=cond_t hc2 hj1
   refine q_k hF hc2 fun a hF=>q_k hF hc2 fun a hF=>q_y (v:=(.bool true)) hF hS (ex_pick_t rfl rfl hc2) fun a hF=>q_end (n_jn ?_)
   obtain rfl:=someI hj1
   exact ⟨hF.sub ⟨rfl,rfl,trivial⟩,hS⟩
 ·rintro a w ⟨hF,hS⟩
  refine n_sq ?_
  rcases bcase (t_2) with hc3 | hc3
  ·have hr:=cond_f hc3 hr
   refine q_cond_f hF rfl hc3 (q_skipc (n_sq (q_sr (q_m hF rfl fun a hF=>q_s hF rfl fun a hF=>q_s hF rfl fun a hF=>q_end (n_sq (q_ret ?_))))))
   obtain rfl:=someI hr
   exact ret_of hF hS rfl (.tmp rfl (.tmp rfl .nil)) rfl
  ·have hr:=cond_t hc3 hr
   refine q_cond_t hF rfl hc3 (q_sr (q_s hF rfl fun a hF=>q_s hF rfl fun a hF=>q_end (n_sq (q_ret (r_sq ?_)))))
   obtain rfl:=someI hr
   exact ret_of hF hS rfl (.tmp rfl (.tmp rfl .nil)) rfl

theorem c_impl_wholeNaturalIf (p_ok : Bool) (p_s : List UInt8) (p_most : Int) (r : Int × Bool) (hr : impl_wholeNaturalIf p_ok p_s p_most = some r) (w0 : World) (m : Mem) (hv : Vis m w0) :
  Ret Tryz.prog 84 [(.bool p_ok),(strV p_s),(iV p_most)] w0 (fun v _=>v = (.tuple #[(iV r.1),(.bool r.2)])):=by
 unfold impl_wholeNaturalIf at hr
 refine ret_start Tryz.func84 rfl 21 rfl rfl m hv fun a hF hS=>q_sr (q_s hF rfl fun a hF=>q_s hF rfl fun a hF=>q_end (n_sq (q_sr (q_m hF rfl fun a hF=>q_m hF rfl fun a hF=>?_))))
 obtain ⟨t_1,ht_1,hr⟩:=bindS hr
 refine q_call (vs:=[(strV p_s),(iV p_most)]) hF hS Tryz.func123 (by kernel_rfl) rfl rfl rfl (c_impl_wholeNatural p_s p_most t_1 ht_1 _ m hS.vis) ?_
 rintro a w _ rfl hF hS
 refine q_m hF rfl fun a hF=>q_y (v:=(iV t_1.1)) hF hS (ex_extract rfl rfl) fun a hF=>q_y (v:=(.bool t_1.2)) hF hS (ex_extract rfl rfl) fun a hF=>q_s hF rfl fun a hF=>q_s hF rfl fun a hF=>q_end (n_sq (q_seq ?_))
 obtain ⟨t_2,hj1,hr⟩:=bindS hr
 refine q_join (fun a w=>Fr a 21 [(6,(iV t_1.1)),(7,(.bool t_2))]∧St [] w0 w m []) ?_ ?_
 ·refine q_region (q_m hF rfl fun a hF=>q_m hF rfl fun a hF=>q_m hF rfl fun a hF=>?_)
  rcases bcase (p_ok) with hc2 | hc2
  ·have hj1:=cond_f hc2 hj1
   refine q_k hF hc2 fun a hF=>q_y (v:=(.bool false)) hF hS (ex_pick_f rfl rfl hc2) fun a hF=>q_s hF rfl fun a hF=>q_s hF rfl fun a hF=>q_end (n_jn ?_)
   obtain rfl:=someI hj1
   exact ⟨hF.sub ⟨rfl,rfl,trivial⟩,hS⟩
  ·have hj1:=cond_t hc2 hj1
   refine q_g (v:=(.bool t_1.2)) hF hS (ex_move rfl) hc2 fun a hF=>q_y (v:=(.bool t_1.2)) hF hS (ex_pick_t rfl rfl hc2) fun a hF=>q_s hF rfl fun a hF=>q_s hF rfl fun a hF=>q_end (n_jn ?_)
   obtain rfl:=someI hj1
   exact ⟨hF.sub ⟨rfl,rfl,trivial⟩,hS⟩
 ·rintro a w ⟨hF,hS⟩
  refine n_sq (q_ret ?_)
  obtain rfl:=someI hr
  exact ret_of hF hS rfl (.tmp rfl (.tmp rfl .nil)) rfl

theorem c_impl_parseSet (p_text : List UInt8) (p_levels : Int) (r : Int) (hr : impl_parseSet p_text p_levels = some r) (w0 : World) (m : Mem) (hv : Vis m w0) :
  Ret Tryz.prog 86 [(strV p_text),(iV p_levels)] w0 (fun v _=>v = (iV r)):=by
 unfold impl_parseSet at hr
 refine ret_startM Tryz.func86 rfl 33 rfl rfl m hv fun a hF hS hM=>q_sr (q_box (cs:=[(iV p_levels)]) hF hS rfl rfl rfl fun a w b1 hF hS=>q_alloc (cs:=[(iV 0)]) hF hS rfl rfl rfl fun a w b2 hF hS=>q_end (n_sq (q_sr (q_alloc (cs:=[(iV 0)]) hF hS rfl rfl rfl fun a w b3 hF hS=>q_alloc (cs:=[(iV 0)]) hF hS rfl rfl rfl fun a w b4 hF hS=>q_store (vs:=[(iV 0)]) (cs':=[(iV 0)]) 1 0 hF hS sz3 rfl rfl rfl rfl rfl rfl rfl rfl fun a w hF hS=>q_store (vs:=[(iV (-1))]) (cs':=[(iV (-1))]) 0 0 hF hS sz3 rfl rfl rfl rfl rfl rfl rfl rfl fun a w hF hS=>q_end (n_sq (q_seq (q_sr (q_m hF rfl fun a hF=>?_))))))))
 obtain ⟨u5,hu5,hr⟩:=bindS hr
 refine q_call (vs:=[(strV p_text),(strV ([44] : List UInt8))]) hF hS Tryz.func85 (by kernel_rfl) rfl rfl rfl (c_strings_SplitSeq p_text 44 m hS.vis) ?_
 rintro a w _ ⟨b5x,b5y,b5z,rfl,hR5⟩ hF hS2
 have hS : St _ _ _ _ [(PitS 44 p_text b5x b5y b5z),[⟨b4,[(iV (-1))],3⟩],[⟨b3,[(iV 0)],3⟩],[⟨b2,[(iV 0)],3⟩],[⟨b1,[(iV p_levels)],3⟩]]:=hS.joinF hR5
 refine q_end (n_sq (q_block ?_))
 obtain ⟨o1,hl1,hr⟩:=bindS hr
 refine q_rangeG (m0:=fun _=>none) (L:=[(3,(pP b1 0)),(4,(pP b2 0)),(5,(pP b3 0)),(6,(pP b4 0))]) (fun (s : Int × Int) (m_ : Mem) (O_ : List Piece)=>∃ last_6,∃ set_7,(last_6,set_7) = s∧m = m_∧[[⟨b4,[(iV last_6)],3⟩],[⟨b3,[(iV set_7)],3⟩],[⟨b2,[(iV 0)],3⟩],[⟨b1,[(iV p_levels)],3⟩]] = O_) (fun (o : Unit) (m_ : Mem) (O_ : List Piece)=>() = o∧m = m_∧[[⟨b2,[(iV 0)],3⟩]] = O_) hl1 hF ⟨rfl,rfl,rfl,rfl,trivial⟩ rfl Tryz.func143 (by kernel_rfl) rfl rfl rfl (it_split 44 p_text b5x b5y b5z (goSpl_lt hu5)) (hM.back hS).kept.size (fun _ _ h=>nomatch h) ⟨_,_,⟨_,_,rfl,rfl,rfl⟩,hM.sf (hS)⟩ ?_ ?_ ?_
 ·clear hF hS
  rintro lr Z8 p_8 _ q8 a w8 st _ _ hF ⟨last_6,set_7,rfl,rfl,rfl⟩ ⟨X8,hM8,hS⟩ hb1
  unfold impl_parseSet_l1 at hb1
  refine rr_block ?_
  refine rr_seq ?_
  refine rr_seq ?_
  refine rr_region rfl ?_
  refine q_m hF rfl fun a hF=>q_y (v:=(iV (goLen p_8))) hF hS (ex_strLen U9 rfl) fun a hF=>q_y (v:=(.bool ((goLen p_8) != 1))) hF hS (ex_ibin rfl rfl rfl) fun a hF=>rr_end (rn_sq ?_)
  rcases bcase ((goLen p_8) != 1) with hc2 | hc2
  ·have hb1:=cond_f hc2 hb1
   refine rr_cond_f hF rfl hc2 ?_
   refine rr_skipc (rn_sq ?_)
   refine rr_seq ?_
   refine rr_region rfl ?_
   refine q_m hF rfl fun a hF=>?_
   obtain ⟨t_9,ht_9,hb1⟩:=bindS hb1
   refine q_y (v:=(.int .u8 t_9)) hF hS (ex_strIdx U9 rfl rfl ht_9) fun a hF=>q_y (v:=(iV (w64 t_9))) hF hS (ex_conv U5 U3 rfl) fun a hF=>q_y (v:=(iV (w64 ((w64 t_9) - 48)))) hF hS (ex_ibin rfl rfl rfl) fun a hF=>q_s hF rfl fun a hF=>rr_end (rn_sq (rr_seq (rr_seq ?_)))
   obtain ⟨t_10,hj3,hb1⟩:=bindS hb1
   refine rr_join (fun a w=>Fr a 33 [(3,(pP b1 0)),(4,(pP b2 0)),(5,(pP b3 0)),(6,(pP b4 0)),(8,(iV (w64 ((w64 t_9) - 48)))),(26,(.bool t_10))]∧St X8 w8 w m [q8,[⟨b4,[(iV last_6)],3⟩],[⟨b3,[(iV set_7)],3⟩],[⟨b2,[(iV 0)],3⟩],[⟨b1,[(iV p_levels)],3⟩]]) ?_ ?_
   ·refine rr_region rfl ?_
    refine q_m hF rfl fun a hF=>q_y (v:=(iV last_6)) hF hS (ex_load1 1 0 U3 rfl rfl rfl rfl) fun a hF=>q_y (v:=(.bool (decide ((w64 ((w64 t_9) - 48)) ≤ last_6)))) hF hS (ex_ibin rfl rfl rfl) fun a hF=>q_m hF rfl fun a hF=>?_
    rcases bcase (decide ((w64 ((w64 t_9) - 48)) ≤ last_6)) with hc4 | hc4
    ·have hj3:=cond_f hc4 hj3
     refine q_g (v:=(iV (w64 ((w64 t_9) - 48)))) hF hS (ex_move rfl) hc4 fun a hF=>q_g (v:=(iV p_levels)) hF hS (ex_load1 4 0 U3 rfl rfl rfl rfl) hc4 fun a hF=>q_g (v:=(.bool (decide (p_levels ≤ (w64 ((w64 t_9) - 48)))))) hF hS (ex_ibin rfl rfl rfl) hc4 fun a hF=>q_y (v:=(.bool (decide (p_levels ≤ (w64 ((w64 t_9) - 48)))))) hF hS (ex_pick_f rfl rfl hc4) fun a hF=>rr_end (n_jn ?_)
     obtain rfl:=someI hj3
     exact ⟨hF.sub ⟨rfl,rfl,rfl,rfl,rfl,rfl,trivial⟩,hS⟩
    ·have hj3:=cond_t hc4 hj3
     refine q_k hF hc4 fun a hF=>q_k hF hc4 fun a hF=>q_k hF hc4 fun a hF=>q_y (v:=(.bool true)) hF hS (ex_pick_t rfl rfl hc4) fun a hF=>rr_end (n_jn ?_)
     obtain rfl:=someI hj3
     exact ⟨hF.sub ⟨rfl,rfl,rfl,rfl,rfl,rfl,trivial⟩,hS⟩
   ·rintro a w ⟨hF,hS⟩
    refine rn_sq ?_
    rcases bcase (t_10) with hc5 | hc5
    ·have hb1:=cond_f hc5 hb1
     refine rr_cond_f hF rfl hc5 ?_
     refine rr_skipc (rn_sq ?_)
     refine rr_seq ?_
     refine rr_eregion ⟨[4],[]⟩ mixed rfl fun w' hw'=>?_
     have hS:=hS.below hw'
     refine e_X (v:=(iV set_7)) 0 hF hS rfl (ex_load1 2 0 U3 rfl rfl rfl rfl) fun a hF=>e_P (v:=(iV (w64 ((w64 t_9) - 48)))) 1 hF rfl (ex_move rfl) fun a hF=>?_
     obtain ⟨t_11,ht_11,hb1⟩:=bindS hb1
     refine e_P (v:=(iV t_11)) 2 hF rfl (ex_shl rfl rfl ht_11) fun a hF=>e_P (v:=(iV (goBits .or .i64 set_7 t_11))) 3 hF rfl (ex_bits rfl rfl rfl) fun a hF=>e_one 4 (by kernel_rfl) (e_store (vs:=[(iV (goBits .or .i64 set_7 t_11))]) (cs':=[(iV (goBits .or .i64 set_7 t_11))]) 2 0 hF hS rfl rfl sz3 rfl rfl rfl rfl rfl rfl rfl rfl fun a w hF hS=>⟨kpN,?_⟩)
     refine e_end (by kernel_rfl) (rn_sq ?_) _
     refine rr_region rfl ?_
     refine q_m hF rfl fun a hF=>q_store (vs:=[(iV (w64 ((w64 t_9) - 48)))]) (cs':=[(iV (w64 ((w64 t_9) - 48)))]) 1 0 hF hS sz3 rfl rfl rfl rfl rfl rfl rfl rfl fun a w hF hS=>rr_end (n_ib ?_)
     obtain rfl:=someI hb1
     exact ⟨fun k r h=>hM8.kp hS h (fun _ _ _=>nofun),rfl,_,_,⟨_,_,rfl,rfl,rfl⟩,hM8.sf (hS)⟩
    ·have hb1:=cond_t hc5 hb1
     refine rr_cond_t hF rfl hc5 ?_
     refine rr_seq ?_
     refine rr_region rfl ?_
     refine q_store (vs:=[(iV 0)]) (cs':=[(iV 0)]) 3 0 hF hS sz3 rfl rfl rfl rfl rfl rfl rfl rfl fun a w hF hS=>rr_end (rn_sq (rr_ret (rret_sq (r_ib ?_))))
     obtain rfl:=someI hb1
     exact ⟨fun k r h=>hM8.kp hS h (fun _ _ _=>nofun),rfl,_,_,⟨rfl,rfl,rfl⟩,hM8.sf (hS.mask [true,false,false,true,false])⟩
  ·have hb1:=cond_t hc2 hb1
   refine rr_cond_t hF rfl hc2 ?_
   refine rr_seq ?_
   refine rr_region rfl ?_
   refine q_store (vs:=[(iV 0)]) (cs':=[(iV 0)]) 3 0 hF hS sz3 rfl rfl rfl rfl rfl rfl rfl rfl fun a w hF hS=>rr_end (rn_sq (rr_ret (rret_sq (r_ib ?_))))
   obtain rfl:=someI hb1
   exact ⟨fun k r h=>hM8.kp hS h (fun _ _ _=>nofun),rfl,_,_,⟨rfl,rfl,rfl⟩,hM8.sf (hS.mask [true,false,false,true,false])⟩
 ·rintro Z12 a w12 _ q12 _ _ hF ⟨last_6,set_7,rfl,rfl,rfl⟩ ⟨X12,hM12,hS⟩ hr12
  subst hr12
  refine n_ib (n_sq ?_)
  refine q_sr (q_y (v:=(iV set_7)) hF hS (ex_load1 2 0 U3 rfl rfl rfl rfl) fun a hF=>q_store (vs:=[(iV set_7)]) (cs':=[(iV set_7)]) 3 0 hF hS sz3 rfl rfl rfl rfl rfl rfl rfl rfl fun a w hF hS=>q_end (n_sq (q_ret ?_)))
  obtain rfl:=someI hr
  exact ret_ofM hM12 hF hS rfl (.cell1 3 0 U3 rfl rfl rfl rfl .nil) (fun w hS=>rfl)
 ·rintro Z12 a w12 _ q12 _ _ hF ⟨rfl,rfl,rfl⟩ ⟨X12,hM12,hS⟩ hr12
  subst hr12
  refine r_ib (r_sq ?_)
  obtain rfl:=someI hr
  exact ret_ofM hM12 hF hS rfl (.cell1 1 0 U3 rfl rfl rfl rfl .nil) (fun w hS=>rfl)

theorem c_impl_parseTable_1 (p_x0 : List (List UInt8)) (r : (List UInt8) × (List (List UInt8))) (hr : impl_parseTable_1 p_x0 = some r) (w0 : World) (m : Mem) (b_p_x0 : Nat) (s1 : Sl) (h1 : Rd m s1 p_x0) (X : List Nat) (hS : St X w0 w0 m [[⟨b_p_x0,[s1.v],80⟩]]) :
  RetX Tryz.prog 82 [(pP b_p_x0 0)] w0 (fun v w=>∃ (m' : Mem) (s0' : Sl),v = (strV r.1)∧MLe X w0.heap.size m m'∧St X w0 w m' [[⟨b_p_x0,[s0'.v],80⟩]]∧Rd m' s0' r.2):=by
 unfold impl_parseTable_1 at hr
 refine ret_startX Tryz.func82 rfl 12 rfl rfl fun a hF=>q_sr (q_s hF rfl fun a hF=>q_end (n_sq (q_seq (q_sr (q_y (v:=s1.v) hF hS (ex_load1 0 0 U80 rfl rfl rfl rfl) fun a hF=>q_y (v:=(iV (goLen p_x0))) hF hS (ex_len U80 rfl h1.len) fun a hF=>q_y (v:=(.bool ((goLen p_x0) == 0))) hF hS (ex_ibin rfl rfl rfl) fun a hF=>q_end (n_sq ?_))))))
 rcases bcase ((goLen p_x0) == 0) with hc1 | hc1
 ·have hr:=cond_f hc1 hr
  refine q_cond_f hF rfl hc1 (q_skipc (n_sq (q_sr (q_y (v:=s1.v) hF hS (ex_load1 0 0 U80 rfl rfl rfl rfl) fun a hF=>?_))))
  obtain ⟨e_2,he_2,hr⟩:=bindS hr
  obtain ⟨vs3,at3,d3⟩:=h1.at he_2 1 rfl
  obtain rfl : vs3 = [(strV e_2)]:=d3
  refine q_y (v:=(elP s1 ((0 : Int).toNat * 1))) hF hS (ex_indexAddr U80 sz9 rfl rfl (h1.idx he_2)) fun a hF=>q_y (v:=(strV e_2)) hF hS (ex_loadE1 0 U9 rfl rfl ((at3).at) rfl rfl) fun a hF=>q_s hF rfl fun a hF=>q_end (n_sq (q_sr (q_y (v:=s1.v) hF hS (ex_load1 0 0 U80 rfl rfl rfl rfl) fun a hF=>?_)))
  obtain ⟨l_4,hl_4,hr⟩:=bindS hr
  have h5 : Rd m (subS s1 1 (1 : Int).toNat (goLen p_x0).toNat s1.cap) l_4:=h1.sub' hl_4 1 rfl
  refine q_y (v:=(subS s1 1 (1 : Int).toNat (goLen p_x0).toNat s1.cap).v) hF hS (ex_slice U80 sz9 rfl rfl rfl (.inr ⟨_,rfl⟩) (.inl ⟨rfl,h1.jlen⟩) (h1.subok hl_4)) fun a hF=>q_store (vs:=[(subS s1 1 (1 : Int).toNat (goLen p_x0).toNat s1.cap).v]) (cs':=[(subS s1 1 (1 : Int).toNat (goLen p_x0).toNat s1.cap).v]) 0 0 hF hS sz80 rfl rfl rfl rfl rfl rfl rfl rfl fun a w hF hS=>q_end (n_sq (q_sr (q_m hF rfl fun a hF=>q_s hF rfl fun a hF=>q_end (n_sq (q_ret ?_)))))
  obtain rfl:=someI hr
  exact ret_ofX hF hS rfl (.tmp rfl .nil) ⟨m,(subS s1 1 (1 : Int).toNat (goLen p_x0).toNat s1.cap),rfl,(MLe.refl _ _),hS.sel [0] (by decide),h5⟩
 ·have hr:=cond_t hc1 hr
  refine q_cond_t hF rfl hc1 (q_sr (q_s hF rfl fun a hF=>q_end (n_sq (q_ret (r_sq ?_)))))
  obtain rfl:=someI hr
  exact ret_ofX hF hS rfl (.tmp rfl .nil) ⟨m,s1,rfl,(MLe.refl _ _),hS.sel [0] (by decide),h1⟩

theorem c_impl_parseTable (p_s : List impl_Variable) (p_x : List UInt8) (r : impl_Table × Bool) (hr : impl_parseTable p_s p_x = some r) (w0 : World) (m : Mem) (hv : Vis m w0) (ht : Tbl m) (s1 : Sl) (h1 : Rd m s1 p_s) :
  Ret Tryz.prog 36 [s1.v,(strV p_x)] w0 (fun v w=>∃ (m' : Mem) (q0' : Piece) (q1' : Piece) (s0' : Sl) (s1' : Sl),v = (.tuple #[(.agg #[(iV r.1.Level),s0'.v,s1'.v,(iV r.1.Sum)]),(.bool r.2)])∧MLe [] w0.heap.size m m'∧St [] w0 w m' [q0',q1']∧OwnL m' 3 q0' s0' r.1.Vars∧OwnL m' 3 q1' s1' r.1.Where):=by
 unfold impl_parseTable at hr
 refine ret_startM Tryz.func36 rfl 117 rfl rfl m hv fun a hF hS hM=>q_sr (q_box (cs:=[s1.v]) hF hS rfl rfl rfl fun a w b2 hF hS=>q_alloc (cs:=[(iV 0),nilS.v,nilS.v,(iV 0)]) hF hS rfl rfl rfl fun a w b3 hF hS=>q_alloc (cs:=[(.bool false)]) hF hS rfl rfl rfl fun a w b4 hF hS=>q_end (n_sq (q_sr (q_y (v:=s1.v) hF hS (ex_load1 2 0 U27 rfl rfl rfl rfl) fun a hF=>q_y (v:=(iV (goLen p_s))) hF hS (ex_len U27 rfl h1.len) fun a hF=>?_))))
 obtain ⟨l_5,hl_5,hr⟩:=bindS hr
 refine q_do rfl fun _ hK=>wp_make (z:=(0 : Int)) hF hS U24 inf3 rfl rfl rfl rfl rfl (by decide) hl_5 rfl fun a w q6 s6 hF hS h6 _=>hK _ _ (q_y (v:=(.agg #[(iV 0),nilS.v,s6.v,(iV (-1))])) hF hS (ex_build (cells:=[(iV 0),nilS.v,s6.v,(iV (-1))]) rfl (by kernel_rfl)) fun a hF=>q_alloc (cs:=[(iV 0),nilS.v,nilS.v,(iV 0)]) hF hS rfl rfl rfl fun a w b7 hF hS=>q_store (vs:=[(iV 0),nilS.v,s6.v,(iV (-1))]) (cs':=[(iV 0),nilS.v,s6.v,(iV (-1))]) 0 0 hF hS sz29 rfl rfl rfl rfl rfl rfl rfl rfl fun a w hF hS=>q_end (n_sq (q_sr (q_m hF rfl fun a hF=>?_))))
 obtain ⟨t_8,ht_8,hr⟩:=bindS hr
 refine q_call (vs:=[(strV p_x),(strV ([32] : List UInt8))]) hF hS Tryz.func81 (by kernel_rfl) rfl rfl rfl (c_strings_Split p_x ([32] : List UInt8) t_8 ht_8 _ m hS.vis ht) ?_
 rintro a w _ ⟨q10,s10,rfl,hR9,h10⟩ hF hS2
 have hS : St _ _ _ _ [q10,[⟨b7,[(iV 0),nilS.v,s6.v,(iV (-1))],29⟩],q6,[⟨b4,[(.bool false)],4⟩],[⟨b3,[(iV 0),nilS.v,nilS.v,(iV 0)],29⟩],[⟨b2,[s1.v],27⟩]]:=hS.joinF hR9
 refine q_alloc (cs:=[nilS.v]) hF hS rfl rfl rfl fun a w b11 hF hS=>q_store (vs:=[s10.v]) (cs':=[s10.v]) 0 0 hF hS sz80 rfl rfl rfl rfl rfl rfl rfl rfl fun a w hF hS=>q_end (n_sq (q_sr (q_y (v:=(.func (.func 82) #[] #[(pP b11 0)])) hF hS (ex_makeFunc rfl) fun a hF=>q_s hF rfl fun a hF=>q_end (n_sq (q_seq (q_sr (q_m hF rfl fun a hF=>?_)))))))
 have hS : St _ _ _ _ [q10,[⟨b11,[s10.v],80⟩],[⟨b7,[(iV 0),nilS.v,s6.v,(iV (-1))],29⟩],q6,[⟨b4,[(.bool false)],4⟩],[⟨b3,[(iV 0),nilS.v,nilS.v,(iV 0)],29⟩],[⟨b2,[s1.v],27⟩]]:=hS.sel [1,0,2,3,4,5,6] (by decide)
 obtain ⟨m12,hm12,hS,hz12⟩:=hS.freeze
 have hm12:=hM.mle hm12
 have h12:=h10.froz hm12.le hz12
 have hS13 : St _ _ _ _ ([[⟨b11,[s10.v],80⟩]]++[[⟨b7,[(iV 0),nilS.v,s6.v,(iV (-1))],29⟩],q6,[⟨b4,[(.bool false)],4⟩],[⟨b3,[(iV 0),nilS.v,nilS.v,(iV 0)],29⟩],[⟨b2,[s1.v],27⟩]]):=hS
 have hE13:=hS13.enter
 obtain ⟨t_14,ht_14,hr⟩:=bindS hr
 refine q_do rfl fun _ hK=>wp_callV (vs:=[]) (cap:=[(pP b11 0)]) hF rfl Tryz.func82 (by kernel_rfl) rfl rfl rfl (c_impl_parseTable_1 t_8 t_14 ht_14 _ m12 b11 s10 h12 _ hE13) fun a w _ hR hF=>hK _ _ ?_
 obtain ⟨m13',s15,rfl,hm13,hR13,h15⟩:=hR
 have hS : St _ _ _ _ [[⟨b11,[s15.v],80⟩],[⟨b7,[(iV 0),nilS.v,s6.v,(iV (-1))],29⟩],q6,[⟨b4,[(.bool false)],4⟩],[⟨b3,[(iV 0),nilS.v,nilS.v,(iV 0)],29⟩],[⟨b2,[s1.v],27⟩]]:=hS13.leave hR13 hm13
 have hm13:=MLe.weakX hS13 hm13
 have hm13:=hM.mle hm13
 refine q_end (n_sq (q_block (q_sr (q_y (v:=(.bool (t_14.1 == ([99,111,117,110,116] : List UInt8)))) hF hS (ex_strEq rfl rfl) fun a hF=>q_s hF rfl fun a hF=>q_end (n_sq ?_)))))
 obtain ⟨j1,hj1,hr⟩:=bindS hr
 refine q_join (fun a w=>∃ (m24 : Mem),∃ (s21 : Sl),∃ words_20,∃ t_22,j1 = .inl (words_20,t_22)∧Fr a 117 [(2,(pP b2 0)),(4,(pP b3 0)),(5,(pP b4 0)),(6,(pP b7 0)),(7,(pP b11 0)),(8,(.func (.func 82) #[] #[(pP b11 0)]))]∧St [] w0 w m24 [q6,[⟨b11,[s21.v],80⟩],[⟨b7,[(iV t_22.Level),nilS.v,s6.v,(iV t_22.Sum)],29⟩],[⟨b4,[(.bool false)],4⟩],[⟨b3,[(iV 0),nilS.v,nilS.v,(iV 0)],29⟩],[⟨b2,[s1.v],27⟩]]∧MLe [] w0.heap.size m13' m24∧Rd m24 s21 words_20∧OwnL m24 3 q6 s6 t_22.Where) ?_ ?_
 ·rcases bcase (t_14.1 == ([99,111,117,110,116] : List UInt8)) with hc2 | hc2
  ·have hj1:=cond_f hc2 hj1
   refine q_cond_f hF rfl hc2 (q_sr (q_y (v:=(.bool (t_14.1 == ([115,117,109] : List UInt8)))) hF hS (ex_strEq rfl rfl) fun a hF=>q_s hF rfl fun a hF=>q_end (n_sq ?_)))
   rcases bcase (t_14.1 == ([115,117,109] : List UInt8)) with hc3 | hc3
   ·have hj1:=cond_f hc3 hj1
    refine q_cond_f hF rfl hc3 (q_sr (q_y (v:=(.agg #[(iV 0),nilS.v,nilS.v,(iV 0)])) hF hS (ex_build (cells:=[(iV 0),nilS.v,nilS.v,(iV 0)]) rfl (by kernel_rfl)) fun a hF=>q_store (vs:=[(iV 0),nilS.v,nilS.v,(iV 0)]) (cs':=[(iV 0),nilS.v,nilS.v,(iV 0)]) 4 0 hF hS sz29 rfl rfl rfl rfl rfl rfl rfl rfl fun a w hF hS=>q_store (vs:=[(.bool false)]) (cs':=[(.bool false)]) 3 0 hF hS sz4 rfl rfl rfl rfl rfl rfl rfl rfl fun a w hF hS=>q_end (n_sq (q_ret (r_jn ?_)))))
    obtain rfl:=someI hj1
    refine r_ib (r_sq ?_)
    obtain rfl:=someI hr
    exact ret_ofM hM hF hS rfl (.cellA (us:=[(iV 0),nilS.v,nilS.v,(iV 0)]) 4 0 U29 rfl sz29 rfl rfl rfl rfl (.cell1 3 0 U4 rfl rfl rfl rfl .nil)) (fun w hS=>⟨m13',[],[],nilS,nilS,rfl,(hm12.trans hm13),hS.sel [6,7] (by decide),(OwnL.nil (α:=Int) m13' 3),(OwnL.nil (α:=Int) m13' 3)⟩)
   ·have hj1:=cond_t hc3 hj1
    refine q_cond_t hF rfl hc3 (q_seq (e_region ⟨[2,5],[b2]⟩ mixed fun w' hw'=>?_))
    have hS:=hS.below hw'
    refine e_xb (v:=s1.v) 0 5 hF hS (.head _) rfl rfl (ex_load1 0 0 U27 rfl rfl rfl rfl) rfl rfl (by kernel_rfl) (by kernel_rfl) (by kernel_rfl) fun a hF=>e_P (v:=(.func (.func 82) #[] #[(pP b11 0)])) 1 hF rfl (ex_move rfl) fun a hF=>e_one 2 (by kernel_rfl) ?_
    have hS16 : St _ _ _ _ ([[⟨b11,[s15.v],80⟩]]++[[⟨b7,[(iV 0),nilS.v,s6.v,(iV (-1))],29⟩],q6,[⟨b4,[(.bool false)],4⟩],[⟨b3,[(iV 0),nilS.v,nilS.v,(iV 0)],29⟩],[⟨b2,[s1.v],27⟩]]):=hS
    have hE16:=hS16.enter
    obtain ⟨t_17,ht_17,hj1⟩:=bindS hj1
    have hSo:=hS
    refine e_opl rfl rfl rfl fun _ hK=>wp_callV (vs:=[]) (cap:=[(pP b11 0)]) hF rfl Tryz.func82 (by kernel_rfl) rfl rfl rfl (c_impl_parseTable_1 t_14.2 t_17 ht_17 _ m13' b11 s15 h15 _ hE16) fun a w _ hR hF=>hK _ _ ?_
    obtain ⟨m16',s18,rfl,hm16,hR16,h18⟩:=hR
    have hS : St _ _ _ _ [[⟨b11,[s18.v],80⟩],[⟨b7,[(iV 0),nilS.v,s6.v,(iV (-1))],29⟩],q6,[⟨b4,[(.bool false)],4⟩],[⟨b3,[(iV 0),nilS.v,nilS.v,(iV 0)],29⟩],[⟨b2,[s1.v],27⟩]]:=hS16.leave hR16 hm16
    have hm16:=MLe.weakX hS16 hm16
    have hm16:=hM.mle hm16
    refine ⟨kpC hSo hS 5 5 rfl rfl kpN,?_⟩
    refine e_one 3 (by kernel_rfl) ?_
    obtain ⟨t_19,ht_19,hj1⟩:=bindS hj1
    refine e_call (vs:=[s1.v,(strV t_17.1)]) hF hS rfl Tryz.func83 (by kernel_rfl) rfl rfl rfl (c_impl_nameIndex p_s t_17.1 t_19 ht_19 _ m16' hS.vis s1 (((h1.mono hm12.le).mono hm13.le).mono hm16.le)) ?_
    rintro a w _ rfl hF hS
    refine e_P (v:=(pP b7 3)) 4 hF rfl (ex_fieldAddr U29 rfl sz3 rfl rfl) fun a hF=>e_one 5 (by kernel_rfl) ?_
    have hSo:=hS
    refine e_store (vs:=[(iV t_19)]) (cs':=[(iV 0),nilS.v,s6.v,(iV t_19)]) 1 0 hF hS rfl rfl sz3 rfl rfl rfl rfl rfl rfl rfl rfl fun a w hF hS=>⟨kpC hSo hS 5 5 rfl rfl kpN,?_⟩
    refine e_end (by kernel_rfl) (n_sq ?_) _
    refine q_sr (q_y (v:=(pP b7 3)) hF hS (ex_fieldAddr U29 rfl sz3 rfl rfl) fun a hF=>q_y (v:=(iV t_19)) hF hS (ex_load1 1 0 U3 rfl rfl rfl rfl) fun a hF=>q_y (v:=(.bool (decide (t_19 < 0)))) hF hS (ex_ibin rfl rfl rfl) fun a hF=>q_end (n_sq ?_))
    rcases bcase (decide (t_19 < 0)) with hc4 | hc4
    ·have hj1:=cond_f hc4 hj1
     refine q_cond_f hF rfl hc4 (q_skipc (n_jn ?_))
     obtain rfl:=someI hj1
     exact ⟨m16',s18,_,_,rfl,hF.sub ⟨rfl,rfl,rfl,rfl,rfl,rfl,trivial⟩,hS.sel [2,0,1,3,4,5] (by decide),hm16,h18,(((h6.mono hm12.le).mono hm13.le).mono hm16.le)⟩
    ·have hj1:=cond_t hc4 hj1
     refine q_cond_t hF rfl hc4 (q_sr (q_y (v:=(.agg #[(iV 0),nilS.v,nilS.v,(iV 0)])) hF hS (ex_build (cells:=[(iV 0),nilS.v,nilS.v,(iV 0)]) rfl (by kernel_rfl)) fun a hF=>q_store (vs:=[(iV 0),nilS.v,nilS.v,(iV 0)]) (cs':=[(iV 0),nilS.v,nilS.v,(iV 0)]) 4 0 hF hS sz29 rfl rfl rfl rfl rfl rfl rfl rfl fun a w hF hS=>q_store (vs:=[(.bool false)]) (cs':=[(.bool false)]) 3 0 hF hS sz4 rfl rfl rfl rfl rfl rfl rfl rfl fun a w hF hS=>q_end (n_sq (q_ret (r_jn ?_)))))
     obtain rfl:=someI hj1
     refine r_ib (r_sq ?_)
     obtain rfl:=someI hr
     exact ret_ofM hM hF hS rfl (.cellA (us:=[(iV 0),nilS.v,nilS.v,(iV 0)]) 4 0 U29 rfl sz29 rfl rfl rfl rfl (.cell1 3 0 U4 rfl rfl rfl rfl .nil)) (fun w hS=>⟨m16',[],[],nilS,nilS,rfl,((hm12.trans hm13).trans hm16),hS.sel [6,7] (by decide),(OwnL.nil (α:=Int) m16' 3),(OwnL.nil (α:=Int) m16' 3)⟩)
  ·have hj1:=cond_t hc2 hj1
   refine q_cond_t hF rfl hc2 (q_skipc (n_jn ?_))
   obtain rfl:=someI hj1
   exact ⟨m13',s15,_,_,rfl,hF.sub ⟨rfl,rfl,rfl,rfl,rfl,rfl,trivial⟩,hS.sel [2,0,1,3,4,5] (by decide),(MLe.refl _ _),h15,((h6.mono hm12.le).mono hm13.le)⟩
 ·rintro a w ⟨m24,s21,words_20,t_22,rfl,hF,hS,hm24,h21,h23⟩
  refine n_ib (n_sq ?_)
  refine q_sr (q_m hF rfl fun a hF=>?_)
  have hS : St _ _ _ _ [[⟨b11,[s21.v],80⟩],q6,[⟨b7,[(iV t_22.Level),nilS.v,s6.v,(iV t_22.Sum)],29⟩],[⟨b4,[(.bool false)],4⟩],[⟨b3,[(iV 0),nilS.v,nilS.v,(iV 0)],29⟩],[⟨b2,[s1.v],27⟩]]:=hS.sel [1,0,2,3,4,5] (by decide)
  have hS25 : St _ _ _ _ ([[⟨b11,[s21.v],80⟩]]++[q6,[⟨b7,[(iV t_22.Level),nilS.v,s6.v,(iV t_22.Sum)],29⟩],[⟨b4,[(.bool false)],4⟩],[⟨b3,[(iV 0),nilS.v,nilS.v,(iV 0)],29⟩],[⟨b2,[s1.v],27⟩]]):=hS
  have hE25:=hS25.enter
  obtain ⟨t_26,ht_26,hr⟩:=bindS hr
  refine q_do rfl fun _ hK=>wp_callV (vs:=[]) (cap:=[(pP b11 0)]) hF rfl Tryz.func82 (by kernel_rfl) rfl rfl rfl (c_impl_parseTable_1 words_20 t_26 ht_26 _ m24 b11 s21 h21 _ hE25) fun a w _ hR hF=>hK _ _ ?_
  obtain ⟨m25',s27,rfl,hm25,hR25,h27⟩:=hR
  have hS : St _ _ _ _ [[⟨b11,[s27.v],80⟩],q6,[⟨b7,[(iV t_22.Level),nilS.v,s6.v,(iV t_22.Sum)],29⟩],[⟨b4,[(.bool false)],4⟩],[⟨b3,[(iV 0),nilS.v,nilS.v,(iV 0)],29⟩],[⟨b2,[s1.v],27⟩]]:=hS25.leave hR25 hm25
  have hm25:=MLe.weakX hS25 hm25
  have hm25:=hM.mle hm25
  refine q_y (v:=(.bool (t_26.1 == ([108,101,118,101,108] : List UInt8)))) hF hS (ex_strEq rfl rfl) fun a hF=>q_s hF rfl fun a hF=>q_end (n_sq (q_sr (q_m hF rfl fun a hF=>q_m hF rfl fun a hF=>?_)))
  have hS28 : St _ _ _ _ ([[⟨b11,[s27.v],80⟩]]++[q6,[⟨b7,[(iV t_22.Level),nilS.v,s6.v,(iV t_22.Sum)],29⟩],[⟨b4,[(.bool false)],4⟩],[⟨b3,[(iV 0),nilS.v,nilS.v,(iV 0)],29⟩],[⟨b2,[s1.v],27⟩]]):=hS
  have hE28:=hS28.enter
  obtain ⟨t_29,ht_29,hr⟩:=bindS hr
  refine q_do rfl fun _ hK=>wp_callV (vs:=[]) (cap:=[(pP b11 0)]) hF rfl Tryz.func82 (by kernel_rfl) rfl rfl rfl (c_impl_parseTable_1 t_26.2 t_29 ht_29 _ m25' b11 s27 h27 _ hE28) fun a w _ hR hF=>hK _ _ ?_
  obtain ⟨m28',s30,rfl,hm28,hR28,h30⟩:=hR
  have hS : St _ _ _ _ [[⟨b11,[s30.v],80⟩],q6,[⟨b7,[(iV t_22.Level),nilS.v,s6.v,(iV t_22.Sum)],29⟩],[⟨b4,[(.bool false)],4⟩],[⟨b3,[(iV 0),nilS.v,nilS.v,(iV 0)],29⟩],[⟨b2,[s1.v],27⟩]]:=hS28.leave hR28 hm28
  have hm28:=MLe.weakX hS28 hm28
  have hm28:=hM.mle hm28
  obtain ⟨t_31,ht_31,hr⟩:=bindS hr
  refine q_call (vs:=[(.bool (t_26.1 == ([108,101,118,101,108] : List UInt8))),(strV t_29.1),(iV 30)]) hF hS Tryz.func84 (by kernel_rfl) rfl rfl rfl (c_impl_wholeNaturalIf (t_26.1 == ([108,101,118,101,108] : List UInt8)) t_29.1 30 t_31 ht_31 _ m28' hS.vis) ?_
  rintro a w _ rfl hF hS
  refine q_m hF rfl fun a hF=>q_y (v:=(iV t_31.1)) hF hS (ex_extract rfl rfl) fun a hF=>q_y (v:=(.bool t_31.2)) hF hS (ex_extract rfl rfl) fun a hF=>q_y (v:=(pP b7 0)) hF hS (ex_fieldAddr U29 rfl sz3 rfl rfl) fun a hF=>q_store (vs:=[(iV t_31.1)]) (cs':=[(iV t_31.1),nilS.v,s6.v,(iV t_22.Sum)]) 2 0 hF hS sz3 rfl rfl rfl rfl rfl rfl rfl rfl fun a w hF hS=>q_s hF rfl fun a hF=>q_end (n_sq (q_seq (q_sr (q_m hF rfl fun a hF=>q_y (v:=(.bool (!t_31.2))) hF hS (ex_not rfl) fun a hF=>q_end (n_sq ?_)))))
  rcases bcase (!t_31.2) with hc5 | hc5
  ·have hr:=cond_f hc5 hr
   refine q_cond_f hF rfl hc5 (q_skipc (n_sq (q_seq (q_seq ?_))))
   obtain ⟨t_34,hj6,hr⟩:=bindS hr
   refine q_join (fun a w=>Fr a 117 [(2,(pP b2 0)),(4,(pP b3 0)),(5,(pP b4 0)),(6,(pP b7 0)),(7,(pP b11 0)),(8,(.func (.func 82) #[] #[(pP b11 0)])),(61,(.bool t_34))]∧St [] w0 w m28' [q6,[⟨b11,[s30.v],80⟩],[⟨b7,[(iV t_31.1),nilS.v,s6.v,(iV t_22.Sum)],29⟩],[⟨b4,[(.bool false)],4⟩],[⟨b3,[(iV 0),nilS.v,nilS.v,(iV 0)],29⟩],[⟨b2,[s1.v],27⟩]]) ?_ ?_
   ·refine q_region (q_y (v:=s30.v) hF hS (ex_load1 0 0 U80 rfl rfl rfl rfl) fun a hF=>q_y (v:=(iV (goLen t_29.2))) hF hS (ex_len U80 rfl h30.len) fun a hF=>q_y (v:=(.bool (decide (0 < (goLen t_29.2))))) hF hS (ex_ibin rfl rfl rfl) fun a hF=>q_m hF rfl fun a hF=>?_)
    rcases bcase (decide (0 < (goLen t_29.2))) with hc7 | hc7
    ·have hj6:=cond_f hc7 hj6
     refine q_k hF hc7 fun a hF=>q_k hF hc7 fun a hF=>q_k hF hc7 fun a hF=>q_k hF hc7 fun a hF=>q_y (v:=(.bool false)) hF hS (ex_pick_f rfl rfl hc7) fun a hF=>q_end (n_jn ?_)
     obtain rfl:=someI hj6
     exact ⟨hF.sub ⟨rfl,rfl,rfl,rfl,rfl,rfl,rfl,trivial⟩,hS.sel [1,0,2,3,4,5] (by decide)⟩
    ·have hj6:=cond_t hc7 hj6
     refine q_g (v:=s30.v) hF hS (ex_load1 0 0 U80 rfl rfl rfl rfl) hc7 fun a hF=>?_
     obtain ⟨e_32,he_32,hj6⟩:=bindS hj6
     obtain ⟨vs33,at33,d33⟩:=h30.at he_32 1 rfl
     obtain rfl : vs33 = [(strV e_32)]:=d33
     refine q_g (v:=(elP s30 ((0 : Int).toNat * 1))) hF hS (ex_indexAddr U80 sz9 rfl rfl (h30.idx he_32)) hc7 fun a hF=>q_g (v:=(strV e_32)) hF hS (ex_loadE1 0 U9 rfl rfl ((at33).at) rfl rfl) hc7 fun a hF=>q_g (v:=(.bool (e_32 == ([98,121] : List UInt8)))) hF hS (ex_strEq rfl rfl) hc7 fun a hF=>q_y (v:=(.bool (e_32 == ([98,121] : List UInt8)))) hF hS (ex_pick_t rfl rfl hc7) fun a hF=>q_end (n_jn ?_)
     obtain rfl:=someI hj6
     exact ⟨hF.sub ⟨rfl,rfl,rfl,rfl,rfl,rfl,rfl,trivial⟩,hS.sel [1,0,2,3,4,5] (by decide)⟩
   ·rintro a w ⟨hF,hS⟩
    refine n_sq ?_
    obtain ⟨j8,hj8,hr⟩:=bindS hr
    refine q_join (fun a w=>∃ (Z51 : List Deferred),∃ (X51 : List Nat),∃ (w51 : World),∃ (m57 : Mem),∃ (s53 : Sl),∃ (q55 : Piece),∃ (s55 : Sl),∃ words_52,∃ t_54,j8 = .inl (words_52,t_54)∧FrD Z51 a 117 [(2,(pP b2 0)),(4,(pP b3 0)),(5,(pP b4 0)),(6,(pP b7 0)),(7,(pP b11 0)),(8,(.func (.func 82) #[] #[(pP b11 0)]))]∧St X51 w51 w m57 [q55,q6,[⟨b11,[s53.v],80⟩],[⟨b7,[(iV t_54.Level),s55.v,s6.v,(iV t_54.Sum)],29⟩],[⟨b4,[(.bool false)],4⟩],[⟨b3,[(iV 0),nilS.v,nilS.v,(iV 0)],29⟩],[⟨b2,[s1.v],27⟩]]∧Mk w0 Z51 X51 w51∧MLe [] w0.heap.size m28' m57∧Rd m57 s53 words_52∧OwnL m57 3 q55 s55 t_54.Vars∧OwnL m57 3 q6 s6 t_54.Where∧t_54.Where = t_22.Where) ?_ ?_
    ·rcases bcase (t_34) with hc9 | hc9
     ·have hj8:=cond_f hc9 hj8
      refine q_cond_f hF rfl hc9 (q_skipc (n_jn ?_))
      obtain rfl:=someI hj8
      exact ⟨[],[],w0,m28',s30,[],nilS,_,_,rfl,hF.sub ⟨rfl,rfl,rfl,rfl,rfl,rfl,trivial⟩,hS.sel [6,0,1,2,3,4,5] (by decide),hM,(MLe.refl _ _),h30,(OwnL.nil (α:=Int) m28' 3),((h23.mono hm25.le).mono hm28.le),rfl⟩
     ·have hj8:=cond_t hc9 hj8
      refine q_cond_t hF rfl hc9 (q_sr (q_m hF rfl fun a hF=>?_))
      have hS : St _ _ _ _ [[⟨b11,[s30.v],80⟩],q6,[⟨b7,[(iV t_31.1),nilS.v,s6.v,(iV t_22.Sum)],29⟩],[⟨b4,[(.bool false)],4⟩],[⟨b3,[(iV 0),nilS.v,nilS.v,(iV 0)],29⟩],[⟨b2,[s1.v],27⟩]]:=hS.sel [1,0,2,3,4,5] (by decide)
      have hS35 : St _ _ _ _ ([[⟨b11,[s30.v],80⟩]]++[q6,[⟨b7,[(iV t_31.1),nilS.v,s6.v,(iV t_22.Sum)],29⟩],[⟨b4,[(.bool false)],4⟩],[⟨b3,[(iV 0),nilS.v,nilS.v,(iV 0)],29⟩],[⟨b2,[s1.v],27⟩]]):=hS
      have hE35:=hS35.enter
      obtain ⟨t_36,ht_36,hj8⟩:=bindS hj8
      refine q_do rfl fun _ hK=>wp_callV (vs:=[]) (cap:=[(pP b11 0)]) hF rfl Tryz.func82 (by kernel_rfl) rfl rfl rfl (c_impl_parseTable_1 t_29.2 t_36 ht_36 _ m28' b11 s30 h30 _ hE35) fun a w _ hR hF=>hK _ _ ?_
      obtain ⟨m35',s37,rfl,hm35,hR35,h37⟩:=hR
      have hS : St _ _ _ _ [[⟨b11,[s37.v],80⟩],q6,[⟨b7,[(iV t_31.1),nilS.v,s6.v,(iV t_22.Sum)],29⟩],[⟨b4,[(.bool false)],4⟩],[⟨b3,[(iV 0),nilS.v,nilS.v,(iV 0)],29⟩],[⟨b2,[s1.v],27⟩]]:=hS35.leave hR35 hm35
      have hm35:=MLe.weakX hS35 hm35
      have hm35:=hM.mle hm35
      refine q_end (n_sq (q_sr (q_m hF rfl fun a hF=>?_)))
      have hS38 : St _ _ _ _ ([[⟨b11,[s37.v],80⟩]]++[q6,[⟨b7,[(iV t_31.1),nilS.v,s6.v,(iV t_22.Sum)],29⟩],[⟨b4,[(.bool false)],4⟩],[⟨b3,[(iV 0),nilS.v,nilS.v,(iV 0)],29⟩],[⟨b2,[s1.v],27⟩]]):=hS
      have hE38:=hS38.enter
      obtain ⟨t_39,ht_39,hj8⟩:=bindS hj8
      refine q_do rfl fun _ hK=>wp_callV (vs:=[]) (cap:=[(pP b11 0)]) hF rfl Tryz.func82 (by kernel_rfl) rfl rfl rfl (c_impl_parseTable_1 t_36.2 t_39 ht_39 _ m35' b11 s37 h37 _ hE38) fun a w _ hR hF=>hK _ _ ?_
      obtain ⟨m38',s40,rfl,hm38,hR38,h40⟩:=hR
      have hS : St _ _ _ _ [[⟨b11,[s40.v],80⟩],q6,[⟨b7,[(iV t_31.1),nilS.v,s6.v,(iV t_22.Sum)],29⟩],[⟨b4,[(.bool false)],4⟩],[⟨b3,[(iV 0),nilS.v,nilS.v,(iV 0)],29⟩],[⟨b2,[s1.v],27⟩]]:=hS38.leave hR38 hm38
      have hm38:=MLe.weakX hS38 hm38
      have hm38:=hM.mle hm38
      obtain ⟨u41,hu41,hj8⟩:=bindS hj8
      refine q_call (vs:=[(strV t_39.1),(strV ([44] : List UInt8))]) hF hS Tryz.func85 (by kernel_rfl) rfl rfl rfl (c_strings_SplitSeq t_39.1 44 m38' hS.vis) ?_
      rintro a w _ ⟨b41x,b41y,b41z,rfl,hR41⟩ hF hS2
      have hS : St _ _ _ _ [(PitS 44 t_39.1 b41x b41y b41z),[⟨b11,[s40.v],80⟩],q6,[⟨b7,[(iV t_31.1),nilS.v,s6.v,(iV t_22.Sum)],29⟩],[⟨b4,[(.bool false)],4⟩],[⟨b3,[(iV 0),nilS.v,nilS.v,(iV 0)],29⟩],[⟨b2,[s1.v],27⟩]]:=hS.joinF hR41
      refine q_end (n_sq (q_block ?_))
      obtain ⟨o10,hl10,hj8⟩:=bindS hj8
      refine q_rangeG (m0:=fun _=>none) (L:=[(2,(pP b2 0)),(4,(pP b3 0)),(5,(pP b4 0)),(6,(pP b7 0)),(7,(pP b11 0)),(8,(.func (.func 82) #[] #[(pP b11 0)]))]) (fun (s : impl_Table) (m_ : Mem) (O_ : List Piece)=>∃ (q43 : Piece),∃ (s43 : Sl),∃ t_42,t_42 = s∧m38' = m_∧[q43,[⟨b11,[s40.v],80⟩],q6,[⟨b7,[(iV t_42.Level),s43.v,s6.v,(iV t_42.Sum)],29⟩],[⟨b4,[(.bool false)],4⟩],[⟨b3,[(iV 0),nilS.v,nilS.v,(iV 0)],29⟩],[⟨b2,[s1.v],27⟩]] = O_∧OwnL m38' 3 q43 s43 t_42.Vars∧OwnL m38' 3 q6 s6 t_42.Where∧t_42.Where = t_22.Where) (fun (o : Unit) (m_ : Mem) (O_ : List Piece)=>() = o∧m38' = m_∧[[⟨b4,[(.bool false)],4⟩],[⟨b3,[(iV 0),nilS.v,nilS.v,(iV 0)],29⟩]] = O_) hl10 hF ⟨rfl,rfl,rfl,rfl,rfl,rfl,trivial⟩ rfl Tryz.func143 (by kernel_rfl) rfl rfl rfl (it_split 44 t_39.1 b41x b41y b41z (goSpl_lt hu41)) (hM.back hS).kept.size (fun _ _ h=>nomatch h) ⟨_,_,⟨[],nilS,_,rfl,rfl,rfl,(OwnL.nil (α:=Int) m38' 3),((((h23.mono hm25.le).mono hm28.le).mono hm35.le).mono hm38.le),rfl⟩,hM.sf (hS.sel [0,7,1,2,3,4,5,6] (by decide))⟩ ?_ ?_ ?_
      ·clear hF hS
       rintro lr Z45 p_45 _ q45 a w45 st _ _ hF ⟨q43,s43,t_42,rfl,rfl,rfl,h43,h44,h44k⟩ ⟨X45,hM45,hS⟩ hb10
       unfold impl_parseTable_l1 at hb10
       refine rr_block ?_
       refine rr_seq ?_
       refine rr_region rfl ?_
       refine q_y (v:=s1.v) hF hS (ex_load1 7 0 U27 rfl rfl rfl rfl) fun a hF=>q_m hF rfl fun a hF=>?_
       obtain ⟨t_46,ht_46,hb10⟩:=bindS hb10
       refine q_call (vs:=[s1.v,(strV p_45)]) hF hS Tryz.func83 (by kernel_rfl) rfl rfl rfl (c_impl_nameIndex p_s p_45 t_46 ht_46 _ m38' hS.vis s1 (((((((h1.mono hm12.le).mono hm13.le).mono hm24.le).mono hm25.le).mono hm28.le).mono hm35.le).mono hm38.le)) ?_
       rintro a w _ rfl hF hS
       refine q_s hF rfl fun a hF=>rr_end (rn_sq (rr_seq (rr_seq (rr_region rfl (q_m hF rfl fun a hF=>q_y (v:=(.bool (decide (t_46 < 0)))) hF hS (ex_ibin rfl rfl rfl) fun a hF=>rr_end (rn_sq ?_))))))
       rcases bcase (decide (t_46 < 0)) with hc11 | hc11
       ·have hb10:=cond_f hc11 hb10
        refine rr_cond_f hF rfl hc11 ?_
        refine rr_skipc (rn_sq ?_)
        refine rr_region rfl ?_
        refine q_y (v:=(pP b7 1)) hF hS (ex_fieldAddr U29 rfl sz24 rfl rfl) fun a hF=>q_y (v:=s43.v) hF hS (ex_load1 4 0 U24 rfl rfl rfl rfl) fun a hF=>q_m hF rfl fun a hF=>q_do rfl fun _ hK=>wp_buildSlice' (l:=([t_46] : List Int)) (cells:=[(iV t_46)]) hF hS U24 inf3 rfl rfl (by kernel_rfl) rfl rfl rfl ⟨rfl,rfl⟩ rfl rfl fun a w q47 s47 hF hS h47 _=>hK _ _ ?_
        have hS : St _ _ _ _ [q43,q47,q45,[⟨b11,[s40.v],80⟩],q6,[⟨b7,[(iV t_42.Level),s43.v,s6.v,(iV t_42.Sum)],29⟩],[⟨b4,[(.bool false)],4⟩],[⟨b3,[(iV 0),nilS.v,nilS.v,(iV 0)],29⟩],[⟨b2,[s1.v],27⟩]]:=hS.sel [2,0,1,3,4,5,6,7,8] (by decide)
        obtain ⟨l_48,hl_48,hb10⟩:=bindS hb10
        refine q_do rfl fun _ hK=>wp_append hF hS h43 U24 inf3 rfl rfl rfl rfl (h47.vw hS (j:=1) rfl) rfl (by decide) hl_48 rfl fun a w q49 s49 hF hS h49=>hK _ _ (q_y (v:=(pP b7 1)) hF hS (ex_fieldAddr U29 rfl sz24 rfl rfl) fun a hF=>q_store (vs:=[s49.v]) (cs':=[(iV t_42.Level),s49.v,s6.v,(iV t_42.Sum)]) 5 0 hF hS sz24 rfl rfl rfl rfl rfl rfl rfl rfl fun a w hF hS=>rr_end (n_ib ?_))
        obtain rfl:=someI hb10
        exact ⟨fun k r h=>hM45.kp hS h (fun _ _ _=>nofun),rfl,_,_,⟨q49,s49,_,rfl,rfl,rfl,h49,h44,h44k⟩,hM45.sf (hS.sel [2,0,3,4,5,6,7,8] (by decide))⟩
       ·have hb10:=cond_t hc11 hb10
        refine rr_cond_t hF rfl hc11 ?_
        refine rr_seq ?_
        refine rr_region rfl ?_
        refine q_y (v:=(.agg #[(iV 0),nilS.v,nilS.v,(iV 0)])) hF hS (ex_build (cells:=[(iV 0),nilS.v,nilS.v,(iV 0)]) rfl (by kernel_rfl)) fun a hF=>q_store (vs:=[(iV 0),nilS.v,nilS.v,(iV 0)]) (cs':=[(iV 0),nilS.v,nilS.v,(iV 0)]) 6 0 hF hS sz29 rfl rfl rfl rfl rfl rfl rfl rfl fun a w hF hS=>q_store (vs:=[(.bool false)]) (cs':=[(.bool false)]) 5 0 hF hS sz4 rfl rfl rfl rfl rfl rfl rfl rfl fun a w hF hS=>rr_end (rn_sq (rr_ret (rret_sq (r_ib ?_))))
        obtain rfl:=someI hb10
        exact ⟨fun k r h=>hM45.kp hS h (fun _ _ _=>nofun),rfl,_,_,⟨rfl,rfl,rfl⟩,hM45.sf (hS.mask [true,false,false,false,false,true,true,false])⟩
      ·rintro Z50 a w50 _ q50 _ _ hF ⟨q43,s43,t_42,rfl,rfl,rfl,h43,h44,h44k⟩ ⟨X50,hM50,hS⟩ hr50
       subst hr50
       refine n_ib (n_jn ?_)
       obtain rfl:=someI hj8
       exact ⟨Z50,X50,w50,m38',s40,q43,s43,_,_,rfl,hF.sub ⟨rfl,rfl,rfl,rfl,rfl,rfl,trivial⟩,hS.sel [1,3,2,4,5,6,7] (by decide),hM50,(hm35.trans hm38),h40,h43,h44,h44k⟩
      ·rintro Z50 a w50 _ q50 _ _ hF ⟨rfl,rfl,rfl⟩ ⟨X50,hM50,hS⟩ hr50
       subst hr50
       refine r_ib (r_jn ?_)
       obtain rfl:=someI hj8
       refine r_sq ?_
       obtain rfl:=someI hr
       exact ret_ofM hM50 hF hS rfl (.cellA (us:=[(iV 0),nilS.v,nilS.v,(iV 0)]) 2 0 U29 rfl sz29 rfl rfl rfl rfl (.cell1 1 0 U4 rfl rfl rfl rfl .nil)) (fun w hS=>⟨m38',[],[],nilS,nilS,rfl,((((((hm12.trans hm13).trans hm24).trans hm25).trans hm28).trans hm35).trans hm38),hS.sel [3,4] (by decide),(OwnL.nil (α:=Int) m38' 3),(OwnL.nil (α:=Int) m38' 3)⟩)
    ·rintro a w ⟨Z51,X51,w51,m57,s53,q55,s55,words_52,t_54,rfl,hF,hS,hM51,hm57,h53,h55,h56,h56k⟩
     refine n_sq ?_
     refine q_seq (q_seq ?_)
     obtain ⟨j12,hj12,hr⟩:=bindS hr
     refine q_join (fun a w=>∃ (m64 : Mem),∃ (s63 : Sl),∃ t_61,∃ words_62,j12 = (t_61,words_62)∧FrD Z51 a 117 [(2,(pP b2 0)),(4,(pP b3 0)),(5,(pP b4 0)),(6,(pP b7 0)),(7,(pP b11 0)),(8,(.func (.func 82) #[] #[(pP b11 0)])),(87,(.bool t_61))]∧St X51 w51 w m64 [q55,q6,[⟨b11,[s63.v],80⟩],[⟨b7,[(iV t_54.Level),s55.v,s6.v,(iV t_54.Sum)],29⟩],[⟨b4,[(.bool false)],4⟩],[⟨b3,[(iV 0),nilS.v,nilS.v,(iV 0)],29⟩],[⟨b2,[s1.v],27⟩]]∧MLe [] w0.heap.size m57 m64∧Rd m64 s63 words_62) ?_ ?_
     ·refine q_region (q_y (v:=s53.v) hF hS (ex_load1 2 0 U80 rfl rfl rfl rfl) fun a hF=>q_y (v:=(iV (goLen words_52))) hF hS (ex_len U80 rfl h53.len) fun a hF=>q_y (v:=(.bool (decide (0 < (goLen words_52))))) hF hS (ex_ibin rfl rfl rfl) fun a hF=>q_m hF rfl fun a hF=>?_)
      rcases bcase (decide (0 < (goLen words_52))) with hc13 | hc13
      ·have hj12:=cond_f hc13 hj12
       refine q_k hF hc13 fun a hF=>q_k hF hc13 fun a hF=>q_k hF hc13 fun a hF=>q_y (v:=(.bool false)) hF hS (ex_pick_f rfl rfl hc13) fun a hF=>q_end (n_jn ?_)
       obtain rfl:=someI hj12
       exact ⟨m57,s53,_,_,rfl,hF.sub ⟨rfl,rfl,rfl,rfl,rfl,rfl,rfl,trivial⟩,hS,(MLe.refl _ _),h53⟩
      ·have hj12:=cond_t hc13 hj12
       refine q_g (v:=(.func (.func 82) #[] #[(pP b11 0)])) hF hS (ex_move rfl) hc13 fun a hF=>?_
       have hS : St _ _ _ _ [[⟨b11,[s53.v],80⟩],q55,q6,[⟨b7,[(iV t_54.Level),s55.v,s6.v,(iV t_54.Sum)],29⟩],[⟨b4,[(.bool false)],4⟩],[⟨b3,[(iV 0),nilS.v,nilS.v,(iV 0)],29⟩],[⟨b2,[s1.v],27⟩]]:=hS.sel [2,0,1,3,4,5,6] (by decide)
       have hS58 : St _ _ _ _ ([[⟨b11,[s53.v],80⟩]]++[q55,q6,[⟨b7,[(iV t_54.Level),s55.v,s6.v,(iV t_54.Sum)],29⟩],[⟨b4,[(.bool false)],4⟩],[⟨b3,[(iV 0),nilS.v,nilS.v,(iV 0)],29⟩],[⟨b2,[s1.v],27⟩]]):=hS
       have hE58:=hS58.enter
       obtain ⟨t_59,ht_59,hj12⟩:=bindS hj12
       refine q_dog (wanted_t hF rfl rfl rfl hc13) fun _ hK=>wp_callV (vs:=[]) (cap:=[(pP b11 0)]) hF rfl Tryz.func82 (by kernel_rfl) rfl rfl rfl (c_impl_parseTable_1 words_52 t_59 ht_59 _ m57 b11 s53 h53 _ hE58) fun a w _ hR hF=>hK _ _ ?_
       obtain ⟨m58',s60,rfl,hm58,hR58,h60⟩:=hR
       have hS : St _ _ _ _ [[⟨b11,[s60.v],80⟩],q55,q6,[⟨b7,[(iV t_54.Level),s55.v,s6.v,(iV t_54.Sum)],29⟩],[⟨b4,[(.bool false)],4⟩],[⟨b3,[(iV 0),nilS.v,nilS.v,(iV 0)],29⟩],[⟨b2,[s1.v],27⟩]]:=hS58.leave hR58 hm58
       have hm58:=MLe.weakX hS58 hm58
       have hm58:=hM51.mle hm58
       refine q_g (v:=(.bool (t_59.1 != ([119,104,101,114,101] : List UInt8)))) hF hS (ex_strNe rfl rfl) hc13 fun a hF=>q_y (v:=(.bool (t_59.1 != ([119,104,101,114,101] : List UInt8)))) hF hS (ex_pick_t rfl rfl hc13) fun a hF=>q_end (n_jn ?_)
       obtain rfl:=someI hj12
       exact ⟨m58',s60,_,_,rfl,hF.sub ⟨rfl,rfl,rfl,rfl,rfl,rfl,rfl,trivial⟩,hS.sel [1,2,0,3,4,5,6] (by decide),hm58,h60⟩
     ·rintro a w ⟨m64,s63,t_61,words_62,rfl,hF,hS,hm64,h63⟩
      refine n_sq ?_
      rcases bcase (t_61) with hc14 | hc14
      ·have hr:=cond_f hc14 hr
       refine q_cond_f hF rfl hc14 (q_skipc (n_sq (q_seq (q_block ?_))))
       obtain ⟨o15,hl15,hr⟩:=bindS hr
       refine q_loop (fun (s : (List (List UInt8)) × impl_Table) a w=>∃ (m70 : Mem),∃ (s66 : Sl),∃ (q69 : Piece),∃ words_65,∃ t_67,s = (words_65,t_67)∧FrD Z51 a 117 [(2,(pP b2 0)),(4,(pP b3 0)),(5,(pP b4 0)),(6,(pP b7 0)),(7,(pP b11 0)),(8,(.func (.func 82) #[] #[(pP b11 0)]))]∧St X51 w51 w m70 [q69,q55,[⟨b11,[s66.v],80⟩],[⟨b7,[(iV t_67.Level),s55.v,s6.v,(iV t_67.Sum)],29⟩],[⟨b4,[(.bool false)],4⟩],[⟨b3,[(iV 0),nilS.v,nilS.v,(iV 0)],29⟩],[⟨b2,[s1.v],27⟩]]∧MLe [] w0.heap.size m64 m70∧Rd m70 s66 words_65∧OwnL m70 3 q55 s55 t_67.Vars∧t_67.Vars = t_54.Vars∧OwnL m70 3 q69 s6 t_67.Where) (fun (o : (impl_Table) ⊕ (impl_Table × Bool)) e a w=>∃ (m85 : Mem),∃ (q84 : Piece),∃ t_82,o = .inl t_82∧e = .exit 3∧FrD Z51 a 117 [(4,(pP b3 0)),(5,(pP b4 0)),(6,(pP b7 0))]∧St X51 w51 w m85 [q55,q84,[⟨b7,[(iV t_82.Level),s55.v,s6.v,(iV t_82.Sum)],29⟩],[⟨b4,[(.bool false)],4⟩],[⟨b3,[(iV 0),nilS.v,nilS.v,(iV 0)],29⟩]]∧MLe [] w0.heap.size m64 m85∧OwnL m85 3 q55 s55 t_82.Vars∧t_82.Vars = t_54.Vars∧OwnL m85 3 q84 s6 t_82.Where) hl15 ⟨m64,s63,q6,_,_,rfl,hF.sub ⟨rfl,rfl,rfl,rfl,rfl,rfl,trivial⟩,hS.sel [1,0,2,3,4,5,6] (by decide),(MLe.refl _ _),h63,(h55.mono hm64.le),rfl,(h56.mono hm64.le)⟩ ?_ ?_
       ·clear hF hS
        rintro s a w st ⟨m70,s66,q69,words_65,t_67,rfl,hF,hS,hm70,h66,h68,h68k,h69⟩ hb15
        unfold impl_parseTable_l2 at hb15
        refine q_seq (q_sr (q_y (v:=s66.v) hF hS (ex_load1 2 0 U80 rfl rfl rfl rfl) fun a hF=>q_y (v:=(iV (goLen words_65))) hF hS (ex_len U80 rfl h66.len) fun a hF=>q_y (v:=(.bool (decide (0 < (goLen words_65))))) hF hS (ex_ibin rfl rfl rfl) fun a hF=>q_end (n_sq ?_)))
        rcases bcase (decide (0 < (goLen words_65))) with hc16 | hc16
        ·have hb15:=cond_f hc16 hb15
         refine q_cond_f hF rfl hc16 (q_exit (x_sq ?_))
         obtain rfl:=someI hb15
         exact ⟨nofun,.inl ⟨m70,q69,_,rfl,rfl,hF.sub ⟨rfl,rfl,rfl,trivial⟩,hS.sel [1,0,3,4,5] (by decide),hm70,h68,h68k,h69⟩⟩
        ·have hb15:=cond_t hc16 hb15
         refine q_cond_t hF rfl hc16 (q_skipc (n_sq (q_block (q_sr (q_m hF rfl fun a hF=>?_)))))
         have hS : St _ _ _ _ [[⟨b11,[s66.v],80⟩],q69,q55,[⟨b7,[(iV t_67.Level),s55.v,s6.v,(iV t_67.Sum)],29⟩],[⟨b4,[(.bool false)],4⟩],[⟨b3,[(iV 0),nilS.v,nilS.v,(iV 0)],29⟩],[⟨b2,[s1.v],27⟩]]:=hS.sel [2,0,1,3,4,5,6] (by decide)
         have hS71 : St _ _ _ _ ([[⟨b11,[s66.v],80⟩]]++[q69,q55,[⟨b7,[(iV t_67.Level),s55.v,s6.v,(iV t_67.Sum)],29⟩],[⟨b4,[(.bool false)],4⟩],[⟨b3,[(iV 0),nilS.v,nilS.v,(iV 0)],29⟩],[⟨b2,[s1.v],27⟩]]):=hS
         have hE71:=hS71.enter
         obtain ⟨t_72,ht_72,hb15⟩:=bindS hb15
         refine q_do rfl fun _ hK=>wp_callV (vs:=[]) (cap:=[(pP b11 0)]) hF rfl Tryz.func82 (by kernel_rfl) rfl rfl rfl (c_impl_parseTable_1 words_65 t_72 ht_72 _ m70 b11 s66 h66 _ hE71) fun a w _ hR hF=>hK _ _ ?_
         obtain ⟨m71',s73,rfl,hm71,hR71,h73⟩:=hR
         have hS : St _ _ _ _ [[⟨b11,[s73.v],80⟩],q69,q55,[⟨b7,[(iV t_67.Level),s55.v,s6.v,(iV t_67.Sum)],29⟩],[⟨b4,[(.bool false)],4⟩],[⟨b3,[(iV 0),nilS.v,nilS.v,(iV 0)],29⟩],[⟨b2,[s1.v],27⟩]]:=hS71.leave hR71 hm71
         have hm71:=MLe.weakX hS71 hm71
         have hm71:=hM51.mle hm71
         obtain ⟨t_74,ht_74,hb15⟩:=bindS hb15
         refine q_call (vs:=[(strV t_72.1),(strV ([61] : List UInt8))]) hF hS Tryz.func52 (by kernel_rfl) rfl rfl rfl (c_strings_Cut t_72.1 ([61] : List UInt8) t_74 ht_74 _ m71' hS.vis (((((((((ht.mono hm12.le).mono hm13.le).mono hm24.le).mono hm25.le).mono hm28.le).mono hm57.le).mono hm64.le).mono hm70.le).mono hm71.le)) ?_
         rintro a w _ rfl hF hS
         refine q_m hF rfl fun a hF=>q_y (v:=(strV t_74.1)) hF hS (ex_extract rfl rfl) fun a hF=>q_y (v:=(strV t_74.2.1)) hF hS (ex_extract rfl rfl) fun a hF=>q_y (v:=(.bool t_74.2.2)) hF hS (ex_extract rfl rfl) fun a hF=>q_s hF rfl fun a hF=>q_s hF rfl fun a hF=>q_s hF rfl fun a hF=>q_end (n_sq (q_sr (q_y (v:=s1.v) hF hS (ex_load1 6 0 U27 rfl rfl rfl rfl) fun a hF=>q_m hF rfl fun a hF=>?_)))
         obtain ⟨t_75,ht_75,hb15⟩:=bindS hb15
         refine q_call (vs:=[s1.v,(strV t_74.1)]) hF hS Tryz.func83 (by kernel_rfl) rfl rfl rfl (c_impl_nameIndex p_s t_74.1 t_75 ht_75 _ m71' hS.vis s1 (((((((((h1.mono hm12.le).mono hm13.le).mono hm24.le).mono hm25.le).mono hm28.le).mono hm57.le).mono hm64.le).mono hm70.le).mono hm71.le)) ?_
         rintro a w _ rfl hF hS
         refine q_s hF rfl fun a hF=>q_end (n_sq (q_seq (q_sr (q_m hF rfl fun a hF=>q_y (v:=(.bool (decide (t_75 < 0)))) hF hS (ex_ibin rfl rfl rfl) fun a hF=>q_end (n_sq ?_)))))
         rcases bcase (decide (t_75 < 0)) with hc17 | hc17
         ·have hb15:=cond_f hc17 hb15
          refine q_cond_f hF rfl hc17 (q_skipc (n_sq (e_region ⟨[11],[b7,b2]⟩ mixed fun w' hw'=>?_)))
          have hS:=hS.below hw'
          refine e_P (v:=(pP b7 2)) 0 hF rfl (ex_fieldAddr U29 rfl sz24 rfl rfl) fun a hF=>e_xb (v:=s6.v) 1 3 hF hS (.head _) rfl rfl (ex_load1 0 0 U24 rfl rfl rfl rfl) rfl rfl (by kernel_rfl) (by kernel_rfl) (by kernel_rfl) fun a hF=>e_P (v:=(iV t_75)) 2 hF rfl (ex_move rfl) fun a hF=>e_P (v:=(strV t_74.2.1)) 3 hF rfl (ex_move rfl) fun a hF=>e_xb (v:=s1.v) 4 6 hF hS (.tail _ (.head _)) rfl rfl (ex_load1 0 0 U27 rfl rfl rfl rfl) rfl rfl (by kernel_rfl) (by kernel_rfl) (by kernel_rfl) fun a hF=>e_P (v:=(iV t_75)) 5 hF rfl (ex_move rfl) fun a hF=>?_
          obtain ⟨e_76,he_76,hb15⟩:=bindS hb15
          obtain ⟨vs77,at77,d77⟩:=(((((((((h1.mono hm12.le).mono hm13.le).mono hm24.le).mono hm25.le).mono hm28.le).mono hm57.le).mono hm64.le).mono hm70.le).mono hm71.le).at he_76 2 rfl
          obtain rfl : vs77 = [(strV e_76.Name),(iV e_76.Levels)]:=d77
          refine e_P (v:=(elP s1 (t_75.toNat * 2))) 6 hF rfl (ex_indexAddr U27 sz95 rfl rfl ((((((((((h1.mono hm12.le).mono hm13.le).mono hm24.le).mono hm25.le).mono hm28.le).mono hm57.le).mono hm64.le).mono hm70.le).mono hm71.le).idx he_76)) fun a hF=>e_P (v:=(elP s1 (t_75.toNat * 2 + 1))) 7 hF rfl (ex_fieldAddrE U95 rfl sz3 rfl ((((((((((h1.mono hm12.le).mono hm13.le).mono hm24.le).mono hm25.le).mono hm28.le).mono hm57.le).mono hm64.le).mono hm70.le).mono hm71.le).idx he_76) rfl) fun a hF=>e_X (v:=(iV e_76.Levels)) 8 hF hS rfl (ex_loadE1 1 U3 rfl rfl ((at77).at) rfl rfl) fun a hF=>e_one 9 (by kernel_rfl) ?_
          obtain ⟨t_78,ht_78,hb15⟩:=bindS hb15
          refine e_call (vs:=[(strV t_74.2.1),(iV e_76.Levels)]) hF hS rfl Tryz.func86 (by kernel_rfl) rfl rfl rfl (c_impl_parseSet t_74.2.1 e_76.Levels t_78 ht_78 _ m71' hS.vis) ?_
          rintro a w _ rfl hF hS
          obtain ⟨e_79,he_79,hb15⟩:=bindS hb15
          obtain ⟨vs80,at80,d80⟩:=(h69.mono hm71.le).at he_79 1 rfl
          obtain rfl : vs80 = [(iV e_79)]:=d80
          refine e_P (v:=(elP s6 (t_75.toNat * 1))) 10 hF rfl (ex_indexAddr U24 sz3 rfl rfl ((h69.mono hm71.le).idx he_79)) fun a hF=>e_one 11 (by kernel_rfl) ?_
          have hS : St _ _ _ _ [q69,[⟨b11,[s73.v],80⟩],q55,[⟨b7,[(iV t_67.Level),s55.v,s6.v,(iV t_67.Sum)],29⟩],[⟨b4,[(.bool false)],4⟩],[⟨b3,[(iV 0),nilS.v,nilS.v,(iV 0)],29⟩],[⟨b2,[s1.v],27⟩]]:=hS.sel [1,0,2,3,4,5,6] (by decide)
          have hSo:=hS
          refine e_opl rfl rfl rfl fun _ hK=>wp_storeE (e':=t_78) (us:=[(iV t_78)]) (vs:=[(iV e_79)]) 0 hF hS (h69.mono hm71.le) sz3 rfl rfl rfl rfl rfl rfl rfl he_79 at80 rfl rfl rfl fun w q81 hS h81=>hK _ _ (⟨kpC hSo hS 3 3 rfl rfl (kpC hSo hS 6 6 rfl rfl kpN),?_⟩)
          refine e_end (by kernel_rfl) (n_ib ?_) _
          obtain rfl:=someI hb15
          exact ⟨rfl,m71',s73,q81,_,_,rfl,hF.sub ⟨rfl,rfl,rfl,rfl,rfl,rfl,trivial⟩,hS.sel [0,2,1,3,4,5,6] (by decide),(hm70.trans hm71),h73,(h68.mono hm71.le),h68k,h81⟩
         ·have hb15:=cond_t hc17 hb15
          refine q_cond_t hF rfl hc17 (q_sr (q_y (v:=(.agg #[(iV 0),nilS.v,nilS.v,(iV 0)])) hF hS (ex_build (cells:=[(iV 0),nilS.v,nilS.v,(iV 0)]) rfl (by kernel_rfl)) fun a hF=>q_store (vs:=[(iV 0),nilS.v,nilS.v,(iV 0)]) (cs':=[(iV 0),nilS.v,nilS.v,(iV 0)]) 5 0 hF hS sz29 rfl rfl rfl rfl rfl rfl rfl rfl fun a w hF hS=>q_store (vs:=[(.bool false)]) (cs':=[(.bool false)]) 4 0 hF hS sz4 rfl rfl rfl rfl rfl rfl rfl rfl fun a w hF hS=>q_end (n_sq (q_ret (r_sq (r_ib ?_))))))
          obtain rfl:=someI hb15
          refine ⟨nofun,.inr fun ho=>?_⟩
          subst ho
          refine r_ib (r_sq ?_)
          obtain rfl:=someI hr
          exact ret_ofM hM51 hF hS rfl (.cellA (us:=[(iV 0),nilS.v,nilS.v,(iV 0)]) 5 0 U29 rfl sz29 rfl rfl rfl rfl (.cell1 4 0 U4 rfl rfl rfl rfl .nil)) (fun w hS=>⟨m71',[],[],nilS,nilS,rfl,((((((((hm12.trans hm13).trans hm24).trans hm25).trans hm28).trans hm57).trans hm64).trans hm70).trans hm71),hS.sel [7,8] (by decide),(OwnL.nil (α:=Int) m71' 3),(OwnL.nil (α:=Int) m71' 3)⟩)
       ·rintro e a w ⟨m85,q84,t_82,rfl,rfl,hF,hS,hm85,h83,h83k,h84⟩
        refine x_ib (n_sq ?_)
        refine q_sr (q_y (v:=(.agg #[(iV t_82.Level),s55.v,s6.v,(iV t_82.Sum)])) hF hS (ex_loadA (vs:=[(iV t_82.Level),s55.v,s6.v,(iV t_82.Sum)]) 2 0 U29 rfl sz29 rfl rfl rfl rfl) fun a hF=>q_store (vs:=[(iV t_82.Level),s55.v,s6.v,(iV t_82.Sum)]) (cs':=[(iV t_82.Level),s55.v,s6.v,(iV t_82.Sum)]) 4 0 hF hS sz29 rfl rfl rfl rfl rfl rfl rfl rfl fun a w hF hS=>q_store (vs:=[(.bool true)]) (cs':=[(.bool true)]) 3 0 hF hS sz4 rfl rfl rfl rfl rfl rfl rfl rfl fun a w hF hS=>q_end (n_sq (q_ret ?_)))
        obtain rfl:=someI hr
        exact ret_ofM hM51 hF hS rfl (.cellA (us:=[(iV t_82.Level),s55.v,s6.v,(iV t_82.Sum)]) 4 0 U29 rfl sz29 rfl rfl rfl rfl (.cell1 3 0 U4 rfl rfl rfl rfl .nil)) (fun w hS=>⟨m85,q55,q84,s55,s6,rfl,(((((((hm12.trans hm13).trans hm24).trans hm25).trans hm28).trans hm57).trans hm64).trans hm85),hS.sel [0,1] (by decide),h83,h84⟩)
      ·have hr:=cond_t hc14 hr
       refine q_cond_t hF rfl hc14 (q_sr (q_y (v:=(.agg #[(iV 0),nilS.v,nilS.v,(iV 0)])) hF hS (ex_build (cells:=[(iV 0),nilS.v,nilS.v,(iV 0)]) rfl (by kernel_rfl)) fun a hF=>q_store (vs:=[(iV 0),nilS.v,nilS.v,(iV 0)]) (cs':=[(iV 0),nilS.v,nilS.v,(iV 0)]) 5 0 hF hS sz29 rfl rfl rfl rfl rfl rfl rfl rfl fun a w hF hS=>q_store (vs:=[(.bool false)]) (cs':=[(.bool false)]) 4 0 hF hS sz4 rfl rfl rfl rfl rfl rfl rfl rfl fun a w hF hS=>q_end (n_sq (q_ret (r_sq ?_)))))
       obtain rfl:=someI hr
       exact ret_ofM hM51 hF hS rfl (.cellA (us:=[(iV 0),nilS.v,nilS.v,(iV 0)]) 5 0 U29 rfl sz29 rfl rfl rfl rfl (.cell1 4 0 U4 rfl rfl rfl rfl .nil)) (fun w hS=>⟨m64,[],[],nilS,nilS,rfl,((((((hm12.trans hm13).trans hm24).trans hm25).trans hm28).trans hm57).trans hm64),hS.sel [7,8] (by decide),(OwnL.nil (α:=Int) m64 3),(OwnL.nil (α:=Int) m64 3)⟩)
  ·have hr:=cond_t hc5 hr
   refine q_cond_t hF rfl hc5 (q_sr (q_y (v:=(.agg #[(iV 0),nilS.v,nilS.v,(iV 0)])) hF hS (ex_build (cells:=[(iV 0),nilS.v,nilS.v,(iV 0)]) rfl (by kernel_rfl)) fun a hF=>q_store (vs:=[(iV 0),nilS.v,nilS.v,(iV 0)]) (cs':=[(iV 0),nilS.v,nilS.v,(iV 0)]) 4 0 hF hS sz29 rfl rfl rfl rfl rfl rfl rfl rfl fun a w hF hS=>q_store (vs:=[(.bool false)]) (cs':=[(.bool false)]) 3 0 hF hS sz4 rfl rfl rfl rfl rfl rfl rfl rfl fun a w hF hS=>q_end (n_sq (q_ret (r_sq ?_)))))
   obtain rfl:=someI hr
   exact ret_ofM hM hF hS rfl (.cellA (us:=[(iV 0),nilS.v,nilS.v,(iV 0)]) 4 0 U29 rfl sz29 rfl rfl rfl rfl (.cell1 3 0 U4 rfl rfl rfl rfl .nil)) (fun w hS=>⟨m28',[],[],nilS,nilS,rfl,((((hm12.trans hm13).trans hm24).trans hm25).trans hm28),hS.sel [6,7] (by decide),(OwnL.nil (α:=Int) m28' 3),(OwnL.nil (α:=Int) m28' 3)⟩)

theorem c_impl_ParseTable (p_g : impl_Geo) (p_s : List impl_Variable) (p_x : List UInt8) (r : impl_Table × Bool) (hr : impl_ParseTable p_g p_s p_x = some r) (w0 : World) (m : Mem) (hv : Vis m w0) (ht : Tbl m) (s1 : Sl) (h1 : Rd m s1 p_g.Parents) (s2 : Sl) (h2 : Rd m s2 p_s) :
  Ret Tryz.prog 9 [(.agg #[s1.v]),s2.v,(strV p_x)] w0 (fun v w=>∃ (m' : Mem) (q0' : Piece) (q1' : Piece) (s0' : Sl) (s1' : Sl),v = (.tuple #[(.agg #[(iV r.1.Level),s0'.v,s1'.v,(iV r.1.Sum)]),(.bool r.2)])∧MLe [] w0.heap.size m m'∧St [] w0 w m' [q0',q1']∧OwnL m' 3 q0' s0' r.1.Vars∧OwnL m' 3 q1' s1' r.1.Where):=by
 unfold impl_ParseTable at hr
 refine ret_start Tryz.func9 rfl 43 rfl rfl m hv fun a hF hS=>q_sr (q_box (cs:=[s1.v]) hF hS rfl rfl rfl fun a w b3 hF hS=>q_alloc (cs:=[(iV 0),nilS.v,nilS.v,(iV 0)]) hF hS rfl rfl rfl fun a w b4 hF hS=>q_s hF rfl fun a hF=>q_end (n_sq (q_seq (q_seq ?_))))
 obtain ⟨t_7,hj1,hr⟩:=bindS hr
 refine q_join (fun a w=>Fr a 43 [(1,s2.v),(2,(strV p_x)),(3,(pP b3 0)),(6,(pP b4 0)),(17,(.bool t_7))]∧St [] w0 w m [[⟨b4,[(iV 0),nilS.v,nilS.v,(iV 0)],29⟩],[⟨b3,[s1.v],26⟩]]) ?_ ?_
 ·refine q_region (q_y (v:=(.agg #[s1.v])) hF hS (ex_loadA (vs:=[s1.v]) 1 0 U26 rfl sz26 rfl rfl rfl rfl) fun a hF=>?_)
  obtain ⟨t_5,ht_5,hj1⟩:=bindS hj1
  refine q_call (vs:=[(.agg #[s1.v])]) hF hS Tryz.func34 (by kernel_rfl) rfl rfl rfl (c_impl_IsGeo p_g t_5 ht_5 _ m hS.vis s1 h1) ?_
  rintro a w _ rfl hF hS
  refine q_y (v:=(.bool (!t_5))) hF hS (ex_not rfl) fun a hF=>q_m hF rfl fun a hF=>?_
  rcases bcase (!t_5) with hc2 | hc2
  ·have hj1:=cond_f hc2 hj1
   refine q_g (v:=s2.v) hF hS (ex_move rfl) hc2 fun a hF=>?_
   obtain ⟨t_6,ht_6,hj1⟩:=bindS hj1
   refine q_callg (vs:=[s2.v]) hF hS (wanted_t hF rfl rfl rfl hc2) Tryz.func35 (by kernel_rfl) rfl rfl rfl (c_impl_IsSchema p_s t_6 ht_6 _ m hS.vis s2 h2) ?_
   rintro a w _ rfl hF hS
   refine q_g (v:=(.bool (!t_6))) hF hS (ex_not rfl) hc2 fun a hF=>q_y (v:=(.bool (!t_6))) hF hS (ex_pick_f rfl rfl hc2) fun a hF=>q_end (n_jn ?_)
   obtain rfl:=someI hj1
   exact ⟨hF.sub ⟨rfl,rfl,rfl,rfl,rfl,trivial⟩,hS⟩
  ·have hj1:=cond_t hc2 hj1
   refine q_k hF hc2 fun a hF=>q_k hF hc2 fun a hF=>q_k hF hc2 fun a hF=>q_y (v:=(.bool true)) hF hS (ex_pick_t rfl rfl hc2) fun a hF=>q_end (n_jn ?_)
   obtain rfl:=someI hj1
   exact ⟨hF.sub ⟨rfl,rfl,rfl,rfl,rfl,trivial⟩,hS⟩
 ·rintro a w ⟨hF,hS⟩
  refine n_sq ?_
  rcases bcase (t_7) with hc3 | hc3
  ·have hr:=cond_f hc3 hr
   refine q_cond_f hF rfl hc3 (q_skipc (n_sq (q_sr (q_m hF rfl fun a hF=>q_m hF rfl fun a hF=>?_))))
   obtain ⟨t_8,ht_8,hr⟩:=bindS hr
   refine q_call (vs:=[s2.v,(strV p_x)]) hF hS Tryz.func36 (by kernel_rfl) rfl rfl rfl (c_impl_parseTable p_s p_x t_8 ht_8 _ m hS.vis ht s2 h2) ?_
   have hT:=hS
   rintro a w _ ⟨m9,q10,q11,s10,s11,rfl,hm9,hR9,h10,h11⟩ hF hS2
   have hS : St _ _ _ _ [q10,q11,[⟨b4,[(iV 0),nilS.v,nilS.v,(iV 0)],29⟩],[⟨b3,[s1.v],26⟩]]:=hS.join hR9 hm9
   have hm9:=MLe.weakX (O0:=[]) hT hm9
   refine q_m hF rfl fun a hF=>q_y (v:=(.agg #[(iV t_8.1.Level),s10.v,s11.v,(iV t_8.1.Sum)])) hF hS (ex_extract rfl rfl) fun a hF=>q_y (v:=(.bool t_8.2)) hF hS (ex_extract rfl rfl) fun a hF=>q_alloc (cs:=[(iV 0),nilS.v,nilS.v,(iV 0)]) hF hS rfl rfl rfl fun a w b12 hF hS=>q_store (vs:=[(iV t_8.1.Level),s10.v,s11.v,(iV t_8.1.Sum)]) (cs':=[(iV t_8.1.Level),s10.v,s11.v,(iV t_8.1.Sum)]) 0 0 hF hS sz29 rfl rfl rfl rfl rfl rfl rfl rfl fun a w hF hS=>q_s hF rfl fun a hF=>q_end (n_sq (q_seq (q_seq ?_)))
   obtain ⟨t_17,hj4,hr⟩:=bindS hr
   refine q_join (fun a w=>Fr a 43 [(6,(pP b4 0)),(8,(pP b12 0)),(40,(.bool t_17))]∧St [] w0 w m9 [q10,q11,[⟨b12,[(iV t_8.1.Level),s10.v,s11.v,(iV t_8.1.Sum)],29⟩],[⟨b4,[(iV 0),nilS.v,nilS.v,(iV 0)],29⟩]]) ?_ ?_
   ·refine q_region (q_m hF rfl fun a hF=>q_y (v:=(.bool (!t_8.2))) hF hS (ex_not rfl) fun a hF=>q_m hF rfl fun a hF=>?_)
    rcases bcase (!t_8.2) with hc5 | hc5
    ·have hj4:=cond_f hc5 hj4
     refine q_g (v:=(.agg #[s1.v])) hF hS (ex_loadA (vs:=[s1.v]) 4 0 U26 rfl sz26 rfl rfl rfl rfl) hc5 fun a hF=>q_g (v:=s2.v) hF hS (ex_move rfl) hc5 fun a hF=>q_g (v:=(.agg #[(iV t_8.1.Level),s10.v,s11.v,(iV t_8.1.Sum)])) hF hS (ex_loadA (vs:=[(iV t_8.1.Level),s10.v,s11.v,(iV t_8.1.Sum)]) 0 0 U29 rfl sz29 rfl rfl rfl rfl) hc5 fun a hF=>?_
     obtain ⟨m14,hl14,hv14,hz14⟩:=hS.lend
     obtain ⟨t_13,ht_13,hj4⟩:=bindS hj4
     refine q_callg (vs:=[(.agg #[s1.v]),s2.v,(.agg #[(iV t_8.1.Level),s10.v,s11.v,(iV t_8.1.Sum)])]) hF hS (wanted_t hF rfl rfl rfl hc5) Tryz.func37 (by kernel_rfl) rfl rfl rfl (c_impl_isTable p_g p_s t_8.1 t_13 ht_13 _ m14 hv14 s1 ((h1.mono hm9.le).mono hl14) s2 ((h2.mono hm9.le).mono hl14) s10 (h10.froz hl14 (hz14 1 _ rfl)) s11 (h11.froz hl14 (hz14 2 _ rfl))) ?_
     rintro a w _ rfl hF hS
     refine q_g (v:=(.bool (!t_13))) hF hS (ex_not rfl) hc5 fun a hF=>q_y (v:=(.bool (!t_13))) hF hS (ex_pick_f rfl rfl hc5) fun a hF=>q_m hF rfl fun a hF=>?_
     rcases bcase (!t_13) with hc6 | hc6
     ·have hj4:=cond_f hc6 hj4
      refine q_g (v:=s2.v) hF hS (ex_move rfl) hc6 fun a hF=>q_g (v:=(.agg #[(iV t_8.1.Level),s10.v,s11.v,(iV t_8.1.Sum)])) hF hS (ex_loadA (vs:=[(iV t_8.1.Level),s10.v,s11.v,(iV t_8.1.Sum)]) 0 0 U29 rfl sz29 rfl rfl rfl rfl) hc6 fun a hF=>?_
      obtain ⟨m16,hl16,hv16,hz16⟩:=hS.lend
      obtain ⟨t_15,ht_15,hj4⟩:=bindS hj4
      refine q_callg (vs:=[s2.v,(.agg #[(iV t_8.1.Level),s10.v,s11.v,(iV t_8.1.Sum)])]) hF hS (wanted_t hF rfl rfl rfl hc6) Tryz.func31 (by kernel_rfl) rfl rfl rfl (c_impl_tableText p_s t_8.1 t_15 ht_15 _ m16 hv16 ((ht.mono hm9.le).mono hl16) s2 ((h2.mono hm9.le).mono hl16) s10 (h10.froz hl16 (hz16 1 _ rfl)) s11 (h11.froz hl16 (hz16 2 _ rfl))) ?_
      rintro a w _ rfl hF hS
      refine q_g (v:=(strV p_x)) hF hS (ex_move rfl) hc6 fun a hF=>q_g (v:=(.bool (t_15 != p_x))) hF hS (ex_strNe rfl rfl) hc6 fun a hF=>q_y (v:=(.bool (t_15 != p_x))) hF hS (ex_pick_f rfl rfl hc6) fun a hF=>q_end (n_jn ?_)
      obtain rfl:=someI hj4
      exact ⟨hF.sub ⟨rfl,rfl,rfl,trivial⟩,hS.sel [1,2,0,3] (by decide)⟩
     ·have hj4:=cond_t hc6 hj4
      refine q_k hF hc6 fun a hF=>q_k hF hc6 fun a hF=>q_k hF hc6 fun a hF=>q_k hF hc6 fun a hF=>q_k hF hc6 fun a hF=>q_y (v:=(.bool true)) hF hS (ex_pick_t rfl rfl hc6) fun a hF=>q_end (n_jn ?_)
      obtain rfl:=someI hj4
      exact ⟨hF.sub ⟨rfl,rfl,rfl,trivial⟩,hS.sel [1,2,0,3] (by decide)⟩
    ·have hj4:=cond_t hc5 hj4
     refine q_k hF hc5 fun a hF=>q_k hF hc5 fun a hF=>q_k hF hc5 fun a hF=>q_k hF hc5 fun a hF=>q_k hF hc5 fun a hF=>q_y (v:=(.bool true)) hF hS (ex_pick_t rfl rfl hc5) fun a hF=>q_m hF rfl fun a hF=>q_k hF rfl fun a hF=>q_k hF rfl fun a hF=>q_k hF rfl fun a hF=>q_k hF rfl fun a hF=>q_k hF rfl fun a hF=>q_y (v:=(.bool true)) hF hS (ex_pick_t rfl rfl rfl) fun a hF=>q_end (n_jn ?_)
     obtain rfl:=someI hj4
     exact ⟨hF.sub ⟨rfl,rfl,rfl,trivial⟩,hS.sel [1,2,0,3] (by decide)⟩
   ·rintro a w ⟨hF,hS⟩
    refine n_sq ?_
    rcases bcase (t_17) with hc7 | hc7
    ·have hr:=cond_f hc7 hr
     refine q_cond_f hF rfl hc7 (q_skipc (n_sq (q_sr (q_y (v:=(.agg #[(iV t_8.1.Level),s10.v,s11.v,(iV t_8.1.Sum)])) hF hS (ex_loadA (vs:=[(iV t_8.1.Level),s10.v,s11.v,(iV t_8.1.Sum)]) 2 0 U29 rfl sz29 rfl rfl rfl rfl) fun a hF=>q_store (vs:=[(iV t_8.1.Level),s10.v,s11.v,(iV t_8.1.Sum)]) (cs':=[(iV t_8.1.Level),s10.v,s11.v,(iV t_8.1.Sum)]) 3 0 hF hS sz29 rfl rfl rfl rfl rfl rfl rfl rfl fun a w hF hS=>q_s hF rfl fun a hF=>q_end (n_sq (q_ret ?_))))))
     obtain rfl:=someI hr
     exact ret_of hF hS rfl (.cellA (us:=[(iV t_8.1.Level),s10.v,s11.v,(iV t_8.1.Sum)]) 3 0 U29 rfl sz29 rfl rfl rfl rfl (.tmp rfl .nil)) ⟨m9,q10,q11,s10,s11,rfl,hm9,hS.sel [0,1] (by decide),h10,h11⟩
    ·have hr:=cond_t hc7 hr
     refine q_cond_t hF rfl hc7 (q_sr (q_y (v:=(.agg #[(iV 0),nilS.v,nilS.v,(iV 0)])) hF hS (ex_build (cells:=[(iV 0),nilS.v,nilS.v,(iV 0)]) rfl (by kernel_rfl)) fun a hF=>q_store (vs:=[(iV 0),nilS.v,nilS.v,(iV 0)]) (cs':=[(iV 0),nilS.v,nilS.v,(iV 0)]) 3 0 hF hS sz29 rfl rfl rfl rfl rfl rfl rfl rfl fun a w hF hS=>q_s hF rfl fun a hF=>q_end (n_sq (q_ret (r_sq ?_)))))
     obtain rfl:=someI hr
     exact ret_of hF hS rfl (.cellA (us:=[(iV 0),nilS.v,nilS.v,(iV 0)]) 3 0 U29 rfl sz29 rfl rfl rfl rfl (.tmp rfl .nil)) ⟨m9,[],[],nilS,nilS,rfl,hm9,hS.sel [4,5] (by decide),(OwnL.nil (α:=Int) m9 3),(OwnL.nil (α:=Int) m9 3)⟩
  ·have hr:=cond_t hc3 hr
   refine q_cond_t hF rfl hc3 (q_sr (q_y (v:=(.agg #[(iV 0),nilS.v,nilS.v,(iV 0)])) hF hS (ex_build (cells:=[(iV 0),nilS.v,nilS.v,(iV 0)]) rfl (by kernel_rfl)) fun a hF=>q_store (vs:=[(iV 0),nilS.v,nilS.v,(iV 0)]) (cs':=[(iV 0),nilS.v,nilS.v,(iV 0)]) 0 0 hF hS sz29 rfl rfl rfl rfl rfl rfl rfl rfl fun a w hF hS=>q_s hF rfl fun a hF=>q_end (n_sq (q_ret (r_sq ?_)))))
   obtain rfl:=someI hr
   exact ret_of hF hS rfl (.cellA (us:=[(iV 0),nilS.v,nilS.v,(iV 0)]) 0 0 U29 rfl sz29 rfl rfl rfl rfl (.tmp rfl .nil)) ⟨m,[],[],nilS,nilS,rfl,(MLe.refl _ _),hS.sel [2,3] (by decide),(OwnL.nil (α:=Int) m 3),(OwnL.nil (α:=Int) m 3)⟩

theorem c_impl_ParsePlan (p_g : impl_Geo) (p_s : List impl_Variable) (p_x : List UInt8) (r : (List impl_Table) × Int × Bool) (hr : impl_ParsePlan p_g p_s p_x = some r) (w0 : World) (m : Mem) (hv : Vis m w0) (ht : Tbl m) (s1 : Sl) (h1 : Rd m s1 p_g.Parents) (s2 : Sl) (h2 : Rd m s2 p_s) :
  Ret Tryz.prog 20 [(.agg #[s1.v]),s2.v,(strV p_x)] w0 (fun v w=>∃ (m' : Mem) (q0' : Piece) (s0' : Sl),v = (.tuple #[s0'.v,(iV r.2.1),(.bool r.2.2)])∧MLe [] w0.heap.size m m'∧St [] w0 w m' [q0']∧OwnL m' 29 q0' s0' r.1):=by
 unfold impl_ParsePlan at hr
 refine ret_start Tryz.func20 rfl 58 rfl rfl m hv fun a hF hS=>q_sr (q_box (cs:=[s1.v]) hF hS rfl rfl rfl fun a w b3 hF hS=>q_s hF rfl fun a hF=>q_s hF rfl fun a hF=>q_s hF rfl fun a hF=>q_end (n_sq (q_seq (q_seq ?_))))
 obtain ⟨t_6,hj1,hr⟩:=bindS hr
 refine q_join (fun a w=>Fr a 58 [(1,s2.v),(2,(strV p_x)),(3,(pP b3 0)),(22,(.bool t_6))]∧St [] w0 w m [[⟨b3,[s1.v],26⟩]]) ?_ ?_
 ·refine q_region (q_y (v:=(.agg #[s1.v])) hF hS (ex_loadA (vs:=[s1.v]) 0 0 U26 rfl sz26 rfl rfl rfl rfl) fun a hF=>?_)
  obtain ⟨t_4,ht_4,hj1⟩:=bindS hj1
  refine q_call (vs:=[(.agg #[s1.v])]) hF hS Tryz.func34 (by kernel_rfl) rfl rfl rfl (c_impl_IsGeo p_g t_4 ht_4 _ m hS.vis s1 h1) ?_
  rintro a w _ rfl hF hS
  refine q_y (v:=(.bool (!t_4))) hF hS (ex_not rfl) fun a hF=>q_m hF rfl fun a hF=>?_
  rcases bcase (!t_4) with hc2 | hc2
  ·have hj1:=cond_f hc2 hj1
   refine q_g (v:=s2.v) hF hS (ex_move rfl) hc2 fun a hF=>?_
   obtain ⟨t_5,ht_5,hj1⟩:=bindS hj1
   refine q_callg (vs:=[s2.v]) hF hS (wanted_t hF rfl rfl rfl hc2) Tryz.func35 (by kernel_rfl) rfl rfl rfl (c_impl_IsSchema p_s t_5 ht_5 _ m hS.vis s2 h2) ?_
   rintro a w _ rfl hF hS
   refine q_g (v:=(.bool (!t_5))) hF hS (ex_not rfl) hc2 fun a hF=>q_y (v:=(.bool (!t_5))) hF hS (ex_pick_f rfl rfl hc2) fun a hF=>q_end (n_jn ?_)
   obtain rfl:=someI hj1
   exact ⟨hF.sub ⟨rfl,rfl,rfl,rfl,trivial⟩,hS⟩
  ·have hj1:=cond_t hc2 hj1
   refine q_k hF hc2 fun a hF=>q_k hF hc2 fun a hF=>q_k hF hc2 fun a hF=>q_y (v:=(.bool true)) hF hS (ex_pick_t rfl rfl hc2) fun a hF=>q_end (n_jn ?_)
   obtain rfl:=someI hj1
   exact ⟨hF.sub ⟨rfl,rfl,rfl,rfl,trivial⟩,hS⟩
 ·rintro a w ⟨hF,hS⟩
  refine n_sq ?_
  rcases bcase (t_6) with hc3 | hc3
  ·have hr:=cond_f hc3 hr
   refine q_cond_f hF rfl hc3 (q_skipc (n_sq (q_sr (q_s hF rfl fun a hF=>q_end (n_sq (q_seq (q_block ?_)))))))
   obtain ⟨o4,hl4,hr⟩:=bindS hr
   refine q_loop (fun (s : (List UInt8) × (List impl_Table)) a w=>∃ (m10 : Mem),∃ (q9 : Piece),∃ (s9 : Sl),∃ x_7,∃ l_8,s = (x_7,l_8)∧Fr a 58 [(1,s2.v),(2,(strV x_7)),(3,(pP b3 0)),(9,s9.v)]∧St [] w0 w m10 [q9,[⟨b3,[s1.v],26⟩]]∧MLe [] w0.heap.size m m10∧OwnL m10 29 q9 s9 l_8) (fun (o : ((List impl_Table)) ⊕ ((List impl_Table) × Int × Bool)) e a w=>∃ (m25 : Mem),∃ (q24 : Piece),∃ (s24 : Sl),∃ l_23,o = .inl l_23∧e = .exit 0∧Fr a 58 [(9,s24.v)]∧St [] w0 w m25 [q24]∧MLe [] w0.heap.size m m25∧OwnL m25 29 q24 s24 l_23) hl4 ⟨m,[],nilS,_,_,rfl,hF.sub ⟨rfl,rfl,rfl,rfl,trivial⟩,hS.sel [1,0] (by decide),(MLe.refl _ _),(OwnL.nil (α:=impl_Table) m 29)⟩ ?_ ?_
   ·clear hF hS
    rintro s a w st ⟨m10,q9,s9,x_7,l_8,rfl,hF,hS,hm10,h9⟩ hb4
    unfold impl_ParsePlan_l1 at hb4
    refine q_seq (q_sr (q_m hF rfl fun a hF=>q_y (v:=(.bool (x_7 != ([] : List UInt8)))) hF hS (ex_strNe rfl rfl) fun a hF=>q_end (n_sq ?_)))
    rcases bcase (x_7 != ([] : List UInt8)) with hc5 | hc5
    ·have hb4:=cond_f hc5 hb4
     refine q_cond_f hF rfl hc5 (q_exit (x_sq ?_))
     obtain rfl:=someI hb4
     exact ⟨nofun,.inl ⟨m10,q9,s9,_,rfl,rfl,hF.sub ⟨rfl,trivial⟩,hS.mask [true,false],hm10,h9⟩⟩
    ·have hb4:=cond_t hc5 hb4
     refine q_cond_t hF rfl hc5 (q_skipc (n_sq (q_block (q_sr (q_m hF rfl fun a hF=>?_)))))
     obtain ⟨t_11,ht_11,hb4⟩:=bindS hb4
     refine q_call (vs:=[(strV x_7),(strV ([10] : List UInt8))]) hF hS Tryz.func52 (by kernel_rfl) rfl rfl rfl (c_strings_Cut x_7 ([10] : List UInt8) t_11 ht_11 _ m10 hS.vis (ht.mono hm10.le)) ?_
     rintro a w _ rfl hF hS
     refine q_m hF rfl fun a hF=>q_y (v:=(strV t_11.1)) hF hS (ex_extract rfl rfl) fun a hF=>q_y (v:=(strV t_11.2.1)) hF hS (ex_extract rfl rfl) fun a hF=>q_y (v:=(.bool t_11.2.2)) hF hS (ex_extract rfl rfl) fun a hF=>q_s hF rfl fun a hF=>q_s hF rfl fun a hF=>q_s hF rfl fun a hF=>q_end (n_sq (q_sr (q_y (v:=(.agg #[s1.v])) hF hS (ex_loadA (vs:=[s1.v]) 1 0 U26 rfl sz26 rfl rfl rfl rfl) fun a hF=>q_m hF rfl fun a hF=>q_m hF rfl fun a hF=>?_)))
     obtain ⟨t_12,ht_12,hb4⟩:=bindS hb4
     refine q_call (vs:=[(.agg #[s1.v]),s2.v,(strV t_11.1)]) hF hS Tryz.func9 (by kernel_rfl) rfl rfl rfl (c_impl_ParseTable p_g p_s t_11.1 t_12 ht_12 _ m10 hS.vis (ht.mono hm10.le) s1 (h1.mono hm10.le) s2 (h2.mono hm10.le)) ?_
     have hT:=hS
     rintro a w _ ⟨m13,q14,q15,s14,s15,rfl,hm13,hR13,h14,h15⟩ hF hS2
     have hS : St _ _ _ _ [q14,q15,q9,[⟨b3,[s1.v],26⟩]]:=hS.join hR13 hm13
     have hm13:=MLe.weakX (O0:=[]) hT hm13
     refine q_m hF rfl fun a hF=>q_y (v:=(.agg #[(iV t_12.1.Level),s14.v,s15.v,(iV t_12.1.Sum)])) hF hS (ex_extract rfl rfl) fun a hF=>q_y (v:=(.bool t_12.2)) hF hS (ex_extract rfl rfl) fun a hF=>q_alloc (cs:=[(iV 0),nilS.v,nilS.v,(iV 0)]) hF hS rfl rfl rfl fun a w b16 hF hS=>q_store (vs:=[(iV t_12.1.Level),s14.v,s15.v,(iV t_12.1.Sum)]) (cs':=[(iV t_12.1.Level),s14.v,s15.v,(iV t_12.1.Sum)]) 0 0 hF hS sz29 rfl rfl rfl rfl rfl rfl rfl rfl fun a w hF hS=>q_s hF rfl fun a hF=>q_end (n_sq (q_seq (q_seq ?_)))
     obtain ⟨t_17,hj6,hb4⟩:=bindS hb4
     refine q_join (fun a w=>Fr a 58 [(1,s2.v),(3,(pP b3 0)),(9,s9.v),(11,(strV t_11.2.1)),(13,(pP b16 0)),(48,(.bool t_17))]∧St [] w0 w m13 [q9,q14,q15,[⟨b16,[(iV t_12.1.Level),s14.v,s15.v,(iV t_12.1.Sum)],29⟩],[⟨b3,[s1.v],26⟩]]) ?_ ?_
     ·refine q_region (q_m hF rfl fun a hF=>q_y (v:=(.bool (!t_11.2.2))) hF hS (ex_not rfl) fun a hF=>q_m hF rfl fun a hF=>?_)
      rcases bcase (!t_11.2.2) with hc7 | hc7
      ·have hj6:=cond_f hc7 hj6
       refine q_g (v:=(.bool t_12.2)) hF hS (ex_move rfl) hc7 fun a hF=>q_g (v:=(.bool (!t_12.2))) hF hS (ex_not rfl) hc7 fun a hF=>q_y (v:=(.bool (!t_12.2))) hF hS (ex_pick_f rfl rfl hc7) fun a hF=>q_m hF rfl fun a hF=>?_
       rcases bcase (!t_12.2) with hc8 | hc8
       ·have hj6:=cond_f hc8 hj6
        refine q_g (v:=s9.v) hF hS (ex_move rfl) hc8 fun a hF=>q_g (v:=(iV (goLen l_8))) hF hS (ex_len U44 rfl (h9.mono hm13.le).len) hc8 fun a hF=>q_g (v:=(.bool ((goLen l_8) == 20))) hF hS (ex_ibin rfl rfl rfl) hc8 fun a hF=>q_y (v:=(.bool ((goLen l_8) == 20))) hF hS (ex_pick_f rfl rfl hc8) fun a hF=>q_end (n_jn ?_)
        obtain rfl:=someI hj6
        exact ⟨hF.sub ⟨rfl,rfl,rfl,rfl,rfl,rfl,trivial⟩,hS.sel [3,1,2,0,4] (by decide)⟩
       ·have hj6:=cond_t hc8 hj6
        refine q_k hF hc8 fun a hF=>q_k hF hc8 fun a hF=>q_k hF hc8 fun a hF=>q_y (v:=(.bool true)) hF hS (ex_pick_t rfl rfl hc8) fun a hF=>q_end (n_jn ?_)
        obtain rfl:=someI hj6
        exact ⟨hF.sub ⟨rfl,rfl,rfl,rfl,rfl,rfl,trivial⟩,hS.sel [3,1,2,0,4] (by decide)⟩
      ·have hj6:=cond_t hc7 hj6
       refine q_k hF hc7 fun a hF=>q_k hF hc7 fun a hF=>q_y (v:=(.bool true)) hF hS (ex_pick_t rfl rfl hc7) fun a hF=>q_m hF rfl fun a hF=>q_k hF rfl fun a hF=>q_k hF rfl fun a hF=>q_k hF rfl fun a hF=>q_y (v:=(.bool true)) hF hS (ex_pick_t rfl rfl rfl) fun a hF=>q_end (n_jn ?_)
       obtain rfl:=someI hj6
       exact ⟨hF.sub ⟨rfl,rfl,rfl,rfl,rfl,rfl,trivial⟩,hS.sel [3,1,2,0,4] (by decide)⟩
     ·rintro a w ⟨hF,hS⟩
      refine n_sq ?_
      rcases bcase (t_17) with hc9 | hc9
      ·have hb4:=cond_f hc9 hb4
       refine q_cond_f hF rfl hc9 (q_skipc (n_sq (q_sr (q_m hF rfl fun a hF=>q_y (v:=(.agg #[(iV t_12.1.Level),s14.v,s15.v,(iV t_12.1.Sum)])) hF hS (ex_loadA (vs:=[(iV t_12.1.Level),s14.v,s15.v,(iV t_12.1.Sum)]) 3 0 U29 rfl sz29 rfl rfl rfl rfl) fun a hF=>?_))))
       have hS : St _ _ _ _ [q14,q9,q15,[⟨b16,[(iV t_12.1.Level),s14.v,s15.v,(iV t_12.1.Sum)],29⟩],[⟨b3,[s1.v],26⟩]]:=hS.sel [1,0,2,3,4] (by decide)
       obtain ⟨m19,hm19,hS,hz19⟩:=hS.freeze
       have h19:=h14.froz hm19.le hz19
       have hS : St _ _ _ _ [q15,q9,[⟨b16,[(iV t_12.1.Level),s14.v,s15.v,(iV t_12.1.Sum)],29⟩],[⟨b3,[s1.v],26⟩]]:=hS.sel [1,0,2,3] (by decide)
       obtain ⟨m20,hm20,hS,hz20⟩:=hS.freeze
       have h20:=(h15.mono hm19.le).froz hm20.le hz20
       refine q_do rfl fun _ hK=>wp_buildSlice' (l:=([t_12.1] : List impl_Table)) (cells:=[(iV t_12.1.Level),s14.v,s15.v,(iV t_12.1.Sum)]) hF hS U44 inf29 rfl rfl (by kernel_rfl) rfl rfl rfl ⟨⟨s14,s15,rfl,(h19.mono hm20.le),h20⟩,rfl⟩ rfl rfl fun a w q18 s18 hF hS h18 _=>hK _ _ ?_
       have hS : St _ _ _ _ [q9,q18,[⟨b16,[(iV t_12.1.Level),s14.v,s15.v,(iV t_12.1.Sum)],29⟩],[⟨b3,[s1.v],26⟩]]:=hS.sel [1,0,2,3] (by decide)
       obtain ⟨l_21,hl_21,hb4⟩:=bindS hb4
       refine q_do rfl fun _ hK=>wp_append hF hS (((h9.mono hm13.le).mono hm19.le).mono hm20.le) U44 inf29 rfl rfl rfl rfl (h18.vw hS (j:=1) rfl) rfl (by decide) hl_21 rfl fun a w q22 s22 hF hS h22=>hK _ _ (q_s hF rfl fun a hF=>q_end (n_sq (q_region (q_m hF rfl fun a hF=>q_s hF rfl fun a hF=>q_end (n_ib ?_)))))
       obtain rfl:=someI hb4
       exact ⟨rfl,m20,q22,s22,_,_,rfl,hF.sub ⟨rfl,rfl,rfl,rfl,trivial⟩,hS.mask [true,false,false,true],(((hm10.trans hm13).trans hm19).trans hm20),h22⟩
      ·have hb4:=cond_t hc9 hb4
       refine q_cond_t hF rfl hc9 (q_sr (q_m hF rfl fun a hF=>q_y (v:=(iV (goLen l_8))) hF hS (ex_len U44 rfl (h9.mono hm13.le).len) fun a hF=>q_y (v:=(iV (w64 ((goLen l_8) + 1)))) hF hS (ex_ibin rfl rfl rfl) fun a hF=>q_s hF rfl fun a hF=>q_s hF rfl fun a hF=>q_s hF rfl fun a hF=>q_end (n_sq (q_ret (r_sq (r_ib ?_))))))
       obtain rfl:=someI hb4
       refine ⟨nofun,.inr fun ho=>?_⟩
       subst ho
       refine r_ib (r_sq ?_)
       obtain rfl:=someI hr
       exact ret_of hF hS rfl (.tmp rfl (.tmp rfl (.tmp rfl .nil))) ⟨m13,[],nilS,rfl,(hm10.trans hm13),hS.sel [5] (by decide),(OwnL.nil (α:=impl_Table) m13 29)⟩
   ·rintro e a w ⟨m25,q24,s24,l_23,rfl,rfl,hF,hS,hm25,h24⟩
    refine x_ib (n_sq ?_)
    refine q_sr (q_m hF rfl fun a hF=>q_s hF rfl fun a hF=>q_s hF rfl fun a hF=>q_s hF rfl fun a hF=>q_end (n_sq (q_ret ?_)))
    obtain rfl:=someI hr
    exact ret_of hF hS rfl (.tmp rfl (.tmp rfl (.tmp rfl .nil))) ⟨m25,q24,s24,rfl,hm25,hS.sel [0] (by decide),h24⟩
  ·have hr:=cond_t hc3 hr
   refine q_cond_t hF rfl hc3 (q_sr (q_s hF rfl fun a hF=>q_s hF rfl fun a hF=>q_s hF rfl fun a hF=>q_end (n_sq (q_ret (r_sq ?_)))))
   obtain rfl:=someI hr
   exact ret_of hF hS rfl (.tmp rfl (.tmp rfl (.tmp rfl .nil))) ⟨m,[],nilS,rfl,(MLe.refl _ _),hS.sel [1] (by decide),(OwnL.nil (α:=impl_Table) m 29)⟩

theorem c_laws_sameInts (p_a : List Int) (p_b : List Int) (r : Bool) (hr : laws_sameInts p_a p_b = some r) (w0 : World) (m : Mem) (hv : Vis m w0) (s1 : Sl) (h1 : Rd m s1 p_a) (s2 : Sl) (h2 : Rd m s2 p_b) :
  Ret Tryz.prog 40 [s1.v,s2.v] w0 (fun v _=>v = (.bool r)):=by
 unfold laws_sameInts at hr
 refine ret_start Tryz.func40 rfl 26 rfl rfl m hv fun a hF hS=>q_sr (q_s hF rfl fun a hF=>q_end (n_sq (q_seq (q_sr (q_m hF rfl fun a hF=>q_y (v:=(iV (goLen p_a))) hF hS (ex_len U24 rfl h1.len) fun a hF=>q_m hF rfl fun a hF=>q_y (v:=(iV (goLen p_b))) hF hS (ex_len U24 rfl h2.len) fun a hF=>q_y (v:=(.bool ((goLen p_a) != (goLen p_b)))) hF hS (ex_ibin rfl rfl rfl) fun a hF=>q_end (n_sq ?_))))))
 rcases bcase ((goLen p_a) != (goLen p_b)) with hc1 | hc1
 ·have hr:=cond_f hc1 hr
  refine q_cond_f hF rfl hc1 (q_skipc (n_sq (q_seq (q_sr (q_m hF rfl fun a hF=>q_y (v:=(iV (goLen p_a))) hF hS (ex_len U24 rfl h1.len) fun a hF=>q_m hF rfl fun a hF=>q_end (n_sq (q_block ?_)))))))
  obtain ⟨o2,hl2,hr⟩:=bindS hr
  refine q_loop (fun (t_3 : Int) a w=>Fr a 26 [(0,s1.v),(1,s2.v),(12,(iV (goLen p_a))),(13,(iV t_3))]∧St [] w0 w m []) (fun (o : (Unit) ⊕ (Bool)) e a w=>o = .inl ()∧e = .exit 0∧Fr a 26 []∧St [] w0 w m []) hl2 ⟨hF.sub ⟨rfl,rfl,rfl,rfl,trivial⟩,hS⟩ ?_ ?_
  ·clear hF hS
   rintro t_3 a w st ⟨hF,hS⟩ hb2
   unfold laws_sameInts_l1 at hb2
   refine q_sr (q_y (v:=(.bool (decide (t_3 < (goLen p_a))))) hF hS (ex_ibin rfl rfl rfl) fun a hF=>q_end (n_sq (q_seq ?_)))
   rcases bcase (decide (t_3 < (goLen p_a))) with hc3 | hc3
   ·have hb2:=cond_f hc3 hb2
    refine q_cond_f hF rfl hc3 (q_exit (x_sq ?_))
    obtain rfl:=someI hb2
    exact ⟨nofun,.inl ⟨rfl,rfl,hF.sub trivial,hS⟩⟩
   ·have hb2:=cond_t hc3 hb2
    refine q_cond_t hF rfl hc3 (q_skipc (n_sq (q_seq (q_block (q_sr (q_m hF rfl fun a hF=>q_s hF rfl fun a hF=>q_end (n_sq (q_seq (e_region ⟨[],[]⟩ mixed fun w' hw'=>?_)))))))))
    have hS:=hS.below hw'
    refine e_P (v:=s1.v) 0 hF rfl (ex_move rfl) fun a hF=>e_P (v:=(iV t_3)) 1 hF rfl (ex_move rfl) fun a hF=>?_
    obtain ⟨e_4,he_4,hb2⟩:=bindS hb2
    obtain ⟨vs5,at5,d5⟩:=h1.at he_4 1 rfl
    obtain rfl : vs5 = [(iV e_4)]:=d5
    refine e_P (v:=(elP s1 (t_3.toNat * 1))) 2 hF rfl (ex_indexAddr U24 sz3 rfl rfl (h1.idx he_4)) fun a hF=>e_X (v:=(iV e_4)) 3 hF hS rfl (ex_loadE1 0 U3 rfl rfl ((at5).at) rfl rfl) fun a hF=>e_P (v:=s2.v) 4 hF rfl (ex_move rfl) fun a hF=>e_P (v:=(iV t_3)) 5 hF rfl (ex_move rfl) fun a hF=>?_
    obtain ⟨e_6,he_6,hb2⟩:=bindS hb2
    obtain ⟨vs7,at7,d7⟩:=h2.at he_6 1 rfl
    obtain rfl : vs7 = [(iV e_6)]:=d7
    refine e_P (v:=(elP s2 (t_3.toNat * 1))) 6 hF rfl (ex_indexAddr U24 sz3 rfl rfl (h2.idx he_6)) fun a hF=>e_X (v:=(iV e_6)) 7 hF hS rfl (ex_loadE1 0 U3 rfl rfl ((at7).at) rfl rfl) fun a hF=>e_P (v:=(.bool (e_4 != e_6))) 8 hF rfl (ex_ibin rfl rfl rfl) fun a hF=>e_end (by kernel_rfl) (n_sq ?_) _
    rcases bcase (e_4 != e_6) with hc4 | hc4
    ·have hb2:=cond_f hc4 hb2
     refine q_cond_f hF rfl hc4 (q_skipc (n_ib (n_sq (q_region (q_y (v:=(iV (w64 (t_3 + 1)))) hF hS (ex_ibin rfl rfl rfl) fun a hF=>q_m hF rfl fun a hF=>q_end ?_)))))
     obtain rfl:=someI hb2
     exact ⟨rfl,hF.sub ⟨rfl,rfl,rfl,rfl,trivial⟩,hS⟩
    ·have hb2:=cond_t hc4 hb2
     refine q_cond_t hF rfl hc4 (q_sr (q_s hF rfl fun a hF=>q_end (n_sq (q_ret (r_ib (r_sq ?_))))))
     obtain rfl:=someI hb2
     refine ⟨nofun,.inr fun ho=>?_⟩
     subst ho
     refine r_ib (r_sq ?_)
     obtain rfl:=someI hr
     exact ret_of hF hS rfl (.tmp rfl .nil) rfl
  ·rintro e a w ⟨rfl,rfl,hF,hS⟩
   refine x_ib (n_sq ?_)
   refine q_sr (q_s hF rfl fun a hF=>q_end (n_sq (q_ret ?_)))
   obtain rfl:=someI hr
   exact ret_of hF hS rfl (.tmp rfl .nil) rfl
 ·have hr:=cond_t hc1 hr
  refine q_cond_t hF rfl hc1 (q_sr (q_s hF rfl fun a hF=>q_end (n_sq (q_ret (r_sq ?_)))))
  obtain rfl:=someI hr
  exact ret_of hF hS rfl (.tmp rfl .nil) rfl

theorem c_laws_pSameTable (p_a : impl_Table) (p_b : impl_Table) (r : Bool) (hr : laws_pSameTable p_a p_b = some r) (w0 : World) (m : Mem) (hv : Vis m w0) (s1 : Sl) (h1 : Rd m s1 p_a.Vars) (s2 : Sl) (h2 : Rd m s2 p_a.Where) (s3 : Sl) (h3 : Rd m s3 p_b.Vars) (s4 : Sl) (h4 : Rd m s4 p_b.Where) :
  Ret Tryz.prog 12 [(.agg #[(iV p_a.Level),s1.v,s2.v,(iV p_a.Sum)]),(.agg #[(iV p_b.Level),s3.v,s4.v,(iV p_b.Sum)])] w0 (fun v _=>v = (.bool r)):=by
 unfold laws_pSameTable at hr
 refine ret_start Tryz.func12 rfl 31 rfl rfl m hv fun a hF hS=>q_sr (q_box (cs:=[(iV p_a.Level),s1.v,s2.v,(iV p_a.Sum)]) hF hS rfl rfl rfl fun a w b5 hF hS=>q_box (cs:=[(iV p_b.Level),s3.v,s4.v,(iV p_b.Sum)]) hF hS rfl rfl rfl fun a w b6 hF hS=>q_s hF rfl fun a hF=>q_end (n_sq (q_seq ?_)))
 obtain ⟨t_9,hj1,hr⟩:=bindS hr
 refine q_join (fun a w=>Fr a 31 [(4,(.bool t_9))]∧St [] w0 w m []) ?_ ?_
 ·refine q_region (q_y (v:=(pP b5 0)) hF hS (ex_fieldAddr U29 rfl sz3 rfl rfl) fun a hF=>q_y (v:=(iV p_a.Level)) hF hS (ex_load1 1 0 U3 rfl rfl rfl rfl) fun a hF=>q_y (v:=(pP b6 0)) hF hS (ex_fieldAddr U29 rfl sz3 rfl rfl) fun a hF=>q_y (v:=(iV p_b.Level)) hF hS (ex_load1 0 0 U3 rfl rfl rfl rfl) fun a hF=>q_y (v:=(.bool (p_a.Level == p_b.Level))) hF hS (ex_ibin rfl rfl rfl) fun a hF=>q_m hF rfl fun a hF=>?_)
  rcases bcase (p_a.Level == p_b.Level) with hc2 | hc2
  ·have hj1:=cond_f hc2 hj1
   refine q_k hF hc2 fun a hF=>q_k hF hc2 fun a hF=>q_k hF hc2 fun a hF=>q_k hF hc2 fun a hF=>q_k hF hc2 fun a hF=>q_y (v:=(.bool false)) hF hS (ex_pick_f rfl rfl hc2) fun a hF=>q_m hF rfl fun a hF=>q_k hF rfl fun a hF=>q_k hF rfl fun a hF=>q_k hF rfl fun a hF=>q_k hF rfl fun a hF=>q_k hF rfl fun a hF=>q_y (v:=(.bool false)) hF hS (ex_pick_f rfl rfl rfl) fun a hF=>q_m hF rfl fun a hF=>q_k hF rfl fun a hF=>q_k hF rfl fun a hF=>q_k hF rfl fun a hF=>q_k hF rfl fun a hF=>q_k hF rfl fun a hF=>q_y (v:=(.bool false)) hF hS (ex_pick_f rfl rfl rfl) fun a hF=>q_s hF rfl fun a hF=>q_end (n_jn ?_)
   obtain rfl:=someI hj1
   exact ⟨hF.sub ⟨rfl,trivial⟩,hS.mask [false,false]⟩
  ·have hj1:=cond_t hc2 hj1
   refine q_g (v:=(pP b5 1)) hF hS (ex_fieldAddr U29 rfl sz24 rfl rfl) hc2 fun a hF=>q_g (v:=s1.v) hF hS (ex_load1 1 0 U24 rfl rfl rfl rfl) hc2 fun a hF=>q_g (v:=(pP b6 1)) hF hS (ex_fieldAddr U29 rfl sz24 rfl rfl) hc2 fun a hF=>q_g (v:=s3.v) hF hS (ex_load1 0 0 U24 rfl rfl rfl rfl) hc2 fun a hF=>?_
   obtain ⟨t_7,ht_7,hj1⟩:=bindS hj1
   refine q_callg (vs:=[s1.v,s3.v]) hF hS (wanted_t hF rfl rfl rfl hc2) Tryz.func40 (by kernel_rfl) rfl rfl rfl (c_laws_sameInts p_a.Vars p_b.Vars t_7 ht_7 _ m hS.vis s1 h1 s3 h3) ?_
   rintro a w _ rfl hF hS
   refine q_y (v:=(.bool t_7)) hF hS (ex_pick_t rfl rfl hc2) fun a hF=>q_m hF rfl fun a hF=>?_
   rcases bcase (t_7) with hc3 | hc3
   ·have hj1:=cond_f hc3 hj1
    refine q_k hF hc3 fun a hF=>q_k hF hc3 fun a hF=>q_k hF hc3 fun a hF=>q_k hF hc3 fun a hF=>q_k hF hc3 fun a hF=>q_y (v:=(.bool false)) hF hS (ex_pick_f rfl rfl hc3) fun a hF=>q_m hF rfl fun a hF=>q_k hF rfl fun a hF=>q_k hF rfl fun a hF=>q_k hF rfl fun a hF=>q_k hF rfl fun a hF=>q_k hF rfl fun a hF=>q_y (v:=(.bool false)) hF hS (ex_pick_f rfl rfl rfl) fun a hF=>q_s hF rfl fun a hF=>q_end (n_jn ?_)
    obtain rfl:=someI hj1
    exact ⟨hF.sub ⟨rfl,trivial⟩,hS.mask [false,false]⟩
   ·have hj1:=cond_t hc3 hj1
    refine q_g (v:=(pP b5 2)) hF hS (ex_fieldAddr U29 rfl sz24 rfl rfl) hc3 fun a hF=>q_g (v:=s2.v) hF hS (ex_load1 1 0 U24 rfl rfl rfl rfl) hc3 fun a hF=>q_g (v:=(pP b6 2)) hF hS (ex_fieldAddr U29 rfl sz24 rfl rfl) hc3 fun a hF=>q_g (v:=s4.v) hF hS (ex_load1 0 0 U24 rfl rfl rfl rfl) hc3 fun a hF=>?_
    obtain ⟨t_8,ht_8,hj1⟩:=bindS hj1
    refine q_callg (vs:=[s2.v,s4.v]) hF hS (wanted_t hF rfl rfl rfl hc3) Tryz.func40 (by kernel_rfl) rfl rfl rfl (c_laws_sameInts p_a.Where p_b.Where t_8 ht_8 _ m hS.vis s2 h2 s4 h4) ?_
    rintro a w _ rfl hF hS
    refine q_y (v:=(.bool t_8)) hF hS (ex_pick_t rfl rfl hc3) fun a hF=>q_m hF rfl fun a hF=>?_
    rcases bcase (t_8) with hc4 | hc4
    ·have hj1:=cond_f hc4 hj1
     refine q_k hF hc4 fun a hF=>q_k hF hc4 fun a hF=>q_k hF hc4 fun a hF=>q_k hF hc4 fun a hF=>q_k hF hc4 fun a hF=>q_y (v:=(.bool false)) hF hS (ex_pick_f rfl rfl hc4) fun a hF=>q_s hF rfl fun a hF=>q_end (n_jn ?_)
     obtain rfl:=someI hj1
     exact ⟨hF.sub ⟨rfl,trivial⟩,hS.mask [false,false]⟩
    ·have hj1:=cond_t hc4 hj1
     refine q_g (v:=(pP b5 3)) hF hS (ex_fieldAddr U29 rfl sz3 rfl rfl) hc4 fun a hF=>q_g (v:=(iV p_a.Sum)) hF hS (ex_load1 1 0 U3 rfl rfl rfl rfl) hc4 fun a hF=>q_g (v:=(pP b6 3)) hF hS (ex_fieldAddr U29 rfl sz3 rfl rfl) hc4 fun a hF=>q_g (v:=(iV p_b.Sum)) hF hS (ex_load1 0 0 U3 rfl rfl rfl rfl) hc4 fun a hF=>q_g (v:=(.bool (p_a.Sum == p_b.Sum))) hF hS (ex_ibin rfl rfl rfl) hc4 fun a hF=>q_y (v:=(.bool (p_a.Sum == p_b.Sum))) hF hS (ex_pick_t rfl rfl hc4) fun a hF=>q_s hF rfl fun a hF=>q_end (n_jn ?_)
     obtain rfl:=someI hj1
     exact ⟨hF.sub ⟨rfl,trivial⟩,hS.mask [false,false]⟩
 ·rintro a w ⟨hF,hS⟩
  refine n_sq (q_ret ?_)
  obtain rfl:=someI hr
  exact ret_of hF hS rfl (.tmp rfl .nil) rfl

theorem c_laws_pSameTables (p_a : List impl_Table) (p_b : List impl_Table) (r : Bool) (hr : laws_pSameTables p_a p_b = some r) (w0 : World) (m : Mem) (hv : Vis m w0) (s1 : Sl) (h1 : Rd m s1 p_a) (s2 : Sl) (h2 : Rd m s2 p_b) :
  Ret Tryz.prog 21 [s1.v,s2.v] w0 (fun v _=>v = (.bool r)):=by
 unfold laws_pSameTables at hr
 refine ret_start Tryz.func21 rfl 27 rfl rfl m hv fun a hF hS=>q_sr (q_s hF rfl fun a hF=>q_end (n_sq (q_seq (q_sr (q_m hF rfl fun a hF=>q_y (v:=(iV (goLen p_a))) hF hS (ex_len U44 rfl h1.len) fun a hF=>q_m hF rfl fun a hF=>q_y (v:=(iV (goLen p_b))) hF hS (ex_len U44 rfl h2.len) fun a hF=>q_y (v:=(.bool ((goLen p_a) != (goLen p_b)))) hF hS (ex_ibin rfl rfl rfl) fun a hF=>q_end (n_sq ?_))))))
 rcases bcase ((goLen p_a) != (goLen p_b)) with hc1 | hc1
 ·have hr:=cond_f hc1 hr
  refine q_cond_f hF rfl hc1 (q_skipc (n_sq (q_seq (q_sr (q_m hF rfl fun a hF=>q_y (v:=(iV (goLen p_a))) hF hS (ex_len U44 rfl h1.len) fun a hF=>q_m hF rfl fun a hF=>q_end (n_sq (q_block ?_)))))))
  obtain ⟨o2,hl2,hr⟩:=bindS hr
  refine q_loop (fun (t_3 : Int) a w=>Fr a 27 [(0,s1.v),(1,s2.v),(12,(iV (goLen p_a))),(13,(iV t_3))]∧St [] w0 w m []) (fun (o : (Unit) ⊕ (Bool)) e a w=>o = .inl ()∧e = .exit 0∧Fr a 27 []∧St [] w0 w m []) hl2 ⟨hF.sub ⟨rfl,rfl,rfl,rfl,trivial⟩,hS⟩ ?_ ?_
  ·clear hF hS
   rintro t_3 a w st ⟨hF,hS⟩ hb2
   unfold laws_pSameTables_l1 at hb2
   refine q_sr (q_y (v:=(.bool (decide (t_3 < (goLen p_a))))) hF hS (ex_ibin rfl rfl rfl) fun a hF=>q_end (n_sq (q_seq ?_)))
   rcases bcase (decide (t_3 < (goLen p_a))) with hc3 | hc3
   ·have hb2:=cond_f hc3 hb2
    refine q_cond_f hF rfl hc3 (q_exit (x_sq ?_))
    obtain rfl:=someI hb2
    exact ⟨nofun,.inl ⟨rfl,rfl,hF.sub trivial,hS⟩⟩
   ·have hb2:=cond_t hc3 hb2
    refine q_cond_t hF rfl hc3 (q_skipc (n_sq (q_seq (q_block (q_sr (q_m hF rfl fun a hF=>q_s hF rfl fun a hF=>q_end (n_sq (q_seq (e_region ⟨[],[]⟩ mixed fun w' hw'=>?_)))))))))
    have hS:=hS.below hw'
    refine e_P (v:=s1.v) 0 hF rfl (ex_move rfl) fun a hF=>e_P (v:=(iV t_3)) 1 hF rfl (ex_move rfl) fun a hF=>?_
    obtain ⟨e_4,he_4,hb2⟩:=bindS hb2
    obtain ⟨vs5,at5,d5⟩:=h1.at he_4 4 rfl
    obtain ⟨s6,s7,rfl,h6,h7⟩ : ∃ s6 s7 : Sl,vs5 = [(iV e_4.Level),s6.v,s7.v,(iV e_4.Sum)]∧Rd m s6 e_4.Vars∧Rd m s7 e_4.Where:=d5
    refine e_P (v:=(elP s1 (t_3.toNat * 4))) 2 hF rfl (ex_indexAddr U44 sz29 rfl rfl (h1.idx he_4)) fun a hF=>e_X (v:=(.agg #[(iV e_4.Level),s6.v,s7.v,(iV e_4.Sum)])) 3 hF hS rfl (ex_loadEA (us:=[(iV e_4.Level),s6.v,s7.v,(iV e_4.Sum)]) 0 U29 rfl sz29 rfl ((at5).at) rfl rfl rfl) fun a hF=>e_P (v:=s2.v) 4 hF rfl (ex_move rfl) fun a hF=>e_P (v:=(iV t_3)) 5 hF rfl (ex_move rfl) fun a hF=>?_
    obtain ⟨e_8,he_8,hb2⟩:=bindS hb2
    obtain ⟨vs9,at9,d9⟩:=h2.at he_8 4 rfl
    obtain ⟨s10,s11,rfl,h10,h11⟩ : ∃ s10 s11 : Sl,vs9 = [(iV e_8.Level),s10.v,s11.v,(iV e_8.Sum)]∧Rd m s10 e_8.Vars∧Rd m s11 e_8.Where:=d9
    refine e_P (v:=(elP s2 (t_3.toNat * 4))) 6 hF rfl (ex_indexAddr U44 sz29 rfl rfl (h2.idx he_8)) fun a hF=>e_X (v:=(.agg #[(iV e_8.Level),s10.v,s11.v,(iV e_8.Sum)])) 7 hF hS rfl (ex_loadEA (us:=[(iV e_8.Level),s10.v,s11.v,(iV e_8.Sum)]) 0 U29 rfl sz29 rfl ((at9).at) rfl rfl rfl) fun a hF=>e_one 8 (by kernel_rfl) ?_
    obtain ⟨t_12,ht_12,hb2⟩:=bindS hb2
    refine e_call (vs:=[(.agg #[(iV e_4.Level),s6.v,s7.v,(iV e_4.Sum)]),(.agg #[(iV e_8.Level),s10.v,s11.v,(iV e_8.Sum)])]) hF hS rfl Tryz.func12 (by kernel_rfl) rfl rfl rfl (c_laws_pSameTable e_4 e_8 t_12 ht_12 _ m hS.vis s6 h6 s7 h7 s10 h10 s11 h11) ?_
    rintro a w _ rfl hF hS
    refine e_P (v:=(.bool (!t_12))) 9 hF rfl (ex_not rfl) fun a hF=>e_end (by kernel_rfl) (n_sq ?_) _
    rcases bcase (!t_12) with hc4 | hc4
    ·have hb2:=cond_f hc4 hb2
     refine q_cond_f hF rfl hc4 (q_skipc (n_ib (n_sq (q_region (q_y (v:=(iV (w64 (t_3 + 1)))) hF hS (ex_ibin rfl rfl rfl) fun a hF=>q_m hF rfl fun a hF=>q_end ?_)))))
     obtain rfl:=someI hb2
     exact ⟨rfl,hF.sub ⟨rfl,rfl,rfl,rfl,trivial⟩,hS⟩
    ·have hb2:=cond_t hc4 hb2
     refine q_cond_t hF rfl hc4 (q_sr (q_s hF rfl fun a hF=>q_end (n_sq (q_ret (r_ib (r_sq ?_))))))
     obtain rfl:=someI hb2
     refine ⟨nofun,.inr fun ho=>?_⟩
     subst ho
     refine r_ib (r_sq ?_)
     obtain rfl:=someI hr
     exact ret_of hF hS rfl (.tmp rfl .nil) rfl
  ·rintro e a w ⟨rfl,rfl,hF,hS⟩
   refine x_ib (n_sq ?_)
   refine q_sr (q_s hF rfl fun a hF=>q_end (n_sq (q_ret ?_)))
   obtain rfl:=someI hr
   exact ret_of hF hS rfl (.tmp rfl .nil) rfl
 ·have hr:=cond_t hc1 hr
  refine q_cond_t hF rfl hc1 (q_sr (q_s hF rfl fun a hF=>q_end (n_sq (q_ret (r_sq ?_)))))
  obtain rfl:=someI hr
  exact ret_of hF hS rfl (.tmp rfl .nil) rfl

theorem c_spec_l1Cur_spoilt (p_c : spec_l1Cur) (p_t : List UInt8) (p_with : List UInt8) (r : (List UInt8) × spec_l1Cur) (hr : spec_l1Cur_spoilt p_c p_t p_with = some r) (w0 : World) (m : Mem) (b_p_c : Nat) (s1 : Sl) (h1 : Rd m s1 p_c.code) (X : List Nat) (hS : St X w0 w0 m [[⟨b_p_c,[s1.v,(iV p_c.at_),(.int .u64 p_c.seed.v)],59⟩]]) :
  RetX Tryz.prog 43 [(pP b_p_c 0),(strV p_t),(strV p_with)] w0 (fun v w=>v = (strV r.1)∧St X w0 w m [[⟨b_p_c,[s1.v,(iV r.2.at_),(.int .u64 r.2.seed.v)],59⟩]]∧r.2.code = p_c.code):=by
 unfold spec_l1Cur_spoilt at hr
 refine ret_startX Tryz.func43 rfl 68 rfl rfl fun a hF=>q_sr (q_s hF rfl fun a hF=>q_end (n_sq (q_seq (q_sr (q_m hF rfl fun a hF=>?_)))))
 have hS2 : St _ _ _ _ ([[⟨b_p_c,[s1.v,(iV p_c.at_),(.int .u64 p_c.seed.v)],59⟩]]++[]):=hS
 have hE2:=hS2.enter
 obtain ⟨t_3,ht_3,hr⟩:=bindS hr
 refine q_do rfl fun _ hK=>wp_callX (vs:=[(pP b_p_c 0),(iV 2)]) hF Tryz.func62 (by kernel_rfl) rfl rfl rfl (c_spec_l1Cur_pick p_c 2 t_3 ht_3 _ m b_p_c s1 h1 _ hE2) fun a w _ hR hF=>hK _ _ ?_
 obtain ⟨rfl,hR2,hk4⟩:=hR
 have hS : St _ _ _ _ [[⟨b_p_c,[s1.v,(iV t_3.2.at_),(.int .u64 t_3.2.seed.v)],59⟩]]:=hS2.leaveF hR2
 have h4 : Rd m s1 t_3.2.code:=by rw [hk4]; exact h1
 refine q_y (v:=(iV (w64 (1 + t_3.1)))) hF hS (ex_ibin rfl rfl rfl) fun a hF=>q_s hF rfl fun a hF=>q_end (n_sq (q_block ?_))
 obtain ⟨o1,hl1,hr⟩:=bindS hr
 refine q_loop (fun (s : (List UInt8) × Int × spec_l1Cur) a w=>∃ t_5,∃ n_6,∃ p_c_7,s = (t_5,n_6,p_c_7)∧Fr a 68 [(0,(pP b_p_c 0)),(1,(strV t_5)),(2,(strV p_with)),(7,(iV n_6))]∧St X w0 w m [[⟨b_p_c,[s1.v,(iV p_c_7.at_),(.int .u64 p_c_7.seed.v)],59⟩]]∧Rd m s1 p_c_7.code∧p_c_7.code = p_c.code) (fun (o : (List UInt8) × spec_l1Cur) e a w=>∃ t_34,∃ p_c_35,o = (t_34,p_c_35)∧e = .exit 0∧Fr a 68 [(1,(strV t_34))]∧St X w0 w m [[⟨b_p_c,[s1.v,(iV p_c_35.at_),(.int .u64 p_c_35.seed.v)],59⟩]]∧Rd m s1 p_c_35.code∧p_c_35.code = p_c.code) hl1 ⟨_,_,_,rfl,hF.sub ⟨rfl,rfl,rfl,rfl,trivial⟩,hS,h4,hk4⟩ ?_ ?_
 ·clear hF hS
  rintro s a w st ⟨t_5,n_6,p_c_7,rfl,hF,hS,h8,h8k⟩ hb1
  unfold spec_l1Cur_spoilt_l1 at hb1
  refine q_seq (q_seq ?_)
  obtain ⟨t_9,hj2,hb1⟩:=bindS hb1
  refine q_join (fun a w=>Fr a 68 [(0,(pP b_p_c 0)),(1,(strV t_5)),(2,(strV p_with)),(7,(iV n_6)),(19,(.bool t_9))]∧St X w0 w m [[⟨b_p_c,[s1.v,(iV p_c_7.at_),(.int .u64 p_c_7.seed.v)],59⟩]]) ?_ ?_
  ·refine q_region (q_m hF rfl fun a hF=>q_y (v:=(.bool (decide (0 < n_6)))) hF hS (ex_ibin rfl rfl rfl) fun a hF=>q_m hF rfl fun a hF=>?_)
   rcases bcase (decide (0 < n_6)) with hc3 | hc3
   ·have hj2:=cond_f hc3 hj2
    refine q_k hF hc3 fun a hF=>q_k hF hc3 fun a hF=>q_k hF hc3 fun a hF=>q_y (v:=(.bool false)) hF hS (ex_pick_f rfl rfl hc3) fun a hF=>q_end (n_jn ?_)
    obtain rfl:=someI hj2
    exact ⟨hF.sub ⟨rfl,rfl,rfl,rfl,rfl,trivial⟩,hS⟩
   ·have hj2:=cond_t hc3 hj2
    refine q_g (v:=(strV t_5)) hF hS (ex_move rfl) hc3 fun a hF=>q_g (v:=(iV (goLen t_5))) hF hS (ex_strLen U9 rfl) hc3 fun a hF=>q_g (v:=(.bool (decide (0 < (goLen t_5))))) hF hS (ex_ibin rfl rfl rfl) hc3 fun a hF=>q_y (v:=(.bool (decide (0 < (goLen t_5))))) hF hS (ex_pick_t rfl rfl hc3) fun a hF=>q_end (n_jn ?_)
    obtain rfl:=someI hj2
    exact ⟨hF.sub ⟨rfl,rfl,rfl,rfl,rfl,trivial⟩,hS⟩
  ·rintro a w ⟨hF,hS⟩
   refine n_sq ?_
   rcases bcase (t_9) with hc4 | hc4
   ·have hb1:=cond_f hc4 hb1
    refine q_cond_f hF rfl hc4 (q_exit (x_sq ?_))
    obtain rfl:=someI hb1
    exact ⟨nofun,.inl ⟨_,_,rfl,rfl,hF.sub ⟨rfl,trivial⟩,hS,h8,h8k⟩⟩
   ·have hb1:=cond_t hc4 hb1
    refine q_cond_t hF rfl hc4 (q_skipc (n_sq (q_seq (q_block (q_sr (q_m hF rfl fun a hF=>q_m hF rfl fun a hF=>q_y (v:=(iV (goLen t_5))) hF hS (ex_strLen U9 rfl) fun a hF=>?_))))))
    have hS10 : St _ _ _ _ ([[⟨b_p_c,[s1.v,(iV p_c_7.at_),(.int .u64 p_c_7.seed.v)],59⟩]]++[]):=hS
    have hE10:=hS10.enter
    obtain ⟨t_11,ht_11,hb1⟩:=bindS hb1
    refine q_do rfl fun _ hK=>wp_callX (vs:=[(pP b_p_c 0),(iV (goLen t_5))]) hF Tryz.func62 (by kernel_rfl) rfl rfl rfl (c_spec_l1Cur_pick p_c_7 (goLen t_5) t_11 ht_11 _ m b_p_c s1 h8 _ hE10) fun a w _ hR hF=>hK _ _ ?_
    obtain ⟨rfl,hR10,hk12⟩:=hR
    have hS : St _ _ _ _ [[⟨b_p_c,[s1.v,(iV t_11.2.at_),(.int .u64 t_11.2.seed.v)],59⟩]]:=hS10.leaveF hR10
    have h12 : Rd m s1 t_11.2.code:=by rw [hk12]; exact h8
    refine q_s hF rfl fun a hF=>q_end (n_sq (q_sr (q_m hF rfl fun a hF=>q_m hF rfl fun a hF=>q_m hF rfl fun a hF=>q_y (v:=(iV (goLen p_with))) hF hS (ex_strLen U9 rfl) fun a hF=>?_)))
    have hS13 : St _ _ _ _ ([[⟨b_p_c,[s1.v,(iV t_11.2.at_),(.int .u64 t_11.2.seed.v)],59⟩]]++[]):=hS
    have hE13:=hS13.enter
    obtain ⟨t_14,ht_14,hb1⟩:=bindS hb1
    refine q_do rfl fun _ hK=>wp_callX (vs:=[(pP b_p_c 0),(iV (goLen p_with))]) hF Tryz.func62 (by kernel_rfl) rfl rfl rfl (c_spec_l1Cur_pick t_11.2 (goLen p_with) t_14 ht_14 _ m b_p_c s1 h12 _ hE13) fun a w _ hR hF=>hK _ _ ?_
    obtain ⟨rfl,hR13,hk15⟩:=hR
    have hS : St _ _ _ _ [[⟨b_p_c,[s1.v,(iV t_14.2.at_),(.int .u64 t_14.2.seed.v)],59⟩]]:=hS13.leaveF hR13
    have h15 : Rd m s1 t_14.2.code:=by rw [hk15]; exact h12
    obtain ⟨t_16,ht_16,hb1⟩:=bindS hb1
    refine q_y (v:=(.int .u8 t_16)) hF hS (ex_strIdx U9 rfl rfl ht_16) fun a hF=>q_do rfl fun _ hK=>wp_buildSlice' (l:=([(⟨t_16⟩ : K .u8)] : List (K .u8))) (cells:=[(.int .u8 t_16)]) hF hS U22 inf5 rfl rfl (by kernel_rfl) rfl rfl rfl ⟨rfl,rfl⟩ rfl rfl fun a w q17 s17 hF hS h17 _=>hK _ _ (q_y (v:=(strV (goBytes ([(⟨t_16⟩ : K .u8)] : List (K .u8))))) hF hS (ex_toStr U22 U5 U9 rfl (fun X w0 w hS=>h17.vw hS (j:=0) rfl)) fun a hF=>q_s hF rfl fun a hF=>q_end (n_sq (q_sr (q_m hF rfl fun a hF=>?_))))
    have hS : St _ _ _ _ [[⟨b_p_c,[s1.v,(iV t_14.2.at_),(.int .u64 t_14.2.seed.v)],59⟩],q17]:=hS.sel [1,0] (by decide)
    have hS18 : St _ _ _ _ ([[⟨b_p_c,[s1.v,(iV t_14.2.at_),(.int .u64 t_14.2.seed.v)],59⟩]]++[q17]):=hS
    have hE18:=hS18.enter
    obtain ⟨t_19,ht_19,hb1⟩:=bindS hb1
    refine q_do rfl fun _ hK=>wp_callX (vs:=[(pP b_p_c 0),(iV 3)]) hF Tryz.func62 (by kernel_rfl) rfl rfl rfl (c_spec_l1Cur_pick t_14.2 3 t_19 ht_19 _ m b_p_c s1 h15 _ hE18) fun a w _ hR hF=>hK _ _ ?_
    obtain ⟨rfl,hR18,hk20⟩:=hR
    have hS : St _ _ _ _ [[⟨b_p_c,[s1.v,(iV t_19.2.at_),(.int .u64 t_19.2.seed.v)],59⟩],q17]:=hS18.leaveF hR18
    have h20 : Rd m s1 t_19.2.code:=by rw [hk20]; exact h15
    refine q_end (n_sq (q_block (q_sr (q_y (v:=(.bool (t_19.1 == 0))) hF hS (ex_ibin rfl rfl rfl) fun a hF=>q_s hF rfl fun a hF=>q_end (n_sq ?_)))))
    obtain ⟨t_33,hj5,hb1⟩:=bindS hb1
    refine q_join (fun a w=>Fr a 68 [(0,(pP b_p_c 0)),(1,(strV t_33)),(2,(strV p_with)),(7,(iV n_6))]∧St X w0 w m [[⟨b_p_c,[s1.v,(iV t_19.2.at_),(.int .u64 t_19.2.seed.v)],59⟩]]) ?_ ?_
    ·rcases bcase (t_19.1 == 0) with hc6 | hc6
     ·have hj5:=cond_f hc6 hj5
      refine q_cond_f hF rfl hc6 (q_sr (q_y (v:=(.bool (t_19.1 == 1))) hF hS (ex_ibin rfl rfl rfl) fun a hF=>q_s hF rfl fun a hF=>q_end (n_sq ?_)))
      obtain ⟨t_28,hj7,hj5⟩:=bindS hj5
      refine q_join (fun a w=>Fr a 68 [(0,(pP b_p_c 0)),(1,(strV t_28)),(2,(strV p_with)),(7,(iV n_6))]∧St X w0 w m [[⟨b_p_c,[s1.v,(iV t_19.2.at_),(.int .u64 t_19.2.seed.v)],59⟩]]) ?_ ?_
      ·rcases bcase (t_19.1 == 1) with hc8 | hc8
       ·have hj7:=cond_f hc8 hj7
        refine q_cond_f hF rfl hc8 (e_region ⟨[],[]⟩ mixed fun w' hw'=>?_)
        have hS:=hS.below hw'
        refine e_P (v:=(strV t_5)) 0 hF rfl (ex_move rfl) fun a hF=>e_P (v:=(iV t_11.1)) 1 hF rfl (ex_move rfl) fun a hF=>?_
        obtain ⟨t_21,ht_21,hj7⟩:=bindS hj7
        refine e_P (v:=(strV t_21)) 2 hF rfl (ex_strSub U9 rfl rfl rfl (.inl ⟨rfl,rfl⟩) (.inr ⟨_,rfl⟩) ht_21) fun a hF=>e_P (v:=(strV t_5)) 3 hF rfl (ex_move rfl) fun a hF=>e_P (v:=(iV t_11.1)) 4 hF rfl (ex_move rfl) fun a hF=>e_P (v:=(iV (w64 (t_11.1 + 1)))) 5 hF rfl (ex_ibin rfl rfl rfl) fun a hF=>?_
        obtain ⟨t_22,ht_22,hj7⟩:=bindS hj7
        refine e_P (v:=(strV t_22)) 6 hF rfl (ex_strSub U9 rfl rfl rfl (.inr ⟨_,rfl⟩) (.inl ⟨rfl,rfl⟩) ht_22) fun a hF=>?_
        obtain ⟨t_23,ht_23,hj7⟩:=bindS hj7
        refine e_P (v:=(strV t_23)) 7 hF rfl (ex_strCat rfl rfl ht_23) fun a hF=>e_P (v:=(strV t_23)) 8 hF rfl (ex_assign rfl) fun a hF=>e_end (by kernel_rfl) (n_jn ?_) _
        obtain rfl:=someI hj7
        exact ⟨hF.sub ⟨rfl,rfl,rfl,rfl,trivial⟩,hS.mask [true,false]⟩
       ·have hj7:=cond_t hc8 hj7
        refine q_cond_t hF rfl hc8 (e_region ⟨[],[]⟩ mixed fun w' hw'=>?_)
        have hS:=hS.below hw'
        refine e_P (v:=(strV t_5)) 0 hF rfl (ex_move rfl) fun a hF=>e_P (v:=(iV t_11.1)) 1 hF rfl (ex_move rfl) fun a hF=>?_
        obtain ⟨t_24,ht_24,hj7⟩:=bindS hj7
        refine e_P (v:=(strV t_24)) 2 hF rfl (ex_strSub U9 rfl rfl rfl (.inl ⟨rfl,rfl⟩) (.inr ⟨_,rfl⟩) ht_24) fun a hF=>e_P (v:=(strV (goBytes ([(⟨t_16⟩ : K .u8)] : List (K .u8))))) 3 hF rfl (ex_move rfl) fun a hF=>?_
        obtain ⟨t_25,ht_25,hj7⟩:=bindS hj7
        refine e_P (v:=(strV t_25)) 4 hF rfl (ex_strCat rfl rfl ht_25) fun a hF=>e_P (v:=(strV t_5)) 5 hF rfl (ex_move rfl) fun a hF=>e_P (v:=(iV t_11.1)) 6 hF rfl (ex_move rfl) fun a hF=>e_P (v:=(iV (w64 (t_11.1 + 1)))) 7 hF rfl (ex_ibin rfl rfl rfl) fun a hF=>?_
        obtain ⟨t_26,ht_26,hj7⟩:=bindS hj7
        refine e_P (v:=(strV t_26)) 8 hF rfl (ex_strSub U9 rfl rfl rfl (.inr ⟨_,rfl⟩) (.inl ⟨rfl,rfl⟩) ht_26) fun a hF=>?_
        obtain ⟨t_27,ht_27,hj7⟩:=bindS hj7
        refine e_P (v:=(strV t_27)) 9 hF rfl (ex_strCat rfl rfl ht_27) fun a hF=>e_P (v:=(strV t_27)) 10 hF rfl (ex_assign rfl) fun a hF=>e_end (by kernel_rfl) (n_jn ?_) _
        obtain rfl:=someI hj7
        exact ⟨hF.sub ⟨rfl,rfl,rfl,rfl,trivial⟩,hS.mask [true,false]⟩
      ·rintro a w ⟨hF,hS⟩
       refine n_jn ?_
       obtain rfl:=someI hj5
       exact ⟨hF.sub ⟨rfl,rfl,rfl,rfl,trivial⟩,hS⟩
     ·have hj5:=cond_t hc6 hj5
      refine q_cond_t hF rfl hc6 (e_region ⟨[],[]⟩ mixed fun w' hw'=>?_)
      have hS:=hS.below hw'
      refine e_P (v:=(strV t_5)) 0 hF rfl (ex_move rfl) fun a hF=>e_P (v:=(iV t_11.1)) 1 hF rfl (ex_move rfl) fun a hF=>?_
      obtain ⟨t_29,ht_29,hj5⟩:=bindS hj5
      refine e_P (v:=(strV t_29)) 2 hF rfl (ex_strSub U9 rfl rfl rfl (.inl ⟨rfl,rfl⟩) (.inr ⟨_,rfl⟩) ht_29) fun a hF=>e_P (v:=(strV (goBytes ([(⟨t_16⟩ : K .u8)] : List (K .u8))))) 3 hF rfl (ex_move rfl) fun a hF=>?_
      obtain ⟨t_30,ht_30,hj5⟩:=bindS hj5
      refine e_P (v:=(strV t_30)) 4 hF rfl (ex_strCat rfl rfl ht_30) fun a hF=>e_P (v:=(strV t_5)) 5 hF rfl (ex_move rfl) fun a hF=>e_P (v:=(iV t_11.1)) 6 hF rfl (ex_move rfl) fun a hF=>?_
      obtain ⟨t_31,ht_31,hj5⟩:=bindS hj5
      refine e_P (v:=(strV t_31)) 7 hF rfl (ex_strSub U9 rfl rfl rfl (.inr ⟨_,rfl⟩) (.inl ⟨rfl,rfl⟩) ht_31) fun a hF=>?_
      obtain ⟨t_32,ht_32,hj5⟩:=bindS hj5
      refine e_P (v:=(strV t_32)) 8 hF rfl (ex_strCat rfl rfl ht_32) fun a hF=>e_P (v:=(strV t_32)) 9 hF rfl (ex_assign rfl) fun a hF=>e_end (by kernel_rfl) (n_jn ?_) _
      obtain rfl:=someI hj5
      exact ⟨hF.sub ⟨rfl,rfl,rfl,rfl,trivial⟩,hS.mask [true,false]⟩
    ·rintro a w ⟨hF,hS⟩
     refine n_ib (n_ib (n_sq ?_))
     refine q_region (q_m hF rfl fun a hF=>q_y (v:=(iV (w64 (n_6 - 1)))) hF hS (ex_ibin rfl rfl rfl) fun a hF=>q_s hF rfl fun a hF=>q_end ?_)
     obtain rfl:=someI hb1
     exact ⟨rfl,_,_,_,rfl,hF.sub ⟨rfl,rfl,rfl,rfl,trivial⟩,hS,h20,(hk20.trans (hk15.trans (hk12.trans h8k)))⟩
 ·rintro e a w ⟨t_34,p_c_35,rfl,rfl,hF,hS,h36,h36k⟩
  refine x_ib (n_sq ?_)
  refine q_sr (q_m hF rfl fun a hF=>q_s hF rfl fun a hF=>q_end (n_sq (q_ret ?_)))
  obtain rfl:=someI hr
  exact ret_ofX hF hS rfl (.tmp rfl .nil) ⟨rfl,hS.sel [0] (by decide),h36k⟩

theorem c_spec_DrawParsePlan (p_code : List (K .u8)) (r : impl_Geo × (List impl_Variable) × (List UInt8)) (hr : spec_DrawParsePlan p_code = some r) (w0 : World) (m : Mem) (hv : Vis m w0) (s1 : Sl) (h1 : Rd m s1 p_code) :
  Ret Tryz.prog 22 [s1.v] w0 (fun v w=>∃ (m' : Mem) (s0' : Sl) (s1' : Sl),v = (.tuple #[(.agg #[s0'.v]),s1'.v,(strV r.2.2)])∧MLe [] w0.heap.size m m'∧St [] w0 w m' []∧Rd m' s0' r.1.Parents∧Rd m' s1' r.2.1):=by
 unfold spec_DrawParsePlan at hr
 refine ret_start Tryz.func22 rfl 39 rfl rfl m hv fun a hF hS=>q_sr (q_alloc (cs:=[nilS.v]) hF hS rfl rfl rfl fun a w b2 hF hS=>q_s hF rfl fun a hF=>q_s hF rfl fun a hF=>q_end (n_sq (q_sr (q_m hF rfl fun a hF=>q_y (v:=(.agg #[s1.v,(iV 0),(.int .u64 0)])) hF hS (ex_build (cells:=[s1.v,(iV 0),(.int .u64 0)]) rfl (by kernel_rfl)) fun a hF=>q_box (cs:=[s1.v,(iV 0),(.int .u64 0)]) hF hS rfl rfl rfl fun a w b3 hF hS=>q_s hF rfl fun a hF=>q_end (n_sq (q_sr (q_m hF rfl fun a hF=>?_)))))))
 obtain ⟨t_4,ht_4,hr⟩:=bindS hr
 refine q_call (vs:=[s1.v]) hF hS Tryz.func17 (by kernel_rfl) rfl rfl rfl (c_spec_DrawPlanText p_code t_4 ht_4 _ m hS.vis s1 h1) ?_
 have hT:=hS
 rintro a w _ ⟨m5,q8,s6,s7,s8,rfl,hm5,hR5,h6,h7,h8⟩ hF hS2
 have hS : St _ _ _ _ [q8,[⟨b3,[s1.v,(iV 0),(.int .u64 0)],59⟩],[⟨b2,[nilS.v],26⟩]]:=hS.join hR5 hm5
 have hm5:=MLe.weakX (O0:=[]) hT hm5
 refine q_m hF rfl fun a hF=>q_y (v:=(.agg #[s6.v])) hF hS (ex_extract rfl rfl) fun a hF=>q_y (v:=s7.v) hF hS (ex_extract rfl rfl) fun a hF=>q_y (v:=s8.v) hF hS (ex_extract rfl rfl) fun a hF=>q_alloc (cs:=[nilS.v]) hF hS rfl rfl rfl fun a w b9 hF hS=>q_store (vs:=[s6.v]) (cs':=[s6.v]) 0 0 hF hS sz26 rfl rfl rfl rfl rfl rfl rfl rfl fun a w hF hS=>q_s hF rfl fun a hF=>q_s hF rfl fun a hF=>q_end (n_sq (q_sr (q_y (v:=(.agg #[s6.v])) hF hS (ex_loadA (vs:=[s6.v]) 0 0 U26 rfl sz26 rfl rfl rfl rfl) fun a hF=>q_m hF rfl fun a hF=>q_m hF rfl fun a hF=>?_)))
 obtain ⟨m11,hl11,hv11,hz11⟩:=hS.lend
 obtain ⟨t_10,ht_10,hr⟩:=bindS hr
 refine q_call (vs:=[(.agg #[s6.v]),s7.v,s8.v]) hF hS Tryz.func19 (by kernel_rfl) rfl rfl rfl (c_spec_PlanText t_4.1 t_4.2.1 t_4.2.2 t_10 ht_10 _ m11 hv11 s6 (h6.mono hl11) s7 (h7.mono hl11) s8 (h8.froz hl11 (hz11 1 _ rfl))) ?_
 rintro a w _ rfl hF hS
 refine q_m hF rfl fun a hF=>q_y (v:=(strV t_10.1)) hF hS (ex_extract rfl rfl) fun a hF=>q_y (v:=(.bool t_10.2)) hF hS (ex_extract rfl rfl) fun a hF=>q_s hF rfl fun a hF=>q_s hF rfl fun a hF=>q_end (n_sq (q_seq (q_sr (q_m hF rfl fun a hF=>q_y (v:=(.bool (!t_10.2))) hF hS (ex_not rfl) fun a hF=>q_end (n_sq ?_)))))
 rcases bcase (!t_10.2) with hc1 | hc1
 ·have hr:=cond_f hc1 hr
  refine q_cond_f hF rfl hc1 (q_skipc (n_sq (q_seq (q_sr (q_m hF rfl fun a hF=>?_)))))
  have hS : St _ _ _ _ [[⟨b3,[s1.v,(iV 0),(.int .u64 0)],59⟩],[⟨b9,[s6.v],26⟩],q8,[⟨b2,[nilS.v],26⟩]]:=hS.sel [2,0,1,3] (by decide)
  have hS12 : St _ _ _ _ ([[⟨b3,[s1.v,(iV 0),(.int .u64 0)],59⟩]]++[[⟨b9,[s6.v],26⟩],q8,[⟨b2,[nilS.v],26⟩]]):=hS
  have hE12:=hS12.enter
  obtain ⟨t_13,ht_13,hr⟩:=bindS hr
  refine q_do rfl fun _ hK=>wp_callX (vs:=[(pP b3 0),(iV 3)]) hF Tryz.func42 (by kernel_rfl) rfl rfl rfl (c_spec_l1Cur_one (spec_l1Cur.mk p_code 0 (⟨0⟩ : K .u64)) 3 t_13 ht_13 _ m5 b3 s1 (h1.mono hm5.le) _ hE12) fun a w _ hR hF=>hK _ _ ?_
  obtain ⟨rfl,hR12,hk14⟩:=hR
  have hS : St _ _ _ _ [[⟨b3,[s1.v,(iV t_13.2.at_),(.int .u64 t_13.2.seed.v)],59⟩],[⟨b9,[s6.v],26⟩],q8,[⟨b2,[nilS.v],26⟩]]:=hS12.leaveF hR12
  have h14 : Rd m5 s1 t_13.2.code:=by rw [hk14]; exact (h1.mono hm5.le)
  refine q_end (n_sq ?_)
  obtain ⟨x_18,hj2,hr⟩:=bindS hr
  refine q_join (fun a w=>Fr a 39 [(2,(pP b2 0)),(6,(pP b9 0)),(7,s7.v),(9,(strV x_18))]∧St [] w0 w m5 [[⟨b9,[s6.v],26⟩],[⟨b2,[nilS.v],26⟩]]) ?_ ?_
  ·rcases bcase (t_13.1) with hc3 | hc3
   ·have hj2:=cond_f hc3 hj2
    refine q_cond_f hF rfl hc3 (q_skipc (n_jn ?_))
    obtain rfl:=someI hj2
    exact ⟨hF.sub ⟨rfl,rfl,rfl,rfl,trivial⟩,hS.mask [false,true,false,true]⟩
   ·have hj2:=cond_t hc3 hj2
    refine q_cond_t hF rfl hc3 (q_region (q_m hF rfl fun a hF=>q_m hF rfl fun a hF=>?_))
    have hS15 : St _ _ _ _ ([[⟨b3,[s1.v,(iV t_13.2.at_),(.int .u64 t_13.2.seed.v)],59⟩]]++[[⟨b9,[s6.v],26⟩],q8,[⟨b2,[nilS.v],26⟩]]):=hS
    have hE15:=hS15.enter
    obtain ⟨t_16,ht_16,hj2⟩:=bindS hj2
    refine q_do rfl fun _ hK=>wp_callX (vs:=[(pP b3 0),(strV t_10.1),(strV ([99,111,117,110,116,32,108,101,118,101,108,32,98,121,10,48] : List UInt8))]) hF Tryz.func43 (by kernel_rfl) rfl rfl rfl (c_spec_l1Cur_spoilt t_13.2 t_10.1 ([99,111,117,110,116,32,108,101,118,101,108,32,98,121,10,48] : List UInt8) t_16 ht_16 _ m5 b3 s1 h14 _ hE15) fun a w _ hR hF=>hK _ _ ?_
    obtain ⟨rfl,hR15,hk17⟩:=hR
    have hS : St _ _ _ _ [[⟨b3,[s1.v,(iV t_16.2.at_),(.int .u64 t_16.2.seed.v)],59⟩],[⟨b9,[s6.v],26⟩],q8,[⟨b2,[nilS.v],26⟩]]:=hS15.leaveF hR15
    have h17 : Rd m5 s1 t_16.2.code:=by rw [hk17]; exact h14
    refine q_s hF rfl fun a hF=>q_end (n_jn ?_)
    obtain rfl:=someI hj2
    exact ⟨hF.sub ⟨rfl,rfl,rfl,rfl,trivial⟩,hS.mask [false,true,false,true]⟩
  ·rintro a w ⟨hF,hS⟩
   refine n_sq ?_
   refine q_sr (q_y (v:=(.agg #[s6.v])) hF hS (ex_loadA (vs:=[s6.v]) 0 0 U26 rfl sz26 rfl rfl rfl rfl) fun a hF=>q_m hF rfl fun a hF=>q_m hF rfl fun a hF=>q_store (vs:=[s6.v]) (cs':=[s6.v]) 1 0 hF hS sz26 rfl rfl rfl rfl rfl rfl rfl rfl fun a w hF hS=>q_s hF rfl fun a hF=>q_s hF rfl fun a hF=>q_end (n_sq (q_ret ?_)))
   obtain rfl:=someI hr
   exact ret_of hF hS rfl (.cellA (us:=[s6.v]) 1 0 U26 rfl sz26 rfl rfl rfl rfl (.tmp rfl (.tmp rfl .nil))) ⟨m5,s6,s7,rfl,hm5,hS.sel [] (by decide),h6,h7⟩
 ·have hr:=cond_t hc1 hr
  refine q_cond_t hF rfl hc1 (q_sr (q_y (v:=(.agg #[s6.v])) hF hS (ex_loadA (vs:=[s6.v]) 0 0 U26 rfl sz26 rfl rfl rfl rfl) fun a hF=>q_m hF rfl fun a hF=>q_store (vs:=[s6.v]) (cs':=[s6.v]) 3 0 hF hS sz26 rfl rfl rfl rfl rfl rfl rfl rfl fun a w hF hS=>q_s hF rfl fun a hF=>q_s hF rfl fun a hF=>q_end (n_sq (q_ret (r_sq ?_)))))
  obtain rfl:=someI hr
  exact ret_of hF hS rfl (.cellA (us:=[s6.v]) 3 0 U26 rfl sz26 rfl rfl rfl rfl (.tmp rfl (.tmp rfl .nil))) ⟨m5,s6,s7,rfl,hm5,hS.sel [] (by decide),h6,h7⟩

theorem c_spec_l1Split (p_s : List UInt8) (p_b : K .u8) (r : (List (List UInt8))) (hr : spec_l1Split p_s p_b = some r) (w0 : World) (m : Mem) (hv : Vis m w0) :
  Ret Tryz.prog 53 [(strV p_s),(.int .u8 p_b.v)] w0 (fun v w=>∃ (q0' : Piece) (s0' : Sl),v = s0'.v∧St [] w0 w m [q0']∧OwnL m 9 q0' s0' r):=by
 unfold spec_l1Split at hr
 refine ret_start Tryz.func53 rfl 34 rfl rfl m hv fun a hF hS=>q_sr (q_s hF rfl fun a hF=>q_end (n_sq (q_sr (q_s hF rfl fun a hF=>q_end (n_sq (q_sr (q_s hF rfl fun a hF=>q_end (n_sq (q_seq (q_sr (q_s hF rfl fun a hF=>q_end (n_sq (q_block ?_)))))))))))))
 obtain ⟨o1,hl1,hr⟩:=bindS hr
 refine q_loop (fun (s : (List (List UInt8)) × Int × Int) a w=>∃ (q2 : Piece),∃ (s2 : Sl),∃ out_1,∃ from_3,∃ i_4,s = (out_1,from_3,i_4)∧Fr a 34 [(0,(strV p_s)),(1,(.int .u8 p_b.v)),(5,s2.v),(6,(iV from_3)),(7,(iV i_4))]∧St [] w0 w m [q2]∧OwnL m 9 q2 s2 out_1) (fun (o : (List (List UInt8)) × Int) e a w=>∃ (q14 : Piece),∃ (s14 : Sl),∃ out_13,∃ from_15,o = (out_13,from_15)∧e = .exit 0∧Fr a 34 [(0,(strV p_s)),(5,s14.v),(6,(iV from_15))]∧St [] w0 w m [q14]∧OwnL m 9 q14 s14 out_13) hl1 ⟨[],nilS,_,_,_,rfl,hF.sub ⟨rfl,rfl,rfl,rfl,rfl,trivial⟩,hS.sel [0] (by decide),(OwnL.nil (α:=List UInt8) m 9)⟩ ?_ ?_
 ·clear hF hS
  rintro s a w st ⟨q2,s2,out_1,from_3,i_4,rfl,hF,hS,h2⟩ hb1
  unfold spec_l1Split_l1 at hb1
  refine q_seq (q_sr (q_m hF rfl fun a hF=>q_m hF rfl fun a hF=>q_y (v:=(iV (goLen p_s))) hF hS (ex_strLen U9 rfl) fun a hF=>q_y (v:=(.bool (decide (i_4 < (goLen p_s))))) hF hS (ex_ibin rfl rfl rfl) fun a hF=>q_end (n_sq ?_)))
  rcases bcase (decide (i_4 < (goLen p_s))) with hc2 | hc2
  ·have hb1:=cond_f hc2 hb1
   refine q_cond_f hF rfl hc2 (q_exit (x_sq ?_))
   obtain rfl:=someI hb1
   exact ⟨nofun,.inl ⟨q2,s2,_,_,rfl,rfl,hF.sub ⟨rfl,rfl,rfl,trivial⟩,hS,h2⟩⟩
  ·have hb1:=cond_t hc2 hb1
   refine q_cond_t hF rfl hc2 (q_skipc (n_sq (q_seq (q_block (q_sr (q_m hF rfl fun a hF=>q_m hF rfl fun a hF=>?_))))))
   obtain ⟨t_5,ht_5,hb1⟩:=bindS hb1
   refine q_y (v:=(.int .u8 t_5)) hF hS (ex_strIdx U9 rfl rfl ht_5) fun a hF=>q_m hF rfl fun a hF=>q_y (v:=(.bool (t_5 == p_b.v))) hF hS (ex_ibin rfl rfl rfl) fun a hF=>q_end (n_sq ?_)
   obtain ⟨j3,hj3,hb1⟩:=bindS hb1
   refine q_join (fun a w=>∃ (q11 : Piece),∃ (s11 : Sl),∃ out_10,∃ from_12,j3 = (out_10,from_12)∧Fr a 34 [(0,(strV p_s)),(1,(.int .u8 p_b.v)),(5,s11.v),(6,(iV from_12)),(7,(iV i_4))]∧St [] w0 w m [q11]∧OwnL m 9 q11 s11 out_10) ?_ ?_
   ·rcases bcase (t_5 == p_b.v) with hc4 | hc4
    ·have hj3:=cond_f hc4 hj3
     refine q_cond_f hF rfl hc4 (q_skipc (n_jn ?_))
     obtain rfl:=someI hj3
     exact ⟨q2,s2,_,_,rfl,hF.sub ⟨rfl,rfl,rfl,rfl,rfl,trivial⟩,hS,h2⟩
    ·have hj3:=cond_t hc4 hj3
     refine q_cond_t hF rfl hc4 (q_sr (q_m hF rfl fun a hF=>q_m hF rfl fun a hF=>q_m hF rfl fun a hF=>q_m hF rfl fun a hF=>?_))
     obtain ⟨t_6,ht_6,hj3⟩:=bindS hj3
     refine q_y (v:=(strV t_6)) hF hS (ex_strSub U9 rfl rfl rfl (.inr ⟨_,rfl⟩) (.inr ⟨_,rfl⟩) ht_6) fun a hF=>q_do rfl fun _ hK=>wp_buildSlice' (l:=([t_6] : List (List UInt8))) (cells:=[(strV t_6)]) hF hS U80 inf9 rfl rfl (by kernel_rfl) rfl rfl rfl ⟨rfl,rfl⟩ rfl rfl fun a w q7 s7 hF hS h7 _=>hK _ _ ?_
     have hS : St _ _ _ _ [q2,q7]:=hS.sel [1,0] (by decide)
     obtain ⟨l_8,hl_8,hj3⟩:=bindS hj3
     refine q_do rfl fun _ hK=>wp_append hF hS h2 U80 inf9 rfl rfl rfl rfl (h7.vw hS (j:=1) rfl) rfl (by decide) hl_8 rfl fun a w q9 s9 hF hS h9=>hK _ _ (q_s hF rfl fun a hF=>q_end (n_sq (q_region (q_m hF rfl fun a hF=>q_y (v:=(iV (w64 (i_4 + 1)))) hF hS (ex_ibin rfl rfl rfl) fun a hF=>q_s hF rfl fun a hF=>q_end (n_jn ?_)))))
     obtain rfl:=someI hj3
     exact ⟨q9,s9,_,_,rfl,hF.sub ⟨rfl,rfl,rfl,rfl,rfl,trivial⟩,hS.mask [true,false],h9⟩
   ·rintro a w ⟨q11,s11,out_10,from_12,rfl,hF,hS,h11⟩
    refine n_ib (n_sq ?_)
    refine q_region (q_m hF rfl fun a hF=>q_y (v:=(iV (w64 (i_4 + 1)))) hF hS (ex_ibin rfl rfl rfl) fun a hF=>q_s hF rfl fun a hF=>q_end ?_)
    obtain rfl:=someI hb1
    exact ⟨rfl,q11,s11,_,_,_,rfl,hF.sub ⟨rfl,rfl,rfl,rfl,rfl,trivial⟩,hS,h11⟩
 ·rintro e a w ⟨q14,s14,out_13,from_15,rfl,rfl,hF,hS,h14⟩
  refine x_ib (n_sq ?_)
  refine q_sr (q_m hF rfl fun a hF=>q_m hF rfl fun a hF=>q_m hF rfl fun a hF=>?_)
  obtain ⟨t_16,ht_16,hr⟩:=bindS hr
  refine q_y (v:=(strV t_16)) hF hS (ex_strSub U9 rfl rfl rfl (.inr ⟨_,rfl⟩) (.inl ⟨rfl,rfl⟩) ht_16) fun a hF=>q_do rfl fun _ hK=>wp_buildSlice' (l:=([t_16] : List (List UInt8))) (cells:=[(strV t_16)]) hF hS U80 inf9 rfl rfl (by kernel_rfl) rfl rfl rfl ⟨rfl,rfl⟩ rfl rfl fun a w q17 s17 hF hS h17 _=>hK _ _ ?_
  have hS : St _ _ _ _ [q14,q17]:=hS.sel [1,0] (by decide)
  obtain ⟨l_18,hl_18,hr⟩:=bindS hr
  refine q_do rfl fun _ hK=>wp_append hF hS h14 U80 inf9 rfl rfl rfl rfl (h17.vw hS (j:=1) rfl) rfl (by decide) hl_18 rfl fun a w q19 s19 hF hS h19=>hK _ _ (q_s hF rfl fun a hF=>q_end (n_sq (q_ret ?_)))
  obtain rfl:=someI hr
  exact ret_of hF hS rfl (.tmp rfl .nil) ⟨q19,s19,rfl,hS.sel [0] (by decide),h19⟩

theorem c_spec_l1Read (p_s : List UInt8) (r : Int) (hr : spec_l1Read p_s = some r) (w0 : World) (m : Mem) (hv : Vis m w0) :
  Ret Tryz.prog 129 [(strV p_s)] w0 (fun v _=>v = (iV r)):=by
 unfold spec_l1Read at hr
 refine ret_start Tryz.func129 rfl 44 rfl rfl m hv fun a hF hS=>q_sr (q_s hF rfl fun a hF=>q_end (n_sq (q_seq (q_seq ?_))))
 obtain ⟨t_3,hj1,hr⟩:=bindS hr
 refine q_join (fun a w=>Fr a 44 [(0,(strV p_s)),(18,(.bool t_3))]∧St [] w0 w m []) ?_ ?_
 ·refine q_region (q_m hF rfl fun a hF=>q_y (v:=(iV (goLen p_s))) hF hS (ex_strLen U9 rfl) fun a hF=>?_)
  obtain ⟨t_1,ht_1,hj1⟩:=bindS hj1
  refine q_call (vs:=[(iV (goLen p_s)),(iV 1),(iV 6)]) hF hS Tryz.func75 (by kernel_rfl) rfl rfl rfl (c_spec_l1In (goLen p_s) 1 6 t_1 ht_1 _ m hS.vis) ?_
  rintro a w _ rfl hF hS
  refine q_y (v:=(.bool (!t_1))) hF hS (ex_not rfl) fun a hF=>q_m hF rfl fun a hF=>?_
  rcases bcase (!t_1) with hc2 | hc2
  ·have hj1:=cond_f hc2 hj1
   refine q_g (v:=(strV p_s)) hF hS (ex_move rfl) hc2 fun a hF=>?_
   obtain ⟨t_2,ht_2,hj1⟩:=bindS hj1
   refine q_g (v:=(.int .u8 t_2)) hF hS (ex_strIdx U9 rfl rfl ht_2) hc2 fun a hF=>q_g (v:=(.bool (t_2 == 48))) hF hS (ex_ibin rfl rfl rfl) hc2 fun a hF=>q_g (v:=(.bool (t_2 == 48))) hF hS (ex_move rfl) hc2 fun a hF=>?_
   rcases bcase (t_2 == 48) with hc3 | hc3
   ·have hj1:=cond_f hc3 hj1
    refine q_k hF hc3 fun a hF=>q_k hF hc3 fun a hF=>q_k hF hc3 fun a hF=>q_g (v:=(.bool false)) hF hS (ex_pick_f rfl rfl hc3) hc2 fun a hF=>q_y (v:=(.bool false)) hF hS (ex_pick_f rfl rfl hc2) fun a hF=>q_end (n_jn ?_)
    obtain rfl:=someI hj1
    exact ⟨hF.sub ⟨rfl,rfl,trivial⟩,hS⟩
   ·have hj1:=cond_t hc3 hj1
    refine q_g (v:=(strV p_s)) hF hS (ex_move rfl) hc3 fun a hF=>q_g (v:=(iV (goLen p_s))) hF hS (ex_strLen U9 rfl) hc3 fun a hF=>q_g (v:=(.bool (decide (1 < (goLen p_s))))) hF hS (ex_ibin rfl rfl rfl) hc3 fun a hF=>q_g (v:=(.bool (decide (1 < (goLen p_s))))) hF hS (ex_pick_t rfl rfl hc3) hc2 fun a hF=>q_y (v:=(.bool (decide (1 < (goLen p_s))))) hF hS (ex_pick_f rfl rfl hc2) fun a hF=>q_end (n_jn ?_)
    obtain rfl:=someI hj1
    exact ⟨hF.sub ⟨rfl,rfl,trivial⟩,hS⟩
  ·have hj1:=cond_t hc2 hj1
   refine q_k hF hc2 fun a hF=>q_k hF hc2 fun a hF=>q_k hF hc2 fun a hF=>q_k hF hc2 fun a hF=>q_skip hF (wanted_u hF rfl rfl rfl) rfl fun a hF=>q_skip hF (wanted_u hF rfl rfl rfl) rfl fun a hF=>q_skip hF (wanted_u hF rfl rfl rfl) rfl fun a hF=>q_k hF hc2 fun a hF=>q_y (v:=(.bool true)) hF hS (ex_pick_t rfl rfl hc2) fun a hF=>q_end (n_jn ?_)
   obtain rfl:=someI hj1
   exact ⟨hF.sub ⟨rfl,rfl,trivial⟩,hS⟩
 ·rintro a w ⟨hF,hS⟩
  refine n_sq ?_
  rcases bcase (t_3) with hc4 | hc4
  ·have hr:=cond_f hc4 hr
   refine q_cond_f hF rfl hc4 (q_skipc (n_sq (q_sr (q_s hF rfl fun a hF=>q_end (n_sq (q_seq (q_sr (q_s hF rfl fun a hF=>q_end (n_sq (q_block ?_))))))))))
   obtain ⟨o5,hl5,hr⟩:=bindS hr
   refine q_loop (fun (s : Int × Int) a w=>∃ n_4,∃ i_5,s = (n_4,i_5)∧Fr a 44 [(0,(strV p_s)),(3,(iV n_4)),(4,(iV i_5))]∧St [] w0 w m []) (fun (o : (Int) ⊕ (Int)) e a w=>∃ n_10,o = .inl n_10∧e = .exit 0∧Fr a 44 [(3,(iV n_10))]∧St [] w0 w m []) hl5 ⟨_,_,rfl,hF.sub ⟨rfl,rfl,rfl,trivial⟩,hS⟩ ?_ ?_
   ·clear hF hS
    rintro s a w st ⟨n_4,i_5,rfl,hF,hS⟩ hb5
    unfold spec_l1Read_l1 at hb5
    refine q_seq (q_sr (q_m hF rfl fun a hF=>q_m hF rfl fun a hF=>q_y (v:=(iV (goLen p_s))) hF hS (ex_strLen U9 rfl) fun a hF=>q_y (v:=(.bool (decide (i_5 < (goLen p_s))))) hF hS (ex_ibin rfl rfl rfl) fun a hF=>q_end (n_sq ?_)))
    rcases bcase (decide (i_5 < (goLen p_s))) with hc6 | hc6
    ·have hb5:=cond_f hc6 hb5
     refine q_cond_f hF rfl hc6 (q_exit (x_sq ?_))
     obtain rfl:=someI hb5
     exact ⟨nofun,.inl ⟨_,rfl,rfl,hF.sub ⟨rfl,trivial⟩,hS⟩⟩
    ·have hb5:=cond_t hc6 hb5
     refine q_cond_t hF rfl hc6 (q_skipc (n_sq (q_seq (q_block (q_seq (q_seq ?_))))))
     obtain ⟨t_8,hj7,hb5⟩:=bindS hb5
     refine q_join (fun a w=>Fr a 44 [(0,(strV p_s)),(3,(iV n_4)),(4,(iV i_5)),(34,(.bool t_8))]∧St [] w0 w m []) ?_ ?_
     ·refine q_region (q_m hF rfl fun a hF=>q_m hF rfl fun a hF=>?_)
      obtain ⟨t_6,ht_6,hj7⟩:=bindS hj7
      refine q_y (v:=(.int .u8 t_6)) hF hS (ex_strIdx U9 rfl rfl ht_6) fun a hF=>q_y (v:=(.bool (decide (t_6 < 48)))) hF hS (ex_ibin rfl rfl rfl) fun a hF=>q_m hF rfl fun a hF=>?_
      rcases bcase (decide (t_6 < 48)) with hc8 | hc8
      ·have hj7:=cond_f hc8 hj7
       refine q_g (v:=(strV p_s)) hF hS (ex_move rfl) hc8 fun a hF=>q_g (v:=(iV i_5)) hF hS (ex_move rfl) hc8 fun a hF=>?_
       obtain ⟨t_7,ht_7,hj7⟩:=bindS hj7
       refine q_g (v:=(.int .u8 t_7)) hF hS (ex_strIdx U9 rfl rfl ht_7) hc8 fun a hF=>q_g (v:=(.bool (decide (57 < t_7)))) hF hS (ex_ibin rfl rfl rfl) hc8 fun a hF=>q_y (v:=(.bool (decide (57 < t_7)))) hF hS (ex_pick_f rfl rfl hc8) fun a hF=>q_end (n_jn ?_)
       obtain rfl:=someI hj7
       exact ⟨hF.sub ⟨rfl,rfl,rfl,rfl,trivial⟩,hS⟩
      ·have hj7:=cond_t hc8 hj7
       refine q_k hF hc8 fun a hF=>q_k hF hc8 fun a hF=>q_k hF hc8 fun a hF=>q_k hF hc8 fun a hF=>q_y (v:=(.bool true)) hF hS (ex_pick_t rfl rfl hc8) fun a hF=>q_end (n_jn ?_)
       obtain rfl:=someI hj7
       exact ⟨hF.sub ⟨rfl,rfl,rfl,rfl,trivial⟩,hS⟩
     ·rintro a w ⟨hF,hS⟩
      refine n_sq ?_
      rcases bcase (t_8) with hc9 | hc9
      ·have hb5:=cond_f hc9 hb5
       refine q_cond_f hF rfl hc9 (q_skipc (n_sq (q_region (q_m hF rfl fun a hF=>q_y (v:=(iV (w64 (10 * n_4)))) hF hS (ex_ibin rfl rfl rfl) fun a hF=>q_m hF rfl fun a hF=>q_m hF rfl fun a hF=>?_))))
       obtain ⟨t_9,ht_9,hb5⟩:=bindS hb5
       refine q_y (v:=(.int .u8 t_9)) hF hS (ex_strIdx U9 rfl rfl ht_9) fun a hF=>q_y (v:=(.int .u8 (IntKind.wrap .u8 (t_9 - 48)))) hF hS (ex_ibin rfl rfl rfl) fun a hF=>q_y (v:=(iV (w64 (IntKind.wrap .u8 (t_9 - 48))))) hF hS (ex_conv U5 U3 rfl) fun a hF=>q_y (v:=(iV (w64 ((w64 (10 * n_4)) + (w64 (IntKind.wrap .u8 (t_9 - 48))))))) hF hS (ex_ibin rfl rfl rfl) fun a hF=>q_s hF rfl fun a hF=>q_end (n_ib (n_sq (q_region (q_m hF rfl fun a hF=>q_y (v:=(iV (w64 (i_5 + 1)))) hF hS (ex_ibin rfl rfl rfl) fun a hF=>q_s hF rfl fun a hF=>q_end ?_))))
       obtain rfl:=someI hb5
       exact ⟨rfl,_,_,rfl,hF.sub ⟨rfl,rfl,rfl,trivial⟩,hS⟩
      ·have hb5:=cond_t hc9 hb5
       refine q_cond_t hF rfl hc9 (q_sr (q_s hF rfl fun a hF=>q_end (n_sq (q_ret (r_sq (r_ib (r_sq ?_)))))))
       obtain rfl:=someI hb5
       refine ⟨nofun,.inr fun ho=>?_⟩
       subst ho
       refine r_ib (r_sq ?_)
       obtain rfl:=someI hr
       exact ret_of hF hS rfl (.tmp rfl .nil) rfl
   ·rintro e a w ⟨n_10,rfl,rfl,hF,hS⟩
    refine x_ib (n_sq ?_)
    refine q_sr (q_m hF rfl fun a hF=>q_s hF rfl fun a hF=>q_end (n_sq (q_ret ?_)))
    obtain rfl:=someI hr
    exact ret_of hF hS rfl (.tmp rfl .nil) rfl
  ·have hr:=cond_t hc4 hr
   refine q_cond_t hF rfl hc4 (q_sr (q_s hF rfl fun a hF=>q_end (n_sq (q_ret (r_sq ?_)))))
   obtain rfl:=someI hr
   exact ret_of hF hS rfl (.tmp rfl .nil) rfl

theorem c_spec_nSet (p_s : List impl_Variable) (p_t : impl_Table) (p_w : List UInt8) (r : impl_Table) (hr : spec_nSet p_s p_t p_w = some r) (w0 : World) (m : Mem) (b_p_t : Nat) (s1 : Sl) (h1 : Rd m s1 p_s) (s2 : Sl) (h2 : Rd m s2 p_t.Vars) (s3 : Sl) (q3 : Piece) (h3 : OwnL m 3 q3 s3 p_t.Where) (X : List Nat) (hS : St X w0 w0 m [[⟨b_p_t,[(iV p_t.Level),s2.v,s3.v,(iV p_t.Sum)],29⟩],q3]) :
  RetX Tryz.prog 128 [s1.v,(pP b_p_t 0),(strV p_w)] w0 (fun v w=>∃ (q1' : Piece) (s1' : Sl),v = (.tuple #[])∧St X w0 w m [[⟨b_p_t,[(iV r.Level),s2.v,s1'.v,(iV r.Sum)],29⟩],q1']∧r.Vars = p_t.Vars∧OwnL m 3 q1' s1' r.Where):=by
 unfold spec_nSet at hr
 refine ret_startX Tryz.func128 rfl 57 rfl rfl fun a hF=>q_sr (q_m hF rfl fun a hF=>?_)
 obtain ⟨t_4,ht_4,hr⟩:=bindS hr
 refine q_call (vs:=[(strV p_w),(.int .u8 61)]) hF hS Tryz.func53 (by kernel_rfl) rfl rfl rfl (c_spec_l1Split p_w (⟨61⟩ : K .u8) t_4 ht_4 _ m hS.vis) ?_
 rintro a w _ ⟨q6,s6,rfl,hR5,h6⟩ hF hS2
 have hS : St _ _ _ _ [q6,[⟨b_p_t,[(iV p_t.Level),s2.v,s3.v,(iV p_t.Sum)],29⟩],q3]:=hS.joinF hR5
 refine q_s hF rfl fun a hF=>q_end (n_sq (q_sr (q_m hF rfl fun a hF=>q_m hF rfl fun a hF=>?_)))
 obtain ⟨e_7,he_7,hr⟩:=bindS hr
 obtain ⟨vs8,at8,d8⟩:=h6.at he_7 1 rfl
 obtain rfl : vs8 = [(strV e_7)]:=d8
 refine q_y (v:=(elP s6 ((0 : Int).toNat * 1))) hF hS (ex_indexAddr U80 sz9 rfl rfl (h6.idx he_7)) fun a hF=>q_y (v:=(strV e_7)) hF hS (ex_loadE1 0 U9 rfl rfl (at8.at 0 rfl) rfl rfl) fun a hF=>?_
 obtain ⟨t_9,ht_9,hr⟩:=bindS hr
 refine q_call (vs:=[s1.v,(strV e_7)]) hF hS Tryz.func116 (by kernel_rfl) rfl rfl rfl (c_spec_sFind p_s e_7 t_9 ht_9 _ m hS.vis s1 h1) ?_
 rintro a w _ rfl hF hS
 refine q_s hF rfl fun a hF=>q_end (n_sq (q_seq (q_seq ?_)))
 obtain ⟨t_10,hj1,hr⟩:=bindS hr
 refine q_join (fun a w=>Fr a 57 [(0,s1.v),(1,(pP b_p_t 0)),(6,s6.v),(7,(iV t_9)),(24,(.bool t_10))]∧St X w0 w m [q6,q3,[⟨b_p_t,[(iV p_t.Level),s2.v,s3.v,(iV p_t.Sum)],29⟩]]) ?_ ?_
 ·refine q_region (q_m hF rfl fun a hF=>q_y (v:=(iV (goLen t_4))) hF hS (ex_len U80 rfl h6.len) fun a hF=>q_y (v:=(.bool ((goLen t_4) != 2))) hF hS (ex_ibin rfl rfl rfl) fun a hF=>q_m hF rfl fun a hF=>?_)
  rcases bcase ((goLen t_4) != 2) with hc2 | hc2
  ·have hj1:=cond_f hc2 hj1
   refine q_g (v:=(iV t_9)) hF hS (ex_move rfl) hc2 fun a hF=>q_g (v:=(.bool (decide (t_9 < 0)))) hF hS (ex_ibin rfl rfl rfl) hc2 fun a hF=>q_y (v:=(.bool (decide (t_9 < 0)))) hF hS (ex_pick_f rfl rfl hc2) fun a hF=>q_end (n_jn ?_)
   obtain rfl:=someI hj1
   exact ⟨hF.sub ⟨rfl,rfl,rfl,rfl,rfl,trivial⟩,hS.sel [0,2,1] (by decide)⟩
  ·have hj1:=cond_t hc2 hj1
   refine q_k hF hc2 fun a hF=>q_k hF hc2 fun a hF=>q_y (v:=(.bool true)) hF hS (ex_pick_t rfl rfl hc2) fun a hF=>q_end (n_jn ?_)
   obtain rfl:=someI hj1
   exact ⟨hF.sub ⟨rfl,rfl,rfl,rfl,rfl,trivial⟩,hS.sel [0,2,1] (by decide)⟩
 ·rintro a w ⟨hF,hS⟩
  refine n_sq ?_
  rcases bcase (t_10) with hc3 | hc3
  ·have hr:=cond_f hc3 hr
   refine q_cond_f hF rfl hc3 (q_skipc (n_sq (q_sr (q_m hF rfl fun a hF=>?_))))
   obtain ⟨e_11,he_11,hr⟩:=bindS hr
   obtain ⟨vs12,at12,d12⟩:=h6.at he_11 1 rfl
   obtain rfl : vs12 = [(strV e_11)]:=d12
   refine q_y (v:=(elP s6 ((1 : Int).toNat * 1))) hF hS (ex_indexAddr U80 sz9 rfl rfl (h6.idx he_11)) fun a hF=>q_y (v:=(strV e_11)) hF hS (ex_loadE1 0 U9 rfl rfl (at12.at 0 rfl) rfl rfl) fun a hF=>?_
   obtain ⟨t_13,ht_13,hr⟩:=bindS hr
   refine q_call (vs:=[(strV e_11),(.int .u8 44)]) hF hS Tryz.func53 (by kernel_rfl) rfl rfl rfl (c_spec_l1Split e_11 (⟨44⟩ : K .u8) t_13 ht_13 _ m hS.vis) ?_
   rintro a w _ ⟨q15,s15,rfl,hR14,h15⟩ hF hS2
   have hS : St _ _ _ _ [q15,q6,q3,[⟨b_p_t,[(iV p_t.Level),s2.v,s3.v,(iV p_t.Sum)],29⟩]]:=hS.joinF hR14
   refine q_y (v:=(iV (goLen t_13))) hF hS (ex_len U80 rfl h15.len) fun a hF=>q_m hF rfl fun a hF=>q_end (n_sq (q_block ?_))
   obtain ⟨p_t_35,hl4,hr⟩:=bindS hr
   refine q_loop (fun (s : Int × impl_Table) a w=>∃ (q19 : Piece),∃ t_16,∃ p_t_17,s = (t_16,p_t_17)∧Fr a 57 [(0,s1.v),(1,(pP b_p_t 0)),(7,(iV t_9)),(28,s15.v),(29,(iV (goLen t_13))),(30,(iV t_16))]∧St X w0 w m [q19,q15,[⟨b_p_t,[(iV p_t_17.Level),s2.v,s3.v,(iV p_t_17.Sum)],29⟩]]∧Rd m s2 p_t_17.Vars∧p_t_17.Vars = p_t.Vars∧OwnL m 3 q19 s3 p_t_17.Where) (fun (p_t_35 : impl_Table) e a w=>∃ (q37 : Piece),e = .exit 0∧Fr a 57 []∧St X w0 w m [q37,[⟨b_p_t,[(iV p_t_35.Level),s2.v,s3.v,(iV p_t_35.Sum)],29⟩]]∧Rd m s2 p_t_35.Vars∧p_t_35.Vars = p_t.Vars∧OwnL m 3 q37 s3 p_t_35.Where) hl4 ⟨q3,_,_,rfl,hF.sub ⟨rfl,rfl,rfl,rfl,rfl,rfl,trivial⟩,hS.sel [2,0,3] (by decide),h2,rfl,h3⟩ ?_ ?_
   ·clear hF hS
    rintro s a w st ⟨q19,t_16,p_t_17,rfl,hF,hS,h18,h18k,h19⟩ hb4
    unfold spec_nSet_l1 at hb4
    refine q_sr (q_y (v:=(.bool (decide (t_16 < (goLen t_13))))) hF hS (ex_ibin rfl rfl rfl) fun a hF=>q_end (n_sq (q_seq ?_)))
    rcases bcase (decide (t_16 < (goLen t_13))) with hc5 | hc5
    ·have hb4:=cond_f hc5 hb4
     refine q_cond_f hF rfl hc5 (q_exit (x_sq ?_))
     obtain rfl:=someI hb4
     exact ⟨nofun,.inl ⟨q19,rfl,hF.sub trivial,hS.mask [true,false,true],h18,h18k,h19⟩⟩
    ·have hb4:=cond_t hc5 hb4
     refine q_cond_t hF rfl hc5 (q_skipc (n_sq (q_seq (q_block (q_seq (q_region ?_))))))
     obtain ⟨e_20,he_20,hb4⟩:=bindS hb4
     obtain ⟨vs21,at21,d21⟩:=h15.at he_20 1 rfl
     obtain rfl : vs21 = [(strV e_20)]:=d21
     refine q_y (v:=(elP s15 (t_16.toNat * 1))) hF hS (ex_indexAddr U80 sz9 rfl rfl (h15.idx he_20)) fun a hF=>q_y (v:=(strV e_20)) hF hS (ex_loadE1 0 U9 rfl rfl (at21.at 1 rfl) rfl rfl) fun a hF=>q_s hF rfl fun a hF=>q_end (n_sq (q_sr (q_m hF rfl fun a hF=>?_)))
     obtain ⟨t_22,ht_22,hb4⟩:=bindS hb4
     refine q_call (vs:=[(strV e_20)]) hF hS Tryz.func129 (by kernel_rfl) rfl rfl rfl (c_spec_l1Read e_20 t_22 ht_22 _ m hS.vis) ?_
     rintro a w _ rfl hF hS
     refine q_s hF rfl fun a hF=>q_end (n_sq (q_sr (q_m hF rfl fun a hF=>q_m hF rfl fun a hF=>q_m hF rfl fun a hF=>?_)))
     obtain ⟨e_23,he_23,hb4⟩:=bindS hb4
     obtain ⟨vs24,at24,d24⟩:=h1.at he_23 2 rfl
     obtain rfl : vs24 = [(strV e_23.Name),(iV e_23.Levels)]:=d24
     refine q_y (v:=(elP s1 (t_9.toNat * 2))) hF hS (ex_indexAddr U27 sz95 rfl rfl (h1.idx he_23)) fun a hF=>q_y (v:=(elP s1 (t_9.toNat * 2 + 1))) hF hS (ex_fieldAddrE U95 rfl sz3 rfl (h1.idx he_23) rfl) fun a hF=>q_y (v:=(iV e_23.Levels)) hF hS (ex_loadE1 1 U3 rfl rfl ((at24).at) rfl rfl) fun a hF=>q_y (v:=(iV (w64 (e_23.Levels - 1)))) hF hS (ex_ibin rfl rfl rfl) fun a hF=>?_
     obtain ⟨t_25,ht_25,hb4⟩:=bindS hb4
     refine q_call (vs:=[(iV t_22),(iV 0),(iV (w64 (e_23.Levels - 1)))]) hF hS Tryz.func75 (by kernel_rfl) rfl rfl rfl (c_spec_l1In t_22 0 (w64 (e_23.Levels - 1)) t_25 ht_25 _ m hS.vis) ?_
     rintro a w _ rfl hF hS
     refine q_end (n_sq ?_)
     obtain ⟨p_t_32,hj6,hb4⟩:=bindS hb4
     refine q_join (fun a w=>∃ (q34 : Piece),Fr a 57 [(0,s1.v),(1,(pP b_p_t 0)),(7,(iV t_9)),(28,s15.v),(29,(iV (goLen t_13))),(30,(iV t_16))]∧St X w0 w m [q15,q34,[⟨b_p_t,[(iV p_t_32.Level),s2.v,s3.v,(iV p_t_32.Sum)],29⟩]]∧Rd m s2 p_t_32.Vars∧p_t_32.Vars = p_t.Vars∧OwnL m 3 q34 s3 p_t_32.Where) ?_ ?_
     ·rcases bcase (t_25) with hc7 | hc7
      ·have hj6:=cond_f hc7 hj6
       refine q_cond_f hF rfl hc7 (q_skipc (n_jn ?_))
       obtain rfl:=someI hj6
       exact ⟨q19,hF.sub ⟨rfl,rfl,rfl,rfl,rfl,rfl,trivial⟩,hS.sel [1,0,2] (by decide),h18,h18k,h19⟩
      ·have hj6:=cond_t hc7 hj6
       refine q_cond_t hF rfl hc7 (q_region (q_m hF rfl fun a hF=>q_y (v:=(pP b_p_t 0)) hF hS (ex_nilCheck rfl) fun a hF=>q_y (v:=(pP b_p_t 2)) hF hS (ex_fieldAddr U29 rfl sz24 rfl rfl) fun a hF=>q_y (v:=s3.v) hF hS (ex_load1 2 0 U24 rfl rfl rfl rfl) fun a hF=>q_m hF rfl fun a hF=>?_))
       obtain ⟨e_26,he_26,hj6⟩:=bindS hj6
       obtain ⟨vs27,at27,d27⟩:=h19.at he_26 1 rfl
       obtain rfl : vs27 = [(iV e_26)]:=d27
       refine q_y (v:=(elP s3 (t_9.toNat * 1))) hF hS (ex_indexAddr U24 sz3 rfl rfl (h19.idx he_26)) fun a hF=>q_y (v:=(iV e_26)) hF hS (ex_loadE1 0 U3 rfl rfl (at27.at 0 rfl) rfl rfl) fun a hF=>q_m hF rfl fun a hF=>q_y (v:=(.int .u64 (IntKind.wrap .u64 t_22))) hF hS (ex_conv U3 U137 rfl) fun a hF=>?_
       obtain ⟨t_28,ht_28,hj6⟩:=bindS hj6
       refine q_y (v:=(iV t_28)) hF hS (ex_shl rfl rfl ht_28) fun a hF=>q_y (v:=(iV (goBits .or .i64 e_26 t_28))) hF hS (ex_bits rfl rfl rfl) fun a hF=>?_
       obtain ⟨e_29,he_29,hj6⟩:=bindS hj6
       obtain ⟨vs30,at30,d30⟩:=h19.at he_29 1 rfl
       obtain rfl : vs30 = [(iV e_29)]:=d30
       refine q_y (v:=(elP s3 (t_9.toNat * 1))) hF hS (ex_indexAddr U24 sz3 rfl rfl (h19.idx he_29)) fun a hF=>q_do rfl fun _ hK=>wp_storeE (e':=goBits .or .i64 e_26 t_28) (us:=[(iV (goBits .or .i64 e_26 t_28))]) (vs:=[(iV e_29)]) 0 hF hS h19 sz3 rfl rfl rfl rfl rfl rfl rfl he_29 at30 rfl rfl rfl fun w q31 hS h31=>hK _ _ (q_end (n_jn ?_))
       obtain rfl:=someI hj6
       exact ⟨q31,hF.sub ⟨rfl,rfl,rfl,rfl,rfl,rfl,trivial⟩,hS.sel [1,0,2] (by decide),h18,h18k,h31⟩
     ·rintro a w ⟨q34,hF,hS,h33,h33k,h34⟩
      refine n_ib (n_sq ?_)
      refine q_region (q_y (v:=(iV (w64 (t_16 + 1)))) hF hS (ex_ibin rfl rfl rfl) fun a hF=>q_m hF rfl fun a hF=>q_end ?_)
      obtain rfl:=someI hb4
      exact ⟨rfl,q34,_,_,rfl,hF.sub ⟨rfl,rfl,rfl,rfl,rfl,rfl,trivial⟩,hS.sel [1,0,2] (by decide),h33,h33k,h34⟩
   ·rintro e a w ⟨q37,rfl,hF,hS,h36,h36k,h37⟩
    refine x_ib (normal_ret ?_)
    obtain rfl:=someI hr
    exact ret_ofX hF hS rfl .nil ⟨q37,s3,rfl,hS.sel [1,0] (by decide),h36k,h37⟩
  ·have hr:=cond_t hc3 hr
   refine q_cond_t hF rfl hc3 (q_ret (r_sq ?_))
   obtain rfl:=someI hr
   exact ret_ofX hF hS rfl .nil ⟨q3,s3,rfl,hS.sel [2,1] (by decide),rfl,h3⟩

end Go.Proofs.YtnmimeojimfogaaGreatDoor
