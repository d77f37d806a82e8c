/- The walks of the functions: each returns what its plain function says. -/
import Derived.Test.YtebjhiflnemkhaaDoorEWalks1
namespace Go.Proofs.YtebjhiflnemkhaaDoor
open Go.Gx Go.Gx.F Go.RowKit
set_option linter.all false
set_option maxRecDepth 10000


theorem c_impl_ContainsEdit (p_s : List impl_Variable) (p_e : impl_Edit) (p_f : impl_Edit) (r : Bool × Bool) (hr : impl_ContainsEdit p_s p_e p_f = some r) (w0 : World) (m : Mem) (hv : Vis m w0) (s1 : Sl) (h1 : Rd m s1 p_s) (s2 : Sl) (h2 : Rd m s2 p_e.Sets) (s3 : Sl) (h3 : Rd m s3 p_f.Sets) :
  Ret Tryd.prog 11 [s1.v,(.agg #[s2.v]),(.agg #[s3.v])] w0 (fun v _=>v = (.tuple #[(.bool r.1),(.bool r.2)])):=by
 unfold impl_ContainsEdit at hr
 refine ret_start Tryd.func11 rfl 26 rfl rfl m hv fun a hF hS=>q_seq (q_region (q_box (cs:=[s2.v]) hF hS rfl rfl rfl fun a w b4 hF hS=>q_box (cs:=[s3.v]) hF hS rfl rfl rfl fun a w b5 hF hS=>q_x (v:=(.bool false)) hF hS (ex_assign rfl) rfl rfl fun a hF=>q_x (v:=(.bool false)) hF hS (ex_assign rfl) rfl rfl fun a hF=>q_end (n_sq (q_seq (q_seq ?_)))))
 obtain ⟨t_9,hj1,hr⟩:=bindS hr
 refine q_join (fun a w=>Fr a 26 [(4,(.pointer (some ⟨b4,0,none⟩))),(5,(.pointer (some ⟨b5,0,none⟩))),(22,(.bool t_9))]∧St [] w0 w m [[⟨b5,[s3.v],27⟩],[⟨b4,[s2.v],27⟩]]) ?_ ?_
 ·refine q_region (q_x (v:=s1.v) hF hS (ex_move rfl) rfl rfl fun a hF=>?_)
  obtain ⟨t_6,ht_6,hj1⟩:=bindS hj1
  refine q_call (vs:=[s1.v]) hF hS Tryd.func20 (by kernel_rfl) rfl rfl rfl (c_impl_IsSchema p_s t_6 ht_6 _ m hS.vis s1 h1) ?_
  rintro a w _ rfl hF hS
  refine q_x (v:=(.bool (!t_6))) hF hS (ex_not rfl) rfl rfl fun a hF=>q_x (v:=(.bool (!t_6))) hF hS (ex_move rfl) rfl rfl fun a hF=>?_
  rcases bcase (!t_6) with hc2 | hc2
  ·have hj1:=cond_f hc2 hj1
   refine q_xg (v:=s1.v) hF hS (ex_move rfl) (wanted_t hF rfl rfl rfl hc2) rfl fun a hF=>q_xg (v:=(.agg #[s2.v])) hF hS (ex_loadA (vs:=[s2.v]) 1 0 Tryd.underlying27 rfl sz27 rfl rfl rfl rfl) (wanted_t hF rfl rfl rfl hc2) rfl fun a hF=>?_
   obtain ⟨t_7,ht_7,hj1⟩:=bindS hj1
   refine q_callg (vs:=[s1.v,(.agg #[s2.v])]) hF hS (wanted_t hF rfl rfl rfl hc2) Tryd.func21 (by kernel_rfl) rfl rfl rfl (c_impl_isEdit p_s p_e t_7 ht_7 _ m hS.vis s1 h1 s2 h2) ?_
   rintro a w _ rfl hF hS
   refine q_xg (v:=(.bool (!t_7))) hF hS (ex_not rfl) (wanted_t hF rfl rfl rfl hc2) rfl fun a hF=>q_x (v:=(.bool (!t_7))) hF hS (ex_pick_f rfl rfl hc2) rfl rfl fun a hF=>q_x (v:=(.bool (!t_7))) hF hS (ex_move rfl) rfl rfl fun a hF=>?_
   rcases bcase (!t_7) with hc3 | hc3
   ·have hj1:=cond_f hc3 hj1
    refine q_xg (v:=s1.v) hF hS (ex_move rfl) (wanted_t hF rfl rfl rfl hc3) rfl fun a hF=>q_xg (v:=(.agg #[s3.v])) hF hS (ex_loadA (vs:=[s3.v]) 0 0 Tryd.underlying27 rfl sz27 rfl rfl rfl rfl) (wanted_t hF rfl rfl rfl hc3) rfl fun a hF=>?_
    obtain ⟨t_8,ht_8,hj1⟩:=bindS hj1
    refine q_callg (vs:=[s1.v,(.agg #[s3.v])]) hF hS (wanted_t hF rfl rfl rfl hc3) Tryd.func21 (by kernel_rfl) rfl rfl rfl (c_impl_isEdit p_s p_f t_8 ht_8 _ m hS.vis s1 h1 s3 h3) ?_
    rintro a w _ rfl hF hS
    refine q_xg (v:=(.bool (!t_8))) hF hS (ex_not rfl) (wanted_t hF rfl rfl rfl hc3) rfl fun a hF=>q_x (v:=(.bool (!t_8))) hF hS (ex_pick_f rfl rfl hc3) rfl rfl fun a hF=>q_end (n_jn ?_)
    obtain rfl:=someI hj1
    exact ⟨hF.sub ⟨rfl,rfl,rfl,trivial⟩,hS⟩
   ·have hj1:=cond_t hc3 hj1
    refine q_skip hF (wanted_f hF rfl rfl rfl hc3 rfl) rfl fun a hF=>q_skip hF (wanted_f hF rfl rfl rfl hc3 rfl) rfl fun a hF=>q_skip hF (wanted_f hF rfl rfl rfl hc3 rfl) rfl fun a hF=>q_skip hF (wanted_f hF rfl rfl rfl hc3 rfl) rfl fun a hF=>q_x (v:=(.bool true)) hF hS (ex_pick_t rfl rfl hc3) rfl rfl fun a hF=>q_end (n_jn ?_)
    obtain rfl:=someI hj1
    exact ⟨hF.sub ⟨rfl,rfl,rfl,trivial⟩,hS⟩
  ·have hj1:=cond_t hc2 hj1
   refine q_skip hF (wanted_f hF rfl rfl rfl hc2 rfl) rfl fun a hF=>q_skip hF (wanted_f hF rfl rfl rfl hc2 rfl) rfl fun a hF=>q_skip hF (wanted_f hF rfl rfl rfl hc2 rfl) rfl fun a hF=>q_skip hF (wanted_f hF rfl rfl rfl hc2 rfl) rfl fun a hF=>q_x (v:=(.bool true)) hF hS (ex_pick_t rfl rfl hc2) rfl rfl fun a hF=>q_x (v:=(.bool true)) hF hS (ex_move rfl) rfl rfl fun a hF=>q_skip hF (wanted_f hF rfl rfl rfl rfl rfl) rfl fun a hF=>q_skip hF (wanted_f hF rfl rfl rfl rfl rfl) rfl fun a hF=>q_skip hF (wanted_f hF rfl rfl rfl rfl rfl) rfl fun a hF=>q_skip hF (wanted_f hF rfl rfl rfl rfl rfl) rfl fun a hF=>q_x (v:=(.bool true)) hF hS (ex_pick_t rfl rfl rfl) rfl rfl fun a hF=>q_end (n_jn ?_)
   obtain rfl:=someI hj1
   exact ⟨hF.sub ⟨rfl,rfl,rfl,trivial⟩,hS⟩
 ·rintro a w ⟨hF,hS⟩
  refine n_sq ?_
  rcases bcase (t_9) with hc4 | hc4
  ·have hr:=cond_f hc4 hr
   refine q_cond_f hF rfl hc4 (q_skipc (n_sq (q_seq (q_region (q_x (v:=(.agg #[s2.v])) hF hS (ex_loadA (vs:=[s2.v]) 1 0 Tryd.underlying27 rfl sz27 rfl rfl rfl rfl) rfl rfl fun a hF=>q_x (v:=(.agg #[s3.v])) hF hS (ex_loadA (vs:=[s3.v]) 0 0 Tryd.underlying27 rfl sz27 rfl rfl rfl rfl) rfl rfl fun a hF=>?_)))))
   obtain ⟨t_10,ht_10,hr⟩:=bindS hr
   refine q_call (vs:=[(.agg #[s2.v]),(.agg #[s3.v])]) hF hS Tryd.func30 (by kernel_rfl) rfl rfl rfl (c_impl_contains p_e p_f t_10 ht_10 _ m hS.vis s2 h2 s3 h3) ?_
   rintro a w _ rfl hF hS
   refine q_x (v:=(.bool t_10)) hF hS (ex_assign rfl) rfl rfl fun a hF=>q_x (v:=(.bool true)) hF hS (ex_assign rfl) rfl rfl fun a hF=>q_end (n_sq (q_ret ?_))
   obtain rfl:=someI hr
   exact ret_of hF hS rfl (.tmp rfl (.tmp rfl .nil)) rfl
  ·have hr:=cond_t hc4 hr
   refine q_cond_t hF rfl hc4 (q_seq (q_region (q_x (v:=(.bool false)) hF hS (ex_assign rfl) rfl rfl fun a hF=>q_x (v:=(.bool false)) hF hS (ex_assign rfl) rfl rfl fun a hF=>q_end (n_sq (q_ret (r_sq ?_))))))
   obtain rfl:=someI hr
   exact ret_of hF hS rfl (.tmp rfl (.tmp rfl .nil)) rfl

theorem c_spec_eContains (p_e : impl_Edit) (p_f : impl_Edit) (r : Bool) (hr : spec_eContains p_e p_f = some r) (w0 : World) (m : Mem) (hv : Vis m w0) (s1 : Sl) (h1 : Rd m s1 p_e.Sets) (s2 : Sl) (h2 : Rd m s2 p_f.Sets) :
  Ret Tryd.prog 31 [(.agg #[s1.v]),(.agg #[s2.v])] w0 (fun v _=>v = (.bool r)):=by
 unfold spec_eContains at hr
 refine ret_start Tryd.func31 rfl 25 rfl rfl m hv fun a hF hS=>q_seq (q_region (q_box (cs:=[s1.v]) hF hS rfl rfl rfl fun a w b3 hF hS=>q_box (cs:=[s2.v]) hF hS rfl rfl rfl fun a w b4 hF hS=>q_x (v:=(.bool false)) hF hS (ex_assign rfl) rfl rfl fun a hF=>q_end (n_sq (q_seq (q_seq (q_region (q_x (v:=(.pointer (some ⟨b4,0,none⟩))) hF hS (ex_fieldAddr Tryd.underlying27 rfl sz25 rfl rfl) rfl rfl fun a hF=>q_x (v:=s2.v) hF hS (ex_load1 0 0 Tryd.underlying25 rfl rfl rfl rfl) rfl rfl fun a hF=>q_x (v:=(iV (goLen p_f.Sets))) hF hS (ex_len Tryd.underlying25 rfl h2.len) rfl rfl fun a hF=>q_x (v:=(iV 0)) hF hS (ex_move rfl) rfl rfl fun a hF=>q_end (n_sq (q_block ?_)))))))))
 obtain ⟨o1,hl1,hr⟩:=bindS hr
 refine q_loop (fun (t_5 : Int) a w=>Fr a 25 [(2,(.pointer (some ⟨b3,0,none⟩))),(8,s2.v),(9,(iV (goLen p_f.Sets))),(10,(iV t_5))]∧St [] w0 w m [[⟨b3,[s1.v],27⟩]]) (fun (o : (Unit) ⊕ (Bool)) e a w=>o = .inl ()∧e = .exit 0∧Fr a 25 []∧St [] w0 w m []) hl1 ⟨hF.sub ⟨rfl,rfl,rfl,rfl,trivial⟩,hS.mask [false,true]⟩ ?_ ?_
 ·clear hF hS
  rintro t_5 a w st ⟨hF,hS⟩ hb1
  unfold spec_eContains_l1 at hb1
  refine q_seq (q_region (q_x (v:=(.bool (decide (t_5 < (goLen p_f.Sets))))) hF hS (ex_ibin rfl rfl rfl) rfl rfl fun a hF=>q_end (n_sq (q_seq ?_))))
  rcases bcase (decide (t_5 < (goLen p_f.Sets))) with hc2 | hc2
  ·have hb1:=cond_f hc2 hb1
   refine q_cond_f hF rfl hc2 (q_exit (x_sq ?_))
   obtain rfl:=someI hb1
   exact ⟨nofun,.inl ⟨rfl,rfl,hF.sub trivial,hS.mask [false]⟩⟩
  ·have hb1:=cond_t hc2 hb1
   refine q_cond_t hF rfl hc2 (q_skipc (n_sq (q_seq (q_block (q_seq (q_region (q_x (v:=(iV t_5)) hF hS (ex_move rfl) rfl rfl fun a hF=>?_)))))))
   obtain ⟨e_6,he_6,hb1⟩:=bindS hb1
   obtain ⟨vs7,at7,d7⟩:=h2.at he_6 1 rfl
   obtain rfl : vs7 = [(iV e_6)]:=d7
   refine q_x (v:=(elP s2 (t_5.toNat * 1))) hF hS (ex_indexAddr Tryd.underlying25 sz3 rfl rfl (h2.idx he_6)) rfl rfl fun a hF=>q_x (v:=(iV e_6)) hF hS (ex_loadE1 0 Tryd.underlying3 rfl rfl ((at7).at) rfl rfl) rfl rfl fun a hF=>q_x (v:=(iV t_5)) hF hS (ex_assign rfl) rfl rfl fun a hF=>q_x (v:=(iV e_6)) hF hS (ex_assign rfl) rfl rfl fun a hF=>q_end (n_sq (q_seq (q_region (q_x (v:=(iV e_6)) hF hS (ex_move rfl) rfl rfl fun a hF=>q_x (v:=(.pointer (some ⟨b3,0,none⟩))) hF hS (ex_fieldAddr Tryd.underlying27 rfl sz25 rfl rfl) rfl rfl fun a hF=>q_x (v:=s1.v) hF hS (ex_load1 0 0 Tryd.underlying25 rfl rfl rfl rfl) rfl rfl fun a hF=>q_x (v:=(iV t_5)) hF hS (ex_move rfl) rfl rfl fun a hF=>?_))))
   obtain ⟨e_8,he_8,hb1⟩:=bindS hb1
   obtain ⟨vs9,at9,d9⟩:=h1.at he_8 1 rfl
   obtain rfl : vs9 = [(iV e_8)]:=d9
   refine q_x (v:=(elP s1 (t_5.toNat * 1))) hF hS (ex_indexAddr Tryd.underlying25 sz3 rfl rfl (h1.idx he_8)) rfl rfl fun a hF=>q_x (v:=(iV e_8)) hF hS (ex_loadE1 0 Tryd.underlying3 rfl rfl ((at9).at) rfl rfl) rfl rfl fun a hF=>q_x (v:=(iV (goBits .and .i64 e_6 e_8))) hF hS (ex_bits rfl rfl rfl) rfl rfl fun a hF=>q_x (v:=(iV e_6)) hF hS (ex_move rfl) rfl rfl fun a hF=>q_x (v:=(.bool ((goBits .and .i64 e_6 e_8) != e_6))) hF hS (ex_ibin rfl rfl rfl) rfl rfl fun a hF=>q_end (n_sq ?_)
   rcases bcase ((goBits .and .i64 e_6 e_8) != e_6) with hc3 | hc3
   ·have hb1:=cond_f hc3 hb1
    refine q_cond_f hF rfl hc3 (q_skipc (n_ib (n_sq (q_region (q_x (v:=(iV (w64 (t_5 + 1)))) hF hS (ex_ibin rfl rfl rfl) rfl rfl fun a hF=>q_x (v:=(iV (w64 (t_5 + 1)))) hF hS (ex_move rfl) rfl rfl fun a hF=>q_end ?_)))))
    obtain rfl:=someI hb1
    exact ⟨rfl,hF.sub ⟨rfl,rfl,rfl,rfl,trivial⟩,hS⟩
   ·have hb1:=cond_t hc3 hb1
    refine q_cond_t hF rfl hc3 (q_seq (q_region (q_x (v:=(.bool false)) hF hS (ex_assign rfl) rfl rfl fun a hF=>q_end (n_sq (q_ret (r_ib (r_sq ?_)))))))
    obtain rfl:=someI hb1
    refine ⟨nofun,.inr fun ho=>?_⟩
    subst ho
    refine r_ib (r_sq ?_)
    obtain rfl:=someI hr
    exact ret_of hF hS rfl (.tmp rfl .nil) rfl
 ·rintro e a w ⟨rfl,rfl,hF,hS⟩
  refine x_ib (n_sq ?_)
  refine q_seq (q_region (q_x (v:=(.bool true)) hF hS (ex_assign rfl) rfl rfl fun a hF=>q_end (n_sq (q_ret ?_))))
  obtain rfl:=someI hr
  exact ret_of hF hS rfl (.tmp rfl .nil) rfl

theorem c_spec_ContainsEdit (p_s : List impl_Variable) (p_e : impl_Edit) (p_f : impl_Edit) (r : Bool × Bool) (hr : spec_ContainsEdit p_s p_e p_f = some r) (w0 : World) (m : Mem) (hv : Vis m w0) (s1 : Sl) (h1 : Rd m s1 p_s) (s2 : Sl) (h2 : Rd m s2 p_e.Sets) (s3 : Sl) (h3 : Rd m s3 p_f.Sets) :
  Ret Tryd.prog 12 [s1.v,(.agg #[s2.v]),(.agg #[s3.v])] w0 (fun v _=>v = (.tuple #[(.bool r.1),(.bool r.2)])):=by
 unfold spec_ContainsEdit at hr
 refine ret_start Tryd.func12 rfl 17 rfl rfl m hv fun a hF hS=>q_seq (q_region (q_box (cs:=[s2.v]) hF hS rfl rfl rfl fun a w b4 hF hS=>q_box (cs:=[s3.v]) hF hS rfl rfl rfl fun a w b5 hF hS=>q_x (v:=(.bool false)) hF hS (ex_assign rfl) rfl rfl fun a hF=>q_x (v:=(.bool false)) hF hS (ex_assign rfl) rfl rfl fun a hF=>q_end (n_sq (q_seq (q_seq (q_region (q_x (v:=s1.v) hF hS (ex_move rfl) rfl rfl fun a hF=>q_x (v:=(.agg #[s2.v])) hF hS (ex_loadA (vs:=[s2.v]) 1 0 Tryd.underlying27 rfl sz27 rfl rfl rfl rfl) rfl rfl fun a hF=>q_x (v:=(.agg #[s3.v])) hF hS (ex_loadA (vs:=[s3.v]) 0 0 Tryd.underlying27 rfl sz27 rfl rfl rfl rfl) rfl rfl fun a hF=>q_do rfl fun _ hK=>wp_buildSlice' (l:=([p_e,p_f] : List impl_Edit)) (cells:=[s2.v,s3.v]) hF hS Tryd.underlying49 inf27 rfl rfl (by kernel_rfl) rfl rfl rfl ⟨⟨s2,rfl,h2⟩,⟨s3,rfl,h3⟩,rfl⟩ rfl rfl fun a w q6 s6 hF hS h6 _=>hK _ _ ?_)))))))
 obtain ⟨m8,hl8,hv8,hz8⟩:=hS.lend
 obtain ⟨t_7,ht_7,hr⟩:=bindS hr
 refine q_call (vs:=[s1.v,s6.v]) hF hS Tryd.func23 (by kernel_rfl) rfl rfl rfl (c_spec_eList p_s ([p_e,p_f] : List impl_Edit) t_7 ht_7 _ m8 hv8 s1 (h1.mono hl8) s6 (h6.froz hl8 (hz8 0 _ rfl))) ?_
 rintro a w _ rfl hF hS
 refine q_x (v:=(.bool (!t_7))) hF hS (ex_not rfl) rfl rfl fun a hF=>q_end (n_sq ?_)
 rcases bcase (!t_7) with hc1 | hc1
 ·have hr:=cond_f hc1 hr
  refine q_cond_f hF rfl hc1 (q_skipc (n_sq (q_seq (q_region (q_x (v:=(.agg #[s2.v])) hF hS (ex_loadA (vs:=[s2.v]) 2 0 Tryd.underlying27 rfl sz27 rfl rfl rfl rfl) rfl rfl fun a hF=>q_x (v:=(.agg #[s3.v])) hF hS (ex_loadA (vs:=[s3.v]) 1 0 Tryd.underlying27 rfl sz27 rfl rfl rfl rfl) rfl rfl fun a hF=>?_)))))
  obtain ⟨t_9,ht_9,hr⟩:=bindS hr
  refine q_call (vs:=[(.agg #[s2.v]),(.agg #[s3.v])]) hF hS Tryd.func31 (by kernel_rfl) rfl rfl rfl (c_spec_eContains p_e p_f t_9 ht_9 _ m hS.vis s2 h2 s3 h3) ?_
  rintro a w _ rfl hF hS
  refine q_x (v:=(.bool t_9)) hF hS (ex_assign rfl) rfl rfl fun a hF=>q_x (v:=(.bool true)) hF hS (ex_assign rfl) rfl rfl fun a hF=>q_end (n_sq (q_ret ?_))
  obtain rfl:=someI hr
  exact ret_of hF hS rfl (.tmp rfl (.tmp rfl .nil)) rfl
 ·have hr:=cond_t hc1 hr
  refine q_cond_t hF rfl hc1 (q_seq (q_region (q_x (v:=(.bool false)) hF hS (ex_assign rfl) rfl rfl fun a hF=>q_x (v:=(.bool false)) hF hS (ex_assign rfl) rfl rfl fun a hF=>q_end (n_sq (q_ret (r_sq ?_))))))
  obtain rfl:=someI hr
  exact ret_of hF hS rfl (.tmp rfl (.tmp rfl .nil)) rfl

theorem c_spec_DrawIsEdit (p_code : List (K .u8)) (r : (List impl_Variable) × impl_Edit) (hr : spec_DrawIsEdit p_code = some r) (w0 : World) (m : Mem) (hv : Vis m w0) (s1 : Sl) (h1 : Rd m s1 p_code) :
  Ret Tryd.prog 32 [s1.v] w0 (fun v w=>∃ (q0' : Piece) (q1' : Piece) (s0' : Sl) (s1' : Sl),v = (.tuple #[s0'.v,(.agg #[s1'.v])])∧St [] w0 w m [q0',q1']∧OwnL m 63 q0' s0' r.1∧OwnL m 3 q1' s1' r.2.Sets):=by
 unfold spec_DrawIsEdit at hr
 refine ret_start Tryd.func32 rfl 15 rfl rfl m hv fun a hF hS=>q_seq (q_region (q_x (v:=nilS.v) hF hS (ex_assign rfl) rfl rfl fun a hF=>q_alloc (cs:=[nilS.v]) hF hS rfl rfl rfl fun a w b2 hF hS=>q_end (n_sq (q_seq (q_region (q_x (v:=s1.v) hF hS (ex_move rfl) rfl rfl fun a hF=>q_x (v:=(.agg #[s1.v,(iV 0),(.int .u64 0)])) hF hS (ex_build (cells:=[s1.v,(iV 0),(.int .u64 0)]) rfl (by kernel_rfl)) rfl rfl fun a hF=>q_box (cs:=[s1.v,(iV 0),(.int .u64 0)]) hF hS rfl rfl rfl fun a w b3 hF hS=>q_x (v:=(.pointer (some ⟨b3,0,none⟩))) hF hS (ex_assign rfl) rfl rfl fun a hF=>q_end (n_sq (q_seq (q_region (q_x (v:=(.pointer (some ⟨b3,0,none⟩))) hF hS (ex_move rfl) rfl rfl fun a hF=>?_))))))))))
 have hS4 : St _ _ _ _ ([[⟨b3,[s1.v,(iV 0),(.int .u64 0)],53⟩]]++[[⟨b2,[nilS.v],27⟩]]):=hS
 have hE4:=hS4.enter
 obtain ⟨t_5,ht_5,hr⟩:=bindS hr
 refine q_do rfl fun _ hK=>wp_callX (vs:=[(.pointer (some ⟨b3,0,none⟩))]) hF Tryd.func25 (by kernel_rfl) rfl rfl rfl (c_spec_l1Cur_anySchema (spec_l1Cur.mk p_code 0 (⟨0⟩ : K .u64)) t_5 ht_5 _ m b3 s1 h1 _ hE4) fun a w _ hR hF=>hK _ _ ?_
 obtain ⟨q6,s6,rfl,hR4,h6,hk7⟩:=hR
 have hS : St _ _ _ _ [[⟨b3,[s1.v,(iV t_5.2.at_),(.int .u64 t_5.2.seed.v)],53⟩],q6,[⟨b2,[nilS.v],27⟩]]:=hS4.leaveF hR4
 have h7 : Rd m s1 t_5.2.code:=by rw [hk7]; exact h1
 refine q_x (v:=s6.v) hF hS (ex_assign rfl) rfl rfl fun a hF=>q_end (n_sq (q_seq (q_region (q_x (v:=s6.v) hF hS (ex_move rfl) rfl rfl fun a hF=>q_x (v:=(.pointer (some ⟨b3,0,none⟩))) hF hS (ex_move rfl) rfl rfl fun a hF=>q_x (v:=s6.v) hF hS (ex_move rfl) rfl rfl fun a hF=>?_))))
 have hS8 : St _ _ _ _ ([[⟨b3,[s1.v,(iV t_5.2.at_),(.int .u64 t_5.2.seed.v)],53⟩]]++[q6,[⟨b2,[nilS.v],27⟩]]):=hS
 obtain ⟨m8,hl8,hE8,hz8⟩:=hS8.lendX
 obtain ⟨t_9,ht_9,hr⟩:=bindS hr
 refine q_do rfl fun _ hK=>wp_callX (vs:=[(.pointer (some ⟨b3,0,none⟩)),s6.v]) hF Tryd.func26 (by kernel_rfl) rfl rfl rfl (c_spec_l1Cur_anyEdit t_5.2 t_5.1 t_9 ht_9 _ m8 b3 s1 (h7.mono hl8) s6 (h6.froz hl8 (hz8 0 _ rfl)) _ hE8) fun a w _ hR hF=>hK _ _ ?_
 obtain ⟨q10,s10,rfl,hR8,h10,hk11⟩:=hR
 have hS : St _ _ _ _ [[⟨b3,[s1.v,(iV t_9.2.at_),(.int .u64 t_9.2.seed.v)],53⟩],q10,q6,[⟨b2,[nilS.v],27⟩]]:=hS8.leaveF hR8
 have h10:=h10.any m
 have h11 : Rd m s1 t_9.2.code:=by rw [hk11]; exact h7
 refine q_x (v:=s6.v) hF hS (ex_assign rfl) rfl rfl fun a hF=>q_store (vs:=[s10.v]) (cs':=[s10.v]) 3 0 hF hS sz27 rfl rfl rfl rfl rfl rfl rfl rfl fun a w hF hS=>q_end (n_sq (q_ret ?_))
 obtain rfl:=someI hr
 exact ret_of hF hS rfl (.tmp rfl (.cellA (us:=[s10.v]) 3 0 Tryd.underlying27 rfl sz27 rfl rfl rfl rfl .nil)) ⟨q6,q10,s6,s10,rfl,hS.sel [2,1] (by decide),h6,h10⟩

theorem c_spec_DrawEditText (p_code : List (K .u8)) (r : (List impl_Variable) × impl_Edit) (hr : spec_DrawEditText p_code = some r) (w0 : World) (m : Mem) (hv : Vis m w0) (s1 : Sl) (h1 : Rd m s1 p_code) :
  Ret Tryd.prog 13 [s1.v] w0 (fun v w=>∃ (q0' : Piece) (q1' : Piece) (s0' : Sl) (s1' : Sl),v = (.tuple #[s0'.v,(.agg #[s1'.v])])∧St [] w0 w m [q0',q1']∧OwnL m 63 q0' s0' r.1∧OwnL m 3 q1' s1' r.2.Sets):=by
 unfold spec_DrawEditText at hr
 refine ret_start Tryd.func13 rfl 8 rfl rfl m hv fun a hF hS=>q_seq (q_region (q_x (v:=nilS.v) hF hS (ex_assign rfl) rfl rfl fun a hF=>q_alloc (cs:=[nilS.v]) hF hS rfl rfl rfl fun a w b2 hF hS=>q_end (n_sq (q_seq (q_region (q_x (v:=s1.v) hF hS (ex_move rfl) rfl rfl fun a hF=>?_))))))
 obtain ⟨t_3,ht_3,hr⟩:=bindS hr
 refine q_call (vs:=[s1.v]) hF hS Tryd.func32 (by kernel_rfl) rfl rfl rfl (c_spec_DrawIsEdit p_code t_3 ht_3 _ m hS.vis s1 h1) ?_
 rintro a w _ ⟨q5,q6,s5,s6,rfl,hR4,h5,h6⟩ hF hS2
 have hS : St _ _ _ _ [q5,q6,[⟨b2,[nilS.v],27⟩]]:=hS.joinF hR4
 refine q_x (v:=s5.v) hF hS (ex_extract rfl rfl) rfl rfl fun a hF=>q_x (v:=(.agg #[s6.v])) hF hS (ex_extract rfl rfl) rfl rfl fun a hF=>q_x (v:=s5.v) hF hS (ex_assign rfl) rfl rfl fun a hF=>q_store (vs:=[s6.v]) (cs':=[s6.v]) 2 0 hF hS sz27 rfl rfl rfl rfl rfl rfl rfl rfl fun a w hF hS=>q_end (n_sq (q_ret ?_))
 obtain rfl:=someI hr
 exact ret_of hF hS rfl (.tmp rfl (.cellA (us:=[s6.v]) 2 0 Tryd.underlying27 rfl sz27 rfl rfl rfl rfl .nil)) ⟨q5,q6,s5,s6,rfl,hS.sel [0,1] (by decide),h5,h6⟩

theorem c_impl_involvedIn (p_s : List impl_Variable) (p_e : impl_Edit) (r : (List Int)) (hr : impl_involvedIn p_s p_e = some r) (w0 : World) (m : Mem) (hv : Vis m w0) (s1 : Sl) (h1 : Rd m s1 p_s) (s2 : Sl) (h2 : Rd m s2 p_e.Sets) :
  Ret Tryd.prog 33 [s1.v,(.agg #[s2.v])] w0 (fun v w=>∃ (q0' : Piece) (s0' : Sl),v = s0'.v∧St [] w0 w m [q0']∧OwnL m 3 q0' s0' r):=by
 unfold impl_involvedIn at hr
 refine ret_start Tryd.func33 rfl 29 rfl rfl m hv fun a hF hS=>q_seq (q_region (q_box (cs:=[s2.v]) hF hS rfl rfl rfl fun a w b3 hF hS=>q_x (v:=nilS.v) hF hS (ex_assign rfl) rfl rfl fun a hF=>q_end (n_sq (q_seq (q_region (q_x (v:=nilS.v) hF hS (ex_assign rfl) rfl rfl fun a hF=>q_end (n_sq (q_seq (q_seq (q_region (q_x (v:=(.pointer (some ⟨b3,0,none⟩))) hF hS (ex_fieldAddr Tryd.underlying27 rfl sz25 rfl rfl) rfl rfl fun a hF=>q_x (v:=s2.v) hF hS (ex_load1 0 0 Tryd.underlying25 rfl rfl rfl rfl) rfl rfl fun a hF=>q_x (v:=(iV (goLen p_e.Sets))) hF hS (ex_len Tryd.underlying25 rfl h2.len) rfl rfl fun a hF=>q_x (v:=(iV 0)) hF hS (ex_move rfl) rfl rfl fun a hF=>q_end (n_sq (q_block ?_)))))))))))))
 obtain ⟨vars_17,hl1,hr⟩:=bindS hr
 refine q_loop (fun (s : (List Int) × Int) a w=>∃ (q5 : Piece),∃ (s5 : Sl),∃ vars_4,∃ t_6,s = (vars_4,t_6)∧Fr a 29 [(0,s1.v),(5,s5.v),(9,s2.v),(10,(iV (goLen p_e.Sets))),(11,(iV t_6))]∧St [] w0 w m [q5]∧OwnL m 3 q5 s5 vars_4) (fun (vars_17 : (List Int)) e a w=>∃ (q18 : Piece),∃ (s18 : Sl),e = .exit 0∧Fr a 29 [(5,s18.v)]∧St [] w0 w m [q18]∧OwnL m 3 q18 s18 vars_17) hl1 ⟨[],nilS,_,_,rfl,hF.sub ⟨rfl,rfl,rfl,rfl,rfl,trivial⟩,hS.sel [1] (by decide),(OwnL.nil (α:=Int) m 3)⟩ ?_ ?_
 ·clear hF hS
  rintro s a w st ⟨q5,s5,vars_4,t_6,rfl,hF,hS,h5⟩ hb1
  unfold impl_involvedIn_l1 at hb1
  refine q_seq (q_region (q_x (v:=(.bool (decide (t_6 < (goLen p_e.Sets))))) hF hS (ex_ibin rfl rfl rfl) rfl rfl fun a hF=>q_end (n_sq (q_seq ?_))))
  rcases bcase (decide (t_6 < (goLen p_e.Sets))) with hc2 | hc2
  ·have hb1:=cond_f hc2 hb1
   refine q_cond_f hF rfl hc2 (q_exit (x_sq ?_))
   obtain rfl:=someI hb1
   exact ⟨nofun,.inl ⟨q5,s5,rfl,hF.sub ⟨rfl,trivial⟩,hS,h5⟩⟩
  ·have hb1:=cond_t hc2 hb1
   refine q_cond_t hF rfl hc2 (q_skipc (n_sq (q_seq (q_block (q_seq (q_region (q_x (v:=(iV t_6)) hF hS (ex_move rfl) rfl rfl fun a hF=>?_)))))))
   obtain ⟨e_7,he_7,hb1⟩:=bindS hb1
   obtain ⟨vs8,at8,d8⟩:=h2.at he_7 1 rfl
   obtain rfl : vs8 = [(iV e_7)]:=d8
   refine q_x (v:=(elP s2 (t_6.toNat * 1))) hF hS (ex_indexAddr Tryd.underlying25 sz3 rfl rfl (h2.idx he_7)) rfl rfl fun a hF=>q_x (v:=(iV e_7)) hF hS (ex_loadE1 0 Tryd.underlying3 rfl rfl ((at8).at) rfl rfl) rfl rfl fun a hF=>q_x (v:=(iV t_6)) hF hS (ex_assign rfl) rfl rfl fun a hF=>q_x (v:=(iV e_7)) hF hS (ex_assign rfl) rfl rfl fun a hF=>q_end (n_sq (q_seq (q_region (q_x (v:=(iV e_7)) hF hS (ex_move rfl) rfl rfl fun a hF=>q_x (v:=s1.v) hF hS (ex_move rfl) rfl rfl fun a hF=>q_x (v:=(iV t_6)) hF hS (ex_move rfl) rfl rfl fun a hF=>?_))))
   obtain ⟨e_9,he_9,hb1⟩:=bindS hb1
   obtain ⟨vs10,at10,d10⟩:=h1.at he_9 2 rfl
   obtain rfl : vs10 = [(strV e_9.Name),(iV e_9.Levels)]:=d10
   refine q_x (v:=(elP s1 (t_6.toNat * 2))) hF hS (ex_indexAddr Tryd.underlying24 sz63 rfl rfl (h1.idx he_9)) rfl rfl fun a hF=>q_x (v:=(.agg #[(strV e_9.Name),(iV e_9.Levels)])) hF hS (ex_loadEA (us:=[(strV e_9.Name),(iV e_9.Levels)]) 0 Tryd.underlying63 rfl sz63 rfl ((at10).at) rfl rfl rfl) rfl rfl fun a hF=>?_
   obtain ⟨t_11,ht_11,hb1⟩:=bindS hb1
   refine q_call (vs:=[(.agg #[(strV e_9.Name),(iV e_9.Levels)])]) hF hS Tryd.func37 (by kernel_rfl) rfl rfl rfl (c_impl_fullSet e_9 t_11 ht_11 _ m hS.vis) ?_
   rintro a w _ rfl hF hS
   refine q_x (v:=(.bool (e_7 != t_11))) hF hS (ex_ibin rfl rfl rfl) rfl rfl fun a hF=>q_end (n_sq ?_)
   obtain ⟨vars_15,hj3,hb1⟩:=bindS hb1
   refine q_join (fun a w=>∃ (q16 : Piece),∃ (s16 : Sl),Fr a 29 [(0,s1.v),(5,s16.v),(9,s2.v),(10,(iV (goLen p_e.Sets))),(11,(iV t_6))]∧St [] w0 w m [q16]∧OwnL m 3 q16 s16 vars_15) ?_ ?_
   ·rcases bcase (e_7 != t_11) with hc4 | hc4
    ·have hj3:=cond_f hc4 hj3
     refine q_cond_f hF rfl hc4 (q_skipc (n_jn ?_))
     obtain rfl:=someI hj3
     exact ⟨q5,s5,hF.sub ⟨rfl,rfl,rfl,rfl,rfl,trivial⟩,hS,h5⟩
    ·have hj3:=cond_t hc4 hj3
     refine q_cond_t hF rfl hc4 (q_region (q_x (v:=s5.v) hF hS (ex_move rfl) rfl rfl fun a hF=>q_x (v:=(iV t_6)) hF hS (ex_move rfl) rfl rfl fun a hF=>q_do rfl fun _ hK=>wp_buildSlice' (l:=([t_6] : List Int)) (cells:=[(iV t_6)]) hF hS Tryd.underlying25 inf3 rfl rfl (by kernel_rfl) rfl rfl rfl ⟨rfl,rfl⟩ rfl rfl fun a w q12 s12 hF hS h12 _=>hK _ _ ?_))
     have hS : St _ _ _ _ [q5,q12]:=hS.sel [1,0] (by decide)
     obtain ⟨l_13,hl_13,hj3⟩:=bindS hj3
     refine q_do rfl fun _ hK=>wp_append hF hS h5 Tryd.underlying25 inf3 rfl rfl rfl rfl (h12.vw hS (j:=1) rfl) rfl (by decide) hl_13 rfl fun a w q14 s14 hF hS h14=>hK _ _ (q_x (v:=s14.v) hF hS (ex_assign rfl) rfl rfl fun a hF=>q_end (n_jn ?_))
     obtain rfl:=someI hj3
     exact ⟨q14,s14,hF.sub ⟨rfl,rfl,rfl,rfl,rfl,trivial⟩,hS.mask [true,false],h14⟩
   ·rintro a w ⟨q16,s16,hF,hS,h16⟩
    refine n_ib (n_sq ?_)
    refine q_region (q_x (v:=(iV (w64 (t_6 + 1)))) hF hS (ex_ibin rfl rfl rfl) rfl rfl fun a hF=>q_x (v:=(iV (w64 (t_6 + 1)))) hF hS (ex_move rfl) rfl rfl fun a hF=>q_end ?_)
    obtain rfl:=someI hb1
    exact ⟨rfl,q16,s16,_,_,rfl,hF.sub ⟨rfl,rfl,rfl,rfl,rfl,trivial⟩,hS,h16⟩
 ·rintro e a w ⟨q18,s18,rfl,hF,hS,h18⟩
  refine x_ib (n_sq ?_)
  refine q_seq (q_region (q_x (v:=s18.v) hF hS (ex_move rfl) rfl rfl fun a hF=>q_x (v:=s18.v) hF hS (ex_assign rfl) rfl rfl fun a hF=>q_end (n_sq (q_ret ?_))))
  obtain rfl:=someI hr
  exact ret_of hF hS rfl (.tmp rfl .nil) ⟨q18,s18,rfl,hS.sel [0] (by decide),h18⟩

theorem c_impl_setText (p_set : Int) (r : (List UInt8)) (hr : impl_setText p_set = some r) (w0 : World) (m : Mem) (hv : Vis m w0) :
  Ret Tryd.prog 34 [(iV p_set)] w0 (fun v _=>v = (strV r)):=by
 unfold impl_setText at hr
 refine ret_start Tryd.func34 rfl 23 rfl rfl m hv fun a hF hS=>q_seq (q_region (q_x (v:=(strV ([] : List UInt8))) hF hS (ex_assign rfl) rfl rfl fun a hF=>q_end (n_sq (q_seq (q_region (q_x (v:=nilS.v) hF hS (ex_assign rfl) rfl rfl fun a hF=>q_end (n_sq (q_seq (q_seq (q_region (q_x (v:=(iV 0)) hF hS (ex_move rfl) rfl rfl fun a hF=>q_end (n_sq (q_block ?_)))))))))))))
 obtain ⟨parts_11,hl1,hr⟩:=bindS hr
 refine q_loop (fun (s : (List (List UInt8)) × Int) a w=>∃ (q2 : Piece),∃ (s2 : Sl),∃ parts_1,∃ t_3,s = (parts_1,t_3)∧Fr a 23 [(0,(iV p_set)),(3,s2.v),(5,(iV t_3))]∧St [] w0 w m [q2]∧OwnL m 9 q2 s2 parts_1) (fun (parts_11 : (List (List UInt8))) e a w=>∃ (q12 : Piece),∃ (s12 : Sl),e = .exit 0∧Fr a 23 [(3,s12.v)]∧St [] w0 w m [q12]∧OwnL m 9 q12 s12 parts_11) hl1 ⟨[],nilS,_,_,rfl,hF.sub ⟨rfl,rfl,rfl,trivial⟩,hS.sel [0] (by decide),(OwnL.nil (α:=List UInt8) m 9)⟩ ?_ ?_
 ·clear hF hS
  rintro s a w st ⟨q2,s2,parts_1,t_3,rfl,hF,hS,h2⟩ hb1
  unfold impl_setText_l1 at hb1
  refine q_seq (q_region (q_x (v:=(.bool (decide (t_3 < 8)))) hF hS (ex_ibin rfl rfl rfl) rfl rfl fun a hF=>q_end (n_sq (q_seq ?_))))
  rcases bcase (decide (t_3 < 8)) with hc2 | hc2
  ·have hb1:=cond_f hc2 hb1
   refine q_cond_f hF rfl hc2 (q_exit (x_sq ?_))
   obtain rfl:=someI hb1
   exact ⟨nofun,.inl ⟨q2,s2,rfl,hF.sub ⟨rfl,trivial⟩,hS,h2⟩⟩
  ·have hb1:=cond_t hc2 hb1
   refine q_cond_t hF rfl hc2 (q_skipc (n_sq (q_seq (q_block (q_seq (q_region (q_x (v:=(iV t_3)) hF hS (ex_move rfl) rfl rfl fun a hF=>q_x (v:=(iV t_3)) hF hS (ex_assign rfl) rfl rfl fun a hF=>q_end (n_sq (q_seq (q_region (q_x (v:=(iV p_set)) hF hS (ex_move rfl) rfl rfl fun a hF=>q_x (v:=(iV t_3)) hF hS (ex_move rfl) rfl rfl fun a hF=>?_)))))))))))
   obtain ⟨t_4,ht_4,hb1⟩:=bindS hb1
   refine q_x (v:=(iV t_4)) hF hS (ex_shr rfl rfl ht_4) rfl rfl fun a hF=>q_x (v:=(iV (goBits .and .i64 t_4 1))) hF hS (ex_bits rfl rfl rfl) rfl rfl fun a hF=>q_x (v:=(.bool ((goBits .and .i64 t_4 1) == 1))) hF hS (ex_ibin rfl rfl rfl) rfl rfl fun a hF=>q_end (n_sq ?_)
   obtain ⟨parts_9,hj3,hb1⟩:=bindS hb1
   refine q_join (fun a w=>∃ (q10 : Piece),∃ (s10 : Sl),Fr a 23 [(0,(iV p_set)),(3,s10.v),(5,(iV t_3))]∧St [] w0 w m [q10]∧OwnL m 9 q10 s10 parts_9) ?_ ?_
   ·rcases bcase ((goBits .and .i64 t_4 1) == 1) with hc4 | hc4
    ·have hj3:=cond_f hc4 hj3
     refine q_cond_f hF rfl hc4 (q_skipc (n_jn ?_))
     obtain rfl:=someI hj3
     exact ⟨q2,s2,hF.sub ⟨rfl,rfl,rfl,trivial⟩,hS,h2⟩
    ·have hj3:=cond_t hc4 hj3
     refine q_cond_t hF rfl hc4 (q_region (q_x (v:=s2.v) hF hS (ex_move rfl) rfl rfl fun a hF=>q_x (v:=(iV t_3)) hF hS (ex_move rfl) rfl rfl fun a hF=>q_x (v:=(iV (w64 (48 + t_3)))) hF hS (ex_ibin rfl rfl rfl) rfl rfl fun a hF=>q_x (v:=(.int .i32 (IntKind.wrap .i32 (w64 (48 + t_3))))) hF hS (ex_conv Tryd.underlying3 Tryd.underlying21 rfl) rfl rfl fun a hF=>?_))
     obtain ⟨t_5,ht_5,hj3⟩:=bindS hj3
     refine q_x (v:=(strV t_5)) hF hS (ex_runeStr Tryd.underlying21 Tryd.underlying9 rfl ht_5) rfl rfl fun a hF=>q_do rfl fun _ hK=>wp_buildSlice' (l:=([t_5] : List (List UInt8))) (cells:=[(strV t_5)]) hF hS Tryd.underlying61 inf9 rfl rfl (by kernel_rfl) rfl rfl rfl ⟨rfl,rfl⟩ rfl rfl fun a w q6 s6 hF hS h6 _=>hK _ _ ?_
     have hS : St _ _ _ _ [q2,q6]:=hS.sel [1,0] (by decide)
     obtain ⟨l_7,hl_7,hj3⟩:=bindS hj3
     refine q_do rfl fun _ hK=>wp_append hF hS h2 Tryd.underlying61 inf9 rfl rfl rfl rfl (h6.vw hS (j:=1) rfl) rfl (by decide) hl_7 rfl fun a w q8 s8 hF hS h8=>hK _ _ (q_x (v:=s8.v) hF hS (ex_assign rfl) rfl rfl fun a hF=>q_end (n_jn ?_))
     obtain rfl:=someI hj3
     exact ⟨q8,s8,hF.sub ⟨rfl,rfl,rfl,trivial⟩,hS.mask [true,false],h8⟩
   ·rintro a w ⟨q10,s10,hF,hS,h10⟩
    refine n_ib (n_sq ?_)
    refine q_region (q_x (v:=(iV (w64 (t_3 + 1)))) hF hS (ex_ibin rfl rfl rfl) rfl rfl fun a hF=>q_x (v:=(iV (w64 (t_3 + 1)))) hF hS (ex_move rfl) rfl rfl fun a hF=>q_end ?_)
    obtain rfl:=someI hb1
    exact ⟨rfl,q10,s10,_,_,rfl,hF.sub ⟨rfl,rfl,rfl,trivial⟩,hS,h10⟩
 ·rintro e a w ⟨q12,s12,rfl,hF,hS,h12⟩
  refine x_ib (n_sq ?_)
  refine q_seq (q_region (q_x (v:=s12.v) hF hS (ex_move rfl) rfl rfl fun a hF=>?_))
  obtain ⟨m14,hl14,hv14,hz14⟩:=hS.lend
  obtain ⟨t_13,ht_13,hr⟩:=bindS hr
  refine q_call (vs:=[s12.v,(strV ([44] : List UInt8))]) hF hS Tryd.func35 (by kernel_rfl) rfl rfl rfl (c_strings_Join parts_11 ([44] : List UInt8) t_13 ht_13 _ m14 hv14 s12 (h12.froz hl14 (hz14 0 _ rfl))) ?_
  rintro a w _ rfl hF hS
  refine q_x (v:=(strV t_13)) hF hS (ex_assign rfl) rfl rfl fun a hF=>q_end (n_sq (q_ret ?_))
  obtain rfl:=someI hr
  exact ret_of hF hS rfl (.tmp rfl .nil) rfl

theorem c_impl_EditText (p_s : List impl_Variable) (p_e : impl_Edit) (r : (List UInt8) × Bool) (hr : impl_EditText p_s p_e = some r) (w0 : World) (m : Mem) (hv : Vis m w0) (s1 : Sl) (h1 : Rd m s1 p_s) (s2 : Sl) (h2 : Rd m s2 p_e.Sets) :
  Ret Tryd.prog 14 [s1.v,(.agg #[s2.v])] w0 (fun v _=>v = (.tuple #[(strV r.1),(.bool r.2)])):=by
 unfold impl_EditText at hr
 refine ret_start Tryd.func14 rfl 54 rfl rfl m hv fun a hF hS=>q_seq (q_region (q_box (cs:=[s2.v]) hF hS rfl rfl rfl fun a w b3 hF hS=>q_x (v:=(strV ([] : List UInt8))) hF hS (ex_assign rfl) rfl rfl fun a hF=>q_x (v:=(.bool false)) hF hS (ex_assign rfl) rfl rfl fun a hF=>q_end (n_sq (q_seq (q_seq ?_)))))
 obtain ⟨t_6,hj1,hr⟩:=bindS hr
 refine q_join (fun a w=>Fr a 54 [(0,s1.v),(3,(.pointer (some ⟨b3,0,none⟩))),(18,(.bool t_6))]∧St [] w0 w m [[⟨b3,[s2.v],27⟩]]) ?_ ?_
 ·refine q_region (q_x (v:=s1.v) hF hS (ex_move rfl) rfl rfl fun a hF=>?_)
  obtain ⟨t_4,ht_4,hj1⟩:=bindS hj1
  refine q_call (vs:=[s1.v]) hF hS Tryd.func20 (by kernel_rfl) rfl rfl rfl (c_impl_IsSchema p_s t_4 ht_4 _ m hS.vis s1 h1) ?_
  rintro a w _ rfl hF hS
  refine q_x (v:=(.bool (!t_4))) hF hS (ex_not rfl) rfl rfl fun a hF=>q_x (v:=(.bool (!t_4))) hF hS (ex_move rfl) rfl rfl fun a hF=>?_
  rcases bcase (!t_4) with hc2 | hc2
  ·have hj1:=cond_f hc2 hj1
   refine q_xg (v:=s1.v) hF hS (ex_move rfl) (wanted_t hF rfl rfl rfl hc2) rfl fun a hF=>q_xg (v:=(.agg #[s2.v])) hF hS (ex_loadA (vs:=[s2.v]) 0 0 Tryd.underlying27 rfl sz27 rfl rfl rfl rfl) (wanted_t hF rfl rfl rfl hc2) rfl fun a hF=>?_
   obtain ⟨t_5,ht_5,hj1⟩:=bindS hj1
   refine q_callg (vs:=[s1.v,(.agg #[s2.v])]) hF hS (wanted_t hF rfl rfl rfl hc2) Tryd.func21 (by kernel_rfl) rfl rfl rfl (c_impl_isEdit p_s p_e t_5 ht_5 _ m hS.vis s1 h1 s2 h2) ?_
   rintro a w _ rfl hF hS
   refine q_xg (v:=(.bool (!t_5))) hF hS (ex_not rfl) (wanted_t hF rfl rfl rfl hc2) rfl fun a hF=>q_x (v:=(.bool (!t_5))) hF hS (ex_pick_f rfl rfl hc2) rfl rfl fun a hF=>q_end (n_jn ?_)
   obtain rfl:=someI hj1
   exact ⟨hF.sub ⟨rfl,rfl,rfl,trivial⟩,hS⟩
  ·have hj1:=cond_t hc2 hj1
   refine q_skip hF (wanted_f hF rfl rfl rfl hc2 rfl) rfl fun a hF=>q_skip hF (wanted_f hF rfl rfl rfl hc2 rfl) rfl fun a hF=>q_skip hF (wanted_f hF rfl rfl rfl hc2 rfl) rfl fun a hF=>q_skip hF (wanted_f hF rfl rfl rfl hc2 rfl) rfl fun a hF=>q_x (v:=(.bool true)) hF hS (ex_pick_t rfl rfl hc2) rfl rfl fun a hF=>q_end (n_jn ?_)
   obtain rfl:=someI hj1
   exact ⟨hF.sub ⟨rfl,rfl,rfl,trivial⟩,hS⟩
 ·rintro a w ⟨hF,hS⟩
  refine n_sq ?_
  rcases bcase (t_6) with hc3 | hc3
  ·have hr:=cond_f hc3 hr
   refine q_cond_f hF rfl hc3 (q_skipc (n_sq (q_seq (q_region (q_x (v:=s1.v) hF hS (ex_move rfl) rfl rfl fun a hF=>q_x (v:=(.agg #[s2.v])) hF hS (ex_loadA (vs:=[s2.v]) 0 0 Tryd.underlying27 rfl sz27 rfl rfl rfl rfl) rfl rfl fun a hF=>?_)))))
   obtain ⟨t_7,ht_7,hr⟩:=bindS hr
   refine q_call (vs:=[s1.v,(.agg #[s2.v])]) hF hS Tryd.func33 (by kernel_rfl) rfl rfl rfl (c_impl_involvedIn p_s p_e t_7 ht_7 _ m hS.vis s1 h1 s2 h2) ?_
   rintro a w _ ⟨q9,s9,rfl,hR8,h9⟩ hF hS2
   have hS : St _ _ _ _ [q9,[⟨b3,[s2.v],27⟩]]:=hS.joinF hR8
   refine q_x (v:=s9.v) hF hS (ex_assign rfl) rfl rfl fun a hF=>q_end (n_sq (q_seq (q_seq (q_region (q_x (v:=s9.v) hF hS (ex_move rfl) rfl rfl fun a hF=>q_x (v:=(iV (goLen t_7))) hF hS (ex_len Tryd.underlying25 rfl h9.len) rfl rfl fun a hF=>q_x (v:=(.bool ((goLen t_7) == 0))) hF hS (ex_ibin rfl rfl rfl) rfl rfl fun a hF=>q_end (n_sq ?_))))))
   rcases bcase ((goLen t_7) == 0) with hc4 | hc4
   ·have hr:=cond_f hc4 hr
    refine q_cond_f hF rfl hc4 (q_skipc (n_sq (q_seq (q_region (q_x (v:=s9.v) hF hS (ex_move rfl) rfl rfl fun a hF=>q_x (v:=(iV (goLen t_7))) hF hS (ex_len Tryd.underlying25 rfl h9.len) rfl rfl fun a hF=>?_)))))
    obtain ⟨l_10,hl_10,hr⟩:=bindS hr
    refine q_do rfl fun _ hK=>wp_make (z:=(([] : List UInt8) : List UInt8)) hF hS Tryd.underlying61 inf9 rfl rfl rfl rfl rfl (by decide) hl_10 rfl fun a w q11 s11 hF hS h11 _=>hK _ _ (q_x (v:=s11.v) hF hS (ex_assign rfl) rfl rfl fun a hF=>q_end (n_sq (q_seq (q_seq (q_region (q_x (v:=s9.v) hF hS (ex_move rfl) rfl rfl fun a hF=>q_x (v:=(iV (goLen t_7))) hF hS (ex_len Tryd.underlying25 rfl h9.len) rfl rfl fun a hF=>q_x (v:=(iV 0)) hF hS (ex_move rfl) rfl rfl fun a hF=>q_end (n_sq (q_block ?_))))))))
    obtain ⟨parts_27,hl5,hr⟩:=bindS hr
    refine q_loop (fun (s : (List (List UInt8)) × Int) a w=>∃ (q13 : Piece),∃ parts_12,∃ t_14,s = (parts_12,t_14)∧Fr a 54 [(0,s1.v),(3,(.pointer (some ⟨b3,0,none⟩))),(7,s11.v),(28,s9.v),(29,(iV (goLen t_7))),(30,(iV t_14))]∧St [] w0 w m [q13,q9,[⟨b3,[s2.v],27⟩]]∧OwnL m 9 q13 s11 parts_12) (fun (parts_27 : (List (List UInt8))) e a w=>∃ (q28 : Piece),e = .exit 0∧Fr a 54 [(7,s11.v)]∧St [] w0 w m [q28]∧OwnL m 9 q28 s11 parts_27) hl5 ⟨q11,_,_,rfl,hF.sub ⟨rfl,rfl,rfl,rfl,rfl,rfl,trivial⟩,hS,h11⟩ ?_ ?_
    ·clear hF hS
     rintro s a w st ⟨q13,parts_12,t_14,rfl,hF,hS,h13⟩ hb5
     unfold impl_EditText_l1 at hb5
     refine q_seq (q_region (q_x (v:=(.bool (decide (t_14 < (goLen t_7))))) hF hS (ex_ibin rfl rfl rfl) rfl rfl fun a hF=>q_end (n_sq (q_seq ?_))))
     rcases bcase (decide (t_14 < (goLen t_7))) with hc6 | hc6
     ·have hb5:=cond_f hc6 hb5
      refine q_cond_f hF rfl hc6 (q_exit (x_sq ?_))
      obtain rfl:=someI hb5
      exact ⟨nofun,.inl ⟨q13,rfl,hF.sub ⟨rfl,trivial⟩,hS.mask [true,false,false],h13⟩⟩
     ·have hb5:=cond_t hc6 hb5
      refine q_cond_t hF rfl hc6 (q_skipc (n_sq (q_seq (q_block (q_seq (q_region (q_x (v:=(iV t_14)) hF hS (ex_move rfl) rfl rfl fun a hF=>?_)))))))
      obtain ⟨e_15,he_15,hb5⟩:=bindS hb5
      obtain ⟨vs16,at16,d16⟩:=h9.at he_15 1 rfl
      obtain rfl : vs16 = [(iV e_15)]:=d16
      refine q_x (v:=(elP s9 (t_14.toNat * 1))) hF hS (ex_indexAddr Tryd.underlying25 sz3 rfl rfl (h9.idx he_15)) rfl rfl fun a hF=>q_x (v:=(iV e_15)) hF hS (ex_loadE1 0 Tryd.underlying3 rfl rfl (at16.at 1 rfl) rfl rfl) rfl rfl fun a hF=>q_x (v:=(iV t_14)) hF hS (ex_assign rfl) rfl rfl fun a hF=>q_x (v:=(iV e_15)) hF hS (ex_assign rfl) rfl rfl fun a hF=>q_end (n_sq (e_region ⟨[16],[b3]⟩ mixed fun w' hw'=>?_))
      have hS:=hS.below hw'
      refine e_p (v:=s11.v) 0 hF rfl (ex_move rfl) rfl rfl (by kernel_rfl) (by kernel_rfl) (by kernel_rfl) fun a hF=>e_p (v:=(iV t_14)) 1 hF rfl (ex_move rfl) rfl rfl (by kernel_rfl) (by kernel_rfl) (by kernel_rfl) fun a hF=>e_p (v:=s1.v) 2 hF rfl (ex_move rfl) rfl rfl (by kernel_rfl) (by kernel_rfl) (by kernel_rfl) fun a hF=>e_p (v:=(iV e_15)) 3 hF rfl (ex_move rfl) rfl rfl (by kernel_rfl) (by kernel_rfl) (by kernel_rfl) fun a hF=>?_
      obtain ⟨e_17,he_17,hb5⟩:=bindS hb5
      obtain ⟨vs18,at18,d18⟩:=h1.at he_17 2 rfl
      obtain rfl : vs18 = [(strV e_17.Name),(iV e_17.Levels)]:=d18
      refine e_p (v:=(elP s1 (e_15.toNat * 2))) 4 hF rfl (ex_indexAddr Tryd.underlying24 sz63 rfl rfl (h1.idx he_17)) rfl rfl (by kernel_rfl) (by kernel_rfl) (by kernel_rfl) fun a hF=>e_p (v:=(elP s1 (e_15.toNat * 2 + 0))) 5 hF rfl (ex_fieldAddrE Tryd.underlying63 rfl sz9 rfl (h1.idx he_17) rfl) rfl rfl (by kernel_rfl) (by kernel_rfl) (by kernel_rfl) fun a hF=>e_x (v:=(strV e_17.Name)) 6 hF hS rfl (ex_loadE1 0 Tryd.underlying9 rfl rfl ((at18).at) rfl rfl) rfl rfl (by kernel_rfl) (by kernel_rfl) (by kernel_rfl) (by kernel_rfl) fun a hF=>?_
      obtain ⟨t_19,ht_19,hb5⟩:=bindS hb5
      refine e_p (v:=(strV t_19)) 7 hF rfl (ex_strCat rfl rfl ht_19) rfl rfl (by kernel_rfl) (by kernel_rfl) (by kernel_rfl) fun a hF=>e_p (v:=(.pointer (some ⟨b3,0,none⟩))) 8 hF rfl (ex_fieldAddr Tryd.underlying27 rfl sz25 rfl rfl) rfl rfl (by kernel_rfl) (by kernel_rfl) (by kernel_rfl) fun a hF=>e_xb (v:=s2.v) 9 2 hF hS (.head _) rfl rfl (ex_load1 0 0 Tryd.underlying25 rfl rfl rfl rfl) rfl rfl (by kernel_rfl) (by kernel_rfl) (by kernel_rfl) fun a hF=>e_p (v:=(iV e_15)) 10 hF rfl (ex_move rfl) rfl rfl (by kernel_rfl) (by kernel_rfl) (by kernel_rfl) fun a hF=>?_
      obtain ⟨e_20,he_20,hb5⟩:=bindS hb5
      obtain ⟨vs21,at21,d21⟩:=h2.at he_20 1 rfl
      obtain rfl : vs21 = [(iV e_20)]:=d21
      refine e_p (v:=(elP s2 (e_15.toNat * 1))) 11 hF rfl (ex_indexAddr Tryd.underlying25 sz3 rfl rfl (h2.idx he_20)) rfl rfl (by kernel_rfl) (by kernel_rfl) (by kernel_rfl) fun a hF=>e_x (v:=(iV e_20)) 12 hF hS rfl (ex_loadE1 0 Tryd.underlying3 rfl rfl ((at21).at) rfl rfl) rfl rfl (by kernel_rfl) (by kernel_rfl) (by kernel_rfl) (by kernel_rfl) fun a hF=>e_one 13 (by kernel_rfl) ?_
      obtain ⟨t_22,ht_22,hb5⟩:=bindS hb5
      refine e_call (vs:=[(iV e_20)]) hF hS rfl Tryd.func34 (by kernel_rfl) rfl rfl rfl (c_impl_setText e_20 t_22 ht_22 _ m hS.vis) ?_
      rintro a w _ rfl hF hS
      obtain ⟨t_23,ht_23,hb5⟩:=bindS hb5
      refine e_p (v:=(strV t_23)) 14 hF rfl (ex_strCat rfl rfl ht_23) rfl rfl (by kernel_rfl) (by kernel_rfl) (by kernel_rfl) fun a hF=>?_
      obtain ⟨e_24,he_24,hb5⟩:=bindS hb5
      obtain ⟨vs25,at25,d25⟩:=h13.at he_24 1 rfl
      obtain rfl : vs25 = [(strV e_24)]:=d25
      refine e_p (v:=(elP s11 (t_14.toNat * 1))) 15 hF rfl (ex_indexAddr Tryd.underlying61 sz9 rfl rfl (h13.idx he_24)) rfl rfl (by kernel_rfl) (by kernel_rfl) (by kernel_rfl) fun a hF=>e_one 16 (by kernel_rfl) ?_
      have hSo:=hS
      refine e_opl rfl rfl rfl fun _ hK=>wp_storeE (e':=t_23) (us:=[(strV t_23)]) (vs:=[(strV e_24)]) 0 hF hS h13 sz9 rfl rfl rfl rfl rfl rfl rfl he_24 at25 rfl rfl rfl fun w q26 hS h26=>hK _ _ (⟨kpC hSo hS 2 2 rfl rfl kpN,?_⟩)
      refine e_end (by kernel_rfl) (n_ib (n_sq ?_)) _
      refine q_region (q_x (v:=(iV (w64 (t_14 + 1)))) hF hS (ex_ibin rfl rfl rfl) rfl rfl fun a hF=>q_x (v:=(iV (w64 (t_14 + 1)))) hF hS (ex_move rfl) rfl rfl fun a hF=>q_end ?_)
      obtain rfl:=someI hb5
      exact ⟨rfl,q26,_,_,rfl,hF.sub ⟨rfl,rfl,rfl,rfl,rfl,rfl,trivial⟩,hS,h26⟩
    ·rintro e a w ⟨q28,rfl,hF,hS,h28⟩
     refine x_ib (n_sq ?_)
     refine q_seq (q_region (q_x (v:=s11.v) hF hS (ex_move rfl) rfl rfl fun a hF=>?_))
     obtain ⟨m30,hl30,hv30,hz30⟩:=hS.lend
     obtain ⟨t_29,ht_29,hr⟩:=bindS hr
     refine q_call (vs:=[s11.v,(strV ([32] : List UInt8))]) hF hS Tryd.func35 (by kernel_rfl) rfl rfl rfl (c_strings_Join parts_27 ([32] : List UInt8) t_29 ht_29 _ m30 hv30 s11 (h28.froz hl30 (hz30 0 _ rfl))) ?_
     rintro a w _ rfl hF hS
     refine q_x (v:=(strV t_29)) hF hS (ex_assign rfl) rfl rfl fun a hF=>q_x (v:=(.bool true)) hF hS (ex_assign rfl) rfl rfl fun a hF=>q_end (n_sq (q_ret ?_))
     obtain rfl:=someI hr
     exact ret_of hF hS rfl (.tmp rfl (.tmp rfl .nil)) rfl
   ·have hr:=cond_t hc4 hr
    refine q_cond_t hF rfl hc4 (q_seq (q_region (q_x (v:=(strV ([97,108,108] : List UInt8))) hF hS (ex_assign rfl) rfl rfl fun a hF=>q_x (v:=(.bool true)) hF hS (ex_assign rfl) rfl rfl fun a hF=>q_end (n_sq (q_ret (r_sq ?_))))))
    obtain rfl:=someI hr
    exact ret_of hF hS rfl (.tmp rfl (.tmp rfl .nil)) rfl
  ·have hr:=cond_t hc3 hr
   refine q_cond_t hF rfl hc3 (q_seq (q_region (q_x (v:=(strV ([] : List UInt8))) hF hS (ex_assign rfl) rfl rfl fun a hF=>q_x (v:=(.bool false)) hF hS (ex_assign rfl) rfl rfl fun a hF=>q_end (n_sq (q_ret (r_sq ?_))))))
   obtain rfl:=someI hr
   exact ret_of hF hS rfl (.tmp rfl (.tmp rfl .nil)) rfl

theorem c_spec_eInvolved (p_s : List impl_Variable) (p_e : impl_Edit) (r : (List Int)) (hr : spec_eInvolved p_s p_e = some r) (w0 : World) (m : Mem) (hv : Vis m w0) (s1 : Sl) (h1 : Rd m s1 p_s) (s2 : Sl) (h2 : Rd m s2 p_e.Sets) :
  Ret Tryd.prog 58 [s1.v,(.agg #[s2.v])] w0 (fun v w=>∃ (q0' : Piece) (s0' : Sl),v = s0'.v∧St [] w0 w m [q0']∧OwnL m 3 q0' s0' r):=by
 unfold spec_eInvolved at hr
 refine ret_start Tryd.func58 rfl 27 rfl rfl m hv fun a hF hS=>q_seq (q_region (q_box (cs:=[s2.v]) hF hS rfl rfl rfl fun a w b3 hF hS=>q_x (v:=nilS.v) hF hS (ex_assign rfl) rfl rfl fun a hF=>q_end (n_sq (q_seq (q_region (q_x (v:=nilS.v) hF hS (ex_assign rfl) rfl rfl fun a hF=>q_end (n_sq (q_seq (q_seq (q_region (q_x (v:=(.pointer (some ⟨b3,0,none⟩))) hF hS (ex_fieldAddr Tryd.underlying27 rfl sz25 rfl rfl) rfl rfl fun a hF=>q_x (v:=s2.v) hF hS (ex_load1 0 0 Tryd.underlying25 rfl rfl rfl rfl) rfl rfl fun a hF=>q_x (v:=(iV (goLen p_e.Sets))) hF hS (ex_len Tryd.underlying25 rfl h2.len) rfl rfl fun a hF=>q_x (v:=(iV 0)) hF hS (ex_move rfl) rfl rfl fun a hF=>q_end (n_sq (q_block ?_)))))))))))))
 obtain ⟨out_15,hl1,hr⟩:=bindS hr
 refine q_loop (fun (s : (List Int) × Int) a w=>∃ (q5 : Piece),∃ (s5 : Sl),∃ out_4,∃ t_6,s = (out_4,t_6)∧Fr a 27 [(0,s1.v),(5,s5.v),(9,s2.v),(10,(iV (goLen p_e.Sets))),(11,(iV t_6))]∧St [] w0 w m [q5]∧OwnL m 3 q5 s5 out_4) (fun (out_15 : (List Int)) e a w=>∃ (q16 : Piece),∃ (s16 : Sl),e = .exit 0∧Fr a 27 [(5,s16.v)]∧St [] w0 w m [q16]∧OwnL m 3 q16 s16 out_15) hl1 ⟨[],nilS,_,_,rfl,hF.sub ⟨rfl,rfl,rfl,rfl,rfl,trivial⟩,hS.sel [1] (by decide),(OwnL.nil (α:=Int) m 3)⟩ ?_ ?_
 ·clear hF hS
  rintro s a w st ⟨q5,s5,out_4,t_6,rfl,hF,hS,h5⟩ hb1
  unfold spec_eInvolved_l1 at hb1
  refine q_seq (q_region (q_x (v:=(.bool (decide (t_6 < (goLen p_e.Sets))))) hF hS (ex_ibin rfl rfl rfl) rfl rfl fun a hF=>q_end (n_sq (q_seq ?_))))
  rcases bcase (decide (t_6 < (goLen p_e.Sets))) with hc2 | hc2
  ·have hb1:=cond_f hc2 hb1
   refine q_cond_f hF rfl hc2 (q_exit (x_sq ?_))
   obtain rfl:=someI hb1
   exact ⟨nofun,.inl ⟨q5,s5,rfl,hF.sub ⟨rfl,trivial⟩,hS,h5⟩⟩
  ·have hb1:=cond_t hc2 hb1
   refine q_cond_t hF rfl hc2 (q_skipc (n_sq (q_seq (q_block (q_seq (q_region (q_x (v:=(iV t_6)) hF hS (ex_move rfl) rfl rfl fun a hF=>?_)))))))
   obtain ⟨e_7,he_7,hb1⟩:=bindS hb1
   obtain ⟨vs8,at8,d8⟩:=h2.at he_7 1 rfl
   obtain rfl : vs8 = [(iV e_7)]:=d8
   refine q_x (v:=(elP s2 (t_6.toNat * 1))) hF hS (ex_indexAddr Tryd.underlying25 sz3 rfl rfl (h2.idx he_7)) rfl rfl fun a hF=>q_x (v:=(iV e_7)) hF hS (ex_loadE1 0 Tryd.underlying3 rfl rfl ((at8).at) rfl rfl) rfl rfl fun a hF=>q_x (v:=(iV t_6)) hF hS (ex_assign rfl) rfl rfl fun a hF=>q_x (v:=(iV e_7)) hF hS (ex_assign rfl) rfl rfl fun a hF=>q_end (n_sq (q_seq (q_region (q_x (v:=(iV e_7)) hF hS (ex_move rfl) rfl rfl fun a hF=>q_x (v:=s1.v) hF hS (ex_move rfl) rfl rfl fun a hF=>q_x (v:=(iV t_6)) hF hS (ex_move rfl) rfl rfl fun a hF=>?_))))
   obtain ⟨t_9,ht_9,hb1⟩:=bindS hb1
   refine q_call (vs:=[s1.v,(iV t_6)]) hF hS Tryd.func48 (by kernel_rfl) rfl rfl rfl (c_spec_eFull p_s t_6 t_9 ht_9 _ m hS.vis s1 h1) ?_
   rintro a w _ rfl hF hS
   refine q_x (v:=(.bool (e_7 != t_9))) hF hS (ex_ibin rfl rfl rfl) rfl rfl fun a hF=>q_end (n_sq ?_)
   obtain ⟨out_13,hj3,hb1⟩:=bindS hb1
   refine q_join (fun a w=>∃ (q14 : Piece),∃ (s14 : Sl),Fr a 27 [(0,s1.v),(5,s14.v),(9,s2.v),(10,(iV (goLen p_e.Sets))),(11,(iV t_6))]∧St [] w0 w m [q14]∧OwnL m 3 q14 s14 out_13) ?_ ?_
   ·rcases bcase (e_7 != t_9) with hc4 | hc4
    ·have hj3:=cond_f hc4 hj3
     refine q_cond_f hF rfl hc4 (q_skipc (n_jn ?_))
     obtain rfl:=someI hj3
     exact ⟨q5,s5,hF.sub ⟨rfl,rfl,rfl,rfl,rfl,trivial⟩,hS,h5⟩
    ·have hj3:=cond_t hc4 hj3
     refine q_cond_t hF rfl hc4 (q_region (q_x (v:=s5.v) hF hS (ex_move rfl) rfl rfl fun a hF=>q_x (v:=(iV t_6)) hF hS (ex_move rfl) rfl rfl fun a hF=>q_do rfl fun _ hK=>wp_buildSlice' (l:=([t_6] : List Int)) (cells:=[(iV t_6)]) hF hS Tryd.underlying25 inf3 rfl rfl (by kernel_rfl) rfl rfl rfl ⟨rfl,rfl⟩ rfl rfl fun a w q10 s10 hF hS h10 _=>hK _ _ ?_))
     have hS : St _ _ _ _ [q5,q10]:=hS.sel [1,0] (by decide)
     obtain ⟨l_11,hl_11,hj3⟩:=bindS hj3
     refine q_do rfl fun _ hK=>wp_append hF hS h5 Tryd.underlying25 inf3 rfl rfl rfl rfl (h10.vw hS (j:=1) rfl) rfl (by decide) hl_11 rfl fun a w q12 s12 hF hS h12=>hK _ _ (q_x (v:=s12.v) hF hS (ex_assign rfl) rfl rfl fun a hF=>q_end (n_jn ?_))
     obtain rfl:=someI hj3
     exact ⟨q12,s12,hF.sub ⟨rfl,rfl,rfl,rfl,rfl,trivial⟩,hS.mask [true,false],h12⟩
   ·rintro a w ⟨q14,s14,hF,hS,h14⟩
    refine n_ib (n_sq ?_)
    refine q_region (q_x (v:=(iV (w64 (t_6 + 1)))) hF hS (ex_ibin rfl rfl rfl) rfl rfl fun a hF=>q_x (v:=(iV (w64 (t_6 + 1)))) hF hS (ex_move rfl) rfl rfl fun a hF=>q_end ?_)
    obtain rfl:=someI hb1
    exact ⟨rfl,q14,s14,_,_,rfl,hF.sub ⟨rfl,rfl,rfl,rfl,rfl,trivial⟩,hS,h14⟩
 ·rintro e a w ⟨q16,s16,rfl,hF,hS,h16⟩
  refine x_ib (n_sq ?_)
  refine q_seq (q_region (q_x (v:=s16.v) hF hS (ex_move rfl) rfl rfl fun a hF=>q_x (v:=s16.v) hF hS (ex_assign rfl) rfl rfl fun a hF=>q_end (n_sq (q_ret ?_))))
  obtain rfl:=someI hr
  exact ret_of hF hS rfl (.tmp rfl .nil) ⟨q16,s16,rfl,hS.sel [0] (by decide),h16⟩

theorem c_spec_eLevels (p_set : Int) (r : (List Int)) (hr : spec_eLevels p_set = some r) (w0 : World) (m : Mem) (hv : Vis m w0) :
  Ret Tryd.prog 43 [(iV p_set)] w0 (fun v w=>∃ (q0' : Piece) (s0' : Sl),v = s0'.v∧St [] w0 w m [q0']∧OwnL m 3 q0' s0' r):=by
 unfold spec_eLevels at hr
 refine ret_start Tryd.func43 rfl 23 rfl rfl m hv fun a hF hS=>q_seq (q_region (q_x (v:=nilS.v) hF hS (ex_assign rfl) rfl rfl fun a hF=>q_end (n_sq (q_seq (q_region (q_x (v:=nilS.v) hF hS (ex_assign rfl) rfl rfl fun a hF=>q_end (n_sq (q_seq (q_seq (q_region (q_x (v:=(iV 0)) hF hS (ex_assign rfl) rfl rfl fun a hF=>q_end (n_sq (q_block ?_)))))))))))))
 obtain ⟨out_11,hl1,hr⟩:=bindS hr
 refine q_loop (fun (s : (List Int) × Int) a w=>∃ (q2 : Piece),∃ (s2 : Sl),∃ out_1,∃ x_3,s = (out_1,x_3)∧Fr a 23 [(0,(iV p_set)),(3,s2.v),(4,(iV x_3))]∧St [] w0 w m [q2]∧OwnL m 3 q2 s2 out_1) (fun (out_11 : (List Int)) e a w=>∃ (q12 : Piece),∃ (s12 : Sl),e = .exit 0∧Fr a 23 [(3,s12.v)]∧St [] w0 w m [q12]∧OwnL m 3 q12 s12 out_11) hl1 ⟨[],nilS,_,_,rfl,hF.sub ⟨rfl,rfl,rfl,trivial⟩,hS.sel [0] (by decide),(OwnL.nil (α:=Int) m 3)⟩ ?_ ?_
 ·clear hF hS
  rintro s a w st ⟨q2,s2,out_1,x_3,rfl,hF,hS,h2⟩ hb1
  unfold spec_eLevels_l1 at hb1
  refine q_seq (q_seq (q_region (q_x (v:=(iV p_set)) hF hS (ex_move rfl) rfl rfl fun a hF=>q_x (v:=(iV x_3)) hF hS (ex_move rfl) rfl rfl fun a hF=>q_x (v:=(.int .u64 (IntKind.wrap .u64 x_3))) hF hS (ex_conv Tryd.underlying3 Tryd.underlying76 rfl) rfl rfl fun a hF=>?_)))
  obtain ⟨t_4,ht_4,hb1⟩:=bindS hb1
  refine q_x (v:=(iV t_4)) hF hS (ex_shr rfl rfl ht_4) rfl rfl fun a hF=>q_x (v:=(.bool (decide (0 < t_4)))) hF hS (ex_ibin rfl rfl rfl) rfl rfl fun a hF=>q_end (n_sq ?_)
  rcases bcase (decide (0 < t_4)) with hc2 | hc2
  ·have hb1:=cond_f hc2 hb1
   refine q_cond_f hF rfl hc2 (q_exit (x_sq ?_))
   obtain rfl:=someI hb1
   exact ⟨nofun,.inl ⟨q2,s2,rfl,hF.sub ⟨rfl,trivial⟩,hS,h2⟩⟩
  ·have hb1:=cond_t hc2 hb1
   refine q_cond_t hF rfl hc2 (q_skipc (n_sq (q_seq (q_block (q_seq (q_region (q_x (v:=(iV p_set)) hF hS (ex_move rfl) rfl rfl fun a hF=>q_x (v:=(iV x_3)) hF hS (ex_move rfl) rfl rfl fun a hF=>q_x (v:=(.int .u64 (IntKind.wrap .u64 x_3))) hF hS (ex_conv Tryd.underlying3 Tryd.underlying76 rfl) rfl rfl fun a hF=>?_)))))))
   obtain ⟨t_5,ht_5,hb1⟩:=bindS hb1
   refine q_x (v:=(iV t_5)) hF hS (ex_shr rfl rfl ht_5) rfl rfl fun a hF=>q_x (v:=(iV (goBits .and .i64 t_5 1))) hF hS (ex_bits rfl rfl rfl) rfl rfl fun a hF=>q_x (v:=(.bool ((goBits .and .i64 t_5 1) == 1))) hF hS (ex_ibin rfl rfl rfl) rfl rfl fun a hF=>q_end (n_sq ?_)
   obtain ⟨out_9,hj3,hb1⟩:=bindS hb1
   refine q_join (fun a w=>∃ (q10 : Piece),∃ (s10 : Sl),Fr a 23 [(0,(iV p_set)),(3,s10.v),(4,(iV x_3))]∧St [] w0 w m [q10]∧OwnL m 3 q10 s10 out_9) ?_ ?_
   ·rcases bcase ((goBits .and .i64 t_5 1) == 1) with hc4 | hc4
    ·have hj3:=cond_f hc4 hj3
     refine q_cond_f hF rfl hc4 (q_skipc (n_jn ?_))
     obtain rfl:=someI hj3
     exact ⟨q2,s2,hF.sub ⟨rfl,rfl,rfl,trivial⟩,hS,h2⟩
    ·have hj3:=cond_t hc4 hj3
     refine q_cond_t hF rfl hc4 (q_region (q_x (v:=s2.v) hF hS (ex_move rfl) rfl rfl fun a hF=>q_x (v:=(iV x_3)) hF hS (ex_move rfl) rfl rfl fun a hF=>q_do rfl fun _ hK=>wp_buildSlice' (l:=([x_3] : List Int)) (cells:=[(iV x_3)]) hF hS Tryd.underlying25 inf3 rfl rfl (by kernel_rfl) rfl rfl rfl ⟨rfl,rfl⟩ rfl rfl fun a w q6 s6 hF hS h6 _=>hK _ _ ?_))
     have hS : St _ _ _ _ [q2,q6]:=hS.sel [1,0] (by decide)
     obtain ⟨l_7,hl_7,hj3⟩:=bindS hj3
     refine q_do rfl fun _ hK=>wp_append hF hS h2 Tryd.underlying25 inf3 rfl rfl rfl rfl (h6.vw hS (j:=1) rfl) rfl (by decide) hl_7 rfl fun a w q8 s8 hF hS h8=>hK _ _ (q_x (v:=s8.v) hF hS (ex_assign rfl) rfl rfl fun a hF=>q_end (n_jn ?_))
     obtain rfl:=someI hj3
     exact ⟨q8,s8,hF.sub ⟨rfl,rfl,rfl,trivial⟩,hS.mask [true,false],h8⟩
   ·rintro a w ⟨q10,s10,hF,hS,h10⟩
    refine n_ib (n_sq ?_)
    refine q_region (q_x (v:=(iV x_3)) hF hS (ex_move rfl) rfl rfl fun a hF=>q_x (v:=(iV (w64 (x_3 + 1)))) hF hS (ex_ibin rfl rfl rfl) rfl rfl fun a hF=>q_x (v:=(iV (w64 (x_3 + 1)))) hF hS (ex_assign rfl) rfl rfl fun a hF=>q_end ?_)
    obtain rfl:=someI hb1
    exact ⟨rfl,q10,s10,_,_,rfl,hF.sub ⟨rfl,rfl,rfl,trivial⟩,hS,h10⟩
 ·rintro e a w ⟨q12,s12,rfl,hF,hS,h12⟩
  refine x_ib (n_sq ?_)
  refine q_seq (q_region (q_x (v:=s12.v) hF hS (ex_move rfl) rfl rfl fun a hF=>q_x (v:=s12.v) hF hS (ex_assign rfl) rfl rfl fun a hF=>q_end (n_sq (q_ret ?_))))
  obtain rfl:=someI hr
  exact ret_of hF hS rfl (.tmp rfl .nil) ⟨q12,s12,rfl,hS.sel [0] (by decide),h12⟩

theorem cB_spec_l1Num (rcf : Int → Option ((List UInt8))) (ih : ∀ (p_n : Int) (r : (List UInt8)) (hr : rcf p_n = some r) (w0 : World) (m : Mem) (hv : Vis m w0),
  Ret Tryd.prog 59 [(iV p_n)] w0 (fun v _=>v = (strV r))) :
  ∀ (p_n : Int) (r : (List UInt8)) (hr : spec_l1Num_B rcf p_n = some r) (w0 : World) (m : Mem) (hv : Vis m w0),
  Ret Tryd.prog 59 [(iV p_n)] w0 (fun v _=>v = (strV r)):=by
 intro p_n r hr w0 m hv
 unfold spec_l1Num_B at hr
 refine ret_start Tryd.func59 rfl 20 rfl rfl m hv fun a hF hS=>q_seq (q_region (q_x (v:=(strV ([] : List UInt8))) hF hS (ex_assign rfl) rfl rfl fun a hF=>q_end (n_sq (q_seq (q_seq (q_region (q_x (v:=(iV p_n)) hF hS (ex_move rfl) rfl rfl fun a hF=>q_x (v:=(.bool (decide (p_n < 10)))) hF hS (ex_ibin rfl rfl rfl) rfl rfl fun a hF=>q_end (n_sq ?_))))))))
 rcases bcase (decide (p_n < 10)) with hc1 | hc1
 ·have hr:=cond_f hc1 hr
  refine q_cond_f hF rfl hc1 (q_skipc (n_sq (q_seq ?_)))
  obtain ⟨t_12,hj2,hr⟩:=bindS hr
  refine q_join (fun a w=>Fr a 20 [(2,(strV t_12))]∧St [] w0 w m []) ?_ ?_
  ·refine e_region ⟨[],[]⟩ mixed fun w' hw'=>?_
   have hS:=hS.below hw'
   refine e_p (v:=(iV p_n)) 0 hF rfl (ex_move rfl) rfl rfl (by kernel_rfl) (by kernel_rfl) (by kernel_rfl) fun a hF=>?_
   obtain ⟨t_1,ht_1,hj2⟩:=bindS hj2
   refine e_p (v:=(iV t_1)) 1 hF rfl (ex_quo rfl rfl ht_1) rfl rfl (by kernel_rfl) (by kernel_rfl) (by kernel_rfl) fun a hF=>e_p (v:=(iV p_n)) 3 hF rfl (ex_move rfl) rfl rfl (by kernel_rfl) (by kernel_rfl) (by kernel_rfl) fun a hF=>?_
   obtain ⟨t_4,ht_4,hj2⟩:=bindS hj2
   refine e_p (v:=(iV t_4)) 4 hF rfl (ex_rem rfl rfl ht_4) rfl rfl (by kernel_rfl) (by kernel_rfl) (by kernel_rfl) fun a hF=>e_p (v:=(iV (w64 (48 + t_4)))) 5 hF rfl (ex_ibin rfl rfl rfl) rfl rfl (by kernel_rfl) (by kernel_rfl) (by kernel_rfl) fun a hF=>e_p (v:=(.int .u8 (IntKind.wrap .u8 (w64 (48 + t_4))))) 6 hF rfl (ex_conv Tryd.underlying3 Tryd.underlying5 rfl) rfl rfl (by kernel_rfl) (by kernel_rfl) (by kernel_rfl) fun a hF=>?_
   obtain ⟨t_9,ht_9,hj2⟩:=bindS hj2
   obtain ⟨t_11,ht_11,hj2⟩:=bindS hj2
   refine e_all [2,7] (by kernel_rfl) rfl ⟨?_,?_,trivial⟩
   ·refine e_call (vs:=[(iV t_1)]) hF hS rfl Tryd.func59 (by kernel_rfl) rfl rfl rfl (ih t_1 t_9 ht_9 _ m hS.vis) ?_
    rintro a w _ rfl hF hS
    refine e_one 7 (by kernel_rfl) (e_op rfl rfl fun _ hK=>wp_buildSlice' (l:=([(⟨(IntKind.wrap .u8 (w64 (48 + t_4)))⟩ : K .u8)] : List (K .u8))) (cells:=[(.int .u8 (IntKind.wrap .u8 (w64 (48 + t_4))))]) hF hS Tryd.underlying22 inf5 rfl rfl (by kernel_rfl) rfl rfl rfl ⟨rfl,rfl⟩ rfl rfl fun a w q10 s10 hF hS h10 hb=>hK _ _ hb (e_x (v:=(strV (goBytes ([(⟨(IntKind.wrap .u8 (w64 (48 + t_4)))⟩ : K .u8)] : List (K .u8))))) 8 hF hS rfl (ex_toStr Tryd.underlying22 Tryd.underlying5 Tryd.underlying9 rfl (fun X w0 w hS=>h10.vw hS (j:=0) rfl)) rfl rfl (by kernel_rfl) (by kernel_rfl) (by kernel_rfl) (by kernel_rfl) fun a hF=>e_p (v:=(strV t_11)) 9 hF rfl (ex_strCat rfl rfl ht_11) rfl rfl (by kernel_rfl) (by kernel_rfl) (by kernel_rfl) fun a hF=>e_p (v:=(strV t_11)) 10 hF rfl (ex_assign rfl) rfl rfl (by kernel_rfl) (by kernel_rfl) (by kernel_rfl) fun a hF=>e_end (by kernel_rfl) (n_jn ?_) _))
    obtain rfl:=someI hj2
    exact ⟨hF.sub ⟨rfl,trivial⟩,hS.mask [false]⟩
   ·refine e_op rfl rfl fun _ hK=>wp_buildSlice' (l:=([(⟨(IntKind.wrap .u8 (w64 (48 + t_4)))⟩ : K .u8)] : List (K .u8))) (cells:=[(.int .u8 (IntKind.wrap .u8 (w64 (48 + t_4))))]) hF hS Tryd.underlying22 inf5 rfl rfl (by kernel_rfl) rfl rfl rfl ⟨rfl,rfl⟩ rfl rfl fun a w q10 s10 hF hS h10 hb=>hK _ _ hb (e_x (v:=(strV (goBytes ([(⟨(IntKind.wrap .u8 (w64 (48 + t_4)))⟩ : K .u8)] : List (K .u8))))) 8 hF hS rfl (ex_toStr Tryd.underlying22 Tryd.underlying5 Tryd.underlying9 rfl (fun X w0 w hS=>h10.vw hS (j:=0) rfl)) rfl rfl (by kernel_rfl) (by kernel_rfl) (by kernel_rfl) (by kernel_rfl) fun a hF=>e_one 2 (by kernel_rfl) (e_call (vs:=[(iV t_1)]) hF hS rfl Tryd.func59 (by kernel_rfl) rfl rfl rfl (ih t_1 t_9 ht_9 _ m hS.vis) ?_))
    rintro a w _ rfl hF hS
    refine e_p (v:=(strV t_11)) 9 hF rfl (ex_strCat rfl rfl ht_11) rfl rfl (by kernel_rfl) (by kernel_rfl) (by kernel_rfl) fun a hF=>e_p (v:=(strV t_11)) 10 hF rfl (ex_assign rfl) rfl rfl (by kernel_rfl) (by kernel_rfl) (by kernel_rfl) fun a hF=>e_end (by kernel_rfl) (n_jn ?_) _
    obtain rfl:=someI hj2
    exact ⟨hF.sub ⟨rfl,trivial⟩,hS.mask [false]⟩
  ·rintro a w ⟨hF,hS⟩
   refine n_sq (q_ret ?_)
   obtain rfl:=someI hr
   exact ret_of hF hS rfl (.tmp rfl .nil) rfl
 ·have hr:=cond_t hc1 hr
  refine q_cond_t hF rfl hc1 (q_seq (q_region (q_x (v:=(iV p_n)) hF hS (ex_move rfl) rfl rfl fun a hF=>q_x (v:=(iV (w64 (48 + p_n)))) hF hS (ex_ibin rfl rfl rfl) rfl rfl fun a hF=>q_x (v:=(.int .u8 (IntKind.wrap .u8 (w64 (48 + p_n))))) hF hS (ex_conv Tryd.underlying3 Tryd.underlying5 rfl) rfl rfl fun a hF=>q_do rfl fun _ hK=>wp_buildSlice' (l:=([(⟨(IntKind.wrap .u8 (w64 (48 + p_n)))⟩ : K .u8)] : List (K .u8))) (cells:=[(.int .u8 (IntKind.wrap .u8 (w64 (48 + p_n))))]) hF hS Tryd.underlying22 inf5 rfl rfl (by kernel_rfl) rfl rfl rfl ⟨rfl,rfl⟩ rfl rfl fun a w q13 s13 hF hS h13 _=>hK _ _ (q_x (v:=(strV (goBytes ([(⟨(IntKind.wrap .u8 (w64 (48 + p_n)))⟩ : K .u8)] : List (K .u8))))) hF hS (ex_toStr Tryd.underlying22 Tryd.underlying5 Tryd.underlying9 rfl (fun X w0 w hS=>h13.vw hS (j:=0) rfl)) rfl rfl fun a hF=>q_x (v:=(strV (goBytes ([(⟨(IntKind.wrap .u8 (w64 (48 + p_n)))⟩ : K .u8)] : List (K .u8))))) hF hS (ex_assign rfl) rfl rfl fun a hF=>q_end (n_sq (q_ret (r_sq ?_)))))))
  obtain rfl:=someI hr
  exact ret_of hF hS rfl (.tmp rfl .nil) rfl

theorem ck_spec_l1Num : ∀ (k : Nat),∀ (p_n : Int) (r : (List UInt8)) (hr : spec_l1Num_k k p_n = some r) (w0 : World) (m : Mem) (hv : Vis m w0),
  Ret Tryd.prog 59 [(iV p_n)] w0 (fun v _=>v = (strV r))
 | 0=>fun _ _ hr=>by cases hr
 | k + 1=>cB_spec_l1Num _ (ck_spec_l1Num k)

theorem c_spec_l1Num : ∀ (p_n : Int) (r : (List UInt8)) (hr : spec_l1Num p_n = some r) (w0 : World) (m : Mem) (hv : Vis m w0),
  Ret Tryd.prog 59 [(iV p_n)] w0 (fun v _=>v = (strV r)):=by
 intro p_n r hr
 obtain ⟨k,hk⟩:=recO_run hr
 exact ck_spec_l1Num k p_n r hk

theorem c_spec_eText (p_s : List impl_Variable) (p_e : impl_Edit) (r : (List UInt8)) (hr : spec_eText p_s p_e = some r) (w0 : World) (m : Mem) (hv : Vis m w0) (s1 : Sl) (h1 : Rd m s1 p_s) (s2 : Sl) (h2 : Rd m s2 p_e.Sets) :
  Ret Tryd.prog 36 [s1.v,(.agg #[s2.v])] w0 (fun v _=>v = (strV r)):=by
 unfold spec_eText at hr
 refine ret_start Tryd.func36 rfl 55 rfl rfl m hv fun a hF hS=>q_seq (q_region (q_box (cs:=[s2.v]) hF hS rfl rfl rfl fun a w b3 hF hS=>q_x (v:=(strV ([] : List UInt8))) hF hS (ex_assign rfl) rfl rfl fun a hF=>q_end (n_sq (q_seq (q_region (q_x (v:=(strV ([] : List UInt8))) hF hS (ex_assign rfl) rfl rfl fun a hF=>q_end (n_sq (q_seq (q_seq (q_region (q_x (v:=s1.v) hF hS (ex_move rfl) rfl rfl fun a hF=>q_x (v:=(.agg #[s2.v])) hF hS (ex_loadA (vs:=[s2.v]) 0 0 Tryd.underlying27 rfl sz27 rfl rfl rfl rfl) rfl rfl fun a hF=>?_)))))))))))
 obtain ⟨t_4,ht_4,hr⟩:=bindS hr
 refine q_call (vs:=[s1.v,(.agg #[s2.v])]) hF hS Tryd.func58 (by kernel_rfl) rfl rfl rfl (c_spec_eInvolved p_s p_e t_4 ht_4 _ m hS.vis s1 h1 s2 h2) ?_
 rintro a w _ ⟨q6,s6,rfl,hR5,h6⟩ hF hS2
 have hS : St _ _ _ _ [q6,[⟨b3,[s2.v],27⟩]]:=hS.joinF hR5
 refine q_x (v:=(iV (goLen t_4))) hF hS (ex_len Tryd.underlying25 rfl h6.len) rfl rfl fun a hF=>q_x (v:=(iV 0)) hF hS (ex_move rfl) rfl rfl fun a hF=>q_end (n_sq (q_block ?_))
 obtain ⟨out_31,hl1,hr⟩:=bindS hr
 refine q_loop (fun (s : (List UInt8) × Int) a w=>∃ out_7,∃ t_8,s = (out_7,t_8)∧Fr a 55 [(0,s1.v),(3,(.pointer (some ⟨b3,0,none⟩))),(5,(strV out_7)),(12,s6.v),(13,(iV (goLen t_4))),(14,(iV t_8))]∧St [] w0 w m [q6,[⟨b3,[s2.v],27⟩]]) (fun (out_31 : (List UInt8)) e a w=>e = .exit 0∧Fr a 55 [(5,(strV out_31))]∧St [] w0 w m []) hl1 ⟨_,_,rfl,hF.sub ⟨rfl,rfl,rfl,rfl,rfl,rfl,trivial⟩,hS⟩ ?_ ?_
 ·clear hF hS
  rintro s a w st ⟨out_7,t_8,rfl,hF,hS⟩ hb1
  unfold spec_eText_l1 at hb1
  refine q_seq (q_region (q_x (v:=(.bool (decide (t_8 < (goLen t_4))))) hF hS (ex_ibin rfl rfl rfl) rfl rfl fun a hF=>q_end (n_sq (q_seq ?_))))
  rcases bcase (decide (t_8 < (goLen t_4))) with hc2 | hc2
  ·have hb1:=cond_f hc2 hb1
   refine q_cond_f hF rfl hc2 (q_exit (x_sq ?_))
   obtain rfl:=someI hb1
   exact ⟨nofun,.inl ⟨rfl,hF.sub ⟨rfl,trivial⟩,hS.mask [false,false]⟩⟩
  ·have hb1:=cond_t hc2 hb1
   refine q_cond_t hF rfl hc2 (q_skipc (n_sq (q_seq (q_block (q_seq (q_region ?_))))))
   obtain ⟨e_9,he_9,hb1⟩:=bindS hb1
   obtain ⟨vs10,at10,d10⟩:=h6.at he_9 1 rfl
   obtain rfl : vs10 = [(iV e_9)]:=d10
   refine q_x (v:=(elP s6 (t_8.toNat * 1))) hF hS (ex_indexAddr Tryd.underlying25 sz3 rfl rfl (h6.idx he_9)) rfl rfl fun a hF=>q_x (v:=(iV e_9)) hF hS (ex_loadE1 0 Tryd.underlying3 rfl rfl (at10.at 0 rfl) rfl rfl) rfl rfl fun a hF=>q_x (v:=(iV e_9)) hF hS (ex_assign rfl) rfl rfl fun a hF=>q_end (n_sq (q_seq (q_seq (q_region (q_x (v:=(strV out_7)) hF hS (ex_move rfl) rfl rfl fun a hF=>q_x (v:=(.bool (out_7 != ([] : List UInt8)))) hF hS (ex_strNe rfl rfl) rfl rfl fun a hF=>q_end (n_sq ?_))))))
   obtain ⟨out_12,hj3,hb1⟩:=bindS hb1
   refine q_join (fun a w=>Fr a 55 [(0,s1.v),(3,(.pointer (some ⟨b3,0,none⟩))),(5,(strV out_12)),(7,(iV e_9)),(12,s6.v),(13,(iV (goLen t_4))),(14,(iV t_8))]∧St [] w0 w m [q6,[⟨b3,[s2.v],27⟩]]) ?_ ?_
   ·rcases bcase (out_7 != ([] : List UInt8)) with hc4 | hc4
    ·have hj3:=cond_f hc4 hj3
     refine q_cond_f hF rfl hc4 (q_skipc (n_jn ?_))
     obtain rfl:=someI hj3
     exact ⟨hF.sub ⟨rfl,rfl,rfl,rfl,rfl,rfl,rfl,trivial⟩,hS⟩
    ·have hj3:=cond_t hc4 hj3
     refine q_cond_t hF rfl hc4 (q_region (q_x (v:=(strV out_7)) hF hS (ex_move rfl) rfl rfl fun a hF=>?_))
     obtain ⟨t_11,ht_11,hj3⟩:=bindS hj3
     refine q_x (v:=(strV t_11)) hF hS (ex_strCat rfl rfl ht_11) rfl rfl fun a hF=>q_x (v:=(strV t_11)) hF hS (ex_assign rfl) rfl rfl fun a hF=>q_end (n_jn ?_)
     obtain rfl:=someI hj3
     exact ⟨hF.sub ⟨rfl,rfl,rfl,rfl,rfl,rfl,rfl,trivial⟩,hS⟩
   ·rintro a w ⟨hF,hS⟩
    refine n_sq ?_
    refine q_seq (q_region (q_x (v:=(strV out_12)) hF hS (ex_move rfl) rfl rfl fun a hF=>q_x (v:=s1.v) hF hS (ex_move rfl) rfl rfl fun a hF=>q_x (v:=(iV e_9)) hF hS (ex_move rfl) rfl rfl fun a hF=>?_))
    obtain ⟨e_13,he_13,hb1⟩:=bindS hb1
    obtain ⟨vs14,at14,d14⟩:=h1.at he_13 2 rfl
    obtain rfl : vs14 = [(strV e_13.Name),(iV e_13.Levels)]:=d14
    refine q_x (v:=(elP s1 (e_9.toNat * 2))) hF hS (ex_indexAddr Tryd.underlying24 sz63 rfl rfl (h1.idx he_13)) rfl rfl fun a hF=>q_x (v:=(elP s1 (e_9.toNat * 2 + 0))) hF hS (ex_fieldAddrE Tryd.underlying63 rfl sz9 rfl (h1.idx he_13) rfl) rfl rfl fun a hF=>q_x (v:=(strV e_13.Name)) hF hS (ex_loadE1 0 Tryd.underlying9 rfl rfl ((at14).at) rfl rfl) rfl rfl fun a hF=>?_
    obtain ⟨t_15,ht_15,hb1⟩:=bindS hb1
    refine q_x (v:=(strV t_15)) hF hS (ex_strCat rfl rfl ht_15) rfl rfl fun a hF=>?_
    obtain ⟨t_16,ht_16,hb1⟩:=bindS hb1
    refine q_x (v:=(strV t_16)) hF hS (ex_strCat rfl rfl ht_16) rfl rfl fun a hF=>q_x (v:=(strV t_16)) hF hS (ex_assign rfl) rfl rfl fun a hF=>q_end (n_sq (q_seq (q_region (q_x (v:=(.pointer (some ⟨b3,0,none⟩))) hF hS (ex_fieldAddr Tryd.underlying27 rfl sz25 rfl rfl) rfl rfl fun a hF=>q_x (v:=s2.v) hF hS (ex_load1 1 0 Tryd.underlying25 rfl rfl rfl rfl) rfl rfl fun a hF=>q_x (v:=(iV e_9)) hF hS (ex_move rfl) rfl rfl fun a hF=>?_))))
    obtain ⟨e_17,he_17,hb1⟩:=bindS hb1
    obtain ⟨vs18,at18,d18⟩:=h2.at he_17 1 rfl
    obtain rfl : vs18 = [(iV e_17)]:=d18
    refine q_x (v:=(elP s2 (e_9.toNat * 1))) hF hS (ex_indexAddr Tryd.underlying25 sz3 rfl rfl (h2.idx he_17)) rfl rfl fun a hF=>q_x (v:=(iV e_17)) hF hS (ex_loadE1 0 Tryd.underlying3 rfl rfl ((at18).at) rfl rfl) rfl rfl fun a hF=>?_
    obtain ⟨t_19,ht_19,hb1⟩:=bindS hb1
    refine q_call (vs:=[(iV e_17)]) hF hS Tryd.func43 (by kernel_rfl) rfl rfl rfl (c_spec_eLevels e_17 t_19 ht_19 _ m hS.vis) ?_
    rintro a w _ ⟨q21,s21,rfl,hR20,h21⟩ hF hS2
    have hS : St _ _ _ _ [q21,q6,[⟨b3,[s2.v],27⟩]]:=hS.joinF hR20
    refine q_x (v:=(iV (goLen t_19))) hF hS (ex_len Tryd.underlying25 rfl h21.len) rfl rfl fun a hF=>q_x (v:=(iV 0)) hF hS (ex_move rfl) rfl rfl fun a hF=>q_end (n_sq (q_block ?_))
    obtain ⟨out_30,hl5,hb1⟩:=bindS hb1
    refine q_loop (fun (s : (List UInt8) × Int) a w=>∃ out_22,∃ t_23,s = (out_22,t_23)∧Fr a 55 [(0,s1.v),(3,(.pointer (some ⟨b3,0,none⟩))),(5,(strV out_22)),(12,s6.v),(13,(iV (goLen t_4))),(14,(iV t_8)),(35,s21.v),(36,(iV (goLen t_19))),(37,(iV t_23))]∧St [] w0 w m [q21,q6,[⟨b3,[s2.v],27⟩]]) (fun (out_30 : (List UInt8)) e a w=>e = .exit 2∧Fr a 55 [(0,s1.v),(3,(.pointer (some ⟨b3,0,none⟩))),(5,(strV out_30)),(12,s6.v),(13,(iV (goLen t_4))),(14,(iV t_8))]∧St [] w0 w m [q6,[⟨b3,[s2.v],27⟩]]) hl5 ⟨_,_,rfl,hF.sub ⟨rfl,rfl,rfl,rfl,rfl,rfl,rfl,rfl,rfl,trivial⟩,hS⟩ ?_ ?_
    ·clear hF hS
     rintro s a w st ⟨out_22,t_23,rfl,hF,hS⟩ hb5
     unfold spec_eText_l2 at hb5
     refine q_seq (q_region (q_x (v:=(.bool (decide (t_23 < (goLen t_19))))) hF hS (ex_ibin rfl rfl rfl) rfl rfl fun a hF=>q_end (n_sq (q_seq ?_))))
     rcases bcase (decide (t_23 < (goLen t_19))) with hc6 | hc6
     ·have hb5:=cond_f hc6 hb5
      refine q_cond_f hF rfl hc6 (q_exit (x_sq ?_))
      obtain rfl:=someI hb5
      exact ⟨nofun,.inl ⟨rfl,hF.sub ⟨rfl,rfl,rfl,rfl,rfl,rfl,trivial⟩,hS.mask [false,true,true]⟩⟩
     ·have hb5:=cond_t hc6 hb5
      refine q_cond_t hF rfl hc6 (q_skipc (n_sq (q_seq (q_block (q_seq (q_region (q_x (v:=(iV t_23)) hF hS (ex_move rfl) rfl rfl fun a hF=>?_)))))))
      obtain ⟨e_24,he_24,hb5⟩:=bindS hb5
      obtain ⟨vs25,at25,d25⟩:=h21.at he_24 1 rfl
      obtain rfl : vs25 = [(iV e_24)]:=d25
      refine q_x (v:=(elP s21 (t_23.toNat * 1))) hF hS (ex_indexAddr Tryd.underlying25 sz3 rfl rfl (h21.idx he_24)) rfl rfl fun a hF=>q_x (v:=(iV e_24)) hF hS (ex_loadE1 0 Tryd.underlying3 rfl rfl (at25.at 0 rfl) rfl rfl) rfl rfl fun a hF=>q_x (v:=(iV t_23)) hF hS (ex_assign rfl) rfl rfl fun a hF=>q_x (v:=(iV e_24)) hF hS (ex_assign rfl) rfl rfl fun a hF=>q_end (n_sq (q_seq (q_seq (q_region (q_x (v:=(iV t_23)) hF hS (ex_move rfl) rfl rfl fun a hF=>q_x (v:=(.bool (decide (0 < t_23)))) hF hS (ex_ibin rfl rfl rfl) rfl rfl fun a hF=>q_end (n_sq ?_))))))
      obtain ⟨out_27,hj7,hb5⟩:=bindS hb5
      refine q_join (fun a w=>Fr a 55 [(0,s1.v),(3,(.pointer (some ⟨b3,0,none⟩))),(5,(strV out_27)),(9,(iV e_24)),(12,s6.v),(13,(iV (goLen t_4))),(14,(iV t_8)),(35,s21.v),(36,(iV (goLen t_19))),(37,(iV t_23))]∧St [] w0 w m [q6,q21,[⟨b3,[s2.v],27⟩]]) ?_ ?_
      ·rcases bcase (decide (0 < t_23)) with hc8 | hc8
       ·have hj7:=cond_f hc8 hj7
        refine q_cond_f hF rfl hc8 (q_skipc (n_jn ?_))
        obtain rfl:=someI hj7
        exact ⟨hF.sub ⟨rfl,rfl,rfl,rfl,rfl,rfl,rfl,rfl,rfl,rfl,trivial⟩,hS.sel [1,0,2] (by decide)⟩
       ·have hj7:=cond_t hc8 hj7
        refine q_cond_t hF rfl hc8 (q_region (q_x (v:=(strV out_22)) hF hS (ex_move rfl) rfl rfl fun a hF=>?_))
        obtain ⟨t_26,ht_26,hj7⟩:=bindS hj7
        refine q_x (v:=(strV t_26)) hF hS (ex_strCat rfl rfl ht_26) rfl rfl fun a hF=>q_x (v:=(strV t_26)) hF hS (ex_assign rfl) rfl rfl fun a hF=>q_end (n_jn ?_)
        obtain rfl:=someI hj7
        exact ⟨hF.sub ⟨rfl,rfl,rfl,rfl,rfl,rfl,rfl,rfl,rfl,rfl,trivial⟩,hS.sel [1,0,2] (by decide)⟩
      ·rintro a w ⟨hF,hS⟩
       refine n_sq ?_
       refine q_region (q_x (v:=(strV out_27)) hF hS (ex_move rfl) rfl rfl fun a hF=>q_x (v:=(iV e_24)) hF hS (ex_move rfl) rfl rfl fun a hF=>?_)
       obtain ⟨t_28,ht_28,hb5⟩:=bindS hb5
       refine q_call (vs:=[(iV e_24)]) hF hS Tryd.func59 (by kernel_rfl) rfl rfl rfl (c_spec_l1Num e_24 t_28 ht_28 _ m hS.vis) ?_
       rintro a w _ rfl hF hS
       obtain ⟨t_29,ht_29,hb5⟩:=bindS hb5
       refine q_x (v:=(strV t_29)) hF hS (ex_strCat rfl rfl ht_29) rfl rfl fun a hF=>q_x (v:=(strV t_29)) hF hS (ex_assign rfl) rfl rfl fun a hF=>q_end (n_ib (n_sq (q_region (q_x (v:=(iV (w64 (t_23 + 1)))) hF hS (ex_ibin rfl rfl rfl) rfl rfl fun a hF=>q_x (v:=(iV (w64 (t_23 + 1)))) hF hS (ex_move rfl) rfl rfl fun a hF=>q_end ?_))))
       obtain rfl:=someI hb5
       exact ⟨rfl,_,_,rfl,hF.sub ⟨rfl,rfl,rfl,rfl,rfl,rfl,rfl,rfl,rfl,trivial⟩,hS.sel [1,0,2] (by decide)⟩
    ·rintro e a w ⟨rfl,hF,hS⟩
     refine x_ib (n_ib (n_sq ?_))
     refine q_region (q_x (v:=(iV (w64 (t_8 + 1)))) hF hS (ex_ibin rfl rfl rfl) rfl rfl fun a hF=>q_x (v:=(iV (w64 (t_8 + 1)))) hF hS (ex_move rfl) rfl rfl fun a hF=>q_end ?_)
     obtain rfl:=someI hb1
     exact ⟨rfl,_,_,rfl,hF.sub ⟨rfl,rfl,rfl,rfl,rfl,rfl,trivial⟩,hS⟩
 ·rintro e a w ⟨rfl,hF,hS⟩
  refine x_ib (n_sq ?_)
  refine q_seq (q_seq (q_region (q_x (v:=(strV out_31)) hF hS (ex_move rfl) rfl rfl fun a hF=>q_x (v:=(.bool (out_31 == ([] : List UInt8)))) hF hS (ex_strEq rfl rfl) rfl rfl fun a hF=>q_end (n_sq ?_))))
  rcases bcase (out_31 == ([] : List UInt8)) with hc9 | hc9
  ·have hr:=cond_f hc9 hr
   refine q_cond_f hF rfl hc9 (q_skipc (n_sq (q_seq (q_region (q_x (v:=(strV out_31)) hF hS (ex_move rfl) rfl rfl fun a hF=>q_x (v:=(strV out_31)) hF hS (ex_assign rfl) rfl rfl fun a hF=>q_end (n_sq (q_ret ?_)))))))
   obtain rfl:=someI hr
   exact ret_of hF hS rfl (.tmp rfl .nil) rfl
  ·have hr:=cond_t hc9 hr
   refine q_cond_t hF rfl hc9 (q_seq (q_region (q_x (v:=(strV ([97,108,108] : List UInt8))) hF hS (ex_assign rfl) rfl rfl fun a hF=>q_end (n_sq (q_ret (r_sq ?_))))))
   obtain rfl:=someI hr
   exact ret_of hF hS rfl (.tmp rfl .nil) rfl

theorem c_spec_EditText (p_s : List impl_Variable) (p_e : impl_Edit) (r : (List UInt8) × Bool) (hr : spec_EditText p_s p_e = some r) (w0 : World) (m : Mem) (hv : Vis m w0) (s1 : Sl) (h1 : Rd m s1 p_s) (s2 : Sl) (h2 : Rd m s2 p_e.Sets) :
  Ret Tryd.prog 15 [s1.v,(.agg #[s2.v])] w0 (fun v _=>v = (.tuple #[(strV r.1),(.bool r.2)])):=by
 unfold spec_EditText at hr
 refine ret_start Tryd.func15 rfl 14 rfl rfl m hv fun a hF hS=>q_seq (q_region (q_box (cs:=[s2.v]) hF hS rfl rfl rfl fun a w b3 hF hS=>q_x (v:=(strV ([] : List UInt8))) hF hS (ex_assign rfl) rfl rfl fun a hF=>q_x (v:=(.bool false)) hF hS (ex_assign rfl) rfl rfl fun a hF=>q_end (n_sq (q_seq (q_seq (q_region (q_x (v:=s1.v) hF hS (ex_move rfl) rfl rfl fun a hF=>q_x (v:=(.agg #[s2.v])) hF hS (ex_loadA (vs:=[s2.v]) 0 0 Tryd.underlying27 rfl sz27 rfl rfl rfl rfl) rfl rfl fun a hF=>q_do rfl fun _ hK=>wp_buildSlice' (l:=([p_e] : List impl_Edit)) (cells:=[s2.v]) hF hS Tryd.underlying49 inf27 rfl rfl (by kernel_rfl) rfl rfl rfl ⟨⟨s2,rfl,h2⟩,rfl⟩ rfl rfl fun a w q4 s4 hF hS h4 _=>hK _ _ ?_)))))))
 obtain ⟨m6,hl6,hv6,hz6⟩:=hS.lend
 obtain ⟨t_5,ht_5,hr⟩:=bindS hr
 refine q_call (vs:=[s1.v,s4.v]) hF hS Tryd.func23 (by kernel_rfl) rfl rfl rfl (c_spec_eList p_s ([p_e] : List impl_Edit) t_5 ht_5 _ m6 hv6 s1 (h1.mono hl6) s4 (h4.froz hl6 (hz6 0 _ rfl))) ?_
 rintro a w _ rfl hF hS
 refine q_x (v:=(.bool (!t_5))) hF hS (ex_not rfl) rfl rfl fun a hF=>q_end (n_sq ?_)
 rcases bcase (!t_5) with hc1 | hc1
 ·have hr:=cond_f hc1 hr
  refine q_cond_f hF rfl hc1 (q_skipc (n_sq (q_seq (q_region (q_x (v:=s1.v) hF hS (ex_move rfl) rfl rfl fun a hF=>q_x (v:=(.agg #[s2.v])) hF hS (ex_loadA (vs:=[s2.v]) 1 0 Tryd.underlying27 rfl sz27 rfl rfl rfl rfl) rfl rfl fun a hF=>?_)))))
  obtain ⟨t_7,ht_7,hr⟩:=bindS hr
  refine q_call (vs:=[s1.v,(.agg #[s2.v])]) hF hS Tryd.func36 (by kernel_rfl) rfl rfl rfl (c_spec_eText p_s p_e t_7 ht_7 _ m hS.vis s1 h1 s2 h2) ?_
  rintro a w _ rfl hF hS
  refine q_x (v:=(strV t_7)) hF hS (ex_assign rfl) rfl rfl fun a hF=>q_x (v:=(.bool true)) hF hS (ex_assign rfl) rfl rfl fun a hF=>q_end (n_sq (q_ret ?_))
  obtain rfl:=someI hr
  exact ret_of hF hS rfl (.tmp rfl (.tmp rfl .nil)) rfl
 ·have hr:=cond_t hc1 hr
  refine q_cond_t hF rfl hc1 (q_seq (q_region (q_x (v:=(strV ([] : List UInt8))) hF hS (ex_assign rfl) rfl rfl fun a hF=>q_x (v:=(.bool false)) hF hS (ex_assign rfl) rfl rfl fun a hF=>q_end (n_sq (q_ret (r_sq ?_))))))
  obtain rfl:=someI hr
  exact ret_of hF hS rfl (.tmp rfl (.tmp rfl .nil)) rfl

theorem c_impl_nameIndex_1 (p_v : impl_Variable) (p_x1 : List UInt8) (r : Bool) (hr : impl_nameIndex_1 p_v p_x1 = some r) (w0 : World) (m : Mem) (b_p_x1 : Nat) (X : List Nat) (hS : St X w0 w0 m [[⟨b_p_x1,[(strV p_x1)],9⟩]]) :
  RetX Tryd.prog 63 [(.agg #[(strV p_v.Name),(iV p_v.Levels)]),(.pointer (some ⟨b_p_x1,0,none⟩))] w0 (fun v w=>v = (.bool r)∧St X w0 w m [[⟨b_p_x1,[(strV p_x1)],9⟩]]):=by
 unfold impl_nameIndex_1 at hr
 refine ret_startX Tryd.func63 rfl 8 rfl rfl fun a hF=>q_seq (q_region (q_box (cs:=[(strV p_v.Name),(iV p_v.Levels)]) hF hS rfl rfl rfl fun a w b1 hF hS=>q_x (v:=(.bool false)) hF hS (ex_assign rfl) rfl rfl fun a hF=>q_end (n_sq (q_seq (q_region (q_x (v:=(.pointer (some ⟨b1,0,none⟩))) hF hS (ex_fieldAddr Tryd.underlying63 rfl sz9 rfl rfl) rfl rfl fun a hF=>q_x (v:=(strV p_v.Name)) hF hS (ex_load1 0 0 Tryd.underlying9 rfl rfl rfl rfl) rfl rfl fun a hF=>q_x (v:=(strV p_x1)) hF hS (ex_load1 1 0 Tryd.underlying9 rfl rfl rfl rfl) rfl rfl fun a hF=>q_x (v:=(.bool (p_v.Name == p_x1))) hF hS (ex_strEq rfl rfl) rfl rfl fun a hF=>q_x (v:=(.bool (p_v.Name == p_x1))) hF hS (ex_assign rfl) rfl rfl fun a hF=>q_end (n_sq (q_ret ?_))))))))
 obtain rfl:=someI hr
 exact ret_ofX hF hS rfl (.tmp rfl .nil) ⟨rfl,hS.sel [1] (by decide)⟩

theorem c_slices_IndexFunc_impl_Variable_impl_Variable_of_impl_nameIndex_1 (p_s : List impl_Variable) (p_x200 : List UInt8) (r : Int) (hr : slices_IndexFunc_impl_Variable_impl_Variable_of_impl_nameIndex_1 p_s p_x200 = some r) (w0 : World) (m : Mem) (b_p_x200 : Nat) (s1 : Sl) (h1 : Rd m s1 p_s) (X : List Nat) (hS : St X w0 w0 m [[⟨b_p_x200,[(strV p_x200)],9⟩]]) :
  RetX Tryd.prog 62 [s1.v,(.func (.func 63) #[] #[(.pointer (some ⟨b_p_x200,0,none⟩))])] w0 (fun v w=>v = (iV r)∧St X w0 w m [[⟨b_p_x200,[(strV p_x200)],9⟩]]):=by
 unfold slices_IndexFunc_impl_Variable_impl_Variable_of_impl_nameIndex_1 at hr
 refine ret_startX Tryd.func62 rfl 19 rfl rfl fun a hF=>q_seq (q_region (q_x (v:=(iV 0)) hF hS (ex_assign rfl) rfl rfl fun a hF=>q_end (n_sq (q_seq (q_seq (q_region (q_x (v:=s1.v) hF hS (ex_move rfl) rfl rfl fun a hF=>q_x (v:=(iV (goLen p_s))) hF hS (ex_len Tryd.underlying24 rfl h1.len) rfl rfl fun a hF=>q_x (v:=(iV 0)) hF hS (ex_move rfl) rfl rfl fun a hF=>q_end (n_sq (q_block ?_)))))))))
 obtain ⟨o1,hl1,hr⟩:=bindS hr
 refine q_loop (fun (t_2 : Int) a w=>Fr a 19 [(0,s1.v),(1,(.func (.func 63) #[] #[(.pointer (some ⟨b_p_x200,0,none⟩))])),(7,(iV (goLen p_s))),(8,(iV t_2))]∧St X w0 w m [[⟨b_p_x200,[(strV p_x200)],9⟩]]) (fun (o : (Unit) ⊕ (Int)) e a w=>o = .inl ()∧e = .exit 0∧Fr a 19 []∧St X w0 w m [[⟨b_p_x200,[(strV p_x200)],9⟩]]) hl1 ⟨hF.sub ⟨rfl,rfl,rfl,rfl,trivial⟩,hS⟩ ?_ ?_
 ·clear hF hS
  rintro t_2 a w st ⟨hF,hS⟩ hb1
  unfold slices_IndexFunc_impl_Variable_impl_Variable_of_impl_nameIndex_1_l1 at hb1
  refine q_seq (q_region (q_x (v:=(.bool (decide (t_2 < (goLen p_s))))) hF hS (ex_ibin rfl rfl rfl) rfl rfl fun a hF=>q_end (n_sq (q_seq ?_))))
  rcases bcase (decide (t_2 < (goLen p_s))) with hc2 | hc2
  ·have hb1:=cond_f hc2 hb1
   refine q_cond_f hF rfl hc2 (q_exit (x_sq ?_))
   obtain rfl:=someI hb1
   exact ⟨nofun,.inl ⟨rfl,rfl,hF.sub trivial,hS⟩⟩
  ·have hb1:=cond_t hc2 hb1
   refine q_cond_t hF rfl hc2 (q_skipc (n_sq (q_seq (q_block (q_seq (q_region (q_x (v:=(iV t_2)) hF hS (ex_move rfl) rfl rfl fun a hF=>q_x (v:=(iV t_2)) hF hS (ex_assign rfl) rfl rfl fun a hF=>q_end (n_sq (q_seq (q_region (q_x (v:=(.func (.func 63) #[] #[(.pointer (some ⟨b_p_x200,0,none⟩))])) hF hS (ex_move rfl) rfl rfl fun a hF=>q_x (v:=s1.v) hF hS (ex_move rfl) rfl rfl fun a hF=>q_x (v:=(iV t_2)) hF hS (ex_move rfl) rfl rfl fun a hF=>?_)))))))))))
   obtain ⟨e_3,he_3,hb1⟩:=bindS hb1
   obtain ⟨vs4,at4,d4⟩:=h1.at he_3 2 rfl
   obtain rfl : vs4 = [(strV e_3.Name),(iV e_3.Levels)]:=d4
   refine q_x (v:=(elP s1 (t_2.toNat * 2))) hF hS (ex_indexAddr Tryd.underlying24 sz63 rfl rfl (h1.idx he_3)) rfl rfl fun a hF=>q_x (v:=(.agg #[(strV e_3.Name),(iV e_3.Levels)])) hF hS (ex_loadEA (us:=[(strV e_3.Name),(iV e_3.Levels)]) 0 Tryd.underlying63 rfl sz63 rfl ((at4).at) rfl rfl rfl) rfl rfl fun a hF=>?_
   have hS5 : St _ _ _ _ ([[⟨b_p_x200,[(strV p_x200)],9⟩]]++[]):=hS
   have hE5:=hS5.enter
   obtain ⟨t_6,ht_6,hb1⟩:=bindS hb1
   refine q_do rfl fun _ hK=>wp_callV (vs:=[(.agg #[(strV e_3.Name),(iV e_3.Levels)])]) (cap:=[(.pointer (some ⟨b_p_x200,0,none⟩))]) hF rfl Tryd.func63 (by kernel_rfl) rfl rfl rfl (c_impl_nameIndex_1 e_3 p_x200 t_6 ht_6 _ m b_p_x200 _ hE5) fun a w _ hR hF=>hK _ _ ?_
   obtain ⟨rfl,hR5⟩:=hR
   have hS : St _ _ _ _ [[⟨b_p_x200,[(strV p_x200)],9⟩]]:=hS5.leaveF hR5
   refine q_end (n_sq ?_)
   rcases bcase (t_6) with hc3 | hc3
   ·have hb1:=cond_f hc3 hb1
    refine q_cond_f hF rfl hc3 (q_skipc (n_ib (n_sq (q_region (q_x (v:=(iV (w64 (t_2 + 1)))) hF hS (ex_ibin rfl rfl rfl) rfl rfl fun a hF=>q_x (v:=(iV (w64 (t_2 + 1)))) hF hS (ex_move rfl) rfl rfl fun a hF=>q_end ?_)))))
    obtain rfl:=someI hb1
    exact ⟨rfl,hF.sub ⟨rfl,rfl,rfl,rfl,trivial⟩,hS⟩
   ·have hb1:=cond_t hc3 hb1
    refine q_cond_t hF rfl hc3 (q_seq (q_region (q_x (v:=(iV t_2)) hF hS (ex_move rfl) rfl rfl fun a hF=>q_x (v:=(iV t_2)) hF hS (ex_assign rfl) rfl rfl fun a hF=>q_end (n_sq (q_ret (r_ib (r_sq ?_)))))))
    obtain rfl:=someI hb1
    refine ⟨nofun,.inr fun ho=>?_⟩
    subst ho
    refine r_ib (r_sq ?_)
    obtain rfl:=someI hr
    exact ret_ofX hF hS rfl (.tmp rfl .nil) ⟨rfl,hS.sel [0] (by decide)⟩
 ·rintro e a w ⟨rfl,rfl,hF,hS⟩
  refine x_ib (n_sq ?_)
  refine q_seq (q_region (q_x (v:=(iV (-1))) hF hS (ex_assign rfl) rfl rfl fun a hF=>q_end (n_sq (q_ret ?_))))
  obtain rfl:=someI hr
  exact ret_ofX hF hS rfl (.tmp rfl .nil) ⟨rfl,hS.sel [0] (by decide)⟩

theorem c_impl_nameIndex (p_s : List impl_Variable) (p_name : List UInt8) (r : Int) (hr : impl_nameIndex p_s p_name = some r) (w0 : World) (m : Mem) (hv : Vis m w0) (s1 : Sl) (h1 : Rd m s1 p_s) :
  Ret Tryd.prog 40 [s1.v,(strV p_name)] w0 (fun v _=>v = (iV r)):=by
 unfold impl_nameIndex at hr
 refine ret_start Tryd.func40 rfl 8 rfl rfl m hv fun a hF hS=>q_seq (q_region (q_box (cs:=[(strV p_name)]) hF hS rfl rfl rfl fun a w b2 hF hS=>q_x (v:=(iV 0)) hF hS (ex_assign rfl) rfl rfl fun a hF=>q_end (n_sq (q_seq (q_region (q_x (v:=s1.v) hF hS (ex_move rfl) rfl rfl fun a hF=>q_x (v:=(.func (.func 63) #[] #[(.pointer (some ⟨b2,0,none⟩))])) hF hS (ex_makeFunc rfl) rfl rfl fun a hF=>?_))))))
 have hS3 : St _ _ _ _ ([[⟨b2,[(strV p_name)],9⟩]]++[]):=hS
 have hE3:=hS3.enter
 obtain ⟨t_4,ht_4,hr⟩:=bindS hr
 refine q_do rfl fun _ hK=>wp_callX (vs:=[s1.v,(.func (.func 63) #[] #[(.pointer (some ⟨b2,0,none⟩))])]) hF Tryd.func62 (by kernel_rfl) rfl rfl rfl (c_slices_IndexFunc_impl_Variable_impl_Variable_of_impl_nameIndex_1 p_s p_name t_4 ht_4 _ m b2 s1 h1 _ hE3) fun a w _ hR hF=>hK _ _ ?_
 obtain ⟨rfl,hR3⟩:=hR
 have hS : St _ _ _ _ [[⟨b2,[(strV p_name)],9⟩]]:=hS3.leaveF hR3
 refine q_x (v:=(iV t_4)) hF hS (ex_assign rfl) rfl rfl fun a hF=>q_end (n_sq (q_ret ?_))
 obtain rfl:=someI hr
 exact ret_of hF hS rfl (.tmp rfl .nil) rfl

theorem c_impl_parseSet (p_text : List UInt8) (p_levels : Int) (r : Int) (hr : impl_parseSet p_text p_levels = some r) (w0 : World) (m : Mem) (hv : Vis m w0) :
  Ret Tryd.prog 41 [(strV p_text),(iV p_levels)] w0 (fun v _=>v = (iV r)):=by
 unfold impl_parseSet at hr
 refine ret_startM Tryd.func41 rfl 33 rfl rfl m hv fun a hF hS hM=>q_seq (q_region (q_box (cs:=[(iV p_levels)]) hF hS rfl rfl rfl fun a w b1 hF hS=>q_alloc (cs:=[(iV 0)]) hF hS rfl rfl rfl fun a w b2 hF hS=>q_end (n_sq (q_seq (q_region (q_alloc (cs:=[(iV 0)]) hF hS rfl rfl rfl fun a w b3 hF hS=>q_alloc (cs:=[(iV 0)]) hF hS rfl rfl rfl fun a w b4 hF hS=>q_store (vs:=[(iV 0)]) (cs':=[(iV 0)]) 1 0 hF hS sz3 rfl rfl rfl rfl rfl rfl rfl rfl fun a w hF hS=>q_store (vs:=[(iV (-1))]) (cs':=[(iV (-1))]) 0 0 hF hS sz3 rfl rfl rfl rfl rfl rfl rfl rfl fun a w hF hS=>q_end (n_sq (q_seq (q_seq (q_region (q_x (v:=(strV p_text)) hF hS (ex_move rfl) rfl rfl fun a hF=>?_)))))))))))
 obtain ⟨u5,hu5,hr⟩:=bindS hr
 refine q_call (vs:=[(strV p_text),(strV ([44] : List UInt8))]) hF hS Tryd.func38 (by kernel_rfl) rfl rfl rfl (c_strings_SplitSeq p_text 44 m hS.vis) ?_
 rintro a w _ ⟨b5x,b5y,b5z,rfl,hR5⟩ hF hS2
 have hS : St _ _ _ _ [(PitS 44 p_text b5x b5y b5z),[⟨b4,[(iV (-1))],3⟩],[⟨b3,[(iV 0)],3⟩],[⟨b2,[(iV 0)],3⟩],[⟨b1,[(iV p_levels)],3⟩]]:=hS.joinF hR5
 refine q_end (n_sq (q_block ?_))
 obtain ⟨o1,hl1,hr⟩:=bindS hr
 refine q_rangeG (m0:=fun _=>none) (L:=[(3,(.pointer (some ⟨b1,0,none⟩))),(4,(.pointer (some ⟨b2,0,none⟩))),(5,(.pointer (some ⟨b3,0,none⟩))),(6,(.pointer (some ⟨b4,0,none⟩)))]) (fun (s : Int × Int) (m_ : Mem) (O_ : List Piece)=>∃ last_6,∃ set_7,(last_6,set_7) = s∧m = m_∧[[⟨b4,[(iV last_6)],3⟩],[⟨b3,[(iV set_7)],3⟩],[⟨b2,[(iV 0)],3⟩],[⟨b1,[(iV p_levels)],3⟩]] = O_) (fun (o : Unit) (m_ : Mem) (O_ : List Piece)=>() = o∧m = m_∧[[⟨b2,[(iV 0)],3⟩]] = O_) hl1 hF ⟨rfl,rfl,rfl,rfl,trivial⟩ rfl Tryd.func71 (by kernel_rfl) rfl rfl rfl (it_split 44 p_text b5x b5y b5z (goSpl_lt hu5)) (hM.back hS).kept.size (fun _ _ h=>nomatch h) ⟨_,_,⟨_,_,rfl,rfl,rfl⟩,hM.sf (hS)⟩ ?_ ?_ ?_
 ·clear hF hS
  rintro lr Z8 p_8 _ q8 a w8 st _ _ hF ⟨last_6,set_7,rfl,rfl,rfl⟩ ⟨X8,hM8,hS⟩ hb1
  unfold impl_parseSet_l1 at hb1
  refine rr_block ?_
  refine rr_seq ?_
  refine rr_seq ?_
  refine rr_region rfl ?_
  refine q_x (v:=(strV p_8)) hF hS (ex_move rfl) rfl rfl fun a hF=>q_x (v:=(iV (goLen p_8))) hF hS (ex_strLen Tryd.underlying9 rfl) rfl rfl fun a hF=>q_x (v:=(.bool ((goLen p_8) != 1))) hF hS (ex_ibin rfl rfl rfl) rfl rfl fun a hF=>rr_end (rn_sq ?_)
  rcases bcase ((goLen p_8) != 1) with hc2 | hc2
  ·have hb1:=cond_f hc2 hb1
   refine rr_cond_f hF rfl hc2 ?_
   refine rr_skipc (rn_sq ?_)
   refine rr_seq ?_
   refine rr_region rfl ?_
   refine q_x (v:=(strV p_8)) hF hS (ex_move rfl) rfl rfl fun a hF=>?_
   obtain ⟨t_9,ht_9,hb1⟩:=bindS hb1
   refine q_x (v:=(.int .u8 t_9)) hF hS (ex_strIdx Tryd.underlying9 rfl rfl ht_9) rfl rfl fun a hF=>q_x (v:=(iV (w64 t_9))) hF hS (ex_conv Tryd.underlying5 Tryd.underlying3 rfl) rfl rfl fun a hF=>q_x (v:=(iV (w64 ((w64 t_9) - 48)))) hF hS (ex_ibin rfl rfl rfl) rfl rfl fun a hF=>q_x (v:=(iV (w64 ((w64 t_9) - 48)))) hF hS (ex_assign rfl) rfl rfl fun a hF=>rr_end (rn_sq (rr_seq (rr_seq ?_)))
   obtain ⟨t_10,hj3,hb1⟩:=bindS hb1
   refine rr_join (fun a w=>Fr a 33 [(3,(.pointer (some ⟨b1,0,none⟩))),(4,(.pointer (some ⟨b2,0,none⟩))),(5,(.pointer (some ⟨b3,0,none⟩))),(6,(.pointer (some ⟨b4,0,none⟩))),(8,(iV (w64 ((w64 t_9) - 48)))),(26,(.bool t_10))]∧St X8 w8 w m [q8,[⟨b4,[(iV last_6)],3⟩],[⟨b3,[(iV set_7)],3⟩],[⟨b2,[(iV 0)],3⟩],[⟨b1,[(iV p_levels)],3⟩]]) ?_ ?_
   ·refine rr_region rfl ?_
    refine q_x (v:=(iV (w64 ((w64 t_9) - 48)))) hF hS (ex_move rfl) rfl rfl fun a hF=>q_x (v:=(iV last_6)) hF hS (ex_load1 1 0 Tryd.underlying3 rfl rfl rfl rfl) rfl rfl fun a hF=>q_x (v:=(.bool (decide ((w64 ((w64 t_9) - 48)) ≤ last_6)))) hF hS (ex_ibin rfl rfl rfl) rfl rfl fun a hF=>q_x (v:=(.bool (decide ((w64 ((w64 t_9) - 48)) ≤ last_6)))) hF hS (ex_move rfl) rfl rfl fun a hF=>?_
    rcases bcase (decide ((w64 ((w64 t_9) - 48)) ≤ last_6)) with hc4 | hc4
    ·have hj3:=cond_f hc4 hj3
     refine q_xg (v:=(iV (w64 ((w64 t_9) - 48)))) hF hS (ex_move rfl) (wanted_t hF rfl rfl rfl hc4) rfl fun a hF=>q_xg (v:=(iV p_levels)) hF hS (ex_load1 4 0 Tryd.underlying3 rfl rfl rfl rfl) (wanted_t hF rfl rfl rfl hc4) rfl fun a hF=>q_xg (v:=(.bool (decide (p_levels ≤ (w64 ((w64 t_9) - 48)))))) hF hS (ex_ibin rfl rfl rfl) (wanted_t hF rfl rfl rfl hc4) rfl fun a hF=>q_x (v:=(.bool (decide (p_levels ≤ (w64 ((w64 t_9) - 48)))))) hF hS (ex_pick_f rfl rfl hc4) rfl rfl fun a hF=>rr_end (n_jn ?_)
     obtain rfl:=someI hj3
     exact ⟨hF.sub ⟨rfl,rfl,rfl,rfl,rfl,rfl,trivial⟩,hS⟩
    ·have hj3:=cond_t hc4 hj3
     refine q_skip hF (wanted_f hF rfl rfl rfl hc4 rfl) rfl fun a hF=>q_skip hF (wanted_f hF rfl rfl rfl hc4 rfl) rfl fun a hF=>q_skip hF (wanted_f hF rfl rfl rfl hc4 rfl) rfl fun a hF=>q_x (v:=(.bool true)) hF hS (ex_pick_t rfl rfl hc4) rfl rfl fun a hF=>rr_end (n_jn ?_)
     obtain rfl:=someI hj3
     exact ⟨hF.sub ⟨rfl,rfl,rfl,rfl,rfl,rfl,trivial⟩,hS⟩
   ·rintro a w ⟨hF,hS⟩
    refine rn_sq ?_
    rcases bcase (t_10) with hc5 | hc5
    ·have hb1:=cond_f hc5 hb1
     refine rr_cond_f hF rfl hc5 ?_
     refine rr_skipc (rn_sq ?_)
     refine rr_seq ?_
     refine rr_eregion ⟨[4],[]⟩ mixed rfl fun w' hw'=>?_
     have hS:=hS.below hw'
     refine e_x (v:=(iV set_7)) 0 hF hS rfl (ex_load1 2 0 Tryd.underlying3 rfl rfl rfl rfl) rfl rfl (by kernel_rfl) (by kernel_rfl) (by kernel_rfl) (by kernel_rfl) fun a hF=>e_p (v:=(iV (w64 ((w64 t_9) - 48)))) 1 hF rfl (ex_move rfl) rfl rfl (by kernel_rfl) (by kernel_rfl) (by kernel_rfl) fun a hF=>?_
     obtain ⟨t_11,ht_11,hb1⟩:=bindS hb1
     refine e_p (v:=(iV t_11)) 2 hF rfl (ex_shl rfl rfl ht_11) rfl rfl (by kernel_rfl) (by kernel_rfl) (by kernel_rfl) fun a hF=>e_p (v:=(iV (goBits .or .i64 set_7 t_11))) 3 hF rfl (ex_bits rfl rfl rfl) rfl rfl (by kernel_rfl) (by kernel_rfl) (by kernel_rfl) fun a hF=>e_one 4 (by kernel_rfl) (e_store (vs:=[(iV (goBits .or .i64 set_7 t_11))]) (cs':=[(iV (goBits .or .i64 set_7 t_11))]) 2 0 hF hS rfl rfl sz3 rfl rfl rfl rfl rfl rfl rfl rfl fun a w hF hS=>⟨kpN,?_⟩)
     refine e_end (by kernel_rfl) (rn_sq ?_) _
     refine rr_region rfl ?_
     refine q_x (v:=(iV (w64 ((w64 t_9) - 48)))) hF hS (ex_move rfl) rfl rfl fun a hF=>q_store (vs:=[(iV (w64 ((w64 t_9) - 48)))]) (cs':=[(iV (w64 ((w64 t_9) - 48)))]) 1 0 hF hS sz3 rfl rfl rfl rfl rfl rfl rfl rfl fun a w hF hS=>rr_end (n_ib ?_)
     obtain rfl:=someI hb1
     exact ⟨fun k r h=>hM8.kp hS h (fun _ _ _=>nofun),rfl,_,_,⟨_,_,rfl,rfl,rfl⟩,hM8.sf (hS)⟩
    ·have hb1:=cond_t hc5 hb1
     refine rr_cond_t hF rfl hc5 ?_
     refine rr_seq ?_
     refine rr_region rfl ?_
     refine q_store (vs:=[(iV 0)]) (cs':=[(iV 0)]) 3 0 hF hS sz3 rfl rfl rfl rfl rfl rfl rfl rfl fun a w hF hS=>rr_end (rn_sq (rr_ret (rret_sq (r_ib ?_))))
     obtain rfl:=someI hb1
     exact ⟨fun k r h=>hM8.kp hS h (fun _ _ _=>nofun),rfl,_,_,⟨rfl,rfl,rfl⟩,hM8.sf (hS.mask [true,false,false,true,false])⟩
  ·have hb1:=cond_t hc2 hb1
   refine rr_cond_t hF rfl hc2 ?_
   refine rr_seq ?_
   refine rr_region rfl ?_
   refine q_store (vs:=[(iV 0)]) (cs':=[(iV 0)]) 3 0 hF hS sz3 rfl rfl rfl rfl rfl rfl rfl rfl fun a w hF hS=>rr_end (rn_sq (rr_ret (rret_sq (r_ib ?_))))
   obtain rfl:=someI hb1
   exact ⟨fun k r h=>hM8.kp hS h (fun _ _ _=>nofun),rfl,_,_,⟨rfl,rfl,rfl⟩,hM8.sf (hS.mask [true,false,false,true,false])⟩
 ·rintro Z12 a w12 _ q12 _ _ hF ⟨last_6,set_7,rfl,rfl,rfl⟩ ⟨X12,hM12,hS⟩ hr12
  subst hr12
  refine n_ib (n_sq ?_)
  refine q_seq (q_region (q_x (v:=(iV set_7)) hF hS (ex_load1 2 0 Tryd.underlying3 rfl rfl rfl rfl) rfl rfl fun a hF=>q_store (vs:=[(iV set_7)]) (cs':=[(iV set_7)]) 3 0 hF hS sz3 rfl rfl rfl rfl rfl rfl rfl rfl fun a w hF hS=>q_end (n_sq (q_ret ?_))))
  obtain rfl:=someI hr
  exact ret_ofM hM12 hF hS rfl (.cell1 3 0 Tryd.underlying3 rfl rfl rfl rfl .nil) (fun w hS=>rfl)
 ·rintro Z12 a w12 _ q12 _ _ hF ⟨rfl,rfl,rfl⟩ ⟨X12,hM12,hS⟩ hr12
  subst hr12
  refine r_ib (r_sq ?_)
  obtain rfl:=someI hr
  exact ret_ofM hM12 hF hS rfl (.cell1 1 0 Tryd.underlying3 rfl rfl rfl rfl .nil) (fun w hS=>rfl)

theorem c_impl_ParseEdit (p_s : List impl_Variable) (p_t : List UInt8) (r : impl_Edit × Bool) (hr : impl_ParseEdit p_s p_t = some r) (w0 : World) (m : Mem) (hv : Vis m w0) (ht : Tbl m) (s1 : Sl) (h1 : Rd m s1 p_s) :
  Ret Tryd.prog 16 [s1.v,(strV p_t)] w0 (fun v w=>∃ (q0' : Piece) (s0' : Sl),v = (.tuple #[(.agg #[s0'.v]),(.bool r.2)])∧St [] w0 w m [q0']∧OwnL m 3 q0' s0' r.1.Sets):=by
 unfold impl_ParseEdit at hr
 refine ret_startM Tryd.func16 rfl 86 rfl rfl m hv fun a hF hS hM=>q_seq (q_region (q_box (cs:=[s1.v]) hF hS rfl rfl rfl fun a w b2 hF hS=>q_alloc (cs:=[nilS.v]) hF hS rfl rfl rfl fun a w b3 hF hS=>q_alloc (cs:=[(.bool false)]) hF hS rfl rfl rfl fun a w b4 hF hS=>q_end (n_sq (q_seq (q_seq (q_region (q_x (v:=s1.v) hF hS (ex_load1 2 0 Tryd.underlying24 rfl rfl rfl rfl) rfl rfl fun a hF=>?_)))))))
 obtain ⟨t_5,ht_5,hr⟩:=bindS hr
 refine q_call (vs:=[s1.v]) hF hS Tryd.func20 (by kernel_rfl) rfl rfl rfl (c_impl_IsSchema p_s t_5 ht_5 _ m hS.vis s1 h1) ?_
 rintro a w _ rfl hF hS
 refine q_x (v:=(.bool (!t_5))) hF hS (ex_not rfl) rfl rfl fun a hF=>q_end (n_sq ?_)
 rcases bcase (!t_5) with hc1 | hc1
 ·have hr:=cond_f hc1 hr
  refine q_cond_f hF rfl hc1 (q_skipc (n_sq (q_seq (q_region (q_x (v:=s1.v) hF hS (ex_load1 2 0 Tryd.underlying24 rfl rfl rfl rfl) rfl rfl fun a hF=>q_x (v:=(iV (goLen p_s))) hF hS (ex_len Tryd.underlying24 rfl h1.len) rfl rfl fun a hF=>?_)))))
  obtain ⟨l_6,hl_6,hr⟩:=bindS hr
  refine q_do rfl fun _ hK=>wp_make (z:=(0 : Int)) hF hS Tryd.underlying25 inf3 rfl rfl rfl rfl rfl (by decide) hl_6 rfl fun a w q7 s7 hF hS h7 _=>hK _ _ (q_alloc (cs:=[nilS.v]) hF hS rfl rfl rfl fun a w b8 hF hS=>q_store (vs:=[s7.v]) (cs':=[s7.v]) 0 0 hF hS sz25 rfl rfl rfl rfl rfl rfl rfl rfl fun a w hF hS=>q_end (n_sq (q_seq (q_seq (q_region (q_x (v:=s1.v) hF hS (ex_load1 4 0 Tryd.underlying24 rfl rfl rfl rfl) rfl rfl fun a hF=>q_x (v:=(iV (goLen p_s))) hF hS (ex_len Tryd.underlying24 rfl h1.len) rfl rfl fun a hF=>q_x (v:=(iV 0)) hF hS (ex_move rfl) rfl rfl fun a hF=>q_end (n_sq (q_block ?_))))))))
  obtain ⟨sets_19,hl2,hr⟩:=bindS hr
  refine q_loop (fun (s : Int × (List Int)) a w=>∃ (q11 : Piece),∃ t_9,∃ sets_10,s = (t_9,sets_10)∧Fr a 86 [(1,(strV p_t)),(2,(.pointer (some ⟨b2,0,none⟩))),(4,(.pointer (some ⟨b3,0,none⟩))),(5,(.pointer (some ⟨b4,0,none⟩))),(6,(.pointer (some ⟨b8,0,none⟩))),(23,s1.v),(24,(iV (goLen p_s))),(25,(iV t_9))]∧St [] w0 w m [q11,[⟨b8,[s7.v],25⟩],[⟨b4,[(.bool false)],4⟩],[⟨b3,[nilS.v],27⟩],[⟨b2,[s1.v],24⟩]]∧OwnL m 3 q11 s7 sets_10) (fun (sets_19 : (List Int)) e a w=>∃ (q20 : Piece),e = .exit 0∧Fr a 86 [(1,(strV p_t)),(2,(.pointer (some ⟨b2,0,none⟩))),(4,(.pointer (some ⟨b3,0,none⟩))),(5,(.pointer (some ⟨b4,0,none⟩))),(6,(.pointer (some ⟨b8,0,none⟩)))]∧St [] w0 w m [q20,[⟨b8,[s7.v],25⟩],[⟨b4,[(.bool false)],4⟩],[⟨b3,[nilS.v],27⟩],[⟨b2,[s1.v],24⟩]]∧OwnL m 3 q20 s7 sets_19) hl2 ⟨q7,_,_,rfl,hF.sub ⟨rfl,rfl,rfl,rfl,rfl,rfl,rfl,rfl,trivial⟩,hS.sel [1,0,2,3,4] (by decide),h7⟩ ?_ ?_
  ·clear hF hS
   rintro s a w st ⟨q11,t_9,sets_10,rfl,hF,hS,h11⟩ hb2
   unfold impl_ParseEdit_l1 at hb2
   refine q_seq (q_region (q_x (v:=(.bool (decide (t_9 < (goLen p_s))))) hF hS (ex_ibin rfl rfl rfl) rfl rfl fun a hF=>q_end (n_sq (q_seq ?_))))
   rcases bcase (decide (t_9 < (goLen p_s))) with hc3 | hc3
   ·have hb2:=cond_f hc3 hb2
    refine q_cond_f hF rfl hc3 (q_exit (x_sq ?_))
    obtain rfl:=someI hb2
    exact ⟨nofun,.inl ⟨q11,rfl,hF.sub ⟨rfl,rfl,rfl,rfl,rfl,trivial⟩,hS,h11⟩⟩
   ·have hb2:=cond_t hc3 hb2
    refine q_cond_t hF rfl hc3 (q_skipc (n_sq (q_seq (q_block (q_seq (q_region (q_x (v:=(iV t_9)) hF hS (ex_move rfl) rfl rfl fun a hF=>?_)))))))
    obtain ⟨e_12,he_12,hb2⟩:=bindS hb2
    obtain ⟨vs13,at13,d13⟩:=h1.at he_12 2 rfl
    obtain rfl : vs13 = [(strV e_12.Name),(iV e_12.Levels)]:=d13
    refine q_x (v:=(elP s1 (t_9.toNat * 2))) hF hS (ex_indexAddr Tryd.underlying24 sz63 rfl rfl (h1.idx he_12)) rfl rfl fun a hF=>q_x (v:=(.agg #[(strV e_12.Name),(iV e_12.Levels)])) hF hS (ex_loadEA (us:=[(strV e_12.Name),(iV e_12.Levels)]) 0 Tryd.underlying63 rfl sz63 rfl ((at13).at) rfl rfl rfl) rfl rfl fun a hF=>q_alloc (cs:=[(strV ([] : List UInt8)),(iV 0)]) hF hS rfl rfl rfl fun a w b14 hF hS=>q_x (v:=(iV t_9)) hF hS (ex_assign rfl) rfl rfl fun a hF=>q_store (vs:=[(strV e_12.Name),(iV e_12.Levels)]) (cs':=[(strV e_12.Name),(iV e_12.Levels)]) 0 0 hF hS sz63 rfl rfl rfl rfl rfl rfl rfl rfl fun a w hF hS=>q_end (n_sq (e_region ⟨[5],[b8,b14]⟩ mixed fun w' hw'=>?_))
    have hS:=hS.below hw'
    refine e_xb (v:=s7.v) 0 2 hF hS (.head _) rfl rfl (ex_load1 0 0 Tryd.underlying25 rfl rfl rfl rfl) rfl rfl (by kernel_rfl) (by kernel_rfl) (by kernel_rfl) fun a hF=>e_p (v:=(iV t_9)) 1 hF rfl (ex_move rfl) rfl rfl (by kernel_rfl) (by kernel_rfl) (by kernel_rfl) fun a hF=>e_xb (v:=(.agg #[(strV e_12.Name),(iV e_12.Levels)])) 2 0 hF hS (.tail _ (.head _)) rfl rfl (ex_loadA (vs:=[(strV e_12.Name),(iV e_12.Levels)]) 0 0 Tryd.underlying63 rfl sz63 rfl rfl rfl rfl) rfl rfl (by kernel_rfl) (by kernel_rfl) (by kernel_rfl) fun a hF=>e_one 3 (by kernel_rfl) ?_
    obtain ⟨t_15,ht_15,hb2⟩:=bindS hb2
    refine e_call (vs:=[(.agg #[(strV e_12.Name),(iV e_12.Levels)])]) hF hS rfl Tryd.func37 (by kernel_rfl) rfl rfl rfl (c_impl_fullSet e_12 t_15 ht_15 _ m hS.vis) ?_
    rintro a w _ rfl hF hS
    obtain ⟨e_16,he_16,hb2⟩:=bindS hb2
    obtain ⟨vs17,at17,d17⟩:=h11.at he_16 1 rfl
    obtain rfl : vs17 = [(iV e_16)]:=d17
    refine e_p (v:=(elP s7 (t_9.toNat * 1))) 4 hF rfl (ex_indexAddr Tryd.underlying25 sz3 rfl rfl (h11.idx he_16)) rfl rfl (by kernel_rfl) (by kernel_rfl) (by kernel_rfl) fun a hF=>e_one 5 (by kernel_rfl) ?_
    have hS : St _ _ _ _ [q11,[⟨b14,[(strV e_12.Name),(iV e_12.Levels)],63⟩],[⟨b8,[s7.v],25⟩],[⟨b4,[(.bool false)],4⟩],[⟨b3,[nilS.v],27⟩],[⟨b2,[s1.v],24⟩]]:=hS.sel [1,0,2,3,4,5] (by decide)
    have hSo:=hS
    refine e_opl rfl rfl rfl fun _ hK=>wp_storeE (e':=t_15) (us:=[(iV t_15)]) (vs:=[(iV e_16)]) 0 hF hS h11 sz3 rfl rfl rfl rfl rfl rfl rfl he_16 at17 rfl rfl rfl fun w q18 hS h18=>hK _ _ (⟨kpC hSo hS 2 2 rfl rfl (kpC hSo hS 1 1 rfl rfl kpN),?_⟩)
    refine e_end (by kernel_rfl) (n_ib (n_sq ?_)) _
    refine q_region (q_x (v:=(iV (w64 (t_9 + 1)))) hF hS (ex_ibin rfl rfl rfl) rfl rfl fun a hF=>q_x (v:=(iV (w64 (t_9 + 1)))) hF hS (ex_move rfl) rfl rfl fun a hF=>q_end ?_)
    obtain rfl:=someI hb2
    exact ⟨rfl,q18,_,_,rfl,hF.sub ⟨rfl,rfl,rfl,rfl,rfl,rfl,rfl,rfl,trivial⟩,hS.mask [true,false,true,true,true,true],h18⟩
  ·rintro e a w ⟨q20,rfl,hF,hS,h20⟩
   refine x_ib (n_sq ?_)
   refine q_seq (q_seq (q_region (q_x (v:=(strV p_t)) hF hS (ex_move rfl) rfl rfl fun a hF=>q_x (v:=(.bool (p_t == ([97,108,108] : List UInt8)))) hF hS (ex_strEq rfl rfl) rfl rfl fun a hF=>q_end (n_sq ?_))))
   rcases bcase (p_t == ([97,108,108] : List UInt8)) with hc4 | hc4
   ·have hr:=cond_f hc4 hr
    refine q_cond_f hF rfl hc4 (q_skipc (n_sq (q_seq (q_region (q_alloc (cs:=[(iV 0)]) hF hS rfl rfl rfl fun a w b21 hF hS=>q_store (vs:=[(iV (-1))]) (cs':=[(iV (-1))]) 0 0 hF hS sz3 rfl rfl rfl rfl rfl rfl rfl rfl fun a w hF hS=>q_end (n_sq (q_seq (q_seq (q_region (q_x (v:=(strV p_t)) hF hS (ex_move rfl) rfl rfl fun a hF=>?_))))))))))
    obtain ⟨u22,hu22,hr⟩:=bindS hr
    refine q_call (vs:=[(strV p_t),(strV ([32] : List UInt8))]) hF hS Tryd.func38 (by kernel_rfl) rfl rfl rfl (c_strings_SplitSeq p_t 32 m hS.vis) ?_
    rintro a w _ ⟨b22x,b22y,b22z,rfl,hR22⟩ hF hS2
    have hS : St _ _ _ _ [(PitS 32 p_t b22x b22y b22z),[⟨b21,[(iV (-1))],3⟩],q20,[⟨b8,[s7.v],25⟩],[⟨b4,[(.bool false)],4⟩],[⟨b3,[nilS.v],27⟩],[⟨b2,[s1.v],24⟩]]:=hS.joinF hR22
    refine q_end (n_sq (q_block ?_))
    obtain ⟨o5,hl5,hr⟩:=bindS hr
    refine q_rangeG (m0:=fun _=>none) (L:=[(2,(.pointer (some ⟨b2,0,none⟩))),(4,(.pointer (some ⟨b3,0,none⟩))),(5,(.pointer (some ⟨b4,0,none⟩))),(6,(.pointer (some ⟨b8,0,none⟩))),(9,(.pointer (some ⟨b21,0,none⟩)))]) (fun (s : Int × (List Int)) (m_ : Mem) (O_ : List Piece)=>∃ (q25 : Piece),∃ last_23,∃ sets_24,(last_23,sets_24) = s∧m = m_∧[q25,[⟨b21,[(iV last_23)],3⟩],[⟨b8,[s7.v],25⟩],[⟨b4,[(.bool false)],4⟩],[⟨b3,[nilS.v],27⟩],[⟨b2,[s1.v],24⟩]] = O_∧OwnL m 3 q25 s7 sets_24) (fun (o : Unit) (m_ : Mem) (O_ : List Piece)=>() = o∧m = m_∧[[⟨b4,[(.bool false)],4⟩],[⟨b3,[nilS.v],27⟩]] = O_) hl5 hF ⟨rfl,rfl,rfl,rfl,rfl,trivial⟩ rfl Tryd.func71 (by kernel_rfl) rfl rfl rfl (it_split 32 p_t b22x b22y b22z (goSpl_lt hu22)) (hM.back hS).kept.size (fun _ _ h=>nomatch h) ⟨_,_,⟨q20,_,_,rfl,rfl,rfl,h20⟩,hM.sf (hS.sel [0,2,1,3,4,5,6] (by decide))⟩ ?_ ?_ ?_
    ·clear hF hS
     rintro lr Z26 p_26 _ q26 a w26 st _ _ hF ⟨q25,last_23,sets_24,rfl,rfl,rfl,h25⟩ ⟨X26,hM26,hS⟩ hb5
     unfold impl_ParseEdit_l2 at hb5
     refine rr_block ?_
     refine rr_seq ?_
     refine rr_region rfl ?_
     refine q_x (v:=(strV p_26)) hF hS (ex_move rfl) rfl rfl fun a hF=>?_
     obtain ⟨t_27,ht_27,hb5⟩:=bindS hb5
     refine q_call (vs:=[(strV p_26),(strV ([61] : List UInt8))]) hF hS Tryd.func39 (by kernel_rfl) rfl rfl rfl (c_strings_Cut p_26 ([61] : List UInt8) t_27 ht_27 _ m hS.vis ht) ?_
     rintro a w _ rfl hF hS
     refine q_x (v:=(.tuple #[(strV t_27.1),(strV t_27.2.1),(.bool t_27.2.2)])) hF hS (ex_move rfl) rfl rfl fun a hF=>q_x (v:=(strV t_27.1)) hF hS (ex_extract rfl rfl) rfl rfl fun a hF=>q_x (v:=(strV t_27.2.1)) hF hS (ex_extract rfl rfl) rfl rfl fun a hF=>q_x (v:=(.bool t_27.2.2)) hF hS (ex_extract rfl rfl) rfl rfl fun a hF=>q_x (v:=(strV t_27.1)) hF hS (ex_assign rfl) rfl rfl fun a hF=>q_x (v:=(strV t_27.2.1)) hF hS (ex_assign rfl) rfl rfl fun a hF=>q_x (v:=(.bool t_27.2.2)) hF hS (ex_assign rfl) rfl rfl fun a hF=>rr_end (rn_sq (rr_seq (rr_region rfl (q_x (v:=s1.v) hF hS (ex_load1 6 0 Tryd.underlying24 rfl rfl rfl rfl) rfl rfl fun a hF=>q_x (v:=(strV t_27.1)) hF hS (ex_move rfl) rfl rfl fun a hF=>?_))))
     obtain ⟨t_28,ht_28,hb5⟩:=bindS hb5
     refine q_call (vs:=[s1.v,(strV t_27.1)]) hF hS Tryd.func40 (by kernel_rfl) rfl rfl rfl (c_impl_nameIndex p_s t_27.1 t_28 ht_28 _ m hS.vis s1 h1) ?_
     rintro a w _ rfl hF hS
     refine q_x (v:=(iV t_28)) hF hS (ex_assign rfl) rfl rfl fun a hF=>rr_end (rn_sq (rr_seq (rr_seq ?_)))
     obtain ⟨t_29,hj6,hb5⟩:=bindS hb5
     refine rr_join (fun a w=>Fr a 86 [(2,(.pointer (some ⟨b2,0,none⟩))),(4,(.pointer (some ⟨b3,0,none⟩))),(5,(.pointer (some ⟨b4,0,none⟩))),(6,(.pointer (some ⟨b8,0,none⟩))),(9,(.pointer (some ⟨b21,0,none⟩))),(12,(strV t_27.2.1)),(14,(iV t_28)),(58,(.bool t_29))]∧St X26 w26 w m [q26,q25,[⟨b21,[(iV last_23)],3⟩],[⟨b8,[s7.v],25⟩],[⟨b4,[(.bool false)],4⟩],[⟨b3,[nilS.v],27⟩],[⟨b2,[s1.v],24⟩]]) ?_ ?_
     ·refine rr_region rfl ?_
      refine q_x (v:=(.bool t_27.2.2)) hF hS (ex_move rfl) rfl rfl fun a hF=>q_x (v:=(.bool (!t_27.2.2))) hF hS (ex_not rfl) rfl rfl fun a hF=>q_x (v:=(.bool (!t_27.2.2))) hF hS (ex_move rfl) rfl rfl fun a hF=>?_
      rcases bcase (!t_27.2.2) with hc7 | hc7
      ·have hj6:=cond_f hc7 hj6
       refine q_xg (v:=(iV t_28)) hF hS (ex_move rfl) (wanted_t hF rfl rfl rfl hc7) rfl fun a hF=>q_xg (v:=(iV last_23)) hF hS (ex_load1 2 0 Tryd.underlying3 rfl rfl rfl rfl) (wanted_t hF rfl rfl rfl hc7) rfl fun a hF=>q_xg (v:=(.bool (decide (t_28 ≤ last_23)))) hF hS (ex_ibin rfl rfl rfl) (wanted_t hF rfl rfl rfl hc7) rfl fun a hF=>q_x (v:=(.bool (decide (t_28 ≤ last_23)))) hF hS (ex_pick_f rfl rfl hc7) rfl rfl fun a hF=>rr_end (n_jn ?_)
       obtain rfl:=someI hj6
       exact ⟨hF.sub ⟨rfl,rfl,rfl,rfl,rfl,rfl,rfl,rfl,trivial⟩,hS⟩
      ·have hj6:=cond_t hc7 hj6
       refine q_skip hF (wanted_f hF rfl rfl rfl hc7 rfl) rfl fun a hF=>q_skip hF (wanted_f hF rfl rfl rfl hc7 rfl) rfl fun a hF=>q_skip hF (wanted_f hF rfl rfl rfl hc7 rfl) rfl fun a hF=>q_x (v:=(.bool true)) hF hS (ex_pick_t rfl rfl hc7) rfl rfl fun a hF=>rr_end (n_jn ?_)
       obtain rfl:=someI hj6
       exact ⟨hF.sub ⟨rfl,rfl,rfl,rfl,rfl,rfl,rfl,rfl,trivial⟩,hS⟩
     ·rintro a w ⟨hF,hS⟩
      refine rn_sq ?_
      rcases bcase (t_29) with hc8 | hc8
      ·have hb5:=cond_f hc8 hb5
       refine rr_cond_f hF rfl hc8 ?_
       refine rr_skipc (rn_sq ?_)
       refine rr_seq ?_
       refine rr_region rfl ?_
       refine q_x (v:=(strV t_27.2.1)) hF hS (ex_move rfl) rfl rfl fun a hF=>q_x (v:=s1.v) hF hS (ex_load1 6 0 Tryd.underlying24 rfl rfl rfl rfl) rfl rfl fun a hF=>q_x (v:=(iV t_28)) hF hS (ex_move rfl) rfl rfl fun a hF=>?_
       obtain ⟨e_30,he_30,hb5⟩:=bindS hb5
       obtain ⟨vs31,at31,d31⟩:=h1.at he_30 2 rfl
       obtain rfl : vs31 = [(strV e_30.Name),(iV e_30.Levels)]:=d31
       refine q_x (v:=(elP s1 (t_28.toNat * 2))) hF hS (ex_indexAddr Tryd.underlying24 sz63 rfl rfl (h1.idx he_30)) rfl rfl fun a hF=>q_x (v:=(elP s1 (t_28.toNat * 2 + 1))) hF hS (ex_fieldAddrE Tryd.underlying63 rfl sz3 rfl (h1.idx he_30) rfl) rfl rfl fun a hF=>q_x (v:=(iV e_30.Levels)) hF hS (ex_loadE1 1 Tryd.underlying3 rfl rfl ((at31).at) rfl rfl) rfl rfl fun a hF=>?_
       obtain ⟨t_32,ht_32,hb5⟩:=bindS hb5
       refine q_call (vs:=[(strV t_27.2.1),(iV e_30.Levels)]) hF hS Tryd.func41 (by kernel_rfl) rfl rfl rfl (c_impl_parseSet t_27.2.1 e_30.Levels t_32 ht_32 _ m hS.vis) ?_
       rintro a w _ rfl hF hS
       refine q_x (v:=(iV t_32)) hF hS (ex_assign rfl) rfl rfl fun a hF=>rr_end (rn_sq (rr_seq (rr_seq ?_)))
       obtain ⟨t_36,hj9,hb5⟩:=bindS hb5
       refine rr_join (fun a w=>Fr a 86 [(2,(.pointer (some ⟨b2,0,none⟩))),(4,(.pointer (some ⟨b3,0,none⟩))),(5,(.pointer (some ⟨b4,0,none⟩))),(6,(.pointer (some ⟨b8,0,none⟩))),(9,(.pointer (some ⟨b21,0,none⟩))),(14,(iV t_28)),(15,(iV t_32)),(77,(.bool t_36))]∧St X26 w26 w m [q26,q25,[⟨b21,[(iV last_23)],3⟩],[⟨b8,[s7.v],25⟩],[⟨b4,[(.bool false)],4⟩],[⟨b3,[nilS.v],27⟩],[⟨b2,[s1.v],24⟩]]) ?_ ?_
       ·refine rr_region rfl ?_
        refine q_x (v:=(iV t_32)) hF hS (ex_move rfl) rfl rfl fun a hF=>q_x (v:=(.bool (t_32 == 0))) hF hS (ex_ibin rfl rfl rfl) rfl rfl fun a hF=>q_x (v:=(.bool (t_32 == 0))) hF hS (ex_move rfl) rfl rfl fun a hF=>?_
        rcases bcase (t_32 == 0) with hc10 | hc10
        ·have hj9:=cond_f hc10 hj9
         refine q_xg (v:=(iV t_32)) hF hS (ex_move rfl) (wanted_t hF rfl rfl rfl hc10) rfl fun a hF=>q_xg (v:=s1.v) hF hS (ex_load1 6 0 Tryd.underlying24 rfl rfl rfl rfl) (wanted_t hF rfl rfl rfl hc10) rfl fun a hF=>q_xg (v:=(iV t_28)) hF hS (ex_move rfl) (wanted_t hF rfl rfl rfl hc10) rfl fun a hF=>?_
         obtain ⟨e_33,he_33,hj9⟩:=bindS hj9
         obtain ⟨vs34,at34,d34⟩:=h1.at he_33 2 rfl
         obtain rfl : vs34 = [(strV e_33.Name),(iV e_33.Levels)]:=d34
         refine q_xg (v:=(elP s1 (t_28.toNat * 2))) hF hS (ex_indexAddr Tryd.underlying24 sz63 rfl rfl (h1.idx he_33)) (wanted_t hF rfl rfl rfl hc10) rfl fun a hF=>q_xg (v:=(.agg #[(strV e_33.Name),(iV e_33.Levels)])) hF hS (ex_loadEA (us:=[(strV e_33.Name),(iV e_33.Levels)]) 0 Tryd.underlying63 rfl sz63 rfl ((at34).at) rfl rfl rfl) (wanted_t hF rfl rfl rfl hc10) rfl fun a hF=>?_
         obtain ⟨t_35,ht_35,hj9⟩:=bindS hj9
         refine q_callg (vs:=[(.agg #[(strV e_33.Name),(iV e_33.Levels)])]) hF hS (wanted_t hF rfl rfl rfl hc10) Tryd.func37 (by kernel_rfl) rfl rfl rfl (c_impl_fullSet e_33 t_35 ht_35 _ m hS.vis) ?_
         rintro a w _ rfl hF hS
         refine q_xg (v:=(.bool (t_32 == t_35))) hF hS (ex_ibin rfl rfl rfl) (wanted_t hF rfl rfl rfl hc10) rfl fun a hF=>q_x (v:=(.bool (t_32 == t_35))) hF hS (ex_pick_f rfl rfl hc10) rfl rfl fun a hF=>rr_end (n_jn ?_)
         obtain rfl:=someI hj9
         exact ⟨hF.sub ⟨rfl,rfl,rfl,rfl,rfl,rfl,rfl,rfl,trivial⟩,hS⟩
        ·have hj9:=cond_t hc10 hj9
         refine q_skip hF (wanted_f hF rfl rfl rfl hc10 rfl) rfl fun a hF=>q_skip hF (wanted_f hF rfl rfl rfl hc10 rfl) rfl fun a hF=>q_skip hF (wanted_f hF rfl rfl rfl hc10 rfl) rfl fun a hF=>q_skip hF (wanted_f hF rfl rfl rfl hc10 rfl) rfl fun a hF=>q_skip hF (wanted_f hF rfl rfl rfl hc10 rfl) rfl fun a hF=>q_skip hF (wanted_f hF rfl rfl rfl hc10 rfl) rfl fun a hF=>q_skip hF (wanted_f hF rfl rfl rfl hc10 rfl) rfl fun a hF=>q_x (v:=(.bool true)) hF hS (ex_pick_t rfl rfl hc10) rfl rfl fun a hF=>rr_end (n_jn ?_)
         obtain rfl:=someI hj9
         exact ⟨hF.sub ⟨rfl,rfl,rfl,rfl,rfl,rfl,rfl,rfl,trivial⟩,hS⟩
       ·rintro a w ⟨hF,hS⟩
        refine rn_sq ?_
        rcases bcase (t_36) with hc11 | hc11
        ·have hb5:=cond_f hc11 hb5
         refine rr_cond_f hF rfl hc11 ?_
         refine rr_skipc (rn_sq ?_)
         refine rr_region rfl ?_
         refine q_x (v:=s7.v) hF hS (ex_load1 3 0 Tryd.underlying25 rfl rfl rfl rfl) rfl rfl fun a hF=>q_x (v:=(iV t_28)) hF hS (ex_move rfl) rfl rfl fun a hF=>q_x (v:=(iV t_32)) hF hS (ex_move rfl) rfl rfl fun a hF=>q_x (v:=(iV t_28)) hF hS (ex_move rfl) rfl rfl fun a hF=>?_
         obtain ⟨e_37,he_37,hb5⟩:=bindS hb5
         obtain ⟨vs38,at38,d38⟩:=h25.at he_37 1 rfl
         obtain rfl : vs38 = [(iV e_37)]:=d38
         refine q_x (v:=(elP s7 (t_28.toNat * 1))) hF hS (ex_indexAddr Tryd.underlying25 sz3 rfl rfl (h25.idx he_37)) rfl rfl fun a hF=>?_
         have hS : St _ _ _ _ [q25,q26,[⟨b21,[(iV last_23)],3⟩],[⟨b8,[s7.v],25⟩],[⟨b4,[(.bool false)],4⟩],[⟨b3,[nilS.v],27⟩],[⟨b2,[s1.v],24⟩]]:=hS.sel [1,0,2,3,4,5,6] (by decide)
         refine q_do rfl fun _ hK=>wp_storeE (e':=t_32) (us:=[(iV t_32)]) (vs:=[(iV e_37)]) 0 hF hS h25 sz3 rfl rfl rfl rfl rfl rfl rfl he_37 at38 rfl rfl rfl fun w q39 hS h39=>hK _ _ (q_store (vs:=[(iV t_28)]) (cs':=[(iV t_28)]) 2 0 hF hS sz3 rfl rfl rfl rfl rfl rfl rfl rfl fun a w hF hS=>rr_end (n_ib ?_))
         obtain rfl:=someI hb5
         exact ⟨fun k r h=>hM26.kp hS h (fun _ _ _=>nofun),rfl,_,_,⟨q39,_,_,rfl,rfl,rfl,h39⟩,hM26.sf (hS.sel [1,0,2,3,4,5,6] (by decide))⟩
        ·have hb5:=cond_t hc11 hb5
         refine rr_cond_t hF rfl hc11 ?_
         refine rr_seq ?_
         refine rr_region rfl ?_
         refine q_x (v:=(.agg #[nilS.v])) hF hS (ex_build (cells:=[nilS.v]) rfl (by kernel_rfl)) rfl rfl fun a hF=>q_store (vs:=[nilS.v]) (cs':=[nilS.v]) 5 0 hF hS sz27 rfl rfl rfl rfl rfl rfl rfl rfl fun a w hF hS=>q_store (vs:=[(.bool false)]) (cs':=[(.bool false)]) 4 0 hF hS sz4 rfl rfl rfl rfl rfl rfl rfl rfl fun a w hF hS=>rr_end (rn_sq (rr_ret (rret_sq (r_ib ?_))))
         obtain rfl:=someI hb5
         exact ⟨fun k r h=>hM26.kp hS h (fun _ _ _=>nofun),rfl,_,_,⟨rfl,rfl,rfl⟩,hM26.sf (hS.mask [true,false,false,false,true,true,false])⟩
      ·have hb5:=cond_t hc8 hb5
       refine rr_cond_t hF rfl hc8 ?_
       refine rr_seq ?_
       refine rr_region rfl ?_
       refine q_x (v:=(.agg #[nilS.v])) hF hS (ex_build (cells:=[nilS.v]) rfl (by kernel_rfl)) rfl rfl fun a hF=>q_store (vs:=[nilS.v]) (cs':=[nilS.v]) 5 0 hF hS sz27 rfl rfl rfl rfl rfl rfl rfl rfl fun a w hF hS=>q_store (vs:=[(.bool false)]) (cs':=[(.bool false)]) 4 0 hF hS sz4 rfl rfl rfl rfl rfl rfl rfl rfl fun a w hF hS=>rr_end (rn_sq (rr_ret (rret_sq (r_ib ?_))))
       obtain rfl:=someI hb5
       exact ⟨fun k r h=>hM26.kp hS h (fun _ _ _=>nofun),rfl,_,_,⟨rfl,rfl,rfl⟩,hM26.sf (hS.mask [true,false,false,false,true,true,false])⟩
    ·rintro Z40 a w40 _ q40 _ _ hF ⟨q25,last_23,sets_24,rfl,rfl,rfl,h25⟩ ⟨X40,hM40,hS⟩ hr40
     subst hr40
     refine n_ib (n_sq ?_)
     refine q_seq (q_region (q_x (v:=s7.v) hF hS (ex_load1 3 0 Tryd.underlying25 rfl rfl rfl rfl) rfl rfl fun a hF=>q_x (v:=(.agg #[s7.v])) hF hS (ex_build (cells:=[s7.v]) rfl (by kernel_rfl)) rfl rfl fun a hF=>q_store (vs:=[s7.v]) (cs':=[s7.v]) 5 0 hF hS sz27 rfl rfl rfl rfl rfl rfl rfl rfl fun a w hF hS=>q_store (vs:=[(.bool true)]) (cs':=[(.bool true)]) 4 0 hF hS sz4 rfl rfl rfl rfl rfl rfl rfl rfl fun a w hF hS=>q_end (n_sq (q_ret ?_))))
     obtain rfl:=someI hr
     exact ret_ofM hM40 hF hS rfl (.cellA (us:=[s7.v]) 5 0 Tryd.underlying27 rfl sz27 rfl rfl rfl rfl (.cell1 4 0 Tryd.underlying4 rfl rfl rfl rfl .nil)) (fun w hS=>⟨q25,s7,rfl,hS.sel [1] (by decide),h25⟩)
    ·rintro Z40 a w40 _ q40 _ _ hF ⟨rfl,rfl,rfl⟩ ⟨X40,hM40,hS⟩ hr40
     subst hr40
     refine r_ib (r_sq ?_)
     obtain rfl:=someI hr
     exact ret_ofM hM40 hF hS rfl (.cellA (us:=[nilS.v]) 2 0 Tryd.underlying27 rfl sz27 rfl rfl rfl rfl (.cell1 1 0 Tryd.underlying4 rfl rfl rfl rfl .nil)) (fun w hS=>⟨[],nilS,rfl,hS.sel [3] (by decide),(OwnL.nil (α:=Int) m 3)⟩)
   ·have hr:=cond_t hc4 hr
    refine q_cond_t hF rfl hc4 (q_seq (q_region (q_x (v:=s7.v) hF hS (ex_load1 1 0 Tryd.underlying25 rfl rfl rfl rfl) rfl rfl fun a hF=>q_x (v:=(.agg #[s7.v])) hF hS (ex_build (cells:=[s7.v]) rfl (by kernel_rfl)) rfl rfl fun a hF=>q_store (vs:=[s7.v]) (cs':=[s7.v]) 3 0 hF hS sz27 rfl rfl rfl rfl rfl rfl rfl rfl fun a w hF hS=>q_store (vs:=[(.bool true)]) (cs':=[(.bool true)]) 2 0 hF hS sz4 rfl rfl rfl rfl rfl rfl rfl rfl fun a w hF hS=>q_end (n_sq (q_ret (r_sq ?_))))))
    obtain rfl:=someI hr
    exact ret_ofM hM hF hS rfl (.cellA (us:=[s7.v]) 3 0 Tryd.underlying27 rfl sz27 rfl rfl rfl rfl (.cell1 2 0 Tryd.underlying4 rfl rfl rfl rfl .nil)) (fun w hS=>⟨q20,s7,rfl,hS.sel [0] (by decide),h20⟩)
 ·have hr:=cond_t hc1 hr
  refine q_cond_t hF rfl hc1 (q_seq (q_region (q_x (v:=(.agg #[nilS.v])) hF hS (ex_build (cells:=[nilS.v]) rfl (by kernel_rfl)) rfl rfl fun a hF=>q_store (vs:=[nilS.v]) (cs':=[nilS.v]) 1 0 hF hS sz27 rfl rfl rfl rfl rfl rfl rfl rfl fun a w hF hS=>q_store (vs:=[(.bool false)]) (cs':=[(.bool false)]) 0 0 hF hS sz4 rfl rfl rfl rfl rfl rfl rfl rfl fun a w hF hS=>q_end (n_sq (q_ret (r_sq ?_))))))
  obtain rfl:=someI hr
  exact ret_ofM hM hF hS rfl (.cellA (us:=[nilS.v]) 1 0 Tryd.underlying27 rfl sz27 rfl rfl rfl rfl (.cell1 0 0 Tryd.underlying4 rfl rfl rfl rfl .nil)) (fun w hS=>⟨[],nilS,rfl,hS.sel [3] (by decide),(OwnL.nil (α:=Int) m 3)⟩)

theorem c_math_bits_OnesCount32 (p_x : K .u32) (r : Int) (hr : math_bits_OnesCount32 p_x = some r) (w0 : World) (m : Mem) (hv : Vis m w0) :
  Ret Tryd.prog 64 [(.int .u32 p_x.v)] w0 (fun v _=>v = (iV r)):=by
 unfold math_bits_OnesCount32 at hr
 refine ret_start Tryd.func64 rfl 21 rfl rfl m hv fun a hF hS=>q_seq (q_region (q_x (v:=(iV 0)) hF hS (ex_assign rfl) rfl rfl fun a hF=>q_end (n_sq (q_seq (e_region ⟨[],[]⟩ mixed fun w' hw'=>?_)))))
 have hS:=hS.below hw'
 refine e_p (v:=(.int .u32 p_x.v)) 0 hF rfl (ex_move rfl) rfl rfl (by kernel_rfl) (by kernel_rfl) (by kernel_rfl) fun a hF=>?_
 obtain ⟨t_1,ht_1,hr⟩:=bindS hr
 refine e_p (v:=(.int .u32 t_1)) 1 hF rfl (ex_shr rfl rfl ht_1) rfl rfl (by kernel_rfl) (by kernel_rfl) (by kernel_rfl) fun a hF=>?_
 obtain ⟨t_2,ht_2,hr⟩:=bindS hr
 refine e_p (v:=(.int .u8 t_2)) 2 hF rfl (ex_strIdx Tryd.underlying9 rfl rfl ht_2) rfl rfl (by kernel_rfl) (by kernel_rfl) (by kernel_rfl) fun a hF=>e_p (v:=(.int .u32 p_x.v)) 3 hF rfl (ex_move rfl) rfl rfl (by kernel_rfl) (by kernel_rfl) (by kernel_rfl) fun a hF=>?_
 obtain ⟨t_3,ht_3,hr⟩:=bindS hr
 refine e_p (v:=(.int .u32 t_3)) 4 hF rfl (ex_shr rfl rfl ht_3) rfl rfl (by kernel_rfl) (by kernel_rfl) (by kernel_rfl) fun a hF=>e_p (v:=(.int .u32 (goBits .and .u32 t_3 255))) 5 hF rfl (ex_bits rfl rfl rfl) rfl rfl (by kernel_rfl) (by kernel_rfl) (by kernel_rfl) fun a hF=>?_
 obtain ⟨t_4,ht_4,hr⟩:=bindS hr
 refine e_p (v:=(.int .u8 t_4)) 6 hF rfl (ex_strIdx Tryd.underlying9 rfl rfl ht_4) rfl rfl (by kernel_rfl) (by kernel_rfl) (by kernel_rfl) fun a hF=>e_p (v:=(.int .u8 (IntKind.wrap .u8 (t_2 + t_4)))) 7 hF rfl (ex_ibin rfl rfl rfl) rfl rfl (by kernel_rfl) (by kernel_rfl) (by kernel_rfl) fun a hF=>e_p (v:=(.int .u32 p_x.v)) 8 hF rfl (ex_move rfl) rfl rfl (by kernel_rfl) (by kernel_rfl) (by kernel_rfl) fun a hF=>?_
 obtain ⟨t_5,ht_5,hr⟩:=bindS hr
 refine e_p (v:=(.int .u32 t_5)) 9 hF rfl (ex_shr rfl rfl ht_5) rfl rfl (by kernel_rfl) (by kernel_rfl) (by kernel_rfl) fun a hF=>e_p (v:=(.int .u32 (goBits .and .u32 t_5 255))) 10 hF rfl (ex_bits rfl rfl rfl) rfl rfl (by kernel_rfl) (by kernel_rfl) (by kernel_rfl) fun a hF=>?_
 obtain ⟨t_6,ht_6,hr⟩:=bindS hr
 refine e_p (v:=(.int .u8 t_6)) 11 hF rfl (ex_strIdx Tryd.underlying9 rfl rfl ht_6) rfl rfl (by kernel_rfl) (by kernel_rfl) (by kernel_rfl) fun a hF=>e_p (v:=(.int .u8 (IntKind.wrap .u8 ((IntKind.wrap .u8 (t_2 + t_4)) + t_6)))) 12 hF rfl (ex_ibin rfl rfl rfl) rfl rfl (by kernel_rfl) (by kernel_rfl) (by kernel_rfl) fun a hF=>e_p (v:=(.int .u32 p_x.v)) 13 hF rfl (ex_move rfl) rfl rfl (by kernel_rfl) (by kernel_rfl) (by kernel_rfl) fun a hF=>e_p (v:=(.int .u32 (goBits .and .u32 p_x.v 255))) 14 hF rfl (ex_bits rfl rfl rfl) rfl rfl (by kernel_rfl) (by kernel_rfl) (by kernel_rfl) fun a hF=>?_
 obtain ⟨t_7,ht_7,hr⟩:=bindS hr
 refine e_p (v:=(.int .u8 t_7)) 15 hF rfl (ex_strIdx Tryd.underlying9 rfl rfl ht_7) rfl rfl (by kernel_rfl) (by kernel_rfl) (by kernel_rfl) fun a hF=>e_p (v:=(.int .u8 (IntKind.wrap .u8 ((IntKind.wrap .u8 ((IntKind.wrap .u8 (t_2 + t_4)) + t_6)) + t_7)))) 16 hF rfl (ex_ibin rfl rfl rfl) rfl rfl (by kernel_rfl) (by kernel_rfl) (by kernel_rfl) fun a hF=>e_p (v:=(iV (w64 (IntKind.wrap .u8 ((IntKind.wrap .u8 ((IntKind.wrap .u8 (t_2 + t_4)) + t_6)) + t_7))))) 17 hF rfl (ex_conv Tryd.underlying5 Tryd.underlying3 rfl) rfl rfl (by kernel_rfl) (by kernel_rfl) (by kernel_rfl) fun a hF=>e_p (v:=(iV (w64 (IntKind.wrap .u8 ((IntKind.wrap .u8 ((IntKind.wrap .u8 (t_2 + t_4)) + t_6)) + t_7))))) 18 hF rfl (ex_assign rfl) rfl rfl (by kernel_rfl) (by kernel_rfl) (by kernel_rfl) fun a hF=>e_end (by kernel_rfl) (n_sq (q_ret ?_)) _
 obtain rfl:=someI hr
 exact ret_of hF hS rfl (.tmp rfl .nil) rfl

theorem c_math_bits_OnesCount64 (p_x : K .u64) (r : Int) (hr : math_bits_OnesCount64 p_x = some r) (w0 : World) (m : Mem) (hv : Vis m w0) :
  Ret Tryd.prog 65 [(.int .u64 p_x.v)] w0 (fun v _=>v = (iV r)):=by
 unfold math_bits_OnesCount64 at hr
 refine ret_start Tryd.func65 rfl 35 rfl rfl m hv fun a hF hS=>q_seq (q_region (q_x (v:=(iV 0)) hF hS (ex_assign rfl) rfl rfl fun a hF=>q_end (n_sq (q_seq (q_region (q_x (v:=(.int .u64 p_x.v)) hF hS (ex_move rfl) rfl rfl fun a hF=>?_))))))
 obtain ⟨t_1,ht_1,hr⟩:=bindS hr
 refine q_x (v:=(.int .u64 t_1)) hF hS (ex_shr rfl rfl ht_1) rfl rfl fun a hF=>q_x (v:=(.int .u64 (goBits .and .u64 t_1 6148914691236517205))) hF hS (ex_bits rfl rfl rfl) rfl rfl fun a hF=>q_x (v:=(.int .u64 p_x.v)) hF hS (ex_move rfl) rfl rfl fun a hF=>q_x (v:=(.int .u64 (goBits .and .u64 p_x.v 6148914691236517205))) hF hS (ex_bits rfl rfl rfl) rfl rfl fun a hF=>q_x (v:=(.int .u64 (IntKind.wrap .u64 ((goBits .and .u64 t_1 6148914691236517205) + (goBits .and .u64 p_x.v 6148914691236517205))))) hF hS (ex_ibin rfl rfl rfl) rfl rfl fun a hF=>q_x (v:=(.int .u64 (IntKind.wrap .u64 ((goBits .and .u64 t_1 6148914691236517205) + (goBits .and .u64 p_x.v 6148914691236517205))))) hF hS (ex_assign rfl) rfl rfl fun a hF=>q_end (n_sq (q_seq (q_region (q_x (v:=(.int .u64 (IntKind.wrap .u64 ((goBits .and .u64 t_1 6148914691236517205) + (goBits .and .u64 p_x.v 6148914691236517205))))) hF hS (ex_move rfl) rfl rfl fun a hF=>?_))))
 obtain ⟨t_2,ht_2,hr⟩:=bindS hr
 refine q_x (v:=(.int .u64 t_2)) hF hS (ex_shr rfl rfl ht_2) rfl rfl fun a hF=>q_x (v:=(.int .u64 (goBits .and .u64 t_2 3689348814741910323))) hF hS (ex_bits rfl rfl rfl) rfl rfl fun a hF=>q_x (v:=(.int .u64 (IntKind.wrap .u64 ((goBits .and .u64 t_1 6148914691236517205) + (goBits .and .u64 p_x.v 6148914691236517205))))) hF hS (ex_move rfl) rfl rfl fun a hF=>q_x (v:=(.int .u64 (goBits .and .u64 (IntKind.wrap .u64 ((goBits .and .u64 t_1 6148914691236517205) + (goBits .and .u64 p_x.v 6148914691236517205))) 3689348814741910323))) hF hS (ex_bits rfl rfl rfl) rfl rfl fun a hF=>q_x (v:=(.int .u64 (IntKind.wrap .u64 ((goBits .and .u64 t_2 3689348814741910323) + (goBits .and .u64 (IntKind.wrap .u64 ((goBits .and .u64 t_1 6148914691236517205) + (goBits .and .u64 p_x.v 6148914691236517205))) 3689348814741910323))))) hF hS (ex_ibin rfl rfl rfl) rfl rfl fun a hF=>q_x (v:=(.int .u64 (IntKind.wrap .u64 ((goBits .and .u64 t_2 3689348814741910323) + (goBits .and .u64 (IntKind.wrap .u64 ((goBits .and .u64 t_1 6148914691236517205) + (goBits .and .u64 p_x.v 6148914691236517205))) 3689348814741910323))))) hF hS (ex_assign rfl) rfl rfl fun a hF=>q_end (n_sq (q_seq (q_region (q_x (v:=(.int .u64 (IntKind.wrap .u64 ((goBits .and .u64 t_2 3689348814741910323) + (goBits .and .u64 (IntKind.wrap .u64 ((goBits .and .u64 t_1 6148914691236517205) + (goBits .and .u64 p_x.v 6148914691236517205))) 3689348814741910323))))) hF hS (ex_move rfl) rfl rfl fun a hF=>?_))))
 obtain ⟨t_3,ht_3,hr⟩:=bindS hr
 refine q_x (v:=(.int .u64 t_3)) hF hS (ex_shr rfl rfl ht_3) rfl rfl fun a hF=>q_x (v:=(.int .u64 (IntKind.wrap .u64 ((goBits .and .u64 t_2 3689348814741910323) + (goBits .and .u64 (IntKind.wrap .u64 ((goBits .and .u64 t_1 6148914691236517205) + (goBits .and .u64 p_x.v 6148914691236517205))) 3689348814741910323))))) hF hS (ex_move rfl) rfl rfl fun a hF=>q_x (v:=(.int .u64 (IntKind.wrap .u64 (t_3 + (IntKind.wrap .u64 ((goBits .and .u64 t_2 3689348814741910323) + (goBits .and .u64 (IntKind.wrap .u64 ((goBits .and .u64 t_1 6148914691236517205) + (goBits .and .u64 p_x.v 6148914691236517205))) 3689348814741910323))))))) hF hS (ex_ibin rfl rfl rfl) rfl rfl fun a hF=>q_x (v:=(.int .u64 (goBits .and .u64 (IntKind.wrap .u64 (t_3 + (IntKind.wrap .u64 ((goBits .and .u64 t_2 3689348814741910323) + (goBits .and .u64 (IntKind.wrap .u64 ((goBits .and .u64 t_1 6148914691236517205) + (goBits .and .u64 p_x.v 6148914691236517205))) 3689348814741910323))))) 1085102592571150095))) hF hS (ex_bits rfl rfl rfl) rfl rfl fun a hF=>q_x (v:=(.int .u64 (goBits .and .u64 (IntKind.wrap .u64 (t_3 + (IntKind.wrap .u64 ((goBits .and .u64 t_2 3689348814741910323) + (goBits .and .u64 (IntKind.wrap .u64 ((goBits .and .u64 t_1 6148914691236517205) + (goBits .and .u64 p_x.v 6148914691236517205))) 3689348814741910323))))) 1085102592571150095))) hF hS (ex_assign rfl) rfl rfl fun a hF=>q_end (n_sq (q_seq (q_region (q_x (v:=(.int .u64 (goBits .and .u64 (IntKind.wrap .u64 (t_3 + (IntKind.wrap .u64 ((goBits .and .u64 t_2 3689348814741910323) + (goBits .and .u64 (IntKind.wrap .u64 ((goBits .and .u64 t_1 6148914691236517205) + (goBits .and .u64 p_x.v 6148914691236517205))) 3689348814741910323))))) 1085102592571150095))) hF hS (ex_move rfl) rfl rfl fun a hF=>q_x (v:=(.int .u64 (goBits .and .u64 (IntKind.wrap .u64 (t_3 + (IntKind.wrap .u64 ((goBits .and .u64 t_2 3689348814741910323) + (goBits .and .u64 (IntKind.wrap .u64 ((goBits .and .u64 t_1 6148914691236517205) + (goBits .and .u64 p_x.v 6148914691236517205))) 3689348814741910323))))) 1085102592571150095))) hF hS (ex_move rfl) rfl rfl fun a hF=>?_))))
 obtain ⟨t_4,ht_4,hr⟩:=bindS hr
 refine q_x (v:=(.int .u64 t_4)) hF hS (ex_shr rfl rfl ht_4) rfl rfl fun a hF=>q_x (v:=(.int .u64 (IntKind.wrap .u64 ((goBits .and .u64 (IntKind.wrap .u64 (t_3 + (IntKind.wrap .u64 ((goBits .and .u64 t_2 3689348814741910323) + (goBits .and .u64 (IntKind.wrap .u64 ((goBits .and .u64 t_1 6148914691236517205) + (goBits .and .u64 p_x.v 6148914691236517205))) 3689348814741910323))))) 1085102592571150095) + t_4)))) hF hS (ex_ibin rfl rfl rfl) rfl rfl fun a hF=>q_x (v:=(.int .u64 (IntKind.wrap .u64 ((goBits .and .u64 (IntKind.wrap .u64 (t_3 + (IntKind.wrap .u64 ((goBits .and .u64 t_2 3689348814741910323) + (goBits .and .u64 (IntKind.wrap .u64 ((goBits .and .u64 t_1 6148914691236517205) + (goBits .and .u64 p_x.v 6148914691236517205))) 3689348814741910323))))) 1085102592571150095) + t_4)))) hF hS (ex_assign rfl) rfl rfl fun a hF=>q_end (n_sq (q_seq (q_region (q_x (v:=(.int .u64 (IntKind.wrap .u64 ((goBits .and .u64 (IntKind.wrap .u64 (t_3 + (IntKind.wrap .u64 ((goBits .and .u64 t_2 3689348814741910323) + (goBits .and .u64 (IntKind.wrap .u64 ((goBits .and .u64 t_1 6148914691236517205) + (goBits .and .u64 p_x.v 6148914691236517205))) 3689348814741910323))))) 1085102592571150095) + t_4)))) hF hS (ex_move rfl) rfl rfl fun a hF=>q_x (v:=(.int .u64 (IntKind.wrap .u64 ((goBits .and .u64 (IntKind.wrap .u64 (t_3 + (IntKind.wrap .u64 ((goBits .and .u64 t_2 3689348814741910323) + (goBits .and .u64 (IntKind.wrap .u64 ((goBits .and .u64 t_1 6148914691236517205) + (goBits .and .u64 p_x.v 6148914691236517205))) 3689348814741910323))))) 1085102592571150095) + t_4)))) hF hS (ex_move rfl) rfl rfl fun a hF=>?_))))
 obtain ⟨t_5,ht_5,hr⟩:=bindS hr
 refine q_x (v:=(.int .u64 t_5)) hF hS (ex_shr rfl rfl ht_5) rfl rfl fun a hF=>q_x (v:=(.int .u64 (IntKind.wrap .u64 ((IntKind.wrap .u64 ((goBits .and .u64 (IntKind.wrap .u64 (t_3 + (IntKind.wrap .u64 ((goBits .and .u64 t_2 3689348814741910323) + (goBits .and .u64 (IntKind.wrap .u64 ((goBits .and .u64 t_1 6148914691236517205) + (goBits .and .u64 p_x.v 6148914691236517205))) 3689348814741910323))))) 1085102592571150095) + t_4)) + t_5)))) hF hS (ex_ibin rfl rfl rfl) rfl rfl fun a hF=>q_x (v:=(.int .u64 (IntKind.wrap .u64 ((IntKind.wrap .u64 ((goBits .and .u64 (IntKind.wrap .u64 (t_3 + (IntKind.wrap .u64 ((goBits .and .u64 t_2 3689348814741910323) + (goBits .and .u64 (IntKind.wrap .u64 ((goBits .and .u64 t_1 6148914691236517205) + (goBits .and .u64 p_x.v 6148914691236517205))) 3689348814741910323))))) 1085102592571150095) + t_4)) + t_5)))) hF hS (ex_assign rfl) rfl rfl fun a hF=>q_end (n_sq (q_seq (q_region (q_x (v:=(.int .u64 (IntKind.wrap .u64 ((IntKind.wrap .u64 ((goBits .and .u64 (IntKind.wrap .u64 (t_3 + (IntKind.wrap .u64 ((goBits .and .u64 t_2 3689348814741910323) + (goBits .and .u64 (IntKind.wrap .u64 ((goBits .and .u64 t_1 6148914691236517205) + (goBits .and .u64 p_x.v 6148914691236517205))) 3689348814741910323))))) 1085102592571150095) + t_4)) + t_5)))) hF hS (ex_move rfl) rfl rfl fun a hF=>q_x (v:=(.int .u64 (IntKind.wrap .u64 ((IntKind.wrap .u64 ((goBits .and .u64 (IntKind.wrap .u64 (t_3 + (IntKind.wrap .u64 ((goBits .and .u64 t_2 3689348814741910323) + (goBits .and .u64 (IntKind.wrap .u64 ((goBits .and .u64 t_1 6148914691236517205) + (goBits .and .u64 p_x.v 6148914691236517205))) 3689348814741910323))))) 1085102592571150095) + t_4)) + t_5)))) hF hS (ex_move rfl) rfl rfl fun a hF=>?_))))
 obtain ⟨t_6,ht_6,hr⟩:=bindS hr
 refine q_x (v:=(.int .u64 t_6)) hF hS (ex_shr rfl rfl ht_6) rfl rfl fun a hF=>q_x (v:=(.int .u64 (IntKind.wrap .u64 ((IntKind.wrap .u64 ((IntKind.wrap .u64 ((goBits .and .u64 (IntKind.wrap .u64 (t_3 + (IntKind.wrap .u64 ((goBits .and .u64 t_2 3689348814741910323) + (goBits .and .u64 (IntKind.wrap .u64 ((goBits .and .u64 t_1 6148914691236517205) + (goBits .and .u64 p_x.v 6148914691236517205))) 3689348814741910323))))) 1085102592571150095) + t_4)) + t_5)) + t_6)))) hF hS (ex_ibin rfl rfl rfl) rfl rfl fun a hF=>q_x (v:=(.int .u64 (IntKind.wrap .u64 ((IntKind.wrap .u64 ((IntKind.wrap .u64 ((goBits .and .u64 (IntKind.wrap .u64 (t_3 + (IntKind.wrap .u64 ((goBits .and .u64 t_2 3689348814741910323) + (goBits .and .u64 (IntKind.wrap .u64 ((goBits .and .u64 t_1 6148914691236517205) + (goBits .and .u64 p_x.v 6148914691236517205))) 3689348814741910323))))) 1085102592571150095) + t_4)) + t_5)) + t_6)))) hF hS (ex_assign rfl) rfl rfl fun a hF=>q_end (n_sq (q_seq (q_region (q_x (v:=(.int .u64 (IntKind.wrap .u64 ((IntKind.wrap .u64 ((IntKind.wrap .u64 ((goBits .and .u64 (IntKind.wrap .u64 (t_3 + (IntKind.wrap .u64 ((goBits .and .u64 t_2 3689348814741910323) + (goBits .and .u64 (IntKind.wrap .u64 ((goBits .and .u64 t_1 6148914691236517205) + (goBits .and .u64 p_x.v 6148914691236517205))) 3689348814741910323))))) 1085102592571150095) + t_4)) + t_5)) + t_6)))) hF hS (ex_move rfl) rfl rfl fun a hF=>q_x (v:=(iV (w64 (IntKind.wrap .u64 ((IntKind.wrap .u64 ((IntKind.wrap .u64 ((goBits .and .u64 (IntKind.wrap .u64 (t_3 + (IntKind.wrap .u64 ((goBits .and .u64 t_2 3689348814741910323) + (goBits .and .u64 (IntKind.wrap .u64 ((goBits .and .u64 t_1 6148914691236517205) + (goBits .and .u64 p_x.v 6148914691236517205))) 3689348814741910323))))) 1085102592571150095) + t_4)) + t_5)) + t_6))))) hF hS (ex_conv Tryd.underlying51 Tryd.underlying3 rfl) rfl rfl fun a hF=>q_x (v:=(iV (goBits .and .i64 (w64 (IntKind.wrap .u64 ((IntKind.wrap .u64 ((IntKind.wrap .u64 ((goBits .and .u64 (IntKind.wrap .u64 (t_3 + (IntKind.wrap .u64 ((goBits .and .u64 t_2 3689348814741910323) + (goBits .and .u64 (IntKind.wrap .u64 ((goBits .and .u64 t_1 6148914691236517205) + (goBits .and .u64 p_x.v 6148914691236517205))) 3689348814741910323))))) 1085102592571150095) + t_4)) + t_5)) + t_6))) 127))) hF hS (ex_bits rfl rfl rfl) rfl rfl fun a hF=>q_x (v:=(iV (goBits .and .i64 (w64 (IntKind.wrap .u64 ((IntKind.wrap .u64 ((IntKind.wrap .u64 ((goBits .and .u64 (IntKind.wrap .u64 (t_3 + (IntKind.wrap .u64 ((goBits .and .u64 t_2 3689348814741910323) + (goBits .and .u64 (IntKind.wrap .u64 ((goBits .and .u64 t_1 6148914691236517205) + (goBits .and .u64 p_x.v 6148914691236517205))) 3689348814741910323))))) 1085102592571150095) + t_4)) + t_5)) + t_6))) 127))) hF hS (ex_assign rfl) rfl rfl fun a hF=>q_end (n_sq (q_ret ?_))))))
 obtain rfl:=someI hr
 exact ret_of hF hS rfl (.tmp rfl .nil) rfl

theorem c_math_bits_OnesCount (p_x : K .u64) (r : Int) (hr : math_bits_OnesCount p_x = some r) (w0 : World) (m : Mem) (hv : Vis m w0) :
  Ret Tryd.prog 42 [(.int .u64 p_x.v)] w0 (fun v _=>v = (iV r)):=by
 unfold math_bits_OnesCount at hr
 refine ret_start Tryd.func42 rfl 8 rfl rfl m hv fun a hF hS=>q_seq (q_region (q_x (v:=(iV 0)) hF hS (ex_assign rfl) rfl rfl fun a hF=>q_end (n_sq (q_seq (q_cond_f hF rfl rfl (q_skipc (n_sq (q_seq (q_region (q_x (v:=(.int .u64 p_x.v)) hF hS (ex_move rfl) rfl rfl fun a hF=>?_))))))))))
 obtain ⟨t_1,ht_1,hr⟩:=bindS hr
 refine q_call (vs:=[(.int .u64 p_x.v)]) hF hS Tryd.func65 (by kernel_rfl) rfl rfl rfl (c_math_bits_OnesCount64 p_x t_1 ht_1 _ m hS.vis) ?_
 rintro a w _ rfl hF hS
 refine q_x (v:=(iV t_1)) hF hS (ex_assign rfl) rfl rfl fun a hF=>q_end (n_sq (q_ret ?_))
 obtain rfl:=someI hr
 exact ret_of hF hS rfl (.tmp rfl .nil) rfl

theorem c_impl_CountFailing (p_s : List impl_Variable) (p_e : impl_Edit) (r : Int × Bool) (hr : impl_CountFailing p_s p_e = some r) (w0 : World) (m : Mem) (hv : Vis m w0) (s1 : Sl) (h1 : Rd m s1 p_s) (s2 : Sl) (h2 : Rd m s2 p_e.Sets) :
  Ret Tryd.prog 17 [s1.v,(.agg #[s2.v])] w0 (fun v _=>v = (.tuple #[(iV r.1),(.bool r.2)])):=by
 unfold impl_CountFailing at hr
 refine ret_start Tryd.func17 rfl 32 rfl rfl m hv fun a hF hS=>q_seq (q_region (q_box (cs:=[s2.v]) hF hS rfl rfl rfl fun a w b3 hF hS=>q_x (v:=(iV 0)) hF hS (ex_assign rfl) rfl rfl fun a hF=>q_x (v:=(.bool false)) hF hS (ex_assign rfl) rfl rfl fun a hF=>q_end (n_sq (q_seq (q_seq ?_)))))
 obtain ⟨t_6,hj1,hr⟩:=bindS hr
 refine q_join (fun a w=>Fr a 32 [(3,(.pointer (some ⟨b3,0,none⟩))),(17,(.bool t_6))]∧St [] w0 w m [[⟨b3,[s2.v],27⟩]]) ?_ ?_
 ·refine q_region (q_x (v:=s1.v) hF hS (ex_move rfl) rfl rfl fun a hF=>?_)
  obtain ⟨t_4,ht_4,hj1⟩:=bindS hj1
  refine q_call (vs:=[s1.v]) hF hS Tryd.func20 (by kernel_rfl) rfl rfl rfl (c_impl_IsSchema p_s t_4 ht_4 _ m hS.vis s1 h1) ?_
  rintro a w _ rfl hF hS
  refine q_x (v:=(.bool (!t_4))) hF hS (ex_not rfl) rfl rfl fun a hF=>q_x (v:=(.bool (!t_4))) hF hS (ex_move rfl) rfl rfl fun a hF=>?_
  rcases bcase (!t_4) with hc2 | hc2
  ·have hj1:=cond_f hc2 hj1
   refine q_xg (v:=s1.v) hF hS (ex_move rfl) (wanted_t hF rfl rfl rfl hc2) rfl fun a hF=>q_xg (v:=(.agg #[s2.v])) hF hS (ex_loadA (vs:=[s2.v]) 0 0 Tryd.underlying27 rfl sz27 rfl rfl rfl rfl) (wanted_t hF rfl rfl rfl hc2) rfl fun a hF=>?_
   obtain ⟨t_5,ht_5,hj1⟩:=bindS hj1
   refine q_callg (vs:=[s1.v,(.agg #[s2.v])]) hF hS (wanted_t hF rfl rfl rfl hc2) Tryd.func21 (by kernel_rfl) rfl rfl rfl (c_impl_isEdit p_s p_e t_5 ht_5 _ m hS.vis s1 h1 s2 h2) ?_
   rintro a w _ rfl hF hS
   refine q_xg (v:=(.bool (!t_5))) hF hS (ex_not rfl) (wanted_t hF rfl rfl rfl hc2) rfl fun a hF=>q_x (v:=(.bool (!t_5))) hF hS (ex_pick_f rfl rfl hc2) rfl rfl fun a hF=>q_end (n_jn ?_)
   obtain rfl:=someI hj1
   exact ⟨hF.sub ⟨rfl,rfl,trivial⟩,hS⟩
  ·have hj1:=cond_t hc2 hj1
   refine q_skip hF (wanted_f hF rfl rfl rfl hc2 rfl) rfl fun a hF=>q_skip hF (wanted_f hF rfl rfl rfl hc2 rfl) rfl fun a hF=>q_skip hF (wanted_f hF rfl rfl rfl hc2 rfl) rfl fun a hF=>q_skip hF (wanted_f hF rfl rfl rfl hc2 rfl) rfl fun a hF=>q_x (v:=(.bool true)) hF hS (ex_pick_t rfl rfl hc2) rfl rfl fun a hF=>q_end (n_jn ?_)
   obtain rfl:=someI hj1
   exact ⟨hF.sub ⟨rfl,rfl,trivial⟩,hS⟩
 ·rintro a w ⟨hF,hS⟩
  refine n_sq ?_
  rcases bcase (t_6) with hc3 | hc3
  ·have hr:=cond_f hc3 hr
   refine q_cond_f hF rfl hc3 (q_skipc (n_sq (q_seq (q_region (q_x (v:=(iV 1)) hF hS (ex_assign rfl) rfl rfl fun a hF=>q_end (n_sq (q_seq (q_seq (q_region (q_x (v:=(.pointer (some ⟨b3,0,none⟩))) hF hS (ex_fieldAddr Tryd.underlying27 rfl sz25 rfl rfl) rfl rfl fun a hF=>q_x (v:=s2.v) hF hS (ex_load1 0 0 Tryd.underlying25 rfl rfl rfl rfl) rfl rfl fun a hF=>q_x (v:=(iV (goLen p_e.Sets))) hF hS (ex_len Tryd.underlying25 rfl h2.len) rfl rfl fun a hF=>q_x (v:=(iV 0)) hF hS (ex_move rfl) rfl rfl fun a hF=>q_end (n_sq (q_block ?_))))))))))))
   obtain ⟨n_12,hl4,hr⟩:=bindS hr
   refine q_loop (fun (s : Int × Int) a w=>∃ n_7,∃ t_8,s = (n_7,t_8)∧Fr a 32 [(6,(iV n_7)),(19,s2.v),(20,(iV (goLen p_e.Sets))),(21,(iV t_8))]∧St [] w0 w m []) (fun (n_12 : Int) e a w=>e = .exit 0∧Fr a 32 [(6,(iV n_12))]∧St [] w0 w m []) hl4 ⟨_,_,rfl,hF.sub ⟨rfl,rfl,rfl,rfl,trivial⟩,hS.mask [false]⟩ ?_ ?_
   ·clear hF hS
    rintro s a w st ⟨n_7,t_8,rfl,hF,hS⟩ hb4
    unfold impl_CountFailing_l1 at hb4
    refine q_seq (q_region (q_x (v:=(.bool (decide (t_8 < (goLen p_e.Sets))))) hF hS (ex_ibin rfl rfl rfl) rfl rfl fun a hF=>q_end (n_sq (q_seq ?_))))
    rcases bcase (decide (t_8 < (goLen p_e.Sets))) with hc5 | hc5
    ·have hb4:=cond_f hc5 hb4
     refine q_cond_f hF rfl hc5 (q_exit (x_sq ?_))
     obtain rfl:=someI hb4
     exact ⟨nofun,.inl ⟨rfl,hF.sub ⟨rfl,trivial⟩,hS⟩⟩
    ·have hb4:=cond_t hc5 hb4
     refine q_cond_t hF rfl hc5 (q_skipc (n_sq (q_seq (q_block (q_seq (q_region ?_))))))
     obtain ⟨e_9,he_9,hb4⟩:=bindS hb4
     obtain ⟨vs10,at10,d10⟩:=h2.at he_9 1 rfl
     obtain rfl : vs10 = [(iV e_9)]:=d10
     refine q_x (v:=(elP s2 (t_8.toNat * 1))) hF hS (ex_indexAddr Tryd.underlying25 sz3 rfl rfl (h2.idx he_9)) rfl rfl fun a hF=>q_x (v:=(iV e_9)) hF hS (ex_loadE1 0 Tryd.underlying3 rfl rfl ((at10).at) rfl rfl) rfl rfl fun a hF=>q_x (v:=(iV e_9)) hF hS (ex_assign rfl) rfl rfl fun a hF=>q_end (n_sq (q_region (q_x (v:=(iV n_7)) hF hS (ex_move rfl) rfl rfl fun a hF=>q_x (v:=(iV e_9)) hF hS (ex_move rfl) rfl rfl fun a hF=>q_x (v:=(.int .u64 (IntKind.wrap .u64 e_9))) hF hS (ex_conv Tryd.underlying3 Tryd.underlying76 rfl) rfl rfl fun a hF=>?_)))
     obtain ⟨t_11,ht_11,hb4⟩:=bindS hb4
     refine q_call (vs:=[(.int .u64 (IntKind.wrap .u64 e_9))]) hF hS Tryd.func42 (by kernel_rfl) rfl rfl rfl (c_math_bits_OnesCount (⟨(IntKind.wrap .u64 e_9)⟩ : K .u64) t_11 ht_11 _ m hS.vis) ?_
     rintro a w _ rfl hF hS
     refine q_x (v:=(iV (w64 (n_7 * t_11)))) hF hS (ex_ibin rfl rfl rfl) rfl rfl fun a hF=>q_x (v:=(iV (w64 (n_7 * t_11)))) hF hS (ex_assign rfl) rfl rfl fun a hF=>q_end (n_ib (n_sq (q_region (q_x (v:=(iV (w64 (t_8 + 1)))) hF hS (ex_ibin rfl rfl rfl) rfl rfl fun a hF=>q_x (v:=(iV (w64 (t_8 + 1)))) hF hS (ex_move rfl) rfl rfl fun a hF=>q_end ?_))))
     obtain rfl:=someI hb4
     exact ⟨rfl,_,_,rfl,hF.sub ⟨rfl,rfl,rfl,rfl,trivial⟩,hS⟩
   ·rintro e a w ⟨rfl,hF,hS⟩
    refine x_ib (n_sq ?_)
    refine q_seq (q_region (q_x (v:=(iV n_12)) hF hS (ex_move rfl) rfl rfl fun a hF=>q_x (v:=(iV n_12)) hF hS (ex_assign rfl) rfl rfl fun a hF=>q_x (v:=(.bool true)) hF hS (ex_assign rfl) rfl rfl fun a hF=>q_end (n_sq (q_ret ?_))))
    obtain rfl:=someI hr
    exact ret_of hF hS rfl (.tmp rfl (.tmp rfl .nil)) rfl
  ·have hr:=cond_t hc3 hr
   refine q_cond_t hF rfl hc3 (q_seq (q_region (q_x (v:=(iV 0)) hF hS (ex_assign rfl) rfl rfl fun a hF=>q_x (v:=(.bool false)) hF hS (ex_assign rfl) rfl rfl fun a hF=>q_end (n_sq (q_ret (r_sq ?_))))))
   obtain rfl:=someI hr
   exact ret_of hF hS rfl (.tmp rfl (.tmp rfl .nil)) rfl

theorem c_spec_CountFailing (p_s : List impl_Variable) (p_e : impl_Edit) (r : Int × Bool) (hr : spec_CountFailing p_s p_e = some r) (w0 : World) (m : Mem) (hv : Vis m w0) (s1 : Sl) (h1 : Rd m s1 p_s) (s2 : Sl) (h2 : Rd m s2 p_e.Sets) :
  Ret Tryd.prog 18 [s1.v,(.agg #[s2.v])] w0 (fun v _=>v = (.tuple #[(iV r.1),(.bool r.2)])):=by
 unfold spec_CountFailing at hr
 refine ret_start Tryd.func18 rfl 28 rfl rfl m hv fun a hF hS=>q_seq (q_region (q_box (cs:=[s2.v]) hF hS rfl rfl rfl fun a w b3 hF hS=>q_x (v:=(iV 0)) hF hS (ex_assign rfl) rfl rfl fun a hF=>q_x (v:=(.bool false)) hF hS (ex_assign rfl) rfl rfl fun a hF=>q_end (n_sq (q_seq (q_seq (q_region (q_x (v:=s1.v) hF hS (ex_move rfl) rfl rfl fun a hF=>q_x (v:=(.agg #[s2.v])) hF hS (ex_loadA (vs:=[s2.v]) 0 0 Tryd.underlying27 rfl sz27 rfl rfl rfl rfl) rfl rfl fun a hF=>q_do rfl fun _ hK=>wp_buildSlice' (l:=([p_e] : List impl_Edit)) (cells:=[s2.v]) hF hS Tryd.underlying49 inf27 rfl rfl (by kernel_rfl) rfl rfl rfl ⟨⟨s2,rfl,h2⟩,rfl⟩ rfl rfl fun a w q4 s4 hF hS h4 _=>hK _ _ ?_)))))))
 obtain ⟨m6,hl6,hv6,hz6⟩:=hS.lend
 obtain ⟨t_5,ht_5,hr⟩:=bindS hr
 refine q_call (vs:=[s1.v,s4.v]) hF hS Tryd.func23 (by kernel_rfl) rfl rfl rfl (c_spec_eList p_s ([p_e] : List impl_Edit) t_5 ht_5 _ m6 hv6 s1 (h1.mono hl6) s4 (h4.froz hl6 (hz6 0 _ rfl))) ?_
 rintro a w _ rfl hF hS
 refine q_x (v:=(.bool (!t_5))) hF hS (ex_not rfl) rfl rfl fun a hF=>q_end (n_sq ?_)
 rcases bcase (!t_5) with hc1 | hc1
 ·have hr:=cond_f hc1 hr
  refine q_cond_f hF rfl hc1 (q_skipc (n_sq (q_seq (q_region (q_x (v:=(iV 1)) hF hS (ex_assign rfl) rfl rfl fun a hF=>q_end (n_sq (q_seq (q_seq (q_region (q_x (v:=(.pointer (some ⟨b3,0,none⟩))) hF hS (ex_fieldAddr Tryd.underlying27 rfl sz25 rfl rfl) rfl rfl fun a hF=>q_x (v:=s2.v) hF hS (ex_load1 1 0 Tryd.underlying25 rfl rfl rfl rfl) rfl rfl fun a hF=>q_x (v:=(iV (goLen p_e.Sets))) hF hS (ex_len Tryd.underlying25 rfl h2.len) rfl rfl fun a hF=>q_x (v:=(iV 0)) hF hS (ex_move rfl) rfl rfl fun a hF=>q_end (n_sq (q_block ?_))))))))))))
  obtain ⟨n_14,hl2,hr⟩:=bindS hr
  refine q_loop (fun (s : Int × Int) a w=>∃ n_7,∃ t_8,s = (n_7,t_8)∧Fr a 28 [(6,(iV n_7)),(15,s2.v),(16,(iV (goLen p_e.Sets))),(17,(iV t_8))]∧St [] w0 w m []) (fun (n_14 : Int) e a w=>e = .exit 0∧Fr a 28 [(6,(iV n_14))]∧St [] w0 w m []) hl2 ⟨_,_,rfl,hF.sub ⟨rfl,rfl,rfl,rfl,trivial⟩,hS.mask [false,false]⟩ ?_ ?_
  ·clear hF hS
   rintro s a w st ⟨n_7,t_8,rfl,hF,hS⟩ hb2
   unfold spec_CountFailing_l1 at hb2
   refine q_seq (q_region (q_x (v:=(.bool (decide (t_8 < (goLen p_e.Sets))))) hF hS (ex_ibin rfl rfl rfl) rfl rfl fun a hF=>q_end (n_sq (q_seq ?_))))
   rcases bcase (decide (t_8 < (goLen p_e.Sets))) with hc3 | hc3
   ·have hb2:=cond_f hc3 hb2
    refine q_cond_f hF rfl hc3 (q_exit (x_sq ?_))
    obtain rfl:=someI hb2
    exact ⟨nofun,.inl ⟨rfl,hF.sub ⟨rfl,trivial⟩,hS⟩⟩
   ·have hb2:=cond_t hc3 hb2
    refine q_cond_t hF rfl hc3 (q_skipc (n_sq (q_seq (q_block (q_seq (q_region ?_))))))
    obtain ⟨e_9,he_9,hb2⟩:=bindS hb2
    obtain ⟨vs10,at10,d10⟩:=h2.at he_9 1 rfl
    obtain rfl : vs10 = [(iV e_9)]:=d10
    refine q_x (v:=(elP s2 (t_8.toNat * 1))) hF hS (ex_indexAddr Tryd.underlying25 sz3 rfl rfl (h2.idx he_9)) rfl rfl fun a hF=>q_x (v:=(iV e_9)) hF hS (ex_loadE1 0 Tryd.underlying3 rfl rfl ((at10).at) rfl rfl) rfl rfl fun a hF=>q_x (v:=(iV e_9)) hF hS (ex_assign rfl) rfl rfl fun a hF=>q_end (n_sq (q_region (q_x (v:=(iV n_7)) hF hS (ex_move rfl) rfl rfl fun a hF=>q_x (v:=(iV e_9)) hF hS (ex_move rfl) rfl rfl fun a hF=>?_)))
    obtain ⟨t_11,ht_11,hb2⟩:=bindS hb2
    refine q_call (vs:=[(iV e_9)]) hF hS Tryd.func43 (by kernel_rfl) rfl rfl rfl (c_spec_eLevels e_9 t_11 ht_11 _ m hS.vis) ?_
    rintro a w _ ⟨q13,s13,rfl,hR12,h13⟩ hF hS2
    have hS : St _ _ _ _ [q13]:=hS.joinF hR12
    refine q_x (v:=(iV (goLen t_11))) hF hS (ex_len Tryd.underlying25 rfl h13.len) rfl rfl fun a hF=>q_x (v:=(iV (w64 (n_7 * (goLen t_11))))) hF hS (ex_ibin rfl rfl rfl) rfl rfl fun a hF=>q_x (v:=(iV (w64 (n_7 * (goLen t_11))))) hF hS (ex_assign rfl) rfl rfl fun a hF=>q_end (n_ib (n_sq (q_region (q_x (v:=(iV (w64 (t_8 + 1)))) hF hS (ex_ibin rfl rfl rfl) rfl rfl fun a hF=>q_x (v:=(iV (w64 (t_8 + 1)))) hF hS (ex_move rfl) rfl rfl fun a hF=>q_end ?_))))
    obtain rfl:=someI hb2
    exact ⟨rfl,_,_,rfl,hF.sub ⟨rfl,rfl,rfl,rfl,trivial⟩,hS.mask [false]⟩
  ·rintro e a w ⟨rfl,hF,hS⟩
   refine x_ib (n_sq ?_)
   refine q_seq (q_region (q_x (v:=(iV n_14)) hF hS (ex_move rfl) rfl rfl fun a hF=>q_x (v:=(iV n_14)) hF hS (ex_assign rfl) rfl rfl fun a hF=>q_x (v:=(.bool true)) hF hS (ex_assign rfl) rfl rfl fun a hF=>q_end (n_sq (q_ret ?_))))
   obtain rfl:=someI hr
   exact ret_of hF hS rfl (.tmp rfl (.tmp rfl .nil)) rfl
 ·have hr:=cond_t hc1 hr
  refine q_cond_t hF rfl hc1 (q_seq (q_region (q_x (v:=(iV 0)) hF hS (ex_assign rfl) rfl rfl fun a hF=>q_x (v:=(.bool false)) hF hS (ex_assign rfl) rfl rfl fun a hF=>q_end (n_sq (q_ret (r_sq ?_))))))
  obtain rfl:=someI hr
  exact ret_of hF hS rfl (.tmp rfl (.tmp rfl .nil)) rfl

theorem c_laws_FnEdits (p_code : List (K .u8)) (p_more : List (K .u8)) (r : Bool) (hr : laws_FnEdits p_code p_more = some r) (w0 : World) (m : Mem) (hv : Vis m w0) (ht : Tbl m) (s1 : Sl) (h1 : Rd m s1 p_code) (s2 : Sl) (h2 : Rd m s2 p_more) :
  Ret Tryd.prog 3 [s1.v,s2.v] w0 (fun v _=>v = (.bool r)):=by
 unfold laws_FnEdits at hr
 refine ret_start Tryd.func3 rfl 213 rfl rfl m hv fun a hF hS=>q_seq (q_region (q_x (v:=(.bool false)) hF hS (ex_assign rfl) rfl rfl fun a hF=>q_end (n_sq (q_seq (q_seq (q_region (q_x (v:=s1.v) hF hS (ex_move rfl) rfl rfl fun a hF=>q_x (v:=s2.v) hF hS (ex_move rfl) rfl rfl fun a hF=>?_)))))))
 obtain ⟨t_3,ht_3,hr⟩:=bindS hr
 refine q_call (vs:=[s1.v,s2.v]) hF hS Tryd.func4 (by kernel_rfl) rfl rfl rfl (c_laws_big p_code p_more t_3 ht_3 _ m hS.vis s1 h1 s2 h2) ?_
 rintro a w _ rfl hF hS
 refine q_end (n_sq ?_)
 rcases bcase (t_3) with hc1 | hc1
 ·have hr:=cond_f hc1 hr
  refine q_cond_f hF rfl hc1 (q_skipc (n_sq (q_seq (q_region (q_x (v:=s1.v) hF hS (ex_move rfl) rfl rfl fun a hF=>?_)))))
  obtain ⟨t_4,ht_4,hr⟩:=bindS hr
  refine q_call (vs:=[s1.v]) hF hS Tryd.func5 (by kernel_rfl) rfl rfl rfl (c_spec_DrawMeetEdits p_code t_4 ht_4 _ m hS.vis s1 h1) ?_
  rintro a w _ ⟨q6,q7,q8,s6,s7,s8,rfl,hR5,h6,h7,h8⟩ hF hS2
  have hS : St _ _ _ _ [q6,q7,q8]:=hS.joinF hR5
  refine q_x (v:=(.tuple #[s6.v,(.agg #[s7.v]),(.agg #[s8.v])])) hF hS (ex_move rfl) rfl rfl fun a hF=>q_x (v:=s6.v) hF hS (ex_extract rfl rfl) rfl rfl fun a hF=>q_x (v:=(.agg #[s7.v])) hF hS (ex_extract rfl rfl) rfl rfl fun a hF=>q_x (v:=(.agg #[s8.v])) hF hS (ex_extract rfl rfl) rfl rfl fun a hF=>q_alloc (cs:=[nilS.v]) hF hS rfl rfl rfl fun a w b9 hF hS=>q_alloc (cs:=[nilS.v]) hF hS rfl rfl rfl fun a w b10 hF hS=>q_x (v:=s6.v) hF hS (ex_assign rfl) rfl rfl fun a hF=>q_store (vs:=[s7.v]) (cs':=[s7.v]) 1 0 hF hS sz27 rfl rfl rfl rfl rfl rfl rfl rfl fun a w hF hS=>q_store (vs:=[s8.v]) (cs':=[s8.v]) 0 0 hF hS sz27 rfl rfl rfl rfl rfl rfl rfl rfl fun a w hF hS=>q_end (n_sq (q_seq (q_region (q_x (v:=s6.v) hF hS (ex_move rfl) rfl rfl fun a hF=>q_x (v:=(.agg #[s7.v])) hF hS (ex_loadA (vs:=[s7.v]) 1 0 Tryd.underlying27 rfl sz27 rfl rfl rfl rfl) rfl rfl fun a hF=>q_x (v:=(.agg #[s8.v])) hF hS (ex_loadA (vs:=[s8.v]) 0 0 Tryd.underlying27 rfl sz27 rfl rfl rfl rfl) rfl rfl fun a hF=>?_))))
  obtain ⟨m12,hl12,hv12,hz12⟩:=hS.lend
  obtain ⟨t_11,ht_11,hr⟩:=bindS hr
  refine q_call (vs:=[s6.v,(.agg #[s7.v]),(.agg #[s8.v])]) hF hS Tryd.func6 (by kernel_rfl) rfl rfl rfl (c_impl_MeetEdits t_4.1 t_4.2.1 t_4.2.2 t_11 ht_11 _ m12 hv12 s6 (h6.froz hl12 (hz12 2 _ rfl)) s7 (h7.froz hl12 (hz12 3 _ rfl)) s8 (h8.froz hl12 (hz12 4 _ rfl))) ?_
  rintro a w _ ⟨q14,s14,rfl,hR13,h14⟩ hF hS2
  have hS : St _ _ _ _ [q14,[⟨b10,[s8.v],27⟩],[⟨b9,[s7.v],27⟩],q6,q7,q8]:=hS.joinF hR13
  have h14:=h14.any m
  refine q_x (v:=(.tuple #[(.agg #[s14.v]),(.bool t_11.2)])) hF hS (ex_move rfl) rfl rfl fun a hF=>q_x (v:=(.agg #[s14.v])) hF hS (ex_extract rfl rfl) rfl rfl fun a hF=>q_x (v:=(.bool t_11.2)) hF hS (ex_extract rfl rfl) rfl rfl fun a hF=>q_alloc (cs:=[nilS.v]) hF hS rfl rfl rfl fun a w b15 hF hS=>q_store (vs:=[s14.v]) (cs':=[s14.v]) 0 0 hF hS sz27 rfl rfl rfl rfl rfl rfl rfl rfl fun a w hF hS=>q_x (v:=(.bool t_11.2)) hF hS (ex_assign rfl) rfl rfl fun a hF=>q_end (n_sq (q_seq (q_region (q_x (v:=s6.v) hF hS (ex_move rfl) rfl rfl fun a hF=>q_x (v:=(.agg #[s7.v])) hF hS (ex_loadA (vs:=[s7.v]) 3 0 Tryd.underlying27 rfl sz27 rfl rfl rfl rfl) rfl rfl fun a hF=>q_x (v:=(.agg #[s8.v])) hF hS (ex_loadA (vs:=[s8.v]) 2 0 Tryd.underlying27 rfl sz27 rfl rfl rfl rfl) rfl rfl fun a hF=>?_))))
  obtain ⟨m17,hl17,hv17,hz17⟩:=hS.lend
  obtain ⟨t_16,ht_16,hr⟩:=bindS hr
  refine q_call (vs:=[s6.v,(.agg #[s7.v]),(.agg #[s8.v])]) hF hS Tryd.func7 (by kernel_rfl) rfl rfl rfl (c_spec_MeetEdits t_4.1 t_4.2.1 t_4.2.2 t_16 ht_16 _ m17 hv17 s6 (h6.froz hl17 (hz17 4 _ rfl)) s7 (h7.froz hl17 (hz17 5 _ rfl)) s8 (h8.froz hl17 (hz17 6 _ rfl))) ?_
  rintro a w _ ⟨q19,s19,rfl,hR18,h19⟩ hF hS2
  have hS : St _ _ _ _ [q19,[⟨b15,[s14.v],27⟩],q14,[⟨b10,[s8.v],27⟩],[⟨b9,[s7.v],27⟩],q6,q7,q8]:=hS.joinF hR18
  have h19:=h19.any m
  refine q_x (v:=(.tuple #[(.agg #[s19.v]),(.bool t_16.2)])) hF hS (ex_move rfl) rfl rfl fun a hF=>q_x (v:=(.agg #[s19.v])) hF hS (ex_extract rfl rfl) rfl rfl fun a hF=>q_x (v:=(.bool t_16.2)) hF hS (ex_extract rfl rfl) rfl rfl fun a hF=>q_alloc (cs:=[nilS.v]) hF hS rfl rfl rfl fun a w b20 hF hS=>q_store (vs:=[s19.v]) (cs':=[s19.v]) 0 0 hF hS sz27 rfl rfl rfl rfl rfl rfl rfl rfl fun a w hF hS=>q_x (v:=(.bool t_16.2)) hF hS (ex_assign rfl) rfl rfl fun a hF=>q_end (n_sq (q_seq (q_seq ?_)))
  obtain ⟨t_23,hj2,hr⟩:=bindS hr
  refine q_join (fun a w=>Fr a 213 [(1,s2.v),(5,s6.v),(6,(.pointer (some ⟨b9,0,none⟩))),(7,(.pointer (some ⟨b10,0,none⟩))),(8,(.pointer (some ⟨b15,0,none⟩))),(9,(.bool t_11.2)),(70,(.bool t_23))]∧St [] w0 w m [q6,q14,q8,q7,[⟨b15,[s14.v],27⟩],[⟨b10,[s8.v],27⟩],[⟨b9,[s7.v],27⟩]]) ?_ ?_
  ·refine q_region (q_x (v:=(.bool t_11.2)) hF hS (ex_move rfl) rfl rfl fun a hF=>q_x (v:=(.bool t_16.2)) hF hS (ex_move rfl) rfl rfl fun a hF=>q_x (v:=(.bool (t_11.2 != t_16.2))) hF hS (ex_bne Tryd.underlying4 rfl rfl) rfl rfl fun a hF=>q_x (v:=(.bool (t_11.2 != t_16.2))) hF hS (ex_move rfl) rfl rfl fun a hF=>?_)
   rcases bcase (t_11.2 != t_16.2) with hc3 | hc3
   ·have hj2:=cond_f hc3 hj2
    refine q_xg (v:=(.pointer (some ⟨b15,0,none⟩))) hF hS (ex_fieldAddr Tryd.underlying27 rfl sz25 rfl rfl) (wanted_t hF rfl rfl rfl hc3) rfl fun a hF=>q_xg (v:=s14.v) hF hS (ex_load1 2 0 Tryd.underlying25 rfl rfl rfl rfl) (wanted_t hF rfl rfl rfl hc3) rfl fun a hF=>q_xg (v:=(.pointer (some ⟨b20,0,none⟩))) hF hS (ex_fieldAddr Tryd.underlying27 rfl sz25 rfl rfl) (wanted_t hF rfl rfl rfl hc3) rfl fun a hF=>q_xg (v:=s19.v) hF hS (ex_load1 0 0 Tryd.underlying25 rfl rfl rfl rfl) (wanted_t hF rfl rfl rfl hc3) rfl fun a hF=>?_
    obtain ⟨m22,hl22,hv22,hz22⟩:=hS.lend
    obtain ⟨t_21,ht_21,hj2⟩:=bindS hj2
    refine q_callg (vs:=[s14.v,s19.v]) hF hS (wanted_t hF rfl rfl rfl hc3) Tryd.func8 (by kernel_rfl) rfl rfl rfl (c_laws_sameInts t_11.1.Sets t_16.1.Sets t_21 ht_21 _ m22 hv22 s14 (h14.froz hl22 (hz22 3 _ rfl)) s19 (h19.froz hl22 (hz22 1 _ rfl))) ?_
    rintro a w _ rfl hF hS
    refine q_xg (v:=(.bool (!t_21))) hF hS (ex_not rfl) (wanted_t hF rfl rfl rfl hc3) rfl fun a hF=>q_x (v:=(.bool (!t_21))) hF hS (ex_pick_f rfl rfl hc3) rfl rfl fun a hF=>q_end (n_jn ?_)
    obtain rfl:=someI hj2
    exact ⟨hF.sub ⟨rfl,rfl,rfl,rfl,rfl,rfl,rfl,trivial⟩,hS.sel [6,3,8,7,2,4,5] (by decide)⟩
   ·have hj2:=cond_t hc3 hj2
    refine q_skip hF (wanted_f hF rfl rfl rfl hc3 rfl) rfl fun a hF=>q_skip hF (wanted_f hF rfl rfl rfl hc3 rfl) rfl fun a hF=>q_skip hF (wanted_f hF rfl rfl rfl hc3 rfl) rfl fun a hF=>q_skip hF (wanted_f hF rfl rfl rfl hc3 rfl) rfl fun a hF=>q_skip hF (wanted_f hF rfl rfl rfl hc3 rfl) rfl fun a hF=>q_skip hF (wanted_f hF rfl rfl rfl hc3 rfl) rfl fun a hF=>q_x (v:=(.bool true)) hF hS (ex_pick_t rfl rfl hc3) rfl rfl fun a hF=>q_end (n_jn ?_)
    obtain rfl:=someI hj2
    exact ⟨hF.sub ⟨rfl,rfl,rfl,rfl,rfl,rfl,rfl,trivial⟩,hS.sel [6,3,8,7,2,4,5] (by decide)⟩
  ·rintro a w ⟨hF,hS⟩
   refine n_sq ?_
   rcases bcase (t_23) with hc4 | hc4
   ·have hr:=cond_f hc4 hr
    refine q_cond_f hF rfl hc4 (q_skipc (n_sq (q_seq (q_region (q_x (v:=s2.v) hF hS (ex_move rfl) rfl rfl fun a hF=>?_)))))
    obtain ⟨t_24,ht_24,hr⟩:=bindS hr
    refine q_call (vs:=[s2.v]) hF hS Tryd.func9 (by kernel_rfl) rfl rfl rfl (c_spec_DrawFailsEdit p_more t_24 ht_24 _ m hS.vis s2 h2) ?_
    rintro a w _ ⟨q26,q27,q28,s26,s27,s28,rfl,hR25,h26,h27,h28⟩ hF hS2
    have hS : St _ _ _ _ [q26,q27,q28,q6,q14,q8,q7,[⟨b15,[s14.v],27⟩],[⟨b10,[s8.v],27⟩],[⟨b9,[s7.v],27⟩]]:=hS.joinF hR25
    refine q_x (v:=(.tuple #[s26.v,(.agg #[s27.v]),s28.v])) hF hS (ex_move rfl) rfl rfl fun a hF=>q_x (v:=s26.v) hF hS (ex_extract rfl rfl) rfl rfl fun a hF=>q_x (v:=(.agg #[s27.v])) hF hS (ex_extract rfl rfl) rfl rfl fun a hF=>q_x (v:=s28.v) hF hS (ex_extract rfl rfl) rfl rfl fun a hF=>q_alloc (cs:=[nilS.v]) hF hS rfl rfl rfl fun a w b29 hF hS=>q_x (v:=s26.v) hF hS (ex_assign rfl) rfl rfl fun a hF=>q_store (vs:=[s27.v]) (cs':=[s27.v]) 0 0 hF hS sz27 rfl rfl rfl rfl rfl rfl rfl rfl fun a w hF hS=>q_x (v:=s28.v) hF hS (ex_assign rfl) rfl rfl fun a hF=>q_end (n_sq (q_seq (q_region (q_x (v:=s6.v) hF hS (ex_move rfl) rfl rfl fun a hF=>q_x (v:=(.agg #[s7.v])) hF hS (ex_loadA (vs:=[s7.v]) 10 0 Tryd.underlying27 rfl sz27 rfl rfl rfl rfl) rfl rfl fun a hF=>q_x (v:=s28.v) hF hS (ex_move rfl) rfl rfl fun a hF=>?_))))
    obtain ⟨m31,hl31,hv31,hz31⟩:=hS.lend
    obtain ⟨t_30,ht_30,hr⟩:=bindS hr
    refine q_call (vs:=[s6.v,(.agg #[s7.v]),s28.v]) hF hS Tryd.func10 (by kernel_rfl) rfl rfl rfl (c_impl_FailsEdit t_4.1 t_4.2.1 t_24.2.2 t_30 ht_30 _ m31 hv31 s6 (h6.froz hl31 (hz31 4 _ rfl)) s7 (h7.froz hl31 (hz31 7 _ rfl)) s28 (h28.froz hl31 (hz31 3 _ rfl))) ?_
    rintro a w _ rfl hF hS
    refine q_x (v:=(.tuple #[(.bool t_30.1),(.bool t_30.2)])) hF hS (ex_move rfl) rfl rfl fun a hF=>q_x (v:=(.bool t_30.1)) hF hS (ex_extract rfl rfl) rfl rfl fun a hF=>q_x (v:=(.bool t_30.2)) hF hS (ex_extract rfl rfl) rfl rfl fun a hF=>q_x (v:=(.bool t_30.1)) hF hS (ex_assign rfl) rfl rfl fun a hF=>q_x (v:=(.bool t_30.2)) hF hS (ex_assign rfl) rfl rfl fun a hF=>q_end (n_sq (q_seq (q_region (q_x (v:=s6.v) hF hS (ex_move rfl) rfl rfl fun a hF=>q_x (v:=(.agg #[s8.v])) hF hS (ex_loadA (vs:=[s8.v]) 9 0 Tryd.underlying27 rfl sz27 rfl rfl rfl rfl) rfl rfl fun a hF=>q_x (v:=s28.v) hF hS (ex_move rfl) rfl rfl fun a hF=>?_))))
    obtain ⟨m33,hl33,hv33,hz33⟩:=hS.lend
    obtain ⟨t_32,ht_32,hr⟩:=bindS hr
    refine q_call (vs:=[s6.v,(.agg #[s8.v]),s28.v]) hF hS Tryd.func10 (by kernel_rfl) rfl rfl rfl (c_impl_FailsEdit t_4.1 t_4.2.2 t_24.2.2 t_32 ht_32 _ m33 hv33 s6 (h6.froz hl33 (hz33 4 _ rfl)) s8 (h8.froz hl33 (hz33 6 _ rfl)) s28 (h28.froz hl33 (hz33 3 _ rfl))) ?_
    rintro a w _ rfl hF hS
    refine q_x (v:=(.tuple #[(.bool t_32.1),(.bool t_32.2)])) hF hS (ex_move rfl) rfl rfl fun a hF=>q_x (v:=(.bool t_32.1)) hF hS (ex_extract rfl rfl) rfl rfl fun a hF=>q_x (v:=(.bool t_32.2)) hF hS (ex_extract rfl rfl) rfl rfl fun a hF=>q_x (v:=(.bool t_32.1)) hF hS (ex_assign rfl) rfl rfl fun a hF=>q_x (v:=(.bool t_32.2)) hF hS (ex_assign rfl) rfl rfl fun a hF=>q_end (n_sq (q_seq (q_seq ?_)))
    obtain ⟨t_34,hj5,hr⟩:=bindS hr
    refine q_join (fun a w=>Fr a 213 [(1,s2.v),(5,s6.v),(6,(.pointer (some ⟨b9,0,none⟩))),(7,(.pointer (some ⟨b10,0,none⟩))),(8,(.pointer (some ⟨b15,0,none⟩))),(14,s28.v),(15,(.bool t_30.1)),(16,(.bool t_30.2)),(17,(.bool t_32.1)),(18,(.bool t_32.2)),(97,(.bool t_34))]∧St [] w0 w m [q6,q28,q14,q8,q7,[⟨b15,[s14.v],27⟩],[⟨b10,[s8.v],27⟩],[⟨b9,[s7.v],27⟩]]) ?_ ?_
    ·refine q_region (q_x (v:=(.bool t_11.2)) hF hS (ex_move rfl) rfl rfl fun a hF=>q_x (v:=(.bool t_11.2)) hF hS (ex_move rfl) rfl rfl fun a hF=>?_)
     rcases bcase (t_11.2) with hc6 | hc6
     ·have hj5:=cond_f hc6 hj5
      refine q_skip hF (wanted_f hF rfl rfl rfl hc6 rfl) rfl fun a hF=>q_x (v:=(.bool false)) hF hS (ex_pick_f rfl rfl hc6) rfl rfl fun a hF=>q_x (v:=(.bool false)) hF hS (ex_move rfl) rfl rfl fun a hF=>q_skip hF (wanted_f hF rfl rfl rfl rfl rfl) rfl fun a hF=>q_x (v:=(.bool false)) hF hS (ex_pick_f rfl rfl rfl) rfl rfl fun a hF=>q_end (n_jn ?_)
      obtain rfl:=someI hj5
      exact ⟨hF.sub ⟨rfl,rfl,rfl,rfl,rfl,rfl,rfl,rfl,rfl,rfl,rfl,trivial⟩,hS.sel [4,3,5,6,7,8,9,10] (by decide)⟩
     ·have hj5:=cond_t hc6 hj5
      refine q_xg (v:=(.bool t_30.2)) hF hS (ex_move rfl) (wanted_t hF rfl rfl rfl hc6) rfl fun a hF=>q_x (v:=(.bool t_30.2)) hF hS (ex_pick_t rfl rfl hc6) rfl rfl fun a hF=>q_x (v:=(.bool t_30.2)) hF hS (ex_move rfl) rfl rfl fun a hF=>?_
      rcases bcase (t_30.2) with hc7 | hc7
      ·have hj5:=cond_f hc7 hj5
       refine q_skip hF (wanted_f hF rfl rfl rfl hc7 rfl) rfl fun a hF=>q_x (v:=(.bool false)) hF hS (ex_pick_f rfl rfl hc7) rfl rfl fun a hF=>q_end (n_jn ?_)
       obtain rfl:=someI hj5
       exact ⟨hF.sub ⟨rfl,rfl,rfl,rfl,rfl,rfl,rfl,rfl,rfl,rfl,rfl,trivial⟩,hS.sel [4,3,5,6,7,8,9,10] (by decide)⟩
      ·have hj5:=cond_t hc7 hj5
       refine q_xg (v:=(.bool t_32.2)) hF hS (ex_move rfl) (wanted_t hF rfl rfl rfl hc7) rfl fun a hF=>q_x (v:=(.bool t_32.2)) hF hS (ex_pick_t rfl rfl hc7) rfl rfl fun a hF=>q_end (n_jn ?_)
       obtain rfl:=someI hj5
       exact ⟨hF.sub ⟨rfl,rfl,rfl,rfl,rfl,rfl,rfl,rfl,rfl,rfl,rfl,trivial⟩,hS.sel [4,3,5,6,7,8,9,10] (by decide)⟩
    ·rintro a w ⟨hF,hS⟩
     refine n_sq ?_
     obtain ⟨j8,hj8,hr⟩:=bindS hr
     refine q_join (fun a w=>j8 = .inl ()∧Fr a 213 [(1,s2.v),(5,s6.v),(6,(.pointer (some ⟨b9,0,none⟩))),(7,(.pointer (some ⟨b10,0,none⟩))),(15,(.bool t_30.1)),(16,(.bool t_30.2)),(17,(.bool t_32.1)),(18,(.bool t_32.2))]∧St [] w0 w m [q6,q8,q7,[⟨b10,[s8.v],27⟩],[⟨b9,[s7.v],27⟩]]) ?_ ?_
     ·rcases bcase (t_34) with hc9 | hc9
      ·have hj8:=cond_f hc9 hj8
       refine q_cond_f hF rfl hc9 (q_skipc (n_jn ?_))
       obtain rfl:=someI hj8
       exact ⟨rfl,hF.sub ⟨rfl,rfl,rfl,rfl,rfl,rfl,rfl,rfl,trivial⟩,hS.mask [true,false,false,true,true,false,true,true]⟩
      ·have hj8:=cond_t hc9 hj8
       refine q_cond_t hF rfl hc9 (q_seq (q_region (q_x (v:=s6.v) hF hS (ex_move rfl) rfl rfl fun a hF=>q_x (v:=(.agg #[s14.v])) hF hS (ex_loadA (vs:=[s14.v]) 5 0 Tryd.underlying27 rfl sz27 rfl rfl rfl rfl) rfl rfl fun a hF=>q_x (v:=s28.v) hF hS (ex_move rfl) rfl rfl fun a hF=>?_)))
       obtain ⟨m36,hl36,hv36,hz36⟩:=hS.lend
       obtain ⟨t_35,ht_35,hj8⟩:=bindS hj8
       refine q_call (vs:=[s6.v,(.agg #[s14.v]),s28.v]) hF hS Tryd.func10 (by kernel_rfl) rfl rfl rfl (c_impl_FailsEdit t_4.1 t_11.1 t_24.2.2 t_35 ht_35 _ m36 hv36 s6 (h6.froz hl36 (hz36 0 _ rfl)) s14 (h14.froz hl36 (hz36 2 _ rfl)) s28 (h28.froz hl36 (hz36 1 _ rfl))) ?_
       rintro a w _ rfl hF hS
       refine q_x (v:=(.tuple #[(.bool t_35.1),(.bool t_35.2)])) hF hS (ex_move rfl) rfl rfl fun a hF=>q_x (v:=(.bool t_35.1)) hF hS (ex_extract rfl rfl) rfl rfl fun a hF=>q_x (v:=(.bool t_35.2)) hF hS (ex_extract rfl rfl) rfl rfl fun a hF=>q_x (v:=(.bool t_35.1)) hF hS (ex_assign rfl) rfl rfl fun a hF=>q_x (v:=(.bool t_35.2)) hF hS (ex_assign rfl) rfl rfl fun a hF=>q_end (n_sq (q_seq ?_))
       obtain ⟨t_37,hj10,hj8⟩:=bindS hj8
       refine q_join (fun a w=>Fr a 213 [(1,s2.v),(5,s6.v),(6,(.pointer (some ⟨b9,0,none⟩))),(7,(.pointer (some ⟨b10,0,none⟩))),(15,(.bool t_30.1)),(16,(.bool t_30.2)),(17,(.bool t_32.1)),(18,(.bool t_32.2)),(114,(.bool t_37))]∧St [] w0 w m [q6,q8,q7,[⟨b10,[s8.v],27⟩],[⟨b9,[s7.v],27⟩]]) ?_ ?_
       ·refine q_region (q_x (v:=(.bool t_35.2)) hF hS (ex_move rfl) rfl rfl fun a hF=>q_x (v:=(.bool (!t_35.2))) hF hS (ex_not rfl) rfl rfl fun a hF=>q_x (v:=(.bool (!t_35.2))) hF hS (ex_move rfl) rfl rfl fun a hF=>?_)
        rcases bcase (!t_35.2) with hc11 | hc11
        ·have hj10:=cond_f hc11 hj10
         refine q_xg (v:=(.bool t_35.1)) hF hS (ex_move rfl) (wanted_t hF rfl rfl rfl hc11) rfl fun a hF=>q_xg (v:=(.bool t_30.1)) hF hS (ex_move rfl) (wanted_t hF rfl rfl rfl hc11) rfl fun a hF=>q_xg (v:=(.bool t_30.1)) hF hS (ex_move rfl) (wanted_t hF rfl rfl rfl hc11) rfl fun a hF=>?_
         rcases bcase (t_30.1) with hc12 | hc12
         ·have hj10:=cond_f hc12 hj10
          refine q_skip hF (wanted_f hF rfl rfl rfl hc12 rfl) rfl fun a hF=>q_xg (v:=(.bool false)) hF hS (ex_pick_f rfl rfl hc12) (wanted_t hF rfl rfl rfl hc11) rfl fun a hF=>q_xg (v:=(.bool (t_35.1 != false))) hF hS (ex_bne Tryd.underlying4 rfl rfl) (wanted_t hF rfl rfl rfl hc11) rfl fun a hF=>q_x (v:=(.bool (t_35.1 != false))) hF hS (ex_pick_f rfl rfl hc11) rfl rfl fun a hF=>q_end (n_jn ?_)
          obtain rfl:=someI hj10
          exact ⟨hF.sub ⟨rfl,rfl,rfl,rfl,rfl,rfl,rfl,rfl,rfl,trivial⟩,hS.mask [true,false,false,true,true,false,true,true]⟩
         ·have hj10:=cond_t hc12 hj10
          refine q_xg (v:=(.bool t_32.1)) hF hS (ex_move rfl) (wanted_t hF rfl rfl rfl hc12) rfl fun a hF=>q_xg (v:=(.bool t_32.1)) hF hS (ex_pick_t rfl rfl hc12) (wanted_t hF rfl rfl rfl hc11) rfl fun a hF=>q_xg (v:=(.bool (t_35.1 != t_32.1))) hF hS (ex_bne Tryd.underlying4 rfl rfl) (wanted_t hF rfl rfl rfl hc11) rfl fun a hF=>q_x (v:=(.bool (t_35.1 != t_32.1))) hF hS (ex_pick_f rfl rfl hc11) rfl rfl fun a hF=>q_end (n_jn ?_)
          obtain rfl:=someI hj10
          exact ⟨hF.sub ⟨rfl,rfl,rfl,rfl,rfl,rfl,rfl,rfl,rfl,trivial⟩,hS.mask [true,false,false,true,true,false,true,true]⟩
        ·have hj10:=cond_t hc11 hj10
         refine q_skip hF (wanted_f hF rfl rfl rfl hc11 rfl) rfl fun a hF=>q_skip hF (wanted_f hF rfl rfl rfl hc11 rfl) rfl fun a hF=>q_skip hF (wanted_f hF rfl rfl rfl hc11 rfl) rfl fun a hF=>q_skip hF (wanted_u hF rfl rfl rfl) rfl fun a hF=>q_skip hF (wanted_f hF rfl rfl rfl hc11 rfl) rfl fun a hF=>q_skip hF (wanted_f hF rfl rfl rfl hc11 rfl) rfl fun a hF=>q_x (v:=(.bool true)) hF hS (ex_pick_t rfl rfl hc11) rfl rfl fun a hF=>q_end (n_jn ?_)
         obtain rfl:=someI hj10
         exact ⟨hF.sub ⟨rfl,rfl,rfl,rfl,rfl,rfl,rfl,rfl,rfl,trivial⟩,hS.mask [true,false,false,true,true,false,true,true]⟩
       ·rintro a w ⟨hF,hS⟩
        refine n_sq ?_
        rcases bcase (t_37) with hc13 | hc13
        ·have hj8:=cond_f hc13 hj8
         refine q_cond_f hF rfl hc13 (q_skipc (n_jn ?_))
         obtain rfl:=someI hj8
         exact ⟨rfl,hF.sub ⟨rfl,rfl,rfl,rfl,rfl,rfl,rfl,rfl,trivial⟩,hS⟩
        ·have hj8:=cond_t hc13 hj8
         refine q_cond_t hF rfl hc13 (q_seq (q_region (q_x (v:=(.bool false)) hF hS (ex_assign rfl) rfl rfl fun a hF=>q_end (n_sq (q_ret (r_jn ?_))))))
         obtain rfl:=someI hj8
         refine r_sq ?_
         obtain rfl:=someI hr
         exact ret_of hF hS rfl (.tmp rfl .nil) rfl
     ·rintro a w ⟨rfl,hF,hS⟩
      refine n_sq ?_
      refine q_seq (q_region (q_x (v:=s6.v) hF hS (ex_move rfl) rfl rfl fun a hF=>q_x (v:=(.agg #[s7.v])) hF hS (ex_loadA (vs:=[s7.v]) 4 0 Tryd.underlying27 rfl sz27 rfl rfl rfl rfl) rfl rfl fun a hF=>q_x (v:=(.agg #[s8.v])) hF hS (ex_loadA (vs:=[s8.v]) 3 0 Tryd.underlying27 rfl sz27 rfl rfl rfl rfl) rfl rfl fun a hF=>?_))
      obtain ⟨m39,hl39,hv39,hz39⟩:=hS.lend
      obtain ⟨t_38,ht_38,hr⟩:=bindS hr
      refine q_call (vs:=[s6.v,(.agg #[s7.v]),(.agg #[s8.v])]) hF hS Tryd.func11 (by kernel_rfl) rfl rfl rfl (c_impl_ContainsEdit t_4.1 t_4.2.1 t_4.2.2 t_38 ht_38 _ m39 hv39 s6 (h6.froz hl39 (hz39 0 _ rfl)) s7 (h7.froz hl39 (hz39 2 _ rfl)) s8 (h8.froz hl39 (hz39 1 _ rfl))) ?_
      rintro a w _ rfl hF hS
      refine q_x (v:=(.tuple #[(.bool t_38.1),(.bool t_38.2)])) hF hS (ex_move rfl) rfl rfl fun a hF=>q_x (v:=(.bool t_38.1)) hF hS (ex_extract rfl rfl) rfl rfl fun a hF=>q_x (v:=(.bool t_38.2)) hF hS (ex_extract rfl rfl) rfl rfl fun a hF=>q_x (v:=(.bool t_38.1)) hF hS (ex_assign rfl) rfl rfl fun a hF=>q_x (v:=(.bool t_38.2)) hF hS (ex_assign rfl) rfl rfl fun a hF=>q_end (n_sq (q_seq (q_region (q_x (v:=s6.v) hF hS (ex_move rfl) rfl rfl fun a hF=>q_x (v:=(.agg #[s7.v])) hF hS (ex_loadA (vs:=[s7.v]) 4 0 Tryd.underlying27 rfl sz27 rfl rfl rfl rfl) rfl rfl fun a hF=>q_x (v:=(.agg #[s8.v])) hF hS (ex_loadA (vs:=[s8.v]) 3 0 Tryd.underlying27 rfl sz27 rfl rfl rfl rfl) rfl rfl fun a hF=>?_))))
      obtain ⟨m41,hl41,hv41,hz41⟩:=hS.lend
      obtain ⟨t_40,ht_40,hr⟩:=bindS hr
      refine q_call (vs:=[s6.v,(.agg #[s7.v]),(.agg #[s8.v])]) hF hS Tryd.func12 (by kernel_rfl) rfl rfl rfl (c_spec_ContainsEdit t_4.1 t_4.2.1 t_4.2.2 t_40 ht_40 _ m41 hv41 s6 (h6.froz hl41 (hz41 0 _ rfl)) s7 (h7.froz hl41 (hz41 2 _ rfl)) s8 (h8.froz hl41 (hz41 1 _ rfl))) ?_
      rintro a w _ rfl hF hS
      refine q_x (v:=(.tuple #[(.bool t_40.1),(.bool t_40.2)])) hF hS (ex_move rfl) rfl rfl fun a hF=>q_x (v:=(.bool t_40.1)) hF hS (ex_extract rfl rfl) rfl rfl fun a hF=>q_x (v:=(.bool t_40.2)) hF hS (ex_extract rfl rfl) rfl rfl fun a hF=>q_x (v:=(.bool t_40.1)) hF hS (ex_assign rfl) rfl rfl fun a hF=>q_x (v:=(.bool t_40.2)) hF hS (ex_assign rfl) rfl rfl fun a hF=>q_end (n_sq (q_seq (q_seq ?_)))
      obtain ⟨t_42,hj14,hr⟩:=bindS hr
      refine q_join (fun a w=>Fr a 213 [(1,s2.v),(152,(.bool t_42))]∧St [] w0 w m []) ?_ ?_
      ·refine q_region (q_x (v:=(.bool t_38.2)) hF hS (ex_move rfl) rfl rfl fun a hF=>q_x (v:=(.bool t_40.2)) hF hS (ex_move rfl) rfl rfl fun a hF=>q_x (v:=(.bool (t_38.2 != t_40.2))) hF hS (ex_bne Tryd.underlying4 rfl rfl) rfl rfl fun a hF=>q_x (v:=(.bool (t_38.2 != t_40.2))) hF hS (ex_move rfl) rfl rfl fun a hF=>?_)
       rcases bcase (t_38.2 != t_40.2) with hc15 | hc15
       ·have hj14:=cond_f hc15 hj14
        refine q_xg (v:=(.bool t_38.1)) hF hS (ex_move rfl) (wanted_t hF rfl rfl rfl hc15) rfl fun a hF=>q_xg (v:=(.bool t_40.1)) hF hS (ex_move rfl) (wanted_t hF rfl rfl rfl hc15) rfl fun a hF=>q_xg (v:=(.bool (t_38.1 != t_40.1))) hF hS (ex_bne Tryd.underlying4 rfl rfl) (wanted_t hF rfl rfl rfl hc15) rfl fun a hF=>q_x (v:=(.bool (t_38.1 != t_40.1))) hF hS (ex_pick_f rfl rfl hc15) rfl rfl fun a hF=>q_x (v:=(.bool (t_38.1 != t_40.1))) hF hS (ex_move rfl) rfl rfl fun a hF=>?_
        rcases bcase (t_38.1 != t_40.1) with hc16 | hc16
        ·have hj14:=cond_f hc16 hj14
         refine q_xg (v:=(.bool t_38.1)) hF hS (ex_move rfl) (wanted_t hF rfl rfl rfl hc16) rfl fun a hF=>q_xg (v:=(.bool t_38.1)) hF hS (ex_move rfl) (wanted_t hF rfl rfl rfl hc16) rfl fun a hF=>?_
         rcases bcase (t_38.1) with hc17 | hc17
         ·have hj14:=cond_f hc17 hj14
          refine q_skip hF (wanted_f hF rfl rfl rfl hc17 rfl) rfl fun a hF=>q_xg (v:=(.bool false)) hF hS (ex_pick_f rfl rfl hc17) (wanted_t hF rfl rfl rfl hc16) rfl fun a hF=>q_xg (v:=(.bool false)) hF hS (ex_move rfl) (wanted_t hF rfl rfl rfl hc16) rfl fun a hF=>q_skip hF (wanted_f hF rfl rfl rfl rfl rfl) rfl fun a hF=>q_xg (v:=(.bool false)) hF hS (ex_pick_f rfl rfl rfl) (wanted_t hF rfl rfl rfl hc16) rfl fun a hF=>q_xg (v:=(.bool false)) hF hS (ex_move rfl) (wanted_t hF rfl rfl rfl hc16) rfl fun a hF=>q_skip hF (wanted_f hF rfl rfl rfl rfl rfl) rfl fun a hF=>q_xg (v:=(.bool false)) hF hS (ex_pick_f rfl rfl rfl) (wanted_t hF rfl rfl rfl hc16) rfl fun a hF=>q_xg (v:=(.bool false)) hF hS (ex_move rfl) (wanted_t hF rfl rfl rfl hc16) rfl fun a hF=>q_skip hF (wanted_f hF rfl rfl rfl rfl rfl) rfl fun a hF=>q_skip hF (wanted_f hF rfl rfl rfl rfl rfl) rfl fun a hF=>q_xg (v:=(.bool false)) hF hS (ex_pick_f rfl rfl rfl) (wanted_t hF rfl rfl rfl hc16) rfl fun a hF=>q_x (v:=(.bool false)) hF hS (ex_pick_f rfl rfl hc16) rfl rfl fun a hF=>q_end (n_jn ?_)
          obtain rfl:=someI hj14
          exact ⟨hF.sub ⟨rfl,rfl,trivial⟩,hS.mask [false,false,false,false,false]⟩
         ·have hj14:=cond_t hc17 hj14
          refine q_xg (v:=(.bool t_30.2)) hF hS (ex_move rfl) (wanted_t hF rfl rfl rfl hc17) rfl fun a hF=>q_xg (v:=(.bool t_30.2)) hF hS (ex_pick_t rfl rfl hc17) (wanted_t hF rfl rfl rfl hc16) rfl fun a hF=>q_xg (v:=(.bool t_30.2)) hF hS (ex_move rfl) (wanted_t hF rfl rfl rfl hc16) rfl fun a hF=>?_
          rcases bcase (t_30.2) with hc18 | hc18
          ·have hj14:=cond_f hc18 hj14
           refine q_skip hF (wanted_f hF rfl rfl rfl hc18 rfl) rfl fun a hF=>q_xg (v:=(.bool false)) hF hS (ex_pick_f rfl rfl hc18) (wanted_t hF rfl rfl rfl hc16) rfl fun a hF=>q_xg (v:=(.bool false)) hF hS (ex_move rfl) (wanted_t hF rfl rfl rfl hc16) rfl fun a hF=>q_skip hF (wanted_f hF rfl rfl rfl rfl rfl) rfl fun a hF=>q_xg (v:=(.bool false)) hF hS (ex_pick_f rfl rfl rfl) (wanted_t hF rfl rfl rfl hc16) rfl fun a hF=>q_xg (v:=(.bool false)) hF hS (ex_move rfl) (wanted_t hF rfl rfl rfl hc16) rfl fun a hF=>q_skip hF (wanted_f hF rfl rfl rfl rfl rfl) rfl fun a hF=>q_skip hF (wanted_f hF rfl rfl rfl rfl rfl) rfl fun a hF=>q_xg (v:=(.bool false)) hF hS (ex_pick_f rfl rfl rfl) (wanted_t hF rfl rfl rfl hc16) rfl fun a hF=>q_x (v:=(.bool false)) hF hS (ex_pick_f rfl rfl hc16) rfl rfl fun a hF=>q_end (n_jn ?_)
           obtain rfl:=someI hj14
           exact ⟨hF.sub ⟨rfl,rfl,trivial⟩,hS.mask [false,false,false,false,false]⟩
          ·have hj14:=cond_t hc18 hj14
           refine q_xg (v:=(.bool t_32.2)) hF hS (ex_move rfl) (wanted_t hF rfl rfl rfl hc18) rfl fun a hF=>q_xg (v:=(.bool t_32.2)) hF hS (ex_pick_t rfl rfl hc18) (wanted_t hF rfl rfl rfl hc16) rfl fun a hF=>q_xg (v:=(.bool t_32.2)) hF hS (ex_move rfl) (wanted_t hF rfl rfl rfl hc16) rfl fun a hF=>?_
           rcases bcase (t_32.2) with hc19 | hc19
           ·have hj14:=cond_f hc19 hj14
            refine q_skip hF (wanted_f hF rfl rfl rfl hc19 rfl) rfl fun a hF=>q_xg (v:=(.bool false)) hF hS (ex_pick_f rfl rfl hc19) (wanted_t hF rfl rfl rfl hc16) rfl fun a hF=>q_xg (v:=(.bool false)) hF hS (ex_move rfl) (wanted_t hF rfl rfl rfl hc16) rfl fun a hF=>q_skip hF (wanted_f hF rfl rfl rfl rfl rfl) rfl fun a hF=>q_skip hF (wanted_f hF rfl rfl rfl rfl rfl) rfl fun a hF=>q_xg (v:=(.bool false)) hF hS (ex_pick_f rfl rfl rfl) (wanted_t hF rfl rfl rfl hc16) rfl fun a hF=>q_x (v:=(.bool false)) hF hS (ex_pick_f rfl rfl hc16) rfl rfl fun a hF=>q_end (n_jn ?_)
            obtain rfl:=someI hj14
            exact ⟨hF.sub ⟨rfl,rfl,trivial⟩,hS.mask [false,false,false,false,false]⟩
           ·have hj14:=cond_t hc19 hj14
            refine q_xg (v:=(.bool t_32.1)) hF hS (ex_move rfl) (wanted_t hF rfl rfl rfl hc19) rfl fun a hF=>q_xg (v:=(.bool t_32.1)) hF hS (ex_pick_t rfl rfl hc19) (wanted_t hF rfl rfl rfl hc16) rfl fun a hF=>q_xg (v:=(.bool t_32.1)) hF hS (ex_move rfl) (wanted_t hF rfl rfl rfl hc16) rfl fun a hF=>?_
            rcases bcase (t_32.1) with hc20 | hc20
            ·have hj14:=cond_f hc20 hj14
             refine q_skip hF (wanted_f hF rfl rfl rfl hc20 rfl) rfl fun a hF=>q_skip hF (wanted_f hF rfl rfl rfl hc20 rfl) rfl fun a hF=>q_xg (v:=(.bool false)) hF hS (ex_pick_f rfl rfl hc20) (wanted_t hF rfl rfl rfl hc16) rfl fun a hF=>q_x (v:=(.bool false)) hF hS (ex_pick_f rfl rfl hc16) rfl rfl fun a hF=>q_end (n_jn ?_)
             obtain rfl:=someI hj14
             exact ⟨hF.sub ⟨rfl,rfl,trivial⟩,hS.mask [false,false,false,false,false]⟩
            ·have hj14:=cond_t hc20 hj14
             refine q_xg (v:=(.bool t_30.1)) hF hS (ex_move rfl) (wanted_t hF rfl rfl rfl hc20) rfl fun a hF=>q_xg (v:=(.bool (!t_30.1))) hF hS (ex_not rfl) (wanted_t hF rfl rfl rfl hc20) rfl fun a hF=>q_xg (v:=(.bool (!t_30.1))) hF hS (ex_pick_t rfl rfl hc20) (wanted_t hF rfl rfl rfl hc16) rfl fun a hF=>q_x (v:=(.bool (!t_30.1))) hF hS (ex_pick_f rfl rfl hc16) rfl rfl fun a hF=>q_end (n_jn ?_)
             obtain rfl:=someI hj14
             exact ⟨hF.sub ⟨rfl,rfl,trivial⟩,hS.mask [false,false,false,false,false]⟩
        ·have hj14:=cond_t hc16 hj14
         refine q_skip hF (wanted_f hF rfl rfl rfl hc16 rfl) rfl fun a hF=>q_skip hF (wanted_f hF rfl rfl rfl hc16 rfl) rfl fun a hF=>q_skip hF (wanted_u hF rfl rfl rfl) rfl fun a hF=>q_skip hF (wanted_f hF rfl rfl rfl hc16 rfl) rfl fun a hF=>q_skip hF (wanted_f hF rfl rfl rfl hc16 rfl) rfl fun a hF=>q_skip hF (wanted_u hF rfl rfl rfl) rfl fun a hF=>q_skip hF (wanted_f hF rfl rfl rfl hc16 rfl) rfl fun a hF=>q_skip hF (wanted_f hF rfl rfl rfl hc16 rfl) rfl fun a hF=>q_skip hF (wanted_u hF rfl rfl rfl) rfl fun a hF=>q_skip hF (wanted_f hF rfl rfl rfl hc16 rfl) rfl fun a hF=>q_skip hF (wanted_f hF rfl rfl rfl hc16 rfl) rfl fun a hF=>q_skip hF (wanted_u hF rfl rfl rfl) rfl fun a hF=>q_skip hF (wanted_u hF rfl rfl rfl) rfl fun a hF=>q_skip hF (wanted_f hF rfl rfl rfl hc16 rfl) rfl fun a hF=>q_x (v:=(.bool true)) hF hS (ex_pick_t rfl rfl hc16) rfl rfl fun a hF=>q_end (n_jn ?_)
         obtain rfl:=someI hj14
         exact ⟨hF.sub ⟨rfl,rfl,trivial⟩,hS.mask [false,false,false,false,false]⟩
       ·have hj14:=cond_t hc15 hj14
        refine q_skip hF (wanted_f hF rfl rfl rfl hc15 rfl) rfl fun a hF=>q_skip hF (wanted_f hF rfl rfl rfl hc15 rfl) rfl fun a hF=>q_skip hF (wanted_f hF rfl rfl rfl hc15 rfl) rfl fun a hF=>q_x (v:=(.bool true)) hF hS (ex_pick_t rfl rfl hc15) rfl rfl fun a hF=>q_x (v:=(.bool true)) hF hS (ex_move rfl) rfl rfl fun a hF=>q_skip hF (wanted_f hF rfl rfl rfl rfl rfl) rfl fun a hF=>q_skip hF (wanted_f hF rfl rfl rfl rfl rfl) rfl fun a hF=>q_skip hF (wanted_u hF rfl rfl rfl) rfl fun a hF=>q_skip hF (wanted_f hF rfl rfl rfl rfl rfl) rfl fun a hF=>q_skip hF (wanted_f hF rfl rfl rfl rfl rfl) rfl fun a hF=>q_skip hF (wanted_u hF rfl rfl rfl) rfl fun a hF=>q_skip hF (wanted_f hF rfl rfl rfl rfl rfl) rfl fun a hF=>q_skip hF (wanted_f hF rfl rfl rfl rfl rfl) rfl fun a hF=>q_skip hF (wanted_u hF rfl rfl rfl) rfl fun a hF=>q_skip hF (wanted_f hF rfl rfl rfl rfl rfl) rfl fun a hF=>q_skip hF (wanted_f hF rfl rfl rfl rfl rfl) rfl fun a hF=>q_skip hF (wanted_u hF rfl rfl rfl) rfl fun a hF=>q_skip hF (wanted_u hF rfl rfl rfl) rfl fun a hF=>q_skip hF (wanted_f hF rfl rfl rfl rfl rfl) rfl fun a hF=>q_x (v:=(.bool true)) hF hS (ex_pick_t rfl rfl rfl) rfl rfl fun a hF=>q_end (n_jn ?_)
        obtain rfl:=someI hj14
        exact ⟨hF.sub ⟨rfl,rfl,trivial⟩,hS.mask [false,false,false,false,false]⟩
      ·rintro a w ⟨hF,hS⟩
       refine n_sq ?_
       rcases bcase (t_42) with hc21 | hc21
       ·have hr:=cond_f hc21 hr
        refine q_cond_f hF rfl hc21 (q_skipc (n_sq (q_seq (q_region (q_x (v:=s2.v) hF hS (ex_move rfl) rfl rfl fun a hF=>?_)))))
        obtain ⟨t_43,ht_43,hr⟩:=bindS hr
        refine q_call (vs:=[s2.v]) hF hS Tryd.func13 (by kernel_rfl) rfl rfl rfl (c_spec_DrawEditText p_more t_43 ht_43 _ m hS.vis s2 h2) ?_
        rintro a w _ ⟨q45,q46,s45,s46,rfl,hR44,h45,h46⟩ hF hS2
        have hS : St _ _ _ _ [q45,q46]:=hS.joinF hR44
        refine q_x (v:=(.tuple #[s45.v,(.agg #[s46.v])])) hF hS (ex_move rfl) rfl rfl fun a hF=>q_x (v:=s45.v) hF hS (ex_extract rfl rfl) rfl rfl fun a hF=>q_x (v:=(.agg #[s46.v])) hF hS (ex_extract rfl rfl) rfl rfl fun a hF=>q_alloc (cs:=[nilS.v]) hF hS rfl rfl rfl fun a w b47 hF hS=>q_x (v:=s45.v) hF hS (ex_assign rfl) rfl rfl fun a hF=>q_store (vs:=[s46.v]) (cs':=[s46.v]) 0 0 hF hS sz27 rfl rfl rfl rfl rfl rfl rfl rfl fun a w hF hS=>q_end (n_sq (q_seq (q_region (q_x (v:=s45.v) hF hS (ex_move rfl) rfl rfl fun a hF=>q_x (v:=(.agg #[s46.v])) hF hS (ex_loadA (vs:=[s46.v]) 0 0 Tryd.underlying27 rfl sz27 rfl rfl rfl rfl) rfl rfl fun a hF=>?_))))
        obtain ⟨m49,hl49,hv49,hz49⟩:=hS.lend
        obtain ⟨t_48,ht_48,hr⟩:=bindS hr
        refine q_call (vs:=[s45.v,(.agg #[s46.v])]) hF hS Tryd.func14 (by kernel_rfl) rfl rfl rfl (c_impl_EditText t_43.1 t_43.2 t_48 ht_48 _ m49 hv49 s45 (h45.froz hl49 (hz49 1 _ rfl)) s46 (h46.froz hl49 (hz49 2 _ rfl))) ?_
        rintro a w _ rfl hF hS
        refine q_x (v:=(.tuple #[(strV t_48.1),(.bool t_48.2)])) hF hS (ex_move rfl) rfl rfl fun a hF=>q_x (v:=(strV t_48.1)) hF hS (ex_extract rfl rfl) rfl rfl fun a hF=>q_x (v:=(.bool t_48.2)) hF hS (ex_extract rfl rfl) rfl rfl fun a hF=>q_x (v:=(strV t_48.1)) hF hS (ex_assign rfl) rfl rfl fun a hF=>q_x (v:=(.bool t_48.2)) hF hS (ex_assign rfl) rfl rfl fun a hF=>q_end (n_sq (q_seq (q_region (q_x (v:=s45.v) hF hS (ex_move rfl) rfl rfl fun a hF=>q_x (v:=(.agg #[s46.v])) hF hS (ex_loadA (vs:=[s46.v]) 0 0 Tryd.underlying27 rfl sz27 rfl rfl rfl rfl) rfl rfl fun a hF=>?_))))
        obtain ⟨m51,hl51,hv51,hz51⟩:=hS.lend
        obtain ⟨t_50,ht_50,hr⟩:=bindS hr
        refine q_call (vs:=[s45.v,(.agg #[s46.v])]) hF hS Tryd.func15 (by kernel_rfl) rfl rfl rfl (c_spec_EditText t_43.1 t_43.2 t_50 ht_50 _ m51 hv51 s45 (h45.froz hl51 (hz51 1 _ rfl)) s46 (h46.froz hl51 (hz51 2 _ rfl))) ?_
        rintro a w _ rfl hF hS
        refine q_x (v:=(.tuple #[(strV t_50.1),(.bool t_50.2)])) hF hS (ex_move rfl) rfl rfl fun a hF=>q_x (v:=(strV t_50.1)) hF hS (ex_extract rfl rfl) rfl rfl fun a hF=>q_x (v:=(.bool t_50.2)) hF hS (ex_extract rfl rfl) rfl rfl fun a hF=>q_x (v:=(strV t_50.1)) hF hS (ex_assign rfl) rfl rfl fun a hF=>q_x (v:=(.bool t_50.2)) hF hS (ex_assign rfl) rfl rfl fun a hF=>q_end (n_sq (q_seq (q_seq ?_)))
        obtain ⟨t_52,hj22,hr⟩:=bindS hr
        refine q_join (fun a w=>Fr a 213 [(25,s45.v),(26,(.pointer (some ⟨b47,0,none⟩))),(27,(strV t_48.1)),(28,(.bool t_48.2)),(177,(.bool t_52))]∧St [] w0 w m [q45,q46,[⟨b47,[s46.v],27⟩]]) ?_ ?_
        ·refine q_region (q_x (v:=(.bool t_48.2)) hF hS (ex_move rfl) rfl rfl fun a hF=>q_x (v:=(.bool t_50.2)) hF hS (ex_move rfl) rfl rfl fun a hF=>q_x (v:=(.bool (t_48.2 != t_50.2))) hF hS (ex_bne Tryd.underlying4 rfl rfl) rfl rfl fun a hF=>q_x (v:=(.bool (t_48.2 != t_50.2))) hF hS (ex_move rfl) rfl rfl fun a hF=>?_)
         rcases bcase (t_48.2 != t_50.2) with hc23 | hc23
         ·have hj22:=cond_f hc23 hj22
          refine q_xg (v:=(strV t_48.1)) hF hS (ex_move rfl) (wanted_t hF rfl rfl rfl hc23) rfl fun a hF=>q_xg (v:=(strV t_50.1)) hF hS (ex_move rfl) (wanted_t hF rfl rfl rfl hc23) rfl fun a hF=>q_xg (v:=(.bool (t_48.1 != t_50.1))) hF hS (ex_strNe rfl rfl) (wanted_t hF rfl rfl rfl hc23) rfl fun a hF=>q_x (v:=(.bool (t_48.1 != t_50.1))) hF hS (ex_pick_f rfl rfl hc23) rfl rfl fun a hF=>q_end (n_jn ?_)
          obtain rfl:=someI hj22
          exact ⟨hF.sub ⟨rfl,rfl,rfl,rfl,rfl,trivial⟩,hS.sel [1,2,0] (by decide)⟩
         ·have hj22:=cond_t hc23 hj22
          refine q_skip hF (wanted_f hF rfl rfl rfl hc23 rfl) rfl fun a hF=>q_skip hF (wanted_f hF rfl rfl rfl hc23 rfl) rfl fun a hF=>q_skip hF (wanted_f hF rfl rfl rfl hc23 rfl) rfl fun a hF=>q_x (v:=(.bool true)) hF hS (ex_pick_t rfl rfl hc23) rfl rfl fun a hF=>q_end (n_jn ?_)
          obtain rfl:=someI hj22
          exact ⟨hF.sub ⟨rfl,rfl,rfl,rfl,rfl,trivial⟩,hS.sel [1,2,0] (by decide)⟩
        ·rintro a w ⟨hF,hS⟩
         refine n_sq ?_
         rcases bcase (t_52) with hc24 | hc24
         ·have hr:=cond_f hc24 hr
          refine q_cond_f hF rfl hc24 (q_skipc (n_sq (q_seq (q_seq (q_region (q_x (v:=(.bool t_48.2)) hF hS (ex_move rfl) rfl rfl fun a hF=>q_end (n_sq ?_)))))))
          rcases bcase (t_48.2) with hc25 | hc25
          ·have hr:=cond_f hc25 hr
           refine q_cond_f hF rfl hc25 (q_skipc (n_sq (q_seq (q_region (q_x (v:=(.bool true)) hF hS (ex_assign rfl) rfl rfl fun a hF=>q_end (n_sq (q_ret ?_)))))))
           obtain rfl:=someI hr
           exact ret_of hF hS rfl (.tmp rfl .nil) rfl
          ·have hr:=cond_t hc25 hr
           refine q_cond_t hF rfl hc25 (q_seq (q_region (q_x (v:=s45.v) hF hS (ex_move rfl) rfl rfl fun a hF=>q_x (v:=(strV t_48.1)) hF hS (ex_move rfl) rfl rfl fun a hF=>?_)))
           obtain ⟨m54,hl54,hv54,hz54⟩:=hS.lend
           obtain ⟨t_53,ht_53,hr⟩:=bindS hr
           refine q_call (vs:=[s45.v,(strV t_48.1)]) hF hS Tryd.func16 (by kernel_rfl) rfl rfl rfl (c_impl_ParseEdit t_43.1 t_48.1 t_53 ht_53 _ m54 hv54 (ht.mono hl54) s45 (h45.froz hl54 (hz54 0 _ rfl))) ?_
           rintro a w _ ⟨q56,s56,rfl,hR55,h56⟩ hF hS2
           have hS : St _ _ _ _ [q56,q45,q46,[⟨b47,[s46.v],27⟩]]:=hS.joinF hR55
           have h56:=h56.any m
           refine q_x (v:=(.tuple #[(.agg #[s56.v]),(.bool t_53.2)])) hF hS (ex_move rfl) rfl rfl fun a hF=>q_x (v:=(.agg #[s56.v])) hF hS (ex_extract rfl rfl) rfl rfl fun a hF=>q_x (v:=(.bool t_53.2)) hF hS (ex_extract rfl rfl) rfl rfl fun a hF=>q_alloc (cs:=[nilS.v]) hF hS rfl rfl rfl fun a w b57 hF hS=>q_store (vs:=[s56.v]) (cs':=[s56.v]) 0 0 hF hS sz27 rfl rfl rfl rfl rfl rfl rfl rfl fun a w hF hS=>q_x (v:=(.bool t_53.2)) hF hS (ex_assign rfl) rfl rfl fun a hF=>q_end (n_sq (q_seq (q_region (q_x (v:=s45.v) hF hS (ex_move rfl) rfl rfl fun a hF=>q_x (v:=(.agg #[s46.v])) hF hS (ex_loadA (vs:=[s46.v]) 4 0 Tryd.underlying27 rfl sz27 rfl rfl rfl rfl) rfl rfl fun a hF=>?_))))
           obtain ⟨m59,hl59,hv59,hz59⟩:=hS.lend
           obtain ⟨t_58,ht_58,hr⟩:=bindS hr
           refine q_call (vs:=[s45.v,(.agg #[s46.v])]) hF hS Tryd.func17 (by kernel_rfl) rfl rfl rfl (c_impl_CountFailing t_43.1 t_43.2 t_58 ht_58 _ m59 hv59 s45 (h45.froz hl59 (hz59 2 _ rfl)) s46 (h46.froz hl59 (hz59 3 _ rfl))) ?_
           rintro a w _ rfl hF hS
           refine q_x (v:=(.tuple #[(iV t_58.1),(.bool t_58.2)])) hF hS (ex_move rfl) rfl rfl fun a hF=>q_x (v:=(iV t_58.1)) hF hS (ex_extract rfl rfl) rfl rfl fun a hF=>q_x (v:=(.bool t_58.2)) hF hS (ex_extract rfl rfl) rfl rfl fun a hF=>q_x (v:=(iV t_58.1)) hF hS (ex_assign rfl) rfl rfl fun a hF=>q_x (v:=(.bool t_58.2)) hF hS (ex_assign rfl) rfl rfl fun a hF=>q_end (n_sq (q_seq (q_region (q_x (v:=s45.v) hF hS (ex_move rfl) rfl rfl fun a hF=>q_x (v:=(.agg #[s46.v])) hF hS (ex_loadA (vs:=[s46.v]) 4 0 Tryd.underlying27 rfl sz27 rfl rfl rfl rfl) rfl rfl fun a hF=>?_))))
           obtain ⟨m61,hl61,hv61,hz61⟩:=hS.lend
           obtain ⟨t_60,ht_60,hr⟩:=bindS hr
           refine q_call (vs:=[s45.v,(.agg #[s46.v])]) hF hS Tryd.func18 (by kernel_rfl) rfl rfl rfl (c_spec_CountFailing t_43.1 t_43.2 t_60 ht_60 _ m61 hv61 s45 (h45.froz hl61 (hz61 2 _ rfl)) s46 (h46.froz hl61 (hz61 3 _ rfl))) ?_
           rintro a w _ rfl hF hS
           refine q_x (v:=(.tuple #[(iV t_60.1),(.bool t_60.2)])) hF hS (ex_move rfl) rfl rfl fun a hF=>q_x (v:=(iV t_60.1)) hF hS (ex_extract rfl rfl) rfl rfl fun a hF=>q_x (v:=(.bool t_60.2)) hF hS (ex_extract rfl rfl) rfl rfl fun a hF=>q_x (v:=(iV t_60.1)) hF hS (ex_assign rfl) rfl rfl fun a hF=>q_x (v:=(.bool t_60.2)) hF hS (ex_assign rfl) rfl rfl fun a hF=>q_end (n_sq (q_seq ?_))
           obtain ⟨t_64,hj26,hr⟩:=bindS hr
           refine q_join (fun a w=>Fr a 213 [(4,(.bool t_64))]∧St [] w0 w m []) ?_ ?_
           ·refine q_region (q_x (v:=(.bool t_53.2)) hF hS (ex_move rfl) rfl rfl fun a hF=>q_x (v:=(.bool t_53.2)) hF hS (ex_move rfl) rfl rfl fun a hF=>?_)
            rcases bcase (t_53.2) with hc27 | hc27
            ·have hj26:=cond_f hc27 hj26
             refine q_skip hF (wanted_f hF rfl rfl rfl hc27 rfl) rfl fun a hF=>q_x (v:=(.bool false)) hF hS (ex_pick_f rfl rfl hc27) rfl rfl fun a hF=>q_x (v:=(.bool false)) hF hS (ex_move rfl) rfl rfl fun a hF=>q_skip hF (wanted_f hF rfl rfl rfl rfl rfl) rfl fun a hF=>q_skip hF (wanted_f hF rfl rfl rfl rfl rfl) rfl fun a hF=>q_skip hF (wanted_f hF rfl rfl rfl rfl rfl) rfl fun a hF=>q_skip hF (wanted_f hF rfl rfl rfl rfl rfl) rfl fun a hF=>q_skip hF (wanted_f hF rfl rfl rfl rfl rfl) rfl fun a hF=>q_x (v:=(.bool false)) hF hS (ex_pick_f rfl rfl rfl) rfl rfl fun a hF=>q_x (v:=(.bool false)) hF hS (ex_move rfl) rfl rfl fun a hF=>q_skip hF (wanted_f hF rfl rfl rfl rfl rfl) rfl fun a hF=>q_skip hF (wanted_f hF rfl rfl rfl rfl rfl) rfl fun a hF=>q_skip hF (wanted_f hF rfl rfl rfl rfl rfl) rfl fun a hF=>q_x (v:=(.bool false)) hF hS (ex_pick_f rfl rfl rfl) rfl rfl fun a hF=>q_x (v:=(.bool false)) hF hS (ex_assign rfl) rfl rfl fun a hF=>q_end (n_jn ?_)
             obtain rfl:=someI hj26
             exact ⟨hF.sub ⟨rfl,trivial⟩,hS.mask [false,false,false,false,false]⟩
            ·have hj26:=cond_t hc27 hj26
             refine q_xg (v:=(.bool t_58.2)) hF hS (ex_move rfl) (wanted_t hF rfl rfl rfl hc27) rfl fun a hF=>q_x (v:=(.bool t_58.2)) hF hS (ex_pick_t rfl rfl hc27) rfl rfl fun a hF=>q_x (v:=(.bool t_58.2)) hF hS (ex_move rfl) rfl rfl fun a hF=>?_
             rcases bcase (t_58.2) with hc28 | hc28
             ·have hj26:=cond_f hc28 hj26
              refine q_skip hF (wanted_f hF rfl rfl rfl hc28 rfl) rfl fun a hF=>q_skip hF (wanted_f hF rfl rfl rfl hc28 rfl) rfl fun a hF=>q_skip hF (wanted_f hF rfl rfl rfl hc28 rfl) rfl fun a hF=>q_skip hF (wanted_f hF rfl rfl rfl hc28 rfl) rfl fun a hF=>q_skip hF (wanted_f hF rfl rfl rfl hc28 rfl) rfl fun a hF=>q_x (v:=(.bool false)) hF hS (ex_pick_f rfl rfl hc28) rfl rfl fun a hF=>q_x (v:=(.bool false)) hF hS (ex_move rfl) rfl rfl fun a hF=>q_skip hF (wanted_f hF rfl rfl rfl rfl rfl) rfl fun a hF=>q_skip hF (wanted_f hF rfl rfl rfl rfl rfl) rfl fun a hF=>q_skip hF (wanted_f hF rfl rfl rfl rfl rfl) rfl fun a hF=>q_x (v:=(.bool false)) hF hS (ex_pick_f rfl rfl rfl) rfl rfl fun a hF=>q_x (v:=(.bool false)) hF hS (ex_assign rfl) rfl rfl fun a hF=>q_end (n_jn ?_)
              obtain rfl:=someI hj26
              exact ⟨hF.sub ⟨rfl,trivial⟩,hS.mask [false,false,false,false,false]⟩
             ·have hj26:=cond_t hc28 hj26
              refine q_xg (v:=(.pointer (some ⟨b57,0,none⟩))) hF hS (ex_fieldAddr Tryd.underlying27 rfl sz25 rfl rfl) (wanted_t hF rfl rfl rfl hc28) rfl fun a hF=>q_xg (v:=s56.v) hF hS (ex_load1 0 0 Tryd.underlying25 rfl rfl rfl rfl) (wanted_t hF rfl rfl rfl hc28) rfl fun a hF=>q_xg (v:=(.pointer (some ⟨b47,0,none⟩))) hF hS (ex_fieldAddr Tryd.underlying27 rfl sz25 rfl rfl) (wanted_t hF rfl rfl rfl hc28) rfl fun a hF=>q_xg (v:=s46.v) hF hS (ex_load1 4 0 Tryd.underlying25 rfl rfl rfl rfl) (wanted_t hF rfl rfl rfl hc28) rfl fun a hF=>?_
              obtain ⟨m63,hl63,hv63,hz63⟩:=hS.lend
              obtain ⟨t_62,ht_62,hj26⟩:=bindS hj26
              refine q_callg (vs:=[s56.v,s46.v]) hF hS (wanted_t hF rfl rfl rfl hc28) Tryd.func8 (by kernel_rfl) rfl rfl rfl (c_laws_sameInts t_53.1.Sets t_43.2.Sets t_62 ht_62 _ m63 hv63 s56 (h56.froz hl63 (hz63 1 _ rfl)) s46 (h46.froz hl63 (hz63 3 _ rfl))) ?_
              rintro a w _ rfl hF hS
              refine q_x (v:=(.bool t_62)) hF hS (ex_pick_t rfl rfl hc28) rfl rfl fun a hF=>q_x (v:=(.bool t_62)) hF hS (ex_move rfl) rfl rfl fun a hF=>?_
              rcases bcase (t_62) with hc29 | hc29
              ·have hj26:=cond_f hc29 hj26
               refine q_skip hF (wanted_f hF rfl rfl rfl hc29 rfl) rfl fun a hF=>q_skip hF (wanted_f hF rfl rfl rfl hc29 rfl) rfl fun a hF=>q_skip hF (wanted_f hF rfl rfl rfl hc29 rfl) rfl fun a hF=>q_x (v:=(.bool false)) hF hS (ex_pick_f rfl rfl hc29) rfl rfl fun a hF=>q_x (v:=(.bool false)) hF hS (ex_assign rfl) rfl rfl fun a hF=>q_end (n_jn ?_)
               obtain rfl:=someI hj26
               exact ⟨hF.sub ⟨rfl,trivial⟩,hS.mask [false,false,false,false,false]⟩
              ·have hj26:=cond_t hc29 hj26
               refine q_xg (v:=(iV t_58.1)) hF hS (ex_move rfl) (wanted_t hF rfl rfl rfl hc29) rfl fun a hF=>q_xg (v:=(iV t_60.1)) hF hS (ex_move rfl) (wanted_t hF rfl rfl rfl hc29) rfl fun a hF=>q_xg (v:=(.bool (t_58.1 == t_60.1))) hF hS (ex_ibin rfl rfl rfl) (wanted_t hF rfl rfl rfl hc29) rfl fun a hF=>q_x (v:=(.bool (t_58.1 == t_60.1))) hF hS (ex_pick_t rfl rfl hc29) rfl rfl fun a hF=>q_x (v:=(.bool (t_58.1 == t_60.1))) hF hS (ex_assign rfl) rfl rfl fun a hF=>q_end (n_jn ?_)
               obtain rfl:=someI hj26
               exact ⟨hF.sub ⟨rfl,trivial⟩,hS.mask [false,false,false,false,false]⟩
           ·rintro a w ⟨hF,hS⟩
            refine n_sq (q_ret (r_sq ?_))
            obtain rfl:=someI hr
            exact ret_of hF hS rfl (.tmp rfl .nil) rfl
         ·have hr:=cond_t hc24 hr
          refine q_cond_t hF rfl hc24 (q_seq (q_region (q_x (v:=(.bool false)) hF hS (ex_assign rfl) rfl rfl fun a hF=>q_end (n_sq (q_ret (r_sq ?_))))))
          obtain rfl:=someI hr
          exact ret_of hF hS rfl (.tmp rfl .nil) rfl
       ·have hr:=cond_t hc21 hr
        refine q_cond_t hF rfl hc21 (q_seq (q_region (q_x (v:=(.bool false)) hF hS (ex_assign rfl) rfl rfl fun a hF=>q_end (n_sq (q_ret (r_sq ?_))))))
        obtain rfl:=someI hr
        exact ret_of hF hS rfl (.tmp rfl .nil) rfl
   ·have hr:=cond_t hc4 hr
    refine q_cond_t hF rfl hc4 (q_seq (q_region (q_x (v:=(.bool false)) hF hS (ex_assign rfl) rfl rfl fun a hF=>q_end (n_sq (q_ret (r_sq ?_))))))
    obtain rfl:=someI hr
    exact ret_of hF hS rfl (.tmp rfl .nil) rfl
 ·have hr:=cond_t hc1 hr
  refine q_cond_t hF rfl hc1 (q_seq (q_region (q_x (v:=(.bool true)) hF hS (ex_assign rfl) rfl rfl fun a hF=>q_end (n_sq (q_ret (r_sq ?_))))))
  obtain rfl:=someI hr
  exact ret_of hF hS rfl (.tmp rfl .nil) rfl

end Go.Proofs.YtebjhiflnemkhaaDoor
