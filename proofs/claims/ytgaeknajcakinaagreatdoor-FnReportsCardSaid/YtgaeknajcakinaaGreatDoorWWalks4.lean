/- The walks of the functions: each returns what its plain function says. -/
import Derived.Test.YtgaeknajcakinaaGreatDoorWWalks3
namespace Go.Proofs.YtgaeknajcakinaaGreatDoor
open Go.Gx Go.Gx.F Go.RowKit
set_option linter.all false
set_option maxRecDepth 10000


theorem c_impl_CellText (p_g : impl_Geo) (p_s : List impl_Variable) (p_t : impl_Table) (p_i : Int) (r : (List UInt8) × Bool) (hr : impl_CellText p_g p_s p_t p_i = some r) (w0 : World) (m : Mem) (hv : Vis m w0) (ht : Tbl m) (s1 : Sl) (h1 : Rd m s1 p_g.Parents) (s2 : Sl) (h2 : Rd m s2 p_s) (s3 : Sl) (h3 : Rd m s3 p_t.Vars) (s4 : Sl) (h4 : Rd m s4 p_t.Where) :
  Ret Tryz.prog 13 [(.agg #[s1.v]),s2.v,(.agg #[(iV p_t.Level),s3.v,s4.v,(iV p_t.Sum)]),(iV p_i)] w0 (fun v _=>v = (.tuple #[(strV r.1),(.bool r.2)])):=by
 unfold impl_CellText at hr
 refine ret_start Tryz.func13 rfl 32 rfl rfl m hv fun a hF hS=>q_seq (q_region (q_box (cs:=[s1.v]) hF hS rfl rfl rfl fun a w b5 hF hS=>q_box (cs:=[(iV p_t.Level),s3.v,s4.v,(iV p_t.Sum)]) hF hS rfl rfl rfl fun a w b6 hF hS=>q_x (v:=(strV ([] : List UInt8))) hF hS (ex_assign rfl) rfl rfl fun a hF=>q_x (v:=(.bool false)) hF hS (ex_assign rfl) rfl rfl fun a hF=>q_end (n_sq (q_seq (q_seq ?_)))))
 obtain ⟨t_9,hj1,hr⟩:=bindS hr
 refine q_join (fun a w=>Fr a 32 [(1,s2.v),(3,(iV p_i)),(4,(.pointer (some ⟨b5,0,none⟩))),(6,(.pointer (some ⟨b6,0,none⟩))),(26,(.bool t_9))]∧St [] w0 w m [[⟨b6,[(iV p_t.Level),s3.v,s4.v,(iV p_t.Sum)],29⟩],[⟨b5,[s1.v],26⟩]]) ?_ ?_
 ·refine q_region (q_x (v:=(.agg #[s1.v])) hF hS (ex_loadA (vs:=[s1.v]) 1 0 Tryz.underlying26 rfl sz26 rfl rfl rfl rfl) rfl rfl fun a hF=>q_x (v:=s2.v) hF hS (ex_move rfl) rfl rfl fun a hF=>q_x (v:=(.agg #[(iV p_t.Level),s3.v,s4.v,(iV p_t.Sum)])) hF hS (ex_loadA (vs:=[(iV p_t.Level),s3.v,s4.v,(iV p_t.Sum)]) 0 0 Tryz.underlying29 rfl sz29 rfl rfl rfl rfl) rfl rfl fun a hF=>?_)
  obtain ⟨t_7,ht_7,hj1⟩:=bindS hj1
  refine q_call (vs:=[(.agg #[s1.v]),s2.v,(.agg #[(iV p_t.Level),s3.v,s4.v,(iV p_t.Sum)])]) hF hS Tryz.func22 (by kernel_rfl) rfl rfl rfl (c_impl_areTabled p_g p_s p_t t_7 ht_7 _ m hS.vis s1 h1 s2 h2 s3 h3 s4 h4) ?_
  rintro a w _ rfl hF hS
  refine q_x (v:=(.bool (!t_7))) hF hS (ex_not rfl) rfl rfl fun a hF=>q_x (v:=(.bool (!t_7))) hF hS (ex_move rfl) rfl rfl fun a hF=>?_
  rcases bcase (!t_7) with hc2 | hc2
  ·have hj1:=cond_f hc2 hj1
   refine q_xg (v:=(iV p_i)) hF hS (ex_move rfl) (wanted_t hF rfl rfl rfl hc2) rfl fun a hF=>q_xg (v:=(.bool (decide (p_i < 0)))) hF hS (ex_ibin rfl rfl rfl) (wanted_t hF rfl rfl rfl hc2) rfl fun a hF=>q_x (v:=(.bool (decide (p_i < 0)))) hF hS (ex_pick_f rfl rfl hc2) rfl rfl fun a hF=>q_x (v:=(.bool (decide (p_i < 0)))) hF hS (ex_move rfl) rfl rfl fun a hF=>?_
   rcases bcase (decide (p_i < 0)) with hc3 | hc3
   ·have hj1:=cond_f hc3 hj1
    refine q_xg (v:=(iV p_i)) hF hS (ex_move rfl) (wanted_t hF rfl rfl rfl hc3) rfl fun a hF=>q_xg (v:=(.agg #[s1.v])) hF hS (ex_loadA (vs:=[s1.v]) 1 0 Tryz.underlying26 rfl sz26 rfl rfl rfl rfl) (wanted_t hF rfl rfl rfl hc3) rfl fun a hF=>q_xg (v:=s2.v) hF hS (ex_move rfl) (wanted_t hF rfl rfl rfl hc3) rfl fun a hF=>q_xg (v:=(.agg #[(iV p_t.Level),s3.v,s4.v,(iV p_t.Sum)])) hF hS (ex_loadA (vs:=[(iV p_t.Level),s3.v,s4.v,(iV p_t.Sum)]) 0 0 Tryz.underlying29 rfl sz29 rfl rfl rfl rfl) (wanted_t hF rfl rfl rfl hc3) rfl fun a hF=>?_
    obtain ⟨t_8,ht_8,hj1⟩:=bindS hj1
    refine q_callg (vs:=[(.agg #[s1.v]),s2.v,(.agg #[(iV p_t.Level),s3.v,s4.v,(iV p_t.Sum)])]) hF hS (wanted_t hF rfl rfl rfl hc3) Tryz.func24 (by kernel_rfl) rfl rfl rfl (c_impl_cellCount p_g p_s p_t t_8 ht_8 _ m hS.vis s1 h1 s2 h2 s3 h3 s4 h4) ?_
    rintro a w _ rfl hF hS
    refine q_xg (v:=(.bool (decide (t_8 ≤ p_i)))) hF hS (ex_ibin rfl rfl rfl) (wanted_t hF rfl rfl rfl hc3) rfl fun a hF=>q_x (v:=(.bool (decide (t_8 ≤ p_i)))) hF hS (ex_pick_f rfl rfl hc3) rfl rfl fun a hF=>q_end (n_jn ?_)
    obtain rfl:=someI hj1
    exact ⟨hF.sub ⟨rfl,rfl,rfl,rfl,rfl,trivial⟩,hS⟩
   ·have hj1:=cond_t hc3 hj1
    refine q_skip hF (wanted_f hF rfl rfl rfl hc3 rfl) rfl fun a hF=>q_skip hF (wanted_f hF rfl rfl rfl hc3 rfl) rfl fun a hF=>q_skip hF (wanted_f hF rfl rfl rfl hc3 rfl) rfl fun a hF=>q_skip hF (wanted_f hF rfl rfl rfl hc3 rfl) rfl fun a hF=>q_skip hF (wanted_f hF rfl rfl rfl hc3 rfl) rfl fun a hF=>q_skip hF (wanted_f hF rfl rfl rfl hc3 rfl) rfl fun a hF=>q_x (v:=(.bool true)) hF hS (ex_pick_t rfl rfl hc3) rfl rfl fun a hF=>q_end (n_jn ?_)
    obtain rfl:=someI hj1
    exact ⟨hF.sub ⟨rfl,rfl,rfl,rfl,rfl,trivial⟩,hS⟩
  ·have hj1:=cond_t hc2 hj1
   refine q_skip hF (wanted_f hF rfl rfl rfl hc2 rfl) rfl fun a hF=>q_skip hF (wanted_f hF rfl rfl rfl hc2 rfl) rfl fun a hF=>q_x (v:=(.bool true)) hF hS (ex_pick_t rfl rfl hc2) rfl rfl fun a hF=>q_x (v:=(.bool true)) hF hS (ex_move rfl) rfl rfl fun a hF=>q_skip hF (wanted_f hF rfl rfl rfl rfl rfl) rfl fun a hF=>q_skip hF (wanted_f hF rfl rfl rfl rfl rfl) rfl fun a hF=>q_skip hF (wanted_f hF rfl rfl rfl rfl rfl) rfl fun a hF=>q_skip hF (wanted_f hF rfl rfl rfl rfl rfl) rfl fun a hF=>q_skip hF (wanted_f hF rfl rfl rfl rfl rfl) rfl fun a hF=>q_skip hF (wanted_f hF rfl rfl rfl rfl rfl) rfl fun a hF=>q_x (v:=(.bool true)) hF hS (ex_pick_t rfl rfl rfl) rfl rfl fun a hF=>q_end (n_jn ?_)
   obtain rfl:=someI hj1
   exact ⟨hF.sub ⟨rfl,rfl,rfl,rfl,rfl,trivial⟩,hS⟩
 ·rintro a w ⟨hF,hS⟩
  refine n_sq ?_
  rcases bcase (t_9) with hc4 | hc4
  ·have hr:=cond_f hc4 hr
   refine q_cond_f hF rfl hc4 (q_skipc (n_sq (q_seq (q_region (q_x (v:=(.agg #[s1.v])) hF hS (ex_loadA (vs:=[s1.v]) 1 0 Tryz.underlying26 rfl sz26 rfl rfl rfl rfl) rfl rfl fun a hF=>q_x (v:=s2.v) hF hS (ex_move rfl) rfl rfl fun a hF=>q_x (v:=(.agg #[(iV p_t.Level),s3.v,s4.v,(iV p_t.Sum)])) hF hS (ex_loadA (vs:=[(iV p_t.Level),s3.v,s4.v,(iV p_t.Sum)]) 0 0 Tryz.underlying29 rfl sz29 rfl rfl rfl rfl) rfl rfl fun a hF=>q_x (v:=(iV p_i)) hF hS (ex_move rfl) rfl rfl fun a hF=>?_)))))
   obtain ⟨t_10,ht_10,hr⟩:=bindS hr
   refine q_call (vs:=[(.agg #[s1.v]),s2.v,(.agg #[(iV p_t.Level),s3.v,s4.v,(iV p_t.Sum)]),(iV p_i)]) hF hS Tryz.func26 (by kernel_rfl) rfl rfl rfl (c_impl_cellText p_g p_s p_t p_i t_10 ht_10 _ m hS.vis ht s1 h1 s2 h2 s3 h3 s4 h4) ?_
   rintro a w _ rfl hF hS
   refine q_x (v:=(strV t_10)) hF hS (ex_assign rfl) rfl rfl fun a hF=>q_x (v:=(.bool true)) hF hS (ex_assign rfl) rfl rfl fun a hF=>q_end (n_sq (q_ret ?_))
   obtain rfl:=someI hr
   exact ret_of hF hS rfl (.tmp rfl (.tmp rfl .nil)) rfl
  ·have hr:=cond_t hc4 hr
   refine q_cond_t hF rfl hc4 (q_seq (q_region (q_x (v:=(strV ([] : List UInt8))) hF hS (ex_assign rfl) rfl rfl fun a hF=>q_x (v:=(.bool false)) hF hS (ex_assign rfl) rfl rfl fun a hF=>q_end (n_sq (q_ret (r_sq ?_))))))
   obtain rfl:=someI hr
   exact ret_of hF hS rfl (.tmp rfl (.tmp rfl .nil)) rfl

theorem c_spec_CellText (p_g : impl_Geo) (p_s : List impl_Variable) (p_t : impl_Table) (p_i : Int) (r : (List UInt8) × Bool) (hr : spec_CellText p_g p_s p_t p_i = some r) (w0 : World) (m : Mem) (hv : Vis m w0) (s1 : Sl) (h1 : Rd m s1 p_g.Parents) (s2 : Sl) (h2 : Rd m s2 p_s) (s3 : Sl) (h3 : Rd m s3 p_t.Vars) (s4 : Sl) (h4 : Rd m s4 p_t.Where) :
  Ret Tryz.prog 14 [(.agg #[s1.v]),s2.v,(.agg #[(iV p_t.Level),s3.v,s4.v,(iV p_t.Sum)]),(iV p_i)] w0 (fun v _=>v = (.tuple #[(strV r.1),(.bool r.2)])):=by
 unfold spec_CellText at hr
 refine ret_start Tryz.func14 rfl 30 rfl rfl m hv fun a hF hS=>q_seq (q_region (q_box (cs:=[s1.v]) hF hS rfl rfl rfl fun a w b5 hF hS=>q_box (cs:=[(iV p_t.Level),s3.v,s4.v,(iV p_t.Sum)]) hF hS rfl rfl rfl fun a w b6 hF hS=>q_x (v:=(strV ([] : List UInt8))) hF hS (ex_assign rfl) rfl rfl fun a hF=>q_x (v:=(.bool false)) hF hS (ex_assign rfl) rfl rfl fun a hF=>q_end (n_sq (q_seq (q_seq ?_)))))
 obtain ⟨t_10,hj1,hr⟩:=bindS hr
 refine q_join (fun a w=>Fr a 30 [(1,s2.v),(3,(iV p_i)),(4,(.pointer (some ⟨b5,0,none⟩))),(6,(.pointer (some ⟨b6,0,none⟩))),(24,(.bool t_10))]∧St [] w0 w m [[⟨b6,[(iV p_t.Level),s3.v,s4.v,(iV p_t.Sum)],29⟩],[⟨b5,[s1.v],26⟩]]) ?_ ?_
 ·refine q_region (q_x (v:=(.agg #[s1.v])) hF hS (ex_loadA (vs:=[s1.v]) 1 0 Tryz.underlying26 rfl sz26 rfl rfl rfl rfl) rfl rfl fun a hF=>q_x (v:=s2.v) hF hS (ex_move rfl) rfl rfl fun a hF=>q_x (v:=(.agg #[(iV p_t.Level),s3.v,s4.v,(iV p_t.Sum)])) hF hS (ex_loadA (vs:=[(iV p_t.Level),s3.v,s4.v,(iV p_t.Sum)]) 0 0 Tryz.underlying29 rfl sz29 rfl rfl rfl rfl) rfl rfl fun a hF=>?_)
  obtain ⟨t_7,ht_7,hj1⟩:=bindS hj1
  refine q_call (vs:=[(.agg #[s1.v]),s2.v,(.agg #[(iV p_t.Level),s3.v,s4.v,(iV p_t.Sum)])]) hF hS Tryz.func17 (by kernel_rfl) rfl rfl rfl (c_spec_uGood p_g p_s p_t t_7 ht_7 _ m hS.vis s1 h1 s2 h2 s3 h3 s4 h4) ?_
  rintro a w _ rfl hF hS
  refine q_x (v:=(.bool (!t_7))) hF hS (ex_not rfl) rfl rfl fun a hF=>q_x (v:=(.bool (!t_7))) hF hS (ex_move rfl) rfl rfl fun a hF=>?_
  rcases bcase (!t_7) with hc2 | hc2
  ·have hj1:=cond_f hc2 hj1
   refine q_xg (v:=(iV p_i)) hF hS (ex_move rfl) (wanted_t hF rfl rfl rfl hc2) rfl fun a hF=>q_xg (v:=(.agg #[s1.v])) hF hS (ex_loadA (vs:=[s1.v]) 1 0 Tryz.underlying26 rfl sz26 rfl rfl rfl rfl) (wanted_t hF rfl rfl rfl hc2) rfl fun a hF=>q_xg (v:=s2.v) hF hS (ex_move rfl) (wanted_t hF rfl rfl rfl hc2) rfl fun a hF=>q_xg (v:=(.agg #[(iV p_t.Level),s3.v,s4.v,(iV p_t.Sum)])) hF hS (ex_loadA (vs:=[(iV p_t.Level),s3.v,s4.v,(iV p_t.Sum)]) 0 0 Tryz.underlying29 rfl sz29 rfl rfl rfl rfl) (wanted_t hF rfl rfl rfl hc2) rfl fun a hF=>?_
   obtain ⟨t_8,ht_8,hj1⟩:=bindS hj1
   refine q_callg (vs:=[(.agg #[s1.v]),s2.v,(.agg #[(iV p_t.Level),s3.v,s4.v,(iV p_t.Sum)])]) hF hS (wanted_t hF rfl rfl rfl hc2) Tryz.func39 (by kernel_rfl) rfl rfl rfl (c_spec_uCount p_g p_s p_t t_8 ht_8 _ m hS.vis s1 h1 s2 h2 s3 h3 s4 h4) ?_
   rintro a w _ rfl hF hS
   refine q_xg (v:=(iV (w64 (t_8 - 1)))) hF hS (ex_ibin rfl rfl rfl) (wanted_t hF rfl rfl rfl hc2) rfl fun a hF=>?_
   obtain ⟨t_9,ht_9,hj1⟩:=bindS hj1
   refine q_callg (vs:=[(iV p_i),(iV 0),(iV (w64 (t_8 - 1)))]) hF hS (wanted_t hF rfl rfl rfl hc2) Tryz.func38 (by kernel_rfl) rfl rfl rfl (c_spec_l1In p_i 0 (w64 (t_8 - 1)) t_9 ht_9 _ m hS.vis) ?_
   rintro a w _ rfl hF hS
   refine q_xg (v:=(.bool (!t_9))) hF hS (ex_not rfl) (wanted_t hF rfl rfl rfl hc2) rfl fun a hF=>q_x (v:=(.bool (!t_9))) hF hS (ex_pick_f rfl rfl hc2) rfl rfl fun a hF=>q_end (n_jn ?_)
   obtain rfl:=someI hj1
   exact ⟨hF.sub ⟨rfl,rfl,rfl,rfl,rfl,trivial⟩,hS⟩
  ·have hj1:=cond_t hc2 hj1
   refine q_skip hF (wanted_f hF rfl rfl rfl hc2 rfl) rfl fun a hF=>q_skip hF (wanted_f hF rfl rfl rfl hc2 rfl) rfl fun a hF=>q_skip hF (wanted_f hF rfl rfl rfl hc2 rfl) rfl fun a hF=>q_skip hF (wanted_f hF rfl rfl rfl hc2 rfl) rfl fun a hF=>q_skip hF (wanted_f hF rfl rfl rfl hc2 rfl) rfl fun a hF=>q_skip hF (wanted_f hF rfl rfl rfl hc2 rfl) rfl fun a hF=>q_skip hF (wanted_f hF rfl rfl rfl hc2 rfl) rfl fun a hF=>q_skip hF (wanted_f hF rfl rfl rfl hc2 rfl) rfl fun a hF=>q_x (v:=(.bool true)) hF hS (ex_pick_t rfl rfl hc2) rfl rfl fun a hF=>q_end (n_jn ?_)
   obtain rfl:=someI hj1
   exact ⟨hF.sub ⟨rfl,rfl,rfl,rfl,rfl,trivial⟩,hS⟩
 ·rintro a w ⟨hF,hS⟩
  refine n_sq ?_
  rcases bcase (t_10) with hc3 | hc3
  ·have hr:=cond_f hc3 hr
   refine q_cond_f hF rfl hc3 (q_skipc (n_sq (q_seq (q_region (q_x (v:=(.agg #[s1.v])) hF hS (ex_loadA (vs:=[s1.v]) 1 0 Tryz.underlying26 rfl sz26 rfl rfl rfl rfl) rfl rfl fun a hF=>q_x (v:=s2.v) hF hS (ex_move rfl) rfl rfl fun a hF=>q_x (v:=(.agg #[(iV p_t.Level),s3.v,s4.v,(iV p_t.Sum)])) hF hS (ex_loadA (vs:=[(iV p_t.Level),s3.v,s4.v,(iV p_t.Sum)]) 0 0 Tryz.underlying29 rfl sz29 rfl rfl rfl rfl) rfl rfl fun a hF=>q_x (v:=(iV p_i)) hF hS (ex_move rfl) rfl rfl fun a hF=>?_)))))
   obtain ⟨t_11,ht_11,hr⟩:=bindS hr
   refine q_call (vs:=[(.agg #[s1.v]),s2.v,(.agg #[(iV p_t.Level),s3.v,s4.v,(iV p_t.Sum)]),(iV p_i)]) hF hS Tryz.func40 (by kernel_rfl) rfl rfl rfl (c_spec_nCell p_g p_s p_t p_i t_11 ht_11 _ m hS.vis s1 h1 s2 h2 s3 h3 s4 h4) ?_
   rintro a w _ rfl hF hS
   refine q_x (v:=(strV t_11)) hF hS (ex_assign rfl) rfl rfl fun a hF=>q_x (v:=(.bool true)) hF hS (ex_assign rfl) rfl rfl fun a hF=>q_end (n_sq (q_ret ?_))
   obtain rfl:=someI hr
   exact ret_of hF hS rfl (.tmp rfl (.tmp rfl .nil)) rfl
  ·have hr:=cond_t hc3 hr
   refine q_cond_t hF rfl hc3 (q_seq (q_region (q_x (v:=(strV ([] : List UInt8))) hF hS (ex_assign rfl) rfl rfl fun a hF=>q_x (v:=(.bool false)) hF hS (ex_assign rfl) rfl rfl fun a hF=>q_end (n_sq (q_ret (r_sq ?_))))))
   obtain rfl:=someI hr
   exact ret_of hF hS rfl (.tmp rfl (.tmp rfl .nil)) rfl

theorem c_laws_FnReports (p_code : List (K .u8)) (p_more : List (K .u8)) (r : Bool) (hr : laws_FnReports p_code p_more = some r) (w0 : World) (m : Mem) (hv : Vis m w0) (ht : Tbl m) (s1 : Sl) (h1 : Rd m s1 p_code) (s2 : Sl) (h2 : Rd m s2 p_more) :
  Ret Tryz.prog 3 [s1.v,s2.v] w0 (fun v _=>v = (.bool r)):=by
 unfold laws_FnReports at hr
 refine ret_start Tryz.func3 rfl 145 rfl rfl m hv fun a hF hS=>q_seq (q_region (q_x (v:=(.bool false)) hF hS (ex_assign rfl) rfl rfl fun a hF=>q_end (n_sq (q_seq (q_seq (q_region (q_x (v:=s1.v) hF hS (ex_move rfl) rfl rfl fun a hF=>q_x (v:=s2.v) hF hS (ex_move rfl) rfl rfl fun a hF=>?_)))))))
 obtain ⟨t_3,ht_3,hr⟩:=bindS hr
 refine q_call (vs:=[s1.v,s2.v]) hF hS Tryz.func4 (by kernel_rfl) rfl rfl rfl (c_laws_big p_code p_more t_3 ht_3 _ m hS.vis s1 h1 s2 h2) ?_
 rintro a w _ rfl hF hS
 refine q_end (n_sq ?_)
 rcases bcase (t_3) with hc1 | hc1
 ·have hr:=cond_f hc1 hr
  refine q_cond_f hF rfl hc1 (q_skipc (n_sq (q_seq (q_region (q_x (v:=s1.v) hF hS (ex_move rfl) rfl rfl fun a hF=>?_)))))
  obtain ⟨t_4,ht_4,hr⟩:=bindS hr
  refine q_call (vs:=[s1.v]) hF hS Tryz.func5 (by kernel_rfl) rfl rfl rfl (c_spec_DrawReportText p_code t_4 ht_4 _ m hS.vis s1 h1) ?_
  have hT:=hS
  rintro a w _ ⟨m5,q6,q8,q9,q10,s6,s7,s8,s9,s10,rfl,hm5,hR5,h6,h7,h8,h9,h10⟩ hF hS2
  have hS : St _ _ _ _ [q6,q8,q9,q10]:=hS.join hR5 hm5
  have hm5:=MLe.weakX (O0:=[]) hT hm5
  refine q_x (v:=(.tuple #[(.agg #[s6.v]),s7.v,(.agg #[(iV t_4.2.2.1.Level),s8.v,s9.v,(iV t_4.2.2.1.Sum)]),s10.v])) hF hS (ex_move rfl) rfl rfl fun a hF=>q_x (v:=(.agg #[s6.v])) hF hS (ex_extract rfl rfl) rfl rfl fun a hF=>q_x (v:=s7.v) hF hS (ex_extract rfl rfl) rfl rfl fun a hF=>q_x (v:=(.agg #[(iV t_4.2.2.1.Level),s8.v,s9.v,(iV t_4.2.2.1.Sum)])) hF hS (ex_extract rfl rfl) rfl rfl fun a hF=>q_x (v:=s10.v) hF hS (ex_extract rfl rfl) rfl rfl fun a hF=>q_alloc (cs:=[nilS.v]) hF hS rfl rfl rfl fun a w b11 hF hS=>q_alloc (cs:=[(iV 0),nilS.v,nilS.v,(iV 0)]) hF hS rfl rfl rfl fun a w b12 hF hS=>q_store (vs:=[s6.v]) (cs':=[s6.v]) 1 0 hF hS sz26 rfl rfl rfl rfl rfl rfl rfl rfl fun a w hF hS=>q_x (v:=s7.v) hF hS (ex_assign rfl) rfl rfl fun a hF=>q_store (vs:=[(iV t_4.2.2.1.Level),s8.v,s9.v,(iV t_4.2.2.1.Sum)]) (cs':=[(iV t_4.2.2.1.Level),s8.v,s9.v,(iV t_4.2.2.1.Sum)]) 0 0 hF hS sz29 rfl rfl rfl rfl rfl rfl rfl rfl fun a w hF hS=>q_x (v:=s10.v) hF hS (ex_assign rfl) rfl rfl fun a hF=>q_end (n_sq (q_seq (q_region (q_x (v:=(.agg #[s6.v])) hF hS (ex_loadA (vs:=[s6.v]) 1 0 Tryz.underlying26 rfl sz26 rfl rfl rfl rfl) rfl rfl fun a hF=>q_x (v:=s7.v) hF hS (ex_move rfl) rfl rfl fun a hF=>q_x (v:=(.agg #[(iV t_4.2.2.1.Level),s8.v,s9.v,(iV t_4.2.2.1.Sum)])) hF hS (ex_loadA (vs:=[(iV t_4.2.2.1.Level),s8.v,s9.v,(iV t_4.2.2.1.Sum)]) 0 0 Tryz.underlying29 rfl sz29 rfl rfl rfl rfl) rfl rfl fun a hF=>q_x (v:=s10.v) hF hS (ex_move rfl) rfl rfl fun a hF=>?_))))
  obtain ⟨m14,hl14,hv14,hz14⟩:=hS.lend
  obtain ⟨t_13,ht_13,hr⟩:=bindS hr
  refine q_call (vs:=[(.agg #[s6.v]),s7.v,(.agg #[(iV t_4.2.2.1.Level),s8.v,s9.v,(iV t_4.2.2.1.Sum)]),s10.v]) hF hS Tryz.func6 (by kernel_rfl) rfl rfl rfl (c_impl_ReportText t_4.1 t_4.2.1 t_4.2.2.1 t_4.2.2.2 t_13 ht_13 _ m14 hv14 ((ht.mono hm5.le).mono hl14) s6 (h6.froz hl14 (hz14 2 _ rfl)) s7 (h7.mono hl14) s8 (h8.froz hl14 (hz14 3 _ rfl)) s9 (h9.froz hl14 (hz14 4 _ rfl)) s10 (h10.froz hl14 (hz14 5 _ rfl))) ?_
  rintro a w _ rfl hF hS
  refine q_x (v:=(.tuple #[(strV t_13.1),(.bool t_13.2)])) hF hS (ex_move rfl) rfl rfl fun a hF=>q_x (v:=(strV t_13.1)) hF hS (ex_extract rfl rfl) rfl rfl fun a hF=>q_x (v:=(.bool t_13.2)) hF hS (ex_extract rfl rfl) rfl rfl fun a hF=>q_x (v:=(strV t_13.1)) hF hS (ex_assign rfl) rfl rfl fun a hF=>q_x (v:=(.bool t_13.2)) hF hS (ex_assign rfl) rfl rfl fun a hF=>q_end (n_sq (q_seq (q_region (q_x (v:=(.agg #[s6.v])) hF hS (ex_loadA (vs:=[s6.v]) 1 0 Tryz.underlying26 rfl sz26 rfl rfl rfl rfl) rfl rfl fun a hF=>q_x (v:=s7.v) hF hS (ex_move rfl) rfl rfl fun a hF=>q_x (v:=(.agg #[(iV t_4.2.2.1.Level),s8.v,s9.v,(iV t_4.2.2.1.Sum)])) hF hS (ex_loadA (vs:=[(iV t_4.2.2.1.Level),s8.v,s9.v,(iV t_4.2.2.1.Sum)]) 0 0 Tryz.underlying29 rfl sz29 rfl rfl rfl rfl) rfl rfl fun a hF=>q_x (v:=s10.v) hF hS (ex_move rfl) rfl rfl fun a hF=>?_))))
  obtain ⟨m16,hl16,hv16,hz16⟩:=hS.lend
  obtain ⟨t_15,ht_15,hr⟩:=bindS hr
  refine q_call (vs:=[(.agg #[s6.v]),s7.v,(.agg #[(iV t_4.2.2.1.Level),s8.v,s9.v,(iV t_4.2.2.1.Sum)]),s10.v]) hF hS Tryz.func7 (by kernel_rfl) rfl rfl rfl (c_spec_ReportText t_4.1 t_4.2.1 t_4.2.2.1 t_4.2.2.2 t_15 ht_15 _ m16 hv16 s6 (h6.froz hl16 (hz16 2 _ rfl)) s7 (h7.mono hl16) s8 (h8.froz hl16 (hz16 3 _ rfl)) s9 (h9.froz hl16 (hz16 4 _ rfl)) s10 (h10.froz hl16 (hz16 5 _ rfl))) ?_
  rintro a w _ rfl hF hS
  refine q_x (v:=(.tuple #[(strV t_15.1),(.bool t_15.2)])) hF hS (ex_move rfl) rfl rfl fun a hF=>q_x (v:=(strV t_15.1)) hF hS (ex_extract rfl rfl) rfl rfl fun a hF=>q_x (v:=(.bool t_15.2)) hF hS (ex_extract rfl rfl) rfl rfl fun a hF=>q_x (v:=(strV t_15.1)) hF hS (ex_assign rfl) rfl rfl fun a hF=>q_x (v:=(.bool t_15.2)) hF hS (ex_assign rfl) rfl rfl fun a hF=>q_end (n_sq (q_seq (q_seq ?_)))
  obtain ⟨t_17,hj2,hr⟩:=bindS hr
  refine q_join (fun a w=>Fr a 145 [(1,s2.v),(5,(.pointer (some ⟨b11,0,none⟩))),(6,s7.v),(7,(.pointer (some ⟨b12,0,none⟩))),(8,s10.v),(9,(strV t_13.1)),(10,(.bool t_13.2)),(64,(.bool t_17))]∧St [] w0 w m5 [q10,q8,q9,q6,[⟨b12,[(iV t_4.2.2.1.Level),s8.v,s9.v,(iV t_4.2.2.1.Sum)],29⟩],[⟨b11,[s6.v],26⟩]]) ?_ ?_
  ·refine q_region (q_x (v:=(.bool t_13.2)) hF hS (ex_move rfl) rfl rfl fun a hF=>q_x (v:=(.bool t_15.2)) hF hS (ex_move rfl) rfl rfl fun a hF=>q_x (v:=(.bool (t_13.2 != t_15.2))) hF hS (ex_bne Tryz.underlying4 rfl rfl) rfl rfl fun a hF=>q_x (v:=(.bool (t_13.2 != t_15.2))) hF hS (ex_move rfl) rfl rfl fun a hF=>?_)
   rcases bcase (t_13.2 != t_15.2) with hc3 | hc3
   ·have hj2:=cond_f hc3 hj2
    refine q_xg (v:=(strV t_13.1)) hF hS (ex_move rfl) (wanted_t hF rfl rfl rfl hc3) rfl fun a hF=>q_xg (v:=(strV t_15.1)) hF hS (ex_move rfl) (wanted_t hF rfl rfl rfl hc3) rfl fun a hF=>q_xg (v:=(.bool (t_13.1 != t_15.1))) hF hS (ex_strNe rfl rfl) (wanted_t hF rfl rfl rfl hc3) rfl fun a hF=>q_x (v:=(.bool (t_13.1 != t_15.1))) hF hS (ex_pick_f rfl rfl hc3) rfl rfl fun a hF=>q_end (n_jn ?_)
    obtain rfl:=someI hj2
    exact ⟨hF.sub ⟨rfl,rfl,rfl,rfl,rfl,rfl,rfl,rfl,trivial⟩,hS.sel [5,3,4,2,0,1] (by decide)⟩
   ·have hj2:=cond_t hc3 hj2
    refine q_skip hF (wanted_f hF rfl rfl rfl hc3 rfl) rfl fun a hF=>q_skip hF (wanted_f hF rfl rfl rfl hc3 rfl) rfl fun a hF=>q_skip hF (wanted_f hF rfl rfl rfl hc3 rfl) rfl fun a hF=>q_x (v:=(.bool true)) hF hS (ex_pick_t rfl rfl hc3) rfl rfl fun a hF=>q_end (n_jn ?_)
    obtain rfl:=someI hj2
    exact ⟨hF.sub ⟨rfl,rfl,rfl,rfl,rfl,rfl,rfl,rfl,trivial⟩,hS.sel [5,3,4,2,0,1] (by decide)⟩
  ·rintro a w ⟨hF,hS⟩
   refine n_sq ?_
   rcases bcase (t_17) with hc4 | hc4
   ·have hr:=cond_f hc4 hr
    refine q_cond_f hF rfl hc4 (q_skipc (n_sq (q_seq (q_seq (q_region (q_x (v:=(.bool t_13.2)) hF hS (ex_move rfl) rfl rfl fun a hF=>q_end (n_sq ?_)))))))
    obtain ⟨j5,hj5,hr⟩:=bindS hr
    refine q_join (fun a w=>j5 = .inl ()∧Fr a 145 [(1,s2.v)]∧St [] w0 w m5 []) ?_ ?_
    ·rcases bcase (t_13.2) with hc6 | hc6
     ·have hj5:=cond_f hc6 hj5
      refine q_cond_f hF rfl hc6 (q_skipc (n_jn ?_))
      obtain rfl:=someI hj5
      exact ⟨rfl,hF.sub ⟨rfl,trivial⟩,hS.mask [false,false,false,false,false,false]⟩
     ·have hj5:=cond_t hc6 hj5
      refine q_cond_t hF rfl hc6 (q_seq (q_region (q_x (v:=(.agg #[s6.v])) hF hS (ex_loadA (vs:=[s6.v]) 5 0 Tryz.underlying26 rfl sz26 rfl rfl rfl rfl) rfl rfl fun a hF=>q_x (v:=s7.v) hF hS (ex_move rfl) rfl rfl fun a hF=>q_x (v:=(.agg #[(iV t_4.2.2.1.Level),s8.v,s9.v,(iV t_4.2.2.1.Sum)])) hF hS (ex_loadA (vs:=[(iV t_4.2.2.1.Level),s8.v,s9.v,(iV t_4.2.2.1.Sum)]) 4 0 Tryz.underlying29 rfl sz29 rfl rfl rfl rfl) rfl rfl fun a hF=>q_x (v:=(strV t_13.1)) hF hS (ex_move rfl) rfl rfl fun a hF=>?_)))
      obtain ⟨m19,hl19,hv19,hz19⟩:=hS.lend
      obtain ⟨t_18,ht_18,hj5⟩:=bindS hj5
      refine q_call (vs:=[(.agg #[s6.v]),s7.v,(.agg #[(iV t_4.2.2.1.Level),s8.v,s9.v,(iV t_4.2.2.1.Sum)]),(strV t_13.1)]) hF hS Tryz.func8 (by kernel_rfl) rfl rfl rfl (c_impl_ParseReport t_4.1 t_4.2.1 t_4.2.2.1 t_13.1 t_18 ht_18 _ m19 hv19 ((ht.mono hm5.le).mono hl19) s6 (h6.froz hl19 (hz19 3 _ rfl)) s7 (h7.mono hl19) s8 (h8.froz hl19 (hz19 1 _ rfl)) s9 (h9.froz hl19 (hz19 2 _ rfl))) ?_
      rintro a w _ ⟨q21,s21,rfl,hR20,h21⟩ hF hS2
      have hS : St _ _ _ _ [q21,q10,q8,q9,q6,[⟨b12,[(iV t_4.2.2.1.Level),s8.v,s9.v,(iV t_4.2.2.1.Sum)],29⟩],[⟨b11,[s6.v],26⟩]]:=hS.joinF hR20
      have h21:=h21.any m5
      refine q_x (v:=(.tuple #[s21.v,(.bool t_18.2)])) hF hS (ex_move rfl) rfl rfl fun a hF=>q_x (v:=s21.v) hF hS (ex_extract rfl rfl) rfl rfl fun a hF=>q_x (v:=(.bool t_18.2)) hF hS (ex_extract rfl rfl) rfl rfl fun a hF=>q_x (v:=s21.v) hF hS (ex_assign rfl) rfl rfl fun a hF=>q_x (v:=(.bool t_18.2)) hF hS (ex_assign rfl) rfl rfl fun a hF=>q_end (n_sq (q_seq ?_))
      obtain ⟨t_24,hj7,hj5⟩:=bindS hj5
      refine q_join (fun a w=>Fr a 145 [(1,s2.v),(81,(.bool t_24))]∧St [] w0 w m5 []) ?_ ?_
      ·refine q_region (q_x (v:=(.bool t_18.2)) hF hS (ex_move rfl) rfl rfl fun a hF=>q_x (v:=(.bool (!t_18.2))) hF hS (ex_not rfl) rfl rfl fun a hF=>q_x (v:=(.bool (!t_18.2))) hF hS (ex_move rfl) rfl rfl fun a hF=>?_)
       rcases bcase (!t_18.2) with hc8 | hc8
       ·have hj7:=cond_f hc8 hj7
        refine q_xg (v:=s21.v) hF hS (ex_move rfl) (wanted_t hF rfl rfl rfl hc8) rfl fun a hF=>q_xg (v:=s10.v) hF hS (ex_move rfl) (wanted_t hF rfl rfl rfl hc8) rfl fun a hF=>?_
        obtain ⟨m23,hl23,hv23,hz23⟩:=hS.lend
        obtain ⟨t_22,ht_22,hj7⟩:=bindS hj7
        refine q_callg (vs:=[s21.v,s10.v]) hF hS (wanted_t hF rfl rfl rfl hc8) Tryz.func9 (by kernel_rfl) rfl rfl rfl (c_laws_sameInts t_18.1 t_4.2.2.2 t_22 ht_22 _ m23 hv23 s21 (h21.froz hl23 (hz23 0 _ rfl)) s10 (h10.froz hl23 (hz23 1 _ rfl))) ?_
        rintro a w _ rfl hF hS
        refine q_xg (v:=(.bool (!t_22))) hF hS (ex_not rfl) (wanted_t hF rfl rfl rfl hc8) rfl fun a hF=>q_x (v:=(.bool (!t_22))) hF hS (ex_pick_f rfl rfl hc8) rfl rfl fun a hF=>q_end (n_jn ?_)
        obtain rfl:=someI hj7
        exact ⟨hF.sub ⟨rfl,rfl,trivial⟩,hS.mask [false,false,false,false,false,false,false]⟩
       ·have hj7:=cond_t hc8 hj7
        refine q_skip hF (wanted_f hF rfl rfl rfl hc8 rfl) rfl fun a hF=>q_skip hF (wanted_f hF rfl rfl rfl hc8 rfl) rfl fun a hF=>q_skip hF (wanted_f hF rfl rfl rfl hc8 rfl) rfl fun a hF=>q_skip hF (wanted_f hF rfl rfl rfl hc8 rfl) rfl fun a hF=>q_x (v:=(.bool true)) hF hS (ex_pick_t rfl rfl hc8) rfl rfl fun a hF=>q_end (n_jn ?_)
        obtain rfl:=someI hj7
        exact ⟨hF.sub ⟨rfl,rfl,trivial⟩,hS.mask [false,false,false,false,false,false,false]⟩
      ·rintro a w ⟨hF,hS⟩
       refine n_sq ?_
       rcases bcase (t_24) with hc9 | hc9
       ·have hj5:=cond_f hc9 hj5
        refine q_cond_f hF rfl hc9 (q_skipc (n_jn ?_))
        obtain rfl:=someI hj5
        exact ⟨rfl,hF.sub ⟨rfl,trivial⟩,hS⟩
       ·have hj5:=cond_t hc9 hj5
        refine q_cond_t hF rfl hc9 (q_seq (q_region (q_x (v:=(.bool false)) hF hS (ex_assign rfl) rfl rfl fun a hF=>q_end (n_sq (q_ret (r_jn ?_))))))
        obtain rfl:=someI hj5
        refine r_sq ?_
        obtain rfl:=someI hr
        exact ret_of hF hS rfl (.tmp rfl .nil) rfl
    ·rintro a w ⟨rfl,hF,hS⟩
     refine n_sq ?_
     refine q_seq (q_region (q_x (v:=s2.v) hF hS (ex_move rfl) rfl rfl fun a hF=>?_))
     obtain ⟨t_25,ht_25,hr⟩:=bindS hr
     refine q_call (vs:=[s2.v]) hF hS Tryz.func10 (by kernel_rfl) rfl rfl rfl (c_spec_DrawParseReport p_more t_25 ht_25 _ m5 hS.vis s2 (h2.mono hm5.le)) ?_
     have hT:=hS
     rintro a w _ ⟨m26,q27,q29,q30,s27,s28,s29,s30,rfl,hm26,hR26,h27,h28,h29,h30⟩ hF hS2
     have hS : St _ _ _ _ [q27,q29,q30]:=hS.join hR26 hm26
     have hm26:=MLe.weakX (O0:=[]) hT hm26
     refine q_x (v:=(.tuple #[(.agg #[s27.v]),s28.v,(.agg #[(iV t_25.2.2.1.Level),s29.v,s30.v,(iV t_25.2.2.1.Sum)]),(strV t_25.2.2.2)])) hF hS (ex_move rfl) rfl rfl fun a hF=>q_x (v:=(.agg #[s27.v])) hF hS (ex_extract rfl rfl) rfl rfl fun a hF=>q_x (v:=s28.v) hF hS (ex_extract rfl rfl) rfl rfl fun a hF=>q_x (v:=(.agg #[(iV t_25.2.2.1.Level),s29.v,s30.v,(iV t_25.2.2.1.Sum)])) hF hS (ex_extract rfl rfl) rfl rfl fun a hF=>q_x (v:=(strV t_25.2.2.2)) hF hS (ex_extract rfl rfl) rfl rfl fun a hF=>q_alloc (cs:=[nilS.v]) hF hS rfl rfl rfl fun a w b31 hF hS=>q_alloc (cs:=[(iV 0),nilS.v,nilS.v,(iV 0)]) hF hS rfl rfl rfl fun a w b32 hF hS=>q_store (vs:=[s27.v]) (cs':=[s27.v]) 1 0 hF hS sz26 rfl rfl rfl rfl rfl rfl rfl rfl fun a w hF hS=>q_x (v:=s28.v) hF hS (ex_assign rfl) rfl rfl fun a hF=>q_store (vs:=[(iV t_25.2.2.1.Level),s29.v,s30.v,(iV t_25.2.2.1.Sum)]) (cs':=[(iV t_25.2.2.1.Level),s29.v,s30.v,(iV t_25.2.2.1.Sum)]) 0 0 hF hS sz29 rfl rfl rfl rfl rfl rfl rfl rfl fun a w hF hS=>q_x (v:=(strV t_25.2.2.2)) hF hS (ex_assign rfl) rfl rfl fun a hF=>q_end (n_sq (q_seq (q_region (q_x (v:=(.agg #[s27.v])) hF hS (ex_loadA (vs:=[s27.v]) 1 0 Tryz.underlying26 rfl sz26 rfl rfl rfl rfl) rfl rfl fun a hF=>q_x (v:=s28.v) hF hS (ex_move rfl) rfl rfl fun a hF=>q_x (v:=(.agg #[(iV t_25.2.2.1.Level),s29.v,s30.v,(iV t_25.2.2.1.Sum)])) hF hS (ex_loadA (vs:=[(iV t_25.2.2.1.Level),s29.v,s30.v,(iV t_25.2.2.1.Sum)]) 0 0 Tryz.underlying29 rfl sz29 rfl rfl rfl rfl) rfl rfl fun a hF=>q_x (v:=(strV t_25.2.2.2)) hF hS (ex_move rfl) rfl rfl fun a hF=>?_))))
     obtain ⟨m34,hl34,hv34,hz34⟩:=hS.lend
     obtain ⟨t_33,ht_33,hr⟩:=bindS hr
     refine q_call (vs:=[(.agg #[s27.v]),s28.v,(.agg #[(iV t_25.2.2.1.Level),s29.v,s30.v,(iV t_25.2.2.1.Sum)]),(strV t_25.2.2.2)]) hF hS Tryz.func8 (by kernel_rfl) rfl rfl rfl (c_impl_ParseReport t_25.1 t_25.2.1 t_25.2.2.1 t_25.2.2.2 t_33 ht_33 _ m34 hv34 (((ht.mono hm5.le).mono hm26.le).mono hl34) s27 (h27.froz hl34 (hz34 2 _ rfl)) s28 (h28.mono hl34) s29 (h29.froz hl34 (hz34 3 _ rfl)) s30 (h30.froz hl34 (hz34 4 _ rfl))) ?_
     rintro a w _ ⟨q36,s36,rfl,hR35,h36⟩ hF hS2
     have hS : St _ _ _ _ [q36,[⟨b32,[(iV t_25.2.2.1.Level),s29.v,s30.v,(iV t_25.2.2.1.Sum)],29⟩],[⟨b31,[s27.v],26⟩],q27,q29,q30]:=hS.joinF hR35
     have h36:=h36.any m26
     refine q_x (v:=(.tuple #[s36.v,(.bool t_33.2)])) hF hS (ex_move rfl) rfl rfl fun a hF=>q_x (v:=s36.v) hF hS (ex_extract rfl rfl) rfl rfl fun a hF=>q_x (v:=(.bool t_33.2)) hF hS (ex_extract rfl rfl) rfl rfl fun a hF=>q_x (v:=s36.v) hF hS (ex_assign rfl) rfl rfl fun a hF=>q_x (v:=(.bool t_33.2)) hF hS (ex_assign rfl) rfl rfl fun a hF=>q_end (n_sq (q_seq (q_region (q_x (v:=(.agg #[s27.v])) hF hS (ex_loadA (vs:=[s27.v]) 2 0 Tryz.underlying26 rfl sz26 rfl rfl rfl rfl) rfl rfl fun a hF=>q_x (v:=s28.v) hF hS (ex_move rfl) rfl rfl fun a hF=>q_x (v:=(.agg #[(iV t_25.2.2.1.Level),s29.v,s30.v,(iV t_25.2.2.1.Sum)])) hF hS (ex_loadA (vs:=[(iV t_25.2.2.1.Level),s29.v,s30.v,(iV t_25.2.2.1.Sum)]) 1 0 Tryz.underlying29 rfl sz29 rfl rfl rfl rfl) rfl rfl fun a hF=>q_x (v:=(strV t_25.2.2.2)) hF hS (ex_move rfl) rfl rfl fun a hF=>?_))))
     obtain ⟨m38,hl38,hv38,hz38⟩:=hS.lend
     obtain ⟨t_37,ht_37,hr⟩:=bindS hr
     refine q_call (vs:=[(.agg #[s27.v]),s28.v,(.agg #[(iV t_25.2.2.1.Level),s29.v,s30.v,(iV t_25.2.2.1.Sum)]),(strV t_25.2.2.2)]) hF hS Tryz.func11 (by kernel_rfl) rfl rfl rfl (c_spec_ParseReport t_25.1 t_25.2.1 t_25.2.2.1 t_25.2.2.2 t_37 ht_37 _ m38 hv38 s27 (h27.froz hl38 (hz38 3 _ rfl)) s28 (h28.mono hl38) s29 (h29.froz hl38 (hz38 4 _ rfl)) s30 (h30.froz hl38 (hz38 5 _ rfl))) ?_
     rintro a w _ ⟨q40,s40,rfl,hR39,h40⟩ hF hS2
     have hS : St _ _ _ _ [q40,q36,[⟨b32,[(iV t_25.2.2.1.Level),s29.v,s30.v,(iV t_25.2.2.1.Sum)],29⟩],[⟨b31,[s27.v],26⟩],q27,q29,q30]:=hS.joinF hR39
     have h40:=h40.any m26
     refine q_x (v:=(.tuple #[s40.v,(.bool t_37.2)])) hF hS (ex_move rfl) rfl rfl fun a hF=>q_x (v:=s40.v) hF hS (ex_extract rfl rfl) rfl rfl fun a hF=>q_x (v:=(.bool t_37.2)) hF hS (ex_extract rfl rfl) rfl rfl fun a hF=>q_x (v:=s40.v) hF hS (ex_assign rfl) rfl rfl fun a hF=>q_x (v:=(.bool t_37.2)) hF hS (ex_assign rfl) rfl rfl fun a hF=>q_end (n_sq (q_seq (q_seq ?_)))
     obtain ⟨t_43,hj10,hr⟩:=bindS hr
     refine q_join (fun a w=>Fr a 145 [(1,s2.v),(113,(.bool t_43))]∧St [] w0 w m26 []) ?_ ?_
     ·refine q_region (q_x (v:=(.bool t_33.2)) hF hS (ex_move rfl) rfl rfl fun a hF=>q_x (v:=(.bool t_37.2)) hF hS (ex_move rfl) rfl rfl fun a hF=>q_x (v:=(.bool (t_33.2 != t_37.2))) hF hS (ex_bne Tryz.underlying4 rfl rfl) rfl rfl fun a hF=>q_x (v:=(.bool (t_33.2 != t_37.2))) hF hS (ex_move rfl) rfl rfl fun a hF=>?_)
      rcases bcase (t_33.2 != t_37.2) with hc11 | hc11
      ·have hj10:=cond_f hc11 hj10
       refine q_xg (v:=s36.v) hF hS (ex_move rfl) (wanted_t hF rfl rfl rfl hc11) rfl fun a hF=>q_xg (v:=s40.v) hF hS (ex_move rfl) (wanted_t hF rfl rfl rfl hc11) rfl fun a hF=>?_
       obtain ⟨m42,hl42,hv42,hz42⟩:=hS.lend
       obtain ⟨t_41,ht_41,hj10⟩:=bindS hj10
       refine q_callg (vs:=[s36.v,s40.v]) hF hS (wanted_t hF rfl rfl rfl hc11) Tryz.func9 (by kernel_rfl) rfl rfl rfl (c_laws_sameInts t_33.1 t_37.1 t_41 ht_41 _ m42 hv42 s36 (h36.froz hl42 (hz42 1 _ rfl)) s40 (h40.froz hl42 (hz42 0 _ rfl))) ?_
       rintro a w _ rfl hF hS
       refine q_xg (v:=(.bool (!t_41))) hF hS (ex_not rfl) (wanted_t hF rfl rfl rfl hc11) rfl fun a hF=>q_x (v:=(.bool (!t_41))) hF hS (ex_pick_f rfl rfl hc11) rfl rfl fun a hF=>q_end (n_jn ?_)
       obtain rfl:=someI hj10
       exact ⟨hF.sub ⟨rfl,rfl,trivial⟩,hS.mask [false,false,false,false,false,false,false]⟩
      ·have hj10:=cond_t hc11 hj10
       refine q_skip hF (wanted_f hF rfl rfl rfl hc11 rfl) rfl fun a hF=>q_skip hF (wanted_f hF rfl rfl rfl hc11 rfl) rfl fun a hF=>q_skip hF (wanted_f hF rfl rfl rfl hc11 rfl) rfl fun a hF=>q_skip hF (wanted_f hF rfl rfl rfl hc11 rfl) rfl fun a hF=>q_x (v:=(.bool true)) hF hS (ex_pick_t rfl rfl hc11) rfl rfl fun a hF=>q_end (n_jn ?_)
       obtain rfl:=someI hj10
       exact ⟨hF.sub ⟨rfl,rfl,trivial⟩,hS.mask [false,false,false,false,false,false,false]⟩
     ·rintro a w ⟨hF,hS⟩
      refine n_sq ?_
      rcases bcase (t_43) with hc12 | hc12
      ·have hr:=cond_f hc12 hr
       refine q_cond_f hF rfl hc12 (q_skipc (n_sq (q_seq (q_region (q_x (v:=s2.v) hF hS (ex_move rfl) rfl rfl fun a hF=>?_)))))
       obtain ⟨t_44,ht_44,hr⟩:=bindS hr
       refine q_call (vs:=[s2.v]) hF hS Tryz.func12 (by kernel_rfl) rfl rfl rfl (c_spec_DrawCellText p_more t_44 ht_44 _ m26 hS.vis s2 ((h2.mono hm5.le).mono hm26.le)) ?_
       have hT:=hS
       rintro a w _ ⟨m45,q46,q48,q49,s46,s47,s48,s49,rfl,hm45,hR45,h46,h47,h48,h49⟩ hF hS2
       have hS : St _ _ _ _ [q46,q48,q49]:=hS.join hR45 hm45
       have hm45:=MLe.weakX (O0:=[]) hT hm45
       refine q_x (v:=(.tuple #[(.agg #[s46.v]),s47.v,(.agg #[(iV t_44.2.2.1.Level),s48.v,s49.v,(iV t_44.2.2.1.Sum)]),(iV t_44.2.2.2)])) hF hS (ex_move rfl) rfl rfl fun a hF=>q_x (v:=(.agg #[s46.v])) hF hS (ex_extract rfl rfl) rfl rfl fun a hF=>q_x (v:=s47.v) hF hS (ex_extract rfl rfl) rfl rfl fun a hF=>q_x (v:=(.agg #[(iV t_44.2.2.1.Level),s48.v,s49.v,(iV t_44.2.2.1.Sum)])) hF hS (ex_extract rfl rfl) rfl rfl fun a hF=>q_x (v:=(iV t_44.2.2.2)) hF hS (ex_extract rfl rfl) rfl rfl fun a hF=>q_alloc (cs:=[nilS.v]) hF hS rfl rfl rfl fun a w b50 hF hS=>q_alloc (cs:=[(iV 0),nilS.v,nilS.v,(iV 0)]) hF hS rfl rfl rfl fun a w b51 hF hS=>q_store (vs:=[s46.v]) (cs':=[s46.v]) 1 0 hF hS sz26 rfl rfl rfl rfl rfl rfl rfl rfl fun a w hF hS=>q_x (v:=s47.v) hF hS (ex_assign rfl) rfl rfl fun a hF=>q_store (vs:=[(iV t_44.2.2.1.Level),s48.v,s49.v,(iV t_44.2.2.1.Sum)]) (cs':=[(iV t_44.2.2.1.Level),s48.v,s49.v,(iV t_44.2.2.1.Sum)]) 0 0 hF hS sz29 rfl rfl rfl rfl rfl rfl rfl rfl fun a w hF hS=>q_x (v:=(iV t_44.2.2.2)) hF hS (ex_assign rfl) rfl rfl fun a hF=>q_end (n_sq (q_seq (q_region (q_x (v:=(.agg #[s46.v])) hF hS (ex_loadA (vs:=[s46.v]) 1 0 Tryz.underlying26 rfl sz26 rfl rfl rfl rfl) rfl rfl fun a hF=>q_x (v:=s47.v) hF hS (ex_move rfl) rfl rfl fun a hF=>q_x (v:=(.agg #[(iV t_44.2.2.1.Level),s48.v,s49.v,(iV t_44.2.2.1.Sum)])) hF hS (ex_loadA (vs:=[(iV t_44.2.2.1.Level),s48.v,s49.v,(iV t_44.2.2.1.Sum)]) 0 0 Tryz.underlying29 rfl sz29 rfl rfl rfl rfl) rfl rfl fun a hF=>q_x (v:=(iV t_44.2.2.2)) hF hS (ex_move rfl) rfl rfl fun a hF=>?_))))
       obtain ⟨m53,hl53,hv53,hz53⟩:=hS.lend
       obtain ⟨t_52,ht_52,hr⟩:=bindS hr
       refine q_call (vs:=[(.agg #[s46.v]),s47.v,(.agg #[(iV t_44.2.2.1.Level),s48.v,s49.v,(iV t_44.2.2.1.Sum)]),(iV t_44.2.2.2)]) hF hS Tryz.func13 (by kernel_rfl) rfl rfl rfl (c_impl_CellText t_44.1 t_44.2.1 t_44.2.2.1 t_44.2.2.2 t_52 ht_52 _ m53 hv53 ((((ht.mono hm5.le).mono hm26.le).mono hm45.le).mono hl53) s46 (h46.froz hl53 (hz53 2 _ rfl)) s47 (h47.mono hl53) s48 (h48.froz hl53 (hz53 3 _ rfl)) s49 (h49.froz hl53 (hz53 4 _ rfl))) ?_
       rintro a w _ rfl hF hS
       refine q_x (v:=(.tuple #[(strV t_52.1),(.bool t_52.2)])) hF hS (ex_move rfl) rfl rfl fun a hF=>q_x (v:=(strV t_52.1)) hF hS (ex_extract rfl rfl) rfl rfl fun a hF=>q_x (v:=(.bool t_52.2)) hF hS (ex_extract rfl rfl) rfl rfl fun a hF=>q_x (v:=(strV t_52.1)) hF hS (ex_assign rfl) rfl rfl fun a hF=>q_x (v:=(.bool t_52.2)) hF hS (ex_assign rfl) rfl rfl fun a hF=>q_end (n_sq (q_seq (q_region (q_x (v:=(.agg #[s46.v])) hF hS (ex_loadA (vs:=[s46.v]) 1 0 Tryz.underlying26 rfl sz26 rfl rfl rfl rfl) rfl rfl fun a hF=>q_x (v:=s47.v) hF hS (ex_move rfl) rfl rfl fun a hF=>q_x (v:=(.agg #[(iV t_44.2.2.1.Level),s48.v,s49.v,(iV t_44.2.2.1.Sum)])) hF hS (ex_loadA (vs:=[(iV t_44.2.2.1.Level),s48.v,s49.v,(iV t_44.2.2.1.Sum)]) 0 0 Tryz.underlying29 rfl sz29 rfl rfl rfl rfl) rfl rfl fun a hF=>q_x (v:=(iV t_44.2.2.2)) hF hS (ex_move rfl) rfl rfl fun a hF=>?_))))
       obtain ⟨m55,hl55,hv55,hz55⟩:=hS.lend
       obtain ⟨t_54,ht_54,hr⟩:=bindS hr
       refine q_call (vs:=[(.agg #[s46.v]),s47.v,(.agg #[(iV t_44.2.2.1.Level),s48.v,s49.v,(iV t_44.2.2.1.Sum)]),(iV t_44.2.2.2)]) hF hS Tryz.func14 (by kernel_rfl) rfl rfl rfl (c_spec_CellText t_44.1 t_44.2.1 t_44.2.2.1 t_44.2.2.2 t_54 ht_54 _ m55 hv55 s46 (h46.froz hl55 (hz55 2 _ rfl)) s47 (h47.mono hl55) s48 (h48.froz hl55 (hz55 3 _ rfl)) s49 (h49.froz hl55 (hz55 4 _ rfl))) ?_
       rintro a w _ rfl hF hS
       refine q_x (v:=(.tuple #[(strV t_54.1),(.bool t_54.2)])) hF hS (ex_move rfl) rfl rfl fun a hF=>q_x (v:=(strV t_54.1)) hF hS (ex_extract rfl rfl) rfl rfl fun a hF=>q_x (v:=(.bool t_54.2)) hF hS (ex_extract rfl rfl) rfl rfl fun a hF=>q_x (v:=(strV t_54.1)) hF hS (ex_assign rfl) rfl rfl fun a hF=>q_x (v:=(.bool t_54.2)) hF hS (ex_assign rfl) rfl rfl fun a hF=>q_end (n_sq (q_seq ?_))
       obtain ⟨t_56,hj13,hr⟩:=bindS hr
       refine q_join (fun a w=>Fr a 145 [(4,(.bool t_56))]∧St [] w0 w m45 []) ?_ ?_
       ·refine q_region (q_x (v:=(.bool t_52.2)) hF hS (ex_move rfl) rfl rfl fun a hF=>q_x (v:=(.bool t_54.2)) hF hS (ex_move rfl) rfl rfl fun a hF=>q_x (v:=(.bool (t_52.2 == t_54.2))) hF hS (ex_beq Tryz.underlying4 rfl rfl) rfl rfl fun a hF=>q_x (v:=(.bool (t_52.2 == t_54.2))) hF hS (ex_move rfl) rfl rfl fun a hF=>?_)
        rcases bcase (t_52.2 == t_54.2) with hc14 | hc14
        ·have hj13:=cond_f hc14 hj13
         refine q_skip hF (wanted_f hF rfl rfl rfl hc14 rfl) rfl fun a hF=>q_skip hF (wanted_f hF rfl rfl rfl hc14 rfl) rfl fun a hF=>q_skip hF (wanted_f hF rfl rfl rfl hc14 rfl) rfl fun a hF=>q_x (v:=(.bool false)) hF hS (ex_pick_f rfl rfl hc14) rfl rfl fun a hF=>q_x (v:=(.bool false)) hF hS (ex_assign rfl) rfl rfl fun a hF=>q_end (n_jn ?_)
         obtain rfl:=someI hj13
         exact ⟨hF.sub ⟨rfl,trivial⟩,hS.mask [false,false,false,false,false]⟩
        ·have hj13:=cond_t hc14 hj13
         refine q_xg (v:=(strV t_52.1)) hF hS (ex_move rfl) (wanted_t hF rfl rfl rfl hc14) rfl fun a hF=>q_xg (v:=(strV t_54.1)) hF hS (ex_move rfl) (wanted_t hF rfl rfl rfl hc14) rfl fun a hF=>q_xg (v:=(.bool (t_52.1 == t_54.1))) hF hS (ex_strEq rfl rfl) (wanted_t hF rfl rfl rfl hc14) rfl fun a hF=>q_x (v:=(.bool (t_52.1 == t_54.1))) hF hS (ex_pick_t rfl rfl hc14) rfl rfl fun a hF=>q_x (v:=(.bool (t_52.1 == t_54.1))) hF hS (ex_assign rfl) rfl rfl fun a hF=>q_end (n_jn ?_)
         obtain rfl:=someI hj13
         exact ⟨hF.sub ⟨rfl,trivial⟩,hS.mask [false,false,false,false,false]⟩
       ·rintro a w ⟨hF,hS⟩
        refine n_sq (q_ret ?_)
        obtain rfl:=someI hr
        exact ret_of hF hS rfl (.tmp rfl .nil) rfl
      ·have hr:=cond_t hc12 hr
       refine q_cond_t hF rfl hc12 (q_seq (q_region (q_x (v:=(.bool false)) hF hS (ex_assign rfl) rfl rfl fun a hF=>q_end (n_sq (q_ret (r_sq ?_))))))
       obtain rfl:=someI hr
       exact ret_of hF hS rfl (.tmp rfl .nil) rfl
   ·have hr:=cond_t hc4 hr
    refine q_cond_t hF rfl hc4 (q_seq (q_region (q_x (v:=(.bool false)) hF hS (ex_assign rfl) rfl rfl fun a hF=>q_end (n_sq (q_ret (r_sq ?_))))))
    obtain rfl:=someI hr
    exact ret_of hF hS rfl (.tmp rfl .nil) rfl
 ·have hr:=cond_t hc1 hr
  refine q_cond_t hF rfl hc1 (q_seq (q_region (q_x (v:=(.bool true)) hF hS (ex_assign rfl) rfl rfl fun a hF=>q_end (n_sq (q_ret (r_sq ?_))))))
  obtain rfl:=someI hr
  exact ret_of hF hS rfl (.tmp rfl .nil) rfl

end Go.Proofs.YtgaeknajcakinaaGreatDoor
