/- The walks of the functions: each returns what its plain function says. -/
import Derived.Test.YtnmimeojimfogaaGreatWalks3
namespace Go.Proofs.YtnmimeojimfogaaGreat
open Go.Gx Go.Gx.F Go.RowKit
set_option linter.all false
set_option maxRecDepth 10000


theorem c_impl_DeriveCells (p_g : impl_Geo) (p_s : List impl_Variable) (p_t : impl_Table) (p_u : impl_Table) (p_cells : List Int) (r : (List Int) × Bool) (hr : impl_DeriveCells p_g p_s p_t p_u p_cells = some r) (w0 : World) (m : Mem) (hv : Vis m w0) (s1 : Sl) (h1 : Rd m s1 p_g.Parents) (s2 : Sl) (h2 : Rd m s2 p_s) (s3 : Sl) (h3 : Rd m s3 p_t.Vars) (s4 : Sl) (h4 : Rd m s4 p_t.Where) (s5 : Sl) (h5 : Rd m s5 p_u.Vars) (s6 : Sl) (h6 : Rd m s6 p_u.Where) (s7 : Sl) (h7 : Rd m s7 p_cells) :
  Ret Tryz.prog 10 [(.agg #[s1.v]),s2.v,(.agg #[(iV p_t.Level),s3.v,s4.v,(iV p_t.Sum)]),(.agg #[(iV p_u.Level),s5.v,s6.v,(iV p_u.Sum)]),s7.v] w0 (fun v w=>∃ (q0' : Piece) (s0' : Sl),v = (.tuple #[s0'.v,(.bool r.2)])∧St [] w0 w m [q0']∧OwnL m 3 q0' s0' r.1):=by
 unfold impl_DeriveCells at hr
 refine ret_start Tryz.func10 rfl 91 rfl rfl m hv fun a hF hS=>q_seq (q_region (q_box (cs:=[s1.v]) hF hS rfl rfl rfl fun a w b8 hF hS=>q_box (cs:=[(iV p_t.Level),s3.v,s4.v,(iV p_t.Sum)]) hF hS rfl rfl rfl fun a w b9 hF hS=>q_box (cs:=[(iV p_u.Level),s5.v,s6.v,(iV p_u.Sum)]) hF hS rfl rfl rfl fun a w b10 hF hS=>q_x (v:=nilS.v) hF hS (ex_assign rfl) rfl rfl fun a hF=>q_x (v:=(.bool false)) hF hS (ex_assign rfl) rfl rfl fun a hF=>q_end (n_sq (q_seq (q_seq ?_)))))
 obtain ⟨t_16,hj1,hr⟩:=bindS hr
 refine q_join (fun a w=>Fr a 91 [(1,s2.v),(4,s7.v),(5,(.pointer (some ⟨b8,0,none⟩))),(7,(.pointer (some ⟨b9,0,none⟩))),(8,(.pointer (some ⟨b10,0,none⟩))),(47,(.bool t_16))]∧St [] w0 w m [[⟨b10,[(iV p_u.Level),s5.v,s6.v,(iV p_u.Sum)],29⟩],[⟨b9,[(iV p_t.Level),s3.v,s4.v,(iV p_t.Sum)],29⟩],[⟨b8,[s1.v],26⟩]]) ?_ ?_
 ·refine q_region (q_x (v:=(.agg #[s1.v])) hF hS (ex_loadA (vs:=[s1.v]) 2 0 Tryz.underlying26 rfl sz26 rfl rfl rfl rfl) rfl rfl fun a hF=>q_x (v:=s2.v) hF hS (ex_move rfl) rfl rfl fun a hF=>q_x (v:=(.agg #[(iV p_t.Level),s3.v,s4.v,(iV p_t.Sum)])) hF hS (ex_loadA (vs:=[(iV p_t.Level),s3.v,s4.v,(iV p_t.Sum)]) 1 0 Tryz.underlying29 rfl sz29 rfl rfl rfl rfl) rfl rfl fun a hF=>?_)
  obtain ⟨t_11,ht_11,hj1⟩:=bindS hj1
  refine q_call (vs:=[(.agg #[s1.v]),s2.v,(.agg #[(iV p_t.Level),s3.v,s4.v,(iV p_t.Sum)])]) hF hS Tryz.func20 (by kernel_rfl) rfl rfl rfl (c_impl_areTabled p_g p_s p_t t_11 ht_11 _ m hS.vis s1 h1 s2 h2 s3 h3 s4 h4) ?_
  rintro a w _ rfl hF hS
  refine q_x (v:=(.bool (!t_11))) hF hS (ex_not rfl) rfl rfl fun a hF=>q_x (v:=(.bool (!t_11))) hF hS (ex_move rfl) rfl rfl fun a hF=>?_
  rcases bcase (!t_11) with hc2 | hc2
  ·have hj1:=cond_f hc2 hj1
   refine q_xg (v:=(.agg #[s1.v])) hF hS (ex_loadA (vs:=[s1.v]) 2 0 Tryz.underlying26 rfl sz26 rfl rfl rfl rfl) (wanted_t hF rfl rfl rfl hc2) rfl fun a hF=>q_xg (v:=s2.v) hF hS (ex_move rfl) (wanted_t hF rfl rfl rfl hc2) rfl fun a hF=>q_xg (v:=(.agg #[(iV p_u.Level),s5.v,s6.v,(iV p_u.Sum)])) hF hS (ex_loadA (vs:=[(iV p_u.Level),s5.v,s6.v,(iV p_u.Sum)]) 0 0 Tryz.underlying29 rfl sz29 rfl rfl rfl rfl) (wanted_t hF rfl rfl rfl hc2) rfl fun a hF=>?_
   obtain ⟨t_12,ht_12,hj1⟩:=bindS hj1
   refine q_callg (vs:=[(.agg #[s1.v]),s2.v,(.agg #[(iV p_u.Level),s5.v,s6.v,(iV p_u.Sum)])]) hF hS (wanted_t hF rfl rfl rfl hc2) Tryz.func21 (by kernel_rfl) rfl rfl rfl (c_impl_isTable p_g p_s p_u t_12 ht_12 _ m hS.vis s1 h1 s2 h2 s5 h5 s6 h6) ?_
   rintro a w _ rfl hF hS
   refine q_xg (v:=(.bool (!t_12))) hF hS (ex_not rfl) (wanted_t hF rfl rfl rfl hc2) rfl fun a hF=>q_x (v:=(.bool (!t_12))) hF hS (ex_pick_f rfl rfl hc2) rfl rfl fun a hF=>q_x (v:=(.bool (!t_12))) hF hS (ex_move rfl) rfl rfl fun a hF=>?_
   rcases bcase (!t_12) with hc3 | hc3
   ·have hj1:=cond_f hc3 hj1
    refine q_xg (v:=s7.v) hF hS (ex_move rfl) (wanted_t hF rfl rfl rfl hc3) rfl fun a hF=>q_xg (v:=(.agg #[s1.v])) hF hS (ex_loadA (vs:=[s1.v]) 2 0 Tryz.underlying26 rfl sz26 rfl rfl rfl rfl) (wanted_t hF rfl rfl rfl hc3) rfl fun a hF=>q_xg (v:=s2.v) hF hS (ex_move rfl) (wanted_t hF rfl rfl rfl hc3) rfl fun a hF=>q_xg (v:=(.agg #[(iV p_u.Level),s5.v,s6.v,(iV p_u.Sum)])) hF hS (ex_loadA (vs:=[(iV p_u.Level),s5.v,s6.v,(iV p_u.Sum)]) 0 0 Tryz.underlying29 rfl sz29 rfl rfl rfl rfl) (wanted_t hF rfl rfl rfl hc3) rfl fun a hF=>?_
    obtain ⟨t_13,ht_13,hj1⟩:=bindS hj1
    refine q_callg (vs:=[(.agg #[s1.v]),s2.v,(.agg #[(iV p_u.Level),s5.v,s6.v,(iV p_u.Sum)])]) hF hS (wanted_t hF rfl rfl rfl hc3) Tryz.func28 (by kernel_rfl) rfl rfl rfl (c_impl_cellCount p_g p_s p_u t_13 ht_13 _ m hS.vis s1 h1 s2 h2 s5 h5 s6 h6) ?_
    rintro a w _ rfl hF hS
    obtain ⟨t_14,ht_14,hj1⟩:=bindS hj1
    refine q_callg (vs:=[s7.v,(iV t_13)]) hF hS (wanted_t hF rfl rfl rfl hc3) Tryz.func27 (by kernel_rfl) rfl rfl rfl (c_impl_areSmallIntegers p_cells t_13 t_14 ht_14 _ m hS.vis s7 h7) ?_
    rintro a w _ rfl hF hS
    refine q_xg (v:=(.bool (!t_14))) hF hS (ex_not rfl) (wanted_t hF rfl rfl rfl hc3) rfl fun a hF=>q_x (v:=(.bool (!t_14))) hF hS (ex_pick_f rfl rfl hc3) rfl rfl fun a hF=>q_x (v:=(.bool (!t_14))) hF hS (ex_move rfl) rfl rfl fun a hF=>?_
    rcases bcase (!t_14) with hc4 | hc4
    ·have hj1:=cond_f hc4 hj1
     refine q_xg (v:=(.agg #[s1.v])) hF hS (ex_loadA (vs:=[s1.v]) 2 0 Tryz.underlying26 rfl sz26 rfl rfl rfl rfl) (wanted_t hF rfl rfl rfl hc4) rfl fun a hF=>q_xg (v:=s2.v) hF hS (ex_move rfl) (wanted_t hF rfl rfl rfl hc4) rfl fun a hF=>q_xg (v:=(.agg #[(iV p_t.Level),s3.v,s4.v,(iV p_t.Sum)])) hF hS (ex_loadA (vs:=[(iV p_t.Level),s3.v,s4.v,(iV p_t.Sum)]) 1 0 Tryz.underlying29 rfl sz29 rfl rfl rfl rfl) (wanted_t hF rfl rfl rfl hc4) rfl fun a hF=>q_xg (v:=(.agg #[(iV p_u.Level),s5.v,s6.v,(iV p_u.Sum)])) hF hS (ex_loadA (vs:=[(iV p_u.Level),s5.v,s6.v,(iV p_u.Sum)]) 0 0 Tryz.underlying29 rfl sz29 rfl rfl rfl rfl) (wanted_t hF rfl rfl rfl hc4) rfl fun a hF=>?_
     obtain ⟨t_15,ht_15,hj1⟩:=bindS hj1
     refine q_callg (vs:=[(.agg #[s1.v]),s2.v,(.agg #[(iV p_t.Level),s3.v,s4.v,(iV p_t.Sum)]),(.agg #[(iV p_u.Level),s5.v,s6.v,(iV p_u.Sum)])]) hF hS (wanted_t hF rfl rfl rfl hc4) Tryz.func22 (by kernel_rfl) rfl rfl rfl (c_impl_followsFrom p_g p_s p_t p_u t_15 ht_15 _ m hS.vis s1 h1 s2 h2 s3 h3 s4 h4 s5 h5 s6 h6) ?_
     rintro a w _ rfl hF hS
     refine q_xg (v:=(.bool (!t_15))) hF hS (ex_not rfl) (wanted_t hF rfl rfl rfl hc4) rfl fun a hF=>q_x (v:=(.bool (!t_15))) hF hS (ex_pick_f rfl rfl hc4) rfl rfl fun a hF=>q_end (n_jn ?_)
     obtain rfl:=someI hj1
     exact ⟨hF.sub ⟨rfl,rfl,rfl,rfl,rfl,rfl,trivial⟩,hS⟩
    ·have hj1:=cond_t hc4 hj1
     refine q_skip hF (wanted_f hF rfl rfl rfl hc4 rfl) rfl fun a hF=>q_skip hF (wanted_f hF rfl rfl rfl hc4 rfl) rfl fun a hF=>q_skip hF (wanted_f hF rfl rfl rfl hc4 rfl) rfl fun a hF=>q_skip hF (wanted_f hF rfl rfl rfl hc4 rfl) rfl fun a hF=>q_skip hF (wanted_f hF rfl rfl rfl hc4 rfl) rfl fun a hF=>q_skip hF (wanted_f hF rfl rfl rfl hc4 rfl) rfl fun a hF=>q_x (v:=(.bool true)) hF hS (ex_pick_t rfl rfl hc4) rfl rfl fun a hF=>q_end (n_jn ?_)
     obtain rfl:=someI hj1
     exact ⟨hF.sub ⟨rfl,rfl,rfl,rfl,rfl,rfl,trivial⟩,hS⟩
   ·have hj1:=cond_t hc3 hj1
    refine q_skip hF (wanted_f hF rfl rfl rfl hc3 rfl) rfl fun a hF=>q_skip hF (wanted_f hF rfl rfl rfl hc3 rfl) rfl fun a hF=>q_skip hF (wanted_f hF rfl rfl rfl hc3 rfl) rfl fun a hF=>q_skip hF (wanted_f hF rfl rfl rfl hc3 rfl) rfl fun a hF=>q_skip hF (wanted_f hF rfl rfl rfl hc3 rfl) rfl fun a hF=>q_skip hF (wanted_f hF rfl rfl rfl hc3 rfl) rfl fun a hF=>q_skip hF (wanted_f hF rfl rfl rfl hc3 rfl) rfl fun a hF=>q_x (v:=(.bool true)) hF hS (ex_pick_t rfl rfl hc3) rfl rfl fun a hF=>q_x (v:=(.bool true)) hF hS (ex_move rfl) rfl rfl fun a hF=>q_skip hF (wanted_f hF rfl rfl rfl rfl rfl) rfl fun a hF=>q_skip hF (wanted_f hF rfl rfl rfl rfl rfl) rfl fun a hF=>q_skip hF (wanted_f hF rfl rfl rfl rfl rfl) rfl fun a hF=>q_skip hF (wanted_f hF rfl rfl rfl rfl rfl) rfl fun a hF=>q_skip hF (wanted_f hF rfl rfl rfl rfl rfl) rfl fun a hF=>q_skip hF (wanted_f hF rfl rfl rfl rfl rfl) rfl fun a hF=>q_x (v:=(.bool true)) hF hS (ex_pick_t rfl rfl rfl) rfl rfl fun a hF=>q_end (n_jn ?_)
    obtain rfl:=someI hj1
    exact ⟨hF.sub ⟨rfl,rfl,rfl,rfl,rfl,rfl,trivial⟩,hS⟩
  ·have hj1:=cond_t hc2 hj1
   refine q_skip hF (wanted_f hF rfl rfl rfl hc2 rfl) rfl fun a hF=>q_skip hF (wanted_f hF rfl rfl rfl hc2 rfl) rfl fun a hF=>q_skip hF (wanted_f hF rfl rfl rfl hc2 rfl) rfl fun a hF=>q_skip hF (wanted_f hF rfl rfl rfl hc2 rfl) rfl fun a hF=>q_skip hF (wanted_f hF rfl rfl rfl hc2 rfl) rfl fun a hF=>q_x (v:=(.bool true)) hF hS (ex_pick_t rfl rfl hc2) rfl rfl fun a hF=>q_x (v:=(.bool true)) hF hS (ex_move rfl) rfl rfl fun a hF=>q_skip hF (wanted_f hF rfl rfl rfl rfl rfl) rfl fun a hF=>q_skip hF (wanted_f hF rfl rfl rfl rfl rfl) rfl fun a hF=>q_skip hF (wanted_f hF rfl rfl rfl rfl rfl) rfl fun a hF=>q_skip hF (wanted_f hF rfl rfl rfl rfl rfl) rfl fun a hF=>q_skip hF (wanted_f hF rfl rfl rfl rfl rfl) rfl fun a hF=>q_skip hF (wanted_f hF rfl rfl rfl rfl rfl) rfl fun a hF=>q_skip hF (wanted_f hF rfl rfl rfl rfl rfl) rfl fun a hF=>q_x (v:=(.bool true)) hF hS (ex_pick_t rfl rfl rfl) rfl rfl fun a hF=>q_x (v:=(.bool true)) hF hS (ex_move rfl) rfl rfl fun a hF=>q_skip hF (wanted_f hF rfl rfl rfl rfl rfl) rfl fun a hF=>q_skip hF (wanted_f hF rfl rfl rfl rfl rfl) rfl fun a hF=>q_skip hF (wanted_f hF rfl rfl rfl rfl rfl) rfl fun a hF=>q_skip hF (wanted_f hF rfl rfl rfl rfl rfl) rfl fun a hF=>q_skip hF (wanted_f hF rfl rfl rfl rfl rfl) rfl fun a hF=>q_skip hF (wanted_f hF rfl rfl rfl rfl rfl) rfl fun a hF=>q_x (v:=(.bool true)) hF hS (ex_pick_t rfl rfl rfl) rfl rfl fun a hF=>q_end (n_jn ?_)
   obtain rfl:=someI hj1
   exact ⟨hF.sub ⟨rfl,rfl,rfl,rfl,rfl,rfl,trivial⟩,hS⟩
 ·rintro a w ⟨hF,hS⟩
  refine n_sq ?_
  rcases bcase (t_16) with hc5 | hc5
  ·have hr:=cond_f hc5 hr
   refine q_cond_f hF rfl hc5 (q_skipc (n_sq (q_seq (q_region (q_x (v:=(.agg #[s1.v])) hF hS (ex_loadA (vs:=[s1.v]) 2 0 Tryz.underlying26 rfl sz26 rfl rfl rfl rfl) rfl rfl fun a hF=>q_x (v:=s2.v) hF hS (ex_move rfl) rfl rfl fun a hF=>q_x (v:=(.agg #[(iV p_t.Level),s3.v,s4.v,(iV p_t.Sum)])) hF hS (ex_loadA (vs:=[(iV p_t.Level),s3.v,s4.v,(iV p_t.Sum)]) 1 0 Tryz.underlying29 rfl sz29 rfl rfl rfl rfl) rfl rfl fun a hF=>?_)))))
   obtain ⟨t_17,ht_17,hr⟩:=bindS hr
   refine q_call (vs:=[(.agg #[s1.v]),s2.v,(.agg #[(iV p_t.Level),s3.v,s4.v,(iV p_t.Sum)])]) hF hS Tryz.func28 (by kernel_rfl) rfl rfl rfl (c_impl_cellCount p_g p_s p_t t_17 ht_17 _ m hS.vis s1 h1 s2 h2 s3 h3 s4 h4) ?_
   rintro a w _ rfl hF hS
   obtain ⟨l_18,hl_18,hr⟩:=bindS hr
   refine q_do rfl fun _ hK=>wp_make (z:=(0 : Int)) hF hS Tryz.underlying24 inf3 rfl rfl rfl rfl rfl (by decide) hl_18 rfl fun a w q19 s19 hF hS h19 _=>hK _ _ (q_x (v:=s19.v) hF hS (ex_assign rfl) rfl rfl fun a hF=>q_end (n_sq (q_seq (q_seq (q_region (q_x (v:=s7.v) hF hS (ex_move rfl) rfl rfl fun a hF=>q_x (v:=(iV (goLen p_cells))) hF hS (ex_len Tryz.underlying24 rfl h7.len) rfl rfl fun a hF=>q_x (v:=(iV 0)) hF hS (ex_move rfl) rfl rfl fun a hF=>q_end (n_sq (q_block ?_))))))))
   obtain ⟨out_37,hl6,hr⟩:=bindS hr
   refine q_loop (fun (s : (List Int) × Int) a w=>∃ (q21 : Piece),∃ out_20,∃ t_22,s = (out_20,t_22)∧Fr a 91 [(1,s2.v),(5,(.pointer (some ⟨b8,0,none⟩))),(7,(.pointer (some ⟨b9,0,none⟩))),(8,(.pointer (some ⟨b10,0,none⟩))),(12,s19.v),(53,s7.v),(54,(iV (goLen p_cells))),(55,(iV t_22))]∧St [] w0 w m [q21,[⟨b10,[(iV p_u.Level),s5.v,s6.v,(iV p_u.Sum)],29⟩],[⟨b9,[(iV p_t.Level),s3.v,s4.v,(iV p_t.Sum)],29⟩],[⟨b8,[s1.v],26⟩]]∧OwnL m 3 q21 s19 out_20) (fun (out_37 : (List Int)) e a w=>∃ (q38 : Piece),e = .exit 0∧Fr a 91 [(12,s19.v)]∧St [] w0 w m [q38]∧OwnL m 3 q38 s19 out_37) hl6 ⟨q19,_,_,rfl,hF.sub ⟨rfl,rfl,rfl,rfl,rfl,rfl,rfl,rfl,trivial⟩,hS,h19⟩ ?_ ?_
   ·clear hF hS
    rintro s a w st ⟨q21,out_20,t_22,rfl,hF,hS,h21⟩ hb6
    unfold impl_DeriveCells_l1 at hb6
    refine q_seq (q_region (q_x (v:=(.bool (decide (t_22 < (goLen p_cells))))) hF hS (ex_ibin rfl rfl rfl) rfl rfl fun a hF=>q_end (n_sq (q_seq ?_))))
    rcases bcase (decide (t_22 < (goLen p_cells))) with hc7 | hc7
    ·have hb6:=cond_f hc7 hb6
     refine q_cond_f hF rfl hc7 (q_exit (x_sq ?_))
     obtain rfl:=someI hb6
     exact ⟨nofun,.inl ⟨q21,rfl,hF.sub ⟨rfl,trivial⟩,hS.mask [true,false,false,false],h21⟩⟩
    ·have hb6:=cond_t hc7 hb6
     refine q_cond_t hF rfl hc7 (q_skipc (n_sq (q_seq (q_block (q_seq (q_region (q_x (v:=(iV t_22)) hF hS (ex_move rfl) rfl rfl fun a hF=>?_)))))))
     obtain ⟨e_23,he_23,hb6⟩:=bindS hb6
     obtain ⟨vs24,at24,d24⟩:=h7.at he_23 1 rfl
     obtain rfl : vs24 = [(iV e_23)]:=d24
     refine q_x (v:=(elP s7 (t_22.toNat * 1))) hF hS (ex_indexAddr Tryz.underlying24 sz3 rfl rfl (h7.idx he_23)) rfl rfl fun a hF=>q_x (v:=(iV e_23)) hF hS (ex_loadE1 0 Tryz.underlying3 rfl rfl ((at24).at) rfl rfl) rfl rfl fun a hF=>q_x (v:=(iV t_22)) hF hS (ex_assign rfl) rfl rfl fun a hF=>q_x (v:=(iV e_23)) hF hS (ex_assign rfl) rfl rfl fun a hF=>q_end (n_sq (q_seq (q_region (q_x (v:=(.agg #[s1.v])) hF hS (ex_loadA (vs:=[s1.v]) 3 0 Tryz.underlying26 rfl sz26 rfl rfl rfl rfl) rfl rfl fun a hF=>q_x (v:=s2.v) hF hS (ex_move rfl) rfl rfl fun a hF=>q_x (v:=(.agg #[(iV p_u.Level),s5.v,s6.v,(iV p_u.Sum)])) hF hS (ex_loadA (vs:=[(iV p_u.Level),s5.v,s6.v,(iV p_u.Sum)]) 1 0 Tryz.underlying29 rfl sz29 rfl rfl rfl rfl) rfl rfl fun a hF=>q_x (v:=(iV t_22)) hF hS (ex_move rfl) rfl rfl fun a hF=>?_))))
     obtain ⟨t_25,ht_25,hb6⟩:=bindS hb6
     refine q_call (vs:=[(.agg #[s1.v]),s2.v,(.agg #[(iV p_u.Level),s5.v,s6.v,(iV p_u.Sum)]),(iV t_22)]) hF hS Tryz.func29 (by kernel_rfl) rfl rfl rfl (c_impl_cellAt p_g p_s p_u t_22 t_25 ht_25 _ m hS.vis s1 h1 s2 h2 s5 h5 s6 h6) ?_
     rintro a w _ ⟨q27,s27,rfl,hR26,h27⟩ hF hS2
     have hS : St _ _ _ _ [q27,q21,[⟨b10,[(iV p_u.Level),s5.v,s6.v,(iV p_u.Sum)],29⟩],[⟨b9,[(iV p_t.Level),s3.v,s4.v,(iV p_t.Sum)],29⟩],[⟨b8,[s1.v],26⟩]]:=hS.joinF hR26
     refine q_x (v:=(.tuple #[(iV t_25.1),s27.v])) hF hS (ex_move rfl) rfl rfl fun a hF=>q_x (v:=(iV t_25.1)) hF hS (ex_extract rfl rfl) rfl rfl fun a hF=>q_x (v:=s27.v) hF hS (ex_extract rfl rfl) rfl rfl fun a hF=>q_x (v:=(iV t_25.1)) hF hS (ex_assign rfl) rfl rfl fun a hF=>q_x (v:=s27.v) hF hS (ex_assign rfl) rfl rfl fun a hF=>q_end (n_sq (q_seq (q_region (q_x (v:=(.agg #[s1.v])) hF hS (ex_loadA (vs:=[s1.v]) 4 0 Tryz.underlying26 rfl sz26 rfl rfl rfl rfl) rfl rfl fun a hF=>q_x (v:=s2.v) hF hS (ex_move rfl) rfl rfl fun a hF=>q_x (v:=(.agg #[(iV p_t.Level),s3.v,s4.v,(iV p_t.Sum)])) hF hS (ex_loadA (vs:=[(iV p_t.Level),s3.v,s4.v,(iV p_t.Sum)]) 3 0 Tryz.underlying29 rfl sz29 rfl rfl rfl rfl) rfl rfl fun a hF=>q_x (v:=(.agg #[(iV p_u.Level),s5.v,s6.v,(iV p_u.Sum)])) hF hS (ex_loadA (vs:=[(iV p_u.Level),s5.v,s6.v,(iV p_u.Sum)]) 2 0 Tryz.underlying29 rfl sz29 rfl rfl rfl rfl) rfl rfl fun a hF=>q_x (v:=(iV t_25.1)) hF hS (ex_move rfl) rfl rfl fun a hF=>q_x (v:=s27.v) hF hS (ex_move rfl) rfl rfl fun a hF=>?_))))
     obtain ⟨m29,hl29,hv29,hz29⟩:=hS.lend
     obtain ⟨t_28,ht_28,hb6⟩:=bindS hb6
     refine q_call (vs:=[(.agg #[s1.v]),s2.v,(.agg #[(iV p_t.Level),s3.v,s4.v,(iV p_t.Sum)]),(.agg #[(iV p_u.Level),s5.v,s6.v,(iV p_u.Sum)]),(iV t_25.1),s27.v]) hF hS Tryz.func30 (by kernel_rfl) rfl rfl rfl (c_impl_derived p_g p_s p_t p_u t_25.1 t_25.2 t_28 ht_28 _ m29 hv29 s1 (h1.mono hl29) s2 (h2.mono hl29) s3 (h3.mono hl29) s4 (h4.mono hl29) s5 (h5.mono hl29) s6 (h6.mono hl29) s27 (h27.froz hl29 (hz29 0 _ rfl))) ?_
     rintro a w _ rfl hF hS
     refine q_x (v:=(.tuple #[(iV t_28.1),(iV t_28.2)])) hF hS (ex_move rfl) rfl rfl fun a hF=>q_x (v:=(iV t_28.1)) hF hS (ex_extract rfl rfl) rfl rfl fun a hF=>q_x (v:=(iV t_28.2)) hF hS (ex_extract rfl rfl) rfl rfl fun a hF=>q_x (v:=(iV t_28.1)) hF hS (ex_assign rfl) rfl rfl fun a hF=>q_x (v:=(iV t_28.2)) hF hS (ex_assign rfl) rfl rfl fun a hF=>q_end (n_sq (q_seq (q_region (q_x (v:=(iV t_28.1)) hF hS (ex_move rfl) rfl rfl fun a hF=>q_x (v:=(.bool (decide (0 ≤ t_28.1)))) hF hS (ex_ibin rfl rfl rfl) rfl rfl fun a hF=>q_end (n_sq ?_)))))
     obtain ⟨out_35,hj8,hb6⟩:=bindS hb6
     refine q_join (fun a w=>∃ (q36 : Piece),Fr a 91 [(1,s2.v),(5,(.pointer (some ⟨b8,0,none⟩))),(7,(.pointer (some ⟨b9,0,none⟩))),(8,(.pointer (some ⟨b10,0,none⟩))),(12,s19.v),(53,s7.v),(54,(iV (goLen p_cells))),(55,(iV t_22))]∧St [] w0 w m [q36,[⟨b10,[(iV p_u.Level),s5.v,s6.v,(iV p_u.Sum)],29⟩],[⟨b9,[(iV p_t.Level),s3.v,s4.v,(iV p_t.Sum)],29⟩],[⟨b8,[s1.v],26⟩]]∧OwnL m 3 q36 s19 out_35) ?_ ?_
     ·rcases bcase (decide (0 ≤ t_28.1)) with hc9 | hc9
      ·have hj8:=cond_f hc9 hj8
       refine q_cond_f hF rfl hc9 (q_skipc (n_jn ?_))
       obtain rfl:=someI hj8
       exact ⟨q21,hF.sub ⟨rfl,rfl,rfl,rfl,rfl,rfl,rfl,rfl,trivial⟩,hS.mask [false,true,true,true,true],h21⟩
      ·have hj8:=cond_t hc9 hj8
       refine q_cond_t hF rfl hc9 (q_region (q_x (v:=s19.v) hF hS (ex_move rfl) rfl rfl fun a hF=>q_x (v:=(iV t_28.1)) hF hS (ex_move rfl) rfl rfl fun a hF=>?_))
       obtain ⟨e_30,he_30,hj8⟩:=bindS hj8
       obtain ⟨vs31,at31,d31⟩:=h21.at he_30 1 rfl
       obtain rfl : vs31 = [(iV e_30)]:=d31
       refine q_x (v:=(elP s19 (t_28.1.toNat * 1))) hF hS (ex_indexAddr Tryz.underlying24 sz3 rfl rfl (h21.idx he_30)) rfl rfl fun a hF=>q_x (v:=(iV e_30)) hF hS (ex_loadE1 0 Tryz.underlying3 rfl rfl (at31.at 1 rfl) rfl rfl) rfl rfl fun a hF=>q_x (v:=(iV e_23)) hF hS (ex_move rfl) rfl rfl fun a hF=>q_x (v:=(iV t_28.2)) hF hS (ex_move rfl) rfl rfl fun a hF=>q_x (v:=(iV (w64 (e_23 * t_28.2)))) hF hS (ex_ibin rfl rfl rfl) rfl rfl fun a hF=>q_x (v:=(iV (w64 (e_30 + (w64 (e_23 * t_28.2)))))) hF hS (ex_ibin rfl rfl rfl) rfl rfl fun a hF=>?_
       obtain ⟨e_32,he_32,hj8⟩:=bindS hj8
       obtain ⟨vs33,at33,d33⟩:=h21.at he_32 1 rfl
       obtain rfl : vs33 = [(iV e_32)]:=d33
       refine q_x (v:=(elP s19 (t_28.1.toNat * 1))) hF hS (ex_indexAddr Tryz.underlying24 sz3 rfl rfl (h21.idx he_32)) rfl rfl fun a hF=>?_
       have hS : St _ _ _ _ [q21,q27,[⟨b10,[(iV p_u.Level),s5.v,s6.v,(iV p_u.Sum)],29⟩],[⟨b9,[(iV p_t.Level),s3.v,s4.v,(iV p_t.Sum)],29⟩],[⟨b8,[s1.v],26⟩]]:=hS.sel [1,0,2,3,4] (by decide)
       refine q_do rfl fun _ hK=>wp_storeE (e':=(w64 (e_30 + (w64 (e_23 * t_28.2))))) (us:=[(iV (w64 (e_30 + (w64 (e_23 * t_28.2)))))]) (vs:=[(iV e_32)]) 0 hF hS h21 sz3 rfl rfl rfl rfl rfl rfl rfl he_32 at33 rfl rfl rfl fun w q34 hS h34=>hK _ _ (q_end (n_jn ?_))
       obtain rfl:=someI hj8
       exact ⟨q34,hF.sub ⟨rfl,rfl,rfl,rfl,rfl,rfl,rfl,rfl,trivial⟩,hS.mask [true,false,true,true,true],h34⟩
     ·rintro a w ⟨q36,hF,hS,h36⟩
      refine n_ib (n_sq ?_)
      refine q_region (q_x (v:=(iV (w64 (t_22 + 1)))) hF hS (ex_ibin rfl rfl rfl) rfl rfl fun a hF=>q_x (v:=(iV (w64 (t_22 + 1)))) hF hS (ex_move rfl) rfl rfl fun a hF=>q_end ?_)
      obtain rfl:=someI hb6
      exact ⟨rfl,q36,_,_,rfl,hF.sub ⟨rfl,rfl,rfl,rfl,rfl,rfl,rfl,rfl,trivial⟩,hS,h36⟩
   ·rintro e a w ⟨q38,rfl,hF,hS,h38⟩
    refine x_ib (n_sq ?_)
    refine q_seq (q_region (q_x (v:=s19.v) hF hS (ex_move rfl) rfl rfl fun a hF=>q_x (v:=s19.v) hF hS (ex_assign rfl) rfl rfl fun a hF=>q_x (v:=(.bool true)) hF hS (ex_assign rfl) rfl rfl fun a hF=>q_end (n_sq (q_ret ?_))))
    obtain rfl:=someI hr
    exact ret_of hF hS rfl (.tmp rfl (.tmp rfl .nil)) ⟨q38,s19,rfl,hS.sel [0] (by decide),h38⟩
  ·have hr:=cond_t hc5 hr
   refine q_cond_t hF rfl hc5 (q_seq (q_region (q_x (v:=nilS.v) hF hS (ex_assign rfl) rfl rfl fun a hF=>q_x (v:=(.bool false)) hF hS (ex_assign rfl) rfl rfl fun a hF=>q_end (n_sq (q_ret (r_sq ?_))))))
   obtain rfl:=someI hr
   exact ret_of hF hS rfl (.tmp rfl (.tmp rfl .nil)) ⟨[],nilS,rfl,hS.sel [3] (by decide),(OwnL.nil (α:=Int) m 3)⟩

theorem c_laws_sameInts (p_a : List Int) (p_b : List Int) (r : Bool) (hr : laws_sameInts p_a p_b = some r) (w0 : World) (m : Mem) (hv : Vis m w0) (s1 : Sl) (h1 : Rd m s1 p_a) (s2 : Sl) (h2 : Rd m s2 p_b) :
  Ret Tryz.prog 11 [s1.v,s2.v] w0 (fun v _=>v = (.bool r)):=by
 unfold laws_sameInts at hr
 refine ret_start Tryz.func11 rfl 26 rfl rfl m hv fun a hF hS=>q_seq (q_region (q_x (v:=(.bool false)) hF hS (ex_assign rfl) rfl rfl fun a hF=>q_end (n_sq (q_seq (q_seq (q_region (q_x (v:=s1.v) hF hS (ex_move rfl) rfl rfl fun a hF=>q_x (v:=(iV (goLen p_a))) hF hS (ex_len Tryz.underlying24 rfl h1.len) rfl rfl fun a hF=>q_x (v:=s2.v) hF hS (ex_move rfl) rfl rfl fun a hF=>q_x (v:=(iV (goLen p_b))) hF hS (ex_len Tryz.underlying24 rfl h2.len) rfl rfl fun a hF=>q_x (v:=(.bool ((goLen p_a) != (goLen p_b)))) hF hS (ex_ibin rfl rfl rfl) rfl rfl fun a hF=>q_end (n_sq ?_))))))))
 rcases bcase ((goLen p_a) != (goLen p_b)) with hc1 | hc1
 ·have hr:=cond_f hc1 hr
  refine q_cond_f hF rfl hc1 (q_skipc (n_sq (q_seq (q_seq (q_region (q_x (v:=s1.v) hF hS (ex_move rfl) rfl rfl fun a hF=>q_x (v:=(iV (goLen p_a))) hF hS (ex_len Tryz.underlying24 rfl h1.len) rfl rfl fun a hF=>q_x (v:=(iV 0)) hF hS (ex_move rfl) rfl rfl fun a hF=>q_end (n_sq (q_block ?_))))))))
  obtain ⟨o2,hl2,hr⟩:=bindS hr
  refine q_loop (fun (t_3 : Int) a w=>Fr a 26 [(0,s1.v),(1,s2.v),(12,(iV (goLen p_a))),(13,(iV t_3))]∧St [] w0 w m []) (fun (o : (Unit) ⊕ (Bool)) e a w=>o = .inl ()∧e = .exit 0∧Fr a 26 []∧St [] w0 w m []) hl2 ⟨hF.sub ⟨rfl,rfl,rfl,rfl,trivial⟩,hS⟩ ?_ ?_
  ·clear hF hS
   rintro t_3 a w st ⟨hF,hS⟩ hb2
   unfold laws_sameInts_l1 at hb2
   refine q_seq (q_region (q_x (v:=(.bool (decide (t_3 < (goLen p_a))))) hF hS (ex_ibin rfl rfl rfl) rfl rfl fun a hF=>q_end (n_sq (q_seq ?_))))
   rcases bcase (decide (t_3 < (goLen p_a))) with hc3 | hc3
   ·have hb2:=cond_f hc3 hb2
    refine q_cond_f hF rfl hc3 (q_exit (x_sq ?_))
    obtain rfl:=someI hb2
    exact ⟨nofun,.inl ⟨rfl,rfl,hF.sub trivial,hS⟩⟩
   ·have hb2:=cond_t hc3 hb2
    refine q_cond_t hF rfl hc3 (q_skipc (n_sq (q_seq (q_block (q_seq (q_region (q_x (v:=(iV t_3)) hF hS (ex_move rfl) rfl rfl fun a hF=>q_x (v:=(iV t_3)) hF hS (ex_assign rfl) rfl rfl fun a hF=>q_end (n_sq (q_seq (e_region ⟨[],[]⟩ mixed fun w' hw'=>?_))))))))))
    have hS:=hS.below hw'
    refine e_p (v:=s1.v) 0 hF rfl (ex_move rfl) rfl rfl (by kernel_rfl) (by kernel_rfl) (by kernel_rfl) fun a hF=>e_p (v:=(iV t_3)) 1 hF rfl (ex_move rfl) rfl rfl (by kernel_rfl) (by kernel_rfl) (by kernel_rfl) fun a hF=>?_
    obtain ⟨e_4,he_4,hb2⟩:=bindS hb2
    obtain ⟨vs5,at5,d5⟩:=h1.at he_4 1 rfl
    obtain rfl : vs5 = [(iV e_4)]:=d5
    refine e_p (v:=(elP s1 (t_3.toNat * 1))) 2 hF rfl (ex_indexAddr Tryz.underlying24 sz3 rfl rfl (h1.idx he_4)) rfl rfl (by kernel_rfl) (by kernel_rfl) (by kernel_rfl) fun a hF=>e_x (v:=(iV e_4)) 3 hF hS rfl (ex_loadE1 0 Tryz.underlying3 rfl rfl ((at5).at) rfl rfl) rfl rfl (by kernel_rfl) (by kernel_rfl) (by kernel_rfl) (by kernel_rfl) fun a hF=>e_p (v:=s2.v) 4 hF rfl (ex_move rfl) rfl rfl (by kernel_rfl) (by kernel_rfl) (by kernel_rfl) fun a hF=>e_p (v:=(iV t_3)) 5 hF rfl (ex_move rfl) rfl rfl (by kernel_rfl) (by kernel_rfl) (by kernel_rfl) fun a hF=>?_
    obtain ⟨e_6,he_6,hb2⟩:=bindS hb2
    obtain ⟨vs7,at7,d7⟩:=h2.at he_6 1 rfl
    obtain rfl : vs7 = [(iV e_6)]:=d7
    refine e_p (v:=(elP s2 (t_3.toNat * 1))) 6 hF rfl (ex_indexAddr Tryz.underlying24 sz3 rfl rfl (h2.idx he_6)) rfl rfl (by kernel_rfl) (by kernel_rfl) (by kernel_rfl) fun a hF=>e_x (v:=(iV e_6)) 7 hF hS rfl (ex_loadE1 0 Tryz.underlying3 rfl rfl ((at7).at) rfl rfl) rfl rfl (by kernel_rfl) (by kernel_rfl) (by kernel_rfl) (by kernel_rfl) fun a hF=>e_p (v:=(.bool (e_4 != e_6))) 8 hF rfl (ex_ibin rfl rfl rfl) rfl rfl (by kernel_rfl) (by kernel_rfl) (by kernel_rfl) fun a hF=>e_end (by kernel_rfl) (n_sq ?_) _
    rcases bcase (e_4 != e_6) with hc4 | hc4
    ·have hb2:=cond_f hc4 hb2
     refine q_cond_f hF rfl hc4 (q_skipc (n_ib (n_sq (q_region (q_x (v:=(iV (w64 (t_3 + 1)))) hF hS (ex_ibin rfl rfl rfl) rfl rfl fun a hF=>q_x (v:=(iV (w64 (t_3 + 1)))) hF hS (ex_move rfl) rfl rfl fun a hF=>q_end ?_)))))
     obtain rfl:=someI hb2
     exact ⟨rfl,hF.sub ⟨rfl,rfl,rfl,rfl,trivial⟩,hS⟩
    ·have hb2:=cond_t hc4 hb2
     refine q_cond_t hF rfl hc4 (q_seq (q_region (q_x (v:=(.bool false)) hF hS (ex_assign rfl) rfl rfl fun a hF=>q_end (n_sq (q_ret (r_ib (r_sq ?_)))))))
     obtain rfl:=someI hb2
     refine ⟨nofun,.inr fun ho=>?_⟩
     subst ho
     refine r_ib (r_sq ?_)
     obtain rfl:=someI hr
     exact ret_of hF hS rfl (.tmp rfl .nil) rfl
  ·rintro e a w ⟨rfl,rfl,hF,hS⟩
   refine x_ib (n_sq ?_)
   refine q_seq (q_region (q_x (v:=(.bool true)) hF hS (ex_assign rfl) rfl rfl fun a hF=>q_end (n_sq (q_ret ?_))))
   obtain rfl:=someI hr
   exact ret_of hF hS rfl (.tmp rfl .nil) rfl
 ·have hr:=cond_t hc1 hr
  refine q_cond_t hF rfl hc1 (q_seq (q_region (q_x (v:=(.bool false)) hF hS (ex_assign rfl) rfl rfl fun a hF=>q_end (n_sq (q_ret (r_sq ?_))))))
  obtain rfl:=someI hr
  exact ret_of hF hS rfl (.tmp rfl .nil) rfl

theorem c_impl_areValues (p_s : List impl_Variable) (p_values : List Int) (r : Bool) (hr : impl_areValues p_s p_values = some r) (w0 : World) (m : Mem) (hv : Vis m w0) (s1 : Sl) (h1 : Rd m s1 p_s) (s2 : Sl) (h2 : Rd m s2 p_values) :
  Ret Tryz.prog 106 [s1.v,s2.v] w0 (fun v _=>v = (.bool r)):=by
 unfold impl_areValues at hr
 refine ret_start Tryz.func106 rfl 31 rfl rfl m hv fun a hF hS=>q_seq (q_region (q_x (v:=(.bool false)) hF hS (ex_assign rfl) rfl rfl fun a hF=>q_end (n_sq (q_seq (q_seq (q_region (q_x (v:=s2.v) hF hS (ex_move rfl) rfl rfl fun a hF=>q_x (v:=(iV (goLen p_values))) hF hS (ex_len Tryz.underlying24 rfl h2.len) rfl rfl fun a hF=>q_x (v:=s1.v) hF hS (ex_move rfl) rfl rfl fun a hF=>q_x (v:=(iV (goLen p_s))) hF hS (ex_len Tryz.underlying27 rfl h1.len) rfl rfl fun a hF=>q_x (v:=(.bool ((goLen p_values) != (goLen p_s)))) hF hS (ex_ibin rfl rfl rfl) rfl rfl fun a hF=>q_end (n_sq ?_))))))))
 rcases bcase ((goLen p_values) != (goLen p_s)) with hc1 | hc1
 ·have hr:=cond_f hc1 hr
  refine q_cond_f hF rfl hc1 (q_skipc (n_sq (q_seq (q_seq (q_region (q_x (v:=s2.v) hF hS (ex_move rfl) rfl rfl fun a hF=>q_x (v:=(iV (goLen p_values))) hF hS (ex_len Tryz.underlying24 rfl h2.len) rfl rfl fun a hF=>q_x (v:=(iV 0)) hF hS (ex_move rfl) rfl rfl fun a hF=>q_end (n_sq (q_block ?_))))))))
  obtain ⟨o2,hl2,hr⟩:=bindS hr
  refine q_loop (fun (t_3 : Int) a w=>Fr a 31 [(0,s1.v),(12,s2.v),(13,(iV (goLen p_values))),(14,(iV t_3))]∧St [] w0 w m []) (fun (o : (Unit) ⊕ (Bool)) e a w=>o = .inl ()∧e = .exit 0∧Fr a 31 []∧St [] w0 w m []) hl2 ⟨hF.sub ⟨rfl,rfl,rfl,rfl,trivial⟩,hS⟩ ?_ ?_
  ·clear hF hS
   rintro t_3 a w st ⟨hF,hS⟩ hb2
   unfold impl_areValues_l1 at hb2
   refine q_seq (q_region (q_x (v:=(.bool (decide (t_3 < (goLen p_values))))) hF hS (ex_ibin rfl rfl rfl) rfl rfl fun a hF=>q_end (n_sq (q_seq ?_))))
   rcases bcase (decide (t_3 < (goLen p_values))) with hc3 | hc3
   ·have hb2:=cond_f hc3 hb2
    refine q_cond_f hF rfl hc3 (q_exit (x_sq ?_))
    obtain rfl:=someI hb2
    exact ⟨nofun,.inl ⟨rfl,rfl,hF.sub trivial,hS⟩⟩
   ·have hb2:=cond_t hc3 hb2
    refine q_cond_t hF rfl hc3 (q_skipc (n_sq (q_seq (q_block (q_seq (q_region (q_x (v:=(iV t_3)) hF hS (ex_move rfl) rfl rfl fun a hF=>?_)))))))
    obtain ⟨e_4,he_4,hb2⟩:=bindS hb2
    obtain ⟨vs5,at5,d5⟩:=h2.at he_4 1 rfl
    obtain rfl : vs5 = [(iV e_4)]:=d5
    refine q_x (v:=(elP s2 (t_3.toNat * 1))) hF hS (ex_indexAddr Tryz.underlying24 sz3 rfl rfl (h2.idx he_4)) rfl rfl fun a hF=>q_x (v:=(iV e_4)) hF hS (ex_loadE1 0 Tryz.underlying3 rfl rfl ((at5).at) rfl rfl) rfl rfl fun a hF=>q_x (v:=(iV t_3)) hF hS (ex_assign rfl) rfl rfl fun a hF=>q_x (v:=(iV e_4)) hF hS (ex_assign rfl) rfl rfl fun a hF=>q_end (n_sq (q_seq ?_))
    obtain ⟨t_8,hj4,hb2⟩:=bindS hb2
    refine q_join (fun a w=>Fr a 31 [(0,s1.v),(12,s2.v),(13,(iV (goLen p_values))),(14,(iV t_3)),(29,(.bool t_8))]∧St [] w0 w m []) ?_ ?_
    ·refine q_region (q_x (v:=(iV e_4)) hF hS (ex_move rfl) rfl rfl fun a hF=>q_x (v:=(.bool (decide (e_4 < 0)))) hF hS (ex_ibin rfl rfl rfl) rfl rfl fun a hF=>q_x (v:=(.bool (decide (e_4 < 0)))) hF hS (ex_move rfl) rfl rfl fun a hF=>?_)
     rcases bcase (decide (e_4 < 0)) with hc5 | hc5
     ·have hj4:=cond_f hc5 hj4
      refine q_xg (v:=(iV e_4)) hF hS (ex_move rfl) (wanted_t hF rfl rfl rfl hc5) rfl fun a hF=>q_xg (v:=s1.v) hF hS (ex_move rfl) (wanted_t hF rfl rfl rfl hc5) rfl fun a hF=>q_xg (v:=(iV t_3)) hF hS (ex_move rfl) (wanted_t hF rfl rfl rfl hc5) rfl fun a hF=>?_
      obtain ⟨e_6,he_6,hj4⟩:=bindS hj4
      obtain ⟨vs7,at7,d7⟩:=h1.at he_6 2 rfl
      obtain rfl : vs7 = [(strV e_6.Name),(iV e_6.Levels)]:=d7
      refine q_xg (v:=(elP s1 (t_3.toNat * 2))) hF hS (ex_indexAddr Tryz.underlying27 sz88 rfl rfl (h1.idx he_6)) (wanted_t hF rfl rfl rfl hc5) rfl fun a hF=>q_xg (v:=(elP s1 (t_3.toNat * 2 + 1))) hF hS (ex_fieldAddrE Tryz.underlying88 rfl sz3 rfl (h1.idx he_6) rfl) (wanted_t hF rfl rfl rfl hc5) rfl fun a hF=>q_xg (v:=(iV e_6.Levels)) hF hS (ex_loadE1 1 Tryz.underlying3 rfl rfl ((at7).at) rfl rfl) (wanted_t hF rfl rfl rfl hc5) rfl fun a hF=>q_xg (v:=(.bool (decide (e_6.Levels ≤ e_4)))) hF hS (ex_ibin rfl rfl rfl) (wanted_t hF rfl rfl rfl hc5) rfl fun a hF=>q_x (v:=(.bool (decide (e_6.Levels ≤ e_4)))) hF hS (ex_pick_f rfl rfl hc5) rfl rfl fun a hF=>q_end (n_jn ?_)
      obtain rfl:=someI hj4
      exact ⟨hF.sub ⟨rfl,rfl,rfl,rfl,rfl,trivial⟩,hS⟩
     ·have hj4:=cond_t hc5 hj4
      refine q_skip hF (wanted_f hF rfl rfl rfl hc5 rfl) rfl fun a hF=>q_skip hF (wanted_f hF rfl rfl rfl hc5 rfl) rfl fun a hF=>q_skip hF (wanted_f hF rfl rfl rfl hc5 rfl) rfl fun a hF=>q_skip hF (wanted_f hF rfl rfl rfl hc5 rfl) rfl fun a hF=>q_skip hF (wanted_f hF rfl rfl rfl hc5 rfl) rfl fun a hF=>q_skip hF (wanted_f hF rfl rfl rfl hc5 rfl) rfl fun a hF=>q_skip hF (wanted_f hF rfl rfl rfl hc5 rfl) rfl fun a hF=>q_x (v:=(.bool true)) hF hS (ex_pick_t rfl rfl hc5) rfl rfl fun a hF=>q_end (n_jn ?_)
      obtain rfl:=someI hj4
      exact ⟨hF.sub ⟨rfl,rfl,rfl,rfl,rfl,trivial⟩,hS⟩
    ·rintro a w ⟨hF,hS⟩
     refine n_sq ?_
     rcases bcase (t_8) with hc6 | hc6
     ·have hb2:=cond_f hc6 hb2
      refine q_cond_f hF rfl hc6 (q_skipc (n_ib (n_sq (q_region (q_x (v:=(iV (w64 (t_3 + 1)))) hF hS (ex_ibin rfl rfl rfl) rfl rfl fun a hF=>q_x (v:=(iV (w64 (t_3 + 1)))) hF hS (ex_move rfl) rfl rfl fun a hF=>q_end ?_)))))
      obtain rfl:=someI hb2
      exact ⟨rfl,hF.sub ⟨rfl,rfl,rfl,rfl,trivial⟩,hS⟩
     ·have hb2:=cond_t hc6 hb2
      refine q_cond_t hF rfl hc6 (q_seq (q_region (q_x (v:=(.bool false)) hF hS (ex_assign rfl) rfl rfl fun a hF=>q_end (n_sq (q_ret (r_ib (r_sq ?_)))))))
      obtain rfl:=someI hb2
      refine ⟨nofun,.inr fun ho=>?_⟩
      subst ho
      refine r_ib (r_sq ?_)
      obtain rfl:=someI hr
      exact ret_of hF hS rfl (.tmp rfl .nil) rfl
  ·rintro e a w ⟨rfl,rfl,hF,hS⟩
   refine x_ib (n_sq ?_)
   refine q_seq (q_region (q_x (v:=(.bool true)) hF hS (ex_assign rfl) rfl rfl fun a hF=>q_end (n_sq (q_ret ?_))))
   obtain rfl:=someI hr
   exact ret_of hF hS rfl (.tmp rfl .nil) rfl
 ·have hr:=cond_t hc1 hr
  refine q_cond_t hF rfl hc1 (q_seq (q_region (q_x (v:=(.bool false)) hF hS (ex_assign rfl) rfl rfl fun a hF=>q_end (n_sq (q_ret (r_sq ?_))))))
  obtain rfl:=someI hr
  exact ret_of hF hS rfl (.tmp rfl .nil) rfl

theorem c_impl_isRecord (p_s : List impl_Variable) (p_r : impl_Record) (r : Bool) (hr : impl_isRecord p_s p_r = some r) (w0 : World) (m : Mem) (hv : Vis m w0) (s1 : Sl) (h1 : Rd m s1 p_s) (s2 : Sl) (h2 : Rd m s2 p_r.Values) :
  Ret Tryz.prog 100 [s1.v,(.agg #[(iV p_r.Area),(iV p_r.House),s2.v])] w0 (fun v _=>v = (.bool r)):=by
 unfold impl_isRecord at hr
 refine ret_start Tryz.func100 rfl 29 rfl rfl m hv fun a hF hS=>q_seq (q_region (q_box (cs:=[(iV p_r.Area),(iV p_r.House),s2.v]) hF hS rfl rfl rfl fun a w b3 hF hS=>q_x (v:=(.bool false)) hF hS (ex_assign rfl) rfl rfl fun a hF=>q_end (n_sq (q_seq ?_))))
 obtain ⟨t_5,hj1,hr⟩:=bindS hr
 refine q_join (fun a w=>Fr a 29 [(4,(.bool t_5))]∧St [] w0 w m []) ?_ ?_
 ·refine q_region (q_x (v:=(.pointer (some ⟨b3,0,none⟩))) hF hS (ex_fieldAddr Tryz.underlying84 rfl sz3 rfl rfl) rfl rfl fun a hF=>q_x (v:=(iV p_r.Area)) hF hS (ex_load1 0 0 Tryz.underlying3 rfl rfl rfl rfl) rfl rfl fun a hF=>q_x (v:=(.bool (decide (0 ≤ p_r.Area)))) hF hS (ex_ibin rfl rfl rfl) rfl rfl fun a hF=>q_x (v:=(.bool (decide (0 ≤ p_r.Area)))) hF hS (ex_move rfl) rfl rfl fun a hF=>?_)
  rcases bcase (decide (0 ≤ p_r.Area)) with hc2 | hc2
  ·have hj1:=cond_f hc2 hj1
   refine q_skip hF (wanted_f hF rfl rfl rfl hc2 rfl) rfl fun a hF=>q_skip hF (wanted_f hF rfl rfl rfl hc2 rfl) rfl fun a hF=>q_skip hF (wanted_f hF rfl rfl rfl hc2 rfl) rfl fun a hF=>q_x (v:=(.bool false)) hF hS (ex_pick_f rfl rfl hc2) rfl rfl fun a hF=>q_x (v:=(.bool false)) hF hS (ex_move rfl) rfl rfl fun a hF=>q_skip hF (wanted_f hF rfl rfl rfl rfl rfl) rfl fun a hF=>q_skip hF (wanted_f hF rfl rfl rfl rfl rfl) rfl fun a hF=>q_skip hF (wanted_f hF rfl rfl rfl rfl rfl) rfl fun a hF=>q_x (v:=(.bool false)) hF hS (ex_pick_f rfl rfl rfl) rfl rfl fun a hF=>q_x (v:=(.bool false)) hF hS (ex_move rfl) rfl rfl fun a hF=>q_skip hF (wanted_f hF rfl rfl rfl rfl rfl) rfl fun a hF=>q_skip hF (wanted_f hF rfl rfl rfl rfl rfl) rfl fun a hF=>q_skip hF (wanted_f hF rfl rfl rfl rfl rfl) rfl fun a hF=>q_x (v:=(.bool false)) hF hS (ex_pick_f rfl rfl rfl) rfl rfl fun a hF=>q_x (v:=(.bool false)) hF hS (ex_move rfl) rfl rfl fun a hF=>q_skip hF (wanted_f hF rfl rfl rfl rfl rfl) rfl fun a hF=>q_skip hF (wanted_f hF rfl rfl rfl rfl rfl) rfl fun a hF=>q_skip hF (wanted_f hF rfl rfl rfl rfl rfl) rfl fun a hF=>q_skip hF (wanted_f hF rfl rfl rfl rfl rfl) rfl fun a hF=>q_x (v:=(.bool false)) hF hS (ex_pick_f rfl rfl rfl) rfl rfl fun a hF=>q_x (v:=(.bool false)) hF hS (ex_assign rfl) rfl rfl fun a hF=>q_end (n_jn ?_)
   obtain rfl:=someI hj1
   exact ⟨hF.sub ⟨rfl,trivial⟩,hS.mask [false]⟩
  ·have hj1:=cond_t hc2 hj1
   refine q_xg (v:=(.pointer (some ⟨b3,0,none⟩))) hF hS (ex_fieldAddr Tryz.underlying84 rfl sz3 rfl rfl) (wanted_t hF rfl rfl rfl hc2) rfl fun a hF=>q_xg (v:=(iV p_r.Area)) hF hS (ex_load1 0 0 Tryz.underlying3 rfl rfl rfl rfl) (wanted_t hF rfl rfl rfl hc2) rfl fun a hF=>q_xg (v:=(.bool (decide (p_r.Area ≤ 29)))) hF hS (ex_ibin rfl rfl rfl) (wanted_t hF rfl rfl rfl hc2) rfl fun a hF=>q_x (v:=(.bool (decide (p_r.Area ≤ 29)))) hF hS (ex_pick_t rfl rfl hc2) rfl rfl fun a hF=>q_x (v:=(.bool (decide (p_r.Area ≤ 29)))) hF hS (ex_move rfl) rfl rfl fun a hF=>?_
   rcases bcase (decide (p_r.Area ≤ 29)) with hc3 | hc3
   ·have hj1:=cond_f hc3 hj1
    refine q_skip hF (wanted_f hF rfl rfl rfl hc3 rfl) rfl fun a hF=>q_skip hF (wanted_f hF rfl rfl rfl hc3 rfl) rfl fun a hF=>q_skip hF (wanted_f hF rfl rfl rfl hc3 rfl) rfl fun a hF=>q_x (v:=(.bool false)) hF hS (ex_pick_f rfl rfl hc3) rfl rfl fun a hF=>q_x (v:=(.bool false)) hF hS (ex_move rfl) rfl rfl fun a hF=>q_skip hF (wanted_f hF rfl rfl rfl rfl rfl) rfl fun a hF=>q_skip hF (wanted_f hF rfl rfl rfl rfl rfl) rfl fun a hF=>q_skip hF (wanted_f hF rfl rfl rfl rfl rfl) rfl fun a hF=>q_x (v:=(.bool false)) hF hS (ex_pick_f rfl rfl rfl) rfl rfl fun a hF=>q_x (v:=(.bool false)) hF hS (ex_move rfl) rfl rfl fun a hF=>q_skip hF (wanted_f hF rfl rfl rfl rfl rfl) rfl fun a hF=>q_skip hF (wanted_f hF rfl rfl rfl rfl rfl) rfl fun a hF=>q_skip hF (wanted_f hF rfl rfl rfl rfl rfl) rfl fun a hF=>q_skip hF (wanted_f hF rfl rfl rfl rfl rfl) rfl fun a hF=>q_x (v:=(.bool false)) hF hS (ex_pick_f rfl rfl rfl) rfl rfl fun a hF=>q_x (v:=(.bool false)) hF hS (ex_assign rfl) rfl rfl fun a hF=>q_end (n_jn ?_)
    obtain rfl:=someI hj1
    exact ⟨hF.sub ⟨rfl,trivial⟩,hS.mask [false]⟩
   ·have hj1:=cond_t hc3 hj1
    refine q_xg (v:=(.pointer (some ⟨b3,1,none⟩))) hF hS (ex_fieldAddr Tryz.underlying84 rfl sz3 rfl rfl) (wanted_t hF rfl rfl rfl hc3) rfl fun a hF=>q_xg (v:=(iV p_r.House)) hF hS (ex_load1 0 0 Tryz.underlying3 rfl rfl rfl rfl) (wanted_t hF rfl rfl rfl hc3) rfl fun a hF=>q_xg (v:=(.bool (decide (0 ≤ p_r.House)))) hF hS (ex_ibin rfl rfl rfl) (wanted_t hF rfl rfl rfl hc3) rfl fun a hF=>q_x (v:=(.bool (decide (0 ≤ p_r.House)))) hF hS (ex_pick_t rfl rfl hc3) rfl rfl fun a hF=>q_x (v:=(.bool (decide (0 ≤ p_r.House)))) hF hS (ex_move rfl) rfl rfl fun a hF=>?_
    rcases bcase (decide (0 ≤ p_r.House)) with hc4 | hc4
    ·have hj1:=cond_f hc4 hj1
     refine q_skip hF (wanted_f hF rfl rfl rfl hc4 rfl) rfl fun a hF=>q_skip hF (wanted_f hF rfl rfl rfl hc4 rfl) rfl fun a hF=>q_skip hF (wanted_f hF rfl rfl rfl hc4 rfl) rfl fun a hF=>q_x (v:=(.bool false)) hF hS (ex_pick_f rfl rfl hc4) rfl rfl fun a hF=>q_x (v:=(.bool false)) hF hS (ex_move rfl) rfl rfl fun a hF=>q_skip hF (wanted_f hF rfl rfl rfl rfl rfl) rfl fun a hF=>q_skip hF (wanted_f hF rfl rfl rfl rfl rfl) rfl fun a hF=>q_skip hF (wanted_f hF rfl rfl rfl rfl rfl) rfl fun a hF=>q_skip hF (wanted_f hF rfl rfl rfl rfl rfl) rfl fun a hF=>q_x (v:=(.bool false)) hF hS (ex_pick_f rfl rfl rfl) rfl rfl fun a hF=>q_x (v:=(.bool false)) hF hS (ex_assign rfl) rfl rfl fun a hF=>q_end (n_jn ?_)
     obtain rfl:=someI hj1
     exact ⟨hF.sub ⟨rfl,trivial⟩,hS.mask [false]⟩
    ·have hj1:=cond_t hc4 hj1
     refine q_xg (v:=(.pointer (some ⟨b3,1,none⟩))) hF hS (ex_fieldAddr Tryz.underlying84 rfl sz3 rfl rfl) (wanted_t hF rfl rfl rfl hc4) rfl fun a hF=>q_xg (v:=(iV p_r.House)) hF hS (ex_load1 0 0 Tryz.underlying3 rfl rfl rfl rfl) (wanted_t hF rfl rfl rfl hc4) rfl fun a hF=>q_xg (v:=(.bool (decide (p_r.House ≤ 999)))) hF hS (ex_ibin rfl rfl rfl) (wanted_t hF rfl rfl rfl hc4) rfl fun a hF=>q_x (v:=(.bool (decide (p_r.House ≤ 999)))) hF hS (ex_pick_t rfl rfl hc4) rfl rfl fun a hF=>q_x (v:=(.bool (decide (p_r.House ≤ 999)))) hF hS (ex_move rfl) rfl rfl fun a hF=>?_
     rcases bcase (decide (p_r.House ≤ 999)) with hc5 | hc5
     ·have hj1:=cond_f hc5 hj1
      refine q_skip hF (wanted_f hF rfl rfl rfl hc5 rfl) rfl fun a hF=>q_skip hF (wanted_f hF rfl rfl rfl hc5 rfl) rfl fun a hF=>q_skip hF (wanted_f hF rfl rfl rfl hc5 rfl) rfl fun a hF=>q_skip hF (wanted_f hF rfl rfl rfl hc5 rfl) rfl fun a hF=>q_x (v:=(.bool false)) hF hS (ex_pick_f rfl rfl hc5) rfl rfl fun a hF=>q_x (v:=(.bool false)) hF hS (ex_assign rfl) rfl rfl fun a hF=>q_end (n_jn ?_)
      obtain rfl:=someI hj1
      exact ⟨hF.sub ⟨rfl,trivial⟩,hS.mask [false]⟩
     ·have hj1:=cond_t hc5 hj1
      refine q_xg (v:=s1.v) hF hS (ex_move rfl) (wanted_t hF rfl rfl rfl hc5) rfl fun a hF=>q_xg (v:=(.pointer (some ⟨b3,2,none⟩))) hF hS (ex_fieldAddr Tryz.underlying84 rfl sz24 rfl rfl) (wanted_t hF rfl rfl rfl hc5) rfl fun a hF=>q_xg (v:=s2.v) hF hS (ex_load1 0 0 Tryz.underlying24 rfl rfl rfl rfl) (wanted_t hF rfl rfl rfl hc5) rfl fun a hF=>?_
      obtain ⟨t_4,ht_4,hj1⟩:=bindS hj1
      refine q_callg (vs:=[s1.v,s2.v]) hF hS (wanted_t hF rfl rfl rfl hc5) Tryz.func106 (by kernel_rfl) rfl rfl rfl (c_impl_areValues p_s p_r.Values t_4 ht_4 _ m hS.vis s1 h1 s2 h2) ?_
      rintro a w _ rfl hF hS
      refine q_x (v:=(.bool t_4)) hF hS (ex_pick_t rfl rfl hc5) rfl rfl fun a hF=>q_x (v:=(.bool t_4)) hF hS (ex_assign rfl) rfl rfl fun a hF=>q_end (n_jn ?_)
      obtain rfl:=someI hj1
      exact ⟨hF.sub ⟨rfl,trivial⟩,hS.mask [false]⟩
 ·rintro a w ⟨hF,hS⟩
  refine n_sq (q_ret ?_)
  obtain rfl:=someI hr
  exact ret_of hF hS rfl (.tmp rfl .nil) rfl

theorem c_impl_isData (p_s : List impl_Variable) (p_l : List impl_Record) (r : Bool) (hr : impl_isData p_s p_l = some r) (w0 : World) (m : Mem) (hv : Vis m w0) (s1 : Sl) (h1 : Rd m s1 p_s) (s2 : Sl) (h2 : Rd m s2 p_l) :
  Ret Tryz.prog 78 [s1.v,s2.v] w0 (fun v _=>v = (.bool r)):=by
 unfold impl_isData at hr
 refine ret_start Tryz.func78 rfl 21 rfl rfl m hv fun a hF hS=>q_seq (q_region (q_x (v:=(.bool false)) hF hS (ex_assign rfl) rfl rfl fun a hF=>q_end (n_sq (q_seq (q_seq (q_region (q_x (v:=s2.v) hF hS (ex_move rfl) rfl rfl fun a hF=>q_x (v:=(iV (goLen p_l))) hF hS (ex_len Tryz.underlying34 rfl h2.len) rfl rfl fun a hF=>q_x (v:=(.bool (decide (40 < (goLen p_l))))) hF hS (ex_ibin rfl rfl rfl) rfl rfl fun a hF=>q_end (n_sq ?_))))))))
 rcases bcase (decide (40 < (goLen p_l))) with hc1 | hc1
 ·have hr:=cond_f hc1 hr
  refine q_cond_f hF rfl hc1 (q_skipc (n_sq (q_seq (q_seq (q_region (q_x (v:=s2.v) hF hS (ex_move rfl) rfl rfl fun a hF=>q_x (v:=(iV (goLen p_l))) hF hS (ex_len Tryz.underlying34 rfl h2.len) rfl rfl fun a hF=>q_x (v:=(iV 0)) hF hS (ex_move rfl) rfl rfl fun a hF=>q_end (n_sq (q_block ?_))))))))
  obtain ⟨o2,hl2,hr⟩:=bindS hr
  refine q_loop (fun (t_3 : Int) a w=>Fr a 21 [(0,s1.v),(10,s2.v),(11,(iV (goLen p_l))),(12,(iV t_3))]∧St [] w0 w m []) (fun (o : (Unit) ⊕ (Bool)) e a w=>o = .inl ()∧e = .exit 0∧Fr a 21 []∧St [] w0 w m []) hl2 ⟨hF.sub ⟨rfl,rfl,rfl,rfl,trivial⟩,hS⟩ ?_ ?_
  ·clear hF hS
   rintro t_3 a w st ⟨hF,hS⟩ hb2
   unfold impl_isData_l1 at hb2
   refine q_seq (q_region (q_x (v:=(.bool (decide (t_3 < (goLen p_l))))) hF hS (ex_ibin rfl rfl rfl) rfl rfl fun a hF=>q_end (n_sq (q_seq ?_))))
   rcases bcase (decide (t_3 < (goLen p_l))) with hc3 | hc3
   ·have hb2:=cond_f hc3 hb2
    refine q_cond_f hF rfl hc3 (q_exit (x_sq ?_))
    obtain rfl:=someI hb2
    exact ⟨nofun,.inl ⟨rfl,rfl,hF.sub trivial,hS⟩⟩
   ·have hb2:=cond_t hc3 hb2
    refine q_cond_t hF rfl hc3 (q_skipc (n_sq (q_seq (q_block (q_seq (q_region ?_))))))
    obtain ⟨e_4,he_4,hb2⟩:=bindS hb2
    obtain ⟨vs5,at5,d5⟩:=h2.at he_4 3 rfl
    obtain ⟨s6,rfl,h6⟩ : ∃ s6 : Sl,vs5 = [(iV e_4.Area),(iV e_4.House),s6.v]∧Rd m s6 e_4.Values:=d5
    refine q_x (v:=(elP s2 (t_3.toNat * 3))) hF hS (ex_indexAddr Tryz.underlying34 sz84 rfl rfl (h2.idx he_4)) rfl rfl fun a hF=>q_x (v:=(.agg #[(iV e_4.Area),(iV e_4.House),s6.v])) hF hS (ex_loadEA (us:=[(iV e_4.Area),(iV e_4.House),s6.v]) 0 Tryz.underlying84 rfl sz84 rfl ((at5).at) rfl rfl rfl) rfl rfl fun a hF=>q_alloc (cs:=[(iV 0),(iV 0),nilS.v]) hF hS rfl rfl rfl fun a w b7 hF hS=>q_store (vs:=[(iV e_4.Area),(iV e_4.House),s6.v]) (cs':=[(iV e_4.Area),(iV e_4.House),s6.v]) 0 0 hF hS sz84 rfl rfl rfl rfl rfl rfl rfl rfl fun a w hF hS=>q_end (n_sq (q_seq (q_region (q_x (v:=s1.v) hF hS (ex_move rfl) rfl rfl fun a hF=>q_x (v:=(.agg #[(iV e_4.Area),(iV e_4.House),s6.v])) hF hS (ex_loadA (vs:=[(iV e_4.Area),(iV e_4.House),s6.v]) 0 0 Tryz.underlying84 rfl sz84 rfl rfl rfl rfl) rfl rfl fun a hF=>?_))))
    obtain ⟨t_8,ht_8,hb2⟩:=bindS hb2
    refine q_call (vs:=[s1.v,(.agg #[(iV e_4.Area),(iV e_4.House),s6.v])]) hF hS Tryz.func100 (by kernel_rfl) rfl rfl rfl (c_impl_isRecord p_s e_4 t_8 ht_8 _ m hS.vis s1 h1 s6 h6) ?_
    rintro a w _ rfl hF hS
    refine q_x (v:=(.bool (!t_8))) hF hS (ex_not rfl) rfl rfl fun a hF=>q_end (n_sq ?_)
    rcases bcase (!t_8) with hc4 | hc4
    ·have hb2:=cond_f hc4 hb2
     refine q_cond_f hF rfl hc4 (q_skipc (n_ib (n_sq (q_region (q_x (v:=(iV (w64 (t_3 + 1)))) hF hS (ex_ibin rfl rfl rfl) rfl rfl fun a hF=>q_x (v:=(iV (w64 (t_3 + 1)))) hF hS (ex_move rfl) rfl rfl fun a hF=>q_end ?_)))))
     obtain rfl:=someI hb2
     exact ⟨rfl,hF.sub ⟨rfl,rfl,rfl,rfl,trivial⟩,hS.mask [false]⟩
    ·have hb2:=cond_t hc4 hb2
     refine q_cond_t hF rfl hc4 (q_seq (q_region (q_x (v:=(.bool false)) hF hS (ex_assign rfl) rfl rfl fun a hF=>q_end (n_sq (q_ret (r_ib (r_sq ?_)))))))
     obtain rfl:=someI hb2
     refine ⟨nofun,.inr fun ho=>?_⟩
     subst ho
     refine r_ib (r_sq ?_)
     obtain rfl:=someI hr
     exact ret_of hF hS rfl (.tmp rfl .nil) rfl
  ·rintro e a w ⟨rfl,rfl,hF,hS⟩
   refine x_ib (n_sq ?_)
   refine q_seq (q_region (q_x (v:=(.bool true)) hF hS (ex_assign rfl) rfl rfl fun a hF=>q_end (n_sq (q_ret ?_))))
   obtain rfl:=someI hr
   exact ret_of hF hS rfl (.tmp rfl .nil) rfl
 ·have hr:=cond_t hc1 hr
  refine q_cond_t hF rfl hc1 (q_seq (q_region (q_x (v:=(.bool false)) hF hS (ex_assign rfl) rfl rfl fun a hF=>q_end (n_sq (q_ret (r_sq ?_))))))
  obtain rfl:=someI hr
  exact ret_of hF hS rfl (.tmp rfl .nil) rfl

theorem c_impl_isArea (p_g : impl_Geo) (p_i : Int) (r : Bool) (hr : impl_isArea p_g p_i = some r) (w0 : World) (m : Mem) (hv : Vis m w0) (s1 : Sl) (h1 : Rd m s1 p_g.Parents) :
  Ret Tryz.prog 79 [(.agg #[s1.v]),(iV p_i)] w0 (fun v _=>v = (.bool r)):=by
 unfold impl_isArea at hr
 refine ret_start Tryz.func79 rfl 14 rfl rfl m hv fun a hF hS=>q_seq (q_region (q_box (cs:=[s1.v]) hF hS rfl rfl rfl fun a w b2 hF hS=>q_x (v:=(.bool false)) hF hS (ex_assign rfl) rfl rfl fun a hF=>q_end (n_sq (q_seq ?_))))
 obtain ⟨t_3,hj1,hr⟩:=bindS hr
 refine q_join (fun a w=>Fr a 14 [(4,(.bool t_3))]∧St [] w0 w m []) ?_ ?_
 ·refine q_region (q_x (v:=(iV p_i)) hF hS (ex_move rfl) rfl rfl fun a hF=>q_x (v:=(.bool (decide (0 ≤ p_i)))) hF hS (ex_ibin rfl rfl rfl) rfl rfl fun a hF=>q_x (v:=(.bool (decide (0 ≤ p_i)))) hF hS (ex_move rfl) rfl rfl fun a hF=>?_)
  rcases bcase (decide (0 ≤ p_i)) with hc2 | hc2
  ·have hj1:=cond_f hc2 hj1
   refine q_skip hF (wanted_f hF rfl rfl rfl hc2 rfl) rfl fun a hF=>q_skip hF (wanted_f hF rfl rfl rfl hc2 rfl) rfl fun a hF=>q_skip hF (wanted_f hF rfl rfl rfl hc2 rfl) rfl fun a hF=>q_skip hF (wanted_f hF rfl rfl rfl hc2 rfl) rfl fun a hF=>q_skip hF (wanted_f hF rfl rfl rfl hc2 rfl) rfl fun a hF=>q_x (v:=(.bool false)) hF hS (ex_pick_f rfl rfl hc2) rfl rfl fun a hF=>q_x (v:=(.bool false)) hF hS (ex_assign rfl) rfl rfl fun a hF=>q_end (n_jn ?_)
   obtain rfl:=someI hj1
   exact ⟨hF.sub ⟨rfl,trivial⟩,hS.mask [false]⟩
  ·have hj1:=cond_t hc2 hj1
   refine q_xg (v:=(iV p_i)) hF hS (ex_move rfl) (wanted_t hF rfl rfl rfl hc2) rfl fun a hF=>q_xg (v:=(.pointer (some ⟨b2,0,none⟩))) hF hS (ex_fieldAddr Tryz.underlying26 rfl sz24 rfl rfl) (wanted_t hF rfl rfl rfl hc2) rfl fun a hF=>q_xg (v:=s1.v) hF hS (ex_load1 0 0 Tryz.underlying24 rfl rfl rfl rfl) (wanted_t hF rfl rfl rfl hc2) rfl fun a hF=>q_xg (v:=(iV (goLen p_g.Parents))) hF hS (ex_len Tryz.underlying24 rfl h1.len) (wanted_t hF rfl rfl rfl hc2) rfl fun a hF=>q_xg (v:=(.bool (decide (p_i < (goLen p_g.Parents))))) hF hS (ex_ibin rfl rfl rfl) (wanted_t hF rfl rfl rfl hc2) rfl fun a hF=>q_x (v:=(.bool (decide (p_i < (goLen p_g.Parents))))) hF hS (ex_pick_t rfl rfl hc2) rfl rfl fun a hF=>q_x (v:=(.bool (decide (p_i < (goLen p_g.Parents))))) hF hS (ex_assign rfl) rfl rfl fun a hF=>q_end (n_jn ?_)
   obtain rfl:=someI hj1
   exact ⟨hF.sub ⟨rfl,trivial⟩,hS.mask [false]⟩
 ·rintro a w ⟨hF,hS⟩
  refine n_sq (q_ret ?_)
  obtain rfl:=someI hr
  exact ret_of hF hS rfl (.tmp rfl .nil) rfl

theorem c_impl_isSurvey (p_g : impl_Geo) (p_s : List impl_Variable) (p_l : List impl_Record) (r : Bool) (hr : impl_isSurvey p_g p_s p_l = some r) (w0 : World) (m : Mem) (hv : Vis m w0) (s1 : Sl) (h1 : Rd m s1 p_g.Parents) (s2 : Sl) (h2 : Rd m s2 p_s) (s3 : Sl) (h3 : Rd m s3 p_l) :
  Ret Tryz.prog 33 [(.agg #[s1.v]),s2.v,s3.v] w0 (fun v _=>v = (.bool r)):=by
 unfold impl_isSurvey at hr
 refine ret_start Tryz.func33 rfl 32 rfl rfl m hv fun a hF hS=>q_seq (q_region (q_box (cs:=[s1.v]) hF hS rfl rfl rfl fun a w b4 hF hS=>q_x (v:=(.bool false)) hF hS (ex_assign rfl) rfl rfl fun a hF=>q_end (n_sq (q_seq (q_seq (q_region (q_x (v:=s2.v) hF hS (ex_move rfl) rfl rfl fun a hF=>q_x (v:=s3.v) hF hS (ex_move rfl) rfl rfl fun a hF=>?_)))))))
 obtain ⟨t_5,ht_5,hr⟩:=bindS hr
 refine q_call (vs:=[s2.v,s3.v]) hF hS Tryz.func78 (by kernel_rfl) rfl rfl rfl (c_impl_isData p_s p_l t_5 ht_5 _ m hS.vis s2 h2 s3 h3) ?_
 rintro a w _ rfl hF hS
 refine q_x (v:=(.bool (!t_5))) hF hS (ex_not rfl) rfl rfl fun a hF=>q_end (n_sq ?_)
 rcases bcase (!t_5) with hc1 | hc1
 ·have hr:=cond_f hc1 hr
  refine q_cond_f hF rfl hc1 (q_skipc (n_sq (q_seq (q_seq (q_region (q_x (v:=s3.v) hF hS (ex_move rfl) rfl rfl fun a hF=>q_x (v:=(iV (goLen p_l))) hF hS (ex_len Tryz.underlying34 rfl h3.len) rfl rfl fun a hF=>q_x (v:=(iV 0)) hF hS (ex_move rfl) rfl rfl fun a hF=>q_end (n_sq (q_block ?_))))))))
  obtain ⟨o2,hl2,hr⟩:=bindS hr
  refine q_loop (fun (t_6 : Int) a w=>Fr a 32 [(3,(.pointer (some ⟨b4,0,none⟩))),(13,s3.v),(14,(iV (goLen p_l))),(15,(iV t_6))]∧St [] w0 w m [[⟨b4,[s1.v],26⟩]]) (fun (o : (Unit) ⊕ (Bool)) e a w=>o = .inl ()∧e = .exit 0∧Fr a 32 []∧St [] w0 w m []) hl2 ⟨hF.sub ⟨rfl,rfl,rfl,rfl,trivial⟩,hS⟩ ?_ ?_
  ·clear hF hS
   rintro t_6 a w st ⟨hF,hS⟩ hb2
   unfold impl_isSurvey_l1 at hb2
   refine q_seq (q_region (q_x (v:=(.bool (decide (t_6 < (goLen p_l))))) hF hS (ex_ibin rfl rfl rfl) rfl rfl fun a hF=>q_end (n_sq (q_seq ?_))))
   rcases bcase (decide (t_6 < (goLen p_l))) with hc3 | hc3
   ·have hb2:=cond_f hc3 hb2
    refine q_cond_f hF rfl hc3 (q_exit (x_sq ?_))
    obtain rfl:=someI hb2
    exact ⟨nofun,.inl ⟨rfl,rfl,hF.sub trivial,hS.mask [false]⟩⟩
   ·have hb2:=cond_t hc3 hb2
    refine q_cond_t hF rfl hc3 (q_skipc (n_sq (q_seq (q_block (q_seq (q_region ?_))))))
    obtain ⟨e_7,he_7,hb2⟩:=bindS hb2
    obtain ⟨vs8,at8,d8⟩:=h3.at he_7 3 rfl
    obtain ⟨s9,rfl,h9⟩ : ∃ s9 : Sl,vs8 = [(iV e_7.Area),(iV e_7.House),s9.v]∧Rd m s9 e_7.Values:=d8
    refine q_x (v:=(elP s3 (t_6.toNat * 3))) hF hS (ex_indexAddr Tryz.underlying34 sz84 rfl rfl (h3.idx he_7)) rfl rfl fun a hF=>q_x (v:=(.agg #[(iV e_7.Area),(iV e_7.House),s9.v])) hF hS (ex_loadEA (us:=[(iV e_7.Area),(iV e_7.House),s9.v]) 0 Tryz.underlying84 rfl sz84 rfl ((at8).at) rfl rfl rfl) rfl rfl fun a hF=>q_alloc (cs:=[(iV 0),(iV 0),nilS.v]) hF hS rfl rfl rfl fun a w b10 hF hS=>q_store (vs:=[(iV e_7.Area),(iV e_7.House),s9.v]) (cs':=[(iV e_7.Area),(iV e_7.House),s9.v]) 0 0 hF hS sz84 rfl rfl rfl rfl rfl rfl rfl rfl fun a w hF hS=>q_end (n_sq (q_seq ?_))
    obtain ⟨t_13,hj4,hb2⟩:=bindS hb2
    refine q_join (fun a w=>Fr a 32 [(3,(.pointer (some ⟨b4,0,none⟩))),(13,s3.v),(14,(iV (goLen p_l))),(15,(iV t_6)),(30,(.bool t_13))]∧St [] w0 w m [[⟨b4,[s1.v],26⟩]]) ?_ ?_
    ·refine q_region (q_x (v:=(.agg #[s1.v])) hF hS (ex_loadA (vs:=[s1.v]) 1 0 Tryz.underlying26 rfl sz26 rfl rfl rfl rfl) rfl rfl fun a hF=>q_x (v:=(.pointer (some ⟨b10,0,none⟩))) hF hS (ex_fieldAddr Tryz.underlying84 rfl sz3 rfl rfl) rfl rfl fun a hF=>q_x (v:=(iV e_7.Area)) hF hS (ex_load1 0 0 Tryz.underlying3 rfl rfl rfl rfl) rfl rfl fun a hF=>?_)
     obtain ⟨t_11,ht_11,hj4⟩:=bindS hj4
     refine q_call (vs:=[(.agg #[s1.v]),(iV e_7.Area)]) hF hS Tryz.func79 (by kernel_rfl) rfl rfl rfl (c_impl_isArea p_g e_7.Area t_11 ht_11 _ m hS.vis s1 h1) ?_
     rintro a w _ rfl hF hS
     refine q_x (v:=(.bool (!t_11))) hF hS (ex_not rfl) rfl rfl fun a hF=>q_x (v:=(.bool (!t_11))) hF hS (ex_move rfl) rfl rfl fun a hF=>?_
     rcases bcase (!t_11) with hc5 | hc5
     ·have hj4:=cond_f hc5 hj4
      refine q_xg (v:=(.agg #[s1.v])) hF hS (ex_loadA (vs:=[s1.v]) 1 0 Tryz.underlying26 rfl sz26 rfl rfl rfl rfl) (wanted_t hF rfl rfl rfl hc5) rfl fun a hF=>q_xg (v:=(.pointer (some ⟨b10,0,none⟩))) hF hS (ex_fieldAddr Tryz.underlying84 rfl sz3 rfl rfl) (wanted_t hF rfl rfl rfl hc5) rfl fun a hF=>q_xg (v:=(iV e_7.Area)) hF hS (ex_load1 0 0 Tryz.underlying3 rfl rfl rfl rfl) (wanted_t hF rfl rfl rfl hc5) rfl fun a hF=>?_
      obtain ⟨t_12,ht_12,hj4⟩:=bindS hj4
      refine q_callg (vs:=[(.agg #[s1.v]),(iV e_7.Area)]) hF hS (wanted_t hF rfl rfl rfl hc5) Tryz.func80 (by kernel_rfl) rfl rfl rfl (c_impl_isLeaf p_g e_7.Area t_12 ht_12 _ m hS.vis s1 h1) ?_
      rintro a w _ rfl hF hS
      refine q_xg (v:=(.bool (!t_12))) hF hS (ex_not rfl) (wanted_t hF rfl rfl rfl hc5) rfl fun a hF=>q_x (v:=(.bool (!t_12))) hF hS (ex_pick_f rfl rfl hc5) rfl rfl fun a hF=>q_end (n_jn ?_)
      obtain rfl:=someI hj4
      exact ⟨hF.sub ⟨rfl,rfl,rfl,rfl,rfl,trivial⟩,hS.mask [false,true]⟩
     ·have hj4:=cond_t hc5 hj4
      refine q_skip hF (wanted_f hF rfl rfl rfl hc5 rfl) rfl fun a hF=>q_skip hF (wanted_f hF rfl rfl rfl hc5 rfl) rfl fun a hF=>q_skip hF (wanted_f hF rfl rfl rfl hc5 rfl) rfl fun a hF=>q_skip hF (wanted_f hF rfl rfl rfl hc5 rfl) rfl fun a hF=>q_skip hF (wanted_f hF rfl rfl rfl hc5 rfl) rfl fun a hF=>q_x (v:=(.bool true)) hF hS (ex_pick_t rfl rfl hc5) rfl rfl fun a hF=>q_end (n_jn ?_)
      obtain rfl:=someI hj4
      exact ⟨hF.sub ⟨rfl,rfl,rfl,rfl,rfl,trivial⟩,hS.mask [false,true]⟩
    ·rintro a w ⟨hF,hS⟩
     refine n_sq ?_
     rcases bcase (t_13) with hc6 | hc6
     ·have hb2:=cond_f hc6 hb2
      refine q_cond_f hF rfl hc6 (q_skipc (n_ib (n_sq (q_region (q_x (v:=(iV (w64 (t_6 + 1)))) hF hS (ex_ibin rfl rfl rfl) rfl rfl fun a hF=>q_x (v:=(iV (w64 (t_6 + 1)))) hF hS (ex_move rfl) rfl rfl fun a hF=>q_end ?_)))))
      obtain rfl:=someI hb2
      exact ⟨rfl,hF.sub ⟨rfl,rfl,rfl,rfl,trivial⟩,hS⟩
     ·have hb2:=cond_t hc6 hb2
      refine q_cond_t hF rfl hc6 (q_seq (q_region (q_x (v:=(.bool false)) hF hS (ex_assign rfl) rfl rfl fun a hF=>q_end (n_sq (q_ret (r_ib (r_sq ?_)))))))
      obtain rfl:=someI hb2
      refine ⟨nofun,.inr fun ho=>?_⟩
      subst ho
      refine r_ib (r_sq ?_)
      obtain rfl:=someI hr
      exact ret_of hF hS rfl (.tmp rfl .nil) rfl
  ·rintro e a w ⟨rfl,rfl,hF,hS⟩
   refine x_ib (n_sq ?_)
   refine q_seq (q_region (q_x (v:=(.bool true)) hF hS (ex_assign rfl) rfl rfl fun a hF=>q_end (n_sq (q_ret ?_))))
   obtain rfl:=someI hr
   exact ret_of hF hS rfl (.tmp rfl .nil) rfl
 ·have hr:=cond_t hc1 hr
  refine q_cond_t hF rfl hc1 (q_seq (q_region (q_x (v:=(.bool false)) hF hS (ex_assign rfl) rfl rfl fun a hF=>q_end (n_sq (q_ret (r_sq ?_))))))
  obtain rfl:=someI hr
  exact ret_of hF hS rfl (.tmp rfl .nil) rfl

theorem c_impl_IsSurvey (p_g : impl_Geo) (p_s : List impl_Variable) (p_l : List impl_Record) (r : Bool × Bool) (hr : impl_IsSurvey p_g p_s p_l = some r) (w0 : World) (m : Mem) (hv : Vis m w0) (s1 : Sl) (h1 : Rd m s1 p_g.Parents) (s2 : Sl) (h2 : Rd m s2 p_s) (s3 : Sl) (h3 : Rd m s3 p_l) :
  Ret Tryz.prog 12 [(.agg #[s1.v]),s2.v,s3.v] w0 (fun v _=>v = (.tuple #[(.bool r.1),(.bool r.2)])):=by
 unfold impl_IsSurvey at hr
 refine ret_start Tryz.func12 rfl 20 rfl rfl m hv fun a hF hS=>q_seq (q_region (q_box (cs:=[s1.v]) hF hS rfl rfl rfl fun a w b4 hF hS=>q_x (v:=(.bool false)) hF hS (ex_assign rfl) rfl rfl fun a hF=>q_x (v:=(.bool false)) hF hS (ex_assign rfl) rfl rfl fun a hF=>q_end (n_sq (q_seq (q_seq ?_)))))
 obtain ⟨t_7,hj1,hr⟩:=bindS hr
 refine q_join (fun a w=>Fr a 20 [(1,s2.v),(2,s3.v),(3,(.pointer (some ⟨b4,0,none⟩))),(15,(.bool t_7))]∧St [] w0 w m [[⟨b4,[s1.v],26⟩]]) ?_ ?_
 ·refine q_region (q_x (v:=(.agg #[s1.v])) hF hS (ex_loadA (vs:=[s1.v]) 0 0 Tryz.underlying26 rfl sz26 rfl rfl rfl rfl) rfl rfl fun a hF=>?_)
  obtain ⟨t_5,ht_5,hj1⟩:=bindS hj1
  refine q_call (vs:=[(.agg #[s1.v])]) hF hS Tryz.func31 (by kernel_rfl) rfl rfl rfl (c_impl_IsGeo p_g t_5 ht_5 _ m hS.vis s1 h1) ?_
  rintro a w _ rfl hF hS
  refine q_x (v:=(.bool (!t_5))) hF hS (ex_not rfl) rfl rfl fun a hF=>q_x (v:=(.bool (!t_5))) hF hS (ex_move rfl) rfl rfl fun a hF=>?_
  rcases bcase (!t_5) with hc2 | hc2
  ·have hj1:=cond_f hc2 hj1
   refine q_xg (v:=s2.v) hF hS (ex_move rfl) (wanted_t hF rfl rfl rfl hc2) rfl fun a hF=>?_
   obtain ⟨t_6,ht_6,hj1⟩:=bindS hj1
   refine q_callg (vs:=[s2.v]) hF hS (wanted_t hF rfl rfl rfl hc2) Tryz.func32 (by kernel_rfl) rfl rfl rfl (c_impl_IsSchema p_s t_6 ht_6 _ m hS.vis s2 h2) ?_
   rintro a w _ rfl hF hS
   refine q_xg (v:=(.bool (!t_6))) hF hS (ex_not rfl) (wanted_t hF rfl rfl rfl hc2) rfl fun a hF=>q_x (v:=(.bool (!t_6))) hF hS (ex_pick_f rfl rfl hc2) rfl rfl fun a hF=>q_end (n_jn ?_)
   obtain rfl:=someI hj1
   exact ⟨hF.sub ⟨rfl,rfl,rfl,rfl,trivial⟩,hS⟩
  ·have hj1:=cond_t hc2 hj1
   refine q_skip hF (wanted_f hF rfl rfl rfl hc2 rfl) rfl fun a hF=>q_skip hF (wanted_f hF rfl rfl rfl hc2 rfl) rfl fun a hF=>q_skip hF (wanted_f hF rfl rfl rfl hc2 rfl) rfl fun a hF=>q_x (v:=(.bool true)) hF hS (ex_pick_t rfl rfl hc2) rfl rfl fun a hF=>q_end (n_jn ?_)
   obtain rfl:=someI hj1
   exact ⟨hF.sub ⟨rfl,rfl,rfl,rfl,trivial⟩,hS⟩
 ·rintro a w ⟨hF,hS⟩
  refine n_sq ?_
  rcases bcase (t_7) with hc3 | hc3
  ·have hr:=cond_f hc3 hr
   refine q_cond_f hF rfl hc3 (q_skipc (n_sq (q_seq (q_region (q_x (v:=(.agg #[s1.v])) hF hS (ex_loadA (vs:=[s1.v]) 0 0 Tryz.underlying26 rfl sz26 rfl rfl rfl rfl) rfl rfl fun a hF=>q_x (v:=s2.v) hF hS (ex_move rfl) rfl rfl fun a hF=>q_x (v:=s3.v) hF hS (ex_move rfl) rfl rfl fun a hF=>?_)))))
   obtain ⟨t_8,ht_8,hr⟩:=bindS hr
   refine q_call (vs:=[(.agg #[s1.v]),s2.v,s3.v]) hF hS Tryz.func33 (by kernel_rfl) rfl rfl rfl (c_impl_isSurvey p_g p_s p_l t_8 ht_8 _ m hS.vis s1 h1 s2 h2 s3 h3) ?_
   rintro a w _ rfl hF hS
   refine q_x (v:=(.bool t_8)) hF hS (ex_assign rfl) rfl rfl fun a hF=>q_x (v:=(.bool true)) hF hS (ex_assign rfl) rfl rfl fun a hF=>q_end (n_sq (q_ret ?_))
   obtain rfl:=someI hr
   exact ret_of hF hS rfl (.tmp rfl (.tmp rfl .nil)) rfl
  ·have hr:=cond_t hc3 hr
   refine q_cond_t hF rfl hc3 (q_seq (q_region (q_x (v:=(.bool false)) hF hS (ex_assign rfl) rfl rfl fun a hF=>q_x (v:=(.bool false)) hF hS (ex_assign rfl) rfl rfl fun a hF=>q_end (n_sq (q_ret (r_sq ?_))))))
   obtain rfl:=someI hr
   exact ret_of hF hS rfl (.tmp rfl (.tmp rfl .nil)) rfl

theorem c_spec_IsSurvey (p_g : impl_Geo) (p_s : List impl_Variable) (p_l : List impl_Record) (r : Bool × Bool) (hr : spec_IsSurvey p_g p_s p_l = some r) (w0 : World) (m : Mem) (hv : Vis m w0) (s1 : Sl) (h1 : Rd m s1 p_g.Parents) (s2 : Sl) (h2 : Rd m s2 p_s) (s3 : Sl) (h3 : Rd m s3 p_l) :
  Ret Tryz.prog 13 [(.agg #[s1.v]),s2.v,s3.v] w0 (fun v _=>v = (.tuple #[(.bool r.1),(.bool r.2)])):=by
 unfold spec_IsSurvey at hr
 refine ret_start Tryz.func13 rfl 20 rfl rfl m hv fun a hF hS=>q_seq (q_region (q_box (cs:=[s1.v]) hF hS rfl rfl rfl fun a w b4 hF hS=>q_x (v:=(.bool false)) hF hS (ex_assign rfl) rfl rfl fun a hF=>q_x (v:=(.bool false)) hF hS (ex_assign rfl) rfl rfl fun a hF=>q_end (n_sq (q_seq (q_seq ?_)))))
 obtain ⟨t_7,hj1,hr⟩:=bindS hr
 refine q_join (fun a w=>Fr a 20 [(1,s2.v),(2,s3.v),(3,(.pointer (some ⟨b4,0,none⟩))),(15,(.bool t_7))]∧St [] w0 w m [[⟨b4,[s1.v],26⟩]]) ?_ ?_
 ·refine q_region (q_x (v:=(.agg #[s1.v])) hF hS (ex_loadA (vs:=[s1.v]) 0 0 Tryz.underlying26 rfl sz26 rfl rfl rfl rfl) rfl rfl fun a hF=>?_)
  obtain ⟨t_5,ht_5,hj1⟩:=bindS hj1
  refine q_call (vs:=[(.agg #[s1.v])]) hF hS Tryz.func34 (by kernel_rfl) rfl rfl rfl (c_spec_gGood p_g t_5 ht_5 _ m hS.vis s1 h1) ?_
  rintro a w _ rfl hF hS
  refine q_x (v:=(.bool (!t_5))) hF hS (ex_not rfl) rfl rfl fun a hF=>q_x (v:=(.bool (!t_5))) hF hS (ex_move rfl) rfl rfl fun a hF=>?_
  rcases bcase (!t_5) with hc2 | hc2
  ·have hj1:=cond_f hc2 hj1
   refine q_xg (v:=s2.v) hF hS (ex_move rfl) (wanted_t hF rfl rfl rfl hc2) rfl fun a hF=>?_
   obtain ⟨t_6,ht_6,hj1⟩:=bindS hj1
   refine q_callg (vs:=[s2.v]) hF hS (wanted_t hF rfl rfl rfl hc2) Tryz.func35 (by kernel_rfl) rfl rfl rfl (c_spec_sGood p_s t_6 ht_6 _ m hS.vis s2 h2) ?_
   rintro a w _ rfl hF hS
   refine q_xg (v:=(.bool (!t_6))) hF hS (ex_not rfl) (wanted_t hF rfl rfl rfl hc2) rfl fun a hF=>q_x (v:=(.bool (!t_6))) hF hS (ex_pick_f rfl rfl hc2) rfl rfl fun a hF=>q_end (n_jn ?_)
   obtain rfl:=someI hj1
   exact ⟨hF.sub ⟨rfl,rfl,rfl,rfl,trivial⟩,hS⟩
  ·have hj1:=cond_t hc2 hj1
   refine q_skip hF (wanted_f hF rfl rfl rfl hc2 rfl) rfl fun a hF=>q_skip hF (wanted_f hF rfl rfl rfl hc2 rfl) rfl fun a hF=>q_skip hF (wanted_f hF rfl rfl rfl hc2 rfl) rfl fun a hF=>q_x (v:=(.bool true)) hF hS (ex_pick_t rfl rfl hc2) rfl rfl fun a hF=>q_end (n_jn ?_)
   obtain rfl:=someI hj1
   exact ⟨hF.sub ⟨rfl,rfl,rfl,rfl,trivial⟩,hS⟩
 ·rintro a w ⟨hF,hS⟩
  refine n_sq ?_
  rcases bcase (t_7) with hc3 | hc3
  ·have hr:=cond_f hc3 hr
   refine q_cond_f hF rfl hc3 (q_skipc (n_sq (q_seq (q_region (q_x (v:=(.agg #[s1.v])) hF hS (ex_loadA (vs:=[s1.v]) 0 0 Tryz.underlying26 rfl sz26 rfl rfl rfl rfl) rfl rfl fun a hF=>q_x (v:=s2.v) hF hS (ex_move rfl) rfl rfl fun a hF=>q_x (v:=s3.v) hF hS (ex_move rfl) rfl rfl fun a hF=>?_)))))
   obtain ⟨t_8,ht_8,hr⟩:=bindS hr
   refine q_call (vs:=[(.agg #[s1.v]),s2.v,s3.v]) hF hS Tryz.func25 (by kernel_rfl) rfl rfl rfl (c_spec_uSurvey p_g p_s p_l t_8 ht_8 _ m hS.vis s1 h1 s2 h2 s3 h3) ?_
   rintro a w _ rfl hF hS
   refine q_x (v:=(.bool t_8)) hF hS (ex_assign rfl) rfl rfl fun a hF=>q_x (v:=(.bool true)) hF hS (ex_assign rfl) rfl rfl fun a hF=>q_end (n_sq (q_ret ?_))
   obtain rfl:=someI hr
   exact ret_of hF hS rfl (.tmp rfl (.tmp rfl .nil)) rfl
  ·have hr:=cond_t hc3 hr
   refine q_cond_t hF rfl hc3 (q_seq (q_region (q_x (v:=(.bool false)) hF hS (ex_assign rfl) rfl rfl fun a hF=>q_x (v:=(.bool false)) hF hS (ex_assign rfl) rfl rfl fun a hF=>q_end (n_sq (q_ret (r_sq ?_))))))
   obtain rfl:=someI hr
   exact ret_of hF hS rfl (.tmp rfl (.tmp rfl .nil)) rfl

theorem c_spec_DrawReportText (p_code : List (K .u8)) (r : impl_Geo × (List impl_Variable) × impl_Table × (List Int)) (hr : spec_DrawReportText p_code = some r) (w0 : World) (m : Mem) (hv : Vis m w0) (s1 : Sl) (h1 : Rd m s1 p_code) :
  Ret Tryz.prog 36 [s1.v] w0 (fun v w=>∃ (m' : Mem) (q0' : Piece) (q2' : Piece) (q3' : Piece) (q4' : Piece) (s0' : Sl) (s1' : Sl) (s2' : Sl) (s3' : Sl) (s4' : Sl),v = (.tuple #[(.agg #[s0'.v]),s1'.v,(.agg #[(iV r.2.2.1.Level),s2'.v,s3'.v,(iV r.2.2.1.Sum)]),s4'.v])∧MLe [] w0.heap.size m m'∧St [] w0 w m' [q0',q2',q3',q4']∧OwnL m' 3 q0' s0' r.1.Parents∧Rd m' s1' r.2.1∧OwnL m' 3 q2' s2' r.2.2.1.Vars∧OwnL m' 3 q3' s3' r.2.2.1.Where∧OwnL m' 3 q4' s4' r.2.2.2):=by
 unfold spec_DrawReportText at hr
 refine ret_start Tryz.func36 rfl 68 rfl rfl m hv fun a hF hS=>q_seq (q_region (q_alloc (cs:=[nilS.v]) hF hS rfl rfl rfl fun a w b2 hF hS=>q_x (v:=nilS.v) hF hS (ex_assign rfl) rfl rfl fun a hF=>q_alloc (cs:=[(iV 0),nilS.v,nilS.v,(iV 0)]) hF hS rfl rfl rfl fun a w b3 hF hS=>q_x (v:=nilS.v) hF hS (ex_assign rfl) rfl rfl fun a hF=>q_end (n_sq (q_seq (q_region (q_x (v:=s1.v) hF hS (ex_move rfl) rfl rfl fun a hF=>q_x (v:=(.agg #[s1.v,(iV 0),(.int .u64 0)])) hF hS (ex_build (cells:=[s1.v,(iV 0),(.int .u64 0)]) rfl (by kernel_rfl)) rfl rfl fun a hF=>q_box (cs:=[s1.v,(iV 0),(.int .u64 0)]) hF hS rfl rfl rfl fun a w b4 hF hS=>q_x (v:=(.pointer (some ⟨b4,0,none⟩))) hF hS (ex_assign rfl) rfl rfl fun a hF=>q_end (n_sq (q_seq (q_region (q_x (v:=(.pointer (some ⟨b4,0,none⟩))) hF hS (ex_move rfl) rfl rfl fun a hF=>?_))))))))))
 have hS5 : St _ _ _ _ ([[⟨b4,[s1.v,(iV 0),(.int .u64 0)],47⟩]]++[[⟨b3,[(iV 0),nilS.v,nilS.v,(iV 0)],29⟩],[⟨b2,[nilS.v],26⟩]]):=hS
 have hE5:=hS5.enter
 obtain ⟨t_6,ht_6,hr⟩:=bindS hr
 refine q_do rfl fun _ hK=>wp_callX (vs:=[(.pointer (some ⟨b4,0,none⟩))]) hF Tryz.func16 (by kernel_rfl) rfl rfl rfl (c_spec_l1Cur_anySurvey (spec_l1Cur.mk p_code 0 (⟨0⟩ : K .u64)) t_6 ht_6 _ m b4 s1 h1 _ hE5) fun a w _ hR hF=>hK _ _ ?_
 obtain ⟨m5',q7,q9,s7,s8,s9,rfl,hm5,hR5,h7,h8,h9,hk10⟩:=hR
 have hS : St _ _ _ _ [[⟨b4,[s1.v,(iV t_6.2.2.2.at_),(.int .u64 t_6.2.2.2.seed.v)],47⟩],q7,q9,[⟨b3,[(iV 0),nilS.v,nilS.v,(iV 0)],29⟩],[⟨b2,[nilS.v],26⟩]]:=hS5.leave hR5 hm5
 have hm5:=MLe.weakX hS5 hm5
 have h10 : Rd m5' s1 t_6.2.2.2.code:=by rw [hk10]; exact (h1.mono hm5.le)
 refine q_x (v:=(.tuple #[(.agg #[s7.v]),s8.v,s9.v])) hF hS (ex_move rfl) rfl rfl fun a hF=>q_x (v:=(.agg #[s7.v])) hF hS (ex_extract rfl rfl) rfl rfl fun a hF=>q_x (v:=s8.v) hF hS (ex_extract rfl rfl) rfl rfl fun a hF=>q_x (v:=s9.v) hF hS (ex_extract rfl rfl) rfl rfl fun a hF=>q_alloc (cs:=[nilS.v]) hF hS rfl rfl rfl fun a w b11 hF hS=>q_store (vs:=[s7.v]) (cs':=[s7.v]) 0 0 hF hS sz26 rfl rfl rfl rfl rfl rfl rfl rfl fun a w hF hS=>q_x (v:=s8.v) hF hS (ex_assign rfl) rfl rfl fun a hF=>q_x (v:=s9.v) hF hS (ex_assign rfl) rfl rfl fun a hF=>q_end (n_sq (q_seq (q_region (q_x (v:=(.pointer (some ⟨b4,0,none⟩))) hF hS (ex_move rfl) rfl rfl fun a hF=>q_x (v:=(.agg #[s7.v])) hF hS (ex_loadA (vs:=[s7.v]) 0 0 Tryz.underlying26 rfl sz26 rfl rfl rfl rfl) rfl rfl fun a hF=>q_x (v:=s8.v) hF hS (ex_move rfl) rfl rfl fun a hF=>?_))))
 have hS : St _ _ _ _ [[⟨b4,[s1.v,(iV t_6.2.2.2.at_),(.int .u64 t_6.2.2.2.seed.v)],47⟩],[⟨b11,[s7.v],26⟩],q7,q9,[⟨b3,[(iV 0),nilS.v,nilS.v,(iV 0)],29⟩],[⟨b2,[nilS.v],26⟩]]:=hS.sel [1,0,2,3,4,5] (by decide)
 have hS12 : St _ _ _ _ ([[⟨b4,[s1.v,(iV t_6.2.2.2.at_),(.int .u64 t_6.2.2.2.seed.v)],47⟩]]++[[⟨b11,[s7.v],26⟩],q7,q9,[⟨b3,[(iV 0),nilS.v,nilS.v,(iV 0)],29⟩],[⟨b2,[nilS.v],26⟩]]):=hS
 obtain ⟨m12,hl12,hE12,hz12⟩:=hS12.lendX
 obtain ⟨t_13,ht_13,hr⟩:=bindS hr
 refine q_do rfl fun _ hK=>wp_callX (vs:=[(.pointer (some ⟨b4,0,none⟩)),(.agg #[s7.v]),s8.v]) hF Tryz.func17 (by kernel_rfl) rfl rfl rfl (c_spec_l1Cur_anyTable t_6.2.2.2 t_6.1 t_6.2.1 t_13 ht_13 _ m12 b4 s1 (h10.mono hl12) s7 (h7.froz hl12 (hz12 1 _ rfl)) s8 (h8.mono hl12) _ hE12) fun a w _ hR hF=>hK _ _ ?_
 obtain ⟨q14,q15,s14,s15,rfl,hR12,h14,h15,hk16⟩:=hR
 have hS : St _ _ _ _ [[⟨b4,[s1.v,(iV t_13.2.at_),(.int .u64 t_13.2.seed.v)],47⟩],q14,q15,[⟨b11,[s7.v],26⟩],q7,q9,[⟨b3,[(iV 0),nilS.v,nilS.v,(iV 0)],29⟩],[⟨b2,[nilS.v],26⟩]]:=hS12.leaveF hR12
 have h14:=h14.any m5'
 have h15:=h15.any m5'
 have h16 : Rd m5' s1 t_13.2.code:=by rw [hk16]; exact h10
 refine q_alloc (cs:=[(iV 0),nilS.v,nilS.v,(iV 0)]) hF hS rfl rfl rfl fun a w b17 hF hS=>q_store (vs:=[(iV t_13.1.Level),s14.v,s15.v,(iV t_13.1.Sum)]) (cs':=[(iV t_13.1.Level),s14.v,s15.v,(iV t_13.1.Sum)]) 0 0 hF hS sz29 rfl rfl rfl rfl rfl rfl rfl rfl fun a w hF hS=>q_end (n_sq (q_seq (q_seq ?_)))
 obtain ⟨t_22,hj1,hr⟩:=bindS hr
 refine q_join (fun a w=>Fr a 68 [(2,(.pointer (some ⟨b2,0,none⟩))),(4,(.pointer (some ⟨b3,0,none⟩))),(6,(.pointer (some ⟨b4,0,none⟩))),(7,(.pointer (some ⟨b11,0,none⟩))),(8,s8.v),(9,s9.v),(10,(.pointer (some ⟨b17,0,none⟩))),(36,(.bool t_22))]∧St [] w0 w m5' [q9,q14,q15,q7,[⟨b17,[(iV t_13.1.Level),s14.v,s15.v,(iV t_13.1.Sum)],29⟩],[⟨b4,[s1.v,(iV t_13.2.at_),(.int .u64 t_13.2.seed.v)],47⟩],[⟨b11,[s7.v],26⟩],[⟨b3,[(iV 0),nilS.v,nilS.v,(iV 0)],29⟩],[⟨b2,[nilS.v],26⟩]]) ?_ ?_
 ·refine q_region (q_x (v:=(.agg #[s7.v])) hF hS (ex_loadA (vs:=[s7.v]) 4 0 Tryz.underlying26 rfl sz26 rfl rfl rfl rfl) rfl rfl fun a hF=>q_x (v:=s8.v) hF hS (ex_move rfl) rfl rfl fun a hF=>q_x (v:=(.agg #[(iV t_13.1.Level),s14.v,s15.v,(iV t_13.1.Sum)])) hF hS (ex_loadA (vs:=[(iV t_13.1.Level),s14.v,s15.v,(iV t_13.1.Sum)]) 0 0 Tryz.underlying29 rfl sz29 rfl rfl rfl rfl) rfl rfl fun a hF=>?_)
  obtain ⟨m19,hl19,hv19,hz19⟩:=hS.lend
  obtain ⟨t_18,ht_18,hj1⟩:=bindS hj1
  refine q_call (vs:=[(.agg #[s7.v]),s8.v,(.agg #[(iV t_13.1.Level),s14.v,s15.v,(iV t_13.1.Sum)])]) hF hS Tryz.func23 (by kernel_rfl) rfl rfl rfl (c_spec_uGood t_6.1 t_6.2.1 t_13.1 t_18 ht_18 _ m19 hv19 s7 (h7.froz hl19 (hz19 5 _ rfl)) s8 (h8.mono hl19) s14 (h14.froz hl19 (hz19 2 _ rfl)) s15 (h15.froz hl19 (hz19 3 _ rfl))) ?_
  rintro a w _ rfl hF hS
  refine q_x (v:=(.bool (!t_18))) hF hS (ex_not rfl) rfl rfl fun a hF=>q_x (v:=(.bool (!t_18))) hF hS (ex_move rfl) rfl rfl fun a hF=>?_
  rcases bcase (!t_18) with hc2 | hc2
  ·have hj1:=cond_f hc2 hj1
   refine q_xg (v:=(.agg #[s7.v])) hF hS (ex_loadA (vs:=[s7.v]) 4 0 Tryz.underlying26 rfl sz26 rfl rfl rfl rfl) (wanted_t hF rfl rfl rfl hc2) rfl fun a hF=>q_xg (v:=s8.v) hF hS (ex_move rfl) (wanted_t hF rfl rfl rfl hc2) rfl fun a hF=>q_xg (v:=s9.v) hF hS (ex_move rfl) (wanted_t hF rfl rfl rfl hc2) rfl fun a hF=>?_
   obtain ⟨m21,hl21,hv21,hz21⟩:=hS.lend
   obtain ⟨t_20,ht_20,hj1⟩:=bindS hj1
   refine q_callg (vs:=[(.agg #[s7.v]),s8.v,s9.v]) hF hS (wanted_t hF rfl rfl rfl hc2) Tryz.func25 (by kernel_rfl) rfl rfl rfl (c_spec_uSurvey t_6.1 t_6.2.1 t_6.2.2.1 t_20 ht_20 _ m21 hv21 s7 (h7.froz hl21 (hz21 5 _ rfl)) s8 (h8.mono hl21) s9 (h9.froz hl21 (hz21 6 _ rfl))) ?_
   rintro a w _ rfl hF hS
   refine q_xg (v:=(.bool (!t_20))) hF hS (ex_not rfl) (wanted_t hF rfl rfl rfl hc2) rfl fun a hF=>q_x (v:=(.bool (!t_20))) hF hS (ex_pick_f rfl rfl hc2) rfl rfl fun a hF=>q_end (n_jn ?_)
   obtain rfl:=someI hj1
   exact ⟨hF.sub ⟨rfl,rfl,rfl,rfl,rfl,rfl,rfl,rfl,trivial⟩,hS.sel [6,2,3,5,0,1,4,7,8] (by decide)⟩
  ·have hj1:=cond_t hc2 hj1
   refine q_skip hF (wanted_f hF rfl rfl rfl hc2 rfl) rfl fun a hF=>q_skip hF (wanted_f hF rfl rfl rfl hc2 rfl) rfl fun a hF=>q_skip hF (wanted_f hF rfl rfl rfl hc2 rfl) rfl fun a hF=>q_skip hF (wanted_f hF rfl rfl rfl hc2 rfl) rfl fun a hF=>q_skip hF (wanted_f hF rfl rfl rfl hc2 rfl) rfl fun a hF=>q_x (v:=(.bool true)) hF hS (ex_pick_t rfl rfl hc2) rfl rfl fun a hF=>q_end (n_jn ?_)
   obtain rfl:=someI hj1
   exact ⟨hF.sub ⟨rfl,rfl,rfl,rfl,rfl,rfl,rfl,rfl,trivial⟩,hS.sel [6,2,3,5,0,1,4,7,8] (by decide)⟩
 ·rintro a w ⟨hF,hS⟩
  refine n_sq ?_
  rcases bcase (t_22) with hc3 | hc3
  ·have hr:=cond_f hc3 hr
   refine q_cond_f hF rfl hc3 (q_skipc (n_sq (q_seq (q_region (q_x (v:=(.agg #[s7.v])) hF hS (ex_loadA (vs:=[s7.v]) 6 0 Tryz.underlying26 rfl sz26 rfl rfl rfl rfl) rfl rfl fun a hF=>q_x (v:=s8.v) hF hS (ex_move rfl) rfl rfl fun a hF=>q_x (v:=(.agg #[(iV t_13.1.Level),s14.v,s15.v,(iV t_13.1.Sum)])) hF hS (ex_loadA (vs:=[(iV t_13.1.Level),s14.v,s15.v,(iV t_13.1.Sum)]) 4 0 Tryz.underlying29 rfl sz29 rfl rfl rfl rfl) rfl rfl fun a hF=>q_x (v:=s9.v) hF hS (ex_move rfl) rfl rfl fun a hF=>?_)))))
   obtain ⟨m24,hl24,hv24,hz24⟩:=hS.lend
   obtain ⟨t_23,ht_23,hr⟩:=bindS hr
   refine q_call (vs:=[(.agg #[s7.v]),s8.v,(.agg #[(iV t_13.1.Level),s14.v,s15.v,(iV t_13.1.Sum)]),s9.v]) hF hS Tryz.func26 (by kernel_rfl) rfl rfl rfl (c_spec_uTable t_6.1 t_6.2.1 t_13.1 t_6.2.2.1 t_23 ht_23 _ m24 hv24 s7 (h7.froz hl24 (hz24 3 _ rfl)) s8 (h8.mono hl24) s14 (h14.froz hl24 (hz24 1 _ rfl)) s15 (h15.froz hl24 (hz24 2 _ rfl)) s9 (h9.froz hl24 (hz24 0 _ rfl))) ?_
   rintro a w _ ⟨q26,s26,rfl,hR25,h26⟩ hF hS2
   have hS : St _ _ _ _ [q26,q9,q14,q15,q7,[⟨b17,[(iV t_13.1.Level),s14.v,s15.v,(iV t_13.1.Sum)],29⟩],[⟨b4,[s1.v,(iV t_13.2.at_),(.int .u64 t_13.2.seed.v)],47⟩],[⟨b11,[s7.v],26⟩],[⟨b3,[(iV 0),nilS.v,nilS.v,(iV 0)],29⟩],[⟨b2,[nilS.v],26⟩]]:=hS.joinF hR25
   have h26:=h26.any m5'
   refine q_x (v:=s26.v) hF hS (ex_assign rfl) rfl rfl fun a hF=>q_end (n_sq (q_seq (q_seq (q_region (q_x (v:=(.pointer (some ⟨b4,0,none⟩))) hF hS (ex_move rfl) rfl rfl fun a hF=>?_)))))
   have hS : St _ _ _ _ [[⟨b4,[s1.v,(iV t_13.2.at_),(.int .u64 t_13.2.seed.v)],47⟩],q26,q9,q14,q15,q7,[⟨b17,[(iV t_13.1.Level),s14.v,s15.v,(iV t_13.1.Sum)],29⟩],[⟨b11,[s7.v],26⟩],[⟨b3,[(iV 0),nilS.v,nilS.v,(iV 0)],29⟩],[⟨b2,[nilS.v],26⟩]]:=hS.sel [6,0,1,2,3,4,5,7,8,9] (by decide)
   have hS27 : St _ _ _ _ ([[⟨b4,[s1.v,(iV t_13.2.at_),(.int .u64 t_13.2.seed.v)],47⟩]]++[q26,q9,q14,q15,q7,[⟨b17,[(iV t_13.1.Level),s14.v,s15.v,(iV t_13.1.Sum)],29⟩],[⟨b11,[s7.v],26⟩],[⟨b3,[(iV 0),nilS.v,nilS.v,(iV 0)],29⟩],[⟨b2,[nilS.v],26⟩]]):=hS
   have hE27:=hS27.enter
   obtain ⟨t_28,ht_28,hr⟩:=bindS hr
   refine q_do rfl fun _ hK=>wp_callX (vs:=[(.pointer (some ⟨b4,0,none⟩)),(iV 12)]) hF Tryz.func49 (by kernel_rfl) rfl rfl rfl (c_spec_l1Cur_pick t_13.2 12 t_28 ht_28 _ m5' b4 s1 h16 _ hE27) fun a w _ hR hF=>hK _ _ ?_
   obtain ⟨rfl,hR27,hk29⟩:=hR
   have hS : St _ _ _ _ [[⟨b4,[s1.v,(iV t_28.2.at_),(.int .u64 t_28.2.seed.v)],47⟩],q26,q9,q14,q15,q7,[⟨b17,[(iV t_13.1.Level),s14.v,s15.v,(iV t_13.1.Sum)],29⟩],[⟨b11,[s7.v],26⟩],[⟨b3,[(iV 0),nilS.v,nilS.v,(iV 0)],29⟩],[⟨b2,[nilS.v],26⟩]]:=hS27.leaveF hR27
   have h29 : Rd m5' s1 t_28.2.code:=by rw [hk29]; exact h16
   refine q_end (n_sq (q_block (q_seq (q_region (q_x (v:=(.bool (t_28.1 == 0))) hF hS (ex_ibin rfl rfl rfl) rfl rfl fun a hF=>q_x (v:=(.bool (t_28.1 == 0))) hF hS (ex_assign rfl) rfl rfl fun a hF=>q_end (n_sq ?_))))))
   obtain ⟨cells_45,hj4,hr⟩:=bindS hr
   refine q_join (fun a w=>∃ (q46 : Piece),∃ (s46 : Sl),Fr a 68 [(2,(.pointer (some ⟨b2,0,none⟩))),(4,(.pointer (some ⟨b3,0,none⟩))),(7,(.pointer (some ⟨b11,0,none⟩))),(8,s8.v),(10,(.pointer (some ⟨b17,0,none⟩))),(11,s46.v)]∧St [] w0 w m5' [q46,q14,q15,q7,[⟨b17,[(iV t_13.1.Level),s14.v,s15.v,(iV t_13.1.Sum)],29⟩],[⟨b11,[s7.v],26⟩],[⟨b3,[(iV 0),nilS.v,nilS.v,(iV 0)],29⟩],[⟨b2,[nilS.v],26⟩]]∧OwnL m5' 3 q46 s46 cells_45) ?_ ?_
   ·rcases bcase (t_28.1 == 0) with hc5 | hc5
    ·have hj4:=cond_f hc5 hj4
     refine q_cond_f hF rfl hc5 (q_seq (q_region (q_x (v:=(.bool (t_28.1 == 1))) hF hS (ex_ibin rfl rfl rfl) rfl rfl fun a hF=>q_x (v:=(.bool (t_28.1 == 1))) hF hS (ex_assign rfl) rfl rfl fun a hF=>q_end (n_sq ?_))))
     obtain ⟨cells_40,hj6,hj4⟩:=bindS hj4
     refine q_join (fun a w=>∃ (q41 : Piece),Fr a 68 [(2,(.pointer (some ⟨b2,0,none⟩))),(4,(.pointer (some ⟨b3,0,none⟩))),(7,(.pointer (some ⟨b11,0,none⟩))),(8,s8.v),(10,(.pointer (some ⟨b17,0,none⟩))),(11,s26.v)]∧St [] w0 w m5' [q41,q14,q15,q7,[⟨b17,[(iV t_13.1.Level),s14.v,s15.v,(iV t_13.1.Sum)],29⟩],[⟨b11,[s7.v],26⟩],[⟨b3,[(iV 0),nilS.v,nilS.v,(iV 0)],29⟩],[⟨b2,[nilS.v],26⟩]]∧OwnL m5' 3 q41 s26 cells_40) ?_ ?_
     ·rcases bcase (t_28.1 == 1) with hc7 | hc7
      ·have hj6:=cond_f hc7 hj6
       refine q_cond_f hF rfl hc7 (q_skipc (n_jn ?_))
       obtain rfl:=someI hj6
       exact ⟨q26,hF.sub ⟨rfl,rfl,rfl,rfl,rfl,rfl,trivial⟩,hS.mask [false,true,false,true,true,true,true,true,true,true],h26⟩
      ·have hj6:=cond_t hc7 hj6
       refine q_cond_t hF rfl hc7 (q_region (q_x (v:=s26.v) hF hS (ex_move rfl) rfl rfl fun a hF=>q_x (v:=(.pointer (some ⟨b4,0,none⟩))) hF hS (ex_move rfl) rfl rfl fun a hF=>q_x (v:=s26.v) hF hS (ex_move rfl) rfl rfl fun a hF=>q_x (v:=(iV (goLen t_23))) hF hS (ex_len Tryz.underlying24 rfl h26.len) rfl rfl fun a hF=>?_))
       have hS30 : St _ _ _ _ ([[⟨b4,[s1.v,(iV t_28.2.at_),(.int .u64 t_28.2.seed.v)],47⟩]]++[q26,q9,q14,q15,q7,[⟨b17,[(iV t_13.1.Level),s14.v,s15.v,(iV t_13.1.Sum)],29⟩],[⟨b11,[s7.v],26⟩],[⟨b3,[(iV 0),nilS.v,nilS.v,(iV 0)],29⟩],[⟨b2,[nilS.v],26⟩]]):=hS
       have hE30:=hS30.enter
       obtain ⟨t_31,ht_31,hj6⟩:=bindS hj6
       refine q_do rfl fun _ hK=>wp_callX (vs:=[(.pointer (some ⟨b4,0,none⟩)),(iV (goLen t_23))]) hF Tryz.func49 (by kernel_rfl) rfl rfl rfl (c_spec_l1Cur_pick t_28.2 (goLen t_23) t_31 ht_31 _ m5' b4 s1 h29 _ hE30) fun a w _ hR hF=>hK _ _ ?_
       obtain ⟨rfl,hR30,hk32⟩:=hR
       have hS : St _ _ _ _ [[⟨b4,[s1.v,(iV t_31.2.at_),(.int .u64 t_31.2.seed.v)],47⟩],q26,q9,q14,q15,q7,[⟨b17,[(iV t_13.1.Level),s14.v,s15.v,(iV t_13.1.Sum)],29⟩],[⟨b11,[s7.v],26⟩],[⟨b3,[(iV 0),nilS.v,nilS.v,(iV 0)],29⟩],[⟨b2,[nilS.v],26⟩]]:=hS30.leaveF hR30
       have h32 : Rd m5' s1 t_31.2.code:=by rw [hk32]; exact h29
       refine q_x (v:=(.pointer (some ⟨b4,0,none⟩))) hF hS (ex_move rfl) rfl rfl fun a hF=>q_do rfl fun _ hK=>wp_buildSlice' (l:=([-5,1000000,1000001,-1000000] : List Int)) (cells:=[(iV (-5)),(iV 1000000),(iV 1000001),(iV (-1000000))]) hF hS Tryz.underlying24 inf3 rfl rfl (by kernel_rfl) rfl rfl rfl ⟨rfl,rfl,rfl,rfl,rfl⟩ rfl rfl fun a w q33 s33 hF hS h33 _=>hK _ _ ?_
       have hS : St _ _ _ _ [[⟨b4,[s1.v,(iV t_31.2.at_),(.int .u64 t_31.2.seed.v)],47⟩],q33,q26,q9,q14,q15,q7,[⟨b17,[(iV t_13.1.Level),s14.v,s15.v,(iV t_13.1.Sum)],29⟩],[⟨b11,[s7.v],26⟩],[⟨b3,[(iV 0),nilS.v,nilS.v,(iV 0)],29⟩],[⟨b2,[nilS.v],26⟩]]:=hS.sel [1,0,2,3,4,5,6,7,8,9,10] (by decide)
       have hS34 : St _ _ _ _ ([[⟨b4,[s1.v,(iV t_31.2.at_),(.int .u64 t_31.2.seed.v)],47⟩]]++[q33,q26,q9,q14,q15,q7,[⟨b17,[(iV t_13.1.Level),s14.v,s15.v,(iV t_13.1.Sum)],29⟩],[⟨b11,[s7.v],26⟩],[⟨b3,[(iV 0),nilS.v,nilS.v,(iV 0)],29⟩],[⟨b2,[nilS.v],26⟩]]):=hS
       obtain ⟨m34,hl34,hE34,hz34⟩:=hS34.lendX
       obtain ⟨t_35,ht_35,hj6⟩:=bindS hj6
       refine q_do rfl fun _ hK=>wp_callX (vs:=[(.pointer (some ⟨b4,0,none⟩)),s33.v]) hF Tryz.func52 (by kernel_rfl) rfl rfl rfl (c_spec_l1Cur_among t_31.2 ([-5,1000000,1000001,-1000000] : List Int) t_35 ht_35 _ m34 b4 s1 (h32.mono hl34) s33 (h33.froz hl34 (hz34 0 _ rfl)) _ hE34) fun a w _ hR hF=>hK _ _ ?_
       obtain ⟨rfl,hR34,hk36⟩:=hR
       have hS : St _ _ _ _ [[⟨b4,[s1.v,(iV t_35.2.at_),(.int .u64 t_35.2.seed.v)],47⟩],q33,q26,q9,q14,q15,q7,[⟨b17,[(iV t_13.1.Level),s14.v,s15.v,(iV t_13.1.Sum)],29⟩],[⟨b11,[s7.v],26⟩],[⟨b3,[(iV 0),nilS.v,nilS.v,(iV 0)],29⟩],[⟨b2,[nilS.v],26⟩]]:=hS34.leaveF hR34
       have h36 : Rd m5' s1 t_35.2.code:=by rw [hk36]; exact h32
       obtain ⟨e_37,he_37,hj6⟩:=bindS hj6
       obtain ⟨vs38,at38,d38⟩:=h26.at he_37 1 rfl
       obtain rfl : vs38 = [(iV e_37)]:=d38
       refine q_x (v:=(elP s26 (t_31.1.toNat * 1))) hF hS (ex_indexAddr Tryz.underlying24 sz3 rfl rfl (h26.idx he_37)) rfl rfl fun a hF=>?_
       have hS : St _ _ _ _ [q26,[⟨b4,[s1.v,(iV t_35.2.at_),(.int .u64 t_35.2.seed.v)],47⟩],q33,q9,q14,q15,q7,[⟨b17,[(iV t_13.1.Level),s14.v,s15.v,(iV t_13.1.Sum)],29⟩],[⟨b11,[s7.v],26⟩],[⟨b3,[(iV 0),nilS.v,nilS.v,(iV 0)],29⟩],[⟨b2,[nilS.v],26⟩]]:=hS.sel [2,0,1,3,4,5,6,7,8,9,10] (by decide)
       refine q_do rfl fun _ hK=>wp_storeE (e':=t_35.1) (us:=[(iV t_35.1)]) (vs:=[(iV e_37)]) 0 hF hS h26 sz3 rfl rfl rfl rfl rfl rfl rfl he_37 at38 rfl rfl rfl fun w q39 hS h39=>hK _ _ (q_end (n_jn ?_))
       obtain rfl:=someI hj6
       exact ⟨q39,hF.sub ⟨rfl,rfl,rfl,rfl,rfl,rfl,trivial⟩,hS.mask [true,false,false,false,true,true,true,true,true,true,true],h39⟩
     ·rintro a w ⟨q41,hF,hS,h41⟩
      refine n_jn ?_
      obtain rfl:=someI hj4
      exact ⟨q41,s26,hF.sub ⟨rfl,rfl,rfl,rfl,rfl,rfl,trivial⟩,hS,h41⟩
    ·have hj4:=cond_t hc5 hj4
     refine q_cond_t hF rfl hc5 (q_region (q_x (v:=s26.v) hF hS (ex_move rfl) rfl rfl fun a hF=>q_do rfl fun _ hK=>wp_buildSlice' (l:=([0] : List Int)) (cells:=[(iV 0)]) hF hS Tryz.underlying24 inf3 rfl rfl (by kernel_rfl) rfl rfl rfl ⟨rfl,rfl⟩ rfl rfl fun a w q42 s42 hF hS h42 _=>hK _ _ ?_))
     have hS : St _ _ _ _ [q26,q42,[⟨b4,[s1.v,(iV t_28.2.at_),(.int .u64 t_28.2.seed.v)],47⟩],q9,q14,q15,q7,[⟨b17,[(iV t_13.1.Level),s14.v,s15.v,(iV t_13.1.Sum)],29⟩],[⟨b11,[s7.v],26⟩],[⟨b3,[(iV 0),nilS.v,nilS.v,(iV 0)],29⟩],[⟨b2,[nilS.v],26⟩]]:=hS.sel [2,0,1,3,4,5,6,7,8,9,10] (by decide)
     obtain ⟨l_43,hl_43,hj4⟩:=bindS hj4
     refine q_do rfl fun _ hK=>wp_append hF hS h26 Tryz.underlying24 inf3 rfl rfl rfl rfl (h42.vw hS (j:=1) rfl) rfl (by decide) hl_43 rfl fun a w q44 s44 hF hS h44=>hK _ _ (q_x (v:=s44.v) hF hS (ex_assign rfl) rfl rfl fun a hF=>q_end (n_jn ?_))
     obtain rfl:=someI hj4
     exact ⟨q44,s44,hF.sub ⟨rfl,rfl,rfl,rfl,rfl,rfl,trivial⟩,hS.mask [true,false,false,false,true,true,true,true,true,true,true],h44⟩
   ·rintro a w ⟨q46,s46,hF,hS,h46⟩
    refine n_ib (n_sq ?_)
    refine q_seq (e_region ⟨[4,6],[b11,b17]⟩ mixed fun w' hw'=>?_)
    have hS:=hS.below hw'
    refine e_xb (v:=(.agg #[s7.v])) 0 5 hF hS (.head _) rfl rfl (ex_loadA (vs:=[s7.v]) 0 0 Tryz.underlying26 rfl sz26 rfl rfl rfl rfl) rfl rfl (by kernel_rfl) (by kernel_rfl) (by kernel_rfl) fun a hF=>e_p (v:=s8.v) 1 hF rfl (ex_move rfl) rfl rfl (by kernel_rfl) (by kernel_rfl) (by kernel_rfl) fun a hF=>e_xb (v:=(.agg #[(iV t_13.1.Level),s14.v,s15.v,(iV t_13.1.Sum)])) 2 4 hF hS (.tail _ (.head _)) rfl rfl (ex_loadA (vs:=[(iV t_13.1.Level),s14.v,s15.v,(iV t_13.1.Sum)]) 0 0 Tryz.underlying29 rfl sz29 rfl rfl rfl rfl) rfl rfl (by kernel_rfl) (by kernel_rfl) (by kernel_rfl) fun a hF=>e_p (v:=s46.v) 3 hF rfl (ex_move rfl) rfl rfl (by kernel_rfl) (by kernel_rfl) (by kernel_rfl) fun a hF=>e_one 4 (by kernel_rfl) ?_
    have hSo:=hS
    refine e_store (vs:=[s7.v]) (cs':=[s7.v]) 7 0 hF hS rfl rfl sz26 rfl rfl rfl rfl rfl rfl rfl rfl fun a w hF hS=>⟨kpC hSo hS 5 5 rfl rfl (kpC hSo hS 4 4 rfl rfl kpN),?_⟩
    refine e_p (v:=s8.v) 5 hF rfl (ex_assign rfl) rfl rfl (by kernel_rfl) (by kernel_rfl) (by kernel_rfl) fun a hF=>e_one 6 (by kernel_rfl) ?_
    have hSo:=hS
    refine e_store (vs:=[(iV t_13.1.Level),s14.v,s15.v,(iV t_13.1.Sum)]) (cs':=[(iV t_13.1.Level),s14.v,s15.v,(iV t_13.1.Sum)]) 6 0 hF hS rfl rfl sz29 rfl rfl rfl rfl rfl rfl rfl rfl fun a w hF hS=>⟨kpC hSo hS 5 5 rfl rfl (kpC hSo hS 4 4 rfl rfl kpN),?_⟩
    refine e_p (v:=s46.v) 7 hF rfl (ex_assign rfl) rfl rfl (by kernel_rfl) (by kernel_rfl) (by kernel_rfl) fun a hF=>e_end (by kernel_rfl) (n_sq (q_ret ?_)) _
    obtain rfl:=someI hr
    exact ret_of hF hS rfl (.cellA (us:=[s7.v]) 7 0 Tryz.underlying26 rfl sz26 rfl rfl rfl rfl (.tmp rfl (.cellA (us:=[(iV t_13.1.Level),s14.v,s15.v,(iV t_13.1.Sum)]) 6 0 Tryz.underlying29 rfl sz29 rfl rfl rfl rfl (.tmp rfl .nil)))) ⟨m5',q7,q14,q15,q46,s7,s8,s14,s15,s46,rfl,hm5,hS.sel [3,1,2,0] (by decide),h7,h8,h14,h15,h46⟩
  ·have hr:=cond_t hc3 hr
   refine q_cond_t hF rfl hc3 (q_seq ?_)
   obtain ⟨t_49,hj8,hr⟩:=bindS hr
   refine q_join (fun a w=>∃ (q50 : Piece),∃ (s50 : Sl),Fr a 68 [(2,(.pointer (some ⟨b2,0,none⟩))),(3,s8.v),(4,(.pointer (some ⟨b3,0,none⟩))),(5,s50.v)]∧St [] w0 w m5' [q50,q14,q15,q7,[⟨b3,[(iV t_13.1.Level),s14.v,s15.v,(iV t_13.1.Sum)],29⟩],[⟨b2,[s7.v],26⟩]]∧OwnL m5' 3 q50 s50 t_49) ?_ ?_
   ·refine e_region ⟨[4,6],[b11,b17]⟩ mixed fun w' hw'=>?_
    have hS:=hS.below hw'
    refine e_xb (v:=(.agg #[s7.v])) 0 6 hF hS (.head _) rfl rfl (ex_loadA (vs:=[s7.v]) 0 0 Tryz.underlying26 rfl sz26 rfl rfl rfl rfl) rfl rfl (by kernel_rfl) (by kernel_rfl) (by kernel_rfl) fun a hF=>e_p (v:=s8.v) 1 hF rfl (ex_move rfl) rfl rfl (by kernel_rfl) (by kernel_rfl) (by kernel_rfl) fun a hF=>e_xb (v:=(.agg #[(iV t_13.1.Level),s14.v,s15.v,(iV t_13.1.Sum)])) 2 4 hF hS (.tail _ (.head _)) rfl rfl (ex_loadA (vs:=[(iV t_13.1.Level),s14.v,s15.v,(iV t_13.1.Sum)]) 0 0 Tryz.underlying29 rfl sz29 rfl rfl rfl rfl) rfl rfl (by kernel_rfl) (by kernel_rfl) (by kernel_rfl) fun a hF=>e_all [3,4] (by kernel_rfl) rfl ⟨?_,?_,trivial⟩
    ·refine e_op rfl rfl fun _ hK=>wp_buildSlice' (l:=([1] : List Int)) (cells:=[(iV 1)]) hF hS Tryz.underlying24 inf3 rfl rfl (by kernel_rfl) rfl rfl rfl ⟨rfl,rfl⟩ rfl rfl fun a w q48 s48 hF hS h48 hb=>hK _ _ hb (e_one 4 (by kernel_rfl) ?_)
     have hSo:=hS
     refine e_store (vs:=[s7.v]) (cs':=[s7.v]) 9 0 hF hS rfl rfl sz26 rfl rfl rfl rfl rfl rfl rfl rfl fun a w hF hS=>⟨kpC hSo hS 7 7 rfl rfl (kpC hSo hS 5 5 rfl rfl kpN),?_⟩
     refine e_p (v:=s8.v) 5 hF rfl (ex_assign rfl) rfl rfl (by kernel_rfl) (by kernel_rfl) (by kernel_rfl) fun a hF=>e_one 6 (by kernel_rfl) ?_
     have hSo:=hS
     refine e_store (vs:=[(iV t_13.1.Level),s14.v,s15.v,(iV t_13.1.Sum)]) (cs':=[(iV t_13.1.Level),s14.v,s15.v,(iV t_13.1.Sum)]) 8 0 hF hS rfl rfl sz29 rfl rfl rfl rfl rfl rfl rfl rfl fun a w hF hS=>⟨kpC hSo hS 7 7 rfl rfl (kpC hSo hS 5 5 rfl rfl kpN),?_⟩
     refine e_p (v:=s48.v) 7 hF rfl (ex_assign rfl) rfl rfl (by kernel_rfl) (by kernel_rfl) (by kernel_rfl) fun a hF=>e_end (by kernel_rfl) (n_jn ?_) _
     obtain rfl:=someI hj8
     exact ⟨q48,s48,hF.sub ⟨rfl,rfl,rfl,rfl,trivial⟩,hS.mask [true,false,true,true,true,false,false,false,true,true],h48⟩
    ·have hSo:=hS
     refine e_store (vs:=[s7.v]) (cs':=[s7.v]) 8 0 hF hS rfl rfl sz26 rfl rfl rfl rfl rfl rfl rfl rfl fun a w hF hS=>⟨kpC hSo hS 6 6 rfl rfl (kpC hSo hS 4 4 rfl rfl kpN),?_⟩
     refine e_p (v:=s8.v) 5 hF rfl (ex_assign rfl) rfl rfl (by kernel_rfl) (by kernel_rfl) (by kernel_rfl) fun a hF=>e_all [3,6] (by kernel_rfl) rfl ⟨?_,?_,trivial⟩
     ·refine e_op rfl rfl fun _ hK=>wp_buildSlice' (l:=([1] : List Int)) (cells:=[(iV 1)]) hF hS Tryz.underlying24 inf3 rfl rfl (by kernel_rfl) rfl rfl rfl ⟨rfl,rfl⟩ rfl rfl fun a w q48 s48 hF hS h48 hb=>hK _ _ hb (e_one 6 (by kernel_rfl) ?_)
      have hSo:=hS
      refine e_store (vs:=[(iV t_13.1.Level),s14.v,s15.v,(iV t_13.1.Sum)]) (cs':=[(iV t_13.1.Level),s14.v,s15.v,(iV t_13.1.Sum)]) 8 0 hF hS rfl rfl sz29 rfl rfl rfl rfl rfl rfl rfl rfl fun a w hF hS=>⟨kpC hSo hS 7 7 rfl rfl (kpC hSo hS 5 5 rfl rfl kpN),?_⟩
      refine e_p (v:=s48.v) 7 hF rfl (ex_assign rfl) rfl rfl (by kernel_rfl) (by kernel_rfl) (by kernel_rfl) fun a hF=>e_end (by kernel_rfl) (n_jn ?_) _
      obtain rfl:=someI hj8
      exact ⟨q48,s48,hF.sub ⟨rfl,rfl,rfl,rfl,trivial⟩,hS.mask [true,false,true,true,true,false,false,false,true,true],h48⟩
     ·have hSo:=hS
      refine e_store (vs:=[(iV t_13.1.Level),s14.v,s15.v,(iV t_13.1.Sum)]) (cs':=[(iV t_13.1.Level),s14.v,s15.v,(iV t_13.1.Sum)]) 7 0 hF hS rfl rfl sz29 rfl rfl rfl rfl rfl rfl rfl rfl fun a w hF hS=>⟨kpC hSo hS 6 6 rfl rfl (kpC hSo hS 4 4 rfl rfl kpN),?_⟩
      refine e_one 3 (by kernel_rfl) (e_op rfl rfl fun _ hK=>wp_buildSlice' (l:=([1] : List Int)) (cells:=[(iV 1)]) hF hS Tryz.underlying24 inf3 rfl rfl (by kernel_rfl) rfl rfl rfl ⟨rfl,rfl⟩ rfl rfl fun a w q48 s48 hF hS h48 hb=>hK _ _ hb (e_p (v:=s48.v) 7 hF rfl (ex_assign rfl) rfl rfl (by kernel_rfl) (by kernel_rfl) (by kernel_rfl) fun a hF=>e_end (by kernel_rfl) (n_jn ?_) _))
      obtain rfl:=someI hj8
      exact ⟨q48,s48,hF.sub ⟨rfl,rfl,rfl,rfl,trivial⟩,hS.mask [true,false,true,true,true,false,false,false,true,true],h48⟩
   ·rintro a w ⟨q50,s50,hF,hS,h50⟩
    refine n_sq (q_ret (r_sq ?_))
    obtain rfl:=someI hr
    exact ret_of hF hS rfl (.cellA (us:=[s7.v]) 5 0 Tryz.underlying26 rfl sz26 rfl rfl rfl rfl (.tmp rfl (.cellA (us:=[(iV t_13.1.Level),s14.v,s15.v,(iV t_13.1.Sum)]) 4 0 Tryz.underlying29 rfl sz29 rfl rfl rfl rfl (.tmp rfl .nil)))) ⟨m5',q7,q14,q15,q50,s7,s8,s14,s15,s50,rfl,hm5,hS.sel [3,1,2,0] (by decide),h7,h8,h14,h15,h50⟩

theorem c_spec_DrawDeriveCells (p_code : List (K .u8)) (r : impl_Geo × (List impl_Variable) × impl_Table × impl_Table × (List Int)) (hr : spec_DrawDeriveCells p_code = some r) (w0 : World) (m : Mem) (hv : Vis m w0) (s1 : Sl) (h1 : Rd m s1 p_code) :
  Ret Tryz.prog 14 [s1.v] w0 (fun v w=>∃ (m' : Mem) (q0' : Piece) (q2' : Piece) (q3' : Piece) (q4' : Piece) (q5' : Piece) (q6' : Piece) (s0' : Sl) (s1' : Sl) (s2' : Sl) (s3' : Sl) (s4' : Sl) (s5' : Sl) (s6' : Sl),v = (.tuple #[(.agg #[s0'.v]),s1'.v,(.agg #[(iV r.2.2.1.Level),s2'.v,s3'.v,(iV r.2.2.1.Sum)]),(.agg #[(iV r.2.2.2.1.Level),s4'.v,s5'.v,(iV r.2.2.2.1.Sum)]),s6'.v])∧MLe [] w0.heap.size m m'∧St [] w0 w m' [q0',q2',q3',q4',q5',q6']∧OwnL m' 3 q0' s0' r.1.Parents∧Rd m' s1' r.2.1∧OwnL m' 3 q2' s2' r.2.2.1.Vars∧OwnL m' 3 q3' s3' r.2.2.1.Where∧OwnL m' 3 q4' s4' r.2.2.2.1.Vars∧OwnL m' 3 q5' s5' r.2.2.2.1.Where∧OwnL m' 3 q6' s6' r.2.2.2.2):=by
 unfold spec_DrawDeriveCells at hr
 refine ret_start Tryz.func14 rfl 31 rfl rfl m hv fun a hF hS=>q_seq (q_region (q_alloc (cs:=[nilS.v]) hF hS rfl rfl rfl fun a w b2 hF hS=>q_x (v:=nilS.v) hF hS (ex_assign rfl) rfl rfl fun a hF=>q_alloc (cs:=[(iV 0),nilS.v,nilS.v,(iV 0)]) hF hS rfl rfl rfl fun a w b3 hF hS=>q_alloc (cs:=[(iV 0),nilS.v,nilS.v,(iV 0)]) hF hS rfl rfl rfl fun a w b4 hF hS=>q_x (v:=nilS.v) hF hS (ex_assign rfl) rfl rfl fun a hF=>q_end (n_sq (q_seq (q_region (q_x (v:=s1.v) hF hS (ex_move rfl) rfl rfl fun a hF=>q_x (v:=(.agg #[s1.v,(iV 0),(.int .u64 0)])) hF hS (ex_build (cells:=[s1.v,(iV 0),(.int .u64 0)]) rfl (by kernel_rfl)) rfl rfl fun a hF=>q_box (cs:=[s1.v,(iV 0),(.int .u64 0)]) hF hS rfl rfl rfl fun a w b5 hF hS=>q_x (v:=(.pointer (some ⟨b5,0,none⟩))) hF hS (ex_assign rfl) rfl rfl fun a hF=>q_end (n_sq (q_seq (q_region (q_x (v:=s1.v) hF hS (ex_move rfl) rfl rfl fun a hF=>?_))))))))))
 obtain ⟨t_6,ht_6,hr⟩:=bindS hr
 refine q_call (vs:=[s1.v]) hF hS Tryz.func36 (by kernel_rfl) rfl rfl rfl (c_spec_DrawReportText p_code t_6 ht_6 _ m hS.vis s1 h1) ?_
 have hT:=hS
 rintro a w _ ⟨m7,q8,q10,q11,q12,s8,s9,s10,s11,s12,rfl,hm7,hR7,h8,h9,h10,h11,h12⟩ hF hS2
 have hS : St _ _ _ _ [q8,q10,q11,q12,[⟨b5,[s1.v,(iV 0),(.int .u64 0)],47⟩],[⟨b4,[(iV 0),nilS.v,nilS.v,(iV 0)],29⟩],[⟨b3,[(iV 0),nilS.v,nilS.v,(iV 0)],29⟩],[⟨b2,[nilS.v],26⟩]]:=hS.join hR7 hm7
 have hm7:=MLe.weakX (O0:=[]) hT hm7
 refine q_x (v:=(.tuple #[(.agg #[s8.v]),s9.v,(.agg #[(iV t_6.2.2.1.Level),s10.v,s11.v,(iV t_6.2.2.1.Sum)]),s12.v])) hF hS (ex_move rfl) rfl rfl fun a hF=>q_x (v:=(.agg #[s8.v])) hF hS (ex_extract rfl rfl) rfl rfl fun a hF=>q_x (v:=s9.v) hF hS (ex_extract rfl rfl) rfl rfl fun a hF=>q_x (v:=(.agg #[(iV t_6.2.2.1.Level),s10.v,s11.v,(iV t_6.2.2.1.Sum)])) hF hS (ex_extract rfl rfl) rfl rfl fun a hF=>q_x (v:=s12.v) hF hS (ex_extract rfl rfl) rfl rfl fun a hF=>q_alloc (cs:=[nilS.v]) hF hS rfl rfl rfl fun a w b13 hF hS=>q_alloc (cs:=[(iV 0),nilS.v,nilS.v,(iV 0)]) hF hS rfl rfl rfl fun a w b14 hF hS=>q_store (vs:=[s8.v]) (cs':=[s8.v]) 1 0 hF hS sz26 rfl rfl rfl rfl rfl rfl rfl rfl fun a w hF hS=>q_x (v:=s9.v) hF hS (ex_assign rfl) rfl rfl fun a hF=>q_store (vs:=[(iV t_6.2.2.1.Level),s10.v,s11.v,(iV t_6.2.2.1.Sum)]) (cs':=[(iV t_6.2.2.1.Level),s10.v,s11.v,(iV t_6.2.2.1.Sum)]) 0 0 hF hS sz29 rfl rfl rfl rfl rfl rfl rfl rfl fun a w hF hS=>q_x (v:=s12.v) hF hS (ex_assign rfl) rfl rfl fun a hF=>q_end (n_sq (q_seq (e_region ⟨[6,9,11,12],[b13,b14]⟩ mixed fun w' hw'=>?_)))
 have hS:=hS.below hw'
 refine e_xb (v:=(.agg #[s8.v])) 0 1 hF hS (.head _) rfl rfl (ex_loadA (vs:=[s8.v]) 0 0 Tryz.underlying26 rfl sz26 rfl rfl rfl rfl) rfl rfl (by kernel_rfl) (by kernel_rfl) (by kernel_rfl) fun a hF=>e_p (v:=s9.v) 1 hF rfl (ex_move rfl) rfl rfl (by kernel_rfl) (by kernel_rfl) (by kernel_rfl) fun a hF=>e_p (v:=(.pointer (some ⟨b5,0,none⟩))) 2 hF rfl (ex_move rfl) rfl rfl (by kernel_rfl) (by kernel_rfl) (by kernel_rfl) fun a hF=>e_xb (v:=(.agg #[s8.v])) 3 1 hF hS (.head _) rfl rfl (ex_loadA (vs:=[s8.v]) 0 0 Tryz.underlying26 rfl sz26 rfl rfl rfl rfl) rfl rfl (by kernel_rfl) (by kernel_rfl) (by kernel_rfl) fun a hF=>e_p (v:=s9.v) 4 hF rfl (ex_move rfl) rfl rfl (by kernel_rfl) (by kernel_rfl) (by kernel_rfl) fun a hF=>e_xb (v:=(.agg #[(iV t_6.2.2.1.Level),s10.v,s11.v,(iV t_6.2.2.1.Sum)])) 5 0 hF hS (.tail _ (.head _)) rfl rfl (ex_loadA (vs:=[(iV t_6.2.2.1.Level),s10.v,s11.v,(iV t_6.2.2.1.Sum)]) 0 0 Tryz.underlying29 rfl sz29 rfl rfl rfl rfl) rfl rfl (by kernel_rfl) (by kernel_rfl) (by kernel_rfl) fun a hF=>e_xb (v:=(.agg #[(iV t_6.2.2.1.Level),s10.v,s11.v,(iV t_6.2.2.1.Sum)])) 7 0 hF hS (.tail _ (.head _)) rfl rfl (ex_loadA (vs:=[(iV t_6.2.2.1.Level),s10.v,s11.v,(iV t_6.2.2.1.Sum)]) 0 0 Tryz.underlying29 rfl sz29 rfl rfl rfl rfl) rfl rfl (by kernel_rfl) (by kernel_rfl) (by kernel_rfl) fun a hF=>e_p (v:=s12.v) 8 hF rfl (ex_move rfl) rfl rfl (by kernel_rfl) (by kernel_rfl) (by kernel_rfl) fun a hF=>e_one 6 (by kernel_rfl) ?_
 have hS : St _ _ _ _ [[⟨b5,[s1.v,(iV 0),(.int .u64 0)],47⟩],[⟨b14,[(iV t_6.2.2.1.Level),s10.v,s11.v,(iV t_6.2.2.1.Sum)],29⟩],[⟨b13,[s8.v],26⟩],q8,q10,q11,q12,[⟨b4,[(iV 0),nilS.v,nilS.v,(iV 0)],29⟩],[⟨b3,[(iV 0),nilS.v,nilS.v,(iV 0)],29⟩],[⟨b2,[nilS.v],26⟩]]:=hS.sel [6,0,1,2,3,4,5,7,8,9] (by decide)
 have hS25 : St _ _ _ _ ([[⟨b5,[s1.v,(iV 0),(.int .u64 0)],47⟩]]++[[⟨b14,[(iV t_6.2.2.1.Level),s10.v,s11.v,(iV t_6.2.2.1.Sum)],29⟩],[⟨b13,[s8.v],26⟩],q8,q10,q11,q12,[⟨b4,[(iV 0),nilS.v,nilS.v,(iV 0)],29⟩],[⟨b3,[(iV 0),nilS.v,nilS.v,(iV 0)],29⟩],[⟨b2,[nilS.v],26⟩]]):=hS
 obtain ⟨m25,hl25,hE25,hz25⟩:=hS25.lendX
 obtain ⟨t_26,ht_26,hr⟩:=bindS hr
 have hSo:=hS
 refine e_opl rfl rfl rfl fun _ hK=>wp_callX (vs:=[(.pointer (some ⟨b5,0,none⟩)),(.agg #[s8.v]),s9.v,(.agg #[(iV t_6.2.2.1.Level),s10.v,s11.v,(iV t_6.2.2.1.Sum)])]) hF Tryz.func19 (by kernel_rfl) rfl rfl rfl (c_spec_l1Cur_below (spec_l1Cur.mk p_code 0 (⟨0⟩ : K .u64)) t_6.1 t_6.2.1 t_6.2.2.1 t_26 ht_26 _ m25 b5 s1 ((h1.mono hm7.le).mono hl25) s8 (h8.froz hl25 (hz25 2 _ rfl)) s9 (h9.mono hl25) s10 (h10.froz hl25 (hz25 3 _ rfl)) s11 (h11.froz hl25 (hz25 4 _ rfl)) _ hE25) fun a w _ hR hF=>hK _ _ ?_
 obtain ⟨q27,q28,s27,s28,rfl,hR25,h27,h28,hk29⟩:=hR
 have hS : St _ _ _ _ [[⟨b5,[s1.v,(iV t_26.2.at_),(.int .u64 t_26.2.seed.v)],47⟩],q27,q28,[⟨b14,[(iV t_6.2.2.1.Level),s10.v,s11.v,(iV t_6.2.2.1.Sum)],29⟩],[⟨b13,[s8.v],26⟩],q8,q10,q11,q12,[⟨b4,[(iV 0),nilS.v,nilS.v,(iV 0)],29⟩],[⟨b3,[(iV 0),nilS.v,nilS.v,(iV 0)],29⟩],[⟨b2,[nilS.v],26⟩]]:=hS25.leaveF hR25
 have h27:=h27.any m7
 have h28:=h28.any m7
 have h29 : Rd m7 s1 t_26.2.code:=by rw [hk29]; exact (h1.mono hm7.le)
 refine ⟨kpC hSo hS 2 4 rfl rfl (kpC hSo hS 1 3 rfl rfl kpN),?_⟩
 refine e_one 9 (by kernel_rfl) ?_
 have hSo:=hS
 refine e_store (vs:=[s8.v]) (cs':=[s8.v]) 11 0 hF hS rfl rfl sz26 rfl rfl rfl rfl rfl rfl rfl rfl fun a w hF hS=>⟨kpC hSo hS 4 4 rfl rfl (kpC hSo hS 3 3 rfl rfl kpN),?_⟩
 refine e_p (v:=s9.v) 10 hF rfl (ex_assign rfl) rfl rfl (by kernel_rfl) (by kernel_rfl) (by kernel_rfl) fun a hF=>e_one 11 (by kernel_rfl) ?_
 have hSo:=hS
 refine e_store (vs:=[(iV t_26.1.Level),s27.v,s28.v,(iV t_26.1.Sum)]) (cs':=[(iV t_26.1.Level),s27.v,s28.v,(iV t_26.1.Sum)]) 10 0 hF hS rfl rfl sz29 rfl rfl rfl rfl rfl rfl rfl rfl fun a w hF hS=>⟨kpC hSo hS 4 4 rfl rfl (kpC hSo hS 3 3 rfl rfl kpN),?_⟩
 refine e_one 12 (by kernel_rfl) ?_
 have hSo:=hS
 refine e_store (vs:=[(iV t_6.2.2.1.Level),s10.v,s11.v,(iV t_6.2.2.1.Sum)]) (cs':=[(iV t_6.2.2.1.Level),s10.v,s11.v,(iV t_6.2.2.1.Sum)]) 9 0 hF hS rfl rfl sz29 rfl rfl rfl rfl rfl rfl rfl rfl fun a w hF hS=>⟨kpC hSo hS 4 4 rfl rfl (kpC hSo hS 3 3 rfl rfl kpN),?_⟩
 refine e_p (v:=s12.v) 13 hF rfl (ex_assign rfl) rfl rfl (by kernel_rfl) (by kernel_rfl) (by kernel_rfl) fun a hF=>e_end (by kernel_rfl) (n_sq (q_ret ?_)) _
 obtain rfl:=someI hr
 exact ret_of hF hS rfl (.cellA (us:=[s8.v]) 11 0 Tryz.underlying26 rfl sz26 rfl rfl rfl rfl (.tmp rfl (.cellA (us:=[(iV t_26.1.Level),s27.v,s28.v,(iV t_26.1.Sum)]) 10 0 Tryz.underlying29 rfl sz29 rfl rfl rfl rfl (.cellA (us:=[(iV t_6.2.2.1.Level),s10.v,s11.v,(iV t_6.2.2.1.Sum)]) 9 0 Tryz.underlying29 rfl sz29 rfl rfl rfl rfl (.tmp rfl .nil))))) ⟨m7,q8,q27,q28,q10,q11,q12,s8,s9,s27,s28,s10,s11,s12,rfl,hm7,hS.sel [5,1,2,6,7,8] (by decide),h8,h9,h27,h28,h10,h11,h12⟩

theorem c_spec_l1All (p_l : List Int) (p_lo : Int) (p_hi : Int) (r : Bool) (hr : spec_l1All p_l p_lo p_hi = some r) (w0 : World) (m : Mem) (hv : Vis m w0) (s1 : Sl) (h1 : Rd m s1 p_l) :
  Ret Tryz.prog 83 [s1.v,(iV p_lo),(iV p_hi)] w0 (fun v _=>v = (.bool r)):=by
 unfold spec_l1All at hr
 refine ret_start Tryz.func83 rfl 21 rfl rfl m hv fun a hF hS=>q_seq (q_region (q_x (v:=(.bool false)) hF hS (ex_assign rfl) rfl rfl fun a hF=>q_end (n_sq (q_seq (q_seq (q_region (q_x (v:=s1.v) hF hS (ex_move rfl) rfl rfl fun a hF=>q_x (v:=(iV (goLen p_l))) hF hS (ex_len Tryz.underlying24 rfl h1.len) rfl rfl fun a hF=>q_x (v:=(iV 0)) hF hS (ex_move rfl) rfl rfl fun a hF=>q_end (n_sq (q_block ?_)))))))))
 obtain ⟨o1,hl1,hr⟩:=bindS hr
 refine q_loop (fun (t_2 : Int) a w=>Fr a 21 [(1,(iV p_lo)),(2,(iV p_hi)),(9,s1.v),(10,(iV (goLen p_l))),(11,(iV t_2))]∧St [] w0 w m []) (fun (o : (Unit) ⊕ (Bool)) e a w=>o = .inl ()∧e = .exit 0∧Fr a 21 []∧St [] w0 w m []) hl1 ⟨hF.sub ⟨rfl,rfl,rfl,rfl,rfl,trivial⟩,hS⟩ ?_ ?_
 ·clear hF hS
  rintro t_2 a w st ⟨hF,hS⟩ hb1
  unfold spec_l1All_l1 at hb1
  refine q_seq (q_region (q_x (v:=(.bool (decide (t_2 < (goLen p_l))))) hF hS (ex_ibin rfl rfl rfl) rfl rfl fun a hF=>q_end (n_sq (q_seq ?_))))
  rcases bcase (decide (t_2 < (goLen p_l))) with hc2 | hc2
  ·have hb1:=cond_f hc2 hb1
   refine q_cond_f hF rfl hc2 (q_exit (x_sq ?_))
   obtain rfl:=someI hb1
   exact ⟨nofun,.inl ⟨rfl,rfl,hF.sub trivial,hS⟩⟩
  ·have hb1:=cond_t hc2 hb1
   refine q_cond_t hF rfl hc2 (q_skipc (n_sq (q_seq (q_block (q_seq (q_region ?_))))))
   obtain ⟨e_3,he_3,hb1⟩:=bindS hb1
   obtain ⟨vs4,at4,d4⟩:=h1.at he_3 1 rfl
   obtain rfl : vs4 = [(iV e_3)]:=d4
   refine q_x (v:=(elP s1 (t_2.toNat * 1))) hF hS (ex_indexAddr Tryz.underlying24 sz3 rfl rfl (h1.idx he_3)) rfl rfl fun a hF=>q_x (v:=(iV e_3)) hF hS (ex_loadE1 0 Tryz.underlying3 rfl rfl ((at4).at) rfl rfl) rfl rfl fun a hF=>q_x (v:=(iV e_3)) hF hS (ex_assign rfl) rfl rfl fun a hF=>q_end (n_sq (q_seq (q_region (q_x (v:=(iV e_3)) hF hS (ex_move rfl) rfl rfl fun a hF=>q_x (v:=(iV p_lo)) hF hS (ex_move rfl) rfl rfl fun a hF=>q_x (v:=(iV p_hi)) hF hS (ex_move rfl) rfl rfl fun a hF=>?_))))
   obtain ⟨t_5,ht_5,hb1⟩:=bindS hb1
   refine q_call (vs:=[(iV e_3),(iV p_lo),(iV p_hi)]) hF hS Tryz.func56 (by kernel_rfl) rfl rfl rfl (c_spec_l1In e_3 p_lo p_hi t_5 ht_5 _ m hS.vis) ?_
   rintro a w _ rfl hF hS
   refine q_x (v:=(.bool (!t_5))) hF hS (ex_not rfl) rfl rfl fun a hF=>q_end (n_sq ?_)
   rcases bcase (!t_5) with hc3 | hc3
   ·have hb1:=cond_f hc3 hb1
    refine q_cond_f hF rfl hc3 (q_skipc (n_ib (n_sq (q_region (q_x (v:=(iV (w64 (t_2 + 1)))) hF hS (ex_ibin rfl rfl rfl) rfl rfl fun a hF=>q_x (v:=(iV (w64 (t_2 + 1)))) hF hS (ex_move rfl) rfl rfl fun a hF=>q_end ?_)))))
    obtain rfl:=someI hb1
    exact ⟨rfl,hF.sub ⟨rfl,rfl,rfl,rfl,rfl,trivial⟩,hS⟩
   ·have hb1:=cond_t hc3 hb1
    refine q_cond_t hF rfl hc3 (q_seq (q_region (q_x (v:=(.bool false)) hF hS (ex_assign rfl) rfl rfl fun a hF=>q_end (n_sq (q_ret (r_ib (r_sq ?_)))))))
    obtain rfl:=someI hb1
    refine ⟨nofun,.inr fun ho=>?_⟩
    subst ho
    refine r_ib (r_sq ?_)
    obtain rfl:=someI hr
    exact ret_of hF hS rfl (.tmp rfl .nil) rfl
 ·rintro e a w ⟨rfl,rfl,hF,hS⟩
  refine x_ib (n_sq ?_)
  refine q_seq (q_region (q_x (v:=(.bool true)) hF hS (ex_assign rfl) rfl rfl fun a hF=>q_end (n_sq (q_ret ?_))))
  obtain rfl:=someI hr
  exact ret_of hF hS rfl (.tmp rfl .nil) rfl

theorem c_spec_nCells (p_g : impl_Geo) (p_s : List impl_Variable) (p_t : impl_Table) (p_cells : List Int) (r : Bool) (hr : spec_nCells p_g p_s p_t p_cells = some r) (w0 : World) (m : Mem) (hv : Vis m w0) (s1 : Sl) (h1 : Rd m s1 p_g.Parents) (s2 : Sl) (h2 : Rd m s2 p_s) (s3 : Sl) (h3 : Rd m s3 p_t.Vars) (s4 : Sl) (h4 : Rd m s4 p_t.Where) (s5 : Sl) (h5 : Rd m s5 p_cells) :
  Ret Tryz.prog 37 [(.agg #[s1.v]),s2.v,(.agg #[(iV p_t.Level),s3.v,s4.v,(iV p_t.Sum)]),s5.v] w0 (fun v _=>v = (.bool r)):=by
 unfold spec_nCells at hr
 refine ret_start Tryz.func37 rfl 26 rfl rfl m hv fun a hF hS=>q_seq (q_region (q_box (cs:=[s1.v]) hF hS rfl rfl rfl fun a w b6 hF hS=>q_box (cs:=[(iV p_t.Level),s3.v,s4.v,(iV p_t.Sum)]) hF hS rfl rfl rfl fun a w b7 hF hS=>q_x (v:=(.bool false)) hF hS (ex_assign rfl) rfl rfl fun a hF=>q_end (n_sq (q_seq ?_))))
 obtain ⟨t_11,hj1,hr⟩:=bindS hr
 refine q_join (fun a w=>Fr a 26 [(8,(.bool t_11))]∧St [] w0 w m []) ?_ ?_
 ·refine q_region (q_x (v:=(.agg #[s1.v])) hF hS (ex_loadA (vs:=[s1.v]) 1 0 Tryz.underlying26 rfl sz26 rfl rfl rfl rfl) rfl rfl fun a hF=>q_x (v:=s2.v) hF hS (ex_move rfl) rfl rfl fun a hF=>q_x (v:=(.agg #[(iV p_t.Level),s3.v,s4.v,(iV p_t.Sum)])) hF hS (ex_loadA (vs:=[(iV p_t.Level),s3.v,s4.v,(iV p_t.Sum)]) 0 0 Tryz.underlying29 rfl sz29 rfl rfl rfl rfl) rfl rfl fun a hF=>?_)
  obtain ⟨t_8,ht_8,hj1⟩:=bindS hj1
  refine q_call (vs:=[(.agg #[s1.v]),s2.v,(.agg #[(iV p_t.Level),s3.v,s4.v,(iV p_t.Sum)])]) hF hS Tryz.func23 (by kernel_rfl) rfl rfl rfl (c_spec_uGood p_g p_s p_t t_8 ht_8 _ m hS.vis s1 h1 s2 h2 s3 h3 s4 h4) ?_
  rintro a w _ rfl hF hS
  refine q_x (v:=(.bool t_8)) hF hS (ex_move rfl) rfl rfl fun a hF=>?_
  rcases bcase (t_8) with hc2 | hc2
  ·have hj1:=cond_f hc2 hj1
   refine q_skip hF (wanted_f hF rfl rfl rfl hc2 rfl) rfl fun a hF=>q_skip hF (wanted_f hF rfl rfl rfl hc2 rfl) rfl fun a hF=>q_skip hF (wanted_f hF rfl rfl rfl hc2 rfl) rfl fun a hF=>q_skip hF (wanted_f hF rfl rfl rfl hc2 rfl) rfl fun a hF=>q_skip hF (wanted_f hF rfl rfl rfl hc2 rfl) rfl fun a hF=>q_skip hF (wanted_f hF rfl rfl rfl hc2 rfl) rfl fun a hF=>q_skip hF (wanted_f hF rfl rfl rfl hc2 rfl) rfl fun a hF=>q_x (v:=(.bool false)) hF hS (ex_pick_f rfl rfl hc2) rfl rfl fun a hF=>q_x (v:=(.bool false)) hF hS (ex_move rfl) rfl rfl fun a hF=>q_skip hF (wanted_f hF rfl rfl rfl rfl rfl) rfl fun a hF=>q_skip hF (wanted_f hF rfl rfl rfl rfl rfl) rfl fun a hF=>q_x (v:=(.bool false)) hF hS (ex_pick_f rfl rfl rfl) rfl rfl fun a hF=>q_x (v:=(.bool false)) hF hS (ex_assign rfl) rfl rfl fun a hF=>q_end (n_jn ?_)
   obtain rfl:=someI hj1
   exact ⟨hF.sub ⟨rfl,trivial⟩,hS.mask [false,false]⟩
  ·have hj1:=cond_t hc2 hj1
   refine q_xg (v:=s5.v) hF hS (ex_move rfl) (wanted_t hF rfl rfl rfl hc2) rfl fun a hF=>q_xg (v:=(iV (goLen p_cells))) hF hS (ex_len Tryz.underlying24 rfl h5.len) (wanted_t hF rfl rfl rfl hc2) rfl fun a hF=>q_xg (v:=(.agg #[s1.v])) hF hS (ex_loadA (vs:=[s1.v]) 1 0 Tryz.underlying26 rfl sz26 rfl rfl rfl rfl) (wanted_t hF rfl rfl rfl hc2) rfl fun a hF=>q_xg (v:=s2.v) hF hS (ex_move rfl) (wanted_t hF rfl rfl rfl hc2) rfl fun a hF=>q_xg (v:=(.agg #[(iV p_t.Level),s3.v,s4.v,(iV p_t.Sum)])) hF hS (ex_loadA (vs:=[(iV p_t.Level),s3.v,s4.v,(iV p_t.Sum)]) 0 0 Tryz.underlying29 rfl sz29 rfl rfl rfl rfl) (wanted_t hF rfl rfl rfl hc2) rfl fun a hF=>?_
   obtain ⟨t_9,ht_9,hj1⟩:=bindS hj1
   refine q_callg (vs:=[(.agg #[s1.v]),s2.v,(.agg #[(iV p_t.Level),s3.v,s4.v,(iV p_t.Sum)])]) hF hS (wanted_t hF rfl rfl rfl hc2) Tryz.func38 (by kernel_rfl) rfl rfl rfl (c_spec_uCount p_g p_s p_t t_9 ht_9 _ m hS.vis s1 h1 s2 h2 s3 h3 s4 h4) ?_
   rintro a w _ rfl hF hS
   refine q_xg (v:=(.bool ((goLen p_cells) == t_9))) hF hS (ex_ibin rfl rfl rfl) (wanted_t hF rfl rfl rfl hc2) rfl fun a hF=>q_x (v:=(.bool ((goLen p_cells) == t_9))) hF hS (ex_pick_t rfl rfl hc2) rfl rfl fun a hF=>q_x (v:=(.bool ((goLen p_cells) == t_9))) hF hS (ex_move rfl) rfl rfl fun a hF=>?_
   rcases bcase ((goLen p_cells) == t_9) with hc3 | hc3
   ·have hj1:=cond_f hc3 hj1
    refine q_skip hF (wanted_f hF rfl rfl rfl hc3 rfl) rfl fun a hF=>q_skip hF (wanted_f hF rfl rfl rfl hc3 rfl) rfl fun a hF=>q_x (v:=(.bool false)) hF hS (ex_pick_f rfl rfl hc3) rfl rfl fun a hF=>q_x (v:=(.bool false)) hF hS (ex_assign rfl) rfl rfl fun a hF=>q_end (n_jn ?_)
    obtain rfl:=someI hj1
    exact ⟨hF.sub ⟨rfl,trivial⟩,hS.mask [false,false]⟩
   ·have hj1:=cond_t hc3 hj1
    refine q_xg (v:=s5.v) hF hS (ex_move rfl) (wanted_t hF rfl rfl rfl hc3) rfl fun a hF=>?_
    obtain ⟨t_10,ht_10,hj1⟩:=bindS hj1
    refine q_callg (vs:=[s5.v,(iV (-1000000)),(iV 1000000)]) hF hS (wanted_t hF rfl rfl rfl hc3) Tryz.func83 (by kernel_rfl) rfl rfl rfl (c_spec_l1All p_cells (-1000000) 1000000 t_10 ht_10 _ m hS.vis s5 h5) ?_
    rintro a w _ rfl hF hS
    refine q_x (v:=(.bool t_10)) hF hS (ex_pick_t rfl rfl hc3) rfl rfl fun a hF=>q_x (v:=(.bool t_10)) hF hS (ex_assign rfl) rfl rfl fun a hF=>q_end (n_jn ?_)
    obtain rfl:=someI hj1
    exact ⟨hF.sub ⟨rfl,trivial⟩,hS.mask [false,false]⟩
 ·rintro a w ⟨hF,hS⟩
  refine n_sq (q_ret ?_)
  obtain rfl:=someI hr
  exact ret_of hF hS rfl (.tmp rfl .nil) rfl

theorem c_spec_sAt (p_s : List impl_Variable) (p_i : Int) (r : (List Int)) (hr : spec_sAt p_s p_i = some r) (w0 : World) (m : Mem) (hv : Vis m w0) (s1 : Sl) (h1 : Rd m s1 p_s) :
  Ret Tryz.prog 85 [s1.v,(iV p_i)] w0 (fun v w=>∃ (q0' : Piece) (s0' : Sl),v = s0'.v∧St [] w0 w m [q0']∧OwnL m 3 q0' s0' r):=by
 unfold spec_sAt at hr
 refine ret_start Tryz.func85 rfl 35 rfl rfl m hv fun a hF hS=>q_seq (q_region (q_x (v:=nilS.v) hF hS (ex_assign rfl) rfl rfl fun a hF=>q_end (n_sq (q_seq (q_region (q_x (v:=s1.v) hF hS (ex_move rfl) rfl rfl fun a hF=>q_x (v:=(iV (goLen p_s))) hF hS (ex_len Tryz.underlying27 rfl h1.len) rfl rfl fun a hF=>?_))))))
 obtain ⟨l_2,hl_2,hr⟩:=bindS hr
 refine q_do rfl fun _ hK=>wp_make (z:=(0 : Int)) hF hS Tryz.underlying24 inf3 rfl rfl rfl rfl rfl (by decide) hl_2 rfl fun a w q3 s3 hF hS h3 _=>hK _ _ (q_x (v:=s3.v) hF hS (ex_assign rfl) rfl rfl fun a hF=>q_end (n_sq (q_seq (q_seq (q_region (q_x (v:=s1.v) hF hS (ex_move rfl) rfl rfl fun a hF=>q_x (v:=(iV (goLen p_s))) hF hS (ex_len Tryz.underlying27 rfl h1.len) rfl rfl fun a hF=>q_x (v:=(iV (w64 ((goLen p_s) - 1)))) hF hS (ex_ibin rfl rfl rfl) rfl rfl fun a hF=>q_x (v:=(iV (w64 ((goLen p_s) - 1)))) hF hS (ex_assign rfl) rfl rfl fun a hF=>q_end (n_sq (q_block ?_))))))))
 obtain ⟨out_17,hl1,hr⟩:=bindS hr
 refine q_loop (fun (s : Int × (List Int) × Int) a w=>∃ (q6 : Piece),∃ i_4,∃ out_5,∃ k_7,s = (i_4,out_5,k_7)∧Fr a 35 [(0,s1.v),(1,(iV i_4)),(5,s3.v),(6,(iV k_7))]∧St [] w0 w m [q6]∧OwnL m 3 q6 s3 out_5) (fun (out_17 : (List Int)) e a w=>∃ (q18 : Piece),e = .exit 0∧Fr a 35 [(5,s3.v)]∧St [] w0 w m [q18]∧OwnL m 3 q18 s3 out_17) hl1 ⟨q3,_,_,_,rfl,hF.sub ⟨rfl,rfl,rfl,rfl,trivial⟩,hS,h3⟩ ?_ ?_
 ·clear hF hS
  rintro s a w st ⟨q6,i_4,out_5,k_7,rfl,hF,hS,h6⟩ hb1
  unfold spec_sAt_l1 at hb1
  refine q_seq (q_seq (q_region (q_x (v:=(iV k_7)) hF hS (ex_move rfl) rfl rfl fun a hF=>q_x (v:=(.bool (decide (0 ≤ k_7)))) hF hS (ex_ibin rfl rfl rfl) rfl rfl fun a hF=>q_end (n_sq ?_))))
  rcases bcase (decide (0 ≤ k_7)) with hc2 | hc2
  ·have hb1:=cond_f hc2 hb1
   refine q_cond_f hF rfl hc2 (q_exit (x_sq ?_))
   obtain rfl:=someI hb1
   exact ⟨nofun,.inl ⟨q6,rfl,hF.sub ⟨rfl,trivial⟩,hS,h6⟩⟩
  ·have hb1:=cond_t hc2 hb1
   refine q_cond_t hF rfl hc2 (q_skipc (n_sq (q_seq (q_block (q_seq (q_region (q_x (v:=s3.v) hF hS (ex_move rfl) rfl rfl fun a hF=>q_x (v:=(iV k_7)) hF hS (ex_move rfl) rfl rfl fun a hF=>q_x (v:=(iV i_4)) hF hS (ex_move rfl) rfl rfl fun a hF=>q_x (v:=s1.v) hF hS (ex_move rfl) rfl rfl fun a hF=>q_x (v:=(iV k_7)) hF hS (ex_move rfl) rfl rfl fun a hF=>?_)))))))
   obtain ⟨e_8,he_8,hb1⟩:=bindS hb1
   obtain ⟨vs9,at9,d9⟩:=h1.at he_8 2 rfl
   obtain rfl : vs9 = [(strV e_8.Name),(iV e_8.Levels)]:=d9
   refine q_x (v:=(elP s1 (k_7.toNat * 2))) hF hS (ex_indexAddr Tryz.underlying27 sz88 rfl rfl (h1.idx he_8)) rfl rfl fun a hF=>q_x (v:=(elP s1 (k_7.toNat * 2 + 1))) hF hS (ex_fieldAddrE Tryz.underlying88 rfl sz3 rfl (h1.idx he_8) rfl) rfl rfl fun a hF=>q_x (v:=(iV e_8.Levels)) hF hS (ex_loadE1 1 Tryz.underlying3 rfl rfl ((at9).at) rfl rfl) rfl rfl fun a hF=>?_
   obtain ⟨t_10,ht_10,hb1⟩:=bindS hb1
   refine q_x (v:=(iV t_10)) hF hS (ex_rem rfl rfl ht_10) rfl rfl fun a hF=>?_
   obtain ⟨e_11,he_11,hb1⟩:=bindS hb1
   obtain ⟨vs12,at12,d12⟩:=h6.at he_11 1 rfl
   obtain rfl : vs12 = [(iV e_11)]:=d12
   refine q_x (v:=(elP s3 (k_7.toNat * 1))) hF hS (ex_indexAddr Tryz.underlying24 sz3 rfl rfl (h6.idx he_11)) rfl rfl fun a hF=>q_do rfl fun _ hK=>wp_storeE (e':=t_10) (us:=[(iV t_10)]) (vs:=[(iV e_11)]) 0 hF hS h6 sz3 rfl rfl rfl rfl rfl rfl rfl he_11 at12 rfl rfl rfl fun w q13 hS h13=>hK _ _ (q_end (n_sq (q_region (q_x (v:=(iV i_4)) hF hS (ex_move rfl) rfl rfl fun a hF=>q_x (v:=s1.v) hF hS (ex_move rfl) rfl rfl fun a hF=>q_x (v:=(iV k_7)) hF hS (ex_move rfl) rfl rfl fun a hF=>?_))))
   obtain ⟨e_14,he_14,hb1⟩:=bindS hb1
   obtain ⟨vs15,at15,d15⟩:=h1.at he_14 2 rfl
   obtain rfl : vs15 = [(strV e_14.Name),(iV e_14.Levels)]:=d15
   refine q_x (v:=(elP s1 (k_7.toNat * 2))) hF hS (ex_indexAddr Tryz.underlying27 sz88 rfl rfl (h1.idx he_14)) rfl rfl fun a hF=>q_x (v:=(elP s1 (k_7.toNat * 2 + 1))) hF hS (ex_fieldAddrE Tryz.underlying88 rfl sz3 rfl (h1.idx he_14) rfl) rfl rfl fun a hF=>q_x (v:=(iV e_14.Levels)) hF hS (ex_loadE1 1 Tryz.underlying3 rfl rfl ((at15).at) rfl rfl) rfl rfl fun a hF=>?_
   obtain ⟨t_16,ht_16,hb1⟩:=bindS hb1
   refine q_x (v:=(iV t_16)) hF hS (ex_quo rfl rfl ht_16) rfl rfl fun a hF=>q_x (v:=(iV t_16)) hF hS (ex_assign rfl) rfl rfl fun a hF=>q_end (n_ib (n_sq (q_region (q_x (v:=(iV k_7)) hF hS (ex_move rfl) rfl rfl fun a hF=>q_x (v:=(iV (w64 (k_7 - 1)))) hF hS (ex_ibin rfl rfl rfl) rfl rfl fun a hF=>q_x (v:=(iV (w64 (k_7 - 1)))) hF hS (ex_assign rfl) rfl rfl fun a hF=>q_end ?_))))
   obtain rfl:=someI hb1
   exact ⟨rfl,q13,_,_,_,rfl,hF.sub ⟨rfl,rfl,rfl,rfl,trivial⟩,hS,h13⟩
 ·rintro e a w ⟨q18,rfl,hF,hS,h18⟩
  refine x_ib (n_sq ?_)
  refine q_seq (q_region (q_x (v:=s3.v) hF hS (ex_move rfl) rfl rfl fun a hF=>q_x (v:=s3.v) hF hS (ex_assign rfl) rfl rfl fun a hF=>q_end (n_sq (q_ret ?_))))
  obtain rfl:=someI hr
  exact ret_of hF hS rfl (.tmp rfl .nil) ⟨q18,s3,rfl,hS.sel [0] (by decide),h18⟩

theorem c_spec_CellAt (p_g : impl_Geo) (p_s : List impl_Variable) (p_t : impl_Table) (p_i : Int) (r : Int × (List Int) × Bool) (hr : spec_CellAt p_g p_s p_t p_i = some r) (w0 : World) (m : Mem) (hv : Vis m w0) (s1 : Sl) (h1 : Rd m s1 p_g.Parents) (s2 : Sl) (h2 : Rd m s2 p_s) (s3 : Sl) (h3 : Rd m s3 p_t.Vars) (s4 : Sl) (h4 : Rd m s4 p_t.Where) :
  Ret Tryz.prog 41 [(.agg #[s1.v]),s2.v,(.agg #[(iV p_t.Level),s3.v,s4.v,(iV p_t.Sum)]),(iV p_i)] w0 (fun v w=>∃ (q0' : Piece) (s0' : Sl),v = (.tuple #[(iV r.1),s0'.v,(.bool r.2.2)])∧St [] w0 w m [q0']∧OwnL m 3 q0' s0' r.2.1):=by
 unfold spec_CellAt at hr
 refine ret_start Tryz.func41 rfl 48 rfl rfl m hv fun a hF hS=>q_seq (q_region (q_box (cs:=[s1.v]) hF hS rfl rfl rfl fun a w b5 hF hS=>q_box (cs:=[(iV p_t.Level),s3.v,s4.v,(iV p_t.Sum)]) hF hS rfl rfl rfl fun a w b6 hF hS=>q_x (v:=(iV 0)) hF hS (ex_assign rfl) rfl rfl fun a hF=>q_x (v:=nilS.v) hF hS (ex_assign rfl) rfl rfl fun a hF=>q_x (v:=(.bool false)) hF hS (ex_assign rfl) rfl rfl fun a hF=>q_end (n_sq (q_seq (q_seq ?_)))))
 obtain ⟨t_10,hj1,hr⟩:=bindS hr
 refine q_join (fun a w=>Fr a 48 [(1,s2.v),(3,(iV p_i)),(4,(.pointer (some ⟨b5,0,none⟩))),(6,(.pointer (some ⟨b6,0,none⟩))),(27,(.bool t_10))]∧St [] w0 w m [[⟨b6,[(iV p_t.Level),s3.v,s4.v,(iV p_t.Sum)],29⟩],[⟨b5,[s1.v],26⟩]]) ?_ ?_
 ·refine q_region (q_x (v:=(.agg #[s1.v])) hF hS (ex_loadA (vs:=[s1.v]) 1 0 Tryz.underlying26 rfl sz26 rfl rfl rfl rfl) rfl rfl fun a hF=>q_x (v:=s2.v) hF hS (ex_move rfl) rfl rfl fun a hF=>q_x (v:=(.agg #[(iV p_t.Level),s3.v,s4.v,(iV p_t.Sum)])) hF hS (ex_loadA (vs:=[(iV p_t.Level),s3.v,s4.v,(iV p_t.Sum)]) 0 0 Tryz.underlying29 rfl sz29 rfl rfl rfl rfl) rfl rfl fun a hF=>?_)
  obtain ⟨t_7,ht_7,hj1⟩:=bindS hj1
  refine q_call (vs:=[(.agg #[s1.v]),s2.v,(.agg #[(iV p_t.Level),s3.v,s4.v,(iV p_t.Sum)])]) hF hS Tryz.func23 (by kernel_rfl) rfl rfl rfl (c_spec_uGood p_g p_s p_t t_7 ht_7 _ m hS.vis s1 h1 s2 h2 s3 h3 s4 h4) ?_
  rintro a w _ rfl hF hS
  refine q_x (v:=(.bool (!t_7))) hF hS (ex_not rfl) rfl rfl fun a hF=>q_x (v:=(.bool (!t_7))) hF hS (ex_move rfl) rfl rfl fun a hF=>?_
  rcases bcase (!t_7) with hc2 | hc2
  ·have hj1:=cond_f hc2 hj1
   refine q_xg (v:=(iV p_i)) hF hS (ex_move rfl) (wanted_t hF rfl rfl rfl hc2) rfl fun a hF=>q_xg (v:=(.agg #[s1.v])) hF hS (ex_loadA (vs:=[s1.v]) 1 0 Tryz.underlying26 rfl sz26 rfl rfl rfl rfl) (wanted_t hF rfl rfl rfl hc2) rfl fun a hF=>q_xg (v:=s2.v) hF hS (ex_move rfl) (wanted_t hF rfl rfl rfl hc2) rfl fun a hF=>q_xg (v:=(.agg #[(iV p_t.Level),s3.v,s4.v,(iV p_t.Sum)])) hF hS (ex_loadA (vs:=[(iV p_t.Level),s3.v,s4.v,(iV p_t.Sum)]) 0 0 Tryz.underlying29 rfl sz29 rfl rfl rfl rfl) (wanted_t hF rfl rfl rfl hc2) rfl fun a hF=>?_
   obtain ⟨t_8,ht_8,hj1⟩:=bindS hj1
   refine q_callg (vs:=[(.agg #[s1.v]),s2.v,(.agg #[(iV p_t.Level),s3.v,s4.v,(iV p_t.Sum)])]) hF hS (wanted_t hF rfl rfl rfl hc2) Tryz.func38 (by kernel_rfl) rfl rfl rfl (c_spec_uCount p_g p_s p_t t_8 ht_8 _ m hS.vis s1 h1 s2 h2 s3 h3 s4 h4) ?_
   rintro a w _ rfl hF hS
   refine q_xg (v:=(iV (w64 (t_8 - 1)))) hF hS (ex_ibin rfl rfl rfl) (wanted_t hF rfl rfl rfl hc2) rfl fun a hF=>?_
   obtain ⟨t_9,ht_9,hj1⟩:=bindS hj1
   refine q_callg (vs:=[(iV p_i),(iV 0),(iV (w64 (t_8 - 1)))]) hF hS (wanted_t hF rfl rfl rfl hc2) Tryz.func56 (by kernel_rfl) rfl rfl rfl (c_spec_l1In p_i 0 (w64 (t_8 - 1)) t_9 ht_9 _ m hS.vis) ?_
   rintro a w _ rfl hF hS
   refine q_xg (v:=(.bool (!t_9))) hF hS (ex_not rfl) (wanted_t hF rfl rfl rfl hc2) rfl fun a hF=>q_x (v:=(.bool (!t_9))) hF hS (ex_pick_f rfl rfl hc2) rfl rfl fun a hF=>q_end (n_jn ?_)
   obtain rfl:=someI hj1
   exact ⟨hF.sub ⟨rfl,rfl,rfl,rfl,rfl,trivial⟩,hS⟩
  ·have hj1:=cond_t hc2 hj1
   refine q_skip hF (wanted_f hF rfl rfl rfl hc2 rfl) rfl fun a hF=>q_skip hF (wanted_f hF rfl rfl rfl hc2 rfl) rfl fun a hF=>q_skip hF (wanted_f hF rfl rfl rfl hc2 rfl) rfl fun a hF=>q_skip hF (wanted_f hF rfl rfl rfl hc2 rfl) rfl fun a hF=>q_skip hF (wanted_f hF rfl rfl rfl hc2 rfl) rfl fun a hF=>q_skip hF (wanted_f hF rfl rfl rfl hc2 rfl) rfl fun a hF=>q_skip hF (wanted_f hF rfl rfl rfl hc2 rfl) rfl fun a hF=>q_skip hF (wanted_f hF rfl rfl rfl hc2 rfl) rfl fun a hF=>q_x (v:=(.bool true)) hF hS (ex_pick_t rfl rfl hc2) rfl rfl fun a hF=>q_end (n_jn ?_)
   obtain rfl:=someI hj1
   exact ⟨hF.sub ⟨rfl,rfl,rfl,rfl,rfl,trivial⟩,hS⟩
 ·rintro a w ⟨hF,hS⟩
  refine n_sq ?_
  rcases bcase (t_10) with hc3 | hc3
  ·have hr:=cond_f hc3 hr
   refine q_cond_f hF rfl hc3 (q_skipc (n_sq (q_seq (q_region (q_x (v:=s2.v) hF hS (ex_move rfl) rfl rfl fun a hF=>q_x (v:=(.pointer (some ⟨b6,1,none⟩))) hF hS (ex_fieldAddr Tryz.underlying29 rfl sz24 rfl rfl) rfl rfl fun a hF=>q_x (v:=s3.v) hF hS (ex_load1 0 0 Tryz.underlying24 rfl rfl rfl rfl) rfl rfl fun a hF=>?_)))))
   obtain ⟨t_11,ht_11,hr⟩:=bindS hr
   refine q_call (vs:=[s2.v,s3.v]) hF hS Tryz.func40 (by kernel_rfl) rfl rfl rfl (c_spec_sPart p_s p_t.Vars t_11 ht_11 _ m hS.vis s2 h2 s3 h3) ?_
   rintro a w _ ⟨q13,s13,rfl,hR12,h13⟩ hF hS2
   have hS : St _ _ _ _ [q13,[⟨b6,[(iV p_t.Level),s3.v,s4.v,(iV p_t.Sum)],29⟩],[⟨b5,[s1.v],26⟩]]:=hS.joinF hR12
   refine q_x (v:=s13.v) hF hS (ex_assign rfl) rfl rfl fun a hF=>q_end (n_sq (q_seq (q_region (q_x (v:=s13.v) hF hS (ex_move rfl) rfl rfl fun a hF=>?_))))
   obtain ⟨m15,hl15,hv15,hz15⟩:=hS.lend
   obtain ⟨t_14,ht_14,hr⟩:=bindS hr
   refine q_call (vs:=[s13.v]) hF hS Tryz.func45 (by kernel_rfl) rfl rfl rfl (c_spec_sCount t_11 t_14 ht_14 _ m15 hv15 s13 (h13.froz hl15 (hz15 0 _ rfl))) ?_
   rintro a w _ rfl hF hS
   refine q_x (v:=(iV t_14)) hF hS (ex_assign rfl) rfl rfl fun a hF=>q_end (n_sq (q_seq (e_region ⟨[],[]⟩ mixed fun w' hw'=>?_)))
   have hS:=hS.below hw'
   refine e_x (v:=(.agg #[s1.v])) 0 hF hS rfl (ex_loadA (vs:=[s1.v]) 2 0 Tryz.underlying26 rfl sz26 rfl rfl rfl rfl) rfl rfl (by kernel_rfl) (by kernel_rfl) (by kernel_rfl) (by kernel_rfl) fun a hF=>e_p (v:=(.pointer (some ⟨b6,0,none⟩))) 1 hF rfl (ex_fieldAddr Tryz.underlying29 rfl sz3 rfl rfl) rfl rfl (by kernel_rfl) (by kernel_rfl) (by kernel_rfl) fun a hF=>e_x (v:=(iV p_t.Level)) 2 hF hS rfl (ex_load1 1 0 Tryz.underlying3 rfl rfl rfl rfl) rfl rfl (by kernel_rfl) (by kernel_rfl) (by kernel_rfl) (by kernel_rfl) fun a hF=>e_p (v:=(iV p_i)) 4 hF rfl (ex_move rfl) rfl rfl (by kernel_rfl) (by kernel_rfl) (by kernel_rfl) fun a hF=>e_p (v:=(iV t_14)) 5 hF rfl (ex_move rfl) rfl rfl (by kernel_rfl) (by kernel_rfl) (by kernel_rfl) fun a hF=>?_
   obtain ⟨t_25,ht_25,hr⟩:=bindS hr
   refine e_p (v:=(iV t_25)) 6 hF rfl (ex_quo rfl rfl ht_25) rfl rfl (by kernel_rfl) (by kernel_rfl) (by kernel_rfl) fun a hF=>e_p (v:=s13.v) 9 hF rfl (ex_move rfl) rfl rfl (by kernel_rfl) (by kernel_rfl) (by kernel_rfl) fun a hF=>e_p (v:=(iV p_i)) 10 hF rfl (ex_move rfl) rfl rfl (by kernel_rfl) (by kernel_rfl) (by kernel_rfl) fun a hF=>e_p (v:=(iV t_14)) 11 hF rfl (ex_move rfl) rfl rfl (by kernel_rfl) (by kernel_rfl) (by kernel_rfl) fun a hF=>?_
   obtain ⟨t_38,ht_38,hr⟩:=bindS hr
   refine e_p (v:=(iV t_38)) 12 hF rfl (ex_rem rfl rfl ht_38) rfl rfl (by kernel_rfl) (by kernel_rfl) (by kernel_rfl) fun a hF=>e_one 3 (by kernel_rfl) ?_
   obtain ⟨t_39,ht_39,hr⟩:=bindS hr
   refine e_call (vs:=[(.agg #[s1.v]),(iV p_t.Level)]) hF hS rfl Tryz.func39 (by kernel_rfl) rfl rfl rfl (c_spec_gLevel p_g p_t.Level t_39 ht_39 _ m hS.vis s1 h1) ?_
   rintro a w _ ⟨q41,s41,rfl,hR40,h41⟩ hF hS2
   have hS : St _ _ _ _ [q41,q13,[⟨b6,[(iV p_t.Level),s3.v,s4.v,(iV p_t.Sum)],29⟩],[⟨b5,[s1.v],26⟩]]:=hS.joinF hR40
   obtain ⟨e_42,he_42,hr⟩:=bindS hr
   obtain ⟨vs43,at43,d43⟩:=h41.at he_42 1 rfl
   obtain rfl : vs43 = [(iV e_42)]:=d43
   refine e_p (v:=(elP s41 (t_25.toNat * 1))) 7 hF rfl (ex_indexAddr Tryz.underlying24 sz3 rfl rfl (h41.idx he_42)) rfl rfl (by kernel_rfl) (by kernel_rfl) (by kernel_rfl) fun a hF=>e_x (v:=(iV e_42)) 8 hF hS rfl (ex_loadE1 0 Tryz.underlying3 rfl rfl (at43.at 0 rfl) rfl rfl) rfl rfl (by kernel_rfl) (by kernel_rfl) (by kernel_rfl) (by kernel_rfl) fun a hF=>e_one 13 (by kernel_rfl) ?_
   obtain ⟨m45,hl45,hv45,hz45⟩:=hS.lend
   obtain ⟨t_44,ht_44,hr⟩:=bindS hr
   refine e_call (vs:=[s13.v,(iV t_38)]) hF hS rfl Tryz.func85 (by kernel_rfl) rfl rfl rfl (c_spec_sAt t_11 t_38 t_44 ht_44 _ m45 hv45 s13 (h13.froz hl45 (hz45 1 _ rfl))) ?_
   rintro a w _ ⟨q47,s47,rfl,hR46,h47⟩ hF hS2
   have hS : St _ _ _ _ [q47,q41,q13,[⟨b6,[(iV p_t.Level),s3.v,s4.v,(iV p_t.Sum)],29⟩],[⟨b5,[s1.v],26⟩]]:=hS.joinF hR46
   have h47:=h47.any m
   refine e_p (v:=(iV e_42)) 14 hF rfl (ex_assign rfl) rfl rfl (by kernel_rfl) (by kernel_rfl) (by kernel_rfl) fun a hF=>e_p (v:=s47.v) 15 hF rfl (ex_assign rfl) rfl rfl (by kernel_rfl) (by kernel_rfl) (by kernel_rfl) fun a hF=>e_p (v:=(.bool true)) 16 hF rfl (ex_assign rfl) rfl rfl (by kernel_rfl) (by kernel_rfl) (by kernel_rfl) fun a hF=>e_end (by kernel_rfl) (n_sq (q_ret ?_)) _
   obtain rfl:=someI hr
   exact ret_of hF hS rfl (.tmp rfl (.tmp rfl (.tmp rfl .nil))) ⟨q47,s47,rfl,hS.sel [0] (by decide),h47⟩
  ·have hr:=cond_t hc3 hr
   refine q_cond_t hF rfl hc3 (q_seq (q_region (q_x (v:=(iV 0)) hF hS (ex_assign rfl) rfl rfl fun a hF=>q_x (v:=nilS.v) hF hS (ex_assign rfl) rfl rfl fun a hF=>q_x (v:=(.bool false)) hF hS (ex_assign rfl) rfl rfl fun a hF=>q_end (n_sq (q_ret (r_sq ?_))))))
   obtain rfl:=someI hr
   exact ret_of hF hS rfl (.tmp rfl (.tmp rfl (.tmp rfl .nil))) ⟨[],nilS,rfl,hS.sel [2] (by decide),(OwnL.nil (α:=Int) m 3)⟩

theorem c_spec_DeriveCells (p_g : impl_Geo) (p_s : List impl_Variable) (p_t : impl_Table) (p_u : impl_Table) (p_cells : List Int) (r : (List Int) × Bool) (hr : spec_DeriveCells p_g p_s p_t p_u p_cells = some r) (w0 : World) (m : Mem) (hv : Vis m w0) (s1 : Sl) (h1 : Rd m s1 p_g.Parents) (s2 : Sl) (h2 : Rd m s2 p_s) (s3 : Sl) (h3 : Rd m s3 p_t.Vars) (s4 : Sl) (h4 : Rd m s4 p_t.Where) (s5 : Sl) (h5 : Rd m s5 p_u.Vars) (s6 : Sl) (h6 : Rd m s6 p_u.Where) (s7 : Sl) (h7 : Rd m s7 p_cells) :
  Ret Tryz.prog 15 [(.agg #[s1.v]),s2.v,(.agg #[(iV p_t.Level),s3.v,s4.v,(iV p_t.Sum)]),(.agg #[(iV p_u.Level),s5.v,s6.v,(iV p_u.Sum)]),s7.v] w0 (fun v w=>∃ (q0' : Piece) (s0' : Sl),v = (.tuple #[s0'.v,(.bool r.2)])∧St [] w0 w m [q0']∧OwnL m 3 q0' s0' r.1):=by
 unfold spec_DeriveCells at hr
 refine ret_start Tryz.func15 rfl 147 rfl rfl m hv fun a hF hS=>q_seq (q_region (q_box (cs:=[s1.v]) hF hS rfl rfl rfl fun a w b8 hF hS=>q_box (cs:=[(iV p_t.Level),s3.v,s4.v,(iV p_t.Sum)]) hF hS rfl rfl rfl fun a w b9 hF hS=>q_box (cs:=[(iV p_u.Level),s5.v,s6.v,(iV p_u.Sum)]) hF hS rfl rfl rfl fun a w b10 hF hS=>q_x (v:=nilS.v) hF hS (ex_assign rfl) rfl rfl fun a hF=>q_x (v:=(.bool false)) hF hS (ex_assign rfl) rfl rfl fun a hF=>q_end (n_sq (q_seq (q_seq ?_)))))
 obtain ⟨t_14,hj1,hr⟩:=bindS hr
 refine q_join (fun a w=>Fr a 147 [(1,s2.v),(4,s7.v),(5,(.pointer (some ⟨b8,0,none⟩))),(7,(.pointer (some ⟨b9,0,none⟩))),(8,(.pointer (some ⟨b10,0,none⟩))),(44,(.bool t_14))]∧St [] w0 w m [[⟨b10,[(iV p_u.Level),s5.v,s6.v,(iV p_u.Sum)],29⟩],[⟨b9,[(iV p_t.Level),s3.v,s4.v,(iV p_t.Sum)],29⟩],[⟨b8,[s1.v],26⟩]]) ?_ ?_
 ·refine q_region (q_x (v:=(.agg #[s1.v])) hF hS (ex_loadA (vs:=[s1.v]) 2 0 Tryz.underlying26 rfl sz26 rfl rfl rfl rfl) rfl rfl fun a hF=>q_x (v:=s2.v) hF hS (ex_move rfl) rfl rfl fun a hF=>q_x (v:=(.agg #[(iV p_t.Level),s3.v,s4.v,(iV p_t.Sum)])) hF hS (ex_loadA (vs:=[(iV p_t.Level),s3.v,s4.v,(iV p_t.Sum)]) 1 0 Tryz.underlying29 rfl sz29 rfl rfl rfl rfl) rfl rfl fun a hF=>?_)
  obtain ⟨t_11,ht_11,hj1⟩:=bindS hj1
  refine q_call (vs:=[(.agg #[s1.v]),s2.v,(.agg #[(iV p_t.Level),s3.v,s4.v,(iV p_t.Sum)])]) hF hS Tryz.func23 (by kernel_rfl) rfl rfl rfl (c_spec_uGood p_g p_s p_t t_11 ht_11 _ m hS.vis s1 h1 s2 h2 s3 h3 s4 h4) ?_
  rintro a w _ rfl hF hS
  refine q_x (v:=(.bool (!t_11))) hF hS (ex_not rfl) rfl rfl fun a hF=>q_x (v:=(.bool (!t_11))) hF hS (ex_move rfl) rfl rfl fun a hF=>?_
  rcases bcase (!t_11) with hc2 | hc2
  ·have hj1:=cond_f hc2 hj1
   refine q_xg (v:=(.agg #[s1.v])) hF hS (ex_loadA (vs:=[s1.v]) 2 0 Tryz.underlying26 rfl sz26 rfl rfl rfl rfl) (wanted_t hF rfl rfl rfl hc2) rfl fun a hF=>q_xg (v:=s2.v) hF hS (ex_move rfl) (wanted_t hF rfl rfl rfl hc2) rfl fun a hF=>q_xg (v:=(.agg #[(iV p_u.Level),s5.v,s6.v,(iV p_u.Sum)])) hF hS (ex_loadA (vs:=[(iV p_u.Level),s5.v,s6.v,(iV p_u.Sum)]) 0 0 Tryz.underlying29 rfl sz29 rfl rfl rfl rfl) (wanted_t hF rfl rfl rfl hc2) rfl fun a hF=>q_xg (v:=s7.v) hF hS (ex_move rfl) (wanted_t hF rfl rfl rfl hc2) rfl fun a hF=>?_
   obtain ⟨t_12,ht_12,hj1⟩:=bindS hj1
   refine q_callg (vs:=[(.agg #[s1.v]),s2.v,(.agg #[(iV p_u.Level),s5.v,s6.v,(iV p_u.Sum)]),s7.v]) hF hS (wanted_t hF rfl rfl rfl hc2) Tryz.func37 (by kernel_rfl) rfl rfl rfl (c_spec_nCells p_g p_s p_u p_cells t_12 ht_12 _ m hS.vis s1 h1 s2 h2 s5 h5 s6 h6 s7 h7) ?_
   rintro a w _ rfl hF hS
   refine q_xg (v:=(.bool (!t_12))) hF hS (ex_not rfl) (wanted_t hF rfl rfl rfl hc2) rfl fun a hF=>q_x (v:=(.bool (!t_12))) hF hS (ex_pick_f rfl rfl hc2) rfl rfl fun a hF=>q_x (v:=(.bool (!t_12))) hF hS (ex_move rfl) rfl rfl fun a hF=>?_
   rcases bcase (!t_12) with hc3 | hc3
   ·have hj1:=cond_f hc3 hj1
    refine q_xg (v:=(.agg #[s1.v])) hF hS (ex_loadA (vs:=[s1.v]) 2 0 Tryz.underlying26 rfl sz26 rfl rfl rfl rfl) (wanted_t hF rfl rfl rfl hc3) rfl fun a hF=>q_xg (v:=s2.v) hF hS (ex_move rfl) (wanted_t hF rfl rfl rfl hc3) rfl fun a hF=>q_xg (v:=(.agg #[(iV p_t.Level),s3.v,s4.v,(iV p_t.Sum)])) hF hS (ex_loadA (vs:=[(iV p_t.Level),s3.v,s4.v,(iV p_t.Sum)]) 1 0 Tryz.underlying29 rfl sz29 rfl rfl rfl rfl) (wanted_t hF rfl rfl rfl hc3) rfl fun a hF=>q_xg (v:=(.agg #[(iV p_u.Level),s5.v,s6.v,(iV p_u.Sum)])) hF hS (ex_loadA (vs:=[(iV p_u.Level),s5.v,s6.v,(iV p_u.Sum)]) 0 0 Tryz.underlying29 rfl sz29 rfl rfl rfl rfl) (wanted_t hF rfl rfl rfl hc3) rfl fun a hF=>?_
    obtain ⟨t_13,ht_13,hj1⟩:=bindS hj1
    refine q_callg (vs:=[(.agg #[s1.v]),s2.v,(.agg #[(iV p_t.Level),s3.v,s4.v,(iV p_t.Sum)]),(.agg #[(iV p_u.Level),s5.v,s6.v,(iV p_u.Sum)])]) hF hS (wanted_t hF rfl rfl rfl hc3) Tryz.func24 (by kernel_rfl) rfl rfl rfl (c_spec_lFollows p_g p_s p_t p_u t_13 ht_13 _ m hS.vis s1 h1 s2 h2 s3 h3 s4 h4 s5 h5 s6 h6) ?_
    rintro a w _ rfl hF hS
    refine q_xg (v:=(.bool (!t_13))) hF hS (ex_not rfl) (wanted_t hF rfl rfl rfl hc3) rfl fun a hF=>q_x (v:=(.bool (!t_13))) hF hS (ex_pick_f rfl rfl hc3) rfl rfl fun a hF=>q_end (n_jn ?_)
    obtain rfl:=someI hj1
    exact ⟨hF.sub ⟨rfl,rfl,rfl,rfl,rfl,rfl,trivial⟩,hS⟩
   ·have hj1:=cond_t hc3 hj1
    refine q_skip hF (wanted_f hF rfl rfl rfl hc3 rfl) rfl fun a hF=>q_skip hF (wanted_f hF rfl rfl rfl hc3 rfl) rfl fun a hF=>q_skip hF (wanted_f hF rfl rfl rfl hc3 rfl) rfl fun a hF=>q_skip hF (wanted_f hF rfl rfl rfl hc3 rfl) rfl fun a hF=>q_skip hF (wanted_f hF rfl rfl rfl hc3 rfl) rfl fun a hF=>q_skip hF (wanted_f hF rfl rfl rfl hc3 rfl) rfl fun a hF=>q_x (v:=(.bool true)) hF hS (ex_pick_t rfl rfl hc3) rfl rfl fun a hF=>q_end (n_jn ?_)
    obtain rfl:=someI hj1
    exact ⟨hF.sub ⟨rfl,rfl,rfl,rfl,rfl,rfl,trivial⟩,hS⟩
  ·have hj1:=cond_t hc2 hj1
   refine q_skip hF (wanted_f hF rfl rfl rfl hc2 rfl) rfl fun a hF=>q_skip hF (wanted_f hF rfl rfl rfl hc2 rfl) rfl fun a hF=>q_skip hF (wanted_f hF rfl rfl rfl hc2 rfl) rfl fun a hF=>q_skip hF (wanted_f hF rfl rfl rfl hc2 rfl) rfl fun a hF=>q_skip hF (wanted_f hF rfl rfl rfl hc2 rfl) rfl fun a hF=>q_skip hF (wanted_f hF rfl rfl rfl hc2 rfl) rfl fun a hF=>q_x (v:=(.bool true)) hF hS (ex_pick_t rfl rfl hc2) rfl rfl fun a hF=>q_x (v:=(.bool true)) hF hS (ex_move rfl) rfl rfl fun a hF=>q_skip hF (wanted_f hF rfl rfl rfl rfl rfl) rfl fun a hF=>q_skip hF (wanted_f hF rfl rfl rfl rfl rfl) rfl fun a hF=>q_skip hF (wanted_f hF rfl rfl rfl rfl rfl) rfl fun a hF=>q_skip hF (wanted_f hF rfl rfl rfl rfl rfl) rfl fun a hF=>q_skip hF (wanted_f hF rfl rfl rfl rfl rfl) rfl fun a hF=>q_skip hF (wanted_f hF rfl rfl rfl rfl rfl) rfl fun a hF=>q_x (v:=(.bool true)) hF hS (ex_pick_t rfl rfl rfl) rfl rfl fun a hF=>q_end (n_jn ?_)
   obtain rfl:=someI hj1
   exact ⟨hF.sub ⟨rfl,rfl,rfl,rfl,rfl,rfl,trivial⟩,hS⟩
 ·rintro a w ⟨hF,hS⟩
  refine n_sq ?_
  rcases bcase (t_14) with hc4 | hc4
  ·have hr:=cond_f hc4 hr
   refine q_cond_f hF rfl hc4 (q_skipc (n_sq (q_seq (q_region (q_x (v:=(.agg #[s1.v])) hF hS (ex_loadA (vs:=[s1.v]) 2 0 Tryz.underlying26 rfl sz26 rfl rfl rfl rfl) rfl rfl fun a hF=>q_x (v:=s2.v) hF hS (ex_move rfl) rfl rfl fun a hF=>q_x (v:=(.agg #[(iV p_t.Level),s3.v,s4.v,(iV p_t.Sum)])) hF hS (ex_loadA (vs:=[(iV p_t.Level),s3.v,s4.v,(iV p_t.Sum)]) 1 0 Tryz.underlying29 rfl sz29 rfl rfl rfl rfl) rfl rfl fun a hF=>?_)))))
   obtain ⟨t_15,ht_15,hr⟩:=bindS hr
   refine q_call (vs:=[(.agg #[s1.v]),s2.v,(.agg #[(iV p_t.Level),s3.v,s4.v,(iV p_t.Sum)])]) hF hS Tryz.func38 (by kernel_rfl) rfl rfl rfl (c_spec_uCount p_g p_s p_t t_15 ht_15 _ m hS.vis s1 h1 s2 h2 s3 h3 s4 h4) ?_
   rintro a w _ rfl hF hS
   obtain ⟨l_16,hl_16,hr⟩:=bindS hr
   refine q_do rfl fun _ hK=>wp_make (z:=(0 : Int)) hF hS Tryz.underlying24 inf3 rfl rfl rfl rfl rfl (by decide) hl_16 rfl fun a w q17 s17 hF hS h17 _=>hK _ _ (q_x (v:=s17.v) hF hS (ex_assign rfl) rfl rfl fun a hF=>q_end (n_sq (q_seq (q_region (q_x (v:=(.agg #[s1.v])) hF hS (ex_loadA (vs:=[s1.v]) 3 0 Tryz.underlying26 rfl sz26 rfl rfl rfl rfl) rfl rfl fun a hF=>q_x (v:=(.pointer (some ⟨b9,0,none⟩))) hF hS (ex_fieldAddr Tryz.underlying29 rfl sz3 rfl rfl) rfl rfl fun a hF=>q_x (v:=(iV p_t.Level)) hF hS (ex_load1 2 0 Tryz.underlying3 rfl rfl rfl rfl) rfl rfl fun a hF=>?_)))))
   obtain ⟨t_18,ht_18,hr⟩:=bindS hr
   refine q_call (vs:=[(.agg #[s1.v]),(iV p_t.Level)]) hF hS Tryz.func39 (by kernel_rfl) rfl rfl rfl (c_spec_gLevel p_g p_t.Level t_18 ht_18 _ m hS.vis s1 h1) ?_
   rintro a w _ ⟨q20,s20,rfl,hR19,h20⟩ hF hS2
   have hS : St _ _ _ _ [q20,q17,[⟨b10,[(iV p_u.Level),s5.v,s6.v,(iV p_u.Sum)],29⟩],[⟨b9,[(iV p_t.Level),s3.v,s4.v,(iV p_t.Sum)],29⟩],[⟨b8,[s1.v],26⟩]]:=hS.joinF hR19
   refine q_x (v:=s20.v) hF hS (ex_assign rfl) rfl rfl fun a hF=>q_end (n_sq (q_seq (q_region (q_x (v:=s2.v) hF hS (ex_move rfl) rfl rfl fun a hF=>q_x (v:=(.pointer (some ⟨b9,1,none⟩))) hF hS (ex_fieldAddr Tryz.underlying29 rfl sz24 rfl rfl) rfl rfl fun a hF=>q_x (v:=s3.v) hF hS (ex_load1 3 0 Tryz.underlying24 rfl rfl rfl rfl) rfl rfl fun a hF=>?_))))
   obtain ⟨t_21,ht_21,hr⟩:=bindS hr
   refine q_call (vs:=[s2.v,s3.v]) hF hS Tryz.func40 (by kernel_rfl) rfl rfl rfl (c_spec_sPart p_s p_t.Vars t_21 ht_21 _ m hS.vis s2 h2 s3 h3) ?_
   rintro a w _ ⟨q23,s23,rfl,hR22,h23⟩ hF hS2
   have hS : St _ _ _ _ [q23,q20,q17,[⟨b10,[(iV p_u.Level),s5.v,s6.v,(iV p_u.Sum)],29⟩],[⟨b9,[(iV p_t.Level),s3.v,s4.v,(iV p_t.Sum)],29⟩],[⟨b8,[s1.v],26⟩]]:=hS.joinF hR22
   refine q_x (v:=s23.v) hF hS (ex_assign rfl) rfl rfl fun a hF=>q_end (n_sq (q_seq (q_seq (q_region (q_x (v:=s7.v) hF hS (ex_move rfl) rfl rfl fun a hF=>q_x (v:=(iV (goLen p_cells))) hF hS (ex_len Tryz.underlying24 rfl h7.len) rfl rfl fun a hF=>q_x (v:=(iV 0)) hF hS (ex_move rfl) rfl rfl fun a hF=>q_end (n_sq (q_block ?_)))))))
   obtain ⟨out_85,hl5,hr⟩:=bindS hr
   refine q_loop (fun (s : (List Int) × Int) a w=>∃ (q25 : Piece),∃ out_24,∃ t_26,s = (out_24,t_26)∧Fr a 147 [(1,s2.v),(5,(.pointer (some ⟨b8,0,none⟩))),(7,(.pointer (some ⟨b9,0,none⟩))),(8,(.pointer (some ⟨b10,0,none⟩))),(12,s17.v),(13,s20.v),(14,s23.v),(58,s7.v),(59,(iV (goLen p_cells))),(60,(iV t_26))]∧St [] w0 w m [q25,q23,q20,[⟨b10,[(iV p_u.Level),s5.v,s6.v,(iV p_u.Sum)],29⟩],[⟨b9,[(iV p_t.Level),s3.v,s4.v,(iV p_t.Sum)],29⟩],[⟨b8,[s1.v],26⟩]]∧OwnL m 3 q25 s17 out_24) (fun (out_85 : (List Int)) e a w=>∃ (q86 : Piece),e = .exit 0∧Fr a 147 [(12,s17.v)]∧St [] w0 w m [q86]∧OwnL m 3 q86 s17 out_85) hl5 ⟨q17,_,_,rfl,hF.sub ⟨rfl,rfl,rfl,rfl,rfl,rfl,rfl,rfl,rfl,rfl,trivial⟩,hS.sel [2,0,1,3,4,5] (by decide),h17⟩ ?_ ?_
   ·clear hF hS
    rintro s a w st ⟨q25,out_24,t_26,rfl,hF,hS,h25⟩ hb5
    unfold spec_DeriveCells_l1 at hb5
    refine q_seq (q_region (q_x (v:=(.bool (decide (t_26 < (goLen p_cells))))) hF hS (ex_ibin rfl rfl rfl) rfl rfl fun a hF=>q_end (n_sq (q_seq ?_))))
    rcases bcase (decide (t_26 < (goLen p_cells))) with hc6 | hc6
    ·have hb5:=cond_f hc6 hb5
     refine q_cond_f hF rfl hc6 (q_exit (x_sq ?_))
     obtain rfl:=someI hb5
     exact ⟨nofun,.inl ⟨q25,rfl,hF.sub ⟨rfl,trivial⟩,hS.mask [true,false,false,false,false,false],h25⟩⟩
    ·have hb5:=cond_t hc6 hb5
     refine q_cond_t hF rfl hc6 (q_skipc (n_sq (q_seq ?_)))
     obtain ⟨out_83,hj7,hb5⟩:=bindS hb5
     refine q_join (fun a w=>∃ (q84 : Piece),Fr a 147 [(1,s2.v),(5,(.pointer (some ⟨b8,0,none⟩))),(7,(.pointer (some ⟨b9,0,none⟩))),(8,(.pointer (some ⟨b10,0,none⟩))),(12,s17.v),(13,s20.v),(14,s23.v),(58,s7.v),(59,(iV (goLen p_cells))),(60,(iV t_26))]∧St [] w0 w m [q84,q20,q23,[⟨b10,[(iV p_u.Level),s5.v,s6.v,(iV p_u.Sum)],29⟩],[⟨b9,[(iV p_t.Level),s3.v,s4.v,(iV p_t.Sum)],29⟩],[⟨b8,[s1.v],26⟩]]∧OwnL m 3 q84 s17 out_83) ?_ ?_
     ·refine q_block (q_seq (q_region (q_x (v:=(iV t_26)) hF hS (ex_move rfl) rfl rfl fun a hF=>?_)))
      obtain ⟨e_27,he_27,hj7⟩:=bindS hj7
      obtain ⟨vs28,at28,d28⟩:=h7.at he_27 1 rfl
      obtain rfl : vs28 = [(iV e_27)]:=d28
      refine q_x (v:=(elP s7 (t_26.toNat * 1))) hF hS (ex_indexAddr Tryz.underlying24 sz3 rfl rfl (h7.idx he_27)) rfl rfl fun a hF=>q_x (v:=(iV e_27)) hF hS (ex_loadE1 0 Tryz.underlying3 rfl rfl ((at28).at) rfl rfl) rfl rfl fun a hF=>q_x (v:=(iV t_26)) hF hS (ex_assign rfl) rfl rfl fun a hF=>q_x (v:=(iV e_27)) hF hS (ex_assign rfl) rfl rfl fun a hF=>q_end (n_sq (q_seq (q_region (q_x (v:=(.agg #[s1.v])) hF hS (ex_loadA (vs:=[s1.v]) 5 0 Tryz.underlying26 rfl sz26 rfl rfl rfl rfl) rfl rfl fun a hF=>q_x (v:=s2.v) hF hS (ex_move rfl) rfl rfl fun a hF=>q_x (v:=(.agg #[(iV p_u.Level),s5.v,s6.v,(iV p_u.Sum)])) hF hS (ex_loadA (vs:=[(iV p_u.Level),s5.v,s6.v,(iV p_u.Sum)]) 3 0 Tryz.underlying29 rfl sz29 rfl rfl rfl rfl) rfl rfl fun a hF=>q_x (v:=(iV t_26)) hF hS (ex_move rfl) rfl rfl fun a hF=>?_))))
      obtain ⟨t_29,ht_29,hj7⟩:=bindS hj7
      refine q_call (vs:=[(.agg #[s1.v]),s2.v,(.agg #[(iV p_u.Level),s5.v,s6.v,(iV p_u.Sum)]),(iV t_26)]) hF hS Tryz.func41 (by kernel_rfl) rfl rfl rfl (c_spec_CellAt p_g p_s p_u t_26 t_29 ht_29 _ m hS.vis s1 h1 s2 h2 s5 h5 s6 h6) ?_
      rintro a w _ ⟨q31,s31,rfl,hR30,h31⟩ hF hS2
      have hS : St _ _ _ _ [q31,q25,q23,q20,[⟨b10,[(iV p_u.Level),s5.v,s6.v,(iV p_u.Sum)],29⟩],[⟨b9,[(iV p_t.Level),s3.v,s4.v,(iV p_t.Sum)],29⟩],[⟨b8,[s1.v],26⟩]]:=hS.joinF hR30
      refine q_x (v:=(.tuple #[(iV t_29.1),s31.v,(.bool t_29.2.2)])) hF hS (ex_move rfl) rfl rfl fun a hF=>q_x (v:=(iV t_29.1)) hF hS (ex_extract rfl rfl) rfl rfl fun a hF=>q_x (v:=s31.v) hF hS (ex_extract rfl rfl) rfl rfl fun a hF=>q_x (v:=(.bool t_29.2.2)) hF hS (ex_extract rfl rfl) rfl rfl fun a hF=>q_x (v:=(iV t_29.1)) hF hS (ex_assign rfl) rfl rfl fun a hF=>q_x (v:=s31.v) hF hS (ex_assign rfl) rfl rfl fun a hF=>q_x (v:=(.bool t_29.2.2)) hF hS (ex_assign rfl) rfl rfl fun a hF=>q_end (n_sq (q_seq (q_region (q_x (v:=s2.v) hF hS (ex_move rfl) rfl rfl fun a hF=>q_x (v:=(iV (goLen p_s))) hF hS (ex_len Tryz.underlying27 rfl h2.len) rfl rfl fun a hF=>?_))))
      obtain ⟨l_32,hl_32,hj7⟩:=bindS hj7
      refine q_do rfl fun _ hK=>wp_make (z:=(0 : Int)) hF hS Tryz.underlying24 inf3 rfl rfl rfl rfl rfl (by decide) hl_32 rfl fun a w q33 s33 hF hS h33 _=>hK _ _ (q_x (v:=s33.v) hF hS (ex_assign rfl) rfl rfl fun a hF=>q_end (n_sq (q_seq (q_region (q_x (v:=(.bool true)) hF hS (ex_assign rfl) rfl rfl fun a hF=>q_end (n_sq (q_seq (q_seq (q_region (q_x (v:=(.pointer (some ⟨b10,1,none⟩))) hF hS (ex_fieldAddr Tryz.underlying29 rfl sz24 rfl rfl) rfl rfl fun a hF=>q_x (v:=s5.v) hF hS (ex_load1 5 0 Tryz.underlying24 rfl rfl rfl rfl) rfl rfl fun a hF=>q_x (v:=(iV (goLen p_u.Vars))) hF hS (ex_len Tryz.underlying24 rfl h5.len) rfl rfl fun a hF=>q_x (v:=(iV 0)) hF hS (ex_move rfl) rfl rfl fun a hF=>q_end (n_sq (q_block ?_))))))))))))
      obtain ⟨o8,hl8,hj7⟩:=bindS hj7
      refine q_loop (fun (s : (List Int) × Bool × Int) a w=>∃ (q35 : Piece),∃ all_34,∃ in_36,∃ t_37,s = (all_34,in_36,t_37)∧Fr a 147 [(1,s2.v),(5,(.pointer (some ⟨b8,0,none⟩))),(7,(.pointer (some ⟨b9,0,none⟩))),(8,(.pointer (some ⟨b10,0,none⟩))),(12,s17.v),(13,s20.v),(14,s23.v),(16,(iV e_27)),(17,(iV t_29.1)),(18,s31.v),(20,s33.v),(21,(.bool in_36)),(58,s7.v),(59,(iV (goLen p_cells))),(60,(iV t_26)),(78,s5.v),(79,(iV (goLen p_u.Vars))),(80,(iV t_37))]∧St [] w0 w m [q35,q31,q25,q23,q20,[⟨b10,[(iV p_u.Level),s5.v,s6.v,(iV p_u.Sum)],29⟩],[⟨b9,[(iV p_t.Level),s3.v,s4.v,(iV p_t.Sum)],29⟩],[⟨b8,[s1.v],26⟩]]∧OwnL m 3 q35 s33 all_34) (fun (o : (List Int) × Bool) e a w=>∃ (q56 : Piece),∃ all_55,∃ in_57,o = (all_55,in_57)∧e = .exit 2∧Fr a 147 [(1,s2.v),(5,(.pointer (some ⟨b8,0,none⟩))),(7,(.pointer (some ⟨b9,0,none⟩))),(8,(.pointer (some ⟨b10,0,none⟩))),(12,s17.v),(13,s20.v),(14,s23.v),(16,(iV e_27)),(17,(iV t_29.1)),(20,s33.v),(21,(.bool in_57)),(58,s7.v),(59,(iV (goLen p_cells))),(60,(iV t_26))]∧St [] w0 w m [q25,q20,q23,q56,[⟨b10,[(iV p_u.Level),s5.v,s6.v,(iV p_u.Sum)],29⟩],[⟨b9,[(iV p_t.Level),s3.v,s4.v,(iV p_t.Sum)],29⟩],[⟨b8,[s1.v],26⟩]]∧OwnL m 3 q56 s33 all_55) hl8 ⟨q33,_,_,_,rfl,hF.sub ⟨rfl,rfl,rfl,rfl,rfl,rfl,rfl,rfl,rfl,rfl,rfl,rfl,rfl,rfl,rfl,rfl,rfl,rfl,trivial⟩,hS,h33⟩ ?_ ?_
      ·clear hF hS
       rintro s a w st ⟨q35,all_34,in_36,t_37,rfl,hF,hS,h35⟩ hb8
       unfold spec_DeriveCells_l2 at hb8
       refine q_seq (q_region (q_x (v:=(.bool (decide (t_37 < (goLen p_u.Vars))))) hF hS (ex_ibin rfl rfl rfl) rfl rfl fun a hF=>q_end (n_sq (q_seq ?_))))
       rcases bcase (decide (t_37 < (goLen p_u.Vars))) with hc9 | hc9
       ·have hb8:=cond_f hc9 hb8
        refine q_cond_f hF rfl hc9 (q_exit (x_sq ?_))
        obtain rfl:=someI hb8
        exact ⟨nofun,.inl ⟨q35,_,_,rfl,rfl,hF.sub ⟨rfl,rfl,rfl,rfl,rfl,rfl,rfl,rfl,rfl,rfl,rfl,rfl,rfl,rfl,trivial⟩,hS.sel [2,4,3,0,5,6,7] (by decide),h35⟩⟩
       ·have hb8:=cond_t hc9 hb8
        refine q_cond_t hF rfl hc9 (q_skipc (n_sq (q_seq (q_block (q_seq (q_region (q_x (v:=(iV t_37)) hF hS (ex_move rfl) rfl rfl fun a hF=>?_)))))))
        obtain ⟨e_38,he_38,hb8⟩:=bindS hb8
        obtain ⟨vs39,at39,d39⟩:=h5.at he_38 1 rfl
        obtain rfl : vs39 = [(iV e_38)]:=d39
        refine q_x (v:=(elP s5 (t_37.toNat * 1))) hF hS (ex_indexAddr Tryz.underlying24 sz3 rfl rfl (h5.idx he_38)) rfl rfl fun a hF=>q_x (v:=(iV e_38)) hF hS (ex_loadE1 0 Tryz.underlying3 rfl rfl ((at39).at) rfl rfl) rfl rfl fun a hF=>q_x (v:=(iV t_37)) hF hS (ex_assign rfl) rfl rfl fun a hF=>q_x (v:=(iV e_38)) hF hS (ex_assign rfl) rfl rfl fun a hF=>q_end (n_sq (q_seq (q_region (q_x (v:=s33.v) hF hS (ex_move rfl) rfl rfl fun a hF=>q_x (v:=(iV e_38)) hF hS (ex_move rfl) rfl rfl fun a hF=>q_x (v:=s31.v) hF hS (ex_move rfl) rfl rfl fun a hF=>q_x (v:=(iV t_37)) hF hS (ex_move rfl) rfl rfl fun a hF=>?_))))
        obtain ⟨e_40,he_40,hb8⟩:=bindS hb8
        obtain ⟨vs41,at41,d41⟩:=h31.at he_40 1 rfl
        obtain rfl : vs41 = [(iV e_40)]:=d41
        refine q_x (v:=(elP s31 (t_37.toNat * 1))) hF hS (ex_indexAddr Tryz.underlying24 sz3 rfl rfl (h31.idx he_40)) rfl rfl fun a hF=>q_x (v:=(iV e_40)) hF hS (ex_loadE1 0 Tryz.underlying3 rfl rfl (at41.at 1 rfl) rfl rfl) rfl rfl fun a hF=>?_
        obtain ⟨e_42,he_42,hb8⟩:=bindS hb8
        obtain ⟨vs43,at43,d43⟩:=h35.at he_42 1 rfl
        obtain rfl : vs43 = [(iV e_42)]:=d43
        refine q_x (v:=(elP s33 (e_38.toNat * 1))) hF hS (ex_indexAddr Tryz.underlying24 sz3 rfl rfl (h35.idx he_42)) rfl rfl fun a hF=>q_do rfl fun _ hK=>wp_storeE (e':=e_40) (us:=[(iV e_40)]) (vs:=[(iV e_42)]) 0 hF hS h35 sz3 rfl rfl rfl rfl rfl rfl rfl he_42 at43 rfl rfl rfl fun w q44 hS h44=>hK _ _ (q_end (n_sq ?_))
        obtain ⟨in_54,hj10,hb8⟩:=bindS hb8
        refine q_join (fun a w=>Fr a 147 [(1,s2.v),(5,(.pointer (some ⟨b8,0,none⟩))),(7,(.pointer (some ⟨b9,0,none⟩))),(8,(.pointer (some ⟨b10,0,none⟩))),(12,s17.v),(13,s20.v),(14,s23.v),(16,(iV e_27)),(17,(iV t_29.1)),(18,s31.v),(20,s33.v),(21,(.bool in_54)),(58,s7.v),(59,(iV (goLen p_cells))),(60,(iV t_26)),(78,s5.v),(79,(iV (goLen p_u.Vars))),(80,(iV t_37))]∧St [] w0 w m [q25,q20,q23,q31,q44,[⟨b10,[(iV p_u.Level),s5.v,s6.v,(iV p_u.Sum)],29⟩],[⟨b9,[(iV p_t.Level),s3.v,s4.v,(iV p_t.Sum)],29⟩],[⟨b8,[s1.v],26⟩]]) ?_ ?_
        ·refine e_region ⟨[],[]⟩ mixed fun w' hw'=>?_
         have hS:=hS.below hw'
         refine e_p (v:=(.bool in_36)) 0 hF rfl (ex_move rfl) rfl rfl (by kernel_rfl) (by kernel_rfl) (by kernel_rfl) fun a hF=>e_p (v:=(.bool in_36)) 1 hF rfl (ex_move rfl) rfl rfl (by kernel_rfl) (by kernel_rfl) (by kernel_rfl) fun a hF=>?_
         rcases bcase (in_36) with hc11 | hc11
         ·have hj10:=cond_f hc11 hj10
          refine e_skipP 2 hF rfl (wanted_f hF rfl rfl rfl hc11 rfl) rfl (by kernel_rfl) (by kernel_rfl) (by kernel_rfl) fun a hF=>e_skipP 3 hF rfl (wanted_f hF rfl rfl rfl hc11 rfl) rfl (by kernel_rfl) (by kernel_rfl) (by kernel_rfl) fun a hF=>e_skipP 4 hF rfl (wanted_f hF rfl rfl rfl hc11 rfl) rfl (by kernel_rfl) (by kernel_rfl) (by kernel_rfl) fun a hF=>e_skipP 5 hF rfl (wanted_f hF rfl rfl rfl hc11 rfl) rfl (by kernel_rfl) (by kernel_rfl) (by kernel_rfl) fun a hF=>e_skipP 6 hF rfl (wanted_f hF rfl rfl rfl hc11 rfl) rfl (by kernel_rfl) (by kernel_rfl) (by kernel_rfl) fun a hF=>e_skipP 7 hF rfl (wanted_f hF rfl rfl rfl hc11 rfl) rfl (by kernel_rfl) (by kernel_rfl) (by kernel_rfl) fun a hF=>e_skipP 8 hF rfl (wanted_f hF rfl rfl rfl hc11 rfl) rfl (by kernel_rfl) (by kernel_rfl) (by kernel_rfl) fun a hF=>e_skipP 9 hF rfl (wanted_f hF rfl rfl rfl hc11 rfl) rfl (by kernel_rfl) (by kernel_rfl) (by kernel_rfl) fun a hF=>e_skipP 10 hF rfl (wanted_f hF rfl rfl rfl hc11 rfl) rfl (by kernel_rfl) (by kernel_rfl) (by kernel_rfl) fun a hF=>e_skipP 11 hF rfl (wanted_f hF rfl rfl rfl hc11 rfl) rfl (by kernel_rfl) (by kernel_rfl) (by kernel_rfl) fun a hF=>e_skipP 12 hF rfl (wanted_f hF rfl rfl rfl hc11 rfl) rfl (by kernel_rfl) (by kernel_rfl) (by kernel_rfl) fun a hF=>e_skipP 13 hF rfl (wanted_f hF rfl rfl rfl hc11 rfl) rfl (by kernel_rfl) (by kernel_rfl) (by kernel_rfl) fun a hF=>e_p (v:=(.bool false)) 14 hF rfl (ex_pick_f rfl rfl hc11) rfl rfl (by kernel_rfl) (by kernel_rfl) (by kernel_rfl) fun a hF=>e_p (v:=(.bool false)) 15 hF rfl (ex_assign rfl) rfl rfl (by kernel_rfl) (by kernel_rfl) (by kernel_rfl) fun a hF=>e_end (by kernel_rfl) (n_jn ?_) _
          obtain rfl:=someI hj10
          exact ⟨hF.sub ⟨rfl,rfl,rfl,rfl,rfl,rfl,rfl,rfl,rfl,rfl,rfl,rfl,rfl,rfl,rfl,rfl,rfl,rfl,trivial⟩,hS.sel [2,4,3,1,0,5,6,7] (by decide)⟩
         ·have hj10:=cond_t hc11 hj10
          refine e_pg (v:=s2.v) 2 hF rfl (ex_move rfl) (wanted_t hF rfl rfl rfl hc11) rfl (by kernel_rfl) (by kernel_rfl) (by kernel_rfl) fun a hF=>e_xg (v:=(.agg #[(iV p_t.Level),s3.v,s4.v,(iV p_t.Sum)])) 3 hF hS rfl (ex_loadA (vs:=[(iV p_t.Level),s3.v,s4.v,(iV p_t.Sum)]) 6 0 Tryz.underlying29 rfl sz29 rfl rfl rfl rfl) (wanted_t hF rfl rfl rfl hc11) rfl (by kernel_rfl) (by kernel_rfl) (by kernel_rfl) (by kernel_rfl) fun a hF=>e_pg (v:=(iV e_38)) 4 hF rfl (ex_move rfl) (wanted_t hF rfl rfl rfl hc11) rfl (by kernel_rfl) (by kernel_rfl) (by kernel_rfl) fun a hF=>e_pg (v:=s31.v) 6 hF rfl (ex_move rfl) (wanted_t hF rfl rfl rfl hc11) rfl (by kernel_rfl) (by kernel_rfl) (by kernel_rfl) fun a hF=>e_pg (v:=(iV t_37)) 7 hF rfl (ex_move rfl) (wanted_t hF rfl rfl rfl hc11) rfl (by kernel_rfl) (by kernel_rfl) (by kernel_rfl) fun a hF=>?_
          obtain ⟨e_48,he_48,hj10⟩:=bindS hj10
          obtain ⟨vs49,at49,d49⟩:=h31.at he_48 1 rfl
          obtain rfl : vs49 = [(iV e_48)]:=d49
          refine e_pg (v:=(elP s31 (t_37.toNat * 1))) 8 hF rfl (ex_indexAddr Tryz.underlying24 sz3 rfl rfl (h31.idx he_48)) (wanted_t hF rfl rfl rfl hc11) rfl (by kernel_rfl) (by kernel_rfl) (by kernel_rfl) fun a hF=>e_xg (v:=(iV e_48)) 9 hF hS rfl (ex_loadE1 0 Tryz.underlying3 rfl rfl (at49.at 1 rfl) rfl rfl) (wanted_t hF rfl rfl rfl hc11) rfl (by kernel_rfl) (by kernel_rfl) (by kernel_rfl) (by kernel_rfl) fun a hF=>e_pg (v:=(.int .u64 (IntKind.wrap .u64 e_48))) 10 hF rfl (ex_conv Tryz.underlying3 Tryz.underlying72 rfl) (wanted_t hF rfl rfl rfl hc11) rfl (by kernel_rfl) (by kernel_rfl) (by kernel_rfl) fun a hF=>e_one 5 (by kernel_rfl) ?_
          obtain ⟨t_52,ht_52,hj10⟩:=bindS hj10
          refine e_callg (vs:=[s2.v,(.agg #[(iV p_t.Level),s3.v,s4.v,(iV p_t.Sum)]),(iV e_38)]) hF hS rfl (wanted_t hF rfl rfl rfl hc11) Tryz.func42 (by kernel_rfl) rfl rfl rfl (c_spec_lSet p_s p_t e_38 t_52 ht_52 _ m hS.vis s2 h2 s3 h3 s4 h4) ?_
          rintro a w _ rfl hF hS
          obtain ⟨t_53,ht_53,hj10⟩:=bindS hj10
          refine e_pg (v:=(iV t_53)) 11 hF rfl (ex_shr rfl rfl ht_53) (wanted_t hF rfl rfl rfl hc11) rfl (by kernel_rfl) (by kernel_rfl) (by kernel_rfl) fun a hF=>e_pg (v:=(iV (goBits .and .i64 t_53 1))) 12 hF rfl (ex_bits rfl rfl rfl) (wanted_t hF rfl rfl rfl hc11) rfl (by kernel_rfl) (by kernel_rfl) (by kernel_rfl) fun a hF=>e_pg (v:=(.bool ((goBits .and .i64 t_53 1) == 1))) 13 hF rfl (ex_ibin rfl rfl rfl) (wanted_t hF rfl rfl rfl hc11) rfl (by kernel_rfl) (by kernel_rfl) (by kernel_rfl) fun a hF=>e_p (v:=(.bool ((goBits .and .i64 t_53 1) == 1))) 14 hF rfl (ex_pick_t rfl rfl hc11) rfl rfl (by kernel_rfl) (by kernel_rfl) (by kernel_rfl) fun a hF=>e_p (v:=(.bool ((goBits .and .i64 t_53 1) == 1))) 15 hF rfl (ex_assign rfl) rfl rfl (by kernel_rfl) (by kernel_rfl) (by kernel_rfl) fun a hF=>e_end (by kernel_rfl) (n_jn ?_) _
          obtain rfl:=someI hj10
          exact ⟨hF.sub ⟨rfl,rfl,rfl,rfl,rfl,rfl,rfl,rfl,rfl,rfl,rfl,rfl,rfl,rfl,rfl,rfl,rfl,rfl,trivial⟩,hS.sel [2,4,3,1,0,5,6,7] (by decide)⟩
        ·rintro a w ⟨hF,hS⟩
         refine n_ib (n_sq ?_)
         refine q_region (q_x (v:=(iV (w64 (t_37 + 1)))) hF hS (ex_ibin rfl rfl rfl) rfl rfl fun a hF=>q_x (v:=(iV (w64 (t_37 + 1)))) hF hS (ex_move rfl) rfl rfl fun a hF=>q_end ?_)
         obtain rfl:=someI hb8
         exact ⟨rfl,q44,_,_,_,rfl,hF.sub ⟨rfl,rfl,rfl,rfl,rfl,rfl,rfl,rfl,rfl,rfl,rfl,rfl,rfl,rfl,rfl,rfl,rfl,rfl,trivial⟩,hS.sel [4,3,0,2,1,5,6,7] (by decide),h44⟩
      ·rintro e a w ⟨q56,all_55,in_57,rfl,rfl,hF,hS,h56⟩
       refine x_ib (n_sq ?_)
       refine q_seq (q_seq (q_region (q_x (v:=(.bool in_57)) hF hS (ex_move rfl) rfl rfl fun a hF=>q_x (v:=(.bool (!in_57))) hF hS (ex_not rfl) rfl rfl fun a hF=>q_end (n_sq ?_))))
       rcases bcase (!in_57) with hc12 | hc12
       ·have hj7:=cond_f hc12 hj7
        refine q_cond_f hF rfl hc12 (q_skipc (n_sq (q_seq (q_seq (q_region (q_x (v:=(.pointer (some ⟨b9,3,none⟩))) hF hS (ex_fieldAddr Tryz.underlying29 rfl sz3 rfl rfl) rfl rfl fun a hF=>q_x (v:=(iV p_t.Sum)) hF hS (ex_load1 5 0 Tryz.underlying3 rfl rfl rfl rfl) rfl rfl fun a hF=>q_x (v:=(.pointer (some ⟨b10,3,none⟩))) hF hS (ex_fieldAddr Tryz.underlying29 rfl sz3 rfl rfl) rfl rfl fun a hF=>q_x (v:=(iV p_u.Sum)) hF hS (ex_load1 4 0 Tryz.underlying3 rfl rfl rfl rfl) rfl rfl fun a hF=>q_x (v:=(.bool (p_t.Sum != p_u.Sum))) hF hS (ex_ibin rfl rfl rfl) rfl rfl fun a hF=>q_end (n_sq ?_)))))))
        obtain ⟨n_60,hj13,hj7⟩:=bindS hj7
        refine q_join (fun a w=>Fr a 147 [(1,s2.v),(5,(.pointer (some ⟨b8,0,none⟩))),(7,(.pointer (some ⟨b9,0,none⟩))),(8,(.pointer (some ⟨b10,0,none⟩))),(12,s17.v),(13,s20.v),(14,s23.v),(16,(iV n_60)),(17,(iV t_29.1)),(20,s33.v),(58,s7.v),(59,(iV (goLen p_cells))),(60,(iV t_26))]∧St [] w0 w m [q25,q20,q23,q56,[⟨b10,[(iV p_u.Level),s5.v,s6.v,(iV p_u.Sum)],29⟩],[⟨b9,[(iV p_t.Level),s3.v,s4.v,(iV p_t.Sum)],29⟩],[⟨b8,[s1.v],26⟩]]) ?_ ?_
        ·rcases bcase (p_t.Sum != p_u.Sum) with hc14 | hc14
         ·have hj13:=cond_f hc14 hj13
          refine q_cond_f hF rfl hc14 (q_skipc (n_jn ?_))
          obtain rfl:=someI hj13
          exact ⟨hF.sub ⟨rfl,rfl,rfl,rfl,rfl,rfl,rfl,rfl,rfl,rfl,rfl,rfl,rfl,trivial⟩,hS⟩
         ·have hj13:=cond_t hc14 hj13
          refine q_cond_t hF rfl hc14 (q_region (q_x (v:=(iV e_27)) hF hS (ex_move rfl) rfl rfl fun a hF=>q_x (v:=s33.v) hF hS (ex_move rfl) rfl rfl fun a hF=>q_x (v:=(.pointer (some ⟨b9,3,none⟩))) hF hS (ex_fieldAddr Tryz.underlying29 rfl sz3 rfl rfl) rfl rfl fun a hF=>q_x (v:=(iV p_t.Sum)) hF hS (ex_load1 5 0 Tryz.underlying3 rfl rfl rfl rfl) rfl rfl fun a hF=>?_))
          obtain ⟨e_58,he_58,hj13⟩:=bindS hj13
          obtain ⟨vs59,at59,d59⟩:=h56.at he_58 1 rfl
          obtain rfl : vs59 = [(iV e_58)]:=d59
          refine q_x (v:=(elP s33 (p_t.Sum.toNat * 1))) hF hS (ex_indexAddr Tryz.underlying24 sz3 rfl rfl (h56.idx he_58)) rfl rfl fun a hF=>q_x (v:=(iV e_58)) hF hS (ex_loadE1 0 Tryz.underlying3 rfl rfl (at59.at 3 rfl) rfl rfl) rfl rfl fun a hF=>q_x (v:=(iV (w64 (e_27 * e_58)))) hF hS (ex_ibin rfl rfl rfl) rfl rfl fun a hF=>q_x (v:=(iV (w64 (e_27 * e_58)))) hF hS (ex_assign rfl) rfl rfl fun a hF=>q_end (n_jn ?_)
          obtain rfl:=someI hj13
          exact ⟨hF.sub ⟨rfl,rfl,rfl,rfl,rfl,rfl,rfl,rfl,rfl,rfl,rfl,rfl,rfl,trivial⟩,hS⟩
        ·rintro a w ⟨hF,hS⟩
         refine n_sq ?_
         refine e_region ⟨[23],[b8,b9]⟩ mixed fun w' hw'=>?_
         have hS:=hS.below hw'
         refine e_p (v:=s17.v) 0 hF rfl (ex_move rfl) rfl rfl (by kernel_rfl) (by kernel_rfl) (by kernel_rfl) fun a hF=>e_p (v:=s20.v) 1 hF rfl (ex_move rfl) rfl rfl (by kernel_rfl) (by kernel_rfl) (by kernel_rfl) fun a hF=>e_xb (v:=(.agg #[s1.v])) 2 6 hF hS (.head _) rfl rfl (ex_loadA (vs:=[s1.v]) 0 0 Tryz.underlying26 rfl sz26 rfl rfl rfl rfl) rfl rfl (by kernel_rfl) (by kernel_rfl) (by kernel_rfl) fun a hF=>e_p (v:=(iV t_29.1)) 3 hF rfl (ex_move rfl) rfl rfl (by kernel_rfl) (by kernel_rfl) (by kernel_rfl) fun a hF=>e_p (v:=(.pointer (some ⟨b9,0,none⟩))) 4 hF rfl (ex_fieldAddr Tryz.underlying29 rfl sz3 rfl rfl) rfl rfl (by kernel_rfl) (by kernel_rfl) (by kernel_rfl) fun a hF=>e_xb (v:=(iV p_t.Level)) 5 5 hF hS (.tail _ (.head _)) rfl rfl (ex_load1 0 0 Tryz.underlying3 rfl rfl rfl rfl) rfl rfl (by kernel_rfl) (by kernel_rfl) (by kernel_rfl) fun a hF=>e_p (v:=s23.v) 8 hF rfl (ex_move rfl) rfl rfl (by kernel_rfl) (by kernel_rfl) (by kernel_rfl) fun a hF=>e_p (v:=s23.v) 11 hF rfl (ex_move rfl) rfl rfl (by kernel_rfl) (by kernel_rfl) (by kernel_rfl) fun a hF=>e_p (v:=s33.v) 12 hF rfl (ex_move rfl) rfl rfl (by kernel_rfl) (by kernel_rfl) (by kernel_rfl) fun a hF=>e_p (v:=(.pointer (some ⟨b9,1,none⟩))) 13 hF rfl (ex_fieldAddr Tryz.underlying29 rfl sz24 rfl rfl) rfl rfl (by kernel_rfl) (by kernel_rfl) (by kernel_rfl) fun a hF=>e_xb (v:=s3.v) 14 5 hF hS (.tail _ (.head _)) rfl rfl (ex_load1 0 0 Tryz.underlying24 rfl rfl rfl rfl) rfl rfl (by kernel_rfl) (by kernel_rfl) (by kernel_rfl) fun a hF=>e_p (v:=(iV n_60)) 20 hF rfl (ex_move rfl) rfl rfl (by kernel_rfl) (by kernel_rfl) (by kernel_rfl) fun a hF=>e_one 6 (by kernel_rfl) ?_
         obtain ⟨t_67,ht_67,hj7⟩:=bindS hj7
         refine e_call (vs:=[(.agg #[s1.v]),(iV t_29.1),(iV p_t.Level)]) hF hS rfl Tryz.func44 (by kernel_rfl) rfl rfl rfl (c_spec_gUp p_g t_29.1 p_t.Level t_67 ht_67 _ m hS.vis s1 h1) ?_
         rintro a w _ rfl hF hS
         refine e_one 7 (by kernel_rfl) ?_
         obtain ⟨m69,hl69,hv69,hz69⟩:=hS.lend
         obtain ⟨t_68,ht_68,hj7⟩:=bindS hj7
         refine e_call (vs:=[s20.v,(iV t_67)]) hF hS rfl Tryz.func43 (by kernel_rfl) rfl rfl rfl (c_spec_l1Find t_18 t_67 t_68 ht_68 _ m69 hv69 s20 (h20.froz hl69 (hz69 1 _ rfl))) ?_
         rintro a w _ rfl hF hS
         refine e_one 9 (by kernel_rfl) ?_
         obtain ⟨m71,hl71,hv71,hz71⟩:=hS.lend
         obtain ⟨t_70,ht_70,hj7⟩:=bindS hj7
         refine e_call (vs:=[s23.v]) hF hS rfl Tryz.func45 (by kernel_rfl) rfl rfl rfl (c_spec_sCount t_21 t_70 ht_70 _ m71 hv71 s23 (h23.froz hl71 (hz71 2 _ rfl))) ?_
         rintro a w _ rfl hF hS
         refine e_p (v:=(iV (w64 (t_68 * t_70)))) 10 hF rfl (ex_ibin rfl rfl rfl) rfl rfl (by kernel_rfl) (by kernel_rfl) (by kernel_rfl) fun a hF=>e_one 15 (by kernel_rfl) ?_
         obtain ⟨m73,hl73,hv73,hz73⟩:=hS.lend
         obtain ⟨t_72,ht_72,hj7⟩:=bindS hj7
         refine e_call (vs:=[s33.v,s3.v]) hF hS rfl Tryz.func47 (by kernel_rfl) rfl rfl rfl (c_spec_sPick all_55 p_t.Vars t_72 ht_72 _ m73 hv73 s33 (h56.froz hl73 (hz73 3 _ rfl)) s3 (h3.mono hl73)) ?_
         rintro a w _ ⟨q75,s75,rfl,hR74,h75⟩ hF hS2
         have hS : St _ _ _ _ [q75,q25,q20,q23,q56,[⟨b10,[(iV p_u.Level),s5.v,s6.v,(iV p_u.Sum)],29⟩],[⟨b9,[(iV p_t.Level),s3.v,s4.v,(iV p_t.Sum)],29⟩],[⟨b8,[s1.v],26⟩]]:=hS.joinF hR74
         have h75:=h75.any m
         refine e_one 16 (by kernel_rfl) ?_
         obtain ⟨m77,hl77,hv77,hz77⟩:=hS.lend
         obtain ⟨t_76,ht_76,hj7⟩:=bindS hj7
         refine e_call (vs:=[s23.v,s75.v]) hF hS rfl Tryz.func46 (by kernel_rfl) rfl rfl rfl (c_spec_sIndex t_21 t_72 t_76 ht_76 _ m77 hv77 s23 (h23.froz hl77 (hz77 3 _ rfl)) s75 (h75.froz hl77 (hz77 0 _ rfl))) ?_
         rintro a w _ rfl hF hS
         refine e_p (v:=(iV (w64 ((w64 (t_68 * t_70)) + t_76)))) 17 hF rfl (ex_ibin rfl rfl rfl) rfl rfl (by kernel_rfl) (by kernel_rfl) (by kernel_rfl) fun a hF=>?_
         obtain ⟨e_78,he_78,hj7⟩:=bindS hj7
         obtain ⟨vs79,at79,d79⟩:=h25.at he_78 1 rfl
         obtain rfl : vs79 = [(iV e_78)]:=d79
         refine e_p (v:=(elP s17 ((w64 ((w64 (t_68 * t_70)) + t_76)).toNat * 1))) 18 hF rfl (ex_indexAddr Tryz.underlying24 sz3 rfl rfl (h25.idx he_78)) rfl rfl (by kernel_rfl) (by kernel_rfl) (by kernel_rfl) fun a hF=>e_x (v:=(iV e_78)) 19 hF hS rfl (ex_loadE1 0 Tryz.underlying3 rfl rfl (at79.at 1 rfl) rfl rfl) rfl rfl (by kernel_rfl) (by kernel_rfl) (by kernel_rfl) (by kernel_rfl) fun a hF=>e_p (v:=(iV (w64 (e_78 + n_60)))) 21 hF rfl (ex_ibin rfl rfl rfl) rfl rfl (by kernel_rfl) (by kernel_rfl) (by kernel_rfl) fun a hF=>?_
         obtain ⟨e_80,he_80,hj7⟩:=bindS hj7
         obtain ⟨vs81,at81,d81⟩:=h25.at he_80 1 rfl
         obtain rfl : vs81 = [(iV e_80)]:=d81
         refine e_p (v:=(elP s17 ((w64 ((w64 (t_68 * t_70)) + t_76)).toNat * 1))) 22 hF rfl (ex_indexAddr Tryz.underlying24 sz3 rfl rfl (h25.idx he_80)) rfl rfl (by kernel_rfl) (by kernel_rfl) (by kernel_rfl) fun a hF=>e_one 23 (by kernel_rfl) ?_
         have hS : St _ _ _ _ [q25,q75,q20,q23,q56,[⟨b10,[(iV p_u.Level),s5.v,s6.v,(iV p_u.Sum)],29⟩],[⟨b9,[(iV p_t.Level),s3.v,s4.v,(iV p_t.Sum)],29⟩],[⟨b8,[s1.v],26⟩]]:=hS.sel [1,0,2,3,4,5,6,7] (by decide)
         have hSo:=hS
         refine e_opl rfl rfl rfl fun _ hK=>wp_storeE (e':=(w64 (e_78 + n_60))) (us:=[(iV (w64 (e_78 + n_60)))]) (vs:=[(iV e_80)]) 0 hF hS h25 sz3 rfl rfl rfl rfl rfl rfl rfl he_80 at81 rfl rfl rfl fun w q82 hS h82=>hK _ _ (⟨kpC hSo hS 7 7 rfl rfl (kpC hSo hS 6 6 rfl rfl kpN),?_⟩)
         refine e_end (by kernel_rfl) (n_ib (n_jn ?_)) _
         obtain rfl:=someI hj7
         exact ⟨q82,hF.sub ⟨rfl,rfl,rfl,rfl,rfl,rfl,rfl,rfl,rfl,rfl,trivial⟩,hS.mask [true,false,true,true,false,true,true,true],h82⟩
       ·have hj7:=cond_t hc12 hj7
        refine q_cond_t hF rfl hc12 (q_exit (x_sq (x_ib (n_jn ?_))))
        obtain rfl:=someI hj7
        exact ⟨q25,hF.sub ⟨rfl,rfl,rfl,rfl,rfl,rfl,rfl,rfl,rfl,rfl,trivial⟩,hS.mask [true,true,true,false,true,true,true],h25⟩
     ·rintro a w ⟨q84,hF,hS,h84⟩
      refine n_sq ?_
      refine q_region (q_x (v:=(iV (w64 (t_26 + 1)))) hF hS (ex_ibin rfl rfl rfl) rfl rfl fun a hF=>q_x (v:=(iV (w64 (t_26 + 1)))) hF hS (ex_move rfl) rfl rfl fun a hF=>q_end ?_)
      obtain rfl:=someI hb5
      exact ⟨rfl,q84,_,_,rfl,hF.sub ⟨rfl,rfl,rfl,rfl,rfl,rfl,rfl,rfl,rfl,rfl,trivial⟩,hS.sel [0,2,1,3,4,5] (by decide),h84⟩
   ·rintro e a w ⟨q86,rfl,hF,hS,h86⟩
    refine x_ib (n_sq ?_)
    refine q_seq (q_region (q_x (v:=s17.v) hF hS (ex_move rfl) rfl rfl fun a hF=>q_x (v:=s17.v) hF hS (ex_assign rfl) rfl rfl fun a hF=>q_x (v:=(.bool true)) hF hS (ex_assign rfl) rfl rfl fun a hF=>q_end (n_sq (q_ret ?_))))
    obtain rfl:=someI hr
    exact ret_of hF hS rfl (.tmp rfl (.tmp rfl .nil)) ⟨q86,s17,rfl,hS.sel [0] (by decide),h86⟩
  ·have hr:=cond_t hc4 hr
   refine q_cond_t hF rfl hc4 (q_seq (q_region (q_x (v:=nilS.v) hF hS (ex_assign rfl) rfl rfl fun a hF=>q_x (v:=(.bool false)) hF hS (ex_assign rfl) rfl rfl fun a hF=>q_end (n_sq (q_ret (r_sq ?_))))))
   obtain rfl:=someI hr
   exact ret_of hF hS rfl (.tmp rfl (.tmp rfl .nil)) ⟨[],nilS,rfl,hS.sel [3] (by decide),(OwnL.nil (α:=Int) m 3)⟩

theorem c_laws_FnFollows (p_code : List (K .u8)) (p_more : List (K .u8)) (r : Bool) (hr : laws_FnFollows p_code p_more = some r) (w0 : World) (m : Mem) (hv : Vis m w0) (s1 : Sl) (h1 : Rd m s1 p_code) (s2 : Sl) (h2 : Rd m s2 p_more) :
  Ret Tryz.prog 3 [s1.v,s2.v] w0 (fun v _=>v = (.bool r)):=by
 unfold laws_FnFollows at hr
 refine ret_start Tryz.func3 rfl 174 rfl rfl m hv fun a hF hS=>q_seq (q_region (q_x (v:=(.bool false)) hF hS (ex_assign rfl) rfl rfl fun a hF=>q_end (n_sq (q_seq (q_seq (q_region (q_x (v:=s1.v) hF hS (ex_move rfl) rfl rfl fun a hF=>q_x (v:=s2.v) hF hS (ex_move rfl) rfl rfl fun a hF=>?_)))))))
 obtain ⟨t_3,ht_3,hr⟩:=bindS hr
 refine q_call (vs:=[s1.v,s2.v]) hF hS Tryz.func4 (by kernel_rfl) rfl rfl rfl (c_laws_big p_code p_more t_3 ht_3 _ m hS.vis s1 h1 s2 h2) ?_
 rintro a w _ rfl hF hS
 refine q_end (n_sq ?_)
 rcases bcase (t_3) with hc1 | hc1
 ·have hr:=cond_f hc1 hr
  refine q_cond_f hF rfl hc1 (q_skipc (n_sq (q_seq (q_region (q_x (v:=s1.v) hF hS (ex_move rfl) rfl rfl fun a hF=>?_)))))
  obtain ⟨t_4,ht_4,hr⟩:=bindS hr
  refine q_call (vs:=[s1.v]) hF hS Tryz.func5 (by kernel_rfl) rfl rfl rfl (c_spec_DrawFollowsFrom p_code t_4 ht_4 _ m hS.vis s1 h1) ?_
  have hT:=hS
  rintro a w _ ⟨m5,q6,q8,q9,q10,q11,s6,s7,s8,s9,s10,s11,rfl,hm5,hR5,h6,h7,h8,h9,h10,h11⟩ hF hS2
  have hS : St _ _ _ _ [q6,q8,q9,q10,q11]:=hS.join hR5 hm5
  have hm5:=MLe.weakX (O0:=[]) hT hm5
  refine q_x (v:=(.tuple #[(.agg #[s6.v]),s7.v,(.agg #[(iV t_4.2.2.1.Level),s8.v,s9.v,(iV t_4.2.2.1.Sum)]),(.agg #[(iV t_4.2.2.2.Level),s10.v,s11.v,(iV t_4.2.2.2.Sum)])])) hF hS (ex_move rfl) rfl rfl fun a hF=>q_x (v:=(.agg #[s6.v])) hF hS (ex_extract rfl rfl) rfl rfl fun a hF=>q_x (v:=s7.v) hF hS (ex_extract rfl rfl) rfl rfl fun a hF=>q_x (v:=(.agg #[(iV t_4.2.2.1.Level),s8.v,s9.v,(iV t_4.2.2.1.Sum)])) hF hS (ex_extract rfl rfl) rfl rfl fun a hF=>q_x (v:=(.agg #[(iV t_4.2.2.2.Level),s10.v,s11.v,(iV t_4.2.2.2.Sum)])) hF hS (ex_extract rfl rfl) rfl rfl fun a hF=>q_alloc (cs:=[nilS.v]) hF hS rfl rfl rfl fun a w b12 hF hS=>q_alloc (cs:=[(iV 0),nilS.v,nilS.v,(iV 0)]) hF hS rfl rfl rfl fun a w b13 hF hS=>q_alloc (cs:=[(iV 0),nilS.v,nilS.v,(iV 0)]) hF hS rfl rfl rfl fun a w b14 hF hS=>q_store (vs:=[s6.v]) (cs':=[s6.v]) 2 0 hF hS sz26 rfl rfl rfl rfl rfl rfl rfl rfl fun a w hF hS=>q_x (v:=s7.v) hF hS (ex_assign rfl) rfl rfl fun a hF=>q_store (vs:=[(iV t_4.2.2.1.Level),s8.v,s9.v,(iV t_4.2.2.1.Sum)]) (cs':=[(iV t_4.2.2.1.Level),s8.v,s9.v,(iV t_4.2.2.1.Sum)]) 1 0 hF hS sz29 rfl rfl rfl rfl rfl rfl rfl rfl fun a w hF hS=>q_store (vs:=[(iV t_4.2.2.2.Level),s10.v,s11.v,(iV t_4.2.2.2.Sum)]) (cs':=[(iV t_4.2.2.2.Level),s10.v,s11.v,(iV t_4.2.2.2.Sum)]) 0 0 hF hS sz29 rfl rfl rfl rfl rfl rfl rfl rfl fun a w hF hS=>q_end (n_sq (q_seq (q_region (q_x (v:=(.agg #[s6.v])) hF hS (ex_loadA (vs:=[s6.v]) 2 0 Tryz.underlying26 rfl sz26 rfl rfl rfl rfl) rfl rfl fun a hF=>q_x (v:=s7.v) hF hS (ex_move rfl) rfl rfl fun a hF=>q_x (v:=(.agg #[(iV t_4.2.2.1.Level),s8.v,s9.v,(iV t_4.2.2.1.Sum)])) hF hS (ex_loadA (vs:=[(iV t_4.2.2.1.Level),s8.v,s9.v,(iV t_4.2.2.1.Sum)]) 1 0 Tryz.underlying29 rfl sz29 rfl rfl rfl rfl) rfl rfl fun a hF=>q_x (v:=(.agg #[(iV t_4.2.2.2.Level),s10.v,s11.v,(iV t_4.2.2.2.Sum)])) hF hS (ex_loadA (vs:=[(iV t_4.2.2.2.Level),s10.v,s11.v,(iV t_4.2.2.2.Sum)]) 0 0 Tryz.underlying29 rfl sz29 rfl rfl rfl rfl) rfl rfl fun a hF=>?_))))
  obtain ⟨m16,hl16,hv16,hz16⟩:=hS.lend
  obtain ⟨t_15,ht_15,hr⟩:=bindS hr
  refine q_call (vs:=[(.agg #[s6.v]),s7.v,(.agg #[(iV t_4.2.2.1.Level),s8.v,s9.v,(iV t_4.2.2.1.Sum)]),(.agg #[(iV t_4.2.2.2.Level),s10.v,s11.v,(iV t_4.2.2.2.Sum)])]) hF hS Tryz.func6 (by kernel_rfl) rfl rfl rfl (c_impl_FollowsFrom t_4.1 t_4.2.1 t_4.2.2.1 t_4.2.2.2 t_15 ht_15 _ m16 hv16 s6 (h6.froz hl16 (hz16 3 _ rfl)) s7 (h7.mono hl16) s8 (h8.froz hl16 (hz16 4 _ rfl)) s9 (h9.froz hl16 (hz16 5 _ rfl)) s10 (h10.froz hl16 (hz16 6 _ rfl)) s11 (h11.froz hl16 (hz16 7 _ rfl))) ?_
  rintro a w _ rfl hF hS
  refine q_x (v:=(.tuple #[(.bool t_15.1),(.bool t_15.2)])) hF hS (ex_move rfl) rfl rfl fun a hF=>q_x (v:=(.bool t_15.1)) hF hS (ex_extract rfl rfl) rfl rfl fun a hF=>q_x (v:=(.bool t_15.2)) hF hS (ex_extract rfl rfl) rfl rfl fun a hF=>q_x (v:=(.bool t_15.1)) hF hS (ex_assign rfl) rfl rfl fun a hF=>q_x (v:=(.bool t_15.2)) hF hS (ex_assign rfl) rfl rfl fun a hF=>q_end (n_sq (q_seq (q_region (q_x (v:=(.agg #[s6.v])) hF hS (ex_loadA (vs:=[s6.v]) 2 0 Tryz.underlying26 rfl sz26 rfl rfl rfl rfl) rfl rfl fun a hF=>q_x (v:=s7.v) hF hS (ex_move rfl) rfl rfl fun a hF=>q_x (v:=(.agg #[(iV t_4.2.2.1.Level),s8.v,s9.v,(iV t_4.2.2.1.Sum)])) hF hS (ex_loadA (vs:=[(iV t_4.2.2.1.Level),s8.v,s9.v,(iV t_4.2.2.1.Sum)]) 1 0 Tryz.underlying29 rfl sz29 rfl rfl rfl rfl) rfl rfl fun a hF=>q_x (v:=(.agg #[(iV t_4.2.2.2.Level),s10.v,s11.v,(iV t_4.2.2.2.Sum)])) hF hS (ex_loadA (vs:=[(iV t_4.2.2.2.Level),s10.v,s11.v,(iV t_4.2.2.2.Sum)]) 0 0 Tryz.underlying29 rfl sz29 rfl rfl rfl rfl) rfl rfl fun a hF=>?_))))
  obtain ⟨m18,hl18,hv18,hz18⟩:=hS.lend
  obtain ⟨t_17,ht_17,hr⟩:=bindS hr
  refine q_call (vs:=[(.agg #[s6.v]),s7.v,(.agg #[(iV t_4.2.2.1.Level),s8.v,s9.v,(iV t_4.2.2.1.Sum)]),(.agg #[(iV t_4.2.2.2.Level),s10.v,s11.v,(iV t_4.2.2.2.Sum)])]) hF hS Tryz.func7 (by kernel_rfl) rfl rfl rfl (c_spec_FollowsFrom t_4.1 t_4.2.1 t_4.2.2.1 t_4.2.2.2 t_17 ht_17 _ m18 hv18 s6 (h6.froz hl18 (hz18 3 _ rfl)) s7 (h7.mono hl18) s8 (h8.froz hl18 (hz18 4 _ rfl)) s9 (h9.froz hl18 (hz18 5 _ rfl)) s10 (h10.froz hl18 (hz18 6 _ rfl)) s11 (h11.froz hl18 (hz18 7 _ rfl))) ?_
  rintro a w _ rfl hF hS
  refine q_x (v:=(.tuple #[(.bool t_17.1),(.bool t_17.2)])) hF hS (ex_move rfl) rfl rfl fun a hF=>q_x (v:=(.bool t_17.1)) hF hS (ex_extract rfl rfl) rfl rfl fun a hF=>q_x (v:=(.bool t_17.2)) hF hS (ex_extract rfl rfl) rfl rfl fun a hF=>q_x (v:=(.bool t_17.1)) hF hS (ex_assign rfl) rfl rfl fun a hF=>q_x (v:=(.bool t_17.2)) hF hS (ex_assign rfl) rfl rfl fun a hF=>q_end (n_sq (q_seq (q_seq ?_)))
  obtain ⟨t_19,hj2,hr⟩:=bindS hr
  refine q_join (fun a w=>Fr a 174 [(0,s1.v),(1,s2.v),(5,(.pointer (some ⟨b12,0,none⟩))),(6,s7.v),(7,(.pointer (some ⟨b13,0,none⟩))),(8,(.pointer (some ⟨b14,0,none⟩))),(9,(.bool t_15.1)),(10,(.bool t_15.2)),(68,(.bool t_19))]∧St [] w0 w m5 [q10,q11,q8,q9,q6,[⟨b14,[(iV t_4.2.2.2.Level),s10.v,s11.v,(iV t_4.2.2.2.Sum)],29⟩],[⟨b13,[(iV t_4.2.2.1.Level),s8.v,s9.v,(iV t_4.2.2.1.Sum)],29⟩],[⟨b12,[s6.v],26⟩]]) ?_ ?_
  ·refine q_region (q_x (v:=(.bool t_15.2)) hF hS (ex_move rfl) rfl rfl fun a hF=>q_x (v:=(.bool t_17.2)) hF hS (ex_move rfl) rfl rfl fun a hF=>q_x (v:=(.bool (t_15.2 != t_17.2))) hF hS (ex_bne Tryz.underlying4 rfl rfl) rfl rfl fun a hF=>q_x (v:=(.bool (t_15.2 != t_17.2))) hF hS (ex_move rfl) rfl rfl fun a hF=>?_)
   rcases bcase (t_15.2 != t_17.2) with hc3 | hc3
   ·have hj2:=cond_f hc3 hj2
    refine q_xg (v:=(.bool t_15.1)) hF hS (ex_move rfl) (wanted_t hF rfl rfl rfl hc3) rfl fun a hF=>q_xg (v:=(.bool t_17.1)) hF hS (ex_move rfl) (wanted_t hF rfl rfl rfl hc3) rfl fun a hF=>q_xg (v:=(.bool (t_15.1 != t_17.1))) hF hS (ex_bne Tryz.underlying4 rfl rfl) (wanted_t hF rfl rfl rfl hc3) rfl fun a hF=>q_x (v:=(.bool (t_15.1 != t_17.1))) hF hS (ex_pick_f rfl rfl hc3) rfl rfl fun a hF=>q_end (n_jn ?_)
    obtain rfl:=someI hj2
    exact ⟨hF.sub ⟨rfl,rfl,rfl,rfl,rfl,rfl,rfl,rfl,rfl,trivial⟩,hS.sel [6,7,4,5,3,0,1,2] (by decide)⟩
   ·have hj2:=cond_t hc3 hj2
    refine q_skip hF (wanted_f hF rfl rfl rfl hc3 rfl) rfl fun a hF=>q_skip hF (wanted_f hF rfl rfl rfl hc3 rfl) rfl fun a hF=>q_skip hF (wanted_f hF rfl rfl rfl hc3 rfl) rfl fun a hF=>q_x (v:=(.bool true)) hF hS (ex_pick_t rfl rfl hc3) rfl rfl fun a hF=>q_end (n_jn ?_)
    obtain rfl:=someI hj2
    exact ⟨hF.sub ⟨rfl,rfl,rfl,rfl,rfl,rfl,rfl,rfl,rfl,trivial⟩,hS.sel [6,7,4,5,3,0,1,2] (by decide)⟩
  ·rintro a w ⟨hF,hS⟩
   refine n_sq ?_
   rcases bcase (t_19) with hc4 | hc4
   ·have hr:=cond_f hc4 hr
    refine q_cond_f hF rfl hc4 (q_skipc (n_sq (q_seq (q_region (q_x (v:=s1.v) hF hS (ex_move rfl) rfl rfl fun a hF=>?_)))))
    obtain ⟨t_20,ht_20,hr⟩:=bindS hr
    refine q_call (vs:=[s1.v]) hF hS Tryz.func8 (by kernel_rfl) rfl rfl rfl (c_spec_DrawIsSurvey p_code t_20 ht_20 _ m5 hS.vis s1 (h1.mono hm5.le)) ?_
    have hT:=hS
    rintro a w _ ⟨m21,q22,q24,s22,s23,s24,rfl,hm21,hR21,h22,h23,h24⟩ hF hS2
    have hS : St _ _ _ _ [q22,q24,q10,q11,q8,q9,q6,[⟨b14,[(iV t_4.2.2.2.Level),s10.v,s11.v,(iV t_4.2.2.2.Sum)],29⟩],[⟨b13,[(iV t_4.2.2.1.Level),s8.v,s9.v,(iV t_4.2.2.1.Sum)],29⟩],[⟨b12,[s6.v],26⟩]]:=hS.join hR21 hm21
    have hm21:=MLe.weakX (O0:=[]) hT hm21
    refine q_x (v:=(.tuple #[(.agg #[s22.v]),s23.v,s24.v])) hF hS (ex_move rfl) rfl rfl fun a hF=>q_x (v:=(.agg #[s22.v])) hF hS (ex_extract rfl rfl) rfl rfl fun a hF=>q_x (v:=s23.v) hF hS (ex_extract rfl rfl) rfl rfl fun a hF=>q_x (v:=s24.v) hF hS (ex_extract rfl rfl) rfl rfl fun a hF=>q_alloc (cs:=[nilS.v]) hF hS rfl rfl rfl fun a w b25 hF hS=>q_store (vs:=[s22.v]) (cs':=[s22.v]) 0 0 hF hS sz26 rfl rfl rfl rfl rfl rfl rfl rfl fun a w hF hS=>q_x (v:=s23.v) hF hS (ex_assign rfl) rfl rfl fun a hF=>q_x (v:=s24.v) hF hS (ex_assign rfl) rfl rfl fun a hF=>q_end (n_sq (q_seq (q_region (q_x (v:=(.agg #[s6.v])) hF hS (ex_loadA (vs:=[s6.v]) 10 0 Tryz.underlying26 rfl sz26 rfl rfl rfl rfl) rfl rfl fun a hF=>q_x (v:=s7.v) hF hS (ex_move rfl) rfl rfl fun a hF=>q_x (v:=(.agg #[(iV t_4.2.2.2.Level),s10.v,s11.v,(iV t_4.2.2.2.Sum)])) hF hS (ex_loadA (vs:=[(iV t_4.2.2.2.Level),s10.v,s11.v,(iV t_4.2.2.2.Sum)]) 8 0 Tryz.underlying29 rfl sz29 rfl rfl rfl rfl) rfl rfl fun a hF=>q_x (v:=s24.v) hF hS (ex_move rfl) rfl rfl fun a hF=>?_))))
    obtain ⟨m27,hl27,hv27,hz27⟩:=hS.lend
    obtain ⟨t_26,ht_26,hr⟩:=bindS hr
    refine q_call (vs:=[(.agg #[s6.v]),s7.v,(.agg #[(iV t_4.2.2.2.Level),s10.v,s11.v,(iV t_4.2.2.2.Sum)]),s24.v]) hF hS Tryz.func9 (by kernel_rfl) rfl rfl rfl (c_spec_TableOf t_4.1 t_4.2.1 t_4.2.2.2 t_20.2.2 t_26 ht_26 _ m27 hv27 s6 ((h6.mono hm21.le).froz hl27 (hz27 7 _ rfl)) s7 ((h7.mono hm21.le).mono hl27) s10 ((h10.mono hm21.le).froz hl27 (hz27 3 _ rfl)) s11 ((h11.mono hm21.le).froz hl27 (hz27 4 _ rfl)) s24 (h24.froz hl27 (hz27 2 _ rfl))) ?_
    rintro a w _ ⟨q29,s29,rfl,hR28,h29⟩ hF hS2
    have hS : St _ _ _ _ [q29,[⟨b25,[s22.v],26⟩],q22,q24,q10,q11,q8,q9,q6,[⟨b14,[(iV t_4.2.2.2.Level),s10.v,s11.v,(iV t_4.2.2.2.Sum)],29⟩],[⟨b13,[(iV t_4.2.2.1.Level),s8.v,s9.v,(iV t_4.2.2.1.Sum)],29⟩],[⟨b12,[s6.v],26⟩]]:=hS.joinF hR28
    have h29:=h29.any m21
    refine q_x (v:=(.tuple #[s29.v,(.bool t_26.2)])) hF hS (ex_move rfl) rfl rfl fun a hF=>q_x (v:=s29.v) hF hS (ex_extract rfl rfl) rfl rfl fun a hF=>q_x (v:=(.bool t_26.2)) hF hS (ex_extract rfl rfl) rfl rfl fun a hF=>q_x (v:=s29.v) hF hS (ex_assign rfl) rfl rfl fun a hF=>q_x (v:=(.bool t_26.2)) hF hS (ex_assign rfl) rfl rfl fun a hF=>q_end (n_sq (q_seq (q_region (q_x (v:=(.agg #[s6.v])) hF hS (ex_loadA (vs:=[s6.v]) 11 0 Tryz.underlying26 rfl sz26 rfl rfl rfl rfl) rfl rfl fun a hF=>q_x (v:=s7.v) hF hS (ex_move rfl) rfl rfl fun a hF=>q_x (v:=(.agg #[(iV t_4.2.2.1.Level),s8.v,s9.v,(iV t_4.2.2.1.Sum)])) hF hS (ex_loadA (vs:=[(iV t_4.2.2.1.Level),s8.v,s9.v,(iV t_4.2.2.1.Sum)]) 10 0 Tryz.underlying29 rfl sz29 rfl rfl rfl rfl) rfl rfl fun a hF=>q_x (v:=s24.v) hF hS (ex_move rfl) rfl rfl fun a hF=>?_))))
    obtain ⟨m31,hl31,hv31,hz31⟩:=hS.lend
    obtain ⟨t_30,ht_30,hr⟩:=bindS hr
    refine q_call (vs:=[(.agg #[s6.v]),s7.v,(.agg #[(iV t_4.2.2.1.Level),s8.v,s9.v,(iV t_4.2.2.1.Sum)]),s24.v]) hF hS Tryz.func9 (by kernel_rfl) rfl rfl rfl (c_spec_TableOf t_4.1 t_4.2.1 t_4.2.2.1 t_20.2.2 t_30 ht_30 _ m31 hv31 s6 ((h6.mono hm21.le).froz hl31 (hz31 8 _ rfl)) s7 ((h7.mono hm21.le).mono hl31) s8 ((h8.mono hm21.le).froz hl31 (hz31 6 _ rfl)) s9 ((h9.mono hm21.le).froz hl31 (hz31 7 _ rfl)) s24 (h24.froz hl31 (hz31 3 _ rfl))) ?_
    rintro a w _ ⟨q33,s33,rfl,hR32,h33⟩ hF hS2
    have hS : St _ _ _ _ [q33,q29,[⟨b25,[s22.v],26⟩],q22,q24,q10,q11,q8,q9,q6,[⟨b14,[(iV t_4.2.2.2.Level),s10.v,s11.v,(iV t_4.2.2.2.Sum)],29⟩],[⟨b13,[(iV t_4.2.2.1.Level),s8.v,s9.v,(iV t_4.2.2.1.Sum)],29⟩],[⟨b12,[s6.v],26⟩]]:=hS.joinF hR32
    have h33:=h33.any m21
    refine q_x (v:=(.tuple #[s33.v,(.bool t_30.2)])) hF hS (ex_move rfl) rfl rfl fun a hF=>q_x (v:=s33.v) hF hS (ex_extract rfl rfl) rfl rfl fun a hF=>q_x (v:=(.bool t_30.2)) hF hS (ex_extract rfl rfl) rfl rfl fun a hF=>q_x (v:=s33.v) hF hS (ex_assign rfl) rfl rfl fun a hF=>q_x (v:=(.bool t_30.2)) hF hS (ex_assign rfl) rfl rfl fun a hF=>q_end (n_sq (q_seq (q_seq ?_)))
    obtain ⟨t_34,hj5,hr⟩:=bindS hr
    refine q_join (fun a w=>Fr a 174 [(1,s2.v),(5,(.pointer (some ⟨b12,0,none⟩))),(6,s7.v),(7,(.pointer (some ⟨b13,0,none⟩))),(8,(.pointer (some ⟨b14,0,none⟩))),(13,(.pointer (some ⟨b25,0,none⟩))),(14,s23.v),(15,s24.v),(16,s29.v),(18,s33.v),(100,(.bool t_34))]∧St [] w0 w m21 [q24,q29,q33,q22,q10,q11,q8,q9,q6,[⟨b25,[s22.v],26⟩],[⟨b14,[(iV t_4.2.2.2.Level),s10.v,s11.v,(iV t_4.2.2.2.Sum)],29⟩],[⟨b13,[(iV t_4.2.2.1.Level),s8.v,s9.v,(iV t_4.2.2.1.Sum)],29⟩],[⟨b12,[s6.v],26⟩]]) ?_ ?_
    ·refine q_region (q_x (v:=(.bool t_15.2)) hF hS (ex_move rfl) rfl rfl fun a hF=>q_x (v:=(.bool t_15.2)) hF hS (ex_move rfl) rfl rfl fun a hF=>?_)
     rcases bcase (t_15.2) with hc6 | hc6
     ·have hj5:=cond_f hc6 hj5
      refine q_skip hF (wanted_f hF rfl rfl rfl hc6 rfl) rfl fun a hF=>q_x (v:=(.bool false)) hF hS (ex_pick_f rfl rfl hc6) rfl rfl fun a hF=>q_x (v:=(.bool false)) hF hS (ex_move rfl) rfl rfl fun a hF=>q_skip hF (wanted_f hF rfl rfl rfl rfl rfl) rfl fun a hF=>q_x (v:=(.bool false)) hF hS (ex_pick_f rfl rfl rfl) rfl rfl fun a hF=>q_x (v:=(.bool false)) hF hS (ex_move rfl) rfl rfl fun a hF=>q_skip hF (wanted_f hF rfl rfl rfl rfl rfl) rfl fun a hF=>q_x (v:=(.bool false)) hF hS (ex_pick_f rfl rfl rfl) rfl rfl fun a hF=>q_end (n_jn ?_)
      obtain rfl:=someI hj5
      exact ⟨hF.sub ⟨rfl,rfl,rfl,rfl,rfl,rfl,rfl,rfl,rfl,rfl,rfl,trivial⟩,hS.sel [4,1,0,3,5,6,7,8,9,2,10,11,12] (by decide)⟩
     ·have hj5:=cond_t hc6 hj5
      refine q_xg (v:=(.bool t_15.1)) hF hS (ex_move rfl) (wanted_t hF rfl rfl rfl hc6) rfl fun a hF=>q_x (v:=(.bool t_15.1)) hF hS (ex_pick_t rfl rfl hc6) rfl rfl fun a hF=>q_x (v:=(.bool t_15.1)) hF hS (ex_move rfl) rfl rfl fun a hF=>?_
      rcases bcase (t_15.1) with hc7 | hc7
      ·have hj5:=cond_f hc7 hj5
       refine q_skip hF (wanted_f hF rfl rfl rfl hc7 rfl) rfl fun a hF=>q_x (v:=(.bool false)) hF hS (ex_pick_f rfl rfl hc7) rfl rfl fun a hF=>q_x (v:=(.bool false)) hF hS (ex_move rfl) rfl rfl fun a hF=>q_skip hF (wanted_f hF rfl rfl rfl rfl rfl) rfl fun a hF=>q_x (v:=(.bool false)) hF hS (ex_pick_f rfl rfl rfl) rfl rfl fun a hF=>q_end (n_jn ?_)
       obtain rfl:=someI hj5
       exact ⟨hF.sub ⟨rfl,rfl,rfl,rfl,rfl,rfl,rfl,rfl,rfl,rfl,rfl,trivial⟩,hS.sel [4,1,0,3,5,6,7,8,9,2,10,11,12] (by decide)⟩
      ·have hj5:=cond_t hc7 hj5
       refine q_xg (v:=(.bool t_26.2)) hF hS (ex_move rfl) (wanted_t hF rfl rfl rfl hc7) rfl fun a hF=>q_x (v:=(.bool t_26.2)) hF hS (ex_pick_t rfl rfl hc7) rfl rfl fun a hF=>q_x (v:=(.bool t_26.2)) hF hS (ex_move rfl) rfl rfl fun a hF=>?_
       rcases bcase (t_26.2) with hc8 | hc8
       ·have hj5:=cond_f hc8 hj5
        refine q_skip hF (wanted_f hF rfl rfl rfl hc8 rfl) rfl fun a hF=>q_x (v:=(.bool false)) hF hS (ex_pick_f rfl rfl hc8) rfl rfl fun a hF=>q_end (n_jn ?_)
        obtain rfl:=someI hj5
        exact ⟨hF.sub ⟨rfl,rfl,rfl,rfl,rfl,rfl,rfl,rfl,rfl,rfl,rfl,trivial⟩,hS.sel [4,1,0,3,5,6,7,8,9,2,10,11,12] (by decide)⟩
       ·have hj5:=cond_t hc8 hj5
        refine q_xg (v:=(.bool t_30.2)) hF hS (ex_move rfl) (wanted_t hF rfl rfl rfl hc8) rfl fun a hF=>q_x (v:=(.bool t_30.2)) hF hS (ex_pick_t rfl rfl hc8) rfl rfl fun a hF=>q_end (n_jn ?_)
        obtain rfl:=someI hj5
        exact ⟨hF.sub ⟨rfl,rfl,rfl,rfl,rfl,rfl,rfl,rfl,rfl,rfl,rfl,trivial⟩,hS.sel [4,1,0,3,5,6,7,8,9,2,10,11,12] (by decide)⟩
    ·rintro a w ⟨hF,hS⟩
     refine n_sq ?_
     obtain ⟨j9,hj9,hr⟩:=bindS hr
     refine q_join (fun a w=>j9 = .inl ()∧Fr a 174 [(1,s2.v),(13,(.pointer (some ⟨b25,0,none⟩))),(14,s23.v),(15,s24.v)]∧St [] w0 w m21 [q24,q22,[⟨b25,[s22.v],26⟩]]) ?_ ?_
     ·rcases bcase (t_34) with hc10 | hc10
      ·have hj9:=cond_f hc10 hj9
       refine q_cond_f hF rfl hc10 (q_skipc (n_jn ?_))
       obtain rfl:=someI hj9
       exact ⟨rfl,hF.sub ⟨rfl,rfl,rfl,rfl,trivial⟩,hS.mask [true,false,false,true,false,false,false,false,false,true,false,false,false]⟩
      ·have hj9:=cond_t hc10 hj9
       refine q_cond_t hF rfl hc10 (q_seq (q_region (q_x (v:=(.agg #[s6.v])) hF hS (ex_loadA (vs:=[s6.v]) 12 0 Tryz.underlying26 rfl sz26 rfl rfl rfl rfl) rfl rfl fun a hF=>q_x (v:=s7.v) hF hS (ex_move rfl) rfl rfl fun a hF=>q_x (v:=(.agg #[(iV t_4.2.2.1.Level),s8.v,s9.v,(iV t_4.2.2.1.Sum)])) hF hS (ex_loadA (vs:=[(iV t_4.2.2.1.Level),s8.v,s9.v,(iV t_4.2.2.1.Sum)]) 11 0 Tryz.underlying29 rfl sz29 rfl rfl rfl rfl) rfl rfl fun a hF=>q_x (v:=(.agg #[(iV t_4.2.2.2.Level),s10.v,s11.v,(iV t_4.2.2.2.Sum)])) hF hS (ex_loadA (vs:=[(iV t_4.2.2.2.Level),s10.v,s11.v,(iV t_4.2.2.2.Sum)]) 10 0 Tryz.underlying29 rfl sz29 rfl rfl rfl rfl) rfl rfl fun a hF=>q_x (v:=s29.v) hF hS (ex_move rfl) rfl rfl fun a hF=>?_)))
       obtain ⟨m36,hl36,hv36,hz36⟩:=hS.lend
       obtain ⟨t_35,ht_35,hj9⟩:=bindS hj9
       refine q_call (vs:=[(.agg #[s6.v]),s7.v,(.agg #[(iV t_4.2.2.1.Level),s8.v,s9.v,(iV t_4.2.2.1.Sum)]),(.agg #[(iV t_4.2.2.2.Level),s10.v,s11.v,(iV t_4.2.2.2.Sum)]),s29.v]) hF hS Tryz.func10 (by kernel_rfl) rfl rfl rfl (c_impl_DeriveCells t_4.1 t_4.2.1 t_4.2.2.1 t_4.2.2.2 t_26.1 t_35 ht_35 _ m36 hv36 s6 ((h6.mono hm21.le).froz hl36 (hz36 8 _ rfl)) s7 ((h7.mono hm21.le).mono hl36) s8 ((h8.mono hm21.le).froz hl36 (hz36 6 _ rfl)) s9 ((h9.mono hm21.le).froz hl36 (hz36 7 _ rfl)) s10 ((h10.mono hm21.le).froz hl36 (hz36 4 _ rfl)) s11 ((h11.mono hm21.le).froz hl36 (hz36 5 _ rfl)) s29 (h29.froz hl36 (hz36 1 _ rfl))) ?_
       rintro a w _ ⟨q38,s38,rfl,hR37,h38⟩ hF hS2
       have hS : St _ _ _ _ [q38,q24,q29,q33,q22,q10,q11,q8,q9,q6,[⟨b25,[s22.v],26⟩],[⟨b14,[(iV t_4.2.2.2.Level),s10.v,s11.v,(iV t_4.2.2.2.Sum)],29⟩],[⟨b13,[(iV t_4.2.2.1.Level),s8.v,s9.v,(iV t_4.2.2.1.Sum)],29⟩],[⟨b12,[s6.v],26⟩]]:=hS.joinF hR37
       have h38:=h38.any m21
       refine q_x (v:=(.tuple #[s38.v,(.bool t_35.2)])) hF hS (ex_move rfl) rfl rfl fun a hF=>q_x (v:=s38.v) hF hS (ex_extract rfl rfl) rfl rfl fun a hF=>q_x (v:=(.bool t_35.2)) hF hS (ex_extract rfl rfl) rfl rfl fun a hF=>q_x (v:=s38.v) hF hS (ex_assign rfl) rfl rfl fun a hF=>q_x (v:=(.bool t_35.2)) hF hS (ex_assign rfl) rfl rfl fun a hF=>q_end (n_sq (q_seq ?_))
       obtain ⟨t_41,hj11,hj9⟩:=bindS hj9
       refine q_join (fun a w=>Fr a 174 [(1,s2.v),(13,(.pointer (some ⟨b25,0,none⟩))),(14,s23.v),(15,s24.v),(117,(.bool t_41))]∧St [] w0 w m21 [q24,q22,[⟨b25,[s22.v],26⟩]]) ?_ ?_
       ·refine q_region (q_x (v:=(.bool t_35.2)) hF hS (ex_move rfl) rfl rfl fun a hF=>q_x (v:=(.bool (!t_35.2))) hF hS (ex_not rfl) rfl rfl fun a hF=>q_x (v:=(.bool (!t_35.2))) hF hS (ex_move rfl) rfl rfl fun a hF=>?_)
        rcases bcase (!t_35.2) with hc12 | hc12
        ·have hj11:=cond_f hc12 hj11
         refine q_xg (v:=s38.v) hF hS (ex_move rfl) (wanted_t hF rfl rfl rfl hc12) rfl fun a hF=>q_xg (v:=s33.v) hF hS (ex_move rfl) (wanted_t hF rfl rfl rfl hc12) rfl fun a hF=>?_
         obtain ⟨m40,hl40,hv40,hz40⟩:=hS.lend
         obtain ⟨t_39,ht_39,hj11⟩:=bindS hj11
         refine q_callg (vs:=[s38.v,s33.v]) hF hS (wanted_t hF rfl rfl rfl hc12) Tryz.func11 (by kernel_rfl) rfl rfl rfl (c_laws_sameInts t_35.1 t_30.1 t_39 ht_39 _ m40 hv40 s38 (h38.froz hl40 (hz40 0 _ rfl)) s33 (h33.froz hl40 (hz40 3 _ rfl))) ?_
         rintro a w _ rfl hF hS
         refine q_xg (v:=(.bool (!t_39))) hF hS (ex_not rfl) (wanted_t hF rfl rfl rfl hc12) rfl fun a hF=>q_x (v:=(.bool (!t_39))) hF hS (ex_pick_f rfl rfl hc12) rfl rfl fun a hF=>q_end (n_jn ?_)
         obtain rfl:=someI hj11
         exact ⟨hF.sub ⟨rfl,rfl,rfl,rfl,rfl,trivial⟩,hS.mask [false,true,false,false,true,false,false,false,false,false,true,false,false,false]⟩
        ·have hj11:=cond_t hc12 hj11
         refine q_skip hF (wanted_f hF rfl rfl rfl hc12 rfl) rfl fun a hF=>q_skip hF (wanted_f hF rfl rfl rfl hc12 rfl) rfl fun a hF=>q_skip hF (wanted_f hF rfl rfl rfl hc12 rfl) rfl fun a hF=>q_skip hF (wanted_f hF rfl rfl rfl hc12 rfl) rfl fun a hF=>q_x (v:=(.bool true)) hF hS (ex_pick_t rfl rfl hc12) rfl rfl fun a hF=>q_end (n_jn ?_)
         obtain rfl:=someI hj11
         exact ⟨hF.sub ⟨rfl,rfl,rfl,rfl,rfl,trivial⟩,hS.mask [false,true,false,false,true,false,false,false,false,false,true,false,false,false]⟩
       ·rintro a w ⟨hF,hS⟩
        refine n_sq ?_
        rcases bcase (t_41) with hc13 | hc13
        ·have hj9:=cond_f hc13 hj9
         refine q_cond_f hF rfl hc13 (q_skipc (n_jn ?_))
         obtain rfl:=someI hj9
         exact ⟨rfl,hF.sub ⟨rfl,rfl,rfl,rfl,trivial⟩,hS⟩
        ·have hj9:=cond_t hc13 hj9
         refine q_cond_t hF rfl hc13 (q_seq (q_region (q_x (v:=(.bool false)) hF hS (ex_assign rfl) rfl rfl fun a hF=>q_end (n_sq (q_ret (r_jn ?_))))))
         obtain rfl:=someI hj9
         refine r_sq ?_
         obtain rfl:=someI hr
         exact ret_of hF hS rfl (.tmp rfl .nil) rfl
     ·rintro a w ⟨rfl,hF,hS⟩
      refine n_sq ?_
      refine q_seq (q_region (q_x (v:=(.agg #[s22.v])) hF hS (ex_loadA (vs:=[s22.v]) 2 0 Tryz.underlying26 rfl sz26 rfl rfl rfl rfl) rfl rfl fun a hF=>q_x (v:=s23.v) hF hS (ex_move rfl) rfl rfl fun a hF=>q_x (v:=s24.v) hF hS (ex_move rfl) rfl rfl fun a hF=>?_))
      obtain ⟨m43,hl43,hv43,hz43⟩:=hS.lend
      obtain ⟨t_42,ht_42,hr⟩:=bindS hr
      refine q_call (vs:=[(.agg #[s22.v]),s23.v,s24.v]) hF hS Tryz.func12 (by kernel_rfl) rfl rfl rfl (c_impl_IsSurvey t_20.1 t_20.2.1 t_20.2.2 t_42 ht_42 _ m43 hv43 s22 (h22.froz hl43 (hz43 1 _ rfl)) s23 (h23.mono hl43) s24 (h24.froz hl43 (hz43 0 _ rfl))) ?_
      rintro a w _ rfl hF hS
      refine q_x (v:=(.tuple #[(.bool t_42.1),(.bool t_42.2)])) hF hS (ex_move rfl) rfl rfl fun a hF=>q_x (v:=(.bool t_42.1)) hF hS (ex_extract rfl rfl) rfl rfl fun a hF=>q_x (v:=(.bool t_42.2)) hF hS (ex_extract rfl rfl) rfl rfl fun a hF=>q_x (v:=(.bool t_42.1)) hF hS (ex_assign rfl) rfl rfl fun a hF=>q_x (v:=(.bool t_42.2)) hF hS (ex_assign rfl) rfl rfl fun a hF=>q_end (n_sq (q_seq (q_region (q_x (v:=(.agg #[s22.v])) hF hS (ex_loadA (vs:=[s22.v]) 2 0 Tryz.underlying26 rfl sz26 rfl rfl rfl rfl) rfl rfl fun a hF=>q_x (v:=s23.v) hF hS (ex_move rfl) rfl rfl fun a hF=>q_x (v:=s24.v) hF hS (ex_move rfl) rfl rfl fun a hF=>?_))))
      obtain ⟨m45,hl45,hv45,hz45⟩:=hS.lend
      obtain ⟨t_44,ht_44,hr⟩:=bindS hr
      refine q_call (vs:=[(.agg #[s22.v]),s23.v,s24.v]) hF hS Tryz.func13 (by kernel_rfl) rfl rfl rfl (c_spec_IsSurvey t_20.1 t_20.2.1 t_20.2.2 t_44 ht_44 _ m45 hv45 s22 (h22.froz hl45 (hz45 1 _ rfl)) s23 (h23.mono hl45) s24 (h24.froz hl45 (hz45 0 _ rfl))) ?_
      rintro a w _ rfl hF hS
      refine q_x (v:=(.tuple #[(.bool t_44.1),(.bool t_44.2)])) hF hS (ex_move rfl) rfl rfl fun a hF=>q_x (v:=(.bool t_44.1)) hF hS (ex_extract rfl rfl) rfl rfl fun a hF=>q_x (v:=(.bool t_44.2)) hF hS (ex_extract rfl rfl) rfl rfl fun a hF=>q_x (v:=(.bool t_44.1)) hF hS (ex_assign rfl) rfl rfl fun a hF=>q_x (v:=(.bool t_44.2)) hF hS (ex_assign rfl) rfl rfl fun a hF=>q_end (n_sq (q_seq (q_seq ?_)))
      obtain ⟨t_46,hj14,hr⟩:=bindS hr
      refine q_join (fun a w=>Fr a 174 [(1,s2.v),(139,(.bool t_46))]∧St [] w0 w m21 []) ?_ ?_
      ·refine q_region (q_x (v:=(.bool t_42.2)) hF hS (ex_move rfl) rfl rfl fun a hF=>q_x (v:=(.bool t_44.2)) hF hS (ex_move rfl) rfl rfl fun a hF=>q_x (v:=(.bool (t_42.2 != t_44.2))) hF hS (ex_bne Tryz.underlying4 rfl rfl) rfl rfl fun a hF=>q_x (v:=(.bool (t_42.2 != t_44.2))) hF hS (ex_move rfl) rfl rfl fun a hF=>?_)
       rcases bcase (t_42.2 != t_44.2) with hc15 | hc15
       ·have hj14:=cond_f hc15 hj14
        refine q_xg (v:=(.bool t_42.1)) hF hS (ex_move rfl) (wanted_t hF rfl rfl rfl hc15) rfl fun a hF=>q_xg (v:=(.bool t_44.1)) hF hS (ex_move rfl) (wanted_t hF rfl rfl rfl hc15) rfl fun a hF=>q_xg (v:=(.bool (t_42.1 != t_44.1))) hF hS (ex_bne Tryz.underlying4 rfl rfl) (wanted_t hF rfl rfl rfl hc15) rfl fun a hF=>q_x (v:=(.bool (t_42.1 != t_44.1))) hF hS (ex_pick_f rfl rfl hc15) rfl rfl fun a hF=>q_end (n_jn ?_)
        obtain rfl:=someI hj14
        exact ⟨hF.sub ⟨rfl,rfl,trivial⟩,hS.mask [false,false,false]⟩
       ·have hj14:=cond_t hc15 hj14
        refine q_skip hF (wanted_f hF rfl rfl rfl hc15 rfl) rfl fun a hF=>q_skip hF (wanted_f hF rfl rfl rfl hc15 rfl) rfl fun a hF=>q_skip hF (wanted_f hF rfl rfl rfl hc15 rfl) rfl fun a hF=>q_x (v:=(.bool true)) hF hS (ex_pick_t rfl rfl hc15) rfl rfl fun a hF=>q_end (n_jn ?_)
        obtain rfl:=someI hj14
        exact ⟨hF.sub ⟨rfl,rfl,trivial⟩,hS.mask [false,false,false]⟩
      ·rintro a w ⟨hF,hS⟩
       refine n_sq ?_
       rcases bcase (t_46) with hc16 | hc16
       ·have hr:=cond_f hc16 hr
        refine q_cond_f hF rfl hc16 (q_skipc (n_sq (q_seq (q_region (q_x (v:=s2.v) hF hS (ex_move rfl) rfl rfl fun a hF=>?_)))))
        obtain ⟨t_47,ht_47,hr⟩:=bindS hr
        refine q_call (vs:=[s2.v]) hF hS Tryz.func14 (by kernel_rfl) rfl rfl rfl (c_spec_DrawDeriveCells p_more t_47 ht_47 _ m21 hS.vis s2 ((h2.mono hm5.le).mono hm21.le)) ?_
        have hT:=hS
        rintro a w _ ⟨m48,q49,q51,q52,q53,q54,q55,s49,s50,s51,s52,s53,s54,s55,rfl,hm48,hR48,h49,h50,h51,h52,h53,h54,h55⟩ hF hS2
        have hS : St _ _ _ _ [q49,q51,q52,q53,q54,q55]:=hS.join hR48 hm48
        have hm48:=MLe.weakX (O0:=[]) hT hm48
        refine q_x (v:=(.tuple #[(.agg #[s49.v]),s50.v,(.agg #[(iV t_47.2.2.1.Level),s51.v,s52.v,(iV t_47.2.2.1.Sum)]),(.agg #[(iV t_47.2.2.2.1.Level),s53.v,s54.v,(iV t_47.2.2.2.1.Sum)]),s55.v])) hF hS (ex_move rfl) rfl rfl fun a hF=>q_x (v:=(.agg #[s49.v])) hF hS (ex_extract rfl rfl) rfl rfl fun a hF=>q_x (v:=s50.v) hF hS (ex_extract rfl rfl) rfl rfl fun a hF=>q_x (v:=(.agg #[(iV t_47.2.2.1.Level),s51.v,s52.v,(iV t_47.2.2.1.Sum)])) hF hS (ex_extract rfl rfl) rfl rfl fun a hF=>q_x (v:=(.agg #[(iV t_47.2.2.2.1.Level),s53.v,s54.v,(iV t_47.2.2.2.1.Sum)])) hF hS (ex_extract rfl rfl) rfl rfl fun a hF=>q_x (v:=s55.v) hF hS (ex_extract rfl rfl) rfl rfl fun a hF=>q_alloc (cs:=[nilS.v]) hF hS rfl rfl rfl fun a w b56 hF hS=>q_alloc (cs:=[(iV 0),nilS.v,nilS.v,(iV 0)]) hF hS rfl rfl rfl fun a w b57 hF hS=>q_alloc (cs:=[(iV 0),nilS.v,nilS.v,(iV 0)]) hF hS rfl rfl rfl fun a w b58 hF hS=>q_store (vs:=[s49.v]) (cs':=[s49.v]) 2 0 hF hS sz26 rfl rfl rfl rfl rfl rfl rfl rfl fun a w hF hS=>q_x (v:=s50.v) hF hS (ex_assign rfl) rfl rfl fun a hF=>q_store (vs:=[(iV t_47.2.2.1.Level),s51.v,s52.v,(iV t_47.2.2.1.Sum)]) (cs':=[(iV t_47.2.2.1.Level),s51.v,s52.v,(iV t_47.2.2.1.Sum)]) 1 0 hF hS sz29 rfl rfl rfl rfl rfl rfl rfl rfl fun a w hF hS=>q_store (vs:=[(iV t_47.2.2.2.1.Level),s53.v,s54.v,(iV t_47.2.2.2.1.Sum)]) (cs':=[(iV t_47.2.2.2.1.Level),s53.v,s54.v,(iV t_47.2.2.2.1.Sum)]) 0 0 hF hS sz29 rfl rfl rfl rfl rfl rfl rfl rfl fun a w hF hS=>q_x (v:=s55.v) hF hS (ex_assign rfl) rfl rfl fun a hF=>q_end (n_sq (q_seq (q_region (q_x (v:=(.agg #[s49.v])) hF hS (ex_loadA (vs:=[s49.v]) 2 0 Tryz.underlying26 rfl sz26 rfl rfl rfl rfl) rfl rfl fun a hF=>q_x (v:=s50.v) hF hS (ex_move rfl) rfl rfl fun a hF=>q_x (v:=(.agg #[(iV t_47.2.2.1.Level),s51.v,s52.v,(iV t_47.2.2.1.Sum)])) hF hS (ex_loadA (vs:=[(iV t_47.2.2.1.Level),s51.v,s52.v,(iV t_47.2.2.1.Sum)]) 1 0 Tryz.underlying29 rfl sz29 rfl rfl rfl rfl) rfl rfl fun a hF=>q_x (v:=(.agg #[(iV t_47.2.2.2.1.Level),s53.v,s54.v,(iV t_47.2.2.2.1.Sum)])) hF hS (ex_loadA (vs:=[(iV t_47.2.2.2.1.Level),s53.v,s54.v,(iV t_47.2.2.2.1.Sum)]) 0 0 Tryz.underlying29 rfl sz29 rfl rfl rfl rfl) rfl rfl fun a hF=>q_x (v:=s55.v) hF hS (ex_move rfl) rfl rfl fun a hF=>?_))))
        obtain ⟨m60,hl60,hv60,hz60⟩:=hS.lend
        obtain ⟨t_59,ht_59,hr⟩:=bindS hr
        refine q_call (vs:=[(.agg #[s49.v]),s50.v,(.agg #[(iV t_47.2.2.1.Level),s51.v,s52.v,(iV t_47.2.2.1.Sum)]),(.agg #[(iV t_47.2.2.2.1.Level),s53.v,s54.v,(iV t_47.2.2.2.1.Sum)]),s55.v]) hF hS Tryz.func10 (by kernel_rfl) rfl rfl rfl (c_impl_DeriveCells t_47.1 t_47.2.1 t_47.2.2.1 t_47.2.2.2.1 t_47.2.2.2.2 t_59 ht_59 _ m60 hv60 s49 (h49.froz hl60 (hz60 3 _ rfl)) s50 (h50.mono hl60) s51 (h51.froz hl60 (hz60 4 _ rfl)) s52 (h52.froz hl60 (hz60 5 _ rfl)) s53 (h53.froz hl60 (hz60 6 _ rfl)) s54 (h54.froz hl60 (hz60 7 _ rfl)) s55 (h55.froz hl60 (hz60 8 _ rfl))) ?_
        rintro a w _ ⟨q62,s62,rfl,hR61,h62⟩ hF hS2
        have hS : St _ _ _ _ [q62,[⟨b58,[(iV t_47.2.2.2.1.Level),s53.v,s54.v,(iV t_47.2.2.2.1.Sum)],29⟩],[⟨b57,[(iV t_47.2.2.1.Level),s51.v,s52.v,(iV t_47.2.2.1.Sum)],29⟩],[⟨b56,[s49.v],26⟩],q49,q51,q52,q53,q54,q55]:=hS.joinF hR61
        have h62:=h62.any m48
        refine q_x (v:=(.tuple #[s62.v,(.bool t_59.2)])) hF hS (ex_move rfl) rfl rfl fun a hF=>q_x (v:=s62.v) hF hS (ex_extract rfl rfl) rfl rfl fun a hF=>q_x (v:=(.bool t_59.2)) hF hS (ex_extract rfl rfl) rfl rfl fun a hF=>q_x (v:=s62.v) hF hS (ex_assign rfl) rfl rfl fun a hF=>q_x (v:=(.bool t_59.2)) hF hS (ex_assign rfl) rfl rfl fun a hF=>q_end (n_sq (q_seq (q_region (q_x (v:=(.agg #[s49.v])) hF hS (ex_loadA (vs:=[s49.v]) 3 0 Tryz.underlying26 rfl sz26 rfl rfl rfl rfl) rfl rfl fun a hF=>q_x (v:=s50.v) hF hS (ex_move rfl) rfl rfl fun a hF=>q_x (v:=(.agg #[(iV t_47.2.2.1.Level),s51.v,s52.v,(iV t_47.2.2.1.Sum)])) hF hS (ex_loadA (vs:=[(iV t_47.2.2.1.Level),s51.v,s52.v,(iV t_47.2.2.1.Sum)]) 2 0 Tryz.underlying29 rfl sz29 rfl rfl rfl rfl) rfl rfl fun a hF=>q_x (v:=(.agg #[(iV t_47.2.2.2.1.Level),s53.v,s54.v,(iV t_47.2.2.2.1.Sum)])) hF hS (ex_loadA (vs:=[(iV t_47.2.2.2.1.Level),s53.v,s54.v,(iV t_47.2.2.2.1.Sum)]) 1 0 Tryz.underlying29 rfl sz29 rfl rfl rfl rfl) rfl rfl fun a hF=>q_x (v:=s55.v) hF hS (ex_move rfl) rfl rfl fun a hF=>?_))))
        obtain ⟨m64,hl64,hv64,hz64⟩:=hS.lend
        obtain ⟨t_63,ht_63,hr⟩:=bindS hr
        refine q_call (vs:=[(.agg #[s49.v]),s50.v,(.agg #[(iV t_47.2.2.1.Level),s51.v,s52.v,(iV t_47.2.2.1.Sum)]),(.agg #[(iV t_47.2.2.2.1.Level),s53.v,s54.v,(iV t_47.2.2.2.1.Sum)]),s55.v]) hF hS Tryz.func15 (by kernel_rfl) rfl rfl rfl (c_spec_DeriveCells t_47.1 t_47.2.1 t_47.2.2.1 t_47.2.2.2.1 t_47.2.2.2.2 t_63 ht_63 _ m64 hv64 s49 (h49.froz hl64 (hz64 4 _ rfl)) s50 (h50.mono hl64) s51 (h51.froz hl64 (hz64 5 _ rfl)) s52 (h52.froz hl64 (hz64 6 _ rfl)) s53 (h53.froz hl64 (hz64 7 _ rfl)) s54 (h54.froz hl64 (hz64 8 _ rfl)) s55 (h55.froz hl64 (hz64 9 _ rfl))) ?_
        rintro a w _ ⟨q66,s66,rfl,hR65,h66⟩ hF hS2
        have hS : St _ _ _ _ [q66,q62,[⟨b58,[(iV t_47.2.2.2.1.Level),s53.v,s54.v,(iV t_47.2.2.2.1.Sum)],29⟩],[⟨b57,[(iV t_47.2.2.1.Level),s51.v,s52.v,(iV t_47.2.2.1.Sum)],29⟩],[⟨b56,[s49.v],26⟩],q49,q51,q52,q53,q54,q55]:=hS.joinF hR65
        have h66:=h66.any m48
        refine q_x (v:=(.tuple #[s66.v,(.bool t_63.2)])) hF hS (ex_move rfl) rfl rfl fun a hF=>q_x (v:=s66.v) hF hS (ex_extract rfl rfl) rfl rfl fun a hF=>q_x (v:=(.bool t_63.2)) hF hS (ex_extract rfl rfl) rfl rfl fun a hF=>q_x (v:=s66.v) hF hS (ex_assign rfl) rfl rfl fun a hF=>q_x (v:=(.bool t_63.2)) hF hS (ex_assign rfl) rfl rfl fun a hF=>q_end (n_sq (q_seq ?_))
        obtain ⟨t_69,hj17,hr⟩:=bindS hr
        refine q_join (fun a w=>Fr a 174 [(4,(.bool t_69))]∧St [] w0 w m48 []) ?_ ?_
        ·refine q_region (q_x (v:=(.bool t_59.2)) hF hS (ex_move rfl) rfl rfl fun a hF=>q_x (v:=(.bool t_63.2)) hF hS (ex_move rfl) rfl rfl fun a hF=>q_x (v:=(.bool (t_59.2 == t_63.2))) hF hS (ex_beq Tryz.underlying4 rfl rfl) rfl rfl fun a hF=>q_x (v:=(.bool (t_59.2 == t_63.2))) hF hS (ex_move rfl) rfl rfl fun a hF=>?_)
         rcases bcase (t_59.2 == t_63.2) with hc18 | hc18
         ·have hj17:=cond_f hc18 hj17
          refine q_skip hF (wanted_f hF rfl rfl rfl hc18 rfl) rfl fun a hF=>q_skip hF (wanted_f hF rfl rfl rfl hc18 rfl) rfl fun a hF=>q_skip hF (wanted_f hF rfl rfl rfl hc18 rfl) rfl fun a hF=>q_x (v:=(.bool false)) hF hS (ex_pick_f rfl rfl hc18) rfl rfl fun a hF=>q_x (v:=(.bool false)) hF hS (ex_assign rfl) rfl rfl fun a hF=>q_end (n_jn ?_)
          obtain rfl:=someI hj17
          exact ⟨hF.sub ⟨rfl,trivial⟩,hS.mask [false,false,false,false,false,false,false,false,false,false,false]⟩
         ·have hj17:=cond_t hc18 hj17
          refine q_xg (v:=s62.v) hF hS (ex_move rfl) (wanted_t hF rfl rfl rfl hc18) rfl fun a hF=>q_xg (v:=s66.v) hF hS (ex_move rfl) (wanted_t hF rfl rfl rfl hc18) rfl fun a hF=>?_
          obtain ⟨m68,hl68,hv68,hz68⟩:=hS.lend
          obtain ⟨t_67,ht_67,hj17⟩:=bindS hj17
          refine q_callg (vs:=[s62.v,s66.v]) hF hS (wanted_t hF rfl rfl rfl hc18) Tryz.func11 (by kernel_rfl) rfl rfl rfl (c_laws_sameInts t_59.1 t_63.1 t_67 ht_67 _ m68 hv68 s62 (h62.froz hl68 (hz68 1 _ rfl)) s66 (h66.froz hl68 (hz68 0 _ rfl))) ?_
          rintro a w _ rfl hF hS
          refine q_x (v:=(.bool t_67)) hF hS (ex_pick_t rfl rfl hc18) rfl rfl fun a hF=>q_x (v:=(.bool t_67)) hF hS (ex_assign rfl) rfl rfl fun a hF=>q_end (n_jn ?_)
          obtain rfl:=someI hj17
          exact ⟨hF.sub ⟨rfl,trivial⟩,hS.mask [false,false,false,false,false,false,false,false,false,false,false]⟩
        ·rintro a w ⟨hF,hS⟩
         refine n_sq (q_ret ?_)
         obtain rfl:=someI hr
         exact ret_of hF hS rfl (.tmp rfl .nil) rfl
       ·have hr:=cond_t hc16 hr
        refine q_cond_t hF rfl hc16 (q_seq (q_region (q_x (v:=(.bool false)) hF hS (ex_assign rfl) rfl rfl fun a hF=>q_end (n_sq (q_ret (r_sq ?_))))))
        obtain rfl:=someI hr
        exact ret_of hF hS rfl (.tmp rfl .nil) rfl
   ·have hr:=cond_t hc4 hr
    refine q_cond_t hF rfl hc4 (q_seq (q_region (q_x (v:=(.bool false)) hF hS (ex_assign rfl) rfl rfl fun a hF=>q_end (n_sq (q_ret (r_sq ?_))))))
    obtain rfl:=someI hr
    exact ret_of hF hS rfl (.tmp rfl .nil) rfl
 ·have hr:=cond_t hc1 hr
  refine q_cond_t hF rfl hc1 (q_seq (q_region (q_x (v:=(.bool true)) hF hS (ex_assign rfl) rfl rfl fun a hF=>q_end (n_sq (q_ret (r_sq ?_))))))
  obtain rfl:=someI hr
  exact ret_of hF hS rfl (.tmp rfl .nil) rfl

end Go.Proofs.YtnmimeojimfogaaGreat
