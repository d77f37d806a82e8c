/- The walks of the functions: each returns what its plain function says. -/
import Derived.Test.YtpjcfmpfiadkgaaFWalks1
namespace Go.Proofs.Ytpjcfmpfiadkgaa
open Go.Gx Go.Gx.F Go.RowKit
set_option linter.all false
set_option maxRecDepth 10000


theorem c_slices_Clone_int_int (p_s : List Int) (r : (List Int)) (hr : slices_Clone_int_int p_s = some r) (w0 : World) (m : Mem) (hv : Vis m w0) (s1 : Sl) (h1 : Rd m s1 p_s) :
  Ret Try.prog 149 [s1.v] w0 (fun v w=>∃ (q0' : Piece) (s0' : Sl),v = s0'.v∧St [] w0 w m [q0']∧OwnL m 3 q0' s0' r):=by
 unfold slices_Clone_int_int at hr
 refine ret_start Try.func149 rfl 8 rfl rfl m hv fun a hF hS=>q_seq (q_region (q_x (v:=nilS.v) hF hS (ex_assign rfl) rfl rfl fun a hF=>q_end (n_sq (q_seq (q_seq (q_region (q_x (v:=s1.v) hF hS (ex_move rfl) rfl rfl fun a hF=>q_x (v:=(.bool s1.p.isNone)) hF hS (ex_eqNil Try.underlying28 rfl rfl) rfl rfl fun a hF=>q_end (n_sq ?_))))))))
 rcases bcase (s1.p.isNone) with hc1 | hc1
 ·refine q_cond_f hF rfl hc1 (q_skipc (n_sq (q_seq (q_region (q_do rfl fun _ hK=>wp_build0 (α:=Int) hF hS Try.underlying28 inf3 rfl fun a w q2 s2 hF hS h2 _=>hK _ _ (q_x (v:=s1.v) hF hS (ex_move rfl) rfl rfl fun a hF=>?_))))))
  obtain ⟨l_3,hl_3,hr⟩:=bindS hr
  refine q_do rfl fun _ hK=>wp_append hF hS h2 Try.underlying28 inf3 rfl rfl rfl rfl (h1.vw hS.vis) rfl (by decide) hl_3 rfl fun a w q4 s4 hF hS h4=>hK _ _ (q_x (v:=s4.v) hF hS (ex_assign rfl) rfl rfl fun a hF=>q_end (n_sq (q_ret ?_)))
  obtain rfl:=someI hr
  exact ret_of hF hS rfl (.tmp rfl .nil) ⟨q4,s4,rfl,hS.sel [0] (by decide),h4⟩
 ·have hnhc1:=h1.nilE hc1
  have hr : (some ([] : List Int)) = some r:=by rw [hnhc1] at hr; exact hr
  refine q_cond_t hF rfl hc1 (q_seq (q_region (q_x (v:=nilS.v) hF hS (ex_assign rfl) rfl rfl fun a hF=>q_end (n_sq (q_ret (r_sq ?_))))))
  obtain rfl:=someI hr
  exact ret_of hF hS rfl (.tmp rfl .nil) ⟨[],nilS,rfl,hS.sel [0] (by decide),(OwnL.nil (α:=Int) m 3)⟩

theorem c_impl_copyMatrix (p_x : List (List Int)) (r : (List (List Int))) (hr : impl_copyMatrix p_x = some r) (w0 : World) (m : Mem) (hv : Vis m w0) (s1 : Sl) (h1 : Rd m s1 p_x) :
  Ret Try.prog 75 [s1.v] w0 (fun v w=>∃ (q0' : Piece) (s0' : Sl),v = s0'.v∧St [] w0 w m [q0']∧OwnD m 28 3 q0' s0' r∧NF s0' r):=by
 unfold impl_copyMatrix at hr
 refine ret_start Try.func75 rfl 23 rfl rfl m hv fun a hF hS=>q_seq (q_region (q_x (v:=nilS.v) hF hS (ex_assign rfl) rfl rfl fun a hF=>q_end (n_sq (q_seq (q_region (q_x (v:=s1.v) hF hS (ex_move rfl) rfl rfl fun a hF=>q_x (v:=(iV (goLen p_x))) hF hS (ex_len Try.underlying23 rfl h1.len) rfl rfl fun a hF=>?_))))))
 obtain ⟨l_2,hl_2,hr⟩:=bindS hr
 obtain ⟨u_4,hu_4,hr⟩:=bindS hr
 refine q_do rfl fun _ hK=>wp_makeD (Ei:=3) hF hS Try.underlying23 inf28 rfl rfl rfl (by decide) hl_2 rfl fun a w q3 s3 hF hS h3 _=>hK _ _ (q_x (v:=s3.v) hF hS (ex_assign rfl) rfl rfl fun a hF=>q_end (n_sq (q_seq (q_seq (q_region (q_x (v:=s1.v) hF hS (ex_move rfl) rfl rfl fun a hF=>q_x (v:=(iV (goLen p_x))) hF hS (ex_len Try.underlying23 rfl h1.len) rfl rfl fun a hF=>q_x (v:=(iV 0)) hF hS (ex_move rfl) rfl rfl fun a hF=>q_end (n_sq (q_block ?_))))))))
 obtain ⟨out_17,hl1,hr⟩:=bindS hr
 refine q_loop (fun (s : (List (List Int)) × Int) a w=>∃ (q6 : Piece),∃ out_5,∃ t_7,s = (out_5,t_7)∧Fr a 23 [(3,s3.v),(9,s1.v),(10,(iV (goLen p_x))),(11,(iV t_7))]∧St [] w0 w m [q6]∧OwnD m 28 3 q6 s3 out_5∧NF s3 out_5) (fun (out_17 : (List (List Int))) e a w=>∃ (q18 : Piece),e = .exit 0∧Fr a 23 [(3,s3.v)]∧St [] w0 w m [q18]∧OwnD m 28 3 q18 s3 out_17∧NF s3 out_17) hl1 ⟨q3,_,_,rfl,hF.sub ⟨rfl,rfl,rfl,rfl,trivial⟩,hS,h3,(NF.goNE hu_4)⟩ ?_ ?_
 ·clear hF hS
  rintro s a w st ⟨q6,out_5,t_7,rfl,hF,hS,h6,h6n⟩ hb1
  unfold impl_copyMatrix_l1 at hb1
  refine q_seq (q_region (q_x (v:=(.bool (decide (t_7 < (goLen p_x))))) hF hS (ex_ibin rfl rfl rfl) rfl rfl fun a hF=>q_end (n_sq (q_seq ?_))))
  rcases bcase (decide (t_7 < (goLen p_x))) with hc2 | hc2
  ·have hb1:=cond_f hc2 hb1
   refine q_cond_f hF rfl hc2 (q_exit (x_sq ?_))
   obtain rfl:=someI hb1
   exact ⟨nofun,.inl ⟨q6,rfl,hF.sub ⟨rfl,trivial⟩,hS,h6,h6n⟩⟩
  ·have hb1:=cond_t hc2 hb1
   refine q_cond_t hF rfl hc2 (q_skipc (n_sq (q_seq (q_block (q_seq (q_region (q_x (v:=(iV t_7)) hF hS (ex_move rfl) rfl rfl fun a hF=>?_)))))))
   obtain ⟨e_8,he_8,hb1⟩:=bindS hb1
   obtain ⟨vs9,at9,d9⟩:=h1.at he_8 1 rfl
   obtain ⟨s10,rfl,h10⟩ : ∃ s10 : Sl,vs9 = [s10.v]∧Rd m s10 e_8:=d9
   refine q_x (v:=(elP s1 (t_7.toNat * 1))) hF hS (ex_indexAddr Try.underlying23 sz28 rfl rfl (h1.idx he_8)) rfl rfl fun a hF=>q_x (v:=s10.v) hF hS (ex_loadE1 0 Try.underlying28 rfl rfl ((at9).at) rfl rfl) rfl rfl fun a hF=>q_x (v:=(iV t_7)) hF hS (ex_assign rfl) rfl rfl fun a hF=>q_x (v:=s10.v) hF hS (ex_assign rfl) rfl rfl fun a hF=>q_end (n_sq (q_region (q_x (v:=s3.v) hF hS (ex_move rfl) rfl rfl fun a hF=>q_x (v:=(iV t_7)) hF hS (ex_move rfl) rfl rfl fun a hF=>q_x (v:=s10.v) hF hS (ex_move rfl) rfl rfl fun a hF=>?_)))
   obtain ⟨t_11,ht_11,hb1⟩:=bindS hb1
   refine q_call (vs:=[s10.v]) hF hS Try.func149 (by kernel_rfl) rfl rfl rfl (c_slices_Clone_int_int e_8 t_11 ht_11 _ m hS.vis s10 h10) ?_
   rintro a w _ ⟨q13,s13,rfl,hR12,h13⟩ hF hS2
   have hS : St _ _ _ _ [q13,q6]:=hS.joinF hR12
   obtain ⟨e_14,he_14,hb1⟩:=bindS hb1
   obtain ⟨s15,hV15⟩:=h6.view he_14
   refine q_x (v:=(elP s3 (t_7.toNat * 1))) hF hS (ex_indexAddr Try.underlying23 sz28 rfl rfl (h6.idx he_14)) rfl rfl fun a hF=>?_
   have hS : St _ _ _ _ [q6,q13]:=hS.sel [1,0] (by decide)
   refine q_do rfl fun _ hK=>wp_storeD hF hS h6 h13 sz28 rfl rfl he_14 rfl fun w q16 hS h16=>hK _ _ (q_end (n_ib (n_sq (q_region (q_x (v:=(iV (w64 (t_7 + 1)))) hF hS (ex_ibin rfl rfl rfl) rfl rfl fun a hF=>q_x (v:=(iV (w64 (t_7 + 1)))) hF hS (ex_move rfl) rfl rfl fun a hF=>q_end ?_)))))
   obtain rfl:=someI hb1
   exact ⟨rfl,q16,_,_,rfl,hF.sub ⟨rfl,rfl,rfl,rfl,trivial⟩,hS,h16,(NF.set h6n)⟩
 ·rintro e a w ⟨q18,rfl,hF,hS,h18,h18n⟩
  refine x_ib (n_sq ?_)
  refine q_seq (q_region (q_x (v:=s3.v) hF hS (ex_move rfl) rfl rfl fun a hF=>q_x (v:=s3.v) hF hS (ex_assign rfl) rfl rfl fun a hF=>q_end (n_sq (q_ret ?_))))
  obtain rfl:=someI hr
  exact ret_of hF hS rfl (.tmp rfl .nil) ⟨q18,s3,rfl,hS.sel [0] (by decide),h18,h18n⟩

theorem c_impl_restore (p_t : impl_Transport) (p_x : List (List Int)) (p_r : List (List Int)) (p_fixed : Int) (r : (List (List Int))) (hr : impl_restore p_t p_x p_r p_fixed = some r) (w0 : World) (m : Mem) (hv : Vis m w0) (s1 : Sl) (h1 : Rd m s1 p_t.Rows) (s2 : Sl) (h2 : Rd m s2 p_t.Cols) (s3 : Sl) (h3 : Rd m s3 p_t.Lo) (s4 : Sl) (h4 : Rd m s4 p_t.Hi) (s5 : Sl) (h5 : Rd m s5 p_x) (s6 : Sl) (h6 : Rd m s6 p_r) :
  Ret Try.prog 169 [(.agg #[s1.v,s2.v,s3.v,s4.v]),s5.v,s6.v,(iV p_fixed)] w0 (fun v w=>∃ (q0' : Piece) (s0' : Sl),v = s0'.v∧St [] w0 w m [q0']∧OwnD m 28 3 q0' s0' r∧NF s0' r):=by
 unfold impl_restore at hr
 refine ret_start Try.func169 rfl 69 rfl rfl m hv fun a hF hS=>q_seq (q_region (q_box (cs:=[s1.v,s2.v,s3.v,s4.v]) hF hS rfl rfl rfl fun a w b7 hF hS=>q_x (v:=nilS.v) hF hS (ex_assign rfl) rfl rfl fun a hF=>q_end (n_sq (q_seq (e_region ⟨[],[],m⟩ mixed fun w' hw'=>?_)))))
 have hS:=hS.below hw'
 refine e_p (v:=(.pointer (some ⟨b7,0,none⟩))) 0 hF rfl (ex_fieldAddr Try.underlying50 rfl sz28 rfl rfl) rfl rfl (by kernel_rfl) (by kernel_rfl) (by kernel_rfl) fun a hF=>e_x (v:=s1.v) 1 hF hS rfl (ex_load1 0 0 Try.underlying28 rfl rfl rfl rfl) rfl rfl (by kernel_rfl) (by kernel_rfl) (by kernel_rfl) (by kernel_rfl) fun a hF=>e_p (v:=(iV (goLen p_t.Rows))) 2 hF rfl (ex_len Try.underlying28 rfl h1.len) rfl rfl (by kernel_rfl) (by kernel_rfl) (by kernel_rfl) fun a hF=>e_p (v:=(.pointer (some ⟨b7,1,none⟩))) 3 hF rfl (ex_fieldAddr Try.underlying50 rfl sz28 rfl rfl) rfl rfl (by kernel_rfl) (by kernel_rfl) (by kernel_rfl) fun a hF=>e_x (v:=s2.v) 4 hF hS rfl (ex_load1 0 0 Try.underlying28 rfl rfl rfl rfl) rfl rfl (by kernel_rfl) (by kernel_rfl) (by kernel_rfl) (by kernel_rfl) fun a hF=>e_p (v:=(iV (goLen p_t.Cols))) 5 hF rfl (ex_len Try.underlying28 rfl h2.len) rfl rfl (by kernel_rfl) (by kernel_rfl) (by kernel_rfl) fun a hF=>e_p (v:=(iV (goLen p_t.Rows))) 6 hF rfl (ex_assign rfl) rfl rfl (by kernel_rfl) (by kernel_rfl) (by kernel_rfl) fun a hF=>e_p (v:=(iV (goLen p_t.Cols))) 7 hF rfl (ex_assign rfl) rfl rfl (by kernel_rfl) (by kernel_rfl) (by kernel_rfl) fun a hF=>e_end (by kernel_rfl) (n_sq ?_) _
 refine q_seq (q_region (q_x (v:=s5.v) hF hS (ex_move rfl) rfl rfl fun a hF=>?_))
 obtain ⟨t_8,ht_8,hr⟩:=bindS hr
 refine q_call (vs:=[s5.v]) hF hS Try.func75 (by kernel_rfl) rfl rfl rfl (c_impl_copyMatrix p_x t_8 ht_8 _ m hS.vis s5 h5) ?_
 rintro a w _ ⟨q10,s10,rfl,hR9,h10,h10n⟩ hF hS2
 have hS : St _ _ _ _ [q10,[⟨b7,[s1.v,s2.v,s3.v,s4.v],50⟩]]:=hS.joinF hR9
 refine q_x (v:=s10.v) hF hS (ex_assign rfl) rfl rfl fun a hF=>q_end (n_sq (q_seq (q_seq (q_region (q_x (v:=s10.v) hF hS (ex_move rfl) rfl rfl fun a hF=>q_x (v:=(iV (goLen t_8))) hF hS (ex_len Try.underlying23 rfl h10.len) rfl rfl fun a hF=>q_x (v:=(iV 0)) hF hS (ex_move rfl) rfl rfl fun a hF=>q_end (n_sq (q_block ?_)))))))
 obtain ⟨out_38,hl1,hr⟩:=bindS hr
 refine q_loop (fun (s : (List (List Int)) × Int) a w=>∃ (q12 : Piece),∃ out_11,∃ t_13,s = (out_11,t_13)∧Fr a 69 [(2,s6.v),(3,(iV p_fixed)),(4,(.pointer (some ⟨b7,0,none⟩))),(9,(iV (goLen p_t.Rows))),(10,(iV (goLen p_t.Cols))),(11,s10.v),(23,(iV (goLen t_8))),(24,(iV t_13))]∧St [] w0 w m [q12,[⟨b7,[s1.v,s2.v,s3.v,s4.v],50⟩]]∧OwnD m 28 3 q12 s10 out_11∧NF s10 out_11) (fun (out_38 : (List (List Int))) e a w=>∃ (q39 : Piece),e = .exit 0∧Fr a 69 [(11,s10.v)]∧St [] w0 w m [q39]∧OwnD m 28 3 q39 s10 out_38∧NF s10 out_38) hl1 ⟨q10,_,_,rfl,hF.sub ⟨rfl,rfl,rfl,rfl,rfl,rfl,rfl,rfl,trivial⟩,hS,h10,h10n⟩ ?_ ?_
 ·clear hF hS
  rintro s a w st ⟨q12,out_11,t_13,rfl,hF,hS,h12,h12n⟩ hb1
  unfold impl_restore_l1 at hb1
  refine q_seq (q_region (q_x (v:=(.bool (decide (t_13 < (goLen t_8))))) hF hS (ex_ibin rfl rfl rfl) rfl rfl fun a hF=>q_end (n_sq (q_seq ?_))))
  rcases bcase (decide (t_13 < (goLen t_8))) with hc2 | hc2
  ·have hb1:=cond_f hc2 hb1
   refine q_cond_f hF rfl hc2 (q_exit (x_sq ?_))
   obtain rfl:=someI hb1
   exact ⟨nofun,.inl ⟨q12,rfl,hF.sub ⟨rfl,trivial⟩,hS.mask [true,false],h12,h12n⟩⟩
  ·have hb1:=cond_t hc2 hb1
   refine q_cond_t hF rfl hc2 (q_skipc (n_sq (q_seq (q_block (q_seq (q_region (q_x (v:=(iV t_13)) hF hS (ex_move rfl) rfl rfl fun a hF=>q_x (v:=(iV t_13)) hF hS (ex_assign rfl) rfl rfl fun a hF=>q_end (n_sq (q_seq (q_region (q_x (v:=s10.v) hF hS (ex_move rfl) rfl rfl fun a hF=>q_x (v:=(iV t_13)) hF hS (ex_move rfl) rfl rfl fun a hF=>?_)))))))))))
   obtain ⟨e_14,he_14,hb1⟩:=bindS hb1
   obtain ⟨s15,hV15⟩:=h12.view he_14
   refine q_x (v:=(elP s10 (t_13.toNat * 1))) hF hS (ex_indexAddr Try.underlying23 sz28 rfl rfl (h12.idx he_14)) rfl rfl fun a hF=>q_x (v:=s15.v) hF hS (ex_loadE1 0 Try.underlying28 rfl rfl ((hV15.atH he_14).at 0 rfl) rfl rfl) rfl rfl fun a hF=>q_x (v:=(iV (goLen e_14))) hF hS (ex_len Try.underlying28 rfl (hV15.len he_14)) rfl rfl fun a hF=>q_x (v:=(iV 0)) hF hS (ex_move rfl) rfl rfl fun a hF=>q_end (n_sq (q_block ?_))
   obtain ⟨out_36,hl3,hb1⟩:=bindS hb1
   refine q_loop (fun (s : (List (List Int)) × Int) a w=>∃ (q17 : Piece),∃ out_16,∃ t_18,s = (out_16,t_18)∧Fr a 69 [(2,s6.v),(3,(iV p_fixed)),(4,(.pointer (some ⟨b7,0,none⟩))),(9,(iV (goLen p_t.Rows))),(10,(iV (goLen p_t.Cols))),(11,s10.v),(12,(iV t_13)),(23,(iV (goLen t_8))),(24,(iV t_13)),(31,(iV (goLen e_14))),(32,(iV t_18))]∧St [] w0 w m [q17,[⟨b7,[s1.v,s2.v,s3.v,s4.v],50⟩]]∧OwnD m 28 3 q17 s10 out_16∧NF s10 out_16) (fun (out_36 : (List (List Int))) e a w=>∃ (q37 : Piece),e = .exit 2∧Fr a 69 [(2,s6.v),(3,(iV p_fixed)),(4,(.pointer (some ⟨b7,0,none⟩))),(9,(iV (goLen p_t.Rows))),(10,(iV (goLen p_t.Cols))),(11,s10.v),(23,(iV (goLen t_8))),(24,(iV t_13))]∧St [] w0 w m [q37,[⟨b7,[s1.v,s2.v,s3.v,s4.v],50⟩]]∧OwnD m 28 3 q37 s10 out_36∧NF s10 out_36) hl3 ⟨q12,_,_,rfl,hF.sub ⟨rfl,rfl,rfl,rfl,rfl,rfl,rfl,rfl,rfl,rfl,rfl,trivial⟩,hS,h12,h12n⟩ ?_ ?_
   ·clear hF hS
    rintro s a w st ⟨q17,out_16,t_18,rfl,hF,hS,h17,h17n⟩ hb3
    unfold impl_restore_l2 at hb3
    refine q_seq (q_region (q_x (v:=(.bool (decide (t_18 < (goLen e_14))))) hF hS (ex_ibin rfl rfl rfl) rfl rfl fun a hF=>q_end (n_sq (q_seq ?_))))
    rcases bcase (decide (t_18 < (goLen e_14))) with hc4 | hc4
    ·have hb3:=cond_f hc4 hb3
     refine q_cond_f hF rfl hc4 (q_exit (x_sq ?_))
     obtain rfl:=someI hb3
     exact ⟨nofun,.inl ⟨q17,rfl,hF.sub ⟨rfl,rfl,rfl,rfl,rfl,rfl,rfl,rfl,trivial⟩,hS,h17,h17n⟩⟩
    ·have hb3:=cond_t hc4 hb3
     refine q_cond_t hF rfl hc4 (q_skipc (n_sq (q_seq (q_block (q_seq (q_region (q_x (v:=(iV t_18)) hF hS (ex_move rfl) rfl rfl fun a hF=>q_x (v:=(iV t_18)) hF hS (ex_assign rfl) rfl rfl fun a hF=>q_end (n_sq (q_seq (q_region (q_x (v:=(iV t_13)) hF hS (ex_move rfl) rfl rfl fun a hF=>q_x (v:=(iV (goLen p_t.Cols))) hF hS (ex_move rfl) rfl rfl fun a hF=>q_x (v:=(iV (w64 (t_13 * (goLen p_t.Cols))))) hF hS (ex_ibin rfl rfl rfl) rfl rfl fun a hF=>q_x (v:=(iV t_18)) hF hS (ex_move rfl) rfl rfl fun a hF=>q_x (v:=(iV (w64 ((w64 (t_13 * (goLen p_t.Cols))) + t_18)))) hF hS (ex_ibin rfl rfl rfl) rfl rfl fun a hF=>q_x (v:=(iV p_fixed)) hF hS (ex_move rfl) rfl rfl fun a hF=>q_x (v:=(.bool (decide (p_fixed < (w64 ((w64 (t_13 * (goLen p_t.Cols))) + t_18)))))) hF hS (ex_ibin rfl rfl rfl) rfl rfl fun a hF=>q_end (n_sq ?_))))))))))))
     obtain ⟨out_34,hj5,hb3⟩:=bindS hb3
     refine q_join (fun a w=>∃ (q35 : Piece),Fr a 69 [(2,s6.v),(3,(iV p_fixed)),(4,(.pointer (some ⟨b7,0,none⟩))),(9,(iV (goLen p_t.Rows))),(10,(iV (goLen p_t.Cols))),(11,s10.v),(12,(iV t_13)),(23,(iV (goLen t_8))),(24,(iV t_13)),(31,(iV (goLen e_14))),(32,(iV t_18))]∧St [] w0 w m [q35,[⟨b7,[s1.v,s2.v,s3.v,s4.v],50⟩]]∧OwnD m 28 3 q35 s10 out_34∧NF s10 out_34) ?_ ?_
     ·rcases bcase (decide (p_fixed < (w64 ((w64 (t_13 * (goLen p_t.Cols))) + t_18)))) with hc6 | hc6
      ·have hj5:=cond_f hc6 hj5
       refine q_cond_f hF rfl hc6 (q_skipc (n_jn ?_))
       obtain rfl:=someI hj5
       exact ⟨q17,hF.sub ⟨rfl,rfl,rfl,rfl,rfl,rfl,rfl,rfl,rfl,rfl,rfl,trivial⟩,hS,h17,h17n⟩
      ·have hj5:=cond_t hc6 hj5
       refine q_cond_t hF rfl hc6 (e_region ⟨[24],[b7],m⟩ mixed fun w' hw'=>?_)
       have hS:=hS.below hw'
       refine e_p (v:=s10.v) 0 hF rfl (ex_move rfl) rfl rfl (by kernel_rfl) (by kernel_rfl) (by kernel_rfl) fun a hF=>e_p (v:=(iV t_13)) 1 hF rfl (ex_move rfl) rfl rfl (by kernel_rfl) (by kernel_rfl) (by kernel_rfl) fun a hF=>?_
       obtain ⟨e_19,he_19,hj5⟩:=bindS hj5
       obtain ⟨s20,hV20⟩:=h17.view he_19
       refine e_p (v:=(elP s10 (t_13.toNat * 1))) 2 hF rfl (ex_indexAddr Try.underlying23 sz28 rfl rfl (h17.idx he_19)) rfl rfl (by kernel_rfl) (by kernel_rfl) (by kernel_rfl) fun a hF=>e_x (v:=s20.v) 3 hF hS rfl (ex_loadE1 0 Try.underlying28 rfl rfl ((hV20.atH he_19).at 0 rfl) rfl rfl) rfl rfl (by kernel_rfl) (by kernel_rfl) (by kernel_rfl) (by kernel_rfl) fun a hF=>e_p (v:=(iV t_18)) 4 hF rfl (ex_move rfl) rfl rfl (by kernel_rfl) (by kernel_rfl) (by kernel_rfl) fun a hF=>e_p (v:=(.pointer (some ⟨b7,3,none⟩))) 5 hF rfl (ex_fieldAddr Try.underlying50 rfl sz23 rfl rfl) rfl rfl (by kernel_rfl) (by kernel_rfl) (by kernel_rfl) fun a hF=>e_xb (v:=s4.v) 6 1 hF hS (.head _) rfl rfl (ex_load1 0 0 Try.underlying23 rfl rfl rfl rfl) rfl rfl (by kernel_rfl) (by kernel_rfl) (by kernel_rfl) fun a hF=>e_p (v:=(iV t_13)) 7 hF rfl (ex_move rfl) rfl rfl (by kernel_rfl) (by kernel_rfl) (by kernel_rfl) fun a hF=>?_
       obtain ⟨e_21,he_21,hj5⟩:=bindS hj5
       obtain ⟨vs22,at22,d22⟩:=h4.at he_21 1 rfl
       obtain ⟨s23,rfl,h23⟩ : ∃ s23 : Sl,vs22 = [s23.v]∧Rd m s23 e_21:=d22
       refine e_p (v:=(elP s4 (t_13.toNat * 1))) 8 hF rfl (ex_indexAddr Try.underlying23 sz28 rfl rfl (h4.idx he_21)) rfl rfl (by kernel_rfl) (by kernel_rfl) (by kernel_rfl) fun a hF=>e_xm (v:=s23.v) 9 hF hS (Mem.le.refl _) rfl (ex_loadE1 0 Try.underlying28 rfl rfl ((at22).at) rfl rfl) rfl rfl (by kernel_rfl) (by kernel_rfl) (by kernel_rfl) fun a hF=>e_p (v:=(iV t_18)) 10 hF rfl (ex_move rfl) rfl rfl (by kernel_rfl) (by kernel_rfl) (by kernel_rfl) fun a hF=>?_
       obtain ⟨e_24,he_24,hj5⟩:=bindS hj5
       obtain ⟨vs25,at25,d25⟩:=h23.at he_24 1 rfl
       obtain rfl : vs25 = [(iV e_24)]:=d25
       refine e_p (v:=(elP s23 (t_18.toNat * 1))) 11 hF rfl (ex_indexAddr Try.underlying28 sz3 rfl rfl (h23.idx he_24)) rfl rfl (by kernel_rfl) (by kernel_rfl) (by kernel_rfl) fun a hF=>e_xm (v:=(iV e_24)) 12 hF hS (Mem.le.refl _) rfl (ex_loadE1 0 Try.underlying3 rfl rfl ((at25).at) rfl rfl) rfl rfl (by kernel_rfl) (by kernel_rfl) (by kernel_rfl) fun a hF=>e_p (v:=s6.v) 13 hF rfl (ex_move rfl) rfl rfl (by kernel_rfl) (by kernel_rfl) (by kernel_rfl) fun a hF=>e_p (v:=(iV t_13)) 14 hF rfl (ex_move rfl) rfl rfl (by kernel_rfl) (by kernel_rfl) (by kernel_rfl) fun a hF=>?_
       obtain ⟨e_26,he_26,hj5⟩:=bindS hj5
       obtain ⟨vs27,at27,d27⟩:=h6.at he_26 1 rfl
       obtain ⟨s28,rfl,h28⟩ : ∃ s28 : Sl,vs27 = [s28.v]∧Rd m s28 e_26:=d27
       refine e_p (v:=(elP s6 (t_13.toNat * 1))) 15 hF rfl (ex_indexAddr Try.underlying23 sz28 rfl rfl (h6.idx he_26)) rfl rfl (by kernel_rfl) (by kernel_rfl) (by kernel_rfl) fun a hF=>e_xm (v:=s28.v) 16 hF hS (Mem.le.refl _) rfl (ex_loadE1 0 Try.underlying28 rfl rfl ((at27).at) rfl rfl) rfl rfl (by kernel_rfl) (by kernel_rfl) (by kernel_rfl) fun a hF=>e_p (v:=(iV (goLen p_t.Rows))) 17 hF rfl (ex_move rfl) rfl rfl (by kernel_rfl) (by kernel_rfl) (by kernel_rfl) fun a hF=>e_p (v:=(iV t_18)) 18 hF rfl (ex_move rfl) rfl rfl (by kernel_rfl) (by kernel_rfl) (by kernel_rfl) fun a hF=>e_p (v:=(iV (w64 ((goLen p_t.Rows) + t_18)))) 19 hF rfl (ex_ibin rfl rfl rfl) rfl rfl (by kernel_rfl) (by kernel_rfl) (by kernel_rfl) fun a hF=>?_
       obtain ⟨e_29,he_29,hj5⟩:=bindS hj5
       obtain ⟨vs30,at30,d30⟩:=h28.at he_29 1 rfl
       obtain rfl : vs30 = [(iV e_29)]:=d30
       refine e_p (v:=(elP s28 ((w64 ((goLen p_t.Rows) + t_18)).toNat * 1))) 20 hF rfl (ex_indexAddr Try.underlying28 sz3 rfl rfl (h28.idx he_29)) rfl rfl (by kernel_rfl) (by kernel_rfl) (by kernel_rfl) fun a hF=>e_xm (v:=(iV e_29)) 21 hF hS (Mem.le.refl _) rfl (ex_loadE1 0 Try.underlying3 rfl rfl ((at30).at) rfl rfl) rfl rfl (by kernel_rfl) (by kernel_rfl) (by kernel_rfl) fun a hF=>e_p (v:=(iV (w64 (e_24 - e_29)))) 22 hF rfl (ex_ibin rfl rfl rfl) rfl rfl (by kernel_rfl) (by kernel_rfl) (by kernel_rfl) fun a hF=>?_
       obtain ⟨e_31,he_31,hj5⟩:=bindS hj5
       obtain ⟨vs32,at32,d32⟩:=hV20.at he_19 he_31 1 rfl
       obtain rfl : vs32 = [(iV e_31)]:=d32
       refine e_p (v:=(elP s20 (t_18.toNat * 1))) 23 hF rfl (ex_indexAddr Try.underlying28 sz3 rfl rfl (hV20.idx he_19 he_31)) rfl rfl (by kernel_rfl) (by kernel_rfl) (by kernel_rfl) fun a hF=>e_one 24 (by kernel_rfl) ?_
       have hSo:=hS
       refine e_opl rfl rfl rfl fun _ hK=>wp_storeV (e':=(w64 (e_24 - e_29))) (us:=[(iV (w64 (e_24 - e_29)))]) (vs:=[(iV e_31)]) 0 hF hS hV20 he_19 sz3 rfl rfl rfl rfl rfl rfl rfl he_31 at32 rfl rfl rfl fun w q33 hS h33=>hK _ _ (⟨⟨kpC hSo hS 1 1 rfl rfl kpN,fun _=>hS.vis.of_le (Mem.le.refl _)⟩,?_⟩)
       refine e_end (by kernel_rfl) (n_jn ?_) _
       obtain rfl:=someI hj5
       exact ⟨q33,hF.sub ⟨rfl,rfl,rfl,rfl,rfl,rfl,rfl,rfl,rfl,rfl,rfl,trivial⟩,hS,h33.own,(NF.set h17n)⟩
     ·rintro a w ⟨q35,hF,hS,h35,h35n⟩
      refine n_ib (n_sq ?_)
      refine q_region (q_x (v:=(iV (w64 (t_18 + 1)))) hF hS (ex_ibin rfl rfl rfl) rfl rfl fun a hF=>q_x (v:=(iV (w64 (t_18 + 1)))) hF hS (ex_move rfl) rfl rfl fun a hF=>q_end ?_)
      obtain rfl:=someI hb3
      exact ⟨rfl,q35,_,_,rfl,hF.sub ⟨rfl,rfl,rfl,rfl,rfl,rfl,rfl,rfl,rfl,rfl,rfl,trivial⟩,hS,h35,h35n⟩
   ·rintro e a w ⟨q37,rfl,hF,hS,h37,h37n⟩
    refine x_ib (n_ib (n_sq ?_))
    refine q_region (q_x (v:=(iV (w64 (t_13 + 1)))) hF hS (ex_ibin rfl rfl rfl) rfl rfl fun a hF=>q_x (v:=(iV (w64 (t_13 + 1)))) hF hS (ex_move rfl) rfl rfl fun a hF=>q_end ?_)
    obtain rfl:=someI hb1
    exact ⟨rfl,q37,_,_,rfl,hF.sub ⟨rfl,rfl,rfl,rfl,rfl,rfl,rfl,rfl,trivial⟩,hS,h37,h37n⟩
 ·rintro e a w ⟨q39,rfl,hF,hS,h39,h39n⟩
  refine x_ib (n_sq ?_)
  refine q_seq (q_region (q_x (v:=s10.v) hF hS (ex_move rfl) rfl rfl fun a hF=>q_x (v:=s10.v) hF hS (ex_assign rfl) rfl rfl fun a hF=>q_end (n_sq (q_ret ?_))))
  obtain rfl:=someI hr
  exact ret_of hF hS rfl (.tmp rfl .nil) ⟨q39,s10,rfl,hS.sel [0] (by decide),h39,h39n⟩

theorem c_impl_fill (p_t : impl_Transport) (r : (List (List Int))) (hr : impl_fill p_t = some r) (w0 : World) (m : Mem) (hv : Vis m w0) (s1 : Sl) (h1 : Rd m s1 p_t.Rows) (s2 : Sl) (h2 : Rd m s2 p_t.Cols) (s3 : Sl) (h3 : Rd m s3 p_t.Lo) (s4 : Sl) (h4 : Rd m s4 p_t.Hi) :
  Ret Try.prog 168 [(.agg #[s1.v,s2.v,s3.v,s4.v])] w0 (fun v w=>∃ (q0' : Piece) (s0' : Sl),v = s0'.v∧St [] w0 w m [q0']∧OwnD m 28 3 q0' s0' r∧NF s0' r):=by
 unfold impl_fill at hr
 refine ret_start Try.func168 rfl 141 rfl rfl m hv fun a hF hS=>q_seq (q_region (q_box (cs:=[s1.v,s2.v,s3.v,s4.v]) hF hS rfl rfl rfl fun a w b5 hF hS=>q_x (v:=nilS.v) hF hS (ex_assign rfl) rfl rfl fun a hF=>q_end (n_sq (q_seq (e_region ⟨[],[],m⟩ mixed fun w' hw'=>?_)))))
 have hS:=hS.below hw'
 refine e_p (v:=(.pointer (some ⟨b5,0,none⟩))) 0 hF rfl (ex_fieldAddr Try.underlying50 rfl sz28 rfl rfl) rfl rfl (by kernel_rfl) (by kernel_rfl) (by kernel_rfl) fun a hF=>e_x (v:=s1.v) 1 hF hS rfl (ex_load1 0 0 Try.underlying28 rfl rfl rfl rfl) rfl rfl (by kernel_rfl) (by kernel_rfl) (by kernel_rfl) (by kernel_rfl) fun a hF=>e_p (v:=(iV (goLen p_t.Rows))) 2 hF rfl (ex_len Try.underlying28 rfl h1.len) rfl rfl (by kernel_rfl) (by kernel_rfl) (by kernel_rfl) fun a hF=>e_p (v:=(.pointer (some ⟨b5,1,none⟩))) 3 hF rfl (ex_fieldAddr Try.underlying50 rfl sz28 rfl rfl) rfl rfl (by kernel_rfl) (by kernel_rfl) (by kernel_rfl) fun a hF=>e_x (v:=s2.v) 4 hF hS rfl (ex_load1 0 0 Try.underlying28 rfl rfl rfl rfl) rfl rfl (by kernel_rfl) (by kernel_rfl) (by kernel_rfl) (by kernel_rfl) fun a hF=>e_p (v:=(iV (goLen p_t.Cols))) 5 hF rfl (ex_len Try.underlying28 rfl h2.len) rfl rfl (by kernel_rfl) (by kernel_rfl) (by kernel_rfl) fun a hF=>e_p (v:=(iV (goLen p_t.Rows))) 6 hF rfl (ex_assign rfl) rfl rfl (by kernel_rfl) (by kernel_rfl) (by kernel_rfl) fun a hF=>e_p (v:=(iV (goLen p_t.Cols))) 7 hF rfl (ex_assign rfl) rfl rfl (by kernel_rfl) (by kernel_rfl) (by kernel_rfl) fun a hF=>e_end (by kernel_rfl) (n_sq ?_) _
 refine q_seq (q_region (q_x (v:=(.agg #[s1.v,s2.v,s3.v,s4.v])) hF hS (ex_loadA (vs:=[s1.v,s2.v,s3.v,s4.v]) 0 0 Try.underlying50 rfl sz50 rfl rfl rfl rfl) rfl rfl fun a hF=>q_x (v:=(.pointer (some ⟨b5,2,none⟩))) hF hS (ex_fieldAddr Try.underlying50 rfl sz23 rfl rfl) rfl rfl fun a hF=>q_x (v:=s3.v) hF hS (ex_load1 0 0 Try.underlying23 rfl rfl rfl rfl) rfl rfl fun a hF=>?_))
 obtain ⟨t_6,ht_6,hr⟩:=bindS hr
 refine q_call (vs:=[(.agg #[s1.v,s2.v,s3.v,s4.v]),s3.v,(iV (-1))]) hF hS Try.func155 (by kernel_rfl) rfl rfl rfl (c_impl_residual p_t p_t.Lo (-1) t_6 ht_6 _ m hS.vis s1 h1 s2 h2 s3 h3 s4 h4 s3 h3) ?_
 rintro a w _ ⟨q8,s8,rfl,hR7,h8⟩ hF hS2
 have hS : St _ _ _ _ [q8,[⟨b5,[s1.v,s2.v,s3.v,s4.v],50⟩]]:=hS.joinF hR7
 refine q_x (v:=s8.v) hF hS (ex_assign rfl) rfl rfl fun a hF=>q_end (n_sq (q_seq (q_region (q_x (v:=(iV (goLen p_t.Rows))) hF hS (ex_move rfl) rfl rfl fun a hF=>q_x (v:=(iV (goLen p_t.Cols))) hF hS (ex_move rfl) rfl rfl fun a hF=>q_x (v:=(iV (w64 ((goLen p_t.Rows) + (goLen p_t.Cols))))) hF hS (ex_ibin rfl rfl rfl) rfl rfl fun a hF=>q_x (v:=(iV (w64 ((w64 ((goLen p_t.Rows) + (goLen p_t.Cols))) + 2)))) hF hS (ex_ibin rfl rfl rfl) rfl rfl fun a hF=>?_))))
 obtain ⟨l_9,hl_9,hr⟩:=bindS hr
 refine q_do rfl fun _ hK=>wp_makeD (Ei:=3) hF hS Try.underlying23 inf28 rfl rfl rfl (by decide) hl_9 rfl fun a w q10 s10 hF hS h10 _=>hK _ _ (q_x (v:=s10.v) hF hS (ex_assign rfl) rfl rfl fun a hF=>q_end (n_sq (q_seq (q_seq (q_region (q_x (v:=s10.v) hF hS (ex_move rfl) rfl rfl fun a hF=>q_x (v:=(iV (goLen l_9))) hF hS (ex_len Try.underlying23 rfl h10.len) rfl rfl fun a hF=>q_x (v:=(iV 0)) hF hS (ex_move rfl) rfl rfl fun a hF=>q_end (n_sq (q_block ?_))))))))
 obtain ⟨r_27,hl1,hr⟩:=bindS hr
 refine q_loop (fun (s : (List (List Int)) × Int) a w=>∃ (q12 : Piece),∃ r_11,∃ t_13,s = (r_11,t_13)∧Fr a 141 [(1,(.pointer (some ⟨b5,0,none⟩))),(3,(iV (goLen p_t.Rows))),(4,(iV (goLen p_t.Cols))),(5,s8.v),(6,s10.v),(30,(iV (goLen l_9))),(31,(iV t_13))]∧St [] w0 w m [q12,q8,[⟨b5,[s1.v,s2.v,s3.v,s4.v],50⟩]]∧OwnD m 28 3 q12 s10 r_11) (fun (r_27 : (List (List Int))) e a w=>∃ (q28 : Piece),e = .exit 0∧Fr a 141 [(1,(.pointer (some ⟨b5,0,none⟩))),(3,(iV (goLen p_t.Rows))),(4,(iV (goLen p_t.Cols))),(6,s10.v)]∧St [] w0 w m [q28,[⟨b5,[s1.v,s2.v,s3.v,s4.v],50⟩]]∧OwnD m 28 3 q28 s10 r_27) hl1 ⟨q10,_,_,rfl,hF.sub ⟨rfl,rfl,rfl,rfl,rfl,rfl,rfl,trivial⟩,hS,h10⟩ ?_ ?_
 ·clear hF hS
  rintro s a w st ⟨q12,r_11,t_13,rfl,hF,hS,h12⟩ hb1
  unfold impl_fill_l1 at hb1
  refine q_seq (q_region (q_x (v:=(.bool (decide (t_13 < (goLen l_9))))) hF hS (ex_ibin rfl rfl rfl) rfl rfl fun a hF=>q_end (n_sq (q_seq ?_))))
  rcases bcase (decide (t_13 < (goLen l_9))) with hc2 | hc2
  ·have hb1:=cond_f hc2 hb1
   refine q_cond_f hF rfl hc2 (q_exit (x_sq ?_))
   obtain rfl:=someI hb1
   exact ⟨nofun,.inl ⟨q12,rfl,hF.sub ⟨rfl,rfl,rfl,rfl,trivial⟩,hS.mask [true,false,true],h12⟩⟩
  ·have hb1:=cond_t hc2 hb1
   refine q_cond_t hF rfl hc2 (q_skipc (n_sq (q_seq (q_block (q_seq (q_region (q_x (v:=(iV t_13)) hF hS (ex_move rfl) rfl rfl fun a hF=>q_x (v:=(iV t_13)) hF hS (ex_assign rfl) rfl rfl fun a hF=>q_end (n_sq (q_seq (q_region (q_x (v:=s10.v) hF hS (ex_move rfl) rfl rfl fun a hF=>q_x (v:=(iV t_13)) hF hS (ex_move rfl) rfl rfl fun a hF=>q_x (v:=(iV (goLen p_t.Rows))) hF hS (ex_move rfl) rfl rfl fun a hF=>q_x (v:=(iV (goLen p_t.Cols))) hF hS (ex_move rfl) rfl rfl fun a hF=>q_x (v:=(iV (w64 ((goLen p_t.Rows) + (goLen p_t.Cols))))) hF hS (ex_ibin rfl rfl rfl) rfl rfl fun a hF=>q_x (v:=(iV (w64 ((w64 ((goLen p_t.Rows) + (goLen p_t.Cols))) + 2)))) hF hS (ex_ibin rfl rfl rfl) rfl rfl fun a hF=>?_)))))))))))
   obtain ⟨l_14,hl_14,hb1⟩:=bindS hb1
   refine q_do rfl fun _ hK=>wp_make (z:=(0 : Int)) hF hS Try.underlying28 inf3 rfl rfl rfl rfl rfl (by decide) hl_14 rfl fun a w q15 s15 hF hS h15 _=>hK _ _ ?_
   obtain ⟨e_16,he_16,hb1⟩:=bindS hb1
   obtain ⟨s17,hV17⟩:=h12.view he_16
   refine q_x (v:=(elP s10 (t_13.toNat * 1))) hF hS (ex_indexAddr Try.underlying23 sz28 rfl rfl (h12.idx he_16)) rfl rfl fun a hF=>?_
   have hS : St _ _ _ _ [q12,q15,q8,[⟨b5,[s1.v,s2.v,s3.v,s4.v],50⟩]]:=hS.sel [1,0,2,3] (by decide)
   refine q_do rfl fun _ hK=>wp_storeD hF hS h12 h15 sz28 rfl rfl he_16 rfl fun w q18 hS h18=>hK _ _ (q_end (n_sq (q_seq (q_region (q_x (v:=(iV t_13)) hF hS (ex_move rfl) rfl rfl fun a hF=>q_x (v:=(iV (goLen p_t.Rows))) hF hS (ex_move rfl) rfl rfl fun a hF=>q_x (v:=(iV (goLen p_t.Cols))) hF hS (ex_move rfl) rfl rfl fun a hF=>q_x (v:=(iV (w64 ((goLen p_t.Rows) + (goLen p_t.Cols))))) hF hS (ex_ibin rfl rfl rfl) rfl rfl fun a hF=>q_x (v:=(.bool (decide (t_13 < (w64 ((goLen p_t.Rows) + (goLen p_t.Cols))))))) hF hS (ex_ibin rfl rfl rfl) rfl rfl fun a hF=>q_end (n_sq ?_))))))
   obtain ⟨r_25,hj3,hb1⟩:=bindS hb1
   refine q_join (fun a w=>∃ (q26 : Piece),Fr a 141 [(1,(.pointer (some ⟨b5,0,none⟩))),(3,(iV (goLen p_t.Rows))),(4,(iV (goLen p_t.Cols))),(5,s8.v),(6,s10.v),(30,(iV (goLen l_9))),(31,(iV t_13))]∧St [] w0 w m [q8,q26,[⟨b5,[s1.v,s2.v,s3.v,s4.v],50⟩]]∧OwnD m 28 3 q26 s10 r_25) ?_ ?_
   ·rcases bcase (decide (t_13 < (w64 ((goLen p_t.Rows) + (goLen p_t.Cols))))) with hc4 | hc4
    ·have hj3:=cond_f hc4 hj3
     refine q_cond_f hF rfl hc4 (q_skipc (n_jn ?_))
     obtain rfl:=someI hj3
     exact ⟨q18,hF.sub ⟨rfl,rfl,rfl,rfl,rfl,rfl,rfl,trivial⟩,hS.sel [1,0,2] (by decide),h18⟩
    ·have hj3:=cond_t hc4 hj3
     refine q_cond_t hF rfl hc4 (e_region ⟨[8],[],m⟩ mixed fun w' hw'=>?_)
     have hS:=hS.below hw'
     refine e_p (v:=s10.v) 0 hF rfl (ex_move rfl) rfl rfl (by kernel_rfl) (by kernel_rfl) (by kernel_rfl) fun a hF=>e_p (v:=(iV t_13)) 1 hF rfl (ex_move rfl) rfl rfl (by kernel_rfl) (by kernel_rfl) (by kernel_rfl) fun a hF=>?_
     obtain ⟨e_19,he_19,hj3⟩:=bindS hj3
     obtain ⟨s20,hV20⟩:=h18.view he_19
     refine e_p (v:=(elP s10 (t_13.toNat * 1))) 2 hF rfl (ex_indexAddr Try.underlying23 sz28 rfl rfl (h18.idx he_19)) rfl rfl (by kernel_rfl) (by kernel_rfl) (by kernel_rfl) fun a hF=>e_x (v:=s20.v) 3 hF hS rfl (ex_loadE1 0 Try.underlying28 rfl rfl ((hV20.atH he_19).at 0 rfl) rfl rfl) rfl rfl (by kernel_rfl) (by kernel_rfl) (by kernel_rfl) (by kernel_rfl) fun a hF=>e_p (v:=s8.v) 4 hF rfl (ex_move rfl) rfl rfl (by kernel_rfl) (by kernel_rfl) (by kernel_rfl) fun a hF=>e_p (v:=(iV t_13)) 5 hF rfl (ex_move rfl) rfl rfl (by kernel_rfl) (by kernel_rfl) (by kernel_rfl) fun a hF=>?_
     obtain ⟨e_21,he_21,hj3⟩:=bindS hj3
     obtain ⟨s22,hV22⟩:=h8.view he_21
     refine e_p (v:=(elP s8 (t_13.toNat * 1))) 6 hF rfl (ex_indexAddr Try.underlying23 sz28 rfl rfl (h8.idx he_21)) rfl rfl (by kernel_rfl) (by kernel_rfl) (by kernel_rfl) fun a hF=>e_x (v:=s22.v) 7 hF hS rfl (ex_loadE1 0 Try.underlying28 rfl rfl ((hV22.atH he_21).at 1 rfl) rfl rfl) rfl rfl (by kernel_rfl) (by kernel_rfl) (by kernel_rfl) (by kernel_rfl) fun a hF=>e_one 8 (by kernel_rfl) ?_
     obtain ⟨l_23,hl_23,hj3⟩:=bindS hj3
     refine e_opl rfl rfl rfl fun _ hK=>wp_copyV hF hS hV20 he_19 Try.underlying28 sz3 rfl rfl (hV22.vw he_21 hS (j:=1) rfl) hl_23 rfl fun a w q24 hF hS h24=>hK _ _ (⟨⟨kpN,fun _=>hS.vis.of_le (Mem.le.refl _)⟩,?_⟩)
     refine e_end (by kernel_rfl) (n_jn ?_) _
     obtain rfl:=someI hj3
     exact ⟨q24,hF.sub ⟨rfl,rfl,rfl,rfl,rfl,rfl,rfl,trivial⟩,hS.sel [1,0,2] (by decide),h24.own⟩
   ·rintro a w ⟨q26,hF,hS,h26⟩
    refine n_ib (n_sq ?_)
    refine q_region (q_x (v:=(iV (w64 (t_13 + 1)))) hF hS (ex_ibin rfl rfl rfl) rfl rfl fun a hF=>q_x (v:=(iV (w64 (t_13 + 1)))) hF hS (ex_move rfl) rfl rfl fun a hF=>q_end ?_)
    obtain rfl:=someI hb1
    exact ⟨rfl,q26,_,_,rfl,hF.sub ⟨rfl,rfl,rfl,rfl,rfl,rfl,rfl,trivial⟩,hS.sel [1,0,2] (by decide),h26⟩
 ·rintro e a w ⟨q28,rfl,hF,hS,h28⟩
  refine x_ib (n_sq ?_)
  refine q_seq (e_region ⟨[],[],m⟩ mixed fun w' hw'=>?_)
  have hS:=hS.below hw'
  refine e_p (v:=(.pointer (some ⟨b5,2,none⟩))) 0 hF rfl (ex_fieldAddr Try.underlying50 rfl sz23 rfl rfl) rfl rfl (by kernel_rfl) (by kernel_rfl) (by kernel_rfl) fun a hF=>e_x (v:=s3.v) 1 hF hS rfl (ex_load1 1 0 Try.underlying23 rfl rfl rfl rfl) rfl rfl (by kernel_rfl) (by kernel_rfl) (by kernel_rfl) (by kernel_rfl) fun a hF=>e_p (v:=(.pointer (some ⟨b5,2,none⟩))) 3 hF rfl (ex_fieldAddr Try.underlying50 rfl sz23 rfl rfl) rfl rfl (by kernel_rfl) (by kernel_rfl) (by kernel_rfl) fun a hF=>e_x (v:=s3.v) 4 hF hS rfl (ex_load1 1 0 Try.underlying23 rfl rfl rfl rfl) rfl rfl (by kernel_rfl) (by kernel_rfl) (by kernel_rfl) (by kernel_rfl) fun a hF=>e_one 2 (by kernel_rfl) ?_
  obtain ⟨t_35,ht_35,hr⟩:=bindS hr
  refine e_call (vs:=[s3.v]) hF hS rfl Try.func104 (by kernel_rfl) rfl rfl rfl (c_impl_rowSums p_t.Lo t_35 ht_35 _ m hS.vis s3 h3) ?_
  rintro a w _ ⟨q37,s37,rfl,hR36,h37⟩ hF hS2
  have hS : St _ _ _ _ [q37,q28,[⟨b5,[s1.v,s2.v,s3.v,s4.v],50⟩]]:=hS.joinF hR36
  refine e_one 5 (by kernel_rfl) ?_
  obtain ⟨t_38,ht_38,hr⟩:=bindS hr
  refine e_call (vs:=[s3.v]) hF hS rfl Try.func105 (by kernel_rfl) rfl rfl rfl (c_impl_colSums p_t.Lo t_38 ht_38 _ m hS.vis s3 h3) ?_
  rintro a w _ ⟨q40,s40,rfl,hR39,h40⟩ hF hS2
  have hS : St _ _ _ _ [q40,q37,q28,[⟨b5,[s1.v,s2.v,s3.v,s4.v],50⟩]]:=hS.joinF hR39
  refine e_p (v:=s37.v) 6 hF rfl (ex_assign rfl) rfl rfl (by kernel_rfl) (by kernel_rfl) (by kernel_rfl) fun a hF=>e_p (v:=s40.v) 7 hF rfl (ex_assign rfl) rfl rfl (by kernel_rfl) (by kernel_rfl) (by kernel_rfl) fun a hF=>e_end (by kernel_rfl) (n_sq ?_) _
  refine q_seq (q_seq (q_region (q_x (v:=(.pointer (some ⟨b5,0,none⟩))) hF hS (ex_fieldAddr Try.underlying50 rfl sz28 rfl rfl) rfl rfl fun a hF=>q_x (v:=s1.v) hF hS (ex_load1 3 0 Try.underlying28 rfl rfl rfl rfl) rfl rfl fun a hF=>q_x (v:=(iV (goLen p_t.Rows))) hF hS (ex_len Try.underlying28 rfl h1.len) rfl rfl fun a hF=>q_x (v:=(iV 0)) hF hS (ex_move rfl) rfl rfl fun a hF=>q_end (n_sq (q_block ?_)))))
  obtain ⟨o5,hl5,hr⟩:=bindS hr
  refine q_loop (fun (s : (List (List Int)) × Int) a w=>∃ (q42 : Piece),∃ r_41,∃ t_43,s = (r_41,t_43)∧Fr a 141 [(1,(.pointer (some ⟨b5,0,none⟩))),(3,(iV (goLen p_t.Rows))),(4,(iV (goLen p_t.Cols))),(6,s10.v),(8,s37.v),(9,s40.v),(64,s1.v),(65,(iV (goLen p_t.Rows))),(66,(iV t_43))]∧St [] w0 w m [q42,q40,q37,[⟨b5,[s1.v,s2.v,s3.v,s4.v],50⟩]]∧OwnD m 28 3 q42 s10 r_41) (fun (o : ((List (List Int))) ⊕ ((List (List Int)))) e a w=>∃ (q56 : Piece),∃ r_55,o = .inl r_55∧e = .exit 2∧Fr a 141 [(1,(.pointer (some ⟨b5,0,none⟩))),(3,(iV (goLen p_t.Rows))),(4,(iV (goLen p_t.Cols))),(6,s10.v),(9,s40.v)]∧St [] w0 w m [q56,q40,[⟨b5,[s1.v,s2.v,s3.v,s4.v],50⟩]]∧OwnD m 28 3 q56 s10 r_55) hl5 ⟨q28,_,_,rfl,hF.sub ⟨rfl,rfl,rfl,rfl,rfl,rfl,rfl,rfl,rfl,trivial⟩,hS.sel [2,0,1,3] (by decide),h28⟩ ?_ ?_
  ·clear hF hS
   rintro s a w st ⟨q42,r_41,t_43,rfl,hF,hS,h42⟩ hb5
   unfold impl_fill_l2 at hb5
   refine q_seq (q_region (q_x (v:=(.bool (decide (t_43 < (goLen p_t.Rows))))) hF hS (ex_ibin rfl rfl rfl) rfl rfl fun a hF=>q_end (n_sq (q_seq ?_))))
   rcases bcase (decide (t_43 < (goLen p_t.Rows))) with hc6 | hc6
   ·have hb5:=cond_f hc6 hb5
    refine q_cond_f hF rfl hc6 (q_exit (x_sq ?_))
    obtain rfl:=someI hb5
    exact ⟨nofun,.inl ⟨q42,_,rfl,rfl,hF.sub ⟨rfl,rfl,rfl,rfl,rfl,trivial⟩,hS.mask [true,true,false,true],h42⟩⟩
   ·have hb5:=cond_t hc6 hb5
    refine q_cond_t hF rfl hc6 (q_skipc (n_sq (q_seq (q_block (q_seq (q_region (q_x (v:=(iV t_43)) hF hS (ex_move rfl) rfl rfl fun a hF=>?_)))))))
    obtain ⟨e_44,he_44,hb5⟩:=bindS hb5
    obtain ⟨vs45,at45,d45⟩:=h1.at he_44 1 rfl
    obtain rfl : vs45 = [(iV e_44)]:=d45
    refine q_x (v:=(elP s1 (t_43.toNat * 1))) hF hS (ex_indexAddr Try.underlying28 sz3 rfl rfl (h1.idx he_44)) rfl rfl fun a hF=>q_x (v:=(iV e_44)) hF hS (ex_loadE1 0 Try.underlying3 rfl rfl ((at45).at) rfl rfl) rfl rfl fun a hF=>q_x (v:=(iV t_43)) hF hS (ex_assign rfl) rfl rfl fun a hF=>q_x (v:=(iV e_44)) hF hS (ex_assign rfl) rfl rfl fun a hF=>q_end (n_sq (q_seq (q_seq (q_region (q_x (v:=(iV e_44)) hF hS (ex_move rfl) rfl rfl fun a hF=>q_x (v:=s37.v) hF hS (ex_move rfl) rfl rfl fun a hF=>q_x (v:=(iV t_43)) hF hS (ex_move rfl) rfl rfl fun a hF=>?_)))))
    obtain ⟨e_46,he_46,hb5⟩:=bindS hb5
    obtain ⟨vs47,at47,d47⟩:=h37.at he_46 1 rfl
    obtain rfl : vs47 = [(iV e_46)]:=d47
    refine q_x (v:=(elP s37 (t_43.toNat * 1))) hF hS (ex_indexAddr Try.underlying28 sz3 rfl rfl (h37.idx he_46)) rfl rfl fun a hF=>q_x (v:=(iV e_46)) hF hS (ex_loadE1 0 Try.underlying3 rfl rfl (at47.at 2 rfl) rfl rfl) rfl rfl fun a hF=>q_x (v:=(.bool (decide (e_44 < e_46)))) hF hS (ex_ibin rfl rfl rfl) rfl rfl fun a hF=>q_end (n_sq ?_)
    rcases bcase (decide (e_44 < e_46)) with hc7 | hc7
    ·have hb5:=cond_f hc7 hb5
     refine q_cond_f hF rfl hc7 (q_skipc (n_sq (e_region ⟨[14],[],m⟩ mixed fun w' hw'=>?_)))
     have hS:=hS.below hw'
     refine e_p (v:=s10.v) 0 hF rfl (ex_move rfl) rfl rfl (by kernel_rfl) (by kernel_rfl) (by kernel_rfl) fun a hF=>e_p (v:=(iV (goLen p_t.Rows))) 1 hF rfl (ex_move rfl) rfl rfl (by kernel_rfl) (by kernel_rfl) (by kernel_rfl) fun a hF=>e_p (v:=(iV (goLen p_t.Cols))) 2 hF rfl (ex_move rfl) rfl rfl (by kernel_rfl) (by kernel_rfl) (by kernel_rfl) fun a hF=>e_p (v:=(iV (w64 ((goLen p_t.Rows) + (goLen p_t.Cols))))) 3 hF rfl (ex_ibin rfl rfl rfl) rfl rfl (by kernel_rfl) (by kernel_rfl) (by kernel_rfl) fun a hF=>?_
     obtain ⟨e_48,he_48,hb5⟩:=bindS hb5
     obtain ⟨s49,hV49⟩:=h42.view he_48
     refine e_p (v:=(elP s10 ((w64 ((goLen p_t.Rows) + (goLen p_t.Cols))).toNat * 1))) 4 hF rfl (ex_indexAddr Try.underlying23 sz28 rfl rfl (h42.idx he_48)) rfl rfl (by kernel_rfl) (by kernel_rfl) (by kernel_rfl) fun a hF=>e_x (v:=s49.v) 5 hF hS rfl (ex_loadE1 0 Try.underlying28 rfl rfl ((hV49.atH he_48).at 0 rfl) rfl rfl) rfl rfl (by kernel_rfl) (by kernel_rfl) (by kernel_rfl) (by kernel_rfl) fun a hF=>e_p (v:=(iV t_43)) 6 hF rfl (ex_move rfl) rfl rfl (by kernel_rfl) (by kernel_rfl) (by kernel_rfl) fun a hF=>e_p (v:=(iV e_44)) 7 hF rfl (ex_move rfl) rfl rfl (by kernel_rfl) (by kernel_rfl) (by kernel_rfl) fun a hF=>e_p (v:=s37.v) 8 hF rfl (ex_move rfl) rfl rfl (by kernel_rfl) (by kernel_rfl) (by kernel_rfl) fun a hF=>e_p (v:=(iV t_43)) 9 hF rfl (ex_move rfl) rfl rfl (by kernel_rfl) (by kernel_rfl) (by kernel_rfl) fun a hF=>?_
     obtain ⟨e_50,he_50,hb5⟩:=bindS hb5
     obtain ⟨vs51,at51,d51⟩:=h37.at he_50 1 rfl
     obtain rfl : vs51 = [(iV e_50)]:=d51
     refine e_p (v:=(elP s37 (t_43.toNat * 1))) 10 hF rfl (ex_indexAddr Try.underlying28 sz3 rfl rfl (h37.idx he_50)) rfl rfl (by kernel_rfl) (by kernel_rfl) (by kernel_rfl) fun a hF=>e_x (v:=(iV e_50)) 11 hF hS rfl (ex_loadE1 0 Try.underlying3 rfl rfl (at51.at 2 rfl) rfl rfl) rfl rfl (by kernel_rfl) (by kernel_rfl) (by kernel_rfl) (by kernel_rfl) fun a hF=>e_p (v:=(iV (w64 (e_44 - e_50)))) 12 hF rfl (ex_ibin rfl rfl rfl) rfl rfl (by kernel_rfl) (by kernel_rfl) (by kernel_rfl) fun a hF=>?_
     obtain ⟨e_52,he_52,hb5⟩:=bindS hb5
     obtain ⟨vs53,at53,d53⟩:=hV49.at he_48 he_52 1 rfl
     obtain rfl : vs53 = [(iV e_52)]:=d53
     refine e_p (v:=(elP s49 (t_43.toNat * 1))) 13 hF rfl (ex_indexAddr Try.underlying28 sz3 rfl rfl (hV49.idx he_48 he_52)) rfl rfl (by kernel_rfl) (by kernel_rfl) (by kernel_rfl) fun a hF=>e_one 14 (by kernel_rfl) (e_opl rfl rfl rfl fun _ hK=>wp_storeV (e':=(w64 (e_44 - e_50))) (us:=[(iV (w64 (e_44 - e_50)))]) (vs:=[(iV e_52)]) 0 hF hS hV49 he_48 sz3 rfl rfl rfl rfl rfl rfl rfl he_52 at53 rfl rfl rfl fun w q54 hS h54=>hK _ _ (⟨⟨kpN,fun _=>hS.vis.of_le (Mem.le.refl _)⟩,?_⟩))
     refine e_end (by kernel_rfl) (n_ib (n_sq ?_)) _
     refine q_region (q_x (v:=(iV (w64 (t_43 + 1)))) hF hS (ex_ibin rfl rfl rfl) rfl rfl fun a hF=>q_x (v:=(iV (w64 (t_43 + 1)))) hF hS (ex_move rfl) rfl rfl fun a hF=>q_end ?_)
     obtain rfl:=someI hb5
     exact ⟨rfl,q54,_,_,rfl,hF.sub ⟨rfl,rfl,rfl,rfl,rfl,rfl,rfl,rfl,rfl,trivial⟩,hS,h54.own⟩
    ·have hb5:=cond_t hc7 hb5
     refine q_cond_t hF rfl hc7 (q_seq (q_region (q_x (v:=nilS.v) hF hS (ex_assign rfl) rfl rfl fun a hF=>q_end (n_sq (q_ret (r_sq (r_ib (r_sq ?_))))))))
     obtain rfl:=someI hb5
     refine ⟨nofun,.inr fun ho=>?_⟩
     subst ho
     refine r_ib (r_sq ?_)
     obtain rfl:=someI hr
     exact ret_of hF hS rfl (.tmp rfl .nil) ⟨[],nilS,rfl,hS.sel [4] (by decide),(OwnD.nil (β:=Int) m 28 3),(NF.nil)⟩
  ·rintro e a w ⟨q56,r_55,rfl,rfl,hF,hS,h56⟩
   refine x_ib (n_sq ?_)
   refine q_seq (q_seq (q_region (q_x (v:=(.pointer (some ⟨b5,1,none⟩))) hF hS (ex_fieldAddr Try.underlying50 rfl sz28 rfl rfl) rfl rfl fun a hF=>q_x (v:=s2.v) hF hS (ex_load1 2 0 Try.underlying28 rfl rfl rfl rfl) rfl rfl fun a hF=>q_x (v:=(iV (goLen p_t.Cols))) hF hS (ex_len Try.underlying28 rfl h2.len) rfl rfl fun a hF=>q_x (v:=(iV 0)) hF hS (ex_move rfl) rfl rfl fun a hF=>q_end (n_sq (q_block ?_)))))
   obtain ⟨o8,hl8,hr⟩:=bindS hr
   refine q_loop (fun (s : (List (List Int)) × Int) a w=>∃ (q58 : Piece),∃ r_57,∃ t_59,s = (r_57,t_59)∧Fr a 141 [(1,(.pointer (some ⟨b5,0,none⟩))),(3,(iV (goLen p_t.Rows))),(4,(iV (goLen p_t.Cols))),(6,s10.v),(9,s40.v),(93,s2.v),(94,(iV (goLen p_t.Cols))),(95,(iV t_59))]∧St [] w0 w m [q58,q40,[⟨b5,[s1.v,s2.v,s3.v,s4.v],50⟩]]∧OwnD m 28 3 q58 s10 r_57) (fun (o : ((List (List Int))) ⊕ ((List (List Int)))) e a w=>∃ (q72 : Piece),∃ r_71,o = .inl r_71∧e = .exit 4∧Fr a 141 [(1,(.pointer (some ⟨b5,0,none⟩))),(3,(iV (goLen p_t.Rows))),(4,(iV (goLen p_t.Cols))),(6,s10.v)]∧St [] w0 w m [q72,[⟨b5,[s1.v,s2.v,s3.v,s4.v],50⟩]]∧OwnD m 28 3 q72 s10 r_71) hl8 ⟨q56,_,_,rfl,hF.sub ⟨rfl,rfl,rfl,rfl,rfl,rfl,rfl,rfl,trivial⟩,hS,h56⟩ ?_ ?_
   ·clear hF hS
    rintro s a w st ⟨q58,r_57,t_59,rfl,hF,hS,h58⟩ hb8
    unfold impl_fill_l3 at hb8
    refine q_seq (q_region (q_x (v:=(.bool (decide (t_59 < (goLen p_t.Cols))))) hF hS (ex_ibin rfl rfl rfl) rfl rfl fun a hF=>q_end (n_sq (q_seq ?_))))
    rcases bcase (decide (t_59 < (goLen p_t.Cols))) with hc9 | hc9
    ·have hb8:=cond_f hc9 hb8
     refine q_cond_f hF rfl hc9 (q_exit (x_sq ?_))
     obtain rfl:=someI hb8
     exact ⟨nofun,.inl ⟨q58,_,rfl,rfl,hF.sub ⟨rfl,rfl,rfl,rfl,trivial⟩,hS.mask [true,false,true],h58⟩⟩
    ·have hb8:=cond_t hc9 hb8
     refine q_cond_t hF rfl hc9 (q_skipc (n_sq (q_seq (q_block (q_seq (q_region (q_x (v:=(iV t_59)) hF hS (ex_move rfl) rfl rfl fun a hF=>?_)))))))
     obtain ⟨e_60,he_60,hb8⟩:=bindS hb8
     obtain ⟨vs61,at61,d61⟩:=h2.at he_60 1 rfl
     obtain rfl : vs61 = [(iV e_60)]:=d61
     refine q_x (v:=(elP s2 (t_59.toNat * 1))) hF hS (ex_indexAddr Try.underlying28 sz3 rfl rfl (h2.idx he_60)) rfl rfl fun a hF=>q_x (v:=(iV e_60)) hF hS (ex_loadE1 0 Try.underlying3 rfl rfl ((at61).at) rfl rfl) rfl rfl fun a hF=>q_x (v:=(iV t_59)) hF hS (ex_assign rfl) rfl rfl fun a hF=>q_x (v:=(iV e_60)) hF hS (ex_assign rfl) rfl rfl fun a hF=>q_end (n_sq (q_seq (q_seq (q_region (q_x (v:=(iV e_60)) hF hS (ex_move rfl) rfl rfl fun a hF=>q_x (v:=s40.v) hF hS (ex_move rfl) rfl rfl fun a hF=>q_x (v:=(iV t_59)) hF hS (ex_move rfl) rfl rfl fun a hF=>?_)))))
     obtain ⟨e_62,he_62,hb8⟩:=bindS hb8
     obtain ⟨vs63,at63,d63⟩:=h40.at he_62 1 rfl
     obtain rfl : vs63 = [(iV e_62)]:=d63
     refine q_x (v:=(elP s40 (t_59.toNat * 1))) hF hS (ex_indexAddr Try.underlying28 sz3 rfl rfl (h40.idx he_62)) rfl rfl fun a hF=>q_x (v:=(iV e_62)) hF hS (ex_loadE1 0 Try.underlying3 rfl rfl (at63.at 1 rfl) rfl rfl) rfl rfl fun a hF=>q_x (v:=(.bool (decide (e_60 < e_62)))) hF hS (ex_ibin rfl rfl rfl) rfl rfl fun a hF=>q_end (n_sq ?_)
     rcases bcase (decide (e_60 < e_62)) with hc10 | hc10
     ·have hb8:=cond_f hc10 hb8
      refine q_cond_f hF rfl hc10 (q_skipc (n_sq (e_region ⟨[17],[],m⟩ mixed fun w' hw'=>?_)))
      have hS:=hS.below hw'
      refine e_p (v:=s10.v) 0 hF rfl (ex_move rfl) rfl rfl (by kernel_rfl) (by kernel_rfl) (by kernel_rfl) fun a hF=>e_p (v:=(iV (goLen p_t.Rows))) 1 hF rfl (ex_move rfl) rfl rfl (by kernel_rfl) (by kernel_rfl) (by kernel_rfl) fun a hF=>e_p (v:=(iV t_59)) 2 hF rfl (ex_move rfl) rfl rfl (by kernel_rfl) (by kernel_rfl) (by kernel_rfl) fun a hF=>e_p (v:=(iV (w64 ((goLen p_t.Rows) + t_59)))) 3 hF rfl (ex_ibin rfl rfl rfl) rfl rfl (by kernel_rfl) (by kernel_rfl) (by kernel_rfl) fun a hF=>?_
      obtain ⟨e_64,he_64,hb8⟩:=bindS hb8
      obtain ⟨s65,hV65⟩:=h58.view he_64
      refine e_p (v:=(elP s10 ((w64 ((goLen p_t.Rows) + t_59)).toNat * 1))) 4 hF rfl (ex_indexAddr Try.underlying23 sz28 rfl rfl (h58.idx he_64)) rfl rfl (by kernel_rfl) (by kernel_rfl) (by kernel_rfl) fun a hF=>e_x (v:=s65.v) 5 hF hS rfl (ex_loadE1 0 Try.underlying28 rfl rfl ((hV65.atH he_64).at 0 rfl) rfl rfl) rfl rfl (by kernel_rfl) (by kernel_rfl) (by kernel_rfl) (by kernel_rfl) fun a hF=>e_p (v:=(iV (goLen p_t.Rows))) 6 hF rfl (ex_move rfl) rfl rfl (by kernel_rfl) (by kernel_rfl) (by kernel_rfl) fun a hF=>e_p (v:=(iV (goLen p_t.Cols))) 7 hF rfl (ex_move rfl) rfl rfl (by kernel_rfl) (by kernel_rfl) (by kernel_rfl) fun a hF=>e_p (v:=(iV (w64 ((goLen p_t.Rows) + (goLen p_t.Cols))))) 8 hF rfl (ex_ibin rfl rfl rfl) rfl rfl (by kernel_rfl) (by kernel_rfl) (by kernel_rfl) fun a hF=>e_p (v:=(iV (w64 ((w64 ((goLen p_t.Rows) + (goLen p_t.Cols))) + 1)))) 9 hF rfl (ex_ibin rfl rfl rfl) rfl rfl (by kernel_rfl) (by kernel_rfl) (by kernel_rfl) fun a hF=>e_p (v:=(iV e_60)) 10 hF rfl (ex_move rfl) rfl rfl (by kernel_rfl) (by kernel_rfl) (by kernel_rfl) fun a hF=>e_p (v:=s40.v) 11 hF rfl (ex_move rfl) rfl rfl (by kernel_rfl) (by kernel_rfl) (by kernel_rfl) fun a hF=>e_p (v:=(iV t_59)) 12 hF rfl (ex_move rfl) rfl rfl (by kernel_rfl) (by kernel_rfl) (by kernel_rfl) fun a hF=>?_
      obtain ⟨e_66,he_66,hb8⟩:=bindS hb8
      obtain ⟨vs67,at67,d67⟩:=h40.at he_66 1 rfl
      obtain rfl : vs67 = [(iV e_66)]:=d67
      refine e_p (v:=(elP s40 (t_59.toNat * 1))) 13 hF rfl (ex_indexAddr Try.underlying28 sz3 rfl rfl (h40.idx he_66)) rfl rfl (by kernel_rfl) (by kernel_rfl) (by kernel_rfl) fun a hF=>e_x (v:=(iV e_66)) 14 hF hS rfl (ex_loadE1 0 Try.underlying3 rfl rfl (at67.at 1 rfl) rfl rfl) rfl rfl (by kernel_rfl) (by kernel_rfl) (by kernel_rfl) (by kernel_rfl) fun a hF=>e_p (v:=(iV (w64 (e_60 - e_66)))) 15 hF rfl (ex_ibin rfl rfl rfl) rfl rfl (by kernel_rfl) (by kernel_rfl) (by kernel_rfl) fun a hF=>?_
      obtain ⟨e_68,he_68,hb8⟩:=bindS hb8
      obtain ⟨vs69,at69,d69⟩:=hV65.at he_64 he_68 1 rfl
      obtain rfl : vs69 = [(iV e_68)]:=d69
      refine e_p (v:=(elP s65 ((w64 ((w64 ((goLen p_t.Rows) + (goLen p_t.Cols))) + 1)).toNat * 1))) 16 hF rfl (ex_indexAddr Try.underlying28 sz3 rfl rfl (hV65.idx he_64 he_68)) rfl rfl (by kernel_rfl) (by kernel_rfl) (by kernel_rfl) fun a hF=>e_one 17 (by kernel_rfl) (e_opl rfl rfl rfl fun _ hK=>wp_storeV (e':=(w64 (e_60 - e_66))) (us:=[(iV (w64 (e_60 - e_66)))]) (vs:=[(iV e_68)]) 0 hF hS hV65 he_64 sz3 rfl rfl rfl rfl rfl rfl rfl he_68 at69 rfl rfl rfl fun w q70 hS h70=>hK _ _ (⟨⟨kpN,fun _=>hS.vis.of_le (Mem.le.refl _)⟩,?_⟩))
      refine e_end (by kernel_rfl) (n_ib (n_sq ?_)) _
      refine q_region (q_x (v:=(iV (w64 (t_59 + 1)))) hF hS (ex_ibin rfl rfl rfl) rfl rfl fun a hF=>q_x (v:=(iV (w64 (t_59 + 1)))) hF hS (ex_move rfl) rfl rfl fun a hF=>q_end ?_)
      obtain rfl:=someI hb8
      exact ⟨rfl,q70,_,_,rfl,hF.sub ⟨rfl,rfl,rfl,rfl,rfl,rfl,rfl,rfl,trivial⟩,hS,h70.own⟩
     ·have hb8:=cond_t hc10 hb8
      refine q_cond_t hF rfl hc10 (q_seq (q_region (q_x (v:=nilS.v) hF hS (ex_assign rfl) rfl rfl fun a hF=>q_end (n_sq (q_ret (r_sq (r_ib (r_sq ?_))))))))
      obtain rfl:=someI hb8
      refine ⟨nofun,.inr fun ho=>?_⟩
      subst ho
      refine r_ib (r_sq ?_)
      obtain rfl:=someI hr
      exact ret_of hF hS rfl (.tmp rfl .nil) ⟨[],nilS,rfl,hS.sel [3] (by decide),(OwnD.nil (β:=Int) m 28 3),(NF.nil)⟩
   ·rintro e a w ⟨q72,r_71,rfl,rfl,hF,hS,h72⟩
    refine x_ib (n_sq ?_)
    refine q_seq (q_region (q_x (v:=s10.v) hF hS (ex_move rfl) rfl rfl fun a hF=>q_x (v:=(iV (goLen p_t.Rows))) hF hS (ex_move rfl) rfl rfl fun a hF=>q_x (v:=(iV (goLen p_t.Cols))) hF hS (ex_move rfl) rfl rfl fun a hF=>q_x (v:=(iV (w64 ((goLen p_t.Rows) + (goLen p_t.Cols))))) hF hS (ex_ibin rfl rfl rfl) rfl rfl fun a hF=>q_x (v:=(iV (goLen p_t.Rows))) hF hS (ex_move rfl) rfl rfl fun a hF=>q_x (v:=(iV (goLen p_t.Cols))) hF hS (ex_move rfl) rfl rfl fun a hF=>q_x (v:=(iV (w64 ((goLen p_t.Rows) + (goLen p_t.Cols))))) hF hS (ex_ibin rfl rfl rfl) rfl rfl fun a hF=>q_x (v:=(iV (w64 ((w64 ((goLen p_t.Rows) + (goLen p_t.Cols))) + 1)))) hF hS (ex_ibin rfl rfl rfl) rfl rfl fun a hF=>q_x (v:=(.pointer (some ⟨b5,0,none⟩))) hF hS (ex_fieldAddr Try.underlying50 rfl sz28 rfl rfl) rfl rfl fun a hF=>q_x (v:=s1.v) hF hS (ex_load1 1 0 Try.underlying28 rfl rfl rfl rfl) rfl rfl fun a hF=>?_))
    obtain ⟨t_73,ht_73,hr⟩:=bindS hr
    refine q_call (vs:=[s1.v]) hF hS Try.func80 (by kernel_rfl) rfl rfl rfl (c_impl_total p_t.Rows t_73 ht_73 _ m hS.vis s1 h1) ?_
    rintro a w _ rfl hF hS
    have hS74 : St _ _ _ _ ([q72]++[[⟨b5,[s1.v,s2.v,s3.v,s4.v],50⟩]]):=hS
    have hE74:=hS74.enter
    obtain ⟨t_75,ht_75,hr⟩:=bindS hr
    refine q_do rfl fun _ hK=>wp_callX (vs:=[s10.v,(iV (w64 ((goLen p_t.Rows) + (goLen p_t.Cols)))),(iV (w64 ((w64 ((goLen p_t.Rows) + (goLen p_t.Cols))) + 1))),(iV t_73)]) hF Try.func156 (by kernel_rfl) rfl rfl rfl (c_impl_push r_71 (w64 ((goLen p_t.Rows) + (goLen p_t.Cols))) (w64 ((w64 ((goLen p_t.Rows) + (goLen p_t.Cols))) + 1)) t_73 t_75 ht_75 _ m s10 q72 h72 _ hE74) fun a w _ hR hF=>hK _ _ ?_
    obtain ⟨q76,rfl,hR74,h76⟩:=hR
    have hS : St _ _ _ _ [q76,[⟨b5,[s1.v,s2.v,s3.v,s4.v],50⟩]]:=hS74.leaveF hR74
    refine q_end (n_sq (q_seq (q_region (q_x (v:=(.agg #[s1.v,s2.v,s3.v,s4.v])) hF hS (ex_loadA (vs:=[s1.v,s2.v,s3.v,s4.v]) 1 0 Try.underlying50 rfl sz50 rfl rfl rfl rfl) rfl rfl fun a hF=>q_x (v:=(.pointer (some ⟨b5,2,none⟩))) hF hS (ex_fieldAddr Try.underlying50 rfl sz23 rfl rfl) rfl rfl fun a hF=>q_x (v:=s3.v) hF hS (ex_load1 1 0 Try.underlying23 rfl rfl rfl rfl) rfl rfl fun a hF=>q_x (v:=s10.v) hF hS (ex_move rfl) rfl rfl fun a hF=>?_))))
    obtain ⟨m78,hl78,hv78,hz78⟩:=hS.lend
    obtain ⟨t_77,ht_77,hr⟩:=bindS hr
    refine q_call (vs:=[(.agg #[s1.v,s2.v,s3.v,s4.v]),s3.v,s10.v,(iV (-1))]) hF hS Try.func169 (by kernel_rfl) rfl rfl rfl (c_impl_restore p_t p_t.Lo t_75.2 (-1) t_77 ht_77 _ m78 hv78 s1 (h1.mono hl78) s2 (h2.mono hl78) s3 (h3.mono hl78) s4 (h4.mono hl78) s3 (h3.mono hl78) s10 (h76.froz hl78 (hz78 0 _ rfl))) ?_
    rintro a w _ ⟨q80,s80,rfl,hR79,h80,h80n⟩ hF hS2
    have hS : St _ _ _ _ [q80,q76,[⟨b5,[s1.v,s2.v,s3.v,s4.v],50⟩]]:=hS.joinF hR79
    have h80:=h80.any m
    refine q_x (v:=s80.v) hF hS (ex_assign rfl) rfl rfl fun a hF=>q_end (n_sq (q_ret ?_))
    obtain rfl:=someI hr
    exact ret_of hF hS rfl (.tmp rfl .nil) ⟨q80,s80,rfl,hS.sel [0] (by decide),h80,h80n⟩

theorem c_slices_Equal_int_int (p_s1 : List Int) (p_s2 : List Int) (r : Bool) (hr : slices_Equal_int_int p_s1 p_s2 = some r) (w0 : World) (m : Mem) (hv : Vis m w0) (s1 : Sl) (h1 : Rd m s1 p_s1) (s2 : Sl) (h2 : Rd m s2 p_s2) :
  Ret Try.prog 103 [s1.v,s2.v] w0 (fun v _=>v = (.bool r)):=by
 unfold slices_Equal_int_int at hr
 refine ret_start Try.func103 rfl 26 rfl rfl m hv fun a hF hS=>q_seq (q_region (q_x (v:=(.bool false)) hF hS (ex_assign rfl) rfl rfl fun a hF=>q_end (n_sq (q_seq (q_seq (q_region (q_x (v:=s1.v) hF hS (ex_move rfl) rfl rfl fun a hF=>q_x (v:=(iV (goLen p_s1))) hF hS (ex_len Try.underlying28 rfl h1.len) rfl rfl fun a hF=>q_x (v:=s2.v) hF hS (ex_move rfl) rfl rfl fun a hF=>q_x (v:=(iV (goLen p_s2))) hF hS (ex_len Try.underlying28 rfl h2.len) rfl rfl fun a hF=>q_x (v:=(.bool ((goLen p_s1) != (goLen p_s2)))) hF hS (ex_ibin rfl rfl rfl) rfl rfl fun a hF=>q_end (n_sq ?_))))))))
 rcases bcase ((goLen p_s1) != (goLen p_s2)) with hc1 | hc1
 ·have hr:=cond_f hc1 hr
  refine q_cond_f hF rfl hc1 (q_skipc (n_sq (q_seq (q_seq (q_region (q_x (v:=s1.v) hF hS (ex_move rfl) rfl rfl fun a hF=>q_x (v:=(iV (goLen p_s1))) hF hS (ex_len Try.underlying28 rfl h1.len) rfl rfl fun a hF=>q_x (v:=(iV 0)) hF hS (ex_move rfl) rfl rfl fun a hF=>q_end (n_sq (q_block ?_))))))))
  obtain ⟨o2,hl2,hr⟩:=bindS hr
  refine q_loop (fun (t_3 : Int) a w=>Fr a 26 [(0,s1.v),(1,s2.v),(12,(iV (goLen p_s1))),(13,(iV t_3))]∧St [] w0 w m []) (fun (o : (Unit) ⊕ (Bool)) e a w=>o = .inl ()∧e = .exit 0∧Fr a 26 []∧St [] w0 w m []) hl2 ⟨hF.sub ⟨rfl,rfl,rfl,rfl,trivial⟩,hS⟩ ?_ ?_
  ·clear hF hS
   rintro t_3 a w st ⟨hF,hS⟩ hb2
   unfold slices_Equal_int_int_l1 at hb2
   refine q_seq (q_region (q_x (v:=(.bool (decide (t_3 < (goLen p_s1))))) hF hS (ex_ibin rfl rfl rfl) rfl rfl fun a hF=>q_end (n_sq (q_seq ?_))))
   rcases bcase (decide (t_3 < (goLen p_s1))) with hc3 | hc3
   ·have hb2:=cond_f hc3 hb2
    refine q_cond_f hF rfl hc3 (q_exit (x_sq ?_))
    obtain rfl:=someI hb2
    exact ⟨nofun,.inl ⟨rfl,rfl,hF.sub trivial,hS⟩⟩
   ·have hb2:=cond_t hc3 hb2
    refine q_cond_t hF rfl hc3 (q_skipc (n_sq (q_seq (q_block (q_seq (q_region (q_x (v:=(iV t_3)) hF hS (ex_move rfl) rfl rfl fun a hF=>q_x (v:=(iV t_3)) hF hS (ex_assign rfl) rfl rfl fun a hF=>q_end (n_sq (q_seq (e_region ⟨[],[],m⟩ mixed fun w' hw'=>?_))))))))))
    have hS:=hS.below hw'
    refine e_p (v:=s1.v) 0 hF rfl (ex_move rfl) rfl rfl (by kernel_rfl) (by kernel_rfl) (by kernel_rfl) fun a hF=>e_p (v:=(iV t_3)) 1 hF rfl (ex_move rfl) rfl rfl (by kernel_rfl) (by kernel_rfl) (by kernel_rfl) fun a hF=>?_
    obtain ⟨e_4,he_4,hb2⟩:=bindS hb2
    obtain ⟨vs5,at5,d5⟩:=h1.at he_4 1 rfl
    obtain rfl : vs5 = [(iV e_4)]:=d5
    refine e_p (v:=(elP s1 (t_3.toNat * 1))) 2 hF rfl (ex_indexAddr Try.underlying28 sz3 rfl rfl (h1.idx he_4)) rfl rfl (by kernel_rfl) (by kernel_rfl) (by kernel_rfl) fun a hF=>e_xm (v:=(iV e_4)) 3 hF hS (Mem.le.refl _) rfl (ex_loadE1 0 Try.underlying3 rfl rfl ((at5).at) rfl rfl) rfl rfl (by kernel_rfl) (by kernel_rfl) (by kernel_rfl) fun a hF=>e_p (v:=s2.v) 4 hF rfl (ex_move rfl) rfl rfl (by kernel_rfl) (by kernel_rfl) (by kernel_rfl) fun a hF=>e_p (v:=(iV t_3)) 5 hF rfl (ex_move rfl) rfl rfl (by kernel_rfl) (by kernel_rfl) (by kernel_rfl) fun a hF=>?_
    obtain ⟨e_6,he_6,hb2⟩:=bindS hb2
    obtain ⟨vs7,at7,d7⟩:=h2.at he_6 1 rfl
    obtain rfl : vs7 = [(iV e_6)]:=d7
    refine e_p (v:=(elP s2 (t_3.toNat * 1))) 6 hF rfl (ex_indexAddr Try.underlying28 sz3 rfl rfl (h2.idx he_6)) rfl rfl (by kernel_rfl) (by kernel_rfl) (by kernel_rfl) fun a hF=>e_xm (v:=(iV e_6)) 7 hF hS (Mem.le.refl _) rfl (ex_loadE1 0 Try.underlying3 rfl rfl ((at7).at) rfl rfl) rfl rfl (by kernel_rfl) (by kernel_rfl) (by kernel_rfl) fun a hF=>e_p (v:=(.bool (e_4 != e_6))) 8 hF rfl (ex_ibin rfl rfl rfl) rfl rfl (by kernel_rfl) (by kernel_rfl) (by kernel_rfl) fun a hF=>e_end (by kernel_rfl) (n_sq ?_) _
    rcases bcase (e_4 != e_6) with hc4 | hc4
    ·have hb2:=cond_f hc4 hb2
     refine q_cond_f hF rfl hc4 (q_skipc (n_ib (n_sq (q_region (q_x (v:=(iV (w64 (t_3 + 1)))) hF hS (ex_ibin rfl rfl rfl) rfl rfl fun a hF=>q_x (v:=(iV (w64 (t_3 + 1)))) hF hS (ex_move rfl) rfl rfl fun a hF=>q_end ?_)))))
     obtain rfl:=someI hb2
     exact ⟨rfl,hF.sub ⟨rfl,rfl,rfl,rfl,trivial⟩,hS⟩
    ·have hb2:=cond_t hc4 hb2
     refine q_cond_t hF rfl hc4 (q_seq (q_region (q_x (v:=(.bool false)) hF hS (ex_assign rfl) rfl rfl fun a hF=>q_end (n_sq (q_ret (r_ib (r_sq ?_)))))))
     obtain rfl:=someI hb2
     refine ⟨nofun,.inr fun ho=>?_⟩
     subst ho
     refine r_ib (r_sq ?_)
     obtain rfl:=someI hr
     exact ret_of hF hS rfl (.tmp rfl .nil) rfl
  ·rintro e a w ⟨rfl,rfl,hF,hS⟩
   refine x_ib (n_sq ?_)
   refine q_seq (q_region (q_x (v:=(.bool true)) hF hS (ex_assign rfl) rfl rfl fun a hF=>q_end (n_sq (q_ret ?_))))
   obtain rfl:=someI hr
   exact ret_of hF hS rfl (.tmp rfl .nil) rfl
 ·have hr:=cond_t hc1 hr
  refine q_cond_t hF rfl hc1 (q_seq (q_region (q_x (v:=(.bool false)) hF hS (ex_assign rfl) rfl rfl fun a hF=>q_end (n_sq (q_ret (r_sq ?_))))))
  obtain rfl:=someI hr
  exact ret_of hF hS rfl (.tmp rfl .nil) rfl

theorem c_impl_anyFlow (p_t : impl_Transport) (r : (List (List Int))) (hr : impl_anyFlow p_t = some r) (w0 : World) (m : Mem) (hv : Vis m w0) (s1 : Sl) (h1 : Rd m s1 p_t.Rows) (s2 : Sl) (h2 : Rd m s2 p_t.Cols) (s3 : Sl) (h3 : Rd m s3 p_t.Lo) (s4 : Sl) (h4 : Rd m s4 p_t.Hi) :
  Ret Try.prog 124 [(.agg #[s1.v,s2.v,s3.v,s4.v])] w0 (fun v w=>∃ (q0' : Piece) (s0' : Sl),v = s0'.v∧St [] w0 w m [q0']∧OwnD m 28 3 q0' s0' r∧NF s0' r):=by
 unfold impl_anyFlow at hr
 refine ret_start Try.func124 rfl 24 rfl rfl m hv fun a hF hS=>q_seq (q_region (q_box (cs:=[s1.v,s2.v,s3.v,s4.v]) hF hS rfl rfl rfl fun a w b5 hF hS=>q_x (v:=nilS.v) hF hS (ex_assign rfl) rfl rfl fun a hF=>q_end (n_sq (q_seq (q_seq (e_region ⟨[],[],m⟩ mixed fun w' hw'=>?_))))))
 have hS:=hS.below hw'
 refine e_p (v:=(.pointer (some ⟨b5,0,none⟩))) 0 hF rfl (ex_fieldAddr Try.underlying50 rfl sz28 rfl rfl) rfl rfl (by kernel_rfl) (by kernel_rfl) (by kernel_rfl) fun a hF=>e_x (v:=s1.v) 1 hF hS rfl (ex_load1 0 0 Try.underlying28 rfl rfl rfl rfl) rfl rfl (by kernel_rfl) (by kernel_rfl) (by kernel_rfl) (by kernel_rfl) fun a hF=>e_p (v:=(.pointer (some ⟨b5,1,none⟩))) 3 hF rfl (ex_fieldAddr Try.underlying50 rfl sz28 rfl rfl) rfl rfl (by kernel_rfl) (by kernel_rfl) (by kernel_rfl) fun a hF=>e_x (v:=s2.v) 4 hF hS rfl (ex_load1 0 0 Try.underlying28 rfl rfl rfl rfl) rfl rfl (by kernel_rfl) (by kernel_rfl) (by kernel_rfl) (by kernel_rfl) fun a hF=>e_one 2 (by kernel_rfl) ?_
 obtain ⟨t_8,ht_8,hr⟩:=bindS hr
 refine e_call (vs:=[s1.v]) hF hS rfl Try.func80 (by kernel_rfl) rfl rfl rfl (c_impl_total p_t.Rows t_8 ht_8 _ m hS.vis s1 h1) ?_
 rintro a w _ rfl hF hS
 refine e_one 5 (by kernel_rfl) ?_
 obtain ⟨t_9,ht_9,hr⟩:=bindS hr
 refine e_call (vs:=[s2.v]) hF hS rfl Try.func80 (by kernel_rfl) rfl rfl rfl (c_impl_total p_t.Cols t_9 ht_9 _ m hS.vis s2 h2) ?_
 rintro a w _ rfl hF hS
 refine e_p (v:=(.bool (t_8 != t_9))) 6 hF rfl (ex_ibin rfl rfl rfl) rfl rfl (by kernel_rfl) (by kernel_rfl) (by kernel_rfl) fun a hF=>e_end (by kernel_rfl) (n_sq ?_) _
 rcases bcase (t_8 != t_9) with hc1 | hc1
 ·have hr:=cond_f hc1 hr
  refine q_cond_f hF rfl hc1 (q_skipc (n_sq (q_seq (q_region (q_x (v:=(.agg #[s1.v,s2.v,s3.v,s4.v])) hF hS (ex_loadA (vs:=[s1.v,s2.v,s3.v,s4.v]) 0 0 Try.underlying50 rfl sz50 rfl rfl rfl rfl) rfl rfl fun a hF=>?_)))))
  obtain ⟨t_10,ht_10,hr⟩:=bindS hr
  refine q_call (vs:=[(.agg #[s1.v,s2.v,s3.v,s4.v])]) hF hS Try.func168 (by kernel_rfl) rfl rfl rfl (c_impl_fill p_t t_10 ht_10 _ m hS.vis s1 h1 s2 h2 s3 h3 s4 h4) ?_
  rintro a w _ ⟨q12,s12,rfl,hR11,h12,h12n⟩ hF hS2
  have hS : St _ _ _ _ [q12,[⟨b5,[s1.v,s2.v,s3.v,s4.v],50⟩]]:=hS.joinF hR11
  refine q_x (v:=s12.v) hF hS (ex_assign rfl) rfl rfl fun a hF=>q_end (n_sq (q_seq (q_seq ?_)))
  obtain ⟨t_27,hj2,hr⟩:=bindS hr
  refine q_join (fun a w=>Fr a 24 [(3,s12.v),(22,(.bool t_27))]∧St [] w0 w m [q12]) ?_ ?_
  ·refine e_region ⟨[],[],m⟩ mixed fun w' hw'=>?_
   have hS:=hS.below hw'
   refine e_p (v:=s12.v) 0 hF rfl (ex_move rfl) rfl rfl (by kernel_rfl) (by kernel_rfl) (by kernel_rfl) fun a hF=>e_p (v:=(.bool t_10.isEmpty)) 1 hF rfl (ex_eqNilF Try.underlying23 h12n h12.nilE rfl rfl) rfl rfl (by kernel_rfl) (by kernel_rfl) (by kernel_rfl) fun a hF=>e_p (v:=(.bool t_10.isEmpty)) 2 hF rfl (ex_move rfl) rfl rfl (by kernel_rfl) (by kernel_rfl) (by kernel_rfl) fun a hF=>?_
   rcases bcase (t_10.isEmpty) with hc3 | hc3
   ·have hj2:=cond_f hc3 hj2
    refine e_pg (v:=s12.v) 3 hF rfl (ex_move rfl) (wanted_t hF rfl rfl rfl hc3) rfl (by kernel_rfl) (by kernel_rfl) (by kernel_rfl) fun a hF=>e_pg (v:=(.pointer (some ⟨b5,0,none⟩))) 5 hF rfl (ex_fieldAddr Try.underlying50 rfl sz28 rfl rfl) (wanted_t hF rfl rfl rfl hc3) rfl (by kernel_rfl) (by kernel_rfl) (by kernel_rfl) fun a hF=>e_xg (v:=s1.v) 6 hF hS rfl (ex_load1 1 0 Try.underlying28 rfl rfl rfl rfl) (wanted_t hF rfl rfl rfl hc3) rfl (by kernel_rfl) (by kernel_rfl) (by kernel_rfl) (by kernel_rfl) fun a hF=>e_one 4 (by kernel_rfl) ?_
    obtain ⟨m22,hl22,hv22,hz22⟩:=hS.lend
    obtain ⟨t_21,ht_21,hj2⟩:=bindS hj2
    refine e_callg (vs:=[s12.v]) hF hS rfl (wanted_t hF rfl rfl rfl hc3) Try.func104 (by kernel_rfl) rfl rfl rfl (c_impl_rowSums t_10 t_21 ht_21 _ m22 hv22 s12 (h12.froz hl22 (hz22 0 _ rfl))) ?_
    rintro a w _ ⟨q24,s24,rfl,hR23,h24⟩ hF hS2
    have hS : St _ _ _ _ [q24,q12,[⟨b5,[s1.v,s2.v,s3.v,s4.v],50⟩]]:=hS.joinF hR23
    have h24:=h24.any m
    refine e_one 7 (by kernel_rfl) ?_
    obtain ⟨m26,hl26,hv26,hz26⟩:=hS.lend
    obtain ⟨t_25,ht_25,hj2⟩:=bindS hj2
    refine e_callg (vs:=[s24.v,s1.v]) hF hS rfl (wanted_t hF rfl rfl rfl hc3) Try.func103 (by kernel_rfl) rfl rfl rfl (c_slices_Equal_int_int t_21 p_t.Rows t_25 ht_25 _ m26 hv26 s24 (h24.froz hl26 (hz26 0 _ rfl)) s1 (h1.mono hl26)) ?_
    rintro a w _ rfl hF hS
    refine e_pg (v:=(.bool (!t_25))) 8 hF rfl (ex_not rfl) (wanted_t hF rfl rfl rfl hc3) rfl (by kernel_rfl) (by kernel_rfl) (by kernel_rfl) fun a hF=>e_p (v:=(.bool (!t_25))) 9 hF rfl (ex_pick_f rfl rfl hc3) rfl rfl (by kernel_rfl) (by kernel_rfl) (by kernel_rfl) fun a hF=>e_end (by kernel_rfl) (n_jn ?_) _
    obtain rfl:=someI hj2
    exact ⟨hF.sub ⟨rfl,rfl,trivial⟩,hS.mask [false,true,false]⟩
   ·have hj2:=cond_t hc3 hj2
    refine e_skipP 3 hF rfl (wanted_f hF rfl rfl rfl hc3 rfl) rfl (by kernel_rfl) (by kernel_rfl) (by kernel_rfl) fun a hF=>e_skipP 4 hF rfl (wanted_f hF rfl rfl rfl hc3 rfl) rfl (by kernel_rfl) (by kernel_rfl) (by kernel_rfl) fun a hF=>e_skipP 5 hF rfl (wanted_f hF rfl rfl rfl hc3 rfl) rfl (by kernel_rfl) (by kernel_rfl) (by kernel_rfl) fun a hF=>e_skipP 6 hF rfl (wanted_f hF rfl rfl rfl hc3 rfl) rfl (by kernel_rfl) (by kernel_rfl) (by kernel_rfl) fun a hF=>e_skipP 7 hF rfl (wanted_f hF rfl rfl rfl hc3 rfl) rfl (by kernel_rfl) (by kernel_rfl) (by kernel_rfl) fun a hF=>e_skipP 8 hF rfl (wanted_f hF rfl rfl rfl hc3 rfl) rfl (by kernel_rfl) (by kernel_rfl) (by kernel_rfl) fun a hF=>e_p (v:=(.bool true)) 9 hF rfl (ex_pick_t rfl rfl hc3) rfl rfl (by kernel_rfl) (by kernel_rfl) (by kernel_rfl) fun a hF=>e_end (by kernel_rfl) (n_jn ?_) _
    obtain rfl:=someI hj2
    exact ⟨hF.sub ⟨rfl,rfl,trivial⟩,hS.mask [true,false]⟩
  ·rintro a w ⟨hF,hS⟩
   refine n_sq ?_
   rcases bcase (t_27) with hc4 | hc4
   ·have hr:=cond_f hc4 hr
    refine q_cond_f hF rfl hc4 (q_skipc (n_sq (q_seq (q_region (q_x (v:=s12.v) hF hS (ex_move rfl) rfl rfl fun a hF=>q_x (v:=s12.v) hF hS (ex_assign rfl) rfl rfl fun a hF=>q_end (n_sq (q_ret ?_)))))))
    obtain rfl:=someI hr
    exact ret_of hF hS rfl (.tmp rfl .nil) ⟨q12,s12,rfl,hS.sel [0] (by decide),h12,h12n⟩
   ·have hr:=cond_t hc4 hr
    refine q_cond_t hF rfl hc4 (q_seq (q_region (q_x (v:=nilS.v) hF hS (ex_assign rfl) rfl rfl fun a hF=>q_end (n_sq (q_ret (r_sq ?_))))))
    obtain rfl:=someI hr
    exact ret_of hF hS rfl (.tmp rfl .nil) ⟨[],nilS,rfl,hS.sel [1] (by decide),(OwnD.nil (β:=Int) m 28 3),(NF.nil)⟩
 ·have hr:=cond_t hc1 hr
  refine q_cond_t hF rfl hc1 (q_seq (q_region (q_x (v:=nilS.v) hF hS (ex_assign rfl) rfl rfl fun a hF=>q_end (n_sq (q_ret (r_sq ?_))))))
  obtain rfl:=someI hr
  exact ret_of hF hS rfl (.tmp rfl .nil) ⟨[],nilS,rfl,hS.sel [1] (by decide),(OwnD.nil (β:=Int) m 28 3),(NF.nil)⟩

theorem c_impl_lowered (p_t : impl_Transport) (p_x : List (List Int)) (p_i : Int) (p_j : Int) (r : (List (List Int))) (hr : impl_lowered p_t p_x p_i p_j = some r) (w0 : World) (m : Mem) (hv : Vis m w0) (s1 : Sl) (h1 : Rd m s1 p_t.Rows) (s2 : Sl) (h2 : Rd m s2 p_t.Cols) (s3 : Sl) (h3 : Rd m s3 p_t.Lo) (s4 : Sl) (h4 : Rd m s4 p_t.Hi) (s5 : Sl) (h5 : Rd m s5 p_x) :
  Ret Try.prog 183 [(.agg #[s1.v,s2.v,s3.v,s4.v]),s5.v,(iV p_i),(iV p_j)] w0 (fun v w=>∃ (q0' : Piece) (s0' : Sl),v = s0'.v∧St [] w0 w m [q0']∧OwnD m 28 3 q0' s0' r∧NF s0' r):=by
 unfold impl_lowered at hr
 refine ret_start Try.func183 rfl 66 rfl rfl m hv fun a hF hS=>q_seq (q_region (q_box (cs:=[s1.v,s2.v,s3.v,s4.v]) hF hS rfl rfl rfl fun a w b6 hF hS=>q_x (v:=nilS.v) hF hS (ex_assign rfl) rfl rfl fun a hF=>q_end (n_sq (q_seq (e_region ⟨[],[],m⟩ mixed fun w' hw'=>?_)))))
 have hS:=hS.below hw'
 refine e_p (v:=(.pointer (some ⟨b6,0,none⟩))) 0 hF rfl (ex_fieldAddr Try.underlying50 rfl sz28 rfl rfl) rfl rfl (by kernel_rfl) (by kernel_rfl) (by kernel_rfl) fun a hF=>e_x (v:=s1.v) 1 hF hS rfl (ex_load1 0 0 Try.underlying28 rfl rfl rfl rfl) rfl rfl (by kernel_rfl) (by kernel_rfl) (by kernel_rfl) (by kernel_rfl) fun a hF=>e_p (v:=(iV (goLen p_t.Rows))) 2 hF rfl (ex_len Try.underlying28 rfl h1.len) rfl rfl (by kernel_rfl) (by kernel_rfl) (by kernel_rfl) fun a hF=>e_p (v:=(iV p_i)) 3 hF rfl (ex_move rfl) rfl rfl (by kernel_rfl) (by kernel_rfl) (by kernel_rfl) fun a hF=>e_p (v:=(.pointer (some ⟨b6,1,none⟩))) 4 hF rfl (ex_fieldAddr Try.underlying50 rfl sz28 rfl rfl) rfl rfl (by kernel_rfl) (by kernel_rfl) (by kernel_rfl) fun a hF=>e_x (v:=s2.v) 5 hF hS rfl (ex_load1 0 0 Try.underlying28 rfl rfl rfl rfl) rfl rfl (by kernel_rfl) (by kernel_rfl) (by kernel_rfl) (by kernel_rfl) fun a hF=>e_p (v:=(iV (goLen p_t.Cols))) 6 hF rfl (ex_len Try.underlying28 rfl h2.len) rfl rfl (by kernel_rfl) (by kernel_rfl) (by kernel_rfl) fun a hF=>e_p (v:=(iV (w64 (p_i * (goLen p_t.Cols))))) 7 hF rfl (ex_ibin rfl rfl rfl) rfl rfl (by kernel_rfl) (by kernel_rfl) (by kernel_rfl) fun a hF=>e_p (v:=(iV p_j)) 8 hF rfl (ex_move rfl) rfl rfl (by kernel_rfl) (by kernel_rfl) (by kernel_rfl) fun a hF=>e_p (v:=(iV (w64 ((w64 (p_i * (goLen p_t.Cols))) + p_j)))) 9 hF rfl (ex_ibin rfl rfl rfl) rfl rfl (by kernel_rfl) (by kernel_rfl) (by kernel_rfl) fun a hF=>e_p (v:=(iV (goLen p_t.Rows))) 10 hF rfl (ex_assign rfl) rfl rfl (by kernel_rfl) (by kernel_rfl) (by kernel_rfl) fun a hF=>e_p (v:=(iV (w64 ((w64 (p_i * (goLen p_t.Cols))) + p_j)))) 11 hF rfl (ex_assign rfl) rfl rfl (by kernel_rfl) (by kernel_rfl) (by kernel_rfl) fun a hF=>e_end (by kernel_rfl) (n_sq ?_) _
 refine q_seq (q_region (q_x (v:=(.agg #[s1.v,s2.v,s3.v,s4.v])) hF hS (ex_loadA (vs:=[s1.v,s2.v,s3.v,s4.v]) 0 0 Try.underlying50 rfl sz50 rfl rfl rfl rfl) rfl rfl fun a hF=>q_x (v:=s5.v) hF hS (ex_move rfl) rfl rfl fun a hF=>q_x (v:=(iV (w64 ((w64 (p_i * (goLen p_t.Cols))) + p_j)))) hF hS (ex_move rfl) rfl rfl fun a hF=>?_))
 obtain ⟨t_7,ht_7,hr⟩:=bindS hr
 refine q_call (vs:=[(.agg #[s1.v,s2.v,s3.v,s4.v]),s5.v,(iV (w64 ((w64 (p_i * (goLen p_t.Cols))) + p_j)))]) hF hS Try.func155 (by kernel_rfl) rfl rfl rfl (c_impl_residual p_t p_x (w64 ((w64 (p_i * (goLen p_t.Cols))) + p_j)) t_7 ht_7 _ m hS.vis s1 h1 s2 h2 s3 h3 s4 h4 s5 h5) ?_
 rintro a w _ ⟨q9,s9,rfl,hR8,h9⟩ hF hS2
 have hS : St _ _ _ _ [q9,[⟨b6,[s1.v,s2.v,s3.v,s4.v],50⟩]]:=hS.joinF hR8
 refine q_x (v:=s9.v) hF hS (ex_assign rfl) rfl rfl fun a hF=>q_end (n_sq (q_seq (e_region ⟨[21],[b6],m⟩ mixed fun w' hw'=>?_)))
 have hS:=hS.below hw'
 refine e_p (v:=s9.v) 0 hF rfl (ex_move rfl) rfl rfl (by kernel_rfl) (by kernel_rfl) (by kernel_rfl) fun a hF=>e_p (v:=(iV p_i)) 1 hF rfl (ex_move rfl) rfl rfl (by kernel_rfl) (by kernel_rfl) (by kernel_rfl) fun a hF=>e_p (v:=(iV (goLen p_t.Rows))) 2 hF rfl (ex_move rfl) rfl rfl (by kernel_rfl) (by kernel_rfl) (by kernel_rfl) fun a hF=>e_p (v:=(iV p_j)) 3 hF rfl (ex_move rfl) rfl rfl (by kernel_rfl) (by kernel_rfl) (by kernel_rfl) fun a hF=>e_p (v:=(iV (w64 ((goLen p_t.Rows) + p_j)))) 4 hF rfl (ex_ibin rfl rfl rfl) rfl rfl (by kernel_rfl) (by kernel_rfl) (by kernel_rfl) fun a hF=>e_p (v:=s5.v) 5 hF rfl (ex_move rfl) rfl rfl (by kernel_rfl) (by kernel_rfl) (by kernel_rfl) fun a hF=>e_p (v:=(iV p_i)) 6 hF rfl (ex_move rfl) rfl rfl (by kernel_rfl) (by kernel_rfl) (by kernel_rfl) fun a hF=>?_
 obtain ⟨e_10,he_10,hr⟩:=bindS hr
 obtain ⟨vs11,at11,d11⟩:=h5.at he_10 1 rfl
 obtain ⟨s12,rfl,h12⟩ : ∃ s12 : Sl,vs11 = [s12.v]∧Rd m s12 e_10:=d11
 refine e_p (v:=(elP s5 (p_i.toNat * 1))) 7 hF rfl (ex_indexAddr Try.underlying23 sz28 rfl rfl (h5.idx he_10)) rfl rfl (by kernel_rfl) (by kernel_rfl) (by kernel_rfl) fun a hF=>e_xm (v:=s12.v) 8 hF hS (Mem.le.refl _) rfl (ex_loadE1 0 Try.underlying28 rfl rfl ((at11).at) rfl rfl) rfl rfl (by kernel_rfl) (by kernel_rfl) (by kernel_rfl) fun a hF=>e_p (v:=(iV p_j)) 9 hF rfl (ex_move rfl) rfl rfl (by kernel_rfl) (by kernel_rfl) (by kernel_rfl) fun a hF=>?_
 obtain ⟨e_13,he_13,hr⟩:=bindS hr
 obtain ⟨vs14,at14,d14⟩:=h12.at he_13 1 rfl
 obtain rfl : vs14 = [(iV e_13)]:=d14
 refine e_p (v:=(elP s12 (p_j.toNat * 1))) 10 hF rfl (ex_indexAddr Try.underlying28 sz3 rfl rfl (h12.idx he_13)) rfl rfl (by kernel_rfl) (by kernel_rfl) (by kernel_rfl) fun a hF=>e_xm (v:=(iV e_13)) 11 hF hS (Mem.le.refl _) rfl (ex_loadE1 0 Try.underlying3 rfl rfl ((at14).at) rfl rfl) rfl rfl (by kernel_rfl) (by kernel_rfl) (by kernel_rfl) fun a hF=>e_p (v:=(.pointer (some ⟨b6,2,none⟩))) 12 hF rfl (ex_fieldAddr Try.underlying50 rfl sz23 rfl rfl) rfl rfl (by kernel_rfl) (by kernel_rfl) (by kernel_rfl) fun a hF=>e_xb (v:=s3.v) 13 1 hF hS (.head _) rfl rfl (ex_load1 0 0 Try.underlying23 rfl rfl rfl rfl) rfl rfl (by kernel_rfl) (by kernel_rfl) (by kernel_rfl) fun a hF=>e_p (v:=(iV p_i)) 14 hF rfl (ex_move rfl) rfl rfl (by kernel_rfl) (by kernel_rfl) (by kernel_rfl) fun a hF=>?_
 obtain ⟨e_15,he_15,hr⟩:=bindS hr
 obtain ⟨vs16,at16,d16⟩:=h3.at he_15 1 rfl
 obtain ⟨s17,rfl,h17⟩ : ∃ s17 : Sl,vs16 = [s17.v]∧Rd m s17 e_15:=d16
 refine e_p (v:=(elP s3 (p_i.toNat * 1))) 15 hF rfl (ex_indexAddr Try.underlying23 sz28 rfl rfl (h3.idx he_15)) rfl rfl (by kernel_rfl) (by kernel_rfl) (by kernel_rfl) fun a hF=>e_xm (v:=s17.v) 16 hF hS (Mem.le.refl _) rfl (ex_loadE1 0 Try.underlying28 rfl rfl ((at16).at) rfl rfl) rfl rfl (by kernel_rfl) (by kernel_rfl) (by kernel_rfl) fun a hF=>e_p (v:=(iV p_j)) 17 hF rfl (ex_move rfl) rfl rfl (by kernel_rfl) (by kernel_rfl) (by kernel_rfl) fun a hF=>?_
 obtain ⟨e_18,he_18,hr⟩:=bindS hr
 obtain ⟨vs19,at19,d19⟩:=h17.at he_18 1 rfl
 obtain rfl : vs19 = [(iV e_18)]:=d19
 refine e_p (v:=(elP s17 (p_j.toNat * 1))) 18 hF rfl (ex_indexAddr Try.underlying28 sz3 rfl rfl (h17.idx he_18)) rfl rfl (by kernel_rfl) (by kernel_rfl) (by kernel_rfl) fun a hF=>e_xm (v:=(iV e_18)) 19 hF hS (Mem.le.refl _) rfl (ex_loadE1 0 Try.underlying3 rfl rfl ((at19).at) rfl rfl) rfl rfl (by kernel_rfl) (by kernel_rfl) (by kernel_rfl) fun a hF=>e_p (v:=(iV (w64 (e_13 - e_18)))) 20 hF rfl (ex_ibin rfl rfl rfl) rfl rfl (by kernel_rfl) (by kernel_rfl) (by kernel_rfl) fun a hF=>e_one 21 (by kernel_rfl) ?_
 have hS20 : St _ _ _ _ ([q9]++[[⟨b6,[s1.v,s2.v,s3.v,s4.v],50⟩]]):=hS
 have hE20:=hS20.enter
 obtain ⟨t_21,ht_21,hr⟩:=bindS hr
 have hSo:=hS
 refine e_opl rfl rfl rfl fun _ hK=>wp_callX (vs:=[s9.v,(iV p_i),(iV (w64 ((goLen p_t.Rows) + p_j))),(iV (w64 (e_13 - e_18)))]) hF Try.func156 (by kernel_rfl) rfl rfl rfl (c_impl_push t_7 p_i (w64 ((goLen p_t.Rows) + p_j)) (w64 (e_13 - e_18)) t_21 ht_21 _ m s9 q9 h9 _ hE20) fun a w _ hR hF=>hK _ _ ?_
 obtain ⟨q22,rfl,hR20,h22⟩:=hR
 have hS : St _ _ _ _ [q22,[⟨b6,[s1.v,s2.v,s3.v,s4.v],50⟩]]:=hS20.leaveF hR20
 refine ⟨⟨kpC hSo hS 1 1 rfl rfl kpN,fun _=>hS.vis.of_le (Mem.le.refl _)⟩,?_⟩
 refine e_p (v:=(iV t_21.1)) 22 hF rfl (ex_assign rfl) rfl rfl (by kernel_rfl) (by kernel_rfl) (by kernel_rfl) fun a hF=>e_end (by kernel_rfl) (n_sq ?_) _
 refine q_seq (q_region (q_x (v:=(.agg #[s1.v,s2.v,s3.v,s4.v])) hF hS (ex_loadA (vs:=[s1.v,s2.v,s3.v,s4.v]) 1 0 Try.underlying50 rfl sz50 rfl rfl rfl rfl) rfl rfl fun a hF=>q_x (v:=s5.v) hF hS (ex_move rfl) rfl rfl fun a hF=>q_x (v:=s9.v) hF hS (ex_move rfl) rfl rfl fun a hF=>q_x (v:=(iV (w64 ((w64 (p_i * (goLen p_t.Cols))) + p_j)))) hF hS (ex_move rfl) rfl rfl fun a hF=>?_))
 obtain ⟨m24,hl24,hv24,hz24⟩:=hS.lend
 obtain ⟨t_23,ht_23,hr⟩:=bindS hr
 refine q_call (vs:=[(.agg #[s1.v,s2.v,s3.v,s4.v]),s5.v,s9.v,(iV (w64 ((w64 (p_i * (goLen p_t.Cols))) + p_j)))]) hF hS Try.func169 (by kernel_rfl) rfl rfl rfl (c_impl_restore p_t p_x t_21.2 (w64 ((w64 (p_i * (goLen p_t.Cols))) + p_j)) t_23 ht_23 _ m24 hv24 s1 (h1.mono hl24) s2 (h2.mono hl24) s3 (h3.mono hl24) s4 (h4.mono hl24) s5 (h5.mono hl24) s9 (h22.froz hl24 (hz24 0 _ rfl))) ?_
 rintro a w _ ⟨q26,s26,rfl,hR25,h26,h26n⟩ hF hS2
 have hS : St _ _ _ _ [q26,q22,[⟨b6,[s1.v,s2.v,s3.v,s4.v],50⟩]]:=hS.joinF hR25
 have h26:=h26.any m
 refine q_x (v:=s26.v) hF hS (ex_assign rfl) rfl rfl fun a hF=>q_end (n_sq (q_seq (q_region (q_x (v:=s26.v) hF hS (ex_move rfl) rfl rfl fun a hF=>q_x (v:=(iV p_i)) hF hS (ex_move rfl) rfl rfl fun a hF=>?_))))
 obtain ⟨e_27,he_27,hr⟩:=bindS hr
 obtain ⟨s28,hV28⟩:=h26.view he_27
 refine q_x (v:=(elP s26 (p_i.toNat * 1))) hF hS (ex_indexAddr Try.underlying23 sz28 rfl rfl (h26.idx he_27)) rfl rfl fun a hF=>q_x (v:=s28.v) hF hS (ex_loadE1 0 Try.underlying28 rfl rfl ((hV28.atH he_27).at 0 rfl) rfl rfl) rfl rfl fun a hF=>q_x (v:=(iV p_j)) hF hS (ex_move rfl) rfl rfl fun a hF=>?_
 obtain ⟨e_29,he_29,hr⟩:=bindS hr
 obtain ⟨vs30,at30,d30⟩:=hV28.at he_27 he_29 1 rfl
 obtain rfl : vs30 = [(iV e_29)]:=d30
 refine q_x (v:=(elP s28 (p_j.toNat * 1))) hF hS (ex_indexAddr Try.underlying28 sz3 rfl rfl (hV28.idx he_27 he_29)) rfl rfl fun a hF=>q_x (v:=(iV e_29)) hF hS (ex_loadE1 0 Try.underlying3 rfl rfl (at30.at 0 rfl) rfl rfl) rfl rfl fun a hF=>q_x (v:=(iV t_21.1)) hF hS (ex_move rfl) rfl rfl fun a hF=>q_x (v:=(iV (w64 (e_29 - t_21.1)))) hF hS (ex_ibin rfl rfl rfl) rfl rfl fun a hF=>?_
 obtain ⟨e_31,he_31,hr⟩:=bindS hr
 obtain ⟨vs32,at32,d32⟩:=hV28.at he_27 he_31 1 rfl
 obtain rfl : vs32 = [(iV e_31)]:=d32
 refine q_x (v:=(elP s28 (p_j.toNat * 1))) hF hS (ex_indexAddr Try.underlying28 sz3 rfl rfl (hV28.idx he_27 he_31)) rfl rfl fun a hF=>q_do rfl fun _ hK=>wp_storeV (e':=(w64 (e_29 - t_21.1))) (us:=[(iV (w64 (e_29 - t_21.1)))]) (vs:=[(iV e_31)]) 0 hF hS hV28 he_27 sz3 rfl rfl rfl rfl rfl rfl rfl he_31 at32 rfl rfl rfl fun w q33 hS h33=>hK _ _ (q_end (n_sq (q_seq (q_region (q_x (v:=s26.v) hF hS (ex_move rfl) rfl rfl fun a hF=>q_x (v:=s26.v) hF hS (ex_assign rfl) rfl rfl fun a hF=>q_end (n_sq (q_ret ?_)))))))
 obtain rfl:=someI hr
 exact ret_of hF hS rfl (.tmp rfl .nil) ⟨q33,s26,rfl,hS.sel [0] (by decide),h33.own,(NF.set h26n)⟩

theorem c_impl_firstFrom (p_t : impl_Transport) (p_x : List (List Int)) (p_from : Int) (r : (List (List Int))) (hr : impl_firstFrom p_t p_x p_from = some r) (w0 : World) (m : Mem) (s1 : Sl) (h1 : Rd m s1 p_t.Rows) (s2 : Sl) (h2 : Rd m s2 p_t.Cols) (s3 : Sl) (h3 : Rd m s3 p_t.Lo) (s4 : Sl) (h4 : Rd m s4 p_t.Hi) (s5 : Sl) (q5 : Piece) (h5 : OwnD m 28 3 q5 s5 p_x) (X : List Nat) (hS : St X w0 w0 m [q5]) :
  RetX Try.prog 163 [(.agg #[s1.v,s2.v,s3.v,s4.v]),s5.v,(iV p_from)] w0 (fun v w=>∃ (q0' : Piece) (s0' : Sl),v = s0'.v∧St X w0 w m [q0']∧OwnD m 28 3 q0' s0' r∧NF s0' r):=by
 unfold impl_firstFrom at hr
 refine ret_startX Try.func163 rfl 33 rfl rfl fun a hF=>?_
 obtain ⟨_,hne1,hr⟩:=bindS hr
 refine q_seq (q_region (q_box (cs:=[s1.v,s2.v,s3.v,s4.v]) hF hS rfl rfl rfl fun a w b6 hF hS=>q_x (v:=nilS.v) hF hS (ex_assign rfl) rfl rfl fun a hF=>q_end (n_sq (q_seq (q_region (q_x (v:=(.pointer (some ⟨b6,1,none⟩))) hF hS (ex_fieldAddr Try.underlying50 rfl sz28 rfl rfl) rfl rfl fun a hF=>q_x (v:=s2.v) hF hS (ex_load1 0 0 Try.underlying28 rfl rfl rfl rfl) rfl rfl fun a hF=>q_x (v:=(iV (goLen p_t.Cols))) hF hS (ex_len Try.underlying28 rfl h2.len) rfl rfl fun a hF=>q_x (v:=(iV (goLen p_t.Cols))) hF hS (ex_assign rfl) rfl rfl fun a hF=>q_end (n_sq (q_seq (q_seq (q_region (q_x (v:=(iV p_from)) hF hS (ex_move rfl) rfl rfl fun a hF=>q_x (v:=(iV (w64 (p_from + 1)))) hF hS (ex_ibin rfl rfl rfl) rfl rfl fun a hF=>q_x (v:=(iV (w64 (p_from + 1)))) hF hS (ex_assign rfl) rfl rfl fun a hF=>q_end (n_sq (q_block ?_)))))))))))))
 obtain ⟨x_16,hl1,hr⟩:=bindS hr
 refine q_loop (fun (s : (List (List Int)) × Int) a w=>∃ (q8 : Piece),∃ (s8 : Sl),∃ x_7,∃ p_9,s = (x_7,p_9)∧Fr a 33 [(1,s8.v),(3,(.pointer (some ⟨b6,0,none⟩))),(7,(iV (goLen p_t.Cols))),(8,(iV p_9))]∧St X w0 w m [q8,[⟨b6,[s1.v,s2.v,s3.v,s4.v],50⟩]]∧OwnD m 28 3 q8 s8 x_7∧NF s8 x_7) (fun (x_16 : (List (List Int))) e a w=>∃ (q17 : Piece),∃ (s17 : Sl),e = .exit 0∧Fr a 33 [(1,s17.v)]∧St X w0 w m [q17]∧OwnD m 28 3 q17 s17 x_16∧NF s17 x_16) hl1 ⟨q5,s5,_,_,rfl,hF.sub ⟨rfl,rfl,rfl,rfl,trivial⟩,hS.sel [1,0] (by decide),h5,(NF.goNE hne1)⟩ ?_ ?_
 ·clear hF hS
  rintro s a w st ⟨q8,s8,x_7,p_9,rfl,hF,hS,h8,h8n⟩ hb1
  unfold impl_firstFrom_l1 at hb1
  refine q_seq (q_seq (q_region (q_x (v:=(iV p_9)) hF hS (ex_move rfl) rfl rfl fun a hF=>q_x (v:=(.pointer (some ⟨b6,0,none⟩))) hF hS (ex_fieldAddr Try.underlying50 rfl sz28 rfl rfl) rfl rfl fun a hF=>q_x (v:=s1.v) hF hS (ex_load1 1 0 Try.underlying28 rfl rfl rfl rfl) rfl rfl fun a hF=>q_x (v:=(iV (goLen p_t.Rows))) hF hS (ex_len Try.underlying28 rfl h1.len) rfl rfl fun a hF=>q_x (v:=(iV (goLen p_t.Cols))) hF hS (ex_move rfl) rfl rfl fun a hF=>q_x (v:=(iV (w64 ((goLen p_t.Rows) * (goLen p_t.Cols))))) hF hS (ex_ibin rfl rfl rfl) rfl rfl fun a hF=>q_x (v:=(.bool (decide (p_9 < (w64 ((goLen p_t.Rows) * (goLen p_t.Cols))))))) hF hS (ex_ibin rfl rfl rfl) rfl rfl fun a hF=>q_end (n_sq ?_))))
  rcases bcase (decide (p_9 < (w64 ((goLen p_t.Rows) * (goLen p_t.Cols))))) with hc2 | hc2
  ·have hb1:=cond_f hc2 hb1
   refine q_cond_f hF rfl hc2 (q_exit (x_sq ?_))
   obtain rfl:=someI hb1
   exact ⟨nofun,.inl ⟨q8,s8,rfl,hF.sub ⟨rfl,trivial⟩,hS.mask [true,false],h8,h8n⟩⟩
  ·have hb1:=cond_t hc2 hb1
   refine q_cond_t hF rfl hc2 (q_skipc (n_sq (q_seq (q_block (e_region ⟨[],[],m⟩ mixed fun w' hw'=>?_)))))
   have hS:=hS.below hw'
   refine e_x (v:=(.agg #[s1.v,s2.v,s3.v,s4.v])) 0 hF hS rfl (ex_loadA (vs:=[s1.v,s2.v,s3.v,s4.v]) 1 0 Try.underlying50 rfl sz50 rfl rfl rfl rfl) rfl rfl (by kernel_rfl) (by kernel_rfl) (by kernel_rfl) (by kernel_rfl) fun a hF=>e_p (v:=s8.v) 1 hF rfl (ex_move rfl) rfl rfl (by kernel_rfl) (by kernel_rfl) (by kernel_rfl) fun a hF=>e_p (v:=(iV p_9)) 2 hF rfl (ex_move rfl) rfl rfl (by kernel_rfl) (by kernel_rfl) (by kernel_rfl) fun a hF=>e_p (v:=(iV (goLen p_t.Cols))) 3 hF rfl (ex_move rfl) rfl rfl (by kernel_rfl) (by kernel_rfl) (by kernel_rfl) fun a hF=>?_
   obtain ⟨t_10,ht_10,hb1⟩:=bindS hb1
   refine e_p (v:=(iV t_10)) 4 hF rfl (ex_quo rfl rfl ht_10) rfl rfl (by kernel_rfl) (by kernel_rfl) (by kernel_rfl) fun a hF=>e_p (v:=(iV p_9)) 5 hF rfl (ex_move rfl) rfl rfl (by kernel_rfl) (by kernel_rfl) (by kernel_rfl) fun a hF=>e_p (v:=(iV (goLen p_t.Cols))) 6 hF rfl (ex_move rfl) rfl rfl (by kernel_rfl) (by kernel_rfl) (by kernel_rfl) fun a hF=>?_
   obtain ⟨t_11,ht_11,hb1⟩:=bindS hb1
   refine e_p (v:=(iV t_11)) 7 hF rfl (ex_rem rfl rfl ht_11) rfl rfl (by kernel_rfl) (by kernel_rfl) (by kernel_rfl) fun a hF=>e_one 8 (by kernel_rfl) ?_
   obtain ⟨m13,hl13,hv13,hz13⟩:=hS.lend
   obtain ⟨t_12,ht_12,hb1⟩:=bindS hb1
   refine e_call (vs:=[(.agg #[s1.v,s2.v,s3.v,s4.v]),s8.v,(iV t_10),(iV t_11)]) hF hS rfl Try.func183 (by kernel_rfl) rfl rfl rfl (c_impl_lowered p_t x_7 t_10 t_11 t_12 ht_12 _ m13 hv13 s1 (h1.mono hl13) s2 (h2.mono hl13) s3 (h3.mono hl13) s4 (h4.mono hl13) s8 (h8.froz hl13 (hz13 0 _ rfl))) ?_
   rintro a w _ ⟨q15,s15,rfl,hR14,h15,h15n⟩ hF hS2
   have hS : St _ _ _ _ [q15,q8,[⟨b6,[s1.v,s2.v,s3.v,s4.v],50⟩]]:=hS.joinF hR14
   have h15:=h15.any m
   refine e_p (v:=s15.v) 9 hF rfl (ex_assign rfl) rfl rfl (by kernel_rfl) (by kernel_rfl) (by kernel_rfl) fun a hF=>e_end (by kernel_rfl) (n_ib (n_sq ?_)) _
   refine q_region (q_x (v:=(iV p_9)) hF hS (ex_move rfl) rfl rfl fun a hF=>q_x (v:=(iV (w64 (p_9 + 1)))) hF hS (ex_ibin rfl rfl rfl) rfl rfl fun a hF=>q_x (v:=(iV (w64 (p_9 + 1)))) hF hS (ex_assign rfl) rfl rfl fun a hF=>q_end ?_)
   obtain rfl:=someI hb1
   exact ⟨rfl,q15,s15,_,_,rfl,hF.sub ⟨rfl,rfl,rfl,rfl,trivial⟩,hS.mask [true,false,true],h15,h15n⟩
 ·rintro e a w ⟨q17,s17,rfl,hF,hS,h17,h17n⟩
  refine x_ib (n_sq ?_)
  refine q_seq (q_region (q_x (v:=s17.v) hF hS (ex_move rfl) rfl rfl fun a hF=>q_x (v:=s17.v) hF hS (ex_assign rfl) rfl rfl fun a hF=>q_end (n_sq (q_ret ?_))))
  obtain rfl:=someI hr
  exact ret_ofX hF hS rfl (.tmp rfl .nil) ⟨q17,s17,rfl,hS.sel [0] (by decide),h17,h17n⟩

theorem c_impl_firstFlow (p_t : impl_Transport) (r : (List (List Int))) (hr : impl_firstFlow p_t = some r) (w0 : World) (m : Mem) (hv : Vis m w0) (s1 : Sl) (h1 : Rd m s1 p_t.Rows) (s2 : Sl) (h2 : Rd m s2 p_t.Cols) (s3 : Sl) (h3 : Rd m s3 p_t.Lo) (s4 : Sl) (h4 : Rd m s4 p_t.Hi) :
  Ret Try.prog 117 [(.agg #[s1.v,s2.v,s3.v,s4.v])] w0 (fun v w=>∃ (q0' : Piece) (s0' : Sl),v = s0'.v∧St [] w0 w m [q0']∧OwnD m 28 3 q0' s0' r∧NF s0' r):=by
 unfold impl_firstFlow at hr
 refine ret_start Try.func117 rfl 11 rfl rfl m hv fun a hF hS=>q_seq (q_region (q_box (cs:=[s1.v,s2.v,s3.v,s4.v]) hF hS rfl rfl rfl fun a w b5 hF hS=>q_x (v:=nilS.v) hF hS (ex_assign rfl) rfl rfl fun a hF=>q_end (n_sq (q_seq (q_region (q_x (v:=(.agg #[s1.v,s2.v,s3.v,s4.v])) hF hS (ex_loadA (vs:=[s1.v,s2.v,s3.v,s4.v]) 0 0 Try.underlying50 rfl sz50 rfl rfl rfl rfl) rfl rfl fun a hF=>?_))))))
 obtain ⟨t_6,ht_6,hr⟩:=bindS hr
 refine q_call (vs:=[(.agg #[s1.v,s2.v,s3.v,s4.v])]) hF hS Try.func124 (by kernel_rfl) rfl rfl rfl (c_impl_anyFlow p_t t_6 ht_6 _ m hS.vis s1 h1 s2 h2 s3 h3 s4 h4) ?_
 rintro a w _ ⟨q8,s8,rfl,hR7,h8,h8n⟩ hF hS2
 have hS : St _ _ _ _ [q8,[⟨b5,[s1.v,s2.v,s3.v,s4.v],50⟩]]:=hS.joinF hR7
 refine q_x (v:=s8.v) hF hS (ex_assign rfl) rfl rfl fun a hF=>q_end (n_sq (q_seq (q_seq (q_region (q_x (v:=s8.v) hF hS (ex_move rfl) rfl rfl fun a hF=>q_x (v:=(.bool t_6.isEmpty)) hF hS (ex_eqNilF Try.underlying23 h8n h8.nilE rfl rfl) rfl rfl fun a hF=>q_end (n_sq ?_))))))
 rcases bcase (t_6.isEmpty) with hc1 | hc1
 ·have hr:=cond_f hc1 hr
  refine q_cond_f hF rfl hc1 (q_skipc (n_sq (q_seq (q_region (q_x (v:=(.agg #[s1.v,s2.v,s3.v,s4.v])) hF hS (ex_loadA (vs:=[s1.v,s2.v,s3.v,s4.v]) 1 0 Try.underlying50 rfl sz50 rfl rfl rfl rfl) rfl rfl fun a hF=>q_x (v:=s8.v) hF hS (ex_move rfl) rfl rfl fun a hF=>?_)))))
  have hS9 : St _ _ _ _ ([q8]++[[⟨b5,[s1.v,s2.v,s3.v,s4.v],50⟩]]):=hS
  have hE9:=hS9.enter
  obtain ⟨t_10,ht_10,hr⟩:=bindS hr
  refine q_do rfl fun _ hK=>wp_callX (vs:=[(.agg #[s1.v,s2.v,s3.v,s4.v]),s8.v,(iV (-1))]) hF Try.func163 (by kernel_rfl) rfl rfl rfl (c_impl_firstFrom p_t t_6 (-1) t_10 ht_10 _ m s1 h1 s2 h2 s3 h3 s4 h4 s8 q8 h8 _ hE9) fun a w _ hR hF=>hK _ _ ?_
  obtain ⟨q11,s11,rfl,hR9,h11,h11n⟩:=hR
  have hS : St _ _ _ _ [q11,[⟨b5,[s1.v,s2.v,s3.v,s4.v],50⟩]]:=hS9.leaveF hR9
  refine q_x (v:=s11.v) hF hS (ex_assign rfl) rfl rfl fun a hF=>q_end (n_sq (q_ret ?_))
  obtain rfl:=someI hr
  exact ret_of hF hS rfl (.tmp rfl .nil) ⟨q11,s11,rfl,hS.sel [0] (by decide),h11,h11n⟩
 ·have hr:=cond_t hc1 hr
  refine q_cond_t hF rfl hc1 (q_seq (q_region (q_x (v:=nilS.v) hF hS (ex_assign rfl) rfl rfl fun a hF=>q_end (n_sq (q_ret (r_sq ?_))))))
  obtain rfl:=someI hr
  exact ret_of hF hS rfl (.tmp rfl .nil) ⟨[],nilS,rfl,hS.sel [2] (by decide),(OwnD.nil (β:=Int) m 28 3),(NF.nil)⟩

theorem c_impl_FirstFlow (p_t : impl_Transport) (r : (List (List Int)) × Bool) (hr : impl_FirstFlow p_t = some r) (w0 : World) (m : Mem) (hv : Vis m w0) (s1 : Sl) (h1 : Rd m s1 p_t.Rows) (s2 : Sl) (h2 : Rd m s2 p_t.Cols) (s3 : Sl) (h3 : Rd m s3 p_t.Lo) (s4 : Sl) (h4 : Rd m s4 p_t.Hi) :
  Ret Try.prog 45 [(.agg #[s1.v,s2.v,s3.v,s4.v])] w0 (fun v w=>∃ (q0' : Piece) (s0' : Sl),v = (.tuple #[s0'.v,(.bool r.2)])∧St [] w0 w m [q0']∧OwnD m 28 3 q0' s0' r.1∧NF s0' r.1):=by
 unfold impl_FirstFlow at hr
 refine ret_start Try.func45 rfl 13 rfl rfl m hv fun a hF hS=>q_seq (q_region (q_box (cs:=[s1.v,s2.v,s3.v,s4.v]) hF hS rfl rfl rfl fun a w b5 hF hS=>q_x (v:=nilS.v) hF hS (ex_assign rfl) rfl rfl fun a hF=>q_x (v:=(.bool false)) hF hS (ex_assign rfl) rfl rfl fun a hF=>q_end (n_sq (q_seq (q_seq (q_region (q_x (v:=(.agg #[s1.v,s2.v,s3.v,s4.v])) hF hS (ex_loadA (vs:=[s1.v,s2.v,s3.v,s4.v]) 0 0 Try.underlying50 rfl sz50 rfl rfl rfl rfl) rfl rfl fun a hF=>?_)))))))
 obtain ⟨t_6,ht_6,hr⟩:=bindS hr
 refine q_call (vs:=[(.agg #[s1.v,s2.v,s3.v,s4.v])]) hF hS Try.func67 (by kernel_rfl) rfl rfl rfl (c_impl_IsTransport p_t t_6 ht_6 _ m hS.vis s1 h1 s2 h2 s3 h3 s4 h4) ?_
 rintro a w _ rfl hF hS
 refine q_x (v:=(.bool (!t_6))) hF hS (ex_not rfl) rfl rfl fun a hF=>q_end (n_sq ?_)
 rcases bcase (!t_6) with hc1 | hc1
 ·have hr:=cond_f hc1 hr
  refine q_cond_f hF rfl hc1 (q_skipc (n_sq (q_seq (q_region (q_x (v:=(.agg #[s1.v,s2.v,s3.v,s4.v])) hF hS (ex_loadA (vs:=[s1.v,s2.v,s3.v,s4.v]) 0 0 Try.underlying50 rfl sz50 rfl rfl rfl rfl) rfl rfl fun a hF=>?_)))))
  obtain ⟨t_7,ht_7,hr⟩:=bindS hr
  refine q_call (vs:=[(.agg #[s1.v,s2.v,s3.v,s4.v])]) hF hS Try.func117 (by kernel_rfl) rfl rfl rfl (c_impl_firstFlow p_t t_7 ht_7 _ m hS.vis s1 h1 s2 h2 s3 h3 s4 h4) ?_
  rintro a w _ ⟨q9,s9,rfl,hR8,h9,h9n⟩ hF hS2
  have hS : St _ _ _ _ [q9,[⟨b5,[s1.v,s2.v,s3.v,s4.v],50⟩]]:=hS.joinF hR8
  refine q_x (v:=s9.v) hF hS (ex_assign rfl) rfl rfl fun a hF=>q_end (n_sq (q_seq (q_region (q_x (v:=s9.v) hF hS (ex_move rfl) rfl rfl fun a hF=>q_x (v:=s9.v) hF hS (ex_move rfl) rfl rfl fun a hF=>q_x (v:=(.bool (!t_7.isEmpty))) hF hS (ex_neNilF Try.underlying23 h9n h9.nilE rfl rfl) rfl rfl fun a hF=>q_x (v:=s9.v) hF hS (ex_assign rfl) rfl rfl fun a hF=>q_x (v:=(.bool (!t_7.isEmpty))) hF hS (ex_assign rfl) rfl rfl fun a hF=>q_end (n_sq (q_ret ?_))))))
  obtain rfl:=someI hr
  exact ret_of hF hS rfl (.tmp rfl (.tmp rfl .nil)) ⟨q9,s9,rfl,hS.sel [0] (by decide),h9,h9n⟩
 ·have hr:=cond_t hc1 hr
  refine q_cond_t hF rfl hc1 (q_seq (q_region (q_x (v:=nilS.v) hF hS (ex_assign rfl) rfl rfl fun a hF=>q_x (v:=(.bool false)) hF hS (ex_assign rfl) rfl rfl fun a hF=>q_end (n_sq (q_ret (r_sq ?_))))))
  obtain rfl:=someI hr
  exact ret_of hF hS rfl (.tmp rfl (.tmp rfl .nil)) ⟨[],nilS,rfl,hS.sel [1] (by decide),(OwnD.nil (β:=Int) m 28 3),(NF.nil)⟩

theorem c_spec_l1In (p_n : Int) (p_lo : Int) (p_hi : Int) (r : Bool) (hr : spec_l1In p_n p_lo p_hi = some r) (w0 : World) (m : Mem) (hv : Vis m w0) :
  Ret Try.prog 77 [(iV p_n),(iV p_lo),(iV p_hi)] w0 (fun v _=>v = (.bool r)):=by
 unfold spec_l1In at hr
 refine ret_start Try.func77 rfl 15 rfl rfl m hv fun a hF hS=>q_seq (q_region (q_x (v:=(.bool false)) hF hS (ex_assign rfl) rfl rfl fun a hF=>q_end (n_sq (q_seq ?_))))
 obtain ⟨t_1,hj1,hr⟩:=bindS hr
 refine q_join (fun a w=>Fr a 15 [(6,(.bool t_1))]∧St [] w0 w m []) ?_ ?_
 ·refine q_region (q_x (v:=(iV p_n)) hF hS (ex_move rfl) rfl rfl fun a hF=>q_x (v:=(iV p_lo)) hF hS (ex_move rfl) rfl rfl fun a hF=>q_x (v:=(.bool (decide (p_lo ≤ p_n)))) hF hS (ex_ibin rfl rfl rfl) rfl rfl fun a hF=>q_x (v:=(.bool (decide (p_lo ≤ p_n)))) hF hS (ex_move rfl) rfl rfl fun a hF=>?_)
  rcases bcase (decide (p_lo ≤ p_n)) with hc2 | hc2
  ·have hj1:=cond_f hc2 hj1
   refine q_skip hF (wanted_f hF rfl rfl rfl hc2 rfl) rfl fun a hF=>q_skip hF (wanted_f hF rfl rfl rfl hc2 rfl) rfl fun a hF=>q_skip hF (wanted_f hF rfl rfl rfl hc2 rfl) rfl fun a hF=>q_x (v:=(.bool false)) hF hS (ex_pick_f rfl rfl hc2) rfl rfl fun a hF=>q_x (v:=(.bool false)) hF hS (ex_assign rfl) rfl rfl fun a hF=>q_end (n_jn ?_)
   obtain rfl:=someI hj1
   exact ⟨hF.sub ⟨rfl,trivial⟩,hS⟩
  ·have hj1:=cond_t hc2 hj1
   refine q_xg (v:=(iV p_n)) hF hS (ex_move rfl) (wanted_t hF rfl rfl rfl hc2) rfl fun a hF=>q_xg (v:=(iV p_hi)) hF hS (ex_move rfl) (wanted_t hF rfl rfl rfl hc2) rfl fun a hF=>q_xg (v:=(.bool (decide (p_n ≤ p_hi)))) hF hS (ex_ibin rfl rfl rfl) (wanted_t hF rfl rfl rfl hc2) rfl fun a hF=>q_x (v:=(.bool (decide (p_n ≤ p_hi)))) hF hS (ex_pick_t rfl rfl hc2) rfl rfl fun a hF=>q_x (v:=(.bool (decide (p_n ≤ p_hi)))) hF hS (ex_assign rfl) rfl rfl fun a hF=>q_end (n_jn ?_)
   obtain rfl:=someI hj1
   exact ⟨hF.sub ⟨rfl,trivial⟩,hS⟩
 ·rintro a w ⟨hF,hS⟩
  refine n_sq (q_ret ?_)
  obtain rfl:=someI hr
  exact ret_of hF hS rfl (.tmp rfl .nil) rfl

theorem c_spec_l1All (p_l : List Int) (p_lo : Int) (p_hi : Int) (r : Bool) (hr : spec_l1All p_l p_lo p_hi = some r) (w0 : World) (m : Mem) (hv : Vis m w0) (s1 : Sl) (h1 : Rd m s1 p_l) :
  Ret Try.prog 152 [s1.v,(iV p_lo),(iV p_hi)] w0 (fun v _=>v = (.bool r)):=by
 unfold spec_l1All at hr
 refine ret_start Try.func152 rfl 21 rfl rfl m hv fun a hF hS=>q_seq (q_region (q_x (v:=(.bool false)) hF hS (ex_assign rfl) rfl rfl fun a hF=>q_end (n_sq (q_seq (q_seq (q_region (q_x (v:=s1.v) hF hS (ex_move rfl) rfl rfl fun a hF=>q_x (v:=(iV (goLen p_l))) hF hS (ex_len Try.underlying28 rfl h1.len) rfl rfl fun a hF=>q_x (v:=(iV 0)) hF hS (ex_move rfl) rfl rfl fun a hF=>q_end (n_sq (q_block ?_)))))))))
 obtain ⟨o1,hl1,hr⟩:=bindS hr
 refine q_loop (fun (t_2 : Int) a w=>Fr a 21 [(1,(iV p_lo)),(2,(iV p_hi)),(9,s1.v),(10,(iV (goLen p_l))),(11,(iV t_2))]∧St [] w0 w m []) (fun (o : (Unit) ⊕ (Bool)) e a w=>o = .inl ()∧e = .exit 0∧Fr a 21 []∧St [] w0 w m []) hl1 ⟨hF.sub ⟨rfl,rfl,rfl,rfl,rfl,trivial⟩,hS⟩ ?_ ?_
 ·clear hF hS
  rintro t_2 a w st ⟨hF,hS⟩ hb1
  unfold spec_l1All_l1 at hb1
  refine q_seq (q_region (q_x (v:=(.bool (decide (t_2 < (goLen p_l))))) hF hS (ex_ibin rfl rfl rfl) rfl rfl fun a hF=>q_end (n_sq (q_seq ?_))))
  rcases bcase (decide (t_2 < (goLen p_l))) with hc2 | hc2
  ·have hb1:=cond_f hc2 hb1
   refine q_cond_f hF rfl hc2 (q_exit (x_sq ?_))
   obtain rfl:=someI hb1
   exact ⟨nofun,.inl ⟨rfl,rfl,hF.sub trivial,hS⟩⟩
  ·have hb1:=cond_t hc2 hb1
   refine q_cond_t hF rfl hc2 (q_skipc (n_sq (q_seq (q_block (q_seq (q_region ?_))))))
   obtain ⟨e_3,he_3,hb1⟩:=bindS hb1
   obtain ⟨vs4,at4,d4⟩:=h1.at he_3 1 rfl
   obtain rfl : vs4 = [(iV e_3)]:=d4
   refine q_x (v:=(elP s1 (t_2.toNat * 1))) hF hS (ex_indexAddr Try.underlying28 sz3 rfl rfl (h1.idx he_3)) rfl rfl fun a hF=>q_x (v:=(iV e_3)) hF hS (ex_loadE1 0 Try.underlying3 rfl rfl ((at4).at) rfl rfl) rfl rfl fun a hF=>q_x (v:=(iV e_3)) hF hS (ex_assign rfl) rfl rfl fun a hF=>q_end (n_sq (q_seq (q_region (q_x (v:=(iV e_3)) hF hS (ex_move rfl) rfl rfl fun a hF=>q_x (v:=(iV p_lo)) hF hS (ex_move rfl) rfl rfl fun a hF=>q_x (v:=(iV p_hi)) hF hS (ex_move rfl) rfl rfl fun a hF=>?_))))
   obtain ⟨t_5,ht_5,hb1⟩:=bindS hb1
   refine q_call (vs:=[(iV e_3),(iV p_lo),(iV p_hi)]) hF hS Try.func77 (by kernel_rfl) rfl rfl rfl (c_spec_l1In e_3 p_lo p_hi t_5 ht_5 _ m hS.vis) ?_
   rintro a w _ rfl hF hS
   refine q_x (v:=(.bool (!t_5))) hF hS (ex_not rfl) rfl rfl fun a hF=>q_end (n_sq ?_)
   rcases bcase (!t_5) with hc3 | hc3
   ·have hb1:=cond_f hc3 hb1
    refine q_cond_f hF rfl hc3 (q_skipc (n_ib (n_sq (q_region (q_x (v:=(iV (w64 (t_2 + 1)))) hF hS (ex_ibin rfl rfl rfl) rfl rfl fun a hF=>q_x (v:=(iV (w64 (t_2 + 1)))) hF hS (ex_move rfl) rfl rfl fun a hF=>q_end ?_)))))
    obtain rfl:=someI hb1
    exact ⟨rfl,hF.sub ⟨rfl,rfl,rfl,rfl,rfl,trivial⟩,hS⟩
   ·have hb1:=cond_t hc3 hb1
    refine q_cond_t hF rfl hc3 (q_seq (q_region (q_x (v:=(.bool false)) hF hS (ex_assign rfl) rfl rfl fun a hF=>q_end (n_sq (q_ret (r_ib (r_sq ?_)))))))
    obtain rfl:=someI hb1
    refine ⟨nofun,.inr fun ho=>?_⟩
    subst ho
    refine r_ib (r_sq ?_)
    obtain rfl:=someI hr
    exact ret_of hF hS rfl (.tmp rfl .nil) rfl
 ·rintro e a w ⟨rfl,rfl,hF,hS⟩
  refine x_ib (n_sq ?_)
  refine q_seq (q_region (q_x (v:=(.bool true)) hF hS (ex_assign rfl) rfl rfl fun a hF=>q_end (n_sq (q_ret ?_))))
  obtain rfl:=someI hr
  exact ret_of hF hS rfl (.tmp rfl .nil) rfl

theorem c_spec_tSize (p_t : impl_Transport) (p_x : List (List Int)) (r : Bool) (hr : spec_tSize p_t p_x = some r) (w0 : World) (m : Mem) (hv : Vis m w0) (s1 : Sl) (h1 : Rd m s1 p_t.Rows) (s2 : Sl) (h2 : Rd m s2 p_t.Cols) (s3 : Sl) (h3 : Rd m s3 p_t.Lo) (s4 : Sl) (h4 : Rd m s4 p_t.Hi) (s5 : Sl) (h5 : Rd m s5 p_x) :
  Ret Try.prog 167 [(.agg #[s1.v,s2.v,s3.v,s4.v]),s5.v] w0 (fun v _=>v = (.bool r)):=by
 unfold spec_tSize at hr
 refine ret_start Try.func167 rfl 26 rfl rfl m hv fun a hF hS=>q_seq (q_region (q_box (cs:=[s1.v,s2.v,s3.v,s4.v]) hF hS rfl rfl rfl fun a w b6 hF hS=>q_x (v:=(.bool false)) hF hS (ex_assign rfl) rfl rfl fun a hF=>q_end (n_sq (q_seq (q_seq (q_region (q_x (v:=s5.v) hF hS (ex_move rfl) rfl rfl fun a hF=>q_x (v:=(iV (goLen p_x))) hF hS (ex_len Try.underlying23 rfl h5.len) rfl rfl fun a hF=>q_x (v:=(.pointer (some ⟨b6,0,none⟩))) hF hS (ex_fieldAddr Try.underlying50 rfl sz28 rfl rfl) rfl rfl fun a hF=>q_x (v:=s1.v) hF hS (ex_load1 0 0 Try.underlying28 rfl rfl rfl rfl) rfl rfl fun a hF=>q_x (v:=(iV (goLen p_t.Rows))) hF hS (ex_len Try.underlying28 rfl h1.len) rfl rfl fun a hF=>q_x (v:=(.bool ((goLen p_x) != (goLen p_t.Rows)))) hF hS (ex_ibin rfl rfl rfl) rfl rfl fun a hF=>q_end (n_sq ?_))))))))
 rcases bcase ((goLen p_x) != (goLen p_t.Rows)) with hc1 | hc1
 ·have hr:=cond_f hc1 hr
  refine q_cond_f hF rfl hc1 (q_skipc (n_sq (q_seq (q_seq (q_region (q_x (v:=s5.v) hF hS (ex_move rfl) rfl rfl fun a hF=>q_x (v:=(iV (goLen p_x))) hF hS (ex_len Try.underlying23 rfl h5.len) rfl rfl fun a hF=>q_x (v:=(iV 0)) hF hS (ex_move rfl) rfl rfl fun a hF=>q_end (n_sq (q_block ?_))))))))
  obtain ⟨o2,hl2,hr⟩:=bindS hr
  refine q_loop (fun (t_7 : Int) a w=>Fr a 26 [(2,(.pointer (some ⟨b6,0,none⟩))),(13,s5.v),(14,(iV (goLen p_x))),(15,(iV t_7))]∧St [] w0 w m [[⟨b6,[s1.v,s2.v,s3.v,s4.v],50⟩]]) (fun (o : (Unit) ⊕ (Bool)) e a w=>o = .inl ()∧e = .exit 0∧Fr a 26 []∧St [] w0 w m []) hl2 ⟨hF.sub ⟨rfl,rfl,rfl,rfl,trivial⟩,hS⟩ ?_ ?_
  ·clear hF hS
   rintro t_7 a w st ⟨hF,hS⟩ hb2
   unfold spec_tSize_l1 at hb2
   refine q_seq (q_region (q_x (v:=(.bool (decide (t_7 < (goLen p_x))))) hF hS (ex_ibin rfl rfl rfl) rfl rfl fun a hF=>q_end (n_sq (q_seq ?_))))
   rcases bcase (decide (t_7 < (goLen p_x))) with hc3 | hc3
   ·have hb2:=cond_f hc3 hb2
    refine q_cond_f hF rfl hc3 (q_exit (x_sq ?_))
    obtain rfl:=someI hb2
    exact ⟨nofun,.inl ⟨rfl,rfl,hF.sub trivial,hS.mask [false]⟩⟩
   ·have hb2:=cond_t hc3 hb2
    refine q_cond_t hF rfl hc3 (q_skipc (n_sq (q_seq (q_block (q_seq (q_region ?_))))))
    obtain ⟨e_8,he_8,hb2⟩:=bindS hb2
    obtain ⟨vs9,at9,d9⟩:=h5.at he_8 1 rfl
    obtain ⟨s10,rfl,h10⟩ : ∃ s10 : Sl,vs9 = [s10.v]∧Rd m s10 e_8:=d9
    refine q_x (v:=(elP s5 (t_7.toNat * 1))) hF hS (ex_indexAddr Try.underlying23 sz28 rfl rfl (h5.idx he_8)) rfl rfl fun a hF=>q_x (v:=s10.v) hF hS (ex_loadE1 0 Try.underlying28 rfl rfl ((at9).at) rfl rfl) rfl rfl fun a hF=>q_x (v:=s10.v) hF hS (ex_assign rfl) rfl rfl fun a hF=>q_end (n_sq (q_seq (q_region (q_x (v:=s10.v) hF hS (ex_move rfl) rfl rfl fun a hF=>q_x (v:=(iV (goLen e_8))) hF hS (ex_len Try.underlying28 rfl h10.len) rfl rfl fun a hF=>q_x (v:=(.pointer (some ⟨b6,1,none⟩))) hF hS (ex_fieldAddr Try.underlying50 rfl sz28 rfl rfl) rfl rfl fun a hF=>q_x (v:=s2.v) hF hS (ex_load1 0 0 Try.underlying28 rfl rfl rfl rfl) rfl rfl fun a hF=>q_x (v:=(iV (goLen p_t.Cols))) hF hS (ex_len Try.underlying28 rfl h2.len) rfl rfl fun a hF=>q_x (v:=(.bool ((goLen e_8) != (goLen p_t.Cols)))) hF hS (ex_ibin rfl rfl rfl) rfl rfl fun a hF=>q_end (n_sq ?_)))))
    rcases bcase ((goLen e_8) != (goLen p_t.Cols)) with hc4 | hc4
    ·have hb2:=cond_f hc4 hb2
     refine q_cond_f hF rfl hc4 (q_skipc (n_ib (n_sq (q_region (q_x (v:=(iV (w64 (t_7 + 1)))) hF hS (ex_ibin rfl rfl rfl) rfl rfl fun a hF=>q_x (v:=(iV (w64 (t_7 + 1)))) hF hS (ex_move rfl) rfl rfl fun a hF=>q_end ?_)))))
     obtain rfl:=someI hb2
     exact ⟨rfl,hF.sub ⟨rfl,rfl,rfl,rfl,trivial⟩,hS⟩
    ·have hb2:=cond_t hc4 hb2
     refine q_cond_t hF rfl hc4 (q_seq (q_region (q_x (v:=(.bool false)) hF hS (ex_assign rfl) rfl rfl fun a hF=>q_end (n_sq (q_ret (r_ib (r_sq ?_)))))))
     obtain rfl:=someI hb2
     refine ⟨nofun,.inr fun ho=>?_⟩
     subst ho
     refine r_ib (r_sq ?_)
     obtain rfl:=someI hr
     exact ret_of hF hS rfl (.tmp rfl .nil) rfl
  ·rintro e a w ⟨rfl,rfl,hF,hS⟩
   refine x_ib (n_sq ?_)
   refine q_seq (q_region (q_x (v:=(.bool true)) hF hS (ex_assign rfl) rfl rfl fun a hF=>q_end (n_sq (q_ret ?_))))
   obtain rfl:=someI hr
   exact ret_of hF hS rfl (.tmp rfl .nil) rfl
 ·have hr:=cond_t hc1 hr
  refine q_cond_t hF rfl hc1 (q_seq (q_region (q_x (v:=(.bool false)) hF hS (ex_assign rfl) rfl rfl fun a hF=>q_end (n_sq (q_ret (r_sq ?_))))))
  obtain rfl:=someI hr
  exact ret_of hF hS rfl (.tmp rfl .nil) rfl

theorem c_spec_tGood (p_t : impl_Transport) (r : Bool) (hr : spec_tGood p_t = some r) (w0 : World) (m : Mem) (hv : Vis m w0) (s1 : Sl) (h1 : Rd m s1 p_t.Rows) (s2 : Sl) (h2 : Rd m s2 p_t.Cols) (s3 : Sl) (h3 : Rd m s3 p_t.Lo) (s4 : Sl) (h4 : Rd m s4 p_t.Hi) :
  Ret Try.prog 123 [(.agg #[s1.v,s2.v,s3.v,s4.v])] w0 (fun v _=>v = (.bool r)):=by
 unfold spec_tGood at hr
 refine ret_start Try.func123 rfl 90 rfl rfl m hv fun a hF hS=>q_seq (q_region (q_box (cs:=[s1.v,s2.v,s3.v,s4.v]) hF hS rfl rfl rfl fun a w b5 hF hS=>q_x (v:=(.bool false)) hF hS (ex_assign rfl) rfl rfl fun a hF=>q_end (n_sq (q_seq (q_seq ?_)))))
 obtain ⟨t_12,hj1,hr⟩:=bindS hr
 refine q_join (fun a w=>Fr a 90 [(1,(.pointer (some ⟨b5,0,none⟩))),(42,(.bool t_12))]∧St [] w0 w m [[⟨b5,[s1.v,s2.v,s3.v,s4.v],50⟩]]) ?_ ?_
 ·refine q_region (q_x (v:=(.pointer (some ⟨b5,0,none⟩))) hF hS (ex_fieldAddr Try.underlying50 rfl sz28 rfl rfl) rfl rfl fun a hF=>q_x (v:=s1.v) hF hS (ex_load1 0 0 Try.underlying28 rfl rfl rfl rfl) rfl rfl fun a hF=>q_x (v:=(iV (goLen p_t.Rows))) hF hS (ex_len Try.underlying28 rfl h1.len) rfl rfl fun a hF=>?_)
  obtain ⟨t_6,ht_6,hj1⟩:=bindS hj1
  refine q_call (vs:=[(iV (goLen p_t.Rows)),(iV 1),(iV 8)]) hF hS Try.func77 (by kernel_rfl) rfl rfl rfl (c_spec_l1In (goLen p_t.Rows) 1 8 t_6 ht_6 _ m hS.vis) ?_
  rintro a w _ rfl hF hS
  refine q_x (v:=(.bool (!t_6))) hF hS (ex_not rfl) rfl rfl fun a hF=>q_x (v:=(.bool (!t_6))) hF hS (ex_move rfl) rfl rfl fun a hF=>?_
  rcases bcase (!t_6) with hc2 | hc2
  ·have hj1:=cond_f hc2 hj1
   refine q_xg (v:=(.pointer (some ⟨b5,1,none⟩))) hF hS (ex_fieldAddr Try.underlying50 rfl sz28 rfl rfl) (wanted_t hF rfl rfl rfl hc2) rfl fun a hF=>q_xg (v:=s2.v) hF hS (ex_load1 0 0 Try.underlying28 rfl rfl rfl rfl) (wanted_t hF rfl rfl rfl hc2) rfl fun a hF=>q_xg (v:=(iV (goLen p_t.Cols))) hF hS (ex_len Try.underlying28 rfl h2.len) (wanted_t hF rfl rfl rfl hc2) rfl fun a hF=>?_
   obtain ⟨t_7,ht_7,hj1⟩:=bindS hj1
   refine q_callg (vs:=[(iV (goLen p_t.Cols)),(iV 1),(iV 8)]) hF hS (wanted_t hF rfl rfl rfl hc2) Try.func77 (by kernel_rfl) rfl rfl rfl (c_spec_l1In (goLen p_t.Cols) 1 8 t_7 ht_7 _ m hS.vis) ?_
   rintro a w _ rfl hF hS
   refine q_xg (v:=(.bool (!t_7))) hF hS (ex_not rfl) (wanted_t hF rfl rfl rfl hc2) rfl fun a hF=>q_x (v:=(.bool (!t_7))) hF hS (ex_pick_f rfl rfl hc2) rfl rfl fun a hF=>q_x (v:=(.bool (!t_7))) hF hS (ex_move rfl) rfl rfl fun a hF=>?_
   rcases bcase (!t_7) with hc3 | hc3
   ·have hj1:=cond_f hc3 hj1
    refine q_xg (v:=(.pointer (some ⟨b5,0,none⟩))) hF hS (ex_fieldAddr Try.underlying50 rfl sz28 rfl rfl) (wanted_t hF rfl rfl rfl hc3) rfl fun a hF=>q_xg (v:=s1.v) hF hS (ex_load1 0 0 Try.underlying28 rfl rfl rfl rfl) (wanted_t hF rfl rfl rfl hc3) rfl fun a hF=>?_
    obtain ⟨t_8,ht_8,hj1⟩:=bindS hj1
    refine q_callg (vs:=[s1.v,(iV 0),(iV 100000)]) hF hS (wanted_t hF rfl rfl rfl hc3) Try.func152 (by kernel_rfl) rfl rfl rfl (c_spec_l1All p_t.Rows 0 100000 t_8 ht_8 _ m hS.vis s1 h1) ?_
    rintro a w _ rfl hF hS
    refine q_xg (v:=(.bool (!t_8))) hF hS (ex_not rfl) (wanted_t hF rfl rfl rfl hc3) rfl fun a hF=>q_x (v:=(.bool (!t_8))) hF hS (ex_pick_f rfl rfl hc3) rfl rfl fun a hF=>q_x (v:=(.bool (!t_8))) hF hS (ex_move rfl) rfl rfl fun a hF=>?_
    rcases bcase (!t_8) with hc4 | hc4
    ·have hj1:=cond_f hc4 hj1
     refine q_xg (v:=(.pointer (some ⟨b5,1,none⟩))) hF hS (ex_fieldAddr Try.underlying50 rfl sz28 rfl rfl) (wanted_t hF rfl rfl rfl hc4) rfl fun a hF=>q_xg (v:=s2.v) hF hS (ex_load1 0 0 Try.underlying28 rfl rfl rfl rfl) (wanted_t hF rfl rfl rfl hc4) rfl fun a hF=>?_
     obtain ⟨t_9,ht_9,hj1⟩:=bindS hj1
     refine q_callg (vs:=[s2.v,(iV 0),(iV 100000)]) hF hS (wanted_t hF rfl rfl rfl hc4) Try.func152 (by kernel_rfl) rfl rfl rfl (c_spec_l1All p_t.Cols 0 100000 t_9 ht_9 _ m hS.vis s2 h2) ?_
     rintro a w _ rfl hF hS
     refine q_xg (v:=(.bool (!t_9))) hF hS (ex_not rfl) (wanted_t hF rfl rfl rfl hc4) rfl fun a hF=>q_x (v:=(.bool (!t_9))) hF hS (ex_pick_f rfl rfl hc4) rfl rfl fun a hF=>q_x (v:=(.bool (!t_9))) hF hS (ex_move rfl) rfl rfl fun a hF=>?_
     rcases bcase (!t_9) with hc5 | hc5
     ·have hj1:=cond_f hc5 hj1
      refine q_xg (v:=(.agg #[s1.v,s2.v,s3.v,s4.v])) hF hS (ex_loadA (vs:=[s1.v,s2.v,s3.v,s4.v]) 0 0 Try.underlying50 rfl sz50 rfl rfl rfl rfl) (wanted_t hF rfl rfl rfl hc5) rfl fun a hF=>q_xg (v:=(.pointer (some ⟨b5,2,none⟩))) hF hS (ex_fieldAddr Try.underlying50 rfl sz23 rfl rfl) (wanted_t hF rfl rfl rfl hc5) rfl fun a hF=>q_xg (v:=s3.v) hF hS (ex_load1 0 0 Try.underlying23 rfl rfl rfl rfl) (wanted_t hF rfl rfl rfl hc5) rfl fun a hF=>?_
      obtain ⟨t_10,ht_10,hj1⟩:=bindS hj1
      refine q_callg (vs:=[(.agg #[s1.v,s2.v,s3.v,s4.v]),s3.v]) hF hS (wanted_t hF rfl rfl rfl hc5) Try.func167 (by kernel_rfl) rfl rfl rfl (c_spec_tSize p_t p_t.Lo t_10 ht_10 _ m hS.vis s1 h1 s2 h2 s3 h3 s4 h4 s3 h3) ?_
      rintro a w _ rfl hF hS
      refine q_xg (v:=(.bool (!t_10))) hF hS (ex_not rfl) (wanted_t hF rfl rfl rfl hc5) rfl fun a hF=>q_x (v:=(.bool (!t_10))) hF hS (ex_pick_f rfl rfl hc5) rfl rfl fun a hF=>q_x (v:=(.bool (!t_10))) hF hS (ex_move rfl) rfl rfl fun a hF=>?_
      rcases bcase (!t_10) with hc6 | hc6
      ·have hj1:=cond_f hc6 hj1
       refine q_xg (v:=(.agg #[s1.v,s2.v,s3.v,s4.v])) hF hS (ex_loadA (vs:=[s1.v,s2.v,s3.v,s4.v]) 0 0 Try.underlying50 rfl sz50 rfl rfl rfl rfl) (wanted_t hF rfl rfl rfl hc6) rfl fun a hF=>q_xg (v:=(.pointer (some ⟨b5,3,none⟩))) hF hS (ex_fieldAddr Try.underlying50 rfl sz23 rfl rfl) (wanted_t hF rfl rfl rfl hc6) rfl fun a hF=>q_xg (v:=s4.v) hF hS (ex_load1 0 0 Try.underlying23 rfl rfl rfl rfl) (wanted_t hF rfl rfl rfl hc6) rfl fun a hF=>?_
       obtain ⟨t_11,ht_11,hj1⟩:=bindS hj1
       refine q_callg (vs:=[(.agg #[s1.v,s2.v,s3.v,s4.v]),s4.v]) hF hS (wanted_t hF rfl rfl rfl hc6) Try.func167 (by kernel_rfl) rfl rfl rfl (c_spec_tSize p_t p_t.Hi t_11 ht_11 _ m hS.vis s1 h1 s2 h2 s3 h3 s4 h4 s4 h4) ?_
       rintro a w _ rfl hF hS
       refine q_xg (v:=(.bool (!t_11))) hF hS (ex_not rfl) (wanted_t hF rfl rfl rfl hc6) rfl fun a hF=>q_x (v:=(.bool (!t_11))) hF hS (ex_pick_f rfl rfl hc6) rfl rfl fun a hF=>q_end (n_jn ?_)
       obtain rfl:=someI hj1
       exact ⟨hF.sub ⟨rfl,rfl,trivial⟩,hS⟩
      ·have hj1:=cond_t hc6 hj1
       refine q_skip hF (wanted_f hF rfl rfl rfl hc6 rfl) rfl fun a hF=>q_skip hF (wanted_f hF rfl rfl rfl hc6 rfl) rfl fun a hF=>q_skip hF (wanted_f hF rfl rfl rfl hc6 rfl) rfl fun a hF=>q_skip hF (wanted_f hF rfl rfl rfl hc6 rfl) rfl fun a hF=>q_skip hF (wanted_f hF rfl rfl rfl hc6 rfl) rfl fun a hF=>q_x (v:=(.bool true)) hF hS (ex_pick_t rfl rfl hc6) rfl rfl fun a hF=>q_end (n_jn ?_)
       obtain rfl:=someI hj1
       exact ⟨hF.sub ⟨rfl,rfl,trivial⟩,hS⟩
     ·have hj1:=cond_t hc5 hj1
      refine q_skip hF (wanted_f hF rfl rfl rfl hc5 rfl) rfl fun a hF=>q_skip hF (wanted_f hF rfl rfl rfl hc5 rfl) rfl fun a hF=>q_skip hF (wanted_f hF rfl rfl rfl hc5 rfl) rfl fun a hF=>q_skip hF (wanted_f hF rfl rfl rfl hc5 rfl) rfl fun a hF=>q_skip hF (wanted_f hF rfl rfl rfl hc5 rfl) rfl fun a hF=>q_x (v:=(.bool true)) hF hS (ex_pick_t rfl rfl hc5) rfl rfl fun a hF=>q_x (v:=(.bool true)) hF hS (ex_move rfl) rfl rfl fun a hF=>q_skip hF (wanted_f hF rfl rfl rfl rfl rfl) rfl fun a hF=>q_skip hF (wanted_f hF rfl rfl rfl rfl rfl) rfl fun a hF=>q_skip hF (wanted_f hF rfl rfl rfl rfl rfl) rfl fun a hF=>q_skip hF (wanted_f hF rfl rfl rfl rfl rfl) rfl fun a hF=>q_skip hF (wanted_f hF rfl rfl rfl rfl rfl) rfl fun a hF=>q_x (v:=(.bool true)) hF hS (ex_pick_t rfl rfl rfl) rfl rfl fun a hF=>q_end (n_jn ?_)
      obtain rfl:=someI hj1
      exact ⟨hF.sub ⟨rfl,rfl,trivial⟩,hS⟩
    ·have hj1:=cond_t hc4 hj1
     refine q_skip hF (wanted_f hF rfl rfl rfl hc4 rfl) rfl fun a hF=>q_skip hF (wanted_f hF rfl rfl rfl hc4 rfl) rfl fun a hF=>q_skip hF (wanted_f hF rfl rfl rfl hc4 rfl) rfl fun a hF=>q_skip hF (wanted_f hF rfl rfl rfl hc4 rfl) rfl fun a hF=>q_x (v:=(.bool true)) hF hS (ex_pick_t rfl rfl hc4) rfl rfl fun a hF=>q_x (v:=(.bool true)) hF hS (ex_move rfl) rfl rfl fun a hF=>q_skip hF (wanted_f hF rfl rfl rfl rfl rfl) rfl fun a hF=>q_skip hF (wanted_f hF rfl rfl rfl rfl rfl) rfl fun a hF=>q_skip hF (wanted_f hF rfl rfl rfl rfl rfl) rfl fun a hF=>q_skip hF (wanted_f hF rfl rfl rfl rfl rfl) rfl fun a hF=>q_skip hF (wanted_f hF rfl rfl rfl rfl rfl) rfl fun a hF=>q_x (v:=(.bool true)) hF hS (ex_pick_t rfl rfl rfl) rfl rfl fun a hF=>q_x (v:=(.bool true)) hF hS (ex_move rfl) rfl rfl fun a hF=>q_skip hF (wanted_f hF rfl rfl rfl rfl rfl) rfl fun a hF=>q_skip hF (wanted_f hF rfl rfl rfl rfl rfl) rfl fun a hF=>q_skip hF (wanted_f hF rfl rfl rfl rfl rfl) rfl fun a hF=>q_skip hF (wanted_f hF rfl rfl rfl rfl rfl) rfl fun a hF=>q_skip hF (wanted_f hF rfl rfl rfl rfl rfl) rfl fun a hF=>q_x (v:=(.bool true)) hF hS (ex_pick_t rfl rfl rfl) rfl rfl fun a hF=>q_end (n_jn ?_)
     obtain rfl:=someI hj1
     exact ⟨hF.sub ⟨rfl,rfl,trivial⟩,hS⟩
   ·have hj1:=cond_t hc3 hj1
    refine q_skip hF (wanted_f hF rfl rfl rfl hc3 rfl) rfl fun a hF=>q_skip hF (wanted_f hF rfl rfl rfl hc3 rfl) rfl fun a hF=>q_skip hF (wanted_f hF rfl rfl rfl hc3 rfl) rfl fun a hF=>q_skip hF (wanted_f hF rfl rfl rfl hc3 rfl) rfl fun a hF=>q_x (v:=(.bool true)) hF hS (ex_pick_t rfl rfl hc3) rfl rfl fun a hF=>q_x (v:=(.bool true)) hF hS (ex_move rfl) rfl rfl fun a hF=>q_skip hF (wanted_f hF rfl rfl rfl rfl rfl) rfl fun a hF=>q_skip hF (wanted_f hF rfl rfl rfl rfl rfl) rfl fun a hF=>q_skip hF (wanted_f hF rfl rfl rfl rfl rfl) rfl fun a hF=>q_skip hF (wanted_f hF rfl rfl rfl rfl rfl) rfl fun a hF=>q_x (v:=(.bool true)) hF hS (ex_pick_t rfl rfl rfl) rfl rfl fun a hF=>q_x (v:=(.bool true)) hF hS (ex_move rfl) rfl rfl fun a hF=>q_skip hF (wanted_f hF rfl rfl rfl rfl rfl) rfl fun a hF=>q_skip hF (wanted_f hF rfl rfl rfl rfl rfl) rfl fun a hF=>q_skip hF (wanted_f hF rfl rfl rfl rfl rfl) rfl fun a hF=>q_skip hF (wanted_f hF rfl rfl rfl rfl rfl) rfl fun a hF=>q_skip hF (wanted_f hF rfl rfl rfl rfl rfl) rfl fun a hF=>q_x (v:=(.bool true)) hF hS (ex_pick_t rfl rfl rfl) rfl rfl fun a hF=>q_x (v:=(.bool true)) hF hS (ex_move rfl) rfl rfl fun a hF=>q_skip hF (wanted_f hF rfl rfl rfl rfl rfl) rfl fun a hF=>q_skip hF (wanted_f hF rfl rfl rfl rfl rfl) rfl fun a hF=>q_skip hF (wanted_f hF rfl rfl rfl rfl rfl) rfl fun a hF=>q_skip hF (wanted_f hF rfl rfl rfl rfl rfl) rfl fun a hF=>q_skip hF (wanted_f hF rfl rfl rfl rfl rfl) rfl fun a hF=>q_x (v:=(.bool true)) hF hS (ex_pick_t rfl rfl rfl) rfl rfl fun a hF=>?_
    refine q_end (n_jn ?_)
    obtain rfl:=someI hj1
    exact ⟨hF.sub ⟨rfl,rfl,trivial⟩,hS⟩
  ·have hj1:=cond_t hc2 hj1
   refine q_skip hF (wanted_f hF rfl rfl rfl hc2 rfl) rfl fun a hF=>q_skip hF (wanted_f hF rfl rfl rfl hc2 rfl) rfl fun a hF=>q_skip hF (wanted_f hF rfl rfl rfl hc2 rfl) rfl fun a hF=>q_skip hF (wanted_f hF rfl rfl rfl hc2 rfl) rfl fun a hF=>q_skip hF (wanted_f hF rfl rfl rfl hc2 rfl) rfl fun a hF=>q_x (v:=(.bool true)) hF hS (ex_pick_t rfl rfl hc2) rfl rfl fun a hF=>q_x (v:=(.bool true)) hF hS (ex_move rfl) rfl rfl fun a hF=>q_skip hF (wanted_f hF rfl rfl rfl rfl rfl) rfl fun a hF=>q_skip hF (wanted_f hF rfl rfl rfl rfl rfl) rfl fun a hF=>q_skip hF (wanted_f hF rfl rfl rfl rfl rfl) rfl fun a hF=>q_skip hF (wanted_f hF rfl rfl rfl rfl rfl) rfl fun a hF=>q_x (v:=(.bool true)) hF hS (ex_pick_t rfl rfl rfl) rfl rfl fun a hF=>q_x (v:=(.bool true)) hF hS (ex_move rfl) rfl rfl fun a hF=>q_skip hF (wanted_f hF rfl rfl rfl rfl rfl) rfl fun a hF=>q_skip hF (wanted_f hF rfl rfl rfl rfl rfl) rfl fun a hF=>q_skip hF (wanted_f hF rfl rfl rfl rfl rfl) rfl fun a hF=>q_skip hF (wanted_f hF rfl rfl rfl rfl rfl) rfl fun a hF=>q_x (v:=(.bool true)) hF hS (ex_pick_t rfl rfl rfl) rfl rfl fun a hF=>q_x (v:=(.bool true)) hF hS (ex_move rfl) rfl rfl fun a hF=>q_skip hF (wanted_f hF rfl rfl rfl rfl rfl) rfl fun a hF=>q_skip hF (wanted_f hF rfl rfl rfl rfl rfl) rfl fun a hF=>q_skip hF (wanted_f hF rfl rfl rfl rfl rfl) rfl fun a hF=>q_skip hF (wanted_f hF rfl rfl rfl rfl rfl) rfl fun a hF=>q_skip hF (wanted_f hF rfl rfl rfl rfl rfl) rfl fun a hF=>q_x (v:=(.bool true)) hF hS (ex_pick_t rfl rfl rfl) rfl rfl fun a hF=>?_
   refine q_x (v:=(.bool true)) hF hS (ex_move rfl) rfl rfl fun a hF=>q_skip hF (wanted_f hF rfl rfl rfl rfl rfl) rfl fun a hF=>q_skip hF (wanted_f hF rfl rfl rfl rfl rfl) rfl fun a hF=>q_skip hF (wanted_f hF rfl rfl rfl rfl rfl) rfl fun a hF=>q_skip hF (wanted_f hF rfl rfl rfl rfl rfl) rfl fun a hF=>q_skip hF (wanted_f hF rfl rfl rfl rfl rfl) rfl fun a hF=>q_x (v:=(.bool true)) hF hS (ex_pick_t rfl rfl rfl) rfl rfl fun a hF=>q_end (n_jn ?_)
   obtain rfl:=someI hj1
   exact ⟨hF.sub ⟨rfl,rfl,trivial⟩,hS⟩
 ·rintro a w ⟨hF,hS⟩
  refine n_sq ?_
  rcases bcase (t_12) with hc7 | hc7
  ·have hr:=cond_f hc7 hr
   refine q_cond_f hF rfl hc7 (q_skipc (n_sq (q_seq (q_seq (q_region (q_x (v:=(.pointer (some ⟨b5,2,none⟩))) hF hS (ex_fieldAddr Try.underlying50 rfl sz23 rfl rfl) rfl rfl fun a hF=>q_x (v:=s3.v) hF hS (ex_load1 0 0 Try.underlying23 rfl rfl rfl rfl) rfl rfl fun a hF=>q_x (v:=(iV (goLen p_t.Lo))) hF hS (ex_len Try.underlying23 rfl h3.len) rfl rfl fun a hF=>q_x (v:=(iV 0)) hF hS (ex_move rfl) rfl rfl fun a hF=>q_end (n_sq (q_block ?_))))))))
   obtain ⟨o8,hl8,hr⟩:=bindS hr
   refine q_loop (fun (t_13 : Int) a w=>Fr a 90 [(1,(.pointer (some ⟨b5,0,none⟩))),(45,(iV (goLen p_t.Lo))),(46,(iV t_13))]∧St [] w0 w m [[⟨b5,[s1.v,s2.v,s3.v,s4.v],50⟩]]) (fun (o : (Unit) ⊕ (Bool)) e a w=>o = .inl ()∧e = .exit 0∧Fr a 90 []∧St [] w0 w m []) hl8 ⟨hF.sub ⟨rfl,rfl,rfl,trivial⟩,hS⟩ ?_ ?_
   ·clear hF hS
    rintro t_13 a w st ⟨hF,hS⟩ hb8
    unfold spec_tGood_l1 at hb8
    refine q_seq (q_region (q_x (v:=(.bool (decide (t_13 < (goLen p_t.Lo))))) hF hS (ex_ibin rfl rfl rfl) rfl rfl fun a hF=>q_end (n_sq (q_seq ?_))))
    rcases bcase (decide (t_13 < (goLen p_t.Lo))) with hc9 | hc9
    ·have hb8:=cond_f hc9 hb8
     refine q_cond_f hF rfl hc9 (q_exit (x_sq ?_))
     obtain rfl:=someI hb8
     exact ⟨nofun,.inl ⟨rfl,rfl,hF.sub trivial,hS.mask [false]⟩⟩
    ·have hb8:=cond_t hc9 hb8
     refine q_cond_t hF rfl hc9 (q_skipc (n_sq (q_seq (q_block (q_seq (q_region (q_x (v:=(iV t_13)) hF hS (ex_move rfl) rfl rfl fun a hF=>q_x (v:=(iV t_13)) hF hS (ex_assign rfl) rfl rfl fun a hF=>q_end (n_sq (q_seq (q_region (q_x (v:=(.pointer (some ⟨b5,2,none⟩))) hF hS (ex_fieldAddr Try.underlying50 rfl sz23 rfl rfl) rfl rfl fun a hF=>q_x (v:=s3.v) hF hS (ex_load1 0 0 Try.underlying23 rfl rfl rfl rfl) rfl rfl fun a hF=>q_x (v:=(iV t_13)) hF hS (ex_move rfl) rfl rfl fun a hF=>?_)))))))))))
     obtain ⟨e_14,he_14,hb8⟩:=bindS hb8
     obtain ⟨vs15,at15,d15⟩:=h3.at he_14 1 rfl
     obtain ⟨s16,rfl,h16⟩ : ∃ s16 : Sl,vs15 = [s16.v]∧Rd m s16 e_14:=d15
     refine q_x (v:=(elP s3 (t_13.toNat * 1))) hF hS (ex_indexAddr Try.underlying23 sz28 rfl rfl (h3.idx he_14)) rfl rfl fun a hF=>q_x (v:=s16.v) hF hS (ex_loadE1 0 Try.underlying28 rfl rfl ((at15).at) rfl rfl) rfl rfl fun a hF=>q_x (v:=(iV (goLen e_14))) hF hS (ex_len Try.underlying28 rfl h16.len) rfl rfl fun a hF=>q_x (v:=(iV 0)) hF hS (ex_move rfl) rfl rfl fun a hF=>q_end (n_sq (q_block ?_))
     obtain ⟨o10,hl10,hb8⟩:=bindS hb8
     refine q_loop (fun (t_17 : Int) a w=>Fr a 90 [(1,(.pointer (some ⟨b5,0,none⟩))),(3,(iV t_13)),(45,(iV (goLen p_t.Lo))),(46,(iV t_13)),(54,(iV (goLen e_14))),(55,(iV t_17))]∧St [] w0 w m [[⟨b5,[s1.v,s2.v,s3.v,s4.v],50⟩]]) (fun (o : (Unit) ⊕ (Stp (Int) ((Unit) ⊕ (Bool)))) e a w=>o = .inl ()∧e = .exit 2∧Fr a 90 [(1,(.pointer (some ⟨b5,0,none⟩))),(45,(iV (goLen p_t.Lo))),(46,(iV t_13))]∧St [] w0 w m [[⟨b5,[s1.v,s2.v,s3.v,s4.v],50⟩]]) hl10 ⟨hF.sub ⟨rfl,rfl,rfl,rfl,rfl,rfl,trivial⟩,hS⟩ ?_ ?_
     ·clear hF hS
      rintro t_17 a w st ⟨hF,hS⟩ hb10
      unfold spec_tGood_l2 at hb10
      refine q_seq (q_region (q_x (v:=(.bool (decide (t_17 < (goLen e_14))))) hF hS (ex_ibin rfl rfl rfl) rfl rfl fun a hF=>q_end (n_sq (q_seq ?_))))
      rcases bcase (decide (t_17 < (goLen e_14))) with hc11 | hc11
      ·have hb10:=cond_f hc11 hb10
       refine q_cond_f hF rfl hc11 (q_exit (x_sq ?_))
       obtain rfl:=someI hb10
       exact ⟨nofun,.inl ⟨rfl,rfl,hF.sub ⟨rfl,rfl,rfl,trivial⟩,hS⟩⟩
      ·have hb10:=cond_t hc11 hb10
       refine q_cond_t hF rfl hc11 (q_skipc (n_sq (q_seq (q_block (q_seq (q_region (q_x (v:=(iV t_17)) hF hS (ex_move rfl) rfl rfl fun a hF=>q_x (v:=(iV t_17)) hF hS (ex_assign rfl) rfl rfl fun a hF=>q_end (n_sq (q_seq ?_)))))))))
       obtain ⟨t_35,hj12,hb10⟩:=bindS hb10
       refine q_join (fun a w=>Fr a 90 [(1,(.pointer (some ⟨b5,0,none⟩))),(3,(iV t_13)),(45,(iV (goLen p_t.Lo))),(46,(iV t_13)),(54,(iV (goLen e_14))),(55,(iV t_17)),(87,(.bool t_35))]∧St [] w0 w m [[⟨b5,[s1.v,s2.v,s3.v,s4.v],50⟩]]) ?_ ?_
       ·refine e_region ⟨[],[],m⟩ mixed fun w' hw'=>?_
        have hS:=hS.below hw'
        refine e_p (v:=(.pointer (some ⟨b5,3,none⟩))) 0 hF rfl (ex_fieldAddr Try.underlying50 rfl sz23 rfl rfl) rfl rfl (by kernel_rfl) (by kernel_rfl) (by kernel_rfl) fun a hF=>e_x (v:=s4.v) 1 hF hS rfl (ex_load1 0 0 Try.underlying23 rfl rfl rfl rfl) rfl rfl (by kernel_rfl) (by kernel_rfl) (by kernel_rfl) (by kernel_rfl) fun a hF=>e_p (v:=(iV t_13)) 2 hF rfl (ex_move rfl) rfl rfl (by kernel_rfl) (by kernel_rfl) (by kernel_rfl) fun a hF=>?_
        obtain ⟨e_18,he_18,hj12⟩:=bindS hj12
        obtain ⟨vs19,at19,d19⟩:=h4.at he_18 1 rfl
        obtain ⟨s20,rfl,h20⟩ : ∃ s20 : Sl,vs19 = [s20.v]∧Rd m s20 e_18:=d19
        refine e_p (v:=(elP s4 (t_13.toNat * 1))) 3 hF rfl (ex_indexAddr Try.underlying23 sz28 rfl rfl (h4.idx he_18)) rfl rfl (by kernel_rfl) (by kernel_rfl) (by kernel_rfl) fun a hF=>e_xm (v:=s20.v) 4 hF hS (Mem.le.refl _) rfl (ex_loadE1 0 Try.underlying28 rfl rfl ((at19).at) rfl rfl) rfl rfl (by kernel_rfl) (by kernel_rfl) (by kernel_rfl) fun a hF=>e_p (v:=(iV t_17)) 5 hF rfl (ex_move rfl) rfl rfl (by kernel_rfl) (by kernel_rfl) (by kernel_rfl) fun a hF=>?_
        obtain ⟨e_21,he_21,hj12⟩:=bindS hj12
        obtain ⟨vs22,at22,d22⟩:=h20.at he_21 1 rfl
        obtain rfl : vs22 = [(iV e_21)]:=d22
        refine e_p (v:=(elP s20 (t_17.toNat * 1))) 6 hF rfl (ex_indexAddr Try.underlying28 sz3 rfl rfl (h20.idx he_21)) rfl rfl (by kernel_rfl) (by kernel_rfl) (by kernel_rfl) fun a hF=>e_xm (v:=(iV e_21)) 7 hF hS (Mem.le.refl _) rfl (ex_loadE1 0 Try.underlying3 rfl rfl ((at22).at) rfl rfl) rfl rfl (by kernel_rfl) (by kernel_rfl) (by kernel_rfl) fun a hF=>e_one 8 (by kernel_rfl) ?_
        obtain ⟨t_23,ht_23,hj12⟩:=bindS hj12
        refine e_call (vs:=[(iV e_21),(iV 0),(iV 100000)]) hF hS rfl Try.func77 (by kernel_rfl) rfl rfl rfl (c_spec_l1In e_21 0 100000 t_23 ht_23 _ m hS.vis) ?_
        rintro a w _ rfl hF hS
        refine e_p (v:=(.bool (!t_23))) 9 hF rfl (ex_not rfl) rfl rfl (by kernel_rfl) (by kernel_rfl) (by kernel_rfl) fun a hF=>e_p (v:=(.bool (!t_23))) 10 hF rfl (ex_move rfl) rfl rfl (by kernel_rfl) (by kernel_rfl) (by kernel_rfl) fun a hF=>?_
        rcases bcase (!t_23) with hc13 | hc13
        ·have hj12:=cond_f hc13 hj12
         refine e_pg (v:=(.pointer (some ⟨b5,2,none⟩))) 11 hF rfl (ex_fieldAddr Try.underlying50 rfl sz23 rfl rfl) (wanted_t hF rfl rfl rfl hc13) rfl (by kernel_rfl) (by kernel_rfl) (by kernel_rfl) fun a hF=>e_xg (v:=s3.v) 12 hF hS rfl (ex_load1 0 0 Try.underlying23 rfl rfl rfl rfl) (wanted_t hF rfl rfl rfl hc13) rfl (by kernel_rfl) (by kernel_rfl) (by kernel_rfl) (by kernel_rfl) fun a hF=>e_pg (v:=(iV t_13)) 13 hF rfl (ex_move rfl) (wanted_t hF rfl rfl rfl hc13) rfl (by kernel_rfl) (by kernel_rfl) (by kernel_rfl) fun a hF=>?_
         obtain ⟨e_24,he_24,hj12⟩:=bindS hj12
         obtain ⟨vs25,at25,d25⟩:=h3.at he_24 1 rfl
         obtain ⟨s26,rfl,h26⟩ : ∃ s26 : Sl,vs25 = [s26.v]∧Rd m s26 e_24:=d25
         refine e_pg (v:=(elP s3 (t_13.toNat * 1))) 14 hF rfl (ex_indexAddr Try.underlying23 sz28 rfl rfl (h3.idx he_24)) (wanted_t hF rfl rfl rfl hc13) rfl (by kernel_rfl) (by kernel_rfl) (by kernel_rfl) fun a hF=>e_xg (v:=s26.v) 15 hF hS rfl (ex_loadE1 0 Try.underlying28 rfl rfl ((at25).at) rfl rfl) (wanted_t hF rfl rfl rfl hc13) rfl (by kernel_rfl) (by kernel_rfl) (by kernel_rfl) (by kernel_rfl) fun a hF=>e_pg (v:=(iV t_17)) 16 hF rfl (ex_move rfl) (wanted_t hF rfl rfl rfl hc13) rfl (by kernel_rfl) (by kernel_rfl) (by kernel_rfl) fun a hF=>?_
         obtain ⟨e_27,he_27,hj12⟩:=bindS hj12
         obtain ⟨vs28,at28,d28⟩:=h26.at he_27 1 rfl
         obtain rfl : vs28 = [(iV e_27)]:=d28
         refine e_pg (v:=(elP s26 (t_17.toNat * 1))) 17 hF rfl (ex_indexAddr Try.underlying28 sz3 rfl rfl (h26.idx he_27)) (wanted_t hF rfl rfl rfl hc13) rfl (by kernel_rfl) (by kernel_rfl) (by kernel_rfl) fun a hF=>e_xg (v:=(iV e_27)) 18 hF hS rfl (ex_loadE1 0 Try.underlying3 rfl rfl ((at28).at) rfl rfl) (wanted_t hF rfl rfl rfl hc13) rfl (by kernel_rfl) (by kernel_rfl) (by kernel_rfl) (by kernel_rfl) fun a hF=>e_pg (v:=(.pointer (some ⟨b5,3,none⟩))) 19 hF rfl (ex_fieldAddr Try.underlying50 rfl sz23 rfl rfl) (wanted_t hF rfl rfl rfl hc13) rfl (by kernel_rfl) (by kernel_rfl) (by kernel_rfl) fun a hF=>e_xg (v:=s4.v) 20 hF hS rfl (ex_load1 0 0 Try.underlying23 rfl rfl rfl rfl) (wanted_t hF rfl rfl rfl hc13) rfl (by kernel_rfl) (by kernel_rfl) (by kernel_rfl) (by kernel_rfl) fun a hF=>e_pg (v:=(iV t_13)) 21 hF rfl (ex_move rfl) (wanted_t hF rfl rfl rfl hc13) rfl (by kernel_rfl) (by kernel_rfl) (by kernel_rfl) fun a hF=>?_
         obtain ⟨e_29,he_29,hj12⟩:=bindS hj12
         obtain ⟨vs30,at30,d30⟩:=h4.at he_29 1 rfl
         obtain ⟨s31,rfl,h31⟩ : ∃ s31 : Sl,vs30 = [s31.v]∧Rd m s31 e_29:=d30
         refine e_pg (v:=(elP s4 (t_13.toNat * 1))) 22 hF rfl (ex_indexAddr Try.underlying23 sz28 rfl rfl (h4.idx he_29)) (wanted_t hF rfl rfl rfl hc13) rfl (by kernel_rfl) (by kernel_rfl) (by kernel_rfl) fun a hF=>e_xg (v:=s31.v) 23 hF hS rfl (ex_loadE1 0 Try.underlying28 rfl rfl ((at30).at) rfl rfl) (wanted_t hF rfl rfl rfl hc13) rfl (by kernel_rfl) (by kernel_rfl) (by kernel_rfl) (by kernel_rfl) fun a hF=>e_pg (v:=(iV t_17)) 24 hF rfl (ex_move rfl) (wanted_t hF rfl rfl rfl hc13) rfl (by kernel_rfl) (by kernel_rfl) (by kernel_rfl) fun a hF=>?_
         obtain ⟨e_32,he_32,hj12⟩:=bindS hj12
         obtain ⟨vs33,at33,d33⟩:=h31.at he_32 1 rfl
         obtain rfl : vs33 = [(iV e_32)]:=d33
         refine e_pg (v:=(elP s31 (t_17.toNat * 1))) 25 hF rfl (ex_indexAddr Try.underlying28 sz3 rfl rfl (h31.idx he_32)) (wanted_t hF rfl rfl rfl hc13) rfl (by kernel_rfl) (by kernel_rfl) (by kernel_rfl) fun a hF=>e_xg (v:=(iV e_32)) 26 hF hS rfl (ex_loadE1 0 Try.underlying3 rfl rfl ((at33).at) rfl rfl) (wanted_t hF rfl rfl rfl hc13) rfl (by kernel_rfl) (by kernel_rfl) (by kernel_rfl) (by kernel_rfl) fun a hF=>e_one 27 (by kernel_rfl) ?_
         obtain ⟨t_34,ht_34,hj12⟩:=bindS hj12
         refine e_callg (vs:=[(iV e_27),(iV 0),(iV e_32)]) hF hS rfl (wanted_t hF rfl rfl rfl hc13) Try.func77 (by kernel_rfl) rfl rfl rfl (c_spec_l1In e_27 0 e_32 t_34 ht_34 _ m hS.vis) ?_
         rintro a w _ rfl hF hS
         refine e_pg (v:=(.bool (!t_34))) 28 hF rfl (ex_not rfl) (wanted_t hF rfl rfl rfl hc13) rfl (by kernel_rfl) (by kernel_rfl) (by kernel_rfl) fun a hF=>e_p (v:=(.bool (!t_34))) 29 hF rfl (ex_pick_f rfl rfl hc13) rfl rfl (by kernel_rfl) (by kernel_rfl) (by kernel_rfl) fun a hF=>e_end (by kernel_rfl) (n_jn ?_) _
         obtain rfl:=someI hj12
         exact ⟨hF.sub ⟨rfl,rfl,rfl,rfl,rfl,rfl,rfl,trivial⟩,hS⟩
        ·have hj12:=cond_t hc13 hj12
         refine e_skipP 11 hF rfl (wanted_f hF rfl rfl rfl hc13 rfl) rfl (by kernel_rfl) (by kernel_rfl) (by kernel_rfl) fun a hF=>e_skipP 12 hF rfl (wanted_f hF rfl rfl rfl hc13 rfl) rfl (by kernel_rfl) (by kernel_rfl) (by kernel_rfl) fun a hF=>e_skipP 13 hF rfl (wanted_f hF rfl rfl rfl hc13 rfl) rfl (by kernel_rfl) (by kernel_rfl) (by kernel_rfl) fun a hF=>e_skipP 14 hF rfl (wanted_f hF rfl rfl rfl hc13 rfl) rfl (by kernel_rfl) (by kernel_rfl) (by kernel_rfl) fun a hF=>e_skipP 15 hF rfl (wanted_f hF rfl rfl rfl hc13 rfl) rfl (by kernel_rfl) (by kernel_rfl) (by kernel_rfl) fun a hF=>e_skipP 16 hF rfl (wanted_f hF rfl rfl rfl hc13 rfl) rfl (by kernel_rfl) (by kernel_rfl) (by kernel_rfl) fun a hF=>e_skipP 17 hF rfl (wanted_f hF rfl rfl rfl hc13 rfl) rfl (by kernel_rfl) (by kernel_rfl) (by kernel_rfl) fun a hF=>e_skipP 18 hF rfl (wanted_f hF rfl rfl rfl hc13 rfl) rfl (by kernel_rfl) (by kernel_rfl) (by kernel_rfl) fun a hF=>e_skipP 19 hF rfl (wanted_f hF rfl rfl rfl hc13 rfl) rfl (by kernel_rfl) (by kernel_rfl) (by kernel_rfl) fun a hF=>e_skipP 20 hF rfl (wanted_f hF rfl rfl rfl hc13 rfl) rfl (by kernel_rfl) (by kernel_rfl) (by kernel_rfl) fun a hF=>e_skipP 21 hF rfl (wanted_f hF rfl rfl rfl hc13 rfl) rfl (by kernel_rfl) (by kernel_rfl) (by kernel_rfl) fun a hF=>e_skipP 22 hF rfl (wanted_f hF rfl rfl rfl hc13 rfl) rfl (by kernel_rfl) (by kernel_rfl) (by kernel_rfl) fun a hF=>e_skipP 23 hF rfl (wanted_f hF rfl rfl rfl hc13 rfl) rfl (by kernel_rfl) (by kernel_rfl) (by kernel_rfl) fun a hF=>e_skipP 24 hF rfl (wanted_f hF rfl rfl rfl hc13 rfl) rfl (by kernel_rfl) (by kernel_rfl) (by kernel_rfl) fun a hF=>e_skipP 25 hF rfl (wanted_f hF rfl rfl rfl hc13 rfl) rfl (by kernel_rfl) (by kernel_rfl) (by kernel_rfl) fun a hF=>e_skipP 26 hF rfl (wanted_f hF rfl rfl rfl hc13 rfl) rfl (by kernel_rfl) (by kernel_rfl) (by kernel_rfl) fun a hF=>e_skipP 27 hF rfl (wanted_f hF rfl rfl rfl hc13 rfl) rfl (by kernel_rfl) (by kernel_rfl) (by kernel_rfl) fun a hF=>e_skipP 28 hF rfl (wanted_f hF rfl rfl rfl hc13 rfl) rfl (by kernel_rfl) (by kernel_rfl) (by kernel_rfl) fun a hF=>e_p (v:=(.bool true)) 29 hF rfl (ex_pick_t rfl rfl hc13) rfl rfl (by kernel_rfl) (by kernel_rfl) (by kernel_rfl) fun a hF=>e_end (by kernel_rfl) (n_jn ?_) _
         obtain rfl:=someI hj12
         exact ⟨hF.sub ⟨rfl,rfl,rfl,rfl,rfl,rfl,rfl,trivial⟩,hS⟩
       ·rintro a w ⟨hF,hS⟩
        refine n_sq ?_
        rcases bcase (t_35) with hc14 | hc14
        ·have hb10:=cond_f hc14 hb10
         refine q_cond_f hF rfl hc14 (q_skipc (n_ib (n_sq (q_region (q_x (v:=(iV (w64 (t_17 + 1)))) hF hS (ex_ibin rfl rfl rfl) rfl rfl fun a hF=>q_x (v:=(iV (w64 (t_17 + 1)))) hF hS (ex_move rfl) rfl rfl fun a hF=>q_end ?_)))))
         obtain rfl:=someI hb10
         exact ⟨rfl,hF.sub ⟨rfl,rfl,rfl,rfl,rfl,rfl,trivial⟩,hS⟩
        ·have hb10:=cond_t hc14 hb10
         refine q_cond_t hF rfl hc14 (q_seq (q_region (q_x (v:=(.bool false)) hF hS (ex_assign rfl) rfl rfl fun a hF=>q_end (n_sq (q_ret (r_ib (r_sq ?_)))))))
         obtain rfl:=someI hb10
         refine ⟨nofun,.inr fun ho=>?_⟩
         subst ho
         refine r_ib (r_ib (r_sq ?_))
         obtain rfl:=someI hb8
         refine ⟨nofun,.inr fun ho=>?_⟩
         subst ho
         refine r_ib (r_sq ?_)
         obtain rfl:=someI hr
         exact ret_of hF hS rfl (.tmp rfl .nil) rfl
     ·rintro e a w ⟨rfl,rfl,hF,hS⟩
      refine x_ib (n_ib (n_sq ?_))
      refine q_region (q_x (v:=(iV (w64 (t_13 + 1)))) hF hS (ex_ibin rfl rfl rfl) rfl rfl fun a hF=>q_x (v:=(iV (w64 (t_13 + 1)))) hF hS (ex_move rfl) rfl rfl fun a hF=>q_end ?_)
      obtain rfl:=someI hb8
      exact ⟨rfl,hF.sub ⟨rfl,rfl,rfl,trivial⟩,hS⟩
   ·rintro e a w ⟨rfl,rfl,hF,hS⟩
    refine x_ib (n_sq ?_)
    refine q_seq (q_region (q_x (v:=(.bool true)) hF hS (ex_assign rfl) rfl rfl fun a hF=>q_end (n_sq (q_ret ?_))))
    obtain rfl:=someI hr
    exact ret_of hF hS rfl (.tmp rfl .nil) rfl
  ·have hr:=cond_t hc7 hr
   refine q_cond_t hF rfl hc7 (q_seq (q_region (q_x (v:=(.bool false)) hF hS (ex_assign rfl) rfl rfl fun a hF=>q_end (n_sq (q_ret (r_sq ?_))))))
   obtain rfl:=someI hr
   exact ret_of hF hS rfl (.tmp rfl .nil) rfl

theorem c_spec_tSum (p_l : List Int) (r : Int) (hr : spec_tSum p_l = some r) (w0 : World) (m : Mem) (hv : Vis m w0) (s1 : Sl) (h1 : Rd m s1 p_l) :
  Ret Try.prog 83 [s1.v] w0 (fun v _=>v = (iV r)):=by
 unfold spec_tSum at hr
 refine ret_start Try.func83 rfl 17 rfl rfl m hv fun a hF hS=>q_seq (q_region (q_x (v:=(iV 0)) hF hS (ex_assign rfl) rfl rfl fun a hF=>q_end (n_sq (q_seq (q_region (q_x (v:=(iV 0)) hF hS (ex_assign rfl) rfl rfl fun a hF=>q_end (n_sq (q_seq (q_seq (q_region (q_x (v:=s1.v) hF hS (ex_move rfl) rfl rfl fun a hF=>q_x (v:=(iV (goLen p_l))) hF hS (ex_len Try.underlying28 rfl h1.len) rfl rfl fun a hF=>q_x (v:=(iV 0)) hF hS (ex_move rfl) rfl rfl fun a hF=>q_end (n_sq (q_block ?_)))))))))))))
 obtain ⟨sum_6,hl1,hr⟩:=bindS hr
 refine q_loop (fun (s : Int × Int) a w=>∃ sum_2,∃ t_3,s = (sum_2,t_3)∧Fr a 17 [(3,(iV sum_2)),(6,s1.v),(7,(iV (goLen p_l))),(8,(iV t_3))]∧St [] w0 w m []) (fun (sum_6 : Int) e a w=>e = .exit 0∧Fr a 17 [(3,(iV sum_6))]∧St [] w0 w m []) hl1 ⟨_,_,rfl,hF.sub ⟨rfl,rfl,rfl,rfl,trivial⟩,hS⟩ ?_ ?_
 ·clear hF hS
  rintro s a w st ⟨sum_2,t_3,rfl,hF,hS⟩ hb1
  unfold spec_tSum_l1 at hb1
  refine q_seq (q_region (q_x (v:=(.bool (decide (t_3 < (goLen p_l))))) hF hS (ex_ibin rfl rfl rfl) rfl rfl fun a hF=>q_end (n_sq (q_seq ?_))))
  rcases bcase (decide (t_3 < (goLen p_l))) with hc2 | hc2
  ·have hb1:=cond_f hc2 hb1
   refine q_cond_f hF rfl hc2 (q_exit (x_sq ?_))
   obtain rfl:=someI hb1
   exact ⟨nofun,.inl ⟨rfl,hF.sub ⟨rfl,trivial⟩,hS⟩⟩
  ·have hb1:=cond_t hc2 hb1
   refine q_cond_t hF rfl hc2 (q_skipc (n_sq (q_seq (q_block (q_seq (q_region ?_))))))
   obtain ⟨e_4,he_4,hb1⟩:=bindS hb1
   obtain ⟨vs5,at5,d5⟩:=h1.at he_4 1 rfl
   obtain rfl : vs5 = [(iV e_4)]:=d5
   refine q_x (v:=(elP s1 (t_3.toNat * 1))) hF hS (ex_indexAddr Try.underlying28 sz3 rfl rfl (h1.idx he_4)) rfl rfl fun a hF=>q_x (v:=(iV e_4)) hF hS (ex_loadE1 0 Try.underlying3 rfl rfl ((at5).at) rfl rfl) rfl rfl fun a hF=>q_x (v:=(iV e_4)) hF hS (ex_assign rfl) rfl rfl fun a hF=>q_end (n_sq (q_region (q_x (v:=(iV sum_2)) hF hS (ex_move rfl) rfl rfl fun a hF=>q_x (v:=(iV e_4)) hF hS (ex_move rfl) rfl rfl fun a hF=>q_x (v:=(iV (w64 (sum_2 + e_4)))) hF hS (ex_ibin rfl rfl rfl) rfl rfl fun a hF=>q_x (v:=(iV (w64 (sum_2 + e_4)))) hF hS (ex_assign rfl) rfl rfl fun a hF=>q_end (n_ib (n_sq (q_region (q_x (v:=(iV (w64 (t_3 + 1)))) hF hS (ex_ibin rfl rfl rfl) rfl rfl fun a hF=>q_x (v:=(iV (w64 (t_3 + 1)))) hF hS (ex_move rfl) rfl rfl fun a hF=>q_end ?_)))))))
   obtain rfl:=someI hb1
   exact ⟨rfl,_,_,rfl,hF.sub ⟨rfl,rfl,rfl,rfl,trivial⟩,hS⟩
 ·rintro e a w ⟨rfl,hF,hS⟩
  refine x_ib (n_sq ?_)
  refine q_seq (q_region (q_x (v:=(iV sum_6)) hF hS (ex_move rfl) rfl rfl fun a hF=>q_x (v:=(iV sum_6)) hF hS (ex_assign rfl) rfl rfl fun a hF=>q_end (n_sq (q_ret ?_))))
  obtain rfl:=someI hr
  exact ret_of hF hS rfl (.tmp rfl .nil) rfl

theorem c_spec_l1Own (p_l : List Int) (r : (List Int)) (hr : spec_l1Own p_l = some r) (w0 : World) (m : Mem) (hv : Vis m w0) (s1 : Sl) (h1 : Rd m s1 p_l) :
  Ret Try.prog 153 [s1.v] w0 (fun v w=>∃ (q0' : Piece) (s0' : Sl),v = s0'.v∧St [] w0 w m [q0']∧OwnL m 3 q0' s0' r):=by
 unfold spec_l1Own at hr
 refine ret_start Try.func153 rfl 6 rfl rfl m hv fun a hF hS=>q_seq (q_region (q_x (v:=nilS.v) hF hS (ex_assign rfl) rfl rfl fun a hF=>q_end (n_sq (q_seq (q_region (q_do rfl fun _ hK=>wp_build0 (α:=Int) hF hS Try.underlying28 inf3 rfl fun a w q2 s2 hF hS h2 _=>hK _ _ (q_x (v:=s1.v) hF hS (ex_move rfl) rfl rfl fun a hF=>?_)))))))
 obtain ⟨l_3,hl_3,hr⟩:=bindS hr
 refine q_do rfl fun _ hK=>wp_append hF hS h2 Try.underlying28 inf3 rfl rfl rfl rfl (h1.vw hS.vis) rfl (by decide) hl_3 rfl fun a w q4 s4 hF hS h4=>hK _ _ (q_x (v:=s4.v) hF hS (ex_assign rfl) rfl rfl fun a hF=>q_end (n_sq (q_ret ?_)))
 obtain rfl:=someI hr
 exact ret_of hF hS rfl (.tmp rfl .nil) ⟨q4,s4,rfl,hS.sel [0] (by decide),h4⟩

theorem c_spec_tOwn (p_x : List (List Int)) (r : (List (List Int))) (hr : spec_tOwn p_x = some r) (w0 : World) (m : Mem) (hv : Vis m w0) (s1 : Sl) (h1 : Rd m s1 p_x) :
  Ret Try.prog 145 [s1.v] w0 (fun v w=>∃ (q0' : Piece) (s0' : Sl),v = s0'.v∧St [] w0 w m [q0']∧OwnD m 28 3 q0' s0' r):=by
 unfold spec_tOwn at hr
 refine ret_start Try.func145 rfl 19 rfl rfl m hv fun a hF hS=>q_seq (q_region (q_x (v:=nilS.v) hF hS (ex_assign rfl) rfl rfl fun a hF=>q_end (n_sq (q_seq (q_region (q_x (v:=nilS.v) hF hS (ex_assign rfl) rfl rfl fun a hF=>q_end (n_sq (q_seq (q_seq (q_region (q_x (v:=s1.v) hF hS (ex_move rfl) rfl rfl fun a hF=>q_x (v:=(iV (goLen p_x))) hF hS (ex_len Try.underlying23 rfl h1.len) rfl rfl fun a hF=>q_x (v:=(iV 0)) hF hS (ex_move rfl) rfl rfl fun a hF=>q_end (n_sq (q_block ?_)))))))))))))
 obtain ⟨out_14,hl1,hr⟩:=bindS hr
 refine q_loop (fun (s : (List (List Int)) × Int) a w=>∃ (q3 : Piece),∃ (s3 : Sl),∃ out_2,∃ t_4,s = (out_2,t_4)∧Fr a 19 [(3,s3.v),(6,s1.v),(7,(iV (goLen p_x))),(8,(iV t_4))]∧St [] w0 w m [q3]∧OwnD m 28 3 q3 s3 out_2) (fun (out_14 : (List (List Int))) e a w=>∃ (q15 : Piece),∃ (s15 : Sl),e = .exit 0∧Fr a 19 [(3,s15.v)]∧St [] w0 w m [q15]∧OwnD m 28 3 q15 s15 out_14) hl1 ⟨[],nilS,_,_,rfl,hF.sub ⟨rfl,rfl,rfl,rfl,trivial⟩,hS.sel [0] (by decide),(OwnD.nil (β:=Int) m 28 3)⟩ ?_ ?_
 ·clear hF hS
  rintro s a w st ⟨q3,s3,out_2,t_4,rfl,hF,hS,h3⟩ hb1
  unfold spec_tOwn_l1 at hb1
  refine q_seq (q_region (q_x (v:=(.bool (decide (t_4 < (goLen p_x))))) hF hS (ex_ibin rfl rfl rfl) rfl rfl fun a hF=>q_end (n_sq (q_seq ?_))))
  rcases bcase (decide (t_4 < (goLen p_x))) with hc2 | hc2
  ·have hb1:=cond_f hc2 hb1
   refine q_cond_f hF rfl hc2 (q_exit (x_sq ?_))
   obtain rfl:=someI hb1
   exact ⟨nofun,.inl ⟨q3,s3,rfl,hF.sub ⟨rfl,trivial⟩,hS,h3⟩⟩
  ·have hb1:=cond_t hc2 hb1
   refine q_cond_t hF rfl hc2 (q_skipc (n_sq (q_seq (q_block (q_seq (q_region ?_))))))
   obtain ⟨e_5,he_5,hb1⟩:=bindS hb1
   obtain ⟨vs6,at6,d6⟩:=h1.at he_5 1 rfl
   obtain ⟨s7,rfl,h7⟩ : ∃ s7 : Sl,vs6 = [s7.v]∧Rd m s7 e_5:=d6
   refine q_x (v:=(elP s1 (t_4.toNat * 1))) hF hS (ex_indexAddr Try.underlying23 sz28 rfl rfl (h1.idx he_5)) rfl rfl fun a hF=>q_x (v:=s7.v) hF hS (ex_loadE1 0 Try.underlying28 rfl rfl ((at6).at) rfl rfl) rfl rfl fun a hF=>q_x (v:=s7.v) hF hS (ex_assign rfl) rfl rfl fun a hF=>q_end (n_sq (q_region (q_x (v:=s3.v) hF hS (ex_move rfl) rfl rfl fun a hF=>q_x (v:=s7.v) hF hS (ex_move rfl) rfl rfl fun a hF=>?_)))
   obtain ⟨t_8,ht_8,hb1⟩:=bindS hb1
   refine q_call (vs:=[s7.v]) hF hS Try.func153 (by kernel_rfl) rfl rfl rfl (c_spec_l1Own e_5 t_8 ht_8 _ m hS.vis s7 h7) ?_
   rintro a w _ ⟨q10,s10,rfl,hR9,h10⟩ hF hS2
   have hS : St _ _ _ _ [q10,q3]:=hS.joinF hR9
   refine q_do rfl fun _ hK=>wp_build1D hF hS h10 Try.underlying23 inf28 rfl rfl rfl fun a w q11 s11 hF hS h11 _=>hK _ _ ?_
   have hS : St _ _ _ _ [q3,q11]:=hS.sel [1,0] (by decide)
   obtain ⟨l_12,hl_12,hb1⟩:=bindS hb1
   refine q_do rfl fun _ hK=>wp_appendD hF hS h3 h11 Try.underlying23 inf28 rfl rfl rfl (by decide) hl_12 rfl fun a w q13 s13 hF hS h13=>hK _ _ (q_x (v:=s13.v) hF hS (ex_assign rfl) rfl rfl fun a hF=>q_end (n_ib (n_sq (q_region (q_x (v:=(iV (w64 (t_4 + 1)))) hF hS (ex_ibin rfl rfl rfl) rfl rfl fun a hF=>q_x (v:=(iV (w64 (t_4 + 1)))) hF hS (ex_move rfl) rfl rfl fun a hF=>q_end ?_)))))
   obtain rfl:=someI hb1
   exact ⟨rfl,q13,s13,_,_,rfl,hF.sub ⟨rfl,rfl,rfl,rfl,trivial⟩,hS,h13⟩
 ·rintro e a w ⟨q15,s15,rfl,hF,hS,h15⟩
  refine x_ib (n_sq ?_)
  refine q_seq (q_region (q_x (v:=s15.v) hF hS (ex_move rfl) rfl rfl fun a hF=>q_x (v:=s15.v) hF hS (ex_assign rfl) rfl rfl fun a hF=>q_end (n_sq (q_ret ?_))))
  obtain rfl:=someI hr
  exact ret_of hF hS rfl (.tmp rfl .nil) ⟨q15,s15,rfl,hS.sel [0] (by decide),h15⟩

theorem c_spec_tColumn (p_x : List (List Int)) (p_j : Int) (r : (List Int)) (hr : spec_tColumn p_x p_j = some r) (w0 : World) (m : Mem) (hv : Vis m w0) (s1 : Sl) (h1 : Rd m s1 p_x) :
  Ret Try.prog 162 [s1.v,(iV p_j)] w0 (fun v w=>∃ (q0' : Piece) (s0' : Sl),v = s0'.v∧St [] w0 w m [q0']∧OwnL m 3 q0' s0' r):=by
 unfold spec_tColumn at hr
 refine ret_start Try.func162 rfl 23 rfl rfl m hv fun a hF hS=>q_seq (q_region (q_x (v:=nilS.v) hF hS (ex_assign rfl) rfl rfl fun a hF=>q_end (n_sq (q_seq (q_region (q_x (v:=nilS.v) hF hS (ex_assign rfl) rfl rfl fun a hF=>q_end (n_sq (q_seq (q_seq (q_region (q_x (v:=s1.v) hF hS (ex_move rfl) rfl rfl fun a hF=>q_x (v:=(iV (goLen p_x))) hF hS (ex_len Try.underlying23 rfl h1.len) rfl rfl fun a hF=>q_x (v:=(iV 0)) hF hS (ex_move rfl) rfl rfl fun a hF=>q_end (n_sq (q_block ?_)))))))))))))
 obtain ⟨out_13,hl1,hr⟩:=bindS hr
 refine q_loop (fun (s : (List Int) × Int) a w=>∃ (q3 : Piece),∃ (s3 : Sl),∃ out_2,∃ t_4,s = (out_2,t_4)∧Fr a 23 [(1,(iV p_j)),(5,s3.v),(8,s1.v),(9,(iV (goLen p_x))),(10,(iV t_4))]∧St [] w0 w m [q3]∧OwnL m 3 q3 s3 out_2) (fun (out_13 : (List Int)) e a w=>∃ (q14 : Piece),∃ (s14 : Sl),e = .exit 0∧Fr a 23 [(5,s14.v)]∧St [] w0 w m [q14]∧OwnL m 3 q14 s14 out_13) hl1 ⟨[],nilS,_,_,rfl,hF.sub ⟨rfl,rfl,rfl,rfl,rfl,trivial⟩,hS.sel [0] (by decide),(OwnL.nil (α:=Int) m 3)⟩ ?_ ?_
 ·clear hF hS
  rintro s a w st ⟨q3,s3,out_2,t_4,rfl,hF,hS,h3⟩ hb1
  unfold spec_tColumn_l1 at hb1
  refine q_seq (q_region (q_x (v:=(.bool (decide (t_4 < (goLen p_x))))) hF hS (ex_ibin rfl rfl rfl) rfl rfl fun a hF=>q_end (n_sq (q_seq ?_))))
  rcases bcase (decide (t_4 < (goLen p_x))) with hc2 | hc2
  ·have hb1:=cond_f hc2 hb1
   refine q_cond_f hF rfl hc2 (q_exit (x_sq ?_))
   obtain rfl:=someI hb1
   exact ⟨nofun,.inl ⟨q3,s3,rfl,hF.sub ⟨rfl,trivial⟩,hS,h3⟩⟩
  ·have hb1:=cond_t hc2 hb1
   refine q_cond_t hF rfl hc2 (q_skipc (n_sq (q_seq (q_block (q_seq (q_region ?_))))))
   obtain ⟨e_5,he_5,hb1⟩:=bindS hb1
   obtain ⟨vs6,at6,d6⟩:=h1.at he_5 1 rfl
   obtain ⟨s7,rfl,h7⟩ : ∃ s7 : Sl,vs6 = [s7.v]∧Rd m s7 e_5:=d6
   refine q_x (v:=(elP s1 (t_4.toNat * 1))) hF hS (ex_indexAddr Try.underlying23 sz28 rfl rfl (h1.idx he_5)) rfl rfl fun a hF=>q_x (v:=s7.v) hF hS (ex_loadE1 0 Try.underlying28 rfl rfl ((at6).at) rfl rfl) rfl rfl fun a hF=>q_x (v:=s7.v) hF hS (ex_assign rfl) rfl rfl fun a hF=>q_end (n_sq (q_region (q_x (v:=s3.v) hF hS (ex_move rfl) rfl rfl fun a hF=>q_x (v:=s7.v) hF hS (ex_move rfl) rfl rfl fun a hF=>q_x (v:=(iV p_j)) hF hS (ex_move rfl) rfl rfl fun a hF=>?_)))
   obtain ⟨e_8,he_8,hb1⟩:=bindS hb1
   obtain ⟨vs9,at9,d9⟩:=h7.at he_8 1 rfl
   obtain rfl : vs9 = [(iV e_8)]:=d9
   refine q_x (v:=(elP s7 (p_j.toNat * 1))) hF hS (ex_indexAddr Try.underlying28 sz3 rfl rfl (h7.idx he_8)) rfl rfl fun a hF=>q_x (v:=(iV e_8)) hF hS (ex_loadE1 0 Try.underlying3 rfl rfl ((at9).at) rfl rfl) rfl rfl fun a hF=>q_do rfl fun _ hK=>wp_buildSlice' (l:=([e_8] : List Int)) (cells:=[(iV e_8)]) hF hS Try.underlying28 inf3 rfl rfl (by kernel_rfl) rfl rfl rfl ⟨rfl,rfl⟩ rfl rfl fun a w q10 s10 hF hS h10 _=>hK _ _ ?_
   have hS : St _ _ _ _ [q3,q10]:=hS.sel [1,0] (by decide)
   obtain ⟨l_11,hl_11,hb1⟩:=bindS hb1
   refine q_do rfl fun _ hK=>wp_append hF hS h3 Try.underlying28 inf3 rfl rfl rfl rfl (h10.vw hS (j:=1) rfl) rfl (by decide) hl_11 rfl fun a w q12 s12 hF hS h12=>hK _ _ (q_x (v:=s12.v) hF hS (ex_assign rfl) rfl rfl fun a hF=>q_end (n_ib (n_sq (q_region (q_x (v:=(iV (w64 (t_4 + 1)))) hF hS (ex_ibin rfl rfl rfl) rfl rfl fun a hF=>q_x (v:=(iV (w64 (t_4 + 1)))) hF hS (ex_move rfl) rfl rfl fun a hF=>q_end ?_)))))
   obtain rfl:=someI hb1
   exact ⟨rfl,q12,s12,_,_,rfl,hF.sub ⟨rfl,rfl,rfl,rfl,rfl,trivial⟩,hS.mask [true,false],h12⟩
 ·rintro e a w ⟨q14,s14,rfl,hF,hS,h14⟩
  refine x_ib (n_sq ?_)
  refine q_seq (q_region (q_x (v:=s14.v) hF hS (ex_move rfl) rfl rfl fun a hF=>q_x (v:=s14.v) hF hS (ex_assign rfl) rfl rfl fun a hF=>q_end (n_sq (q_ret ?_))))
  obtain rfl:=someI hr
  exact ret_of hF hS rfl (.tmp rfl .nil) ⟨q14,s14,rfl,hS.sel [0] (by decide),h14⟩

theorem c_spec_tStart (p_t : impl_Transport) (r : spec_tFill × Bool) (hr : spec_tStart p_t = some r) (w0 : World) (m : Mem) (hv : Vis m w0) (s1 : Sl) (h1 : Rd m s1 p_t.Rows) (s2 : Sl) (h2 : Rd m s2 p_t.Cols) (s3 : Sl) (h3 : Rd m s3 p_t.Lo) (s4 : Sl) (h4 : Rd m s4 p_t.Hi) :
  Ret Try.prog 198 [(.agg #[s1.v,s2.v,s3.v,s4.v])] w0 (fun v w=>∃ (m' : Mem) (b0' : Nat) (q4' : Piece) (q5' : Piece) (q6' : Piece) (s0' : Sl) (s1' : Sl) (s2' : Sl) (s3' : Sl) (s4' : Sl) (s5' : Sl) (s6' : Sl),v = (.tuple #[(.pointer (some ⟨b0',0,none⟩)),(.bool r.2)])∧MLe [] w0.heap.size m m'∧St [] w0 w m' [[⟨b0',[s0'.v,s1'.v,s2'.v,s3'.v,s4'.v,s5'.v,s6'.v],150⟩],q4',q5',q6']∧Rd m' s0' r.1.t.Rows∧Rd m' s1' r.1.t.Cols∧Rd m' s2' r.1.t.Lo∧Rd m' s3' r.1.t.Hi∧OwnD m' 28 3 q4' s4' r.1.x∧OwnL m' 3 q5' s5' r.1.rows∧OwnL m' 3 q6' s6' r.1.cols):=by
 unfold spec_tStart at hr
 refine ret_start Try.func198 rfl 79 rfl rfl m hv fun a hF hS=>q_seq (q_region (q_box (cs:=[s1.v,s2.v,s3.v,s4.v]) hF hS rfl rfl rfl fun a w b5 hF hS=>q_x (v:=(.pointer none)) hF hS (ex_assign rfl) rfl rfl fun a hF=>q_x (v:=(.bool false)) hF hS (ex_assign rfl) rfl rfl fun a hF=>q_end (n_sq (q_seq (e_region ⟨[],[],m⟩ mixed fun w' hw'=>?_)))))
 have hS:=hS.below hw'
 refine e_x (v:=(.agg #[s1.v,s2.v,s3.v,s4.v])) 0 hF hS rfl (ex_loadA (vs:=[s1.v,s2.v,s3.v,s4.v]) 0 0 Try.underlying50 rfl sz50 rfl rfl rfl rfl) rfl rfl (by kernel_rfl) (by kernel_rfl) (by kernel_rfl) (by kernel_rfl) fun a hF=>e_p (v:=(.pointer (some ⟨b5,2,none⟩))) 1 hF rfl (ex_fieldAddr Try.underlying50 rfl sz23 rfl rfl) rfl rfl (by kernel_rfl) (by kernel_rfl) (by kernel_rfl) fun a hF=>e_x (v:=s3.v) 2 hF hS rfl (ex_load1 0 0 Try.underlying23 rfl rfl rfl rfl) rfl rfl (by kernel_rfl) (by kernel_rfl) (by kernel_rfl) (by kernel_rfl) fun a hF=>e_one 3 (by kernel_rfl) ?_
 obtain ⟨t_6,ht_6,hr⟩:=bindS hr
 refine e_call (vs:=[s3.v]) hF hS rfl Try.func145 (by kernel_rfl) rfl rfl rfl (c_spec_tOwn p_t.Lo t_6 ht_6 _ m hS.vis s3 h3) ?_
 rintro a w _ ⟨q8,s8,rfl,hR7,h8⟩ hF hS2
 have hS : St _ _ _ _ [q8,[⟨b5,[s1.v,s2.v,s3.v,s4.v],50⟩]]:=hS.joinF hR7
 refine e_p (v:=(.agg #[s1.v,s2.v,s3.v,s4.v,s8.v,nilS.v,nilS.v])) 4 hF rfl (ex_build (cells:=[s1.v,s2.v,s3.v,s4.v,s8.v,nilS.v,nilS.v]) rfl (by kernel_rfl)) rfl rfl (by kernel_rfl) (by kernel_rfl) (by kernel_rfl) fun a hF=>e_one 5 (by kernel_rfl) (e_box (cs:=[s1.v,s2.v,s3.v,s4.v,s8.v,nilS.v,nilS.v]) hF hS rfl rfl rfl rfl fun a w b9 hF hS=>e_p (v:=(.pointer (some ⟨b9,0,none⟩))) 6 hF rfl (ex_assign rfl) rfl rfl (by kernel_rfl) (by kernel_rfl) (by kernel_rfl) fun a hF=>e_end (by kernel_rfl) (n_sq ?_) _)
 refine q_seq (q_seq (q_region (q_x (v:=(.pointer (some ⟨b5,0,none⟩))) hF hS (ex_fieldAddr Try.underlying50 rfl sz28 rfl rfl) rfl rfl fun a hF=>q_x (v:=s1.v) hF hS (ex_load1 2 0 Try.underlying28 rfl rfl rfl rfl) rfl rfl fun a hF=>q_x (v:=(iV (goLen p_t.Rows))) hF hS (ex_len Try.underlying28 rfl h1.len) rfl rfl fun a hF=>q_x (v:=(iV 0)) hF hS (ex_move rfl) rfl rfl fun a hF=>q_end (n_sq (q_block ?_)))))
 obtain ⟨t_27,hl1,hr⟩:=bindS hr
 refine q_loop (fun (s : Int × spec_tFill) a w=>∃ (q17 : Piece),∃ (s17 : Sl),∃ t_10,∃ t_11,s = (t_10,t_11)∧Fr a 79 [(1,(.pointer (some ⟨b5,0,none⟩))),(4,(.pointer (some ⟨b9,0,none⟩))),(16,s1.v),(17,(iV (goLen p_t.Rows))),(18,(iV t_10))]∧St [] w0 w m [q17,[⟨b9,[s1.v,s2.v,s3.v,s4.v,s8.v,s17.v,nilS.v],150⟩],q8,[⟨b5,[s1.v,s2.v,s3.v,s4.v],50⟩]]∧Rd m s1 t_11.t.Rows∧t_11.t.Rows = p_t.Rows∧Rd m s2 t_11.t.Cols∧t_11.t.Cols = p_t.Cols∧Rd m s3 t_11.t.Lo∧t_11.t.Lo = p_t.Lo∧Rd m s4 t_11.t.Hi∧t_11.t.Hi = p_t.Hi∧OwnD m 28 3 q8 s8 t_11.x∧t_11.x = t_6∧OwnL m 3 q17 s17 t_11.rows) (fun (t_27 : spec_tFill) e a w=>∃ (q33 : Piece),∃ (s33 : Sl),e = .exit 0∧Fr a 79 [(1,(.pointer (some ⟨b5,0,none⟩))),(4,(.pointer (some ⟨b9,0,none⟩)))]∧St [] w0 w m [q8,q33,[⟨b9,[s1.v,s2.v,s3.v,s4.v,s8.v,s33.v,nilS.v],150⟩],[⟨b5,[s1.v,s2.v,s3.v,s4.v],50⟩]]∧Rd m s1 t_27.t.Rows∧t_27.t.Rows = p_t.Rows∧Rd m s2 t_27.t.Cols∧t_27.t.Cols = p_t.Cols∧Rd m s3 t_27.t.Lo∧t_27.t.Lo = p_t.Lo∧Rd m s4 t_27.t.Hi∧t_27.t.Hi = p_t.Hi∧OwnD m 28 3 q8 s8 t_27.x∧t_27.x = t_6∧OwnL m 3 q33 s33 t_27.rows) hl1 ⟨[],nilS,_,_,rfl,hF.sub ⟨rfl,rfl,rfl,rfl,rfl,trivial⟩,hS.sel [3,0,1,2] (by decide),h1,rfl,h2,rfl,h3,rfl,h4,rfl,h8,rfl,(OwnL.nil (α:=Int) m 3)⟩ ?_ ?_
 ·clear hF hS
  rintro s a w st ⟨q17,s17,t_10,t_11,rfl,hF,hS,h12,h12k,h13,h13k,h14,h14k,h15,h15k,h16,h16k,h17⟩ hb1
  unfold spec_tStart_l1 at hb1
  refine q_seq (q_region (q_x (v:=(.bool (decide (t_10 < (goLen p_t.Rows))))) hF hS (ex_ibin rfl rfl rfl) rfl rfl fun a hF=>q_end (n_sq (q_seq ?_))))
  rcases bcase (decide (t_10 < (goLen p_t.Rows))) with hc2 | hc2
  ·have hb1:=cond_f hc2 hb1
   refine q_cond_f hF rfl hc2 (q_exit (x_sq ?_))
   obtain rfl:=someI hb1
   exact ⟨nofun,.inl ⟨q17,s17,rfl,hF.sub ⟨rfl,rfl,trivial⟩,hS.sel [2,0,1,3] (by decide),h12,h12k,h13,h13k,h14,h14k,h15,h15k,h16,h16k,h17⟩⟩
  ·have hb1:=cond_t hc2 hb1
   refine q_cond_t hF rfl hc2 (q_skipc (n_sq (q_seq (q_block (q_seq (q_region (q_x (v:=(iV t_10)) hF hS (ex_move rfl) rfl rfl fun a hF=>?_)))))))
   obtain ⟨e_18,he_18,hb1⟩:=bindS hb1
   obtain ⟨vs19,at19,d19⟩:=h1.at he_18 1 rfl
   obtain rfl : vs19 = [(iV e_18)]:=d19
   refine q_x (v:=(elP s1 (t_10.toNat * 1))) hF hS (ex_indexAddr Try.underlying28 sz3 rfl rfl (h1.idx he_18)) rfl rfl fun a hF=>q_x (v:=(iV e_18)) hF hS (ex_loadE1 0 Try.underlying3 rfl rfl ((at19).at) rfl rfl) rfl rfl fun a hF=>q_x (v:=(iV t_10)) hF hS (ex_assign rfl) rfl rfl fun a hF=>q_x (v:=(iV e_18)) hF hS (ex_assign rfl) rfl rfl fun a hF=>q_end (n_sq (e_region ⟨[14,17],[],m⟩ mixed fun w' hw'=>?_))
   have hS:=hS.below hw'
   refine e_p (v:=(.pointer (some ⟨b9,0,none⟩))) 0 hF rfl (ex_move rfl) rfl rfl (by kernel_rfl) (by kernel_rfl) (by kernel_rfl) fun a hF=>e_p (v:=(.pointer (some ⟨b9,0,none⟩))) 1 hF rfl (ex_move rfl) rfl rfl (by kernel_rfl) (by kernel_rfl) (by kernel_rfl) fun a hF=>e_p (v:=(.pointer (some ⟨b9,0,none⟩))) 2 hF rfl (ex_nilCheck rfl) rfl rfl (by kernel_rfl) (by kernel_rfl) (by kernel_rfl) fun a hF=>e_p (v:=(.pointer (some ⟨b9,5,none⟩))) 3 hF rfl (ex_fieldAddr Try.underlying150 rfl sz28 rfl rfl) rfl rfl (by kernel_rfl) (by kernel_rfl) (by kernel_rfl) fun a hF=>e_x (v:=s17.v) 4 hF hS rfl (ex_load1 1 0 Try.underlying28 rfl rfl rfl rfl) rfl rfl (by kernel_rfl) (by kernel_rfl) (by kernel_rfl) (by kernel_rfl) fun a hF=>e_p (v:=(iV e_18)) 5 hF rfl (ex_move rfl) rfl rfl (by kernel_rfl) (by kernel_rfl) (by kernel_rfl) fun a hF=>e_p (v:=(.pointer (some ⟨b5,2,none⟩))) 6 hF rfl (ex_fieldAddr Try.underlying50 rfl sz23 rfl rfl) rfl rfl (by kernel_rfl) (by kernel_rfl) (by kernel_rfl) fun a hF=>e_p (v:=(iV t_10)) 8 hF rfl (ex_move rfl) rfl rfl (by kernel_rfl) (by kernel_rfl) (by kernel_rfl) fun a hF=>e_one 7 (by kernel_rfl) (e_lx (v:=s3.v) hF hS rfl (ex_load1 3 0 Try.underlying23 rfl rfl rfl rfl) rfl rfl fun a hF=>?_)
   obtain ⟨e_20,he_20,hb1⟩:=bindS hb1
   obtain ⟨vs21,at21,d21⟩:=h3.at he_20 1 rfl
   obtain ⟨s22,rfl,h22⟩ : ∃ s22 : Sl,vs21 = [s22.v]∧Rd m s22 e_20:=d21
   refine e_p (v:=(elP s3 (t_10.toNat * 1))) 9 hF rfl (ex_indexAddr Try.underlying23 sz28 rfl rfl (h3.idx he_20)) rfl rfl (by kernel_rfl) (by kernel_rfl) (by kernel_rfl) fun a hF=>e_xm (v:=s22.v) 10 hF hS (Mem.le.refl _) rfl (ex_loadE1 0 Try.underlying28 rfl rfl ((at21).at) rfl rfl) rfl rfl (by kernel_rfl) (by kernel_rfl) (by kernel_rfl) fun a hF=>e_one 11 (by kernel_rfl) ?_
   obtain ⟨t_23,ht_23,hb1⟩:=bindS hb1
   refine e_call (vs:=[s22.v]) hF hS rfl Try.func83 (by kernel_rfl) rfl rfl rfl (c_spec_tSum e_20 t_23 ht_23 _ m hS.vis s22 h22) ?_
   rintro a w _ rfl hF hS
   refine e_p (v:=(iV (w64 (e_18 - t_23)))) 12 hF rfl (ex_ibin rfl rfl rfl) rfl rfl (by kernel_rfl) (by kernel_rfl) (by kernel_rfl) fun a hF=>e_one 13 (by kernel_rfl) (e_op rfl rfl fun _ hK=>wp_buildSlice' (l:=([(w64 (e_18 - t_23))] : List Int)) (cells:=[(iV (w64 (e_18 - t_23)))]) hF hS Try.underlying28 inf3 rfl rfl (by kernel_rfl) rfl rfl rfl ⟨rfl,rfl⟩ rfl rfl fun a w q24 s24 hF hS h24 hb=>hK _ _ hb (e_one 14 (by kernel_rfl) ?_))
   have hS : St _ _ _ _ [q17,q24,[⟨b9,[s1.v,s2.v,s3.v,s4.v,s8.v,s17.v,nilS.v],150⟩],q8,[⟨b5,[s1.v,s2.v,s3.v,s4.v],50⟩]]:=hS.sel [1,0,2,3,4] (by decide)
   obtain ⟨l_25,hl_25,hb1⟩:=bindS hb1
   refine e_opl rfl rfl rfl fun _ hK=>wp_append hF hS h17 Try.underlying28 inf3 rfl rfl rfl rfl (h24.vw hS (j:=1) rfl) rfl (by decide) hl_25 rfl fun a w q26 s26 hF hS h26=>hK _ _ (⟨⟨kpN,fun _=>hS.vis.of_le (Mem.le.refl _)⟩,?_⟩)
   refine e_p (v:=(.pointer (some ⟨b9,0,none⟩))) 15 hF rfl (ex_nilCheck rfl) rfl rfl (by kernel_rfl) (by kernel_rfl) (by kernel_rfl) fun a hF=>e_p (v:=(.pointer (some ⟨b9,5,none⟩))) 16 hF rfl (ex_fieldAddr Try.underlying150 rfl sz28 rfl rfl) rfl rfl (by kernel_rfl) (by kernel_rfl) (by kernel_rfl) fun a hF=>e_one 17 (by kernel_rfl) (e_store (vs:=[s26.v]) (cs':=[s1.v,s2.v,s3.v,s4.v,s8.v,s26.v,nilS.v]) 2 0 hF hS rfl rfl sz28 rfl rfl rfl rfl rfl rfl rfl rfl fun a w hF hS=>⟨⟨kpN,fun _=>hS.vis.of_le (Mem.le.refl _)⟩,?_⟩)
   refine e_end (by kernel_rfl) (n_ib (n_sq ?_)) _
   refine q_region (q_x (v:=(iV (w64 (t_10 + 1)))) hF hS (ex_ibin rfl rfl rfl) rfl rfl fun a hF=>q_x (v:=(iV (w64 (t_10 + 1)))) hF hS (ex_move rfl) rfl rfl fun a hF=>q_end ?_)
   obtain rfl:=someI hb1
   exact ⟨rfl,q26,s26,_,_,rfl,hF.sub ⟨rfl,rfl,rfl,rfl,rfl,trivial⟩,hS.mask [true,false,true,true,true],h12,h12k,h13,h13k,h14,h14k,h15,h15k,h16,h16k,h26⟩
 ·rintro e a w ⟨q33,s33,rfl,hF,hS,h28,h28k,h29,h29k,h30,h30k,h31,h31k,h32,h32k,h33⟩
  refine x_ib (n_sq ?_)
  refine q_seq (q_seq (q_region (q_x (v:=(.pointer (some ⟨b5,1,none⟩))) hF hS (ex_fieldAddr Try.underlying50 rfl sz28 rfl rfl) rfl rfl fun a hF=>q_x (v:=s2.v) hF hS (ex_load1 3 0 Try.underlying28 rfl rfl rfl rfl) rfl rfl fun a hF=>q_x (v:=(iV (goLen p_t.Cols))) hF hS (ex_len Try.underlying28 rfl h2.len) rfl rfl fun a hF=>q_x (v:=(iV 0)) hF hS (ex_move rfl) rfl rfl fun a hF=>q_end (n_sq (q_block ?_)))))
  obtain ⟨t_53,hl3,hr⟩:=bindS hr
  refine q_loop (fun (s : Int × spec_tFill) a w=>∃ (q42 : Piece),∃ (s42 : Sl),∃ t_34,∃ t_35,s = (t_34,t_35)∧Fr a 79 [(1,(.pointer (some ⟨b5,0,none⟩))),(4,(.pointer (some ⟨b9,0,none⟩))),(42,s2.v),(43,(iV (goLen p_t.Cols))),(44,(iV t_34))]∧St [] w0 w m [q42,q8,q33,[⟨b9,[s1.v,s2.v,s3.v,s4.v,s8.v,s33.v,s42.v],150⟩],[⟨b5,[s1.v,s2.v,s3.v,s4.v],50⟩]]∧Rd m s1 t_35.t.Rows∧t_35.t.Rows = p_t.Rows∧Rd m s2 t_35.t.Cols∧t_35.t.Cols = p_t.Cols∧Rd m s3 t_35.t.Lo∧t_35.t.Lo = p_t.Lo∧Rd m s4 t_35.t.Hi∧t_35.t.Hi = p_t.Hi∧OwnD m 28 3 q8 s8 t_35.x∧t_35.x = t_6∧OwnL m 3 q33 s33 t_35.rows∧t_35.rows = t_27.rows∧OwnL m 3 q42 s42 t_35.cols) (fun (t_53 : spec_tFill) e a w=>∃ (q60 : Piece),∃ (s60 : Sl),e = .exit 2∧Fr a 79 [(4,(.pointer (some ⟨b9,0,none⟩)))]∧St [] w0 w m [q8,q33,q60,[⟨b9,[s1.v,s2.v,s3.v,s4.v,s8.v,s33.v,s60.v],150⟩]]∧Rd m s1 t_53.t.Rows∧t_53.t.Rows = p_t.Rows∧Rd m s2 t_53.t.Cols∧t_53.t.Cols = p_t.Cols∧Rd m s3 t_53.t.Lo∧t_53.t.Lo = p_t.Lo∧Rd m s4 t_53.t.Hi∧t_53.t.Hi = p_t.Hi∧OwnD m 28 3 q8 s8 t_53.x∧t_53.x = t_6∧OwnL m 3 q33 s33 t_53.rows∧t_53.rows = t_27.rows∧OwnL m 3 q60 s60 t_53.cols) hl3 ⟨[],nilS,_,_,rfl,hF.sub ⟨rfl,rfl,rfl,rfl,rfl,trivial⟩,hS.sel [4,0,1,2,3] (by decide),h28,h28k,h29,h29k,h30,h30k,h31,h31k,h32,h32k,h33,rfl,(OwnL.nil (α:=Int) m 3)⟩ ?_ ?_
  ·clear hF hS
   rintro s a w st ⟨q42,s42,t_34,t_35,rfl,hF,hS,h36,h36k,h37,h37k,h38,h38k,h39,h39k,h40,h40k,h41,h41k,h42⟩ hb3
   unfold spec_tStart_l2 at hb3
   refine q_seq (q_region (q_x (v:=(.bool (decide (t_34 < (goLen p_t.Cols))))) hF hS (ex_ibin rfl rfl rfl) rfl rfl fun a hF=>q_end (n_sq (q_seq ?_))))
   rcases bcase (decide (t_34 < (goLen p_t.Cols))) with hc4 | hc4
   ·have hb3:=cond_f hc4 hb3
    refine q_cond_f hF rfl hc4 (q_exit (x_sq ?_))
    obtain rfl:=someI hb3
    exact ⟨nofun,.inl ⟨q42,s42,rfl,hF.sub ⟨rfl,trivial⟩,hS.sel [1,2,0,3] (by decide),h36,h36k,h37,h37k,h38,h38k,h39,h39k,h40,h40k,h41,h41k,h42⟩⟩
   ·have hb3:=cond_t hc4 hb3
    refine q_cond_t hF rfl hc4 (q_skipc (n_sq (q_seq (q_block (q_seq (q_region (q_x (v:=(iV t_34)) hF hS (ex_move rfl) rfl rfl fun a hF=>?_)))))))
    obtain ⟨e_43,he_43,hb3⟩:=bindS hb3
    obtain ⟨vs44,at44,d44⟩:=h2.at he_43 1 rfl
    obtain rfl : vs44 = [(iV e_43)]:=d44
    refine q_x (v:=(elP s2 (t_34.toNat * 1))) hF hS (ex_indexAddr Try.underlying28 sz3 rfl rfl (h2.idx he_43)) rfl rfl fun a hF=>q_x (v:=(iV e_43)) hF hS (ex_loadE1 0 Try.underlying3 rfl rfl ((at44).at) rfl rfl) rfl rfl fun a hF=>q_x (v:=(iV t_34)) hF hS (ex_assign rfl) rfl rfl fun a hF=>q_x (v:=(iV e_43)) hF hS (ex_assign rfl) rfl rfl fun a hF=>q_end (n_sq (e_region ⟨[13,16],[],m⟩ mixed fun w' hw'=>?_))
    have hS:=hS.below hw'
    refine e_p (v:=(.pointer (some ⟨b9,0,none⟩))) 0 hF rfl (ex_move rfl) rfl rfl (by kernel_rfl) (by kernel_rfl) (by kernel_rfl) fun a hF=>e_p (v:=(.pointer (some ⟨b9,0,none⟩))) 1 hF rfl (ex_move rfl) rfl rfl (by kernel_rfl) (by kernel_rfl) (by kernel_rfl) fun a hF=>e_p (v:=(.pointer (some ⟨b9,0,none⟩))) 2 hF rfl (ex_nilCheck rfl) rfl rfl (by kernel_rfl) (by kernel_rfl) (by kernel_rfl) fun a hF=>e_p (v:=(.pointer (some ⟨b9,6,none⟩))) 3 hF rfl (ex_fieldAddr Try.underlying150 rfl sz28 rfl rfl) rfl rfl (by kernel_rfl) (by kernel_rfl) (by kernel_rfl) fun a hF=>e_x (v:=s42.v) 4 hF hS rfl (ex_load1 3 0 Try.underlying28 rfl rfl rfl rfl) rfl rfl (by kernel_rfl) (by kernel_rfl) (by kernel_rfl) (by kernel_rfl) fun a hF=>e_p (v:=(iV e_43)) 5 hF rfl (ex_move rfl) rfl rfl (by kernel_rfl) (by kernel_rfl) (by kernel_rfl) fun a hF=>e_p (v:=(.pointer (some ⟨b5,2,none⟩))) 6 hF rfl (ex_fieldAddr Try.underlying50 rfl sz23 rfl rfl) rfl rfl (by kernel_rfl) (by kernel_rfl) (by kernel_rfl) fun a hF=>e_p (v:=(iV t_34)) 8 hF rfl (ex_move rfl) rfl rfl (by kernel_rfl) (by kernel_rfl) (by kernel_rfl) fun a hF=>e_one 7 (by kernel_rfl) (e_lx (v:=s3.v) hF hS rfl (ex_load1 4 0 Try.underlying23 rfl rfl rfl rfl) rfl rfl fun a hF=>e_one 9 (by kernel_rfl) ?_)
    obtain ⟨t_45,ht_45,hb3⟩:=bindS hb3
    refine e_call (vs:=[s3.v,(iV t_34)]) hF hS rfl Try.func162 (by kernel_rfl) rfl rfl rfl (c_spec_tColumn p_t.Lo t_34 t_45 ht_45 _ m hS.vis s3 h3) ?_
    rintro a w _ ⟨q47,s47,rfl,hR46,h47⟩ hF hS2
    have hS : St _ _ _ _ [q47,q42,q8,q33,[⟨b9,[s1.v,s2.v,s3.v,s4.v,s8.v,s33.v,s42.v],150⟩],[⟨b5,[s1.v,s2.v,s3.v,s4.v],50⟩]]:=hS.joinF hR46
    refine e_one 10 (by kernel_rfl) ?_
    obtain ⟨m49,hl49,hv49,hz49⟩:=hS.lend
    obtain ⟨t_48,ht_48,hb3⟩:=bindS hb3
    refine e_call (vs:=[s47.v]) hF hS rfl Try.func83 (by kernel_rfl) rfl rfl rfl (c_spec_tSum t_45 t_48 ht_48 _ m49 hv49 s47 (h47.froz hl49 (hz49 0 _ rfl))) ?_
    rintro a w _ rfl hF hS
    refine e_p (v:=(iV (w64 (e_43 - t_48)))) 11 hF rfl (ex_ibin rfl rfl rfl) rfl rfl (by kernel_rfl) (by kernel_rfl) (by kernel_rfl) fun a hF=>e_one 12 (by kernel_rfl) (e_op rfl rfl fun _ hK=>wp_buildSlice' (l:=([(w64 (e_43 - t_48))] : List Int)) (cells:=[(iV (w64 (e_43 - t_48)))]) hF hS Try.underlying28 inf3 rfl rfl (by kernel_rfl) rfl rfl rfl ⟨rfl,rfl⟩ rfl rfl fun a w q50 s50 hF hS h50 hb=>hK _ _ hb (e_one 13 (by kernel_rfl) ?_))
    have hS : St _ _ _ _ [q42,q50,q47,q8,q33,[⟨b9,[s1.v,s2.v,s3.v,s4.v,s8.v,s33.v,s42.v],150⟩],[⟨b5,[s1.v,s2.v,s3.v,s4.v],50⟩]]:=hS.sel [2,0,1,3,4,5,6] (by decide)
    obtain ⟨l_51,hl_51,hb3⟩:=bindS hb3
    refine e_opl rfl rfl rfl fun _ hK=>wp_append hF hS h42 Try.underlying28 inf3 rfl rfl rfl rfl (h50.vw hS (j:=1) rfl) rfl (by decide) hl_51 rfl fun a w q52 s52 hF hS h52=>hK _ _ (⟨⟨kpN,fun _=>hS.vis.of_le (Mem.le.refl _)⟩,?_⟩)
    refine e_p (v:=(.pointer (some ⟨b9,0,none⟩))) 14 hF rfl (ex_nilCheck rfl) rfl rfl (by kernel_rfl) (by kernel_rfl) (by kernel_rfl) fun a hF=>e_p (v:=(.pointer (some ⟨b9,6,none⟩))) 15 hF rfl (ex_fieldAddr Try.underlying150 rfl sz28 rfl rfl) rfl rfl (by kernel_rfl) (by kernel_rfl) (by kernel_rfl) fun a hF=>e_one 16 (by kernel_rfl) (e_store (vs:=[s52.v]) (cs':=[s1.v,s2.v,s3.v,s4.v,s8.v,s33.v,s52.v]) 5 0 hF hS rfl rfl sz28 rfl rfl rfl rfl rfl rfl rfl rfl fun a w hF hS=>⟨⟨kpN,fun _=>hS.vis.of_le (Mem.le.refl _)⟩,?_⟩)
    refine e_end (by kernel_rfl) (n_ib (n_sq ?_)) _
    refine q_region (q_x (v:=(iV (w64 (t_34 + 1)))) hF hS (ex_ibin rfl rfl rfl) rfl rfl fun a hF=>q_x (v:=(iV (w64 (t_34 + 1)))) hF hS (ex_move rfl) rfl rfl fun a hF=>q_end ?_)
    obtain rfl:=someI hb3
    exact ⟨rfl,q52,s52,_,_,rfl,hF.sub ⟨rfl,rfl,rfl,rfl,rfl,trivial⟩,hS.mask [true,false,false,true,true,true,true],h36,h36k,h37,h37k,h38,h38k,h39,h39k,h40,h40k,h41,h41k,h52⟩
  ·rintro e a w ⟨q60,s60,rfl,hF,hS,h54,h54k,h55,h55k,h56,h56k,h57,h57k,h58,h58k,h59,h59k,h60⟩
   refine x_ib (n_sq ?_)
   refine q_seq ?_
   obtain ⟨t_65,hj5,hr⟩:=bindS hr
   refine q_join (fun a w=>Fr a 79 [(2,(.pointer (some ⟨b9,0,none⟩))),(3,(.bool t_65))]∧St [] w0 w m [q8,q33,q60,[⟨b9,[s1.v,s2.v,s3.v,s4.v,s8.v,s33.v,s60.v],150⟩]]) ?_ ?_
   ·refine q_region (q_x (v:=(.pointer (some ⟨b9,0,none⟩))) hF hS (ex_move rfl) rfl rfl fun a hF=>q_x (v:=(.pointer (some ⟨b9,0,none⟩))) hF hS (ex_move rfl) rfl rfl fun a hF=>q_x (v:=(.pointer (some ⟨b9,0,none⟩))) hF hS (ex_nilCheck rfl) rfl rfl fun a hF=>q_x (v:=(.pointer (some ⟨b9,5,none⟩))) hF hS (ex_fieldAddr Try.underlying150 rfl sz28 rfl rfl) rfl rfl fun a hF=>q_x (v:=s33.v) hF hS (ex_load1 3 0 Try.underlying28 rfl rfl rfl rfl) rfl rfl fun a hF=>?_)
    obtain ⟨m62,hl62,hv62,hz62⟩:=hS.lend
    obtain ⟨t_61,ht_61,hj5⟩:=bindS hj5
    refine q_call (vs:=[s33.v,(iV 0),(iV 100000)]) hF hS Try.func152 (by kernel_rfl) rfl rfl rfl (c_spec_l1All t_53.rows 0 100000 t_61 ht_61 _ m62 hv62 s33 (h59.froz hl62 (hz62 1 _ rfl))) ?_
    rintro a w _ rfl hF hS
    refine q_x (v:=(.bool t_61)) hF hS (ex_move rfl) rfl rfl fun a hF=>?_
    rcases bcase (t_61) with hc6 | hc6
    ·have hj5:=cond_f hc6 hj5
     refine q_skip hF (wanted_f hF rfl rfl rfl hc6 rfl) rfl fun a hF=>q_skip hF (wanted_f hF rfl rfl rfl hc6 rfl) rfl fun a hF=>q_skip hF (wanted_f hF rfl rfl rfl hc6 rfl) rfl fun a hF=>q_skip hF (wanted_f hF rfl rfl rfl hc6 rfl) rfl fun a hF=>q_skip hF (wanted_f hF rfl rfl rfl hc6 rfl) rfl fun a hF=>q_x (v:=(.bool false)) hF hS (ex_pick_f rfl rfl hc6) rfl rfl fun a hF=>q_x (v:=(.pointer (some ⟨b9,0,none⟩))) hF hS (ex_assign rfl) rfl rfl fun a hF=>q_x (v:=(.bool false)) hF hS (ex_assign rfl) rfl rfl fun a hF=>q_end (n_jn ?_)
     obtain rfl:=someI hj5
     exact ⟨hF.sub ⟨rfl,rfl,trivial⟩,hS⟩
    ·have hj5:=cond_t hc6 hj5
     refine q_xg (v:=(.pointer (some ⟨b9,0,none⟩))) hF hS (ex_move rfl) (wanted_t hF rfl rfl rfl hc6) rfl fun a hF=>q_xg (v:=(.pointer (some ⟨b9,0,none⟩))) hF hS (ex_nilCheck rfl) (wanted_t hF rfl rfl rfl hc6) rfl fun a hF=>q_xg (v:=(.pointer (some ⟨b9,6,none⟩))) hF hS (ex_fieldAddr Try.underlying150 rfl sz28 rfl rfl) (wanted_t hF rfl rfl rfl hc6) rfl fun a hF=>q_xg (v:=s60.v) hF hS (ex_load1 3 0 Try.underlying28 rfl rfl rfl rfl) (wanted_t hF rfl rfl rfl hc6) rfl fun a hF=>?_
     obtain ⟨m64,hl64,hv64,hz64⟩:=hS.lend
     obtain ⟨t_63,ht_63,hj5⟩:=bindS hj5
     refine q_callg (vs:=[s60.v,(iV 0),(iV 100000)]) hF hS (wanted_t hF rfl rfl rfl hc6) Try.func152 (by kernel_rfl) rfl rfl rfl (c_spec_l1All t_53.cols 0 100000 t_63 ht_63 _ m64 hv64 s60 (h60.froz hl64 (hz64 2 _ rfl))) ?_
     rintro a w _ rfl hF hS
     refine q_x (v:=(.bool t_63)) hF hS (ex_pick_t rfl rfl hc6) rfl rfl fun a hF=>q_x (v:=(.pointer (some ⟨b9,0,none⟩))) hF hS (ex_assign rfl) rfl rfl fun a hF=>q_x (v:=(.bool t_63)) hF hS (ex_assign rfl) rfl rfl fun a hF=>q_end (n_jn ?_)
     obtain rfl:=someI hj5
     exact ⟨hF.sub ⟨rfl,rfl,trivial⟩,hS⟩
   ·rintro a w ⟨hF,hS⟩
    refine n_sq (q_ret ?_)
    obtain rfl:=someI hr
    exact ret_of hF hS rfl (.tmp rfl (.tmp rfl .nil)) ⟨m,b9,q8,q33,q60,s1,s2,s3,s4,s8,s33,s60,rfl,(MLe.refl _ _),hS.sel [3,0,1,2] (by decide),h54,h55,h56,h57,h58,h59,h60⟩

theorem c_spec_tFill_room (p_f : spec_tFill) (p_v : Int) (p_k : Int) (r : Int) (hr : spec_tFill_room p_f p_v p_k = some r) (w0 : World) (m : Mem) (b_p_f : Nat) (s1 : Sl) (h1 : Rd m s1 p_f.t.Rows) (s2 : Sl) (h2 : Rd m s2 p_f.t.Cols) (s3 : Sl) (h3 : Rd m s3 p_f.t.Lo) (s4 : Sl) (h4 : Rd m s4 p_f.t.Hi) (s5 : Sl) (h5 : Rd m s5 p_f.x) (s6 : Sl) (h6 : Rd m s6 p_f.rows) (s7 : Sl) (h7 : Rd m s7 p_f.cols) (X : List Nat) (hS : St X w0 w0 m [[⟨b_p_f,[s1.v,s2.v,s3.v,s4.v,s5.v,s6.v,s7.v],150⟩]]) :
  RetX Try.prog 207 [(.pointer (some ⟨b_p_f,0,none⟩)),(iV p_v),(iV p_k)] w0 (fun v w=>v = (iV r)∧St X w0 w m [[⟨b_p_f,[s1.v,s2.v,s3.v,s4.v,s5.v,s6.v,s7.v],150⟩]]):=by
 unfold spec_tFill_room at hr
 refine ret_startX Try.func207 rfl 83 rfl rfl fun a hF=>q_seq (q_region (q_x (v:=(iV 0)) hF hS (ex_assign rfl) rfl rfl fun a hF=>q_end (n_sq (q_seq (q_region (q_x (v:=(.pointer (some ⟨b_p_f,0,none⟩))) hF hS (ex_move rfl) rfl rfl fun a hF=>q_x (v:=(.pointer (some ⟨b_p_f,0,none⟩))) hF hS (ex_nilCheck rfl) rfl rfl fun a hF=>q_x (v:=(.pointer (some ⟨b_p_f,5,none⟩))) hF hS (ex_fieldAddr Try.underlying150 rfl sz28 rfl rfl) rfl rfl fun a hF=>q_x (v:=s6.v) hF hS (ex_load1 0 0 Try.underlying28 rfl rfl rfl rfl) rfl rfl fun a hF=>q_x (v:=(iV (goLen p_f.rows))) hF hS (ex_len Try.underlying28 rfl h6.len) rfl rfl fun a hF=>q_x (v:=(iV (goLen p_f.rows))) hF hS (ex_assign rfl) rfl rfl fun a hF=>q_end (n_sq (q_seq (q_block (q_seq ?_))))))))))
 obtain ⟨t_8,hj1,hr⟩:=bindS hr
 refine q_join (fun a w=>Fr a 83 [(0,(.pointer (some ⟨b_p_f,0,none⟩))),(1,(iV p_v)),(2,(iV p_k)),(7,(iV (goLen p_f.rows))),(13,(.bool t_8))]∧St X w0 w m [[⟨b_p_f,[s1.v,s2.v,s3.v,s4.v,s5.v,s6.v,s7.v],150⟩]]) ?_ ?_
 ·refine q_region (q_x (v:=(iV p_v)) hF hS (ex_move rfl) rfl rfl fun a hF=>q_x (v:=(iV (goLen p_f.rows))) hF hS (ex_move rfl) rfl rfl fun a hF=>q_x (v:=(.bool (decide (p_v < (goLen p_f.rows))))) hF hS (ex_ibin rfl rfl rfl) rfl rfl fun a hF=>q_x (v:=(.bool (decide (p_v < (goLen p_f.rows))))) hF hS (ex_move rfl) rfl rfl fun a hF=>?_)
  rcases bcase (decide (p_v < (goLen p_f.rows))) with hc2 | hc2
  ·have hj1:=cond_f hc2 hj1
   refine q_skip hF (wanted_f hF rfl rfl rfl hc2 rfl) rfl fun a hF=>q_skip hF (wanted_f hF rfl rfl rfl hc2 rfl) rfl fun a hF=>q_skip hF (wanted_f hF rfl rfl rfl hc2 rfl) rfl fun a hF=>q_x (v:=(.bool false)) hF hS (ex_pick_f rfl rfl hc2) rfl rfl fun a hF=>q_x (v:=(.bool false)) hF hS (ex_assign rfl) rfl rfl fun a hF=>q_end (n_jn ?_)
   obtain rfl:=someI hj1
   exact ⟨hF.sub ⟨rfl,rfl,rfl,rfl,rfl,trivial⟩,hS⟩
  ·have hj1:=cond_t hc2 hj1
   refine q_xg (v:=(iV p_k)) hF hS (ex_move rfl) (wanted_t hF rfl rfl rfl hc2) rfl fun a hF=>q_xg (v:=(iV (goLen p_f.rows))) hF hS (ex_move rfl) (wanted_t hF rfl rfl rfl hc2) rfl fun a hF=>q_xg (v:=(.bool (decide ((goLen p_f.rows) ≤ p_k)))) hF hS (ex_ibin rfl rfl rfl) (wanted_t hF rfl rfl rfl hc2) rfl fun a hF=>q_x (v:=(.bool (decide ((goLen p_f.rows) ≤ p_k)))) hF hS (ex_pick_t rfl rfl hc2) rfl rfl fun a hF=>q_x (v:=(.bool (decide ((goLen p_f.rows) ≤ p_k)))) hF hS (ex_assign rfl) rfl rfl fun a hF=>q_end (n_jn ?_)
   obtain rfl:=someI hj1
   exact ⟨hF.sub ⟨rfl,rfl,rfl,rfl,rfl,trivial⟩,hS⟩
 ·rintro a w ⟨hF,hS⟩
  refine n_sq ?_
  rcases bcase (t_8) with hc3 | hc3
  ·have hr:=cond_f hc3 hr
   refine q_cond_f hF rfl hc3 (q_seq ?_)
   obtain ⟨t_9,hj4,hr⟩:=bindS hr
   refine q_join (fun a w=>Fr a 83 [(0,(.pointer (some ⟨b_p_f,0,none⟩))),(1,(iV p_v)),(2,(iV p_k)),(7,(iV (goLen p_f.rows))),(48,(.bool t_9))]∧St X w0 w m [[⟨b_p_f,[s1.v,s2.v,s3.v,s4.v,s5.v,s6.v,s7.v],150⟩]]) ?_ ?_
   ·refine q_region (q_x (v:=(iV p_v)) hF hS (ex_move rfl) rfl rfl fun a hF=>q_x (v:=(iV (goLen p_f.rows))) hF hS (ex_move rfl) rfl rfl fun a hF=>q_x (v:=(.bool (decide ((goLen p_f.rows) ≤ p_v)))) hF hS (ex_ibin rfl rfl rfl) rfl rfl fun a hF=>q_x (v:=(.bool (decide ((goLen p_f.rows) ≤ p_v)))) hF hS (ex_move rfl) rfl rfl fun a hF=>?_)
    rcases bcase (decide ((goLen p_f.rows) ≤ p_v)) with hc5 | hc5
    ·have hj4:=cond_f hc5 hj4
     refine q_skip hF (wanted_f hF rfl rfl rfl hc5 rfl) rfl fun a hF=>q_skip hF (wanted_f hF rfl rfl rfl hc5 rfl) rfl fun a hF=>q_skip hF (wanted_f hF rfl rfl rfl hc5 rfl) rfl fun a hF=>q_x (v:=(.bool false)) hF hS (ex_pick_f rfl rfl hc5) rfl rfl fun a hF=>q_x (v:=(.bool false)) hF hS (ex_assign rfl) rfl rfl fun a hF=>q_end (n_jn ?_)
     obtain rfl:=someI hj4
     exact ⟨hF.sub ⟨rfl,rfl,rfl,rfl,rfl,trivial⟩,hS⟩
    ·have hj4:=cond_t hc5 hj4
     refine q_xg (v:=(iV p_k)) hF hS (ex_move rfl) (wanted_t hF rfl rfl rfl hc5) rfl fun a hF=>q_xg (v:=(iV (goLen p_f.rows))) hF hS (ex_move rfl) (wanted_t hF rfl rfl rfl hc5) rfl fun a hF=>q_xg (v:=(.bool (decide (p_k < (goLen p_f.rows))))) hF hS (ex_ibin rfl rfl rfl) (wanted_t hF rfl rfl rfl hc5) rfl fun a hF=>q_x (v:=(.bool (decide (p_k < (goLen p_f.rows))))) hF hS (ex_pick_t rfl rfl hc5) rfl rfl fun a hF=>q_x (v:=(.bool (decide (p_k < (goLen p_f.rows))))) hF hS (ex_assign rfl) rfl rfl fun a hF=>q_end (n_jn ?_)
     obtain rfl:=someI hj4
     exact ⟨hF.sub ⟨rfl,rfl,rfl,rfl,rfl,trivial⟩,hS⟩
   ·rintro a w ⟨hF,hS⟩
    refine n_sq ?_
    rcases bcase (t_9) with hc6 | hc6
    ·have hr:=cond_f hc6 hr
     refine q_cond_f hF rfl hc6 (q_skipc (n_ib (n_sq (q_seq (q_region (q_x (v:=(iV 0)) hF hS (ex_assign rfl) rfl rfl fun a hF=>q_end (n_sq (q_ret ?_))))))))
     obtain rfl:=someI hr
     exact ret_ofX hF hS rfl (.tmp rfl .nil) ⟨rfl,hS.sel [0] (by decide)⟩
    ·have hr:=cond_t hc6 hr
     refine q_cond_t hF rfl hc6 (q_seq (e_region ⟨[],[],m⟩ mixed fun w' hw'=>?_))
     have hS:=hS.below hw'
     refine e_p (v:=(.pointer (some ⟨b_p_f,0,none⟩))) 0 hF rfl (ex_move rfl) rfl rfl (by kernel_rfl) (by kernel_rfl) (by kernel_rfl) fun a hF=>e_p (v:=(.pointer (some ⟨b_p_f,0,none⟩))) 1 hF rfl (ex_nilCheck rfl) rfl rfl (by kernel_rfl) (by kernel_rfl) (by kernel_rfl) fun a hF=>e_p (v:=(.pointer (some ⟨b_p_f,4,none⟩))) 2 hF rfl (ex_fieldAddr Try.underlying150 rfl sz23 rfl rfl) rfl rfl (by kernel_rfl) (by kernel_rfl) (by kernel_rfl) fun a hF=>e_x (v:=s5.v) 3 hF hS rfl (ex_load1 0 0 Try.underlying23 rfl rfl rfl rfl) rfl rfl (by kernel_rfl) (by kernel_rfl) (by kernel_rfl) (by kernel_rfl) fun a hF=>e_p (v:=(iV p_k)) 4 hF rfl (ex_move rfl) rfl rfl (by kernel_rfl) (by kernel_rfl) (by kernel_rfl) fun a hF=>?_
     obtain ⟨e_10,he_10,hr⟩:=bindS hr
     obtain ⟨vs11,at11,d11⟩:=h5.at he_10 1 rfl
     obtain ⟨s12,rfl,h12⟩ : ∃ s12 : Sl,vs11 = [s12.v]∧Rd m s12 e_10:=d11
     refine e_p (v:=(elP s5 (p_k.toNat * 1))) 5 hF rfl (ex_indexAddr Try.underlying23 sz28 rfl rfl (h5.idx he_10)) rfl rfl (by kernel_rfl) (by kernel_rfl) (by kernel_rfl) fun a hF=>e_xm (v:=s12.v) 6 hF hS (Mem.le.refl _) rfl (ex_loadE1 0 Try.underlying28 rfl rfl ((at11).at) rfl rfl) rfl rfl (by kernel_rfl) (by kernel_rfl) (by kernel_rfl) fun a hF=>e_p (v:=(iV p_v)) 7 hF rfl (ex_move rfl) rfl rfl (by kernel_rfl) (by kernel_rfl) (by kernel_rfl) fun a hF=>e_p (v:=(iV (goLen p_f.rows))) 8 hF rfl (ex_move rfl) rfl rfl (by kernel_rfl) (by kernel_rfl) (by kernel_rfl) fun a hF=>e_p (v:=(iV (w64 (p_v - (goLen p_f.rows))))) 9 hF rfl (ex_ibin rfl rfl rfl) rfl rfl (by kernel_rfl) (by kernel_rfl) (by kernel_rfl) fun a hF=>?_
     obtain ⟨e_13,he_13,hr⟩:=bindS hr
     obtain ⟨vs14,at14,d14⟩:=h12.at he_13 1 rfl
     obtain rfl : vs14 = [(iV e_13)]:=d14
     refine e_p (v:=(elP s12 ((w64 (p_v - (goLen p_f.rows))).toNat * 1))) 10 hF rfl (ex_indexAddr Try.underlying28 sz3 rfl rfl (h12.idx he_13)) rfl rfl (by kernel_rfl) (by kernel_rfl) (by kernel_rfl) fun a hF=>e_xm (v:=(iV e_13)) 11 hF hS (Mem.le.refl _) rfl (ex_loadE1 0 Try.underlying3 rfl rfl ((at14).at) rfl rfl) rfl rfl (by kernel_rfl) (by kernel_rfl) (by kernel_rfl) fun a hF=>e_p (v:=(.pointer (some ⟨b_p_f,0,none⟩))) 12 hF rfl (ex_move rfl) rfl rfl (by kernel_rfl) (by kernel_rfl) (by kernel_rfl) fun a hF=>e_p (v:=(.pointer (some ⟨b_p_f,0,none⟩))) 13 hF rfl (ex_nilCheck rfl) rfl rfl (by kernel_rfl) (by kernel_rfl) (by kernel_rfl) fun a hF=>e_p (v:=(.pointer (some ⟨b_p_f,0,none⟩))) 14 hF rfl (ex_fieldAddr Try.underlying150 rfl sz50 rfl rfl) rfl rfl (by kernel_rfl) (by kernel_rfl) (by kernel_rfl) fun a hF=>e_p (v:=(.pointer (some ⟨b_p_f,2,none⟩))) 15 hF rfl (ex_fieldAddr Try.underlying50 rfl sz23 rfl rfl) rfl rfl (by kernel_rfl) (by kernel_rfl) (by kernel_rfl) fun a hF=>e_x (v:=s3.v) 16 hF hS rfl (ex_load1 0 0 Try.underlying23 rfl rfl rfl rfl) rfl rfl (by kernel_rfl) (by kernel_rfl) (by kernel_rfl) (by kernel_rfl) fun a hF=>e_p (v:=(iV p_k)) 17 hF rfl (ex_move rfl) rfl rfl (by kernel_rfl) (by kernel_rfl) (by kernel_rfl) fun a hF=>?_
     obtain ⟨e_15,he_15,hr⟩:=bindS hr
     obtain ⟨vs16,at16,d16⟩:=h3.at he_15 1 rfl
     obtain ⟨s17,rfl,h17⟩ : ∃ s17 : Sl,vs16 = [s17.v]∧Rd m s17 e_15:=d16
     refine e_p (v:=(elP s3 (p_k.toNat * 1))) 18 hF rfl (ex_indexAddr Try.underlying23 sz28 rfl rfl (h3.idx he_15)) rfl rfl (by kernel_rfl) (by kernel_rfl) (by kernel_rfl) fun a hF=>e_xm (v:=s17.v) 19 hF hS (Mem.le.refl _) rfl (ex_loadE1 0 Try.underlying28 rfl rfl ((at16).at) rfl rfl) rfl rfl (by kernel_rfl) (by kernel_rfl) (by kernel_rfl) fun a hF=>e_p (v:=(iV p_v)) 20 hF rfl (ex_move rfl) rfl rfl (by kernel_rfl) (by kernel_rfl) (by kernel_rfl) fun a hF=>e_p (v:=(iV (goLen p_f.rows))) 21 hF rfl (ex_move rfl) rfl rfl (by kernel_rfl) (by kernel_rfl) (by kernel_rfl) fun a hF=>e_p (v:=(iV (w64 (p_v - (goLen p_f.rows))))) 22 hF rfl (ex_ibin rfl rfl rfl) rfl rfl (by kernel_rfl) (by kernel_rfl) (by kernel_rfl) fun a hF=>?_
     obtain ⟨e_18,he_18,hr⟩:=bindS hr
     obtain ⟨vs19,at19,d19⟩:=h17.at he_18 1 rfl
     obtain rfl : vs19 = [(iV e_18)]:=d19
     refine e_p (v:=(elP s17 ((w64 (p_v - (goLen p_f.rows))).toNat * 1))) 23 hF rfl (ex_indexAddr Try.underlying28 sz3 rfl rfl (h17.idx he_18)) rfl rfl (by kernel_rfl) (by kernel_rfl) (by kernel_rfl) fun a hF=>e_xm (v:=(iV e_18)) 24 hF hS (Mem.le.refl _) rfl (ex_loadE1 0 Try.underlying3 rfl rfl ((at19).at) rfl rfl) rfl rfl (by kernel_rfl) (by kernel_rfl) (by kernel_rfl) fun a hF=>e_p (v:=(iV (w64 (e_13 - e_18)))) 25 hF rfl (ex_ibin rfl rfl rfl) rfl rfl (by kernel_rfl) (by kernel_rfl) (by kernel_rfl) fun a hF=>e_p (v:=(iV (w64 (e_13 - e_18)))) 26 hF rfl (ex_assign rfl) rfl rfl (by kernel_rfl) (by kernel_rfl) (by kernel_rfl) fun a hF=>e_end (by kernel_rfl) (n_sq (q_ret (r_ib (r_sq ?_)))) _
     obtain rfl:=someI hr
     exact ret_ofX hF hS rfl (.tmp rfl .nil) ⟨rfl,hS.sel [0] (by decide)⟩
  ·have hr:=cond_t hc3 hr
   refine q_cond_t hF rfl hc3 (q_seq (e_region ⟨[],[],m⟩ mixed fun w' hw'=>?_))
   have hS:=hS.below hw'
   refine e_p (v:=(.pointer (some ⟨b_p_f,0,none⟩))) 0 hF rfl (ex_move rfl) rfl rfl (by kernel_rfl) (by kernel_rfl) (by kernel_rfl) fun a hF=>e_p (v:=(.pointer (some ⟨b_p_f,0,none⟩))) 1 hF rfl (ex_nilCheck rfl) rfl rfl (by kernel_rfl) (by kernel_rfl) (by kernel_rfl) fun a hF=>e_p (v:=(.pointer (some ⟨b_p_f,0,none⟩))) 2 hF rfl (ex_fieldAddr Try.underlying150 rfl sz50 rfl rfl) rfl rfl (by kernel_rfl) (by kernel_rfl) (by kernel_rfl) fun a hF=>e_p (v:=(.pointer (some ⟨b_p_f,3,none⟩))) 3 hF rfl (ex_fieldAddr Try.underlying50 rfl sz23 rfl rfl) rfl rfl (by kernel_rfl) (by kernel_rfl) (by kernel_rfl) fun a hF=>e_x (v:=s4.v) 4 hF hS rfl (ex_load1 0 0 Try.underlying23 rfl rfl rfl rfl) rfl rfl (by kernel_rfl) (by kernel_rfl) (by kernel_rfl) (by kernel_rfl) fun a hF=>e_p (v:=(iV p_v)) 5 hF rfl (ex_move rfl) rfl rfl (by kernel_rfl) (by kernel_rfl) (by kernel_rfl) fun a hF=>?_
   obtain ⟨e_9,he_9,hr⟩:=bindS hr
   obtain ⟨vs10,at10,d10⟩:=h4.at he_9 1 rfl
   obtain ⟨s11,rfl,h11⟩ : ∃ s11 : Sl,vs10 = [s11.v]∧Rd m s11 e_9:=d10
   refine e_p (v:=(elP s4 (p_v.toNat * 1))) 6 hF rfl (ex_indexAddr Try.underlying23 sz28 rfl rfl (h4.idx he_9)) rfl rfl (by kernel_rfl) (by kernel_rfl) (by kernel_rfl) fun a hF=>e_xm (v:=s11.v) 7 hF hS (Mem.le.refl _) rfl (ex_loadE1 0 Try.underlying28 rfl rfl ((at10).at) rfl rfl) rfl rfl (by kernel_rfl) (by kernel_rfl) (by kernel_rfl) fun a hF=>e_p (v:=(iV p_k)) 8 hF rfl (ex_move rfl) rfl rfl (by kernel_rfl) (by kernel_rfl) (by kernel_rfl) fun a hF=>e_p (v:=(iV (goLen p_f.rows))) 9 hF rfl (ex_move rfl) rfl rfl (by kernel_rfl) (by kernel_rfl) (by kernel_rfl) fun a hF=>e_p (v:=(iV (w64 (p_k - (goLen p_f.rows))))) 10 hF rfl (ex_ibin rfl rfl rfl) rfl rfl (by kernel_rfl) (by kernel_rfl) (by kernel_rfl) fun a hF=>?_
   obtain ⟨e_12,he_12,hr⟩:=bindS hr
   obtain ⟨vs13,at13,d13⟩:=h11.at he_12 1 rfl
   obtain rfl : vs13 = [(iV e_12)]:=d13
   refine e_p (v:=(elP s11 ((w64 (p_k - (goLen p_f.rows))).toNat * 1))) 11 hF rfl (ex_indexAddr Try.underlying28 sz3 rfl rfl (h11.idx he_12)) rfl rfl (by kernel_rfl) (by kernel_rfl) (by kernel_rfl) fun a hF=>e_xm (v:=(iV e_12)) 12 hF hS (Mem.le.refl _) rfl (ex_loadE1 0 Try.underlying3 rfl rfl ((at13).at) rfl rfl) rfl rfl (by kernel_rfl) (by kernel_rfl) (by kernel_rfl) fun a hF=>e_p (v:=(.pointer (some ⟨b_p_f,0,none⟩))) 13 hF rfl (ex_move rfl) rfl rfl (by kernel_rfl) (by kernel_rfl) (by kernel_rfl) fun a hF=>e_p (v:=(.pointer (some ⟨b_p_f,0,none⟩))) 14 hF rfl (ex_nilCheck rfl) rfl rfl (by kernel_rfl) (by kernel_rfl) (by kernel_rfl) fun a hF=>e_p (v:=(.pointer (some ⟨b_p_f,4,none⟩))) 15 hF rfl (ex_fieldAddr Try.underlying150 rfl sz23 rfl rfl) rfl rfl (by kernel_rfl) (by kernel_rfl) (by kernel_rfl) fun a hF=>e_x (v:=s5.v) 16 hF hS rfl (ex_load1 0 0 Try.underlying23 rfl rfl rfl rfl) rfl rfl (by kernel_rfl) (by kernel_rfl) (by kernel_rfl) (by kernel_rfl) fun a hF=>e_p (v:=(iV p_v)) 17 hF rfl (ex_move rfl) rfl rfl (by kernel_rfl) (by kernel_rfl) (by kernel_rfl) fun a hF=>?_
   obtain ⟨e_14,he_14,hr⟩:=bindS hr
   obtain ⟨vs15,at15,d15⟩:=h5.at he_14 1 rfl
   obtain ⟨s16,rfl,h16⟩ : ∃ s16 : Sl,vs15 = [s16.v]∧Rd m s16 e_14:=d15
   refine e_p (v:=(elP s5 (p_v.toNat * 1))) 18 hF rfl (ex_indexAddr Try.underlying23 sz28 rfl rfl (h5.idx he_14)) rfl rfl (by kernel_rfl) (by kernel_rfl) (by kernel_rfl) fun a hF=>e_xm (v:=s16.v) 19 hF hS (Mem.le.refl _) rfl (ex_loadE1 0 Try.underlying28 rfl rfl ((at15).at) rfl rfl) rfl rfl (by kernel_rfl) (by kernel_rfl) (by kernel_rfl) fun a hF=>e_p (v:=(iV p_k)) 20 hF rfl (ex_move rfl) rfl rfl (by kernel_rfl) (by kernel_rfl) (by kernel_rfl) fun a hF=>e_p (v:=(iV (goLen p_f.rows))) 21 hF rfl (ex_move rfl) rfl rfl (by kernel_rfl) (by kernel_rfl) (by kernel_rfl) fun a hF=>e_p (v:=(iV (w64 (p_k - (goLen p_f.rows))))) 22 hF rfl (ex_ibin rfl rfl rfl) rfl rfl (by kernel_rfl) (by kernel_rfl) (by kernel_rfl) fun a hF=>?_
   obtain ⟨e_17,he_17,hr⟩:=bindS hr
   obtain ⟨vs18,at18,d18⟩:=h16.at he_17 1 rfl
   obtain rfl : vs18 = [(iV e_17)]:=d18
   refine e_p (v:=(elP s16 ((w64 (p_k - (goLen p_f.rows))).toNat * 1))) 23 hF rfl (ex_indexAddr Try.underlying28 sz3 rfl rfl (h16.idx he_17)) rfl rfl (by kernel_rfl) (by kernel_rfl) (by kernel_rfl) fun a hF=>e_xm (v:=(iV e_17)) 24 hF hS (Mem.le.refl _) rfl (ex_loadE1 0 Try.underlying3 rfl rfl ((at18).at) rfl rfl) rfl rfl (by kernel_rfl) (by kernel_rfl) (by kernel_rfl) fun a hF=>e_p (v:=(iV (w64 (e_12 - e_17)))) 25 hF rfl (ex_ibin rfl rfl rfl) rfl rfl (by kernel_rfl) (by kernel_rfl) (by kernel_rfl) fun a hF=>e_p (v:=(iV (w64 (e_12 - e_17)))) 26 hF rfl (ex_assign rfl) rfl rfl (by kernel_rfl) (by kernel_rfl) (by kernel_rfl) fun a hF=>e_end (by kernel_rfl) (n_sq (q_ret (r_ib (r_sq ?_)))) _
   obtain rfl:=someI hr
   exact ret_ofX hF hS rfl (.tmp rfl .nil) ⟨rfl,hS.sel [0] (by decide)⟩

theorem c_spec_l1Least (p_a : Int) (p_b : Int) (r : Int) (hr : spec_l1Least p_a p_b = some r) (w0 : World) (m : Mem) (hv : Vis m w0) :
  Ret Try.prog 209 [(iV p_a),(iV p_b)] w0 (fun v _=>v = (iV r)):=by
 unfold spec_l1Least at hr
 refine ret_start Try.func209 rfl 10 rfl rfl m hv fun a hF hS=>q_seq (q_region (q_x (v:=(iV 0)) hF hS (ex_assign rfl) rfl rfl fun a hF=>q_end (n_sq (q_seq (q_seq (q_region (q_x (v:=(iV p_a)) hF hS (ex_move rfl) rfl rfl fun a hF=>q_x (v:=(iV p_b)) hF hS (ex_move rfl) rfl rfl fun a hF=>q_x (v:=(.bool (decide (p_a < p_b)))) hF hS (ex_ibin rfl rfl rfl) rfl rfl fun a hF=>q_end (n_sq ?_))))))))
 rcases bcase (decide (p_a < p_b)) with hc1 | hc1
 ·have hr:=cond_f hc1 hr
  refine q_cond_f hF rfl hc1 (q_skipc (n_sq (q_seq (q_region (q_x (v:=(iV p_b)) hF hS (ex_move rfl) rfl rfl fun a hF=>q_x (v:=(iV p_b)) hF hS (ex_assign rfl) rfl rfl fun a hF=>q_end (n_sq (q_ret ?_)))))))
  obtain rfl:=someI hr
  exact ret_of hF hS rfl (.tmp rfl .nil) rfl
 ·have hr:=cond_t hc1 hr
  refine q_cond_t hF rfl hc1 (q_seq (q_region (q_x (v:=(iV p_a)) hF hS (ex_move rfl) rfl rfl fun a hF=>q_x (v:=(iV p_a)) hF hS (ex_assign rfl) rfl rfl fun a hF=>q_end (n_sq (q_ret (r_sq ?_))))))
  obtain rfl:=someI hr
  exact ret_of hF hS rfl (.tmp rfl .nil) rfl

theorem c_spec_tFill_push (p_f : spec_tFill) (p_from : List Int) (p_end : Int) (r : spec_tFill) (hr : spec_tFill_push p_f p_from p_end = some r) (w0 : World) (m : Mem) (b_p_f : Nat) (s1 : Sl) (h1 : Rd m s1 p_f.t.Rows) (s2 : Sl) (h2 : Rd m s2 p_f.t.Cols) (s3 : Sl) (h3 : Rd m s3 p_f.t.Lo) (s4 : Sl) (h4 : Rd m s4 p_f.t.Hi) (s5 : Sl) (q5 : Piece) (h5 : OwnD m 28 3 q5 s5 p_f.x) (s6 : Sl) (q6 : Piece) (h6 : OwnL m 3 q6 s6 p_f.rows) (s7 : Sl) (q7 : Piece) (h7 : OwnL m 3 q7 s7 p_f.cols) (s8 : Sl) (h8 : Rd m s8 p_from) (X : List Nat) (hS : St X w0 w0 m [[⟨b_p_f,[s1.v,s2.v,s3.v,s4.v,s5.v,s6.v,s7.v],150⟩],q5,q6,q7]) :
  RetX Try.prog 206 [(.pointer (some ⟨b_p_f,0,none⟩)),s8.v,(iV p_end)] w0 (fun v w=>∃ (q4' : Piece) (q5' : Piece) (q6' : Piece) (s4' : Sl) (s5' : Sl) (s6' : Sl),v = (.tuple #[])∧St X w0 w m [[⟨b_p_f,[s1.v,s2.v,s3.v,s4.v,s4'.v,s5'.v,s6'.v],150⟩],q4',q5',q6']∧r.t.Rows = p_f.t.Rows∧r.t.Cols = p_f.t.Cols∧r.t.Lo = p_f.t.Lo∧r.t.Hi = p_f.t.Hi∧OwnD m 28 3 q4' s4' r.x∧OwnL m 3 q5' s5' r.rows∧OwnL m 3 q6' s6' r.cols):=by
 unfold spec_tFill_push at hr
 refine ret_startX Try.func206 rfl 123 rfl rfl fun a hF=>q_seq (q_region (q_x (v:=(.pointer (some ⟨b_p_f,0,none⟩))) hF hS (ex_move rfl) rfl rfl fun a hF=>q_x (v:=(.pointer (some ⟨b_p_f,0,none⟩))) hF hS (ex_nilCheck rfl) rfl rfl fun a hF=>q_x (v:=(.pointer (some ⟨b_p_f,5,none⟩))) hF hS (ex_fieldAddr Try.underlying150 rfl sz28 rfl rfl) rfl rfl fun a hF=>q_x (v:=s6.v) hF hS (ex_load1 0 0 Try.underlying28 rfl rfl rfl rfl) rfl rfl fun a hF=>q_x (v:=(iV (goLen p_f.rows))) hF hS (ex_len Try.underlying28 rfl h6.len) rfl rfl fun a hF=>q_x (v:=(iV (goLen p_f.rows))) hF hS (ex_assign rfl) rfl rfl fun a hF=>q_end (n_sq (q_seq (q_region (q_x (v:=(.pointer (some ⟨b_p_f,0,none⟩))) hF hS (ex_move rfl) rfl rfl fun a hF=>q_x (v:=(.pointer (some ⟨b_p_f,0,none⟩))) hF hS (ex_nilCheck rfl) rfl rfl fun a hF=>q_x (v:=(.pointer (some ⟨b_p_f,6,none⟩))) hF hS (ex_fieldAddr Try.underlying150 rfl sz28 rfl rfl) rfl rfl fun a hF=>q_x (v:=s7.v) hF hS (ex_load1 0 0 Try.underlying28 rfl rfl rfl rfl) rfl rfl fun a hF=>q_x (v:=(iV p_end)) hF hS (ex_move rfl) rfl rfl fun a hF=>q_x (v:=(iV (goLen p_f.rows))) hF hS (ex_move rfl) rfl rfl fun a hF=>q_x (v:=(iV (w64 (p_end - (goLen p_f.rows))))) hF hS (ex_ibin rfl rfl rfl) rfl rfl fun a hF=>?_))))))
 obtain ⟨e_9,he_9,hr⟩:=bindS hr
 obtain ⟨vs10,at10,d10⟩:=h7.at he_9 1 rfl
 obtain rfl : vs10 = [(iV e_9)]:=d10
 refine q_x (v:=(elP s7 ((w64 (p_end - (goLen p_f.rows))).toNat * 1))) hF hS (ex_indexAddr Try.underlying28 sz3 rfl rfl (h7.idx he_9)) rfl rfl fun a hF=>q_x (v:=(iV e_9)) hF hS (ex_loadE1 0 Try.underlying3 rfl rfl (at10.at 3 rfl) rfl rfl) rfl rfl fun a hF=>q_x (v:=(iV e_9)) hF hS (ex_assign rfl) rfl rfl fun a hF=>q_end (n_sq (q_seq (q_region (q_x (v:=(iV p_end)) hF hS (ex_move rfl) rfl rfl fun a hF=>q_x (v:=(iV p_end)) hF hS (ex_assign rfl) rfl rfl fun a hF=>q_end (n_sq (q_seq (q_block ?_)))))))
 obtain ⟨o1,hl1,hr⟩:=bindS hr
 refine q_loop (fun (s : Int × Int) a w=>∃ most_11,∃ start_12,s = (most_11,start_12)∧Fr a 123 [(0,(.pointer (some ⟨b_p_f,0,none⟩))),(1,s8.v),(2,(iV p_end)),(6,(iV (goLen p_f.rows))),(7,(iV most_11)),(8,(iV start_12))]∧St X w0 w m [[⟨b_p_f,[s1.v,s2.v,s3.v,s4.v,s5.v,s6.v,s7.v],150⟩],q5,q6,q7]) (fun (o : Int × Int) e a w=>∃ most_22,∃ start_23,o = (most_22,start_23)∧e = .exit 0∧Fr a 123 [(0,(.pointer (some ⟨b_p_f,0,none⟩))),(1,s8.v),(2,(iV p_end)),(6,(iV (goLen p_f.rows))),(7,(iV most_22)),(8,(iV start_23))]∧St X w0 w m [q5,q6,q7,[⟨b_p_f,[s1.v,s2.v,s3.v,s4.v,s5.v,s6.v,s7.v],150⟩]]) hl1 ⟨_,_,rfl,hF.sub ⟨rfl,rfl,rfl,rfl,rfl,rfl,trivial⟩,hS⟩ ?_ ?_
 ·clear hF hS
  rintro s a w st ⟨most_11,start_12,rfl,hF,hS⟩ hb1
  unfold spec_tFill_push_l1 at hb1
  refine q_seq (q_seq (q_region (q_x (v:=s8.v) hF hS (ex_move rfl) rfl rfl fun a hF=>q_x (v:=(iV start_12)) hF hS (ex_move rfl) rfl rfl fun a hF=>?_)))
  obtain ⟨e_13,he_13,hb1⟩:=bindS hb1
  obtain ⟨vs14,at14,d14⟩:=h8.at he_13 1 rfl
  obtain rfl : vs14 = [(iV e_13)]:=d14
  refine q_x (v:=(elP s8 (start_12.toNat * 1))) hF hS (ex_indexAddr Try.underlying28 sz3 rfl rfl (h8.idx he_13)) rfl rfl fun a hF=>q_x (v:=(iV e_13)) hF hS (ex_loadE1 0 Try.underlying3 rfl rfl ((at14).at) rfl rfl) rfl rfl fun a hF=>q_x (v:=(.bool (decide (0 ≤ e_13)))) hF hS (ex_ibin rfl rfl rfl) rfl rfl fun a hF=>q_end (n_sq ?_)
  rcases bcase (decide (0 ≤ e_13)) with hc2 | hc2
  ·have hb1:=cond_f hc2 hb1
   refine q_cond_f hF rfl hc2 (q_exit (x_sq ?_))
   obtain rfl:=someI hb1
   exact ⟨nofun,.inl ⟨_,_,rfl,rfl,hF.sub ⟨rfl,rfl,rfl,rfl,rfl,rfl,trivial⟩,hS.sel [1,2,3,0] (by decide)⟩⟩
  ·have hb1:=cond_t hc2 hb1
   refine q_cond_t hF rfl hc2 (q_skipc (n_sq (q_block (q_seq (q_region (q_x (v:=(iV most_11)) hF hS (ex_move rfl) rfl rfl fun a hF=>q_x (v:=(.pointer (some ⟨b_p_f,0,none⟩))) hF hS (ex_move rfl) rfl rfl fun a hF=>q_x (v:=s8.v) hF hS (ex_move rfl) rfl rfl fun a hF=>q_x (v:=(iV start_12)) hF hS (ex_move rfl) rfl rfl fun a hF=>?_))))))
   obtain ⟨e_15,he_15,hb1⟩:=bindS hb1
   obtain ⟨vs16,at16,d16⟩:=h8.at he_15 1 rfl
   obtain rfl : vs16 = [(iV e_15)]:=d16
   refine q_x (v:=(elP s8 (start_12.toNat * 1))) hF hS (ex_indexAddr Try.underlying28 sz3 rfl rfl (h8.idx he_15)) rfl rfl fun a hF=>q_x (v:=(iV e_15)) hF hS (ex_loadE1 0 Try.underlying3 rfl rfl ((at16).at) rfl rfl) rfl rfl fun a hF=>q_x (v:=(iV start_12)) hF hS (ex_move rfl) rfl rfl fun a hF=>?_
   have hS17 : St _ _ _ _ ([[⟨b_p_f,[s1.v,s2.v,s3.v,s4.v,s5.v,s6.v,s7.v],150⟩]]++[q5,q6,q7]):=hS
   obtain ⟨m17,hl17,hE17,hz17⟩:=hS17.lendX
   obtain ⟨t_18,ht_18,hb1⟩:=bindS hb1
   refine q_do rfl fun _ hK=>wp_callX (vs:=[(.pointer (some ⟨b_p_f,0,none⟩)),(iV e_15),(iV start_12)]) hF Try.func207 (by kernel_rfl) rfl rfl rfl (c_spec_tFill_room p_f e_15 start_12 t_18 ht_18 _ m17 b_p_f s1 (h1.mono hl17) s2 (h2.mono hl17) s3 (h3.mono hl17) s4 (h4.mono hl17) s5 (h5.froz hl17 (hz17 0 _ rfl)) s6 (h6.froz hl17 (hz17 1 _ rfl)) s7 (h7.froz hl17 (hz17 2 _ rfl)) _ hE17) fun a w _ hR hF=>hK _ _ ?_
   obtain ⟨rfl,hR17⟩:=hR
   have hS : St _ _ _ _ [[⟨b_p_f,[s1.v,s2.v,s3.v,s4.v,s5.v,s6.v,s7.v],150⟩],q5,q6,q7]:=hS17.leaveF hR17
   obtain ⟨t_19,ht_19,hb1⟩:=bindS hb1
   refine q_call (vs:=[(iV most_11),(iV t_18)]) hF hS Try.func209 (by kernel_rfl) rfl rfl rfl (c_spec_l1Least most_11 t_18 t_19 ht_19 _ m hS.vis) ?_
   rintro a w _ rfl hF hS
   refine q_x (v:=(iV t_19)) hF hS (ex_assign rfl) rfl rfl fun a hF=>q_end (n_sq (q_region (q_x (v:=s8.v) hF hS (ex_move rfl) rfl rfl fun a hF=>q_x (v:=(iV start_12)) hF hS (ex_move rfl) rfl rfl fun a hF=>?_)))
   obtain ⟨e_20,he_20,hb1⟩:=bindS hb1
   obtain ⟨vs21,at21,d21⟩:=h8.at he_20 1 rfl
   obtain rfl : vs21 = [(iV e_20)]:=d21
   refine q_x (v:=(elP s8 (start_12.toNat * 1))) hF hS (ex_indexAddr Try.underlying28 sz3 rfl rfl (h8.idx he_20)) rfl rfl fun a hF=>q_x (v:=(iV e_20)) hF hS (ex_loadE1 0 Try.underlying3 rfl rfl ((at21).at) rfl rfl) rfl rfl fun a hF=>q_x (v:=(iV e_20)) hF hS (ex_assign rfl) rfl rfl fun a hF=>q_end (n_ib ?_)
   obtain rfl:=someI hb1
   exact ⟨rfl,_,_,rfl,hF.sub ⟨rfl,rfl,rfl,rfl,rfl,rfl,trivial⟩,hS⟩
 ·rintro e a w ⟨most_22,start_23,rfl,rfl,hF,hS⟩
  refine x_ib (n_sq ?_)
  refine q_seq (q_region (q_x (v:=(iV most_22)) hF hS (ex_move rfl) rfl rfl fun a hF=>q_x (v:=(.pointer (some ⟨b_p_f,0,none⟩))) hF hS (ex_move rfl) rfl rfl fun a hF=>q_x (v:=(.pointer (some ⟨b_p_f,0,none⟩))) hF hS (ex_nilCheck rfl) rfl rfl fun a hF=>q_x (v:=(.pointer (some ⟨b_p_f,5,none⟩))) hF hS (ex_fieldAddr Try.underlying150 rfl sz28 rfl rfl) rfl rfl fun a hF=>q_x (v:=s6.v) hF hS (ex_load1 3 0 Try.underlying28 rfl rfl rfl rfl) rfl rfl fun a hF=>q_x (v:=(iV start_23)) hF hS (ex_move rfl) rfl rfl fun a hF=>?_))
  obtain ⟨e_24,he_24,hr⟩:=bindS hr
  obtain ⟨vs25,at25,d25⟩:=h6.at he_24 1 rfl
  obtain rfl : vs25 = [(iV e_24)]:=d25
  refine q_x (v:=(elP s6 (start_23.toNat * 1))) hF hS (ex_indexAddr Try.underlying28 sz3 rfl rfl (h6.idx he_24)) rfl rfl fun a hF=>q_x (v:=(iV e_24)) hF hS (ex_loadE1 0 Try.underlying3 rfl rfl (at25.at 1 rfl) rfl rfl) rfl rfl fun a hF=>?_
  obtain ⟨t_26,ht_26,hr⟩:=bindS hr
  refine q_call (vs:=[(iV most_22),(iV e_24)]) hF hS Try.func209 (by kernel_rfl) rfl rfl rfl (c_spec_l1Least most_22 e_24 t_26 ht_26 _ m hS.vis) ?_
  rintro a w _ rfl hF hS
  refine q_x (v:=(iV t_26)) hF hS (ex_assign rfl) rfl rfl fun a hF=>q_end (n_sq (q_seq (q_seq (q_region (q_x (v:=(iV p_end)) hF hS (ex_move rfl) rfl rfl fun a hF=>q_x (v:=(iV p_end)) hF hS (ex_assign rfl) rfl rfl fun a hF=>q_end (n_sq (q_block ?_)))))))
  obtain ⟨p_f_57,hl3,hr⟩:=bindS hr
  refine q_loop (fun (s : Int × spec_tFill) a w=>∃ (q33 : Piece),∃ v_27,∃ p_f_28,s = (v_27,p_f_28)∧Fr a 123 [(0,(.pointer (some ⟨b_p_f,0,none⟩))),(1,s8.v),(2,(iV p_end)),(6,(iV (goLen p_f.rows))),(7,(iV t_26)),(8,(iV start_23)),(9,(iV v_27))]∧St X w0 w m [q33,q6,q7,[⟨b_p_f,[s1.v,s2.v,s3.v,s4.v,s5.v,s6.v,s7.v],150⟩]]∧Rd m s1 p_f_28.t.Rows∧p_f_28.t.Rows = p_f.t.Rows∧Rd m s2 p_f_28.t.Cols∧p_f_28.t.Cols = p_f.t.Cols∧Rd m s3 p_f_28.t.Lo∧p_f_28.t.Lo = p_f.t.Lo∧Rd m s4 p_f_28.t.Hi∧p_f_28.t.Hi = p_f.t.Hi∧OwnD m 28 3 q33 s5 p_f_28.x∧OwnL m 3 q6 s6 p_f_28.rows∧p_f_28.rows = p_f.rows∧OwnL m 3 q7 s7 p_f_28.cols∧p_f_28.cols = p_f.cols) (fun (p_f_57 : spec_tFill) e a w=>∃ (q62 : Piece),e = .exit 2∧Fr a 123 [(0,(.pointer (some ⟨b_p_f,0,none⟩))),(2,(iV p_end)),(6,(iV (goLen p_f.rows))),(7,(iV t_26)),(8,(iV start_23))]∧St X w0 w m [q62,q6,q7,[⟨b_p_f,[s1.v,s2.v,s3.v,s4.v,s5.v,s6.v,s7.v],150⟩]]∧Rd m s1 p_f_57.t.Rows∧p_f_57.t.Rows = p_f.t.Rows∧Rd m s2 p_f_57.t.Cols∧p_f_57.t.Cols = p_f.t.Cols∧Rd m s3 p_f_57.t.Lo∧p_f_57.t.Lo = p_f.t.Lo∧Rd m s4 p_f_57.t.Hi∧p_f_57.t.Hi = p_f.t.Hi∧OwnD m 28 3 q62 s5 p_f_57.x∧OwnL m 3 q6 s6 p_f_57.rows∧p_f_57.rows = p_f.rows∧OwnL m 3 q7 s7 p_f_57.cols∧p_f_57.cols = p_f.cols) hl3 ⟨q5,_,_,rfl,hF.sub ⟨rfl,rfl,rfl,rfl,rfl,rfl,rfl,trivial⟩,hS,h1,rfl,h2,rfl,h3,rfl,h4,rfl,h5,h6,rfl,h7,rfl⟩ ?_ ?_
  ·clear hF hS
   rintro s a w st ⟨q33,v_27,p_f_28,rfl,hF,hS,h29,h29k,h30,h30k,h31,h31k,h32,h32k,h33,h34,h34k,h35,h35k⟩ hb3
   unfold spec_tFill_push_l2 at hb3
   refine q_seq (q_seq (q_region (q_x (v:=s8.v) hF hS (ex_move rfl) rfl rfl fun a hF=>q_x (v:=(iV v_27)) hF hS (ex_move rfl) rfl rfl fun a hF=>?_)))
   obtain ⟨e_36,he_36,hb3⟩:=bindS hb3
   obtain ⟨vs37,at37,d37⟩:=h8.at he_36 1 rfl
   obtain rfl : vs37 = [(iV e_36)]:=d37
   refine q_x (v:=(elP s8 (v_27.toNat * 1))) hF hS (ex_indexAddr Try.underlying28 sz3 rfl rfl (h8.idx he_36)) rfl rfl fun a hF=>q_x (v:=(iV e_36)) hF hS (ex_loadE1 0 Try.underlying3 rfl rfl ((at37).at) rfl rfl) rfl rfl fun a hF=>q_x (v:=(.bool (decide (0 ≤ e_36)))) hF hS (ex_ibin rfl rfl rfl) rfl rfl fun a hF=>q_end (n_sq ?_)
   rcases bcase (decide (0 ≤ e_36)) with hc4 | hc4
   ·have hb3:=cond_f hc4 hb3
    refine q_cond_f hF rfl hc4 (q_exit (x_sq ?_))
    obtain rfl:=someI hb3
    exact ⟨nofun,.inl ⟨q33,rfl,hF.sub ⟨rfl,rfl,rfl,rfl,rfl,trivial⟩,hS,h29,h29k,h30,h30k,h31,h31k,h32,h32k,h33,h34,h34k,h35,h35k⟩⟩
   ·have hb3:=cond_t hc4 hb3
    refine q_cond_t hF rfl hc4 (q_skipc (n_sq (q_seq (q_block (q_seq (q_region (q_x (v:=(iV v_27)) hF hS (ex_move rfl) rfl rfl fun a hF=>q_x (v:=(iV (goLen p_f.rows))) hF hS (ex_move rfl) rfl rfl fun a hF=>q_x (v:=(.bool (decide ((goLen p_f.rows) ≤ v_27)))) hF hS (ex_ibin rfl rfl rfl) rfl rfl fun a hF=>q_end (n_sq ?_))))))))
    obtain ⟨p_f_47,hj5,hb3⟩:=bindS hb3
    refine q_join (fun a w=>∃ (q52 : Piece),Fr a 123 [(0,(.pointer (some ⟨b_p_f,0,none⟩))),(1,s8.v),(2,(iV p_end)),(6,(iV (goLen p_f.rows))),(7,(iV t_26)),(8,(iV start_23)),(9,(iV v_27))]∧St X w0 w m [q52,q6,q7,[⟨b_p_f,[s1.v,s2.v,s3.v,s4.v,s5.v,s6.v,s7.v],150⟩]]∧Rd m s1 p_f_47.t.Rows∧p_f_47.t.Rows = p_f.t.Rows∧Rd m s2 p_f_47.t.Cols∧p_f_47.t.Cols = p_f.t.Cols∧Rd m s3 p_f_47.t.Lo∧p_f_47.t.Lo = p_f.t.Lo∧Rd m s4 p_f_47.t.Hi∧p_f_47.t.Hi = p_f.t.Hi∧OwnD m 28 3 q52 s5 p_f_47.x∧OwnL m 3 q6 s6 p_f_47.rows∧p_f_47.rows = p_f.rows∧OwnL m 3 q7 s7 p_f_47.cols∧p_f_47.cols = p_f.cols) ?_ ?_
    ·rcases bcase (decide ((goLen p_f.rows) ≤ v_27)) with hc6 | hc6
     ·have hj5:=cond_f hc6 hj5
      refine q_cond_f hF rfl hc6 (e_region ⟨[18],[],m⟩ mixed fun w' hw'=>?_)
      have hS:=hS.below hw'
      refine e_p (v:=(.pointer (some ⟨b_p_f,0,none⟩))) 0 hF rfl (ex_move rfl) rfl rfl (by kernel_rfl) (by kernel_rfl) (by kernel_rfl) fun a hF=>e_p (v:=(.pointer (some ⟨b_p_f,0,none⟩))) 1 hF rfl (ex_nilCheck rfl) rfl rfl (by kernel_rfl) (by kernel_rfl) (by kernel_rfl) fun a hF=>e_p (v:=(.pointer (some ⟨b_p_f,4,none⟩))) 2 hF rfl (ex_fieldAddr Try.underlying150 rfl sz23 rfl rfl) rfl rfl (by kernel_rfl) (by kernel_rfl) (by kernel_rfl) fun a hF=>e_x (v:=s5.v) 3 hF hS rfl (ex_load1 3 0 Try.underlying23 rfl rfl rfl rfl) rfl rfl (by kernel_rfl) (by kernel_rfl) (by kernel_rfl) (by kernel_rfl) fun a hF=>e_p (v:=(iV v_27)) 4 hF rfl (ex_move rfl) rfl rfl (by kernel_rfl) (by kernel_rfl) (by kernel_rfl) fun a hF=>?_
      obtain ⟨e_38,he_38,hj5⟩:=bindS hj5
      obtain ⟨s39,hV39⟩:=h33.view he_38
      refine e_p (v:=(elP s5 (v_27.toNat * 1))) 5 hF rfl (ex_indexAddr Try.underlying23 sz28 rfl rfl (h33.idx he_38)) rfl rfl (by kernel_rfl) (by kernel_rfl) (by kernel_rfl) fun a hF=>e_x (v:=s39.v) 6 hF hS rfl (ex_loadE1 0 Try.underlying28 rfl rfl ((hV39.atH he_38).at 0 rfl) rfl rfl) rfl rfl (by kernel_rfl) (by kernel_rfl) (by kernel_rfl) (by kernel_rfl) fun a hF=>e_p (v:=s8.v) 7 hF rfl (ex_move rfl) rfl rfl (by kernel_rfl) (by kernel_rfl) (by kernel_rfl) fun a hF=>e_p (v:=(iV v_27)) 8 hF rfl (ex_move rfl) rfl rfl (by kernel_rfl) (by kernel_rfl) (by kernel_rfl) fun a hF=>?_
      obtain ⟨e_40,he_40,hj5⟩:=bindS hj5
      obtain ⟨vs41,at41,d41⟩:=h8.at he_40 1 rfl
      obtain rfl : vs41 = [(iV e_40)]:=d41
      refine e_p (v:=(elP s8 (v_27.toNat * 1))) 9 hF rfl (ex_indexAddr Try.underlying28 sz3 rfl rfl (h8.idx he_40)) rfl rfl (by kernel_rfl) (by kernel_rfl) (by kernel_rfl) fun a hF=>e_xm (v:=(iV e_40)) 10 hF hS (Mem.le.refl _) rfl (ex_loadE1 0 Try.underlying3 rfl rfl ((at41).at) rfl rfl) rfl rfl (by kernel_rfl) (by kernel_rfl) (by kernel_rfl) fun a hF=>e_p (v:=(iV (goLen p_f.rows))) 11 hF rfl (ex_move rfl) rfl rfl (by kernel_rfl) (by kernel_rfl) (by kernel_rfl) fun a hF=>e_p (v:=(iV (w64 (e_40 - (goLen p_f.rows))))) 12 hF rfl (ex_ibin rfl rfl rfl) rfl rfl (by kernel_rfl) (by kernel_rfl) (by kernel_rfl) fun a hF=>?_
      obtain ⟨e_42,he_42,hj5⟩:=bindS hj5
      obtain ⟨vs43,at43,d43⟩:=hV39.at he_38 he_42 1 rfl
      obtain rfl : vs43 = [(iV e_42)]:=d43
      refine e_p (v:=(elP s39 ((w64 (e_40 - (goLen p_f.rows))).toNat * 1))) 13 hF rfl (ex_indexAddr Try.underlying28 sz3 rfl rfl (hV39.idx he_38 he_42)) rfl rfl (by kernel_rfl) (by kernel_rfl) (by kernel_rfl) fun a hF=>e_x (v:=(iV e_42)) 14 hF hS rfl (ex_loadE1 0 Try.underlying3 rfl rfl (at43.at 0 rfl) rfl rfl) rfl rfl (by kernel_rfl) (by kernel_rfl) (by kernel_rfl) (by kernel_rfl) fun a hF=>e_p (v:=(iV t_26)) 15 hF rfl (ex_move rfl) rfl rfl (by kernel_rfl) (by kernel_rfl) (by kernel_rfl) fun a hF=>e_p (v:=(iV (w64 (e_42 - t_26)))) 16 hF rfl (ex_ibin rfl rfl rfl) rfl rfl (by kernel_rfl) (by kernel_rfl) (by kernel_rfl) fun a hF=>?_
      obtain ⟨e_44,he_44,hj5⟩:=bindS hj5
      obtain ⟨vs45,at45,d45⟩:=hV39.at he_38 he_44 1 rfl
      obtain rfl : vs45 = [(iV e_44)]:=d45
      refine e_p (v:=(elP s39 ((w64 (e_40 - (goLen p_f.rows))).toNat * 1))) 17 hF rfl (ex_indexAddr Try.underlying28 sz3 rfl rfl (hV39.idx he_38 he_44)) rfl rfl (by kernel_rfl) (by kernel_rfl) (by kernel_rfl) fun a hF=>e_one 18 (by kernel_rfl) (e_opl rfl rfl rfl fun _ hK=>wp_storeV (e':=(w64 (e_42 - t_26))) (us:=[(iV (w64 (e_42 - t_26)))]) (vs:=[(iV e_44)]) 0 hF hS hV39 he_38 sz3 rfl rfl rfl rfl rfl rfl rfl he_44 at45 rfl rfl rfl fun w q46 hS h46=>hK _ _ (⟨⟨kpN,fun _=>hS.vis.of_le (Mem.le.refl _)⟩,?_⟩))
      refine e_end (by kernel_rfl) (n_jn ?_) _
      obtain rfl:=someI hj5
      exact ⟨q46,hF.sub ⟨rfl,rfl,rfl,rfl,rfl,rfl,rfl,trivial⟩,hS,h29,h29k,h30,h30k,h31,h31k,h32,h32k,h46.own,h34,h34k,h35,h35k⟩
     ·have hj5:=cond_t hc6 hj5
      refine q_cond_t hF rfl hc6 (e_region ⟨[18],[],m⟩ mixed fun w' hw'=>?_)
      have hS:=hS.below hw'
      refine e_p (v:=(.pointer (some ⟨b_p_f,0,none⟩))) 0 hF rfl (ex_move rfl) rfl rfl (by kernel_rfl) (by kernel_rfl) (by kernel_rfl) fun a hF=>e_p (v:=(.pointer (some ⟨b_p_f,0,none⟩))) 1 hF rfl (ex_nilCheck rfl) rfl rfl (by kernel_rfl) (by kernel_rfl) (by kernel_rfl) fun a hF=>e_p (v:=(.pointer (some ⟨b_p_f,4,none⟩))) 2 hF rfl (ex_fieldAddr Try.underlying150 rfl sz23 rfl rfl) rfl rfl (by kernel_rfl) (by kernel_rfl) (by kernel_rfl) fun a hF=>e_x (v:=s5.v) 3 hF hS rfl (ex_load1 3 0 Try.underlying23 rfl rfl rfl rfl) rfl rfl (by kernel_rfl) (by kernel_rfl) (by kernel_rfl) (by kernel_rfl) fun a hF=>e_p (v:=s8.v) 4 hF rfl (ex_move rfl) rfl rfl (by kernel_rfl) (by kernel_rfl) (by kernel_rfl) fun a hF=>e_p (v:=(iV v_27)) 5 hF rfl (ex_move rfl) rfl rfl (by kernel_rfl) (by kernel_rfl) (by kernel_rfl) fun a hF=>?_
      obtain ⟨e_38,he_38,hj5⟩:=bindS hj5
      obtain ⟨vs39,at39,d39⟩:=h8.at he_38 1 rfl
      obtain rfl : vs39 = [(iV e_38)]:=d39
      refine e_p (v:=(elP s8 (v_27.toNat * 1))) 6 hF rfl (ex_indexAddr Try.underlying28 sz3 rfl rfl (h8.idx he_38)) rfl rfl (by kernel_rfl) (by kernel_rfl) (by kernel_rfl) fun a hF=>e_xm (v:=(iV e_38)) 7 hF hS (Mem.le.refl _) rfl (ex_loadE1 0 Try.underlying3 rfl rfl ((at39).at) rfl rfl) rfl rfl (by kernel_rfl) (by kernel_rfl) (by kernel_rfl) fun a hF=>?_
      obtain ⟨e_40,he_40,hj5⟩:=bindS hj5
      obtain ⟨s41,hV41⟩:=h33.view he_40
      refine e_p (v:=(elP s5 (e_38.toNat * 1))) 8 hF rfl (ex_indexAddr Try.underlying23 sz28 rfl rfl (h33.idx he_40)) rfl rfl (by kernel_rfl) (by kernel_rfl) (by kernel_rfl) fun a hF=>e_x (v:=s41.v) 9 hF hS rfl (ex_loadE1 0 Try.underlying28 rfl rfl ((hV41.atH he_40).at 0 rfl) rfl rfl) rfl rfl (by kernel_rfl) (by kernel_rfl) (by kernel_rfl) (by kernel_rfl) fun a hF=>e_p (v:=(iV v_27)) 10 hF rfl (ex_move rfl) rfl rfl (by kernel_rfl) (by kernel_rfl) (by kernel_rfl) fun a hF=>e_p (v:=(iV (goLen p_f.rows))) 11 hF rfl (ex_move rfl) rfl rfl (by kernel_rfl) (by kernel_rfl) (by kernel_rfl) fun a hF=>e_p (v:=(iV (w64 (v_27 - (goLen p_f.rows))))) 12 hF rfl (ex_ibin rfl rfl rfl) rfl rfl (by kernel_rfl) (by kernel_rfl) (by kernel_rfl) fun a hF=>?_
      obtain ⟨e_42,he_42,hj5⟩:=bindS hj5
      obtain ⟨vs43,at43,d43⟩:=hV41.at he_40 he_42 1 rfl
      obtain rfl : vs43 = [(iV e_42)]:=d43
      refine e_p (v:=(elP s41 ((w64 (v_27 - (goLen p_f.rows))).toNat * 1))) 13 hF rfl (ex_indexAddr Try.underlying28 sz3 rfl rfl (hV41.idx he_40 he_42)) rfl rfl (by kernel_rfl) (by kernel_rfl) (by kernel_rfl) fun a hF=>e_x (v:=(iV e_42)) 14 hF hS rfl (ex_loadE1 0 Try.underlying3 rfl rfl (at43.at 0 rfl) rfl rfl) rfl rfl (by kernel_rfl) (by kernel_rfl) (by kernel_rfl) (by kernel_rfl) fun a hF=>e_p (v:=(iV t_26)) 15 hF rfl (ex_move rfl) rfl rfl (by kernel_rfl) (by kernel_rfl) (by kernel_rfl) fun a hF=>e_p (v:=(iV (w64 (e_42 + t_26)))) 16 hF rfl (ex_ibin rfl rfl rfl) rfl rfl (by kernel_rfl) (by kernel_rfl) (by kernel_rfl) fun a hF=>?_
      obtain ⟨e_44,he_44,hj5⟩:=bindS hj5
      obtain ⟨vs45,at45,d45⟩:=hV41.at he_40 he_44 1 rfl
      obtain rfl : vs45 = [(iV e_44)]:=d45
      refine e_p (v:=(elP s41 ((w64 (v_27 - (goLen p_f.rows))).toNat * 1))) 17 hF rfl (ex_indexAddr Try.underlying28 sz3 rfl rfl (hV41.idx he_40 he_44)) rfl rfl (by kernel_rfl) (by kernel_rfl) (by kernel_rfl) fun a hF=>e_one 18 (by kernel_rfl) (e_opl rfl rfl rfl fun _ hK=>wp_storeV (e':=(w64 (e_42 + t_26))) (us:=[(iV (w64 (e_42 + t_26)))]) (vs:=[(iV e_44)]) 0 hF hS hV41 he_40 sz3 rfl rfl rfl rfl rfl rfl rfl he_44 at45 rfl rfl rfl fun w q46 hS h46=>hK _ _ (⟨⟨kpN,fun _=>hS.vis.of_le (Mem.le.refl _)⟩,?_⟩))
      refine e_end (by kernel_rfl) (n_jn ?_) _
      obtain rfl:=someI hj5
      exact ⟨q46,hF.sub ⟨rfl,rfl,rfl,rfl,rfl,rfl,rfl,trivial⟩,hS,h29,h29k,h30,h30k,h31,h31k,h32,h32k,h46.own,h34,h34k,h35,h35k⟩
    ·rintro a w ⟨q52,hF,hS,h48,h48k,h49,h49k,h50,h50k,h51,h51k,h52,h53,h53k,h54,h54k⟩
     refine n_ib (n_sq ?_)
     refine q_region (q_x (v:=s8.v) hF hS (ex_move rfl) rfl rfl fun a hF=>q_x (v:=(iV v_27)) hF hS (ex_move rfl) rfl rfl fun a hF=>?_)
     obtain ⟨e_55,he_55,hb3⟩:=bindS hb3
     obtain ⟨vs56,at56,d56⟩:=h8.at he_55 1 rfl
     obtain rfl : vs56 = [(iV e_55)]:=d56
     refine q_x (v:=(elP s8 (v_27.toNat * 1))) hF hS (ex_indexAddr Try.underlying28 sz3 rfl rfl (h8.idx he_55)) rfl rfl fun a hF=>q_x (v:=(iV e_55)) hF hS (ex_loadE1 0 Try.underlying3 rfl rfl ((at56).at) rfl rfl) rfl rfl fun a hF=>q_x (v:=(iV e_55)) hF hS (ex_assign rfl) rfl rfl fun a hF=>q_end ?_
     obtain rfl:=someI hb3
     exact ⟨rfl,q52,_,_,rfl,hF.sub ⟨rfl,rfl,rfl,rfl,rfl,rfl,rfl,trivial⟩,hS,h48,h48k,h49,h49k,h50,h50k,h51,h51k,h52,h53,h53k,h54,h54k⟩
  ·rintro e a w ⟨q62,rfl,hF,hS,h58,h58k,h59,h59k,h60,h60k,h61,h61k,h62,h63,h63k,h64,h64k⟩
   refine x_ib (n_sq ?_)
   refine q_seq (q_region (q_x (v:=(.pointer (some ⟨b_p_f,0,none⟩))) hF hS (ex_move rfl) rfl rfl fun a hF=>q_x (v:=(.pointer (some ⟨b_p_f,0,none⟩))) hF hS (ex_nilCheck rfl) rfl rfl fun a hF=>q_x (v:=(.pointer (some ⟨b_p_f,5,none⟩))) hF hS (ex_fieldAddr Try.underlying150 rfl sz28 rfl rfl) rfl rfl fun a hF=>q_x (v:=s6.v) hF hS (ex_load1 3 0 Try.underlying28 rfl rfl rfl rfl) rfl rfl fun a hF=>q_x (v:=(iV start_23)) hF hS (ex_move rfl) rfl rfl fun a hF=>?_))
   obtain ⟨e_65,he_65,hr⟩:=bindS hr
   obtain ⟨vs66,at66,d66⟩:=h63.at he_65 1 rfl
   obtain rfl : vs66 = [(iV e_65)]:=d66
   refine q_x (v:=(elP s6 (start_23.toNat * 1))) hF hS (ex_indexAddr Try.underlying28 sz3 rfl rfl (h63.idx he_65)) rfl rfl fun a hF=>q_x (v:=(iV e_65)) hF hS (ex_loadE1 0 Try.underlying3 rfl rfl (at66.at 1 rfl) rfl rfl) rfl rfl fun a hF=>q_x (v:=(iV t_26)) hF hS (ex_move rfl) rfl rfl fun a hF=>q_x (v:=(iV (w64 (e_65 - t_26)))) hF hS (ex_ibin rfl rfl rfl) rfl rfl fun a hF=>?_
   obtain ⟨e_67,he_67,hr⟩:=bindS hr
   obtain ⟨vs68,at68,d68⟩:=h63.at he_67 1 rfl
   obtain rfl : vs68 = [(iV e_67)]:=d68
   refine q_x (v:=(elP s6 (start_23.toNat * 1))) hF hS (ex_indexAddr Try.underlying28 sz3 rfl rfl (h63.idx he_67)) rfl rfl fun a hF=>?_
   have hS : St _ _ _ _ [q6,q62,q7,[⟨b_p_f,[s1.v,s2.v,s3.v,s4.v,s5.v,s6.v,s7.v],150⟩]]:=hS.sel [1,0,2,3] (by decide)
   refine q_do rfl fun _ hK=>wp_storeE (e':=(w64 (e_65 - t_26))) (us:=[(iV (w64 (e_65 - t_26)))]) (vs:=[(iV e_67)]) 0 hF hS h63 sz3 rfl rfl rfl rfl rfl rfl rfl he_67 at68 rfl rfl rfl fun w q69 hS h69=>hK _ _ (q_end (n_sq (q_region (q_x (v:=(.pointer (some ⟨b_p_f,0,none⟩))) hF hS (ex_move rfl) rfl rfl fun a hF=>q_x (v:=(.pointer (some ⟨b_p_f,0,none⟩))) hF hS (ex_nilCheck rfl) rfl rfl fun a hF=>q_x (v:=(.pointer (some ⟨b_p_f,6,none⟩))) hF hS (ex_fieldAddr Try.underlying150 rfl sz28 rfl rfl) rfl rfl fun a hF=>q_x (v:=s7.v) hF hS (ex_load1 3 0 Try.underlying28 rfl rfl rfl rfl) rfl rfl fun a hF=>q_x (v:=(iV p_end)) hF hS (ex_move rfl) rfl rfl fun a hF=>q_x (v:=(iV (goLen p_f.rows))) hF hS (ex_move rfl) rfl rfl fun a hF=>q_x (v:=(iV (w64 (p_end - (goLen p_f.rows))))) hF hS (ex_ibin rfl rfl rfl) rfl rfl fun a hF=>?_))))
   obtain ⟨e_70,he_70,hr⟩:=bindS hr
   obtain ⟨vs71,at71,d71⟩:=h64.at he_70 1 rfl
   obtain rfl : vs71 = [(iV e_70)]:=d71
   refine q_x (v:=(elP s7 ((w64 (p_end - (goLen p_f.rows))).toNat * 1))) hF hS (ex_indexAddr Try.underlying28 sz3 rfl rfl (h64.idx he_70)) rfl rfl fun a hF=>q_x (v:=(iV e_70)) hF hS (ex_loadE1 0 Try.underlying3 rfl rfl (at71.at 2 rfl) rfl rfl) rfl rfl fun a hF=>q_x (v:=(iV t_26)) hF hS (ex_move rfl) rfl rfl fun a hF=>q_x (v:=(iV (w64 (e_70 - t_26)))) hF hS (ex_ibin rfl rfl rfl) rfl rfl fun a hF=>?_
   obtain ⟨e_72,he_72,hr⟩:=bindS hr
   obtain ⟨vs73,at73,d73⟩:=h64.at he_72 1 rfl
   obtain rfl : vs73 = [(iV e_72)]:=d73
   refine q_x (v:=(elP s7 ((w64 (p_end - (goLen p_f.rows))).toNat * 1))) hF hS (ex_indexAddr Try.underlying28 sz3 rfl rfl (h64.idx he_72)) rfl rfl fun a hF=>?_
   have hS : St _ _ _ _ [q7,q69,q62,[⟨b_p_f,[s1.v,s2.v,s3.v,s4.v,s5.v,s6.v,s7.v],150⟩]]:=hS.sel [2,0,1,3] (by decide)
   refine q_do rfl fun _ hK=>wp_storeE (e':=(w64 (e_70 - t_26))) (us:=[(iV (w64 (e_70 - t_26)))]) (vs:=[(iV e_72)]) 0 hF hS h64 sz3 rfl rfl rfl rfl rfl rfl rfl he_72 at73 rfl rfl rfl fun w q74 hS h74=>hK _ _ (q_end (normal_ret ?_))
   obtain rfl:=someI hr
   exact ret_ofX hF hS rfl .nil ⟨q62,q69,q74,s5,s6,s7,rfl,hS.sel [3,2,1,0] (by decide),h58k,h59k,h60k,h61k,h62,h69,h74⟩

theorem c_spec_tFill_augment (p_f : spec_tFill) (r : Bool × spec_tFill) (hr : spec_tFill_augment p_f = some r) (w0 : World) (m : Mem) (b_p_f : Nat) (s1 : Sl) (h1 : Rd m s1 p_f.t.Rows) (s2 : Sl) (h2 : Rd m s2 p_f.t.Cols) (s3 : Sl) (h3 : Rd m s3 p_f.t.Lo) (s4 : Sl) (h4 : Rd m s4 p_f.t.Hi) (s5 : Sl) (q5 : Piece) (h5 : OwnD m 28 3 q5 s5 p_f.x) (s6 : Sl) (q6 : Piece) (h6 : OwnL m 3 q6 s6 p_f.rows) (s7 : Sl) (q7 : Piece) (h7 : OwnL m 3 q7 s7 p_f.cols) (X : List Nat) (hS : St X w0 w0 m [[⟨b_p_f,[s1.v,s2.v,s3.v,s4.v,s5.v,s6.v,s7.v],150⟩],q5,q6,q7]) :
  RetX Try.prog 199 [(.pointer (some ⟨b_p_f,0,none⟩))] w0 (fun v w=>∃ (q4' : Piece) (q5' : Piece) (q6' : Piece) (s4' : Sl) (s5' : Sl) (s6' : Sl),v = (.bool r.1)∧St X w0 w m [[⟨b_p_f,[s1.v,s2.v,s3.v,s4.v,s4'.v,s5'.v,s6'.v],150⟩],q4',q5',q6']∧r.2.t.Rows = p_f.t.Rows∧r.2.t.Cols = p_f.t.Cols∧r.2.t.Lo = p_f.t.Lo∧r.2.t.Hi = p_f.t.Hi∧OwnD m 28 3 q4' s4' r.2.x∧OwnL m 3 q5' s5' r.2.rows∧OwnL m 3 q6' s6' r.2.cols):=by
 unfold spec_tFill_augment at hr
 refine ret_startX Try.func199 rfl 110 rfl rfl fun a hF=>q_seq (q_region (q_x (v:=(.bool false)) hF hS (ex_assign rfl) rfl rfl fun a hF=>q_end (n_sq (q_seq (e_region ⟨[],[],m⟩ mixed fun w' hw'=>?_)))))
 have hS:=hS.below hw'
 refine e_p (v:=(.pointer (some ⟨b_p_f,0,none⟩))) 0 hF rfl (ex_move rfl) rfl rfl (by kernel_rfl) (by kernel_rfl) (by kernel_rfl) fun a hF=>e_p (v:=(.pointer (some ⟨b_p_f,0,none⟩))) 1 hF rfl (ex_nilCheck rfl) rfl rfl (by kernel_rfl) (by kernel_rfl) (by kernel_rfl) fun a hF=>e_p (v:=(.pointer (some ⟨b_p_f,5,none⟩))) 2 hF rfl (ex_fieldAddr Try.underlying150 rfl sz28 rfl rfl) rfl rfl (by kernel_rfl) (by kernel_rfl) (by kernel_rfl) fun a hF=>e_x (v:=s6.v) 3 hF hS rfl (ex_load1 0 0 Try.underlying28 rfl rfl rfl rfl) rfl rfl (by kernel_rfl) (by kernel_rfl) (by kernel_rfl) (by kernel_rfl) fun a hF=>e_p (v:=(iV (goLen p_f.rows))) 4 hF rfl (ex_len Try.underlying28 rfl h6.len) rfl rfl (by kernel_rfl) (by kernel_rfl) (by kernel_rfl) fun a hF=>e_p (v:=(.pointer (some ⟨b_p_f,0,none⟩))) 5 hF rfl (ex_move rfl) rfl rfl (by kernel_rfl) (by kernel_rfl) (by kernel_rfl) fun a hF=>e_p (v:=(.pointer (some ⟨b_p_f,0,none⟩))) 6 hF rfl (ex_nilCheck rfl) rfl rfl (by kernel_rfl) (by kernel_rfl) (by kernel_rfl) fun a hF=>e_p (v:=(.pointer (some ⟨b_p_f,6,none⟩))) 7 hF rfl (ex_fieldAddr Try.underlying150 rfl sz28 rfl rfl) rfl rfl (by kernel_rfl) (by kernel_rfl) (by kernel_rfl) fun a hF=>e_x (v:=s7.v) 8 hF hS rfl (ex_load1 0 0 Try.underlying28 rfl rfl rfl rfl) rfl rfl (by kernel_rfl) (by kernel_rfl) (by kernel_rfl) (by kernel_rfl) fun a hF=>e_p (v:=(iV (goLen p_f.cols))) 9 hF rfl (ex_len Try.underlying28 rfl h7.len) rfl rfl (by kernel_rfl) (by kernel_rfl) (by kernel_rfl) fun a hF=>e_p (v:=(iV (goLen p_f.rows))) 10 hF rfl (ex_assign rfl) rfl rfl (by kernel_rfl) (by kernel_rfl) (by kernel_rfl) fun a hF=>e_p (v:=(iV (goLen p_f.cols))) 11 hF rfl (ex_assign rfl) rfl rfl (by kernel_rfl) (by kernel_rfl) (by kernel_rfl) fun a hF=>e_end (by kernel_rfl) (n_sq ?_) _
 refine q_seq (q_region (q_x (v:=(iV (goLen p_f.rows))) hF hS (ex_move rfl) rfl rfl fun a hF=>q_x (v:=(iV (goLen p_f.cols))) hF hS (ex_move rfl) rfl rfl fun a hF=>q_x (v:=(iV (w64 ((goLen p_f.rows) + (goLen p_f.cols))))) hF hS (ex_ibin rfl rfl rfl) rfl rfl fun a hF=>?_))
 obtain ⟨l_8,hl_8,hr⟩:=bindS hr
 refine q_do rfl fun _ hK=>wp_make (z:=(0 : Int)) hF hS Try.underlying28 inf3 rfl rfl rfl rfl rfl (by decide) hl_8 rfl fun a w q9 s9 hF hS h9 _=>hK _ _ (q_x (v:=s9.v) hF hS (ex_assign rfl) rfl rfl fun a hF=>q_end (n_sq (q_seq (q_region (q_x (v:=nilS.v) hF hS (ex_assign rfl) rfl rfl fun a hF=>q_end (n_sq (q_seq (q_seq (q_region (q_x (v:=s9.v) hF hS (ex_move rfl) rfl rfl fun a hF=>q_x (v:=(iV (goLen l_8))) hF hS (ex_len Try.underlying28 rfl h9.len) rfl rfl fun a hF=>q_x (v:=(iV 0)) hF hS (ex_move rfl) rfl rfl fun a hF=>q_end (n_sq (q_block ?_))))))))))))
 obtain ⟨o1,hl1,hr⟩:=bindS hr
 refine q_loop (fun (s : (List Int) × (List Int) × Int) a w=>∃ (q11 : Piece),∃ (q13 : Piece),∃ (s13 : Sl),∃ from_10,∃ queue_12,∃ t_14,s = (from_10,queue_12,t_14)∧Fr a 110 [(0,(.pointer (some ⟨b_p_f,0,none⟩))),(3,(iV (goLen p_f.rows))),(4,(iV (goLen p_f.cols))),(5,s9.v),(6,s13.v),(26,(iV (goLen l_8))),(27,(iV t_14))]∧St X w0 w m [q11,q13,[⟨b_p_f,[s1.v,s2.v,s3.v,s4.v,s5.v,s6.v,s7.v],150⟩],q5,q6,q7]∧OwnL m 3 q11 s9 from_10∧OwnL m 3 q13 s13 queue_12) (fun (o : (List Int) × (List Int)) e a w=>∃ (q32 : Piece),∃ (q34 : Piece),∃ (s34 : Sl),∃ from_31,∃ queue_33,o = (from_31,queue_33)∧e = .exit 0∧Fr a 110 [(0,(.pointer (some ⟨b_p_f,0,none⟩))),(3,(iV (goLen p_f.rows))),(4,(iV (goLen p_f.cols))),(5,s9.v),(6,s34.v)]∧St X w0 w m [q32,q34,q5,q6,q7,[⟨b_p_f,[s1.v,s2.v,s3.v,s4.v,s5.v,s6.v,s7.v],150⟩]]∧OwnL m 3 q32 s9 from_31∧OwnL m 3 q34 s34 queue_33) hl1 ⟨q9,[],nilS,_,_,_,rfl,hF.sub ⟨rfl,rfl,rfl,rfl,rfl,rfl,rfl,trivial⟩,hS.sel [0,5,1,2,3,4] (by decide),h9,(OwnL.nil (α:=Int) m 3)⟩ ?_ ?_
 ·clear hF hS
  rintro s a w st ⟨q11,q13,s13,from_10,queue_12,t_14,rfl,hF,hS,h11,h13⟩ hb1
  unfold spec_tFill_augment_l1 at hb1
  refine q_seq (q_region (q_x (v:=(.bool (decide (t_14 < (goLen l_8))))) hF hS (ex_ibin rfl rfl rfl) rfl rfl fun a hF=>q_end (n_sq (q_seq ?_))))
  rcases bcase (decide (t_14 < (goLen l_8))) with hc2 | hc2
  ·have hb1:=cond_f hc2 hb1
   refine q_cond_f hF rfl hc2 (q_exit (x_sq ?_))
   obtain rfl:=someI hb1
   exact ⟨nofun,.inl ⟨q11,q13,s13,_,_,rfl,rfl,hF.sub ⟨rfl,rfl,rfl,rfl,rfl,trivial⟩,hS.sel [0,1,3,4,5,2] (by decide),h11,h13⟩⟩
  ·have hb1:=cond_t hc2 hb1
   refine q_cond_t hF rfl hc2 (q_skipc (n_sq (q_seq (q_block (q_seq (q_region (q_x (v:=(iV t_14)) hF hS (ex_move rfl) rfl rfl fun a hF=>q_x (v:=(iV t_14)) hF hS (ex_assign rfl) rfl rfl fun a hF=>q_end (n_sq (q_seq (q_region (q_x (v:=s9.v) hF hS (ex_move rfl) rfl rfl fun a hF=>q_x (v:=(iV t_14)) hF hS (ex_move rfl) rfl rfl fun a hF=>?_)))))))))))
   obtain ⟨e_15,he_15,hb1⟩:=bindS hb1
   obtain ⟨vs16,at16,d16⟩:=h11.at he_15 1 rfl
   obtain rfl : vs16 = [(iV e_15)]:=d16
   refine q_x (v:=(elP s9 (t_14.toNat * 1))) hF hS (ex_indexAddr Try.underlying28 sz3 rfl rfl (h11.idx he_15)) rfl rfl fun a hF=>q_do rfl fun _ hK=>wp_storeE (e':=-2) (us:=[(iV (-2))]) (vs:=[(iV e_15)]) 0 hF hS h11 sz3 rfl rfl rfl rfl rfl rfl rfl he_15 at16 rfl rfl rfl fun w q17 hS h17=>hK _ _ (q_end (n_sq (q_seq ?_)))
   obtain ⟨t_20,hj3,hb1⟩:=bindS hb1
   refine q_join (fun a w=>Fr a 110 [(0,(.pointer (some ⟨b_p_f,0,none⟩))),(3,(iV (goLen p_f.rows))),(4,(iV (goLen p_f.cols))),(5,s9.v),(6,s13.v),(7,(iV t_14)),(26,(iV (goLen l_8))),(27,(iV t_14)),(45,(.bool t_20))]∧St X w0 w m [q17,q13,q5,q6,q7,[⟨b_p_f,[s1.v,s2.v,s3.v,s4.v,s5.v,s6.v,s7.v],150⟩]]) ?_ ?_
   ·refine q_region (q_x (v:=(iV t_14)) hF hS (ex_move rfl) rfl rfl fun a hF=>q_x (v:=(iV (goLen p_f.rows))) hF hS (ex_move rfl) rfl rfl fun a hF=>q_x (v:=(.bool (decide (t_14 < (goLen p_f.rows))))) hF hS (ex_ibin rfl rfl rfl) rfl rfl fun a hF=>q_x (v:=(.bool (decide (t_14 < (goLen p_f.rows))))) hF hS (ex_move rfl) rfl rfl fun a hF=>?_)
    rcases bcase (decide (t_14 < (goLen p_f.rows))) with hc4 | hc4
    ·have hj3:=cond_f hc4 hj3
     refine q_skip hF (wanted_f hF rfl rfl rfl hc4 rfl) rfl fun a hF=>q_skip hF (wanted_f hF rfl rfl rfl hc4 rfl) rfl fun a hF=>q_skip hF (wanted_f hF rfl rfl rfl hc4 rfl) rfl fun a hF=>q_skip hF (wanted_f hF rfl rfl rfl hc4 rfl) rfl fun a hF=>q_skip hF (wanted_f hF rfl rfl rfl hc4 rfl) rfl fun a hF=>q_skip hF (wanted_f hF rfl rfl rfl hc4 rfl) rfl fun a hF=>q_skip hF (wanted_f hF rfl rfl rfl hc4 rfl) rfl fun a hF=>q_skip hF (wanted_f hF rfl rfl rfl hc4 rfl) rfl fun a hF=>q_x (v:=(.bool false)) hF hS (ex_pick_f rfl rfl hc4) rfl rfl fun a hF=>q_end (n_jn ?_)
     obtain rfl:=someI hj3
     exact ⟨hF.sub ⟨rfl,rfl,rfl,rfl,rfl,rfl,rfl,rfl,rfl,trivial⟩,hS.sel [0,1,3,4,5,2] (by decide)⟩
    ·have hj3:=cond_t hc4 hj3
     refine q_xg (v:=(.pointer (some ⟨b_p_f,0,none⟩))) hF hS (ex_move rfl) (wanted_t hF rfl rfl rfl hc4) rfl fun a hF=>q_xg (v:=(.pointer (some ⟨b_p_f,0,none⟩))) hF hS (ex_nilCheck rfl) (wanted_t hF rfl rfl rfl hc4) rfl fun a hF=>q_xg (v:=(.pointer (some ⟨b_p_f,5,none⟩))) hF hS (ex_fieldAddr Try.underlying150 rfl sz28 rfl rfl) (wanted_t hF rfl rfl rfl hc4) rfl fun a hF=>q_xg (v:=s6.v) hF hS (ex_load1 2 0 Try.underlying28 rfl rfl rfl rfl) (wanted_t hF rfl rfl rfl hc4) rfl fun a hF=>q_xg (v:=(iV t_14)) hF hS (ex_move rfl) (wanted_t hF rfl rfl rfl hc4) rfl fun a hF=>?_
     obtain ⟨e_18,he_18,hj3⟩:=bindS hj3
     obtain ⟨vs19,at19,d19⟩:=h6.at he_18 1 rfl
     obtain rfl : vs19 = [(iV e_18)]:=d19
     refine q_xg (v:=(elP s6 (t_14.toNat * 1))) hF hS (ex_indexAddr Try.underlying28 sz3 rfl rfl (h6.idx he_18)) (wanted_t hF rfl rfl rfl hc4) rfl fun a hF=>q_xg (v:=(iV e_18)) hF hS (ex_loadE1 0 Try.underlying3 rfl rfl (at19.at 4 rfl) rfl rfl) (wanted_t hF rfl rfl rfl hc4) rfl fun a hF=>q_xg (v:=(.bool (decide (0 < e_18)))) hF hS (ex_ibin rfl rfl rfl) (wanted_t hF rfl rfl rfl hc4) rfl fun a hF=>q_x (v:=(.bool (decide (0 < e_18)))) hF hS (ex_pick_t rfl rfl hc4) rfl rfl fun a hF=>q_end (n_jn ?_)
     obtain rfl:=someI hj3
     exact ⟨hF.sub ⟨rfl,rfl,rfl,rfl,rfl,rfl,rfl,rfl,rfl,trivial⟩,hS.sel [0,1,3,4,5,2] (by decide)⟩
   ·rintro a w ⟨hF,hS⟩
    refine n_sq ?_
    obtain ⟨j5,hj5,hb1⟩:=bindS hb1
    refine q_join (fun a w=>∃ (q28 : Piece),∃ (q30 : Piece),∃ (s30 : Sl),∃ from_27,∃ queue_29,j5 = (from_27,queue_29)∧Fr a 110 [(0,(.pointer (some ⟨b_p_f,0,none⟩))),(3,(iV (goLen p_f.rows))),(4,(iV (goLen p_f.cols))),(5,s9.v),(6,s30.v),(26,(iV (goLen l_8))),(27,(iV t_14))]∧St X w0 w m [q28,q30,q5,q6,q7,[⟨b_p_f,[s1.v,s2.v,s3.v,s4.v,s5.v,s6.v,s7.v],150⟩]]∧OwnL m 3 q28 s9 from_27∧OwnL m 3 q30 s30 queue_29) ?_ ?_
    ·rcases bcase (t_20) with hc6 | hc6
     ·have hj5:=cond_f hc6 hj5
      refine q_cond_f hF rfl hc6 (q_skipc (n_jn ?_))
      obtain rfl:=someI hj5
      exact ⟨q17,q13,s13,_,_,rfl,hF.sub ⟨rfl,rfl,rfl,rfl,rfl,rfl,rfl,trivial⟩,hS,h17,h13⟩
     ·have hj5:=cond_t hc6 hj5
      refine q_cond_t hF rfl hc6 (q_seq (q_region (q_x (v:=s9.v) hF hS (ex_move rfl) rfl rfl fun a hF=>q_x (v:=(iV t_14)) hF hS (ex_move rfl) rfl rfl fun a hF=>?_)))
      obtain ⟨e_21,he_21,hj5⟩:=bindS hj5
      obtain ⟨vs22,at22,d22⟩:=h17.at he_21 1 rfl
      obtain rfl : vs22 = [(iV e_21)]:=d22
      refine q_x (v:=(elP s9 (t_14.toNat * 1))) hF hS (ex_indexAddr Try.underlying28 sz3 rfl rfl (h17.idx he_21)) rfl rfl fun a hF=>q_do rfl fun _ hK=>wp_storeE (e':=-1) (us:=[(iV (-1))]) (vs:=[(iV e_21)]) 0 hF hS h17 sz3 rfl rfl rfl rfl rfl rfl rfl he_21 at22 rfl rfl rfl fun w q23 hS h23=>hK _ _ (q_end (n_sq (q_region (q_x (v:=s13.v) hF hS (ex_move rfl) rfl rfl fun a hF=>q_x (v:=(iV t_14)) hF hS (ex_move rfl) rfl rfl fun a hF=>q_do rfl fun _ hK=>wp_buildSlice' (l:=([t_14] : List Int)) (cells:=[(iV t_14)]) hF hS Try.underlying28 inf3 rfl rfl (by kernel_rfl) rfl rfl rfl ⟨rfl,rfl⟩ rfl rfl fun a w q24 s24 hF hS h24 _=>hK _ _ ?_))))
      have hS : St _ _ _ _ [q13,q24,q23,q5,q6,q7,[⟨b_p_f,[s1.v,s2.v,s3.v,s4.v,s5.v,s6.v,s7.v],150⟩]]:=hS.sel [2,0,1,3,4,5,6] (by decide)
      obtain ⟨l_25,hl_25,hj5⟩:=bindS hj5
      refine q_do rfl fun _ hK=>wp_append hF hS h13 Try.underlying28 inf3 rfl rfl rfl rfl (h24.vw hS (j:=1) rfl) rfl (by decide) hl_25 rfl fun a w q26 s26 hF hS h26=>hK _ _ (q_x (v:=s26.v) hF hS (ex_assign rfl) rfl rfl fun a hF=>q_end (n_jn ?_))
      obtain rfl:=someI hj5
      exact ⟨q23,q26,s26,_,_,rfl,hF.sub ⟨rfl,rfl,rfl,rfl,rfl,rfl,rfl,trivial⟩,hS.sel [2,0,3,4,5,6] (by decide),h23,h26⟩
    ·rintro a w ⟨q28,q30,s30,from_27,queue_29,rfl,hF,hS,h28,h30⟩
     refine n_ib (n_sq ?_)
     refine q_region (q_x (v:=(iV (w64 (t_14 + 1)))) hF hS (ex_ibin rfl rfl rfl) rfl rfl fun a hF=>q_x (v:=(iV (w64 (t_14 + 1)))) hF hS (ex_move rfl) rfl rfl fun a hF=>q_end ?_)
     obtain rfl:=someI hb1
     exact ⟨rfl,q28,q30,s30,_,_,_,rfl,hF.sub ⟨rfl,rfl,rfl,rfl,rfl,rfl,rfl,trivial⟩,hS.sel [0,1,5,2,3,4] (by decide),h28,h30⟩
 ·rintro e a w ⟨q32,q34,s34,from_31,queue_33,rfl,rfl,hF,hS,h32,h34⟩
  refine x_ib (n_sq ?_)
  refine q_seq (q_seq (q_region (q_x (v:=(iV 0)) hF hS (ex_assign rfl) rfl rfl fun a hF=>q_end (n_sq (q_block ?_)))))
  obtain ⟨o7,hl7,hr⟩:=bindS hr
  refine q_loop (fun (s : (List Int) × (List Int) × Int) a w=>∃ (q36 : Piece),∃ (q38 : Piece),∃ (s38 : Sl),∃ from_35,∃ queue_37,∃ at_39,s = (from_35,queue_37,at_39)∧Fr a 110 [(0,(.pointer (some ⟨b_p_f,0,none⟩))),(3,(iV (goLen p_f.rows))),(4,(iV (goLen p_f.cols))),(5,s9.v),(6,s38.v),(8,(iV at_39))]∧St X w0 w m [q36,q38,q5,q6,q7,[⟨b_p_f,[s1.v,s2.v,s3.v,s4.v,s5.v,s6.v,s7.v],150⟩]]∧OwnL m 3 q36 s9 from_35∧OwnL m 3 q38 s38 queue_37) (fun (o : (Unit) ⊕ (Bool × spec_tFill)) e a w=>o = .inl ()∧e = .exit 2∧Fr a 110 []∧St X w0 w m [q5,q6,q7,[⟨b_p_f,[s1.v,s2.v,s3.v,s4.v,s5.v,s6.v,s7.v],150⟩]]) hl7 ⟨q32,q34,s34,_,_,_,rfl,hF.sub ⟨rfl,rfl,rfl,rfl,rfl,rfl,trivial⟩,hS,h32,h34⟩ ?_ ?_
  ·clear hF hS
   rintro s a w st ⟨q36,q38,s38,from_35,queue_37,at_39,rfl,hF,hS,h36,h38⟩ hb7
   unfold spec_tFill_augment_l2 at hb7
   refine q_seq (q_seq (q_region (q_x (v:=(iV at_39)) hF hS (ex_move rfl) rfl rfl fun a hF=>q_x (v:=s38.v) hF hS (ex_move rfl) rfl rfl fun a hF=>q_x (v:=(iV (goLen queue_37))) hF hS (ex_len Try.underlying28 rfl h38.len) rfl rfl fun a hF=>q_x (v:=(.bool (decide (at_39 < (goLen queue_37))))) hF hS (ex_ibin rfl rfl rfl) rfl rfl fun a hF=>q_end (n_sq ?_))))
   rcases bcase (decide (at_39 < (goLen queue_37))) with hc8 | hc8
   ·have hb7:=cond_f hc8 hb7
    refine q_cond_f hF rfl hc8 (q_exit (x_sq ?_))
    obtain rfl:=someI hb7
    exact ⟨nofun,.inl ⟨rfl,rfl,hF.sub trivial,hS.mask [false,false,true,true,true,true]⟩⟩
   ·have hb7:=cond_t hc8 hb7
    refine q_cond_t hF rfl hc8 (q_skipc (n_sq (q_seq (q_block (q_seq (q_region (q_x (v:=s38.v) hF hS (ex_move rfl) rfl rfl fun a hF=>q_x (v:=(iV at_39)) hF hS (ex_move rfl) rfl rfl fun a hF=>?_)))))))
    obtain ⟨e_40,he_40,hb7⟩:=bindS hb7
    obtain ⟨vs41,at41,d41⟩:=h38.at he_40 1 rfl
    obtain rfl : vs41 = [(iV e_40)]:=d41
    refine q_x (v:=(elP s38 (at_39.toNat * 1))) hF hS (ex_indexAddr Try.underlying28 sz3 rfl rfl (h38.idx he_40)) rfl rfl fun a hF=>q_x (v:=(iV e_40)) hF hS (ex_loadE1 0 Try.underlying3 rfl rfl (at41.at 1 rfl) rfl rfl) rfl rfl fun a hF=>q_x (v:=(iV e_40)) hF hS (ex_assign rfl) rfl rfl fun a hF=>q_end (n_sq (q_seq (q_seq ?_)))
    obtain ⟨t_44,hj9,hb7⟩:=bindS hb7
    refine q_join (fun a w=>Fr a 110 [(0,(.pointer (some ⟨b_p_f,0,none⟩))),(3,(iV (goLen p_f.rows))),(4,(iV (goLen p_f.cols))),(5,s9.v),(6,s38.v),(8,(iV at_39)),(9,(iV e_40)),(78,(.bool t_44))]∧St X w0 w m [q36,q38,q5,q6,q7,[⟨b_p_f,[s1.v,s2.v,s3.v,s4.v,s5.v,s6.v,s7.v],150⟩]]) ?_ ?_
    ·refine q_region (q_x (v:=(iV e_40)) hF hS (ex_move rfl) rfl rfl fun a hF=>q_x (v:=(iV (goLen p_f.rows))) hF hS (ex_move rfl) rfl rfl fun a hF=>q_x (v:=(.bool (decide ((goLen p_f.rows) ≤ e_40)))) hF hS (ex_ibin rfl rfl rfl) rfl rfl fun a hF=>q_x (v:=(.bool (decide ((goLen p_f.rows) ≤ e_40)))) hF hS (ex_move rfl) rfl rfl fun a hF=>?_)
     rcases bcase (decide ((goLen p_f.rows) ≤ e_40)) with hc10 | hc10
     ·have hj9:=cond_f hc10 hj9
      refine q_skip hF (wanted_f hF rfl rfl rfl hc10 rfl) rfl fun a hF=>q_skip hF (wanted_f hF rfl rfl rfl hc10 rfl) rfl fun a hF=>q_skip hF (wanted_f hF rfl rfl rfl hc10 rfl) rfl fun a hF=>q_skip hF (wanted_f hF rfl rfl rfl hc10 rfl) rfl fun a hF=>q_skip hF (wanted_f hF rfl rfl rfl hc10 rfl) rfl fun a hF=>q_skip hF (wanted_f hF rfl rfl rfl hc10 rfl) rfl fun a hF=>q_skip hF (wanted_f hF rfl rfl rfl hc10 rfl) rfl fun a hF=>q_skip hF (wanted_f hF rfl rfl rfl hc10 rfl) rfl fun a hF=>q_skip hF (wanted_f hF rfl rfl rfl hc10 rfl) rfl fun a hF=>q_skip hF (wanted_f hF rfl rfl rfl hc10 rfl) rfl fun a hF=>q_x (v:=(.bool false)) hF hS (ex_pick_f rfl rfl hc10) rfl rfl fun a hF=>q_end (n_jn ?_)
      obtain rfl:=someI hj9
      exact ⟨hF.sub ⟨rfl,rfl,rfl,rfl,rfl,rfl,rfl,rfl,trivial⟩,hS⟩
     ·have hj9:=cond_t hc10 hj9
      refine q_xg (v:=(.pointer (some ⟨b_p_f,0,none⟩))) hF hS (ex_move rfl) (wanted_t hF rfl rfl rfl hc10) rfl fun a hF=>q_xg (v:=(.pointer (some ⟨b_p_f,0,none⟩))) hF hS (ex_nilCheck rfl) (wanted_t hF rfl rfl rfl hc10) rfl fun a hF=>q_xg (v:=(.pointer (some ⟨b_p_f,6,none⟩))) hF hS (ex_fieldAddr Try.underlying150 rfl sz28 rfl rfl) (wanted_t hF rfl rfl rfl hc10) rfl fun a hF=>q_xg (v:=s7.v) hF hS (ex_load1 5 0 Try.underlying28 rfl rfl rfl rfl) (wanted_t hF rfl rfl rfl hc10) rfl fun a hF=>q_xg (v:=(iV e_40)) hF hS (ex_move rfl) (wanted_t hF rfl rfl rfl hc10) rfl fun a hF=>q_xg (v:=(iV (goLen p_f.rows))) hF hS (ex_move rfl) (wanted_t hF rfl rfl rfl hc10) rfl fun a hF=>q_xg (v:=(iV (w64 (e_40 - (goLen p_f.rows))))) hF hS (ex_ibin rfl rfl rfl) (wanted_t hF rfl rfl rfl hc10) rfl fun a hF=>?_
      obtain ⟨e_42,he_42,hj9⟩:=bindS hj9
      obtain ⟨vs43,at43,d43⟩:=h7.at he_42 1 rfl
      obtain rfl : vs43 = [(iV e_42)]:=d43
      refine q_xg (v:=(elP s7 ((w64 (e_40 - (goLen p_f.rows))).toNat * 1))) hF hS (ex_indexAddr Try.underlying28 sz3 rfl rfl (h7.idx he_42)) (wanted_t hF rfl rfl rfl hc10) rfl fun a hF=>q_xg (v:=(iV e_42)) hF hS (ex_loadE1 0 Try.underlying3 rfl rfl (at43.at 4 rfl) rfl rfl) (wanted_t hF rfl rfl rfl hc10) rfl fun a hF=>q_xg (v:=(.bool (decide (0 < e_42)))) hF hS (ex_ibin rfl rfl rfl) (wanted_t hF rfl rfl rfl hc10) rfl fun a hF=>q_x (v:=(.bool (decide (0 < e_42)))) hF hS (ex_pick_t rfl rfl hc10) rfl rfl fun a hF=>q_end (n_jn ?_)
      obtain rfl:=someI hj9
      exact ⟨hF.sub ⟨rfl,rfl,rfl,rfl,rfl,rfl,rfl,rfl,trivial⟩,hS⟩
    ·rintro a w ⟨hF,hS⟩
     refine n_sq ?_
     rcases bcase (t_44) with hc11 | hc11
     ·have hb7:=cond_f hc11 hb7
      refine q_cond_f hF rfl hc11 (q_skipc (n_sq (q_seq (q_region (q_x (v:=(iV 0)) hF hS (ex_assign rfl) rfl rfl fun a hF=>q_end (n_sq (q_block ?_)))))))
      obtain ⟨o12,hl12,hb7⟩:=bindS hb7
      refine q_loop (fun (s : (List Int) × (List Int) × Int) a w=>∃ (q46 : Piece),∃ (q48 : Piece),∃ (s48 : Sl),∃ from_45,∃ queue_47,∃ k_49,s = (from_45,queue_47,k_49)∧Fr a 110 [(0,(.pointer (some ⟨b_p_f,0,none⟩))),(3,(iV (goLen p_f.rows))),(4,(iV (goLen p_f.cols))),(5,s9.v),(6,s48.v),(8,(iV at_39)),(9,(iV e_40)),(10,(iV k_49))]∧St X w0 w m [q46,q48,q5,q6,q7,[⟨b_p_f,[s1.v,s2.v,s3.v,s4.v,s5.v,s6.v,s7.v],150⟩]]∧OwnL m 3 q46 s9 from_45∧OwnL m 3 q48 s48 queue_47) (fun (o : (List Int) × (List Int)) e a w=>∃ (q66 : Piece),∃ (q68 : Piece),∃ (s68 : Sl),∃ from_65,∃ queue_67,o = (from_65,queue_67)∧e = .exit 4∧Fr a 110 [(0,(.pointer (some ⟨b_p_f,0,none⟩))),(3,(iV (goLen p_f.rows))),(4,(iV (goLen p_f.cols))),(5,s9.v),(6,s68.v),(8,(iV at_39))]∧St X w0 w m [q66,q68,q5,q6,q7,[⟨b_p_f,[s1.v,s2.v,s3.v,s4.v,s5.v,s6.v,s7.v],150⟩]]∧OwnL m 3 q66 s9 from_65∧OwnL m 3 q68 s68 queue_67) hl12 ⟨q36,q38,s38,_,_,_,rfl,hF.sub ⟨rfl,rfl,rfl,rfl,rfl,rfl,rfl,rfl,trivial⟩,hS,h36,h38⟩ ?_ ?_
      ·clear hF hS
       rintro s a w st ⟨q46,q48,s48,from_45,queue_47,k_49,rfl,hF,hS,h46,h48⟩ hb12
       unfold spec_tFill_augment_l3 at hb12
       refine q_seq (q_seq (q_region (q_x (v:=(iV k_49)) hF hS (ex_move rfl) rfl rfl fun a hF=>q_x (v:=(iV (goLen p_f.rows))) hF hS (ex_move rfl) rfl rfl fun a hF=>q_x (v:=(iV (goLen p_f.cols))) hF hS (ex_move rfl) rfl rfl fun a hF=>q_x (v:=(iV (w64 ((goLen p_f.rows) + (goLen p_f.cols))))) hF hS (ex_ibin rfl rfl rfl) rfl rfl fun a hF=>q_x (v:=(.bool (decide (k_49 < (w64 ((goLen p_f.rows) + (goLen p_f.cols))))))) hF hS (ex_ibin rfl rfl rfl) rfl rfl fun a hF=>q_end (n_sq ?_))))
       rcases bcase (decide (k_49 < (w64 ((goLen p_f.rows) + (goLen p_f.cols))))) with hc13 | hc13
       ·have hb12:=cond_f hc13 hb12
        refine q_cond_f hF rfl hc13 (q_exit (x_sq ?_))
        obtain rfl:=someI hb12
        exact ⟨nofun,.inl ⟨q46,q48,s48,_,_,rfl,rfl,hF.sub ⟨rfl,rfl,rfl,rfl,rfl,rfl,trivial⟩,hS,h46,h48⟩⟩
       ·have hb12:=cond_t hc13 hb12
        refine q_cond_t hF rfl hc13 (q_skipc (n_sq (q_seq (q_block (q_seq ?_)))))
        obtain ⟨t_54,hj14,hb12⟩:=bindS hb12
        refine q_join (fun a w=>Fr a 110 [(0,(.pointer (some ⟨b_p_f,0,none⟩))),(3,(iV (goLen p_f.rows))),(4,(iV (goLen p_f.cols))),(5,s9.v),(6,s48.v),(8,(iV at_39)),(9,(iV e_40)),(10,(iV k_49)),(101,(.bool t_54))]∧St X w0 w m [q46,q48,q5,q6,q7,[⟨b_p_f,[s1.v,s2.v,s3.v,s4.v,s5.v,s6.v,s7.v],150⟩]]) ?_ ?_
        ·refine q_region (q_x (v:=s9.v) hF hS (ex_move rfl) rfl rfl fun a hF=>q_x (v:=(iV k_49)) hF hS (ex_move rfl) rfl rfl fun a hF=>?_)
         obtain ⟨e_50,he_50,hj14⟩:=bindS hj14
         obtain ⟨vs51,at51,d51⟩:=h46.at he_50 1 rfl
         obtain rfl : vs51 = [(iV e_50)]:=d51
         refine q_x (v:=(elP s9 (k_49.toNat * 1))) hF hS (ex_indexAddr Try.underlying28 sz3 rfl rfl (h46.idx he_50)) rfl rfl fun a hF=>q_x (v:=(iV e_50)) hF hS (ex_loadE1 0 Try.underlying3 rfl rfl (at51.at 0 rfl) rfl rfl) rfl rfl fun a hF=>q_x (v:=(.bool (e_50 == (-2)))) hF hS (ex_ibin rfl rfl rfl) rfl rfl fun a hF=>q_x (v:=(.bool (e_50 == (-2)))) hF hS (ex_move rfl) rfl rfl fun a hF=>?_
         rcases bcase (e_50 == (-2)) with hc15 | hc15
         ·have hj14:=cond_f hc15 hj14
          refine q_skip hF (wanted_f hF rfl rfl rfl hc15 rfl) rfl fun a hF=>q_skip hF (wanted_f hF rfl rfl rfl hc15 rfl) rfl fun a hF=>q_skip hF (wanted_f hF rfl rfl rfl hc15 rfl) rfl fun a hF=>q_skip hF (wanted_f hF rfl rfl rfl hc15 rfl) rfl fun a hF=>q_skip hF (wanted_f hF rfl rfl rfl hc15 rfl) rfl fun a hF=>q_x (v:=(.bool false)) hF hS (ex_pick_f rfl rfl hc15) rfl rfl fun a hF=>q_end (n_jn ?_)
          obtain rfl:=someI hj14
          exact ⟨hF.sub ⟨rfl,rfl,rfl,rfl,rfl,rfl,rfl,rfl,rfl,trivial⟩,hS⟩
         ·have hj14:=cond_t hc15 hj14
          refine q_xg (v:=(.pointer (some ⟨b_p_f,0,none⟩))) hF hS (ex_move rfl) (wanted_t hF rfl rfl rfl hc15) rfl fun a hF=>q_xg (v:=(iV e_40)) hF hS (ex_move rfl) (wanted_t hF rfl rfl rfl hc15) rfl fun a hF=>q_xg (v:=(iV k_49)) hF hS (ex_move rfl) (wanted_t hF rfl rfl rfl hc15) rfl fun a hF=>?_
          have hS : St _ _ _ _ [[⟨b_p_f,[s1.v,s2.v,s3.v,s4.v,s5.v,s6.v,s7.v],150⟩],q46,q48,q5,q6,q7]:=hS.sel [5,0,1,2,3,4] (by decide)
          have hS52 : St _ _ _ _ ([[⟨b_p_f,[s1.v,s2.v,s3.v,s4.v,s5.v,s6.v,s7.v],150⟩]]++[q46,q48,q5,q6,q7]):=hS
          obtain ⟨m52,hl52,hE52,hz52⟩:=hS52.lendX
          obtain ⟨t_53,ht_53,hj14⟩:=bindS hj14
          refine q_dog (wanted_t hF rfl rfl rfl hc15) fun _ hK=>wp_callX (vs:=[(.pointer (some ⟨b_p_f,0,none⟩)),(iV e_40),(iV k_49)]) hF Try.func207 (by kernel_rfl) rfl rfl rfl (c_spec_tFill_room p_f e_40 k_49 t_53 ht_53 _ m52 b_p_f s1 (h1.mono hl52) s2 (h2.mono hl52) s3 (h3.mono hl52) s4 (h4.mono hl52) s5 (h5.froz hl52 (hz52 2 _ rfl)) s6 (h6.froz hl52 (hz52 3 _ rfl)) s7 (h7.froz hl52 (hz52 4 _ rfl)) _ hE52) fun a w _ hR hF=>hK _ _ ?_
          obtain ⟨rfl,hR52⟩:=hR
          have hS : St _ _ _ _ [[⟨b_p_f,[s1.v,s2.v,s3.v,s4.v,s5.v,s6.v,s7.v],150⟩],q46,q48,q5,q6,q7]:=hS52.leaveF hR52
          refine q_xg (v:=(.bool (decide (0 < t_53)))) hF hS (ex_ibin rfl rfl rfl) (wanted_t hF rfl rfl rfl hc15) rfl fun a hF=>q_x (v:=(.bool (decide (0 < t_53)))) hF hS (ex_pick_t rfl rfl hc15) rfl rfl fun a hF=>q_end (n_jn ?_)
          obtain rfl:=someI hj14
          exact ⟨hF.sub ⟨rfl,rfl,rfl,rfl,rfl,rfl,rfl,rfl,rfl,trivial⟩,hS.sel [1,2,3,4,5,0] (by decide)⟩
        ·rintro a w ⟨hF,hS⟩
         refine n_sq ?_
         obtain ⟨j16,hj16,hb12⟩:=bindS hb12
         refine q_join (fun a w=>∃ (q62 : Piece),∃ (q64 : Piece),∃ (s64 : Sl),∃ from_61,∃ queue_63,j16 = (from_61,queue_63)∧Fr a 110 [(0,(.pointer (some ⟨b_p_f,0,none⟩))),(3,(iV (goLen p_f.rows))),(4,(iV (goLen p_f.cols))),(5,s9.v),(6,s64.v),(8,(iV at_39)),(9,(iV e_40)),(10,(iV k_49))]∧St X w0 w m [q62,q64,q5,q6,q7,[⟨b_p_f,[s1.v,s2.v,s3.v,s4.v,s5.v,s6.v,s7.v],150⟩]]∧OwnL m 3 q62 s9 from_61∧OwnL m 3 q64 s64 queue_63) ?_ ?_
         ·rcases bcase (t_54) with hc17 | hc17
          ·have hj16:=cond_f hc17 hj16
           refine q_cond_f hF rfl hc17 (q_skipc (n_jn ?_))
           obtain rfl:=someI hj16
           exact ⟨q46,q48,s48,_,_,rfl,hF.sub ⟨rfl,rfl,rfl,rfl,rfl,rfl,rfl,rfl,trivial⟩,hS,h46,h48⟩
          ·have hj16:=cond_t hc17 hj16
           refine q_cond_t hF rfl hc17 (q_seq (q_region (q_x (v:=s9.v) hF hS (ex_move rfl) rfl rfl fun a hF=>q_x (v:=(iV k_49)) hF hS (ex_move rfl) rfl rfl fun a hF=>q_x (v:=(iV e_40)) hF hS (ex_move rfl) rfl rfl fun a hF=>?_)))
           obtain ⟨e_55,he_55,hj16⟩:=bindS hj16
           obtain ⟨vs56,at56,d56⟩:=h46.at he_55 1 rfl
           obtain rfl : vs56 = [(iV e_55)]:=d56
           refine q_x (v:=(elP s9 (k_49.toNat * 1))) hF hS (ex_indexAddr Try.underlying28 sz3 rfl rfl (h46.idx he_55)) rfl rfl fun a hF=>q_do rfl fun _ hK=>wp_storeE (e':=e_40) (us:=[(iV e_40)]) (vs:=[(iV e_55)]) 0 hF hS h46 sz3 rfl rfl rfl rfl rfl rfl rfl he_55 at56 rfl rfl rfl fun w q57 hS h57=>hK _ _ (q_end (n_sq (q_region (q_x (v:=s48.v) hF hS (ex_move rfl) rfl rfl fun a hF=>q_x (v:=(iV k_49)) hF hS (ex_move rfl) rfl rfl fun a hF=>q_do rfl fun _ hK=>wp_buildSlice' (l:=([k_49] : List Int)) (cells:=[(iV k_49)]) hF hS Try.underlying28 inf3 rfl rfl (by kernel_rfl) rfl rfl rfl ⟨rfl,rfl⟩ rfl rfl fun a w q58 s58 hF hS h58 _=>hK _ _ ?_))))
           have hS : St _ _ _ _ [q48,q58,q57,q5,q6,q7,[⟨b_p_f,[s1.v,s2.v,s3.v,s4.v,s5.v,s6.v,s7.v],150⟩]]:=hS.sel [2,0,1,3,4,5,6] (by decide)
           obtain ⟨l_59,hl_59,hj16⟩:=bindS hj16
           refine q_do rfl fun _ hK=>wp_append hF hS h48 Try.underlying28 inf3 rfl rfl rfl rfl (h58.vw hS (j:=1) rfl) rfl (by decide) hl_59 rfl fun a w q60 s60 hF hS h60=>hK _ _ (q_x (v:=s60.v) hF hS (ex_assign rfl) rfl rfl fun a hF=>q_end (n_jn ?_))
           obtain rfl:=someI hj16
           exact ⟨q57,q60,s60,_,_,rfl,hF.sub ⟨rfl,rfl,rfl,rfl,rfl,rfl,rfl,rfl,trivial⟩,hS.sel [2,0,3,4,5,6] (by decide),h57,h60⟩
         ·rintro a w ⟨q62,q64,s64,from_61,queue_63,rfl,hF,hS,h62,h64⟩
          refine n_ib (n_sq ?_)
          refine q_region (q_x (v:=(iV k_49)) hF hS (ex_move rfl) rfl rfl fun a hF=>q_x (v:=(iV (w64 (k_49 + 1)))) hF hS (ex_ibin rfl rfl rfl) rfl rfl fun a hF=>q_x (v:=(iV (w64 (k_49 + 1)))) hF hS (ex_assign rfl) rfl rfl fun a hF=>q_end ?_)
          obtain rfl:=someI hb12
          exact ⟨rfl,q62,q64,s64,_,_,_,rfl,hF.sub ⟨rfl,rfl,rfl,rfl,rfl,rfl,rfl,rfl,trivial⟩,hS,h62,h64⟩
      ·rintro e a w ⟨q66,q68,s68,from_65,queue_67,rfl,rfl,hF,hS,h66,h68⟩
       refine x_ib (n_ib (n_sq ?_))
       refine q_region (q_x (v:=(iV at_39)) hF hS (ex_move rfl) rfl rfl fun a hF=>q_x (v:=(iV (w64 (at_39 + 1)))) hF hS (ex_ibin rfl rfl rfl) rfl rfl fun a hF=>q_x (v:=(iV (w64 (at_39 + 1)))) hF hS (ex_assign rfl) rfl rfl fun a hF=>q_end ?_)
       obtain rfl:=someI hb7
       exact ⟨rfl,q66,q68,s68,_,_,_,rfl,hF.sub ⟨rfl,rfl,rfl,rfl,rfl,rfl,trivial⟩,hS,h66,h68⟩
     ·have hb7:=cond_t hc11 hb7
      refine q_cond_t hF rfl hc11 (q_seq (q_region (q_x (v:=(.pointer (some ⟨b_p_f,0,none⟩))) hF hS (ex_move rfl) rfl rfl fun a hF=>q_x (v:=s9.v) hF hS (ex_move rfl) rfl rfl fun a hF=>q_x (v:=(iV e_40)) hF hS (ex_move rfl) rfl rfl fun a hF=>?_)))
      have hS : St _ _ _ _ [[⟨b_p_f,[s1.v,s2.v,s3.v,s4.v,s5.v,s6.v,s7.v],150⟩],q5,q6,q7,q36,q38]:=hS.sel [5,2,3,4,0,1] (by decide)
      have hS45 : St _ _ _ _ ([[⟨b_p_f,[s1.v,s2.v,s3.v,s4.v,s5.v,s6.v,s7.v],150⟩],q5,q6,q7]++[q36,q38]):=hS
      obtain ⟨m45,hl45,hE45,hz45⟩:=hS45.lendX
      obtain ⟨t_46,ht_46,hb7⟩:=bindS hb7
      refine q_do rfl fun _ hK=>wp_callX (vs:=[(.pointer (some ⟨b_p_f,0,none⟩)),s9.v,(iV e_40)]) hF Try.func206 (by kernel_rfl) rfl rfl rfl (c_spec_tFill_push p_f from_35 e_40 t_46 ht_46 _ m45 b_p_f s1 (h1.mono hl45) s2 (h2.mono hl45) s3 (h3.mono hl45) s4 (h4.mono hl45) s5 q5 (h5.mono hl45) s6 q6 (h6.mono hl45) s7 q7 (h7.mono hl45) s9 (h36.froz hl45 (hz45 0 _ rfl)) _ hE45) fun a w _ hR hF=>hK _ _ ?_
      obtain ⟨q51,q52,q53,s51,s52,s53,rfl,hR45,hk47,hk48,hk49,hk50,h51,h52,h53⟩:=hR
      have hS : St _ _ _ _ [[⟨b_p_f,[s1.v,s2.v,s3.v,s4.v,s51.v,s52.v,s53.v],150⟩],q51,q52,q53,q36,q38]:=hS45.leaveF hR45
      have h51:=h51.any m
      have h52:=h52.any m
      have h53:=h53.any m
      have h47 : Rd m s1 t_46.t.Rows:=by rw [hk47]; exact h1
      have h48 : Rd m s2 t_46.t.Cols:=by rw [hk48]; exact h2
      have h49 : Rd m s3 t_46.t.Lo:=by rw [hk49]; exact h3
      have h50 : Rd m s4 t_46.t.Hi:=by rw [hk50]; exact h4
      refine q_end (n_sq (q_seq (q_region (q_x (v:=(.bool true)) hF hS (ex_assign rfl) rfl rfl fun a hF=>q_end (n_sq (q_ret (r_sq (r_ib (r_sq ?_)))))))))
      obtain rfl:=someI hb7
      refine ⟨nofun,.inr fun ho=>?_⟩
      subst ho
      refine r_ib (r_sq ?_)
      obtain rfl:=someI hr
      exact ret_ofX hF hS rfl (.tmp rfl .nil) ⟨q51,q52,q53,s51,s52,s53,rfl,hS.sel [0,1,2,3] (by decide),hk47,hk48,hk49,hk50,h51,h52,h53⟩
  ·rintro e a w ⟨rfl,rfl,hF,hS⟩
   refine x_ib (n_sq ?_)
   refine q_seq (q_region (q_x (v:=(.bool false)) hF hS (ex_assign rfl) rfl rfl fun a hF=>q_end (n_sq (q_ret ?_))))
   obtain rfl:=someI hr
   exact ret_ofX hF hS rfl (.tmp rfl .nil) ⟨q5,q6,q7,s5,s6,s7,rfl,hS.sel [3,0,1,2] (by decide),rfl,rfl,rfl,rfl,h5,h6,h7⟩

end Go.Proofs.Ytpjcfmpfiadkgaa
