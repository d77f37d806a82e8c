/- The walks of the functions: each returns what its plain function says. -/
import Derived.Test.YtpjcfmpfiadkgaaRWalks1
namespace Go.Proofs.Ytpjcfmpfiadkgaa
open Go.Gx Go.Gx.F Go.RowKit
set_option linter.all false
set_option maxRecDepth 10000


set_option maxHeartbeats 1600000 in
theorem c_impl_roundingNetwork (p_x : List (List Int)) (p_base : Int) (r : impl_Transport) (hr : impl_roundingNetwork p_x p_base = some r) (w0 : World) (m : Mem) (hv : Vis m w0) (s1 : Sl) (h1 : Rd m s1 p_x) :
  Ret Try.prog 137 [s1.v,(iV p_base)] w0 (fun v w=>∃ (q0' : Piece) (q1' : Piece) (q2' : Piece) (q3' : Piece) (s0' : Sl) (s1' : Sl) (s2' : Sl) (s3' : Sl),v = (.agg #[s0'.v,s1'.v,s2'.v,s3'.v])∧St [] w0 w m [q0',q1',q2',q3']∧OwnL m 3 q0' s0' r.Rows∧OwnL m 3 q1' s1' r.Cols∧OwnD m 28 3 q2' s2' r.Lo∧OwnD m 28 3 q3' s3' r.Hi):=by
 unfold impl_roundingNetwork at hr
 refine ret_start Try.func137 rfl 203 rfl rfl m hv fun a hF hS=>q_sr (q_box (cs:=[(iV p_base)]) hF hS rfl rfl rfl fun a w b2 hF hS=>q_alloc (cs:=[nilS.v,nilS.v,nilS.v,nilS.v]) hF hS rfl rfl rfl fun a w b3 hF hS=>q_end (n_sq (q_sr (q_y (v:=(.func (.func 173) #[] #[(pP b2 0)])) hF hS (ex_makeFunc rfl) fun a hF=>q_s hF rfl fun a hF=>q_end (n_sq (q_sr (q_y (v:=(.func (.func 174) #[] #[(pP b2 0)])) hF hS (ex_makeFunc rfl) fun a hF=>q_s hF rfl fun a hF=>q_end (n_sq (q_seq (e_region ⟨[],[],m⟩ mixed fun w' hw'=>?_))))))))))
 have hS:=hS.below hw'
 refine e_P (v:=s1.v) 0 hF rfl (ex_move rfl) fun a hF=>e_P (v:=(iV (goLen p_x))) 1 hF rfl (ex_len U23 rfl h1.len) fun a hF=>e_P (v:=s1.v) 2 hF rfl (ex_move rfl) fun a hF=>?_
 obtain ⟨e_4,he_4,hr⟩:=bindS hr
 obtain ⟨vs5,at5,d5⟩:=h1.at he_4 1 rfl
 obtain ⟨s6,rfl,h6⟩ : ∃ s6 : Sl,vs5 = [s6.v]∧Rd m s6 e_4:=d5
 refine e_P (v:=(elP s1 ((0 : Int).toNat * 1))) 3 hF rfl (ex_indexAddr U23 sz28 rfl rfl (h1.idx he_4)) fun a hF=>e_xm (v:=s6.v) 4 hF hS (Mem.le.refl _) rfl (ex_loadE1 0 U28 rfl rfl ((at5).at) rfl rfl) rfl rfl (by kernel_rfl) (by kernel_rfl) (by kernel_rfl) fun a hF=>e_P (v:=(iV (goLen e_4))) 5 hF rfl (ex_len U28 rfl h6.len) fun a hF=>e_P (v:=(iV (goLen p_x))) 6 hF rfl (ex_assign rfl) fun a hF=>e_P (v:=(iV (goLen e_4))) 7 hF rfl (ex_assign rfl) fun a hF=>e_end (by kernel_rfl) (n_sq ?_) _
 refine q_seq ?_
 obtain ⟨t_53,hj1,hr⟩:=bindS hr
 refine q_join (fun a w=>∃ b40,∃ (q54 : Piece),∃ (s54 : Sl),∃ (q55 : Piece),∃ (s55 : Sl),∃ (q56 : Piece),∃ (s56 : Sl),∃ (q57 : Piece),∃ (s57 : Sl),Fr a 203 [(0,s1.v),(4,(pP b3 0)),(5,(.func (.func 173) #[] #[(pP b2 0)])),(6,(.func (.func 174) #[] #[(pP b2 0)])),(7,(iV (goLen p_x))),(8,(iV (goLen e_4))),(9,(pP b40 0))]∧St [] w0 w m [q54,q55,q56,q57,[⟨b40,[s54.v,s55.v,s56.v,s57.v],50⟩],[⟨b3,[nilS.v,nilS.v,nilS.v,nilS.v],50⟩],[⟨b2,[(iV p_base)],3⟩]]∧OwnL m 3 q54 s54 t_53.Rows∧OwnL m 3 q55 s55 t_53.Cols∧OwnD m 28 3 q56 s56 t_53.Lo∧OwnD m 28 3 q57 s57 t_53.Hi) ?_ ?_
 ·refine e_region ⟨[14],[],m⟩ mixed fun w' hw'=>?_
  have hS:=hS.below hw'
  refine e_P (v:=(iV (goLen p_x))) 0 hF rfl (ex_move rfl) fun a hF=>e_P (v:=(iV (w64 ((goLen p_x) + 1)))) 1 hF rfl (ex_ibin rfl rfl rfl) fun a hF=>e_P (v:=(iV (goLen e_4))) 3 hF rfl (ex_move rfl) fun a hF=>e_P (v:=(iV (w64 ((goLen e_4) + 1)))) 4 hF rfl (ex_ibin rfl rfl rfl) fun a hF=>e_P (v:=(iV (goLen p_x))) 6 hF rfl (ex_move rfl) fun a hF=>e_P (v:=(iV (w64 ((goLen p_x) + 1)))) 7 hF rfl (ex_ibin rfl rfl rfl) fun a hF=>e_P (v:=(iV (goLen p_x))) 9 hF rfl (ex_move rfl) fun a hF=>e_P (v:=(iV (w64 ((goLen p_x) + 1)))) 10 hF rfl (ex_ibin rfl rfl rfl) fun a hF=>?_
  obtain ⟨l_41,hl_41,hj1⟩:=bindS hj1
  obtain ⟨l_44,hl_44,hj1⟩:=bindS hj1
  obtain ⟨l_47,hl_47,hj1⟩:=bindS hj1
  obtain ⟨l_50,hl_50,hj1⟩:=bindS hj1
  refine e_batchA (f:=2) [9,32,35,38,41] [⟨2,32,fun v q=>∃ s : Sl,v = s.v∧OwnL m 3 q s l_41⟩,⟨5,35,fun v q=>∃ s : Sl,v = s.v∧OwnL m 3 q s l_44⟩,⟨8,38,fun v q=>∃ s : Sl,v = s.v∧OwnD m 28 3 q s l_47⟩,⟨11,41,fun v q=>∃ s : Sl,v = s.v∧OwnD m 28 3 q s l_50⟩] [2,5,8,11] ⟨13,9,fun v q=>∃ b,v = .pointer (some ⟨b,0,none⟩)∧q = [⟨b,[nilS.v,nilS.v,nilS.v,nilS.v],50⟩]⟩ rfl (BtsOkA.all ⟨.mk rfl rfl fun a w A O hF hA hS K' hK=>wp_make (z:=(0 : Int)) hF hS U28 inf3 rfl (evo_app hA rfl rfl) (evo_app hA rfl rfl) rfl rfl (by decide) hl_41 rfl fun a w q s hF hS h hb=>hK _ _ _ _ hF ⟨s,rfl,h⟩ hS hb,.mk rfl rfl fun a w A O hF hA hS K' hK=>wp_make (z:=(0 : Int)) hF hS U28 inf3 rfl (evo_app hA rfl rfl) (evo_app hA rfl rfl) rfl rfl (by decide) hl_44 rfl fun a w q s hF hS h hb=>hK _ _ _ _ hF ⟨s,rfl,h⟩ hS hb,.mk rfl rfl fun a w A O hF hA hS K' hK=>wp_makeD (Ei:=3) hF hS U23 inf28 rfl (evo_app hA rfl rfl) (evo_app hA rfl rfl) (by decide) hl_47 rfl fun a w q s hF hS h hb=>hK _ _ _ _ hF ⟨s,rfl,h⟩ hS hb,.mk rfl rfl fun a w A O hF hA hS K' hK=>wp_makeD (Ei:=3) hF hS U23 inf28 rfl (evo_app hA rfl rfl) (evo_app hA rfl rfl) (by decide) hl_50 rfl fun a w q s hF hS h hb=>hK _ _ _ _ hF ⟨s,rfl,h⟩ hS hb,trivial⟩) (.mk rfl rfl fun a w A O hF hA hS K' hK=>wp_alloc (cs:=[nilS.v,nilS.v,nilS.v,nilS.v]) hF hS rfl rfl rfl fun a w b hF hS hb=>hK _ _ _ _ hF ⟨b,rfl,rfl⟩ hS hb) rfl (by decide) (by decide) (by kernel_rfl) (by kernel_rfl) hF hS ?_ ?_
  ·rintro a w ⟨_,_,⟨b40,rfl,rfl⟩,V39,Q39,hB39,hF,hS⟩
   obtain ⟨s43,e43,h43⟩:=hB39 _ (.head _)
   obtain ⟨s46,e46,h46⟩:=hB39 _ (.tail _ (.head _))
   obtain ⟨s49,e49,h49⟩:=hB39 _ (.tail _ (.tail _ (.head _)))
   obtain ⟨s52,e52,h52⟩:=hB39 _ (.tail _ (.tail _ (.tail _ (.head _))))
   simp only [List.map_cons,List.map_nil,List.cons_append,List.nil_append] at hF
   rw [e43,e46,e49,e52] at hF
   refine e_P (v:=(.agg #[s43.v,s46.v,s49.v,s52.v])) 12 hF rfl (ex_build (cells:=[s43.v,s46.v,s49.v,s52.v]) rfl (by kernel_rfl)) fun a hF=>e_one 14 (by kernel_rfl) (e_store (vs:=[s43.v,s46.v,s49.v,s52.v]) (cs':=[s43.v,s46.v,s49.v,s52.v]) 4 0 hF hS rfl rfl sz50 rfl rfl rfl rfl rfl rfl rfl rfl fun a w hF hS=>⟨⟨kpN,fun _=>hS.vis.of_le (Mem.le.refl _)⟩,?_⟩)
   refine e_end (by kernel_rfl) (n_jn ?_) _
   obtain rfl:=someI hj1
   exact ⟨b40,(Q39 32),s43,(Q39 35),s46,(Q39 38),s49,(Q39 41),s52,hF.sub ⟨rfl,rfl,rfl,rfl,rfl,rfl,rfl,trivial⟩,hS,h43,h46,h49,h52⟩
  ·rintro a w ⟨V39,Q39,hB39,hF,hS⟩
   obtain ⟨s43,e43,h43⟩:=hB39 _ (.head _)
   obtain ⟨s46,e46,h46⟩:=hB39 _ (.tail _ (.head _))
   obtain ⟨s49,e49,h49⟩:=hB39 _ (.tail _ (.tail _ (.head _)))
   obtain ⟨s52,e52,h52⟩:=hB39 _ (.tail _ (.tail _ (.tail _ (.head _))))
   simp only [List.map_cons,List.map_nil,List.cons_append,List.nil_append] at hF
   rw [e43,e46,e49,e52] at hF
   refine e_P (v:=(.agg #[s43.v,s46.v,s49.v,s52.v])) 12 hF rfl (ex_build (cells:=[s43.v,s46.v,s49.v,s52.v]) rfl (by kernel_rfl)) fun a hF=>e_one 13 (by kernel_rfl) (e_alloc (cs:=[nilS.v,nilS.v,nilS.v,nilS.v]) hF hS rfl rfl rfl rfl fun a w b40 hF hS=>e_one 14 (by kernel_rfl) (e_store (vs:=[s43.v,s46.v,s49.v,s52.v]) (cs':=[s43.v,s46.v,s49.v,s52.v]) 0 0 hF hS rfl rfl sz50 rfl rfl rfl rfl rfl rfl rfl rfl fun a w hF hS=>⟨⟨kpN,fun _=>hS.vis.of_le (Mem.le.refl _)⟩,?_⟩))
   refine e_end (by kernel_rfl) (n_jn ?_) _
   obtain rfl:=someI hj1
   exact ⟨b40,(Q39 32),s43,(Q39 35),s46,(Q39 38),s49,(Q39 41),s52,hF.sub ⟨rfl,rfl,rfl,rfl,rfl,rfl,rfl,trivial⟩,hS.sel [1,2,3,4,0,5,6] (by decide),h43,h46,h49,h52⟩
 ·rintro a w ⟨b40,q54,s54,q55,s55,q56,s56,q57,s57,hF,hS,h54,h55,h56,h57⟩
  refine n_sq ?_
  refine q_seq (q_sr (q_y (v:=(pP b40 2)) hF hS (ex_fieldAddr U50 rfl sz23 rfl rfl) fun a hF=>q_y (v:=s56.v) hF hS (ex_load1 4 0 U23 rfl rfl rfl rfl) fun a hF=>q_y (v:=(iV (goLen t_53.Lo))) hF hS (ex_len U23 rfl h56.len) fun a hF=>q_m hF rfl fun a hF=>q_end (n_sq (q_block ?_))))
  obtain ⟨t_87,hl2,hr⟩:=bindS hr
  refine q_loop (fun (s : Int × impl_Transport) a w=>∃ (q62 : Piece),∃ (q63 : Piece),∃ t_58,∃ t_59,s = (t_58,t_59)∧Fr a 203 [(0,s1.v),(4,(pP b3 0)),(5,(.func (.func 173) #[] #[(pP b2 0)])),(6,(.func (.func 174) #[] #[(pP b2 0)])),(7,(iV (goLen p_x))),(8,(iV (goLen e_4))),(9,(pP b40 0)),(45,(iV (goLen t_53.Lo))),(46,(iV t_58))]∧St [] w0 w m [q62,q63,q54,q55,[⟨b40,[s54.v,s55.v,s56.v,s57.v],50⟩],[⟨b3,[nilS.v,nilS.v,nilS.v,nilS.v],50⟩],[⟨b2,[(iV p_base)],3⟩]]∧OwnL m 3 q54 s54 t_59.Rows∧t_59.Rows = t_53.Rows∧OwnL m 3 q55 s55 t_59.Cols∧t_59.Cols = t_53.Cols∧OwnD m 28 3 q62 s56 t_59.Lo∧OwnD m 28 3 q63 s57 t_59.Hi) (fun (t_87 : impl_Transport) e a w=>∃ (q90 : Piece),∃ (q91 : Piece),e = .exit 0∧Fr a 203 [(0,s1.v),(4,(pP b3 0)),(5,(.func (.func 173) #[] #[(pP b2 0)])),(6,(.func (.func 174) #[] #[(pP b2 0)])),(7,(iV (goLen p_x))),(8,(iV (goLen e_4))),(9,(pP b40 0))]∧St [] w0 w m [q54,q55,q90,q91,[⟨b40,[s54.v,s55.v,s56.v,s57.v],50⟩],[⟨b3,[nilS.v,nilS.v,nilS.v,nilS.v],50⟩],[⟨b2,[(iV p_base)],3⟩]]∧OwnL m 3 q54 s54 t_87.Rows∧t_87.Rows = t_53.Rows∧OwnL m 3 q55 s55 t_87.Cols∧t_87.Cols = t_53.Cols∧OwnD m 28 3 q90 s56 t_87.Lo∧OwnD m 28 3 q91 s57 t_87.Hi) hl2 ⟨q56,q57,_,_,rfl,hF.sub ⟨rfl,rfl,rfl,rfl,rfl,rfl,rfl,rfl,rfl,trivial⟩,hS.sel [2,3,0,1,4,5,6] (by decide),h54,rfl,h55,rfl,h56,h57⟩ ?_ ?_
  ·clear hF hS
   rintro s a w st ⟨q62,q63,t_58,t_59,rfl,hF,hS,h60,h60k,h61,h61k,h62,h63⟩ hb2
   unfold impl_roundingNetwork_l1 at hb2
   refine q_sr (q_y (v:=(.bool (decide (t_58 < (goLen t_53.Lo))))) hF hS (ex_ibin rfl rfl rfl) fun a hF=>q_end (n_sq (q_seq ?_)))
   rcases bcase (decide (t_58 < (goLen t_53.Lo))) with hc3 | hc3
   ·have hb2:=cond_f hc3 hb2
    refine q_cond_f hF rfl hc3 (q_exit (x_sq ?_))
    obtain rfl:=someI hb2
    exact ⟨nofun,.inl ⟨q62,q63,rfl,hF.sub ⟨rfl,rfl,rfl,rfl,rfl,rfl,rfl,trivial⟩,hS.sel [2,3,0,1,4,5,6] (by decide),h60,h60k,h61,h61k,h62,h63⟩⟩
   ·have hb2:=cond_t hc3 hb2
    refine q_cond_t hF rfl hc3 (q_skipc (n_sq (q_seq (q_block (q_sr (q_m hF rfl fun a hF=>q_s hF rfl fun a hF=>q_end (n_sq ?_)))))))
    obtain ⟨t_82,hj4,hb2⟩:=bindS hb2
    refine q_join (fun a w=>∃ (q85 : Piece),∃ (q86 : Piece),Fr a 203 [(0,s1.v),(4,(pP b3 0)),(5,(.func (.func 173) #[] #[(pP b2 0)])),(6,(.func (.func 174) #[] #[(pP b2 0)])),(7,(iV (goLen p_x))),(8,(iV (goLen e_4))),(9,(pP b40 0)),(45,(iV (goLen t_53.Lo))),(46,(iV t_58))]∧St [] w0 w m [q54,q55,q85,q86,[⟨b40,[s54.v,s55.v,s56.v,s57.v],50⟩],[⟨b3,[nilS.v,nilS.v,nilS.v,nilS.v],50⟩],[⟨b2,[(iV p_base)],3⟩]]∧OwnL m 3 q54 s54 t_82.Rows∧t_82.Rows = t_53.Rows∧OwnL m 3 q55 s55 t_82.Cols∧t_82.Cols = t_53.Cols∧OwnD m 28 3 q85 s56 t_82.Lo∧OwnD m 28 3 q86 s57 t_82.Hi) ?_ ?_
    ·refine e_region ⟨[13,15],[b40],m⟩ mixed fun w' hw'=>?_
     have hS:=hS.below hw'
     refine e_P (v:=(pP b40 2)) 0 hF rfl (ex_fieldAddr U50 rfl sz23 rfl rfl) fun a hF=>e_xb (v:=s56.v) 1 4 hF hS (.head _) rfl rfl (ex_load1 0 0 U23 rfl rfl rfl rfl) rfl rfl (by kernel_rfl) (by kernel_rfl) (by kernel_rfl) fun a hF=>e_P (v:=(iV t_58)) 2 hF rfl (ex_move rfl) fun a hF=>e_P (v:=(pP b40 3)) 3 hF rfl (ex_fieldAddr U50 rfl sz23 rfl rfl) fun a hF=>e_xb (v:=s57.v) 4 4 hF hS (.head _) rfl rfl (ex_load1 0 0 U23 rfl rfl rfl rfl) rfl rfl (by kernel_rfl) (by kernel_rfl) (by kernel_rfl) fun a hF=>e_P (v:=(iV t_58)) 5 hF rfl (ex_move rfl) fun a hF=>e_P (v:=(iV (goLen e_4))) 6 hF rfl (ex_move rfl) fun a hF=>e_P (v:=(iV (w64 ((goLen e_4) + 1)))) 7 hF rfl (ex_ibin rfl rfl rfl) fun a hF=>e_P (v:=(iV (goLen e_4))) 9 hF rfl (ex_move rfl) fun a hF=>e_P (v:=(iV (w64 ((goLen e_4) + 1)))) 10 hF rfl (ex_ibin rfl rfl rfl) fun a hF=>?_
     obtain ⟨l_72,hl_72,hj4⟩:=bindS hj4
     obtain ⟨l_74,hl_74,hj4⟩:=bindS hj4
     obtain ⟨e_76,he_76,hj4⟩:=bindS hj4
     obtain ⟨e_79,he_79,hj4⟩:=bindS hj4
     refine e_all [8,11] (by kernel_rfl) rfl ⟨?_,?_,trivial⟩
     ·refine e_op rfl rfl fun _ hK=>wp_make (z:=(0 : Int)) hF hS U28 inf3 rfl rfl rfl rfl rfl (by decide) hl_72 rfl fun a w q73 s73 hF hS h73 hb=>hK _ _ hb ?_
      obtain ⟨s77,hV77⟩:=h62.view he_76
      refine e_P (v:=(elP s56 (t_58.toNat * 1))) 12 hF rfl (ex_indexAddr U23 sz28 rfl rfl (h62.idx he_76)) fun a hF=>e_all [11,13] (by kernel_rfl) rfl ⟨?_,?_,trivial⟩
      ·refine e_op rfl rfl fun _ hK=>wp_make (z:=(0 : Int)) hF hS U28 inf3 rfl rfl rfl rfl rfl (by decide) hl_74 rfl fun a w q75 s75 hF hS h75 hb=>hK _ _ hb (e_one 13 (by kernel_rfl) ?_)
       have hS : St _ _ _ _ [q62,q75,q73,q63,q54,q55,[⟨b40,[s54.v,s55.v,s56.v,s57.v],50⟩],[⟨b3,[nilS.v,nilS.v,nilS.v,nilS.v],50⟩],[⟨b2,[(iV p_base)],3⟩]]:=hS.sel [2,0,1,3,4,5,6,7,8] (by decide)
       have hS : St _ _ _ _ [q62,q73,q75,q63,q54,q55,[⟨b40,[s54.v,s55.v,s56.v,s57.v],50⟩],[⟨b3,[nilS.v,nilS.v,nilS.v,nilS.v],50⟩],[⟨b2,[(iV p_base)],3⟩]]:=hS.sel [0,2,1,3,4,5,6,7,8] (by decide)
       have hSo:=hS
       refine e_opl rfl rfl rfl fun _ hK=>wp_storeD hF hS h62 h73 sz28 rfl rfl he_76 rfl fun w q78 hS h78=>hK _ _ (⟨⟨kpC hSo hS 6 5 rfl rfl kpN,fun _=>hS.vis.of_le (Mem.le.refl _)⟩,?_⟩)
       obtain ⟨s80,hV80⟩:=h63.view he_79
       refine e_P (v:=(elP s57 (t_58.toNat * 1))) 14 hF rfl (ex_indexAddr U23 sz28 rfl rfl (h63.idx he_79)) fun a hF=>e_one 15 (by kernel_rfl) ?_
       have hS : St _ _ _ _ [q63,q78,q75,q54,q55,[⟨b40,[s54.v,s55.v,s56.v,s57.v],50⟩],[⟨b3,[nilS.v,nilS.v,nilS.v,nilS.v],50⟩],[⟨b2,[(iV p_base)],3⟩]]:=hS.sel [2,0,1,3,4,5,6,7] (by decide)
       have hS : St _ _ _ _ [q63,q75,q78,q54,q55,[⟨b40,[s54.v,s55.v,s56.v,s57.v],50⟩],[⟨b3,[nilS.v,nilS.v,nilS.v,nilS.v],50⟩],[⟨b2,[(iV p_base)],3⟩]]:=hS.sel [0,2,1,3,4,5,6,7] (by decide)
       have hSo:=hS
       refine e_opl rfl rfl rfl fun _ hK=>wp_storeD hF hS h63 h75 sz28 rfl rfl he_79 rfl fun w q81 hS h81=>hK _ _ (⟨⟨kpC hSo hS 5 4 rfl rfl kpN,fun _=>hS.vis.of_le (Mem.le.refl _)⟩,?_⟩)
       refine e_end (by kernel_rfl) (n_jn ?_) _
       obtain rfl:=someI hj4
       exact ⟨q78,q81,hF.sub ⟨rfl,rfl,rfl,rfl,rfl,rfl,rfl,rfl,rfl,trivial⟩,hS.sel [2,3,1,0,4,5,6] (by decide),h60,h60k,h61,h61k,h78,h81⟩
      ·have hS : St _ _ _ _ [q62,q73,q63,q54,q55,[⟨b40,[s54.v,s55.v,s56.v,s57.v],50⟩],[⟨b3,[nilS.v,nilS.v,nilS.v,nilS.v],50⟩],[⟨b2,[(iV p_base)],3⟩]]:=hS.sel [1,0,2,3,4,5,6,7] (by decide)
       have hSo:=hS
       refine e_opl rfl rfl rfl fun _ hK=>wp_storeD hF hS h62 h73 sz28 rfl rfl he_76 rfl fun w q78 hS h78=>hK _ _ (⟨⟨kpC hSo hS 5 4 rfl rfl kpN,fun _=>hS.vis.of_le (Mem.le.refl _)⟩,?_⟩)
       refine e_one 11 (by kernel_rfl) (e_op rfl rfl fun _ hK=>wp_make (z:=(0 : Int)) hF hS U28 inf3 rfl rfl rfl rfl rfl (by decide) hl_74 rfl fun a w q75 s75 hF hS h75 hb=>hK _ _ hb ?_)
       obtain ⟨s80,hV80⟩:=h63.view he_79
       refine e_P (v:=(elP s57 (t_58.toNat * 1))) 14 hF rfl (ex_indexAddr U23 sz28 rfl rfl (h63.idx he_79)) fun a hF=>e_one 15 (by kernel_rfl) ?_
       have hS : St _ _ _ _ [q63,q75,q78,q54,q55,[⟨b40,[s54.v,s55.v,s56.v,s57.v],50⟩],[⟨b3,[nilS.v,nilS.v,nilS.v,nilS.v],50⟩],[⟨b2,[(iV p_base)],3⟩]]:=hS.sel [2,0,1,3,4,5,6,7] (by decide)
       have hSo:=hS
       refine e_opl rfl rfl rfl fun _ hK=>wp_storeD hF hS h63 h75 sz28 rfl rfl he_79 rfl fun w q81 hS h81=>hK _ _ (⟨⟨kpC hSo hS 5 4 rfl rfl kpN,fun _=>hS.vis.of_le (Mem.le.refl _)⟩,?_⟩)
       refine e_end (by kernel_rfl) (n_jn ?_) _
       obtain rfl:=someI hj4
       exact ⟨q78,q81,hF.sub ⟨rfl,rfl,rfl,rfl,rfl,rfl,rfl,rfl,rfl,trivial⟩,hS.sel [2,3,1,0,4,5,6] (by decide),h60,h60k,h61,h61k,h78,h81⟩
     ·refine e_op rfl rfl fun _ hK=>wp_make (z:=(0 : Int)) hF hS U28 inf3 rfl rfl rfl rfl rfl (by decide) hl_74 rfl fun a w q75 s75 hF hS h75 hb=>hK _ _ hb (e_one 8 (by kernel_rfl) (e_op rfl rfl fun _ hK=>wp_make (z:=(0 : Int)) hF hS U28 inf3 rfl rfl rfl rfl rfl (by decide) hl_72 rfl fun a w q73 s73 hF hS h73 hb=>hK _ _ hb ?_))
      obtain ⟨s77,hV77⟩:=h62.view he_76
      refine e_P (v:=(elP s56 (t_58.toNat * 1))) 12 hF rfl (ex_indexAddr U23 sz28 rfl rfl (h62.idx he_76)) fun a hF=>e_one 13 (by kernel_rfl) ?_
      have hS : St _ _ _ _ [q62,q73,q75,q63,q54,q55,[⟨b40,[s54.v,s55.v,s56.v,s57.v],50⟩],[⟨b3,[nilS.v,nilS.v,nilS.v,nilS.v],50⟩],[⟨b2,[(iV p_base)],3⟩]]:=hS.sel [2,0,1,3,4,5,6,7,8] (by decide)
      have hSo:=hS
      refine e_opl rfl rfl rfl fun _ hK=>wp_storeD hF hS h62 h73 sz28 rfl rfl he_76 rfl fun w q78 hS h78=>hK _ _ (⟨⟨kpC hSo hS 6 5 rfl rfl kpN,fun _=>hS.vis.of_le (Mem.le.refl _)⟩,?_⟩)
      obtain ⟨s80,hV80⟩:=h63.view he_79
      refine e_P (v:=(elP s57 (t_58.toNat * 1))) 14 hF rfl (ex_indexAddr U23 sz28 rfl rfl (h63.idx he_79)) fun a hF=>e_one 15 (by kernel_rfl) ?_
      have hS : St _ _ _ _ [q63,q78,q75,q54,q55,[⟨b40,[s54.v,s55.v,s56.v,s57.v],50⟩],[⟨b3,[nilS.v,nilS.v,nilS.v,nilS.v],50⟩],[⟨b2,[(iV p_base)],3⟩]]:=hS.sel [2,0,1,3,4,5,6,7] (by decide)
      have hS : St _ _ _ _ [q63,q75,q78,q54,q55,[⟨b40,[s54.v,s55.v,s56.v,s57.v],50⟩],[⟨b3,[nilS.v,nilS.v,nilS.v,nilS.v],50⟩],[⟨b2,[(iV p_base)],3⟩]]:=hS.sel [0,2,1,3,4,5,6,7] (by decide)
      have hSo:=hS
      refine e_opl rfl rfl rfl fun _ hK=>wp_storeD hF hS h63 h75 sz28 rfl rfl he_79 rfl fun w q81 hS h81=>hK _ _ (⟨⟨kpC hSo hS 5 4 rfl rfl kpN,fun _=>hS.vis.of_le (Mem.le.refl _)⟩,?_⟩)
      refine e_end (by kernel_rfl) (n_jn ?_) _
      obtain rfl:=someI hj4
      exact ⟨q78,q81,hF.sub ⟨rfl,rfl,rfl,rfl,rfl,rfl,rfl,rfl,rfl,trivial⟩,hS.sel [2,3,1,0,4,5,6] (by decide),h60,h60k,h61,h61k,h78,h81⟩
    ·rintro a w ⟨q85,q86,hF,hS,h83,h83k,h84,h84k,h85,h86⟩
     refine n_ib (n_sq ?_)
     refine q_region (q_y (v:=(iV (w64 (t_58 + 1)))) hF hS (ex_ibin rfl rfl rfl) fun a hF=>q_m hF rfl fun a hF=>q_end ?_)
     obtain rfl:=someI hb2
     exact ⟨rfl,q85,q86,_,_,rfl,hF.sub ⟨rfl,rfl,rfl,rfl,rfl,rfl,rfl,rfl,rfl,trivial⟩,hS.sel [2,3,0,1,4,5,6] (by decide),h83,h83k,h84,h84k,h85,h86⟩
  ·rintro e a w ⟨q90,q91,rfl,hF,hS,h88,h88k,h89,h89k,h90,h91⟩
   refine x_ib (n_sq ?_)
   refine q_seq (q_sr (q_m hF rfl fun a hF=>q_y (v:=(iV (goLen p_x))) hF hS (ex_len U23 rfl h1.len) fun a hF=>q_m hF rfl fun a hF=>q_end (n_sq (q_block ?_))))
   obtain ⟨t_139,hl5,hr⟩:=bindS hr
   refine q_loop (fun (s : Int × impl_Transport) a w=>∃ (q96 : Piece),∃ (q97 : Piece),∃ t_92,∃ t_93,s = (t_92,t_93)∧Fr a 203 [(0,s1.v),(4,(pP b3 0)),(5,(.func (.func 173) #[] #[(pP b2 0)])),(6,(.func (.func 174) #[] #[(pP b2 0)])),(7,(iV (goLen p_x))),(8,(iV (goLen e_4))),(9,(pP b40 0)),(64,s1.v),(65,(iV (goLen p_x))),(66,(iV t_92))]∧St [] w0 w m [q96,q97,q54,q55,[⟨b40,[s54.v,s55.v,s56.v,s57.v],50⟩],[⟨b3,[nilS.v,nilS.v,nilS.v,nilS.v],50⟩],[⟨b2,[(iV p_base)],3⟩]]∧OwnL m 3 q54 s54 t_93.Rows∧t_93.Rows = t_53.Rows∧OwnL m 3 q55 s55 t_93.Cols∧t_93.Cols = t_53.Cols∧OwnD m 28 3 q96 s56 t_93.Lo∧OwnD m 28 3 q97 s57 t_93.Hi) (fun (t_139 : impl_Transport) e a w=>∃ (q142 : Piece),∃ (q143 : Piece),e = .exit 2∧Fr a 203 [(0,s1.v),(4,(pP b3 0)),(5,(.func (.func 173) #[] #[(pP b2 0)])),(6,(.func (.func 174) #[] #[(pP b2 0)])),(7,(iV (goLen p_x))),(8,(iV (goLen e_4))),(9,(pP b40 0))]∧St [] w0 w m [q54,q55,q142,q143,[⟨b40,[s54.v,s55.v,s56.v,s57.v],50⟩],[⟨b3,[nilS.v,nilS.v,nilS.v,nilS.v],50⟩],[⟨b2,[(iV p_base)],3⟩]]∧OwnL m 3 q54 s54 t_139.Rows∧t_139.Rows = t_53.Rows∧OwnL m 3 q55 s55 t_139.Cols∧t_139.Cols = t_53.Cols∧OwnD m 28 3 q142 s56 t_139.Lo∧OwnD m 28 3 q143 s57 t_139.Hi) hl5 ⟨q90,q91,_,_,rfl,hF.sub ⟨rfl,rfl,rfl,rfl,rfl,rfl,rfl,rfl,rfl,rfl,trivial⟩,hS.sel [2,3,0,1,4,5,6] (by decide),h88,h88k,h89,h89k,h90,h91⟩ ?_ ?_
   ·clear hF hS
    rintro s a w st ⟨q96,q97,t_92,t_93,rfl,hF,hS,h94,h94k,h95,h95k,h96,h97⟩ hb5
    unfold impl_roundingNetwork_l2 at hb5
    refine q_sr (q_y (v:=(.bool (decide (t_92 < (goLen p_x))))) hF hS (ex_ibin rfl rfl rfl) fun a hF=>q_end (n_sq (q_seq ?_)))
    rcases bcase (decide (t_92 < (goLen p_x))) with hc6 | hc6
    ·have hb5:=cond_f hc6 hb5
     refine q_cond_f hF rfl hc6 (q_exit (x_sq ?_))
     obtain rfl:=someI hb5
     exact ⟨nofun,.inl ⟨q96,q97,rfl,hF.sub ⟨rfl,rfl,rfl,rfl,rfl,rfl,rfl,trivial⟩,hS.sel [2,3,0,1,4,5,6] (by decide),h94,h94k,h95,h95k,h96,h97⟩⟩
    ·have hb5:=cond_t hc6 hb5
     refine q_cond_t hF rfl hc6 (q_skipc (n_sq (q_seq (q_block (q_sr (q_m hF rfl fun a hF=>?_))))))
     obtain ⟨e_98,he_98,hb5⟩:=bindS hb5
     obtain ⟨vs99,at99,d99⟩:=h1.at he_98 1 rfl
     obtain ⟨s100,rfl,h100⟩ : ∃ s100 : Sl,vs99 = [s100.v]∧Rd m s100 e_98:=d99
     refine q_y (v:=(elP s1 (t_92.toNat * 1))) hF hS (ex_indexAddr U23 sz28 rfl rfl (h1.idx he_98)) fun a hF=>q_y (v:=s100.v) hF hS (ex_loadE1 0 U28 rfl rfl ((at99).at) rfl rfl) fun a hF=>q_s hF rfl fun a hF=>q_s hF rfl fun a hF=>q_end (n_sq (q_sr (q_m hF rfl fun a hF=>q_y (v:=(iV (goLen e_98))) hF hS (ex_len U28 rfl h100.len) fun a hF=>q_m hF rfl fun a hF=>q_end (n_sq (q_block ?_)))))
     obtain ⟨t_134,hl7,hb5⟩:=bindS hb5
     refine q_loop (fun (s : Int × impl_Transport) a w=>∃ (q105 : Piece),∃ (q106 : Piece),∃ t_101,∃ t_102,s = (t_101,t_102)∧Fr a 203 [(0,s1.v),(4,(pP b3 0)),(5,(.func (.func 173) #[] #[(pP b2 0)])),(6,(.func (.func 174) #[] #[(pP b2 0)])),(7,(iV (goLen p_x))),(8,(iV (goLen e_4))),(9,(pP b40 0)),(11,(iV t_92)),(64,s1.v),(65,(iV (goLen p_x))),(66,(iV t_92)),(71,s100.v),(72,(iV (goLen e_98))),(73,(iV t_101))]∧St [] w0 w m [q105,q106,q54,q55,[⟨b40,[s54.v,s55.v,s56.v,s57.v],50⟩],[⟨b3,[nilS.v,nilS.v,nilS.v,nilS.v],50⟩],[⟨b2,[(iV p_base)],3⟩]]∧OwnL m 3 q54 s54 t_102.Rows∧t_102.Rows = t_53.Rows∧OwnL m 3 q55 s55 t_102.Cols∧t_102.Cols = t_53.Cols∧OwnD m 28 3 q105 s56 t_102.Lo∧OwnD m 28 3 q106 s57 t_102.Hi) (fun (t_134 : impl_Transport) e a w=>∃ (q137 : Piece),∃ (q138 : Piece),e = .exit 4∧Fr a 203 [(0,s1.v),(4,(pP b3 0)),(5,(.func (.func 173) #[] #[(pP b2 0)])),(6,(.func (.func 174) #[] #[(pP b2 0)])),(7,(iV (goLen p_x))),(8,(iV (goLen e_4))),(9,(pP b40 0)),(64,s1.v),(65,(iV (goLen p_x))),(66,(iV t_92))]∧St [] w0 w m [q54,q55,q137,q138,[⟨b40,[s54.v,s55.v,s56.v,s57.v],50⟩],[⟨b3,[nilS.v,nilS.v,nilS.v,nilS.v],50⟩],[⟨b2,[(iV p_base)],3⟩]]∧OwnL m 3 q54 s54 t_134.Rows∧t_134.Rows = t_53.Rows∧OwnL m 3 q55 s55 t_134.Cols∧t_134.Cols = t_53.Cols∧OwnD m 28 3 q137 s56 t_134.Lo∧OwnD m 28 3 q138 s57 t_134.Hi) hl7 ⟨q96,q97,_,_,rfl,hF.sub ⟨rfl,rfl,rfl,rfl,rfl,rfl,rfl,rfl,rfl,rfl,rfl,rfl,rfl,rfl,trivial⟩,hS,h94,h94k,h95,h95k,h96,h97⟩ ?_ ?_
     ·clear hF hS
      rintro s a w st ⟨q105,q106,t_101,t_102,rfl,hF,hS,h103,h103k,h104,h104k,h105,h106⟩ hb7
      unfold impl_roundingNetwork_l3 at hb7
      refine q_sr (q_y (v:=(.bool (decide (t_101 < (goLen e_98))))) hF hS (ex_ibin rfl rfl rfl) fun a hF=>q_end (n_sq (q_seq ?_)))
      rcases bcase (decide (t_101 < (goLen e_98))) with hc8 | hc8
      ·have hb7:=cond_f hc8 hb7
       refine q_cond_f hF rfl hc8 (q_exit (x_sq ?_))
       obtain rfl:=someI hb7
       exact ⟨nofun,.inl ⟨q105,q106,rfl,hF.sub ⟨rfl,rfl,rfl,rfl,rfl,rfl,rfl,rfl,rfl,rfl,trivial⟩,hS.sel [2,3,0,1,4,5,6] (by decide),h103,h103k,h104,h104k,h105,h106⟩⟩
      ·have hb7:=cond_t hc8 hb7
       refine q_cond_t hF rfl hc8 (q_skipc (n_sq (q_seq ?_)))
       obtain ⟨t_129,hj9,hb7⟩:=bindS hb7
       refine q_join (fun a w=>∃ (q132 : Piece),∃ (q133 : Piece),Fr a 203 [(0,s1.v),(4,(pP b3 0)),(5,(.func (.func 173) #[] #[(pP b2 0)])),(6,(.func (.func 174) #[] #[(pP b2 0)])),(7,(iV (goLen p_x))),(8,(iV (goLen e_4))),(9,(pP b40 0)),(11,(iV t_92)),(64,s1.v),(65,(iV (goLen p_x))),(66,(iV t_92)),(71,s100.v),(72,(iV (goLen e_98))),(73,(iV t_101))]∧St [] w0 w m [q54,q55,q132,q133,[⟨b2,[(iV p_base)],3⟩],[⟨b40,[s54.v,s55.v,s56.v,s57.v],50⟩],[⟨b3,[nilS.v,nilS.v,nilS.v,nilS.v],50⟩]]∧OwnL m 3 q54 s54 t_129.Rows∧t_129.Rows = t_53.Rows∧OwnL m 3 q55 s55 t_129.Cols∧t_129.Cols = t_53.Cols∧OwnD m 28 3 q132 s56 t_129.Lo∧OwnD m 28 3 q133 s57 t_129.Hi) ?_ ?_
       ·refine q_block (q_sr (q_m hF rfl fun a hF=>?_))
        obtain ⟨e_107,he_107,hj9⟩:=bindS hj9
        obtain ⟨vs108,at108,d108⟩:=h100.at he_107 1 rfl
        obtain rfl : vs108 = [(iV e_107)]:=d108
        refine q_y (v:=(elP s100 (t_101.toNat * 1))) hF hS (ex_indexAddr U28 sz3 rfl rfl (h100.idx he_107)) fun a hF=>q_y (v:=(iV e_107)) hF hS (ex_loadE1 0 U3 rfl rfl ((at108).at) rfl rfl) fun a hF=>q_s hF rfl fun a hF=>q_s hF rfl fun a hF=>q_end (n_sq (e_region ⟨[14,17,19,21],[b40],m⟩ mixed fun w' hw'=>?_))
        have hS:=hS.below hw'
        refine e_P (v:=(pP b40 2)) 0 hF rfl (ex_fieldAddr U50 rfl sz23 rfl rfl) fun a hF=>e_xb (v:=s56.v) 1 4 hF hS (.head _) rfl rfl (ex_load1 0 0 U23 rfl rfl rfl rfl) rfl rfl (by kernel_rfl) (by kernel_rfl) (by kernel_rfl) fun a hF=>e_P (v:=(iV t_92)) 2 hF rfl (ex_move rfl) fun a hF=>?_
        obtain ⟨e_109,he_109,hj9⟩:=bindS hj9
        obtain ⟨s110,hV110⟩:=h105.view he_109
        refine e_P (v:=(elP s56 (t_92.toNat * 1))) 3 hF rfl (ex_indexAddr U23 sz28 rfl rfl (h105.idx he_109)) fun a hF=>e_P (v:=(iV t_101)) 5 hF rfl (ex_move rfl) fun a hF=>e_P (v:=(pP b40 3)) 6 hF rfl (ex_fieldAddr U50 rfl sz23 rfl rfl) fun a hF=>e_xb (v:=s57.v) 7 4 hF hS (.head _) rfl rfl (ex_load1 0 0 U23 rfl rfl rfl rfl) rfl rfl (by kernel_rfl) (by kernel_rfl) (by kernel_rfl) fun a hF=>e_P (v:=(iV t_92)) 8 hF rfl (ex_move rfl) fun a hF=>?_
        obtain ⟨e_111,he_111,hj9⟩:=bindS hj9
        obtain ⟨s112,hV112⟩:=h106.view he_111
        refine e_P (v:=(elP s57 (t_92.toNat * 1))) 9 hF rfl (ex_indexAddr U23 sz28 rfl rfl (h106.idx he_111)) fun a hF=>e_P (v:=(iV t_101)) 11 hF rfl (ex_move rfl) fun a hF=>e_P (v:=(.func (.func 173) #[] #[(pP b2 0)])) 12 hF rfl (ex_move rfl) fun a hF=>e_P (v:=(iV e_107)) 13 hF rfl (ex_move rfl) fun a hF=>e_P (v:=(.func (.func 174) #[] #[(pP b2 0)])) 15 hF rfl (ex_move rfl) fun a hF=>e_P (v:=(iV e_107)) 16 hF rfl (ex_move rfl) fun a hF=>?_
        obtain ⟨t_120,ht_120,hj9⟩:=bindS hj9
        obtain ⟨t_122,ht_122,hj9⟩:=bindS hj9
        obtain ⟨e_123,he_123,hj9⟩:=bindS hj9
        obtain ⟨e_126,he_126,hj9⟩:=bindS hj9
        refine e_all [4,10,14] (by kernel_rfl) rfl ⟨?_,?_,?_,trivial⟩
        ·refine e_lx (v:=s110.v) hF hS rfl (ex_loadE1 0 U28 rfl rfl ((hV110.atH he_109).at 0 rfl) rfl rfl) rfl rfl fun a hF=>e_all [10,14] (by kernel_rfl) rfl ⟨?_,?_,trivial⟩
         ·refine e_lx (v:=s112.v) hF hS rfl (ex_loadE1 0 U28 rfl rfl ((hV112.atH he_111).at 1 rfl) rfl rfl) rfl rfl fun a hF=>e_one 14 (by kernel_rfl) ?_
          have hS : St _ _ _ _ [[⟨b2,[(iV p_base)],3⟩],q105,q106,q54,q55,[⟨b40,[s54.v,s55.v,s56.v,s57.v],50⟩],[⟨b3,[nilS.v,nilS.v,nilS.v,nilS.v],50⟩]]:=hS.sel [6,0,1,2,3,4,5] (by decide)
          have hS119 : St _ _ _ _ ([[⟨b2,[(iV p_base)],3⟩]]++[q105,q106,q54,q55,[⟨b40,[s54.v,s55.v,s56.v,s57.v],50⟩],[⟨b3,[nilS.v,nilS.v,nilS.v,nilS.v],50⟩]]):=hS
          have hE119:=hS119.enter
          have hSo:=hS
          refine e_opl rfl rfl rfl fun _ hK=>wp_callV (vs:=[(iV e_107)]) (cap:=[(pP b2 0)]) hF rfl Try.func173 (by kernel_rfl) rfl rfl rfl (c_impl_roundingNetwork_1 e_107 p_base t_120 ht_120 _ m b2 _ hE119) fun a w _ hR hF=>hK _ _ ?_
          obtain ⟨rfl,hR119⟩:=hR
          have hS : St _ _ _ _ [[⟨b2,[(iV p_base)],3⟩],q105,q106,q54,q55,[⟨b40,[s54.v,s55.v,s56.v,s57.v],50⟩],[⟨b3,[nilS.v,nilS.v,nilS.v,nilS.v],50⟩]]:=hS119.leaveF hR119
          refine ⟨⟨kpC hSo hS 5 5 rfl rfl kpN,fun _=>hS.vis.of_le (Mem.le.refl _)⟩,?_⟩
          refine e_one 17 (by kernel_rfl) ?_
          have hS121 : St _ _ _ _ ([[⟨b2,[(iV p_base)],3⟩]]++[q105,q106,q54,q55,[⟨b40,[s54.v,s55.v,s56.v,s57.v],50⟩],[⟨b3,[nilS.v,nilS.v,nilS.v,nilS.v],50⟩]]):=hS
          have hE121:=hS121.enter
          have hSo:=hS
          refine e_opl rfl rfl rfl fun _ hK=>wp_callV (vs:=[(iV e_107)]) (cap:=[(pP b2 0)]) hF rfl Try.func174 (by kernel_rfl) rfl rfl rfl (c_impl_roundingNetwork_2 e_107 p_base t_122 ht_122 _ m b2 _ hE121) fun a w _ hR hF=>hK _ _ ?_
          obtain ⟨rfl,hR121⟩:=hR
          have hS : St _ _ _ _ [[⟨b2,[(iV p_base)],3⟩],q105,q106,q54,q55,[⟨b40,[s54.v,s55.v,s56.v,s57.v],50⟩],[⟨b3,[nilS.v,nilS.v,nilS.v,nilS.v],50⟩]]:=hS121.leaveF hR121
          refine ⟨⟨kpC hSo hS 5 5 rfl rfl kpN,fun _=>hS.vis.of_le (Mem.le.refl _)⟩,?_⟩
          obtain ⟨vs124,at124,d124⟩:=hV110.at he_109 he_123 1 rfl
          obtain rfl : vs124 = [(iV e_123)]:=d124
          refine e_P (v:=(elP s110 (t_101.toNat * 1))) 18 hF rfl (ex_indexAddr U28 sz3 rfl rfl (hV110.idx he_109 he_123)) fun a hF=>e_one 19 (by kernel_rfl) ?_
          have hS : St _ _ _ _ [q105,[⟨b2,[(iV p_base)],3⟩],q106,q54,q55,[⟨b40,[s54.v,s55.v,s56.v,s57.v],50⟩],[⟨b3,[nilS.v,nilS.v,nilS.v,nilS.v],50⟩]]:=hS.sel [1,0,2,3,4,5,6] (by decide)
          have hSo:=hS
          refine e_opl rfl rfl rfl fun _ hK=>wp_storeV (e':=t_120) (us:=[(iV t_120)]) (vs:=[(iV e_123)]) 0 hF hS hV110 he_109 sz3 rfl rfl rfl rfl rfl rfl rfl he_123 at124 rfl rfl rfl fun w q125 hS h125=>hK _ _ (⟨⟨kpC hSo hS 5 5 rfl rfl kpN,fun _=>hS.vis.of_le (Mem.le.refl _)⟩,?_⟩)
          obtain ⟨vs127,at127,d127⟩:=hV112.at he_111 he_126 1 rfl
          obtain rfl : vs127 = [(iV e_126)]:=d127
          refine e_P (v:=(elP s112 (t_101.toNat * 1))) 20 hF rfl (ex_indexAddr U28 sz3 rfl rfl (hV112.idx he_111 he_126)) fun a hF=>e_one 21 (by kernel_rfl) ?_
          have hS : St _ _ _ _ [q106,q125,[⟨b2,[(iV p_base)],3⟩],q54,q55,[⟨b40,[s54.v,s55.v,s56.v,s57.v],50⟩],[⟨b3,[nilS.v,nilS.v,nilS.v,nilS.v],50⟩]]:=hS.sel [2,0,1,3,4,5,6] (by decide)
          have hSo:=hS
          refine e_opl rfl rfl rfl fun _ hK=>wp_storeV (e':=t_122) (us:=[(iV t_122)]) (vs:=[(iV e_126)]) 0 hF hS hV112 he_111 sz3 rfl rfl rfl rfl rfl rfl rfl he_126 at127 rfl rfl rfl fun w q128 hS h128=>hK _ _ (⟨⟨kpC hSo hS 5 5 rfl rfl kpN,fun _=>hS.vis.of_le (Mem.le.refl _)⟩,?_⟩)
          refine e_end (by kernel_rfl) (n_ib (n_jn ?_)) _
          obtain rfl:=someI hj9
          exact ⟨q125,q128,hF.sub ⟨rfl,rfl,rfl,rfl,rfl,rfl,rfl,rfl,rfl,rfl,rfl,rfl,rfl,rfl,trivial⟩,hS.sel [3,4,1,0,2,5,6] (by decide),h103,h103k,h104,h104k,h125.own,h128.own⟩
         ·have hS : St _ _ _ _ [[⟨b2,[(iV p_base)],3⟩],q105,q106,q54,q55,[⟨b40,[s54.v,s55.v,s56.v,s57.v],50⟩],[⟨b3,[nilS.v,nilS.v,nilS.v,nilS.v],50⟩]]:=hS.sel [6,0,1,2,3,4,5] (by decide)
          have hS119 : St _ _ _ _ ([[⟨b2,[(iV p_base)],3⟩]]++[q105,q106,q54,q55,[⟨b40,[s54.v,s55.v,s56.v,s57.v],50⟩],[⟨b3,[nilS.v,nilS.v,nilS.v,nilS.v],50⟩]]):=hS
          have hE119:=hS119.enter
          have hSo:=hS
          refine e_opl rfl rfl rfl fun _ hK=>wp_callV (vs:=[(iV e_107)]) (cap:=[(pP b2 0)]) hF rfl Try.func173 (by kernel_rfl) rfl rfl rfl (c_impl_roundingNetwork_1 e_107 p_base t_120 ht_120 _ m b2 _ hE119) fun a w _ hR hF=>hK _ _ ?_
          obtain ⟨rfl,hR119⟩:=hR
          have hS : St _ _ _ _ [[⟨b2,[(iV p_base)],3⟩],q105,q106,q54,q55,[⟨b40,[s54.v,s55.v,s56.v,s57.v],50⟩],[⟨b3,[nilS.v,nilS.v,nilS.v,nilS.v],50⟩]]:=hS119.leaveF hR119
          refine ⟨⟨kpC hSo hS 5 5 rfl rfl kpN,fun _=>hS.vis.of_le (Mem.le.refl _)⟩,?_⟩
          refine e_all [10,17] (by kernel_rfl) rfl ⟨?_,?_,trivial⟩
          ·refine e_lx (v:=s112.v) hF hS rfl (ex_loadE1 0 U28 rfl rfl ((hV112.atH he_111).at 2 rfl) rfl rfl) rfl rfl fun a hF=>e_one 17 (by kernel_rfl) ?_
           have hS121 : St _ _ _ _ ([[⟨b2,[(iV p_base)],3⟩]]++[q105,q106,q54,q55,[⟨b40,[s54.v,s55.v,s56.v,s57.v],50⟩],[⟨b3,[nilS.v,nilS.v,nilS.v,nilS.v],50⟩]]):=hS
           have hE121:=hS121.enter
           have hSo:=hS
           refine e_opl rfl rfl rfl fun _ hK=>wp_callV (vs:=[(iV e_107)]) (cap:=[(pP b2 0)]) hF rfl Try.func174 (by kernel_rfl) rfl rfl rfl (c_impl_roundingNetwork_2 e_107 p_base t_122 ht_122 _ m b2 _ hE121) fun a w _ hR hF=>hK _ _ ?_
           obtain ⟨rfl,hR121⟩:=hR
           have hS : St _ _ _ _ [[⟨b2,[(iV p_base)],3⟩],q105,q106,q54,q55,[⟨b40,[s54.v,s55.v,s56.v,s57.v],50⟩],[⟨b3,[nilS.v,nilS.v,nilS.v,nilS.v],50⟩]]:=hS121.leaveF hR121
           refine ⟨⟨kpC hSo hS 5 5 rfl rfl kpN,fun _=>hS.vis.of_le (Mem.le.refl _)⟩,?_⟩
           obtain ⟨vs124,at124,d124⟩:=hV110.at he_109 he_123 1 rfl
           obtain rfl : vs124 = [(iV e_123)]:=d124
           refine e_P (v:=(elP s110 (t_101.toNat * 1))) 18 hF rfl (ex_indexAddr U28 sz3 rfl rfl (hV110.idx he_109 he_123)) fun a hF=>e_one 19 (by kernel_rfl) ?_
           have hS : St _ _ _ _ [q105,[⟨b2,[(iV p_base)],3⟩],q106,q54,q55,[⟨b40,[s54.v,s55.v,s56.v,s57.v],50⟩],[⟨b3,[nilS.v,nilS.v,nilS.v,nilS.v],50⟩]]:=hS.sel [1,0,2,3,4,5,6] (by decide)
           have hSo:=hS
           refine e_opl rfl rfl rfl fun _ hK=>wp_storeV (e':=t_120) (us:=[(iV t_120)]) (vs:=[(iV e_123)]) 0 hF hS hV110 he_109 sz3 rfl rfl rfl rfl rfl rfl rfl he_123 at124 rfl rfl rfl fun w q125 hS h125=>hK _ _ (⟨⟨kpC hSo hS 5 5 rfl rfl kpN,fun _=>hS.vis.of_le (Mem.le.refl _)⟩,?_⟩)
           obtain ⟨vs127,at127,d127⟩:=hV112.at he_111 he_126 1 rfl
           obtain rfl : vs127 = [(iV e_126)]:=d127
           refine e_P (v:=(elP s112 (t_101.toNat * 1))) 20 hF rfl (ex_indexAddr U28 sz3 rfl rfl (hV112.idx he_111 he_126)) fun a hF=>e_one 21 (by kernel_rfl) ?_
           have hS : St _ _ _ _ [q106,q125,[⟨b2,[(iV p_base)],3⟩],q54,q55,[⟨b40,[s54.v,s55.v,s56.v,s57.v],50⟩],[⟨b3,[nilS.v,nilS.v,nilS.v,nilS.v],50⟩]]:=hS.sel [2,0,1,3,4,5,6] (by decide)
           have hSo:=hS
           refine e_opl rfl rfl rfl fun _ hK=>wp_storeV (e':=t_122) (us:=[(iV t_122)]) (vs:=[(iV e_126)]) 0 hF hS hV112 he_111 sz3 rfl rfl rfl rfl rfl rfl rfl he_126 at127 rfl rfl rfl fun w q128 hS h128=>hK _ _ (⟨⟨kpC hSo hS 5 5 rfl rfl kpN,fun _=>hS.vis.of_le (Mem.le.refl _)⟩,?_⟩)
           refine e_end (by kernel_rfl) (n_ib (n_jn ?_)) _
           obtain rfl:=someI hj9
           exact ⟨q125,q128,hF.sub ⟨rfl,rfl,rfl,rfl,rfl,rfl,rfl,rfl,rfl,rfl,rfl,rfl,rfl,rfl,trivial⟩,hS.sel [3,4,1,0,2,5,6] (by decide),h103,h103k,h104,h104k,h125.own,h128.own⟩
          ·have hS121 : St _ _ _ _ ([[⟨b2,[(iV p_base)],3⟩]]++[q105,q106,q54,q55,[⟨b40,[s54.v,s55.v,s56.v,s57.v],50⟩],[⟨b3,[nilS.v,nilS.v,nilS.v,nilS.v],50⟩]]):=hS
           have hE121:=hS121.enter
           have hSo:=hS
           refine e_opl rfl rfl rfl fun _ hK=>wp_callV (vs:=[(iV e_107)]) (cap:=[(pP b2 0)]) hF rfl Try.func174 (by kernel_rfl) rfl rfl rfl (c_impl_roundingNetwork_2 e_107 p_base t_122 ht_122 _ m b2 _ hE121) fun a w _ hR hF=>hK _ _ ?_
           obtain ⟨rfl,hR121⟩:=hR
           have hS : St _ _ _ _ [[⟨b2,[(iV p_base)],3⟩],q105,q106,q54,q55,[⟨b40,[s54.v,s55.v,s56.v,s57.v],50⟩],[⟨b3,[nilS.v,nilS.v,nilS.v,nilS.v],50⟩]]:=hS121.leaveF hR121
           refine ⟨⟨kpC hSo hS 5 5 rfl rfl kpN,fun _=>hS.vis.of_le (Mem.le.refl _)⟩,?_⟩
           refine e_X (v:=s112.v) 10 hF hS rfl (ex_loadE1 0 U28 rfl rfl ((hV112.atH he_111).at 2 rfl) rfl rfl) fun a hF=>?_
           obtain ⟨vs124,at124,d124⟩:=hV110.at he_109 he_123 1 rfl
           obtain rfl : vs124 = [(iV e_123)]:=d124
           refine e_P (v:=(elP s110 (t_101.toNat * 1))) 18 hF rfl (ex_indexAddr U28 sz3 rfl rfl (hV110.idx he_109 he_123)) fun a hF=>e_one 19 (by kernel_rfl) ?_
           have hS : St _ _ _ _ [q105,[⟨b2,[(iV p_base)],3⟩],q106,q54,q55,[⟨b40,[s54.v,s55.v,s56.v,s57.v],50⟩],[⟨b3,[nilS.v,nilS.v,nilS.v,nilS.v],50⟩]]:=hS.sel [1,0,2,3,4,5,6] (by decide)
           have hSo:=hS
           refine e_opl rfl rfl rfl fun _ hK=>wp_storeV (e':=t_120) (us:=[(iV t_120)]) (vs:=[(iV e_123)]) 0 hF hS hV110 he_109 sz3 rfl rfl rfl rfl rfl rfl rfl he_123 at124 rfl rfl rfl fun w q125 hS h125=>hK _ _ (⟨⟨kpC hSo hS 5 5 rfl rfl kpN,fun _=>hS.vis.of_le (Mem.le.refl _)⟩,?_⟩)
           obtain ⟨vs127,at127,d127⟩:=hV112.at he_111 he_126 1 rfl
           obtain rfl : vs127 = [(iV e_126)]:=d127
           refine e_P (v:=(elP s112 (t_101.toNat * 1))) 20 hF rfl (ex_indexAddr U28 sz3 rfl rfl (hV112.idx he_111 he_126)) fun a hF=>e_one 21 (by kernel_rfl) ?_
           have hS : St _ _ _ _ [q106,q125,[⟨b2,[(iV p_base)],3⟩],q54,q55,[⟨b40,[s54.v,s55.v,s56.v,s57.v],50⟩],[⟨b3,[nilS.v,nilS.v,nilS.v,nilS.v],50⟩]]:=hS.sel [2,0,1,3,4,5,6] (by decide)
           have hSo:=hS
           refine e_opl rfl rfl rfl fun _ hK=>wp_storeV (e':=t_122) (us:=[(iV t_122)]) (vs:=[(iV e_126)]) 0 hF hS hV112 he_111 sz3 rfl rfl rfl rfl rfl rfl rfl he_126 at127 rfl rfl rfl fun w q128 hS h128=>hK _ _ (⟨⟨kpC hSo hS 5 5 rfl rfl kpN,fun _=>hS.vis.of_le (Mem.le.refl _)⟩,?_⟩)
           refine e_end (by kernel_rfl) (n_ib (n_jn ?_)) _
           obtain rfl:=someI hj9
           exact ⟨q125,q128,hF.sub ⟨rfl,rfl,rfl,rfl,rfl,rfl,rfl,rfl,rfl,rfl,rfl,rfl,rfl,rfl,trivial⟩,hS.sel [3,4,1,0,2,5,6] (by decide),h103,h103k,h104,h104k,h125.own,h128.own⟩
        ·refine e_lx (v:=s112.v) hF hS rfl (ex_loadE1 0 U28 rfl rfl ((hV112.atH he_111).at 1 rfl) rfl rfl) rfl rfl fun a hF=>e_all [4,14] (by kernel_rfl) rfl ⟨?_,?_,trivial⟩
         ·refine e_lx (v:=s110.v) hF hS rfl (ex_loadE1 0 U28 rfl rfl ((hV110.atH he_109).at 0 rfl) rfl rfl) rfl rfl fun a hF=>e_one 14 (by kernel_rfl) ?_
          have hS : St _ _ _ _ [[⟨b2,[(iV p_base)],3⟩],q105,q106,q54,q55,[⟨b40,[s54.v,s55.v,s56.v,s57.v],50⟩],[⟨b3,[nilS.v,nilS.v,nilS.v,nilS.v],50⟩]]:=hS.sel [6,0,1,2,3,4,5] (by decide)
          have hS119 : St _ _ _ _ ([[⟨b2,[(iV p_base)],3⟩]]++[q105,q106,q54,q55,[⟨b40,[s54.v,s55.v,s56.v,s57.v],50⟩],[⟨b3,[nilS.v,nilS.v,nilS.v,nilS.v],50⟩]]):=hS
          have hE119:=hS119.enter
          have hSo:=hS
          refine e_opl rfl rfl rfl fun _ hK=>wp_callV (vs:=[(iV e_107)]) (cap:=[(pP b2 0)]) hF rfl Try.func173 (by kernel_rfl) rfl rfl rfl (c_impl_roundingNetwork_1 e_107 p_base t_120 ht_120 _ m b2 _ hE119) fun a w _ hR hF=>hK _ _ ?_
          obtain ⟨rfl,hR119⟩:=hR
          have hS : St _ _ _ _ [[⟨b2,[(iV p_base)],3⟩],q105,q106,q54,q55,[⟨b40,[s54.v,s55.v,s56.v,s57.v],50⟩],[⟨b3,[nilS.v,nilS.v,nilS.v,nilS.v],50⟩]]:=hS119.leaveF hR119
          refine ⟨⟨kpC hSo hS 5 5 rfl rfl kpN,fun _=>hS.vis.of_le (Mem.le.refl _)⟩,?_⟩
          refine e_one 17 (by kernel_rfl) ?_
          have hS121 : St _ _ _ _ ([[⟨b2,[(iV p_base)],3⟩]]++[q105,q106,q54,q55,[⟨b40,[s54.v,s55.v,s56.v,s57.v],50⟩],[⟨b3,[nilS.v,nilS.v,nilS.v,nilS.v],50⟩]]):=hS
          have hE121:=hS121.enter
          have hSo:=hS
          refine e_opl rfl rfl rfl fun _ hK=>wp_callV (vs:=[(iV e_107)]) (cap:=[(pP b2 0)]) hF rfl Try.func174 (by kernel_rfl) rfl rfl rfl (c_impl_roundingNetwork_2 e_107 p_base t_122 ht_122 _ m b2 _ hE121) fun a w _ hR hF=>hK _ _ ?_
          obtain ⟨rfl,hR121⟩:=hR
          have hS : St _ _ _ _ [[⟨b2,[(iV p_base)],3⟩],q105,q106,q54,q55,[⟨b40,[s54.v,s55.v,s56.v,s57.v],50⟩],[⟨b3,[nilS.v,nilS.v,nilS.v,nilS.v],50⟩]]:=hS121.leaveF hR121
          refine ⟨⟨kpC hSo hS 5 5 rfl rfl kpN,fun _=>hS.vis.of_le (Mem.le.refl _)⟩,?_⟩
          obtain ⟨vs124,at124,d124⟩:=hV110.at he_109 he_123 1 rfl
          obtain rfl : vs124 = [(iV e_123)]:=d124
          refine e_P (v:=(elP s110 (t_101.toNat * 1))) 18 hF rfl (ex_indexAddr U28 sz3 rfl rfl (hV110.idx he_109 he_123)) fun a hF=>e_one 19 (by kernel_rfl) ?_
          have hS : St _ _ _ _ [q105,[⟨b2,[(iV p_base)],3⟩],q106,q54,q55,[⟨b40,[s54.v,s55.v,s56.v,s57.v],50⟩],[⟨b3,[nilS.v,nilS.v,nilS.v,nilS.v],50⟩]]:=hS.sel [1,0,2,3,4,5,6] (by decide)
          have hSo:=hS
          refine e_opl rfl rfl rfl fun _ hK=>wp_storeV (e':=t_120) (us:=[(iV t_120)]) (vs:=[(iV e_123)]) 0 hF hS hV110 he_109 sz3 rfl rfl rfl rfl rfl rfl rfl he_123 at124 rfl rfl rfl fun w q125 hS h125=>hK _ _ (⟨⟨kpC hSo hS 5 5 rfl rfl kpN,fun _=>hS.vis.of_le (Mem.le.refl _)⟩,?_⟩)
          obtain ⟨vs127,at127,d127⟩:=hV112.at he_111 he_126 1 rfl
          obtain rfl : vs127 = [(iV e_126)]:=d127
          refine e_P (v:=(elP s112 (t_101.toNat * 1))) 20 hF rfl (ex_indexAddr U28 sz3 rfl rfl (hV112.idx he_111 he_126)) fun a hF=>e_one 21 (by kernel_rfl) ?_
          have hS : St _ _ _ _ [q106,q125,[⟨b2,[(iV p_base)],3⟩],q54,q55,[⟨b40,[s54.v,s55.v,s56.v,s57.v],50⟩],[⟨b3,[nilS.v,nilS.v,nilS.v,nilS.v],50⟩]]:=hS.sel [2,0,1,3,4,5,6] (by decide)
          have hSo:=hS
          refine e_opl rfl rfl rfl fun _ hK=>wp_storeV (e':=t_122) (us:=[(iV t_122)]) (vs:=[(iV e_126)]) 0 hF hS hV112 he_111 sz3 rfl rfl rfl rfl rfl rfl rfl he_126 at127 rfl rfl rfl fun w q128 hS h128=>hK _ _ (⟨⟨kpC hSo hS 5 5 rfl rfl kpN,fun _=>hS.vis.of_le (Mem.le.refl _)⟩,?_⟩)
          refine e_end (by kernel_rfl) (n_ib (n_jn ?_)) _
          obtain rfl:=someI hj9
          exact ⟨q125,q128,hF.sub ⟨rfl,rfl,rfl,rfl,rfl,rfl,rfl,rfl,rfl,rfl,rfl,rfl,rfl,rfl,trivial⟩,hS.sel [3,4,1,0,2,5,6] (by decide),h103,h103k,h104,h104k,h125.own,h128.own⟩
         ·have hS : St _ _ _ _ [[⟨b2,[(iV p_base)],3⟩],q105,q106,q54,q55,[⟨b40,[s54.v,s55.v,s56.v,s57.v],50⟩],[⟨b3,[nilS.v,nilS.v,nilS.v,nilS.v],50⟩]]:=hS.sel [6,0,1,2,3,4,5] (by decide)
          have hS119 : St _ _ _ _ ([[⟨b2,[(iV p_base)],3⟩]]++[q105,q106,q54,q55,[⟨b40,[s54.v,s55.v,s56.v,s57.v],50⟩],[⟨b3,[nilS.v,nilS.v,nilS.v,nilS.v],50⟩]]):=hS
          have hE119:=hS119.enter
          have hSo:=hS
          refine e_opl rfl rfl rfl fun _ hK=>wp_callV (vs:=[(iV e_107)]) (cap:=[(pP b2 0)]) hF rfl Try.func173 (by kernel_rfl) rfl rfl rfl (c_impl_roundingNetwork_1 e_107 p_base t_120 ht_120 _ m b2 _ hE119) fun a w _ hR hF=>hK _ _ ?_
          obtain ⟨rfl,hR119⟩:=hR
          have hS : St _ _ _ _ [[⟨b2,[(iV p_base)],3⟩],q105,q106,q54,q55,[⟨b40,[s54.v,s55.v,s56.v,s57.v],50⟩],[⟨b3,[nilS.v,nilS.v,nilS.v,nilS.v],50⟩]]:=hS119.leaveF hR119
          refine ⟨⟨kpC hSo hS 5 5 rfl rfl kpN,fun _=>hS.vis.of_le (Mem.le.refl _)⟩,?_⟩
          refine e_all [4,17] (by kernel_rfl) rfl ⟨?_,?_,trivial⟩
          ·refine e_lx (v:=s110.v) hF hS rfl (ex_loadE1 0 U28 rfl rfl ((hV110.atH he_109).at 1 rfl) rfl rfl) rfl rfl fun a hF=>e_one 17 (by kernel_rfl) ?_
           have hS121 : St _ _ _ _ ([[⟨b2,[(iV p_base)],3⟩]]++[q105,q106,q54,q55,[⟨b40,[s54.v,s55.v,s56.v,s57.v],50⟩],[⟨b3,[nilS.v,nilS.v,nilS.v,nilS.v],50⟩]]):=hS
           have hE121:=hS121.enter
           have hSo:=hS
           refine e_opl rfl rfl rfl fun _ hK=>wp_callV (vs:=[(iV e_107)]) (cap:=[(pP b2 0)]) hF rfl Try.func174 (by kernel_rfl) rfl rfl rfl (c_impl_roundingNetwork_2 e_107 p_base t_122 ht_122 _ m b2 _ hE121) fun a w _ hR hF=>hK _ _ ?_
           obtain ⟨rfl,hR121⟩:=hR
           have hS : St _ _ _ _ [[⟨b2,[(iV p_base)],3⟩],q105,q106,q54,q55,[⟨b40,[s54.v,s55.v,s56.v,s57.v],50⟩],[⟨b3,[nilS.v,nilS.v,nilS.v,nilS.v],50⟩]]:=hS121.leaveF hR121
           refine ⟨⟨kpC hSo hS 5 5 rfl rfl kpN,fun _=>hS.vis.of_le (Mem.le.refl _)⟩,?_⟩
           obtain ⟨vs124,at124,d124⟩:=hV110.at he_109 he_123 1 rfl
           obtain rfl : vs124 = [(iV e_123)]:=d124
           refine e_P (v:=(elP s110 (t_101.toNat * 1))) 18 hF rfl (ex_indexAddr U28 sz3 rfl rfl (hV110.idx he_109 he_123)) fun a hF=>e_one 19 (by kernel_rfl) ?_
           have hS : St _ _ _ _ [q105,[⟨b2,[(iV p_base)],3⟩],q106,q54,q55,[⟨b40,[s54.v,s55.v,s56.v,s57.v],50⟩],[⟨b3,[nilS.v,nilS.v,nilS.v,nilS.v],50⟩]]:=hS.sel [1,0,2,3,4,5,6] (by decide)
           have hSo:=hS
           refine e_opl rfl rfl rfl fun _ hK=>wp_storeV (e':=t_120) (us:=[(iV t_120)]) (vs:=[(iV e_123)]) 0 hF hS hV110 he_109 sz3 rfl rfl rfl rfl rfl rfl rfl he_123 at124 rfl rfl rfl fun w q125 hS h125=>hK _ _ (⟨⟨kpC hSo hS 5 5 rfl rfl kpN,fun _=>hS.vis.of_le (Mem.le.refl _)⟩,?_⟩)
           obtain ⟨vs127,at127,d127⟩:=hV112.at he_111 he_126 1 rfl
           obtain rfl : vs127 = [(iV e_126)]:=d127
           refine e_P (v:=(elP s112 (t_101.toNat * 1))) 20 hF rfl (ex_indexAddr U28 sz3 rfl rfl (hV112.idx he_111 he_126)) fun a hF=>e_one 21 (by kernel_rfl) ?_
           have hS : St _ _ _ _ [q106,q125,[⟨b2,[(iV p_base)],3⟩],q54,q55,[⟨b40,[s54.v,s55.v,s56.v,s57.v],50⟩],[⟨b3,[nilS.v,nilS.v,nilS.v,nilS.v],50⟩]]:=hS.sel [2,0,1,3,4,5,6] (by decide)
           have hSo:=hS
           refine e_opl rfl rfl rfl fun _ hK=>wp_storeV (e':=t_122) (us:=[(iV t_122)]) (vs:=[(iV e_126)]) 0 hF hS hV112 he_111 sz3 rfl rfl rfl rfl rfl rfl rfl he_126 at127 rfl rfl rfl fun w q128 hS h128=>hK _ _ (⟨⟨kpC hSo hS 5 5 rfl rfl kpN,fun _=>hS.vis.of_le (Mem.le.refl _)⟩,?_⟩)
           refine e_end (by kernel_rfl) (n_ib (n_jn ?_)) _
           obtain rfl:=someI hj9
           exact ⟨q125,q128,hF.sub ⟨rfl,rfl,rfl,rfl,rfl,rfl,rfl,rfl,rfl,rfl,rfl,rfl,rfl,rfl,trivial⟩,hS.sel [3,4,1,0,2,5,6] (by decide),h103,h103k,h104,h104k,h125.own,h128.own⟩
          ·have hS121 : St _ _ _ _ ([[⟨b2,[(iV p_base)],3⟩]]++[q105,q106,q54,q55,[⟨b40,[s54.v,s55.v,s56.v,s57.v],50⟩],[⟨b3,[nilS.v,nilS.v,nilS.v,nilS.v],50⟩]]):=hS
           have hE121:=hS121.enter
           have hSo:=hS
           refine e_opl rfl rfl rfl fun _ hK=>wp_callV (vs:=[(iV e_107)]) (cap:=[(pP b2 0)]) hF rfl Try.func174 (by kernel_rfl) rfl rfl rfl (c_impl_roundingNetwork_2 e_107 p_base t_122 ht_122 _ m b2 _ hE121) fun a w _ hR hF=>hK _ _ ?_
           obtain ⟨rfl,hR121⟩:=hR
           have hS : St _ _ _ _ [[⟨b2,[(iV p_base)],3⟩],q105,q106,q54,q55,[⟨b40,[s54.v,s55.v,s56.v,s57.v],50⟩],[⟨b3,[nilS.v,nilS.v,nilS.v,nilS.v],50⟩]]:=hS121.leaveF hR121
           refine ⟨⟨kpC hSo hS 5 5 rfl rfl kpN,fun _=>hS.vis.of_le (Mem.le.refl _)⟩,?_⟩
           refine e_X (v:=s110.v) 4 hF hS rfl (ex_loadE1 0 U28 rfl rfl ((hV110.atH he_109).at 1 rfl) rfl rfl) fun a hF=>?_
           obtain ⟨vs124,at124,d124⟩:=hV110.at he_109 he_123 1 rfl
           obtain rfl : vs124 = [(iV e_123)]:=d124
           refine e_P (v:=(elP s110 (t_101.toNat * 1))) 18 hF rfl (ex_indexAddr U28 sz3 rfl rfl (hV110.idx he_109 he_123)) fun a hF=>e_one 19 (by kernel_rfl) ?_
           have hS : St _ _ _ _ [q105,[⟨b2,[(iV p_base)],3⟩],q106,q54,q55,[⟨b40,[s54.v,s55.v,s56.v,s57.v],50⟩],[⟨b3,[nilS.v,nilS.v,nilS.v,nilS.v],50⟩]]:=hS.sel [1,0,2,3,4,5,6] (by decide)
           have hSo:=hS
           refine e_opl rfl rfl rfl fun _ hK=>wp_storeV (e':=t_120) (us:=[(iV t_120)]) (vs:=[(iV e_123)]) 0 hF hS hV110 he_109 sz3 rfl rfl rfl rfl rfl rfl rfl he_123 at124 rfl rfl rfl fun w q125 hS h125=>hK _ _ (⟨⟨kpC hSo hS 5 5 rfl rfl kpN,fun _=>hS.vis.of_le (Mem.le.refl _)⟩,?_⟩)
           obtain ⟨vs127,at127,d127⟩:=hV112.at he_111 he_126 1 rfl
           obtain rfl : vs127 = [(iV e_126)]:=d127
           refine e_P (v:=(elP s112 (t_101.toNat * 1))) 20 hF rfl (ex_indexAddr U28 sz3 rfl rfl (hV112.idx he_111 he_126)) fun a hF=>e_one 21 (by kernel_rfl) ?_
           have hS : St _ _ _ _ [q106,q125,[⟨b2,[(iV p_base)],3⟩],q54,q55,[⟨b40,[s54.v,s55.v,s56.v,s57.v],50⟩],[⟨b3,[nilS.v,nilS.v,nilS.v,nilS.v],50⟩]]:=hS.sel [2,0,1,3,4,5,6] (by decide)
           have hSo:=hS
           refine e_opl rfl rfl rfl fun _ hK=>wp_storeV (e':=t_122) (us:=[(iV t_122)]) (vs:=[(iV e_126)]) 0 hF hS hV112 he_111 sz3 rfl rfl rfl rfl rfl rfl rfl he_126 at127 rfl rfl rfl fun w q128 hS h128=>hK _ _ (⟨⟨kpC hSo hS 5 5 rfl rfl kpN,fun _=>hS.vis.of_le (Mem.le.refl _)⟩,?_⟩)
           refine e_end (by kernel_rfl) (n_ib (n_jn ?_)) _
           obtain rfl:=someI hj9
           exact ⟨q125,q128,hF.sub ⟨rfl,rfl,rfl,rfl,rfl,rfl,rfl,rfl,rfl,rfl,rfl,rfl,rfl,rfl,trivial⟩,hS.sel [3,4,1,0,2,5,6] (by decide),h103,h103k,h104,h104k,h125.own,h128.own⟩
        ·have hS : St _ _ _ _ [[⟨b2,[(iV p_base)],3⟩],q105,q106,q54,q55,[⟨b40,[s54.v,s55.v,s56.v,s57.v],50⟩],[⟨b3,[nilS.v,nilS.v,nilS.v,nilS.v],50⟩]]:=hS.sel [6,0,1,2,3,4,5] (by decide)
         have hS119 : St _ _ _ _ ([[⟨b2,[(iV p_base)],3⟩]]++[q105,q106,q54,q55,[⟨b40,[s54.v,s55.v,s56.v,s57.v],50⟩],[⟨b3,[nilS.v,nilS.v,nilS.v,nilS.v],50⟩]]):=hS
         have hE119:=hS119.enter
         have hSo:=hS
         refine e_opl rfl rfl rfl fun _ hK=>wp_callV (vs:=[(iV e_107)]) (cap:=[(pP b2 0)]) hF rfl Try.func173 (by kernel_rfl) rfl rfl rfl (c_impl_roundingNetwork_1 e_107 p_base t_120 ht_120 _ m b2 _ hE119) fun a w _ hR hF=>hK _ _ ?_
         obtain ⟨rfl,hR119⟩:=hR
         have hS : St _ _ _ _ [[⟨b2,[(iV p_base)],3⟩],q105,q106,q54,q55,[⟨b40,[s54.v,s55.v,s56.v,s57.v],50⟩],[⟨b3,[nilS.v,nilS.v,nilS.v,nilS.v],50⟩]]:=hS119.leaveF hR119
         refine ⟨⟨kpC hSo hS 5 5 rfl rfl kpN,fun _=>hS.vis.of_le (Mem.le.refl _)⟩,?_⟩
         refine e_all [4,10,17] (by kernel_rfl) rfl ⟨?_,?_,?_,trivial⟩
         ·refine e_lx (v:=s110.v) hF hS rfl (ex_loadE1 0 U28 rfl rfl ((hV110.atH he_109).at 1 rfl) rfl rfl) rfl rfl fun a hF=>e_all [10,17] (by kernel_rfl) rfl ⟨?_,?_,trivial⟩
          ·refine e_lx (v:=s112.v) hF hS rfl (ex_loadE1 0 U28 rfl rfl ((hV112.atH he_111).at 2 rfl) rfl rfl) rfl rfl fun a hF=>e_one 17 (by kernel_rfl) ?_
           have hS121 : St _ _ _ _ ([[⟨b2,[(iV p_base)],3⟩]]++[q105,q106,q54,q55,[⟨b40,[s54.v,s55.v,s56.v,s57.v],50⟩],[⟨b3,[nilS.v,nilS.v,nilS.v,nilS.v],50⟩]]):=hS
           have hE121:=hS121.enter
           have hSo:=hS
           refine e_opl rfl rfl rfl fun _ hK=>wp_callV (vs:=[(iV e_107)]) (cap:=[(pP b2 0)]) hF rfl Try.func174 (by kernel_rfl) rfl rfl rfl (c_impl_roundingNetwork_2 e_107 p_base t_122 ht_122 _ m b2 _ hE121) fun a w _ hR hF=>hK _ _ ?_
           obtain ⟨rfl,hR121⟩:=hR
           have hS : St _ _ _ _ [[⟨b2,[(iV p_base)],3⟩],q105,q106,q54,q55,[⟨b40,[s54.v,s55.v,s56.v,s57.v],50⟩],[⟨b3,[nilS.v,nilS.v,nilS.v,nilS.v],50⟩]]:=hS121.leaveF hR121
           refine ⟨⟨kpC hSo hS 5 5 rfl rfl kpN,fun _=>hS.vis.of_le (Mem.le.refl _)⟩,?_⟩
           obtain ⟨vs124,at124,d124⟩:=hV110.at he_109 he_123 1 rfl
           obtain rfl : vs124 = [(iV e_123)]:=d124
           refine e_P (v:=(elP s110 (t_101.toNat * 1))) 18 hF rfl (ex_indexAddr U28 sz3 rfl rfl (hV110.idx he_109 he_123)) fun a hF=>e_one 19 (by kernel_rfl) ?_
           have hS : St _ _ _ _ [q105,[⟨b2,[(iV p_base)],3⟩],q106,q54,q55,[⟨b40,[s54.v,s55.v,s56.v,s57.v],50⟩],[⟨b3,[nilS.v,nilS.v,nilS.v,nilS.v],50⟩]]:=hS.sel [1,0,2,3,4,5,6] (by decide)
           have hSo:=hS
           refine e_opl rfl rfl rfl fun _ hK=>wp_storeV (e':=t_120) (us:=[(iV t_120)]) (vs:=[(iV e_123)]) 0 hF hS hV110 he_109 sz3 rfl rfl rfl rfl rfl rfl rfl he_123 at124 rfl rfl rfl fun w q125 hS h125=>hK _ _ (⟨⟨kpC hSo hS 5 5 rfl rfl kpN,fun _=>hS.vis.of_le (Mem.le.refl _)⟩,?_⟩)
           obtain ⟨vs127,at127,d127⟩:=hV112.at he_111 he_126 1 rfl
           obtain rfl : vs127 = [(iV e_126)]:=d127
           refine e_P (v:=(elP s112 (t_101.toNat * 1))) 20 hF rfl (ex_indexAddr U28 sz3 rfl rfl (hV112.idx he_111 he_126)) fun a hF=>e_one 21 (by kernel_rfl) ?_
           have hS : St _ _ _ _ [q106,q125,[⟨b2,[(iV p_base)],3⟩],q54,q55,[⟨b40,[s54.v,s55.v,s56.v,s57.v],50⟩],[⟨b3,[nilS.v,nilS.v,nilS.v,nilS.v],50⟩]]:=hS.sel [2,0,1,3,4,5,6] (by decide)
           have hSo:=hS
           refine e_opl rfl rfl rfl fun _ hK=>wp_storeV (e':=t_122) (us:=[(iV t_122)]) (vs:=[(iV e_126)]) 0 hF hS hV112 he_111 sz3 rfl rfl rfl rfl rfl rfl rfl he_126 at127 rfl rfl rfl fun w q128 hS h128=>hK _ _ (⟨⟨kpC hSo hS 5 5 rfl rfl kpN,fun _=>hS.vis.of_le (Mem.le.refl _)⟩,?_⟩)
           refine e_end (by kernel_rfl) (n_ib (n_jn ?_)) _
           obtain rfl:=someI hj9
           exact ⟨q125,q128,hF.sub ⟨rfl,rfl,rfl,rfl,rfl,rfl,rfl,rfl,rfl,rfl,rfl,rfl,rfl,rfl,trivial⟩,hS.sel [3,4,1,0,2,5,6] (by decide),h103,h103k,h104,h104k,h125.own,h128.own⟩
          ·have hS121 : St _ _ _ _ ([[⟨b2,[(iV p_base)],3⟩]]++[q105,q106,q54,q55,[⟨b40,[s54.v,s55.v,s56.v,s57.v],50⟩],[⟨b3,[nilS.v,nilS.v,nilS.v,nilS.v],50⟩]]):=hS
           have hE121:=hS121.enter
           have hSo:=hS
           refine e_opl rfl rfl rfl fun _ hK=>wp_callV (vs:=[(iV e_107)]) (cap:=[(pP b2 0)]) hF rfl Try.func174 (by kernel_rfl) rfl rfl rfl (c_impl_roundingNetwork_2 e_107 p_base t_122 ht_122 _ m b2 _ hE121) fun a w _ hR hF=>hK _ _ ?_
           obtain ⟨rfl,hR121⟩:=hR
           have hS : St _ _ _ _ [[⟨b2,[(iV p_base)],3⟩],q105,q106,q54,q55,[⟨b40,[s54.v,s55.v,s56.v,s57.v],50⟩],[⟨b3,[nilS.v,nilS.v,nilS.v,nilS.v],50⟩]]:=hS121.leaveF hR121
           refine ⟨⟨kpC hSo hS 5 5 rfl rfl kpN,fun _=>hS.vis.of_le (Mem.le.refl _)⟩,?_⟩
           refine e_X (v:=s112.v) 10 hF hS rfl (ex_loadE1 0 U28 rfl rfl ((hV112.atH he_111).at 2 rfl) rfl rfl) fun a hF=>?_
           obtain ⟨vs124,at124,d124⟩:=hV110.at he_109 he_123 1 rfl
           obtain rfl : vs124 = [(iV e_123)]:=d124
           refine e_P (v:=(elP s110 (t_101.toNat * 1))) 18 hF rfl (ex_indexAddr U28 sz3 rfl rfl (hV110.idx he_109 he_123)) fun a hF=>e_one 19 (by kernel_rfl) ?_
           have hS : St _ _ _ _ [q105,[⟨b2,[(iV p_base)],3⟩],q106,q54,q55,[⟨b40,[s54.v,s55.v,s56.v,s57.v],50⟩],[⟨b3,[nilS.v,nilS.v,nilS.v,nilS.v],50⟩]]:=hS.sel [1,0,2,3,4,5,6] (by decide)
           have hSo:=hS
           refine e_opl rfl rfl rfl fun _ hK=>wp_storeV (e':=t_120) (us:=[(iV t_120)]) (vs:=[(iV e_123)]) 0 hF hS hV110 he_109 sz3 rfl rfl rfl rfl rfl rfl rfl he_123 at124 rfl rfl rfl fun w q125 hS h125=>hK _ _ (⟨⟨kpC hSo hS 5 5 rfl rfl kpN,fun _=>hS.vis.of_le (Mem.le.refl _)⟩,?_⟩)
           obtain ⟨vs127,at127,d127⟩:=hV112.at he_111 he_126 1 rfl
           obtain rfl : vs127 = [(iV e_126)]:=d127
           refine e_P (v:=(elP s112 (t_101.toNat * 1))) 20 hF rfl (ex_indexAddr U28 sz3 rfl rfl (hV112.idx he_111 he_126)) fun a hF=>e_one 21 (by kernel_rfl) ?_
           have hS : St _ _ _ _ [q106,q125,[⟨b2,[(iV p_base)],3⟩],q54,q55,[⟨b40,[s54.v,s55.v,s56.v,s57.v],50⟩],[⟨b3,[nilS.v,nilS.v,nilS.v,nilS.v],50⟩]]:=hS.sel [2,0,1,3,4,5,6] (by decide)
           have hSo:=hS
           refine e_opl rfl rfl rfl fun _ hK=>wp_storeV (e':=t_122) (us:=[(iV t_122)]) (vs:=[(iV e_126)]) 0 hF hS hV112 he_111 sz3 rfl rfl rfl rfl rfl rfl rfl he_126 at127 rfl rfl rfl fun w q128 hS h128=>hK _ _ (⟨⟨kpC hSo hS 5 5 rfl rfl kpN,fun _=>hS.vis.of_le (Mem.le.refl _)⟩,?_⟩)
           refine e_end (by kernel_rfl) (n_ib (n_jn ?_)) _
           obtain rfl:=someI hj9
           exact ⟨q125,q128,hF.sub ⟨rfl,rfl,rfl,rfl,rfl,rfl,rfl,rfl,rfl,rfl,rfl,rfl,rfl,rfl,trivial⟩,hS.sel [3,4,1,0,2,5,6] (by decide),h103,h103k,h104,h104k,h125.own,h128.own⟩
         ·refine e_lx (v:=s112.v) hF hS rfl (ex_loadE1 0 U28 rfl rfl ((hV112.atH he_111).at 2 rfl) rfl rfl) rfl rfl fun a hF=>e_all [4,17] (by kernel_rfl) rfl ⟨?_,?_,trivial⟩
          ·refine e_lx (v:=s110.v) hF hS rfl (ex_loadE1 0 U28 rfl rfl ((hV110.atH he_109).at 1 rfl) rfl rfl) rfl rfl fun a hF=>e_one 17 (by kernel_rfl) ?_
           have hS121 : St _ _ _ _ ([[⟨b2,[(iV p_base)],3⟩]]++[q105,q106,q54,q55,[⟨b40,[s54.v,s55.v,s56.v,s57.v],50⟩],[⟨b3,[nilS.v,nilS.v,nilS.v,nilS.v],50⟩]]):=hS
           have hE121:=hS121.enter
           have hSo:=hS
           refine e_opl rfl rfl rfl fun _ hK=>wp_callV (vs:=[(iV e_107)]) (cap:=[(pP b2 0)]) hF rfl Try.func174 (by kernel_rfl) rfl rfl rfl (c_impl_roundingNetwork_2 e_107 p_base t_122 ht_122 _ m b2 _ hE121) fun a w _ hR hF=>hK _ _ ?_
           obtain ⟨rfl,hR121⟩:=hR
           have hS : St _ _ _ _ [[⟨b2,[(iV p_base)],3⟩],q105,q106,q54,q55,[⟨b40,[s54.v,s55.v,s56.v,s57.v],50⟩],[⟨b3,[nilS.v,nilS.v,nilS.v,nilS.v],50⟩]]:=hS121.leaveF hR121
           refine ⟨⟨kpC hSo hS 5 5 rfl rfl kpN,fun _=>hS.vis.of_le (Mem.le.refl _)⟩,?_⟩
           obtain ⟨vs124,at124,d124⟩:=hV110.at he_109 he_123 1 rfl
           obtain rfl : vs124 = [(iV e_123)]:=d124
           refine e_P (v:=(elP s110 (t_101.toNat * 1))) 18 hF rfl (ex_indexAddr U28 sz3 rfl rfl (hV110.idx he_109 he_123)) fun a hF=>e_one 19 (by kernel_rfl) ?_
           have hS : St _ _ _ _ [q105,[⟨b2,[(iV p_base)],3⟩],q106,q54,q55,[⟨b40,[s54.v,s55.v,s56.v,s57.v],50⟩],[⟨b3,[nilS.v,nilS.v,nilS.v,nilS.v],50⟩]]:=hS.sel [1,0,2,3,4,5,6] (by decide)
           have hSo:=hS
           refine e_opl rfl rfl rfl fun _ hK=>wp_storeV (e':=t_120) (us:=[(iV t_120)]) (vs:=[(iV e_123)]) 0 hF hS hV110 he_109 sz3 rfl rfl rfl rfl rfl rfl rfl he_123 at124 rfl rfl rfl fun w q125 hS h125=>hK _ _ (⟨⟨kpC hSo hS 5 5 rfl rfl kpN,fun _=>hS.vis.of_le (Mem.le.refl _)⟩,?_⟩)
           obtain ⟨vs127,at127,d127⟩:=hV112.at he_111 he_126 1 rfl
           obtain rfl : vs127 = [(iV e_126)]:=d127
           refine e_P (v:=(elP s112 (t_101.toNat * 1))) 20 hF rfl (ex_indexAddr U28 sz3 rfl rfl (hV112.idx he_111 he_126)) fun a hF=>e_one 21 (by kernel_rfl) ?_
           have hS : St _ _ _ _ [q106,q125,[⟨b2,[(iV p_base)],3⟩],q54,q55,[⟨b40,[s54.v,s55.v,s56.v,s57.v],50⟩],[⟨b3,[nilS.v,nilS.v,nilS.v,nilS.v],50⟩]]:=hS.sel [2,0,1,3,4,5,6] (by decide)
           have hSo:=hS
           refine e_opl rfl rfl rfl fun _ hK=>wp_storeV (e':=t_122) (us:=[(iV t_122)]) (vs:=[(iV e_126)]) 0 hF hS hV112 he_111 sz3 rfl rfl rfl rfl rfl rfl rfl he_126 at127 rfl rfl rfl fun w q128 hS h128=>hK _ _ (⟨⟨kpC hSo hS 5 5 rfl rfl kpN,fun _=>hS.vis.of_le (Mem.le.refl _)⟩,?_⟩)
           refine e_end (by kernel_rfl) (n_ib (n_jn ?_)) _
           obtain rfl:=someI hj9
           exact ⟨q125,q128,hF.sub ⟨rfl,rfl,rfl,rfl,rfl,rfl,rfl,rfl,rfl,rfl,rfl,rfl,rfl,rfl,trivial⟩,hS.sel [3,4,1,0,2,5,6] (by decide),h103,h103k,h104,h104k,h125.own,h128.own⟩
          ·have hS121 : St _ _ _ _ ([[⟨b2,[(iV p_base)],3⟩]]++[q105,q106,q54,q55,[⟨b40,[s54.v,s55.v,s56.v,s57.v],50⟩],[⟨b3,[nilS.v,nilS.v,nilS.v,nilS.v],50⟩]]):=hS
           have hE121:=hS121.enter
           have hSo:=hS
           refine e_opl rfl rfl rfl fun _ hK=>wp_callV (vs:=[(iV e_107)]) (cap:=[(pP b2 0)]) hF rfl Try.func174 (by kernel_rfl) rfl rfl rfl (c_impl_roundingNetwork_2 e_107 p_base t_122 ht_122 _ m b2 _ hE121) fun a w _ hR hF=>hK _ _ ?_
           obtain ⟨rfl,hR121⟩:=hR
           have hS : St _ _ _ _ [[⟨b2,[(iV p_base)],3⟩],q105,q106,q54,q55,[⟨b40,[s54.v,s55.v,s56.v,s57.v],50⟩],[⟨b3,[nilS.v,nilS.v,nilS.v,nilS.v],50⟩]]:=hS121.leaveF hR121
           refine ⟨⟨kpC hSo hS 5 5 rfl rfl kpN,fun _=>hS.vis.of_le (Mem.le.refl _)⟩,?_⟩
           refine e_X (v:=s110.v) 4 hF hS rfl (ex_loadE1 0 U28 rfl rfl ((hV110.atH he_109).at 1 rfl) rfl rfl) fun a hF=>?_
           obtain ⟨vs124,at124,d124⟩:=hV110.at he_109 he_123 1 rfl
           obtain rfl : vs124 = [(iV e_123)]:=d124
           refine e_P (v:=(elP s110 (t_101.toNat * 1))) 18 hF rfl (ex_indexAddr U28 sz3 rfl rfl (hV110.idx he_109 he_123)) fun a hF=>e_one 19 (by kernel_rfl) ?_
           have hS : St _ _ _ _ [q105,[⟨b2,[(iV p_base)],3⟩],q106,q54,q55,[⟨b40,[s54.v,s55.v,s56.v,s57.v],50⟩],[⟨b3,[nilS.v,nilS.v,nilS.v,nilS.v],50⟩]]:=hS.sel [1,0,2,3,4,5,6] (by decide)
           have hSo:=hS
           refine e_opl rfl rfl rfl fun _ hK=>wp_storeV (e':=t_120) (us:=[(iV t_120)]) (vs:=[(iV e_123)]) 0 hF hS hV110 he_109 sz3 rfl rfl rfl rfl rfl rfl rfl he_123 at124 rfl rfl rfl fun w q125 hS h125=>hK _ _ (⟨⟨kpC hSo hS 5 5 rfl rfl kpN,fun _=>hS.vis.of_le (Mem.le.refl _)⟩,?_⟩)
           obtain ⟨vs127,at127,d127⟩:=hV112.at he_111 he_126 1 rfl
           obtain rfl : vs127 = [(iV e_126)]:=d127
           refine e_P (v:=(elP s112 (t_101.toNat * 1))) 20 hF rfl (ex_indexAddr U28 sz3 rfl rfl (hV112.idx he_111 he_126)) fun a hF=>e_one 21 (by kernel_rfl) ?_
           have hS : St _ _ _ _ [q106,q125,[⟨b2,[(iV p_base)],3⟩],q54,q55,[⟨b40,[s54.v,s55.v,s56.v,s57.v],50⟩],[⟨b3,[nilS.v,nilS.v,nilS.v,nilS.v],50⟩]]:=hS.sel [2,0,1,3,4,5,6] (by decide)
           have hSo:=hS
           refine e_opl rfl rfl rfl fun _ hK=>wp_storeV (e':=t_122) (us:=[(iV t_122)]) (vs:=[(iV e_126)]) 0 hF hS hV112 he_111 sz3 rfl rfl rfl rfl rfl rfl rfl he_126 at127 rfl rfl rfl fun w q128 hS h128=>hK _ _ (⟨⟨kpC hSo hS 5 5 rfl rfl kpN,fun _=>hS.vis.of_le (Mem.le.refl _)⟩,?_⟩)
           refine e_end (by kernel_rfl) (n_ib (n_jn ?_)) _
           obtain rfl:=someI hj9
           exact ⟨q125,q128,hF.sub ⟨rfl,rfl,rfl,rfl,rfl,rfl,rfl,rfl,rfl,rfl,rfl,rfl,rfl,rfl,trivial⟩,hS.sel [3,4,1,0,2,5,6] (by decide),h103,h103k,h104,h104k,h125.own,h128.own⟩
         ·have hS121 : St _ _ _ _ ([[⟨b2,[(iV p_base)],3⟩]]++[q105,q106,q54,q55,[⟨b40,[s54.v,s55.v,s56.v,s57.v],50⟩],[⟨b3,[nilS.v,nilS.v,nilS.v,nilS.v],50⟩]]):=hS
          have hE121:=hS121.enter
          have hSo:=hS
          refine e_opl rfl rfl rfl fun _ hK=>wp_callV (vs:=[(iV e_107)]) (cap:=[(pP b2 0)]) hF rfl Try.func174 (by kernel_rfl) rfl rfl rfl (c_impl_roundingNetwork_2 e_107 p_base t_122 ht_122 _ m b2 _ hE121) fun a w _ hR hF=>hK _ _ ?_
          obtain ⟨rfl,hR121⟩:=hR
          have hS : St _ _ _ _ [[⟨b2,[(iV p_base)],3⟩],q105,q106,q54,q55,[⟨b40,[s54.v,s55.v,s56.v,s57.v],50⟩],[⟨b3,[nilS.v,nilS.v,nilS.v,nilS.v],50⟩]]:=hS121.leaveF hR121
          refine ⟨⟨kpC hSo hS 5 5 rfl rfl kpN,fun _=>hS.vis.of_le (Mem.le.refl _)⟩,?_⟩
          refine e_X (v:=s110.v) 4 hF hS rfl (ex_loadE1 0 U28 rfl rfl ((hV110.atH he_109).at 1 rfl) rfl rfl) fun a hF=>e_X (v:=s112.v) 10 hF hS rfl (ex_loadE1 0 U28 rfl rfl ((hV112.atH he_111).at 2 rfl) rfl rfl) fun a hF=>?_
          obtain ⟨vs124,at124,d124⟩:=hV110.at he_109 he_123 1 rfl
          obtain rfl : vs124 = [(iV e_123)]:=d124
          refine e_P (v:=(elP s110 (t_101.toNat * 1))) 18 hF rfl (ex_indexAddr U28 sz3 rfl rfl (hV110.idx he_109 he_123)) fun a hF=>e_one 19 (by kernel_rfl) ?_
          have hS : St _ _ _ _ [q105,[⟨b2,[(iV p_base)],3⟩],q106,q54,q55,[⟨b40,[s54.v,s55.v,s56.v,s57.v],50⟩],[⟨b3,[nilS.v,nilS.v,nilS.v,nilS.v],50⟩]]:=hS.sel [1,0,2,3,4,5,6] (by decide)
          have hSo:=hS
          refine e_opl rfl rfl rfl fun _ hK=>wp_storeV (e':=t_120) (us:=[(iV t_120)]) (vs:=[(iV e_123)]) 0 hF hS hV110 he_109 sz3 rfl rfl rfl rfl rfl rfl rfl he_123 at124 rfl rfl rfl fun w q125 hS h125=>hK _ _ (⟨⟨kpC hSo hS 5 5 rfl rfl kpN,fun _=>hS.vis.of_le (Mem.le.refl _)⟩,?_⟩)
          obtain ⟨vs127,at127,d127⟩:=hV112.at he_111 he_126 1 rfl
          obtain rfl : vs127 = [(iV e_126)]:=d127
          refine e_P (v:=(elP s112 (t_101.toNat * 1))) 20 hF rfl (ex_indexAddr U28 sz3 rfl rfl (hV112.idx he_111 he_126)) fun a hF=>e_one 21 (by kernel_rfl) ?_
          have hS : St _ _ _ _ [q106,q125,[⟨b2,[(iV p_base)],3⟩],q54,q55,[⟨b40,[s54.v,s55.v,s56.v,s57.v],50⟩],[⟨b3,[nilS.v,nilS.v,nilS.v,nilS.v],50⟩]]:=hS.sel [2,0,1,3,4,5,6] (by decide)
          have hSo:=hS
          refine e_opl rfl rfl rfl fun _ hK=>wp_storeV (e':=t_122) (us:=[(iV t_122)]) (vs:=[(iV e_126)]) 0 hF hS hV112 he_111 sz3 rfl rfl rfl rfl rfl rfl rfl he_126 at127 rfl rfl rfl fun w q128 hS h128=>hK _ _ (⟨⟨kpC hSo hS 5 5 rfl rfl kpN,fun _=>hS.vis.of_le (Mem.le.refl _)⟩,?_⟩)
          refine e_end (by kernel_rfl) (n_ib (n_jn ?_)) _
          obtain rfl:=someI hj9
          exact ⟨q125,q128,hF.sub ⟨rfl,rfl,rfl,rfl,rfl,rfl,rfl,rfl,rfl,rfl,rfl,rfl,rfl,rfl,trivial⟩,hS.sel [3,4,1,0,2,5,6] (by decide),h103,h103k,h104,h104k,h125.own,h128.own⟩
       ·rintro a w ⟨q132,q133,hF,hS,h130,h130k,h131,h131k,h132,h133⟩
        refine n_sq ?_
        refine q_region (q_y (v:=(iV (w64 (t_101 + 1)))) hF hS (ex_ibin rfl rfl rfl) fun a hF=>q_m hF rfl fun a hF=>q_end ?_)
        obtain rfl:=someI hb7
        exact ⟨rfl,q132,q133,_,_,rfl,hF.sub ⟨rfl,rfl,rfl,rfl,rfl,rfl,rfl,rfl,rfl,rfl,rfl,rfl,rfl,rfl,trivial⟩,hS.sel [2,3,0,1,5,6,4] (by decide),h130,h130k,h131,h131k,h132,h133⟩
     ·rintro e a w ⟨q137,q138,rfl,hF,hS,h135,h135k,h136,h136k,h137,h138⟩
      refine x_ib (n_ib (n_sq ?_))
      refine q_region (q_y (v:=(iV (w64 (t_92 + 1)))) hF hS (ex_ibin rfl rfl rfl) fun a hF=>q_m hF rfl fun a hF=>q_end ?_)
      obtain rfl:=someI hb5
      exact ⟨rfl,q137,q138,_,_,rfl,hF.sub ⟨rfl,rfl,rfl,rfl,rfl,rfl,rfl,rfl,rfl,rfl,trivial⟩,hS.sel [2,3,0,1,4,5,6] (by decide),h135,h135k,h136,h136k,h137,h138⟩
   ·rintro e a w ⟨q142,q143,rfl,hF,hS,h140,h140k,h141,h141k,h142,h143⟩
    refine x_ib (n_sq ?_)
    refine q_sr (q_m hF rfl fun a hF=>?_)
    obtain ⟨t_144,ht_144,hr⟩:=bindS hr
    refine q_call (vs:=[s1.v]) hF hS Try.func104 (by kernel_rfl) rfl rfl rfl (c_impl_rowSums p_x t_144 ht_144 _ m hS.vis s1 h1) ?_
    rintro a w _ ⟨q146,s146,rfl,hR145,h146⟩ hF hS2
    have hS : St _ _ _ _ [q146,q54,q55,q142,q143,[⟨b40,[s54.v,s55.v,s56.v,s57.v],50⟩],[⟨b3,[nilS.v,nilS.v,nilS.v,nilS.v],50⟩],[⟨b2,[(iV p_base)],3⟩]]:=hS.joinF hR145
    refine q_m hF rfl fun a hF=>?_
    obtain ⟨t_147,ht_147,hr⟩:=bindS hr
    refine q_call (vs:=[s1.v]) hF hS Try.func105 (by kernel_rfl) rfl rfl rfl (c_impl_colSums p_x t_147 ht_147 _ m hS.vis s1 h1) ?_
    rintro a w _ ⟨q149,s149,rfl,hR148,h149⟩ hF hS2
    have hS : St _ _ _ _ [q149,q146,q54,q55,q142,q143,[⟨b40,[s54.v,s55.v,s56.v,s57.v],50⟩],[⟨b3,[nilS.v,nilS.v,nilS.v,nilS.v],50⟩],[⟨b2,[(iV p_base)],3⟩]]:=hS.joinF hR148
    refine q_s hF rfl fun a hF=>q_s hF rfl fun a hF=>q_end (n_sq (q_seq (q_sr (q_m hF rfl fun a hF=>q_y (v:=(iV (goLen t_144))) hF hS (ex_len U28 rfl h146.len) fun a hF=>q_m hF rfl fun a hF=>q_end (n_sq (q_block ?_))))))
    obtain ⟨t_183,hl10,hr⟩:=bindS hr
    refine q_loop (fun (s : Int × impl_Transport) a w=>∃ (q152 : Piece),∃ (q155 : Piece),∃ t_150,∃ t_151,s = (t_150,t_151)∧Fr a 203 [(4,(pP b3 0)),(5,(.func (.func 173) #[] #[(pP b2 0)])),(6,(.func (.func 174) #[] #[(pP b2 0)])),(7,(iV (goLen p_x))),(8,(iV (goLen e_4))),(9,(pP b40 0)),(15,s146.v),(16,s149.v),(104,s146.v),(105,(iV (goLen t_144))),(106,(iV t_150))]∧St [] w0 w m [q152,q155,q149,q146,q55,q142,[⟨b40,[s54.v,s55.v,s56.v,s57.v],50⟩],[⟨b3,[nilS.v,nilS.v,nilS.v,nilS.v],50⟩],[⟨b2,[(iV p_base)],3⟩]]∧OwnL m 3 q152 s54 t_151.Rows∧OwnL m 3 q55 s55 t_151.Cols∧t_151.Cols = t_53.Cols∧OwnD m 28 3 q142 s56 t_151.Lo∧t_151.Lo = t_139.Lo∧OwnD m 28 3 q155 s57 t_151.Hi) (fun (t_183 : impl_Transport) e a w=>∃ (q184 : Piece),∃ (q187 : Piece),e = .exit 6∧Fr a 203 [(4,(pP b3 0)),(5,(.func (.func 173) #[] #[(pP b2 0)])),(6,(.func (.func 174) #[] #[(pP b2 0)])),(7,(iV (goLen p_x))),(8,(iV (goLen e_4))),(9,(pP b40 0)),(15,s146.v),(16,s149.v)]∧St [] w0 w m [q146,q149,q184,q55,q142,q187,[⟨b40,[s54.v,s55.v,s56.v,s57.v],50⟩],[⟨b3,[nilS.v,nilS.v,nilS.v,nilS.v],50⟩],[⟨b2,[(iV p_base)],3⟩]]∧OwnL m 3 q184 s54 t_183.Rows∧OwnL m 3 q55 s55 t_183.Cols∧t_183.Cols = t_53.Cols∧OwnD m 28 3 q142 s56 t_183.Lo∧t_183.Lo = t_139.Lo∧OwnD m 28 3 q187 s57 t_183.Hi) hl10 ⟨q54,q143,_,_,rfl,hF.sub ⟨rfl,rfl,rfl,rfl,rfl,rfl,rfl,rfl,rfl,rfl,rfl,trivial⟩,hS.sel [2,5,0,1,3,4,6,7,8] (by decide),h140,h141,h141k,h142,rfl,h143⟩ ?_ ?_
    ·clear hF hS
     rintro s a w st ⟨q152,q155,t_150,t_151,rfl,hF,hS,h152,h153,h153k,h154,h154k,h155⟩ hb10
     unfold impl_roundingNetwork_l4 at hb10
     refine q_sr (q_y (v:=(.bool (decide (t_150 < (goLen t_144))))) hF hS (ex_ibin rfl rfl rfl) fun a hF=>q_end (n_sq (q_seq ?_)))
     rcases bcase (decide (t_150 < (goLen t_144))) with hc11 | hc11
     ·have hb10:=cond_f hc11 hb10
      refine q_cond_f hF rfl hc11 (q_exit (x_sq ?_))
      obtain rfl:=someI hb10
      exact ⟨nofun,.inl ⟨q152,q155,rfl,hF.sub ⟨rfl,rfl,rfl,rfl,rfl,rfl,rfl,rfl,trivial⟩,hS.sel [3,2,0,4,5,1,6,7,8] (by decide),h152,h153,h153k,h154,h154k,h155⟩⟩
     ·have hb10:=cond_t hc11 hb10
      refine q_cond_t hF rfl hc11 (q_skipc (n_sq (q_seq ?_)))
      obtain ⟨t_178,hj12,hb10⟩:=bindS hb10
      refine q_join (fun a w=>∃ (q179 : Piece),∃ (q182 : Piece),Fr a 203 [(4,(pP b3 0)),(5,(.func (.func 173) #[] #[(pP b2 0)])),(6,(.func (.func 174) #[] #[(pP b2 0)])),(7,(iV (goLen p_x))),(8,(iV (goLen e_4))),(9,(pP b40 0)),(15,s146.v),(16,s149.v),(104,s146.v),(105,(iV (goLen t_144))),(106,(iV t_150))]∧St [] w0 w m [q146,q149,q179,q55,q142,q182,[⟨b2,[(iV p_base)],3⟩],[⟨b40,[s54.v,s55.v,s56.v,s57.v],50⟩],[⟨b3,[nilS.v,nilS.v,nilS.v,nilS.v],50⟩]]∧OwnL m 3 q179 s54 t_178.Rows∧OwnL m 3 q55 s55 t_178.Cols∧t_178.Cols = t_53.Cols∧OwnD m 28 3 q142 s56 t_178.Lo∧t_178.Lo = t_139.Lo∧OwnD m 28 3 q182 s57 t_178.Hi) ?_ ?_
      ·refine q_block (q_sr (q_m hF rfl fun a hF=>?_))
       obtain ⟨e_156,he_156,hj12⟩:=bindS hj12
       obtain ⟨vs157,at157,d157⟩:=h146.at he_156 1 rfl
       obtain rfl : vs157 = [(iV e_156)]:=d157
       refine q_y (v:=(elP s146 (t_150.toNat * 1))) hF hS (ex_indexAddr U28 sz3 rfl rfl (h146.idx he_156)) fun a hF=>q_y (v:=(iV e_156)) hF hS (ex_loadE1 0 U3 rfl rfl (at157.at 3 rfl) rfl rfl) fun a hF=>q_s hF rfl fun a hF=>q_s hF rfl fun a hF=>q_end (n_sq (q_seq (e_region ⟨[5,7],[b40],m⟩ mixed fun w' hw'=>?_)))
       have hS:=hS.below hw'
       refine e_P (v:=(pP b40 0)) 0 hF rfl (ex_fieldAddr U50 rfl sz28 rfl rfl) fun a hF=>e_xb (v:=s54.v) 1 6 hF hS (.head _) rfl rfl (ex_load1 0 0 U28 rfl rfl rfl rfl) rfl rfl (by kernel_rfl) (by kernel_rfl) (by kernel_rfl) fun a hF=>e_P (v:=(iV t_150)) 2 hF rfl (ex_move rfl) fun a hF=>e_P (v:=(.func (.func 174) #[] #[(pP b2 0)])) 3 hF rfl (ex_move rfl) fun a hF=>e_P (v:=(iV e_156)) 4 hF rfl (ex_move rfl) fun a hF=>e_one 5 (by kernel_rfl) ?_
       have hS : St _ _ _ _ [[⟨b2,[(iV p_base)],3⟩],q152,q155,q149,q146,q55,q142,[⟨b40,[s54.v,s55.v,s56.v,s57.v],50⟩],[⟨b3,[nilS.v,nilS.v,nilS.v,nilS.v],50⟩]]:=hS.sel [8,0,1,2,3,4,5,6,7] (by decide)
       have hS158 : St _ _ _ _ ([[⟨b2,[(iV p_base)],3⟩]]++[q152,q155,q149,q146,q55,q142,[⟨b40,[s54.v,s55.v,s56.v,s57.v],50⟩],[⟨b3,[nilS.v,nilS.v,nilS.v,nilS.v],50⟩]]):=hS
       have hE158:=hS158.enter
       obtain ⟨t_159,ht_159,hj12⟩:=bindS hj12
       have hSo:=hS
       refine e_opl rfl rfl rfl fun _ hK=>wp_callV (vs:=[(iV e_156)]) (cap:=[(pP b2 0)]) hF rfl Try.func174 (by kernel_rfl) rfl rfl rfl (c_impl_roundingNetwork_2 e_156 p_base t_159 ht_159 _ m b2 _ hE158) fun a w _ hR hF=>hK _ _ ?_
       obtain ⟨rfl,hR158⟩:=hR
       have hS : St _ _ _ _ [[⟨b2,[(iV p_base)],3⟩],q152,q155,q149,q146,q55,q142,[⟨b40,[s54.v,s55.v,s56.v,s57.v],50⟩],[⟨b3,[nilS.v,nilS.v,nilS.v,nilS.v],50⟩]]:=hS158.leaveF hR158
       refine ⟨⟨kpC hSo hS 7 7 rfl rfl kpN,fun _=>hS.vis.of_le (Mem.le.refl _)⟩,?_⟩
       obtain ⟨e_160,he_160,hj12⟩:=bindS hj12
       obtain ⟨vs161,at161,d161⟩:=h152.at he_160 1 rfl
       obtain rfl : vs161 = [(iV e_160)]:=d161
       refine e_P (v:=(elP s54 (t_150.toNat * 1))) 6 hF rfl (ex_indexAddr U28 sz3 rfl rfl (h152.idx he_160)) fun a hF=>e_one 7 (by kernel_rfl) ?_
       have hS : St _ _ _ _ [q152,[⟨b2,[(iV p_base)],3⟩],q155,q149,q146,q55,q142,[⟨b40,[s54.v,s55.v,s56.v,s57.v],50⟩],[⟨b3,[nilS.v,nilS.v,nilS.v,nilS.v],50⟩]]:=hS.sel [1,0,2,3,4,5,6,7,8] (by decide)
       have hSo:=hS
       refine e_opl rfl rfl rfl fun _ hK=>wp_storeE (e':=t_159) (us:=[(iV t_159)]) (vs:=[(iV e_160)]) 0 hF hS h152 sz3 rfl rfl rfl rfl rfl rfl rfl he_160 at161 rfl rfl rfl fun w q162 hS h162=>hK _ _ (⟨⟨kpC hSo hS 7 7 rfl rfl kpN,fun _=>hS.vis.of_le (Mem.le.refl _)⟩,?_⟩)
       refine e_end (by kernel_rfl) (n_sq ?_) _
       refine e_region ⟨[8,11,14],[b40],m⟩ mixed fun w' hw'=>?_
       have hS:=hS.below hw'
       refine e_P (v:=(pP b40 3)) 0 hF rfl (ex_fieldAddr U50 rfl sz23 rfl rfl) fun a hF=>e_xb (v:=s57.v) 1 7 hF hS (.head _) rfl rfl (ex_load1 0 0 U23 rfl rfl rfl rfl) rfl rfl (by kernel_rfl) (by kernel_rfl) (by kernel_rfl) fun a hF=>e_P (v:=(iV t_150)) 2 hF rfl (ex_move rfl) fun a hF=>?_
       obtain ⟨e_163,he_163,hj12⟩:=bindS hj12
       obtain ⟨s164,hV164⟩:=h155.view he_163
       refine e_P (v:=(elP s57 (t_150.toNat * 1))) 3 hF rfl (ex_indexAddr U23 sz28 rfl rfl (h155.idx he_163)) fun a hF=>e_P (v:=(iV (goLen e_4))) 5 hF rfl (ex_move rfl) fun a hF=>e_P (v:=(.func (.func 174) #[] #[(pP b2 0)])) 6 hF rfl (ex_move rfl) fun a hF=>e_P (v:=(iV e_156)) 7 hF rfl (ex_move rfl) fun a hF=>e_P (v:=(.func (.func 173) #[] #[(pP b2 0)])) 9 hF rfl (ex_move rfl) fun a hF=>e_P (v:=(iV e_156)) 10 hF rfl (ex_move rfl) fun a hF=>?_
       obtain ⟨t_172,ht_172,hj12⟩:=bindS hj12
       obtain ⟨t_174,ht_174,hj12⟩:=bindS hj12
       obtain ⟨e_175,he_175,hj12⟩:=bindS hj12
       refine e_all [4,8] (by kernel_rfl) rfl ⟨?_,?_,trivial⟩
       ·refine e_lx (v:=s164.v) hF hS rfl (ex_loadE1 0 U28 rfl rfl ((hV164.atH he_163).at 2 rfl) rfl rfl) rfl rfl fun a hF=>e_one 8 (by kernel_rfl) ?_
        have hS : St _ _ _ _ [[⟨b2,[(iV p_base)],3⟩],q162,q155,q149,q146,q55,q142,[⟨b40,[s54.v,s55.v,s56.v,s57.v],50⟩],[⟨b3,[nilS.v,nilS.v,nilS.v,nilS.v],50⟩]]:=hS.sel [1,0,2,3,4,5,6,7,8] (by decide)
        have hS171 : St _ _ _ _ ([[⟨b2,[(iV p_base)],3⟩]]++[q162,q155,q149,q146,q55,q142,[⟨b40,[s54.v,s55.v,s56.v,s57.v],50⟩],[⟨b3,[nilS.v,nilS.v,nilS.v,nilS.v],50⟩]]):=hS
        have hE171:=hS171.enter
        have hSo:=hS
        refine e_opl rfl rfl rfl fun _ hK=>wp_callV (vs:=[(iV e_156)]) (cap:=[(pP b2 0)]) hF rfl Try.func174 (by kernel_rfl) rfl rfl rfl (c_impl_roundingNetwork_2 e_156 p_base t_172 ht_172 _ m b2 _ hE171) fun a w _ hR hF=>hK _ _ ?_
        obtain ⟨rfl,hR171⟩:=hR
        have hS : St _ _ _ _ [[⟨b2,[(iV p_base)],3⟩],q162,q155,q149,q146,q55,q142,[⟨b40,[s54.v,s55.v,s56.v,s57.v],50⟩],[⟨b3,[nilS.v,nilS.v,nilS.v,nilS.v],50⟩]]:=hS171.leaveF hR171
        refine ⟨⟨kpC hSo hS 7 7 rfl rfl kpN,fun _=>hS.vis.of_le (Mem.le.refl _)⟩,?_⟩
        refine e_one 11 (by kernel_rfl) ?_
        have hS173 : St _ _ _ _ ([[⟨b2,[(iV p_base)],3⟩]]++[q162,q155,q149,q146,q55,q142,[⟨b40,[s54.v,s55.v,s56.v,s57.v],50⟩],[⟨b3,[nilS.v,nilS.v,nilS.v,nilS.v],50⟩]]):=hS
        have hE173:=hS173.enter
        have hSo:=hS
        refine e_opl rfl rfl rfl fun _ hK=>wp_callV (vs:=[(iV e_156)]) (cap:=[(pP b2 0)]) hF rfl Try.func173 (by kernel_rfl) rfl rfl rfl (c_impl_roundingNetwork_1 e_156 p_base t_174 ht_174 _ m b2 _ hE173) fun a w _ hR hF=>hK _ _ ?_
        obtain ⟨rfl,hR173⟩:=hR
        have hS : St _ _ _ _ [[⟨b2,[(iV p_base)],3⟩],q162,q155,q149,q146,q55,q142,[⟨b40,[s54.v,s55.v,s56.v,s57.v],50⟩],[⟨b3,[nilS.v,nilS.v,nilS.v,nilS.v],50⟩]]:=hS173.leaveF hR173
        refine ⟨⟨kpC hSo hS 7 7 rfl rfl kpN,fun _=>hS.vis.of_le (Mem.le.refl _)⟩,?_⟩
        refine e_P (v:=(iV (w64 (t_172 - t_174)))) 12 hF rfl (ex_ibin rfl rfl rfl) fun a hF=>?_
        obtain ⟨vs176,at176,d176⟩:=hV164.at he_163 he_175 1 rfl
        obtain rfl : vs176 = [(iV e_175)]:=d176
        refine e_P (v:=(elP s164 ((goLen e_4).toNat * 1))) 13 hF rfl (ex_indexAddr U28 sz3 rfl rfl (hV164.idx he_163 he_175)) fun a hF=>e_one 14 (by kernel_rfl) ?_
        have hS : St _ _ _ _ [q155,[⟨b2,[(iV p_base)],3⟩],q162,q149,q146,q55,q142,[⟨b40,[s54.v,s55.v,s56.v,s57.v],50⟩],[⟨b3,[nilS.v,nilS.v,nilS.v,nilS.v],50⟩]]:=hS.sel [2,0,1,3,4,5,6,7,8] (by decide)
        have hSo:=hS
        refine e_opl rfl rfl rfl fun _ hK=>wp_storeV (e':=(w64 (t_172 - t_174))) (us:=[(iV (w64 (t_172 - t_174)))]) (vs:=[(iV e_175)]) 0 hF hS hV164 he_163 sz3 rfl rfl rfl rfl rfl rfl rfl he_175 at176 rfl rfl rfl fun w q177 hS h177=>hK _ _ (⟨⟨kpC hSo hS 7 7 rfl rfl kpN,fun _=>hS.vis.of_le (Mem.le.refl _)⟩,?_⟩)
        refine e_end (by kernel_rfl) (n_ib (n_jn ?_)) _
        obtain rfl:=someI hj12
        exact ⟨q162,q177,hF.sub ⟨rfl,rfl,rfl,rfl,rfl,rfl,rfl,rfl,rfl,rfl,rfl,trivial⟩,hS.sel [4,3,2,5,6,0,1,7,8] (by decide),h162,h153,h153k,h154,h154k,h177.own⟩
       ·have hS : St _ _ _ _ [[⟨b2,[(iV p_base)],3⟩],q162,q155,q149,q146,q55,q142,[⟨b40,[s54.v,s55.v,s56.v,s57.v],50⟩],[⟨b3,[nilS.v,nilS.v,nilS.v,nilS.v],50⟩]]:=hS.sel [1,0,2,3,4,5,6,7,8] (by decide)
        have hS171 : St _ _ _ _ ([[⟨b2,[(iV p_base)],3⟩]]++[q162,q155,q149,q146,q55,q142,[⟨b40,[s54.v,s55.v,s56.v,s57.v],50⟩],[⟨b3,[nilS.v,nilS.v,nilS.v,nilS.v],50⟩]]):=hS
        have hE171:=hS171.enter
        have hSo:=hS
        refine e_opl rfl rfl rfl fun _ hK=>wp_callV (vs:=[(iV e_156)]) (cap:=[(pP b2 0)]) hF rfl Try.func174 (by kernel_rfl) rfl rfl rfl (c_impl_roundingNetwork_2 e_156 p_base t_172 ht_172 _ m b2 _ hE171) fun a w _ hR hF=>hK _ _ ?_
        obtain ⟨rfl,hR171⟩:=hR
        have hS : St _ _ _ _ [[⟨b2,[(iV p_base)],3⟩],q162,q155,q149,q146,q55,q142,[⟨b40,[s54.v,s55.v,s56.v,s57.v],50⟩],[⟨b3,[nilS.v,nilS.v,nilS.v,nilS.v],50⟩]]:=hS171.leaveF hR171
        refine ⟨⟨kpC hSo hS 7 7 rfl rfl kpN,fun _=>hS.vis.of_le (Mem.le.refl _)⟩,?_⟩
        refine e_all [4,11] (by kernel_rfl) rfl ⟨?_,?_,trivial⟩
        ·refine e_lx (v:=s164.v) hF hS rfl (ex_loadE1 0 U28 rfl rfl ((hV164.atH he_163).at 2 rfl) rfl rfl) rfl rfl fun a hF=>e_one 11 (by kernel_rfl) ?_
         have hS173 : St _ _ _ _ ([[⟨b2,[(iV p_base)],3⟩]]++[q162,q155,q149,q146,q55,q142,[⟨b40,[s54.v,s55.v,s56.v,s57.v],50⟩],[⟨b3,[nilS.v,nilS.v,nilS.v,nilS.v],50⟩]]):=hS
         have hE173:=hS173.enter
         have hSo:=hS
         refine e_opl rfl rfl rfl fun _ hK=>wp_callV (vs:=[(iV e_156)]) (cap:=[(pP b2 0)]) hF rfl Try.func173 (by kernel_rfl) rfl rfl rfl (c_impl_roundingNetwork_1 e_156 p_base t_174 ht_174 _ m b2 _ hE173) fun a w _ hR hF=>hK _ _ ?_
         obtain ⟨rfl,hR173⟩:=hR
         have hS : St _ _ _ _ [[⟨b2,[(iV p_base)],3⟩],q162,q155,q149,q146,q55,q142,[⟨b40,[s54.v,s55.v,s56.v,s57.v],50⟩],[⟨b3,[nilS.v,nilS.v,nilS.v,nilS.v],50⟩]]:=hS173.leaveF hR173
         refine ⟨⟨kpC hSo hS 7 7 rfl rfl kpN,fun _=>hS.vis.of_le (Mem.le.refl _)⟩,?_⟩
         refine e_P (v:=(iV (w64 (t_172 - t_174)))) 12 hF rfl (ex_ibin rfl rfl rfl) fun a hF=>?_
         obtain ⟨vs176,at176,d176⟩:=hV164.at he_163 he_175 1 rfl
         obtain rfl : vs176 = [(iV e_175)]:=d176
         refine e_P (v:=(elP s164 ((goLen e_4).toNat * 1))) 13 hF rfl (ex_indexAddr U28 sz3 rfl rfl (hV164.idx he_163 he_175)) fun a hF=>e_one 14 (by kernel_rfl) ?_
         have hS : St _ _ _ _ [q155,[⟨b2,[(iV p_base)],3⟩],q162,q149,q146,q55,q142,[⟨b40,[s54.v,s55.v,s56.v,s57.v],50⟩],[⟨b3,[nilS.v,nilS.v,nilS.v,nilS.v],50⟩]]:=hS.sel [2,0,1,3,4,5,6,7,8] (by decide)
         have hSo:=hS
         refine e_opl rfl rfl rfl fun _ hK=>wp_storeV (e':=(w64 (t_172 - t_174))) (us:=[(iV (w64 (t_172 - t_174)))]) (vs:=[(iV e_175)]) 0 hF hS hV164 he_163 sz3 rfl rfl rfl rfl rfl rfl rfl he_175 at176 rfl rfl rfl fun w q177 hS h177=>hK _ _ (⟨⟨kpC hSo hS 7 7 rfl rfl kpN,fun _=>hS.vis.of_le (Mem.le.refl _)⟩,?_⟩)
         refine e_end (by kernel_rfl) (n_ib (n_jn ?_)) _
         obtain rfl:=someI hj12
         exact ⟨q162,q177,hF.sub ⟨rfl,rfl,rfl,rfl,rfl,rfl,rfl,rfl,rfl,rfl,rfl,trivial⟩,hS.sel [4,3,2,5,6,0,1,7,8] (by decide),h162,h153,h153k,h154,h154k,h177.own⟩
        ·have hS173 : St _ _ _ _ ([[⟨b2,[(iV p_base)],3⟩]]++[q162,q155,q149,q146,q55,q142,[⟨b40,[s54.v,s55.v,s56.v,s57.v],50⟩],[⟨b3,[nilS.v,nilS.v,nilS.v,nilS.v],50⟩]]):=hS
         have hE173:=hS173.enter
         have hSo:=hS
         refine e_opl rfl rfl rfl fun _ hK=>wp_callV (vs:=[(iV e_156)]) (cap:=[(pP b2 0)]) hF rfl Try.func173 (by kernel_rfl) rfl rfl rfl (c_impl_roundingNetwork_1 e_156 p_base t_174 ht_174 _ m b2 _ hE173) fun a w _ hR hF=>hK _ _ ?_
         obtain ⟨rfl,hR173⟩:=hR
         have hS : St _ _ _ _ [[⟨b2,[(iV p_base)],3⟩],q162,q155,q149,q146,q55,q142,[⟨b40,[s54.v,s55.v,s56.v,s57.v],50⟩],[⟨b3,[nilS.v,nilS.v,nilS.v,nilS.v],50⟩]]:=hS173.leaveF hR173
         refine ⟨⟨kpC hSo hS 7 7 rfl rfl kpN,fun _=>hS.vis.of_le (Mem.le.refl _)⟩,?_⟩
         refine e_X (v:=s164.v) 4 hF hS rfl (ex_loadE1 0 U28 rfl rfl ((hV164.atH he_163).at 2 rfl) rfl rfl) fun a hF=>e_P (v:=(iV (w64 (t_172 - t_174)))) 12 hF rfl (ex_ibin rfl rfl rfl) fun a hF=>?_
         obtain ⟨vs176,at176,d176⟩:=hV164.at he_163 he_175 1 rfl
         obtain rfl : vs176 = [(iV e_175)]:=d176
         refine e_P (v:=(elP s164 ((goLen e_4).toNat * 1))) 13 hF rfl (ex_indexAddr U28 sz3 rfl rfl (hV164.idx he_163 he_175)) fun a hF=>e_one 14 (by kernel_rfl) ?_
         have hS : St _ _ _ _ [q155,[⟨b2,[(iV p_base)],3⟩],q162,q149,q146,q55,q142,[⟨b40,[s54.v,s55.v,s56.v,s57.v],50⟩],[⟨b3,[nilS.v,nilS.v,nilS.v,nilS.v],50⟩]]:=hS.sel [2,0,1,3,4,5,6,7,8] (by decide)
         have hSo:=hS
         refine e_opl rfl rfl rfl fun _ hK=>wp_storeV (e':=(w64 (t_172 - t_174))) (us:=[(iV (w64 (t_172 - t_174)))]) (vs:=[(iV e_175)]) 0 hF hS hV164 he_163 sz3 rfl rfl rfl rfl rfl rfl rfl he_175 at176 rfl rfl rfl fun w q177 hS h177=>hK _ _ (⟨⟨kpC hSo hS 7 7 rfl rfl kpN,fun _=>hS.vis.of_le (Mem.le.refl _)⟩,?_⟩)
         refine e_end (by kernel_rfl) (n_ib (n_jn ?_)) _
         obtain rfl:=someI hj12
         exact ⟨q162,q177,hF.sub ⟨rfl,rfl,rfl,rfl,rfl,rfl,rfl,rfl,rfl,rfl,rfl,trivial⟩,hS.sel [4,3,2,5,6,0,1,7,8] (by decide),h162,h153,h153k,h154,h154k,h177.own⟩
      ·rintro a w ⟨q179,q182,hF,hS,h179,h180,h180k,h181,h181k,h182⟩
       refine n_sq ?_
       refine q_region (q_y (v:=(iV (w64 (t_150 + 1)))) hF hS (ex_ibin rfl rfl rfl) fun a hF=>q_m hF rfl fun a hF=>q_end ?_)
       obtain rfl:=someI hb10
       exact ⟨rfl,q179,q182,_,_,rfl,hF.sub ⟨rfl,rfl,rfl,rfl,rfl,rfl,rfl,rfl,rfl,rfl,rfl,trivial⟩,hS.sel [2,5,1,0,3,4,7,8,6] (by decide),h179,h180,h180k,h181,h181k,h182⟩
    ·rintro e a w ⟨q184,q187,rfl,hF,hS,h184,h185,h185k,h186,h186k,h187⟩
     refine x_ib (n_sq ?_)
     refine q_seq (q_sr (q_m hF rfl fun a hF=>q_y (v:=(iV (goLen t_147))) hF hS (ex_len U28 rfl h149.len) fun a hF=>q_m hF rfl fun a hF=>q_end (n_sq (q_block ?_))))
     obtain ⟨t_221,hl13,hr⟩:=bindS hr
     refine q_loop (fun (s : Int × impl_Transport) a w=>∃ (q191 : Piece),∃ (q193 : Piece),∃ t_188,∃ t_189,s = (t_188,t_189)∧Fr a 203 [(4,(pP b3 0)),(5,(.func (.func 173) #[] #[(pP b2 0)])),(6,(.func (.func 174) #[] #[(pP b2 0)])),(7,(iV (goLen p_x))),(8,(iV (goLen e_4))),(9,(pP b40 0)),(15,s146.v),(133,s149.v),(134,(iV (goLen t_147))),(135,(iV t_188))]∧St [] w0 w m [q191,q193,q146,q149,q184,q142,[⟨b40,[s54.v,s55.v,s56.v,s57.v],50⟩],[⟨b3,[nilS.v,nilS.v,nilS.v,nilS.v],50⟩],[⟨b2,[(iV p_base)],3⟩]]∧OwnL m 3 q184 s54 t_189.Rows∧t_189.Rows = t_183.Rows∧OwnL m 3 q191 s55 t_189.Cols∧OwnD m 28 3 q142 s56 t_189.Lo∧t_189.Lo = t_139.Lo∧OwnD m 28 3 q193 s57 t_189.Hi) (fun (t_221 : impl_Transport) e a w=>∃ (q223 : Piece),∃ (q225 : Piece),e = .exit 8∧Fr a 203 [(4,(pP b3 0)),(5,(.func (.func 173) #[] #[(pP b2 0)])),(6,(.func (.func 174) #[] #[(pP b2 0)])),(7,(iV (goLen p_x))),(8,(iV (goLen e_4))),(9,(pP b40 0)),(15,s146.v)]∧St [] w0 w m [q146,q184,q223,q142,q225,[⟨b40,[s54.v,s55.v,s56.v,s57.v],50⟩],[⟨b3,[nilS.v,nilS.v,nilS.v,nilS.v],50⟩],[⟨b2,[(iV p_base)],3⟩]]∧OwnL m 3 q184 s54 t_221.Rows∧t_221.Rows = t_183.Rows∧OwnL m 3 q223 s55 t_221.Cols∧OwnD m 28 3 q142 s56 t_221.Lo∧t_221.Lo = t_139.Lo∧OwnD m 28 3 q225 s57 t_221.Hi) hl13 ⟨q55,q187,_,_,rfl,hF.sub ⟨rfl,rfl,rfl,rfl,rfl,rfl,rfl,rfl,rfl,rfl,trivial⟩,hS.sel [3,5,0,1,2,4,6,7,8] (by decide),h184,rfl,h185,h186,h186k,h187⟩ ?_ ?_
     ·clear hF hS
      rintro s a w st ⟨q191,q193,t_188,t_189,rfl,hF,hS,h190,h190k,h191,h192,h192k,h193⟩ hb13
      unfold impl_roundingNetwork_l5 at hb13
      refine q_sr (q_y (v:=(.bool (decide (t_188 < (goLen t_147))))) hF hS (ex_ibin rfl rfl rfl) fun a hF=>q_end (n_sq (q_seq ?_)))
      rcases bcase (decide (t_188 < (goLen t_147))) with hc14 | hc14
      ·have hb13:=cond_f hc14 hb13
       refine q_cond_f hF rfl hc14 (q_exit (x_sq ?_))
       obtain rfl:=someI hb13
       exact ⟨nofun,.inl ⟨q191,q193,rfl,hF.sub ⟨rfl,rfl,rfl,rfl,rfl,rfl,rfl,trivial⟩,hS.sel [2,4,0,5,1,6,7,8] (by decide),h190,h190k,h191,h192,h192k,h193⟩⟩
      ·have hb13:=cond_t hc14 hb13
       refine q_cond_t hF rfl hc14 (q_skipc (n_sq (q_seq ?_)))
       obtain ⟨t_216,hj15,hb13⟩:=bindS hb13
       refine q_join (fun a w=>∃ (q218 : Piece),∃ (q220 : Piece),Fr a 203 [(4,(pP b3 0)),(5,(.func (.func 173) #[] #[(pP b2 0)])),(6,(.func (.func 174) #[] #[(pP b2 0)])),(7,(iV (goLen p_x))),(8,(iV (goLen e_4))),(9,(pP b40 0)),(15,s146.v),(133,s149.v),(134,(iV (goLen t_147))),(135,(iV t_188))]∧St [] w0 w m [q146,q149,q184,q218,q142,q220,[⟨b2,[(iV p_base)],3⟩],[⟨b40,[s54.v,s55.v,s56.v,s57.v],50⟩],[⟨b3,[nilS.v,nilS.v,nilS.v,nilS.v],50⟩]]∧OwnL m 3 q184 s54 t_216.Rows∧t_216.Rows = t_183.Rows∧OwnL m 3 q218 s55 t_216.Cols∧OwnD m 28 3 q142 s56 t_216.Lo∧t_216.Lo = t_139.Lo∧OwnD m 28 3 q220 s57 t_216.Hi) ?_ ?_
       ·refine q_block (q_sr (q_m hF rfl fun a hF=>?_))
        obtain ⟨e_194,he_194,hj15⟩:=bindS hj15
        obtain ⟨vs195,at195,d195⟩:=h149.at he_194 1 rfl
        obtain rfl : vs195 = [(iV e_194)]:=d195
        refine q_y (v:=(elP s149 (t_188.toNat * 1))) hF hS (ex_indexAddr U28 sz3 rfl rfl (h149.idx he_194)) fun a hF=>q_y (v:=(iV e_194)) hF hS (ex_loadE1 0 U3 rfl rfl (at195.at 3 rfl) rfl rfl) fun a hF=>q_s hF rfl fun a hF=>q_s hF rfl fun a hF=>q_end (n_sq (q_seq (e_region ⟨[5,7],[b40],m⟩ mixed fun w' hw'=>?_)))
        have hS:=hS.below hw'
        refine e_P (v:=(pP b40 1)) 0 hF rfl (ex_fieldAddr U50 rfl sz28 rfl rfl) fun a hF=>e_xb (v:=s55.v) 1 6 hF hS (.head _) rfl rfl (ex_load1 0 0 U28 rfl rfl rfl rfl) rfl rfl (by kernel_rfl) (by kernel_rfl) (by kernel_rfl) fun a hF=>e_P (v:=(iV t_188)) 2 hF rfl (ex_move rfl) fun a hF=>e_P (v:=(.func (.func 174) #[] #[(pP b2 0)])) 3 hF rfl (ex_move rfl) fun a hF=>e_P (v:=(iV e_194)) 4 hF rfl (ex_move rfl) fun a hF=>e_one 5 (by kernel_rfl) ?_
        have hS : St _ _ _ _ [[⟨b2,[(iV p_base)],3⟩],q191,q193,q146,q149,q184,q142,[⟨b40,[s54.v,s55.v,s56.v,s57.v],50⟩],[⟨b3,[nilS.v,nilS.v,nilS.v,nilS.v],50⟩]]:=hS.sel [8,0,1,2,3,4,5,6,7] (by decide)
        have hS196 : St _ _ _ _ ([[⟨b2,[(iV p_base)],3⟩]]++[q191,q193,q146,q149,q184,q142,[⟨b40,[s54.v,s55.v,s56.v,s57.v],50⟩],[⟨b3,[nilS.v,nilS.v,nilS.v,nilS.v],50⟩]]):=hS
        have hE196:=hS196.enter
        obtain ⟨t_197,ht_197,hj15⟩:=bindS hj15
        have hSo:=hS
        refine e_opl rfl rfl rfl fun _ hK=>wp_callV (vs:=[(iV e_194)]) (cap:=[(pP b2 0)]) hF rfl Try.func174 (by kernel_rfl) rfl rfl rfl (c_impl_roundingNetwork_2 e_194 p_base t_197 ht_197 _ m b2 _ hE196) fun a w _ hR hF=>hK _ _ ?_
        obtain ⟨rfl,hR196⟩:=hR
        have hS : St _ _ _ _ [[⟨b2,[(iV p_base)],3⟩],q191,q193,q146,q149,q184,q142,[⟨b40,[s54.v,s55.v,s56.v,s57.v],50⟩],[⟨b3,[nilS.v,nilS.v,nilS.v,nilS.v],50⟩]]:=hS196.leaveF hR196
        refine ⟨⟨kpC hSo hS 7 7 rfl rfl kpN,fun _=>hS.vis.of_le (Mem.le.refl _)⟩,?_⟩
        obtain ⟨e_198,he_198,hj15⟩:=bindS hj15
        obtain ⟨vs199,at199,d199⟩:=h191.at he_198 1 rfl
        obtain rfl : vs199 = [(iV e_198)]:=d199
        refine e_P (v:=(elP s55 (t_188.toNat * 1))) 6 hF rfl (ex_indexAddr U28 sz3 rfl rfl (h191.idx he_198)) fun a hF=>e_one 7 (by kernel_rfl) ?_
        have hS : St _ _ _ _ [q191,[⟨b2,[(iV p_base)],3⟩],q193,q146,q149,q184,q142,[⟨b40,[s54.v,s55.v,s56.v,s57.v],50⟩],[⟨b3,[nilS.v,nilS.v,nilS.v,nilS.v],50⟩]]:=hS.sel [1,0,2,3,4,5,6,7,8] (by decide)
        have hSo:=hS
        refine e_opl rfl rfl rfl fun _ hK=>wp_storeE (e':=t_197) (us:=[(iV t_197)]) (vs:=[(iV e_198)]) 0 hF hS h191 sz3 rfl rfl rfl rfl rfl rfl rfl he_198 at199 rfl rfl rfl fun w q200 hS h200=>hK _ _ (⟨⟨kpC hSo hS 7 7 rfl rfl kpN,fun _=>hS.vis.of_le (Mem.le.refl _)⟩,?_⟩)
        refine e_end (by kernel_rfl) (n_sq ?_) _
        refine e_region ⟨[8,11,14],[b40],m⟩ mixed fun w' hw'=>?_
        have hS:=hS.below hw'
        refine e_P (v:=(pP b40 3)) 0 hF rfl (ex_fieldAddr U50 rfl sz23 rfl rfl) fun a hF=>e_xb (v:=s57.v) 1 7 hF hS (.head _) rfl rfl (ex_load1 0 0 U23 rfl rfl rfl rfl) rfl rfl (by kernel_rfl) (by kernel_rfl) (by kernel_rfl) fun a hF=>e_P (v:=(iV (goLen p_x))) 2 hF rfl (ex_move rfl) fun a hF=>?_
        obtain ⟨e_201,he_201,hj15⟩:=bindS hj15
        obtain ⟨s202,hV202⟩:=h193.view he_201
        refine e_P (v:=(elP s57 ((goLen p_x).toNat * 1))) 3 hF rfl (ex_indexAddr U23 sz28 rfl rfl (h193.idx he_201)) fun a hF=>e_P (v:=(iV t_188)) 5 hF rfl (ex_move rfl) fun a hF=>e_P (v:=(.func (.func 174) #[] #[(pP b2 0)])) 6 hF rfl (ex_move rfl) fun a hF=>e_P (v:=(iV e_194)) 7 hF rfl (ex_move rfl) fun a hF=>e_P (v:=(.func (.func 173) #[] #[(pP b2 0)])) 9 hF rfl (ex_move rfl) fun a hF=>e_P (v:=(iV e_194)) 10 hF rfl (ex_move rfl) fun a hF=>?_
        obtain ⟨t_210,ht_210,hj15⟩:=bindS hj15
        obtain ⟨t_212,ht_212,hj15⟩:=bindS hj15
        obtain ⟨e_213,he_213,hj15⟩:=bindS hj15
        refine e_all [4,8] (by kernel_rfl) rfl ⟨?_,?_,trivial⟩
        ·refine e_lx (v:=s202.v) hF hS rfl (ex_loadE1 0 U28 rfl rfl ((hV202.atH he_201).at 2 rfl) rfl rfl) rfl rfl fun a hF=>e_one 8 (by kernel_rfl) ?_
         have hS : St _ _ _ _ [[⟨b2,[(iV p_base)],3⟩],q200,q193,q146,q149,q184,q142,[⟨b40,[s54.v,s55.v,s56.v,s57.v],50⟩],[⟨b3,[nilS.v,nilS.v,nilS.v,nilS.v],50⟩]]:=hS.sel [1,0,2,3,4,5,6,7,8] (by decide)
         have hS209 : St _ _ _ _ ([[⟨b2,[(iV p_base)],3⟩]]++[q200,q193,q146,q149,q184,q142,[⟨b40,[s54.v,s55.v,s56.v,s57.v],50⟩],[⟨b3,[nilS.v,nilS.v,nilS.v,nilS.v],50⟩]]):=hS
         have hE209:=hS209.enter
         have hSo:=hS
         refine e_opl rfl rfl rfl fun _ hK=>wp_callV (vs:=[(iV e_194)]) (cap:=[(pP b2 0)]) hF rfl Try.func174 (by kernel_rfl) rfl rfl rfl (c_impl_roundingNetwork_2 e_194 p_base t_210 ht_210 _ m b2 _ hE209) fun a w _ hR hF=>hK _ _ ?_
         obtain ⟨rfl,hR209⟩:=hR
         have hS : St _ _ _ _ [[⟨b2,[(iV p_base)],3⟩],q200,q193,q146,q149,q184,q142,[⟨b40,[s54.v,s55.v,s56.v,s57.v],50⟩],[⟨b3,[nilS.v,nilS.v,nilS.v,nilS.v],50⟩]]:=hS209.leaveF hR209
         refine ⟨⟨kpC hSo hS 7 7 rfl rfl kpN,fun _=>hS.vis.of_le (Mem.le.refl _)⟩,?_⟩
         refine e_one 11 (by kernel_rfl) ?_
         have hS211 : St _ _ _ _ ([[⟨b2,[(iV p_base)],3⟩]]++[q200,q193,q146,q149,q184,q142,[⟨b40,[s54.v,s55.v,s56.v,s57.v],50⟩],[⟨b3,[nilS.v,nilS.v,nilS.v,nilS.v],50⟩]]):=hS
         have hE211:=hS211.enter
         have hSo:=hS
         refine e_opl rfl rfl rfl fun _ hK=>wp_callV (vs:=[(iV e_194)]) (cap:=[(pP b2 0)]) hF rfl Try.func173 (by kernel_rfl) rfl rfl rfl (c_impl_roundingNetwork_1 e_194 p_base t_212 ht_212 _ m b2 _ hE211) fun a w _ hR hF=>hK _ _ ?_
         obtain ⟨rfl,hR211⟩:=hR
         have hS : St _ _ _ _ [[⟨b2,[(iV p_base)],3⟩],q200,q193,q146,q149,q184,q142,[⟨b40,[s54.v,s55.v,s56.v,s57.v],50⟩],[⟨b3,[nilS.v,nilS.v,nilS.v,nilS.v],50⟩]]:=hS211.leaveF hR211
         refine ⟨⟨kpC hSo hS 7 7 rfl rfl kpN,fun _=>hS.vis.of_le (Mem.le.refl _)⟩,?_⟩
         refine e_P (v:=(iV (w64 (t_210 - t_212)))) 12 hF rfl (ex_ibin rfl rfl rfl) fun a hF=>?_
         obtain ⟨vs214,at214,d214⟩:=hV202.at he_201 he_213 1 rfl
         obtain rfl : vs214 = [(iV e_213)]:=d214
         refine e_P (v:=(elP s202 (t_188.toNat * 1))) 13 hF rfl (ex_indexAddr U28 sz3 rfl rfl (hV202.idx he_201 he_213)) fun a hF=>e_one 14 (by kernel_rfl) ?_
         have hS : St _ _ _ _ [q193,[⟨b2,[(iV p_base)],3⟩],q200,q146,q149,q184,q142,[⟨b40,[s54.v,s55.v,s56.v,s57.v],50⟩],[⟨b3,[nilS.v,nilS.v,nilS.v,nilS.v],50⟩]]:=hS.sel [2,0,1,3,4,5,6,7,8] (by decide)
         have hSo:=hS
         refine e_opl rfl rfl rfl fun _ hK=>wp_storeV (e':=(w64 (t_210 - t_212))) (us:=[(iV (w64 (t_210 - t_212)))]) (vs:=[(iV e_213)]) 0 hF hS hV202 he_201 sz3 rfl rfl rfl rfl rfl rfl rfl he_213 at214 rfl rfl rfl fun w q215 hS h215=>hK _ _ (⟨⟨kpC hSo hS 7 7 rfl rfl kpN,fun _=>hS.vis.of_le (Mem.le.refl _)⟩,?_⟩)
         refine e_end (by kernel_rfl) (n_ib (n_jn ?_)) _
         obtain rfl:=someI hj15
         exact ⟨q200,q215,hF.sub ⟨rfl,rfl,rfl,rfl,rfl,rfl,rfl,rfl,rfl,rfl,trivial⟩,hS.sel [3,4,5,2,6,0,1,7,8] (by decide),h190,h190k,h200,h192,h192k,h215.own⟩
        ·have hS : St _ _ _ _ [[⟨b2,[(iV p_base)],3⟩],q200,q193,q146,q149,q184,q142,[⟨b40,[s54.v,s55.v,s56.v,s57.v],50⟩],[⟨b3,[nilS.v,nilS.v,nilS.v,nilS.v],50⟩]]:=hS.sel [1,0,2,3,4,5,6,7,8] (by decide)
         have hS209 : St _ _ _ _ ([[⟨b2,[(iV p_base)],3⟩]]++[q200,q193,q146,q149,q184,q142,[⟨b40,[s54.v,s55.v,s56.v,s57.v],50⟩],[⟨b3,[nilS.v,nilS.v,nilS.v,nilS.v],50⟩]]):=hS
         have hE209:=hS209.enter
         have hSo:=hS
         refine e_opl rfl rfl rfl fun _ hK=>wp_callV (vs:=[(iV e_194)]) (cap:=[(pP b2 0)]) hF rfl Try.func174 (by kernel_rfl) rfl rfl rfl (c_impl_roundingNetwork_2 e_194 p_base t_210 ht_210 _ m b2 _ hE209) fun a w _ hR hF=>hK _ _ ?_
         obtain ⟨rfl,hR209⟩:=hR
         have hS : St _ _ _ _ [[⟨b2,[(iV p_base)],3⟩],q200,q193,q146,q149,q184,q142,[⟨b40,[s54.v,s55.v,s56.v,s57.v],50⟩],[⟨b3,[nilS.v,nilS.v,nilS.v,nilS.v],50⟩]]:=hS209.leaveF hR209
         refine ⟨⟨kpC hSo hS 7 7 rfl rfl kpN,fun _=>hS.vis.of_le (Mem.le.refl _)⟩,?_⟩
         refine e_all [4,11] (by kernel_rfl) rfl ⟨?_,?_,trivial⟩
         ·refine e_lx (v:=s202.v) hF hS rfl (ex_loadE1 0 U28 rfl rfl ((hV202.atH he_201).at 2 rfl) rfl rfl) rfl rfl fun a hF=>e_one 11 (by kernel_rfl) ?_
          have hS211 : St _ _ _ _ ([[⟨b2,[(iV p_base)],3⟩]]++[q200,q193,q146,q149,q184,q142,[⟨b40,[s54.v,s55.v,s56.v,s57.v],50⟩],[⟨b3,[nilS.v,nilS.v,nilS.v,nilS.v],50⟩]]):=hS
          have hE211:=hS211.enter
          have hSo:=hS
          refine e_opl rfl rfl rfl fun _ hK=>wp_callV (vs:=[(iV e_194)]) (cap:=[(pP b2 0)]) hF rfl Try.func173 (by kernel_rfl) rfl rfl rfl (c_impl_roundingNetwork_1 e_194 p_base t_212 ht_212 _ m b2 _ hE211) fun a w _ hR hF=>hK _ _ ?_
          obtain ⟨rfl,hR211⟩:=hR
          have hS : St _ _ _ _ [[⟨b2,[(iV p_base)],3⟩],q200,q193,q146,q149,q184,q142,[⟨b40,[s54.v,s55.v,s56.v,s57.v],50⟩],[⟨b3,[nilS.v,nilS.v,nilS.v,nilS.v],50⟩]]:=hS211.leaveF hR211
          refine ⟨⟨kpC hSo hS 7 7 rfl rfl kpN,fun _=>hS.vis.of_le (Mem.le.refl _)⟩,?_⟩
          refine e_P (v:=(iV (w64 (t_210 - t_212)))) 12 hF rfl (ex_ibin rfl rfl rfl) fun a hF=>?_
          obtain ⟨vs214,at214,d214⟩:=hV202.at he_201 he_213 1 rfl
          obtain rfl : vs214 = [(iV e_213)]:=d214
          refine e_P (v:=(elP s202 (t_188.toNat * 1))) 13 hF rfl (ex_indexAddr U28 sz3 rfl rfl (hV202.idx he_201 he_213)) fun a hF=>e_one 14 (by kernel_rfl) ?_
          have hS : St _ _ _ _ [q193,[⟨b2,[(iV p_base)],3⟩],q200,q146,q149,q184,q142,[⟨b40,[s54.v,s55.v,s56.v,s57.v],50⟩],[⟨b3,[nilS.v,nilS.v,nilS.v,nilS.v],50⟩]]:=hS.sel [2,0,1,3,4,5,6,7,8] (by decide)
          have hSo:=hS
          refine e_opl rfl rfl rfl fun _ hK=>wp_storeV (e':=(w64 (t_210 - t_212))) (us:=[(iV (w64 (t_210 - t_212)))]) (vs:=[(iV e_213)]) 0 hF hS hV202 he_201 sz3 rfl rfl rfl rfl rfl rfl rfl he_213 at214 rfl rfl rfl fun w q215 hS h215=>hK _ _ (⟨⟨kpC hSo hS 7 7 rfl rfl kpN,fun _=>hS.vis.of_le (Mem.le.refl _)⟩,?_⟩)
          refine e_end (by kernel_rfl) (n_ib (n_jn ?_)) _
          obtain rfl:=someI hj15
          exact ⟨q200,q215,hF.sub ⟨rfl,rfl,rfl,rfl,rfl,rfl,rfl,rfl,rfl,rfl,trivial⟩,hS.sel [3,4,5,2,6,0,1,7,8] (by decide),h190,h190k,h200,h192,h192k,h215.own⟩
         ·have hS211 : St _ _ _ _ ([[⟨b2,[(iV p_base)],3⟩]]++[q200,q193,q146,q149,q184,q142,[⟨b40,[s54.v,s55.v,s56.v,s57.v],50⟩],[⟨b3,[nilS.v,nilS.v,nilS.v,nilS.v],50⟩]]):=hS
          have hE211:=hS211.enter
          have hSo:=hS
          refine e_opl rfl rfl rfl fun _ hK=>wp_callV (vs:=[(iV e_194)]) (cap:=[(pP b2 0)]) hF rfl Try.func173 (by kernel_rfl) rfl rfl rfl (c_impl_roundingNetwork_1 e_194 p_base t_212 ht_212 _ m b2 _ hE211) fun a w _ hR hF=>hK _ _ ?_
          obtain ⟨rfl,hR211⟩:=hR
          have hS : St _ _ _ _ [[⟨b2,[(iV p_base)],3⟩],q200,q193,q146,q149,q184,q142,[⟨b40,[s54.v,s55.v,s56.v,s57.v],50⟩],[⟨b3,[nilS.v,nilS.v,nilS.v,nilS.v],50⟩]]:=hS211.leaveF hR211
          refine ⟨⟨kpC hSo hS 7 7 rfl rfl kpN,fun _=>hS.vis.of_le (Mem.le.refl _)⟩,?_⟩
          refine e_X (v:=s202.v) 4 hF hS rfl (ex_loadE1 0 U28 rfl rfl ((hV202.atH he_201).at 2 rfl) rfl rfl) fun a hF=>e_P (v:=(iV (w64 (t_210 - t_212)))) 12 hF rfl (ex_ibin rfl rfl rfl) fun a hF=>?_
          obtain ⟨vs214,at214,d214⟩:=hV202.at he_201 he_213 1 rfl
          obtain rfl : vs214 = [(iV e_213)]:=d214
          refine e_P (v:=(elP s202 (t_188.toNat * 1))) 13 hF rfl (ex_indexAddr U28 sz3 rfl rfl (hV202.idx he_201 he_213)) fun a hF=>e_one 14 (by kernel_rfl) ?_
          have hS : St _ _ _ _ [q193,[⟨b2,[(iV p_base)],3⟩],q200,q146,q149,q184,q142,[⟨b40,[s54.v,s55.v,s56.v,s57.v],50⟩],[⟨b3,[nilS.v,nilS.v,nilS.v,nilS.v],50⟩]]:=hS.sel [2,0,1,3,4,5,6,7,8] (by decide)
          have hSo:=hS
          refine e_opl rfl rfl rfl fun _ hK=>wp_storeV (e':=(w64 (t_210 - t_212))) (us:=[(iV (w64 (t_210 - t_212)))]) (vs:=[(iV e_213)]) 0 hF hS hV202 he_201 sz3 rfl rfl rfl rfl rfl rfl rfl he_213 at214 rfl rfl rfl fun w q215 hS h215=>hK _ _ (⟨⟨kpC hSo hS 7 7 rfl rfl kpN,fun _=>hS.vis.of_le (Mem.le.refl _)⟩,?_⟩)
          refine e_end (by kernel_rfl) (n_ib (n_jn ?_)) _
          obtain rfl:=someI hj15
          exact ⟨q200,q215,hF.sub ⟨rfl,rfl,rfl,rfl,rfl,rfl,rfl,rfl,rfl,rfl,trivial⟩,hS.sel [3,4,5,2,6,0,1,7,8] (by decide),h190,h190k,h200,h192,h192k,h215.own⟩
       ·rintro a w ⟨q218,q220,hF,hS,h217,h217k,h218,h219,h219k,h220⟩
        refine n_sq ?_
        refine q_region (q_y (v:=(iV (w64 (t_188 + 1)))) hF hS (ex_ibin rfl rfl rfl) fun a hF=>q_m hF rfl fun a hF=>q_end ?_)
        obtain rfl:=someI hb13
        exact ⟨rfl,q218,q220,_,_,rfl,hF.sub ⟨rfl,rfl,rfl,rfl,rfl,rfl,rfl,rfl,rfl,rfl,trivial⟩,hS.sel [3,5,0,1,2,4,7,8,6] (by decide),h217,h217k,h218,h219,h219k,h220⟩
     ·rintro e a w ⟨q223,q225,rfl,hF,hS,h222,h222k,h223,h224,h224k,h225⟩
      refine x_ib (n_sq ?_)
      refine q_sr (q_m hF rfl fun a hF=>?_)
      obtain ⟨m227,hl227,hv227,hz227⟩:=hS.lend
      obtain ⟨t_226,ht_226,hr⟩:=bindS hr
      refine q_call (vs:=[s146.v]) hF hS Try.func80 (by kernel_rfl) rfl rfl rfl (c_impl_total t_144 t_226 ht_226 _ m227 hv227 s146 (h146.froz hl227 (hz227 0 _ rfl))) ?_
      rintro a w _ rfl hF hS
      refine q_s hF rfl fun a hF=>q_end (n_sq (q_seq (e_region ⟨[8,11,14],[b40],m⟩ mixed fun w' hw'=>?_)))
      have hS:=hS.below hw'
      refine e_P (v:=(pP b40 3)) 0 hF rfl (ex_fieldAddr U50 rfl sz23 rfl rfl) fun a hF=>e_xb (v:=s57.v) 1 5 hF hS (.head _) rfl rfl (ex_load1 0 0 U23 rfl rfl rfl rfl) rfl rfl (by kernel_rfl) (by kernel_rfl) (by kernel_rfl) fun a hF=>e_P (v:=(iV (goLen p_x))) 2 hF rfl (ex_move rfl) fun a hF=>?_
      obtain ⟨e_228,he_228,hr⟩:=bindS hr
      obtain ⟨s229,hV229⟩:=h225.view he_228
      refine e_P (v:=(elP s57 ((goLen p_x).toNat * 1))) 3 hF rfl (ex_indexAddr U23 sz28 rfl rfl (h225.idx he_228)) fun a hF=>e_P (v:=(iV (goLen e_4))) 5 hF rfl (ex_move rfl) fun a hF=>e_P (v:=(.func (.func 174) #[] #[(pP b2 0)])) 6 hF rfl (ex_move rfl) fun a hF=>e_P (v:=(iV t_226)) 7 hF rfl (ex_move rfl) fun a hF=>e_P (v:=(.func (.func 173) #[] #[(pP b2 0)])) 9 hF rfl (ex_move rfl) fun a hF=>e_P (v:=(iV t_226)) 10 hF rfl (ex_move rfl) fun a hF=>?_
      obtain ⟨t_237,ht_237,hr⟩:=bindS hr
      obtain ⟨t_239,ht_239,hr⟩:=bindS hr
      obtain ⟨e_240,he_240,hr⟩:=bindS hr
      refine e_all [4,8] (by kernel_rfl) rfl ⟨?_,?_,trivial⟩
      ·refine e_lx (v:=s229.v) hF hS rfl (ex_loadE1 0 U28 rfl rfl ((hV229.atH he_228).at 4 rfl) rfl rfl) rfl rfl fun a hF=>e_one 8 (by kernel_rfl) ?_
       have hS : St _ _ _ _ [[⟨b2,[(iV p_base)],3⟩],q146,q184,q223,q142,q225,[⟨b40,[s54.v,s55.v,s56.v,s57.v],50⟩],[⟨b3,[nilS.v,nilS.v,nilS.v,nilS.v],50⟩]]:=hS.sel [7,0,1,2,3,4,5,6] (by decide)
       have hS236 : St _ _ _ _ ([[⟨b2,[(iV p_base)],3⟩]]++[q146,q184,q223,q142,q225,[⟨b40,[s54.v,s55.v,s56.v,s57.v],50⟩],[⟨b3,[nilS.v,nilS.v,nilS.v,nilS.v],50⟩]]):=hS
       have hE236:=hS236.enter
       have hSo:=hS
       refine e_opl rfl rfl rfl fun _ hK=>wp_callV (vs:=[(iV t_226)]) (cap:=[(pP b2 0)]) hF rfl Try.func174 (by kernel_rfl) rfl rfl rfl (c_impl_roundingNetwork_2 t_226 p_base t_237 ht_237 _ m b2 _ hE236) fun a w _ hR hF=>hK _ _ ?_
       obtain ⟨rfl,hR236⟩:=hR
       have hS : St _ _ _ _ [[⟨b2,[(iV p_base)],3⟩],q146,q184,q223,q142,q225,[⟨b40,[s54.v,s55.v,s56.v,s57.v],50⟩],[⟨b3,[nilS.v,nilS.v,nilS.v,nilS.v],50⟩]]:=hS236.leaveF hR236
       refine ⟨⟨kpC hSo hS 6 6 rfl rfl kpN,fun _=>hS.vis.of_le (Mem.le.refl _)⟩,?_⟩
       refine e_one 11 (by kernel_rfl) ?_
       have hS238 : St _ _ _ _ ([[⟨b2,[(iV p_base)],3⟩]]++[q146,q184,q223,q142,q225,[⟨b40,[s54.v,s55.v,s56.v,s57.v],50⟩],[⟨b3,[nilS.v,nilS.v,nilS.v,nilS.v],50⟩]]):=hS
       have hE238:=hS238.enter
       have hSo:=hS
       refine e_opl rfl rfl rfl fun _ hK=>wp_callV (vs:=[(iV t_226)]) (cap:=[(pP b2 0)]) hF rfl Try.func173 (by kernel_rfl) rfl rfl rfl (c_impl_roundingNetwork_1 t_226 p_base t_239 ht_239 _ m b2 _ hE238) fun a w _ hR hF=>hK _ _ ?_
       obtain ⟨rfl,hR238⟩:=hR
       have hS : St _ _ _ _ [[⟨b2,[(iV p_base)],3⟩],q146,q184,q223,q142,q225,[⟨b40,[s54.v,s55.v,s56.v,s57.v],50⟩],[⟨b3,[nilS.v,nilS.v,nilS.v,nilS.v],50⟩]]:=hS238.leaveF hR238
       refine ⟨⟨kpC hSo hS 6 6 rfl rfl kpN,fun _=>hS.vis.of_le (Mem.le.refl _)⟩,?_⟩
       refine e_P (v:=(iV (w64 (t_237 - t_239)))) 12 hF rfl (ex_ibin rfl rfl rfl) fun a hF=>?_
       obtain ⟨vs241,at241,d241⟩:=hV229.at he_228 he_240 1 rfl
       obtain rfl : vs241 = [(iV e_240)]:=d241
       refine e_P (v:=(elP s229 ((goLen e_4).toNat * 1))) 13 hF rfl (ex_indexAddr U28 sz3 rfl rfl (hV229.idx he_228 he_240)) fun a hF=>e_one 14 (by kernel_rfl) ?_
       have hS : St _ _ _ _ [q225,[⟨b2,[(iV p_base)],3⟩],q146,q184,q223,q142,[⟨b40,[s54.v,s55.v,s56.v,s57.v],50⟩],[⟨b3,[nilS.v,nilS.v,nilS.v,nilS.v],50⟩]]:=hS.sel [5,0,1,2,3,4,6,7] (by decide)
       have hSo:=hS
       refine e_opl rfl rfl rfl fun _ hK=>wp_storeV (e':=(w64 (t_237 - t_239))) (us:=[(iV (w64 (t_237 - t_239)))]) (vs:=[(iV e_240)]) 0 hF hS hV229 he_228 sz3 rfl rfl rfl rfl rfl rfl rfl he_240 at241 rfl rfl rfl fun w q242 hS h242=>hK _ _ (⟨⟨kpC hSo hS 6 6 rfl rfl kpN,fun _=>hS.vis.of_le (Mem.le.refl _)⟩,?_⟩)
       refine e_end (by kernel_rfl) (n_sq ?_) _
       refine q_seq (e_region ⟨[8,11],[b40],m⟩ mixed fun w' hw'=>?_)
       have hS:=hS.below hw'
       refine e_P (v:=(pP b40 0)) 0 hF rfl (ex_fieldAddr U50 rfl sz28 rfl rfl) fun a hF=>e_xb (v:=s54.v) 1 6 hF hS (.head _) rfl rfl (ex_load1 0 0 U28 rfl rfl rfl rfl) rfl rfl (by kernel_rfl) (by kernel_rfl) (by kernel_rfl) fun a hF=>e_P (v:=(iV (goLen p_x))) 2 hF rfl (ex_move rfl) fun a hF=>e_P (v:=(pP b40 1)) 3 hF rfl (ex_fieldAddr U50 rfl sz28 rfl rfl) fun a hF=>e_xb (v:=s55.v) 4 6 hF hS (.head _) rfl rfl (ex_load1 0 0 U28 rfl rfl rfl rfl) rfl rfl (by kernel_rfl) (by kernel_rfl) (by kernel_rfl) fun a hF=>e_P (v:=(.func (.func 173) #[] #[(pP b2 0)])) 6 hF rfl (ex_move rfl) fun a hF=>e_P (v:=(iV t_226)) 7 hF rfl (ex_move rfl) fun a hF=>e_one 5 (by kernel_rfl) ?_
       obtain ⟨m248,hl248,hv248,hz248⟩:=hS.lend
       obtain ⟨t_247,ht_247,hr⟩:=bindS hr
       refine e_call (vs:=[s55.v]) hF hS rfl Try.func80 (by kernel_rfl) rfl rfl rfl (c_impl_total t_221.Cols t_247 ht_247 _ m248 hv248 s55 (h223.froz hl248 (hz248 4 _ rfl))) ?_
       rintro a w _ rfl hF hS
       refine e_one 8 (by kernel_rfl) ?_
       have hS : St _ _ _ _ [[⟨b2,[(iV p_base)],3⟩],q242,q146,q184,q223,q142,[⟨b40,[s54.v,s55.v,s56.v,s57.v],50⟩],[⟨b3,[nilS.v,nilS.v,nilS.v,nilS.v],50⟩]]:=hS.sel [1,0,2,3,4,5,6,7] (by decide)
       have hS249 : St _ _ _ _ ([[⟨b2,[(iV p_base)],3⟩]]++[q242,q146,q184,q223,q142,[⟨b40,[s54.v,s55.v,s56.v,s57.v],50⟩],[⟨b3,[nilS.v,nilS.v,nilS.v,nilS.v],50⟩]]):=hS
       have hE249:=hS249.enter
       obtain ⟨t_250,ht_250,hr⟩:=bindS hr
       have hSo:=hS
       refine e_opl rfl rfl rfl fun _ hK=>wp_callV (vs:=[(iV t_226)]) (cap:=[(pP b2 0)]) hF rfl Try.func173 (by kernel_rfl) rfl rfl rfl (c_impl_roundingNetwork_1 t_226 p_base t_250 ht_250 _ m b2 _ hE249) fun a w _ hR hF=>hK _ _ ?_
       obtain ⟨rfl,hR249⟩:=hR
       have hS : St _ _ _ _ [[⟨b2,[(iV p_base)],3⟩],q242,q146,q184,q223,q142,[⟨b40,[s54.v,s55.v,s56.v,s57.v],50⟩],[⟨b3,[nilS.v,nilS.v,nilS.v,nilS.v],50⟩]]:=hS249.leaveF hR249
       refine ⟨⟨kpC hSo hS 6 6 rfl rfl kpN,fun _=>hS.vis.of_le (Mem.le.refl _)⟩,?_⟩
       refine e_P (v:=(iV (w64 (t_247 - t_250)))) 9 hF rfl (ex_ibin rfl rfl rfl) fun a hF=>?_
       obtain ⟨e_251,he_251,hr⟩:=bindS hr
       obtain ⟨vs252,at252,d252⟩:=h222.at he_251 1 rfl
       obtain rfl : vs252 = [(iV e_251)]:=d252
       refine e_P (v:=(elP s54 ((goLen p_x).toNat * 1))) 10 hF rfl (ex_indexAddr U28 sz3 rfl rfl (h222.idx he_251)) fun a hF=>e_one 11 (by kernel_rfl) ?_
       have hS : St _ _ _ _ [q184,[⟨b2,[(iV p_base)],3⟩],q242,q146,q223,q142,[⟨b40,[s54.v,s55.v,s56.v,s57.v],50⟩],[⟨b3,[nilS.v,nilS.v,nilS.v,nilS.v],50⟩]]:=hS.sel [3,0,1,2,4,5,6,7] (by decide)
       have hSo:=hS
       refine e_opl rfl rfl rfl fun _ hK=>wp_storeE (e':=(w64 (t_247 - t_250))) (us:=[(iV (w64 (t_247 - t_250)))]) (vs:=[(iV e_251)]) 0 hF hS h222 sz3 rfl rfl rfl rfl rfl rfl rfl he_251 at252 rfl rfl rfl fun w q253 hS h253=>hK _ _ (⟨⟨kpC hSo hS 6 6 rfl rfl kpN,fun _=>hS.vis.of_le (Mem.le.refl _)⟩,?_⟩)
       refine e_end (by kernel_rfl) (n_sq ?_) _
       refine q_seq (e_region ⟨[10,13],[b40],m⟩ mixed fun w' hw'=>?_)
       have hS:=hS.below hw'
       refine e_P (v:=(pP b40 1)) 0 hF rfl (ex_fieldAddr U50 rfl sz28 rfl rfl) fun a hF=>e_xb (v:=s55.v) 1 6 hF hS (.head _) rfl rfl (ex_load1 0 0 U28 rfl rfl rfl rfl) rfl rfl (by kernel_rfl) (by kernel_rfl) (by kernel_rfl) fun a hF=>e_P (v:=(iV (goLen e_4))) 2 hF rfl (ex_move rfl) fun a hF=>e_P (v:=(pP b40 0)) 3 hF rfl (ex_fieldAddr U50 rfl sz28 rfl rfl) fun a hF=>e_xb (v:=s54.v) 4 6 hF hS (.head _) rfl rfl (ex_load1 0 0 U28 rfl rfl rfl rfl) rfl rfl (by kernel_rfl) (by kernel_rfl) (by kernel_rfl) fun a hF=>e_P (v:=(iV (goLen p_x))) 5 hF rfl (ex_move rfl) fun a hF=>?_
       obtain ⟨l_254,hl_254,hr⟩:=bindS hr
       have h255 : OwnL m 3 q253 (subS s54 1 (0 : Int).toNat (goLen p_x).toNat s54.cap) l_254:=h253.sub0 hl_254
       refine e_P (v:=(subS s54 1 (0 : Int).toNat (goLen p_x).toNat s54.cap).v) 6 hF rfl (ex_slice U28 sz3 rfl rfl rfl (.inl ⟨rfl,rfl⟩) (.inr ⟨_,rfl⟩) (h253.subok hl_254)) fun a hF=>e_P (v:=(.func (.func 173) #[] #[(pP b2 0)])) 8 hF rfl (ex_move rfl) fun a hF=>e_P (v:=(iV t_226)) 9 hF rfl (ex_move rfl) fun a hF=>e_one 7 (by kernel_rfl) ?_
       obtain ⟨m261,hl261,hv261,hz261⟩:=hS.lend
       obtain ⟨t_260,ht_260,hr⟩:=bindS hr
       refine e_call (vs:=[(subS s54 1 (0 : Int).toNat (goLen p_x).toNat s54.cap).v]) hF hS rfl Try.func80 (by kernel_rfl) rfl rfl rfl (c_impl_total l_254 t_260 ht_260 _ m261 hv261 (subS s54 1 (0 : Int).toNat (goLen p_x).toNat s54.cap) (h255.froz hl261 (hz261 0 _ rfl))) ?_
       rintro a w _ rfl hF hS
       refine e_one 10 (by kernel_rfl) ?_
       have hS : St _ _ _ _ [[⟨b2,[(iV p_base)],3⟩],q253,q242,q146,q223,q142,[⟨b40,[s54.v,s55.v,s56.v,s57.v],50⟩],[⟨b3,[nilS.v,nilS.v,nilS.v,nilS.v],50⟩]]:=hS.sel [1,0,2,3,4,5,6,7] (by decide)
       have hS262 : St _ _ _ _ ([[⟨b2,[(iV p_base)],3⟩]]++[q253,q242,q146,q223,q142,[⟨b40,[s54.v,s55.v,s56.v,s57.v],50⟩],[⟨b3,[nilS.v,nilS.v,nilS.v,nilS.v],50⟩]]):=hS
       have hE262:=hS262.enter
       obtain ⟨t_263,ht_263,hr⟩:=bindS hr
       have hSo:=hS
       refine e_opl rfl rfl rfl fun _ hK=>wp_callV (vs:=[(iV t_226)]) (cap:=[(pP b2 0)]) hF rfl Try.func173 (by kernel_rfl) rfl rfl rfl (c_impl_roundingNetwork_1 t_226 p_base t_263 ht_263 _ m b2 _ hE262) fun a w _ hR hF=>hK _ _ ?_
       obtain ⟨rfl,hR262⟩:=hR
       have hS : St _ _ _ _ [[⟨b2,[(iV p_base)],3⟩],q253,q242,q146,q223,q142,[⟨b40,[s54.v,s55.v,s56.v,s57.v],50⟩],[⟨b3,[nilS.v,nilS.v,nilS.v,nilS.v],50⟩]]:=hS262.leaveF hR262
       refine ⟨⟨kpC hSo hS 6 6 rfl rfl kpN,fun _=>hS.vis.of_le (Mem.le.refl _)⟩,?_⟩
       refine e_P (v:=(iV (w64 (t_260 - t_263)))) 11 hF rfl (ex_ibin rfl rfl rfl) fun a hF=>?_
       obtain ⟨e_264,he_264,hr⟩:=bindS hr
       obtain ⟨vs265,at265,d265⟩:=h223.at he_264 1 rfl
       obtain rfl : vs265 = [(iV e_264)]:=d265
       refine e_P (v:=(elP s55 ((goLen e_4).toNat * 1))) 12 hF rfl (ex_indexAddr U28 sz3 rfl rfl (h223.idx he_264)) fun a hF=>e_one 13 (by kernel_rfl) ?_
       have hS : St _ _ _ _ [q223,[⟨b2,[(iV p_base)],3⟩],q253,q242,q146,q142,[⟨b40,[s54.v,s55.v,s56.v,s57.v],50⟩],[⟨b3,[nilS.v,nilS.v,nilS.v,nilS.v],50⟩]]:=hS.sel [4,0,1,2,3,5,6,7] (by decide)
       have hSo:=hS
       refine e_opl rfl rfl rfl fun _ hK=>wp_storeE (e':=(w64 (t_260 - t_263))) (us:=[(iV (w64 (t_260 - t_263)))]) (vs:=[(iV e_264)]) 0 hF hS h223 sz3 rfl rfl rfl rfl rfl rfl rfl he_264 at265 rfl rfl rfl fun w q266 hS h266=>hK _ _ (⟨⟨kpC hSo hS 6 6 rfl rfl kpN,fun _=>hS.vis.of_le (Mem.le.refl _)⟩,?_⟩)
       refine e_end (by kernel_rfl) (n_sq ?_) _
       refine q_sr (q_y (v:=(.agg #[s54.v,s55.v,s56.v,s57.v])) hF hS (ex_loadA (vs:=[s54.v,s55.v,s56.v,s57.v]) 6 0 U50 rfl sz50 rfl rfl rfl rfl) fun a hF=>q_store (vs:=[s54.v,s55.v,s56.v,s57.v]) (cs':=[s54.v,s55.v,s56.v,s57.v]) 7 0 hF hS sz50 rfl rfl rfl rfl rfl rfl rfl rfl fun a w hF hS=>q_end (n_sq (q_ret ?_)))
       obtain rfl:=someI hr
       exact ret_of hF hS rfl (.cellA (us:=[s54.v,s55.v,s56.v,s57.v]) 7 0 U50 rfl sz50 rfl rfl rfl rfl .nil) ⟨q253,q266,q142,q242,s54,s55,s56,s57,rfl,hS.sel [2,0,5,3] (by decide),h253,h266,h224,h242.own⟩
      ·have hS : St _ _ _ _ [[⟨b2,[(iV p_base)],3⟩],q146,q184,q223,q142,q225,[⟨b40,[s54.v,s55.v,s56.v,s57.v],50⟩],[⟨b3,[nilS.v,nilS.v,nilS.v,nilS.v],50⟩]]:=hS.sel [7,0,1,2,3,4,5,6] (by decide)
       have hS236 : St _ _ _ _ ([[⟨b2,[(iV p_base)],3⟩]]++[q146,q184,q223,q142,q225,[⟨b40,[s54.v,s55.v,s56.v,s57.v],50⟩],[⟨b3,[nilS.v,nilS.v,nilS.v,nilS.v],50⟩]]):=hS
       have hE236:=hS236.enter
       have hSo:=hS
       refine e_opl rfl rfl rfl fun _ hK=>wp_callV (vs:=[(iV t_226)]) (cap:=[(pP b2 0)]) hF rfl Try.func174 (by kernel_rfl) rfl rfl rfl (c_impl_roundingNetwork_2 t_226 p_base t_237 ht_237 _ m b2 _ hE236) fun a w _ hR hF=>hK _ _ ?_
       obtain ⟨rfl,hR236⟩:=hR
       have hS : St _ _ _ _ [[⟨b2,[(iV p_base)],3⟩],q146,q184,q223,q142,q225,[⟨b40,[s54.v,s55.v,s56.v,s57.v],50⟩],[⟨b3,[nilS.v,nilS.v,nilS.v,nilS.v],50⟩]]:=hS236.leaveF hR236
       refine ⟨⟨kpC hSo hS 6 6 rfl rfl kpN,fun _=>hS.vis.of_le (Mem.le.refl _)⟩,?_⟩
       refine e_all [4,11] (by kernel_rfl) rfl ⟨?_,?_,trivial⟩
       ·refine e_lx (v:=s229.v) hF hS rfl (ex_loadE1 0 U28 rfl rfl ((hV229.atH he_228).at 5 rfl) rfl rfl) rfl rfl fun a hF=>e_one 11 (by kernel_rfl) ?_
        have hS238 : St _ _ _ _ ([[⟨b2,[(iV p_base)],3⟩]]++[q146,q184,q223,q142,q225,[⟨b40,[s54.v,s55.v,s56.v,s57.v],50⟩],[⟨b3,[nilS.v,nilS.v,nilS.v,nilS.v],50⟩]]):=hS
        have hE238:=hS238.enter
        have hSo:=hS
        refine e_opl rfl rfl rfl fun _ hK=>wp_callV (vs:=[(iV t_226)]) (cap:=[(pP b2 0)]) hF rfl Try.func173 (by kernel_rfl) rfl rfl rfl (c_impl_roundingNetwork_1 t_226 p_base t_239 ht_239 _ m b2 _ hE238) fun a w _ hR hF=>hK _ _ ?_
        obtain ⟨rfl,hR238⟩:=hR
        have hS : St _ _ _ _ [[⟨b2,[(iV p_base)],3⟩],q146,q184,q223,q142,q225,[⟨b40,[s54.v,s55.v,s56.v,s57.v],50⟩],[⟨b3,[nilS.v,nilS.v,nilS.v,nilS.v],50⟩]]:=hS238.leaveF hR238
        refine ⟨⟨kpC hSo hS 6 6 rfl rfl kpN,fun _=>hS.vis.of_le (Mem.le.refl _)⟩,?_⟩
        refine e_P (v:=(iV (w64 (t_237 - t_239)))) 12 hF rfl (ex_ibin rfl rfl rfl) fun a hF=>?_
        obtain ⟨vs241,at241,d241⟩:=hV229.at he_228 he_240 1 rfl
        obtain rfl : vs241 = [(iV e_240)]:=d241
        refine e_P (v:=(elP s229 ((goLen e_4).toNat * 1))) 13 hF rfl (ex_indexAddr U28 sz3 rfl rfl (hV229.idx he_228 he_240)) fun a hF=>e_one 14 (by kernel_rfl) ?_
        have hS : St _ _ _ _ [q225,[⟨b2,[(iV p_base)],3⟩],q146,q184,q223,q142,[⟨b40,[s54.v,s55.v,s56.v,s57.v],50⟩],[⟨b3,[nilS.v,nilS.v,nilS.v,nilS.v],50⟩]]:=hS.sel [5,0,1,2,3,4,6,7] (by decide)
        have hSo:=hS
        refine e_opl rfl rfl rfl fun _ hK=>wp_storeV (e':=(w64 (t_237 - t_239))) (us:=[(iV (w64 (t_237 - t_239)))]) (vs:=[(iV e_240)]) 0 hF hS hV229 he_228 sz3 rfl rfl rfl rfl rfl rfl rfl he_240 at241 rfl rfl rfl fun w q242 hS h242=>hK _ _ (⟨⟨kpC hSo hS 6 6 rfl rfl kpN,fun _=>hS.vis.of_le (Mem.le.refl _)⟩,?_⟩)
        refine e_end (by kernel_rfl) (n_sq ?_) _
        refine q_seq (e_region ⟨[8,11],[b40],m⟩ mixed fun w' hw'=>?_)
        have hS:=hS.below hw'
        refine e_P (v:=(pP b40 0)) 0 hF rfl (ex_fieldAddr U50 rfl sz28 rfl rfl) fun a hF=>e_xb (v:=s54.v) 1 6 hF hS (.head _) rfl rfl (ex_load1 0 0 U28 rfl rfl rfl rfl) rfl rfl (by kernel_rfl) (by kernel_rfl) (by kernel_rfl) fun a hF=>e_P (v:=(iV (goLen p_x))) 2 hF rfl (ex_move rfl) fun a hF=>e_P (v:=(pP b40 1)) 3 hF rfl (ex_fieldAddr U50 rfl sz28 rfl rfl) fun a hF=>e_xb (v:=s55.v) 4 6 hF hS (.head _) rfl rfl (ex_load1 0 0 U28 rfl rfl rfl rfl) rfl rfl (by kernel_rfl) (by kernel_rfl) (by kernel_rfl) fun a hF=>e_P (v:=(.func (.func 173) #[] #[(pP b2 0)])) 6 hF rfl (ex_move rfl) fun a hF=>e_P (v:=(iV t_226)) 7 hF rfl (ex_move rfl) fun a hF=>e_one 5 (by kernel_rfl) ?_
        obtain ⟨m272,hl272,hv272,hz272⟩:=hS.lend
        obtain ⟨t_271,ht_271,hr⟩:=bindS hr
        refine e_call (vs:=[s55.v]) hF hS rfl Try.func80 (by kernel_rfl) rfl rfl rfl (c_impl_total t_221.Cols t_271 ht_271 _ m272 hv272 s55 (h223.froz hl272 (hz272 4 _ rfl))) ?_
        rintro a w _ rfl hF hS
        refine e_one 8 (by kernel_rfl) ?_
        have hS : St _ _ _ _ [[⟨b2,[(iV p_base)],3⟩],q242,q146,q184,q223,q142,[⟨b40,[s54.v,s55.v,s56.v,s57.v],50⟩],[⟨b3,[nilS.v,nilS.v,nilS.v,nilS.v],50⟩]]:=hS.sel [1,0,2,3,4,5,6,7] (by decide)
        have hS273 : St _ _ _ _ ([[⟨b2,[(iV p_base)],3⟩]]++[q242,q146,q184,q223,q142,[⟨b40,[s54.v,s55.v,s56.v,s57.v],50⟩],[⟨b3,[nilS.v,nilS.v,nilS.v,nilS.v],50⟩]]):=hS
        have hE273:=hS273.enter
        obtain ⟨t_274,ht_274,hr⟩:=bindS hr
        have hSo:=hS
        refine e_opl rfl rfl rfl fun _ hK=>wp_callV (vs:=[(iV t_226)]) (cap:=[(pP b2 0)]) hF rfl Try.func173 (by kernel_rfl) rfl rfl rfl (c_impl_roundingNetwork_1 t_226 p_base t_274 ht_274 _ m b2 _ hE273) fun a w _ hR hF=>hK _ _ ?_
        obtain ⟨rfl,hR273⟩:=hR
        have hS : St _ _ _ _ [[⟨b2,[(iV p_base)],3⟩],q242,q146,q184,q223,q142,[⟨b40,[s54.v,s55.v,s56.v,s57.v],50⟩],[⟨b3,[nilS.v,nilS.v,nilS.v,nilS.v],50⟩]]:=hS273.leaveF hR273
        refine ⟨⟨kpC hSo hS 6 6 rfl rfl kpN,fun _=>hS.vis.of_le (Mem.le.refl _)⟩,?_⟩
        refine e_P (v:=(iV (w64 (t_271 - t_274)))) 9 hF rfl (ex_ibin rfl rfl rfl) fun a hF=>?_
        obtain ⟨e_275,he_275,hr⟩:=bindS hr
        obtain ⟨vs276,at276,d276⟩:=h222.at he_275 1 rfl
        obtain rfl : vs276 = [(iV e_275)]:=d276
        refine e_P (v:=(elP s54 ((goLen p_x).toNat * 1))) 10 hF rfl (ex_indexAddr U28 sz3 rfl rfl (h222.idx he_275)) fun a hF=>e_one 11 (by kernel_rfl) ?_
        have hS : St _ _ _ _ [q184,[⟨b2,[(iV p_base)],3⟩],q242,q146,q223,q142,[⟨b40,[s54.v,s55.v,s56.v,s57.v],50⟩],[⟨b3,[nilS.v,nilS.v,nilS.v,nilS.v],50⟩]]:=hS.sel [3,0,1,2,4,5,6,7] (by decide)
        have hSo:=hS
        refine e_opl rfl rfl rfl fun _ hK=>wp_storeE (e':=(w64 (t_271 - t_274))) (us:=[(iV (w64 (t_271 - t_274)))]) (vs:=[(iV e_275)]) 0 hF hS h222 sz3 rfl rfl rfl rfl rfl rfl rfl he_275 at276 rfl rfl rfl fun w q277 hS h277=>hK _ _ (⟨⟨kpC hSo hS 6 6 rfl rfl kpN,fun _=>hS.vis.of_le (Mem.le.refl _)⟩,?_⟩)
        refine e_end (by kernel_rfl) (n_sq ?_) _
        refine q_seq (e_region ⟨[10,13],[b40],m⟩ mixed fun w' hw'=>?_)
        have hS:=hS.below hw'
        refine e_P (v:=(pP b40 1)) 0 hF rfl (ex_fieldAddr U50 rfl sz28 rfl rfl) fun a hF=>e_xb (v:=s55.v) 1 6 hF hS (.head _) rfl rfl (ex_load1 0 0 U28 rfl rfl rfl rfl) rfl rfl (by kernel_rfl) (by kernel_rfl) (by kernel_rfl) fun a hF=>e_P (v:=(iV (goLen e_4))) 2 hF rfl (ex_move rfl) fun a hF=>e_P (v:=(pP b40 0)) 3 hF rfl (ex_fieldAddr U50 rfl sz28 rfl rfl) fun a hF=>e_xb (v:=s54.v) 4 6 hF hS (.head _) rfl rfl (ex_load1 0 0 U28 rfl rfl rfl rfl) rfl rfl (by kernel_rfl) (by kernel_rfl) (by kernel_rfl) fun a hF=>e_P (v:=(iV (goLen p_x))) 5 hF rfl (ex_move rfl) fun a hF=>?_
        obtain ⟨l_278,hl_278,hr⟩:=bindS hr
        have h279 : OwnL m 3 q277 (subS s54 1 (0 : Int).toNat (goLen p_x).toNat s54.cap) l_278:=h277.sub0 hl_278
        refine e_P (v:=(subS s54 1 (0 : Int).toNat (goLen p_x).toNat s54.cap).v) 6 hF rfl (ex_slice U28 sz3 rfl rfl rfl (.inl ⟨rfl,rfl⟩) (.inr ⟨_,rfl⟩) (h277.subok hl_278)) fun a hF=>e_P (v:=(.func (.func 173) #[] #[(pP b2 0)])) 8 hF rfl (ex_move rfl) fun a hF=>e_P (v:=(iV t_226)) 9 hF rfl (ex_move rfl) fun a hF=>e_one 7 (by kernel_rfl) ?_
        obtain ⟨m285,hl285,hv285,hz285⟩:=hS.lend
        obtain ⟨t_284,ht_284,hr⟩:=bindS hr
        refine e_call (vs:=[(subS s54 1 (0 : Int).toNat (goLen p_x).toNat s54.cap).v]) hF hS rfl Try.func80 (by kernel_rfl) rfl rfl rfl (c_impl_total l_278 t_284 ht_284 _ m285 hv285 (subS s54 1 (0 : Int).toNat (goLen p_x).toNat s54.cap) (h279.froz hl285 (hz285 0 _ rfl))) ?_
        rintro a w _ rfl hF hS
        refine e_one 10 (by kernel_rfl) ?_
        have hS : St _ _ _ _ [[⟨b2,[(iV p_base)],3⟩],q277,q242,q146,q223,q142,[⟨b40,[s54.v,s55.v,s56.v,s57.v],50⟩],[⟨b3,[nilS.v,nilS.v,nilS.v,nilS.v],50⟩]]:=hS.sel [1,0,2,3,4,5,6,7] (by decide)
        have hS286 : St _ _ _ _ ([[⟨b2,[(iV p_base)],3⟩]]++[q277,q242,q146,q223,q142,[⟨b40,[s54.v,s55.v,s56.v,s57.v],50⟩],[⟨b3,[nilS.v,nilS.v,nilS.v,nilS.v],50⟩]]):=hS
        have hE286:=hS286.enter
        obtain ⟨t_287,ht_287,hr⟩:=bindS hr
        have hSo:=hS
        refine e_opl rfl rfl rfl fun _ hK=>wp_callV (vs:=[(iV t_226)]) (cap:=[(pP b2 0)]) hF rfl Try.func173 (by kernel_rfl) rfl rfl rfl (c_impl_roundingNetwork_1 t_226 p_base t_287 ht_287 _ m b2 _ hE286) fun a w _ hR hF=>hK _ _ ?_
        obtain ⟨rfl,hR286⟩:=hR
        have hS : St _ _ _ _ [[⟨b2,[(iV p_base)],3⟩],q277,q242,q146,q223,q142,[⟨b40,[s54.v,s55.v,s56.v,s57.v],50⟩],[⟨b3,[nilS.v,nilS.v,nilS.v,nilS.v],50⟩]]:=hS286.leaveF hR286
        refine ⟨⟨kpC hSo hS 6 6 rfl rfl kpN,fun _=>hS.vis.of_le (Mem.le.refl _)⟩,?_⟩
        refine e_P (v:=(iV (w64 (t_284 - t_287)))) 11 hF rfl (ex_ibin rfl rfl rfl) fun a hF=>?_
        obtain ⟨e_288,he_288,hr⟩:=bindS hr
        obtain ⟨vs289,at289,d289⟩:=h223.at he_288 1 rfl
        obtain rfl : vs289 = [(iV e_288)]:=d289
        refine e_P (v:=(elP s55 ((goLen e_4).toNat * 1))) 12 hF rfl (ex_indexAddr U28 sz3 rfl rfl (h223.idx he_288)) fun a hF=>e_one 13 (by kernel_rfl) ?_
        have hS : St _ _ _ _ [q223,[⟨b2,[(iV p_base)],3⟩],q277,q242,q146,q142,[⟨b40,[s54.v,s55.v,s56.v,s57.v],50⟩],[⟨b3,[nilS.v,nilS.v,nilS.v,nilS.v],50⟩]]:=hS.sel [4,0,1,2,3,5,6,7] (by decide)
        have hSo:=hS
        refine e_opl rfl rfl rfl fun _ hK=>wp_storeE (e':=(w64 (t_284 - t_287))) (us:=[(iV (w64 (t_284 - t_287)))]) (vs:=[(iV e_288)]) 0 hF hS h223 sz3 rfl rfl rfl rfl rfl rfl rfl he_288 at289 rfl rfl rfl fun w q290 hS h290=>hK _ _ (⟨⟨kpC hSo hS 6 6 rfl rfl kpN,fun _=>hS.vis.of_le (Mem.le.refl _)⟩,?_⟩)
        refine e_end (by kernel_rfl) (n_sq ?_) _
        refine q_sr (q_y (v:=(.agg #[s54.v,s55.v,s56.v,s57.v])) hF hS (ex_loadA (vs:=[s54.v,s55.v,s56.v,s57.v]) 6 0 U50 rfl sz50 rfl rfl rfl rfl) fun a hF=>q_store (vs:=[s54.v,s55.v,s56.v,s57.v]) (cs':=[s54.v,s55.v,s56.v,s57.v]) 7 0 hF hS sz50 rfl rfl rfl rfl rfl rfl rfl rfl fun a w hF hS=>q_end (n_sq (q_ret ?_)))
        obtain rfl:=someI hr
        exact ret_of hF hS rfl (.cellA (us:=[s54.v,s55.v,s56.v,s57.v]) 7 0 U50 rfl sz50 rfl rfl rfl rfl .nil) ⟨q277,q290,q142,q242,s54,s55,s56,s57,rfl,hS.sel [2,0,5,3] (by decide),h277,h290,h224,h242.own⟩
       ·have hS238 : St _ _ _ _ ([[⟨b2,[(iV p_base)],3⟩]]++[q146,q184,q223,q142,q225,[⟨b40,[s54.v,s55.v,s56.v,s57.v],50⟩],[⟨b3,[nilS.v,nilS.v,nilS.v,nilS.v],50⟩]]):=hS
        have hE238:=hS238.enter
        have hSo:=hS
        refine e_opl rfl rfl rfl fun _ hK=>wp_callV (vs:=[(iV t_226)]) (cap:=[(pP b2 0)]) hF rfl Try.func173 (by kernel_rfl) rfl rfl rfl (c_impl_roundingNetwork_1 t_226 p_base t_239 ht_239 _ m b2 _ hE238) fun a w _ hR hF=>hK _ _ ?_
        obtain ⟨rfl,hR238⟩:=hR
        have hS : St _ _ _ _ [[⟨b2,[(iV p_base)],3⟩],q146,q184,q223,q142,q225,[⟨b40,[s54.v,s55.v,s56.v,s57.v],50⟩],[⟨b3,[nilS.v,nilS.v,nilS.v,nilS.v],50⟩]]:=hS238.leaveF hR238
        refine ⟨⟨kpC hSo hS 6 6 rfl rfl kpN,fun _=>hS.vis.of_le (Mem.le.refl _)⟩,?_⟩
        refine e_X (v:=s229.v) 4 hF hS rfl (ex_loadE1 0 U28 rfl rfl ((hV229.atH he_228).at 5 rfl) rfl rfl) fun a hF=>e_P (v:=(iV (w64 (t_237 - t_239)))) 12 hF rfl (ex_ibin rfl rfl rfl) fun a hF=>?_
        obtain ⟨vs241,at241,d241⟩:=hV229.at he_228 he_240 1 rfl
        obtain rfl : vs241 = [(iV e_240)]:=d241
        refine e_P (v:=(elP s229 ((goLen e_4).toNat * 1))) 13 hF rfl (ex_indexAddr U28 sz3 rfl rfl (hV229.idx he_228 he_240)) fun a hF=>e_one 14 (by kernel_rfl) ?_
        have hS : St _ _ _ _ [q225,[⟨b2,[(iV p_base)],3⟩],q146,q184,q223,q142,[⟨b40,[s54.v,s55.v,s56.v,s57.v],50⟩],[⟨b3,[nilS.v,nilS.v,nilS.v,nilS.v],50⟩]]:=hS.sel [5,0,1,2,3,4,6,7] (by decide)
        have hSo:=hS
        refine e_opl rfl rfl rfl fun _ hK=>wp_storeV (e':=(w64 (t_237 - t_239))) (us:=[(iV (w64 (t_237 - t_239)))]) (vs:=[(iV e_240)]) 0 hF hS hV229 he_228 sz3 rfl rfl rfl rfl rfl rfl rfl he_240 at241 rfl rfl rfl fun w q242 hS h242=>hK _ _ (⟨⟨kpC hSo hS 6 6 rfl rfl kpN,fun _=>hS.vis.of_le (Mem.le.refl _)⟩,?_⟩)
        refine e_end (by kernel_rfl) (n_sq ?_) _
        refine q_seq (e_region ⟨[8,11],[b40],m⟩ mixed fun w' hw'=>?_)
        have hS:=hS.below hw'
        refine e_P (v:=(pP b40 0)) 0 hF rfl (ex_fieldAddr U50 rfl sz28 rfl rfl) fun a hF=>e_xb (v:=s54.v) 1 6 hF hS (.head _) rfl rfl (ex_load1 0 0 U28 rfl rfl rfl rfl) rfl rfl (by kernel_rfl) (by kernel_rfl) (by kernel_rfl) fun a hF=>e_P (v:=(iV (goLen p_x))) 2 hF rfl (ex_move rfl) fun a hF=>e_P (v:=(pP b40 1)) 3 hF rfl (ex_fieldAddr U50 rfl sz28 rfl rfl) fun a hF=>e_xb (v:=s55.v) 4 6 hF hS (.head _) rfl rfl (ex_load1 0 0 U28 rfl rfl rfl rfl) rfl rfl (by kernel_rfl) (by kernel_rfl) (by kernel_rfl) fun a hF=>e_P (v:=(.func (.func 173) #[] #[(pP b2 0)])) 6 hF rfl (ex_move rfl) fun a hF=>e_P (v:=(iV t_226)) 7 hF rfl (ex_move rfl) fun a hF=>e_one 5 (by kernel_rfl) ?_
        obtain ⟨m296,hl296,hv296,hz296⟩:=hS.lend
        obtain ⟨t_295,ht_295,hr⟩:=bindS hr
        refine e_call (vs:=[s55.v]) hF hS rfl Try.func80 (by kernel_rfl) rfl rfl rfl (c_impl_total t_221.Cols t_295 ht_295 _ m296 hv296 s55 (h223.froz hl296 (hz296 4 _ rfl))) ?_
        rintro a w _ rfl hF hS
        refine e_one 8 (by kernel_rfl) ?_
        have hS : St _ _ _ _ [[⟨b2,[(iV p_base)],3⟩],q242,q146,q184,q223,q142,[⟨b40,[s54.v,s55.v,s56.v,s57.v],50⟩],[⟨b3,[nilS.v,nilS.v,nilS.v,nilS.v],50⟩]]:=hS.sel [1,0,2,3,4,5,6,7] (by decide)
        have hS297 : St _ _ _ _ ([[⟨b2,[(iV p_base)],3⟩]]++[q242,q146,q184,q223,q142,[⟨b40,[s54.v,s55.v,s56.v,s57.v],50⟩],[⟨b3,[nilS.v,nilS.v,nilS.v,nilS.v],50⟩]]):=hS
        have hE297:=hS297.enter
        obtain ⟨t_298,ht_298,hr⟩:=bindS hr
        have hSo:=hS
        refine e_opl rfl rfl rfl fun _ hK=>wp_callV (vs:=[(iV t_226)]) (cap:=[(pP b2 0)]) hF rfl Try.func173 (by kernel_rfl) rfl rfl rfl (c_impl_roundingNetwork_1 t_226 p_base t_298 ht_298 _ m b2 _ hE297) fun a w _ hR hF=>hK _ _ ?_
        obtain ⟨rfl,hR297⟩:=hR
        have hS : St _ _ _ _ [[⟨b2,[(iV p_base)],3⟩],q242,q146,q184,q223,q142,[⟨b40,[s54.v,s55.v,s56.v,s57.v],50⟩],[⟨b3,[nilS.v,nilS.v,nilS.v,nilS.v],50⟩]]:=hS297.leaveF hR297
        refine ⟨⟨kpC hSo hS 6 6 rfl rfl kpN,fun _=>hS.vis.of_le (Mem.le.refl _)⟩,?_⟩
        refine e_P (v:=(iV (w64 (t_295 - t_298)))) 9 hF rfl (ex_ibin rfl rfl rfl) fun a hF=>?_
        obtain ⟨e_299,he_299,hr⟩:=bindS hr
        obtain ⟨vs300,at300,d300⟩:=h222.at he_299 1 rfl
        obtain rfl : vs300 = [(iV e_299)]:=d300
        refine e_P (v:=(elP s54 ((goLen p_x).toNat * 1))) 10 hF rfl (ex_indexAddr U28 sz3 rfl rfl (h222.idx he_299)) fun a hF=>e_one 11 (by kernel_rfl) ?_
        have hS : St _ _ _ _ [q184,[⟨b2,[(iV p_base)],3⟩],q242,q146,q223,q142,[⟨b40,[s54.v,s55.v,s56.v,s57.v],50⟩],[⟨b3,[nilS.v,nilS.v,nilS.v,nilS.v],50⟩]]:=hS.sel [3,0,1,2,4,5,6,7] (by decide)
        have hSo:=hS
        refine e_opl rfl rfl rfl fun _ hK=>wp_storeE (e':=(w64 (t_295 - t_298))) (us:=[(iV (w64 (t_295 - t_298)))]) (vs:=[(iV e_299)]) 0 hF hS h222 sz3 rfl rfl rfl rfl rfl rfl rfl he_299 at300 rfl rfl rfl fun w q301 hS h301=>hK _ _ (⟨⟨kpC hSo hS 6 6 rfl rfl kpN,fun _=>hS.vis.of_le (Mem.le.refl _)⟩,?_⟩)
        refine e_end (by kernel_rfl) (n_sq ?_) _
        refine q_seq (e_region ⟨[10,13],[b40],m⟩ mixed fun w' hw'=>?_)
        have hS:=hS.below hw'
        refine e_P (v:=(pP b40 1)) 0 hF rfl (ex_fieldAddr U50 rfl sz28 rfl rfl) fun a hF=>e_xb (v:=s55.v) 1 6 hF hS (.head _) rfl rfl (ex_load1 0 0 U28 rfl rfl rfl rfl) rfl rfl (by kernel_rfl) (by kernel_rfl) (by kernel_rfl) fun a hF=>e_P (v:=(iV (goLen e_4))) 2 hF rfl (ex_move rfl) fun a hF=>e_P (v:=(pP b40 0)) 3 hF rfl (ex_fieldAddr U50 rfl sz28 rfl rfl) fun a hF=>e_xb (v:=s54.v) 4 6 hF hS (.head _) rfl rfl (ex_load1 0 0 U28 rfl rfl rfl rfl) rfl rfl (by kernel_rfl) (by kernel_rfl) (by kernel_rfl) fun a hF=>e_P (v:=(iV (goLen p_x))) 5 hF rfl (ex_move rfl) fun a hF=>?_
        obtain ⟨l_302,hl_302,hr⟩:=bindS hr
        have h303 : OwnL m 3 q301 (subS s54 1 (0 : Int).toNat (goLen p_x).toNat s54.cap) l_302:=h301.sub0 hl_302
        refine e_P (v:=(subS s54 1 (0 : Int).toNat (goLen p_x).toNat s54.cap).v) 6 hF rfl (ex_slice U28 sz3 rfl rfl rfl (.inl ⟨rfl,rfl⟩) (.inr ⟨_,rfl⟩) (h301.subok hl_302)) fun a hF=>e_P (v:=(.func (.func 173) #[] #[(pP b2 0)])) 8 hF rfl (ex_move rfl) fun a hF=>e_P (v:=(iV t_226)) 9 hF rfl (ex_move rfl) fun a hF=>e_one 7 (by kernel_rfl) ?_
        obtain ⟨m309,hl309,hv309,hz309⟩:=hS.lend
        obtain ⟨t_308,ht_308,hr⟩:=bindS hr
        refine e_call (vs:=[(subS s54 1 (0 : Int).toNat (goLen p_x).toNat s54.cap).v]) hF hS rfl Try.func80 (by kernel_rfl) rfl rfl rfl (c_impl_total l_302 t_308 ht_308 _ m309 hv309 (subS s54 1 (0 : Int).toNat (goLen p_x).toNat s54.cap) (h303.froz hl309 (hz309 0 _ rfl))) ?_
        rintro a w _ rfl hF hS
        refine e_one 10 (by kernel_rfl) ?_
        have hS : St _ _ _ _ [[⟨b2,[(iV p_base)],3⟩],q301,q242,q146,q223,q142,[⟨b40,[s54.v,s55.v,s56.v,s57.v],50⟩],[⟨b3,[nilS.v,nilS.v,nilS.v,nilS.v],50⟩]]:=hS.sel [1,0,2,3,4,5,6,7] (by decide)
        have hS310 : St _ _ _ _ ([[⟨b2,[(iV p_base)],3⟩]]++[q301,q242,q146,q223,q142,[⟨b40,[s54.v,s55.v,s56.v,s57.v],50⟩],[⟨b3,[nilS.v,nilS.v,nilS.v,nilS.v],50⟩]]):=hS
        have hE310:=hS310.enter
        obtain ⟨t_311,ht_311,hr⟩:=bindS hr
        have hSo:=hS
        refine e_opl rfl rfl rfl fun _ hK=>wp_callV (vs:=[(iV t_226)]) (cap:=[(pP b2 0)]) hF rfl Try.func173 (by kernel_rfl) rfl rfl rfl (c_impl_roundingNetwork_1 t_226 p_base t_311 ht_311 _ m b2 _ hE310) fun a w _ hR hF=>hK _ _ ?_
        obtain ⟨rfl,hR310⟩:=hR
        have hS : St _ _ _ _ [[⟨b2,[(iV p_base)],3⟩],q301,q242,q146,q223,q142,[⟨b40,[s54.v,s55.v,s56.v,s57.v],50⟩],[⟨b3,[nilS.v,nilS.v,nilS.v,nilS.v],50⟩]]:=hS310.leaveF hR310
        refine ⟨⟨kpC hSo hS 6 6 rfl rfl kpN,fun _=>hS.vis.of_le (Mem.le.refl _)⟩,?_⟩
        refine e_P (v:=(iV (w64 (t_308 - t_311)))) 11 hF rfl (ex_ibin rfl rfl rfl) fun a hF=>?_
        obtain ⟨e_312,he_312,hr⟩:=bindS hr
        obtain ⟨vs313,at313,d313⟩:=h223.at he_312 1 rfl
        obtain rfl : vs313 = [(iV e_312)]:=d313
        refine e_P (v:=(elP s55 ((goLen e_4).toNat * 1))) 12 hF rfl (ex_indexAddr U28 sz3 rfl rfl (h223.idx he_312)) fun a hF=>e_one 13 (by kernel_rfl) ?_
        have hS : St _ _ _ _ [q223,[⟨b2,[(iV p_base)],3⟩],q301,q242,q146,q142,[⟨b40,[s54.v,s55.v,s56.v,s57.v],50⟩],[⟨b3,[nilS.v,nilS.v,nilS.v,nilS.v],50⟩]]:=hS.sel [4,0,1,2,3,5,6,7] (by decide)
        have hSo:=hS
        refine e_opl rfl rfl rfl fun _ hK=>wp_storeE (e':=(w64 (t_308 - t_311))) (us:=[(iV (w64 (t_308 - t_311)))]) (vs:=[(iV e_312)]) 0 hF hS h223 sz3 rfl rfl rfl rfl rfl rfl rfl he_312 at313 rfl rfl rfl fun w q314 hS h314=>hK _ _ (⟨⟨kpC hSo hS 6 6 rfl rfl kpN,fun _=>hS.vis.of_le (Mem.le.refl _)⟩,?_⟩)
        refine e_end (by kernel_rfl) (n_sq ?_) _
        refine q_sr (q_y (v:=(.agg #[s54.v,s55.v,s56.v,s57.v])) hF hS (ex_loadA (vs:=[s54.v,s55.v,s56.v,s57.v]) 6 0 U50 rfl sz50 rfl rfl rfl rfl) fun a hF=>q_store (vs:=[s54.v,s55.v,s56.v,s57.v]) (cs':=[s54.v,s55.v,s56.v,s57.v]) 7 0 hF hS sz50 rfl rfl rfl rfl rfl rfl rfl rfl fun a w hF hS=>q_end (n_sq (q_ret ?_)))
        obtain rfl:=someI hr
        exact ret_of hF hS rfl (.cellA (us:=[s54.v,s55.v,s56.v,s57.v]) 7 0 U50 rfl sz50 rfl rfl rfl rfl .nil) ⟨q301,q314,q142,q242,s54,s55,s56,s57,rfl,hS.sel [2,0,5,3] (by decide),h301,h314,h224,h242.own⟩

theorem c_impl_residual (p_t : impl_Transport) (p_x : List (List Int)) (p_fixed : Int) (r : (List (List Int))) (hr : impl_residual p_t p_x p_fixed = some r) (w0 : World) (m : Mem) (hv : Vis m w0) (s1 : Sl) (h1 : Rd m s1 p_t.Rows) (s2 : Sl) (h2 : Rd m s2 p_t.Cols) (s3 : Sl) (h3 : Rd m s3 p_t.Lo) (s4 : Sl) (h4 : Rd m s4 p_t.Hi) (s5 : Sl) (h5 : Rd m s5 p_x) :
  Ret Try.prog 155 [(.agg #[s1.v,s2.v,s3.v,s4.v]),s5.v,(iV p_fixed)] w0 (fun v w=>∃ (q0' : Piece) (s0' : Sl),v = s0'.v∧St [] w0 w m [q0']∧OwnD m 28 3 q0' s0' r):=by
 unfold impl_residual at hr
 refine ret_start Try.func155 rfl 98 rfl rfl m hv fun a hF hS=>q_sr (q_box (cs:=[s1.v,s2.v,s3.v,s4.v]) hF hS rfl rfl rfl fun a w b6 hF hS=>q_s hF rfl fun a hF=>q_end (n_sq (q_seq (e_region ⟨[],[],m⟩ mixed fun w' hw'=>?_))))
 have hS:=hS.below hw'
 refine e_P (v:=(pP b6 0)) 0 hF rfl (ex_fieldAddr U50 rfl sz28 rfl rfl) fun a hF=>e_X (v:=s1.v) 1 hF hS rfl (ex_load1 0 0 U28 rfl rfl rfl rfl) fun a hF=>e_P (v:=(iV (goLen p_t.Rows))) 2 hF rfl (ex_len U28 rfl h1.len) fun a hF=>e_P (v:=(pP b6 1)) 3 hF rfl (ex_fieldAddr U50 rfl sz28 rfl rfl) fun a hF=>e_X (v:=s2.v) 4 hF hS rfl (ex_load1 0 0 U28 rfl rfl rfl rfl) fun a hF=>e_P (v:=(iV (goLen p_t.Cols))) 5 hF rfl (ex_len U28 rfl h2.len) fun a hF=>e_P (v:=(iV (goLen p_t.Rows))) 6 hF rfl (ex_assign rfl) fun a hF=>e_P (v:=(iV (goLen p_t.Cols))) 7 hF rfl (ex_assign rfl) fun a hF=>e_end (by kernel_rfl) (n_sq ?_) _
 refine q_sr (q_m hF rfl fun a hF=>q_m hF rfl fun a hF=>q_y (v:=(iV (w64 ((goLen p_t.Rows) + (goLen p_t.Cols))))) hF hS (ex_ibin rfl rfl rfl) fun a hF=>?_)
 obtain ⟨l_7,hl_7,hr⟩:=bindS hr
 refine q_do rfl fun _ hK=>wp_makeD (Ei:=3) hF hS U23 inf28 rfl rfl rfl (by decide) hl_7 rfl fun a w q8 s8 hF hS h8 _=>hK _ _ (q_s hF rfl fun a hF=>q_end (n_sq (q_seq (q_sr (q_m hF rfl fun a hF=>q_y (v:=(iV (goLen l_7))) hF hS (ex_len U23 rfl h8.len) fun a hF=>q_m hF rfl fun a hF=>q_end (n_sq (q_block ?_)))))))
 obtain ⟨r_17,hl1,hr⟩:=bindS hr
 refine q_loop (fun (s : (List (List Int)) × Int) a w=>∃ (q10 : Piece),∃ r_9,∃ t_11,s = (r_9,t_11)∧Fr a 98 [(1,s5.v),(2,(iV p_fixed)),(3,(pP b6 0)),(7,(iV (goLen p_t.Rows))),(8,(iV (goLen p_t.Cols))),(9,s8.v),(26,(iV (goLen l_7))),(27,(iV t_11))]∧St [] w0 w m [q10,[⟨b6,[s1.v,s2.v,s3.v,s4.v],50⟩]]∧OwnD m 28 3 q10 s8 r_9) (fun (r_17 : (List (List Int))) e a w=>∃ (q18 : Piece),e = .exit 0∧Fr a 98 [(1,s5.v),(2,(iV p_fixed)),(3,(pP b6 0)),(7,(iV (goLen p_t.Rows))),(8,(iV (goLen p_t.Cols))),(9,s8.v)]∧St [] w0 w m [q18,[⟨b6,[s1.v,s2.v,s3.v,s4.v],50⟩]]∧OwnD m 28 3 q18 s8 r_17) hl1 ⟨q8,_,_,rfl,hF.sub ⟨rfl,rfl,rfl,rfl,rfl,rfl,rfl,rfl,trivial⟩,hS,h8⟩ ?_ ?_
 ·clear hF hS
  rintro s a w st ⟨q10,r_9,t_11,rfl,hF,hS,h10⟩ hb1
  unfold impl_residual_l1 at hb1
  refine q_sr (q_y (v:=(.bool (decide (t_11 < (goLen l_7))))) hF hS (ex_ibin rfl rfl rfl) fun a hF=>q_end (n_sq (q_seq ?_)))
  rcases bcase (decide (t_11 < (goLen l_7))) with hc2 | hc2
  ·have hb1:=cond_f hc2 hb1
   refine q_cond_f hF rfl hc2 (q_exit (x_sq ?_))
   obtain rfl:=someI hb1
   exact ⟨nofun,.inl ⟨q10,rfl,hF.sub ⟨rfl,rfl,rfl,rfl,rfl,rfl,trivial⟩,hS,h10⟩⟩
  ·have hb1:=cond_t hc2 hb1
   refine q_cond_t hF rfl hc2 (q_skipc (n_sq (q_seq (q_block (q_sr (q_m hF rfl fun a hF=>q_s hF rfl fun a hF=>q_end (n_sq (q_region (q_m hF rfl fun a hF=>q_m hF rfl fun a hF=>q_m hF rfl fun a hF=>q_m hF rfl fun a hF=>q_y (v:=(iV (w64 ((goLen p_t.Rows) + (goLen p_t.Cols))))) hF hS (ex_ibin rfl rfl rfl) fun a hF=>?_)))))))))
   obtain ⟨l_12,hl_12,hb1⟩:=bindS hb1
   refine q_do rfl fun _ hK=>wp_make (z:=(0 : Int)) hF hS U28 inf3 rfl rfl rfl rfl rfl (by decide) hl_12 rfl fun a w q13 s13 hF hS h13 _=>hK _ _ ?_
   obtain ⟨e_14,he_14,hb1⟩:=bindS hb1
   obtain ⟨s15,hV15⟩:=h10.view he_14
   refine q_y (v:=(elP s8 (t_11.toNat * 1))) hF hS (ex_indexAddr U23 sz28 rfl rfl (h10.idx he_14)) fun a hF=>?_
   have hS : St _ _ _ _ [q10,q13,[⟨b6,[s1.v,s2.v,s3.v,s4.v],50⟩]]:=hS.sel [1,0,2] (by decide)
   refine q_do rfl fun _ hK=>wp_storeD hF hS h10 h13 sz28 rfl rfl he_14 rfl fun w q16 hS h16=>hK _ _ (q_end (n_ib (n_sq (q_region (q_y (v:=(iV (w64 (t_11 + 1)))) hF hS (ex_ibin rfl rfl rfl) fun a hF=>q_m hF rfl fun a hF=>q_end ?_)))))
   obtain rfl:=someI hb1
   exact ⟨rfl,q16,_,_,rfl,hF.sub ⟨rfl,rfl,rfl,rfl,rfl,rfl,rfl,rfl,trivial⟩,hS,h16⟩
 ·rintro e a w ⟨q18,rfl,hF,hS,h18⟩
  refine x_ib (n_sq ?_)
  refine q_seq (q_sr (q_m hF rfl fun a hF=>q_y (v:=(iV (goLen p_x))) hF hS (ex_len U23 rfl h5.len) fun a hF=>q_m hF rfl fun a hF=>q_end (n_sq (q_block ?_))))
  obtain ⟨r_54,hl3,hr⟩:=bindS hr
  refine q_loop (fun (s : (List (List Int)) × Int) a w=>∃ (q20 : Piece),∃ r_19,∃ t_21,s = (r_19,t_21)∧Fr a 98 [(2,(iV p_fixed)),(3,(pP b6 0)),(7,(iV (goLen p_t.Rows))),(8,(iV (goLen p_t.Cols))),(9,s8.v),(38,s5.v),(39,(iV (goLen p_x))),(40,(iV t_21))]∧St [] w0 w m [q20,[⟨b6,[s1.v,s2.v,s3.v,s4.v],50⟩]]∧OwnD m 28 3 q20 s8 r_19) (fun (r_54 : (List (List Int))) e a w=>∃ (q55 : Piece),e = .exit 2∧Fr a 98 [(9,s8.v)]∧St [] w0 w m [q55]∧OwnD m 28 3 q55 s8 r_54) hl3 ⟨q18,_,_,rfl,hF.sub ⟨rfl,rfl,rfl,rfl,rfl,rfl,rfl,rfl,trivial⟩,hS,h18⟩ ?_ ?_
  ·clear hF hS
   rintro s a w st ⟨q20,r_19,t_21,rfl,hF,hS,h20⟩ hb3
   unfold impl_residual_l2 at hb3
   refine q_sr (q_y (v:=(.bool (decide (t_21 < (goLen p_x))))) hF hS (ex_ibin rfl rfl rfl) fun a hF=>q_end (n_sq (q_seq ?_)))
   rcases bcase (decide (t_21 < (goLen p_x))) with hc4 | hc4
   ·have hb3:=cond_f hc4 hb3
    refine q_cond_f hF rfl hc4 (q_exit (x_sq ?_))
    obtain rfl:=someI hb3
    exact ⟨nofun,.inl ⟨q20,rfl,hF.sub ⟨rfl,trivial⟩,hS.mask [true,false],h20⟩⟩
   ·have hb3:=cond_t hc4 hb3
    refine q_cond_t hF rfl hc4 (q_skipc (n_sq (q_seq (q_block (q_sr (q_m hF rfl fun a hF=>?_))))))
    obtain ⟨e_22,he_22,hb3⟩:=bindS hb3
    obtain ⟨vs23,at23,d23⟩:=h5.at he_22 1 rfl
    obtain ⟨s24,rfl,h24⟩ : ∃ s24 : Sl,vs23 = [s24.v]∧Rd m s24 e_22:=d23
    refine q_y (v:=(elP s5 (t_21.toNat * 1))) hF hS (ex_indexAddr U23 sz28 rfl rfl (h5.idx he_22)) fun a hF=>q_y (v:=s24.v) hF hS (ex_loadE1 0 U28 rfl rfl ((at23).at) rfl rfl) fun a hF=>q_s hF rfl fun a hF=>q_s hF rfl fun a hF=>q_end (n_sq (q_sr (q_m hF rfl fun a hF=>q_y (v:=(iV (goLen e_22))) hF hS (ex_len U28 rfl h24.len) fun a hF=>q_m hF rfl fun a hF=>q_end (n_sq (q_block ?_)))))
    obtain ⟨r_52,hl5,hb3⟩:=bindS hb3
    refine q_loop (fun (s : (List (List Int)) × Int) a w=>∃ (q26 : Piece),∃ r_25,∃ t_27,s = (r_25,t_27)∧Fr a 98 [(2,(iV p_fixed)),(3,(pP b6 0)),(7,(iV (goLen p_t.Rows))),(8,(iV (goLen p_t.Cols))),(9,s8.v),(11,(iV t_21)),(38,s5.v),(39,(iV (goLen p_x))),(40,(iV t_21)),(45,s24.v),(46,(iV (goLen e_22))),(47,(iV t_27))]∧St [] w0 w m [q26,[⟨b6,[s1.v,s2.v,s3.v,s4.v],50⟩]]∧OwnD m 28 3 q26 s8 r_25) (fun (r_52 : (List (List Int))) e a w=>∃ (q53 : Piece),e = .exit 4∧Fr a 98 [(2,(iV p_fixed)),(3,(pP b6 0)),(7,(iV (goLen p_t.Rows))),(8,(iV (goLen p_t.Cols))),(9,s8.v),(38,s5.v),(39,(iV (goLen p_x))),(40,(iV t_21))]∧St [] w0 w m [q53,[⟨b6,[s1.v,s2.v,s3.v,s4.v],50⟩]]∧OwnD m 28 3 q53 s8 r_52) hl5 ⟨q20,_,_,rfl,hF.sub ⟨rfl,rfl,rfl,rfl,rfl,rfl,rfl,rfl,rfl,rfl,rfl,rfl,trivial⟩,hS,h20⟩ ?_ ?_
    ·clear hF hS
     rintro s a w st ⟨q26,r_25,t_27,rfl,hF,hS,h26⟩ hb5
     unfold impl_residual_l3 at hb5
     refine q_sr (q_y (v:=(.bool (decide (t_27 < (goLen e_22))))) hF hS (ex_ibin rfl rfl rfl) fun a hF=>q_end (n_sq (q_seq ?_)))
     rcases bcase (decide (t_27 < (goLen e_22))) with hc6 | hc6
     ·have hb5:=cond_f hc6 hb5
      refine q_cond_f hF rfl hc6 (q_exit (x_sq ?_))
      obtain rfl:=someI hb5
      exact ⟨nofun,.inl ⟨q26,rfl,hF.sub ⟨rfl,rfl,rfl,rfl,rfl,rfl,rfl,rfl,trivial⟩,hS,h26⟩⟩
     ·have hb5:=cond_t hc6 hb5
      refine q_cond_t hF rfl hc6 (q_skipc (n_sq (q_seq (q_block (q_sr (q_m hF rfl fun a hF=>?_))))))
      obtain ⟨e_28,he_28,hb5⟩:=bindS hb5
      obtain ⟨vs29,at29,d29⟩:=h24.at he_28 1 rfl
      obtain rfl : vs29 = [(iV e_28)]:=d29
      refine q_y (v:=(elP s24 (t_27.toNat * 1))) hF hS (ex_indexAddr U28 sz3 rfl rfl (h24.idx he_28)) fun a hF=>q_y (v:=(iV e_28)) hF hS (ex_loadE1 0 U3 rfl rfl ((at29).at) rfl rfl) fun a hF=>q_s hF rfl fun a hF=>q_s hF rfl fun a hF=>q_end (n_sq (q_sr (q_m hF rfl fun a hF=>q_m hF rfl fun a hF=>q_y (v:=(iV (w64 (t_21 * (goLen p_t.Cols))))) hF hS (ex_ibin rfl rfl rfl) fun a hF=>q_m hF rfl fun a hF=>q_y (v:=(iV (w64 ((w64 (t_21 * (goLen p_t.Cols))) + t_27)))) hF hS (ex_ibin rfl rfl rfl) fun a hF=>q_m hF rfl fun a hF=>q_y (v:=(.bool (decide (p_fixed < (w64 ((w64 (t_21 * (goLen p_t.Cols))) + t_27)))))) hF hS (ex_ibin rfl rfl rfl) fun a hF=>q_end (n_sq ?_))))
      obtain ⟨r_50,hj7,hb5⟩:=bindS hb5
      refine q_join (fun a w=>∃ (q51 : Piece),Fr a 98 [(2,(iV p_fixed)),(3,(pP b6 0)),(7,(iV (goLen p_t.Rows))),(8,(iV (goLen p_t.Cols))),(9,s8.v),(11,(iV t_21)),(38,s5.v),(39,(iV (goLen p_x))),(40,(iV t_21)),(45,s24.v),(46,(iV (goLen e_22))),(47,(iV t_27))]∧St [] w0 w m [q51,[⟨b6,[s1.v,s2.v,s3.v,s4.v],50⟩]]∧OwnD m 28 3 q51 s8 r_50) ?_ ?_
      ·rcases bcase (decide (p_fixed < (w64 ((w64 (t_21 * (goLen p_t.Cols))) + t_27)))) with hc8 | hc8
       ·have hj7:=cond_f hc8 hj7
        refine q_cond_f hF rfl hc8 (q_skipc (n_jn ?_))
        obtain rfl:=someI hj7
        exact ⟨q26,hF.sub ⟨rfl,rfl,rfl,rfl,rfl,rfl,rfl,rfl,rfl,rfl,rfl,rfl,trivial⟩,hS,h26⟩
       ·have hj7:=cond_t hc8 hj7
        refine q_cond_t hF rfl hc8 (q_seq (e_region ⟨[18],[b6],m⟩ mixed fun w' hw'=>?_))
        have hS:=hS.below hw'
        refine e_P (v:=s8.v) 0 hF rfl (ex_move rfl) fun a hF=>e_P (v:=(iV t_21)) 1 hF rfl (ex_move rfl) fun a hF=>?_
        obtain ⟨e_30,he_30,hj7⟩:=bindS hj7
        obtain ⟨s31,hV31⟩:=h26.view he_30
        refine e_P (v:=(elP s8 (t_21.toNat * 1))) 2 hF rfl (ex_indexAddr U23 sz28 rfl rfl (h26.idx he_30)) fun a hF=>e_X (v:=s31.v) 3 hF hS rfl (ex_loadE1 0 U28 rfl rfl ((hV31.atH he_30).at 0 rfl) rfl rfl) fun a hF=>e_P (v:=(iV (goLen p_t.Rows))) 4 hF rfl (ex_move rfl) fun a hF=>e_P (v:=(iV t_27)) 5 hF rfl (ex_move rfl) fun a hF=>e_P (v:=(iV (w64 ((goLen p_t.Rows) + t_27)))) 6 hF rfl (ex_ibin rfl rfl rfl) fun a hF=>e_P (v:=(pP b6 3)) 7 hF rfl (ex_fieldAddr U50 rfl sz23 rfl rfl) fun a hF=>e_xb (v:=s4.v) 8 1 hF hS (.head _) rfl rfl (ex_load1 0 0 U23 rfl rfl rfl rfl) rfl rfl (by kernel_rfl) (by kernel_rfl) (by kernel_rfl) fun a hF=>e_P (v:=(iV t_21)) 9 hF rfl (ex_move rfl) fun a hF=>?_
        obtain ⟨e_32,he_32,hj7⟩:=bindS hj7
        obtain ⟨vs33,at33,d33⟩:=h4.at he_32 1 rfl
        obtain ⟨s34,rfl,h34⟩ : ∃ s34 : Sl,vs33 = [s34.v]∧Rd m s34 e_32:=d33
        refine e_P (v:=(elP s4 (t_21.toNat * 1))) 10 hF rfl (ex_indexAddr U23 sz28 rfl rfl (h4.idx he_32)) fun a hF=>e_xm (v:=s34.v) 11 hF hS (Mem.le.refl _) rfl (ex_loadE1 0 U28 rfl rfl ((at33).at) rfl rfl) rfl rfl (by kernel_rfl) (by kernel_rfl) (by kernel_rfl) fun a hF=>e_P (v:=(iV t_27)) 12 hF rfl (ex_move rfl) fun a hF=>?_
        obtain ⟨e_35,he_35,hj7⟩:=bindS hj7
        obtain ⟨vs36,at36,d36⟩:=h34.at he_35 1 rfl
        obtain rfl : vs36 = [(iV e_35)]:=d36
        refine e_P (v:=(elP s34 (t_27.toNat * 1))) 13 hF rfl (ex_indexAddr U28 sz3 rfl rfl (h34.idx he_35)) fun a hF=>e_xm (v:=(iV e_35)) 14 hF hS (Mem.le.refl _) rfl (ex_loadE1 0 U3 rfl rfl ((at36).at) rfl rfl) rfl rfl (by kernel_rfl) (by kernel_rfl) (by kernel_rfl) fun a hF=>e_P (v:=(iV e_28)) 15 hF rfl (ex_move rfl) fun a hF=>e_P (v:=(iV (w64 (e_35 - e_28)))) 16 hF rfl (ex_ibin rfl rfl rfl) fun a hF=>?_
        obtain ⟨e_37,he_37,hj7⟩:=bindS hj7
        obtain ⟨vs38,at38,d38⟩:=hV31.at he_30 he_37 1 rfl
        obtain rfl : vs38 = [(iV e_37)]:=d38
        refine e_P (v:=(elP s31 ((w64 ((goLen p_t.Rows) + t_27)).toNat * 1))) 17 hF rfl (ex_indexAddr U28 sz3 rfl rfl (hV31.idx he_30 he_37)) fun a hF=>e_one 18 (by kernel_rfl) ?_
        have hSo:=hS
        refine e_opl rfl rfl rfl fun _ hK=>wp_storeV (e':=(w64 (e_35 - e_28))) (us:=[(iV (w64 (e_35 - e_28)))]) (vs:=[(iV e_37)]) 0 hF hS hV31 he_30 sz3 rfl rfl rfl rfl rfl rfl rfl he_37 at38 rfl rfl rfl fun w q39 hS h39=>hK _ _ (⟨⟨kpC hSo hS 1 1 rfl rfl kpN,fun _=>hS.vis.of_le (Mem.le.refl _)⟩,?_⟩)
        refine e_end (by kernel_rfl) (n_sq ?_) _
        refine e_region ⟨[18],[b6],m⟩ mixed fun w' hw'=>?_
        have hS:=hS.below hw'
        refine e_P (v:=s8.v) 0 hF rfl (ex_move rfl) fun a hF=>e_P (v:=(iV (goLen p_t.Rows))) 1 hF rfl (ex_move rfl) fun a hF=>e_P (v:=(iV t_27)) 2 hF rfl (ex_move rfl) fun a hF=>e_P (v:=(iV (w64 ((goLen p_t.Rows) + t_27)))) 3 hF rfl (ex_ibin rfl rfl rfl) fun a hF=>?_
        obtain ⟨e_40,he_40,hj7⟩:=bindS hj7
        obtain ⟨s41,hV41⟩:=h39.own.view he_40
        refine e_P (v:=(elP s8 ((w64 ((goLen p_t.Rows) + t_27)).toNat * 1))) 4 hF rfl (ex_indexAddr U23 sz28 rfl rfl (h39.own.idx he_40)) fun a hF=>e_X (v:=s41.v) 5 hF hS rfl (ex_loadE1 0 U28 rfl rfl ((hV41.atH he_40).at 0 rfl) rfl rfl) fun a hF=>e_P (v:=(iV t_21)) 6 hF rfl (ex_move rfl) fun a hF=>e_P (v:=(iV e_28)) 7 hF rfl (ex_move rfl) fun a hF=>e_P (v:=(pP b6 2)) 8 hF rfl (ex_fieldAddr U50 rfl sz23 rfl rfl) fun a hF=>e_xb (v:=s3.v) 9 1 hF hS (.head _) rfl rfl (ex_load1 0 0 U23 rfl rfl rfl rfl) rfl rfl (by kernel_rfl) (by kernel_rfl) (by kernel_rfl) fun a hF=>e_P (v:=(iV t_21)) 10 hF rfl (ex_move rfl) fun a hF=>?_
        obtain ⟨e_42,he_42,hj7⟩:=bindS hj7
        obtain ⟨vs43,at43,d43⟩:=h3.at he_42 1 rfl
        obtain ⟨s44,rfl,h44⟩ : ∃ s44 : Sl,vs43 = [s44.v]∧Rd m s44 e_42:=d43
        refine e_P (v:=(elP s3 (t_21.toNat * 1))) 11 hF rfl (ex_indexAddr U23 sz28 rfl rfl (h3.idx he_42)) fun a hF=>e_xm (v:=s44.v) 12 hF hS (Mem.le.refl _) rfl (ex_loadE1 0 U28 rfl rfl ((at43).at) rfl rfl) rfl rfl (by kernel_rfl) (by kernel_rfl) (by kernel_rfl) fun a hF=>e_P (v:=(iV t_27)) 13 hF rfl (ex_move rfl) fun a hF=>?_
        obtain ⟨e_45,he_45,hj7⟩:=bindS hj7
        obtain ⟨vs46,at46,d46⟩:=h44.at he_45 1 rfl
        obtain rfl : vs46 = [(iV e_45)]:=d46
        refine e_P (v:=(elP s44 (t_27.toNat * 1))) 14 hF rfl (ex_indexAddr U28 sz3 rfl rfl (h44.idx he_45)) fun a hF=>e_xm (v:=(iV e_45)) 15 hF hS (Mem.le.refl _) rfl (ex_loadE1 0 U3 rfl rfl ((at46).at) rfl rfl) rfl rfl (by kernel_rfl) (by kernel_rfl) (by kernel_rfl) fun a hF=>e_P (v:=(iV (w64 (e_28 - e_45)))) 16 hF rfl (ex_ibin rfl rfl rfl) fun a hF=>?_
        obtain ⟨e_47,he_47,hj7⟩:=bindS hj7
        obtain ⟨vs48,at48,d48⟩:=hV41.at he_40 he_47 1 rfl
        obtain rfl : vs48 = [(iV e_47)]:=d48
        refine e_P (v:=(elP s41 (t_21.toNat * 1))) 17 hF rfl (ex_indexAddr U28 sz3 rfl rfl (hV41.idx he_40 he_47)) fun a hF=>e_one 18 (by kernel_rfl) ?_
        have hSo:=hS
        refine e_opl rfl rfl rfl fun _ hK=>wp_storeV (e':=(w64 (e_28 - e_45))) (us:=[(iV (w64 (e_28 - e_45)))]) (vs:=[(iV e_47)]) 0 hF hS hV41 he_40 sz3 rfl rfl rfl rfl rfl rfl rfl he_47 at48 rfl rfl rfl fun w q49 hS h49=>hK _ _ (⟨⟨kpC hSo hS 1 1 rfl rfl kpN,fun _=>hS.vis.of_le (Mem.le.refl _)⟩,?_⟩)
        refine e_end (by kernel_rfl) (n_jn ?_) _
        obtain rfl:=someI hj7
        exact ⟨q49,hF.sub ⟨rfl,rfl,rfl,rfl,rfl,rfl,rfl,rfl,rfl,rfl,rfl,rfl,trivial⟩,hS,h49.own⟩
      ·rintro a w ⟨q51,hF,hS,h51⟩
       refine n_ib (n_sq ?_)
       refine q_region (q_y (v:=(iV (w64 (t_27 + 1)))) hF hS (ex_ibin rfl rfl rfl) fun a hF=>q_m hF rfl fun a hF=>q_end ?_)
       obtain rfl:=someI hb5
       exact ⟨rfl,q51,_,_,rfl,hF.sub ⟨rfl,rfl,rfl,rfl,rfl,rfl,rfl,rfl,rfl,rfl,rfl,rfl,trivial⟩,hS,h51⟩
    ·rintro e a w ⟨q53,rfl,hF,hS,h53⟩
     refine x_ib (n_ib (n_sq ?_))
     refine q_region (q_y (v:=(iV (w64 (t_21 + 1)))) hF hS (ex_ibin rfl rfl rfl) fun a hF=>q_m hF rfl fun a hF=>q_end ?_)
     obtain rfl:=someI hb3
     exact ⟨rfl,q53,_,_,rfl,hF.sub ⟨rfl,rfl,rfl,rfl,rfl,rfl,rfl,rfl,trivial⟩,hS,h53⟩
  ·rintro e a w ⟨q55,rfl,hF,hS,h55⟩
   refine x_ib (n_sq ?_)
   refine q_sr (q_m hF rfl fun a hF=>q_s hF rfl fun a hF=>q_end (n_sq (q_ret ?_)))
   obtain rfl:=someI hr
   exact ret_of hF hS rfl (.tmp rfl .nil) ⟨q55,s8,rfl,hS.sel [0] (by decide),h55⟩

theorem c_impl_push (p_r : List (List Int)) (p_from : Int) (p_to : Int) (p_limit : Int) (r : Int × (List (List Int))) (hr : impl_push p_r p_from p_to p_limit = some r) (w0 : World) (m : Mem) (s1 : Sl) (q1 : Piece) (h1 : OwnD m 28 3 q1 s1 p_r) (X : List Nat) (hS : St X w0 w0 m [q1]) :
  RetX Try.prog 156 [s1.v,(iV p_from),(iV p_to),(iV p_limit)] w0 (fun v w=>∃ (qp0 : Piece),v = (iV r.1)∧St X w0 w m [qp0]∧OwnD m 28 3 qp0 s1 r.2):=by
 unfold impl_push at hr
 refine ret_startX Try.func156 rfl 149 rfl rfl fun a hF=>q_sr (q_s hF rfl fun a hF=>q_end (n_sq (q_sr (q_s hF rfl fun a hF=>q_end (n_sq (q_seq (q_block ?_)))))))
 obtain ⟨o1,hl1,hr⟩:=bindS hr
 refine q_loop (fun (s : (List (List Int)) × Int) a w=>∃ (q3 : Piece),∃ r_2,∃ sent_4,s = (r_2,sent_4)∧Fr a 149 [(0,s1.v),(1,(iV p_from)),(2,(iV p_to)),(3,(iV p_limit)),(9,(iV sent_4))]∧St X w0 w m [q3]∧OwnD m 28 3 q3 s1 r_2) (fun (o : (List (List Int)) × Int) e a w=>∃ (q97 : Piece),∃ r_96,∃ sent_98,o = (r_96,sent_98)∧e = .exit 0∧Fr a 149 [(9,(iV sent_98))]∧St X w0 w m [q97]∧OwnD m 28 3 q97 s1 r_96) hl1 ⟨q1,_,_,rfl,hF.sub ⟨rfl,rfl,rfl,rfl,rfl,trivial⟩,hS,h1⟩ ?_ ?_
 ·clear hF hS
  rintro s a w st ⟨q3,r_2,sent_4,rfl,hF,hS,h3⟩ hb1
  unfold impl_push_l1 at hb1
  refine q_seq (q_sr (q_m hF rfl fun a hF=>q_m hF rfl fun a hF=>q_y (v:=(.bool (decide (sent_4 < p_limit)))) hF hS (ex_ibin rfl rfl rfl) fun a hF=>q_end (n_sq ?_)))
  rcases bcase (decide (sent_4 < p_limit)) with hc2 | hc2
  ·have hb1:=cond_f hc2 hb1
   refine q_cond_f hF rfl hc2 (q_exit (x_sq ?_))
   obtain rfl:=someI hb1
   exact ⟨nofun,.inl ⟨q3,_,_,rfl,rfl,hF.sub ⟨rfl,trivial⟩,hS,h3⟩⟩
  ·have hb1:=cond_t hc2 hb1
   refine q_cond_t hF rfl hc2 (q_skipc (n_sq (q_block (q_sr (q_m hF rfl fun a hF=>q_y (v:=(iV (goLen r_2))) hF hS (ex_len U23 rfl h3.len) fun a hF=>?_)))))
   obtain ⟨l_5,hl_5,hb1⟩:=bindS hb1
   refine q_do rfl fun _ hK=>wp_make (z:=(0 : Int)) hF hS U28 inf3 rfl rfl rfl rfl rfl (by decide) hl_5 rfl fun a w q6 s6 hF hS h6 _=>hK _ _ (q_s hF rfl fun a hF=>q_end (n_sq (q_seq (q_sr (q_m hF rfl fun a hF=>q_y (v:=(iV (goLen l_5))) hF hS (ex_len U28 rfl h6.len) fun a hF=>q_m hF rfl fun a hF=>q_end (n_sq (q_block ?_)))))))
   obtain ⟨back_13,hl3,hb1⟩:=bindS hb1
   refine q_loop (fun (s : (List Int) × Int) a w=>∃ (q8 : Piece),∃ back_7,∃ t_9,s = (back_7,t_9)∧Fr a 149 [(0,s1.v),(1,(iV p_from)),(2,(iV p_to)),(3,(iV p_limit)),(9,(iV sent_4)),(10,s6.v),(26,(iV (goLen l_5))),(27,(iV t_9))]∧St X w0 w m [q8,q3]∧OwnL m 3 q8 s6 back_7) (fun (back_13 : (List Int)) e a w=>∃ (q14 : Piece),e = .exit 2∧Fr a 149 [(0,s1.v),(1,(iV p_from)),(2,(iV p_to)),(3,(iV p_limit)),(9,(iV sent_4)),(10,s6.v)]∧St X w0 w m [q3,q14]∧OwnL m 3 q14 s6 back_13) hl3 ⟨q6,_,_,rfl,hF.sub ⟨rfl,rfl,rfl,rfl,rfl,rfl,rfl,rfl,trivial⟩,hS,h6⟩ ?_ ?_
   ·clear hF hS
    rintro s a w st ⟨q8,back_7,t_9,rfl,hF,hS,h8⟩ hb3
    unfold impl_push_l2 at hb3
    refine q_sr (q_y (v:=(.bool (decide (t_9 < (goLen l_5))))) hF hS (ex_ibin rfl rfl rfl) fun a hF=>q_end (n_sq (q_seq ?_)))
    rcases bcase (decide (t_9 < (goLen l_5))) with hc4 | hc4
    ·have hb3:=cond_f hc4 hb3
     refine q_cond_f hF rfl hc4 (q_exit (x_sq ?_))
     obtain rfl:=someI hb3
     exact ⟨nofun,.inl ⟨q8,rfl,hF.sub ⟨rfl,rfl,rfl,rfl,rfl,rfl,trivial⟩,hS.sel [1,0] (by decide),h8⟩⟩
    ·have hb3:=cond_t hc4 hb3
     refine q_cond_t hF rfl hc4 (q_skipc (n_sq (q_seq (q_block (q_sr (q_m hF rfl fun a hF=>q_s hF rfl fun a hF=>q_end (n_sq (q_region (q_m hF rfl fun a hF=>q_m hF rfl fun a hF=>?_)))))))))
     obtain ⟨e_10,he_10,hb3⟩:=bindS hb3
     obtain ⟨vs11,at11,d11⟩:=h8.at he_10 1 rfl
     obtain rfl : vs11 = [(iV e_10)]:=d11
     refine q_y (v:=(elP s6 (t_9.toNat * 1))) hF hS (ex_indexAddr U28 sz3 rfl rfl (h8.idx he_10)) fun a hF=>q_do rfl fun _ hK=>wp_storeE (e':=-1) (us:=[(iV (-1))]) (vs:=[(iV e_10)]) 0 hF hS h8 sz3 rfl rfl rfl rfl rfl rfl rfl he_10 at11 rfl rfl rfl fun w q12 hS h12=>hK _ _ (q_end (n_ib (n_sq (q_region (q_y (v:=(iV (w64 (t_9 + 1)))) hF hS (ex_ibin rfl rfl rfl) fun a hF=>q_m hF rfl fun a hF=>q_end ?_)))))
     obtain rfl:=someI hb3
     exact ⟨rfl,q12,_,_,rfl,hF.sub ⟨rfl,rfl,rfl,rfl,rfl,rfl,rfl,rfl,trivial⟩,hS,h12⟩
   ·rintro e a w ⟨q14,rfl,hF,hS,h14⟩
    refine x_ib (n_sq ?_)
    refine q_sr (q_m hF rfl fun a hF=>q_m hF rfl fun a hF=>q_m hF rfl fun a hF=>?_)
    obtain ⟨e_15,he_15,hb1⟩:=bindS hb1
    obtain ⟨vs16,at16,d16⟩:=h14.at he_15 1 rfl
    obtain rfl : vs16 = [(iV e_15)]:=d16
    refine q_y (v:=(elP s6 (p_from.toNat * 1))) hF hS (ex_indexAddr U28 sz3 rfl rfl (h14.idx he_15)) fun a hF=>?_
    have hS : St _ _ _ _ [q14,q3]:=hS.sel [1,0] (by decide)
    refine q_do rfl fun _ hK=>wp_storeE (e':=p_from) (us:=[(iV p_from)]) (vs:=[(iV e_15)]) 0 hF hS h14 sz3 rfl rfl rfl rfl rfl rfl rfl he_15 at16 rfl rfl rfl fun w q17 hS h17=>hK _ _ (q_end (n_sq (q_sr (q_m hF rfl fun a hF=>q_do rfl fun _ hK=>wp_buildSlice' (l:=([p_from] : List Int)) (cells:=[(iV p_from)]) hF hS U28 inf3 rfl rfl (by kernel_rfl) rfl rfl rfl ⟨rfl,rfl⟩ rfl rfl fun a w q18 s18 hF hS h18 _=>hK _ _ ?_))))
    replace h18:=h18.toT (List.cons_ne_nil _ _)
    refine q_s hF rfl fun a hF=>q_end (n_sq (q_seq (q_block ?_)))
    obtain ⟨back_56,hl5,hb1⟩:=bindS hb1
    refine q_loop (fun (s : (List Int) × (List Int)) a w=>∃ (q20 : Piece),∃ (q22 : Piece),∃ (s22 : Sl),∃ back_19,∃ queue_21,s = (back_19,queue_21)∧Fr a 149 [(0,s1.v),(1,(iV p_from)),(2,(iV p_to)),(3,(iV p_limit)),(9,(iV sent_4)),(10,s6.v),(12,s22.v)]∧St X w0 w m [q20,q22,q3]∧OwnL m 3 q20 s6 back_19∧OwnT m 3 q22 s22 queue_21) (fun (back_56 : (List Int)) e a w=>∃ (q57 : Piece),e = .exit 4∧Fr a 149 [(0,s1.v),(1,(iV p_from)),(2,(iV p_to)),(3,(iV p_limit)),(9,(iV sent_4)),(10,s6.v)]∧St X w0 w m [q3,q57]∧OwnL m 3 q57 s6 back_56) hl5 ⟨q17,q18,s18,_,_,rfl,hF.sub ⟨rfl,rfl,rfl,rfl,rfl,rfl,rfl,trivial⟩,hS.sel [1,0,2] (by decide),h17,h18⟩ ?_ ?_
    ·clear hF hS
     rintro s a w st ⟨q20,q22,s22,back_19,queue_21,rfl,hF,hS,h20,h22⟩ hb5
     unfold impl_push_l3 at hb5
     refine q_seq (q_seq ?_)
     obtain ⟨t_25,hj6,hb5⟩:=bindS hb5
     refine q_join (fun a w=>Fr a 149 [(0,s1.v),(1,(iV p_from)),(2,(iV p_to)),(3,(iV p_limit)),(9,(iV sent_4)),(10,s6.v),(12,s22.v),(49,(.bool t_25))]∧St X w0 w m [q3,q20,q22]) ?_ ?_
     ·refine q_region (q_m hF rfl fun a hF=>q_y (v:=(iV (goLen queue_21))) hF hS (ex_len U28 rfl h22.len) fun a hF=>q_y (v:=(.bool (decide (0 < (goLen queue_21))))) hF hS (ex_ibin rfl rfl rfl) fun a hF=>q_m hF rfl fun a hF=>?_)
      rcases bcase (decide (0 < (goLen queue_21))) with hc7 | hc7
      ·have hj6:=cond_f hc7 hj6
       refine q_k hF hc7 fun a hF=>q_k hF hc7 fun a hF=>q_k hF hc7 fun a hF=>q_k hF hc7 fun a hF=>q_k hF hc7 fun a hF=>q_y (v:=(.bool false)) hF hS (ex_pick_f rfl rfl hc7) fun a hF=>q_end (n_jn ?_)
       obtain rfl:=someI hj6
       exact ⟨hF.sub ⟨rfl,rfl,rfl,rfl,rfl,rfl,rfl,rfl,trivial⟩,hS.sel [2,0,1] (by decide)⟩
      ·have hj6:=cond_t hc7 hj6
       refine q_g (v:=s6.v) hF hS (ex_move rfl) hc7 fun a hF=>q_g (v:=(iV p_to)) hF hS (ex_move rfl) hc7 fun a hF=>?_
       obtain ⟨e_23,he_23,hj6⟩:=bindS hj6
       obtain ⟨vs24,at24,d24⟩:=h20.at he_23 1 rfl
       obtain rfl : vs24 = [(iV e_23)]:=d24
       refine q_g (v:=(elP s6 (p_to.toNat * 1))) hF hS (ex_indexAddr U28 sz3 rfl rfl (h20.idx he_23)) hc7 fun a hF=>q_g (v:=(iV e_23)) hF hS (ex_loadE1 0 U3 rfl rfl (at24.at 0 rfl) rfl rfl) hc7 fun a hF=>q_g (v:=(.bool (decide (e_23 < 0)))) hF hS (ex_ibin rfl rfl rfl) hc7 fun a hF=>q_y (v:=(.bool (decide (e_23 < 0)))) hF hS (ex_pick_t rfl rfl hc7) fun a hF=>q_end (n_jn ?_)
       obtain rfl:=someI hj6
       exact ⟨hF.sub ⟨rfl,rfl,rfl,rfl,rfl,rfl,rfl,rfl,trivial⟩,hS.sel [2,0,1] (by decide)⟩
     ·rintro a w ⟨hF,hS⟩
      refine n_sq ?_
      rcases bcase (t_25) with hc8 | hc8
      ·have hb5:=cond_f hc8 hb5
       refine q_cond_f hF rfl hc8 (q_exit (x_sq ?_))
       obtain rfl:=someI hb5
       exact ⟨nofun,.inl ⟨q20,rfl,hF.sub ⟨rfl,rfl,rfl,rfl,rfl,rfl,trivial⟩,hS.mask [true,true,false],h20⟩⟩
      ·have hb5:=cond_t hc8 hb5
       refine q_cond_t hF rfl hc8 (q_skipc (n_sq (q_block (q_sr (q_m hF rfl fun a hF=>?_)))))
       obtain ⟨e_26,he_26,hb5⟩:=bindS hb5
       obtain ⟨vs27,at27,d27⟩:=h22.at he_26 1 rfl
       obtain rfl : vs27 = [(iV e_26)]:=d27
       refine q_y (v:=(elP s22 ((0 : Int).toNat * 1))) hF hS (ex_indexAddr U28 sz3 rfl rfl (h22.idx he_26)) fun a hF=>q_y (v:=(iV e_26)) hF hS (ex_loadE1 0 U3 rfl rfl (at27.at 2 rfl) rfl rfl) fun a hF=>q_s hF rfl fun a hF=>q_end (n_sq (q_sr (q_m hF rfl fun a hF=>?_)))
       obtain ⟨l_28,hl_28,hb5⟩:=bindS hb5
       have h29 : OwnT m 3 q22 (subS s22 1 (1 : Int).toNat (goLen queue_21).toNat s22.cap) l_28:=h22.sub1 hl_28
       refine q_y (v:=(subS s22 1 (1 : Int).toNat (goLen queue_21).toNat s22.cap).v) hF hS (ex_slice U28 sz3 rfl rfl rfl (.inr ⟨_,rfl⟩) (.inl ⟨rfl,h22.jlen⟩) (h22.subok hl_28)) fun a hF=>q_s hF rfl fun a hF=>q_end (n_sq (q_sr (q_m hF rfl fun a hF=>q_m hF rfl fun a hF=>?_)))
       obtain ⟨e_30,he_30,hb5⟩:=bindS hb5
       obtain ⟨s31,hV31⟩:=h3.view he_30
       refine q_y (v:=(elP s1 (e_26.toNat * 1))) hF hS (ex_indexAddr U23 sz28 rfl rfl (h3.idx he_30)) fun a hF=>q_y (v:=s31.v) hF hS (ex_loadE1 0 U28 rfl rfl ((hV31.atH he_30).at 0 rfl) rfl rfl) fun a hF=>q_y (v:=(iV (goLen e_30))) hF hS (ex_len U28 rfl (hV31.len he_30)) fun a hF=>q_m hF rfl fun a hF=>q_end (n_sq (q_block ?_))
       obtain ⟨o9,hl9,hb5⟩:=bindS hb5
       refine q_loop (fun (s : (List Int) × (List Int) × Int) a w=>∃ (q33 : Piece),∃ (q35 : Piece),∃ (s35 : Sl),∃ back_32,∃ queue_34,∃ t_36,s = (back_32,queue_34,t_36)∧Fr a 149 [(0,s1.v),(1,(iV p_from)),(2,(iV p_to)),(3,(iV p_limit)),(9,(iV sent_4)),(10,s6.v),(12,s35.v),(13,(iV e_26)),(58,s31.v),(59,(iV (goLen e_30))),(60,(iV t_36))]∧St X w0 w m [q33,q35,q3]∧OwnL m 3 q33 s6 back_32∧OwnT m 3 q35 s35 queue_34) (fun (o : (List Int) × (List Int)) e a w=>∃ (q53 : Piece),∃ (q55 : Piece),∃ (s55 : Sl),∃ back_52,∃ queue_54,o = (back_52,queue_54)∧e = .exit 6∧Fr a 149 [(0,s1.v),(1,(iV p_from)),(2,(iV p_to)),(3,(iV p_limit)),(9,(iV sent_4)),(10,s6.v),(12,s55.v)]∧St X w0 w m [q3,q53,q55]∧OwnL m 3 q53 s6 back_52∧OwnT m 3 q55 s55 queue_54) hl9 ⟨q20,q22,(subS s22 1 (1 : Int).toNat (goLen queue_21).toNat s22.cap),_,_,_,rfl,hF.sub ⟨rfl,rfl,rfl,rfl,rfl,rfl,rfl,rfl,rfl,rfl,rfl,trivial⟩,hS.sel [1,2,0] (by decide),h20,h29⟩ ?_ ?_
       ·clear hF hS
        rintro s a w st ⟨q33,q35,s35,back_32,queue_34,t_36,rfl,hF,hS,h33,h35⟩ hb9
        unfold impl_push_l4 at hb9
        refine q_sr (q_y (v:=(.bool (decide (t_36 < (goLen e_30))))) hF hS (ex_ibin rfl rfl rfl) fun a hF=>q_end (n_sq (q_seq ?_)))
        rcases bcase (decide (t_36 < (goLen e_30))) with hc10 | hc10
        ·have hb9:=cond_f hc10 hb9
         refine q_cond_f hF rfl hc10 (q_exit (x_sq ?_))
         obtain rfl:=someI hb9
         exact ⟨nofun,.inl ⟨q33,q35,s35,_,_,rfl,rfl,hF.sub ⟨rfl,rfl,rfl,rfl,rfl,rfl,rfl,trivial⟩,hS.sel [2,0,1] (by decide),h33,h35⟩⟩
        ·have hb9:=cond_t hc10 hb9
         refine q_cond_t hF rfl hc10 (q_skipc (n_sq (q_seq (q_block (q_sr (q_m hF rfl fun a hF=>?_))))))
         obtain ⟨e_37,he_37,hb9⟩:=bindS hb9
         obtain ⟨vs38,at38,d38⟩:=hV31.at he_30 he_37 1 rfl
         obtain rfl : vs38 = [(iV e_37)]:=d38
         refine q_y (v:=(elP s31 (t_36.toNat * 1))) hF hS (ex_indexAddr U28 sz3 rfl rfl (hV31.idx he_30 he_37)) fun a hF=>q_y (v:=(iV e_37)) hF hS (ex_loadE1 0 U3 rfl rfl (at38.at 2 rfl) rfl rfl) fun a hF=>q_s hF rfl fun a hF=>q_s hF rfl fun a hF=>q_end (n_sq (q_seq ?_))
         obtain ⟨t_41,hj11,hb9⟩:=bindS hb9
         refine q_join (fun a w=>Fr a 149 [(0,s1.v),(1,(iV p_from)),(2,(iV p_to)),(3,(iV p_limit)),(9,(iV sent_4)),(10,s6.v),(12,s35.v),(13,(iV e_26)),(14,(iV t_36)),(58,s31.v),(59,(iV (goLen e_30))),(60,(iV t_36)),(73,(.bool t_41))]∧St X w0 w m [q3,q33,q35]) ?_ ?_
         ·refine q_region (q_m hF rfl fun a hF=>q_y (v:=(.bool (decide (0 < e_37)))) hF hS (ex_ibin rfl rfl rfl) fun a hF=>q_m hF rfl fun a hF=>?_)
          rcases bcase (decide (0 < e_37)) with hc12 | hc12
          ·have hj11:=cond_f hc12 hj11
           refine q_k hF hc12 fun a hF=>q_k hF hc12 fun a hF=>q_k hF hc12 fun a hF=>q_k hF hc12 fun a hF=>q_k hF hc12 fun a hF=>q_y (v:=(.bool false)) hF hS (ex_pick_f rfl rfl hc12) fun a hF=>q_end (n_jn ?_)
           obtain rfl:=someI hj11
           exact ⟨hF.sub ⟨rfl,rfl,rfl,rfl,rfl,rfl,rfl,rfl,rfl,rfl,rfl,rfl,rfl,trivial⟩,hS.sel [2,0,1] (by decide)⟩
          ·have hj11:=cond_t hc12 hj11
           refine q_g (v:=s6.v) hF hS (ex_move rfl) hc12 fun a hF=>q_g (v:=(iV t_36)) hF hS (ex_move rfl) hc12 fun a hF=>?_
           obtain ⟨e_39,he_39,hj11⟩:=bindS hj11
           obtain ⟨vs40,at40,d40⟩:=h33.at he_39 1 rfl
           obtain rfl : vs40 = [(iV e_39)]:=d40
           refine q_g (v:=(elP s6 (t_36.toNat * 1))) hF hS (ex_indexAddr U28 sz3 rfl rfl (h33.idx he_39)) hc12 fun a hF=>q_g (v:=(iV e_39)) hF hS (ex_loadE1 0 U3 rfl rfl (at40.at 0 rfl) rfl rfl) hc12 fun a hF=>q_g (v:=(.bool (decide (e_39 < 0)))) hF hS (ex_ibin rfl rfl rfl) hc12 fun a hF=>q_y (v:=(.bool (decide (e_39 < 0)))) hF hS (ex_pick_t rfl rfl hc12) fun a hF=>q_end (n_jn ?_)
           obtain rfl:=someI hj11
           exact ⟨hF.sub ⟨rfl,rfl,rfl,rfl,rfl,rfl,rfl,rfl,rfl,rfl,rfl,rfl,rfl,trivial⟩,hS.sel [2,0,1] (by decide)⟩
         ·rintro a w ⟨hF,hS⟩
          refine n_sq ?_
          obtain ⟨j13,hj13,hb9⟩:=bindS hb9
          refine q_join (fun a w=>∃ (q49 : Piece),∃ (q51 : Piece),∃ (s51 : Sl),∃ back_48,∃ queue_50,j13 = (back_48,queue_50)∧Fr a 149 [(0,s1.v),(1,(iV p_from)),(2,(iV p_to)),(3,(iV p_limit)),(9,(iV sent_4)),(10,s6.v),(12,s51.v),(13,(iV e_26)),(58,s31.v),(59,(iV (goLen e_30))),(60,(iV t_36))]∧St X w0 w m [q3,q49,q51]∧OwnL m 3 q49 s6 back_48∧OwnT m 3 q51 s51 queue_50) ?_ ?_
          ·rcases bcase (t_41) with hc14 | hc14
           ·have hj13:=cond_f hc14 hj13
            refine q_cond_f hF rfl hc14 (q_skipc (n_jn ?_))
            obtain rfl:=someI hj13
            exact ⟨q33,q35,s35,_,_,rfl,hF.sub ⟨rfl,rfl,rfl,rfl,rfl,rfl,rfl,rfl,rfl,rfl,rfl,trivial⟩,hS,h33,h35⟩
           ·have hj13:=cond_t hc14 hj13
            refine q_cond_t hF rfl hc14 (q_sr (q_m hF rfl fun a hF=>q_m hF rfl fun a hF=>q_m hF rfl fun a hF=>?_))
            obtain ⟨e_42,he_42,hj13⟩:=bindS hj13
            obtain ⟨vs43,at43,d43⟩:=h33.at he_42 1 rfl
            obtain rfl : vs43 = [(iV e_42)]:=d43
            refine q_y (v:=(elP s6 (t_36.toNat * 1))) hF hS (ex_indexAddr U28 sz3 rfl rfl (h33.idx he_42)) fun a hF=>?_
            have hS : St _ _ _ _ [q33,q3,q35]:=hS.sel [1,0,2] (by decide)
            refine q_do rfl fun _ hK=>wp_storeE (e':=e_26) (us:=[(iV e_26)]) (vs:=[(iV e_42)]) 0 hF hS h33 sz3 rfl rfl rfl rfl rfl rfl rfl he_42 at43 rfl rfl rfl fun w q44 hS h44=>hK _ _ (q_end (n_sq (q_region (q_m hF rfl fun a hF=>q_m hF rfl fun a hF=>q_do rfl fun _ hK=>wp_buildSlice' (l:=([t_36] : List Int)) (cells:=[(iV t_36)]) hF hS U28 inf3 rfl rfl (by kernel_rfl) rfl rfl rfl ⟨rfl,rfl⟩ rfl rfl fun a w q45 s45 hF hS h45 _=>hK _ _ ?_))))
            have hS : St _ _ _ _ [q35,q45,q44,q3]:=hS.sel [3,0,1,2] (by decide)
            obtain ⟨l_46,hl_46,hj13⟩:=bindS hj13
            refine q_do rfl fun _ hK=>wp_appendT hF hS h35 U28 inf3 rfl rfl rfl rfl (h45.vw hS (j:=1) rfl) (by decide) hl_46 rfl fun a w q47 s47 hF hS h47=>hK _ _ (q_s hF rfl fun a hF=>q_end (n_jn ?_))
            obtain rfl:=someI hj13
            exact ⟨q44,q47,s47,_,_,rfl,hF.sub ⟨rfl,rfl,rfl,rfl,rfl,rfl,rfl,rfl,rfl,rfl,rfl,trivial⟩,hS.sel [3,2,0] (by decide),h44,h47⟩
          ·rintro a w ⟨q49,q51,s51,back_48,queue_50,rfl,hF,hS,h49,h51⟩
           refine n_ib (n_sq ?_)
           refine q_region (q_y (v:=(iV (w64 (t_36 + 1)))) hF hS (ex_ibin rfl rfl rfl) fun a hF=>q_m hF rfl fun a hF=>q_end ?_)
           obtain rfl:=someI hb9
           exact ⟨rfl,q49,q51,s51,_,_,_,rfl,hF.sub ⟨rfl,rfl,rfl,rfl,rfl,rfl,rfl,rfl,rfl,rfl,rfl,trivial⟩,hS.sel [1,2,0] (by decide),h49,h51⟩
       ·rintro e a w ⟨q53,q55,s55,back_52,queue_54,rfl,rfl,hF,hS,h53,h55⟩
        refine x_ib (n_ib ?_)
        obtain rfl:=someI hb5
        exact ⟨rfl,q53,q55,s55,_,_,rfl,hF.sub ⟨rfl,rfl,rfl,rfl,rfl,rfl,rfl,trivial⟩,hS.sel [1,2,0] (by decide),h53,h55⟩
    ·rintro e a w ⟨q57,rfl,hF,hS,h57⟩
     refine x_ib (n_sq ?_)
     refine q_seq (q_sr (q_m hF rfl fun a hF=>q_m hF rfl fun a hF=>?_))
     obtain ⟨e_58,he_58,hb1⟩:=bindS hb1
     obtain ⟨vs59,at59,d59⟩:=h57.at he_58 1 rfl
     obtain rfl : vs59 = [(iV e_58)]:=d59
     refine q_y (v:=(elP s6 (p_to.toNat * 1))) hF hS (ex_indexAddr U28 sz3 rfl rfl (h57.idx he_58)) fun a hF=>q_y (v:=(iV e_58)) hF hS (ex_loadE1 0 U3 rfl rfl (at59.at 1 rfl) rfl rfl) fun a hF=>q_y (v:=(.bool (decide (e_58 < 0)))) hF hS (ex_ibin rfl rfl rfl) fun a hF=>q_end (n_sq ?_)
     rcases bcase (decide (e_58 < 0)) with hc15 | hc15
     ·have hb1:=cond_f hc15 hb1
      refine q_cond_f hF rfl hc15 (q_skipc (n_sq (q_sr (q_m hF rfl fun a hF=>q_m hF rfl fun a hF=>q_y (v:=(iV (w64 (p_limit - sent_4)))) hF hS (ex_ibin rfl rfl rfl) fun a hF=>q_s hF rfl fun a hF=>q_end (n_sq (q_seq (q_sr (q_m hF rfl fun a hF=>q_s hF rfl fun a hF=>q_end (n_sq (q_block ?_))))))))))
      obtain ⟨step_70,hl16,hb1⟩:=bindS hb1
      refine q_loop (fun (s : Int × Int) a w=>∃ step_60,∃ v_61,s = (step_60,v_61)∧Fr a 149 [(0,s1.v),(1,(iV p_from)),(2,(iV p_to)),(3,(iV p_limit)),(9,(iV sent_4)),(10,s6.v),(16,(iV step_60)),(17,(iV v_61))]∧St X w0 w m [q3,q57]) (fun (step_70 : Int) e a w=>e = .exit 8∧Fr a 149 [(0,s1.v),(1,(iV p_from)),(2,(iV p_to)),(3,(iV p_limit)),(9,(iV sent_4)),(10,s6.v),(16,(iV step_70))]∧St X w0 w m [q3,q57]) hl16 ⟨_,_,rfl,hF.sub ⟨rfl,rfl,rfl,rfl,rfl,rfl,rfl,rfl,trivial⟩,hS⟩ ?_ ?_
      ·clear hF hS
       rintro s a w st ⟨step_60,v_61,rfl,hF,hS⟩ hb16
       unfold impl_push_l5 at hb16
       refine q_seq (q_sr (q_m hF rfl fun a hF=>q_m hF rfl fun a hF=>q_y (v:=(.bool (v_61 != p_from))) hF hS (ex_ibin rfl rfl rfl) fun a hF=>q_end (n_sq ?_)))
       rcases bcase (v_61 != p_from) with hc17 | hc17
       ·have hb16:=cond_f hc17 hb16
        refine q_cond_f hF rfl hc17 (q_exit (x_sq ?_))
        obtain rfl:=someI hb16
        exact ⟨nofun,.inl ⟨rfl,hF.sub ⟨rfl,rfl,rfl,rfl,rfl,rfl,rfl,trivial⟩,hS⟩⟩
       ·have hb16:=cond_t hc17 hb16
        refine q_cond_t hF rfl hc17 (q_skipc (n_sq (q_seq (q_block (q_region (q_m hF rfl fun a hF=>q_m hF rfl fun a hF=>q_m hF rfl fun a hF=>q_m hF rfl fun a hF=>?_))))))
        obtain ⟨e_62,he_62,hb16⟩:=bindS hb16
        obtain ⟨vs63,at63,d63⟩:=h57.at he_62 1 rfl
        obtain rfl : vs63 = [(iV e_62)]:=d63
        refine q_y (v:=(elP s6 (v_61.toNat * 1))) hF hS (ex_indexAddr U28 sz3 rfl rfl (h57.idx he_62)) fun a hF=>q_y (v:=(iV e_62)) hF hS (ex_loadE1 0 U3 rfl rfl (at63.at 1 rfl) rfl rfl) fun a hF=>?_
        obtain ⟨e_64,he_64,hb16⟩:=bindS hb16
        obtain ⟨s65,hV65⟩:=h3.view he_64
        refine q_y (v:=(elP s1 (e_62.toNat * 1))) hF hS (ex_indexAddr U23 sz28 rfl rfl (h3.idx he_64)) fun a hF=>q_y (v:=s65.v) hF hS (ex_loadE1 0 U28 rfl rfl ((hV65.atH he_64).at 0 rfl) rfl rfl) fun a hF=>q_m hF rfl fun a hF=>?_
        obtain ⟨e_66,he_66,hb16⟩:=bindS hb16
        obtain ⟨vs67,at67,d67⟩:=hV65.at he_64 he_66 1 rfl
        obtain rfl : vs67 = [(iV e_66)]:=d67
        refine q_y (v:=(elP s65 (v_61.toNat * 1))) hF hS (ex_indexAddr U28 sz3 rfl rfl (hV65.idx he_64 he_66)) fun a hF=>q_y (v:=(iV e_66)) hF hS (ex_loadE1 0 U3 rfl rfl (at67.at 0 rfl) rfl rfl) fun a hF=>q_y (v:=(iV (min step_60 e_66))) hF hS (ex_min rfl rfl) fun a hF=>q_s hF rfl fun a hF=>q_end (n_ib (n_sq (q_region (q_m hF rfl fun a hF=>q_m hF rfl fun a hF=>?_))))
        obtain ⟨e_68,he_68,hb16⟩:=bindS hb16
        obtain ⟨vs69,at69,d69⟩:=h57.at he_68 1 rfl
        obtain rfl : vs69 = [(iV e_68)]:=d69
        refine q_y (v:=(elP s6 (v_61.toNat * 1))) hF hS (ex_indexAddr U28 sz3 rfl rfl (h57.idx he_68)) fun a hF=>q_y (v:=(iV e_68)) hF hS (ex_loadE1 0 U3 rfl rfl (at69.at 1 rfl) rfl rfl) fun a hF=>q_s hF rfl fun a hF=>q_end ?_
        obtain rfl:=someI hb16
        exact ⟨rfl,_,_,rfl,hF.sub ⟨rfl,rfl,rfl,rfl,rfl,rfl,rfl,rfl,trivial⟩,hS⟩
      ·rintro e a w ⟨rfl,hF,hS⟩
       refine x_ib (n_sq ?_)
       refine q_seq (q_sr (q_m hF rfl fun a hF=>q_s hF rfl fun a hF=>q_end (n_sq (q_block ?_))))
       obtain ⟨r_94,hl18,hb1⟩:=bindS hb1
       refine q_loop (fun (s : (List (List Int)) × Int) a w=>∃ (q72 : Piece),∃ r_71,∃ v_73,s = (r_71,v_73)∧Fr a 149 [(0,s1.v),(1,(iV p_from)),(2,(iV p_to)),(3,(iV p_limit)),(9,(iV sent_4)),(10,s6.v),(16,(iV step_70)),(18,(iV v_73))]∧St X w0 w m [q72,q57]∧OwnD m 28 3 q72 s1 r_71) (fun (r_94 : (List (List Int))) e a w=>∃ (q95 : Piece),e = .exit 10∧Fr a 149 [(0,s1.v),(1,(iV p_from)),(2,(iV p_to)),(3,(iV p_limit)),(9,(iV sent_4)),(16,(iV step_70))]∧St X w0 w m [q95]∧OwnD m 28 3 q95 s1 r_94) hl18 ⟨q3,_,_,rfl,hF.sub ⟨rfl,rfl,rfl,rfl,rfl,rfl,rfl,rfl,trivial⟩,hS,h3⟩ ?_ ?_
       ·clear hF hS
        rintro s a w st ⟨q72,r_71,v_73,rfl,hF,hS,h72⟩ hb18
        unfold impl_push_l6 at hb18
        refine q_seq (q_sr (q_m hF rfl fun a hF=>q_m hF rfl fun a hF=>q_y (v:=(.bool (v_73 != p_from))) hF hS (ex_ibin rfl rfl rfl) fun a hF=>q_end (n_sq ?_)))
        rcases bcase (v_73 != p_from) with hc19 | hc19
        ·have hb18:=cond_f hc19 hb18
         refine q_cond_f hF rfl hc19 (q_exit (x_sq ?_))
         obtain rfl:=someI hb18
         exact ⟨nofun,.inl ⟨q72,rfl,hF.sub ⟨rfl,rfl,rfl,rfl,rfl,rfl,trivial⟩,hS.mask [true,false],h72⟩⟩
        ·have hb18:=cond_t hc19 hb18
         refine q_cond_t hF rfl hc19 (q_skipc (n_sq (q_seq (q_block (q_sr (q_m hF rfl fun a hF=>q_m hF rfl fun a hF=>q_m hF rfl fun a hF=>?_))))))
         obtain ⟨e_74,he_74,hb18⟩:=bindS hb18
         obtain ⟨vs75,at75,d75⟩:=h57.at he_74 1 rfl
         obtain rfl : vs75 = [(iV e_74)]:=d75
         refine q_y (v:=(elP s6 (v_73.toNat * 1))) hF hS (ex_indexAddr U28 sz3 rfl rfl (h57.idx he_74)) fun a hF=>q_y (v:=(iV e_74)) hF hS (ex_loadE1 0 U3 rfl rfl (at75.at 1 rfl) rfl rfl) fun a hF=>?_
         obtain ⟨e_76,he_76,hb18⟩:=bindS hb18
         obtain ⟨s77,hV77⟩:=h72.view he_76
         refine q_y (v:=(elP s1 (e_74.toNat * 1))) hF hS (ex_indexAddr U23 sz28 rfl rfl (h72.idx he_76)) fun a hF=>q_y (v:=s77.v) hF hS (ex_loadE1 0 U28 rfl rfl ((hV77.atH he_76).at 0 rfl) rfl rfl) fun a hF=>q_m hF rfl fun a hF=>?_
         obtain ⟨e_78,he_78,hb18⟩:=bindS hb18
         obtain ⟨vs79,at79,d79⟩:=hV77.at he_76 he_78 1 rfl
         obtain rfl : vs79 = [(iV e_78)]:=d79
         refine q_y (v:=(elP s77 (v_73.toNat * 1))) hF hS (ex_indexAddr U28 sz3 rfl rfl (hV77.idx he_76 he_78)) fun a hF=>q_y (v:=(iV e_78)) hF hS (ex_loadE1 0 U3 rfl rfl (at79.at 0 rfl) rfl rfl) fun a hF=>q_m hF rfl fun a hF=>q_y (v:=(iV (w64 (e_78 - step_70)))) hF hS (ex_ibin rfl rfl rfl) fun a hF=>?_
         obtain ⟨e_80,he_80,hb18⟩:=bindS hb18
         obtain ⟨vs81,at81,d81⟩:=hV77.at he_76 he_80 1 rfl
         obtain rfl : vs81 = [(iV e_80)]:=d81
         refine q_y (v:=(elP s77 (v_73.toNat * 1))) hF hS (ex_indexAddr U28 sz3 rfl rfl (hV77.idx he_76 he_80)) fun a hF=>q_do rfl fun _ hK=>wp_storeV (e':=(w64 (e_78 - step_70))) (us:=[(iV (w64 (e_78 - step_70)))]) (vs:=[(iV e_80)]) 0 hF hS hV77 he_76 sz3 rfl rfl rfl rfl rfl rfl rfl he_80 at81 rfl rfl rfl fun w q82 hS h82=>hK _ _ (q_end (n_sq (e_region ⟨[13],[],m⟩ mixed fun w' hw'=>?_)))
         have hS:=hS.below hw'
         refine e_P (v:=s1.v) 0 hF rfl (ex_move rfl) fun a hF=>e_P (v:=(iV v_73)) 1 hF rfl (ex_move rfl) fun a hF=>?_
         obtain ⟨e_83,he_83,hb18⟩:=bindS hb18
         obtain ⟨s84,hV84⟩:=h82.own.view he_83
         refine e_P (v:=(elP s1 (v_73.toNat * 1))) 2 hF rfl (ex_indexAddr U23 sz28 rfl rfl (h82.own.idx he_83)) fun a hF=>e_X (v:=s84.v) 3 hF hS rfl (ex_loadE1 0 U28 rfl rfl ((hV84.atH he_83).at 0 rfl) rfl rfl) fun a hF=>e_P (v:=s6.v) 4 hF rfl (ex_move rfl) fun a hF=>e_P (v:=(iV v_73)) 5 hF rfl (ex_move rfl) fun a hF=>?_
         obtain ⟨e_85,he_85,hb18⟩:=bindS hb18
         obtain ⟨vs86,at86,d86⟩:=h57.at he_85 1 rfl
         obtain rfl : vs86 = [(iV e_85)]:=d86
         refine e_P (v:=(elP s6 (v_73.toNat * 1))) 6 hF rfl (ex_indexAddr U28 sz3 rfl rfl (h57.idx he_85)) fun a hF=>e_X (v:=(iV e_85)) 7 hF hS rfl (ex_loadE1 0 U3 rfl rfl (at86.at 1 rfl) rfl rfl) fun a hF=>?_
         obtain ⟨e_87,he_87,hb18⟩:=bindS hb18
         obtain ⟨vs88,at88,d88⟩:=hV84.at he_83 he_87 1 rfl
         obtain rfl : vs88 = [(iV e_87)]:=d88
         refine e_P (v:=(elP s84 (e_85.toNat * 1))) 8 hF rfl (ex_indexAddr U28 sz3 rfl rfl (hV84.idx he_83 he_87)) fun a hF=>e_X (v:=(iV e_87)) 9 hF hS rfl (ex_loadE1 0 U3 rfl rfl (at88.at 0 rfl) rfl rfl) fun a hF=>e_P (v:=(iV step_70)) 10 hF rfl (ex_move rfl) fun a hF=>e_P (v:=(iV (w64 (e_87 + step_70)))) 11 hF rfl (ex_ibin rfl rfl rfl) fun a hF=>?_
         obtain ⟨e_89,he_89,hb18⟩:=bindS hb18
         obtain ⟨vs90,at90,d90⟩:=hV84.at he_83 he_89 1 rfl
         obtain rfl : vs90 = [(iV e_89)]:=d90
         refine e_P (v:=(elP s84 (e_85.toNat * 1))) 12 hF rfl (ex_indexAddr U28 sz3 rfl rfl (hV84.idx he_83 he_89)) fun a hF=>e_one 13 (by kernel_rfl) (e_opl rfl rfl rfl fun _ hK=>wp_storeV (e':=(w64 (e_87 + step_70))) (us:=[(iV (w64 (e_87 + step_70)))]) (vs:=[(iV e_89)]) 0 hF hS hV84 he_83 sz3 rfl rfl rfl rfl rfl rfl rfl he_89 at90 rfl rfl rfl fun w q91 hS h91=>hK _ _ (⟨⟨kpN,fun _=>hS.vis.of_le (Mem.le.refl _)⟩,?_⟩))
         refine e_end (by kernel_rfl) (n_ib (n_sq ?_)) _
         refine q_region (q_m hF rfl fun a hF=>q_m hF rfl fun a hF=>?_)
         obtain ⟨e_92,he_92,hb18⟩:=bindS hb18
         obtain ⟨vs93,at93,d93⟩:=h57.at he_92 1 rfl
         obtain rfl : vs93 = [(iV e_92)]:=d93
         refine q_y (v:=(elP s6 (v_73.toNat * 1))) hF hS (ex_indexAddr U28 sz3 rfl rfl (h57.idx he_92)) fun a hF=>q_y (v:=(iV e_92)) hF hS (ex_loadE1 0 U3 rfl rfl (at93.at 1 rfl) rfl rfl) fun a hF=>q_s hF rfl fun a hF=>q_end ?_
         obtain rfl:=someI hb18
         exact ⟨rfl,q91,_,_,rfl,hF.sub ⟨rfl,rfl,rfl,rfl,rfl,rfl,rfl,rfl,trivial⟩,hS,h91.own⟩
       ·rintro e a w ⟨q95,rfl,hF,hS,h95⟩
        refine x_ib (n_sq ?_)
        refine q_region (q_m hF rfl fun a hF=>q_m hF rfl fun a hF=>q_y (v:=(iV (w64 (sent_4 + step_70)))) hF hS (ex_ibin rfl rfl rfl) fun a hF=>q_s hF rfl fun a hF=>q_end (n_ib ?_))
        obtain rfl:=someI hb1
        exact ⟨rfl,q95,_,_,rfl,hF.sub ⟨rfl,rfl,rfl,rfl,rfl,trivial⟩,hS,h95⟩
     ·have hb1:=cond_t hc15 hb1
      refine q_cond_t hF rfl hc15 (q_exit (x_sq (x_ibn rfl ?_)))
      obtain rfl:=someI hb1
      exact ⟨nofun,.inl ⟨q3,_,_,rfl,rfl,hF.sub ⟨rfl,trivial⟩,hS.mask [true,false],h3⟩⟩
 ·rintro e a w ⟨q97,r_96,sent_98,rfl,rfl,hF,hS,h97⟩
  refine x_ib (n_sq ?_)
  refine q_sr (q_m hF rfl fun a hF=>q_s hF rfl fun a hF=>q_end (n_sq (q_ret ?_)))
  obtain rfl:=someI hr
  exact ret_ofX hF hS rfl (.tmp rfl .nil) ⟨q97,rfl,hS.sel [0] (by decide),h97⟩

theorem c_slices_Clone_int_int (p_s : List Int) (r : (List Int)) (hr : slices_Clone_int_int p_s = some r) (w0 : World) (m : Mem) (hv : Vis m w0) (s1 : Sl) (h1 : Rd m s1 p_s) :
  Ret Try.prog 149 [s1.v] w0 (fun v w=>∃ (q0' : Piece) (s0' : Sl),v = s0'.v∧St [] w0 w m [q0']∧OwnL m 3 q0' s0' r):=by
 unfold slices_Clone_int_int at hr
 refine ret_start Try.func149 rfl 8 rfl rfl m hv fun a hF hS=>q_sr (q_s hF rfl fun a hF=>q_end (n_sq (q_seq (q_sr (q_m hF rfl fun a hF=>q_y (v:=(.bool s1.p.isNone)) hF hS (ex_eqNil U28 rfl rfl) fun a hF=>q_end (n_sq ?_))))))
 rcases bcase (s1.p.isNone) with hc1 | hc1
 ·refine q_cond_f hF rfl hc1 (q_skipc (n_sq (q_sr (q_do rfl fun _ hK=>wp_build0 (α:=Int) hF hS U28 inf3 rfl fun a w q2 s2 hF hS h2 _=>hK _ _ (q_m hF rfl fun a hF=>?_)))))
  obtain ⟨l_3,hl_3,hr⟩:=bindS hr
  refine q_do rfl fun _ hK=>wp_append hF hS h2 U28 inf3 rfl rfl rfl rfl (h1.vw hS.vis) rfl (by decide) hl_3 rfl fun a w q4 s4 hF hS h4=>hK _ _ (q_s hF rfl fun a hF=>q_end (n_sq (q_ret ?_)))
  obtain rfl:=someI hr
  exact ret_of hF hS rfl (.tmp rfl .nil) ⟨q4,s4,rfl,hS.sel [0] (by decide),h4⟩
 ·have hnhc1:=h1.nilE hc1
  have hr : (some ([] : List Int)) = some r:=by rw [hnhc1] at hr; exact hr
  refine q_cond_t hF rfl hc1 (q_sr (q_s hF rfl fun a hF=>q_end (n_sq (q_ret (r_sq ?_)))))
  obtain rfl:=someI hr
  exact ret_of hF hS rfl (.tmp rfl .nil) ⟨[],nilS,rfl,hS.sel [0] (by decide),(OwnL.nil (α:=Int) m 3)⟩

theorem c_impl_copyMatrix (p_x : List (List Int)) (r : (List (List Int))) (hr : impl_copyMatrix p_x = some r) (w0 : World) (m : Mem) (hv : Vis m w0) (s1 : Sl) (h1 : Rd m s1 p_x) :
  Ret Try.prog 75 [s1.v] w0 (fun v w=>∃ (q0' : Piece) (s0' : Sl),v = s0'.v∧St [] w0 w m [q0']∧OwnD m 28 3 q0' s0' r∧NF s0' r):=by
 unfold impl_copyMatrix at hr
 refine ret_start Try.func75 rfl 23 rfl rfl m hv fun a hF hS=>q_sr (q_s hF rfl fun a hF=>q_end (n_sq (q_sr (q_m hF rfl fun a hF=>q_y (v:=(iV (goLen p_x))) hF hS (ex_len U23 rfl h1.len) fun a hF=>?_))))
 obtain ⟨l_2,hl_2,hr⟩:=bindS hr
 obtain ⟨u_4,hu_4,hr⟩:=bindS hr
 refine q_do rfl fun _ hK=>wp_makeD (Ei:=3) hF hS U23 inf28 rfl rfl rfl (by decide) hl_2 rfl fun a w q3 s3 hF hS h3 _=>hK _ _ (q_s hF rfl fun a hF=>q_end (n_sq (q_seq (q_sr (q_m hF rfl fun a hF=>q_y (v:=(iV (goLen p_x))) hF hS (ex_len U23 rfl h1.len) fun a hF=>q_m hF rfl fun a hF=>q_end (n_sq (q_block ?_)))))))
 obtain ⟨out_17,hl1,hr⟩:=bindS hr
 refine q_loop (fun (s : (List (List Int)) × Int) a w=>∃ (q6 : Piece),∃ out_5,∃ t_7,s = (out_5,t_7)∧Fr a 23 [(3,s3.v),(9,s1.v),(10,(iV (goLen p_x))),(11,(iV t_7))]∧St [] w0 w m [q6]∧OwnD m 28 3 q6 s3 out_5∧NF s3 out_5) (fun (out_17 : (List (List Int))) e a w=>∃ (q18 : Piece),e = .exit 0∧Fr a 23 [(3,s3.v)]∧St [] w0 w m [q18]∧OwnD m 28 3 q18 s3 out_17∧NF s3 out_17) hl1 ⟨q3,_,_,rfl,hF.sub ⟨rfl,rfl,rfl,rfl,trivial⟩,hS,h3,(NF.goNE hu_4)⟩ ?_ ?_
 ·clear hF hS
  rintro s a w st ⟨q6,out_5,t_7,rfl,hF,hS,h6,h6n⟩ hb1
  unfold impl_copyMatrix_l1 at hb1
  refine q_sr (q_y (v:=(.bool (decide (t_7 < (goLen p_x))))) hF hS (ex_ibin rfl rfl rfl) fun a hF=>q_end (n_sq (q_seq ?_)))
  rcases bcase (decide (t_7 < (goLen p_x))) with hc2 | hc2
  ·have hb1:=cond_f hc2 hb1
   refine q_cond_f hF rfl hc2 (q_exit (x_sq ?_))
   obtain rfl:=someI hb1
   exact ⟨nofun,.inl ⟨q6,rfl,hF.sub ⟨rfl,trivial⟩,hS,h6,h6n⟩⟩
  ·have hb1:=cond_t hc2 hb1
   refine q_cond_t hF rfl hc2 (q_skipc (n_sq (q_seq (q_block (q_sr (q_m hF rfl fun a hF=>?_))))))
   obtain ⟨e_8,he_8,hb1⟩:=bindS hb1
   obtain ⟨vs9,at9,d9⟩:=h1.at he_8 1 rfl
   obtain ⟨s10,rfl,h10⟩ : ∃ s10 : Sl,vs9 = [s10.v]∧Rd m s10 e_8:=d9
   refine q_y (v:=(elP s1 (t_7.toNat * 1))) hF hS (ex_indexAddr U23 sz28 rfl rfl (h1.idx he_8)) fun a hF=>q_y (v:=s10.v) hF hS (ex_loadE1 0 U28 rfl rfl ((at9).at) rfl rfl) fun a hF=>q_s hF rfl fun a hF=>q_s hF rfl fun a hF=>q_end (n_sq (q_region (q_m hF rfl fun a hF=>q_m hF rfl fun a hF=>q_m hF rfl fun a hF=>?_)))
   obtain ⟨t_11,ht_11,hb1⟩:=bindS hb1
   refine q_call (vs:=[s10.v]) hF hS Try.func149 (by kernel_rfl) rfl rfl rfl (c_slices_Clone_int_int e_8 t_11 ht_11 _ m hS.vis s10 h10) ?_
   rintro a w _ ⟨q13,s13,rfl,hR12,h13⟩ hF hS2
   have hS : St _ _ _ _ [q13,q6]:=hS.joinF hR12
   obtain ⟨e_14,he_14,hb1⟩:=bindS hb1
   obtain ⟨s15,hV15⟩:=h6.view he_14
   refine q_y (v:=(elP s3 (t_7.toNat * 1))) hF hS (ex_indexAddr U23 sz28 rfl rfl (h6.idx he_14)) fun a hF=>?_
   have hS : St _ _ _ _ [q6,q13]:=hS.sel [1,0] (by decide)
   refine q_do rfl fun _ hK=>wp_storeD hF hS h6 h13 sz28 rfl rfl he_14 rfl fun w q16 hS h16=>hK _ _ (q_end (n_ib (n_sq (q_region (q_y (v:=(iV (w64 (t_7 + 1)))) hF hS (ex_ibin rfl rfl rfl) fun a hF=>q_m hF rfl fun a hF=>q_end ?_)))))
   obtain rfl:=someI hb1
   exact ⟨rfl,q16,_,_,rfl,hF.sub ⟨rfl,rfl,rfl,rfl,trivial⟩,hS,h16,(NF.set h6n)⟩
 ·rintro e a w ⟨q18,rfl,hF,hS,h18,h18n⟩
  refine x_ib (n_sq ?_)
  refine q_sr (q_m hF rfl fun a hF=>q_s hF rfl fun a hF=>q_end (n_sq (q_ret ?_)))
  obtain rfl:=someI hr
  exact ret_of hF hS rfl (.tmp rfl .nil) ⟨q18,s3,rfl,hS.sel [0] (by decide),h18,h18n⟩

theorem c_impl_restore (p_t : impl_Transport) (p_x : List (List Int)) (p_r : List (List Int)) (p_fixed : Int) (r : (List (List Int))) (hr : impl_restore p_t p_x p_r p_fixed = some r) (w0 : World) (m : Mem) (hv : Vis m w0) (s1 : Sl) (h1 : Rd m s1 p_t.Rows) (s2 : Sl) (h2 : Rd m s2 p_t.Cols) (s3 : Sl) (h3 : Rd m s3 p_t.Lo) (s4 : Sl) (h4 : Rd m s4 p_t.Hi) (s5 : Sl) (h5 : Rd m s5 p_x) (s6 : Sl) (h6 : Rd m s6 p_r) :
  Ret Try.prog 169 [(.agg #[s1.v,s2.v,s3.v,s4.v]),s5.v,s6.v,(iV p_fixed)] w0 (fun v w=>∃ (q0' : Piece) (s0' : Sl),v = s0'.v∧St [] w0 w m [q0']∧OwnD m 28 3 q0' s0' r∧NF s0' r):=by
 unfold impl_restore at hr
 refine ret_start Try.func169 rfl 69 rfl rfl m hv fun a hF hS=>q_sr (q_box (cs:=[s1.v,s2.v,s3.v,s4.v]) hF hS rfl rfl rfl fun a w b7 hF hS=>q_s hF rfl fun a hF=>q_end (n_sq (q_seq (e_region ⟨[],[],m⟩ mixed fun w' hw'=>?_))))
 have hS:=hS.below hw'
 refine e_P (v:=(pP b7 0)) 0 hF rfl (ex_fieldAddr U50 rfl sz28 rfl rfl) fun a hF=>e_X (v:=s1.v) 1 hF hS rfl (ex_load1 0 0 U28 rfl rfl rfl rfl) fun a hF=>e_P (v:=(iV (goLen p_t.Rows))) 2 hF rfl (ex_len U28 rfl h1.len) fun a hF=>e_P (v:=(pP b7 1)) 3 hF rfl (ex_fieldAddr U50 rfl sz28 rfl rfl) fun a hF=>e_X (v:=s2.v) 4 hF hS rfl (ex_load1 0 0 U28 rfl rfl rfl rfl) fun a hF=>e_P (v:=(iV (goLen p_t.Cols))) 5 hF rfl (ex_len U28 rfl h2.len) fun a hF=>e_P (v:=(iV (goLen p_t.Rows))) 6 hF rfl (ex_assign rfl) fun a hF=>e_P (v:=(iV (goLen p_t.Cols))) 7 hF rfl (ex_assign rfl) fun a hF=>e_end (by kernel_rfl) (n_sq ?_) _
 refine q_sr (q_m hF rfl fun a hF=>?_)
 obtain ⟨t_8,ht_8,hr⟩:=bindS hr
 refine q_call (vs:=[s5.v]) hF hS Try.func75 (by kernel_rfl) rfl rfl rfl (c_impl_copyMatrix p_x t_8 ht_8 _ m hS.vis s5 h5) ?_
 rintro a w _ ⟨q10,s10,rfl,hR9,h10,h10n⟩ hF hS2
 have hS : St _ _ _ _ [q10,[⟨b7,[s1.v,s2.v,s3.v,s4.v],50⟩]]:=hS.joinF hR9
 refine q_s hF rfl fun a hF=>q_end (n_sq (q_seq (q_sr (q_m hF rfl fun a hF=>q_y (v:=(iV (goLen t_8))) hF hS (ex_len U23 rfl h10.len) fun a hF=>q_m hF rfl fun a hF=>q_end (n_sq (q_block ?_))))))
 obtain ⟨out_38,hl1,hr⟩:=bindS hr
 refine q_loop (fun (s : (List (List Int)) × Int) a w=>∃ (q12 : Piece),∃ out_11,∃ t_13,s = (out_11,t_13)∧Fr a 69 [(2,s6.v),(3,(iV p_fixed)),(4,(pP b7 0)),(9,(iV (goLen p_t.Rows))),(10,(iV (goLen p_t.Cols))),(11,s10.v),(23,(iV (goLen t_8))),(24,(iV t_13))]∧St [] w0 w m [q12,[⟨b7,[s1.v,s2.v,s3.v,s4.v],50⟩]]∧OwnD m 28 3 q12 s10 out_11∧NF s10 out_11) (fun (out_38 : (List (List Int))) e a w=>∃ (q39 : Piece),e = .exit 0∧Fr a 69 [(11,s10.v)]∧St [] w0 w m [q39]∧OwnD m 28 3 q39 s10 out_38∧NF s10 out_38) hl1 ⟨q10,_,_,rfl,hF.sub ⟨rfl,rfl,rfl,rfl,rfl,rfl,rfl,rfl,trivial⟩,hS,h10,h10n⟩ ?_ ?_
 ·clear hF hS
  rintro s a w st ⟨q12,out_11,t_13,rfl,hF,hS,h12,h12n⟩ hb1
  unfold impl_restore_l1 at hb1
  refine q_sr (q_y (v:=(.bool (decide (t_13 < (goLen t_8))))) hF hS (ex_ibin rfl rfl rfl) fun a hF=>q_end (n_sq (q_seq ?_)))
  rcases bcase (decide (t_13 < (goLen t_8))) with hc2 | hc2
  ·have hb1:=cond_f hc2 hb1
   refine q_cond_f hF rfl hc2 (q_exit (x_sq ?_))
   obtain rfl:=someI hb1
   exact ⟨nofun,.inl ⟨q12,rfl,hF.sub ⟨rfl,trivial⟩,hS.mask [true,false],h12,h12n⟩⟩
  ·have hb1:=cond_t hc2 hb1
   refine q_cond_t hF rfl hc2 (q_skipc (n_sq (q_seq (q_block (q_sr (q_m hF rfl fun a hF=>q_s hF rfl fun a hF=>q_end (n_sq (q_sr (q_m hF rfl fun a hF=>q_m hF rfl fun a hF=>?_)))))))))
   obtain ⟨e_14,he_14,hb1⟩:=bindS hb1
   obtain ⟨s15,hV15⟩:=h12.view he_14
   refine q_y (v:=(elP s10 (t_13.toNat * 1))) hF hS (ex_indexAddr U23 sz28 rfl rfl (h12.idx he_14)) fun a hF=>q_y (v:=s15.v) hF hS (ex_loadE1 0 U28 rfl rfl ((hV15.atH he_14).at 0 rfl) rfl rfl) fun a hF=>q_y (v:=(iV (goLen e_14))) hF hS (ex_len U28 rfl (hV15.len he_14)) fun a hF=>q_m hF rfl fun a hF=>q_end (n_sq (q_block ?_))
   obtain ⟨out_36,hl3,hb1⟩:=bindS hb1
   refine q_loop (fun (s : (List (List Int)) × Int) a w=>∃ (q17 : Piece),∃ out_16,∃ t_18,s = (out_16,t_18)∧Fr a 69 [(2,s6.v),(3,(iV p_fixed)),(4,(pP b7 0)),(9,(iV (goLen p_t.Rows))),(10,(iV (goLen p_t.Cols))),(11,s10.v),(12,(iV t_13)),(23,(iV (goLen t_8))),(24,(iV t_13)),(31,(iV (goLen e_14))),(32,(iV t_18))]∧St [] w0 w m [q17,[⟨b7,[s1.v,s2.v,s3.v,s4.v],50⟩]]∧OwnD m 28 3 q17 s10 out_16∧NF s10 out_16) (fun (out_36 : (List (List Int))) e a w=>∃ (q37 : Piece),e = .exit 2∧Fr a 69 [(2,s6.v),(3,(iV p_fixed)),(4,(pP b7 0)),(9,(iV (goLen p_t.Rows))),(10,(iV (goLen p_t.Cols))),(11,s10.v),(23,(iV (goLen t_8))),(24,(iV t_13))]∧St [] w0 w m [q37,[⟨b7,[s1.v,s2.v,s3.v,s4.v],50⟩]]∧OwnD m 28 3 q37 s10 out_36∧NF s10 out_36) hl3 ⟨q12,_,_,rfl,hF.sub ⟨rfl,rfl,rfl,rfl,rfl,rfl,rfl,rfl,rfl,rfl,rfl,trivial⟩,hS,h12,h12n⟩ ?_ ?_
   ·clear hF hS
    rintro s a w st ⟨q17,out_16,t_18,rfl,hF,hS,h17,h17n⟩ hb3
    unfold impl_restore_l2 at hb3
    refine q_sr (q_y (v:=(.bool (decide (t_18 < (goLen e_14))))) hF hS (ex_ibin rfl rfl rfl) fun a hF=>q_end (n_sq (q_seq ?_)))
    rcases bcase (decide (t_18 < (goLen e_14))) with hc4 | hc4
    ·have hb3:=cond_f hc4 hb3
     refine q_cond_f hF rfl hc4 (q_exit (x_sq ?_))
     obtain rfl:=someI hb3
     exact ⟨nofun,.inl ⟨q17,rfl,hF.sub ⟨rfl,rfl,rfl,rfl,rfl,rfl,rfl,rfl,trivial⟩,hS,h17,h17n⟩⟩
    ·have hb3:=cond_t hc4 hb3
     refine q_cond_t hF rfl hc4 (q_skipc (n_sq (q_seq (q_block (q_sr (q_m hF rfl fun a hF=>q_s hF rfl fun a hF=>q_end (n_sq (q_sr (q_m hF rfl fun a hF=>q_m hF rfl fun a hF=>q_y (v:=(iV (w64 (t_13 * (goLen p_t.Cols))))) hF hS (ex_ibin rfl rfl rfl) fun a hF=>q_m hF rfl fun a hF=>q_y (v:=(iV (w64 ((w64 (t_13 * (goLen p_t.Cols))) + t_18)))) hF hS (ex_ibin rfl rfl rfl) fun a hF=>q_m hF rfl fun a hF=>q_y (v:=(.bool (decide (p_fixed < (w64 ((w64 (t_13 * (goLen p_t.Cols))) + t_18)))))) hF hS (ex_ibin rfl rfl rfl) fun a hF=>q_end (n_sq ?_))))))))))
     obtain ⟨out_34,hj5,hb3⟩:=bindS hb3
     refine q_join (fun a w=>∃ (q35 : Piece),Fr a 69 [(2,s6.v),(3,(iV p_fixed)),(4,(pP b7 0)),(9,(iV (goLen p_t.Rows))),(10,(iV (goLen p_t.Cols))),(11,s10.v),(12,(iV t_13)),(23,(iV (goLen t_8))),(24,(iV t_13)),(31,(iV (goLen e_14))),(32,(iV t_18))]∧St [] w0 w m [q35,[⟨b7,[s1.v,s2.v,s3.v,s4.v],50⟩]]∧OwnD m 28 3 q35 s10 out_34∧NF s10 out_34) ?_ ?_
     ·rcases bcase (decide (p_fixed < (w64 ((w64 (t_13 * (goLen p_t.Cols))) + t_18)))) with hc6 | hc6
      ·have hj5:=cond_f hc6 hj5
       refine q_cond_f hF rfl hc6 (q_skipc (n_jn ?_))
       obtain rfl:=someI hj5
       exact ⟨q17,hF.sub ⟨rfl,rfl,rfl,rfl,rfl,rfl,rfl,rfl,rfl,rfl,rfl,trivial⟩,hS,h17,h17n⟩
      ·have hj5:=cond_t hc6 hj5
       refine q_cond_t hF rfl hc6 (e_region ⟨[24],[b7],m⟩ mixed fun w' hw'=>?_)
       have hS:=hS.below hw'
       refine e_P (v:=s10.v) 0 hF rfl (ex_move rfl) fun a hF=>e_P (v:=(iV t_13)) 1 hF rfl (ex_move rfl) fun a hF=>?_
       obtain ⟨e_19,he_19,hj5⟩:=bindS hj5
       obtain ⟨s20,hV20⟩:=h17.view he_19
       refine e_P (v:=(elP s10 (t_13.toNat * 1))) 2 hF rfl (ex_indexAddr U23 sz28 rfl rfl (h17.idx he_19)) fun a hF=>e_X (v:=s20.v) 3 hF hS rfl (ex_loadE1 0 U28 rfl rfl ((hV20.atH he_19).at 0 rfl) rfl rfl) fun a hF=>e_P (v:=(iV t_18)) 4 hF rfl (ex_move rfl) fun a hF=>e_P (v:=(pP b7 3)) 5 hF rfl (ex_fieldAddr U50 rfl sz23 rfl rfl) fun a hF=>e_xb (v:=s4.v) 6 1 hF hS (.head _) rfl rfl (ex_load1 0 0 U23 rfl rfl rfl rfl) rfl rfl (by kernel_rfl) (by kernel_rfl) (by kernel_rfl) fun a hF=>e_P (v:=(iV t_13)) 7 hF rfl (ex_move rfl) fun a hF=>?_
       obtain ⟨e_21,he_21,hj5⟩:=bindS hj5
       obtain ⟨vs22,at22,d22⟩:=h4.at he_21 1 rfl
       obtain ⟨s23,rfl,h23⟩ : ∃ s23 : Sl,vs22 = [s23.v]∧Rd m s23 e_21:=d22
       refine e_P (v:=(elP s4 (t_13.toNat * 1))) 8 hF rfl (ex_indexAddr U23 sz28 rfl rfl (h4.idx he_21)) fun a hF=>e_xm (v:=s23.v) 9 hF hS (Mem.le.refl _) rfl (ex_loadE1 0 U28 rfl rfl ((at22).at) rfl rfl) rfl rfl (by kernel_rfl) (by kernel_rfl) (by kernel_rfl) fun a hF=>e_P (v:=(iV t_18)) 10 hF rfl (ex_move rfl) fun a hF=>?_
       obtain ⟨e_24,he_24,hj5⟩:=bindS hj5
       obtain ⟨vs25,at25,d25⟩:=h23.at he_24 1 rfl
       obtain rfl : vs25 = [(iV e_24)]:=d25
       refine e_P (v:=(elP s23 (t_18.toNat * 1))) 11 hF rfl (ex_indexAddr U28 sz3 rfl rfl (h23.idx he_24)) fun a hF=>e_xm (v:=(iV e_24)) 12 hF hS (Mem.le.refl _) rfl (ex_loadE1 0 U3 rfl rfl ((at25).at) rfl rfl) rfl rfl (by kernel_rfl) (by kernel_rfl) (by kernel_rfl) fun a hF=>e_P (v:=s6.v) 13 hF rfl (ex_move rfl) fun a hF=>e_P (v:=(iV t_13)) 14 hF rfl (ex_move rfl) fun a hF=>?_
       obtain ⟨e_26,he_26,hj5⟩:=bindS hj5
       obtain ⟨vs27,at27,d27⟩:=h6.at he_26 1 rfl
       obtain ⟨s28,rfl,h28⟩ : ∃ s28 : Sl,vs27 = [s28.v]∧Rd m s28 e_26:=d27
       refine e_P (v:=(elP s6 (t_13.toNat * 1))) 15 hF rfl (ex_indexAddr U23 sz28 rfl rfl (h6.idx he_26)) fun a hF=>e_xm (v:=s28.v) 16 hF hS (Mem.le.refl _) rfl (ex_loadE1 0 U28 rfl rfl ((at27).at) rfl rfl) rfl rfl (by kernel_rfl) (by kernel_rfl) (by kernel_rfl) fun a hF=>e_P (v:=(iV (goLen p_t.Rows))) 17 hF rfl (ex_move rfl) fun a hF=>e_P (v:=(iV t_18)) 18 hF rfl (ex_move rfl) fun a hF=>e_P (v:=(iV (w64 ((goLen p_t.Rows) + t_18)))) 19 hF rfl (ex_ibin rfl rfl rfl) fun a hF=>?_
       obtain ⟨e_29,he_29,hj5⟩:=bindS hj5
       obtain ⟨vs30,at30,d30⟩:=h28.at he_29 1 rfl
       obtain rfl : vs30 = [(iV e_29)]:=d30
       refine e_P (v:=(elP s28 ((w64 ((goLen p_t.Rows) + t_18)).toNat * 1))) 20 hF rfl (ex_indexAddr U28 sz3 rfl rfl (h28.idx he_29)) fun a hF=>e_xm (v:=(iV e_29)) 21 hF hS (Mem.le.refl _) rfl (ex_loadE1 0 U3 rfl rfl ((at30).at) rfl rfl) rfl rfl (by kernel_rfl) (by kernel_rfl) (by kernel_rfl) fun a hF=>e_P (v:=(iV (w64 (e_24 - e_29)))) 22 hF rfl (ex_ibin rfl rfl rfl) fun a hF=>?_
       obtain ⟨e_31,he_31,hj5⟩:=bindS hj5
       obtain ⟨vs32,at32,d32⟩:=hV20.at he_19 he_31 1 rfl
       obtain rfl : vs32 = [(iV e_31)]:=d32
       refine e_P (v:=(elP s20 (t_18.toNat * 1))) 23 hF rfl (ex_indexAddr U28 sz3 rfl rfl (hV20.idx he_19 he_31)) fun a hF=>e_one 24 (by kernel_rfl) ?_
       have hSo:=hS
       refine e_opl rfl rfl rfl fun _ hK=>wp_storeV (e':=(w64 (e_24 - e_29))) (us:=[(iV (w64 (e_24 - e_29)))]) (vs:=[(iV e_31)]) 0 hF hS hV20 he_19 sz3 rfl rfl rfl rfl rfl rfl rfl he_31 at32 rfl rfl rfl fun w q33 hS h33=>hK _ _ (⟨⟨kpC hSo hS 1 1 rfl rfl kpN,fun _=>hS.vis.of_le (Mem.le.refl _)⟩,?_⟩)
       refine e_end (by kernel_rfl) (n_jn ?_) _
       obtain rfl:=someI hj5
       exact ⟨q33,hF.sub ⟨rfl,rfl,rfl,rfl,rfl,rfl,rfl,rfl,rfl,rfl,rfl,trivial⟩,hS,h33.own,(NF.set h17n)⟩
     ·rintro a w ⟨q35,hF,hS,h35,h35n⟩
      refine n_ib (n_sq ?_)
      refine q_region (q_y (v:=(iV (w64 (t_18 + 1)))) hF hS (ex_ibin rfl rfl rfl) fun a hF=>q_m hF rfl fun a hF=>q_end ?_)
      obtain rfl:=someI hb3
      exact ⟨rfl,q35,_,_,rfl,hF.sub ⟨rfl,rfl,rfl,rfl,rfl,rfl,rfl,rfl,rfl,rfl,rfl,trivial⟩,hS,h35,h35n⟩
   ·rintro e a w ⟨q37,rfl,hF,hS,h37,h37n⟩
    refine x_ib (n_ib (n_sq ?_))
    refine q_region (q_y (v:=(iV (w64 (t_13 + 1)))) hF hS (ex_ibin rfl rfl rfl) fun a hF=>q_m hF rfl fun a hF=>q_end ?_)
    obtain rfl:=someI hb1
    exact ⟨rfl,q37,_,_,rfl,hF.sub ⟨rfl,rfl,rfl,rfl,rfl,rfl,rfl,rfl,trivial⟩,hS,h37,h37n⟩
 ·rintro e a w ⟨q39,rfl,hF,hS,h39,h39n⟩
  refine x_ib (n_sq ?_)
  refine q_sr (q_m hF rfl fun a hF=>q_s hF rfl fun a hF=>q_end (n_sq (q_ret ?_)))
  obtain rfl:=someI hr
  exact ret_of hF hS rfl (.tmp rfl .nil) ⟨q39,s10,rfl,hS.sel [0] (by decide),h39,h39n⟩

end Go.Proofs.Ytpjcfmpfiadkgaa
