/- The walks of the functions: each returns what its plain function says. -/
import Derived.Test.YtpjcfmpfiadkgaaGreatSWalks1
namespace Go.Proofs.YtpjcfmpfiadkgaaGreat
open Go.Gx Go.Gx.F Go.RowKit
set_option linter.all false
set_option maxRecDepth 10000

theorem c_impl_rangeOf (p_t : impl_Transport) (p_x : List (List Int)) (p_i : Int) (p_j : Int) (r : Int × Int) (hr : impl_rangeOf p_t p_x p_i p_j = some r) (w0 : World) (m : Mem) (hv : Vis m w0) (s1 : Sl) (h1 : Rd m s1 p_t.Rows) (s2 : Sl) (h2 : Rd m s2 p_t.Cols) (s3 : Sl) (h3 : Rd m s3 p_t.Lo) (s4 : Sl) (h4 : Rd m s4 p_t.Hi) (s5 : Sl) (h5 : Rd m s5 p_x) :
  Ret Tryz.prog 76 [(.agg #[s1.v,s2.v,s3.v,s4.v]),s5.v,(iV p_i),(iV p_j)] w0 (fun v _=>v = (.tuple #[(iV r.1),(iV r.2)])):=by
 unfold impl_rangeOf at hr
 refine ret_start Tryz.func76 rfl 62 rfl rfl m hv fun a hF hS=>q_sr (q_box (cs:=[s1.v,s2.v,s3.v,s4.v]) hF hS rfl rfl rfl fun a w b6 hF hS=>q_box (cs:=[s5.v]) hF hS rfl rfl rfl fun a w b7 hF hS=>q_box (cs:=[(iV p_i)]) hF hS rfl rfl rfl fun a w b8 hF hS=>q_box (cs:=[(iV p_j)]) hF hS rfl rfl rfl fun a w b9 hF hS=>q_s hF rfl fun a hF=>q_s hF rfl fun a hF=>q_end (n_sq (q_sr (q_y (v:=(pP b6 0)) hF hS (ex_fieldAddr U76 rfl sz48 rfl rfl) fun a hF=>q_y (v:=s1.v) hF hS (ex_load1 3 0 U48 rfl rfl rfl rfl) fun a hF=>q_y (v:=(iV (goLen p_t.Rows))) hF hS (ex_len U48 rfl h1.len) fun a hF=>q_alloc (cs:=[(iV 0)]) hF hS rfl rfl rfl fun a w b10 hF hS=>q_store (vs:=[(iV (goLen p_t.Rows))]) (cs':=[(iV (goLen p_t.Rows))]) 0 0 hF hS sz3 rfl rfl rfl rfl rfl rfl rfl rfl fun a w hF hS=>q_end (n_sq (q_sr (q_y (v:=(.func (.func 94) #[] #[(pP b6 0),(pP b7 0),(pP b8 0),(pP b10 0),(pP b9 0)])) hF hS (ex_makeFunc rfl) fun a hF=>q_s hF rfl fun a hF=>q_end (n_sq (q_seq (e_region ⟨[],[],m⟩ mixed fun w' hw'=>?_))))))))))
 have hS:=hS.below hw'
 refine e_X (v:=s5.v) 0 hF hS rfl (ex_load1 3 0 U23 rfl rfl rfl rfl) fun a hF=>e_X (v:=(iV p_i)) 1 hF hS rfl (ex_load1 2 0 U3 rfl rfl rfl rfl) fun a hF=>?_
 obtain ⟨e_11,he_11,hr⟩:=bindS hr
 obtain ⟨vs12,at12,d12⟩:=h5.at he_11 1 rfl
 obtain ⟨s13,rfl,h13⟩ : ∃ s13 : Sl,vs12 = [s13.v]∧Rd m s13 e_11:=d12
 refine e_P (v:=(elP s5 (p_i.toNat * 1))) 2 hF rfl (ex_indexAddr U23 sz48 rfl rfl (h5.idx he_11)) fun a hF=>e_xm (v:=s13.v) 3 hF hS (Mem.le.refl _) rfl (ex_loadE1 0 U48 rfl rfl ((at12).at) rfl rfl) rfl rfl (by kernel_rfl) (by kernel_rfl) (by kernel_rfl) fun a hF=>e_X (v:=(iV p_j)) 4 hF hS rfl (ex_load1 1 0 U3 rfl rfl rfl rfl) fun a hF=>?_
 obtain ⟨e_14,he_14,hr⟩:=bindS hr
 obtain ⟨vs15,at15,d15⟩:=h13.at he_14 1 rfl
 obtain rfl : vs15 = [(iV e_14)]:=d15
 refine e_P (v:=(elP s13 (p_j.toNat * 1))) 5 hF rfl (ex_indexAddr U48 sz3 rfl rfl (h13.idx he_14)) fun a hF=>e_xm (v:=(iV e_14)) 6 hF hS (Mem.le.refl _) rfl (ex_loadE1 0 U3 rfl rfl ((at15).at) rfl rfl) rfl rfl (by kernel_rfl) (by kernel_rfl) (by kernel_rfl) fun a hF=>e_P (v:=(iV e_14)) 7 hF rfl (ex_assign rfl) fun a hF=>e_end (by kernel_rfl) (n_sq ?_) _
 refine q_seq (e_region ⟨[2,17,21,36],[b8,b10,b9,b6],m⟩ mixed fun w' hw'=>?_)
 have hS:=hS.below hw'
 refine e_P (v:=(iV e_14)) 0 hF rfl (ex_move rfl) fun a hF=>e_P (v:=(.func (.func 94) #[] #[(pP b6 0),(pP b7 0),(pP b8 0),(pP b10 0),(pP b9 0)])) 1 hF rfl (ex_move rfl) fun a hF=>e_xb (v:=(iV p_i)) 3 2 hF hS (.head _) rfl rfl (ex_load1 0 0 U3 rfl rfl rfl rfl) rfl rfl (by kernel_rfl) (by kernel_rfl) (by kernel_rfl) fun a hF=>e_xb (v:=(iV (goLen p_t.Rows))) 4 0 hF hS (.tail _ (.head _)) rfl rfl (ex_load1 0 0 U3 rfl rfl rfl rfl) rfl rfl (by kernel_rfl) (by kernel_rfl) (by kernel_rfl) fun a hF=>e_xb (v:=(iV p_j)) 5 1 hF hS (.tail _ (.tail _ (.head _))) rfl rfl (ex_load1 0 0 U3 rfl rfl rfl rfl) rfl rfl (by kernel_rfl) (by kernel_rfl) (by kernel_rfl) fun a hF=>e_P (v:=(iV (w64 ((goLen p_t.Rows) + p_j)))) 6 hF rfl (ex_ibin rfl rfl rfl) fun a hF=>e_P (v:=(iV e_14)) 7 hF rfl (ex_move rfl) fun a hF=>e_P (v:=(pP b6 2)) 8 hF rfl (ex_fieldAddr U76 rfl sz23 rfl rfl) fun a hF=>e_xb (v:=s3.v) 9 4 hF hS (.tail _ (.tail _ (.tail _ (.head _)))) rfl rfl (ex_load1 0 0 U23 rfl rfl rfl rfl) rfl rfl (by kernel_rfl) (by kernel_rfl) (by kernel_rfl) fun a hF=>e_xb (v:=(iV p_i)) 10 2 hF hS (.head _) rfl rfl (ex_load1 0 0 U3 rfl rfl rfl rfl) rfl rfl (by kernel_rfl) (by kernel_rfl) (by kernel_rfl) fun a hF=>?_
 obtain ⟨e_43,he_43,hr⟩:=bindS hr
 obtain ⟨vs44,at44,d44⟩:=h3.at he_43 1 rfl
 obtain ⟨s45,rfl,h45⟩ : ∃ s45 : Sl,vs44 = [s45.v]∧Rd m s45 e_43:=d44
 refine e_P (v:=(elP s3 (p_i.toNat * 1))) 11 hF rfl (ex_indexAddr U23 sz48 rfl rfl (h3.idx he_43)) fun a hF=>e_xm (v:=s45.v) 12 hF hS (Mem.le.refl _) rfl (ex_loadE1 0 U48 rfl rfl ((at44).at) rfl rfl) rfl rfl (by kernel_rfl) (by kernel_rfl) (by kernel_rfl) fun a hF=>e_xb (v:=(iV p_j)) 13 1 hF hS (.tail _ (.tail _ (.head _))) rfl rfl (ex_load1 0 0 U3 rfl rfl rfl rfl) rfl rfl (by kernel_rfl) (by kernel_rfl) (by kernel_rfl) fun a hF=>?_
 obtain ⟨e_55,he_55,hr⟩:=bindS hr
 obtain ⟨vs56,at56,d56⟩:=h45.at he_55 1 rfl
 obtain rfl : vs56 = [(iV e_55)]:=d56
 refine e_P (v:=(elP s45 (p_j.toNat * 1))) 14 hF rfl (ex_indexAddr U48 sz3 rfl rfl (h45.idx he_55)) fun a hF=>e_xm (v:=(iV e_55)) 15 hF hS (Mem.le.refl _) rfl (ex_loadE1 0 U3 rfl rfl ((at56).at) rfl rfl) rfl rfl (by kernel_rfl) (by kernel_rfl) (by kernel_rfl) fun a hF=>e_P (v:=(iV (w64 (e_14 - e_55)))) 16 hF rfl (ex_ibin rfl rfl rfl) fun a hF=>e_P (v:=(iV e_14)) 19 hF rfl (ex_move rfl) fun a hF=>e_P (v:=(.func (.func 94) #[] #[(pP b6 0),(pP b7 0),(pP b8 0),(pP b10 0),(pP b9 0)])) 20 hF rfl (ex_move rfl) fun a hF=>e_xb (v:=(iV (goLen p_t.Rows))) 22 0 hF hS (.tail _ (.head _)) rfl rfl (ex_load1 0 0 U3 rfl rfl rfl rfl) rfl rfl (by kernel_rfl) (by kernel_rfl) (by kernel_rfl) fun a hF=>e_xb (v:=(iV p_j)) 23 1 hF hS (.tail _ (.tail _ (.head _))) rfl rfl (ex_load1 0 0 U3 rfl rfl rfl rfl) rfl rfl (by kernel_rfl) (by kernel_rfl) (by kernel_rfl) fun a hF=>e_P (v:=(iV (w64 ((goLen p_t.Rows) + p_j)))) 24 hF rfl (ex_ibin rfl rfl rfl) fun a hF=>e_xb (v:=(iV p_i)) 25 2 hF hS (.head _) rfl rfl (ex_load1 0 0 U3 rfl rfl rfl rfl) rfl rfl (by kernel_rfl) (by kernel_rfl) (by kernel_rfl) fun a hF=>e_P (v:=(pP b6 3)) 26 hF rfl (ex_fieldAddr U76 rfl sz23 rfl rfl) fun a hF=>e_xb (v:=s4.v) 27 4 hF hS (.tail _ (.tail _ (.tail _ (.head _)))) rfl rfl (ex_load1 0 0 U23 rfl rfl rfl rfl) rfl rfl (by kernel_rfl) (by kernel_rfl) (by kernel_rfl) fun a hF=>e_xb (v:=(iV p_i)) 28 2 hF hS (.head _) rfl rfl (ex_load1 0 0 U3 rfl rfl rfl rfl) rfl rfl (by kernel_rfl) (by kernel_rfl) (by kernel_rfl) fun a hF=>?_
 obtain ⟨e_93,he_93,hr⟩:=bindS hr
 obtain ⟨vs94,at94,d94⟩:=h4.at he_93 1 rfl
 obtain ⟨s95,rfl,h95⟩ : ∃ s95 : Sl,vs94 = [s95.v]∧Rd m s95 e_93:=d94
 refine e_P (v:=(elP s4 (p_i.toNat * 1))) 29 hF rfl (ex_indexAddr U23 sz48 rfl rfl (h4.idx he_93)) fun a hF=>e_xm (v:=s95.v) 30 hF hS (Mem.le.refl _) rfl (ex_loadE1 0 U48 rfl rfl ((at94).at) rfl rfl) rfl rfl (by kernel_rfl) (by kernel_rfl) (by kernel_rfl) fun a hF=>e_xb (v:=(iV p_j)) 31 1 hF hS (.tail _ (.tail _ (.head _))) rfl rfl (ex_load1 0 0 U3 rfl rfl rfl rfl) rfl rfl (by kernel_rfl) (by kernel_rfl) (by kernel_rfl) fun a hF=>?_
 obtain ⟨e_105,he_105,hr⟩:=bindS hr
 obtain ⟨vs106,at106,d106⟩:=h95.at he_105 1 rfl
 obtain rfl : vs106 = [(iV e_105)]:=d106
 refine e_P (v:=(elP s95 (p_j.toNat * 1))) 32 hF rfl (ex_indexAddr U48 sz3 rfl rfl (h95.idx he_105)) fun a hF=>e_xm (v:=(iV e_105)) 33 hF hS (Mem.le.refl _) rfl (ex_loadE1 0 U3 rfl rfl ((at106).at) rfl rfl) rfl rfl (by kernel_rfl) (by kernel_rfl) (by kernel_rfl) fun a hF=>e_P (v:=(iV e_14)) 34 hF rfl (ex_move rfl) fun a hF=>e_P (v:=(iV (w64 (e_105 - e_14)))) 35 hF rfl (ex_ibin rfl rfl rfl) fun a hF=>e_one 2 (by kernel_rfl) ?_
 have hS : St _ _ _ _ [[⟨b6,[s1.v,s2.v,s3.v,s4.v],76⟩],[⟨b7,[s5.v],23⟩],[⟨b8,[(iV p_i)],3⟩],[⟨b10,[(iV (goLen p_t.Rows))],3⟩],[⟨b9,[(iV p_j)],3⟩]]:=hS.sel [4,3,2,0,1] (by decide)
 have hS116 : St _ _ _ _ ([[⟨b6,[s1.v,s2.v,s3.v,s4.v],76⟩],[⟨b7,[s5.v],23⟩],[⟨b8,[(iV p_i)],3⟩],[⟨b10,[(iV (goLen p_t.Rows))],3⟩],[⟨b9,[(iV p_j)],3⟩]]++[]):=hS
 have hE116:=hS116.enter
 obtain ⟨t_117,ht_117,hr⟩:=bindS hr
 have hSo:=hS
 refine e_opl rfl rfl rfl fun _ hK=>wp_callV (vs:=[]) (cap:=[(pP b6 0),(pP b7 0),(pP b8 0),(pP b10 0),(pP b9 0)]) hF rfl Tryz.func94 (by kernel_rfl) rfl rfl rfl (c_impl_rangeOf_1 p_t p_x p_i (goLen p_t.Rows) p_j t_117 ht_117 _ m b6 b7 b8 b10 b9 s1 h1 s2 h2 s3 h3 s4 h4 s5 h5 _ hE116) fun a w _ hR hF=>hK _ _ ?_
 obtain ⟨q118,s118,rfl,hR116,h118⟩:=hR
 have hS : St _ _ _ _ [[⟨b6,[s1.v,s2.v,s3.v,s4.v],76⟩],[⟨b7,[s5.v],23⟩],[⟨b8,[(iV p_i)],3⟩],[⟨b10,[(iV (goLen p_t.Rows))],3⟩],[⟨b9,[(iV p_j)],3⟩],q118]:=hS116.leaveF hR116
 refine ⟨⟨kpC hSo hS 2 2 rfl rfl (kpC hSo hS 3 3 rfl rfl (kpC hSo hS 4 4 rfl rfl (kpC hSo hS 0 0 rfl rfl kpN))),fun _=>hS.vis.of_le (Mem.le.refl _)⟩,?_⟩
 refine e_one 17 (by kernel_rfl) ?_
 have hS : St _ _ _ _ [q118,[⟨b6,[s1.v,s2.v,s3.v,s4.v],76⟩],[⟨b7,[s5.v],23⟩],[⟨b8,[(iV p_i)],3⟩],[⟨b10,[(iV (goLen p_t.Rows))],3⟩],[⟨b9,[(iV p_j)],3⟩]]:=hS.sel [5,0,1,2,3,4] (by decide)
 have hS119 : St _ _ _ _ ([q118]++[[⟨b6,[s1.v,s2.v,s3.v,s4.v],76⟩],[⟨b7,[s5.v],23⟩],[⟨b8,[(iV p_i)],3⟩],[⟨b10,[(iV (goLen p_t.Rows))],3⟩],[⟨b9,[(iV p_j)],3⟩]]):=hS
 have hE119:=hS119.enter
 obtain ⟨t_120,ht_120,hr⟩:=bindS hr
 have hSo:=hS
 refine e_opl rfl rfl rfl fun _ hK=>wp_callX (vs:=[s118.v,(iV p_i),(iV (w64 ((goLen p_t.Rows) + p_j))),(iV (w64 (e_14 - e_55)))]) hF Tryz.func96 (by kernel_rfl) rfl rfl rfl (c_impl_push t_117 p_i (w64 ((goLen p_t.Rows) + p_j)) (w64 (e_14 - e_55)) t_120 ht_120 _ m s118 q118 h118 _ hE119) fun a w _ hR hF=>hK _ _ ?_
 obtain ⟨q121,rfl,hR119,h121⟩:=hR
 have hS : St _ _ _ _ [q121,[⟨b6,[s1.v,s2.v,s3.v,s4.v],76⟩],[⟨b7,[s5.v],23⟩],[⟨b8,[(iV p_i)],3⟩],[⟨b10,[(iV (goLen p_t.Rows))],3⟩],[⟨b9,[(iV p_j)],3⟩]]:=hS119.leaveF hR119
 refine ⟨⟨kpC hSo hS 3 3 rfl rfl (kpC hSo hS 4 4 rfl rfl (kpC hSo hS 5 5 rfl rfl (kpC hSo hS 1 1 rfl rfl kpN))),fun _=>hS.vis.of_le (Mem.le.refl _)⟩,?_⟩
 refine e_P (v:=(iV (w64 (e_14 - t_120.1)))) 18 hF rfl (ex_ibin rfl rfl rfl) fun a hF=>e_one 21 (by kernel_rfl) ?_
 have hS : St _ _ _ _ [[⟨b6,[s1.v,s2.v,s3.v,s4.v],76⟩],[⟨b7,[s5.v],23⟩],[⟨b8,[(iV p_i)],3⟩],[⟨b10,[(iV (goLen p_t.Rows))],3⟩],[⟨b9,[(iV p_j)],3⟩],q121]:=hS.sel [1,2,3,4,5,0] (by decide)
 have hS122 : St _ _ _ _ ([[⟨b6,[s1.v,s2.v,s3.v,s4.v],76⟩],[⟨b7,[s5.v],23⟩],[⟨b8,[(iV p_i)],3⟩],[⟨b10,[(iV (goLen p_t.Rows))],3⟩],[⟨b9,[(iV p_j)],3⟩]]++[q121]):=hS
 have hE122:=hS122.enter
 obtain ⟨t_123,ht_123,hr⟩:=bindS hr
 have hSo:=hS
 refine e_opl rfl rfl rfl fun _ hK=>wp_callV (vs:=[]) (cap:=[(pP b6 0),(pP b7 0),(pP b8 0),(pP b10 0),(pP b9 0)]) hF rfl Tryz.func94 (by kernel_rfl) rfl rfl rfl (c_impl_rangeOf_1 p_t p_x p_i (goLen p_t.Rows) p_j t_123 ht_123 _ m b6 b7 b8 b10 b9 s1 h1 s2 h2 s3 h3 s4 h4 s5 h5 _ hE122) fun a w _ hR hF=>hK _ _ ?_
 obtain ⟨q124,s124,rfl,hR122,h124⟩:=hR
 have hS : St _ _ _ _ [[⟨b6,[s1.v,s2.v,s3.v,s4.v],76⟩],[⟨b7,[s5.v],23⟩],[⟨b8,[(iV p_i)],3⟩],[⟨b10,[(iV (goLen p_t.Rows))],3⟩],[⟨b9,[(iV p_j)],3⟩],q124,q121]:=hS122.leaveF hR122
 refine ⟨⟨kpC hSo hS 2 2 rfl rfl (kpC hSo hS 3 3 rfl rfl (kpC hSo hS 4 4 rfl rfl (kpC hSo hS 0 0 rfl rfl kpN))),fun _=>hS.vis.of_le (Mem.le.refl _)⟩,?_⟩
 refine e_one 36 (by kernel_rfl) ?_
 have hS : St _ _ _ _ [q124,[⟨b6,[s1.v,s2.v,s3.v,s4.v],76⟩],[⟨b7,[s5.v],23⟩],[⟨b8,[(iV p_i)],3⟩],[⟨b10,[(iV (goLen p_t.Rows))],3⟩],[⟨b9,[(iV p_j)],3⟩],q121]:=hS.sel [5,0,1,2,3,4,6] (by decide)
 have hS125 : St _ _ _ _ ([q124]++[[⟨b6,[s1.v,s2.v,s3.v,s4.v],76⟩],[⟨b7,[s5.v],23⟩],[⟨b8,[(iV p_i)],3⟩],[⟨b10,[(iV (goLen p_t.Rows))],3⟩],[⟨b9,[(iV p_j)],3⟩],q121]):=hS
 have hE125:=hS125.enter
 obtain ⟨t_126,ht_126,hr⟩:=bindS hr
 have hSo:=hS
 refine e_opl rfl rfl rfl fun _ hK=>wp_callX (vs:=[s124.v,(iV (w64 ((goLen p_t.Rows) + p_j))),(iV p_i),(iV (w64 (e_105 - e_14)))]) hF Tryz.func96 (by kernel_rfl) rfl rfl rfl (c_impl_push t_123 (w64 ((goLen p_t.Rows) + p_j)) p_i (w64 (e_105 - e_14)) t_126 ht_126 _ m s124 q124 h124 _ hE125) fun a w _ hR hF=>hK _ _ ?_
 obtain ⟨q127,rfl,hR125,h127⟩:=hR
 have hS : St _ _ _ _ [q127,[⟨b6,[s1.v,s2.v,s3.v,s4.v],76⟩],[⟨b7,[s5.v],23⟩],[⟨b8,[(iV p_i)],3⟩],[⟨b10,[(iV (goLen p_t.Rows))],3⟩],[⟨b9,[(iV p_j)],3⟩],q121]:=hS125.leaveF hR125
 refine ⟨⟨kpC hSo hS 3 3 rfl rfl (kpC hSo hS 4 4 rfl rfl (kpC hSo hS 5 5 rfl rfl (kpC hSo hS 1 1 rfl rfl kpN))),fun _=>hS.vis.of_le (Mem.le.refl _)⟩,?_⟩
 refine e_P (v:=(iV (w64 (e_14 + t_126.1)))) 37 hF rfl (ex_ibin rfl rfl rfl) fun a hF=>e_P (v:=(iV (w64 (e_14 - t_120.1)))) 38 hF rfl (ex_assign rfl) fun a hF=>e_P (v:=(iV (w64 (e_14 + t_126.1)))) 39 hF rfl (ex_assign rfl) fun a hF=>e_end (by kernel_rfl) (n_sq (q_ret ?_)) _
 obtain rfl:=someI hr
 exact ret_of hF hS rfl (.tmp rfl (.tmp rfl .nil)) rfl

theorem c_impl_isProtected (p_t : impl_Transport) (p_x : List (List Int)) (p_i : Int) (p_j : Int) (p_down : Int) (p_up : Int) (r : Bool) (hr : impl_isProtected p_t p_x p_i p_j p_down p_up = some r) (w0 : World) (m : Mem) (hv : Vis m w0) (s1 : Sl) (h1 : Rd m s1 p_t.Rows) (s2 : Sl) (h2 : Rd m s2 p_t.Cols) (s3 : Sl) (h3 : Rd m s3 p_t.Lo) (s4 : Sl) (h4 : Rd m s4 p_t.Hi) (s5 : Sl) (h5 : Rd m s5 p_x) :
  Ret Tryz.prog 57 [(.agg #[s1.v,s2.v,s3.v,s4.v]),s5.v,(iV p_i),(iV p_j),(iV p_down),(iV p_up)] w0 (fun v _=>v = (.bool r)):=by
 unfold impl_isProtected at hr
 refine ret_start Tryz.func57 rfl 48 rfl rfl m hv fun a hF hS=>q_sr (q_box (cs:=[s1.v,s2.v,s3.v,s4.v]) hF hS rfl rfl rfl fun a w b6 hF hS=>q_s hF rfl fun a hF=>q_end (n_sq (q_sr (q_y (v:=(.agg #[s1.v,s2.v,s3.v,s4.v])) hF hS (ex_loadA (vs:=[s1.v,s2.v,s3.v,s4.v]) 0 0 U76 rfl sz76 rfl rfl rfl rfl) fun a hF=>q_m hF rfl fun a hF=>q_m hF rfl fun a hF=>q_m hF rfl fun a hF=>?_))))
 obtain ⟨t_7,ht_7,hr⟩:=bindS hr
 refine q_call (vs:=[(.agg #[s1.v,s2.v,s3.v,s4.v]),s5.v,(iV p_i),(iV p_j)]) hF hS Tryz.func76 (by kernel_rfl) rfl rfl rfl (c_impl_rangeOf p_t p_x p_i p_j t_7 ht_7 _ m hS.vis s1 h1 s2 h2 s3 h3 s4 h4 s5 h5) ?_
 rintro a w _ rfl hF hS
 refine q_m hF rfl fun a hF=>q_y (v:=(iV t_7.1)) hF hS (ex_extract rfl rfl) fun a hF=>q_y (v:=(iV t_7.2)) hF hS (ex_extract rfl rfl) fun a hF=>q_s hF rfl fun a hF=>q_s hF rfl fun a hF=>q_end (n_sq (q_seq ?_))
 obtain ⟨t_18,hj1,hr⟩:=bindS hr
 refine q_join (fun a w=>Fr a 48 [(12,(.bool t_18))]∧St [] w0 w m []) ?_ ?_
 ·refine q_region (q_m hF rfl fun a hF=>q_m hF rfl fun a hF=>q_m hF rfl fun a hF=>?_)
  obtain ⟨e_8,he_8,hj1⟩:=bindS hj1
  obtain ⟨vs9,at9,d9⟩:=h5.at he_8 1 rfl
  obtain ⟨s10,rfl,h10⟩ : ∃ s10 : Sl,vs9 = [s10.v]∧Rd m s10 e_8:=d9
  refine q_y (v:=(elP s5 (p_i.toNat * 1))) hF hS (ex_indexAddr U23 sz48 rfl rfl (h5.idx he_8)) fun a hF=>q_y (v:=s10.v) hF hS (ex_loadE1 0 U48 rfl rfl ((at9).at) rfl rfl) fun a hF=>q_m hF rfl fun a hF=>?_
  obtain ⟨e_11,he_11,hj1⟩:=bindS hj1
  obtain ⟨vs12,at12,d12⟩:=h10.at he_11 1 rfl
  obtain rfl : vs12 = [(iV e_11)]:=d12
  refine q_y (v:=(elP s10 (p_j.toNat * 1))) hF hS (ex_indexAddr U48 sz3 rfl rfl (h10.idx he_11)) fun a hF=>q_y (v:=(iV e_11)) hF hS (ex_loadE1 0 U3 rfl rfl ((at12).at) rfl rfl) fun a hF=>q_m hF rfl fun a hF=>q_y (v:=(iV (w64 (e_11 - p_down)))) hF hS (ex_ibin rfl rfl rfl) fun a hF=>q_y (v:=(iV (max 0 (w64 (e_11 - p_down))))) hF hS (ex_max rfl rfl) fun a hF=>q_y (v:=(.bool (decide (t_7.1 ≤ (max 0 (w64 (e_11 - p_down))))))) hF hS (ex_ibin rfl rfl rfl) fun a hF=>q_m hF rfl fun a hF=>?_
  rcases bcase (decide (t_7.1 ≤ (max 0 (w64 (e_11 - p_down))))) with hc2 | hc2
  ·have hj1:=cond_f hc2 hj1
   refine q_k hF hc2 fun a hF=>q_k hF hc2 fun a hF=>q_k hF hc2 fun a hF=>q_k hF hc2 fun a hF=>q_k hF hc2 fun a hF=>q_k hF hc2 fun a hF=>q_k hF hc2 fun a hF=>q_k hF hc2 fun a hF=>q_k hF hc2 fun a hF=>q_k hF hc2 fun a hF=>q_k hF hc2 fun a hF=>q_y (v:=(.bool false)) hF hS (ex_pick_f rfl rfl hc2) fun a hF=>q_s hF rfl fun a hF=>q_end (n_jn ?_)
   obtain rfl:=someI hj1
   exact ⟨hF.sub ⟨rfl,trivial⟩,hS.mask [false]⟩
  ·have hj1:=cond_t hc2 hj1
   refine q_g (v:=(iV t_7.2)) hF hS (ex_move rfl) hc2 fun a hF=>q_g (v:=s5.v) hF hS (ex_move rfl) hc2 fun a hF=>q_g (v:=(iV p_i)) hF hS (ex_move rfl) hc2 fun a hF=>?_
   obtain ⟨e_13,he_13,hj1⟩:=bindS hj1
   obtain ⟨vs14,at14,d14⟩:=h5.at he_13 1 rfl
   obtain ⟨s15,rfl,h15⟩ : ∃ s15 : Sl,vs14 = [s15.v]∧Rd m s15 e_13:=d14
   refine q_g (v:=(elP s5 (p_i.toNat * 1))) hF hS (ex_indexAddr U23 sz48 rfl rfl (h5.idx he_13)) hc2 fun a hF=>q_g (v:=s15.v) hF hS (ex_loadE1 0 U48 rfl rfl ((at14).at) rfl rfl) hc2 fun a hF=>q_g (v:=(iV p_j)) hF hS (ex_move rfl) hc2 fun a hF=>?_
   obtain ⟨e_16,he_16,hj1⟩:=bindS hj1
   obtain ⟨vs17,at17,d17⟩:=h15.at he_16 1 rfl
   obtain rfl : vs17 = [(iV e_16)]:=d17
   refine q_g (v:=(elP s15 (p_j.toNat * 1))) hF hS (ex_indexAddr U48 sz3 rfl rfl (h15.idx he_16)) hc2 fun a hF=>q_g (v:=(iV e_16)) hF hS (ex_loadE1 0 U3 rfl rfl ((at17).at) rfl rfl) hc2 fun a hF=>q_g (v:=(iV p_up)) hF hS (ex_move rfl) hc2 fun a hF=>q_g (v:=(iV (w64 (e_16 + p_up)))) hF hS (ex_ibin rfl rfl rfl) hc2 fun a hF=>q_g (v:=(.bool (decide ((w64 (e_16 + p_up)) ≤ t_7.2)))) hF hS (ex_ibin rfl rfl rfl) hc2 fun a hF=>q_y (v:=(.bool (decide ((w64 (e_16 + p_up)) ≤ t_7.2)))) hF hS (ex_pick_t rfl rfl hc2) fun a hF=>q_s hF rfl fun a hF=>q_end (n_jn ?_)
   obtain rfl:=someI hj1
   exact ⟨hF.sub ⟨rfl,trivial⟩,hS.mask [false]⟩
 ·rintro a w ⟨hF,hS⟩
  refine n_sq (q_ret ?_)
  obtain rfl:=someI hr
  exact ret_of hF hS rfl (.tmp rfl .nil) rfl

theorem c_impl_protects (p_x : List (List Int)) (p_p : List (List Int)) (p_primary : List (List Int)) (p_down : Int) (p_up : Int) (r : Bool) (hr : impl_protects p_x p_p p_primary p_down p_up = some r) (w0 : World) (m : Mem) (hv : Vis m w0) (s1 : Sl) (h1 : Rd m s1 p_x) (s2 : Sl) (h2 : Rd m s2 p_p) (s3 : Sl) (h3 : Rd m s3 p_primary) :
  Ret Tryz.prog 18 [s1.v,s2.v,s3.v,(iV p_down),(iV p_up)] w0 (fun v _=>v = (.bool r)):=by
 unfold impl_protects at hr
 refine ret_start Tryz.func18 rfl 37 rfl rfl m hv fun a hF hS=>q_sr (q_s hF rfl fun a hF=>q_end (n_sq (q_sr (q_m hF rfl fun a hF=>q_m hF rfl fun a hF=>?_))))
 obtain ⟨t_4,ht_4,hr⟩:=bindS hr
 refine q_call (vs:=[s1.v,s2.v]) hF hS Tryz.func56 (by kernel_rfl) rfl rfl rfl (c_impl_attackNetwork p_x p_p t_4 ht_4 _ m hS.vis s1 h1 s2 h2) ?_
 rintro a w _ ⟨q6,q7,q8,q9,s6,s7,s8,s9,rfl,hR5,h6,h7,h8,h9⟩ hF hS2
 have hS : St _ _ _ _ [q6,q7,q8,q9]:=hS.joinF hR5
 refine q_alloc (cs:=[nilS.v,nilS.v,nilS.v,nilS.v]) hF hS rfl rfl rfl fun a w b10 hF hS=>q_store (vs:=[s6.v,s7.v,s8.v,s9.v]) (cs':=[s6.v,s7.v,s8.v,s9.v]) 0 0 hF hS sz76 rfl rfl rfl rfl rfl rfl rfl rfl fun a w hF hS=>q_end (n_sq (q_seq (q_sr (q_m hF rfl fun a hF=>?_))))
 obtain ⟨t_11,ht_11,hr⟩:=bindS hr
 refine q_call (vs:=[s3.v]) hF hS Tryz.func40 (by kernel_rfl) rfl rfl rfl (c_impl_positions p_primary t_11 ht_11 _ m hS.vis s3 h3) ?_
 have hT:=hS
 rintro a w _ ⟨m12,q13,s13,rfl,hm12,hR12,h13⟩ hF hS2
 have hS : St _ _ _ _ [q13,[⟨b10,[s6.v,s7.v,s8.v,s9.v],76⟩],q6,q7,q8,q9]:=hS.join hR12 hm12
 have hm12:=MLe.weakX (O0:=[]) hT hm12
 refine q_y (v:=(iV (goLen t_11))) hF hS (ex_len U23 rfl h13.len) fun a hF=>q_m hF rfl fun a hF=>q_end (n_sq (q_block ?_))
 obtain ⟨o1,hl1,hr⟩:=bindS hr
 refine q_loop (fun (t_14 : Int) a w=>Fr a 37 [(0,s1.v),(3,(iV p_down)),(4,(iV p_up)),(11,(pP b10 0)),(18,s13.v),(19,(iV (goLen t_11))),(20,(iV t_14))]∧St [] w0 w m12 [q13,[⟨b10,[s6.v,s7.v,s8.v,s9.v],76⟩],q6,q7,q8,q9]) (fun (o : (Unit) ⊕ (Bool)) e a w=>o = .inl ()∧e = .exit 0∧Fr a 37 []∧St [] w0 w m12 []) hl1 ⟨hF.sub ⟨rfl,rfl,rfl,rfl,rfl,rfl,rfl,trivial⟩,hS⟩ ?_ ?_
 ·clear hF hS
  rintro t_14 a w st ⟨hF,hS⟩ hb1
  unfold impl_protects_l1 at hb1
  refine q_sr (q_y (v:=(.bool (decide (t_14 < (goLen t_11))))) hF hS (ex_ibin rfl rfl rfl) fun a hF=>q_end (n_sq (q_seq ?_)))
  rcases bcase (decide (t_14 < (goLen t_11))) with hc2 | hc2
  ·have hb1:=cond_f hc2 hb1
   refine q_cond_f hF rfl hc2 (q_exit (x_sq ?_))
   obtain rfl:=someI hb1
   exact ⟨nofun,.inl ⟨rfl,rfl,hF.sub trivial,hS.mask [false,false,false,false,false,false]⟩⟩
  ·have hb1:=cond_t hc2 hb1
   refine q_cond_t hF rfl hc2 (q_skipc (n_sq (q_seq (q_block (q_seq (q_region ?_))))))
   obtain ⟨e_15,he_15,hb1⟩:=bindS hb1
   obtain ⟨vs16,at16,d16⟩:=h13.at he_15 1 rfl
   obtain ⟨s17,rfl,h17⟩ : ∃ s17 : Sl,vs16 = [s17.v]∧Rd m12 s17 e_15:=d16
   refine q_y (v:=(elP s13 (t_14.toNat * 1))) hF hS (ex_indexAddr U23 sz48 rfl rfl (h13.idx he_15)) fun a hF=>q_y (v:=s17.v) hF hS (ex_loadE1 0 U48 rfl rfl (at16.at 0 rfl) rfl rfl) fun a hF=>q_s hF rfl fun a hF=>q_end (n_sq (q_seq (e_region ⟨[],[],m12⟩ mixed fun w' hw'=>?_)))
   have hS:=hS.below hw'
   refine e_X (v:=(.agg #[s6.v,s7.v,s8.v,s9.v])) 0 hF hS rfl (ex_loadA (vs:=[s6.v,s7.v,s8.v,s9.v]) 1 0 U76 rfl sz76 rfl rfl rfl rfl) fun a hF=>e_P (v:=s1.v) 1 hF rfl (ex_move rfl) fun a hF=>e_P (v:=s17.v) 2 hF rfl (ex_move rfl) fun a hF=>?_
   obtain ⟨e_18,he_18,hb1⟩:=bindS hb1
   obtain ⟨vs19,at19,d19⟩:=h17.at he_18 1 rfl
   obtain rfl : vs19 = [(iV e_18)]:=d19
   refine e_P (v:=(elP s17 ((0 : Int).toNat * 1))) 3 hF rfl (ex_indexAddr U48 sz3 rfl rfl (h17.idx he_18)) fun a hF=>e_xm (v:=(iV e_18)) 4 hF hS (Mem.le.refl _) rfl (ex_loadE1 0 U3 rfl rfl ((at19).at) rfl rfl) rfl rfl (by kernel_rfl) (by kernel_rfl) (by kernel_rfl) fun a hF=>e_P (v:=s17.v) 5 hF rfl (ex_move rfl) fun a hF=>?_
   obtain ⟨e_20,he_20,hb1⟩:=bindS hb1
   obtain ⟨vs21,at21,d21⟩:=h17.at he_20 1 rfl
   obtain rfl : vs21 = [(iV e_20)]:=d21
   refine e_P (v:=(elP s17 ((1 : Int).toNat * 1))) 6 hF rfl (ex_indexAddr U48 sz3 rfl rfl (h17.idx he_20)) fun a hF=>e_xm (v:=(iV e_20)) 7 hF hS (Mem.le.refl _) rfl (ex_loadE1 0 U3 rfl rfl ((at21).at) rfl rfl) rfl rfl (by kernel_rfl) (by kernel_rfl) (by kernel_rfl) fun a hF=>e_P (v:=(iV p_down)) 8 hF rfl (ex_move rfl) fun a hF=>e_P (v:=(iV p_up)) 9 hF rfl (ex_move rfl) fun a hF=>e_one 10 (by kernel_rfl) ?_
   obtain ⟨m23,hl23,hv23,hz23⟩:=hS.lend
   obtain ⟨t_22,ht_22,hb1⟩:=bindS hb1
   refine e_call (vs:=[(.agg #[s6.v,s7.v,s8.v,s9.v]),s1.v,(iV e_18),(iV e_20),(iV p_down),(iV p_up)]) hF hS rfl Tryz.func57 (by kernel_rfl) rfl rfl rfl (c_impl_isProtected t_4 p_x e_18 e_20 p_down p_up t_22 ht_22 _ m23 hv23 s6 ((h6.mono hm12.le).froz hl23 (hz23 2 _ rfl)) s7 ((h7.mono hm12.le).froz hl23 (hz23 3 _ rfl)) s8 ((h8.mono hm12.le).froz hl23 (hz23 4 _ rfl)) s9 ((h9.mono hm12.le).froz hl23 (hz23 5 _ rfl)) s1 ((h1.mono hm12.le).mono hl23)) ?_
   rintro a w _ rfl hF hS
   refine e_P (v:=(.bool (!t_22))) 11 hF rfl (ex_not rfl) fun a hF=>e_end (by kernel_rfl) (n_sq ?_) _
   rcases bcase (!t_22) with hc3 | hc3
   ·have hb1:=cond_f hc3 hb1
    refine q_cond_f hF rfl hc3 (q_skipc (n_ib (n_sq (q_region (q_y (v:=(iV (w64 (t_14 + 1)))) hF hS (ex_ibin rfl rfl rfl) fun a hF=>q_m hF rfl fun a hF=>q_end ?_)))))
    obtain rfl:=someI hb1
    exact ⟨rfl,hF.sub ⟨rfl,rfl,rfl,rfl,rfl,rfl,rfl,trivial⟩,hS⟩
   ·have hb1:=cond_t hc3 hb1
    refine q_cond_t hF rfl hc3 (q_sr (q_s hF rfl fun a hF=>q_end (n_sq (q_ret (r_ib (r_sq ?_))))))
    obtain rfl:=someI hb1
    refine ⟨nofun,.inr fun ho=>?_⟩
    subst ho
    refine r_ib (r_sq ?_)
    obtain rfl:=someI hr
    exact ret_of hF hS rfl (.tmp rfl .nil) rfl
 ·rintro e a w ⟨rfl,rfl,hF,hS⟩
  refine x_ib (n_sq ?_)
  refine q_sr (q_s hF rfl fun a hF=>q_end (n_sq (q_ret ?_)))
  obtain rfl:=someI hr
  exact ret_of hF hS rfl (.tmp rfl .nil) rfl

theorem c_impl_membersOf (p_mask : Int) (r : (List Int)) (hr : impl_membersOf p_mask = some r) (w0 : World) (m : Mem) (hv : Vis m w0) :
  Ret Tryz.prog 20 [(iV p_mask)] w0 (fun v w=>∃ (q0' : Piece) (s0' : Sl),v = s0'.v∧St [] w0 w m [q0']∧OwnL m 3 q0' s0' r):=by
 unfold impl_membersOf at hr
 refine ret_start Tryz.func20 rfl 21 rfl rfl m hv fun a hF hS=>q_sr (q_s hF rfl fun a hF=>q_end (n_sq (q_sr (q_s hF rfl fun a hF=>q_end (n_sq (q_seq (q_sr (q_s hF rfl fun a hF=>q_end (n_sq (q_block ?_))))))))))
 obtain ⟨out_11,hl1,hr⟩:=bindS hr
 refine q_loop (fun (s : (List Int) × Int) a w=>∃ (q2 : Piece),∃ (s2 : Sl),∃ out_1,∃ i_3,s = (out_1,i_3)∧Fr a 21 [(0,(iV p_mask)),(3,s2.v),(4,(iV i_3))]∧St [] w0 w m [q2]∧OwnL m 3 q2 s2 out_1) (fun (out_11 : (List Int)) e a w=>∃ (q12 : Piece),∃ (s12 : Sl),e = .exit 0∧Fr a 21 [(3,s12.v)]∧St [] w0 w m [q12]∧OwnL m 3 q12 s12 out_11) hl1 ⟨[],nilS,_,_,rfl,hF.sub ⟨rfl,rfl,rfl,trivial⟩,hS.sel [0] (by decide),(OwnL.nil (α:=Int) m 3)⟩ ?_ ?_
 ·clear hF hS
  rintro s a w st ⟨q2,s2,out_1,i_3,rfl,hF,hS,h2⟩ hb1
  unfold impl_membersOf_l1 at hb1
  refine q_seq (q_sr (q_m hF rfl fun a hF=>q_m hF rfl fun a hF=>?_))
  obtain ⟨t_4,ht_4,hb1⟩:=bindS hb1
  refine q_y (v:=(iV t_4)) hF hS (ex_shr rfl rfl ht_4) fun a hF=>q_y (v:=(.bool (t_4 != 0))) hF hS (ex_ibin rfl rfl rfl) fun a hF=>q_end (n_sq ?_)
  rcases bcase (t_4 != 0) with hc2 | hc2
  ·have hb1:=cond_f hc2 hb1
   refine q_cond_f hF rfl hc2 (q_exit (x_sq ?_))
   obtain rfl:=someI hb1
   exact ⟨nofun,.inl ⟨q2,s2,rfl,hF.sub ⟨rfl,trivial⟩,hS,h2⟩⟩
  ·have hb1:=cond_t hc2 hb1
   refine q_cond_t hF rfl hc2 (q_skipc (n_sq (q_seq (q_block (q_sr (q_m hF rfl fun a hF=>q_m hF rfl fun a hF=>?_))))))
   obtain ⟨t_5,ht_5,hb1⟩:=bindS hb1
   refine q_y (v:=(iV t_5)) hF hS (ex_shr rfl rfl ht_5) fun a hF=>q_y (v:=(iV (goBits .and .i64 t_5 1))) hF hS (ex_bits rfl rfl rfl) fun a hF=>q_y (v:=(.bool ((goBits .and .i64 t_5 1) == 1))) hF hS (ex_ibin rfl rfl rfl) fun a hF=>q_end (n_sq ?_)
   obtain ⟨out_9,hj3,hb1⟩:=bindS hb1
   refine q_join (fun a w=>∃ (q10 : Piece),∃ (s10 : Sl),Fr a 21 [(0,(iV p_mask)),(3,s10.v),(4,(iV i_3))]∧St [] w0 w m [q10]∧OwnL m 3 q10 s10 out_9) ?_ ?_
   ·rcases bcase ((goBits .and .i64 t_5 1) == 1) with hc4 | hc4
    ·have hj3:=cond_f hc4 hj3
     refine q_cond_f hF rfl hc4 (q_skipc (n_jn ?_))
     obtain rfl:=someI hj3
     exact ⟨q2,s2,hF.sub ⟨rfl,rfl,rfl,trivial⟩,hS,h2⟩
    ·have hj3:=cond_t hc4 hj3
     refine q_cond_t hF rfl hc4 (q_region (q_m hF rfl fun a hF=>q_m hF rfl fun a hF=>q_do rfl fun _ hK=>wp_buildSlice' (l:=([i_3] : List Int)) (cells:=[(iV i_3)]) hF hS U48 inf3 rfl rfl (by kernel_rfl) rfl rfl rfl ⟨rfl,rfl⟩ rfl rfl fun a w q6 s6 hF hS h6 _=>hK _ _ ?_))
     have hS : St _ _ _ _ [q2,q6]:=hS.sel [1,0] (by decide)
     obtain ⟨l_7,hl_7,hj3⟩:=bindS hj3
     refine q_do rfl fun _ hK=>wp_append hF hS h2 U48 inf3 rfl rfl rfl rfl (h6.vw hS (j:=1) rfl) rfl (by decide) hl_7 rfl fun a w q8 s8 hF hS h8=>hK _ _ (q_s hF rfl fun a hF=>q_end (n_jn ?_))
     obtain rfl:=someI hj3
     exact ⟨q8,s8,hF.sub ⟨rfl,rfl,rfl,trivial⟩,hS.mask [true,false],h8⟩
   ·rintro a w ⟨q10,s10,hF,hS,h10⟩
    refine n_ib (n_sq ?_)
    refine q_region (q_m hF rfl fun a hF=>q_y (v:=(iV (w64 (i_3 + 1)))) hF hS (ex_ibin rfl rfl rfl) fun a hF=>q_s hF rfl fun a hF=>q_end ?_)
    obtain rfl:=someI hb1
    exact ⟨rfl,q10,s10,_,_,rfl,hF.sub ⟨rfl,rfl,rfl,trivial⟩,hS,h10⟩
 ·rintro e a w ⟨q12,s12,rfl,hF,hS,h12⟩
  refine x_ib (n_sq ?_)
  refine q_sr (q_m hF rfl fun a hF=>q_s hF rfl fun a hF=>q_end (n_sq (q_ret ?_)))
  obtain rfl:=someI hr
  exact ret_of hF hS rfl (.tmp rfl .nil) ⟨q12,s12,rfl,hS.sel [0] (by decide),h12⟩

theorem c_impl_valueOfCells (p_x : List (List Int)) (p_cells : List (List Int)) (r : Int) (hr : impl_valueOfCells p_x p_cells = some r) (w0 : World) (m : Mem) (hv : Vis m w0) (s1 : Sl) (h1 : Rd m s1 p_x) (s2 : Sl) (h2 : Rd m s2 p_cells) :
  Ret Tryz.prog 21 [s1.v,s2.v] w0 (fun v _=>v = (iV r)):=by
 unfold impl_valueOfCells at hr
 refine ret_start Tryz.func21 rfl 29 rfl rfl m hv fun a hF hS=>q_sr (q_s hF rfl fun a hF=>q_end (n_sq (q_sr (q_s hF rfl fun a hF=>q_end (n_sq (q_seq (q_sr (q_m hF rfl fun a hF=>q_y (v:=(iV (goLen p_cells))) hF hS (ex_len U23 rfl h2.len) fun a hF=>q_m hF rfl fun a hF=>q_end (n_sq (q_block ?_))))))))))
 obtain ⟨sum_17,hl1,hr⟩:=bindS hr
 refine q_loop (fun (s : Int × Int) a w=>∃ sum_3,∃ t_4,s = (sum_3,t_4)∧Fr a 29 [(0,s1.v),(5,(iV sum_3)),(8,s2.v),(9,(iV (goLen p_cells))),(10,(iV t_4))]∧St [] w0 w m []) (fun (sum_17 : Int) e a w=>e = .exit 0∧Fr a 29 [(5,(iV sum_17))]∧St [] w0 w m []) hl1 ⟨_,_,rfl,hF.sub ⟨rfl,rfl,rfl,rfl,rfl,trivial⟩,hS⟩ ?_ ?_
 ·clear hF hS
  rintro s a w st ⟨sum_3,t_4,rfl,hF,hS⟩ hb1
  unfold impl_valueOfCells_l1 at hb1
  refine q_sr (q_y (v:=(.bool (decide (t_4 < (goLen p_cells))))) hF hS (ex_ibin rfl rfl rfl) fun a hF=>q_end (n_sq (q_seq ?_)))
  rcases bcase (decide (t_4 < (goLen p_cells))) with hc2 | hc2
  ·have hb1:=cond_f hc2 hb1
   refine q_cond_f hF rfl hc2 (q_exit (x_sq ?_))
   obtain rfl:=someI hb1
   exact ⟨nofun,.inl ⟨rfl,hF.sub ⟨rfl,trivial⟩,hS⟩⟩
  ·have hb1:=cond_t hc2 hb1
   refine q_cond_t hF rfl hc2 (q_skipc (n_sq (q_seq (q_block (q_seq (q_region ?_))))))
   obtain ⟨e_5,he_5,hb1⟩:=bindS hb1
   obtain ⟨vs6,at6,d6⟩:=h2.at he_5 1 rfl
   obtain ⟨s7,rfl,h7⟩ : ∃ s7 : Sl,vs6 = [s7.v]∧Rd m s7 e_5:=d6
   refine q_y (v:=(elP s2 (t_4.toNat * 1))) hF hS (ex_indexAddr U23 sz48 rfl rfl (h2.idx he_5)) fun a hF=>q_y (v:=s7.v) hF hS (ex_loadE1 0 U48 rfl rfl ((at6).at) rfl rfl) fun a hF=>q_s hF rfl fun a hF=>q_end (n_sq (e_region ⟨[],[],m⟩ mixed fun w' hw'=>?_))
   have hS:=hS.below hw'
   refine e_P (v:=(iV sum_3)) 0 hF rfl (ex_move rfl) fun a hF=>e_P (v:=s1.v) 1 hF rfl (ex_move rfl) fun a hF=>e_P (v:=s7.v) 2 hF rfl (ex_move rfl) fun a hF=>?_
   obtain ⟨e_8,he_8,hb1⟩:=bindS hb1
   obtain ⟨vs9,at9,d9⟩:=h7.at he_8 1 rfl
   obtain rfl : vs9 = [(iV e_8)]:=d9
   refine e_P (v:=(elP s7 ((0 : Int).toNat * 1))) 3 hF rfl (ex_indexAddr U48 sz3 rfl rfl (h7.idx he_8)) fun a hF=>e_xm (v:=(iV e_8)) 4 hF hS (Mem.le.refl _) rfl (ex_loadE1 0 U3 rfl rfl ((at9).at) rfl rfl) rfl rfl (by kernel_rfl) (by kernel_rfl) (by kernel_rfl) fun a hF=>?_
   obtain ⟨e_10,he_10,hb1⟩:=bindS hb1
   obtain ⟨vs11,at11,d11⟩:=h1.at he_10 1 rfl
   obtain ⟨s12,rfl,h12⟩ : ∃ s12 : Sl,vs11 = [s12.v]∧Rd m s12 e_10:=d11
   refine e_P (v:=(elP s1 (e_8.toNat * 1))) 5 hF rfl (ex_indexAddr U23 sz48 rfl rfl (h1.idx he_10)) fun a hF=>e_xm (v:=s12.v) 6 hF hS (Mem.le.refl _) rfl (ex_loadE1 0 U48 rfl rfl ((at11).at) rfl rfl) rfl rfl (by kernel_rfl) (by kernel_rfl) (by kernel_rfl) fun a hF=>e_P (v:=s7.v) 7 hF rfl (ex_move rfl) fun a hF=>?_
   obtain ⟨e_13,he_13,hb1⟩:=bindS hb1
   obtain ⟨vs14,at14,d14⟩:=h7.at he_13 1 rfl
   obtain rfl : vs14 = [(iV e_13)]:=d14
   refine e_P (v:=(elP s7 ((1 : Int).toNat * 1))) 8 hF rfl (ex_indexAddr U48 sz3 rfl rfl (h7.idx he_13)) fun a hF=>e_xm (v:=(iV e_13)) 9 hF hS (Mem.le.refl _) rfl (ex_loadE1 0 U3 rfl rfl ((at14).at) rfl rfl) rfl rfl (by kernel_rfl) (by kernel_rfl) (by kernel_rfl) fun a hF=>?_
   obtain ⟨e_15,he_15,hb1⟩:=bindS hb1
   obtain ⟨vs16,at16,d16⟩:=h12.at he_15 1 rfl
   obtain rfl : vs16 = [(iV e_15)]:=d16
   refine e_P (v:=(elP s12 (e_13.toNat * 1))) 10 hF rfl (ex_indexAddr U48 sz3 rfl rfl (h12.idx he_15)) fun a hF=>e_xm (v:=(iV e_15)) 11 hF hS (Mem.le.refl _) rfl (ex_loadE1 0 U3 rfl rfl ((at16).at) rfl rfl) rfl rfl (by kernel_rfl) (by kernel_rfl) (by kernel_rfl) fun a hF=>e_P (v:=(iV (w64 (sum_3 + e_15)))) 12 hF rfl (ex_ibin rfl rfl rfl) fun a hF=>e_P (v:=(iV (w64 (sum_3 + e_15)))) 13 hF rfl (ex_assign rfl) fun a hF=>e_end (by kernel_rfl) (n_ib (n_sq ?_)) _
   refine q_region (q_y (v:=(iV (w64 (t_4 + 1)))) hF hS (ex_ibin rfl rfl rfl) fun a hF=>q_m hF rfl fun a hF=>q_end ?_)
   obtain rfl:=someI hb1
   exact ⟨rfl,_,_,rfl,hF.sub ⟨rfl,rfl,rfl,rfl,rfl,trivial⟩,hS⟩
 ·rintro e a w ⟨rfl,hF,hS⟩
  refine x_ib (n_sq ?_)
  refine q_sr (q_m hF rfl fun a hF=>q_s hF rfl fun a hF=>q_end (n_sq (q_ret ?_)))
  obtain rfl:=someI hr
  exact ret_of hF hS rfl (.tmp rfl .nil) rfl

theorem c_math_bits_Len32 (p_x : K .u32) (r : Int) (hr : math_bits_Len32 p_x = some r) (w0 : World) (m : Mem) (hv : Vis m w0) :
  Ret Tryz.prog 85 [(.int .u32 p_x.v)] w0 (fun v _=>v = (iV r)):=by
 unfold math_bits_Len32 at hr
 refine ret_start Tryz.func85 rfl 19 rfl rfl m hv fun a hF hS=>q_sr (q_s hF rfl fun a hF=>q_end (n_sq (q_seq (q_sr (q_m hF rfl fun a hF=>q_y (v:=(.bool (decide (65536 ≤ p_x.v)))) hF hS (ex_ibin rfl rfl rfl) fun a hF=>q_end (n_sq ?_))))))
 obtain ⟨j1,hj1,hr⟩:=bindS hr
 refine q_join (fun a w=>∃ x_2,∃ n_3,j1 = (x_2,n_3)∧Fr a 19 [(0,(.int .u32 x_2)),(2,(iV n_3))]∧St [] w0 w m []) ?_ ?_
 ·rcases bcase (decide (65536 ≤ p_x.v)) with hc2 | hc2
  ·have hj1:=cond_f hc2 hj1
   refine q_cond_f hF rfl hc2 (q_skipc (n_jn ?_))
   obtain rfl:=someI hj1
   exact ⟨_,_,rfl,hF.sub ⟨rfl,rfl,trivial⟩,hS⟩
  ·have hj1:=cond_t hc2 hj1
   refine q_cond_t hF rfl hc2 (q_sr (q_m hF rfl fun a hF=>?_))
   obtain ⟨t_1,ht_1,hj1⟩:=bindS hj1
   refine q_y (v:=(.int .u32 t_1)) hF hS (ex_shr rfl rfl ht_1) fun a hF=>q_s hF rfl fun a hF=>q_end (n_sq (q_region (q_s hF rfl fun a hF=>q_end (n_jn ?_))))
   obtain rfl:=someI hj1
   exact ⟨_,_,rfl,hF.sub ⟨rfl,rfl,trivial⟩,hS⟩
 ·rintro a w ⟨x_2,n_3,rfl,hF,hS⟩
  refine n_sq ?_
  refine q_seq (q_sr (q_m hF rfl fun a hF=>q_y (v:=(.bool (decide (256 ≤ x_2)))) hF hS (ex_ibin rfl rfl rfl) fun a hF=>q_end (n_sq ?_)))
  obtain ⟨j3,hj3,hr⟩:=bindS hr
  refine q_join (fun a w=>∃ x_5,∃ n_6,j3 = (x_5,n_6)∧Fr a 19 [(0,(.int .u32 x_5)),(2,(iV n_6))]∧St [] w0 w m []) ?_ ?_
  ·rcases bcase (decide (256 ≤ x_2)) with hc4 | hc4
   ·have hj3:=cond_f hc4 hj3
    refine q_cond_f hF rfl hc4 (q_skipc (n_jn ?_))
    obtain rfl:=someI hj3
    exact ⟨_,_,rfl,hF.sub ⟨rfl,rfl,trivial⟩,hS⟩
   ·have hj3:=cond_t hc4 hj3
    refine q_cond_t hF rfl hc4 (q_sr (q_m hF rfl fun a hF=>?_))
    obtain ⟨t_4,ht_4,hj3⟩:=bindS hj3
    refine q_y (v:=(.int .u32 t_4)) hF hS (ex_shr rfl rfl ht_4) fun a hF=>q_s hF rfl fun a hF=>q_end (n_sq (q_region (q_m hF rfl fun a hF=>q_y (v:=(iV (w64 (n_3 + 8)))) hF hS (ex_ibin rfl rfl rfl) fun a hF=>q_s hF rfl fun a hF=>q_end (n_jn ?_))))
    obtain rfl:=someI hj3
    exact ⟨_,_,rfl,hF.sub ⟨rfl,rfl,trivial⟩,hS⟩
  ·rintro a w ⟨x_5,n_6,rfl,hF,hS⟩
   refine n_sq ?_
   refine q_sr (q_m hF rfl fun a hF=>q_m hF rfl fun a hF=>q_y (v:=(.int .u8 (IntKind.wrap .u8 x_5))) hF hS (ex_conv U98 U5 rfl) fun a hF=>?_)
   obtain ⟨t_7,ht_7,hr⟩:=bindS hr
   refine q_y (v:=(.int .u8 t_7)) hF hS (ex_strIdx U9 rfl rfl ht_7) fun a hF=>q_y (v:=(iV (w64 t_7))) hF hS (ex_conv U5 U3 rfl) fun a hF=>q_y (v:=(iV (w64 (n_6 + (w64 t_7))))) hF hS (ex_ibin rfl rfl rfl) fun a hF=>q_s hF rfl fun a hF=>q_end (n_sq (q_ret ?_))
   obtain rfl:=someI hr
   exact ret_of hF hS rfl (.tmp rfl .nil) rfl

theorem c_math_bits_Len64 (p_x : K .u64) (r : Int) (hr : math_bits_Len64 p_x = some r) (w0 : World) (m : Mem) (hv : Vis m w0) :
  Ret Tryz.prog 86 [(.int .u64 p_x.v)] w0 (fun v _=>v = (iV r)):=by
 unfold math_bits_Len64 at hr
 refine ret_start Tryz.func86 rfl 25 rfl rfl m hv fun a hF hS=>q_sr (q_s hF rfl fun a hF=>q_end (n_sq (q_seq (q_sr (q_m hF rfl fun a hF=>q_y (v:=(.bool (decide (4294967296 ≤ p_x.v)))) hF hS (ex_ibin rfl rfl rfl) fun a hF=>q_end (n_sq ?_))))))
 obtain ⟨j1,hj1,hr⟩:=bindS hr
 refine q_join (fun a w=>∃ x_2,∃ n_3,j1 = (x_2,n_3)∧Fr a 25 [(0,(.int .u64 x_2)),(2,(iV n_3))]∧St [] w0 w m []) ?_ ?_
 ·rcases bcase (decide (4294967296 ≤ p_x.v)) with hc2 | hc2
  ·have hj1:=cond_f hc2 hj1
   refine q_cond_f hF rfl hc2 (q_skipc (n_jn ?_))
   obtain rfl:=someI hj1
   exact ⟨_,_,rfl,hF.sub ⟨rfl,rfl,trivial⟩,hS⟩
  ·have hj1:=cond_t hc2 hj1
   refine q_cond_t hF rfl hc2 (q_sr (q_m hF rfl fun a hF=>?_))
   obtain ⟨t_1,ht_1,hj1⟩:=bindS hj1
   refine q_y (v:=(.int .u64 t_1)) hF hS (ex_shr rfl rfl ht_1) fun a hF=>q_s hF rfl fun a hF=>q_end (n_sq (q_region (q_s hF rfl fun a hF=>q_end (n_jn ?_))))
   obtain rfl:=someI hj1
   exact ⟨_,_,rfl,hF.sub ⟨rfl,rfl,trivial⟩,hS⟩
 ·rintro a w ⟨x_2,n_3,rfl,hF,hS⟩
  refine n_sq ?_
  refine q_seq (q_sr (q_m hF rfl fun a hF=>q_y (v:=(.bool (decide (65536 ≤ x_2)))) hF hS (ex_ibin rfl rfl rfl) fun a hF=>q_end (n_sq ?_)))
  obtain ⟨j3,hj3,hr⟩:=bindS hr
  refine q_join (fun a w=>∃ x_5,∃ n_6,j3 = (x_5,n_6)∧Fr a 25 [(0,(.int .u64 x_5)),(2,(iV n_6))]∧St [] w0 w m []) ?_ ?_
  ·rcases bcase (decide (65536 ≤ x_2)) with hc4 | hc4
   ·have hj3:=cond_f hc4 hj3
    refine q_cond_f hF rfl hc4 (q_skipc (n_jn ?_))
    obtain rfl:=someI hj3
    exact ⟨_,_,rfl,hF.sub ⟨rfl,rfl,trivial⟩,hS⟩
   ·have hj3:=cond_t hc4 hj3
    refine q_cond_t hF rfl hc4 (q_sr (q_m hF rfl fun a hF=>?_))
    obtain ⟨t_4,ht_4,hj3⟩:=bindS hj3
    refine q_y (v:=(.int .u64 t_4)) hF hS (ex_shr rfl rfl ht_4) fun a hF=>q_s hF rfl fun a hF=>q_end (n_sq (q_region (q_m hF rfl fun a hF=>q_y (v:=(iV (w64 (n_3 + 16)))) hF hS (ex_ibin rfl rfl rfl) fun a hF=>q_s hF rfl fun a hF=>q_end (n_jn ?_))))
    obtain rfl:=someI hj3
    exact ⟨_,_,rfl,hF.sub ⟨rfl,rfl,trivial⟩,hS⟩
  ·rintro a w ⟨x_5,n_6,rfl,hF,hS⟩
   refine n_sq ?_
   refine q_seq (q_sr (q_m hF rfl fun a hF=>q_y (v:=(.bool (decide (256 ≤ x_5)))) hF hS (ex_ibin rfl rfl rfl) fun a hF=>q_end (n_sq ?_)))
   obtain ⟨j5,hj5,hr⟩:=bindS hr
   refine q_join (fun a w=>∃ x_8,∃ n_9,j5 = (x_8,n_9)∧Fr a 25 [(0,(.int .u64 x_8)),(2,(iV n_9))]∧St [] w0 w m []) ?_ ?_
   ·rcases bcase (decide (256 ≤ x_5)) with hc6 | hc6
    ·have hj5:=cond_f hc6 hj5
     refine q_cond_f hF rfl hc6 (q_skipc (n_jn ?_))
     obtain rfl:=someI hj5
     exact ⟨_,_,rfl,hF.sub ⟨rfl,rfl,trivial⟩,hS⟩
    ·have hj5:=cond_t hc6 hj5
     refine q_cond_t hF rfl hc6 (q_sr (q_m hF rfl fun a hF=>?_))
     obtain ⟨t_7,ht_7,hj5⟩:=bindS hj5
     refine q_y (v:=(.int .u64 t_7)) hF hS (ex_shr rfl rfl ht_7) fun a hF=>q_s hF rfl fun a hF=>q_end (n_sq (q_region (q_m hF rfl fun a hF=>q_y (v:=(iV (w64 (n_6 + 8)))) hF hS (ex_ibin rfl rfl rfl) fun a hF=>q_s hF rfl fun a hF=>q_end (n_jn ?_))))
     obtain rfl:=someI hj5
     exact ⟨_,_,rfl,hF.sub ⟨rfl,rfl,trivial⟩,hS⟩
   ·rintro a w ⟨x_8,n_9,rfl,hF,hS⟩
    refine n_sq ?_
    refine q_sr (q_m hF rfl fun a hF=>q_m hF rfl fun a hF=>q_y (v:=(.int .u8 (IntKind.wrap .u8 x_8))) hF hS (ex_conv U39 U5 rfl) fun a hF=>?_)
    obtain ⟨t_10,ht_10,hr⟩:=bindS hr
    refine q_y (v:=(.int .u8 t_10)) hF hS (ex_strIdx U9 rfl rfl ht_10) fun a hF=>q_y (v:=(iV (w64 t_10))) hF hS (ex_conv U5 U3 rfl) fun a hF=>q_y (v:=(iV (w64 (n_9 + (w64 t_10))))) hF hS (ex_ibin rfl rfl rfl) fun a hF=>q_s hF rfl fun a hF=>q_end (n_sq (q_ret ?_))
    obtain rfl:=someI hr
    exact ret_of hF hS rfl (.tmp rfl .nil) rfl

theorem c_math_bits_Len (p_x : K .u64) (r : Int) (hr : math_bits_Len p_x = some r) (w0 : World) (m : Mem) (hv : Vis m w0) :
  Ret Tryz.prog 59 [(.int .u64 p_x.v)] w0 (fun v _=>v = (iV r)):=by
 unfold math_bits_Len at hr
 refine ret_start Tryz.func59 rfl 8 rfl rfl m hv fun a hF hS=>q_sr (q_s hF rfl fun a hF=>q_end (n_sq (q_seq (q_cond_f hF rfl rfl (q_skipc (n_sq (q_sr (q_m hF rfl fun a hF=>?_))))))))
 obtain ⟨t_1,ht_1,hr⟩:=bindS hr
 refine q_call (vs:=[(.int .u64 p_x.v)]) hF hS Tryz.func86 (by kernel_rfl) rfl rfl rfl (c_math_bits_Len64 p_x t_1 ht_1 _ m hS.vis) ?_
 rintro a w _ rfl hF hS
 refine q_s hF rfl fun a hF=>q_end (n_sq (q_ret ?_))
 obtain rfl:=someI hr
 exact ret_of hF hS rfl (.tmp rfl .nil) rfl

theorem c_slices_nextPowerOfTwo (p_length : Int) (r : (K .u64)) (hr : slices_nextPowerOfTwo p_length = some r) (w0 : World) (m : Mem) (hv : Vis m w0) :
  Ret Tryz.prog 98 [(iV p_length)] w0 (fun v _=>v = (.int .u64 r.v)):=by
 unfold slices_nextPowerOfTwo at hr
 refine ret_start Tryz.func98 rfl 7 rfl rfl m hv fun a hF hS=>q_sr (q_s hF rfl fun a hF=>q_end (n_sq (q_sr (q_m hF rfl fun a hF=>q_y (v:=(.int .u64 (IntKind.wrap .u64 p_length))) hF hS (ex_conv U3 U59 rfl) fun a hF=>?_))))
 obtain ⟨t_1,ht_1,hr⟩:=bindS hr
 refine q_call (vs:=[(.int .u64 (IntKind.wrap .u64 p_length))]) hF hS Tryz.func59 (by kernel_rfl) rfl rfl rfl (c_math_bits_Len (⟨(IntKind.wrap .u64 p_length)⟩ : K .u64) t_1 ht_1 _ m hS.vis) ?_
 rintro a w _ rfl hF hS
 obtain ⟨t_2,ht_2,hr⟩:=bindS hr
 refine q_y (v:=(.int .u64 t_2)) hF hS (ex_shl rfl rfl ht_2) fun a hF=>q_s hF rfl fun a hF=>q_end (n_sq (q_ret ?_))
 obtain rfl:=someI hr
 exact ret_of hF hS rfl (.tmp rfl .nil) rfl

theorem c_impl_LeastPlan (p_x : List (List Int)) (p_primary : List (List Int)) (p_down : Int) (p_up : Int) (r : impl_Plan × Bool) (hr : impl_LeastPlan p_x p_primary p_down p_up = some r) (w0 : World) (m : Mem) (hv : Vis m w0) (s1 : Sl) (h1 : Rd m s1 p_x) (s2 : Sl) (h2 : Rd m s2 p_primary) :
  Ret Tryz.prog 5 [s1.v,s2.v,(iV p_down),(iV p_up)] w0 (fun v w=>∃ (m' : Mem) (q0' : Piece) (s0' : Sl),v = (.tuple #[(.agg #[s0'.v,(iV r.1.Added),(iV r.1.Value)]),(.bool r.2)])∧MLe [] w0.heap.size m m'∧St [] w0 w m' [q0']∧OwnD m' 48 3 q0' s0' r.1.Pattern):=by
 unfold impl_LeastPlan at hr
 refine ret_start Tryz.func5 rfl 104 rfl rfl m hv fun a hF hS=>q_sr (q_alloc (cs:=[nilS.v,(iV 0),(iV 0)]) hF hS rfl rfl rfl fun a w b3 hF hS=>q_s hF rfl fun a hF=>q_end (n_sq (q_seq (q_seq ?_))))
 obtain ⟨t_6,hj1,hr⟩:=bindS hr
 refine q_join (fun a w=>Fr a 104 [(0,s1.v),(1,s2.v),(2,(iV p_down)),(3,(iV p_up)),(8,(pP b3 0)),(28,(.bool t_6))]∧St [] w0 w m [[⟨b3,[nilS.v,(iV 0),(iV 0)],27⟩]]) ?_ ?_
 ·refine q_region (q_m hF rfl fun a hF=>q_m hF rfl fun a hF=>?_)
  obtain ⟨t_4,ht_4,hj1⟩:=bindS hj1
  refine q_call (vs:=[s1.v,s2.v]) hF hS Tryz.func15 (by kernel_rfl) rfl rfl rfl (c_impl_areSuppressed p_x p_primary t_4 ht_4 _ m hS.vis s1 h1 s2 h2) ?_
  rintro a w _ rfl hF hS
  refine q_y (v:=(.bool (!t_4))) hF hS (ex_not rfl) fun a hF=>q_m hF rfl fun a hF=>?_
  rcases bcase (!t_4) with hc2 | hc2
  ·have hj1:=cond_f hc2 hj1
   refine q_g (v:=(iV p_down)) hF hS (ex_move rfl) hc2 fun a hF=>q_g (v:=(iV p_up)) hF hS (ex_move rfl) hc2 fun a hF=>?_
   obtain ⟨t_5,ht_5,hj1⟩:=bindS hj1
   refine q_callg (vs:=[(iV p_down),(iV p_up)]) hF hS (wanted_t hF rfl rfl rfl hc2) Tryz.func16 (by kernel_rfl) rfl rfl rfl (c_impl_areMargins p_down p_up t_5 ht_5 _ m hS.vis) ?_
   rintro a w _ rfl hF hS
   refine q_g (v:=(.bool (!t_5))) hF hS (ex_not rfl) hc2 fun a hF=>q_y (v:=(.bool (!t_5))) hF hS (ex_pick_f rfl rfl hc2) fun a hF=>q_end (n_jn ?_)
   obtain rfl:=someI hj1
   exact ⟨hF.sub ⟨rfl,rfl,rfl,rfl,rfl,rfl,trivial⟩,hS⟩
  ·have hj1:=cond_t hc2 hj1
   refine q_k hF hc2 fun a hF=>q_k hF hc2 fun a hF=>q_k hF hc2 fun a hF=>q_k hF hc2 fun a hF=>q_y (v:=(.bool true)) hF hS (ex_pick_t rfl rfl hc2) fun a hF=>q_end (n_jn ?_)
   obtain rfl:=someI hj1
   exact ⟨hF.sub ⟨rfl,rfl,rfl,rfl,rfl,rfl,trivial⟩,hS⟩
 ·rintro a w ⟨hF,hS⟩
  refine n_sq ?_
  rcases bcase (t_6) with hc3 | hc3
  ·have hr:=cond_f hc3 hr
   refine q_cond_f hF rfl hc3 (q_skipc (n_sq (q_sr (q_m hF rfl fun a hF=>?_))))
   obtain ⟨t_7,ht_7,hr⟩:=bindS hr
   refine q_call (vs:=[s2.v]) hF hS Tryz.func17 (by kernel_rfl) rfl rfl rfl (c_impl_freeCells p_primary t_7 ht_7 _ m hS.vis s2 h2) ?_
   have hT:=hS
   rintro a w _ ⟨m8,q9,s9,rfl,hm8,hR8,h9⟩ hF hS2
   have hS : St _ _ _ _ [q9,[⟨b3,[nilS.v,(iV 0),(iV 0)],27⟩]]:=hS.join hR8 hm8
   have hm8:=MLe.weakX (O0:=[]) hT hm8
   refine q_s hF rfl fun a hF=>q_end (n_sq (q_seq (q_seq ?_)))
   obtain ⟨t_16,hj4,hr⟩:=bindS hr
   refine q_join (fun a w=>Fr a 104 [(0,s1.v),(1,s2.v),(2,(iV p_down)),(3,(iV p_up)),(8,(pP b3 0)),(10,s9.v),(45,(.bool t_16))]∧St [] w0 w m8 [q9,[⟨b3,[nilS.v,(iV 0),(iV 0)],27⟩]]) ?_ ?_
   ·refine q_region (q_m hF rfl fun a hF=>q_y (v:=(iV (goLen t_7))) hF hS (ex_len U23 rfl h9.len) fun a hF=>q_y (v:=(.bool (decide (10 < (goLen t_7))))) hF hS (ex_ibin rfl rfl rfl) fun a hF=>q_m hF rfl fun a hF=>?_)
    rcases bcase (decide (10 < (goLen t_7))) with hc5 | hc5
    ·have hj4:=cond_f hc5 hj4
     refine q_g (v:=s1.v) hF hS (ex_move rfl) hc5 fun a hF=>q_g (v:=s2.v) hF hS (ex_move rfl) hc5 fun a hF=>q_g (v:=s9.v) hF hS (ex_move rfl) hc5 fun a hF=>?_
     obtain ⟨m11,hl11,hv11,hz11⟩:=hS.lend
     obtain ⟨t_10,ht_10,hj4⟩:=bindS hj4
     refine q_callg (vs:=[s2.v,s9.v]) hF hS (wanted_t hF rfl rfl rfl hc5) Tryz.func19 (by kernel_rfl) rfl rfl rfl (c_impl_with p_primary t_7 t_10 ht_10 _ m11 hv11 s2 ((h2.mono hm8.le).mono hl11) s9 (h9.froz hl11 (hz11 0 _ rfl))) ?_
     rintro a w _ ⟨q13,s13,rfl,hR12,h13⟩ hF hS2
     have hS : St _ _ _ _ [q13,q9,[⟨b3,[nilS.v,(iV 0),(iV 0)],27⟩]]:=hS.joinF hR12
     have h13:=h13.any m8
     refine q_g (v:=s2.v) hF hS (ex_move rfl) hc5 fun a hF=>q_g (v:=(iV p_down)) hF hS (ex_move rfl) hc5 fun a hF=>q_g (v:=(iV p_up)) hF hS (ex_move rfl) hc5 fun a hF=>?_
     obtain ⟨m15,hl15,hv15,hz15⟩:=hS.lend
     obtain ⟨t_14,ht_14,hj4⟩:=bindS hj4
     refine q_callg (vs:=[s1.v,s13.v,s2.v,(iV p_down),(iV p_up)]) hF hS (wanted_t hF rfl rfl rfl hc5) Tryz.func18 (by kernel_rfl) rfl rfl rfl (c_impl_protects p_x t_10 p_primary p_down p_up t_14 ht_14 _ m15 hv15 s1 ((h1.mono hm8.le).mono hl15) s13 (h13.froz hl15 (hz15 0 _ rfl)) s2 ((h2.mono hm8.le).mono hl15)) ?_
     rintro a w _ rfl hF hS
     refine q_g (v:=(.bool (!t_14))) hF hS (ex_not rfl) hc5 fun a hF=>q_y (v:=(.bool (!t_14))) hF hS (ex_pick_f rfl rfl hc5) fun a hF=>q_end (n_jn ?_)
     obtain rfl:=someI hj4
     exact ⟨hF.sub ⟨rfl,rfl,rfl,rfl,rfl,rfl,rfl,trivial⟩,hS.mask [false,true,true]⟩
    ·have hj4:=cond_t hc5 hj4
     refine q_k hF hc5 fun a hF=>q_k hF hc5 fun a hF=>q_k hF hc5 fun a hF=>q_k hF hc5 fun a hF=>q_k hF hc5 fun a hF=>q_k hF hc5 fun a hF=>q_k hF hc5 fun a hF=>q_k hF hc5 fun a hF=>q_k hF hc5 fun a hF=>q_y (v:=(.bool true)) hF hS (ex_pick_t rfl rfl hc5) fun a hF=>q_end (n_jn ?_)
     obtain rfl:=someI hj4
     exact ⟨hF.sub ⟨rfl,rfl,rfl,rfl,rfl,rfl,rfl,trivial⟩,hS⟩
   ·rintro a w ⟨hF,hS⟩
    refine n_sq ?_
    rcases bcase (t_16) with hc6 | hc6
    ·have hr:=cond_f hc6 hr
     refine q_cond_f hF rfl hc6 (q_skipc (n_sq (q_sr (q_s hF rfl fun a hF=>q_end (n_sq (q_seq (q_sr (q_m hF rfl fun a hF=>q_y (v:=(iV (goLen t_7))) hF hS (ex_len U23 rfl h9.len) fun a hF=>?_))))))))
     obtain ⟨t_17,ht_17,hr⟩:=bindS hr
     refine q_y (v:=(iV t_17)) hF hS (ex_shl rfl rfl ht_17) fun a hF=>q_m hF rfl fun a hF=>q_end (n_sq (q_block ?_))
     obtain ⟨choices_44,hl7,hr⟩:=bindS hr
     refine q_loop (fun (s : (List impl_choice) × Int) a w=>∃ (m21 : Mem),∃ (q19 : Piece),∃ (s19 : Sl),∃ choices_18,∃ t_20,s = (choices_18,t_20)∧Fr a 104 [(0,s1.v),(1,s2.v),(2,(iV p_down)),(3,(iV p_up)),(8,(pP b3 0)),(10,s9.v),(11,s19.v),(49,(iV t_17)),(50,(iV t_20))]∧St [] w0 w m21 [q19,q9,[⟨b3,[nilS.v,(iV 0),(iV 0)],27⟩]]∧MLe [] w0.heap.size m8 m21∧OwnL m21 52 q19 s19 choices_18) (fun (choices_44 : (List impl_choice)) e a w=>∃ (m46 : Mem),∃ (q45 : Piece),∃ (s45 : Sl),e = .exit 0∧Fr a 104 [(0,s1.v),(1,s2.v),(2,(iV p_down)),(3,(iV p_up)),(8,(pP b3 0)),(11,s45.v)]∧St [] w0 w m46 [q45,[⟨b3,[nilS.v,(iV 0),(iV 0)],27⟩]]∧MLe [] w0.heap.size m8 m46∧OwnL m46 52 q45 s45 choices_44) hl7 ⟨m8,[],nilS,_,_,rfl,hF.sub ⟨rfl,rfl,rfl,rfl,rfl,rfl,rfl,rfl,rfl,trivial⟩,hS.sel [2,0,1] (by decide),(MLe.refl _ _),(OwnL.nil (α:=impl_choice) m8 52)⟩ ?_ ?_
     ·clear hF hS
      rintro s a w st ⟨m21,q19,s19,choices_18,t_20,rfl,hF,hS,hm21,h19⟩ hb7
      unfold impl_LeastPlan_l1 at hb7
      refine q_sr (q_y (v:=(.bool (decide (t_20 < t_17)))) hF hS (ex_ibin rfl rfl rfl) fun a hF=>q_end (n_sq (q_seq ?_)))
      rcases bcase (decide (t_20 < t_17)) with hc8 | hc8
      ·have hb7:=cond_f hc8 hb7
       refine q_cond_f hF rfl hc8 (q_exit (x_sq ?_))
       obtain rfl:=someI hb7
       exact ⟨nofun,.inl ⟨m21,q19,s19,rfl,hF.sub ⟨rfl,rfl,rfl,rfl,rfl,rfl,trivial⟩,hS.mask [true,false,true],hm21,h19⟩⟩
      ·have hb7:=cond_t hc8 hb7
       refine q_cond_t hF rfl hc8 (q_skipc (n_sq (q_seq (q_block (q_sr (q_m hF rfl fun a hF=>q_s hF rfl fun a hF=>q_end (n_sq (q_sr (q_s hF rfl fun a hF=>q_end (n_sq (q_seq (q_sr (q_m hF rfl fun a hF=>?_)))))))))))))
       obtain ⟨t_22,ht_22,hb7⟩:=bindS hb7
       refine q_call (vs:=[(iV t_20)]) hF hS Tryz.func20 (by kernel_rfl) rfl rfl rfl (c_impl_membersOf t_20 t_22 ht_22 _ m21 hS.vis) ?_
       rintro a w _ ⟨q24,s24,rfl,hR23,h24⟩ hF hS2
       have hS : St _ _ _ _ [q24,q19,q9,[⟨b3,[nilS.v,(iV 0),(iV 0)],27⟩]]:=hS.joinF hR23
       refine q_y (v:=(iV (goLen t_22))) hF hS (ex_len U48 rfl h24.len) fun a hF=>q_m hF rfl fun a hF=>q_end (n_sq (q_block ?_))
       obtain ⟨cells_36,hl9,hb7⟩:=bindS hb7
       refine q_loop (fun (s : (List (List Int)) × Int) a w=>∃ (q26 : Piece),∃ (s26 : Sl),∃ cells_25,∃ t_27,s = (cells_25,t_27)∧Fr a 104 [(0,s1.v),(1,s2.v),(2,(iV p_down)),(3,(iV p_up)),(8,(pP b3 0)),(10,s9.v),(11,s19.v),(13,s26.v),(49,(iV t_17)),(50,(iV t_20)),(54,s24.v),(55,(iV (goLen t_22))),(56,(iV t_27))]∧St [] w0 w m21 [q26,q24,q19,q9,[⟨b3,[nilS.v,(iV 0),(iV 0)],27⟩]]∧OwnL m21 48 q26 s26 cells_25) (fun (cells_36 : (List (List Int))) e a w=>∃ (q37 : Piece),∃ (s37 : Sl),e = .exit 2∧Fr a 104 [(0,s1.v),(1,s2.v),(2,(iV p_down)),(3,(iV p_up)),(8,(pP b3 0)),(10,s9.v),(11,s19.v),(13,s37.v),(49,(iV t_17)),(50,(iV t_20))]∧St [] w0 w m21 [q9,q19,q37,[⟨b3,[nilS.v,(iV 0),(iV 0)],27⟩]]∧OwnL m21 48 q37 s37 cells_36) hl9 ⟨[],nilS,_,_,rfl,hF.sub ⟨rfl,rfl,rfl,rfl,rfl,rfl,rfl,rfl,rfl,rfl,rfl,rfl,rfl,trivial⟩,hS.sel [4,0,1,2,3] (by decide),(OwnL.nil (α:=List Int) m21 48)⟩ ?_ ?_
       ·clear hF hS
        rintro s a w st ⟨q26,s26,cells_25,t_27,rfl,hF,hS,h26⟩ hb9
        unfold impl_LeastPlan_l2 at hb9
        refine q_sr (q_y (v:=(.bool (decide (t_27 < (goLen t_22))))) hF hS (ex_ibin rfl rfl rfl) fun a hF=>q_end (n_sq (q_seq ?_)))
        rcases bcase (decide (t_27 < (goLen t_22))) with hc10 | hc10
        ·have hb9:=cond_f hc10 hb9
         refine q_cond_f hF rfl hc10 (q_exit (x_sq ?_))
         obtain rfl:=someI hb9
         exact ⟨nofun,.inl ⟨q26,s26,rfl,hF.sub ⟨rfl,rfl,rfl,rfl,rfl,rfl,rfl,rfl,rfl,rfl,trivial⟩,hS.sel [3,2,0,4] (by decide),h26⟩⟩
        ·have hb9:=cond_t hc10 hb9
         refine q_cond_t hF rfl hc10 (q_skipc (n_sq (q_seq (q_block (q_seq (q_region ?_))))))
         obtain ⟨e_28,he_28,hb9⟩:=bindS hb9
         obtain ⟨vs29,at29,d29⟩:=h24.at he_28 1 rfl
         obtain rfl : vs29 = [(iV e_28)]:=d29
         refine q_y (v:=(elP s24 (t_27.toNat * 1))) hF hS (ex_indexAddr U48 sz3 rfl rfl (h24.idx he_28)) fun a hF=>q_y (v:=(iV e_28)) hF hS (ex_loadE1 0 U3 rfl rfl (at29.at 1 rfl) rfl rfl) fun a hF=>q_s hF rfl fun a hF=>q_end (n_sq (q_region (q_m hF rfl fun a hF=>q_m hF rfl fun a hF=>q_m hF rfl fun a hF=>?_)))
         obtain ⟨e_30,he_30,hb9⟩:=bindS hb9
         obtain ⟨vs31,at31,d31⟩:=(h9.mono hm21.le).at he_30 1 rfl
         obtain ⟨s32,rfl,h32⟩ : ∃ s32 : Sl,vs31 = [s32.v]∧Rd m21 s32 e_30:=d31
         refine q_y (v:=(elP s9 (e_28.toNat * 1))) hF hS (ex_indexAddr U23 sz48 rfl rfl ((h9.mono hm21.le).idx he_30)) fun a hF=>q_y (v:=s32.v) hF hS (ex_loadE1 0 U48 rfl rfl (at31.at 3 rfl) rfl rfl) fun a hF=>q_do rfl fun _ hK=>wp_buildSlice' (l:=([e_30] : List (List Int))) (cells:=[s32.v]) hF hS U23 inf48 rfl rfl (by kernel_rfl) rfl rfl rfl ⟨⟨s32,rfl,h32⟩,rfl⟩ rfl rfl fun a w q33 s33 hF hS h33 _=>hK _ _ ?_
         have hS : St _ _ _ _ [q26,q33,q24,q19,q9,[⟨b3,[nilS.v,(iV 0),(iV 0)],27⟩]]:=hS.sel [1,0,2,3,4,5] (by decide)
         obtain ⟨l_34,hl_34,hb9⟩:=bindS hb9
         refine q_do rfl fun _ hK=>wp_append hF hS h26 U23 inf48 rfl rfl rfl rfl (h33.vw hS (j:=1) rfl) rfl (by decide) hl_34 rfl fun a w q35 s35 hF hS h35=>hK _ _ (q_s hF rfl fun a hF=>q_end (n_ib (n_sq (q_region (q_y (v:=(iV (w64 (t_27 + 1)))) hF hS (ex_ibin rfl rfl rfl) fun a hF=>q_m hF rfl fun a hF=>q_end ?_)))))
         obtain rfl:=someI hb9
         exact ⟨rfl,q35,s35,_,_,rfl,hF.sub ⟨rfl,rfl,rfl,rfl,rfl,rfl,rfl,rfl,rfl,rfl,rfl,rfl,rfl,trivial⟩,hS.mask [true,false,true,true,true,true],h35⟩
       ·rintro e a w ⟨q37,s37,rfl,hF,hS,h37⟩
        refine x_ib (n_sq ?_)
        refine q_region (q_m hF rfl fun a hF=>q_m hF rfl fun a hF=>q_m hF rfl fun a hF=>q_m hF rfl fun a hF=>?_)
        obtain ⟨m39,hl39,hv39,hz39⟩:=hS.lend
        obtain ⟨t_38,ht_38,hb7⟩:=bindS hb7
        refine q_call (vs:=[s1.v,s37.v]) hF hS Tryz.func21 (by kernel_rfl) rfl rfl rfl (c_impl_valueOfCells p_x cells_36 t_38 ht_38 _ m39 hv39 s1 (((h1.mono hm8.le).mono hm21.le).mono hl39) s37 (h37.froz hl39 (hz39 2 _ rfl))) ?_
        rintro a w _ rfl hF hS
        refine q_y (v:=(.agg #[s37.v,(iV t_38)])) hF hS (ex_build (cells:=[s37.v,(iV t_38)]) rfl (by kernel_rfl)) fun a hF=>?_
        have hS : St _ _ _ _ [q37,q9,q19,[⟨b3,[nilS.v,(iV 0),(iV 0)],27⟩]]:=hS.sel [2,0,1,3] (by decide)
        obtain ⟨m41,hm41,hS,hz41⟩:=hS.freeze
        have h41:=h37.froz hm41.le hz41
        refine q_do rfl fun _ hK=>wp_buildSlice' (l:=([(impl_choice.mk cells_36 t_38)] : List impl_choice)) (cells:=[s37.v,(iV t_38)]) hF hS U47 inf52 rfl rfl (by kernel_rfl) rfl rfl rfl ⟨⟨s37,rfl,h41⟩,rfl⟩ rfl rfl fun a w q40 s40 hF hS h40 _=>hK _ _ ?_
        have hS : St _ _ _ _ [q19,q40,q9,[⟨b3,[nilS.v,(iV 0),(iV 0)],27⟩]]:=hS.sel [2,0,1,3] (by decide)
        obtain ⟨l_42,hl_42,hb7⟩:=bindS hb7
        refine q_do rfl fun _ hK=>wp_append hF hS (h19.mono hm41.le) U47 inf52 rfl rfl rfl rfl (h40.vw hS (j:=1) rfl) rfl (by decide) hl_42 rfl fun a w q43 s43 hF hS h43=>hK _ _ (q_s hF rfl fun a hF=>q_end (n_ib (n_sq (q_region (q_y (v:=(iV (w64 (t_20 + 1)))) hF hS (ex_ibin rfl rfl rfl) fun a hF=>q_m hF rfl fun a hF=>q_end ?_)))))
        obtain rfl:=someI hb7
        exact ⟨rfl,m41,q43,s43,_,_,rfl,hF.sub ⟨rfl,rfl,rfl,rfl,rfl,rfl,rfl,rfl,rfl,trivial⟩,hS.mask [true,false,true,true],(hm21.trans hm41),h43⟩
     ·rintro e a w ⟨m46,q45,s45,rfl,hF,hS,hm46,h45⟩
      refine x_ib (n_sq ?_)
      refine q_sr (q_m hF rfl fun a hF=>?_)
      have hS47 : St _ _ _ _ ([q45]++[[⟨b3,[nilS.v,(iV 0),(iV 0)],27⟩]]):=hS
      have hE47:=hS47.enter
      obtain ⟨t_48,ht_48,hr⟩:=bindS hr
      refine q_do rfl fun _ hK=>wp_callX (vs:=[s45.v,(.func (.func 23) #[] #[])]) hF Tryz.func22 (by kernel_rfl) rfl rfl rfl (c_slices_SortFunc_C choices_44 t_48 ht_48 _ m46 s45 q45 h45 _ hE47) fun a w _ hR hF=>hK _ _ ?_
      obtain ⟨q49,rfl,hR47,h49⟩:=hR
      have hS : St _ _ _ _ [q49,[⟨b3,[nilS.v,(iV 0),(iV 0)],27⟩]]:=hS47.leaveF hR47
      refine q_end (n_sq (q_seq (q_sr (q_m hF rfl fun a hF=>q_y (v:=(iV (goLen t_48))) hF hS (ex_len U47 rfl h49.len) fun a hF=>q_m hF rfl fun a hF=>q_end (n_sq (q_block ?_))))))
      obtain ⟨o11,hl11,hr⟩:=bindS hr
      refine q_loop (fun (t_50 : Int) a w=>Fr a 104 [(0,s1.v),(1,s2.v),(2,(iV p_down)),(3,(iV p_up)),(8,(pP b3 0)),(79,s45.v),(80,(iV (goLen t_48))),(81,(iV t_50))]∧St [] w0 w m46 [q49,[⟨b3,[nilS.v,(iV 0),(iV 0)],27⟩]]) (fun (o : (Unit) ⊕ (impl_Plan × Bool)) e a w=>o = .inl ()∧e = .exit 4∧Fr a 104 [(8,(pP b3 0))]∧St [] w0 w m46 [[⟨b3,[nilS.v,(iV 0),(iV 0)],27⟩]]) hl11 ⟨hF.sub ⟨rfl,rfl,rfl,rfl,rfl,rfl,rfl,rfl,trivial⟩,hS⟩ ?_ ?_
      ·clear hF hS
       rintro t_50 a w st ⟨hF,hS⟩ hb11
       unfold impl_LeastPlan_l3 at hb11
       refine q_sr (q_y (v:=(.bool (decide (t_50 < (goLen t_48))))) hF hS (ex_ibin rfl rfl rfl) fun a hF=>q_end (n_sq (q_seq ?_)))
       rcases bcase (decide (t_50 < (goLen t_48))) with hc12 | hc12
       ·have hb11:=cond_f hc12 hb11
        refine q_cond_f hF rfl hc12 (q_exit (x_sq ?_))
        obtain rfl:=someI hb11
        exact ⟨nofun,.inl ⟨rfl,rfl,hF.sub ⟨rfl,trivial⟩,hS.mask [false,true]⟩⟩
       ·have hb11:=cond_t hc12 hb11
        refine q_cond_t hF rfl hc12 (q_skipc (n_sq (q_seq (q_block (q_seq (q_region ?_))))))
        obtain ⟨e_51,he_51,hb11⟩:=bindS hb11
        obtain ⟨vs52,at52,d52⟩:=h49.at he_51 2 rfl
        obtain ⟨s53,rfl,h53⟩ : ∃ s53 : Sl,vs52 = [s53.v,(iV e_51.value)]∧Rd m46 s53 e_51.cells:=d52
        refine q_y (v:=(elP s45 (t_50.toNat * 2))) hF hS (ex_indexAddr U47 sz52 rfl rfl (h49.idx he_51)) fun a hF=>q_y (v:=(.agg #[s53.v,(iV e_51.value)])) hF hS (ex_loadEA (us:=[s53.v,(iV e_51.value)]) 0 U52 rfl sz52 rfl (at52.at 0 rfl) rfl rfl rfl) fun a hF=>q_alloc (cs:=[nilS.v,(iV 0)]) hF hS rfl rfl rfl fun a w b54 hF hS=>q_store (vs:=[s53.v,(iV e_51.value)]) (cs':=[s53.v,(iV e_51.value)]) 0 0 hF hS sz52 rfl rfl rfl rfl rfl rfl rfl rfl fun a w hF hS=>q_end (n_sq (q_sr (q_m hF rfl fun a hF=>q_y (v:=(pP b54 0)) hF hS (ex_fieldAddr U52 rfl sz23 rfl rfl) fun a hF=>q_y (v:=s53.v) hF hS (ex_load1 0 0 U23 rfl rfl rfl rfl) fun a hF=>?_)))
        obtain ⟨t_55,ht_55,hb11⟩:=bindS hb11
        refine q_call (vs:=[s2.v,s53.v]) hF hS Tryz.func19 (by kernel_rfl) rfl rfl rfl (c_impl_with p_primary e_51.cells t_55 ht_55 _ m46 hS.vis s2 ((h2.mono hm8.le).mono hm46.le) s53 h53) ?_
        rintro a w _ ⟨q57,s57,rfl,hR56,h57⟩ hF hS2
        have hS : St _ _ _ _ [q57,[⟨b54,[s53.v,(iV e_51.value)],52⟩],q49,[⟨b3,[nilS.v,(iV 0),(iV 0)],27⟩]]:=hS.joinF hR56
        refine q_s hF rfl fun a hF=>q_end (n_sq (q_sr (q_m hF rfl fun a hF=>q_m hF rfl fun a hF=>q_m hF rfl fun a hF=>q_m hF rfl fun a hF=>q_m hF rfl fun a hF=>?_)))
        obtain ⟨m59,hl59,hv59,hz59⟩:=hS.lend
        obtain ⟨t_58,ht_58,hb11⟩:=bindS hb11
        refine q_call (vs:=[s1.v,s57.v,s2.v,(iV p_down),(iV p_up)]) hF hS Tryz.func18 (by kernel_rfl) rfl rfl rfl (c_impl_protects p_x t_55 p_primary p_down p_up t_58 ht_58 _ m59 hv59 s1 (((h1.mono hm8.le).mono hm46.le).mono hl59) s57 (h57.froz hl59 (hz59 0 _ rfl)) s2 (((h2.mono hm8.le).mono hm46.le).mono hl59)) ?_
        rintro a w _ rfl hF hS
        refine q_end (n_sq ?_)
        rcases bcase (t_58) with hc13 | hc13
        ·have hb11:=cond_f hc13 hb11
         refine q_cond_f hF rfl hc13 (q_skipc (n_ib (n_sq (q_region (q_y (v:=(iV (w64 (t_50 + 1)))) hF hS (ex_ibin rfl rfl rfl) fun a hF=>q_m hF rfl fun a hF=>q_end ?_)))))
         obtain rfl:=someI hb11
         exact ⟨rfl,hF.sub ⟨rfl,rfl,rfl,rfl,rfl,rfl,rfl,rfl,trivial⟩,hS.mask [false,false,true,true]⟩
        ·have hb11:=cond_t hc13 hb11
         refine q_cond_t hF rfl hc13 (q_sr (q_m hF rfl fun a hF=>q_y (v:=(pP b54 0)) hF hS (ex_fieldAddr U52 rfl sz23 rfl rfl) fun a hF=>q_y (v:=s53.v) hF hS (ex_load1 1 0 U23 rfl rfl rfl rfl) fun a hF=>q_y (v:=(iV (goLen e_51.cells))) hF hS (ex_len U23 rfl h53.len) fun a hF=>q_y (v:=(pP b54 1)) hF hS (ex_fieldAddr U52 rfl sz3 rfl rfl) fun a hF=>q_y (v:=(iV e_51.value)) hF hS (ex_load1 1 0 U3 rfl rfl rfl rfl) fun a hF=>q_y (v:=(.agg #[s57.v,(iV (goLen e_51.cells)),(iV e_51.value)])) hF hS (ex_build (cells:=[s57.v,(iV (goLen e_51.cells)),(iV e_51.value)]) rfl (by kernel_rfl)) fun a hF=>q_store (vs:=[s57.v,(iV (goLen e_51.cells)),(iV e_51.value)]) (cs':=[s57.v,(iV (goLen e_51.cells)),(iV e_51.value)]) 3 0 hF hS sz27 rfl rfl rfl rfl rfl rfl rfl rfl fun a w hF hS=>q_s hF rfl fun a hF=>q_end (n_sq (q_ret (r_ib (r_sq ?_))))))
         obtain rfl:=someI hb11
         refine ⟨nofun,.inr fun ho=>?_⟩
         subst ho
         refine r_ib (r_sq ?_)
         obtain rfl:=someI hr
         exact ret_of hF hS rfl (.cellA (us:=[s57.v,(iV (goLen e_51.cells)),(iV e_51.value)]) 3 0 U27 rfl sz27 rfl rfl rfl rfl (.tmp rfl .nil)) ⟨m46,q57,s57,rfl,(hm8.trans hm46),hS.sel [0] (by decide),h57⟩
      ·rintro e a w ⟨rfl,rfl,hF,hS⟩
       refine x_ib (n_sq ?_)
       refine q_sr (q_y (v:=(.agg #[nilS.v,(iV 0),(iV 0)])) hF hS (ex_build (cells:=[nilS.v,(iV 0),(iV 0)]) rfl (by kernel_rfl)) fun a hF=>q_store (vs:=[nilS.v,(iV 0),(iV 0)]) (cs':=[nilS.v,(iV 0),(iV 0)]) 0 0 hF hS sz27 rfl rfl rfl rfl rfl rfl rfl rfl fun a w hF hS=>q_s hF rfl fun a hF=>q_end (n_sq (q_ret ?_)))
       obtain rfl:=someI hr
       exact ret_of hF hS rfl (.cellA (us:=[nilS.v,(iV 0),(iV 0)]) 0 0 U27 rfl sz27 rfl rfl rfl rfl (.tmp rfl .nil)) ⟨m46,[],nilS,rfl,(hm8.trans hm46),hS.sel [1] (by decide),(OwnD.nil (β:=Int) m46 48 3)⟩
    ·have hr:=cond_t hc6 hr
     refine q_cond_t hF rfl hc6 (q_sr (q_y (v:=(.agg #[nilS.v,(iV 0),(iV 0)])) hF hS (ex_build (cells:=[nilS.v,(iV 0),(iV 0)]) rfl (by kernel_rfl)) fun a hF=>q_store (vs:=[nilS.v,(iV 0),(iV 0)]) (cs':=[nilS.v,(iV 0),(iV 0)]) 1 0 hF hS sz27 rfl rfl rfl rfl rfl rfl rfl rfl fun a w hF hS=>q_s hF rfl fun a hF=>q_end (n_sq (q_ret (r_sq ?_)))))
     obtain rfl:=someI hr
     exact ret_of hF hS rfl (.cellA (us:=[nilS.v,(iV 0),(iV 0)]) 1 0 U27 rfl sz27 rfl rfl rfl rfl (.tmp rfl .nil)) ⟨m8,[],nilS,rfl,hm8,hS.sel [2] (by decide),(OwnD.nil (β:=Int) m8 48 3)⟩
  ·have hr:=cond_t hc3 hr
   refine q_cond_t hF rfl hc3 (q_sr (q_y (v:=(.agg #[nilS.v,(iV 0),(iV 0)])) hF hS (ex_build (cells:=[nilS.v,(iV 0),(iV 0)]) rfl (by kernel_rfl)) fun a hF=>q_store (vs:=[nilS.v,(iV 0),(iV 0)]) (cs':=[nilS.v,(iV 0),(iV 0)]) 0 0 hF hS sz27 rfl rfl rfl rfl rfl rfl rfl rfl fun a w hF hS=>q_s hF rfl fun a hF=>q_end (n_sq (q_ret (r_sq ?_)))))
   obtain rfl:=someI hr
   exact ret_of hF hS rfl (.cellA (us:=[nilS.v,(iV 0),(iV 0)]) 0 0 U27 rfl sz27 rfl rfl rfl rfl (.tmp rfl .nil)) ⟨m,[],nilS,rfl,(MLe.refl _ _),hS.sel [1] (by decide),(OwnD.nil (β:=Int) m 48 3)⟩

theorem c_spec_l1In (p_n : Int) (p_lo : Int) (p_hi : Int) (r : Bool) (hr : spec_l1In p_n p_lo p_hi = some r) (w0 : World) (m : Mem) (hv : Vis m w0) :
  Ret Tryz.prog 63 [(iV p_n),(iV p_lo),(iV p_hi)] w0 (fun v _=>v = (.bool r)):=by
 unfold spec_l1In at hr
 refine ret_start Tryz.func63 rfl 15 rfl rfl m hv fun a hF hS=>q_sr (q_s hF rfl fun a hF=>q_end (n_sq (q_seq ?_)))
 obtain ⟨t_1,hj1,hr⟩:=bindS hr
 refine q_join (fun a w=>Fr a 15 [(6,(.bool t_1))]∧St [] w0 w m []) ?_ ?_
 ·refine q_region (q_m hF rfl fun a hF=>q_m hF rfl fun a hF=>q_y (v:=(.bool (decide (p_lo ≤ p_n)))) hF hS (ex_ibin rfl rfl rfl) fun a hF=>q_m hF rfl fun a hF=>?_)
  rcases bcase (decide (p_lo ≤ p_n)) with hc2 | hc2
  ·have hj1:=cond_f hc2 hj1
   refine q_k hF hc2 fun a hF=>q_k hF hc2 fun a hF=>q_k hF hc2 fun a hF=>q_y (v:=(.bool false)) hF hS (ex_pick_f rfl rfl hc2) fun a hF=>q_s hF rfl fun a hF=>q_end (n_jn ?_)
   obtain rfl:=someI hj1
   exact ⟨hF.sub ⟨rfl,trivial⟩,hS⟩
  ·have hj1:=cond_t hc2 hj1
   refine q_g (v:=(iV p_n)) hF hS (ex_move rfl) hc2 fun a hF=>q_g (v:=(iV p_hi)) hF hS (ex_move rfl) hc2 fun a hF=>q_g (v:=(.bool (decide (p_n ≤ p_hi)))) hF hS (ex_ibin rfl rfl rfl) hc2 fun a hF=>q_y (v:=(.bool (decide (p_n ≤ p_hi)))) hF hS (ex_pick_t rfl rfl hc2) fun a hF=>q_s hF rfl fun a hF=>q_end (n_jn ?_)
   obtain rfl:=someI hj1
   exact ⟨hF.sub ⟨rfl,trivial⟩,hS⟩
 ·rintro a w ⟨hF,hS⟩
  refine n_sq (q_ret ?_)
  obtain rfl:=someI hr
  exact ret_of hF hS rfl (.tmp rfl .nil) rfl

theorem c_spec_l1All (p_l : List Int) (p_lo : Int) (p_hi : Int) (r : Bool) (hr : spec_l1All p_l p_lo p_hi = some r) (w0 : World) (m : Mem) (hv : Vis m w0) (s1 : Sl) (h1 : Rd m s1 p_l) :
  Ret Tryz.prog 87 [s1.v,(iV p_lo),(iV p_hi)] w0 (fun v _=>v = (.bool r)):=by
 unfold spec_l1All at hr
 refine ret_start Tryz.func87 rfl 21 rfl rfl m hv fun a hF hS=>q_sr (q_s hF rfl fun a hF=>q_end (n_sq (q_seq (q_sr (q_m hF rfl fun a hF=>q_y (v:=(iV (goLen p_l))) hF hS (ex_len U48 rfl h1.len) fun a hF=>q_m hF rfl fun a hF=>q_end (n_sq (q_block ?_)))))))
 obtain ⟨o1,hl1,hr⟩:=bindS hr
 refine q_loop (fun (t_2 : Int) a w=>Fr a 21 [(1,(iV p_lo)),(2,(iV p_hi)),(9,s1.v),(10,(iV (goLen p_l))),(11,(iV t_2))]∧St [] w0 w m []) (fun (o : (Unit) ⊕ (Bool)) e a w=>o = .inl ()∧e = .exit 0∧Fr a 21 []∧St [] w0 w m []) hl1 ⟨hF.sub ⟨rfl,rfl,rfl,rfl,rfl,trivial⟩,hS⟩ ?_ ?_
 ·clear hF hS
  rintro t_2 a w st ⟨hF,hS⟩ hb1
  unfold spec_l1All_l1 at hb1
  refine q_sr (q_y (v:=(.bool (decide (t_2 < (goLen p_l))))) hF hS (ex_ibin rfl rfl rfl) fun a hF=>q_end (n_sq (q_seq ?_)))
  rcases bcase (decide (t_2 < (goLen p_l))) with hc2 | hc2
  ·have hb1:=cond_f hc2 hb1
   refine q_cond_f hF rfl hc2 (q_exit (x_sq ?_))
   obtain rfl:=someI hb1
   exact ⟨nofun,.inl ⟨rfl,rfl,hF.sub trivial,hS⟩⟩
  ·have hb1:=cond_t hc2 hb1
   refine q_cond_t hF rfl hc2 (q_skipc (n_sq (q_seq (q_block (q_seq (q_region ?_))))))
   obtain ⟨e_3,he_3,hb1⟩:=bindS hb1
   obtain ⟨vs4,at4,d4⟩:=h1.at he_3 1 rfl
   obtain rfl : vs4 = [(iV e_3)]:=d4
   refine q_y (v:=(elP s1 (t_2.toNat * 1))) hF hS (ex_indexAddr U48 sz3 rfl rfl (h1.idx he_3)) fun a hF=>q_y (v:=(iV e_3)) hF hS (ex_loadE1 0 U3 rfl rfl ((at4).at) rfl rfl) fun a hF=>q_s hF rfl fun a hF=>q_end (n_sq (q_sr (q_m hF rfl fun a hF=>q_m hF rfl fun a hF=>q_m hF rfl fun a hF=>?_)))
   obtain ⟨t_5,ht_5,hb1⟩:=bindS hb1
   refine q_call (vs:=[(iV e_3),(iV p_lo),(iV p_hi)]) hF hS Tryz.func63 (by kernel_rfl) rfl rfl rfl (c_spec_l1In e_3 p_lo p_hi t_5 ht_5 _ m hS.vis) ?_
   rintro a w _ rfl hF hS
   refine q_y (v:=(.bool (!t_5))) hF hS (ex_not rfl) fun a hF=>q_end (n_sq ?_)
   rcases bcase (!t_5) with hc3 | hc3
   ·have hb1:=cond_f hc3 hb1
    refine q_cond_f hF rfl hc3 (q_skipc (n_ib (n_sq (q_region (q_y (v:=(iV (w64 (t_2 + 1)))) hF hS (ex_ibin rfl rfl rfl) fun a hF=>q_m hF rfl fun a hF=>q_end ?_)))))
    obtain rfl:=someI hb1
    exact ⟨rfl,hF.sub ⟨rfl,rfl,rfl,rfl,rfl,trivial⟩,hS⟩
   ·have hb1:=cond_t hc3 hb1
    refine q_cond_t hF rfl hc3 (q_sr (q_s hF rfl fun a hF=>q_end (n_sq (q_ret (r_ib (r_sq ?_))))))
    obtain rfl:=someI hb1
    refine ⟨nofun,.inr fun ho=>?_⟩
    subst ho
    refine r_ib (r_sq ?_)
    obtain rfl:=someI hr
    exact ret_of hF hS rfl (.tmp rfl .nil) rfl
 ·rintro e a w ⟨rfl,rfl,hF,hS⟩
  refine x_ib (n_sq ?_)
  refine q_sr (q_s hF rfl fun a hF=>q_end (n_sq (q_ret ?_)))
  obtain rfl:=someI hr
  exact ret_of hF hS rfl (.tmp rfl .nil) rfl

theorem c_spec_qForm (p_x : List (List Int)) (p_hi : Int) (r : Bool) (hr : spec_qForm p_x p_hi = some r) (w0 : World) (m : Mem) (hv : Vis m w0) (s1 : Sl) (h1 : Rd m s1 p_x) :
  Ret Tryz.prog 62 [s1.v,(iV p_hi)] w0 (fun v _=>v = (.bool r)):=by
 unfold spec_qForm at hr
 refine ret_start Tryz.func62 rfl 39 rfl rfl m hv fun a hF hS=>q_sr (q_s hF rfl fun a hF=>q_end (n_sq (q_seq (q_seq ?_))))
 obtain ⟨t_7,hj1,hr⟩:=bindS hr
 refine q_join (fun a w=>Fr a 39 [(0,s1.v),(1,(iV p_hi)),(18,(.bool t_7))]∧St [] w0 w m []) ?_ ?_
 ·refine q_region (q_m hF rfl fun a hF=>q_y (v:=(iV (goLen p_x))) hF hS (ex_len U23 rfl h1.len) fun a hF=>?_)
  obtain ⟨t_2,ht_2,hj1⟩:=bindS hj1
  refine q_call (vs:=[(iV (goLen p_x)),(iV 1),(iV 8)]) hF hS Tryz.func63 (by kernel_rfl) rfl rfl rfl (c_spec_l1In (goLen p_x) 1 8 t_2 ht_2 _ m hS.vis) ?_
  rintro a w _ rfl hF hS
  refine q_y (v:=(.bool (!t_2))) hF hS (ex_not rfl) fun a hF=>q_m hF rfl fun a hF=>?_
  rcases bcase (!t_2) with hc2 | hc2
  ·have hj1:=cond_f hc2 hj1
   refine q_g (v:=s1.v) hF hS (ex_move rfl) hc2 fun a hF=>?_
   obtain ⟨e_3,he_3,hj1⟩:=bindS hj1
   obtain ⟨vs4,at4,d4⟩:=h1.at he_3 1 rfl
   obtain ⟨s5,rfl,h5⟩ : ∃ s5 : Sl,vs4 = [s5.v]∧Rd m s5 e_3:=d4
   refine q_g (v:=(elP s1 ((0 : Int).toNat * 1))) hF hS (ex_indexAddr U23 sz48 rfl rfl (h1.idx he_3)) hc2 fun a hF=>q_g (v:=s5.v) hF hS (ex_loadE1 0 U48 rfl rfl ((at4).at) rfl rfl) hc2 fun a hF=>q_g (v:=(iV (goLen e_3))) hF hS (ex_len U48 rfl h5.len) hc2 fun a hF=>?_
   obtain ⟨t_6,ht_6,hj1⟩:=bindS hj1
   refine q_callg (vs:=[(iV (goLen e_3)),(iV 1),(iV 8)]) hF hS (wanted_t hF rfl rfl rfl hc2) Tryz.func63 (by kernel_rfl) rfl rfl rfl (c_spec_l1In (goLen e_3) 1 8 t_6 ht_6 _ m hS.vis) ?_
   rintro a w _ rfl hF hS
   refine q_g (v:=(.bool (!t_6))) hF hS (ex_not rfl) hc2 fun a hF=>q_y (v:=(.bool (!t_6))) hF hS (ex_pick_f rfl rfl hc2) fun a hF=>q_end (n_jn ?_)
   obtain rfl:=someI hj1
   exact ⟨hF.sub ⟨rfl,rfl,rfl,trivial⟩,hS⟩
  ·have hj1:=cond_t hc2 hj1
   refine q_k hF hc2 fun a hF=>q_k hF hc2 fun a hF=>q_k hF hc2 fun a hF=>q_k hF hc2 fun a hF=>q_k hF hc2 fun a hF=>q_k hF hc2 fun a hF=>q_y (v:=(.bool true)) hF hS (ex_pick_t rfl rfl hc2) fun a hF=>q_end (n_jn ?_)
   obtain rfl:=someI hj1
   exact ⟨hF.sub ⟨rfl,rfl,rfl,trivial⟩,hS⟩
 ·rintro a w ⟨hF,hS⟩
  refine n_sq ?_
  rcases bcase (t_7) with hc3 | hc3
  ·have hr:=cond_f hc3 hr
   refine q_cond_f hF rfl hc3 (q_skipc (n_sq (q_seq (q_sr (q_m hF rfl fun a hF=>q_y (v:=(iV (goLen p_x))) hF hS (ex_len U23 rfl h1.len) fun a hF=>q_m hF rfl fun a hF=>q_end (n_sq (q_block ?_)))))))
   obtain ⟨o4,hl4,hr⟩:=bindS hr
   refine q_loop (fun (t_8 : Int) a w=>Fr a 39 [(0,s1.v),(1,(iV p_hi)),(19,s1.v),(20,(iV (goLen p_x))),(21,(iV t_8))]∧St [] w0 w m []) (fun (o : (Unit) ⊕ (Bool)) e a w=>o = .inl ()∧e = .exit 0∧Fr a 39 []∧St [] w0 w m []) hl4 ⟨hF.sub ⟨rfl,rfl,rfl,rfl,rfl,trivial⟩,hS⟩ ?_ ?_
   ·clear hF hS
    rintro t_8 a w st ⟨hF,hS⟩ hb4
    unfold spec_qForm_l1 at hb4
    refine q_sr (q_y (v:=(.bool (decide (t_8 < (goLen p_x))))) hF hS (ex_ibin rfl rfl rfl) fun a hF=>q_end (n_sq (q_seq ?_)))
    rcases bcase (decide (t_8 < (goLen p_x))) with hc5 | hc5
    ·have hb4:=cond_f hc5 hb4
     refine q_cond_f hF rfl hc5 (q_exit (x_sq ?_))
     obtain rfl:=someI hb4
     exact ⟨nofun,.inl ⟨rfl,rfl,hF.sub trivial,hS⟩⟩
    ·have hb4:=cond_t hc5 hb4
     refine q_cond_t hF rfl hc5 (q_skipc (n_sq (q_seq (q_block (q_seq (q_region ?_))))))
     obtain ⟨e_9,he_9,hb4⟩:=bindS hb4
     obtain ⟨vs10,at10,d10⟩:=h1.at he_9 1 rfl
     obtain ⟨s11,rfl,h11⟩ : ∃ s11 : Sl,vs10 = [s11.v]∧Rd m s11 e_9:=d10
     refine q_y (v:=(elP s1 (t_8.toNat * 1))) hF hS (ex_indexAddr U23 sz48 rfl rfl (h1.idx he_9)) fun a hF=>q_y (v:=s11.v) hF hS (ex_loadE1 0 U48 rfl rfl ((at10).at) rfl rfl) fun a hF=>q_s hF rfl fun a hF=>q_end (n_sq (q_seq ?_))
     obtain ⟨t_16,hj6,hb4⟩:=bindS hb4
     refine q_join (fun a w=>Fr a 39 [(0,s1.v),(1,(iV p_hi)),(19,s1.v),(20,(iV (goLen p_x))),(21,(iV t_8)),(37,(.bool t_16))]∧St [] w0 w m []) ?_ ?_
     ·refine q_region (q_m hF rfl fun a hF=>q_y (v:=(iV (goLen e_9))) hF hS (ex_len U48 rfl h11.len) fun a hF=>q_m hF rfl fun a hF=>?_)
      obtain ⟨e_12,he_12,hj6⟩:=bindS hj6
      obtain ⟨vs13,at13,d13⟩:=h1.at he_12 1 rfl
      obtain ⟨s14,rfl,h14⟩ : ∃ s14 : Sl,vs13 = [s14.v]∧Rd m s14 e_12:=d13
      refine q_y (v:=(elP s1 ((0 : Int).toNat * 1))) hF hS (ex_indexAddr U23 sz48 rfl rfl (h1.idx he_12)) fun a hF=>q_y (v:=s14.v) hF hS (ex_loadE1 0 U48 rfl rfl ((at13).at) rfl rfl) fun a hF=>q_y (v:=(iV (goLen e_12))) hF hS (ex_len U48 rfl h14.len) fun a hF=>q_y (v:=(.bool ((goLen e_9) != (goLen e_12)))) hF hS (ex_ibin rfl rfl rfl) fun a hF=>q_m hF rfl fun a hF=>?_
      rcases bcase ((goLen e_9) != (goLen e_12)) with hc7 | hc7
      ·have hj6:=cond_f hc7 hj6
       refine q_g (v:=s11.v) hF hS (ex_move rfl) hc7 fun a hF=>q_g (v:=(iV p_hi)) hF hS (ex_move rfl) hc7 fun a hF=>?_
       obtain ⟨t_15,ht_15,hj6⟩:=bindS hj6
       refine q_callg (vs:=[s11.v,(iV 0),(iV p_hi)]) hF hS (wanted_t hF rfl rfl rfl hc7) Tryz.func87 (by kernel_rfl) rfl rfl rfl (c_spec_l1All e_9 0 p_hi t_15 ht_15 _ m hS.vis s11 h11) ?_
       rintro a w _ rfl hF hS
       refine q_g (v:=(.bool (!t_15))) hF hS (ex_not rfl) hc7 fun a hF=>q_y (v:=(.bool (!t_15))) hF hS (ex_pick_f rfl rfl hc7) fun a hF=>q_end (n_jn ?_)
       obtain rfl:=someI hj6
       exact ⟨hF.sub ⟨rfl,rfl,rfl,rfl,rfl,rfl,trivial⟩,hS⟩
      ·have hj6:=cond_t hc7 hj6
       refine q_k hF hc7 fun a hF=>q_k hF hc7 fun a hF=>q_k hF hc7 fun a hF=>q_k hF hc7 fun a hF=>q_y (v:=(.bool true)) hF hS (ex_pick_t rfl rfl hc7) fun a hF=>q_end (n_jn ?_)
       obtain rfl:=someI hj6
       exact ⟨hF.sub ⟨rfl,rfl,rfl,rfl,rfl,rfl,trivial⟩,hS⟩
     ·rintro a w ⟨hF,hS⟩
      refine n_sq ?_
      rcases bcase (t_16) with hc8 | hc8
      ·have hb4:=cond_f hc8 hb4
       refine q_cond_f hF rfl hc8 (q_skipc (n_ib (n_sq (q_region (q_y (v:=(iV (w64 (t_8 + 1)))) hF hS (ex_ibin rfl rfl rfl) fun a hF=>q_m hF rfl fun a hF=>q_end ?_)))))
       obtain rfl:=someI hb4
       exact ⟨rfl,hF.sub ⟨rfl,rfl,rfl,rfl,rfl,trivial⟩,hS⟩
      ·have hb4:=cond_t hc8 hb4
       refine q_cond_t hF rfl hc8 (q_sr (q_s hF rfl fun a hF=>q_end (n_sq (q_ret (r_ib (r_sq ?_))))))
       obtain rfl:=someI hb4
       refine ⟨nofun,.inr fun ho=>?_⟩
       subst ho
       refine r_ib (r_sq ?_)
       obtain rfl:=someI hr
       exact ret_of hF hS rfl (.tmp rfl .nil) rfl
   ·rintro e a w ⟨rfl,rfl,hF,hS⟩
    refine x_ib (n_sq ?_)
    refine q_sr (q_s hF rfl fun a hF=>q_end (n_sq (q_ret ?_)))
    obtain rfl:=someI hr
    exact ret_of hF hS rfl (.tmp rfl .nil) rfl
  ·have hr:=cond_t hc3 hr
   refine q_cond_t hF rfl hc3 (q_sr (q_s hF rfl fun a hF=>q_end (n_sq (q_ret (r_sq ?_)))))
   obtain rfl:=someI hr
   exact ret_of hF hS rfl (.tmp rfl .nil) rfl

theorem c_spec_qTable (p_x : List (List Int)) (r : Bool) (hr : spec_qTable p_x = some r) (w0 : World) (m : Mem) (hv : Vis m w0) (s1 : Sl) (h1 : Rd m s1 p_x) :
  Ret Tryz.prog 61 [s1.v] w0 (fun v _=>v = (.bool r)):=by
 unfold spec_qTable at hr
 refine ret_start Tryz.func61 rfl 5 rfl rfl m hv fun a hF hS=>q_sr (q_s hF rfl fun a hF=>q_end (n_sq (q_sr (q_m hF rfl fun a hF=>?_))))
 obtain ⟨t_2,ht_2,hr⟩:=bindS hr
 refine q_call (vs:=[s1.v,(iV 1000)]) hF hS Tryz.func62 (by kernel_rfl) rfl rfl rfl (c_spec_qForm p_x 1000 t_2 ht_2 _ m hS.vis s1 h1) ?_
 rintro a w _ rfl hF hS
 refine q_s hF rfl fun a hF=>q_end (n_sq (q_ret ?_))
 obtain rfl:=someI hr
 exact ret_of hF hS rfl (.tmp rfl .nil) rfl

theorem c_spec_qPattern (p_x : List (List Int)) (p_p : List (List Int)) (r : Bool) (hr : spec_qPattern p_x p_p = some r) (w0 : World) (m : Mem) (hv : Vis m w0) (s1 : Sl) (h1 : Rd m s1 p_x) (s2 : Sl) (h2 : Rd m s2 p_p) :
  Ret Tryz.prog 28 [s1.v,s2.v] w0 (fun v _=>v = (.bool r)):=by
 unfold spec_qPattern at hr
 refine ret_start Tryz.func28 rfl 29 rfl rfl m hv fun a hF hS=>q_sr (q_s hF rfl fun a hF=>q_end (n_sq (q_seq ?_)))
 obtain ⟨t_11,hj1,hr⟩:=bindS hr
 refine q_join (fun a w=>Fr a 29 [(4,(.bool t_11))]∧St [] w0 w m []) ?_ ?_
 ·refine e_region ⟨[],[],m⟩ mixed fun w' hw'=>?_
  have hS:=hS.below hw'
  refine e_P (v:=s1.v) 0 hF rfl (ex_move rfl) fun a hF=>e_one 1 (by kernel_rfl) ?_
  obtain ⟨t_3,ht_3,hj1⟩:=bindS hj1
  refine e_call (vs:=[s1.v]) hF hS rfl Tryz.func61 (by kernel_rfl) rfl rfl rfl (c_spec_qTable p_x t_3 ht_3 _ m hS.vis s1 h1) ?_
  rintro a w _ rfl hF hS
  refine e_P (v:=(.bool t_3)) 2 hF rfl (ex_move rfl) fun a hF=>?_
  rcases bcase (t_3) with hc2 | hc2
  ·have hj1:=cond_f hc2 hj1
   refine e_K 3 hF rfl hc2 fun a hF=>e_K 4 hF rfl hc2 fun a hF=>e_P (v:=(.bool false)) 5 hF rfl (ex_pick_f rfl rfl hc2) fun a hF=>e_P (v:=(.bool false)) 6 hF rfl (ex_move rfl) fun a hF=>e_K 7 hF rfl rfl fun a hF=>e_K 8 hF rfl rfl fun a hF=>e_K 9 hF rfl rfl fun a hF=>e_K 10 hF rfl rfl fun a hF=>e_K 11 hF rfl rfl fun a hF=>e_P (v:=(.bool false)) 12 hF rfl (ex_pick_f rfl rfl rfl) fun a hF=>e_P (v:=(.bool false)) 13 hF rfl (ex_move rfl) fun a hF=>e_K 14 hF rfl rfl fun a hF=>e_K 15 hF rfl rfl fun a hF=>e_K 16 hF rfl rfl fun a hF=>e_K 17 hF rfl rfl fun a hF=>e_K 18 hF rfl rfl fun a hF=>e_K 19 hF rfl rfl fun a hF=>e_K 20 hF rfl rfl fun a hF=>e_K 21 hF rfl rfl fun a hF=>e_K 22 hF rfl rfl fun a hF=>e_P (v:=(.bool false)) 23 hF rfl (ex_pick_f rfl rfl rfl) fun a hF=>e_P (v:=(.bool false)) 24 hF rfl (ex_assign rfl) fun a hF=>e_end (by kernel_rfl) (n_jn ?_) _
   obtain rfl:=someI hj1
   exact ⟨hF.sub ⟨rfl,trivial⟩,hS⟩
  ·have hj1:=cond_t hc2 hj1
   refine e_G (v:=s2.v) 3 hF rfl (ex_move rfl) hc2 fun a hF=>e_one 4 (by kernel_rfl) ?_
   obtain ⟨t_4,ht_4,hj1⟩:=bindS hj1
   refine e_callg (vs:=[s2.v,(iV 1)]) hF hS rfl (wanted_t hF rfl rfl rfl hc2) Tryz.func62 (by kernel_rfl) rfl rfl rfl (c_spec_qForm p_p 1 t_4 ht_4 _ m hS.vis s2 h2) ?_
   rintro a w _ rfl hF hS
   refine e_P (v:=(.bool t_4)) 5 hF rfl (ex_pick_t rfl rfl hc2) fun a hF=>e_P (v:=(.bool t_4)) 6 hF rfl (ex_move rfl) fun a hF=>?_
   rcases bcase (t_4) with hc3 | hc3
   ·have hj1:=cond_f hc3 hj1
    refine e_K 7 hF rfl hc3 fun a hF=>e_K 8 hF rfl hc3 fun a hF=>e_K 9 hF rfl hc3 fun a hF=>e_K 10 hF rfl hc3 fun a hF=>e_K 11 hF rfl hc3 fun a hF=>e_P (v:=(.bool false)) 12 hF rfl (ex_pick_f rfl rfl hc3) fun a hF=>e_P (v:=(.bool false)) 13 hF rfl (ex_move rfl) fun a hF=>e_K 14 hF rfl rfl fun a hF=>e_K 15 hF rfl rfl fun a hF=>e_K 16 hF rfl rfl fun a hF=>e_K 17 hF rfl rfl fun a hF=>e_K 18 hF rfl rfl fun a hF=>e_K 19 hF rfl rfl fun a hF=>e_K 20 hF rfl rfl fun a hF=>e_K 21 hF rfl rfl fun a hF=>e_K 22 hF rfl rfl fun a hF=>e_P (v:=(.bool false)) 23 hF rfl (ex_pick_f rfl rfl rfl) fun a hF=>e_P (v:=(.bool false)) 24 hF rfl (ex_assign rfl) fun a hF=>e_end (by kernel_rfl) (n_jn ?_) _
    obtain rfl:=someI hj1
    exact ⟨hF.sub ⟨rfl,trivial⟩,hS⟩
   ·have hj1:=cond_t hc3 hj1
    refine e_G (v:=s2.v) 7 hF rfl (ex_move rfl) hc3 fun a hF=>e_G (v:=(iV (goLen p_p))) 8 hF rfl (ex_len U23 rfl h2.len) hc3 fun a hF=>e_G (v:=s1.v) 9 hF rfl (ex_move rfl) hc3 fun a hF=>e_G (v:=(iV (goLen p_x))) 10 hF rfl (ex_len U23 rfl h1.len) hc3 fun a hF=>e_G (v:=(.bool ((goLen p_p) == (goLen p_x)))) 11 hF rfl (ex_ibin rfl rfl rfl) hc3 fun a hF=>e_P (v:=(.bool ((goLen p_p) == (goLen p_x)))) 12 hF rfl (ex_pick_t rfl rfl hc3) fun a hF=>e_P (v:=(.bool ((goLen p_p) == (goLen p_x)))) 13 hF rfl (ex_move rfl) fun a hF=>?_
    rcases bcase ((goLen p_p) == (goLen p_x)) with hc4 | hc4
    ·have hj1:=cond_f hc4 hj1
     refine e_K 14 hF rfl hc4 fun a hF=>e_K 15 hF rfl hc4 fun a hF=>e_K 16 hF rfl hc4 fun a hF=>e_K 17 hF rfl hc4 fun a hF=>e_K 18 hF rfl hc4 fun a hF=>e_K 19 hF rfl hc4 fun a hF=>e_K 20 hF rfl hc4 fun a hF=>e_K 21 hF rfl hc4 fun a hF=>e_K 22 hF rfl hc4 fun a hF=>e_P (v:=(.bool false)) 23 hF rfl (ex_pick_f rfl rfl hc4) fun a hF=>e_P (v:=(.bool false)) 24 hF rfl (ex_assign rfl) fun a hF=>e_end (by kernel_rfl) (n_jn ?_) _
     obtain rfl:=someI hj1
     exact ⟨hF.sub ⟨rfl,trivial⟩,hS⟩
    ·have hj1:=cond_t hc4 hj1
     refine e_G (v:=s2.v) 14 hF rfl (ex_move rfl) hc4 fun a hF=>?_
     obtain ⟨e_5,he_5,hj1⟩:=bindS hj1
     obtain ⟨vs6,at6,d6⟩:=h2.at he_5 1 rfl
     obtain ⟨s7,rfl,h7⟩ : ∃ s7 : Sl,vs6 = [s7.v]∧Rd m s7 e_5:=d6
     refine e_G (v:=(elP s2 ((0 : Int).toNat * 1))) 15 hF rfl (ex_indexAddr U23 sz48 rfl rfl (h2.idx he_5)) hc4 fun a hF=>e_xg (v:=s7.v) 16 hF hS rfl (ex_loadE1 0 U48 rfl rfl ((at6).at) rfl rfl) (wanted_t hF rfl rfl rfl hc4) rfl (by kernel_rfl) (by kernel_rfl) (by kernel_rfl) (by kernel_rfl) fun a hF=>e_G (v:=(iV (goLen e_5))) 17 hF rfl (ex_len U48 rfl h7.len) hc4 fun a hF=>e_G (v:=s1.v) 18 hF rfl (ex_move rfl) hc4 fun a hF=>?_
     obtain ⟨e_8,he_8,hj1⟩:=bindS hj1
     obtain ⟨vs9,at9,d9⟩:=h1.at he_8 1 rfl
     obtain ⟨s10,rfl,h10⟩ : ∃ s10 : Sl,vs9 = [s10.v]∧Rd m s10 e_8:=d9
     refine e_G (v:=(elP s1 ((0 : Int).toNat * 1))) 19 hF rfl (ex_indexAddr U23 sz48 rfl rfl (h1.idx he_8)) hc4 fun a hF=>e_xg (v:=s10.v) 20 hF hS rfl (ex_loadE1 0 U48 rfl rfl ((at9).at) rfl rfl) (wanted_t hF rfl rfl rfl hc4) rfl (by kernel_rfl) (by kernel_rfl) (by kernel_rfl) (by kernel_rfl) fun a hF=>e_G (v:=(iV (goLen e_8))) 21 hF rfl (ex_len U48 rfl h10.len) hc4 fun a hF=>e_G (v:=(.bool ((goLen e_5) == (goLen e_8)))) 22 hF rfl (ex_ibin rfl rfl rfl) hc4 fun a hF=>e_P (v:=(.bool ((goLen e_5) == (goLen e_8)))) 23 hF rfl (ex_pick_t rfl rfl hc4) fun a hF=>e_P (v:=(.bool ((goLen e_5) == (goLen e_8)))) 24 hF rfl (ex_assign rfl) fun a hF=>e_end (by kernel_rfl) (n_jn ?_) _
     obtain rfl:=someI hj1
     exact ⟨hF.sub ⟨rfl,trivial⟩,hS⟩
 ·rintro a w ⟨hF,hS⟩
  refine n_sq (q_ret ?_)
  obtain rfl:=someI hr
  exact ret_of hF hS rfl (.tmp rfl .nil) rfl

theorem c_spec_vLevels (p_down : Int) (p_up : Int) (r : Bool) (hr : spec_vLevels p_down p_up = some r) (w0 : World) (m : Mem) (hv : Vis m w0) :
  Ret Tryz.prog 29 [(iV p_down),(iV p_up)] w0 (fun v _=>v = (.bool r)):=by
 unfold spec_vLevels at hr
 refine ret_start Tryz.func29 rfl 11 rfl rfl m hv fun a hF hS=>q_sr (q_s hF rfl fun a hF=>q_end (n_sq (q_seq ?_)))
 obtain ⟨t_3,hj1,hr⟩:=bindS hr
 refine q_join (fun a w=>Fr a 11 [(4,(.bool t_3))]∧St [] w0 w m []) ?_ ?_
 ·refine q_region (q_m hF rfl fun a hF=>?_)
  obtain ⟨t_1,ht_1,hj1⟩:=bindS hj1
  refine q_call (vs:=[(iV p_down),(iV 0),(iV 1000)]) hF hS Tryz.func63 (by kernel_rfl) rfl rfl rfl (c_spec_l1In p_down 0 1000 t_1 ht_1 _ m hS.vis) ?_
  rintro a w _ rfl hF hS
  refine q_m hF rfl fun a hF=>?_
  rcases bcase (t_1) with hc2 | hc2
  ·have hj1:=cond_f hc2 hj1
   refine q_k hF hc2 fun a hF=>q_k hF hc2 fun a hF=>q_y (v:=(.bool false)) hF hS (ex_pick_f rfl rfl hc2) fun a hF=>q_s hF rfl fun a hF=>q_end (n_jn ?_)
   obtain rfl:=someI hj1
   exact ⟨hF.sub ⟨rfl,trivial⟩,hS⟩
  ·have hj1:=cond_t hc2 hj1
   refine q_g (v:=(iV p_up)) hF hS (ex_move rfl) hc2 fun a hF=>?_
   obtain ⟨t_2,ht_2,hj1⟩:=bindS hj1
   refine q_callg (vs:=[(iV p_up),(iV 0),(iV 1000)]) hF hS (wanted_t hF rfl rfl rfl hc2) Tryz.func63 (by kernel_rfl) rfl rfl rfl (c_spec_l1In p_up 0 1000 t_2 ht_2 _ m hS.vis) ?_
   rintro a w _ rfl hF hS
   refine q_y (v:=(.bool t_2)) hF hS (ex_pick_t rfl rfl hc2) fun a hF=>q_s hF rfl fun a hF=>q_end (n_jn ?_)
   obtain rfl:=someI hj1
   exact ⟨hF.sub ⟨rfl,trivial⟩,hS⟩
 ·rintro a w ⟨hF,hS⟩
  refine n_sq (q_ret ?_)
  obtain rfl:=someI hr
  exact ret_of hF hS rfl (.tmp rfl .nil) rfl

theorem c_spec_iBits (p_mask : Int) (r : (List Int)) (hr : spec_iBits p_mask = some r) (w0 : World) (m : Mem) (hv : Vis m w0) :
  Ret Tryz.prog 31 [(iV p_mask)] w0 (fun v w=>∃ (q0' : Piece) (s0' : Sl),v = s0'.v∧St [] w0 w m [q0']∧OwnL m 3 q0' s0' r):=by
 unfold spec_iBits at hr
 refine ret_start Tryz.func31 rfl 23 rfl rfl m hv fun a hF hS=>q_sr (q_s hF rfl fun a hF=>q_end (n_sq (q_sr (q_s hF rfl fun a hF=>q_end (n_sq (q_seq (q_sr (q_s hF rfl fun a hF=>q_end (n_sq (q_block ?_))))))))))
 obtain ⟨out_11,hl1,hr⟩:=bindS hr
 refine q_loop (fun (s : (List Int) × Int) a w=>∃ (q2 : Piece),∃ (s2 : Sl),∃ out_1,∃ i_3,s = (out_1,i_3)∧Fr a 23 [(0,(iV p_mask)),(3,s2.v),(4,(iV i_3))]∧St [] w0 w m [q2]∧OwnL m 3 q2 s2 out_1) (fun (out_11 : (List Int)) e a w=>∃ (q12 : Piece),∃ (s12 : Sl),e = .exit 0∧Fr a 23 [(3,s12.v)]∧St [] w0 w m [q12]∧OwnL m 3 q12 s12 out_11) hl1 ⟨[],nilS,_,_,rfl,hF.sub ⟨rfl,rfl,rfl,trivial⟩,hS.sel [0] (by decide),(OwnL.nil (α:=Int) m 3)⟩ ?_ ?_
 ·clear hF hS
  rintro s a w st ⟨q2,s2,out_1,i_3,rfl,hF,hS,h2⟩ hb1
  unfold spec_iBits_l1 at hb1
  refine q_seq (q_sr (q_m hF rfl fun a hF=>q_m hF rfl fun a hF=>q_y (v:=(.int .u64 (IntKind.wrap .u64 i_3))) hF hS (ex_conv U3 U59 rfl) fun a hF=>?_))
  obtain ⟨t_4,ht_4,hb1⟩:=bindS hb1
  refine q_y (v:=(iV t_4)) hF hS (ex_shr rfl rfl ht_4) fun a hF=>q_y (v:=(.bool (decide (0 < t_4)))) hF hS (ex_ibin rfl rfl rfl) fun a hF=>q_end (n_sq ?_)
  rcases bcase (decide (0 < t_4)) with hc2 | hc2
  ·have hb1:=cond_f hc2 hb1
   refine q_cond_f hF rfl hc2 (q_exit (x_sq ?_))
   obtain rfl:=someI hb1
   exact ⟨nofun,.inl ⟨q2,s2,rfl,hF.sub ⟨rfl,trivial⟩,hS,h2⟩⟩
  ·have hb1:=cond_t hc2 hb1
   refine q_cond_t hF rfl hc2 (q_skipc (n_sq (q_seq (q_block (q_sr (q_m hF rfl fun a hF=>q_m hF rfl fun a hF=>q_y (v:=(.int .u64 (IntKind.wrap .u64 i_3))) hF hS (ex_conv U3 U59 rfl) fun a hF=>?_))))))
   obtain ⟨t_5,ht_5,hb1⟩:=bindS hb1
   refine q_y (v:=(iV t_5)) hF hS (ex_shr rfl rfl ht_5) fun a hF=>q_y (v:=(iV (goBits .and .i64 t_5 1))) hF hS (ex_bits rfl rfl rfl) fun a hF=>q_y (v:=(.bool ((goBits .and .i64 t_5 1) == 1))) hF hS (ex_ibin rfl rfl rfl) fun a hF=>q_end (n_sq ?_)
   obtain ⟨out_9,hj3,hb1⟩:=bindS hb1
   refine q_join (fun a w=>∃ (q10 : Piece),∃ (s10 : Sl),Fr a 23 [(0,(iV p_mask)),(3,s10.v),(4,(iV i_3))]∧St [] w0 w m [q10]∧OwnL m 3 q10 s10 out_9) ?_ ?_
   ·rcases bcase ((goBits .and .i64 t_5 1) == 1) with hc4 | hc4
    ·have hj3:=cond_f hc4 hj3
     refine q_cond_f hF rfl hc4 (q_skipc (n_jn ?_))
     obtain rfl:=someI hj3
     exact ⟨q2,s2,hF.sub ⟨rfl,rfl,rfl,trivial⟩,hS,h2⟩
    ·have hj3:=cond_t hc4 hj3
     refine q_cond_t hF rfl hc4 (q_region (q_m hF rfl fun a hF=>q_m hF rfl fun a hF=>q_do rfl fun _ hK=>wp_buildSlice' (l:=([i_3] : List Int)) (cells:=[(iV i_3)]) hF hS U48 inf3 rfl rfl (by kernel_rfl) rfl rfl rfl ⟨rfl,rfl⟩ rfl rfl fun a w q6 s6 hF hS h6 _=>hK _ _ ?_))
     have hS : St _ _ _ _ [q2,q6]:=hS.sel [1,0] (by decide)
     obtain ⟨l_7,hl_7,hj3⟩:=bindS hj3
     refine q_do rfl fun _ hK=>wp_append hF hS h2 U48 inf3 rfl rfl rfl rfl (h6.vw hS (j:=1) rfl) rfl (by decide) hl_7 rfl fun a w q8 s8 hF hS h8=>hK _ _ (q_s hF rfl fun a hF=>q_end (n_jn ?_))
     obtain rfl:=someI hj3
     exact ⟨q8,s8,hF.sub ⟨rfl,rfl,rfl,trivial⟩,hS.mask [true,false],h8⟩
   ·rintro a w ⟨q10,s10,hF,hS,h10⟩
    refine n_ib (n_sq ?_)
    refine q_region (q_m hF rfl fun a hF=>q_y (v:=(iV (w64 (i_3 + 1)))) hF hS (ex_ibin rfl rfl rfl) fun a hF=>q_s hF rfl fun a hF=>q_end ?_)
    obtain rfl:=someI hb1
    exact ⟨rfl,q10,s10,_,_,rfl,hF.sub ⟨rfl,rfl,rfl,trivial⟩,hS,h10⟩
 ·rintro e a w ⟨q12,s12,rfl,hF,hS,h12⟩
  refine x_ib (n_sq ?_)
  refine q_sr (q_m hF rfl fun a hF=>q_s hF rfl fun a hF=>q_end (n_sq (q_ret ?_)))
  obtain rfl:=someI hr
  exact ret_of hF hS rfl (.tmp rfl .nil) ⟨q12,s12,rfl,hS.sel [0] (by decide),h12⟩

theorem c_spec_sPick (p_values : List Int) (p_vars : List Int) (r : (List Int)) (hr : spec_sPick p_values p_vars = some r) (w0 : World) (m : Mem) (hv : Vis m w0) (s1 : Sl) (h1 : Rd m s1 p_values) (s2 : Sl) (h2 : Rd m s2 p_vars) :
  Ret Tryz.prog 30 [s1.v,s2.v] w0 (fun v w=>∃ (q0' : Piece) (s0' : Sl),v = s0'.v∧St [] w0 w m [q0']∧OwnL m 3 q0' s0' r):=by
 unfold spec_sPick at hr
 refine ret_start Tryz.func30 rfl 23 rfl rfl m hv fun a hF hS=>q_sr (q_s hF rfl fun a hF=>q_end (n_sq (q_sr (q_s hF rfl fun a hF=>q_end (n_sq (q_seq (q_sr (q_m hF rfl fun a hF=>q_y (v:=(iV (goLen p_vars))) hF hS (ex_len U48 rfl h2.len) fun a hF=>q_m hF rfl fun a hF=>q_end (n_sq (q_block ?_))))))))))
 obtain ⟨out_13,hl1,hr⟩:=bindS hr
 refine q_loop (fun (s : (List Int) × Int) a w=>∃ (q4 : Piece),∃ (s4 : Sl),∃ out_3,∃ t_5,s = (out_3,t_5)∧Fr a 23 [(0,s1.v),(5,s4.v),(8,s2.v),(9,(iV (goLen p_vars))),(10,(iV t_5))]∧St [] w0 w m [q4]∧OwnL m 3 q4 s4 out_3) (fun (out_13 : (List Int)) e a w=>∃ (q14 : Piece),∃ (s14 : Sl),e = .exit 0∧Fr a 23 [(5,s14.v)]∧St [] w0 w m [q14]∧OwnL m 3 q14 s14 out_13) hl1 ⟨[],nilS,_,_,rfl,hF.sub ⟨rfl,rfl,rfl,rfl,rfl,trivial⟩,hS.sel [0] (by decide),(OwnL.nil (α:=Int) m 3)⟩ ?_ ?_
 ·clear hF hS
  rintro s a w st ⟨q4,s4,out_3,t_5,rfl,hF,hS,h4⟩ hb1
  unfold spec_sPick_l1 at hb1
  refine q_sr (q_y (v:=(.bool (decide (t_5 < (goLen p_vars))))) hF hS (ex_ibin rfl rfl rfl) fun a hF=>q_end (n_sq (q_seq ?_)))
  rcases bcase (decide (t_5 < (goLen p_vars))) with hc2 | hc2
  ·have hb1:=cond_f hc2 hb1
   refine q_cond_f hF rfl hc2 (q_exit (x_sq ?_))
   obtain rfl:=someI hb1
   exact ⟨nofun,.inl ⟨q4,s4,rfl,hF.sub ⟨rfl,trivial⟩,hS,h4⟩⟩
  ·have hb1:=cond_t hc2 hb1
   refine q_cond_t hF rfl hc2 (q_skipc (n_sq (q_seq (q_block (q_seq (q_region ?_))))))
   obtain ⟨e_6,he_6,hb1⟩:=bindS hb1
   obtain ⟨vs7,at7,d7⟩:=h2.at he_6 1 rfl
   obtain rfl : vs7 = [(iV e_6)]:=d7
   refine q_y (v:=(elP s2 (t_5.toNat * 1))) hF hS (ex_indexAddr U48 sz3 rfl rfl (h2.idx he_6)) fun a hF=>q_y (v:=(iV e_6)) hF hS (ex_loadE1 0 U3 rfl rfl ((at7).at) rfl rfl) fun a hF=>q_s hF rfl fun a hF=>q_end (n_sq (q_region (q_m hF rfl fun a hF=>q_m hF rfl fun a hF=>q_m hF rfl fun a hF=>?_)))
   obtain ⟨e_8,he_8,hb1⟩:=bindS hb1
   obtain ⟨vs9,at9,d9⟩:=h1.at he_8 1 rfl
   obtain rfl : vs9 = [(iV e_8)]:=d9
   refine q_y (v:=(elP s1 (e_6.toNat * 1))) hF hS (ex_indexAddr U48 sz3 rfl rfl (h1.idx he_8)) fun a hF=>q_y (v:=(iV e_8)) hF hS (ex_loadE1 0 U3 rfl rfl ((at9).at) rfl rfl) fun a hF=>q_do rfl fun _ hK=>wp_buildSlice' (l:=([e_8] : List Int)) (cells:=[(iV e_8)]) hF hS U48 inf3 rfl rfl (by kernel_rfl) rfl rfl rfl ⟨rfl,rfl⟩ rfl rfl fun a w q10 s10 hF hS h10 _=>hK _ _ ?_
   have hS : St _ _ _ _ [q4,q10]:=hS.sel [1,0] (by decide)
   obtain ⟨l_11,hl_11,hb1⟩:=bindS hb1
   refine q_do rfl fun _ hK=>wp_append hF hS h4 U48 inf3 rfl rfl rfl rfl (h10.vw hS (j:=1) rfl) rfl (by decide) hl_11 rfl fun a w q12 s12 hF hS h12=>hK _ _ (q_s hF rfl fun a hF=>q_end (n_ib (n_sq (q_region (q_y (v:=(iV (w64 (t_5 + 1)))) hF hS (ex_ibin rfl rfl rfl) fun a hF=>q_m hF rfl fun a hF=>q_end ?_)))))
   obtain rfl:=someI hb1
   exact ⟨rfl,q12,s12,_,_,rfl,hF.sub ⟨rfl,rfl,rfl,rfl,rfl,trivial⟩,hS.mask [true,false],h12⟩
 ·rintro e a w ⟨q14,s14,rfl,hF,hS,h14⟩
  refine x_ib (n_sq ?_)
  refine q_sr (q_m hF rfl fun a hF=>q_s hF rfl fun a hF=>q_end (n_sq (q_ret ?_)))
  obtain rfl:=someI hr
  exact ret_of hF hS rfl (.tmp rfl .nil) ⟨q14,s14,rfl,hS.sel [0] (by decide),h14⟩

theorem c_spec_vValue (p_x : List (List Int)) (p_cells : List Int) (r : Int) (hr : spec_vValue p_x p_cells = some r) (w0 : World) (m : Mem) (hv : Vis m w0) (s1 : Sl) (h1 : Rd m s1 p_x) (s2 : Sl) (h2 : Rd m s2 p_cells) :
  Ret Tryz.prog 32 [s1.v,s2.v] w0 (fun v _=>v = (iV r)):=by
 unfold spec_vValue at hr
 refine ret_start Tryz.func32 rfl 35 rfl rfl m hv fun a hF hS=>q_sr (q_s hF rfl fun a hF=>q_end (n_sq (q_sr (q_s hF rfl fun a hF=>q_end (n_sq (q_seq (q_sr (q_m hF rfl fun a hF=>q_y (v:=(iV (goLen p_cells))) hF hS (ex_len U48 rfl h2.len) fun a hF=>q_m hF rfl fun a hF=>q_end (n_sq (q_block ?_))))))))))
 obtain ⟨n_20,hl1,hr⟩:=bindS hr
 refine q_loop (fun (s : Int × Int) a w=>∃ n_3,∃ t_4,s = (n_3,t_4)∧Fr a 35 [(0,s1.v),(5,(iV n_3)),(8,s2.v),(9,(iV (goLen p_cells))),(10,(iV t_4))]∧St [] w0 w m []) (fun (n_20 : Int) e a w=>e = .exit 0∧Fr a 35 [(5,(iV n_20))]∧St [] w0 w m []) hl1 ⟨_,_,rfl,hF.sub ⟨rfl,rfl,rfl,rfl,rfl,trivial⟩,hS⟩ ?_ ?_
 ·clear hF hS
  rintro s a w st ⟨n_3,t_4,rfl,hF,hS⟩ hb1
  unfold spec_vValue_l1 at hb1
  refine q_sr (q_y (v:=(.bool (decide (t_4 < (goLen p_cells))))) hF hS (ex_ibin rfl rfl rfl) fun a hF=>q_end (n_sq (q_seq ?_)))
  rcases bcase (decide (t_4 < (goLen p_cells))) with hc2 | hc2
  ·have hb1:=cond_f hc2 hb1
   refine q_cond_f hF rfl hc2 (q_exit (x_sq ?_))
   obtain rfl:=someI hb1
   exact ⟨nofun,.inl ⟨rfl,hF.sub ⟨rfl,trivial⟩,hS⟩⟩
  ·have hb1:=cond_t hc2 hb1
   refine q_cond_t hF rfl hc2 (q_skipc (n_sq (q_seq (q_block (q_seq (q_region ?_))))))
   obtain ⟨e_5,he_5,hb1⟩:=bindS hb1
   obtain ⟨vs6,at6,d6⟩:=h2.at he_5 1 rfl
   obtain rfl : vs6 = [(iV e_5)]:=d6
   refine q_y (v:=(elP s2 (t_4.toNat * 1))) hF hS (ex_indexAddr U48 sz3 rfl rfl (h2.idx he_5)) fun a hF=>q_y (v:=(iV e_5)) hF hS (ex_loadE1 0 U3 rfl rfl ((at6).at) rfl rfl) fun a hF=>q_s hF rfl fun a hF=>q_end (n_sq (e_region ⟨[],[],m⟩ mixed fun w' hw'=>?_))
   have hS:=hS.below hw'
   refine e_P (v:=(iV n_3)) 0 hF rfl (ex_move rfl) fun a hF=>e_P (v:=s1.v) 1 hF rfl (ex_move rfl) fun a hF=>e_P (v:=(iV e_5)) 2 hF rfl (ex_move rfl) fun a hF=>e_P (v:=s1.v) 3 hF rfl (ex_move rfl) fun a hF=>?_
   obtain ⟨e_7,he_7,hb1⟩:=bindS hb1
   obtain ⟨vs8,at8,d8⟩:=h1.at he_7 1 rfl
   obtain ⟨s9,rfl,h9⟩ : ∃ s9 : Sl,vs8 = [s9.v]∧Rd m s9 e_7:=d8
   refine e_P (v:=(elP s1 ((0 : Int).toNat * 1))) 4 hF rfl (ex_indexAddr U23 sz48 rfl rfl (h1.idx he_7)) fun a hF=>e_xm (v:=s9.v) 5 hF hS (Mem.le.refl _) rfl (ex_loadE1 0 U48 rfl rfl ((at8).at) rfl rfl) rfl rfl (by kernel_rfl) (by kernel_rfl) (by kernel_rfl) fun a hF=>e_P (v:=(iV (goLen e_7))) 6 hF rfl (ex_len U48 rfl h9.len) fun a hF=>?_
   obtain ⟨t_10,ht_10,hb1⟩:=bindS hb1
   refine e_P (v:=(iV t_10)) 7 hF rfl (ex_quo rfl rfl ht_10) fun a hF=>?_
   obtain ⟨e_11,he_11,hb1⟩:=bindS hb1
   obtain ⟨vs12,at12,d12⟩:=h1.at he_11 1 rfl
   obtain ⟨s13,rfl,h13⟩ : ∃ s13 : Sl,vs12 = [s13.v]∧Rd m s13 e_11:=d12
   refine e_P (v:=(elP s1 (t_10.toNat * 1))) 8 hF rfl (ex_indexAddr U23 sz48 rfl rfl (h1.idx he_11)) fun a hF=>e_xm (v:=s13.v) 9 hF hS (Mem.le.refl _) rfl (ex_loadE1 0 U48 rfl rfl ((at12).at) rfl rfl) rfl rfl (by kernel_rfl) (by kernel_rfl) (by kernel_rfl) fun a hF=>e_P (v:=(iV e_5)) 10 hF rfl (ex_move rfl) fun a hF=>e_P (v:=s1.v) 11 hF rfl (ex_move rfl) fun a hF=>?_
   obtain ⟨e_14,he_14,hb1⟩:=bindS hb1
   obtain ⟨vs15,at15,d15⟩:=h1.at he_14 1 rfl
   obtain ⟨s16,rfl,h16⟩ : ∃ s16 : Sl,vs15 = [s16.v]∧Rd m s16 e_14:=d15
   refine e_P (v:=(elP s1 ((0 : Int).toNat * 1))) 12 hF rfl (ex_indexAddr U23 sz48 rfl rfl (h1.idx he_14)) fun a hF=>e_xm (v:=s16.v) 13 hF hS (Mem.le.refl _) rfl (ex_loadE1 0 U48 rfl rfl ((at15).at) rfl rfl) rfl rfl (by kernel_rfl) (by kernel_rfl) (by kernel_rfl) fun a hF=>e_P (v:=(iV (goLen e_14))) 14 hF rfl (ex_len U48 rfl h16.len) fun a hF=>?_
   obtain ⟨t_17,ht_17,hb1⟩:=bindS hb1
   refine e_P (v:=(iV t_17)) 15 hF rfl (ex_rem rfl rfl ht_17) fun a hF=>?_
   obtain ⟨e_18,he_18,hb1⟩:=bindS hb1
   obtain ⟨vs19,at19,d19⟩:=h13.at he_18 1 rfl
   obtain rfl : vs19 = [(iV e_18)]:=d19
   refine e_P (v:=(elP s13 (t_17.toNat * 1))) 16 hF rfl (ex_indexAddr U48 sz3 rfl rfl (h13.idx he_18)) fun a hF=>e_xm (v:=(iV e_18)) 17 hF hS (Mem.le.refl _) rfl (ex_loadE1 0 U3 rfl rfl ((at19).at) rfl rfl) rfl rfl (by kernel_rfl) (by kernel_rfl) (by kernel_rfl) fun a hF=>e_P (v:=(iV (w64 (n_3 + e_18)))) 18 hF rfl (ex_ibin rfl rfl rfl) fun a hF=>e_P (v:=(iV (w64 (n_3 + e_18)))) 19 hF rfl (ex_assign rfl) fun a hF=>e_end (by kernel_rfl) (n_ib (n_sq ?_)) _
   refine q_region (q_y (v:=(iV (w64 (t_4 + 1)))) hF hS (ex_ibin rfl rfl rfl) fun a hF=>q_m hF rfl fun a hF=>q_end ?_)
   obtain rfl:=someI hb1
   exact ⟨rfl,_,_,rfl,hF.sub ⟨rfl,rfl,rfl,rfl,rfl,trivial⟩,hS⟩
 ·rintro e a w ⟨rfl,hF,hS⟩
  refine x_ib (n_sq ?_)
  refine q_sr (q_m hF rfl fun a hF=>q_s hF rfl fun a hF=>q_end (n_sq (q_ret ?_)))
  obtain rfl:=someI hr
  exact ret_of hF hS rfl (.tmp rfl .nil) rfl

theorem c_spec_l1Sign (p_n : Int) (r : Int) (hr : spec_l1Sign p_n = some r) (w0 : World) (m : Mem) (hv : Vis m w0) :
  Ret Tryz.prog 64 [(iV p_n)] w0 (fun v _=>v = (iV r)):=by
 unfold spec_l1Sign at hr
 refine ret_start Tryz.func64 rfl 9 rfl rfl m hv fun a hF hS=>q_sr (q_s hF rfl fun a hF=>q_end (n_sq (q_seq (q_block (q_sr (q_m hF rfl fun a hF=>q_y (v:=(.bool (decide (p_n < 0)))) hF hS (ex_ibin rfl rfl rfl) fun a hF=>q_s hF rfl fun a hF=>q_end (n_sq ?_)))))))
 rcases bcase (decide (p_n < 0)) with hc1 | hc1
 ·have hr:=cond_f hc1 hr
  refine q_cond_f hF rfl hc1 (q_sr (q_m hF rfl fun a hF=>q_y (v:=(.bool (decide (0 < p_n)))) hF hS (ex_ibin rfl rfl rfl) fun a hF=>q_s hF rfl fun a hF=>q_end (n_sq ?_)))
  rcases bcase (decide (0 < p_n)) with hc2 | hc2
  ·have hr:=cond_f hc2 hr
   refine q_cond_f hF rfl hc2 (q_skipc (n_ib (n_sq (q_sr (q_s hF rfl fun a hF=>q_end (n_sq (q_ret ?_)))))))
   obtain rfl:=someI hr
   exact ret_of hF hS rfl (.tmp rfl .nil) rfl
  ·have hr:=cond_t hc2 hr
   refine q_cond_t hF rfl hc2 (q_sr (q_s hF rfl fun a hF=>q_end (n_sq (q_ret (r_ib (r_sq ?_))))))
   obtain rfl:=someI hr
   exact ret_of hF hS rfl (.tmp rfl .nil) rfl
 ·have hr:=cond_t hc1 hr
  refine q_cond_t hF rfl hc1 (q_sr (q_s hF rfl fun a hF=>q_end (n_sq (q_ret (r_ib (r_sq ?_))))))
  obtain rfl:=someI hr
  exact ret_of hF hS rfl (.tmp rfl .nil) rfl

theorem c_spec_l1Less (p_a : List Int) (p_b : List Int) (r : Int) (hr : spec_l1Less p_a p_b = some r) (w0 : World) (m : Mem) (hv : Vis m w0) (s1 : Sl) (h1 : Rd m s1 p_a) (s2 : Sl) (h2 : Rd m s2 p_b) :
  Ret Tryz.prog 33 [s1.v,s2.v] w0 (fun v _=>v = (iV r)):=by
 unfold spec_l1Less at hr
 refine ret_start Tryz.func33 rfl 42 rfl rfl m hv fun a hF hS=>q_sr (q_s hF rfl fun a hF=>q_end (n_sq (q_seq (q_sr (q_s hF rfl fun a hF=>q_end (n_sq (q_block ?_)))))))
 obtain ⟨o1,hl1,hr⟩:=bindS hr
 refine q_loop (fun (i_3 : Int) a w=>Fr a 42 [(0,s1.v),(1,s2.v),(5,(iV i_3))]∧St [] w0 w m []) (fun (o : (Unit) ⊕ (Int)) e a w=>o = .inl ()∧e = .exit 0∧Fr a 42 [(0,s1.v),(1,s2.v)]∧St [] w0 w m []) hl1 ⟨hF.sub ⟨rfl,rfl,rfl,trivial⟩,hS⟩ ?_ ?_
 ·clear hF hS
  rintro i_3 a w st ⟨hF,hS⟩ hb1
  unfold spec_l1Less_l1 at hb1
  refine q_seq (q_seq ?_)
  obtain ⟨t_4,hj2,hb1⟩:=bindS hb1
  refine q_join (fun a w=>Fr a 42 [(0,s1.v),(1,s2.v),(5,(iV i_3)),(15,(.bool t_4))]∧St [] w0 w m []) ?_ ?_
  ·refine q_region (q_m hF rfl fun a hF=>q_m hF rfl fun a hF=>q_y (v:=(iV (goLen p_a))) hF hS (ex_len U48 rfl h1.len) fun a hF=>q_y (v:=(.bool (decide (i_3 < (goLen p_a))))) hF hS (ex_ibin rfl rfl rfl) fun a hF=>q_m hF rfl fun a hF=>?_)
   rcases bcase (decide (i_3 < (goLen p_a))) with hc3 | hc3
   ·have hj2:=cond_f hc3 hj2
    refine q_k hF hc3 fun a hF=>q_k hF hc3 fun a hF=>q_k hF hc3 fun a hF=>q_k hF hc3 fun a hF=>q_y (v:=(.bool false)) hF hS (ex_pick_f rfl rfl hc3) fun a hF=>q_end (n_jn ?_)
    obtain rfl:=someI hj2
    exact ⟨hF.sub ⟨rfl,rfl,rfl,rfl,trivial⟩,hS⟩
   ·have hj2:=cond_t hc3 hj2
    refine q_g (v:=(iV i_3)) hF hS (ex_move rfl) hc3 fun a hF=>q_g (v:=s2.v) hF hS (ex_move rfl) hc3 fun a hF=>q_g (v:=(iV (goLen p_b))) hF hS (ex_len U48 rfl h2.len) hc3 fun a hF=>q_g (v:=(.bool (decide (i_3 < (goLen p_b))))) hF hS (ex_ibin rfl rfl rfl) hc3 fun a hF=>q_y (v:=(.bool (decide (i_3 < (goLen p_b))))) hF hS (ex_pick_t rfl rfl hc3) fun a hF=>q_end (n_jn ?_)
    obtain rfl:=someI hj2
    exact ⟨hF.sub ⟨rfl,rfl,rfl,rfl,trivial⟩,hS⟩
  ·rintro a w ⟨hF,hS⟩
   refine n_sq ?_
   rcases bcase (t_4) with hc4 | hc4
   ·have hb1:=cond_f hc4 hb1
    refine q_cond_f hF rfl hc4 (q_exit (x_sq ?_))
    obtain rfl:=someI hb1
    exact ⟨nofun,.inl ⟨rfl,rfl,hF.sub ⟨rfl,rfl,trivial⟩,hS⟩⟩
   ·have hb1:=cond_t hc4 hb1
    refine q_cond_t hF rfl hc4 (q_skipc (n_sq (q_seq (q_block (q_seq (e_region ⟨[],[],m⟩ mixed fun w' hw'=>?_))))))
    have hS:=hS.below hw'
    refine e_P (v:=s1.v) 0 hF rfl (ex_move rfl) fun a hF=>e_P (v:=(iV i_3)) 1 hF rfl (ex_move rfl) fun a hF=>?_
    obtain ⟨e_5,he_5,hb1⟩:=bindS hb1
    obtain ⟨vs6,at6,d6⟩:=h1.at he_5 1 rfl
    obtain rfl : vs6 = [(iV e_5)]:=d6
    refine e_P (v:=(elP s1 (i_3.toNat * 1))) 2 hF rfl (ex_indexAddr U48 sz3 rfl rfl (h1.idx he_5)) fun a hF=>e_xm (v:=(iV e_5)) 3 hF hS (Mem.le.refl _) rfl (ex_loadE1 0 U3 rfl rfl ((at6).at) rfl rfl) rfl rfl (by kernel_rfl) (by kernel_rfl) (by kernel_rfl) fun a hF=>e_P (v:=s2.v) 4 hF rfl (ex_move rfl) fun a hF=>e_P (v:=(iV i_3)) 5 hF rfl (ex_move rfl) fun a hF=>?_
    obtain ⟨e_7,he_7,hb1⟩:=bindS hb1
    obtain ⟨vs8,at8,d8⟩:=h2.at he_7 1 rfl
    obtain rfl : vs8 = [(iV e_7)]:=d8
    refine e_P (v:=(elP s2 (i_3.toNat * 1))) 6 hF rfl (ex_indexAddr U48 sz3 rfl rfl (h2.idx he_7)) fun a hF=>e_xm (v:=(iV e_7)) 7 hF hS (Mem.le.refl _) rfl (ex_loadE1 0 U3 rfl rfl ((at8).at) rfl rfl) rfl rfl (by kernel_rfl) (by kernel_rfl) (by kernel_rfl) fun a hF=>e_P (v:=(.bool (e_5 != e_7))) 8 hF rfl (ex_ibin rfl rfl rfl) fun a hF=>e_end (by kernel_rfl) (n_sq ?_) _
    rcases bcase (e_5 != e_7) with hc5 | hc5
    ·have hb1:=cond_f hc5 hb1
     refine q_cond_f hF rfl hc5 (q_skipc (n_ib (n_sq (q_region (q_m hF rfl fun a hF=>q_y (v:=(iV (w64 (i_3 + 1)))) hF hS (ex_ibin rfl rfl rfl) fun a hF=>q_s hF rfl fun a hF=>q_end ?_)))))
     obtain rfl:=someI hb1
     exact ⟨rfl,hF.sub ⟨rfl,rfl,rfl,trivial⟩,hS⟩
    ·have hb1:=cond_t hc5 hb1
     refine q_cond_t hF rfl hc5 (q_seq (q_seq (e_region ⟨[],[],m⟩ mixed fun w' hw'=>?_)))
     have hS:=hS.below hw'
     refine e_P (v:=s1.v) 0 hF rfl (ex_move rfl) fun a hF=>e_P (v:=(iV i_3)) 1 hF rfl (ex_move rfl) fun a hF=>?_
     obtain ⟨e_9,he_9,hb1⟩:=bindS hb1
     obtain ⟨vs10,at10,d10⟩:=h1.at he_9 1 rfl
     obtain rfl : vs10 = [(iV e_9)]:=d10
     refine e_P (v:=(elP s1 (i_3.toNat * 1))) 2 hF rfl (ex_indexAddr U48 sz3 rfl rfl (h1.idx he_9)) fun a hF=>e_xm (v:=(iV e_9)) 3 hF hS (Mem.le.refl _) rfl (ex_loadE1 0 U3 rfl rfl ((at10).at) rfl rfl) rfl rfl (by kernel_rfl) (by kernel_rfl) (by kernel_rfl) fun a hF=>e_P (v:=s2.v) 4 hF rfl (ex_move rfl) fun a hF=>e_P (v:=(iV i_3)) 5 hF rfl (ex_move rfl) fun a hF=>?_
     obtain ⟨e_11,he_11,hb1⟩:=bindS hb1
     obtain ⟨vs12,at12,d12⟩:=h2.at he_11 1 rfl
     obtain rfl : vs12 = [(iV e_11)]:=d12
     refine e_P (v:=(elP s2 (i_3.toNat * 1))) 6 hF rfl (ex_indexAddr U48 sz3 rfl rfl (h2.idx he_11)) fun a hF=>e_xm (v:=(iV e_11)) 7 hF hS (Mem.le.refl _) rfl (ex_loadE1 0 U3 rfl rfl ((at12).at) rfl rfl) rfl rfl (by kernel_rfl) (by kernel_rfl) (by kernel_rfl) fun a hF=>e_P (v:=(.bool (decide (e_9 < e_11)))) 8 hF rfl (ex_ibin rfl rfl rfl) fun a hF=>e_end (by kernel_rfl) (n_sq ?_) _
     rcases bcase (decide (e_9 < e_11)) with hc6 | hc6
     ·have hb1:=cond_f hc6 hb1
      refine q_cond_f hF rfl hc6 (q_skipc (n_sq (q_sr (q_s hF rfl fun a hF=>q_end (n_sq (q_ret (r_ib (r_sq ?_))))))))
      obtain rfl:=someI hb1
      refine ⟨nofun,.inr fun ho=>?_⟩
      subst ho
      refine r_ib (r_sq ?_)
      obtain rfl:=someI hr
      exact ret_of hF hS rfl (.tmp rfl .nil) rfl
     ·have hb1:=cond_t hc6 hb1
      refine q_cond_t hF rfl hc6 (q_sr (q_s hF rfl fun a hF=>q_end (n_sq (q_ret (r_sq (r_ib (r_sq ?_)))))))
      obtain rfl:=someI hb1
      refine ⟨nofun,.inr fun ho=>?_⟩
      subst ho
      refine r_ib (r_sq ?_)
      obtain rfl:=someI hr
      exact ret_of hF hS rfl (.tmp rfl .nil) rfl
 ·rintro e a w ⟨rfl,rfl,hF,hS⟩
  refine x_ib (n_sq ?_)
  refine q_sr (q_m hF rfl fun a hF=>q_y (v:=(iV (goLen p_a))) hF hS (ex_len U48 rfl h1.len) fun a hF=>q_m hF rfl fun a hF=>q_y (v:=(iV (goLen p_b))) hF hS (ex_len U48 rfl h2.len) fun a hF=>q_y (v:=(iV (w64 ((goLen p_a) - (goLen p_b))))) hF hS (ex_ibin rfl rfl rfl) fun a hF=>?_)
  obtain ⟨t_13,ht_13,hr⟩:=bindS hr
  refine q_call (vs:=[(iV (w64 ((goLen p_a) - (goLen p_b))))]) hF hS Tryz.func64 (by kernel_rfl) rfl rfl rfl (c_spec_l1Sign (w64 ((goLen p_a) - (goLen p_b))) t_13 ht_13 _ m hS.vis) ?_
  rintro a w _ rfl hF hS
  refine q_s hF rfl fun a hF=>q_end (n_sq (q_ret ?_))
  obtain rfl:=someI hr
  exact ret_of hF hS rfl (.tmp rfl .nil) rfl

theorem c_spec_l1Own (p_l : List Int) (r : (List Int)) (hr : spec_l1Own p_l = some r) (w0 : World) (m : Mem) (hv : Vis m w0) (s1 : Sl) (h1 : Rd m s1 p_l) :
  Ret Tryz.prog 68 [s1.v] w0 (fun v w=>∃ (q0' : Piece) (s0' : Sl),v = s0'.v∧St [] w0 w m [q0']∧OwnL m 3 q0' s0' r):=by
 unfold spec_l1Own at hr
 refine ret_start Tryz.func68 rfl 6 rfl rfl m hv fun a hF hS=>q_sr (q_s hF rfl fun a hF=>q_end (n_sq (q_sr (q_do rfl fun _ hK=>wp_build0 (α:=Int) hF hS U48 inf3 rfl fun a w q2 s2 hF hS h2 _=>hK _ _ (q_m hF rfl fun a hF=>?_)))))
 obtain ⟨l_3,hl_3,hr⟩:=bindS hr
 refine q_do rfl fun _ hK=>wp_append hF hS h2 U48 inf3 rfl rfl rfl rfl (h1.vw hS.vis) rfl (by decide) hl_3 rfl fun a w q4 s4 hF hS h4=>hK _ _ (q_s hF rfl fun a hF=>q_end (n_sq (q_ret ?_)))
 obtain rfl:=someI hr
 exact ret_of hF hS rfl (.tmp rfl .nil) ⟨q4,s4,rfl,hS.sel [0] (by decide),h4⟩

theorem c_spec_tOwn (p_x : List (List Int)) (r : (List (List Int))) (hr : spec_tOwn p_x = some r) (w0 : World) (m : Mem) (hv : Vis m w0) (s1 : Sl) (h1 : Rd m s1 p_x) :
  Ret Tryz.prog 37 [s1.v] w0 (fun v w=>∃ (q0' : Piece) (s0' : Sl),v = s0'.v∧St [] w0 w m [q0']∧OwnD m 48 3 q0' s0' r):=by
 unfold spec_tOwn at hr
 refine ret_start Tryz.func37 rfl 19 rfl rfl m hv fun a hF hS=>q_sr (q_s hF rfl fun a hF=>q_end (n_sq (q_sr (q_s hF rfl fun a hF=>q_end (n_sq (q_seq (q_sr (q_m hF rfl fun a hF=>q_y (v:=(iV (goLen p_x))) hF hS (ex_len U23 rfl h1.len) fun a hF=>q_m hF rfl fun a hF=>q_end (n_sq (q_block ?_))))))))))
 obtain ⟨out_14,hl1,hr⟩:=bindS hr
 refine q_loop (fun (s : (List (List Int)) × Int) a w=>∃ (q3 : Piece),∃ (s3 : Sl),∃ out_2,∃ t_4,s = (out_2,t_4)∧Fr a 19 [(3,s3.v),(6,s1.v),(7,(iV (goLen p_x))),(8,(iV t_4))]∧St [] w0 w m [q3]∧OwnD m 48 3 q3 s3 out_2) (fun (out_14 : (List (List Int))) e a w=>∃ (q15 : Piece),∃ (s15 : Sl),e = .exit 0∧Fr a 19 [(3,s15.v)]∧St [] w0 w m [q15]∧OwnD m 48 3 q15 s15 out_14) hl1 ⟨[],nilS,_,_,rfl,hF.sub ⟨rfl,rfl,rfl,rfl,trivial⟩,hS.sel [0] (by decide),(OwnD.nil (β:=Int) m 48 3)⟩ ?_ ?_
 ·clear hF hS
  rintro s a w st ⟨q3,s3,out_2,t_4,rfl,hF,hS,h3⟩ hb1
  unfold spec_tOwn_l1 at hb1
  refine q_sr (q_y (v:=(.bool (decide (t_4 < (goLen p_x))))) hF hS (ex_ibin rfl rfl rfl) fun a hF=>q_end (n_sq (q_seq ?_)))
  rcases bcase (decide (t_4 < (goLen p_x))) with hc2 | hc2
  ·have hb1:=cond_f hc2 hb1
   refine q_cond_f hF rfl hc2 (q_exit (x_sq ?_))
   obtain rfl:=someI hb1
   exact ⟨nofun,.inl ⟨q3,s3,rfl,hF.sub ⟨rfl,trivial⟩,hS,h3⟩⟩
  ·have hb1:=cond_t hc2 hb1
   refine q_cond_t hF rfl hc2 (q_skipc (n_sq (q_seq (q_block (q_seq (q_region ?_))))))
   obtain ⟨e_5,he_5,hb1⟩:=bindS hb1
   obtain ⟨vs6,at6,d6⟩:=h1.at he_5 1 rfl
   obtain ⟨s7,rfl,h7⟩ : ∃ s7 : Sl,vs6 = [s7.v]∧Rd m s7 e_5:=d6
   refine q_y (v:=(elP s1 (t_4.toNat * 1))) hF hS (ex_indexAddr U23 sz48 rfl rfl (h1.idx he_5)) fun a hF=>q_y (v:=s7.v) hF hS (ex_loadE1 0 U48 rfl rfl ((at6).at) rfl rfl) fun a hF=>q_s hF rfl fun a hF=>q_end (n_sq (q_region (q_m hF rfl fun a hF=>q_m hF rfl fun a hF=>?_)))
   obtain ⟨t_8,ht_8,hb1⟩:=bindS hb1
   refine q_call (vs:=[s7.v]) hF hS Tryz.func68 (by kernel_rfl) rfl rfl rfl (c_spec_l1Own e_5 t_8 ht_8 _ m hS.vis s7 h7) ?_
   rintro a w _ ⟨q10,s10,rfl,hR9,h10⟩ hF hS2
   have hS : St _ _ _ _ [q10,q3]:=hS.joinF hR9
   refine q_do rfl fun _ hK=>wp_build1D hF hS h10 U23 inf48 rfl rfl rfl fun a w q11 s11 hF hS h11 _=>hK _ _ ?_
   have hS : St _ _ _ _ [q3,q11]:=hS.sel [1,0] (by decide)
   obtain ⟨l_12,hl_12,hb1⟩:=bindS hb1
   refine q_do rfl fun _ hK=>wp_appendD hF hS h3 h11 U23 inf48 rfl rfl rfl (by decide) hl_12 rfl fun a w q13 s13 hF hS h13=>hK _ _ (q_s hF rfl fun a hF=>q_end (n_ib (n_sq (q_region (q_y (v:=(iV (w64 (t_4 + 1)))) hF hS (ex_ibin rfl rfl rfl) fun a hF=>q_m hF rfl fun a hF=>q_end ?_)))))
   obtain rfl:=someI hb1
   exact ⟨rfl,q13,s13,_,_,rfl,hF.sub ⟨rfl,rfl,rfl,rfl,trivial⟩,hS,h13⟩
 ·rintro e a w ⟨q15,s15,rfl,hF,hS,h15⟩
  refine x_ib (n_sq ?_)
  refine q_sr (q_m hF rfl fun a hF=>q_s hF rfl fun a hF=>q_end (n_sq (q_ret ?_)))
  obtain rfl:=someI hr
  exact ret_of hF hS rfl (.tmp rfl .nil) ⟨q15,s15,rfl,hS.sel [0] (by decide),h15⟩

theorem c_spec_vWith (p_p : List (List Int)) (p_cells : List Int) (r : (List (List Int))) (hr : spec_vWith p_p p_cells = some r) (w0 : World) (m : Mem) (hv : Vis m w0) (s1 : Sl) (h1 : Rd m s1 p_p) (s2 : Sl) (h2 : Rd m s2 p_cells) :
  Ret Tryz.prog 35 [s1.v,s2.v] w0 (fun v w=>∃ (q0' : Piece) (s0' : Sl),v = s0'.v∧St [] w0 w m [q0']∧OwnD m 48 3 q0' s0' r):=by
 unfold spec_vWith at hr
 refine ret_start Tryz.func35 rfl 34 rfl rfl m hv fun a hF hS=>q_sr (q_s hF rfl fun a hF=>q_end (n_sq (q_sr (q_m hF rfl fun a hF=>?_))))
 obtain ⟨t_3,ht_3,hr⟩:=bindS hr
 refine q_call (vs:=[s1.v]) hF hS Tryz.func37 (by kernel_rfl) rfl rfl rfl (c_spec_tOwn p_p t_3 ht_3 _ m hS.vis s1 h1) ?_
 rintro a w _ ⟨q5,s5,rfl,hR4,h5⟩ hF hS2
 have hS : St _ _ _ _ [q5]:=hS.joinF hR4
 refine q_s hF rfl fun a hF=>q_end (n_sq (q_seq (q_sr (q_m hF rfl fun a hF=>q_y (v:=(iV (goLen p_cells))) hF hS (ex_len U48 rfl h2.len) fun a hF=>q_m hF rfl fun a hF=>q_end (n_sq (q_block ?_))))))
 obtain ⟨out_24,hl1,hr⟩:=bindS hr
 refine q_loop (fun (s : (List (List Int)) × Int) a w=>∃ (q7 : Piece),∃ out_6,∃ t_8,s = (out_6,t_8)∧Fr a 34 [(0,s1.v),(5,s5.v),(10,s2.v),(11,(iV (goLen p_cells))),(12,(iV t_8))]∧St [] w0 w m [q7]∧OwnD m 48 3 q7 s5 out_6) (fun (out_24 : (List (List Int))) e a w=>∃ (q25 : Piece),e = .exit 0∧Fr a 34 [(5,s5.v)]∧St [] w0 w m [q25]∧OwnD m 48 3 q25 s5 out_24) hl1 ⟨q5,_,_,rfl,hF.sub ⟨rfl,rfl,rfl,rfl,rfl,trivial⟩,hS,h5⟩ ?_ ?_
 ·clear hF hS
  rintro s a w st ⟨q7,out_6,t_8,rfl,hF,hS,h7⟩ hb1
  unfold spec_vWith_l1 at hb1
  refine q_sr (q_y (v:=(.bool (decide (t_8 < (goLen p_cells))))) hF hS (ex_ibin rfl rfl rfl) fun a hF=>q_end (n_sq (q_seq ?_)))
  rcases bcase (decide (t_8 < (goLen p_cells))) with hc2 | hc2
  ·have hb1:=cond_f hc2 hb1
   refine q_cond_f hF rfl hc2 (q_exit (x_sq ?_))
   obtain rfl:=someI hb1
   exact ⟨nofun,.inl ⟨q7,rfl,hF.sub ⟨rfl,trivial⟩,hS,h7⟩⟩
  ·have hb1:=cond_t hc2 hb1
   refine q_cond_t hF rfl hc2 (q_skipc (n_sq (q_seq (q_block (q_seq (q_region ?_))))))
   obtain ⟨e_9,he_9,hb1⟩:=bindS hb1
   obtain ⟨vs10,at10,d10⟩:=h2.at he_9 1 rfl
   obtain rfl : vs10 = [(iV e_9)]:=d10
   refine q_y (v:=(elP s2 (t_8.toNat * 1))) hF hS (ex_indexAddr U48 sz3 rfl rfl (h2.idx he_9)) fun a hF=>q_y (v:=(iV e_9)) hF hS (ex_loadE1 0 U3 rfl rfl ((at10).at) rfl rfl) fun a hF=>q_s hF rfl fun a hF=>q_end (n_sq (e_region ⟨[16],[],m⟩ mixed fun w' hw'=>?_))
   have hS:=hS.below hw'
   refine e_P (v:=s5.v) 0 hF rfl (ex_move rfl) fun a hF=>e_P (v:=(iV e_9)) 1 hF rfl (ex_move rfl) fun a hF=>e_P (v:=s1.v) 2 hF rfl (ex_move rfl) fun a hF=>?_
   obtain ⟨e_11,he_11,hb1⟩:=bindS hb1
   obtain ⟨vs12,at12,d12⟩:=h1.at he_11 1 rfl
   obtain ⟨s13,rfl,h13⟩ : ∃ s13 : Sl,vs12 = [s13.v]∧Rd m s13 e_11:=d12
   refine e_P (v:=(elP s1 ((0 : Int).toNat * 1))) 3 hF rfl (ex_indexAddr U23 sz48 rfl rfl (h1.idx he_11)) fun a hF=>e_xm (v:=s13.v) 4 hF hS (Mem.le.refl _) rfl (ex_loadE1 0 U48 rfl rfl ((at12).at) rfl rfl) rfl rfl (by kernel_rfl) (by kernel_rfl) (by kernel_rfl) fun a hF=>e_P (v:=(iV (goLen e_11))) 5 hF rfl (ex_len U48 rfl h13.len) fun a hF=>?_
   obtain ⟨t_14,ht_14,hb1⟩:=bindS hb1
   refine e_P (v:=(iV t_14)) 6 hF rfl (ex_quo rfl rfl ht_14) fun a hF=>?_
   obtain ⟨e_15,he_15,hb1⟩:=bindS hb1
   obtain ⟨s16,hV16⟩:=h7.view he_15
   refine e_P (v:=(elP s5 (t_14.toNat * 1))) 7 hF rfl (ex_indexAddr U23 sz48 rfl rfl (h7.idx he_15)) fun a hF=>e_X (v:=s16.v) 8 hF hS rfl (ex_loadE1 0 U48 rfl rfl ((hV16.atH he_15).at 0 rfl) rfl rfl) fun a hF=>e_P (v:=(iV e_9)) 9 hF rfl (ex_move rfl) fun a hF=>e_P (v:=s1.v) 10 hF rfl (ex_move rfl) fun a hF=>?_
   obtain ⟨e_17,he_17,hb1⟩:=bindS hb1
   obtain ⟨vs18,at18,d18⟩:=h1.at he_17 1 rfl
   obtain ⟨s19,rfl,h19⟩ : ∃ s19 : Sl,vs18 = [s19.v]∧Rd m s19 e_17:=d18
   refine e_P (v:=(elP s1 ((0 : Int).toNat * 1))) 11 hF rfl (ex_indexAddr U23 sz48 rfl rfl (h1.idx he_17)) fun a hF=>e_xm (v:=s19.v) 12 hF hS (Mem.le.refl _) rfl (ex_loadE1 0 U48 rfl rfl ((at18).at) rfl rfl) rfl rfl (by kernel_rfl) (by kernel_rfl) (by kernel_rfl) fun a hF=>e_P (v:=(iV (goLen e_17))) 13 hF rfl (ex_len U48 rfl h19.len) fun a hF=>?_
   obtain ⟨t_20,ht_20,hb1⟩:=bindS hb1
   refine e_P (v:=(iV t_20)) 14 hF rfl (ex_rem rfl rfl ht_20) fun a hF=>?_
   obtain ⟨e_21,he_21,hb1⟩:=bindS hb1
   obtain ⟨vs22,at22,d22⟩:=hV16.at he_15 he_21 1 rfl
   obtain rfl : vs22 = [(iV e_21)]:=d22
   refine e_P (v:=(elP s16 (t_20.toNat * 1))) 15 hF rfl (ex_indexAddr U48 sz3 rfl rfl (hV16.idx he_15 he_21)) fun a hF=>e_one 16 (by kernel_rfl) (e_opl rfl rfl rfl fun _ hK=>wp_storeV (e':=1) (us:=[(iV 1)]) (vs:=[(iV e_21)]) 0 hF hS hV16 he_15 sz3 rfl rfl rfl rfl rfl rfl rfl he_21 at22 rfl rfl rfl fun w q23 hS h23=>hK _ _ (⟨⟨kpN,fun _=>hS.vis.of_le (Mem.le.refl _)⟩,?_⟩))
   refine e_end (by kernel_rfl) (n_ib (n_sq ?_)) _
   refine q_region (q_y (v:=(iV (w64 (t_8 + 1)))) hF hS (ex_ibin rfl rfl rfl) fun a hF=>q_m hF rfl fun a hF=>q_end ?_)
   obtain rfl:=someI hb1
   exact ⟨rfl,q23,_,_,rfl,hF.sub ⟨rfl,rfl,rfl,rfl,rfl,trivial⟩,hS,h23.own⟩
 ·rintro e a w ⟨q25,rfl,hF,hS,h25⟩
  refine x_ib (n_sq ?_)
  refine q_sr (q_m hF rfl fun a hF=>q_s hF rfl fun a hF=>q_end (n_sq (q_ret ?_)))
  obtain rfl:=someI hr
  exact ret_of hF hS rfl (.tmp rfl .nil) ⟨q25,s5,rfl,hS.sel [0] (by decide),h25⟩

theorem c_spec_tSum (p_l : List Int) (r : Int) (hr : spec_tSum p_l = some r) (w0 : World) (m : Mem) (hv : Vis m w0) (s1 : Sl) (h1 : Rd m s1 p_l) :
  Ret Tryz.prog 88 [s1.v] w0 (fun v _=>v = (iV r)):=by
 unfold spec_tSum at hr
 refine ret_start Tryz.func88 rfl 17 rfl rfl m hv fun a hF hS=>q_sr (q_s hF rfl fun a hF=>q_end (n_sq (q_sr (q_s hF rfl fun a hF=>q_end (n_sq (q_seq (q_sr (q_m hF rfl fun a hF=>q_y (v:=(iV (goLen p_l))) hF hS (ex_len U48 rfl h1.len) fun a hF=>q_m hF rfl fun a hF=>q_end (n_sq (q_block ?_))))))))))
 obtain ⟨sum_6,hl1,hr⟩:=bindS hr
 refine q_loop (fun (s : Int × Int) a w=>∃ sum_2,∃ t_3,s = (sum_2,t_3)∧Fr a 17 [(3,(iV sum_2)),(6,s1.v),(7,(iV (goLen p_l))),(8,(iV t_3))]∧St [] w0 w m []) (fun (sum_6 : Int) e a w=>e = .exit 0∧Fr a 17 [(3,(iV sum_6))]∧St [] w0 w m []) hl1 ⟨_,_,rfl,hF.sub ⟨rfl,rfl,rfl,rfl,trivial⟩,hS⟩ ?_ ?_
 ·clear hF hS
  rintro s a w st ⟨sum_2,t_3,rfl,hF,hS⟩ hb1
  unfold spec_tSum_l1 at hb1
  refine q_sr (q_y (v:=(.bool (decide (t_3 < (goLen p_l))))) hF hS (ex_ibin rfl rfl rfl) fun a hF=>q_end (n_sq (q_seq ?_)))
  rcases bcase (decide (t_3 < (goLen p_l))) with hc2 | hc2
  ·have hb1:=cond_f hc2 hb1
   refine q_cond_f hF rfl hc2 (q_exit (x_sq ?_))
   obtain rfl:=someI hb1
   exact ⟨nofun,.inl ⟨rfl,hF.sub ⟨rfl,trivial⟩,hS⟩⟩
  ·have hb1:=cond_t hc2 hb1
   refine q_cond_t hF rfl hc2 (q_skipc (n_sq (q_seq (q_block (q_seq (q_region ?_))))))
   obtain ⟨e_4,he_4,hb1⟩:=bindS hb1
   obtain ⟨vs5,at5,d5⟩:=h1.at he_4 1 rfl
   obtain rfl : vs5 = [(iV e_4)]:=d5
   refine q_y (v:=(elP s1 (t_3.toNat * 1))) hF hS (ex_indexAddr U48 sz3 rfl rfl (h1.idx he_4)) fun a hF=>q_y (v:=(iV e_4)) hF hS (ex_loadE1 0 U3 rfl rfl ((at5).at) rfl rfl) fun a hF=>q_s hF rfl fun a hF=>q_end (n_sq (q_region (q_m hF rfl fun a hF=>q_m hF rfl fun a hF=>q_y (v:=(iV (w64 (sum_2 + e_4)))) hF hS (ex_ibin rfl rfl rfl) fun a hF=>q_s hF rfl fun a hF=>q_end (n_ib (n_sq (q_region (q_y (v:=(iV (w64 (t_3 + 1)))) hF hS (ex_ibin rfl rfl rfl) fun a hF=>q_m hF rfl fun a hF=>q_end ?_)))))))
   obtain rfl:=someI hb1
   exact ⟨rfl,_,_,rfl,hF.sub ⟨rfl,rfl,rfl,rfl,trivial⟩,hS⟩
 ·rintro e a w ⟨rfl,hF,hS⟩
  refine x_ib (n_sq ?_)
  refine q_sr (q_m hF rfl fun a hF=>q_s hF rfl fun a hF=>q_end (n_sq (q_ret ?_)))
  obtain rfl:=someI hr
  exact ret_of hF hS rfl (.tmp rfl .nil) rfl

theorem c_spec_tColumn (p_x : List (List Int)) (p_j : Int) (r : (List Int)) (hr : spec_tColumn p_x p_j = some r) (w0 : World) (m : Mem) (hv : Vis m w0) (s1 : Sl) (h1 : Rd m s1 p_x) :
  Ret Tryz.prog 89 [s1.v,(iV p_j)] w0 (fun v w=>∃ (q0' : Piece) (s0' : Sl),v = s0'.v∧St [] w0 w m [q0']∧OwnL m 3 q0' s0' r):=by
 unfold spec_tColumn at hr
 refine ret_start Tryz.func89 rfl 23 rfl rfl m hv fun a hF hS=>q_sr (q_s hF rfl fun a hF=>q_end (n_sq (q_sr (q_s hF rfl fun a hF=>q_end (n_sq (q_seq (q_sr (q_m hF rfl fun a hF=>q_y (v:=(iV (goLen p_x))) hF hS (ex_len U23 rfl h1.len) fun a hF=>q_m hF rfl fun a hF=>q_end (n_sq (q_block ?_))))))))))
 obtain ⟨out_13,hl1,hr⟩:=bindS hr
 refine q_loop (fun (s : (List Int) × Int) a w=>∃ (q3 : Piece),∃ (s3 : Sl),∃ out_2,∃ t_4,s = (out_2,t_4)∧Fr a 23 [(1,(iV p_j)),(5,s3.v),(8,s1.v),(9,(iV (goLen p_x))),(10,(iV t_4))]∧St [] w0 w m [q3]∧OwnL m 3 q3 s3 out_2) (fun (out_13 : (List Int)) e a w=>∃ (q14 : Piece),∃ (s14 : Sl),e = .exit 0∧Fr a 23 [(5,s14.v)]∧St [] w0 w m [q14]∧OwnL m 3 q14 s14 out_13) hl1 ⟨[],nilS,_,_,rfl,hF.sub ⟨rfl,rfl,rfl,rfl,rfl,trivial⟩,hS.sel [0] (by decide),(OwnL.nil (α:=Int) m 3)⟩ ?_ ?_
 ·clear hF hS
  rintro s a w st ⟨q3,s3,out_2,t_4,rfl,hF,hS,h3⟩ hb1
  unfold spec_tColumn_l1 at hb1
  refine q_sr (q_y (v:=(.bool (decide (t_4 < (goLen p_x))))) hF hS (ex_ibin rfl rfl rfl) fun a hF=>q_end (n_sq (q_seq ?_)))
  rcases bcase (decide (t_4 < (goLen p_x))) with hc2 | hc2
  ·have hb1:=cond_f hc2 hb1
   refine q_cond_f hF rfl hc2 (q_exit (x_sq ?_))
   obtain rfl:=someI hb1
   exact ⟨nofun,.inl ⟨q3,s3,rfl,hF.sub ⟨rfl,trivial⟩,hS,h3⟩⟩
  ·have hb1:=cond_t hc2 hb1
   refine q_cond_t hF rfl hc2 (q_skipc (n_sq (q_seq (q_block (q_seq (q_region ?_))))))
   obtain ⟨e_5,he_5,hb1⟩:=bindS hb1
   obtain ⟨vs6,at6,d6⟩:=h1.at he_5 1 rfl
   obtain ⟨s7,rfl,h7⟩ : ∃ s7 : Sl,vs6 = [s7.v]∧Rd m s7 e_5:=d6
   refine q_y (v:=(elP s1 (t_4.toNat * 1))) hF hS (ex_indexAddr U23 sz48 rfl rfl (h1.idx he_5)) fun a hF=>q_y (v:=s7.v) hF hS (ex_loadE1 0 U48 rfl rfl ((at6).at) rfl rfl) fun a hF=>q_s hF rfl fun a hF=>q_end (n_sq (q_region (q_m hF rfl fun a hF=>q_m hF rfl fun a hF=>q_m hF rfl fun a hF=>?_)))
   obtain ⟨e_8,he_8,hb1⟩:=bindS hb1
   obtain ⟨vs9,at9,d9⟩:=h7.at he_8 1 rfl
   obtain rfl : vs9 = [(iV e_8)]:=d9
   refine q_y (v:=(elP s7 (p_j.toNat * 1))) hF hS (ex_indexAddr U48 sz3 rfl rfl (h7.idx he_8)) fun a hF=>q_y (v:=(iV e_8)) hF hS (ex_loadE1 0 U3 rfl rfl ((at9).at) rfl rfl) fun a hF=>q_do rfl fun _ hK=>wp_buildSlice' (l:=([e_8] : List Int)) (cells:=[(iV e_8)]) hF hS U48 inf3 rfl rfl (by kernel_rfl) rfl rfl rfl ⟨rfl,rfl⟩ rfl rfl fun a w q10 s10 hF hS h10 _=>hK _ _ ?_
   have hS : St _ _ _ _ [q3,q10]:=hS.sel [1,0] (by decide)
   obtain ⟨l_11,hl_11,hb1⟩:=bindS hb1
   refine q_do rfl fun _ hK=>wp_append hF hS h3 U48 inf3 rfl rfl rfl rfl (h10.vw hS (j:=1) rfl) rfl (by decide) hl_11 rfl fun a w q12 s12 hF hS h12=>hK _ _ (q_s hF rfl fun a hF=>q_end (n_ib (n_sq (q_region (q_y (v:=(iV (w64 (t_4 + 1)))) hF hS (ex_ibin rfl rfl rfl) fun a hF=>q_m hF rfl fun a hF=>q_end ?_)))))
   obtain rfl:=someI hb1
   exact ⟨rfl,q12,s12,_,_,rfl,hF.sub ⟨rfl,rfl,rfl,rfl,rfl,trivial⟩,hS.mask [true,false],h12⟩
 ·rintro e a w ⟨q14,s14,rfl,hF,hS,h14⟩
  refine x_ib (n_sq ?_)
  refine q_sr (q_m hF rfl fun a hF=>q_s hF rfl fun a hF=>q_end (n_sq (q_ret ?_)))
  obtain rfl:=someI hr
  exact ret_of hF hS rfl (.tmp rfl .nil) ⟨q14,s14,rfl,hS.sel [0] (by decide),h14⟩

theorem c_spec_vAlone (p_p : List (List Int)) (p_primary : List (List Int)) (r : Bool) (hr : spec_vAlone p_p p_primary = some r) (w0 : World) (m : Mem) (hv : Vis m w0) (s1 : Sl) (h1 : Rd m s1 p_p) (s2 : Sl) (h2 : Rd m s2 p_primary) :
  Ret Tryz.prog 65 [s1.v,s2.v] w0 (fun v _=>v = (.bool r)):=by
 unfold spec_vAlone at hr
 refine ret_start Tryz.func65 rfl 42 rfl rfl m hv fun a hF hS=>q_sr (q_s hF rfl fun a hF=>q_end (n_sq (q_seq (q_sr (q_m hF rfl fun a hF=>q_y (v:=(iV (goLen p_primary))) hF hS (ex_len U23 rfl h2.len) fun a hF=>q_m hF rfl fun a hF=>q_end (n_sq (q_block ?_)))))))
 obtain ⟨o1,hl1,hr⟩:=bindS hr
 refine q_loop (fun (t_3 : Int) a w=>Fr a 42 [(0,s1.v),(9,s2.v),(10,(iV (goLen p_primary))),(11,(iV t_3))]∧St [] w0 w m []) (fun (o : (Unit) ⊕ (Bool)) e a w=>o = .inl ()∧e = .exit 0∧Fr a 42 []∧St [] w0 w m []) hl1 ⟨hF.sub ⟨rfl,rfl,rfl,rfl,trivial⟩,hS⟩ ?_ ?_
 ·clear hF hS
  rintro t_3 a w st ⟨hF,hS⟩ hb1
  unfold spec_vAlone_l1 at hb1
  refine q_sr (q_y (v:=(.bool (decide (t_3 < (goLen p_primary))))) hF hS (ex_ibin rfl rfl rfl) fun a hF=>q_end (n_sq (q_seq ?_)))
  rcases bcase (decide (t_3 < (goLen p_primary))) with hc2 | hc2
  ·have hb1:=cond_f hc2 hb1
   refine q_cond_f hF rfl hc2 (q_exit (x_sq ?_))
   obtain rfl:=someI hb1
   exact ⟨nofun,.inl ⟨rfl,rfl,hF.sub trivial,hS⟩⟩
  ·have hb1:=cond_t hc2 hb1
   refine q_cond_t hF rfl hc2 (q_skipc (n_sq (q_seq (q_block (q_sr (q_m hF rfl fun a hF=>?_))))))
   obtain ⟨e_4,he_4,hb1⟩:=bindS hb1
   obtain ⟨vs5,at5,d5⟩:=h2.at he_4 1 rfl
   obtain ⟨s6,rfl,h6⟩ : ∃ s6 : Sl,vs5 = [s6.v]∧Rd m s6 e_4:=d5
   refine q_y (v:=(elP s2 (t_3.toNat * 1))) hF hS (ex_indexAddr U23 sz48 rfl rfl (h2.idx he_4)) fun a hF=>q_y (v:=s6.v) hF hS (ex_loadE1 0 U48 rfl rfl ((at5).at) rfl rfl) fun a hF=>q_s hF rfl fun a hF=>q_s hF rfl fun a hF=>q_end (n_sq (q_sr (q_m hF rfl fun a hF=>q_y (v:=(iV (goLen e_4))) hF hS (ex_len U48 rfl h6.len) fun a hF=>q_m hF rfl fun a hF=>q_end (n_sq (q_block ?_)))))
   obtain ⟨o3,hl3,hb1⟩:=bindS hb1
   refine q_loop (fun (t_7 : Int) a w=>Fr a 42 [(0,s1.v),(5,(iV t_3)),(9,s2.v),(10,(iV (goLen p_primary))),(11,(iV t_3)),(16,s6.v),(17,(iV (goLen e_4))),(18,(iV t_7))]∧St [] w0 w m []) (fun (o : (Unit) ⊕ (Stp (Int) ((Unit) ⊕ (Bool)))) e a w=>o = .inl ()∧e = .exit 2∧Fr a 42 [(0,s1.v),(9,s2.v),(10,(iV (goLen p_primary))),(11,(iV t_3))]∧St [] w0 w m []) hl3 ⟨hF.sub ⟨rfl,rfl,rfl,rfl,rfl,rfl,rfl,rfl,trivial⟩,hS⟩ ?_ ?_
   ·clear hF hS
    rintro t_7 a w st ⟨hF,hS⟩ hb3
    unfold spec_vAlone_l2 at hb3
    refine q_sr (q_y (v:=(.bool (decide (t_7 < (goLen e_4))))) hF hS (ex_ibin rfl rfl rfl) fun a hF=>q_end (n_sq (q_seq ?_)))
    rcases bcase (decide (t_7 < (goLen e_4))) with hc4 | hc4
    ·have hb3:=cond_f hc4 hb3
     refine q_cond_f hF rfl hc4 (q_exit (x_sq ?_))
     obtain rfl:=someI hb3
     exact ⟨nofun,.inl ⟨rfl,rfl,hF.sub ⟨rfl,rfl,rfl,rfl,trivial⟩,hS⟩⟩
    ·have hb3:=cond_t hc4 hb3
     refine q_cond_t hF rfl hc4 (q_skipc (n_sq (q_seq (q_block (q_sr (q_m hF rfl fun a hF=>?_))))))
     obtain ⟨e_8,he_8,hb3⟩:=bindS hb3
     obtain ⟨vs9,at9,d9⟩:=h6.at he_8 1 rfl
     obtain rfl : vs9 = [(iV e_8)]:=d9
     refine q_y (v:=(elP s6 (t_7.toNat * 1))) hF hS (ex_indexAddr U48 sz3 rfl rfl (h6.idx he_8)) fun a hF=>q_y (v:=(iV e_8)) hF hS (ex_loadE1 0 U3 rfl rfl ((at9).at) rfl rfl) fun a hF=>q_s hF rfl fun a hF=>q_s hF rfl fun a hF=>q_end (n_sq (q_seq ?_))
     obtain ⟨t_19,hj5,hb3⟩:=bindS hb3
     refine q_join (fun a w=>Fr a 42 [(0,s1.v),(5,(iV t_3)),(9,s2.v),(10,(iV (goLen p_primary))),(11,(iV t_3)),(16,s6.v),(17,(iV (goLen e_4))),(18,(iV t_7)),(39,(.bool t_19))]∧St [] w0 w m []) ?_ ?_
     ·refine q_region (q_m hF rfl fun a hF=>q_y (v:=(.bool (e_8 == 1))) hF hS (ex_ibin rfl rfl rfl) fun a hF=>q_m hF rfl fun a hF=>?_)
      rcases bcase (e_8 == 1) with hc6 | hc6
      ·have hj5:=cond_f hc6 hj5
       refine q_k hF hc6 fun a hF=>q_k hF hc6 fun a hF=>q_k hF hc6 fun a hF=>q_k hF hc6 fun a hF=>q_k hF hc6 fun a hF=>q_k hF hc6 fun a hF=>q_k hF hc6 fun a hF=>q_skip hF (wanted_u hF rfl rfl rfl) rfl fun a hF=>q_skip hF (wanted_u hF rfl rfl rfl) rfl fun a hF=>q_skip hF (wanted_u hF rfl rfl rfl) rfl fun a hF=>q_skip hF (wanted_u hF rfl rfl rfl) rfl fun a hF=>q_skip hF (wanted_u hF rfl rfl rfl) rfl fun a hF=>q_k hF hc6 fun a hF=>q_y (v:=(.bool false)) hF hS (ex_pick_f rfl rfl hc6) fun a hF=>q_end (n_jn ?_)
       obtain rfl:=someI hj5
       exact ⟨hF.sub ⟨rfl,rfl,rfl,rfl,rfl,rfl,rfl,rfl,rfl,trivial⟩,hS⟩
      ·have hj5:=cond_t hc6 hj5
       refine q_g (v:=s1.v) hF hS (ex_move rfl) hc6 fun a hF=>q_g (v:=(iV t_3)) hF hS (ex_move rfl) hc6 fun a hF=>?_
       obtain ⟨e_10,he_10,hj5⟩:=bindS hj5
       obtain ⟨vs11,at11,d11⟩:=h1.at he_10 1 rfl
       obtain ⟨s12,rfl,h12⟩ : ∃ s12 : Sl,vs11 = [s12.v]∧Rd m s12 e_10:=d11
       refine q_g (v:=(elP s1 (t_3.toNat * 1))) hF hS (ex_indexAddr U23 sz48 rfl rfl (h1.idx he_10)) hc6 fun a hF=>q_g (v:=s12.v) hF hS (ex_loadE1 0 U48 rfl rfl ((at11).at) rfl rfl) hc6 fun a hF=>?_
       obtain ⟨t_13,ht_13,hj5⟩:=bindS hj5
       refine q_callg (vs:=[s12.v]) hF hS (wanted_t hF rfl rfl rfl hc6) Tryz.func88 (by kernel_rfl) rfl rfl rfl (c_spec_tSum e_10 t_13 ht_13 _ m hS.vis s12 h12) ?_
       rintro a w _ rfl hF hS
       refine q_g (v:=(.bool (t_13 == 1))) hF hS (ex_ibin rfl rfl rfl) hc6 fun a hF=>q_g (v:=(.bool (t_13 == 1))) hF hS (ex_move rfl) hc6 fun a hF=>?_
       rcases bcase (t_13 == 1) with hc7 | hc7
       ·have hj5:=cond_f hc7 hj5
        refine q_g (v:=s1.v) hF hS (ex_move rfl) hc7 fun a hF=>q_g (v:=(iV t_7)) hF hS (ex_move rfl) hc7 fun a hF=>?_
        obtain ⟨t_14,ht_14,hj5⟩:=bindS hj5
        refine q_callg (vs:=[s1.v,(iV t_7)]) hF hS (wanted_t hF rfl rfl rfl hc7) Tryz.func89 (by kernel_rfl) rfl rfl rfl (c_spec_tColumn p_p t_7 t_14 ht_14 _ m hS.vis s1 h1) ?_
        rintro a w _ ⟨q16,s16,rfl,hR15,h16⟩ hF hS2
        have hS : St _ _ _ _ [q16]:=hS.joinF hR15
        obtain ⟨m18,hl18,hv18,hz18⟩:=hS.lend
        obtain ⟨t_17,ht_17,hj5⟩:=bindS hj5
        refine q_callg (vs:=[s16.v]) hF hS (wanted_t hF rfl rfl rfl hc7) Tryz.func88 (by kernel_rfl) rfl rfl rfl (c_spec_tSum t_14 t_17 ht_17 _ m18 hv18 s16 (h16.froz hl18 (hz18 0 _ rfl))) ?_
        rintro a w _ rfl hF hS
        refine q_g (v:=(.bool (t_17 == 1))) hF hS (ex_ibin rfl rfl rfl) hc7 fun a hF=>q_g (v:=(.bool (t_17 == 1))) hF hS (ex_pick_f rfl rfl hc7) hc6 fun a hF=>q_y (v:=(.bool (t_17 == 1))) hF hS (ex_pick_t rfl rfl hc6) fun a hF=>q_end (n_jn ?_)
        obtain rfl:=someI hj5
        exact ⟨hF.sub ⟨rfl,rfl,rfl,rfl,rfl,rfl,rfl,rfl,rfl,trivial⟩,hS.mask [false]⟩
       ·have hj5:=cond_t hc7 hj5
        refine q_k hF hc7 fun a hF=>q_k hF hc7 fun a hF=>q_k hF hc7 fun a hF=>q_k hF hc7 fun a hF=>q_k hF hc7 fun a hF=>q_g (v:=(.bool true)) hF hS (ex_pick_t rfl rfl hc7) hc6 fun a hF=>q_y (v:=(.bool true)) hF hS (ex_pick_t rfl rfl hc6) fun a hF=>q_end (n_jn ?_)
        obtain rfl:=someI hj5
        exact ⟨hF.sub ⟨rfl,rfl,rfl,rfl,rfl,rfl,rfl,rfl,rfl,trivial⟩,hS⟩
     ·rintro a w ⟨hF,hS⟩
      refine n_sq ?_
      rcases bcase (t_19) with hc8 | hc8
      ·have hb3:=cond_f hc8 hb3
       refine q_cond_f hF rfl hc8 (q_skipc (n_ib (n_sq (q_region (q_y (v:=(iV (w64 (t_7 + 1)))) hF hS (ex_ibin rfl rfl rfl) fun a hF=>q_m hF rfl fun a hF=>q_end ?_)))))
       obtain rfl:=someI hb3
       exact ⟨rfl,hF.sub ⟨rfl,rfl,rfl,rfl,rfl,rfl,rfl,rfl,trivial⟩,hS⟩
      ·have hb3:=cond_t hc8 hb3
       refine q_cond_t hF rfl hc8 (q_sr (q_s hF rfl fun a hF=>q_end (n_sq (q_ret (r_ib (r_sq ?_))))))
       obtain rfl:=someI hb3
       refine ⟨nofun,.inr fun ho=>?_⟩
       subst ho
       refine r_ib (r_ib (r_sq ?_))
       obtain rfl:=someI hb1
       refine ⟨nofun,.inr fun ho=>?_⟩
       subst ho
       refine r_ib (r_sq ?_)
       obtain rfl:=someI hr
       exact ret_of hF hS rfl (.tmp rfl .nil) rfl
   ·rintro e a w ⟨rfl,rfl,hF,hS⟩
    refine x_ib (n_ib (n_sq ?_))
    refine q_region (q_y (v:=(iV (w64 (t_3 + 1)))) hF hS (ex_ibin rfl rfl rfl) fun a hF=>q_m hF rfl fun a hF=>q_end ?_)
    obtain rfl:=someI hb1
    exact ⟨rfl,hF.sub ⟨rfl,rfl,rfl,rfl,trivial⟩,hS⟩
 ·rintro e a w ⟨rfl,rfl,hF,hS⟩
  refine x_ib (n_sq ?_)
  refine q_sr (q_s hF rfl fun a hF=>q_end (n_sq (q_ret ?_)))
  obtain rfl:=someI hr
  exact ret_of hF hS rfl (.tmp rfl .nil) rfl

theorem c_spec_qNetwork (p_x : List (List Int)) (p_p : List (List Int)) (r : impl_Transport) (hr : spec_qNetwork p_x p_p = some r) (w0 : World) (m : Mem) (hv : Vis m w0) (s1 : Sl) (h1 : Rd m s1 p_x) (s2 : Sl) (h2 : Rd m s2 p_p) :
  Ret Tryz.prog 90 [s1.v,s2.v] w0 (fun v w=>∃ (m' : Mem) (q0' : Piece) (q1' : Piece) (q2' : Piece) (q3' : Piece) (s0' : Sl) (s1' : Sl) (s2' : Sl) (s3' : Sl),v = (.agg #[s0'.v,s1'.v,s2'.v,s3'.v])∧MLe [] w0.heap.size m m'∧St [] w0 w m' [q0',q1',q2',q3']∧OwnL m' 3 q0' s0' r.Rows∧OwnL m' 3 q1' s1' r.Cols∧OwnL m' 48 q2' s2' r.Lo∧OwnL m' 48 q3' s3' r.Hi):=by
 unfold spec_qNetwork at hr
 refine ret_start Tryz.func90 rfl 89 rfl rfl m hv fun a hF hS=>q_sr (q_alloc (cs:=[nilS.v,nilS.v,nilS.v,nilS.v]) hF hS rfl rfl rfl fun a w b3 hF hS=>q_end (n_sq (q_sr (q_y (v:=(.agg #[nilS.v,nilS.v,nilS.v,nilS.v])) hF hS (ex_build (cells:=[nilS.v,nilS.v,nilS.v,nilS.v]) rfl (by kernel_rfl)) fun a hF=>q_alloc (cs:=[nilS.v,nilS.v,nilS.v,nilS.v]) hF hS rfl rfl rfl fun a w b4 hF hS=>q_store (vs:=[nilS.v,nilS.v,nilS.v,nilS.v]) (cs':=[nilS.v,nilS.v,nilS.v,nilS.v]) 0 0 hF hS sz76 rfl rfl rfl rfl rfl rfl rfl rfl fun a w hF hS=>q_end (n_sq (q_seq (q_sr (q_m hF rfl fun a hF=>q_y (v:=(iV (goLen p_x))) hF hS (ex_len U23 rfl h1.len) fun a hF=>q_m hF rfl fun a hF=>q_end (n_sq (q_block ?_))))))))))
 obtain ⟨t_52,hl1,hr⟩:=bindS hr
 refine q_loop (fun (s : Int × impl_Transport) a w=>∃ (m10 : Mem),∃ (q7 : Piece),∃ (s7 : Sl),∃ (q8 : Piece),∃ (s8 : Sl),∃ (q9 : Piece),∃ (s9 : Sl),∃ t_5,∃ t_6,s = (t_5,t_6)∧Fr a 89 [(0,s1.v),(1,s2.v),(4,(pP b3 0)),(5,(pP b4 0)),(14,s1.v),(15,(iV (goLen p_x))),(16,(iV t_5))]∧St [] w0 w m10 [q7,q8,q9,[⟨b4,[s7.v,nilS.v,s8.v,s9.v],76⟩],[⟨b3,[nilS.v,nilS.v,nilS.v,nilS.v],76⟩]]∧MLe [] w0.heap.size m m10∧OwnL m10 3 q7 s7 t_6.Rows∧OwnL m10 48 q8 s8 t_6.Lo∧OwnL m10 48 q9 s9 t_6.Hi) (fun (t_52 : impl_Transport) e a w=>∃ (m56 : Mem),∃ (q53 : Piece),∃ (s53 : Sl),∃ (q54 : Piece),∃ (s54 : Sl),∃ (q55 : Piece),∃ (s55 : Sl),e = .exit 0∧Fr a 89 [(0,s1.v),(4,(pP b3 0)),(5,(pP b4 0))]∧St [] w0 w m56 [q53,q54,q55,[⟨b4,[s53.v,nilS.v,s54.v,s55.v],76⟩],[⟨b3,[nilS.v,nilS.v,nilS.v,nilS.v],76⟩]]∧MLe [] w0.heap.size m m56∧OwnL m56 3 q53 s53 t_52.Rows∧OwnL m56 48 q54 s54 t_52.Lo∧OwnL m56 48 q55 s55 t_52.Hi) hl1 ⟨m,[],nilS,[],nilS,[],nilS,_,_,rfl,hF.sub ⟨rfl,rfl,rfl,rfl,rfl,rfl,rfl,trivial⟩,hS.sel [2,3,4,0,1] (by decide),(MLe.refl _ _),(OwnL.nil (α:=Int) m 3),(OwnL.nil (α:=List Int) m 48),(OwnL.nil (α:=List Int) m 48)⟩ ?_ ?_
 ·clear hF hS
  rintro s a w st ⟨m10,q7,s7,q8,s8,q9,s9,t_5,t_6,rfl,hF,hS,hm10,h7,h8,h9⟩ hb1
  unfold spec_qNetwork_l1 at hb1
  refine q_sr (q_y (v:=(.bool (decide (t_5 < (goLen p_x))))) hF hS (ex_ibin rfl rfl rfl) fun a hF=>q_end (n_sq (q_seq ?_)))
  rcases bcase (decide (t_5 < (goLen p_x))) with hc2 | hc2
  ·have hb1:=cond_f hc2 hb1
   refine q_cond_f hF rfl hc2 (q_exit (x_sq ?_))
   obtain rfl:=someI hb1
   exact ⟨nofun,.inl ⟨m10,q7,s7,q8,s8,q9,s9,rfl,hF.sub ⟨rfl,rfl,rfl,trivial⟩,hS,hm10,h7,h8,h9⟩⟩
  ·have hb1:=cond_t hc2 hb1
   refine q_cond_t hF rfl hc2 (q_skipc (n_sq (q_seq (q_block (q_sr (q_m hF rfl fun a hF=>?_))))))
   obtain ⟨e_11,he_11,hb1⟩:=bindS hb1
   obtain ⟨vs12,at12,d12⟩:=h1.at he_11 1 rfl
   obtain ⟨s13,rfl,h13⟩ : ∃ s13 : Sl,vs12 = [s13.v]∧Rd m s13 e_11:=d12
   refine q_y (v:=(elP s1 (t_5.toNat * 1))) hF hS (ex_indexAddr U23 sz48 rfl rfl ((h1.mono hm10.le).idx he_11)) fun a hF=>q_y (v:=s13.v) hF hS (ex_loadE1 0 U48 rfl rfl (((at12.mono hm10.le)).at) rfl rfl) fun a hF=>q_s hF rfl fun a hF=>q_s hF rfl fun a hF=>q_end (n_sq (q_seq (e_region ⟨[5,7],[],m10⟩ mixed fun w' hw'=>?_)))
   have hS:=hS.below hw'
   refine e_P (v:=(pP b4 0)) 0 hF rfl (ex_fieldAddr U76 rfl sz48 rfl rfl) fun a hF=>e_X (v:=s7.v) 1 hF hS rfl (ex_load1 3 0 U48 rfl rfl rfl rfl) fun a hF=>e_P (v:=s13.v) 2 hF rfl (ex_move rfl) fun a hF=>e_one 3 (by kernel_rfl) ?_
   obtain ⟨t_14,ht_14,hb1⟩:=bindS hb1
   refine e_call (vs:=[s13.v]) hF hS rfl Tryz.func88 (by kernel_rfl) rfl rfl rfl (c_spec_tSum e_11 t_14 ht_14 _ m10 hS.vis s13 (h13.mono hm10.le)) ?_
   rintro a w _ rfl hF hS
   refine e_one 4 (by kernel_rfl) (e_op rfl rfl fun _ hK=>wp_buildSlice' (l:=([t_14] : List Int)) (cells:=[(iV t_14)]) hF hS U48 inf3 rfl rfl (by kernel_rfl) rfl rfl rfl ⟨rfl,rfl⟩ rfl rfl fun a w q15 s15 hF hS h15 hb=>hK _ _ hb (e_one 5 (by kernel_rfl) ?_))
   have hS : St _ _ _ _ [q7,q15,q8,q9,[⟨b4,[s7.v,nilS.v,s8.v,s9.v],76⟩],[⟨b3,[nilS.v,nilS.v,nilS.v,nilS.v],76⟩]]:=hS.sel [1,0,2,3,4,5] (by decide)
   obtain ⟨l_16,hl_16,hb1⟩:=bindS hb1
   refine e_opl rfl rfl rfl fun _ hK=>wp_append hF hS h7 U48 inf3 rfl rfl rfl rfl (h15.vw hS (j:=1) rfl) rfl (by decide) hl_16 rfl fun a w q17 s17 hF hS h17=>hK _ _ (⟨⟨kpN,fun _=>hS.vis.of_le (Mem.le.refl _)⟩,?_⟩)
   refine e_P (v:=(pP b4 0)) 6 hF rfl (ex_fieldAddr U76 rfl sz48 rfl rfl) fun a hF=>e_one 7 (by kernel_rfl) (e_store (vs:=[s17.v]) (cs':=[s17.v,nilS.v,s8.v,s9.v]) 4 0 hF hS rfl rfl sz48 rfl rfl rfl rfl rfl rfl rfl rfl fun a w hF hS=>⟨⟨kpN,fun _=>hS.vis.of_le (Mem.le.refl _)⟩,?_⟩)
   refine e_end (by kernel_rfl) (n_sq ?_) _
   refine q_sr (q_s hF rfl fun a hF=>q_s hF rfl fun a hF=>q_end (n_sq (q_seq (q_sr (q_m hF rfl fun a hF=>q_y (v:=(iV (goLen e_11))) hF hS (ex_len U48 rfl (h13.mono hm10.le).len) fun a hF=>q_m hF rfl fun a hF=>q_end (n_sq (q_block ?_)))))))
   obtain ⟨o3,hl3,hb1⟩:=bindS hb1
   refine q_loop (fun (s : (List Int) × (List Int) × Int) a w=>∃ (q19 : Piece),∃ (s19 : Sl),∃ (q21 : Piece),∃ (s21 : Sl),∃ lo_18,∃ hi_20,∃ t_22,s = (lo_18,hi_20,t_22)∧Fr a 89 [(0,s1.v),(1,s2.v),(4,(pP b3 0)),(5,(pP b4 0)),(6,(iV t_5)),(8,s19.v),(9,s21.v),(14,s1.v),(15,(iV (goLen p_x))),(16,(iV t_5)),(28,s13.v),(29,(iV (goLen e_11))),(30,(iV t_22))]∧St [] w0 w m10 [q19,q21,q17,q8,q9,[⟨b4,[s17.v,nilS.v,s8.v,s9.v],76⟩],[⟨b3,[nilS.v,nilS.v,nilS.v,nilS.v],76⟩]]∧OwnL m10 3 q19 s19 lo_18∧OwnL m10 3 q21 s21 hi_20) (fun (o : (List Int) × (List Int)) e a w=>∃ (q41 : Piece),∃ (s41 : Sl),∃ (q43 : Piece),∃ (s43 : Sl),∃ lo_40,∃ hi_42,o = (lo_40,hi_42)∧e = .exit 2∧Fr a 89 [(0,s1.v),(1,s2.v),(4,(pP b3 0)),(5,(pP b4 0)),(8,s41.v),(9,s43.v),(14,s1.v),(15,(iV (goLen p_x))),(16,(iV t_5))]∧St [] w0 w m10 [q41,q43,q17,q8,q9,[⟨b4,[s17.v,nilS.v,s8.v,s9.v],76⟩],[⟨b3,[nilS.v,nilS.v,nilS.v,nilS.v],76⟩]]∧OwnL m10 3 q41 s41 lo_40∧OwnL m10 3 q43 s43 hi_42) hl3 ⟨[],nilS,[],nilS,_,_,_,rfl,hF.sub ⟨rfl,rfl,rfl,rfl,rfl,rfl,rfl,rfl,rfl,rfl,rfl,rfl,rfl,trivial⟩,hS.sel [6,7,0,2,3,4,5] (by decide),(OwnL.nil (α:=Int) m10 3),(OwnL.nil (α:=Int) m10 3)⟩ ?_ ?_
   ·clear hF hS
    rintro s a w st ⟨q19,s19,q21,s21,lo_18,hi_20,t_22,rfl,hF,hS,h19,h21⟩ hb3
    unfold spec_qNetwork_l2 at hb3
    refine q_sr (q_y (v:=(.bool (decide (t_22 < (goLen e_11))))) hF hS (ex_ibin rfl rfl rfl) fun a hF=>q_end (n_sq (q_seq ?_)))
    rcases bcase (decide (t_22 < (goLen e_11))) with hc4 | hc4
    ·have hb3:=cond_f hc4 hb3
     refine q_cond_f hF rfl hc4 (q_exit (x_sq ?_))
     obtain rfl:=someI hb3
     exact ⟨nofun,.inl ⟨q19,s19,q21,s21,_,_,rfl,rfl,hF.sub ⟨rfl,rfl,rfl,rfl,rfl,rfl,rfl,rfl,rfl,trivial⟩,hS,h19,h21⟩⟩
    ·have hb3:=cond_t hc4 hb3
     refine q_cond_t hF rfl hc4 (q_skipc (n_sq (q_seq (q_block (q_sr (q_m hF rfl fun a hF=>?_))))))
     obtain ⟨e_23,he_23,hb3⟩:=bindS hb3
     obtain ⟨vs24,at24,d24⟩:=h13.at he_23 1 rfl
     obtain rfl : vs24 = [(iV e_23)]:=d24
     refine q_y (v:=(elP s13 (t_22.toNat * 1))) hF hS (ex_indexAddr U48 sz3 rfl rfl ((h13.mono hm10.le).idx he_23)) fun a hF=>q_y (v:=(iV e_23)) hF hS (ex_loadE1 0 U3 rfl rfl (((at24.mono hm10.le)).at) rfl rfl) fun a hF=>q_s hF rfl fun a hF=>q_s hF rfl fun a hF=>q_end (n_sq (q_sr (q_m hF rfl fun a hF=>q_m hF rfl fun a hF=>?_)))
     obtain ⟨e_25,he_25,hb3⟩:=bindS hb3
     obtain ⟨vs26,at26,d26⟩:=h2.at he_25 1 rfl
     obtain ⟨s27,rfl,h27⟩ : ∃ s27 : Sl,vs26 = [s27.v]∧Rd m s27 e_25:=d26
     refine q_y (v:=(elP s2 (t_5.toNat * 1))) hF hS (ex_indexAddr U23 sz48 rfl rfl ((h2.mono hm10.le).idx he_25)) fun a hF=>q_y (v:=s27.v) hF hS (ex_loadE1 0 U48 rfl rfl (((at26.mono hm10.le)).at) rfl rfl) fun a hF=>q_m hF rfl fun a hF=>?_
     obtain ⟨e_28,he_28,hb3⟩:=bindS hb3
     obtain ⟨vs29,at29,d29⟩:=h27.at he_28 1 rfl
     obtain rfl : vs29 = [(iV e_28)]:=d29
     refine q_y (v:=(elP s27 (t_22.toNat * 1))) hF hS (ex_indexAddr U48 sz3 rfl rfl ((h27.mono hm10.le).idx he_28)) fun a hF=>q_y (v:=(iV e_28)) hF hS (ex_loadE1 0 U3 rfl rfl (((at29.mono hm10.le)).at) rfl rfl) fun a hF=>q_y (v:=(.bool (e_28 == 1))) hF hS (ex_ibin rfl rfl rfl) fun a hF=>q_end (n_sq ?_)
     obtain ⟨j5,hj5,hb3⟩:=bindS hb3
     refine q_join (fun a w=>∃ (q37 : Piece),∃ (s37 : Sl),∃ (q39 : Piece),∃ (s39 : Sl),∃ lo_36,∃ hi_38,j5 = (lo_36,hi_38)∧Fr a 89 [(0,s1.v),(1,s2.v),(4,(pP b3 0)),(5,(pP b4 0)),(6,(iV t_5)),(8,s37.v),(9,s39.v),(14,s1.v),(15,(iV (goLen p_x))),(16,(iV t_5)),(28,s13.v),(29,(iV (goLen e_11))),(30,(iV t_22))]∧St [] w0 w m10 [q37,q39,q17,q8,q9,[⟨b4,[s17.v,nilS.v,s8.v,s9.v],76⟩],[⟨b3,[nilS.v,nilS.v,nilS.v,nilS.v],76⟩]]∧OwnL m10 3 q37 s37 lo_36∧OwnL m10 3 q39 s39 hi_38) ?_ ?_
     ·rcases bcase (e_28 == 1) with hc6 | hc6
      ·have hj5:=cond_f hc6 hj5
       refine q_cond_f hF rfl hc6 (q_sr (q_m hF rfl fun a hF=>q_m hF rfl fun a hF=>q_do rfl fun _ hK=>wp_buildSlice' (l:=([e_23] : List Int)) (cells:=[(iV e_23)]) hF hS U48 inf3 rfl rfl (by kernel_rfl) rfl rfl rfl ⟨rfl,rfl⟩ rfl rfl fun a w q30 s30 hF hS h30 _=>hK _ _ ?_))
       have hS : St _ _ _ _ [q19,q30,q21,q17,q8,q9,[⟨b4,[s17.v,nilS.v,s8.v,s9.v],76⟩],[⟨b3,[nilS.v,nilS.v,nilS.v,nilS.v],76⟩]]:=hS.sel [1,0,2,3,4,5,6,7] (by decide)
       obtain ⟨l_31,hl_31,hj5⟩:=bindS hj5
       refine q_do rfl fun _ hK=>wp_append hF hS h19 U48 inf3 rfl rfl rfl rfl (h30.vw hS (j:=1) rfl) rfl (by decide) hl_31 rfl fun a w q32 s32 hF hS h32=>hK _ _ (q_s hF rfl fun a hF=>q_end (n_sq (q_region (q_m hF rfl fun a hF=>q_m hF rfl fun a hF=>q_do rfl fun _ hK=>wp_buildSlice' (l:=([e_23] : List Int)) (cells:=[(iV e_23)]) hF hS U48 inf3 rfl rfl (by kernel_rfl) rfl rfl rfl ⟨rfl,rfl⟩ rfl rfl fun a w q33 s33 hF hS h33 _=>hK _ _ ?_))))
       have hS : St _ _ _ _ [q21,q33,q32,q30,q17,q8,q9,[⟨b4,[s17.v,nilS.v,s8.v,s9.v],76⟩],[⟨b3,[nilS.v,nilS.v,nilS.v,nilS.v],76⟩]]:=hS.sel [3,0,1,2,4,5,6,7,8] (by decide)
       obtain ⟨l_34,hl_34,hj5⟩:=bindS hj5
       refine q_do rfl fun _ hK=>wp_append hF hS h21 U48 inf3 rfl rfl rfl rfl (h33.vw hS (j:=1) rfl) rfl (by decide) hl_34 rfl fun a w q35 s35 hF hS h35=>hK _ _ (q_s hF rfl fun a hF=>q_end (n_jn ?_))
       obtain rfl:=someI hj5
       exact ⟨q32,s32,q35,s35,_,_,rfl,hF.sub ⟨rfl,rfl,rfl,rfl,rfl,rfl,rfl,rfl,rfl,rfl,rfl,rfl,rfl,trivial⟩,hS.sel [2,0,4,5,6,7,8] (by decide),h32,h35⟩
      ·have hj5:=cond_t hc6 hj5
       refine q_cond_t hF rfl hc6 (q_sr (q_m hF rfl fun a hF=>q_do rfl fun _ hK=>wp_buildSlice' (l:=([0] : List Int)) (cells:=[(iV 0)]) hF hS U48 inf3 rfl rfl (by kernel_rfl) rfl rfl rfl ⟨rfl,rfl⟩ rfl rfl fun a w q30 s30 hF hS h30 _=>hK _ _ ?_))
       have hS : St _ _ _ _ [q19,q30,q21,q17,q8,q9,[⟨b4,[s17.v,nilS.v,s8.v,s9.v],76⟩],[⟨b3,[nilS.v,nilS.v,nilS.v,nilS.v],76⟩]]:=hS.sel [1,0,2,3,4,5,6,7] (by decide)
       obtain ⟨l_31,hl_31,hj5⟩:=bindS hj5
       refine q_do rfl fun _ hK=>wp_append hF hS h19 U48 inf3 rfl rfl rfl rfl (h30.vw hS (j:=1) rfl) rfl (by decide) hl_31 rfl fun a w q32 s32 hF hS h32=>hK _ _ (q_s hF rfl fun a hF=>q_end (n_sq (q_region (q_m hF rfl fun a hF=>q_do rfl fun _ hK=>wp_buildSlice' (l:=([100000] : List Int)) (cells:=[(iV 100000)]) hF hS U48 inf3 rfl rfl (by kernel_rfl) rfl rfl rfl ⟨rfl,rfl⟩ rfl rfl fun a w q33 s33 hF hS h33 _=>hK _ _ ?_))))
       have hS : St _ _ _ _ [q21,q33,q32,q30,q17,q8,q9,[⟨b4,[s17.v,nilS.v,s8.v,s9.v],76⟩],[⟨b3,[nilS.v,nilS.v,nilS.v,nilS.v],76⟩]]:=hS.sel [3,0,1,2,4,5,6,7,8] (by decide)
       obtain ⟨l_34,hl_34,hj5⟩:=bindS hj5
       refine q_do rfl fun _ hK=>wp_append hF hS h21 U48 inf3 rfl rfl rfl rfl (h33.vw hS (j:=1) rfl) rfl (by decide) hl_34 rfl fun a w q35 s35 hF hS h35=>hK _ _ (q_s hF rfl fun a hF=>q_end (n_jn ?_))
       obtain rfl:=someI hj5
       exact ⟨q32,s32,q35,s35,_,_,rfl,hF.sub ⟨rfl,rfl,rfl,rfl,rfl,rfl,rfl,rfl,rfl,rfl,rfl,rfl,rfl,trivial⟩,hS.sel [2,0,4,5,6,7,8] (by decide),h32,h35⟩
     ·rintro a w ⟨q37,s37,q39,s39,lo_36,hi_38,rfl,hF,hS,h37,h39⟩
      refine n_ib (n_sq ?_)
      refine q_region (q_y (v:=(iV (w64 (t_22 + 1)))) hF hS (ex_ibin rfl rfl rfl) fun a hF=>q_m hF rfl fun a hF=>q_end ?_)
      obtain rfl:=someI hb3
      exact ⟨rfl,q37,s37,q39,s39,_,_,_,rfl,hF.sub ⟨rfl,rfl,rfl,rfl,rfl,rfl,rfl,rfl,rfl,rfl,rfl,rfl,rfl,trivial⟩,hS,h37,h39⟩
   ·rintro e a w ⟨q41,s41,q43,s43,lo_40,hi_42,rfl,rfl,hF,hS,h41,h43⟩
    refine x_ib (n_sq ?_)
    refine q_sr (q_y (v:=(pP b4 2)) hF hS (ex_fieldAddr U76 rfl sz23 rfl rfl) fun a hF=>q_y (v:=s8.v) hF hS (ex_load1 5 0 U23 rfl rfl rfl rfl) fun a hF=>q_m hF rfl fun a hF=>?_)
    obtain ⟨m45,hm45,hS,hz45⟩:=hS.freeze
    have h45:=h41.froz hm45.le hz45
    refine q_do rfl fun _ hK=>wp_buildSlice' (l:=([lo_40] : List (List Int))) (cells:=[s41.v]) hF hS U23 inf48 rfl rfl (by kernel_rfl) rfl rfl rfl ⟨⟨s41,rfl,h45⟩,rfl⟩ rfl rfl fun a w q44 s44 hF hS h44 _=>hK _ _ ?_
    have hS : St _ _ _ _ [q8,q44,q43,q17,q9,[⟨b4,[s17.v,nilS.v,s8.v,s9.v],76⟩],[⟨b3,[nilS.v,nilS.v,nilS.v,nilS.v],76⟩]]:=hS.sel [3,0,1,2,4,5,6] (by decide)
    obtain ⟨l_46,hl_46,hb1⟩:=bindS hb1
    refine q_do rfl fun _ hK=>wp_append hF hS (h8.mono hm45.le) U23 inf48 rfl rfl rfl rfl (h44.vw hS (j:=1) rfl) rfl (by decide) hl_46 rfl fun a w q47 s47 hF hS h47=>hK _ _ (q_y (v:=(pP b4 2)) hF hS (ex_fieldAddr U76 rfl sz23 rfl rfl) fun a hF=>q_store (vs:=[s47.v]) (cs':=[s17.v,nilS.v,s47.v,s9.v]) 5 0 hF hS sz23 rfl rfl rfl rfl rfl rfl rfl rfl fun a w hF hS=>q_end (n_sq (q_region (q_y (v:=(pP b4 3)) hF hS (ex_fieldAddr U76 rfl sz23 rfl rfl) fun a hF=>q_y (v:=s9.v) hF hS (ex_load1 5 0 U23 rfl rfl rfl rfl) fun a hF=>q_m hF rfl fun a hF=>?_))))
    have hS : St _ _ _ _ [q43,q47,q44,q17,q9,[⟨b4,[s17.v,nilS.v,s47.v,s9.v],76⟩],[⟨b3,[nilS.v,nilS.v,nilS.v,nilS.v],76⟩]]:=hS.sel [2,0,1,3,4,5,6] (by decide)
    obtain ⟨m49,hm49,hS,hz49⟩:=hS.freeze
    have h49:=(h43.mono hm45.le).froz hm49.le hz49
    refine q_do rfl fun _ hK=>wp_buildSlice' (l:=([hi_42] : List (List Int))) (cells:=[s43.v]) hF hS U23 inf48 rfl rfl (by kernel_rfl) rfl rfl rfl ⟨⟨s43,rfl,h49⟩,rfl⟩ rfl rfl fun a w q48 s48 hF hS h48 _=>hK _ _ ?_
    have hS : St _ _ _ _ [q9,q48,q47,q44,q17,[⟨b4,[s17.v,nilS.v,s47.v,s9.v],76⟩],[⟨b3,[nilS.v,nilS.v,nilS.v,nilS.v],76⟩]]:=hS.sel [4,0,1,2,3,5,6] (by decide)
    obtain ⟨l_50,hl_50,hb1⟩:=bindS hb1
    refine q_do rfl fun _ hK=>wp_append hF hS ((h9.mono hm45.le).mono hm49.le) U23 inf48 rfl rfl rfl rfl (h48.vw hS (j:=1) rfl) rfl (by decide) hl_50 rfl fun a w q51 s51 hF hS h51=>hK _ _ (q_y (v:=(pP b4 3)) hF hS (ex_fieldAddr U76 rfl sz23 rfl rfl) fun a hF=>q_store (vs:=[s51.v]) (cs':=[s17.v,nilS.v,s47.v,s51.v]) 5 0 hF hS sz23 rfl rfl rfl rfl rfl rfl rfl rfl fun a w hF hS=>q_end (n_ib (n_sq (q_region (q_y (v:=(iV (w64 (t_5 + 1)))) hF hS (ex_ibin rfl rfl rfl) fun a hF=>q_m hF rfl fun a hF=>q_end ?_)))))
    obtain rfl:=someI hb1
    exact ⟨rfl,m49,q17,s17,q47,s47,q51,s51,_,_,rfl,hF.sub ⟨rfl,rfl,rfl,rfl,rfl,rfl,rfl,trivial⟩,hS.sel [4,2,0,5,6] (by decide),((hm10.trans hm45).trans hm49),((h17.mono hm45.le).mono hm49.le),(h47.mono hm49.le),h51⟩
 ·rintro e a w ⟨m56,q53,s53,q54,s54,q55,s55,rfl,hF,hS,hm56,h53,h54,h55⟩
  refine x_ib (n_sq ?_)
  refine q_seq (q_sr (q_m hF rfl fun a hF=>?_))
  obtain ⟨e_57,he_57,hr⟩:=bindS hr
  obtain ⟨vs58,at58,d58⟩:=h1.at he_57 1 rfl
  obtain ⟨s59,rfl,h59⟩ : ∃ s59 : Sl,vs58 = [s59.v]∧Rd m s59 e_57:=d58
  refine q_y (v:=(elP s1 ((0 : Int).toNat * 1))) hF hS (ex_indexAddr U23 sz48 rfl rfl ((h1.mono hm56.le).idx he_57)) fun a hF=>q_y (v:=s59.v) hF hS (ex_loadE1 0 U48 rfl rfl (((at58.mono hm56.le)).at) rfl rfl) fun a hF=>q_y (v:=(iV (goLen e_57))) hF hS (ex_len U48 rfl (h59.mono hm56.le).len) fun a hF=>q_m hF rfl fun a hF=>q_end (n_sq (q_block ?_))
  obtain ⟨t_74,hl7,hr⟩:=bindS hr
  refine q_loop (fun (s : Int × impl_Transport) a w=>∃ (q63 : Piece),∃ (s63 : Sl),∃ t_60,∃ t_61,s = (t_60,t_61)∧Fr a 89 [(0,s1.v),(4,(pP b3 0)),(5,(pP b4 0)),(74,(iV (goLen e_57))),(75,(iV t_60))]∧St [] w0 w m56 [q63,q53,q54,q55,[⟨b4,[s53.v,s63.v,s54.v,s55.v],76⟩],[⟨b3,[nilS.v,nilS.v,nilS.v,nilS.v],76⟩]]∧OwnL m56 3 q53 s53 t_61.Rows∧t_61.Rows = t_52.Rows∧OwnL m56 3 q63 s63 t_61.Cols∧OwnL m56 48 q54 s54 t_61.Lo∧t_61.Lo = t_52.Lo∧OwnL m56 48 q55 s55 t_61.Hi∧t_61.Hi = t_52.Hi) (fun (t_74 : impl_Transport) e a w=>∃ (q76 : Piece),∃ (s76 : Sl),e = .exit 4∧Fr a 89 [(4,(pP b3 0)),(5,(pP b4 0))]∧St [] w0 w m56 [q53,q76,q54,q55,[⟨b4,[s53.v,s76.v,s54.v,s55.v],76⟩],[⟨b3,[nilS.v,nilS.v,nilS.v,nilS.v],76⟩]]∧OwnL m56 3 q53 s53 t_74.Rows∧t_74.Rows = t_52.Rows∧OwnL m56 3 q76 s76 t_74.Cols∧OwnL m56 48 q54 s54 t_74.Lo∧t_74.Lo = t_52.Lo∧OwnL m56 48 q55 s55 t_74.Hi∧t_74.Hi = t_52.Hi) hl7 ⟨[],nilS,_,_,rfl,hF.sub ⟨rfl,rfl,rfl,rfl,rfl,trivial⟩,hS.sel [5,0,1,2,3,4] (by decide),h53,rfl,(OwnL.nil (α:=Int) m56 3),h54,rfl,h55,rfl⟩ ?_ ?_
  ·clear hF hS
   rintro s a w st ⟨q63,s63,t_60,t_61,rfl,hF,hS,h62,h62k,h63,h64,h64k,h65,h65k⟩ hb7
   unfold spec_qNetwork_l3 at hb7
   refine q_sr (q_y (v:=(.bool (decide (t_60 < (goLen e_57))))) hF hS (ex_ibin rfl rfl rfl) fun a hF=>q_end (n_sq (q_seq ?_)))
   rcases bcase (decide (t_60 < (goLen e_57))) with hc8 | hc8
   ·have hb7:=cond_f hc8 hb7
    refine q_cond_f hF rfl hc8 (q_exit (x_sq ?_))
    obtain rfl:=someI hb7
    exact ⟨nofun,.inl ⟨q63,s63,rfl,hF.sub ⟨rfl,rfl,trivial⟩,hS.sel [1,0,2,3,4,5] (by decide),h62,h62k,h63,h64,h64k,h65,h65k⟩⟩
   ·have hb7:=cond_t hc8 hb7
    refine q_cond_t hF rfl hc8 (q_skipc (n_sq (q_seq (q_block (q_sr (q_m hF rfl fun a hF=>q_s hF rfl fun a hF=>q_end (n_sq (e_region ⟨[7,9],[],m56⟩ mixed fun w' hw'=>?_))))))))
    have hS:=hS.below hw'
    refine e_P (v:=(pP b4 1)) 0 hF rfl (ex_fieldAddr U76 rfl sz48 rfl rfl) fun a hF=>e_X (v:=s63.v) 1 hF hS rfl (ex_load1 4 0 U48 rfl rfl rfl rfl) fun a hF=>e_P (v:=s1.v) 2 hF rfl (ex_move rfl) fun a hF=>e_P (v:=(iV t_60)) 3 hF rfl (ex_move rfl) fun a hF=>e_one 4 (by kernel_rfl) ?_
    obtain ⟨t_66,ht_66,hb7⟩:=bindS hb7
    refine e_call (vs:=[s1.v,(iV t_60)]) hF hS rfl Tryz.func89 (by kernel_rfl) rfl rfl rfl (c_spec_tColumn p_x t_60 t_66 ht_66 _ m56 hS.vis s1 (h1.mono hm56.le)) ?_
    rintro a w _ ⟨q68,s68,rfl,hR67,h68⟩ hF hS2
    have hS : St _ _ _ _ [q68,q63,q53,q54,q55,[⟨b4,[s53.v,s63.v,s54.v,s55.v],76⟩],[⟨b3,[nilS.v,nilS.v,nilS.v,nilS.v],76⟩]]:=hS.joinF hR67
    refine e_one 5 (by kernel_rfl) ?_
    obtain ⟨m70,hl70,hv70,hz70⟩:=hS.lend
    obtain ⟨t_69,ht_69,hb7⟩:=bindS hb7
    refine e_call (vs:=[s68.v]) hF hS rfl Tryz.func88 (by kernel_rfl) rfl rfl rfl (c_spec_tSum t_66 t_69 ht_69 _ m70 hv70 s68 (h68.froz hl70 (hz70 0 _ rfl))) ?_
    rintro a w _ rfl hF hS
    refine e_one 6 (by kernel_rfl) (e_op rfl rfl fun _ hK=>wp_buildSlice' (l:=([t_69] : List Int)) (cells:=[(iV t_69)]) hF hS U48 inf3 rfl rfl (by kernel_rfl) rfl rfl rfl ⟨rfl,rfl⟩ rfl rfl fun a w q71 s71 hF hS h71 hb=>hK _ _ hb (e_one 7 (by kernel_rfl) ?_))
    have hS : St _ _ _ _ [q63,q71,q68,q53,q54,q55,[⟨b4,[s53.v,s63.v,s54.v,s55.v],76⟩],[⟨b3,[nilS.v,nilS.v,nilS.v,nilS.v],76⟩]]:=hS.sel [2,0,1,3,4,5,6,7] (by decide)
    obtain ⟨l_72,hl_72,hb7⟩:=bindS hb7
    refine e_opl rfl rfl rfl fun _ hK=>wp_append hF hS h63 U48 inf3 rfl rfl rfl rfl (h71.vw hS (j:=1) rfl) rfl (by decide) hl_72 rfl fun a w q73 s73 hF hS h73=>hK _ _ (⟨⟨kpN,fun _=>hS.vis.of_le (Mem.le.refl _)⟩,?_⟩)
    refine e_P (v:=(pP b4 1)) 8 hF rfl (ex_fieldAddr U76 rfl sz48 rfl rfl) fun a hF=>e_one 9 (by kernel_rfl) (e_store (vs:=[s73.v]) (cs':=[s53.v,s73.v,s54.v,s55.v]) 6 0 hF hS rfl rfl sz48 rfl rfl rfl rfl rfl rfl rfl rfl fun a w hF hS=>⟨⟨kpN,fun _=>hS.vis.of_le (Mem.le.refl _)⟩,?_⟩)
    refine e_end (by kernel_rfl) (n_ib (n_sq ?_)) _
    refine q_region (q_y (v:=(iV (w64 (t_60 + 1)))) hF hS (ex_ibin rfl rfl rfl) fun a hF=>q_m hF rfl fun a hF=>q_end ?_)
    obtain rfl:=someI hb7
    exact ⟨rfl,q73,s73,_,_,rfl,hF.sub ⟨rfl,rfl,rfl,rfl,rfl,trivial⟩,hS.mask [true,false,false,true,true,true,true,true],h62,h62k,h73,h64,h64k,h65,h65k⟩
  ·rintro e a w ⟨q76,s76,rfl,hF,hS,h75,h75k,h76,h77,h77k,h78,h78k⟩
   refine x_ib (n_sq ?_)
   refine q_sr (q_y (v:=(.agg #[s53.v,s76.v,s54.v,s55.v])) hF hS (ex_loadA (vs:=[s53.v,s76.v,s54.v,s55.v]) 4 0 U76 rfl sz76 rfl rfl rfl rfl) fun a hF=>q_store (vs:=[s53.v,s76.v,s54.v,s55.v]) (cs':=[s53.v,s76.v,s54.v,s55.v]) 5 0 hF hS sz76 rfl rfl rfl rfl rfl rfl rfl rfl fun a w hF hS=>q_end (n_sq (q_ret ?_)))
   obtain rfl:=someI hr
   exact ret_of hF hS rfl (.cellA (us:=[s53.v,s76.v,s54.v,s55.v]) 5 0 U76 rfl sz76 rfl rfl rfl rfl .nil) ⟨m56,q53,q76,q54,q55,s53,s76,s54,s55,rfl,hm56,hS.sel [0,1,2,3] (by decide),h75,h76,h77,h78⟩

theorem c_spec_l1Most (p_a : Int) (p_b : Int) (r : Int) (hr : spec_l1Most p_a p_b = some r) (w0 : World) (m : Mem) (hv : Vis m w0) :
  Ret Tryz.prog 103 [(iV p_a),(iV p_b)] w0 (fun v _=>v = (iV r)):=by
 unfold spec_l1Most at hr
 refine ret_start Tryz.func103 rfl 10 rfl rfl m hv fun a hF hS=>q_sr (q_s hF rfl fun a hF=>q_end (n_sq (q_seq (q_sr (q_m hF rfl fun a hF=>q_m hF rfl fun a hF=>q_y (v:=(.bool (decide (p_b < p_a)))) hF hS (ex_ibin rfl rfl rfl) fun a hF=>q_end (n_sq ?_))))))
 rcases bcase (decide (p_b < p_a)) with hc1 | hc1
 ·have hr:=cond_f hc1 hr
  refine q_cond_f hF rfl hc1 (q_skipc (n_sq (q_sr (q_m hF rfl fun a hF=>q_s hF rfl fun a hF=>q_end (n_sq (q_ret ?_))))))
  obtain rfl:=someI hr
  exact ret_of hF hS rfl (.tmp rfl .nil) rfl
 ·have hr:=cond_t hc1 hr
  refine q_cond_t hF rfl hc1 (q_sr (q_m hF rfl fun a hF=>q_s hF rfl fun a hF=>q_end (n_sq (q_ret (r_sq ?_)))))
  obtain rfl:=someI hr
  exact ret_of hF hS rfl (.tmp rfl .nil) rfl

theorem c_spec_vGoal (p_n : Int) (p_down : Int) (r : Int) (hr : spec_vGoal p_n p_down = some r) (w0 : World) (m : Mem) (hv : Vis m w0) :
  Ret Tryz.prog 93 [(iV p_n),(iV p_down)] w0 (fun v _=>v = (iV r)):=by
 unfold spec_vGoal at hr
 refine ret_start Tryz.func93 rfl 9 rfl rfl m hv fun a hF hS=>q_sr (q_s hF rfl fun a hF=>q_end (n_sq (q_sr (q_m hF rfl fun a hF=>q_m hF rfl fun a hF=>q_y (v:=(iV (w64 (p_n - p_down)))) hF hS (ex_ibin rfl rfl rfl) fun a hF=>?_))))
 obtain ⟨t_1,ht_1,hr⟩:=bindS hr
 refine q_call (vs:=[(iV (w64 (p_n - p_down))),(iV 0)]) hF hS Tryz.func103 (by kernel_rfl) rfl rfl rfl (c_spec_l1Most (w64 (p_n - p_down)) 0 t_1 ht_1 _ m hS.vis) ?_
 rintro a w _ rfl hF hS
 refine q_s hF rfl fun a hF=>q_end (n_sq (q_ret ?_))
 obtain rfl:=someI hr
 exact ret_of hF hS rfl (.tmp rfl .nil) rfl

theorem c_spec_tWith (p_t : impl_Transport) (p_i : Int) (p_j : Int) (p_lo : Int) (p_hi : Int) (r : impl_Transport) (hr : spec_tWith p_t p_i p_j p_lo p_hi = some r) (w0 : World) (m : Mem) (hv : Vis m w0) (s1 : Sl) (h1 : Rd m s1 p_t.Rows) (s2 : Sl) (h2 : Rd m s2 p_t.Cols) (s3 : Sl) (h3 : Rd m s3 p_t.Lo) (s4 : Sl) (h4 : Rd m s4 p_t.Hi) :
  Ret Tryz.prog 92 [(.agg #[s1.v,s2.v,s3.v,s4.v]),(iV p_i),(iV p_j),(iV p_lo),(iV p_hi)] w0 (fun v w=>∃ (m' : Mem) (q2' : Piece) (q3' : Piece) (s0' : Sl) (s1' : Sl) (s2' : Sl) (s3' : Sl),v = (.agg #[s0'.v,s1'.v,s2'.v,s3'.v])∧MLe [] w0.heap.size m m'∧St [] w0 w m' [q2',q3']∧Rd m' s0' r.Rows∧Rd m' s1' r.Cols∧OwnD m' 48 3 q2' s2' r.Lo∧OwnD m' 48 3 q3' s3' r.Hi):=by
 unfold spec_tWith at hr
 refine ret_start Tryz.func92 rfl 40 rfl rfl m hv fun a hF hS=>q_sr (q_box (cs:=[s1.v,s2.v,s3.v,s4.v]) hF hS rfl rfl rfl fun a w b5 hF hS=>q_alloc (cs:=[nilS.v,nilS.v,nilS.v,nilS.v]) hF hS rfl rfl rfl fun a w b6 hF hS=>q_end (n_sq (q_seq ?_)))
 obtain ⟨out_23,hj1,hr⟩:=bindS hr
 refine q_join (fun a w=>∃ b22,∃ (q26 : Piece),∃ (s26 : Sl),∃ (q27 : Piece),∃ (s27 : Sl),Fr a 40 [(1,(iV p_i)),(2,(iV p_j)),(3,(iV p_lo)),(4,(iV p_hi)),(10,(pP b6 0)),(11,(pP b22 0))]∧St [] w0 w m [q26,q27,[⟨b22,[s1.v,s2.v,s26.v,s27.v],76⟩],[⟨b6,[nilS.v,nilS.v,nilS.v,nilS.v],76⟩]]∧Rd m s1 out_23.Rows∧Rd m s2 out_23.Cols∧OwnD m 48 3 q26 s26 out_23.Lo∧OwnD m 48 3 q27 s27 out_23.Hi) ?_ ?_
 ·refine e_region ⟨[12],[b5],m⟩ mixed fun w' hw'=>?_
  have hS:=hS.below hw'
  refine e_P (v:=(pP b5 0)) 0 hF rfl (ex_fieldAddr U76 rfl sz48 rfl rfl) fun a hF=>e_xb (v:=s1.v) 1 1 hF hS (.head _) rfl rfl (ex_load1 0 0 U48 rfl rfl rfl rfl) rfl rfl (by kernel_rfl) (by kernel_rfl) (by kernel_rfl) fun a hF=>e_P (v:=(pP b5 1)) 2 hF rfl (ex_fieldAddr U76 rfl sz48 rfl rfl) fun a hF=>e_xb (v:=s2.v) 3 1 hF hS (.head _) rfl rfl (ex_load1 0 0 U48 rfl rfl rfl rfl) rfl rfl (by kernel_rfl) (by kernel_rfl) (by kernel_rfl) fun a hF=>e_P (v:=(pP b5 2)) 4 hF rfl (ex_fieldAddr U76 rfl sz23 rfl rfl) fun a hF=>e_xb (v:=s3.v) 5 1 hF hS (.head _) rfl rfl (ex_load1 0 0 U23 rfl rfl rfl rfl) rfl rfl (by kernel_rfl) (by kernel_rfl) (by kernel_rfl) fun a hF=>e_P (v:=(pP b5 3)) 7 hF rfl (ex_fieldAddr U76 rfl sz23 rfl rfl) fun a hF=>e_xb (v:=s4.v) 8 1 hF hS (.head _) rfl rfl (ex_load1 0 0 U23 rfl rfl rfl rfl) rfl rfl (by kernel_rfl) (by kernel_rfl) (by kernel_rfl) fun a hF=>?_
  obtain ⟨t_16,ht_16,hj1⟩:=bindS hj1
  obtain ⟨t_19,ht_19,hj1⟩:=bindS hj1
  refine e_all [6,11] (by kernel_rfl) rfl ⟨?_,?_,trivial⟩
  ·refine e_call (vs:=[s3.v]) hF hS rfl Tryz.func37 (by kernel_rfl) rfl rfl rfl (c_spec_tOwn p_t.Lo t_16 ht_16 _ m hS.vis s3 h3) ?_
   rintro a w _ ⟨q18,s18,rfl,hR17,h18⟩ hF hS2
   have hS : St _ _ _ _ [q18,[⟨b6,[nilS.v,nilS.v,nilS.v,nilS.v],76⟩],[⟨b5,[s1.v,s2.v,s3.v,s4.v],76⟩]]:=hS.joinF hR17
   refine e_all [9,11] (by kernel_rfl) rfl ⟨?_,?_,trivial⟩
   ·refine e_call (vs:=[s4.v]) hF hS rfl Tryz.func37 (by kernel_rfl) rfl rfl rfl (c_spec_tOwn p_t.Hi t_19 ht_19 _ m hS.vis s4 h4) ?_
    rintro a w _ ⟨q21,s21,rfl,hR20,h21⟩ hF hS2
    have hS : St _ _ _ _ [q21,q18,[⟨b6,[nilS.v,nilS.v,nilS.v,nilS.v],76⟩],[⟨b5,[s1.v,s2.v,s3.v,s4.v],76⟩]]:=hS.joinF hR20
    refine e_P (v:=(.agg #[s1.v,s2.v,s18.v,s21.v])) 10 hF rfl (ex_build (cells:=[s1.v,s2.v,s18.v,s21.v]) rfl (by kernel_rfl)) fun a hF=>e_one 11 (by kernel_rfl) (e_alloc (cs:=[nilS.v,nilS.v,nilS.v,nilS.v]) hF hS rfl rfl rfl rfl fun a w b22 hF hS=>e_one 12 (by kernel_rfl) ?_)
    have hSo:=hS
    refine e_store (vs:=[s1.v,s2.v,s18.v,s21.v]) (cs':=[s1.v,s2.v,s18.v,s21.v]) 0 0 hF hS rfl rfl sz76 rfl rfl rfl rfl rfl rfl rfl rfl fun a w hF hS=>⟨⟨kpC hSo hS 4 4 rfl rfl kpN,fun _=>hS.vis.of_le (Mem.le.refl _)⟩,?_⟩
    refine e_end (by kernel_rfl) (n_jn ?_) _
    obtain rfl:=someI hj1
    exact ⟨b22,q18,s18,q21,s21,hF.sub ⟨rfl,rfl,rfl,rfl,rfl,rfl,trivial⟩,hS.sel [2,1,0,3] (by decide),h1,h2,h18,h21⟩
   ·refine e_alloc (cs:=[nilS.v,nilS.v,nilS.v,nilS.v]) hF hS rfl rfl rfl rfl fun a w b22 hF hS=>e_one 9 (by kernel_rfl) (e_call (vs:=[s4.v]) hF hS rfl Tryz.func37 (by kernel_rfl) rfl rfl rfl (c_spec_tOwn p_t.Hi t_19 ht_19 _ m hS.vis s4 h4) ?_)
    rintro a w _ ⟨q21,s21,rfl,hR20,h21⟩ hF hS2
    have hS : St _ _ _ _ [q21,[⟨b22,[nilS.v,nilS.v,nilS.v,nilS.v],76⟩],q18,[⟨b6,[nilS.v,nilS.v,nilS.v,nilS.v],76⟩],[⟨b5,[s1.v,s2.v,s3.v,s4.v],76⟩]]:=hS.joinF hR20
    refine e_P (v:=(.agg #[s1.v,s2.v,s18.v,s21.v])) 10 hF rfl (ex_build (cells:=[s1.v,s2.v,s18.v,s21.v]) rfl (by kernel_rfl)) fun a hF=>e_one 12 (by kernel_rfl) ?_
    have hSo:=hS
    refine e_store (vs:=[s1.v,s2.v,s18.v,s21.v]) (cs':=[s1.v,s2.v,s18.v,s21.v]) 1 0 hF hS rfl rfl sz76 rfl rfl rfl rfl rfl rfl rfl rfl fun a w hF hS=>⟨⟨kpC hSo hS 4 4 rfl rfl kpN,fun _=>hS.vis.of_le (Mem.le.refl _)⟩,?_⟩
    refine e_end (by kernel_rfl) (n_jn ?_) _
    obtain rfl:=someI hj1
    exact ⟨b22,q18,s18,q21,s21,hF.sub ⟨rfl,rfl,rfl,rfl,rfl,rfl,trivial⟩,hS.sel [2,0,1,3] (by decide),h1,h2,h18,h21⟩
  ·refine e_alloc (cs:=[nilS.v,nilS.v,nilS.v,nilS.v]) hF hS rfl rfl rfl rfl fun a w b22 hF hS=>e_one 6 (by kernel_rfl) (e_call (vs:=[s3.v]) hF hS rfl Tryz.func37 (by kernel_rfl) rfl rfl rfl (c_spec_tOwn p_t.Lo t_16 ht_16 _ m hS.vis s3 h3) ?_)
   rintro a w _ ⟨q18,s18,rfl,hR17,h18⟩ hF hS2
   have hS : St _ _ _ _ [q18,[⟨b22,[nilS.v,nilS.v,nilS.v,nilS.v],76⟩],[⟨b6,[nilS.v,nilS.v,nilS.v,nilS.v],76⟩],[⟨b5,[s1.v,s2.v,s3.v,s4.v],76⟩]]:=hS.joinF hR17
   refine e_one 9 (by kernel_rfl) (e_call (vs:=[s4.v]) hF hS rfl Tryz.func37 (by kernel_rfl) rfl rfl rfl (c_spec_tOwn p_t.Hi t_19 ht_19 _ m hS.vis s4 h4) ?_)
   rintro a w _ ⟨q21,s21,rfl,hR20,h21⟩ hF hS2
   have hS : St _ _ _ _ [q21,q18,[⟨b22,[nilS.v,nilS.v,nilS.v,nilS.v],76⟩],[⟨b6,[nilS.v,nilS.v,nilS.v,nilS.v],76⟩],[⟨b5,[s1.v,s2.v,s3.v,s4.v],76⟩]]:=hS.joinF hR20
   refine e_P (v:=(.agg #[s1.v,s2.v,s18.v,s21.v])) 10 hF rfl (ex_build (cells:=[s1.v,s2.v,s18.v,s21.v]) rfl (by kernel_rfl)) fun a hF=>e_one 12 (by kernel_rfl) ?_
   have hSo:=hS
   refine e_store (vs:=[s1.v,s2.v,s18.v,s21.v]) (cs':=[s1.v,s2.v,s18.v,s21.v]) 2 0 hF hS rfl rfl sz76 rfl rfl rfl rfl rfl rfl rfl rfl fun a w hF hS=>⟨⟨kpC hSo hS 4 4 rfl rfl kpN,fun _=>hS.vis.of_le (Mem.le.refl _)⟩,?_⟩
   refine e_end (by kernel_rfl) (n_jn ?_) _
   obtain rfl:=someI hj1
   exact ⟨b22,q18,s18,q21,s21,hF.sub ⟨rfl,rfl,rfl,rfl,rfl,rfl,trivial⟩,hS.sel [1,0,2,3] (by decide),h1,h2,h18,h21⟩
 ·rintro a w ⟨b22,q26,s26,q27,s27,hF,hS,h24,h25,h26,h27⟩
  refine n_sq ?_
  refine q_sr (q_y (v:=(pP b22 2)) hF hS (ex_fieldAddr U76 rfl sz23 rfl rfl) fun a hF=>q_y (v:=s26.v) hF hS (ex_load1 2 0 U23 rfl rfl rfl rfl) fun a hF=>q_m hF rfl fun a hF=>?_)
  obtain ⟨e_28,he_28,hr⟩:=bindS hr
  obtain ⟨s29,hV29⟩:=h26.view he_28
  refine q_y (v:=(elP s26 (p_i.toNat * 1))) hF hS (ex_indexAddr U23 sz48 rfl rfl (h26.idx he_28)) fun a hF=>q_y (v:=s29.v) hF hS (ex_loadE1 0 U48 rfl rfl ((hV29.atH he_28).at 0 rfl) rfl rfl) fun a hF=>q_m hF rfl fun a hF=>q_m hF rfl fun a hF=>?_
  obtain ⟨e_30,he_30,hr⟩:=bindS hr
  obtain ⟨vs31,at31,d31⟩:=hV29.at he_28 he_30 1 rfl
  obtain rfl : vs31 = [(iV e_30)]:=d31
  refine q_y (v:=(elP s29 (p_j.toNat * 1))) hF hS (ex_indexAddr U48 sz3 rfl rfl (hV29.idx he_28 he_30)) fun a hF=>q_do rfl fun _ hK=>wp_storeV (e':=p_lo) (us:=[(iV p_lo)]) (vs:=[(iV e_30)]) 0 hF hS hV29 he_28 sz3 rfl rfl rfl rfl rfl rfl rfl he_30 at31 rfl rfl rfl fun w q32 hS h32=>hK _ _ (q_end (n_sq (q_sr (q_y (v:=(pP b22 3)) hF hS (ex_fieldAddr U76 rfl sz23 rfl rfl) fun a hF=>q_y (v:=s27.v) hF hS (ex_load1 2 0 U23 rfl rfl rfl rfl) fun a hF=>q_m hF rfl fun a hF=>?_))))
  obtain ⟨e_33,he_33,hr⟩:=bindS hr
  obtain ⟨s34,hV34⟩:=h27.view he_33
  refine q_y (v:=(elP s27 (p_i.toNat * 1))) hF hS (ex_indexAddr U23 sz48 rfl rfl (h27.idx he_33)) fun a hF=>q_y (v:=s34.v) hF hS (ex_loadE1 0 U48 rfl rfl ((hV34.atH he_33).at 1 rfl) rfl rfl) fun a hF=>q_m hF rfl fun a hF=>q_m hF rfl fun a hF=>?_
  obtain ⟨e_35,he_35,hr⟩:=bindS hr
  obtain ⟨vs36,at36,d36⟩:=hV34.at he_33 he_35 1 rfl
  obtain rfl : vs36 = [(iV e_35)]:=d36
  refine q_y (v:=(elP s34 (p_j.toNat * 1))) hF hS (ex_indexAddr U48 sz3 rfl rfl (hV34.idx he_33 he_35)) fun a hF=>?_
  have hS : St _ _ _ _ [q27,q32,[⟨b22,[s1.v,s2.v,s26.v,s27.v],76⟩],[⟨b6,[nilS.v,nilS.v,nilS.v,nilS.v],76⟩]]:=hS.sel [1,0,2,3] (by decide)
  refine q_do rfl fun _ hK=>wp_storeV (e':=p_hi) (us:=[(iV p_hi)]) (vs:=[(iV e_35)]) 0 hF hS hV34 he_33 sz3 rfl rfl rfl rfl rfl rfl rfl he_35 at36 rfl rfl rfl fun w q37 hS h37=>hK _ _ (q_end (n_sq (q_sr (q_y (v:=(.agg #[s1.v,s2.v,s26.v,s27.v])) hF hS (ex_loadA (vs:=[s1.v,s2.v,s26.v,s27.v]) 2 0 U76 rfl sz76 rfl rfl rfl rfl) fun a hF=>q_store (vs:=[s1.v,s2.v,s26.v,s27.v]) (cs':=[s1.v,s2.v,s26.v,s27.v]) 3 0 hF hS sz76 rfl rfl rfl rfl rfl rfl rfl rfl fun a w hF hS=>q_end (n_sq (q_ret ?_))))))
  obtain rfl:=someI hr
  exact ret_of hF hS rfl (.cellA (us:=[s1.v,s2.v,s26.v,s27.v]) 3 0 U76 rfl sz76 rfl rfl rfl rfl .nil) ⟨m,q32,q37,s1,s2,s26,s27,rfl,(MLe.refl _ _),hS.sel [1,0] (by decide),h24,h25,h32.own,h37.own⟩

theorem c_spec_tStart (p_t : impl_Transport) (r : spec_tFill × Bool) (hr : spec_tStart p_t = some r) (w0 : World) (m : Mem) (hv : Vis m w0) (s1 : Sl) (h1 : Rd m s1 p_t.Rows) (s2 : Sl) (h2 : Rd m s2 p_t.Cols) (s3 : Sl) (h3 : Rd m s3 p_t.Lo) (s4 : Sl) (h4 : Rd m s4 p_t.Hi) :
  Ret Tryz.prog 105 [(.agg #[s1.v,s2.v,s3.v,s4.v])] w0 (fun v w=>∃ (m' : Mem) (b0' : Nat) (q4' : Piece) (q5' : Piece) (q6' : Piece) (s0' : Sl) (s1' : Sl) (s2' : Sl) (s3' : Sl) (s4' : Sl) (s5' : Sl) (s6' : Sl),v = (.tuple #[(.pointer (some ⟨b0',0,none⟩)),(.bool r.2)])∧MLe [] w0.heap.size m m'∧St [] w0 w m' [[⟨b0',[s0'.v,s1'.v,s2'.v,s3'.v,s4'.v,s5'.v,s6'.v],116⟩],q4',q5',q6']∧Rd m' s0' r.1.t.Rows∧Rd m' s1' r.1.t.Cols∧Rd m' s2' r.1.t.Lo∧Rd m' s3' r.1.t.Hi∧OwnD m' 48 3 q4' s4' r.1.x∧OwnL m' 3 q5' s5' r.1.rows∧OwnL m' 3 q6' s6' r.1.cols):=by
 unfold spec_tStart at hr
 refine ret_start Tryz.func105 rfl 79 rfl rfl m hv fun a hF hS=>q_sr (q_box (cs:=[s1.v,s2.v,s3.v,s4.v]) hF hS rfl rfl rfl fun a w b5 hF hS=>q_s hF rfl fun a hF=>q_s hF rfl fun a hF=>q_end (n_sq (q_seq (e_region ⟨[],[],m⟩ mixed fun w' hw'=>?_))))
 have hS:=hS.below hw'
 refine e_X (v:=(.agg #[s1.v,s2.v,s3.v,s4.v])) 0 hF hS rfl (ex_loadA (vs:=[s1.v,s2.v,s3.v,s4.v]) 0 0 U76 rfl sz76 rfl rfl rfl rfl) fun a hF=>e_P (v:=(pP b5 2)) 1 hF rfl (ex_fieldAddr U76 rfl sz23 rfl rfl) fun a hF=>e_X (v:=s3.v) 2 hF hS rfl (ex_load1 0 0 U23 rfl rfl rfl rfl) fun a hF=>e_one 3 (by kernel_rfl) ?_
 obtain ⟨t_6,ht_6,hr⟩:=bindS hr
 refine e_call (vs:=[s3.v]) hF hS rfl Tryz.func37 (by kernel_rfl) rfl rfl rfl (c_spec_tOwn p_t.Lo t_6 ht_6 _ m hS.vis s3 h3) ?_
 rintro a w _ ⟨q8,s8,rfl,hR7,h8⟩ hF hS2
 have hS : St _ _ _ _ [q8,[⟨b5,[s1.v,s2.v,s3.v,s4.v],76⟩]]:=hS.joinF hR7
 refine e_P (v:=(.agg #[s1.v,s2.v,s3.v,s4.v,s8.v,nilS.v,nilS.v])) 4 hF rfl (ex_build (cells:=[s1.v,s2.v,s3.v,s4.v,s8.v,nilS.v,nilS.v]) rfl (by kernel_rfl)) fun a hF=>e_one 5 (by kernel_rfl) (e_box (cs:=[s1.v,s2.v,s3.v,s4.v,s8.v,nilS.v,nilS.v]) hF hS rfl rfl rfl rfl fun a w b9 hF hS=>e_P (v:=(pP b9 0)) 6 hF rfl (ex_assign rfl) fun a hF=>e_end (by kernel_rfl) (n_sq ?_) _)
 refine q_seq (q_sr (q_y (v:=(pP b5 0)) hF hS (ex_fieldAddr U76 rfl sz48 rfl rfl) fun a hF=>q_y (v:=s1.v) hF hS (ex_load1 2 0 U48 rfl rfl rfl rfl) fun a hF=>q_y (v:=(iV (goLen p_t.Rows))) hF hS (ex_len U48 rfl h1.len) fun a hF=>q_m hF rfl fun a hF=>q_end (n_sq (q_block ?_))))
 obtain ⟨t_27,hl1,hr⟩:=bindS hr
 refine q_loop (fun (s : Int × spec_tFill) a w=>∃ (q17 : Piece),∃ (s17 : Sl),∃ t_10,∃ t_11,s = (t_10,t_11)∧Fr a 79 [(1,(pP b5 0)),(4,(pP b9 0)),(16,s1.v),(17,(iV (goLen p_t.Rows))),(18,(iV t_10))]∧St [] w0 w m [q17,[⟨b9,[s1.v,s2.v,s3.v,s4.v,s8.v,s17.v,nilS.v],116⟩],q8,[⟨b5,[s1.v,s2.v,s3.v,s4.v],76⟩]]∧Rd m s1 t_11.t.Rows∧t_11.t.Rows = p_t.Rows∧Rd m s2 t_11.t.Cols∧t_11.t.Cols = p_t.Cols∧Rd m s3 t_11.t.Lo∧t_11.t.Lo = p_t.Lo∧Rd m s4 t_11.t.Hi∧t_11.t.Hi = p_t.Hi∧OwnD m 48 3 q8 s8 t_11.x∧t_11.x = t_6∧OwnL m 3 q17 s17 t_11.rows) (fun (t_27 : spec_tFill) e a w=>∃ (q33 : Piece),∃ (s33 : Sl),e = .exit 0∧Fr a 79 [(1,(pP b5 0)),(4,(pP b9 0))]∧St [] w0 w m [q8,q33,[⟨b9,[s1.v,s2.v,s3.v,s4.v,s8.v,s33.v,nilS.v],116⟩],[⟨b5,[s1.v,s2.v,s3.v,s4.v],76⟩]]∧Rd m s1 t_27.t.Rows∧t_27.t.Rows = p_t.Rows∧Rd m s2 t_27.t.Cols∧t_27.t.Cols = p_t.Cols∧Rd m s3 t_27.t.Lo∧t_27.t.Lo = p_t.Lo∧Rd m s4 t_27.t.Hi∧t_27.t.Hi = p_t.Hi∧OwnD m 48 3 q8 s8 t_27.x∧t_27.x = t_6∧OwnL m 3 q33 s33 t_27.rows) hl1 ⟨[],nilS,_,_,rfl,hF.sub ⟨rfl,rfl,rfl,rfl,rfl,trivial⟩,hS.sel [3,0,1,2] (by decide),h1,rfl,h2,rfl,h3,rfl,h4,rfl,h8,rfl,(OwnL.nil (α:=Int) m 3)⟩ ?_ ?_
 ·clear hF hS
  rintro s a w st ⟨q17,s17,t_10,t_11,rfl,hF,hS,h12,h12k,h13,h13k,h14,h14k,h15,h15k,h16,h16k,h17⟩ hb1
  unfold spec_tStart_l1 at hb1
  refine q_sr (q_y (v:=(.bool (decide (t_10 < (goLen p_t.Rows))))) hF hS (ex_ibin rfl rfl rfl) fun a hF=>q_end (n_sq (q_seq ?_)))
  rcases bcase (decide (t_10 < (goLen p_t.Rows))) with hc2 | hc2
  ·have hb1:=cond_f hc2 hb1
   refine q_cond_f hF rfl hc2 (q_exit (x_sq ?_))
   obtain rfl:=someI hb1
   exact ⟨nofun,.inl ⟨q17,s17,rfl,hF.sub ⟨rfl,rfl,trivial⟩,hS.sel [2,0,1,3] (by decide),h12,h12k,h13,h13k,h14,h14k,h15,h15k,h16,h16k,h17⟩⟩
  ·have hb1:=cond_t hc2 hb1
   refine q_cond_t hF rfl hc2 (q_skipc (n_sq (q_seq (q_block (q_sr (q_m hF rfl fun a hF=>?_))))))
   obtain ⟨e_18,he_18,hb1⟩:=bindS hb1
   obtain ⟨vs19,at19,d19⟩:=h1.at he_18 1 rfl
   obtain rfl : vs19 = [(iV e_18)]:=d19
   refine q_y (v:=(elP s1 (t_10.toNat * 1))) hF hS (ex_indexAddr U48 sz3 rfl rfl (h1.idx he_18)) fun a hF=>q_y (v:=(iV e_18)) hF hS (ex_loadE1 0 U3 rfl rfl ((at19).at) rfl rfl) fun a hF=>q_s hF rfl fun a hF=>q_s hF rfl fun a hF=>q_end (n_sq (e_region ⟨[14,17],[],m⟩ mixed fun w' hw'=>?_))
   have hS:=hS.below hw'
   refine e_P (v:=(pP b9 0)) 0 hF rfl (ex_move rfl) fun a hF=>e_P (v:=(pP b9 0)) 1 hF rfl (ex_move rfl) fun a hF=>e_P (v:=(pP b9 0)) 2 hF rfl (ex_nilCheck rfl) fun a hF=>e_P (v:=(pP b9 5)) 3 hF rfl (ex_fieldAddr U116 rfl sz48 rfl rfl) fun a hF=>e_X (v:=s17.v) 4 hF hS rfl (ex_load1 1 0 U48 rfl rfl rfl rfl) fun a hF=>e_P (v:=(iV e_18)) 5 hF rfl (ex_move rfl) fun a hF=>e_P (v:=(pP b5 2)) 6 hF rfl (ex_fieldAddr U76 rfl sz23 rfl rfl) fun a hF=>e_P (v:=(iV t_10)) 8 hF rfl (ex_move rfl) fun a hF=>e_one 7 (by kernel_rfl) (e_lx (v:=s3.v) hF hS rfl (ex_load1 3 0 U23 rfl rfl rfl rfl) rfl rfl fun a hF=>?_)
   obtain ⟨e_20,he_20,hb1⟩:=bindS hb1
   obtain ⟨vs21,at21,d21⟩:=h3.at he_20 1 rfl
   obtain ⟨s22,rfl,h22⟩ : ∃ s22 : Sl,vs21 = [s22.v]∧Rd m s22 e_20:=d21
   refine e_P (v:=(elP s3 (t_10.toNat * 1))) 9 hF rfl (ex_indexAddr U23 sz48 rfl rfl (h3.idx he_20)) fun a hF=>e_xm (v:=s22.v) 10 hF hS (Mem.le.refl _) rfl (ex_loadE1 0 U48 rfl rfl ((at21).at) rfl rfl) rfl rfl (by kernel_rfl) (by kernel_rfl) (by kernel_rfl) fun a hF=>e_one 11 (by kernel_rfl) ?_
   obtain ⟨t_23,ht_23,hb1⟩:=bindS hb1
   refine e_call (vs:=[s22.v]) hF hS rfl Tryz.func88 (by kernel_rfl) rfl rfl rfl (c_spec_tSum e_20 t_23 ht_23 _ m hS.vis s22 h22) ?_
   rintro a w _ rfl hF hS
   refine e_P (v:=(iV (w64 (e_18 - t_23)))) 12 hF rfl (ex_ibin rfl rfl rfl) fun a hF=>e_one 13 (by kernel_rfl) (e_op rfl rfl fun _ hK=>wp_buildSlice' (l:=([(w64 (e_18 - t_23))] : List Int)) (cells:=[(iV (w64 (e_18 - t_23)))]) hF hS U48 inf3 rfl rfl (by kernel_rfl) rfl rfl rfl ⟨rfl,rfl⟩ rfl rfl fun a w q24 s24 hF hS h24 hb=>hK _ _ hb (e_one 14 (by kernel_rfl) ?_))
   have hS : St _ _ _ _ [q17,q24,[⟨b9,[s1.v,s2.v,s3.v,s4.v,s8.v,s17.v,nilS.v],116⟩],q8,[⟨b5,[s1.v,s2.v,s3.v,s4.v],76⟩]]:=hS.sel [1,0,2,3,4] (by decide)
   obtain ⟨l_25,hl_25,hb1⟩:=bindS hb1
   refine e_opl rfl rfl rfl fun _ hK=>wp_append hF hS h17 U48 inf3 rfl rfl rfl rfl (h24.vw hS (j:=1) rfl) rfl (by decide) hl_25 rfl fun a w q26 s26 hF hS h26=>hK _ _ (⟨⟨kpN,fun _=>hS.vis.of_le (Mem.le.refl _)⟩,?_⟩)
   refine e_P (v:=(pP b9 0)) 15 hF rfl (ex_nilCheck rfl) fun a hF=>e_P (v:=(pP b9 5)) 16 hF rfl (ex_fieldAddr U116 rfl sz48 rfl rfl) fun a hF=>e_one 17 (by kernel_rfl) (e_store (vs:=[s26.v]) (cs':=[s1.v,s2.v,s3.v,s4.v,s8.v,s26.v,nilS.v]) 2 0 hF hS rfl rfl sz48 rfl rfl rfl rfl rfl rfl rfl rfl fun a w hF hS=>⟨⟨kpN,fun _=>hS.vis.of_le (Mem.le.refl _)⟩,?_⟩)
   refine e_end (by kernel_rfl) (n_ib (n_sq ?_)) _
   refine q_region (q_y (v:=(iV (w64 (t_10 + 1)))) hF hS (ex_ibin rfl rfl rfl) fun a hF=>q_m hF rfl fun a hF=>q_end ?_)
   obtain rfl:=someI hb1
   exact ⟨rfl,q26,s26,_,_,rfl,hF.sub ⟨rfl,rfl,rfl,rfl,rfl,trivial⟩,hS.mask [true,false,true,true,true],h12,h12k,h13,h13k,h14,h14k,h15,h15k,h16,h16k,h26⟩
 ·rintro e a w ⟨q33,s33,rfl,hF,hS,h28,h28k,h29,h29k,h30,h30k,h31,h31k,h32,h32k,h33⟩
  refine x_ib (n_sq ?_)
  refine q_seq (q_sr (q_y (v:=(pP b5 1)) hF hS (ex_fieldAddr U76 rfl sz48 rfl rfl) fun a hF=>q_y (v:=s2.v) hF hS (ex_load1 3 0 U48 rfl rfl rfl rfl) fun a hF=>q_y (v:=(iV (goLen p_t.Cols))) hF hS (ex_len U48 rfl h2.len) fun a hF=>q_m hF rfl fun a hF=>q_end (n_sq (q_block ?_))))
  obtain ⟨t_53,hl3,hr⟩:=bindS hr
  refine q_loop (fun (s : Int × spec_tFill) a w=>∃ (q42 : Piece),∃ (s42 : Sl),∃ t_34,∃ t_35,s = (t_34,t_35)∧Fr a 79 [(1,(pP b5 0)),(4,(pP b9 0)),(42,s2.v),(43,(iV (goLen p_t.Cols))),(44,(iV t_34))]∧St [] w0 w m [q42,q8,q33,[⟨b9,[s1.v,s2.v,s3.v,s4.v,s8.v,s33.v,s42.v],116⟩],[⟨b5,[s1.v,s2.v,s3.v,s4.v],76⟩]]∧Rd m s1 t_35.t.Rows∧t_35.t.Rows = p_t.Rows∧Rd m s2 t_35.t.Cols∧t_35.t.Cols = p_t.Cols∧Rd m s3 t_35.t.Lo∧t_35.t.Lo = p_t.Lo∧Rd m s4 t_35.t.Hi∧t_35.t.Hi = p_t.Hi∧OwnD m 48 3 q8 s8 t_35.x∧t_35.x = t_6∧OwnL m 3 q33 s33 t_35.rows∧t_35.rows = t_27.rows∧OwnL m 3 q42 s42 t_35.cols) (fun (t_53 : spec_tFill) e a w=>∃ (q60 : Piece),∃ (s60 : Sl),e = .exit 2∧Fr a 79 [(4,(pP b9 0))]∧St [] w0 w m [q8,q33,q60,[⟨b9,[s1.v,s2.v,s3.v,s4.v,s8.v,s33.v,s60.v],116⟩]]∧Rd m s1 t_53.t.Rows∧t_53.t.Rows = p_t.Rows∧Rd m s2 t_53.t.Cols∧t_53.t.Cols = p_t.Cols∧Rd m s3 t_53.t.Lo∧t_53.t.Lo = p_t.Lo∧Rd m s4 t_53.t.Hi∧t_53.t.Hi = p_t.Hi∧OwnD m 48 3 q8 s8 t_53.x∧t_53.x = t_6∧OwnL m 3 q33 s33 t_53.rows∧t_53.rows = t_27.rows∧OwnL m 3 q60 s60 t_53.cols) hl3 ⟨[],nilS,_,_,rfl,hF.sub ⟨rfl,rfl,rfl,rfl,rfl,trivial⟩,hS.sel [4,0,1,2,3] (by decide),h28,h28k,h29,h29k,h30,h30k,h31,h31k,h32,h32k,h33,rfl,(OwnL.nil (α:=Int) m 3)⟩ ?_ ?_
  ·clear hF hS
   rintro s a w st ⟨q42,s42,t_34,t_35,rfl,hF,hS,h36,h36k,h37,h37k,h38,h38k,h39,h39k,h40,h40k,h41,h41k,h42⟩ hb3
   unfold spec_tStart_l2 at hb3
   refine q_sr (q_y (v:=(.bool (decide (t_34 < (goLen p_t.Cols))))) hF hS (ex_ibin rfl rfl rfl) fun a hF=>q_end (n_sq (q_seq ?_)))
   rcases bcase (decide (t_34 < (goLen p_t.Cols))) with hc4 | hc4
   ·have hb3:=cond_f hc4 hb3
    refine q_cond_f hF rfl hc4 (q_exit (x_sq ?_))
    obtain rfl:=someI hb3
    exact ⟨nofun,.inl ⟨q42,s42,rfl,hF.sub ⟨rfl,trivial⟩,hS.sel [1,2,0,3] (by decide),h36,h36k,h37,h37k,h38,h38k,h39,h39k,h40,h40k,h41,h41k,h42⟩⟩
   ·have hb3:=cond_t hc4 hb3
    refine q_cond_t hF rfl hc4 (q_skipc (n_sq (q_seq (q_block (q_sr (q_m hF rfl fun a hF=>?_))))))
    obtain ⟨e_43,he_43,hb3⟩:=bindS hb3
    obtain ⟨vs44,at44,d44⟩:=h2.at he_43 1 rfl
    obtain rfl : vs44 = [(iV e_43)]:=d44
    refine q_y (v:=(elP s2 (t_34.toNat * 1))) hF hS (ex_indexAddr U48 sz3 rfl rfl (h2.idx he_43)) fun a hF=>q_y (v:=(iV e_43)) hF hS (ex_loadE1 0 U3 rfl rfl ((at44).at) rfl rfl) fun a hF=>q_s hF rfl fun a hF=>q_s hF rfl fun a hF=>q_end (n_sq (e_region ⟨[13,16],[],m⟩ mixed fun w' hw'=>?_))
    have hS:=hS.below hw'
    refine e_P (v:=(pP b9 0)) 0 hF rfl (ex_move rfl) fun a hF=>e_P (v:=(pP b9 0)) 1 hF rfl (ex_move rfl) fun a hF=>e_P (v:=(pP b9 0)) 2 hF rfl (ex_nilCheck rfl) fun a hF=>e_P (v:=(pP b9 6)) 3 hF rfl (ex_fieldAddr U116 rfl sz48 rfl rfl) fun a hF=>e_X (v:=s42.v) 4 hF hS rfl (ex_load1 3 0 U48 rfl rfl rfl rfl) fun a hF=>e_P (v:=(iV e_43)) 5 hF rfl (ex_move rfl) fun a hF=>e_P (v:=(pP b5 2)) 6 hF rfl (ex_fieldAddr U76 rfl sz23 rfl rfl) fun a hF=>e_P (v:=(iV t_34)) 8 hF rfl (ex_move rfl) fun a hF=>e_one 7 (by kernel_rfl) (e_lx (v:=s3.v) hF hS rfl (ex_load1 4 0 U23 rfl rfl rfl rfl) rfl rfl fun a hF=>e_one 9 (by kernel_rfl) ?_)
    obtain ⟨t_45,ht_45,hb3⟩:=bindS hb3
    refine e_call (vs:=[s3.v,(iV t_34)]) hF hS rfl Tryz.func89 (by kernel_rfl) rfl rfl rfl (c_spec_tColumn p_t.Lo t_34 t_45 ht_45 _ m hS.vis s3 h3) ?_
    rintro a w _ ⟨q47,s47,rfl,hR46,h47⟩ hF hS2
    have hS : St _ _ _ _ [q47,q42,q8,q33,[⟨b9,[s1.v,s2.v,s3.v,s4.v,s8.v,s33.v,s42.v],116⟩],[⟨b5,[s1.v,s2.v,s3.v,s4.v],76⟩]]:=hS.joinF hR46
    refine e_one 10 (by kernel_rfl) ?_
    obtain ⟨m49,hl49,hv49,hz49⟩:=hS.lend
    obtain ⟨t_48,ht_48,hb3⟩:=bindS hb3
    refine e_call (vs:=[s47.v]) hF hS rfl Tryz.func88 (by kernel_rfl) rfl rfl rfl (c_spec_tSum t_45 t_48 ht_48 _ m49 hv49 s47 (h47.froz hl49 (hz49 0 _ rfl))) ?_
    rintro a w _ rfl hF hS
    refine e_P (v:=(iV (w64 (e_43 - t_48)))) 11 hF rfl (ex_ibin rfl rfl rfl) fun a hF=>e_one 12 (by kernel_rfl) (e_op rfl rfl fun _ hK=>wp_buildSlice' (l:=([(w64 (e_43 - t_48))] : List Int)) (cells:=[(iV (w64 (e_43 - t_48)))]) hF hS U48 inf3 rfl rfl (by kernel_rfl) rfl rfl rfl ⟨rfl,rfl⟩ rfl rfl fun a w q50 s50 hF hS h50 hb=>hK _ _ hb (e_one 13 (by kernel_rfl) ?_))
    have hS : St _ _ _ _ [q42,q50,q47,q8,q33,[⟨b9,[s1.v,s2.v,s3.v,s4.v,s8.v,s33.v,s42.v],116⟩],[⟨b5,[s1.v,s2.v,s3.v,s4.v],76⟩]]:=hS.sel [2,0,1,3,4,5,6] (by decide)
    obtain ⟨l_51,hl_51,hb3⟩:=bindS hb3
    refine e_opl rfl rfl rfl fun _ hK=>wp_append hF hS h42 U48 inf3 rfl rfl rfl rfl (h50.vw hS (j:=1) rfl) rfl (by decide) hl_51 rfl fun a w q52 s52 hF hS h52=>hK _ _ (⟨⟨kpN,fun _=>hS.vis.of_le (Mem.le.refl _)⟩,?_⟩)
    refine e_P (v:=(pP b9 0)) 14 hF rfl (ex_nilCheck rfl) fun a hF=>e_P (v:=(pP b9 6)) 15 hF rfl (ex_fieldAddr U116 rfl sz48 rfl rfl) fun a hF=>e_one 16 (by kernel_rfl) (e_store (vs:=[s52.v]) (cs':=[s1.v,s2.v,s3.v,s4.v,s8.v,s33.v,s52.v]) 5 0 hF hS rfl rfl sz48 rfl rfl rfl rfl rfl rfl rfl rfl fun a w hF hS=>⟨⟨kpN,fun _=>hS.vis.of_le (Mem.le.refl _)⟩,?_⟩)
    refine e_end (by kernel_rfl) (n_ib (n_sq ?_)) _
    refine q_region (q_y (v:=(iV (w64 (t_34 + 1)))) hF hS (ex_ibin rfl rfl rfl) fun a hF=>q_m hF rfl fun a hF=>q_end ?_)
    obtain rfl:=someI hb3
    exact ⟨rfl,q52,s52,_,_,rfl,hF.sub ⟨rfl,rfl,rfl,rfl,rfl,trivial⟩,hS.mask [true,false,false,true,true,true,true],h36,h36k,h37,h37k,h38,h38k,h39,h39k,h40,h40k,h41,h41k,h52⟩
  ·rintro e a w ⟨q60,s60,rfl,hF,hS,h54,h54k,h55,h55k,h56,h56k,h57,h57k,h58,h58k,h59,h59k,h60⟩
   refine x_ib (n_sq ?_)
   refine q_seq ?_
   obtain ⟨t_65,hj5,hr⟩:=bindS hr
   refine q_join (fun a w=>Fr a 79 [(2,(pP b9 0)),(3,(.bool t_65))]∧St [] w0 w m [q8,q33,q60,[⟨b9,[s1.v,s2.v,s3.v,s4.v,s8.v,s33.v,s60.v],116⟩]]) ?_ ?_
   ·refine q_region (q_m hF rfl fun a hF=>q_m hF rfl fun a hF=>q_y (v:=(pP b9 0)) hF hS (ex_nilCheck rfl) fun a hF=>q_y (v:=(pP b9 5)) hF hS (ex_fieldAddr U116 rfl sz48 rfl rfl) fun a hF=>q_y (v:=s33.v) hF hS (ex_load1 3 0 U48 rfl rfl rfl rfl) fun a hF=>?_)
    obtain ⟨m62,hl62,hv62,hz62⟩:=hS.lend
    obtain ⟨t_61,ht_61,hj5⟩:=bindS hj5
    refine q_call (vs:=[s33.v,(iV 0),(iV 100000)]) hF hS Tryz.func87 (by kernel_rfl) rfl rfl rfl (c_spec_l1All t_53.rows 0 100000 t_61 ht_61 _ m62 hv62 s33 (h59.froz hl62 (hz62 1 _ rfl))) ?_
    rintro a w _ rfl hF hS
    refine q_m hF rfl fun a hF=>?_
    rcases bcase (t_61) with hc6 | hc6
    ·have hj5:=cond_f hc6 hj5
     refine q_k hF hc6 fun a hF=>q_k hF hc6 fun a hF=>q_k hF hc6 fun a hF=>q_k hF hc6 fun a hF=>q_k hF hc6 fun a hF=>q_y (v:=(.bool false)) hF hS (ex_pick_f rfl rfl hc6) fun a hF=>q_s hF rfl fun a hF=>q_s hF rfl fun a hF=>q_end (n_jn ?_)
     obtain rfl:=someI hj5
     exact ⟨hF.sub ⟨rfl,rfl,trivial⟩,hS⟩
    ·have hj5:=cond_t hc6 hj5
     refine q_g (v:=(pP b9 0)) hF hS (ex_move rfl) hc6 fun a hF=>q_g (v:=(pP b9 0)) hF hS (ex_nilCheck rfl) hc6 fun a hF=>q_g (v:=(pP b9 6)) hF hS (ex_fieldAddr U116 rfl sz48 rfl rfl) hc6 fun a hF=>q_g (v:=s60.v) hF hS (ex_load1 3 0 U48 rfl rfl rfl rfl) hc6 fun a hF=>?_
     obtain ⟨m64,hl64,hv64,hz64⟩:=hS.lend
     obtain ⟨t_63,ht_63,hj5⟩:=bindS hj5
     refine q_callg (vs:=[s60.v,(iV 0),(iV 100000)]) hF hS (wanted_t hF rfl rfl rfl hc6) Tryz.func87 (by kernel_rfl) rfl rfl rfl (c_spec_l1All t_53.cols 0 100000 t_63 ht_63 _ m64 hv64 s60 (h60.froz hl64 (hz64 2 _ rfl))) ?_
     rintro a w _ rfl hF hS
     refine q_y (v:=(.bool t_63)) hF hS (ex_pick_t rfl rfl hc6) fun a hF=>q_s hF rfl fun a hF=>q_s hF rfl fun a hF=>q_end (n_jn ?_)
     obtain rfl:=someI hj5
     exact ⟨hF.sub ⟨rfl,rfl,trivial⟩,hS⟩
   ·rintro a w ⟨hF,hS⟩
    refine n_sq (q_ret ?_)
    obtain rfl:=someI hr
    exact ret_of hF hS rfl (.tmp rfl (.tmp rfl .nil)) ⟨m,b9,q8,q33,q60,s1,s2,s3,s4,s8,s33,s60,rfl,(MLe.refl _ _),hS.sel [3,0,1,2] (by decide),h54,h55,h56,h57,h58,h59,h60⟩

theorem c_spec_tFill_room (p_f : spec_tFill) (p_v : Int) (p_k : Int) (r : Int) (hr : spec_tFill_room p_f p_v p_k = some r) (w0 : World) (m : Mem) (b_p_f : Nat) (s1 : Sl) (h1 : Rd m s1 p_f.t.Rows) (s2 : Sl) (h2 : Rd m s2 p_f.t.Cols) (s3 : Sl) (h3 : Rd m s3 p_f.t.Lo) (s4 : Sl) (h4 : Rd m s4 p_f.t.Hi) (s5 : Sl) (h5 : Rd m s5 p_f.x) (s6 : Sl) (h6 : Rd m s6 p_f.rows) (s7 : Sl) (h7 : Rd m s7 p_f.cols) (X : List Nat) (hS : St X w0 w0 m [[⟨b_p_f,[s1.v,s2.v,s3.v,s4.v,s5.v,s6.v,s7.v],116⟩]]) :
  RetX Tryz.prog 108 [(pP b_p_f 0),(iV p_v),(iV p_k)] w0 (fun v w=>v = (iV r)∧St X w0 w m [[⟨b_p_f,[s1.v,s2.v,s3.v,s4.v,s5.v,s6.v,s7.v],116⟩]]):=by
 unfold spec_tFill_room at hr
 refine ret_startX Tryz.func108 rfl 83 rfl rfl fun a hF=>q_sr (q_s hF rfl fun a hF=>q_end (n_sq (q_sr (q_m hF rfl fun a hF=>q_y (v:=(pP b_p_f 0)) hF hS (ex_nilCheck rfl) fun a hF=>q_y (v:=(pP b_p_f 5)) hF hS (ex_fieldAddr U116 rfl sz48 rfl rfl) fun a hF=>q_y (v:=s6.v) hF hS (ex_load1 0 0 U48 rfl rfl rfl rfl) fun a hF=>q_y (v:=(iV (goLen p_f.rows))) hF hS (ex_len U48 rfl h6.len) fun a hF=>q_s hF rfl fun a hF=>q_end (n_sq (q_seq (q_block (q_seq ?_))))))))
 obtain ⟨t_8,hj1,hr⟩:=bindS hr
 refine q_join (fun a w=>Fr a 83 [(0,(pP b_p_f 0)),(1,(iV p_v)),(2,(iV p_k)),(7,(iV (goLen p_f.rows))),(13,(.bool t_8))]∧St X w0 w m [[⟨b_p_f,[s1.v,s2.v,s3.v,s4.v,s5.v,s6.v,s7.v],116⟩]]) ?_ ?_
 ·refine q_region (q_m hF rfl fun a hF=>q_m hF rfl fun a hF=>q_y (v:=(.bool (decide (p_v < (goLen p_f.rows))))) hF hS (ex_ibin rfl rfl rfl) fun a hF=>q_m hF rfl fun a hF=>?_)
  rcases bcase (decide (p_v < (goLen p_f.rows))) with hc2 | hc2
  ·have hj1:=cond_f hc2 hj1
   refine q_k hF hc2 fun a hF=>q_k hF hc2 fun a hF=>q_k hF hc2 fun a hF=>q_y (v:=(.bool false)) hF hS (ex_pick_f rfl rfl hc2) fun a hF=>q_s hF rfl fun a hF=>q_end (n_jn ?_)
   obtain rfl:=someI hj1
   exact ⟨hF.sub ⟨rfl,rfl,rfl,rfl,rfl,trivial⟩,hS⟩
  ·have hj1:=cond_t hc2 hj1
   refine q_g (v:=(iV p_k)) hF hS (ex_move rfl) hc2 fun a hF=>q_g (v:=(iV (goLen p_f.rows))) hF hS (ex_move rfl) hc2 fun a hF=>q_g (v:=(.bool (decide ((goLen p_f.rows) ≤ p_k)))) hF hS (ex_ibin rfl rfl rfl) hc2 fun a hF=>q_y (v:=(.bool (decide ((goLen p_f.rows) ≤ p_k)))) hF hS (ex_pick_t rfl rfl hc2) fun a hF=>q_s hF rfl fun a hF=>q_end (n_jn ?_)
   obtain rfl:=someI hj1
   exact ⟨hF.sub ⟨rfl,rfl,rfl,rfl,rfl,trivial⟩,hS⟩
 ·rintro a w ⟨hF,hS⟩
  refine n_sq ?_
  rcases bcase (t_8) with hc3 | hc3
  ·have hr:=cond_f hc3 hr
   refine q_cond_f hF rfl hc3 (q_seq ?_)
   obtain ⟨t_9,hj4,hr⟩:=bindS hr
   refine q_join (fun a w=>Fr a 83 [(0,(pP b_p_f 0)),(1,(iV p_v)),(2,(iV p_k)),(7,(iV (goLen p_f.rows))),(48,(.bool t_9))]∧St X w0 w m [[⟨b_p_f,[s1.v,s2.v,s3.v,s4.v,s5.v,s6.v,s7.v],116⟩]]) ?_ ?_
   ·refine q_region (q_m hF rfl fun a hF=>q_m hF rfl fun a hF=>q_y (v:=(.bool (decide ((goLen p_f.rows) ≤ p_v)))) hF hS (ex_ibin rfl rfl rfl) fun a hF=>q_m hF rfl fun a hF=>?_)
    rcases bcase (decide ((goLen p_f.rows) ≤ p_v)) with hc5 | hc5
    ·have hj4:=cond_f hc5 hj4
     refine q_k hF hc5 fun a hF=>q_k hF hc5 fun a hF=>q_k hF hc5 fun a hF=>q_y (v:=(.bool false)) hF hS (ex_pick_f rfl rfl hc5) fun a hF=>q_s hF rfl fun a hF=>q_end (n_jn ?_)
     obtain rfl:=someI hj4
     exact ⟨hF.sub ⟨rfl,rfl,rfl,rfl,rfl,trivial⟩,hS⟩
    ·have hj4:=cond_t hc5 hj4
     refine q_g (v:=(iV p_k)) hF hS (ex_move rfl) hc5 fun a hF=>q_g (v:=(iV (goLen p_f.rows))) hF hS (ex_move rfl) hc5 fun a hF=>q_g (v:=(.bool (decide (p_k < (goLen p_f.rows))))) hF hS (ex_ibin rfl rfl rfl) hc5 fun a hF=>q_y (v:=(.bool (decide (p_k < (goLen p_f.rows))))) hF hS (ex_pick_t rfl rfl hc5) fun a hF=>q_s hF rfl fun a hF=>q_end (n_jn ?_)
     obtain rfl:=someI hj4
     exact ⟨hF.sub ⟨rfl,rfl,rfl,rfl,rfl,trivial⟩,hS⟩
   ·rintro a w ⟨hF,hS⟩
    refine n_sq ?_
    rcases bcase (t_9) with hc6 | hc6
    ·have hr:=cond_f hc6 hr
     refine q_cond_f hF rfl hc6 (q_skipc (n_ib (n_sq (q_sr (q_s hF rfl fun a hF=>q_end (n_sq (q_ret ?_)))))))
     obtain rfl:=someI hr
     exact ret_ofX hF hS rfl (.tmp rfl .nil) ⟨rfl,hS.sel [0] (by decide)⟩
    ·have hr:=cond_t hc6 hr
     refine q_cond_t hF rfl hc6 (q_seq (e_region ⟨[],[],m⟩ mixed fun w' hw'=>?_))
     have hS:=hS.below hw'
     refine e_P (v:=(pP b_p_f 0)) 0 hF rfl (ex_move rfl) fun a hF=>e_P (v:=(pP b_p_f 0)) 1 hF rfl (ex_nilCheck rfl) fun a hF=>e_P (v:=(pP b_p_f 4)) 2 hF rfl (ex_fieldAddr U116 rfl sz23 rfl rfl) fun a hF=>e_X (v:=s5.v) 3 hF hS rfl (ex_load1 0 0 U23 rfl rfl rfl rfl) fun a hF=>e_P (v:=(iV p_k)) 4 hF rfl (ex_move rfl) fun a hF=>?_
     obtain ⟨e_10,he_10,hr⟩:=bindS hr
     obtain ⟨vs11,at11,d11⟩:=h5.at he_10 1 rfl
     obtain ⟨s12,rfl,h12⟩ : ∃ s12 : Sl,vs11 = [s12.v]∧Rd m s12 e_10:=d11
     refine e_P (v:=(elP s5 (p_k.toNat * 1))) 5 hF rfl (ex_indexAddr U23 sz48 rfl rfl (h5.idx he_10)) fun a hF=>e_xm (v:=s12.v) 6 hF hS (Mem.le.refl _) rfl (ex_loadE1 0 U48 rfl rfl ((at11).at) rfl rfl) rfl rfl (by kernel_rfl) (by kernel_rfl) (by kernel_rfl) fun a hF=>e_P (v:=(iV p_v)) 7 hF rfl (ex_move rfl) fun a hF=>e_P (v:=(iV (goLen p_f.rows))) 8 hF rfl (ex_move rfl) fun a hF=>e_P (v:=(iV (w64 (p_v - (goLen p_f.rows))))) 9 hF rfl (ex_ibin rfl rfl rfl) fun a hF=>?_
     obtain ⟨e_13,he_13,hr⟩:=bindS hr
     obtain ⟨vs14,at14,d14⟩:=h12.at he_13 1 rfl
     obtain rfl : vs14 = [(iV e_13)]:=d14
     refine e_P (v:=(elP s12 ((w64 (p_v - (goLen p_f.rows))).toNat * 1))) 10 hF rfl (ex_indexAddr U48 sz3 rfl rfl (h12.idx he_13)) fun a hF=>e_xm (v:=(iV e_13)) 11 hF hS (Mem.le.refl _) rfl (ex_loadE1 0 U3 rfl rfl ((at14).at) rfl rfl) rfl rfl (by kernel_rfl) (by kernel_rfl) (by kernel_rfl) fun a hF=>e_P (v:=(pP b_p_f 0)) 12 hF rfl (ex_move rfl) fun a hF=>e_P (v:=(pP b_p_f 0)) 13 hF rfl (ex_nilCheck rfl) fun a hF=>e_P (v:=(pP b_p_f 0)) 14 hF rfl (ex_fieldAddr U116 rfl sz76 rfl rfl) fun a hF=>e_P (v:=(pP b_p_f 2)) 15 hF rfl (ex_fieldAddr U76 rfl sz23 rfl rfl) fun a hF=>e_X (v:=s3.v) 16 hF hS rfl (ex_load1 0 0 U23 rfl rfl rfl rfl) fun a hF=>e_P (v:=(iV p_k)) 17 hF rfl (ex_move rfl) fun a hF=>?_
     obtain ⟨e_15,he_15,hr⟩:=bindS hr
     obtain ⟨vs16,at16,d16⟩:=h3.at he_15 1 rfl
     obtain ⟨s17,rfl,h17⟩ : ∃ s17 : Sl,vs16 = [s17.v]∧Rd m s17 e_15:=d16
     refine e_P (v:=(elP s3 (p_k.toNat * 1))) 18 hF rfl (ex_indexAddr U23 sz48 rfl rfl (h3.idx he_15)) fun a hF=>e_xm (v:=s17.v) 19 hF hS (Mem.le.refl _) rfl (ex_loadE1 0 U48 rfl rfl ((at16).at) rfl rfl) rfl rfl (by kernel_rfl) (by kernel_rfl) (by kernel_rfl) fun a hF=>e_P (v:=(iV p_v)) 20 hF rfl (ex_move rfl) fun a hF=>e_P (v:=(iV (goLen p_f.rows))) 21 hF rfl (ex_move rfl) fun a hF=>e_P (v:=(iV (w64 (p_v - (goLen p_f.rows))))) 22 hF rfl (ex_ibin rfl rfl rfl) fun a hF=>?_
     obtain ⟨e_18,he_18,hr⟩:=bindS hr
     obtain ⟨vs19,at19,d19⟩:=h17.at he_18 1 rfl
     obtain rfl : vs19 = [(iV e_18)]:=d19
     refine e_P (v:=(elP s17 ((w64 (p_v - (goLen p_f.rows))).toNat * 1))) 23 hF rfl (ex_indexAddr U48 sz3 rfl rfl (h17.idx he_18)) fun a hF=>e_xm (v:=(iV e_18)) 24 hF hS (Mem.le.refl _) rfl (ex_loadE1 0 U3 rfl rfl ((at19).at) rfl rfl) rfl rfl (by kernel_rfl) (by kernel_rfl) (by kernel_rfl) fun a hF=>e_P (v:=(iV (w64 (e_13 - e_18)))) 25 hF rfl (ex_ibin rfl rfl rfl) fun a hF=>e_P (v:=(iV (w64 (e_13 - e_18)))) 26 hF rfl (ex_assign rfl) fun a hF=>e_end (by kernel_rfl) (n_sq (q_ret (r_ib (r_sq ?_)))) _
     obtain rfl:=someI hr
     exact ret_ofX hF hS rfl (.tmp rfl .nil) ⟨rfl,hS.sel [0] (by decide)⟩
  ·have hr:=cond_t hc3 hr
   refine q_cond_t hF rfl hc3 (q_seq (e_region ⟨[],[],m⟩ mixed fun w' hw'=>?_))
   have hS:=hS.below hw'
   refine e_P (v:=(pP b_p_f 0)) 0 hF rfl (ex_move rfl) fun a hF=>e_P (v:=(pP b_p_f 0)) 1 hF rfl (ex_nilCheck rfl) fun a hF=>e_P (v:=(pP b_p_f 0)) 2 hF rfl (ex_fieldAddr U116 rfl sz76 rfl rfl) fun a hF=>e_P (v:=(pP b_p_f 3)) 3 hF rfl (ex_fieldAddr U76 rfl sz23 rfl rfl) fun a hF=>e_X (v:=s4.v) 4 hF hS rfl (ex_load1 0 0 U23 rfl rfl rfl rfl) fun a hF=>e_P (v:=(iV p_v)) 5 hF rfl (ex_move rfl) fun a hF=>?_
   obtain ⟨e_9,he_9,hr⟩:=bindS hr
   obtain ⟨vs10,at10,d10⟩:=h4.at he_9 1 rfl
   obtain ⟨s11,rfl,h11⟩ : ∃ s11 : Sl,vs10 = [s11.v]∧Rd m s11 e_9:=d10
   refine e_P (v:=(elP s4 (p_v.toNat * 1))) 6 hF rfl (ex_indexAddr U23 sz48 rfl rfl (h4.idx he_9)) fun a hF=>e_xm (v:=s11.v) 7 hF hS (Mem.le.refl _) rfl (ex_loadE1 0 U48 rfl rfl ((at10).at) rfl rfl) rfl rfl (by kernel_rfl) (by kernel_rfl) (by kernel_rfl) fun a hF=>e_P (v:=(iV p_k)) 8 hF rfl (ex_move rfl) fun a hF=>e_P (v:=(iV (goLen p_f.rows))) 9 hF rfl (ex_move rfl) fun a hF=>e_P (v:=(iV (w64 (p_k - (goLen p_f.rows))))) 10 hF rfl (ex_ibin rfl rfl rfl) fun a hF=>?_
   obtain ⟨e_12,he_12,hr⟩:=bindS hr
   obtain ⟨vs13,at13,d13⟩:=h11.at he_12 1 rfl
   obtain rfl : vs13 = [(iV e_12)]:=d13
   refine e_P (v:=(elP s11 ((w64 (p_k - (goLen p_f.rows))).toNat * 1))) 11 hF rfl (ex_indexAddr U48 sz3 rfl rfl (h11.idx he_12)) fun a hF=>e_xm (v:=(iV e_12)) 12 hF hS (Mem.le.refl _) rfl (ex_loadE1 0 U3 rfl rfl ((at13).at) rfl rfl) rfl rfl (by kernel_rfl) (by kernel_rfl) (by kernel_rfl) fun a hF=>e_P (v:=(pP b_p_f 0)) 13 hF rfl (ex_move rfl) fun a hF=>e_P (v:=(pP b_p_f 0)) 14 hF rfl (ex_nilCheck rfl) fun a hF=>e_P (v:=(pP b_p_f 4)) 15 hF rfl (ex_fieldAddr U116 rfl sz23 rfl rfl) fun a hF=>e_X (v:=s5.v) 16 hF hS rfl (ex_load1 0 0 U23 rfl rfl rfl rfl) fun a hF=>e_P (v:=(iV p_v)) 17 hF rfl (ex_move rfl) fun a hF=>?_
   obtain ⟨e_14,he_14,hr⟩:=bindS hr
   obtain ⟨vs15,at15,d15⟩:=h5.at he_14 1 rfl
   obtain ⟨s16,rfl,h16⟩ : ∃ s16 : Sl,vs15 = [s16.v]∧Rd m s16 e_14:=d15
   refine e_P (v:=(elP s5 (p_v.toNat * 1))) 18 hF rfl (ex_indexAddr U23 sz48 rfl rfl (h5.idx he_14)) fun a hF=>e_xm (v:=s16.v) 19 hF hS (Mem.le.refl _) rfl (ex_loadE1 0 U48 rfl rfl ((at15).at) rfl rfl) rfl rfl (by kernel_rfl) (by kernel_rfl) (by kernel_rfl) fun a hF=>e_P (v:=(iV p_k)) 20 hF rfl (ex_move rfl) fun a hF=>e_P (v:=(iV (goLen p_f.rows))) 21 hF rfl (ex_move rfl) fun a hF=>e_P (v:=(iV (w64 (p_k - (goLen p_f.rows))))) 22 hF rfl (ex_ibin rfl rfl rfl) fun a hF=>?_
   obtain ⟨e_17,he_17,hr⟩:=bindS hr
   obtain ⟨vs18,at18,d18⟩:=h16.at he_17 1 rfl
   obtain rfl : vs18 = [(iV e_17)]:=d18
   refine e_P (v:=(elP s16 ((w64 (p_k - (goLen p_f.rows))).toNat * 1))) 23 hF rfl (ex_indexAddr U48 sz3 rfl rfl (h16.idx he_17)) fun a hF=>e_xm (v:=(iV e_17)) 24 hF hS (Mem.le.refl _) rfl (ex_loadE1 0 U3 rfl rfl ((at18).at) rfl rfl) rfl rfl (by kernel_rfl) (by kernel_rfl) (by kernel_rfl) fun a hF=>e_P (v:=(iV (w64 (e_12 - e_17)))) 25 hF rfl (ex_ibin rfl rfl rfl) fun a hF=>e_P (v:=(iV (w64 (e_12 - e_17)))) 26 hF rfl (ex_assign rfl) fun a hF=>e_end (by kernel_rfl) (n_sq (q_ret (r_ib (r_sq ?_)))) _
   obtain rfl:=someI hr
   exact ret_ofX hF hS rfl (.tmp rfl .nil) ⟨rfl,hS.sel [0] (by decide)⟩

end Go.Proofs.YtpjcfmpfiadkgaaGreat
