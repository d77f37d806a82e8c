/- The walks of the functions: each returns what its plain function says. -/
import Derived.Test.YtpjcfmpfiadkgaaWWalks1
namespace Go.Proofs.Ytpjcfmpfiadkgaa
open Go.Gx Go.Gx.F Go.RowKit
set_option linter.all false
set_option maxRecDepth 10000


theorem c_impl_rangeOf (p_t : impl_Transport) (p_x : List (List Int)) (p_i : Int) (p_j : Int) (r : Int × Int) (hr : impl_rangeOf p_t p_x p_i p_j = some r) (w0 : World) (m : Mem) (hv : Vis m w0) (s1 : Sl) (h1 : Rd m s1 p_t.Rows) (s2 : Sl) (h2 : Rd m s2 p_t.Cols) (s3 : Sl) (h3 : Rd m s3 p_t.Lo) (s4 : Sl) (h4 : Rd m s4 p_t.Hi) (s5 : Sl) (h5 : Rd m s5 p_x) :
  Ret Try.prog 101 [(.agg #[s1.v,s2.v,s3.v,s4.v]),s5.v,(iV p_i),(iV p_j)] w0 (fun v _=>v = (.tuple #[(iV r.1),(iV r.2)])):=by
 unfold impl_rangeOf at hr
 refine ret_start Try.func101 rfl 62 rfl rfl m hv fun a hF hS=>q_seq (q_region (q_box (cs:=[s1.v,s2.v,s3.v,s4.v]) hF hS rfl rfl rfl fun a w b6 hF hS=>q_box (cs:=[s5.v]) hF hS rfl rfl rfl fun a w b7 hF hS=>q_box (cs:=[(iV p_i)]) hF hS rfl rfl rfl fun a w b8 hF hS=>q_box (cs:=[(iV p_j)]) hF hS rfl rfl rfl fun a w b9 hF hS=>q_x (v:=(iV 0)) hF hS (ex_assign rfl) rfl rfl fun a hF=>q_x (v:=(iV 0)) hF hS (ex_assign rfl) rfl rfl fun a hF=>q_end (n_sq (q_seq (q_region (q_x (v:=(.pointer (some ⟨b6,0,none⟩))) hF hS (ex_fieldAddr Try.underlying50 rfl sz28 rfl rfl) rfl rfl fun a hF=>q_x (v:=s1.v) hF hS (ex_load1 3 0 Try.underlying28 rfl rfl rfl rfl) rfl rfl fun a hF=>q_x (v:=(iV (goLen p_t.Rows))) hF hS (ex_len Try.underlying28 rfl h1.len) rfl rfl fun a hF=>q_alloc (cs:=[(iV 0)]) hF hS rfl rfl rfl fun a w b10 hF hS=>q_store (vs:=[(iV (goLen p_t.Rows))]) (cs':=[(iV (goLen p_t.Rows))]) 0 0 hF hS sz3 rfl rfl rfl rfl rfl rfl rfl rfl fun a w hF hS=>q_end (n_sq (q_seq (q_region (q_x (v:=(.func (.func 154) #[] #[(.pointer (some ⟨b6,0,none⟩)),(.pointer (some ⟨b7,0,none⟩)),(.pointer (some ⟨b8,0,none⟩)),(.pointer (some ⟨b10,0,none⟩)),(.pointer (some ⟨b9,0,none⟩))])) hF hS (ex_makeFunc rfl) rfl rfl fun a hF=>q_x (v:=(.func (.func 154) #[] #[(.pointer (some ⟨b6,0,none⟩)),(.pointer (some ⟨b7,0,none⟩)),(.pointer (some ⟨b8,0,none⟩)),(.pointer (some ⟨b10,0,none⟩)),(.pointer (some ⟨b9,0,none⟩))])) hF hS (ex_assign rfl) rfl rfl fun a hF=>q_end (n_sq (q_seq (e_region ⟨[],[],m⟩ mixed fun w' hw'=>?_)))))))))))))
 have hS:=hS.below hw'
 refine e_x (v:=s5.v) 0 hF hS rfl (ex_load1 3 0 Try.underlying23 rfl rfl rfl rfl) rfl rfl (by kernel_rfl) (by kernel_rfl) (by kernel_rfl) (by kernel_rfl) fun a hF=>e_x (v:=(iV p_i)) 1 hF hS rfl (ex_load1 2 0 Try.underlying3 rfl rfl rfl rfl) rfl rfl (by kernel_rfl) (by kernel_rfl) (by kernel_rfl) (by kernel_rfl) fun a hF=>?_
 obtain ⟨e_11,he_11,hr⟩:=bindS hr
 obtain ⟨vs12,at12,d12⟩:=h5.at he_11 1 rfl
 obtain ⟨s13,rfl,h13⟩ : ∃ s13 : Sl,vs12 = [s13.v]∧Rd m s13 e_11:=d12
 refine e_p (v:=(elP s5 (p_i.toNat * 1))) 2 hF rfl (ex_indexAddr Try.underlying23 sz28 rfl rfl (h5.idx he_11)) rfl rfl (by kernel_rfl) (by kernel_rfl) (by kernel_rfl) fun a hF=>e_xm (v:=s13.v) 3 hF hS (Mem.le.refl _) rfl (ex_loadE1 0 Try.underlying28 rfl rfl ((at12).at) rfl rfl) rfl rfl (by kernel_rfl) (by kernel_rfl) (by kernel_rfl) fun a hF=>e_x (v:=(iV p_j)) 4 hF hS rfl (ex_load1 1 0 Try.underlying3 rfl rfl rfl rfl) rfl rfl (by kernel_rfl) (by kernel_rfl) (by kernel_rfl) (by kernel_rfl) fun a hF=>?_
 obtain ⟨e_14,he_14,hr⟩:=bindS hr
 obtain ⟨vs15,at15,d15⟩:=h13.at he_14 1 rfl
 obtain rfl : vs15 = [(iV e_14)]:=d15
 refine e_p (v:=(elP s13 (p_j.toNat * 1))) 5 hF rfl (ex_indexAddr Try.underlying28 sz3 rfl rfl (h13.idx he_14)) rfl rfl (by kernel_rfl) (by kernel_rfl) (by kernel_rfl) fun a hF=>e_xm (v:=(iV e_14)) 6 hF hS (Mem.le.refl _) rfl (ex_loadE1 0 Try.underlying3 rfl rfl ((at15).at) rfl rfl) rfl rfl (by kernel_rfl) (by kernel_rfl) (by kernel_rfl) fun a hF=>e_p (v:=(iV e_14)) 7 hF rfl (ex_assign rfl) rfl rfl (by kernel_rfl) (by kernel_rfl) (by kernel_rfl) fun a hF=>e_end (by kernel_rfl) (n_sq ?_) _
 refine q_seq (e_region ⟨[2,17,21,36],[b8,b10,b9,b6],m⟩ mixed fun w' hw'=>?_)
 have hS:=hS.below hw'
 refine e_p (v:=(iV e_14)) 0 hF rfl (ex_move rfl) rfl rfl (by kernel_rfl) (by kernel_rfl) (by kernel_rfl) fun a hF=>e_p (v:=(.func (.func 154) #[] #[(.pointer (some ⟨b6,0,none⟩)),(.pointer (some ⟨b7,0,none⟩)),(.pointer (some ⟨b8,0,none⟩)),(.pointer (some ⟨b10,0,none⟩)),(.pointer (some ⟨b9,0,none⟩))])) 1 hF rfl (ex_move rfl) rfl rfl (by kernel_rfl) (by kernel_rfl) (by kernel_rfl) fun a hF=>e_xb (v:=(iV p_i)) 3 2 hF hS (.head _) rfl rfl (ex_load1 0 0 Try.underlying3 rfl rfl rfl rfl) rfl rfl (by kernel_rfl) (by kernel_rfl) (by kernel_rfl) fun a hF=>e_xb (v:=(iV (goLen p_t.Rows))) 4 0 hF hS (.tail _ (.head _)) rfl rfl (ex_load1 0 0 Try.underlying3 rfl rfl rfl rfl) rfl rfl (by kernel_rfl) (by kernel_rfl) (by kernel_rfl) fun a hF=>e_xb (v:=(iV p_j)) 5 1 hF hS (.tail _ (.tail _ (.head _))) rfl rfl (ex_load1 0 0 Try.underlying3 rfl rfl rfl rfl) rfl rfl (by kernel_rfl) (by kernel_rfl) (by kernel_rfl) fun a hF=>e_p (v:=(iV (w64 ((goLen p_t.Rows) + p_j)))) 6 hF rfl (ex_ibin rfl rfl rfl) rfl rfl (by kernel_rfl) (by kernel_rfl) (by kernel_rfl) fun a hF=>e_p (v:=(iV e_14)) 7 hF rfl (ex_move rfl) rfl rfl (by kernel_rfl) (by kernel_rfl) (by kernel_rfl) fun a hF=>e_p (v:=(.pointer (some ⟨b6,2,none⟩))) 8 hF rfl (ex_fieldAddr Try.underlying50 rfl sz23 rfl rfl) rfl rfl (by kernel_rfl) (by kernel_rfl) (by kernel_rfl) fun a hF=>e_xb (v:=s3.v) 9 4 hF hS (.tail _ (.tail _ (.tail _ (.head _)))) rfl rfl (ex_load1 0 0 Try.underlying23 rfl rfl rfl rfl) rfl rfl (by kernel_rfl) (by kernel_rfl) (by kernel_rfl) fun a hF=>e_xb (v:=(iV p_i)) 10 2 hF hS (.head _) rfl rfl (ex_load1 0 0 Try.underlying3 rfl rfl rfl rfl) rfl rfl (by kernel_rfl) (by kernel_rfl) (by kernel_rfl) fun a hF=>?_
 obtain ⟨e_43,he_43,hr⟩:=bindS hr
 obtain ⟨vs44,at44,d44⟩:=h3.at he_43 1 rfl
 obtain ⟨s45,rfl,h45⟩ : ∃ s45 : Sl,vs44 = [s45.v]∧Rd m s45 e_43:=d44
 refine e_p (v:=(elP s3 (p_i.toNat * 1))) 11 hF rfl (ex_indexAddr Try.underlying23 sz28 rfl rfl (h3.idx he_43)) rfl rfl (by kernel_rfl) (by kernel_rfl) (by kernel_rfl) fun a hF=>e_xm (v:=s45.v) 12 hF hS (Mem.le.refl _) rfl (ex_loadE1 0 Try.underlying28 rfl rfl ((at44).at) rfl rfl) rfl rfl (by kernel_rfl) (by kernel_rfl) (by kernel_rfl) fun a hF=>e_xb (v:=(iV p_j)) 13 1 hF hS (.tail _ (.tail _ (.head _))) rfl rfl (ex_load1 0 0 Try.underlying3 rfl rfl rfl rfl) rfl rfl (by kernel_rfl) (by kernel_rfl) (by kernel_rfl) fun a hF=>?_
 obtain ⟨e_55,he_55,hr⟩:=bindS hr
 obtain ⟨vs56,at56,d56⟩:=h45.at he_55 1 rfl
 obtain rfl : vs56 = [(iV e_55)]:=d56
 refine e_p (v:=(elP s45 (p_j.toNat * 1))) 14 hF rfl (ex_indexAddr Try.underlying28 sz3 rfl rfl (h45.idx he_55)) rfl rfl (by kernel_rfl) (by kernel_rfl) (by kernel_rfl) fun a hF=>e_xm (v:=(iV e_55)) 15 hF hS (Mem.le.refl _) rfl (ex_loadE1 0 Try.underlying3 rfl rfl ((at56).at) rfl rfl) rfl rfl (by kernel_rfl) (by kernel_rfl) (by kernel_rfl) fun a hF=>e_p (v:=(iV (w64 (e_14 - e_55)))) 16 hF rfl (ex_ibin rfl rfl rfl) rfl rfl (by kernel_rfl) (by kernel_rfl) (by kernel_rfl) fun a hF=>e_p (v:=(iV e_14)) 19 hF rfl (ex_move rfl) rfl rfl (by kernel_rfl) (by kernel_rfl) (by kernel_rfl) fun a hF=>e_p (v:=(.func (.func 154) #[] #[(.pointer (some ⟨b6,0,none⟩)),(.pointer (some ⟨b7,0,none⟩)),(.pointer (some ⟨b8,0,none⟩)),(.pointer (some ⟨b10,0,none⟩)),(.pointer (some ⟨b9,0,none⟩))])) 20 hF rfl (ex_move rfl) rfl rfl (by kernel_rfl) (by kernel_rfl) (by kernel_rfl) fun a hF=>e_xb (v:=(iV (goLen p_t.Rows))) 22 0 hF hS (.tail _ (.head _)) rfl rfl (ex_load1 0 0 Try.underlying3 rfl rfl rfl rfl) rfl rfl (by kernel_rfl) (by kernel_rfl) (by kernel_rfl) fun a hF=>e_xb (v:=(iV p_j)) 23 1 hF hS (.tail _ (.tail _ (.head _))) rfl rfl (ex_load1 0 0 Try.underlying3 rfl rfl rfl rfl) rfl rfl (by kernel_rfl) (by kernel_rfl) (by kernel_rfl) fun a hF=>e_p (v:=(iV (w64 ((goLen p_t.Rows) + p_j)))) 24 hF rfl (ex_ibin rfl rfl rfl) rfl rfl (by kernel_rfl) (by kernel_rfl) (by kernel_rfl) fun a hF=>e_xb (v:=(iV p_i)) 25 2 hF hS (.head _) rfl rfl (ex_load1 0 0 Try.underlying3 rfl rfl rfl rfl) rfl rfl (by kernel_rfl) (by kernel_rfl) (by kernel_rfl) fun a hF=>e_p (v:=(.pointer (some ⟨b6,3,none⟩))) 26 hF rfl (ex_fieldAddr Try.underlying50 rfl sz23 rfl rfl) rfl rfl (by kernel_rfl) (by kernel_rfl) (by kernel_rfl) fun a hF=>e_xb (v:=s4.v) 27 4 hF hS (.tail _ (.tail _ (.tail _ (.head _)))) rfl rfl (ex_load1 0 0 Try.underlying23 rfl rfl rfl rfl) rfl rfl (by kernel_rfl) (by kernel_rfl) (by kernel_rfl) fun a hF=>e_xb (v:=(iV p_i)) 28 2 hF hS (.head _) rfl rfl (ex_load1 0 0 Try.underlying3 rfl rfl rfl rfl) rfl rfl (by kernel_rfl) (by kernel_rfl) (by kernel_rfl) fun a hF=>?_
 obtain ⟨e_93,he_93,hr⟩:=bindS hr
 obtain ⟨vs94,at94,d94⟩:=h4.at he_93 1 rfl
 obtain ⟨s95,rfl,h95⟩ : ∃ s95 : Sl,vs94 = [s95.v]∧Rd m s95 e_93:=d94
 refine e_p (v:=(elP s4 (p_i.toNat * 1))) 29 hF rfl (ex_indexAddr Try.underlying23 sz28 rfl rfl (h4.idx he_93)) rfl rfl (by kernel_rfl) (by kernel_rfl) (by kernel_rfl) fun a hF=>e_xm (v:=s95.v) 30 hF hS (Mem.le.refl _) rfl (ex_loadE1 0 Try.underlying28 rfl rfl ((at94).at) rfl rfl) rfl rfl (by kernel_rfl) (by kernel_rfl) (by kernel_rfl) fun a hF=>e_xb (v:=(iV p_j)) 31 1 hF hS (.tail _ (.tail _ (.head _))) rfl rfl (ex_load1 0 0 Try.underlying3 rfl rfl rfl rfl) rfl rfl (by kernel_rfl) (by kernel_rfl) (by kernel_rfl) fun a hF=>?_
 obtain ⟨e_105,he_105,hr⟩:=bindS hr
 obtain ⟨vs106,at106,d106⟩:=h95.at he_105 1 rfl
 obtain rfl : vs106 = [(iV e_105)]:=d106
 refine e_p (v:=(elP s95 (p_j.toNat * 1))) 32 hF rfl (ex_indexAddr Try.underlying28 sz3 rfl rfl (h95.idx he_105)) rfl rfl (by kernel_rfl) (by kernel_rfl) (by kernel_rfl) fun a hF=>e_xm (v:=(iV e_105)) 33 hF hS (Mem.le.refl _) rfl (ex_loadE1 0 Try.underlying3 rfl rfl ((at106).at) rfl rfl) rfl rfl (by kernel_rfl) (by kernel_rfl) (by kernel_rfl) fun a hF=>e_p (v:=(iV e_14)) 34 hF rfl (ex_move rfl) rfl rfl (by kernel_rfl) (by kernel_rfl) (by kernel_rfl) fun a hF=>e_p (v:=(iV (w64 (e_105 - e_14)))) 35 hF rfl (ex_ibin rfl rfl rfl) rfl rfl (by kernel_rfl) (by kernel_rfl) (by kernel_rfl) fun a hF=>e_one 2 (by kernel_rfl) ?_
 have hS : St _ _ _ _ [[⟨b6,[s1.v,s2.v,s3.v,s4.v],50⟩],[⟨b7,[s5.v],23⟩],[⟨b8,[(iV p_i)],3⟩],[⟨b10,[(iV (goLen p_t.Rows))],3⟩],[⟨b9,[(iV p_j)],3⟩]]:=hS.sel [4,3,2,0,1] (by decide)
 have hS116 : St _ _ _ _ ([[⟨b6,[s1.v,s2.v,s3.v,s4.v],50⟩],[⟨b7,[s5.v],23⟩],[⟨b8,[(iV p_i)],3⟩],[⟨b10,[(iV (goLen p_t.Rows))],3⟩],[⟨b9,[(iV p_j)],3⟩]]++[]):=hS
 have hE116:=hS116.enter
 obtain ⟨t_117,ht_117,hr⟩:=bindS hr
 have hSo:=hS
 refine e_opl rfl rfl rfl fun _ hK=>wp_callV (vs:=[]) (cap:=[(.pointer (some ⟨b6,0,none⟩)),(.pointer (some ⟨b7,0,none⟩)),(.pointer (some ⟨b8,0,none⟩)),(.pointer (some ⟨b10,0,none⟩)),(.pointer (some ⟨b9,0,none⟩))]) hF rfl Try.func154 (by kernel_rfl) rfl rfl rfl (c_impl_rangeOf_1 p_t p_x p_i (goLen p_t.Rows) p_j t_117 ht_117 _ m b6 b7 b8 b10 b9 s1 h1 s2 h2 s3 h3 s4 h4 s5 h5 _ hE116) fun a w _ hR hF=>hK _ _ ?_
 obtain ⟨q118,s118,rfl,hR116,h118⟩:=hR
 have hS : St _ _ _ _ [[⟨b6,[s1.v,s2.v,s3.v,s4.v],50⟩],[⟨b7,[s5.v],23⟩],[⟨b8,[(iV p_i)],3⟩],[⟨b10,[(iV (goLen p_t.Rows))],3⟩],[⟨b9,[(iV p_j)],3⟩],q118]:=hS116.leaveF hR116
 refine ⟨⟨kpC hSo hS 2 2 rfl rfl (kpC hSo hS 3 3 rfl rfl (kpC hSo hS 4 4 rfl rfl (kpC hSo hS 0 0 rfl rfl kpN))),fun _=>hS.vis.of_le (Mem.le.refl _)⟩,?_⟩
 refine e_one 17 (by kernel_rfl) ?_
 have hS : St _ _ _ _ [q118,[⟨b6,[s1.v,s2.v,s3.v,s4.v],50⟩],[⟨b7,[s5.v],23⟩],[⟨b8,[(iV p_i)],3⟩],[⟨b10,[(iV (goLen p_t.Rows))],3⟩],[⟨b9,[(iV p_j)],3⟩]]:=hS.sel [5,0,1,2,3,4] (by decide)
 have hS119 : St _ _ _ _ ([q118]++[[⟨b6,[s1.v,s2.v,s3.v,s4.v],50⟩],[⟨b7,[s5.v],23⟩],[⟨b8,[(iV p_i)],3⟩],[⟨b10,[(iV (goLen p_t.Rows))],3⟩],[⟨b9,[(iV p_j)],3⟩]]):=hS
 have hE119:=hS119.enter
 obtain ⟨t_120,ht_120,hr⟩:=bindS hr
 have hSo:=hS
 refine e_opl rfl rfl rfl fun _ hK=>wp_callX (vs:=[s118.v,(iV p_i),(iV (w64 ((goLen p_t.Rows) + p_j))),(iV (w64 (e_14 - e_55)))]) hF Try.func156 (by kernel_rfl) rfl rfl rfl (c_impl_push t_117 p_i (w64 ((goLen p_t.Rows) + p_j)) (w64 (e_14 - e_55)) t_120 ht_120 _ m s118 q118 h118 _ hE119) fun a w _ hR hF=>hK _ _ ?_
 obtain ⟨q121,rfl,hR119,h121⟩:=hR
 have hS : St _ _ _ _ [q121,[⟨b6,[s1.v,s2.v,s3.v,s4.v],50⟩],[⟨b7,[s5.v],23⟩],[⟨b8,[(iV p_i)],3⟩],[⟨b10,[(iV (goLen p_t.Rows))],3⟩],[⟨b9,[(iV p_j)],3⟩]]:=hS119.leaveF hR119
 refine ⟨⟨kpC hSo hS 3 3 rfl rfl (kpC hSo hS 4 4 rfl rfl (kpC hSo hS 5 5 rfl rfl (kpC hSo hS 1 1 rfl rfl kpN))),fun _=>hS.vis.of_le (Mem.le.refl _)⟩,?_⟩
 refine e_p (v:=(iV (w64 (e_14 - t_120.1)))) 18 hF rfl (ex_ibin rfl rfl rfl) rfl rfl (by kernel_rfl) (by kernel_rfl) (by kernel_rfl) fun a hF=>e_one 21 (by kernel_rfl) ?_
 have hS : St _ _ _ _ [[⟨b6,[s1.v,s2.v,s3.v,s4.v],50⟩],[⟨b7,[s5.v],23⟩],[⟨b8,[(iV p_i)],3⟩],[⟨b10,[(iV (goLen p_t.Rows))],3⟩],[⟨b9,[(iV p_j)],3⟩],q121]:=hS.sel [1,2,3,4,5,0] (by decide)
 have hS122 : St _ _ _ _ ([[⟨b6,[s1.v,s2.v,s3.v,s4.v],50⟩],[⟨b7,[s5.v],23⟩],[⟨b8,[(iV p_i)],3⟩],[⟨b10,[(iV (goLen p_t.Rows))],3⟩],[⟨b9,[(iV p_j)],3⟩]]++[q121]):=hS
 have hE122:=hS122.enter
 obtain ⟨t_123,ht_123,hr⟩:=bindS hr
 have hSo:=hS
 refine e_opl rfl rfl rfl fun _ hK=>wp_callV (vs:=[]) (cap:=[(.pointer (some ⟨b6,0,none⟩)),(.pointer (some ⟨b7,0,none⟩)),(.pointer (some ⟨b8,0,none⟩)),(.pointer (some ⟨b10,0,none⟩)),(.pointer (some ⟨b9,0,none⟩))]) hF rfl Try.func154 (by kernel_rfl) rfl rfl rfl (c_impl_rangeOf_1 p_t p_x p_i (goLen p_t.Rows) p_j t_123 ht_123 _ m b6 b7 b8 b10 b9 s1 h1 s2 h2 s3 h3 s4 h4 s5 h5 _ hE122) fun a w _ hR hF=>hK _ _ ?_
 obtain ⟨q124,s124,rfl,hR122,h124⟩:=hR
 have hS : St _ _ _ _ [[⟨b6,[s1.v,s2.v,s3.v,s4.v],50⟩],[⟨b7,[s5.v],23⟩],[⟨b8,[(iV p_i)],3⟩],[⟨b10,[(iV (goLen p_t.Rows))],3⟩],[⟨b9,[(iV p_j)],3⟩],q124,q121]:=hS122.leaveF hR122
 refine ⟨⟨kpC hSo hS 2 2 rfl rfl (kpC hSo hS 3 3 rfl rfl (kpC hSo hS 4 4 rfl rfl (kpC hSo hS 0 0 rfl rfl kpN))),fun _=>hS.vis.of_le (Mem.le.refl _)⟩,?_⟩
 refine e_one 36 (by kernel_rfl) ?_
 have hS : St _ _ _ _ [q124,[⟨b6,[s1.v,s2.v,s3.v,s4.v],50⟩],[⟨b7,[s5.v],23⟩],[⟨b8,[(iV p_i)],3⟩],[⟨b10,[(iV (goLen p_t.Rows))],3⟩],[⟨b9,[(iV p_j)],3⟩],q121]:=hS.sel [5,0,1,2,3,4,6] (by decide)
 have hS125 : St _ _ _ _ ([q124]++[[⟨b6,[s1.v,s2.v,s3.v,s4.v],50⟩],[⟨b7,[s5.v],23⟩],[⟨b8,[(iV p_i)],3⟩],[⟨b10,[(iV (goLen p_t.Rows))],3⟩],[⟨b9,[(iV p_j)],3⟩],q121]):=hS
 have hE125:=hS125.enter
 obtain ⟨t_126,ht_126,hr⟩:=bindS hr
 have hSo:=hS
 refine e_opl rfl rfl rfl fun _ hK=>wp_callX (vs:=[s124.v,(iV (w64 ((goLen p_t.Rows) + p_j))),(iV p_i),(iV (w64 (e_105 - e_14)))]) hF Try.func156 (by kernel_rfl) rfl rfl rfl (c_impl_push t_123 (w64 ((goLen p_t.Rows) + p_j)) p_i (w64 (e_105 - e_14)) t_126 ht_126 _ m s124 q124 h124 _ hE125) fun a w _ hR hF=>hK _ _ ?_
 obtain ⟨q127,rfl,hR125,h127⟩:=hR
 have hS : St _ _ _ _ [q127,[⟨b6,[s1.v,s2.v,s3.v,s4.v],50⟩],[⟨b7,[s5.v],23⟩],[⟨b8,[(iV p_i)],3⟩],[⟨b10,[(iV (goLen p_t.Rows))],3⟩],[⟨b9,[(iV p_j)],3⟩],q121]:=hS125.leaveF hR125
 refine ⟨⟨kpC hSo hS 3 3 rfl rfl (kpC hSo hS 4 4 rfl rfl (kpC hSo hS 5 5 rfl rfl (kpC hSo hS 1 1 rfl rfl kpN))),fun _=>hS.vis.of_le (Mem.le.refl _)⟩,?_⟩
 refine e_p (v:=(iV (w64 (e_14 + t_126.1)))) 37 hF rfl (ex_ibin rfl rfl rfl) rfl rfl (by kernel_rfl) (by kernel_rfl) (by kernel_rfl) fun a hF=>e_p (v:=(iV (w64 (e_14 - t_120.1)))) 38 hF rfl (ex_assign rfl) rfl rfl (by kernel_rfl) (by kernel_rfl) (by kernel_rfl) fun a hF=>e_p (v:=(iV (w64 (e_14 + t_126.1)))) 39 hF rfl (ex_assign rfl) rfl rfl (by kernel_rfl) (by kernel_rfl) (by kernel_rfl) fun a hF=>e_end (by kernel_rfl) (n_sq (q_ret ?_)) _
 obtain rfl:=someI hr
 exact ret_of hF hS rfl (.tmp rfl (.tmp rfl .nil)) rfl

theorem c_impl_isProtected (p_t : impl_Transport) (p_x : List (List Int)) (p_i : Int) (p_j : Int) (p_down : Int) (p_up : Int) (r : Bool) (hr : impl_isProtected p_t p_x p_i p_j p_down p_up = some r) (w0 : World) (m : Mem) (hv : Vis m w0) (s1 : Sl) (h1 : Rd m s1 p_t.Rows) (s2 : Sl) (h2 : Rd m s2 p_t.Cols) (s3 : Sl) (h3 : Rd m s3 p_t.Lo) (s4 : Sl) (h4 : Rd m s4 p_t.Hi) (s5 : Sl) (h5 : Rd m s5 p_x) :
  Ret Try.prog 109 [(.agg #[s1.v,s2.v,s3.v,s4.v]),s5.v,(iV p_i),(iV p_j),(iV p_down),(iV p_up)] w0 (fun v _=>v = (.bool r)):=by
 unfold impl_isProtected at hr
 refine ret_start Try.func109 rfl 48 rfl rfl m hv fun a hF hS=>q_seq (q_region (q_box (cs:=[s1.v,s2.v,s3.v,s4.v]) hF hS rfl rfl rfl fun a w b6 hF hS=>q_x (v:=(.bool false)) hF hS (ex_assign rfl) rfl rfl fun a hF=>q_end (n_sq (q_seq (q_region (q_x (v:=(.agg #[s1.v,s2.v,s3.v,s4.v])) hF hS (ex_loadA (vs:=[s1.v,s2.v,s3.v,s4.v]) 0 0 Try.underlying50 rfl sz50 rfl rfl rfl rfl) rfl rfl fun a hF=>q_x (v:=s5.v) hF hS (ex_move rfl) rfl rfl fun a hF=>q_x (v:=(iV p_i)) hF hS (ex_move rfl) rfl rfl fun a hF=>q_x (v:=(iV p_j)) hF hS (ex_move rfl) rfl rfl fun a hF=>?_))))))
 obtain ⟨t_7,ht_7,hr⟩:=bindS hr
 refine q_call (vs:=[(.agg #[s1.v,s2.v,s3.v,s4.v]),s5.v,(iV p_i),(iV p_j)]) hF hS Try.func101 (by kernel_rfl) rfl rfl rfl (c_impl_rangeOf p_t p_x p_i p_j t_7 ht_7 _ m hS.vis s1 h1 s2 h2 s3 h3 s4 h4 s5 h5) ?_
 rintro a w _ rfl hF hS
 refine q_x (v:=(.tuple #[(iV t_7.1),(iV t_7.2)])) hF hS (ex_move rfl) rfl rfl fun a hF=>q_x (v:=(iV t_7.1)) hF hS (ex_extract rfl rfl) rfl rfl fun a hF=>q_x (v:=(iV t_7.2)) hF hS (ex_extract rfl rfl) rfl rfl fun a hF=>q_x (v:=(iV t_7.1)) hF hS (ex_assign rfl) rfl rfl fun a hF=>q_x (v:=(iV t_7.2)) hF hS (ex_assign rfl) rfl rfl fun a hF=>q_end (n_sq (q_seq ?_))
 obtain ⟨t_18,hj1,hr⟩:=bindS hr
 refine q_join (fun a w=>Fr a 48 [(12,(.bool t_18))]∧St [] w0 w m []) ?_ ?_
 ·refine q_region (q_x (v:=(iV t_7.1)) hF hS (ex_move rfl) rfl rfl fun a hF=>q_x (v:=s5.v) hF hS (ex_move rfl) rfl rfl fun a hF=>q_x (v:=(iV p_i)) hF hS (ex_move rfl) rfl rfl fun a hF=>?_)
  obtain ⟨e_8,he_8,hj1⟩:=bindS hj1
  obtain ⟨vs9,at9,d9⟩:=h5.at he_8 1 rfl
  obtain ⟨s10,rfl,h10⟩ : ∃ s10 : Sl,vs9 = [s10.v]∧Rd m s10 e_8:=d9
  refine q_x (v:=(elP s5 (p_i.toNat * 1))) hF hS (ex_indexAddr Try.underlying23 sz28 rfl rfl (h5.idx he_8)) rfl rfl fun a hF=>q_x (v:=s10.v) hF hS (ex_loadE1 0 Try.underlying28 rfl rfl ((at9).at) rfl rfl) rfl rfl fun a hF=>q_x (v:=(iV p_j)) hF hS (ex_move rfl) rfl rfl fun a hF=>?_
  obtain ⟨e_11,he_11,hj1⟩:=bindS hj1
  obtain ⟨vs12,at12,d12⟩:=h10.at he_11 1 rfl
  obtain rfl : vs12 = [(iV e_11)]:=d12
  refine q_x (v:=(elP s10 (p_j.toNat * 1))) hF hS (ex_indexAddr Try.underlying28 sz3 rfl rfl (h10.idx he_11)) rfl rfl fun a hF=>q_x (v:=(iV e_11)) hF hS (ex_loadE1 0 Try.underlying3 rfl rfl ((at12).at) rfl rfl) rfl rfl fun a hF=>q_x (v:=(iV p_down)) hF hS (ex_move rfl) rfl rfl fun a hF=>q_x (v:=(iV (w64 (e_11 - p_down)))) hF hS (ex_ibin rfl rfl rfl) rfl rfl fun a hF=>q_x (v:=(iV (max 0 (w64 (e_11 - p_down))))) hF hS (ex_max rfl rfl) rfl rfl fun a hF=>q_x (v:=(.bool (decide (t_7.1 ≤ (max 0 (w64 (e_11 - p_down))))))) hF hS (ex_ibin rfl rfl rfl) rfl rfl fun a hF=>q_x (v:=(.bool (decide (t_7.1 ≤ (max 0 (w64 (e_11 - p_down))))))) hF hS (ex_move rfl) rfl rfl fun a hF=>?_
  rcases bcase (decide (t_7.1 ≤ (max 0 (w64 (e_11 - p_down))))) with hc2 | hc2
  ·have hj1:=cond_f hc2 hj1
   refine q_skip hF (wanted_f hF rfl rfl rfl hc2 rfl) rfl fun a hF=>q_skip hF (wanted_f hF rfl rfl rfl hc2 rfl) rfl fun a hF=>q_skip hF (wanted_f hF rfl rfl rfl hc2 rfl) rfl fun a hF=>q_skip hF (wanted_f hF rfl rfl rfl hc2 rfl) rfl fun a hF=>q_skip hF (wanted_f hF rfl rfl rfl hc2 rfl) rfl fun a hF=>q_skip hF (wanted_f hF rfl rfl rfl hc2 rfl) rfl fun a hF=>q_skip hF (wanted_f hF rfl rfl rfl hc2 rfl) rfl fun a hF=>q_skip hF (wanted_f hF rfl rfl rfl hc2 rfl) rfl fun a hF=>q_skip hF (wanted_f hF rfl rfl rfl hc2 rfl) rfl fun a hF=>q_skip hF (wanted_f hF rfl rfl rfl hc2 rfl) rfl fun a hF=>q_skip hF (wanted_f hF rfl rfl rfl hc2 rfl) rfl fun a hF=>q_x (v:=(.bool false)) hF hS (ex_pick_f rfl rfl hc2) rfl rfl fun a hF=>q_x (v:=(.bool false)) hF hS (ex_assign rfl) rfl rfl fun a hF=>q_end (n_jn ?_)
   obtain rfl:=someI hj1
   exact ⟨hF.sub ⟨rfl,trivial⟩,hS.mask [false]⟩
  ·have hj1:=cond_t hc2 hj1
   refine q_xg (v:=(iV t_7.2)) hF hS (ex_move rfl) (wanted_t hF rfl rfl rfl hc2) rfl fun a hF=>q_xg (v:=s5.v) hF hS (ex_move rfl) (wanted_t hF rfl rfl rfl hc2) rfl fun a hF=>q_xg (v:=(iV p_i)) hF hS (ex_move rfl) (wanted_t hF rfl rfl rfl hc2) rfl fun a hF=>?_
   obtain ⟨e_13,he_13,hj1⟩:=bindS hj1
   obtain ⟨vs14,at14,d14⟩:=h5.at he_13 1 rfl
   obtain ⟨s15,rfl,h15⟩ : ∃ s15 : Sl,vs14 = [s15.v]∧Rd m s15 e_13:=d14
   refine q_xg (v:=(elP s5 (p_i.toNat * 1))) hF hS (ex_indexAddr Try.underlying23 sz28 rfl rfl (h5.idx he_13)) (wanted_t hF rfl rfl rfl hc2) rfl fun a hF=>q_xg (v:=s15.v) hF hS (ex_loadE1 0 Try.underlying28 rfl rfl ((at14).at) rfl rfl) (wanted_t hF rfl rfl rfl hc2) rfl fun a hF=>q_xg (v:=(iV p_j)) hF hS (ex_move rfl) (wanted_t hF rfl rfl rfl hc2) rfl fun a hF=>?_
   obtain ⟨e_16,he_16,hj1⟩:=bindS hj1
   obtain ⟨vs17,at17,d17⟩:=h15.at he_16 1 rfl
   obtain rfl : vs17 = [(iV e_16)]:=d17
   refine q_xg (v:=(elP s15 (p_j.toNat * 1))) hF hS (ex_indexAddr Try.underlying28 sz3 rfl rfl (h15.idx he_16)) (wanted_t hF rfl rfl rfl hc2) rfl fun a hF=>q_xg (v:=(iV e_16)) hF hS (ex_loadE1 0 Try.underlying3 rfl rfl ((at17).at) rfl rfl) (wanted_t hF rfl rfl rfl hc2) rfl fun a hF=>q_xg (v:=(iV p_up)) hF hS (ex_move rfl) (wanted_t hF rfl rfl rfl hc2) rfl fun a hF=>q_xg (v:=(iV (w64 (e_16 + p_up)))) hF hS (ex_ibin rfl rfl rfl) (wanted_t hF rfl rfl rfl hc2) rfl fun a hF=>q_xg (v:=(.bool (decide ((w64 (e_16 + p_up)) ≤ t_7.2)))) hF hS (ex_ibin rfl rfl rfl) (wanted_t hF rfl rfl rfl hc2) rfl fun a hF=>q_x (v:=(.bool (decide ((w64 (e_16 + p_up)) ≤ t_7.2)))) hF hS (ex_pick_t rfl rfl hc2) rfl rfl fun a hF=>q_x (v:=(.bool (decide ((w64 (e_16 + p_up)) ≤ t_7.2)))) hF hS (ex_assign rfl) rfl rfl fun a hF=>q_end (n_jn ?_)
   obtain rfl:=someI hj1
   exact ⟨hF.sub ⟨rfl,trivial⟩,hS.mask [false]⟩
 ·rintro a w ⟨hF,hS⟩
  refine n_sq (q_ret ?_)
  obtain rfl:=someI hr
  exact ret_of hF hS rfl (.tmp rfl .nil) rfl

theorem c_impl_IsProtected (p_x : List (List Int)) (p_p : List (List Int)) (p_i : Int) (p_j : Int) (p_down : Int) (p_up : Int) (r : Bool × Bool) (hr : impl_IsProtected p_x p_p p_i p_j p_down p_up = some r) (w0 : World) (m : Mem) (hv : Vis m w0) (s1 : Sl) (h1 : Rd m s1 p_x) (s2 : Sl) (h2 : Rd m s2 p_p) :
  Ret Try.prog 35 [s1.v,s2.v,(iV p_i),(iV p_j),(iV p_down),(iV p_up)] w0 (fun v _=>v = (.tuple #[(.bool r.1),(.bool r.2)])):=by
 unfold impl_IsProtected at hr
 refine ret_start Try.func35 rfl 40 rfl rfl m hv fun a hF hS=>q_seq (q_region (q_x (v:=(.bool false)) hF hS (ex_assign rfl) rfl rfl fun a hF=>q_x (v:=(.bool false)) hF hS (ex_assign rfl) rfl rfl fun a hF=>q_end (n_sq (q_seq (q_seq ?_)))))
 obtain ⟨t_6,hj1,hr⟩:=bindS hr
 refine q_join (fun a w=>Fr a 40 [(0,s1.v),(1,s2.v),(2,(iV p_i)),(3,(iV p_j)),(4,(iV p_down)),(5,(iV p_up)),(30,(.bool t_6))]∧St [] w0 w m []) ?_ ?_
 ·refine q_region (q_x (v:=s1.v) hF hS (ex_move rfl) rfl rfl fun a hF=>q_x (v:=s2.v) hF hS (ex_move rfl) rfl rfl fun a hF=>?_)
  obtain ⟨t_3,ht_3,hj1⟩:=bindS hj1
  refine q_call (vs:=[s1.v,s2.v]) hF hS Try.func95 (by kernel_rfl) rfl rfl rfl (c_impl_areSuppressed p_x p_p t_3 ht_3 _ m hS.vis s1 h1 s2 h2) ?_
  rintro a w _ rfl hF hS
  refine q_x (v:=(.bool (!t_3))) hF hS (ex_not rfl) rfl rfl fun a hF=>q_x (v:=(.bool (!t_3))) hF hS (ex_move rfl) rfl rfl fun a hF=>?_
  rcases bcase (!t_3) with hc2 | hc2
  ·have hj1:=cond_f hc2 hj1
   refine q_xg (v:=(iV p_down)) hF hS (ex_move rfl) (wanted_t hF rfl rfl rfl hc2) rfl fun a hF=>q_xg (v:=(iV p_up)) hF hS (ex_move rfl) (wanted_t hF rfl rfl rfl hc2) rfl fun a hF=>?_
   obtain ⟨t_4,ht_4,hj1⟩:=bindS hj1
   refine q_callg (vs:=[(iV p_down),(iV p_up)]) hF hS (wanted_t hF rfl rfl rfl hc2) Try.func107 (by kernel_rfl) rfl rfl rfl (c_impl_areMargins p_down p_up t_4 ht_4 _ m hS.vis) ?_
   rintro a w _ rfl hF hS
   refine q_xg (v:=(.bool (!t_4))) hF hS (ex_not rfl) (wanted_t hF rfl rfl rfl hc2) rfl fun a hF=>q_x (v:=(.bool (!t_4))) hF hS (ex_pick_f rfl rfl hc2) rfl rfl fun a hF=>q_x (v:=(.bool (!t_4))) hF hS (ex_move rfl) rfl rfl fun a hF=>?_
   rcases bcase (!t_4) with hc3 | hc3
   ·have hj1:=cond_f hc3 hj1
    refine q_xg (v:=s2.v) hF hS (ex_move rfl) (wanted_t hF rfl rfl rfl hc3) rfl fun a hF=>q_xg (v:=(iV p_i)) hF hS (ex_move rfl) (wanted_t hF rfl rfl rfl hc3) rfl fun a hF=>q_xg (v:=(iV p_j)) hF hS (ex_move rfl) (wanted_t hF rfl rfl rfl hc3) rfl fun a hF=>?_
    obtain ⟨t_5,ht_5,hj1⟩:=bindS hj1
    refine q_callg (vs:=[s2.v,(iV p_i),(iV p_j)]) hF hS (wanted_t hF rfl rfl rfl hc3) Try.func108 (by kernel_rfl) rfl rfl rfl (c_impl_isHidden p_p p_i p_j t_5 ht_5 _ m hS.vis s2 h2) ?_
    rintro a w _ rfl hF hS
    refine q_xg (v:=(.bool (!t_5))) hF hS (ex_not rfl) (wanted_t hF rfl rfl rfl hc3) rfl fun a hF=>q_x (v:=(.bool (!t_5))) hF hS (ex_pick_f rfl rfl hc3) rfl rfl fun a hF=>q_end (n_jn ?_)
    obtain rfl:=someI hj1
    exact ⟨hF.sub ⟨rfl,rfl,rfl,rfl,rfl,rfl,rfl,trivial⟩,hS⟩
   ·have hj1:=cond_t hc3 hj1
    refine q_skip hF (wanted_f hF rfl rfl rfl hc3 rfl) rfl fun a hF=>q_skip hF (wanted_f hF rfl rfl rfl hc3 rfl) rfl fun a hF=>q_skip hF (wanted_f hF rfl rfl rfl hc3 rfl) rfl fun a hF=>q_skip hF (wanted_f hF rfl rfl rfl hc3 rfl) rfl fun a hF=>q_skip hF (wanted_f hF rfl rfl rfl hc3 rfl) rfl fun a hF=>q_x (v:=(.bool true)) hF hS (ex_pick_t rfl rfl hc3) rfl rfl fun a hF=>q_end (n_jn ?_)
    obtain rfl:=someI hj1
    exact ⟨hF.sub ⟨rfl,rfl,rfl,rfl,rfl,rfl,rfl,trivial⟩,hS⟩
  ·have hj1:=cond_t hc2 hj1
   refine q_skip hF (wanted_f hF rfl rfl rfl hc2 rfl) rfl fun a hF=>q_skip hF (wanted_f hF rfl rfl rfl hc2 rfl) rfl fun a hF=>q_skip hF (wanted_f hF rfl rfl rfl hc2 rfl) rfl fun a hF=>q_skip hF (wanted_f hF rfl rfl rfl hc2 rfl) rfl fun a hF=>q_x (v:=(.bool true)) hF hS (ex_pick_t rfl rfl hc2) rfl rfl fun a hF=>q_x (v:=(.bool true)) hF hS (ex_move rfl) rfl rfl fun a hF=>q_skip hF (wanted_f hF rfl rfl rfl rfl rfl) rfl fun a hF=>q_skip hF (wanted_f hF rfl rfl rfl rfl rfl) rfl fun a hF=>q_skip hF (wanted_f hF rfl rfl rfl rfl rfl) rfl fun a hF=>q_skip hF (wanted_f hF rfl rfl rfl rfl rfl) rfl fun a hF=>q_skip hF (wanted_f hF rfl rfl rfl rfl rfl) rfl fun a hF=>q_x (v:=(.bool true)) hF hS (ex_pick_t rfl rfl rfl) rfl rfl fun a hF=>q_end (n_jn ?_)
   obtain rfl:=someI hj1
   exact ⟨hF.sub ⟨rfl,rfl,rfl,rfl,rfl,rfl,rfl,trivial⟩,hS⟩
 ·rintro a w ⟨hF,hS⟩
  refine n_sq ?_
  rcases bcase (t_6) with hc4 | hc4
  ·have hr:=cond_f hc4 hr
   refine q_cond_f hF rfl hc4 (q_skipc (n_sq (q_seq (q_region (q_x (v:=s1.v) hF hS (ex_move rfl) rfl rfl fun a hF=>q_x (v:=s2.v) hF hS (ex_move rfl) rfl rfl fun a hF=>?_)))))
   obtain ⟨t_7,ht_7,hr⟩:=bindS hr
   refine q_call (vs:=[s1.v,s2.v]) hF hS Try.func97 (by kernel_rfl) rfl rfl rfl (c_impl_attackNetwork p_x p_p t_7 ht_7 _ m hS.vis s1 h1 s2 h2) ?_
   rintro a w _ ⟨q9,q10,q11,q12,s9,s10,s11,s12,rfl,hR8,h9,h10,h11,h12⟩ hF hS2
   have hS : St _ _ _ _ [q9,q10,q11,q12]:=hS.joinF hR8
   refine q_x (v:=s1.v) hF hS (ex_move rfl) rfl rfl fun a hF=>q_x (v:=(iV p_i)) hF hS (ex_move rfl) rfl rfl fun a hF=>q_x (v:=(iV p_j)) hF hS (ex_move rfl) rfl rfl fun a hF=>q_x (v:=(iV p_down)) hF hS (ex_move rfl) rfl rfl fun a hF=>q_x (v:=(iV p_up)) hF hS (ex_move rfl) rfl rfl fun a hF=>?_
   obtain ⟨m14,hl14,hv14,hz14⟩:=hS.lend
   obtain ⟨t_13,ht_13,hr⟩:=bindS hr
   refine q_call (vs:=[(.agg #[s9.v,s10.v,s11.v,s12.v]),s1.v,(iV p_i),(iV p_j),(iV p_down),(iV p_up)]) hF hS Try.func109 (by kernel_rfl) rfl rfl rfl (c_impl_isProtected t_7 p_x p_i p_j p_down p_up t_13 ht_13 _ m14 hv14 s9 (h9.froz hl14 (hz14 0 _ rfl)) s10 (h10.froz hl14 (hz14 1 _ rfl)) s11 (h11.froz hl14 (hz14 2 _ rfl)) s12 (h12.froz hl14 (hz14 3 _ rfl)) s1 (h1.mono hl14)) ?_
   rintro a w _ rfl hF hS
   refine q_x (v:=(.bool t_13)) hF hS (ex_assign rfl) rfl rfl fun a hF=>q_x (v:=(.bool true)) hF hS (ex_assign rfl) rfl rfl fun a hF=>q_end (n_sq (q_ret ?_))
   obtain rfl:=someI hr
   exact ret_of hF hS rfl (.tmp rfl (.tmp rfl .nil)) rfl
  ·have hr:=cond_t hc4 hr
   refine q_cond_t hF rfl hc4 (q_seq (q_region (q_x (v:=(.bool false)) hF hS (ex_assign rfl) rfl rfl fun a hF=>q_x (v:=(.bool false)) hF hS (ex_assign rfl) rfl rfl fun a hF=>q_end (n_sq (q_ret (r_sq ?_))))))
   obtain rfl:=someI hr
   exact ret_of hF hS rfl (.tmp rfl (.tmp rfl .nil)) rfl

theorem c_spec_l1In (p_n : Int) (p_lo : Int) (p_hi : Int) (r : Bool) (hr : spec_l1In p_n p_lo p_hi = some r) (w0 : World) (m : Mem) (hv : Vis m w0) :
  Ret Try.prog 77 [(iV p_n),(iV p_lo),(iV p_hi)] w0 (fun v _=>v = (.bool r)):=by
 unfold spec_l1In at hr
 refine ret_start Try.func77 rfl 15 rfl rfl m hv fun a hF hS=>q_seq (q_region (q_x (v:=(.bool false)) hF hS (ex_assign rfl) rfl rfl fun a hF=>q_end (n_sq (q_seq ?_))))
 obtain ⟨t_1,hj1,hr⟩:=bindS hr
 refine q_join (fun a w=>Fr a 15 [(6,(.bool t_1))]∧St [] w0 w m []) ?_ ?_
 ·refine q_region (q_x (v:=(iV p_n)) hF hS (ex_move rfl) rfl rfl fun a hF=>q_x (v:=(iV p_lo)) hF hS (ex_move rfl) rfl rfl fun a hF=>q_x (v:=(.bool (decide (p_lo ≤ p_n)))) hF hS (ex_ibin rfl rfl rfl) rfl rfl fun a hF=>q_x (v:=(.bool (decide (p_lo ≤ p_n)))) hF hS (ex_move rfl) rfl rfl fun a hF=>?_)
  rcases bcase (decide (p_lo ≤ p_n)) with hc2 | hc2
  ·have hj1:=cond_f hc2 hj1
   refine q_skip hF (wanted_f hF rfl rfl rfl hc2 rfl) rfl fun a hF=>q_skip hF (wanted_f hF rfl rfl rfl hc2 rfl) rfl fun a hF=>q_skip hF (wanted_f hF rfl rfl rfl hc2 rfl) rfl fun a hF=>q_x (v:=(.bool false)) hF hS (ex_pick_f rfl rfl hc2) rfl rfl fun a hF=>q_x (v:=(.bool false)) hF hS (ex_assign rfl) rfl rfl fun a hF=>q_end (n_jn ?_)
   obtain rfl:=someI hj1
   exact ⟨hF.sub ⟨rfl,trivial⟩,hS⟩
  ·have hj1:=cond_t hc2 hj1
   refine q_xg (v:=(iV p_n)) hF hS (ex_move rfl) (wanted_t hF rfl rfl rfl hc2) rfl fun a hF=>q_xg (v:=(iV p_hi)) hF hS (ex_move rfl) (wanted_t hF rfl rfl rfl hc2) rfl fun a hF=>q_xg (v:=(.bool (decide (p_n ≤ p_hi)))) hF hS (ex_ibin rfl rfl rfl) (wanted_t hF rfl rfl rfl hc2) rfl fun a hF=>q_x (v:=(.bool (decide (p_n ≤ p_hi)))) hF hS (ex_pick_t rfl rfl hc2) rfl rfl fun a hF=>q_x (v:=(.bool (decide (p_n ≤ p_hi)))) hF hS (ex_assign rfl) rfl rfl fun a hF=>q_end (n_jn ?_)
   obtain rfl:=someI hj1
   exact ⟨hF.sub ⟨rfl,trivial⟩,hS⟩
 ·rintro a w ⟨hF,hS⟩
  refine n_sq (q_ret ?_)
  obtain rfl:=someI hr
  exact ret_of hF hS rfl (.tmp rfl .nil) rfl

theorem c_spec_l1All (p_l : List Int) (p_lo : Int) (p_hi : Int) (r : Bool) (hr : spec_l1All p_l p_lo p_hi = some r) (w0 : World) (m : Mem) (hv : Vis m w0) (s1 : Sl) (h1 : Rd m s1 p_l) :
  Ret Try.prog 152 [s1.v,(iV p_lo),(iV p_hi)] w0 (fun v _=>v = (.bool r)):=by
 unfold spec_l1All at hr
 refine ret_start Try.func152 rfl 21 rfl rfl m hv fun a hF hS=>q_seq (q_region (q_x (v:=(.bool false)) hF hS (ex_assign rfl) rfl rfl fun a hF=>q_end (n_sq (q_seq (q_seq (q_region (q_x (v:=s1.v) hF hS (ex_move rfl) rfl rfl fun a hF=>q_x (v:=(iV (goLen p_l))) hF hS (ex_len Try.underlying28 rfl h1.len) rfl rfl fun a hF=>q_x (v:=(iV 0)) hF hS (ex_move rfl) rfl rfl fun a hF=>q_end (n_sq (q_block ?_)))))))))
 obtain ⟨o1,hl1,hr⟩:=bindS hr
 refine q_loop (fun (t_2 : Int) a w=>Fr a 21 [(1,(iV p_lo)),(2,(iV p_hi)),(9,s1.v),(10,(iV (goLen p_l))),(11,(iV t_2))]∧St [] w0 w m []) (fun (o : (Unit) ⊕ (Bool)) e a w=>o = .inl ()∧e = .exit 0∧Fr a 21 []∧St [] w0 w m []) hl1 ⟨hF.sub ⟨rfl,rfl,rfl,rfl,rfl,trivial⟩,hS⟩ ?_ ?_
 ·clear hF hS
  rintro t_2 a w st ⟨hF,hS⟩ hb1
  unfold spec_l1All_l1 at hb1
  refine q_seq (q_region (q_x (v:=(.bool (decide (t_2 < (goLen p_l))))) hF hS (ex_ibin rfl rfl rfl) rfl rfl fun a hF=>q_end (n_sq (q_seq ?_))))
  rcases bcase (decide (t_2 < (goLen p_l))) with hc2 | hc2
  ·have hb1:=cond_f hc2 hb1
   refine q_cond_f hF rfl hc2 (q_exit (x_sq ?_))
   obtain rfl:=someI hb1
   exact ⟨nofun,.inl ⟨rfl,rfl,hF.sub trivial,hS⟩⟩
  ·have hb1:=cond_t hc2 hb1
   refine q_cond_t hF rfl hc2 (q_skipc (n_sq (q_seq (q_block (q_seq (q_region ?_))))))
   obtain ⟨e_3,he_3,hb1⟩:=bindS hb1
   obtain ⟨vs4,at4,d4⟩:=h1.at he_3 1 rfl
   obtain rfl : vs4 = [(iV e_3)]:=d4
   refine q_x (v:=(elP s1 (t_2.toNat * 1))) hF hS (ex_indexAddr Try.underlying28 sz3 rfl rfl (h1.idx he_3)) rfl rfl fun a hF=>q_x (v:=(iV e_3)) hF hS (ex_loadE1 0 Try.underlying3 rfl rfl ((at4).at) rfl rfl) rfl rfl fun a hF=>q_x (v:=(iV e_3)) hF hS (ex_assign rfl) rfl rfl fun a hF=>q_end (n_sq (q_seq (q_region (q_x (v:=(iV e_3)) hF hS (ex_move rfl) rfl rfl fun a hF=>q_x (v:=(iV p_lo)) hF hS (ex_move rfl) rfl rfl fun a hF=>q_x (v:=(iV p_hi)) hF hS (ex_move rfl) rfl rfl fun a hF=>?_))))
   obtain ⟨t_5,ht_5,hb1⟩:=bindS hb1
   refine q_call (vs:=[(iV e_3),(iV p_lo),(iV p_hi)]) hF hS Try.func77 (by kernel_rfl) rfl rfl rfl (c_spec_l1In e_3 p_lo p_hi t_5 ht_5 _ m hS.vis) ?_
   rintro a w _ rfl hF hS
   refine q_x (v:=(.bool (!t_5))) hF hS (ex_not rfl) rfl rfl fun a hF=>q_end (n_sq ?_)
   rcases bcase (!t_5) with hc3 | hc3
   ·have hb1:=cond_f hc3 hb1
    refine q_cond_f hF rfl hc3 (q_skipc (n_ib (n_sq (q_region (q_x (v:=(iV (w64 (t_2 + 1)))) hF hS (ex_ibin rfl rfl rfl) rfl rfl fun a hF=>q_x (v:=(iV (w64 (t_2 + 1)))) hF hS (ex_move rfl) rfl rfl fun a hF=>q_end ?_)))))
    obtain rfl:=someI hb1
    exact ⟨rfl,hF.sub ⟨rfl,rfl,rfl,rfl,rfl,trivial⟩,hS⟩
   ·have hb1:=cond_t hc3 hb1
    refine q_cond_t hF rfl hc3 (q_seq (q_region (q_x (v:=(.bool false)) hF hS (ex_assign rfl) rfl rfl fun a hF=>q_end (n_sq (q_ret (r_ib (r_sq ?_)))))))
    obtain rfl:=someI hb1
    refine ⟨nofun,.inr fun ho=>?_⟩
    subst ho
    refine r_ib (r_sq ?_)
    obtain rfl:=someI hr
    exact ret_of hF hS rfl (.tmp rfl .nil) rfl
 ·rintro e a w ⟨rfl,rfl,hF,hS⟩
  refine x_ib (n_sq ?_)
  refine q_seq (q_region (q_x (v:=(.bool true)) hF hS (ex_assign rfl) rfl rfl fun a hF=>q_end (n_sq (q_ret ?_))))
  obtain rfl:=someI hr
  exact ret_of hF hS rfl (.tmp rfl .nil) rfl

theorem c_spec_qForm (p_x : List (List Int)) (p_hi : Int) (r : Bool) (hr : spec_qForm p_x p_hi = some r) (w0 : World) (m : Mem) (hv : Vis m w0) (s1 : Sl) (h1 : Rd m s1 p_x) :
  Ret Try.prog 90 [s1.v,(iV p_hi)] w0 (fun v _=>v = (.bool r)):=by
 unfold spec_qForm at hr
 refine ret_start Try.func90 rfl 39 rfl rfl m hv fun a hF hS=>q_seq (q_region (q_x (v:=(.bool false)) hF hS (ex_assign rfl) rfl rfl fun a hF=>q_end (n_sq (q_seq (q_seq ?_)))))
 obtain ⟨t_7,hj1,hr⟩:=bindS hr
 refine q_join (fun a w=>Fr a 39 [(0,s1.v),(1,(iV p_hi)),(18,(.bool t_7))]∧St [] w0 w m []) ?_ ?_
 ·refine q_region (q_x (v:=s1.v) hF hS (ex_move rfl) rfl rfl fun a hF=>q_x (v:=(iV (goLen p_x))) hF hS (ex_len Try.underlying23 rfl h1.len) rfl rfl fun a hF=>?_)
  obtain ⟨t_2,ht_2,hj1⟩:=bindS hj1
  refine q_call (vs:=[(iV (goLen p_x)),(iV 1),(iV 8)]) hF hS Try.func77 (by kernel_rfl) rfl rfl rfl (c_spec_l1In (goLen p_x) 1 8 t_2 ht_2 _ m hS.vis) ?_
  rintro a w _ rfl hF hS
  refine q_x (v:=(.bool (!t_2))) hF hS (ex_not rfl) rfl rfl fun a hF=>q_x (v:=(.bool (!t_2))) hF hS (ex_move rfl) rfl rfl fun a hF=>?_
  rcases bcase (!t_2) with hc2 | hc2
  ·have hj1:=cond_f hc2 hj1
   refine q_xg (v:=s1.v) hF hS (ex_move rfl) (wanted_t hF rfl rfl rfl hc2) rfl fun a hF=>?_
   obtain ⟨e_3,he_3,hj1⟩:=bindS hj1
   obtain ⟨vs4,at4,d4⟩:=h1.at he_3 1 rfl
   obtain ⟨s5,rfl,h5⟩ : ∃ s5 : Sl,vs4 = [s5.v]∧Rd m s5 e_3:=d4
   refine q_xg (v:=(elP s1 ((0 : Int).toNat * 1))) hF hS (ex_indexAddr Try.underlying23 sz28 rfl rfl (h1.idx he_3)) (wanted_t hF rfl rfl rfl hc2) rfl fun a hF=>q_xg (v:=s5.v) hF hS (ex_loadE1 0 Try.underlying28 rfl rfl ((at4).at) rfl rfl) (wanted_t hF rfl rfl rfl hc2) rfl fun a hF=>q_xg (v:=(iV (goLen e_3))) hF hS (ex_len Try.underlying28 rfl h5.len) (wanted_t hF rfl rfl rfl hc2) rfl fun a hF=>?_
   obtain ⟨t_6,ht_6,hj1⟩:=bindS hj1
   refine q_callg (vs:=[(iV (goLen e_3)),(iV 1),(iV 8)]) hF hS (wanted_t hF rfl rfl rfl hc2) Try.func77 (by kernel_rfl) rfl rfl rfl (c_spec_l1In (goLen e_3) 1 8 t_6 ht_6 _ m hS.vis) ?_
   rintro a w _ rfl hF hS
   refine q_xg (v:=(.bool (!t_6))) hF hS (ex_not rfl) (wanted_t hF rfl rfl rfl hc2) rfl fun a hF=>q_x (v:=(.bool (!t_6))) hF hS (ex_pick_f rfl rfl hc2) rfl rfl fun a hF=>q_end (n_jn ?_)
   obtain rfl:=someI hj1
   exact ⟨hF.sub ⟨rfl,rfl,rfl,trivial⟩,hS⟩
  ·have hj1:=cond_t hc2 hj1
   refine q_skip hF (wanted_f hF rfl rfl rfl hc2 rfl) rfl fun a hF=>q_skip hF (wanted_f hF rfl rfl rfl hc2 rfl) rfl fun a hF=>q_skip hF (wanted_f hF rfl rfl rfl hc2 rfl) rfl fun a hF=>q_skip hF (wanted_f hF rfl rfl rfl hc2 rfl) rfl fun a hF=>q_skip hF (wanted_f hF rfl rfl rfl hc2 rfl) rfl fun a hF=>q_skip hF (wanted_f hF rfl rfl rfl hc2 rfl) rfl fun a hF=>q_x (v:=(.bool true)) hF hS (ex_pick_t rfl rfl hc2) rfl rfl fun a hF=>q_end (n_jn ?_)
   obtain rfl:=someI hj1
   exact ⟨hF.sub ⟨rfl,rfl,rfl,trivial⟩,hS⟩
 ·rintro a w ⟨hF,hS⟩
  refine n_sq ?_
  rcases bcase (t_7) with hc3 | hc3
  ·have hr:=cond_f hc3 hr
   refine q_cond_f hF rfl hc3 (q_skipc (n_sq (q_seq (q_seq (q_region (q_x (v:=s1.v) hF hS (ex_move rfl) rfl rfl fun a hF=>q_x (v:=(iV (goLen p_x))) hF hS (ex_len Try.underlying23 rfl h1.len) rfl rfl fun a hF=>q_x (v:=(iV 0)) hF hS (ex_move rfl) rfl rfl fun a hF=>q_end (n_sq (q_block ?_))))))))
   obtain ⟨o4,hl4,hr⟩:=bindS hr
   refine q_loop (fun (t_8 : Int) a w=>Fr a 39 [(0,s1.v),(1,(iV p_hi)),(19,s1.v),(20,(iV (goLen p_x))),(21,(iV t_8))]∧St [] w0 w m []) (fun (o : (Unit) ⊕ (Bool)) e a w=>o = .inl ()∧e = .exit 0∧Fr a 39 []∧St [] w0 w m []) hl4 ⟨hF.sub ⟨rfl,rfl,rfl,rfl,rfl,trivial⟩,hS⟩ ?_ ?_
   ·clear hF hS
    rintro t_8 a w st ⟨hF,hS⟩ hb4
    unfold spec_qForm_l1 at hb4
    refine q_seq (q_region (q_x (v:=(.bool (decide (t_8 < (goLen p_x))))) hF hS (ex_ibin rfl rfl rfl) rfl rfl fun a hF=>q_end (n_sq (q_seq ?_))))
    rcases bcase (decide (t_8 < (goLen p_x))) with hc5 | hc5
    ·have hb4:=cond_f hc5 hb4
     refine q_cond_f hF rfl hc5 (q_exit (x_sq ?_))
     obtain rfl:=someI hb4
     exact ⟨nofun,.inl ⟨rfl,rfl,hF.sub trivial,hS⟩⟩
    ·have hb4:=cond_t hc5 hb4
     refine q_cond_t hF rfl hc5 (q_skipc (n_sq (q_seq (q_block (q_seq (q_region ?_))))))
     obtain ⟨e_9,he_9,hb4⟩:=bindS hb4
     obtain ⟨vs10,at10,d10⟩:=h1.at he_9 1 rfl
     obtain ⟨s11,rfl,h11⟩ : ∃ s11 : Sl,vs10 = [s11.v]∧Rd m s11 e_9:=d10
     refine q_x (v:=(elP s1 (t_8.toNat * 1))) hF hS (ex_indexAddr Try.underlying23 sz28 rfl rfl (h1.idx he_9)) rfl rfl fun a hF=>q_x (v:=s11.v) hF hS (ex_loadE1 0 Try.underlying28 rfl rfl ((at10).at) rfl rfl) rfl rfl fun a hF=>q_x (v:=s11.v) hF hS (ex_assign rfl) rfl rfl fun a hF=>q_end (n_sq (q_seq ?_))
     obtain ⟨t_16,hj6,hb4⟩:=bindS hb4
     refine q_join (fun a w=>Fr a 39 [(0,s1.v),(1,(iV p_hi)),(19,s1.v),(20,(iV (goLen p_x))),(21,(iV t_8)),(37,(.bool t_16))]∧St [] w0 w m []) ?_ ?_
     ·refine q_region (q_x (v:=s11.v) hF hS (ex_move rfl) rfl rfl fun a hF=>q_x (v:=(iV (goLen e_9))) hF hS (ex_len Try.underlying28 rfl h11.len) rfl rfl fun a hF=>q_x (v:=s1.v) hF hS (ex_move rfl) rfl rfl fun a hF=>?_)
      obtain ⟨e_12,he_12,hj6⟩:=bindS hj6
      obtain ⟨vs13,at13,d13⟩:=h1.at he_12 1 rfl
      obtain ⟨s14,rfl,h14⟩ : ∃ s14 : Sl,vs13 = [s14.v]∧Rd m s14 e_12:=d13
      refine q_x (v:=(elP s1 ((0 : Int).toNat * 1))) hF hS (ex_indexAddr Try.underlying23 sz28 rfl rfl (h1.idx he_12)) rfl rfl fun a hF=>q_x (v:=s14.v) hF hS (ex_loadE1 0 Try.underlying28 rfl rfl ((at13).at) rfl rfl) rfl rfl fun a hF=>q_x (v:=(iV (goLen e_12))) hF hS (ex_len Try.underlying28 rfl h14.len) rfl rfl fun a hF=>q_x (v:=(.bool ((goLen e_9) != (goLen e_12)))) hF hS (ex_ibin rfl rfl rfl) rfl rfl fun a hF=>q_x (v:=(.bool ((goLen e_9) != (goLen e_12)))) hF hS (ex_move rfl) rfl rfl fun a hF=>?_
      rcases bcase ((goLen e_9) != (goLen e_12)) with hc7 | hc7
      ·have hj6:=cond_f hc7 hj6
       refine q_xg (v:=s11.v) hF hS (ex_move rfl) (wanted_t hF rfl rfl rfl hc7) rfl fun a hF=>q_xg (v:=(iV p_hi)) hF hS (ex_move rfl) (wanted_t hF rfl rfl rfl hc7) rfl fun a hF=>?_
       obtain ⟨t_15,ht_15,hj6⟩:=bindS hj6
       refine q_callg (vs:=[s11.v,(iV 0),(iV p_hi)]) hF hS (wanted_t hF rfl rfl rfl hc7) Try.func152 (by kernel_rfl) rfl rfl rfl (c_spec_l1All e_9 0 p_hi t_15 ht_15 _ m hS.vis s11 h11) ?_
       rintro a w _ rfl hF hS
       refine q_xg (v:=(.bool (!t_15))) hF hS (ex_not rfl) (wanted_t hF rfl rfl rfl hc7) rfl fun a hF=>q_x (v:=(.bool (!t_15))) hF hS (ex_pick_f rfl rfl hc7) rfl rfl fun a hF=>q_end (n_jn ?_)
       obtain rfl:=someI hj6
       exact ⟨hF.sub ⟨rfl,rfl,rfl,rfl,rfl,rfl,trivial⟩,hS⟩
      ·have hj6:=cond_t hc7 hj6
       refine q_skip hF (wanted_f hF rfl rfl rfl hc7 rfl) rfl fun a hF=>q_skip hF (wanted_f hF rfl rfl rfl hc7 rfl) rfl fun a hF=>q_skip hF (wanted_f hF rfl rfl rfl hc7 rfl) rfl fun a hF=>q_skip hF (wanted_f hF rfl rfl rfl hc7 rfl) rfl fun a hF=>q_x (v:=(.bool true)) hF hS (ex_pick_t rfl rfl hc7) rfl rfl fun a hF=>q_end (n_jn ?_)
       obtain rfl:=someI hj6
       exact ⟨hF.sub ⟨rfl,rfl,rfl,rfl,rfl,rfl,trivial⟩,hS⟩
     ·rintro a w ⟨hF,hS⟩
      refine n_sq ?_
      rcases bcase (t_16) with hc8 | hc8
      ·have hb4:=cond_f hc8 hb4
       refine q_cond_f hF rfl hc8 (q_skipc (n_ib (n_sq (q_region (q_x (v:=(iV (w64 (t_8 + 1)))) hF hS (ex_ibin rfl rfl rfl) rfl rfl fun a hF=>q_x (v:=(iV (w64 (t_8 + 1)))) hF hS (ex_move rfl) rfl rfl fun a hF=>q_end ?_)))))
       obtain rfl:=someI hb4
       exact ⟨rfl,hF.sub ⟨rfl,rfl,rfl,rfl,rfl,trivial⟩,hS⟩
      ·have hb4:=cond_t hc8 hb4
       refine q_cond_t hF rfl hc8 (q_seq (q_region (q_x (v:=(.bool false)) hF hS (ex_assign rfl) rfl rfl fun a hF=>q_end (n_sq (q_ret (r_ib (r_sq ?_)))))))
       obtain rfl:=someI hb4
       refine ⟨nofun,.inr fun ho=>?_⟩
       subst ho
       refine r_ib (r_sq ?_)
       obtain rfl:=someI hr
       exact ret_of hF hS rfl (.tmp rfl .nil) rfl
   ·rintro e a w ⟨rfl,rfl,hF,hS⟩
    refine x_ib (n_sq ?_)
    refine q_seq (q_region (q_x (v:=(.bool true)) hF hS (ex_assign rfl) rfl rfl fun a hF=>q_end (n_sq (q_ret ?_))))
    obtain rfl:=someI hr
    exact ret_of hF hS rfl (.tmp rfl .nil) rfl
  ·have hr:=cond_t hc3 hr
   refine q_cond_t hF rfl hc3 (q_seq (q_region (q_x (v:=(.bool false)) hF hS (ex_assign rfl) rfl rfl fun a hF=>q_end (n_sq (q_ret (r_sq ?_))))))
   obtain rfl:=someI hr
   exact ret_of hF hS rfl (.tmp rfl .nil) rfl

theorem c_spec_qTable (p_x : List (List Int)) (r : Bool) (hr : spec_qTable p_x = some r) (w0 : World) (m : Mem) (hv : Vis m w0) (s1 : Sl) (h1 : Rd m s1 p_x) :
  Ret Try.prog 76 [s1.v] w0 (fun v _=>v = (.bool r)):=by
 unfold spec_qTable at hr
 refine ret_start Try.func76 rfl 5 rfl rfl m hv fun a hF hS=>q_seq (q_region (q_x (v:=(.bool false)) hF hS (ex_assign rfl) rfl rfl fun a hF=>q_end (n_sq (q_seq (q_region (q_x (v:=s1.v) hF hS (ex_move rfl) rfl rfl fun a hF=>?_))))))
 obtain ⟨t_2,ht_2,hr⟩:=bindS hr
 refine q_call (vs:=[s1.v,(iV 1000)]) hF hS Try.func90 (by kernel_rfl) rfl rfl rfl (c_spec_qForm p_x 1000 t_2 ht_2 _ m hS.vis s1 h1) ?_
 rintro a w _ rfl hF hS
 refine q_x (v:=(.bool t_2)) hF hS (ex_assign rfl) rfl rfl fun a hF=>q_end (n_sq (q_ret ?_))
 obtain rfl:=someI hr
 exact ret_of hF hS rfl (.tmp rfl .nil) rfl

theorem c_spec_qPattern (p_x : List (List Int)) (p_p : List (List Int)) (r : Bool) (hr : spec_qPattern p_x p_p = some r) (w0 : World) (m : Mem) (hv : Vis m w0) (s1 : Sl) (h1 : Rd m s1 p_x) (s2 : Sl) (h2 : Rd m s2 p_p) :
  Ret Try.prog 98 [s1.v,s2.v] w0 (fun v _=>v = (.bool r)):=by
 unfold spec_qPattern at hr
 refine ret_start Try.func98 rfl 29 rfl rfl m hv fun a hF hS=>q_seq (q_region (q_x (v:=(.bool false)) hF hS (ex_assign rfl) rfl rfl fun a hF=>q_end (n_sq (q_seq ?_))))
 obtain ⟨t_11,hj1,hr⟩:=bindS hr
 refine q_join (fun a w=>Fr a 29 [(4,(.bool t_11))]∧St [] w0 w m []) ?_ ?_
 ·refine e_region ⟨[],[],m⟩ mixed fun w' hw'=>?_
  have hS:=hS.below hw'
  refine e_p (v:=s1.v) 0 hF rfl (ex_move rfl) rfl rfl (by kernel_rfl) (by kernel_rfl) (by kernel_rfl) fun a hF=>e_one 1 (by kernel_rfl) ?_
  obtain ⟨t_3,ht_3,hj1⟩:=bindS hj1
  refine e_call (vs:=[s1.v]) hF hS rfl Try.func76 (by kernel_rfl) rfl rfl rfl (c_spec_qTable p_x t_3 ht_3 _ m hS.vis s1 h1) ?_
  rintro a w _ rfl hF hS
  refine e_p (v:=(.bool t_3)) 2 hF rfl (ex_move rfl) rfl rfl (by kernel_rfl) (by kernel_rfl) (by kernel_rfl) fun a hF=>?_
  rcases bcase (t_3) with hc2 | hc2
  ·have hj1:=cond_f hc2 hj1
   refine e_skipP 3 hF rfl (wanted_f hF rfl rfl rfl hc2 rfl) rfl (by kernel_rfl) (by kernel_rfl) (by kernel_rfl) fun a hF=>e_skipP 4 hF rfl (wanted_f hF rfl rfl rfl hc2 rfl) rfl (by kernel_rfl) (by kernel_rfl) (by kernel_rfl) fun a hF=>e_p (v:=(.bool false)) 5 hF rfl (ex_pick_f rfl rfl hc2) rfl rfl (by kernel_rfl) (by kernel_rfl) (by kernel_rfl) fun a hF=>e_p (v:=(.bool false)) 6 hF rfl (ex_move rfl) rfl rfl (by kernel_rfl) (by kernel_rfl) (by kernel_rfl) fun a hF=>e_skipP 7 hF rfl (wanted_f hF rfl rfl rfl rfl rfl) rfl (by kernel_rfl) (by kernel_rfl) (by kernel_rfl) fun a hF=>e_skipP 8 hF rfl (wanted_f hF rfl rfl rfl rfl rfl) rfl (by kernel_rfl) (by kernel_rfl) (by kernel_rfl) fun a hF=>e_skipP 9 hF rfl (wanted_f hF rfl rfl rfl rfl rfl) rfl (by kernel_rfl) (by kernel_rfl) (by kernel_rfl) fun a hF=>e_skipP 10 hF rfl (wanted_f hF rfl rfl rfl rfl rfl) rfl (by kernel_rfl) (by kernel_rfl) (by kernel_rfl) fun a hF=>e_skipP 11 hF rfl (wanted_f hF rfl rfl rfl rfl rfl) rfl (by kernel_rfl) (by kernel_rfl) (by kernel_rfl) fun a hF=>e_p (v:=(.bool false)) 12 hF rfl (ex_pick_f rfl rfl rfl) rfl rfl (by kernel_rfl) (by kernel_rfl) (by kernel_rfl) fun a hF=>e_p (v:=(.bool false)) 13 hF rfl (ex_move rfl) rfl rfl (by kernel_rfl) (by kernel_rfl) (by kernel_rfl) fun a hF=>e_skipP 14 hF rfl (wanted_f hF rfl rfl rfl rfl rfl) rfl (by kernel_rfl) (by kernel_rfl) (by kernel_rfl) fun a hF=>e_skipP 15 hF rfl (wanted_f hF rfl rfl rfl rfl rfl) rfl (by kernel_rfl) (by kernel_rfl) (by kernel_rfl) fun a hF=>e_skipP 16 hF rfl (wanted_f hF rfl rfl rfl rfl rfl) rfl (by kernel_rfl) (by kernel_rfl) (by kernel_rfl) fun a hF=>e_skipP 17 hF rfl (wanted_f hF rfl rfl rfl rfl rfl) rfl (by kernel_rfl) (by kernel_rfl) (by kernel_rfl) fun a hF=>e_skipP 18 hF rfl (wanted_f hF rfl rfl rfl rfl rfl) rfl (by kernel_rfl) (by kernel_rfl) (by kernel_rfl) fun a hF=>e_skipP 19 hF rfl (wanted_f hF rfl rfl rfl rfl rfl) rfl (by kernel_rfl) (by kernel_rfl) (by kernel_rfl) fun a hF=>e_skipP 20 hF rfl (wanted_f hF rfl rfl rfl rfl rfl) rfl (by kernel_rfl) (by kernel_rfl) (by kernel_rfl) fun a hF=>e_skipP 21 hF rfl (wanted_f hF rfl rfl rfl rfl rfl) rfl (by kernel_rfl) (by kernel_rfl) (by kernel_rfl) fun a hF=>e_skipP 22 hF rfl (wanted_f hF rfl rfl rfl rfl rfl) rfl (by kernel_rfl) (by kernel_rfl) (by kernel_rfl) fun a hF=>e_p (v:=(.bool false)) 23 hF rfl (ex_pick_f rfl rfl rfl) rfl rfl (by kernel_rfl) (by kernel_rfl) (by kernel_rfl) fun a hF=>e_p (v:=(.bool false)) 24 hF rfl (ex_assign rfl) rfl rfl (by kernel_rfl) (by kernel_rfl) (by kernel_rfl) fun a hF=>e_end (by kernel_rfl) (n_jn ?_) _
   obtain rfl:=someI hj1
   exact ⟨hF.sub ⟨rfl,trivial⟩,hS⟩
  ·have hj1:=cond_t hc2 hj1
   refine e_pg (v:=s2.v) 3 hF rfl (ex_move rfl) (wanted_t hF rfl rfl rfl hc2) rfl (by kernel_rfl) (by kernel_rfl) (by kernel_rfl) fun a hF=>e_one 4 (by kernel_rfl) ?_
   obtain ⟨t_4,ht_4,hj1⟩:=bindS hj1
   refine e_callg (vs:=[s2.v,(iV 1)]) hF hS rfl (wanted_t hF rfl rfl rfl hc2) Try.func90 (by kernel_rfl) rfl rfl rfl (c_spec_qForm p_p 1 t_4 ht_4 _ m hS.vis s2 h2) ?_
   rintro a w _ rfl hF hS
   refine e_p (v:=(.bool t_4)) 5 hF rfl (ex_pick_t rfl rfl hc2) rfl rfl (by kernel_rfl) (by kernel_rfl) (by kernel_rfl) fun a hF=>e_p (v:=(.bool t_4)) 6 hF rfl (ex_move rfl) rfl rfl (by kernel_rfl) (by kernel_rfl) (by kernel_rfl) fun a hF=>?_
   rcases bcase (t_4) with hc3 | hc3
   ·have hj1:=cond_f hc3 hj1
    refine e_skipP 7 hF rfl (wanted_f hF rfl rfl rfl hc3 rfl) rfl (by kernel_rfl) (by kernel_rfl) (by kernel_rfl) fun a hF=>e_skipP 8 hF rfl (wanted_f hF rfl rfl rfl hc3 rfl) rfl (by kernel_rfl) (by kernel_rfl) (by kernel_rfl) fun a hF=>e_skipP 9 hF rfl (wanted_f hF rfl rfl rfl hc3 rfl) rfl (by kernel_rfl) (by kernel_rfl) (by kernel_rfl) fun a hF=>e_skipP 10 hF rfl (wanted_f hF rfl rfl rfl hc3 rfl) rfl (by kernel_rfl) (by kernel_rfl) (by kernel_rfl) fun a hF=>e_skipP 11 hF rfl (wanted_f hF rfl rfl rfl hc3 rfl) rfl (by kernel_rfl) (by kernel_rfl) (by kernel_rfl) fun a hF=>e_p (v:=(.bool false)) 12 hF rfl (ex_pick_f rfl rfl hc3) rfl rfl (by kernel_rfl) (by kernel_rfl) (by kernel_rfl) fun a hF=>e_p (v:=(.bool false)) 13 hF rfl (ex_move rfl) rfl rfl (by kernel_rfl) (by kernel_rfl) (by kernel_rfl) fun a hF=>e_skipP 14 hF rfl (wanted_f hF rfl rfl rfl rfl rfl) rfl (by kernel_rfl) (by kernel_rfl) (by kernel_rfl) fun a hF=>e_skipP 15 hF rfl (wanted_f hF rfl rfl rfl rfl rfl) rfl (by kernel_rfl) (by kernel_rfl) (by kernel_rfl) fun a hF=>e_skipP 16 hF rfl (wanted_f hF rfl rfl rfl rfl rfl) rfl (by kernel_rfl) (by kernel_rfl) (by kernel_rfl) fun a hF=>e_skipP 17 hF rfl (wanted_f hF rfl rfl rfl rfl rfl) rfl (by kernel_rfl) (by kernel_rfl) (by kernel_rfl) fun a hF=>e_skipP 18 hF rfl (wanted_f hF rfl rfl rfl rfl rfl) rfl (by kernel_rfl) (by kernel_rfl) (by kernel_rfl) fun a hF=>e_skipP 19 hF rfl (wanted_f hF rfl rfl rfl rfl rfl) rfl (by kernel_rfl) (by kernel_rfl) (by kernel_rfl) fun a hF=>e_skipP 20 hF rfl (wanted_f hF rfl rfl rfl rfl rfl) rfl (by kernel_rfl) (by kernel_rfl) (by kernel_rfl) fun a hF=>e_skipP 21 hF rfl (wanted_f hF rfl rfl rfl rfl rfl) rfl (by kernel_rfl) (by kernel_rfl) (by kernel_rfl) fun a hF=>e_skipP 22 hF rfl (wanted_f hF rfl rfl rfl rfl rfl) rfl (by kernel_rfl) (by kernel_rfl) (by kernel_rfl) fun a hF=>e_p (v:=(.bool false)) 23 hF rfl (ex_pick_f rfl rfl rfl) rfl rfl (by kernel_rfl) (by kernel_rfl) (by kernel_rfl) fun a hF=>e_p (v:=(.bool false)) 24 hF rfl (ex_assign rfl) rfl rfl (by kernel_rfl) (by kernel_rfl) (by kernel_rfl) fun a hF=>e_end (by kernel_rfl) (n_jn ?_) _
    obtain rfl:=someI hj1
    exact ⟨hF.sub ⟨rfl,trivial⟩,hS⟩
   ·have hj1:=cond_t hc3 hj1
    refine e_pg (v:=s2.v) 7 hF rfl (ex_move rfl) (wanted_t hF rfl rfl rfl hc3) rfl (by kernel_rfl) (by kernel_rfl) (by kernel_rfl) fun a hF=>e_pg (v:=(iV (goLen p_p))) 8 hF rfl (ex_len Try.underlying23 rfl h2.len) (wanted_t hF rfl rfl rfl hc3) rfl (by kernel_rfl) (by kernel_rfl) (by kernel_rfl) fun a hF=>e_pg (v:=s1.v) 9 hF rfl (ex_move rfl) (wanted_t hF rfl rfl rfl hc3) rfl (by kernel_rfl) (by kernel_rfl) (by kernel_rfl) fun a hF=>e_pg (v:=(iV (goLen p_x))) 10 hF rfl (ex_len Try.underlying23 rfl h1.len) (wanted_t hF rfl rfl rfl hc3) rfl (by kernel_rfl) (by kernel_rfl) (by kernel_rfl) fun a hF=>e_pg (v:=(.bool ((goLen p_p) == (goLen p_x)))) 11 hF rfl (ex_ibin rfl rfl rfl) (wanted_t hF rfl rfl rfl hc3) rfl (by kernel_rfl) (by kernel_rfl) (by kernel_rfl) fun a hF=>e_p (v:=(.bool ((goLen p_p) == (goLen p_x)))) 12 hF rfl (ex_pick_t rfl rfl hc3) rfl rfl (by kernel_rfl) (by kernel_rfl) (by kernel_rfl) fun a hF=>e_p (v:=(.bool ((goLen p_p) == (goLen p_x)))) 13 hF rfl (ex_move rfl) rfl rfl (by kernel_rfl) (by kernel_rfl) (by kernel_rfl) fun a hF=>?_
    rcases bcase ((goLen p_p) == (goLen p_x)) with hc4 | hc4
    ·have hj1:=cond_f hc4 hj1
     refine e_skipP 14 hF rfl (wanted_f hF rfl rfl rfl hc4 rfl) rfl (by kernel_rfl) (by kernel_rfl) (by kernel_rfl) fun a hF=>e_skipP 15 hF rfl (wanted_f hF rfl rfl rfl hc4 rfl) rfl (by kernel_rfl) (by kernel_rfl) (by kernel_rfl) fun a hF=>e_skipP 16 hF rfl (wanted_f hF rfl rfl rfl hc4 rfl) rfl (by kernel_rfl) (by kernel_rfl) (by kernel_rfl) fun a hF=>e_skipP 17 hF rfl (wanted_f hF rfl rfl rfl hc4 rfl) rfl (by kernel_rfl) (by kernel_rfl) (by kernel_rfl) fun a hF=>e_skipP 18 hF rfl (wanted_f hF rfl rfl rfl hc4 rfl) rfl (by kernel_rfl) (by kernel_rfl) (by kernel_rfl) fun a hF=>e_skipP 19 hF rfl (wanted_f hF rfl rfl rfl hc4 rfl) rfl (by kernel_rfl) (by kernel_rfl) (by kernel_rfl) fun a hF=>e_skipP 20 hF rfl (wanted_f hF rfl rfl rfl hc4 rfl) rfl (by kernel_rfl) (by kernel_rfl) (by kernel_rfl) fun a hF=>e_skipP 21 hF rfl (wanted_f hF rfl rfl rfl hc4 rfl) rfl (by kernel_rfl) (by kernel_rfl) (by kernel_rfl) fun a hF=>e_skipP 22 hF rfl (wanted_f hF rfl rfl rfl hc4 rfl) rfl (by kernel_rfl) (by kernel_rfl) (by kernel_rfl) fun a hF=>e_p (v:=(.bool false)) 23 hF rfl (ex_pick_f rfl rfl hc4) rfl rfl (by kernel_rfl) (by kernel_rfl) (by kernel_rfl) fun a hF=>e_p (v:=(.bool false)) 24 hF rfl (ex_assign rfl) rfl rfl (by kernel_rfl) (by kernel_rfl) (by kernel_rfl) fun a hF=>e_end (by kernel_rfl) (n_jn ?_) _
     obtain rfl:=someI hj1
     exact ⟨hF.sub ⟨rfl,trivial⟩,hS⟩
    ·have hj1:=cond_t hc4 hj1
     refine e_pg (v:=s2.v) 14 hF rfl (ex_move rfl) (wanted_t hF rfl rfl rfl hc4) rfl (by kernel_rfl) (by kernel_rfl) (by kernel_rfl) fun a hF=>?_
     obtain ⟨e_5,he_5,hj1⟩:=bindS hj1
     obtain ⟨vs6,at6,d6⟩:=h2.at he_5 1 rfl
     obtain ⟨s7,rfl,h7⟩ : ∃ s7 : Sl,vs6 = [s7.v]∧Rd m s7 e_5:=d6
     refine e_pg (v:=(elP s2 ((0 : Int).toNat * 1))) 15 hF rfl (ex_indexAddr Try.underlying23 sz28 rfl rfl (h2.idx he_5)) (wanted_t hF rfl rfl rfl hc4) rfl (by kernel_rfl) (by kernel_rfl) (by kernel_rfl) fun a hF=>e_xg (v:=s7.v) 16 hF hS rfl (ex_loadE1 0 Try.underlying28 rfl rfl ((at6).at) rfl rfl) (wanted_t hF rfl rfl rfl hc4) rfl (by kernel_rfl) (by kernel_rfl) (by kernel_rfl) (by kernel_rfl) fun a hF=>e_pg (v:=(iV (goLen e_5))) 17 hF rfl (ex_len Try.underlying28 rfl h7.len) (wanted_t hF rfl rfl rfl hc4) rfl (by kernel_rfl) (by kernel_rfl) (by kernel_rfl) fun a hF=>e_pg (v:=s1.v) 18 hF rfl (ex_move rfl) (wanted_t hF rfl rfl rfl hc4) rfl (by kernel_rfl) (by kernel_rfl) (by kernel_rfl) fun a hF=>?_
     obtain ⟨e_8,he_8,hj1⟩:=bindS hj1
     obtain ⟨vs9,at9,d9⟩:=h1.at he_8 1 rfl
     obtain ⟨s10,rfl,h10⟩ : ∃ s10 : Sl,vs9 = [s10.v]∧Rd m s10 e_8:=d9
     refine e_pg (v:=(elP s1 ((0 : Int).toNat * 1))) 19 hF rfl (ex_indexAddr Try.underlying23 sz28 rfl rfl (h1.idx he_8)) (wanted_t hF rfl rfl rfl hc4) rfl (by kernel_rfl) (by kernel_rfl) (by kernel_rfl) fun a hF=>e_xg (v:=s10.v) 20 hF hS rfl (ex_loadE1 0 Try.underlying28 rfl rfl ((at9).at) rfl rfl) (wanted_t hF rfl rfl rfl hc4) rfl (by kernel_rfl) (by kernel_rfl) (by kernel_rfl) (by kernel_rfl) fun a hF=>e_pg (v:=(iV (goLen e_8))) 21 hF rfl (ex_len Try.underlying28 rfl h10.len) (wanted_t hF rfl rfl rfl hc4) rfl (by kernel_rfl) (by kernel_rfl) (by kernel_rfl) fun a hF=>e_pg (v:=(.bool ((goLen e_5) == (goLen e_8)))) 22 hF rfl (ex_ibin rfl rfl rfl) (wanted_t hF rfl rfl rfl hc4) rfl (by kernel_rfl) (by kernel_rfl) (by kernel_rfl) fun a hF=>e_p (v:=(.bool ((goLen e_5) == (goLen e_8)))) 23 hF rfl (ex_pick_t rfl rfl hc4) rfl rfl (by kernel_rfl) (by kernel_rfl) (by kernel_rfl) fun a hF=>e_p (v:=(.bool ((goLen e_5) == (goLen e_8)))) 24 hF rfl (ex_assign rfl) rfl rfl (by kernel_rfl) (by kernel_rfl) (by kernel_rfl) fun a hF=>e_end (by kernel_rfl) (n_jn ?_) _
     obtain rfl:=someI hj1
     exact ⟨hF.sub ⟨rfl,trivial⟩,hS⟩
 ·rintro a w ⟨hF,hS⟩
  refine n_sq (q_ret ?_)
  obtain rfl:=someI hr
  exact ret_of hF hS rfl (.tmp rfl .nil) rfl

theorem c_spec_vCell (p_x : List (List Int)) (p_p : List (List Int)) (p_i : Int) (p_j : Int) (r : Bool) (hr : spec_vCell p_x p_p p_i p_j = some r) (w0 : World) (m : Mem) (hv : Vis m w0) (s1 : Sl) (h1 : Rd m s1 p_x) (s2 : Sl) (h2 : Rd m s2 p_p) :
  Ret Try.prog 110 [s1.v,s2.v,(iV p_i),(iV p_j)] w0 (fun v _=>v = (.bool r)):=by
 unfold spec_vCell at hr
 refine ret_start Try.func110 rfl 38 rfl rfl m hv fun a hF hS=>q_seq (q_region (q_x (v:=(.bool false)) hF hS (ex_assign rfl) rfl rfl fun a hF=>q_end (n_sq (q_seq ?_))))
 obtain ⟨t_14,hj1,hr⟩:=bindS hr
 refine q_join (fun a w=>Fr a 38 [(8,(.bool t_14))]∧St [] w0 w m []) ?_ ?_
 ·refine q_region (q_x (v:=s1.v) hF hS (ex_move rfl) rfl rfl fun a hF=>q_x (v:=s2.v) hF hS (ex_move rfl) rfl rfl fun a hF=>?_)
  obtain ⟨t_3,ht_3,hj1⟩:=bindS hj1
  refine q_call (vs:=[s1.v,s2.v]) hF hS Try.func98 (by kernel_rfl) rfl rfl rfl (c_spec_qPattern p_x p_p t_3 ht_3 _ m hS.vis s1 h1 s2 h2) ?_
  rintro a w _ rfl hF hS
  refine q_x (v:=(.bool t_3)) hF hS (ex_move rfl) rfl rfl fun a hF=>?_
  rcases bcase (t_3) with hc2 | hc2
  ·have hj1:=cond_f hc2 hj1
   refine q_skip hF (wanted_f hF rfl rfl rfl hc2 rfl) rfl fun a hF=>q_skip hF (wanted_f hF rfl rfl rfl hc2 rfl) rfl fun a hF=>q_skip hF (wanted_f hF rfl rfl rfl hc2 rfl) rfl fun a hF=>q_skip hF (wanted_f hF rfl rfl rfl hc2 rfl) rfl fun a hF=>q_skip hF (wanted_f hF rfl rfl rfl hc2 rfl) rfl fun a hF=>q_x (v:=(.bool false)) hF hS (ex_pick_f rfl rfl hc2) rfl rfl fun a hF=>q_x (v:=(.bool false)) hF hS (ex_move rfl) rfl rfl fun a hF=>q_skip hF (wanted_f hF rfl rfl rfl rfl rfl) rfl fun a hF=>q_skip hF (wanted_f hF rfl rfl rfl rfl rfl) rfl fun a hF=>q_skip hF (wanted_f hF rfl rfl rfl rfl rfl) rfl fun a hF=>q_skip hF (wanted_f hF rfl rfl rfl rfl rfl) rfl fun a hF=>q_skip hF (wanted_f hF rfl rfl rfl rfl rfl) rfl fun a hF=>q_skip hF (wanted_f hF rfl rfl rfl rfl rfl) rfl fun a hF=>q_skip hF (wanted_f hF rfl rfl rfl rfl rfl) rfl fun a hF=>q_x (v:=(.bool false)) hF hS (ex_pick_f rfl rfl rfl) rfl rfl fun a hF=>q_x (v:=(.bool false)) hF hS (ex_move rfl) rfl rfl fun a hF=>q_skip hF (wanted_f hF rfl rfl rfl rfl rfl) rfl fun a hF=>q_skip hF (wanted_f hF rfl rfl rfl rfl rfl) rfl fun a hF=>q_skip hF (wanted_f hF rfl rfl rfl rfl rfl) rfl fun a hF=>q_skip hF (wanted_f hF rfl rfl rfl rfl rfl) rfl fun a hF=>q_skip hF (wanted_f hF rfl rfl rfl rfl rfl) rfl fun a hF=>q_skip hF (wanted_f hF rfl rfl rfl rfl rfl) rfl fun a hF=>q_skip hF (wanted_f hF rfl rfl rfl rfl rfl) rfl fun a hF=>q_skip hF (wanted_f hF rfl rfl rfl rfl rfl) rfl fun a hF=>q_x (v:=(.bool false)) hF hS (ex_pick_f rfl rfl rfl) rfl rfl fun a hF=>?_
   refine q_x (v:=(.bool false)) hF hS (ex_assign rfl) rfl rfl fun a hF=>q_end (n_jn ?_)
   obtain rfl:=someI hj1
   exact ⟨hF.sub ⟨rfl,trivial⟩,hS⟩
  ·have hj1:=cond_t hc2 hj1
   refine q_xg (v:=(iV p_i)) hF hS (ex_move rfl) (wanted_t hF rfl rfl rfl hc2) rfl fun a hF=>q_xg (v:=s1.v) hF hS (ex_move rfl) (wanted_t hF rfl rfl rfl hc2) rfl fun a hF=>q_xg (v:=(iV (goLen p_x))) hF hS (ex_len Try.underlying23 rfl h1.len) (wanted_t hF rfl rfl rfl hc2) rfl fun a hF=>q_xg (v:=(iV (w64 ((goLen p_x) - 1)))) hF hS (ex_ibin rfl rfl rfl) (wanted_t hF rfl rfl rfl hc2) rfl fun a hF=>?_
   obtain ⟨t_4,ht_4,hj1⟩:=bindS hj1
   refine q_callg (vs:=[(iV p_i),(iV 0),(iV (w64 ((goLen p_x) - 1)))]) hF hS (wanted_t hF rfl rfl rfl hc2) Try.func77 (by kernel_rfl) rfl rfl rfl (c_spec_l1In p_i 0 (w64 ((goLen p_x) - 1)) t_4 ht_4 _ m hS.vis) ?_
   rintro a w _ rfl hF hS
   refine q_x (v:=(.bool t_4)) hF hS (ex_pick_t rfl rfl hc2) rfl rfl fun a hF=>q_x (v:=(.bool t_4)) hF hS (ex_move rfl) rfl rfl fun a hF=>?_
   rcases bcase (t_4) with hc3 | hc3
   ·have hj1:=cond_f hc3 hj1
    refine q_skip hF (wanted_f hF rfl rfl rfl hc3 rfl) rfl fun a hF=>q_skip hF (wanted_f hF rfl rfl rfl hc3 rfl) rfl fun a hF=>q_skip hF (wanted_f hF rfl rfl rfl hc3 rfl) rfl fun a hF=>q_skip hF (wanted_f hF rfl rfl rfl hc3 rfl) rfl fun a hF=>q_skip hF (wanted_f hF rfl rfl rfl hc3 rfl) rfl fun a hF=>q_skip hF (wanted_f hF rfl rfl rfl hc3 rfl) rfl fun a hF=>q_skip hF (wanted_f hF rfl rfl rfl hc3 rfl) rfl fun a hF=>q_x (v:=(.bool false)) hF hS (ex_pick_f rfl rfl hc3) rfl rfl fun a hF=>q_x (v:=(.bool false)) hF hS (ex_move rfl) rfl rfl fun a hF=>q_skip hF (wanted_f hF rfl rfl rfl rfl rfl) rfl fun a hF=>q_skip hF (wanted_f hF rfl rfl rfl rfl rfl) rfl fun a hF=>q_skip hF (wanted_f hF rfl rfl rfl rfl rfl) rfl fun a hF=>q_skip hF (wanted_f hF rfl rfl rfl rfl rfl) rfl fun a hF=>q_skip hF (wanted_f hF rfl rfl rfl rfl rfl) rfl fun a hF=>q_skip hF (wanted_f hF rfl rfl rfl rfl rfl) rfl fun a hF=>q_skip hF (wanted_f hF rfl rfl rfl rfl rfl) rfl fun a hF=>q_skip hF (wanted_f hF rfl rfl rfl rfl rfl) rfl fun a hF=>q_x (v:=(.bool false)) hF hS (ex_pick_f rfl rfl rfl) rfl rfl fun a hF=>q_x (v:=(.bool false)) hF hS (ex_assign rfl) rfl rfl fun a hF=>q_end (n_jn ?_)
    obtain rfl:=someI hj1
    exact ⟨hF.sub ⟨rfl,trivial⟩,hS⟩
   ·have hj1:=cond_t hc3 hj1
    refine q_xg (v:=(iV p_j)) hF hS (ex_move rfl) (wanted_t hF rfl rfl rfl hc3) rfl fun a hF=>q_xg (v:=s1.v) hF hS (ex_move rfl) (wanted_t hF rfl rfl rfl hc3) rfl fun a hF=>?_
    obtain ⟨e_5,he_5,hj1⟩:=bindS hj1
    obtain ⟨vs6,at6,d6⟩:=h1.at he_5 1 rfl
    obtain ⟨s7,rfl,h7⟩ : ∃ s7 : Sl,vs6 = [s7.v]∧Rd m s7 e_5:=d6
    refine q_xg (v:=(elP s1 ((0 : Int).toNat * 1))) hF hS (ex_indexAddr Try.underlying23 sz28 rfl rfl (h1.idx he_5)) (wanted_t hF rfl rfl rfl hc3) rfl fun a hF=>q_xg (v:=s7.v) hF hS (ex_loadE1 0 Try.underlying28 rfl rfl ((at6).at) rfl rfl) (wanted_t hF rfl rfl rfl hc3) rfl fun a hF=>q_xg (v:=(iV (goLen e_5))) hF hS (ex_len Try.underlying28 rfl h7.len) (wanted_t hF rfl rfl rfl hc3) rfl fun a hF=>q_xg (v:=(iV (w64 ((goLen e_5) - 1)))) hF hS (ex_ibin rfl rfl rfl) (wanted_t hF rfl rfl rfl hc3) rfl fun a hF=>?_
    obtain ⟨t_8,ht_8,hj1⟩:=bindS hj1
    refine q_callg (vs:=[(iV p_j),(iV 0),(iV (w64 ((goLen e_5) - 1)))]) hF hS (wanted_t hF rfl rfl rfl hc3) Try.func77 (by kernel_rfl) rfl rfl rfl (c_spec_l1In p_j 0 (w64 ((goLen e_5) - 1)) t_8 ht_8 _ m hS.vis) ?_
    rintro a w _ rfl hF hS
    refine q_x (v:=(.bool t_8)) hF hS (ex_pick_t rfl rfl hc3) rfl rfl fun a hF=>q_x (v:=(.bool t_8)) hF hS (ex_move rfl) rfl rfl fun a hF=>?_
    rcases bcase (t_8) with hc4 | hc4
    ·have hj1:=cond_f hc4 hj1
     refine q_skip hF (wanted_f hF rfl rfl rfl hc4 rfl) rfl fun a hF=>q_skip hF (wanted_f hF rfl rfl rfl hc4 rfl) rfl fun a hF=>q_skip hF (wanted_f hF rfl rfl rfl hc4 rfl) rfl fun a hF=>q_skip hF (wanted_f hF rfl rfl rfl hc4 rfl) rfl fun a hF=>q_skip hF (wanted_f hF rfl rfl rfl hc4 rfl) rfl fun a hF=>q_skip hF (wanted_f hF rfl rfl rfl hc4 rfl) rfl fun a hF=>q_skip hF (wanted_f hF rfl rfl rfl hc4 rfl) rfl fun a hF=>q_skip hF (wanted_f hF rfl rfl rfl hc4 rfl) rfl fun a hF=>q_x (v:=(.bool false)) hF hS (ex_pick_f rfl rfl hc4) rfl rfl fun a hF=>q_x (v:=(.bool false)) hF hS (ex_assign rfl) rfl rfl fun a hF=>q_end (n_jn ?_)
     obtain rfl:=someI hj1
     exact ⟨hF.sub ⟨rfl,trivial⟩,hS⟩
    ·have hj1:=cond_t hc4 hj1
     refine q_xg (v:=s2.v) hF hS (ex_move rfl) (wanted_t hF rfl rfl rfl hc4) rfl fun a hF=>q_xg (v:=(iV p_i)) hF hS (ex_move rfl) (wanted_t hF rfl rfl rfl hc4) rfl fun a hF=>?_
     obtain ⟨e_9,he_9,hj1⟩:=bindS hj1
     obtain ⟨vs10,at10,d10⟩:=h2.at he_9 1 rfl
     obtain ⟨s11,rfl,h11⟩ : ∃ s11 : Sl,vs10 = [s11.v]∧Rd m s11 e_9:=d10
     refine q_xg (v:=(elP s2 (p_i.toNat * 1))) hF hS (ex_indexAddr Try.underlying23 sz28 rfl rfl (h2.idx he_9)) (wanted_t hF rfl rfl rfl hc4) rfl fun a hF=>q_xg (v:=s11.v) hF hS (ex_loadE1 0 Try.underlying28 rfl rfl ((at10).at) rfl rfl) (wanted_t hF rfl rfl rfl hc4) rfl fun a hF=>q_xg (v:=(iV p_j)) hF hS (ex_move rfl) (wanted_t hF rfl rfl rfl hc4) rfl fun a hF=>?_
     obtain ⟨e_12,he_12,hj1⟩:=bindS hj1
     obtain ⟨vs13,at13,d13⟩:=h11.at he_12 1 rfl
     obtain rfl : vs13 = [(iV e_12)]:=d13
     refine q_xg (v:=(elP s11 (p_j.toNat * 1))) hF hS (ex_indexAddr Try.underlying28 sz3 rfl rfl (h11.idx he_12)) (wanted_t hF rfl rfl rfl hc4) rfl fun a hF=>q_xg (v:=(iV e_12)) hF hS (ex_loadE1 0 Try.underlying3 rfl rfl ((at13).at) rfl rfl) (wanted_t hF rfl rfl rfl hc4) rfl fun a hF=>q_xg (v:=(.bool (e_12 == 1))) hF hS (ex_ibin rfl rfl rfl) (wanted_t hF rfl rfl rfl hc4) rfl fun a hF=>q_x (v:=(.bool (e_12 == 1))) hF hS (ex_pick_t rfl rfl hc4) rfl rfl fun a hF=>q_x (v:=(.bool (e_12 == 1))) hF hS (ex_assign rfl) rfl rfl fun a hF=>q_end (n_jn ?_)
     obtain rfl:=someI hj1
     exact ⟨hF.sub ⟨rfl,trivial⟩,hS⟩
 ·rintro a w ⟨hF,hS⟩
  refine n_sq (q_ret ?_)
  obtain rfl:=someI hr
  exact ret_of hF hS rfl (.tmp rfl .nil) rfl

theorem c_spec_vLevels (p_down : Int) (p_up : Int) (r : Bool) (hr : spec_vLevels p_down p_up = some r) (w0 : World) (m : Mem) (hv : Vis m w0) :
  Ret Try.prog 111 [(iV p_down),(iV p_up)] w0 (fun v _=>v = (.bool r)):=by
 unfold spec_vLevels at hr
 refine ret_start Try.func111 rfl 11 rfl rfl m hv fun a hF hS=>q_seq (q_region (q_x (v:=(.bool false)) hF hS (ex_assign rfl) rfl rfl fun a hF=>q_end (n_sq (q_seq ?_))))
 obtain ⟨t_3,hj1,hr⟩:=bindS hr
 refine q_join (fun a w=>Fr a 11 [(4,(.bool t_3))]∧St [] w0 w m []) ?_ ?_
 ·refine q_region (q_x (v:=(iV p_down)) hF hS (ex_move rfl) rfl rfl fun a hF=>?_)
  obtain ⟨t_1,ht_1,hj1⟩:=bindS hj1
  refine q_call (vs:=[(iV p_down),(iV 0),(iV 1000)]) hF hS Try.func77 (by kernel_rfl) rfl rfl rfl (c_spec_l1In p_down 0 1000 t_1 ht_1 _ m hS.vis) ?_
  rintro a w _ rfl hF hS
  refine q_x (v:=(.bool t_1)) hF hS (ex_move rfl) rfl rfl fun a hF=>?_
  rcases bcase (t_1) with hc2 | hc2
  ·have hj1:=cond_f hc2 hj1
   refine q_skip hF (wanted_f hF rfl rfl rfl hc2 rfl) rfl fun a hF=>q_skip hF (wanted_f hF rfl rfl rfl hc2 rfl) rfl fun a hF=>q_x (v:=(.bool false)) hF hS (ex_pick_f rfl rfl hc2) rfl rfl fun a hF=>q_x (v:=(.bool false)) hF hS (ex_assign rfl) rfl rfl fun a hF=>q_end (n_jn ?_)
   obtain rfl:=someI hj1
   exact ⟨hF.sub ⟨rfl,trivial⟩,hS⟩
  ·have hj1:=cond_t hc2 hj1
   refine q_xg (v:=(iV p_up)) hF hS (ex_move rfl) (wanted_t hF rfl rfl rfl hc2) rfl fun a hF=>?_
   obtain ⟨t_2,ht_2,hj1⟩:=bindS hj1
   refine q_callg (vs:=[(iV p_up),(iV 0),(iV 1000)]) hF hS (wanted_t hF rfl rfl rfl hc2) Try.func77 (by kernel_rfl) rfl rfl rfl (c_spec_l1In p_up 0 1000 t_2 ht_2 _ m hS.vis) ?_
   rintro a w _ rfl hF hS
   refine q_x (v:=(.bool t_2)) hF hS (ex_pick_t rfl rfl hc2) rfl rfl fun a hF=>q_x (v:=(.bool t_2)) hF hS (ex_assign rfl) rfl rfl fun a hF=>q_end (n_jn ?_)
   obtain rfl:=someI hj1
   exact ⟨hF.sub ⟨rfl,trivial⟩,hS⟩
 ·rintro a w ⟨hF,hS⟩
  refine n_sq (q_ret ?_)
  obtain rfl:=someI hr
  exact ret_of hF hS rfl (.tmp rfl .nil) rfl

theorem c_spec_tSum (p_l : List Int) (r : Int) (hr : spec_tSum p_l = some r) (w0 : World) (m : Mem) (hv : Vis m w0) (s1 : Sl) (h1 : Rd m s1 p_l) :
  Ret Try.prog 83 [s1.v] w0 (fun v _=>v = (iV r)):=by
 unfold spec_tSum at hr
 refine ret_start Try.func83 rfl 17 rfl rfl m hv fun a hF hS=>q_seq (q_region (q_x (v:=(iV 0)) hF hS (ex_assign rfl) rfl rfl fun a hF=>q_end (n_sq (q_seq (q_region (q_x (v:=(iV 0)) hF hS (ex_assign rfl) rfl rfl fun a hF=>q_end (n_sq (q_seq (q_seq (q_region (q_x (v:=s1.v) hF hS (ex_move rfl) rfl rfl fun a hF=>q_x (v:=(iV (goLen p_l))) hF hS (ex_len Try.underlying28 rfl h1.len) rfl rfl fun a hF=>q_x (v:=(iV 0)) hF hS (ex_move rfl) rfl rfl fun a hF=>q_end (n_sq (q_block ?_)))))))))))))
 obtain ⟨sum_6,hl1,hr⟩:=bindS hr
 refine q_loop (fun (s : Int × Int) a w=>∃ sum_2,∃ t_3,s = (sum_2,t_3)∧Fr a 17 [(3,(iV sum_2)),(6,s1.v),(7,(iV (goLen p_l))),(8,(iV t_3))]∧St [] w0 w m []) (fun (sum_6 : Int) e a w=>e = .exit 0∧Fr a 17 [(3,(iV sum_6))]∧St [] w0 w m []) hl1 ⟨_,_,rfl,hF.sub ⟨rfl,rfl,rfl,rfl,trivial⟩,hS⟩ ?_ ?_
 ·clear hF hS
  rintro s a w st ⟨sum_2,t_3,rfl,hF,hS⟩ hb1
  unfold spec_tSum_l1 at hb1
  refine q_seq (q_region (q_x (v:=(.bool (decide (t_3 < (goLen p_l))))) hF hS (ex_ibin rfl rfl rfl) rfl rfl fun a hF=>q_end (n_sq (q_seq ?_))))
  rcases bcase (decide (t_3 < (goLen p_l))) with hc2 | hc2
  ·have hb1:=cond_f hc2 hb1
   refine q_cond_f hF rfl hc2 (q_exit (x_sq ?_))
   obtain rfl:=someI hb1
   exact ⟨nofun,.inl ⟨rfl,hF.sub ⟨rfl,trivial⟩,hS⟩⟩
  ·have hb1:=cond_t hc2 hb1
   refine q_cond_t hF rfl hc2 (q_skipc (n_sq (q_seq (q_block (q_seq (q_region ?_))))))
   obtain ⟨e_4,he_4,hb1⟩:=bindS hb1
   obtain ⟨vs5,at5,d5⟩:=h1.at he_4 1 rfl
   obtain rfl : vs5 = [(iV e_4)]:=d5
   refine q_x (v:=(elP s1 (t_3.toNat * 1))) hF hS (ex_indexAddr Try.underlying28 sz3 rfl rfl (h1.idx he_4)) rfl rfl fun a hF=>q_x (v:=(iV e_4)) hF hS (ex_loadE1 0 Try.underlying3 rfl rfl ((at5).at) rfl rfl) rfl rfl fun a hF=>q_x (v:=(iV e_4)) hF hS (ex_assign rfl) rfl rfl fun a hF=>q_end (n_sq (q_region (q_x (v:=(iV sum_2)) hF hS (ex_move rfl) rfl rfl fun a hF=>q_x (v:=(iV e_4)) hF hS (ex_move rfl) rfl rfl fun a hF=>q_x (v:=(iV (w64 (sum_2 + e_4)))) hF hS (ex_ibin rfl rfl rfl) rfl rfl fun a hF=>q_x (v:=(iV (w64 (sum_2 + e_4)))) hF hS (ex_assign rfl) rfl rfl fun a hF=>q_end (n_ib (n_sq (q_region (q_x (v:=(iV (w64 (t_3 + 1)))) hF hS (ex_ibin rfl rfl rfl) rfl rfl fun a hF=>q_x (v:=(iV (w64 (t_3 + 1)))) hF hS (ex_move rfl) rfl rfl fun a hF=>q_end ?_)))))))
   obtain rfl:=someI hb1
   exact ⟨rfl,_,_,rfl,hF.sub ⟨rfl,rfl,rfl,rfl,trivial⟩,hS⟩
 ·rintro e a w ⟨rfl,hF,hS⟩
  refine x_ib (n_sq ?_)
  refine q_seq (q_region (q_x (v:=(iV sum_6)) hF hS (ex_move rfl) rfl rfl fun a hF=>q_x (v:=(iV sum_6)) hF hS (ex_assign rfl) rfl rfl fun a hF=>q_end (n_sq (q_ret ?_))))
  obtain rfl:=someI hr
  exact ret_of hF hS rfl (.tmp rfl .nil) rfl

theorem c_spec_tColumn (p_x : List (List Int)) (p_j : Int) (r : (List Int)) (hr : spec_tColumn p_x p_j = some r) (w0 : World) (m : Mem) (hv : Vis m w0) (s1 : Sl) (h1 : Rd m s1 p_x) :
  Ret Try.prog 162 [s1.v,(iV p_j)] w0 (fun v w=>∃ (q0' : Piece) (s0' : Sl),v = s0'.v∧St [] w0 w m [q0']∧OwnL m 3 q0' s0' r):=by
 unfold spec_tColumn at hr
 refine ret_start Try.func162 rfl 23 rfl rfl m hv fun a hF hS=>q_seq (q_region (q_x (v:=nilS.v) hF hS (ex_assign rfl) rfl rfl fun a hF=>q_end (n_sq (q_seq (q_region (q_x (v:=nilS.v) hF hS (ex_assign rfl) rfl rfl fun a hF=>q_end (n_sq (q_seq (q_seq (q_region (q_x (v:=s1.v) hF hS (ex_move rfl) rfl rfl fun a hF=>q_x (v:=(iV (goLen p_x))) hF hS (ex_len Try.underlying23 rfl h1.len) rfl rfl fun a hF=>q_x (v:=(iV 0)) hF hS (ex_move rfl) rfl rfl fun a hF=>q_end (n_sq (q_block ?_)))))))))))))
 obtain ⟨out_13,hl1,hr⟩:=bindS hr
 refine q_loop (fun (s : (List Int) × Int) a w=>∃ (q3 : Piece),∃ (s3 : Sl),∃ out_2,∃ t_4,s = (out_2,t_4)∧Fr a 23 [(1,(iV p_j)),(5,s3.v),(8,s1.v),(9,(iV (goLen p_x))),(10,(iV t_4))]∧St [] w0 w m [q3]∧OwnL m 3 q3 s3 out_2) (fun (out_13 : (List Int)) e a w=>∃ (q14 : Piece),∃ (s14 : Sl),e = .exit 0∧Fr a 23 [(5,s14.v)]∧St [] w0 w m [q14]∧OwnL m 3 q14 s14 out_13) hl1 ⟨[],nilS,_,_,rfl,hF.sub ⟨rfl,rfl,rfl,rfl,rfl,trivial⟩,hS.sel [0] (by decide),(OwnL.nil (α:=Int) m 3)⟩ ?_ ?_
 ·clear hF hS
  rintro s a w st ⟨q3,s3,out_2,t_4,rfl,hF,hS,h3⟩ hb1
  unfold spec_tColumn_l1 at hb1
  refine q_seq (q_region (q_x (v:=(.bool (decide (t_4 < (goLen p_x))))) hF hS (ex_ibin rfl rfl rfl) rfl rfl fun a hF=>q_end (n_sq (q_seq ?_))))
  rcases bcase (decide (t_4 < (goLen p_x))) with hc2 | hc2
  ·have hb1:=cond_f hc2 hb1
   refine q_cond_f hF rfl hc2 (q_exit (x_sq ?_))
   obtain rfl:=someI hb1
   exact ⟨nofun,.inl ⟨q3,s3,rfl,hF.sub ⟨rfl,trivial⟩,hS,h3⟩⟩
  ·have hb1:=cond_t hc2 hb1
   refine q_cond_t hF rfl hc2 (q_skipc (n_sq (q_seq (q_block (q_seq (q_region ?_))))))
   obtain ⟨e_5,he_5,hb1⟩:=bindS hb1
   obtain ⟨vs6,at6,d6⟩:=h1.at he_5 1 rfl
   obtain ⟨s7,rfl,h7⟩ : ∃ s7 : Sl,vs6 = [s7.v]∧Rd m s7 e_5:=d6
   refine q_x (v:=(elP s1 (t_4.toNat * 1))) hF hS (ex_indexAddr Try.underlying23 sz28 rfl rfl (h1.idx he_5)) rfl rfl fun a hF=>q_x (v:=s7.v) hF hS (ex_loadE1 0 Try.underlying28 rfl rfl ((at6).at) rfl rfl) rfl rfl fun a hF=>q_x (v:=s7.v) hF hS (ex_assign rfl) rfl rfl fun a hF=>q_end (n_sq (q_region (q_x (v:=s3.v) hF hS (ex_move rfl) rfl rfl fun a hF=>q_x (v:=s7.v) hF hS (ex_move rfl) rfl rfl fun a hF=>q_x (v:=(iV p_j)) hF hS (ex_move rfl) rfl rfl fun a hF=>?_)))
   obtain ⟨e_8,he_8,hb1⟩:=bindS hb1
   obtain ⟨vs9,at9,d9⟩:=h7.at he_8 1 rfl
   obtain rfl : vs9 = [(iV e_8)]:=d9
   refine q_x (v:=(elP s7 (p_j.toNat * 1))) hF hS (ex_indexAddr Try.underlying28 sz3 rfl rfl (h7.idx he_8)) rfl rfl fun a hF=>q_x (v:=(iV e_8)) hF hS (ex_loadE1 0 Try.underlying3 rfl rfl ((at9).at) rfl rfl) rfl rfl fun a hF=>q_do rfl fun _ hK=>wp_buildSlice' (l:=([e_8] : List Int)) (cells:=[(iV e_8)]) hF hS Try.underlying28 inf3 rfl rfl (by kernel_rfl) rfl rfl rfl ⟨rfl,rfl⟩ rfl rfl fun a w q10 s10 hF hS h10 _=>hK _ _ ?_
   have hS : St _ _ _ _ [q3,q10]:=hS.sel [1,0] (by decide)
   obtain ⟨l_11,hl_11,hb1⟩:=bindS hb1
   refine q_do rfl fun _ hK=>wp_append hF hS h3 Try.underlying28 inf3 rfl rfl rfl rfl (h10.vw hS (j:=1) rfl) rfl (by decide) hl_11 rfl fun a w q12 s12 hF hS h12=>hK _ _ (q_x (v:=s12.v) hF hS (ex_assign rfl) rfl rfl fun a hF=>q_end (n_ib (n_sq (q_region (q_x (v:=(iV (w64 (t_4 + 1)))) hF hS (ex_ibin rfl rfl rfl) rfl rfl fun a hF=>q_x (v:=(iV (w64 (t_4 + 1)))) hF hS (ex_move rfl) rfl rfl fun a hF=>q_end ?_)))))
   obtain rfl:=someI hb1
   exact ⟨rfl,q12,s12,_,_,rfl,hF.sub ⟨rfl,rfl,rfl,rfl,rfl,trivial⟩,hS.mask [true,false],h12⟩
 ·rintro e a w ⟨q14,s14,rfl,hF,hS,h14⟩
  refine x_ib (n_sq ?_)
  refine q_seq (q_region (q_x (v:=s14.v) hF hS (ex_move rfl) rfl rfl fun a hF=>q_x (v:=s14.v) hF hS (ex_assign rfl) rfl rfl fun a hF=>q_end (n_sq (q_ret ?_))))
  obtain rfl:=someI hr
  exact ret_of hF hS rfl (.tmp rfl .nil) ⟨q14,s14,rfl,hS.sel [0] (by decide),h14⟩

theorem c_spec_qNetwork (p_x : List (List Int)) (p_p : List (List Int)) (r : impl_Transport) (hr : spec_qNetwork p_x p_p = some r) (w0 : World) (m : Mem) (hv : Vis m w0) (s1 : Sl) (h1 : Rd m s1 p_x) (s2 : Sl) (h2 : Rd m s2 p_p) :
  Ret Try.prog 118 [s1.v,s2.v] w0 (fun v w=>∃ (m' : Mem) (q0' : Piece) (q1' : Piece) (q2' : Piece) (q3' : Piece) (s0' : Sl) (s1' : Sl) (s2' : Sl) (s3' : Sl),v = (.agg #[s0'.v,s1'.v,s2'.v,s3'.v])∧MLe [] w0.heap.size m m'∧St [] w0 w m' [q0',q1',q2',q3']∧OwnL m' 3 q0' s0' r.Rows∧OwnL m' 3 q1' s1' r.Cols∧OwnL m' 28 q2' s2' r.Lo∧OwnL m' 28 q3' s3' r.Hi):=by
 unfold spec_qNetwork at hr
 refine ret_start Try.func118 rfl 89 rfl rfl m hv fun a hF hS=>q_seq (q_region (q_alloc (cs:=[nilS.v,nilS.v,nilS.v,nilS.v]) hF hS rfl rfl rfl fun a w b3 hF hS=>q_end (n_sq (q_seq (q_region (q_x (v:=(.agg #[nilS.v,nilS.v,nilS.v,nilS.v])) hF hS (ex_build (cells:=[nilS.v,nilS.v,nilS.v,nilS.v]) rfl (by kernel_rfl)) rfl rfl fun a hF=>q_alloc (cs:=[nilS.v,nilS.v,nilS.v,nilS.v]) hF hS rfl rfl rfl fun a w b4 hF hS=>q_store (vs:=[nilS.v,nilS.v,nilS.v,nilS.v]) (cs':=[nilS.v,nilS.v,nilS.v,nilS.v]) 0 0 hF hS sz50 rfl rfl rfl rfl rfl rfl rfl rfl fun a w hF hS=>q_end (n_sq (q_seq (q_seq (q_region (q_x (v:=s1.v) hF hS (ex_move rfl) rfl rfl fun a hF=>q_x (v:=(iV (goLen p_x))) hF hS (ex_len Try.underlying23 rfl h1.len) rfl rfl fun a hF=>q_x (v:=(iV 0)) hF hS (ex_move rfl) rfl rfl fun a hF=>q_end (n_sq (q_block ?_)))))))))))))
 obtain ⟨t_58,hl1,hr⟩:=bindS hr
 refine q_loop (fun (s : Int × impl_Transport) a w=>∃ (m10 : Mem),∃ (q7 : Piece),∃ (s7 : Sl),∃ (q8 : Piece),∃ (s8 : Sl),∃ (q9 : Piece),∃ (s9 : Sl),∃ t_5,∃ t_6,s = (t_5,t_6)∧Fr a 89 [(0,s1.v),(1,s2.v),(4,(.pointer (some ⟨b3,0,none⟩))),(5,(.pointer (some ⟨b4,0,none⟩))),(14,s1.v),(15,(iV (goLen p_x))),(16,(iV t_5))]∧St [] w0 w m10 [q7,q8,q9,[⟨b4,[s7.v,nilS.v,s8.v,s9.v],50⟩],[⟨b3,[nilS.v,nilS.v,nilS.v,nilS.v],50⟩]]∧MLe [] w0.heap.size m m10∧OwnL m10 3 q7 s7 t_6.Rows∧OwnL m10 28 q8 s8 t_6.Lo∧OwnL m10 28 q9 s9 t_6.Hi) (fun (t_58 : impl_Transport) e a w=>∃ (m62 : Mem),∃ (q59 : Piece),∃ (s59 : Sl),∃ (q60 : Piece),∃ (s60 : Sl),∃ (q61 : Piece),∃ (s61 : Sl),e = .exit 0∧Fr a 89 [(0,s1.v),(4,(.pointer (some ⟨b3,0,none⟩))),(5,(.pointer (some ⟨b4,0,none⟩)))]∧St [] w0 w m62 [q59,q60,q61,[⟨b4,[s59.v,nilS.v,s60.v,s61.v],50⟩],[⟨b3,[nilS.v,nilS.v,nilS.v,nilS.v],50⟩]]∧MLe [] w0.heap.size m m62∧OwnL m62 3 q59 s59 t_58.Rows∧OwnL m62 28 q60 s60 t_58.Lo∧OwnL m62 28 q61 s61 t_58.Hi) hl1 ⟨m,[],nilS,[],nilS,[],nilS,_,_,rfl,hF.sub ⟨rfl,rfl,rfl,rfl,rfl,rfl,rfl,trivial⟩,hS.sel [2,3,4,0,1] (by decide),(MLe.refl _ _),(OwnL.nil (α:=Int) m 3),(OwnL.nil (α:=List Int) m 28),(OwnL.nil (α:=List Int) m 28)⟩ ?_ ?_
 ·clear hF hS
  rintro s a w st ⟨m10,q7,s7,q8,s8,q9,s9,t_5,t_6,rfl,hF,hS,hm10,h7,h8,h9⟩ hb1
  unfold spec_qNetwork_l1 at hb1
  refine q_seq (q_region (q_x (v:=(.bool (decide (t_5 < (goLen p_x))))) hF hS (ex_ibin rfl rfl rfl) rfl rfl fun a hF=>q_end (n_sq (q_seq ?_))))
  rcases bcase (decide (t_5 < (goLen p_x))) with hc2 | hc2
  ·have hb1:=cond_f hc2 hb1
   refine q_cond_f hF rfl hc2 (q_exit (x_sq ?_))
   obtain rfl:=someI hb1
   exact ⟨nofun,.inl ⟨m10,q7,s7,q8,s8,q9,s9,rfl,hF.sub ⟨rfl,rfl,rfl,trivial⟩,hS,hm10,h7,h8,h9⟩⟩
  ·have hb1:=cond_t hc2 hb1
   refine q_cond_t hF rfl hc2 (q_skipc (n_sq (q_seq (q_block (q_seq (q_region (q_x (v:=(iV t_5)) hF hS (ex_move rfl) rfl rfl fun a hF=>?_)))))))
   obtain ⟨e_11,he_11,hb1⟩:=bindS hb1
   obtain ⟨vs12,at12,d12⟩:=h1.at he_11 1 rfl
   obtain ⟨s13,rfl,h13⟩ : ∃ s13 : Sl,vs12 = [s13.v]∧Rd m s13 e_11:=d12
   refine q_x (v:=(elP s1 (t_5.toNat * 1))) hF hS (ex_indexAddr Try.underlying23 sz28 rfl rfl ((h1.mono hm10.le).idx he_11)) rfl rfl fun a hF=>q_x (v:=s13.v) hF hS (ex_loadE1 0 Try.underlying28 rfl rfl (((at12.mono hm10.le)).at) rfl rfl) rfl rfl fun a hF=>q_x (v:=(iV t_5)) hF hS (ex_assign rfl) rfl rfl fun a hF=>q_x (v:=s13.v) hF hS (ex_assign rfl) rfl rfl fun a hF=>q_end (n_sq (q_seq (e_region ⟨[5,7],[],m10⟩ mixed fun w' hw'=>?_)))
   have hS:=hS.below hw'
   refine e_p (v:=(.pointer (some ⟨b4,0,none⟩))) 0 hF rfl (ex_fieldAddr Try.underlying50 rfl sz28 rfl rfl) rfl rfl (by kernel_rfl) (by kernel_rfl) (by kernel_rfl) fun a hF=>e_x (v:=s7.v) 1 hF hS rfl (ex_load1 3 0 Try.underlying28 rfl rfl rfl rfl) rfl rfl (by kernel_rfl) (by kernel_rfl) (by kernel_rfl) (by kernel_rfl) fun a hF=>e_p (v:=s13.v) 2 hF rfl (ex_move rfl) rfl rfl (by kernel_rfl) (by kernel_rfl) (by kernel_rfl) fun a hF=>e_one 3 (by kernel_rfl) ?_
   obtain ⟨t_14,ht_14,hb1⟩:=bindS hb1
   refine e_call (vs:=[s13.v]) hF hS rfl Try.func83 (by kernel_rfl) rfl rfl rfl (c_spec_tSum e_11 t_14 ht_14 _ m10 hS.vis s13 (h13.mono hm10.le)) ?_
   rintro a w _ rfl hF hS
   refine e_one 4 (by kernel_rfl) (e_op rfl rfl fun _ hK=>wp_buildSlice' (l:=([t_14] : List Int)) (cells:=[(iV t_14)]) hF hS Try.underlying28 inf3 rfl rfl (by kernel_rfl) rfl rfl rfl ⟨rfl,rfl⟩ rfl rfl fun a w q15 s15 hF hS h15 hb=>hK _ _ hb (e_one 5 (by kernel_rfl) ?_))
   have hS : St _ _ _ _ [q7,q15,q8,q9,[⟨b4,[s7.v,nilS.v,s8.v,s9.v],50⟩],[⟨b3,[nilS.v,nilS.v,nilS.v,nilS.v],50⟩]]:=hS.sel [1,0,2,3,4,5] (by decide)
   obtain ⟨l_16,hl_16,hb1⟩:=bindS hb1
   refine e_opl rfl rfl rfl fun _ hK=>wp_append hF hS h7 Try.underlying28 inf3 rfl rfl rfl rfl (h15.vw hS (j:=1) rfl) rfl (by decide) hl_16 rfl fun a w q17 s17 hF hS h17=>hK _ _ (⟨⟨kpN,fun _=>hS.vis.of_le (Mem.le.refl _)⟩,?_⟩)
   refine e_p (v:=(.pointer (some ⟨b4,0,none⟩))) 6 hF rfl (ex_fieldAddr Try.underlying50 rfl sz28 rfl rfl) rfl rfl (by kernel_rfl) (by kernel_rfl) (by kernel_rfl) fun a hF=>e_one 7 (by kernel_rfl) (e_store (vs:=[s17.v]) (cs':=[s17.v,nilS.v,s8.v,s9.v]) 4 0 hF hS rfl rfl sz28 rfl rfl rfl rfl rfl rfl rfl rfl fun a w hF hS=>⟨⟨kpN,fun _=>hS.vis.of_le (Mem.le.refl _)⟩,?_⟩)
   refine e_end (by kernel_rfl) (n_sq ?_) _
   refine q_seq (q_region (q_x (v:=nilS.v) hF hS (ex_assign rfl) rfl rfl fun a hF=>q_x (v:=nilS.v) hF hS (ex_assign rfl) rfl rfl fun a hF=>q_end (n_sq (q_seq (q_seq (q_region (q_x (v:=s13.v) hF hS (ex_move rfl) rfl rfl fun a hF=>q_x (v:=(iV (goLen e_11))) hF hS (ex_len Try.underlying28 rfl (h13.mono hm10.le).len) rfl rfl fun a hF=>q_x (v:=(iV 0)) hF hS (ex_move rfl) rfl rfl fun a hF=>q_end (n_sq (q_block ?_)))))))))
   obtain ⟨o3,hl3,hb1⟩:=bindS hb1
   refine q_loop (fun (s : (List Int) × (List Int) × Int) a w=>∃ (q19 : Piece),∃ (s19 : Sl),∃ (q21 : Piece),∃ (s21 : Sl),∃ lo_18,∃ hi_20,∃ t_22,s = (lo_18,hi_20,t_22)∧Fr a 89 [(0,s1.v),(1,s2.v),(4,(.pointer (some ⟨b3,0,none⟩))),(5,(.pointer (some ⟨b4,0,none⟩))),(6,(iV t_5)),(8,s19.v),(9,s21.v),(14,s1.v),(15,(iV (goLen p_x))),(16,(iV t_5)),(28,s13.v),(29,(iV (goLen e_11))),(30,(iV t_22))]∧St [] w0 w m10 [q19,q21,q17,q8,q9,[⟨b4,[s17.v,nilS.v,s8.v,s9.v],50⟩],[⟨b3,[nilS.v,nilS.v,nilS.v,nilS.v],50⟩]]∧OwnL m10 3 q19 s19 lo_18∧OwnL m10 3 q21 s21 hi_20) (fun (o : (List Int) × (List Int)) e a w=>∃ (q47 : Piece),∃ (s47 : Sl),∃ (q49 : Piece),∃ (s49 : Sl),∃ lo_46,∃ hi_48,o = (lo_46,hi_48)∧e = .exit 2∧Fr a 89 [(0,s1.v),(1,s2.v),(4,(.pointer (some ⟨b3,0,none⟩))),(5,(.pointer (some ⟨b4,0,none⟩))),(8,s47.v),(9,s49.v),(14,s1.v),(15,(iV (goLen p_x))),(16,(iV t_5))]∧St [] w0 w m10 [q47,q49,q17,q8,q9,[⟨b4,[s17.v,nilS.v,s8.v,s9.v],50⟩],[⟨b3,[nilS.v,nilS.v,nilS.v,nilS.v],50⟩]]∧OwnL m10 3 q47 s47 lo_46∧OwnL m10 3 q49 s49 hi_48) hl3 ⟨[],nilS,[],nilS,_,_,_,rfl,hF.sub ⟨rfl,rfl,rfl,rfl,rfl,rfl,rfl,rfl,rfl,rfl,rfl,rfl,rfl,trivial⟩,hS.sel [6,7,0,2,3,4,5] (by decide),(OwnL.nil (α:=Int) m10 3),(OwnL.nil (α:=Int) m10 3)⟩ ?_ ?_
   ·clear hF hS
    rintro s a w st ⟨q19,s19,q21,s21,lo_18,hi_20,t_22,rfl,hF,hS,h19,h21⟩ hb3
    unfold spec_qNetwork_l2 at hb3
    refine q_seq (q_region (q_x (v:=(.bool (decide (t_22 < (goLen e_11))))) hF hS (ex_ibin rfl rfl rfl) rfl rfl fun a hF=>q_end (n_sq (q_seq ?_))))
    rcases bcase (decide (t_22 < (goLen e_11))) with hc4 | hc4
    ·have hb3:=cond_f hc4 hb3
     refine q_cond_f hF rfl hc4 (q_exit (x_sq ?_))
     obtain rfl:=someI hb3
     exact ⟨nofun,.inl ⟨q19,s19,q21,s21,_,_,rfl,rfl,hF.sub ⟨rfl,rfl,rfl,rfl,rfl,rfl,rfl,rfl,rfl,trivial⟩,hS,h19,h21⟩⟩
    ·have hb3:=cond_t hc4 hb3
     refine q_cond_t hF rfl hc4 (q_skipc (n_sq (q_seq (q_block (q_seq (q_region (q_x (v:=(iV t_22)) hF hS (ex_move rfl) rfl rfl fun a hF=>?_)))))))
     obtain ⟨e_23,he_23,hb3⟩:=bindS hb3
     obtain ⟨vs24,at24,d24⟩:=h13.at he_23 1 rfl
     obtain rfl : vs24 = [(iV e_23)]:=d24
     refine q_x (v:=(elP s13 (t_22.toNat * 1))) hF hS (ex_indexAddr Try.underlying28 sz3 rfl rfl ((h13.mono hm10.le).idx he_23)) rfl rfl fun a hF=>q_x (v:=(iV e_23)) hF hS (ex_loadE1 0 Try.underlying3 rfl rfl (((at24.mono hm10.le)).at) rfl rfl) rfl rfl fun a hF=>q_x (v:=(iV t_22)) hF hS (ex_assign rfl) rfl rfl fun a hF=>q_x (v:=(iV e_23)) hF hS (ex_assign rfl) rfl rfl fun a hF=>q_end (n_sq (q_seq (q_region (q_x (v:=s2.v) hF hS (ex_move rfl) rfl rfl fun a hF=>q_x (v:=(iV t_5)) hF hS (ex_move rfl) rfl rfl fun a hF=>?_))))
     obtain ⟨e_25,he_25,hb3⟩:=bindS hb3
     obtain ⟨vs26,at26,d26⟩:=h2.at he_25 1 rfl
     obtain ⟨s27,rfl,h27⟩ : ∃ s27 : Sl,vs26 = [s27.v]∧Rd m s27 e_25:=d26
     refine q_x (v:=(elP s2 (t_5.toNat * 1))) hF hS (ex_indexAddr Try.underlying23 sz28 rfl rfl ((h2.mono hm10.le).idx he_25)) rfl rfl fun a hF=>q_x (v:=s27.v) hF hS (ex_loadE1 0 Try.underlying28 rfl rfl (((at26.mono hm10.le)).at) rfl rfl) rfl rfl fun a hF=>q_x (v:=(iV t_22)) hF hS (ex_move rfl) rfl rfl fun a hF=>?_
     obtain ⟨e_28,he_28,hb3⟩:=bindS hb3
     obtain ⟨vs29,at29,d29⟩:=h27.at he_28 1 rfl
     obtain rfl : vs29 = [(iV e_28)]:=d29
     refine q_x (v:=(elP s27 (t_22.toNat * 1))) hF hS (ex_indexAddr Try.underlying28 sz3 rfl rfl ((h27.mono hm10.le).idx he_28)) rfl rfl fun a hF=>q_x (v:=(iV e_28)) hF hS (ex_loadE1 0 Try.underlying3 rfl rfl (((at29.mono hm10.le)).at) rfl rfl) rfl rfl fun a hF=>q_x (v:=(.bool (e_28 == 1))) hF hS (ex_ibin rfl rfl rfl) rfl rfl fun a hF=>q_end (n_sq ?_)
     obtain ⟨j5,hj5,hb3⟩:=bindS hb3
     refine q_join (fun a w=>∃ (q43 : Piece),∃ (s43 : Sl),∃ (q45 : Piece),∃ (s45 : Sl),∃ lo_42,∃ hi_44,j5 = (lo_42,hi_44)∧Fr a 89 [(0,s1.v),(1,s2.v),(4,(.pointer (some ⟨b3,0,none⟩))),(5,(.pointer (some ⟨b4,0,none⟩))),(6,(iV t_5)),(8,s43.v),(9,s45.v),(14,s1.v),(15,(iV (goLen p_x))),(16,(iV t_5)),(28,s13.v),(29,(iV (goLen e_11))),(30,(iV t_22))]∧St [] w0 w m10 [q43,q45,q17,q8,q9,[⟨b4,[s17.v,nilS.v,s8.v,s9.v],50⟩],[⟨b3,[nilS.v,nilS.v,nilS.v,nilS.v],50⟩]]∧OwnL m10 3 q43 s43 lo_42∧OwnL m10 3 q45 s45 hi_44) ?_ ?_
     ·rcases bcase (e_28 == 1) with hc6 | hc6
      ·have hj5:=cond_f hc6 hj5
       refine q_cond_f hF rfl hc6 (q_seq (q_region (q_x (v:=s19.v) hF hS (ex_move rfl) rfl rfl fun a hF=>q_x (v:=(iV e_23)) hF hS (ex_move rfl) rfl rfl fun a hF=>q_do rfl fun _ hK=>wp_buildSlice' (l:=([e_23] : List Int)) (cells:=[(iV e_23)]) hF hS Try.underlying28 inf3 rfl rfl (by kernel_rfl) rfl rfl rfl ⟨rfl,rfl⟩ rfl rfl fun a w q30 s30 hF hS h30 _=>hK _ _ ?_)))
       have hS : St _ _ _ _ [q19,q30,q21,q17,q8,q9,[⟨b4,[s17.v,nilS.v,s8.v,s9.v],50⟩],[⟨b3,[nilS.v,nilS.v,nilS.v,nilS.v],50⟩]]:=hS.sel [1,0,2,3,4,5,6,7] (by decide)
       obtain ⟨l_31,hl_31,hj5⟩:=bindS hj5
       refine q_do rfl fun _ hK=>wp_append hF hS h19 Try.underlying28 inf3 rfl rfl rfl rfl (h30.vw hS (j:=1) rfl) rfl (by decide) hl_31 rfl fun a w q32 s32 hF hS h32=>hK _ _ (q_x (v:=s32.v) hF hS (ex_assign rfl) rfl rfl fun a hF=>q_end (n_sq (q_region (q_x (v:=s21.v) hF hS (ex_move rfl) rfl rfl fun a hF=>q_x (v:=(iV e_23)) hF hS (ex_move rfl) rfl rfl fun a hF=>q_do rfl fun _ hK=>wp_buildSlice' (l:=([e_23] : List Int)) (cells:=[(iV e_23)]) hF hS Try.underlying28 inf3 rfl rfl (by kernel_rfl) rfl rfl rfl ⟨rfl,rfl⟩ rfl rfl fun a w q33 s33 hF hS h33 _=>hK _ _ ?_))))
       have hS : St _ _ _ _ [q21,q33,q32,q30,q17,q8,q9,[⟨b4,[s17.v,nilS.v,s8.v,s9.v],50⟩],[⟨b3,[nilS.v,nilS.v,nilS.v,nilS.v],50⟩]]:=hS.sel [3,0,1,2,4,5,6,7,8] (by decide)
       obtain ⟨l_34,hl_34,hj5⟩:=bindS hj5
       refine q_do rfl fun _ hK=>wp_append hF hS h21 Try.underlying28 inf3 rfl rfl rfl rfl (h33.vw hS (j:=1) rfl) rfl (by decide) hl_34 rfl fun a w q35 s35 hF hS h35=>hK _ _ (q_x (v:=s35.v) hF hS (ex_assign rfl) rfl rfl fun a hF=>q_end (n_jn ?_))
       obtain rfl:=someI hj5
       exact ⟨q32,s32,q35,s35,_,_,rfl,hF.sub ⟨rfl,rfl,rfl,rfl,rfl,rfl,rfl,rfl,rfl,rfl,rfl,rfl,rfl,trivial⟩,hS.sel [2,0,4,5,6,7,8] (by decide),h32,h35⟩
      ·have hj5:=cond_t hc6 hj5
       refine q_cond_t hF rfl hc6 (q_seq (q_region (q_x (v:=s19.v) hF hS (ex_move rfl) rfl rfl fun a hF=>q_do rfl fun _ hK=>wp_buildSlice' (l:=([0] : List Int)) (cells:=[(iV 0)]) hF hS Try.underlying28 inf3 rfl rfl (by kernel_rfl) rfl rfl rfl ⟨rfl,rfl⟩ rfl rfl fun a w q36 s36 hF hS h36 _=>hK _ _ ?_)))
       have hS : St _ _ _ _ [q19,q36,q21,q17,q8,q9,[⟨b4,[s17.v,nilS.v,s8.v,s9.v],50⟩],[⟨b3,[nilS.v,nilS.v,nilS.v,nilS.v],50⟩]]:=hS.sel [1,0,2,3,4,5,6,7] (by decide)
       obtain ⟨l_37,hl_37,hj5⟩:=bindS hj5
       refine q_do rfl fun _ hK=>wp_append hF hS h19 Try.underlying28 inf3 rfl rfl rfl rfl (h36.vw hS (j:=1) rfl) rfl (by decide) hl_37 rfl fun a w q38 s38 hF hS h38=>hK _ _ (q_x (v:=s38.v) hF hS (ex_assign rfl) rfl rfl fun a hF=>q_end (n_sq (q_region (q_x (v:=s21.v) hF hS (ex_move rfl) rfl rfl fun a hF=>q_do rfl fun _ hK=>wp_buildSlice' (l:=([100000] : List Int)) (cells:=[(iV 100000)]) hF hS Try.underlying28 inf3 rfl rfl (by kernel_rfl) rfl rfl rfl ⟨rfl,rfl⟩ rfl rfl fun a w q39 s39 hF hS h39 _=>hK _ _ ?_))))
       have hS : St _ _ _ _ [q21,q39,q38,q36,q17,q8,q9,[⟨b4,[s17.v,nilS.v,s8.v,s9.v],50⟩],[⟨b3,[nilS.v,nilS.v,nilS.v,nilS.v],50⟩]]:=hS.sel [3,0,1,2,4,5,6,7,8] (by decide)
       obtain ⟨l_40,hl_40,hj5⟩:=bindS hj5
       refine q_do rfl fun _ hK=>wp_append hF hS h21 Try.underlying28 inf3 rfl rfl rfl rfl (h39.vw hS (j:=1) rfl) rfl (by decide) hl_40 rfl fun a w q41 s41 hF hS h41=>hK _ _ (q_x (v:=s41.v) hF hS (ex_assign rfl) rfl rfl fun a hF=>q_end (n_jn ?_))
       obtain rfl:=someI hj5
       exact ⟨q38,s38,q41,s41,_,_,rfl,hF.sub ⟨rfl,rfl,rfl,rfl,rfl,rfl,rfl,rfl,rfl,rfl,rfl,rfl,rfl,trivial⟩,hS.sel [2,0,4,5,6,7,8] (by decide),h38,h41⟩
     ·rintro a w ⟨q43,s43,q45,s45,lo_42,hi_44,rfl,hF,hS,h43,h45⟩
      refine n_ib (n_sq ?_)
      refine q_region (q_x (v:=(iV (w64 (t_22 + 1)))) hF hS (ex_ibin rfl rfl rfl) rfl rfl fun a hF=>q_x (v:=(iV (w64 (t_22 + 1)))) hF hS (ex_move rfl) rfl rfl fun a hF=>q_end ?_)
      obtain rfl:=someI hb3
      exact ⟨rfl,q43,s43,q45,s45,_,_,_,rfl,hF.sub ⟨rfl,rfl,rfl,rfl,rfl,rfl,rfl,rfl,rfl,rfl,rfl,rfl,rfl,trivial⟩,hS,h43,h45⟩
   ·rintro e a w ⟨q47,s47,q49,s49,lo_46,hi_48,rfl,rfl,hF,hS,h47,h49⟩
    refine x_ib (n_sq ?_)
    refine q_seq (q_region (q_x (v:=(.pointer (some ⟨b4,2,none⟩))) hF hS (ex_fieldAddr Try.underlying50 rfl sz23 rfl rfl) rfl rfl fun a hF=>q_x (v:=s8.v) hF hS (ex_load1 5 0 Try.underlying23 rfl rfl rfl rfl) rfl rfl fun a hF=>q_x (v:=s47.v) hF hS (ex_move rfl) rfl rfl fun a hF=>?_))
    obtain ⟨m51,hm51,hS,hz51⟩:=hS.freeze
    have h51:=h47.froz hm51.le hz51
    refine q_do rfl fun _ hK=>wp_buildSlice' (l:=([lo_46] : List (List Int))) (cells:=[s47.v]) hF hS Try.underlying23 inf28 rfl rfl (by kernel_rfl) rfl rfl rfl ⟨⟨s47,rfl,h51⟩,rfl⟩ rfl rfl fun a w q50 s50 hF hS h50 _=>hK _ _ ?_
    have hS : St _ _ _ _ [q8,q50,q49,q17,q9,[⟨b4,[s17.v,nilS.v,s8.v,s9.v],50⟩],[⟨b3,[nilS.v,nilS.v,nilS.v,nilS.v],50⟩]]:=hS.sel [3,0,1,2,4,5,6] (by decide)
    obtain ⟨l_52,hl_52,hb1⟩:=bindS hb1
    refine q_do rfl fun _ hK=>wp_append hF hS (h8.mono hm51.le) Try.underlying23 inf28 rfl rfl rfl rfl (h50.vw hS (j:=1) rfl) rfl (by decide) hl_52 rfl fun a w q53 s53 hF hS h53=>hK _ _ (q_x (v:=(.pointer (some ⟨b4,2,none⟩))) hF hS (ex_fieldAddr Try.underlying50 rfl sz23 rfl rfl) rfl rfl fun a hF=>q_store (vs:=[s53.v]) (cs':=[s17.v,nilS.v,s53.v,s9.v]) 5 0 hF hS sz23 rfl rfl rfl rfl rfl rfl rfl rfl fun a w hF hS=>q_end (n_sq (q_region (q_x (v:=(.pointer (some ⟨b4,3,none⟩))) hF hS (ex_fieldAddr Try.underlying50 rfl sz23 rfl rfl) rfl rfl fun a hF=>q_x (v:=s9.v) hF hS (ex_load1 5 0 Try.underlying23 rfl rfl rfl rfl) rfl rfl fun a hF=>q_x (v:=s49.v) hF hS (ex_move rfl) rfl rfl fun a hF=>?_))))
    have hS : St _ _ _ _ [q49,q53,q50,q17,q9,[⟨b4,[s17.v,nilS.v,s53.v,s9.v],50⟩],[⟨b3,[nilS.v,nilS.v,nilS.v,nilS.v],50⟩]]:=hS.sel [2,0,1,3,4,5,6] (by decide)
    obtain ⟨m55,hm55,hS,hz55⟩:=hS.freeze
    have h55:=(h49.mono hm51.le).froz hm55.le hz55
    refine q_do rfl fun _ hK=>wp_buildSlice' (l:=([hi_48] : List (List Int))) (cells:=[s49.v]) hF hS Try.underlying23 inf28 rfl rfl (by kernel_rfl) rfl rfl rfl ⟨⟨s49,rfl,h55⟩,rfl⟩ rfl rfl fun a w q54 s54 hF hS h54 _=>hK _ _ ?_
    have hS : St _ _ _ _ [q9,q54,q53,q50,q17,[⟨b4,[s17.v,nilS.v,s53.v,s9.v],50⟩],[⟨b3,[nilS.v,nilS.v,nilS.v,nilS.v],50⟩]]:=hS.sel [4,0,1,2,3,5,6] (by decide)
    obtain ⟨l_56,hl_56,hb1⟩:=bindS hb1
    refine q_do rfl fun _ hK=>wp_append hF hS ((h9.mono hm51.le).mono hm55.le) Try.underlying23 inf28 rfl rfl rfl rfl (h54.vw hS (j:=1) rfl) rfl (by decide) hl_56 rfl fun a w q57 s57 hF hS h57=>hK _ _ (q_x (v:=(.pointer (some ⟨b4,3,none⟩))) hF hS (ex_fieldAddr Try.underlying50 rfl sz23 rfl rfl) rfl rfl fun a hF=>q_store (vs:=[s57.v]) (cs':=[s17.v,nilS.v,s53.v,s57.v]) 5 0 hF hS sz23 rfl rfl rfl rfl rfl rfl rfl rfl fun a w hF hS=>q_end (n_ib (n_sq (q_region (q_x (v:=(iV (w64 (t_5 + 1)))) hF hS (ex_ibin rfl rfl rfl) rfl rfl fun a hF=>q_x (v:=(iV (w64 (t_5 + 1)))) hF hS (ex_move rfl) rfl rfl fun a hF=>q_end ?_)))))
    obtain rfl:=someI hb1
    exact ⟨rfl,m55,q17,s17,q53,s53,q57,s57,_,_,rfl,hF.sub ⟨rfl,rfl,rfl,rfl,rfl,rfl,rfl,trivial⟩,hS.sel [4,2,0,5,6] (by decide),((hm10.trans hm51).trans hm55),((h17.mono hm51.le).mono hm55.le),(h53.mono hm55.le),h57⟩
 ·rintro e a w ⟨m62,q59,s59,q60,s60,q61,s61,rfl,hF,hS,hm62,h59,h60,h61⟩
  refine x_ib (n_sq ?_)
  refine q_seq (q_seq (q_region (q_x (v:=s1.v) hF hS (ex_move rfl) rfl rfl fun a hF=>?_)))
  obtain ⟨e_63,he_63,hr⟩:=bindS hr
  obtain ⟨vs64,at64,d64⟩:=h1.at he_63 1 rfl
  obtain ⟨s65,rfl,h65⟩ : ∃ s65 : Sl,vs64 = [s65.v]∧Rd m s65 e_63:=d64
  refine q_x (v:=(elP s1 ((0 : Int).toNat * 1))) hF hS (ex_indexAddr Try.underlying23 sz28 rfl rfl ((h1.mono hm62.le).idx he_63)) rfl rfl fun a hF=>q_x (v:=s65.v) hF hS (ex_loadE1 0 Try.underlying28 rfl rfl (((at64.mono hm62.le)).at) rfl rfl) rfl rfl fun a hF=>q_x (v:=(iV (goLen e_63))) hF hS (ex_len Try.underlying28 rfl (h65.mono hm62.le).len) rfl rfl fun a hF=>q_x (v:=(iV 0)) hF hS (ex_move rfl) rfl rfl fun a hF=>q_end (n_sq (q_block ?_))
  obtain ⟨t_80,hl7,hr⟩:=bindS hr
  refine q_loop (fun (s : Int × impl_Transport) a w=>∃ (q69 : Piece),∃ (s69 : Sl),∃ t_66,∃ t_67,s = (t_66,t_67)∧Fr a 89 [(0,s1.v),(4,(.pointer (some ⟨b3,0,none⟩))),(5,(.pointer (some ⟨b4,0,none⟩))),(74,(iV (goLen e_63))),(75,(iV t_66))]∧St [] w0 w m62 [q69,q59,q60,q61,[⟨b4,[s59.v,s69.v,s60.v,s61.v],50⟩],[⟨b3,[nilS.v,nilS.v,nilS.v,nilS.v],50⟩]]∧OwnL m62 3 q59 s59 t_67.Rows∧t_67.Rows = t_58.Rows∧OwnL m62 3 q69 s69 t_67.Cols∧OwnL m62 28 q60 s60 t_67.Lo∧t_67.Lo = t_58.Lo∧OwnL m62 28 q61 s61 t_67.Hi∧t_67.Hi = t_58.Hi) (fun (t_80 : impl_Transport) e a w=>∃ (q82 : Piece),∃ (s82 : Sl),e = .exit 4∧Fr a 89 [(4,(.pointer (some ⟨b3,0,none⟩))),(5,(.pointer (some ⟨b4,0,none⟩)))]∧St [] w0 w m62 [q59,q82,q60,q61,[⟨b4,[s59.v,s82.v,s60.v,s61.v],50⟩],[⟨b3,[nilS.v,nilS.v,nilS.v,nilS.v],50⟩]]∧OwnL m62 3 q59 s59 t_80.Rows∧t_80.Rows = t_58.Rows∧OwnL m62 3 q82 s82 t_80.Cols∧OwnL m62 28 q60 s60 t_80.Lo∧t_80.Lo = t_58.Lo∧OwnL m62 28 q61 s61 t_80.Hi∧t_80.Hi = t_58.Hi) hl7 ⟨[],nilS,_,_,rfl,hF.sub ⟨rfl,rfl,rfl,rfl,rfl,trivial⟩,hS.sel [5,0,1,2,3,4] (by decide),h59,rfl,(OwnL.nil (α:=Int) m62 3),h60,rfl,h61,rfl⟩ ?_ ?_
  ·clear hF hS
   rintro s a w st ⟨q69,s69,t_66,t_67,rfl,hF,hS,h68,h68k,h69,h70,h70k,h71,h71k⟩ hb7
   unfold spec_qNetwork_l3 at hb7
   refine q_seq (q_region (q_x (v:=(.bool (decide (t_66 < (goLen e_63))))) hF hS (ex_ibin rfl rfl rfl) rfl rfl fun a hF=>q_end (n_sq (q_seq ?_))))
   rcases bcase (decide (t_66 < (goLen e_63))) with hc8 | hc8
   ·have hb7:=cond_f hc8 hb7
    refine q_cond_f hF rfl hc8 (q_exit (x_sq ?_))
    obtain rfl:=someI hb7
    exact ⟨nofun,.inl ⟨q69,s69,rfl,hF.sub ⟨rfl,rfl,trivial⟩,hS.sel [1,0,2,3,4,5] (by decide),h68,h68k,h69,h70,h70k,h71,h71k⟩⟩
   ·have hb7:=cond_t hc8 hb7
    refine q_cond_t hF rfl hc8 (q_skipc (n_sq (q_seq (q_block (q_seq (q_region (q_x (v:=(iV t_66)) hF hS (ex_move rfl) rfl rfl fun a hF=>q_x (v:=(iV t_66)) hF hS (ex_assign rfl) rfl rfl fun a hF=>q_end (n_sq (e_region ⟨[7,9],[],m62⟩ mixed fun w' hw'=>?_)))))))))
    have hS:=hS.below hw'
    refine e_p (v:=(.pointer (some ⟨b4,1,none⟩))) 0 hF rfl (ex_fieldAddr Try.underlying50 rfl sz28 rfl rfl) rfl rfl (by kernel_rfl) (by kernel_rfl) (by kernel_rfl) fun a hF=>e_x (v:=s69.v) 1 hF hS rfl (ex_load1 4 0 Try.underlying28 rfl rfl rfl rfl) rfl rfl (by kernel_rfl) (by kernel_rfl) (by kernel_rfl) (by kernel_rfl) fun a hF=>e_p (v:=s1.v) 2 hF rfl (ex_move rfl) rfl rfl (by kernel_rfl) (by kernel_rfl) (by kernel_rfl) fun a hF=>e_p (v:=(iV t_66)) 3 hF rfl (ex_move rfl) rfl rfl (by kernel_rfl) (by kernel_rfl) (by kernel_rfl) fun a hF=>e_one 4 (by kernel_rfl) ?_
    obtain ⟨t_72,ht_72,hb7⟩:=bindS hb7
    refine e_call (vs:=[s1.v,(iV t_66)]) hF hS rfl Try.func162 (by kernel_rfl) rfl rfl rfl (c_spec_tColumn p_x t_66 t_72 ht_72 _ m62 hS.vis s1 (h1.mono hm62.le)) ?_
    rintro a w _ ⟨q74,s74,rfl,hR73,h74⟩ hF hS2
    have hS : St _ _ _ _ [q74,q69,q59,q60,q61,[⟨b4,[s59.v,s69.v,s60.v,s61.v],50⟩],[⟨b3,[nilS.v,nilS.v,nilS.v,nilS.v],50⟩]]:=hS.joinF hR73
    refine e_one 5 (by kernel_rfl) ?_
    obtain ⟨m76,hl76,hv76,hz76⟩:=hS.lend
    obtain ⟨t_75,ht_75,hb7⟩:=bindS hb7
    refine e_call (vs:=[s74.v]) hF hS rfl Try.func83 (by kernel_rfl) rfl rfl rfl (c_spec_tSum t_72 t_75 ht_75 _ m76 hv76 s74 (h74.froz hl76 (hz76 0 _ rfl))) ?_
    rintro a w _ rfl hF hS
    refine e_one 6 (by kernel_rfl) (e_op rfl rfl fun _ hK=>wp_buildSlice' (l:=([t_75] : List Int)) (cells:=[(iV t_75)]) hF hS Try.underlying28 inf3 rfl rfl (by kernel_rfl) rfl rfl rfl ⟨rfl,rfl⟩ rfl rfl fun a w q77 s77 hF hS h77 hb=>hK _ _ hb (e_one 7 (by kernel_rfl) ?_))
    have hS : St _ _ _ _ [q69,q77,q74,q59,q60,q61,[⟨b4,[s59.v,s69.v,s60.v,s61.v],50⟩],[⟨b3,[nilS.v,nilS.v,nilS.v,nilS.v],50⟩]]:=hS.sel [2,0,1,3,4,5,6,7] (by decide)
    obtain ⟨l_78,hl_78,hb7⟩:=bindS hb7
    refine e_opl rfl rfl rfl fun _ hK=>wp_append hF hS h69 Try.underlying28 inf3 rfl rfl rfl rfl (h77.vw hS (j:=1) rfl) rfl (by decide) hl_78 rfl fun a w q79 s79 hF hS h79=>hK _ _ (⟨⟨kpN,fun _=>hS.vis.of_le (Mem.le.refl _)⟩,?_⟩)
    refine e_p (v:=(.pointer (some ⟨b4,1,none⟩))) 8 hF rfl (ex_fieldAddr Try.underlying50 rfl sz28 rfl rfl) rfl rfl (by kernel_rfl) (by kernel_rfl) (by kernel_rfl) fun a hF=>e_one 9 (by kernel_rfl) (e_store (vs:=[s79.v]) (cs':=[s59.v,s79.v,s60.v,s61.v]) 6 0 hF hS rfl rfl sz28 rfl rfl rfl rfl rfl rfl rfl rfl fun a w hF hS=>⟨⟨kpN,fun _=>hS.vis.of_le (Mem.le.refl _)⟩,?_⟩)
    refine e_end (by kernel_rfl) (n_ib (n_sq ?_)) _
    refine q_region (q_x (v:=(iV (w64 (t_66 + 1)))) hF hS (ex_ibin rfl rfl rfl) rfl rfl fun a hF=>q_x (v:=(iV (w64 (t_66 + 1)))) hF hS (ex_move rfl) rfl rfl fun a hF=>q_end ?_)
    obtain rfl:=someI hb7
    exact ⟨rfl,q79,s79,_,_,rfl,hF.sub ⟨rfl,rfl,rfl,rfl,rfl,trivial⟩,hS.mask [true,false,false,true,true,true,true,true],h68,h68k,h79,h70,h70k,h71,h71k⟩
  ·rintro e a w ⟨q82,s82,rfl,hF,hS,h81,h81k,h82,h83,h83k,h84,h84k⟩
   refine x_ib (n_sq ?_)
   refine q_seq (q_region (q_x (v:=(.agg #[s59.v,s82.v,s60.v,s61.v])) hF hS (ex_loadA (vs:=[s59.v,s82.v,s60.v,s61.v]) 4 0 Try.underlying50 rfl sz50 rfl rfl rfl rfl) rfl rfl fun a hF=>q_store (vs:=[s59.v,s82.v,s60.v,s61.v]) (cs':=[s59.v,s82.v,s60.v,s61.v]) 5 0 hF hS sz50 rfl rfl rfl rfl rfl rfl rfl rfl fun a w hF hS=>q_end (n_sq (q_ret ?_))))
   obtain rfl:=someI hr
   exact ret_of hF hS rfl (.cellA (us:=[s59.v,s82.v,s60.v,s61.v]) 5 0 Try.underlying50 rfl sz50 rfl rfl rfl rfl .nil) ⟨m62,q59,q82,q60,q61,s59,s82,s60,s61,rfl,hm62,hS.sel [0,1,2,3] (by decide),h81,h82,h83,h84⟩

theorem c_spec_vGoal (p_n : Int) (p_down : Int) (r : Int) (hr : spec_vGoal p_n p_down = some r) (w0 : World) (m : Mem) (hv : Vis m w0) :
  Ret Try.prog 159 [(iV p_n),(iV p_down)] w0 (fun v _=>v = (iV r)):=by
 unfold spec_vGoal at hr
 refine ret_start Try.func159 rfl 9 rfl rfl m hv fun a hF hS=>q_seq (q_region (q_x (v:=(iV 0)) hF hS (ex_assign rfl) rfl rfl fun a hF=>q_end (n_sq (q_seq (q_region (q_x (v:=(iV p_n)) hF hS (ex_move rfl) rfl rfl fun a hF=>q_x (v:=(iV p_down)) hF hS (ex_move rfl) rfl rfl fun a hF=>q_x (v:=(iV (w64 (p_n - p_down)))) hF hS (ex_ibin rfl rfl rfl) rfl rfl fun a hF=>?_))))))
 obtain ⟨t_1,ht_1,hr⟩:=bindS hr
 refine q_call (vs:=[(iV (w64 (p_n - p_down))),(iV 0)]) hF hS Try.func91 (by kernel_rfl) rfl rfl rfl (c_spec_l1Most (w64 (p_n - p_down)) 0 t_1 ht_1 _ m hS.vis) ?_
 rintro a w _ rfl hF hS
 refine q_x (v:=(iV t_1)) hF hS (ex_assign rfl) rfl rfl fun a hF=>q_end (n_sq (q_ret ?_))
 obtain rfl:=someI hr
 exact ret_of hF hS rfl (.tmp rfl .nil) rfl

theorem c_spec_l1Own (p_l : List Int) (r : (List Int)) (hr : spec_l1Own p_l = some r) (w0 : World) (m : Mem) (hv : Vis m w0) (s1 : Sl) (h1 : Rd m s1 p_l) :
  Ret Try.prog 153 [s1.v] w0 (fun v w=>∃ (q0' : Piece) (s0' : Sl),v = s0'.v∧St [] w0 w m [q0']∧OwnL m 3 q0' s0' r):=by
 unfold spec_l1Own at hr
 refine ret_start Try.func153 rfl 6 rfl rfl m hv fun a hF hS=>q_seq (q_region (q_x (v:=nilS.v) hF hS (ex_assign rfl) rfl rfl fun a hF=>q_end (n_sq (q_seq (q_region (q_do rfl fun _ hK=>wp_build0 (α:=Int) hF hS Try.underlying28 inf3 rfl fun a w q2 s2 hF hS h2 _=>hK _ _ (q_x (v:=s1.v) hF hS (ex_move rfl) rfl rfl fun a hF=>?_)))))))
 obtain ⟨l_3,hl_3,hr⟩:=bindS hr
 refine q_do rfl fun _ hK=>wp_append hF hS h2 Try.underlying28 inf3 rfl rfl rfl rfl (h1.vw hS.vis) rfl (by decide) hl_3 rfl fun a w q4 s4 hF hS h4=>hK _ _ (q_x (v:=s4.v) hF hS (ex_assign rfl) rfl rfl fun a hF=>q_end (n_sq (q_ret ?_)))
 obtain rfl:=someI hr
 exact ret_of hF hS rfl (.tmp rfl .nil) ⟨q4,s4,rfl,hS.sel [0] (by decide),h4⟩

theorem c_spec_tOwn (p_x : List (List Int)) (r : (List (List Int))) (hr : spec_tOwn p_x = some r) (w0 : World) (m : Mem) (hv : Vis m w0) (s1 : Sl) (h1 : Rd m s1 p_x) :
  Ret Try.prog 145 [s1.v] w0 (fun v w=>∃ (q0' : Piece) (s0' : Sl),v = s0'.v∧St [] w0 w m [q0']∧OwnD m 28 3 q0' s0' r):=by
 unfold spec_tOwn at hr
 refine ret_start Try.func145 rfl 19 rfl rfl m hv fun a hF hS=>q_seq (q_region (q_x (v:=nilS.v) hF hS (ex_assign rfl) rfl rfl fun a hF=>q_end (n_sq (q_seq (q_region (q_x (v:=nilS.v) hF hS (ex_assign rfl) rfl rfl fun a hF=>q_end (n_sq (q_seq (q_seq (q_region (q_x (v:=s1.v) hF hS (ex_move rfl) rfl rfl fun a hF=>q_x (v:=(iV (goLen p_x))) hF hS (ex_len Try.underlying23 rfl h1.len) rfl rfl fun a hF=>q_x (v:=(iV 0)) hF hS (ex_move rfl) rfl rfl fun a hF=>q_end (n_sq (q_block ?_)))))))))))))
 obtain ⟨out_14,hl1,hr⟩:=bindS hr
 refine q_loop (fun (s : (List (List Int)) × Int) a w=>∃ (q3 : Piece),∃ (s3 : Sl),∃ out_2,∃ t_4,s = (out_2,t_4)∧Fr a 19 [(3,s3.v),(6,s1.v),(7,(iV (goLen p_x))),(8,(iV t_4))]∧St [] w0 w m [q3]∧OwnD m 28 3 q3 s3 out_2) (fun (out_14 : (List (List Int))) e a w=>∃ (q15 : Piece),∃ (s15 : Sl),e = .exit 0∧Fr a 19 [(3,s15.v)]∧St [] w0 w m [q15]∧OwnD m 28 3 q15 s15 out_14) hl1 ⟨[],nilS,_,_,rfl,hF.sub ⟨rfl,rfl,rfl,rfl,trivial⟩,hS.sel [0] (by decide),(OwnD.nil (β:=Int) m 28 3)⟩ ?_ ?_
 ·clear hF hS
  rintro s a w st ⟨q3,s3,out_2,t_4,rfl,hF,hS,h3⟩ hb1
  unfold spec_tOwn_l1 at hb1
  refine q_seq (q_region (q_x (v:=(.bool (decide (t_4 < (goLen p_x))))) hF hS (ex_ibin rfl rfl rfl) rfl rfl fun a hF=>q_end (n_sq (q_seq ?_))))
  rcases bcase (decide (t_4 < (goLen p_x))) with hc2 | hc2
  ·have hb1:=cond_f hc2 hb1
   refine q_cond_f hF rfl hc2 (q_exit (x_sq ?_))
   obtain rfl:=someI hb1
   exact ⟨nofun,.inl ⟨q3,s3,rfl,hF.sub ⟨rfl,trivial⟩,hS,h3⟩⟩
  ·have hb1:=cond_t hc2 hb1
   refine q_cond_t hF rfl hc2 (q_skipc (n_sq (q_seq (q_block (q_seq (q_region ?_))))))
   obtain ⟨e_5,he_5,hb1⟩:=bindS hb1
   obtain ⟨vs6,at6,d6⟩:=h1.at he_5 1 rfl
   obtain ⟨s7,rfl,h7⟩ : ∃ s7 : Sl,vs6 = [s7.v]∧Rd m s7 e_5:=d6
   refine q_x (v:=(elP s1 (t_4.toNat * 1))) hF hS (ex_indexAddr Try.underlying23 sz28 rfl rfl (h1.idx he_5)) rfl rfl fun a hF=>q_x (v:=s7.v) hF hS (ex_loadE1 0 Try.underlying28 rfl rfl ((at6).at) rfl rfl) rfl rfl fun a hF=>q_x (v:=s7.v) hF hS (ex_assign rfl) rfl rfl fun a hF=>q_end (n_sq (q_region (q_x (v:=s3.v) hF hS (ex_move rfl) rfl rfl fun a hF=>q_x (v:=s7.v) hF hS (ex_move rfl) rfl rfl fun a hF=>?_)))
   obtain ⟨t_8,ht_8,hb1⟩:=bindS hb1
   refine q_call (vs:=[s7.v]) hF hS Try.func153 (by kernel_rfl) rfl rfl rfl (c_spec_l1Own e_5 t_8 ht_8 _ m hS.vis s7 h7) ?_
   rintro a w _ ⟨q10,s10,rfl,hR9,h10⟩ hF hS2
   have hS : St _ _ _ _ [q10,q3]:=hS.joinF hR9
   refine q_do rfl fun _ hK=>wp_build1D hF hS h10 Try.underlying23 inf28 rfl rfl rfl fun a w q11 s11 hF hS h11 _=>hK _ _ ?_
   have hS : St _ _ _ _ [q3,q11]:=hS.sel [1,0] (by decide)
   obtain ⟨l_12,hl_12,hb1⟩:=bindS hb1
   refine q_do rfl fun _ hK=>wp_appendD hF hS h3 h11 Try.underlying23 inf28 rfl rfl rfl (by decide) hl_12 rfl fun a w q13 s13 hF hS h13=>hK _ _ (q_x (v:=s13.v) hF hS (ex_assign rfl) rfl rfl fun a hF=>q_end (n_ib (n_sq (q_region (q_x (v:=(iV (w64 (t_4 + 1)))) hF hS (ex_ibin rfl rfl rfl) rfl rfl fun a hF=>q_x (v:=(iV (w64 (t_4 + 1)))) hF hS (ex_move rfl) rfl rfl fun a hF=>q_end ?_)))))
   obtain rfl:=someI hb1
   exact ⟨rfl,q13,s13,_,_,rfl,hF.sub ⟨rfl,rfl,rfl,rfl,trivial⟩,hS,h13⟩
 ·rintro e a w ⟨q15,s15,rfl,hF,hS,h15⟩
  refine x_ib (n_sq ?_)
  refine q_seq (q_region (q_x (v:=s15.v) hF hS (ex_move rfl) rfl rfl fun a hF=>q_x (v:=s15.v) hF hS (ex_assign rfl) rfl rfl fun a hF=>q_end (n_sq (q_ret ?_))))
  obtain rfl:=someI hr
  exact ret_of hF hS rfl (.tmp rfl .nil) ⟨q15,s15,rfl,hS.sel [0] (by decide),h15⟩

theorem c_spec_tWith (p_t : impl_Transport) (p_i : Int) (p_j : Int) (p_lo : Int) (p_hi : Int) (r : impl_Transport) (hr : spec_tWith p_t p_i p_j p_lo p_hi = some r) (w0 : World) (m : Mem) (hv : Vis m w0) (s1 : Sl) (h1 : Rd m s1 p_t.Rows) (s2 : Sl) (h2 : Rd m s2 p_t.Cols) (s3 : Sl) (h3 : Rd m s3 p_t.Lo) (s4 : Sl) (h4 : Rd m s4 p_t.Hi) :
  Ret Try.prog 121 [(.agg #[s1.v,s2.v,s3.v,s4.v]),(iV p_i),(iV p_j),(iV p_lo),(iV p_hi)] w0 (fun v w=>∃ (m' : Mem) (q2' : Piece) (q3' : Piece) (s0' : Sl) (s1' : Sl) (s2' : Sl) (s3' : Sl),v = (.agg #[s0'.v,s1'.v,s2'.v,s3'.v])∧MLe [] w0.heap.size m m'∧St [] w0 w m' [q2',q3']∧Rd m' s0' r.Rows∧Rd m' s1' r.Cols∧OwnD m' 28 3 q2' s2' r.Lo∧OwnD m' 28 3 q3' s3' r.Hi):=by
 unfold spec_tWith at hr
 refine ret_start Try.func121 rfl 40 rfl rfl m hv fun a hF hS=>q_seq (q_region (q_box (cs:=[s1.v,s2.v,s3.v,s4.v]) hF hS rfl rfl rfl fun a w b5 hF hS=>q_alloc (cs:=[nilS.v,nilS.v,nilS.v,nilS.v]) hF hS rfl rfl rfl fun a w b6 hF hS=>q_end (n_sq (q_seq ?_))))
 obtain ⟨out_23,hj1,hr⟩:=bindS hr
 refine q_join (fun a w=>∃ b22,∃ (q26 : Piece),∃ (s26 : Sl),∃ (q27 : Piece),∃ (s27 : Sl),Fr a 40 [(1,(iV p_i)),(2,(iV p_j)),(3,(iV p_lo)),(4,(iV p_hi)),(10,(.pointer (some ⟨b6,0,none⟩))),(11,(.pointer (some ⟨b22,0,none⟩)))]∧St [] w0 w m [q26,q27,[⟨b22,[s1.v,s2.v,s26.v,s27.v],50⟩],[⟨b6,[nilS.v,nilS.v,nilS.v,nilS.v],50⟩]]∧Rd m s1 out_23.Rows∧Rd m s2 out_23.Cols∧OwnD m 28 3 q26 s26 out_23.Lo∧OwnD m 28 3 q27 s27 out_23.Hi) ?_ ?_
 ·refine e_region ⟨[12],[b5],m⟩ mixed fun w' hw'=>?_
  have hS:=hS.below hw'
  refine e_p (v:=(.pointer (some ⟨b5,0,none⟩))) 0 hF rfl (ex_fieldAddr Try.underlying50 rfl sz28 rfl rfl) rfl rfl (by kernel_rfl) (by kernel_rfl) (by kernel_rfl) fun a hF=>e_xb (v:=s1.v) 1 1 hF hS (.head _) rfl rfl (ex_load1 0 0 Try.underlying28 rfl rfl rfl rfl) rfl rfl (by kernel_rfl) (by kernel_rfl) (by kernel_rfl) fun a hF=>e_p (v:=(.pointer (some ⟨b5,1,none⟩))) 2 hF rfl (ex_fieldAddr Try.underlying50 rfl sz28 rfl rfl) rfl rfl (by kernel_rfl) (by kernel_rfl) (by kernel_rfl) fun a hF=>e_xb (v:=s2.v) 3 1 hF hS (.head _) rfl rfl (ex_load1 0 0 Try.underlying28 rfl rfl rfl rfl) rfl rfl (by kernel_rfl) (by kernel_rfl) (by kernel_rfl) fun a hF=>e_p (v:=(.pointer (some ⟨b5,2,none⟩))) 4 hF rfl (ex_fieldAddr Try.underlying50 rfl sz23 rfl rfl) rfl rfl (by kernel_rfl) (by kernel_rfl) (by kernel_rfl) fun a hF=>e_xb (v:=s3.v) 5 1 hF hS (.head _) rfl rfl (ex_load1 0 0 Try.underlying23 rfl rfl rfl rfl) rfl rfl (by kernel_rfl) (by kernel_rfl) (by kernel_rfl) fun a hF=>e_p (v:=(.pointer (some ⟨b5,3,none⟩))) 7 hF rfl (ex_fieldAddr Try.underlying50 rfl sz23 rfl rfl) rfl rfl (by kernel_rfl) (by kernel_rfl) (by kernel_rfl) fun a hF=>e_xb (v:=s4.v) 8 1 hF hS (.head _) rfl rfl (ex_load1 0 0 Try.underlying23 rfl rfl rfl rfl) rfl rfl (by kernel_rfl) (by kernel_rfl) (by kernel_rfl) fun a hF=>?_
  obtain ⟨t_16,ht_16,hj1⟩:=bindS hj1
  obtain ⟨t_19,ht_19,hj1⟩:=bindS hj1
  refine e_all [6,11] (by kernel_rfl) rfl ⟨?_,?_,trivial⟩
  ·refine e_call (vs:=[s3.v]) hF hS rfl Try.func145 (by kernel_rfl) rfl rfl rfl (c_spec_tOwn p_t.Lo t_16 ht_16 _ m hS.vis s3 h3) ?_
   rintro a w _ ⟨q18,s18,rfl,hR17,h18⟩ hF hS2
   have hS : St _ _ _ _ [q18,[⟨b6,[nilS.v,nilS.v,nilS.v,nilS.v],50⟩],[⟨b5,[s1.v,s2.v,s3.v,s4.v],50⟩]]:=hS.joinF hR17
   refine e_all [9,11] (by kernel_rfl) rfl ⟨?_,?_,trivial⟩
   ·refine e_call (vs:=[s4.v]) hF hS rfl Try.func145 (by kernel_rfl) rfl rfl rfl (c_spec_tOwn p_t.Hi t_19 ht_19 _ m hS.vis s4 h4) ?_
    rintro a w _ ⟨q21,s21,rfl,hR20,h21⟩ hF hS2
    have hS : St _ _ _ _ [q21,q18,[⟨b6,[nilS.v,nilS.v,nilS.v,nilS.v],50⟩],[⟨b5,[s1.v,s2.v,s3.v,s4.v],50⟩]]:=hS.joinF hR20
    refine e_p (v:=(.agg #[s1.v,s2.v,s18.v,s21.v])) 10 hF rfl (ex_build (cells:=[s1.v,s2.v,s18.v,s21.v]) rfl (by kernel_rfl)) rfl rfl (by kernel_rfl) (by kernel_rfl) (by kernel_rfl) fun a hF=>e_one 11 (by kernel_rfl) (e_alloc (cs:=[nilS.v,nilS.v,nilS.v,nilS.v]) hF hS rfl rfl rfl rfl fun a w b22 hF hS=>e_one 12 (by kernel_rfl) ?_)
    have hSo:=hS
    refine e_store (vs:=[s1.v,s2.v,s18.v,s21.v]) (cs':=[s1.v,s2.v,s18.v,s21.v]) 0 0 hF hS rfl rfl sz50 rfl rfl rfl rfl rfl rfl rfl rfl fun a w hF hS=>⟨⟨kpC hSo hS 4 4 rfl rfl kpN,fun _=>hS.vis.of_le (Mem.le.refl _)⟩,?_⟩
    refine e_end (by kernel_rfl) (n_jn ?_) _
    obtain rfl:=someI hj1
    exact ⟨b22,q18,s18,q21,s21,hF.sub ⟨rfl,rfl,rfl,rfl,rfl,rfl,trivial⟩,hS.sel [2,1,0,3] (by decide),h1,h2,h18,h21⟩
   ·refine e_alloc (cs:=[nilS.v,nilS.v,nilS.v,nilS.v]) hF hS rfl rfl rfl rfl fun a w b22 hF hS=>e_one 9 (by kernel_rfl) (e_call (vs:=[s4.v]) hF hS rfl Try.func145 (by kernel_rfl) rfl rfl rfl (c_spec_tOwn p_t.Hi t_19 ht_19 _ m hS.vis s4 h4) ?_)
    rintro a w _ ⟨q21,s21,rfl,hR20,h21⟩ hF hS2
    have hS : St _ _ _ _ [q21,[⟨b22,[nilS.v,nilS.v,nilS.v,nilS.v],50⟩],q18,[⟨b6,[nilS.v,nilS.v,nilS.v,nilS.v],50⟩],[⟨b5,[s1.v,s2.v,s3.v,s4.v],50⟩]]:=hS.joinF hR20
    refine e_p (v:=(.agg #[s1.v,s2.v,s18.v,s21.v])) 10 hF rfl (ex_build (cells:=[s1.v,s2.v,s18.v,s21.v]) rfl (by kernel_rfl)) rfl rfl (by kernel_rfl) (by kernel_rfl) (by kernel_rfl) fun a hF=>e_one 12 (by kernel_rfl) ?_
    have hSo:=hS
    refine e_store (vs:=[s1.v,s2.v,s18.v,s21.v]) (cs':=[s1.v,s2.v,s18.v,s21.v]) 1 0 hF hS rfl rfl sz50 rfl rfl rfl rfl rfl rfl rfl rfl fun a w hF hS=>⟨⟨kpC hSo hS 4 4 rfl rfl kpN,fun _=>hS.vis.of_le (Mem.le.refl _)⟩,?_⟩
    refine e_end (by kernel_rfl) (n_jn ?_) _
    obtain rfl:=someI hj1
    exact ⟨b22,q18,s18,q21,s21,hF.sub ⟨rfl,rfl,rfl,rfl,rfl,rfl,trivial⟩,hS.sel [2,0,1,3] (by decide),h1,h2,h18,h21⟩
  ·refine e_alloc (cs:=[nilS.v,nilS.v,nilS.v,nilS.v]) hF hS rfl rfl rfl rfl fun a w b22 hF hS=>e_one 6 (by kernel_rfl) (e_call (vs:=[s3.v]) hF hS rfl Try.func145 (by kernel_rfl) rfl rfl rfl (c_spec_tOwn p_t.Lo t_16 ht_16 _ m hS.vis s3 h3) ?_)
   rintro a w _ ⟨q18,s18,rfl,hR17,h18⟩ hF hS2
   have hS : St _ _ _ _ [q18,[⟨b22,[nilS.v,nilS.v,nilS.v,nilS.v],50⟩],[⟨b6,[nilS.v,nilS.v,nilS.v,nilS.v],50⟩],[⟨b5,[s1.v,s2.v,s3.v,s4.v],50⟩]]:=hS.joinF hR17
   refine e_one 9 (by kernel_rfl) (e_call (vs:=[s4.v]) hF hS rfl Try.func145 (by kernel_rfl) rfl rfl rfl (c_spec_tOwn p_t.Hi t_19 ht_19 _ m hS.vis s4 h4) ?_)
   rintro a w _ ⟨q21,s21,rfl,hR20,h21⟩ hF hS2
   have hS : St _ _ _ _ [q21,q18,[⟨b22,[nilS.v,nilS.v,nilS.v,nilS.v],50⟩],[⟨b6,[nilS.v,nilS.v,nilS.v,nilS.v],50⟩],[⟨b5,[s1.v,s2.v,s3.v,s4.v],50⟩]]:=hS.joinF hR20
   refine e_p (v:=(.agg #[s1.v,s2.v,s18.v,s21.v])) 10 hF rfl (ex_build (cells:=[s1.v,s2.v,s18.v,s21.v]) rfl (by kernel_rfl)) rfl rfl (by kernel_rfl) (by kernel_rfl) (by kernel_rfl) fun a hF=>e_one 12 (by kernel_rfl) ?_
   have hSo:=hS
   refine e_store (vs:=[s1.v,s2.v,s18.v,s21.v]) (cs':=[s1.v,s2.v,s18.v,s21.v]) 2 0 hF hS rfl rfl sz50 rfl rfl rfl rfl rfl rfl rfl rfl fun a w hF hS=>⟨⟨kpC hSo hS 4 4 rfl rfl kpN,fun _=>hS.vis.of_le (Mem.le.refl _)⟩,?_⟩
   refine e_end (by kernel_rfl) (n_jn ?_) _
   obtain rfl:=someI hj1
   exact ⟨b22,q18,s18,q21,s21,hF.sub ⟨rfl,rfl,rfl,rfl,rfl,rfl,trivial⟩,hS.sel [1,0,2,3] (by decide),h1,h2,h18,h21⟩
 ·rintro a w ⟨b22,q26,s26,q27,s27,hF,hS,h24,h25,h26,h27⟩
  refine n_sq ?_
  refine q_seq (q_region (q_x (v:=(.pointer (some ⟨b22,2,none⟩))) hF hS (ex_fieldAddr Try.underlying50 rfl sz23 rfl rfl) rfl rfl fun a hF=>q_x (v:=s26.v) hF hS (ex_load1 2 0 Try.underlying23 rfl rfl rfl rfl) rfl rfl fun a hF=>q_x (v:=(iV p_i)) hF hS (ex_move rfl) rfl rfl fun a hF=>?_))
  obtain ⟨e_28,he_28,hr⟩:=bindS hr
  obtain ⟨s29,hV29⟩:=h26.view he_28
  refine q_x (v:=(elP s26 (p_i.toNat * 1))) hF hS (ex_indexAddr Try.underlying23 sz28 rfl rfl (h26.idx he_28)) rfl rfl fun a hF=>q_x (v:=s29.v) hF hS (ex_loadE1 0 Try.underlying28 rfl rfl ((hV29.atH he_28).at 0 rfl) rfl rfl) rfl rfl fun a hF=>q_x (v:=(iV p_j)) hF hS (ex_move rfl) rfl rfl fun a hF=>q_x (v:=(iV p_lo)) hF hS (ex_move rfl) rfl rfl fun a hF=>?_
  obtain ⟨e_30,he_30,hr⟩:=bindS hr
  obtain ⟨vs31,at31,d31⟩:=hV29.at he_28 he_30 1 rfl
  obtain rfl : vs31 = [(iV e_30)]:=d31
  refine q_x (v:=(elP s29 (p_j.toNat * 1))) hF hS (ex_indexAddr Try.underlying28 sz3 rfl rfl (hV29.idx he_28 he_30)) rfl rfl fun a hF=>q_do rfl fun _ hK=>wp_storeV (e':=p_lo) (us:=[(iV p_lo)]) (vs:=[(iV e_30)]) 0 hF hS hV29 he_28 sz3 rfl rfl rfl rfl rfl rfl rfl he_30 at31 rfl rfl rfl fun w q32 hS h32=>hK _ _ (q_end (n_sq (q_seq (q_region (q_x (v:=(.pointer (some ⟨b22,3,none⟩))) hF hS (ex_fieldAddr Try.underlying50 rfl sz23 rfl rfl) rfl rfl fun a hF=>q_x (v:=s27.v) hF hS (ex_load1 2 0 Try.underlying23 rfl rfl rfl rfl) rfl rfl fun a hF=>q_x (v:=(iV p_i)) hF hS (ex_move rfl) rfl rfl fun a hF=>?_)))))
  obtain ⟨e_33,he_33,hr⟩:=bindS hr
  obtain ⟨s34,hV34⟩:=h27.view he_33
  refine q_x (v:=(elP s27 (p_i.toNat * 1))) hF hS (ex_indexAddr Try.underlying23 sz28 rfl rfl (h27.idx he_33)) rfl rfl fun a hF=>q_x (v:=s34.v) hF hS (ex_loadE1 0 Try.underlying28 rfl rfl ((hV34.atH he_33).at 1 rfl) rfl rfl) rfl rfl fun a hF=>q_x (v:=(iV p_j)) hF hS (ex_move rfl) rfl rfl fun a hF=>q_x (v:=(iV p_hi)) hF hS (ex_move rfl) rfl rfl fun a hF=>?_
  obtain ⟨e_35,he_35,hr⟩:=bindS hr
  obtain ⟨vs36,at36,d36⟩:=hV34.at he_33 he_35 1 rfl
  obtain rfl : vs36 = [(iV e_35)]:=d36
  refine q_x (v:=(elP s34 (p_j.toNat * 1))) hF hS (ex_indexAddr Try.underlying28 sz3 rfl rfl (hV34.idx he_33 he_35)) rfl rfl fun a hF=>?_
  have hS : St _ _ _ _ [q27,q32,[⟨b22,[s1.v,s2.v,s26.v,s27.v],50⟩],[⟨b6,[nilS.v,nilS.v,nilS.v,nilS.v],50⟩]]:=hS.sel [1,0,2,3] (by decide)
  refine q_do rfl fun _ hK=>wp_storeV (e':=p_hi) (us:=[(iV p_hi)]) (vs:=[(iV e_35)]) 0 hF hS hV34 he_33 sz3 rfl rfl rfl rfl rfl rfl rfl he_35 at36 rfl rfl rfl fun w q37 hS h37=>hK _ _ (q_end (n_sq (q_seq (q_region (q_x (v:=(.agg #[s1.v,s2.v,s26.v,s27.v])) hF hS (ex_loadA (vs:=[s1.v,s2.v,s26.v,s27.v]) 2 0 Try.underlying50 rfl sz50 rfl rfl rfl rfl) rfl rfl fun a hF=>q_store (vs:=[s1.v,s2.v,s26.v,s27.v]) (cs':=[s1.v,s2.v,s26.v,s27.v]) 3 0 hF hS sz50 rfl rfl rfl rfl rfl rfl rfl rfl fun a w hF hS=>q_end (n_sq (q_ret ?_)))))))
  obtain rfl:=someI hr
  exact ret_of hF hS rfl (.cellA (us:=[s1.v,s2.v,s26.v,s27.v]) 3 0 Try.underlying50 rfl sz50 rfl rfl rfl rfl .nil) ⟨m,q32,q37,s1,s2,s26,s27,rfl,(MLe.refl _ _),hS.sel [1,0] (by decide),h24,h25,h32.own,h37.own⟩

theorem c_spec_tStart (p_t : impl_Transport) (r : spec_tFill × Bool) (hr : spec_tStart p_t = some r) (w0 : World) (m : Mem) (hv : Vis m w0) (s1 : Sl) (h1 : Rd m s1 p_t.Rows) (s2 : Sl) (h2 : Rd m s2 p_t.Cols) (s3 : Sl) (h3 : Rd m s3 p_t.Lo) (s4 : Sl) (h4 : Rd m s4 p_t.Hi) :
  Ret Try.prog 198 [(.agg #[s1.v,s2.v,s3.v,s4.v])] w0 (fun v w=>∃ (m' : Mem) (b0' : Nat) (q4' : Piece) (q5' : Piece) (q6' : Piece) (s0' : Sl) (s1' : Sl) (s2' : Sl) (s3' : Sl) (s4' : Sl) (s5' : Sl) (s6' : Sl),v = (.tuple #[(.pointer (some ⟨b0',0,none⟩)),(.bool r.2)])∧MLe [] w0.heap.size m m'∧St [] w0 w m' [[⟨b0',[s0'.v,s1'.v,s2'.v,s3'.v,s4'.v,s5'.v,s6'.v],150⟩],q4',q5',q6']∧Rd m' s0' r.1.t.Rows∧Rd m' s1' r.1.t.Cols∧Rd m' s2' r.1.t.Lo∧Rd m' s3' r.1.t.Hi∧OwnD m' 28 3 q4' s4' r.1.x∧OwnL m' 3 q5' s5' r.1.rows∧OwnL m' 3 q6' s6' r.1.cols):=by
 unfold spec_tStart at hr
 refine ret_start Try.func198 rfl 79 rfl rfl m hv fun a hF hS=>q_seq (q_region (q_box (cs:=[s1.v,s2.v,s3.v,s4.v]) hF hS rfl rfl rfl fun a w b5 hF hS=>q_x (v:=(.pointer none)) hF hS (ex_assign rfl) rfl rfl fun a hF=>q_x (v:=(.bool false)) hF hS (ex_assign rfl) rfl rfl fun a hF=>q_end (n_sq (q_seq (e_region ⟨[],[],m⟩ mixed fun w' hw'=>?_)))))
 have hS:=hS.below hw'
 refine e_x (v:=(.agg #[s1.v,s2.v,s3.v,s4.v])) 0 hF hS rfl (ex_loadA (vs:=[s1.v,s2.v,s3.v,s4.v]) 0 0 Try.underlying50 rfl sz50 rfl rfl rfl rfl) rfl rfl (by kernel_rfl) (by kernel_rfl) (by kernel_rfl) (by kernel_rfl) fun a hF=>e_p (v:=(.pointer (some ⟨b5,2,none⟩))) 1 hF rfl (ex_fieldAddr Try.underlying50 rfl sz23 rfl rfl) rfl rfl (by kernel_rfl) (by kernel_rfl) (by kernel_rfl) fun a hF=>e_x (v:=s3.v) 2 hF hS rfl (ex_load1 0 0 Try.underlying23 rfl rfl rfl rfl) rfl rfl (by kernel_rfl) (by kernel_rfl) (by kernel_rfl) (by kernel_rfl) fun a hF=>e_one 3 (by kernel_rfl) ?_
 obtain ⟨t_6,ht_6,hr⟩:=bindS hr
 refine e_call (vs:=[s3.v]) hF hS rfl Try.func145 (by kernel_rfl) rfl rfl rfl (c_spec_tOwn p_t.Lo t_6 ht_6 _ m hS.vis s3 h3) ?_
 rintro a w _ ⟨q8,s8,rfl,hR7,h8⟩ hF hS2
 have hS : St _ _ _ _ [q8,[⟨b5,[s1.v,s2.v,s3.v,s4.v],50⟩]]:=hS.joinF hR7
 refine e_p (v:=(.agg #[s1.v,s2.v,s3.v,s4.v,s8.v,nilS.v,nilS.v])) 4 hF rfl (ex_build (cells:=[s1.v,s2.v,s3.v,s4.v,s8.v,nilS.v,nilS.v]) rfl (by kernel_rfl)) rfl rfl (by kernel_rfl) (by kernel_rfl) (by kernel_rfl) fun a hF=>e_one 5 (by kernel_rfl) (e_box (cs:=[s1.v,s2.v,s3.v,s4.v,s8.v,nilS.v,nilS.v]) hF hS rfl rfl rfl rfl fun a w b9 hF hS=>e_p (v:=(.pointer (some ⟨b9,0,none⟩))) 6 hF rfl (ex_assign rfl) rfl rfl (by kernel_rfl) (by kernel_rfl) (by kernel_rfl) fun a hF=>e_end (by kernel_rfl) (n_sq ?_) _)
 refine q_seq (q_seq (q_region (q_x (v:=(.pointer (some ⟨b5,0,none⟩))) hF hS (ex_fieldAddr Try.underlying50 rfl sz28 rfl rfl) rfl rfl fun a hF=>q_x (v:=s1.v) hF hS (ex_load1 2 0 Try.underlying28 rfl rfl rfl rfl) rfl rfl fun a hF=>q_x (v:=(iV (goLen p_t.Rows))) hF hS (ex_len Try.underlying28 rfl h1.len) rfl rfl fun a hF=>q_x (v:=(iV 0)) hF hS (ex_move rfl) rfl rfl fun a hF=>q_end (n_sq (q_block ?_)))))
 obtain ⟨t_27,hl1,hr⟩:=bindS hr
 refine q_loop (fun (s : Int × spec_tFill) a w=>∃ (q17 : Piece),∃ (s17 : Sl),∃ t_10,∃ t_11,s = (t_10,t_11)∧Fr a 79 [(1,(.pointer (some ⟨b5,0,none⟩))),(4,(.pointer (some ⟨b9,0,none⟩))),(16,s1.v),(17,(iV (goLen p_t.Rows))),(18,(iV t_10))]∧St [] w0 w m [q17,[⟨b9,[s1.v,s2.v,s3.v,s4.v,s8.v,s17.v,nilS.v],150⟩],q8,[⟨b5,[s1.v,s2.v,s3.v,s4.v],50⟩]]∧Rd m s1 t_11.t.Rows∧t_11.t.Rows = p_t.Rows∧Rd m s2 t_11.t.Cols∧t_11.t.Cols = p_t.Cols∧Rd m s3 t_11.t.Lo∧t_11.t.Lo = p_t.Lo∧Rd m s4 t_11.t.Hi∧t_11.t.Hi = p_t.Hi∧OwnD m 28 3 q8 s8 t_11.x∧t_11.x = t_6∧OwnL m 3 q17 s17 t_11.rows) (fun (t_27 : spec_tFill) e a w=>∃ (q33 : Piece),∃ (s33 : Sl),e = .exit 0∧Fr a 79 [(1,(.pointer (some ⟨b5,0,none⟩))),(4,(.pointer (some ⟨b9,0,none⟩)))]∧St [] w0 w m [q8,q33,[⟨b9,[s1.v,s2.v,s3.v,s4.v,s8.v,s33.v,nilS.v],150⟩],[⟨b5,[s1.v,s2.v,s3.v,s4.v],50⟩]]∧Rd m s1 t_27.t.Rows∧t_27.t.Rows = p_t.Rows∧Rd m s2 t_27.t.Cols∧t_27.t.Cols = p_t.Cols∧Rd m s3 t_27.t.Lo∧t_27.t.Lo = p_t.Lo∧Rd m s4 t_27.t.Hi∧t_27.t.Hi = p_t.Hi∧OwnD m 28 3 q8 s8 t_27.x∧t_27.x = t_6∧OwnL m 3 q33 s33 t_27.rows) hl1 ⟨[],nilS,_,_,rfl,hF.sub ⟨rfl,rfl,rfl,rfl,rfl,trivial⟩,hS.sel [3,0,1,2] (by decide),h1,rfl,h2,rfl,h3,rfl,h4,rfl,h8,rfl,(OwnL.nil (α:=Int) m 3)⟩ ?_ ?_
 ·clear hF hS
  rintro s a w st ⟨q17,s17,t_10,t_11,rfl,hF,hS,h12,h12k,h13,h13k,h14,h14k,h15,h15k,h16,h16k,h17⟩ hb1
  unfold spec_tStart_l1 at hb1
  refine q_seq (q_region (q_x (v:=(.bool (decide (t_10 < (goLen p_t.Rows))))) hF hS (ex_ibin rfl rfl rfl) rfl rfl fun a hF=>q_end (n_sq (q_seq ?_))))
  rcases bcase (decide (t_10 < (goLen p_t.Rows))) with hc2 | hc2
  ·have hb1:=cond_f hc2 hb1
   refine q_cond_f hF rfl hc2 (q_exit (x_sq ?_))
   obtain rfl:=someI hb1
   exact ⟨nofun,.inl ⟨q17,s17,rfl,hF.sub ⟨rfl,rfl,trivial⟩,hS.sel [2,0,1,3] (by decide),h12,h12k,h13,h13k,h14,h14k,h15,h15k,h16,h16k,h17⟩⟩
  ·have hb1:=cond_t hc2 hb1
   refine q_cond_t hF rfl hc2 (q_skipc (n_sq (q_seq (q_block (q_seq (q_region (q_x (v:=(iV t_10)) hF hS (ex_move rfl) rfl rfl fun a hF=>?_)))))))
   obtain ⟨e_18,he_18,hb1⟩:=bindS hb1
   obtain ⟨vs19,at19,d19⟩:=h1.at he_18 1 rfl
   obtain rfl : vs19 = [(iV e_18)]:=d19
   refine q_x (v:=(elP s1 (t_10.toNat * 1))) hF hS (ex_indexAddr Try.underlying28 sz3 rfl rfl (h1.idx he_18)) rfl rfl fun a hF=>q_x (v:=(iV e_18)) hF hS (ex_loadE1 0 Try.underlying3 rfl rfl ((at19).at) rfl rfl) rfl rfl fun a hF=>q_x (v:=(iV t_10)) hF hS (ex_assign rfl) rfl rfl fun a hF=>q_x (v:=(iV e_18)) hF hS (ex_assign rfl) rfl rfl fun a hF=>q_end (n_sq (e_region ⟨[14,17],[],m⟩ mixed fun w' hw'=>?_))
   have hS:=hS.below hw'
   refine e_p (v:=(.pointer (some ⟨b9,0,none⟩))) 0 hF rfl (ex_move rfl) rfl rfl (by kernel_rfl) (by kernel_rfl) (by kernel_rfl) fun a hF=>e_p (v:=(.pointer (some ⟨b9,0,none⟩))) 1 hF rfl (ex_move rfl) rfl rfl (by kernel_rfl) (by kernel_rfl) (by kernel_rfl) fun a hF=>e_p (v:=(.pointer (some ⟨b9,0,none⟩))) 2 hF rfl (ex_nilCheck rfl) rfl rfl (by kernel_rfl) (by kernel_rfl) (by kernel_rfl) fun a hF=>e_p (v:=(.pointer (some ⟨b9,5,none⟩))) 3 hF rfl (ex_fieldAddr Try.underlying150 rfl sz28 rfl rfl) rfl rfl (by kernel_rfl) (by kernel_rfl) (by kernel_rfl) fun a hF=>e_x (v:=s17.v) 4 hF hS rfl (ex_load1 1 0 Try.underlying28 rfl rfl rfl rfl) rfl rfl (by kernel_rfl) (by kernel_rfl) (by kernel_rfl) (by kernel_rfl) fun a hF=>e_p (v:=(iV e_18)) 5 hF rfl (ex_move rfl) rfl rfl (by kernel_rfl) (by kernel_rfl) (by kernel_rfl) fun a hF=>e_p (v:=(.pointer (some ⟨b5,2,none⟩))) 6 hF rfl (ex_fieldAddr Try.underlying50 rfl sz23 rfl rfl) rfl rfl (by kernel_rfl) (by kernel_rfl) (by kernel_rfl) fun a hF=>e_p (v:=(iV t_10)) 8 hF rfl (ex_move rfl) rfl rfl (by kernel_rfl) (by kernel_rfl) (by kernel_rfl) fun a hF=>e_one 7 (by kernel_rfl) (e_lx (v:=s3.v) hF hS rfl (ex_load1 3 0 Try.underlying23 rfl rfl rfl rfl) rfl rfl fun a hF=>?_)
   obtain ⟨e_20,he_20,hb1⟩:=bindS hb1
   obtain ⟨vs21,at21,d21⟩:=h3.at he_20 1 rfl
   obtain ⟨s22,rfl,h22⟩ : ∃ s22 : Sl,vs21 = [s22.v]∧Rd m s22 e_20:=d21
   refine e_p (v:=(elP s3 (t_10.toNat * 1))) 9 hF rfl (ex_indexAddr Try.underlying23 sz28 rfl rfl (h3.idx he_20)) rfl rfl (by kernel_rfl) (by kernel_rfl) (by kernel_rfl) fun a hF=>e_xm (v:=s22.v) 10 hF hS (Mem.le.refl _) rfl (ex_loadE1 0 Try.underlying28 rfl rfl ((at21).at) rfl rfl) rfl rfl (by kernel_rfl) (by kernel_rfl) (by kernel_rfl) fun a hF=>e_one 11 (by kernel_rfl) ?_
   obtain ⟨t_23,ht_23,hb1⟩:=bindS hb1
   refine e_call (vs:=[s22.v]) hF hS rfl Try.func83 (by kernel_rfl) rfl rfl rfl (c_spec_tSum e_20 t_23 ht_23 _ m hS.vis s22 h22) ?_
   rintro a w _ rfl hF hS
   refine e_p (v:=(iV (w64 (e_18 - t_23)))) 12 hF rfl (ex_ibin rfl rfl rfl) rfl rfl (by kernel_rfl) (by kernel_rfl) (by kernel_rfl) fun a hF=>e_one 13 (by kernel_rfl) (e_op rfl rfl fun _ hK=>wp_buildSlice' (l:=([(w64 (e_18 - t_23))] : List Int)) (cells:=[(iV (w64 (e_18 - t_23)))]) hF hS Try.underlying28 inf3 rfl rfl (by kernel_rfl) rfl rfl rfl ⟨rfl,rfl⟩ rfl rfl fun a w q24 s24 hF hS h24 hb=>hK _ _ hb (e_one 14 (by kernel_rfl) ?_))
   have hS : St _ _ _ _ [q17,q24,[⟨b9,[s1.v,s2.v,s3.v,s4.v,s8.v,s17.v,nilS.v],150⟩],q8,[⟨b5,[s1.v,s2.v,s3.v,s4.v],50⟩]]:=hS.sel [1,0,2,3,4] (by decide)
   obtain ⟨l_25,hl_25,hb1⟩:=bindS hb1
   refine e_opl rfl rfl rfl fun _ hK=>wp_append hF hS h17 Try.underlying28 inf3 rfl rfl rfl rfl (h24.vw hS (j:=1) rfl) rfl (by decide) hl_25 rfl fun a w q26 s26 hF hS h26=>hK _ _ (⟨⟨kpN,fun _=>hS.vis.of_le (Mem.le.refl _)⟩,?_⟩)
   refine e_p (v:=(.pointer (some ⟨b9,0,none⟩))) 15 hF rfl (ex_nilCheck rfl) rfl rfl (by kernel_rfl) (by kernel_rfl) (by kernel_rfl) fun a hF=>e_p (v:=(.pointer (some ⟨b9,5,none⟩))) 16 hF rfl (ex_fieldAddr Try.underlying150 rfl sz28 rfl rfl) rfl rfl (by kernel_rfl) (by kernel_rfl) (by kernel_rfl) fun a hF=>e_one 17 (by kernel_rfl) (e_store (vs:=[s26.v]) (cs':=[s1.v,s2.v,s3.v,s4.v,s8.v,s26.v,nilS.v]) 2 0 hF hS rfl rfl sz28 rfl rfl rfl rfl rfl rfl rfl rfl fun a w hF hS=>⟨⟨kpN,fun _=>hS.vis.of_le (Mem.le.refl _)⟩,?_⟩)
   refine e_end (by kernel_rfl) (n_ib (n_sq ?_)) _
   refine q_region (q_x (v:=(iV (w64 (t_10 + 1)))) hF hS (ex_ibin rfl rfl rfl) rfl rfl fun a hF=>q_x (v:=(iV (w64 (t_10 + 1)))) hF hS (ex_move rfl) rfl rfl fun a hF=>q_end ?_)
   obtain rfl:=someI hb1
   exact ⟨rfl,q26,s26,_,_,rfl,hF.sub ⟨rfl,rfl,rfl,rfl,rfl,trivial⟩,hS.mask [true,false,true,true,true],h12,h12k,h13,h13k,h14,h14k,h15,h15k,h16,h16k,h26⟩
 ·rintro e a w ⟨q33,s33,rfl,hF,hS,h28,h28k,h29,h29k,h30,h30k,h31,h31k,h32,h32k,h33⟩
  refine x_ib (n_sq ?_)
  refine q_seq (q_seq (q_region (q_x (v:=(.pointer (some ⟨b5,1,none⟩))) hF hS (ex_fieldAddr Try.underlying50 rfl sz28 rfl rfl) rfl rfl fun a hF=>q_x (v:=s2.v) hF hS (ex_load1 3 0 Try.underlying28 rfl rfl rfl rfl) rfl rfl fun a hF=>q_x (v:=(iV (goLen p_t.Cols))) hF hS (ex_len Try.underlying28 rfl h2.len) rfl rfl fun a hF=>q_x (v:=(iV 0)) hF hS (ex_move rfl) rfl rfl fun a hF=>q_end (n_sq (q_block ?_)))))
  obtain ⟨t_53,hl3,hr⟩:=bindS hr
  refine q_loop (fun (s : Int × spec_tFill) a w=>∃ (q42 : Piece),∃ (s42 : Sl),∃ t_34,∃ t_35,s = (t_34,t_35)∧Fr a 79 [(1,(.pointer (some ⟨b5,0,none⟩))),(4,(.pointer (some ⟨b9,0,none⟩))),(42,s2.v),(43,(iV (goLen p_t.Cols))),(44,(iV t_34))]∧St [] w0 w m [q42,q8,q33,[⟨b9,[s1.v,s2.v,s3.v,s4.v,s8.v,s33.v,s42.v],150⟩],[⟨b5,[s1.v,s2.v,s3.v,s4.v],50⟩]]∧Rd m s1 t_35.t.Rows∧t_35.t.Rows = p_t.Rows∧Rd m s2 t_35.t.Cols∧t_35.t.Cols = p_t.Cols∧Rd m s3 t_35.t.Lo∧t_35.t.Lo = p_t.Lo∧Rd m s4 t_35.t.Hi∧t_35.t.Hi = p_t.Hi∧OwnD m 28 3 q8 s8 t_35.x∧t_35.x = t_6∧OwnL m 3 q33 s33 t_35.rows∧t_35.rows = t_27.rows∧OwnL m 3 q42 s42 t_35.cols) (fun (t_53 : spec_tFill) e a w=>∃ (q60 : Piece),∃ (s60 : Sl),e = .exit 2∧Fr a 79 [(4,(.pointer (some ⟨b9,0,none⟩)))]∧St [] w0 w m [q8,q33,q60,[⟨b9,[s1.v,s2.v,s3.v,s4.v,s8.v,s33.v,s60.v],150⟩]]∧Rd m s1 t_53.t.Rows∧t_53.t.Rows = p_t.Rows∧Rd m s2 t_53.t.Cols∧t_53.t.Cols = p_t.Cols∧Rd m s3 t_53.t.Lo∧t_53.t.Lo = p_t.Lo∧Rd m s4 t_53.t.Hi∧t_53.t.Hi = p_t.Hi∧OwnD m 28 3 q8 s8 t_53.x∧t_53.x = t_6∧OwnL m 3 q33 s33 t_53.rows∧t_53.rows = t_27.rows∧OwnL m 3 q60 s60 t_53.cols) hl3 ⟨[],nilS,_,_,rfl,hF.sub ⟨rfl,rfl,rfl,rfl,rfl,trivial⟩,hS.sel [4,0,1,2,3] (by decide),h28,h28k,h29,h29k,h30,h30k,h31,h31k,h32,h32k,h33,rfl,(OwnL.nil (α:=Int) m 3)⟩ ?_ ?_
  ·clear hF hS
   rintro s a w st ⟨q42,s42,t_34,t_35,rfl,hF,hS,h36,h36k,h37,h37k,h38,h38k,h39,h39k,h40,h40k,h41,h41k,h42⟩ hb3
   unfold spec_tStart_l2 at hb3
   refine q_seq (q_region (q_x (v:=(.bool (decide (t_34 < (goLen p_t.Cols))))) hF hS (ex_ibin rfl rfl rfl) rfl rfl fun a hF=>q_end (n_sq (q_seq ?_))))
   rcases bcase (decide (t_34 < (goLen p_t.Cols))) with hc4 | hc4
   ·have hb3:=cond_f hc4 hb3
    refine q_cond_f hF rfl hc4 (q_exit (x_sq ?_))
    obtain rfl:=someI hb3
    exact ⟨nofun,.inl ⟨q42,s42,rfl,hF.sub ⟨rfl,trivial⟩,hS.sel [1,2,0,3] (by decide),h36,h36k,h37,h37k,h38,h38k,h39,h39k,h40,h40k,h41,h41k,h42⟩⟩
   ·have hb3:=cond_t hc4 hb3
    refine q_cond_t hF rfl hc4 (q_skipc (n_sq (q_seq (q_block (q_seq (q_region (q_x (v:=(iV t_34)) hF hS (ex_move rfl) rfl rfl fun a hF=>?_)))))))
    obtain ⟨e_43,he_43,hb3⟩:=bindS hb3
    obtain ⟨vs44,at44,d44⟩:=h2.at he_43 1 rfl
    obtain rfl : vs44 = [(iV e_43)]:=d44
    refine q_x (v:=(elP s2 (t_34.toNat * 1))) hF hS (ex_indexAddr Try.underlying28 sz3 rfl rfl (h2.idx he_43)) rfl rfl fun a hF=>q_x (v:=(iV e_43)) hF hS (ex_loadE1 0 Try.underlying3 rfl rfl ((at44).at) rfl rfl) rfl rfl fun a hF=>q_x (v:=(iV t_34)) hF hS (ex_assign rfl) rfl rfl fun a hF=>q_x (v:=(iV e_43)) hF hS (ex_assign rfl) rfl rfl fun a hF=>q_end (n_sq (e_region ⟨[13,16],[],m⟩ mixed fun w' hw'=>?_))
    have hS:=hS.below hw'
    refine e_p (v:=(.pointer (some ⟨b9,0,none⟩))) 0 hF rfl (ex_move rfl) rfl rfl (by kernel_rfl) (by kernel_rfl) (by kernel_rfl) fun a hF=>e_p (v:=(.pointer (some ⟨b9,0,none⟩))) 1 hF rfl (ex_move rfl) rfl rfl (by kernel_rfl) (by kernel_rfl) (by kernel_rfl) fun a hF=>e_p (v:=(.pointer (some ⟨b9,0,none⟩))) 2 hF rfl (ex_nilCheck rfl) rfl rfl (by kernel_rfl) (by kernel_rfl) (by kernel_rfl) fun a hF=>e_p (v:=(.pointer (some ⟨b9,6,none⟩))) 3 hF rfl (ex_fieldAddr Try.underlying150 rfl sz28 rfl rfl) rfl rfl (by kernel_rfl) (by kernel_rfl) (by kernel_rfl) fun a hF=>e_x (v:=s42.v) 4 hF hS rfl (ex_load1 3 0 Try.underlying28 rfl rfl rfl rfl) rfl rfl (by kernel_rfl) (by kernel_rfl) (by kernel_rfl) (by kernel_rfl) fun a hF=>e_p (v:=(iV e_43)) 5 hF rfl (ex_move rfl) rfl rfl (by kernel_rfl) (by kernel_rfl) (by kernel_rfl) fun a hF=>e_p (v:=(.pointer (some ⟨b5,2,none⟩))) 6 hF rfl (ex_fieldAddr Try.underlying50 rfl sz23 rfl rfl) rfl rfl (by kernel_rfl) (by kernel_rfl) (by kernel_rfl) fun a hF=>e_p (v:=(iV t_34)) 8 hF rfl (ex_move rfl) rfl rfl (by kernel_rfl) (by kernel_rfl) (by kernel_rfl) fun a hF=>e_one 7 (by kernel_rfl) (e_lx (v:=s3.v) hF hS rfl (ex_load1 4 0 Try.underlying23 rfl rfl rfl rfl) rfl rfl fun a hF=>e_one 9 (by kernel_rfl) ?_)
    obtain ⟨t_45,ht_45,hb3⟩:=bindS hb3
    refine e_call (vs:=[s3.v,(iV t_34)]) hF hS rfl Try.func162 (by kernel_rfl) rfl rfl rfl (c_spec_tColumn p_t.Lo t_34 t_45 ht_45 _ m hS.vis s3 h3) ?_
    rintro a w _ ⟨q47,s47,rfl,hR46,h47⟩ hF hS2
    have hS : St _ _ _ _ [q47,q42,q8,q33,[⟨b9,[s1.v,s2.v,s3.v,s4.v,s8.v,s33.v,s42.v],150⟩],[⟨b5,[s1.v,s2.v,s3.v,s4.v],50⟩]]:=hS.joinF hR46
    refine e_one 10 (by kernel_rfl) ?_
    obtain ⟨m49,hl49,hv49,hz49⟩:=hS.lend
    obtain ⟨t_48,ht_48,hb3⟩:=bindS hb3
    refine e_call (vs:=[s47.v]) hF hS rfl Try.func83 (by kernel_rfl) rfl rfl rfl (c_spec_tSum t_45 t_48 ht_48 _ m49 hv49 s47 (h47.froz hl49 (hz49 0 _ rfl))) ?_
    rintro a w _ rfl hF hS
    refine e_p (v:=(iV (w64 (e_43 - t_48)))) 11 hF rfl (ex_ibin rfl rfl rfl) rfl rfl (by kernel_rfl) (by kernel_rfl) (by kernel_rfl) fun a hF=>e_one 12 (by kernel_rfl) (e_op rfl rfl fun _ hK=>wp_buildSlice' (l:=([(w64 (e_43 - t_48))] : List Int)) (cells:=[(iV (w64 (e_43 - t_48)))]) hF hS Try.underlying28 inf3 rfl rfl (by kernel_rfl) rfl rfl rfl ⟨rfl,rfl⟩ rfl rfl fun a w q50 s50 hF hS h50 hb=>hK _ _ hb (e_one 13 (by kernel_rfl) ?_))
    have hS : St _ _ _ _ [q42,q50,q47,q8,q33,[⟨b9,[s1.v,s2.v,s3.v,s4.v,s8.v,s33.v,s42.v],150⟩],[⟨b5,[s1.v,s2.v,s3.v,s4.v],50⟩]]:=hS.sel [2,0,1,3,4,5,6] (by decide)
    obtain ⟨l_51,hl_51,hb3⟩:=bindS hb3
    refine e_opl rfl rfl rfl fun _ hK=>wp_append hF hS h42 Try.underlying28 inf3 rfl rfl rfl rfl (h50.vw hS (j:=1) rfl) rfl (by decide) hl_51 rfl fun a w q52 s52 hF hS h52=>hK _ _ (⟨⟨kpN,fun _=>hS.vis.of_le (Mem.le.refl _)⟩,?_⟩)
    refine e_p (v:=(.pointer (some ⟨b9,0,none⟩))) 14 hF rfl (ex_nilCheck rfl) rfl rfl (by kernel_rfl) (by kernel_rfl) (by kernel_rfl) fun a hF=>e_p (v:=(.pointer (some ⟨b9,6,none⟩))) 15 hF rfl (ex_fieldAddr Try.underlying150 rfl sz28 rfl rfl) rfl rfl (by kernel_rfl) (by kernel_rfl) (by kernel_rfl) fun a hF=>e_one 16 (by kernel_rfl) (e_store (vs:=[s52.v]) (cs':=[s1.v,s2.v,s3.v,s4.v,s8.v,s33.v,s52.v]) 5 0 hF hS rfl rfl sz28 rfl rfl rfl rfl rfl rfl rfl rfl fun a w hF hS=>⟨⟨kpN,fun _=>hS.vis.of_le (Mem.le.refl _)⟩,?_⟩)
    refine e_end (by kernel_rfl) (n_ib (n_sq ?_)) _
    refine q_region (q_x (v:=(iV (w64 (t_34 + 1)))) hF hS (ex_ibin rfl rfl rfl) rfl rfl fun a hF=>q_x (v:=(iV (w64 (t_34 + 1)))) hF hS (ex_move rfl) rfl rfl fun a hF=>q_end ?_)
    obtain rfl:=someI hb3
    exact ⟨rfl,q52,s52,_,_,rfl,hF.sub ⟨rfl,rfl,rfl,rfl,rfl,trivial⟩,hS.mask [true,false,false,true,true,true,true],h36,h36k,h37,h37k,h38,h38k,h39,h39k,h40,h40k,h41,h41k,h52⟩
  ·rintro e a w ⟨q60,s60,rfl,hF,hS,h54,h54k,h55,h55k,h56,h56k,h57,h57k,h58,h58k,h59,h59k,h60⟩
   refine x_ib (n_sq ?_)
   refine q_seq ?_
   obtain ⟨t_65,hj5,hr⟩:=bindS hr
   refine q_join (fun a w=>Fr a 79 [(2,(.pointer (some ⟨b9,0,none⟩))),(3,(.bool t_65))]∧St [] w0 w m [q8,q33,q60,[⟨b9,[s1.v,s2.v,s3.v,s4.v,s8.v,s33.v,s60.v],150⟩]]) ?_ ?_
   ·refine q_region (q_x (v:=(.pointer (some ⟨b9,0,none⟩))) hF hS (ex_move rfl) rfl rfl fun a hF=>q_x (v:=(.pointer (some ⟨b9,0,none⟩))) hF hS (ex_move rfl) rfl rfl fun a hF=>q_x (v:=(.pointer (some ⟨b9,0,none⟩))) hF hS (ex_nilCheck rfl) rfl rfl fun a hF=>q_x (v:=(.pointer (some ⟨b9,5,none⟩))) hF hS (ex_fieldAddr Try.underlying150 rfl sz28 rfl rfl) rfl rfl fun a hF=>q_x (v:=s33.v) hF hS (ex_load1 3 0 Try.underlying28 rfl rfl rfl rfl) rfl rfl fun a hF=>?_)
    obtain ⟨m62,hl62,hv62,hz62⟩:=hS.lend
    obtain ⟨t_61,ht_61,hj5⟩:=bindS hj5
    refine q_call (vs:=[s33.v,(iV 0),(iV 100000)]) hF hS Try.func152 (by kernel_rfl) rfl rfl rfl (c_spec_l1All t_53.rows 0 100000 t_61 ht_61 _ m62 hv62 s33 (h59.froz hl62 (hz62 1 _ rfl))) ?_
    rintro a w _ rfl hF hS
    refine q_x (v:=(.bool t_61)) hF hS (ex_move rfl) rfl rfl fun a hF=>?_
    rcases bcase (t_61) with hc6 | hc6
    ·have hj5:=cond_f hc6 hj5
     refine q_skip hF (wanted_f hF rfl rfl rfl hc6 rfl) rfl fun a hF=>q_skip hF (wanted_f hF rfl rfl rfl hc6 rfl) rfl fun a hF=>q_skip hF (wanted_f hF rfl rfl rfl hc6 rfl) rfl fun a hF=>q_skip hF (wanted_f hF rfl rfl rfl hc6 rfl) rfl fun a hF=>q_skip hF (wanted_f hF rfl rfl rfl hc6 rfl) rfl fun a hF=>q_x (v:=(.bool false)) hF hS (ex_pick_f rfl rfl hc6) rfl rfl fun a hF=>q_x (v:=(.pointer (some ⟨b9,0,none⟩))) hF hS (ex_assign rfl) rfl rfl fun a hF=>q_x (v:=(.bool false)) hF hS (ex_assign rfl) rfl rfl fun a hF=>q_end (n_jn ?_)
     obtain rfl:=someI hj5
     exact ⟨hF.sub ⟨rfl,rfl,trivial⟩,hS⟩
    ·have hj5:=cond_t hc6 hj5
     refine q_xg (v:=(.pointer (some ⟨b9,0,none⟩))) hF hS (ex_move rfl) (wanted_t hF rfl rfl rfl hc6) rfl fun a hF=>q_xg (v:=(.pointer (some ⟨b9,0,none⟩))) hF hS (ex_nilCheck rfl) (wanted_t hF rfl rfl rfl hc6) rfl fun a hF=>q_xg (v:=(.pointer (some ⟨b9,6,none⟩))) hF hS (ex_fieldAddr Try.underlying150 rfl sz28 rfl rfl) (wanted_t hF rfl rfl rfl hc6) rfl fun a hF=>q_xg (v:=s60.v) hF hS (ex_load1 3 0 Try.underlying28 rfl rfl rfl rfl) (wanted_t hF rfl rfl rfl hc6) rfl fun a hF=>?_
     obtain ⟨m64,hl64,hv64,hz64⟩:=hS.lend
     obtain ⟨t_63,ht_63,hj5⟩:=bindS hj5
     refine q_callg (vs:=[s60.v,(iV 0),(iV 100000)]) hF hS (wanted_t hF rfl rfl rfl hc6) Try.func152 (by kernel_rfl) rfl rfl rfl (c_spec_l1All t_53.cols 0 100000 t_63 ht_63 _ m64 hv64 s60 (h60.froz hl64 (hz64 2 _ rfl))) ?_
     rintro a w _ rfl hF hS
     refine q_x (v:=(.bool t_63)) hF hS (ex_pick_t rfl rfl hc6) rfl rfl fun a hF=>q_x (v:=(.pointer (some ⟨b9,0,none⟩))) hF hS (ex_assign rfl) rfl rfl fun a hF=>q_x (v:=(.bool t_63)) hF hS (ex_assign rfl) rfl rfl fun a hF=>q_end (n_jn ?_)
     obtain rfl:=someI hj5
     exact ⟨hF.sub ⟨rfl,rfl,trivial⟩,hS⟩
   ·rintro a w ⟨hF,hS⟩
    refine n_sq (q_ret ?_)
    obtain rfl:=someI hr
    exact ret_of hF hS rfl (.tmp rfl (.tmp rfl .nil)) ⟨m,b9,q8,q33,q60,s1,s2,s3,s4,s8,s33,s60,rfl,(MLe.refl _ _),hS.sel [3,0,1,2] (by decide),h54,h55,h56,h57,h58,h59,h60⟩

theorem c_spec_tFill_room (p_f : spec_tFill) (p_v : Int) (p_k : Int) (r : Int) (hr : spec_tFill_room p_f p_v p_k = some r) (w0 : World) (m : Mem) (b_p_f : Nat) (s1 : Sl) (h1 : Rd m s1 p_f.t.Rows) (s2 : Sl) (h2 : Rd m s2 p_f.t.Cols) (s3 : Sl) (h3 : Rd m s3 p_f.t.Lo) (s4 : Sl) (h4 : Rd m s4 p_f.t.Hi) (s5 : Sl) (h5 : Rd m s5 p_f.x) (s6 : Sl) (h6 : Rd m s6 p_f.rows) (s7 : Sl) (h7 : Rd m s7 p_f.cols) (X : List Nat) (hS : St X w0 w0 m [[⟨b_p_f,[s1.v,s2.v,s3.v,s4.v,s5.v,s6.v,s7.v],150⟩]]) :
  RetX Try.prog 207 [(.pointer (some ⟨b_p_f,0,none⟩)),(iV p_v),(iV p_k)] w0 (fun v w=>v = (iV r)∧St X w0 w m [[⟨b_p_f,[s1.v,s2.v,s3.v,s4.v,s5.v,s6.v,s7.v],150⟩]]):=by
 unfold spec_tFill_room at hr
 refine ret_startX Try.func207 rfl 83 rfl rfl fun a hF=>q_seq (q_region (q_x (v:=(iV 0)) hF hS (ex_assign rfl) rfl rfl fun a hF=>q_end (n_sq (q_seq (q_region (q_x (v:=(.pointer (some ⟨b_p_f,0,none⟩))) hF hS (ex_move rfl) rfl rfl fun a hF=>q_x (v:=(.pointer (some ⟨b_p_f,0,none⟩))) hF hS (ex_nilCheck rfl) rfl rfl fun a hF=>q_x (v:=(.pointer (some ⟨b_p_f,5,none⟩))) hF hS (ex_fieldAddr Try.underlying150 rfl sz28 rfl rfl) rfl rfl fun a hF=>q_x (v:=s6.v) hF hS (ex_load1 0 0 Try.underlying28 rfl rfl rfl rfl) rfl rfl fun a hF=>q_x (v:=(iV (goLen p_f.rows))) hF hS (ex_len Try.underlying28 rfl h6.len) rfl rfl fun a hF=>q_x (v:=(iV (goLen p_f.rows))) hF hS (ex_assign rfl) rfl rfl fun a hF=>q_end (n_sq (q_seq (q_block (q_seq ?_))))))))))
 obtain ⟨t_8,hj1,hr⟩:=bindS hr
 refine q_join (fun a w=>Fr a 83 [(0,(.pointer (some ⟨b_p_f,0,none⟩))),(1,(iV p_v)),(2,(iV p_k)),(7,(iV (goLen p_f.rows))),(13,(.bool t_8))]∧St X w0 w m [[⟨b_p_f,[s1.v,s2.v,s3.v,s4.v,s5.v,s6.v,s7.v],150⟩]]) ?_ ?_
 ·refine q_region (q_x (v:=(iV p_v)) hF hS (ex_move rfl) rfl rfl fun a hF=>q_x (v:=(iV (goLen p_f.rows))) hF hS (ex_move rfl) rfl rfl fun a hF=>q_x (v:=(.bool (decide (p_v < (goLen p_f.rows))))) hF hS (ex_ibin rfl rfl rfl) rfl rfl fun a hF=>q_x (v:=(.bool (decide (p_v < (goLen p_f.rows))))) hF hS (ex_move rfl) rfl rfl fun a hF=>?_)
  rcases bcase (decide (p_v < (goLen p_f.rows))) with hc2 | hc2
  ·have hj1:=cond_f hc2 hj1
   refine q_skip hF (wanted_f hF rfl rfl rfl hc2 rfl) rfl fun a hF=>q_skip hF (wanted_f hF rfl rfl rfl hc2 rfl) rfl fun a hF=>q_skip hF (wanted_f hF rfl rfl rfl hc2 rfl) rfl fun a hF=>q_x (v:=(.bool false)) hF hS (ex_pick_f rfl rfl hc2) rfl rfl fun a hF=>q_x (v:=(.bool false)) hF hS (ex_assign rfl) rfl rfl fun a hF=>q_end (n_jn ?_)
   obtain rfl:=someI hj1
   exact ⟨hF.sub ⟨rfl,rfl,rfl,rfl,rfl,trivial⟩,hS⟩
  ·have hj1:=cond_t hc2 hj1
   refine q_xg (v:=(iV p_k)) hF hS (ex_move rfl) (wanted_t hF rfl rfl rfl hc2) rfl fun a hF=>q_xg (v:=(iV (goLen p_f.rows))) hF hS (ex_move rfl) (wanted_t hF rfl rfl rfl hc2) rfl fun a hF=>q_xg (v:=(.bool (decide ((goLen p_f.rows) ≤ p_k)))) hF hS (ex_ibin rfl rfl rfl) (wanted_t hF rfl rfl rfl hc2) rfl fun a hF=>q_x (v:=(.bool (decide ((goLen p_f.rows) ≤ p_k)))) hF hS (ex_pick_t rfl rfl hc2) rfl rfl fun a hF=>q_x (v:=(.bool (decide ((goLen p_f.rows) ≤ p_k)))) hF hS (ex_assign rfl) rfl rfl fun a hF=>q_end (n_jn ?_)
   obtain rfl:=someI hj1
   exact ⟨hF.sub ⟨rfl,rfl,rfl,rfl,rfl,trivial⟩,hS⟩
 ·rintro a w ⟨hF,hS⟩
  refine n_sq ?_
  rcases bcase (t_8) with hc3 | hc3
  ·have hr:=cond_f hc3 hr
   refine q_cond_f hF rfl hc3 (q_seq ?_)
   obtain ⟨t_9,hj4,hr⟩:=bindS hr
   refine q_join (fun a w=>Fr a 83 [(0,(.pointer (some ⟨b_p_f,0,none⟩))),(1,(iV p_v)),(2,(iV p_k)),(7,(iV (goLen p_f.rows))),(48,(.bool t_9))]∧St X w0 w m [[⟨b_p_f,[s1.v,s2.v,s3.v,s4.v,s5.v,s6.v,s7.v],150⟩]]) ?_ ?_
   ·refine q_region (q_x (v:=(iV p_v)) hF hS (ex_move rfl) rfl rfl fun a hF=>q_x (v:=(iV (goLen p_f.rows))) hF hS (ex_move rfl) rfl rfl fun a hF=>q_x (v:=(.bool (decide ((goLen p_f.rows) ≤ p_v)))) hF hS (ex_ibin rfl rfl rfl) rfl rfl fun a hF=>q_x (v:=(.bool (decide ((goLen p_f.rows) ≤ p_v)))) hF hS (ex_move rfl) rfl rfl fun a hF=>?_)
    rcases bcase (decide ((goLen p_f.rows) ≤ p_v)) with hc5 | hc5
    ·have hj4:=cond_f hc5 hj4
     refine q_skip hF (wanted_f hF rfl rfl rfl hc5 rfl) rfl fun a hF=>q_skip hF (wanted_f hF rfl rfl rfl hc5 rfl) rfl fun a hF=>q_skip hF (wanted_f hF rfl rfl rfl hc5 rfl) rfl fun a hF=>q_x (v:=(.bool false)) hF hS (ex_pick_f rfl rfl hc5) rfl rfl fun a hF=>q_x (v:=(.bool false)) hF hS (ex_assign rfl) rfl rfl fun a hF=>q_end (n_jn ?_)
     obtain rfl:=someI hj4
     exact ⟨hF.sub ⟨rfl,rfl,rfl,rfl,rfl,trivial⟩,hS⟩
    ·have hj4:=cond_t hc5 hj4
     refine q_xg (v:=(iV p_k)) hF hS (ex_move rfl) (wanted_t hF rfl rfl rfl hc5) rfl fun a hF=>q_xg (v:=(iV (goLen p_f.rows))) hF hS (ex_move rfl) (wanted_t hF rfl rfl rfl hc5) rfl fun a hF=>q_xg (v:=(.bool (decide (p_k < (goLen p_f.rows))))) hF hS (ex_ibin rfl rfl rfl) (wanted_t hF rfl rfl rfl hc5) rfl fun a hF=>q_x (v:=(.bool (decide (p_k < (goLen p_f.rows))))) hF hS (ex_pick_t rfl rfl hc5) rfl rfl fun a hF=>q_x (v:=(.bool (decide (p_k < (goLen p_f.rows))))) hF hS (ex_assign rfl) rfl rfl fun a hF=>q_end (n_jn ?_)
     obtain rfl:=someI hj4
     exact ⟨hF.sub ⟨rfl,rfl,rfl,rfl,rfl,trivial⟩,hS⟩
   ·rintro a w ⟨hF,hS⟩
    refine n_sq ?_
    rcases bcase (t_9) with hc6 | hc6
    ·have hr:=cond_f hc6 hr
     refine q_cond_f hF rfl hc6 (q_skipc (n_ib (n_sq (q_seq (q_region (q_x (v:=(iV 0)) hF hS (ex_assign rfl) rfl rfl fun a hF=>q_end (n_sq (q_ret ?_))))))))
     obtain rfl:=someI hr
     exact ret_ofX hF hS rfl (.tmp rfl .nil) ⟨rfl,hS.sel [0] (by decide)⟩
    ·have hr:=cond_t hc6 hr
     refine q_cond_t hF rfl hc6 (q_seq (e_region ⟨[],[],m⟩ mixed fun w' hw'=>?_))
     have hS:=hS.below hw'
     refine e_p (v:=(.pointer (some ⟨b_p_f,0,none⟩))) 0 hF rfl (ex_move rfl) rfl rfl (by kernel_rfl) (by kernel_rfl) (by kernel_rfl) fun a hF=>e_p (v:=(.pointer (some ⟨b_p_f,0,none⟩))) 1 hF rfl (ex_nilCheck rfl) rfl rfl (by kernel_rfl) (by kernel_rfl) (by kernel_rfl) fun a hF=>e_p (v:=(.pointer (some ⟨b_p_f,4,none⟩))) 2 hF rfl (ex_fieldAddr Try.underlying150 rfl sz23 rfl rfl) rfl rfl (by kernel_rfl) (by kernel_rfl) (by kernel_rfl) fun a hF=>e_x (v:=s5.v) 3 hF hS rfl (ex_load1 0 0 Try.underlying23 rfl rfl rfl rfl) rfl rfl (by kernel_rfl) (by kernel_rfl) (by kernel_rfl) (by kernel_rfl) fun a hF=>e_p (v:=(iV p_k)) 4 hF rfl (ex_move rfl) rfl rfl (by kernel_rfl) (by kernel_rfl) (by kernel_rfl) fun a hF=>?_
     obtain ⟨e_10,he_10,hr⟩:=bindS hr
     obtain ⟨vs11,at11,d11⟩:=h5.at he_10 1 rfl
     obtain ⟨s12,rfl,h12⟩ : ∃ s12 : Sl,vs11 = [s12.v]∧Rd m s12 e_10:=d11
     refine e_p (v:=(elP s5 (p_k.toNat * 1))) 5 hF rfl (ex_indexAddr Try.underlying23 sz28 rfl rfl (h5.idx he_10)) rfl rfl (by kernel_rfl) (by kernel_rfl) (by kernel_rfl) fun a hF=>e_xm (v:=s12.v) 6 hF hS (Mem.le.refl _) rfl (ex_loadE1 0 Try.underlying28 rfl rfl ((at11).at) rfl rfl) rfl rfl (by kernel_rfl) (by kernel_rfl) (by kernel_rfl) fun a hF=>e_p (v:=(iV p_v)) 7 hF rfl (ex_move rfl) rfl rfl (by kernel_rfl) (by kernel_rfl) (by kernel_rfl) fun a hF=>e_p (v:=(iV (goLen p_f.rows))) 8 hF rfl (ex_move rfl) rfl rfl (by kernel_rfl) (by kernel_rfl) (by kernel_rfl) fun a hF=>e_p (v:=(iV (w64 (p_v - (goLen p_f.rows))))) 9 hF rfl (ex_ibin rfl rfl rfl) rfl rfl (by kernel_rfl) (by kernel_rfl) (by kernel_rfl) fun a hF=>?_
     obtain ⟨e_13,he_13,hr⟩:=bindS hr
     obtain ⟨vs14,at14,d14⟩:=h12.at he_13 1 rfl
     obtain rfl : vs14 = [(iV e_13)]:=d14
     refine e_p (v:=(elP s12 ((w64 (p_v - (goLen p_f.rows))).toNat * 1))) 10 hF rfl (ex_indexAddr Try.underlying28 sz3 rfl rfl (h12.idx he_13)) rfl rfl (by kernel_rfl) (by kernel_rfl) (by kernel_rfl) fun a hF=>e_xm (v:=(iV e_13)) 11 hF hS (Mem.le.refl _) rfl (ex_loadE1 0 Try.underlying3 rfl rfl ((at14).at) rfl rfl) rfl rfl (by kernel_rfl) (by kernel_rfl) (by kernel_rfl) fun a hF=>e_p (v:=(.pointer (some ⟨b_p_f,0,none⟩))) 12 hF rfl (ex_move rfl) rfl rfl (by kernel_rfl) (by kernel_rfl) (by kernel_rfl) fun a hF=>e_p (v:=(.pointer (some ⟨b_p_f,0,none⟩))) 13 hF rfl (ex_nilCheck rfl) rfl rfl (by kernel_rfl) (by kernel_rfl) (by kernel_rfl) fun a hF=>e_p (v:=(.pointer (some ⟨b_p_f,0,none⟩))) 14 hF rfl (ex_fieldAddr Try.underlying150 rfl sz50 rfl rfl) rfl rfl (by kernel_rfl) (by kernel_rfl) (by kernel_rfl) fun a hF=>e_p (v:=(.pointer (some ⟨b_p_f,2,none⟩))) 15 hF rfl (ex_fieldAddr Try.underlying50 rfl sz23 rfl rfl) rfl rfl (by kernel_rfl) (by kernel_rfl) (by kernel_rfl) fun a hF=>e_x (v:=s3.v) 16 hF hS rfl (ex_load1 0 0 Try.underlying23 rfl rfl rfl rfl) rfl rfl (by kernel_rfl) (by kernel_rfl) (by kernel_rfl) (by kernel_rfl) fun a hF=>e_p (v:=(iV p_k)) 17 hF rfl (ex_move rfl) rfl rfl (by kernel_rfl) (by kernel_rfl) (by kernel_rfl) fun a hF=>?_
     obtain ⟨e_15,he_15,hr⟩:=bindS hr
     obtain ⟨vs16,at16,d16⟩:=h3.at he_15 1 rfl
     obtain ⟨s17,rfl,h17⟩ : ∃ s17 : Sl,vs16 = [s17.v]∧Rd m s17 e_15:=d16
     refine e_p (v:=(elP s3 (p_k.toNat * 1))) 18 hF rfl (ex_indexAddr Try.underlying23 sz28 rfl rfl (h3.idx he_15)) rfl rfl (by kernel_rfl) (by kernel_rfl) (by kernel_rfl) fun a hF=>e_xm (v:=s17.v) 19 hF hS (Mem.le.refl _) rfl (ex_loadE1 0 Try.underlying28 rfl rfl ((at16).at) rfl rfl) rfl rfl (by kernel_rfl) (by kernel_rfl) (by kernel_rfl) fun a hF=>e_p (v:=(iV p_v)) 20 hF rfl (ex_move rfl) rfl rfl (by kernel_rfl) (by kernel_rfl) (by kernel_rfl) fun a hF=>e_p (v:=(iV (goLen p_f.rows))) 21 hF rfl (ex_move rfl) rfl rfl (by kernel_rfl) (by kernel_rfl) (by kernel_rfl) fun a hF=>e_p (v:=(iV (w64 (p_v - (goLen p_f.rows))))) 22 hF rfl (ex_ibin rfl rfl rfl) rfl rfl (by kernel_rfl) (by kernel_rfl) (by kernel_rfl) fun a hF=>?_
     obtain ⟨e_18,he_18,hr⟩:=bindS hr
     obtain ⟨vs19,at19,d19⟩:=h17.at he_18 1 rfl
     obtain rfl : vs19 = [(iV e_18)]:=d19
     refine e_p (v:=(elP s17 ((w64 (p_v - (goLen p_f.rows))).toNat * 1))) 23 hF rfl (ex_indexAddr Try.underlying28 sz3 rfl rfl (h17.idx he_18)) rfl rfl (by kernel_rfl) (by kernel_rfl) (by kernel_rfl) fun a hF=>e_xm (v:=(iV e_18)) 24 hF hS (Mem.le.refl _) rfl (ex_loadE1 0 Try.underlying3 rfl rfl ((at19).at) rfl rfl) rfl rfl (by kernel_rfl) (by kernel_rfl) (by kernel_rfl) fun a hF=>e_p (v:=(iV (w64 (e_13 - e_18)))) 25 hF rfl (ex_ibin rfl rfl rfl) rfl rfl (by kernel_rfl) (by kernel_rfl) (by kernel_rfl) fun a hF=>e_p (v:=(iV (w64 (e_13 - e_18)))) 26 hF rfl (ex_assign rfl) rfl rfl (by kernel_rfl) (by kernel_rfl) (by kernel_rfl) fun a hF=>e_end (by kernel_rfl) (n_sq (q_ret (r_ib (r_sq ?_)))) _
     obtain rfl:=someI hr
     exact ret_ofX hF hS rfl (.tmp rfl .nil) ⟨rfl,hS.sel [0] (by decide)⟩
  ·have hr:=cond_t hc3 hr
   refine q_cond_t hF rfl hc3 (q_seq (e_region ⟨[],[],m⟩ mixed fun w' hw'=>?_))
   have hS:=hS.below hw'
   refine e_p (v:=(.pointer (some ⟨b_p_f,0,none⟩))) 0 hF rfl (ex_move rfl) rfl rfl (by kernel_rfl) (by kernel_rfl) (by kernel_rfl) fun a hF=>e_p (v:=(.pointer (some ⟨b_p_f,0,none⟩))) 1 hF rfl (ex_nilCheck rfl) rfl rfl (by kernel_rfl) (by kernel_rfl) (by kernel_rfl) fun a hF=>e_p (v:=(.pointer (some ⟨b_p_f,0,none⟩))) 2 hF rfl (ex_fieldAddr Try.underlying150 rfl sz50 rfl rfl) rfl rfl (by kernel_rfl) (by kernel_rfl) (by kernel_rfl) fun a hF=>e_p (v:=(.pointer (some ⟨b_p_f,3,none⟩))) 3 hF rfl (ex_fieldAddr Try.underlying50 rfl sz23 rfl rfl) rfl rfl (by kernel_rfl) (by kernel_rfl) (by kernel_rfl) fun a hF=>e_x (v:=s4.v) 4 hF hS rfl (ex_load1 0 0 Try.underlying23 rfl rfl rfl rfl) rfl rfl (by kernel_rfl) (by kernel_rfl) (by kernel_rfl) (by kernel_rfl) fun a hF=>e_p (v:=(iV p_v)) 5 hF rfl (ex_move rfl) rfl rfl (by kernel_rfl) (by kernel_rfl) (by kernel_rfl) fun a hF=>?_
   obtain ⟨e_20,he_20,hr⟩:=bindS hr
   obtain ⟨vs21,at21,d21⟩:=h4.at he_20 1 rfl
   obtain ⟨s22,rfl,h22⟩ : ∃ s22 : Sl,vs21 = [s22.v]∧Rd m s22 e_20:=d21
   refine e_p (v:=(elP s4 (p_v.toNat * 1))) 6 hF rfl (ex_indexAddr Try.underlying23 sz28 rfl rfl (h4.idx he_20)) rfl rfl (by kernel_rfl) (by kernel_rfl) (by kernel_rfl) fun a hF=>e_xm (v:=s22.v) 7 hF hS (Mem.le.refl _) rfl (ex_loadE1 0 Try.underlying28 rfl rfl ((at21).at) rfl rfl) rfl rfl (by kernel_rfl) (by kernel_rfl) (by kernel_rfl) fun a hF=>e_p (v:=(iV p_k)) 8 hF rfl (ex_move rfl) rfl rfl (by kernel_rfl) (by kernel_rfl) (by kernel_rfl) fun a hF=>e_p (v:=(iV (goLen p_f.rows))) 9 hF rfl (ex_move rfl) rfl rfl (by kernel_rfl) (by kernel_rfl) (by kernel_rfl) fun a hF=>e_p (v:=(iV (w64 (p_k - (goLen p_f.rows))))) 10 hF rfl (ex_ibin rfl rfl rfl) rfl rfl (by kernel_rfl) (by kernel_rfl) (by kernel_rfl) fun a hF=>?_
   obtain ⟨e_23,he_23,hr⟩:=bindS hr
   obtain ⟨vs24,at24,d24⟩:=h22.at he_23 1 rfl
   obtain rfl : vs24 = [(iV e_23)]:=d24
   refine e_p (v:=(elP s22 ((w64 (p_k - (goLen p_f.rows))).toNat * 1))) 11 hF rfl (ex_indexAddr Try.underlying28 sz3 rfl rfl (h22.idx he_23)) rfl rfl (by kernel_rfl) (by kernel_rfl) (by kernel_rfl) fun a hF=>e_xm (v:=(iV e_23)) 12 hF hS (Mem.le.refl _) rfl (ex_loadE1 0 Try.underlying3 rfl rfl ((at24).at) rfl rfl) rfl rfl (by kernel_rfl) (by kernel_rfl) (by kernel_rfl) fun a hF=>e_p (v:=(.pointer (some ⟨b_p_f,0,none⟩))) 13 hF rfl (ex_move rfl) rfl rfl (by kernel_rfl) (by kernel_rfl) (by kernel_rfl) fun a hF=>e_p (v:=(.pointer (some ⟨b_p_f,0,none⟩))) 14 hF rfl (ex_nilCheck rfl) rfl rfl (by kernel_rfl) (by kernel_rfl) (by kernel_rfl) fun a hF=>e_p (v:=(.pointer (some ⟨b_p_f,4,none⟩))) 15 hF rfl (ex_fieldAddr Try.underlying150 rfl sz23 rfl rfl) rfl rfl (by kernel_rfl) (by kernel_rfl) (by kernel_rfl) fun a hF=>e_x (v:=s5.v) 16 hF hS rfl (ex_load1 0 0 Try.underlying23 rfl rfl rfl rfl) rfl rfl (by kernel_rfl) (by kernel_rfl) (by kernel_rfl) (by kernel_rfl) fun a hF=>e_p (v:=(iV p_v)) 17 hF rfl (ex_move rfl) rfl rfl (by kernel_rfl) (by kernel_rfl) (by kernel_rfl) fun a hF=>?_
   obtain ⟨e_25,he_25,hr⟩:=bindS hr
   obtain ⟨vs26,at26,d26⟩:=h5.at he_25 1 rfl
   obtain ⟨s27,rfl,h27⟩ : ∃ s27 : Sl,vs26 = [s27.v]∧Rd m s27 e_25:=d26
   refine e_p (v:=(elP s5 (p_v.toNat * 1))) 18 hF rfl (ex_indexAddr Try.underlying23 sz28 rfl rfl (h5.idx he_25)) rfl rfl (by kernel_rfl) (by kernel_rfl) (by kernel_rfl) fun a hF=>e_xm (v:=s27.v) 19 hF hS (Mem.le.refl _) rfl (ex_loadE1 0 Try.underlying28 rfl rfl ((at26).at) rfl rfl) rfl rfl (by kernel_rfl) (by kernel_rfl) (by kernel_rfl) fun a hF=>e_p (v:=(iV p_k)) 20 hF rfl (ex_move rfl) rfl rfl (by kernel_rfl) (by kernel_rfl) (by kernel_rfl) fun a hF=>e_p (v:=(iV (goLen p_f.rows))) 21 hF rfl (ex_move rfl) rfl rfl (by kernel_rfl) (by kernel_rfl) (by kernel_rfl) fun a hF=>e_p (v:=(iV (w64 (p_k - (goLen p_f.rows))))) 22 hF rfl (ex_ibin rfl rfl rfl) rfl rfl (by kernel_rfl) (by kernel_rfl) (by kernel_rfl) fun a hF=>?_
   obtain ⟨e_28,he_28,hr⟩:=bindS hr
   obtain ⟨vs29,at29,d29⟩:=h27.at he_28 1 rfl
   obtain rfl : vs29 = [(iV e_28)]:=d29
   refine e_p (v:=(elP s27 ((w64 (p_k - (goLen p_f.rows))).toNat * 1))) 23 hF rfl (ex_indexAddr Try.underlying28 sz3 rfl rfl (h27.idx he_28)) rfl rfl (by kernel_rfl) (by kernel_rfl) (by kernel_rfl) fun a hF=>e_xm (v:=(iV e_28)) 24 hF hS (Mem.le.refl _) rfl (ex_loadE1 0 Try.underlying3 rfl rfl ((at29).at) rfl rfl) rfl rfl (by kernel_rfl) (by kernel_rfl) (by kernel_rfl) fun a hF=>e_p (v:=(iV (w64 (e_23 - e_28)))) 25 hF rfl (ex_ibin rfl rfl rfl) rfl rfl (by kernel_rfl) (by kernel_rfl) (by kernel_rfl) fun a hF=>e_p (v:=(iV (w64 (e_23 - e_28)))) 26 hF rfl (ex_assign rfl) rfl rfl (by kernel_rfl) (by kernel_rfl) (by kernel_rfl) fun a hF=>e_end (by kernel_rfl) (n_sq (q_ret (r_ib (r_sq ?_)))) _
   obtain rfl:=someI hr
   exact ret_ofX hF hS rfl (.tmp rfl .nil) ⟨rfl,hS.sel [0] (by decide)⟩

theorem c_spec_l1Least (p_a : Int) (p_b : Int) (r : Int) (hr : spec_l1Least p_a p_b = some r) (w0 : World) (m : Mem) (hv : Vis m w0) :
  Ret Try.prog 209 [(iV p_a),(iV p_b)] w0 (fun v _=>v = (iV r)):=by
 unfold spec_l1Least at hr
 refine ret_start Try.func209 rfl 10 rfl rfl m hv fun a hF hS=>q_seq (q_region (q_x (v:=(iV 0)) hF hS (ex_assign rfl) rfl rfl fun a hF=>q_end (n_sq (q_seq (q_seq (q_region (q_x (v:=(iV p_a)) hF hS (ex_move rfl) rfl rfl fun a hF=>q_x (v:=(iV p_b)) hF hS (ex_move rfl) rfl rfl fun a hF=>q_x (v:=(.bool (decide (p_a < p_b)))) hF hS (ex_ibin rfl rfl rfl) rfl rfl fun a hF=>q_end (n_sq ?_))))))))
 rcases bcase (decide (p_a < p_b)) with hc1 | hc1
 ·have hr:=cond_f hc1 hr
  refine q_cond_f hF rfl hc1 (q_skipc (n_sq (q_seq (q_region (q_x (v:=(iV p_b)) hF hS (ex_move rfl) rfl rfl fun a hF=>q_x (v:=(iV p_b)) hF hS (ex_assign rfl) rfl rfl fun a hF=>q_end (n_sq (q_ret ?_)))))))
  obtain rfl:=someI hr
  exact ret_of hF hS rfl (.tmp rfl .nil) rfl
 ·have hr:=cond_t hc1 hr
  refine q_cond_t hF rfl hc1 (q_seq (q_region (q_x (v:=(iV p_a)) hF hS (ex_move rfl) rfl rfl fun a hF=>q_x (v:=(iV p_a)) hF hS (ex_assign rfl) rfl rfl fun a hF=>q_end (n_sq (q_ret (r_sq ?_))))))
  obtain rfl:=someI hr
  exact ret_of hF hS rfl (.tmp rfl .nil) rfl

theorem c_spec_tFill_push (p_f : spec_tFill) (p_from : List Int) (p_end : Int) (r : spec_tFill) (hr : spec_tFill_push p_f p_from p_end = some r) (w0 : World) (m : Mem) (b_p_f : Nat) (s1 : Sl) (h1 : Rd m s1 p_f.t.Rows) (s2 : Sl) (h2 : Rd m s2 p_f.t.Cols) (s3 : Sl) (h3 : Rd m s3 p_f.t.Lo) (s4 : Sl) (h4 : Rd m s4 p_f.t.Hi) (s5 : Sl) (q5 : Piece) (h5 : OwnD m 28 3 q5 s5 p_f.x) (s6 : Sl) (q6 : Piece) (h6 : OwnL m 3 q6 s6 p_f.rows) (s7 : Sl) (q7 : Piece) (h7 : OwnL m 3 q7 s7 p_f.cols) (s8 : Sl) (h8 : Rd m s8 p_from) (X : List Nat) (hS : St X w0 w0 m [[⟨b_p_f,[s1.v,s2.v,s3.v,s4.v,s5.v,s6.v,s7.v],150⟩],q5,q6,q7]) :
  RetX Try.prog 206 [(.pointer (some ⟨b_p_f,0,none⟩)),s8.v,(iV p_end)] w0 (fun v w=>∃ (q4' : Piece) (q5' : Piece) (q6' : Piece) (s4' : Sl) (s5' : Sl) (s6' : Sl),v = (.tuple #[])∧St X w0 w m [[⟨b_p_f,[s1.v,s2.v,s3.v,s4.v,s4'.v,s5'.v,s6'.v],150⟩],q4',q5',q6']∧r.t.Rows = p_f.t.Rows∧r.t.Cols = p_f.t.Cols∧r.t.Lo = p_f.t.Lo∧r.t.Hi = p_f.t.Hi∧OwnD m 28 3 q4' s4' r.x∧OwnL m 3 q5' s5' r.rows∧OwnL m 3 q6' s6' r.cols):=by
 unfold spec_tFill_push at hr
 refine ret_startX Try.func206 rfl 123 rfl rfl fun a hF=>q_seq (q_region (q_x (v:=(.pointer (some ⟨b_p_f,0,none⟩))) hF hS (ex_move rfl) rfl rfl fun a hF=>q_x (v:=(.pointer (some ⟨b_p_f,0,none⟩))) hF hS (ex_nilCheck rfl) rfl rfl fun a hF=>q_x (v:=(.pointer (some ⟨b_p_f,5,none⟩))) hF hS (ex_fieldAddr Try.underlying150 rfl sz28 rfl rfl) rfl rfl fun a hF=>q_x (v:=s6.v) hF hS (ex_load1 0 0 Try.underlying28 rfl rfl rfl rfl) rfl rfl fun a hF=>q_x (v:=(iV (goLen p_f.rows))) hF hS (ex_len Try.underlying28 rfl h6.len) rfl rfl fun a hF=>q_x (v:=(iV (goLen p_f.rows))) hF hS (ex_assign rfl) rfl rfl fun a hF=>q_end (n_sq (q_seq (q_region (q_x (v:=(.pointer (some ⟨b_p_f,0,none⟩))) hF hS (ex_move rfl) rfl rfl fun a hF=>q_x (v:=(.pointer (some ⟨b_p_f,0,none⟩))) hF hS (ex_nilCheck rfl) rfl rfl fun a hF=>q_x (v:=(.pointer (some ⟨b_p_f,6,none⟩))) hF hS (ex_fieldAddr Try.underlying150 rfl sz28 rfl rfl) rfl rfl fun a hF=>q_x (v:=s7.v) hF hS (ex_load1 0 0 Try.underlying28 rfl rfl rfl rfl) rfl rfl fun a hF=>q_x (v:=(iV p_end)) hF hS (ex_move rfl) rfl rfl fun a hF=>q_x (v:=(iV (goLen p_f.rows))) hF hS (ex_move rfl) rfl rfl fun a hF=>q_x (v:=(iV (w64 (p_end - (goLen p_f.rows))))) hF hS (ex_ibin rfl rfl rfl) rfl rfl fun a hF=>?_))))))
 obtain ⟨e_9,he_9,hr⟩:=bindS hr
 obtain ⟨vs10,at10,d10⟩:=h7.at he_9 1 rfl
 obtain rfl : vs10 = [(iV e_9)]:=d10
 refine q_x (v:=(elP s7 ((w64 (p_end - (goLen p_f.rows))).toNat * 1))) hF hS (ex_indexAddr Try.underlying28 sz3 rfl rfl (h7.idx he_9)) rfl rfl fun a hF=>q_x (v:=(iV e_9)) hF hS (ex_loadE1 0 Try.underlying3 rfl rfl (at10.at 3 rfl) rfl rfl) rfl rfl fun a hF=>q_x (v:=(iV e_9)) hF hS (ex_assign rfl) rfl rfl fun a hF=>q_end (n_sq (q_seq (q_region (q_x (v:=(iV p_end)) hF hS (ex_move rfl) rfl rfl fun a hF=>q_x (v:=(iV p_end)) hF hS (ex_assign rfl) rfl rfl fun a hF=>q_end (n_sq (q_seq (q_block ?_)))))))
 obtain ⟨o1,hl1,hr⟩:=bindS hr
 refine q_loop (fun (s : Int × Int) a w=>∃ most_11,∃ start_12,s = (most_11,start_12)∧Fr a 123 [(0,(.pointer (some ⟨b_p_f,0,none⟩))),(1,s8.v),(2,(iV p_end)),(6,(iV (goLen p_f.rows))),(7,(iV most_11)),(8,(iV start_12))]∧St X w0 w m [[⟨b_p_f,[s1.v,s2.v,s3.v,s4.v,s5.v,s6.v,s7.v],150⟩],q5,q6,q7]) (fun (o : Int × Int) e a w=>∃ most_22,∃ start_23,o = (most_22,start_23)∧e = .exit 0∧Fr a 123 [(0,(.pointer (some ⟨b_p_f,0,none⟩))),(1,s8.v),(2,(iV p_end)),(6,(iV (goLen p_f.rows))),(7,(iV most_22)),(8,(iV start_23))]∧St X w0 w m [q5,q6,q7,[⟨b_p_f,[s1.v,s2.v,s3.v,s4.v,s5.v,s6.v,s7.v],150⟩]]) hl1 ⟨_,_,rfl,hF.sub ⟨rfl,rfl,rfl,rfl,rfl,rfl,trivial⟩,hS⟩ ?_ ?_
 ·clear hF hS
  rintro s a w st ⟨most_11,start_12,rfl,hF,hS⟩ hb1
  unfold spec_tFill_push_l1 at hb1
  refine q_seq (q_seq (q_region (q_x (v:=s8.v) hF hS (ex_move rfl) rfl rfl fun a hF=>q_x (v:=(iV start_12)) hF hS (ex_move rfl) rfl rfl fun a hF=>?_)))
  obtain ⟨e_13,he_13,hb1⟩:=bindS hb1
  obtain ⟨vs14,at14,d14⟩:=h8.at he_13 1 rfl
  obtain rfl : vs14 = [(iV e_13)]:=d14
  refine q_x (v:=(elP s8 (start_12.toNat * 1))) hF hS (ex_indexAddr Try.underlying28 sz3 rfl rfl (h8.idx he_13)) rfl rfl fun a hF=>q_x (v:=(iV e_13)) hF hS (ex_loadE1 0 Try.underlying3 rfl rfl ((at14).at) rfl rfl) rfl rfl fun a hF=>q_x (v:=(.bool (decide (0 ≤ e_13)))) hF hS (ex_ibin rfl rfl rfl) rfl rfl fun a hF=>q_end (n_sq ?_)
  rcases bcase (decide (0 ≤ e_13)) with hc2 | hc2
  ·have hb1:=cond_f hc2 hb1
   refine q_cond_f hF rfl hc2 (q_exit (x_sq ?_))
   obtain rfl:=someI hb1
   exact ⟨nofun,.inl ⟨_,_,rfl,rfl,hF.sub ⟨rfl,rfl,rfl,rfl,rfl,rfl,trivial⟩,hS.sel [1,2,3,0] (by decide)⟩⟩
  ·have hb1:=cond_t hc2 hb1
   refine q_cond_t hF rfl hc2 (q_skipc (n_sq (q_block (q_seq (q_region (q_x (v:=(iV most_11)) hF hS (ex_move rfl) rfl rfl fun a hF=>q_x (v:=(.pointer (some ⟨b_p_f,0,none⟩))) hF hS (ex_move rfl) rfl rfl fun a hF=>q_x (v:=s8.v) hF hS (ex_move rfl) rfl rfl fun a hF=>q_x (v:=(iV start_12)) hF hS (ex_move rfl) rfl rfl fun a hF=>?_))))))
   obtain ⟨e_15,he_15,hb1⟩:=bindS hb1
   obtain ⟨vs16,at16,d16⟩:=h8.at he_15 1 rfl
   obtain rfl : vs16 = [(iV e_15)]:=d16
   refine q_x (v:=(elP s8 (start_12.toNat * 1))) hF hS (ex_indexAddr Try.underlying28 sz3 rfl rfl (h8.idx he_15)) rfl rfl fun a hF=>q_x (v:=(iV e_15)) hF hS (ex_loadE1 0 Try.underlying3 rfl rfl ((at16).at) rfl rfl) rfl rfl fun a hF=>q_x (v:=(iV start_12)) hF hS (ex_move rfl) rfl rfl fun a hF=>?_
   have hS17 : St _ _ _ _ ([[⟨b_p_f,[s1.v,s2.v,s3.v,s4.v,s5.v,s6.v,s7.v],150⟩]]++[q5,q6,q7]):=hS
   obtain ⟨m17,hl17,hE17,hz17⟩:=hS17.lendX
   obtain ⟨t_18,ht_18,hb1⟩:=bindS hb1
   refine q_do rfl fun _ hK=>wp_callX (vs:=[(.pointer (some ⟨b_p_f,0,none⟩)),(iV e_15),(iV start_12)]) hF Try.func207 (by kernel_rfl) rfl rfl rfl (c_spec_tFill_room p_f e_15 start_12 t_18 ht_18 _ m17 b_p_f s1 (h1.mono hl17) s2 (h2.mono hl17) s3 (h3.mono hl17) s4 (h4.mono hl17) s5 (h5.froz hl17 (hz17 0 _ rfl)) s6 (h6.froz hl17 (hz17 1 _ rfl)) s7 (h7.froz hl17 (hz17 2 _ rfl)) _ hE17) fun a w _ hR hF=>hK _ _ ?_
   obtain ⟨rfl,hR17⟩:=hR
   have hS : St _ _ _ _ [[⟨b_p_f,[s1.v,s2.v,s3.v,s4.v,s5.v,s6.v,s7.v],150⟩],q5,q6,q7]:=hS17.leaveF hR17
   obtain ⟨t_19,ht_19,hb1⟩:=bindS hb1
   refine q_call (vs:=[(iV most_11),(iV t_18)]) hF hS Try.func209 (by kernel_rfl) rfl rfl rfl (c_spec_l1Least most_11 t_18 t_19 ht_19 _ m hS.vis) ?_
   rintro a w _ rfl hF hS
   refine q_x (v:=(iV t_19)) hF hS (ex_assign rfl) rfl rfl fun a hF=>q_end (n_sq (q_region (q_x (v:=s8.v) hF hS (ex_move rfl) rfl rfl fun a hF=>q_x (v:=(iV start_12)) hF hS (ex_move rfl) rfl rfl fun a hF=>?_)))
   obtain ⟨e_20,he_20,hb1⟩:=bindS hb1
   obtain ⟨vs21,at21,d21⟩:=h8.at he_20 1 rfl
   obtain rfl : vs21 = [(iV e_20)]:=d21
   refine q_x (v:=(elP s8 (start_12.toNat * 1))) hF hS (ex_indexAddr Try.underlying28 sz3 rfl rfl (h8.idx he_20)) rfl rfl fun a hF=>q_x (v:=(iV e_20)) hF hS (ex_loadE1 0 Try.underlying3 rfl rfl ((at21).at) rfl rfl) rfl rfl fun a hF=>q_x (v:=(iV e_20)) hF hS (ex_assign rfl) rfl rfl fun a hF=>q_end (n_ib ?_)
   obtain rfl:=someI hb1
   exact ⟨rfl,_,_,rfl,hF.sub ⟨rfl,rfl,rfl,rfl,rfl,rfl,trivial⟩,hS⟩
 ·rintro e a w ⟨most_22,start_23,rfl,rfl,hF,hS⟩
  refine x_ib (n_sq ?_)
  refine q_seq (q_region (q_x (v:=(iV most_22)) hF hS (ex_move rfl) rfl rfl fun a hF=>q_x (v:=(.pointer (some ⟨b_p_f,0,none⟩))) hF hS (ex_move rfl) rfl rfl fun a hF=>q_x (v:=(.pointer (some ⟨b_p_f,0,none⟩))) hF hS (ex_nilCheck rfl) rfl rfl fun a hF=>q_x (v:=(.pointer (some ⟨b_p_f,5,none⟩))) hF hS (ex_fieldAddr Try.underlying150 rfl sz28 rfl rfl) rfl rfl fun a hF=>q_x (v:=s6.v) hF hS (ex_load1 3 0 Try.underlying28 rfl rfl rfl rfl) rfl rfl fun a hF=>q_x (v:=(iV start_23)) hF hS (ex_move rfl) rfl rfl fun a hF=>?_))
  obtain ⟨e_24,he_24,hr⟩:=bindS hr
  obtain ⟨vs25,at25,d25⟩:=h6.at he_24 1 rfl
  obtain rfl : vs25 = [(iV e_24)]:=d25
  refine q_x (v:=(elP s6 (start_23.toNat * 1))) hF hS (ex_indexAddr Try.underlying28 sz3 rfl rfl (h6.idx he_24)) rfl rfl fun a hF=>q_x (v:=(iV e_24)) hF hS (ex_loadE1 0 Try.underlying3 rfl rfl (at25.at 1 rfl) rfl rfl) rfl rfl fun a hF=>?_
  obtain ⟨t_26,ht_26,hr⟩:=bindS hr
  refine q_call (vs:=[(iV most_22),(iV e_24)]) hF hS Try.func209 (by kernel_rfl) rfl rfl rfl (c_spec_l1Least most_22 e_24 t_26 ht_26 _ m hS.vis) ?_
  rintro a w _ rfl hF hS
  refine q_x (v:=(iV t_26)) hF hS (ex_assign rfl) rfl rfl fun a hF=>q_end (n_sq (q_seq (q_seq (q_region (q_x (v:=(iV p_end)) hF hS (ex_move rfl) rfl rfl fun a hF=>q_x (v:=(iV p_end)) hF hS (ex_assign rfl) rfl rfl fun a hF=>q_end (n_sq (q_block ?_)))))))
  obtain ⟨p_f_66,hl3,hr⟩:=bindS hr
  refine q_loop (fun (s : Int × spec_tFill) a w=>∃ (q33 : Piece),∃ v_27,∃ p_f_28,s = (v_27,p_f_28)∧Fr a 123 [(0,(.pointer (some ⟨b_p_f,0,none⟩))),(1,s8.v),(2,(iV p_end)),(6,(iV (goLen p_f.rows))),(7,(iV t_26)),(8,(iV start_23)),(9,(iV v_27))]∧St X w0 w m [q33,q6,q7,[⟨b_p_f,[s1.v,s2.v,s3.v,s4.v,s5.v,s6.v,s7.v],150⟩]]∧Rd m s1 p_f_28.t.Rows∧p_f_28.t.Rows = p_f.t.Rows∧Rd m s2 p_f_28.t.Cols∧p_f_28.t.Cols = p_f.t.Cols∧Rd m s3 p_f_28.t.Lo∧p_f_28.t.Lo = p_f.t.Lo∧Rd m s4 p_f_28.t.Hi∧p_f_28.t.Hi = p_f.t.Hi∧OwnD m 28 3 q33 s5 p_f_28.x∧OwnL m 3 q6 s6 p_f_28.rows∧p_f_28.rows = p_f.rows∧OwnL m 3 q7 s7 p_f_28.cols∧p_f_28.cols = p_f.cols) (fun (p_f_66 : spec_tFill) e a w=>∃ (q71 : Piece),e = .exit 2∧Fr a 123 [(0,(.pointer (some ⟨b_p_f,0,none⟩))),(2,(iV p_end)),(6,(iV (goLen p_f.rows))),(7,(iV t_26)),(8,(iV start_23))]∧St X w0 w m [q71,q6,q7,[⟨b_p_f,[s1.v,s2.v,s3.v,s4.v,s5.v,s6.v,s7.v],150⟩]]∧Rd m s1 p_f_66.t.Rows∧p_f_66.t.Rows = p_f.t.Rows∧Rd m s2 p_f_66.t.Cols∧p_f_66.t.Cols = p_f.t.Cols∧Rd m s3 p_f_66.t.Lo∧p_f_66.t.Lo = p_f.t.Lo∧Rd m s4 p_f_66.t.Hi∧p_f_66.t.Hi = p_f.t.Hi∧OwnD m 28 3 q71 s5 p_f_66.x∧OwnL m 3 q6 s6 p_f_66.rows∧p_f_66.rows = p_f.rows∧OwnL m 3 q7 s7 p_f_66.cols∧p_f_66.cols = p_f.cols) hl3 ⟨q5,_,_,rfl,hF.sub ⟨rfl,rfl,rfl,rfl,rfl,rfl,rfl,trivial⟩,hS,h1,rfl,h2,rfl,h3,rfl,h4,rfl,h5,h6,rfl,h7,rfl⟩ ?_ ?_
  ·clear hF hS
   rintro s a w st ⟨q33,v_27,p_f_28,rfl,hF,hS,h29,h29k,h30,h30k,h31,h31k,h32,h32k,h33,h34,h34k,h35,h35k⟩ hb3
   unfold spec_tFill_push_l2 at hb3
   refine q_seq (q_seq (q_region (q_x (v:=s8.v) hF hS (ex_move rfl) rfl rfl fun a hF=>q_x (v:=(iV v_27)) hF hS (ex_move rfl) rfl rfl fun a hF=>?_)))
   obtain ⟨e_36,he_36,hb3⟩:=bindS hb3
   obtain ⟨vs37,at37,d37⟩:=h8.at he_36 1 rfl
   obtain rfl : vs37 = [(iV e_36)]:=d37
   refine q_x (v:=(elP s8 (v_27.toNat * 1))) hF hS (ex_indexAddr Try.underlying28 sz3 rfl rfl (h8.idx he_36)) rfl rfl fun a hF=>q_x (v:=(iV e_36)) hF hS (ex_loadE1 0 Try.underlying3 rfl rfl ((at37).at) rfl rfl) rfl rfl fun a hF=>q_x (v:=(.bool (decide (0 ≤ e_36)))) hF hS (ex_ibin rfl rfl rfl) rfl rfl fun a hF=>q_end (n_sq ?_)
   rcases bcase (decide (0 ≤ e_36)) with hc4 | hc4
   ·have hb3:=cond_f hc4 hb3
    refine q_cond_f hF rfl hc4 (q_exit (x_sq ?_))
    obtain rfl:=someI hb3
    exact ⟨nofun,.inl ⟨q33,rfl,hF.sub ⟨rfl,rfl,rfl,rfl,rfl,trivial⟩,hS,h29,h29k,h30,h30k,h31,h31k,h32,h32k,h33,h34,h34k,h35,h35k⟩⟩
   ·have hb3:=cond_t hc4 hb3
    refine q_cond_t hF rfl hc4 (q_skipc (n_sq (q_seq (q_block (q_seq (q_region (q_x (v:=(iV v_27)) hF hS (ex_move rfl) rfl rfl fun a hF=>q_x (v:=(iV (goLen p_f.rows))) hF hS (ex_move rfl) rfl rfl fun a hF=>q_x (v:=(.bool (decide ((goLen p_f.rows) ≤ v_27)))) hF hS (ex_ibin rfl rfl rfl) rfl rfl fun a hF=>q_end (n_sq ?_))))))))
    obtain ⟨p_f_56,hj5,hb3⟩:=bindS hb3
    refine q_join (fun a w=>∃ (q61 : Piece),Fr a 123 [(0,(.pointer (some ⟨b_p_f,0,none⟩))),(1,s8.v),(2,(iV p_end)),(6,(iV (goLen p_f.rows))),(7,(iV t_26)),(8,(iV start_23)),(9,(iV v_27))]∧St X w0 w m [q61,q6,q7,[⟨b_p_f,[s1.v,s2.v,s3.v,s4.v,s5.v,s6.v,s7.v],150⟩]]∧Rd m s1 p_f_56.t.Rows∧p_f_56.t.Rows = p_f.t.Rows∧Rd m s2 p_f_56.t.Cols∧p_f_56.t.Cols = p_f.t.Cols∧Rd m s3 p_f_56.t.Lo∧p_f_56.t.Lo = p_f.t.Lo∧Rd m s4 p_f_56.t.Hi∧p_f_56.t.Hi = p_f.t.Hi∧OwnD m 28 3 q61 s5 p_f_56.x∧OwnL m 3 q6 s6 p_f_56.rows∧p_f_56.rows = p_f.rows∧OwnL m 3 q7 s7 p_f_56.cols∧p_f_56.cols = p_f.cols) ?_ ?_
    ·rcases bcase (decide ((goLen p_f.rows) ≤ v_27)) with hc6 | hc6
     ·have hj5:=cond_f hc6 hj5
      refine q_cond_f hF rfl hc6 (e_region ⟨[18],[],m⟩ mixed fun w' hw'=>?_)
      have hS:=hS.below hw'
      refine e_p (v:=(.pointer (some ⟨b_p_f,0,none⟩))) 0 hF rfl (ex_move rfl) rfl rfl (by kernel_rfl) (by kernel_rfl) (by kernel_rfl) fun a hF=>e_p (v:=(.pointer (some ⟨b_p_f,0,none⟩))) 1 hF rfl (ex_nilCheck rfl) rfl rfl (by kernel_rfl) (by kernel_rfl) (by kernel_rfl) fun a hF=>e_p (v:=(.pointer (some ⟨b_p_f,4,none⟩))) 2 hF rfl (ex_fieldAddr Try.underlying150 rfl sz23 rfl rfl) rfl rfl (by kernel_rfl) (by kernel_rfl) (by kernel_rfl) fun a hF=>e_x (v:=s5.v) 3 hF hS rfl (ex_load1 3 0 Try.underlying23 rfl rfl rfl rfl) rfl rfl (by kernel_rfl) (by kernel_rfl) (by kernel_rfl) (by kernel_rfl) fun a hF=>e_p (v:=(iV v_27)) 4 hF rfl (ex_move rfl) rfl rfl (by kernel_rfl) (by kernel_rfl) (by kernel_rfl) fun a hF=>?_
      obtain ⟨e_38,he_38,hj5⟩:=bindS hj5
      obtain ⟨s39,hV39⟩:=h33.view he_38
      refine e_p (v:=(elP s5 (v_27.toNat * 1))) 5 hF rfl (ex_indexAddr Try.underlying23 sz28 rfl rfl (h33.idx he_38)) rfl rfl (by kernel_rfl) (by kernel_rfl) (by kernel_rfl) fun a hF=>e_x (v:=s39.v) 6 hF hS rfl (ex_loadE1 0 Try.underlying28 rfl rfl ((hV39.atH he_38).at 0 rfl) rfl rfl) rfl rfl (by kernel_rfl) (by kernel_rfl) (by kernel_rfl) (by kernel_rfl) fun a hF=>e_p (v:=s8.v) 7 hF rfl (ex_move rfl) rfl rfl (by kernel_rfl) (by kernel_rfl) (by kernel_rfl) fun a hF=>e_p (v:=(iV v_27)) 8 hF rfl (ex_move rfl) rfl rfl (by kernel_rfl) (by kernel_rfl) (by kernel_rfl) fun a hF=>?_
      obtain ⟨e_40,he_40,hj5⟩:=bindS hj5
      obtain ⟨vs41,at41,d41⟩:=h8.at he_40 1 rfl
      obtain rfl : vs41 = [(iV e_40)]:=d41
      refine e_p (v:=(elP s8 (v_27.toNat * 1))) 9 hF rfl (ex_indexAddr Try.underlying28 sz3 rfl rfl (h8.idx he_40)) rfl rfl (by kernel_rfl) (by kernel_rfl) (by kernel_rfl) fun a hF=>e_xm (v:=(iV e_40)) 10 hF hS (Mem.le.refl _) rfl (ex_loadE1 0 Try.underlying3 rfl rfl ((at41).at) rfl rfl) rfl rfl (by kernel_rfl) (by kernel_rfl) (by kernel_rfl) fun a hF=>e_p (v:=(iV (goLen p_f.rows))) 11 hF rfl (ex_move rfl) rfl rfl (by kernel_rfl) (by kernel_rfl) (by kernel_rfl) fun a hF=>e_p (v:=(iV (w64 (e_40 - (goLen p_f.rows))))) 12 hF rfl (ex_ibin rfl rfl rfl) rfl rfl (by kernel_rfl) (by kernel_rfl) (by kernel_rfl) fun a hF=>?_
      obtain ⟨e_42,he_42,hj5⟩:=bindS hj5
      obtain ⟨vs43,at43,d43⟩:=hV39.at he_38 he_42 1 rfl
      obtain rfl : vs43 = [(iV e_42)]:=d43
      refine e_p (v:=(elP s39 ((w64 (e_40 - (goLen p_f.rows))).toNat * 1))) 13 hF rfl (ex_indexAddr Try.underlying28 sz3 rfl rfl (hV39.idx he_38 he_42)) rfl rfl (by kernel_rfl) (by kernel_rfl) (by kernel_rfl) fun a hF=>e_x (v:=(iV e_42)) 14 hF hS rfl (ex_loadE1 0 Try.underlying3 rfl rfl (at43.at 0 rfl) rfl rfl) rfl rfl (by kernel_rfl) (by kernel_rfl) (by kernel_rfl) (by kernel_rfl) fun a hF=>e_p (v:=(iV t_26)) 15 hF rfl (ex_move rfl) rfl rfl (by kernel_rfl) (by kernel_rfl) (by kernel_rfl) fun a hF=>e_p (v:=(iV (w64 (e_42 - t_26)))) 16 hF rfl (ex_ibin rfl rfl rfl) rfl rfl (by kernel_rfl) (by kernel_rfl) (by kernel_rfl) fun a hF=>?_
      obtain ⟨e_44,he_44,hj5⟩:=bindS hj5
      obtain ⟨vs45,at45,d45⟩:=hV39.at he_38 he_44 1 rfl
      obtain rfl : vs45 = [(iV e_44)]:=d45
      refine e_p (v:=(elP s39 ((w64 (e_40 - (goLen p_f.rows))).toNat * 1))) 17 hF rfl (ex_indexAddr Try.underlying28 sz3 rfl rfl (hV39.idx he_38 he_44)) rfl rfl (by kernel_rfl) (by kernel_rfl) (by kernel_rfl) fun a hF=>e_one 18 (by kernel_rfl) (e_opl rfl rfl rfl fun _ hK=>wp_storeV (e':=(w64 (e_42 - t_26))) (us:=[(iV (w64 (e_42 - t_26)))]) (vs:=[(iV e_44)]) 0 hF hS hV39 he_38 sz3 rfl rfl rfl rfl rfl rfl rfl he_44 at45 rfl rfl rfl fun w q46 hS h46=>hK _ _ (⟨⟨kpN,fun _=>hS.vis.of_le (Mem.le.refl _)⟩,?_⟩))
      refine e_end (by kernel_rfl) (n_jn ?_) _
      obtain rfl:=someI hj5
      exact ⟨q46,hF.sub ⟨rfl,rfl,rfl,rfl,rfl,rfl,rfl,trivial⟩,hS,h29,h29k,h30,h30k,h31,h31k,h32,h32k,h46.own,h34,h34k,h35,h35k⟩
     ·have hj5:=cond_t hc6 hj5
      refine q_cond_t hF rfl hc6 (e_region ⟨[18],[],m⟩ mixed fun w' hw'=>?_)
      have hS:=hS.below hw'
      refine e_p (v:=(.pointer (some ⟨b_p_f,0,none⟩))) 0 hF rfl (ex_move rfl) rfl rfl (by kernel_rfl) (by kernel_rfl) (by kernel_rfl) fun a hF=>e_p (v:=(.pointer (some ⟨b_p_f,0,none⟩))) 1 hF rfl (ex_nilCheck rfl) rfl rfl (by kernel_rfl) (by kernel_rfl) (by kernel_rfl) fun a hF=>e_p (v:=(.pointer (some ⟨b_p_f,4,none⟩))) 2 hF rfl (ex_fieldAddr Try.underlying150 rfl sz23 rfl rfl) rfl rfl (by kernel_rfl) (by kernel_rfl) (by kernel_rfl) fun a hF=>e_x (v:=s5.v) 3 hF hS rfl (ex_load1 3 0 Try.underlying23 rfl rfl rfl rfl) rfl rfl (by kernel_rfl) (by kernel_rfl) (by kernel_rfl) (by kernel_rfl) fun a hF=>e_p (v:=s8.v) 4 hF rfl (ex_move rfl) rfl rfl (by kernel_rfl) (by kernel_rfl) (by kernel_rfl) fun a hF=>e_p (v:=(iV v_27)) 5 hF rfl (ex_move rfl) rfl rfl (by kernel_rfl) (by kernel_rfl) (by kernel_rfl) fun a hF=>?_
      obtain ⟨e_47,he_47,hj5⟩:=bindS hj5
      obtain ⟨vs48,at48,d48⟩:=h8.at he_47 1 rfl
      obtain rfl : vs48 = [(iV e_47)]:=d48
      refine e_p (v:=(elP s8 (v_27.toNat * 1))) 6 hF rfl (ex_indexAddr Try.underlying28 sz3 rfl rfl (h8.idx he_47)) rfl rfl (by kernel_rfl) (by kernel_rfl) (by kernel_rfl) fun a hF=>e_xm (v:=(iV e_47)) 7 hF hS (Mem.le.refl _) rfl (ex_loadE1 0 Try.underlying3 rfl rfl ((at48).at) rfl rfl) rfl rfl (by kernel_rfl) (by kernel_rfl) (by kernel_rfl) fun a hF=>?_
      obtain ⟨e_49,he_49,hj5⟩:=bindS hj5
      obtain ⟨s50,hV50⟩:=h33.view he_49
      refine e_p (v:=(elP s5 (e_47.toNat * 1))) 8 hF rfl (ex_indexAddr Try.underlying23 sz28 rfl rfl (h33.idx he_49)) rfl rfl (by kernel_rfl) (by kernel_rfl) (by kernel_rfl) fun a hF=>e_x (v:=s50.v) 9 hF hS rfl (ex_loadE1 0 Try.underlying28 rfl rfl ((hV50.atH he_49).at 0 rfl) rfl rfl) rfl rfl (by kernel_rfl) (by kernel_rfl) (by kernel_rfl) (by kernel_rfl) fun a hF=>e_p (v:=(iV v_27)) 10 hF rfl (ex_move rfl) rfl rfl (by kernel_rfl) (by kernel_rfl) (by kernel_rfl) fun a hF=>e_p (v:=(iV (goLen p_f.rows))) 11 hF rfl (ex_move rfl) rfl rfl (by kernel_rfl) (by kernel_rfl) (by kernel_rfl) fun a hF=>e_p (v:=(iV (w64 (v_27 - (goLen p_f.rows))))) 12 hF rfl (ex_ibin rfl rfl rfl) rfl rfl (by kernel_rfl) (by kernel_rfl) (by kernel_rfl) fun a hF=>?_
      obtain ⟨e_51,he_51,hj5⟩:=bindS hj5
      obtain ⟨vs52,at52,d52⟩:=hV50.at he_49 he_51 1 rfl
      obtain rfl : vs52 = [(iV e_51)]:=d52
      refine e_p (v:=(elP s50 ((w64 (v_27 - (goLen p_f.rows))).toNat * 1))) 13 hF rfl (ex_indexAddr Try.underlying28 sz3 rfl rfl (hV50.idx he_49 he_51)) rfl rfl (by kernel_rfl) (by kernel_rfl) (by kernel_rfl) fun a hF=>e_x (v:=(iV e_51)) 14 hF hS rfl (ex_loadE1 0 Try.underlying3 rfl rfl (at52.at 0 rfl) rfl rfl) rfl rfl (by kernel_rfl) (by kernel_rfl) (by kernel_rfl) (by kernel_rfl) fun a hF=>e_p (v:=(iV t_26)) 15 hF rfl (ex_move rfl) rfl rfl (by kernel_rfl) (by kernel_rfl) (by kernel_rfl) fun a hF=>e_p (v:=(iV (w64 (e_51 + t_26)))) 16 hF rfl (ex_ibin rfl rfl rfl) rfl rfl (by kernel_rfl) (by kernel_rfl) (by kernel_rfl) fun a hF=>?_
      obtain ⟨e_53,he_53,hj5⟩:=bindS hj5
      obtain ⟨vs54,at54,d54⟩:=hV50.at he_49 he_53 1 rfl
      obtain rfl : vs54 = [(iV e_53)]:=d54
      refine e_p (v:=(elP s50 ((w64 (v_27 - (goLen p_f.rows))).toNat * 1))) 17 hF rfl (ex_indexAddr Try.underlying28 sz3 rfl rfl (hV50.idx he_49 he_53)) rfl rfl (by kernel_rfl) (by kernel_rfl) (by kernel_rfl) fun a hF=>e_one 18 (by kernel_rfl) (e_opl rfl rfl rfl fun _ hK=>wp_storeV (e':=(w64 (e_51 + t_26))) (us:=[(iV (w64 (e_51 + t_26)))]) (vs:=[(iV e_53)]) 0 hF hS hV50 he_49 sz3 rfl rfl rfl rfl rfl rfl rfl he_53 at54 rfl rfl rfl fun w q55 hS h55=>hK _ _ (⟨⟨kpN,fun _=>hS.vis.of_le (Mem.le.refl _)⟩,?_⟩))
      refine e_end (by kernel_rfl) (n_jn ?_) _
      obtain rfl:=someI hj5
      exact ⟨q55,hF.sub ⟨rfl,rfl,rfl,rfl,rfl,rfl,rfl,trivial⟩,hS,h29,h29k,h30,h30k,h31,h31k,h32,h32k,h55.own,h34,h34k,h35,h35k⟩
    ·rintro a w ⟨q61,hF,hS,h57,h57k,h58,h58k,h59,h59k,h60,h60k,h61,h62,h62k,h63,h63k⟩
     refine n_ib (n_sq ?_)
     refine q_region (q_x (v:=s8.v) hF hS (ex_move rfl) rfl rfl fun a hF=>q_x (v:=(iV v_27)) hF hS (ex_move rfl) rfl rfl fun a hF=>?_)
     obtain ⟨e_64,he_64,hb3⟩:=bindS hb3
     obtain ⟨vs65,at65,d65⟩:=h8.at he_64 1 rfl
     obtain rfl : vs65 = [(iV e_64)]:=d65
     refine q_x (v:=(elP s8 (v_27.toNat * 1))) hF hS (ex_indexAddr Try.underlying28 sz3 rfl rfl (h8.idx he_64)) rfl rfl fun a hF=>q_x (v:=(iV e_64)) hF hS (ex_loadE1 0 Try.underlying3 rfl rfl ((at65).at) rfl rfl) rfl rfl fun a hF=>q_x (v:=(iV e_64)) hF hS (ex_assign rfl) rfl rfl fun a hF=>q_end ?_
     obtain rfl:=someI hb3
     exact ⟨rfl,q61,_,_,rfl,hF.sub ⟨rfl,rfl,rfl,rfl,rfl,rfl,rfl,trivial⟩,hS,h57,h57k,h58,h58k,h59,h59k,h60,h60k,h61,h62,h62k,h63,h63k⟩
  ·rintro e a w ⟨q71,rfl,hF,hS,h67,h67k,h68,h68k,h69,h69k,h70,h70k,h71,h72,h72k,h73,h73k⟩
   refine x_ib (n_sq ?_)
   refine q_seq (q_region (q_x (v:=(.pointer (some ⟨b_p_f,0,none⟩))) hF hS (ex_move rfl) rfl rfl fun a hF=>q_x (v:=(.pointer (some ⟨b_p_f,0,none⟩))) hF hS (ex_nilCheck rfl) rfl rfl fun a hF=>q_x (v:=(.pointer (some ⟨b_p_f,5,none⟩))) hF hS (ex_fieldAddr Try.underlying150 rfl sz28 rfl rfl) rfl rfl fun a hF=>q_x (v:=s6.v) hF hS (ex_load1 3 0 Try.underlying28 rfl rfl rfl rfl) rfl rfl fun a hF=>q_x (v:=(iV start_23)) hF hS (ex_move rfl) rfl rfl fun a hF=>?_))
   obtain ⟨e_74,he_74,hr⟩:=bindS hr
   obtain ⟨vs75,at75,d75⟩:=h72.at he_74 1 rfl
   obtain rfl : vs75 = [(iV e_74)]:=d75
   refine q_x (v:=(elP s6 (start_23.toNat * 1))) hF hS (ex_indexAddr Try.underlying28 sz3 rfl rfl (h72.idx he_74)) rfl rfl fun a hF=>q_x (v:=(iV e_74)) hF hS (ex_loadE1 0 Try.underlying3 rfl rfl (at75.at 1 rfl) rfl rfl) rfl rfl fun a hF=>q_x (v:=(iV t_26)) hF hS (ex_move rfl) rfl rfl fun a hF=>q_x (v:=(iV (w64 (e_74 - t_26)))) hF hS (ex_ibin rfl rfl rfl) rfl rfl fun a hF=>?_
   obtain ⟨e_76,he_76,hr⟩:=bindS hr
   obtain ⟨vs77,at77,d77⟩:=h72.at he_76 1 rfl
   obtain rfl : vs77 = [(iV e_76)]:=d77
   refine q_x (v:=(elP s6 (start_23.toNat * 1))) hF hS (ex_indexAddr Try.underlying28 sz3 rfl rfl (h72.idx he_76)) rfl rfl fun a hF=>?_
   have hS : St _ _ _ _ [q6,q71,q7,[⟨b_p_f,[s1.v,s2.v,s3.v,s4.v,s5.v,s6.v,s7.v],150⟩]]:=hS.sel [1,0,2,3] (by decide)
   refine q_do rfl fun _ hK=>wp_storeE (e':=(w64 (e_74 - t_26))) (us:=[(iV (w64 (e_74 - t_26)))]) (vs:=[(iV e_76)]) 0 hF hS h72 sz3 rfl rfl rfl rfl rfl rfl rfl he_76 at77 rfl rfl rfl fun w q78 hS h78=>hK _ _ (q_end (n_sq (q_region (q_x (v:=(.pointer (some ⟨b_p_f,0,none⟩))) hF hS (ex_move rfl) rfl rfl fun a hF=>q_x (v:=(.pointer (some ⟨b_p_f,0,none⟩))) hF hS (ex_nilCheck rfl) rfl rfl fun a hF=>q_x (v:=(.pointer (some ⟨b_p_f,6,none⟩))) hF hS (ex_fieldAddr Try.underlying150 rfl sz28 rfl rfl) rfl rfl fun a hF=>q_x (v:=s7.v) hF hS (ex_load1 3 0 Try.underlying28 rfl rfl rfl rfl) rfl rfl fun a hF=>q_x (v:=(iV p_end)) hF hS (ex_move rfl) rfl rfl fun a hF=>q_x (v:=(iV (goLen p_f.rows))) hF hS (ex_move rfl) rfl rfl fun a hF=>q_x (v:=(iV (w64 (p_end - (goLen p_f.rows))))) hF hS (ex_ibin rfl rfl rfl) rfl rfl fun a hF=>?_))))
   obtain ⟨e_79,he_79,hr⟩:=bindS hr
   obtain ⟨vs80,at80,d80⟩:=h73.at he_79 1 rfl
   obtain rfl : vs80 = [(iV e_79)]:=d80
   refine q_x (v:=(elP s7 ((w64 (p_end - (goLen p_f.rows))).toNat * 1))) hF hS (ex_indexAddr Try.underlying28 sz3 rfl rfl (h73.idx he_79)) rfl rfl fun a hF=>q_x (v:=(iV e_79)) hF hS (ex_loadE1 0 Try.underlying3 rfl rfl (at80.at 2 rfl) rfl rfl) rfl rfl fun a hF=>q_x (v:=(iV t_26)) hF hS (ex_move rfl) rfl rfl fun a hF=>q_x (v:=(iV (w64 (e_79 - t_26)))) hF hS (ex_ibin rfl rfl rfl) rfl rfl fun a hF=>?_
   obtain ⟨e_81,he_81,hr⟩:=bindS hr
   obtain ⟨vs82,at82,d82⟩:=h73.at he_81 1 rfl
   obtain rfl : vs82 = [(iV e_81)]:=d82
   refine q_x (v:=(elP s7 ((w64 (p_end - (goLen p_f.rows))).toNat * 1))) hF hS (ex_indexAddr Try.underlying28 sz3 rfl rfl (h73.idx he_81)) rfl rfl fun a hF=>?_
   have hS : St _ _ _ _ [q7,q78,q71,[⟨b_p_f,[s1.v,s2.v,s3.v,s4.v,s5.v,s6.v,s7.v],150⟩]]:=hS.sel [2,0,1,3] (by decide)
   refine q_do rfl fun _ hK=>wp_storeE (e':=(w64 (e_79 - t_26))) (us:=[(iV (w64 (e_79 - t_26)))]) (vs:=[(iV e_81)]) 0 hF hS h73 sz3 rfl rfl rfl rfl rfl rfl rfl he_81 at82 rfl rfl rfl fun w q83 hS h83=>hK _ _ (q_end (normal_ret ?_))
   obtain rfl:=someI hr
   exact ret_ofX hF hS rfl .nil ⟨q71,q78,q83,s5,s6,s7,rfl,hS.sel [3,2,1,0] (by decide),h67k,h68k,h69k,h70k,h71,h78,h83⟩

theorem c_spec_tFill_augment (p_f : spec_tFill) (r : Bool × spec_tFill) (hr : spec_tFill_augment p_f = some r) (w0 : World) (m : Mem) (b_p_f : Nat) (s1 : Sl) (h1 : Rd m s1 p_f.t.Rows) (s2 : Sl) (h2 : Rd m s2 p_f.t.Cols) (s3 : Sl) (h3 : Rd m s3 p_f.t.Lo) (s4 : Sl) (h4 : Rd m s4 p_f.t.Hi) (s5 : Sl) (q5 : Piece) (h5 : OwnD m 28 3 q5 s5 p_f.x) (s6 : Sl) (q6 : Piece) (h6 : OwnL m 3 q6 s6 p_f.rows) (s7 : Sl) (q7 : Piece) (h7 : OwnL m 3 q7 s7 p_f.cols) (X : List Nat) (hS : St X w0 w0 m [[⟨b_p_f,[s1.v,s2.v,s3.v,s4.v,s5.v,s6.v,s7.v],150⟩],q5,q6,q7]) :
  RetX Try.prog 199 [(.pointer (some ⟨b_p_f,0,none⟩))] w0 (fun v w=>∃ (q4' : Piece) (q5' : Piece) (q6' : Piece) (s4' : Sl) (s5' : Sl) (s6' : Sl),v = (.bool r.1)∧St X w0 w m [[⟨b_p_f,[s1.v,s2.v,s3.v,s4.v,s4'.v,s5'.v,s6'.v],150⟩],q4',q5',q6']∧r.2.t.Rows = p_f.t.Rows∧r.2.t.Cols = p_f.t.Cols∧r.2.t.Lo = p_f.t.Lo∧r.2.t.Hi = p_f.t.Hi∧OwnD m 28 3 q4' s4' r.2.x∧OwnL m 3 q5' s5' r.2.rows∧OwnL m 3 q6' s6' r.2.cols):=by
 unfold spec_tFill_augment at hr
 refine ret_startX Try.func199 rfl 110 rfl rfl fun a hF=>q_seq (q_region (q_x (v:=(.bool false)) hF hS (ex_assign rfl) rfl rfl fun a hF=>q_end (n_sq (q_seq (e_region ⟨[],[],m⟩ mixed fun w' hw'=>?_)))))
 have hS:=hS.below hw'
 refine e_p (v:=(.pointer (some ⟨b_p_f,0,none⟩))) 0 hF rfl (ex_move rfl) rfl rfl (by kernel_rfl) (by kernel_rfl) (by kernel_rfl) fun a hF=>e_p (v:=(.pointer (some ⟨b_p_f,0,none⟩))) 1 hF rfl (ex_nilCheck rfl) rfl rfl (by kernel_rfl) (by kernel_rfl) (by kernel_rfl) fun a hF=>e_p (v:=(.pointer (some ⟨b_p_f,5,none⟩))) 2 hF rfl (ex_fieldAddr Try.underlying150 rfl sz28 rfl rfl) rfl rfl (by kernel_rfl) (by kernel_rfl) (by kernel_rfl) fun a hF=>e_x (v:=s6.v) 3 hF hS rfl (ex_load1 0 0 Try.underlying28 rfl rfl rfl rfl) rfl rfl (by kernel_rfl) (by kernel_rfl) (by kernel_rfl) (by kernel_rfl) fun a hF=>e_p (v:=(iV (goLen p_f.rows))) 4 hF rfl (ex_len Try.underlying28 rfl h6.len) rfl rfl (by kernel_rfl) (by kernel_rfl) (by kernel_rfl) fun a hF=>e_p (v:=(.pointer (some ⟨b_p_f,0,none⟩))) 5 hF rfl (ex_move rfl) rfl rfl (by kernel_rfl) (by kernel_rfl) (by kernel_rfl) fun a hF=>e_p (v:=(.pointer (some ⟨b_p_f,0,none⟩))) 6 hF rfl (ex_nilCheck rfl) rfl rfl (by kernel_rfl) (by kernel_rfl) (by kernel_rfl) fun a hF=>e_p (v:=(.pointer (some ⟨b_p_f,6,none⟩))) 7 hF rfl (ex_fieldAddr Try.underlying150 rfl sz28 rfl rfl) rfl rfl (by kernel_rfl) (by kernel_rfl) (by kernel_rfl) fun a hF=>e_x (v:=s7.v) 8 hF hS rfl (ex_load1 0 0 Try.underlying28 rfl rfl rfl rfl) rfl rfl (by kernel_rfl) (by kernel_rfl) (by kernel_rfl) (by kernel_rfl) fun a hF=>e_p (v:=(iV (goLen p_f.cols))) 9 hF rfl (ex_len Try.underlying28 rfl h7.len) rfl rfl (by kernel_rfl) (by kernel_rfl) (by kernel_rfl) fun a hF=>e_p (v:=(iV (goLen p_f.rows))) 10 hF rfl (ex_assign rfl) rfl rfl (by kernel_rfl) (by kernel_rfl) (by kernel_rfl) fun a hF=>e_p (v:=(iV (goLen p_f.cols))) 11 hF rfl (ex_assign rfl) rfl rfl (by kernel_rfl) (by kernel_rfl) (by kernel_rfl) fun a hF=>e_end (by kernel_rfl) (n_sq ?_) _
 refine q_seq (q_region (q_x (v:=(iV (goLen p_f.rows))) hF hS (ex_move rfl) rfl rfl fun a hF=>q_x (v:=(iV (goLen p_f.cols))) hF hS (ex_move rfl) rfl rfl fun a hF=>q_x (v:=(iV (w64 ((goLen p_f.rows) + (goLen p_f.cols))))) hF hS (ex_ibin rfl rfl rfl) rfl rfl fun a hF=>?_))
 obtain ⟨l_8,hl_8,hr⟩:=bindS hr
 refine q_do rfl fun _ hK=>wp_make (z:=(0 : Int)) hF hS Try.underlying28 inf3 rfl rfl rfl rfl rfl (by decide) hl_8 rfl fun a w q9 s9 hF hS h9 _=>hK _ _ (q_x (v:=s9.v) hF hS (ex_assign rfl) rfl rfl fun a hF=>q_end (n_sq (q_seq (q_region (q_x (v:=nilS.v) hF hS (ex_assign rfl) rfl rfl fun a hF=>q_end (n_sq (q_seq (q_seq (q_region (q_x (v:=s9.v) hF hS (ex_move rfl) rfl rfl fun a hF=>q_x (v:=(iV (goLen l_8))) hF hS (ex_len Try.underlying28 rfl h9.len) rfl rfl fun a hF=>q_x (v:=(iV 0)) hF hS (ex_move rfl) rfl rfl fun a hF=>q_end (n_sq (q_block ?_))))))))))))
 obtain ⟨o1,hl1,hr⟩:=bindS hr
 refine q_loop (fun (s : (List Int) × (List Int) × Int) a w=>∃ (q11 : Piece),∃ (q13 : Piece),∃ (s13 : Sl),∃ from_10,∃ queue_12,∃ t_14,s = (from_10,queue_12,t_14)∧Fr a 110 [(0,(.pointer (some ⟨b_p_f,0,none⟩))),(3,(iV (goLen p_f.rows))),(4,(iV (goLen p_f.cols))),(5,s9.v),(6,s13.v),(26,(iV (goLen l_8))),(27,(iV t_14))]∧St X w0 w m [q11,q13,[⟨b_p_f,[s1.v,s2.v,s3.v,s4.v,s5.v,s6.v,s7.v],150⟩],q5,q6,q7]∧OwnL m 3 q11 s9 from_10∧OwnL m 3 q13 s13 queue_12) (fun (o : (List Int) × (List Int)) e a w=>∃ (q32 : Piece),∃ (q34 : Piece),∃ (s34 : Sl),∃ from_31,∃ queue_33,o = (from_31,queue_33)∧e = .exit 0∧Fr a 110 [(0,(.pointer (some ⟨b_p_f,0,none⟩))),(3,(iV (goLen p_f.rows))),(4,(iV (goLen p_f.cols))),(5,s9.v),(6,s34.v)]∧St X w0 w m [q32,q34,q5,q6,q7,[⟨b_p_f,[s1.v,s2.v,s3.v,s4.v,s5.v,s6.v,s7.v],150⟩]]∧OwnL m 3 q32 s9 from_31∧OwnL m 3 q34 s34 queue_33) hl1 ⟨q9,[],nilS,_,_,_,rfl,hF.sub ⟨rfl,rfl,rfl,rfl,rfl,rfl,rfl,trivial⟩,hS.sel [0,5,1,2,3,4] (by decide),h9,(OwnL.nil (α:=Int) m 3)⟩ ?_ ?_
 ·clear hF hS
  rintro s a w st ⟨q11,q13,s13,from_10,queue_12,t_14,rfl,hF,hS,h11,h13⟩ hb1
  unfold spec_tFill_augment_l1 at hb1
  refine q_seq (q_region (q_x (v:=(.bool (decide (t_14 < (goLen l_8))))) hF hS (ex_ibin rfl rfl rfl) rfl rfl fun a hF=>q_end (n_sq (q_seq ?_))))
  rcases bcase (decide (t_14 < (goLen l_8))) with hc2 | hc2
  ·have hb1:=cond_f hc2 hb1
   refine q_cond_f hF rfl hc2 (q_exit (x_sq ?_))
   obtain rfl:=someI hb1
   exact ⟨nofun,.inl ⟨q11,q13,s13,_,_,rfl,rfl,hF.sub ⟨rfl,rfl,rfl,rfl,rfl,trivial⟩,hS.sel [0,1,3,4,5,2] (by decide),h11,h13⟩⟩
  ·have hb1:=cond_t hc2 hb1
   refine q_cond_t hF rfl hc2 (q_skipc (n_sq (q_seq (q_block (q_seq (q_region (q_x (v:=(iV t_14)) hF hS (ex_move rfl) rfl rfl fun a hF=>q_x (v:=(iV t_14)) hF hS (ex_assign rfl) rfl rfl fun a hF=>q_end (n_sq (q_seq (q_region (q_x (v:=s9.v) hF hS (ex_move rfl) rfl rfl fun a hF=>q_x (v:=(iV t_14)) hF hS (ex_move rfl) rfl rfl fun a hF=>?_)))))))))))
   obtain ⟨e_15,he_15,hb1⟩:=bindS hb1
   obtain ⟨vs16,at16,d16⟩:=h11.at he_15 1 rfl
   obtain rfl : vs16 = [(iV e_15)]:=d16
   refine q_x (v:=(elP s9 (t_14.toNat * 1))) hF hS (ex_indexAddr Try.underlying28 sz3 rfl rfl (h11.idx he_15)) rfl rfl fun a hF=>q_do rfl fun _ hK=>wp_storeE (e':=-2) (us:=[(iV (-2))]) (vs:=[(iV e_15)]) 0 hF hS h11 sz3 rfl rfl rfl rfl rfl rfl rfl he_15 at16 rfl rfl rfl fun w q17 hS h17=>hK _ _ (q_end (n_sq (q_seq ?_)))
   obtain ⟨t_20,hj3,hb1⟩:=bindS hb1
   refine q_join (fun a w=>Fr a 110 [(0,(.pointer (some ⟨b_p_f,0,none⟩))),(3,(iV (goLen p_f.rows))),(4,(iV (goLen p_f.cols))),(5,s9.v),(6,s13.v),(7,(iV t_14)),(26,(iV (goLen l_8))),(27,(iV t_14)),(45,(.bool t_20))]∧St X w0 w m [q17,q13,q5,q6,q7,[⟨b_p_f,[s1.v,s2.v,s3.v,s4.v,s5.v,s6.v,s7.v],150⟩]]) ?_ ?_
   ·refine q_region (q_x (v:=(iV t_14)) hF hS (ex_move rfl) rfl rfl fun a hF=>q_x (v:=(iV (goLen p_f.rows))) hF hS (ex_move rfl) rfl rfl fun a hF=>q_x (v:=(.bool (decide (t_14 < (goLen p_f.rows))))) hF hS (ex_ibin rfl rfl rfl) rfl rfl fun a hF=>q_x (v:=(.bool (decide (t_14 < (goLen p_f.rows))))) hF hS (ex_move rfl) rfl rfl fun a hF=>?_)
    rcases bcase (decide (t_14 < (goLen p_f.rows))) with hc4 | hc4
    ·have hj3:=cond_f hc4 hj3
     refine q_skip hF (wanted_f hF rfl rfl rfl hc4 rfl) rfl fun a hF=>q_skip hF (wanted_f hF rfl rfl rfl hc4 rfl) rfl fun a hF=>q_skip hF (wanted_f hF rfl rfl rfl hc4 rfl) rfl fun a hF=>q_skip hF (wanted_f hF rfl rfl rfl hc4 rfl) rfl fun a hF=>q_skip hF (wanted_f hF rfl rfl rfl hc4 rfl) rfl fun a hF=>q_skip hF (wanted_f hF rfl rfl rfl hc4 rfl) rfl fun a hF=>q_skip hF (wanted_f hF rfl rfl rfl hc4 rfl) rfl fun a hF=>q_skip hF (wanted_f hF rfl rfl rfl hc4 rfl) rfl fun a hF=>q_x (v:=(.bool false)) hF hS (ex_pick_f rfl rfl hc4) rfl rfl fun a hF=>q_end (n_jn ?_)
     obtain rfl:=someI hj3
     exact ⟨hF.sub ⟨rfl,rfl,rfl,rfl,rfl,rfl,rfl,rfl,rfl,trivial⟩,hS.sel [0,1,3,4,5,2] (by decide)⟩
    ·have hj3:=cond_t hc4 hj3
     refine q_xg (v:=(.pointer (some ⟨b_p_f,0,none⟩))) hF hS (ex_move rfl) (wanted_t hF rfl rfl rfl hc4) rfl fun a hF=>q_xg (v:=(.pointer (some ⟨b_p_f,0,none⟩))) hF hS (ex_nilCheck rfl) (wanted_t hF rfl rfl rfl hc4) rfl fun a hF=>q_xg (v:=(.pointer (some ⟨b_p_f,5,none⟩))) hF hS (ex_fieldAddr Try.underlying150 rfl sz28 rfl rfl) (wanted_t hF rfl rfl rfl hc4) rfl fun a hF=>q_xg (v:=s6.v) hF hS (ex_load1 2 0 Try.underlying28 rfl rfl rfl rfl) (wanted_t hF rfl rfl rfl hc4) rfl fun a hF=>q_xg (v:=(iV t_14)) hF hS (ex_move rfl) (wanted_t hF rfl rfl rfl hc4) rfl fun a hF=>?_
     obtain ⟨e_18,he_18,hj3⟩:=bindS hj3
     obtain ⟨vs19,at19,d19⟩:=h6.at he_18 1 rfl
     obtain rfl : vs19 = [(iV e_18)]:=d19
     refine q_xg (v:=(elP s6 (t_14.toNat * 1))) hF hS (ex_indexAddr Try.underlying28 sz3 rfl rfl (h6.idx he_18)) (wanted_t hF rfl rfl rfl hc4) rfl fun a hF=>q_xg (v:=(iV e_18)) hF hS (ex_loadE1 0 Try.underlying3 rfl rfl (at19.at 4 rfl) rfl rfl) (wanted_t hF rfl rfl rfl hc4) rfl fun a hF=>q_xg (v:=(.bool (decide (0 < e_18)))) hF hS (ex_ibin rfl rfl rfl) (wanted_t hF rfl rfl rfl hc4) rfl fun a hF=>q_x (v:=(.bool (decide (0 < e_18)))) hF hS (ex_pick_t rfl rfl hc4) rfl rfl fun a hF=>q_end (n_jn ?_)
     obtain rfl:=someI hj3
     exact ⟨hF.sub ⟨rfl,rfl,rfl,rfl,rfl,rfl,rfl,rfl,rfl,trivial⟩,hS.sel [0,1,3,4,5,2] (by decide)⟩
   ·rintro a w ⟨hF,hS⟩
    refine n_sq ?_
    obtain ⟨j5,hj5,hb1⟩:=bindS hb1
    refine q_join (fun a w=>∃ (q28 : Piece),∃ (q30 : Piece),∃ (s30 : Sl),∃ from_27,∃ queue_29,j5 = (from_27,queue_29)∧Fr a 110 [(0,(.pointer (some ⟨b_p_f,0,none⟩))),(3,(iV (goLen p_f.rows))),(4,(iV (goLen p_f.cols))),(5,s9.v),(6,s30.v),(26,(iV (goLen l_8))),(27,(iV t_14))]∧St X w0 w m [q28,q30,q5,q6,q7,[⟨b_p_f,[s1.v,s2.v,s3.v,s4.v,s5.v,s6.v,s7.v],150⟩]]∧OwnL m 3 q28 s9 from_27∧OwnL m 3 q30 s30 queue_29) ?_ ?_
    ·rcases bcase (t_20) with hc6 | hc6
     ·have hj5:=cond_f hc6 hj5
      refine q_cond_f hF rfl hc6 (q_skipc (n_jn ?_))
      obtain rfl:=someI hj5
      exact ⟨q17,q13,s13,_,_,rfl,hF.sub ⟨rfl,rfl,rfl,rfl,rfl,rfl,rfl,trivial⟩,hS,h17,h13⟩
     ·have hj5:=cond_t hc6 hj5
      refine q_cond_t hF rfl hc6 (q_seq (q_region (q_x (v:=s9.v) hF hS (ex_move rfl) rfl rfl fun a hF=>q_x (v:=(iV t_14)) hF hS (ex_move rfl) rfl rfl fun a hF=>?_)))
      obtain ⟨e_21,he_21,hj5⟩:=bindS hj5
      obtain ⟨vs22,at22,d22⟩:=h17.at he_21 1 rfl
      obtain rfl : vs22 = [(iV e_21)]:=d22
      refine q_x (v:=(elP s9 (t_14.toNat * 1))) hF hS (ex_indexAddr Try.underlying28 sz3 rfl rfl (h17.idx he_21)) rfl rfl fun a hF=>q_do rfl fun _ hK=>wp_storeE (e':=-1) (us:=[(iV (-1))]) (vs:=[(iV e_21)]) 0 hF hS h17 sz3 rfl rfl rfl rfl rfl rfl rfl he_21 at22 rfl rfl rfl fun w q23 hS h23=>hK _ _ (q_end (n_sq (q_region (q_x (v:=s13.v) hF hS (ex_move rfl) rfl rfl fun a hF=>q_x (v:=(iV t_14)) hF hS (ex_move rfl) rfl rfl fun a hF=>q_do rfl fun _ hK=>wp_buildSlice' (l:=([t_14] : List Int)) (cells:=[(iV t_14)]) hF hS Try.underlying28 inf3 rfl rfl (by kernel_rfl) rfl rfl rfl ⟨rfl,rfl⟩ rfl rfl fun a w q24 s24 hF hS h24 _=>hK _ _ ?_))))
      have hS : St _ _ _ _ [q13,q24,q23,q5,q6,q7,[⟨b_p_f,[s1.v,s2.v,s3.v,s4.v,s5.v,s6.v,s7.v],150⟩]]:=hS.sel [2,0,1,3,4,5,6] (by decide)
      obtain ⟨l_25,hl_25,hj5⟩:=bindS hj5
      refine q_do rfl fun _ hK=>wp_append hF hS h13 Try.underlying28 inf3 rfl rfl rfl rfl (h24.vw hS (j:=1) rfl) rfl (by decide) hl_25 rfl fun a w q26 s26 hF hS h26=>hK _ _ (q_x (v:=s26.v) hF hS (ex_assign rfl) rfl rfl fun a hF=>q_end (n_jn ?_))
      obtain rfl:=someI hj5
      exact ⟨q23,q26,s26,_,_,rfl,hF.sub ⟨rfl,rfl,rfl,rfl,rfl,rfl,rfl,trivial⟩,hS.sel [2,0,3,4,5,6] (by decide),h23,h26⟩
    ·rintro a w ⟨q28,q30,s30,from_27,queue_29,rfl,hF,hS,h28,h30⟩
     refine n_ib (n_sq ?_)
     refine q_region (q_x (v:=(iV (w64 (t_14 + 1)))) hF hS (ex_ibin rfl rfl rfl) rfl rfl fun a hF=>q_x (v:=(iV (w64 (t_14 + 1)))) hF hS (ex_move rfl) rfl rfl fun a hF=>q_end ?_)
     obtain rfl:=someI hb1
     exact ⟨rfl,q28,q30,s30,_,_,_,rfl,hF.sub ⟨rfl,rfl,rfl,rfl,rfl,rfl,rfl,trivial⟩,hS.sel [0,1,5,2,3,4] (by decide),h28,h30⟩
 ·rintro e a w ⟨q32,q34,s34,from_31,queue_33,rfl,rfl,hF,hS,h32,h34⟩
  refine x_ib (n_sq ?_)
  refine q_seq (q_seq (q_region (q_x (v:=(iV 0)) hF hS (ex_assign rfl) rfl rfl fun a hF=>q_end (n_sq (q_block ?_)))))
  obtain ⟨o7,hl7,hr⟩:=bindS hr
  refine q_loop (fun (s : (List Int) × (List Int) × Int) a w=>∃ (q36 : Piece),∃ (q38 : Piece),∃ (s38 : Sl),∃ from_35,∃ queue_37,∃ at_39,s = (from_35,queue_37,at_39)∧Fr a 110 [(0,(.pointer (some ⟨b_p_f,0,none⟩))),(3,(iV (goLen p_f.rows))),(4,(iV (goLen p_f.cols))),(5,s9.v),(6,s38.v),(8,(iV at_39))]∧St X w0 w m [q36,q38,q5,q6,q7,[⟨b_p_f,[s1.v,s2.v,s3.v,s4.v,s5.v,s6.v,s7.v],150⟩]]∧OwnL m 3 q36 s9 from_35∧OwnL m 3 q38 s38 queue_37) (fun (o : (Unit) ⊕ (Bool × spec_tFill)) e a w=>o = .inl ()∧e = .exit 2∧Fr a 110 []∧St X w0 w m [q5,q6,q7,[⟨b_p_f,[s1.v,s2.v,s3.v,s4.v,s5.v,s6.v,s7.v],150⟩]]) hl7 ⟨q32,q34,s34,_,_,_,rfl,hF.sub ⟨rfl,rfl,rfl,rfl,rfl,rfl,trivial⟩,hS,h32,h34⟩ ?_ ?_
  ·clear hF hS
   rintro s a w st ⟨q36,q38,s38,from_35,queue_37,at_39,rfl,hF,hS,h36,h38⟩ hb7
   unfold spec_tFill_augment_l2 at hb7
   refine q_seq (q_seq (q_region (q_x (v:=(iV at_39)) hF hS (ex_move rfl) rfl rfl fun a hF=>q_x (v:=s38.v) hF hS (ex_move rfl) rfl rfl fun a hF=>q_x (v:=(iV (goLen queue_37))) hF hS (ex_len Try.underlying28 rfl h38.len) rfl rfl fun a hF=>q_x (v:=(.bool (decide (at_39 < (goLen queue_37))))) hF hS (ex_ibin rfl rfl rfl) rfl rfl fun a hF=>q_end (n_sq ?_))))
   rcases bcase (decide (at_39 < (goLen queue_37))) with hc8 | hc8
   ·have hb7:=cond_f hc8 hb7
    refine q_cond_f hF rfl hc8 (q_exit (x_sq ?_))
    obtain rfl:=someI hb7
    exact ⟨nofun,.inl ⟨rfl,rfl,hF.sub trivial,hS.mask [false,false,true,true,true,true]⟩⟩
   ·have hb7:=cond_t hc8 hb7
    refine q_cond_t hF rfl hc8 (q_skipc (n_sq (q_seq (q_block (q_seq (q_region (q_x (v:=s38.v) hF hS (ex_move rfl) rfl rfl fun a hF=>q_x (v:=(iV at_39)) hF hS (ex_move rfl) rfl rfl fun a hF=>?_)))))))
    obtain ⟨e_40,he_40,hb7⟩:=bindS hb7
    obtain ⟨vs41,at41,d41⟩:=h38.at he_40 1 rfl
    obtain rfl : vs41 = [(iV e_40)]:=d41
    refine q_x (v:=(elP s38 (at_39.toNat * 1))) hF hS (ex_indexAddr Try.underlying28 sz3 rfl rfl (h38.idx he_40)) rfl rfl fun a hF=>q_x (v:=(iV e_40)) hF hS (ex_loadE1 0 Try.underlying3 rfl rfl (at41.at 1 rfl) rfl rfl) rfl rfl fun a hF=>q_x (v:=(iV e_40)) hF hS (ex_assign rfl) rfl rfl fun a hF=>q_end (n_sq (q_seq (q_seq ?_)))
    obtain ⟨t_44,hj9,hb7⟩:=bindS hb7
    refine q_join (fun a w=>Fr a 110 [(0,(.pointer (some ⟨b_p_f,0,none⟩))),(3,(iV (goLen p_f.rows))),(4,(iV (goLen p_f.cols))),(5,s9.v),(6,s38.v),(8,(iV at_39)),(9,(iV e_40)),(78,(.bool t_44))]∧St X w0 w m [q36,q38,q5,q6,q7,[⟨b_p_f,[s1.v,s2.v,s3.v,s4.v,s5.v,s6.v,s7.v],150⟩]]) ?_ ?_
    ·refine q_region (q_x (v:=(iV e_40)) hF hS (ex_move rfl) rfl rfl fun a hF=>q_x (v:=(iV (goLen p_f.rows))) hF hS (ex_move rfl) rfl rfl fun a hF=>q_x (v:=(.bool (decide ((goLen p_f.rows) ≤ e_40)))) hF hS (ex_ibin rfl rfl rfl) rfl rfl fun a hF=>q_x (v:=(.bool (decide ((goLen p_f.rows) ≤ e_40)))) hF hS (ex_move rfl) rfl rfl fun a hF=>?_)
     rcases bcase (decide ((goLen p_f.rows) ≤ e_40)) with hc10 | hc10
     ·have hj9:=cond_f hc10 hj9
      refine q_skip hF (wanted_f hF rfl rfl rfl hc10 rfl) rfl fun a hF=>q_skip hF (wanted_f hF rfl rfl rfl hc10 rfl) rfl fun a hF=>q_skip hF (wanted_f hF rfl rfl rfl hc10 rfl) rfl fun a hF=>q_skip hF (wanted_f hF rfl rfl rfl hc10 rfl) rfl fun a hF=>q_skip hF (wanted_f hF rfl rfl rfl hc10 rfl) rfl fun a hF=>q_skip hF (wanted_f hF rfl rfl rfl hc10 rfl) rfl fun a hF=>q_skip hF (wanted_f hF rfl rfl rfl hc10 rfl) rfl fun a hF=>q_skip hF (wanted_f hF rfl rfl rfl hc10 rfl) rfl fun a hF=>q_skip hF (wanted_f hF rfl rfl rfl hc10 rfl) rfl fun a hF=>q_skip hF (wanted_f hF rfl rfl rfl hc10 rfl) rfl fun a hF=>q_x (v:=(.bool false)) hF hS (ex_pick_f rfl rfl hc10) rfl rfl fun a hF=>q_end (n_jn ?_)
      obtain rfl:=someI hj9
      exact ⟨hF.sub ⟨rfl,rfl,rfl,rfl,rfl,rfl,rfl,rfl,trivial⟩,hS⟩
     ·have hj9:=cond_t hc10 hj9
      refine q_xg (v:=(.pointer (some ⟨b_p_f,0,none⟩))) hF hS (ex_move rfl) (wanted_t hF rfl rfl rfl hc10) rfl fun a hF=>q_xg (v:=(.pointer (some ⟨b_p_f,0,none⟩))) hF hS (ex_nilCheck rfl) (wanted_t hF rfl rfl rfl hc10) rfl fun a hF=>q_xg (v:=(.pointer (some ⟨b_p_f,6,none⟩))) hF hS (ex_fieldAddr Try.underlying150 rfl sz28 rfl rfl) (wanted_t hF rfl rfl rfl hc10) rfl fun a hF=>q_xg (v:=s7.v) hF hS (ex_load1 5 0 Try.underlying28 rfl rfl rfl rfl) (wanted_t hF rfl rfl rfl hc10) rfl fun a hF=>q_xg (v:=(iV e_40)) hF hS (ex_move rfl) (wanted_t hF rfl rfl rfl hc10) rfl fun a hF=>q_xg (v:=(iV (goLen p_f.rows))) hF hS (ex_move rfl) (wanted_t hF rfl rfl rfl hc10) rfl fun a hF=>q_xg (v:=(iV (w64 (e_40 - (goLen p_f.rows))))) hF hS (ex_ibin rfl rfl rfl) (wanted_t hF rfl rfl rfl hc10) rfl fun a hF=>?_
      obtain ⟨e_42,he_42,hj9⟩:=bindS hj9
      obtain ⟨vs43,at43,d43⟩:=h7.at he_42 1 rfl
      obtain rfl : vs43 = [(iV e_42)]:=d43
      refine q_xg (v:=(elP s7 ((w64 (e_40 - (goLen p_f.rows))).toNat * 1))) hF hS (ex_indexAddr Try.underlying28 sz3 rfl rfl (h7.idx he_42)) (wanted_t hF rfl rfl rfl hc10) rfl fun a hF=>q_xg (v:=(iV e_42)) hF hS (ex_loadE1 0 Try.underlying3 rfl rfl (at43.at 4 rfl) rfl rfl) (wanted_t hF rfl rfl rfl hc10) rfl fun a hF=>q_xg (v:=(.bool (decide (0 < e_42)))) hF hS (ex_ibin rfl rfl rfl) (wanted_t hF rfl rfl rfl hc10) rfl fun a hF=>q_x (v:=(.bool (decide (0 < e_42)))) hF hS (ex_pick_t rfl rfl hc10) rfl rfl fun a hF=>q_end (n_jn ?_)
      obtain rfl:=someI hj9
      exact ⟨hF.sub ⟨rfl,rfl,rfl,rfl,rfl,rfl,rfl,rfl,trivial⟩,hS⟩
    ·rintro a w ⟨hF,hS⟩
     refine n_sq ?_
     rcases bcase (t_44) with hc11 | hc11
     ·have hb7:=cond_f hc11 hb7
      refine q_cond_f hF rfl hc11 (q_skipc (n_sq (q_seq (q_region (q_x (v:=(iV 0)) hF hS (ex_assign rfl) rfl rfl fun a hF=>q_end (n_sq (q_block ?_)))))))
      obtain ⟨o12,hl12,hb7⟩:=bindS hb7
      refine q_loop (fun (s : (List Int) × (List Int) × Int) a w=>∃ (q46 : Piece),∃ (q48 : Piece),∃ (s48 : Sl),∃ from_45,∃ queue_47,∃ k_49,s = (from_45,queue_47,k_49)∧Fr a 110 [(0,(.pointer (some ⟨b_p_f,0,none⟩))),(3,(iV (goLen p_f.rows))),(4,(iV (goLen p_f.cols))),(5,s9.v),(6,s48.v),(8,(iV at_39)),(9,(iV e_40)),(10,(iV k_49))]∧St X w0 w m [q46,q48,q5,q6,q7,[⟨b_p_f,[s1.v,s2.v,s3.v,s4.v,s5.v,s6.v,s7.v],150⟩]]∧OwnL m 3 q46 s9 from_45∧OwnL m 3 q48 s48 queue_47) (fun (o : (List Int) × (List Int)) e a w=>∃ (q66 : Piece),∃ (q68 : Piece),∃ (s68 : Sl),∃ from_65,∃ queue_67,o = (from_65,queue_67)∧e = .exit 4∧Fr a 110 [(0,(.pointer (some ⟨b_p_f,0,none⟩))),(3,(iV (goLen p_f.rows))),(4,(iV (goLen p_f.cols))),(5,s9.v),(6,s68.v),(8,(iV at_39))]∧St X w0 w m [q66,q68,q5,q6,q7,[⟨b_p_f,[s1.v,s2.v,s3.v,s4.v,s5.v,s6.v,s7.v],150⟩]]∧OwnL m 3 q66 s9 from_65∧OwnL m 3 q68 s68 queue_67) hl12 ⟨q36,q38,s38,_,_,_,rfl,hF.sub ⟨rfl,rfl,rfl,rfl,rfl,rfl,rfl,rfl,trivial⟩,hS,h36,h38⟩ ?_ ?_
      ·clear hF hS
       rintro s a w st ⟨q46,q48,s48,from_45,queue_47,k_49,rfl,hF,hS,h46,h48⟩ hb12
       unfold spec_tFill_augment_l3 at hb12
       refine q_seq (q_seq (q_region (q_x (v:=(iV k_49)) hF hS (ex_move rfl) rfl rfl fun a hF=>q_x (v:=(iV (goLen p_f.rows))) hF hS (ex_move rfl) rfl rfl fun a hF=>q_x (v:=(iV (goLen p_f.cols))) hF hS (ex_move rfl) rfl rfl fun a hF=>q_x (v:=(iV (w64 ((goLen p_f.rows) + (goLen p_f.cols))))) hF hS (ex_ibin rfl rfl rfl) rfl rfl fun a hF=>q_x (v:=(.bool (decide (k_49 < (w64 ((goLen p_f.rows) + (goLen p_f.cols))))))) hF hS (ex_ibin rfl rfl rfl) rfl rfl fun a hF=>q_end (n_sq ?_))))
       rcases bcase (decide (k_49 < (w64 ((goLen p_f.rows) + (goLen p_f.cols))))) with hc13 | hc13
       ·have hb12:=cond_f hc13 hb12
        refine q_cond_f hF rfl hc13 (q_exit (x_sq ?_))
        obtain rfl:=someI hb12
        exact ⟨nofun,.inl ⟨q46,q48,s48,_,_,rfl,rfl,hF.sub ⟨rfl,rfl,rfl,rfl,rfl,rfl,trivial⟩,hS,h46,h48⟩⟩
       ·have hb12:=cond_t hc13 hb12
        refine q_cond_t hF rfl hc13 (q_skipc (n_sq (q_seq (q_block (q_seq ?_)))))
        obtain ⟨t_54,hj14,hb12⟩:=bindS hb12
        refine q_join (fun a w=>Fr a 110 [(0,(.pointer (some ⟨b_p_f,0,none⟩))),(3,(iV (goLen p_f.rows))),(4,(iV (goLen p_f.cols))),(5,s9.v),(6,s48.v),(8,(iV at_39)),(9,(iV e_40)),(10,(iV k_49)),(101,(.bool t_54))]∧St X w0 w m [q46,q48,q5,q6,q7,[⟨b_p_f,[s1.v,s2.v,s3.v,s4.v,s5.v,s6.v,s7.v],150⟩]]) ?_ ?_
        ·refine q_region (q_x (v:=s9.v) hF hS (ex_move rfl) rfl rfl fun a hF=>q_x (v:=(iV k_49)) hF hS (ex_move rfl) rfl rfl fun a hF=>?_)
         obtain ⟨e_50,he_50,hj14⟩:=bindS hj14
         obtain ⟨vs51,at51,d51⟩:=h46.at he_50 1 rfl
         obtain rfl : vs51 = [(iV e_50)]:=d51
         refine q_x (v:=(elP s9 (k_49.toNat * 1))) hF hS (ex_indexAddr Try.underlying28 sz3 rfl rfl (h46.idx he_50)) rfl rfl fun a hF=>q_x (v:=(iV e_50)) hF hS (ex_loadE1 0 Try.underlying3 rfl rfl (at51.at 0 rfl) rfl rfl) rfl rfl fun a hF=>q_x (v:=(.bool (e_50 == (-2)))) hF hS (ex_ibin rfl rfl rfl) rfl rfl fun a hF=>q_x (v:=(.bool (e_50 == (-2)))) hF hS (ex_move rfl) rfl rfl fun a hF=>?_
         rcases bcase (e_50 == (-2)) with hc15 | hc15
         ·have hj14:=cond_f hc15 hj14
          refine q_skip hF (wanted_f hF rfl rfl rfl hc15 rfl) rfl fun a hF=>q_skip hF (wanted_f hF rfl rfl rfl hc15 rfl) rfl fun a hF=>q_skip hF (wanted_f hF rfl rfl rfl hc15 rfl) rfl fun a hF=>q_skip hF (wanted_f hF rfl rfl rfl hc15 rfl) rfl fun a hF=>q_skip hF (wanted_f hF rfl rfl rfl hc15 rfl) rfl fun a hF=>q_x (v:=(.bool false)) hF hS (ex_pick_f rfl rfl hc15) rfl rfl fun a hF=>q_end (n_jn ?_)
          obtain rfl:=someI hj14
          exact ⟨hF.sub ⟨rfl,rfl,rfl,rfl,rfl,rfl,rfl,rfl,rfl,trivial⟩,hS⟩
         ·have hj14:=cond_t hc15 hj14
          refine q_xg (v:=(.pointer (some ⟨b_p_f,0,none⟩))) hF hS (ex_move rfl) (wanted_t hF rfl rfl rfl hc15) rfl fun a hF=>q_xg (v:=(iV e_40)) hF hS (ex_move rfl) (wanted_t hF rfl rfl rfl hc15) rfl fun a hF=>q_xg (v:=(iV k_49)) hF hS (ex_move rfl) (wanted_t hF rfl rfl rfl hc15) rfl fun a hF=>?_
          have hS : St _ _ _ _ [[⟨b_p_f,[s1.v,s2.v,s3.v,s4.v,s5.v,s6.v,s7.v],150⟩],q46,q48,q5,q6,q7]:=hS.sel [5,0,1,2,3,4] (by decide)
          have hS52 : St _ _ _ _ ([[⟨b_p_f,[s1.v,s2.v,s3.v,s4.v,s5.v,s6.v,s7.v],150⟩]]++[q46,q48,q5,q6,q7]):=hS
          obtain ⟨m52,hl52,hE52,hz52⟩:=hS52.lendX
          obtain ⟨t_53,ht_53,hj14⟩:=bindS hj14
          refine q_dog (wanted_t hF rfl rfl rfl hc15) fun _ hK=>wp_callX (vs:=[(.pointer (some ⟨b_p_f,0,none⟩)),(iV e_40),(iV k_49)]) hF Try.func207 (by kernel_rfl) rfl rfl rfl (c_spec_tFill_room p_f e_40 k_49 t_53 ht_53 _ m52 b_p_f s1 (h1.mono hl52) s2 (h2.mono hl52) s3 (h3.mono hl52) s4 (h4.mono hl52) s5 (h5.froz hl52 (hz52 2 _ rfl)) s6 (h6.froz hl52 (hz52 3 _ rfl)) s7 (h7.froz hl52 (hz52 4 _ rfl)) _ hE52) fun a w _ hR hF=>hK _ _ ?_
          obtain ⟨rfl,hR52⟩:=hR
          have hS : St _ _ _ _ [[⟨b_p_f,[s1.v,s2.v,s3.v,s4.v,s5.v,s6.v,s7.v],150⟩],q46,q48,q5,q6,q7]:=hS52.leaveF hR52
          refine q_xg (v:=(.bool (decide (0 < t_53)))) hF hS (ex_ibin rfl rfl rfl) (wanted_t hF rfl rfl rfl hc15) rfl fun a hF=>q_x (v:=(.bool (decide (0 < t_53)))) hF hS (ex_pick_t rfl rfl hc15) rfl rfl fun a hF=>q_end (n_jn ?_)
          obtain rfl:=someI hj14
          exact ⟨hF.sub ⟨rfl,rfl,rfl,rfl,rfl,rfl,rfl,rfl,rfl,trivial⟩,hS.sel [1,2,3,4,5,0] (by decide)⟩
        ·rintro a w ⟨hF,hS⟩
         refine n_sq ?_
         obtain ⟨j16,hj16,hb12⟩:=bindS hb12
         refine q_join (fun a w=>∃ (q62 : Piece),∃ (q64 : Piece),∃ (s64 : Sl),∃ from_61,∃ queue_63,j16 = (from_61,queue_63)∧Fr a 110 [(0,(.pointer (some ⟨b_p_f,0,none⟩))),(3,(iV (goLen p_f.rows))),(4,(iV (goLen p_f.cols))),(5,s9.v),(6,s64.v),(8,(iV at_39)),(9,(iV e_40)),(10,(iV k_49))]∧St X w0 w m [q62,q64,q5,q6,q7,[⟨b_p_f,[s1.v,s2.v,s3.v,s4.v,s5.v,s6.v,s7.v],150⟩]]∧OwnL m 3 q62 s9 from_61∧OwnL m 3 q64 s64 queue_63) ?_ ?_
         ·rcases bcase (t_54) with hc17 | hc17
          ·have hj16:=cond_f hc17 hj16
           refine q_cond_f hF rfl hc17 (q_skipc (n_jn ?_))
           obtain rfl:=someI hj16
           exact ⟨q46,q48,s48,_,_,rfl,hF.sub ⟨rfl,rfl,rfl,rfl,rfl,rfl,rfl,rfl,trivial⟩,hS,h46,h48⟩
          ·have hj16:=cond_t hc17 hj16
           refine q_cond_t hF rfl hc17 (q_seq (q_region (q_x (v:=s9.v) hF hS (ex_move rfl) rfl rfl fun a hF=>q_x (v:=(iV k_49)) hF hS (ex_move rfl) rfl rfl fun a hF=>q_x (v:=(iV e_40)) hF hS (ex_move rfl) rfl rfl fun a hF=>?_)))
           obtain ⟨e_55,he_55,hj16⟩:=bindS hj16
           obtain ⟨vs56,at56,d56⟩:=h46.at he_55 1 rfl
           obtain rfl : vs56 = [(iV e_55)]:=d56
           refine q_x (v:=(elP s9 (k_49.toNat * 1))) hF hS (ex_indexAddr Try.underlying28 sz3 rfl rfl (h46.idx he_55)) rfl rfl fun a hF=>q_do rfl fun _ hK=>wp_storeE (e':=e_40) (us:=[(iV e_40)]) (vs:=[(iV e_55)]) 0 hF hS h46 sz3 rfl rfl rfl rfl rfl rfl rfl he_55 at56 rfl rfl rfl fun w q57 hS h57=>hK _ _ (q_end (n_sq (q_region (q_x (v:=s48.v) hF hS (ex_move rfl) rfl rfl fun a hF=>q_x (v:=(iV k_49)) hF hS (ex_move rfl) rfl rfl fun a hF=>q_do rfl fun _ hK=>wp_buildSlice' (l:=([k_49] : List Int)) (cells:=[(iV k_49)]) hF hS Try.underlying28 inf3 rfl rfl (by kernel_rfl) rfl rfl rfl ⟨rfl,rfl⟩ rfl rfl fun a w q58 s58 hF hS h58 _=>hK _ _ ?_))))
           have hS : St _ _ _ _ [q48,q58,q57,q5,q6,q7,[⟨b_p_f,[s1.v,s2.v,s3.v,s4.v,s5.v,s6.v,s7.v],150⟩]]:=hS.sel [2,0,1,3,4,5,6] (by decide)
           obtain ⟨l_59,hl_59,hj16⟩:=bindS hj16
           refine q_do rfl fun _ hK=>wp_append hF hS h48 Try.underlying28 inf3 rfl rfl rfl rfl (h58.vw hS (j:=1) rfl) rfl (by decide) hl_59 rfl fun a w q60 s60 hF hS h60=>hK _ _ (q_x (v:=s60.v) hF hS (ex_assign rfl) rfl rfl fun a hF=>q_end (n_jn ?_))
           obtain rfl:=someI hj16
           exact ⟨q57,q60,s60,_,_,rfl,hF.sub ⟨rfl,rfl,rfl,rfl,rfl,rfl,rfl,rfl,trivial⟩,hS.sel [2,0,3,4,5,6] (by decide),h57,h60⟩
         ·rintro a w ⟨q62,q64,s64,from_61,queue_63,rfl,hF,hS,h62,h64⟩
          refine n_ib (n_sq ?_)
          refine q_region (q_x (v:=(iV k_49)) hF hS (ex_move rfl) rfl rfl fun a hF=>q_x (v:=(iV (w64 (k_49 + 1)))) hF hS (ex_ibin rfl rfl rfl) rfl rfl fun a hF=>q_x (v:=(iV (w64 (k_49 + 1)))) hF hS (ex_assign rfl) rfl rfl fun a hF=>q_end ?_)
          obtain rfl:=someI hb12
          exact ⟨rfl,q62,q64,s64,_,_,_,rfl,hF.sub ⟨rfl,rfl,rfl,rfl,rfl,rfl,rfl,rfl,trivial⟩,hS,h62,h64⟩
      ·rintro e a w ⟨q66,q68,s68,from_65,queue_67,rfl,rfl,hF,hS,h66,h68⟩
       refine x_ib (n_ib (n_sq ?_))
       refine q_region (q_x (v:=(iV at_39)) hF hS (ex_move rfl) rfl rfl fun a hF=>q_x (v:=(iV (w64 (at_39 + 1)))) hF hS (ex_ibin rfl rfl rfl) rfl rfl fun a hF=>q_x (v:=(iV (w64 (at_39 + 1)))) hF hS (ex_assign rfl) rfl rfl fun a hF=>q_end ?_)
       obtain rfl:=someI hb7
       exact ⟨rfl,q66,q68,s68,_,_,_,rfl,hF.sub ⟨rfl,rfl,rfl,rfl,rfl,rfl,trivial⟩,hS,h66,h68⟩
     ·have hb7:=cond_t hc11 hb7
      refine q_cond_t hF rfl hc11 (q_seq (q_region (q_x (v:=(.pointer (some ⟨b_p_f,0,none⟩))) hF hS (ex_move rfl) rfl rfl fun a hF=>q_x (v:=s9.v) hF hS (ex_move rfl) rfl rfl fun a hF=>q_x (v:=(iV e_40)) hF hS (ex_move rfl) rfl rfl fun a hF=>?_)))
      have hS : St _ _ _ _ [[⟨b_p_f,[s1.v,s2.v,s3.v,s4.v,s5.v,s6.v,s7.v],150⟩],q5,q6,q7,q36,q38]:=hS.sel [5,2,3,4,0,1] (by decide)
      have hS69 : St _ _ _ _ ([[⟨b_p_f,[s1.v,s2.v,s3.v,s4.v,s5.v,s6.v,s7.v],150⟩],q5,q6,q7]++[q36,q38]):=hS
      obtain ⟨m69,hl69,hE69,hz69⟩:=hS69.lendX
      obtain ⟨t_70,ht_70,hb7⟩:=bindS hb7
      refine q_do rfl fun _ hK=>wp_callX (vs:=[(.pointer (some ⟨b_p_f,0,none⟩)),s9.v,(iV e_40)]) hF Try.func206 (by kernel_rfl) rfl rfl rfl (c_spec_tFill_push p_f from_35 e_40 t_70 ht_70 _ m69 b_p_f s1 (h1.mono hl69) s2 (h2.mono hl69) s3 (h3.mono hl69) s4 (h4.mono hl69) s5 q5 (h5.mono hl69) s6 q6 (h6.mono hl69) s7 q7 (h7.mono hl69) s9 (h36.froz hl69 (hz69 0 _ rfl)) _ hE69) fun a w _ hR hF=>hK _ _ ?_
      obtain ⟨q75,q76,q77,s75,s76,s77,rfl,hR69,hk71,hk72,hk73,hk74,h75,h76,h77⟩:=hR
      have hS : St _ _ _ _ [[⟨b_p_f,[s1.v,s2.v,s3.v,s4.v,s75.v,s76.v,s77.v],150⟩],q75,q76,q77,q36,q38]:=hS69.leaveF hR69
      have h75:=h75.any m
      have h76:=h76.any m
      have h77:=h77.any m
      have h71 : Rd m s1 t_70.t.Rows:=by rw [hk71]; exact h1
      have h72 : Rd m s2 t_70.t.Cols:=by rw [hk72]; exact h2
      have h73 : Rd m s3 t_70.t.Lo:=by rw [hk73]; exact h3
      have h74 : Rd m s4 t_70.t.Hi:=by rw [hk74]; exact h4
      refine q_end (n_sq (q_seq (q_region (q_x (v:=(.bool true)) hF hS (ex_assign rfl) rfl rfl fun a hF=>q_end (n_sq (q_ret (r_sq (r_ib (r_sq ?_)))))))))
      obtain rfl:=someI hb7
      refine ⟨nofun,.inr fun ho=>?_⟩
      subst ho
      refine r_ib (r_sq ?_)
      obtain rfl:=someI hr
      exact ret_ofX hF hS rfl (.tmp rfl .nil) ⟨q75,q76,q77,s75,s76,s77,rfl,hS.sel [0,1,2,3] (by decide),hk71,hk72,hk73,hk74,h75,h76,h77⟩
  ·rintro e a w ⟨rfl,rfl,hF,hS⟩
   refine x_ib (n_sq ?_)
   refine q_seq (q_region (q_x (v:=(.bool false)) hF hS (ex_assign rfl) rfl rfl fun a hF=>q_end (n_sq (q_ret ?_))))
   obtain rfl:=someI hr
   exact ret_ofX hF hS rfl (.tmp rfl .nil) ⟨q5,q6,q7,s5,s6,s7,rfl,hS.sel [3,0,1,2] (by decide),rfl,rfl,rfl,rfl,h5,h6,h7⟩

theorem c_spec_tFilled (p_t : impl_Transport) (r : spec_tFill × Bool) (hr : spec_tFilled p_t = some r) (w0 : World) (m : Mem) (hv : Vis m w0) (s1 : Sl) (h1 : Rd m s1 p_t.Rows) (s2 : Sl) (h2 : Rd m s2 p_t.Cols) (s3 : Sl) (h3 : Rd m s3 p_t.Lo) (s4 : Sl) (h4 : Rd m s4 p_t.Hi) :
  Ret Try.prog 182 [(.agg #[s1.v,s2.v,s3.v,s4.v])] w0 (fun v w=>∃ (m' : Mem) (b0' : Nat) (q4' : Piece) (q5' : Piece) (q6' : Piece) (s0' : Sl) (s1' : Sl) (s2' : Sl) (s3' : Sl) (s4' : Sl) (s5' : Sl) (s6' : Sl),v = (.tuple #[(.pointer (some ⟨b0',0,none⟩)),(.bool r.2)])∧MLe [] w0.heap.size m m'∧St [] w0 w m' [[⟨b0',[s0'.v,s1'.v,s2'.v,s3'.v,s4'.v,s5'.v,s6'.v],150⟩],q4',q5',q6']∧Rd m' s0' r.1.t.Rows∧Rd m' s1' r.1.t.Cols∧Rd m' s2' r.1.t.Lo∧Rd m' s3' r.1.t.Hi∧OwnD m' 28 3 q4' s4' r.1.x∧OwnL m' 3 q5' s5' r.1.rows∧OwnL m' 3 q6' s6' r.1.cols):=by
 unfold spec_tFilled at hr
 refine ret_start Try.func182 rfl 17 rfl rfl m hv fun a hF hS=>q_seq (q_region (q_box (cs:=[s1.v,s2.v,s3.v,s4.v]) hF hS rfl rfl rfl fun a w b5 hF hS=>q_x (v:=(.pointer none)) hF hS (ex_assign rfl) rfl rfl fun a hF=>q_x (v:=(.bool false)) hF hS (ex_assign rfl) rfl rfl fun a hF=>q_end (n_sq (q_seq (q_region (q_x (v:=(.agg #[s1.v,s2.v,s3.v,s4.v])) hF hS (ex_loadA (vs:=[s1.v,s2.v,s3.v,s4.v]) 0 0 Try.underlying50 rfl sz50 rfl rfl rfl rfl) rfl rfl fun a hF=>?_))))))
 obtain ⟨t_6,ht_6,hr⟩:=bindS hr
 refine q_call (vs:=[(.agg #[s1.v,s2.v,s3.v,s4.v])]) hF hS Try.func198 (by kernel_rfl) rfl rfl rfl (c_spec_tStart p_t t_6 ht_6 _ m hS.vis s1 h1 s2 h2 s3 h3 s4 h4) ?_
 have hT:=hS
 rintro a w _ ⟨m7,b15,q12,q13,q14,s8,s9,s10,s11,s12,s13,s14,rfl,hm7,hR7,h8,h9,h10,h11,h12,h13,h14⟩ hF hS2
 have hS : St _ _ _ _ [[⟨b15,[s8.v,s9.v,s10.v,s11.v,s12.v,s13.v,s14.v],150⟩],q12,q13,q14,[⟨b5,[s1.v,s2.v,s3.v,s4.v],50⟩]]:=hS.join hR7 hm7
 have hm7:=MLe.weakX (O0:=[]) hT hm7
 refine q_x (v:=(.tuple #[(.pointer (some ⟨b15,0,none⟩)),(.bool t_6.2)])) hF hS (ex_move rfl) rfl rfl fun a hF=>q_x (v:=(.pointer (some ⟨b15,0,none⟩))) hF hS (ex_extract rfl rfl) rfl rfl fun a hF=>q_x (v:=(.bool t_6.2)) hF hS (ex_extract rfl rfl) rfl rfl fun a hF=>q_x (v:=(.pointer (some ⟨b15,0,none⟩))) hF hS (ex_assign rfl) rfl rfl fun a hF=>q_x (v:=(.bool t_6.2)) hF hS (ex_assign rfl) rfl rfl fun a hF=>q_end (n_sq (q_seq (q_seq (q_region (q_x (v:=(.bool t_6.2)) hF hS (ex_move rfl) rfl rfl fun a hF=>q_x (v:=(.bool (!t_6.2))) hF hS (ex_not rfl) rfl rfl fun a hF=>q_end (n_sq ?_))))))
 rcases bcase (!t_6.2) with hc1 | hc1
 ·have hr:=cond_f hc1 hr
  refine q_cond_f hF rfl hc1 (q_skipc (n_sq (q_seq (q_block ?_))))
  obtain ⟨f_33,hl2,hr⟩:=bindS hr
  refine q_loop (fun (f_16 : spec_tFill) a w=>∃ (q21 : Piece),∃ (s21 : Sl),∃ (q22 : Piece),∃ (s22 : Sl),∃ (q23 : Piece),∃ (s23 : Sl),Fr a 17 [(4,(.pointer (some ⟨b15,0,none⟩)))]∧St [] w0 w m7 [q21,q22,q23,[⟨b15,[s8.v,s9.v,s10.v,s11.v,s21.v,s22.v,s23.v],150⟩]]∧Rd m7 s8 f_16.t.Rows∧f_16.t.Rows = t_6.1.t.Rows∧Rd m7 s9 f_16.t.Cols∧f_16.t.Cols = t_6.1.t.Cols∧Rd m7 s10 f_16.t.Lo∧f_16.t.Lo = t_6.1.t.Lo∧Rd m7 s11 f_16.t.Hi∧f_16.t.Hi = t_6.1.t.Hi∧OwnD m7 28 3 q21 s21 f_16.x∧OwnL m7 3 q22 s22 f_16.rows∧OwnL m7 3 q23 s23 f_16.cols) (fun (f_33 : spec_tFill) e a w=>∃ (q38 : Piece),∃ (s38 : Sl),∃ (q39 : Piece),∃ (s39 : Sl),∃ (q40 : Piece),∃ (s40 : Sl),e = .exit 0∧Fr a 17 [(4,(.pointer (some ⟨b15,0,none⟩)))]∧St [] w0 w m7 [q38,q39,q40,[⟨b15,[s8.v,s9.v,s10.v,s11.v,s38.v,s39.v,s40.v],150⟩]]∧Rd m7 s8 f_33.t.Rows∧f_33.t.Rows = t_6.1.t.Rows∧Rd m7 s9 f_33.t.Cols∧f_33.t.Cols = t_6.1.t.Cols∧Rd m7 s10 f_33.t.Lo∧f_33.t.Lo = t_6.1.t.Lo∧Rd m7 s11 f_33.t.Hi∧f_33.t.Hi = t_6.1.t.Hi∧OwnD m7 28 3 q38 s38 f_33.x∧OwnL m7 3 q39 s39 f_33.rows∧OwnL m7 3 q40 s40 f_33.cols) hl2 ⟨q12,s12,q13,s13,q14,s14,hF.sub ⟨rfl,trivial⟩,hS.sel [1,2,3,0] (by decide),h8,rfl,h9,rfl,h10,rfl,h11,rfl,h12,h13,h14⟩ ?_ ?_
  ·clear hF hS
   rintro f_16 a w st ⟨q21,s21,q22,s22,q23,s23,hF,hS,h17,h17k,h18,h18k,h19,h19k,h20,h20k,h21,h22,h23⟩ hb2
   unfold spec_tFilled_l1 at hb2
   refine q_seq (q_seq (q_region (q_x (v:=(.pointer (some ⟨b15,0,none⟩))) hF hS (ex_move rfl) rfl rfl fun a hF=>?_)))
   have hS : St _ _ _ _ [[⟨b15,[s8.v,s9.v,s10.v,s11.v,s21.v,s22.v,s23.v],150⟩],q21,q22,q23]:=hS.sel [3,0,1,2] (by decide)
   have hS24 : St _ _ _ _ ([[⟨b15,[s8.v,s9.v,s10.v,s11.v,s21.v,s22.v,s23.v],150⟩],q21,q22,q23]++[]):=hS
   have hE24:=hS24.enter
   obtain ⟨t_25,ht_25,hb2⟩:=bindS hb2
   refine q_do rfl fun _ hK=>wp_callX (vs:=[(.pointer (some ⟨b15,0,none⟩))]) hF Try.func199 (by kernel_rfl) rfl rfl rfl (c_spec_tFill_augment f_16 t_25 ht_25 _ m7 b15 s8 h17 s9 h18 s10 h19 s11 h20 s21 q21 h21 s22 q22 h22 s23 q23 h23 _ hE24) fun a w _ hR hF=>hK _ _ ?_
   obtain ⟨q30,q31,q32,s30,s31,s32,rfl,hR24,hk26,hk27,hk28,hk29,h30,h31,h32⟩:=hR
   have hS : St _ _ _ _ [[⟨b15,[s8.v,s9.v,s10.v,s11.v,s30.v,s31.v,s32.v],150⟩],q30,q31,q32]:=hS24.leaveF hR24
   have h26 : Rd m7 s8 t_25.2.t.Rows:=by rw [hk26]; exact h17
   have h27 : Rd m7 s9 t_25.2.t.Cols:=by rw [hk27]; exact h18
   have h28 : Rd m7 s10 t_25.2.t.Lo:=by rw [hk28]; exact h19
   have h29 : Rd m7 s11 t_25.2.t.Hi:=by rw [hk29]; exact h20
   refine q_end (n_sq ?_)
   rcases bcase (t_25.1) with hc3 | hc3
   ·have hb2:=cond_f hc3 hb2
    refine q_cond_f hF rfl hc3 (q_exit (x_sq ?_))
    obtain rfl:=someI hb2
    exact ⟨nofun,.inl ⟨q30,s30,q31,s31,q32,s32,rfl,hF.sub ⟨rfl,trivial⟩,hS.sel [1,2,3,0] (by decide),h26,(hk26.trans h17k),h27,(hk27.trans h18k),h28,(hk28.trans h19k),h29,(hk29.trans h20k),h30,h31,h32⟩⟩
   ·have hb2:=cond_t hc3 hb2
    refine q_cond_t hF rfl hc3 (q_skipc (n_sq (q_block (q_skipc (n_ib ?_)))))
    obtain rfl:=someI hb2
    exact ⟨rfl,q30,s30,q31,s31,q32,s32,hF.sub ⟨rfl,trivial⟩,hS.sel [1,2,3,0] (by decide),h26,(hk26.trans h17k),h27,(hk27.trans h18k),h28,(hk28.trans h19k),h29,(hk29.trans h20k),h30,h31,h32⟩
  ·rintro e a w ⟨q38,s38,q39,s39,q40,s40,rfl,hF,hS,h34,h34k,h35,h35k,h36,h36k,h37,h37k,h38,h39,h40⟩
   refine x_ib (n_sq ?_)
   refine q_seq (q_region (q_x (v:=(.pointer (some ⟨b15,0,none⟩))) hF hS (ex_move rfl) rfl rfl fun a hF=>q_x (v:=(.pointer (some ⟨b15,0,none⟩))) hF hS (ex_assign rfl) rfl rfl fun a hF=>q_x (v:=(.bool true)) hF hS (ex_assign rfl) rfl rfl fun a hF=>q_end (n_sq (q_ret ?_))))
   obtain rfl:=someI hr
   exact ret_of hF hS rfl (.tmp rfl (.tmp rfl .nil)) ⟨m7,b15,q38,q39,q40,s8,s9,s10,s11,s38,s39,s40,rfl,hm7,hS.sel [3,0,1,2] (by decide),h34,h35,h36,h37,h38,h39,h40⟩
 ·have hr:=cond_t hc1 hr
  refine q_cond_t hF rfl hc1 (q_seq (q_region (q_x (v:=(.pointer (some ⟨b15,0,none⟩))) hF hS (ex_move rfl) rfl rfl fun a hF=>q_x (v:=(.pointer (some ⟨b15,0,none⟩))) hF hS (ex_assign rfl) rfl rfl fun a hF=>q_x (v:=(.bool false)) hF hS (ex_assign rfl) rfl rfl fun a hF=>q_end (n_sq (q_ret (r_sq ?_))))))
  obtain rfl:=someI hr
  exact ret_of hF hS rfl (.tmp rfl (.tmp rfl .nil)) ⟨m7,b15,q12,q13,q14,s8,s9,s10,s11,s12,s13,s14,rfl,hm7,hS.sel [0,1,2,3] (by decide),h8,h9,h10,h11,h12,h13,h14⟩

theorem c_spec_tFeasible (p_t : impl_Transport) (r : (List (List Int)) × Bool) (hr : spec_tFeasible p_t = some r) (w0 : World) (m : Mem) (hv : Vis m w0) (s1 : Sl) (h1 : Rd m s1 p_t.Rows) (s2 : Sl) (h2 : Rd m s2 p_t.Cols) (s3 : Sl) (h3 : Rd m s3 p_t.Lo) (s4 : Sl) (h4 : Rd m s4 p_t.Hi) :
  Ret Try.prog 158 [(.agg #[s1.v,s2.v,s3.v,s4.v])] w0 (fun v w=>∃ (m' : Mem) (q0' : Piece) (s0' : Sl),v = (.tuple #[s0'.v,(.bool r.2)])∧MLe [] w0.heap.size m m'∧St [] w0 w m' [q0']∧OwnD m' 28 3 q0' s0' r.1):=by
 unfold spec_tFeasible at hr
 refine ret_start Try.func158 rfl 32 rfl rfl m hv fun a hF hS=>q_seq (q_region (q_box (cs:=[s1.v,s2.v,s3.v,s4.v]) hF hS rfl rfl rfl fun a w b5 hF hS=>q_x (v:=nilS.v) hF hS (ex_assign rfl) rfl rfl fun a hF=>q_x (v:=(.bool false)) hF hS (ex_assign rfl) rfl rfl fun a hF=>q_end (n_sq (q_seq (q_seq (e_region ⟨[],[],m⟩ mixed fun w' hw'=>?_))))))
 have hS:=hS.below hw'
 refine e_p (v:=(.pointer (some ⟨b5,0,none⟩))) 0 hF rfl (ex_fieldAddr Try.underlying50 rfl sz28 rfl rfl) rfl rfl (by kernel_rfl) (by kernel_rfl) (by kernel_rfl) fun a hF=>e_x (v:=s1.v) 1 hF hS rfl (ex_load1 0 0 Try.underlying28 rfl rfl rfl rfl) rfl rfl (by kernel_rfl) (by kernel_rfl) (by kernel_rfl) (by kernel_rfl) fun a hF=>e_p (v:=(.pointer (some ⟨b5,1,none⟩))) 3 hF rfl (ex_fieldAddr Try.underlying50 rfl sz28 rfl rfl) rfl rfl (by kernel_rfl) (by kernel_rfl) (by kernel_rfl) fun a hF=>e_x (v:=s2.v) 4 hF hS rfl (ex_load1 0 0 Try.underlying28 rfl rfl rfl rfl) rfl rfl (by kernel_rfl) (by kernel_rfl) (by kernel_rfl) (by kernel_rfl) fun a hF=>e_one 2 (by kernel_rfl) ?_
 obtain ⟨t_8,ht_8,hr⟩:=bindS hr
 refine e_call (vs:=[s1.v]) hF hS rfl Try.func83 (by kernel_rfl) rfl rfl rfl (c_spec_tSum p_t.Rows t_8 ht_8 _ m hS.vis s1 h1) ?_
 rintro a w _ rfl hF hS
 refine e_one 5 (by kernel_rfl) ?_
 obtain ⟨t_9,ht_9,hr⟩:=bindS hr
 refine e_call (vs:=[s2.v]) hF hS rfl Try.func83 (by kernel_rfl) rfl rfl rfl (c_spec_tSum p_t.Cols t_9 ht_9 _ m hS.vis s2 h2) ?_
 rintro a w _ rfl hF hS
 refine e_p (v:=(.bool (t_8 != t_9))) 6 hF rfl (ex_ibin rfl rfl rfl) rfl rfl (by kernel_rfl) (by kernel_rfl) (by kernel_rfl) fun a hF=>e_end (by kernel_rfl) (n_sq ?_) _
 rcases bcase (t_8 != t_9) with hc1 | hc1
 ·have hr:=cond_f hc1 hr
  refine q_cond_f hF rfl hc1 (q_skipc (n_sq (q_seq (q_region (q_x (v:=(.agg #[s1.v,s2.v,s3.v,s4.v])) hF hS (ex_loadA (vs:=[s1.v,s2.v,s3.v,s4.v]) 0 0 Try.underlying50 rfl sz50 rfl rfl rfl rfl) rfl rfl fun a hF=>?_)))))
  obtain ⟨t_10,ht_10,hr⟩:=bindS hr
  refine q_call (vs:=[(.agg #[s1.v,s2.v,s3.v,s4.v])]) hF hS Try.func182 (by kernel_rfl) rfl rfl rfl (c_spec_tFilled p_t t_10 ht_10 _ m hS.vis s1 h1 s2 h2 s3 h3 s4 h4) ?_
  have hT:=hS
  rintro a w _ ⟨m11,b19,q16,q17,q18,s12,s13,s14,s15,s16,s17,s18,rfl,hm11,hR11,h12,h13,h14,h15,h16,h17,h18⟩ hF hS2
  have hS : St _ _ _ _ [[⟨b19,[s12.v,s13.v,s14.v,s15.v,s16.v,s17.v,s18.v],150⟩],q16,q17,q18,[⟨b5,[s1.v,s2.v,s3.v,s4.v],50⟩]]:=hS.join hR11 hm11
  have hm11:=MLe.weakX (O0:=[]) hT hm11
  refine q_x (v:=(.tuple #[(.pointer (some ⟨b19,0,none⟩)),(.bool t_10.2)])) hF hS (ex_move rfl) rfl rfl fun a hF=>q_x (v:=(.pointer (some ⟨b19,0,none⟩))) hF hS (ex_extract rfl rfl) rfl rfl fun a hF=>q_x (v:=(.bool t_10.2)) hF hS (ex_extract rfl rfl) rfl rfl fun a hF=>q_x (v:=(.pointer (some ⟨b19,0,none⟩))) hF hS (ex_assign rfl) rfl rfl fun a hF=>q_x (v:=(.bool t_10.2)) hF hS (ex_assign rfl) rfl rfl fun a hF=>q_end (n_sq (q_seq (q_seq ?_)))
  obtain ⟨t_22,hj2,hr⟩:=bindS hr
  refine q_join (fun a w=>Fr a 32 [(4,(.pointer (some ⟨b19,0,none⟩))),(27,(.bool t_22))]∧St [] w0 w m11 [q16,q17,q18,[⟨b19,[s12.v,s13.v,s14.v,s15.v,s16.v,s17.v,s18.v],150⟩]]) ?_ ?_
  ·refine q_region (q_x (v:=(.bool t_10.2)) hF hS (ex_move rfl) rfl rfl fun a hF=>q_x (v:=(.bool (!t_10.2))) hF hS (ex_not rfl) rfl rfl fun a hF=>q_x (v:=(.bool (!t_10.2))) hF hS (ex_move rfl) rfl rfl fun a hF=>?_)
   rcases bcase (!t_10.2) with hc3 | hc3
   ·have hj2:=cond_f hc3 hj2
    refine q_xg (v:=(.pointer (some ⟨b19,0,none⟩))) hF hS (ex_move rfl) (wanted_t hF rfl rfl rfl hc3) rfl fun a hF=>q_xg (v:=(.pointer (some ⟨b19,0,none⟩))) hF hS (ex_nilCheck rfl) (wanted_t hF rfl rfl rfl hc3) rfl fun a hF=>q_xg (v:=(.pointer (some ⟨b19,5,none⟩))) hF hS (ex_fieldAddr Try.underlying150 rfl sz28 rfl rfl) (wanted_t hF rfl rfl rfl hc3) rfl fun a hF=>q_xg (v:=s17.v) hF hS (ex_load1 0 0 Try.underlying28 rfl rfl rfl rfl) (wanted_t hF rfl rfl rfl hc3) rfl fun a hF=>?_
    obtain ⟨m21,hl21,hv21,hz21⟩:=hS.lend
    obtain ⟨t_20,ht_20,hj2⟩:=bindS hj2
    refine q_callg (vs:=[s17.v]) hF hS (wanted_t hF rfl rfl rfl hc3) Try.func83 (by kernel_rfl) rfl rfl rfl (c_spec_tSum t_10.1.rows t_20 ht_20 _ m21 hv21 s17 (h17.froz hl21 (hz21 2 _ rfl))) ?_
    rintro a w _ rfl hF hS
    refine q_xg (v:=(.bool (decide (0 < t_20)))) hF hS (ex_ibin rfl rfl rfl) (wanted_t hF rfl rfl rfl hc3) rfl fun a hF=>q_x (v:=(.bool (decide (0 < t_20)))) hF hS (ex_pick_f rfl rfl hc3) rfl rfl fun a hF=>q_end (n_jn ?_)
    obtain rfl:=someI hj2
    exact ⟨hF.sub ⟨rfl,rfl,trivial⟩,hS.sel [1,2,3,0] (by decide)⟩
   ·have hj2:=cond_t hc3 hj2
    refine q_skip hF (wanted_f hF rfl rfl rfl hc3 rfl) rfl fun a hF=>q_skip hF (wanted_f hF rfl rfl rfl hc3 rfl) rfl fun a hF=>q_skip hF (wanted_f hF rfl rfl rfl hc3 rfl) rfl fun a hF=>q_skip hF (wanted_f hF rfl rfl rfl hc3 rfl) rfl fun a hF=>q_skip hF (wanted_f hF rfl rfl rfl hc3 rfl) rfl fun a hF=>q_skip hF (wanted_f hF rfl rfl rfl hc3 rfl) rfl fun a hF=>q_x (v:=(.bool true)) hF hS (ex_pick_t rfl rfl hc3) rfl rfl fun a hF=>q_end (n_jn ?_)
    obtain rfl:=someI hj2
    exact ⟨hF.sub ⟨rfl,rfl,trivial⟩,hS.sel [1,2,3,0] (by decide)⟩
  ·rintro a w ⟨hF,hS⟩
   refine n_sq ?_
   rcases bcase (t_22) with hc4 | hc4
   ·have hr:=cond_f hc4 hr
    refine q_cond_f hF rfl hc4 (q_skipc (n_sq (q_seq (q_region (q_x (v:=(.pointer (some ⟨b19,0,none⟩))) hF hS (ex_move rfl) rfl rfl fun a hF=>q_x (v:=(.pointer (some ⟨b19,0,none⟩))) hF hS (ex_nilCheck rfl) rfl rfl fun a hF=>q_x (v:=(.pointer (some ⟨b19,4,none⟩))) hF hS (ex_fieldAddr Try.underlying150 rfl sz23 rfl rfl) rfl rfl fun a hF=>q_x (v:=s16.v) hF hS (ex_load1 3 0 Try.underlying23 rfl rfl rfl rfl) rfl rfl fun a hF=>q_x (v:=s16.v) hF hS (ex_assign rfl) rfl rfl fun a hF=>q_x (v:=(.bool true)) hF hS (ex_assign rfl) rfl rfl fun a hF=>q_end (n_sq (q_ret ?_)))))))
    obtain rfl:=someI hr
    exact ret_of hF hS rfl (.tmp rfl (.tmp rfl .nil)) ⟨m11,q16,s16,rfl,hm11,hS.sel [0] (by decide),h16⟩
   ·have hr:=cond_t hc4 hr
    refine q_cond_t hF rfl hc4 (q_seq (q_region (q_x (v:=nilS.v) hF hS (ex_assign rfl) rfl rfl fun a hF=>q_x (v:=(.bool false)) hF hS (ex_assign rfl) rfl rfl fun a hF=>q_end (n_sq (q_ret (r_sq ?_))))))
    obtain rfl:=someI hr
    exact ret_of hF hS rfl (.tmp rfl (.tmp rfl .nil)) ⟨m11,[],nilS,rfl,hm11,hS.sel [4] (by decide),(OwnD.nil (β:=Int) m11 28 3)⟩
 ·have hr:=cond_t hc1 hr
  refine q_cond_t hF rfl hc1 (q_seq (q_region (q_x (v:=nilS.v) hF hS (ex_assign rfl) rfl rfl fun a hF=>q_x (v:=(.bool false)) hF hS (ex_assign rfl) rfl rfl fun a hF=>q_end (n_sq (q_ret (r_sq ?_))))))
  obtain rfl:=someI hr
  exact ret_of hF hS rfl (.tmp rfl (.tmp rfl .nil)) ⟨m,[],nilS,rfl,(MLe.refl _ _),hS.sel [1] (by decide),(OwnD.nil (β:=Int) m 28 3)⟩

theorem c_spec_vProtected (p_x : List (List Int)) (p_p : List (List Int)) (p_i : Int) (p_j : Int) (p_down : Int) (p_up : Int) (r : Bool) (hr : spec_vProtected p_x p_p p_i p_j p_down p_up = some r) (w0 : World) (m : Mem) (hv : Vis m w0) (s1 : Sl) (h1 : Rd m s1 p_x) (s2 : Sl) (h2 : Rd m s2 p_p) :
  Ret Try.prog 112 [s1.v,s2.v,(iV p_i),(iV p_j),(iV p_down),(iV p_up)] w0 (fun v _=>v = (.bool r)):=by
 unfold spec_vProtected at hr
 refine ret_start Try.func112 rfl 58 rfl rfl m hv fun a hF hS=>q_seq (q_region (q_x (v:=(.bool false)) hF hS (ex_assign rfl) rfl rfl fun a hF=>q_end (n_sq (q_seq (q_region (q_x (v:=s1.v) hF hS (ex_move rfl) rfl rfl fun a hF=>q_x (v:=s2.v) hF hS (ex_move rfl) rfl rfl fun a hF=>?_))))))
 obtain ⟨t_3,ht_3,hr⟩:=bindS hr
 refine q_call (vs:=[s1.v,s2.v]) hF hS Try.func118 (by kernel_rfl) rfl rfl rfl (c_spec_qNetwork p_x p_p t_3 ht_3 _ m hS.vis s1 h1 s2 h2) ?_
 have hT:=hS
 rintro a w _ ⟨m4,q5,q6,q7,q8,s5,s6,s7,s8,rfl,hm4,hR4,h5,h6,h7,h8⟩ hF hS2
 have hS : St _ _ _ _ [q5,q6,q7,q8]:=hS.join hR4 hm4
 have hm4:=MLe.weakX (O0:=[]) hT hm4
 refine q_alloc (cs:=[nilS.v,nilS.v,nilS.v,nilS.v]) hF hS rfl rfl rfl fun a w b9 hF hS=>q_store (vs:=[s5.v,s6.v,s7.v,s8.v]) (cs':=[s5.v,s6.v,s7.v,s8.v]) 0 0 hF hS sz50 rfl rfl rfl rfl rfl rfl rfl rfl fun a w hF hS=>q_end (n_sq (q_seq (q_seq (e_region ⟨[],[],m4⟩ mixed fun w' hw'=>?_))))
 have hS:=hS.below hw'
 refine e_x (v:=(.agg #[s5.v,s6.v,s7.v,s8.v])) 0 hF hS rfl (ex_loadA (vs:=[s5.v,s6.v,s7.v,s8.v]) 0 0 Try.underlying50 rfl sz50 rfl rfl rfl rfl) rfl rfl (by kernel_rfl) (by kernel_rfl) (by kernel_rfl) (by kernel_rfl) fun a hF=>e_p (v:=(iV p_i)) 1 hF rfl (ex_move rfl) rfl rfl (by kernel_rfl) (by kernel_rfl) (by kernel_rfl) fun a hF=>e_p (v:=(iV p_j)) 2 hF rfl (ex_move rfl) rfl rfl (by kernel_rfl) (by kernel_rfl) (by kernel_rfl) fun a hF=>e_p (v:=s1.v) 3 hF rfl (ex_move rfl) rfl rfl (by kernel_rfl) (by kernel_rfl) (by kernel_rfl) fun a hF=>e_p (v:=(iV p_i)) 4 hF rfl (ex_move rfl) rfl rfl (by kernel_rfl) (by kernel_rfl) (by kernel_rfl) fun a hF=>?_
 obtain ⟨e_10,he_10,hr⟩:=bindS hr
 obtain ⟨vs11,at11,d11⟩:=h1.at he_10 1 rfl
 obtain ⟨s12,rfl,h12⟩ : ∃ s12 : Sl,vs11 = [s12.v]∧Rd m s12 e_10:=d11
 refine e_p (v:=(elP s1 (p_i.toNat * 1))) 5 hF rfl (ex_indexAddr Try.underlying23 sz28 rfl rfl ((h1.mono hm4.le).idx he_10)) rfl rfl (by kernel_rfl) (by kernel_rfl) (by kernel_rfl) fun a hF=>e_xm (v:=s12.v) 6 hF hS (Mem.le.refl _) rfl (ex_loadE1 0 Try.underlying28 rfl rfl (((at11.mono hm4.le)).at) rfl rfl) rfl rfl (by kernel_rfl) (by kernel_rfl) (by kernel_rfl) fun a hF=>e_p (v:=(iV p_j)) 7 hF rfl (ex_move rfl) rfl rfl (by kernel_rfl) (by kernel_rfl) (by kernel_rfl) fun a hF=>?_
 obtain ⟨e_13,he_13,hr⟩:=bindS hr
 obtain ⟨vs14,at14,d14⟩:=h12.at he_13 1 rfl
 obtain rfl : vs14 = [(iV e_13)]:=d14
 refine e_p (v:=(elP s12 (p_j.toNat * 1))) 8 hF rfl (ex_indexAddr Try.underlying28 sz3 rfl rfl ((h12.mono hm4.le).idx he_13)) rfl rfl (by kernel_rfl) (by kernel_rfl) (by kernel_rfl) fun a hF=>e_xm (v:=(iV e_13)) 9 hF hS (Mem.le.refl _) rfl (ex_loadE1 0 Try.underlying3 rfl rfl (((at14.mono hm4.le)).at) rfl rfl) rfl rfl (by kernel_rfl) (by kernel_rfl) (by kernel_rfl) fun a hF=>e_p (v:=(iV p_down)) 10 hF rfl (ex_move rfl) rfl rfl (by kernel_rfl) (by kernel_rfl) (by kernel_rfl) fun a hF=>e_one 11 (by kernel_rfl) ?_
 obtain ⟨t_15,ht_15,hr⟩:=bindS hr
 refine e_call (vs:=[(iV e_13),(iV p_down)]) hF hS rfl Try.func159 (by kernel_rfl) rfl rfl rfl (c_spec_vGoal e_13 p_down t_15 ht_15 _ m4 hS.vis) ?_
 rintro a w _ rfl hF hS
 refine e_one 12 (by kernel_rfl) ?_
 have hS : St _ _ _ _ [q5,[⟨b9,[s5.v,s6.v,s7.v,s8.v],50⟩],q6,q7,q8]:=hS.sel [1,0,2,3,4] (by decide)
 obtain ⟨m16,hm16,hS,hz16⟩:=hS.freeze
 have h16:=h5.froz hm16.le hz16
 have hS : St _ _ _ _ [q6,[⟨b9,[s5.v,s6.v,s7.v,s8.v],50⟩],q7,q8]:=hS.sel [1,0,2,3] (by decide)
 obtain ⟨m17,hm17,hS,hz17⟩:=hS.freeze
 have h17:=(h6.mono hm16.le).froz hm17.le hz17
 have hS : St _ _ _ _ [q7,[⟨b9,[s5.v,s6.v,s7.v,s8.v],50⟩],q8]:=hS.sel [1,0,2] (by decide)
 obtain ⟨m18,hm18,hS,hz18⟩:=hS.freeze
 have h18:=((h7.mono hm16.le).mono hm17.le).froz hm18.le hz18
 have hS : St _ _ _ _ [q8,[⟨b9,[s5.v,s6.v,s7.v,s8.v],50⟩]]:=hS.sel [1,0] (by decide)
 obtain ⟨m19,hm19,hS,hz19⟩:=hS.freeze
 have h19:=(((h8.mono hm16.le).mono hm17.le).mono hm18.le).froz hm19.le hz19
 obtain ⟨t_20,ht_20,hr⟩:=bindS hr
 refine e_call (vs:=[(.agg #[s5.v,s6.v,s7.v,s8.v]),(iV p_i),(iV p_j),(iV 0),(iV t_15)]) hF hS rfl Try.func121 (by kernel_rfl) rfl rfl rfl (c_spec_tWith t_3 p_i p_j 0 t_15 t_20 ht_20 _ m19 hS.vis s5 (((h16.mono hm17.le).mono hm18.le).mono hm19.le) s6 ((h17.mono hm18.le).mono hm19.le) s7 (h18.mono hm19.le) s8 h19) ?_
 have hT:=hS
 rintro a w _ ⟨m21,q24,q25,s22,s23,s24,s25,rfl,hm21,hR21,h22,h23,h24,h25⟩ hF hS2
 have hS : St _ _ _ _ [q24,q25,[⟨b9,[s5.v,s6.v,s7.v,s8.v],50⟩]]:=hS.join hR21 hm21
 have hm21:=MLe.weakX (O0:=[]) hT hm21
 refine e_one 13 (by kernel_rfl) ?_
 obtain ⟨m26,hm26,hS,hz26⟩:=hS.freeze
 have h26:=h24.froz hm26.le hz26
 obtain ⟨m27,hm27,hS,hz27⟩:=hS.freeze
 have h27:=(h25.mono hm26.le).froz hm27.le hz27
 obtain ⟨t_28,ht_28,hr⟩:=bindS hr
 refine e_call (vs:=[(.agg #[s22.v,s23.v,s24.v,s25.v])]) hF hS rfl Try.func158 (by kernel_rfl) rfl rfl rfl (c_spec_tFeasible t_20 t_28 ht_28 _ m27 hS.vis s22 ((h22.mono hm26.le).mono hm27.le) s23 ((h23.mono hm26.le).mono hm27.le) s24 (h26.mono hm27.le) s25 h27) ?_
 have hT:=hS
 rintro a w _ ⟨m29,q30,s30,rfl,hm29,hR29,h30⟩ hF hS2
 have hS : St _ _ _ _ [q30,[⟨b9,[s5.v,s6.v,s7.v,s8.v],50⟩]]:=hS.join hR29 hm29
 have hm29:=MLe.weakX (O0:=[]) hT hm29
 refine e_p (v:=(.tuple #[s30.v,(.bool t_28.2)])) 14 hF rfl (ex_move rfl) rfl rfl (by kernel_rfl) (by kernel_rfl) (by kernel_rfl) fun a hF=>e_p (v:=s30.v) 15 hF rfl (ex_extract rfl rfl) rfl rfl (by kernel_rfl) (by kernel_rfl) (by kernel_rfl) fun a hF=>e_p (v:=(.bool t_28.2)) 16 hF rfl (ex_extract rfl rfl) rfl rfl (by kernel_rfl) (by kernel_rfl) (by kernel_rfl) fun a hF=>e_p (v:=s30.v) 17 hF rfl (ex_assign rfl) rfl rfl (by kernel_rfl) (by kernel_rfl) (by kernel_rfl) fun a hF=>e_p (v:=(.bool t_28.2)) 18 hF rfl (ex_assign rfl) rfl rfl (by kernel_rfl) (by kernel_rfl) (by kernel_rfl) fun a hF=>e_end (by kernel_rfl) (n_sq ?_) _
 refine q_seq (q_region (q_x (v:=(.bool t_28.2)) hF hS (ex_move rfl) rfl rfl fun a hF=>q_x (v:=(.bool (!t_28.2))) hF hS (ex_not rfl) rfl rfl fun a hF=>q_end (n_sq ?_)))
 rcases bcase (!t_28.2) with hc1 | hc1
 ·have hr:=cond_f hc1 hr
  refine q_cond_f hF rfl hc1 (q_skipc (n_sq (q_seq (e_region ⟨[],[],m29⟩ mixed fun w' hw'=>?_))))
  have hS:=hS.below hw'
  refine e_x (v:=(.agg #[s5.v,s6.v,s7.v,s8.v])) 0 hF hS rfl (ex_loadA (vs:=[s5.v,s6.v,s7.v,s8.v]) 1 0 Try.underlying50 rfl sz50 rfl rfl rfl rfl) rfl rfl (by kernel_rfl) (by kernel_rfl) (by kernel_rfl) (by kernel_rfl) fun a hF=>e_p (v:=(iV p_i)) 1 hF rfl (ex_move rfl) rfl rfl (by kernel_rfl) (by kernel_rfl) (by kernel_rfl) fun a hF=>e_p (v:=(iV p_j)) 2 hF rfl (ex_move rfl) rfl rfl (by kernel_rfl) (by kernel_rfl) (by kernel_rfl) fun a hF=>e_p (v:=s1.v) 3 hF rfl (ex_move rfl) rfl rfl (by kernel_rfl) (by kernel_rfl) (by kernel_rfl) fun a hF=>e_p (v:=(iV p_i)) 4 hF rfl (ex_move rfl) rfl rfl (by kernel_rfl) (by kernel_rfl) (by kernel_rfl) fun a hF=>?_
  obtain ⟨e_31,he_31,hr⟩:=bindS hr
  obtain ⟨vs32,at32,d32⟩:=h1.at he_31 1 rfl
  obtain ⟨s33,rfl,h33⟩ : ∃ s33 : Sl,vs32 = [s33.v]∧Rd m s33 e_31:=d32
  refine e_p (v:=(elP s1 (p_i.toNat * 1))) 5 hF rfl (ex_indexAddr Try.underlying23 sz28 rfl rfl ((((((((((h1.mono hm4.le).mono hm16.le).mono hm17.le).mono hm18.le).mono hm19.le).mono hm21.le).mono hm26.le).mono hm27.le).mono hm29.le).idx he_31)) rfl rfl (by kernel_rfl) (by kernel_rfl) (by kernel_rfl) fun a hF=>e_xm (v:=s33.v) 6 hF hS (Mem.le.refl _) rfl (ex_loadE1 0 Try.underlying28 rfl rfl (((((((((((at32.mono hm4.le).mono hm16.le).mono hm17.le).mono hm18.le).mono hm19.le).mono hm21.le).mono hm26.le).mono hm27.le).mono hm29.le)).at) rfl rfl) rfl rfl (by kernel_rfl) (by kernel_rfl) (by kernel_rfl) fun a hF=>e_p (v:=(iV p_j)) 7 hF rfl (ex_move rfl) rfl rfl (by kernel_rfl) (by kernel_rfl) (by kernel_rfl) fun a hF=>?_
  obtain ⟨e_34,he_34,hr⟩:=bindS hr
  obtain ⟨vs35,at35,d35⟩:=h33.at he_34 1 rfl
  obtain rfl : vs35 = [(iV e_34)]:=d35
  refine e_p (v:=(elP s33 (p_j.toNat * 1))) 8 hF rfl (ex_indexAddr Try.underlying28 sz3 rfl rfl ((((((((((h33.mono hm4.le).mono hm16.le).mono hm17.le).mono hm18.le).mono hm19.le).mono hm21.le).mono hm26.le).mono hm27.le).mono hm29.le).idx he_34)) rfl rfl (by kernel_rfl) (by kernel_rfl) (by kernel_rfl) fun a hF=>e_xm (v:=(iV e_34)) 9 hF hS (Mem.le.refl _) rfl (ex_loadE1 0 Try.underlying3 rfl rfl (((((((((((at35.mono hm4.le).mono hm16.le).mono hm17.le).mono hm18.le).mono hm19.le).mono hm21.le).mono hm26.le).mono hm27.le).mono hm29.le)).at) rfl rfl) rfl rfl (by kernel_rfl) (by kernel_rfl) (by kernel_rfl) fun a hF=>e_p (v:=(iV p_up)) 10 hF rfl (ex_move rfl) rfl rfl (by kernel_rfl) (by kernel_rfl) (by kernel_rfl) fun a hF=>e_p (v:=(iV (w64 (e_34 + p_up)))) 11 hF rfl (ex_ibin rfl rfl rfl) rfl rfl (by kernel_rfl) (by kernel_rfl) (by kernel_rfl) fun a hF=>e_one 12 (by kernel_rfl) ?_
  obtain ⟨t_36,ht_36,hr⟩:=bindS hr
  refine e_call (vs:=[(.agg #[s5.v,s6.v,s7.v,s8.v]),(iV p_i),(iV p_j),(iV (w64 (e_34 + p_up))),(iV 100000)]) hF hS rfl Try.func121 (by kernel_rfl) rfl rfl rfl (c_spec_tWith t_3 p_i p_j (w64 (e_34 + p_up)) 100000 t_36 ht_36 _ m29 hS.vis s5 (((((((h16.mono hm17.le).mono hm18.le).mono hm19.le).mono hm21.le).mono hm26.le).mono hm27.le).mono hm29.le) s6 ((((((h17.mono hm18.le).mono hm19.le).mono hm21.le).mono hm26.le).mono hm27.le).mono hm29.le) s7 (((((h18.mono hm19.le).mono hm21.le).mono hm26.le).mono hm27.le).mono hm29.le) s8 ((((h19.mono hm21.le).mono hm26.le).mono hm27.le).mono hm29.le)) ?_
  have hT:=hS
  rintro a w _ ⟨m37,q40,q41,s38,s39,s40,s41,rfl,hm37,hR37,h38,h39,h40,h41⟩ hF hS2
  have hS : St _ _ _ _ [q40,q41,q30,[⟨b9,[s5.v,s6.v,s7.v,s8.v],50⟩]]:=hS.join hR37 hm37
  have hm37:=MLe.weakX (O0:=[]) hT hm37
  refine e_one 13 (by kernel_rfl) ?_
  obtain ⟨m42,hm42,hS,hz42⟩:=hS.freeze
  have h42:=h40.froz hm42.le hz42
  obtain ⟨m43,hm43,hS,hz43⟩:=hS.freeze
  have h43:=(h41.mono hm42.le).froz hm43.le hz43
  obtain ⟨t_44,ht_44,hr⟩:=bindS hr
  refine e_call (vs:=[(.agg #[s38.v,s39.v,s40.v,s41.v])]) hF hS rfl Try.func158 (by kernel_rfl) rfl rfl rfl (c_spec_tFeasible t_36 t_44 ht_44 _ m43 hS.vis s38 ((h38.mono hm42.le).mono hm43.le) s39 ((h39.mono hm42.le).mono hm43.le) s40 (h42.mono hm43.le) s41 h43) ?_
  have hT:=hS
  rintro a w _ ⟨m45,q46,s46,rfl,hm45,hR45,h46⟩ hF hS2
  have hS : St _ _ _ _ [q46,q30,[⟨b9,[s5.v,s6.v,s7.v,s8.v],50⟩]]:=hS.join hR45 hm45
  have hm45:=MLe.weakX (O0:=[]) hT hm45
  refine e_p (v:=(.tuple #[s46.v,(.bool t_44.2)])) 14 hF rfl (ex_move rfl) rfl rfl (by kernel_rfl) (by kernel_rfl) (by kernel_rfl) fun a hF=>e_p (v:=s46.v) 15 hF rfl (ex_extract rfl rfl) rfl rfl (by kernel_rfl) (by kernel_rfl) (by kernel_rfl) fun a hF=>e_p (v:=(.bool t_44.2)) 16 hF rfl (ex_extract rfl rfl) rfl rfl (by kernel_rfl) (by kernel_rfl) (by kernel_rfl) fun a hF=>e_p (v:=s46.v) 17 hF rfl (ex_assign rfl) rfl rfl (by kernel_rfl) (by kernel_rfl) (by kernel_rfl) fun a hF=>e_p (v:=(.bool t_44.2)) 18 hF rfl (ex_assign rfl) rfl rfl (by kernel_rfl) (by kernel_rfl) (by kernel_rfl) fun a hF=>e_end (by kernel_rfl) (n_sq ?_) _
  refine q_seq (q_region (q_x (v:=(.bool t_44.2)) hF hS (ex_move rfl) rfl rfl fun a hF=>q_x (v:=(.bool t_44.2)) hF hS (ex_assign rfl) rfl rfl fun a hF=>q_end (n_sq (q_ret ?_))))
  obtain rfl:=someI hr
  exact ret_of hF hS rfl (.tmp rfl .nil) rfl
 ·have hr:=cond_t hc1 hr
  refine q_cond_t hF rfl hc1 (q_seq (q_region (q_x (v:=(.bool false)) hF hS (ex_assign rfl) rfl rfl fun a hF=>q_end (n_sq (q_ret (r_sq ?_))))))
  obtain rfl:=someI hr
  exact ret_of hF hS rfl (.tmp rfl .nil) rfl

end Go.Proofs.Ytpjcfmpfiadkgaa
