/- The walks of the functions: each returns what its plain function says. -/
import Derived.Test.YtpjcfmpfiadkgaaSWalks1
namespace Go.Proofs.Ytpjcfmpfiadkgaa
open Go.Gx Go.Gx.F Go.RowKit
set_option linter.all false
set_option maxRecDepth 10000


theorem c_slices_partitionEqualOrdered_int (p_data : List Int) (p_a : Int) (p_b : Int) (p_pivot : Int) (r : Int × (List Int)) (hr : slices_partitionEqualOrdered_int p_data p_a p_b p_pivot = some r) (w0 : World) (m : Mem) (s1 : Sl) (q1 : Piece) (h1 : OwnL m 3 q1 s1 p_data) (X : List Nat) (hS : St X w0 w0 m [q1]) :
  RetX Try.prog 194 [s1.v,(iV p_a),(iV p_b),(iV p_pivot)] w0 (fun v w=>∃ (qp0 : Piece),v = (iV r.1)∧St X w0 w m [qp0]∧OwnL m 3 qp0 s1 r.2):=by
 unfold slices_partitionEqualOrdered_int at hr
 refine ret_startX Try.func194 rfl 84 rfl rfl fun a hF=>q_seq (q_region (q_x (v:=(iV 0)) hF hS (ex_assign rfl) rfl rfl fun a hF=>q_end (n_sq (q_seq (e_region ⟨[13,15],[]⟩ mixed fun w' hw'=>?_)))))
 have hS:=hS.below hw'
 refine e_p (v:=s1.v) 0 hF rfl (ex_move rfl) rfl rfl (by kernel_rfl) (by kernel_rfl) (by kernel_rfl) fun a hF=>e_p (v:=(iV p_a)) 1 hF rfl (ex_move rfl) rfl rfl (by kernel_rfl) (by kernel_rfl) (by kernel_rfl) fun a hF=>e_p (v:=s1.v) 2 hF rfl (ex_move rfl) rfl rfl (by kernel_rfl) (by kernel_rfl) (by kernel_rfl) fun a hF=>e_p (v:=(iV p_pivot)) 3 hF rfl (ex_move rfl) rfl rfl (by kernel_rfl) (by kernel_rfl) (by kernel_rfl) fun a hF=>e_p (v:=s1.v) 4 hF rfl (ex_move rfl) rfl rfl (by kernel_rfl) (by kernel_rfl) (by kernel_rfl) fun a hF=>e_p (v:=(iV p_pivot)) 5 hF rfl (ex_move rfl) rfl rfl (by kernel_rfl) (by kernel_rfl) (by kernel_rfl) fun a hF=>?_
 obtain ⟨e_2,he_2,hr⟩:=bindS hr
 obtain ⟨vs3,at3,d3⟩:=h1.at he_2 1 rfl
 obtain rfl : vs3 = [(iV e_2)]:=d3
 refine e_p (v:=(elP s1 (p_pivot.toNat * 1))) 6 hF rfl (ex_indexAddr Try.underlying28 sz3 rfl rfl (h1.idx he_2)) rfl rfl (by kernel_rfl) (by kernel_rfl) (by kernel_rfl) fun a hF=>e_x (v:=(iV e_2)) 7 hF hS rfl (ex_loadE1 0 Try.underlying3 rfl rfl (at3.at 0 rfl) rfl rfl) rfl rfl (by kernel_rfl) (by kernel_rfl) (by kernel_rfl) (by kernel_rfl) fun a hF=>e_p (v:=s1.v) 8 hF rfl (ex_move rfl) rfl rfl (by kernel_rfl) (by kernel_rfl) (by kernel_rfl) fun a hF=>e_p (v:=(iV p_a)) 9 hF rfl (ex_move rfl) rfl rfl (by kernel_rfl) (by kernel_rfl) (by kernel_rfl) fun a hF=>?_
 obtain ⟨e_4,he_4,hr⟩:=bindS hr
 obtain ⟨vs5,at5,d5⟩:=h1.at he_4 1 rfl
 obtain rfl : vs5 = [(iV e_4)]:=d5
 refine e_p (v:=(elP s1 (p_a.toNat * 1))) 10 hF rfl (ex_indexAddr Try.underlying28 sz3 rfl rfl (h1.idx he_4)) rfl rfl (by kernel_rfl) (by kernel_rfl) (by kernel_rfl) fun a hF=>e_x (v:=(iV e_4)) 11 hF hS rfl (ex_loadE1 0 Try.underlying3 rfl rfl (at5.at 0 rfl) rfl rfl) rfl rfl (by kernel_rfl) (by kernel_rfl) (by kernel_rfl) (by kernel_rfl) fun a hF=>?_
 obtain ⟨e_6,he_6,hr⟩:=bindS hr
 obtain ⟨vs7,at7,d7⟩:=h1.at he_6 1 rfl
 obtain rfl : vs7 = [(iV e_6)]:=d7
 refine e_p (v:=(elP s1 (p_a.toNat * 1))) 12 hF rfl (ex_indexAddr Try.underlying28 sz3 rfl rfl (h1.idx he_6)) rfl rfl (by kernel_rfl) (by kernel_rfl) (by kernel_rfl) fun a hF=>e_one 13 (by kernel_rfl) (e_opl rfl rfl rfl fun _ hK=>wp_storeE (e':=e_2) (us:=[(iV e_2)]) (vs:=[(iV e_6)]) 0 hF hS h1 sz3 rfl rfl rfl rfl rfl rfl rfl he_6 at7 rfl rfl rfl fun w q8 hS h8=>hK _ _ (⟨kpN,?_⟩))
 obtain ⟨e_9,he_9,hr⟩:=bindS hr
 obtain ⟨vs10,at10,d10⟩:=h8.at he_9 1 rfl
 obtain rfl : vs10 = [(iV e_9)]:=d10
 refine e_p (v:=(elP s1 (p_pivot.toNat * 1))) 14 hF rfl (ex_indexAddr Try.underlying28 sz3 rfl rfl (h8.idx he_9)) rfl rfl (by kernel_rfl) (by kernel_rfl) (by kernel_rfl) fun a hF=>e_one 15 (by kernel_rfl) (e_opl rfl rfl rfl fun _ hK=>wp_storeE (e':=e_4) (us:=[(iV e_4)]) (vs:=[(iV e_9)]) 0 hF hS h8 sz3 rfl rfl rfl rfl rfl rfl rfl he_9 at10 rfl rfl rfl fun w q11 hS h11=>hK _ _ (⟨kpN,?_⟩))
 refine e_end (by kernel_rfl) (n_sq ?_) _
 refine q_seq (q_region (q_x (v:=(iV p_a)) hF hS (ex_move rfl) rfl rfl fun a hF=>q_x (v:=(iV (w64 (p_a + 1)))) hF hS (ex_ibin rfl rfl rfl) rfl rfl fun a hF=>q_x (v:=(iV p_b)) hF hS (ex_move rfl) rfl rfl fun a hF=>q_x (v:=(iV (w64 (p_b - 1)))) hF hS (ex_ibin rfl rfl rfl) rfl rfl fun a hF=>q_x (v:=(iV (w64 (p_a + 1)))) hF hS (ex_assign rfl) rfl rfl fun a hF=>q_x (v:=(iV (w64 (p_b - 1)))) hF hS (ex_assign rfl) rfl rfl fun a hF=>q_end (n_sq (q_seq (q_block ?_)))))
 obtain ⟨o1,hl1,hr⟩:=bindS hr
 refine q_loop (fun (s : (List Int) × Int × Int) a w=>∃ (q13 : Piece),∃ data_12,∃ i_14,∃ j_15,s = (data_12,i_14,j_15)∧Fr a 84 [(0,s1.v),(1,(iV p_a)),(9,(iV i_14)),(10,(iV j_15))]∧St X w0 w m [q13]∧OwnL m 3 q13 s1 data_12) (fun (o : (List Int) × Int) e a w=>∃ (q43 : Piece),∃ data_42,∃ i_44,o = (data_42,i_44)∧e = .exit 0∧Fr a 84 [(9,(iV i_44))]∧St X w0 w m [q43]∧OwnL m 3 q43 s1 data_42) hl1 ⟨q11,_,_,_,rfl,hF.sub ⟨rfl,rfl,rfl,rfl,trivial⟩,hS,h11⟩ ?_ ?_
 ·clear hF hS
  rintro s a w st ⟨q13,data_12,i_14,j_15,rfl,hF,hS,h13⟩ hb1
  unfold slices_partitionEqualOrdered_int_l1 at hb1
  refine q_block (q_seq (q_block ?_))
  obtain ⟨i_23,hl2,hb1⟩:=bindS hb1
  refine q_loop (fun (i_16 : Int) a w=>Fr a 84 [(0,s1.v),(1,(iV p_a)),(9,(iV i_16)),(10,(iV j_15))]∧St X w0 w m [q13]) (fun (i_23 : Int) e a w=>e = .exit 2∧Fr a 84 [(0,s1.v),(1,(iV p_a)),(9,(iV i_23)),(10,(iV j_15))]∧St X w0 w m [q13]) hl2 ⟨hF.sub ⟨rfl,rfl,rfl,rfl,trivial⟩,hS⟩ ?_ ?_
  ·clear hF hS
   rintro i_16 a w st ⟨hF,hS⟩ hb2
   unfold slices_partitionEqualOrdered_int_l2 at hb2
   refine q_seq (q_seq ?_)
   obtain ⟨t_22,hj3,hb2⟩:=bindS hb2
   refine q_join (fun a w=>Fr a 84 [(0,s1.v),(1,(iV p_a)),(9,(iV i_16)),(10,(iV j_15)),(43,(.bool t_22))]∧St X w0 w m [q13]) ?_ ?_
   ·refine e_region ⟨[],[]⟩ mixed fun w' hw'=>?_
    have hS:=hS.below hw'
    refine e_p (v:=(iV i_16)) 0 hF rfl (ex_move rfl) rfl rfl (by kernel_rfl) (by kernel_rfl) (by kernel_rfl) fun a hF=>e_p (v:=(iV j_15)) 1 hF rfl (ex_move rfl) rfl rfl (by kernel_rfl) (by kernel_rfl) (by kernel_rfl) fun a hF=>e_p (v:=(.bool (decide (i_16 ≤ j_15)))) 2 hF rfl (ex_ibin rfl rfl rfl) rfl rfl (by kernel_rfl) (by kernel_rfl) (by kernel_rfl) fun a hF=>e_p (v:=(.bool (decide (i_16 ≤ j_15)))) 3 hF rfl (ex_move rfl) rfl rfl (by kernel_rfl) (by kernel_rfl) (by kernel_rfl) fun a hF=>?_
    rcases bcase (decide (i_16 ≤ j_15)) with hc4 | hc4
    ·have hj3:=cond_f hc4 hj3
     refine e_skipP 4 hF rfl (wanted_f hF rfl rfl rfl hc4 rfl) rfl (by kernel_rfl) (by kernel_rfl) (by kernel_rfl) fun a hF=>e_skipP 5 hF rfl (wanted_f hF rfl rfl rfl hc4 rfl) rfl (by kernel_rfl) (by kernel_rfl) (by kernel_rfl) fun a hF=>e_skipP 6 hF rfl (wanted_f hF rfl rfl rfl hc4 rfl) rfl (by kernel_rfl) (by kernel_rfl) (by kernel_rfl) fun a hF=>e_skipP 7 hF rfl (wanted_f hF rfl rfl rfl hc4 rfl) rfl (by kernel_rfl) (by kernel_rfl) (by kernel_rfl) fun a hF=>e_skipP 8 hF rfl (wanted_f hF rfl rfl rfl hc4 rfl) rfl (by kernel_rfl) (by kernel_rfl) (by kernel_rfl) fun a hF=>e_skipP 9 hF rfl (wanted_f hF rfl rfl rfl hc4 rfl) rfl (by kernel_rfl) (by kernel_rfl) (by kernel_rfl) fun a hF=>e_skipP 10 hF rfl (wanted_f hF rfl rfl rfl hc4 rfl) rfl (by kernel_rfl) (by kernel_rfl) (by kernel_rfl) fun a hF=>e_skipP 11 hF rfl (wanted_f hF rfl rfl rfl hc4 rfl) rfl (by kernel_rfl) (by kernel_rfl) (by kernel_rfl) fun a hF=>e_skipP 12 hF rfl (wanted_f hF rfl rfl rfl hc4 rfl) rfl (by kernel_rfl) (by kernel_rfl) (by kernel_rfl) fun a hF=>e_skipP 13 hF rfl (wanted_f hF rfl rfl rfl hc4 rfl) rfl (by kernel_rfl) (by kernel_rfl) (by kernel_rfl) fun a hF=>e_p (v:=(.bool false)) 14 hF rfl (ex_pick_f rfl rfl hc4) rfl rfl (by kernel_rfl) (by kernel_rfl) (by kernel_rfl) fun a hF=>e_end (by kernel_rfl) (n_jn ?_) _
     obtain rfl:=someI hj3
     exact ⟨hF.sub ⟨rfl,rfl,rfl,rfl,rfl,trivial⟩,hS⟩
    ·have hj3:=cond_t hc4 hj3
     refine e_pg (v:=s1.v) 4 hF rfl (ex_move rfl) (wanted_t hF rfl rfl rfl hc4) rfl (by kernel_rfl) (by kernel_rfl) (by kernel_rfl) fun a hF=>e_pg (v:=(iV p_a)) 5 hF rfl (ex_move rfl) (wanted_t hF rfl rfl rfl hc4) rfl (by kernel_rfl) (by kernel_rfl) (by kernel_rfl) fun a hF=>?_
     obtain ⟨e_17,he_17,hj3⟩:=bindS hj3
     obtain ⟨vs18,at18,d18⟩:=h13.at he_17 1 rfl
     obtain rfl : vs18 = [(iV e_17)]:=d18
     refine e_pg (v:=(elP s1 (p_a.toNat * 1))) 6 hF rfl (ex_indexAddr Try.underlying28 sz3 rfl rfl (h13.idx he_17)) (wanted_t hF rfl rfl rfl hc4) rfl (by kernel_rfl) (by kernel_rfl) (by kernel_rfl) fun a hF=>e_xg (v:=(iV e_17)) 7 hF hS rfl (ex_loadE1 0 Try.underlying3 rfl rfl (at18.at 0 rfl) rfl rfl) (wanted_t hF rfl rfl rfl hc4) rfl (by kernel_rfl) (by kernel_rfl) (by kernel_rfl) (by kernel_rfl) fun a hF=>e_pg (v:=s1.v) 8 hF rfl (ex_move rfl) (wanted_t hF rfl rfl rfl hc4) rfl (by kernel_rfl) (by kernel_rfl) (by kernel_rfl) fun a hF=>e_pg (v:=(iV i_16)) 9 hF rfl (ex_move rfl) (wanted_t hF rfl rfl rfl hc4) rfl (by kernel_rfl) (by kernel_rfl) (by kernel_rfl) fun a hF=>?_
     obtain ⟨e_19,he_19,hj3⟩:=bindS hj3
     obtain ⟨vs20,at20,d20⟩:=h13.at he_19 1 rfl
     obtain rfl : vs20 = [(iV e_19)]:=d20
     refine e_pg (v:=(elP s1 (i_16.toNat * 1))) 10 hF rfl (ex_indexAddr Try.underlying28 sz3 rfl rfl (h13.idx he_19)) (wanted_t hF rfl rfl rfl hc4) rfl (by kernel_rfl) (by kernel_rfl) (by kernel_rfl) fun a hF=>e_xg (v:=(iV e_19)) 11 hF hS rfl (ex_loadE1 0 Try.underlying3 rfl rfl (at20.at 0 rfl) rfl rfl) (wanted_t hF rfl rfl rfl hc4) rfl (by kernel_rfl) (by kernel_rfl) (by kernel_rfl) (by kernel_rfl) fun a hF=>e_one 12 (by kernel_rfl) ?_
     obtain ⟨t_21,ht_21,hj3⟩:=bindS hj3
     refine e_callg (vs:=[(iV e_17),(iV e_19)]) hF hS rfl (wanted_t hF rfl rfl rfl hc4) Try.func193 (by kernel_rfl) rfl rfl rfl (c_cmp_Less_int e_17 e_19 t_21 ht_21 _ m hS.vis) ?_
     rintro a w _ rfl hF hS
     refine e_pg (v:=(.bool (!t_21))) 13 hF rfl (ex_not rfl) (wanted_t hF rfl rfl rfl hc4) rfl (by kernel_rfl) (by kernel_rfl) (by kernel_rfl) fun a hF=>e_p (v:=(.bool (!t_21))) 14 hF rfl (ex_pick_t rfl rfl hc4) rfl rfl (by kernel_rfl) (by kernel_rfl) (by kernel_rfl) fun a hF=>e_end (by kernel_rfl) (n_jn ?_) _
     obtain rfl:=someI hj3
     exact ⟨hF.sub ⟨rfl,rfl,rfl,rfl,rfl,trivial⟩,hS⟩
   ·rintro a w ⟨hF,hS⟩
    refine n_sq ?_
    rcases bcase (t_22) with hc5 | hc5
    ·have hb2:=cond_f hc5 hb2
     refine q_cond_f hF rfl hc5 (q_exit (x_sq ?_))
     obtain rfl:=someI hb2
     exact ⟨nofun,.inl ⟨rfl,hF.sub ⟨rfl,rfl,rfl,rfl,trivial⟩,hS⟩⟩
    ·have hb2:=cond_t hc5 hb2
     refine q_cond_t hF rfl hc5 (q_skipc (n_sq (q_block (q_region (q_x (v:=(iV i_16)) hF hS (ex_move rfl) rfl rfl fun a hF=>q_x (v:=(iV (w64 (i_16 + 1)))) hF hS (ex_ibin rfl rfl rfl) rfl rfl fun a hF=>q_x (v:=(iV (w64 (i_16 + 1)))) hF hS (ex_assign rfl) rfl rfl fun a hF=>q_end (n_ib ?_))))))
     obtain rfl:=someI hb2
     exact ⟨rfl,hF.sub ⟨rfl,rfl,rfl,rfl,trivial⟩,hS⟩
  ·rintro e a w ⟨rfl,hF,hS⟩
   refine x_ib (n_sq ?_)
   refine q_seq (q_block ?_)
   obtain ⟨j_31,hl6,hb1⟩:=bindS hb1
   refine q_loop (fun (j_24 : Int) a w=>Fr a 84 [(0,s1.v),(1,(iV p_a)),(9,(iV i_23)),(10,(iV j_24))]∧St X w0 w m [q13]) (fun (j_31 : Int) e a w=>e = .exit 4∧Fr a 84 [(0,s1.v),(1,(iV p_a)),(9,(iV i_23)),(10,(iV j_31))]∧St X w0 w m [q13]) hl6 ⟨hF.sub ⟨rfl,rfl,rfl,rfl,trivial⟩,hS⟩ ?_ ?_
   ·clear hF hS
    rintro j_24 a w st ⟨hF,hS⟩ hb6
    unfold slices_partitionEqualOrdered_int_l3 at hb6
    refine q_seq (q_seq ?_)
    obtain ⟨t_30,hj7,hb6⟩:=bindS hb6
    refine q_join (fun a w=>Fr a 84 [(0,s1.v),(1,(iV p_a)),(9,(iV i_23)),(10,(iV j_24)),(59,(.bool t_30))]∧St X w0 w m [q13]) ?_ ?_
    ·refine e_region ⟨[],[]⟩ mixed fun w' hw'=>?_
     have hS:=hS.below hw'
     refine e_p (v:=(iV i_23)) 0 hF rfl (ex_move rfl) rfl rfl (by kernel_rfl) (by kernel_rfl) (by kernel_rfl) fun a hF=>e_p (v:=(iV j_24)) 1 hF rfl (ex_move rfl) rfl rfl (by kernel_rfl) (by kernel_rfl) (by kernel_rfl) fun a hF=>e_p (v:=(.bool (decide (i_23 ≤ j_24)))) 2 hF rfl (ex_ibin rfl rfl rfl) rfl rfl (by kernel_rfl) (by kernel_rfl) (by kernel_rfl) fun a hF=>e_p (v:=(.bool (decide (i_23 ≤ j_24)))) 3 hF rfl (ex_move rfl) rfl rfl (by kernel_rfl) (by kernel_rfl) (by kernel_rfl) fun a hF=>?_
     rcases bcase (decide (i_23 ≤ j_24)) with hc8 | hc8
     ·have hj7:=cond_f hc8 hj7
      refine e_skipP 4 hF rfl (wanted_f hF rfl rfl rfl hc8 rfl) rfl (by kernel_rfl) (by kernel_rfl) (by kernel_rfl) fun a hF=>e_skipP 5 hF rfl (wanted_f hF rfl rfl rfl hc8 rfl) rfl (by kernel_rfl) (by kernel_rfl) (by kernel_rfl) fun a hF=>e_skipP 6 hF rfl (wanted_f hF rfl rfl rfl hc8 rfl) rfl (by kernel_rfl) (by kernel_rfl) (by kernel_rfl) fun a hF=>e_skipP 7 hF rfl (wanted_f hF rfl rfl rfl hc8 rfl) rfl (by kernel_rfl) (by kernel_rfl) (by kernel_rfl) fun a hF=>e_skipP 8 hF rfl (wanted_f hF rfl rfl rfl hc8 rfl) rfl (by kernel_rfl) (by kernel_rfl) (by kernel_rfl) fun a hF=>e_skipP 9 hF rfl (wanted_f hF rfl rfl rfl hc8 rfl) rfl (by kernel_rfl) (by kernel_rfl) (by kernel_rfl) fun a hF=>e_skipP 10 hF rfl (wanted_f hF rfl rfl rfl hc8 rfl) rfl (by kernel_rfl) (by kernel_rfl) (by kernel_rfl) fun a hF=>e_skipP 11 hF rfl (wanted_f hF rfl rfl rfl hc8 rfl) rfl (by kernel_rfl) (by kernel_rfl) (by kernel_rfl) fun a hF=>e_skipP 12 hF rfl (wanted_f hF rfl rfl rfl hc8 rfl) rfl (by kernel_rfl) (by kernel_rfl) (by kernel_rfl) fun a hF=>e_p (v:=(.bool false)) 13 hF rfl (ex_pick_f rfl rfl hc8) rfl rfl (by kernel_rfl) (by kernel_rfl) (by kernel_rfl) fun a hF=>e_end (by kernel_rfl) (n_jn ?_) _
      obtain rfl:=someI hj7
      exact ⟨hF.sub ⟨rfl,rfl,rfl,rfl,rfl,trivial⟩,hS⟩
     ·have hj7:=cond_t hc8 hj7
      refine e_pg (v:=s1.v) 4 hF rfl (ex_move rfl) (wanted_t hF rfl rfl rfl hc8) rfl (by kernel_rfl) (by kernel_rfl) (by kernel_rfl) fun a hF=>e_pg (v:=(iV p_a)) 5 hF rfl (ex_move rfl) (wanted_t hF rfl rfl rfl hc8) rfl (by kernel_rfl) (by kernel_rfl) (by kernel_rfl) fun a hF=>?_
      obtain ⟨e_25,he_25,hj7⟩:=bindS hj7
      obtain ⟨vs26,at26,d26⟩:=h13.at he_25 1 rfl
      obtain rfl : vs26 = [(iV e_25)]:=d26
      refine e_pg (v:=(elP s1 (p_a.toNat * 1))) 6 hF rfl (ex_indexAddr Try.underlying28 sz3 rfl rfl (h13.idx he_25)) (wanted_t hF rfl rfl rfl hc8) rfl (by kernel_rfl) (by kernel_rfl) (by kernel_rfl) fun a hF=>e_xg (v:=(iV e_25)) 7 hF hS rfl (ex_loadE1 0 Try.underlying3 rfl rfl (at26.at 0 rfl) rfl rfl) (wanted_t hF rfl rfl rfl hc8) rfl (by kernel_rfl) (by kernel_rfl) (by kernel_rfl) (by kernel_rfl) fun a hF=>e_pg (v:=s1.v) 8 hF rfl (ex_move rfl) (wanted_t hF rfl rfl rfl hc8) rfl (by kernel_rfl) (by kernel_rfl) (by kernel_rfl) fun a hF=>e_pg (v:=(iV j_24)) 9 hF rfl (ex_move rfl) (wanted_t hF rfl rfl rfl hc8) rfl (by kernel_rfl) (by kernel_rfl) (by kernel_rfl) fun a hF=>?_
      obtain ⟨e_27,he_27,hj7⟩:=bindS hj7
      obtain ⟨vs28,at28,d28⟩:=h13.at he_27 1 rfl
      obtain rfl : vs28 = [(iV e_27)]:=d28
      refine e_pg (v:=(elP s1 (j_24.toNat * 1))) 10 hF rfl (ex_indexAddr Try.underlying28 sz3 rfl rfl (h13.idx he_27)) (wanted_t hF rfl rfl rfl hc8) rfl (by kernel_rfl) (by kernel_rfl) (by kernel_rfl) fun a hF=>e_xg (v:=(iV e_27)) 11 hF hS rfl (ex_loadE1 0 Try.underlying3 rfl rfl (at28.at 0 rfl) rfl rfl) (wanted_t hF rfl rfl rfl hc8) rfl (by kernel_rfl) (by kernel_rfl) (by kernel_rfl) (by kernel_rfl) fun a hF=>e_one 12 (by kernel_rfl) ?_
      obtain ⟨t_29,ht_29,hj7⟩:=bindS hj7
      refine e_callg (vs:=[(iV e_25),(iV e_27)]) hF hS rfl (wanted_t hF rfl rfl rfl hc8) Try.func193 (by kernel_rfl) rfl rfl rfl (c_cmp_Less_int e_25 e_27 t_29 ht_29 _ m hS.vis) ?_
      rintro a w _ rfl hF hS
      refine e_p (v:=(.bool t_29)) 13 hF rfl (ex_pick_t rfl rfl hc8) rfl rfl (by kernel_rfl) (by kernel_rfl) (by kernel_rfl) fun a hF=>e_end (by kernel_rfl) (n_jn ?_) _
      obtain rfl:=someI hj7
      exact ⟨hF.sub ⟨rfl,rfl,rfl,rfl,rfl,trivial⟩,hS⟩
    ·rintro a w ⟨hF,hS⟩
     refine n_sq ?_
     rcases bcase (t_30) with hc9 | hc9
     ·have hb6:=cond_f hc9 hb6
      refine q_cond_f hF rfl hc9 (q_exit (x_sq ?_))
      obtain rfl:=someI hb6
      exact ⟨nofun,.inl ⟨rfl,hF.sub ⟨rfl,rfl,rfl,rfl,trivial⟩,hS⟩⟩
     ·have hb6:=cond_t hc9 hb6
      refine q_cond_t hF rfl hc9 (q_skipc (n_sq (q_block (q_region (q_x (v:=(iV j_24)) hF hS (ex_move rfl) rfl rfl fun a hF=>q_x (v:=(iV (w64 (j_24 - 1)))) hF hS (ex_ibin rfl rfl rfl) rfl rfl fun a hF=>q_x (v:=(iV (w64 (j_24 - 1)))) hF hS (ex_assign rfl) rfl rfl fun a hF=>q_end (n_ib ?_))))))
      obtain rfl:=someI hb6
      exact ⟨rfl,hF.sub ⟨rfl,rfl,rfl,rfl,trivial⟩,hS⟩
   ·rintro e a w ⟨rfl,hF,hS⟩
    refine x_ib (n_sq ?_)
    refine q_seq (q_seq (q_region (q_x (v:=(iV i_23)) hF hS (ex_move rfl) rfl rfl fun a hF=>q_x (v:=(iV j_31)) hF hS (ex_move rfl) rfl rfl fun a hF=>q_x (v:=(.bool (decide (j_31 < i_23)))) hF hS (ex_ibin rfl rfl rfl) rfl rfl fun a hF=>q_end (n_sq ?_))))
    rcases bcase (decide (j_31 < i_23)) with hc10 | hc10
    ·have hb1:=cond_f hc10 hb1
     refine q_cond_f hF rfl hc10 (q_skipc (n_sq (q_seq (e_region ⟨[13,15],[]⟩ mixed fun w' hw'=>?_))))
     have hS:=hS.below hw'
     refine e_p (v:=s1.v) 0 hF rfl (ex_move rfl) rfl rfl (by kernel_rfl) (by kernel_rfl) (by kernel_rfl) fun a hF=>e_p (v:=(iV i_23)) 1 hF rfl (ex_move rfl) rfl rfl (by kernel_rfl) (by kernel_rfl) (by kernel_rfl) fun a hF=>e_p (v:=s1.v) 2 hF rfl (ex_move rfl) rfl rfl (by kernel_rfl) (by kernel_rfl) (by kernel_rfl) fun a hF=>e_p (v:=(iV j_31)) 3 hF rfl (ex_move rfl) rfl rfl (by kernel_rfl) (by kernel_rfl) (by kernel_rfl) fun a hF=>e_p (v:=s1.v) 4 hF rfl (ex_move rfl) rfl rfl (by kernel_rfl) (by kernel_rfl) (by kernel_rfl) fun a hF=>e_p (v:=(iV j_31)) 5 hF rfl (ex_move rfl) rfl rfl (by kernel_rfl) (by kernel_rfl) (by kernel_rfl) fun a hF=>?_
     obtain ⟨e_32,he_32,hb1⟩:=bindS hb1
     obtain ⟨vs33,at33,d33⟩:=h13.at he_32 1 rfl
     obtain rfl : vs33 = [(iV e_32)]:=d33
     refine e_p (v:=(elP s1 (j_31.toNat * 1))) 6 hF rfl (ex_indexAddr Try.underlying28 sz3 rfl rfl (h13.idx he_32)) rfl rfl (by kernel_rfl) (by kernel_rfl) (by kernel_rfl) fun a hF=>e_x (v:=(iV e_32)) 7 hF hS rfl (ex_loadE1 0 Try.underlying3 rfl rfl (at33.at 0 rfl) rfl rfl) rfl rfl (by kernel_rfl) (by kernel_rfl) (by kernel_rfl) (by kernel_rfl) fun a hF=>e_p (v:=s1.v) 8 hF rfl (ex_move rfl) rfl rfl (by kernel_rfl) (by kernel_rfl) (by kernel_rfl) fun a hF=>e_p (v:=(iV i_23)) 9 hF rfl (ex_move rfl) rfl rfl (by kernel_rfl) (by kernel_rfl) (by kernel_rfl) fun a hF=>?_
     obtain ⟨e_34,he_34,hb1⟩:=bindS hb1
     obtain ⟨vs35,at35,d35⟩:=h13.at he_34 1 rfl
     obtain rfl : vs35 = [(iV e_34)]:=d35
     refine e_p (v:=(elP s1 (i_23.toNat * 1))) 10 hF rfl (ex_indexAddr Try.underlying28 sz3 rfl rfl (h13.idx he_34)) rfl rfl (by kernel_rfl) (by kernel_rfl) (by kernel_rfl) fun a hF=>e_x (v:=(iV e_34)) 11 hF hS rfl (ex_loadE1 0 Try.underlying3 rfl rfl (at35.at 0 rfl) rfl rfl) rfl rfl (by kernel_rfl) (by kernel_rfl) (by kernel_rfl) (by kernel_rfl) fun a hF=>?_
     obtain ⟨e_36,he_36,hb1⟩:=bindS hb1
     obtain ⟨vs37,at37,d37⟩:=h13.at he_36 1 rfl
     obtain rfl : vs37 = [(iV e_36)]:=d37
     refine e_p (v:=(elP s1 (i_23.toNat * 1))) 12 hF rfl (ex_indexAddr Try.underlying28 sz3 rfl rfl (h13.idx he_36)) rfl rfl (by kernel_rfl) (by kernel_rfl) (by kernel_rfl) fun a hF=>e_one 13 (by kernel_rfl) (e_opl rfl rfl rfl fun _ hK=>wp_storeE (e':=e_32) (us:=[(iV e_32)]) (vs:=[(iV e_36)]) 0 hF hS h13 sz3 rfl rfl rfl rfl rfl rfl rfl he_36 at37 rfl rfl rfl fun w q38 hS h38=>hK _ _ (⟨kpN,?_⟩))
     obtain ⟨e_39,he_39,hb1⟩:=bindS hb1
     obtain ⟨vs40,at40,d40⟩:=h38.at he_39 1 rfl
     obtain rfl : vs40 = [(iV e_39)]:=d40
     refine e_p (v:=(elP s1 (j_31.toNat * 1))) 14 hF rfl (ex_indexAddr Try.underlying28 sz3 rfl rfl (h38.idx he_39)) rfl rfl (by kernel_rfl) (by kernel_rfl) (by kernel_rfl) fun a hF=>e_one 15 (by kernel_rfl) (e_opl rfl rfl rfl fun _ hK=>wp_storeE (e':=e_34) (us:=[(iV e_34)]) (vs:=[(iV e_39)]) 0 hF hS h38 sz3 rfl rfl rfl rfl rfl rfl rfl he_39 at40 rfl rfl rfl fun w q41 hS h41=>hK _ _ (⟨kpN,?_⟩))
     refine e_end (by kernel_rfl) (n_sq ?_) _
     refine q_seq (q_region (q_x (v:=(iV i_23)) hF hS (ex_move rfl) rfl rfl fun a hF=>q_x (v:=(iV (w64 (i_23 + 1)))) hF hS (ex_ibin rfl rfl rfl) rfl rfl fun a hF=>q_x (v:=(iV (w64 (i_23 + 1)))) hF hS (ex_assign rfl) rfl rfl fun a hF=>q_end (n_sq (q_region (q_x (v:=(iV j_31)) hF hS (ex_move rfl) rfl rfl fun a hF=>q_x (v:=(iV (w64 (j_31 - 1)))) hF hS (ex_ibin rfl rfl rfl) rfl rfl fun a hF=>q_x (v:=(iV (w64 (j_31 - 1)))) hF hS (ex_assign rfl) rfl rfl fun a hF=>q_end (n_ib ?_))))))
     obtain rfl:=someI hb1
     exact ⟨rfl,q41,_,_,_,rfl,hF.sub ⟨rfl,rfl,rfl,rfl,trivial⟩,hS,h41⟩
    ·have hb1:=cond_t hc10 hb1
     refine q_cond_t hF rfl hc10 (q_exit (x_sq (x_ibn rfl ?_)))
     obtain rfl:=someI hb1
     exact ⟨nofun,.inl ⟨q13,_,_,rfl,rfl,hF.sub ⟨rfl,trivial⟩,hS,h13⟩⟩
 ·rintro e a w ⟨q43,data_42,i_44,rfl,rfl,hF,hS,h43⟩
  refine x_ib (n_sq ?_)
  refine q_seq (q_region (q_x (v:=(iV i_44)) hF hS (ex_move rfl) rfl rfl fun a hF=>q_x (v:=(iV i_44)) hF hS (ex_assign rfl) rfl rfl fun a hF=>q_end (n_sq (q_ret ?_))))
  obtain rfl:=someI hr
  exact ret_ofX hF hS rfl (.tmp rfl .nil) ⟨q43,rfl,hS.sel [0] (by decide),h43⟩

theorem c_slices_partitionOrdered_int (p_data : List Int) (p_a : Int) (p_b : Int) (p_pivot : Int) (r : Int × Bool × (List Int)) (hr : slices_partitionOrdered_int p_data p_a p_b p_pivot = some r) (w0 : World) (m : Mem) (s1 : Sl) (q1 : Piece) (h1 : OwnL m 3 q1 s1 p_data) (X : List Nat) (hS : St X w0 w0 m [q1]) :
  RetX Try.prog 195 [s1.v,(iV p_a),(iV p_b),(iV p_pivot)] w0 (fun v w=>∃ (qp0 : Piece),v = (.tuple #[(iV r.1),(.bool r.2.1)])∧St X w0 w m [qp0]∧OwnL m 3 qp0 s1 r.2.2):=by
 unfold slices_partitionOrdered_int at hr
 refine ret_startX Try.func195 rfl 168 rfl rfl fun a hF=>q_seq (q_region (q_x (v:=(iV 0)) hF hS (ex_assign rfl) rfl rfl fun a hF=>q_x (v:=(.bool false)) hF hS (ex_assign rfl) rfl rfl fun a hF=>q_end (n_sq (q_seq (e_region ⟨[13,15],[]⟩ mixed fun w' hw'=>?_)))))
 have hS:=hS.below hw'
 refine e_p (v:=s1.v) 0 hF rfl (ex_move rfl) rfl rfl (by kernel_rfl) (by kernel_rfl) (by kernel_rfl) fun a hF=>e_p (v:=(iV p_a)) 1 hF rfl (ex_move rfl) rfl rfl (by kernel_rfl) (by kernel_rfl) (by kernel_rfl) fun a hF=>e_p (v:=s1.v) 2 hF rfl (ex_move rfl) rfl rfl (by kernel_rfl) (by kernel_rfl) (by kernel_rfl) fun a hF=>e_p (v:=(iV p_pivot)) 3 hF rfl (ex_move rfl) rfl rfl (by kernel_rfl) (by kernel_rfl) (by kernel_rfl) fun a hF=>e_p (v:=s1.v) 4 hF rfl (ex_move rfl) rfl rfl (by kernel_rfl) (by kernel_rfl) (by kernel_rfl) fun a hF=>e_p (v:=(iV p_pivot)) 5 hF rfl (ex_move rfl) rfl rfl (by kernel_rfl) (by kernel_rfl) (by kernel_rfl) fun a hF=>?_
 obtain ⟨e_2,he_2,hr⟩:=bindS hr
 obtain ⟨vs3,at3,d3⟩:=h1.at he_2 1 rfl
 obtain rfl : vs3 = [(iV e_2)]:=d3
 refine e_p (v:=(elP s1 (p_pivot.toNat * 1))) 6 hF rfl (ex_indexAddr Try.underlying28 sz3 rfl rfl (h1.idx he_2)) rfl rfl (by kernel_rfl) (by kernel_rfl) (by kernel_rfl) fun a hF=>e_x (v:=(iV e_2)) 7 hF hS rfl (ex_loadE1 0 Try.underlying3 rfl rfl (at3.at 0 rfl) rfl rfl) rfl rfl (by kernel_rfl) (by kernel_rfl) (by kernel_rfl) (by kernel_rfl) fun a hF=>e_p (v:=s1.v) 8 hF rfl (ex_move rfl) rfl rfl (by kernel_rfl) (by kernel_rfl) (by kernel_rfl) fun a hF=>e_p (v:=(iV p_a)) 9 hF rfl (ex_move rfl) rfl rfl (by kernel_rfl) (by kernel_rfl) (by kernel_rfl) fun a hF=>?_
 obtain ⟨e_4,he_4,hr⟩:=bindS hr
 obtain ⟨vs5,at5,d5⟩:=h1.at he_4 1 rfl
 obtain rfl : vs5 = [(iV e_4)]:=d5
 refine e_p (v:=(elP s1 (p_a.toNat * 1))) 10 hF rfl (ex_indexAddr Try.underlying28 sz3 rfl rfl (h1.idx he_4)) rfl rfl (by kernel_rfl) (by kernel_rfl) (by kernel_rfl) fun a hF=>e_x (v:=(iV e_4)) 11 hF hS rfl (ex_loadE1 0 Try.underlying3 rfl rfl (at5.at 0 rfl) rfl rfl) rfl rfl (by kernel_rfl) (by kernel_rfl) (by kernel_rfl) (by kernel_rfl) fun a hF=>?_
 obtain ⟨e_6,he_6,hr⟩:=bindS hr
 obtain ⟨vs7,at7,d7⟩:=h1.at he_6 1 rfl
 obtain rfl : vs7 = [(iV e_6)]:=d7
 refine e_p (v:=(elP s1 (p_a.toNat * 1))) 12 hF rfl (ex_indexAddr Try.underlying28 sz3 rfl rfl (h1.idx he_6)) rfl rfl (by kernel_rfl) (by kernel_rfl) (by kernel_rfl) fun a hF=>e_one 13 (by kernel_rfl) (e_opl rfl rfl rfl fun _ hK=>wp_storeE (e':=e_2) (us:=[(iV e_2)]) (vs:=[(iV e_6)]) 0 hF hS h1 sz3 rfl rfl rfl rfl rfl rfl rfl he_6 at7 rfl rfl rfl fun w q8 hS h8=>hK _ _ (⟨kpN,?_⟩))
 obtain ⟨e_9,he_9,hr⟩:=bindS hr
 obtain ⟨vs10,at10,d10⟩:=h8.at he_9 1 rfl
 obtain rfl : vs10 = [(iV e_9)]:=d10
 refine e_p (v:=(elP s1 (p_pivot.toNat * 1))) 14 hF rfl (ex_indexAddr Try.underlying28 sz3 rfl rfl (h8.idx he_9)) rfl rfl (by kernel_rfl) (by kernel_rfl) (by kernel_rfl) fun a hF=>e_one 15 (by kernel_rfl) (e_opl rfl rfl rfl fun _ hK=>wp_storeE (e':=e_4) (us:=[(iV e_4)]) (vs:=[(iV e_9)]) 0 hF hS h8 sz3 rfl rfl rfl rfl rfl rfl rfl he_9 at10 rfl rfl rfl fun w q11 hS h11=>hK _ _ (⟨kpN,?_⟩))
 refine e_end (by kernel_rfl) (n_sq ?_) _
 refine q_seq (q_region (q_x (v:=(iV p_a)) hF hS (ex_move rfl) rfl rfl fun a hF=>q_x (v:=(iV (w64 (p_a + 1)))) hF hS (ex_ibin rfl rfl rfl) rfl rfl fun a hF=>q_x (v:=(iV p_b)) hF hS (ex_move rfl) rfl rfl fun a hF=>q_x (v:=(iV (w64 (p_b - 1)))) hF hS (ex_ibin rfl rfl rfl) rfl rfl fun a hF=>q_x (v:=(iV (w64 (p_a + 1)))) hF hS (ex_assign rfl) rfl rfl fun a hF=>q_x (v:=(iV (w64 (p_b - 1)))) hF hS (ex_assign rfl) rfl rfl fun a hF=>q_end (n_sq (q_seq (q_block ?_)))))
 obtain ⟨i_19,hl1,hr⟩:=bindS hr
 refine q_loop (fun (i_12 : Int) a w=>Fr a 168 [(0,s1.v),(1,(iV p_a)),(10,(iV i_12)),(11,(iV (w64 (p_b - 1))))]∧St X w0 w m [q11]) (fun (i_19 : Int) e a w=>e = .exit 0∧Fr a 168 [(0,s1.v),(1,(iV p_a)),(10,(iV i_19)),(11,(iV (w64 (p_b - 1))))]∧St X w0 w m [q11]) hl1 ⟨hF.sub ⟨rfl,rfl,rfl,rfl,trivial⟩,hS⟩ ?_ ?_
 ·clear hF hS
  rintro i_12 a w st ⟨hF,hS⟩ hb1
  unfold slices_partitionOrdered_int_l1 at hb1
  refine q_seq (q_seq ?_)
  obtain ⟨t_18,hj2,hb1⟩:=bindS hb1
  refine q_join (fun a w=>Fr a 168 [(0,s1.v),(1,(iV p_a)),(10,(iV i_12)),(11,(iV (w64 (p_b - 1)))),(43,(.bool t_18))]∧St X w0 w m [q11]) ?_ ?_
  ·refine e_region ⟨[],[]⟩ mixed fun w' hw'=>?_
   have hS:=hS.below hw'
   refine e_p (v:=(iV i_12)) 0 hF rfl (ex_move rfl) rfl rfl (by kernel_rfl) (by kernel_rfl) (by kernel_rfl) fun a hF=>e_p (v:=(iV (w64 (p_b - 1)))) 1 hF rfl (ex_move rfl) rfl rfl (by kernel_rfl) (by kernel_rfl) (by kernel_rfl) fun a hF=>e_p (v:=(.bool (decide (i_12 ≤ (w64 (p_b - 1)))))) 2 hF rfl (ex_ibin rfl rfl rfl) rfl rfl (by kernel_rfl) (by kernel_rfl) (by kernel_rfl) fun a hF=>e_p (v:=(.bool (decide (i_12 ≤ (w64 (p_b - 1)))))) 3 hF rfl (ex_move rfl) rfl rfl (by kernel_rfl) (by kernel_rfl) (by kernel_rfl) fun a hF=>?_
   rcases bcase (decide (i_12 ≤ (w64 (p_b - 1)))) with hc3 | hc3
   ·have hj2:=cond_f hc3 hj2
    refine e_skipP 4 hF rfl (wanted_f hF rfl rfl rfl hc3 rfl) rfl (by kernel_rfl) (by kernel_rfl) (by kernel_rfl) fun a hF=>e_skipP 5 hF rfl (wanted_f hF rfl rfl rfl hc3 rfl) rfl (by kernel_rfl) (by kernel_rfl) (by kernel_rfl) fun a hF=>e_skipP 6 hF rfl (wanted_f hF rfl rfl rfl hc3 rfl) rfl (by kernel_rfl) (by kernel_rfl) (by kernel_rfl) fun a hF=>e_skipP 7 hF rfl (wanted_f hF rfl rfl rfl hc3 rfl) rfl (by kernel_rfl) (by kernel_rfl) (by kernel_rfl) fun a hF=>e_skipP 8 hF rfl (wanted_f hF rfl rfl rfl hc3 rfl) rfl (by kernel_rfl) (by kernel_rfl) (by kernel_rfl) fun a hF=>e_skipP 9 hF rfl (wanted_f hF rfl rfl rfl hc3 rfl) rfl (by kernel_rfl) (by kernel_rfl) (by kernel_rfl) fun a hF=>e_skipP 10 hF rfl (wanted_f hF rfl rfl rfl hc3 rfl) rfl (by kernel_rfl) (by kernel_rfl) (by kernel_rfl) fun a hF=>e_skipP 11 hF rfl (wanted_f hF rfl rfl rfl hc3 rfl) rfl (by kernel_rfl) (by kernel_rfl) (by kernel_rfl) fun a hF=>e_skipP 12 hF rfl (wanted_f hF rfl rfl rfl hc3 rfl) rfl (by kernel_rfl) (by kernel_rfl) (by kernel_rfl) fun a hF=>e_p (v:=(.bool false)) 13 hF rfl (ex_pick_f rfl rfl hc3) rfl rfl (by kernel_rfl) (by kernel_rfl) (by kernel_rfl) fun a hF=>e_end (by kernel_rfl) (n_jn ?_) _
    obtain rfl:=someI hj2
    exact ⟨hF.sub ⟨rfl,rfl,rfl,rfl,rfl,trivial⟩,hS⟩
   ·have hj2:=cond_t hc3 hj2
    refine e_pg (v:=s1.v) 4 hF rfl (ex_move rfl) (wanted_t hF rfl rfl rfl hc3) rfl (by kernel_rfl) (by kernel_rfl) (by kernel_rfl) fun a hF=>e_pg (v:=(iV i_12)) 5 hF rfl (ex_move rfl) (wanted_t hF rfl rfl rfl hc3) rfl (by kernel_rfl) (by kernel_rfl) (by kernel_rfl) fun a hF=>?_
    obtain ⟨e_13,he_13,hj2⟩:=bindS hj2
    obtain ⟨vs14,at14,d14⟩:=h11.at he_13 1 rfl
    obtain rfl : vs14 = [(iV e_13)]:=d14
    refine e_pg (v:=(elP s1 (i_12.toNat * 1))) 6 hF rfl (ex_indexAddr Try.underlying28 sz3 rfl rfl (h11.idx he_13)) (wanted_t hF rfl rfl rfl hc3) rfl (by kernel_rfl) (by kernel_rfl) (by kernel_rfl) fun a hF=>e_xg (v:=(iV e_13)) 7 hF hS rfl (ex_loadE1 0 Try.underlying3 rfl rfl (at14.at 0 rfl) rfl rfl) (wanted_t hF rfl rfl rfl hc3) rfl (by kernel_rfl) (by kernel_rfl) (by kernel_rfl) (by kernel_rfl) fun a hF=>e_pg (v:=s1.v) 8 hF rfl (ex_move rfl) (wanted_t hF rfl rfl rfl hc3) rfl (by kernel_rfl) (by kernel_rfl) (by kernel_rfl) fun a hF=>e_pg (v:=(iV p_a)) 9 hF rfl (ex_move rfl) (wanted_t hF rfl rfl rfl hc3) rfl (by kernel_rfl) (by kernel_rfl) (by kernel_rfl) fun a hF=>?_
    obtain ⟨e_15,he_15,hj2⟩:=bindS hj2
    obtain ⟨vs16,at16,d16⟩:=h11.at he_15 1 rfl
    obtain rfl : vs16 = [(iV e_15)]:=d16
    refine e_pg (v:=(elP s1 (p_a.toNat * 1))) 10 hF rfl (ex_indexAddr Try.underlying28 sz3 rfl rfl (h11.idx he_15)) (wanted_t hF rfl rfl rfl hc3) rfl (by kernel_rfl) (by kernel_rfl) (by kernel_rfl) fun a hF=>e_xg (v:=(iV e_15)) 11 hF hS rfl (ex_loadE1 0 Try.underlying3 rfl rfl (at16.at 0 rfl) rfl rfl) (wanted_t hF rfl rfl rfl hc3) rfl (by kernel_rfl) (by kernel_rfl) (by kernel_rfl) (by kernel_rfl) fun a hF=>e_one 12 (by kernel_rfl) ?_
    obtain ⟨t_17,ht_17,hj2⟩:=bindS hj2
    refine e_callg (vs:=[(iV e_13),(iV e_15)]) hF hS rfl (wanted_t hF rfl rfl rfl hc3) Try.func193 (by kernel_rfl) rfl rfl rfl (c_cmp_Less_int e_13 e_15 t_17 ht_17 _ m hS.vis) ?_
    rintro a w _ rfl hF hS
    refine e_p (v:=(.bool t_17)) 13 hF rfl (ex_pick_t rfl rfl hc3) rfl rfl (by kernel_rfl) (by kernel_rfl) (by kernel_rfl) fun a hF=>e_end (by kernel_rfl) (n_jn ?_) _
    obtain rfl:=someI hj2
    exact ⟨hF.sub ⟨rfl,rfl,rfl,rfl,rfl,trivial⟩,hS⟩
  ·rintro a w ⟨hF,hS⟩
   refine n_sq ?_
   rcases bcase (t_18) with hc4 | hc4
   ·have hb1:=cond_f hc4 hb1
    refine q_cond_f hF rfl hc4 (q_exit (x_sq ?_))
    obtain rfl:=someI hb1
    exact ⟨nofun,.inl ⟨rfl,hF.sub ⟨rfl,rfl,rfl,rfl,trivial⟩,hS⟩⟩
   ·have hb1:=cond_t hc4 hb1
    refine q_cond_t hF rfl hc4 (q_skipc (n_sq (q_block (q_region (q_x (v:=(iV i_12)) hF hS (ex_move rfl) rfl rfl fun a hF=>q_x (v:=(iV (w64 (i_12 + 1)))) hF hS (ex_ibin rfl rfl rfl) rfl rfl fun a hF=>q_x (v:=(iV (w64 (i_12 + 1)))) hF hS (ex_assign rfl) rfl rfl fun a hF=>q_end (n_ib ?_))))))
    obtain rfl:=someI hb1
    exact ⟨rfl,hF.sub ⟨rfl,rfl,rfl,rfl,trivial⟩,hS⟩
 ·rintro e a w ⟨rfl,hF,hS⟩
  refine x_ib (n_sq ?_)
  refine q_seq (q_block ?_)
  obtain ⟨j_27,hl5,hr⟩:=bindS hr
  refine q_loop (fun (j_20 : Int) a w=>Fr a 168 [(0,s1.v),(1,(iV p_a)),(10,(iV i_19)),(11,(iV j_20))]∧St X w0 w m [q11]) (fun (j_27 : Int) e a w=>e = .exit 2∧Fr a 168 [(0,s1.v),(1,(iV p_a)),(10,(iV i_19)),(11,(iV j_27))]∧St X w0 w m [q11]) hl5 ⟨hF.sub ⟨rfl,rfl,rfl,rfl,trivial⟩,hS⟩ ?_ ?_
  ·clear hF hS
   rintro j_20 a w st ⟨hF,hS⟩ hb5
   unfold slices_partitionOrdered_int_l2 at hb5
   refine q_seq (q_seq ?_)
   obtain ⟨t_26,hj6,hb5⟩:=bindS hb5
   refine q_join (fun a w=>Fr a 168 [(0,s1.v),(1,(iV p_a)),(10,(iV i_19)),(11,(iV j_20)),(60,(.bool t_26))]∧St X w0 w m [q11]) ?_ ?_
   ·refine e_region ⟨[],[]⟩ mixed fun w' hw'=>?_
    have hS:=hS.below hw'
    refine e_p (v:=(iV i_19)) 0 hF rfl (ex_move rfl) rfl rfl (by kernel_rfl) (by kernel_rfl) (by kernel_rfl) fun a hF=>e_p (v:=(iV j_20)) 1 hF rfl (ex_move rfl) rfl rfl (by kernel_rfl) (by kernel_rfl) (by kernel_rfl) fun a hF=>e_p (v:=(.bool (decide (i_19 ≤ j_20)))) 2 hF rfl (ex_ibin rfl rfl rfl) rfl rfl (by kernel_rfl) (by kernel_rfl) (by kernel_rfl) fun a hF=>e_p (v:=(.bool (decide (i_19 ≤ j_20)))) 3 hF rfl (ex_move rfl) rfl rfl (by kernel_rfl) (by kernel_rfl) (by kernel_rfl) fun a hF=>?_
    rcases bcase (decide (i_19 ≤ j_20)) with hc7 | hc7
    ·have hj6:=cond_f hc7 hj6
     refine e_skipP 4 hF rfl (wanted_f hF rfl rfl rfl hc7 rfl) rfl (by kernel_rfl) (by kernel_rfl) (by kernel_rfl) fun a hF=>e_skipP 5 hF rfl (wanted_f hF rfl rfl rfl hc7 rfl) rfl (by kernel_rfl) (by kernel_rfl) (by kernel_rfl) fun a hF=>e_skipP 6 hF rfl (wanted_f hF rfl rfl rfl hc7 rfl) rfl (by kernel_rfl) (by kernel_rfl) (by kernel_rfl) fun a hF=>e_skipP 7 hF rfl (wanted_f hF rfl rfl rfl hc7 rfl) rfl (by kernel_rfl) (by kernel_rfl) (by kernel_rfl) fun a hF=>e_skipP 8 hF rfl (wanted_f hF rfl rfl rfl hc7 rfl) rfl (by kernel_rfl) (by kernel_rfl) (by kernel_rfl) fun a hF=>e_skipP 9 hF rfl (wanted_f hF rfl rfl rfl hc7 rfl) rfl (by kernel_rfl) (by kernel_rfl) (by kernel_rfl) fun a hF=>e_skipP 10 hF rfl (wanted_f hF rfl rfl rfl hc7 rfl) rfl (by kernel_rfl) (by kernel_rfl) (by kernel_rfl) fun a hF=>e_skipP 11 hF rfl (wanted_f hF rfl rfl rfl hc7 rfl) rfl (by kernel_rfl) (by kernel_rfl) (by kernel_rfl) fun a hF=>e_skipP 12 hF rfl (wanted_f hF rfl rfl rfl hc7 rfl) rfl (by kernel_rfl) (by kernel_rfl) (by kernel_rfl) fun a hF=>e_skipP 13 hF rfl (wanted_f hF rfl rfl rfl hc7 rfl) rfl (by kernel_rfl) (by kernel_rfl) (by kernel_rfl) fun a hF=>e_p (v:=(.bool false)) 14 hF rfl (ex_pick_f rfl rfl hc7) rfl rfl (by kernel_rfl) (by kernel_rfl) (by kernel_rfl) fun a hF=>e_end (by kernel_rfl) (n_jn ?_) _
     obtain rfl:=someI hj6
     exact ⟨hF.sub ⟨rfl,rfl,rfl,rfl,rfl,trivial⟩,hS⟩
    ·have hj6:=cond_t hc7 hj6
     refine e_pg (v:=s1.v) 4 hF rfl (ex_move rfl) (wanted_t hF rfl rfl rfl hc7) rfl (by kernel_rfl) (by kernel_rfl) (by kernel_rfl) fun a hF=>e_pg (v:=(iV j_20)) 5 hF rfl (ex_move rfl) (wanted_t hF rfl rfl rfl hc7) rfl (by kernel_rfl) (by kernel_rfl) (by kernel_rfl) fun a hF=>?_
     obtain ⟨e_21,he_21,hj6⟩:=bindS hj6
     obtain ⟨vs22,at22,d22⟩:=h11.at he_21 1 rfl
     obtain rfl : vs22 = [(iV e_21)]:=d22
     refine e_pg (v:=(elP s1 (j_20.toNat * 1))) 6 hF rfl (ex_indexAddr Try.underlying28 sz3 rfl rfl (h11.idx he_21)) (wanted_t hF rfl rfl rfl hc7) rfl (by kernel_rfl) (by kernel_rfl) (by kernel_rfl) fun a hF=>e_xg (v:=(iV e_21)) 7 hF hS rfl (ex_loadE1 0 Try.underlying3 rfl rfl (at22.at 0 rfl) rfl rfl) (wanted_t hF rfl rfl rfl hc7) rfl (by kernel_rfl) (by kernel_rfl) (by kernel_rfl) (by kernel_rfl) fun a hF=>e_pg (v:=s1.v) 8 hF rfl (ex_move rfl) (wanted_t hF rfl rfl rfl hc7) rfl (by kernel_rfl) (by kernel_rfl) (by kernel_rfl) fun a hF=>e_pg (v:=(iV p_a)) 9 hF rfl (ex_move rfl) (wanted_t hF rfl rfl rfl hc7) rfl (by kernel_rfl) (by kernel_rfl) (by kernel_rfl) fun a hF=>?_
     obtain ⟨e_23,he_23,hj6⟩:=bindS hj6
     obtain ⟨vs24,at24,d24⟩:=h11.at he_23 1 rfl
     obtain rfl : vs24 = [(iV e_23)]:=d24
     refine e_pg (v:=(elP s1 (p_a.toNat * 1))) 10 hF rfl (ex_indexAddr Try.underlying28 sz3 rfl rfl (h11.idx he_23)) (wanted_t hF rfl rfl rfl hc7) rfl (by kernel_rfl) (by kernel_rfl) (by kernel_rfl) fun a hF=>e_xg (v:=(iV e_23)) 11 hF hS rfl (ex_loadE1 0 Try.underlying3 rfl rfl (at24.at 0 rfl) rfl rfl) (wanted_t hF rfl rfl rfl hc7) rfl (by kernel_rfl) (by kernel_rfl) (by kernel_rfl) (by kernel_rfl) fun a hF=>e_one 12 (by kernel_rfl) ?_
     obtain ⟨t_25,ht_25,hj6⟩:=bindS hj6
     refine e_callg (vs:=[(iV e_21),(iV e_23)]) hF hS rfl (wanted_t hF rfl rfl rfl hc7) Try.func193 (by kernel_rfl) rfl rfl rfl (c_cmp_Less_int e_21 e_23 t_25 ht_25 _ m hS.vis) ?_
     rintro a w _ rfl hF hS
     refine e_pg (v:=(.bool (!t_25))) 13 hF rfl (ex_not rfl) (wanted_t hF rfl rfl rfl hc7) rfl (by kernel_rfl) (by kernel_rfl) (by kernel_rfl) fun a hF=>e_p (v:=(.bool (!t_25))) 14 hF rfl (ex_pick_t rfl rfl hc7) rfl rfl (by kernel_rfl) (by kernel_rfl) (by kernel_rfl) fun a hF=>e_end (by kernel_rfl) (n_jn ?_) _
     obtain rfl:=someI hj6
     exact ⟨hF.sub ⟨rfl,rfl,rfl,rfl,rfl,trivial⟩,hS⟩
   ·rintro a w ⟨hF,hS⟩
    refine n_sq ?_
    rcases bcase (t_26) with hc8 | hc8
    ·have hb5:=cond_f hc8 hb5
     refine q_cond_f hF rfl hc8 (q_exit (x_sq ?_))
     obtain rfl:=someI hb5
     exact ⟨nofun,.inl ⟨rfl,hF.sub ⟨rfl,rfl,rfl,rfl,trivial⟩,hS⟩⟩
    ·have hb5:=cond_t hc8 hb5
     refine q_cond_t hF rfl hc8 (q_skipc (n_sq (q_block (q_region (q_x (v:=(iV j_20)) hF hS (ex_move rfl) rfl rfl fun a hF=>q_x (v:=(iV (w64 (j_20 - 1)))) hF hS (ex_ibin rfl rfl rfl) rfl rfl fun a hF=>q_x (v:=(iV (w64 (j_20 - 1)))) hF hS (ex_assign rfl) rfl rfl fun a hF=>q_end (n_ib ?_))))))
     obtain rfl:=someI hb5
     exact ⟨rfl,hF.sub ⟨rfl,rfl,rfl,rfl,trivial⟩,hS⟩
  ·rintro e a w ⟨rfl,hF,hS⟩
   refine x_ib (n_sq ?_)
   refine q_seq (q_seq (q_region (q_x (v:=(iV i_19)) hF hS (ex_move rfl) rfl rfl fun a hF=>q_x (v:=(iV j_27)) hF hS (ex_move rfl) rfl rfl fun a hF=>q_x (v:=(.bool (decide (j_27 < i_19)))) hF hS (ex_ibin rfl rfl rfl) rfl rfl fun a hF=>q_end (n_sq ?_))))
   rcases bcase (decide (j_27 < i_19)) with hc9 | hc9
   ·have hr:=cond_f hc9 hr
    refine q_cond_f hF rfl hc9 (q_skipc (n_sq (q_seq (e_region ⟨[13,15],[]⟩ mixed fun w' hw'=>?_))))
    have hS:=hS.below hw'
    refine e_p (v:=s1.v) 0 hF rfl (ex_move rfl) rfl rfl (by kernel_rfl) (by kernel_rfl) (by kernel_rfl) fun a hF=>e_p (v:=(iV i_19)) 1 hF rfl (ex_move rfl) rfl rfl (by kernel_rfl) (by kernel_rfl) (by kernel_rfl) fun a hF=>e_p (v:=s1.v) 2 hF rfl (ex_move rfl) rfl rfl (by kernel_rfl) (by kernel_rfl) (by kernel_rfl) fun a hF=>e_p (v:=(iV j_27)) 3 hF rfl (ex_move rfl) rfl rfl (by kernel_rfl) (by kernel_rfl) (by kernel_rfl) fun a hF=>e_p (v:=s1.v) 4 hF rfl (ex_move rfl) rfl rfl (by kernel_rfl) (by kernel_rfl) (by kernel_rfl) fun a hF=>e_p (v:=(iV j_27)) 5 hF rfl (ex_move rfl) rfl rfl (by kernel_rfl) (by kernel_rfl) (by kernel_rfl) fun a hF=>?_
    obtain ⟨e_28,he_28,hr⟩:=bindS hr
    obtain ⟨vs29,at29,d29⟩:=h11.at he_28 1 rfl
    obtain rfl : vs29 = [(iV e_28)]:=d29
    refine e_p (v:=(elP s1 (j_27.toNat * 1))) 6 hF rfl (ex_indexAddr Try.underlying28 sz3 rfl rfl (h11.idx he_28)) rfl rfl (by kernel_rfl) (by kernel_rfl) (by kernel_rfl) fun a hF=>e_x (v:=(iV e_28)) 7 hF hS rfl (ex_loadE1 0 Try.underlying3 rfl rfl (at29.at 0 rfl) rfl rfl) rfl rfl (by kernel_rfl) (by kernel_rfl) (by kernel_rfl) (by kernel_rfl) fun a hF=>e_p (v:=s1.v) 8 hF rfl (ex_move rfl) rfl rfl (by kernel_rfl) (by kernel_rfl) (by kernel_rfl) fun a hF=>e_p (v:=(iV i_19)) 9 hF rfl (ex_move rfl) rfl rfl (by kernel_rfl) (by kernel_rfl) (by kernel_rfl) fun a hF=>?_
    obtain ⟨e_30,he_30,hr⟩:=bindS hr
    obtain ⟨vs31,at31,d31⟩:=h11.at he_30 1 rfl
    obtain rfl : vs31 = [(iV e_30)]:=d31
    refine e_p (v:=(elP s1 (i_19.toNat * 1))) 10 hF rfl (ex_indexAddr Try.underlying28 sz3 rfl rfl (h11.idx he_30)) rfl rfl (by kernel_rfl) (by kernel_rfl) (by kernel_rfl) fun a hF=>e_x (v:=(iV e_30)) 11 hF hS rfl (ex_loadE1 0 Try.underlying3 rfl rfl (at31.at 0 rfl) rfl rfl) rfl rfl (by kernel_rfl) (by kernel_rfl) (by kernel_rfl) (by kernel_rfl) fun a hF=>?_
    obtain ⟨e_32,he_32,hr⟩:=bindS hr
    obtain ⟨vs33,at33,d33⟩:=h11.at he_32 1 rfl
    obtain rfl : vs33 = [(iV e_32)]:=d33
    refine e_p (v:=(elP s1 (i_19.toNat * 1))) 12 hF rfl (ex_indexAddr Try.underlying28 sz3 rfl rfl (h11.idx he_32)) rfl rfl (by kernel_rfl) (by kernel_rfl) (by kernel_rfl) fun a hF=>e_one 13 (by kernel_rfl) (e_opl rfl rfl rfl fun _ hK=>wp_storeE (e':=e_28) (us:=[(iV e_28)]) (vs:=[(iV e_32)]) 0 hF hS h11 sz3 rfl rfl rfl rfl rfl rfl rfl he_32 at33 rfl rfl rfl fun w q34 hS h34=>hK _ _ (⟨kpN,?_⟩))
    obtain ⟨e_35,he_35,hr⟩:=bindS hr
    obtain ⟨vs36,at36,d36⟩:=h34.at he_35 1 rfl
    obtain rfl : vs36 = [(iV e_35)]:=d36
    refine e_p (v:=(elP s1 (j_27.toNat * 1))) 14 hF rfl (ex_indexAddr Try.underlying28 sz3 rfl rfl (h34.idx he_35)) rfl rfl (by kernel_rfl) (by kernel_rfl) (by kernel_rfl) fun a hF=>e_one 15 (by kernel_rfl) (e_opl rfl rfl rfl fun _ hK=>wp_storeE (e':=e_30) (us:=[(iV e_30)]) (vs:=[(iV e_35)]) 0 hF hS h34 sz3 rfl rfl rfl rfl rfl rfl rfl he_35 at36 rfl rfl rfl fun w q37 hS h37=>hK _ _ (⟨kpN,?_⟩))
    refine e_end (by kernel_rfl) (n_sq ?_) _
    refine q_seq (q_region (q_x (v:=(iV i_19)) hF hS (ex_move rfl) rfl rfl fun a hF=>q_x (v:=(iV (w64 (i_19 + 1)))) hF hS (ex_ibin rfl rfl rfl) rfl rfl fun a hF=>q_x (v:=(iV (w64 (i_19 + 1)))) hF hS (ex_assign rfl) rfl rfl fun a hF=>q_end (n_sq (q_seq (q_region (q_x (v:=(iV j_27)) hF hS (ex_move rfl) rfl rfl fun a hF=>q_x (v:=(iV (w64 (j_27 - 1)))) hF hS (ex_ibin rfl rfl rfl) rfl rfl fun a hF=>q_x (v:=(iV (w64 (j_27 - 1)))) hF hS (ex_assign rfl) rfl rfl fun a hF=>q_end (n_sq (q_seq (q_block ?_)))))))))
    obtain ⟨o10,hl10,hr⟩:=bindS hr
    refine q_loop (fun (s : (List Int) × Int × Int) a w=>∃ (q39 : Piece),∃ data_38,∃ i_40,∃ j_41,s = (data_38,i_40,j_41)∧Fr a 168 [(0,s1.v),(1,(iV p_a)),(10,(iV i_40)),(11,(iV j_41))]∧St X w0 w m [q39]∧OwnL m 3 q39 s1 data_38) (fun (o : (List Int) × Int) e a w=>∃ (q69 : Piece),∃ data_68,∃ j_70,o = (data_68,j_70)∧e = .exit 4∧Fr a 168 [(0,s1.v),(1,(iV p_a)),(11,(iV j_70))]∧St X w0 w m [q69]∧OwnL m 3 q69 s1 data_68) hl10 ⟨q37,_,_,_,rfl,hF.sub ⟨rfl,rfl,rfl,rfl,trivial⟩,hS,h37⟩ ?_ ?_
    ·clear hF hS
     rintro s a w st ⟨q39,data_38,i_40,j_41,rfl,hF,hS,h39⟩ hb10
     unfold slices_partitionOrdered_int_l3 at hb10
     refine q_block (q_seq (q_block ?_))
     obtain ⟨i_49,hl11,hb10⟩:=bindS hb10
     refine q_loop (fun (i_42 : Int) a w=>Fr a 168 [(0,s1.v),(1,(iV p_a)),(10,(iV i_42)),(11,(iV j_41))]∧St X w0 w m [q39]) (fun (i_49 : Int) e a w=>e = .exit 6∧Fr a 168 [(0,s1.v),(1,(iV p_a)),(10,(iV i_49)),(11,(iV j_41))]∧St X w0 w m [q39]) hl11 ⟨hF.sub ⟨rfl,rfl,rfl,rfl,trivial⟩,hS⟩ ?_ ?_
     ·clear hF hS
      rintro i_42 a w st ⟨hF,hS⟩ hb11
      unfold slices_partitionOrdered_int_l4 at hb11
      refine q_seq (q_seq ?_)
      obtain ⟨t_48,hj12,hb11⟩:=bindS hb11
      refine q_join (fun a w=>Fr a 168 [(0,s1.v),(1,(iV p_a)),(10,(iV i_42)),(11,(iV j_41)),(112,(.bool t_48))]∧St X w0 w m [q39]) ?_ ?_
      ·refine e_region ⟨[],[]⟩ mixed fun w' hw'=>?_
       have hS:=hS.below hw'
       refine e_p (v:=(iV i_42)) 0 hF rfl (ex_move rfl) rfl rfl (by kernel_rfl) (by kernel_rfl) (by kernel_rfl) fun a hF=>e_p (v:=(iV j_41)) 1 hF rfl (ex_move rfl) rfl rfl (by kernel_rfl) (by kernel_rfl) (by kernel_rfl) fun a hF=>e_p (v:=(.bool (decide (i_42 ≤ j_41)))) 2 hF rfl (ex_ibin rfl rfl rfl) rfl rfl (by kernel_rfl) (by kernel_rfl) (by kernel_rfl) fun a hF=>e_p (v:=(.bool (decide (i_42 ≤ j_41)))) 3 hF rfl (ex_move rfl) rfl rfl (by kernel_rfl) (by kernel_rfl) (by kernel_rfl) fun a hF=>?_
       rcases bcase (decide (i_42 ≤ j_41)) with hc13 | hc13
       ·have hj12:=cond_f hc13 hj12
        refine e_skipP 4 hF rfl (wanted_f hF rfl rfl rfl hc13 rfl) rfl (by kernel_rfl) (by kernel_rfl) (by kernel_rfl) fun a hF=>e_skipP 5 hF rfl (wanted_f hF rfl rfl rfl hc13 rfl) rfl (by kernel_rfl) (by kernel_rfl) (by kernel_rfl) fun a hF=>e_skipP 6 hF rfl (wanted_f hF rfl rfl rfl hc13 rfl) rfl (by kernel_rfl) (by kernel_rfl) (by kernel_rfl) fun a hF=>e_skipP 7 hF rfl (wanted_f hF rfl rfl rfl hc13 rfl) rfl (by kernel_rfl) (by kernel_rfl) (by kernel_rfl) fun a hF=>e_skipP 8 hF rfl (wanted_f hF rfl rfl rfl hc13 rfl) rfl (by kernel_rfl) (by kernel_rfl) (by kernel_rfl) fun a hF=>e_skipP 9 hF rfl (wanted_f hF rfl rfl rfl hc13 rfl) rfl (by kernel_rfl) (by kernel_rfl) (by kernel_rfl) fun a hF=>e_skipP 10 hF rfl (wanted_f hF rfl rfl rfl hc13 rfl) rfl (by kernel_rfl) (by kernel_rfl) (by kernel_rfl) fun a hF=>e_skipP 11 hF rfl (wanted_f hF rfl rfl rfl hc13 rfl) rfl (by kernel_rfl) (by kernel_rfl) (by kernel_rfl) fun a hF=>e_skipP 12 hF rfl (wanted_f hF rfl rfl rfl hc13 rfl) rfl (by kernel_rfl) (by kernel_rfl) (by kernel_rfl) fun a hF=>e_p (v:=(.bool false)) 13 hF rfl (ex_pick_f rfl rfl hc13) rfl rfl (by kernel_rfl) (by kernel_rfl) (by kernel_rfl) fun a hF=>e_end (by kernel_rfl) (n_jn ?_) _
        obtain rfl:=someI hj12
        exact ⟨hF.sub ⟨rfl,rfl,rfl,rfl,rfl,trivial⟩,hS⟩
       ·have hj12:=cond_t hc13 hj12
        refine e_pg (v:=s1.v) 4 hF rfl (ex_move rfl) (wanted_t hF rfl rfl rfl hc13) rfl (by kernel_rfl) (by kernel_rfl) (by kernel_rfl) fun a hF=>e_pg (v:=(iV i_42)) 5 hF rfl (ex_move rfl) (wanted_t hF rfl rfl rfl hc13) rfl (by kernel_rfl) (by kernel_rfl) (by kernel_rfl) fun a hF=>?_
        obtain ⟨e_43,he_43,hj12⟩:=bindS hj12
        obtain ⟨vs44,at44,d44⟩:=h39.at he_43 1 rfl
        obtain rfl : vs44 = [(iV e_43)]:=d44
        refine e_pg (v:=(elP s1 (i_42.toNat * 1))) 6 hF rfl (ex_indexAddr Try.underlying28 sz3 rfl rfl (h39.idx he_43)) (wanted_t hF rfl rfl rfl hc13) rfl (by kernel_rfl) (by kernel_rfl) (by kernel_rfl) fun a hF=>e_xg (v:=(iV e_43)) 7 hF hS rfl (ex_loadE1 0 Try.underlying3 rfl rfl (at44.at 0 rfl) rfl rfl) (wanted_t hF rfl rfl rfl hc13) rfl (by kernel_rfl) (by kernel_rfl) (by kernel_rfl) (by kernel_rfl) fun a hF=>e_pg (v:=s1.v) 8 hF rfl (ex_move rfl) (wanted_t hF rfl rfl rfl hc13) rfl (by kernel_rfl) (by kernel_rfl) (by kernel_rfl) fun a hF=>e_pg (v:=(iV p_a)) 9 hF rfl (ex_move rfl) (wanted_t hF rfl rfl rfl hc13) rfl (by kernel_rfl) (by kernel_rfl) (by kernel_rfl) fun a hF=>?_
        obtain ⟨e_45,he_45,hj12⟩:=bindS hj12
        obtain ⟨vs46,at46,d46⟩:=h39.at he_45 1 rfl
        obtain rfl : vs46 = [(iV e_45)]:=d46
        refine e_pg (v:=(elP s1 (p_a.toNat * 1))) 10 hF rfl (ex_indexAddr Try.underlying28 sz3 rfl rfl (h39.idx he_45)) (wanted_t hF rfl rfl rfl hc13) rfl (by kernel_rfl) (by kernel_rfl) (by kernel_rfl) fun a hF=>e_xg (v:=(iV e_45)) 11 hF hS rfl (ex_loadE1 0 Try.underlying3 rfl rfl (at46.at 0 rfl) rfl rfl) (wanted_t hF rfl rfl rfl hc13) rfl (by kernel_rfl) (by kernel_rfl) (by kernel_rfl) (by kernel_rfl) fun a hF=>e_one 12 (by kernel_rfl) ?_
        obtain ⟨t_47,ht_47,hj12⟩:=bindS hj12
        refine e_callg (vs:=[(iV e_43),(iV e_45)]) hF hS rfl (wanted_t hF rfl rfl rfl hc13) Try.func193 (by kernel_rfl) rfl rfl rfl (c_cmp_Less_int e_43 e_45 t_47 ht_47 _ m hS.vis) ?_
        rintro a w _ rfl hF hS
        refine e_p (v:=(.bool t_47)) 13 hF rfl (ex_pick_t rfl rfl hc13) rfl rfl (by kernel_rfl) (by kernel_rfl) (by kernel_rfl) fun a hF=>e_end (by kernel_rfl) (n_jn ?_) _
        obtain rfl:=someI hj12
        exact ⟨hF.sub ⟨rfl,rfl,rfl,rfl,rfl,trivial⟩,hS⟩
      ·rintro a w ⟨hF,hS⟩
       refine n_sq ?_
       rcases bcase (t_48) with hc14 | hc14
       ·have hb11:=cond_f hc14 hb11
        refine q_cond_f hF rfl hc14 (q_exit (x_sq ?_))
        obtain rfl:=someI hb11
        exact ⟨nofun,.inl ⟨rfl,hF.sub ⟨rfl,rfl,rfl,rfl,trivial⟩,hS⟩⟩
       ·have hb11:=cond_t hc14 hb11
        refine q_cond_t hF rfl hc14 (q_skipc (n_sq (q_block (q_region (q_x (v:=(iV i_42)) hF hS (ex_move rfl) rfl rfl fun a hF=>q_x (v:=(iV (w64 (i_42 + 1)))) hF hS (ex_ibin rfl rfl rfl) rfl rfl fun a hF=>q_x (v:=(iV (w64 (i_42 + 1)))) hF hS (ex_assign rfl) rfl rfl fun a hF=>q_end (n_ib ?_))))))
        obtain rfl:=someI hb11
        exact ⟨rfl,hF.sub ⟨rfl,rfl,rfl,rfl,trivial⟩,hS⟩
     ·rintro e a w ⟨rfl,hF,hS⟩
      refine x_ib (n_sq ?_)
      refine q_seq (q_block ?_)
      obtain ⟨j_57,hl15,hb10⟩:=bindS hb10
      refine q_loop (fun (j_50 : Int) a w=>Fr a 168 [(0,s1.v),(1,(iV p_a)),(10,(iV i_49)),(11,(iV j_50))]∧St X w0 w m [q39]) (fun (j_57 : Int) e a w=>e = .exit 8∧Fr a 168 [(0,s1.v),(1,(iV p_a)),(10,(iV i_49)),(11,(iV j_57))]∧St X w0 w m [q39]) hl15 ⟨hF.sub ⟨rfl,rfl,rfl,rfl,trivial⟩,hS⟩ ?_ ?_
      ·clear hF hS
       rintro j_50 a w st ⟨hF,hS⟩ hb15
       unfold slices_partitionOrdered_int_l5 at hb15
       refine q_seq (q_seq ?_)
       obtain ⟨t_56,hj16,hb15⟩:=bindS hb15
       refine q_join (fun a w=>Fr a 168 [(0,s1.v),(1,(iV p_a)),(10,(iV i_49)),(11,(iV j_50)),(129,(.bool t_56))]∧St X w0 w m [q39]) ?_ ?_
       ·refine e_region ⟨[],[]⟩ mixed fun w' hw'=>?_
        have hS:=hS.below hw'
        refine e_p (v:=(iV i_49)) 0 hF rfl (ex_move rfl) rfl rfl (by kernel_rfl) (by kernel_rfl) (by kernel_rfl) fun a hF=>e_p (v:=(iV j_50)) 1 hF rfl (ex_move rfl) rfl rfl (by kernel_rfl) (by kernel_rfl) (by kernel_rfl) fun a hF=>e_p (v:=(.bool (decide (i_49 ≤ j_50)))) 2 hF rfl (ex_ibin rfl rfl rfl) rfl rfl (by kernel_rfl) (by kernel_rfl) (by kernel_rfl) fun a hF=>e_p (v:=(.bool (decide (i_49 ≤ j_50)))) 3 hF rfl (ex_move rfl) rfl rfl (by kernel_rfl) (by kernel_rfl) (by kernel_rfl) fun a hF=>?_
        rcases bcase (decide (i_49 ≤ j_50)) with hc17 | hc17
        ·have hj16:=cond_f hc17 hj16
         refine e_skipP 4 hF rfl (wanted_f hF rfl rfl rfl hc17 rfl) rfl (by kernel_rfl) (by kernel_rfl) (by kernel_rfl) fun a hF=>e_skipP 5 hF rfl (wanted_f hF rfl rfl rfl hc17 rfl) rfl (by kernel_rfl) (by kernel_rfl) (by kernel_rfl) fun a hF=>e_skipP 6 hF rfl (wanted_f hF rfl rfl rfl hc17 rfl) rfl (by kernel_rfl) (by kernel_rfl) (by kernel_rfl) fun a hF=>e_skipP 7 hF rfl (wanted_f hF rfl rfl rfl hc17 rfl) rfl (by kernel_rfl) (by kernel_rfl) (by kernel_rfl) fun a hF=>e_skipP 8 hF rfl (wanted_f hF rfl rfl rfl hc17 rfl) rfl (by kernel_rfl) (by kernel_rfl) (by kernel_rfl) fun a hF=>e_skipP 9 hF rfl (wanted_f hF rfl rfl rfl hc17 rfl) rfl (by kernel_rfl) (by kernel_rfl) (by kernel_rfl) fun a hF=>e_skipP 10 hF rfl (wanted_f hF rfl rfl rfl hc17 rfl) rfl (by kernel_rfl) (by kernel_rfl) (by kernel_rfl) fun a hF=>e_skipP 11 hF rfl (wanted_f hF rfl rfl rfl hc17 rfl) rfl (by kernel_rfl) (by kernel_rfl) (by kernel_rfl) fun a hF=>e_skipP 12 hF rfl (wanted_f hF rfl rfl rfl hc17 rfl) rfl (by kernel_rfl) (by kernel_rfl) (by kernel_rfl) fun a hF=>e_skipP 13 hF rfl (wanted_f hF rfl rfl rfl hc17 rfl) rfl (by kernel_rfl) (by kernel_rfl) (by kernel_rfl) fun a hF=>e_p (v:=(.bool false)) 14 hF rfl (ex_pick_f rfl rfl hc17) rfl rfl (by kernel_rfl) (by kernel_rfl) (by kernel_rfl) fun a hF=>e_end (by kernel_rfl) (n_jn ?_) _
         obtain rfl:=someI hj16
         exact ⟨hF.sub ⟨rfl,rfl,rfl,rfl,rfl,trivial⟩,hS⟩
        ·have hj16:=cond_t hc17 hj16
         refine e_pg (v:=s1.v) 4 hF rfl (ex_move rfl) (wanted_t hF rfl rfl rfl hc17) rfl (by kernel_rfl) (by kernel_rfl) (by kernel_rfl) fun a hF=>e_pg (v:=(iV j_50)) 5 hF rfl (ex_move rfl) (wanted_t hF rfl rfl rfl hc17) rfl (by kernel_rfl) (by kernel_rfl) (by kernel_rfl) fun a hF=>?_
         obtain ⟨e_51,he_51,hj16⟩:=bindS hj16
         obtain ⟨vs52,at52,d52⟩:=h39.at he_51 1 rfl
         obtain rfl : vs52 = [(iV e_51)]:=d52
         refine e_pg (v:=(elP s1 (j_50.toNat * 1))) 6 hF rfl (ex_indexAddr Try.underlying28 sz3 rfl rfl (h39.idx he_51)) (wanted_t hF rfl rfl rfl hc17) rfl (by kernel_rfl) (by kernel_rfl) (by kernel_rfl) fun a hF=>e_xg (v:=(iV e_51)) 7 hF hS rfl (ex_loadE1 0 Try.underlying3 rfl rfl (at52.at 0 rfl) rfl rfl) (wanted_t hF rfl rfl rfl hc17) rfl (by kernel_rfl) (by kernel_rfl) (by kernel_rfl) (by kernel_rfl) fun a hF=>e_pg (v:=s1.v) 8 hF rfl (ex_move rfl) (wanted_t hF rfl rfl rfl hc17) rfl (by kernel_rfl) (by kernel_rfl) (by kernel_rfl) fun a hF=>e_pg (v:=(iV p_a)) 9 hF rfl (ex_move rfl) (wanted_t hF rfl rfl rfl hc17) rfl (by kernel_rfl) (by kernel_rfl) (by kernel_rfl) fun a hF=>?_
         obtain ⟨e_53,he_53,hj16⟩:=bindS hj16
         obtain ⟨vs54,at54,d54⟩:=h39.at he_53 1 rfl
         obtain rfl : vs54 = [(iV e_53)]:=d54
         refine e_pg (v:=(elP s1 (p_a.toNat * 1))) 10 hF rfl (ex_indexAddr Try.underlying28 sz3 rfl rfl (h39.idx he_53)) (wanted_t hF rfl rfl rfl hc17) rfl (by kernel_rfl) (by kernel_rfl) (by kernel_rfl) fun a hF=>e_xg (v:=(iV e_53)) 11 hF hS rfl (ex_loadE1 0 Try.underlying3 rfl rfl (at54.at 0 rfl) rfl rfl) (wanted_t hF rfl rfl rfl hc17) rfl (by kernel_rfl) (by kernel_rfl) (by kernel_rfl) (by kernel_rfl) fun a hF=>e_one 12 (by kernel_rfl) ?_
         obtain ⟨t_55,ht_55,hj16⟩:=bindS hj16
         refine e_callg (vs:=[(iV e_51),(iV e_53)]) hF hS rfl (wanted_t hF rfl rfl rfl hc17) Try.func193 (by kernel_rfl) rfl rfl rfl (c_cmp_Less_int e_51 e_53 t_55 ht_55 _ m hS.vis) ?_
         rintro a w _ rfl hF hS
         refine e_pg (v:=(.bool (!t_55))) 13 hF rfl (ex_not rfl) (wanted_t hF rfl rfl rfl hc17) rfl (by kernel_rfl) (by kernel_rfl) (by kernel_rfl) fun a hF=>e_p (v:=(.bool (!t_55))) 14 hF rfl (ex_pick_t rfl rfl hc17) rfl rfl (by kernel_rfl) (by kernel_rfl) (by kernel_rfl) fun a hF=>e_end (by kernel_rfl) (n_jn ?_) _
         obtain rfl:=someI hj16
         exact ⟨hF.sub ⟨rfl,rfl,rfl,rfl,rfl,trivial⟩,hS⟩
       ·rintro a w ⟨hF,hS⟩
        refine n_sq ?_
        rcases bcase (t_56) with hc18 | hc18
        ·have hb15:=cond_f hc18 hb15
         refine q_cond_f hF rfl hc18 (q_exit (x_sq ?_))
         obtain rfl:=someI hb15
         exact ⟨nofun,.inl ⟨rfl,hF.sub ⟨rfl,rfl,rfl,rfl,trivial⟩,hS⟩⟩
        ·have hb15:=cond_t hc18 hb15
         refine q_cond_t hF rfl hc18 (q_skipc (n_sq (q_block (q_region (q_x (v:=(iV j_50)) hF hS (ex_move rfl) rfl rfl fun a hF=>q_x (v:=(iV (w64 (j_50 - 1)))) hF hS (ex_ibin rfl rfl rfl) rfl rfl fun a hF=>q_x (v:=(iV (w64 (j_50 - 1)))) hF hS (ex_assign rfl) rfl rfl fun a hF=>q_end (n_ib ?_))))))
         obtain rfl:=someI hb15
         exact ⟨rfl,hF.sub ⟨rfl,rfl,rfl,rfl,trivial⟩,hS⟩
      ·rintro e a w ⟨rfl,hF,hS⟩
       refine x_ib (n_sq ?_)
       refine q_seq (q_seq (q_region (q_x (v:=(iV i_49)) hF hS (ex_move rfl) rfl rfl fun a hF=>q_x (v:=(iV j_57)) hF hS (ex_move rfl) rfl rfl fun a hF=>q_x (v:=(.bool (decide (j_57 < i_49)))) hF hS (ex_ibin rfl rfl rfl) rfl rfl fun a hF=>q_end (n_sq ?_))))
       rcases bcase (decide (j_57 < i_49)) with hc19 | hc19
       ·have hb10:=cond_f hc19 hb10
        refine q_cond_f hF rfl hc19 (q_skipc (n_sq (q_seq (e_region ⟨[13,15],[]⟩ mixed fun w' hw'=>?_))))
        have hS:=hS.below hw'
        refine e_p (v:=s1.v) 0 hF rfl (ex_move rfl) rfl rfl (by kernel_rfl) (by kernel_rfl) (by kernel_rfl) fun a hF=>e_p (v:=(iV i_49)) 1 hF rfl (ex_move rfl) rfl rfl (by kernel_rfl) (by kernel_rfl) (by kernel_rfl) fun a hF=>e_p (v:=s1.v) 2 hF rfl (ex_move rfl) rfl rfl (by kernel_rfl) (by kernel_rfl) (by kernel_rfl) fun a hF=>e_p (v:=(iV j_57)) 3 hF rfl (ex_move rfl) rfl rfl (by kernel_rfl) (by kernel_rfl) (by kernel_rfl) fun a hF=>e_p (v:=s1.v) 4 hF rfl (ex_move rfl) rfl rfl (by kernel_rfl) (by kernel_rfl) (by kernel_rfl) fun a hF=>e_p (v:=(iV j_57)) 5 hF rfl (ex_move rfl) rfl rfl (by kernel_rfl) (by kernel_rfl) (by kernel_rfl) fun a hF=>?_
        obtain ⟨e_58,he_58,hb10⟩:=bindS hb10
        obtain ⟨vs59,at59,d59⟩:=h39.at he_58 1 rfl
        obtain rfl : vs59 = [(iV e_58)]:=d59
        refine e_p (v:=(elP s1 (j_57.toNat * 1))) 6 hF rfl (ex_indexAddr Try.underlying28 sz3 rfl rfl (h39.idx he_58)) rfl rfl (by kernel_rfl) (by kernel_rfl) (by kernel_rfl) fun a hF=>e_x (v:=(iV e_58)) 7 hF hS rfl (ex_loadE1 0 Try.underlying3 rfl rfl (at59.at 0 rfl) rfl rfl) rfl rfl (by kernel_rfl) (by kernel_rfl) (by kernel_rfl) (by kernel_rfl) fun a hF=>e_p (v:=s1.v) 8 hF rfl (ex_move rfl) rfl rfl (by kernel_rfl) (by kernel_rfl) (by kernel_rfl) fun a hF=>e_p (v:=(iV i_49)) 9 hF rfl (ex_move rfl) rfl rfl (by kernel_rfl) (by kernel_rfl) (by kernel_rfl) fun a hF=>?_
        obtain ⟨e_60,he_60,hb10⟩:=bindS hb10
        obtain ⟨vs61,at61,d61⟩:=h39.at he_60 1 rfl
        obtain rfl : vs61 = [(iV e_60)]:=d61
        refine e_p (v:=(elP s1 (i_49.toNat * 1))) 10 hF rfl (ex_indexAddr Try.underlying28 sz3 rfl rfl (h39.idx he_60)) rfl rfl (by kernel_rfl) (by kernel_rfl) (by kernel_rfl) fun a hF=>e_x (v:=(iV e_60)) 11 hF hS rfl (ex_loadE1 0 Try.underlying3 rfl rfl (at61.at 0 rfl) rfl rfl) rfl rfl (by kernel_rfl) (by kernel_rfl) (by kernel_rfl) (by kernel_rfl) fun a hF=>?_
        obtain ⟨e_62,he_62,hb10⟩:=bindS hb10
        obtain ⟨vs63,at63,d63⟩:=h39.at he_62 1 rfl
        obtain rfl : vs63 = [(iV e_62)]:=d63
        refine e_p (v:=(elP s1 (i_49.toNat * 1))) 12 hF rfl (ex_indexAddr Try.underlying28 sz3 rfl rfl (h39.idx he_62)) rfl rfl (by kernel_rfl) (by kernel_rfl) (by kernel_rfl) fun a hF=>e_one 13 (by kernel_rfl) (e_opl rfl rfl rfl fun _ hK=>wp_storeE (e':=e_58) (us:=[(iV e_58)]) (vs:=[(iV e_62)]) 0 hF hS h39 sz3 rfl rfl rfl rfl rfl rfl rfl he_62 at63 rfl rfl rfl fun w q64 hS h64=>hK _ _ (⟨kpN,?_⟩))
        obtain ⟨e_65,he_65,hb10⟩:=bindS hb10
        obtain ⟨vs66,at66,d66⟩:=h64.at he_65 1 rfl
        obtain rfl : vs66 = [(iV e_65)]:=d66
        refine e_p (v:=(elP s1 (j_57.toNat * 1))) 14 hF rfl (ex_indexAddr Try.underlying28 sz3 rfl rfl (h64.idx he_65)) rfl rfl (by kernel_rfl) (by kernel_rfl) (by kernel_rfl) fun a hF=>e_one 15 (by kernel_rfl) (e_opl rfl rfl rfl fun _ hK=>wp_storeE (e':=e_60) (us:=[(iV e_60)]) (vs:=[(iV e_65)]) 0 hF hS h64 sz3 rfl rfl rfl rfl rfl rfl rfl he_65 at66 rfl rfl rfl fun w q67 hS h67=>hK _ _ (⟨kpN,?_⟩))
        refine e_end (by kernel_rfl) (n_sq ?_) _
        refine q_seq (q_region (q_x (v:=(iV i_49)) hF hS (ex_move rfl) rfl rfl fun a hF=>q_x (v:=(iV (w64 (i_49 + 1)))) hF hS (ex_ibin rfl rfl rfl) rfl rfl fun a hF=>q_x (v:=(iV (w64 (i_49 + 1)))) hF hS (ex_assign rfl) rfl rfl fun a hF=>q_end (n_sq (q_region (q_x (v:=(iV j_57)) hF hS (ex_move rfl) rfl rfl fun a hF=>q_x (v:=(iV (w64 (j_57 - 1)))) hF hS (ex_ibin rfl rfl rfl) rfl rfl fun a hF=>q_x (v:=(iV (w64 (j_57 - 1)))) hF hS (ex_assign rfl) rfl rfl fun a hF=>q_end (n_ib ?_))))))
        obtain rfl:=someI hb10
        exact ⟨rfl,q67,_,_,_,rfl,hF.sub ⟨rfl,rfl,rfl,rfl,trivial⟩,hS,h67⟩
       ·have hb10:=cond_t hc19 hb10
        refine q_cond_t hF rfl hc19 (q_exit (x_sq (x_ibn rfl ?_)))
        obtain rfl:=someI hb10
        exact ⟨nofun,.inl ⟨q39,_,_,rfl,rfl,hF.sub ⟨rfl,rfl,rfl,trivial⟩,hS,h39⟩⟩
    ·rintro e a w ⟨q69,data_68,j_70,rfl,rfl,hF,hS,h69⟩
     refine x_ib (n_sq ?_)
     refine q_seq (e_region ⟨[13,15],[]⟩ mixed fun w' hw'=>?_)
     have hS:=hS.below hw'
     refine e_p (v:=s1.v) 0 hF rfl (ex_move rfl) rfl rfl (by kernel_rfl) (by kernel_rfl) (by kernel_rfl) fun a hF=>e_p (v:=(iV j_70)) 1 hF rfl (ex_move rfl) rfl rfl (by kernel_rfl) (by kernel_rfl) (by kernel_rfl) fun a hF=>e_p (v:=s1.v) 2 hF rfl (ex_move rfl) rfl rfl (by kernel_rfl) (by kernel_rfl) (by kernel_rfl) fun a hF=>e_p (v:=(iV p_a)) 3 hF rfl (ex_move rfl) rfl rfl (by kernel_rfl) (by kernel_rfl) (by kernel_rfl) fun a hF=>e_p (v:=s1.v) 4 hF rfl (ex_move rfl) rfl rfl (by kernel_rfl) (by kernel_rfl) (by kernel_rfl) fun a hF=>e_p (v:=(iV p_a)) 5 hF rfl (ex_move rfl) rfl rfl (by kernel_rfl) (by kernel_rfl) (by kernel_rfl) fun a hF=>?_
     obtain ⟨e_71,he_71,hr⟩:=bindS hr
     obtain ⟨vs72,at72,d72⟩:=h69.at he_71 1 rfl
     obtain rfl : vs72 = [(iV e_71)]:=d72
     refine e_p (v:=(elP s1 (p_a.toNat * 1))) 6 hF rfl (ex_indexAddr Try.underlying28 sz3 rfl rfl (h69.idx he_71)) rfl rfl (by kernel_rfl) (by kernel_rfl) (by kernel_rfl) fun a hF=>e_x (v:=(iV e_71)) 7 hF hS rfl (ex_loadE1 0 Try.underlying3 rfl rfl (at72.at 0 rfl) rfl rfl) rfl rfl (by kernel_rfl) (by kernel_rfl) (by kernel_rfl) (by kernel_rfl) fun a hF=>e_p (v:=s1.v) 8 hF rfl (ex_move rfl) rfl rfl (by kernel_rfl) (by kernel_rfl) (by kernel_rfl) fun a hF=>e_p (v:=(iV j_70)) 9 hF rfl (ex_move rfl) rfl rfl (by kernel_rfl) (by kernel_rfl) (by kernel_rfl) fun a hF=>?_
     obtain ⟨e_73,he_73,hr⟩:=bindS hr
     obtain ⟨vs74,at74,d74⟩:=h69.at he_73 1 rfl
     obtain rfl : vs74 = [(iV e_73)]:=d74
     refine e_p (v:=(elP s1 (j_70.toNat * 1))) 10 hF rfl (ex_indexAddr Try.underlying28 sz3 rfl rfl (h69.idx he_73)) rfl rfl (by kernel_rfl) (by kernel_rfl) (by kernel_rfl) fun a hF=>e_x (v:=(iV e_73)) 11 hF hS rfl (ex_loadE1 0 Try.underlying3 rfl rfl (at74.at 0 rfl) rfl rfl) rfl rfl (by kernel_rfl) (by kernel_rfl) (by kernel_rfl) (by kernel_rfl) fun a hF=>?_
     obtain ⟨e_75,he_75,hr⟩:=bindS hr
     obtain ⟨vs76,at76,d76⟩:=h69.at he_75 1 rfl
     obtain rfl : vs76 = [(iV e_75)]:=d76
     refine e_p (v:=(elP s1 (j_70.toNat * 1))) 12 hF rfl (ex_indexAddr Try.underlying28 sz3 rfl rfl (h69.idx he_75)) rfl rfl (by kernel_rfl) (by kernel_rfl) (by kernel_rfl) fun a hF=>e_one 13 (by kernel_rfl) (e_opl rfl rfl rfl fun _ hK=>wp_storeE (e':=e_71) (us:=[(iV e_71)]) (vs:=[(iV e_75)]) 0 hF hS h69 sz3 rfl rfl rfl rfl rfl rfl rfl he_75 at76 rfl rfl rfl fun w q77 hS h77=>hK _ _ (⟨kpN,?_⟩))
     obtain ⟨e_78,he_78,hr⟩:=bindS hr
     obtain ⟨vs79,at79,d79⟩:=h77.at he_78 1 rfl
     obtain rfl : vs79 = [(iV e_78)]:=d79
     refine e_p (v:=(elP s1 (p_a.toNat * 1))) 14 hF rfl (ex_indexAddr Try.underlying28 sz3 rfl rfl (h77.idx he_78)) rfl rfl (by kernel_rfl) (by kernel_rfl) (by kernel_rfl) fun a hF=>e_one 15 (by kernel_rfl) (e_opl rfl rfl rfl fun _ hK=>wp_storeE (e':=e_73) (us:=[(iV e_73)]) (vs:=[(iV e_78)]) 0 hF hS h77 sz3 rfl rfl rfl rfl rfl rfl rfl he_78 at79 rfl rfl rfl fun w q80 hS h80=>hK _ _ (⟨kpN,?_⟩))
     refine e_end (by kernel_rfl) (n_sq ?_) _
     refine q_seq (q_region (q_x (v:=(iV j_70)) hF hS (ex_move rfl) rfl rfl fun a hF=>q_x (v:=(iV j_70)) hF hS (ex_assign rfl) rfl rfl fun a hF=>q_x (v:=(.bool false)) hF hS (ex_assign rfl) rfl rfl fun a hF=>q_end (n_sq (q_ret ?_))))
     obtain rfl:=someI hr
     exact ret_ofX hF hS rfl (.tmp rfl (.tmp rfl .nil)) ⟨q80,rfl,hS.sel [0] (by decide),h80⟩
   ·have hr:=cond_t hc9 hr
    refine q_cond_t hF rfl hc9 (q_seq (e_region ⟨[13,15],[]⟩ mixed fun w' hw'=>?_))
    have hS:=hS.below hw'
    refine e_p (v:=s1.v) 0 hF rfl (ex_move rfl) rfl rfl (by kernel_rfl) (by kernel_rfl) (by kernel_rfl) fun a hF=>e_p (v:=(iV j_27)) 1 hF rfl (ex_move rfl) rfl rfl (by kernel_rfl) (by kernel_rfl) (by kernel_rfl) fun a hF=>e_p (v:=s1.v) 2 hF rfl (ex_move rfl) rfl rfl (by kernel_rfl) (by kernel_rfl) (by kernel_rfl) fun a hF=>e_p (v:=(iV p_a)) 3 hF rfl (ex_move rfl) rfl rfl (by kernel_rfl) (by kernel_rfl) (by kernel_rfl) fun a hF=>e_p (v:=s1.v) 4 hF rfl (ex_move rfl) rfl rfl (by kernel_rfl) (by kernel_rfl) (by kernel_rfl) fun a hF=>e_p (v:=(iV p_a)) 5 hF rfl (ex_move rfl) rfl rfl (by kernel_rfl) (by kernel_rfl) (by kernel_rfl) fun a hF=>?_
    obtain ⟨e_81,he_81,hr⟩:=bindS hr
    obtain ⟨vs82,at82,d82⟩:=h11.at he_81 1 rfl
    obtain rfl : vs82 = [(iV e_81)]:=d82
    refine e_p (v:=(elP s1 (p_a.toNat * 1))) 6 hF rfl (ex_indexAddr Try.underlying28 sz3 rfl rfl (h11.idx he_81)) rfl rfl (by kernel_rfl) (by kernel_rfl) (by kernel_rfl) fun a hF=>e_x (v:=(iV e_81)) 7 hF hS rfl (ex_loadE1 0 Try.underlying3 rfl rfl (at82.at 0 rfl) rfl rfl) rfl rfl (by kernel_rfl) (by kernel_rfl) (by kernel_rfl) (by kernel_rfl) fun a hF=>e_p (v:=s1.v) 8 hF rfl (ex_move rfl) rfl rfl (by kernel_rfl) (by kernel_rfl) (by kernel_rfl) fun a hF=>e_p (v:=(iV j_27)) 9 hF rfl (ex_move rfl) rfl rfl (by kernel_rfl) (by kernel_rfl) (by kernel_rfl) fun a hF=>?_
    obtain ⟨e_83,he_83,hr⟩:=bindS hr
    obtain ⟨vs84,at84,d84⟩:=h11.at he_83 1 rfl
    obtain rfl : vs84 = [(iV e_83)]:=d84
    refine e_p (v:=(elP s1 (j_27.toNat * 1))) 10 hF rfl (ex_indexAddr Try.underlying28 sz3 rfl rfl (h11.idx he_83)) rfl rfl (by kernel_rfl) (by kernel_rfl) (by kernel_rfl) fun a hF=>e_x (v:=(iV e_83)) 11 hF hS rfl (ex_loadE1 0 Try.underlying3 rfl rfl (at84.at 0 rfl) rfl rfl) rfl rfl (by kernel_rfl) (by kernel_rfl) (by kernel_rfl) (by kernel_rfl) fun a hF=>?_
    obtain ⟨e_85,he_85,hr⟩:=bindS hr
    obtain ⟨vs86,at86,d86⟩:=h11.at he_85 1 rfl
    obtain rfl : vs86 = [(iV e_85)]:=d86
    refine e_p (v:=(elP s1 (j_27.toNat * 1))) 12 hF rfl (ex_indexAddr Try.underlying28 sz3 rfl rfl (h11.idx he_85)) rfl rfl (by kernel_rfl) (by kernel_rfl) (by kernel_rfl) fun a hF=>e_one 13 (by kernel_rfl) (e_opl rfl rfl rfl fun _ hK=>wp_storeE (e':=e_81) (us:=[(iV e_81)]) (vs:=[(iV e_85)]) 0 hF hS h11 sz3 rfl rfl rfl rfl rfl rfl rfl he_85 at86 rfl rfl rfl fun w q87 hS h87=>hK _ _ (⟨kpN,?_⟩))
    obtain ⟨e_88,he_88,hr⟩:=bindS hr
    obtain ⟨vs89,at89,d89⟩:=h87.at he_88 1 rfl
    obtain rfl : vs89 = [(iV e_88)]:=d89
    refine e_p (v:=(elP s1 (p_a.toNat * 1))) 14 hF rfl (ex_indexAddr Try.underlying28 sz3 rfl rfl (h87.idx he_88)) rfl rfl (by kernel_rfl) (by kernel_rfl) (by kernel_rfl) fun a hF=>e_one 15 (by kernel_rfl) (e_opl rfl rfl rfl fun _ hK=>wp_storeE (e':=e_83) (us:=[(iV e_83)]) (vs:=[(iV e_88)]) 0 hF hS h87 sz3 rfl rfl rfl rfl rfl rfl rfl he_88 at89 rfl rfl rfl fun w q90 hS h90=>hK _ _ (⟨kpN,?_⟩))
    refine e_end (by kernel_rfl) (n_sq ?_) _
    refine q_seq (q_region (q_x (v:=(iV j_27)) hF hS (ex_move rfl) rfl rfl fun a hF=>q_x (v:=(iV j_27)) hF hS (ex_assign rfl) rfl rfl fun a hF=>q_x (v:=(.bool true)) hF hS (ex_assign rfl) rfl rfl fun a hF=>q_end (n_sq (q_ret (r_sq ?_)))))
    obtain rfl:=someI hr
    exact ret_ofX hF hS rfl (.tmp rfl (.tmp rfl .nil)) ⟨q90,rfl,hS.sel [0] (by decide),h90⟩

theorem c_slices_Reverse_int_int (p_s : List Int) (r : (List Int)) (hr : slices_Reverse_int_int p_s = some r) (w0 : World) (m : Mem) (s1 : Sl) (q1 : Piece) (h1 : OwnL m 3 q1 s1 p_s) (X : List Nat) (hS : St X w0 w0 m [q1]) :
  RetX Try.prog 151 [s1.v] w0 (fun v w=>∃ (qp0 : Piece),v = (.tuple #[])∧St X w0 w m [qp0]∧OwnL m 3 qp0 s1 r):=by
 unfold slices_Reverse_int_int at hr
 refine ret_startX Try.func151 rfl 28 rfl rfl fun a hF=>q_seq (q_region (q_x (v:=s1.v) hF hS (ex_move rfl) rfl rfl fun a hF=>q_x (v:=(iV (goLen p_s))) hF hS (ex_len Try.underlying28 rfl h1.len) rfl rfl fun a hF=>q_x (v:=(iV (w64 ((goLen p_s) - 1)))) hF hS (ex_ibin rfl rfl rfl) rfl rfl fun a hF=>q_x (v:=(iV 0)) hF hS (ex_assign rfl) rfl rfl fun a hF=>q_x (v:=(iV (w64 ((goLen p_s) - 1)))) hF hS (ex_assign rfl) rfl rfl fun a hF=>q_end (n_sq (q_block ?_))))
 obtain ⟨s_16,hl1,hr⟩:=bindS hr
 refine q_loop (fun (s : (List Int) × Int × Int) a w=>∃ (q3 : Piece),∃ s_2,∃ i_4,∃ j_5,s = (s_2,i_4,j_5)∧Fr a 28 [(0,s1.v),(2,(iV i_4)),(3,(iV j_5))]∧St X w0 w m [q3]∧OwnL m 3 q3 s1 s_2) (fun (s_16 : (List Int)) e a w=>∃ (q17 : Piece),e = .exit 0∧Fr a 28 []∧St X w0 w m [q17]∧OwnL m 3 q17 s1 s_16) hl1 ⟨q1,_,_,_,rfl,hF.sub ⟨rfl,rfl,rfl,trivial⟩,hS,h1⟩ ?_ ?_
 ·clear hF hS
  rintro s a w st ⟨q3,s_2,i_4,j_5,rfl,hF,hS,h3⟩ hb1
  unfold slices_Reverse_int_int_l1 at hb1
  refine q_seq (q_seq (q_region (q_x (v:=(iV i_4)) hF hS (ex_move rfl) rfl rfl fun a hF=>q_x (v:=(iV j_5)) hF hS (ex_move rfl) rfl rfl fun a hF=>q_x (v:=(.bool (decide (i_4 < j_5)))) hF hS (ex_ibin rfl rfl rfl) rfl rfl fun a hF=>q_end (n_sq ?_))))
  rcases bcase (decide (i_4 < j_5)) with hc2 | hc2
  ·have hb1:=cond_f hc2 hb1
   refine q_cond_f hF rfl hc2 (q_exit (x_sq ?_))
   obtain rfl:=someI hb1
   exact ⟨nofun,.inl ⟨q3,rfl,hF.sub trivial,hS,h3⟩⟩
  ·have hb1:=cond_t hc2 hb1
   refine q_cond_t hF rfl hc2 (q_skipc (n_sq (q_seq (q_block (e_region ⟨[13,15],[]⟩ mixed fun w' hw'=>?_)))))
   have hS:=hS.below hw'
   refine e_p (v:=s1.v) 0 hF rfl (ex_move rfl) rfl rfl (by kernel_rfl) (by kernel_rfl) (by kernel_rfl) fun a hF=>e_p (v:=(iV i_4)) 1 hF rfl (ex_move rfl) rfl rfl (by kernel_rfl) (by kernel_rfl) (by kernel_rfl) fun a hF=>e_p (v:=s1.v) 2 hF rfl (ex_move rfl) rfl rfl (by kernel_rfl) (by kernel_rfl) (by kernel_rfl) fun a hF=>e_p (v:=(iV j_5)) 3 hF rfl (ex_move rfl) rfl rfl (by kernel_rfl) (by kernel_rfl) (by kernel_rfl) fun a hF=>e_p (v:=s1.v) 4 hF rfl (ex_move rfl) rfl rfl (by kernel_rfl) (by kernel_rfl) (by kernel_rfl) fun a hF=>e_p (v:=(iV j_5)) 5 hF rfl (ex_move rfl) rfl rfl (by kernel_rfl) (by kernel_rfl) (by kernel_rfl) fun a hF=>?_
   obtain ⟨e_6,he_6,hb1⟩:=bindS hb1
   obtain ⟨vs7,at7,d7⟩:=h3.at he_6 1 rfl
   obtain rfl : vs7 = [(iV e_6)]:=d7
   refine e_p (v:=(elP s1 (j_5.toNat * 1))) 6 hF rfl (ex_indexAddr Try.underlying28 sz3 rfl rfl (h3.idx he_6)) rfl rfl (by kernel_rfl) (by kernel_rfl) (by kernel_rfl) fun a hF=>e_x (v:=(iV e_6)) 7 hF hS rfl (ex_loadE1 0 Try.underlying3 rfl rfl (at7.at 0 rfl) rfl rfl) rfl rfl (by kernel_rfl) (by kernel_rfl) (by kernel_rfl) (by kernel_rfl) fun a hF=>e_p (v:=s1.v) 8 hF rfl (ex_move rfl) rfl rfl (by kernel_rfl) (by kernel_rfl) (by kernel_rfl) fun a hF=>e_p (v:=(iV i_4)) 9 hF rfl (ex_move rfl) rfl rfl (by kernel_rfl) (by kernel_rfl) (by kernel_rfl) fun a hF=>?_
   obtain ⟨e_8,he_8,hb1⟩:=bindS hb1
   obtain ⟨vs9,at9,d9⟩:=h3.at he_8 1 rfl
   obtain rfl : vs9 = [(iV e_8)]:=d9
   refine e_p (v:=(elP s1 (i_4.toNat * 1))) 10 hF rfl (ex_indexAddr Try.underlying28 sz3 rfl rfl (h3.idx he_8)) rfl rfl (by kernel_rfl) (by kernel_rfl) (by kernel_rfl) fun a hF=>e_x (v:=(iV e_8)) 11 hF hS rfl (ex_loadE1 0 Try.underlying3 rfl rfl (at9.at 0 rfl) rfl rfl) rfl rfl (by kernel_rfl) (by kernel_rfl) (by kernel_rfl) (by kernel_rfl) fun a hF=>?_
   obtain ⟨e_10,he_10,hb1⟩:=bindS hb1
   obtain ⟨vs11,at11,d11⟩:=h3.at he_10 1 rfl
   obtain rfl : vs11 = [(iV e_10)]:=d11
   refine e_p (v:=(elP s1 (i_4.toNat * 1))) 12 hF rfl (ex_indexAddr Try.underlying28 sz3 rfl rfl (h3.idx he_10)) rfl rfl (by kernel_rfl) (by kernel_rfl) (by kernel_rfl) fun a hF=>e_one 13 (by kernel_rfl) (e_opl rfl rfl rfl fun _ hK=>wp_storeE (e':=e_6) (us:=[(iV e_6)]) (vs:=[(iV e_10)]) 0 hF hS h3 sz3 rfl rfl rfl rfl rfl rfl rfl he_10 at11 rfl rfl rfl fun w q12 hS h12=>hK _ _ (⟨kpN,?_⟩))
   obtain ⟨e_13,he_13,hb1⟩:=bindS hb1
   obtain ⟨vs14,at14,d14⟩:=h12.at he_13 1 rfl
   obtain rfl : vs14 = [(iV e_13)]:=d14
   refine e_p (v:=(elP s1 (j_5.toNat * 1))) 14 hF rfl (ex_indexAddr Try.underlying28 sz3 rfl rfl (h12.idx he_13)) rfl rfl (by kernel_rfl) (by kernel_rfl) (by kernel_rfl) fun a hF=>e_one 15 (by kernel_rfl) (e_opl rfl rfl rfl fun _ hK=>wp_storeE (e':=e_8) (us:=[(iV e_8)]) (vs:=[(iV e_13)]) 0 hF hS h12 sz3 rfl rfl rfl rfl rfl rfl rfl he_13 at14 rfl rfl rfl fun w q15 hS h15=>hK _ _ (⟨kpN,?_⟩))
   refine e_end (by kernel_rfl) (n_ib (n_sq ?_)) _
   refine q_region (q_x (v:=(iV i_4)) hF hS (ex_move rfl) rfl rfl fun a hF=>q_x (v:=(iV (w64 (i_4 + 1)))) hF hS (ex_ibin rfl rfl rfl) rfl rfl fun a hF=>q_x (v:=(iV j_5)) hF hS (ex_move rfl) rfl rfl fun a hF=>q_x (v:=(iV (w64 (j_5 - 1)))) hF hS (ex_ibin rfl rfl rfl) rfl rfl fun a hF=>q_x (v:=(iV (w64 (i_4 + 1)))) hF hS (ex_assign rfl) rfl rfl fun a hF=>q_x (v:=(iV (w64 (j_5 - 1)))) hF hS (ex_assign rfl) rfl rfl fun a hF=>q_end ?_)
   obtain rfl:=someI hb1
   exact ⟨rfl,q15,_,_,_,rfl,hF.sub ⟨rfl,rfl,rfl,trivial⟩,hS,h15⟩
 ·rintro e a w ⟨q17,rfl,hF,hS,h17⟩
  refine x_ib (normal_ret ?_)
  obtain rfl:=someI hr
  exact ret_ofX hF hS rfl .nil ⟨q17,rfl,hS.sel [0] (by decide),h17⟩

theorem c_impl_descending (p_amounts : List Int) (r : (List Int) × Bool) (hr : impl_descending p_amounts = some r) (w0 : World) (m : Mem) (hv : Vis m w0) (s1 : Sl) (h1 : Rd m s1 p_amounts) :
  Ret Try.prog 79 [s1.v] w0 (fun v w=>∃ (q0' : Piece) (s0' : Sl),v = (.tuple #[s0'.v,(.bool r.2)])∧St [] w0 w m [q0']∧OwnL m 3 q0' s0' r.1):=by
 unfold impl_descending at hr
 refine ret_start Try.func79 rfl 30 rfl rfl m hv fun a hF hS=>q_seq (q_region (q_x (v:=nilS.v) hF hS (ex_assign rfl) rfl rfl fun a hF=>q_x (v:=(.bool false)) hF hS (ex_assign rfl) rfl rfl fun a hF=>q_end (n_sq (q_seq (q_seq (q_region (q_x (v:=s1.v) hF hS (ex_move rfl) rfl rfl fun a hF=>q_x (v:=(iV (goLen p_amounts))) hF hS (ex_len Try.underlying28 rfl h1.len) rfl rfl fun a hF=>q_x (v:=(.bool (decide (40 < (goLen p_amounts))))) hF hS (ex_ibin rfl rfl rfl) rfl rfl fun a hF=>q_end (n_sq ?_))))))))
 rcases bcase (decide (40 < (goLen p_amounts))) with hc1 | hc1
 ·have hr:=cond_f hc1 hr
  refine q_cond_f hF rfl hc1 (q_skipc (n_sq (q_seq (q_seq (q_region (q_x (v:=s1.v) hF hS (ex_move rfl) rfl rfl fun a hF=>q_x (v:=(iV (goLen p_amounts))) hF hS (ex_len Try.underlying28 rfl h1.len) rfl rfl fun a hF=>q_x (v:=(iV 0)) hF hS (ex_move rfl) rfl rfl fun a hF=>q_end (n_sq (q_block ?_))))))))
  obtain ⟨o2,hl2,hr⟩:=bindS hr
  refine q_loop (fun (t_2 : Int) a w=>Fr a 30 [(0,s1.v),(10,s1.v),(11,(iV (goLen p_amounts))),(12,(iV t_2))]∧St [] w0 w m []) (fun (o : (Unit) ⊕ ((List Int) × Bool)) e a w=>o = .inl ()∧e = .exit 0∧Fr a 30 [(0,s1.v)]∧St [] w0 w m []) hl2 ⟨hF.sub ⟨rfl,rfl,rfl,rfl,trivial⟩,hS⟩ ?_ ?_
  ·clear hF hS
   rintro t_2 a w st ⟨hF,hS⟩ hb2
   unfold impl_descending_l1 at hb2
   refine q_seq (q_region (q_x (v:=(.bool (decide (t_2 < (goLen p_amounts))))) hF hS (ex_ibin rfl rfl rfl) rfl rfl fun a hF=>q_end (n_sq (q_seq ?_))))
   rcases bcase (decide (t_2 < (goLen p_amounts))) with hc3 | hc3
   ·have hb2:=cond_f hc3 hb2
    refine q_cond_f hF rfl hc3 (q_exit (x_sq ?_))
    obtain rfl:=someI hb2
    exact ⟨nofun,.inl ⟨rfl,rfl,hF.sub ⟨rfl,trivial⟩,hS⟩⟩
   ·have hb2:=cond_t hc3 hb2
    refine q_cond_t hF rfl hc3 (q_skipc (n_sq (q_seq (q_block (q_seq (q_region ?_))))))
    obtain ⟨e_3,he_3,hb2⟩:=bindS hb2
    obtain ⟨vs4,at4,d4⟩:=h1.at he_3 1 rfl
    obtain rfl : vs4 = [(iV e_3)]:=d4
    refine q_x (v:=(elP s1 (t_2.toNat * 1))) hF hS (ex_indexAddr Try.underlying28 sz3 rfl rfl (h1.idx he_3)) rfl rfl fun a hF=>q_x (v:=(iV e_3)) hF hS (ex_loadE1 0 Try.underlying3 rfl rfl ((at4).at) rfl rfl) rfl rfl fun a hF=>q_x (v:=(iV e_3)) hF hS (ex_assign rfl) rfl rfl fun a hF=>q_end (n_sq (q_seq ?_))
    obtain ⟨t_5,hj4,hb2⟩:=bindS hb2
    refine q_join (fun a w=>Fr a 30 [(0,s1.v),(10,s1.v),(11,(iV (goLen p_amounts))),(12,(iV t_2)),(21,(.bool t_5))]∧St [] w0 w m []) ?_ ?_
    ·refine q_region (q_x (v:=(iV e_3)) hF hS (ex_move rfl) rfl rfl fun a hF=>q_x (v:=(.bool (decide (e_3 < 0)))) hF hS (ex_ibin rfl rfl rfl) rfl rfl fun a hF=>q_x (v:=(.bool (decide (e_3 < 0)))) hF hS (ex_move rfl) rfl rfl fun a hF=>?_)
     rcases bcase (decide (e_3 < 0)) with hc5 | hc5
     ·have hj4:=cond_f hc5 hj4
      refine q_xg (v:=(iV e_3)) hF hS (ex_move rfl) (wanted_t hF rfl rfl rfl hc5) rfl fun a hF=>q_xg (v:=(.bool (decide (1000000 < e_3)))) hF hS (ex_ibin rfl rfl rfl) (wanted_t hF rfl rfl rfl hc5) rfl fun a hF=>q_x (v:=(.bool (decide (1000000 < e_3)))) hF hS (ex_pick_f rfl rfl hc5) rfl rfl fun a hF=>q_end (n_jn ?_)
      obtain rfl:=someI hj4
      exact ⟨hF.sub ⟨rfl,rfl,rfl,rfl,rfl,trivial⟩,hS⟩
     ·have hj4:=cond_t hc5 hj4
      refine q_skip hF (wanted_f hF rfl rfl rfl hc5 rfl) rfl fun a hF=>q_skip hF (wanted_f hF rfl rfl rfl hc5 rfl) rfl fun a hF=>q_x (v:=(.bool true)) hF hS (ex_pick_t rfl rfl hc5) rfl rfl fun a hF=>q_end (n_jn ?_)
      obtain rfl:=someI hj4
      exact ⟨hF.sub ⟨rfl,rfl,rfl,rfl,rfl,trivial⟩,hS⟩
    ·rintro a w ⟨hF,hS⟩
     refine n_sq ?_
     rcases bcase (t_5) with hc6 | hc6
     ·have hb2:=cond_f hc6 hb2
      refine q_cond_f hF rfl hc6 (q_skipc (n_ib (n_sq (q_region (q_x (v:=(iV (w64 (t_2 + 1)))) hF hS (ex_ibin rfl rfl rfl) rfl rfl fun a hF=>q_x (v:=(iV (w64 (t_2 + 1)))) hF hS (ex_move rfl) rfl rfl fun a hF=>q_end ?_)))))
      obtain rfl:=someI hb2
      exact ⟨rfl,hF.sub ⟨rfl,rfl,rfl,rfl,trivial⟩,hS⟩
     ·have hb2:=cond_t hc6 hb2
      refine q_cond_t hF rfl hc6 (q_seq (q_region (q_x (v:=nilS.v) hF hS (ex_assign rfl) rfl rfl fun a hF=>q_x (v:=(.bool false)) hF hS (ex_assign rfl) rfl rfl fun a hF=>q_end (n_sq (q_ret (r_ib (r_sq ?_)))))))
      obtain rfl:=someI hb2
      refine ⟨nofun,.inr fun ho=>?_⟩
      subst ho
      refine r_ib (r_sq ?_)
      obtain rfl:=someI hr
      exact ret_of hF hS rfl (.tmp rfl (.tmp rfl .nil)) ⟨[],nilS,rfl,hS.sel [0] (by decide),(OwnL.nil (α:=Int) m 3)⟩
  ·rintro e a w ⟨rfl,rfl,hF,hS⟩
   refine x_ib (n_sq ?_)
   refine q_seq (q_region (q_x (v:=s1.v) hF hS (ex_move rfl) rfl rfl fun a hF=>?_))
   obtain ⟨t_6,ht_6,hr⟩:=bindS hr
   refine q_call (vs:=[s1.v]) hF hS Try.func149 (by kernel_rfl) rfl rfl rfl (c_slices_Clone_int_int p_amounts t_6 ht_6 _ m hS.vis s1 h1) ?_
   rintro a w _ ⟨q8,s8,rfl,hR7,h8⟩ hF hS2
   have hS : St _ _ _ _ [q8]:=hS.joinF hR7
   refine q_x (v:=s8.v) hF hS (ex_assign rfl) rfl rfl fun a hF=>q_end (n_sq (q_seq (q_region (q_x (v:=s8.v) hF hS (ex_move rfl) rfl rfl fun a hF=>?_))))
   have hS9 : St _ _ _ _ ([q8]++[]):=hS
   have hE9:=hS9.enter
   obtain ⟨t_10,ht_10,hr⟩:=bindS hr
   refine q_do rfl fun _ hK=>wp_callX (vs:=[s8.v]) hF Try.func150 (by kernel_rfl) rfl rfl rfl (c_slices_Sort_int_int t_6 t_10 ht_10 _ m s8 q8 h8 _ hE9) fun a w _ hR hF=>hK _ _ ?_
   obtain ⟨q11,rfl,hR9,h11⟩:=hR
   have hS : St _ _ _ _ [q11]:=hS9.leaveF hR9
   refine q_end (n_sq (q_seq (q_region (q_x (v:=s8.v) hF hS (ex_move rfl) rfl rfl fun a hF=>?_))))
   have hS12 : St _ _ _ _ ([q11]++[]):=hS
   have hE12:=hS12.enter
   obtain ⟨t_13,ht_13,hr⟩:=bindS hr
   refine q_do rfl fun _ hK=>wp_callX (vs:=[s8.v]) hF Try.func151 (by kernel_rfl) rfl rfl rfl (c_slices_Reverse_int_int t_10 t_13 ht_13 _ m s8 q11 h11 _ hE12) fun a w _ hR hF=>hK _ _ ?_
   obtain ⟨q14,rfl,hR12,h14⟩:=hR
   have hS : St _ _ _ _ [q14]:=hS12.leaveF hR12
   refine q_end (n_sq (q_seq (q_region (q_x (v:=s8.v) hF hS (ex_move rfl) rfl rfl fun a hF=>q_x (v:=s8.v) hF hS (ex_assign rfl) rfl rfl fun a hF=>q_x (v:=(.bool true)) hF hS (ex_assign rfl) rfl rfl fun a hF=>q_end (n_sq (q_ret ?_))))))
   obtain rfl:=someI hr
   exact ret_of hF hS rfl (.tmp rfl (.tmp rfl .nil)) ⟨q14,s8,rfl,hS.sel [0] (by decide),h14⟩
 ·have hr:=cond_t hc1 hr
  refine q_cond_t hF rfl hc1 (q_seq (q_region (q_x (v:=nilS.v) hF hS (ex_assign rfl) rfl rfl fun a hF=>q_x (v:=(.bool false)) hF hS (ex_assign rfl) rfl rfl fun a hF=>q_end (n_sq (q_ret (r_sq ?_))))))
  obtain rfl:=someI hr
  exact ret_of hF hS rfl (.tmp rfl (.tmp rfl .nil)) ⟨[],nilS,rfl,hS.sel [0] (by decide),(OwnL.nil (α:=Int) m 3)⟩

theorem c_impl_total (p_l : List Int) (r : Int) (hr : impl_total p_l = some r) (w0 : World) (m : Mem) (hv : Vis m w0) (s1 : Sl) (h1 : Rd m s1 p_l) :
  Ret Try.prog 80 [s1.v] w0 (fun v _=>v = (iV r)):=by
 unfold impl_total at hr
 refine ret_start Try.func80 rfl 17 rfl rfl m hv fun a hF hS=>q_seq (q_region (q_x (v:=(iV 0)) hF hS (ex_assign rfl) rfl rfl fun a hF=>q_end (n_sq (q_seq (q_region (q_x (v:=(iV 0)) hF hS (ex_assign rfl) rfl rfl fun a hF=>q_end (n_sq (q_seq (q_seq (q_region (q_x (v:=s1.v) hF hS (ex_move rfl) rfl rfl fun a hF=>q_x (v:=(iV (goLen p_l))) hF hS (ex_len Try.underlying28 rfl h1.len) rfl rfl fun a hF=>q_x (v:=(iV 0)) hF hS (ex_move rfl) rfl rfl fun a hF=>q_end (n_sq (q_block ?_)))))))))))))
 obtain ⟨sum_6,hl1,hr⟩:=bindS hr
 refine q_loop (fun (s : Int × Int) a w=>∃ sum_2,∃ t_3,s = (sum_2,t_3)∧Fr a 17 [(3,(iV sum_2)),(6,s1.v),(7,(iV (goLen p_l))),(8,(iV t_3))]∧St [] w0 w m []) (fun (sum_6 : Int) e a w=>e = .exit 0∧Fr a 17 [(3,(iV sum_6))]∧St [] w0 w m []) hl1 ⟨_,_,rfl,hF.sub ⟨rfl,rfl,rfl,rfl,trivial⟩,hS⟩ ?_ ?_
 ·clear hF hS
  rintro s a w st ⟨sum_2,t_3,rfl,hF,hS⟩ hb1
  unfold impl_total_l1 at hb1
  refine q_seq (q_region (q_x (v:=(.bool (decide (t_3 < (goLen p_l))))) hF hS (ex_ibin rfl rfl rfl) rfl rfl fun a hF=>q_end (n_sq (q_seq ?_))))
  rcases bcase (decide (t_3 < (goLen p_l))) with hc2 | hc2
  ·have hb1:=cond_f hc2 hb1
   refine q_cond_f hF rfl hc2 (q_exit (x_sq ?_))
   obtain rfl:=someI hb1
   exact ⟨nofun,.inl ⟨rfl,hF.sub ⟨rfl,trivial⟩,hS⟩⟩
  ·have hb1:=cond_t hc2 hb1
   refine q_cond_t hF rfl hc2 (q_skipc (n_sq (q_seq (q_block (q_seq (q_region ?_))))))
   obtain ⟨e_4,he_4,hb1⟩:=bindS hb1
   obtain ⟨vs5,at5,d5⟩:=h1.at he_4 1 rfl
   obtain rfl : vs5 = [(iV e_4)]:=d5
   refine q_x (v:=(elP s1 (t_3.toNat * 1))) hF hS (ex_indexAddr Try.underlying28 sz3 rfl rfl (h1.idx he_4)) rfl rfl fun a hF=>q_x (v:=(iV e_4)) hF hS (ex_loadE1 0 Try.underlying3 rfl rfl ((at5).at) rfl rfl) rfl rfl fun a hF=>q_x (v:=(iV e_4)) hF hS (ex_assign rfl) rfl rfl fun a hF=>q_end (n_sq (q_region (q_x (v:=(iV sum_2)) hF hS (ex_move rfl) rfl rfl fun a hF=>q_x (v:=(iV e_4)) hF hS (ex_move rfl) rfl rfl fun a hF=>q_x (v:=(iV (w64 (sum_2 + e_4)))) hF hS (ex_ibin rfl rfl rfl) rfl rfl fun a hF=>q_x (v:=(iV (w64 (sum_2 + e_4)))) hF hS (ex_assign rfl) rfl rfl fun a hF=>q_end (n_ib (n_sq (q_region (q_x (v:=(iV (w64 (t_3 + 1)))) hF hS (ex_ibin rfl rfl rfl) rfl rfl fun a hF=>q_x (v:=(iV (w64 (t_3 + 1)))) hF hS (ex_move rfl) rfl rfl fun a hF=>q_end ?_)))))))
   obtain rfl:=someI hb1
   exact ⟨rfl,_,_,rfl,hF.sub ⟨rfl,rfl,rfl,rfl,trivial⟩,hS⟩
 ·rintro e a w ⟨rfl,hF,hS⟩
  refine x_ib (n_sq ?_)
  refine q_seq (q_region (q_x (v:=(iV sum_6)) hF hS (ex_move rfl) rfl rfl fun a hF=>q_x (v:=(iV sum_6)) hF hS (ex_assign rfl) rfl rfl fun a hF=>q_end (n_sq (q_ret ?_))))
  obtain rfl:=someI hr
  exact ret_of hF hS rfl (.tmp rfl .nil) rfl

theorem c_impl_IsDominated (p_amounts : List Int) (p_n : Int) (p_percent : Int) (r : Bool × Bool) (hr : impl_IsDominated p_amounts p_n p_percent = some r) (w0 : World) (m : Mem) (hv : Vis m w0) (s1 : Sl) (h1 : Rd m s1 p_amounts) :
  Ret Try.prog 12 [s1.v,(iV p_n),(iV p_percent)] w0 (fun v _=>v = (.tuple #[(.bool r.1),(.bool r.2)])):=by
 unfold impl_IsDominated at hr
 refine ret_start Try.func12 rfl 46 rfl rfl m hv fun a hF hS=>q_seq (q_region (q_x (v:=(.bool false)) hF hS (ex_assign rfl) rfl rfl fun a hF=>q_x (v:=(.bool false)) hF hS (ex_assign rfl) rfl rfl fun a hF=>q_end (n_sq (q_seq (q_region (q_x (v:=s1.v) hF hS (ex_move rfl) rfl rfl fun a hF=>?_))))))
 obtain ⟨t_2,ht_2,hr⟩:=bindS hr
 refine q_call (vs:=[s1.v]) hF hS Try.func79 (by kernel_rfl) rfl rfl rfl (c_impl_descending p_amounts t_2 ht_2 _ m hS.vis s1 h1) ?_
 rintro a w _ ⟨q4,s4,rfl,hR3,h4⟩ hF hS2
 have hS : St _ _ _ _ [q4]:=hS.joinF hR3
 refine q_x (v:=(.tuple #[s4.v,(.bool t_2.2)])) hF hS (ex_move rfl) rfl rfl fun a hF=>q_x (v:=s4.v) hF hS (ex_extract rfl rfl) rfl rfl fun a hF=>q_x (v:=(.bool t_2.2)) hF hS (ex_extract rfl rfl) rfl rfl fun a hF=>q_x (v:=s4.v) hF hS (ex_assign rfl) rfl rfl fun a hF=>q_x (v:=(.bool t_2.2)) hF hS (ex_assign rfl) rfl rfl fun a hF=>q_end (n_sq (q_seq (q_seq ?_)))
 obtain ⟨t_5,hj1,hr⟩:=bindS hr
 refine q_join (fun a w=>Fr a 46 [(1,(iV p_n)),(2,(iV p_percent)),(8,s4.v),(32,(.bool t_5))]∧St [] w0 w m [q4]) ?_ ?_
 ·refine q_region (q_x (v:=(.bool t_2.2)) hF hS (ex_move rfl) rfl rfl fun a hF=>q_x (v:=(.bool (!t_2.2))) hF hS (ex_not rfl) rfl rfl fun a hF=>q_x (v:=(.bool (!t_2.2))) hF hS (ex_move rfl) rfl rfl fun a hF=>?_)
  rcases bcase (!t_2.2) with hc2 | hc2
  ·have hj1:=cond_f hc2 hj1
   refine q_xg (v:=(iV p_n)) hF hS (ex_move rfl) (wanted_t hF rfl rfl rfl hc2) rfl fun a hF=>q_xg (v:=(.bool (decide (p_n < 1)))) hF hS (ex_ibin rfl rfl rfl) (wanted_t hF rfl rfl rfl hc2) rfl fun a hF=>q_x (v:=(.bool (decide (p_n < 1)))) hF hS (ex_pick_f rfl rfl hc2) rfl rfl fun a hF=>q_x (v:=(.bool (decide (p_n < 1)))) hF hS (ex_move rfl) rfl rfl fun a hF=>?_
   rcases bcase (decide (p_n < 1)) with hc3 | hc3
   ·have hj1:=cond_f hc3 hj1
    refine q_xg (v:=(iV p_n)) hF hS (ex_move rfl) (wanted_t hF rfl rfl rfl hc3) rfl fun a hF=>q_xg (v:=(.bool (decide (10 < p_n)))) hF hS (ex_ibin rfl rfl rfl) (wanted_t hF rfl rfl rfl hc3) rfl fun a hF=>q_x (v:=(.bool (decide (10 < p_n)))) hF hS (ex_pick_f rfl rfl hc3) rfl rfl fun a hF=>q_x (v:=(.bool (decide (10 < p_n)))) hF hS (ex_move rfl) rfl rfl fun a hF=>?_
    rcases bcase (decide (10 < p_n)) with hc4 | hc4
    ·have hj1:=cond_f hc4 hj1
     refine q_xg (v:=(iV p_percent)) hF hS (ex_move rfl) (wanted_t hF rfl rfl rfl hc4) rfl fun a hF=>q_xg (v:=(.bool (decide (p_percent < 0)))) hF hS (ex_ibin rfl rfl rfl) (wanted_t hF rfl rfl rfl hc4) rfl fun a hF=>q_x (v:=(.bool (decide (p_percent < 0)))) hF hS (ex_pick_f rfl rfl hc4) rfl rfl fun a hF=>q_x (v:=(.bool (decide (p_percent < 0)))) hF hS (ex_move rfl) rfl rfl fun a hF=>?_
     rcases bcase (decide (p_percent < 0)) with hc5 | hc5
     ·have hj1:=cond_f hc5 hj1
      refine q_xg (v:=(iV p_percent)) hF hS (ex_move rfl) (wanted_t hF rfl rfl rfl hc5) rfl fun a hF=>q_xg (v:=(.bool (decide (100 < p_percent)))) hF hS (ex_ibin rfl rfl rfl) (wanted_t hF rfl rfl rfl hc5) rfl fun a hF=>q_x (v:=(.bool (decide (100 < p_percent)))) hF hS (ex_pick_f rfl rfl hc5) rfl rfl fun a hF=>q_end (n_jn ?_)
      obtain rfl:=someI hj1
      exact ⟨hF.sub ⟨rfl,rfl,rfl,rfl,trivial⟩,hS⟩
     ·have hj1:=cond_t hc5 hj1
      refine q_skip hF (wanted_f hF rfl rfl rfl hc5 rfl) rfl fun a hF=>q_skip hF (wanted_f hF rfl rfl rfl hc5 rfl) rfl fun a hF=>q_x (v:=(.bool true)) hF hS (ex_pick_t rfl rfl hc5) rfl rfl fun a hF=>q_end (n_jn ?_)
      obtain rfl:=someI hj1
      exact ⟨hF.sub ⟨rfl,rfl,rfl,rfl,trivial⟩,hS⟩
    ·have hj1:=cond_t hc4 hj1
     refine q_skip hF (wanted_f hF rfl rfl rfl hc4 rfl) rfl fun a hF=>q_skip hF (wanted_f hF rfl rfl rfl hc4 rfl) rfl fun a hF=>q_x (v:=(.bool true)) hF hS (ex_pick_t rfl rfl hc4) rfl rfl fun a hF=>q_x (v:=(.bool true)) hF hS (ex_move rfl) rfl rfl fun a hF=>q_skip hF (wanted_f hF rfl rfl rfl rfl rfl) rfl fun a hF=>q_skip hF (wanted_f hF rfl rfl rfl rfl rfl) rfl fun a hF=>q_x (v:=(.bool true)) hF hS (ex_pick_t rfl rfl rfl) rfl rfl fun a hF=>q_end (n_jn ?_)
     obtain rfl:=someI hj1
     exact ⟨hF.sub ⟨rfl,rfl,rfl,rfl,trivial⟩,hS⟩
   ·have hj1:=cond_t hc3 hj1
    refine q_skip hF (wanted_f hF rfl rfl rfl hc3 rfl) rfl fun a hF=>q_skip hF (wanted_f hF rfl rfl rfl hc3 rfl) rfl fun a hF=>q_x (v:=(.bool true)) hF hS (ex_pick_t rfl rfl hc3) rfl rfl fun a hF=>q_x (v:=(.bool true)) hF hS (ex_move rfl) rfl rfl fun a hF=>q_skip hF (wanted_f hF rfl rfl rfl rfl rfl) rfl fun a hF=>q_skip hF (wanted_f hF rfl rfl rfl rfl rfl) rfl fun a hF=>q_x (v:=(.bool true)) hF hS (ex_pick_t rfl rfl rfl) rfl rfl fun a hF=>q_x (v:=(.bool true)) hF hS (ex_move rfl) rfl rfl fun a hF=>q_skip hF (wanted_f hF rfl rfl rfl rfl rfl) rfl fun a hF=>q_skip hF (wanted_f hF rfl rfl rfl rfl rfl) rfl fun a hF=>q_x (v:=(.bool true)) hF hS (ex_pick_t rfl rfl rfl) rfl rfl fun a hF=>q_end (n_jn ?_)
    obtain rfl:=someI hj1
    exact ⟨hF.sub ⟨rfl,rfl,rfl,rfl,trivial⟩,hS⟩
  ·have hj1:=cond_t hc2 hj1
   refine q_skip hF (wanted_f hF rfl rfl rfl hc2 rfl) rfl fun a hF=>q_skip hF (wanted_f hF rfl rfl rfl hc2 rfl) rfl fun a hF=>q_x (v:=(.bool true)) hF hS (ex_pick_t rfl rfl hc2) rfl rfl fun a hF=>q_x (v:=(.bool true)) hF hS (ex_move rfl) rfl rfl fun a hF=>q_skip hF (wanted_f hF rfl rfl rfl rfl rfl) rfl fun a hF=>q_skip hF (wanted_f hF rfl rfl rfl rfl rfl) rfl fun a hF=>q_x (v:=(.bool true)) hF hS (ex_pick_t rfl rfl rfl) rfl rfl fun a hF=>q_x (v:=(.bool true)) hF hS (ex_move rfl) rfl rfl fun a hF=>q_skip hF (wanted_f hF rfl rfl rfl rfl rfl) rfl fun a hF=>q_skip hF (wanted_f hF rfl rfl rfl rfl rfl) rfl fun a hF=>q_x (v:=(.bool true)) hF hS (ex_pick_t rfl rfl rfl) rfl rfl fun a hF=>q_x (v:=(.bool true)) hF hS (ex_move rfl) rfl rfl fun a hF=>q_skip hF (wanted_f hF rfl rfl rfl rfl rfl) rfl fun a hF=>q_skip hF (wanted_f hF rfl rfl rfl rfl rfl) rfl fun a hF=>q_x (v:=(.bool true)) hF hS (ex_pick_t rfl rfl rfl) rfl rfl fun a hF=>q_end (n_jn ?_)
   obtain rfl:=someI hj1
   exact ⟨hF.sub ⟨rfl,rfl,rfl,rfl,trivial⟩,hS⟩
 ·rintro a w ⟨hF,hS⟩
  refine n_sq ?_
  rcases bcase (t_5) with hc6 | hc6
  ·have hr:=cond_f hc6 hr
   refine q_cond_f hF rfl hc6 (q_skipc (n_sq (q_seq (q_region (q_x (v:=s4.v) hF hS (ex_move rfl) rfl rfl fun a hF=>q_x (v:=(iV p_n)) hF hS (ex_move rfl) rfl rfl fun a hF=>q_x (v:=s4.v) hF hS (ex_move rfl) rfl rfl fun a hF=>q_x (v:=(iV (goLen t_2.1))) hF hS (ex_len Try.underlying28 rfl h4.len) rfl rfl fun a hF=>q_x (v:=(iV (min p_n (goLen t_2.1)))) hF hS (ex_min rfl rfl) rfl rfl fun a hF=>?_)))))
   obtain ⟨l_6,hl_6,hr⟩:=bindS hr
   have h7 : OwnL m 3 q4 (subS s4 1 (0 : Int).toNat (min p_n (goLen t_2.1)).toNat s4.cap) l_6:=h4.sub0 hl_6
   refine q_x (v:=(subS s4 1 (0 : Int).toNat (min p_n (goLen t_2.1)).toNat s4.cap).v) hF hS (ex_slice Try.underlying28 sz3 rfl rfl rfl (.inl ⟨rfl,rfl⟩) (.inr ⟨_,rfl⟩) (h4.subok hl_6)) rfl rfl fun a hF=>?_
   obtain ⟨m9,hl9,hv9,hz9⟩:=hS.lend
   obtain ⟨t_8,ht_8,hr⟩:=bindS hr
   refine q_call (vs:=[(subS s4 1 (0 : Int).toNat (min p_n (goLen t_2.1)).toNat s4.cap).v]) hF hS Try.func80 (by kernel_rfl) rfl rfl rfl (c_impl_total l_6 t_8 ht_8 _ m9 hv9 (subS s4 1 (0 : Int).toNat (min p_n (goLen t_2.1)).toNat s4.cap) (h7.froz hl9 (hz9 0 _ rfl))) ?_
   rintro a w _ rfl hF hS
   refine q_x (v:=(iV (w64 (t_8 * 100)))) hF hS (ex_ibin rfl rfl rfl) rfl rfl fun a hF=>q_x (v:=(iV p_percent)) hF hS (ex_move rfl) rfl rfl fun a hF=>q_x (v:=s4.v) hF hS (ex_move rfl) rfl rfl fun a hF=>?_
   obtain ⟨m11,hl11,hv11,hz11⟩:=hS.lend
   obtain ⟨t_10,ht_10,hr⟩:=bindS hr
   refine q_call (vs:=[s4.v]) hF hS Try.func80 (by kernel_rfl) rfl rfl rfl (c_impl_total t_2.1 t_10 ht_10 _ m11 hv11 s4 (h4.froz hl11 (hz11 0 _ rfl))) ?_
   rintro a w _ rfl hF hS
   refine q_x (v:=(iV (w64 (p_percent * t_10)))) hF hS (ex_ibin rfl rfl rfl) rfl rfl fun a hF=>q_x (v:=(.bool (decide ((w64 (p_percent * t_10)) < (w64 (t_8 * 100)))))) hF hS (ex_ibin rfl rfl rfl) rfl rfl fun a hF=>q_x (v:=(.bool (decide ((w64 (p_percent * t_10)) < (w64 (t_8 * 100)))))) hF hS (ex_assign rfl) rfl rfl fun a hF=>q_x (v:=(.bool true)) hF hS (ex_assign rfl) rfl rfl fun a hF=>q_end (n_sq (q_ret ?_))
   obtain rfl:=someI hr
   exact ret_of hF hS rfl (.tmp rfl (.tmp rfl .nil)) rfl
  ·have hr:=cond_t hc6 hr
   refine q_cond_t hF rfl hc6 (q_seq (q_region (q_x (v:=(.bool false)) hF hS (ex_assign rfl) rfl rfl fun a hF=>q_x (v:=(.bool false)) hF hS (ex_assign rfl) rfl rfl fun a hF=>q_end (n_sq (q_ret (r_sq ?_))))))
   obtain rfl:=someI hr
   exact ret_of hF hS rfl (.tmp rfl (.tmp rfl .nil)) rfl

theorem c_spec_qAmounts (p_l : List Int) (r : Bool) (hr : spec_qAmounts p_l = some r) (w0 : World) (m : Mem) (hv : Vis m w0) (s1 : Sl) (h1 : Rd m s1 p_l) :
  Ret Try.prog 81 [s1.v] w0 (fun v _=>v = (.bool r)):=by
 unfold spec_qAmounts at hr
 refine ret_start Try.func81 rfl 10 rfl rfl m hv fun a hF hS=>q_seq (q_region (q_x (v:=(.bool false)) hF hS (ex_assign rfl) rfl rfl fun a hF=>q_end (n_sq (q_seq ?_))))
 obtain ⟨t_3,hj1,hr⟩:=bindS hr
 refine q_join (fun a w=>Fr a 10 [(2,(.bool t_3))]∧St [] w0 w m []) ?_ ?_
 ·refine q_region (q_x (v:=s1.v) hF hS (ex_move rfl) rfl rfl fun a hF=>q_x (v:=(iV (goLen p_l))) hF hS (ex_len Try.underlying28 rfl h1.len) rfl rfl fun a hF=>q_x (v:=(.bool (decide ((goLen p_l) ≤ 40)))) hF hS (ex_ibin rfl rfl rfl) rfl rfl fun a hF=>q_x (v:=(.bool (decide ((goLen p_l) ≤ 40)))) hF hS (ex_move rfl) rfl rfl fun a hF=>?_)
  rcases bcase (decide ((goLen p_l) ≤ 40)) with hc2 | hc2
  ·have hj1:=cond_f hc2 hj1
   refine q_skip hF (wanted_f hF rfl rfl rfl hc2 rfl) rfl fun a hF=>q_skip hF (wanted_f hF rfl rfl rfl hc2 rfl) rfl fun a hF=>q_x (v:=(.bool false)) hF hS (ex_pick_f rfl rfl hc2) rfl rfl fun a hF=>q_x (v:=(.bool false)) hF hS (ex_assign rfl) rfl rfl fun a hF=>q_end (n_jn ?_)
   obtain rfl:=someI hj1
   exact ⟨hF.sub ⟨rfl,trivial⟩,hS⟩
  ·have hj1:=cond_t hc2 hj1
   refine q_xg (v:=s1.v) hF hS (ex_move rfl) (wanted_t hF rfl rfl rfl hc2) rfl fun a hF=>?_
   obtain ⟨t_2,ht_2,hj1⟩:=bindS hj1
   refine q_callg (vs:=[s1.v,(iV 0),(iV 1000000)]) hF hS (wanted_t hF rfl rfl rfl hc2) Try.func152 (by kernel_rfl) rfl rfl rfl (c_spec_l1All p_l 0 1000000 t_2 ht_2 _ m hS.vis s1 h1) ?_
   rintro a w _ rfl hF hS
   refine q_x (v:=(.bool t_2)) hF hS (ex_pick_t rfl rfl hc2) rfl rfl fun a hF=>q_x (v:=(.bool t_2)) hF hS (ex_assign rfl) rfl rfl fun a hF=>q_end (n_jn ?_)
   obtain rfl:=someI hj1
   exact ⟨hF.sub ⟨rfl,trivial⟩,hS⟩
 ·rintro a w ⟨hF,hS⟩
  refine n_sq (q_ret ?_)
  obtain rfl:=someI hr
  exact ret_of hF hS rfl (.tmp rfl .nil) rfl

theorem c_spec_l1Own (p_l : List Int) (r : (List Int)) (hr : spec_l1Own p_l = some r) (w0 : World) (m : Mem) (hv : Vis m w0) (s1 : Sl) (h1 : Rd m s1 p_l) :
  Ret Try.prog 153 [s1.v] w0 (fun v w=>∃ (q0' : Piece) (s0' : Sl),v = s0'.v∧St [] w0 w m [q0']∧OwnL m 3 q0' s0' r):=by
 unfold spec_l1Own at hr
 refine ret_start Try.func153 rfl 6 rfl rfl m hv fun a hF hS=>q_seq (q_region (q_x (v:=nilS.v) hF hS (ex_assign rfl) rfl rfl fun a hF=>q_end (n_sq (q_seq (q_region (q_do rfl fun _ hK=>wp_build0 (α:=Int) hF hS Try.underlying28 inf3 rfl fun a w q2 s2 hF hS h2 _=>hK _ _ (q_x (v:=s1.v) hF hS (ex_move rfl) rfl rfl fun a hF=>?_)))))))
 obtain ⟨l_3,hl_3,hr⟩:=bindS hr
 refine q_do rfl fun _ hK=>wp_append hF hS h2 Try.underlying28 inf3 rfl rfl rfl rfl (h1.vw hS.vis) rfl (by decide) hl_3 rfl fun a w q4 s4 hF hS h4=>hK _ _ (q_x (v:=s4.v) hF hS (ex_assign rfl) rfl rfl fun a hF=>q_end (n_sq (q_ret ?_)))
 obtain rfl:=someI hr
 exact ret_of hF hS rfl (.tmp rfl .nil) ⟨q4,s4,rfl,hS.sel [0] (by decide),h4⟩

theorem c_spec_qFalling (p_l : List Int) (r : (List Int)) (hr : spec_qFalling p_l = some r) (w0 : World) (m : Mem) (hv : Vis m w0) (s1 : Sl) (h1 : Rd m s1 p_l) :
  Ret Try.prog 82 [s1.v] w0 (fun v w=>∃ (q0' : Piece) (s0' : Sl),v = s0'.v∧St [] w0 w m [q0']∧OwnL m 3 q0' s0' r):=by
 unfold spec_qFalling at hr
 refine ret_start Try.func82 rfl 50 rfl rfl m hv fun a hF hS=>q_seq (q_region (q_x (v:=nilS.v) hF hS (ex_assign rfl) rfl rfl fun a hF=>q_end (n_sq (q_seq (q_region (q_x (v:=s1.v) hF hS (ex_move rfl) rfl rfl fun a hF=>?_))))))
 obtain ⟨t_2,ht_2,hr⟩:=bindS hr
 refine q_call (vs:=[s1.v]) hF hS Try.func153 (by kernel_rfl) rfl rfl rfl (c_spec_l1Own p_l t_2 ht_2 _ m hS.vis s1 h1) ?_
 rintro a w _ ⟨q4,s4,rfl,hR3,h4⟩ hF hS2
 have hS : St _ _ _ _ [q4]:=hS.joinF hR3
 refine q_x (v:=s4.v) hF hS (ex_assign rfl) rfl rfl fun a hF=>q_end (n_sq (q_seq (q_seq (q_region (q_x (v:=s4.v) hF hS (ex_move rfl) rfl rfl fun a hF=>q_x (v:=(iV (goLen t_2))) hF hS (ex_len Try.underlying28 rfl h4.len) rfl rfl fun a hF=>q_x (v:=(iV 0)) hF hS (ex_move rfl) rfl rfl fun a hF=>q_end (n_sq (q_block ?_)))))))
 obtain ⟨out_28,hl1,hr⟩:=bindS hr
 refine q_loop (fun (s : (List Int) × Int) a w=>∃ (q6 : Piece),∃ out_5,∃ t_7,s = (out_5,t_7)∧Fr a 50 [(3,s4.v),(10,(iV (goLen t_2))),(11,(iV t_7))]∧St [] w0 w m [q6]∧OwnL m 3 q6 s4 out_5) (fun (out_28 : (List Int)) e a w=>∃ (q29 : Piece),e = .exit 0∧Fr a 50 [(3,s4.v)]∧St [] w0 w m [q29]∧OwnL m 3 q29 s4 out_28) hl1 ⟨q4,_,_,rfl,hF.sub ⟨rfl,rfl,rfl,trivial⟩,hS,h4⟩ ?_ ?_
 ·clear hF hS
  rintro s a w st ⟨q6,out_5,t_7,rfl,hF,hS,h6⟩ hb1
  unfold spec_qFalling_l1 at hb1
  refine q_seq (q_region (q_x (v:=(.bool (decide (t_7 < (goLen t_2))))) hF hS (ex_ibin rfl rfl rfl) rfl rfl fun a hF=>q_end (n_sq (q_seq ?_))))
  rcases bcase (decide (t_7 < (goLen t_2))) with hc2 | hc2
  ·have hb1:=cond_f hc2 hb1
   refine q_cond_f hF rfl hc2 (q_exit (x_sq ?_))
   obtain rfl:=someI hb1
   exact ⟨nofun,.inl ⟨q6,rfl,hF.sub ⟨rfl,trivial⟩,hS,h6⟩⟩
  ·have hb1:=cond_t hc2 hb1
   refine q_cond_t hF rfl hc2 (q_skipc (n_sq (q_seq (q_block (q_seq (q_region (q_x (v:=(iV t_7)) hF hS (ex_move rfl) rfl rfl fun a hF=>q_x (v:=(iV t_7)) hF hS (ex_assign rfl) rfl rfl fun a hF=>q_end (n_sq (q_seq (q_region (q_x (v:=(iV t_7)) hF hS (ex_move rfl) rfl rfl fun a hF=>q_x (v:=(iV t_7)) hF hS (ex_assign rfl) rfl rfl fun a hF=>q_end (n_sq (q_block ?_)))))))))))))
   obtain ⟨out_26,hl3,hb1⟩:=bindS hb1
   refine q_loop (fun (s : (List Int) × Int) a w=>∃ (q9 : Piece),∃ out_8,∃ k_10,s = (out_8,k_10)∧Fr a 50 [(3,s4.v),(5,(iV k_10)),(10,(iV (goLen t_2))),(11,(iV t_7))]∧St [] w0 w m [q9]∧OwnL m 3 q9 s4 out_8) (fun (out_26 : (List Int)) e a w=>∃ (q27 : Piece),e = .exit 2∧Fr a 50 [(3,s4.v),(10,(iV (goLen t_2))),(11,(iV t_7))]∧St [] w0 w m [q27]∧OwnL m 3 q27 s4 out_26) hl3 ⟨q6,_,_,rfl,hF.sub ⟨rfl,rfl,rfl,rfl,trivial⟩,hS,h6⟩ ?_ ?_
   ·clear hF hS
    rintro s a w st ⟨q9,out_8,k_10,rfl,hF,hS,h9⟩ hb3
    unfold spec_qFalling_l2 at hb3
    refine q_seq (q_seq ?_)
    obtain ⟨t_15,hj4,hb3⟩:=bindS hb3
    refine q_join (fun a w=>Fr a 50 [(3,s4.v),(5,(iV k_10)),(10,(iV (goLen t_2))),(11,(iV t_7)),(28,(.bool t_15))]∧St [] w0 w m [q9]) ?_ ?_
    ·refine e_region ⟨[],[]⟩ mixed fun w' hw'=>?_
     have hS:=hS.below hw'
     refine e_p (v:=(iV k_10)) 0 hF rfl (ex_move rfl) rfl rfl (by kernel_rfl) (by kernel_rfl) (by kernel_rfl) fun a hF=>e_p (v:=(.bool (decide (0 < k_10)))) 1 hF rfl (ex_ibin rfl rfl rfl) rfl rfl (by kernel_rfl) (by kernel_rfl) (by kernel_rfl) fun a hF=>e_p (v:=(.bool (decide (0 < k_10)))) 2 hF rfl (ex_move rfl) rfl rfl (by kernel_rfl) (by kernel_rfl) (by kernel_rfl) fun a hF=>?_
     rcases bcase (decide (0 < k_10)) with hc5 | hc5
     ·have hj4:=cond_f hc5 hj4
      refine e_skipP 3 hF rfl (wanted_f hF rfl rfl rfl hc5 rfl) rfl (by kernel_rfl) (by kernel_rfl) (by kernel_rfl) fun a hF=>e_skipP 4 hF rfl (wanted_f hF rfl rfl rfl hc5 rfl) rfl (by kernel_rfl) (by kernel_rfl) (by kernel_rfl) fun a hF=>e_skipP 5 hF rfl (wanted_f hF rfl rfl rfl hc5 rfl) rfl (by kernel_rfl) (by kernel_rfl) (by kernel_rfl) fun a hF=>e_skipP 6 hF rfl (wanted_f hF rfl rfl rfl hc5 rfl) rfl (by kernel_rfl) (by kernel_rfl) (by kernel_rfl) fun a hF=>e_skipP 7 hF rfl (wanted_f hF rfl rfl rfl hc5 rfl) rfl (by kernel_rfl) (by kernel_rfl) (by kernel_rfl) fun a hF=>e_skipP 8 hF rfl (wanted_f hF rfl rfl rfl hc5 rfl) rfl (by kernel_rfl) (by kernel_rfl) (by kernel_rfl) fun a hF=>e_skipP 9 hF rfl (wanted_f hF rfl rfl rfl hc5 rfl) rfl (by kernel_rfl) (by kernel_rfl) (by kernel_rfl) fun a hF=>e_skipP 10 hF rfl (wanted_f hF rfl rfl rfl hc5 rfl) rfl (by kernel_rfl) (by kernel_rfl) (by kernel_rfl) fun a hF=>e_skipP 11 hF rfl (wanted_f hF rfl rfl rfl hc5 rfl) rfl (by kernel_rfl) (by kernel_rfl) (by kernel_rfl) fun a hF=>e_skipP 12 hF rfl (wanted_f hF rfl rfl rfl hc5 rfl) rfl (by kernel_rfl) (by kernel_rfl) (by kernel_rfl) fun a hF=>e_p (v:=(.bool false)) 13 hF rfl (ex_pick_f rfl rfl hc5) rfl rfl (by kernel_rfl) (by kernel_rfl) (by kernel_rfl) fun a hF=>e_end (by kernel_rfl) (n_jn ?_) _
      obtain rfl:=someI hj4
      exact ⟨hF.sub ⟨rfl,rfl,rfl,rfl,rfl,trivial⟩,hS⟩
     ·have hj4:=cond_t hc5 hj4
      refine e_pg (v:=s4.v) 3 hF rfl (ex_move rfl) (wanted_t hF rfl rfl rfl hc5) rfl (by kernel_rfl) (by kernel_rfl) (by kernel_rfl) fun a hF=>e_pg (v:=(iV k_10)) 4 hF rfl (ex_move rfl) (wanted_t hF rfl rfl rfl hc5) rfl (by kernel_rfl) (by kernel_rfl) (by kernel_rfl) fun a hF=>e_pg (v:=(iV (w64 (k_10 - 1)))) 5 hF rfl (ex_ibin rfl rfl rfl) (wanted_t hF rfl rfl rfl hc5) rfl (by kernel_rfl) (by kernel_rfl) (by kernel_rfl) fun a hF=>?_
      obtain ⟨e_11,he_11,hj4⟩:=bindS hj4
      obtain ⟨vs12,at12,d12⟩:=h9.at he_11 1 rfl
      obtain rfl : vs12 = [(iV e_11)]:=d12
      refine e_pg (v:=(elP s4 ((w64 (k_10 - 1)).toNat * 1))) 6 hF rfl (ex_indexAddr Try.underlying28 sz3 rfl rfl (h9.idx he_11)) (wanted_t hF rfl rfl rfl hc5) rfl (by kernel_rfl) (by kernel_rfl) (by kernel_rfl) fun a hF=>e_xg (v:=(iV e_11)) 7 hF hS rfl (ex_loadE1 0 Try.underlying3 rfl rfl (at12.at 0 rfl) rfl rfl) (wanted_t hF rfl rfl rfl hc5) rfl (by kernel_rfl) (by kernel_rfl) (by kernel_rfl) (by kernel_rfl) fun a hF=>e_pg (v:=s4.v) 8 hF rfl (ex_move rfl) (wanted_t hF rfl rfl rfl hc5) rfl (by kernel_rfl) (by kernel_rfl) (by kernel_rfl) fun a hF=>e_pg (v:=(iV k_10)) 9 hF rfl (ex_move rfl) (wanted_t hF rfl rfl rfl hc5) rfl (by kernel_rfl) (by kernel_rfl) (by kernel_rfl) fun a hF=>?_
      obtain ⟨e_13,he_13,hj4⟩:=bindS hj4
      obtain ⟨vs14,at14,d14⟩:=h9.at he_13 1 rfl
      obtain rfl : vs14 = [(iV e_13)]:=d14
      refine e_pg (v:=(elP s4 (k_10.toNat * 1))) 10 hF rfl (ex_indexAddr Try.underlying28 sz3 rfl rfl (h9.idx he_13)) (wanted_t hF rfl rfl rfl hc5) rfl (by kernel_rfl) (by kernel_rfl) (by kernel_rfl) fun a hF=>e_xg (v:=(iV e_13)) 11 hF hS rfl (ex_loadE1 0 Try.underlying3 rfl rfl (at14.at 0 rfl) rfl rfl) (wanted_t hF rfl rfl rfl hc5) rfl (by kernel_rfl) (by kernel_rfl) (by kernel_rfl) (by kernel_rfl) fun a hF=>e_pg (v:=(.bool (decide (e_11 < e_13)))) 12 hF rfl (ex_ibin rfl rfl rfl) (wanted_t hF rfl rfl rfl hc5) rfl (by kernel_rfl) (by kernel_rfl) (by kernel_rfl) fun a hF=>e_p (v:=(.bool (decide (e_11 < e_13)))) 13 hF rfl (ex_pick_t rfl rfl hc5) rfl rfl (by kernel_rfl) (by kernel_rfl) (by kernel_rfl) fun a hF=>e_end (by kernel_rfl) (n_jn ?_) _
      obtain rfl:=someI hj4
      exact ⟨hF.sub ⟨rfl,rfl,rfl,rfl,rfl,trivial⟩,hS⟩
    ·rintro a w ⟨hF,hS⟩
     refine n_sq ?_
     rcases bcase (t_15) with hc6 | hc6
     ·have hb3:=cond_f hc6 hb3
      refine q_cond_f hF rfl hc6 (q_exit (x_sq ?_))
      obtain rfl:=someI hb3
      exact ⟨nofun,.inl ⟨q9,rfl,hF.sub ⟨rfl,rfl,rfl,trivial⟩,hS,h9⟩⟩
     ·have hb3:=cond_t hc6 hb3
      refine q_cond_t hF rfl hc6 (q_skipc (n_sq (q_seq (q_block (q_seq (q_region (q_x (v:=s4.v) hF hS (ex_move rfl) rfl rfl fun a hF=>q_x (v:=(iV k_10)) hF hS (ex_move rfl) rfl rfl fun a hF=>?_)))))))
      obtain ⟨e_16,he_16,hb3⟩:=bindS hb3
      obtain ⟨vs17,at17,d17⟩:=h9.at he_16 1 rfl
      obtain rfl : vs17 = [(iV e_16)]:=d17
      refine q_x (v:=(elP s4 (k_10.toNat * 1))) hF hS (ex_indexAddr Try.underlying28 sz3 rfl rfl (h9.idx he_16)) rfl rfl fun a hF=>q_x (v:=(iV e_16)) hF hS (ex_loadE1 0 Try.underlying3 rfl rfl (at17.at 0 rfl) rfl rfl) rfl rfl fun a hF=>q_x (v:=(iV e_16)) hF hS (ex_assign rfl) rfl rfl fun a hF=>q_end (n_sq (q_seq (q_region (q_x (v:=s4.v) hF hS (ex_move rfl) rfl rfl fun a hF=>q_x (v:=(iV k_10)) hF hS (ex_move rfl) rfl rfl fun a hF=>q_x (v:=s4.v) hF hS (ex_move rfl) rfl rfl fun a hF=>q_x (v:=(iV k_10)) hF hS (ex_move rfl) rfl rfl fun a hF=>q_x (v:=(iV (w64 (k_10 - 1)))) hF hS (ex_ibin rfl rfl rfl) rfl rfl fun a hF=>?_))))
      obtain ⟨e_18,he_18,hb3⟩:=bindS hb3
      obtain ⟨vs19,at19,d19⟩:=h9.at he_18 1 rfl
      obtain rfl : vs19 = [(iV e_18)]:=d19
      refine q_x (v:=(elP s4 ((w64 (k_10 - 1)).toNat * 1))) hF hS (ex_indexAddr Try.underlying28 sz3 rfl rfl (h9.idx he_18)) rfl rfl fun a hF=>q_x (v:=(iV e_18)) hF hS (ex_loadE1 0 Try.underlying3 rfl rfl (at19.at 0 rfl) rfl rfl) rfl rfl fun a hF=>?_
      obtain ⟨e_20,he_20,hb3⟩:=bindS hb3
      obtain ⟨vs21,at21,d21⟩:=h9.at he_20 1 rfl
      obtain rfl : vs21 = [(iV e_20)]:=d21
      refine q_x (v:=(elP s4 (k_10.toNat * 1))) hF hS (ex_indexAddr Try.underlying28 sz3 rfl rfl (h9.idx he_20)) rfl rfl fun a hF=>q_do rfl fun _ hK=>wp_storeE (e':=e_18) (us:=[(iV e_18)]) (vs:=[(iV e_20)]) 0 hF hS h9 sz3 rfl rfl rfl rfl rfl rfl rfl he_20 at21 rfl rfl rfl fun w q22 hS h22=>hK _ _ (q_end (n_sq (q_region (q_x (v:=s4.v) hF hS (ex_move rfl) rfl rfl fun a hF=>q_x (v:=(iV k_10)) hF hS (ex_move rfl) rfl rfl fun a hF=>q_x (v:=(iV (w64 (k_10 - 1)))) hF hS (ex_ibin rfl rfl rfl) rfl rfl fun a hF=>q_x (v:=(iV e_16)) hF hS (ex_move rfl) rfl rfl fun a hF=>?_))))
      obtain ⟨e_23,he_23,hb3⟩:=bindS hb3
      obtain ⟨vs24,at24,d24⟩:=h22.at he_23 1 rfl
      obtain rfl : vs24 = [(iV e_23)]:=d24
      refine q_x (v:=(elP s4 ((w64 (k_10 - 1)).toNat * 1))) hF hS (ex_indexAddr Try.underlying28 sz3 rfl rfl (h22.idx he_23)) rfl rfl fun a hF=>q_do rfl fun _ hK=>wp_storeE (e':=e_16) (us:=[(iV e_16)]) (vs:=[(iV e_23)]) 0 hF hS h22 sz3 rfl rfl rfl rfl rfl rfl rfl he_23 at24 rfl rfl rfl fun w q25 hS h25=>hK _ _ (q_end (n_ib (n_sq (q_region (q_x (v:=(iV k_10)) hF hS (ex_move rfl) rfl rfl fun a hF=>q_x (v:=(iV (w64 (k_10 - 1)))) hF hS (ex_ibin rfl rfl rfl) rfl rfl fun a hF=>q_x (v:=(iV (w64 (k_10 - 1)))) hF hS (ex_assign rfl) rfl rfl fun a hF=>q_end ?_)))))
      obtain rfl:=someI hb3
      exact ⟨rfl,q25,_,_,rfl,hF.sub ⟨rfl,rfl,rfl,rfl,trivial⟩,hS,h25⟩
   ·rintro e a w ⟨q27,rfl,hF,hS,h27⟩
    refine x_ib (n_ib (n_sq ?_))
    refine q_region (q_x (v:=(iV (w64 (t_7 + 1)))) hF hS (ex_ibin rfl rfl rfl) rfl rfl fun a hF=>q_x (v:=(iV (w64 (t_7 + 1)))) hF hS (ex_move rfl) rfl rfl fun a hF=>q_end ?_)
    obtain rfl:=someI hb1
    exact ⟨rfl,q27,_,_,rfl,hF.sub ⟨rfl,rfl,rfl,trivial⟩,hS,h27⟩
 ·rintro e a w ⟨q29,rfl,hF,hS,h29⟩
  refine x_ib (n_sq ?_)
  refine q_seq (q_region (q_x (v:=s4.v) hF hS (ex_move rfl) rfl rfl fun a hF=>q_x (v:=s4.v) hF hS (ex_assign rfl) rfl rfl fun a hF=>q_end (n_sq (q_ret ?_))))
  obtain rfl:=someI hr
  exact ret_of hF hS rfl (.tmp rfl .nil) ⟨q29,s4,rfl,hS.sel [0] (by decide),h29⟩

theorem c_spec_tSum (p_l : List Int) (r : Int) (hr : spec_tSum p_l = some r) (w0 : World) (m : Mem) (hv : Vis m w0) (s1 : Sl) (h1 : Rd m s1 p_l) :
  Ret Try.prog 83 [s1.v] w0 (fun v _=>v = (iV r)):=by
 unfold spec_tSum at hr
 refine ret_start Try.func83 rfl 17 rfl rfl m hv fun a hF hS=>q_seq (q_region (q_x (v:=(iV 0)) hF hS (ex_assign rfl) rfl rfl fun a hF=>q_end (n_sq (q_seq (q_region (q_x (v:=(iV 0)) hF hS (ex_assign rfl) rfl rfl fun a hF=>q_end (n_sq (q_seq (q_seq (q_region (q_x (v:=s1.v) hF hS (ex_move rfl) rfl rfl fun a hF=>q_x (v:=(iV (goLen p_l))) hF hS (ex_len Try.underlying28 rfl h1.len) rfl rfl fun a hF=>q_x (v:=(iV 0)) hF hS (ex_move rfl) rfl rfl fun a hF=>q_end (n_sq (q_block ?_)))))))))))))
 obtain ⟨sum_6,hl1,hr⟩:=bindS hr
 refine q_loop (fun (s : Int × Int) a w=>∃ sum_2,∃ t_3,s = (sum_2,t_3)∧Fr a 17 [(3,(iV sum_2)),(6,s1.v),(7,(iV (goLen p_l))),(8,(iV t_3))]∧St [] w0 w m []) (fun (sum_6 : Int) e a w=>e = .exit 0∧Fr a 17 [(3,(iV sum_6))]∧St [] w0 w m []) hl1 ⟨_,_,rfl,hF.sub ⟨rfl,rfl,rfl,rfl,trivial⟩,hS⟩ ?_ ?_
 ·clear hF hS
  rintro s a w st ⟨sum_2,t_3,rfl,hF,hS⟩ hb1
  unfold spec_tSum_l1 at hb1
  refine q_seq (q_region (q_x (v:=(.bool (decide (t_3 < (goLen p_l))))) hF hS (ex_ibin rfl rfl rfl) rfl rfl fun a hF=>q_end (n_sq (q_seq ?_))))
  rcases bcase (decide (t_3 < (goLen p_l))) with hc2 | hc2
  ·have hb1:=cond_f hc2 hb1
   refine q_cond_f hF rfl hc2 (q_exit (x_sq ?_))
   obtain rfl:=someI hb1
   exact ⟨nofun,.inl ⟨rfl,hF.sub ⟨rfl,trivial⟩,hS⟩⟩
  ·have hb1:=cond_t hc2 hb1
   refine q_cond_t hF rfl hc2 (q_skipc (n_sq (q_seq (q_block (q_seq (q_region ?_))))))
   obtain ⟨e_4,he_4,hb1⟩:=bindS hb1
   obtain ⟨vs5,at5,d5⟩:=h1.at he_4 1 rfl
   obtain rfl : vs5 = [(iV e_4)]:=d5
   refine q_x (v:=(elP s1 (t_3.toNat * 1))) hF hS (ex_indexAddr Try.underlying28 sz3 rfl rfl (h1.idx he_4)) rfl rfl fun a hF=>q_x (v:=(iV e_4)) hF hS (ex_loadE1 0 Try.underlying3 rfl rfl ((at5).at) rfl rfl) rfl rfl fun a hF=>q_x (v:=(iV e_4)) hF hS (ex_assign rfl) rfl rfl fun a hF=>q_end (n_sq (q_region (q_x (v:=(iV sum_2)) hF hS (ex_move rfl) rfl rfl fun a hF=>q_x (v:=(iV e_4)) hF hS (ex_move rfl) rfl rfl fun a hF=>q_x (v:=(iV (w64 (sum_2 + e_4)))) hF hS (ex_ibin rfl rfl rfl) rfl rfl fun a hF=>q_x (v:=(iV (w64 (sum_2 + e_4)))) hF hS (ex_assign rfl) rfl rfl fun a hF=>q_end (n_ib (n_sq (q_region (q_x (v:=(iV (w64 (t_3 + 1)))) hF hS (ex_ibin rfl rfl rfl) rfl rfl fun a hF=>q_x (v:=(iV (w64 (t_3 + 1)))) hF hS (ex_move rfl) rfl rfl fun a hF=>q_end ?_)))))))
   obtain rfl:=someI hb1
   exact ⟨rfl,_,_,rfl,hF.sub ⟨rfl,rfl,rfl,rfl,trivial⟩,hS⟩
 ·rintro e a w ⟨rfl,hF,hS⟩
  refine x_ib (n_sq ?_)
  refine q_seq (q_region (q_x (v:=(iV sum_6)) hF hS (ex_move rfl) rfl rfl fun a hF=>q_x (v:=(iV sum_6)) hF hS (ex_assign rfl) rfl rfl fun a hF=>q_end (n_sq (q_ret ?_))))
  obtain rfl:=someI hr
  exact ret_of hF hS rfl (.tmp rfl .nil) rfl

theorem c_spec_IsDominated (p_amounts : List Int) (p_n : Int) (p_percent : Int) (r : Bool × Bool) (hr : spec_IsDominated p_amounts p_n p_percent = some r) (w0 : World) (m : Mem) (hv : Vis m w0) (s1 : Sl) (h1 : Rd m s1 p_amounts) :
  Ret Try.prog 13 [s1.v,(iV p_n),(iV p_percent)] w0 (fun v _=>v = (.tuple #[(.bool r.1),(.bool r.2)])):=by
 unfold spec_IsDominated at hr
 refine ret_start Try.func13 rfl 46 rfl rfl m hv fun a hF hS=>q_seq (q_region (q_x (v:=(.bool false)) hF hS (ex_assign rfl) rfl rfl fun a hF=>q_x (v:=(.bool false)) hF hS (ex_assign rfl) rfl rfl fun a hF=>q_end (n_sq (q_seq (q_seq ?_)))))
 obtain ⟨t_5,hj1,hr⟩:=bindS hr
 refine q_join (fun a w=>Fr a 46 [(0,s1.v),(1,(iV p_n)),(2,(iV p_percent)),(23,(.bool t_5))]∧St [] w0 w m []) ?_ ?_
 ·refine q_region (q_x (v:=s1.v) hF hS (ex_move rfl) rfl rfl fun a hF=>?_)
  obtain ⟨t_2,ht_2,hj1⟩:=bindS hj1
  refine q_call (vs:=[s1.v]) hF hS Try.func81 (by kernel_rfl) rfl rfl rfl (c_spec_qAmounts p_amounts t_2 ht_2 _ m hS.vis s1 h1) ?_
  rintro a w _ rfl hF hS
  refine q_x (v:=(.bool (!t_2))) hF hS (ex_not rfl) rfl rfl fun a hF=>q_x (v:=(.bool (!t_2))) hF hS (ex_move rfl) rfl rfl fun a hF=>?_
  rcases bcase (!t_2) with hc2 | hc2
  ·have hj1:=cond_f hc2 hj1
   refine q_xg (v:=(iV p_n)) hF hS (ex_move rfl) (wanted_t hF rfl rfl rfl hc2) rfl fun a hF=>?_
   obtain ⟨t_3,ht_3,hj1⟩:=bindS hj1
   refine q_callg (vs:=[(iV p_n),(iV 1),(iV 10)]) hF hS (wanted_t hF rfl rfl rfl hc2) Try.func77 (by kernel_rfl) rfl rfl rfl (c_spec_l1In p_n 1 10 t_3 ht_3 _ m hS.vis) ?_
   rintro a w _ rfl hF hS
   refine q_xg (v:=(.bool (!t_3))) hF hS (ex_not rfl) (wanted_t hF rfl rfl rfl hc2) rfl fun a hF=>q_x (v:=(.bool (!t_3))) hF hS (ex_pick_f rfl rfl hc2) rfl rfl fun a hF=>q_x (v:=(.bool (!t_3))) hF hS (ex_move rfl) rfl rfl fun a hF=>?_
   rcases bcase (!t_3) with hc3 | hc3
   ·have hj1:=cond_f hc3 hj1
    refine q_xg (v:=(iV p_percent)) hF hS (ex_move rfl) (wanted_t hF rfl rfl rfl hc3) rfl fun a hF=>?_
    obtain ⟨t_4,ht_4,hj1⟩:=bindS hj1
    refine q_callg (vs:=[(iV p_percent),(iV 0),(iV 100)]) hF hS (wanted_t hF rfl rfl rfl hc3) Try.func77 (by kernel_rfl) rfl rfl rfl (c_spec_l1In p_percent 0 100 t_4 ht_4 _ m hS.vis) ?_
    rintro a w _ rfl hF hS
    refine q_xg (v:=(.bool (!t_4))) hF hS (ex_not rfl) (wanted_t hF rfl rfl rfl hc3) rfl fun a hF=>q_x (v:=(.bool (!t_4))) hF hS (ex_pick_f rfl rfl hc3) rfl rfl fun a hF=>q_end (n_jn ?_)
    obtain rfl:=someI hj1
    exact ⟨hF.sub ⟨rfl,rfl,rfl,rfl,trivial⟩,hS⟩
   ·have hj1:=cond_t hc3 hj1
    refine q_skip hF (wanted_f hF rfl rfl rfl hc3 rfl) rfl fun a hF=>q_skip hF (wanted_f hF rfl rfl rfl hc3 rfl) rfl fun a hF=>q_skip hF (wanted_f hF rfl rfl rfl hc3 rfl) rfl fun a hF=>q_x (v:=(.bool true)) hF hS (ex_pick_t rfl rfl hc3) rfl rfl fun a hF=>q_end (n_jn ?_)
    obtain rfl:=someI hj1
    exact ⟨hF.sub ⟨rfl,rfl,rfl,rfl,trivial⟩,hS⟩
  ·have hj1:=cond_t hc2 hj1
   refine q_skip hF (wanted_f hF rfl rfl rfl hc2 rfl) rfl fun a hF=>q_skip hF (wanted_f hF rfl rfl rfl hc2 rfl) rfl fun a hF=>q_skip hF (wanted_f hF rfl rfl rfl hc2 rfl) rfl fun a hF=>q_x (v:=(.bool true)) hF hS (ex_pick_t rfl rfl hc2) rfl rfl fun a hF=>q_x (v:=(.bool true)) hF hS (ex_move rfl) rfl rfl fun a hF=>q_skip hF (wanted_f hF rfl rfl rfl rfl rfl) rfl fun a hF=>q_skip hF (wanted_f hF rfl rfl rfl rfl rfl) rfl fun a hF=>q_skip hF (wanted_f hF rfl rfl rfl rfl rfl) rfl fun a hF=>q_x (v:=(.bool true)) hF hS (ex_pick_t rfl rfl rfl) rfl rfl fun a hF=>q_end (n_jn ?_)
   obtain rfl:=someI hj1
   exact ⟨hF.sub ⟨rfl,rfl,rfl,rfl,trivial⟩,hS⟩
 ·rintro a w ⟨hF,hS⟩
  refine n_sq ?_
  rcases bcase (t_5) with hc4 | hc4
  ·have hr:=cond_f hc4 hr
   refine q_cond_f hF rfl hc4 (q_skipc (n_sq (q_seq (q_region (q_x (v:=(iV 0)) hF hS (ex_assign rfl) rfl rfl fun a hF=>q_end (n_sq (q_seq (q_seq (q_region (q_x (v:=s1.v) hF hS (ex_move rfl) rfl rfl fun a hF=>?_))))))))))
   obtain ⟨t_6,ht_6,hr⟩:=bindS hr
   refine q_call (vs:=[s1.v]) hF hS Try.func82 (by kernel_rfl) rfl rfl rfl (c_spec_qFalling p_amounts t_6 ht_6 _ m hS.vis s1 h1) ?_
   rintro a w _ ⟨q8,s8,rfl,hR7,h8⟩ hF hS2
   have hS : St _ _ _ _ [q8]:=hS.joinF hR7
   refine q_x (v:=(iV (goLen t_6))) hF hS (ex_len Try.underlying28 rfl h8.len) rfl rfl fun a hF=>q_x (v:=(iV 0)) hF hS (ex_move rfl) rfl rfl fun a hF=>q_end (n_sq (q_block ?_))
   obtain ⟨top_14,hl5,hr⟩:=bindS hr
   refine q_loop (fun (s : Int × Int) a w=>∃ top_9,∃ t_10,s = (top_9,t_10)∧Fr a 46 [(0,s1.v),(1,(iV p_n)),(2,(iV p_percent)),(8,(iV top_9)),(25,s8.v),(26,(iV (goLen t_6))),(27,(iV t_10))]∧St [] w0 w m [q8]) (fun (top_14 : Int) e a w=>e = .exit 0∧Fr a 46 [(0,s1.v),(2,(iV p_percent)),(8,(iV top_14))]∧St [] w0 w m []) hl5 ⟨_,_,rfl,hF.sub ⟨rfl,rfl,rfl,rfl,rfl,rfl,rfl,trivial⟩,hS⟩ ?_ ?_
   ·clear hF hS
    rintro s a w st ⟨top_9,t_10,rfl,hF,hS⟩ hb5
    unfold spec_IsDominated_l1 at hb5
    refine q_seq (q_region (q_x (v:=(.bool (decide (t_10 < (goLen t_6))))) hF hS (ex_ibin rfl rfl rfl) rfl rfl fun a hF=>q_end (n_sq (q_seq ?_))))
    rcases bcase (decide (t_10 < (goLen t_6))) with hc6 | hc6
    ·have hb5:=cond_f hc6 hb5
     refine q_cond_f hF rfl hc6 (q_exit (x_sq ?_))
     obtain rfl:=someI hb5
     exact ⟨nofun,.inl ⟨rfl,hF.sub ⟨rfl,rfl,rfl,trivial⟩,hS.mask [false]⟩⟩
    ·have hb5:=cond_t hc6 hb5
     refine q_cond_t hF rfl hc6 (q_skipc (n_sq (q_seq (q_block (q_seq (q_region (q_x (v:=(iV t_10)) hF hS (ex_move rfl) rfl rfl fun a hF=>?_)))))))
     obtain ⟨e_11,he_11,hb5⟩:=bindS hb5
     obtain ⟨vs12,at12,d12⟩:=h8.at he_11 1 rfl
     obtain rfl : vs12 = [(iV e_11)]:=d12
     refine q_x (v:=(elP s8 (t_10.toNat * 1))) hF hS (ex_indexAddr Try.underlying28 sz3 rfl rfl (h8.idx he_11)) rfl rfl fun a hF=>q_x (v:=(iV e_11)) hF hS (ex_loadE1 0 Try.underlying3 rfl rfl (at12.at 0 rfl) rfl rfl) rfl rfl fun a hF=>q_x (v:=(iV t_10)) hF hS (ex_assign rfl) rfl rfl fun a hF=>q_x (v:=(iV e_11)) hF hS (ex_assign rfl) rfl rfl fun a hF=>q_end (n_sq (q_seq (q_region (q_x (v:=(iV t_10)) hF hS (ex_move rfl) rfl rfl fun a hF=>q_x (v:=(iV p_n)) hF hS (ex_move rfl) rfl rfl fun a hF=>q_x (v:=(.bool (decide (t_10 < p_n)))) hF hS (ex_ibin rfl rfl rfl) rfl rfl fun a hF=>q_end (n_sq ?_)))))
     obtain ⟨top_13,hj7,hb5⟩:=bindS hb5
     refine q_join (fun a w=>Fr a 46 [(0,s1.v),(1,(iV p_n)),(2,(iV p_percent)),(8,(iV top_13)),(25,s8.v),(26,(iV (goLen t_6))),(27,(iV t_10))]∧St [] w0 w m [q8]) ?_ ?_
     ·rcases bcase (decide (t_10 < p_n)) with hc8 | hc8
      ·have hj7:=cond_f hc8 hj7
       refine q_cond_f hF rfl hc8 (q_skipc (n_jn ?_))
       obtain rfl:=someI hj7
       exact ⟨hF.sub ⟨rfl,rfl,rfl,rfl,rfl,rfl,rfl,trivial⟩,hS⟩
      ·have hj7:=cond_t hc8 hj7
       refine q_cond_t hF rfl hc8 (q_region (q_x (v:=(iV top_9)) hF hS (ex_move rfl) rfl rfl fun a hF=>q_x (v:=(iV e_11)) hF hS (ex_move rfl) rfl rfl fun a hF=>q_x (v:=(iV (w64 (top_9 + e_11)))) hF hS (ex_ibin rfl rfl rfl) rfl rfl fun a hF=>q_x (v:=(iV (w64 (top_9 + e_11)))) hF hS (ex_assign rfl) rfl rfl fun a hF=>q_end (n_jn ?_)))
       obtain rfl:=someI hj7
       exact ⟨hF.sub ⟨rfl,rfl,rfl,rfl,rfl,rfl,rfl,trivial⟩,hS⟩
     ·rintro a w ⟨hF,hS⟩
      refine n_ib (n_sq ?_)
      refine q_region (q_x (v:=(iV (w64 (t_10 + 1)))) hF hS (ex_ibin rfl rfl rfl) rfl rfl fun a hF=>q_x (v:=(iV (w64 (t_10 + 1)))) hF hS (ex_move rfl) rfl rfl fun a hF=>q_end ?_)
      obtain rfl:=someI hb5
      exact ⟨rfl,_,_,rfl,hF.sub ⟨rfl,rfl,rfl,rfl,rfl,rfl,rfl,trivial⟩,hS⟩
   ·rintro e a w ⟨rfl,hF,hS⟩
    refine x_ib (n_sq ?_)
    refine q_seq (q_region (q_x (v:=(iV top_14)) hF hS (ex_move rfl) rfl rfl fun a hF=>q_x (v:=(iV (w64 (100 * top_14)))) hF hS (ex_ibin rfl rfl rfl) rfl rfl fun a hF=>q_x (v:=(iV p_percent)) hF hS (ex_move rfl) rfl rfl fun a hF=>q_x (v:=s1.v) hF hS (ex_move rfl) rfl rfl fun a hF=>?_))
    obtain ⟨t_15,ht_15,hr⟩:=bindS hr
    refine q_call (vs:=[s1.v]) hF hS Try.func83 (by kernel_rfl) rfl rfl rfl (c_spec_tSum p_amounts t_15 ht_15 _ m hS.vis s1 h1) ?_
    rintro a w _ rfl hF hS
    refine q_x (v:=(iV (w64 (p_percent * t_15)))) hF hS (ex_ibin rfl rfl rfl) rfl rfl fun a hF=>q_x (v:=(.bool (decide ((w64 (p_percent * t_15)) < (w64 (100 * top_14)))))) hF hS (ex_ibin rfl rfl rfl) rfl rfl fun a hF=>q_x (v:=(.bool (decide ((w64 (p_percent * t_15)) < (w64 (100 * top_14)))))) hF hS (ex_assign rfl) rfl rfl fun a hF=>q_x (v:=(.bool true)) hF hS (ex_assign rfl) rfl rfl fun a hF=>q_end (n_sq (q_ret ?_))
    obtain rfl:=someI hr
    exact ret_of hF hS rfl (.tmp rfl (.tmp rfl .nil)) rfl
  ·have hr:=cond_t hc4 hr
   refine q_cond_t hF rfl hc4 (q_seq (q_region (q_x (v:=(.bool false)) hF hS (ex_assign rfl) rfl rfl fun a hF=>q_x (v:=(.bool false)) hF hS (ex_assign rfl) rfl rfl fun a hF=>q_end (n_sq (q_ret (r_sq ?_))))))
   obtain rfl:=someI hr
   exact ret_of hF hS rfl (.tmp rfl (.tmp rfl .nil)) rfl

theorem c_spec_DrawIsExposedShare (p_code : List (K .u8)) (r : (List Int) × Int) (hr : spec_DrawIsExposedShare p_code = some r) (w0 : World) (m : Mem) (hv : Vis m w0) (s1 : Sl) (h1 : Rd m s1 p_code) :
  Ret Try.prog 14 [s1.v] w0 (fun v w=>∃ (q0' : Piece) (s0' : Sl),v = (.tuple #[s0'.v,(iV r.2)])∧St [] w0 w m [q0']∧OwnL m 3 q0' s0' r.1):=by
 unfold spec_DrawIsExposedShare at hr
 refine ret_start Try.func14 rfl 13 rfl rfl m hv fun a hF hS=>q_seq (q_region (q_x (v:=nilS.v) hF hS (ex_assign rfl) rfl rfl fun a hF=>q_x (v:=(iV 0)) hF hS (ex_assign rfl) rfl rfl fun a hF=>q_end (n_sq (q_seq (q_region (q_x (v:=s1.v) hF hS (ex_move rfl) rfl rfl fun a hF=>q_x (v:=(.agg #[s1.v,(iV 0),(.int .u64 0)])) hF hS (ex_build (cells:=[s1.v,(iV 0),(.int .u64 0)]) rfl (by kernel_rfl)) rfl rfl fun a hF=>q_box (cs:=[s1.v,(iV 0),(.int .u64 0)]) hF hS rfl rfl rfl fun a w b2 hF hS=>q_x (v:=(.pointer (some ⟨b2,0,none⟩))) hF hS (ex_assign rfl) rfl rfl fun a hF=>q_end (n_sq (q_seq (q_region (q_x (v:=(.pointer (some ⟨b2,0,none⟩))) hF hS (ex_move rfl) rfl rfl fun a hF=>?_))))))))))
 have hS3 : St _ _ _ _ ([[⟨b2,[s1.v,(iV 0),(.int .u64 0)],90⟩]]++[]):=hS
 have hE3:=hS3.enter
 obtain ⟨t_4,ht_4,hr⟩:=bindS hr
 refine q_do rfl fun _ hK=>wp_callX (vs:=[(.pointer (some ⟨b2,0,none⟩))]) hF Try.func78 (by kernel_rfl) rfl rfl rfl (c_spec_l1Cur_amounts (spec_l1Cur.mk p_code 0 (⟨0⟩ : K .u64)) t_4 ht_4 _ m b2 s1 h1 _ hE3) fun a w _ hR hF=>hK _ _ ?_
 obtain ⟨q5,s5,rfl,hR3,h5,hk6⟩:=hR
 have hS : St _ _ _ _ [[⟨b2,[s1.v,(iV t_4.2.at_),(.int .u64 t_4.2.seed.v)],90⟩],q5]:=hS3.leaveF hR3
 have h6 : Rd m s1 t_4.2.code:=by rw [hk6]; exact h1
 refine q_x (v:=(.pointer (some ⟨b2,0,none⟩))) hF hS (ex_move rfl) rfl rfl fun a hF=>q_do rfl fun _ hK=>wp_buildSlice' (l:=([0,10,15,50,100,101,-1] : List Int)) (cells:=[(iV 0),(iV 10),(iV 15),(iV 50),(iV 100),(iV 101),(iV (-1))]) hF hS Try.underlying28 inf3 rfl rfl (by kernel_rfl) rfl rfl rfl ⟨rfl,rfl,rfl,rfl,rfl,rfl,rfl,rfl⟩ rfl rfl fun a w q7 s7 hF hS h7 _=>hK _ _ ?_
 have hS : St _ _ _ _ [[⟨b2,[s1.v,(iV t_4.2.at_),(.int .u64 t_4.2.seed.v)],90⟩],q7,q5]:=hS.sel [1,0,2] (by decide)
 have hS8 : St _ _ _ _ ([[⟨b2,[s1.v,(iV t_4.2.at_),(.int .u64 t_4.2.seed.v)],90⟩]]++[q7,q5]):=hS
 obtain ⟨m8,hl8,hE8,hz8⟩:=hS8.lendX
 obtain ⟨t_9,ht_9,hr⟩:=bindS hr
 refine q_do rfl fun _ hK=>wp_callX (vs:=[(.pointer (some ⟨b2,0,none⟩)),s7.v]) hF Try.func74 (by kernel_rfl) rfl rfl rfl (c_spec_l1Cur_among t_4.2 ([0,10,15,50,100,101,-1] : List Int) t_9 ht_9 _ m8 b2 s1 (h6.mono hl8) s7 (h7.froz hl8 (hz8 0 _ rfl)) _ hE8) fun a w _ hR hF=>hK _ _ ?_
 obtain ⟨rfl,hR8,hk10⟩:=hR
 have hS : St _ _ _ _ [[⟨b2,[s1.v,(iV t_9.2.at_),(.int .u64 t_9.2.seed.v)],90⟩],q7,q5]:=hS8.leaveF hR8
 have h10 : Rd m s1 t_9.2.code:=by rw [hk10]; exact h6
 refine q_x (v:=s5.v) hF hS (ex_assign rfl) rfl rfl fun a hF=>q_x (v:=(iV t_9.1)) hF hS (ex_assign rfl) rfl rfl fun a hF=>q_end (n_sq (q_ret ?_))
 obtain rfl:=someI hr
 exact ret_of hF hS rfl (.tmp rfl (.tmp rfl .nil)) ⟨q5,s5,rfl,hS.sel [2] (by decide),h5⟩

theorem c_impl_IsExposedShare (p_amounts : List Int) (p_percent : Int) (r : Bool × Bool) (hr : impl_IsExposedShare p_amounts p_percent = some r) (w0 : World) (m : Mem) (hv : Vis m w0) (s1 : Sl) (h1 : Rd m s1 p_amounts) :
  Ret Try.prog 15 [s1.v,(iV p_percent)] w0 (fun v _=>v = (.tuple #[(.bool r.1),(.bool r.2)])):=by
 unfold impl_IsExposedShare at hr
 refine ret_start Try.func15 rfl 39 rfl rfl m hv fun a hF hS=>q_seq (q_region (q_x (v:=(.bool false)) hF hS (ex_assign rfl) rfl rfl fun a hF=>q_x (v:=(.bool false)) hF hS (ex_assign rfl) rfl rfl fun a hF=>q_end (n_sq (q_seq (q_region (q_x (v:=s1.v) hF hS (ex_move rfl) rfl rfl fun a hF=>?_))))))
 obtain ⟨t_2,ht_2,hr⟩:=bindS hr
 refine q_call (vs:=[s1.v]) hF hS Try.func79 (by kernel_rfl) rfl rfl rfl (c_impl_descending p_amounts t_2 ht_2 _ m hS.vis s1 h1) ?_
 rintro a w _ ⟨q4,s4,rfl,hR3,h4⟩ hF hS2
 have hS : St _ _ _ _ [q4]:=hS.joinF hR3
 refine q_x (v:=(.tuple #[s4.v,(.bool t_2.2)])) hF hS (ex_move rfl) rfl rfl fun a hF=>q_x (v:=s4.v) hF hS (ex_extract rfl rfl) rfl rfl fun a hF=>q_x (v:=(.bool t_2.2)) hF hS (ex_extract rfl rfl) rfl rfl fun a hF=>q_x (v:=s4.v) hF hS (ex_assign rfl) rfl rfl fun a hF=>q_x (v:=(.bool t_2.2)) hF hS (ex_assign rfl) rfl rfl fun a hF=>q_end (n_sq (q_seq (q_seq ?_)))
 obtain ⟨t_5,hj1,hr⟩:=bindS hr
 refine q_join (fun a w=>Fr a 39 [(1,(iV p_percent)),(6,s4.v),(22,(.bool t_5))]∧St [] w0 w m [q4]) ?_ ?_
 ·refine q_region (q_x (v:=(.bool t_2.2)) hF hS (ex_move rfl) rfl rfl fun a hF=>q_x (v:=(.bool (!t_2.2))) hF hS (ex_not rfl) rfl rfl fun a hF=>q_x (v:=(.bool (!t_2.2))) hF hS (ex_move rfl) rfl rfl fun a hF=>?_)
  rcases bcase (!t_2.2) with hc2 | hc2
  ·have hj1:=cond_f hc2 hj1
   refine q_xg (v:=(iV p_percent)) hF hS (ex_move rfl) (wanted_t hF rfl rfl rfl hc2) rfl fun a hF=>q_xg (v:=(.bool (decide (p_percent < 0)))) hF hS (ex_ibin rfl rfl rfl) (wanted_t hF rfl rfl rfl hc2) rfl fun a hF=>q_x (v:=(.bool (decide (p_percent < 0)))) hF hS (ex_pick_f rfl rfl hc2) rfl rfl fun a hF=>q_x (v:=(.bool (decide (p_percent < 0)))) hF hS (ex_move rfl) rfl rfl fun a hF=>?_
   rcases bcase (decide (p_percent < 0)) with hc3 | hc3
   ·have hj1:=cond_f hc3 hj1
    refine q_xg (v:=(iV p_percent)) hF hS (ex_move rfl) (wanted_t hF rfl rfl rfl hc3) rfl fun a hF=>q_xg (v:=(.bool (decide (100 < p_percent)))) hF hS (ex_ibin rfl rfl rfl) (wanted_t hF rfl rfl rfl hc3) rfl fun a hF=>q_x (v:=(.bool (decide (100 < p_percent)))) hF hS (ex_pick_f rfl rfl hc3) rfl rfl fun a hF=>q_end (n_jn ?_)
    obtain rfl:=someI hj1
    exact ⟨hF.sub ⟨rfl,rfl,rfl,trivial⟩,hS⟩
   ·have hj1:=cond_t hc3 hj1
    refine q_skip hF (wanted_f hF rfl rfl rfl hc3 rfl) rfl fun a hF=>q_skip hF (wanted_f hF rfl rfl rfl hc3 rfl) rfl fun a hF=>q_x (v:=(.bool true)) hF hS (ex_pick_t rfl rfl hc3) rfl rfl fun a hF=>q_end (n_jn ?_)
    obtain rfl:=someI hj1
    exact ⟨hF.sub ⟨rfl,rfl,rfl,trivial⟩,hS⟩
  ·have hj1:=cond_t hc2 hj1
   refine q_skip hF (wanted_f hF rfl rfl rfl hc2 rfl) rfl fun a hF=>q_skip hF (wanted_f hF rfl rfl rfl hc2 rfl) rfl fun a hF=>q_x (v:=(.bool true)) hF hS (ex_pick_t rfl rfl hc2) rfl rfl fun a hF=>q_x (v:=(.bool true)) hF hS (ex_move rfl) rfl rfl fun a hF=>q_skip hF (wanted_f hF rfl rfl rfl rfl rfl) rfl fun a hF=>q_skip hF (wanted_f hF rfl rfl rfl rfl rfl) rfl fun a hF=>q_x (v:=(.bool true)) hF hS (ex_pick_t rfl rfl rfl) rfl rfl fun a hF=>q_end (n_jn ?_)
   obtain rfl:=someI hj1
   exact ⟨hF.sub ⟨rfl,rfl,rfl,trivial⟩,hS⟩
 ·rintro a w ⟨hF,hS⟩
  refine n_sq ?_
  rcases bcase (t_5) with hc4 | hc4
  ·have hr:=cond_f hc4 hr
   refine q_cond_f hF rfl hc4 (q_skipc (n_sq (q_seq (q_seq (q_region (q_x (v:=s4.v) hF hS (ex_move rfl) rfl rfl fun a hF=>q_x (v:=(iV (goLen t_2.1))) hF hS (ex_len Try.underlying28 rfl h4.len) rfl rfl fun a hF=>q_x (v:=(.bool ((goLen t_2.1) == 0))) hF hS (ex_ibin rfl rfl rfl) rfl rfl fun a hF=>q_end (n_sq ?_)))))))
   rcases bcase ((goLen t_2.1) == 0) with hc5 | hc5
   ·have hr:=cond_f hc5 hr
    refine q_cond_f hF rfl hc5 (q_skipc (n_sq (q_seq (e_region ⟨[],[]⟩ mixed fun w' hw'=>?_))))
    have hS:=hS.below hw'
    refine e_p (v:=s4.v) 0 hF rfl (ex_move rfl) rfl rfl (by kernel_rfl) (by kernel_rfl) (by kernel_rfl) fun a hF=>e_p (v:=s4.v) 1 hF rfl (ex_move rfl) rfl rfl (by kernel_rfl) (by kernel_rfl) (by kernel_rfl) fun a hF=>e_p (v:=(iV (goLen t_2.1))) 2 hF rfl (ex_len Try.underlying28 rfl h4.len) rfl rfl (by kernel_rfl) (by kernel_rfl) (by kernel_rfl) fun a hF=>e_p (v:=(iV (min 2 (goLen t_2.1)))) 3 hF rfl (ex_min rfl rfl) rfl rfl (by kernel_rfl) (by kernel_rfl) (by kernel_rfl) fun a hF=>?_
    obtain ⟨m6,hm6,hS,hz6⟩:=hS.freeze
    have h6:=h4.froz hm6.le hz6
    obtain ⟨l_7,hl_7,hr⟩:=bindS hr
    have h8 : Rd m6 (subS s4 1 (min 2 (goLen t_2.1) : Int).toNat (goLen t_2.1).toNat s4.cap) l_7:=h6.sub' hl_7 1 rfl
    refine e_p (v:=(subS s4 1 (min 2 (goLen t_2.1) : Int).toNat (goLen t_2.1).toNat s4.cap).v) 4 hF rfl (ex_slice Try.underlying28 sz3 rfl rfl rfl (.inr ⟨_,rfl⟩) (.inl ⟨rfl,h6.jlen⟩) (h6.subok hl_7)) rfl rfl (by kernel_rfl) (by kernel_rfl) (by kernel_rfl) fun a hF=>e_p (v:=(iV p_percent)) 7 hF rfl (ex_move rfl) rfl rfl (by kernel_rfl) (by kernel_rfl) (by kernel_rfl) fun a hF=>e_p (v:=s4.v) 8 hF rfl (ex_move rfl) rfl rfl (by kernel_rfl) (by kernel_rfl) (by kernel_rfl) fun a hF=>?_
    obtain ⟨e_12,he_12,hr⟩:=bindS hr
    obtain ⟨vs13,at13,d13⟩:=h6.at he_12 1 rfl
    obtain rfl : vs13 = [(iV e_12)]:=d13
    refine e_p (v:=(elP s4 ((0 : Int).toNat * 1))) 9 hF rfl (ex_indexAddr Try.underlying28 sz3 rfl rfl (h6.idx he_12)) rfl rfl (by kernel_rfl) (by kernel_rfl) (by kernel_rfl) fun a hF=>e_x (v:=(iV e_12)) 10 hF hS rfl (ex_loadE1 0 Try.underlying3 rfl rfl ((at13).at) rfl rfl) rfl rfl (by kernel_rfl) (by kernel_rfl) (by kernel_rfl) (by kernel_rfl) fun a hF=>e_p (v:=(iV (w64 (p_percent * e_12)))) 11 hF rfl (ex_ibin rfl rfl rfl) rfl rfl (by kernel_rfl) (by kernel_rfl) (by kernel_rfl) fun a hF=>e_one 5 (by kernel_rfl) ?_
    obtain ⟨t_16,ht_16,hr⟩:=bindS hr
    refine e_call (vs:=[(subS s4 1 (min 2 (goLen t_2.1) : Int).toNat (goLen t_2.1).toNat s4.cap).v]) hF hS rfl Try.func80 (by kernel_rfl) rfl rfl rfl (c_impl_total l_7 t_16 ht_16 _ m6 hS.vis (subS s4 1 (min 2 (goLen t_2.1) : Int).toNat (goLen t_2.1).toNat s4.cap) h8) ?_
    rintro a w _ rfl hF hS
    refine e_p (v:=(iV (w64 (t_16 * 100)))) 6 hF rfl (ex_ibin rfl rfl rfl) rfl rfl (by kernel_rfl) (by kernel_rfl) (by kernel_rfl) fun a hF=>e_p (v:=(.bool (decide ((w64 (t_16 * 100)) < (w64 (p_percent * e_12)))))) 12 hF rfl (ex_ibin rfl rfl rfl) rfl rfl (by kernel_rfl) (by kernel_rfl) (by kernel_rfl) fun a hF=>e_p (v:=(.bool (decide ((w64 (t_16 * 100)) < (w64 (p_percent * e_12)))))) 13 hF rfl (ex_assign rfl) rfl rfl (by kernel_rfl) (by kernel_rfl) (by kernel_rfl) fun a hF=>e_p (v:=(.bool true)) 14 hF rfl (ex_assign rfl) rfl rfl (by kernel_rfl) (by kernel_rfl) (by kernel_rfl) fun a hF=>e_end (by kernel_rfl) (n_sq (q_ret ?_)) _
    obtain rfl:=someI hr
    exact ret_of hF hS rfl (.tmp rfl (.tmp rfl .nil)) rfl
   ·have hr:=cond_t hc5 hr
    refine q_cond_t hF rfl hc5 (q_seq (q_region (q_x (v:=(.bool false)) hF hS (ex_assign rfl) rfl rfl fun a hF=>q_x (v:=(.bool true)) hF hS (ex_assign rfl) rfl rfl fun a hF=>q_end (n_sq (q_ret (r_sq ?_))))))
    obtain rfl:=someI hr
    exact ret_of hF hS rfl (.tmp rfl (.tmp rfl .nil)) rfl
  ·have hr:=cond_t hc4 hr
   refine q_cond_t hF rfl hc4 (q_seq (q_region (q_x (v:=(.bool false)) hF hS (ex_assign rfl) rfl rfl fun a hF=>q_x (v:=(.bool false)) hF hS (ex_assign rfl) rfl rfl fun a hF=>q_end (n_sq (q_ret (r_sq ?_))))))
   obtain rfl:=someI hr
   exact ret_of hF hS rfl (.tmp rfl (.tmp rfl .nil)) rfl

theorem c_spec_IsExposedShare (p_amounts : List Int) (p_percent : Int) (r : Bool × Bool) (hr : spec_IsExposedShare p_amounts p_percent = some r) (w0 : World) (m : Mem) (hv : Vis m w0) (s1 : Sl) (h1 : Rd m s1 p_amounts) :
  Ret Try.prog 16 [s1.v,(iV p_percent)] w0 (fun v _=>v = (.tuple #[(.bool r.1),(.bool r.2)])):=by
 unfold spec_IsExposedShare at hr
 refine ret_start Try.func16 rfl 44 rfl rfl m hv fun a hF hS=>q_seq (q_region (q_x (v:=(.bool false)) hF hS (ex_assign rfl) rfl rfl fun a hF=>q_x (v:=(.bool false)) hF hS (ex_assign rfl) rfl rfl fun a hF=>q_end (n_sq (q_seq (q_seq ?_)))))
 obtain ⟨t_4,hj1,hr⟩:=bindS hr
 refine q_join (fun a w=>Fr a 44 [(0,s1.v),(1,(iV p_percent)),(17,(.bool t_4))]∧St [] w0 w m []) ?_ ?_
 ·refine q_region (q_x (v:=s1.v) hF hS (ex_move rfl) rfl rfl fun a hF=>?_)
  obtain ⟨t_2,ht_2,hj1⟩:=bindS hj1
  refine q_call (vs:=[s1.v]) hF hS Try.func81 (by kernel_rfl) rfl rfl rfl (c_spec_qAmounts p_amounts t_2 ht_2 _ m hS.vis s1 h1) ?_
  rintro a w _ rfl hF hS
  refine q_x (v:=(.bool (!t_2))) hF hS (ex_not rfl) rfl rfl fun a hF=>q_x (v:=(.bool (!t_2))) hF hS (ex_move rfl) rfl rfl fun a hF=>?_
  rcases bcase (!t_2) with hc2 | hc2
  ·have hj1:=cond_f hc2 hj1
   refine q_xg (v:=(iV p_percent)) hF hS (ex_move rfl) (wanted_t hF rfl rfl rfl hc2) rfl fun a hF=>?_
   obtain ⟨t_3,ht_3,hj1⟩:=bindS hj1
   refine q_callg (vs:=[(iV p_percent),(iV 0),(iV 100)]) hF hS (wanted_t hF rfl rfl rfl hc2) Try.func77 (by kernel_rfl) rfl rfl rfl (c_spec_l1In p_percent 0 100 t_3 ht_3 _ m hS.vis) ?_
   rintro a w _ rfl hF hS
   refine q_xg (v:=(.bool (!t_3))) hF hS (ex_not rfl) (wanted_t hF rfl rfl rfl hc2) rfl fun a hF=>q_x (v:=(.bool (!t_3))) hF hS (ex_pick_f rfl rfl hc2) rfl rfl fun a hF=>q_end (n_jn ?_)
   obtain rfl:=someI hj1
   exact ⟨hF.sub ⟨rfl,rfl,rfl,trivial⟩,hS⟩
  ·have hj1:=cond_t hc2 hj1
   refine q_skip hF (wanted_f hF rfl rfl rfl hc2 rfl) rfl fun a hF=>q_skip hF (wanted_f hF rfl rfl rfl hc2 rfl) rfl fun a hF=>q_skip hF (wanted_f hF rfl rfl rfl hc2 rfl) rfl fun a hF=>q_x (v:=(.bool true)) hF hS (ex_pick_t rfl rfl hc2) rfl rfl fun a hF=>q_end (n_jn ?_)
   obtain rfl:=someI hj1
   exact ⟨hF.sub ⟨rfl,rfl,rfl,trivial⟩,hS⟩
 ·rintro a w ⟨hF,hS⟩
  refine n_sq ?_
  rcases bcase (t_4) with hc3 | hc3
  ·have hr:=cond_f hc3 hr
   refine q_cond_f hF rfl hc3 (q_skipc (n_sq (q_seq (q_region (q_x (v:=s1.v) hF hS (ex_move rfl) rfl rfl fun a hF=>?_)))))
   obtain ⟨t_5,ht_5,hr⟩:=bindS hr
   refine q_call (vs:=[s1.v]) hF hS Try.func82 (by kernel_rfl) rfl rfl rfl (c_spec_qFalling p_amounts t_5 ht_5 _ m hS.vis s1 h1) ?_
   rintro a w _ ⟨q7,s7,rfl,hR6,h7⟩ hF hS2
   have hS : St _ _ _ _ [q7]:=hS.joinF hR6
   refine q_x (v:=s7.v) hF hS (ex_assign rfl) rfl rfl fun a hF=>q_end (n_sq (q_seq (q_seq (q_region (q_x (v:=s7.v) hF hS (ex_move rfl) rfl rfl fun a hF=>q_x (v:=(iV (goLen t_5))) hF hS (ex_len Try.underlying28 rfl h7.len) rfl rfl fun a hF=>q_x (v:=(.bool ((goLen t_5) == 0))) hF hS (ex_ibin rfl rfl rfl) rfl rfl fun a hF=>q_end (n_sq ?_))))))
   rcases bcase ((goLen t_5) == 0) with hc4 | hc4
   ·have hr:=cond_f hc4 hr
    refine q_cond_f hF rfl hc4 (q_skipc (n_sq (q_seq (q_region (q_x (v:=(iV 0)) hF hS (ex_assign rfl) rfl rfl fun a hF=>q_end (n_sq (q_seq (q_seq (q_region (q_x (v:=s7.v) hF hS (ex_move rfl) rfl rfl fun a hF=>q_x (v:=(iV (goLen t_5))) hF hS (ex_len Try.underlying28 rfl h7.len) rfl rfl fun a hF=>q_x (v:=(iV 0)) hF hS (ex_move rfl) rfl rfl fun a hF=>q_end (n_sq (q_block ?_))))))))))))
    obtain ⟨rest_13,hl5,hr⟩:=bindS hr
    refine q_loop (fun (s : Int × Int) a w=>∃ rest_8,∃ t_9,s = (rest_8,t_9)∧Fr a 44 [(1,(iV p_percent)),(6,s7.v),(7,(iV rest_8)),(23,s7.v),(24,(iV (goLen t_5))),(25,(iV t_9))]∧St [] w0 w m [q7]) (fun (rest_13 : Int) e a w=>e = .exit 0∧Fr a 44 [(1,(iV p_percent)),(6,s7.v),(7,(iV rest_13))]∧St [] w0 w m [q7]) hl5 ⟨_,_,rfl,hF.sub ⟨rfl,rfl,rfl,rfl,rfl,rfl,trivial⟩,hS⟩ ?_ ?_
    ·clear hF hS
     rintro s a w st ⟨rest_8,t_9,rfl,hF,hS⟩ hb5
     unfold spec_IsExposedShare_l1 at hb5
     refine q_seq (q_region (q_x (v:=(.bool (decide (t_9 < (goLen t_5))))) hF hS (ex_ibin rfl rfl rfl) rfl rfl fun a hF=>q_end (n_sq (q_seq ?_))))
     rcases bcase (decide (t_9 < (goLen t_5))) with hc6 | hc6
     ·have hb5:=cond_f hc6 hb5
      refine q_cond_f hF rfl hc6 (q_exit (x_sq ?_))
      obtain rfl:=someI hb5
      exact ⟨nofun,.inl ⟨rfl,hF.sub ⟨rfl,rfl,rfl,trivial⟩,hS⟩⟩
     ·have hb5:=cond_t hc6 hb5
      refine q_cond_t hF rfl hc6 (q_skipc (n_sq (q_seq (q_block (q_seq (q_region (q_x (v:=(iV t_9)) hF hS (ex_move rfl) rfl rfl fun a hF=>?_)))))))
      obtain ⟨e_10,he_10,hb5⟩:=bindS hb5
      obtain ⟨vs11,at11,d11⟩:=h7.at he_10 1 rfl
      obtain rfl : vs11 = [(iV e_10)]:=d11
      refine q_x (v:=(elP s7 (t_9.toNat * 1))) hF hS (ex_indexAddr Try.underlying28 sz3 rfl rfl (h7.idx he_10)) rfl rfl fun a hF=>q_x (v:=(iV e_10)) hF hS (ex_loadE1 0 Try.underlying3 rfl rfl (at11.at 0 rfl) rfl rfl) rfl rfl fun a hF=>q_x (v:=(iV t_9)) hF hS (ex_assign rfl) rfl rfl fun a hF=>q_x (v:=(iV e_10)) hF hS (ex_assign rfl) rfl rfl fun a hF=>q_end (n_sq (q_seq (q_region (q_x (v:=(iV t_9)) hF hS (ex_move rfl) rfl rfl fun a hF=>q_x (v:=(.bool (decide (1 < t_9)))) hF hS (ex_ibin rfl rfl rfl) rfl rfl fun a hF=>q_end (n_sq ?_)))))
      obtain ⟨rest_12,hj7,hb5⟩:=bindS hb5
      refine q_join (fun a w=>Fr a 44 [(1,(iV p_percent)),(6,s7.v),(7,(iV rest_12)),(23,s7.v),(24,(iV (goLen t_5))),(25,(iV t_9))]∧St [] w0 w m [q7]) ?_ ?_
      ·rcases bcase (decide (1 < t_9)) with hc8 | hc8
       ·have hj7:=cond_f hc8 hj7
        refine q_cond_f hF rfl hc8 (q_skipc (n_jn ?_))
        obtain rfl:=someI hj7
        exact ⟨hF.sub ⟨rfl,rfl,rfl,rfl,rfl,rfl,trivial⟩,hS⟩
       ·have hj7:=cond_t hc8 hj7
        refine q_cond_t hF rfl hc8 (q_region (q_x (v:=(iV rest_8)) hF hS (ex_move rfl) rfl rfl fun a hF=>q_x (v:=(iV e_10)) hF hS (ex_move rfl) rfl rfl fun a hF=>q_x (v:=(iV (w64 (rest_8 + e_10)))) hF hS (ex_ibin rfl rfl rfl) rfl rfl fun a hF=>q_x (v:=(iV (w64 (rest_8 + e_10)))) hF hS (ex_assign rfl) rfl rfl fun a hF=>q_end (n_jn ?_)))
        obtain rfl:=someI hj7
        exact ⟨hF.sub ⟨rfl,rfl,rfl,rfl,rfl,rfl,trivial⟩,hS⟩
      ·rintro a w ⟨hF,hS⟩
       refine n_ib (n_sq ?_)
       refine q_region (q_x (v:=(iV (w64 (t_9 + 1)))) hF hS (ex_ibin rfl rfl rfl) rfl rfl fun a hF=>q_x (v:=(iV (w64 (t_9 + 1)))) hF hS (ex_move rfl) rfl rfl fun a hF=>q_end ?_)
       obtain rfl:=someI hb5
       exact ⟨rfl,_,_,rfl,hF.sub ⟨rfl,rfl,rfl,rfl,rfl,rfl,trivial⟩,hS⟩
    ·rintro e a w ⟨rfl,hF,hS⟩
     refine x_ib (n_sq ?_)
     refine q_seq (q_region (q_x (v:=(iV rest_13)) hF hS (ex_move rfl) rfl rfl fun a hF=>q_x (v:=(iV (w64 (100 * rest_13)))) hF hS (ex_ibin rfl rfl rfl) rfl rfl fun a hF=>q_x (v:=(iV p_percent)) hF hS (ex_move rfl) rfl rfl fun a hF=>q_x (v:=s7.v) hF hS (ex_move rfl) rfl rfl fun a hF=>?_))
     obtain ⟨e_14,he_14,hr⟩:=bindS hr
     obtain ⟨vs15,at15,d15⟩:=h7.at he_14 1 rfl
     obtain rfl : vs15 = [(iV e_14)]:=d15
     refine q_x (v:=(elP s7 ((0 : Int).toNat * 1))) hF hS (ex_indexAddr Try.underlying28 sz3 rfl rfl (h7.idx he_14)) rfl rfl fun a hF=>q_x (v:=(iV e_14)) hF hS (ex_loadE1 0 Try.underlying3 rfl rfl (at15.at 0 rfl) rfl rfl) rfl rfl fun a hF=>q_x (v:=(iV (w64 (p_percent * e_14)))) hF hS (ex_ibin rfl rfl rfl) rfl rfl fun a hF=>q_x (v:=(.bool (decide ((w64 (100 * rest_13)) < (w64 (p_percent * e_14)))))) hF hS (ex_ibin rfl rfl rfl) rfl rfl fun a hF=>q_x (v:=(.bool (decide ((w64 (100 * rest_13)) < (w64 (p_percent * e_14)))))) hF hS (ex_assign rfl) rfl rfl fun a hF=>q_x (v:=(.bool true)) hF hS (ex_assign rfl) rfl rfl fun a hF=>q_end (n_sq (q_ret ?_))
     obtain rfl:=someI hr
     exact ret_of hF hS rfl (.tmp rfl (.tmp rfl .nil)) rfl
   ·have hr:=cond_t hc4 hr
    refine q_cond_t hF rfl hc4 (q_seq (q_region (q_x (v:=(.bool false)) hF hS (ex_assign rfl) rfl rfl fun a hF=>q_x (v:=(.bool true)) hF hS (ex_assign rfl) rfl rfl fun a hF=>q_end (n_sq (q_ret (r_sq ?_))))))
    obtain rfl:=someI hr
    exact ret_of hF hS rfl (.tmp rfl (.tmp rfl .nil)) rfl
  ·have hr:=cond_t hc3 hr
   refine q_cond_t hF rfl hc3 (q_seq (q_region (q_x (v:=(.bool false)) hF hS (ex_assign rfl) rfl rfl fun a hF=>q_x (v:=(.bool false)) hF hS (ex_assign rfl) rfl rfl fun a hF=>q_end (n_sq (q_ret (r_sq ?_))))))
   obtain rfl:=someI hr
   exact ret_of hF hS rfl (.tmp rfl (.tmp rfl .nil)) rfl

theorem c_spec_l1Cur_one (p_c : spec_l1Cur) (p_n : Int) (r : Bool × spec_l1Cur) (hr : spec_l1Cur_one p_c p_n = some r) (w0 : World) (m : Mem) (b_p_c : Nat) (s1 : Sl) (h1 : Rd m s1 p_c.code) (X : List Nat) (hS : St X w0 w0 m [[⟨b_p_c,[s1.v,(iV p_c.at_),(.int .u64 p_c.seed.v)],90⟩]]) :
  RetX Try.prog 85 [(.pointer (some ⟨b_p_c,0,none⟩)),(iV p_n)] w0 (fun v w=>v = (.bool r.1)∧St X w0 w m [[⟨b_p_c,[s1.v,(iV r.2.at_),(.int .u64 r.2.seed.v)],90⟩]]∧r.2.code = p_c.code):=by
 unfold spec_l1Cur_one at hr
 refine ret_startX Try.func85 rfl 9 rfl rfl fun a hF=>q_seq (q_region (q_x (v:=(.bool false)) hF hS (ex_assign rfl) rfl rfl fun a hF=>q_end (n_sq (q_seq (q_region (q_x (v:=(.pointer (some ⟨b_p_c,0,none⟩))) hF hS (ex_move rfl) rfl rfl fun a hF=>q_x (v:=(iV p_n)) hF hS (ex_move rfl) rfl rfl fun a hF=>?_))))))
 have hS2 : St _ _ _ _ ([[⟨b_p_c,[s1.v,(iV p_c.at_),(.int .u64 p_c.seed.v)],90⟩]]++[]):=hS
 have hE2:=hS2.enter
 obtain ⟨t_3,ht_3,hr⟩:=bindS hr
 refine q_do rfl fun _ hK=>wp_callX (vs:=[(.pointer (some ⟨b_p_c,0,none⟩)),(iV p_n)]) hF Try.func106 (by kernel_rfl) rfl rfl rfl (c_spec_l1Cur_pick p_c p_n t_3 ht_3 _ m b_p_c s1 h1 _ hE2) fun a w _ hR hF=>hK _ _ ?_
 obtain ⟨rfl,hR2,hk4⟩:=hR
 have hS : St _ _ _ _ [[⟨b_p_c,[s1.v,(iV t_3.2.at_),(.int .u64 t_3.2.seed.v)],90⟩]]:=hS2.leaveF hR2
 have h4 : Rd m s1 t_3.2.code:=by rw [hk4]; exact h1
 refine q_x (v:=(.bool (t_3.1 == 0))) hF hS (ex_ibin rfl rfl rfl) rfl rfl fun a hF=>q_x (v:=(.bool (t_3.1 == 0))) hF hS (ex_assign rfl) rfl rfl fun a hF=>q_end (n_sq (q_ret ?_))
 obtain rfl:=someI hr
 exact ret_ofX hF hS rfl (.tmp rfl .nil) ⟨rfl,hS.sel [0] (by decide),hk4⟩

theorem c_spec_l1Cur_pattern (p_c : spec_l1Cur) (p_x : List (List Int)) (r : (List (List Int)) × spec_l1Cur) (hr : spec_l1Cur_pattern p_c p_x = some r) (w0 : World) (m : Mem) (b_p_c : Nat) (s1 : Sl) (h1 : Rd m s1 p_c.code) (s2 : Sl) (h2 : Rd m s2 p_x) (X : List Nat) (hS : St X w0 w0 m [[⟨b_p_c,[s1.v,(iV p_c.at_),(.int .u64 p_c.seed.v)],90⟩]]) :
  RetX Try.prog 86 [(.pointer (some ⟨b_p_c,0,none⟩)),s2.v] w0 (fun v w=>∃ (q0' : Piece) (s0' : Sl),v = s0'.v∧St X w0 w m [[⟨b_p_c,[s1.v,(iV r.2.at_),(.int .u64 r.2.seed.v)],90⟩],q0']∧OwnD m 28 3 q0' s0' r.1∧r.2.code = p_c.code):=by
 unfold spec_l1Cur_pattern at hr
 refine ret_startX Try.func86 rfl 65 rfl rfl fun a hF=>q_seq (q_region (q_x (v:=nilS.v) hF hS (ex_assign rfl) rfl rfl fun a hF=>q_end (n_sq (q_seq (q_region (q_x (v:=nilS.v) hF hS (ex_assign rfl) rfl rfl fun a hF=>q_end (n_sq (q_seq (q_seq (q_region (q_x (v:=s2.v) hF hS (ex_move rfl) rfl rfl fun a hF=>q_x (v:=(iV (goLen p_x))) hF hS (ex_len Try.underlying23 rfl h2.len) rfl rfl fun a hF=>q_x (v:=(iV 0)) hF hS (ex_move rfl) rfl rfl fun a hF=>q_end (n_sq (q_block ?_)))))))))))))
 obtain ⟨o1,hl1,hr⟩:=bindS hr
 refine q_loop (fun (s : (List (List Int)) × Int × spec_l1Cur) a w=>∃ (q4 : Piece),∃ (s4 : Sl),∃ out_3,∃ t_5,∃ p_c_6,s = (out_3,t_5,p_c_6)∧Fr a 65 [(0,(.pointer (some ⟨b_p_c,0,none⟩))),(5,s4.v),(10,s2.v),(11,(iV (goLen p_x))),(12,(iV t_5))]∧St X w0 w m [q4,[⟨b_p_c,[s1.v,(iV p_c_6.at_),(.int .u64 p_c_6.seed.v)],90⟩]]∧OwnD m 28 3 q4 s4 out_3∧Rd m s1 p_c_6.code∧p_c_6.code = p_c.code) (fun (o : (List (List Int)) × spec_l1Cur) e a w=>∃ (q34 : Piece),∃ (s34 : Sl),∃ out_33,∃ p_c_35,o = (out_33,p_c_35)∧e = .exit 0∧Fr a 65 [(0,(.pointer (some ⟨b_p_c,0,none⟩))),(5,s34.v)]∧St X w0 w m [q34,[⟨b_p_c,[s1.v,(iV p_c_35.at_),(.int .u64 p_c_35.seed.v)],90⟩]]∧OwnD m 28 3 q34 s34 out_33∧Rd m s1 p_c_35.code∧p_c_35.code = p_c.code) hl1 ⟨[],nilS,_,_,_,rfl,hF.sub ⟨rfl,rfl,rfl,rfl,rfl,trivial⟩,hS.sel [1,0] (by decide),(OwnD.nil (β:=Int) m 28 3),h1,rfl⟩ ?_ ?_
 ·clear hF hS
  rintro s a w st ⟨q4,s4,out_3,t_5,p_c_6,rfl,hF,hS,h4,h7,h7k⟩ hb1
  unfold spec_l1Cur_pattern_l1 at hb1
  refine q_seq (q_region (q_x (v:=(.bool (decide (t_5 < (goLen p_x))))) hF hS (ex_ibin rfl rfl rfl) rfl rfl fun a hF=>q_end (n_sq (q_seq ?_))))
  rcases bcase (decide (t_5 < (goLen p_x))) with hc2 | hc2
  ·have hb1:=cond_f hc2 hb1
   refine q_cond_f hF rfl hc2 (q_exit (x_sq ?_))
   obtain rfl:=someI hb1
   exact ⟨nofun,.inl ⟨q4,s4,_,_,rfl,rfl,hF.sub ⟨rfl,rfl,trivial⟩,hS,h4,h7,h7k⟩⟩
  ·have hb1:=cond_t hc2 hb1
   refine q_cond_t hF rfl hc2 (q_skipc (n_sq (q_seq (q_block (q_seq (q_region ?_))))))
   obtain ⟨e_8,he_8,hb1⟩:=bindS hb1
   obtain ⟨vs9,at9,d9⟩:=h2.at he_8 1 rfl
   obtain ⟨s10,rfl,h10⟩ : ∃ s10 : Sl,vs9 = [s10.v]∧Rd m s10 e_8:=d9
   refine q_x (v:=(elP s2 (t_5.toNat * 1))) hF hS (ex_indexAddr Try.underlying23 sz28 rfl rfl (h2.idx he_8)) rfl rfl fun a hF=>q_x (v:=s10.v) hF hS (ex_loadE1 0 Try.underlying28 rfl rfl ((at9).at) rfl rfl) rfl rfl fun a hF=>q_x (v:=s10.v) hF hS (ex_assign rfl) rfl rfl fun a hF=>q_end (n_sq (q_seq (q_region (q_x (v:=s10.v) hF hS (ex_move rfl) rfl rfl fun a hF=>q_x (v:=(iV (goLen e_8))) hF hS (ex_len Try.underlying28 rfl h10.len) rfl rfl fun a hF=>?_))))
   obtain ⟨l_11,hl_11,hb1⟩:=bindS hb1
   refine q_do rfl fun _ hK=>wp_make (z:=(0 : Int)) hF hS Try.underlying28 inf3 rfl rfl rfl rfl rfl (by decide) hl_11 rfl fun a w q12 s12 hF hS h12 _=>hK _ _ (q_x (v:=s12.v) hF hS (ex_assign rfl) rfl rfl fun a hF=>q_end (n_sq (q_seq (q_seq (q_region (q_x (v:=s12.v) hF hS (ex_move rfl) rfl rfl fun a hF=>q_x (v:=(iV (goLen l_11))) hF hS (ex_len Try.underlying28 rfl h12.len) rfl rfl fun a hF=>q_x (v:=(iV 0)) hF hS (ex_move rfl) rfl rfl fun a hF=>q_end (n_sq (q_block ?_))))))))
   obtain ⟨o3,hl3,hb1⟩:=bindS hb1
   refine q_loop (fun (s : (List Int) × Int × spec_l1Cur) a w=>∃ (q14 : Piece),∃ p_13,∃ t_15,∃ p_c_16,s = (p_13,t_15,p_c_16)∧Fr a 65 [(0,(.pointer (some ⟨b_p_c,0,none⟩))),(5,s4.v),(8,s12.v),(10,s2.v),(11,(iV (goLen p_x))),(12,(iV t_5)),(20,(iV (goLen l_11))),(21,(iV t_15))]∧St X w0 w m [q14,q4,[⟨b_p_c,[s1.v,(iV p_c_16.at_),(.int .u64 p_c_16.seed.v)],90⟩]]∧OwnL m 3 q14 s12 p_13∧Rd m s1 p_c_16.code∧p_c_16.code = p_c.code) (fun (o : (List Int) × spec_l1Cur) e a w=>∃ (q27 : Piece),∃ p_26,∃ p_c_28,o = (p_26,p_c_28)∧e = .exit 2∧Fr a 65 [(0,(.pointer (some ⟨b_p_c,0,none⟩))),(5,s4.v),(8,s12.v),(10,s2.v),(11,(iV (goLen p_x))),(12,(iV t_5))]∧St X w0 w m [q4,q27,[⟨b_p_c,[s1.v,(iV p_c_28.at_),(.int .u64 p_c_28.seed.v)],90⟩]]∧OwnL m 3 q27 s12 p_26∧Rd m s1 p_c_28.code∧p_c_28.code = p_c.code) hl3 ⟨q12,_,_,_,rfl,hF.sub ⟨rfl,rfl,rfl,rfl,rfl,rfl,rfl,rfl,trivial⟩,hS,h12,h7,h7k⟩ ?_ ?_
   ·clear hF hS
    rintro s a w st ⟨q14,p_13,t_15,p_c_16,rfl,hF,hS,h14,h17,h17k⟩ hb3
    unfold spec_l1Cur_pattern_l2 at hb3
    refine q_seq (q_region (q_x (v:=(.bool (decide (t_15 < (goLen l_11))))) hF hS (ex_ibin rfl rfl rfl) rfl rfl fun a hF=>q_end (n_sq (q_seq ?_))))
    rcases bcase (decide (t_15 < (goLen l_11))) with hc4 | hc4
    ·have hb3:=cond_f hc4 hb3
     refine q_cond_f hF rfl hc4 (q_exit (x_sq ?_))
     obtain rfl:=someI hb3
     exact ⟨nofun,.inl ⟨q14,_,_,rfl,rfl,hF.sub ⟨rfl,rfl,rfl,rfl,rfl,rfl,trivial⟩,hS.sel [1,0,2] (by decide),h14,h17,h17k⟩⟩
    ·have hb3:=cond_t hc4 hb3
     refine q_cond_t hF rfl hc4 (q_skipc (n_sq (q_seq (q_block (q_seq (q_region (q_x (v:=(iV t_15)) hF hS (ex_move rfl) rfl rfl fun a hF=>q_x (v:=(iV t_15)) hF hS (ex_assign rfl) rfl rfl fun a hF=>q_end (n_sq (q_seq (q_region (q_x (v:=(.pointer (some ⟨b_p_c,0,none⟩))) hF hS (ex_move rfl) rfl rfl fun a hF=>?_)))))))))))
     have hS : St _ _ _ _ [[⟨b_p_c,[s1.v,(iV p_c_16.at_),(.int .u64 p_c_16.seed.v)],90⟩],q14,q4]:=hS.sel [2,0,1] (by decide)
     have hS18 : St _ _ _ _ ([[⟨b_p_c,[s1.v,(iV p_c_16.at_),(.int .u64 p_c_16.seed.v)],90⟩]]++[q14,q4]):=hS
     have hE18:=hS18.enter
     obtain ⟨t_19,ht_19,hb3⟩:=bindS hb3
     refine q_do rfl fun _ hK=>wp_callX (vs:=[(.pointer (some ⟨b_p_c,0,none⟩)),(iV 2)]) hF Try.func85 (by kernel_rfl) rfl rfl rfl (c_spec_l1Cur_one p_c_16 2 t_19 ht_19 _ m b_p_c s1 h17 _ hE18) fun a w _ hR hF=>hK _ _ ?_
     obtain ⟨rfl,hR18,hk20⟩:=hR
     have hS : St _ _ _ _ [[⟨b_p_c,[s1.v,(iV t_19.2.at_),(.int .u64 t_19.2.seed.v)],90⟩],q14,q4]:=hS18.leaveF hR18
     have h20 : Rd m s1 t_19.2.code:=by rw [hk20]; exact h17
     refine q_end (n_sq ?_)
     obtain ⟨p_24,hj5,hb3⟩:=bindS hb3
     refine q_join (fun a w=>∃ (q25 : Piece),Fr a 65 [(0,(.pointer (some ⟨b_p_c,0,none⟩))),(5,s4.v),(8,s12.v),(10,s2.v),(11,(iV (goLen p_x))),(12,(iV t_5)),(20,(iV (goLen l_11))),(21,(iV t_15))]∧St X w0 w m [q4,q25,[⟨b_p_c,[s1.v,(iV t_19.2.at_),(.int .u64 t_19.2.seed.v)],90⟩]]∧OwnL m 3 q25 s12 p_24) ?_ ?_
     ·rcases bcase (t_19.1) with hc6 | hc6
      ·have hj5:=cond_f hc6 hj5
       refine q_cond_f hF rfl hc6 (q_skipc (n_jn ?_))
       obtain rfl:=someI hj5
       exact ⟨q14,hF.sub ⟨rfl,rfl,rfl,rfl,rfl,rfl,rfl,rfl,trivial⟩,hS.sel [2,1,0] (by decide),h14⟩
      ·have hj5:=cond_t hc6 hj5
       refine q_cond_t hF rfl hc6 (q_region (q_x (v:=s12.v) hF hS (ex_move rfl) rfl rfl fun a hF=>q_x (v:=(iV t_15)) hF hS (ex_move rfl) rfl rfl fun a hF=>?_))
       obtain ⟨e_21,he_21,hj5⟩:=bindS hj5
       obtain ⟨vs22,at22,d22⟩:=h14.at he_21 1 rfl
       obtain rfl : vs22 = [(iV e_21)]:=d22
       refine q_x (v:=(elP s12 (t_15.toNat * 1))) hF hS (ex_indexAddr Try.underlying28 sz3 rfl rfl (h14.idx he_21)) rfl rfl fun a hF=>?_
       have hS : St _ _ _ _ [q14,[⟨b_p_c,[s1.v,(iV t_19.2.at_),(.int .u64 t_19.2.seed.v)],90⟩],q4]:=hS.sel [1,0,2] (by decide)
       refine q_do rfl fun _ hK=>wp_storeE (e':=1) (us:=[(iV 1)]) (vs:=[(iV e_21)]) 0 hF hS h14 sz3 rfl rfl rfl rfl rfl rfl rfl he_21 at22 rfl rfl rfl fun w q23 hS h23=>hK _ _ (q_end (n_jn ?_))
       obtain rfl:=someI hj5
       exact ⟨q23,hF.sub ⟨rfl,rfl,rfl,rfl,rfl,rfl,rfl,rfl,trivial⟩,hS.sel [2,0,1] (by decide),h23⟩
     ·rintro a w ⟨q25,hF,hS,h25⟩
      refine n_ib (n_sq ?_)
      refine q_region (q_x (v:=(iV (w64 (t_15 + 1)))) hF hS (ex_ibin rfl rfl rfl) rfl rfl fun a hF=>q_x (v:=(iV (w64 (t_15 + 1)))) hF hS (ex_move rfl) rfl rfl fun a hF=>q_end ?_)
      obtain rfl:=someI hb3
      exact ⟨rfl,q25,_,_,_,rfl,hF.sub ⟨rfl,rfl,rfl,rfl,rfl,rfl,rfl,rfl,trivial⟩,hS.sel [1,0,2] (by decide),h25,h20,(hk20.trans h17k)⟩
   ·rintro e a w ⟨q27,p_26,p_c_28,rfl,rfl,hF,hS,h27,h29,h29k⟩
    refine x_ib (n_sq ?_)
    refine q_region (q_x (v:=s4.v) hF hS (ex_move rfl) rfl rfl fun a hF=>q_x (v:=s12.v) hF hS (ex_move rfl) rfl rfl fun a hF=>?_)
    have hS : St _ _ _ _ [q27,q4,[⟨b_p_c,[s1.v,(iV p_c_28.at_),(.int .u64 p_c_28.seed.v)],90⟩]]:=hS.sel [1,0,2] (by decide)
    refine q_do rfl fun _ hK=>wp_build1D hF hS h27 Try.underlying23 inf28 rfl rfl rfl fun a w q30 s30 hF hS h30 _=>hK _ _ ?_
    have hS : St _ _ _ _ [q4,q30,[⟨b_p_c,[s1.v,(iV p_c_28.at_),(.int .u64 p_c_28.seed.v)],90⟩]]:=hS.sel [1,0,2] (by decide)
    obtain ⟨l_31,hl_31,hb1⟩:=bindS hb1
    refine q_do rfl fun _ hK=>wp_appendD hF hS h4 h30 Try.underlying23 inf28 rfl rfl rfl (by decide) hl_31 rfl fun a w q32 s32 hF hS h32=>hK _ _ (q_x (v:=s32.v) hF hS (ex_assign rfl) rfl rfl fun a hF=>q_end (n_ib (n_sq (q_region (q_x (v:=(iV (w64 (t_5 + 1)))) hF hS (ex_ibin rfl rfl rfl) rfl rfl fun a hF=>q_x (v:=(iV (w64 (t_5 + 1)))) hF hS (ex_move rfl) rfl rfl fun a hF=>q_end ?_)))))
    obtain rfl:=someI hb1
    exact ⟨rfl,q32,s32,_,_,_,rfl,hF.sub ⟨rfl,rfl,rfl,rfl,rfl,trivial⟩,hS,h32,h29,h29k⟩
 ·rintro e a w ⟨q34,s34,out_33,p_c_35,rfl,rfl,hF,hS,h34,h36,h36k⟩
  refine x_ib (n_sq ?_)
  refine q_seq (q_block (q_seq ?_))
  obtain ⟨j7,hj7,hr⟩:=bindS hr
  refine q_join (fun a w=>∃ t_42,∃ p_c_43,j7 = (t_42,p_c_43)∧Fr a 65 [(0,(.pointer (some ⟨b_p_c,0,none⟩))),(5,s34.v),(35,(.bool t_42))]∧St X w0 w m [q34,[⟨b_p_c,[s1.v,(iV p_c_43.at_),(.int .u64 p_c_43.seed.v)],90⟩]]∧Rd m s1 p_c_43.code∧p_c_43.code = p_c.code) ?_ ?_
  ·refine q_region (q_x (v:=s34.v) hF hS (ex_move rfl) rfl rfl fun a hF=>q_x (v:=(iV (goLen out_33))) hF hS (ex_len Try.underlying23 rfl h34.len) rfl rfl fun a hF=>q_x (v:=(.bool (decide (0 < (goLen out_33))))) hF hS (ex_ibin rfl rfl rfl) rfl rfl fun a hF=>q_x (v:=(.bool (decide (0 < (goLen out_33))))) hF hS (ex_move rfl) rfl rfl fun a hF=>?_)
   rcases bcase (decide (0 < (goLen out_33))) with hc8 | hc8
   ·have hj7:=cond_f hc8 hj7
    refine q_skip hF (wanted_f hF rfl rfl rfl hc8 rfl) rfl fun a hF=>q_skip hF (wanted_f hF rfl rfl rfl hc8 rfl) rfl fun a hF=>q_skip hF (wanted_f hF rfl rfl rfl hc8 rfl) rfl fun a hF=>q_skip hF (wanted_f hF rfl rfl rfl hc8 rfl) rfl fun a hF=>q_skip hF (wanted_f hF rfl rfl rfl hc8 rfl) rfl fun a hF=>q_x (v:=(.bool false)) hF hS (ex_pick_f rfl rfl hc8) rfl rfl fun a hF=>q_x (v:=(.bool false)) hF hS (ex_move rfl) rfl rfl fun a hF=>q_skip hF (wanted_f hF rfl rfl rfl rfl rfl) rfl fun a hF=>q_skip hF (wanted_f hF rfl rfl rfl rfl rfl) rfl fun a hF=>q_x (v:=(.bool false)) hF hS (ex_pick_f rfl rfl rfl) rfl rfl fun a hF=>q_x (v:=(.bool false)) hF hS (ex_assign rfl) rfl rfl fun a hF=>q_end (n_jn ?_)
    obtain rfl:=someI hj7
    exact ⟨_,_,rfl,hF.sub ⟨rfl,rfl,rfl,trivial⟩,hS,h36,h36k⟩
   ·have hj7:=cond_t hc8 hj7
    refine q_xg (v:=s34.v) hF hS (ex_move rfl) (wanted_t hF rfl rfl rfl hc8) rfl fun a hF=>?_
    obtain ⟨e_37,he_37,hj7⟩:=bindS hj7
    obtain ⟨s38,hV38⟩:=h34.view he_37
    refine q_xg (v:=(elP s34 ((0 : Int).toNat * 1))) hF hS (ex_indexAddr Try.underlying23 sz28 rfl rfl (h34.idx he_37)) (wanted_t hF rfl rfl rfl hc8) rfl fun a hF=>q_xg (v:=s38.v) hF hS (ex_loadE1 0 Try.underlying28 rfl rfl ((hV38.atH he_37).at 0 rfl) rfl rfl) (wanted_t hF rfl rfl rfl hc8) rfl fun a hF=>q_xg (v:=(iV (goLen e_37))) hF hS (ex_len Try.underlying28 rfl (hV38.len he_37)) (wanted_t hF rfl rfl rfl hc8) rfl fun a hF=>q_xg (v:=(.bool (decide (0 < (goLen e_37))))) hF hS (ex_ibin rfl rfl rfl) (wanted_t hF rfl rfl rfl hc8) rfl fun a hF=>q_x (v:=(.bool (decide (0 < (goLen e_37))))) hF hS (ex_pick_t rfl rfl hc8) rfl rfl fun a hF=>q_x (v:=(.bool (decide (0 < (goLen e_37))))) hF hS (ex_move rfl) rfl rfl fun a hF=>?_
    rcases bcase (decide (0 < (goLen e_37))) with hc9 | hc9
    ·have hj7:=cond_f hc9 hj7
     refine q_skip hF (wanted_f hF rfl rfl rfl hc9 rfl) rfl fun a hF=>q_skip hF (wanted_f hF rfl rfl rfl hc9 rfl) rfl fun a hF=>q_x (v:=(.bool false)) hF hS (ex_pick_f rfl rfl hc9) rfl rfl fun a hF=>q_x (v:=(.bool false)) hF hS (ex_assign rfl) rfl rfl fun a hF=>q_end (n_jn ?_)
     obtain rfl:=someI hj7
     exact ⟨_,_,rfl,hF.sub ⟨rfl,rfl,rfl,trivial⟩,hS,h36,h36k⟩
    ·have hj7:=cond_t hc9 hj7
     refine q_xg (v:=(.pointer (some ⟨b_p_c,0,none⟩))) hF hS (ex_move rfl) (wanted_t hF rfl rfl rfl hc9) rfl fun a hF=>?_
     have hS : St _ _ _ _ [[⟨b_p_c,[s1.v,(iV p_c_35.at_),(.int .u64 p_c_35.seed.v)],90⟩],q34]:=hS.sel [1,0] (by decide)
     have hS39 : St _ _ _ _ ([[⟨b_p_c,[s1.v,(iV p_c_35.at_),(.int .u64 p_c_35.seed.v)],90⟩]]++[q34]):=hS
     have hE39:=hS39.enter
     obtain ⟨t_40,ht_40,hj7⟩:=bindS hj7
     refine q_dog (wanted_t hF rfl rfl rfl hc9) fun _ hK=>wp_callX (vs:=[(.pointer (some ⟨b_p_c,0,none⟩)),(iV 24)]) hF Try.func85 (by kernel_rfl) rfl rfl rfl (c_spec_l1Cur_one p_c_35 24 t_40 ht_40 _ m b_p_c s1 h36 _ hE39) fun a w _ hR hF=>hK _ _ ?_
     obtain ⟨rfl,hR39,hk41⟩:=hR
     have hS : St _ _ _ _ [[⟨b_p_c,[s1.v,(iV t_40.2.at_),(.int .u64 t_40.2.seed.v)],90⟩],q34]:=hS39.leaveF hR39
     have h41 : Rd m s1 t_40.2.code:=by rw [hk41]; exact h36
     refine q_x (v:=(.bool t_40.1)) hF hS (ex_pick_t rfl rfl hc9) rfl rfl fun a hF=>q_x (v:=(.bool t_40.1)) hF hS (ex_assign rfl) rfl rfl fun a hF=>q_end (n_jn ?_)
     obtain rfl:=someI hj7
     exact ⟨_,_,rfl,hF.sub ⟨rfl,rfl,rfl,trivial⟩,hS.sel [1,0] (by decide),h41,(hk41.trans h36k)⟩
  ·rintro a w ⟨t_42,p_c_43,rfl,hF,hS,h44,h44k⟩
   refine n_sq ?_
   obtain ⟨j10,hj10,hr⟩:=bindS hr
   refine q_join (fun a w=>∃ (q67 : Piece),∃ out_66,∃ p_c_68,j10 = .inl (out_66,p_c_68)∧Fr a 65 [(5,s34.v)]∧St X w0 w m [q67,[⟨b_p_c,[s1.v,(iV p_c_68.at_),(.int .u64 p_c_68.seed.v)],90⟩]]∧OwnD m 28 3 q67 s34 out_66∧Rd m s1 p_c_68.code∧p_c_68.code = p_c.code) ?_ ?_
   ·rcases bcase (t_42) with hc11 | hc11
    ·have hj10:=cond_f hc11 hj10
     refine q_cond_f hF rfl hc11 (q_seq (q_region (q_x (v:=(.pointer (some ⟨b_p_c,0,none⟩))) hF hS (ex_move rfl) rfl rfl fun a hF=>?_)))
     have hS : St _ _ _ _ [[⟨b_p_c,[s1.v,(iV p_c_43.at_),(.int .u64 p_c_43.seed.v)],90⟩],q34]:=hS.sel [1,0] (by decide)
     have hS45 : St _ _ _ _ ([[⟨b_p_c,[s1.v,(iV p_c_43.at_),(.int .u64 p_c_43.seed.v)],90⟩]]++[q34]):=hS
     have hE45:=hS45.enter
     obtain ⟨t_46,ht_46,hj10⟩:=bindS hj10
     refine q_do rfl fun _ hK=>wp_callX (vs:=[(.pointer (some ⟨b_p_c,0,none⟩)),(iV 30)]) hF Try.func85 (by kernel_rfl) rfl rfl rfl (c_spec_l1Cur_one p_c_43 30 t_46 ht_46 _ m b_p_c s1 h44 _ hE45) fun a w _ hR hF=>hK _ _ ?_
     obtain ⟨rfl,hR45,hk47⟩:=hR
     have hS : St _ _ _ _ [[⟨b_p_c,[s1.v,(iV t_46.2.at_),(.int .u64 t_46.2.seed.v)],90⟩],q34]:=hS45.leaveF hR45
     have h47 : Rd m s1 t_46.2.code:=by rw [hk47]; exact h44
     refine q_x (v:=(.bool t_46.1)) hF hS (ex_assign rfl) rfl rfl fun a hF=>q_end (n_sq ?_)
     rcases bcase (t_46.1) with hc12 | hc12
     ·have hj10:=cond_f hc12 hj10
      refine q_cond_f hF rfl hc12 (q_skipc (n_jn ?_))
      obtain rfl:=someI hj10
      exact ⟨q34,_,_,rfl,hF.sub ⟨rfl,trivial⟩,hS.sel [1,0] (by decide),h34,h47,(hk47.trans h44k)⟩
     ·have hj10:=cond_t hc12 hj10
      refine q_cond_t hF rfl hc12 (q_seq (q_region (q_x (v:=s34.v) hF hS (ex_move rfl) rfl rfl fun a hF=>q_do rfl fun _ hK=>wp_buildSlice' (l:=([0] : List Int)) (cells:=[(iV 0)]) hF hS Try.underlying28 inf3 rfl rfl (by kernel_rfl) rfl rfl rfl ⟨rfl,rfl⟩ rfl rfl fun a w q48 s48 hF hS h48 _=>hK _ _ (q_do rfl fun _ hK=>wp_build1D hF hS h48 Try.underlying23 inf28 rfl rfl rfl fun a w q49 s49 hF hS h49 _=>hK _ _ ?_))))
      have hS : St _ _ _ _ [q34,q49,[⟨b_p_c,[s1.v,(iV t_46.2.at_),(.int .u64 t_46.2.seed.v)],90⟩]]:=hS.sel [2,0,1] (by decide)
      obtain ⟨l_50,hl_50,hj10⟩:=bindS hj10
      refine q_do rfl fun _ hK=>wp_appendD hF hS h34 h49 Try.underlying23 inf28 rfl rfl rfl (by decide) hl_50 rfl fun a w q51 s51 hF hS h51=>hK _ _ (q_x (v:=s51.v) hF hS (ex_assign rfl) rfl rfl fun a hF=>q_end (n_sq (q_ret (r_jn ?_))))
      obtain rfl:=someI hj10
      refine r_ib (r_sq ?_)
      obtain rfl:=someI hr
      exact ret_ofX hF hS rfl (.tmp rfl .nil) ⟨q51,s51,rfl,hS.sel [1,0] (by decide),h51,(hk47.trans h44k)⟩
    ·have hj10:=cond_t hc11 hj10
     refine q_cond_t hF rfl hc11 ?_
     obtain ⟨j13,hj13,hj10⟩:=bindS hj10
     refine q_join (fun a w=>∃ (q63 : Piece),∃ out_62,∃ p_c_64,j13 = (out_62,p_c_64)∧Fr a 65 [(5,s34.v)]∧St X w0 w m [q63,[⟨b_p_c,[s1.v,(iV p_c_64.at_),(.int .u64 p_c_64.seed.v)],90⟩]]∧OwnD m 28 3 q63 s34 out_62∧Rd m s1 p_c_64.code∧p_c_64.code = p_c.code) ?_ ?_
     ·refine e_region ⟨[5,7],[]⟩ mixed fun w' hw'=>?_
      have hS:=hS.below hw'
      refine e_p (v:=s34.v) 0 hF rfl (ex_move rfl) rfl rfl (by kernel_rfl) (by kernel_rfl) (by kernel_rfl) fun a hF=>?_
      obtain ⟨e_52,he_52,hj13⟩:=bindS hj13
      obtain ⟨s53,hV53⟩:=h34.view he_52
      refine e_p (v:=(elP s34 ((0 : Int).toNat * 1))) 1 hF rfl (ex_indexAddr Try.underlying23 sz28 rfl rfl (h34.idx he_52)) rfl rfl (by kernel_rfl) (by kernel_rfl) (by kernel_rfl) fun a hF=>e_p (v:=(.pointer (some ⟨b_p_c,0,none⟩))) 3 hF rfl (ex_move rfl) rfl rfl (by kernel_rfl) (by kernel_rfl) (by kernel_rfl) fun a hF=>?_
      obtain ⟨t_57,ht_57,hj13⟩:=bindS hj13
      obtain ⟨e_59,he_59,hj13⟩:=bindS hj13
      refine e_all [2,4] (by kernel_rfl) rfl ⟨?_,?_,trivial⟩
      ·refine e_lx (v:=s53.v) hF hS rfl (ex_loadE1 0 Try.underlying28 rfl rfl ((hV53.atH he_52).at 0 rfl) rfl rfl) rfl rfl fun a hF=>e_one 4 (by kernel_rfl) (e_op rfl rfl fun _ hK=>wp_buildSlice' (l:=([2,-1] : List Int)) (cells:=[(iV 2),(iV (-1))]) hF hS Try.underlying28 inf3 rfl rfl (by kernel_rfl) rfl rfl rfl ⟨rfl,rfl,rfl⟩ rfl rfl fun a w q55 s55 hF hS h55 hb=>hK _ _ hb (e_one 5 (by kernel_rfl) ?_))
       have hS : St _ _ _ _ [[⟨b_p_c,[s1.v,(iV p_c_43.at_),(.int .u64 p_c_43.seed.v)],90⟩],q55,q34]:=hS.sel [2,0,1] (by decide)
       have hS56 : St _ _ _ _ ([[⟨b_p_c,[s1.v,(iV p_c_43.at_),(.int .u64 p_c_43.seed.v)],90⟩]]++[q55,q34]):=hS
       obtain ⟨m56,hl56,hE56,hz56⟩:=hS56.lendX
       refine e_opl rfl rfl rfl fun _ hK=>wp_callX (vs:=[(.pointer (some ⟨b_p_c,0,none⟩)),s55.v]) hF Try.func74 (by kernel_rfl) rfl rfl rfl (c_spec_l1Cur_among p_c_43 ([2,-1] : List Int) t_57 ht_57 _ m56 b_p_c s1 (h44.mono hl56) s55 (h55.froz hl56 (hz56 0 _ rfl)) _ hE56) fun a w _ hR hF=>hK _ _ ?_
       obtain ⟨rfl,hR56,hk58⟩:=hR
       have hS : St _ _ _ _ [[⟨b_p_c,[s1.v,(iV t_57.2.at_),(.int .u64 t_57.2.seed.v)],90⟩],q55,q34]:=hS56.leaveF hR56
       have h58 : Rd m s1 t_57.2.code:=by rw [hk58]; exact h44
       refine ⟨kpN,?_⟩
       obtain ⟨vs60,at60,d60⟩:=hV53.at he_52 he_59 1 rfl
       obtain rfl : vs60 = [(iV e_59)]:=d60
       refine e_p (v:=(elP s53 ((0 : Int).toNat * 1))) 6 hF rfl (ex_indexAddr Try.underlying28 sz3 rfl rfl (hV53.idx he_52 he_59)) rfl rfl (by kernel_rfl) (by kernel_rfl) (by kernel_rfl) fun a hF=>e_one 7 (by kernel_rfl) ?_
       have hS : St _ _ _ _ [q34,[⟨b_p_c,[s1.v,(iV t_57.2.at_),(.int .u64 t_57.2.seed.v)],90⟩],q55]:=hS.sel [2,0,1] (by decide)
       refine e_opl rfl rfl rfl fun _ hK=>wp_storeV (e':=t_57.1) (us:=[(iV t_57.1)]) (vs:=[(iV e_59)]) 0 hF hS hV53 he_52 sz3 rfl rfl rfl rfl rfl rfl rfl he_59 at60 rfl rfl rfl fun w q61 hS h61=>hK _ _ (⟨kpN,?_⟩)
       refine e_end (by kernel_rfl) (n_jn ?_) _
       obtain rfl:=someI hj13
       exact ⟨q61,_,_,rfl,hF.sub ⟨rfl,trivial⟩,hS.mask [true,true,false],h61.own,h58,(hk58.trans h44k)⟩
      ·refine e_op rfl rfl fun _ hK=>wp_buildSlice' (l:=([2,-1] : List Int)) (cells:=[(iV 2),(iV (-1))]) hF hS Try.underlying28 inf3 rfl rfl (by kernel_rfl) rfl rfl rfl ⟨rfl,rfl,rfl⟩ rfl rfl fun a w q55 s55 hF hS h55 hb=>hK _ _ hb (e_all [2,5] (by kernel_rfl) rfl ⟨?_,?_,trivial⟩)
       ·refine e_lx (v:=s53.v) hF hS rfl (ex_loadE1 0 Try.underlying28 rfl rfl ((hV53.atH he_52).at 1 rfl) rfl rfl) rfl rfl fun a hF=>e_one 5 (by kernel_rfl) ?_
        have hS : St _ _ _ _ [[⟨b_p_c,[s1.v,(iV p_c_43.at_),(.int .u64 p_c_43.seed.v)],90⟩],q55,q34]:=hS.sel [2,0,1] (by decide)
        have hS56 : St _ _ _ _ ([[⟨b_p_c,[s1.v,(iV p_c_43.at_),(.int .u64 p_c_43.seed.v)],90⟩]]++[q55,q34]):=hS
        obtain ⟨m56,hl56,hE56,hz56⟩:=hS56.lendX
        refine e_opl rfl rfl rfl fun _ hK=>wp_callX (vs:=[(.pointer (some ⟨b_p_c,0,none⟩)),s55.v]) hF Try.func74 (by kernel_rfl) rfl rfl rfl (c_spec_l1Cur_among p_c_43 ([2,-1] : List Int) t_57 ht_57 _ m56 b_p_c s1 (h44.mono hl56) s55 (h55.froz hl56 (hz56 0 _ rfl)) _ hE56) fun a w _ hR hF=>hK _ _ ?_
        obtain ⟨rfl,hR56,hk58⟩:=hR
        have hS : St _ _ _ _ [[⟨b_p_c,[s1.v,(iV t_57.2.at_),(.int .u64 t_57.2.seed.v)],90⟩],q55,q34]:=hS56.leaveF hR56
        have h58 : Rd m s1 t_57.2.code:=by rw [hk58]; exact h44
        refine ⟨kpN,?_⟩
        obtain ⟨vs60,at60,d60⟩:=hV53.at he_52 he_59 1 rfl
        obtain rfl : vs60 = [(iV e_59)]:=d60
        refine e_p (v:=(elP s53 ((0 : Int).toNat * 1))) 6 hF rfl (ex_indexAddr Try.underlying28 sz3 rfl rfl (hV53.idx he_52 he_59)) rfl rfl (by kernel_rfl) (by kernel_rfl) (by kernel_rfl) fun a hF=>e_one 7 (by kernel_rfl) ?_
        have hS : St _ _ _ _ [q34,[⟨b_p_c,[s1.v,(iV t_57.2.at_),(.int .u64 t_57.2.seed.v)],90⟩],q55]:=hS.sel [2,0,1] (by decide)
        refine e_opl rfl rfl rfl fun _ hK=>wp_storeV (e':=t_57.1) (us:=[(iV t_57.1)]) (vs:=[(iV e_59)]) 0 hF hS hV53 he_52 sz3 rfl rfl rfl rfl rfl rfl rfl he_59 at60 rfl rfl rfl fun w q61 hS h61=>hK _ _ (⟨kpN,?_⟩)
        refine e_end (by kernel_rfl) (n_jn ?_) _
        obtain rfl:=someI hj13
        exact ⟨q61,_,_,rfl,hF.sub ⟨rfl,trivial⟩,hS.mask [true,true,false],h61.own,h58,(hk58.trans h44k)⟩
       ·have hS : St _ _ _ _ [[⟨b_p_c,[s1.v,(iV p_c_43.at_),(.int .u64 p_c_43.seed.v)],90⟩],q55,q34]:=hS.sel [2,0,1] (by decide)
        have hS56 : St _ _ _ _ ([[⟨b_p_c,[s1.v,(iV p_c_43.at_),(.int .u64 p_c_43.seed.v)],90⟩]]++[q55,q34]):=hS
        obtain ⟨m56,hl56,hE56,hz56⟩:=hS56.lendX
        refine e_opl rfl rfl rfl fun _ hK=>wp_callX (vs:=[(.pointer (some ⟨b_p_c,0,none⟩)),s55.v]) hF Try.func74 (by kernel_rfl) rfl rfl rfl (c_spec_l1Cur_among p_c_43 ([2,-1] : List Int) t_57 ht_57 _ m56 b_p_c s1 (h44.mono hl56) s55 (h55.froz hl56 (hz56 0 _ rfl)) _ hE56) fun a w _ hR hF=>hK _ _ ?_
        obtain ⟨rfl,hR56,hk58⟩:=hR
        have hS : St _ _ _ _ [[⟨b_p_c,[s1.v,(iV t_57.2.at_),(.int .u64 t_57.2.seed.v)],90⟩],q55,q34]:=hS56.leaveF hR56
        have h58 : Rd m s1 t_57.2.code:=by rw [hk58]; exact h44
        refine ⟨kpN,?_⟩
        refine e_x (v:=s53.v) 2 hF hS rfl (ex_loadE1 0 Try.underlying28 rfl rfl ((hV53.atH he_52).at 2 rfl) rfl rfl) rfl rfl (by kernel_rfl) (by kernel_rfl) (by kernel_rfl) (by kernel_rfl) fun a hF=>?_
        obtain ⟨vs60,at60,d60⟩:=hV53.at he_52 he_59 1 rfl
        obtain rfl : vs60 = [(iV e_59)]:=d60
        refine e_p (v:=(elP s53 ((0 : Int).toNat * 1))) 6 hF rfl (ex_indexAddr Try.underlying28 sz3 rfl rfl (hV53.idx he_52 he_59)) rfl rfl (by kernel_rfl) (by kernel_rfl) (by kernel_rfl) fun a hF=>e_one 7 (by kernel_rfl) ?_
        have hS : St _ _ _ _ [q34,[⟨b_p_c,[s1.v,(iV t_57.2.at_),(.int .u64 t_57.2.seed.v)],90⟩],q55]:=hS.sel [2,0,1] (by decide)
        refine e_opl rfl rfl rfl fun _ hK=>wp_storeV (e':=t_57.1) (us:=[(iV t_57.1)]) (vs:=[(iV e_59)]) 0 hF hS hV53 he_52 sz3 rfl rfl rfl rfl rfl rfl rfl he_59 at60 rfl rfl rfl fun w q61 hS h61=>hK _ _ (⟨kpN,?_⟩)
        refine e_end (by kernel_rfl) (n_jn ?_) _
        obtain rfl:=someI hj13
        exact ⟨q61,_,_,rfl,hF.sub ⟨rfl,trivial⟩,hS.mask [true,true,false],h61.own,h58,(hk58.trans h44k)⟩
     ·rintro a w ⟨q63,out_62,p_c_64,rfl,hF,hS,h63,h65,h65k⟩
      refine n_jn ?_
      obtain rfl:=someI hj10
      exact ⟨q63,_,_,rfl,hF.sub ⟨rfl,trivial⟩,hS,h63,h65,h65k⟩
   ·rintro a w ⟨q67,out_66,p_c_68,rfl,hF,hS,h67,h69,h69k⟩
    refine n_ib (n_sq ?_)
    refine q_seq (q_region (q_x (v:=s34.v) hF hS (ex_move rfl) rfl rfl fun a hF=>q_x (v:=s34.v) hF hS (ex_assign rfl) rfl rfl fun a hF=>q_end (n_sq (q_ret ?_))))
    obtain rfl:=someI hr
    exact ret_ofX hF hS rfl (.tmp rfl .nil) ⟨q67,s34,rfl,hS.sel [1,0] (by decide),h67,h69k⟩

theorem c_spec_DrawJoinPatterns (p_code : List (K .u8)) (r : (List (List Int)) × (List (List Int))) (hr : spec_DrawJoinPatterns p_code = some r) (w0 : World) (m : Mem) (hv : Vis m w0) (s1 : Sl) (h1 : Rd m s1 p_code) :
  Ret Try.prog 17 [s1.v] w0 (fun v w=>∃ (q0' : Piece) (q1' : Piece) (s0' : Sl) (s1' : Sl),v = (.tuple #[s0'.v,s1'.v])∧St [] w0 w m [q0',q1']∧OwnD m 28 3 q0' s0' r.1∧OwnD m 28 3 q1' s1' r.2):=by
 unfold spec_DrawJoinPatterns at hr
 refine ret_start Try.func17 rfl 26 rfl rfl m hv fun a hF hS=>q_seq (q_region (q_x (v:=nilS.v) hF hS (ex_assign rfl) rfl rfl fun a hF=>q_x (v:=nilS.v) hF hS (ex_assign rfl) rfl rfl fun a hF=>q_end (n_sq (q_seq (q_region (q_x (v:=s1.v) hF hS (ex_move rfl) rfl rfl fun a hF=>q_x (v:=(.agg #[s1.v,(iV 0),(.int .u64 0)])) hF hS (ex_build (cells:=[s1.v,(iV 0),(.int .u64 0)]) rfl (by kernel_rfl)) rfl rfl fun a hF=>q_box (cs:=[s1.v,(iV 0),(.int .u64 0)]) hF hS rfl rfl rfl fun a w b2 hF hS=>q_x (v:=(.pointer (some ⟨b2,0,none⟩))) hF hS (ex_assign rfl) rfl rfl fun a hF=>q_end (n_sq (q_seq (q_region (q_x (v:=(.pointer (some ⟨b2,0,none⟩))) hF hS (ex_move rfl) rfl rfl fun a hF=>?_))))))))))
 have hS3 : St _ _ _ _ ([[⟨b2,[s1.v,(iV 0),(.int .u64 0)],90⟩]]++[]):=hS
 have hE3:=hS3.enter
 obtain ⟨t_4,ht_4,hr⟩:=bindS hr
 refine q_do rfl fun _ hK=>wp_callX (vs:=[(.pointer (some ⟨b2,0,none⟩))]) hF Try.func84 (by kernel_rfl) rfl rfl rfl (c_spec_l1Cur_twoWay (spec_l1Cur.mk p_code 0 (⟨0⟩ : K .u64)) t_4 ht_4 _ m b2 s1 h1 _ hE3) fun a w _ hR hF=>hK _ _ ?_
 obtain ⟨q5,s5,rfl,hR3,h5,hk6⟩:=hR
 have hS : St _ _ _ _ [[⟨b2,[s1.v,(iV t_4.2.at_),(.int .u64 t_4.2.seed.v)],90⟩],q5]:=hS3.leaveF hR3
 have h6 : Rd m s1 t_4.2.code:=by rw [hk6]; exact h1
 refine q_x (v:=s5.v) hF hS (ex_assign rfl) rfl rfl fun a hF=>q_end (n_sq (q_seq (q_seq (q_region (q_x (v:=(.pointer (some ⟨b2,0,none⟩))) hF hS (ex_move rfl) rfl rfl fun a hF=>?_)))))
 have hS7 : St _ _ _ _ ([[⟨b2,[s1.v,(iV t_4.2.at_),(.int .u64 t_4.2.seed.v)],90⟩]]++[q5]):=hS
 have hE7:=hS7.enter
 obtain ⟨t_8,ht_8,hr⟩:=bindS hr
 refine q_do rfl fun _ hK=>wp_callX (vs:=[(.pointer (some ⟨b2,0,none⟩)),(iV 8)]) hF Try.func85 (by kernel_rfl) rfl rfl rfl (c_spec_l1Cur_one t_4.2 8 t_8 ht_8 _ m b2 s1 h6 _ hE7) fun a w _ hR hF=>hK _ _ ?_
 obtain ⟨rfl,hR7,hk9⟩:=hR
 have hS : St _ _ _ _ [[⟨b2,[s1.v,(iV t_8.2.at_),(.int .u64 t_8.2.seed.v)],90⟩],q5]:=hS7.leaveF hR7
 have h9 : Rd m s1 t_8.2.code:=by rw [hk9]; exact h6
 refine q_end (n_sq ?_)
 rcases bcase (t_8.1) with hc1 | hc1
 ·have hr:=cond_f hc1 hr
  refine q_cond_f hF rfl hc1 (q_skipc (n_sq (q_seq (q_region (q_x (v:=(.pointer (some ⟨b2,0,none⟩))) hF hS (ex_move rfl) rfl rfl fun a hF=>q_x (v:=s5.v) hF hS (ex_move rfl) rfl rfl fun a hF=>?_)))))
  have hS10 : St _ _ _ _ ([[⟨b2,[s1.v,(iV t_8.2.at_),(.int .u64 t_8.2.seed.v)],90⟩]]++[q5]):=hS
  obtain ⟨m10,hl10,hE10,hz10⟩:=hS10.lendX
  obtain ⟨t_11,ht_11,hr⟩:=bindS hr
  refine q_do rfl fun _ hK=>wp_callX (vs:=[(.pointer (some ⟨b2,0,none⟩)),s5.v]) hF Try.func86 (by kernel_rfl) rfl rfl rfl (c_spec_l1Cur_pattern t_8.2 t_4.1 t_11 ht_11 _ m10 b2 s1 (h9.mono hl10) s5 (h5.froz hl10 (hz10 0 _ rfl)) _ hE10) fun a w _ hR hF=>hK _ _ ?_
  obtain ⟨q12,s12,rfl,hR10,h12,hk13⟩:=hR
  have hS : St _ _ _ _ [[⟨b2,[s1.v,(iV t_11.2.at_),(.int .u64 t_11.2.seed.v)],90⟩],q12,q5]:=hS10.leaveF hR10
  have h12:=h12.any m
  have h13 : Rd m s1 t_11.2.code:=by rw [hk13]; exact h9
  refine q_x (v:=(.pointer (some ⟨b2,0,none⟩))) hF hS (ex_move rfl) rfl rfl fun a hF=>q_x (v:=s5.v) hF hS (ex_move rfl) rfl rfl fun a hF=>?_
  have hS14 : St _ _ _ _ ([[⟨b2,[s1.v,(iV t_11.2.at_),(.int .u64 t_11.2.seed.v)],90⟩]]++[q12,q5]):=hS
  obtain ⟨m14,hl14,hE14,hz14⟩:=hS14.lendX
  obtain ⟨t_15,ht_15,hr⟩:=bindS hr
  refine q_do rfl fun _ hK=>wp_callX (vs:=[(.pointer (some ⟨b2,0,none⟩)),s5.v]) hF Try.func86 (by kernel_rfl) rfl rfl rfl (c_spec_l1Cur_pattern t_11.2 t_4.1 t_15 ht_15 _ m14 b2 s1 (h13.mono hl14) s5 (h5.froz hl14 (hz14 1 _ rfl)) _ hE14) fun a w _ hR hF=>hK _ _ ?_
  obtain ⟨q16,s16,rfl,hR14,h16,hk17⟩:=hR
  have hS : St _ _ _ _ [[⟨b2,[s1.v,(iV t_15.2.at_),(.int .u64 t_15.2.seed.v)],90⟩],q16,q12,q5]:=hS14.leaveF hR14
  have h16:=h16.any m
  have h17 : Rd m s1 t_15.2.code:=by rw [hk17]; exact h13
  refine q_x (v:=s12.v) hF hS (ex_assign rfl) rfl rfl fun a hF=>q_x (v:=s16.v) hF hS (ex_assign rfl) rfl rfl fun a hF=>q_end (n_sq (q_ret ?_))
  obtain rfl:=someI hr
  exact ret_of hF hS rfl (.tmp rfl (.tmp rfl .nil)) ⟨q12,q16,s12,s16,rfl,hS.sel [2,1] (by decide),h12,h16⟩
 ·have hr:=cond_t hc1 hr
  refine q_cond_t hF rfl hc1 (q_seq (q_region (q_x (v:=(.pointer (some ⟨b2,0,none⟩))) hF hS (ex_move rfl) rfl rfl fun a hF=>q_x (v:=s5.v) hF hS (ex_move rfl) rfl rfl fun a hF=>?_)))
  have hS18 : St _ _ _ _ ([[⟨b2,[s1.v,(iV t_8.2.at_),(.int .u64 t_8.2.seed.v)],90⟩]]++[q5]):=hS
  obtain ⟨m18,hl18,hE18,hz18⟩:=hS18.lendX
  obtain ⟨t_19,ht_19,hr⟩:=bindS hr
  refine q_do rfl fun _ hK=>wp_callX (vs:=[(.pointer (some ⟨b2,0,none⟩)),s5.v]) hF Try.func86 (by kernel_rfl) rfl rfl rfl (c_spec_l1Cur_pattern t_8.2 t_4.1 t_19 ht_19 _ m18 b2 s1 (h9.mono hl18) s5 (h5.froz hl18 (hz18 0 _ rfl)) _ hE18) fun a w _ hR hF=>hK _ _ ?_
  obtain ⟨q20,s20,rfl,hR18,h20,hk21⟩:=hR
  have hS : St _ _ _ _ [[⟨b2,[s1.v,(iV t_19.2.at_),(.int .u64 t_19.2.seed.v)],90⟩],q20,q5]:=hS18.leaveF hR18
  have h20:=h20.any m
  have h21 : Rd m s1 t_19.2.code:=by rw [hk21]; exact h9
  refine q_x (v:=(.pointer (some ⟨b2,0,none⟩))) hF hS (ex_move rfl) rfl rfl fun a hF=>q_x (v:=(.pointer (some ⟨b2,0,none⟩))) hF hS (ex_move rfl) rfl rfl fun a hF=>?_
  have hS22 : St _ _ _ _ ([[⟨b2,[s1.v,(iV t_19.2.at_),(.int .u64 t_19.2.seed.v)],90⟩]]++[q20,q5]):=hS
  have hE22:=hS22.enter
  obtain ⟨t_23,ht_23,hr⟩:=bindS hr
  refine q_do rfl fun _ hK=>wp_callX (vs:=[(.pointer (some ⟨b2,0,none⟩))]) hF Try.func84 (by kernel_rfl) rfl rfl rfl (c_spec_l1Cur_twoWay t_19.2 t_23 ht_23 _ m b2 s1 h21 _ hE22) fun a w _ hR hF=>hK _ _ ?_
  obtain ⟨q24,s24,rfl,hR22,h24,hk25⟩:=hR
  have hS : St _ _ _ _ [[⟨b2,[s1.v,(iV t_23.2.at_),(.int .u64 t_23.2.seed.v)],90⟩],q24,q20,q5]:=hS22.leaveF hR22
  have h25 : Rd m s1 t_23.2.code:=by rw [hk25]; exact h21
  have hS26 : St _ _ _ _ ([[⟨b2,[s1.v,(iV t_23.2.at_),(.int .u64 t_23.2.seed.v)],90⟩]]++[q24,q20,q5]):=hS
  obtain ⟨m26,hl26,hE26,hz26⟩:=hS26.lendX
  obtain ⟨t_27,ht_27,hr⟩:=bindS hr
  refine q_do rfl fun _ hK=>wp_callX (vs:=[(.pointer (some ⟨b2,0,none⟩)),s24.v]) hF Try.func86 (by kernel_rfl) rfl rfl rfl (c_spec_l1Cur_pattern t_23.2 t_23.1 t_27 ht_27 _ m26 b2 s1 (h25.mono hl26) s24 (h24.froz hl26 (hz26 0 _ rfl)) _ hE26) fun a w _ hR hF=>hK _ _ ?_
  obtain ⟨q28,s28,rfl,hR26,h28,hk29⟩:=hR
  have hS : St _ _ _ _ [[⟨b2,[s1.v,(iV t_27.2.at_),(.int .u64 t_27.2.seed.v)],90⟩],q28,q24,q20,q5]:=hS26.leaveF hR26
  have h28:=h28.any m
  have h29 : Rd m s1 t_27.2.code:=by rw [hk29]; exact h25
  refine q_x (v:=s20.v) hF hS (ex_assign rfl) rfl rfl fun a hF=>q_x (v:=s28.v) hF hS (ex_assign rfl) rfl rfl fun a hF=>q_end (n_sq (q_ret (r_sq ?_)))
  obtain rfl:=someI hr
  exact ret_of hF hS rfl (.tmp rfl (.tmp rfl .nil)) ⟨q20,q28,s20,s28,rfl,hS.sel [3,1] (by decide),h20,h28⟩

theorem c_impl_joinPatterns (p_a : List (List Int)) (p_b : List (List Int)) (r : (List (List Int))) (hr : impl_joinPatterns p_a p_b = some r) (w0 : World) (m : Mem) (hv : Vis m w0) (s1 : Sl) (h1 : Rd m s1 p_a) (s2 : Sl) (h2 : Rd m s2 p_b) :
  Ret Try.prog 89 [s1.v,s2.v] w0 (fun v w=>∃ (q0' : Piece) (s0' : Sl),v = s0'.v∧St [] w0 w m [q0']∧OwnD m 28 3 q0' s0' r):=by
 unfold impl_joinPatterns at hr
 refine ret_start Try.func89 rfl 39 rfl rfl m hv fun a hF hS=>q_seq (q_region (q_x (v:=nilS.v) hF hS (ex_assign rfl) rfl rfl fun a hF=>q_end (n_sq (q_seq (q_region (q_x (v:=s1.v) hF hS (ex_move rfl) rfl rfl fun a hF=>?_))))))
 obtain ⟨t_3,ht_3,hr⟩:=bindS hr
 refine q_call (vs:=[s1.v]) hF hS Try.func75 (by kernel_rfl) rfl rfl rfl (c_impl_copyMatrix p_a t_3 ht_3 _ m hS.vis s1 h1) ?_
 rintro a w _ ⟨q5,s5,rfl,hR4,h5⟩ hF hS2
 have hS : St _ _ _ _ [q5]:=hS.joinF hR4
 refine q_x (v:=s5.v) hF hS (ex_assign rfl) rfl rfl fun a hF=>q_end (n_sq (q_seq (q_seq (q_region (q_x (v:=s2.v) hF hS (ex_move rfl) rfl rfl fun a hF=>q_x (v:=(iV (goLen p_b))) hF hS (ex_len Try.underlying23 rfl h2.len) rfl rfl fun a hF=>q_x (v:=(iV 0)) hF hS (ex_move rfl) rfl rfl fun a hF=>q_end (n_sq (q_block ?_)))))))
 obtain ⟨out_26,hl1,hr⟩:=bindS hr
 refine q_loop (fun (s : (List (List Int)) × Int) a w=>∃ (q7 : Piece),∃ out_6,∃ t_8,s = (out_6,t_8)∧Fr a 39 [(5,s5.v),(12,s2.v),(13,(iV (goLen p_b))),(14,(iV t_8))]∧St [] w0 w m [q7]∧OwnD m 28 3 q7 s5 out_6) (fun (out_26 : (List (List Int))) e a w=>∃ (q27 : Piece),e = .exit 0∧Fr a 39 [(5,s5.v)]∧St [] w0 w m [q27]∧OwnD m 28 3 q27 s5 out_26) hl1 ⟨q5,_,_,rfl,hF.sub ⟨rfl,rfl,rfl,rfl,trivial⟩,hS,h5⟩ ?_ ?_
 ·clear hF hS
  rintro s a w st ⟨q7,out_6,t_8,rfl,hF,hS,h7⟩ hb1
  unfold impl_joinPatterns_l1 at hb1
  refine q_seq (q_region (q_x (v:=(.bool (decide (t_8 < (goLen p_b))))) hF hS (ex_ibin rfl rfl rfl) rfl rfl fun a hF=>q_end (n_sq (q_seq ?_))))
  rcases bcase (decide (t_8 < (goLen p_b))) with hc2 | hc2
  ·have hb1:=cond_f hc2 hb1
   refine q_cond_f hF rfl hc2 (q_exit (x_sq ?_))
   obtain rfl:=someI hb1
   exact ⟨nofun,.inl ⟨q7,rfl,hF.sub ⟨rfl,trivial⟩,hS,h7⟩⟩
  ·have hb1:=cond_t hc2 hb1
   refine q_cond_t hF rfl hc2 (q_skipc (n_sq (q_seq (q_block (q_seq (q_region (q_x (v:=(iV t_8)) hF hS (ex_move rfl) rfl rfl fun a hF=>?_)))))))
   obtain ⟨e_9,he_9,hb1⟩:=bindS hb1
   obtain ⟨vs10,at10,d10⟩:=h2.at he_9 1 rfl
   obtain ⟨s11,rfl,h11⟩ : ∃ s11 : Sl,vs10 = [s11.v]∧Rd m s11 e_9:=d10
   refine q_x (v:=(elP s2 (t_8.toNat * 1))) hF hS (ex_indexAddr Try.underlying23 sz28 rfl rfl (h2.idx he_9)) rfl rfl fun a hF=>q_x (v:=s11.v) hF hS (ex_loadE1 0 Try.underlying28 rfl rfl ((at10).at) rfl rfl) rfl rfl fun a hF=>q_x (v:=(iV t_8)) hF hS (ex_assign rfl) rfl rfl fun a hF=>q_x (v:=s11.v) hF hS (ex_assign rfl) rfl rfl fun a hF=>q_end (n_sq (q_seq (q_region (q_x (v:=s11.v) hF hS (ex_move rfl) rfl rfl fun a hF=>q_x (v:=(iV (goLen e_9))) hF hS (ex_len Try.underlying28 rfl h11.len) rfl rfl fun a hF=>q_x (v:=(iV 0)) hF hS (ex_move rfl) rfl rfl fun a hF=>q_end (n_sq (q_block ?_))))))
   obtain ⟨out_24,hl3,hb1⟩:=bindS hb1
   refine q_loop (fun (s : (List (List Int)) × Int) a w=>∃ (q13 : Piece),∃ out_12,∃ t_14,s = (out_12,t_14)∧Fr a 39 [(5,s5.v),(6,(iV t_8)),(12,s2.v),(13,(iV (goLen p_b))),(14,(iV t_8)),(19,s11.v),(20,(iV (goLen e_9))),(21,(iV t_14))]∧St [] w0 w m [q13]∧OwnD m 28 3 q13 s5 out_12) (fun (out_24 : (List (List Int))) e a w=>∃ (q25 : Piece),e = .exit 2∧Fr a 39 [(5,s5.v),(12,s2.v),(13,(iV (goLen p_b))),(14,(iV t_8))]∧St [] w0 w m [q25]∧OwnD m 28 3 q25 s5 out_24) hl3 ⟨q7,_,_,rfl,hF.sub ⟨rfl,rfl,rfl,rfl,rfl,rfl,rfl,rfl,trivial⟩,hS,h7⟩ ?_ ?_
   ·clear hF hS
    rintro s a w st ⟨q13,out_12,t_14,rfl,hF,hS,h13⟩ hb3
    unfold impl_joinPatterns_l2 at hb3
    refine q_seq (q_region (q_x (v:=(.bool (decide (t_14 < (goLen e_9))))) hF hS (ex_ibin rfl rfl rfl) rfl rfl fun a hF=>q_end (n_sq (q_seq ?_))))
    rcases bcase (decide (t_14 < (goLen e_9))) with hc4 | hc4
    ·have hb3:=cond_f hc4 hb3
     refine q_cond_f hF rfl hc4 (q_exit (x_sq ?_))
     obtain rfl:=someI hb3
     exact ⟨nofun,.inl ⟨q13,rfl,hF.sub ⟨rfl,rfl,rfl,rfl,trivial⟩,hS,h13⟩⟩
    ·have hb3:=cond_t hc4 hb3
     refine q_cond_t hF rfl hc4 (q_skipc (n_sq (q_seq (q_block (q_seq (q_region (q_x (v:=(iV t_14)) hF hS (ex_move rfl) rfl rfl fun a hF=>?_)))))))
     obtain ⟨e_15,he_15,hb3⟩:=bindS hb3
     obtain ⟨vs16,at16,d16⟩:=h11.at he_15 1 rfl
     obtain rfl : vs16 = [(iV e_15)]:=d16
     refine q_x (v:=(elP s11 (t_14.toNat * 1))) hF hS (ex_indexAddr Try.underlying28 sz3 rfl rfl (h11.idx he_15)) rfl rfl fun a hF=>q_x (v:=(iV e_15)) hF hS (ex_loadE1 0 Try.underlying3 rfl rfl ((at16).at) rfl rfl) rfl rfl fun a hF=>q_x (v:=(iV t_14)) hF hS (ex_assign rfl) rfl rfl fun a hF=>q_x (v:=(iV e_15)) hF hS (ex_assign rfl) rfl rfl fun a hF=>q_end (n_sq (q_region (q_x (v:=s5.v) hF hS (ex_move rfl) rfl rfl fun a hF=>q_x (v:=(iV t_8)) hF hS (ex_move rfl) rfl rfl fun a hF=>?_)))
     obtain ⟨e_17,he_17,hb3⟩:=bindS hb3
     obtain ⟨s18,hV18⟩:=h13.view he_17
     refine q_x (v:=(elP s5 (t_8.toNat * 1))) hF hS (ex_indexAddr Try.underlying23 sz28 rfl rfl (h13.idx he_17)) rfl rfl fun a hF=>q_x (v:=s18.v) hF hS (ex_loadE1 0 Try.underlying28 rfl rfl ((hV18.atH he_17).at 0 rfl) rfl rfl) rfl rfl fun a hF=>q_x (v:=(iV t_14)) hF hS (ex_move rfl) rfl rfl fun a hF=>?_
     obtain ⟨e_19,he_19,hb3⟩:=bindS hb3
     obtain ⟨vs20,at20,d20⟩:=hV18.at he_17 he_19 1 rfl
     obtain rfl : vs20 = [(iV e_19)]:=d20
     refine q_x (v:=(elP s18 (t_14.toNat * 1))) hF hS (ex_indexAddr Try.underlying28 sz3 rfl rfl (hV18.idx he_17 he_19)) rfl rfl fun a hF=>q_x (v:=(iV e_19)) hF hS (ex_loadE1 0 Try.underlying3 rfl rfl (at20.at 0 rfl) rfl rfl) rfl rfl fun a hF=>q_x (v:=(iV e_15)) hF hS (ex_move rfl) rfl rfl fun a hF=>q_x (v:=(iV (goBits .or .i64 e_19 e_15))) hF hS (ex_bits rfl rfl rfl) rfl rfl fun a hF=>?_
     obtain ⟨e_21,he_21,hb3⟩:=bindS hb3
     obtain ⟨vs22,at22,d22⟩:=hV18.at he_17 he_21 1 rfl
     obtain rfl : vs22 = [(iV e_21)]:=d22
     refine q_x (v:=(elP s18 (t_14.toNat * 1))) hF hS (ex_indexAddr Try.underlying28 sz3 rfl rfl (hV18.idx he_17 he_21)) rfl rfl fun a hF=>q_do rfl fun _ hK=>wp_storeV (e':=goBits .or .i64 e_19 e_15) (us:=[(iV (goBits .or .i64 e_19 e_15))]) (vs:=[(iV e_21)]) 0 hF hS hV18 he_17 sz3 rfl rfl rfl rfl rfl rfl rfl he_21 at22 rfl rfl rfl fun w q23 hS h23=>hK _ _ (q_end (n_ib (n_sq (q_region (q_x (v:=(iV (w64 (t_14 + 1)))) hF hS (ex_ibin rfl rfl rfl) rfl rfl fun a hF=>q_x (v:=(iV (w64 (t_14 + 1)))) hF hS (ex_move rfl) rfl rfl fun a hF=>q_end ?_)))))
     obtain rfl:=someI hb3
     exact ⟨rfl,q23,_,_,rfl,hF.sub ⟨rfl,rfl,rfl,rfl,rfl,rfl,rfl,rfl,trivial⟩,hS,h23.own⟩
   ·rintro e a w ⟨q25,rfl,hF,hS,h25⟩
    refine x_ib (n_ib (n_sq ?_))
    refine q_region (q_x (v:=(iV (w64 (t_8 + 1)))) hF hS (ex_ibin rfl rfl rfl) rfl rfl fun a hF=>q_x (v:=(iV (w64 (t_8 + 1)))) hF hS (ex_move rfl) rfl rfl fun a hF=>q_end ?_)
    obtain rfl:=someI hb1
    exact ⟨rfl,q25,_,_,rfl,hF.sub ⟨rfl,rfl,rfl,rfl,trivial⟩,hS,h25⟩
 ·rintro e a w ⟨q27,rfl,hF,hS,h27⟩
  refine x_ib (n_sq ?_)
  refine q_seq (q_region (q_x (v:=s5.v) hF hS (ex_move rfl) rfl rfl fun a hF=>q_x (v:=s5.v) hF hS (ex_assign rfl) rfl rfl fun a hF=>q_end (n_sq (q_ret ?_))))
  obtain rfl:=someI hr
  exact ret_of hF hS rfl (.tmp rfl .nil) ⟨q27,s5,rfl,hS.sel [0] (by decide),h27⟩

theorem c_impl_JoinPatterns (p_a : List (List Int)) (p_b : List (List Int)) (r : (List (List Int)) × Bool) (hr : impl_JoinPatterns p_a p_b = some r) (w0 : World) (m : Mem) (hv : Vis m w0) (s1 : Sl) (h1 : Rd m s1 p_a) (s2 : Sl) (h2 : Rd m s2 p_b) :
  Ret Try.prog 18 [s1.v,s2.v] w0 (fun v w=>∃ (q0' : Piece) (s0' : Sl),v = (.tuple #[s0'.v,(.bool r.2)])∧St [] w0 w m [q0']∧OwnD m 28 3 q0' s0' r.1):=by
 unfold impl_JoinPatterns at hr
 refine ret_start Try.func18 rfl 28 rfl rfl m hv fun a hF hS=>q_seq (q_region (q_x (v:=nilS.v) hF hS (ex_assign rfl) rfl rfl fun a hF=>q_x (v:=(.bool false)) hF hS (ex_assign rfl) rfl rfl fun a hF=>q_end (n_sq (q_seq (q_seq ?_)))))
 obtain ⟨t_9,hj1,hr⟩:=bindS hr
 refine q_join (fun a w=>Fr a 28 [(0,s1.v),(1,s2.v),(24,(.bool t_9))]∧St [] w0 w m []) ?_ ?_
 ·refine q_region (q_x (v:=s1.v) hF hS (ex_move rfl) rfl rfl fun a hF=>?_)
  obtain ⟨t_3,ht_3,hj1⟩:=bindS hj1
  refine q_call (vs:=[s1.v,(iV 1)]) hF hS Try.func87 (by kernel_rfl) rfl rfl rfl (c_impl_isGrid p_a 1 t_3 ht_3 _ m hS.vis s1 h1) ?_
  rintro a w _ rfl hF hS
  refine q_x (v:=(.bool (!t_3))) hF hS (ex_not rfl) rfl rfl fun a hF=>q_x (v:=(.bool (!t_3))) hF hS (ex_move rfl) rfl rfl fun a hF=>?_
  rcases bcase (!t_3) with hc2 | hc2
  ·have hj1:=cond_f hc2 hj1
   refine q_xg (v:=s2.v) hF hS (ex_move rfl) (wanted_t hF rfl rfl rfl hc2) rfl fun a hF=>?_
   obtain ⟨t_4,ht_4,hj1⟩:=bindS hj1
   refine q_callg (vs:=[s2.v,(iV 1)]) hF hS (wanted_t hF rfl rfl rfl hc2) Try.func87 (by kernel_rfl) rfl rfl rfl (c_impl_isGrid p_b 1 t_4 ht_4 _ m hS.vis s2 h2) ?_
   rintro a w _ rfl hF hS
   refine q_xg (v:=(.bool (!t_4))) hF hS (ex_not rfl) (wanted_t hF rfl rfl rfl hc2) rfl fun a hF=>q_x (v:=(.bool (!t_4))) hF hS (ex_pick_f rfl rfl hc2) rfl rfl fun a hF=>q_x (v:=(.bool (!t_4))) hF hS (ex_move rfl) rfl rfl fun a hF=>?_
   rcases bcase (!t_4) with hc3 | hc3
   ·have hj1:=cond_f hc3 hj1
    refine q_xg (v:=s2.v) hF hS (ex_move rfl) (wanted_t hF rfl rfl rfl hc3) rfl fun a hF=>q_xg (v:=s1.v) hF hS (ex_move rfl) (wanted_t hF rfl rfl rfl hc3) rfl fun a hF=>q_xg (v:=(iV (goLen p_a))) hF hS (ex_len Try.underlying23 rfl h1.len) (wanted_t hF rfl rfl rfl hc3) rfl fun a hF=>q_xg (v:=s1.v) hF hS (ex_move rfl) (wanted_t hF rfl rfl rfl hc3) rfl fun a hF=>?_
    obtain ⟨e_5,he_5,hj1⟩:=bindS hj1
    obtain ⟨vs6,at6,d6⟩:=h1.at he_5 1 rfl
    obtain ⟨s7,rfl,h7⟩ : ∃ s7 : Sl,vs6 = [s7.v]∧Rd m s7 e_5:=d6
    refine q_xg (v:=(elP s1 ((0 : Int).toNat * 1))) hF hS (ex_indexAddr Try.underlying23 sz28 rfl rfl (h1.idx he_5)) (wanted_t hF rfl rfl rfl hc3) rfl fun a hF=>q_xg (v:=s7.v) hF hS (ex_loadE1 0 Try.underlying28 rfl rfl ((at6).at) rfl rfl) (wanted_t hF rfl rfl rfl hc3) rfl fun a hF=>q_xg (v:=(iV (goLen e_5))) hF hS (ex_len Try.underlying28 rfl h7.len) (wanted_t hF rfl rfl rfl hc3) rfl fun a hF=>?_
    obtain ⟨t_8,ht_8,hj1⟩:=bindS hj1
    refine q_callg (vs:=[s2.v,(iV (goLen p_a)),(iV (goLen e_5))]) hF hS (wanted_t hF rfl rfl rfl hc3) Try.func88 (by kernel_rfl) rfl rfl rfl (c_impl_hasShape p_b (goLen p_a) (goLen e_5) t_8 ht_8 _ m hS.vis s2 h2) ?_
    rintro a w _ rfl hF hS
    refine q_xg (v:=(.bool (!t_8))) hF hS (ex_not rfl) (wanted_t hF rfl rfl rfl hc3) rfl fun a hF=>q_x (v:=(.bool (!t_8))) hF hS (ex_pick_f rfl rfl hc3) rfl rfl fun a hF=>q_end (n_jn ?_)
    obtain rfl:=someI hj1
    exact ⟨hF.sub ⟨rfl,rfl,rfl,trivial⟩,hS⟩
   ·have hj1:=cond_t hc3 hj1
    refine q_skip hF (wanted_f hF rfl rfl rfl hc3 rfl) rfl fun a hF=>q_skip hF (wanted_f hF rfl rfl rfl hc3 rfl) rfl fun a hF=>q_skip hF (wanted_f hF rfl rfl rfl hc3 rfl) rfl fun a hF=>q_skip hF (wanted_f hF rfl rfl rfl hc3 rfl) rfl fun a hF=>q_skip hF (wanted_f hF rfl rfl rfl hc3 rfl) rfl fun a hF=>q_skip hF (wanted_f hF rfl rfl rfl hc3 rfl) rfl fun a hF=>q_skip hF (wanted_f hF rfl rfl rfl hc3 rfl) rfl fun a hF=>q_skip hF (wanted_f hF rfl rfl rfl hc3 rfl) rfl fun a hF=>q_skip hF (wanted_f hF rfl rfl rfl hc3 rfl) rfl fun a hF=>q_x (v:=(.bool true)) hF hS (ex_pick_t rfl rfl hc3) rfl rfl fun a hF=>q_end (n_jn ?_)
    obtain rfl:=someI hj1
    exact ⟨hF.sub ⟨rfl,rfl,rfl,trivial⟩,hS⟩
  ·have hj1:=cond_t hc2 hj1
   refine q_skip hF (wanted_f hF rfl rfl rfl hc2 rfl) rfl fun a hF=>q_skip hF (wanted_f hF rfl rfl rfl hc2 rfl) rfl fun a hF=>q_skip hF (wanted_f hF rfl rfl rfl hc2 rfl) rfl fun a hF=>q_x (v:=(.bool true)) hF hS (ex_pick_t rfl rfl hc2) rfl rfl fun a hF=>q_x (v:=(.bool true)) hF hS (ex_move rfl) rfl rfl fun a hF=>q_skip hF (wanted_f hF rfl rfl rfl rfl rfl) rfl fun a hF=>q_skip hF (wanted_f hF rfl rfl rfl rfl rfl) rfl fun a hF=>q_skip hF (wanted_f hF rfl rfl rfl rfl rfl) rfl fun a hF=>q_skip hF (wanted_f hF rfl rfl rfl rfl rfl) rfl fun a hF=>q_skip hF (wanted_f hF rfl rfl rfl rfl rfl) rfl fun a hF=>q_skip hF (wanted_f hF rfl rfl rfl rfl rfl) rfl fun a hF=>q_skip hF (wanted_f hF rfl rfl rfl rfl rfl) rfl fun a hF=>q_skip hF (wanted_f hF rfl rfl rfl rfl rfl) rfl fun a hF=>q_skip hF (wanted_f hF rfl rfl rfl rfl rfl) rfl fun a hF=>q_x (v:=(.bool true)) hF hS (ex_pick_t rfl rfl rfl) rfl rfl fun a hF=>q_end (n_jn ?_)
   obtain rfl:=someI hj1
   exact ⟨hF.sub ⟨rfl,rfl,rfl,trivial⟩,hS⟩
 ·rintro a w ⟨hF,hS⟩
  refine n_sq ?_
  rcases bcase (t_9) with hc4 | hc4
  ·have hr:=cond_f hc4 hr
   refine q_cond_f hF rfl hc4 (q_skipc (n_sq (q_seq (q_region (q_x (v:=s1.v) hF hS (ex_move rfl) rfl rfl fun a hF=>q_x (v:=s2.v) hF hS (ex_move rfl) rfl rfl fun a hF=>?_)))))
   obtain ⟨t_10,ht_10,hr⟩:=bindS hr
   refine q_call (vs:=[s1.v,s2.v]) hF hS Try.func89 (by kernel_rfl) rfl rfl rfl (c_impl_joinPatterns p_a p_b t_10 ht_10 _ m hS.vis s1 h1 s2 h2) ?_
   rintro a w _ ⟨q12,s12,rfl,hR11,h12⟩ hF hS2
   have hS : St _ _ _ _ [q12]:=hS.joinF hR11
   refine q_x (v:=s12.v) hF hS (ex_assign rfl) rfl rfl fun a hF=>q_x (v:=(.bool true)) hF hS (ex_assign rfl) rfl rfl fun a hF=>q_end (n_sq (q_ret ?_))
   obtain rfl:=someI hr
   exact ret_of hF hS rfl (.tmp rfl (.tmp rfl .nil)) ⟨q12,s12,rfl,hS.sel [0] (by decide),h12⟩
  ·have hr:=cond_t hc4 hr
   refine q_cond_t hF rfl hc4 (q_seq (q_region (q_x (v:=nilS.v) hF hS (ex_assign rfl) rfl rfl fun a hF=>q_x (v:=(.bool false)) hF hS (ex_assign rfl) rfl rfl fun a hF=>q_end (n_sq (q_ret (r_sq ?_))))))
   obtain rfl:=someI hr
   exact ret_of hF hS rfl (.tmp rfl (.tmp rfl .nil)) ⟨[],nilS,rfl,hS.sel [0] (by decide),(OwnD.nil (β:=Int) m 28 3)⟩

theorem c_spec_l1Most (p_a : Int) (p_b : Int) (r : Int) (hr : spec_l1Most p_a p_b = some r) (w0 : World) (m : Mem) (hv : Vis m w0) :
  Ret Try.prog 91 [(iV p_a),(iV p_b)] w0 (fun v _=>v = (iV r)):=by
 unfold spec_l1Most at hr
 refine ret_start Try.func91 rfl 10 rfl rfl m hv fun a hF hS=>q_seq (q_region (q_x (v:=(iV 0)) hF hS (ex_assign rfl) rfl rfl fun a hF=>q_end (n_sq (q_seq (q_seq (q_region (q_x (v:=(iV p_a)) hF hS (ex_move rfl) rfl rfl fun a hF=>q_x (v:=(iV p_b)) hF hS (ex_move rfl) rfl rfl fun a hF=>q_x (v:=(.bool (decide (p_b < p_a)))) hF hS (ex_ibin rfl rfl rfl) rfl rfl fun a hF=>q_end (n_sq ?_))))))))
 rcases bcase (decide (p_b < p_a)) with hc1 | hc1
 ·have hr:=cond_f hc1 hr
  refine q_cond_f hF rfl hc1 (q_skipc (n_sq (q_seq (q_region (q_x (v:=(iV p_b)) hF hS (ex_move rfl) rfl rfl fun a hF=>q_x (v:=(iV p_b)) hF hS (ex_assign rfl) rfl rfl fun a hF=>q_end (n_sq (q_ret ?_)))))))
  obtain rfl:=someI hr
  exact ret_of hF hS rfl (.tmp rfl .nil) rfl
 ·have hr:=cond_t hc1 hr
  refine q_cond_t hF rfl hc1 (q_seq (q_region (q_x (v:=(iV p_a)) hF hS (ex_move rfl) rfl rfl fun a hF=>q_x (v:=(iV p_a)) hF hS (ex_assign rfl) rfl rfl fun a hF=>q_end (n_sq (q_ret (r_sq ?_))))))
  obtain rfl:=someI hr
  exact ret_of hF hS rfl (.tmp rfl .nil) rfl

theorem c_spec_JoinPatterns (p_a : List (List Int)) (p_b : List (List Int)) (r : (List (List Int)) × Bool) (hr : spec_JoinPatterns p_a p_b = some r) (w0 : World) (m : Mem) (hv : Vis m w0) (s1 : Sl) (h1 : Rd m s1 p_a) (s2 : Sl) (h2 : Rd m s2 p_b) :
  Ret Try.prog 19 [s1.v,s2.v] w0 (fun v w=>∃ (m' : Mem) (q0' : Piece) (s0' : Sl),v = (.tuple #[s0'.v,(.bool r.2)])∧MLe [] w0.heap.size m m'∧St [] w0 w m' [q0']∧OwnL m' 28 q0' s0' r.1):=by
 unfold spec_JoinPatterns at hr
 refine ret_start Try.func19 rfl 71 rfl rfl m hv fun a hF hS=>q_seq (q_region (q_x (v:=nilS.v) hF hS (ex_assign rfl) rfl rfl fun a hF=>q_x (v:=(.bool false)) hF hS (ex_assign rfl) rfl rfl fun a hF=>q_end (n_sq (q_seq (q_seq ?_)))))
 obtain ⟨t_11,hj1,hr⟩:=bindS hr
 refine q_join (fun a w=>Fr a 71 [(0,s1.v),(1,s2.v),(37,(.bool t_11))]∧St [] w0 w m []) ?_ ?_
 ·refine e_region ⟨[],[]⟩ mixed fun w' hw'=>?_
  have hS:=hS.below hw'
  refine e_p (v:=s1.v) 0 hF rfl (ex_move rfl) rfl rfl (by kernel_rfl) (by kernel_rfl) (by kernel_rfl) fun a hF=>e_one 1 (by kernel_rfl) ?_
  obtain ⟨t_3,ht_3,hj1⟩:=bindS hj1
  refine e_call (vs:=[s1.v,(iV 1)]) hF hS rfl Try.func90 (by kernel_rfl) rfl rfl rfl (c_spec_qForm p_a 1 t_3 ht_3 _ m hS.vis s1 h1) ?_
  rintro a w _ rfl hF hS
  refine e_p (v:=(.bool (!t_3))) 2 hF rfl (ex_not rfl) rfl rfl (by kernel_rfl) (by kernel_rfl) (by kernel_rfl) fun a hF=>e_p (v:=(.bool (!t_3))) 3 hF rfl (ex_move rfl) rfl rfl (by kernel_rfl) (by kernel_rfl) (by kernel_rfl) fun a hF=>?_
  rcases bcase (!t_3) with hc2 | hc2
  ·have hj1:=cond_f hc2 hj1
   refine e_pg (v:=s2.v) 4 hF rfl (ex_move rfl) (wanted_t hF rfl rfl rfl hc2) rfl (by kernel_rfl) (by kernel_rfl) (by kernel_rfl) fun a hF=>e_one 5 (by kernel_rfl) ?_
   obtain ⟨t_4,ht_4,hj1⟩:=bindS hj1
   refine e_callg (vs:=[s2.v,(iV 1)]) hF hS rfl (wanted_t hF rfl rfl rfl hc2) Try.func90 (by kernel_rfl) rfl rfl rfl (c_spec_qForm p_b 1 t_4 ht_4 _ m hS.vis s2 h2) ?_
   rintro a w _ rfl hF hS
   refine e_pg (v:=(.bool (!t_4))) 6 hF rfl (ex_not rfl) (wanted_t hF rfl rfl rfl hc2) rfl (by kernel_rfl) (by kernel_rfl) (by kernel_rfl) fun a hF=>e_p (v:=(.bool (!t_4))) 7 hF rfl (ex_pick_f rfl rfl hc2) rfl rfl (by kernel_rfl) (by kernel_rfl) (by kernel_rfl) fun a hF=>e_p (v:=(.bool (!t_4))) 8 hF rfl (ex_move rfl) rfl rfl (by kernel_rfl) (by kernel_rfl) (by kernel_rfl) fun a hF=>?_
   rcases bcase (!t_4) with hc3 | hc3
   ·have hj1:=cond_f hc3 hj1
    refine e_pg (v:=s1.v) 9 hF rfl (ex_move rfl) (wanted_t hF rfl rfl rfl hc3) rfl (by kernel_rfl) (by kernel_rfl) (by kernel_rfl) fun a hF=>e_pg (v:=(iV (goLen p_a))) 10 hF rfl (ex_len Try.underlying23 rfl h1.len) (wanted_t hF rfl rfl rfl hc3) rfl (by kernel_rfl) (by kernel_rfl) (by kernel_rfl) fun a hF=>e_pg (v:=s2.v) 11 hF rfl (ex_move rfl) (wanted_t hF rfl rfl rfl hc3) rfl (by kernel_rfl) (by kernel_rfl) (by kernel_rfl) fun a hF=>e_pg (v:=(iV (goLen p_b))) 12 hF rfl (ex_len Try.underlying23 rfl h2.len) (wanted_t hF rfl rfl rfl hc3) rfl (by kernel_rfl) (by kernel_rfl) (by kernel_rfl) fun a hF=>e_pg (v:=(.bool ((goLen p_a) != (goLen p_b)))) 13 hF rfl (ex_ibin rfl rfl rfl) (wanted_t hF rfl rfl rfl hc3) rfl (by kernel_rfl) (by kernel_rfl) (by kernel_rfl) fun a hF=>e_p (v:=(.bool ((goLen p_a) != (goLen p_b)))) 14 hF rfl (ex_pick_f rfl rfl hc3) rfl rfl (by kernel_rfl) (by kernel_rfl) (by kernel_rfl) fun a hF=>e_p (v:=(.bool ((goLen p_a) != (goLen p_b)))) 15 hF rfl (ex_move rfl) rfl rfl (by kernel_rfl) (by kernel_rfl) (by kernel_rfl) fun a hF=>?_
    rcases bcase ((goLen p_a) != (goLen p_b)) with hc4 | hc4
    ·have hj1:=cond_f hc4 hj1
     refine e_pg (v:=s1.v) 16 hF rfl (ex_move rfl) (wanted_t hF rfl rfl rfl hc4) rfl (by kernel_rfl) (by kernel_rfl) (by kernel_rfl) fun a hF=>?_
     obtain ⟨e_5,he_5,hj1⟩:=bindS hj1
     obtain ⟨vs6,at6,d6⟩:=h1.at he_5 1 rfl
     obtain ⟨s7,rfl,h7⟩ : ∃ s7 : Sl,vs6 = [s7.v]∧Rd m s7 e_5:=d6
     refine e_pg (v:=(elP s1 ((0 : Int).toNat * 1))) 17 hF rfl (ex_indexAddr Try.underlying23 sz28 rfl rfl (h1.idx he_5)) (wanted_t hF rfl rfl rfl hc4) rfl (by kernel_rfl) (by kernel_rfl) (by kernel_rfl) fun a hF=>e_xg (v:=s7.v) 18 hF hS rfl (ex_loadE1 0 Try.underlying28 rfl rfl ((at6).at) rfl rfl) (wanted_t hF rfl rfl rfl hc4) rfl (by kernel_rfl) (by kernel_rfl) (by kernel_rfl) (by kernel_rfl) fun a hF=>e_pg (v:=(iV (goLen e_5))) 19 hF rfl (ex_len Try.underlying28 rfl h7.len) (wanted_t hF rfl rfl rfl hc4) rfl (by kernel_rfl) (by kernel_rfl) (by kernel_rfl) fun a hF=>e_pg (v:=s2.v) 20 hF rfl (ex_move rfl) (wanted_t hF rfl rfl rfl hc4) rfl (by kernel_rfl) (by kernel_rfl) (by kernel_rfl) fun a hF=>?_
     obtain ⟨e_8,he_8,hj1⟩:=bindS hj1
     obtain ⟨vs9,at9,d9⟩:=h2.at he_8 1 rfl
     obtain ⟨s10,rfl,h10⟩ : ∃ s10 : Sl,vs9 = [s10.v]∧Rd m s10 e_8:=d9
     refine e_pg (v:=(elP s2 ((0 : Int).toNat * 1))) 21 hF rfl (ex_indexAddr Try.underlying23 sz28 rfl rfl (h2.idx he_8)) (wanted_t hF rfl rfl rfl hc4) rfl (by kernel_rfl) (by kernel_rfl) (by kernel_rfl) fun a hF=>e_xg (v:=s10.v) 22 hF hS rfl (ex_loadE1 0 Try.underlying28 rfl rfl ((at9).at) rfl rfl) (wanted_t hF rfl rfl rfl hc4) rfl (by kernel_rfl) (by kernel_rfl) (by kernel_rfl) (by kernel_rfl) fun a hF=>e_pg (v:=(iV (goLen e_8))) 23 hF rfl (ex_len Try.underlying28 rfl h10.len) (wanted_t hF rfl rfl rfl hc4) rfl (by kernel_rfl) (by kernel_rfl) (by kernel_rfl) fun a hF=>e_pg (v:=(.bool ((goLen e_5) != (goLen e_8)))) 24 hF rfl (ex_ibin rfl rfl rfl) (wanted_t hF rfl rfl rfl hc4) rfl (by kernel_rfl) (by kernel_rfl) (by kernel_rfl) fun a hF=>e_p (v:=(.bool ((goLen e_5) != (goLen e_8)))) 25 hF rfl (ex_pick_f rfl rfl hc4) rfl rfl (by kernel_rfl) (by kernel_rfl) (by kernel_rfl) fun a hF=>e_end (by kernel_rfl) (n_jn ?_) _
     obtain rfl:=someI hj1
     exact ⟨hF.sub ⟨rfl,rfl,rfl,trivial⟩,hS⟩
    ·have hj1:=cond_t hc4 hj1
     refine e_skipP 16 hF rfl (wanted_f hF rfl rfl rfl hc4 rfl) rfl (by kernel_rfl) (by kernel_rfl) (by kernel_rfl) fun a hF=>e_skipP 17 hF rfl (wanted_f hF rfl rfl rfl hc4 rfl) rfl (by kernel_rfl) (by kernel_rfl) (by kernel_rfl) fun a hF=>e_skipP 18 hF rfl (wanted_f hF rfl rfl rfl hc4 rfl) rfl (by kernel_rfl) (by kernel_rfl) (by kernel_rfl) fun a hF=>e_skipP 19 hF rfl (wanted_f hF rfl rfl rfl hc4 rfl) rfl (by kernel_rfl) (by kernel_rfl) (by kernel_rfl) fun a hF=>e_skipP 20 hF rfl (wanted_f hF rfl rfl rfl hc4 rfl) rfl (by kernel_rfl) (by kernel_rfl) (by kernel_rfl) fun a hF=>e_skipP 21 hF rfl (wanted_f hF rfl rfl rfl hc4 rfl) rfl (by kernel_rfl) (by kernel_rfl) (by kernel_rfl) fun a hF=>e_skipP 22 hF rfl (wanted_f hF rfl rfl rfl hc4 rfl) rfl (by kernel_rfl) (by kernel_rfl) (by kernel_rfl) fun a hF=>e_skipP 23 hF rfl (wanted_f hF rfl rfl rfl hc4 rfl) rfl (by kernel_rfl) (by kernel_rfl) (by kernel_rfl) fun a hF=>e_skipP 24 hF rfl (wanted_f hF rfl rfl rfl hc4 rfl) rfl (by kernel_rfl) (by kernel_rfl) (by kernel_rfl) fun a hF=>e_p (v:=(.bool true)) 25 hF rfl (ex_pick_t rfl rfl hc4) rfl rfl (by kernel_rfl) (by kernel_rfl) (by kernel_rfl) fun a hF=>e_end (by kernel_rfl) (n_jn ?_) _
     obtain rfl:=someI hj1
     exact ⟨hF.sub ⟨rfl,rfl,rfl,trivial⟩,hS⟩
   ·have hj1:=cond_t hc3 hj1
    refine e_skipP 9 hF rfl (wanted_f hF rfl rfl rfl hc3 rfl) rfl (by kernel_rfl) (by kernel_rfl) (by kernel_rfl) fun a hF=>e_skipP 10 hF rfl (wanted_f hF rfl rfl rfl hc3 rfl) rfl (by kernel_rfl) (by kernel_rfl) (by kernel_rfl) fun a hF=>e_skipP 11 hF rfl (wanted_f hF rfl rfl rfl hc3 rfl) rfl (by kernel_rfl) (by kernel_rfl) (by kernel_rfl) fun a hF=>e_skipP 12 hF rfl (wanted_f hF rfl rfl rfl hc3 rfl) rfl (by kernel_rfl) (by kernel_rfl) (by kernel_rfl) fun a hF=>e_skipP 13 hF rfl (wanted_f hF rfl rfl rfl hc3 rfl) rfl (by kernel_rfl) (by kernel_rfl) (by kernel_rfl) fun a hF=>e_p (v:=(.bool true)) 14 hF rfl (ex_pick_t rfl rfl hc3) rfl rfl (by kernel_rfl) (by kernel_rfl) (by kernel_rfl) fun a hF=>e_p (v:=(.bool true)) 15 hF rfl (ex_move rfl) rfl rfl (by kernel_rfl) (by kernel_rfl) (by kernel_rfl) fun a hF=>e_skipP 16 hF rfl (wanted_f hF rfl rfl rfl rfl rfl) rfl (by kernel_rfl) (by kernel_rfl) (by kernel_rfl) fun a hF=>e_skipP 17 hF rfl (wanted_f hF rfl rfl rfl rfl rfl) rfl (by kernel_rfl) (by kernel_rfl) (by kernel_rfl) fun a hF=>e_skipP 18 hF rfl (wanted_f hF rfl rfl rfl rfl rfl) rfl (by kernel_rfl) (by kernel_rfl) (by kernel_rfl) fun a hF=>e_skipP 19 hF rfl (wanted_f hF rfl rfl rfl rfl rfl) rfl (by kernel_rfl) (by kernel_rfl) (by kernel_rfl) fun a hF=>e_skipP 20 hF rfl (wanted_f hF rfl rfl rfl rfl rfl) rfl (by kernel_rfl) (by kernel_rfl) (by kernel_rfl) fun a hF=>e_skipP 21 hF rfl (wanted_f hF rfl rfl rfl rfl rfl) rfl (by kernel_rfl) (by kernel_rfl) (by kernel_rfl) fun a hF=>e_skipP 22 hF rfl (wanted_f hF rfl rfl rfl rfl rfl) rfl (by kernel_rfl) (by kernel_rfl) (by kernel_rfl) fun a hF=>e_skipP 23 hF rfl (wanted_f hF rfl rfl rfl rfl rfl) rfl (by kernel_rfl) (by kernel_rfl) (by kernel_rfl) fun a hF=>e_skipP 24 hF rfl (wanted_f hF rfl rfl rfl rfl rfl) rfl (by kernel_rfl) (by kernel_rfl) (by kernel_rfl) fun a hF=>e_p (v:=(.bool true)) 25 hF rfl (ex_pick_t rfl rfl rfl) rfl rfl (by kernel_rfl) (by kernel_rfl) (by kernel_rfl) fun a hF=>e_end (by kernel_rfl) (n_jn ?_) _
    obtain rfl:=someI hj1
    exact ⟨hF.sub ⟨rfl,rfl,rfl,trivial⟩,hS⟩
  ·have hj1:=cond_t hc2 hj1
   refine e_skipP 4 hF rfl (wanted_f hF rfl rfl rfl hc2 rfl) rfl (by kernel_rfl) (by kernel_rfl) (by kernel_rfl) fun a hF=>e_skipP 5 hF rfl (wanted_f hF rfl rfl rfl hc2 rfl) rfl (by kernel_rfl) (by kernel_rfl) (by kernel_rfl) fun a hF=>e_skipP 6 hF rfl (wanted_f hF rfl rfl rfl hc2 rfl) rfl (by kernel_rfl) (by kernel_rfl) (by kernel_rfl) fun a hF=>e_p (v:=(.bool true)) 7 hF rfl (ex_pick_t rfl rfl hc2) rfl rfl (by kernel_rfl) (by kernel_rfl) (by kernel_rfl) fun a hF=>e_p (v:=(.bool true)) 8 hF rfl (ex_move rfl) rfl rfl (by kernel_rfl) (by kernel_rfl) (by kernel_rfl) fun a hF=>e_skipP 9 hF rfl (wanted_f hF rfl rfl rfl rfl rfl) rfl (by kernel_rfl) (by kernel_rfl) (by kernel_rfl) fun a hF=>e_skipP 10 hF rfl (wanted_f hF rfl rfl rfl rfl rfl) rfl (by kernel_rfl) (by kernel_rfl) (by kernel_rfl) fun a hF=>e_skipP 11 hF rfl (wanted_f hF rfl rfl rfl rfl rfl) rfl (by kernel_rfl) (by kernel_rfl) (by kernel_rfl) fun a hF=>e_skipP 12 hF rfl (wanted_f hF rfl rfl rfl rfl rfl) rfl (by kernel_rfl) (by kernel_rfl) (by kernel_rfl) fun a hF=>e_skipP 13 hF rfl (wanted_f hF rfl rfl rfl rfl rfl) rfl (by kernel_rfl) (by kernel_rfl) (by kernel_rfl) fun a hF=>e_p (v:=(.bool true)) 14 hF rfl (ex_pick_t rfl rfl rfl) rfl rfl (by kernel_rfl) (by kernel_rfl) (by kernel_rfl) fun a hF=>e_p (v:=(.bool true)) 15 hF rfl (ex_move rfl) rfl rfl (by kernel_rfl) (by kernel_rfl) (by kernel_rfl) fun a hF=>e_skipP 16 hF rfl (wanted_f hF rfl rfl rfl rfl rfl) rfl (by kernel_rfl) (by kernel_rfl) (by kernel_rfl) fun a hF=>e_skipP 17 hF rfl (wanted_f hF rfl rfl rfl rfl rfl) rfl (by kernel_rfl) (by kernel_rfl) (by kernel_rfl) fun a hF=>e_skipP 18 hF rfl (wanted_f hF rfl rfl rfl rfl rfl) rfl (by kernel_rfl) (by kernel_rfl) (by kernel_rfl) fun a hF=>e_skipP 19 hF rfl (wanted_f hF rfl rfl rfl rfl rfl) rfl (by kernel_rfl) (by kernel_rfl) (by kernel_rfl) fun a hF=>e_skipP 20 hF rfl (wanted_f hF rfl rfl rfl rfl rfl) rfl (by kernel_rfl) (by kernel_rfl) (by kernel_rfl) fun a hF=>e_skipP 21 hF rfl (wanted_f hF rfl rfl rfl rfl rfl) rfl (by kernel_rfl) (by kernel_rfl) (by kernel_rfl) fun a hF=>e_skipP 22 hF rfl (wanted_f hF rfl rfl rfl rfl rfl) rfl (by kernel_rfl) (by kernel_rfl) (by kernel_rfl) fun a hF=>e_skipP 23 hF rfl (wanted_f hF rfl rfl rfl rfl rfl) rfl (by kernel_rfl) (by kernel_rfl) (by kernel_rfl) fun a hF=>e_skipP 24 hF rfl (wanted_f hF rfl rfl rfl rfl rfl) rfl (by kernel_rfl) (by kernel_rfl) (by kernel_rfl) fun a hF=>e_p (v:=(.bool true)) 25 hF rfl (ex_pick_t rfl rfl rfl) rfl rfl (by kernel_rfl) (by kernel_rfl) (by kernel_rfl) fun a hF=>e_end (by kernel_rfl) (n_jn ?_) _
   obtain rfl:=someI hj1
   exact ⟨hF.sub ⟨rfl,rfl,rfl,trivial⟩,hS⟩
 ·rintro a w ⟨hF,hS⟩
  refine n_sq ?_
  rcases bcase (t_11) with hc5 | hc5
  ·have hr:=cond_f hc5 hr
   refine q_cond_f hF rfl hc5 (q_skipc (n_sq (q_seq (q_region (q_x (v:=nilS.v) hF hS (ex_assign rfl) rfl rfl fun a hF=>q_end (n_sq (q_seq (q_seq (q_region (q_x (v:=s1.v) hF hS (ex_move rfl) rfl rfl fun a hF=>q_x (v:=(iV (goLen p_a))) hF hS (ex_len Try.underlying23 rfl h1.len) rfl rfl fun a hF=>q_x (v:=(iV 0)) hF hS (ex_move rfl) rfl rfl fun a hF=>q_end (n_sq (q_block ?_))))))))))))
   obtain ⟨out_39,hl6,hr⟩:=bindS hr
   refine q_loop (fun (s : (List (List Int)) × Int) a w=>∃ (m15 : Mem),∃ (q13 : Piece),∃ (s13 : Sl),∃ out_12,∃ t_14,s = (out_12,t_14)∧Fr a 71 [(1,s2.v),(6,s13.v),(38,s1.v),(39,(iV (goLen p_a))),(40,(iV t_14))]∧St [] w0 w m15 [q13]∧MLe [] w0.heap.size m m15∧OwnL m15 28 q13 s13 out_12) (fun (out_39 : (List (List Int))) e a w=>∃ (m41 : Mem),∃ (q40 : Piece),∃ (s40 : Sl),e = .exit 0∧Fr a 71 [(6,s40.v)]∧St [] w0 w m41 [q40]∧MLe [] w0.heap.size m m41∧OwnL m41 28 q40 s40 out_39) hl6 ⟨m,[],nilS,_,_,rfl,hF.sub ⟨rfl,rfl,rfl,rfl,rfl,trivial⟩,hS.sel [0] (by decide),(MLe.refl _ _),(OwnL.nil (α:=List Int) m 28)⟩ ?_ ?_
   ·clear hF hS
    rintro s a w st ⟨m15,q13,s13,out_12,t_14,rfl,hF,hS,hm15,h13⟩ hb6
    unfold spec_JoinPatterns_l1 at hb6
    refine q_seq (q_region (q_x (v:=(.bool (decide (t_14 < (goLen p_a))))) hF hS (ex_ibin rfl rfl rfl) rfl rfl fun a hF=>q_end (n_sq (q_seq ?_))))
    rcases bcase (decide (t_14 < (goLen p_a))) with hc7 | hc7
    ·have hb6:=cond_f hc7 hb6
     refine q_cond_f hF rfl hc7 (q_exit (x_sq ?_))
     obtain rfl:=someI hb6
     exact ⟨nofun,.inl ⟨m15,q13,s13,rfl,hF.sub ⟨rfl,trivial⟩,hS,hm15,h13⟩⟩
    ·have hb6:=cond_t hc7 hb6
     refine q_cond_t hF rfl hc7 (q_skipc (n_sq (q_seq (q_block (q_seq (q_region (q_x (v:=(iV t_14)) hF hS (ex_move rfl) rfl rfl fun a hF=>?_)))))))
     obtain ⟨e_16,he_16,hb6⟩:=bindS hb6
     obtain ⟨vs17,at17,d17⟩:=(h1.mono hm15.le).at he_16 1 rfl
     obtain ⟨s18,rfl,h18⟩ : ∃ s18 : Sl,vs17 = [s18.v]∧Rd m15 s18 e_16:=d17
     refine q_x (v:=(elP s1 (t_14.toNat * 1))) hF hS (ex_indexAddr Try.underlying23 sz28 rfl rfl ((h1.mono hm15.le).idx he_16)) rfl rfl fun a hF=>q_x (v:=s18.v) hF hS (ex_loadE1 0 Try.underlying28 rfl rfl ((at17).at) rfl rfl) rfl rfl fun a hF=>q_x (v:=(iV t_14)) hF hS (ex_assign rfl) rfl rfl fun a hF=>q_x (v:=s18.v) hF hS (ex_assign rfl) rfl rfl fun a hF=>q_end (n_sq (q_seq (q_region (q_x (v:=nilS.v) hF hS (ex_assign rfl) rfl rfl fun a hF=>q_end (n_sq (q_seq (q_seq (q_region (q_x (v:=s18.v) hF hS (ex_move rfl) rfl rfl fun a hF=>q_x (v:=(iV (goLen e_16))) hF hS (ex_len Try.underlying28 rfl h18.len) rfl rfl fun a hF=>q_x (v:=(iV 0)) hF hS (ex_move rfl) rfl rfl fun a hF=>q_end (n_sq (q_block ?_)))))))))))
     obtain ⟨l_33,hl8,hb6⟩:=bindS hb6
     refine q_loop (fun (s : (List Int) × Int) a w=>∃ (q20 : Piece),∃ (s20 : Sl),∃ l_19,∃ t_21,s = (l_19,t_21)∧Fr a 71 [(1,s2.v),(6,s13.v),(7,(iV t_14)),(9,s20.v),(38,s1.v),(39,(iV (goLen p_a))),(40,(iV t_14)),(45,s18.v),(46,(iV (goLen e_16))),(47,(iV t_21))]∧St [] w0 w m15 [q20,q13]∧OwnL m15 3 q20 s20 l_19) (fun (l_33 : (List Int)) e a w=>∃ (q34 : Piece),∃ (s34 : Sl),e = .exit 2∧Fr a 71 [(1,s2.v),(6,s13.v),(9,s34.v),(38,s1.v),(39,(iV (goLen p_a))),(40,(iV t_14))]∧St [] w0 w m15 [q13,q34]∧OwnL m15 3 q34 s34 l_33) hl8 ⟨[],nilS,_,_,rfl,hF.sub ⟨rfl,rfl,rfl,rfl,rfl,rfl,rfl,rfl,rfl,rfl,trivial⟩,hS.sel [1,0] (by decide),(OwnL.nil (α:=Int) m15 3)⟩ ?_ ?_
     ·clear hF hS
      rintro s a w st ⟨q20,s20,l_19,t_21,rfl,hF,hS,h20⟩ hb8
      unfold spec_JoinPatterns_l2 at hb8
      refine q_seq (q_region (q_x (v:=(.bool (decide (t_21 < (goLen e_16))))) hF hS (ex_ibin rfl rfl rfl) rfl rfl fun a hF=>q_end (n_sq (q_seq ?_))))
      rcases bcase (decide (t_21 < (goLen e_16))) with hc9 | hc9
      ·have hb8:=cond_f hc9 hb8
       refine q_cond_f hF rfl hc9 (q_exit (x_sq ?_))
       obtain rfl:=someI hb8
       exact ⟨nofun,.inl ⟨q20,s20,rfl,hF.sub ⟨rfl,rfl,rfl,rfl,rfl,rfl,trivial⟩,hS.sel [1,0] (by decide),h20⟩⟩
      ·have hb8:=cond_t hc9 hb8
       refine q_cond_t hF rfl hc9 (q_skipc (n_sq (q_seq (q_block (q_seq (q_region (q_x (v:=(iV t_21)) hF hS (ex_move rfl) rfl rfl fun a hF=>?_)))))))
       obtain ⟨e_22,he_22,hb8⟩:=bindS hb8
       obtain ⟨vs23,at23,d23⟩:=h18.at he_22 1 rfl
       obtain rfl : vs23 = [(iV e_22)]:=d23
       refine q_x (v:=(elP s18 (t_21.toNat * 1))) hF hS (ex_indexAddr Try.underlying28 sz3 rfl rfl (h18.idx he_22)) rfl rfl fun a hF=>q_x (v:=(iV e_22)) hF hS (ex_loadE1 0 Try.underlying3 rfl rfl ((at23).at) rfl rfl) rfl rfl fun a hF=>q_x (v:=(iV t_21)) hF hS (ex_assign rfl) rfl rfl fun a hF=>q_x (v:=(iV e_22)) hF hS (ex_assign rfl) rfl rfl fun a hF=>q_end (n_sq (q_region (q_x (v:=s20.v) hF hS (ex_move rfl) rfl rfl fun a hF=>q_x (v:=(iV e_22)) hF hS (ex_move rfl) rfl rfl fun a hF=>q_x (v:=s2.v) hF hS (ex_move rfl) rfl rfl fun a hF=>q_x (v:=(iV t_14)) hF hS (ex_move rfl) rfl rfl fun a hF=>?_)))
       obtain ⟨e_24,he_24,hb8⟩:=bindS hb8
       obtain ⟨vs25,at25,d25⟩:=(h2.mono hm15.le).at he_24 1 rfl
       obtain ⟨s26,rfl,h26⟩ : ∃ s26 : Sl,vs25 = [s26.v]∧Rd m15 s26 e_24:=d25
       refine q_x (v:=(elP s2 (t_14.toNat * 1))) hF hS (ex_indexAddr Try.underlying23 sz28 rfl rfl ((h2.mono hm15.le).idx he_24)) rfl rfl fun a hF=>q_x (v:=s26.v) hF hS (ex_loadE1 0 Try.underlying28 rfl rfl ((at25).at) rfl rfl) rfl rfl fun a hF=>q_x (v:=(iV t_21)) hF hS (ex_move rfl) rfl rfl fun a hF=>?_
       obtain ⟨e_27,he_27,hb8⟩:=bindS hb8
       obtain ⟨vs28,at28,d28⟩:=h26.at he_27 1 rfl
       obtain rfl : vs28 = [(iV e_27)]:=d28
       refine q_x (v:=(elP s26 (t_21.toNat * 1))) hF hS (ex_indexAddr Try.underlying28 sz3 rfl rfl (h26.idx he_27)) rfl rfl fun a hF=>q_x (v:=(iV e_27)) hF hS (ex_loadE1 0 Try.underlying3 rfl rfl ((at28).at) rfl rfl) rfl rfl fun a hF=>?_
       obtain ⟨t_29,ht_29,hb8⟩:=bindS hb8
       refine q_call (vs:=[(iV e_22),(iV e_27)]) hF hS Try.func91 (by kernel_rfl) rfl rfl rfl (c_spec_l1Most e_22 e_27 t_29 ht_29 _ m15 hS.vis) ?_
       rintro a w _ rfl hF hS
       refine q_do rfl fun _ hK=>wp_buildSlice' (l:=([t_29] : List Int)) (cells:=[(iV t_29)]) hF hS Try.underlying28 inf3 rfl rfl (by kernel_rfl) rfl rfl rfl ⟨rfl,rfl⟩ rfl rfl fun a w q30 s30 hF hS h30 _=>hK _ _ ?_
       have hS : St _ _ _ _ [q20,q30,q13]:=hS.sel [1,0,2] (by decide)
       obtain ⟨l_31,hl_31,hb8⟩:=bindS hb8
       refine q_do rfl fun _ hK=>wp_append hF hS h20 Try.underlying28 inf3 rfl rfl rfl rfl (h30.vw hS (j:=1) rfl) rfl (by decide) hl_31 rfl fun a w q32 s32 hF hS h32=>hK _ _ (q_x (v:=s32.v) hF hS (ex_assign rfl) rfl rfl fun a hF=>q_end (n_ib (n_sq (q_region (q_x (v:=(iV (w64 (t_21 + 1)))) hF hS (ex_ibin rfl rfl rfl) rfl rfl fun a hF=>q_x (v:=(iV (w64 (t_21 + 1)))) hF hS (ex_move rfl) rfl rfl fun a hF=>q_end ?_)))))
       obtain rfl:=someI hb8
       exact ⟨rfl,q32,s32,_,_,rfl,hF.sub ⟨rfl,rfl,rfl,rfl,rfl,rfl,rfl,rfl,rfl,rfl,trivial⟩,hS.mask [true,false,true],h32⟩
     ·rintro e a w ⟨q34,s34,rfl,hF,hS,h34⟩
      refine x_ib (n_sq ?_)
      refine q_region (q_x (v:=s13.v) hF hS (ex_move rfl) rfl rfl fun a hF=>q_x (v:=s34.v) hF hS (ex_move rfl) rfl rfl fun a hF=>?_)
      have hS : St _ _ _ _ [q34,q13]:=hS.sel [1,0] (by decide)
      obtain ⟨m36,hm36,hS,hz36⟩:=hS.freeze
      have h36:=h34.froz hm36.le hz36
      refine q_do rfl fun _ hK=>wp_buildSlice' (l:=([l_33] : List (List Int))) (cells:=[s34.v]) hF hS Try.underlying23 inf28 rfl rfl (by kernel_rfl) rfl rfl rfl ⟨⟨s34,rfl,h36⟩,rfl⟩ rfl rfl fun a w q35 s35 hF hS h35 _=>hK _ _ ?_
      have hS : St _ _ _ _ [q13,q35]:=hS.sel [1,0] (by decide)
      obtain ⟨l_37,hl_37,hb6⟩:=bindS hb6
      refine q_do rfl fun _ hK=>wp_append hF hS (h13.mono hm36.le) Try.underlying23 inf28 rfl rfl rfl rfl (h35.vw hS (j:=1) rfl) rfl (by decide) hl_37 rfl fun a w q38 s38 hF hS h38=>hK _ _ (q_x (v:=s38.v) hF hS (ex_assign rfl) rfl rfl fun a hF=>q_end (n_ib (n_sq (q_region (q_x (v:=(iV (w64 (t_14 + 1)))) hF hS (ex_ibin rfl rfl rfl) rfl rfl fun a hF=>q_x (v:=(iV (w64 (t_14 + 1)))) hF hS (ex_move rfl) rfl rfl fun a hF=>q_end ?_)))))
      obtain rfl:=someI hb6
      exact ⟨rfl,m36,q38,s38,_,_,rfl,hF.sub ⟨rfl,rfl,rfl,rfl,rfl,trivial⟩,hS.mask [true,false],(hm15.trans hm36),h38⟩
   ·rintro e a w ⟨m41,q40,s40,rfl,hF,hS,hm41,h40⟩
    refine x_ib (n_sq ?_)
    refine q_seq (q_region (q_x (v:=s40.v) hF hS (ex_move rfl) rfl rfl fun a hF=>q_x (v:=s40.v) hF hS (ex_assign rfl) rfl rfl fun a hF=>q_x (v:=(.bool true)) hF hS (ex_assign rfl) rfl rfl fun a hF=>q_end (n_sq (q_ret ?_))))
    obtain rfl:=someI hr
    exact ret_of hF hS rfl (.tmp rfl (.tmp rfl .nil)) ⟨m41,q40,s40,rfl,hm41,hS.sel [0] (by decide),h40⟩
  ·have hr:=cond_t hc5 hr
   refine q_cond_t hF rfl hc5 (q_seq (q_region (q_x (v:=nilS.v) hF hS (ex_assign rfl) rfl rfl fun a hF=>q_x (v:=(.bool false)) hF hS (ex_assign rfl) rfl rfl fun a hF=>q_end (n_sq (q_ret (r_sq ?_))))))
   obtain rfl:=someI hr
   exact ret_of hF hS rfl (.tmp rfl (.tmp rfl .nil)) ⟨m,[],nilS,rfl,(MLe.refl _ _),hS.sel [0] (by decide),(OwnL.nil (α:=List Int) m 28)⟩

theorem c_laws_qInts (p_a : List Int) (p_b : List Int) (r : Bool) (hr : laws_qInts p_a p_b = some r) (w0 : World) (m : Mem) (hv : Vis m w0) (s1 : Sl) (h1 : Rd m s1 p_a) (s2 : Sl) (h2 : Rd m s2 p_b) :
  Ret Try.prog 92 [s1.v,s2.v] w0 (fun v _=>v = (.bool r)):=by
 unfold laws_qInts at hr
 refine ret_start Try.func92 rfl 26 rfl rfl m hv fun a hF hS=>q_seq (q_region (q_x (v:=(.bool false)) hF hS (ex_assign rfl) rfl rfl fun a hF=>q_end (n_sq (q_seq (q_seq (q_region (q_x (v:=s1.v) hF hS (ex_move rfl) rfl rfl fun a hF=>q_x (v:=(iV (goLen p_a))) hF hS (ex_len Try.underlying28 rfl h1.len) rfl rfl fun a hF=>q_x (v:=s2.v) hF hS (ex_move rfl) rfl rfl fun a hF=>q_x (v:=(iV (goLen p_b))) hF hS (ex_len Try.underlying28 rfl h2.len) rfl rfl fun a hF=>q_x (v:=(.bool ((goLen p_a) != (goLen p_b)))) hF hS (ex_ibin rfl rfl rfl) rfl rfl fun a hF=>q_end (n_sq ?_))))))))
 rcases bcase ((goLen p_a) != (goLen p_b)) with hc1 | hc1
 ·have hr:=cond_f hc1 hr
  refine q_cond_f hF rfl hc1 (q_skipc (n_sq (q_seq (q_seq (q_region (q_x (v:=s1.v) hF hS (ex_move rfl) rfl rfl fun a hF=>q_x (v:=(iV (goLen p_a))) hF hS (ex_len Try.underlying28 rfl h1.len) rfl rfl fun a hF=>q_x (v:=(iV 0)) hF hS (ex_move rfl) rfl rfl fun a hF=>q_end (n_sq (q_block ?_))))))))
  obtain ⟨o2,hl2,hr⟩:=bindS hr
  refine q_loop (fun (t_3 : Int) a w=>Fr a 26 [(0,s1.v),(1,s2.v),(12,(iV (goLen p_a))),(13,(iV t_3))]∧St [] w0 w m []) (fun (o : (Unit) ⊕ (Bool)) e a w=>o = .inl ()∧e = .exit 0∧Fr a 26 []∧St [] w0 w m []) hl2 ⟨hF.sub ⟨rfl,rfl,rfl,rfl,trivial⟩,hS⟩ ?_ ?_
  ·clear hF hS
   rintro t_3 a w st ⟨hF,hS⟩ hb2
   unfold laws_qInts_l1 at hb2
   refine q_seq (q_region (q_x (v:=(.bool (decide (t_3 < (goLen p_a))))) hF hS (ex_ibin rfl rfl rfl) rfl rfl fun a hF=>q_end (n_sq (q_seq ?_))))
   rcases bcase (decide (t_3 < (goLen p_a))) with hc3 | hc3
   ·have hb2:=cond_f hc3 hb2
    refine q_cond_f hF rfl hc3 (q_exit (x_sq ?_))
    obtain rfl:=someI hb2
    exact ⟨nofun,.inl ⟨rfl,rfl,hF.sub trivial,hS⟩⟩
   ·have hb2:=cond_t hc3 hb2
    refine q_cond_t hF rfl hc3 (q_skipc (n_sq (q_seq (q_block (q_seq (q_region (q_x (v:=(iV t_3)) hF hS (ex_move rfl) rfl rfl fun a hF=>q_x (v:=(iV t_3)) hF hS (ex_assign rfl) rfl rfl fun a hF=>q_end (n_sq (q_seq (e_region ⟨[],[]⟩ mixed fun w' hw'=>?_))))))))))
    have hS:=hS.below hw'
    refine e_p (v:=s1.v) 0 hF rfl (ex_move rfl) rfl rfl (by kernel_rfl) (by kernel_rfl) (by kernel_rfl) fun a hF=>e_p (v:=(iV t_3)) 1 hF rfl (ex_move rfl) rfl rfl (by kernel_rfl) (by kernel_rfl) (by kernel_rfl) fun a hF=>?_
    obtain ⟨e_4,he_4,hb2⟩:=bindS hb2
    obtain ⟨vs5,at5,d5⟩:=h1.at he_4 1 rfl
    obtain rfl : vs5 = [(iV e_4)]:=d5
    refine e_p (v:=(elP s1 (t_3.toNat * 1))) 2 hF rfl (ex_indexAddr Try.underlying28 sz3 rfl rfl (h1.idx he_4)) rfl rfl (by kernel_rfl) (by kernel_rfl) (by kernel_rfl) fun a hF=>e_x (v:=(iV e_4)) 3 hF hS rfl (ex_loadE1 0 Try.underlying3 rfl rfl ((at5).at) rfl rfl) rfl rfl (by kernel_rfl) (by kernel_rfl) (by kernel_rfl) (by kernel_rfl) fun a hF=>e_p (v:=s2.v) 4 hF rfl (ex_move rfl) rfl rfl (by kernel_rfl) (by kernel_rfl) (by kernel_rfl) fun a hF=>e_p (v:=(iV t_3)) 5 hF rfl (ex_move rfl) rfl rfl (by kernel_rfl) (by kernel_rfl) (by kernel_rfl) fun a hF=>?_
    obtain ⟨e_6,he_6,hb2⟩:=bindS hb2
    obtain ⟨vs7,at7,d7⟩:=h2.at he_6 1 rfl
    obtain rfl : vs7 = [(iV e_6)]:=d7
    refine e_p (v:=(elP s2 (t_3.toNat * 1))) 6 hF rfl (ex_indexAddr Try.underlying28 sz3 rfl rfl (h2.idx he_6)) rfl rfl (by kernel_rfl) (by kernel_rfl) (by kernel_rfl) fun a hF=>e_x (v:=(iV e_6)) 7 hF hS rfl (ex_loadE1 0 Try.underlying3 rfl rfl ((at7).at) rfl rfl) rfl rfl (by kernel_rfl) (by kernel_rfl) (by kernel_rfl) (by kernel_rfl) fun a hF=>e_p (v:=(.bool (e_4 != e_6))) 8 hF rfl (ex_ibin rfl rfl rfl) rfl rfl (by kernel_rfl) (by kernel_rfl) (by kernel_rfl) fun a hF=>e_end (by kernel_rfl) (n_sq ?_) _
    rcases bcase (e_4 != e_6) with hc4 | hc4
    ·have hb2:=cond_f hc4 hb2
     refine q_cond_f hF rfl hc4 (q_skipc (n_ib (n_sq (q_region (q_x (v:=(iV (w64 (t_3 + 1)))) hF hS (ex_ibin rfl rfl rfl) rfl rfl fun a hF=>q_x (v:=(iV (w64 (t_3 + 1)))) hF hS (ex_move rfl) rfl rfl fun a hF=>q_end ?_)))))
     obtain rfl:=someI hb2
     exact ⟨rfl,hF.sub ⟨rfl,rfl,rfl,rfl,trivial⟩,hS⟩
    ·have hb2:=cond_t hc4 hb2
     refine q_cond_t hF rfl hc4 (q_seq (q_region (q_x (v:=(.bool false)) hF hS (ex_assign rfl) rfl rfl fun a hF=>q_end (n_sq (q_ret (r_ib (r_sq ?_)))))))
     obtain rfl:=someI hb2
     refine ⟨nofun,.inr fun ho=>?_⟩
     subst ho
     refine r_ib (r_sq ?_)
     obtain rfl:=someI hr
     exact ret_of hF hS rfl (.tmp rfl .nil) rfl
  ·rintro e a w ⟨rfl,rfl,hF,hS⟩
   refine x_ib (n_sq ?_)
   refine q_seq (q_region (q_x (v:=(.bool true)) hF hS (ex_assign rfl) rfl rfl fun a hF=>q_end (n_sq (q_ret ?_))))
   obtain rfl:=someI hr
   exact ret_of hF hS rfl (.tmp rfl .nil) rfl
 ·have hr:=cond_t hc1 hr
  refine q_cond_t hF rfl hc1 (q_seq (q_region (q_x (v:=(.bool false)) hF hS (ex_assign rfl) rfl rfl fun a hF=>q_end (n_sq (q_ret (r_sq ?_))))))
  obtain rfl:=someI hr
  exact ret_of hF hS rfl (.tmp rfl .nil) rfl

theorem c_laws_qLists (p_a : List (List Int)) (p_b : List (List Int)) (r : Bool) (hr : laws_qLists p_a p_b = some r) (w0 : World) (m : Mem) (hv : Vis m w0) (s1 : Sl) (h1 : Rd m s1 p_a) (s2 : Sl) (h2 : Rd m s2 p_b) :
  Ret Try.prog 20 [s1.v,s2.v] w0 (fun v _=>v = (.bool r)):=by
 unfold laws_qLists at hr
 refine ret_start Try.func20 rfl 27 rfl rfl m hv fun a hF hS=>q_seq (q_region (q_x (v:=(.bool false)) hF hS (ex_assign rfl) rfl rfl fun a hF=>q_end (n_sq (q_seq (q_seq (q_region (q_x (v:=s1.v) hF hS (ex_move rfl) rfl rfl fun a hF=>q_x (v:=(iV (goLen p_a))) hF hS (ex_len Try.underlying23 rfl h1.len) rfl rfl fun a hF=>q_x (v:=s2.v) hF hS (ex_move rfl) rfl rfl fun a hF=>q_x (v:=(iV (goLen p_b))) hF hS (ex_len Try.underlying23 rfl h2.len) rfl rfl fun a hF=>q_x (v:=(.bool ((goLen p_a) != (goLen p_b)))) hF hS (ex_ibin rfl rfl rfl) rfl rfl fun a hF=>q_end (n_sq ?_))))))))
 rcases bcase ((goLen p_a) != (goLen p_b)) with hc1 | hc1
 ·have hr:=cond_f hc1 hr
  refine q_cond_f hF rfl hc1 (q_skipc (n_sq (q_seq (q_seq (q_region (q_x (v:=s1.v) hF hS (ex_move rfl) rfl rfl fun a hF=>q_x (v:=(iV (goLen p_a))) hF hS (ex_len Try.underlying23 rfl h1.len) rfl rfl fun a hF=>q_x (v:=(iV 0)) hF hS (ex_move rfl) rfl rfl fun a hF=>q_end (n_sq (q_block ?_))))))))
  obtain ⟨o2,hl2,hr⟩:=bindS hr
  refine q_loop (fun (t_3 : Int) a w=>Fr a 27 [(0,s1.v),(1,s2.v),(12,(iV (goLen p_a))),(13,(iV t_3))]∧St [] w0 w m []) (fun (o : (Unit) ⊕ (Bool)) e a w=>o = .inl ()∧e = .exit 0∧Fr a 27 []∧St [] w0 w m []) hl2 ⟨hF.sub ⟨rfl,rfl,rfl,rfl,trivial⟩,hS⟩ ?_ ?_
  ·clear hF hS
   rintro t_3 a w st ⟨hF,hS⟩ hb2
   unfold laws_qLists_l1 at hb2
   refine q_seq (q_region (q_x (v:=(.bool (decide (t_3 < (goLen p_a))))) hF hS (ex_ibin rfl rfl rfl) rfl rfl fun a hF=>q_end (n_sq (q_seq ?_))))
   rcases bcase (decide (t_3 < (goLen p_a))) with hc3 | hc3
   ·have hb2:=cond_f hc3 hb2
    refine q_cond_f hF rfl hc3 (q_exit (x_sq ?_))
    obtain rfl:=someI hb2
    exact ⟨nofun,.inl ⟨rfl,rfl,hF.sub trivial,hS⟩⟩
   ·have hb2:=cond_t hc3 hb2
    refine q_cond_t hF rfl hc3 (q_skipc (n_sq (q_seq (q_block (q_seq (q_region (q_x (v:=(iV t_3)) hF hS (ex_move rfl) rfl rfl fun a hF=>q_x (v:=(iV t_3)) hF hS (ex_assign rfl) rfl rfl fun a hF=>q_end (n_sq (q_seq (e_region ⟨[],[]⟩ mixed fun w' hw'=>?_))))))))))
    have hS:=hS.below hw'
    refine e_p (v:=s1.v) 0 hF rfl (ex_move rfl) rfl rfl (by kernel_rfl) (by kernel_rfl) (by kernel_rfl) fun a hF=>e_p (v:=(iV t_3)) 1 hF rfl (ex_move rfl) rfl rfl (by kernel_rfl) (by kernel_rfl) (by kernel_rfl) fun a hF=>?_
    obtain ⟨e_4,he_4,hb2⟩:=bindS hb2
    obtain ⟨vs5,at5,d5⟩:=h1.at he_4 1 rfl
    obtain ⟨s6,rfl,h6⟩ : ∃ s6 : Sl,vs5 = [s6.v]∧Rd m s6 e_4:=d5
    refine e_p (v:=(elP s1 (t_3.toNat * 1))) 2 hF rfl (ex_indexAddr Try.underlying23 sz28 rfl rfl (h1.idx he_4)) rfl rfl (by kernel_rfl) (by kernel_rfl) (by kernel_rfl) fun a hF=>e_x (v:=s6.v) 3 hF hS rfl (ex_loadE1 0 Try.underlying28 rfl rfl ((at5).at) rfl rfl) rfl rfl (by kernel_rfl) (by kernel_rfl) (by kernel_rfl) (by kernel_rfl) fun a hF=>e_p (v:=s2.v) 4 hF rfl (ex_move rfl) rfl rfl (by kernel_rfl) (by kernel_rfl) (by kernel_rfl) fun a hF=>e_p (v:=(iV t_3)) 5 hF rfl (ex_move rfl) rfl rfl (by kernel_rfl) (by kernel_rfl) (by kernel_rfl) fun a hF=>?_
    obtain ⟨e_7,he_7,hb2⟩:=bindS hb2
    obtain ⟨vs8,at8,d8⟩:=h2.at he_7 1 rfl
    obtain ⟨s9,rfl,h9⟩ : ∃ s9 : Sl,vs8 = [s9.v]∧Rd m s9 e_7:=d8
    refine e_p (v:=(elP s2 (t_3.toNat * 1))) 6 hF rfl (ex_indexAddr Try.underlying23 sz28 rfl rfl (h2.idx he_7)) rfl rfl (by kernel_rfl) (by kernel_rfl) (by kernel_rfl) fun a hF=>e_x (v:=s9.v) 7 hF hS rfl (ex_loadE1 0 Try.underlying28 rfl rfl ((at8).at) rfl rfl) rfl rfl (by kernel_rfl) (by kernel_rfl) (by kernel_rfl) (by kernel_rfl) fun a hF=>e_one 8 (by kernel_rfl) ?_
    obtain ⟨t_10,ht_10,hb2⟩:=bindS hb2
    refine e_call (vs:=[s6.v,s9.v]) hF hS rfl Try.func92 (by kernel_rfl) rfl rfl rfl (c_laws_qInts e_4 e_7 t_10 ht_10 _ m hS.vis s6 h6 s9 h9) ?_
    rintro a w _ rfl hF hS
    refine e_p (v:=(.bool (!t_10))) 9 hF rfl (ex_not rfl) rfl rfl (by kernel_rfl) (by kernel_rfl) (by kernel_rfl) fun a hF=>e_end (by kernel_rfl) (n_sq ?_) _
    rcases bcase (!t_10) with hc4 | hc4
    ·have hb2:=cond_f hc4 hb2
     refine q_cond_f hF rfl hc4 (q_skipc (n_ib (n_sq (q_region (q_x (v:=(iV (w64 (t_3 + 1)))) hF hS (ex_ibin rfl rfl rfl) rfl rfl fun a hF=>q_x (v:=(iV (w64 (t_3 + 1)))) hF hS (ex_move rfl) rfl rfl fun a hF=>q_end ?_)))))
     obtain rfl:=someI hb2
     exact ⟨rfl,hF.sub ⟨rfl,rfl,rfl,rfl,trivial⟩,hS⟩
    ·have hb2:=cond_t hc4 hb2
     refine q_cond_t hF rfl hc4 (q_seq (q_region (q_x (v:=(.bool false)) hF hS (ex_assign rfl) rfl rfl fun a hF=>q_end (n_sq (q_ret (r_ib (r_sq ?_)))))))
     obtain rfl:=someI hb2
     refine ⟨nofun,.inr fun ho=>?_⟩
     subst ho
     refine r_ib (r_sq ?_)
     obtain rfl:=someI hr
     exact ret_of hF hS rfl (.tmp rfl .nil) rfl
  ·rintro e a w ⟨rfl,rfl,hF,hS⟩
   refine x_ib (n_sq ?_)
   refine q_seq (q_region (q_x (v:=(.bool true)) hF hS (ex_assign rfl) rfl rfl fun a hF=>q_end (n_sq (q_ret ?_))))
   obtain rfl:=someI hr
   exact ret_of hF hS rfl (.tmp rfl .nil) rfl
 ·have hr:=cond_t hc1 hr
  refine q_cond_t hF rfl hc1 (q_seq (q_region (q_x (v:=(.bool false)) hF hS (ex_assign rfl) rfl rfl fun a hF=>q_end (n_sq (q_ret (r_sq ?_))))))
  obtain rfl:=someI hr
  exact ret_of hF hS rfl (.tmp rfl .nil) rfl

theorem c_impl_isPattern (p_x : List (List Int)) (p_p : List (List Int)) (r : Bool) (hr : impl_isPattern p_x p_p = some r) (w0 : World) (m : Mem) (hv : Vis m w0) (s1 : Sl) (h1 : Rd m s1 p_x) (s2 : Sl) (h2 : Rd m s2 p_p) :
  Ret Try.prog 93 [s1.v,s2.v] w0 (fun v _=>v = (.bool r)):=by
 unfold impl_isPattern at hr
 refine ret_start Try.func93 rfl 17 rfl rfl m hv fun a hF hS=>q_seq (q_region (q_x (v:=(.bool false)) hF hS (ex_assign rfl) rfl rfl fun a hF=>q_end (n_sq (q_seq ?_))))
 obtain ⟨t_8,hj1,hr⟩:=bindS hr
 refine q_join (fun a w=>Fr a 17 [(4,(.bool t_8))]∧St [] w0 w m []) ?_ ?_
 ·refine q_region (q_x (v:=s2.v) hF hS (ex_move rfl) rfl rfl fun a hF=>?_)
  obtain ⟨t_3,ht_3,hj1⟩:=bindS hj1
  refine q_call (vs:=[s2.v,(iV 1)]) hF hS Try.func87 (by kernel_rfl) rfl rfl rfl (c_impl_isGrid p_p 1 t_3 ht_3 _ m hS.vis s2 h2) ?_
  rintro a w _ rfl hF hS
  refine q_x (v:=(.bool t_3)) hF hS (ex_move rfl) rfl rfl fun a hF=>?_
  rcases bcase (t_3) with hc2 | hc2
  ·have hj1:=cond_f hc2 hj1
   refine q_skip hF (wanted_f hF rfl rfl rfl hc2 rfl) rfl fun a hF=>q_skip hF (wanted_f hF rfl rfl rfl hc2 rfl) rfl fun a hF=>q_skip hF (wanted_f hF rfl rfl rfl hc2 rfl) rfl fun a hF=>q_skip hF (wanted_f hF rfl rfl rfl hc2 rfl) rfl fun a hF=>q_skip hF (wanted_f hF rfl rfl rfl hc2 rfl) rfl fun a hF=>q_skip hF (wanted_f hF rfl rfl rfl hc2 rfl) rfl fun a hF=>q_skip hF (wanted_f hF rfl rfl rfl hc2 rfl) rfl fun a hF=>q_skip hF (wanted_f hF rfl rfl rfl hc2 rfl) rfl fun a hF=>q_x (v:=(.bool false)) hF hS (ex_pick_f rfl rfl hc2) rfl rfl fun a hF=>q_x (v:=(.bool false)) hF hS (ex_assign rfl) rfl rfl fun a hF=>q_end (n_jn ?_)
   obtain rfl:=someI hj1
   exact ⟨hF.sub ⟨rfl,trivial⟩,hS⟩
  ·have hj1:=cond_t hc2 hj1
   refine q_xg (v:=s2.v) hF hS (ex_move rfl) (wanted_t hF rfl rfl rfl hc2) rfl fun a hF=>q_xg (v:=s1.v) hF hS (ex_move rfl) (wanted_t hF rfl rfl rfl hc2) rfl fun a hF=>q_xg (v:=(iV (goLen p_x))) hF hS (ex_len Try.underlying23 rfl h1.len) (wanted_t hF rfl rfl rfl hc2) rfl fun a hF=>q_xg (v:=s1.v) hF hS (ex_move rfl) (wanted_t hF rfl rfl rfl hc2) rfl fun a hF=>?_
   obtain ⟨e_4,he_4,hj1⟩:=bindS hj1
   obtain ⟨vs5,at5,d5⟩:=h1.at he_4 1 rfl
   obtain ⟨s6,rfl,h6⟩ : ∃ s6 : Sl,vs5 = [s6.v]∧Rd m s6 e_4:=d5
   refine q_xg (v:=(elP s1 ((0 : Int).toNat * 1))) hF hS (ex_indexAddr Try.underlying23 sz28 rfl rfl (h1.idx he_4)) (wanted_t hF rfl rfl rfl hc2) rfl fun a hF=>q_xg (v:=s6.v) hF hS (ex_loadE1 0 Try.underlying28 rfl rfl ((at5).at) rfl rfl) (wanted_t hF rfl rfl rfl hc2) rfl fun a hF=>q_xg (v:=(iV (goLen e_4))) hF hS (ex_len Try.underlying28 rfl h6.len) (wanted_t hF rfl rfl rfl hc2) rfl fun a hF=>?_
   obtain ⟨t_7,ht_7,hj1⟩:=bindS hj1
   refine q_callg (vs:=[s2.v,(iV (goLen p_x)),(iV (goLen e_4))]) hF hS (wanted_t hF rfl rfl rfl hc2) Try.func88 (by kernel_rfl) rfl rfl rfl (c_impl_hasShape p_p (goLen p_x) (goLen e_4) t_7 ht_7 _ m hS.vis s2 h2) ?_
   rintro a w _ rfl hF hS
   refine q_x (v:=(.bool t_7)) hF hS (ex_pick_t rfl rfl hc2) rfl rfl fun a hF=>q_x (v:=(.bool t_7)) hF hS (ex_assign rfl) rfl rfl fun a hF=>q_end (n_jn ?_)
   obtain rfl:=someI hj1
   exact ⟨hF.sub ⟨rfl,trivial⟩,hS⟩
 ·rintro a w ⟨hF,hS⟩
  refine n_sq (q_ret ?_)
  obtain rfl:=someI hr
  exact ret_of hF hS rfl (.tmp rfl .nil) rfl

theorem c_impl_IsPattern (p_x : List (List Int)) (p_p : List (List Int)) (r : Bool × Bool) (hr : impl_IsPattern p_x p_p = some r) (w0 : World) (m : Mem) (hv : Vis m w0) (s1 : Sl) (h1 : Rd m s1 p_x) (s2 : Sl) (h2 : Rd m s2 p_p) :
  Ret Try.prog 21 [s1.v,s2.v] w0 (fun v _=>v = (.tuple #[(.bool r.1),(.bool r.2)])):=by
 unfold impl_IsPattern at hr
 refine ret_start Try.func21 rfl 12 rfl rfl m hv fun a hF hS=>q_seq (q_region (q_x (v:=(.bool false)) hF hS (ex_assign rfl) rfl rfl fun a hF=>q_x (v:=(.bool false)) hF hS (ex_assign rfl) rfl rfl fun a hF=>q_end (n_sq (q_seq (q_seq (q_region (q_x (v:=s1.v) hF hS (ex_move rfl) rfl rfl fun a hF=>?_)))))))
 obtain ⟨t_3,ht_3,hr⟩:=bindS hr
 refine q_call (vs:=[s1.v]) hF hS Try.func22 (by kernel_rfl) rfl rfl rfl (c_impl_IsTwoWay p_x t_3 ht_3 _ m hS.vis s1 h1) ?_
 rintro a w _ rfl hF hS
 refine q_x (v:=(.bool (!t_3))) hF hS (ex_not rfl) rfl rfl fun a hF=>q_end (n_sq ?_)
 rcases bcase (!t_3) with hc1 | hc1
 ·have hr:=cond_f hc1 hr
  refine q_cond_f hF rfl hc1 (q_skipc (n_sq (q_seq (q_region (q_x (v:=s1.v) hF hS (ex_move rfl) rfl rfl fun a hF=>q_x (v:=s2.v) hF hS (ex_move rfl) rfl rfl fun a hF=>?_)))))
  obtain ⟨t_4,ht_4,hr⟩:=bindS hr
  refine q_call (vs:=[s1.v,s2.v]) hF hS Try.func93 (by kernel_rfl) rfl rfl rfl (c_impl_isPattern p_x p_p t_4 ht_4 _ m hS.vis s1 h1 s2 h2) ?_
  rintro a w _ rfl hF hS
  refine q_x (v:=(.bool t_4)) hF hS (ex_assign rfl) rfl rfl fun a hF=>q_x (v:=(.bool true)) hF hS (ex_assign rfl) rfl rfl fun a hF=>q_end (n_sq (q_ret ?_))
  obtain rfl:=someI hr
  exact ret_of hF hS rfl (.tmp rfl (.tmp rfl .nil)) rfl
 ·have hr:=cond_t hc1 hr
  refine q_cond_t hF rfl hc1 (q_seq (q_region (q_x (v:=(.bool false)) hF hS (ex_assign rfl) rfl rfl fun a hF=>q_x (v:=(.bool false)) hF hS (ex_assign rfl) rfl rfl fun a hF=>q_end (n_sq (q_ret (r_sq ?_))))))
  obtain rfl:=someI hr
  exact ret_of hF hS rfl (.tmp rfl (.tmp rfl .nil)) rfl

end Go.Proofs.Ytpjcfmpfiadkgaa
