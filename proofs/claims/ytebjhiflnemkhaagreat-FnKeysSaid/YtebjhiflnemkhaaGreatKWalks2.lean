/- The walks of the functions: each returns what its plain function says. -/
import Derived.Test.YtebjhiflnemkhaaGreatKWalks1
namespace Go.Proofs.YtebjhiflnemkhaaGreat
open Go.Gx Go.Gx.F Go.RowKit
set_option linter.all false
set_option maxRecDepth 10000


theorem c_spec_sGood (p_s : List impl_Variable) (r : Bool) (hr : spec_sGood p_s = some r) (w0 : World) (m : Mem) (hv : Vis m w0) (s1 : Sl) (h1 : Rd m s1 p_s) :
  Ret Tryz.prog 59 [s1.v] w0 (fun v _ => v = (.bool r)) := by
 unfold spec_sGood at hr
 refine ret_start Tryz.func59 rfl 36 rfl rfl m hv fun a hF hS => q_seq (q_region (q_x (v := (.bool false)) hF hS (ex_assign rfl) rfl rfl fun a hF => q_end (n_sq (q_seq (q_seq (q_region (q_x (v := s1.v) hF hS (ex_move rfl) rfl rfl fun a hF => q_x (v := (.int .i64 (goLen p_s))) hF hS (ex_len Tryz.underlying24 rfl h1.len) rfl rfl fun a hF => ?_)))))))
 obtain ⟨t_2, ht_2, hr⟩ := bindS hr
 refine q_call (vs := [(.int .i64 (goLen p_s)), (.int .i64 1), (.int .i64 6)]) hF hS Tryz.func65 (by kernel_rfl) rfl rfl rfl (c_spec_l1In (goLen p_s) 1 6 t_2 ht_2 _ m hS.vis) ?_
 rintro a w _ rfl hF hS
 refine q_x (v := (.bool (!t_2))) hF hS (ex_not rfl) rfl rfl fun a hF => q_end (n_sq ?_)
 rcases bcase (!t_2) with hc1 | hc1
 ·have hr := cond_f hc1 hr
  refine q_cond_f hF rfl hc1 (q_skipc (n_sq (q_seq (q_seq (q_region (q_x (v := s1.v) hF hS (ex_move rfl) rfl rfl fun a hF => q_x (v := (.int .i64 (goLen p_s))) hF hS (ex_len Tryz.underlying24 rfl h1.len) rfl rfl fun a hF => q_x (v := (.int .i64 0)) hF hS (ex_move rfl) rfl rfl fun a hF => q_end (n_sq (q_block ?_))))))))
  obtain ⟨o2, hl2, hr⟩ := bindS hr
  refine q_loop (fun (t_3 : Int) a w => Fr a 36 [(0, s1.v), (9, s1.v), (10, (.int .i64 (goLen p_s))), (11, (.int .i64 t_3))] ∧ St [] w0 w m []) (fun (o : (Unit) ⊕ (Bool)) e a w => o = .inl () ∧ e = .exit 0 ∧ Fr a 36 [] ∧ St [] w0 w m []) hl2 ⟨hF.sub ⟨rfl, rfl, rfl, rfl, trivial⟩, hS⟩ ?_ ?_
  ·clear hF hS
   rintro t_3 a w st ⟨hF, hS⟩ hb2
   unfold spec_sGood_l1 at hb2
   refine q_seq (q_region (q_x (v := (.bool (decide (t_3 < (goLen p_s))))) hF hS (ex_ibin rfl rfl rfl) rfl rfl fun a hF => q_end (n_sq (q_seq ?_))))
   rcases bcase (decide (t_3 < (goLen p_s))) with hc3 | hc3
   ·have hb2 := cond_f hc3 hb2
    refine q_cond_f hF rfl hc3 (q_exit (x_sq ?_))
    obtain rfl := someI hb2
    exact ⟨nofun, .inl ⟨rfl, rfl, hF.sub trivial, hS⟩⟩
   ·have hb2 := cond_t hc3 hb2
    refine q_cond_t hF rfl hc3 (q_skipc (n_sq (q_seq (q_block (q_seq (q_region (q_x (v := (.int .i64 t_3)) hF hS (ex_move rfl) rfl rfl fun a hF => ?_)))))))
    obtain ⟨e_4, he_4, hb2⟩ := bindS hb2
    obtain ⟨vs5, at5, d5⟩ := h1.at he_4 2 rfl
    obtain rfl : vs5 = [(strV e_4.Name), (.int .i64 e_4.Levels)] := d5
    refine q_x (v := (elP s1 (t_3.toNat * 2))) hF hS (ex_indexAddr Tryz.underlying24 sz67 rfl rfl (h1.idx he_4)) rfl rfl fun a hF => q_x (v := (.agg #[(strV e_4.Name), (.int .i64 e_4.Levels)])) hF hS (ex_loadEA (us := [(strV e_4.Name), (.int .i64 e_4.Levels)]) 0 Tryz.underlying67 rfl sz67 rfl ((at5).at) rfl rfl rfl) rfl rfl fun a hF => q_alloc (cs := [(strV ([] : List UInt8)), (.int .i64 0)]) hF hS rfl rfl rfl fun a w b6 hF hS => q_x (v := (.int .i64 t_3)) hF hS (ex_assign rfl) rfl rfl fun a hF => q_store (vs := [(strV e_4.Name), (.int .i64 e_4.Levels)]) (cs' := [(strV e_4.Name), (.int .i64 e_4.Levels)]) 0 0 hF hS sz67 rfl rfl rfl rfl rfl rfl rfl rfl fun a w hF hS => q_end (n_sq (q_seq ?_))
    obtain ⟨t_12, hj4, hb2⟩ := bindS hb2
    refine q_join (fun a w => Fr a 36 [(0, s1.v), (9, s1.v), (10, (.int .i64 (goLen p_s))), (11, (.int .i64 t_3)), (34, (.bool t_12))] ∧ St [] w0 w m []) ?_ ?_
    ·refine e_region ⟨[], []⟩ mixed fun w' hw' => ?_
     have hS := hS.below hw'
     refine e_p (v := (.pointer (some ⟨b6, 0, none⟩))) 0 hF rfl (ex_fieldAddr Tryz.underlying67 rfl sz9 rfl rfl) rfl rfl (by kernel_rfl) (by kernel_rfl) (by kernel_rfl) fun a hF => e_x (v := (strV e_4.Name)) 1 hF hS rfl (ex_load1 0 0 Tryz.underlying9 rfl rfl rfl rfl) rfl rfl (by kernel_rfl) (by kernel_rfl) (by kernel_rfl) (by kernel_rfl) fun a hF => e_one 2 (by kernel_rfl) ?_
     obtain ⟨t_7, ht_7, hj4⟩ := bindS hj4
     refine e_call (vs := [(strV e_4.Name)]) hF hS rfl Tryz.func81 (by kernel_rfl) rfl rfl rfl (c_spec_sName e_4.Name t_7 ht_7 _ m hS.vis) ?_
     rintro a w _ rfl hF hS
     refine e_p (v := (.bool (!t_7))) 3 hF rfl (ex_not rfl) rfl rfl (by kernel_rfl) (by kernel_rfl) (by kernel_rfl) fun a hF => e_p (v := (.bool (!t_7))) 4 hF rfl (ex_move rfl) rfl rfl (by kernel_rfl) (by kernel_rfl) (by kernel_rfl) fun a hF => ?_
     rcases bcase (!t_7) with hc5 | hc5
     ·have hj4 := cond_f hc5 hj4
      refine e_pg (v := (.pointer (some ⟨b6, 1, none⟩))) 5 hF rfl (ex_fieldAddr Tryz.underlying67 rfl sz3 rfl rfl) (wanted_t hF rfl rfl rfl hc5) rfl (by kernel_rfl) (by kernel_rfl) (by kernel_rfl) fun a hF => e_xg (v := (.int .i64 e_4.Levels)) 6 hF hS rfl (ex_load1 0 0 Tryz.underlying3 rfl rfl rfl rfl) (wanted_t hF rfl rfl rfl hc5) rfl (by kernel_rfl) (by kernel_rfl) (by kernel_rfl) (by kernel_rfl) fun a hF => e_one 7 (by kernel_rfl) ?_
      obtain ⟨t_8, ht_8, hj4⟩ := bindS hj4
      refine e_callg (vs := [(.int .i64 e_4.Levels), (.int .i64 2), (.int .i64 8)]) hF hS rfl (wanted_t hF rfl rfl rfl hc5) Tryz.func65 (by kernel_rfl) rfl rfl rfl (c_spec_l1In e_4.Levels 2 8 t_8 ht_8 _ m hS.vis) ?_
      rintro a w _ rfl hF hS
      refine e_pg (v := (.bool (!t_8))) 8 hF rfl (ex_not rfl) (wanted_t hF rfl rfl rfl hc5) rfl (by kernel_rfl) (by kernel_rfl) (by kernel_rfl) fun a hF => e_p (v := (.bool (!t_8))) 9 hF rfl (ex_pick_f rfl rfl hc5) rfl rfl (by kernel_rfl) (by kernel_rfl) (by kernel_rfl) fun a hF => e_p (v := (.bool (!t_8))) 10 hF rfl (ex_move rfl) rfl rfl (by kernel_rfl) (by kernel_rfl) (by kernel_rfl) fun a hF => ?_
      rcases bcase (!t_8) with hc6 | hc6
      ·have hj4 := cond_f hc6 hj4
       refine e_pg (v := s1.v) 11 hF rfl (ex_move rfl) (wanted_t hF rfl rfl rfl hc6) rfl (by kernel_rfl) (by kernel_rfl) (by kernel_rfl) fun a hF => e_pg (v := (.int .i64 t_3)) 12 hF rfl (ex_move rfl) (wanted_t hF rfl rfl rfl hc6) rfl (by kernel_rfl) (by kernel_rfl) (by kernel_rfl) fun a hF => ?_
       obtain ⟨l_9, hl_9, hj4⟩ := bindS hj4
       have h10 : Rd m (subS s1 2 (0 : Int).toNat t_3.toNat s1.cap) l_9 := h1.sub' hl_9 2 rfl
       refine e_pg (v := (subS s1 2 (0 : Int).toNat t_3.toNat s1.cap).v) 13 hF rfl (ex_slice Tryz.underlying24 sz67 rfl rfl rfl (.inl ⟨rfl, rfl⟩) (.inr ⟨_, rfl⟩) (h1.subok hl_9)) (wanted_t hF rfl rfl rfl hc6) rfl (by kernel_rfl) (by kernel_rfl) (by kernel_rfl) fun a hF => e_pg (v := (.pointer (some ⟨b6, 0, none⟩))) 14 hF rfl (ex_fieldAddr Tryz.underlying67 rfl sz9 rfl rfl) (wanted_t hF rfl rfl rfl hc6) rfl (by kernel_rfl) (by kernel_rfl) (by kernel_rfl) fun a hF => e_xg (v := (strV e_4.Name)) 15 hF hS rfl (ex_load1 0 0 Tryz.underlying9 rfl rfl rfl rfl) (wanted_t hF rfl rfl rfl hc6) rfl (by kernel_rfl) (by kernel_rfl) (by kernel_rfl) (by kernel_rfl) fun a hF => e_one 16 (by kernel_rfl) ?_
       obtain ⟨t_11, ht_11, hj4⟩ := bindS hj4
       refine e_callg (vs := [(subS s1 2 (0 : Int).toNat t_3.toNat s1.cap).v, (strV e_4.Name)]) hF hS rfl (wanted_t hF rfl rfl rfl hc6) Tryz.func82 (by kernel_rfl) rfl rfl rfl (c_spec_sFind l_9 e_4.Name t_11 ht_11 _ m hS.vis (subS s1 2 (0 : Int).toNat t_3.toNat s1.cap) h10) ?_
       rintro a w _ rfl hF hS
       refine e_pg (v := (.bool (decide (0 ≤ t_11)))) 17 hF rfl (ex_ibin rfl rfl rfl) (wanted_t hF rfl rfl rfl hc6) rfl (by kernel_rfl) (by kernel_rfl) (by kernel_rfl) fun a hF => e_p (v := (.bool (decide (0 ≤ t_11)))) 18 hF rfl (ex_pick_f rfl rfl hc6) rfl rfl (by kernel_rfl) (by kernel_rfl) (by kernel_rfl) fun a hF => e_end (by kernel_rfl) (n_jn ?_) _
       obtain rfl := someI hj4
       exact ⟨hF.sub ⟨rfl, rfl, rfl, rfl, rfl, trivial⟩, hS.mask [false]⟩
      ·have hj4 := cond_t hc6 hj4
       refine e_skipP 11 hF rfl (wanted_f hF rfl rfl rfl hc6 rfl) rfl (by kernel_rfl) (by kernel_rfl) (by kernel_rfl) fun a hF => e_skipP 12 hF rfl (wanted_f hF rfl rfl rfl hc6 rfl) rfl (by kernel_rfl) (by kernel_rfl) (by kernel_rfl) fun a hF => e_skipP 13 hF rfl (wanted_f hF rfl rfl rfl hc6 rfl) rfl (by kernel_rfl) (by kernel_rfl) (by kernel_rfl) fun a hF => e_skipP 14 hF rfl (wanted_f hF rfl rfl rfl hc6 rfl) rfl (by kernel_rfl) (by kernel_rfl) (by kernel_rfl) fun a hF => e_skipP 15 hF rfl (wanted_f hF rfl rfl rfl hc6 rfl) rfl (by kernel_rfl) (by kernel_rfl) (by kernel_rfl) fun a hF => e_skipP 16 hF rfl (wanted_f hF rfl rfl rfl hc6 rfl) rfl (by kernel_rfl) (by kernel_rfl) (by kernel_rfl) fun a hF => e_skipP 17 hF rfl (wanted_f hF rfl rfl rfl hc6 rfl) rfl (by kernel_rfl) (by kernel_rfl) (by kernel_rfl) fun a hF => e_p (v := (.bool true)) 18 hF rfl (ex_pick_t rfl rfl hc6) rfl rfl (by kernel_rfl) (by kernel_rfl) (by kernel_rfl) fun a hF => e_end (by kernel_rfl) (n_jn ?_) _
       obtain rfl := someI hj4
       exact ⟨hF.sub ⟨rfl, rfl, rfl, rfl, rfl, trivial⟩, hS.mask [false]⟩
     ·have hj4 := cond_t hc5 hj4
      refine e_skipP 5 hF rfl (wanted_f hF rfl rfl rfl hc5 rfl) rfl (by kernel_rfl) (by kernel_rfl) (by kernel_rfl) fun a hF => e_skipP 6 hF rfl (wanted_f hF rfl rfl rfl hc5 rfl) rfl (by kernel_rfl) (by kernel_rfl) (by kernel_rfl) fun a hF => e_skipP 7 hF rfl (wanted_f hF rfl rfl rfl hc5 rfl) rfl (by kernel_rfl) (by kernel_rfl) (by kernel_rfl) fun a hF => e_skipP 8 hF rfl (wanted_f hF rfl rfl rfl hc5 rfl) rfl (by kernel_rfl) (by kernel_rfl) (by kernel_rfl) fun a hF => e_p (v := (.bool true)) 9 hF rfl (ex_pick_t rfl rfl hc5) rfl rfl (by kernel_rfl) (by kernel_rfl) (by kernel_rfl) fun a hF => e_p (v := (.bool true)) 10 hF rfl (ex_move rfl) rfl rfl (by kernel_rfl) (by kernel_rfl) (by kernel_rfl) fun a hF => e_skipP 11 hF rfl (wanted_f hF rfl rfl rfl rfl rfl) rfl (by kernel_rfl) (by kernel_rfl) (by kernel_rfl) fun a hF => e_skipP 12 hF rfl (wanted_f hF rfl rfl rfl rfl rfl) rfl (by kernel_rfl) (by kernel_rfl) (by kernel_rfl) fun a hF => e_skipP 13 hF rfl (wanted_f hF rfl rfl rfl rfl rfl) rfl (by kernel_rfl) (by kernel_rfl) (by kernel_rfl) fun a hF => e_skipP 14 hF rfl (wanted_f hF rfl rfl rfl rfl rfl) rfl (by kernel_rfl) (by kernel_rfl) (by kernel_rfl) fun a hF => e_skipP 15 hF rfl (wanted_f hF rfl rfl rfl rfl rfl) rfl (by kernel_rfl) (by kernel_rfl) (by kernel_rfl) fun a hF => e_skipP 16 hF rfl (wanted_f hF rfl rfl rfl rfl rfl) rfl (by kernel_rfl) (by kernel_rfl) (by kernel_rfl) fun a hF => e_skipP 17 hF rfl (wanted_f hF rfl rfl rfl rfl rfl) rfl (by kernel_rfl) (by kernel_rfl) (by kernel_rfl) fun a hF => e_p (v := (.bool true)) 18 hF rfl (ex_pick_t rfl rfl rfl) rfl rfl (by kernel_rfl) (by kernel_rfl) (by kernel_rfl) fun a hF => e_end (by kernel_rfl) (n_jn ?_) _
      obtain rfl := someI hj4
      exact ⟨hF.sub ⟨rfl, rfl, rfl, rfl, rfl, trivial⟩, hS.mask [false]⟩
    ·rintro a w ⟨hF, hS⟩
     refine n_sq ?_
     rcases bcase (t_12) with hc7 | hc7
     ·have hb2 := cond_f hc7 hb2
      refine q_cond_f hF rfl hc7 (q_skipc (n_ib (n_sq (q_region (q_x (v := (.int .i64 (w64 (t_3 + 1)))) hF hS (ex_ibin rfl rfl rfl) rfl rfl fun a hF => q_x (v := (.int .i64 (w64 (t_3 + 1)))) hF hS (ex_move rfl) rfl rfl fun a hF => q_end ?_)))))
      obtain rfl := someI hb2
      exact ⟨rfl, hF.sub ⟨rfl, rfl, rfl, rfl, trivial⟩, hS⟩
     ·have hb2 := cond_t hc7 hb2
      refine q_cond_t hF rfl hc7 (q_seq (q_region (q_x (v := (.bool false)) hF hS (ex_assign rfl) rfl rfl fun a hF => q_end (n_sq (q_ret (r_ib (r_sq ?_)))))))
      obtain rfl := someI hb2
      refine ⟨nofun, .inr fun ho => ?_⟩
      subst ho
      refine r_ib (r_sq ?_)
      obtain rfl := someI hr
      exact ret_of hF hS rfl (.tmp rfl .nil) rfl
  ·rintro e a w ⟨rfl, rfl, hF, hS⟩
   refine x_ib (n_sq ?_)
   refine q_seq (q_region (q_x (v := (.bool true)) hF hS (ex_assign rfl) rfl rfl fun a hF => q_end (n_sq (q_ret ?_))))
   obtain rfl := someI hr
   exact ret_of hF hS rfl (.tmp rfl .nil) rfl
 ·have hr := cond_t hc1 hr
  refine q_cond_t hF rfl hc1 (q_seq (q_region (q_x (v := (.bool false)) hF hS (ex_assign rfl) rfl rfl fun a hF => q_end (n_sq (q_ret (r_sq ?_))))))
  obtain rfl := someI hr
  exact ret_of hF hS rfl (.tmp rfl .nil) rfl

theorem c_spec_l1Rising (p_l : List Int) (p_lo : Int) (p_hi : Int) (r : Bool) (hr : spec_l1Rising p_l p_lo p_hi = some r) (w0 : World) (m : Mem) (hv : Vis m w0) (s1 : Sl) (h1 : Rd m s1 p_l) :
  Ret Tryz.prog 60 [s1.v, (.int .i64 p_lo), (.int .i64 p_hi)] w0 (fun v _ => v = (.bool r)) := by
 unfold spec_l1Rising at hr
 refine ret_start Tryz.func60 rfl 35 rfl rfl m hv fun a hF hS => q_seq (q_region (q_x (v := (.bool false)) hF hS (ex_assign rfl) rfl rfl fun a hF => q_end (n_sq (q_seq (q_seq (q_region (q_x (v := s1.v) hF hS (ex_move rfl) rfl rfl fun a hF => q_x (v := (.int .i64 (goLen p_l))) hF hS (ex_len Tryz.underlying26 rfl h1.len) rfl rfl fun a hF => q_x (v := (.int .i64 0)) hF hS (ex_move rfl) rfl rfl fun a hF => q_end (n_sq (q_block ?_)))))))))
 obtain ⟨o1, hl1, hr⟩ := bindS hr
 refine q_loop (fun (t_2 : Int) a w => Fr a 35 [(0, s1.v), (1, (.int .i64 p_lo)), (2, (.int .i64 p_hi)), (9, s1.v), (10, (.int .i64 (goLen p_l))), (11, (.int .i64 t_2))] ∧ St [] w0 w m []) (fun (o : (Unit) ⊕ (Bool)) e a w => o = .inl () ∧ e = .exit 0 ∧ Fr a 35 [] ∧ St [] w0 w m []) hl1 ⟨hF.sub ⟨rfl, rfl, rfl, rfl, rfl, rfl, trivial⟩, hS⟩ ?_ ?_
 ·clear hF hS
  rintro t_2 a w st ⟨hF, hS⟩ hb1
  unfold spec_l1Rising_l1 at hb1
  refine q_seq (q_region (q_x (v := (.bool (decide (t_2 < (goLen p_l))))) hF hS (ex_ibin rfl rfl rfl) rfl rfl fun a hF => q_end (n_sq (q_seq ?_))))
  rcases bcase (decide (t_2 < (goLen p_l))) with hc2 | hc2
  ·have hb1 := cond_f hc2 hb1
   refine q_cond_f hF rfl hc2 (q_exit (x_sq ?_))
   obtain rfl := someI hb1
   exact ⟨nofun, .inl ⟨rfl, rfl, hF.sub trivial, hS⟩⟩
  ·have hb1 := cond_t hc2 hb1
   refine q_cond_t hF rfl hc2 (q_skipc (n_sq (q_seq (q_block (q_seq (q_region (q_x (v := (.int .i64 t_2)) hF hS (ex_move rfl) rfl rfl fun a hF => ?_)))))))
   obtain ⟨e_3, he_3, hb1⟩ := bindS hb1
   obtain ⟨vs4, at4, d4⟩ := h1.at he_3 1 rfl
   obtain rfl : vs4 = [(.int .i64 e_3)] := d4
   refine q_x (v := (elP s1 (t_2.toNat * 1))) hF hS (ex_indexAddr Tryz.underlying26 sz3 rfl rfl (h1.idx he_3)) rfl rfl fun a hF => q_x (v := (.int .i64 e_3)) hF hS (ex_loadE1 0 Tryz.underlying3 rfl rfl ((at4).at) rfl rfl) rfl rfl fun a hF => q_x (v := (.int .i64 t_2)) hF hS (ex_assign rfl) rfl rfl fun a hF => q_x (v := (.int .i64 e_3)) hF hS (ex_assign rfl) rfl rfl fun a hF => q_end (n_sq (q_seq ?_))
   obtain ⟨t_8, hj3, hb1⟩ := bindS hb1
   refine q_join (fun a w => Fr a 35 [(0, s1.v), (1, (.int .i64 p_lo)), (2, (.int .i64 p_hi)), (9, s1.v), (10, (.int .i64 (goLen p_l))), (11, (.int .i64 t_2)), (33, (.bool t_8))] ∧ St [] w0 w m []) ?_ ?_
   ·refine q_region (q_x (v := (.int .i64 e_3)) hF hS (ex_move rfl) rfl rfl fun a hF => q_x (v := (.int .i64 p_lo)) hF hS (ex_move rfl) rfl rfl fun a hF => q_x (v := (.int .i64 p_hi)) hF hS (ex_move rfl) rfl rfl fun a hF => ?_)
    obtain ⟨t_5, ht_5, hj3⟩ := bindS hj3
    refine q_call (vs := [(.int .i64 e_3), (.int .i64 p_lo), (.int .i64 p_hi)]) hF hS Tryz.func65 (by kernel_rfl) rfl rfl rfl (c_spec_l1In e_3 p_lo p_hi t_5 ht_5 _ m hS.vis) ?_
    rintro a w _ rfl hF hS
    refine q_x (v := (.bool (!t_5))) hF hS (ex_not rfl) rfl rfl fun a hF => q_x (v := (.bool (!t_5))) hF hS (ex_move rfl) rfl rfl fun a hF => ?_
    rcases bcase (!t_5) with hc4 | hc4
    ·have hj3 := cond_f hc4 hj3
     refine q_xg (v := (.int .i64 t_2)) hF hS (ex_move rfl) (wanted_t hF rfl rfl rfl hc4) rfl fun a hF => q_xg (v := (.bool (decide (0 < t_2)))) hF hS (ex_ibin rfl rfl rfl) (wanted_t hF rfl rfl rfl hc4) rfl fun a hF => q_xg (v := (.bool (decide (0 < t_2)))) hF hS (ex_move rfl) (wanted_t hF rfl rfl rfl hc4) rfl fun a hF => ?_
     rcases bcase (decide (0 < t_2)) with hc5 | hc5
     ·have hj3 := cond_f hc5 hj3
      refine q_skip hF (wanted_f hF rfl rfl rfl hc5 rfl) rfl fun a hF => q_skip hF (wanted_f hF rfl rfl rfl hc5 rfl) rfl fun a hF => q_skip hF (wanted_f hF rfl rfl rfl hc5 rfl) rfl fun a hF => q_skip hF (wanted_f hF rfl rfl rfl hc5 rfl) rfl fun a hF => q_skip hF (wanted_f hF rfl rfl rfl hc5 rfl) rfl fun a hF => q_skip hF (wanted_f hF rfl rfl rfl hc5 rfl) rfl fun a hF => q_skip hF (wanted_f hF rfl rfl rfl hc5 rfl) rfl fun a hF => q_xg (v := (.bool false)) hF hS (ex_pick_f rfl rfl hc5) (wanted_t hF rfl rfl rfl hc4) rfl fun a hF => q_x (v := (.bool false)) hF hS (ex_pick_f rfl rfl hc4) rfl rfl fun a hF => q_end (n_jn ?_)
      obtain rfl := someI hj3
      exact ⟨hF.sub ⟨rfl, rfl, rfl, rfl, rfl, rfl, rfl, trivial⟩, hS⟩
     ·have hj3 := cond_t hc5 hj3
      refine q_xg (v := s1.v) hF hS (ex_move rfl) (wanted_t hF rfl rfl rfl hc5) rfl fun a hF => q_xg (v := (.int .i64 t_2)) hF hS (ex_move rfl) (wanted_t hF rfl rfl rfl hc5) rfl fun a hF => q_xg (v := (.int .i64 (w64 (t_2 - 1)))) hF hS (ex_ibin rfl rfl rfl) (wanted_t hF rfl rfl rfl hc5) rfl fun a hF => ?_
      obtain ⟨e_6, he_6, hj3⟩ := bindS hj3
      obtain ⟨vs7, at7, d7⟩ := h1.at he_6 1 rfl
      obtain rfl : vs7 = [(.int .i64 e_6)] := d7
      refine q_xg (v := (elP s1 ((w64 (t_2 - 1)).toNat * 1))) hF hS (ex_indexAddr Tryz.underlying26 sz3 rfl rfl (h1.idx he_6)) (wanted_t hF rfl rfl rfl hc5) rfl fun a hF => q_xg (v := (.int .i64 e_6)) hF hS (ex_loadE1 0 Tryz.underlying3 rfl rfl ((at7).at) rfl rfl) (wanted_t hF rfl rfl rfl hc5) rfl fun a hF => q_xg (v := (.int .i64 e_3)) hF hS (ex_move rfl) (wanted_t hF rfl rfl rfl hc5) rfl fun a hF => q_xg (v := (.bool (decide (e_3 ≤ e_6)))) hF hS (ex_ibin rfl rfl rfl) (wanted_t hF rfl rfl rfl hc5) rfl fun a hF => q_xg (v := (.bool (decide (e_3 ≤ e_6)))) hF hS (ex_pick_t rfl rfl hc5) (wanted_t hF rfl rfl rfl hc4) rfl fun a hF => q_x (v := (.bool (decide (e_3 ≤ e_6)))) hF hS (ex_pick_f rfl rfl hc4) rfl rfl fun a hF => q_end (n_jn ?_)
      obtain rfl := someI hj3
      exact ⟨hF.sub ⟨rfl, rfl, rfl, rfl, rfl, rfl, rfl, trivial⟩, hS⟩
    ·have hj3 := cond_t hc4 hj3
     refine q_skip hF (wanted_f hF rfl rfl rfl hc4 rfl) rfl fun a hF => q_skip hF (wanted_f hF rfl rfl rfl hc4 rfl) rfl fun a hF => q_skip hF (wanted_f hF rfl rfl rfl hc4 rfl) rfl fun a hF => q_skip hF (wanted_u hF rfl rfl rfl) rfl fun a hF => q_skip hF (wanted_u hF rfl rfl rfl) rfl fun a hF => q_skip hF (wanted_u hF rfl rfl rfl) rfl fun a hF => q_skip hF (wanted_u hF rfl rfl rfl) rfl fun a hF => q_skip hF (wanted_u hF rfl rfl rfl) rfl fun a hF => q_skip hF (wanted_u hF rfl rfl rfl) rfl fun a hF => q_skip hF (wanted_u hF rfl rfl rfl) rfl fun a hF => q_skip hF (wanted_f hF rfl rfl rfl hc4 rfl) rfl fun a hF => q_x (v := (.bool true)) hF hS (ex_pick_t rfl rfl hc4) rfl rfl fun a hF => q_end (n_jn ?_)
     obtain rfl := someI hj3
     exact ⟨hF.sub ⟨rfl, rfl, rfl, rfl, rfl, rfl, rfl, trivial⟩, hS⟩
   ·rintro a w ⟨hF, hS⟩
    refine n_sq ?_
    rcases bcase (t_8) with hc6 | hc6
    ·have hb1 := cond_f hc6 hb1
     refine q_cond_f hF rfl hc6 (q_skipc (n_ib (n_sq (q_region (q_x (v := (.int .i64 (w64 (t_2 + 1)))) hF hS (ex_ibin rfl rfl rfl) rfl rfl fun a hF => q_x (v := (.int .i64 (w64 (t_2 + 1)))) hF hS (ex_move rfl) rfl rfl fun a hF => q_end ?_)))))
     obtain rfl := someI hb1
     exact ⟨rfl, hF.sub ⟨rfl, rfl, rfl, rfl, rfl, rfl, trivial⟩, hS⟩
    ·have hb1 := cond_t hc6 hb1
     refine q_cond_t hF rfl hc6 (q_seq (q_region (q_x (v := (.bool false)) hF hS (ex_assign rfl) rfl rfl fun a hF => q_end (n_sq (q_ret (r_ib (r_sq ?_)))))))
     obtain rfl := someI hb1
     refine ⟨nofun, .inr fun ho => ?_⟩
     subst ho
     refine r_ib (r_sq ?_)
     obtain rfl := someI hr
     exact ret_of hF hS rfl (.tmp rfl .nil) rfl
 ·rintro e a w ⟨rfl, rfl, hF, hS⟩
  refine x_ib (n_sq ?_)
  refine q_seq (q_region (q_x (v := (.bool true)) hF hS (ex_assign rfl) rfl rfl fun a hF => q_end (n_sq (q_ret ?_))))
  obtain rfl := someI hr
  exact ret_of hF hS rfl (.tmp rfl .nil) rfl

theorem c_spec_swVars (p_s : List impl_Variable) (p_vars : List Int) (r : Bool) (hr : spec_swVars p_s p_vars = some r) (w0 : World) (m : Mem) (hv : Vis m w0) (s1 : Sl) (h1 : Rd m s1 p_s) (s2 : Sl) (h2 : Rd m s2 p_vars) :
  Ret Tryz.prog 37 [s1.v, s2.v] w0 (fun v _ => v = (.bool r)) := by
 unfold spec_swVars at hr
 refine ret_start Tryz.func37 rfl 14 rfl rfl m hv fun a hF hS => q_seq (q_region (q_x (v := (.bool false)) hF hS (ex_assign rfl) rfl rfl fun a hF => q_end (n_sq (q_seq ?_))))
 obtain ⟨t_5, hj1, hr⟩ := bindS hr
 refine q_join (fun a w => Fr a 14 [(4, (.bool t_5))] ∧ St [] w0 w m []) ?_ ?_
 ·refine q_region (q_x (v := s1.v) hF hS (ex_move rfl) rfl rfl fun a hF => ?_)
  obtain ⟨t_3, ht_3, hj1⟩ := bindS hj1
  refine q_call (vs := [s1.v]) hF hS Tryz.func59 (by kernel_rfl) rfl rfl rfl (c_spec_sGood p_s t_3 ht_3 _ m hS.vis s1 h1) ?_
  rintro a w _ rfl hF hS
  refine q_x (v := (.bool t_3)) hF hS (ex_move rfl) rfl rfl fun a hF => ?_
  rcases bcase (t_3) with hc2 | hc2
  ·have hj1 := cond_f hc2 hj1
   refine q_skip hF (wanted_f hF rfl rfl rfl hc2 rfl) rfl fun a hF => q_skip hF (wanted_f hF rfl rfl rfl hc2 rfl) rfl fun a hF => q_skip hF (wanted_f hF rfl rfl rfl hc2 rfl) rfl fun a hF => q_skip hF (wanted_f hF rfl rfl rfl hc2 rfl) rfl fun a hF => q_skip hF (wanted_f hF rfl rfl rfl hc2 rfl) rfl fun a hF => q_x (v := (.bool false)) hF hS (ex_pick_f rfl rfl hc2) rfl rfl fun a hF => q_x (v := (.bool false)) hF hS (ex_assign rfl) rfl rfl fun a hF => q_end (n_jn ?_)
   obtain rfl := someI hj1
   exact ⟨hF.sub ⟨rfl, trivial⟩, hS⟩
  ·have hj1 := cond_t hc2 hj1
   refine q_xg (v := s2.v) hF hS (ex_move rfl) (wanted_t hF rfl rfl rfl hc2) rfl fun a hF => q_xg (v := s1.v) hF hS (ex_move rfl) (wanted_t hF rfl rfl rfl hc2) rfl fun a hF => q_xg (v := (.int .i64 (goLen p_s))) hF hS (ex_len Tryz.underlying24 rfl h1.len) (wanted_t hF rfl rfl rfl hc2) rfl fun a hF => q_xg (v := (.int .i64 (w64 ((goLen p_s) - 1)))) hF hS (ex_ibin rfl rfl rfl) (wanted_t hF rfl rfl rfl hc2) rfl fun a hF => ?_
   obtain ⟨t_4, ht_4, hj1⟩ := bindS hj1
   refine q_callg (vs := [s2.v, (.int .i64 0), (.int .i64 (w64 ((goLen p_s) - 1)))]) hF hS (wanted_t hF rfl rfl rfl hc2) Tryz.func60 (by kernel_rfl) rfl rfl rfl (c_spec_l1Rising p_vars 0 (w64 ((goLen p_s) - 1)) t_4 ht_4 _ m hS.vis s2 h2) ?_
   rintro a w _ rfl hF hS
   refine q_x (v := (.bool t_4)) hF hS (ex_pick_t rfl rfl hc2) rfl rfl fun a hF => q_x (v := (.bool t_4)) hF hS (ex_assign rfl) rfl rfl fun a hF => q_end (n_jn ?_)
   obtain rfl := someI hj1
   exact ⟨hF.sub ⟨rfl, trivial⟩, hS⟩
 ·rintro a w ⟨hF, hS⟩
  refine n_sq (q_ret ?_)
  obtain rfl := someI hr
  exact ret_of hF hS rfl (.tmp rfl .nil) rfl

theorem c_spec_sFits (p_s : List impl_Variable) (p_values : List Int) (r : Bool) (hr : spec_sFits p_s p_values = some r) (w0 : World) (m : Mem) (hv : Vis m w0) (s1 : Sl) (h1 : Rd m s1 p_s) (s2 : Sl) (h2 : Rd m s2 p_values) :
  Ret Tryz.prog 66 [s1.v, s2.v] w0 (fun v _ => v = (.bool r)) := by
 unfold spec_sFits at hr
 refine ret_start Tryz.func66 rfl 29 rfl rfl m hv fun a hF hS => q_seq (q_region (q_x (v := (.bool false)) hF hS (ex_assign rfl) rfl rfl fun a hF => q_end (n_sq (q_seq (q_seq (q_region (q_x (v := s2.v) hF hS (ex_move rfl) rfl rfl fun a hF => q_x (v := (.int .i64 (goLen p_values))) hF hS (ex_len Tryz.underlying26 rfl h2.len) rfl rfl fun a hF => q_x (v := s1.v) hF hS (ex_move rfl) rfl rfl fun a hF => q_x (v := (.int .i64 (goLen p_s))) hF hS (ex_len Tryz.underlying24 rfl h1.len) rfl rfl fun a hF => q_x (v := (.bool ((goLen p_values) != (goLen p_s)))) hF hS (ex_ibin rfl rfl rfl) rfl rfl fun a hF => q_end (n_sq ?_))))))))
 rcases bcase ((goLen p_values) != (goLen p_s)) with hc1 | hc1
 ·have hr := cond_f hc1 hr
  refine q_cond_f hF rfl hc1 (q_skipc (n_sq (q_seq (q_seq (q_region (q_x (v := s1.v) hF hS (ex_move rfl) rfl rfl fun a hF => q_x (v := (.int .i64 (goLen p_s))) hF hS (ex_len Tryz.underlying24 rfl h1.len) rfl rfl fun a hF => q_x (v := (.int .i64 0)) hF hS (ex_move rfl) rfl rfl fun a hF => q_end (n_sq (q_block ?_))))))))
  obtain ⟨o2, hl2, hr⟩ := bindS hr
  refine q_loop (fun (t_3 : Int) a w => Fr a 29 [(1, s2.v), (12, s1.v), (13, (.int .i64 (goLen p_s))), (14, (.int .i64 t_3))] ∧ St [] w0 w m []) (fun (o : (Unit) ⊕ (Bool)) e a w => o = .inl () ∧ e = .exit 0 ∧ Fr a 29 [] ∧ St [] w0 w m []) hl2 ⟨hF.sub ⟨rfl, rfl, rfl, rfl, trivial⟩, hS⟩ ?_ ?_
  ·clear hF hS
   rintro t_3 a w st ⟨hF, hS⟩ hb2
   unfold spec_sFits_l1 at hb2
   refine q_seq (q_region (q_x (v := (.bool (decide (t_3 < (goLen p_s))))) hF hS (ex_ibin rfl rfl rfl) rfl rfl fun a hF => q_end (n_sq (q_seq ?_))))
   rcases bcase (decide (t_3 < (goLen p_s))) with hc3 | hc3
   ·have hb2 := cond_f hc3 hb2
    refine q_cond_f hF rfl hc3 (q_exit (x_sq ?_))
    obtain rfl := someI hb2
    exact ⟨nofun, .inl ⟨rfl, rfl, hF.sub trivial, hS⟩⟩
   ·have hb2 := cond_t hc3 hb2
    refine q_cond_t hF rfl hc3 (q_skipc (n_sq (q_seq (q_block (q_seq (q_region (q_x (v := (.int .i64 t_3)) hF hS (ex_move rfl) rfl rfl fun a hF => ?_)))))))
    obtain ⟨e_4, he_4, hb2⟩ := bindS hb2
    obtain ⟨vs5, at5, d5⟩ := h1.at he_4 2 rfl
    obtain rfl : vs5 = [(strV e_4.Name), (.int .i64 e_4.Levels)] := d5
    refine q_x (v := (elP s1 (t_3.toNat * 2))) hF hS (ex_indexAddr Tryz.underlying24 sz67 rfl rfl (h1.idx he_4)) rfl rfl fun a hF => q_x (v := (.agg #[(strV e_4.Name), (.int .i64 e_4.Levels)])) hF hS (ex_loadEA (us := [(strV e_4.Name), (.int .i64 e_4.Levels)]) 0 Tryz.underlying67 rfl sz67 rfl ((at5).at) rfl rfl rfl) rfl rfl fun a hF => q_alloc (cs := [(strV ([] : List UInt8)), (.int .i64 0)]) hF hS rfl rfl rfl fun a w b6 hF hS => q_x (v := (.int .i64 t_3)) hF hS (ex_assign rfl) rfl rfl fun a hF => q_store (vs := [(strV e_4.Name), (.int .i64 e_4.Levels)]) (cs' := [(strV e_4.Name), (.int .i64 e_4.Levels)]) 0 0 hF hS sz67 rfl rfl rfl rfl rfl rfl rfl rfl fun a w hF hS => q_end (n_sq (q_seq (e_region ⟨[], []⟩ mixed fun w' hw' => ?_)))
    have hS := hS.below hw'
    refine e_p (v := s2.v) 0 hF rfl (ex_move rfl) rfl rfl (by kernel_rfl) (by kernel_rfl) (by kernel_rfl) fun a hF => e_p (v := (.int .i64 t_3)) 1 hF rfl (ex_move rfl) rfl rfl (by kernel_rfl) (by kernel_rfl) (by kernel_rfl) fun a hF => ?_
    obtain ⟨e_7, he_7, hb2⟩ := bindS hb2
    obtain ⟨vs8, at8, d8⟩ := h2.at he_7 1 rfl
    obtain rfl : vs8 = [(.int .i64 e_7)] := d8
    refine e_p (v := (elP s2 (t_3.toNat * 1))) 2 hF rfl (ex_indexAddr Tryz.underlying26 sz3 rfl rfl (h2.idx he_7)) rfl rfl (by kernel_rfl) (by kernel_rfl) (by kernel_rfl) fun a hF => e_x (v := (.int .i64 e_7)) 3 hF hS rfl (ex_loadE1 0 Tryz.underlying3 rfl rfl ((at8).at) rfl rfl) rfl rfl (by kernel_rfl) (by kernel_rfl) (by kernel_rfl) (by kernel_rfl) fun a hF => e_p (v := (.pointer (some ⟨b6, 1, none⟩))) 4 hF rfl (ex_fieldAddr Tryz.underlying67 rfl sz3 rfl rfl) rfl rfl (by kernel_rfl) (by kernel_rfl) (by kernel_rfl) fun a hF => e_x (v := (.int .i64 e_4.Levels)) 5 hF hS rfl (ex_load1 0 0 Tryz.underlying3 rfl rfl rfl rfl) rfl rfl (by kernel_rfl) (by kernel_rfl) (by kernel_rfl) (by kernel_rfl) fun a hF => e_p (v := (.int .i64 (w64 (e_4.Levels - 1)))) 6 hF rfl (ex_ibin rfl rfl rfl) rfl rfl (by kernel_rfl) (by kernel_rfl) (by kernel_rfl) fun a hF => e_one 7 (by kernel_rfl) ?_
    obtain ⟨t_9, ht_9, hb2⟩ := bindS hb2
    refine e_call (vs := [(.int .i64 e_7), (.int .i64 0), (.int .i64 (w64 (e_4.Levels - 1)))]) hF hS rfl Tryz.func65 (by kernel_rfl) rfl rfl rfl (c_spec_l1In e_7 0 (w64 (e_4.Levels - 1)) t_9 ht_9 _ m hS.vis) ?_
    rintro a w _ rfl hF hS
    refine e_p (v := (.bool (!t_9))) 8 hF rfl (ex_not rfl) rfl rfl (by kernel_rfl) (by kernel_rfl) (by kernel_rfl) fun a hF => e_end (by kernel_rfl) (n_sq ?_) _
    rcases bcase (!t_9) with hc4 | hc4
    ·have hb2 := cond_f hc4 hb2
     refine q_cond_f hF rfl hc4 (q_skipc (n_ib (n_sq (q_region (q_x (v := (.int .i64 (w64 (t_3 + 1)))) hF hS (ex_ibin rfl rfl rfl) rfl rfl fun a hF => q_x (v := (.int .i64 (w64 (t_3 + 1)))) hF hS (ex_move rfl) rfl rfl fun a hF => q_end ?_)))))
     obtain rfl := someI hb2
     exact ⟨rfl, hF.sub ⟨rfl, rfl, rfl, rfl, trivial⟩, hS.mask [false]⟩
    ·have hb2 := cond_t hc4 hb2
     refine q_cond_t hF rfl hc4 (q_seq (q_region (q_x (v := (.bool false)) hF hS (ex_assign rfl) rfl rfl fun a hF => q_end (n_sq (q_ret (r_ib (r_sq ?_)))))))
     obtain rfl := someI hb2
     refine ⟨nofun, .inr fun ho => ?_⟩
     subst ho
     refine r_ib (r_sq ?_)
     obtain rfl := someI hr
     exact ret_of hF hS rfl (.tmp rfl .nil) rfl
  ·rintro e a w ⟨rfl, rfl, hF, hS⟩
   refine x_ib (n_sq ?_)
   refine q_seq (q_region (q_x (v := (.bool true)) hF hS (ex_assign rfl) rfl rfl fun a hF => q_end (n_sq (q_ret ?_))))
   obtain rfl := someI hr
   exact ret_of hF hS rfl (.tmp rfl .nil) rfl
 ·have hr := cond_t hc1 hr
  refine q_cond_t hF rfl hc1 (q_seq (q_region (q_x (v := (.bool false)) hF hS (ex_assign rfl) rfl rfl fun a hF => q_end (n_sq (q_ret (r_sq ?_))))))
  obtain rfl := someI hr
  exact ret_of hF hS rfl (.tmp rfl .nil) rfl

theorem c_spec_rGood (p_s : List impl_Variable) (p_r : impl_Record) (r : Bool) (hr : spec_rGood p_s p_r = some r) (w0 : World) (m : Mem) (hv : Vis m w0) (s1 : Sl) (h1 : Rd m s1 p_s) (s2 : Sl) (h2 : Rd m s2 p_r.Values) :
  Ret Tryz.prog 46 [s1.v, (.agg #[(.int .i64 p_r.Area), (.int .i64 p_r.House), s2.v])] w0 (fun v _ => v = (.bool r)) := by
 unfold spec_rGood at hr
 refine ret_start Tryz.func46 rfl 19 rfl rfl m hv fun a hF hS => q_seq (q_region (q_box (cs := [(.int .i64 p_r.Area), (.int .i64 p_r.House), s2.v]) hF hS rfl rfl rfl fun a w b3 hF hS => q_x (v := (.bool false)) hF hS (ex_assign rfl) rfl rfl fun a hF => q_end (n_sq (q_seq ?_))))
 obtain ⟨t_7, hj1, hr⟩ := bindS hr
 refine q_join (fun a w => Fr a 19 [(4, (.bool t_7))] ∧ St [] w0 w m []) ?_ ?_
 ·refine q_region (q_x (v := (.pointer (some ⟨b3, 0, none⟩))) hF hS (ex_fieldAddr Tryz.underlying36 rfl sz3 rfl rfl) rfl rfl fun a hF => q_x (v := (.int .i64 p_r.Area)) hF hS (ex_load1 0 0 Tryz.underlying3 rfl rfl rfl rfl) rfl rfl fun a hF => ?_)
  obtain ⟨t_4, ht_4, hj1⟩ := bindS hj1
  refine q_call (vs := [(.int .i64 p_r.Area), (.int .i64 0), (.int .i64 29)]) hF hS Tryz.func65 (by kernel_rfl) rfl rfl rfl (c_spec_l1In p_r.Area 0 29 t_4 ht_4 _ m hS.vis) ?_
  rintro a w _ rfl hF hS
  refine q_x (v := (.bool t_4)) hF hS (ex_move rfl) rfl rfl fun a hF => ?_
  rcases bcase (t_4) with hc2 | hc2
  ·have hj1 := cond_f hc2 hj1
   refine q_skip hF (wanted_f hF rfl rfl rfl hc2 rfl) rfl fun a hF => q_skip hF (wanted_f hF rfl rfl rfl hc2 rfl) rfl fun a hF => q_skip hF (wanted_f hF rfl rfl rfl hc2 rfl) rfl fun a hF => q_x (v := (.bool false)) hF hS (ex_pick_f rfl rfl hc2) rfl rfl fun a hF => q_x (v := (.bool false)) hF hS (ex_move rfl) rfl rfl fun a hF => q_skip hF (wanted_f hF rfl rfl rfl rfl rfl) rfl fun a hF => q_skip hF (wanted_f hF rfl rfl rfl rfl rfl) rfl fun a hF => q_skip hF (wanted_f hF rfl rfl rfl rfl rfl) rfl fun a hF => q_skip hF (wanted_f hF rfl rfl rfl rfl rfl) rfl fun a hF => q_x (v := (.bool false)) hF hS (ex_pick_f rfl rfl rfl) rfl rfl fun a hF => q_x (v := (.bool false)) hF hS (ex_assign rfl) rfl rfl fun a hF => q_end (n_jn ?_)
   obtain rfl := someI hj1
   exact ⟨hF.sub ⟨rfl, trivial⟩, hS.mask [false]⟩
  ·have hj1 := cond_t hc2 hj1
   refine q_xg (v := (.pointer (some ⟨b3, 1, none⟩))) hF hS (ex_fieldAddr Tryz.underlying36 rfl sz3 rfl rfl) (wanted_t hF rfl rfl rfl hc2) rfl fun a hF => q_xg (v := (.int .i64 p_r.House)) hF hS (ex_load1 0 0 Tryz.underlying3 rfl rfl rfl rfl) (wanted_t hF rfl rfl rfl hc2) rfl fun a hF => ?_
   obtain ⟨t_5, ht_5, hj1⟩ := bindS hj1
   refine q_callg (vs := [(.int .i64 p_r.House), (.int .i64 0), (.int .i64 999)]) hF hS (wanted_t hF rfl rfl rfl hc2) Tryz.func65 (by kernel_rfl) rfl rfl rfl (c_spec_l1In p_r.House 0 999 t_5 ht_5 _ m hS.vis) ?_
   rintro a w _ rfl hF hS
   refine q_x (v := (.bool t_5)) hF hS (ex_pick_t rfl rfl hc2) rfl rfl fun a hF => q_x (v := (.bool t_5)) hF hS (ex_move rfl) rfl rfl fun a hF => ?_
   rcases bcase (t_5) with hc3 | hc3
   ·have hj1 := cond_f hc3 hj1
    refine q_skip hF (wanted_f hF rfl rfl rfl hc3 rfl) rfl fun a hF => q_skip hF (wanted_f hF rfl rfl rfl hc3 rfl) rfl fun a hF => q_skip hF (wanted_f hF rfl rfl rfl hc3 rfl) rfl fun a hF => q_skip hF (wanted_f hF rfl rfl rfl hc3 rfl) rfl fun a hF => q_x (v := (.bool false)) hF hS (ex_pick_f rfl rfl hc3) rfl rfl fun a hF => q_x (v := (.bool false)) hF hS (ex_assign rfl) rfl rfl fun a hF => q_end (n_jn ?_)
    obtain rfl := someI hj1
    exact ⟨hF.sub ⟨rfl, trivial⟩, hS.mask [false]⟩
   ·have hj1 := cond_t hc3 hj1
    refine q_xg (v := s1.v) hF hS (ex_move rfl) (wanted_t hF rfl rfl rfl hc3) rfl fun a hF => q_xg (v := (.pointer (some ⟨b3, 2, none⟩))) hF hS (ex_fieldAddr Tryz.underlying36 rfl sz26 rfl rfl) (wanted_t hF rfl rfl rfl hc3) rfl fun a hF => q_xg (v := s2.v) hF hS (ex_load1 0 0 Tryz.underlying26 rfl rfl rfl rfl) (wanted_t hF rfl rfl rfl hc3) rfl fun a hF => ?_
    obtain ⟨t_6, ht_6, hj1⟩ := bindS hj1
    refine q_callg (vs := [s1.v, s2.v]) hF hS (wanted_t hF rfl rfl rfl hc3) Tryz.func66 (by kernel_rfl) rfl rfl rfl (c_spec_sFits p_s p_r.Values t_6 ht_6 _ m hS.vis s1 h1 s2 h2) ?_
    rintro a w _ rfl hF hS
    refine q_x (v := (.bool t_6)) hF hS (ex_pick_t rfl rfl hc3) rfl rfl fun a hF => q_x (v := (.bool t_6)) hF hS (ex_assign rfl) rfl rfl fun a hF => q_end (n_jn ?_)
    obtain rfl := someI hj1
    exact ⟨hF.sub ⟨rfl, trivial⟩, hS.mask [false]⟩
 ·rintro a w ⟨hF, hS⟩
  refine n_sq (q_ret ?_)
  obtain rfl := someI hr
  exact ret_of hF hS rfl (.tmp rfl .nil) rfl

theorem c_spec_dGood (p_s : List impl_Variable) (p_l : List impl_Record) (r : Bool) (hr : spec_dGood p_s p_l = some r) (w0 : World) (m : Mem) (hv : Vis m w0) (s1 : Sl) (h1 : Rd m s1 p_s) (s2 : Sl) (h2 : Rd m s2 p_l) :
  Ret Tryz.prog 31 [s1.v, s2.v] w0 (fun v _ => v = (.bool r)) := by
 unfold spec_dGood at hr
 refine ret_start Tryz.func31 rfl 21 rfl rfl m hv fun a hF hS => q_seq (q_region (q_x (v := (.bool false)) hF hS (ex_assign rfl) rfl rfl fun a hF => q_end (n_sq (q_seq (q_seq (q_region (q_x (v := s2.v) hF hS (ex_move rfl) rfl rfl fun a hF => q_x (v := (.int .i64 (goLen p_l))) hF hS (ex_len Tryz.underlying25 rfl h2.len) rfl rfl fun a hF => q_x (v := (.int .i64 0)) hF hS (ex_move rfl) rfl rfl fun a hF => q_end (n_sq (q_block ?_)))))))))
 obtain ⟨o1, hl1, hr⟩ := bindS hr
 refine q_loop (fun (t_3 : Int) a w => Fr a 21 [(0, s1.v), (1, s2.v), (7, s2.v), (8, (.int .i64 (goLen p_l))), (9, (.int .i64 t_3))] ∧ St [] w0 w m []) (fun (o : (Unit) ⊕ (Bool)) e a w => o = .inl () ∧ e = .exit 0 ∧ Fr a 21 [(1, s2.v)] ∧ St [] w0 w m []) hl1 ⟨hF.sub ⟨rfl, rfl, rfl, rfl, rfl, trivial⟩, hS⟩ ?_ ?_
 ·clear hF hS
  rintro t_3 a w st ⟨hF, hS⟩ hb1
  unfold spec_dGood_l1 at hb1
  refine q_seq (q_region (q_x (v := (.bool (decide (t_3 < (goLen p_l))))) hF hS (ex_ibin rfl rfl rfl) rfl rfl fun a hF => q_end (n_sq (q_seq ?_))))
  rcases bcase (decide (t_3 < (goLen p_l))) with hc2 | hc2
  ·have hb1 := cond_f hc2 hb1
   refine q_cond_f hF rfl hc2 (q_exit (x_sq ?_))
   obtain rfl := someI hb1
   exact ⟨nofun, .inl ⟨rfl, rfl, hF.sub ⟨rfl, trivial⟩, hS⟩⟩
  ·have hb1 := cond_t hc2 hb1
   refine q_cond_t hF rfl hc2 (q_skipc (n_sq (q_seq (q_block (q_seq (q_region ?_))))))
   obtain ⟨e_4, he_4, hb1⟩ := bindS hb1
   obtain ⟨vs5, at5, d5⟩ := h2.at he_4 3 rfl
   obtain ⟨s6, rfl, h6⟩ : ∃ s6 : Sl, vs5 = [(.int .i64 e_4.Area), (.int .i64 e_4.House), s6.v] ∧ Rd m s6 e_4.Values := d5
   refine q_x (v := (elP s2 (t_3.toNat * 3))) hF hS (ex_indexAddr Tryz.underlying25 sz36 rfl rfl (h2.idx he_4)) rfl rfl fun a hF => q_x (v := (.agg #[(.int .i64 e_4.Area), (.int .i64 e_4.House), s6.v])) hF hS (ex_loadEA (us := [(.int .i64 e_4.Area), (.int .i64 e_4.House), s6.v]) 0 Tryz.underlying36 rfl sz36 rfl ((at5).at) rfl rfl rfl) rfl rfl fun a hF => q_alloc (cs := [(.int .i64 0), (.int .i64 0), nilS.v]) hF hS rfl rfl rfl fun a w b7 hF hS => q_store (vs := [(.int .i64 e_4.Area), (.int .i64 e_4.House), s6.v]) (cs' := [(.int .i64 e_4.Area), (.int .i64 e_4.House), s6.v]) 0 0 hF hS sz36 rfl rfl rfl rfl rfl rfl rfl rfl fun a w hF hS => q_end (n_sq (q_seq (q_region (q_x (v := s1.v) hF hS (ex_move rfl) rfl rfl fun a hF => q_x (v := (.agg #[(.int .i64 e_4.Area), (.int .i64 e_4.House), s6.v])) hF hS (ex_loadA (vs := [(.int .i64 e_4.Area), (.int .i64 e_4.House), s6.v]) 0 0 Tryz.underlying36 rfl sz36 rfl rfl rfl rfl) rfl rfl fun a hF => ?_))))
   obtain ⟨t_8, ht_8, hb1⟩ := bindS hb1
   refine q_call (vs := [s1.v, (.agg #[(.int .i64 e_4.Area), (.int .i64 e_4.House), s6.v])]) hF hS Tryz.func46 (by kernel_rfl) rfl rfl rfl (c_spec_rGood p_s e_4 t_8 ht_8 _ m hS.vis s1 h1 s6 h6) ?_
   rintro a w _ rfl hF hS
   refine q_x (v := (.bool (!t_8))) hF hS (ex_not rfl) rfl rfl fun a hF => q_end (n_sq ?_)
   rcases bcase (!t_8) with hc3 | hc3
   ·have hb1 := cond_f hc3 hb1
    refine q_cond_f hF rfl hc3 (q_skipc (n_ib (n_sq (q_region (q_x (v := (.int .i64 (w64 (t_3 + 1)))) hF hS (ex_ibin rfl rfl rfl) rfl rfl fun a hF => q_x (v := (.int .i64 (w64 (t_3 + 1)))) hF hS (ex_move rfl) rfl rfl fun a hF => q_end ?_)))))
    obtain rfl := someI hb1
    exact ⟨rfl, hF.sub ⟨rfl, rfl, rfl, rfl, rfl, trivial⟩, hS.mask [false]⟩
   ·have hb1 := cond_t hc3 hb1
    refine q_cond_t hF rfl hc3 (q_seq (q_region (q_x (v := (.bool false)) hF hS (ex_assign rfl) rfl rfl fun a hF => q_end (n_sq (q_ret (r_ib (r_sq ?_)))))))
    obtain rfl := someI hb1
    refine ⟨nofun, .inr fun ho => ?_⟩
    subst ho
    refine r_ib (r_sq ?_)
    obtain rfl := someI hr
    exact ret_of hF hS rfl (.tmp rfl .nil) rfl
 ·rintro e a w ⟨rfl, rfl, hF, hS⟩
  refine x_ib (n_sq ?_)
  refine q_seq (q_region (q_x (v := s2.v) hF hS (ex_move rfl) rfl rfl fun a hF => q_x (v := (.int .i64 (goLen p_l))) hF hS (ex_len Tryz.underlying25 rfl h2.len) rfl rfl fun a hF => q_x (v := (.bool (decide ((goLen p_l) ≤ 40)))) hF hS (ex_ibin rfl rfl rfl) rfl rfl fun a hF => q_x (v := (.bool (decide ((goLen p_l) ≤ 40)))) hF hS (ex_assign rfl) rfl rfl fun a hF => q_end (n_sq (q_ret ?_))))
  obtain rfl := someI hr
  exact ret_of hF hS rfl (.tmp rfl .nil) rfl

theorem c_spec_swInput (p_s : List impl_Variable) (p_l : List impl_Record) (p_vars : List Int) (r : Bool) (hr : spec_swInput p_s p_l p_vars = some r) (w0 : World) (m : Mem) (hv : Vis m w0) (s1 : Sl) (h1 : Rd m s1 p_s) (s2 : Sl) (h2 : Rd m s2 p_l) (s3 : Sl) (h3 : Rd m s3 p_vars) :
  Ret Tryz.prog 19 [s1.v, s2.v, s3.v] w0 (fun v _ => v = (.bool r)) := by
 unfold spec_swInput at hr
 refine ret_start Tryz.func19 rfl 15 rfl rfl m hv fun a hF hS => q_seq (q_region (q_x (v := (.bool false)) hF hS (ex_assign rfl) rfl rfl fun a hF => q_end (n_sq (q_seq ?_))))
 obtain ⟨t_6, hj1, hr⟩ := bindS hr
 refine q_join (fun a w => Fr a 15 [(6, (.bool t_6))] ∧ St [] w0 w m []) ?_ ?_
 ·refine q_region (q_x (v := s1.v) hF hS (ex_move rfl) rfl rfl fun a hF => q_x (v := s3.v) hF hS (ex_move rfl) rfl rfl fun a hF => ?_)
  obtain ⟨t_4, ht_4, hj1⟩ := bindS hj1
  refine q_call (vs := [s1.v, s3.v]) hF hS Tryz.func37 (by kernel_rfl) rfl rfl rfl (c_spec_swVars p_s p_vars t_4 ht_4 _ m hS.vis s1 h1 s3 h3) ?_
  rintro a w _ rfl hF hS
  refine q_x (v := (.bool t_4)) hF hS (ex_move rfl) rfl rfl fun a hF => ?_
  rcases bcase (t_4) with hc2 | hc2
  ·have hj1 := cond_f hc2 hj1
   refine q_skip hF (wanted_f hF rfl rfl rfl hc2 rfl) rfl fun a hF => q_skip hF (wanted_f hF rfl rfl rfl hc2 rfl) rfl fun a hF => q_skip hF (wanted_f hF rfl rfl rfl hc2 rfl) rfl fun a hF => q_x (v := (.bool false)) hF hS (ex_pick_f rfl rfl hc2) rfl rfl fun a hF => q_x (v := (.bool false)) hF hS (ex_assign rfl) rfl rfl fun a hF => q_end (n_jn ?_)
   obtain rfl := someI hj1
   exact ⟨hF.sub ⟨rfl, trivial⟩, hS⟩
  ·have hj1 := cond_t hc2 hj1
   refine q_xg (v := s1.v) hF hS (ex_move rfl) (wanted_t hF rfl rfl rfl hc2) rfl fun a hF => q_xg (v := s2.v) hF hS (ex_move rfl) (wanted_t hF rfl rfl rfl hc2) rfl fun a hF => ?_
   obtain ⟨t_5, ht_5, hj1⟩ := bindS hj1
   refine q_callg (vs := [s1.v, s2.v]) hF hS (wanted_t hF rfl rfl rfl hc2) Tryz.func31 (by kernel_rfl) rfl rfl rfl (c_spec_dGood p_s p_l t_5 ht_5 _ m hS.vis s1 h1 s2 h2) ?_
   rintro a w _ rfl hF hS
   refine q_x (v := (.bool t_5)) hF hS (ex_pick_t rfl rfl hc2) rfl rfl fun a hF => q_x (v := (.bool t_5)) hF hS (ex_assign rfl) rfl rfl fun a hF => q_end (n_jn ?_)
   obtain rfl := someI hj1
   exact ⟨hF.sub ⟨rfl, trivial⟩, hS⟩
 ·rintro a w ⟨hF, hS⟩
  refine n_sq (q_ret ?_)
  obtain rfl := someI hr
  exact ret_of hF hS rfl (.tmp rfl .nil) rfl

theorem c_spec_sPart (p_s : List impl_Variable) (p_vars : List Int) (r : (List impl_Variable)) (hr : spec_sPart p_s p_vars = some r) (w0 : World) (m : Mem) (hv : Vis m w0) (s1 : Sl) (h1 : Rd m s1 p_s) (s2 : Sl) (h2 : Rd m s2 p_vars) :
  Ret Tryz.prog 48 [s1.v, s2.v] w0 (fun v w => ∃ (q0' : Piece) (s0' : Sl), v = s0'.v ∧ St [] w0 w m [q0'] ∧ OwnL m 67 q0' s0' r) := by
 unfold spec_sPart at hr
 refine ret_start Tryz.func48 rfl 23 rfl rfl m hv fun a hF hS => q_seq (q_region (q_x (v := nilS.v) hF hS (ex_assign rfl) rfl rfl fun a hF => q_end (n_sq (q_seq (q_region (q_x (v := nilS.v) hF hS (ex_assign rfl) rfl rfl fun a hF => q_end (n_sq (q_seq (q_seq (q_region (q_x (v := s2.v) hF hS (ex_move rfl) rfl rfl fun a hF => q_x (v := (.int .i64 (goLen p_vars))) hF hS (ex_len Tryz.underlying26 rfl h2.len) rfl rfl fun a hF => q_x (v := (.int .i64 0)) hF hS (ex_move rfl) rfl rfl fun a hF => q_end (n_sq (q_block ?_)))))))))))))
 obtain ⟨out_13, hl1, hr⟩ := bindS hr
 refine q_loop (fun (s : (List impl_Variable) × Int) a w => ∃ (q4 : Piece), ∃ (s4 : Sl), ∃ out_3, ∃ t_5, s = (out_3, t_5) ∧ Fr a 23 [(0, s1.v), (5, s4.v), (8, s2.v), (9, (.int .i64 (goLen p_vars))), (10, (.int .i64 t_5))] ∧ St [] w0 w m [q4] ∧ OwnL m 67 q4 s4 out_3) (fun (out_13 : (List impl_Variable)) e a w => ∃ (q14 : Piece), ∃ (s14 : Sl), e = .exit 0 ∧ Fr a 23 [(5, s14.v)] ∧ St [] w0 w m [q14] ∧ OwnL m 67 q14 s14 out_13) hl1 ⟨[], nilS, _, _, rfl, hF.sub ⟨rfl, rfl, rfl, rfl, rfl, trivial⟩, hS.sel [0] (by decide), (OwnL.nil (α := impl_Variable) m 67)⟩ ?_ ?_
 ·clear hF hS
  rintro s a w st ⟨q4, s4, out_3, t_5, rfl, hF, hS, h4⟩ hb1
  unfold spec_sPart_l1 at hb1
  refine q_seq (q_region (q_x (v := (.bool (decide (t_5 < (goLen p_vars))))) hF hS (ex_ibin rfl rfl rfl) rfl rfl fun a hF => q_end (n_sq (q_seq ?_))))
  rcases bcase (decide (t_5 < (goLen p_vars))) with hc2 | hc2
  ·have hb1 := cond_f hc2 hb1
   refine q_cond_f hF rfl hc2 (q_exit (x_sq ?_))
   obtain rfl := someI hb1
   exact ⟨nofun, .inl ⟨q4, s4, rfl, hF.sub ⟨rfl, trivial⟩, hS, h4⟩⟩
  ·have hb1 := cond_t hc2 hb1
   refine q_cond_t hF rfl hc2 (q_skipc (n_sq (q_seq (q_block (q_seq (q_region ?_))))))
   obtain ⟨e_6, he_6, hb1⟩ := bindS hb1
   obtain ⟨vs7, at7, d7⟩ := h2.at he_6 1 rfl
   obtain rfl : vs7 = [(.int .i64 e_6)] := d7
   refine q_x (v := (elP s2 (t_5.toNat * 1))) hF hS (ex_indexAddr Tryz.underlying26 sz3 rfl rfl (h2.idx he_6)) rfl rfl fun a hF => q_x (v := (.int .i64 e_6)) hF hS (ex_loadE1 0 Tryz.underlying3 rfl rfl ((at7).at) rfl rfl) rfl rfl fun a hF => q_x (v := (.int .i64 e_6)) hF hS (ex_assign rfl) rfl rfl fun a hF => q_end (n_sq (q_region (q_x (v := s4.v) hF hS (ex_move rfl) rfl rfl fun a hF => q_x (v := s1.v) hF hS (ex_move rfl) rfl rfl fun a hF => q_x (v := (.int .i64 e_6)) hF hS (ex_move rfl) rfl rfl fun a hF => ?_)))
   obtain ⟨e_8, he_8, hb1⟩ := bindS hb1
   obtain ⟨vs9, at9, d9⟩ := h1.at he_8 2 rfl
   obtain rfl : vs9 = [(strV e_8.Name), (.int .i64 e_8.Levels)] := d9
   refine q_x (v := (elP s1 (e_6.toNat * 2))) hF hS (ex_indexAddr Tryz.underlying24 sz67 rfl rfl (h1.idx he_8)) rfl rfl fun a hF => q_x (v := (.agg #[(strV e_8.Name), (.int .i64 e_8.Levels)])) hF hS (ex_loadEA (us := [(strV e_8.Name), (.int .i64 e_8.Levels)]) 0 Tryz.underlying67 rfl sz67 rfl ((at9).at) rfl rfl rfl) rfl rfl fun a hF => q_do rfl fun _ hK => wp_buildSlice' (l := ([e_8] : List impl_Variable)) (cells := [(strV e_8.Name), (.int .i64 e_8.Levels)]) hF hS Tryz.underlying24 inf67 rfl rfl (by kernel_rfl) rfl rfl rfl ⟨rfl, rfl⟩ rfl rfl fun a w q10 s10 hF hS h10 _ => hK _ _ ?_
   have hS : St _ _ _ _ [q4, q10] := hS.sel [1, 0] (by decide)
   obtain ⟨l_11, hl_11, hb1⟩ := bindS hb1
   refine q_do rfl fun _ hK => wp_append hF hS h4 Tryz.underlying24 inf67 rfl rfl rfl rfl (h10.vw hS (j := 1) rfl) rfl (by decide) hl_11 rfl fun a w q12 s12 hF hS h12 => hK _ _ (q_x (v := s12.v) hF hS (ex_assign rfl) rfl rfl fun a hF => q_end (n_ib (n_sq (q_region (q_x (v := (.int .i64 (w64 (t_5 + 1)))) hF hS (ex_ibin rfl rfl rfl) rfl rfl fun a hF => q_x (v := (.int .i64 (w64 (t_5 + 1)))) hF hS (ex_move rfl) rfl rfl fun a hF => q_end ?_)))))
   obtain rfl := someI hb1
   exact ⟨rfl, q12, s12, _, _, rfl, hF.sub ⟨rfl, rfl, rfl, rfl, rfl, trivial⟩, hS.mask [true, false], h12⟩
 ·rintro e a w ⟨q14, s14, rfl, hF, hS, h14⟩
  refine x_ib (n_sq ?_)
  refine q_seq (q_region (q_x (v := s14.v) hF hS (ex_move rfl) rfl rfl fun a hF => q_x (v := s14.v) hF hS (ex_assign rfl) rfl rfl fun a hF => q_end (n_sq (q_ret ?_))))
  obtain rfl := someI hr
  exact ret_of hF hS rfl (.tmp rfl .nil) ⟨q14, s14, rfl, hS.sel [0] (by decide), h14⟩

theorem c_spec_sPick (p_values : List Int) (p_vars : List Int) (r : (List Int)) (hr : spec_sPick p_values p_vars = some r) (w0 : World) (m : Mem) (hv : Vis m w0) (s1 : Sl) (h1 : Rd m s1 p_values) (s2 : Sl) (h2 : Rd m s2 p_vars) :
  Ret Tryz.prog 49 [s1.v, s2.v] w0 (fun v w => ∃ (q0' : Piece) (s0' : Sl), v = s0'.v ∧ St [] w0 w m [q0'] ∧ OwnL m 3 q0' s0' r) := by
 unfold spec_sPick at hr
 refine ret_start Tryz.func49 rfl 23 rfl rfl m hv fun a hF hS => q_seq (q_region (q_x (v := nilS.v) hF hS (ex_assign rfl) rfl rfl fun a hF => q_end (n_sq (q_seq (q_region (q_x (v := nilS.v) hF hS (ex_assign rfl) rfl rfl fun a hF => q_end (n_sq (q_seq (q_seq (q_region (q_x (v := s2.v) hF hS (ex_move rfl) rfl rfl fun a hF => q_x (v := (.int .i64 (goLen p_vars))) hF hS (ex_len Tryz.underlying26 rfl h2.len) rfl rfl fun a hF => q_x (v := (.int .i64 0)) hF hS (ex_move rfl) rfl rfl fun a hF => q_end (n_sq (q_block ?_)))))))))))))
 obtain ⟨out_13, hl1, hr⟩ := bindS hr
 refine q_loop (fun (s : (List Int) × Int) a w => ∃ (q4 : Piece), ∃ (s4 : Sl), ∃ out_3, ∃ t_5, s = (out_3, t_5) ∧ Fr a 23 [(0, s1.v), (5, s4.v), (8, s2.v), (9, (.int .i64 (goLen p_vars))), (10, (.int .i64 t_5))] ∧ St [] w0 w m [q4] ∧ OwnL m 3 q4 s4 out_3) (fun (out_13 : (List Int)) e a w => ∃ (q14 : Piece), ∃ (s14 : Sl), e = .exit 0 ∧ Fr a 23 [(5, s14.v)] ∧ St [] w0 w m [q14] ∧ OwnL m 3 q14 s14 out_13) hl1 ⟨[], nilS, _, _, rfl, hF.sub ⟨rfl, rfl, rfl, rfl, rfl, trivial⟩, hS.sel [0] (by decide), (OwnL.nil (α := Int) m 3)⟩ ?_ ?_
 ·clear hF hS
  rintro s a w st ⟨q4, s4, out_3, t_5, rfl, hF, hS, h4⟩ hb1
  unfold spec_sPick_l1 at hb1
  refine q_seq (q_region (q_x (v := (.bool (decide (t_5 < (goLen p_vars))))) hF hS (ex_ibin rfl rfl rfl) rfl rfl fun a hF => q_end (n_sq (q_seq ?_))))
  rcases bcase (decide (t_5 < (goLen p_vars))) with hc2 | hc2
  ·have hb1 := cond_f hc2 hb1
   refine q_cond_f hF rfl hc2 (q_exit (x_sq ?_))
   obtain rfl := someI hb1
   exact ⟨nofun, .inl ⟨q4, s4, rfl, hF.sub ⟨rfl, trivial⟩, hS, h4⟩⟩
  ·have hb1 := cond_t hc2 hb1
   refine q_cond_t hF rfl hc2 (q_skipc (n_sq (q_seq (q_block (q_seq (q_region ?_))))))
   obtain ⟨e_6, he_6, hb1⟩ := bindS hb1
   obtain ⟨vs7, at7, d7⟩ := h2.at he_6 1 rfl
   obtain rfl : vs7 = [(.int .i64 e_6)] := d7
   refine q_x (v := (elP s2 (t_5.toNat * 1))) hF hS (ex_indexAddr Tryz.underlying26 sz3 rfl rfl (h2.idx he_6)) rfl rfl fun a hF => q_x (v := (.int .i64 e_6)) hF hS (ex_loadE1 0 Tryz.underlying3 rfl rfl ((at7).at) rfl rfl) rfl rfl fun a hF => q_x (v := (.int .i64 e_6)) hF hS (ex_assign rfl) rfl rfl fun a hF => q_end (n_sq (q_region (q_x (v := s4.v) hF hS (ex_move rfl) rfl rfl fun a hF => q_x (v := s1.v) hF hS (ex_move rfl) rfl rfl fun a hF => q_x (v := (.int .i64 e_6)) hF hS (ex_move rfl) rfl rfl fun a hF => ?_)))
   obtain ⟨e_8, he_8, hb1⟩ := bindS hb1
   obtain ⟨vs9, at9, d9⟩ := h1.at he_8 1 rfl
   obtain rfl : vs9 = [(.int .i64 e_8)] := d9
   refine q_x (v := (elP s1 (e_6.toNat * 1))) hF hS (ex_indexAddr Tryz.underlying26 sz3 rfl rfl (h1.idx he_8)) rfl rfl fun a hF => q_x (v := (.int .i64 e_8)) hF hS (ex_loadE1 0 Tryz.underlying3 rfl rfl ((at9).at) rfl rfl) rfl rfl fun a hF => q_do rfl fun _ hK => wp_buildSlice' (l := ([e_8] : List Int)) (cells := [(.int .i64 e_8)]) hF hS Tryz.underlying26 inf3 rfl rfl (by kernel_rfl) rfl rfl rfl ⟨rfl, rfl⟩ rfl rfl fun a w q10 s10 hF hS h10 _ => hK _ _ ?_
   have hS : St _ _ _ _ [q4, q10] := hS.sel [1, 0] (by decide)
   obtain ⟨l_11, hl_11, hb1⟩ := bindS hb1
   refine q_do rfl fun _ hK => wp_append hF hS h4 Tryz.underlying26 inf3 rfl rfl rfl rfl (h10.vw hS (j := 1) rfl) rfl (by decide) hl_11 rfl fun a w q12 s12 hF hS h12 => hK _ _ (q_x (v := s12.v) hF hS (ex_assign rfl) rfl rfl fun a hF => q_end (n_ib (n_sq (q_region (q_x (v := (.int .i64 (w64 (t_5 + 1)))) hF hS (ex_ibin rfl rfl rfl) rfl rfl fun a hF => q_x (v := (.int .i64 (w64 (t_5 + 1)))) hF hS (ex_move rfl) rfl rfl fun a hF => q_end ?_)))))
   obtain rfl := someI hb1
   exact ⟨rfl, q12, s12, _, _, rfl, hF.sub ⟨rfl, rfl, rfl, rfl, rfl, trivial⟩, hS.mask [true, false], h12⟩
 ·rintro e a w ⟨q14, s14, rfl, hF, hS, h14⟩
  refine x_ib (n_sq ?_)
  refine q_seq (q_region (q_x (v := s14.v) hF hS (ex_move rfl) rfl rfl fun a hF => q_x (v := s14.v) hF hS (ex_assign rfl) rfl rfl fun a hF => q_end (n_sq (q_ret ?_))))
  obtain rfl := someI hr
  exact ret_of hF hS rfl (.tmp rfl .nil) ⟨q14, s14, rfl, hS.sel [0] (by decide), h14⟩

theorem c_spec_sIndex (p_s : List impl_Variable) (p_values : List Int) (r : Int) (hr : spec_sIndex p_s p_values = some r) (w0 : World) (m : Mem) (hv : Vis m w0) (s1 : Sl) (h1 : Rd m s1 p_s) (s2 : Sl) (h2 : Rd m s2 p_values) :
  Ret Tryz.prog 47 [s1.v, s2.v] w0 (fun v _ => v = (.int .i64 r)) := by
 unfold spec_sIndex at hr
 refine ret_start Tryz.func47 rfl 26 rfl rfl m hv fun a hF hS => q_seq (q_region (q_x (v := (.int .i64 0)) hF hS (ex_assign rfl) rfl rfl fun a hF => q_end (n_sq (q_seq (q_region (q_x (v := (.int .i64 0)) hF hS (ex_assign rfl) rfl rfl fun a hF => q_end (n_sq (q_seq (q_seq (q_region (q_x (v := s1.v) hF hS (ex_move rfl) rfl rfl fun a hF => q_x (v := (.int .i64 (goLen p_s))) hF hS (ex_len Tryz.underlying24 rfl h1.len) rfl rfl fun a hF => q_x (v := (.int .i64 0)) hF hS (ex_move rfl) rfl rfl fun a hF => q_end (n_sq (q_block ?_)))))))))))))
 obtain ⟨n_10, hl1, hr⟩ := bindS hr
 refine q_loop (fun (s : Int × Int) a w => ∃ n_3, ∃ t_4, s = (n_3, t_4) ∧ Fr a 26 [(1, s2.v), (5, (.int .i64 n_3)), (8, s1.v), (9, (.int .i64 (goLen p_s))), (10, (.int .i64 t_4))] ∧ St [] w0 w m []) (fun (n_10 : Int) e a w => e = .exit 0 ∧ Fr a 26 [(5, (.int .i64 n_10))] ∧ St [] w0 w m []) hl1 ⟨_, _, rfl, hF.sub ⟨rfl, rfl, rfl, rfl, rfl, trivial⟩, hS⟩ ?_ ?_
 ·clear hF hS
  rintro s a w st ⟨n_3, t_4, rfl, hF, hS⟩ hb1
  unfold spec_sIndex_l1 at hb1
  refine q_seq (q_region (q_x (v := (.bool (decide (t_4 < (goLen p_s))))) hF hS (ex_ibin rfl rfl rfl) rfl rfl fun a hF => q_end (n_sq (q_seq ?_))))
  rcases bcase (decide (t_4 < (goLen p_s))) with hc2 | hc2
  ·have hb1 := cond_f hc2 hb1
   refine q_cond_f hF rfl hc2 (q_exit (x_sq ?_))
   obtain rfl := someI hb1
   exact ⟨nofun, .inl ⟨rfl, hF.sub ⟨rfl, trivial⟩, hS⟩⟩
  ·have hb1 := cond_t hc2 hb1
   refine q_cond_t hF rfl hc2 (q_skipc (n_sq (q_seq (q_block (q_seq (q_region (q_x (v := (.int .i64 t_4)) hF hS (ex_move rfl) rfl rfl fun a hF => ?_)))))))
   obtain ⟨e_5, he_5, hb1⟩ := bindS hb1
   obtain ⟨vs6, at6, d6⟩ := h1.at he_5 2 rfl
   obtain rfl : vs6 = [(strV e_5.Name), (.int .i64 e_5.Levels)] := d6
   refine q_x (v := (elP s1 (t_4.toNat * 2))) hF hS (ex_indexAddr Tryz.underlying24 sz67 rfl rfl (h1.idx he_5)) rfl rfl fun a hF => q_x (v := (.agg #[(strV e_5.Name), (.int .i64 e_5.Levels)])) hF hS (ex_loadEA (us := [(strV e_5.Name), (.int .i64 e_5.Levels)]) 0 Tryz.underlying67 rfl sz67 rfl ((at6).at) rfl rfl rfl) rfl rfl fun a hF => q_alloc (cs := [(strV ([] : List UInt8)), (.int .i64 0)]) hF hS rfl rfl rfl fun a w b7 hF hS => q_x (v := (.int .i64 t_4)) hF hS (ex_assign rfl) rfl rfl fun a hF => q_store (vs := [(strV e_5.Name), (.int .i64 e_5.Levels)]) (cs' := [(strV e_5.Name), (.int .i64 e_5.Levels)]) 0 0 hF hS sz67 rfl rfl rfl rfl rfl rfl rfl rfl fun a w hF hS => q_end (n_sq (e_region ⟨[], []⟩ mixed fun w' hw' => ?_))
   have hS := hS.below hw'
   refine e_p (v := (.int .i64 n_3)) 0 hF rfl (ex_move rfl) rfl rfl (by kernel_rfl) (by kernel_rfl) (by kernel_rfl) fun a hF => e_p (v := (.pointer (some ⟨b7, 1, none⟩))) 1 hF rfl (ex_fieldAddr Tryz.underlying67 rfl sz3 rfl rfl) rfl rfl (by kernel_rfl) (by kernel_rfl) (by kernel_rfl) fun a hF => e_x (v := (.int .i64 e_5.Levels)) 2 hF hS rfl (ex_load1 0 0 Tryz.underlying3 rfl rfl rfl rfl) rfl rfl (by kernel_rfl) (by kernel_rfl) (by kernel_rfl) (by kernel_rfl) fun a hF => e_p (v := (.int .i64 (w64 (n_3 * e_5.Levels)))) 3 hF rfl (ex_ibin rfl rfl rfl) rfl rfl (by kernel_rfl) (by kernel_rfl) (by kernel_rfl) fun a hF => e_p (v := s2.v) 4 hF rfl (ex_move rfl) rfl rfl (by kernel_rfl) (by kernel_rfl) (by kernel_rfl) fun a hF => e_p (v := (.int .i64 t_4)) 5 hF rfl (ex_move rfl) rfl rfl (by kernel_rfl) (by kernel_rfl) (by kernel_rfl) fun a hF => ?_
   obtain ⟨e_8, he_8, hb1⟩ := bindS hb1
   obtain ⟨vs9, at9, d9⟩ := h2.at he_8 1 rfl
   obtain rfl : vs9 = [(.int .i64 e_8)] := d9
   refine e_p (v := (elP s2 (t_4.toNat * 1))) 6 hF rfl (ex_indexAddr Tryz.underlying26 sz3 rfl rfl (h2.idx he_8)) rfl rfl (by kernel_rfl) (by kernel_rfl) (by kernel_rfl) fun a hF => e_x (v := (.int .i64 e_8)) 7 hF hS rfl (ex_loadE1 0 Tryz.underlying3 rfl rfl ((at9).at) rfl rfl) rfl rfl (by kernel_rfl) (by kernel_rfl) (by kernel_rfl) (by kernel_rfl) fun a hF => e_p (v := (.int .i64 (w64 ((w64 (n_3 * e_5.Levels)) + e_8)))) 8 hF rfl (ex_ibin rfl rfl rfl) rfl rfl (by kernel_rfl) (by kernel_rfl) (by kernel_rfl) fun a hF => e_p (v := (.int .i64 (w64 ((w64 (n_3 * e_5.Levels)) + e_8)))) 9 hF rfl (ex_assign rfl) rfl rfl (by kernel_rfl) (by kernel_rfl) (by kernel_rfl) fun a hF => e_end (by kernel_rfl) (n_ib (n_sq ?_)) _
   refine q_region (q_x (v := (.int .i64 (w64 (t_4 + 1)))) hF hS (ex_ibin rfl rfl rfl) rfl rfl fun a hF => q_x (v := (.int .i64 (w64 (t_4 + 1)))) hF hS (ex_move rfl) rfl rfl fun a hF => q_end ?_)
   obtain rfl := someI hb1
   exact ⟨rfl, _, _, rfl, hF.sub ⟨rfl, rfl, rfl, rfl, rfl, trivial⟩, hS.mask [false]⟩
 ·rintro e a w ⟨rfl, hF, hS⟩
  refine x_ib (n_sq ?_)
  refine q_seq (q_region (q_x (v := (.int .i64 n_10)) hF hS (ex_move rfl) rfl rfl fun a hF => q_x (v := (.int .i64 n_10)) hF hS (ex_assign rfl) rfl rfl fun a hF => q_end (n_sq (q_ret ?_))))
  obtain rfl := someI hr
  exact ret_of hF hS rfl (.tmp rfl .nil) rfl

theorem c_spec_swKey (p_s : List impl_Variable) (p_values : List Int) (p_vars : List Int) (r : Int) (hr : spec_swKey p_s p_values p_vars = some r) (w0 : World) (m : Mem) (hv : Vis m w0) (s1 : Sl) (h1 : Rd m s1 p_s) (s2 : Sl) (h2 : Rd m s2 p_values) (s3 : Sl) (h3 : Rd m s3 p_vars) :
  Ret Tryz.prog 32 [s1.v, s2.v, s3.v] w0 (fun v _ => v = (.int .i64 r)) := by
 unfold spec_swKey at hr
 refine ret_start Tryz.func32 rfl 14 rfl rfl m hv fun a hF hS => q_seq (q_region (q_x (v := (.int .i64 0)) hF hS (ex_assign rfl) rfl rfl fun a hF => q_end (n_sq (q_seq (q_region (q_x (v := s1.v) hF hS (ex_move rfl) rfl rfl fun a hF => q_x (v := s3.v) hF hS (ex_move rfl) rfl rfl fun a hF => ?_))))))
 obtain ⟨t_4, ht_4, hr⟩ := bindS hr
 refine q_call (vs := [s1.v, s3.v]) hF hS Tryz.func48 (by kernel_rfl) rfl rfl rfl (c_spec_sPart p_s p_vars t_4 ht_4 _ m hS.vis s1 h1 s3 h3) ?_
 rintro a w _ ⟨q6, s6, rfl, hR5, h6⟩ hF hS2
 have hS : St _ _ _ _ [q6] := hS.joinF hR5
 refine q_x (v := s2.v) hF hS (ex_move rfl) rfl rfl fun a hF => q_x (v := s3.v) hF hS (ex_move rfl) rfl rfl fun a hF => ?_
 obtain ⟨t_7, ht_7, hr⟩ := bindS hr
 refine q_call (vs := [s2.v, s3.v]) hF hS Tryz.func49 (by kernel_rfl) rfl rfl rfl (c_spec_sPick p_values p_vars t_7 ht_7 _ m hS.vis s2 h2 s3 h3) ?_
 rintro a w _ ⟨q9, s9, rfl, hR8, h9⟩ hF hS2
 have hS : St _ _ _ _ [q9, q6] := hS.joinF hR8
 obtain ⟨m11, hl11, hv11, hz11⟩ := hS.lend
 obtain ⟨t_10, ht_10, hr⟩ := bindS hr
 refine q_call (vs := [s6.v, s9.v]) hF hS Tryz.func47 (by kernel_rfl) rfl rfl rfl (c_spec_sIndex t_4 t_7 t_10 ht_10 _ m11 hv11 s6 (h6.froz hl11 (hz11 1 _ rfl)) s9 (h9.froz hl11 (hz11 0 _ rfl))) ?_
 rintro a w _ rfl hF hS
 refine q_x (v := (.int .i64 t_10)) hF hS (ex_assign rfl) rfl rfl fun a hF => q_end (n_sq (q_ret ?_))
 obtain rfl := someI hr
 exact ret_of hF hS rfl (.tmp rfl .nil) rfl

theorem c_spec_l1Put (p_l : List Int) (p_n : Int) (r : (List Int)) (hr : spec_l1Put p_l p_n = some r) (w0 : World) (m : Mem) (hv : Vis m w0) (s1 : Sl) (h1 : Rd m s1 p_l) :
  Ret Tryz.prog 38 [s1.v, (.int .i64 p_n)] w0 (fun v w => ∃ (m' : Mem) (s0' : Sl), v = s0'.v ∧ MLe [] w0.heap.size m m' ∧ St [] w0 w m' [] ∧ Rd m' s0' r) := by
 unfold spec_l1Put at hr
 refine ret_start Tryz.func38 rfl 48 rfl rfl m hv fun a hF hS => q_seq (q_region (q_x (v := nilS.v) hF hS (ex_assign rfl) rfl rfl fun a hF => q_end (n_sq (q_seq (q_region (q_x (v := (.int .i64 0)) hF hS (ex_assign rfl) rfl rfl fun a hF => q_end (n_sq (q_seq (q_block ?_)))))))))
 obtain ⟨k_6, hl1, hr⟩ := bindS hr
 refine q_loop (fun (k_2 : Int) a w => Fr a 48 [(0, s1.v), (1, (.int .i64 p_n)), (5, (.int .i64 k_2))] ∧ St [] w0 w m []) (fun (k_6 : Int) e a w => e = .exit 0 ∧ Fr a 48 [(0, s1.v), (1, (.int .i64 p_n)), (5, (.int .i64 k_6))] ∧ St [] w0 w m []) hl1 ⟨hF.sub ⟨rfl, rfl, rfl, trivial⟩, hS⟩ ?_ ?_
 ·clear hF hS
  rintro k_2 a w st ⟨hF, hS⟩ hb1
  unfold spec_l1Put_l1 at hb1
  refine q_seq (q_seq ?_)
  obtain ⟨t_5, hj2, hb1⟩ := bindS hb1
  refine q_join (fun a w => Fr a 48 [(0, s1.v), (1, (.int .i64 p_n)), (5, (.int .i64 k_2)), (18, (.bool t_5))] ∧ St [] w0 w m []) ?_ ?_
  ·refine q_region (q_x (v := (.int .i64 k_2)) hF hS (ex_move rfl) rfl rfl fun a hF => q_x (v := s1.v) hF hS (ex_move rfl) rfl rfl fun a hF => q_x (v := (.int .i64 (goLen p_l))) hF hS (ex_len Tryz.underlying26 rfl h1.len) rfl rfl fun a hF => q_x (v := (.bool (decide (k_2 < (goLen p_l))))) hF hS (ex_ibin rfl rfl rfl) rfl rfl fun a hF => q_x (v := (.bool (decide (k_2 < (goLen p_l))))) hF hS (ex_move rfl) rfl rfl fun a hF => ?_)
   rcases bcase (decide (k_2 < (goLen p_l))) with hc3 | hc3
   ·have hj2 := cond_f hc3 hj2
    refine q_skip hF (wanted_f hF rfl rfl rfl hc3 rfl) rfl fun a hF => q_skip hF (wanted_f hF rfl rfl rfl hc3 rfl) rfl fun a hF => q_skip hF (wanted_f hF rfl rfl rfl hc3 rfl) rfl fun a hF => q_skip hF (wanted_f hF rfl rfl rfl hc3 rfl) rfl fun a hF => q_skip hF (wanted_f hF rfl rfl rfl hc3 rfl) rfl fun a hF => q_skip hF (wanted_f hF rfl rfl rfl hc3 rfl) rfl fun a hF => q_x (v := (.bool false)) hF hS (ex_pick_f rfl rfl hc3) rfl rfl fun a hF => q_end (n_jn ?_)
    obtain rfl := someI hj2
    exact ⟨hF.sub ⟨rfl, rfl, rfl, rfl, trivial⟩, hS⟩
   ·have hj2 := cond_t hc3 hj2
    refine q_xg (v := s1.v) hF hS (ex_move rfl) (wanted_t hF rfl rfl rfl hc3) rfl fun a hF => q_xg (v := (.int .i64 k_2)) hF hS (ex_move rfl) (wanted_t hF rfl rfl rfl hc3) rfl fun a hF => ?_
    obtain ⟨e_3, he_3, hj2⟩ := bindS hj2
    obtain ⟨vs4, at4, d4⟩ := h1.at he_3 1 rfl
    obtain rfl : vs4 = [(.int .i64 e_3)] := d4
    refine q_xg (v := (elP s1 (k_2.toNat * 1))) hF hS (ex_indexAddr Tryz.underlying26 sz3 rfl rfl (h1.idx he_3)) (wanted_t hF rfl rfl rfl hc3) rfl fun a hF => q_xg (v := (.int .i64 e_3)) hF hS (ex_loadE1 0 Tryz.underlying3 rfl rfl ((at4).at) rfl rfl) (wanted_t hF rfl rfl rfl hc3) rfl fun a hF => q_xg (v := (.int .i64 p_n)) hF hS (ex_move rfl) (wanted_t hF rfl rfl rfl hc3) rfl fun a hF => q_xg (v := (.bool (decide (e_3 < p_n)))) hF hS (ex_ibin rfl rfl rfl) (wanted_t hF rfl rfl rfl hc3) rfl fun a hF => q_x (v := (.bool (decide (e_3 < p_n)))) hF hS (ex_pick_t rfl rfl hc3) rfl rfl fun a hF => q_end (n_jn ?_)
    obtain rfl := someI hj2
    exact ⟨hF.sub ⟨rfl, rfl, rfl, rfl, trivial⟩, hS⟩
  ·rintro a w ⟨hF, hS⟩
   refine n_sq ?_
   rcases bcase (t_5) with hc4 | hc4
   ·have hb1 := cond_f hc4 hb1
    refine q_cond_f hF rfl hc4 (q_exit (x_sq ?_))
    obtain rfl := someI hb1
    exact ⟨nofun, .inl ⟨rfl, hF.sub ⟨rfl, rfl, rfl, trivial⟩, hS⟩⟩
   ·have hb1 := cond_t hc4 hb1
    refine q_cond_t hF rfl hc4 (q_skipc (n_sq (q_block (q_region (q_x (v := (.int .i64 k_2)) hF hS (ex_move rfl) rfl rfl fun a hF => q_x (v := (.int .i64 (w64 (k_2 + 1)))) hF hS (ex_ibin rfl rfl rfl) rfl rfl fun a hF => q_x (v := (.int .i64 (w64 (k_2 + 1)))) hF hS (ex_assign rfl) rfl rfl fun a hF => q_end (n_ib ?_))))))
    obtain rfl := someI hb1
    exact ⟨rfl, hF.sub ⟨rfl, rfl, rfl, trivial⟩, hS⟩
 ·rintro e a w ⟨rfl, hF, hS⟩
  refine x_ib (n_sq ?_)
  refine q_seq (q_seq ?_)
  obtain ⟨t_9, hj5, hr⟩ := bindS hr
  refine q_join (fun a w => Fr a 48 [(0, s1.v), (1, (.int .i64 p_n)), (5, (.int .i64 k_6)), (32, (.bool t_9))] ∧ St [] w0 w m []) ?_ ?_
  ·refine q_region (q_x (v := (.int .i64 k_6)) hF hS (ex_move rfl) rfl rfl fun a hF => q_x (v := s1.v) hF hS (ex_move rfl) rfl rfl fun a hF => q_x (v := (.int .i64 (goLen p_l))) hF hS (ex_len Tryz.underlying26 rfl h1.len) rfl rfl fun a hF => q_x (v := (.bool (decide (k_6 < (goLen p_l))))) hF hS (ex_ibin rfl rfl rfl) rfl rfl fun a hF => q_x (v := (.bool (decide (k_6 < (goLen p_l))))) hF hS (ex_move rfl) rfl rfl fun a hF => ?_)
   rcases bcase (decide (k_6 < (goLen p_l))) with hc6 | hc6
   ·have hj5 := cond_f hc6 hj5
    refine q_skip hF (wanted_f hF rfl rfl rfl hc6 rfl) rfl fun a hF => q_skip hF (wanted_f hF rfl rfl rfl hc6 rfl) rfl fun a hF => q_skip hF (wanted_f hF rfl rfl rfl hc6 rfl) rfl fun a hF => q_skip hF (wanted_f hF rfl rfl rfl hc6 rfl) rfl fun a hF => q_skip hF (wanted_f hF rfl rfl rfl hc6 rfl) rfl fun a hF => q_skip hF (wanted_f hF rfl rfl rfl hc6 rfl) rfl fun a hF => q_x (v := (.bool false)) hF hS (ex_pick_f rfl rfl hc6) rfl rfl fun a hF => q_end (n_jn ?_)
    obtain rfl := someI hj5
    exact ⟨hF.sub ⟨rfl, rfl, rfl, rfl, trivial⟩, hS⟩
   ·have hj5 := cond_t hc6 hj5
    refine q_xg (v := s1.v) hF hS (ex_move rfl) (wanted_t hF rfl rfl rfl hc6) rfl fun a hF => q_xg (v := (.int .i64 k_6)) hF hS (ex_move rfl) (wanted_t hF rfl rfl rfl hc6) rfl fun a hF => ?_
    obtain ⟨e_7, he_7, hj5⟩ := bindS hj5
    obtain ⟨vs8, at8, d8⟩ := h1.at he_7 1 rfl
    obtain rfl : vs8 = [(.int .i64 e_7)] := d8
    refine q_xg (v := (elP s1 (k_6.toNat * 1))) hF hS (ex_indexAddr Tryz.underlying26 sz3 rfl rfl (h1.idx he_7)) (wanted_t hF rfl rfl rfl hc6) rfl fun a hF => q_xg (v := (.int .i64 e_7)) hF hS (ex_loadE1 0 Tryz.underlying3 rfl rfl ((at8).at) rfl rfl) (wanted_t hF rfl rfl rfl hc6) rfl fun a hF => q_xg (v := (.int .i64 p_n)) hF hS (ex_move rfl) (wanted_t hF rfl rfl rfl hc6) rfl fun a hF => q_xg (v := (.bool (e_7 == p_n))) hF hS (ex_ibin rfl rfl rfl) (wanted_t hF rfl rfl rfl hc6) rfl fun a hF => q_x (v := (.bool (e_7 == p_n))) hF hS (ex_pick_t rfl rfl hc6) rfl rfl fun a hF => q_end (n_jn ?_)
    obtain rfl := someI hj5
    exact ⟨hF.sub ⟨rfl, rfl, rfl, rfl, trivial⟩, hS⟩
  ·rintro a w ⟨hF, hS⟩
   refine n_sq ?_
   rcases bcase (t_9) with hc7 | hc7
   ·have hr := cond_f hc7 hr
    refine q_cond_f hF rfl hc7 (q_skipc (n_sq (q_seq (q_region (q_do rfl fun _ hK => wp_build0 (α := Int) hF hS Tryz.underlying26 inf3 rfl fun a w q10 s10 hF hS h10 _ => hK _ _ (q_x (v := s1.v) hF hS (ex_move rfl) rfl rfl fun a hF => q_x (v := (.int .i64 k_6)) hF hS (ex_move rfl) rfl rfl fun a hF => ?_))))))
    obtain ⟨l_11, hl_11, hr⟩ := bindS hr
    have h12 : Rd m (subS s1 1 (0 : Int).toNat k_6.toNat s1.cap) l_11 := h1.sub' hl_11 1 rfl
    refine q_x (v := (subS s1 1 (0 : Int).toNat k_6.toNat s1.cap).v) hF hS (ex_slice Tryz.underlying26 sz3 rfl rfl rfl (.inl ⟨rfl, rfl⟩) (.inr ⟨_, rfl⟩) (h1.subok hl_11)) rfl rfl fun a hF => ?_
    obtain ⟨l_13, hl_13, hr⟩ := bindS hr
    refine q_do rfl fun _ hK => wp_append hF hS h10 Tryz.underlying26 inf3 rfl rfl rfl rfl (h12.vw hS.vis) rfl (by decide) hl_13 rfl fun a w q14 s14 hF hS h14 => hK _ _ (q_x (v := s14.v) hF hS (ex_assign rfl) rfl rfl fun a hF => q_end (n_sq (q_seq (q_region (q_x (v := s14.v) hF hS (ex_move rfl) rfl rfl fun a hF => q_x (v := (.int .i64 p_n)) hF hS (ex_move rfl) rfl rfl fun a hF => q_do rfl fun _ hK => wp_buildSlice' (l := ([p_n] : List Int)) (cells := [(.int .i64 p_n)]) hF hS Tryz.underlying26 inf3 rfl rfl (by kernel_rfl) rfl rfl rfl ⟨rfl, rfl⟩ rfl rfl fun a w q15 s15 hF hS h15 _ => hK _ _ ?_)))))
    have hS : St _ _ _ _ [q14, q15] := hS.sel [1, 0] (by decide)
    obtain ⟨l_16, hl_16, hr⟩ := bindS hr
    refine q_do rfl fun _ hK => wp_append hF hS h14 Tryz.underlying26 inf3 rfl rfl rfl rfl (h15.vw hS (j := 1) rfl) rfl (by decide) hl_16 rfl fun a w q17 s17 hF hS h17 => hK _ _ (q_x (v := s17.v) hF hS (ex_assign rfl) rfl rfl fun a hF => q_end (n_sq (q_seq (q_region (q_x (v := s17.v) hF hS (ex_move rfl) rfl rfl fun a hF => q_x (v := s1.v) hF hS (ex_move rfl) rfl rfl fun a hF => q_x (v := (.int .i64 k_6)) hF hS (ex_move rfl) rfl rfl fun a hF => ?_)))))
    obtain ⟨l_18, hl_18, hr⟩ := bindS hr
    have h19 : Rd m (subS s1 1 (k_6 : Int).toNat (goLen p_l).toNat s1.cap) l_18 := h1.sub' hl_18 1 rfl
    refine q_x (v := (subS s1 1 (k_6 : Int).toNat (goLen p_l).toNat s1.cap).v) hF hS (ex_slice Tryz.underlying26 sz3 rfl rfl rfl (.inr ⟨_, rfl⟩) (.inl ⟨rfl, h1.jlen⟩) (h1.subok hl_18)) rfl rfl fun a hF => ?_
    obtain ⟨l_20, hl_20, hr⟩ := bindS hr
    refine q_do rfl fun _ hK => wp_append hF hS h17 Tryz.underlying26 inf3 rfl rfl rfl rfl (h19.vw hS.vis) rfl (by decide) hl_20 rfl fun a w q21 s21 hF hS h21 => hK _ _ (q_x (v := s21.v) hF hS (ex_assign rfl) rfl rfl fun a hF => q_end (n_sq (q_ret ?_)))
    obtain rfl := someI hr
    obtain ⟨m22, hm22, hS, hz22⟩ := hS.freeze
    have h22 := h21.froz hm22.le hz22
    exact ret_of hF hS rfl (.tmp rfl .nil) ⟨m22, s21, rfl, hm22, hS.sel [] (by decide), h22⟩
   ·have hr := cond_t hc7 hr
    refine q_cond_t hF rfl hc7 (q_seq (q_region (q_x (v := s1.v) hF hS (ex_move rfl) rfl rfl fun a hF => q_x (v := s1.v) hF hS (ex_assign rfl) rfl rfl fun a hF => q_end (n_sq (q_ret (r_sq ?_))))))
    obtain rfl := someI hr
    exact ret_of hF hS rfl (.tmp rfl .nil) ⟨m, s1, rfl, (MLe.refl _ _), hS.sel [] (by decide), h1⟩

theorem c_spec_swGroups (p_s : List impl_Variable) (p_l : List impl_Record) (p_vars : List Int) (r : (List (List Int))) (hr : spec_swGroups p_s p_l p_vars = some r) (w0 : World) (m : Mem) (hv : Vis m w0) (s1 : Sl) (h1 : Rd m s1 p_s) (s2 : Sl) (h2 : Rd m s2 p_l) (s3 : Sl) (h3 : Rd m s3 p_vars) :
  Ret Tryz.prog 20 [s1.v, s2.v, s3.v] w0 (fun v w => ∃ (m' : Mem) (q0' : Piece) (s0' : Sl), v = s0'.v ∧ MLe [] w0.heap.size m m' ∧ St [] w0 w m' [q0'] ∧ OwnL m' 26 q0' s0' r) := by
 unfold spec_swGroups at hr
 refine ret_start Tryz.func20 rfl 61 rfl rfl m hv fun a hF hS => q_seq (q_region (q_x (v := nilS.v) hF hS (ex_assign rfl) rfl rfl fun a hF => q_end (n_sq (q_seq (q_region (q_x (v := nilS.v) hF hS (ex_assign rfl) rfl rfl fun a hF => q_end (n_sq (q_seq (q_seq (q_region (q_x (v := s2.v) hF hS (ex_move rfl) rfl rfl fun a hF => q_x (v := (.int .i64 (goLen p_l))) hF hS (ex_len Tryz.underlying25 rfl h2.len) rfl rfl fun a hF => q_x (v := (.int .i64 0)) hF hS (ex_move rfl) rfl rfl fun a hF => q_end (n_sq (q_block ?_)))))))))))))
 obtain ⟨keys_16, hl1, hr⟩ := bindS hr
 refine q_loop (fun (s : (List Int) × Int) a w => ∃ (m7 : Mem), ∃ (s5 : Sl), ∃ keys_4, ∃ t_6, s = (keys_4, t_6) ∧ Fr a 61 [(0, s1.v), (1, s2.v), (2, s3.v), (7, s5.v), (16, s2.v), (17, (.int .i64 (goLen p_l))), (18, (.int .i64 t_6))] ∧ St [] w0 w m7 [] ∧ MLe [] w0.heap.size m m7 ∧ Rd m7 s5 keys_4) (fun (keys_16 : (List Int)) e a w => ∃ (m18 : Mem), ∃ (s17 : Sl), e = .exit 0 ∧ Fr a 61 [(0, s1.v), (1, s2.v), (2, s3.v), (7, s17.v)] ∧ St [] w0 w m18 [] ∧ MLe [] w0.heap.size m m18 ∧ Rd m18 s17 keys_16) hl1 ⟨m, nilS, _, _, rfl, hF.sub ⟨rfl, rfl, rfl, rfl, rfl, rfl, rfl, trivial⟩, hS, (MLe.refl _ _), (Rd.nil0 (α := Int) m)⟩ ?_ ?_
 ·clear hF hS
  rintro s a w st ⟨m7, s5, keys_4, t_6, rfl, hF, hS, hm7, h5⟩ hb1
  unfold spec_swGroups_l1 at hb1
  refine q_seq (q_region (q_x (v := (.bool (decide (t_6 < (goLen p_l))))) hF hS (ex_ibin rfl rfl rfl) rfl rfl fun a hF => q_end (n_sq (q_seq ?_))))
  rcases bcase (decide (t_6 < (goLen p_l))) with hc2 | hc2
  ·have hb1 := cond_f hc2 hb1
   refine q_cond_f hF rfl hc2 (q_exit (x_sq ?_))
   obtain rfl := someI hb1
   exact ⟨nofun, .inl ⟨m7, s5, rfl, hF.sub ⟨rfl, rfl, rfl, rfl, trivial⟩, hS, hm7, h5⟩⟩
  ·have hb1 := cond_t hc2 hb1
   refine q_cond_t hF rfl hc2 (q_skipc (n_sq (q_seq (q_block (q_seq (q_region ?_))))))
   obtain ⟨e_8, he_8, hb1⟩ := bindS hb1
   obtain ⟨vs9, at9, d9⟩ := (h2.mono hm7.le).at he_8 3 rfl
   obtain ⟨s10, rfl, h10⟩ : ∃ s10 : Sl, vs9 = [(.int .i64 e_8.Area), (.int .i64 e_8.House), s10.v] ∧ Rd m7 s10 e_8.Values := d9
   refine q_x (v := (elP s2 (t_6.toNat * 3))) hF hS (ex_indexAddr Tryz.underlying25 sz36 rfl rfl ((h2.mono hm7.le).idx he_8)) rfl rfl fun a hF => q_x (v := (.agg #[(.int .i64 e_8.Area), (.int .i64 e_8.House), s10.v])) hF hS (ex_loadEA (us := [(.int .i64 e_8.Area), (.int .i64 e_8.House), s10.v]) 0 Tryz.underlying36 rfl sz36 rfl ((at9).at) rfl rfl rfl) rfl rfl fun a hF => q_alloc (cs := [(.int .i64 0), (.int .i64 0), nilS.v]) hF hS rfl rfl rfl fun a w b11 hF hS => q_store (vs := [(.int .i64 e_8.Area), (.int .i64 e_8.House), s10.v]) (cs' := [(.int .i64 e_8.Area), (.int .i64 e_8.House), s10.v]) 0 0 hF hS sz36 rfl rfl rfl rfl rfl rfl rfl rfl fun a w hF hS => q_end (n_sq (q_region (q_x (v := s5.v) hF hS (ex_move rfl) rfl rfl fun a hF => q_x (v := s1.v) hF hS (ex_move rfl) rfl rfl fun a hF => q_x (v := (.pointer (some ⟨b11, 2, none⟩))) hF hS (ex_fieldAddr Tryz.underlying36 rfl sz26 rfl rfl) rfl rfl fun a hF => q_x (v := s10.v) hF hS (ex_load1 0 0 Tryz.underlying26 rfl rfl rfl rfl) rfl rfl fun a hF => q_x (v := s3.v) hF hS (ex_move rfl) rfl rfl fun a hF => ?_)))
   obtain ⟨t_12, ht_12, hb1⟩ := bindS hb1
   refine q_call (vs := [s1.v, s10.v, s3.v]) hF hS Tryz.func32 (by kernel_rfl) rfl rfl rfl (c_spec_swKey p_s e_8.Values p_vars t_12 ht_12 _ m7 hS.vis s1 (h1.mono hm7.le) s10 h10 s3 (h3.mono hm7.le)) ?_
   rintro a w _ rfl hF hS
   obtain ⟨t_13, ht_13, hb1⟩ := bindS hb1
   refine q_call (vs := [s5.v, (.int .i64 t_12)]) hF hS Tryz.func38 (by kernel_rfl) rfl rfl rfl (c_spec_l1Put keys_4 t_12 t_13 ht_13 _ m7 hS.vis s5 h5) ?_
   have hT := hS
   rintro a w _ ⟨m14, s15, rfl, hm14, hR14, h15⟩ hF hS2
   have hS : St _ _ _ _ [[⟨b11, [(.int .i64 e_8.Area), (.int .i64 e_8.House), s10.v], 36⟩]] := hS.join hR14 hm14
   have hm14 := MLe.weakX (O0 := []) hT hm14
   refine q_x (v := s15.v) hF hS (ex_assign rfl) rfl rfl fun a hF => q_end (n_ib (n_sq (q_region (q_x (v := (.int .i64 (w64 (t_6 + 1)))) hF hS (ex_ibin rfl rfl rfl) rfl rfl fun a hF => q_x (v := (.int .i64 (w64 (t_6 + 1)))) hF hS (ex_move rfl) rfl rfl fun a hF => q_end ?_))))
   obtain rfl := someI hb1
   exact ⟨rfl, m14, s15, _, _, rfl, hF.sub ⟨rfl, rfl, rfl, rfl, rfl, rfl, rfl, trivial⟩, hS.mask [false], (hm7.trans hm14), h15⟩
 ·rintro e a w ⟨m18, s17, rfl, hF, hS, hm18, h17⟩
  refine x_ib (n_sq ?_)
  refine q_seq (q_region (q_x (v := nilS.v) hF hS (ex_assign rfl) rfl rfl fun a hF => q_end (n_sq (q_seq (q_seq (q_region (q_x (v := s17.v) hF hS (ex_move rfl) rfl rfl fun a hF => q_x (v := (.int .i64 (goLen keys_16))) hF hS (ex_len Tryz.underlying26 rfl h17.len) rfl rfl fun a hF => q_x (v := (.int .i64 0)) hF hS (ex_move rfl) rfl rfl fun a hF => q_end (n_sq (q_block ?_)))))))))
  obtain ⟨out_44, hl3, hr⟩ := bindS hr
  refine q_loop (fun (s : (List (List Int)) × Int) a w => ∃ (m22 : Mem), ∃ (q20 : Piece), ∃ (s20 : Sl), ∃ out_19, ∃ t_21, s = (out_19, t_21) ∧ Fr a 61 [(0, s1.v), (1, s2.v), (2, s3.v), (10, s20.v), (30, s17.v), (31, (.int .i64 (goLen keys_16))), (32, (.int .i64 t_21))] ∧ St [] w0 w m22 [q20] ∧ MLe [] w0.heap.size m18 m22 ∧ OwnL m22 26 q20 s20 out_19) (fun (out_44 : (List (List Int))) e a w => ∃ (m46 : Mem), ∃ (q45 : Piece), ∃ (s45 : Sl), e = .exit 2 ∧ Fr a 61 [(10, s45.v)] ∧ St [] w0 w m46 [q45] ∧ MLe [] w0.heap.size m18 m46 ∧ OwnL m46 26 q45 s45 out_44) hl3 ⟨m18, [], nilS, _, _, rfl, hF.sub ⟨rfl, rfl, rfl, rfl, rfl, rfl, rfl, trivial⟩, hS.sel [0] (by decide), (MLe.refl _ _), (OwnL.nil (α := List Int) m18 26)⟩ ?_ ?_
  ·clear hF hS
   rintro s a w st ⟨m22, q20, s20, out_19, t_21, rfl, hF, hS, hm22, h20⟩ hb3
   unfold spec_swGroups_l2 at hb3
   refine q_seq (q_region (q_x (v := (.bool (decide (t_21 < (goLen keys_16))))) hF hS (ex_ibin rfl rfl rfl) rfl rfl fun a hF => q_end (n_sq (q_seq ?_))))
   rcases bcase (decide (t_21 < (goLen keys_16))) with hc4 | hc4
   ·have hb3 := cond_f hc4 hb3
    refine q_cond_f hF rfl hc4 (q_exit (x_sq ?_))
    obtain rfl := someI hb3
    exact ⟨nofun, .inl ⟨m22, q20, s20, rfl, hF.sub ⟨rfl, trivial⟩, hS, hm22, h20⟩⟩
   ·have hb3 := cond_t hc4 hb3
    refine q_cond_t hF rfl hc4 (q_skipc (n_sq (q_seq (q_block (q_seq (q_region ?_))))))
    obtain ⟨e_23, he_23, hb3⟩ := bindS hb3
    obtain ⟨vs24, at24, d24⟩ := (h17.mono hm22.le).at he_23 1 rfl
    obtain rfl : vs24 = [(.int .i64 e_23)] := d24
    refine q_x (v := (elP s17 (t_21.toNat * 1))) hF hS (ex_indexAddr Tryz.underlying26 sz3 rfl rfl ((h17.mono hm22.le).idx he_23)) rfl rfl fun a hF => q_x (v := (.int .i64 e_23)) hF hS (ex_loadE1 0 Tryz.underlying3 rfl rfl ((at24).at) rfl rfl) rfl rfl fun a hF => q_x (v := (.int .i64 e_23)) hF hS (ex_assign rfl) rfl rfl fun a hF => q_end (n_sq (q_seq (q_region (q_x (v := nilS.v) hF hS (ex_assign rfl) rfl rfl fun a hF => q_end (n_sq (q_seq (q_seq (q_region (q_x (v := s2.v) hF hS (ex_move rfl) rfl rfl fun a hF => q_x (v := (.int .i64 (goLen p_l))) hF hS (ex_len Tryz.underlying25 rfl ((h2.mono hm18.le).mono hm22.le).len) rfl rfl fun a hF => q_x (v := (.int .i64 0)) hF hS (ex_move rfl) rfl rfl fun a hF => q_end (n_sq (q_block ?_)))))))))))
    obtain ⟨group_38, hl5, hb3⟩ := bindS hb3
    refine q_loop (fun (s : (List Int) × Int) a w => ∃ (q26 : Piece), ∃ (s26 : Sl), ∃ group_25, ∃ t_27, s = (group_25, t_27) ∧ Fr a 61 [(0, s1.v), (1, s2.v), (2, s3.v), (10, s20.v), (12, (.int .i64 e_23)), (13, s26.v), (30, s17.v), (31, (.int .i64 (goLen keys_16))), (32, (.int .i64 t_21)), (36, s2.v), (37, (.int .i64 (goLen p_l))), (38, (.int .i64 t_27))] ∧ St [] w0 w m22 [q26, q20] ∧ OwnL m22 3 q26 s26 group_25) (fun (group_38 : (List Int)) e a w => ∃ (q39 : Piece), ∃ (s39 : Sl), e = .exit 4 ∧ Fr a 61 [(0, s1.v), (1, s2.v), (2, s3.v), (10, s20.v), (13, s39.v), (30, s17.v), (31, (.int .i64 (goLen keys_16))), (32, (.int .i64 t_21))] ∧ St [] w0 w m22 [q20, q39] ∧ OwnL m22 3 q39 s39 group_38) hl5 ⟨[], nilS, _, _, rfl, hF.sub ⟨rfl, rfl, rfl, rfl, rfl, rfl, rfl, rfl, rfl, rfl, rfl, rfl, trivial⟩, hS.sel [1, 0] (by decide), (OwnL.nil (α := Int) m22 3)⟩ ?_ ?_
    ·clear hF hS
     rintro s a w st ⟨q26, s26, group_25, t_27, rfl, hF, hS, h26⟩ hb5
     unfold spec_swGroups_l3 at hb5
     refine q_seq (q_region (q_x (v := (.bool (decide (t_27 < (goLen p_l))))) hF hS (ex_ibin rfl rfl rfl) rfl rfl fun a hF => q_end (n_sq (q_seq ?_))))
     rcases bcase (decide (t_27 < (goLen p_l))) with hc6 | hc6
     ·have hb5 := cond_f hc6 hb5
      refine q_cond_f hF rfl hc6 (q_exit (x_sq ?_))
      obtain rfl := someI hb5
      exact ⟨nofun, .inl ⟨q26, s26, rfl, hF.sub ⟨rfl, rfl, rfl, rfl, rfl, rfl, rfl, rfl, trivial⟩, hS.sel [1, 0] (by decide), h26⟩⟩
     ·have hb5 := cond_t hc6 hb5
      refine q_cond_t hF rfl hc6 (q_skipc (n_sq (q_seq (q_block (q_seq (q_region (q_x (v := (.int .i64 t_27)) hF hS (ex_move rfl) rfl rfl fun a hF => ?_)))))))
      obtain ⟨e_28, he_28, hb5⟩ := bindS hb5
      obtain ⟨vs29, at29, d29⟩ := ((h2.mono hm18.le).mono hm22.le).at he_28 3 rfl
      obtain ⟨s30, rfl, h30⟩ : ∃ s30 : Sl, vs29 = [(.int .i64 e_28.Area), (.int .i64 e_28.House), s30.v] ∧ Rd m22 s30 e_28.Values := d29
      refine q_x (v := (elP s2 (t_27.toNat * 3))) hF hS (ex_indexAddr Tryz.underlying25 sz36 rfl rfl (((h2.mono hm18.le).mono hm22.le).idx he_28)) rfl rfl fun a hF => q_x (v := (.agg #[(.int .i64 e_28.Area), (.int .i64 e_28.House), s30.v])) hF hS (ex_loadEA (us := [(.int .i64 e_28.Area), (.int .i64 e_28.House), s30.v]) 0 Tryz.underlying36 rfl sz36 rfl ((at29).at) rfl rfl rfl) rfl rfl fun a hF => q_alloc (cs := [(.int .i64 0), (.int .i64 0), nilS.v]) hF hS rfl rfl rfl fun a w b31 hF hS => q_x (v := (.int .i64 t_27)) hF hS (ex_assign rfl) rfl rfl fun a hF => q_store (vs := [(.int .i64 e_28.Area), (.int .i64 e_28.House), s30.v]) (cs' := [(.int .i64 e_28.Area), (.int .i64 e_28.House), s30.v]) 0 0 hF hS sz36 rfl rfl rfl rfl rfl rfl rfl rfl fun a w hF hS => q_end (n_sq (q_seq (q_region (q_x (v := s1.v) hF hS (ex_move rfl) rfl rfl fun a hF => q_x (v := (.pointer (some ⟨b31, 2, none⟩))) hF hS (ex_fieldAddr Tryz.underlying36 rfl sz26 rfl rfl) rfl rfl fun a hF => q_x (v := s30.v) hF hS (ex_load1 0 0 Tryz.underlying26 rfl rfl rfl rfl) rfl rfl fun a hF => q_x (v := s3.v) hF hS (ex_move rfl) rfl rfl fun a hF => ?_))))
      obtain ⟨t_32, ht_32, hb5⟩ := bindS hb5
      refine q_call (vs := [s1.v, s30.v, s3.v]) hF hS Tryz.func32 (by kernel_rfl) rfl rfl rfl (c_spec_swKey p_s e_28.Values p_vars t_32 ht_32 _ m22 hS.vis s1 ((h1.mono hm18.le).mono hm22.le) s30 h30 s3 ((h3.mono hm18.le).mono hm22.le)) ?_
      rintro a w _ rfl hF hS
      refine q_x (v := (.int .i64 e_23)) hF hS (ex_move rfl) rfl rfl fun a hF => q_x (v := (.bool (t_32 == e_23))) hF hS (ex_ibin rfl rfl rfl) rfl rfl fun a hF => q_end (n_sq ?_)
      obtain ⟨group_36, hj7, hb5⟩ := bindS hb5
      refine q_join (fun a w => ∃ (q37 : Piece), ∃ (s37 : Sl), Fr a 61 [(0, s1.v), (1, s2.v), (2, s3.v), (10, s20.v), (12, (.int .i64 e_23)), (13, s37.v), (30, s17.v), (31, (.int .i64 (goLen keys_16))), (32, (.int .i64 t_21)), (36, s2.v), (37, (.int .i64 (goLen p_l))), (38, (.int .i64 t_27))] ∧ St [] w0 w m22 [q20, q37] ∧ OwnL m22 3 q37 s37 group_36) ?_ ?_
      ·rcases bcase (t_32 == e_23) with hc8 | hc8
       ·have hj7 := cond_f hc8 hj7
        refine q_cond_f hF rfl hc8 (q_skipc (n_jn ?_))
        obtain rfl := someI hj7
        exact ⟨q26, s26, hF.sub ⟨rfl, rfl, rfl, rfl, rfl, rfl, rfl, rfl, rfl, rfl, rfl, rfl, trivial⟩, hS.sel [2, 1] (by decide), h26⟩
       ·have hj7 := cond_t hc8 hj7
        refine q_cond_t hF rfl hc8 (q_region (q_x (v := s26.v) hF hS (ex_move rfl) rfl rfl fun a hF => q_x (v := (.int .i64 t_27)) hF hS (ex_move rfl) rfl rfl fun a hF => q_do rfl fun _ hK => wp_buildSlice' (l := ([t_27] : List Int)) (cells := [(.int .i64 t_27)]) hF hS Tryz.underlying26 inf3 rfl rfl (by kernel_rfl) rfl rfl rfl ⟨rfl, rfl⟩ rfl rfl fun a w q33 s33 hF hS h33 _ => hK _ _ ?_))
        have hS : St _ _ _ _ [q26, q33, [⟨b31, [(.int .i64 e_28.Area), (.int .i64 e_28.House), s30.v], 36⟩], q20] := hS.sel [2, 0, 1, 3] (by decide)
        obtain ⟨l_34, hl_34, hj7⟩ := bindS hj7
        refine q_do rfl fun _ hK => wp_append hF hS h26 Tryz.underlying26 inf3 rfl rfl rfl rfl (h33.vw hS (j := 1) rfl) rfl (by decide) hl_34 rfl fun a w q35 s35 hF hS h35 => hK _ _ (q_x (v := s35.v) hF hS (ex_assign rfl) rfl rfl fun a hF => q_end (n_jn ?_))
        obtain rfl := someI hj7
        exact ⟨q35, s35, hF.sub ⟨rfl, rfl, rfl, rfl, rfl, rfl, rfl, rfl, rfl, rfl, rfl, rfl, trivial⟩, hS.sel [3, 0] (by decide), h35⟩
      ·rintro a w ⟨q37, s37, hF, hS, h37⟩
       refine n_ib (n_sq ?_)
       refine q_region (q_x (v := (.int .i64 (w64 (t_27 + 1)))) hF hS (ex_ibin rfl rfl rfl) rfl rfl fun a hF => q_x (v := (.int .i64 (w64 (t_27 + 1)))) hF hS (ex_move rfl) rfl rfl fun a hF => q_end ?_)
       obtain rfl := someI hb5
       exact ⟨rfl, q37, s37, _, _, rfl, hF.sub ⟨rfl, rfl, rfl, rfl, rfl, rfl, rfl, rfl, rfl, rfl, rfl, rfl, trivial⟩, hS.sel [1, 0] (by decide), h37⟩
    ·rintro e a w ⟨q39, s39, rfl, hF, hS, h39⟩
     refine x_ib (n_sq ?_)
     refine q_region (q_x (v := s20.v) hF hS (ex_move rfl) rfl rfl fun a hF => q_x (v := s39.v) hF hS (ex_move rfl) rfl rfl fun a hF => ?_)
     have hS : St _ _ _ _ [q39, q20] := hS.sel [1, 0] (by decide)
     obtain ⟨m41, hm41, hS, hz41⟩ := hS.freeze
     have h41 := h39.froz hm41.le hz41
     refine q_do rfl fun _ hK => wp_buildSlice' (l := ([group_38] : List (List Int))) (cells := [s39.v]) hF hS Tryz.underlying29 inf26 rfl rfl (by kernel_rfl) rfl rfl rfl ⟨⟨s39, rfl, h41⟩, rfl⟩ rfl rfl fun a w q40 s40 hF hS h40 _ => hK _ _ ?_
     have hS : St _ _ _ _ [q20, q40] := hS.sel [1, 0] (by decide)
     obtain ⟨l_42, hl_42, hb3⟩ := bindS hb3
     refine q_do rfl fun _ hK => wp_append hF hS (h20.mono hm41.le) Tryz.underlying29 inf26 rfl rfl rfl rfl (h40.vw hS (j := 1) rfl) rfl (by decide) hl_42 rfl fun a w q43 s43 hF hS h43 => hK _ _ (q_x (v := s43.v) hF hS (ex_assign rfl) rfl rfl fun a hF => q_end (n_ib (n_sq (q_region (q_x (v := (.int .i64 (w64 (t_21 + 1)))) hF hS (ex_ibin rfl rfl rfl) rfl rfl fun a hF => q_x (v := (.int .i64 (w64 (t_21 + 1)))) hF hS (ex_move rfl) rfl rfl fun a hF => q_end ?_)))))
     obtain rfl := someI hb3
     exact ⟨rfl, m41, q43, s43, _, _, rfl, hF.sub ⟨rfl, rfl, rfl, rfl, rfl, rfl, rfl, trivial⟩, hS.mask [true, false], (hm22.trans hm41), h43⟩
  ·rintro e a w ⟨m46, q45, s45, rfl, hF, hS, hm46, h45⟩
   refine x_ib (n_sq ?_)
   refine q_seq (q_region (q_x (v := s45.v) hF hS (ex_move rfl) rfl rfl fun a hF => q_x (v := s45.v) hF hS (ex_assign rfl) rfl rfl fun a hF => q_end (n_sq (q_ret ?_))))
   obtain rfl := someI hr
   exact ret_of hF hS rfl (.tmp rfl .nil) ⟨m46, q45, s45, rfl, (hm18.trans hm46), hS.sel [0] (by decide), h45⟩

theorem c_spec_KeyGroups (p_s : List impl_Variable) (p_l : List impl_Record) (p_vars : List Int) (r : (List (List Int)) × Bool) (hr : spec_KeyGroups p_s p_l p_vars = some r) (w0 : World) (m : Mem) (hv : Vis m w0) (s1 : Sl) (h1 : Rd m s1 p_s) (s2 : Sl) (h2 : Rd m s2 p_l) (s3 : Sl) (h3 : Rd m s3 p_vars) :
  Ret Tryz.prog 7 [s1.v, s2.v, s3.v] w0 (fun v w => ∃ (m' : Mem) (q0' : Piece) (s0' : Sl), v = (.tuple #[s0'.v, (.bool r.2)]) ∧ MLe [] w0.heap.size m m' ∧ St [] w0 w m' [q0'] ∧ OwnL m' 26 q0' s0' r.1) := by
 unfold spec_KeyGroups at hr
 refine ret_start Tryz.func7 rfl 17 rfl rfl m hv fun a hF hS => q_seq (q_region (q_x (v := nilS.v) hF hS (ex_assign rfl) rfl rfl fun a hF => q_x (v := (.bool false)) hF hS (ex_assign rfl) rfl rfl fun a hF => q_end (n_sq (q_seq (q_seq (q_region (q_x (v := s1.v) hF hS (ex_move rfl) rfl rfl fun a hF => q_x (v := s2.v) hF hS (ex_move rfl) rfl rfl fun a hF => q_x (v := s3.v) hF hS (ex_move rfl) rfl rfl fun a hF => ?_)))))))
 obtain ⟨t_4, ht_4, hr⟩ := bindS hr
 refine q_call (vs := [s1.v, s2.v, s3.v]) hF hS Tryz.func19 (by kernel_rfl) rfl rfl rfl (c_spec_swInput p_s p_l p_vars t_4 ht_4 _ m hS.vis s1 h1 s2 h2 s3 h3) ?_
 rintro a w _ rfl hF hS
 refine q_x (v := (.bool (!t_4))) hF hS (ex_not rfl) rfl rfl fun a hF => q_end (n_sq ?_)
 rcases bcase (!t_4) with hc1 | hc1
 ·have hr := cond_f hc1 hr
  refine q_cond_f hF rfl hc1 (q_skipc (n_sq (q_seq (q_region (q_x (v := s1.v) hF hS (ex_move rfl) rfl rfl fun a hF => q_x (v := s2.v) hF hS (ex_move rfl) rfl rfl fun a hF => q_x (v := s3.v) hF hS (ex_move rfl) rfl rfl fun a hF => ?_)))))
  obtain ⟨t_5, ht_5, hr⟩ := bindS hr
  refine q_call (vs := [s1.v, s2.v, s3.v]) hF hS Tryz.func20 (by kernel_rfl) rfl rfl rfl (c_spec_swGroups p_s p_l p_vars t_5 ht_5 _ m hS.vis s1 h1 s2 h2 s3 h3) ?_
  have hT := hS
  rintro a w _ ⟨m6, q7, s7, rfl, hm6, hR6, h7⟩ hF hS2
  have hS : St _ _ _ _ [q7] := hS.join hR6 hm6
  have hm6 := MLe.weakX (O0 := []) hT hm6
  refine q_x (v := s7.v) hF hS (ex_assign rfl) rfl rfl fun a hF => q_x (v := (.bool true)) hF hS (ex_assign rfl) rfl rfl fun a hF => q_end (n_sq (q_ret ?_))
  obtain rfl := someI hr
  exact ret_of hF hS rfl (.tmp rfl (.tmp rfl .nil)) ⟨m6, q7, s7, rfl, hm6, hS.sel [0] (by decide), h7⟩
 ·have hr := cond_t hc1 hr
  refine q_cond_t hF rfl hc1 (q_seq (q_region (q_x (v := nilS.v) hF hS (ex_assign rfl) rfl rfl fun a hF => q_x (v := (.bool false)) hF hS (ex_assign rfl) rfl rfl fun a hF => q_end (n_sq (q_ret (r_sq ?_))))))
  obtain rfl := someI hr
  exact ret_of hF hS rfl (.tmp rfl (.tmp rfl .nil)) ⟨m, [], nilS, rfl, (MLe.refl _ _), hS.sel [0] (by decide), (OwnL.nil (α := List Int) m 26)⟩

theorem c_laws_sameInts (p_a : List Int) (p_b : List Int) (r : Bool) (hr : laws_sameInts p_a p_b = some r) (w0 : World) (m : Mem) (hv : Vis m w0) (s1 : Sl) (h1 : Rd m s1 p_a) (s2 : Sl) (h2 : Rd m s2 p_b) :
  Ret Tryz.prog 21 [s1.v, s2.v] w0 (fun v _ => v = (.bool r)) := by
 unfold laws_sameInts at hr
 refine ret_start Tryz.func21 rfl 26 rfl rfl m hv fun a hF hS => q_seq (q_region (q_x (v := (.bool false)) hF hS (ex_assign rfl) rfl rfl fun a hF => q_end (n_sq (q_seq (q_seq (q_region (q_x (v := s1.v) hF hS (ex_move rfl) rfl rfl fun a hF => q_x (v := (.int .i64 (goLen p_a))) hF hS (ex_len Tryz.underlying26 rfl h1.len) rfl rfl fun a hF => q_x (v := s2.v) hF hS (ex_move rfl) rfl rfl fun a hF => q_x (v := (.int .i64 (goLen p_b))) hF hS (ex_len Tryz.underlying26 rfl h2.len) rfl rfl fun a hF => q_x (v := (.bool ((goLen p_a) != (goLen p_b)))) hF hS (ex_ibin rfl rfl rfl) rfl rfl fun a hF => q_end (n_sq ?_))))))))
 rcases bcase ((goLen p_a) != (goLen p_b)) with hc1 | hc1
 ·have hr := cond_f hc1 hr
  refine q_cond_f hF rfl hc1 (q_skipc (n_sq (q_seq (q_seq (q_region (q_x (v := s1.v) hF hS (ex_move rfl) rfl rfl fun a hF => q_x (v := (.int .i64 (goLen p_a))) hF hS (ex_len Tryz.underlying26 rfl h1.len) rfl rfl fun a hF => q_x (v := (.int .i64 0)) hF hS (ex_move rfl) rfl rfl fun a hF => q_end (n_sq (q_block ?_))))))))
  obtain ⟨o2, hl2, hr⟩ := bindS hr
  refine q_loop (fun (t_3 : Int) a w => Fr a 26 [(0, s1.v), (1, s2.v), (12, (.int .i64 (goLen p_a))), (13, (.int .i64 t_3))] ∧ St [] w0 w m []) (fun (o : (Unit) ⊕ (Bool)) e a w => o = .inl () ∧ e = .exit 0 ∧ Fr a 26 [] ∧ St [] w0 w m []) hl2 ⟨hF.sub ⟨rfl, rfl, rfl, rfl, trivial⟩, hS⟩ ?_ ?_
  ·clear hF hS
   rintro t_3 a w st ⟨hF, hS⟩ hb2
   unfold laws_sameInts_l1 at hb2
   refine q_seq (q_region (q_x (v := (.bool (decide (t_3 < (goLen p_a))))) hF hS (ex_ibin rfl rfl rfl) rfl rfl fun a hF => q_end (n_sq (q_seq ?_))))
   rcases bcase (decide (t_3 < (goLen p_a))) with hc3 | hc3
   ·have hb2 := cond_f hc3 hb2
    refine q_cond_f hF rfl hc3 (q_exit (x_sq ?_))
    obtain rfl := someI hb2
    exact ⟨nofun, .inl ⟨rfl, rfl, hF.sub trivial, hS⟩⟩
   ·have hb2 := cond_t hc3 hb2
    refine q_cond_t hF rfl hc3 (q_skipc (n_sq (q_seq (q_block (q_seq (q_region (q_x (v := (.int .i64 t_3)) hF hS (ex_move rfl) rfl rfl fun a hF => q_x (v := (.int .i64 t_3)) hF hS (ex_assign rfl) rfl rfl fun a hF => q_end (n_sq (q_seq (e_region ⟨[], []⟩ mixed fun w' hw' => ?_))))))))))
    have hS := hS.below hw'
    refine e_p (v := s1.v) 0 hF rfl (ex_move rfl) rfl rfl (by kernel_rfl) (by kernel_rfl) (by kernel_rfl) fun a hF => e_p (v := (.int .i64 t_3)) 1 hF rfl (ex_move rfl) rfl rfl (by kernel_rfl) (by kernel_rfl) (by kernel_rfl) fun a hF => ?_
    obtain ⟨e_4, he_4, hb2⟩ := bindS hb2
    obtain ⟨vs5, at5, d5⟩ := h1.at he_4 1 rfl
    obtain rfl : vs5 = [(.int .i64 e_4)] := d5
    refine e_p (v := (elP s1 (t_3.toNat * 1))) 2 hF rfl (ex_indexAddr Tryz.underlying26 sz3 rfl rfl (h1.idx he_4)) rfl rfl (by kernel_rfl) (by kernel_rfl) (by kernel_rfl) fun a hF => e_x (v := (.int .i64 e_4)) 3 hF hS rfl (ex_loadE1 0 Tryz.underlying3 rfl rfl ((at5).at) rfl rfl) rfl rfl (by kernel_rfl) (by kernel_rfl) (by kernel_rfl) (by kernel_rfl) fun a hF => e_p (v := s2.v) 4 hF rfl (ex_move rfl) rfl rfl (by kernel_rfl) (by kernel_rfl) (by kernel_rfl) fun a hF => e_p (v := (.int .i64 t_3)) 5 hF rfl (ex_move rfl) rfl rfl (by kernel_rfl) (by kernel_rfl) (by kernel_rfl) fun a hF => ?_
    obtain ⟨e_6, he_6, hb2⟩ := bindS hb2
    obtain ⟨vs7, at7, d7⟩ := h2.at he_6 1 rfl
    obtain rfl : vs7 = [(.int .i64 e_6)] := d7
    refine e_p (v := (elP s2 (t_3.toNat * 1))) 6 hF rfl (ex_indexAddr Tryz.underlying26 sz3 rfl rfl (h2.idx he_6)) rfl rfl (by kernel_rfl) (by kernel_rfl) (by kernel_rfl) fun a hF => e_x (v := (.int .i64 e_6)) 7 hF hS rfl (ex_loadE1 0 Tryz.underlying3 rfl rfl ((at7).at) rfl rfl) rfl rfl (by kernel_rfl) (by kernel_rfl) (by kernel_rfl) (by kernel_rfl) fun a hF => e_p (v := (.bool (e_4 != e_6))) 8 hF rfl (ex_ibin rfl rfl rfl) rfl rfl (by kernel_rfl) (by kernel_rfl) (by kernel_rfl) fun a hF => e_end (by kernel_rfl) (n_sq ?_) _
    rcases bcase (e_4 != e_6) with hc4 | hc4
    ·have hb2 := cond_f hc4 hb2
     refine q_cond_f hF rfl hc4 (q_skipc (n_ib (n_sq (q_region (q_x (v := (.int .i64 (w64 (t_3 + 1)))) hF hS (ex_ibin rfl rfl rfl) rfl rfl fun a hF => q_x (v := (.int .i64 (w64 (t_3 + 1)))) hF hS (ex_move rfl) rfl rfl fun a hF => q_end ?_)))))
     obtain rfl := someI hb2
     exact ⟨rfl, hF.sub ⟨rfl, rfl, rfl, rfl, trivial⟩, hS⟩
    ·have hb2 := cond_t hc4 hb2
     refine q_cond_t hF rfl hc4 (q_seq (q_region (q_x (v := (.bool false)) hF hS (ex_assign rfl) rfl rfl fun a hF => q_end (n_sq (q_ret (r_ib (r_sq ?_)))))))
     obtain rfl := someI hb2
     refine ⟨nofun, .inr fun ho => ?_⟩
     subst ho
     refine r_ib (r_sq ?_)
     obtain rfl := someI hr
     exact ret_of hF hS rfl (.tmp rfl .nil) rfl
  ·rintro e a w ⟨rfl, rfl, hF, hS⟩
   refine x_ib (n_sq ?_)
   refine q_seq (q_region (q_x (v := (.bool true)) hF hS (ex_assign rfl) rfl rfl fun a hF => q_end (n_sq (q_ret ?_))))
   obtain rfl := someI hr
   exact ret_of hF hS rfl (.tmp rfl .nil) rfl
 ·have hr := cond_t hc1 hr
  refine q_cond_t hF rfl hc1 (q_seq (q_region (q_x (v := (.bool false)) hF hS (ex_assign rfl) rfl rfl fun a hF => q_end (n_sq (q_ret (r_sq ?_))))))
  obtain rfl := someI hr
  exact ret_of hF hS rfl (.tmp rfl .nil) rfl

theorem c_laws_sameLists (p_a : List (List Int)) (p_b : List (List Int)) (r : Bool) (hr : laws_sameLists p_a p_b = some r) (w0 : World) (m : Mem) (hv : Vis m w0) (s1 : Sl) (h1 : Rd m s1 p_a) (s2 : Sl) (h2 : Rd m s2 p_b) :
  Ret Tryz.prog 8 [s1.v, s2.v] w0 (fun v _ => v = (.bool r)) := by
 unfold laws_sameLists at hr
 refine ret_start Tryz.func8 rfl 27 rfl rfl m hv fun a hF hS => q_seq (q_region (q_x (v := (.bool false)) hF hS (ex_assign rfl) rfl rfl fun a hF => q_end (n_sq (q_seq (q_seq (q_region (q_x (v := s1.v) hF hS (ex_move rfl) rfl rfl fun a hF => q_x (v := (.int .i64 (goLen p_a))) hF hS (ex_len Tryz.underlying29 rfl h1.len) rfl rfl fun a hF => q_x (v := s2.v) hF hS (ex_move rfl) rfl rfl fun a hF => q_x (v := (.int .i64 (goLen p_b))) hF hS (ex_len Tryz.underlying29 rfl h2.len) rfl rfl fun a hF => q_x (v := (.bool ((goLen p_a) != (goLen p_b)))) hF hS (ex_ibin rfl rfl rfl) rfl rfl fun a hF => q_end (n_sq ?_))))))))
 rcases bcase ((goLen p_a) != (goLen p_b)) with hc1 | hc1
 ·have hr := cond_f hc1 hr
  refine q_cond_f hF rfl hc1 (q_skipc (n_sq (q_seq (q_seq (q_region (q_x (v := s1.v) hF hS (ex_move rfl) rfl rfl fun a hF => q_x (v := (.int .i64 (goLen p_a))) hF hS (ex_len Tryz.underlying29 rfl h1.len) rfl rfl fun a hF => q_x (v := (.int .i64 0)) hF hS (ex_move rfl) rfl rfl fun a hF => q_end (n_sq (q_block ?_))))))))
  obtain ⟨o2, hl2, hr⟩ := bindS hr
  refine q_loop (fun (t_3 : Int) a w => Fr a 27 [(0, s1.v), (1, s2.v), (12, (.int .i64 (goLen p_a))), (13, (.int .i64 t_3))] ∧ St [] w0 w m []) (fun (o : (Unit) ⊕ (Bool)) e a w => o = .inl () ∧ e = .exit 0 ∧ Fr a 27 [] ∧ St [] w0 w m []) hl2 ⟨hF.sub ⟨rfl, rfl, rfl, rfl, trivial⟩, hS⟩ ?_ ?_
  ·clear hF hS
   rintro t_3 a w st ⟨hF, hS⟩ hb2
   unfold laws_sameLists_l1 at hb2
   refine q_seq (q_region (q_x (v := (.bool (decide (t_3 < (goLen p_a))))) hF hS (ex_ibin rfl rfl rfl) rfl rfl fun a hF => q_end (n_sq (q_seq ?_))))
   rcases bcase (decide (t_3 < (goLen p_a))) with hc3 | hc3
   ·have hb2 := cond_f hc3 hb2
    refine q_cond_f hF rfl hc3 (q_exit (x_sq ?_))
    obtain rfl := someI hb2
    exact ⟨nofun, .inl ⟨rfl, rfl, hF.sub trivial, hS⟩⟩
   ·have hb2 := cond_t hc3 hb2
    refine q_cond_t hF rfl hc3 (q_skipc (n_sq (q_seq (q_block (q_seq (q_region (q_x (v := (.int .i64 t_3)) hF hS (ex_move rfl) rfl rfl fun a hF => q_x (v := (.int .i64 t_3)) hF hS (ex_assign rfl) rfl rfl fun a hF => q_end (n_sq (q_seq (e_region ⟨[], []⟩ mixed fun w' hw' => ?_))))))))))
    have hS := hS.below hw'
    refine e_p (v := s1.v) 0 hF rfl (ex_move rfl) rfl rfl (by kernel_rfl) (by kernel_rfl) (by kernel_rfl) fun a hF => e_p (v := (.int .i64 t_3)) 1 hF rfl (ex_move rfl) rfl rfl (by kernel_rfl) (by kernel_rfl) (by kernel_rfl) fun a hF => ?_
    obtain ⟨e_4, he_4, hb2⟩ := bindS hb2
    obtain ⟨vs5, at5, d5⟩ := h1.at he_4 1 rfl
    obtain ⟨s6, rfl, h6⟩ : ∃ s6 : Sl, vs5 = [s6.v] ∧ Rd m s6 e_4 := d5
    refine e_p (v := (elP s1 (t_3.toNat * 1))) 2 hF rfl (ex_indexAddr Tryz.underlying29 sz26 rfl rfl (h1.idx he_4)) rfl rfl (by kernel_rfl) (by kernel_rfl) (by kernel_rfl) fun a hF => e_x (v := s6.v) 3 hF hS rfl (ex_loadE1 0 Tryz.underlying26 rfl rfl ((at5).at) rfl rfl) rfl rfl (by kernel_rfl) (by kernel_rfl) (by kernel_rfl) (by kernel_rfl) fun a hF => e_p (v := s2.v) 4 hF rfl (ex_move rfl) rfl rfl (by kernel_rfl) (by kernel_rfl) (by kernel_rfl) fun a hF => e_p (v := (.int .i64 t_3)) 5 hF rfl (ex_move rfl) rfl rfl (by kernel_rfl) (by kernel_rfl) (by kernel_rfl) fun a hF => ?_
    obtain ⟨e_7, he_7, hb2⟩ := bindS hb2
    obtain ⟨vs8, at8, d8⟩ := h2.at he_7 1 rfl
    obtain ⟨s9, rfl, h9⟩ : ∃ s9 : Sl, vs8 = [s9.v] ∧ Rd m s9 e_7 := d8
    refine e_p (v := (elP s2 (t_3.toNat * 1))) 6 hF rfl (ex_indexAddr Tryz.underlying29 sz26 rfl rfl (h2.idx he_7)) rfl rfl (by kernel_rfl) (by kernel_rfl) (by kernel_rfl) fun a hF => e_x (v := s9.v) 7 hF hS rfl (ex_loadE1 0 Tryz.underlying26 rfl rfl ((at8).at) rfl rfl) rfl rfl (by kernel_rfl) (by kernel_rfl) (by kernel_rfl) (by kernel_rfl) fun a hF => e_one 8 (by kernel_rfl) ?_
    obtain ⟨t_10, ht_10, hb2⟩ := bindS hb2
    refine e_call (vs := [s6.v, s9.v]) hF hS rfl Tryz.func21 (by kernel_rfl) rfl rfl rfl (c_laws_sameInts e_4 e_7 t_10 ht_10 _ m hS.vis s6 h6 s9 h9) ?_
    rintro a w _ rfl hF hS
    refine e_p (v := (.bool (!t_10))) 9 hF rfl (ex_not rfl) rfl rfl (by kernel_rfl) (by kernel_rfl) (by kernel_rfl) fun a hF => e_end (by kernel_rfl) (n_sq ?_) _
    rcases bcase (!t_10) with hc4 | hc4
    ·have hb2 := cond_f hc4 hb2
     refine q_cond_f hF rfl hc4 (q_skipc (n_ib (n_sq (q_region (q_x (v := (.int .i64 (w64 (t_3 + 1)))) hF hS (ex_ibin rfl rfl rfl) rfl rfl fun a hF => q_x (v := (.int .i64 (w64 (t_3 + 1)))) hF hS (ex_move rfl) rfl rfl fun a hF => q_end ?_)))))
     obtain rfl := someI hb2
     exact ⟨rfl, hF.sub ⟨rfl, rfl, rfl, rfl, trivial⟩, hS⟩
    ·have hb2 := cond_t hc4 hb2
     refine q_cond_t hF rfl hc4 (q_seq (q_region (q_x (v := (.bool false)) hF hS (ex_assign rfl) rfl rfl fun a hF => q_end (n_sq (q_ret (r_ib (r_sq ?_)))))))
     obtain rfl := someI hb2
     refine ⟨nofun, .inr fun ho => ?_⟩
     subst ho
     refine r_ib (r_sq ?_)
     obtain rfl := someI hr
     exact ret_of hF hS rfl (.tmp rfl .nil) rfl
  ·rintro e a w ⟨rfl, rfl, hF, hS⟩
   refine x_ib (n_sq ?_)
   refine q_seq (q_region (q_x (v := (.bool true)) hF hS (ex_assign rfl) rfl rfl fun a hF => q_end (n_sq (q_ret ?_))))
   obtain rfl := someI hr
   exact ret_of hF hS rfl (.tmp rfl .nil) rfl
 ·have hr := cond_t hc1 hr
  refine q_cond_t hF rfl hc1 (q_seq (q_region (q_x (v := (.bool false)) hF hS (ex_assign rfl) rfl rfl fun a hF => q_end (n_sq (q_ret (r_sq ?_))))))
  obtain rfl := someI hr
  exact ret_of hF hS rfl (.tmp rfl .nil) rfl

theorem c_impl_KeyOf (p_s : List impl_Variable) (p_r : impl_Record) (p_vars : List Int) (r : Int × Bool) (hr : impl_KeyOf p_s p_r p_vars = some r) (w0 : World) (m : Mem) (hv : Vis m w0) (s1 : Sl) (h1 : Rd m s1 p_s) (s2 : Sl) (h2 : Rd m s2 p_r.Values) (s3 : Sl) (h3 : Rd m s3 p_vars) :
  Ret Tryz.prog 9 [s1.v, (.agg #[(.int .i64 p_r.Area), (.int .i64 p_r.House), s2.v]), s3.v] w0 (fun v _ => v = (.tuple #[(.int .i64 r.1), (.bool r.2)])) := by
 unfold impl_KeyOf at hr
 refine ret_start Tryz.func9 rfl 27 rfl rfl m hv fun a hF hS => q_seq (q_region (q_box (cs := [(.int .i64 p_r.Area), (.int .i64 p_r.House), s2.v]) hF hS rfl rfl rfl fun a w b4 hF hS => q_x (v := (.int .i64 0)) hF hS (ex_assign rfl) rfl rfl fun a hF => q_x (v := (.bool false)) hF hS (ex_assign rfl) rfl rfl fun a hF => q_end (n_sq (q_seq (q_seq ?_)))))
 obtain ⟨t_8, hj1, hr⟩ := bindS hr
 refine q_join (fun a w => Fr a 27 [(0, s1.v), (2, s3.v), (4, (.pointer (some ⟨b4, 0, none⟩))), (22, (.bool t_8))] ∧ St [] w0 w m [[⟨b4, [(.int .i64 p_r.Area), (.int .i64 p_r.House), s2.v], 36⟩]]) ?_ ?_
 ·refine q_region (q_x (v := s1.v) hF hS (ex_move rfl) rfl rfl fun a hF => ?_)
  obtain ⟨t_5, ht_5, hj1⟩ := bindS hj1
  refine q_call (vs := [s1.v]) hF hS Tryz.func22 (by kernel_rfl) rfl rfl rfl (c_impl_IsSchema p_s t_5 ht_5 _ m hS.vis s1 h1) ?_
  rintro a w _ rfl hF hS
  refine q_x (v := (.bool (!t_5))) hF hS (ex_not rfl) rfl rfl fun a hF => q_x (v := (.bool (!t_5))) hF hS (ex_move rfl) rfl rfl fun a hF => ?_
  rcases bcase (!t_5) with hc2 | hc2
  ·have hj1 := cond_f hc2 hj1
   refine q_xg (v := s1.v) hF hS (ex_move rfl) (wanted_t hF rfl rfl rfl hc2) rfl fun a hF => q_xg (v := (.agg #[(.int .i64 p_r.Area), (.int .i64 p_r.House), s2.v])) hF hS (ex_loadA (vs := [(.int .i64 p_r.Area), (.int .i64 p_r.House), s2.v]) 0 0 Tryz.underlying36 rfl sz36 rfl rfl rfl rfl) (wanted_t hF rfl rfl rfl hc2) rfl fun a hF => ?_
   obtain ⟨t_6, ht_6, hj1⟩ := bindS hj1
   refine q_callg (vs := [s1.v, (.agg #[(.int .i64 p_r.Area), (.int .i64 p_r.House), s2.v])]) hF hS (wanted_t hF rfl rfl rfl hc2) Tryz.func23 (by kernel_rfl) rfl rfl rfl (c_impl_isRecord p_s p_r t_6 ht_6 _ m hS.vis s1 h1 s2 h2) ?_
   rintro a w _ rfl hF hS
   refine q_xg (v := (.bool (!t_6))) hF hS (ex_not rfl) (wanted_t hF rfl rfl rfl hc2) rfl fun a hF => q_x (v := (.bool (!t_6))) hF hS (ex_pick_f rfl rfl hc2) rfl rfl fun a hF => q_x (v := (.bool (!t_6))) hF hS (ex_move rfl) rfl rfl fun a hF => ?_
   rcases bcase (!t_6) with hc3 | hc3
   ·have hj1 := cond_f hc3 hj1
    refine q_xg (v := s1.v) hF hS (ex_move rfl) (wanted_t hF rfl rfl rfl hc3) rfl fun a hF => q_xg (v := s3.v) hF hS (ex_move rfl) (wanted_t hF rfl rfl rfl hc3) rfl fun a hF => ?_
    obtain ⟨t_7, ht_7, hj1⟩ := bindS hj1
    refine q_callg (vs := [s1.v, s3.v]) hF hS (wanted_t hF rfl rfl rfl hc3) Tryz.func24 (by kernel_rfl) rfl rfl rfl (c_impl_areVars p_s p_vars t_7 ht_7 _ m hS.vis s1 h1 s3 h3) ?_
    rintro a w _ rfl hF hS
    refine q_xg (v := (.bool (!t_7))) hF hS (ex_not rfl) (wanted_t hF rfl rfl rfl hc3) rfl fun a hF => q_x (v := (.bool (!t_7))) hF hS (ex_pick_f rfl rfl hc3) rfl rfl fun a hF => q_end (n_jn ?_)
    obtain rfl := someI hj1
    exact ⟨hF.sub ⟨rfl, rfl, rfl, rfl, trivial⟩, hS⟩
   ·have hj1 := cond_t hc3 hj1
    refine q_skip hF (wanted_f hF rfl rfl rfl hc3 rfl) rfl fun a hF => q_skip hF (wanted_f hF rfl rfl rfl hc3 rfl) rfl fun a hF => q_skip hF (wanted_f hF rfl rfl rfl hc3 rfl) rfl fun a hF => q_skip hF (wanted_f hF rfl rfl rfl hc3 rfl) rfl fun a hF => q_x (v := (.bool true)) hF hS (ex_pick_t rfl rfl hc3) rfl rfl fun a hF => q_end (n_jn ?_)
    obtain rfl := someI hj1
    exact ⟨hF.sub ⟨rfl, rfl, rfl, rfl, trivial⟩, hS⟩
  ·have hj1 := cond_t hc2 hj1
   refine q_skip hF (wanted_f hF rfl rfl rfl hc2 rfl) rfl fun a hF => q_skip hF (wanted_f hF rfl rfl rfl hc2 rfl) rfl fun a hF => q_skip hF (wanted_f hF rfl rfl rfl hc2 rfl) rfl fun a hF => q_skip hF (wanted_f hF rfl rfl rfl hc2 rfl) rfl fun a hF => q_x (v := (.bool true)) hF hS (ex_pick_t rfl rfl hc2) rfl rfl fun a hF => q_x (v := (.bool true)) hF hS (ex_move rfl) rfl rfl fun a hF => q_skip hF (wanted_f hF rfl rfl rfl rfl rfl) rfl fun a hF => q_skip hF (wanted_f hF rfl rfl rfl rfl rfl) rfl fun a hF => q_skip hF (wanted_f hF rfl rfl rfl rfl rfl) rfl fun a hF => q_skip hF (wanted_f hF rfl rfl rfl rfl rfl) rfl fun a hF => q_x (v := (.bool true)) hF hS (ex_pick_t rfl rfl rfl) rfl rfl fun a hF => q_end (n_jn ?_)
   obtain rfl := someI hj1
   exact ⟨hF.sub ⟨rfl, rfl, rfl, rfl, trivial⟩, hS⟩
 ·rintro a w ⟨hF, hS⟩
  refine n_sq ?_
  rcases bcase (t_8) with hc4 | hc4
  ·have hr := cond_f hc4 hr
   refine q_cond_f hF rfl hc4 (q_skipc (n_sq (q_seq (q_region (q_x (v := s1.v) hF hS (ex_move rfl) rfl rfl fun a hF => q_x (v := (.agg #[(.int .i64 p_r.Area), (.int .i64 p_r.House), s2.v])) hF hS (ex_loadA (vs := [(.int .i64 p_r.Area), (.int .i64 p_r.House), s2.v]) 0 0 Tryz.underlying36 rfl sz36 rfl rfl rfl rfl) rfl rfl fun a hF => q_x (v := s3.v) hF hS (ex_move rfl) rfl rfl fun a hF => ?_)))))
   obtain ⟨t_9, ht_9, hr⟩ := bindS hr
   refine q_call (vs := [s1.v, (.agg #[(.int .i64 p_r.Area), (.int .i64 p_r.House), s2.v]), s3.v]) hF hS Tryz.func25 (by kernel_rfl) rfl rfl rfl (c_impl_keyOf p_s p_r p_vars t_9 ht_9 _ m hS.vis s1 h1 s2 h2 s3 h3) ?_
   rintro a w _ rfl hF hS
   refine q_x (v := (.int .i64 t_9)) hF hS (ex_assign rfl) rfl rfl fun a hF => q_x (v := (.bool true)) hF hS (ex_assign rfl) rfl rfl fun a hF => q_end (n_sq (q_ret ?_))
   obtain rfl := someI hr
   exact ret_of hF hS rfl (.tmp rfl (.tmp rfl .nil)) rfl
  ·have hr := cond_t hc4 hr
   refine q_cond_t hF rfl hc4 (q_seq (q_region (q_x (v := (.int .i64 0)) hF hS (ex_assign rfl) rfl rfl fun a hF => q_x (v := (.bool false)) hF hS (ex_assign rfl) rfl rfl fun a hF => q_end (n_sq (q_ret (r_sq ?_))))))
   obtain rfl := someI hr
   exact ret_of hF hS rfl (.tmp rfl (.tmp rfl .nil)) rfl

theorem c_spec_DrawSwapCandidates (p_code : List (K .u8)) (r : (List impl_Variable) × (List impl_Record) × (List Int)) (hr : spec_DrawSwapCandidates p_code = some r) (w0 : World) (m : Mem) (hv : Vis m w0) (s1 : Sl) (h1 : Rd m s1 p_code) :
  Ret Tryz.prog 10 [s1.v] w0 (fun v w => ∃ (m' : Mem) (q1' : Piece) (q2' : Piece) (s0' : Sl) (s1' : Sl) (s2' : Sl), v = (.tuple #[s0'.v, s1'.v, s2'.v]) ∧ MLe [] w0.heap.size m m' ∧ St [] w0 w m' [q1', q2'] ∧ Rd m' s0' r.1 ∧ OwnL m' 36 q1' s1' r.2.1 ∧ OwnL m' 3 q2' s2' r.2.2) := by
 unfold spec_DrawSwapCandidates at hr
 refine ret_start Tryz.func10 rfl 10 rfl rfl m hv fun a hF hS => q_seq (q_region (q_x (v := nilS.v) hF hS (ex_assign rfl) rfl rfl fun a hF => q_x (v := nilS.v) hF hS (ex_assign rfl) rfl rfl fun a hF => q_x (v := nilS.v) hF hS (ex_assign rfl) rfl rfl fun a hF => q_end (n_sq (q_seq (q_region (q_x (v := s1.v) hF hS (ex_move rfl) rfl rfl fun a hF => ?_))))))
 obtain ⟨t_2, ht_2, hr⟩ := bindS hr
 refine q_call (vs := [s1.v]) hF hS Tryz.func5 (by kernel_rfl) rfl rfl rfl (c_spec_DrawKeyGroups p_code t_2 ht_2 _ m hS.vis s1 h1) ?_
 have hT := hS
 rintro a w _ ⟨m3, q5, q6, s4, s5, s6, rfl, hm3, hR3, h4, h5, h6⟩ hF hS2
 have hS : St _ _ _ _ [q5, q6] := hS.join hR3 hm3
 have hm3 := MLe.weakX (O0 := []) hT hm3
 refine q_x (v := s4.v) hF hS (ex_extract rfl rfl) rfl rfl fun a hF => q_x (v := s5.v) hF hS (ex_extract rfl rfl) rfl rfl fun a hF => q_x (v := s6.v) hF hS (ex_extract rfl rfl) rfl rfl fun a hF => q_x (v := s4.v) hF hS (ex_assign rfl) rfl rfl fun a hF => q_x (v := s5.v) hF hS (ex_assign rfl) rfl rfl fun a hF => q_x (v := s6.v) hF hS (ex_assign rfl) rfl rfl fun a hF => q_end (n_sq (q_ret ?_))
 obtain rfl := someI hr
 exact ret_of hF hS rfl (.tmp rfl (.tmp rfl (.tmp rfl .nil))) ⟨m3, q5, q6, s4, s5, s6, rfl, hm3, hS.sel [0, 1] (by decide), h4, h5, h6⟩

theorem c_impl_canSwap (p_s : List impl_Variable) (p_a : impl_Record) (p_b : impl_Record) (p_vars : List Int) (r : Bool) (hr : impl_canSwap p_s p_a p_b p_vars = some r) (w0 : World) (m : Mem) (hv : Vis m w0) (s1 : Sl) (h1 : Rd m s1 p_s) (s2 : Sl) (h2 : Rd m s2 p_a.Values) (s3 : Sl) (h3 : Rd m s3 p_b.Values) (s4 : Sl) (h4 : Rd m s4 p_vars) :
  Ret Tryz.prog 41 [s1.v, (.agg #[(.int .i64 p_a.Area), (.int .i64 p_a.House), s2.v]), (.agg #[(.int .i64 p_b.Area), (.int .i64 p_b.House), s3.v]), s4.v] w0 (fun v _ => v = (.bool r)) := by
 unfold impl_canSwap at hr
 refine ret_start Tryz.func41 rfl 25 rfl rfl m hv fun a hF hS => q_seq (q_region (q_box (cs := [(.int .i64 p_a.Area), (.int .i64 p_a.House), s2.v]) hF hS rfl rfl rfl fun a w b5 hF hS => q_box (cs := [(.int .i64 p_b.Area), (.int .i64 p_b.House), s3.v]) hF hS rfl rfl rfl fun a w b6 hF hS => q_x (v := (.bool false)) hF hS (ex_assign rfl) rfl rfl fun a hF => q_end (n_sq (q_seq ?_))))
 obtain ⟨t_12, hj1, hr⟩ := bindS hr
 refine q_join (fun a w => Fr a 25 [(8, (.bool t_12))] ∧ St [] w0 w m []) ?_ ?_
 ·refine e_region ⟨[], []⟩ mixed fun w' hw' => ?_
  have hS := hS.below hw'
  refine e_p (v := (.pointer (some ⟨b5, 0, none⟩))) 0 hF rfl (ex_fieldAddr Tryz.underlying36 rfl sz3 rfl rfl) rfl rfl (by kernel_rfl) (by kernel_rfl) (by kernel_rfl) fun a hF => e_x (v := (.int .i64 p_a.Area)) 1 hF hS rfl (ex_load1 1 0 Tryz.underlying3 rfl rfl rfl rfl) rfl rfl (by kernel_rfl) (by kernel_rfl) (by kernel_rfl) (by kernel_rfl) fun a hF => e_p (v := (.pointer (some ⟨b6, 0, none⟩))) 2 hF rfl (ex_fieldAddr Tryz.underlying36 rfl sz3 rfl rfl) rfl rfl (by kernel_rfl) (by kernel_rfl) (by kernel_rfl) fun a hF => e_x (v := (.int .i64 p_b.Area)) 3 hF hS rfl (ex_load1 0 0 Tryz.underlying3 rfl rfl rfl rfl) rfl rfl (by kernel_rfl) (by kernel_rfl) (by kernel_rfl) (by kernel_rfl) fun a hF => e_p (v := (.bool (p_a.Area != p_b.Area))) 4 hF rfl (ex_ibin rfl rfl rfl) rfl rfl (by kernel_rfl) (by kernel_rfl) (by kernel_rfl) fun a hF => e_p (v := (.bool (p_a.Area != p_b.Area))) 5 hF rfl (ex_move rfl) rfl rfl (by kernel_rfl) (by kernel_rfl) (by kernel_rfl) fun a hF => ?_
  rcases bcase (p_a.Area != p_b.Area) with hc2 | hc2
  ·have hj1 := cond_f hc2 hj1
   refine e_skipP 6 hF rfl (wanted_f hF rfl rfl rfl hc2 rfl) rfl (by kernel_rfl) (by kernel_rfl) (by kernel_rfl) fun a hF => e_skipP 7 hF rfl (wanted_f hF rfl rfl rfl hc2 rfl) rfl (by kernel_rfl) (by kernel_rfl) (by kernel_rfl) fun a hF => e_skipP 8 hF rfl (wanted_f hF rfl rfl rfl hc2 rfl) rfl (by kernel_rfl) (by kernel_rfl) (by kernel_rfl) fun a hF => e_skipP 9 hF rfl (wanted_f hF rfl rfl rfl hc2 rfl) rfl (by kernel_rfl) (by kernel_rfl) (by kernel_rfl) fun a hF => e_skipP 10 hF rfl (wanted_f hF rfl rfl rfl hc2 rfl) rfl (by kernel_rfl) (by kernel_rfl) (by kernel_rfl) fun a hF => e_skipP 11 hF rfl (wanted_f hF rfl rfl rfl hc2 rfl) rfl (by kernel_rfl) (by kernel_rfl) (by kernel_rfl) fun a hF => e_skipP 12 hF rfl (wanted_f hF rfl rfl rfl hc2 rfl) rfl (by kernel_rfl) (by kernel_rfl) (by kernel_rfl) fun a hF => e_skipP 13 hF rfl (wanted_f hF rfl rfl rfl hc2 rfl) rfl (by kernel_rfl) (by kernel_rfl) (by kernel_rfl) fun a hF => e_skipP 14 hF rfl (wanted_f hF rfl rfl rfl hc2 rfl) rfl (by kernel_rfl) (by kernel_rfl) (by kernel_rfl) fun a hF => e_p (v := (.bool false)) 15 hF rfl (ex_pick_f rfl rfl hc2) rfl rfl (by kernel_rfl) (by kernel_rfl) (by kernel_rfl) fun a hF => e_p (v := (.bool false)) 16 hF rfl (ex_assign rfl) rfl rfl (by kernel_rfl) (by kernel_rfl) (by kernel_rfl) fun a hF => e_end (by kernel_rfl) (n_jn ?_) _
   obtain rfl := someI hj1
   exact ⟨hF.sub ⟨rfl, trivial⟩, hS.mask [false, false]⟩
  ·have hj1 := cond_t hc2 hj1
   refine e_pg (v := s1.v) 6 hF rfl (ex_move rfl) (wanted_t hF rfl rfl rfl hc2) rfl (by kernel_rfl) (by kernel_rfl) (by kernel_rfl) fun a hF => e_xg (v := (.agg #[(.int .i64 p_a.Area), (.int .i64 p_a.House), s2.v])) 7 hF hS rfl (ex_loadA (vs := [(.int .i64 p_a.Area), (.int .i64 p_a.House), s2.v]) 1 0 Tryz.underlying36 rfl sz36 rfl rfl rfl rfl) (wanted_t hF rfl rfl rfl hc2) rfl (by kernel_rfl) (by kernel_rfl) (by kernel_rfl) (by kernel_rfl) fun a hF => e_pg (v := s4.v) 8 hF rfl (ex_move rfl) (wanted_t hF rfl rfl rfl hc2) rfl (by kernel_rfl) (by kernel_rfl) (by kernel_rfl) fun a hF => e_pg (v := s1.v) 10 hF rfl (ex_move rfl) (wanted_t hF rfl rfl rfl hc2) rfl (by kernel_rfl) (by kernel_rfl) (by kernel_rfl) fun a hF => e_xg (v := (.agg #[(.int .i64 p_b.Area), (.int .i64 p_b.House), s3.v])) 11 hF hS rfl (ex_loadA (vs := [(.int .i64 p_b.Area), (.int .i64 p_b.House), s3.v]) 0 0 Tryz.underlying36 rfl sz36 rfl rfl rfl rfl) (wanted_t hF rfl rfl rfl hc2) rfl (by kernel_rfl) (by kernel_rfl) (by kernel_rfl) (by kernel_rfl) fun a hF => e_pg (v := s4.v) 12 hF rfl (ex_move rfl) (wanted_t hF rfl rfl rfl hc2) rfl (by kernel_rfl) (by kernel_rfl) (by kernel_rfl) fun a hF => e_one 9 (by kernel_rfl) ?_
   obtain ⟨t_10, ht_10, hj1⟩ := bindS hj1
   refine e_callg (vs := [s1.v, (.agg #[(.int .i64 p_a.Area), (.int .i64 p_a.House), s2.v]), s4.v]) hF hS rfl (wanted_t hF rfl rfl rfl hc2) Tryz.func25 (by kernel_rfl) rfl rfl rfl (c_impl_keyOf p_s p_a p_vars t_10 ht_10 _ m hS.vis s1 h1 s2 h2 s4 h4) ?_
   rintro a w _ rfl hF hS
   refine e_one 13 (by kernel_rfl) ?_
   obtain ⟨t_11, ht_11, hj1⟩ := bindS hj1
   refine e_callg (vs := [s1.v, (.agg #[(.int .i64 p_b.Area), (.int .i64 p_b.House), s3.v]), s4.v]) hF hS rfl (wanted_t hF rfl rfl rfl hc2) Tryz.func25 (by kernel_rfl) rfl rfl rfl (c_impl_keyOf p_s p_b p_vars t_11 ht_11 _ m hS.vis s1 h1 s3 h3 s4 h4) ?_
   rintro a w _ rfl hF hS
   refine e_pg (v := (.bool (t_10 == t_11))) 14 hF rfl (ex_ibin rfl rfl rfl) (wanted_t hF rfl rfl rfl hc2) rfl (by kernel_rfl) (by kernel_rfl) (by kernel_rfl) fun a hF => e_p (v := (.bool (t_10 == t_11))) 15 hF rfl (ex_pick_t rfl rfl hc2) rfl rfl (by kernel_rfl) (by kernel_rfl) (by kernel_rfl) fun a hF => e_p (v := (.bool (t_10 == t_11))) 16 hF rfl (ex_assign rfl) rfl rfl (by kernel_rfl) (by kernel_rfl) (by kernel_rfl) fun a hF => e_end (by kernel_rfl) (n_jn ?_) _
   obtain rfl := someI hj1
   exact ⟨hF.sub ⟨rfl, trivial⟩, hS.mask [false, false]⟩
 ·rintro a w ⟨hF, hS⟩
  refine n_sq (q_ret ?_)
  obtain rfl := someI hr
  exact ret_of hF hS rfl (.tmp rfl .nil) rfl

theorem c_impl_swapCandidates (p_s : List impl_Variable) (p_l : List impl_Record) (p_vars : List Int) (r : (List (List Int))) (hr : impl_swapCandidates p_s p_l p_vars = some r) (w0 : World) (m : Mem) (hv : Vis m w0) (s1 : Sl) (h1 : Rd m s1 p_s) (s2 : Sl) (h2 : Rd m s2 p_l) (s3 : Sl) (h3 : Rd m s3 p_vars) :
  Ret Tryz.prog 26 [s1.v, s2.v, s3.v] w0 (fun v w => ∃ (m' : Mem) (q0' : Piece) (s0' : Sl), v = s0'.v ∧ MLe [] w0.heap.size m m' ∧ St [] w0 w m' [q0'] ∧ OwnL m' 26 q0' s0' r) := by
 unfold impl_swapCandidates at hr
 refine ret_start Tryz.func26 rfl 42 rfl rfl m hv fun a hF hS => q_seq (q_region (q_x (v := nilS.v) hF hS (ex_assign rfl) rfl rfl fun a hF => q_end (n_sq (q_seq (q_region (q_x (v := nilS.v) hF hS (ex_assign rfl) rfl rfl fun a hF => q_end (n_sq (q_seq (q_seq (q_region (q_x (v := s2.v) hF hS (ex_move rfl) rfl rfl fun a hF => q_x (v := (.int .i64 (goLen p_l))) hF hS (ex_len Tryz.underlying25 rfl h2.len) rfl rfl fun a hF => q_x (v := (.int .i64 0)) hF hS (ex_move rfl) rfl rfl fun a hF => q_end (n_sq (q_block ?_)))))))))))))
 obtain ⟨out_30, hl1, hr⟩ := bindS hr
 refine q_loop (fun (s : (List (List Int)) × Int) a w => ∃ (m7 : Mem), ∃ (q5 : Piece), ∃ (s5 : Sl), ∃ out_4, ∃ t_6, s = (out_4, t_6) ∧ Fr a 42 [(0, s1.v), (1, s2.v), (2, s3.v), (7, s5.v), (11, (.int .i64 (goLen p_l))), (12, (.int .i64 t_6))] ∧ St [] w0 w m7 [q5] ∧ MLe [] w0.heap.size m m7 ∧ OwnL m7 26 q5 s5 out_4) (fun (out_30 : (List (List Int))) e a w => ∃ (m32 : Mem), ∃ (q31 : Piece), ∃ (s31 : Sl), e = .exit 0 ∧ Fr a 42 [(7, s31.v)] ∧ St [] w0 w m32 [q31] ∧ MLe [] w0.heap.size m m32 ∧ OwnL m32 26 q31 s31 out_30) hl1 ⟨m, [], nilS, _, _, rfl, hF.sub ⟨rfl, rfl, rfl, rfl, rfl, rfl, trivial⟩, hS.sel [0] (by decide), (MLe.refl _ _), (OwnL.nil (α := List Int) m 26)⟩ ?_ ?_
 ·clear hF hS
  rintro s a w st ⟨m7, q5, s5, out_4, t_6, rfl, hF, hS, hm7, h5⟩ hb1
  unfold impl_swapCandidates_l1 at hb1
  refine q_seq (q_region (q_x (v := (.bool (decide (t_6 < (goLen p_l))))) hF hS (ex_ibin rfl rfl rfl) rfl rfl fun a hF => q_end (n_sq (q_seq ?_))))
  rcases bcase (decide (t_6 < (goLen p_l))) with hc2 | hc2
  ·have hb1 := cond_f hc2 hb1
   refine q_cond_f hF rfl hc2 (q_exit (x_sq ?_))
   obtain rfl := someI hb1
   exact ⟨nofun, .inl ⟨m7, q5, s5, rfl, hF.sub ⟨rfl, trivial⟩, hS, hm7, h5⟩⟩
  ·have hb1 := cond_t hc2 hb1
   refine q_cond_t hF rfl hc2 (q_skipc (n_sq (q_seq (q_block (q_seq (q_region (q_x (v := (.int .i64 t_6)) hF hS (ex_move rfl) rfl rfl fun a hF => q_x (v := (.int .i64 t_6)) hF hS (ex_assign rfl) rfl rfl fun a hF => q_end (n_sq (q_seq (q_region (q_x (v := (.int .i64 t_6)) hF hS (ex_move rfl) rfl rfl fun a hF => q_x (v := (.int .i64 (w64 (t_6 + 1)))) hF hS (ex_ibin rfl rfl rfl) rfl rfl fun a hF => q_x (v := (.int .i64 (w64 (t_6 + 1)))) hF hS (ex_assign rfl) rfl rfl fun a hF => q_end (n_sq (q_block ?_)))))))))))))
   obtain ⟨out_27, hl3, hb1⟩ := bindS hb1
   refine q_loop (fun (s : (List (List Int)) × Int) a w => ∃ (m11 : Mem), ∃ (q9 : Piece), ∃ (s9 : Sl), ∃ out_8, ∃ k_10, s = (out_8, k_10) ∧ Fr a 42 [(0, s1.v), (1, s2.v), (2, s3.v), (7, s9.v), (8, (.int .i64 t_6)), (9, (.int .i64 k_10)), (11, (.int .i64 (goLen p_l))), (12, (.int .i64 t_6))] ∧ St [] w0 w m11 [q9] ∧ MLe [] w0.heap.size m7 m11 ∧ OwnL m11 26 q9 s9 out_8) (fun (out_27 : (List (List Int))) e a w => ∃ (m29 : Mem), ∃ (q28 : Piece), ∃ (s28 : Sl), e = .exit 2 ∧ Fr a 42 [(0, s1.v), (1, s2.v), (2, s3.v), (7, s28.v), (11, (.int .i64 (goLen p_l))), (12, (.int .i64 t_6))] ∧ St [] w0 w m29 [q28] ∧ MLe [] w0.heap.size m7 m29 ∧ OwnL m29 26 q28 s28 out_27) hl3 ⟨m7, q5, s5, _, _, rfl, hF.sub ⟨rfl, rfl, rfl, rfl, rfl, rfl, rfl, rfl, trivial⟩, hS, (MLe.refl _ _), h5⟩ ?_ ?_
   ·clear hF hS
    rintro s a w st ⟨m11, q9, s9, out_8, k_10, rfl, hF, hS, hm11, h9⟩ hb3
    unfold impl_swapCandidates_l2 at hb3
    refine q_seq (q_seq (q_region (q_x (v := (.int .i64 k_10)) hF hS (ex_move rfl) rfl rfl fun a hF => q_x (v := s2.v) hF hS (ex_move rfl) rfl rfl fun a hF => q_x (v := (.int .i64 (goLen p_l))) hF hS (ex_len Tryz.underlying25 rfl ((h2.mono hm7.le).mono hm11.le).len) rfl rfl fun a hF => q_x (v := (.bool (decide (k_10 < (goLen p_l))))) hF hS (ex_ibin rfl rfl rfl) rfl rfl fun a hF => q_end (n_sq ?_))))
    rcases bcase (decide (k_10 < (goLen p_l))) with hc4 | hc4
    ·have hb3 := cond_f hc4 hb3
     refine q_cond_f hF rfl hc4 (q_exit (x_sq ?_))
     obtain rfl := someI hb3
     exact ⟨nofun, .inl ⟨m11, q9, s9, rfl, hF.sub ⟨rfl, rfl, rfl, rfl, rfl, rfl, trivial⟩, hS, hm11, h9⟩⟩
    ·have hb3 := cond_t hc4 hb3
     refine q_cond_t hF rfl hc4 (q_skipc (n_sq (q_seq (q_block (q_seq (e_region ⟨[], []⟩ mixed fun w' hw' => ?_))))))
     have hS := hS.below hw'
     refine e_p (v := s1.v) 0 hF rfl (ex_move rfl) rfl rfl (by kernel_rfl) (by kernel_rfl) (by kernel_rfl) fun a hF => e_p (v := s2.v) 1 hF rfl (ex_move rfl) rfl rfl (by kernel_rfl) (by kernel_rfl) (by kernel_rfl) fun a hF => e_p (v := (.int .i64 t_6)) 2 hF rfl (ex_move rfl) rfl rfl (by kernel_rfl) (by kernel_rfl) (by kernel_rfl) fun a hF => ?_
     obtain ⟨e_12, he_12, hb3⟩ := bindS hb3
     obtain ⟨vs13, at13, d13⟩ := ((h2.mono hm7.le).mono hm11.le).at he_12 3 rfl
     obtain ⟨s14, rfl, h14⟩ : ∃ s14 : Sl, vs13 = [(.int .i64 e_12.Area), (.int .i64 e_12.House), s14.v] ∧ Rd m11 s14 e_12.Values := d13
     refine e_p (v := (elP s2 (t_6.toNat * 3))) 3 hF rfl (ex_indexAddr Tryz.underlying25 sz36 rfl rfl (((h2.mono hm7.le).mono hm11.le).idx he_12)) rfl rfl (by kernel_rfl) (by kernel_rfl) (by kernel_rfl) fun a hF => e_x (v := (.agg #[(.int .i64 e_12.Area), (.int .i64 e_12.House), s14.v])) 4 hF hS rfl (ex_loadEA (us := [(.int .i64 e_12.Area), (.int .i64 e_12.House), s14.v]) 0 Tryz.underlying36 rfl sz36 rfl ((at13).at) rfl rfl rfl) rfl rfl (by kernel_rfl) (by kernel_rfl) (by kernel_rfl) (by kernel_rfl) fun a hF => e_p (v := s2.v) 5 hF rfl (ex_move rfl) rfl rfl (by kernel_rfl) (by kernel_rfl) (by kernel_rfl) fun a hF => e_p (v := (.int .i64 k_10)) 6 hF rfl (ex_move rfl) rfl rfl (by kernel_rfl) (by kernel_rfl) (by kernel_rfl) fun a hF => ?_
     obtain ⟨e_15, he_15, hb3⟩ := bindS hb3
     obtain ⟨vs16, at16, d16⟩ := ((h2.mono hm7.le).mono hm11.le).at he_15 3 rfl
     obtain ⟨s17, rfl, h17⟩ : ∃ s17 : Sl, vs16 = [(.int .i64 e_15.Area), (.int .i64 e_15.House), s17.v] ∧ Rd m11 s17 e_15.Values := d16
     refine e_p (v := (elP s2 (k_10.toNat * 3))) 7 hF rfl (ex_indexAddr Tryz.underlying25 sz36 rfl rfl (((h2.mono hm7.le).mono hm11.le).idx he_15)) rfl rfl (by kernel_rfl) (by kernel_rfl) (by kernel_rfl) fun a hF => e_x (v := (.agg #[(.int .i64 e_15.Area), (.int .i64 e_15.House), s17.v])) 8 hF hS rfl (ex_loadEA (us := [(.int .i64 e_15.Area), (.int .i64 e_15.House), s17.v]) 0 Tryz.underlying36 rfl sz36 rfl ((at16).at) rfl rfl rfl) rfl rfl (by kernel_rfl) (by kernel_rfl) (by kernel_rfl) (by kernel_rfl) fun a hF => e_p (v := s3.v) 9 hF rfl (ex_move rfl) rfl rfl (by kernel_rfl) (by kernel_rfl) (by kernel_rfl) fun a hF => e_one 10 (by kernel_rfl) ?_
     obtain ⟨t_18, ht_18, hb3⟩ := bindS hb3
     refine e_call (vs := [s1.v, (.agg #[(.int .i64 e_12.Area), (.int .i64 e_12.House), s14.v]), (.agg #[(.int .i64 e_15.Area), (.int .i64 e_15.House), s17.v]), s3.v]) hF hS rfl Tryz.func41 (by kernel_rfl) rfl rfl rfl (c_impl_canSwap p_s e_12 e_15 p_vars t_18 ht_18 _ m11 hS.vis s1 ((h1.mono hm7.le).mono hm11.le) s14 h14 s17 h17 s3 ((h3.mono hm7.le).mono hm11.le)) ?_
     rintro a w _ rfl hF hS
     refine e_end (by kernel_rfl) (n_sq ?_) _
     obtain ⟨out_24, hj5, hb3⟩ := bindS hb3
     refine q_join (fun a w => ∃ (m26 : Mem), ∃ (q25 : Piece), ∃ (s25 : Sl), Fr a 42 [(0, s1.v), (1, s2.v), (2, s3.v), (7, s25.v), (8, (.int .i64 t_6)), (9, (.int .i64 k_10)), (11, (.int .i64 (goLen p_l))), (12, (.int .i64 t_6))] ∧ St [] w0 w m26 [q25] ∧ MLe [] w0.heap.size m11 m26 ∧ OwnL m26 26 q25 s25 out_24) ?_ ?_
     ·rcases bcase (t_18) with hc6 | hc6
      ·have hj5 := cond_f hc6 hj5
       refine q_cond_f hF rfl hc6 (q_skipc (n_jn ?_))
       obtain rfl := someI hj5
       exact ⟨m11, q9, s9, hF.sub ⟨rfl, rfl, rfl, rfl, rfl, rfl, rfl, rfl, trivial⟩, hS, (MLe.refl _ _), h9⟩
      ·have hj5 := cond_t hc6 hj5
       refine q_cond_t hF rfl hc6 (q_region (q_x (v := s9.v) hF hS (ex_move rfl) rfl rfl fun a hF => q_x (v := (.int .i64 t_6)) hF hS (ex_move rfl) rfl rfl fun a hF => q_x (v := (.int .i64 k_10)) hF hS (ex_move rfl) rfl rfl fun a hF => q_do rfl fun _ hK => wp_buildSlice' (l := ([t_6, k_10] : List Int)) (cells := [(.int .i64 t_6), (.int .i64 k_10)]) hF hS Tryz.underlying26 inf3 rfl rfl (by kernel_rfl) rfl rfl rfl ⟨rfl, rfl, rfl⟩ rfl rfl fun a w q19 s19 hF hS h19 _ => hK _ _ ?_))
       obtain ⟨m21, hm21, hS, hz21⟩ := hS.freeze
       have h21 := h19.froz hm21.le hz21
       refine q_do rfl fun _ hK => wp_buildSlice' (l := ([([t_6, k_10] : List Int)] : List (List Int))) (cells := [s19.v]) hF hS Tryz.underlying29 inf26 rfl rfl (by kernel_rfl) rfl rfl rfl ⟨⟨s19, rfl, h21⟩, rfl⟩ rfl rfl fun a w q20 s20 hF hS h20 _ => hK _ _ ?_
       have hS : St _ _ _ _ [q9, q20] := hS.sel [1, 0] (by decide)
       obtain ⟨l_22, hl_22, hj5⟩ := bindS hj5
       refine q_do rfl fun _ hK => wp_append hF hS (h9.mono hm21.le) Tryz.underlying29 inf26 rfl rfl rfl rfl (h20.vw hS (j := 1) rfl) rfl (by decide) hl_22 rfl fun a w q23 s23 hF hS h23 => hK _ _ (q_x (v := s23.v) hF hS (ex_assign rfl) rfl rfl fun a hF => q_end (n_jn ?_))
       obtain rfl := someI hj5
       exact ⟨m21, q23, s23, hF.sub ⟨rfl, rfl, rfl, rfl, rfl, rfl, rfl, rfl, trivial⟩, hS.mask [true, false], hm21, h23⟩
     ·rintro a w ⟨m26, q25, s25, hF, hS, hm26, h25⟩
      refine n_ib (n_sq ?_)
      refine q_region (q_x (v := (.int .i64 k_10)) hF hS (ex_move rfl) rfl rfl fun a hF => q_x (v := (.int .i64 (w64 (k_10 + 1)))) hF hS (ex_ibin rfl rfl rfl) rfl rfl fun a hF => q_x (v := (.int .i64 (w64 (k_10 + 1)))) hF hS (ex_assign rfl) rfl rfl fun a hF => q_end ?_)
      obtain rfl := someI hb3
      exact ⟨rfl, m26, q25, s25, _, _, rfl, hF.sub ⟨rfl, rfl, rfl, rfl, rfl, rfl, rfl, rfl, trivial⟩, hS, (hm11.trans hm26), h25⟩
   ·rintro e a w ⟨m29, q28, s28, rfl, hF, hS, hm29, h28⟩
    refine x_ib (n_ib (n_sq ?_))
    refine q_region (q_x (v := (.int .i64 (w64 (t_6 + 1)))) hF hS (ex_ibin rfl rfl rfl) rfl rfl fun a hF => q_x (v := (.int .i64 (w64 (t_6 + 1)))) hF hS (ex_move rfl) rfl rfl fun a hF => q_end ?_)
    obtain rfl := someI hb1
    exact ⟨rfl, m29, q28, s28, _, _, rfl, hF.sub ⟨rfl, rfl, rfl, rfl, rfl, rfl, trivial⟩, hS, (hm7.trans hm29), h28⟩
 ·rintro e a w ⟨m32, q31, s31, rfl, hF, hS, hm32, h31⟩
  refine x_ib (n_sq ?_)
  refine q_seq (q_region (q_x (v := s31.v) hF hS (ex_move rfl) rfl rfl fun a hF => q_x (v := s31.v) hF hS (ex_assign rfl) rfl rfl fun a hF => q_end (n_sq (q_ret ?_))))
  obtain rfl := someI hr
  exact ret_of hF hS rfl (.tmp rfl .nil) ⟨m32, q31, s31, rfl, hm32, hS.sel [0] (by decide), h31⟩

theorem c_impl_SwapCandidates (p_s : List impl_Variable) (p_l : List impl_Record) (p_vars : List Int) (r : (List (List Int)) × Bool) (hr : impl_SwapCandidates p_s p_l p_vars = some r) (w0 : World) (m : Mem) (hv : Vis m w0) (s1 : Sl) (h1 : Rd m s1 p_s) (s2 : Sl) (h2 : Rd m s2 p_l) (s3 : Sl) (h3 : Rd m s3 p_vars) :
  Ret Tryz.prog 11 [s1.v, s2.v, s3.v] w0 (fun v w => ∃ (m' : Mem) (q0' : Piece) (s0' : Sl), v = (.tuple #[s0'.v, (.bool r.2)]) ∧ MLe [] w0.heap.size m m' ∧ St [] w0 w m' [q0'] ∧ OwnL m' 26 q0' s0' r.1) := by
 unfold impl_SwapCandidates at hr
 refine ret_start Tryz.func11 rfl 22 rfl rfl m hv fun a hF hS => q_seq (q_region (q_x (v := nilS.v) hF hS (ex_assign rfl) rfl rfl fun a hF => q_x (v := (.bool false)) hF hS (ex_assign rfl) rfl rfl fun a hF => q_end (n_sq (q_seq (q_seq (q_region (q_x (v := s1.v) hF hS (ex_move rfl) rfl rfl fun a hF => q_x (v := s2.v) hF hS (ex_move rfl) rfl rfl fun a hF => q_x (v := s3.v) hF hS (ex_move rfl) rfl rfl fun a hF => ?_)))))))
 obtain ⟨t_4, ht_4, hr⟩ := bindS hr
 refine q_call (vs := [s1.v, s2.v, s3.v]) hF hS Tryz.func17 (by kernel_rfl) rfl rfl rfl (c_impl_areKeyed p_s p_l p_vars t_4 ht_4 _ m hS.vis s1 h1 s2 h2 s3 h3) ?_
 rintro a w _ rfl hF hS
 refine q_x (v := (.bool (!t_4))) hF hS (ex_not rfl) rfl rfl fun a hF => q_end (n_sq ?_)
 rcases bcase (!t_4) with hc1 | hc1
 ·have hr := cond_f hc1 hr
  refine q_cond_f hF rfl hc1 (q_skipc (n_sq (q_seq (q_region (q_x (v := s1.v) hF hS (ex_move rfl) rfl rfl fun a hF => q_x (v := s2.v) hF hS (ex_move rfl) rfl rfl fun a hF => q_x (v := s3.v) hF hS (ex_move rfl) rfl rfl fun a hF => ?_)))))
  obtain ⟨t_5, ht_5, hr⟩ := bindS hr
  refine q_call (vs := [s1.v, s2.v, s3.v]) hF hS Tryz.func26 (by kernel_rfl) rfl rfl rfl (c_impl_swapCandidates p_s p_l p_vars t_5 ht_5 _ m hS.vis s1 h1 s2 h2 s3 h3) ?_
  have hT := hS
  rintro a w _ ⟨m6, q7, s7, rfl, hm6, hR6, h7⟩ hF hS2
  have hS : St _ _ _ _ [q7] := hS.join hR6 hm6
  have hm6 := MLe.weakX (O0 := []) hT hm6
  refine q_x (v := s7.v) hF hS (ex_assign rfl) rfl rfl fun a hF => q_end (n_sq (q_seq (q_seq (q_region (q_x (v := s7.v) hF hS (ex_move rfl) rfl rfl fun a hF => q_x (v := (.int .i64 (goLen t_5))) hF hS (ex_len Tryz.underlying29 rfl h7.len) rfl rfl fun a hF => q_x (v := (.bool (decide (400 < (goLen t_5))))) hF hS (ex_ibin rfl rfl rfl) rfl rfl fun a hF => q_end (n_sq ?_))))))
  rcases bcase (decide (400 < (goLen t_5))) with hc2 | hc2
  ·have hr := cond_f hc2 hr
   refine q_cond_f hF rfl hc2 (q_skipc (n_sq (q_seq (q_region (q_x (v := s7.v) hF hS (ex_move rfl) rfl rfl fun a hF => q_x (v := s7.v) hF hS (ex_assign rfl) rfl rfl fun a hF => q_x (v := (.bool true)) hF hS (ex_assign rfl) rfl rfl fun a hF => q_end (n_sq (q_ret ?_)))))))
   obtain rfl := someI hr
   exact ret_of hF hS rfl (.tmp rfl (.tmp rfl .nil)) ⟨m6, q7, s7, rfl, hm6, hS.sel [0] (by decide), h7⟩
  ·have hr := cond_t hc2 hr
   refine q_cond_t hF rfl hc2 (q_seq (q_region (q_x (v := nilS.v) hF hS (ex_assign rfl) rfl rfl fun a hF => q_x (v := (.bool false)) hF hS (ex_assign rfl) rfl rfl fun a hF => q_end (n_sq (q_ret (r_sq ?_))))))
   obtain rfl := someI hr
   exact ret_of hF hS rfl (.tmp rfl (.tmp rfl .nil)) ⟨m6, [], nilS, rfl, hm6, hS.sel [1] (by decide), (OwnL.nil (α := List Int) m6 26)⟩
 ·have hr := cond_t hc1 hr
  refine q_cond_t hF rfl hc1 (q_seq (q_region (q_x (v := nilS.v) hF hS (ex_assign rfl) rfl rfl fun a hF => q_x (v := (.bool false)) hF hS (ex_assign rfl) rfl rfl fun a hF => q_end (n_sq (q_ret (r_sq ?_))))))
  obtain rfl := someI hr
  exact ret_of hF hS rfl (.tmp rfl (.tmp rfl .nil)) ⟨m, [], nilS, rfl, (MLe.refl _ _), hS.sel [0] (by decide), (OwnL.nil (α := List Int) m 26)⟩

theorem c_spec_swCan (p_s : List impl_Variable) (p_l : List impl_Record) (p_vars : List Int) (p_i : Int) (p_k : Int) (r : Bool) (hr : spec_swCan p_s p_l p_vars p_i p_k = some r) (w0 : World) (m : Mem) (hv : Vis m w0) (s1 : Sl) (h1 : Rd m s1 p_s) (s2 : Sl) (h2 : Rd m s2 p_l) (s3 : Sl) (h3 : Rd m s3 p_vars) :
  Ret Tryz.prog 42 [s1.v, s2.v, s3.v, (.int .i64 p_i), (.int .i64 p_k)] w0 (fun v _ => v = (.bool r)) := by
 unfold spec_swCan at hr
 refine ret_start Tryz.func42 rfl 41 rfl rfl m hv fun a hF hS => q_seq (q_region (q_x (v := (.bool false)) hF hS (ex_assign rfl) rfl rfl fun a hF => q_end (n_sq (q_seq ?_))))
 obtain ⟨t_25, hj1, hr⟩ := bindS hr
 refine q_join (fun a w => Fr a 41 [(10, (.bool t_25))] ∧ St [] w0 w m []) ?_ ?_
 ·refine e_region ⟨[], []⟩ mixed fun w' hw' => ?_
  have hS := hS.below hw'
  refine e_p (v := s2.v) 0 hF rfl (ex_move rfl) rfl rfl (by kernel_rfl) (by kernel_rfl) (by kernel_rfl) fun a hF => e_p (v := (.int .i64 p_i)) 1 hF rfl (ex_move rfl) rfl rfl (by kernel_rfl) (by kernel_rfl) (by kernel_rfl) fun a hF => ?_
  obtain ⟨e_4, he_4, hj1⟩ := bindS hj1
  obtain ⟨vs5, at5, d5⟩ := h2.at he_4 3 rfl
  obtain ⟨s6, rfl, h6⟩ : ∃ s6 : Sl, vs5 = [(.int .i64 e_4.Area), (.int .i64 e_4.House), s6.v] ∧ Rd m s6 e_4.Values := d5
  refine e_p (v := (elP s2 (p_i.toNat * 3))) 2 hF rfl (ex_indexAddr Tryz.underlying25 sz36 rfl rfl (h2.idx he_4)) rfl rfl (by kernel_rfl) (by kernel_rfl) (by kernel_rfl) fun a hF => e_p (v := (elP s2 (p_i.toNat * 3 + 0))) 3 hF rfl (ex_fieldAddrE Tryz.underlying36 rfl sz3 rfl (h2.idx he_4) rfl) rfl rfl (by kernel_rfl) (by kernel_rfl) (by kernel_rfl) fun a hF => e_x (v := (.int .i64 e_4.Area)) 4 hF hS rfl (ex_loadE1 0 Tryz.underlying3 rfl rfl ((at5).at) rfl rfl) rfl rfl (by kernel_rfl) (by kernel_rfl) (by kernel_rfl) (by kernel_rfl) fun a hF => e_p (v := s2.v) 5 hF rfl (ex_move rfl) rfl rfl (by kernel_rfl) (by kernel_rfl) (by kernel_rfl) fun a hF => e_p (v := (.int .i64 p_k)) 6 hF rfl (ex_move rfl) rfl rfl (by kernel_rfl) (by kernel_rfl) (by kernel_rfl) fun a hF => ?_
  obtain ⟨e_7, he_7, hj1⟩ := bindS hj1
  obtain ⟨vs8, at8, d8⟩ := h2.at he_7 3 rfl
  obtain ⟨s9, rfl, h9⟩ : ∃ s9 : Sl, vs8 = [(.int .i64 e_7.Area), (.int .i64 e_7.House), s9.v] ∧ Rd m s9 e_7.Values := d8
  refine e_p (v := (elP s2 (p_k.toNat * 3))) 7 hF rfl (ex_indexAddr Tryz.underlying25 sz36 rfl rfl (h2.idx he_7)) rfl rfl (by kernel_rfl) (by kernel_rfl) (by kernel_rfl) fun a hF => e_p (v := (elP s2 (p_k.toNat * 3 + 0))) 8 hF rfl (ex_fieldAddrE Tryz.underlying36 rfl sz3 rfl (h2.idx he_7) rfl) rfl rfl (by kernel_rfl) (by kernel_rfl) (by kernel_rfl) fun a hF => e_x (v := (.int .i64 e_7.Area)) 9 hF hS rfl (ex_loadE1 0 Tryz.underlying3 rfl rfl ((at8).at) rfl rfl) rfl rfl (by kernel_rfl) (by kernel_rfl) (by kernel_rfl) (by kernel_rfl) fun a hF => e_p (v := (.bool (e_4.Area != e_7.Area))) 10 hF rfl (ex_ibin rfl rfl rfl) rfl rfl (by kernel_rfl) (by kernel_rfl) (by kernel_rfl) fun a hF => e_p (v := (.bool (e_4.Area != e_7.Area))) 11 hF rfl (ex_move rfl) rfl rfl (by kernel_rfl) (by kernel_rfl) (by kernel_rfl) fun a hF => ?_
  rcases bcase (e_4.Area != e_7.Area) with hc2 | hc2
  ·have hj1 := cond_f hc2 hj1
   refine e_skipP 12 hF rfl (wanted_f hF rfl rfl rfl hc2 rfl) rfl (by kernel_rfl) (by kernel_rfl) (by kernel_rfl) fun a hF => e_skipP 13 hF rfl (wanted_f hF rfl rfl rfl hc2 rfl) rfl (by kernel_rfl) (by kernel_rfl) (by kernel_rfl) fun a hF => e_skipP 14 hF rfl (wanted_f hF rfl rfl rfl hc2 rfl) rfl (by kernel_rfl) (by kernel_rfl) (by kernel_rfl) fun a hF => e_skipP 15 hF rfl (wanted_f hF rfl rfl rfl hc2 rfl) rfl (by kernel_rfl) (by kernel_rfl) (by kernel_rfl) fun a hF => e_skipP 16 hF rfl (wanted_f hF rfl rfl rfl hc2 rfl) rfl (by kernel_rfl) (by kernel_rfl) (by kernel_rfl) fun a hF => e_skipP 17 hF rfl (wanted_f hF rfl rfl rfl hc2 rfl) rfl (by kernel_rfl) (by kernel_rfl) (by kernel_rfl) fun a hF => e_skipP 18 hF rfl (wanted_f hF rfl rfl rfl hc2 rfl) rfl (by kernel_rfl) (by kernel_rfl) (by kernel_rfl) fun a hF => e_skipP 19 hF rfl (wanted_f hF rfl rfl rfl hc2 rfl) rfl (by kernel_rfl) (by kernel_rfl) (by kernel_rfl) fun a hF => e_skipP 20 hF rfl (wanted_f hF rfl rfl rfl hc2 rfl) rfl (by kernel_rfl) (by kernel_rfl) (by kernel_rfl) fun a hF => e_skipP 21 hF rfl (wanted_f hF rfl rfl rfl hc2 rfl) rfl (by kernel_rfl) (by kernel_rfl) (by kernel_rfl) fun a hF => e_skipP 22 hF rfl (wanted_f hF rfl rfl rfl hc2 rfl) rfl (by kernel_rfl) (by kernel_rfl) (by kernel_rfl) fun a hF => e_skipP 23 hF rfl (wanted_f hF rfl rfl rfl hc2 rfl) rfl (by kernel_rfl) (by kernel_rfl) (by kernel_rfl) fun a hF => e_skipP 24 hF rfl (wanted_f hF rfl rfl rfl hc2 rfl) rfl (by kernel_rfl) (by kernel_rfl) (by kernel_rfl) fun a hF => e_skipP 25 hF rfl (wanted_f hF rfl rfl rfl hc2 rfl) rfl (by kernel_rfl) (by kernel_rfl) (by kernel_rfl) fun a hF => e_skipP 26 hF rfl (wanted_f hF rfl rfl rfl hc2 rfl) rfl (by kernel_rfl) (by kernel_rfl) (by kernel_rfl) fun a hF => e_skipP 27 hF rfl (wanted_f hF rfl rfl rfl hc2 rfl) rfl (by kernel_rfl) (by kernel_rfl) (by kernel_rfl) fun a hF => e_skipP 28 hF rfl (wanted_f hF rfl rfl rfl hc2 rfl) rfl (by kernel_rfl) (by kernel_rfl) (by kernel_rfl) fun a hF => e_p (v := (.bool false)) 29 hF rfl (ex_pick_f rfl rfl hc2) rfl rfl (by kernel_rfl) (by kernel_rfl) (by kernel_rfl) fun a hF => e_p (v := (.bool false)) 30 hF rfl (ex_assign rfl) rfl rfl (by kernel_rfl) (by kernel_rfl) (by kernel_rfl) fun a hF => e_end (by kernel_rfl) (n_jn ?_) _
   obtain rfl := someI hj1
   exact ⟨hF.sub ⟨rfl, trivial⟩, hS⟩
  ·have hj1 := cond_t hc2 hj1
   refine e_pg (v := s1.v) 12 hF rfl (ex_move rfl) (wanted_t hF rfl rfl rfl hc2) rfl (by kernel_rfl) (by kernel_rfl) (by kernel_rfl) fun a hF => e_pg (v := s2.v) 13 hF rfl (ex_move rfl) (wanted_t hF rfl rfl rfl hc2) rfl (by kernel_rfl) (by kernel_rfl) (by kernel_rfl) fun a hF => e_pg (v := (.int .i64 p_i)) 14 hF rfl (ex_move rfl) (wanted_t hF rfl rfl rfl hc2) rfl (by kernel_rfl) (by kernel_rfl) (by kernel_rfl) fun a hF => ?_
   obtain ⟨e_10, he_10, hj1⟩ := bindS hj1
   obtain ⟨vs11, at11, d11⟩ := h2.at he_10 3 rfl
   obtain ⟨s12, rfl, h12⟩ : ∃ s12 : Sl, vs11 = [(.int .i64 e_10.Area), (.int .i64 e_10.House), s12.v] ∧ Rd m s12 e_10.Values := d11
   refine e_pg (v := (elP s2 (p_i.toNat * 3))) 15 hF rfl (ex_indexAddr Tryz.underlying25 sz36 rfl rfl (h2.idx he_10)) (wanted_t hF rfl rfl rfl hc2) rfl (by kernel_rfl) (by kernel_rfl) (by kernel_rfl) fun a hF => e_pg (v := (elP s2 (p_i.toNat * 3 + 2))) 16 hF rfl (ex_fieldAddrE Tryz.underlying36 rfl sz26 rfl (h2.idx he_10) rfl) (wanted_t hF rfl rfl rfl hc2) rfl (by kernel_rfl) (by kernel_rfl) (by kernel_rfl) fun a hF => e_xg (v := s12.v) 17 hF hS rfl (ex_loadE1 2 Tryz.underlying26 rfl rfl ((at11).at) rfl rfl) (wanted_t hF rfl rfl rfl hc2) rfl (by kernel_rfl) (by kernel_rfl) (by kernel_rfl) (by kernel_rfl) fun a hF => e_pg (v := s3.v) 18 hF rfl (ex_move rfl) (wanted_t hF rfl rfl rfl hc2) rfl (by kernel_rfl) (by kernel_rfl) (by kernel_rfl) fun a hF => e_pg (v := s1.v) 20 hF rfl (ex_move rfl) (wanted_t hF rfl rfl rfl hc2) rfl (by kernel_rfl) (by kernel_rfl) (by kernel_rfl) fun a hF => e_pg (v := s2.v) 21 hF rfl (ex_move rfl) (wanted_t hF rfl rfl rfl hc2) rfl (by kernel_rfl) (by kernel_rfl) (by kernel_rfl) fun a hF => e_pg (v := (.int .i64 p_k)) 22 hF rfl (ex_move rfl) (wanted_t hF rfl rfl rfl hc2) rfl (by kernel_rfl) (by kernel_rfl) (by kernel_rfl) fun a hF => ?_
   obtain ⟨e_17, he_17, hj1⟩ := bindS hj1
   obtain ⟨vs18, at18, d18⟩ := h2.at he_17 3 rfl
   obtain ⟨s19, rfl, h19⟩ : ∃ s19 : Sl, vs18 = [(.int .i64 e_17.Area), (.int .i64 e_17.House), s19.v] ∧ Rd m s19 e_17.Values := d18
   refine e_pg (v := (elP s2 (p_k.toNat * 3))) 23 hF rfl (ex_indexAddr Tryz.underlying25 sz36 rfl rfl (h2.idx he_17)) (wanted_t hF rfl rfl rfl hc2) rfl (by kernel_rfl) (by kernel_rfl) (by kernel_rfl) fun a hF => e_pg (v := (elP s2 (p_k.toNat * 3 + 2))) 24 hF rfl (ex_fieldAddrE Tryz.underlying36 rfl sz26 rfl (h2.idx he_17) rfl) (wanted_t hF rfl rfl rfl hc2) rfl (by kernel_rfl) (by kernel_rfl) (by kernel_rfl) fun a hF => e_xg (v := s19.v) 25 hF hS rfl (ex_loadE1 2 Tryz.underlying26 rfl rfl ((at18).at) rfl rfl) (wanted_t hF rfl rfl rfl hc2) rfl (by kernel_rfl) (by kernel_rfl) (by kernel_rfl) (by kernel_rfl) fun a hF => e_pg (v := s3.v) 26 hF rfl (ex_move rfl) (wanted_t hF rfl rfl rfl hc2) rfl (by kernel_rfl) (by kernel_rfl) (by kernel_rfl) fun a hF => e_one 19 (by kernel_rfl) ?_
   obtain ⟨t_23, ht_23, hj1⟩ := bindS hj1
   refine e_callg (vs := [s1.v, s12.v, s3.v]) hF hS rfl (wanted_t hF rfl rfl rfl hc2) Tryz.func32 (by kernel_rfl) rfl rfl rfl (c_spec_swKey p_s e_10.Values p_vars t_23 ht_23 _ m hS.vis s1 h1 s12 h12 s3 h3) ?_
   rintro a w _ rfl hF hS
   refine e_one 27 (by kernel_rfl) ?_
   obtain ⟨t_24, ht_24, hj1⟩ := bindS hj1
   refine e_callg (vs := [s1.v, s19.v, s3.v]) hF hS rfl (wanted_t hF rfl rfl rfl hc2) Tryz.func32 (by kernel_rfl) rfl rfl rfl (c_spec_swKey p_s e_17.Values p_vars t_24 ht_24 _ m hS.vis s1 h1 s19 h19 s3 h3) ?_
   rintro a w _ rfl hF hS
   refine e_pg (v := (.bool (t_23 == t_24))) 28 hF rfl (ex_ibin rfl rfl rfl) (wanted_t hF rfl rfl rfl hc2) rfl (by kernel_rfl) (by kernel_rfl) (by kernel_rfl) fun a hF => e_p (v := (.bool (t_23 == t_24))) 29 hF rfl (ex_pick_t rfl rfl hc2) rfl rfl (by kernel_rfl) (by kernel_rfl) (by kernel_rfl) fun a hF => e_p (v := (.bool (t_23 == t_24))) 30 hF rfl (ex_assign rfl) rfl rfl (by kernel_rfl) (by kernel_rfl) (by kernel_rfl) fun a hF => e_end (by kernel_rfl) (n_jn ?_) _
   obtain rfl := someI hj1
   exact ⟨hF.sub ⟨rfl, trivial⟩, hS⟩
 ·rintro a w ⟨hF, hS⟩
  refine n_sq (q_ret ?_)
  obtain rfl := someI hr
  exact ret_of hF hS rfl (.tmp rfl .nil) rfl

theorem c_spec_swCandidates (p_s : List impl_Variable) (p_l : List impl_Record) (p_vars : List Int) (r : (List (List Int))) (hr : spec_swCandidates p_s p_l p_vars = some r) (w0 : World) (m : Mem) (hv : Vis m w0) (s1 : Sl) (h1 : Rd m s1 p_s) (s2 : Sl) (h2 : Rd m s2 p_l) (s3 : Sl) (h3 : Rd m s3 p_vars) :
  Ret Tryz.prog 27 [s1.v, s2.v, s3.v] w0 (fun v w => ∃ (m' : Mem) (q0' : Piece) (s0' : Sl), v = s0'.v ∧ MLe [] w0.heap.size m m' ∧ St [] w0 w m' [q0'] ∧ OwnL m' 26 q0' s0' r) := by
 unfold spec_swCandidates at hr
 refine ret_start Tryz.func27 rfl 37 rfl rfl m hv fun a hF hS => q_seq (q_region (q_x (v := nilS.v) hF hS (ex_assign rfl) rfl rfl fun a hF => q_end (n_sq (q_seq (q_region (q_x (v := nilS.v) hF hS (ex_assign rfl) rfl rfl fun a hF => q_end (n_sq (q_seq (q_seq (q_region (q_x (v := s2.v) hF hS (ex_move rfl) rfl rfl fun a hF => q_x (v := (.int .i64 (goLen p_l))) hF hS (ex_len Tryz.underlying25 rfl h2.len) rfl rfl fun a hF => q_x (v := (.int .i64 0)) hF hS (ex_move rfl) rfl rfl fun a hF => q_end (n_sq (q_block ?_)))))))))))))
 obtain ⟨out_24, hl1, hr⟩ := bindS hr
 refine q_loop (fun (s : (List (List Int)) × Int) a w => ∃ (m7 : Mem), ∃ (q5 : Piece), ∃ (s5 : Sl), ∃ out_4, ∃ t_6, s = (out_4, t_6) ∧ Fr a 37 [(0, s1.v), (1, s2.v), (2, s3.v), (7, s5.v), (11, (.int .i64 (goLen p_l))), (12, (.int .i64 t_6))] ∧ St [] w0 w m7 [q5] ∧ MLe [] w0.heap.size m m7 ∧ OwnL m7 26 q5 s5 out_4) (fun (out_24 : (List (List Int))) e a w => ∃ (m26 : Mem), ∃ (q25 : Piece), ∃ (s25 : Sl), e = .exit 0 ∧ Fr a 37 [(7, s25.v)] ∧ St [] w0 w m26 [q25] ∧ MLe [] w0.heap.size m m26 ∧ OwnL m26 26 q25 s25 out_24) hl1 ⟨m, [], nilS, _, _, rfl, hF.sub ⟨rfl, rfl, rfl, rfl, rfl, rfl, trivial⟩, hS.sel [0] (by decide), (MLe.refl _ _), (OwnL.nil (α := List Int) m 26)⟩ ?_ ?_
 ·clear hF hS
  rintro s a w st ⟨m7, q5, s5, out_4, t_6, rfl, hF, hS, hm7, h5⟩ hb1
  unfold spec_swCandidates_l1 at hb1
  refine q_seq (q_region (q_x (v := (.bool (decide (t_6 < (goLen p_l))))) hF hS (ex_ibin rfl rfl rfl) rfl rfl fun a hF => q_end (n_sq (q_seq ?_))))
  rcases bcase (decide (t_6 < (goLen p_l))) with hc2 | hc2
  ·have hb1 := cond_f hc2 hb1
   refine q_cond_f hF rfl hc2 (q_exit (x_sq ?_))
   obtain rfl := someI hb1
   exact ⟨nofun, .inl ⟨m7, q5, s5, rfl, hF.sub ⟨rfl, trivial⟩, hS, hm7, h5⟩⟩
  ·have hb1 := cond_t hc2 hb1
   refine q_cond_t hF rfl hc2 (q_skipc (n_sq (q_seq (q_block (q_seq (q_region (q_x (v := (.int .i64 t_6)) hF hS (ex_move rfl) rfl rfl fun a hF => q_x (v := (.int .i64 t_6)) hF hS (ex_assign rfl) rfl rfl fun a hF => q_end (n_sq (q_seq (q_region (q_x (v := (.int .i64 t_6)) hF hS (ex_move rfl) rfl rfl fun a hF => q_x (v := (.int .i64 (w64 (t_6 + 1)))) hF hS (ex_ibin rfl rfl rfl) rfl rfl fun a hF => q_x (v := (.int .i64 (w64 (t_6 + 1)))) hF hS (ex_assign rfl) rfl rfl fun a hF => q_end (n_sq (q_block ?_)))))))))))))
   obtain ⟨out_21, hl3, hb1⟩ := bindS hb1
   refine q_loop (fun (s : (List (List Int)) × Int) a w => ∃ (m11 : Mem), ∃ (q9 : Piece), ∃ (s9 : Sl), ∃ out_8, ∃ k_10, s = (out_8, k_10) ∧ Fr a 37 [(0, s1.v), (1, s2.v), (2, s3.v), (7, s9.v), (8, (.int .i64 t_6)), (9, (.int .i64 k_10)), (11, (.int .i64 (goLen p_l))), (12, (.int .i64 t_6))] ∧ St [] w0 w m11 [q9] ∧ MLe [] w0.heap.size m7 m11 ∧ OwnL m11 26 q9 s9 out_8) (fun (out_21 : (List (List Int))) e a w => ∃ (m23 : Mem), ∃ (q22 : Piece), ∃ (s22 : Sl), e = .exit 2 ∧ Fr a 37 [(0, s1.v), (1, s2.v), (2, s3.v), (7, s22.v), (11, (.int .i64 (goLen p_l))), (12, (.int .i64 t_6))] ∧ St [] w0 w m23 [q22] ∧ MLe [] w0.heap.size m7 m23 ∧ OwnL m23 26 q22 s22 out_21) hl3 ⟨m7, q5, s5, _, _, rfl, hF.sub ⟨rfl, rfl, rfl, rfl, rfl, rfl, rfl, rfl, trivial⟩, hS, (MLe.refl _ _), h5⟩ ?_ ?_
   ·clear hF hS
    rintro s a w st ⟨m11, q9, s9, out_8, k_10, rfl, hF, hS, hm11, h9⟩ hb3
    unfold spec_swCandidates_l2 at hb3
    refine q_seq (q_seq (q_region (q_x (v := (.int .i64 k_10)) hF hS (ex_move rfl) rfl rfl fun a hF => q_x (v := s2.v) hF hS (ex_move rfl) rfl rfl fun a hF => q_x (v := (.int .i64 (goLen p_l))) hF hS (ex_len Tryz.underlying25 rfl ((h2.mono hm7.le).mono hm11.le).len) rfl rfl fun a hF => q_x (v := (.bool (decide (k_10 < (goLen p_l))))) hF hS (ex_ibin rfl rfl rfl) rfl rfl fun a hF => q_end (n_sq ?_))))
    rcases bcase (decide (k_10 < (goLen p_l))) with hc4 | hc4
    ·have hb3 := cond_f hc4 hb3
     refine q_cond_f hF rfl hc4 (q_exit (x_sq ?_))
     obtain rfl := someI hb3
     exact ⟨nofun, .inl ⟨m11, q9, s9, rfl, hF.sub ⟨rfl, rfl, rfl, rfl, rfl, rfl, trivial⟩, hS, hm11, h9⟩⟩
    ·have hb3 := cond_t hc4 hb3
     refine q_cond_t hF rfl hc4 (q_skipc (n_sq (q_seq (q_block (q_seq (q_region (q_x (v := s1.v) hF hS (ex_move rfl) rfl rfl fun a hF => q_x (v := s2.v) hF hS (ex_move rfl) rfl rfl fun a hF => q_x (v := s3.v) hF hS (ex_move rfl) rfl rfl fun a hF => q_x (v := (.int .i64 t_6)) hF hS (ex_move rfl) rfl rfl fun a hF => q_x (v := (.int .i64 k_10)) hF hS (ex_move rfl) rfl rfl fun a hF => ?_)))))))
     obtain ⟨t_12, ht_12, hb3⟩ := bindS hb3
     refine q_call (vs := [s1.v, s2.v, s3.v, (.int .i64 t_6), (.int .i64 k_10)]) hF hS Tryz.func42 (by kernel_rfl) rfl rfl rfl (c_spec_swCan p_s p_l p_vars t_6 k_10 t_12 ht_12 _ m11 hS.vis s1 ((h1.mono hm7.le).mono hm11.le) s2 ((h2.mono hm7.le).mono hm11.le) s3 ((h3.mono hm7.le).mono hm11.le)) ?_
     rintro a w _ rfl hF hS
     refine q_end (n_sq ?_)
     obtain ⟨out_18, hj5, hb3⟩ := bindS hb3
     refine q_join (fun a w => ∃ (m20 : Mem), ∃ (q19 : Piece), ∃ (s19 : Sl), Fr a 37 [(0, s1.v), (1, s2.v), (2, s3.v), (7, s19.v), (8, (.int .i64 t_6)), (9, (.int .i64 k_10)), (11, (.int .i64 (goLen p_l))), (12, (.int .i64 t_6))] ∧ St [] w0 w m20 [q19] ∧ MLe [] w0.heap.size m11 m20 ∧ OwnL m20 26 q19 s19 out_18) ?_ ?_
     ·rcases bcase (t_12) with hc6 | hc6
      ·have hj5 := cond_f hc6 hj5
       refine q_cond_f hF rfl hc6 (q_skipc (n_jn ?_))
       obtain rfl := someI hj5
       exact ⟨m11, q9, s9, hF.sub ⟨rfl, rfl, rfl, rfl, rfl, rfl, rfl, rfl, trivial⟩, hS, (MLe.refl _ _), h9⟩
      ·have hj5 := cond_t hc6 hj5
       refine q_cond_t hF rfl hc6 (q_region (q_x (v := s9.v) hF hS (ex_move rfl) rfl rfl fun a hF => q_x (v := (.int .i64 t_6)) hF hS (ex_move rfl) rfl rfl fun a hF => q_x (v := (.int .i64 k_10)) hF hS (ex_move rfl) rfl rfl fun a hF => q_do rfl fun _ hK => wp_buildSlice' (l := ([t_6, k_10] : List Int)) (cells := [(.int .i64 t_6), (.int .i64 k_10)]) hF hS Tryz.underlying26 inf3 rfl rfl (by kernel_rfl) rfl rfl rfl ⟨rfl, rfl, rfl⟩ rfl rfl fun a w q13 s13 hF hS h13 _ => hK _ _ ?_))
       obtain ⟨m15, hm15, hS, hz15⟩ := hS.freeze
       have h15 := h13.froz hm15.le hz15
       refine q_do rfl fun _ hK => wp_buildSlice' (l := ([([t_6, k_10] : List Int)] : List (List Int))) (cells := [s13.v]) hF hS Tryz.underlying29 inf26 rfl rfl (by kernel_rfl) rfl rfl rfl ⟨⟨s13, rfl, h15⟩, rfl⟩ rfl rfl fun a w q14 s14 hF hS h14 _ => hK _ _ ?_
       have hS : St _ _ _ _ [q9, q14] := hS.sel [1, 0] (by decide)
       obtain ⟨l_16, hl_16, hj5⟩ := bindS hj5
       refine q_do rfl fun _ hK => wp_append hF hS (h9.mono hm15.le) Tryz.underlying29 inf26 rfl rfl rfl rfl (h14.vw hS (j := 1) rfl) rfl (by decide) hl_16 rfl fun a w q17 s17 hF hS h17 => hK _ _ (q_x (v := s17.v) hF hS (ex_assign rfl) rfl rfl fun a hF => q_end (n_jn ?_))
       obtain rfl := someI hj5
       exact ⟨m15, q17, s17, hF.sub ⟨rfl, rfl, rfl, rfl, rfl, rfl, rfl, rfl, trivial⟩, hS.mask [true, false], hm15, h17⟩
     ·rintro a w ⟨m20, q19, s19, hF, hS, hm20, h19⟩
      refine n_ib (n_sq ?_)
      refine q_region (q_x (v := (.int .i64 k_10)) hF hS (ex_move rfl) rfl rfl fun a hF => q_x (v := (.int .i64 (w64 (k_10 + 1)))) hF hS (ex_ibin rfl rfl rfl) rfl rfl fun a hF => q_x (v := (.int .i64 (w64 (k_10 + 1)))) hF hS (ex_assign rfl) rfl rfl fun a hF => q_end ?_)
      obtain rfl := someI hb3
      exact ⟨rfl, m20, q19, s19, _, _, rfl, hF.sub ⟨rfl, rfl, rfl, rfl, rfl, rfl, rfl, rfl, trivial⟩, hS, (hm11.trans hm20), h19⟩
   ·rintro e a w ⟨m23, q22, s22, rfl, hF, hS, hm23, h22⟩
    refine x_ib (n_ib (n_sq ?_))
    refine q_region (q_x (v := (.int .i64 (w64 (t_6 + 1)))) hF hS (ex_ibin rfl rfl rfl) rfl rfl fun a hF => q_x (v := (.int .i64 (w64 (t_6 + 1)))) hF hS (ex_move rfl) rfl rfl fun a hF => q_end ?_)
    obtain rfl := someI hb1
    exact ⟨rfl, m23, q22, s22, _, _, rfl, hF.sub ⟨rfl, rfl, rfl, rfl, rfl, rfl, trivial⟩, hS, (hm7.trans hm23), h22⟩
 ·rintro e a w ⟨m26, q25, s25, rfl, hF, hS, hm26, h25⟩
  refine x_ib (n_sq ?_)
  refine q_seq (q_region (q_x (v := s25.v) hF hS (ex_move rfl) rfl rfl fun a hF => q_x (v := s25.v) hF hS (ex_assign rfl) rfl rfl fun a hF => q_end (n_sq (q_ret ?_))))
  obtain rfl := someI hr
  exact ret_of hF hS rfl (.tmp rfl .nil) ⟨m26, q25, s25, rfl, hm26, hS.sel [0] (by decide), h25⟩

theorem c_spec_SwapCandidates (p_s : List impl_Variable) (p_l : List impl_Record) (p_vars : List Int) (r : (List (List Int)) × Bool) (hr : spec_SwapCandidates p_s p_l p_vars = some r) (w0 : World) (m : Mem) (hv : Vis m w0) (s1 : Sl) (h1 : Rd m s1 p_s) (s2 : Sl) (h2 : Rd m s2 p_l) (s3 : Sl) (h3 : Rd m s3 p_vars) :
  Ret Tryz.prog 12 [s1.v, s2.v, s3.v] w0 (fun v w => ∃ (m' : Mem) (q0' : Piece) (s0' : Sl), v = (.tuple #[s0'.v, (.bool r.2)]) ∧ MLe [] w0.heap.size m m' ∧ St [] w0 w m' [q0'] ∧ OwnL m' 26 q0' s0' r.1) := by
 unfold spec_SwapCandidates at hr
 refine ret_start Tryz.func12 rfl 22 rfl rfl m hv fun a hF hS => q_seq (q_region (q_x (v := nilS.v) hF hS (ex_assign rfl) rfl rfl fun a hF => q_x (v := (.bool false)) hF hS (ex_assign rfl) rfl rfl fun a hF => q_end (n_sq (q_seq (q_seq (q_region (q_x (v := s1.v) hF hS (ex_move rfl) rfl rfl fun a hF => q_x (v := s2.v) hF hS (ex_move rfl) rfl rfl fun a hF => q_x (v := s3.v) hF hS (ex_move rfl) rfl rfl fun a hF => ?_)))))))
 obtain ⟨t_4, ht_4, hr⟩ := bindS hr
 refine q_call (vs := [s1.v, s2.v, s3.v]) hF hS Tryz.func19 (by kernel_rfl) rfl rfl rfl (c_spec_swInput p_s p_l p_vars t_4 ht_4 _ m hS.vis s1 h1 s2 h2 s3 h3) ?_
 rintro a w _ rfl hF hS
 refine q_x (v := (.bool (!t_4))) hF hS (ex_not rfl) rfl rfl fun a hF => q_end (n_sq ?_)
 rcases bcase (!t_4) with hc1 | hc1
 ·have hr := cond_f hc1 hr
  refine q_cond_f hF rfl hc1 (q_skipc (n_sq (q_seq (q_region (q_x (v := s1.v) hF hS (ex_move rfl) rfl rfl fun a hF => q_x (v := s2.v) hF hS (ex_move rfl) rfl rfl fun a hF => q_x (v := s3.v) hF hS (ex_move rfl) rfl rfl fun a hF => ?_)))))
  obtain ⟨t_5, ht_5, hr⟩ := bindS hr
  refine q_call (vs := [s1.v, s2.v, s3.v]) hF hS Tryz.func27 (by kernel_rfl) rfl rfl rfl (c_spec_swCandidates p_s p_l p_vars t_5 ht_5 _ m hS.vis s1 h1 s2 h2 s3 h3) ?_
  have hT := hS
  rintro a w _ ⟨m6, q7, s7, rfl, hm6, hR6, h7⟩ hF hS2
  have hS : St _ _ _ _ [q7] := hS.join hR6 hm6
  have hm6 := MLe.weakX (O0 := []) hT hm6
  refine q_x (v := s7.v) hF hS (ex_assign rfl) rfl rfl fun a hF => q_end (n_sq (q_seq (q_seq (q_region (q_x (v := s7.v) hF hS (ex_move rfl) rfl rfl fun a hF => q_x (v := (.int .i64 (goLen t_5))) hF hS (ex_len Tryz.underlying29 rfl h7.len) rfl rfl fun a hF => q_x (v := (.bool (decide (400 < (goLen t_5))))) hF hS (ex_ibin rfl rfl rfl) rfl rfl fun a hF => q_end (n_sq ?_))))))
  rcases bcase (decide (400 < (goLen t_5))) with hc2 | hc2
  ·have hr := cond_f hc2 hr
   refine q_cond_f hF rfl hc2 (q_skipc (n_sq (q_seq (q_region (q_x (v := s7.v) hF hS (ex_move rfl) rfl rfl fun a hF => q_x (v := s7.v) hF hS (ex_assign rfl) rfl rfl fun a hF => q_x (v := (.bool true)) hF hS (ex_assign rfl) rfl rfl fun a hF => q_end (n_sq (q_ret ?_)))))))
   obtain rfl := someI hr
   exact ret_of hF hS rfl (.tmp rfl (.tmp rfl .nil)) ⟨m6, q7, s7, rfl, hm6, hS.sel [0] (by decide), h7⟩
  ·have hr := cond_t hc2 hr
   refine q_cond_t hF rfl hc2 (q_seq (q_region (q_x (v := nilS.v) hF hS (ex_assign rfl) rfl rfl fun a hF => q_x (v := (.bool false)) hF hS (ex_assign rfl) rfl rfl fun a hF => q_end (n_sq (q_ret (r_sq ?_))))))
   obtain rfl := someI hr
   exact ret_of hF hS rfl (.tmp rfl (.tmp rfl .nil)) ⟨m6, [], nilS, rfl, hm6, hS.sel [1] (by decide), (OwnL.nil (α := List Int) m6 26)⟩
 ·have hr := cond_t hc1 hr
  refine q_cond_t hF rfl hc1 (q_seq (q_region (q_x (v := nilS.v) hF hS (ex_assign rfl) rfl rfl fun a hF => q_x (v := (.bool false)) hF hS (ex_assign rfl) rfl rfl fun a hF => q_end (n_sq (q_ret (r_sq ?_))))))
  obtain rfl := someI hr
  exact ret_of hF hS rfl (.tmp rfl (.tmp rfl .nil)) ⟨m, [], nilS, rfl, (MLe.refl _ _), hS.sel [0] (by decide), (OwnL.nil (α := List Int) m 26)⟩

theorem c_spec_l1Cur_seed0 (p_c : spec_l1Cur) (r : Int × spec_l1Cur) (hr : spec_l1Cur_seed0 p_c = some r) (w0 : World) (m : Mem) (b_p_c : Nat) (s1 : Sl) (h1 : Rd m s1 p_c.code) (X : List Nat) (hS : St X w0 w0 m [[⟨b_p_c, [s1.v, (.int .i64 p_c.at_), (.int .u64 p_c.seed.v)], 44⟩]]) :
  RetX Tryz.prog 100 [(.pointer (some ⟨b_p_c, 0, none⟩))] w0 (fun v w => v = (.int .i64 r.1) ∧ St X w0 w m [[⟨b_p_c, [s1.v, (.int .i64 r.2.at_), (.int .u64 r.2.seed.v)], 44⟩]] ∧ r.2.code = p_c.code) := by
 unfold spec_l1Cur_seed0 at hr
 refine ret_startX Tryz.func100 rfl 14 rfl rfl fun a hF => q_seq (q_region (q_x (v := (.int .i64 0)) hF hS (ex_assign rfl) rfl rfl fun a hF => q_end (n_sq (q_seq (q_seq (q_region (q_x (v := (.pointer (some ⟨b_p_c, 0, none⟩))) hF hS (ex_move rfl) rfl rfl fun a hF => ?_)))))))
 have hS2 : St _ _ _ _ ([[⟨b_p_c, [s1.v, (.int .i64 p_c.at_), (.int .u64 p_c.seed.v)], 44⟩]] ++ []) := hS
 have hE2 := hS2.enter
 obtain ⟨t_3, ht_3, hr⟩ := bindS hr
 refine q_do rfl fun _ hK => wp_callX (vs := [(.pointer (some ⟨b_p_c, 0, none⟩)), (.int .i64 12)]) hF Tryz.func51 (by kernel_rfl) rfl rfl rfl (c_spec_l1Cur_pick p_c 12 t_3 ht_3 _ m b_p_c s1 h1 _ hE2) fun a w _ hR hF => hK _ _ ?_
 obtain ⟨rfl, hR2, hk4⟩ := hR
 have hS : St _ _ _ _ [[⟨b_p_c, [s1.v, (.int .i64 t_3.2.at_), (.int .u64 t_3.2.seed.v)], 44⟩]] := hS2.leaveF hR2
 have h4 : Rd m s1 t_3.2.code := by rw [hk4]; exact h1
 refine q_end (n_sq (q_block (q_seq (q_region (q_x (v := (.bool (t_3.1 == 0))) hF hS (ex_ibin rfl rfl rfl) rfl rfl fun a hF => q_x (v := (.bool (t_3.1 == 0))) hF hS (ex_assign rfl) rfl rfl fun a hF => q_end (n_sq ?_))))))
 rcases bcase (t_3.1 == 0) with hc1 | hc1
 ·have hr := cond_f hc1 hr
  refine q_cond_f hF rfl hc1 (q_seq (q_region (q_x (v := (.bool (t_3.1 == 1))) hF hS (ex_ibin rfl rfl rfl) rfl rfl fun a hF => q_x (v := (.bool (t_3.1 == 1))) hF hS (ex_assign rfl) rfl rfl fun a hF => q_end (n_sq ?_))))
  rcases bcase (t_3.1 == 1) with hc2 | hc2
  ·have hr := cond_f hc2 hr
   refine q_cond_f hF rfl hc2 (q_skipc (n_ib (n_sq (q_seq (q_region (q_x (v := (.pointer (some ⟨b_p_c, 0, none⟩))) hF hS (ex_move rfl) rfl rfl fun a hF => ?_))))))
   have hS5 : St _ _ _ _ ([[⟨b_p_c, [s1.v, (.int .i64 t_3.2.at_), (.int .u64 t_3.2.seed.v)], 44⟩]] ++ []) := hS
   have hE5 := hS5.enter
   obtain ⟨t_6, ht_6, hr⟩ := bindS hr
   refine q_do rfl fun _ hK => wp_callX (vs := [(.pointer (some ⟨b_p_c, 0, none⟩)), (.int .i64 60000)]) hF Tryz.func51 (by kernel_rfl) rfl rfl rfl (c_spec_l1Cur_pick t_3.2 60000 t_6 ht_6 _ m b_p_c s1 h4 _ hE5) fun a w _ hR hF => hK _ _ ?_
   obtain ⟨rfl, hR5, hk7⟩ := hR
   have hS : St _ _ _ _ [[⟨b_p_c, [s1.v, (.int .i64 t_6.2.at_), (.int .u64 t_6.2.seed.v)], 44⟩]] := hS5.leaveF hR5
   have h7 : Rd m s1 t_6.2.code := by rw [hk7]; exact h4
   refine q_x (v := (.int .i64 t_6.1)) hF hS (ex_assign rfl) rfl rfl fun a hF => q_end (n_sq (q_ret ?_))
   obtain rfl := someI hr
   exact ret_ofX hF hS rfl (.tmp rfl .nil) ⟨rfl, hS.sel [0] (by decide), (hk7.trans hk4)⟩
  ·have hr := cond_t hc2 hr
   refine q_cond_t hF rfl hc2 (q_seq (q_region (q_x (v := (.pointer (some ⟨b_p_c, 0, none⟩))) hF hS (ex_move rfl) rfl rfl fun a hF => q_do rfl fun _ hK => wp_buildSlice' (l := ([4611686016279904236, 123456789012] : List Int)) (cells := [(.int .i64 4611686016279904236), (.int .i64 123456789012)]) hF hS Tryz.underlying26 inf3 rfl rfl (by kernel_rfl) rfl rfl rfl ⟨rfl, rfl, rfl⟩ rfl rfl fun a w q8 s8 hF hS h8 _ => hK _ _ ?_)))
   have hS : St _ _ _ _ [[⟨b_p_c, [s1.v, (.int .i64 t_3.2.at_), (.int .u64 t_3.2.seed.v)], 44⟩], q8] := hS.sel [1, 0] (by decide)
   have hS9 : St _ _ _ _ ([[⟨b_p_c, [s1.v, (.int .i64 t_3.2.at_), (.int .u64 t_3.2.seed.v)], 44⟩]] ++ [q8]) := hS
   obtain ⟨m9, hl9, hE9, hz9⟩ := hS9.lendX
   obtain ⟨t_10, ht_10, hr⟩ := bindS hr
   refine q_do rfl fun _ hK => wp_callX (vs := [(.pointer (some ⟨b_p_c, 0, none⟩)), s8.v]) hF Tryz.func52 (by kernel_rfl) rfl rfl rfl (c_spec_l1Cur_among t_3.2 ([4611686016279904236, 123456789012] : List Int) t_10 ht_10 _ m9 b_p_c s1 (h4.mono hl9) s8 (h8.froz hl9 (hz9 0 _ rfl)) _ hE9) fun a w _ hR hF => hK _ _ ?_
   obtain ⟨rfl, hR9, hk11⟩ := hR
   have hS : St _ _ _ _ [[⟨b_p_c, [s1.v, (.int .i64 t_10.2.at_), (.int .u64 t_10.2.seed.v)], 44⟩], q8] := hS9.leaveF hR9
   have h11 : Rd m s1 t_10.2.code := by rw [hk11]; exact h4
   refine q_x (v := (.int .i64 t_10.1)) hF hS (ex_assign rfl) rfl rfl fun a hF => q_end (n_sq (q_ret (r_ib (r_sq ?_))))
   obtain rfl := someI hr
   exact ret_ofX hF hS rfl (.tmp rfl .nil) ⟨rfl, hS.sel [0] (by decide), (hk11.trans hk4)⟩
 ·have hr := cond_t hc1 hr
  refine q_cond_t hF rfl hc1 (q_seq (q_region (q_x (v := (.int .i64 0)) hF hS (ex_assign rfl) rfl rfl fun a hF => q_end (n_sq (q_ret (r_ib (r_sq ?_)))))))
  obtain rfl := someI hr
  exact ret_ofX hF hS rfl (.tmp rfl .nil) ⟨rfl, hS.sel [0] (by decide), hk4⟩

theorem c_spec_l1Cur_anySeed (p_c : spec_l1Cur) (r : Int × spec_l1Cur) (hr : spec_l1Cur_anySeed p_c = some r) (w0 : World) (m : Mem) (b_p_c : Nat) (s1 : Sl) (h1 : Rd m s1 p_c.code) (X : List Nat) (hS : St X w0 w0 m [[⟨b_p_c, [s1.v, (.int .i64 p_c.at_), (.int .u64 p_c.seed.v)], 44⟩]]) :
  RetX Tryz.prog 94 [(.pointer (some ⟨b_p_c, 0, none⟩))] w0 (fun v w => v = (.int .i64 r.1) ∧ St X w0 w m [[⟨b_p_c, [s1.v, (.int .i64 r.2.at_), (.int .u64 r.2.seed.v)], 44⟩]] ∧ r.2.code = p_c.code) := by
 unfold spec_l1Cur_anySeed at hr
 refine ret_startX Tryz.func94 rfl 10 rfl rfl fun a hF => q_seq (q_region (q_x (v := (.int .i64 0)) hF hS (ex_assign rfl) rfl rfl fun a hF => q_end (n_sq (q_seq (q_seq (q_region (q_x (v := (.pointer (some ⟨b_p_c, 0, none⟩))) hF hS (ex_move rfl) rfl rfl fun a hF => ?_)))))))
 have hS2 : St _ _ _ _ ([[⟨b_p_c, [s1.v, (.int .i64 p_c.at_), (.int .u64 p_c.seed.v)], 44⟩]] ++ []) := hS
 have hE2 := hS2.enter
 obtain ⟨t_3, ht_3, hr⟩ := bindS hr
 refine q_do rfl fun _ hK => wp_callX (vs := [(.pointer (some ⟨b_p_c, 0, none⟩)), (.int .i64 24)]) hF Tryz.func45 (by kernel_rfl) rfl rfl rfl (c_spec_l1Cur_one p_c 24 t_3 ht_3 _ m b_p_c s1 h1 _ hE2) fun a w _ hR hF => hK _ _ ?_
 obtain ⟨rfl, hR2, hk4⟩ := hR
 have hS : St _ _ _ _ [[⟨b_p_c, [s1.v, (.int .i64 t_3.2.at_), (.int .u64 t_3.2.seed.v)], 44⟩]] := hS2.leaveF hR2
 have h4 : Rd m s1 t_3.2.code := by rw [hk4]; exact h1
 refine q_end (n_sq ?_)
 rcases bcase (t_3.1) with hc1 | hc1
 ·have hr := cond_f hc1 hr
  refine q_cond_f hF rfl hc1 (q_skipc (n_sq (q_seq (q_region (q_x (v := (.pointer (some ⟨b_p_c, 0, none⟩))) hF hS (ex_move rfl) rfl rfl fun a hF => ?_)))))
  have hS5 : St _ _ _ _ ([[⟨b_p_c, [s1.v, (.int .i64 t_3.2.at_), (.int .u64 t_3.2.seed.v)], 44⟩]] ++ []) := hS
  have hE5 := hS5.enter
  obtain ⟨t_6, ht_6, hr⟩ := bindS hr
  refine q_do rfl fun _ hK => wp_callX (vs := [(.pointer (some ⟨b_p_c, 0, none⟩))]) hF Tryz.func100 (by kernel_rfl) rfl rfl rfl (c_spec_l1Cur_seed0 t_3.2 t_6 ht_6 _ m b_p_c s1 h4 _ hE5) fun a w _ hR hF => hK _ _ ?_
  obtain ⟨rfl, hR5, hk7⟩ := hR
  have hS : St _ _ _ _ [[⟨b_p_c, [s1.v, (.int .i64 t_6.2.at_), (.int .u64 t_6.2.seed.v)], 44⟩]] := hS5.leaveF hR5
  have h7 : Rd m s1 t_6.2.code := by rw [hk7]; exact h4
  refine q_x (v := (.int .i64 t_6.1)) hF hS (ex_assign rfl) rfl rfl fun a hF => q_end (n_sq (q_ret ?_))
  obtain rfl := someI hr
  exact ret_ofX hF hS rfl (.tmp rfl .nil) ⟨rfl, hS.sel [0] (by decide), (hk7.trans hk4)⟩
 ·have hr := cond_t hc1 hr
  refine q_cond_t hF rfl hc1 (q_seq (q_region (q_x (v := (.pointer (some ⟨b_p_c, 0, none⟩))) hF hS (ex_move rfl) rfl rfl fun a hF => q_do rfl fun _ hK => wp_buildSlice' (l := ([-1, 4611686016279904237] : List Int)) (cells := [(.int .i64 (-1)), (.int .i64 4611686016279904237)]) hF hS Tryz.underlying26 inf3 rfl rfl (by kernel_rfl) rfl rfl rfl ⟨rfl, rfl, rfl⟩ rfl rfl fun a w q8 s8 hF hS h8 _ => hK _ _ ?_)))
  have hS : St _ _ _ _ [[⟨b_p_c, [s1.v, (.int .i64 t_3.2.at_), (.int .u64 t_3.2.seed.v)], 44⟩], q8] := hS.sel [1, 0] (by decide)
  have hS9 : St _ _ _ _ ([[⟨b_p_c, [s1.v, (.int .i64 t_3.2.at_), (.int .u64 t_3.2.seed.v)], 44⟩]] ++ [q8]) := hS
  obtain ⟨m9, hl9, hE9, hz9⟩ := hS9.lendX
  obtain ⟨t_10, ht_10, hr⟩ := bindS hr
  refine q_do rfl fun _ hK => wp_callX (vs := [(.pointer (some ⟨b_p_c, 0, none⟩)), s8.v]) hF Tryz.func52 (by kernel_rfl) rfl rfl rfl (c_spec_l1Cur_among t_3.2 ([-1, 4611686016279904237] : List Int) t_10 ht_10 _ m9 b_p_c s1 (h4.mono hl9) s8 (h8.froz hl9 (hz9 0 _ rfl)) _ hE9) fun a w _ hR hF => hK _ _ ?_
  obtain ⟨rfl, hR9, hk11⟩ := hR
  have hS : St _ _ _ _ [[⟨b_p_c, [s1.v, (.int .i64 t_10.2.at_), (.int .u64 t_10.2.seed.v)], 44⟩], q8] := hS9.leaveF hR9
  have h11 : Rd m s1 t_10.2.code := by rw [hk11]; exact h4
  refine q_x (v := (.int .i64 t_10.1)) hF hS (ex_assign rfl) rfl rfl fun a hF => q_end (n_sq (q_ret (r_sq ?_)))
  obtain rfl := someI hr
  exact ret_ofX hF hS rfl (.tmp rfl .nil) ⟨rfl, hS.sel [0] (by decide), (hk11.trans hk4)⟩

theorem c_spec_DrawSwapPlan (p_code : List (K .u8)) (r : (List impl_Variable) × (List impl_Record) × (List Int) × Int × Int) (hr : spec_DrawSwapPlan p_code = some r) (w0 : World) (m : Mem) (hv : Vis m w0) (s1 : Sl) (h1 : Rd m s1 p_code) :
  Ret Tryz.prog 83 [s1.v] w0 (fun v w => ∃ (m' : Mem) (q1' : Piece) (q2' : Piece) (s0' : Sl) (s1' : Sl) (s2' : Sl), v = (.tuple #[s0'.v, s1'.v, s2'.v, (.int .i64 r.2.2.2.1), (.int .i64 r.2.2.2.2)]) ∧ MLe [] w0.heap.size m m' ∧ St [] w0 w m' [q1', q2'] ∧ Rd m' s0' r.1 ∧ OwnL m' 36 q1' s1' r.2.1 ∧ OwnL m' 3 q2' s2' r.2.2.1) := by
 unfold spec_DrawSwapPlan at hr
 refine ret_start Tryz.func83 rfl 28 rfl rfl m hv fun a hF hS => q_seq (q_region (q_x (v := nilS.v) hF hS (ex_assign rfl) rfl rfl fun a hF => q_x (v := nilS.v) hF hS (ex_assign rfl) rfl rfl fun a hF => q_x (v := nilS.v) hF hS (ex_assign rfl) rfl rfl fun a hF => q_x (v := (.int .i64 0)) hF hS (ex_assign rfl) rfl rfl fun a hF => q_x (v := (.int .i64 0)) hF hS (ex_assign rfl) rfl rfl fun a hF => q_end (n_sq (q_seq (q_region (q_x (v := s1.v) hF hS (ex_move rfl) rfl rfl fun a hF => q_x (v := (.agg #[s1.v, (.int .i64 0), (.int .u64 0)])) hF hS (ex_build (cells := [s1.v, (.int .i64 0), (.int .u64 0)]) rfl (by kernel_rfl)) rfl rfl fun a hF => q_box (cs := [s1.v, (.int .i64 0), (.int .u64 0)]) hF hS rfl rfl rfl fun a w b2 hF hS => q_x (v := (.pointer (some ⟨b2, 0, none⟩))) hF hS (ex_assign rfl) rfl rfl fun a hF => q_end (n_sq (q_seq (q_region (q_x (v := (.pointer (some ⟨b2, 0, none⟩))) hF hS (ex_move rfl) rfl rfl fun a hF => ?_))))))))))
 have hS3 : St _ _ _ _ ([[⟨b2, [s1.v, (.int .i64 0), (.int .u64 0)], 44⟩]] ++ []) := hS
 have hE3 := hS3.enter
 obtain ⟨t_4, ht_4, hr⟩ := bindS hr
 refine q_do rfl fun _ hK => wp_callX (vs := [(.pointer (some ⟨b2, 0, none⟩))]) hF Tryz.func16 (by kernel_rfl) rfl rfl rfl (c_spec_l1Cur_keyed (spec_l1Cur.mk p_code 0 (⟨0⟩ : K .u64)) t_4 ht_4 _ m b2 s1 h1 _ hE3) fun a w _ hR hF => hK _ _ ?_
 obtain ⟨m3', q6, q7, s5, s6, s7, rfl, hm3, hR3, h5, h6, h7, hk8⟩ := hR
 have hS : St _ _ _ _ [[⟨b2, [s1.v, (.int .i64 t_4.2.2.2.at_), (.int .u64 t_4.2.2.2.seed.v)], 44⟩], q6, q7] := hS3.leave hR3 hm3
 have hm3 := MLe.weakX hS3 hm3
 have h8 : Rd m3' s1 t_4.2.2.2.code := by rw [hk8]; exact (h1.mono hm3.le)
 refine q_x (v := (.tuple #[s5.v, s6.v, s7.v])) hF hS (ex_move rfl) rfl rfl fun a hF => q_x (v := s5.v) hF hS (ex_extract rfl rfl) rfl rfl fun a hF => q_x (v := s6.v) hF hS (ex_extract rfl rfl) rfl rfl fun a hF => q_x (v := s7.v) hF hS (ex_extract rfl rfl) rfl rfl fun a hF => q_x (v := s5.v) hF hS (ex_assign rfl) rfl rfl fun a hF => q_x (v := s6.v) hF hS (ex_assign rfl) rfl rfl fun a hF => q_x (v := s7.v) hF hS (ex_assign rfl) rfl rfl fun a hF => q_end (n_sq (q_seq (q_region (q_x (v := s5.v) hF hS (ex_move rfl) rfl rfl fun a hF => q_x (v := s6.v) hF hS (ex_move rfl) rfl rfl fun a hF => q_x (v := s7.v) hF hS (ex_move rfl) rfl rfl fun a hF => q_x (v := (.pointer (some ⟨b2, 0, none⟩))) hF hS (ex_move rfl) rfl rfl fun a hF => q_do rfl fun _ hK => wp_buildSlice' (l := ([0, 1, 2, 5, 20, 21, -1] : List Int)) (cells := [(.int .i64 0), (.int .i64 1), (.int .i64 2), (.int .i64 5), (.int .i64 20), (.int .i64 21), (.int .i64 (-1))]) hF hS Tryz.underlying26 inf3 rfl rfl (by kernel_rfl) rfl rfl rfl ⟨rfl, rfl, rfl, rfl, rfl, rfl, rfl, rfl⟩ rfl rfl fun a w q9 s9 hF hS h9 _ => hK _ _ ?_))))
 have hS : St _ _ _ _ [[⟨b2, [s1.v, (.int .i64 t_4.2.2.2.at_), (.int .u64 t_4.2.2.2.seed.v)], 44⟩], q9, q6, q7] := hS.sel [1, 0, 2, 3] (by decide)
 have hS10 : St _ _ _ _ ([[⟨b2, [s1.v, (.int .i64 t_4.2.2.2.at_), (.int .u64 t_4.2.2.2.seed.v)], 44⟩]] ++ [q9, q6, q7]) := hS
 obtain ⟨m10, hl10, hE10, hz10⟩ := hS10.lendX
 obtain ⟨t_11, ht_11, hr⟩ := bindS hr
 refine q_do rfl fun _ hK => wp_callX (vs := [(.pointer (some ⟨b2, 0, none⟩)), s9.v]) hF Tryz.func52 (by kernel_rfl) rfl rfl rfl (c_spec_l1Cur_among t_4.2.2.2 ([0, 1, 2, 5, 20, 21, -1] : List Int) t_11 ht_11 _ m10 b2 s1 (h8.mono hl10) s9 (h9.froz hl10 (hz10 0 _ rfl)) _ hE10) fun a w _ hR hF => hK _ _ ?_
 obtain ⟨rfl, hR10, hk12⟩ := hR
 have hS : St _ _ _ _ [[⟨b2, [s1.v, (.int .i64 t_11.2.at_), (.int .u64 t_11.2.seed.v)], 44⟩], q9, q6, q7] := hS10.leaveF hR10
 have h12 : Rd m3' s1 t_11.2.code := by rw [hk12]; exact h8
 refine q_x (v := (.pointer (some ⟨b2, 0, none⟩))) hF hS (ex_move rfl) rfl rfl fun a hF => ?_
 have hS13 : St _ _ _ _ ([[⟨b2, [s1.v, (.int .i64 t_11.2.at_), (.int .u64 t_11.2.seed.v)], 44⟩]] ++ [q9, q6, q7]) := hS
 have hE13 := hS13.enter
 obtain ⟨t_14, ht_14, hr⟩ := bindS hr
 refine q_do rfl fun _ hK => wp_callX (vs := [(.pointer (some ⟨b2, 0, none⟩))]) hF Tryz.func94 (by kernel_rfl) rfl rfl rfl (c_spec_l1Cur_anySeed t_11.2 t_14 ht_14 _ m3' b2 s1 h12 _ hE13) fun a w _ hR hF => hK _ _ ?_
 obtain ⟨rfl, hR13, hk15⟩ := hR
 have hS : St _ _ _ _ [[⟨b2, [s1.v, (.int .i64 t_14.2.at_), (.int .u64 t_14.2.seed.v)], 44⟩], q9, q6, q7] := hS13.leaveF hR13
 have h15 : Rd m3' s1 t_14.2.code := by rw [hk15]; exact h12
 refine q_x (v := s5.v) hF hS (ex_assign rfl) rfl rfl fun a hF => q_x (v := s6.v) hF hS (ex_assign rfl) rfl rfl fun a hF => q_x (v := s7.v) hF hS (ex_assign rfl) rfl rfl fun a hF => q_x (v := (.int .i64 t_11.1)) hF hS (ex_assign rfl) rfl rfl fun a hF => q_x (v := (.int .i64 t_14.1)) hF hS (ex_assign rfl) rfl rfl fun a hF => q_end (n_sq (q_ret ?_))
 obtain rfl := someI hr
 exact ret_of hF hS rfl (.tmp rfl (.tmp rfl (.tmp rfl (.tmp rfl (.tmp rfl .nil))))) ⟨m3', q6, q7, s5, s6, s7, rfl, hm3, hS.sel [2, 3] (by decide), h5, h6, h7⟩

theorem c_spec_l1All (p_l : List Int) (p_lo : Int) (p_hi : Int) (r : Bool) (hr : spec_l1All p_l p_lo p_hi = some r) (w0 : World) (m : Mem) (hv : Vis m w0) (s1 : Sl) (h1 : Rd m s1 p_l) :
  Ret Tryz.prog 101 [s1.v, (.int .i64 p_lo), (.int .i64 p_hi)] w0 (fun v _ => v = (.bool r)) := by
 unfold spec_l1All at hr
 refine ret_start Tryz.func101 rfl 21 rfl rfl m hv fun a hF hS => q_seq (q_region (q_x (v := (.bool false)) hF hS (ex_assign rfl) rfl rfl fun a hF => q_end (n_sq (q_seq (q_seq (q_region (q_x (v := s1.v) hF hS (ex_move rfl) rfl rfl fun a hF => q_x (v := (.int .i64 (goLen p_l))) hF hS (ex_len Tryz.underlying26 rfl h1.len) rfl rfl fun a hF => q_x (v := (.int .i64 0)) hF hS (ex_move rfl) rfl rfl fun a hF => q_end (n_sq (q_block ?_)))))))))
 obtain ⟨o1, hl1, hr⟩ := bindS hr
 refine q_loop (fun (t_2 : Int) a w => Fr a 21 [(1, (.int .i64 p_lo)), (2, (.int .i64 p_hi)), (9, s1.v), (10, (.int .i64 (goLen p_l))), (11, (.int .i64 t_2))] ∧ St [] w0 w m []) (fun (o : (Unit) ⊕ (Bool)) e a w => o = .inl () ∧ e = .exit 0 ∧ Fr a 21 [] ∧ St [] w0 w m []) hl1 ⟨hF.sub ⟨rfl, rfl, rfl, rfl, rfl, trivial⟩, hS⟩ ?_ ?_
 ·clear hF hS
  rintro t_2 a w st ⟨hF, hS⟩ hb1
  unfold spec_l1All_l1 at hb1
  refine q_seq (q_region (q_x (v := (.bool (decide (t_2 < (goLen p_l))))) hF hS (ex_ibin rfl rfl rfl) rfl rfl fun a hF => q_end (n_sq (q_seq ?_))))
  rcases bcase (decide (t_2 < (goLen p_l))) with hc2 | hc2
  ·have hb1 := cond_f hc2 hb1
   refine q_cond_f hF rfl hc2 (q_exit (x_sq ?_))
   obtain rfl := someI hb1
   exact ⟨nofun, .inl ⟨rfl, rfl, hF.sub trivial, hS⟩⟩
  ·have hb1 := cond_t hc2 hb1
   refine q_cond_t hF rfl hc2 (q_skipc (n_sq (q_seq (q_block (q_seq (q_region ?_))))))
   obtain ⟨e_3, he_3, hb1⟩ := bindS hb1
   obtain ⟨vs4, at4, d4⟩ := h1.at he_3 1 rfl
   obtain rfl : vs4 = [(.int .i64 e_3)] := d4
   refine q_x (v := (elP s1 (t_2.toNat * 1))) hF hS (ex_indexAddr Tryz.underlying26 sz3 rfl rfl (h1.idx he_3)) rfl rfl fun a hF => q_x (v := (.int .i64 e_3)) hF hS (ex_loadE1 0 Tryz.underlying3 rfl rfl ((at4).at) rfl rfl) rfl rfl fun a hF => q_x (v := (.int .i64 e_3)) hF hS (ex_assign rfl) rfl rfl fun a hF => q_end (n_sq (q_seq (q_region (q_x (v := (.int .i64 e_3)) hF hS (ex_move rfl) rfl rfl fun a hF => q_x (v := (.int .i64 p_lo)) hF hS (ex_move rfl) rfl rfl fun a hF => q_x (v := (.int .i64 p_hi)) hF hS (ex_move rfl) rfl rfl fun a hF => ?_))))
   obtain ⟨t_5, ht_5, hb1⟩ := bindS hb1
   refine q_call (vs := [(.int .i64 e_3), (.int .i64 p_lo), (.int .i64 p_hi)]) hF hS Tryz.func65 (by kernel_rfl) rfl rfl rfl (c_spec_l1In e_3 p_lo p_hi t_5 ht_5 _ m hS.vis) ?_
   rintro a w _ rfl hF hS
   refine q_x (v := (.bool (!t_5))) hF hS (ex_not rfl) rfl rfl fun a hF => q_end (n_sq ?_)
   rcases bcase (!t_5) with hc3 | hc3
   ·have hb1 := cond_f hc3 hb1
    refine q_cond_f hF rfl hc3 (q_skipc (n_ib (n_sq (q_region (q_x (v := (.int .i64 (w64 (t_2 + 1)))) hF hS (ex_ibin rfl rfl rfl) rfl rfl fun a hF => q_x (v := (.int .i64 (w64 (t_2 + 1)))) hF hS (ex_move rfl) rfl rfl fun a hF => q_end ?_)))))
    obtain rfl := someI hb1
    exact ⟨rfl, hF.sub ⟨rfl, rfl, rfl, rfl, rfl, trivial⟩, hS⟩
   ·have hb1 := cond_t hc3 hb1
    refine q_cond_t hF rfl hc3 (q_seq (q_region (q_x (v := (.bool false)) hF hS (ex_assign rfl) rfl rfl fun a hF => q_end (n_sq (q_ret (r_ib (r_sq ?_)))))))
    obtain rfl := someI hb1
    refine ⟨nofun, .inr fun ho => ?_⟩
    subst ho
    refine r_ib (r_sq ?_)
    obtain rfl := someI hr
    exact ret_of hF hS rfl (.tmp rfl .nil) rfl
 ·rintro e a w ⟨rfl, rfl, hF, hS⟩
  refine x_ib (n_sq ?_)
  refine q_seq (q_region (q_x (v := (.bool true)) hF hS (ex_assign rfl) rfl rfl fun a hF => q_end (n_sq (q_ret ?_))))
  obtain rfl := someI hr
  exact ret_of hF hS rfl (.tmp rfl .nil) rfl

theorem c_spec_hDigest (p_l : List Int) (r : Bool) (hr : spec_hDigest p_l = some r) (w0 : World) (m : Mem) (hv : Vis m w0) (s1 : Sl) (h1 : Rd m s1 p_l) :
  Ret Tryz.prog 95 [s1.v] w0 (fun v _ => v = (.bool r)) := by
 unfold spec_hDigest at hr
 refine ret_start Tryz.func95 rfl 5 rfl rfl m hv fun a hF hS => q_seq (q_region (q_x (v := (.bool false)) hF hS (ex_assign rfl) rfl rfl fun a hF => q_end (n_sq (q_seq (q_region (q_x (v := s1.v) hF hS (ex_move rfl) rfl rfl fun a hF => ?_))))))
 obtain ⟨t_2, ht_2, hr⟩ := bindS hr
 refine q_call (vs := [s1.v, (.int .i64 0), (.int .i64 4611686016279904236)]) hF hS Tryz.func101 (by kernel_rfl) rfl rfl rfl (c_spec_l1All p_l 0 4611686016279904236 t_2 ht_2 _ m hS.vis s1 h1) ?_
 rintro a w _ rfl hF hS
 refine q_x (v := (.bool t_2)) hF hS (ex_assign rfl) rfl rfl fun a hF => q_end (n_sq (q_ret ?_))
 obtain rfl := someI hr
 exact ret_of hF hS rfl (.tmp rfl .nil) rfl

theorem c_spec_hMod (p_x : Int) (p_m : Int) (r : Int) (hr : spec_hMod p_x p_m = some r) (w0 : World) (m : Mem) (hv : Vis m w0) :
  Ret Tryz.prog 106 [(.int .i64 p_x), (.int .i64 p_m)] w0 (fun v _ => v = (.int .i64 r)) := by
 unfold spec_hMod at hr
 refine ret_start Tryz.func106 rfl 12 rfl rfl m hv fun a hF hS => q_seq (q_region (q_x (v := (.int .i64 0)) hF hS (ex_assign rfl) rfl rfl fun a hF => q_end (n_sq (q_seq (q_region (q_x (v := (.int .i64 p_x)) hF hS (ex_move rfl) rfl rfl fun a hF => q_x (v := (.int .i64 p_m)) hF hS (ex_move rfl) rfl rfl fun a hF => ?_))))))
 obtain ⟨t_1, ht_1, hr⟩ := bindS hr
 refine q_x (v := (.int .i64 t_1)) hF hS (ex_rem rfl rfl ht_1) rfl rfl fun a hF => q_x (v := (.int .i64 p_m)) hF hS (ex_move rfl) rfl rfl fun a hF => q_x (v := (.int .i64 (w64 (t_1 + p_m)))) hF hS (ex_ibin rfl rfl rfl) rfl rfl fun a hF => q_x (v := (.int .i64 p_m)) hF hS (ex_move rfl) rfl rfl fun a hF => ?_
 obtain ⟨t_2, ht_2, hr⟩ := bindS hr
 refine q_x (v := (.int .i64 t_2)) hF hS (ex_rem rfl rfl ht_2) rfl rfl fun a hF => q_x (v := (.int .i64 t_2)) hF hS (ex_assign rfl) rfl rfl fun a hF => q_end (n_sq (q_ret ?_))
 obtain rfl := someI hr
 exact ret_of hF hS rfl (.tmp rfl .nil) rfl

theorem c_spec_hInts (p_l : List Int) (r : Int) (hr : spec_hInts p_l = some r) (w0 : World) (m : Mem) (hv : Vis m w0) (s1 : Sl) (h1 : Rd m s1 p_l) :
  Ret Tryz.prog 105 [s1.v] w0 (fun v _ => v = (.int .i64 r)) := by
 unfold spec_hInts at hr
 refine ret_start Tryz.func105 rfl 43 rfl rfl m hv fun a hF hS => q_seq (q_region (q_x (v := (.int .i64 0)) hF hS (ex_assign rfl) rfl rfl fun a hF => q_end (n_sq (q_seq (q_region (q_x (v := s1.v) hF hS (ex_move rfl) rfl rfl fun a hF => q_x (v := (.int .i64 (goLen p_l))) hF hS (ex_len Tryz.underlying26 rfl h1.len) rfl rfl fun a hF => q_x (v := (.int .i64 (goLen p_l))) hF hS (ex_assign rfl) rfl rfl fun a hF => q_x (v := (.int .i64 1)) hF hS (ex_assign rfl) rfl rfl fun a hF => q_end (n_sq (q_seq (q_seq (q_region (q_x (v := (.int .i64 0)) hF hS (ex_assign rfl) rfl rfl fun a hF => q_end (n_sq (q_block ?_)))))))))))))
 obtain ⟨o1, hl1, hr⟩ := bindS hr
 refine q_loop (fun (s : Int × Int × Int) a w => ∃ a_2, ∃ b_3, ∃ i_4, s = (a_2, b_3, i_4) ∧ Fr a 43 [(0, s1.v), (3, (.int .i64 a_2)), (4, (.int .i64 b_3)), (5, (.int .i64 i_4))] ∧ St [] w0 w m []) (fun (o : Int × Int) e a w => ∃ a_12, ∃ b_13, o = (a_12, b_13) ∧ e = .exit 0 ∧ Fr a 43 [(3, (.int .i64 a_12)), (4, (.int .i64 b_13))] ∧ St [] w0 w m []) hl1 ⟨_, _, _, rfl, hF.sub ⟨rfl, rfl, rfl, rfl, trivial⟩, hS⟩ ?_ ?_
 ·clear hF hS
  rintro s a w st ⟨a_2, b_3, i_4, rfl, hF, hS⟩ hb1
  unfold spec_hInts_l1 at hb1
  refine q_seq (q_seq (q_region (q_x (v := (.int .i64 i_4)) hF hS (ex_move rfl) rfl rfl fun a hF => q_x (v := s1.v) hF hS (ex_move rfl) rfl rfl fun a hF => q_x (v := (.int .i64 (goLen p_l))) hF hS (ex_len Tryz.underlying26 rfl h1.len) rfl rfl fun a hF => q_x (v := (.int .i64 (w64 ((goLen p_l) + 4)))) hF hS (ex_ibin rfl rfl rfl) rfl rfl fun a hF => q_x (v := (.bool (decide (i_4 < (w64 ((goLen p_l) + 4)))))) hF hS (ex_ibin rfl rfl rfl) rfl rfl fun a hF => q_end (n_sq ?_))))
  rcases bcase (decide (i_4 < (w64 ((goLen p_l) + 4)))) with hc2 | hc2
  ·have hb1 := cond_f hc2 hb1
   refine q_cond_f hF rfl hc2 (q_exit (x_sq ?_))
   obtain rfl := someI hb1
   exact ⟨nofun, .inl ⟨_, _, rfl, rfl, hF.sub ⟨rfl, rfl, trivial⟩, hS⟩⟩
  ·have hb1 := cond_t hc2 hb1
   refine q_cond_t hF rfl hc2 (q_skipc (n_sq (q_seq (q_block (q_seq (q_region (q_x (v := (.int .i64 0)) hF hS (ex_assign rfl) rfl rfl fun a hF => q_end (n_sq (q_seq (q_seq (q_region (q_x (v := (.int .i64 i_4)) hF hS (ex_move rfl) rfl rfl fun a hF => q_x (v := s1.v) hF hS (ex_move rfl) rfl rfl fun a hF => q_x (v := (.int .i64 (goLen p_l))) hF hS (ex_len Tryz.underlying26 rfl h1.len) rfl rfl fun a hF => q_x (v := (.bool (decide (i_4 < (goLen p_l))))) hF hS (ex_ibin rfl rfl rfl) rfl rfl fun a hF => q_end (n_sq ?_)))))))))))))
   obtain ⟨x_7, hj3, hb1⟩ := bindS hb1
   refine q_join (fun a w => Fr a 43 [(0, s1.v), (3, (.int .i64 a_2)), (4, (.int .i64 b_3)), (5, (.int .i64 i_4)), (6, (.int .i64 x_7))] ∧ St [] w0 w m []) ?_ ?_
   ·rcases bcase (decide (i_4 < (goLen p_l))) with hc4 | hc4
    ·have hj3 := cond_f hc4 hj3
     refine q_cond_f hF rfl hc4 (q_skipc (n_jn ?_))
     obtain rfl := someI hj3
     exact ⟨hF.sub ⟨rfl, rfl, rfl, rfl, rfl, trivial⟩, hS⟩
    ·have hj3 := cond_t hc4 hj3
     refine q_cond_t hF rfl hc4 (q_region (q_x (v := s1.v) hF hS (ex_move rfl) rfl rfl fun a hF => q_x (v := (.int .i64 i_4)) hF hS (ex_move rfl) rfl rfl fun a hF => ?_))
     obtain ⟨e_5, he_5, hj3⟩ := bindS hj3
     obtain ⟨vs6, at6, d6⟩ := h1.at he_5 1 rfl
     obtain rfl : vs6 = [(.int .i64 e_5)] := d6
     refine q_x (v := (elP s1 (i_4.toNat * 1))) hF hS (ex_indexAddr Tryz.underlying26 sz3 rfl rfl (h1.idx he_5)) rfl rfl fun a hF => q_x (v := (.int .i64 e_5)) hF hS (ex_loadE1 0 Tryz.underlying3 rfl rfl ((at6).at) rfl rfl) rfl rfl fun a hF => q_x (v := (.int .i64 e_5)) hF hS (ex_assign rfl) rfl rfl fun a hF => q_end (n_jn ?_)
     obtain rfl := someI hj3
     exact ⟨hF.sub ⟨rfl, rfl, rfl, rfl, rfl, trivial⟩, hS⟩
   ·rintro a w ⟨hF, hS⟩
    refine n_sq ?_
    refine q_seq (q_region (q_x (v := (.int .i64 a_2)) hF hS (ex_move rfl) rfl rfl fun a hF => q_x (v := (.int .i64 (w64 (48271 * a_2)))) hF hS (ex_ibin rfl rfl rfl) rfl rfl fun a hF => q_x (v := (.int .i64 x_7)) hF hS (ex_move rfl) rfl rfl fun a hF => ?_))
    obtain ⟨t_8, ht_8, hb1⟩ := bindS hb1
    refine q_call (vs := [(.int .i64 x_7), (.int .i64 2147483647)]) hF hS Tryz.func106 (by kernel_rfl) rfl rfl rfl (c_spec_hMod x_7 2147483647 t_8 ht_8 _ m hS.vis) ?_
    rintro a w _ rfl hF hS
    refine q_x (v := (.int .i64 (w64 ((w64 (48271 * a_2)) + t_8)))) hF hS (ex_ibin rfl rfl rfl) rfl rfl fun a hF => q_x (v := (.int .i64 (w64 ((w64 ((w64 (48271 * a_2)) + t_8)) + 1)))) hF hS (ex_ibin rfl rfl rfl) rfl rfl fun a hF => ?_
    obtain ⟨t_9, ht_9, hb1⟩ := bindS hb1
    refine q_x (v := (.int .i64 t_9)) hF hS (ex_rem rfl rfl ht_9) rfl rfl fun a hF => q_x (v := (.int .i64 t_9)) hF hS (ex_assign rfl) rfl rfl fun a hF => q_end (n_sq (q_region (q_x (v := (.int .i64 b_3)) hF hS (ex_move rfl) rfl rfl fun a hF => q_x (v := (.int .i64 (w64 (69621 * b_3)))) hF hS (ex_ibin rfl rfl rfl) rfl rfl fun a hF => q_x (v := (.int .i64 x_7)) hF hS (ex_move rfl) rfl rfl fun a hF => ?_)))
    obtain ⟨t_10, ht_10, hb1⟩ := bindS hb1
    refine q_call (vs := [(.int .i64 x_7), (.int .i64 2147483629)]) hF hS Tryz.func106 (by kernel_rfl) rfl rfl rfl (c_spec_hMod x_7 2147483629 t_10 ht_10 _ m hS.vis) ?_
    rintro a w _ rfl hF hS
    refine q_x (v := (.int .i64 (w64 ((w64 (69621 * b_3)) + t_10)))) hF hS (ex_ibin rfl rfl rfl) rfl rfl fun a hF => q_x (v := (.int .i64 t_9)) hF hS (ex_move rfl) rfl rfl fun a hF => q_x (v := (.int .i64 (w64 ((w64 ((w64 (69621 * b_3)) + t_10)) + t_9)))) hF hS (ex_ibin rfl rfl rfl) rfl rfl fun a hF => ?_
    obtain ⟨t_11, ht_11, hb1⟩ := bindS hb1
    refine q_x (v := (.int .i64 t_11)) hF hS (ex_rem rfl rfl ht_11) rfl rfl fun a hF => q_x (v := (.int .i64 t_11)) hF hS (ex_assign rfl) rfl rfl fun a hF => q_end (n_ib (n_sq (q_region (q_x (v := (.int .i64 i_4)) hF hS (ex_move rfl) rfl rfl fun a hF => q_x (v := (.int .i64 (w64 (i_4 + 1)))) hF hS (ex_ibin rfl rfl rfl) rfl rfl fun a hF => q_x (v := (.int .i64 (w64 (i_4 + 1)))) hF hS (ex_assign rfl) rfl rfl fun a hF => q_end ?_))))
    obtain rfl := someI hb1
    exact ⟨rfl, _, _, _, rfl, hF.sub ⟨rfl, rfl, rfl, rfl, trivial⟩, hS⟩
 ·rintro e a w ⟨a_12, b_13, rfl, rfl, hF, hS⟩
  refine x_ib (n_sq ?_)
  refine q_seq (q_region (q_x (v := (.int .i64 a_12)) hF hS (ex_move rfl) rfl rfl fun a hF => ?_))
  obtain ⟨t_14, ht_14, hr⟩ := bindS hr
  refine q_x (v := (.int .i64 t_14)) hF hS (ex_shl rfl rfl ht_14) rfl rfl fun a hF => q_x (v := (.int .i64 b_13)) hF hS (ex_move rfl) rfl rfl fun a hF => q_x (v := (.int .i64 (w64 (t_14 + b_13)))) hF hS (ex_ibin rfl rfl rfl) rfl rfl fun a hF => q_x (v := (.int .i64 (w64 (t_14 + b_13)))) hF hS (ex_assign rfl) rfl rfl fun a hF => q_end (n_sq (q_ret ?_))
  obtain rfl := someI hr
  exact ret_of hF hS rfl (.tmp rfl .nil) rfl

theorem c_spec_kBit (p_seed : Int) (p_i : Int) (r : Int) (hr : spec_kBit p_seed p_i = some r) (w0 : World) (m : Mem) (hv : Vis m w0) :
  Ret Tryz.prog 104 [(.int .i64 p_seed), (.int .i64 p_i)] w0 (fun v _ => v = (.int .i64 r)) := by
 unfold spec_kBit at hr
 refine ret_start Tryz.func104 rfl 16 rfl rfl m hv fun a hF hS => q_seq (q_region (q_x (v := (.int .i64 0)) hF hS (ex_assign rfl) rfl rfl fun a hF => q_end (n_sq (q_seq (q_region (q_x (v := (.int .i64 p_seed)) hF hS (ex_move rfl) rfl rfl fun a hF => q_x (v := (.int .i64 p_i)) hF hS (ex_move rfl) rfl rfl fun a hF => ?_))))))
 obtain ⟨t_1, ht_1, hr⟩ := bindS hr
 refine q_x (v := (.int .i64 t_1)) hF hS (ex_quo rfl rfl ht_1) rfl rfl fun a hF => q_do rfl fun _ hK => wp_buildSlice' (l := ([p_seed, t_1] : List Int)) (cells := [(.int .i64 p_seed), (.int .i64 t_1)]) hF hS Tryz.underlying26 inf3 rfl rfl (by kernel_rfl) rfl rfl rfl ⟨rfl, rfl, rfl⟩ rfl rfl fun a w q2 s2 hF hS h2 _ => hK _ _ ?_
 obtain ⟨m4, hl4, hv4, hz4⟩ := hS.lend
 obtain ⟨t_3, ht_3, hr⟩ := bindS hr
 refine q_call (vs := [s2.v]) hF hS Tryz.func105 (by kernel_rfl) rfl rfl rfl (c_spec_hInts ([p_seed, t_1] : List Int) t_3 ht_3 _ m4 hv4 s2 (h2.froz hl4 (hz4 0 _ rfl))) ?_
 rintro a w _ rfl hF hS
 refine q_x (v := (.int .i64 p_i)) hF hS (ex_move rfl) rfl rfl fun a hF => ?_
 obtain ⟨t_5, ht_5, hr⟩ := bindS hr
 refine q_x (v := (.int .i64 t_5)) hF hS (ex_rem rfl rfl ht_5) rfl rfl fun a hF => q_x (v := (.int .i64 (w64 (31 + t_5)))) hF hS (ex_ibin rfl rfl rfl) rfl rfl fun a hF => q_x (v := (.int .u64 (IntKind.wrap .u64 (w64 (31 + t_5))))) hF hS (ex_conv Tryz.underlying3 Tryz.underlying86 rfl) rfl rfl fun a hF => ?_
 obtain ⟨t_6, ht_6, hr⟩ := bindS hr
 refine q_x (v := (.int .i64 t_6)) hF hS (ex_shr rfl rfl ht_6) rfl rfl fun a hF => q_x (v := (.int .i64 (goBits .and .i64 t_6 1))) hF hS (ex_bits rfl rfl rfl) rfl rfl fun a hF => q_x (v := (.int .i64 (goBits .and .i64 t_6 1))) hF hS (ex_assign rfl) rfl rfl fun a hF => q_end (n_sq (q_ret ?_))
 obtain rfl := someI hr
 exact ret_of hF hS rfl (.tmp rfl .nil) rfl

theorem c_spec_kReader_bit (p_r : spec_kReader) (r : Int × spec_kReader) (hr : spec_kReader_bit p_r = some r) (w0 : World) (m : Mem) (b_p_r : Nat) (X : List Nat) (hS : St X w0 w0 m [[⟨b_p_r, [(.int .i64 p_r.s_.Seed), (.int .i64 p_r.s_.At), (.bool p_r.ok)], 126⟩]]) :
  RetX Tryz.prog 103 [(.pointer (some ⟨b_p_r, 0, none⟩))] w0 (fun v w => v = (.int .i64 r.1) ∧ St X w0 w m [[⟨b_p_r, [(.int .i64 r.2.s_.Seed), (.int .i64 r.2.s_.At), (.bool r.2.ok)], 126⟩]]) := by
 unfold spec_kReader_bit at hr
 refine ret_startX Tryz.func103 rfl 39 rfl rfl fun a hF => q_seq (q_region (q_x (v := (.int .i64 0)) hF hS (ex_assign rfl) rfl rfl fun a hF => q_end (n_sq (q_seq (q_seq (q_region (q_x (v := (.pointer (some ⟨b_p_r, 0, none⟩))) hF hS (ex_move rfl) rfl rfl fun a hF => q_x (v := (.pointer (some ⟨b_p_r, 0, none⟩))) hF hS (ex_nilCheck rfl) rfl rfl fun a hF => q_x (v := (.pointer (some ⟨b_p_r, 0, none⟩))) hF hS (ex_fieldAddr Tryz.underlying126 rfl sz123 rfl rfl) rfl rfl fun a hF => q_x (v := (.pointer (some ⟨b_p_r, 1, none⟩))) hF hS (ex_fieldAddr Tryz.underlying123 rfl sz3 rfl rfl) rfl rfl fun a hF => q_x (v := (.int .i64 p_r.s_.At)) hF hS (ex_load1 0 0 Tryz.underlying3 rfl rfl rfl rfl) rfl rfl fun a hF => q_x (v := (.bool (decide (1000000 ≤ p_r.s_.At)))) hF hS (ex_ibin rfl rfl rfl) rfl rfl fun a hF => q_end (n_sq ?_))))))))
 obtain ⟨p_r_1, hj1, hr⟩ := bindS hr
 refine q_join (fun a w => Fr a 39 [(0, (.pointer (some ⟨b_p_r, 0, none⟩)))] ∧ St X w0 w m [[⟨b_p_r, [(.int .i64 p_r_1.s_.Seed), (.int .i64 p_r_1.s_.At), (.bool p_r_1.ok)], 126⟩]]) ?_ ?_
 ·rcases bcase (decide (1000000 ≤ p_r.s_.At)) with hc2 | hc2
  ·have hj1 := cond_f hc2 hj1
   refine q_cond_f hF rfl hc2 (q_skipc (n_jn ?_))
   obtain rfl := someI hj1
   exact ⟨hF.sub ⟨rfl, trivial⟩, hS⟩
  ·have hj1 := cond_t hc2 hj1
   refine q_cond_t hF rfl hc2 (q_region (q_x (v := (.pointer (some ⟨b_p_r, 0, none⟩))) hF hS (ex_move rfl) rfl rfl fun a hF => q_x (v := (.pointer (some ⟨b_p_r, 0, none⟩))) hF hS (ex_nilCheck rfl) rfl rfl fun a hF => q_x (v := (.pointer (some ⟨b_p_r, 2, none⟩))) hF hS (ex_fieldAddr Tryz.underlying126 rfl sz4 rfl rfl) rfl rfl fun a hF => q_store (vs := [(.bool false)]) (cs' := [(.int .i64 p_r.s_.Seed), (.int .i64 p_r.s_.At), (.bool false)]) 0 0 hF hS sz4 rfl rfl rfl rfl rfl rfl rfl rfl fun a w hF hS => q_end (n_jn ?_)))
   obtain rfl := someI hj1
   exact ⟨hF.sub ⟨rfl, trivial⟩, hS⟩
 ·rintro a w ⟨hF, hS⟩
  refine n_sq ?_
  refine q_seq (q_seq (q_region (q_x (v := (.pointer (some ⟨b_p_r, 0, none⟩))) hF hS (ex_move rfl) rfl rfl fun a hF => q_x (v := (.pointer (some ⟨b_p_r, 0, none⟩))) hF hS (ex_nilCheck rfl) rfl rfl fun a hF => q_x (v := (.pointer (some ⟨b_p_r, 2, none⟩))) hF hS (ex_fieldAddr Tryz.underlying126 rfl sz4 rfl rfl) rfl rfl fun a hF => q_x (v := (.bool p_r_1.ok)) hF hS (ex_load1 0 0 Tryz.underlying4 rfl rfl rfl rfl) rfl rfl fun a hF => q_x (v := (.bool (!p_r_1.ok))) hF hS (ex_not rfl) rfl rfl fun a hF => q_end (n_sq ?_))))
  rcases bcase (!p_r_1.ok) with hc3 | hc3
  ·have hr := cond_f hc3 hr
   refine q_cond_f hF rfl hc3 (q_skipc (n_sq (q_seq (e_region ⟨[], []⟩ mixed fun w' hw' => ?_))))
   have hS := hS.below hw'
   refine e_p (v := (.pointer (some ⟨b_p_r, 0, none⟩))) 0 hF rfl (ex_move rfl) rfl rfl (by kernel_rfl) (by kernel_rfl) (by kernel_rfl) fun a hF => e_p (v := (.pointer (some ⟨b_p_r, 0, none⟩))) 1 hF rfl (ex_nilCheck rfl) rfl rfl (by kernel_rfl) (by kernel_rfl) (by kernel_rfl) fun a hF => e_p (v := (.pointer (some ⟨b_p_r, 0, none⟩))) 2 hF rfl (ex_fieldAddr Tryz.underlying126 rfl sz123 rfl rfl) rfl rfl (by kernel_rfl) (by kernel_rfl) (by kernel_rfl) fun a hF => e_p (v := (.pointer (some ⟨b_p_r, 0, none⟩))) 3 hF rfl (ex_fieldAddr Tryz.underlying123 rfl sz3 rfl rfl) rfl rfl (by kernel_rfl) (by kernel_rfl) (by kernel_rfl) fun a hF => e_x (v := (.int .i64 p_r_1.s_.Seed)) 4 hF hS rfl (ex_load1 0 0 Tryz.underlying3 rfl rfl rfl rfl) rfl rfl (by kernel_rfl) (by kernel_rfl) (by kernel_rfl) (by kernel_rfl) fun a hF => e_p (v := (.pointer (some ⟨b_p_r, 0, none⟩))) 5 hF rfl (ex_move rfl) rfl rfl (by kernel_rfl) (by kernel_rfl) (by kernel_rfl) fun a hF => e_p (v := (.pointer (some ⟨b_p_r, 0, none⟩))) 6 hF rfl (ex_nilCheck rfl) rfl rfl (by kernel_rfl) (by kernel_rfl) (by kernel_rfl) fun a hF => e_p (v := (.pointer (some ⟨b_p_r, 0, none⟩))) 7 hF rfl (ex_fieldAddr Tryz.underlying126 rfl sz123 rfl rfl) rfl rfl (by kernel_rfl) (by kernel_rfl) (by kernel_rfl) fun a hF => e_p (v := (.pointer (some ⟨b_p_r, 1, none⟩))) 8 hF rfl (ex_fieldAddr Tryz.underlying123 rfl sz3 rfl rfl) rfl rfl (by kernel_rfl) (by kernel_rfl) (by kernel_rfl) fun a hF => e_x (v := (.int .i64 p_r_1.s_.At)) 9 hF hS rfl (ex_load1 0 0 Tryz.underlying3 rfl rfl rfl rfl) rfl rfl (by kernel_rfl) (by kernel_rfl) (by kernel_rfl) (by kernel_rfl) fun a hF => e_one 10 (by kernel_rfl) ?_
   obtain ⟨t_2, ht_2, hr⟩ := bindS hr
   refine e_call (vs := [(.int .i64 p_r_1.s_.Seed), (.int .i64 p_r_1.s_.At)]) hF hS rfl Tryz.func104 (by kernel_rfl) rfl rfl rfl (c_spec_kBit p_r_1.s_.Seed p_r_1.s_.At t_2 ht_2 _ m hS.vis) ?_
   rintro a w _ rfl hF hS
   refine e_p (v := (.int .i64 t_2)) 11 hF rfl (ex_assign rfl) rfl rfl (by kernel_rfl) (by kernel_rfl) (by kernel_rfl) fun a hF => e_end (by kernel_rfl) (n_sq ?_) _
   refine q_seq (q_region (q_x (v := (.pointer (some ⟨b_p_r, 0, none⟩))) hF hS (ex_move rfl) rfl rfl fun a hF => q_x (v := (.pointer (some ⟨b_p_r, 0, none⟩))) hF hS (ex_nilCheck rfl) rfl rfl fun a hF => q_x (v := (.pointer (some ⟨b_p_r, 0, none⟩))) hF hS (ex_fieldAddr Tryz.underlying126 rfl sz123 rfl rfl) rfl rfl fun a hF => q_x (v := (.pointer (some ⟨b_p_r, 1, none⟩))) hF hS (ex_fieldAddr Tryz.underlying123 rfl sz3 rfl rfl) rfl rfl fun a hF => q_x (v := (.int .i64 p_r_1.s_.At)) hF hS (ex_load1 0 0 Tryz.underlying3 rfl rfl rfl rfl) rfl rfl fun a hF => q_x (v := (.int .i64 (w64 (p_r_1.s_.At + 1)))) hF hS (ex_ibin rfl rfl rfl) rfl rfl fun a hF => q_x (v := (.pointer (some ⟨b_p_r, 0, none⟩))) hF hS (ex_nilCheck rfl) rfl rfl fun a hF => q_x (v := (.pointer (some ⟨b_p_r, 0, none⟩))) hF hS (ex_fieldAddr Tryz.underlying126 rfl sz123 rfl rfl) rfl rfl fun a hF => q_x (v := (.pointer (some ⟨b_p_r, 1, none⟩))) hF hS (ex_fieldAddr Tryz.underlying123 rfl sz3 rfl rfl) rfl rfl fun a hF => q_store (vs := [(.int .i64 (w64 (p_r_1.s_.At + 1)))]) (cs' := [(.int .i64 p_r_1.s_.Seed), (.int .i64 (w64 (p_r_1.s_.At + 1))), (.bool p_r_1.ok)]) 0 0 hF hS sz3 rfl rfl rfl rfl rfl rfl rfl rfl fun a w hF hS => q_end (n_sq (q_seq (q_region (q_x (v := (.int .i64 t_2)) hF hS (ex_move rfl) rfl rfl fun a hF => q_x (v := (.int .i64 t_2)) hF hS (ex_assign rfl) rfl rfl fun a hF => q_end (n_sq (q_ret ?_))))))))
   obtain rfl := someI hr
   exact ret_ofX hF hS rfl (.tmp rfl .nil) ⟨rfl, hS.sel [0] (by decide)⟩
  ·have hr := cond_t hc3 hr
   refine q_cond_t hF rfl hc3 (q_seq (q_region (q_x (v := (.int .i64 0)) hF hS (ex_assign rfl) rfl rfl fun a hF => q_end (n_sq (q_ret (r_sq ?_))))))
   obtain rfl := someI hr
   exact ret_ofX hF hS rfl (.tmp rfl .nil) ⟨rfl, hS.sel [0] (by decide)⟩

theorem c_spec_kReader_below (p_r : spec_kReader) (p_n : Int) (r : Int × spec_kReader) (hr : spec_kReader_below p_r p_n = some r) (w0 : World) (m : Mem) (b_p_r : Nat) (X : List Nat) (hS : St X w0 w0 m [[⟨b_p_r, [(.int .i64 p_r.s_.Seed), (.int .i64 p_r.s_.At), (.bool p_r.ok)], 126⟩]]) :
  RetX Tryz.prog 102 [(.pointer (some ⟨b_p_r, 0, none⟩)), (.int .i64 p_n)] w0 (fun v w => v = (.int .i64 r.1) ∧ St X w0 w m [[⟨b_p_r, [(.int .i64 r.2.s_.Seed), (.int .i64 r.2.s_.At), (.bool r.2.ok)], 126⟩]]) := by
 unfold spec_kReader_below at hr
 refine ret_startX Tryz.func102 rfl 42 rfl rfl fun a hF => q_seq (q_region (q_x (v := (.int .i64 0)) hF hS (ex_assign rfl) rfl rfl fun a hF => q_end (n_sq (q_seq (q_region (q_x (v := (.int .i64 0)) hF hS (ex_assign rfl) rfl rfl fun a hF => q_end (n_sq (q_seq (q_block ?_)))))))))
 obtain ⟨k_3, hl1, hr⟩ := bindS hr
 refine q_loop (fun (k_1 : Int) a w => Fr a 42 [(0, (.pointer (some ⟨b_p_r, 0, none⟩))), (1, (.int .i64 p_n)), (5, (.int .i64 k_1))] ∧ St X w0 w m [[⟨b_p_r, [(.int .i64 p_r.s_.Seed), (.int .i64 p_r.s_.At), (.bool p_r.ok)], 126⟩]]) (fun (k_3 : Int) e a w => e = .exit 0 ∧ Fr a 42 [(0, (.pointer (some ⟨b_p_r, 0, none⟩))), (1, (.int .i64 p_n)), (5, (.int .i64 k_3))] ∧ St X w0 w m [[⟨b_p_r, [(.int .i64 p_r.s_.Seed), (.int .i64 p_r.s_.At), (.bool p_r.ok)], 126⟩]]) hl1 ⟨hF.sub ⟨rfl, rfl, rfl, trivial⟩, hS⟩ ?_ ?_
 ·clear hF hS
  rintro k_1 a w st ⟨hF, hS⟩ hb1
  unfold spec_kReader_below_l1 at hb1
  refine q_seq (q_seq (q_region (q_x (v := (.int .i64 k_1)) hF hS (ex_move rfl) rfl rfl fun a hF => q_x (v := (.int .u64 (IntKind.wrap .u64 k_1))) hF hS (ex_conv Tryz.underlying3 Tryz.underlying86 rfl) rfl rfl fun a hF => ?_)))
  obtain ⟨t_2, ht_2, hb1⟩ := bindS hb1
  refine q_x (v := (.int .i64 t_2)) hF hS (ex_shl rfl rfl ht_2) rfl rfl fun a hF => q_x (v := (.int .i64 p_n)) hF hS (ex_move rfl) rfl rfl fun a hF => q_x (v := (.bool (decide (t_2 < p_n)))) hF hS (ex_ibin rfl rfl rfl) rfl rfl fun a hF => q_end (n_sq ?_)
  rcases bcase (decide (t_2 < p_n)) with hc2 | hc2
  ·have hb1 := cond_f hc2 hb1
   refine q_cond_f hF rfl hc2 (q_exit (x_sq ?_))
   obtain rfl := someI hb1
   exact ⟨nofun, .inl ⟨rfl, hF.sub ⟨rfl, rfl, rfl, trivial⟩, hS⟩⟩
  ·have hb1 := cond_t hc2 hb1
   refine q_cond_t hF rfl hc2 (q_skipc (n_sq (q_block (q_region (q_x (v := (.int .i64 k_1)) hF hS (ex_move rfl) rfl rfl fun a hF => q_x (v := (.int .i64 (w64 (k_1 + 1)))) hF hS (ex_ibin rfl rfl rfl) rfl rfl fun a hF => q_x (v := (.int .i64 (w64 (k_1 + 1)))) hF hS (ex_assign rfl) rfl rfl fun a hF => q_end (n_ib ?_))))))
   obtain rfl := someI hb1
   exact ⟨rfl, hF.sub ⟨rfl, rfl, rfl, trivial⟩, hS⟩
 ·rintro e a w ⟨rfl, hF, hS⟩
  refine x_ib (n_sq ?_)
  refine q_seq (q_seq (q_region (q_x (v := (.int .i64 0)) hF hS (ex_assign rfl) rfl rfl fun a hF => q_end (n_sq (q_block ?_)))))
  obtain ⟨o3, hl3, hr⟩ := bindS hr
  refine q_loop (fun (s : Int × spec_kReader) a w => ∃ try_4, ∃ p_r_5, s = (try_4, p_r_5) ∧ Fr a 42 [(0, (.pointer (some ⟨b_p_r, 0, none⟩))), (1, (.int .i64 p_n)), (5, (.int .i64 k_3)), (6, (.int .i64 try_4))] ∧ St X w0 w m [[⟨b_p_r, [(.int .i64 p_r_5.s_.Seed), (.int .i64 p_r_5.s_.At), (.bool p_r_5.ok)], 126⟩]]) (fun (o : (spec_kReader) ⊕ (Int × spec_kReader)) e a w => ∃ p_r_13, o = .inl p_r_13 ∧ e = .exit 2 ∧ Fr a 42 [(0, (.pointer (some ⟨b_p_r, 0, none⟩)))] ∧ St X w0 w m [[⟨b_p_r, [(.int .i64 p_r_13.s_.Seed), (.int .i64 p_r_13.s_.At), (.bool p_r_13.ok)], 126⟩]]) hl3 ⟨_, _, rfl, hF.sub ⟨rfl, rfl, rfl, rfl, trivial⟩, hS⟩ ?_ ?_
  ·clear hF hS
   rintro s a w st ⟨try_4, p_r_5, rfl, hF, hS⟩ hb3
   unfold spec_kReader_below_l2 at hb3
   refine q_seq (q_seq (q_region (q_x (v := (.int .i64 try_4)) hF hS (ex_move rfl) rfl rfl fun a hF => q_x (v := (.bool (decide (try_4 < 200)))) hF hS (ex_ibin rfl rfl rfl) rfl rfl fun a hF => q_end (n_sq ?_))))
   rcases bcase (decide (try_4 < 200)) with hc4 | hc4
   ·have hb3 := cond_f hc4 hb3
    refine q_cond_f hF rfl hc4 (q_exit (x_sq ?_))
    obtain rfl := someI hb3
    exact ⟨nofun, .inl ⟨_, rfl, rfl, hF.sub ⟨rfl, trivial⟩, hS⟩⟩
   ·have hb3 := cond_t hc4 hb3
    refine q_cond_t hF rfl hc4 (q_skipc (n_sq (q_seq (q_block (q_seq (q_region (q_x (v := (.int .i64 0)) hF hS (ex_assign rfl) rfl rfl fun a hF => q_end (n_sq (q_seq (q_seq (q_region (q_x (v := (.int .i64 0)) hF hS (ex_assign rfl) rfl rfl fun a hF => q_end (n_sq (q_block ?_))))))))))))))
    obtain ⟨o5, hl5, hb3⟩ := bindS hb3
    refine q_loop (fun (s : Int × Int × spec_kReader) a w => ∃ x_6, ∃ i_7, ∃ p_r_8, s = (x_6, i_7, p_r_8) ∧ Fr a 42 [(0, (.pointer (some ⟨b_p_r, 0, none⟩))), (1, (.int .i64 p_n)), (5, (.int .i64 k_3)), (6, (.int .i64 try_4)), (7, (.int .i64 x_6)), (8, (.int .i64 i_7))] ∧ St X w0 w m [[⟨b_p_r, [(.int .i64 p_r_8.s_.Seed), (.int .i64 p_r_8.s_.At), (.bool p_r_8.ok)], 126⟩]]) (fun (o : Int × spec_kReader) e a w => ∃ x_11, ∃ p_r_12, o = (x_11, p_r_12) ∧ e = .exit 4 ∧ Fr a 42 [(0, (.pointer (some ⟨b_p_r, 0, none⟩))), (1, (.int .i64 p_n)), (5, (.int .i64 k_3)), (6, (.int .i64 try_4)), (7, (.int .i64 x_11))] ∧ St X w0 w m [[⟨b_p_r, [(.int .i64 p_r_12.s_.Seed), (.int .i64 p_r_12.s_.At), (.bool p_r_12.ok)], 126⟩]]) hl5 ⟨_, _, _, rfl, hF.sub ⟨rfl, rfl, rfl, rfl, rfl, rfl, trivial⟩, hS⟩ ?_ ?_
    ·clear hF hS
     rintro s a w st ⟨x_6, i_7, p_r_8, rfl, hF, hS⟩ hb5
     unfold spec_kReader_below_l3 at hb5
     refine q_seq (q_seq (q_region (q_x (v := (.int .i64 i_7)) hF hS (ex_move rfl) rfl rfl fun a hF => q_x (v := (.int .i64 k_3)) hF hS (ex_move rfl) rfl rfl fun a hF => q_x (v := (.bool (decide (i_7 < k_3)))) hF hS (ex_ibin rfl rfl rfl) rfl rfl fun a hF => q_end (n_sq ?_))))
     rcases bcase (decide (i_7 < k_3)) with hc6 | hc6
     ·have hb5 := cond_f hc6 hb5
      refine q_cond_f hF rfl hc6 (q_exit (x_sq ?_))
      obtain rfl := someI hb5
      exact ⟨nofun, .inl ⟨_, _, rfl, rfl, hF.sub ⟨rfl, rfl, rfl, rfl, rfl, trivial⟩, hS⟩⟩
     ·have hb5 := cond_t hc6 hb5
      refine q_cond_t hF rfl hc6 (q_skipc (n_sq (q_seq (q_block (q_region (q_x (v := (.int .i64 x_6)) hF hS (ex_move rfl) rfl rfl fun a hF => q_x (v := (.int .i64 (w64 (2 * x_6)))) hF hS (ex_ibin rfl rfl rfl) rfl rfl fun a hF => q_x (v := (.pointer (some ⟨b_p_r, 0, none⟩))) hF hS (ex_move rfl) rfl rfl fun a hF => ?_))))))
      have hS9 : St _ _ _ _ ([[⟨b_p_r, [(.int .i64 p_r_8.s_.Seed), (.int .i64 p_r_8.s_.At), (.bool p_r_8.ok)], 126⟩]] ++ []) := hS
      have hE9 := hS9.enter
      obtain ⟨t_10, ht_10, hb5⟩ := bindS hb5
      refine q_do rfl fun _ hK => wp_callX (vs := [(.pointer (some ⟨b_p_r, 0, none⟩))]) hF Tryz.func103 (by kernel_rfl) rfl rfl rfl (c_spec_kReader_bit p_r_8 t_10 ht_10 _ m b_p_r _ hE9) fun a w _ hR hF => hK _ _ ?_
      obtain ⟨rfl, hR9⟩ := hR
      have hS : St _ _ _ _ [[⟨b_p_r, [(.int .i64 t_10.2.s_.Seed), (.int .i64 t_10.2.s_.At), (.bool t_10.2.ok)], 126⟩]] := hS9.leaveF hR9
      refine q_x (v := (.int .i64 (w64 ((w64 (2 * x_6)) + t_10.1)))) hF hS (ex_ibin rfl rfl rfl) rfl rfl fun a hF => q_x (v := (.int .i64 (w64 ((w64 (2 * x_6)) + t_10.1)))) hF hS (ex_assign rfl) rfl rfl fun a hF => q_end (n_ib (n_sq (q_region (q_x (v := (.int .i64 i_7)) hF hS (ex_move rfl) rfl rfl fun a hF => q_x (v := (.int .i64 (w64 (i_7 + 1)))) hF hS (ex_ibin rfl rfl rfl) rfl rfl fun a hF => q_x (v := (.int .i64 (w64 (i_7 + 1)))) hF hS (ex_assign rfl) rfl rfl fun a hF => q_end ?_))))
      obtain rfl := someI hb5
      exact ⟨rfl, _, _, _, rfl, hF.sub ⟨rfl, rfl, rfl, rfl, rfl, rfl, trivial⟩, hS⟩
    ·rintro e a w ⟨x_11, p_r_12, rfl, rfl, hF, hS⟩
     refine x_ib (n_sq ?_)
     refine q_seq (q_seq (q_region (q_x (v := (.pointer (some ⟨b_p_r, 0, none⟩))) hF hS (ex_move rfl) rfl rfl fun a hF => q_x (v := (.pointer (some ⟨b_p_r, 0, none⟩))) hF hS (ex_nilCheck rfl) rfl rfl fun a hF => q_x (v := (.pointer (some ⟨b_p_r, 2, none⟩))) hF hS (ex_fieldAddr Tryz.underlying126 rfl sz4 rfl rfl) rfl rfl fun a hF => q_x (v := (.bool p_r_12.ok)) hF hS (ex_load1 0 0 Tryz.underlying4 rfl rfl rfl rfl) rfl rfl fun a hF => q_x (v := (.bool (!p_r_12.ok))) hF hS (ex_not rfl) rfl rfl fun a hF => q_end (n_sq ?_))))
     rcases bcase (!p_r_12.ok) with hc7 | hc7
     ·have hb3 := cond_f hc7 hb3
      refine q_cond_f hF rfl hc7 (q_skipc (n_sq (q_seq (q_region (q_x (v := (.int .i64 x_11)) hF hS (ex_move rfl) rfl rfl fun a hF => q_x (v := (.int .i64 p_n)) hF hS (ex_move rfl) rfl rfl fun a hF => q_x (v := (.bool (decide (x_11 < p_n)))) hF hS (ex_ibin rfl rfl rfl) rfl rfl fun a hF => q_end (n_sq ?_))))))
      rcases bcase (decide (x_11 < p_n)) with hc8 | hc8
      ·have hb3 := cond_f hc8 hb3
       refine q_cond_f hF rfl hc8 (q_skipc (n_ib (n_sq (q_region (q_x (v := (.int .i64 try_4)) hF hS (ex_move rfl) rfl rfl fun a hF => q_x (v := (.int .i64 (w64 (try_4 + 1)))) hF hS (ex_ibin rfl rfl rfl) rfl rfl fun a hF => q_x (v := (.int .i64 (w64 (try_4 + 1)))) hF hS (ex_assign rfl) rfl rfl fun a hF => q_end ?_)))))
       obtain rfl := someI hb3
       exact ⟨rfl, _, _, rfl, hF.sub ⟨rfl, rfl, rfl, rfl, trivial⟩, hS⟩
      ·have hb3 := cond_t hc8 hb3
       refine q_cond_t hF rfl hc8 (q_seq (q_region (q_x (v := (.int .i64 x_11)) hF hS (ex_move rfl) rfl rfl fun a hF => q_x (v := (.int .i64 x_11)) hF hS (ex_assign rfl) rfl rfl fun a hF => q_end (n_sq (q_ret (r_ib (r_sq ?_)))))))
       obtain rfl := someI hb3
       refine ⟨nofun, .inr fun ho => ?_⟩
       subst ho
       refine r_ib (r_sq ?_)
       obtain rfl := someI hr
       exact ret_ofX hF hS rfl (.tmp rfl .nil) ⟨rfl, hS.sel [0] (by decide)⟩
     ·have hb3 := cond_t hc7 hb3
      refine q_cond_t hF rfl hc7 (q_seq (q_region (q_x (v := (.int .i64 0)) hF hS (ex_assign rfl) rfl rfl fun a hF => q_end (n_sq (q_ret (r_sq (r_ib (r_sq ?_))))))))
      obtain rfl := someI hb3
      refine ⟨nofun, .inr fun ho => ?_⟩
      subst ho
      refine r_ib (r_sq ?_)
      obtain rfl := someI hr
      exact ret_ofX hF hS rfl (.tmp rfl .nil) ⟨rfl, hS.sel [0] (by decide)⟩
  ·rintro e a w ⟨p_r_13, rfl, rfl, hF, hS⟩
   refine x_ib (n_sq ?_)
   refine q_seq (q_region (q_x (v := (.pointer (some ⟨b_p_r, 0, none⟩))) hF hS (ex_move rfl) rfl rfl fun a hF => q_x (v := (.pointer (some ⟨b_p_r, 0, none⟩))) hF hS (ex_nilCheck rfl) rfl rfl fun a hF => q_x (v := (.pointer (some ⟨b_p_r, 2, none⟩))) hF hS (ex_fieldAddr Tryz.underlying126 rfl sz4 rfl rfl) rfl rfl fun a hF => q_store (vs := [(.bool false)]) (cs' := [(.int .i64 p_r_13.s_.Seed), (.int .i64 p_r_13.s_.At), (.bool false)]) 0 0 hF hS sz4 rfl rfl rfl rfl rfl rfl rfl rfl fun a w hF hS => q_end (n_sq (q_seq (q_region (q_x (v := (.int .i64 0)) hF hS (ex_assign rfl) rfl rfl fun a hF => q_end (n_sq (q_ret ?_))))))))
   obtain rfl := someI hr
   exact ret_ofX hF hS rfl (.tmp rfl .nil) ⟨rfl, hS.sel [0] (by decide)⟩

theorem c_spec_kReader_shuffle (p_r : spec_kReader) (p_n : Int) (r : (List Int) × spec_kReader) (hr : spec_kReader_shuffle p_r p_n = some r) (w0 : World) (m : Mem) (b_p_r : Nat) (X : List Nat) (hS : St X w0 w0 m [[⟨b_p_r, [(.int .i64 p_r.s_.Seed), (.int .i64 p_r.s_.At), (.bool p_r.ok)], 126⟩]]) :
  RetX Tryz.prog 97 [(.pointer (some ⟨b_p_r, 0, none⟩)), (.int .i64 p_n)] w0 (fun v w => ∃ (q0' : Piece) (s0' : Sl), v = s0'.v ∧ St X w0 w m [[⟨b_p_r, [(.int .i64 r.2.s_.Seed), (.int .i64 r.2.s_.At), (.bool r.2.ok)], 126⟩], q0'] ∧ OwnL m 3 q0' s0' r.1) := by
 unfold spec_kReader_shuffle at hr
 refine ret_startX Tryz.func97 rfl 45 rfl rfl fun a hF => q_seq (q_region (q_x (v := nilS.v) hF hS (ex_assign rfl) rfl rfl fun a hF => q_end (n_sq (q_seq (q_region (q_x (v := nilS.v) hF hS (ex_assign rfl) rfl rfl fun a hF => q_end (n_sq (q_seq (q_seq (q_region (q_x (v := (.int .i64 0)) hF hS (ex_assign rfl) rfl rfl fun a hF => q_end (n_sq (q_block ?_)))))))))))))
 obtain ⟨out_7, hl1, hr⟩ := bindS hr
 refine q_loop (fun (s : (List Int) × Int) a w => ∃ (q2 : Piece), ∃ (s2 : Sl), ∃ out_1, ∃ i_3, s = (out_1, i_3) ∧ Fr a 45 [(0, (.pointer (some ⟨b_p_r, 0, none⟩))), (1, (.int .i64 p_n)), (5, s2.v), (6, (.int .i64 i_3))] ∧ St X w0 w m [q2, [⟨b_p_r, [(.int .i64 p_r.s_.Seed), (.int .i64 p_r.s_.At), (.bool p_r.ok)], 126⟩]] ∧ OwnL m 3 q2 s2 out_1) (fun (out_7 : (List Int)) e a w => ∃ (q8 : Piece), ∃ (s8 : Sl), e = .exit 0 ∧ Fr a 45 [(0, (.pointer (some ⟨b_p_r, 0, none⟩))), (1, (.int .i64 p_n)), (5, s8.v)] ∧ St X w0 w m [q8, [⟨b_p_r, [(.int .i64 p_r.s_.Seed), (.int .i64 p_r.s_.At), (.bool p_r.ok)], 126⟩]] ∧ OwnL m 3 q8 s8 out_7) hl1 ⟨[], nilS, _, _, rfl, hF.sub ⟨rfl, rfl, rfl, rfl, trivial⟩, hS.sel [1, 0] (by decide), (OwnL.nil (α := Int) m 3)⟩ ?_ ?_
 ·clear hF hS
  rintro s a w st ⟨q2, s2, out_1, i_3, rfl, hF, hS, h2⟩ hb1
  unfold spec_kReader_shuffle_l1 at hb1
  refine q_seq (q_seq (q_region (q_x (v := (.int .i64 i_3)) hF hS (ex_move rfl) rfl rfl fun a hF => q_x (v := (.int .i64 p_n)) hF hS (ex_move rfl) rfl rfl fun a hF => q_x (v := (.bool (decide (i_3 < p_n)))) hF hS (ex_ibin rfl rfl rfl) rfl rfl fun a hF => q_end (n_sq ?_))))
  rcases bcase (decide (i_3 < p_n)) with hc2 | hc2
  ·have hb1 := cond_f hc2 hb1
   refine q_cond_f hF rfl hc2 (q_exit (x_sq ?_))
   obtain rfl := someI hb1
   exact ⟨nofun, .inl ⟨q2, s2, rfl, hF.sub ⟨rfl, rfl, rfl, trivial⟩, hS, h2⟩⟩
  ·have hb1 := cond_t hc2 hb1
   refine q_cond_t hF rfl hc2 (q_skipc (n_sq (q_seq (q_block (q_region (q_x (v := s2.v) hF hS (ex_move rfl) rfl rfl fun a hF => q_x (v := (.int .i64 i_3)) hF hS (ex_move rfl) rfl rfl fun a hF => q_do rfl fun _ hK => wp_buildSlice' (l := ([i_3] : List Int)) (cells := [(.int .i64 i_3)]) hF hS Tryz.underlying26 inf3 rfl rfl (by kernel_rfl) rfl rfl rfl ⟨rfl, rfl⟩ rfl rfl fun a w q4 s4 hF hS h4 _ => hK _ _ ?_))))))
   have hS : St _ _ _ _ [q2, q4, [⟨b_p_r, [(.int .i64 p_r.s_.Seed), (.int .i64 p_r.s_.At), (.bool p_r.ok)], 126⟩]] := hS.sel [1, 0, 2] (by decide)
   obtain ⟨l_5, hl_5, hb1⟩ := bindS hb1
   refine q_do rfl fun _ hK => wp_append hF hS h2 Tryz.underlying26 inf3 rfl rfl rfl rfl (h4.vw hS (j := 1) rfl) rfl (by decide) hl_5 rfl fun a w q6 s6 hF hS h6 => hK _ _ (q_x (v := s6.v) hF hS (ex_assign rfl) rfl rfl fun a hF => q_end (n_ib (n_sq (q_region (q_x (v := (.int .i64 i_3)) hF hS (ex_move rfl) rfl rfl fun a hF => q_x (v := (.int .i64 (w64 (i_3 + 1)))) hF hS (ex_ibin rfl rfl rfl) rfl rfl fun a hF => q_x (v := (.int .i64 (w64 (i_3 + 1)))) hF hS (ex_assign rfl) rfl rfl fun a hF => q_end ?_)))))
   obtain rfl := someI hb1
   exact ⟨rfl, q6, s6, _, _, rfl, hF.sub ⟨rfl, rfl, rfl, rfl, trivial⟩, hS.mask [true, false, true], h6⟩
 ·rintro e a w ⟨q8, s8, rfl, hF, hS, h8⟩
  refine x_ib (n_sq ?_)
  refine q_seq (q_seq (q_region (q_x (v := (.int .i64 p_n)) hF hS (ex_move rfl) rfl rfl fun a hF => q_x (v := (.int .i64 (w64 (p_n - 1)))) hF hS (ex_ibin rfl rfl rfl) rfl rfl fun a hF => q_x (v := (.int .i64 (w64 (p_n - 1)))) hF hS (ex_assign rfl) rfl rfl fun a hF => q_end (n_sq (q_block ?_)))))
  obtain ⟨o3, hl3, hr⟩ := bindS hr
  refine q_loop (fun (s : (List Int) × Int × spec_kReader) a w => ∃ (q10 : Piece), ∃ out_9, ∃ k_11, ∃ p_r_12, s = (out_9, k_11, p_r_12) ∧ Fr a 45 [(0, (.pointer (some ⟨b_p_r, 0, none⟩))), (5, s8.v), (7, (.int .i64 k_11))] ∧ St X w0 w m [q10, [⟨b_p_r, [(.int .i64 p_r_12.s_.Seed), (.int .i64 p_r_12.s_.At), (.bool p_r_12.ok)], 126⟩]] ∧ OwnL m 3 q10 s8 out_9) (fun (o : (List Int) × spec_kReader) e a w => ∃ (q26 : Piece), ∃ out_25, ∃ p_r_27, o = (out_25, p_r_27) ∧ e = .exit 2 ∧ Fr a 45 [(5, s8.v)] ∧ St X w0 w m [q26, [⟨b_p_r, [(.int .i64 p_r_27.s_.Seed), (.int .i64 p_r_27.s_.At), (.bool p_r_27.ok)], 126⟩]] ∧ OwnL m 3 q26 s8 out_25) hl3 ⟨q8, _, _, _, rfl, hF.sub ⟨rfl, rfl, rfl, trivial⟩, hS, h8⟩ ?_ ?_
  ·clear hF hS
   rintro s a w st ⟨q10, out_9, k_11, p_r_12, rfl, hF, hS, h10⟩ hb3
   unfold spec_kReader_shuffle_l2 at hb3
   refine q_seq (q_seq (q_region (q_x (v := (.int .i64 k_11)) hF hS (ex_move rfl) rfl rfl fun a hF => q_x (v := (.bool (decide (1 ≤ k_11)))) hF hS (ex_ibin rfl rfl rfl) rfl rfl fun a hF => q_end (n_sq ?_))))
   rcases bcase (decide (1 ≤ k_11)) with hc4 | hc4
   ·have hb3 := cond_f hc4 hb3
    refine q_cond_f hF rfl hc4 (q_exit (x_sq ?_))
    obtain rfl := someI hb3
    exact ⟨nofun, .inl ⟨q10, _, _, rfl, rfl, hF.sub ⟨rfl, trivial⟩, hS, h10⟩⟩
   ·have hb3 := cond_t hc4 hb3
    refine q_cond_t hF rfl hc4 (q_skipc (n_sq (q_seq (q_block (q_seq (q_region (q_x (v := (.pointer (some ⟨b_p_r, 0, none⟩))) hF hS (ex_move rfl) rfl rfl fun a hF => q_x (v := (.int .i64 k_11)) hF hS (ex_move rfl) rfl rfl fun a hF => q_x (v := (.int .i64 (w64 (k_11 + 1)))) hF hS (ex_ibin rfl rfl rfl) rfl rfl fun a hF => ?_)))))))
    have hS : St _ _ _ _ [[⟨b_p_r, [(.int .i64 p_r_12.s_.Seed), (.int .i64 p_r_12.s_.At), (.bool p_r_12.ok)], 126⟩], q10] := hS.sel [1, 0] (by decide)
    have hS13 : St _ _ _ _ ([[⟨b_p_r, [(.int .i64 p_r_12.s_.Seed), (.int .i64 p_r_12.s_.At), (.bool p_r_12.ok)], 126⟩]] ++ [q10]) := hS
    have hE13 := hS13.enter
    obtain ⟨t_14, ht_14, hb3⟩ := bindS hb3
    refine q_do rfl fun _ hK => wp_callX (vs := [(.pointer (some ⟨b_p_r, 0, none⟩)), (.int .i64 (w64 (k_11 + 1)))]) hF Tryz.func102 (by kernel_rfl) rfl rfl rfl (c_spec_kReader_below p_r_12 (w64 (k_11 + 1)) t_14 ht_14 _ m b_p_r _ hE13) fun a w _ hR hF => hK _ _ ?_
    obtain ⟨rfl, hR13⟩ := hR
    have hS : St _ _ _ _ [[⟨b_p_r, [(.int .i64 t_14.2.s_.Seed), (.int .i64 t_14.2.s_.At), (.bool t_14.2.ok)], 126⟩], q10] := hS13.leaveF hR13
    refine q_x (v := (.int .i64 t_14.1)) hF hS (ex_assign rfl) rfl rfl fun a hF => q_end (n_sq (q_seq (q_region (q_x (v := s8.v) hF hS (ex_move rfl) rfl rfl fun a hF => q_x (v := (.int .i64 k_11)) hF hS (ex_move rfl) rfl rfl fun a hF => ?_))))
    obtain ⟨e_15, he_15, hb3⟩ := bindS hb3
    obtain ⟨vs16, at16, d16⟩ := h10.at he_15 1 rfl
    obtain rfl : vs16 = [(.int .i64 e_15)] := d16
    refine q_x (v := (elP s8 (k_11.toNat * 1))) hF hS (ex_indexAddr Tryz.underlying26 sz3 rfl rfl (h10.idx he_15)) rfl rfl fun a hF => q_x (v := (.int .i64 e_15)) hF hS (ex_loadE1 0 Tryz.underlying3 rfl rfl (at16.at 1 rfl) rfl rfl) rfl rfl fun a hF => q_x (v := (.int .i64 e_15)) hF hS (ex_assign rfl) rfl rfl fun a hF => q_end (n_sq (q_seq (q_region (q_x (v := s8.v) hF hS (ex_move rfl) rfl rfl fun a hF => q_x (v := (.int .i64 k_11)) hF hS (ex_move rfl) rfl rfl fun a hF => q_x (v := s8.v) hF hS (ex_move rfl) rfl rfl fun a hF => q_x (v := (.int .i64 t_14.1)) hF hS (ex_move rfl) rfl rfl fun a hF => ?_))))
    obtain ⟨e_17, he_17, hb3⟩ := bindS hb3
    obtain ⟨vs18, at18, d18⟩ := h10.at he_17 1 rfl
    obtain rfl : vs18 = [(.int .i64 e_17)] := d18
    refine q_x (v := (elP s8 (t_14.1.toNat * 1))) hF hS (ex_indexAddr Tryz.underlying26 sz3 rfl rfl (h10.idx he_17)) rfl rfl fun a hF => q_x (v := (.int .i64 e_17)) hF hS (ex_loadE1 0 Tryz.underlying3 rfl rfl (at18.at 1 rfl) rfl rfl) rfl rfl fun a hF => ?_
    obtain ⟨e_19, he_19, hb3⟩ := bindS hb3
    obtain ⟨vs20, at20, d20⟩ := h10.at he_19 1 rfl
    obtain rfl : vs20 = [(.int .i64 e_19)] := d20
    refine q_x (v := (elP s8 (k_11.toNat * 1))) hF hS (ex_indexAddr Tryz.underlying26 sz3 rfl rfl (h10.idx he_19)) rfl rfl fun a hF => ?_
    have hS : St _ _ _ _ [q10, [⟨b_p_r, [(.int .i64 t_14.2.s_.Seed), (.int .i64 t_14.2.s_.At), (.bool t_14.2.ok)], 126⟩]] := hS.sel [1, 0] (by decide)
    refine q_do rfl fun _ hK => wp_storeE (e' := e_17) (us := [(.int .i64 e_17)]) (vs := [(.int .i64 e_19)]) 0 hF hS h10 sz3 rfl rfl rfl rfl rfl rfl rfl he_19 at20 rfl rfl rfl fun w q21 hS h21 => hK _ _ (q_end (n_sq (q_region (q_x (v := s8.v) hF hS (ex_move rfl) rfl rfl fun a hF => q_x (v := (.int .i64 t_14.1)) hF hS (ex_move rfl) rfl rfl fun a hF => q_x (v := (.int .i64 e_15)) hF hS (ex_move rfl) rfl rfl fun a hF => ?_))))
    obtain ⟨e_22, he_22, hb3⟩ := bindS hb3
    obtain ⟨vs23, at23, d23⟩ := h21.at he_22 1 rfl
    obtain rfl : vs23 = [(.int .i64 e_22)] := d23
    refine q_x (v := (elP s8 (t_14.1.toNat * 1))) hF hS (ex_indexAddr Tryz.underlying26 sz3 rfl rfl (h21.idx he_22)) rfl rfl fun a hF => q_do rfl fun _ hK => wp_storeE (e' := e_15) (us := [(.int .i64 e_15)]) (vs := [(.int .i64 e_22)]) 0 hF hS h21 sz3 rfl rfl rfl rfl rfl rfl rfl he_22 at23 rfl rfl rfl fun w q24 hS h24 => hK _ _ (q_end (n_ib (n_sq (q_region (q_x (v := (.int .i64 k_11)) hF hS (ex_move rfl) rfl rfl fun a hF => q_x (v := (.int .i64 (w64 (k_11 - 1)))) hF hS (ex_ibin rfl rfl rfl) rfl rfl fun a hF => q_x (v := (.int .i64 (w64 (k_11 - 1)))) hF hS (ex_assign rfl) rfl rfl fun a hF => q_end ?_)))))
    obtain rfl := someI hb3
    exact ⟨rfl, q24, _, _, _, rfl, hF.sub ⟨rfl, rfl, rfl, trivial⟩, hS, h24⟩
  ·rintro e a w ⟨q26, out_25, p_r_27, rfl, rfl, hF, hS, h26⟩
   refine x_ib (n_sq ?_)
   refine q_seq (q_region (q_x (v := s8.v) hF hS (ex_move rfl) rfl rfl fun a hF => q_x (v := s8.v) hF hS (ex_assign rfl) rfl rfl fun a hF => q_end (n_sq (q_ret ?_))))
   obtain rfl := someI hr
   exact ret_ofX hF hS rfl (.tmp rfl .nil) ⟨q26, s8, rfl, hS.sel [1, 0] (by decide), h26⟩

theorem c_spec_l1Has (p_l : List Int) (p_n : Int) (r : Bool) (hr : spec_l1Has p_l p_n = some r) (w0 : World) (m : Mem) (hv : Vis m w0) (s1 : Sl) (h1 : Rd m s1 p_l) :
  Ret Tryz.prog 98 [s1.v, (.int .i64 p_n)] w0 (fun v _ => v = (.bool r)) := by
 unfold spec_l1Has at hr
 refine ret_start Tryz.func98 rfl 17 rfl rfl m hv fun a hF hS => q_seq (q_region (q_x (v := (.bool false)) hF hS (ex_assign rfl) rfl rfl fun a hF => q_end (n_sq (q_seq (q_seq (q_region (q_x (v := s1.v) hF hS (ex_move rfl) rfl rfl fun a hF => q_x (v := (.int .i64 (goLen p_l))) hF hS (ex_len Tryz.underlying26 rfl h1.len) rfl rfl fun a hF => q_x (v := (.int .i64 0)) hF hS (ex_move rfl) rfl rfl fun a hF => q_end (n_sq (q_block ?_)))))))))
 obtain ⟨o1, hl1, hr⟩ := bindS hr
 refine q_loop (fun (t_2 : Int) a w => Fr a 17 [(1, (.int .i64 p_n)), (7, s1.v), (8, (.int .i64 (goLen p_l))), (9, (.int .i64 t_2))] ∧ St [] w0 w m []) (fun (o : (Unit) ⊕ (Bool)) e a w => o = .inl () ∧ e = .exit 0 ∧ Fr a 17 [] ∧ St [] w0 w m []) hl1 ⟨hF.sub ⟨rfl, rfl, rfl, rfl, trivial⟩, hS⟩ ?_ ?_
 ·clear hF hS
  rintro t_2 a w st ⟨hF, hS⟩ hb1
  unfold spec_l1Has_l1 at hb1
  refine q_seq (q_region (q_x (v := (.bool (decide (t_2 < (goLen p_l))))) hF hS (ex_ibin rfl rfl rfl) rfl rfl fun a hF => q_end (n_sq (q_seq ?_))))
  rcases bcase (decide (t_2 < (goLen p_l))) with hc2 | hc2
  ·have hb1 := cond_f hc2 hb1
   refine q_cond_f hF rfl hc2 (q_exit (x_sq ?_))
   obtain rfl := someI hb1
   exact ⟨nofun, .inl ⟨rfl, rfl, hF.sub trivial, hS⟩⟩
  ·have hb1 := cond_t hc2 hb1
   refine q_cond_t hF rfl hc2 (q_skipc (n_sq (q_seq (q_block (q_seq (q_region ?_))))))
   obtain ⟨e_3, he_3, hb1⟩ := bindS hb1
   obtain ⟨vs4, at4, d4⟩ := h1.at he_3 1 rfl
   obtain rfl : vs4 = [(.int .i64 e_3)] := d4
   refine q_x (v := (elP s1 (t_2.toNat * 1))) hF hS (ex_indexAddr Tryz.underlying26 sz3 rfl rfl (h1.idx he_3)) rfl rfl fun a hF => q_x (v := (.int .i64 e_3)) hF hS (ex_loadE1 0 Tryz.underlying3 rfl rfl ((at4).at) rfl rfl) rfl rfl fun a hF => q_x (v := (.int .i64 e_3)) hF hS (ex_assign rfl) rfl rfl fun a hF => q_end (n_sq (q_seq (q_region (q_x (v := (.int .i64 e_3)) hF hS (ex_move rfl) rfl rfl fun a hF => q_x (v := (.int .i64 p_n)) hF hS (ex_move rfl) rfl rfl fun a hF => q_x (v := (.bool (e_3 == p_n))) hF hS (ex_ibin rfl rfl rfl) rfl rfl fun a hF => q_end (n_sq ?_)))))
   rcases bcase (e_3 == p_n) with hc3 | hc3
   ·have hb1 := cond_f hc3 hb1
    refine q_cond_f hF rfl hc3 (q_skipc (n_ib (n_sq (q_region (q_x (v := (.int .i64 (w64 (t_2 + 1)))) hF hS (ex_ibin rfl rfl rfl) rfl rfl fun a hF => q_x (v := (.int .i64 (w64 (t_2 + 1)))) hF hS (ex_move rfl) rfl rfl fun a hF => q_end ?_)))))
    obtain rfl := someI hb1
    exact ⟨rfl, hF.sub ⟨rfl, rfl, rfl, rfl, trivial⟩, hS⟩
   ·have hb1 := cond_t hc3 hb1
    refine q_cond_t hF rfl hc3 (q_seq (q_region (q_x (v := (.bool true)) hF hS (ex_assign rfl) rfl rfl fun a hF => q_end (n_sq (q_ret (r_ib (r_sq ?_)))))))
    obtain rfl := someI hb1
    refine ⟨nofun, .inr fun ho => ?_⟩
    subst ho
    refine r_ib (r_sq ?_)
    obtain rfl := someI hr
    exact ret_of hF hS rfl (.tmp rfl .nil) rfl
 ·rintro e a w ⟨rfl, rfl, hF, hS⟩
  refine x_ib (n_sq ?_)
  refine q_seq (q_region (q_x (v := (.bool false)) hF hS (ex_assign rfl) rfl rfl fun a hF => q_end (n_sq (q_ret ?_))))
  obtain rfl := someI hr
  exact ret_of hF hS rfl (.tmp rfl .nil) rfl

end Go.Proofs.YtebjhiflnemkhaaGreat
