/- The walks of the functions: each returns what its plain function says. -/
import Derived.Test.YtebjhiflnemkhaaGreatDoorDWalks1
namespace Go.Proofs.YtebjhiflnemkhaaGreatDoor
open Go.Gx Go.Gx.F Go.RowKit
set_option linter.all false
set_option maxRecDepth 10000


theorem c_spec_sGood (p_s : List impl_Variable) (r : Bool) (hr : spec_sGood p_s = some r) (w0 : World) (m : Mem) (hv : Vis m w0) (s1 : Sl) (h1 : Rd m s1 p_s) :
  Ret Tryz.prog 28 [s1.v] w0 (fun v _ => v = (.bool r)) := by
 unfold spec_sGood at hr
 refine ret_start Tryz.func28 rfl 36 rfl rfl m hv fun a hF hS => q_seq (q_region (q_x (v := (.bool false)) hF hS (ex_assign rfl) rfl rfl fun a hF => q_end (n_sq (q_seq (q_seq (q_region (q_x (v := s1.v) hF hS (ex_move rfl) rfl rfl fun a hF => q_x (v := (.int .i64 (goLen p_s))) hF hS (ex_len Tryz.underlying23 rfl h1.len) rfl rfl fun a hF => ?_)))))))
 obtain ⟨t_2, ht_2, hr⟩ := bindS hr
 refine q_call (vs := [(.int .i64 (goLen p_s)), (.int .i64 1), (.int .i64 6)]) hF hS Tryz.func57 (by kernel_rfl) rfl rfl rfl (c_spec_l1In (goLen p_s) 1 6 t_2 ht_2 _ m hS.vis) ?_
 rintro a w _ rfl hF hS
 refine q_x (v := (.bool (!t_2))) hF hS (ex_not rfl) rfl rfl fun a hF => q_end (n_sq ?_)
 rcases bcase (!t_2) with hc1 | hc1
 ·have hr := cond_f hc1 hr
  refine q_cond_f hF rfl hc1 (q_skipc (n_sq (q_seq (q_seq (q_region (q_x (v := s1.v) hF hS (ex_move rfl) rfl rfl fun a hF => q_x (v := (.int .i64 (goLen p_s))) hF hS (ex_len Tryz.underlying23 rfl h1.len) rfl rfl fun a hF => q_x (v := (.int .i64 0)) hF hS (ex_move rfl) rfl rfl fun a hF => q_end (n_sq (q_block ?_))))))))
  obtain ⟨o2, hl2, hr⟩ := bindS hr
  refine q_loop (fun (t_3 : Int) a w => Fr a 36 [(0, s1.v), (9, s1.v), (10, (.int .i64 (goLen p_s))), (11, (.int .i64 t_3))] ∧ St [] w0 w m []) (fun (o : (Unit) ⊕ (Bool)) e a w => o = .inl () ∧ e = .exit 0 ∧ Fr a 36 [] ∧ St [] w0 w m []) hl2 ⟨hF.sub ⟨rfl, rfl, rfl, rfl, trivial⟩, hS⟩ ?_ ?_
  ·clear hF hS
   rintro t_3 a w st ⟨hF, hS⟩ hb2
   unfold spec_sGood_l1 at hb2
   refine q_seq (q_region (q_x (v := (.bool (decide (t_3 < (goLen p_s))))) hF hS (ex_ibin rfl rfl rfl) rfl rfl fun a hF => q_end (n_sq (q_seq ?_))))
   rcases bcase (decide (t_3 < (goLen p_s))) with hc3 | hc3
   ·have hb2 := cond_f hc3 hb2
    refine q_cond_f hF rfl hc3 (q_exit (x_sq ?_))
    obtain rfl := someI hb2
    exact ⟨nofun, .inl ⟨rfl, rfl, hF.sub trivial, hS⟩⟩
   ·have hb2 := cond_t hc3 hb2
    refine q_cond_t hF rfl hc3 (q_skipc (n_sq (q_seq (q_block (q_seq (q_region (q_x (v := (.int .i64 t_3)) hF hS (ex_move rfl) rfl rfl fun a hF => ?_)))))))
    obtain ⟨e_4, he_4, hb2⟩ := bindS hb2
    obtain ⟨vs5, at5, d5⟩ := h1.at he_4 2 rfl
    obtain rfl : vs5 = [(strV e_4.Name), (.int .i64 e_4.Levels)] := d5
    refine q_x (v := (elP s1 (t_3.toNat * 2))) hF hS (ex_indexAddr Tryz.underlying23 sz83 rfl rfl (h1.idx he_4)) rfl rfl fun a hF => q_x (v := (.agg #[(strV e_4.Name), (.int .i64 e_4.Levels)])) hF hS (ex_loadEA (us := [(strV e_4.Name), (.int .i64 e_4.Levels)]) 0 Tryz.underlying83 rfl sz83 rfl ((at5).at) rfl rfl rfl) rfl rfl fun a hF => q_alloc (cs := [(strV ([] : List UInt8)), (.int .i64 0)]) hF hS rfl rfl rfl fun a w b6 hF hS => q_x (v := (.int .i64 t_3)) hF hS (ex_assign rfl) rfl rfl fun a hF => q_store (vs := [(strV e_4.Name), (.int .i64 e_4.Levels)]) (cs' := [(strV e_4.Name), (.int .i64 e_4.Levels)]) 0 0 hF hS sz83 rfl rfl rfl rfl rfl rfl rfl rfl fun a w hF hS => q_end (n_sq (q_seq ?_))
    obtain ⟨t_12, hj4, hb2⟩ := bindS hb2
    refine q_join (fun a w => Fr a 36 [(0, s1.v), (9, s1.v), (10, (.int .i64 (goLen p_s))), (11, (.int .i64 t_3)), (34, (.bool t_12))] ∧ St [] w0 w m []) ?_ ?_
    ·refine e_region ⟨[], []⟩ mixed fun w' hw' => ?_
     have hS := hS.below hw'
     refine e_p (v := (.pointer (some ⟨b6, 0, none⟩))) 0 hF rfl (ex_fieldAddr Tryz.underlying83 rfl sz9 rfl rfl) rfl rfl (by kernel_rfl) (by kernel_rfl) (by kernel_rfl) fun a hF => e_x (v := (strV e_4.Name)) 1 hF hS rfl (ex_load1 0 0 Tryz.underlying9 rfl rfl rfl rfl) rfl rfl (by kernel_rfl) (by kernel_rfl) (by kernel_rfl) (by kernel_rfl) fun a hF => e_one 2 (by kernel_rfl) ?_
     obtain ⟨t_7, ht_7, hj4⟩ := bindS hj4
     refine e_call (vs := [(strV e_4.Name)]) hF hS rfl Tryz.func58 (by kernel_rfl) rfl rfl rfl (c_spec_sName e_4.Name t_7 ht_7 _ m hS.vis) ?_
     rintro a w _ rfl hF hS
     refine e_p (v := (.bool (!t_7))) 3 hF rfl (ex_not rfl) rfl rfl (by kernel_rfl) (by kernel_rfl) (by kernel_rfl) fun a hF => e_p (v := (.bool (!t_7))) 4 hF rfl (ex_move rfl) rfl rfl (by kernel_rfl) (by kernel_rfl) (by kernel_rfl) fun a hF => ?_
     rcases bcase (!t_7) with hc5 | hc5
     ·have hj4 := cond_f hc5 hj4
      refine e_pg (v := (.pointer (some ⟨b6, 1, none⟩))) 5 hF rfl (ex_fieldAddr Tryz.underlying83 rfl sz3 rfl rfl) (wanted_t hF rfl rfl rfl hc5) rfl (by kernel_rfl) (by kernel_rfl) (by kernel_rfl) fun a hF => e_xg (v := (.int .i64 e_4.Levels)) 6 hF hS rfl (ex_load1 0 0 Tryz.underlying3 rfl rfl rfl rfl) (wanted_t hF rfl rfl rfl hc5) rfl (by kernel_rfl) (by kernel_rfl) (by kernel_rfl) (by kernel_rfl) fun a hF => e_one 7 (by kernel_rfl) ?_
      obtain ⟨t_8, ht_8, hj4⟩ := bindS hj4
      refine e_callg (vs := [(.int .i64 e_4.Levels), (.int .i64 2), (.int .i64 8)]) hF hS rfl (wanted_t hF rfl rfl rfl hc5) Tryz.func57 (by kernel_rfl) rfl rfl rfl (c_spec_l1In e_4.Levels 2 8 t_8 ht_8 _ m hS.vis) ?_
      rintro a w _ rfl hF hS
      refine e_pg (v := (.bool (!t_8))) 8 hF rfl (ex_not rfl) (wanted_t hF rfl rfl rfl hc5) rfl (by kernel_rfl) (by kernel_rfl) (by kernel_rfl) fun a hF => e_p (v := (.bool (!t_8))) 9 hF rfl (ex_pick_f rfl rfl hc5) rfl rfl (by kernel_rfl) (by kernel_rfl) (by kernel_rfl) fun a hF => e_p (v := (.bool (!t_8))) 10 hF rfl (ex_move rfl) rfl rfl (by kernel_rfl) (by kernel_rfl) (by kernel_rfl) fun a hF => ?_
      rcases bcase (!t_8) with hc6 | hc6
      ·have hj4 := cond_f hc6 hj4
       refine e_pg (v := s1.v) 11 hF rfl (ex_move rfl) (wanted_t hF rfl rfl rfl hc6) rfl (by kernel_rfl) (by kernel_rfl) (by kernel_rfl) fun a hF => e_pg (v := (.int .i64 t_3)) 12 hF rfl (ex_move rfl) (wanted_t hF rfl rfl rfl hc6) rfl (by kernel_rfl) (by kernel_rfl) (by kernel_rfl) fun a hF => ?_
       obtain ⟨l_9, hl_9, hj4⟩ := bindS hj4
       have h10 : Rd m (subS s1 2 (0 : Int).toNat t_3.toNat s1.cap) l_9 := h1.sub' hl_9 2 rfl
       refine e_pg (v := (subS s1 2 (0 : Int).toNat t_3.toNat s1.cap).v) 13 hF rfl (ex_slice Tryz.underlying23 sz83 rfl rfl rfl (.inl ⟨rfl, rfl⟩) (.inr ⟨_, rfl⟩) (h1.subok hl_9)) (wanted_t hF rfl rfl rfl hc6) rfl (by kernel_rfl) (by kernel_rfl) (by kernel_rfl) fun a hF => e_pg (v := (.pointer (some ⟨b6, 0, none⟩))) 14 hF rfl (ex_fieldAddr Tryz.underlying83 rfl sz9 rfl rfl) (wanted_t hF rfl rfl rfl hc6) rfl (by kernel_rfl) (by kernel_rfl) (by kernel_rfl) fun a hF => e_xg (v := (strV e_4.Name)) 15 hF hS rfl (ex_load1 0 0 Tryz.underlying9 rfl rfl rfl rfl) (wanted_t hF rfl rfl rfl hc6) rfl (by kernel_rfl) (by kernel_rfl) (by kernel_rfl) (by kernel_rfl) fun a hF => e_one 16 (by kernel_rfl) ?_
       obtain ⟨t_11, ht_11, hj4⟩ := bindS hj4
       refine e_callg (vs := [(subS s1 2 (0 : Int).toNat t_3.toNat s1.cap).v, (strV e_4.Name)]) hF hS rfl (wanted_t hF rfl rfl rfl hc6) Tryz.func59 (by kernel_rfl) rfl rfl rfl (c_spec_sFind l_9 e_4.Name t_11 ht_11 _ m hS.vis (subS s1 2 (0 : Int).toNat t_3.toNat s1.cap) h10) ?_
       rintro a w _ rfl hF hS
       refine e_pg (v := (.bool (decide (0 ≤ t_11)))) 17 hF rfl (ex_ibin rfl rfl rfl) (wanted_t hF rfl rfl rfl hc6) rfl (by kernel_rfl) (by kernel_rfl) (by kernel_rfl) fun a hF => e_p (v := (.bool (decide (0 ≤ t_11)))) 18 hF rfl (ex_pick_f rfl rfl hc6) rfl rfl (by kernel_rfl) (by kernel_rfl) (by kernel_rfl) fun a hF => e_end (by kernel_rfl) (n_jn ?_) _
       obtain rfl := someI hj4
       exact ⟨hF.sub ⟨rfl, rfl, rfl, rfl, rfl, trivial⟩, hS.mask [false]⟩
      ·have hj4 := cond_t hc6 hj4
       refine e_skipP 11 hF rfl (wanted_f hF rfl rfl rfl hc6 rfl) rfl (by kernel_rfl) (by kernel_rfl) (by kernel_rfl) fun a hF => e_skipP 12 hF rfl (wanted_f hF rfl rfl rfl hc6 rfl) rfl (by kernel_rfl) (by kernel_rfl) (by kernel_rfl) fun a hF => e_skipP 13 hF rfl (wanted_f hF rfl rfl rfl hc6 rfl) rfl (by kernel_rfl) (by kernel_rfl) (by kernel_rfl) fun a hF => e_skipP 14 hF rfl (wanted_f hF rfl rfl rfl hc6 rfl) rfl (by kernel_rfl) (by kernel_rfl) (by kernel_rfl) fun a hF => e_skipP 15 hF rfl (wanted_f hF rfl rfl rfl hc6 rfl) rfl (by kernel_rfl) (by kernel_rfl) (by kernel_rfl) fun a hF => e_skipP 16 hF rfl (wanted_f hF rfl rfl rfl hc6 rfl) rfl (by kernel_rfl) (by kernel_rfl) (by kernel_rfl) fun a hF => e_skipP 17 hF rfl (wanted_f hF rfl rfl rfl hc6 rfl) rfl (by kernel_rfl) (by kernel_rfl) (by kernel_rfl) fun a hF => e_p (v := (.bool true)) 18 hF rfl (ex_pick_t rfl rfl hc6) rfl rfl (by kernel_rfl) (by kernel_rfl) (by kernel_rfl) fun a hF => e_end (by kernel_rfl) (n_jn ?_) _
       obtain rfl := someI hj4
       exact ⟨hF.sub ⟨rfl, rfl, rfl, rfl, rfl, trivial⟩, hS.mask [false]⟩
     ·have hj4 := cond_t hc5 hj4
      refine e_skipP 5 hF rfl (wanted_f hF rfl rfl rfl hc5 rfl) rfl (by kernel_rfl) (by kernel_rfl) (by kernel_rfl) fun a hF => e_skipP 6 hF rfl (wanted_f hF rfl rfl rfl hc5 rfl) rfl (by kernel_rfl) (by kernel_rfl) (by kernel_rfl) fun a hF => e_skipP 7 hF rfl (wanted_f hF rfl rfl rfl hc5 rfl) rfl (by kernel_rfl) (by kernel_rfl) (by kernel_rfl) fun a hF => e_skipP 8 hF rfl (wanted_f hF rfl rfl rfl hc5 rfl) rfl (by kernel_rfl) (by kernel_rfl) (by kernel_rfl) fun a hF => e_p (v := (.bool true)) 9 hF rfl (ex_pick_t rfl rfl hc5) rfl rfl (by kernel_rfl) (by kernel_rfl) (by kernel_rfl) fun a hF => e_p (v := (.bool true)) 10 hF rfl (ex_move rfl) rfl rfl (by kernel_rfl) (by kernel_rfl) (by kernel_rfl) fun a hF => e_skipP 11 hF rfl (wanted_f hF rfl rfl rfl rfl rfl) rfl (by kernel_rfl) (by kernel_rfl) (by kernel_rfl) fun a hF => e_skipP 12 hF rfl (wanted_f hF rfl rfl rfl rfl rfl) rfl (by kernel_rfl) (by kernel_rfl) (by kernel_rfl) fun a hF => e_skipP 13 hF rfl (wanted_f hF rfl rfl rfl rfl rfl) rfl (by kernel_rfl) (by kernel_rfl) (by kernel_rfl) fun a hF => e_skipP 14 hF rfl (wanted_f hF rfl rfl rfl rfl rfl) rfl (by kernel_rfl) (by kernel_rfl) (by kernel_rfl) fun a hF => e_skipP 15 hF rfl (wanted_f hF rfl rfl rfl rfl rfl) rfl (by kernel_rfl) (by kernel_rfl) (by kernel_rfl) fun a hF => e_skipP 16 hF rfl (wanted_f hF rfl rfl rfl rfl rfl) rfl (by kernel_rfl) (by kernel_rfl) (by kernel_rfl) fun a hF => e_skipP 17 hF rfl (wanted_f hF rfl rfl rfl rfl rfl) rfl (by kernel_rfl) (by kernel_rfl) (by kernel_rfl) fun a hF => e_p (v := (.bool true)) 18 hF rfl (ex_pick_t rfl rfl rfl) rfl rfl (by kernel_rfl) (by kernel_rfl) (by kernel_rfl) fun a hF => e_end (by kernel_rfl) (n_jn ?_) _
      obtain rfl := someI hj4
      exact ⟨hF.sub ⟨rfl, rfl, rfl, rfl, rfl, trivial⟩, hS.mask [false]⟩
    ·rintro a w ⟨hF, hS⟩
     refine n_sq ?_
     rcases bcase (t_12) with hc7 | hc7
     ·have hb2 := cond_f hc7 hb2
      refine q_cond_f hF rfl hc7 (q_skipc (n_ib (n_sq (q_region (q_x (v := (.int .i64 (w64 (t_3 + 1)))) hF hS (ex_ibin rfl rfl rfl) rfl rfl fun a hF => q_x (v := (.int .i64 (w64 (t_3 + 1)))) hF hS (ex_move rfl) rfl rfl fun a hF => q_end ?_)))))
      obtain rfl := someI hb2
      exact ⟨rfl, hF.sub ⟨rfl, rfl, rfl, rfl, trivial⟩, hS⟩
     ·have hb2 := cond_t hc7 hb2
      refine q_cond_t hF rfl hc7 (q_seq (q_region (q_x (v := (.bool false)) hF hS (ex_assign rfl) rfl rfl fun a hF => q_end (n_sq (q_ret (r_ib (r_sq ?_)))))))
      obtain rfl := someI hb2
      refine ⟨nofun, .inr fun ho => ?_⟩
      subst ho
      refine r_ib (r_sq ?_)
      obtain rfl := someI hr
      exact ret_of hF hS rfl (.tmp rfl .nil) rfl
  ·rintro e a w ⟨rfl, rfl, hF, hS⟩
   refine x_ib (n_sq ?_)
   refine q_seq (q_region (q_x (v := (.bool true)) hF hS (ex_assign rfl) rfl rfl fun a hF => q_end (n_sq (q_ret ?_))))
   obtain rfl := someI hr
   exact ret_of hF hS rfl (.tmp rfl .nil) rfl
 ·have hr := cond_t hc1 hr
  refine q_cond_t hF rfl hc1 (q_seq (q_region (q_x (v := (.bool false)) hF hS (ex_assign rfl) rfl rfl fun a hF => q_end (n_sq (q_ret (r_sq ?_))))))
  obtain rfl := someI hr
  exact ret_of hF hS rfl (.tmp rfl .nil) rfl

theorem c_spec_sFits (p_s : List impl_Variable) (p_values : List Int) (r : Bool) (hr : spec_sFits p_s p_values = some r) (w0 : World) (m : Mem) (hv : Vis m w0) (s1 : Sl) (h1 : Rd m s1 p_s) (s2 : Sl) (h2 : Rd m s2 p_values) :
  Ret Tryz.prog 81 [s1.v, s2.v] w0 (fun v _ => v = (.bool r)) := by
 unfold spec_sFits at hr
 refine ret_start Tryz.func81 rfl 29 rfl rfl m hv fun a hF hS => q_seq (q_region (q_x (v := (.bool false)) hF hS (ex_assign rfl) rfl rfl fun a hF => q_end (n_sq (q_seq (q_seq (q_region (q_x (v := s2.v) hF hS (ex_move rfl) rfl rfl fun a hF => q_x (v := (.int .i64 (goLen p_values))) hF hS (ex_len Tryz.underlying40 rfl h2.len) rfl rfl fun a hF => q_x (v := s1.v) hF hS (ex_move rfl) rfl rfl fun a hF => q_x (v := (.int .i64 (goLen p_s))) hF hS (ex_len Tryz.underlying23 rfl h1.len) rfl rfl fun a hF => q_x (v := (.bool ((goLen p_values) != (goLen p_s)))) hF hS (ex_ibin rfl rfl rfl) rfl rfl fun a hF => q_end (n_sq ?_))))))))
 rcases bcase ((goLen p_values) != (goLen p_s)) with hc1 | hc1
 ·have hr := cond_f hc1 hr
  refine q_cond_f hF rfl hc1 (q_skipc (n_sq (q_seq (q_seq (q_region (q_x (v := s1.v) hF hS (ex_move rfl) rfl rfl fun a hF => q_x (v := (.int .i64 (goLen p_s))) hF hS (ex_len Tryz.underlying23 rfl h1.len) rfl rfl fun a hF => q_x (v := (.int .i64 0)) hF hS (ex_move rfl) rfl rfl fun a hF => q_end (n_sq (q_block ?_))))))))
  obtain ⟨o2, hl2, hr⟩ := bindS hr
  refine q_loop (fun (t_3 : Int) a w => Fr a 29 [(1, s2.v), (12, s1.v), (13, (.int .i64 (goLen p_s))), (14, (.int .i64 t_3))] ∧ St [] w0 w m []) (fun (o : (Unit) ⊕ (Bool)) e a w => o = .inl () ∧ e = .exit 0 ∧ Fr a 29 [] ∧ St [] w0 w m []) hl2 ⟨hF.sub ⟨rfl, rfl, rfl, rfl, trivial⟩, hS⟩ ?_ ?_
  ·clear hF hS
   rintro t_3 a w st ⟨hF, hS⟩ hb2
   unfold spec_sFits_l1 at hb2
   refine q_seq (q_region (q_x (v := (.bool (decide (t_3 < (goLen p_s))))) hF hS (ex_ibin rfl rfl rfl) rfl rfl fun a hF => q_end (n_sq (q_seq ?_))))
   rcases bcase (decide (t_3 < (goLen p_s))) with hc3 | hc3
   ·have hb2 := cond_f hc3 hb2
    refine q_cond_f hF rfl hc3 (q_exit (x_sq ?_))
    obtain rfl := someI hb2
    exact ⟨nofun, .inl ⟨rfl, rfl, hF.sub trivial, hS⟩⟩
   ·have hb2 := cond_t hc3 hb2
    refine q_cond_t hF rfl hc3 (q_skipc (n_sq (q_seq (q_block (q_seq (q_region (q_x (v := (.int .i64 t_3)) hF hS (ex_move rfl) rfl rfl fun a hF => ?_)))))))
    obtain ⟨e_4, he_4, hb2⟩ := bindS hb2
    obtain ⟨vs5, at5, d5⟩ := h1.at he_4 2 rfl
    obtain rfl : vs5 = [(strV e_4.Name), (.int .i64 e_4.Levels)] := d5
    refine q_x (v := (elP s1 (t_3.toNat * 2))) hF hS (ex_indexAddr Tryz.underlying23 sz83 rfl rfl (h1.idx he_4)) rfl rfl fun a hF => q_x (v := (.agg #[(strV e_4.Name), (.int .i64 e_4.Levels)])) hF hS (ex_loadEA (us := [(strV e_4.Name), (.int .i64 e_4.Levels)]) 0 Tryz.underlying83 rfl sz83 rfl ((at5).at) rfl rfl rfl) rfl rfl fun a hF => q_alloc (cs := [(strV ([] : List UInt8)), (.int .i64 0)]) hF hS rfl rfl rfl fun a w b6 hF hS => q_x (v := (.int .i64 t_3)) hF hS (ex_assign rfl) rfl rfl fun a hF => q_store (vs := [(strV e_4.Name), (.int .i64 e_4.Levels)]) (cs' := [(strV e_4.Name), (.int .i64 e_4.Levels)]) 0 0 hF hS sz83 rfl rfl rfl rfl rfl rfl rfl rfl fun a w hF hS => q_end (n_sq (q_seq (e_region ⟨[], []⟩ mixed fun w' hw' => ?_)))
    have hS := hS.below hw'
    refine e_p (v := s2.v) 0 hF rfl (ex_move rfl) rfl rfl (by kernel_rfl) (by kernel_rfl) (by kernel_rfl) fun a hF => e_p (v := (.int .i64 t_3)) 1 hF rfl (ex_move rfl) rfl rfl (by kernel_rfl) (by kernel_rfl) (by kernel_rfl) fun a hF => ?_
    obtain ⟨e_7, he_7, hb2⟩ := bindS hb2
    obtain ⟨vs8, at8, d8⟩ := h2.at he_7 1 rfl
    obtain rfl : vs8 = [(.int .i64 e_7)] := d8
    refine e_p (v := (elP s2 (t_3.toNat * 1))) 2 hF rfl (ex_indexAddr Tryz.underlying40 sz3 rfl rfl (h2.idx he_7)) rfl rfl (by kernel_rfl) (by kernel_rfl) (by kernel_rfl) fun a hF => e_x (v := (.int .i64 e_7)) 3 hF hS rfl (ex_loadE1 0 Tryz.underlying3 rfl rfl ((at8).at) rfl rfl) rfl rfl (by kernel_rfl) (by kernel_rfl) (by kernel_rfl) (by kernel_rfl) fun a hF => e_p (v := (.pointer (some ⟨b6, 1, none⟩))) 4 hF rfl (ex_fieldAddr Tryz.underlying83 rfl sz3 rfl rfl) rfl rfl (by kernel_rfl) (by kernel_rfl) (by kernel_rfl) fun a hF => e_x (v := (.int .i64 e_4.Levels)) 5 hF hS rfl (ex_load1 0 0 Tryz.underlying3 rfl rfl rfl rfl) rfl rfl (by kernel_rfl) (by kernel_rfl) (by kernel_rfl) (by kernel_rfl) fun a hF => e_p (v := (.int .i64 (w64 (e_4.Levels - 1)))) 6 hF rfl (ex_ibin rfl rfl rfl) rfl rfl (by kernel_rfl) (by kernel_rfl) (by kernel_rfl) fun a hF => e_one 7 (by kernel_rfl) ?_
    obtain ⟨t_9, ht_9, hb2⟩ := bindS hb2
    refine e_call (vs := [(.int .i64 e_7), (.int .i64 0), (.int .i64 (w64 (e_4.Levels - 1)))]) hF hS rfl Tryz.func57 (by kernel_rfl) rfl rfl rfl (c_spec_l1In e_7 0 (w64 (e_4.Levels - 1)) t_9 ht_9 _ m hS.vis) ?_
    rintro a w _ rfl hF hS
    refine e_p (v := (.bool (!t_9))) 8 hF rfl (ex_not rfl) rfl rfl (by kernel_rfl) (by kernel_rfl) (by kernel_rfl) fun a hF => e_end (by kernel_rfl) (n_sq ?_) _
    rcases bcase (!t_9) with hc4 | hc4
    ·have hb2 := cond_f hc4 hb2
     refine q_cond_f hF rfl hc4 (q_skipc (n_ib (n_sq (q_region (q_x (v := (.int .i64 (w64 (t_3 + 1)))) hF hS (ex_ibin rfl rfl rfl) rfl rfl fun a hF => q_x (v := (.int .i64 (w64 (t_3 + 1)))) hF hS (ex_move rfl) rfl rfl fun a hF => q_end ?_)))))
     obtain rfl := someI hb2
     exact ⟨rfl, hF.sub ⟨rfl, rfl, rfl, rfl, trivial⟩, hS.mask [false]⟩
    ·have hb2 := cond_t hc4 hb2
     refine q_cond_t hF rfl hc4 (q_seq (q_region (q_x (v := (.bool false)) hF hS (ex_assign rfl) rfl rfl fun a hF => q_end (n_sq (q_ret (r_ib (r_sq ?_)))))))
     obtain rfl := someI hb2
     refine ⟨nofun, .inr fun ho => ?_⟩
     subst ho
     refine r_ib (r_sq ?_)
     obtain rfl := someI hr
     exact ret_of hF hS rfl (.tmp rfl .nil) rfl
  ·rintro e a w ⟨rfl, rfl, hF, hS⟩
   refine x_ib (n_sq ?_)
   refine q_seq (q_region (q_x (v := (.bool true)) hF hS (ex_assign rfl) rfl rfl fun a hF => q_end (n_sq (q_ret ?_))))
   obtain rfl := someI hr
   exact ret_of hF hS rfl (.tmp rfl .nil) rfl
 ·have hr := cond_t hc1 hr
  refine q_cond_t hF rfl hc1 (q_seq (q_region (q_x (v := (.bool false)) hF hS (ex_assign rfl) rfl rfl fun a hF => q_end (n_sq (q_ret (r_sq ?_))))))
  obtain rfl := someI hr
  exact ret_of hF hS rfl (.tmp rfl .nil) rfl

theorem c_spec_rGood (p_s : List impl_Variable) (p_r : impl_Record) (r : Bool) (hr : spec_rGood p_s p_r = some r) (w0 : World) (m : Mem) (hv : Vis m w0) (s1 : Sl) (h1 : Rd m s1 p_s) (s2 : Sl) (h2 : Rd m s2 p_r.Values) :
  Ret Tryz.prog 60 [s1.v, (.agg #[(.int .i64 p_r.Area), (.int .i64 p_r.House), s2.v])] w0 (fun v _ => v = (.bool r)) := by
 unfold spec_rGood at hr
 refine ret_start Tryz.func60 rfl 19 rfl rfl m hv fun a hF hS => q_seq (q_region (q_box (cs := [(.int .i64 p_r.Area), (.int .i64 p_r.House), s2.v]) hF hS rfl rfl rfl fun a w b3 hF hS => q_x (v := (.bool false)) hF hS (ex_assign rfl) rfl rfl fun a hF => q_end (n_sq (q_seq ?_))))
 obtain ⟨t_7, hj1, hr⟩ := bindS hr
 refine q_join (fun a w => Fr a 19 [(4, (.bool t_7))] ∧ St [] w0 w m []) ?_ ?_
 ·refine q_region (q_x (v := (.pointer (some ⟨b3, 0, none⟩))) hF hS (ex_fieldAddr Tryz.underlying44 rfl sz3 rfl rfl) rfl rfl fun a hF => q_x (v := (.int .i64 p_r.Area)) hF hS (ex_load1 0 0 Tryz.underlying3 rfl rfl rfl rfl) rfl rfl fun a hF => ?_)
  obtain ⟨t_4, ht_4, hj1⟩ := bindS hj1
  refine q_call (vs := [(.int .i64 p_r.Area), (.int .i64 0), (.int .i64 29)]) hF hS Tryz.func57 (by kernel_rfl) rfl rfl rfl (c_spec_l1In p_r.Area 0 29 t_4 ht_4 _ m hS.vis) ?_
  rintro a w _ rfl hF hS
  refine q_x (v := (.bool t_4)) hF hS (ex_move rfl) rfl rfl fun a hF => ?_
  rcases bcase (t_4) with hc2 | hc2
  ·have hj1 := cond_f hc2 hj1
   refine q_skip hF (wanted_f hF rfl rfl rfl hc2 rfl) rfl fun a hF => q_skip hF (wanted_f hF rfl rfl rfl hc2 rfl) rfl fun a hF => q_skip hF (wanted_f hF rfl rfl rfl hc2 rfl) rfl fun a hF => q_x (v := (.bool false)) hF hS (ex_pick_f rfl rfl hc2) rfl rfl fun a hF => q_x (v := (.bool false)) hF hS (ex_move rfl) rfl rfl fun a hF => q_skip hF (wanted_f hF rfl rfl rfl rfl rfl) rfl fun a hF => q_skip hF (wanted_f hF rfl rfl rfl rfl rfl) rfl fun a hF => q_skip hF (wanted_f hF rfl rfl rfl rfl rfl) rfl fun a hF => q_skip hF (wanted_f hF rfl rfl rfl rfl rfl) rfl fun a hF => q_x (v := (.bool false)) hF hS (ex_pick_f rfl rfl rfl) rfl rfl fun a hF => q_x (v := (.bool false)) hF hS (ex_assign rfl) rfl rfl fun a hF => q_end (n_jn ?_)
   obtain rfl := someI hj1
   exact ⟨hF.sub ⟨rfl, trivial⟩, hS.mask [false]⟩
  ·have hj1 := cond_t hc2 hj1
   refine q_xg (v := (.pointer (some ⟨b3, 1, none⟩))) hF hS (ex_fieldAddr Tryz.underlying44 rfl sz3 rfl rfl) (wanted_t hF rfl rfl rfl hc2) rfl fun a hF => q_xg (v := (.int .i64 p_r.House)) hF hS (ex_load1 0 0 Tryz.underlying3 rfl rfl rfl rfl) (wanted_t hF rfl rfl rfl hc2) rfl fun a hF => ?_
   obtain ⟨t_5, ht_5, hj1⟩ := bindS hj1
   refine q_callg (vs := [(.int .i64 p_r.House), (.int .i64 0), (.int .i64 999)]) hF hS (wanted_t hF rfl rfl rfl hc2) Tryz.func57 (by kernel_rfl) rfl rfl rfl (c_spec_l1In p_r.House 0 999 t_5 ht_5 _ m hS.vis) ?_
   rintro a w _ rfl hF hS
   refine q_x (v := (.bool t_5)) hF hS (ex_pick_t rfl rfl hc2) rfl rfl fun a hF => q_x (v := (.bool t_5)) hF hS (ex_move rfl) rfl rfl fun a hF => ?_
   rcases bcase (t_5) with hc3 | hc3
   ·have hj1 := cond_f hc3 hj1
    refine q_skip hF (wanted_f hF rfl rfl rfl hc3 rfl) rfl fun a hF => q_skip hF (wanted_f hF rfl rfl rfl hc3 rfl) rfl fun a hF => q_skip hF (wanted_f hF rfl rfl rfl hc3 rfl) rfl fun a hF => q_skip hF (wanted_f hF rfl rfl rfl hc3 rfl) rfl fun a hF => q_x (v := (.bool false)) hF hS (ex_pick_f rfl rfl hc3) rfl rfl fun a hF => q_x (v := (.bool false)) hF hS (ex_assign rfl) rfl rfl fun a hF => q_end (n_jn ?_)
    obtain rfl := someI hj1
    exact ⟨hF.sub ⟨rfl, trivial⟩, hS.mask [false]⟩
   ·have hj1 := cond_t hc3 hj1
    refine q_xg (v := s1.v) hF hS (ex_move rfl) (wanted_t hF rfl rfl rfl hc3) rfl fun a hF => q_xg (v := (.pointer (some ⟨b3, 2, none⟩))) hF hS (ex_fieldAddr Tryz.underlying44 rfl sz40 rfl rfl) (wanted_t hF rfl rfl rfl hc3) rfl fun a hF => q_xg (v := s2.v) hF hS (ex_load1 0 0 Tryz.underlying40 rfl rfl rfl rfl) (wanted_t hF rfl rfl rfl hc3) rfl fun a hF => ?_
    obtain ⟨t_6, ht_6, hj1⟩ := bindS hj1
    refine q_callg (vs := [s1.v, s2.v]) hF hS (wanted_t hF rfl rfl rfl hc3) Tryz.func81 (by kernel_rfl) rfl rfl rfl (c_spec_sFits p_s p_r.Values t_6 ht_6 _ m hS.vis s1 h1 s2 h2) ?_
    rintro a w _ rfl hF hS
    refine q_x (v := (.bool t_6)) hF hS (ex_pick_t rfl rfl hc3) rfl rfl fun a hF => q_x (v := (.bool t_6)) hF hS (ex_assign rfl) rfl rfl fun a hF => q_end (n_jn ?_)
    obtain rfl := someI hj1
    exact ⟨hF.sub ⟨rfl, trivial⟩, hS.mask [false]⟩
 ·rintro a w ⟨hF, hS⟩
  refine n_sq (q_ret ?_)
  obtain rfl := someI hr
  exact ret_of hF hS rfl (.tmp rfl .nil) rfl

theorem c_spec_dGood (p_s : List impl_Variable) (p_l : List impl_Record) (r : Bool) (hr : spec_dGood p_s p_l = some r) (w0 : World) (m : Mem) (hv : Vis m w0) (s1 : Sl) (h1 : Rd m s1 p_s) (s2 : Sl) (h2 : Rd m s2 p_l) :
  Ret Tryz.prog 31 [s1.v, s2.v] w0 (fun v _ => v = (.bool r)) := by
 unfold spec_dGood at hr
 refine ret_start Tryz.func31 rfl 21 rfl rfl m hv fun a hF hS => q_seq (q_region (q_x (v := (.bool false)) hF hS (ex_assign rfl) rfl rfl fun a hF => q_end (n_sq (q_seq (q_seq (q_region (q_x (v := s2.v) hF hS (ex_move rfl) rfl rfl fun a hF => q_x (v := (.int .i64 (goLen p_l))) hF hS (ex_len Tryz.underlying24 rfl h2.len) rfl rfl fun a hF => q_x (v := (.int .i64 0)) hF hS (ex_move rfl) rfl rfl fun a hF => q_end (n_sq (q_block ?_)))))))))
 obtain ⟨o1, hl1, hr⟩ := bindS hr
 refine q_loop (fun (t_3 : Int) a w => Fr a 21 [(0, s1.v), (1, s2.v), (7, s2.v), (8, (.int .i64 (goLen p_l))), (9, (.int .i64 t_3))] ∧ St [] w0 w m []) (fun (o : (Unit) ⊕ (Bool)) e a w => o = .inl () ∧ e = .exit 0 ∧ Fr a 21 [(1, s2.v)] ∧ St [] w0 w m []) hl1 ⟨hF.sub ⟨rfl, rfl, rfl, rfl, rfl, trivial⟩, hS⟩ ?_ ?_
 ·clear hF hS
  rintro t_3 a w st ⟨hF, hS⟩ hb1
  unfold spec_dGood_l1 at hb1
  refine q_seq (q_region (q_x (v := (.bool (decide (t_3 < (goLen p_l))))) hF hS (ex_ibin rfl rfl rfl) rfl rfl fun a hF => q_end (n_sq (q_seq ?_))))
  rcases bcase (decide (t_3 < (goLen p_l))) with hc2 | hc2
  ·have hb1 := cond_f hc2 hb1
   refine q_cond_f hF rfl hc2 (q_exit (x_sq ?_))
   obtain rfl := someI hb1
   exact ⟨nofun, .inl ⟨rfl, rfl, hF.sub ⟨rfl, trivial⟩, hS⟩⟩
  ·have hb1 := cond_t hc2 hb1
   refine q_cond_t hF rfl hc2 (q_skipc (n_sq (q_seq (q_block (q_seq (q_region ?_))))))
   obtain ⟨e_4, he_4, hb1⟩ := bindS hb1
   obtain ⟨vs5, at5, d5⟩ := h2.at he_4 3 rfl
   obtain ⟨s6, rfl, h6⟩ : ∃ s6 : Sl, vs5 = [(.int .i64 e_4.Area), (.int .i64 e_4.House), s6.v] ∧ Rd m s6 e_4.Values := d5
   refine q_x (v := (elP s2 (t_3.toNat * 3))) hF hS (ex_indexAddr Tryz.underlying24 sz44 rfl rfl (h2.idx he_4)) rfl rfl fun a hF => q_x (v := (.agg #[(.int .i64 e_4.Area), (.int .i64 e_4.House), s6.v])) hF hS (ex_loadEA (us := [(.int .i64 e_4.Area), (.int .i64 e_4.House), s6.v]) 0 Tryz.underlying44 rfl sz44 rfl ((at5).at) rfl rfl rfl) rfl rfl fun a hF => q_alloc (cs := [(.int .i64 0), (.int .i64 0), nilS.v]) hF hS rfl rfl rfl fun a w b7 hF hS => q_store (vs := [(.int .i64 e_4.Area), (.int .i64 e_4.House), s6.v]) (cs' := [(.int .i64 e_4.Area), (.int .i64 e_4.House), s6.v]) 0 0 hF hS sz44 rfl rfl rfl rfl rfl rfl rfl rfl fun a w hF hS => q_end (n_sq (q_seq (q_region (q_x (v := s1.v) hF hS (ex_move rfl) rfl rfl fun a hF => q_x (v := (.agg #[(.int .i64 e_4.Area), (.int .i64 e_4.House), s6.v])) hF hS (ex_loadA (vs := [(.int .i64 e_4.Area), (.int .i64 e_4.House), s6.v]) 0 0 Tryz.underlying44 rfl sz44 rfl rfl rfl rfl) rfl rfl fun a hF => ?_))))
   obtain ⟨t_8, ht_8, hb1⟩ := bindS hb1
   refine q_call (vs := [s1.v, (.agg #[(.int .i64 e_4.Area), (.int .i64 e_4.House), s6.v])]) hF hS Tryz.func60 (by kernel_rfl) rfl rfl rfl (c_spec_rGood p_s e_4 t_8 ht_8 _ m hS.vis s1 h1 s6 h6) ?_
   rintro a w _ rfl hF hS
   refine q_x (v := (.bool (!t_8))) hF hS (ex_not rfl) rfl rfl fun a hF => q_end (n_sq ?_)
   rcases bcase (!t_8) with hc3 | hc3
   ·have hb1 := cond_f hc3 hb1
    refine q_cond_f hF rfl hc3 (q_skipc (n_ib (n_sq (q_region (q_x (v := (.int .i64 (w64 (t_3 + 1)))) hF hS (ex_ibin rfl rfl rfl) rfl rfl fun a hF => q_x (v := (.int .i64 (w64 (t_3 + 1)))) hF hS (ex_move rfl) rfl rfl fun a hF => q_end ?_)))))
    obtain rfl := someI hb1
    exact ⟨rfl, hF.sub ⟨rfl, rfl, rfl, rfl, rfl, trivial⟩, hS.mask [false]⟩
   ·have hb1 := cond_t hc3 hb1
    refine q_cond_t hF rfl hc3 (q_seq (q_region (q_x (v := (.bool false)) hF hS (ex_assign rfl) rfl rfl fun a hF => q_end (n_sq (q_ret (r_ib (r_sq ?_)))))))
    obtain rfl := someI hb1
    refine ⟨nofun, .inr fun ho => ?_⟩
    subst ho
    refine r_ib (r_sq ?_)
    obtain rfl := someI hr
    exact ret_of hF hS rfl (.tmp rfl .nil) rfl
 ·rintro e a w ⟨rfl, rfl, hF, hS⟩
  refine x_ib (n_sq ?_)
  refine q_seq (q_region (q_x (v := s2.v) hF hS (ex_move rfl) rfl rfl fun a hF => q_x (v := (.int .i64 (goLen p_l))) hF hS (ex_len Tryz.underlying24 rfl h2.len) rfl rfl fun a hF => q_x (v := (.bool (decide ((goLen p_l) ≤ 40)))) hF hS (ex_ibin rfl rfl rfl) rfl rfl fun a hF => q_x (v := (.bool (decide ((goLen p_l) ≤ 40)))) hF hS (ex_assign rfl) rfl rfl fun a hF => q_end (n_sq (q_ret ?_))))
  obtain rfl := someI hr
  exact ret_of hF hS rfl (.tmp rfl .nil) rfl

theorem c_spec_dInput (p_s : List impl_Variable) (p_l : List impl_Record) (r : Bool) (hr : spec_dInput p_s p_l = some r) (w0 : World) (m : Mem) (hv : Vis m w0) (s1 : Sl) (h1 : Rd m s1 p_s) (s2 : Sl) (h2 : Rd m s2 p_l) :
  Ret Tryz.prog 19 [s1.v, s2.v] w0 (fun v _ => v = (.bool r)) := by
 unfold spec_dInput at hr
 refine ret_start Tryz.func19 rfl 12 rfl rfl m hv fun a hF hS => q_seq (q_region (q_x (v := (.bool false)) hF hS (ex_assign rfl) rfl rfl fun a hF => q_end (n_sq (q_seq ?_))))
 obtain ⟨t_5, hj1, hr⟩ := bindS hr
 refine q_join (fun a w => Fr a 12 [(4, (.bool t_5))] ∧ St [] w0 w m []) ?_ ?_
 ·refine q_region (q_x (v := s1.v) hF hS (ex_move rfl) rfl rfl fun a hF => ?_)
  obtain ⟨t_3, ht_3, hj1⟩ := bindS hj1
  refine q_call (vs := [s1.v]) hF hS Tryz.func28 (by kernel_rfl) rfl rfl rfl (c_spec_sGood p_s t_3 ht_3 _ m hS.vis s1 h1) ?_
  rintro a w _ rfl hF hS
  refine q_x (v := (.bool t_3)) hF hS (ex_move rfl) rfl rfl fun a hF => ?_
  rcases bcase (t_3) with hc2 | hc2
  ·have hj1 := cond_f hc2 hj1
   refine q_skip hF (wanted_f hF rfl rfl rfl hc2 rfl) rfl fun a hF => q_skip hF (wanted_f hF rfl rfl rfl hc2 rfl) rfl fun a hF => q_skip hF (wanted_f hF rfl rfl rfl hc2 rfl) rfl fun a hF => q_x (v := (.bool false)) hF hS (ex_pick_f rfl rfl hc2) rfl rfl fun a hF => q_x (v := (.bool false)) hF hS (ex_assign rfl) rfl rfl fun a hF => q_end (n_jn ?_)
   obtain rfl := someI hj1
   exact ⟨hF.sub ⟨rfl, trivial⟩, hS⟩
  ·have hj1 := cond_t hc2 hj1
   refine q_xg (v := s1.v) hF hS (ex_move rfl) (wanted_t hF rfl rfl rfl hc2) rfl fun a hF => q_xg (v := s2.v) hF hS (ex_move rfl) (wanted_t hF rfl rfl rfl hc2) rfl fun a hF => ?_
   obtain ⟨t_4, ht_4, hj1⟩ := bindS hj1
   refine q_callg (vs := [s1.v, s2.v]) hF hS (wanted_t hF rfl rfl rfl hc2) Tryz.func31 (by kernel_rfl) rfl rfl rfl (c_spec_dGood p_s p_l t_4 ht_4 _ m hS.vis s1 h1 s2 h2) ?_
   rintro a w _ rfl hF hS
   refine q_x (v := (.bool t_4)) hF hS (ex_pick_t rfl rfl hc2) rfl rfl fun a hF => q_x (v := (.bool t_4)) hF hS (ex_assign rfl) rfl rfl fun a hF => q_end (n_jn ?_)
   obtain rfl := someI hj1
   exact ⟨hF.sub ⟨rfl, trivial⟩, hS⟩
 ·rintro a w ⟨hF, hS⟩
  refine n_sq (q_ret ?_)
  obtain rfl := someI hr
  exact ret_of hF hS rfl (.tmp rfl .nil) rfl

theorem c_spec_l1Sign (p_n : Int) (r : Int) (hr : spec_l1Sign p_n = some r) (w0 : World) (m : Mem) (hv : Vis m w0) :
  Ret Tryz.prog 97 [(.int .i64 p_n)] w0 (fun v _ => v = (.int .i64 r)) := by
 unfold spec_l1Sign at hr
 refine ret_start Tryz.func97 rfl 9 rfl rfl m hv fun a hF hS => q_seq (q_region (q_x (v := (.int .i64 0)) hF hS (ex_assign rfl) rfl rfl fun a hF => q_end (n_sq (q_seq (q_block (q_seq (q_region (q_x (v := (.int .i64 p_n)) hF hS (ex_move rfl) rfl rfl fun a hF => q_x (v := (.bool (decide (p_n < 0)))) hF hS (ex_ibin rfl rfl rfl) rfl rfl fun a hF => q_x (v := (.bool (decide (p_n < 0)))) hF hS (ex_assign rfl) rfl rfl fun a hF => q_end (n_sq ?_)))))))))
 rcases bcase (decide (p_n < 0)) with hc1 | hc1
 ·have hr := cond_f hc1 hr
  refine q_cond_f hF rfl hc1 (q_seq (q_region (q_x (v := (.int .i64 p_n)) hF hS (ex_move rfl) rfl rfl fun a hF => q_x (v := (.bool (decide (0 < p_n)))) hF hS (ex_ibin rfl rfl rfl) rfl rfl fun a hF => q_x (v := (.bool (decide (0 < p_n)))) hF hS (ex_assign rfl) rfl rfl fun a hF => q_end (n_sq ?_))))
  rcases bcase (decide (0 < p_n)) with hc2 | hc2
  ·have hr := cond_f hc2 hr
   refine q_cond_f hF rfl hc2 (q_skipc (n_ib (n_sq (q_seq (q_region (q_x (v := (.int .i64 0)) hF hS (ex_assign rfl) rfl rfl fun a hF => q_end (n_sq (q_ret ?_))))))))
   obtain rfl := someI hr
   exact ret_of hF hS rfl (.tmp rfl .nil) rfl
  ·have hr := cond_t hc2 hr
   refine q_cond_t hF rfl hc2 (q_seq (q_region (q_x (v := (.int .i64 1)) hF hS (ex_assign rfl) rfl rfl fun a hF => q_end (n_sq (q_ret (r_ib (r_sq ?_)))))))
   obtain rfl := someI hr
   exact ret_of hF hS rfl (.tmp rfl .nil) rfl
 ·have hr := cond_t hc1 hr
  refine q_cond_t hF rfl hc1 (q_seq (q_region (q_x (v := (.int .i64 (-1))) hF hS (ex_assign rfl) rfl rfl fun a hF => q_end (n_sq (q_ret (r_ib (r_sq ?_)))))))
  obtain rfl := someI hr
  exact ret_of hF hS rfl (.tmp rfl .nil) rfl

theorem c_spec_l1Less (p_a : List Int) (p_b : List Int) (r : Int) (hr : spec_l1Less p_a p_b = some r) (w0 : World) (m : Mem) (hv : Vis m w0) (s1 : Sl) (h1 : Rd m s1 p_a) (s2 : Sl) (h2 : Rd m s2 p_b) :
  Ret Tryz.prog 76 [s1.v, s2.v] w0 (fun v _ => v = (.int .i64 r)) := by
 unfold spec_l1Less at hr
 refine ret_start Tryz.func76 rfl 42 rfl rfl m hv fun a hF hS => q_seq (q_region (q_x (v := (.int .i64 0)) hF hS (ex_assign rfl) rfl rfl fun a hF => q_end (n_sq (q_seq (q_seq (q_region (q_x (v := (.int .i64 0)) hF hS (ex_assign rfl) rfl rfl fun a hF => q_end (n_sq (q_block ?_)))))))))
 obtain ⟨o1, hl1, hr⟩ := bindS hr
 refine q_loop (fun (i_3 : Int) a w => Fr a 42 [(0, s1.v), (1, s2.v), (5, (.int .i64 i_3))] ∧ St [] w0 w m []) (fun (o : (Unit) ⊕ (Int)) e a w => o = .inl () ∧ e = .exit 0 ∧ Fr a 42 [(0, s1.v), (1, s2.v)] ∧ St [] w0 w m []) hl1 ⟨hF.sub ⟨rfl, rfl, rfl, trivial⟩, hS⟩ ?_ ?_
 ·clear hF hS
  rintro i_3 a w st ⟨hF, hS⟩ hb1
  unfold spec_l1Less_l1 at hb1
  refine q_seq (q_seq ?_)
  obtain ⟨t_4, hj2, hb1⟩ := bindS hb1
  refine q_join (fun a w => Fr a 42 [(0, s1.v), (1, s2.v), (5, (.int .i64 i_3)), (15, (.bool t_4))] ∧ St [] w0 w m []) ?_ ?_
  ·refine q_region (q_x (v := (.int .i64 i_3)) hF hS (ex_move rfl) rfl rfl fun a hF => q_x (v := s1.v) hF hS (ex_move rfl) rfl rfl fun a hF => q_x (v := (.int .i64 (goLen p_a))) hF hS (ex_len Tryz.underlying40 rfl h1.len) rfl rfl fun a hF => q_x (v := (.bool (decide (i_3 < (goLen p_a))))) hF hS (ex_ibin rfl rfl rfl) rfl rfl fun a hF => q_x (v := (.bool (decide (i_3 < (goLen p_a))))) hF hS (ex_move rfl) rfl rfl fun a hF => ?_)
   rcases bcase (decide (i_3 < (goLen p_a))) with hc3 | hc3
   ·have hj2 := cond_f hc3 hj2
    refine q_skip hF (wanted_f hF rfl rfl rfl hc3 rfl) rfl fun a hF => q_skip hF (wanted_f hF rfl rfl rfl hc3 rfl) rfl fun a hF => q_skip hF (wanted_f hF rfl rfl rfl hc3 rfl) rfl fun a hF => q_skip hF (wanted_f hF rfl rfl rfl hc3 rfl) rfl fun a hF => q_x (v := (.bool false)) hF hS (ex_pick_f rfl rfl hc3) rfl rfl fun a hF => q_end (n_jn ?_)
    obtain rfl := someI hj2
    exact ⟨hF.sub ⟨rfl, rfl, rfl, rfl, trivial⟩, hS⟩
   ·have hj2 := cond_t hc3 hj2
    refine q_xg (v := (.int .i64 i_3)) hF hS (ex_move rfl) (wanted_t hF rfl rfl rfl hc3) rfl fun a hF => q_xg (v := s2.v) hF hS (ex_move rfl) (wanted_t hF rfl rfl rfl hc3) rfl fun a hF => q_xg (v := (.int .i64 (goLen p_b))) hF hS (ex_len Tryz.underlying40 rfl h2.len) (wanted_t hF rfl rfl rfl hc3) rfl fun a hF => q_xg (v := (.bool (decide (i_3 < (goLen p_b))))) hF hS (ex_ibin rfl rfl rfl) (wanted_t hF rfl rfl rfl hc3) rfl fun a hF => q_x (v := (.bool (decide (i_3 < (goLen p_b))))) hF hS (ex_pick_t rfl rfl hc3) rfl rfl fun a hF => q_end (n_jn ?_)
    obtain rfl := someI hj2
    exact ⟨hF.sub ⟨rfl, rfl, rfl, rfl, trivial⟩, hS⟩
  ·rintro a w ⟨hF, hS⟩
   refine n_sq ?_
   rcases bcase (t_4) with hc4 | hc4
   ·have hb1 := cond_f hc4 hb1
    refine q_cond_f hF rfl hc4 (q_exit (x_sq ?_))
    obtain rfl := someI hb1
    exact ⟨nofun, .inl ⟨rfl, rfl, hF.sub ⟨rfl, rfl, trivial⟩, hS⟩⟩
   ·have hb1 := cond_t hc4 hb1
    refine q_cond_t hF rfl hc4 (q_skipc (n_sq (q_seq (q_block (q_seq (e_region ⟨[], []⟩ mixed fun w' hw' => ?_))))))
    have hS := hS.below hw'
    refine e_p (v := s1.v) 0 hF rfl (ex_move rfl) rfl rfl (by kernel_rfl) (by kernel_rfl) (by kernel_rfl) fun a hF => e_p (v := (.int .i64 i_3)) 1 hF rfl (ex_move rfl) rfl rfl (by kernel_rfl) (by kernel_rfl) (by kernel_rfl) fun a hF => ?_
    obtain ⟨e_5, he_5, hb1⟩ := bindS hb1
    obtain ⟨vs6, at6, d6⟩ := h1.at he_5 1 rfl
    obtain rfl : vs6 = [(.int .i64 e_5)] := d6
    refine e_p (v := (elP s1 (i_3.toNat * 1))) 2 hF rfl (ex_indexAddr Tryz.underlying40 sz3 rfl rfl (h1.idx he_5)) rfl rfl (by kernel_rfl) (by kernel_rfl) (by kernel_rfl) fun a hF => e_x (v := (.int .i64 e_5)) 3 hF hS rfl (ex_loadE1 0 Tryz.underlying3 rfl rfl ((at6).at) rfl rfl) rfl rfl (by kernel_rfl) (by kernel_rfl) (by kernel_rfl) (by kernel_rfl) fun a hF => e_p (v := s2.v) 4 hF rfl (ex_move rfl) rfl rfl (by kernel_rfl) (by kernel_rfl) (by kernel_rfl) fun a hF => e_p (v := (.int .i64 i_3)) 5 hF rfl (ex_move rfl) rfl rfl (by kernel_rfl) (by kernel_rfl) (by kernel_rfl) fun a hF => ?_
    obtain ⟨e_7, he_7, hb1⟩ := bindS hb1
    obtain ⟨vs8, at8, d8⟩ := h2.at he_7 1 rfl
    obtain rfl : vs8 = [(.int .i64 e_7)] := d8
    refine e_p (v := (elP s2 (i_3.toNat * 1))) 6 hF rfl (ex_indexAddr Tryz.underlying40 sz3 rfl rfl (h2.idx he_7)) rfl rfl (by kernel_rfl) (by kernel_rfl) (by kernel_rfl) fun a hF => e_x (v := (.int .i64 e_7)) 7 hF hS rfl (ex_loadE1 0 Tryz.underlying3 rfl rfl ((at8).at) rfl rfl) rfl rfl (by kernel_rfl) (by kernel_rfl) (by kernel_rfl) (by kernel_rfl) fun a hF => e_p (v := (.bool (e_5 != e_7))) 8 hF rfl (ex_ibin rfl rfl rfl) rfl rfl (by kernel_rfl) (by kernel_rfl) (by kernel_rfl) fun a hF => e_end (by kernel_rfl) (n_sq ?_) _
    rcases bcase (e_5 != e_7) with hc5 | hc5
    ·have hb1 := cond_f hc5 hb1
     refine q_cond_f hF rfl hc5 (q_skipc (n_ib (n_sq (q_region (q_x (v := (.int .i64 i_3)) hF hS (ex_move rfl) rfl rfl fun a hF => q_x (v := (.int .i64 (w64 (i_3 + 1)))) hF hS (ex_ibin rfl rfl rfl) rfl rfl fun a hF => q_x (v := (.int .i64 (w64 (i_3 + 1)))) hF hS (ex_assign rfl) rfl rfl fun a hF => q_end ?_)))))
     obtain rfl := someI hb1
     exact ⟨rfl, hF.sub ⟨rfl, rfl, rfl, trivial⟩, hS⟩
    ·have hb1 := cond_t hc5 hb1
     refine q_cond_t hF rfl hc5 (q_seq (q_seq (e_region ⟨[], []⟩ mixed fun w' hw' => ?_)))
     have hS := hS.below hw'
     refine e_p (v := s1.v) 0 hF rfl (ex_move rfl) rfl rfl (by kernel_rfl) (by kernel_rfl) (by kernel_rfl) fun a hF => e_p (v := (.int .i64 i_3)) 1 hF rfl (ex_move rfl) rfl rfl (by kernel_rfl) (by kernel_rfl) (by kernel_rfl) fun a hF => ?_
     obtain ⟨e_9, he_9, hb1⟩ := bindS hb1
     obtain ⟨vs10, at10, d10⟩ := h1.at he_9 1 rfl
     obtain rfl : vs10 = [(.int .i64 e_9)] := d10
     refine e_p (v := (elP s1 (i_3.toNat * 1))) 2 hF rfl (ex_indexAddr Tryz.underlying40 sz3 rfl rfl (h1.idx he_9)) rfl rfl (by kernel_rfl) (by kernel_rfl) (by kernel_rfl) fun a hF => e_x (v := (.int .i64 e_9)) 3 hF hS rfl (ex_loadE1 0 Tryz.underlying3 rfl rfl ((at10).at) rfl rfl) rfl rfl (by kernel_rfl) (by kernel_rfl) (by kernel_rfl) (by kernel_rfl) fun a hF => e_p (v := s2.v) 4 hF rfl (ex_move rfl) rfl rfl (by kernel_rfl) (by kernel_rfl) (by kernel_rfl) fun a hF => e_p (v := (.int .i64 i_3)) 5 hF rfl (ex_move rfl) rfl rfl (by kernel_rfl) (by kernel_rfl) (by kernel_rfl) fun a hF => ?_
     obtain ⟨e_11, he_11, hb1⟩ := bindS hb1
     obtain ⟨vs12, at12, d12⟩ := h2.at he_11 1 rfl
     obtain rfl : vs12 = [(.int .i64 e_11)] := d12
     refine e_p (v := (elP s2 (i_3.toNat * 1))) 6 hF rfl (ex_indexAddr Tryz.underlying40 sz3 rfl rfl (h2.idx he_11)) rfl rfl (by kernel_rfl) (by kernel_rfl) (by kernel_rfl) fun a hF => e_x (v := (.int .i64 e_11)) 7 hF hS rfl (ex_loadE1 0 Tryz.underlying3 rfl rfl ((at12).at) rfl rfl) rfl rfl (by kernel_rfl) (by kernel_rfl) (by kernel_rfl) (by kernel_rfl) fun a hF => e_p (v := (.bool (decide (e_9 < e_11)))) 8 hF rfl (ex_ibin rfl rfl rfl) rfl rfl (by kernel_rfl) (by kernel_rfl) (by kernel_rfl) fun a hF => e_end (by kernel_rfl) (n_sq ?_) _
     rcases bcase (decide (e_9 < e_11)) with hc6 | hc6
     ·have hb1 := cond_f hc6 hb1
      refine q_cond_f hF rfl hc6 (q_skipc (n_sq (q_seq (q_region (q_x (v := (.int .i64 1)) hF hS (ex_assign rfl) rfl rfl fun a hF => q_end (n_sq (q_ret (r_ib (r_sq ?_)))))))))
      obtain rfl := someI hb1
      refine ⟨nofun, .inr fun ho => ?_⟩
      subst ho
      refine r_ib (r_sq ?_)
      obtain rfl := someI hr
      exact ret_of hF hS rfl (.tmp rfl .nil) rfl
     ·have hb1 := cond_t hc6 hb1
      refine q_cond_t hF rfl hc6 (q_seq (q_region (q_x (v := (.int .i64 (-1))) hF hS (ex_assign rfl) rfl rfl fun a hF => q_end (n_sq (q_ret (r_sq (r_ib (r_sq ?_))))))))
      obtain rfl := someI hb1
      refine ⟨nofun, .inr fun ho => ?_⟩
      subst ho
      refine r_ib (r_sq ?_)
      obtain rfl := someI hr
      exact ret_of hF hS rfl (.tmp rfl .nil) rfl
 ·rintro e a w ⟨rfl, rfl, hF, hS⟩
  refine x_ib (n_sq ?_)
  refine q_seq (q_region (q_x (v := s1.v) hF hS (ex_move rfl) rfl rfl fun a hF => q_x (v := (.int .i64 (goLen p_a))) hF hS (ex_len Tryz.underlying40 rfl h1.len) rfl rfl fun a hF => q_x (v := s2.v) hF hS (ex_move rfl) rfl rfl fun a hF => q_x (v := (.int .i64 (goLen p_b))) hF hS (ex_len Tryz.underlying40 rfl h2.len) rfl rfl fun a hF => q_x (v := (.int .i64 (w64 ((goLen p_a) - (goLen p_b))))) hF hS (ex_ibin rfl rfl rfl) rfl rfl fun a hF => ?_))
  obtain ⟨t_13, ht_13, hr⟩ := bindS hr
  refine q_call (vs := [(.int .i64 (w64 ((goLen p_a) - (goLen p_b))))]) hF hS Tryz.func97 (by kernel_rfl) rfl rfl rfl (c_spec_l1Sign (w64 ((goLen p_a) - (goLen p_b))) t_13 ht_13 _ m hS.vis) ?_
  rintro a w _ rfl hF hS
  refine q_x (v := (.int .i64 t_13)) hF hS (ex_assign rfl) rfl rfl fun a hF => q_end (n_sq (q_ret ?_))
  obtain rfl := someI hr
  exact ret_of hF hS rfl (.tmp rfl .nil) rfl

theorem c_spec_rCompare (p_a : impl_Record) (p_b : impl_Record) (r : Int) (hr : spec_rCompare p_a p_b = some r) (w0 : World) (m : Mem) (hv : Vis m w0) (s1 : Sl) (h1 : Rd m s1 p_a.Values) (s2 : Sl) (h2 : Rd m s2 p_b.Values) :
  Ret Tryz.prog 49 [(.agg #[(.int .i64 p_a.Area), (.int .i64 p_a.House), s1.v]), (.agg #[(.int .i64 p_b.Area), (.int .i64 p_b.House), s2.v])] w0 (fun v _ => v = (.int .i64 r)) := by
 unfold spec_rCompare at hr
 refine ret_start Tryz.func49 rfl 25 rfl rfl m hv fun a hF hS => q_seq (q_region (q_box (cs := [(.int .i64 p_a.Area), (.int .i64 p_a.House), s1.v]) hF hS rfl rfl rfl fun a w b3 hF hS => q_box (cs := [(.int .i64 p_b.Area), (.int .i64 p_b.House), s2.v]) hF hS rfl rfl rfl fun a w b4 hF hS => q_x (v := (.int .i64 0)) hF hS (ex_assign rfl) rfl rfl fun a hF => q_end (n_sq (q_seq (q_seq (q_region (q_x (v := (.pointer (some ⟨b3, 0, none⟩))) hF hS (ex_fieldAddr Tryz.underlying44 rfl sz3 rfl rfl) rfl rfl fun a hF => q_x (v := (.int .i64 p_a.Area)) hF hS (ex_load1 1 0 Tryz.underlying3 rfl rfl rfl rfl) rfl rfl fun a hF => q_x (v := (.pointer (some ⟨b3, 1, none⟩))) hF hS (ex_fieldAddr Tryz.underlying44 rfl sz3 rfl rfl) rfl rfl fun a hF => q_x (v := (.int .i64 p_a.House)) hF hS (ex_load1 1 0 Tryz.underlying3 rfl rfl rfl rfl) rfl rfl fun a hF => q_do rfl fun _ hK => wp_buildSlice' (l := ([p_a.Area, p_a.House] : List Int)) (cells := [(.int .i64 p_a.Area), (.int .i64 p_a.House)]) hF hS Tryz.underlying40 inf3 rfl rfl (by kernel_rfl) rfl rfl rfl ⟨rfl, rfl, rfl⟩ rfl rfl fun a w q5 s5 hF hS h5 _ => hK _ _ (q_x (v := (.pointer (some ⟨b4, 0, none⟩))) hF hS (ex_fieldAddr Tryz.underlying44 rfl sz3 rfl rfl) rfl rfl fun a hF => q_x (v := (.int .i64 p_b.Area)) hF hS (ex_load1 1 0 Tryz.underlying3 rfl rfl rfl rfl) rfl rfl fun a hF => q_x (v := (.pointer (some ⟨b4, 1, none⟩))) hF hS (ex_fieldAddr Tryz.underlying44 rfl sz3 rfl rfl) rfl rfl fun a hF => q_x (v := (.int .i64 p_b.House)) hF hS (ex_load1 1 0 Tryz.underlying3 rfl rfl rfl rfl) rfl rfl fun a hF => q_do rfl fun _ hK => wp_buildSlice' (l := ([p_b.Area, p_b.House] : List Int)) (cells := [(.int .i64 p_b.Area), (.int .i64 p_b.House)]) hF hS Tryz.underlying40 inf3 rfl rfl (by kernel_rfl) rfl rfl rfl ⟨rfl, rfl, rfl⟩ rfl rfl fun a w q6 s6 hF hS h6 _ => hK _ _ ?_))))))))
 obtain ⟨m8, hl8, hv8, hz8⟩ := hS.lend
 obtain ⟨t_7, ht_7, hr⟩ := bindS hr
 refine q_call (vs := [s5.v, s6.v]) hF hS Tryz.func76 (by kernel_rfl) rfl rfl rfl (c_spec_l1Less ([p_a.Area, p_a.House] : List Int) ([p_b.Area, p_b.House] : List Int) t_7 ht_7 _ m8 hv8 s5 (h5.froz hl8 (hz8 1 _ rfl)) s6 (h6.froz hl8 (hz8 0 _ rfl))) ?_
 rintro a w _ rfl hF hS
 refine q_x (v := (.int .i64 t_7)) hF hS (ex_assign rfl) rfl rfl fun a hF => q_end (n_sq (q_seq (q_region (q_x (v := (.int .i64 t_7)) hF hS (ex_move rfl) rfl rfl fun a hF => q_x (v := (.bool (t_7 != 0))) hF hS (ex_ibin rfl rfl rfl) rfl rfl fun a hF => q_end (n_sq ?_)))))
 rcases bcase (t_7 != 0) with hc1 | hc1
 ·have hr := cond_f hc1 hr
  refine q_cond_f hF rfl hc1 (q_skipc (n_sq (q_seq (q_region (q_x (v := (.pointer (some ⟨b3, 2, none⟩))) hF hS (ex_fieldAddr Tryz.underlying44 rfl sz40 rfl rfl) rfl rfl fun a hF => q_x (v := s1.v) hF hS (ex_load1 3 0 Tryz.underlying40 rfl rfl rfl rfl) rfl rfl fun a hF => q_x (v := (.pointer (some ⟨b4, 2, none⟩))) hF hS (ex_fieldAddr Tryz.underlying44 rfl sz40 rfl rfl) rfl rfl fun a hF => q_x (v := s2.v) hF hS (ex_load1 2 0 Tryz.underlying40 rfl rfl rfl rfl) rfl rfl fun a hF => ?_)))))
  obtain ⟨t_9, ht_9, hr⟩ := bindS hr
  refine q_call (vs := [s1.v, s2.v]) hF hS Tryz.func76 (by kernel_rfl) rfl rfl rfl (c_spec_l1Less p_a.Values p_b.Values t_9 ht_9 _ m hS.vis s1 h1 s2 h2) ?_
  rintro a w _ rfl hF hS
  refine q_x (v := (.int .i64 t_9)) hF hS (ex_assign rfl) rfl rfl fun a hF => q_end (n_sq (q_ret ?_))
  obtain rfl := someI hr
  exact ret_of hF hS rfl (.tmp rfl .nil) rfl
 ·have hr := cond_t hc1 hr
  refine q_cond_t hF rfl hc1 (q_seq (q_region (q_x (v := (.int .i64 t_7)) hF hS (ex_move rfl) rfl rfl fun a hF => q_x (v := (.int .i64 t_7)) hF hS (ex_assign rfl) rfl rfl fun a hF => q_end (n_sq (q_ret (r_sq ?_))))))
  obtain rfl := someI hr
  exact ret_of hF hS rfl (.tmp rfl .nil) rfl

theorem c_spec_dSorted (p_l : List impl_Record) (r : (List impl_Record)) (hr : spec_dSorted p_l = some r) (w0 : World) (m : Mem) (hv : Vis m w0) (s1 : Sl) (h1 : Rd m s1 p_l) :
  Ret Tryz.prog 20 [s1.v] w0 (fun v w => ∃ (m' : Mem) (q0' : Piece) (s0' : Sl), v = s0'.v ∧ MLe [] w0.heap.size m m' ∧ St [] w0 w m' [q0'] ∧ OwnL m' 44 q0' s0' r) := by
 unfold spec_dSorted at hr
 refine ret_start Tryz.func20 rfl 49 rfl rfl m hv fun a hF hS => q_seq (q_region (q_x (v := nilS.v) hF hS (ex_assign rfl) rfl rfl fun a hF => q_end (n_sq (q_seq (q_region (q_x (v := nilS.v) hF hS (ex_assign rfl) rfl rfl fun a hF => q_end (n_sq (q_seq (q_seq (q_region (q_x (v := s1.v) hF hS (ex_move rfl) rfl rfl fun a hF => q_x (v := (.int .i64 (goLen p_l))) hF hS (ex_len Tryz.underlying24 rfl h1.len) rfl rfl fun a hF => q_x (v := (.int .i64 0)) hF hS (ex_move rfl) rfl rfl fun a hF => q_end (n_sq (q_block ?_)))))))))))))
 obtain ⟨out_43, hl1, hr⟩ := bindS hr
 refine q_loop (fun (s : (List impl_Record) × Int) a w => ∃ (m5 : Mem), ∃ (q3 : Piece), ∃ (s3 : Sl), ∃ out_2, ∃ t_4, s = (out_2, t_4) ∧ Fr a 49 [(3, s3.v), (7, s1.v), (8, (.int .i64 (goLen p_l))), (9, (.int .i64 t_4))] ∧ St [] w0 w m5 [q3] ∧ MLe [] w0.heap.size m m5 ∧ OwnL m5 44 q3 s3 out_2) (fun (out_43 : (List impl_Record)) e a w => ∃ (m45 : Mem), ∃ (q44 : Piece), ∃ (s44 : Sl), e = .exit 0 ∧ Fr a 49 [(3, s44.v)] ∧ St [] w0 w m45 [q44] ∧ MLe [] w0.heap.size m m45 ∧ OwnL m45 44 q44 s44 out_43) hl1 ⟨m, [], nilS, _, _, rfl, hF.sub ⟨rfl, rfl, rfl, rfl, trivial⟩, hS.sel [0] (by decide), (MLe.refl _ _), (OwnL.nil (α := impl_Record) m 44)⟩ ?_ ?_
 ·clear hF hS
  rintro s a w st ⟨m5, q3, s3, out_2, t_4, rfl, hF, hS, hm5, h3⟩ hb1
  unfold spec_dSorted_l1 at hb1
  refine q_seq (q_region (q_x (v := (.bool (decide (t_4 < (goLen p_l))))) hF hS (ex_ibin rfl rfl rfl) rfl rfl fun a hF => q_end (n_sq (q_seq ?_))))
  rcases bcase (decide (t_4 < (goLen p_l))) with hc2 | hc2
  ·have hb1 := cond_f hc2 hb1
   refine q_cond_f hF rfl hc2 (q_exit (x_sq ?_))
   obtain rfl := someI hb1
   exact ⟨nofun, .inl ⟨m5, q3, s3, rfl, hF.sub ⟨rfl, trivial⟩, hS, hm5, h3⟩⟩
  ·have hb1 := cond_t hc2 hb1
   refine q_cond_t hF rfl hc2 (q_skipc (n_sq (q_seq (q_block (q_seq (q_region ?_))))))
   obtain ⟨e_6, he_6, hb1⟩ := bindS hb1
   obtain ⟨vs7, at7, d7⟩ := (h1.mono hm5.le).at he_6 3 rfl
   obtain ⟨s8, rfl, h8⟩ : ∃ s8 : Sl, vs7 = [(.int .i64 e_6.Area), (.int .i64 e_6.House), s8.v] ∧ Rd m5 s8 e_6.Values := d7
   refine q_x (v := (elP s1 (t_4.toNat * 3))) hF hS (ex_indexAddr Tryz.underlying24 sz44 rfl rfl ((h1.mono hm5.le).idx he_6)) rfl rfl fun a hF => q_x (v := (.agg #[(.int .i64 e_6.Area), (.int .i64 e_6.House), s8.v])) hF hS (ex_loadEA (us := [(.int .i64 e_6.Area), (.int .i64 e_6.House), s8.v]) 0 Tryz.underlying44 rfl sz44 rfl ((at7).at) rfl rfl rfl) rfl rfl fun a hF => q_alloc (cs := [(.int .i64 0), (.int .i64 0), nilS.v]) hF hS rfl rfl rfl fun a w b9 hF hS => q_store (vs := [(.int .i64 e_6.Area), (.int .i64 e_6.House), s8.v]) (cs' := [(.int .i64 e_6.Area), (.int .i64 e_6.House), s8.v]) 0 0 hF hS sz44 rfl rfl rfl rfl rfl rfl rfl rfl fun a w hF hS => q_end (n_sq (q_seq (q_region (q_x (v := s3.v) hF hS (ex_move rfl) rfl rfl fun a hF => q_x (v := (.int .i64 (goLen out_2))) hF hS (ex_len Tryz.underlying24 rfl h3.len) rfl rfl fun a hF => q_x (v := (.int .i64 (goLen out_2))) hF hS (ex_assign rfl) rfl rfl fun a hF => q_end (n_sq (q_seq (q_region (q_x (v := s3.v) hF hS (ex_move rfl) rfl rfl fun a hF => q_x (v := (.agg #[(.int .i64 e_6.Area), (.int .i64 e_6.House), s8.v])) hF hS (ex_loadA (vs := [(.int .i64 e_6.Area), (.int .i64 e_6.House), s8.v]) 0 0 Tryz.underlying44 rfl sz44 rfl rfl rfl rfl) rfl rfl fun a hF => ?_))))))))
   obtain ⟨t_10, ht_10, hb1⟩ := bindS hb1
   refine q_call (vs := [(.agg #[(.int .i64 e_6.Area), (.int .i64 e_6.House), s8.v])]) hF hS Tryz.func48 (by kernel_rfl) rfl rfl rfl (c_spec_rOwn e_6 t_10 ht_10 _ m5 hS.vis s8 h8) ?_
   rintro a w _ ⟨q12, s12, rfl, hR11, h12⟩ hF hS2
   have hS : St _ _ _ _ [q12, [⟨b9, [(.int .i64 e_6.Area), (.int .i64 e_6.House), s8.v], 44⟩], q3] := hS.joinF hR11
   obtain ⟨m14, hm14, hS, hz14⟩ := hS.freeze
   have h14 := h12.froz hm14.le hz14
   refine q_do rfl fun _ hK => wp_buildSlice' (l := ([t_10] : List impl_Record)) (cells := [(.int .i64 t_10.Area), (.int .i64 t_10.House), s12.v]) hF hS Tryz.underlying24 inf44 rfl rfl (by kernel_rfl) rfl rfl rfl ⟨⟨s12, rfl, h14⟩, rfl⟩ rfl rfl fun a w q13 s13 hF hS h13 _ => hK _ _ ?_
   have hS : St _ _ _ _ [q3, q13, [⟨b9, [(.int .i64 e_6.Area), (.int .i64 e_6.House), s8.v], 44⟩]] := hS.sel [2, 0, 1] (by decide)
   obtain ⟨l_15, hl_15, hb1⟩ := bindS hb1
   refine q_do rfl fun _ hK => wp_append hF hS (h3.mono hm14.le) Tryz.underlying24 inf44 rfl rfl rfl rfl (h13.vw hS (j := 1) rfl) rfl (by decide) hl_15 rfl fun a w q16 s16 hF hS h16 => hK _ _ (q_x (v := s16.v) hF hS (ex_assign rfl) rfl rfl fun a hF => q_end (n_sq (q_seq (q_block ?_))))
   obtain ⟨o3, hl3, hb1⟩ := bindS hb1
   refine q_loop (fun (s : (List impl_Record) × Int) a w => ∃ (q18 : Piece), ∃ out_17, ∃ k_19, s = (out_17, k_19) ∧ Fr a 49 [(3, s16.v), (5, (.pointer (some ⟨b9, 0, none⟩))), (6, (.int .i64 k_19)), (7, s1.v), (8, (.int .i64 (goLen p_l))), (9, (.int .i64 t_4))] ∧ St [] w0 w m14 [q18, [⟨b9, [(.int .i64 e_6.Area), (.int .i64 e_6.House), s8.v], 44⟩]] ∧ OwnL m14 44 q18 s16 out_17) (fun (o : (List impl_Record) × Int) e a w => ∃ (q33 : Piece), ∃ out_32, ∃ k_34, o = (out_32, k_34) ∧ e = .exit 2 ∧ Fr a 49 [(3, s16.v), (5, (.pointer (some ⟨b9, 0, none⟩))), (6, (.int .i64 k_34)), (7, s1.v), (8, (.int .i64 (goLen p_l))), (9, (.int .i64 t_4))] ∧ St [] w0 w m14 [q33, [⟨b9, [(.int .i64 e_6.Area), (.int .i64 e_6.House), s8.v], 44⟩]] ∧ OwnL m14 44 q33 s16 out_32) hl3 ⟨q16, _, _, rfl, hF.sub ⟨rfl, rfl, rfl, rfl, rfl, rfl, trivial⟩, hS.mask [true, false, true], h16⟩ ?_ ?_
   ·clear hF hS
    rintro s a w st ⟨q18, out_17, k_19, rfl, hF, hS, h18⟩ hb3
    unfold spec_dSorted_l2 at hb3
    refine q_seq (q_seq ?_)
    obtain ⟨t_24, hj4, hb3⟩ := bindS hb3
    refine q_join (fun a w => Fr a 49 [(3, s16.v), (5, (.pointer (some ⟨b9, 0, none⟩))), (6, (.int .i64 k_19)), (7, s1.v), (8, (.int .i64 (goLen p_l))), (9, (.int .i64 t_4)), (31, (.bool t_24))] ∧ St [] w0 w m14 [q18, [⟨b9, [(.int .i64 e_6.Area), (.int .i64 e_6.House), s8.v], 44⟩]]) ?_ ?_
    ·refine e_region ⟨[], []⟩ mixed fun w' hw' => ?_
     have hS := hS.below hw'
     refine e_p (v := (.int .i64 k_19)) 0 hF rfl (ex_move rfl) rfl rfl (by kernel_rfl) (by kernel_rfl) (by kernel_rfl) fun a hF => e_p (v := (.bool (decide (0 < k_19)))) 1 hF rfl (ex_ibin rfl rfl rfl) rfl rfl (by kernel_rfl) (by kernel_rfl) (by kernel_rfl) fun a hF => e_p (v := (.bool (decide (0 < k_19)))) 2 hF rfl (ex_move rfl) rfl rfl (by kernel_rfl) (by kernel_rfl) (by kernel_rfl) fun a hF => ?_
     rcases bcase (decide (0 < k_19)) with hc5 | hc5
     ·have hj4 := cond_f hc5 hj4
      refine e_skipP 3 hF rfl (wanted_f hF rfl rfl rfl hc5 rfl) rfl (by kernel_rfl) (by kernel_rfl) (by kernel_rfl) fun a hF => e_skipP 4 hF rfl (wanted_f hF rfl rfl rfl hc5 rfl) rfl (by kernel_rfl) (by kernel_rfl) (by kernel_rfl) fun a hF => e_skipP 5 hF rfl (wanted_f hF rfl rfl rfl hc5 rfl) rfl (by kernel_rfl) (by kernel_rfl) (by kernel_rfl) fun a hF => e_skipP 6 hF rfl (wanted_f hF rfl rfl rfl hc5 rfl) rfl (by kernel_rfl) (by kernel_rfl) (by kernel_rfl) fun a hF => e_skipP 7 hF rfl (wanted_f hF rfl rfl rfl hc5 rfl) rfl (by kernel_rfl) (by kernel_rfl) (by kernel_rfl) fun a hF => e_skipP 8 hF rfl (wanted_f hF rfl rfl rfl hc5 rfl) rfl (by kernel_rfl) (by kernel_rfl) (by kernel_rfl) fun a hF => e_skipP 9 hF rfl (wanted_f hF rfl rfl rfl hc5 rfl) rfl (by kernel_rfl) (by kernel_rfl) (by kernel_rfl) fun a hF => e_skipP 10 hF rfl (wanted_f hF rfl rfl rfl hc5 rfl) rfl (by kernel_rfl) (by kernel_rfl) (by kernel_rfl) fun a hF => e_p (v := (.bool false)) 11 hF rfl (ex_pick_f rfl rfl hc5) rfl rfl (by kernel_rfl) (by kernel_rfl) (by kernel_rfl) fun a hF => e_end (by kernel_rfl) (n_jn ?_) _
      obtain rfl := someI hj4
      exact ⟨hF.sub ⟨rfl, rfl, rfl, rfl, rfl, rfl, rfl, trivial⟩, hS⟩
     ·have hj4 := cond_t hc5 hj4
      refine e_pg (v := s16.v) 3 hF rfl (ex_move rfl) (wanted_t hF rfl rfl rfl hc5) rfl (by kernel_rfl) (by kernel_rfl) (by kernel_rfl) fun a hF => e_pg (v := (.int .i64 k_19)) 4 hF rfl (ex_move rfl) (wanted_t hF rfl rfl rfl hc5) rfl (by kernel_rfl) (by kernel_rfl) (by kernel_rfl) fun a hF => e_pg (v := (.int .i64 (w64 (k_19 - 1)))) 5 hF rfl (ex_ibin rfl rfl rfl) (wanted_t hF rfl rfl rfl hc5) rfl (by kernel_rfl) (by kernel_rfl) (by kernel_rfl) fun a hF => ?_
      obtain ⟨e_20, he_20, hj4⟩ := bindS hj4
      obtain ⟨vs21, at21, d21⟩ := h18.at he_20 3 rfl
      obtain ⟨s22, rfl, h22⟩ : ∃ s22 : Sl, vs21 = [(.int .i64 e_20.Area), (.int .i64 e_20.House), s22.v] ∧ Rd m14 s22 e_20.Values := d21
      refine e_pg (v := (elP s16 ((w64 (k_19 - 1)).toNat * 3))) 6 hF rfl (ex_indexAddr Tryz.underlying24 sz44 rfl rfl (h18.idx he_20)) (wanted_t hF rfl rfl rfl hc5) rfl (by kernel_rfl) (by kernel_rfl) (by kernel_rfl) fun a hF => e_xg (v := (.agg #[(.int .i64 e_20.Area), (.int .i64 e_20.House), s22.v])) 7 hF hS rfl (ex_loadEA (us := [(.int .i64 e_20.Area), (.int .i64 e_20.House), s22.v]) 0 Tryz.underlying44 rfl sz44 rfl (at21.at 0 rfl) rfl rfl rfl) (wanted_t hF rfl rfl rfl hc5) rfl (by kernel_rfl) (by kernel_rfl) (by kernel_rfl) (by kernel_rfl) fun a hF => e_xg (v := (.agg #[(.int .i64 e_6.Area), (.int .i64 e_6.House), s8.v])) 8 hF hS rfl (ex_loadA (vs := [(.int .i64 e_6.Area), (.int .i64 e_6.House), s8.v]) 1 0 Tryz.underlying44 rfl sz44 rfl rfl rfl rfl) (wanted_t hF rfl rfl rfl hc5) rfl (by kernel_rfl) (by kernel_rfl) (by kernel_rfl) (by kernel_rfl) fun a hF => e_one 9 (by kernel_rfl) ?_
      obtain ⟨t_23, ht_23, hj4⟩ := bindS hj4
      refine e_callg (vs := [(.agg #[(.int .i64 e_20.Area), (.int .i64 e_20.House), s22.v]), (.agg #[(.int .i64 e_6.Area), (.int .i64 e_6.House), s8.v])]) hF hS rfl (wanted_t hF rfl rfl rfl hc5) Tryz.func49 (by kernel_rfl) rfl rfl rfl (c_spec_rCompare e_20 e_6 t_23 ht_23 _ m14 hS.vis s22 h22 s8 (h8.mono hm14.le)) ?_
      rintro a w _ rfl hF hS
      refine e_pg (v := (.bool (decide (0 < t_23)))) 10 hF rfl (ex_ibin rfl rfl rfl) (wanted_t hF rfl rfl rfl hc5) rfl (by kernel_rfl) (by kernel_rfl) (by kernel_rfl) fun a hF => e_p (v := (.bool (decide (0 < t_23)))) 11 hF rfl (ex_pick_t rfl rfl hc5) rfl rfl (by kernel_rfl) (by kernel_rfl) (by kernel_rfl) fun a hF => e_end (by kernel_rfl) (n_jn ?_) _
      obtain rfl := someI hj4
      exact ⟨hF.sub ⟨rfl, rfl, rfl, rfl, rfl, rfl, rfl, trivial⟩, hS⟩
    ·rintro a w ⟨hF, hS⟩
     refine n_sq ?_
     rcases bcase (t_24) with hc6 | hc6
     ·have hb3 := cond_f hc6 hb3
      refine q_cond_f hF rfl hc6 (q_exit (x_sq ?_))
      obtain rfl := someI hb3
      exact ⟨nofun, .inl ⟨q18, _, _, rfl, rfl, hF.sub ⟨rfl, rfl, rfl, rfl, rfl, rfl, trivial⟩, hS, h18⟩⟩
     ·have hb3 := cond_t hc6 hb3
      refine q_cond_t hF rfl hc6 (q_skipc (n_sq (q_block (q_seq (q_region (q_x (v := s16.v) hF hS (ex_move rfl) rfl rfl fun a hF => q_x (v := (.int .i64 k_19)) hF hS (ex_move rfl) rfl rfl fun a hF => q_x (v := s16.v) hF hS (ex_move rfl) rfl rfl fun a hF => q_x (v := (.int .i64 k_19)) hF hS (ex_move rfl) rfl rfl fun a hF => q_x (v := (.int .i64 (w64 (k_19 - 1)))) hF hS (ex_ibin rfl rfl rfl) rfl rfl fun a hF => ?_))))))
      obtain ⟨e_25, he_25, hb3⟩ := bindS hb3
      obtain ⟨vs26, at26, d26⟩ := h18.at he_25 3 rfl
      obtain ⟨s27, rfl, h27⟩ : ∃ s27 : Sl, vs26 = [(.int .i64 e_25.Area), (.int .i64 e_25.House), s27.v] ∧ Rd m14 s27 e_25.Values := d26
      refine q_x (v := (elP s16 ((w64 (k_19 - 1)).toNat * 3))) hF hS (ex_indexAddr Tryz.underlying24 sz44 rfl rfl (h18.idx he_25)) rfl rfl fun a hF => q_x (v := (.agg #[(.int .i64 e_25.Area), (.int .i64 e_25.House), s27.v])) hF hS (ex_loadEA (us := [(.int .i64 e_25.Area), (.int .i64 e_25.House), s27.v]) 0 Tryz.underlying44 rfl sz44 rfl (at26.at 0 rfl) rfl rfl rfl) rfl rfl fun a hF => ?_
      obtain ⟨e_28, he_28, hb3⟩ := bindS hb3
      obtain ⟨vs29, at29, d29⟩ := h18.at he_28 3 rfl
      obtain ⟨s30, rfl, h30⟩ : ∃ s30 : Sl, vs29 = [(.int .i64 e_28.Area), (.int .i64 e_28.House), s30.v] ∧ Rd m14 s30 e_28.Values := d29
      refine q_x (v := (elP s16 (k_19.toNat * 3))) hF hS (ex_indexAddr Tryz.underlying24 sz44 rfl rfl (h18.idx he_28)) rfl rfl fun a hF => q_do rfl fun _ hK => wp_storeE (e' := e_25) (us := [(.int .i64 e_25.Area), (.int .i64 e_25.House), s27.v]) (vs := [(.int .i64 e_28.Area), (.int .i64 e_28.House), s30.v]) 0 hF hS h18 sz44 rfl rfl rfl rfl rfl rfl rfl he_28 at29 rfl rfl ⟨s27, rfl, h27⟩ fun w q31 hS h31 => hK _ _ (q_end (n_sq (q_region (q_x (v := (.int .i64 k_19)) hF hS (ex_move rfl) rfl rfl fun a hF => q_x (v := (.int .i64 (w64 (k_19 - 1)))) hF hS (ex_ibin rfl rfl rfl) rfl rfl fun a hF => q_x (v := (.int .i64 (w64 (k_19 - 1)))) hF hS (ex_assign rfl) rfl rfl fun a hF => q_end (n_ib ?_)))))
      obtain rfl := someI hb3
      exact ⟨rfl, q31, _, _, rfl, hF.sub ⟨rfl, rfl, rfl, rfl, rfl, rfl, trivial⟩, hS, h31⟩
   ·rintro e a w ⟨q33, out_32, k_34, rfl, rfl, hF, hS, h33⟩
    refine x_ib (n_sq ?_)
    refine q_region (q_x (v := s16.v) hF hS (ex_move rfl) rfl rfl fun a hF => q_x (v := (.int .i64 k_34)) hF hS (ex_move rfl) rfl rfl fun a hF => q_x (v := (.agg #[(.int .i64 e_6.Area), (.int .i64 e_6.House), s8.v])) hF hS (ex_loadA (vs := [(.int .i64 e_6.Area), (.int .i64 e_6.House), s8.v]) 1 0 Tryz.underlying44 rfl sz44 rfl rfl rfl rfl) rfl rfl fun a hF => ?_)
    obtain ⟨t_35, ht_35, hb1⟩ := bindS hb1
    refine q_call (vs := [(.agg #[(.int .i64 e_6.Area), (.int .i64 e_6.House), s8.v])]) hF hS Tryz.func48 (by kernel_rfl) rfl rfl rfl (c_spec_rOwn e_6 t_35 ht_35 _ m14 hS.vis s8 (h8.mono hm14.le)) ?_
    rintro a w _ ⟨q37, s37, rfl, hR36, h37⟩ hF hS2
    have hS : St _ _ _ _ [q37, q33, [⟨b9, [(.int .i64 e_6.Area), (.int .i64 e_6.House), s8.v], 44⟩]] := hS.joinF hR36
    obtain ⟨e_38, he_38, hb1⟩ := bindS hb1
    obtain ⟨vs39, at39, d39⟩ := h33.at he_38 3 rfl
    obtain ⟨s40, rfl, h40⟩ : ∃ s40 : Sl, vs39 = [(.int .i64 e_38.Area), (.int .i64 e_38.House), s40.v] ∧ Rd m14 s40 e_38.Values := d39
    refine q_x (v := (elP s16 (k_34.toNat * 3))) hF hS (ex_indexAddr Tryz.underlying24 sz44 rfl rfl (h33.idx he_38)) rfl rfl fun a hF => ?_
    obtain ⟨m41, hm41, hS, hz41⟩ := hS.freeze
    have h41 := h37.froz hm41.le hz41
    refine q_do rfl fun _ hK => wp_storeE (e' := t_35) (us := [(.int .i64 t_35.Area), (.int .i64 t_35.House), s37.v]) (vs := [(.int .i64 e_38.Area), (.int .i64 e_38.House), s40.v]) 0 hF hS (h33.mono hm41.le) sz44 rfl rfl rfl rfl rfl rfl rfl he_38 at39 rfl rfl ⟨s37, rfl, h41⟩ fun w q42 hS h42 => hK _ _ (q_end (n_ib (n_sq (q_region (q_x (v := (.int .i64 (w64 (t_4 + 1)))) hF hS (ex_ibin rfl rfl rfl) rfl rfl fun a hF => q_x (v := (.int .i64 (w64 (t_4 + 1)))) hF hS (ex_move rfl) rfl rfl fun a hF => q_end ?_)))))
    obtain rfl := someI hb1
    exact ⟨rfl, m41, q42, s16, _, _, rfl, hF.sub ⟨rfl, rfl, rfl, rfl, trivial⟩, hS.mask [true, false], ((hm5.trans hm14).trans hm41), h42⟩
 ·rintro e a w ⟨m45, q44, s44, rfl, hF, hS, hm45, h44⟩
  refine x_ib (n_sq ?_)
  refine q_seq (q_region (q_x (v := s44.v) hF hS (ex_move rfl) rfl rfl fun a hF => q_x (v := s44.v) hF hS (ex_assign rfl) rfl rfl fun a hF => q_end (n_sq (q_ret ?_))))
  obtain rfl := someI hr
  exact ret_of hF hS rfl (.tmp rfl .nil) ⟨m45, q44, s44, rfl, hm45, hS.sel [0] (by decide), h44⟩

theorem c_spec_SortData (p_s : List impl_Variable) (p_l : List impl_Record) (r : (List impl_Record) × Bool) (hr : spec_SortData p_s p_l = some r) (w0 : World) (m : Mem) (hv : Vis m w0) (s1 : Sl) (h1 : Rd m s1 p_s) (s2 : Sl) (h2 : Rd m s2 p_l) :
  Ret Tryz.prog 6 [s1.v, s2.v] w0 (fun v w => ∃ (m' : Mem) (q0' : Piece) (s0' : Sl), v = (.tuple #[s0'.v, (.bool r.2)]) ∧ MLe [] w0.heap.size m m' ∧ St [] w0 w m' [q0'] ∧ OwnL m' 44 q0' s0' r.1) := by
 unfold spec_SortData at hr
 refine ret_start Tryz.func6 rfl 12 rfl rfl m hv fun a hF hS => q_seq (q_region (q_x (v := nilS.v) hF hS (ex_assign rfl) rfl rfl fun a hF => q_x (v := (.bool false)) hF hS (ex_assign rfl) rfl rfl fun a hF => q_end (n_sq (q_seq (q_seq (q_region (q_x (v := s1.v) hF hS (ex_move rfl) rfl rfl fun a hF => q_x (v := s2.v) hF hS (ex_move rfl) rfl rfl fun a hF => ?_)))))))
 obtain ⟨t_3, ht_3, hr⟩ := bindS hr
 refine q_call (vs := [s1.v, s2.v]) hF hS Tryz.func19 (by kernel_rfl) rfl rfl rfl (c_spec_dInput p_s p_l t_3 ht_3 _ m hS.vis s1 h1 s2 h2) ?_
 rintro a w _ rfl hF hS
 refine q_x (v := (.bool (!t_3))) hF hS (ex_not rfl) rfl rfl fun a hF => q_end (n_sq ?_)
 rcases bcase (!t_3) with hc1 | hc1
 ·have hr := cond_f hc1 hr
  refine q_cond_f hF rfl hc1 (q_skipc (n_sq (q_seq (q_region (q_x (v := s2.v) hF hS (ex_move rfl) rfl rfl fun a hF => ?_)))))
  obtain ⟨t_4, ht_4, hr⟩ := bindS hr
  refine q_call (vs := [s2.v]) hF hS Tryz.func20 (by kernel_rfl) rfl rfl rfl (c_spec_dSorted p_l t_4 ht_4 _ m hS.vis s2 h2) ?_
  have hT := hS
  rintro a w _ ⟨m5, q6, s6, rfl, hm5, hR5, h6⟩ hF hS2
  have hS : St _ _ _ _ [q6] := hS.join hR5 hm5
  have hm5 := MLe.weakX (O0 := []) hT hm5
  refine q_x (v := s6.v) hF hS (ex_assign rfl) rfl rfl fun a hF => q_x (v := (.bool true)) hF hS (ex_assign rfl) rfl rfl fun a hF => q_end (n_sq (q_ret ?_))
  obtain rfl := someI hr
  exact ret_of hF hS rfl (.tmp rfl (.tmp rfl .nil)) ⟨m5, q6, s6, rfl, hm5, hS.sel [0] (by decide), h6⟩
 ·have hr := cond_t hc1 hr
  refine q_cond_t hF rfl hc1 (q_seq (q_region (q_x (v := nilS.v) hF hS (ex_assign rfl) rfl rfl fun a hF => q_x (v := (.bool false)) hF hS (ex_assign rfl) rfl rfl fun a hF => q_end (n_sq (q_ret (r_sq ?_))))))
  obtain rfl := someI hr
  exact ret_of hF hS rfl (.tmp rfl (.tmp rfl .nil)) ⟨m, [], nilS, rfl, (MLe.refl _ _), hS.sel [0] (by decide), (OwnL.nil (α := impl_Record) m 44)⟩

theorem cB_spec_l1Num (rcf : Int → Option ((List UInt8))) (ih : ∀ (p_n : Int) (r : (List UInt8)) (hr : rcf p_n = some r) (w0 : World) (m : Mem) (hv : Vis m w0),
  Ret Tryz.prog 51 [(.int .i64 p_n)] w0 (fun v _ => v = (strV r))) :
  ∀ (p_n : Int) (r : (List UInt8)) (hr : spec_l1Num_B rcf p_n = some r) (w0 : World) (m : Mem) (hv : Vis m w0),
  Ret Tryz.prog 51 [(.int .i64 p_n)] w0 (fun v _ => v = (strV r)) := by
 intro p_n r hr w0 m hv
 unfold spec_l1Num_B at hr
 refine ret_start Tryz.func51 rfl 20 rfl rfl m hv fun a hF hS => q_seq (q_region (q_x (v := (strV ([] : List UInt8))) hF hS (ex_assign rfl) rfl rfl fun a hF => q_end (n_sq (q_seq (q_seq (q_region (q_x (v := (.int .i64 p_n)) hF hS (ex_move rfl) rfl rfl fun a hF => q_x (v := (.bool (decide (p_n < 10)))) hF hS (ex_ibin rfl rfl rfl) rfl rfl fun a hF => q_end (n_sq ?_))))))))
 rcases bcase (decide (p_n < 10)) with hc1 | hc1
 ·have hr := cond_f hc1 hr
  refine q_cond_f hF rfl hc1 (q_skipc (n_sq (q_seq ?_)))
  obtain ⟨t_12, hj2, hr⟩ := bindS hr
  refine q_join (fun a w => Fr a 20 [(2, (strV t_12))] ∧ St [] w0 w m []) ?_ ?_
  ·refine e_region ⟨[], []⟩ mixed fun w' hw' => ?_
   have hS := hS.below hw'
   refine e_p (v := (.int .i64 p_n)) 0 hF rfl (ex_move rfl) rfl rfl (by kernel_rfl) (by kernel_rfl) (by kernel_rfl) fun a hF => ?_
   obtain ⟨t_1, ht_1, hj2⟩ := bindS hj2
   refine e_p (v := (.int .i64 t_1)) 1 hF rfl (ex_quo rfl rfl ht_1) rfl rfl (by kernel_rfl) (by kernel_rfl) (by kernel_rfl) fun a hF => e_p (v := (.int .i64 p_n)) 3 hF rfl (ex_move rfl) rfl rfl (by kernel_rfl) (by kernel_rfl) (by kernel_rfl) fun a hF => ?_
   obtain ⟨t_4, ht_4, hj2⟩ := bindS hj2
   refine e_p (v := (.int .i64 t_4)) 4 hF rfl (ex_rem rfl rfl ht_4) rfl rfl (by kernel_rfl) (by kernel_rfl) (by kernel_rfl) fun a hF => e_p (v := (.int .i64 (w64 (48 + t_4)))) 5 hF rfl (ex_ibin rfl rfl rfl) rfl rfl (by kernel_rfl) (by kernel_rfl) (by kernel_rfl) fun a hF => e_p (v := (.int .u8 (IntKind.wrap .u8 (w64 (48 + t_4))))) 6 hF rfl (ex_conv Tryz.underlying3 Tryz.underlying5 rfl) rfl rfl (by kernel_rfl) (by kernel_rfl) (by kernel_rfl) fun a hF => ?_
   obtain ⟨t_9, ht_9, hj2⟩ := bindS hj2
   obtain ⟨t_11, ht_11, hj2⟩ := bindS hj2
   refine e_all [2, 7] (by kernel_rfl) rfl ⟨?_, ?_, trivial⟩
   ·refine e_call (vs := [(.int .i64 t_1)]) hF hS rfl Tryz.func51 (by kernel_rfl) rfl rfl rfl (ih t_1 t_9 ht_9 _ m hS.vis) ?_
    rintro a w _ rfl hF hS
    refine e_one 7 (by kernel_rfl) (e_op rfl rfl fun _ hK => wp_buildSlice' (l := ([(⟨(IntKind.wrap .u8 (w64 (48 + t_4)))⟩ : K .u8)] : List (K .u8))) (cells := [(.int .u8 (IntKind.wrap .u8 (w64 (48 + t_4))))]) hF hS Tryz.underlying22 inf5 rfl rfl (by kernel_rfl) rfl rfl rfl ⟨rfl, rfl⟩ rfl rfl fun a w q10 s10 hF hS h10 hb => hK _ _ hb (e_x (v := (strV (goBytes ([(⟨(IntKind.wrap .u8 (w64 (48 + t_4)))⟩ : K .u8)] : List (K .u8))))) 8 hF hS rfl (ex_toStr Tryz.underlying22 Tryz.underlying5 Tryz.underlying9 rfl (fun X w0 w hS => h10.vw hS (j := 0) rfl)) rfl rfl (by kernel_rfl) (by kernel_rfl) (by kernel_rfl) (by kernel_rfl) fun a hF => e_p (v := (strV t_11)) 9 hF rfl (ex_strCat rfl rfl ht_11) rfl rfl (by kernel_rfl) (by kernel_rfl) (by kernel_rfl) fun a hF => e_p (v := (strV t_11)) 10 hF rfl (ex_assign rfl) rfl rfl (by kernel_rfl) (by kernel_rfl) (by kernel_rfl) fun a hF => e_end (by kernel_rfl) (n_jn ?_) _))
    obtain rfl := someI hj2
    exact ⟨hF.sub ⟨rfl, trivial⟩, hS.mask [false]⟩
   ·refine e_op rfl rfl fun _ hK => wp_buildSlice' (l := ([(⟨(IntKind.wrap .u8 (w64 (48 + t_4)))⟩ : K .u8)] : List (K .u8))) (cells := [(.int .u8 (IntKind.wrap .u8 (w64 (48 + t_4))))]) hF hS Tryz.underlying22 inf5 rfl rfl (by kernel_rfl) rfl rfl rfl ⟨rfl, rfl⟩ rfl rfl fun a w q10 s10 hF hS h10 hb => hK _ _ hb (e_x (v := (strV (goBytes ([(⟨(IntKind.wrap .u8 (w64 (48 + t_4)))⟩ : K .u8)] : List (K .u8))))) 8 hF hS rfl (ex_toStr Tryz.underlying22 Tryz.underlying5 Tryz.underlying9 rfl (fun X w0 w hS => h10.vw hS (j := 0) rfl)) rfl rfl (by kernel_rfl) (by kernel_rfl) (by kernel_rfl) (by kernel_rfl) fun a hF => e_one 2 (by kernel_rfl) (e_call (vs := [(.int .i64 t_1)]) hF hS rfl Tryz.func51 (by kernel_rfl) rfl rfl rfl (ih t_1 t_9 ht_9 _ m hS.vis) ?_))
    rintro a w _ rfl hF hS
    refine e_p (v := (strV t_11)) 9 hF rfl (ex_strCat rfl rfl ht_11) rfl rfl (by kernel_rfl) (by kernel_rfl) (by kernel_rfl) fun a hF => e_p (v := (strV t_11)) 10 hF rfl (ex_assign rfl) rfl rfl (by kernel_rfl) (by kernel_rfl) (by kernel_rfl) fun a hF => e_end (by kernel_rfl) (n_jn ?_) _
    obtain rfl := someI hj2
    exact ⟨hF.sub ⟨rfl, trivial⟩, hS.mask [false]⟩
  ·rintro a w ⟨hF, hS⟩
   refine n_sq (q_ret ?_)
   obtain rfl := someI hr
   exact ret_of hF hS rfl (.tmp rfl .nil) rfl
 ·have hr := cond_t hc1 hr
  refine q_cond_t hF rfl hc1 (q_seq (q_region (q_x (v := (.int .i64 p_n)) hF hS (ex_move rfl) rfl rfl fun a hF => q_x (v := (.int .i64 (w64 (48 + p_n)))) hF hS (ex_ibin rfl rfl rfl) rfl rfl fun a hF => q_x (v := (.int .u8 (IntKind.wrap .u8 (w64 (48 + p_n))))) hF hS (ex_conv Tryz.underlying3 Tryz.underlying5 rfl) rfl rfl fun a hF => q_do rfl fun _ hK => wp_buildSlice' (l := ([(⟨(IntKind.wrap .u8 (w64 (48 + p_n)))⟩ : K .u8)] : List (K .u8))) (cells := [(.int .u8 (IntKind.wrap .u8 (w64 (48 + p_n))))]) hF hS Tryz.underlying22 inf5 rfl rfl (by kernel_rfl) rfl rfl rfl ⟨rfl, rfl⟩ rfl rfl fun a w q13 s13 hF hS h13 _ => hK _ _ (q_x (v := (strV (goBytes ([(⟨(IntKind.wrap .u8 (w64 (48 + p_n)))⟩ : K .u8)] : List (K .u8))))) hF hS (ex_toStr Tryz.underlying22 Tryz.underlying5 Tryz.underlying9 rfl (fun X w0 w hS => h13.vw hS (j := 0) rfl)) rfl rfl fun a hF => q_x (v := (strV (goBytes ([(⟨(IntKind.wrap .u8 (w64 (48 + p_n)))⟩ : K .u8)] : List (K .u8))))) hF hS (ex_assign rfl) rfl rfl fun a hF => q_end (n_sq (q_ret (r_sq ?_)))))))
  obtain rfl := someI hr
  exact ret_of hF hS rfl (.tmp rfl .nil) rfl

theorem ck_spec_l1Num : ∀ (k : Nat), ∀ (p_n : Int) (r : (List UInt8)) (hr : spec_l1Num_k k p_n = some r) (w0 : World) (m : Mem) (hv : Vis m w0),
  Ret Tryz.prog 51 [(.int .i64 p_n)] w0 (fun v _ => v = (strV r))
 | 0 => fun _ _ hr => by cases hr
 | k + 1 => cB_spec_l1Num _ (ck_spec_l1Num k)

theorem c_spec_l1Num : ∀ (p_n : Int) (r : (List UInt8)) (hr : spec_l1Num p_n = some r) (w0 : World) (m : Mem) (hv : Vis m w0),
  Ret Tryz.prog 51 [(.int .i64 p_n)] w0 (fun v _ => v = (strV r)) := by
 intro p_n r hr
 obtain ⟨k, hk⟩ := recO_run hr
 exact ck_spec_l1Num k p_n r hk

theorem c_spec_dText (p_l : List impl_Record) (r : (List UInt8)) (hr : spec_dText p_l = some r) (w0 : World) (m : Mem) (hv : Vis m w0) (s1 : Sl) (h1 : Rd m s1 p_l) :
  Ret Tryz.prog 22 [s1.v] w0 (fun v _ => v = (strV r)) := by
 unfold spec_dText at hr
 refine ret_start Tryz.func22 rfl 41 rfl rfl m hv fun a hF hS => q_seq (q_region (q_x (v := (strV ([] : List UInt8))) hF hS (ex_assign rfl) rfl rfl fun a hF => q_end (n_sq (q_seq (q_region (q_x (v := (strV ([] : List UInt8))) hF hS (ex_assign rfl) rfl rfl fun a hF => q_end (n_sq (q_seq (q_seq (q_region (q_x (v := s1.v) hF hS (ex_move rfl) rfl rfl fun a hF => q_x (v := (.int .i64 (goLen p_l))) hF hS (ex_len Tryz.underlying24 rfl h1.len) rfl rfl fun a hF => q_x (v := (.int .i64 0)) hF hS (ex_move rfl) rfl rfl fun a hF => q_end (n_sq (q_block ?_)))))))))))))
 obtain ⟨out_24, hl1, hr⟩ := bindS hr
 refine q_loop (fun (s : (List UInt8) × Int) a w => ∃ out_2, ∃ t_3, s = (out_2, t_3) ∧ Fr a 41 [(3, (strV out_2)), (8, s1.v), (9, (.int .i64 (goLen p_l))), (10, (.int .i64 t_3))] ∧ St [] w0 w m []) (fun (out_24 : (List UInt8)) e a w => e = .exit 0 ∧ Fr a 41 [(3, (strV out_24))] ∧ St [] w0 w m []) hl1 ⟨_, _, rfl, hF.sub ⟨rfl, rfl, rfl, rfl, trivial⟩, hS⟩ ?_ ?_
 ·clear hF hS
  rintro s a w st ⟨out_2, t_3, rfl, hF, hS⟩ hb1
  unfold spec_dText_l1 at hb1
  refine q_seq (q_region (q_x (v := (.bool (decide (t_3 < (goLen p_l))))) hF hS (ex_ibin rfl rfl rfl) rfl rfl fun a hF => q_end (n_sq (q_seq ?_))))
  rcases bcase (decide (t_3 < (goLen p_l))) with hc2 | hc2
  ·have hb1 := cond_f hc2 hb1
   refine q_cond_f hF rfl hc2 (q_exit (x_sq ?_))
   obtain rfl := someI hb1
   exact ⟨nofun, .inl ⟨rfl, hF.sub ⟨rfl, trivial⟩, hS⟩⟩
  ·have hb1 := cond_t hc2 hb1
   refine q_cond_t hF rfl hc2 (q_skipc (n_sq (q_seq (q_block (q_seq (q_region ?_))))))
   obtain ⟨e_4, he_4, hb1⟩ := bindS hb1
   obtain ⟨vs5, at5, d5⟩ := h1.at he_4 3 rfl
   obtain ⟨s6, rfl, h6⟩ : ∃ s6 : Sl, vs5 = [(.int .i64 e_4.Area), (.int .i64 e_4.House), s6.v] ∧ Rd m s6 e_4.Values := d5
   refine q_x (v := (elP s1 (t_3.toNat * 3))) hF hS (ex_indexAddr Tryz.underlying24 sz44 rfl rfl (h1.idx he_4)) rfl rfl fun a hF => q_x (v := (.agg #[(.int .i64 e_4.Area), (.int .i64 e_4.House), s6.v])) hF hS (ex_loadEA (us := [(.int .i64 e_4.Area), (.int .i64 e_4.House), s6.v]) 0 Tryz.underlying44 rfl sz44 rfl ((at5).at) rfl rfl rfl) rfl rfl fun a hF => q_alloc (cs := [(.int .i64 0), (.int .i64 0), nilS.v]) hF hS rfl rfl rfl fun a w b7 hF hS => q_store (vs := [(.int .i64 e_4.Area), (.int .i64 e_4.House), s6.v]) (cs' := [(.int .i64 e_4.Area), (.int .i64 e_4.House), s6.v]) 0 0 hF hS sz44 rfl rfl rfl rfl rfl rfl rfl rfl fun a w hF hS => q_end (n_sq (q_seq (e_region ⟨[], []⟩ mixed fun w' hw' => ?_)))
   have hS := hS.below hw'
   refine e_p (v := (strV out_2)) 0 hF rfl (ex_move rfl) rfl rfl (by kernel_rfl) (by kernel_rfl) (by kernel_rfl) fun a hF => e_p (v := (.pointer (some ⟨b7, 0, none⟩))) 1 hF rfl (ex_fieldAddr Tryz.underlying44 rfl sz3 rfl rfl) rfl rfl (by kernel_rfl) (by kernel_rfl) (by kernel_rfl) fun a hF => e_x (v := (.int .i64 e_4.Area)) 2 hF hS rfl (ex_load1 0 0 Tryz.underlying3 rfl rfl rfl rfl) rfl rfl (by kernel_rfl) (by kernel_rfl) (by kernel_rfl) (by kernel_rfl) fun a hF => e_p (v := (.pointer (some ⟨b7, 1, none⟩))) 5 hF rfl (ex_fieldAddr Tryz.underlying44 rfl sz3 rfl rfl) rfl rfl (by kernel_rfl) (by kernel_rfl) (by kernel_rfl) fun a hF => e_x (v := (.int .i64 e_4.House)) 6 hF hS rfl (ex_load1 0 0 Tryz.underlying3 rfl rfl rfl rfl) rfl rfl (by kernel_rfl) (by kernel_rfl) (by kernel_rfl) (by kernel_rfl) fun a hF => e_one 3 (by kernel_rfl) ?_
   obtain ⟨t_10, ht_10, hb1⟩ := bindS hb1
   refine e_call (vs := [(.int .i64 e_4.Area)]) hF hS rfl Tryz.func51 (by kernel_rfl) rfl rfl rfl (c_spec_l1Num e_4.Area t_10 ht_10 _ m hS.vis) ?_
   rintro a w _ rfl hF hS
   obtain ⟨t_11, ht_11, hb1⟩ := bindS hb1
   refine e_p (v := (strV t_11)) 4 hF rfl (ex_strCat rfl rfl ht_11) rfl rfl (by kernel_rfl) (by kernel_rfl) (by kernel_rfl) fun a hF => e_one 7 (by kernel_rfl) ?_
   obtain ⟨t_12, ht_12, hb1⟩ := bindS hb1
   refine e_call (vs := [(.int .i64 e_4.House)]) hF hS rfl Tryz.func51 (by kernel_rfl) rfl rfl rfl (c_spec_l1Num e_4.House t_12 ht_12 _ m hS.vis) ?_
   rintro a w _ rfl hF hS
   obtain ⟨t_13, ht_13, hb1⟩ := bindS hb1
   refine e_p (v := (strV t_13)) 8 hF rfl (ex_strCat rfl rfl ht_13) rfl rfl (by kernel_rfl) (by kernel_rfl) (by kernel_rfl) fun a hF => ?_
   obtain ⟨t_14, ht_14, hb1⟩ := bindS hb1
   refine e_p (v := (strV t_14)) 9 hF rfl (ex_strCat rfl rfl ht_14) rfl rfl (by kernel_rfl) (by kernel_rfl) (by kernel_rfl) fun a hF => ?_
   obtain ⟨t_15, ht_15, hb1⟩ := bindS hb1
   refine e_p (v := (strV t_15)) 10 hF rfl (ex_strCat rfl rfl ht_15) rfl rfl (by kernel_rfl) (by kernel_rfl) (by kernel_rfl) fun a hF => e_p (v := (strV t_15)) 11 hF rfl (ex_assign rfl) rfl rfl (by kernel_rfl) (by kernel_rfl) (by kernel_rfl) fun a hF => e_end (by kernel_rfl) (n_sq ?_) _
   refine q_seq (q_seq (q_region (q_x (v := (.pointer (some ⟨b7, 2, none⟩))) hF hS (ex_fieldAddr Tryz.underlying44 rfl sz40 rfl rfl) rfl rfl fun a hF => q_x (v := s6.v) hF hS (ex_load1 0 0 Tryz.underlying40 rfl rfl rfl rfl) rfl rfl fun a hF => q_x (v := (.int .i64 (goLen e_4.Values))) hF hS (ex_len Tryz.underlying40 rfl h6.len) rfl rfl fun a hF => q_x (v := (.int .i64 0)) hF hS (ex_move rfl) rfl rfl fun a hF => q_end (n_sq (q_block ?_)))))
   obtain ⟨out_22, hl3, hb1⟩ := bindS hb1
   refine q_loop (fun (s : (List UInt8) × Int) a w => ∃ out_16, ∃ t_17, s = (out_16, t_17) ∧ Fr a 41 [(3, (strV out_16)), (8, s1.v), (9, (.int .i64 (goLen p_l))), (10, (.int .i64 t_3)), (26, s6.v), (27, (.int .i64 (goLen e_4.Values))), (28, (.int .i64 t_17))] ∧ St [] w0 w m []) (fun (out_22 : (List UInt8)) e a w => e = .exit 2 ∧ Fr a 41 [(3, (strV out_22)), (8, s1.v), (9, (.int .i64 (goLen p_l))), (10, (.int .i64 t_3))] ∧ St [] w0 w m []) hl3 ⟨_, _, rfl, hF.sub ⟨rfl, rfl, rfl, rfl, rfl, rfl, rfl, trivial⟩, hS.mask [false]⟩ ?_ ?_
   ·clear hF hS
    rintro s a w st ⟨out_16, t_17, rfl, hF, hS⟩ hb3
    unfold spec_dText_l2 at hb3
    refine q_seq (q_region (q_x (v := (.bool (decide (t_17 < (goLen e_4.Values))))) hF hS (ex_ibin rfl rfl rfl) rfl rfl fun a hF => q_end (n_sq (q_seq ?_))))
    rcases bcase (decide (t_17 < (goLen e_4.Values))) with hc4 | hc4
    ·have hb3 := cond_f hc4 hb3
     refine q_cond_f hF rfl hc4 (q_exit (x_sq ?_))
     obtain rfl := someI hb3
     exact ⟨nofun, .inl ⟨rfl, hF.sub ⟨rfl, rfl, rfl, rfl, trivial⟩, hS⟩⟩
    ·have hb3 := cond_t hc4 hb3
     refine q_cond_t hF rfl hc4 (q_skipc (n_sq (q_seq (q_block (q_seq (q_region ?_))))))
     obtain ⟨e_18, he_18, hb3⟩ := bindS hb3
     obtain ⟨vs19, at19, d19⟩ := h6.at he_18 1 rfl
     obtain rfl : vs19 = [(.int .i64 e_18)] := d19
     refine q_x (v := (elP s6 (t_17.toNat * 1))) hF hS (ex_indexAddr Tryz.underlying40 sz3 rfl rfl (h6.idx he_18)) rfl rfl fun a hF => q_x (v := (.int .i64 e_18)) hF hS (ex_loadE1 0 Tryz.underlying3 rfl rfl ((at19).at) rfl rfl) rfl rfl fun a hF => q_x (v := (.int .i64 e_18)) hF hS (ex_assign rfl) rfl rfl fun a hF => q_end (n_sq (q_region (q_x (v := (strV out_16)) hF hS (ex_move rfl) rfl rfl fun a hF => q_x (v := (.int .i64 e_18)) hF hS (ex_move rfl) rfl rfl fun a hF => ?_)))
     obtain ⟨t_20, ht_20, hb3⟩ := bindS hb3
     refine q_call (vs := [(.int .i64 e_18)]) hF hS Tryz.func51 (by kernel_rfl) rfl rfl rfl (c_spec_l1Num e_18 t_20 ht_20 _ m hS.vis) ?_
     rintro a w _ rfl hF hS
     obtain ⟨t_21, ht_21, hb3⟩ := bindS hb3
     refine q_x (v := (strV t_21)) hF hS (ex_strCat rfl rfl ht_21) rfl rfl fun a hF => q_x (v := (strV t_21)) hF hS (ex_assign rfl) rfl rfl fun a hF => q_end (n_ib (n_sq (q_region (q_x (v := (.int .i64 (w64 (t_17 + 1)))) hF hS (ex_ibin rfl rfl rfl) rfl rfl fun a hF => q_x (v := (.int .i64 (w64 (t_17 + 1)))) hF hS (ex_move rfl) rfl rfl fun a hF => q_end ?_))))
     obtain rfl := someI hb3
     exact ⟨rfl, _, _, rfl, hF.sub ⟨rfl, rfl, rfl, rfl, rfl, rfl, rfl, trivial⟩, hS⟩
   ·rintro e a w ⟨rfl, hF, hS⟩
    refine x_ib (n_sq ?_)
    refine q_region (q_x (v := (strV out_22)) hF hS (ex_move rfl) rfl rfl fun a hF => ?_)
    obtain ⟨t_23, ht_23, hb1⟩ := bindS hb1
    refine q_x (v := (strV t_23)) hF hS (ex_strCat rfl rfl ht_23) rfl rfl fun a hF => q_x (v := (strV t_23)) hF hS (ex_assign rfl) rfl rfl fun a hF => q_end (n_ib (n_sq (q_region (q_x (v := (.int .i64 (w64 (t_3 + 1)))) hF hS (ex_ibin rfl rfl rfl) rfl rfl fun a hF => q_x (v := (.int .i64 (w64 (t_3 + 1)))) hF hS (ex_move rfl) rfl rfl fun a hF => q_end ?_))))
    obtain rfl := someI hb1
    exact ⟨rfl, _, _, rfl, hF.sub ⟨rfl, rfl, rfl, rfl, trivial⟩, hS⟩
 ·rintro e a w ⟨rfl, hF, hS⟩
  refine x_ib (n_sq ?_)
  refine q_seq (q_region (q_x (v := (strV out_24)) hF hS (ex_move rfl) rfl rfl fun a hF => q_x (v := (strV out_24)) hF hS (ex_assign rfl) rfl rfl fun a hF => q_end (n_sq (q_ret ?_))))
  obtain rfl := someI hr
  exact ret_of hF hS rfl (.tmp rfl .nil) rfl

theorem c_spec_l1Cur_spoilt (p_c : spec_l1Cur) (p_t : List UInt8) (p_with : List UInt8) (r : (List UInt8) × spec_l1Cur) (hr : spec_l1Cur_spoilt p_c p_t p_with = some r) (w0 : World) (m : Mem) (b_p_c : Nat) (s1 : Sl) (h1 : Rd m s1 p_c.code) (X : List Nat) (hS : St X w0 w0 m [[⟨b_p_c, [s1.v, (.int .i64 p_c.at_), (.int .u64 p_c.seed.v)], 53⟩]]) :
  RetX Tryz.prog 25 [(.pointer (some ⟨b_p_c, 0, none⟩)), (strV p_t), (strV p_with)] w0 (fun v w => v = (strV r.1) ∧ St X w0 w m [[⟨b_p_c, [s1.v, (.int .i64 r.2.at_), (.int .u64 r.2.seed.v)], 53⟩]] ∧ r.2.code = p_c.code) := by
 unfold spec_l1Cur_spoilt at hr
 refine ret_startX Tryz.func25 rfl 68 rfl rfl fun a hF => q_seq (q_region (q_x (v := (strV ([] : List UInt8))) hF hS (ex_assign rfl) rfl rfl fun a hF => q_end (n_sq (q_seq (q_seq (q_region (q_x (v := (.pointer (some ⟨b_p_c, 0, none⟩))) hF hS (ex_move rfl) rfl rfl fun a hF => ?_)))))))
 have hS2 : St _ _ _ _ ([[⟨b_p_c, [s1.v, (.int .i64 p_c.at_), (.int .u64 p_c.seed.v)], 53⟩]] ++ []) := hS
 have hE2 := hS2.enter
 obtain ⟨t_3, ht_3, hr⟩ := bindS hr
 refine q_do rfl fun _ hK => wp_callX (vs := [(.pointer (some ⟨b_p_c, 0, none⟩)), (.int .i64 2)]) hF Tryz.func50 (by kernel_rfl) rfl rfl rfl (c_spec_l1Cur_pick p_c 2 t_3 ht_3 _ m b_p_c s1 h1 _ hE2) fun a w _ hR hF => hK _ _ ?_
 obtain ⟨rfl, hR2, hk4⟩ := hR
 have hS : St _ _ _ _ [[⟨b_p_c, [s1.v, (.int .i64 t_3.2.at_), (.int .u64 t_3.2.seed.v)], 53⟩]] := hS2.leaveF hR2
 have h4 : Rd m s1 t_3.2.code := by rw [hk4]; exact h1
 refine q_x (v := (.int .i64 (w64 (1 + t_3.1)))) hF hS (ex_ibin rfl rfl rfl) rfl rfl fun a hF => q_x (v := (.int .i64 (w64 (1 + t_3.1)))) hF hS (ex_assign rfl) rfl rfl fun a hF => q_end (n_sq (q_block ?_))
 obtain ⟨o1, hl1, hr⟩ := bindS hr
 refine q_loop (fun (s : (List UInt8) × Int × spec_l1Cur) a w => ∃ t_5, ∃ n_6, ∃ p_c_7, s = (t_5, n_6, p_c_7) ∧ Fr a 68 [(0, (.pointer (some ⟨b_p_c, 0, none⟩))), (1, (strV t_5)), (2, (strV p_with)), (7, (.int .i64 n_6))] ∧ St X w0 w m [[⟨b_p_c, [s1.v, (.int .i64 p_c_7.at_), (.int .u64 p_c_7.seed.v)], 53⟩]] ∧ Rd m s1 p_c_7.code ∧ p_c_7.code = p_c.code) (fun (o : (List UInt8) × spec_l1Cur) e a w => ∃ t_34, ∃ p_c_35, o = (t_34, p_c_35) ∧ e = .exit 0 ∧ Fr a 68 [(1, (strV t_34))] ∧ St X w0 w m [[⟨b_p_c, [s1.v, (.int .i64 p_c_35.at_), (.int .u64 p_c_35.seed.v)], 53⟩]] ∧ Rd m s1 p_c_35.code ∧ p_c_35.code = p_c.code) hl1 ⟨_, _, _, rfl, hF.sub ⟨rfl, rfl, rfl, rfl, trivial⟩, hS, h4, hk4⟩ ?_ ?_
 ·clear hF hS
  rintro s a w st ⟨t_5, n_6, p_c_7, rfl, hF, hS, h8, h8k⟩ hb1
  unfold spec_l1Cur_spoilt_l1 at hb1
  refine q_seq (q_seq ?_)
  obtain ⟨t_9, hj2, hb1⟩ := bindS hb1
  refine q_join (fun a w => Fr a 68 [(0, (.pointer (some ⟨b_p_c, 0, none⟩))), (1, (strV t_5)), (2, (strV p_with)), (7, (.int .i64 n_6)), (19, (.bool t_9))] ∧ St X w0 w m [[⟨b_p_c, [s1.v, (.int .i64 p_c_7.at_), (.int .u64 p_c_7.seed.v)], 53⟩]]) ?_ ?_
  ·refine q_region (q_x (v := (.int .i64 n_6)) hF hS (ex_move rfl) rfl rfl fun a hF => q_x (v := (.bool (decide (0 < n_6)))) hF hS (ex_ibin rfl rfl rfl) rfl rfl fun a hF => q_x (v := (.bool (decide (0 < n_6)))) hF hS (ex_move rfl) rfl rfl fun a hF => ?_)
   rcases bcase (decide (0 < n_6)) with hc3 | hc3
   ·have hj2 := cond_f hc3 hj2
    refine q_skip hF (wanted_f hF rfl rfl rfl hc3 rfl) rfl fun a hF => q_skip hF (wanted_f hF rfl rfl rfl hc3 rfl) rfl fun a hF => q_skip hF (wanted_f hF rfl rfl rfl hc3 rfl) rfl fun a hF => q_x (v := (.bool false)) hF hS (ex_pick_f rfl rfl hc3) rfl rfl fun a hF => q_end (n_jn ?_)
    obtain rfl := someI hj2
    exact ⟨hF.sub ⟨rfl, rfl, rfl, rfl, rfl, trivial⟩, hS⟩
   ·have hj2 := cond_t hc3 hj2
    refine q_xg (v := (strV t_5)) hF hS (ex_move rfl) (wanted_t hF rfl rfl rfl hc3) rfl fun a hF => q_xg (v := (.int .i64 (goLen t_5))) hF hS (ex_strLen Tryz.underlying9 rfl) (wanted_t hF rfl rfl rfl hc3) rfl fun a hF => q_xg (v := (.bool (decide (0 < (goLen t_5))))) hF hS (ex_ibin rfl rfl rfl) (wanted_t hF rfl rfl rfl hc3) rfl fun a hF => q_x (v := (.bool (decide (0 < (goLen t_5))))) hF hS (ex_pick_t rfl rfl hc3) rfl rfl fun a hF => q_end (n_jn ?_)
    obtain rfl := someI hj2
    exact ⟨hF.sub ⟨rfl, rfl, rfl, rfl, rfl, trivial⟩, hS⟩
  ·rintro a w ⟨hF, hS⟩
   refine n_sq ?_
   rcases bcase (t_9) with hc4 | hc4
   ·have hb1 := cond_f hc4 hb1
    refine q_cond_f hF rfl hc4 (q_exit (x_sq ?_))
    obtain rfl := someI hb1
    exact ⟨nofun, .inl ⟨_, _, rfl, rfl, hF.sub ⟨rfl, trivial⟩, hS, h8, h8k⟩⟩
   ·have hb1 := cond_t hc4 hb1
    refine q_cond_t hF rfl hc4 (q_skipc (n_sq (q_seq (q_block (q_seq (q_region (q_x (v := (.pointer (some ⟨b_p_c, 0, none⟩))) hF hS (ex_move rfl) rfl rfl fun a hF => q_x (v := (strV t_5)) hF hS (ex_move rfl) rfl rfl fun a hF => q_x (v := (.int .i64 (goLen t_5))) hF hS (ex_strLen Tryz.underlying9 rfl) rfl rfl fun a hF => ?_)))))))
    have hS10 : St _ _ _ _ ([[⟨b_p_c, [s1.v, (.int .i64 p_c_7.at_), (.int .u64 p_c_7.seed.v)], 53⟩]] ++ []) := hS
    have hE10 := hS10.enter
    obtain ⟨t_11, ht_11, hb1⟩ := bindS hb1
    refine q_do rfl fun _ hK => wp_callX (vs := [(.pointer (some ⟨b_p_c, 0, none⟩)), (.int .i64 (goLen t_5))]) hF Tryz.func50 (by kernel_rfl) rfl rfl rfl (c_spec_l1Cur_pick p_c_7 (goLen t_5) t_11 ht_11 _ m b_p_c s1 h8 _ hE10) fun a w _ hR hF => hK _ _ ?_
    obtain ⟨rfl, hR10, hk12⟩ := hR
    have hS : St _ _ _ _ [[⟨b_p_c, [s1.v, (.int .i64 t_11.2.at_), (.int .u64 t_11.2.seed.v)], 53⟩]] := hS10.leaveF hR10
    have h12 : Rd m s1 t_11.2.code := by rw [hk12]; exact h8
    refine q_x (v := (.int .i64 t_11.1)) hF hS (ex_assign rfl) rfl rfl fun a hF => q_end (n_sq (q_seq (q_region (q_x (v := (strV p_with)) hF hS (ex_move rfl) rfl rfl fun a hF => q_x (v := (.pointer (some ⟨b_p_c, 0, none⟩))) hF hS (ex_move rfl) rfl rfl fun a hF => q_x (v := (strV p_with)) hF hS (ex_move rfl) rfl rfl fun a hF => q_x (v := (.int .i64 (goLen p_with))) hF hS (ex_strLen Tryz.underlying9 rfl) rfl rfl fun a hF => ?_))))
    have hS13 : St _ _ _ _ ([[⟨b_p_c, [s1.v, (.int .i64 t_11.2.at_), (.int .u64 t_11.2.seed.v)], 53⟩]] ++ []) := hS
    have hE13 := hS13.enter
    obtain ⟨t_14, ht_14, hb1⟩ := bindS hb1
    refine q_do rfl fun _ hK => wp_callX (vs := [(.pointer (some ⟨b_p_c, 0, none⟩)), (.int .i64 (goLen p_with))]) hF Tryz.func50 (by kernel_rfl) rfl rfl rfl (c_spec_l1Cur_pick t_11.2 (goLen p_with) t_14 ht_14 _ m b_p_c s1 h12 _ hE13) fun a w _ hR hF => hK _ _ ?_
    obtain ⟨rfl, hR13, hk15⟩ := hR
    have hS : St _ _ _ _ [[⟨b_p_c, [s1.v, (.int .i64 t_14.2.at_), (.int .u64 t_14.2.seed.v)], 53⟩]] := hS13.leaveF hR13
    have h15 : Rd m s1 t_14.2.code := by rw [hk15]; exact h12
    obtain ⟨t_16, ht_16, hb1⟩ := bindS hb1
    refine q_x (v := (.int .u8 t_16)) hF hS (ex_strIdx Tryz.underlying9 rfl rfl ht_16) rfl rfl fun a hF => q_do rfl fun _ hK => wp_buildSlice' (l := ([(⟨t_16⟩ : K .u8)] : List (K .u8))) (cells := [(.int .u8 t_16)]) hF hS Tryz.underlying22 inf5 rfl rfl (by kernel_rfl) rfl rfl rfl ⟨rfl, rfl⟩ rfl rfl fun a w q17 s17 hF hS h17 _ => hK _ _ (q_x (v := (strV (goBytes ([(⟨t_16⟩ : K .u8)] : List (K .u8))))) hF hS (ex_toStr Tryz.underlying22 Tryz.underlying5 Tryz.underlying9 rfl (fun X w0 w hS => h17.vw hS (j := 0) rfl)) rfl rfl fun a hF => q_x (v := (strV (goBytes ([(⟨t_16⟩ : K .u8)] : List (K .u8))))) hF hS (ex_assign rfl) rfl rfl fun a hF => q_end (n_sq (q_seq (q_region (q_x (v := (.pointer (some ⟨b_p_c, 0, none⟩))) hF hS (ex_move rfl) rfl rfl fun a hF => ?_)))))
    have hS : St _ _ _ _ [[⟨b_p_c, [s1.v, (.int .i64 t_14.2.at_), (.int .u64 t_14.2.seed.v)], 53⟩], q17] := hS.sel [1, 0] (by decide)
    have hS18 : St _ _ _ _ ([[⟨b_p_c, [s1.v, (.int .i64 t_14.2.at_), (.int .u64 t_14.2.seed.v)], 53⟩]] ++ [q17]) := hS
    have hE18 := hS18.enter
    obtain ⟨t_19, ht_19, hb1⟩ := bindS hb1
    refine q_do rfl fun _ hK => wp_callX (vs := [(.pointer (some ⟨b_p_c, 0, none⟩)), (.int .i64 3)]) hF Tryz.func50 (by kernel_rfl) rfl rfl rfl (c_spec_l1Cur_pick t_14.2 3 t_19 ht_19 _ m b_p_c s1 h15 _ hE18) fun a w _ hR hF => hK _ _ ?_
    obtain ⟨rfl, hR18, hk20⟩ := hR
    have hS : St _ _ _ _ [[⟨b_p_c, [s1.v, (.int .i64 t_19.2.at_), (.int .u64 t_19.2.seed.v)], 53⟩], q17] := hS18.leaveF hR18
    have h20 : Rd m s1 t_19.2.code := by rw [hk20]; exact h15
    refine q_end (n_sq (q_block (q_seq (q_region (q_x (v := (.bool (t_19.1 == 0))) hF hS (ex_ibin rfl rfl rfl) rfl rfl fun a hF => q_x (v := (.bool (t_19.1 == 0))) hF hS (ex_assign rfl) rfl rfl fun a hF => q_end (n_sq ?_))))))
    obtain ⟨t_33, hj5, hb1⟩ := bindS hb1
    refine q_join (fun a w => Fr a 68 [(0, (.pointer (some ⟨b_p_c, 0, none⟩))), (1, (strV t_33)), (2, (strV p_with)), (7, (.int .i64 n_6))] ∧ St X w0 w m [[⟨b_p_c, [s1.v, (.int .i64 t_19.2.at_), (.int .u64 t_19.2.seed.v)], 53⟩]]) ?_ ?_
    ·rcases bcase (t_19.1 == 0) with hc6 | hc6
     ·have hj5 := cond_f hc6 hj5
      refine q_cond_f hF rfl hc6 (q_seq (q_region (q_x (v := (.bool (t_19.1 == 1))) hF hS (ex_ibin rfl rfl rfl) rfl rfl fun a hF => q_x (v := (.bool (t_19.1 == 1))) hF hS (ex_assign rfl) rfl rfl fun a hF => q_end (n_sq ?_))))
      obtain ⟨t_28, hj7, hj5⟩ := bindS hj5
      refine q_join (fun a w => Fr a 68 [(0, (.pointer (some ⟨b_p_c, 0, none⟩))), (1, (strV t_28)), (2, (strV p_with)), (7, (.int .i64 n_6))] ∧ St X w0 w m [[⟨b_p_c, [s1.v, (.int .i64 t_19.2.at_), (.int .u64 t_19.2.seed.v)], 53⟩]]) ?_ ?_
      ·rcases bcase (t_19.1 == 1) with hc8 | hc8
       ·have hj7 := cond_f hc8 hj7
        refine q_cond_f hF rfl hc8 (e_region ⟨[], []⟩ mixed fun w' hw' => ?_)
        have hS := hS.below hw'
        refine e_p (v := (strV t_5)) 0 hF rfl (ex_move rfl) rfl rfl (by kernel_rfl) (by kernel_rfl) (by kernel_rfl) fun a hF => e_p (v := (.int .i64 t_11.1)) 1 hF rfl (ex_move rfl) rfl rfl (by kernel_rfl) (by kernel_rfl) (by kernel_rfl) fun a hF => ?_
        obtain ⟨t_21, ht_21, hj7⟩ := bindS hj7
        refine e_p (v := (strV t_21)) 2 hF rfl (ex_strSub Tryz.underlying9 rfl rfl rfl (.inl ⟨rfl, rfl⟩) (.inr ⟨_, rfl⟩) ht_21) rfl rfl (by kernel_rfl) (by kernel_rfl) (by kernel_rfl) fun a hF => e_p (v := (strV t_5)) 3 hF rfl (ex_move rfl) rfl rfl (by kernel_rfl) (by kernel_rfl) (by kernel_rfl) fun a hF => e_p (v := (.int .i64 t_11.1)) 4 hF rfl (ex_move rfl) rfl rfl (by kernel_rfl) (by kernel_rfl) (by kernel_rfl) fun a hF => e_p (v := (.int .i64 (w64 (t_11.1 + 1)))) 5 hF rfl (ex_ibin rfl rfl rfl) rfl rfl (by kernel_rfl) (by kernel_rfl) (by kernel_rfl) fun a hF => ?_
        obtain ⟨t_22, ht_22, hj7⟩ := bindS hj7
        refine e_p (v := (strV t_22)) 6 hF rfl (ex_strSub Tryz.underlying9 rfl rfl rfl (.inr ⟨_, rfl⟩) (.inl ⟨rfl, rfl⟩) ht_22) rfl rfl (by kernel_rfl) (by kernel_rfl) (by kernel_rfl) fun a hF => ?_
        obtain ⟨t_23, ht_23, hj7⟩ := bindS hj7
        refine e_p (v := (strV t_23)) 7 hF rfl (ex_strCat rfl rfl ht_23) rfl rfl (by kernel_rfl) (by kernel_rfl) (by kernel_rfl) fun a hF => e_p (v := (strV t_23)) 8 hF rfl (ex_assign rfl) rfl rfl (by kernel_rfl) (by kernel_rfl) (by kernel_rfl) fun a hF => e_end (by kernel_rfl) (n_jn ?_) _
        obtain rfl := someI hj7
        exact ⟨hF.sub ⟨rfl, rfl, rfl, rfl, trivial⟩, hS.mask [true, false]⟩
       ·have hj7 := cond_t hc8 hj7
        refine q_cond_t hF rfl hc8 (e_region ⟨[], []⟩ mixed fun w' hw' => ?_)
        have hS := hS.below hw'
        refine e_p (v := (strV t_5)) 0 hF rfl (ex_move rfl) rfl rfl (by kernel_rfl) (by kernel_rfl) (by kernel_rfl) fun a hF => e_p (v := (.int .i64 t_11.1)) 1 hF rfl (ex_move rfl) rfl rfl (by kernel_rfl) (by kernel_rfl) (by kernel_rfl) fun a hF => ?_
        obtain ⟨t_24, ht_24, hj7⟩ := bindS hj7
        refine e_p (v := (strV t_24)) 2 hF rfl (ex_strSub Tryz.underlying9 rfl rfl rfl (.inl ⟨rfl, rfl⟩) (.inr ⟨_, rfl⟩) ht_24) rfl rfl (by kernel_rfl) (by kernel_rfl) (by kernel_rfl) fun a hF => e_p (v := (strV (goBytes ([(⟨t_16⟩ : K .u8)] : List (K .u8))))) 3 hF rfl (ex_move rfl) rfl rfl (by kernel_rfl) (by kernel_rfl) (by kernel_rfl) fun a hF => ?_
        obtain ⟨t_25, ht_25, hj7⟩ := bindS hj7
        refine e_p (v := (strV t_25)) 4 hF rfl (ex_strCat rfl rfl ht_25) rfl rfl (by kernel_rfl) (by kernel_rfl) (by kernel_rfl) fun a hF => e_p (v := (strV t_5)) 5 hF rfl (ex_move rfl) rfl rfl (by kernel_rfl) (by kernel_rfl) (by kernel_rfl) fun a hF => e_p (v := (.int .i64 t_11.1)) 6 hF rfl (ex_move rfl) rfl rfl (by kernel_rfl) (by kernel_rfl) (by kernel_rfl) fun a hF => e_p (v := (.int .i64 (w64 (t_11.1 + 1)))) 7 hF rfl (ex_ibin rfl rfl rfl) rfl rfl (by kernel_rfl) (by kernel_rfl) (by kernel_rfl) fun a hF => ?_
        obtain ⟨t_26, ht_26, hj7⟩ := bindS hj7
        refine e_p (v := (strV t_26)) 8 hF rfl (ex_strSub Tryz.underlying9 rfl rfl rfl (.inr ⟨_, rfl⟩) (.inl ⟨rfl, rfl⟩) ht_26) rfl rfl (by kernel_rfl) (by kernel_rfl) (by kernel_rfl) fun a hF => ?_
        obtain ⟨t_27, ht_27, hj7⟩ := bindS hj7
        refine e_p (v := (strV t_27)) 9 hF rfl (ex_strCat rfl rfl ht_27) rfl rfl (by kernel_rfl) (by kernel_rfl) (by kernel_rfl) fun a hF => e_p (v := (strV t_27)) 10 hF rfl (ex_assign rfl) rfl rfl (by kernel_rfl) (by kernel_rfl) (by kernel_rfl) fun a hF => e_end (by kernel_rfl) (n_jn ?_) _
        obtain rfl := someI hj7
        exact ⟨hF.sub ⟨rfl, rfl, rfl, rfl, trivial⟩, hS.mask [true, false]⟩
      ·rintro a w ⟨hF, hS⟩
       refine n_jn ?_
       obtain rfl := someI hj5
       exact ⟨hF.sub ⟨rfl, rfl, rfl, rfl, trivial⟩, hS⟩
     ·have hj5 := cond_t hc6 hj5
      refine q_cond_t hF rfl hc6 (e_region ⟨[], []⟩ mixed fun w' hw' => ?_)
      have hS := hS.below hw'
      refine e_p (v := (strV t_5)) 0 hF rfl (ex_move rfl) rfl rfl (by kernel_rfl) (by kernel_rfl) (by kernel_rfl) fun a hF => e_p (v := (.int .i64 t_11.1)) 1 hF rfl (ex_move rfl) rfl rfl (by kernel_rfl) (by kernel_rfl) (by kernel_rfl) fun a hF => ?_
      obtain ⟨t_29, ht_29, hj5⟩ := bindS hj5
      refine e_p (v := (strV t_29)) 2 hF rfl (ex_strSub Tryz.underlying9 rfl rfl rfl (.inl ⟨rfl, rfl⟩) (.inr ⟨_, rfl⟩) ht_29) rfl rfl (by kernel_rfl) (by kernel_rfl) (by kernel_rfl) fun a hF => e_p (v := (strV (goBytes ([(⟨t_16⟩ : K .u8)] : List (K .u8))))) 3 hF rfl (ex_move rfl) rfl rfl (by kernel_rfl) (by kernel_rfl) (by kernel_rfl) fun a hF => ?_
      obtain ⟨t_30, ht_30, hj5⟩ := bindS hj5
      refine e_p (v := (strV t_30)) 4 hF rfl (ex_strCat rfl rfl ht_30) rfl rfl (by kernel_rfl) (by kernel_rfl) (by kernel_rfl) fun a hF => e_p (v := (strV t_5)) 5 hF rfl (ex_move rfl) rfl rfl (by kernel_rfl) (by kernel_rfl) (by kernel_rfl) fun a hF => e_p (v := (.int .i64 t_11.1)) 6 hF rfl (ex_move rfl) rfl rfl (by kernel_rfl) (by kernel_rfl) (by kernel_rfl) fun a hF => ?_
      obtain ⟨t_31, ht_31, hj5⟩ := bindS hj5
      refine e_p (v := (strV t_31)) 7 hF rfl (ex_strSub Tryz.underlying9 rfl rfl rfl (.inr ⟨_, rfl⟩) (.inl ⟨rfl, rfl⟩) ht_31) rfl rfl (by kernel_rfl) (by kernel_rfl) (by kernel_rfl) fun a hF => ?_
      obtain ⟨t_32, ht_32, hj5⟩ := bindS hj5
      refine e_p (v := (strV t_32)) 8 hF rfl (ex_strCat rfl rfl ht_32) rfl rfl (by kernel_rfl) (by kernel_rfl) (by kernel_rfl) fun a hF => e_p (v := (strV t_32)) 9 hF rfl (ex_assign rfl) rfl rfl (by kernel_rfl) (by kernel_rfl) (by kernel_rfl) fun a hF => e_end (by kernel_rfl) (n_jn ?_) _
      obtain rfl := someI hj5
      exact ⟨hF.sub ⟨rfl, rfl, rfl, rfl, trivial⟩, hS.mask [true, false]⟩
    ·rintro a w ⟨hF, hS⟩
     refine n_ib (n_ib (n_sq ?_))
     refine q_region (q_x (v := (.int .i64 n_6)) hF hS (ex_move rfl) rfl rfl fun a hF => q_x (v := (.int .i64 (w64 (n_6 - 1)))) hF hS (ex_ibin rfl rfl rfl) rfl rfl fun a hF => q_x (v := (.int .i64 (w64 (n_6 - 1)))) hF hS (ex_assign rfl) rfl rfl fun a hF => q_end ?_)
     obtain rfl := someI hb1
     exact ⟨rfl, _, _, _, rfl, hF.sub ⟨rfl, rfl, rfl, rfl, trivial⟩, hS, h20, (hk20.trans (hk15.trans (hk12.trans h8k)))⟩
 ·rintro e a w ⟨t_34, p_c_35, rfl, rfl, hF, hS, h36, h36k⟩
  refine x_ib (n_sq ?_)
  refine q_seq (q_region (q_x (v := (strV t_34)) hF hS (ex_move rfl) rfl rfl fun a hF => q_x (v := (strV t_34)) hF hS (ex_assign rfl) rfl rfl fun a hF => q_end (n_sq (q_ret ?_))))
  obtain rfl := someI hr
  exact ret_ofX hF hS rfl (.tmp rfl .nil) ⟨rfl, hS.sel [0] (by decide), h36k⟩

theorem c_spec_DrawParseData (p_code : List (K .u8)) (r : (List impl_Variable) × (List UInt8)) (hr : spec_DrawParseData p_code = some r) (w0 : World) (m : Mem) (hv : Vis m w0) (s1 : Sl) (h1 : Rd m s1 p_code) :
  Ret Tryz.prog 7 [s1.v] w0 (fun v w => ∃ (m' : Mem) (s0' : Sl), v = (.tuple #[s0'.v, (strV r.2)]) ∧ MLe [] w0.heap.size m m' ∧ St [] w0 w m' [] ∧ Rd m' s0' r.1) := by
 unfold spec_DrawParseData at hr
 refine ret_start Tryz.func7 rfl 25 rfl rfl m hv fun a hF hS => q_seq (q_region (q_x (v := nilS.v) hF hS (ex_assign rfl) rfl rfl fun a hF => q_x (v := (strV ([] : List UInt8))) hF hS (ex_assign rfl) rfl rfl fun a hF => q_end (n_sq (q_seq (q_region (q_x (v := s1.v) hF hS (ex_move rfl) rfl rfl fun a hF => q_x (v := (.agg #[s1.v, (.int .i64 0), (.int .u64 0)])) hF hS (ex_build (cells := [s1.v, (.int .i64 0), (.int .u64 0)]) rfl (by kernel_rfl)) rfl rfl fun a hF => q_box (cs := [s1.v, (.int .i64 0), (.int .u64 0)]) hF hS rfl rfl rfl fun a w b2 hF hS => q_x (v := (.pointer (some ⟨b2, 0, none⟩))) hF hS (ex_assign rfl) rfl rfl fun a hF => q_end (n_sq (q_seq (q_region (q_x (v := (.pointer (some ⟨b2, 0, none⟩))) hF hS (ex_move rfl) rfl rfl fun a hF => ?_))))))))))
 have hS3 : St _ _ _ _ ([[⟨b2, [s1.v, (.int .i64 0), (.int .u64 0)], 53⟩]] ++ []) := hS
 have hE3 := hS3.enter
 obtain ⟨t_4, ht_4, hr⟩ := bindS hr
 refine q_do rfl fun _ hK => wp_callX (vs := [(.pointer (some ⟨b2, 0, none⟩))]) hF Tryz.func21 (by kernel_rfl) rfl rfl rfl (c_spec_l1Cur_schema (spec_l1Cur.mk p_code 0 (⟨0⟩ : K .u64)) t_4 ht_4 _ m b2 s1 h1 _ hE3) fun a w _ hR hF => hK _ _ ?_
 obtain ⟨q5, s5, rfl, hR3, h5, hk6⟩ := hR
 have hS : St _ _ _ _ [[⟨b2, [s1.v, (.int .i64 t_4.2.at_), (.int .u64 t_4.2.seed.v)], 53⟩], q5] := hS3.leaveF hR3
 have h6 : Rd m s1 t_4.2.code := by rw [hk6]; exact h1
 refine q_x (v := s5.v) hF hS (ex_assign rfl) rfl rfl fun a hF => q_end (n_sq (q_seq (q_region (q_x (v := (.pointer (some ⟨b2, 0, none⟩))) hF hS (ex_move rfl) rfl rfl fun a hF => q_x (v := s5.v) hF hS (ex_move rfl) rfl rfl fun a hF => q_do rfl fun _ hK => wp_buildSlice' (l := ([0, 1, 12] : List Int)) (cells := [(.int .i64 0), (.int .i64 1), (.int .i64 12)]) hF hS Tryz.underlying40 inf3 rfl rfl (by kernel_rfl) rfl rfl rfl ⟨rfl, rfl, rfl, rfl⟩ rfl rfl fun a w q7 s7 hF hS h7 _ => hK _ _ ?_))))
 have hS : St _ _ _ _ [q5, q7, [⟨b2, [s1.v, (.int .i64 t_4.2.at_), (.int .u64 t_4.2.seed.v)], 53⟩]] := hS.sel [2, 0, 1] (by decide)
 obtain ⟨m8, hm8, hS, hz8⟩ := hS.freeze
 have h8 := h5.froz hm8.le hz8
 obtain ⟨m9, hm9, hS, hz9⟩ := hS.freeze
 have h9 := (h7.mono hm8.le).froz hm9.le hz9
 have hS10 : St _ _ _ _ ([[⟨b2, [s1.v, (.int .i64 t_4.2.at_), (.int .u64 t_4.2.seed.v)], 53⟩]] ++ []) := hS
 have hE10 := hS10.enter
 obtain ⟨t_11, ht_11, hr⟩ := bindS hr
 refine q_do rfl fun _ hK => wp_callX (vs := [(.pointer (some ⟨b2, 0, none⟩)), s5.v, s7.v]) hF Tryz.func23 (by kernel_rfl) rfl rfl rfl (c_spec_l1Cur_data t_4.2 t_4.1 ([0, 1, 12] : List Int) t_11 ht_11 _ m9 b2 s1 ((h6.mono hm8.le).mono hm9.le) s5 (h8.mono hm9.le) s7 h9 _ hE10) fun a w _ hR hF => hK _ _ ?_
 obtain ⟨m10', q12, s12, rfl, hm10, hR10, h12, hk13⟩ := hR
 have hS : St _ _ _ _ [[⟨b2, [s1.v, (.int .i64 t_11.2.at_), (.int .u64 t_11.2.seed.v)], 53⟩], q12] := hS10.leave hR10 hm10
 have hm10 := MLe.weakX hS10 hm10
 have h13 : Rd m10' s1 t_11.2.code := by rw [hk13]; exact (((h6.mono hm8.le).mono hm9.le).mono hm10.le)
 obtain ⟨m15, hl15, hv15, hz15⟩ := hS.lend
 obtain ⟨t_14, ht_14, hr⟩ := bindS hr
 refine q_call (vs := [s12.v]) hF hS Tryz.func22 (by kernel_rfl) rfl rfl rfl (c_spec_dText t_11.1 t_14 ht_14 _ m15 hv15 s12 (h12.froz hl15 (hz15 1 _ rfl))) ?_
 rintro a w _ rfl hF hS
 refine q_x (v := (strV t_14)) hF hS (ex_assign rfl) rfl rfl fun a hF => q_end (n_sq (q_seq (q_seq (q_region (q_x (v := (.pointer (some ⟨b2, 0, none⟩))) hF hS (ex_move rfl) rfl rfl fun a hF => ?_)))))
 have hS16 : St _ _ _ _ ([[⟨b2, [s1.v, (.int .i64 t_11.2.at_), (.int .u64 t_11.2.seed.v)], 53⟩]] ++ [q12]) := hS
 have hE16 := hS16.enter
 obtain ⟨t_17, ht_17, hr⟩ := bindS hr
 refine q_do rfl fun _ hK => wp_callX (vs := [(.pointer (some ⟨b2, 0, none⟩)), (.int .i64 3)]) hF Tryz.func24 (by kernel_rfl) rfl rfl rfl (c_spec_l1Cur_one t_11.2 3 t_17 ht_17 _ m10' b2 s1 h13 _ hE16) fun a w _ hR hF => hK _ _ ?_
 obtain ⟨rfl, hR16, hk18⟩ := hR
 have hS : St _ _ _ _ [[⟨b2, [s1.v, (.int .i64 t_17.2.at_), (.int .u64 t_17.2.seed.v)], 53⟩], q12] := hS16.leaveF hR16
 have h18 : Rd m10' s1 t_17.2.code := by rw [hk18]; exact h13
 refine q_end (n_sq ?_)
 rcases bcase (t_17.1) with hc1 | hc1
 ·have hr := cond_f hc1 hr
  refine q_cond_f hF rfl hc1 (q_skipc (n_sq (q_seq (q_region (q_x (v := s5.v) hF hS (ex_move rfl) rfl rfl fun a hF => q_x (v := (strV t_14)) hF hS (ex_move rfl) rfl rfl fun a hF => q_x (v := s5.v) hF hS (ex_assign rfl) rfl rfl fun a hF => q_x (v := (strV t_14)) hF hS (ex_assign rfl) rfl rfl fun a hF => q_end (n_sq (q_ret ?_)))))))
  obtain rfl := someI hr
  exact ret_of hF hS rfl (.tmp rfl (.tmp rfl .nil)) ⟨m10', s5, rfl, ((hm8.trans hm9).trans hm10), hS.sel [] (by decide), ((h8.mono hm9.le).mono hm10.le)⟩
 ·have hr := cond_t hc1 hr
  refine q_cond_t hF rfl hc1 (q_seq (q_region (q_x (v := s5.v) hF hS (ex_move rfl) rfl rfl fun a hF => q_x (v := (.pointer (some ⟨b2, 0, none⟩))) hF hS (ex_move rfl) rfl rfl fun a hF => q_x (v := (strV t_14)) hF hS (ex_move rfl) rfl rfl fun a hF => ?_)))
  have hS19 : St _ _ _ _ ([[⟨b2, [s1.v, (.int .i64 t_17.2.at_), (.int .u64 t_17.2.seed.v)], 53⟩]] ++ [q12]) := hS
  have hE19 := hS19.enter
  obtain ⟨t_20, ht_20, hr⟩ := bindS hr
  refine q_do rfl fun _ hK => wp_callX (vs := [(.pointer (some ⟨b2, 0, none⟩)), (strV t_14), (strV ([48, 49, 50, 32, 10, 57] : List UInt8))]) hF Tryz.func25 (by kernel_rfl) rfl rfl rfl (c_spec_l1Cur_spoilt t_17.2 t_14 ([48, 49, 50, 32, 10, 57] : List UInt8) t_20 ht_20 _ m10' b2 s1 h18 _ hE19) fun a w _ hR hF => hK _ _ ?_
  obtain ⟨rfl, hR19, hk21⟩ := hR
  have hS : St _ _ _ _ [[⟨b2, [s1.v, (.int .i64 t_20.2.at_), (.int .u64 t_20.2.seed.v)], 53⟩], q12] := hS19.leaveF hR19
  have h21 : Rd m10' s1 t_20.2.code := by rw [hk21]; exact h18
  refine q_x (v := s5.v) hF hS (ex_assign rfl) rfl rfl fun a hF => q_x (v := (strV t_20.1)) hF hS (ex_assign rfl) rfl rfl fun a hF => q_end (n_sq (q_ret (r_sq ?_)))
  obtain rfl := someI hr
  exact ret_of hF hS rfl (.tmp rfl (.tmp rfl .nil)) ⟨m10', s5, rfl, ((hm8.trans hm9).trans hm10), hS.sel [] (by decide), ((h8.mono hm9.le).mono hm10.le)⟩

theorem c_impl_readNatural (p_s : List UInt8) (p_most : Int) (r : Int × (List UInt8) × Bool) (hr : impl_readNatural p_s p_most = some r) (w0 : World) (m : Mem) (hv : Vis m w0) :
  Ret Tryz.prog 80 [(strV p_s), (.int .i64 p_most)] w0 (fun v _ => v = (.tuple #[(.int .i64 r.1), (strV r.2.1), (.bool r.2.2)])) := by
 unfold impl_readNatural at hr
 refine ret_start Tryz.func80 rfl 50 rfl rfl m hv fun a hF hS => q_seq (q_region (q_x (v := (.int .i64 0)) hF hS (ex_assign rfl) rfl rfl fun a hF => q_x (v := (strV ([] : List UInt8))) hF hS (ex_assign rfl) rfl rfl fun a hF => q_x (v := (.bool false)) hF hS (ex_assign rfl) rfl rfl fun a hF => q_end (n_sq (q_seq (q_region (q_x (v := (.int .i64 0)) hF hS (ex_assign rfl) rfl rfl fun a hF => q_x (v := (.int .i64 0)) hF hS (ex_assign rfl) rfl rfl fun a hF => q_end (n_sq (q_seq (q_block ?_)))))))))
 obtain ⟨o1, hl1, hr⟩ := bindS hr
 refine q_loop (fun (s : Int × Int) a w => ∃ n_1, ∃ i_2, s = (n_1, i_2) ∧ Fr a 50 [(0, (strV p_s)), (1, (.int .i64 p_most)), (7, (.int .i64 n_1)), (8, (.int .i64 i_2))] ∧ St [] w0 w m []) (fun (o : (Int × Int) ⊕ (Int × (List UInt8) × Bool)) e a w => ∃ n_8, ∃ i_9, o = .inl (n_8, i_9) ∧ e = .exit 0 ∧ Fr a 50 [(0, (strV p_s)), (7, (.int .i64 n_8)), (8, (.int .i64 i_9))] ∧ St [] w0 w m []) hl1 ⟨_, _, rfl, hF.sub ⟨rfl, rfl, rfl, rfl, trivial⟩, hS⟩ ?_ ?_
 ·clear hF hS
  rintro s a w st ⟨n_1, i_2, rfl, hF, hS⟩ hb1
  unfold impl_readNatural_l1 at hb1
  refine q_seq (q_seq ?_)
  obtain ⟨t_5, hj2, hb1⟩ := bindS hb1
  refine q_join (fun a w => Fr a 50 [(0, (strV p_s)), (1, (.int .i64 p_most)), (7, (.int .i64 n_1)), (8, (.int .i64 i_2)), (24, (.bool t_5))] ∧ St [] w0 w m []) ?_ ?_
  ·refine q_region (q_x (v := (.int .i64 i_2)) hF hS (ex_move rfl) rfl rfl fun a hF => q_x (v := (strV p_s)) hF hS (ex_move rfl) rfl rfl fun a hF => q_x (v := (.int .i64 (goLen p_s))) hF hS (ex_strLen Tryz.underlying9 rfl) rfl rfl fun a hF => q_x (v := (.bool (decide (i_2 < (goLen p_s))))) hF hS (ex_ibin rfl rfl rfl) rfl rfl fun a hF => q_x (v := (.bool (decide (i_2 < (goLen p_s))))) hF hS (ex_move rfl) rfl rfl fun a hF => ?_)
   rcases bcase (decide (i_2 < (goLen p_s))) with hc3 | hc3
   ·have hj2 := cond_f hc3 hj2
    refine q_skip hF (wanted_f hF rfl rfl rfl hc3 rfl) rfl fun a hF => q_skip hF (wanted_f hF rfl rfl rfl hc3 rfl) rfl fun a hF => q_skip hF (wanted_f hF rfl rfl rfl hc3 rfl) rfl fun a hF => q_skip hF (wanted_f hF rfl rfl rfl hc3 rfl) rfl fun a hF => q_x (v := (.bool false)) hF hS (ex_pick_f rfl rfl hc3) rfl rfl fun a hF => q_x (v := (.bool false)) hF hS (ex_move rfl) rfl rfl fun a hF => q_skip hF (wanted_f hF rfl rfl rfl rfl rfl) rfl fun a hF => q_skip hF (wanted_f hF rfl rfl rfl rfl rfl) rfl fun a hF => q_skip hF (wanted_f hF rfl rfl rfl rfl rfl) rfl fun a hF => q_skip hF (wanted_f hF rfl rfl rfl rfl rfl) rfl fun a hF => q_x (v := (.bool false)) hF hS (ex_pick_f rfl rfl rfl) rfl rfl fun a hF => q_end (n_jn ?_)
    obtain rfl := someI hj2
    exact ⟨hF.sub ⟨rfl, rfl, rfl, rfl, rfl, trivial⟩, hS⟩
   ·have hj2 := cond_t hc3 hj2
    refine q_xg (v := (strV p_s)) hF hS (ex_move rfl) (wanted_t hF rfl rfl rfl hc3) rfl fun a hF => q_xg (v := (.int .i64 i_2)) hF hS (ex_move rfl) (wanted_t hF rfl rfl rfl hc3) rfl fun a hF => ?_
    obtain ⟨t_3, ht_3, hj2⟩ := bindS hj2
    refine q_xg (v := (.int .u8 t_3)) hF hS (ex_strIdx Tryz.underlying9 rfl rfl ht_3) (wanted_t hF rfl rfl rfl hc3) rfl fun a hF => q_xg (v := (.bool (decide (48 ≤ t_3)))) hF hS (ex_ibin rfl rfl rfl) (wanted_t hF rfl rfl rfl hc3) rfl fun a hF => q_x (v := (.bool (decide (48 ≤ t_3)))) hF hS (ex_pick_t rfl rfl hc3) rfl rfl fun a hF => q_x (v := (.bool (decide (48 ≤ t_3)))) hF hS (ex_move rfl) rfl rfl fun a hF => ?_
    rcases bcase (decide (48 ≤ t_3)) with hc4 | hc4
    ·have hj2 := cond_f hc4 hj2
     refine q_skip hF (wanted_f hF rfl rfl rfl hc4 rfl) rfl fun a hF => q_skip hF (wanted_f hF rfl rfl rfl hc4 rfl) rfl fun a hF => q_skip hF (wanted_f hF rfl rfl rfl hc4 rfl) rfl fun a hF => q_skip hF (wanted_f hF rfl rfl rfl hc4 rfl) rfl fun a hF => q_x (v := (.bool false)) hF hS (ex_pick_f rfl rfl hc4) rfl rfl fun a hF => q_end (n_jn ?_)
     obtain rfl := someI hj2
     exact ⟨hF.sub ⟨rfl, rfl, rfl, rfl, rfl, trivial⟩, hS⟩
    ·have hj2 := cond_t hc4 hj2
     refine q_xg (v := (strV p_s)) hF hS (ex_move rfl) (wanted_t hF rfl rfl rfl hc4) rfl fun a hF => q_xg (v := (.int .i64 i_2)) hF hS (ex_move rfl) (wanted_t hF rfl rfl rfl hc4) rfl fun a hF => ?_
     obtain ⟨t_4, ht_4, hj2⟩ := bindS hj2
     refine q_xg (v := (.int .u8 t_4)) hF hS (ex_strIdx Tryz.underlying9 rfl rfl ht_4) (wanted_t hF rfl rfl rfl hc4) rfl fun a hF => q_xg (v := (.bool (decide (t_4 ≤ 57)))) hF hS (ex_ibin rfl rfl rfl) (wanted_t hF rfl rfl rfl hc4) rfl fun a hF => q_x (v := (.bool (decide (t_4 ≤ 57)))) hF hS (ex_pick_t rfl rfl hc4) rfl rfl fun a hF => q_end (n_jn ?_)
     obtain rfl := someI hj2
     exact ⟨hF.sub ⟨rfl, rfl, rfl, rfl, rfl, trivial⟩, hS⟩
  ·rintro a w ⟨hF, hS⟩
   refine n_sq ?_
   rcases bcase (t_5) with hc5 | hc5
   ·have hb1 := cond_f hc5 hb1
    refine q_cond_f hF rfl hc5 (q_exit (x_sq ?_))
    obtain rfl := someI hb1
    exact ⟨nofun, .inl ⟨_, _, rfl, rfl, hF.sub ⟨rfl, rfl, rfl, trivial⟩, hS⟩⟩
   ·have hb1 := cond_t hc5 hb1
    refine q_cond_t hF rfl hc5 (q_skipc (n_sq (q_block (q_seq (q_seq ?_)))))
    obtain ⟨t_6, hj6, hb1⟩ := bindS hb1
    refine q_join (fun a w => Fr a 50 [(0, (strV p_s)), (1, (.int .i64 p_most)), (7, (.int .i64 n_1)), (8, (.int .i64 i_2)), (30, (.bool t_6))] ∧ St [] w0 w m []) ?_ ?_
    ·refine q_region (q_x (v := (.int .i64 i_2)) hF hS (ex_move rfl) rfl rfl fun a hF => q_x (v := (.bool (decide (0 < i_2)))) hF hS (ex_ibin rfl rfl rfl) rfl rfl fun a hF => q_x (v := (.bool (decide (0 < i_2)))) hF hS (ex_move rfl) rfl rfl fun a hF => ?_)
     rcases bcase (decide (0 < i_2)) with hc7 | hc7
     ·have hj6 := cond_f hc7 hj6
      refine q_skip hF (wanted_f hF rfl rfl rfl hc7 rfl) rfl fun a hF => q_skip hF (wanted_f hF rfl rfl rfl hc7 rfl) rfl fun a hF => q_x (v := (.bool false)) hF hS (ex_pick_f rfl rfl hc7) rfl rfl fun a hF => q_end (n_jn ?_)
      obtain rfl := someI hj6
      exact ⟨hF.sub ⟨rfl, rfl, rfl, rfl, rfl, trivial⟩, hS⟩
     ·have hj6 := cond_t hc7 hj6
      refine q_xg (v := (.int .i64 n_1)) hF hS (ex_move rfl) (wanted_t hF rfl rfl rfl hc7) rfl fun a hF => q_xg (v := (.bool (n_1 == 0))) hF hS (ex_ibin rfl rfl rfl) (wanted_t hF rfl rfl rfl hc7) rfl fun a hF => q_x (v := (.bool (n_1 == 0))) hF hS (ex_pick_t rfl rfl hc7) rfl rfl fun a hF => q_end (n_jn ?_)
      obtain rfl := someI hj6
      exact ⟨hF.sub ⟨rfl, rfl, rfl, rfl, rfl, trivial⟩, hS⟩
    ·rintro a w ⟨hF, hS⟩
     refine n_sq ?_
     rcases bcase (t_6) with hc8 | hc8
     ·have hb1 := cond_f hc8 hb1
      refine q_cond_f hF rfl hc8 (q_skipc (n_sq (q_seq (q_region (q_x (v := (.int .i64 n_1)) hF hS (ex_move rfl) rfl rfl fun a hF => q_x (v := (.int .i64 (w64 (n_1 * 10)))) hF hS (ex_ibin rfl rfl rfl) rfl rfl fun a hF => q_x (v := (strV p_s)) hF hS (ex_move rfl) rfl rfl fun a hF => q_x (v := (.int .i64 i_2)) hF hS (ex_move rfl) rfl rfl fun a hF => ?_)))))
      obtain ⟨t_7, ht_7, hb1⟩ := bindS hb1
      refine q_x (v := (.int .u8 t_7)) hF hS (ex_strIdx Tryz.underlying9 rfl rfl ht_7) rfl rfl fun a hF => q_x (v := (.int .u8 (IntKind.wrap .u8 (t_7 - 48)))) hF hS (ex_ibin rfl rfl rfl) rfl rfl fun a hF => q_x (v := (.int .i64 (w64 (IntKind.wrap .u8 (t_7 - 48))))) hF hS (ex_conv Tryz.underlying5 Tryz.underlying3 rfl) rfl rfl fun a hF => q_x (v := (.int .i64 (w64 ((w64 (n_1 * 10)) + (w64 (IntKind.wrap .u8 (t_7 - 48))))))) hF hS (ex_ibin rfl rfl rfl) rfl rfl fun a hF => q_x (v := (.int .i64 (w64 ((w64 (n_1 * 10)) + (w64 (IntKind.wrap .u8 (t_7 - 48))))))) hF hS (ex_assign rfl) rfl rfl fun a hF => q_end (n_sq (q_seq (q_seq (q_region (q_x (v := (.int .i64 (w64 ((w64 (n_1 * 10)) + (w64 (IntKind.wrap .u8 (t_7 - 48))))))) hF hS (ex_move rfl) rfl rfl fun a hF => q_x (v := (.int .i64 p_most)) hF hS (ex_move rfl) rfl rfl fun a hF => q_x (v := (.bool (decide (p_most < (w64 ((w64 (n_1 * 10)) + (w64 (IntKind.wrap .u8 (t_7 - 48))))))))) hF hS (ex_ibin rfl rfl rfl) rfl rfl fun a hF => q_end (n_sq ?_))))))
      rcases bcase (decide (p_most < (w64 ((w64 (n_1 * 10)) + (w64 (IntKind.wrap .u8 (t_7 - 48))))))) with hc9 | hc9
      ·have hb1 := cond_f hc9 hb1
       refine q_cond_f hF rfl hc9 (q_skipc (n_sq (q_region (q_x (v := (.int .i64 i_2)) hF hS (ex_move rfl) rfl rfl fun a hF => q_x (v := (.int .i64 (w64 (i_2 + 1)))) hF hS (ex_ibin rfl rfl rfl) rfl rfl fun a hF => q_x (v := (.int .i64 (w64 (i_2 + 1)))) hF hS (ex_assign rfl) rfl rfl fun a hF => q_end (n_ib ?_)))))
       obtain rfl := someI hb1
       exact ⟨rfl, _, _, rfl, hF.sub ⟨rfl, rfl, rfl, rfl, trivial⟩, hS⟩
      ·have hb1 := cond_t hc9 hb1
       refine q_cond_t hF rfl hc9 (q_seq (q_region (q_x (v := (.int .i64 0)) hF hS (ex_assign rfl) rfl rfl fun a hF => q_x (v := (strV ([] : List UInt8))) hF hS (ex_assign rfl) rfl rfl fun a hF => q_x (v := (.bool false)) hF hS (ex_assign rfl) rfl rfl fun a hF => q_end (n_sq (q_ret (r_sq (r_ib ?_)))))))
       obtain rfl := someI hb1
       refine ⟨nofun, .inr fun ho => ?_⟩
       subst ho
       refine r_ib (r_sq ?_)
       obtain rfl := someI hr
       exact ret_of hF hS rfl (.tmp rfl (.tmp rfl (.tmp rfl .nil))) rfl
     ·have hb1 := cond_t hc8 hb1
      refine q_cond_t hF rfl hc8 (q_seq (q_region (q_x (v := (.int .i64 0)) hF hS (ex_assign rfl) rfl rfl fun a hF => q_x (v := (strV ([] : List UInt8))) hF hS (ex_assign rfl) rfl rfl fun a hF => q_x (v := (.bool false)) hF hS (ex_assign rfl) rfl rfl fun a hF => q_end (n_sq (q_ret (r_sq (r_ib ?_)))))))
      obtain rfl := someI hb1
      refine ⟨nofun, .inr fun ho => ?_⟩
      subst ho
      refine r_ib (r_sq ?_)
      obtain rfl := someI hr
      exact ret_of hF hS rfl (.tmp rfl (.tmp rfl (.tmp rfl .nil))) rfl
 ·rintro e a w ⟨n_8, i_9, rfl, rfl, hF, hS⟩
  refine x_ib (n_sq ?_)
  refine q_seq (q_seq (q_region (q_x (v := (.int .i64 i_9)) hF hS (ex_move rfl) rfl rfl fun a hF => q_x (v := (.bool (i_9 == 0))) hF hS (ex_ibin rfl rfl rfl) rfl rfl fun a hF => q_end (n_sq ?_))))
  rcases bcase (i_9 == 0) with hc10 | hc10
  ·have hr := cond_f hc10 hr
   refine q_cond_f hF rfl hc10 (q_skipc (n_sq (q_seq (e_region ⟨[], []⟩ mixed fun w' hw' => ?_))))
   have hS := hS.below hw'
   refine e_p (v := (.int .i64 n_8)) 0 hF rfl (ex_move rfl) rfl rfl (by kernel_rfl) (by kernel_rfl) (by kernel_rfl) fun a hF => e_p (v := (strV p_s)) 1 hF rfl (ex_move rfl) rfl rfl (by kernel_rfl) (by kernel_rfl) (by kernel_rfl) fun a hF => e_p (v := (.int .i64 i_9)) 2 hF rfl (ex_move rfl) rfl rfl (by kernel_rfl) (by kernel_rfl) (by kernel_rfl) fun a hF => ?_
   obtain ⟨t_10, ht_10, hr⟩ := bindS hr
   refine e_p (v := (strV t_10)) 3 hF rfl (ex_strSub Tryz.underlying9 rfl rfl rfl (.inr ⟨_, rfl⟩) (.inl ⟨rfl, rfl⟩) ht_10) rfl rfl (by kernel_rfl) (by kernel_rfl) (by kernel_rfl) fun a hF => e_p (v := (.int .i64 n_8)) 4 hF rfl (ex_assign rfl) rfl rfl (by kernel_rfl) (by kernel_rfl) (by kernel_rfl) fun a hF => e_p (v := (strV t_10)) 5 hF rfl (ex_assign rfl) rfl rfl (by kernel_rfl) (by kernel_rfl) (by kernel_rfl) fun a hF => e_p (v := (.bool true)) 6 hF rfl (ex_assign rfl) rfl rfl (by kernel_rfl) (by kernel_rfl) (by kernel_rfl) fun a hF => e_end (by kernel_rfl) (n_sq (q_ret ?_)) _
   obtain rfl := someI hr
   exact ret_of hF hS rfl (.tmp rfl (.tmp rfl (.tmp rfl .nil))) rfl
  ·have hr := cond_t hc10 hr
   refine q_cond_t hF rfl hc10 (q_seq (q_region (q_x (v := (.int .i64 0)) hF hS (ex_assign rfl) rfl rfl fun a hF => q_x (v := (strV ([] : List UInt8))) hF hS (ex_assign rfl) rfl rfl fun a hF => q_x (v := (.bool false)) hF hS (ex_assign rfl) rfl rfl fun a hF => q_end (n_sq (q_ret (r_sq ?_))))))
   obtain rfl := someI hr
   exact ret_of hF hS rfl (.tmp rfl (.tmp rfl (.tmp rfl .nil))) rfl

theorem c_impl_wholeNatural (p_s : List UInt8) (p_most : Int) (r : Int × Bool) (hr : impl_wholeNatural p_s p_most = some r) (w0 : World) (m : Mem) (hv : Vis m w0) :
  Ret Tryz.prog 55 [(strV p_s), (.int .i64 p_most)] w0 (fun v _ => v = (.tuple #[(.int .i64 r.1), (.bool r.2)])) := by
 unfold impl_wholeNatural at hr
 refine ret_start Tryz.func55 rfl 23 rfl rfl m hv fun a hF hS => q_seq (q_region (q_x (v := (.int .i64 0)) hF hS (ex_assign rfl) rfl rfl fun a hF => q_x (v := (.bool false)) hF hS (ex_assign rfl) rfl rfl fun a hF => q_end (n_sq (q_seq (q_region (q_x (v := (strV p_s)) hF hS (ex_move rfl) rfl rfl fun a hF => q_x (v := (.int .i64 p_most)) hF hS (ex_move rfl) rfl rfl fun a hF => ?_))))))
 obtain ⟨t_1, ht_1, hr⟩ := bindS hr
 refine q_call (vs := [(strV p_s), (.int .i64 p_most)]) hF hS Tryz.func80 (by kernel_rfl) rfl rfl rfl (c_impl_readNatural p_s p_most t_1 ht_1 _ m hS.vis) ?_
 rintro a w _ rfl hF hS
 refine q_x (v := (.tuple #[(.int .i64 t_1.1), (strV t_1.2.1), (.bool t_1.2.2)])) hF hS (ex_move rfl) rfl rfl fun a hF => q_x (v := (.int .i64 t_1.1)) hF hS (ex_extract rfl rfl) rfl rfl fun a hF => q_x (v := (strV t_1.2.1)) hF hS (ex_extract rfl rfl) rfl rfl fun a hF => q_x (v := (.bool t_1.2.2)) hF hS (ex_extract rfl rfl) rfl rfl fun a hF => q_x (v := (.int .i64 t_1.1)) hF hS (ex_assign rfl) rfl rfl fun a hF => q_x (v := (strV t_1.2.1)) hF hS (ex_assign rfl) rfl rfl fun a hF => q_x (v := (.bool t_1.2.2)) hF hS (ex_assign rfl) rfl rfl fun a hF => q_end (n_sq (q_seq (q_seq ?_)))
 obtain ⟨t_2, hj1, hr⟩ := bindS hr
 refine q_join (fun a w => Fr a 23 [(6, (.int .i64 t_1.1)), (21, (.bool t_2))] ∧ St [] w0 w m []) ?_ ?_
 ·refine q_region (q_x (v := (.bool t_1.2.2)) hF hS (ex_move rfl) rfl rfl fun a hF => q_x (v := (.bool (!t_1.2.2))) hF hS (ex_not rfl) rfl rfl fun a hF => q_x (v := (.bool (!t_1.2.2))) hF hS (ex_move rfl) rfl rfl fun a hF => ?_)
  rcases bcase (!t_1.2.2) with hc2 | hc2
  ·have hj1 := cond_f hc2 hj1
   refine q_xg (v := (strV t_1.2.1)) hF hS (ex_move rfl) (wanted_t hF rfl rfl rfl hc2) rfl fun a hF => q_xg (v := (.bool (t_1.2.1 != ([] : List UInt8)))) hF hS (ex_strNe rfl rfl) (wanted_t hF rfl rfl rfl hc2) rfl fun a hF => q_x (v := (.bool (t_1.2.1 != ([] : List UInt8)))) hF hS (ex_pick_f rfl rfl hc2) rfl rfl fun a hF => q_end (n_jn ?_)
   obtain rfl := someI hj1
   exact ⟨hF.sub ⟨rfl, rfl, trivial⟩, hS⟩
  ·have hj1 := cond_t hc2 hj1
   refine q_skip hF (wanted_f hF rfl rfl rfl hc2 rfl) rfl fun a hF => q_skip hF (wanted_f hF rfl rfl rfl hc2 rfl) rfl fun a hF => q_x (v := (.bool true)) hF hS (ex_pick_t rfl rfl hc2) rfl rfl fun a hF => q_end (n_jn ?_)
   obtain rfl := someI hj1
   exact ⟨hF.sub ⟨rfl, rfl, trivial⟩, hS⟩
 ·rintro a w ⟨hF, hS⟩
  refine n_sq ?_
  rcases bcase (t_2) with hc3 | hc3
  ·have hr := cond_f hc3 hr
   refine q_cond_f hF rfl hc3 (q_skipc (n_sq (q_seq (q_region (q_x (v := (.int .i64 t_1.1)) hF hS (ex_move rfl) rfl rfl fun a hF => q_x (v := (.int .i64 t_1.1)) hF hS (ex_assign rfl) rfl rfl fun a hF => q_x (v := (.bool true)) hF hS (ex_assign rfl) rfl rfl fun a hF => q_end (n_sq (q_ret ?_)))))))
   obtain rfl := someI hr
   exact ret_of hF hS rfl (.tmp rfl (.tmp rfl .nil)) rfl
  ·have hr := cond_t hc3 hr
   refine q_cond_t hF rfl hc3 (q_seq (q_region (q_x (v := (.int .i64 0)) hF hS (ex_assign rfl) rfl rfl fun a hF => q_x (v := (.bool false)) hF hS (ex_assign rfl) rfl rfl fun a hF => q_end (n_sq (q_ret (r_sq ?_))))))
   obtain rfl := someI hr
   exact ret_of hF hS rfl (.tmp rfl (.tmp rfl .nil)) rfl

theorem c_impl_parseRecord (p_s : List impl_Variable) (p_line : List UInt8) (r : impl_Record × Bool) (hr : impl_parseRecord p_s p_line = some r) (w0 : World) (m : Mem) (hv : Vis m w0) (ht : Tbl m) (s1 : Sl) (h1 : Rd m s1 p_s) :
  Ret Tryz.prog 27 [s1.v, (strV p_line)] w0 (fun v w => ∃ (q0' : Piece) (s0' : Sl), v = (.tuple #[(.agg #[(.int .i64 r.1.Area), (.int .i64 r.1.House), s0'.v]), (.bool r.2)]) ∧ St [] w0 w m [q0'] ∧ OwnL m 3 q0' s0' r.1.Values) := by
 unfold impl_parseRecord at hr
 refine ret_start Tryz.func27 rfl 75 rfl rfl m hv fun a hF hS => q_seq (q_region (q_alloc (cs := [(.int .i64 0), (.int .i64 0), nilS.v]) hF hS rfl rfl rfl fun a w b2 hF hS => q_x (v := (.bool false)) hF hS (ex_assign rfl) rfl rfl fun a hF => q_end (n_sq (q_seq (q_region (q_x (v := (strV p_line)) hF hS (ex_move rfl) rfl rfl fun a hF => ?_))))))
 obtain ⟨t_3, ht_3, hr⟩ := bindS hr
 refine q_call (vs := [(strV p_line), (strV ([32] : List UInt8)), (.int .i64 3)]) hF hS Tryz.func54 (by kernel_rfl) rfl rfl rfl (c_strings_SplitN p_line ([32] : List UInt8) 3 t_3 ht_3 _ m hS.vis ht) ?_
 rintro a w _ ⟨q5, s5, rfl, hR4, h5⟩ hF hS2
 have hS : St _ _ _ _ [q5, [⟨b2, [(.int .i64 0), (.int .i64 0), nilS.v], 44⟩]] := hS.joinF hR4
 refine q_x (v := s5.v) hF hS (ex_assign rfl) rfl rfl fun a hF => q_end (n_sq (q_seq (q_seq ?_)))
 obtain ⟨t_8, hj1, hr⟩ := bindS hr
 refine q_join (fun a w => Fr a 75 [(0, s1.v), (4, (.pointer (some ⟨b2, 0, none⟩))), (6, s5.v), (25, (.bool t_8))] ∧ St [] w0 w m [q5, [⟨b2, [(.int .i64 0), (.int .i64 0), nilS.v], 44⟩]]) ?_ ?_
 ·refine q_region (q_x (v := s5.v) hF hS (ex_move rfl) rfl rfl fun a hF => q_x (v := (.int .i64 (goLen t_3))) hF hS (ex_len Tryz.underlying63 rfl h5.len) rfl rfl fun a hF => q_x (v := (.bool ((goLen t_3) != 3))) hF hS (ex_ibin rfl rfl rfl) rfl rfl fun a hF => q_x (v := (.bool ((goLen t_3) != 3))) hF hS (ex_move rfl) rfl rfl fun a hF => ?_)
  rcases bcase ((goLen t_3) != 3) with hc2 | hc2
  ·have hj1 := cond_f hc2 hj1
   refine q_xg (v := s5.v) hF hS (ex_move rfl) (wanted_t hF rfl rfl rfl hc2) rfl fun a hF => ?_
   obtain ⟨e_6, he_6, hj1⟩ := bindS hj1
   obtain ⟨vs7, at7, d7⟩ := h5.at he_6 1 rfl
   obtain rfl : vs7 = [(strV e_6)] := d7
   refine q_xg (v := (elP s5 ((2 : Int).toNat * 1))) hF hS (ex_indexAddr Tryz.underlying63 sz9 rfl rfl (h5.idx he_6)) (wanted_t hF rfl rfl rfl hc2) rfl fun a hF => q_xg (v := (strV e_6)) hF hS (ex_loadE1 0 Tryz.underlying9 rfl rfl (at7.at 0 rfl) rfl rfl) (wanted_t hF rfl rfl rfl hc2) rfl fun a hF => q_xg (v := (.int .i64 (goLen e_6))) hF hS (ex_strLen Tryz.underlying9 rfl) (wanted_t hF rfl rfl rfl hc2) rfl fun a hF => q_xg (v := s1.v) hF hS (ex_move rfl) (wanted_t hF rfl rfl rfl hc2) rfl fun a hF => q_xg (v := (.int .i64 (goLen p_s))) hF hS (ex_len Tryz.underlying23 rfl h1.len) (wanted_t hF rfl rfl rfl hc2) rfl fun a hF => q_xg (v := (.bool ((goLen e_6) != (goLen p_s)))) hF hS (ex_ibin rfl rfl rfl) (wanted_t hF rfl rfl rfl hc2) rfl fun a hF => q_x (v := (.bool ((goLen e_6) != (goLen p_s)))) hF hS (ex_pick_f rfl rfl hc2) rfl rfl fun a hF => q_end (n_jn ?_)
   obtain rfl := someI hj1
   exact ⟨hF.sub ⟨rfl, rfl, rfl, rfl, trivial⟩, hS⟩
  ·have hj1 := cond_t hc2 hj1
   refine q_skip hF (wanted_f hF rfl rfl rfl hc2 rfl) rfl fun a hF => q_skip hF (wanted_f hF rfl rfl rfl hc2 rfl) rfl fun a hF => q_skip hF (wanted_f hF rfl rfl rfl hc2 rfl) rfl fun a hF => q_skip hF (wanted_f hF rfl rfl rfl hc2 rfl) rfl fun a hF => q_skip hF (wanted_f hF rfl rfl rfl hc2 rfl) rfl fun a hF => q_skip hF (wanted_f hF rfl rfl rfl hc2 rfl) rfl fun a hF => q_skip hF (wanted_f hF rfl rfl rfl hc2 rfl) rfl fun a hF => q_x (v := (.bool true)) hF hS (ex_pick_t rfl rfl hc2) rfl rfl fun a hF => q_end (n_jn ?_)
   obtain rfl := someI hj1
   exact ⟨hF.sub ⟨rfl, rfl, rfl, rfl, trivial⟩, hS⟩
 ·rintro a w ⟨hF, hS⟩
  refine n_sq ?_
  rcases bcase (t_8) with hc3 | hc3
  ·have hr := cond_f hc3 hr
   refine q_cond_f hF rfl hc3 (q_skipc (n_sq (q_seq (q_region (q_x (v := s5.v) hF hS (ex_move rfl) rfl rfl fun a hF => ?_)))))
   obtain ⟨e_9, he_9, hr⟩ := bindS hr
   obtain ⟨vs10, at10, d10⟩ := h5.at he_9 1 rfl
   obtain rfl : vs10 = [(strV e_9)] := d10
   refine q_x (v := (elP s5 ((0 : Int).toNat * 1))) hF hS (ex_indexAddr Tryz.underlying63 sz9 rfl rfl (h5.idx he_9)) rfl rfl fun a hF => q_x (v := (strV e_9)) hF hS (ex_loadE1 0 Tryz.underlying9 rfl rfl (at10.at 0 rfl) rfl rfl) rfl rfl fun a hF => ?_
   obtain ⟨t_11, ht_11, hr⟩ := bindS hr
   refine q_call (vs := [(strV e_9), (.int .i64 29)]) hF hS Tryz.func55 (by kernel_rfl) rfl rfl rfl (c_impl_wholeNatural e_9 29 t_11 ht_11 _ m hS.vis) ?_
   rintro a w _ rfl hF hS
   refine q_x (v := (.tuple #[(.int .i64 t_11.1), (.bool t_11.2)])) hF hS (ex_move rfl) rfl rfl fun a hF => q_x (v := (.int .i64 t_11.1)) hF hS (ex_extract rfl rfl) rfl rfl fun a hF => q_x (v := (.bool t_11.2)) hF hS (ex_extract rfl rfl) rfl rfl fun a hF => q_x (v := (.int .i64 t_11.1)) hF hS (ex_assign rfl) rfl rfl fun a hF => q_x (v := (.bool t_11.2)) hF hS (ex_assign rfl) rfl rfl fun a hF => q_end (n_sq (q_seq (q_seq (q_region (q_x (v := (.bool t_11.2)) hF hS (ex_move rfl) rfl rfl fun a hF => q_x (v := (.bool (!t_11.2))) hF hS (ex_not rfl) rfl rfl fun a hF => q_end (n_sq ?_))))))
   rcases bcase (!t_11.2) with hc4 | hc4
   ·have hr := cond_f hc4 hr
    refine q_cond_f hF rfl hc4 (q_skipc (n_sq (q_seq (q_region (q_x (v := s5.v) hF hS (ex_move rfl) rfl rfl fun a hF => ?_)))))
    obtain ⟨e_12, he_12, hr⟩ := bindS hr
    obtain ⟨vs13, at13, d13⟩ := h5.at he_12 1 rfl
    obtain rfl : vs13 = [(strV e_12)] := d13
    refine q_x (v := (elP s5 ((1 : Int).toNat * 1))) hF hS (ex_indexAddr Tryz.underlying63 sz9 rfl rfl (h5.idx he_12)) rfl rfl fun a hF => q_x (v := (strV e_12)) hF hS (ex_loadE1 0 Tryz.underlying9 rfl rfl (at13.at 0 rfl) rfl rfl) rfl rfl fun a hF => ?_
    obtain ⟨t_14, ht_14, hr⟩ := bindS hr
    refine q_call (vs := [(strV e_12), (.int .i64 999)]) hF hS Tryz.func55 (by kernel_rfl) rfl rfl rfl (c_impl_wholeNatural e_12 999 t_14 ht_14 _ m hS.vis) ?_
    rintro a w _ rfl hF hS
    refine q_x (v := (.tuple #[(.int .i64 t_14.1), (.bool t_14.2)])) hF hS (ex_move rfl) rfl rfl fun a hF => q_x (v := (.int .i64 t_14.1)) hF hS (ex_extract rfl rfl) rfl rfl fun a hF => q_x (v := (.bool t_14.2)) hF hS (ex_extract rfl rfl) rfl rfl fun a hF => q_x (v := (.int .i64 t_14.1)) hF hS (ex_assign rfl) rfl rfl fun a hF => q_x (v := (.bool t_14.2)) hF hS (ex_assign rfl) rfl rfl fun a hF => q_end (n_sq (q_seq (q_seq (q_region (q_x (v := (.bool t_14.2)) hF hS (ex_move rfl) rfl rfl fun a hF => q_x (v := (.bool (!t_14.2))) hF hS (ex_not rfl) rfl rfl fun a hF => q_end (n_sq ?_))))))
    rcases bcase (!t_14.2) with hc5 | hc5
    ·have hr := cond_f hc5 hr
     refine q_cond_f hF rfl hc5 (q_skipc (n_sq (q_seq (q_region (q_x (v := s1.v) hF hS (ex_move rfl) rfl rfl fun a hF => q_x (v := (.int .i64 (goLen p_s))) hF hS (ex_len Tryz.underlying23 rfl h1.len) rfl rfl fun a hF => ?_)))))
     obtain ⟨l_15, hl_15, hr⟩ := bindS hr
     refine q_do rfl fun _ hK => wp_make (z := (0 : Int)) hF hS Tryz.underlying40 inf3 rfl rfl rfl rfl rfl (by decide) hl_15 rfl fun a w q16 s16 hF hS h16 _ => hK _ _ (q_x (v := s16.v) hF hS (ex_assign rfl) rfl rfl fun a hF => q_end (n_sq (q_seq (q_seq (q_region (q_x (v := s16.v) hF hS (ex_move rfl) rfl rfl fun a hF => q_x (v := (.int .i64 (goLen l_15))) hF hS (ex_len Tryz.underlying40 rfl h16.len) rfl rfl fun a hF => q_x (v := (.int .i64 0)) hF hS (ex_move rfl) rfl rfl fun a hF => q_end (n_sq (q_block ?_))))))))
     obtain ⟨values_26, hl6, hr⟩ := bindS hr
     refine q_loop (fun (s : (List Int) × Int) a w => ∃ (q18 : Piece), ∃ values_17, ∃ t_19, s = (values_17, t_19) ∧ Fr a 75 [(0, s1.v), (4, (.pointer (some ⟨b2, 0, none⟩))), (6, s5.v), (7, (.int .i64 t_11.1)), (9, (.int .i64 t_14.1)), (10, s16.v), (51, (.int .i64 (goLen l_15))), (52, (.int .i64 t_19))] ∧ St [] w0 w m [q18, q5, [⟨b2, [(.int .i64 0), (.int .i64 0), nilS.v], 44⟩]] ∧ OwnL m 3 q18 s16 values_17) (fun (values_26 : (List Int)) e a w => ∃ (q27 : Piece), e = .exit 0 ∧ Fr a 75 [(0, s1.v), (4, (.pointer (some ⟨b2, 0, none⟩))), (7, (.int .i64 t_11.1)), (9, (.int .i64 t_14.1)), (10, s16.v)] ∧ St [] w0 w m [q27, [⟨b2, [(.int .i64 0), (.int .i64 0), nilS.v], 44⟩]] ∧ OwnL m 3 q27 s16 values_26) hl6 ⟨q16, _, _, rfl, hF.sub ⟨rfl, rfl, rfl, rfl, rfl, rfl, rfl, rfl, trivial⟩, hS, h16⟩ ?_ ?_
     ·clear hF hS
      rintro s a w st ⟨q18, values_17, t_19, rfl, hF, hS, h18⟩ hb6
      unfold impl_parseRecord_l1 at hb6
      refine q_seq (q_region (q_x (v := (.bool (decide (t_19 < (goLen l_15))))) hF hS (ex_ibin rfl rfl rfl) rfl rfl fun a hF => q_end (n_sq (q_seq ?_))))
      rcases bcase (decide (t_19 < (goLen l_15))) with hc7 | hc7
      ·have hb6 := cond_f hc7 hb6
       refine q_cond_f hF rfl hc7 (q_exit (x_sq ?_))
       obtain rfl := someI hb6
       exact ⟨nofun, .inl ⟨q18, rfl, hF.sub ⟨rfl, rfl, rfl, rfl, rfl, trivial⟩, hS.mask [true, false, true], h18⟩⟩
      ·have hb6 := cond_t hc7 hb6
       refine q_cond_t hF rfl hc7 (q_skipc (n_sq (q_seq (q_block (q_seq (q_region (q_x (v := (.int .i64 t_19)) hF hS (ex_move rfl) rfl rfl fun a hF => q_x (v := (.int .i64 t_19)) hF hS (ex_assign rfl) rfl rfl fun a hF => q_end (n_sq (q_region (q_x (v := s16.v) hF hS (ex_move rfl) rfl rfl fun a hF => q_x (v := (.int .i64 t_19)) hF hS (ex_move rfl) rfl rfl fun a hF => q_x (v := s5.v) hF hS (ex_move rfl) rfl rfl fun a hF => ?_))))))))))
       obtain ⟨e_20, he_20, hb6⟩ := bindS hb6
       obtain ⟨vs21, at21, d21⟩ := h5.at he_20 1 rfl
       obtain rfl : vs21 = [(strV e_20)] := d21
       refine q_x (v := (elP s5 ((2 : Int).toNat * 1))) hF hS (ex_indexAddr Tryz.underlying63 sz9 rfl rfl (h5.idx he_20)) rfl rfl fun a hF => q_x (v := (strV e_20)) hF hS (ex_loadE1 0 Tryz.underlying9 rfl rfl (at21.at 1 rfl) rfl rfl) rfl rfl fun a hF => q_x (v := (.int .i64 t_19)) hF hS (ex_move rfl) rfl rfl fun a hF => ?_
       obtain ⟨t_22, ht_22, hb6⟩ := bindS hb6
       refine q_x (v := (.int .u8 t_22)) hF hS (ex_strIdx Tryz.underlying9 rfl rfl ht_22) rfl rfl fun a hF => q_x (v := (.int .i64 (w64 t_22))) hF hS (ex_conv Tryz.underlying5 Tryz.underlying3 rfl) rfl rfl fun a hF => q_x (v := (.int .i64 (w64 ((w64 t_22) - 48)))) hF hS (ex_ibin rfl rfl rfl) rfl rfl fun a hF => ?_
       obtain ⟨e_23, he_23, hb6⟩ := bindS hb6
       obtain ⟨vs24, at24, d24⟩ := h18.at he_23 1 rfl
       obtain rfl : vs24 = [(.int .i64 e_23)] := d24
       refine q_x (v := (elP s16 (t_19.toNat * 1))) hF hS (ex_indexAddr Tryz.underlying40 sz3 rfl rfl (h18.idx he_23)) rfl rfl fun a hF => q_do rfl fun _ hK => wp_storeE (e' := (w64 ((w64 t_22) - 48))) (us := [(.int .i64 (w64 ((w64 t_22) - 48)))]) (vs := [(.int .i64 e_23)]) 0 hF hS h18 sz3 rfl rfl rfl rfl rfl rfl rfl he_23 at24 rfl rfl rfl fun w q25 hS h25 => hK _ _ (q_end (n_ib (n_sq (q_region (q_x (v := (.int .i64 (w64 (t_19 + 1)))) hF hS (ex_ibin rfl rfl rfl) rfl rfl fun a hF => q_x (v := (.int .i64 (w64 (t_19 + 1)))) hF hS (ex_move rfl) rfl rfl fun a hF => q_end ?_)))))
       obtain rfl := someI hb6
       exact ⟨rfl, q25, _, _, rfl, hF.sub ⟨rfl, rfl, rfl, rfl, rfl, rfl, rfl, rfl, trivial⟩, hS, h25⟩
     ·rintro e a w ⟨q27, rfl, hF, hS, h27⟩
      refine x_ib (n_sq ?_)
      refine q_seq (q_seq (q_region (q_x (v := s1.v) hF hS (ex_move rfl) rfl rfl fun a hF => q_x (v := s16.v) hF hS (ex_move rfl) rfl rfl fun a hF => ?_)))
      obtain ⟨m29, hl29, hv29, hz29⟩ := hS.lend
      obtain ⟨t_28, ht_28, hr⟩ := bindS hr
      refine q_call (vs := [s1.v, s16.v]) hF hS Tryz.func56 (by kernel_rfl) rfl rfl rfl (c_impl_areValues p_s values_26 t_28 ht_28 _ m29 hv29 s1 (h1.mono hl29) s16 (h27.froz hl29 (hz29 0 _ rfl))) ?_
      rintro a w _ rfl hF hS
      refine q_x (v := (.bool (!t_28))) hF hS (ex_not rfl) rfl rfl fun a hF => q_end (n_sq ?_)
      rcases bcase (!t_28) with hc8 | hc8
      ·have hr := cond_f hc8 hr
       refine q_cond_f hF rfl hc8 (q_skipc (n_sq (q_seq (q_region (q_x (v := (.int .i64 t_11.1)) hF hS (ex_move rfl) rfl rfl fun a hF => q_x (v := (.int .i64 t_14.1)) hF hS (ex_move rfl) rfl rfl fun a hF => q_x (v := s16.v) hF hS (ex_move rfl) rfl rfl fun a hF => q_x (v := (.agg #[(.int .i64 t_11.1), (.int .i64 t_14.1), s16.v])) hF hS (ex_build (cells := [(.int .i64 t_11.1), (.int .i64 t_14.1), s16.v]) rfl (by kernel_rfl)) rfl rfl fun a hF => q_store (vs := [(.int .i64 t_11.1), (.int .i64 t_14.1), s16.v]) (cs' := [(.int .i64 t_11.1), (.int .i64 t_14.1), s16.v]) 1 0 hF hS sz44 rfl rfl rfl rfl rfl rfl rfl rfl fun a w hF hS => q_x (v := (.bool true)) hF hS (ex_assign rfl) rfl rfl fun a hF => q_end (n_sq (q_ret ?_)))))))
       obtain rfl := someI hr
       exact ret_of hF hS rfl (.cellA (us := [(.int .i64 t_11.1), (.int .i64 t_14.1), s16.v]) 1 0 Tryz.underlying44 rfl sz44 rfl rfl rfl rfl (.tmp rfl .nil)) ⟨q27, s16, rfl, hS.sel [0] (by decide), h27⟩
      ·have hr := cond_t hc8 hr
       refine q_cond_t hF rfl hc8 (q_seq (q_region (q_x (v := (.agg #[(.int .i64 0), (.int .i64 0), nilS.v])) hF hS (ex_build (cells := [(.int .i64 0), (.int .i64 0), nilS.v]) rfl (by kernel_rfl)) rfl rfl fun a hF => q_store (vs := [(.int .i64 0), (.int .i64 0), nilS.v]) (cs' := [(.int .i64 0), (.int .i64 0), nilS.v]) 1 0 hF hS sz44 rfl rfl rfl rfl rfl rfl rfl rfl fun a w hF hS => q_x (v := (.bool false)) hF hS (ex_assign rfl) rfl rfl fun a hF => q_end (n_sq (q_ret (r_sq ?_))))))
       obtain rfl := someI hr
       exact ret_of hF hS rfl (.cellA (us := [(.int .i64 0), (.int .i64 0), nilS.v]) 1 0 Tryz.underlying44 rfl sz44 rfl rfl rfl rfl (.tmp rfl .nil)) ⟨[], nilS, rfl, hS.sel [2] (by decide), (OwnL.nil (α := Int) m 3)⟩
    ·have hr := cond_t hc5 hr
     refine q_cond_t hF rfl hc5 (q_seq (q_region (q_x (v := (.agg #[(.int .i64 0), (.int .i64 0), nilS.v])) hF hS (ex_build (cells := [(.int .i64 0), (.int .i64 0), nilS.v]) rfl (by kernel_rfl)) rfl rfl fun a hF => q_store (vs := [(.int .i64 0), (.int .i64 0), nilS.v]) (cs' := [(.int .i64 0), (.int .i64 0), nilS.v]) 1 0 hF hS sz44 rfl rfl rfl rfl rfl rfl rfl rfl fun a w hF hS => q_x (v := (.bool false)) hF hS (ex_assign rfl) rfl rfl fun a hF => q_end (n_sq (q_ret (r_sq ?_))))))
     obtain rfl := someI hr
     exact ret_of hF hS rfl (.cellA (us := [(.int .i64 0), (.int .i64 0), nilS.v]) 1 0 Tryz.underlying44 rfl sz44 rfl rfl rfl rfl (.tmp rfl .nil)) ⟨[], nilS, rfl, hS.sel [2] (by decide), (OwnL.nil (α := Int) m 3)⟩
   ·have hr := cond_t hc4 hr
    refine q_cond_t hF rfl hc4 (q_seq (q_region (q_x (v := (.agg #[(.int .i64 0), (.int .i64 0), nilS.v])) hF hS (ex_build (cells := [(.int .i64 0), (.int .i64 0), nilS.v]) rfl (by kernel_rfl)) rfl rfl fun a hF => q_store (vs := [(.int .i64 0), (.int .i64 0), nilS.v]) (cs' := [(.int .i64 0), (.int .i64 0), nilS.v]) 1 0 hF hS sz44 rfl rfl rfl rfl rfl rfl rfl rfl fun a w hF hS => q_x (v := (.bool false)) hF hS (ex_assign rfl) rfl rfl fun a hF => q_end (n_sq (q_ret (r_sq ?_))))))
    obtain rfl := someI hr
    exact ret_of hF hS rfl (.cellA (us := [(.int .i64 0), (.int .i64 0), nilS.v]) 1 0 Tryz.underlying44 rfl sz44 rfl rfl rfl rfl (.tmp rfl .nil)) ⟨[], nilS, rfl, hS.sel [2] (by decide), (OwnL.nil (α := Int) m 3)⟩
  ·have hr := cond_t hc3 hr
   refine q_cond_t hF rfl hc3 (q_seq (q_region (q_x (v := (.agg #[(.int .i64 0), (.int .i64 0), nilS.v])) hF hS (ex_build (cells := [(.int .i64 0), (.int .i64 0), nilS.v]) rfl (by kernel_rfl)) rfl rfl fun a hF => q_store (vs := [(.int .i64 0), (.int .i64 0), nilS.v]) (cs' := [(.int .i64 0), (.int .i64 0), nilS.v]) 1 0 hF hS sz44 rfl rfl rfl rfl rfl rfl rfl rfl fun a w hF hS => q_x (v := (.bool false)) hF hS (ex_assign rfl) rfl rfl fun a hF => q_end (n_sq (q_ret (r_sq ?_))))))
   obtain rfl := someI hr
   exact ret_of hF hS rfl (.cellA (us := [(.int .i64 0), (.int .i64 0), nilS.v]) 1 0 Tryz.underlying44 rfl sz44 rfl rfl rfl rfl (.tmp rfl .nil)) ⟨[], nilS, rfl, hS.sel [2] (by decide), (OwnL.nil (α := Int) m 3)⟩

theorem c_impl_ParseData (p_s : List impl_Variable) (p_t : List UInt8) (r : (List impl_Record) × Bool) (hr : impl_ParseData p_s p_t = some r) (w0 : World) (m : Mem) (hv : Vis m w0) (ht : Tbl m) (s1 : Sl) (h1 : Rd m s1 p_s) :
  Ret Tryz.prog 8 [s1.v, (strV p_t)] w0 (fun v w => ∃ (m' : Mem) (q0' : Piece) (s0' : Sl), v = (.tuple #[s0'.v, (.bool r.2)]) ∧ MLe [] w0.heap.size m m' ∧ St [] w0 w m' [q0'] ∧ OwnL m' 44 q0' s0' r.1) := by
 unfold impl_ParseData at hr
 refine ret_start Tryz.func8 rfl 46 rfl rfl m hv fun a hF hS => q_seq (q_region (q_x (v := nilS.v) hF hS (ex_assign rfl) rfl rfl fun a hF => q_x (v := (.bool false)) hF hS (ex_assign rfl) rfl rfl fun a hF => q_end (n_sq (q_seq (q_seq (q_region (q_x (v := s1.v) hF hS (ex_move rfl) rfl rfl fun a hF => ?_)))))))
 obtain ⟨t_2, ht_2, hr⟩ := bindS hr
 refine q_call (vs := [s1.v]) hF hS Tryz.func16 (by kernel_rfl) rfl rfl rfl (c_impl_IsSchema p_s t_2 ht_2 _ m hS.vis s1 h1) ?_
 rintro a w _ rfl hF hS
 refine q_x (v := (.bool (!t_2))) hF hS (ex_not rfl) rfl rfl fun a hF => q_end (n_sq ?_)
 rcases bcase (!t_2) with hc1 | hc1
 ·have hr := cond_f hc1 hr
  refine q_cond_f hF rfl hc1 (q_skipc (n_sq (q_seq (q_region (q_x (v := nilS.v) hF hS (ex_assign rfl) rfl rfl fun a hF => q_end (n_sq (q_seq (q_block ?_))))))))
  obtain ⟨o2, hl2, hr⟩ := bindS hr
  refine q_loop (fun (s : (List UInt8) × (List impl_Record)) a w => ∃ (m6 : Mem), ∃ (q5 : Piece), ∃ (s5 : Sl), ∃ t_3, ∃ l_4, s = (t_3, l_4) ∧ Fr a 46 [(0, s1.v), (1, (strV t_3)), (6, s5.v)] ∧ St [] w0 w m6 [q5] ∧ MLe [] w0.heap.size m m6 ∧ OwnL m6 44 q5 s5 l_4) (fun (o : ((List impl_Record)) ⊕ ((List impl_Record) × Bool)) e a w => ∃ (m19 : Mem), ∃ (q18 : Piece), ∃ (s18 : Sl), ∃ l_17, o = .inl l_17 ∧ e = .exit 0 ∧ Fr a 46 [(6, s18.v)] ∧ St [] w0 w m19 [q18] ∧ MLe [] w0.heap.size m m19 ∧ OwnL m19 44 q18 s18 l_17) hl2 ⟨m, [], nilS, _, _, rfl, hF.sub ⟨rfl, rfl, rfl, trivial⟩, hS.sel [0] (by decide), (MLe.refl _ _), (OwnL.nil (α := impl_Record) m 44)⟩ ?_ ?_
  ·clear hF hS
   rintro s a w st ⟨m6, q5, s5, t_3, l_4, rfl, hF, hS, hm6, h5⟩ hb2
   unfold impl_ParseData_l1 at hb2
   refine q_seq (q_seq (q_region (q_x (v := (strV t_3)) hF hS (ex_move rfl) rfl rfl fun a hF => q_x (v := (.bool (t_3 != ([] : List UInt8)))) hF hS (ex_strNe rfl rfl) rfl rfl fun a hF => q_end (n_sq ?_))))
   rcases bcase (t_3 != ([] : List UInt8)) with hc3 | hc3
   ·have hb2 := cond_f hc3 hb2
    refine q_cond_f hF rfl hc3 (q_exit (x_sq ?_))
    obtain rfl := someI hb2
    exact ⟨nofun, .inl ⟨m6, q5, s5, _, rfl, rfl, hF.sub ⟨rfl, trivial⟩, hS, hm6, h5⟩⟩
   ·have hb2 := cond_t hc3 hb2
    refine q_cond_t hF rfl hc3 (q_skipc (n_sq (q_block (q_seq (q_region (q_x (v := (strV t_3)) hF hS (ex_move rfl) rfl rfl fun a hF => ?_))))))
    obtain ⟨t_7, ht_7, hb2⟩ := bindS hb2
    refine q_call (vs := [(strV t_3), (strV ([10] : List UInt8))]) hF hS Tryz.func26 (by kernel_rfl) rfl rfl rfl (c_strings_Cut t_3 ([10] : List UInt8) t_7 ht_7 _ m6 hS.vis (ht.mono hm6.le)) ?_
    rintro a w _ rfl hF hS
    refine q_x (v := (.tuple #[(strV t_7.1), (strV t_7.2.1), (.bool t_7.2.2)])) hF hS (ex_move rfl) rfl rfl fun a hF => q_x (v := (strV t_7.1)) hF hS (ex_extract rfl rfl) rfl rfl fun a hF => q_x (v := (strV t_7.2.1)) hF hS (ex_extract rfl rfl) rfl rfl fun a hF => q_x (v := (.bool t_7.2.2)) hF hS (ex_extract rfl rfl) rfl rfl fun a hF => q_x (v := (strV t_7.1)) hF hS (ex_assign rfl) rfl rfl fun a hF => q_x (v := (strV t_7.2.1)) hF hS (ex_assign rfl) rfl rfl fun a hF => q_x (v := (.bool t_7.2.2)) hF hS (ex_assign rfl) rfl rfl fun a hF => q_end (n_sq (q_seq (q_region (q_x (v := s1.v) hF hS (ex_move rfl) rfl rfl fun a hF => q_x (v := (strV t_7.1)) hF hS (ex_move rfl) rfl rfl fun a hF => ?_))))
    obtain ⟨t_8, ht_8, hb2⟩ := bindS hb2
    refine q_call (vs := [s1.v, (strV t_7.1)]) hF hS Tryz.func27 (by kernel_rfl) rfl rfl rfl (c_impl_parseRecord p_s t_7.1 t_8 ht_8 _ m6 hS.vis (ht.mono hm6.le) s1 (h1.mono hm6.le)) ?_
    rintro a w _ ⟨q10, s10, rfl, hR9, h10⟩ hF hS2
    have hS : St _ _ _ _ [q10, q5] := hS.joinF hR9
    refine q_x (v := (.tuple #[(.agg #[(.int .i64 t_8.1.Area), (.int .i64 t_8.1.House), s10.v]), (.bool t_8.2)])) hF hS (ex_move rfl) rfl rfl fun a hF => q_x (v := (.agg #[(.int .i64 t_8.1.Area), (.int .i64 t_8.1.House), s10.v])) hF hS (ex_extract rfl rfl) rfl rfl fun a hF => q_x (v := (.bool t_8.2)) hF hS (ex_extract rfl rfl) rfl rfl fun a hF => q_alloc (cs := [(.int .i64 0), (.int .i64 0), nilS.v]) hF hS rfl rfl rfl fun a w b11 hF hS => q_store (vs := [(.int .i64 t_8.1.Area), (.int .i64 t_8.1.House), s10.v]) (cs' := [(.int .i64 t_8.1.Area), (.int .i64 t_8.1.House), s10.v]) 0 0 hF hS sz44 rfl rfl rfl rfl rfl rfl rfl rfl fun a w hF hS => q_x (v := (.bool t_8.2)) hF hS (ex_assign rfl) rfl rfl fun a hF => q_end (n_sq (q_seq (q_seq ?_)))
    obtain ⟨t_12, hj4, hb2⟩ := bindS hb2
    refine q_join (fun a w => Fr a 46 [(0, s1.v), (6, s5.v), (8, (strV t_7.2.1)), (10, (.pointer (some ⟨b11, 0, none⟩))), (39, (.bool t_12))] ∧ St [] w0 w m6 [q5, q10, [⟨b11, [(.int .i64 t_8.1.Area), (.int .i64 t_8.1.House), s10.v], 44⟩]]) ?_ ?_
    ·refine q_region (q_x (v := (.bool t_7.2.2)) hF hS (ex_move rfl) rfl rfl fun a hF => q_x (v := (.bool (!t_7.2.2))) hF hS (ex_not rfl) rfl rfl fun a hF => q_x (v := (.bool (!t_7.2.2))) hF hS (ex_move rfl) rfl rfl fun a hF => ?_)
     rcases bcase (!t_7.2.2) with hc5 | hc5
     ·have hj4 := cond_f hc5 hj4
      refine q_xg (v := (.bool t_8.2)) hF hS (ex_move rfl) (wanted_t hF rfl rfl rfl hc5) rfl fun a hF => q_xg (v := (.bool (!t_8.2))) hF hS (ex_not rfl) (wanted_t hF rfl rfl rfl hc5) rfl fun a hF => q_x (v := (.bool (!t_8.2))) hF hS (ex_pick_f rfl rfl hc5) rfl rfl fun a hF => q_x (v := (.bool (!t_8.2))) hF hS (ex_move rfl) rfl rfl fun a hF => ?_
      rcases bcase (!t_8.2) with hc6 | hc6
      ·have hj4 := cond_f hc6 hj4
       refine q_xg (v := s5.v) hF hS (ex_move rfl) (wanted_t hF rfl rfl rfl hc6) rfl fun a hF => q_xg (v := (.int .i64 (goLen l_4))) hF hS (ex_len Tryz.underlying24 rfl h5.len) (wanted_t hF rfl rfl rfl hc6) rfl fun a hF => q_xg (v := (.bool ((goLen l_4) == 40))) hF hS (ex_ibin rfl rfl rfl) (wanted_t hF rfl rfl rfl hc6) rfl fun a hF => q_x (v := (.bool ((goLen l_4) == 40))) hF hS (ex_pick_f rfl rfl hc6) rfl rfl fun a hF => q_end (n_jn ?_)
       obtain rfl := someI hj4
       exact ⟨hF.sub ⟨rfl, rfl, rfl, rfl, rfl, trivial⟩, hS.sel [2, 1, 0] (by decide)⟩
      ·have hj4 := cond_t hc6 hj4
       refine q_skip hF (wanted_f hF rfl rfl rfl hc6 rfl) rfl fun a hF => q_skip hF (wanted_f hF rfl rfl rfl hc6 rfl) rfl fun a hF => q_skip hF (wanted_f hF rfl rfl rfl hc6 rfl) rfl fun a hF => q_x (v := (.bool true)) hF hS (ex_pick_t rfl rfl hc6) rfl rfl fun a hF => q_end (n_jn ?_)
       obtain rfl := someI hj4
       exact ⟨hF.sub ⟨rfl, rfl, rfl, rfl, rfl, trivial⟩, hS.sel [2, 1, 0] (by decide)⟩
     ·have hj4 := cond_t hc5 hj4
      refine q_skip hF (wanted_f hF rfl rfl rfl hc5 rfl) rfl fun a hF => q_skip hF (wanted_f hF rfl rfl rfl hc5 rfl) rfl fun a hF => q_x (v := (.bool true)) hF hS (ex_pick_t rfl rfl hc5) rfl rfl fun a hF => q_x (v := (.bool true)) hF hS (ex_move rfl) rfl rfl fun a hF => q_skip hF (wanted_f hF rfl rfl rfl rfl rfl) rfl fun a hF => q_skip hF (wanted_f hF rfl rfl rfl rfl rfl) rfl fun a hF => q_skip hF (wanted_f hF rfl rfl rfl rfl rfl) rfl fun a hF => q_x (v := (.bool true)) hF hS (ex_pick_t rfl rfl rfl) rfl rfl fun a hF => q_end (n_jn ?_)
      obtain rfl := someI hj4
      exact ⟨hF.sub ⟨rfl, rfl, rfl, rfl, rfl, trivial⟩, hS.sel [2, 1, 0] (by decide)⟩
    ·rintro a w ⟨hF, hS⟩
     refine n_sq ?_
     rcases bcase (t_12) with hc7 | hc7
     ·have hb2 := cond_f hc7 hb2
      refine q_cond_f hF rfl hc7 (q_skipc (n_sq (q_seq (q_region (q_x (v := s5.v) hF hS (ex_move rfl) rfl rfl fun a hF => q_x (v := (.agg #[(.int .i64 t_8.1.Area), (.int .i64 t_8.1.House), s10.v])) hF hS (ex_loadA (vs := [(.int .i64 t_8.1.Area), (.int .i64 t_8.1.House), s10.v]) 2 0 Tryz.underlying44 rfl sz44 rfl rfl rfl rfl) rfl rfl fun a hF => ?_)))))
      have hS : St _ _ _ _ [q10, q5, [⟨b11, [(.int .i64 t_8.1.Area), (.int .i64 t_8.1.House), s10.v], 44⟩]] := hS.sel [1, 0, 2] (by decide)
      obtain ⟨m14, hm14, hS, hz14⟩ := hS.freeze
      have h14 := h10.froz hm14.le hz14
      refine q_do rfl fun _ hK => wp_buildSlice' (l := ([t_8.1] : List impl_Record)) (cells := [(.int .i64 t_8.1.Area), (.int .i64 t_8.1.House), s10.v]) hF hS Tryz.underlying24 inf44 rfl rfl (by kernel_rfl) rfl rfl rfl ⟨⟨s10, rfl, h14⟩, rfl⟩ rfl rfl fun a w q13 s13 hF hS h13 _ => hK _ _ ?_
      have hS : St _ _ _ _ [q5, q13, [⟨b11, [(.int .i64 t_8.1.Area), (.int .i64 t_8.1.House), s10.v], 44⟩]] := hS.sel [1, 0, 2] (by decide)
      obtain ⟨l_15, hl_15, hb2⟩ := bindS hb2
      refine q_do rfl fun _ hK => wp_append hF hS (h5.mono hm14.le) Tryz.underlying24 inf44 rfl rfl rfl rfl (h13.vw hS (j := 1) rfl) rfl (by decide) hl_15 rfl fun a w q16 s16 hF hS h16 => hK _ _ (q_x (v := s16.v) hF hS (ex_assign rfl) rfl rfl fun a hF => q_end (n_sq (q_region (q_x (v := (strV t_7.2.1)) hF hS (ex_move rfl) rfl rfl fun a hF => q_x (v := (strV t_7.2.1)) hF hS (ex_assign rfl) rfl rfl fun a hF => q_end (n_ib ?_)))))
      obtain rfl := someI hb2
      exact ⟨rfl, m14, q16, s16, _, _, rfl, hF.sub ⟨rfl, rfl, rfl, trivial⟩, hS.mask [true, false, false], (hm6.trans hm14), h16⟩
     ·have hb2 := cond_t hc7 hb2
      refine q_cond_t hF rfl hc7 (q_seq (q_region (q_x (v := nilS.v) hF hS (ex_assign rfl) rfl rfl fun a hF => q_x (v := (.bool false)) hF hS (ex_assign rfl) rfl rfl fun a hF => q_end (n_sq (q_ret (r_sq (r_ib ?_)))))))
      obtain rfl := someI hb2
      refine ⟨nofun, .inr fun ho => ?_⟩
      subst ho
      refine r_ib (r_sq ?_)
      obtain rfl := someI hr
      exact ret_of hF hS rfl (.tmp rfl (.tmp rfl .nil)) ⟨m6, [], nilS, rfl, hm6, hS.sel [3] (by decide), (OwnL.nil (α := impl_Record) m6 44)⟩
  ·rintro e a w ⟨m19, q18, s18, l_17, rfl, rfl, hF, hS, hm19, h18⟩
   refine x_ib (n_sq ?_)
   refine q_seq (q_region (q_x (v := s18.v) hF hS (ex_move rfl) rfl rfl fun a hF => q_x (v := s18.v) hF hS (ex_assign rfl) rfl rfl fun a hF => q_x (v := (.bool true)) hF hS (ex_assign rfl) rfl rfl fun a hF => q_end (n_sq (q_ret ?_))))
   obtain rfl := someI hr
   exact ret_of hF hS rfl (.tmp rfl (.tmp rfl .nil)) ⟨m19, q18, s18, rfl, hm19, hS.sel [0] (by decide), h18⟩
 ·have hr := cond_t hc1 hr
  refine q_cond_t hF rfl hc1 (q_seq (q_region (q_x (v := nilS.v) hF hS (ex_assign rfl) rfl rfl fun a hF => q_x (v := (.bool false)) hF hS (ex_assign rfl) rfl rfl fun a hF => q_end (n_sq (q_ret (r_sq ?_))))))
  obtain rfl := someI hr
  exact ret_of hF hS rfl (.tmp rfl (.tmp rfl .nil)) ⟨m, [], nilS, rfl, (MLe.refl _ _), hS.sel [0] (by decide), (OwnL.nil (α := impl_Record) m 44)⟩

theorem c_spec_l1Split (p_s : List UInt8) (p_b : K .u8) (r : (List (List UInt8))) (hr : spec_l1Split p_s p_b = some r) (w0 : World) (m : Mem) (hv : Vis m w0) :
  Ret Tryz.prog 29 [(strV p_s), (.int .u8 p_b.v)] w0 (fun v w => ∃ (q0' : Piece) (s0' : Sl), v = s0'.v ∧ St [] w0 w m [q0'] ∧ OwnL m 9 q0' s0' r) := by
 unfold spec_l1Split at hr
 refine ret_start Tryz.func29 rfl 34 rfl rfl m hv fun a hF hS => q_seq (q_region (q_x (v := nilS.v) hF hS (ex_assign rfl) rfl rfl fun a hF => q_end (n_sq (q_seq (q_region (q_x (v := nilS.v) hF hS (ex_assign rfl) rfl rfl fun a hF => q_end (n_sq (q_seq (q_region (q_x (v := (.int .i64 0)) hF hS (ex_assign rfl) rfl rfl fun a hF => q_end (n_sq (q_seq (q_seq (q_region (q_x (v := (.int .i64 0)) hF hS (ex_assign rfl) rfl rfl fun a hF => q_end (n_sq (q_block ?_)))))))))))))))))
 obtain ⟨o1, hl1, hr⟩ := bindS hr
 refine q_loop (fun (s : (List (List UInt8)) × Int × Int) a w => ∃ (q2 : Piece), ∃ (s2 : Sl), ∃ out_1, ∃ from_3, ∃ i_4, s = (out_1, from_3, i_4) ∧ Fr a 34 [(0, (strV p_s)), (1, (.int .u8 p_b.v)), (5, s2.v), (6, (.int .i64 from_3)), (7, (.int .i64 i_4))] ∧ St [] w0 w m [q2] ∧ OwnL m 9 q2 s2 out_1) (fun (o : (List (List UInt8)) × Int) e a w => ∃ (q14 : Piece), ∃ (s14 : Sl), ∃ out_13, ∃ from_15, o = (out_13, from_15) ∧ e = .exit 0 ∧ Fr a 34 [(0, (strV p_s)), (5, s14.v), (6, (.int .i64 from_15))] ∧ St [] w0 w m [q14] ∧ OwnL m 9 q14 s14 out_13) hl1 ⟨[], nilS, _, _, _, rfl, hF.sub ⟨rfl, rfl, rfl, rfl, rfl, trivial⟩, hS.sel [0] (by decide), (OwnL.nil (α := List UInt8) m 9)⟩ ?_ ?_
 ·clear hF hS
  rintro s a w st ⟨q2, s2, out_1, from_3, i_4, rfl, hF, hS, h2⟩ hb1
  unfold spec_l1Split_l1 at hb1
  refine q_seq (q_seq (q_region (q_x (v := (.int .i64 i_4)) hF hS (ex_move rfl) rfl rfl fun a hF => q_x (v := (strV p_s)) hF hS (ex_move rfl) rfl rfl fun a hF => q_x (v := (.int .i64 (goLen p_s))) hF hS (ex_strLen Tryz.underlying9 rfl) rfl rfl fun a hF => q_x (v := (.bool (decide (i_4 < (goLen p_s))))) hF hS (ex_ibin rfl rfl rfl) rfl rfl fun a hF => q_end (n_sq ?_))))
  rcases bcase (decide (i_4 < (goLen p_s))) with hc2 | hc2
  ·have hb1 := cond_f hc2 hb1
   refine q_cond_f hF rfl hc2 (q_exit (x_sq ?_))
   obtain rfl := someI hb1
   exact ⟨nofun, .inl ⟨q2, s2, _, _, rfl, rfl, hF.sub ⟨rfl, rfl, rfl, trivial⟩, hS, h2⟩⟩
  ·have hb1 := cond_t hc2 hb1
   refine q_cond_t hF rfl hc2 (q_skipc (n_sq (q_seq (q_block (q_seq (q_region (q_x (v := (strV p_s)) hF hS (ex_move rfl) rfl rfl fun a hF => q_x (v := (.int .i64 i_4)) hF hS (ex_move rfl) rfl rfl fun a hF => ?_)))))))
   obtain ⟨t_5, ht_5, hb1⟩ := bindS hb1
   refine q_x (v := (.int .u8 t_5)) hF hS (ex_strIdx Tryz.underlying9 rfl rfl ht_5) rfl rfl fun a hF => q_x (v := (.int .u8 p_b.v)) hF hS (ex_move rfl) rfl rfl fun a hF => q_x (v := (.bool (t_5 == p_b.v))) hF hS (ex_ibin rfl rfl rfl) rfl rfl fun a hF => q_end (n_sq ?_)
   obtain ⟨j3, hj3, hb1⟩ := bindS hb1
   refine q_join (fun a w => ∃ (q11 : Piece), ∃ (s11 : Sl), ∃ out_10, ∃ from_12, j3 = (out_10, from_12) ∧ Fr a 34 [(0, (strV p_s)), (1, (.int .u8 p_b.v)), (5, s11.v), (6, (.int .i64 from_12)), (7, (.int .i64 i_4))] ∧ St [] w0 w m [q11] ∧ OwnL m 9 q11 s11 out_10) ?_ ?_
   ·rcases bcase (t_5 == p_b.v) with hc4 | hc4
    ·have hj3 := cond_f hc4 hj3
     refine q_cond_f hF rfl hc4 (q_skipc (n_jn ?_))
     obtain rfl := someI hj3
     exact ⟨q2, s2, _, _, rfl, hF.sub ⟨rfl, rfl, rfl, rfl, rfl, trivial⟩, hS, h2⟩
    ·have hj3 := cond_t hc4 hj3
     refine q_cond_t hF rfl hc4 (q_seq (q_region (q_x (v := s2.v) hF hS (ex_move rfl) rfl rfl fun a hF => q_x (v := (strV p_s)) hF hS (ex_move rfl) rfl rfl fun a hF => q_x (v := (.int .i64 from_3)) hF hS (ex_move rfl) rfl rfl fun a hF => q_x (v := (.int .i64 i_4)) hF hS (ex_move rfl) rfl rfl fun a hF => ?_)))
     obtain ⟨t_6, ht_6, hj3⟩ := bindS hj3
     refine q_x (v := (strV t_6)) hF hS (ex_strSub Tryz.underlying9 rfl rfl rfl (.inr ⟨_, rfl⟩) (.inr ⟨_, rfl⟩) ht_6) rfl rfl fun a hF => q_do rfl fun _ hK => wp_buildSlice' (l := ([t_6] : List (List UInt8))) (cells := [(strV t_6)]) hF hS Tryz.underlying63 inf9 rfl rfl (by kernel_rfl) rfl rfl rfl ⟨rfl, rfl⟩ rfl rfl fun a w q7 s7 hF hS h7 _ => hK _ _ ?_
     have hS : St _ _ _ _ [q2, q7] := hS.sel [1, 0] (by decide)
     obtain ⟨l_8, hl_8, hj3⟩ := bindS hj3
     refine q_do rfl fun _ hK => wp_append hF hS h2 Tryz.underlying63 inf9 rfl rfl rfl rfl (h7.vw hS (j := 1) rfl) rfl (by decide) hl_8 rfl fun a w q9 s9 hF hS h9 => hK _ _ (q_x (v := s9.v) hF hS (ex_assign rfl) rfl rfl fun a hF => q_end (n_sq (q_region (q_x (v := (.int .i64 i_4)) hF hS (ex_move rfl) rfl rfl fun a hF => q_x (v := (.int .i64 (w64 (i_4 + 1)))) hF hS (ex_ibin rfl rfl rfl) rfl rfl fun a hF => q_x (v := (.int .i64 (w64 (i_4 + 1)))) hF hS (ex_assign rfl) rfl rfl fun a hF => q_end (n_jn ?_)))))
     obtain rfl := someI hj3
     exact ⟨q9, s9, _, _, rfl, hF.sub ⟨rfl, rfl, rfl, rfl, rfl, trivial⟩, hS.mask [true, false], h9⟩
   ·rintro a w ⟨q11, s11, out_10, from_12, rfl, hF, hS, h11⟩
    refine n_ib (n_sq ?_)
    refine q_region (q_x (v := (.int .i64 i_4)) hF hS (ex_move rfl) rfl rfl fun a hF => q_x (v := (.int .i64 (w64 (i_4 + 1)))) hF hS (ex_ibin rfl rfl rfl) rfl rfl fun a hF => q_x (v := (.int .i64 (w64 (i_4 + 1)))) hF hS (ex_assign rfl) rfl rfl fun a hF => q_end ?_)
    obtain rfl := someI hb1
    exact ⟨rfl, q11, s11, _, _, _, rfl, hF.sub ⟨rfl, rfl, rfl, rfl, rfl, trivial⟩, hS, h11⟩
 ·rintro e a w ⟨q14, s14, out_13, from_15, rfl, rfl, hF, hS, h14⟩
  refine x_ib (n_sq ?_)
  refine q_seq (q_region (q_x (v := s14.v) hF hS (ex_move rfl) rfl rfl fun a hF => q_x (v := (strV p_s)) hF hS (ex_move rfl) rfl rfl fun a hF => q_x (v := (.int .i64 from_15)) hF hS (ex_move rfl) rfl rfl fun a hF => ?_))
  obtain ⟨t_16, ht_16, hr⟩ := bindS hr
  refine q_x (v := (strV t_16)) hF hS (ex_strSub Tryz.underlying9 rfl rfl rfl (.inr ⟨_, rfl⟩) (.inl ⟨rfl, rfl⟩) ht_16) rfl rfl fun a hF => q_do rfl fun _ hK => wp_buildSlice' (l := ([t_16] : List (List UInt8))) (cells := [(strV t_16)]) hF hS Tryz.underlying63 inf9 rfl rfl (by kernel_rfl) rfl rfl rfl ⟨rfl, rfl⟩ rfl rfl fun a w q17 s17 hF hS h17 _ => hK _ _ ?_
  have hS : St _ _ _ _ [q14, q17] := hS.sel [1, 0] (by decide)
  obtain ⟨l_18, hl_18, hr⟩ := bindS hr
  refine q_do rfl fun _ hK => wp_append hF hS h14 Tryz.underlying63 inf9 rfl rfl rfl rfl (h17.vw hS (j := 1) rfl) rfl (by decide) hl_18 rfl fun a w q19 s19 hF hS h19 => hK _ _ (q_x (v := s19.v) hF hS (ex_assign rfl) rfl rfl fun a hF => q_end (n_sq (q_ret ?_)))
  obtain rfl := someI hr
  exact ret_of hF hS rfl (.tmp rfl .nil) ⟨q19, s19, rfl, hS.sel [0] (by decide), h19⟩

theorem c_spec_l1Read (p_s : List UInt8) (r : Int) (hr : spec_l1Read p_s = some r) (w0 : World) (m : Mem) (hv : Vis m w0) :
  Ret Tryz.prog 30 [(strV p_s)] w0 (fun v _ => v = (.int .i64 r)) := by
 unfold spec_l1Read at hr
 refine ret_start Tryz.func30 rfl 44 rfl rfl m hv fun a hF hS => q_seq (q_region (q_x (v := (.int .i64 0)) hF hS (ex_assign rfl) rfl rfl fun a hF => q_end (n_sq (q_seq (q_seq ?_)))))
 obtain ⟨t_3, hj1, hr⟩ := bindS hr
 refine q_join (fun a w => Fr a 44 [(0, (strV p_s)), (18, (.bool t_3))] ∧ St [] w0 w m []) ?_ ?_
 ·refine q_region (q_x (v := (strV p_s)) hF hS (ex_move rfl) rfl rfl fun a hF => q_x (v := (.int .i64 (goLen p_s))) hF hS (ex_strLen Tryz.underlying9 rfl) rfl rfl fun a hF => ?_)
  obtain ⟨t_1, ht_1, hj1⟩ := bindS hj1
  refine q_call (vs := [(.int .i64 (goLen p_s)), (.int .i64 1), (.int .i64 6)]) hF hS Tryz.func57 (by kernel_rfl) rfl rfl rfl (c_spec_l1In (goLen p_s) 1 6 t_1 ht_1 _ m hS.vis) ?_
  rintro a w _ rfl hF hS
  refine q_x (v := (.bool (!t_1))) hF hS (ex_not rfl) rfl rfl fun a hF => q_x (v := (.bool (!t_1))) hF hS (ex_move rfl) rfl rfl fun a hF => ?_
  rcases bcase (!t_1) with hc2 | hc2
  ·have hj1 := cond_f hc2 hj1
   refine q_xg (v := (strV p_s)) hF hS (ex_move rfl) (wanted_t hF rfl rfl rfl hc2) rfl fun a hF => ?_
   obtain ⟨t_2, ht_2, hj1⟩ := bindS hj1
   refine q_xg (v := (.int .u8 t_2)) hF hS (ex_strIdx Tryz.underlying9 rfl rfl ht_2) (wanted_t hF rfl rfl rfl hc2) rfl fun a hF => q_xg (v := (.bool (t_2 == 48))) hF hS (ex_ibin rfl rfl rfl) (wanted_t hF rfl rfl rfl hc2) rfl fun a hF => q_xg (v := (.bool (t_2 == 48))) hF hS (ex_move rfl) (wanted_t hF rfl rfl rfl hc2) rfl fun a hF => ?_
   rcases bcase (t_2 == 48) with hc3 | hc3
   ·have hj1 := cond_f hc3 hj1
    refine q_skip hF (wanted_f hF rfl rfl rfl hc3 rfl) rfl fun a hF => q_skip hF (wanted_f hF rfl rfl rfl hc3 rfl) rfl fun a hF => q_skip hF (wanted_f hF rfl rfl rfl hc3 rfl) rfl fun a hF => q_xg (v := (.bool false)) hF hS (ex_pick_f rfl rfl hc3) (wanted_t hF rfl rfl rfl hc2) rfl fun a hF => q_x (v := (.bool false)) hF hS (ex_pick_f rfl rfl hc2) rfl rfl fun a hF => q_end (n_jn ?_)
    obtain rfl := someI hj1
    exact ⟨hF.sub ⟨rfl, rfl, trivial⟩, hS⟩
   ·have hj1 := cond_t hc3 hj1
    refine q_xg (v := (strV p_s)) hF hS (ex_move rfl) (wanted_t hF rfl rfl rfl hc3) rfl fun a hF => q_xg (v := (.int .i64 (goLen p_s))) hF hS (ex_strLen Tryz.underlying9 rfl) (wanted_t hF rfl rfl rfl hc3) rfl fun a hF => q_xg (v := (.bool (decide (1 < (goLen p_s))))) hF hS (ex_ibin rfl rfl rfl) (wanted_t hF rfl rfl rfl hc3) rfl fun a hF => q_xg (v := (.bool (decide (1 < (goLen p_s))))) hF hS (ex_pick_t rfl rfl hc3) (wanted_t hF rfl rfl rfl hc2) rfl fun a hF => q_x (v := (.bool (decide (1 < (goLen p_s))))) hF hS (ex_pick_f rfl rfl hc2) rfl rfl fun a hF => q_end (n_jn ?_)
    obtain rfl := someI hj1
    exact ⟨hF.sub ⟨rfl, rfl, trivial⟩, hS⟩
  ·have hj1 := cond_t hc2 hj1
   refine q_skip hF (wanted_f hF rfl rfl rfl hc2 rfl) rfl fun a hF => q_skip hF (wanted_f hF rfl rfl rfl hc2 rfl) rfl fun a hF => q_skip hF (wanted_f hF rfl rfl rfl hc2 rfl) rfl fun a hF => q_skip hF (wanted_f hF rfl rfl rfl hc2 rfl) rfl fun a hF => q_skip hF (wanted_u hF rfl rfl rfl) rfl fun a hF => q_skip hF (wanted_u hF rfl rfl rfl) rfl fun a hF => q_skip hF (wanted_u hF rfl rfl rfl) rfl fun a hF => q_skip hF (wanted_f hF rfl rfl rfl hc2 rfl) rfl fun a hF => q_x (v := (.bool true)) hF hS (ex_pick_t rfl rfl hc2) rfl rfl fun a hF => q_end (n_jn ?_)
   obtain rfl := someI hj1
   exact ⟨hF.sub ⟨rfl, rfl, trivial⟩, hS⟩
 ·rintro a w ⟨hF, hS⟩
  refine n_sq ?_
  rcases bcase (t_3) with hc4 | hc4
  ·have hr := cond_f hc4 hr
   refine q_cond_f hF rfl hc4 (q_skipc (n_sq (q_seq (q_region (q_x (v := (.int .i64 0)) hF hS (ex_assign rfl) rfl rfl fun a hF => q_end (n_sq (q_seq (q_seq (q_region (q_x (v := (.int .i64 0)) hF hS (ex_assign rfl) rfl rfl fun a hF => q_end (n_sq (q_block ?_))))))))))))
   obtain ⟨o5, hl5, hr⟩ := bindS hr
   refine q_loop (fun (s : Int × Int) a w => ∃ n_4, ∃ i_5, s = (n_4, i_5) ∧ Fr a 44 [(0, (strV p_s)), (3, (.int .i64 n_4)), (4, (.int .i64 i_5))] ∧ St [] w0 w m []) (fun (o : (Int) ⊕ (Int)) e a w => ∃ n_10, o = .inl n_10 ∧ e = .exit 0 ∧ Fr a 44 [(3, (.int .i64 n_10))] ∧ St [] w0 w m []) hl5 ⟨_, _, rfl, hF.sub ⟨rfl, rfl, rfl, trivial⟩, hS⟩ ?_ ?_
   ·clear hF hS
    rintro s a w st ⟨n_4, i_5, rfl, hF, hS⟩ hb5
    unfold spec_l1Read_l1 at hb5
    refine q_seq (q_seq (q_region (q_x (v := (.int .i64 i_5)) hF hS (ex_move rfl) rfl rfl fun a hF => q_x (v := (strV p_s)) hF hS (ex_move rfl) rfl rfl fun a hF => q_x (v := (.int .i64 (goLen p_s))) hF hS (ex_strLen Tryz.underlying9 rfl) rfl rfl fun a hF => q_x (v := (.bool (decide (i_5 < (goLen p_s))))) hF hS (ex_ibin rfl rfl rfl) rfl rfl fun a hF => q_end (n_sq ?_))))
    rcases bcase (decide (i_5 < (goLen p_s))) with hc6 | hc6
    ·have hb5 := cond_f hc6 hb5
     refine q_cond_f hF rfl hc6 (q_exit (x_sq ?_))
     obtain rfl := someI hb5
     exact ⟨nofun, .inl ⟨_, rfl, rfl, hF.sub ⟨rfl, trivial⟩, hS⟩⟩
    ·have hb5 := cond_t hc6 hb5
     refine q_cond_t hF rfl hc6 (q_skipc (n_sq (q_seq (q_block (q_seq (q_seq ?_))))))
     obtain ⟨t_8, hj7, hb5⟩ := bindS hb5
     refine q_join (fun a w => Fr a 44 [(0, (strV p_s)), (3, (.int .i64 n_4)), (4, (.int .i64 i_5)), (34, (.bool t_8))] ∧ St [] w0 w m []) ?_ ?_
     ·refine q_region (q_x (v := (strV p_s)) hF hS (ex_move rfl) rfl rfl fun a hF => q_x (v := (.int .i64 i_5)) hF hS (ex_move rfl) rfl rfl fun a hF => ?_)
      obtain ⟨t_6, ht_6, hj7⟩ := bindS hj7
      refine q_x (v := (.int .u8 t_6)) hF hS (ex_strIdx Tryz.underlying9 rfl rfl ht_6) rfl rfl fun a hF => q_x (v := (.bool (decide (t_6 < 48)))) hF hS (ex_ibin rfl rfl rfl) rfl rfl fun a hF => q_x (v := (.bool (decide (t_6 < 48)))) hF hS (ex_move rfl) rfl rfl fun a hF => ?_
      rcases bcase (decide (t_6 < 48)) with hc8 | hc8
      ·have hj7 := cond_f hc8 hj7
       refine q_xg (v := (strV p_s)) hF hS (ex_move rfl) (wanted_t hF rfl rfl rfl hc8) rfl fun a hF => q_xg (v := (.int .i64 i_5)) hF hS (ex_move rfl) (wanted_t hF rfl rfl rfl hc8) rfl fun a hF => ?_
       obtain ⟨t_7, ht_7, hj7⟩ := bindS hj7
       refine q_xg (v := (.int .u8 t_7)) hF hS (ex_strIdx Tryz.underlying9 rfl rfl ht_7) (wanted_t hF rfl rfl rfl hc8) rfl fun a hF => q_xg (v := (.bool (decide (57 < t_7)))) hF hS (ex_ibin rfl rfl rfl) (wanted_t hF rfl rfl rfl hc8) rfl fun a hF => q_x (v := (.bool (decide (57 < t_7)))) hF hS (ex_pick_f rfl rfl hc8) rfl rfl fun a hF => q_end (n_jn ?_)
       obtain rfl := someI hj7
       exact ⟨hF.sub ⟨rfl, rfl, rfl, rfl, trivial⟩, hS⟩
      ·have hj7 := cond_t hc8 hj7
       refine q_skip hF (wanted_f hF rfl rfl rfl hc8 rfl) rfl fun a hF => q_skip hF (wanted_f hF rfl rfl rfl hc8 rfl) rfl fun a hF => q_skip hF (wanted_f hF rfl rfl rfl hc8 rfl) rfl fun a hF => q_skip hF (wanted_f hF rfl rfl rfl hc8 rfl) rfl fun a hF => q_x (v := (.bool true)) hF hS (ex_pick_t rfl rfl hc8) rfl rfl fun a hF => q_end (n_jn ?_)
       obtain rfl := someI hj7
       exact ⟨hF.sub ⟨rfl, rfl, rfl, rfl, trivial⟩, hS⟩
     ·rintro a w ⟨hF, hS⟩
      refine n_sq ?_
      rcases bcase (t_8) with hc9 | hc9
      ·have hb5 := cond_f hc9 hb5
       refine q_cond_f hF rfl hc9 (q_skipc (n_sq (q_region (q_x (v := (.int .i64 n_4)) hF hS (ex_move rfl) rfl rfl fun a hF => q_x (v := (.int .i64 (w64 (10 * n_4)))) hF hS (ex_ibin rfl rfl rfl) rfl rfl fun a hF => q_x (v := (strV p_s)) hF hS (ex_move rfl) rfl rfl fun a hF => q_x (v := (.int .i64 i_5)) hF hS (ex_move rfl) rfl rfl fun a hF => ?_))))
       obtain ⟨t_9, ht_9, hb5⟩ := bindS hb5
       refine q_x (v := (.int .u8 t_9)) hF hS (ex_strIdx Tryz.underlying9 rfl rfl ht_9) rfl rfl fun a hF => q_x (v := (.int .u8 (IntKind.wrap .u8 (t_9 - 48)))) hF hS (ex_ibin rfl rfl rfl) rfl rfl fun a hF => q_x (v := (.int .i64 (w64 (IntKind.wrap .u8 (t_9 - 48))))) hF hS (ex_conv Tryz.underlying5 Tryz.underlying3 rfl) rfl rfl fun a hF => q_x (v := (.int .i64 (w64 ((w64 (10 * n_4)) + (w64 (IntKind.wrap .u8 (t_9 - 48))))))) hF hS (ex_ibin rfl rfl rfl) rfl rfl fun a hF => q_x (v := (.int .i64 (w64 ((w64 (10 * n_4)) + (w64 (IntKind.wrap .u8 (t_9 - 48))))))) hF hS (ex_assign rfl) rfl rfl fun a hF => q_end (n_ib (n_sq (q_region (q_x (v := (.int .i64 i_5)) hF hS (ex_move rfl) rfl rfl fun a hF => q_x (v := (.int .i64 (w64 (i_5 + 1)))) hF hS (ex_ibin rfl rfl rfl) rfl rfl fun a hF => q_x (v := (.int .i64 (w64 (i_5 + 1)))) hF hS (ex_assign rfl) rfl rfl fun a hF => q_end ?_))))
       obtain rfl := someI hb5
       exact ⟨rfl, _, _, rfl, hF.sub ⟨rfl, rfl, rfl, trivial⟩, hS⟩
      ·have hb5 := cond_t hc9 hb5
       refine q_cond_t hF rfl hc9 (q_seq (q_region (q_x (v := (.int .i64 (-1))) hF hS (ex_assign rfl) rfl rfl fun a hF => q_end (n_sq (q_ret (r_sq (r_ib (r_sq ?_))))))))
       obtain rfl := someI hb5
       refine ⟨nofun, .inr fun ho => ?_⟩
       subst ho
       refine r_ib (r_sq ?_)
       obtain rfl := someI hr
       exact ret_of hF hS rfl (.tmp rfl .nil) rfl
   ·rintro e a w ⟨n_10, rfl, rfl, hF, hS⟩
    refine x_ib (n_sq ?_)
    refine q_seq (q_region (q_x (v := (.int .i64 n_10)) hF hS (ex_move rfl) rfl rfl fun a hF => q_x (v := (.int .i64 n_10)) hF hS (ex_assign rfl) rfl rfl fun a hF => q_end (n_sq (q_ret ?_))))
    obtain rfl := someI hr
    exact ret_of hF hS rfl (.tmp rfl .nil) rfl
  ·have hr := cond_t hc4 hr
   refine q_cond_t hF rfl hc4 (q_seq (q_region (q_x (v := (.int .i64 (-1))) hF hS (ex_assign rfl) rfl rfl fun a hF => q_end (n_sq (q_ret (r_sq ?_))))))
   obtain rfl := someI hr
   exact ret_of hF hS rfl (.tmp rfl .nil) rfl

theorem c_spec_ParseData (p_s : List impl_Variable) (p_t : List UInt8) (r : (List impl_Record) × Bool) (hr : spec_ParseData p_s p_t = some r) (w0 : World) (m : Mem) (hv : Vis m w0) (s1 : Sl) (h1 : Rd m s1 p_s) :
  Ret Tryz.prog 9 [s1.v, (strV p_t)] w0 (fun v w => ∃ (m' : Mem) (q0' : Piece) (s0' : Sl), v = (.tuple #[s0'.v, (.bool r.2)]) ∧ MLe [] w0.heap.size m m' ∧ St [] w0 w m' [q0'] ∧ OwnL m' 44 q0' s0' r.1) := by
 unfold spec_ParseData at hr
 refine ret_start Tryz.func9 rfl 83 rfl rfl m hv fun a hF hS => q_seq (q_region (q_x (v := nilS.v) hF hS (ex_assign rfl) rfl rfl fun a hF => q_x (v := (.bool false)) hF hS (ex_assign rfl) rfl rfl fun a hF => q_end (n_sq (q_seq (q_seq ?_)))))
 obtain ⟨t_3, hj1, hr⟩ := bindS hr
 refine q_join (fun a w => Fr a 83 [(0, s1.v), (1, (strV p_t)), (20, (.bool t_3))] ∧ St [] w0 w m []) ?_ ?_
 ·refine q_region (q_x (v := s1.v) hF hS (ex_move rfl) rfl rfl fun a hF => ?_)
  obtain ⟨t_2, ht_2, hj1⟩ := bindS hj1
  refine q_call (vs := [s1.v]) hF hS Tryz.func28 (by kernel_rfl) rfl rfl rfl (c_spec_sGood p_s t_2 ht_2 _ m hS.vis s1 h1) ?_
  rintro a w _ rfl hF hS
  refine q_x (v := (.bool (!t_2))) hF hS (ex_not rfl) rfl rfl fun a hF => q_x (v := (.bool (!t_2))) hF hS (ex_move rfl) rfl rfl fun a hF => ?_
  rcases bcase (!t_2) with hc2 | hc2
  ·have hj1 := cond_f hc2 hj1
   refine q_xg (v := (strV p_t)) hF hS (ex_move rfl) (wanted_t hF rfl rfl rfl hc2) rfl fun a hF => q_xg (v := (.int .i64 (goLen p_t))) hF hS (ex_strLen Tryz.underlying9 rfl) (wanted_t hF rfl rfl rfl hc2) rfl fun a hF => q_xg (v := (.bool (decide (1000 < (goLen p_t))))) hF hS (ex_ibin rfl rfl rfl) (wanted_t hF rfl rfl rfl hc2) rfl fun a hF => q_x (v := (.bool (decide (1000 < (goLen p_t))))) hF hS (ex_pick_f rfl rfl hc2) rfl rfl fun a hF => q_end (n_jn ?_)
   obtain rfl := someI hj1
   exact ⟨hF.sub ⟨rfl, rfl, rfl, trivial⟩, hS⟩
  ·have hj1 := cond_t hc2 hj1
   refine q_skip hF (wanted_f hF rfl rfl rfl hc2 rfl) rfl fun a hF => q_skip hF (wanted_f hF rfl rfl rfl hc2 rfl) rfl fun a hF => q_skip hF (wanted_f hF rfl rfl rfl hc2 rfl) rfl fun a hF => q_x (v := (.bool true)) hF hS (ex_pick_t rfl rfl hc2) rfl rfl fun a hF => q_end (n_jn ?_)
   obtain rfl := someI hj1
   exact ⟨hF.sub ⟨rfl, rfl, rfl, trivial⟩, hS⟩
 ·rintro a w ⟨hF, hS⟩
  refine n_sq ?_
  rcases bcase (t_3) with hc3 | hc3
  ·have hr := cond_f hc3 hr
   refine q_cond_f hF rfl hc3 (q_skipc (n_sq (q_seq (q_region (q_x (v := nilS.v) hF hS (ex_assign rfl) rfl rfl fun a hF => q_end (n_sq (q_seq (q_region (q_x (v := (strV p_t)) hF hS (ex_move rfl) rfl rfl fun a hF => ?_)))))))))
   obtain ⟨t_4, ht_4, hr⟩ := bindS hr
   refine q_call (vs := [(strV p_t), (.int .u8 10)]) hF hS Tryz.func29 (by kernel_rfl) rfl rfl rfl (c_spec_l1Split p_t (⟨10⟩ : K .u8) t_4 ht_4 _ m hS.vis) ?_
   rintro a w _ ⟨q6, s6, rfl, hR5, h6⟩ hF hS2
   have hS : St _ _ _ _ [q6] := hS.joinF hR5
   refine q_x (v := s6.v) hF hS (ex_assign rfl) rfl rfl fun a hF => q_end (n_sq (q_seq (q_seq (q_region (q_x (v := s6.v) hF hS (ex_move rfl) rfl rfl fun a hF => q_x (v := s6.v) hF hS (ex_move rfl) rfl rfl fun a hF => q_x (v := (.int .i64 (goLen t_4))) hF hS (ex_len Tryz.underlying63 rfl h6.len) rfl rfl fun a hF => q_x (v := (.int .i64 (w64 ((goLen t_4) - 1)))) hF hS (ex_ibin rfl rfl rfl) rfl rfl fun a hF => ?_)))))
   obtain ⟨l_7, hl_7, hr⟩ := bindS hr
   have h8 : OwnL m 9 q6 (subS s6 1 (0 : Int).toNat (w64 ((goLen t_4) - 1)).toNat s6.cap) l_7 := h6.sub0 hl_7
   refine q_x (v := (subS s6 1 (0 : Int).toNat (w64 ((goLen t_4) - 1)).toNat s6.cap).v) hF hS (ex_slice Tryz.underlying63 sz9 rfl rfl rfl (.inl ⟨rfl, rfl⟩) (.inr ⟨_, rfl⟩) (h6.subok hl_7)) rfl rfl fun a hF => q_x (v := (.int .i64 (goLen l_7))) hF hS (ex_len Tryz.underlying63 rfl h8.len) rfl rfl fun a hF => q_x (v := (.int .i64 0)) hF hS (ex_move rfl) rfl rfl fun a hF => q_end (n_sq (q_block ?_))
   obtain ⟨o4, hl4, hr⟩ := bindS hr
   refine q_loop (fun (s : (List impl_Record) × Int) a w => ∃ (m12 : Mem), ∃ (q10 : Piece), ∃ (s10 : Sl), ∃ out_9, ∃ t_11, s = (out_9, t_11) ∧ Fr a 83 [(0, s1.v), (1, (strV p_t)), (6, s10.v), (27, (subS s6 1 (0 : Int).toNat (w64 ((goLen t_4) - 1)).toNat s6.cap).v), (28, (.int .i64 (goLen l_7))), (29, (.int .i64 t_11))] ∧ St [] w0 w m12 [q10, q6] ∧ MLe [] w0.heap.size m m12 ∧ OwnL m12 44 q10 s10 out_9) (fun (o : ((List impl_Record)) ⊕ ((List impl_Record) × Bool)) e a w => ∃ (m49 : Mem), ∃ (q48 : Piece), ∃ (s48 : Sl), ∃ out_47, o = .inl out_47 ∧ e = .exit 0 ∧ Fr a 83 [(0, s1.v), (1, (strV p_t)), (6, s48.v)] ∧ St [] w0 w m49 [q48] ∧ MLe [] w0.heap.size m m49 ∧ OwnL m49 44 q48 s48 out_47) hl4 ⟨m, [], nilS, _, _, rfl, hF.sub ⟨rfl, rfl, rfl, rfl, rfl, rfl, trivial⟩, hS.sel [1, 0] (by decide), (MLe.refl _ _), (OwnL.nil (α := impl_Record) m 44)⟩ ?_ ?_
   ·clear hF hS
    rintro s a w st ⟨m12, q10, s10, out_9, t_11, rfl, hF, hS, hm12, h10⟩ hb4
    unfold spec_ParseData_l1 at hb4
    refine q_seq (q_region (q_x (v := (.bool (decide (t_11 < (goLen l_7))))) hF hS (ex_ibin rfl rfl rfl) rfl rfl fun a hF => q_end (n_sq (q_seq ?_))))
    rcases bcase (decide (t_11 < (goLen l_7))) with hc5 | hc5
    ·have hb4 := cond_f hc5 hb4
     refine q_cond_f hF rfl hc5 (q_exit (x_sq ?_))
     obtain rfl := someI hb4
     exact ⟨nofun, .inl ⟨m12, q10, s10, _, rfl, rfl, hF.sub ⟨rfl, rfl, rfl, trivial⟩, hS.mask [true, false], hm12, h10⟩⟩
    ·have hb4 := cond_t hc5 hb4
     refine q_cond_t hF rfl hc5 (q_skipc (n_sq (q_seq (q_block (q_seq (q_region ?_))))))
     obtain ⟨e_13, he_13, hb4⟩ := bindS hb4
     obtain ⟨vs14, at14, d14⟩ := (h8.mono hm12.le).at he_13 1 rfl
     obtain rfl : vs14 = [(strV e_13)] := d14
     refine q_x (v := (elP (subS s6 1 (0 : Int).toNat (w64 ((goLen t_4) - 1)).toNat s6.cap) (t_11.toNat * 1))) hF hS (ex_indexAddr Tryz.underlying63 sz9 rfl rfl ((h8.mono hm12.le).idx he_13)) rfl rfl fun a hF => q_x (v := (strV e_13)) hF hS (ex_loadE1 0 Tryz.underlying9 rfl rfl (at14.at 1 rfl) rfl rfl) rfl rfl fun a hF => q_x (v := (strV e_13)) hF hS (ex_assign rfl) rfl rfl fun a hF => q_end (n_sq (q_seq (q_region (q_x (v := (strV e_13)) hF hS (ex_move rfl) rfl rfl fun a hF => ?_))))
     obtain ⟨t_15, ht_15, hb4⟩ := bindS hb4
     refine q_call (vs := [(strV e_13), (.int .u8 32)]) hF hS Tryz.func29 (by kernel_rfl) rfl rfl rfl (c_spec_l1Split e_13 (⟨32⟩ : K .u8) t_15 ht_15 _ m12 hS.vis) ?_
     rintro a w _ ⟨q17, s17, rfl, hR16, h17⟩ hF hS2
     have hS : St _ _ _ _ [q17, q10, q6] := hS.joinF hR16
     refine q_x (v := s17.v) hF hS (ex_assign rfl) rfl rfl fun a hF => q_end (n_sq (q_seq (q_seq (q_region (q_x (v := s17.v) hF hS (ex_move rfl) rfl rfl fun a hF => q_x (v := (.int .i64 (goLen t_15))) hF hS (ex_len Tryz.underlying63 rfl h17.len) rfl rfl fun a hF => q_x (v := (.bool ((goLen t_15) != 3))) hF hS (ex_ibin rfl rfl rfl) rfl rfl fun a hF => q_end (n_sq ?_))))))
     rcases bcase ((goLen t_15) != 3) with hc6 | hc6
     ·have hb4 := cond_f hc6 hb4
      refine q_cond_f hF rfl hc6 (q_skipc (n_sq (q_seq ?_)))
      obtain ⟨r_29, hj7, hb4⟩ := bindS hb4
      refine q_join (fun a w => ∃ b28, Fr a 83 [(0, s1.v), (1, (strV p_t)), (6, s10.v), (10, s17.v), (11, (.pointer (some ⟨b28, 0, none⟩))), (27, (subS s6 1 (0 : Int).toNat (w64 ((goLen t_4) - 1)).toNat s6.cap).v), (28, (.int .i64 (goLen l_7))), (29, (.int .i64 t_11))] ∧ St [] w0 w m12 [q10, q17, q6, [⟨b28, [(.int .i64 r_29.Area), (.int .i64 r_29.House), nilS.v], 44⟩]]) ?_ ?_
      ·refine e_region ⟨[10], []⟩ mixed fun w' hw' => ?_
       have hS := hS.below hw'
       refine e_p (v := s17.v) 0 hF rfl (ex_move rfl) rfl rfl (by kernel_rfl) (by kernel_rfl) (by kernel_rfl) fun a hF => ?_
       obtain ⟨e_18, he_18, hj7⟩ := bindS hj7
       obtain ⟨vs19, at19, d19⟩ := h17.at he_18 1 rfl
       obtain rfl : vs19 = [(strV e_18)] := d19
       refine e_p (v := (elP s17 ((0 : Int).toNat * 1))) 1 hF rfl (ex_indexAddr Tryz.underlying63 sz9 rfl rfl (h17.idx he_18)) rfl rfl (by kernel_rfl) (by kernel_rfl) (by kernel_rfl) fun a hF => e_x (v := (strV e_18)) 2 hF hS rfl (ex_loadE1 0 Tryz.underlying9 rfl rfl (at19.at 0 rfl) rfl rfl) rfl rfl (by kernel_rfl) (by kernel_rfl) (by kernel_rfl) (by kernel_rfl) fun a hF => e_p (v := s17.v) 4 hF rfl (ex_move rfl) rfl rfl (by kernel_rfl) (by kernel_rfl) (by kernel_rfl) fun a hF => ?_
       obtain ⟨e_22, he_22, hj7⟩ := bindS hj7
       obtain ⟨vs23, at23, d23⟩ := h17.at he_22 1 rfl
       obtain rfl : vs23 = [(strV e_22)] := d23
       refine e_p (v := (elP s17 ((1 : Int).toNat * 1))) 5 hF rfl (ex_indexAddr Tryz.underlying63 sz9 rfl rfl (h17.idx he_22)) rfl rfl (by kernel_rfl) (by kernel_rfl) (by kernel_rfl) fun a hF => e_x (v := (strV e_22)) 6 hF hS rfl (ex_loadE1 0 Tryz.underlying9 rfl rfl (at23.at 0 rfl) rfl rfl) rfl rfl (by kernel_rfl) (by kernel_rfl) (by kernel_rfl) (by kernel_rfl) fun a hF => ?_
       obtain ⟨t_26, ht_26, hj7⟩ := bindS hj7
       obtain ⟨t_27, ht_27, hj7⟩ := bindS hj7
       refine e_all [3, 9] (by kernel_rfl) rfl ⟨?_, ?_, trivial⟩
       ·refine e_call (vs := [(strV e_18)]) hF hS rfl Tryz.func30 (by kernel_rfl) rfl rfl rfl (c_spec_l1Read e_18 t_26 ht_26 _ m12 hS.vis) ?_
        rintro a w _ rfl hF hS
        refine e_all [7, 9] (by kernel_rfl) rfl ⟨?_, ?_, trivial⟩
        ·refine e_call (vs := [(strV e_22)]) hF hS rfl Tryz.func30 (by kernel_rfl) rfl rfl rfl (c_spec_l1Read e_22 t_27 ht_27 _ m12 hS.vis) ?_
         rintro a w _ rfl hF hS
         refine e_p (v := (.agg #[(.int .i64 t_26), (.int .i64 t_27), nilS.v])) 8 hF rfl (ex_build (cells := [(.int .i64 t_26), (.int .i64 t_27), nilS.v]) rfl (by kernel_rfl)) rfl rfl (by kernel_rfl) (by kernel_rfl) (by kernel_rfl) fun a hF => e_one 9 (by kernel_rfl) (e_alloc (cs := [(.int .i64 0), (.int .i64 0), nilS.v]) hF hS rfl rfl rfl rfl fun a w b28 hF hS => e_one 10 (by kernel_rfl) (e_store (vs := [(.int .i64 t_26), (.int .i64 t_27), nilS.v]) (cs' := [(.int .i64 t_26), (.int .i64 t_27), nilS.v]) 0 0 hF hS rfl rfl sz44 rfl rfl rfl rfl rfl rfl rfl rfl fun a w hF hS => ⟨kpN, ?_⟩))
         refine e_end (by kernel_rfl) (n_jn ?_) _
         obtain rfl := someI hj7
         exact ⟨b28, hF.sub ⟨rfl, rfl, rfl, rfl, rfl, rfl, rfl, rfl, trivial⟩, hS.sel [2, 1, 3, 0] (by decide)⟩
        ·refine e_alloc (cs := [(.int .i64 0), (.int .i64 0), nilS.v]) hF hS rfl rfl rfl rfl fun a w b28 hF hS => e_one 7 (by kernel_rfl) (e_call (vs := [(strV e_22)]) hF hS rfl Tryz.func30 (by kernel_rfl) rfl rfl rfl (c_spec_l1Read e_22 t_27 ht_27 _ m12 hS.vis) ?_)
         rintro a w _ rfl hF hS
         refine e_p (v := (.agg #[(.int .i64 t_26), (.int .i64 t_27), nilS.v])) 8 hF rfl (ex_build (cells := [(.int .i64 t_26), (.int .i64 t_27), nilS.v]) rfl (by kernel_rfl)) rfl rfl (by kernel_rfl) (by kernel_rfl) (by kernel_rfl) fun a hF => e_one 10 (by kernel_rfl) (e_store (vs := [(.int .i64 t_26), (.int .i64 t_27), nilS.v]) (cs' := [(.int .i64 t_26), (.int .i64 t_27), nilS.v]) 0 0 hF hS rfl rfl sz44 rfl rfl rfl rfl rfl rfl rfl rfl fun a w hF hS => ⟨kpN, ?_⟩)
         refine e_end (by kernel_rfl) (n_jn ?_) _
         obtain rfl := someI hj7
         exact ⟨b28, hF.sub ⟨rfl, rfl, rfl, rfl, rfl, rfl, rfl, rfl, trivial⟩, hS.sel [2, 1, 3, 0] (by decide)⟩
       ·refine e_alloc (cs := [(.int .i64 0), (.int .i64 0), nilS.v]) hF hS rfl rfl rfl rfl fun a w b28 hF hS => e_one 3 (by kernel_rfl) (e_call (vs := [(strV e_18)]) hF hS rfl Tryz.func30 (by kernel_rfl) rfl rfl rfl (c_spec_l1Read e_18 t_26 ht_26 _ m12 hS.vis) ?_)
        rintro a w _ rfl hF hS
        refine e_one 7 (by kernel_rfl) (e_call (vs := [(strV e_22)]) hF hS rfl Tryz.func30 (by kernel_rfl) rfl rfl rfl (c_spec_l1Read e_22 t_27 ht_27 _ m12 hS.vis) ?_)
        rintro a w _ rfl hF hS
        refine e_p (v := (.agg #[(.int .i64 t_26), (.int .i64 t_27), nilS.v])) 8 hF rfl (ex_build (cells := [(.int .i64 t_26), (.int .i64 t_27), nilS.v]) rfl (by kernel_rfl)) rfl rfl (by kernel_rfl) (by kernel_rfl) (by kernel_rfl) fun a hF => e_one 10 (by kernel_rfl) (e_store (vs := [(.int .i64 t_26), (.int .i64 t_27), nilS.v]) (cs' := [(.int .i64 t_26), (.int .i64 t_27), nilS.v]) 0 0 hF hS rfl rfl sz44 rfl rfl rfl rfl rfl rfl rfl rfl fun a w hF hS => ⟨kpN, ?_⟩)
        refine e_end (by kernel_rfl) (n_jn ?_) _
        obtain rfl := someI hj7
        exact ⟨b28, hF.sub ⟨rfl, rfl, rfl, rfl, rfl, rfl, rfl, rfl, trivial⟩, hS.sel [2, 1, 3, 0] (by decide)⟩
      ·rintro a w ⟨b28, hF, hS⟩
       refine n_sq ?_
       refine q_seq (q_seq (q_region (q_x (v := (.int .i64 0)) hF hS (ex_assign rfl) rfl rfl fun a hF => q_end (n_sq (q_block ?_)))))
       obtain ⟨r_41, hl8, hb4⟩ := bindS hb4
       refine q_loop (fun (s : Int × impl_Record) a w => ∃ (q32 : Piece), ∃ (s32 : Sl), ∃ i_30, ∃ r_31, s = (i_30, r_31) ∧ Fr a 83 [(0, s1.v), (1, (strV p_t)), (6, s10.v), (10, s17.v), (11, (.pointer (some ⟨b28, 0, none⟩))), (12, (.int .i64 i_30)), (27, (subS s6 1 (0 : Int).toNat (w64 ((goLen t_4) - 1)).toNat s6.cap).v), (28, (.int .i64 (goLen l_7))), (29, (.int .i64 t_11))] ∧ St [] w0 w m12 [q32, q10, q17, q6, [⟨b28, [(.int .i64 r_31.Area), (.int .i64 r_31.House), s32.v], 44⟩]] ∧ OwnL m12 3 q32 s32 r_31.Values) (fun (r_41 : impl_Record) e a w => ∃ (q42 : Piece), ∃ (s42 : Sl), e = .exit 2 ∧ Fr a 83 [(0, s1.v), (1, (strV p_t)), (6, s10.v), (11, (.pointer (some ⟨b28, 0, none⟩))), (27, (subS s6 1 (0 : Int).toNat (w64 ((goLen t_4) - 1)).toNat s6.cap).v), (28, (.int .i64 (goLen l_7))), (29, (.int .i64 t_11))] ∧ St [] w0 w m12 [q10, q6, q42, [⟨b28, [(.int .i64 r_41.Area), (.int .i64 r_41.House), s42.v], 44⟩]] ∧ OwnL m12 3 q42 s42 r_41.Values) hl8 ⟨[], nilS, _, _, rfl, hF.sub ⟨rfl, rfl, rfl, rfl, rfl, rfl, rfl, rfl, rfl, trivial⟩, hS.sel [4, 0, 1, 2, 3] (by decide), (OwnL.nil (α := Int) m12 3)⟩ ?_ ?_
       ·clear hF hS
        rintro s a w st ⟨q32, s32, i_30, r_31, rfl, hF, hS, h32⟩ hb8
        unfold spec_ParseData_l2 at hb8
        refine q_seq (q_seq (q_region (q_x (v := (.int .i64 i_30)) hF hS (ex_move rfl) rfl rfl fun a hF => q_x (v := s17.v) hF hS (ex_move rfl) rfl rfl fun a hF => ?_)))
        obtain ⟨e_33, he_33, hb8⟩ := bindS hb8
        obtain ⟨vs34, at34, d34⟩ := h17.at he_33 1 rfl
        obtain rfl : vs34 = [(strV e_33)] := d34
        refine q_x (v := (elP s17 ((2 : Int).toNat * 1))) hF hS (ex_indexAddr Tryz.underlying63 sz9 rfl rfl (h17.idx he_33)) rfl rfl fun a hF => q_x (v := (strV e_33)) hF hS (ex_loadE1 0 Tryz.underlying9 rfl rfl (at34.at 2 rfl) rfl rfl) rfl rfl fun a hF => q_x (v := (.int .i64 (goLen e_33))) hF hS (ex_strLen Tryz.underlying9 rfl) rfl rfl fun a hF => q_x (v := (.bool (decide (i_30 < (goLen e_33))))) hF hS (ex_ibin rfl rfl rfl) rfl rfl fun a hF => q_end (n_sq ?_)
        rcases bcase (decide (i_30 < (goLen e_33))) with hc9 | hc9
        ·have hb8 := cond_f hc9 hb8
         refine q_cond_f hF rfl hc9 (q_exit (x_sq ?_))
         obtain rfl := someI hb8
         exact ⟨nofun, .inl ⟨q32, s32, rfl, hF.sub ⟨rfl, rfl, rfl, rfl, rfl, rfl, rfl, trivial⟩, hS.sel [1, 3, 0, 4] (by decide), h32⟩⟩
        ·have hb8 := cond_t hc9 hb8
         refine q_cond_t hF rfl hc9 (q_skipc (n_sq (q_seq (q_block (e_region ⟨[10, 12], []⟩ mixed fun w' hw' => ?_)))))
         have hS := hS.below hw'
         refine e_p (v := (.pointer (some ⟨b28, 2, none⟩))) 0 hF rfl (ex_fieldAddr Tryz.underlying44 rfl sz40 rfl rfl) rfl rfl (by kernel_rfl) (by kernel_rfl) (by kernel_rfl) fun a hF => e_x (v := s32.v) 1 hF hS rfl (ex_load1 4 0 Tryz.underlying40 rfl rfl rfl rfl) rfl rfl (by kernel_rfl) (by kernel_rfl) (by kernel_rfl) (by kernel_rfl) fun a hF => e_p (v := s17.v) 2 hF rfl (ex_move rfl) rfl rfl (by kernel_rfl) (by kernel_rfl) (by kernel_rfl) fun a hF => ?_
         obtain ⟨e_35, he_35, hb8⟩ := bindS hb8
         obtain ⟨vs36, at36, d36⟩ := h17.at he_35 1 rfl
         obtain rfl : vs36 = [(strV e_35)] := d36
         refine e_p (v := (elP s17 ((2 : Int).toNat * 1))) 3 hF rfl (ex_indexAddr Tryz.underlying63 sz9 rfl rfl (h17.idx he_35)) rfl rfl (by kernel_rfl) (by kernel_rfl) (by kernel_rfl) fun a hF => e_p (v := (.int .i64 i_30)) 5 hF rfl (ex_move rfl) rfl rfl (by kernel_rfl) (by kernel_rfl) (by kernel_rfl) fun a hF => e_one 4 (by kernel_rfl) (e_lx (v := (strV e_35)) hF hS rfl (ex_loadE1 0 Tryz.underlying9 rfl rfl (at36.at 2 rfl) rfl rfl) rfl rfl fun a hF => ?_)
         obtain ⟨t_37, ht_37, hb8⟩ := bindS hb8
         refine e_p (v := (.int .u8 t_37)) 6 hF rfl (ex_strIdx Tryz.underlying9 rfl rfl ht_37) rfl rfl (by kernel_rfl) (by kernel_rfl) (by kernel_rfl) fun a hF => e_p (v := (.int .i64 (w64 t_37))) 7 hF rfl (ex_conv Tryz.underlying5 Tryz.underlying3 rfl) rfl rfl (by kernel_rfl) (by kernel_rfl) (by kernel_rfl) fun a hF => e_p (v := (.int .i64 (w64 ((w64 t_37) - 48)))) 8 hF rfl (ex_ibin rfl rfl rfl) rfl rfl (by kernel_rfl) (by kernel_rfl) (by kernel_rfl) fun a hF => e_one 9 (by kernel_rfl) (e_op rfl rfl fun _ hK => wp_buildSlice' (l := ([(w64 ((w64 t_37) - 48))] : List Int)) (cells := [(.int .i64 (w64 ((w64 t_37) - 48)))]) hF hS Tryz.underlying40 inf3 rfl rfl (by kernel_rfl) rfl rfl rfl ⟨rfl, rfl⟩ rfl rfl fun a w q38 s38 hF hS h38 hb => hK _ _ hb (e_one 10 (by kernel_rfl) ?_))
         have hS : St _ _ _ _ [q32, q38, q10, q17, q6, [⟨b28, [(.int .i64 r_31.Area), (.int .i64 r_31.House), s32.v], 44⟩]] := hS.sel [1, 0, 2, 3, 4, 5] (by decide)
         obtain ⟨l_39, hl_39, hb8⟩ := bindS hb8
         refine e_opl rfl rfl rfl fun _ hK => wp_append hF hS h32 Tryz.underlying40 inf3 rfl rfl rfl rfl (h38.vw hS (j := 1) rfl) rfl (by decide) hl_39 rfl fun a w q40 s40 hF hS h40 => hK _ _ (⟨kpN, ?_⟩)
         refine e_p (v := (.pointer (some ⟨b28, 2, none⟩))) 11 hF rfl (ex_fieldAddr Tryz.underlying44 rfl sz40 rfl rfl) rfl rfl (by kernel_rfl) (by kernel_rfl) (by kernel_rfl) fun a hF => e_one 12 (by kernel_rfl) (e_store (vs := [s40.v]) (cs' := [(.int .i64 r_31.Area), (.int .i64 r_31.House), s40.v]) 5 0 hF hS rfl rfl sz40 rfl rfl rfl rfl rfl rfl rfl rfl fun a w hF hS => ⟨kpN, ?_⟩)
         refine e_end (by kernel_rfl) (n_ib (n_sq ?_)) _
         refine q_region (q_x (v := (.int .i64 i_30)) hF hS (ex_move rfl) rfl rfl fun a hF => q_x (v := (.int .i64 (w64 (i_30 + 1)))) hF hS (ex_ibin rfl rfl rfl) rfl rfl fun a hF => q_x (v := (.int .i64 (w64 (i_30 + 1)))) hF hS (ex_assign rfl) rfl rfl fun a hF => q_end ?_)
         obtain rfl := someI hb8
         exact ⟨rfl, q40, s40, _, _, rfl, hF.sub ⟨rfl, rfl, rfl, rfl, rfl, rfl, rfl, rfl, rfl, trivial⟩, hS.mask [true, false, true, true, true, true], h40⟩
       ·rintro e a w ⟨q42, s42, rfl, hF, hS, h42⟩
        refine x_ib (n_sq ?_)
        refine q_region (q_x (v := s10.v) hF hS (ex_move rfl) rfl rfl fun a hF => q_x (v := (.agg #[(.int .i64 r_41.Area), (.int .i64 r_41.House), s42.v])) hF hS (ex_loadA (vs := [(.int .i64 r_41.Area), (.int .i64 r_41.House), s42.v]) 3 0 Tryz.underlying44 rfl sz44 rfl rfl rfl rfl) rfl rfl fun a hF => ?_)
        have hS : St _ _ _ _ [q42, q10, q6, [⟨b28, [(.int .i64 r_41.Area), (.int .i64 r_41.House), s42.v], 44⟩]] := hS.sel [2, 0, 1, 3] (by decide)
        obtain ⟨m44, hm44, hS, hz44⟩ := hS.freeze
        have h44 := h42.froz hm44.le hz44
        refine q_do rfl fun _ hK => wp_buildSlice' (l := ([r_41] : List impl_Record)) (cells := [(.int .i64 r_41.Area), (.int .i64 r_41.House), s42.v]) hF hS Tryz.underlying24 inf44 rfl rfl (by kernel_rfl) rfl rfl rfl ⟨⟨s42, rfl, h44⟩, rfl⟩ rfl rfl fun a w q43 s43 hF hS h43 _ => hK _ _ ?_
        have hS : St _ _ _ _ [q10, q43, q6, [⟨b28, [(.int .i64 r_41.Area), (.int .i64 r_41.House), s42.v], 44⟩]] := hS.sel [1, 0, 2, 3] (by decide)
        obtain ⟨l_45, hl_45, hb4⟩ := bindS hb4
        refine q_do rfl fun _ hK => wp_append hF hS (h10.mono hm44.le) Tryz.underlying24 inf44 rfl rfl rfl rfl (h43.vw hS (j := 1) rfl) rfl (by decide) hl_45 rfl fun a w q46 s46 hF hS h46 => hK _ _ (q_x (v := s46.v) hF hS (ex_assign rfl) rfl rfl fun a hF => q_end (n_ib (n_sq (q_region (q_x (v := (.int .i64 (w64 (t_11 + 1)))) hF hS (ex_ibin rfl rfl rfl) rfl rfl fun a hF => q_x (v := (.int .i64 (w64 (t_11 + 1)))) hF hS (ex_move rfl) rfl rfl fun a hF => q_end ?_)))))
        obtain rfl := someI hb4
        exact ⟨rfl, m44, q46, s46, _, _, rfl, hF.sub ⟨rfl, rfl, rfl, rfl, rfl, rfl, trivial⟩, hS.mask [true, false, true, false], (hm12.trans hm44), h46⟩
     ·have hb4 := cond_t hc6 hb4
      refine q_cond_t hF rfl hc6 (q_seq (q_region (q_x (v := nilS.v) hF hS (ex_assign rfl) rfl rfl fun a hF => q_x (v := (.bool false)) hF hS (ex_assign rfl) rfl rfl fun a hF => q_end (n_sq (q_ret (r_sq (r_ib (r_sq ?_))))))))
      obtain rfl := someI hb4
      refine ⟨nofun, .inr fun ho => ?_⟩
      subst ho
      refine r_ib (r_sq ?_)
      obtain rfl := someI hr
      exact ret_of hF hS rfl (.tmp rfl (.tmp rfl .nil)) ⟨m12, [], nilS, rfl, hm12, hS.sel [3] (by decide), (OwnL.nil (α := impl_Record) m12 44)⟩
   ·rintro e a w ⟨m49, q48, s48, out_47, rfl, rfl, hF, hS, hm49, h48⟩
    refine x_ib (n_sq ?_)
    refine q_seq (q_seq ?_)
    obtain ⟨t_54, hj10, hr⟩ := bindS hr
    refine q_join (fun a w => Fr a 83 [(6, s48.v), (81, (.bool t_54))] ∧ St [] w0 w m49 [q48]) ?_ ?_
    ·refine q_region (q_x (v := s1.v) hF hS (ex_move rfl) rfl rfl fun a hF => q_x (v := s48.v) hF hS (ex_move rfl) rfl rfl fun a hF => ?_)
     obtain ⟨m51, hl51, hv51, hz51⟩ := hS.lend
     obtain ⟨t_50, ht_50, hj10⟩ := bindS hj10
     refine q_call (vs := [s1.v, s48.v]) hF hS Tryz.func31 (by kernel_rfl) rfl rfl rfl (c_spec_dGood p_s out_47 t_50 ht_50 _ m51 hv51 s1 ((h1.mono hm49.le).mono hl51) s48 (h48.froz hl51 (hz51 0 _ rfl))) ?_
     rintro a w _ rfl hF hS
     refine q_x (v := (.bool (!t_50))) hF hS (ex_not rfl) rfl rfl fun a hF => q_x (v := (.bool (!t_50))) hF hS (ex_move rfl) rfl rfl fun a hF => ?_
     rcases bcase (!t_50) with hc11 | hc11
     ·have hj10 := cond_f hc11 hj10
      refine q_xg (v := s48.v) hF hS (ex_move rfl) (wanted_t hF rfl rfl rfl hc11) rfl fun a hF => ?_
      obtain ⟨m53, hl53, hv53, hz53⟩ := hS.lend
      obtain ⟨t_52, ht_52, hj10⟩ := bindS hj10
      refine q_callg (vs := [s48.v]) hF hS (wanted_t hF rfl rfl rfl hc11) Tryz.func22 (by kernel_rfl) rfl rfl rfl (c_spec_dText out_47 t_52 ht_52 _ m53 hv53 s48 (h48.froz hl53 (hz53 0 _ rfl))) ?_
      rintro a w _ rfl hF hS
      refine q_xg (v := (strV p_t)) hF hS (ex_move rfl) (wanted_t hF rfl rfl rfl hc11) rfl fun a hF => q_xg (v := (.bool (t_52 != p_t))) hF hS (ex_strNe rfl rfl) (wanted_t hF rfl rfl rfl hc11) rfl fun a hF => q_x (v := (.bool (t_52 != p_t))) hF hS (ex_pick_f rfl rfl hc11) rfl rfl fun a hF => q_end (n_jn ?_)
      obtain rfl := someI hj10
      exact ⟨hF.sub ⟨rfl, rfl, trivial⟩, hS⟩
     ·have hj10 := cond_t hc11 hj10
      refine q_skip hF (wanted_f hF rfl rfl rfl hc11 rfl) rfl fun a hF => q_skip hF (wanted_f hF rfl rfl rfl hc11 rfl) rfl fun a hF => q_skip hF (wanted_f hF rfl rfl rfl hc11 rfl) rfl fun a hF => q_skip hF (wanted_f hF rfl rfl rfl hc11 rfl) rfl fun a hF => q_x (v := (.bool true)) hF hS (ex_pick_t rfl rfl hc11) rfl rfl fun a hF => q_end (n_jn ?_)
      obtain rfl := someI hj10
      exact ⟨hF.sub ⟨rfl, rfl, trivial⟩, hS⟩
    ·rintro a w ⟨hF, hS⟩
     refine n_sq ?_
     rcases bcase (t_54) with hc12 | hc12
     ·have hr := cond_f hc12 hr
      refine q_cond_f hF rfl hc12 (q_skipc (n_sq (q_seq (q_region (q_x (v := s48.v) hF hS (ex_move rfl) rfl rfl fun a hF => q_x (v := s48.v) hF hS (ex_assign rfl) rfl rfl fun a hF => q_x (v := (.bool true)) hF hS (ex_assign rfl) rfl rfl fun a hF => q_end (n_sq (q_ret ?_)))))))
      obtain rfl := someI hr
      exact ret_of hF hS rfl (.tmp rfl (.tmp rfl .nil)) ⟨m49, q48, s48, rfl, hm49, hS.sel [0] (by decide), h48⟩
     ·have hr := cond_t hc12 hr
      refine q_cond_t hF rfl hc12 (q_seq (q_region (q_x (v := nilS.v) hF hS (ex_assign rfl) rfl rfl fun a hF => q_x (v := (.bool false)) hF hS (ex_assign rfl) rfl rfl fun a hF => q_end (n_sq (q_ret (r_sq ?_))))))
      obtain rfl := someI hr
      exact ret_of hF hS rfl (.tmp rfl (.tmp rfl .nil)) ⟨m49, [], nilS, rfl, hm49, hS.sel [1] (by decide), (OwnL.nil (α := impl_Record) m49 44)⟩
  ·have hr := cond_t hc3 hr
   refine q_cond_t hF rfl hc3 (q_seq (q_region (q_x (v := nilS.v) hF hS (ex_assign rfl) rfl rfl fun a hF => q_x (v := (.bool false)) hF hS (ex_assign rfl) rfl rfl fun a hF => q_end (n_sq (q_ret (r_sq ?_))))))
   obtain rfl := someI hr
   exact ret_of hF hS rfl (.tmp rfl (.tmp rfl .nil)) ⟨m, [], nilS, rfl, (MLe.refl _ _), hS.sel [0] (by decide), (OwnL.nil (α := impl_Record) m 44)⟩

theorem c_laws_qInts (p_a : List Int) (p_b : List Int) (r : Bool) (hr : laws_qInts p_a p_b = some r) (w0 : World) (m : Mem) (hv : Vis m w0) (s1 : Sl) (h1 : Rd m s1 p_a) (s2 : Sl) (h2 : Rd m s2 p_b) :
  Ret Tryz.prog 61 [s1.v, s2.v] w0 (fun v _ => v = (.bool r)) := by
 unfold laws_qInts at hr
 refine ret_start Tryz.func61 rfl 26 rfl rfl m hv fun a hF hS => q_seq (q_region (q_x (v := (.bool false)) hF hS (ex_assign rfl) rfl rfl fun a hF => q_end (n_sq (q_seq (q_seq (q_region (q_x (v := s1.v) hF hS (ex_move rfl) rfl rfl fun a hF => q_x (v := (.int .i64 (goLen p_a))) hF hS (ex_len Tryz.underlying40 rfl h1.len) rfl rfl fun a hF => q_x (v := s2.v) hF hS (ex_move rfl) rfl rfl fun a hF => q_x (v := (.int .i64 (goLen p_b))) hF hS (ex_len Tryz.underlying40 rfl h2.len) rfl rfl fun a hF => q_x (v := (.bool ((goLen p_a) != (goLen p_b)))) hF hS (ex_ibin rfl rfl rfl) rfl rfl fun a hF => q_end (n_sq ?_))))))))
 rcases bcase ((goLen p_a) != (goLen p_b)) with hc1 | hc1
 ·have hr := cond_f hc1 hr
  refine q_cond_f hF rfl hc1 (q_skipc (n_sq (q_seq (q_seq (q_region (q_x (v := s1.v) hF hS (ex_move rfl) rfl rfl fun a hF => q_x (v := (.int .i64 (goLen p_a))) hF hS (ex_len Tryz.underlying40 rfl h1.len) rfl rfl fun a hF => q_x (v := (.int .i64 0)) hF hS (ex_move rfl) rfl rfl fun a hF => q_end (n_sq (q_block ?_))))))))
  obtain ⟨o2, hl2, hr⟩ := bindS hr
  refine q_loop (fun (t_3 : Int) a w => Fr a 26 [(0, s1.v), (1, s2.v), (12, (.int .i64 (goLen p_a))), (13, (.int .i64 t_3))] ∧ St [] w0 w m []) (fun (o : (Unit) ⊕ (Bool)) e a w => o = .inl () ∧ e = .exit 0 ∧ Fr a 26 [] ∧ St [] w0 w m []) hl2 ⟨hF.sub ⟨rfl, rfl, rfl, rfl, trivial⟩, hS⟩ ?_ ?_
  ·clear hF hS
   rintro t_3 a w st ⟨hF, hS⟩ hb2
   unfold laws_qInts_l1 at hb2
   refine q_seq (q_region (q_x (v := (.bool (decide (t_3 < (goLen p_a))))) hF hS (ex_ibin rfl rfl rfl) rfl rfl fun a hF => q_end (n_sq (q_seq ?_))))
   rcases bcase (decide (t_3 < (goLen p_a))) with hc3 | hc3
   ·have hb2 := cond_f hc3 hb2
    refine q_cond_f hF rfl hc3 (q_exit (x_sq ?_))
    obtain rfl := someI hb2
    exact ⟨nofun, .inl ⟨rfl, rfl, hF.sub trivial, hS⟩⟩
   ·have hb2 := cond_t hc3 hb2
    refine q_cond_t hF rfl hc3 (q_skipc (n_sq (q_seq (q_block (q_seq (q_region (q_x (v := (.int .i64 t_3)) hF hS (ex_move rfl) rfl rfl fun a hF => q_x (v := (.int .i64 t_3)) hF hS (ex_assign rfl) rfl rfl fun a hF => q_end (n_sq (q_seq (e_region ⟨[], []⟩ mixed fun w' hw' => ?_))))))))))
    have hS := hS.below hw'
    refine e_p (v := s1.v) 0 hF rfl (ex_move rfl) rfl rfl (by kernel_rfl) (by kernel_rfl) (by kernel_rfl) fun a hF => e_p (v := (.int .i64 t_3)) 1 hF rfl (ex_move rfl) rfl rfl (by kernel_rfl) (by kernel_rfl) (by kernel_rfl) fun a hF => ?_
    obtain ⟨e_4, he_4, hb2⟩ := bindS hb2
    obtain ⟨vs5, at5, d5⟩ := h1.at he_4 1 rfl
    obtain rfl : vs5 = [(.int .i64 e_4)] := d5
    refine e_p (v := (elP s1 (t_3.toNat * 1))) 2 hF rfl (ex_indexAddr Tryz.underlying40 sz3 rfl rfl (h1.idx he_4)) rfl rfl (by kernel_rfl) (by kernel_rfl) (by kernel_rfl) fun a hF => e_x (v := (.int .i64 e_4)) 3 hF hS rfl (ex_loadE1 0 Tryz.underlying3 rfl rfl ((at5).at) rfl rfl) rfl rfl (by kernel_rfl) (by kernel_rfl) (by kernel_rfl) (by kernel_rfl) fun a hF => e_p (v := s2.v) 4 hF rfl (ex_move rfl) rfl rfl (by kernel_rfl) (by kernel_rfl) (by kernel_rfl) fun a hF => e_p (v := (.int .i64 t_3)) 5 hF rfl (ex_move rfl) rfl rfl (by kernel_rfl) (by kernel_rfl) (by kernel_rfl) fun a hF => ?_
    obtain ⟨e_6, he_6, hb2⟩ := bindS hb2
    obtain ⟨vs7, at7, d7⟩ := h2.at he_6 1 rfl
    obtain rfl : vs7 = [(.int .i64 e_6)] := d7
    refine e_p (v := (elP s2 (t_3.toNat * 1))) 6 hF rfl (ex_indexAddr Tryz.underlying40 sz3 rfl rfl (h2.idx he_6)) rfl rfl (by kernel_rfl) (by kernel_rfl) (by kernel_rfl) fun a hF => e_x (v := (.int .i64 e_6)) 7 hF hS rfl (ex_loadE1 0 Tryz.underlying3 rfl rfl ((at7).at) rfl rfl) rfl rfl (by kernel_rfl) (by kernel_rfl) (by kernel_rfl) (by kernel_rfl) fun a hF => e_p (v := (.bool (e_4 != e_6))) 8 hF rfl (ex_ibin rfl rfl rfl) rfl rfl (by kernel_rfl) (by kernel_rfl) (by kernel_rfl) fun a hF => e_end (by kernel_rfl) (n_sq ?_) _
    rcases bcase (e_4 != e_6) with hc4 | hc4
    ·have hb2 := cond_f hc4 hb2
     refine q_cond_f hF rfl hc4 (q_skipc (n_ib (n_sq (q_region (q_x (v := (.int .i64 (w64 (t_3 + 1)))) hF hS (ex_ibin rfl rfl rfl) rfl rfl fun a hF => q_x (v := (.int .i64 (w64 (t_3 + 1)))) hF hS (ex_move rfl) rfl rfl fun a hF => q_end ?_)))))
     obtain rfl := someI hb2
     exact ⟨rfl, hF.sub ⟨rfl, rfl, rfl, rfl, trivial⟩, hS⟩
    ·have hb2 := cond_t hc4 hb2
     refine q_cond_t hF rfl hc4 (q_seq (q_region (q_x (v := (.bool false)) hF hS (ex_assign rfl) rfl rfl fun a hF => q_end (n_sq (q_ret (r_ib (r_sq ?_)))))))
     obtain rfl := someI hb2
     refine ⟨nofun, .inr fun ho => ?_⟩
     subst ho
     refine r_ib (r_sq ?_)
     obtain rfl := someI hr
     exact ret_of hF hS rfl (.tmp rfl .nil) rfl
  ·rintro e a w ⟨rfl, rfl, hF, hS⟩
   refine x_ib (n_sq ?_)
   refine q_seq (q_region (q_x (v := (.bool true)) hF hS (ex_assign rfl) rfl rfl fun a hF => q_end (n_sq (q_ret ?_))))
   obtain rfl := someI hr
   exact ret_of hF hS rfl (.tmp rfl .nil) rfl
 ·have hr := cond_t hc1 hr
  refine q_cond_t hF rfl hc1 (q_seq (q_region (q_x (v := (.bool false)) hF hS (ex_assign rfl) rfl rfl fun a hF => q_end (n_sq (q_ret (r_sq ?_))))))
  obtain rfl := someI hr
  exact ret_of hF hS rfl (.tmp rfl .nil) rfl

theorem c_laws_qRecord (p_a : impl_Record) (p_b : impl_Record) (r : Bool) (hr : laws_qRecord p_a p_b = some r) (w0 : World) (m : Mem) (hv : Vis m w0) (s1 : Sl) (h1 : Rd m s1 p_a.Values) (s2 : Sl) (h2 : Rd m s2 p_b.Values) :
  Ret Tryz.prog 32 [(.agg #[(.int .i64 p_a.Area), (.int .i64 p_a.House), s1.v]), (.agg #[(.int .i64 p_b.Area), (.int .i64 p_b.House), s2.v])] w0 (fun v _ => v = (.bool r)) := by
 unfold laws_qRecord at hr
 refine ret_start Tryz.func32 rfl 24 rfl rfl m hv fun a hF hS => q_seq (q_region (q_box (cs := [(.int .i64 p_a.Area), (.int .i64 p_a.House), s1.v]) hF hS rfl rfl rfl fun a w b3 hF hS => q_box (cs := [(.int .i64 p_b.Area), (.int .i64 p_b.House), s2.v]) hF hS rfl rfl rfl fun a w b4 hF hS => q_x (v := (.bool false)) hF hS (ex_assign rfl) rfl rfl fun a hF => q_end (n_sq (q_seq ?_))))
 obtain ⟨t_6, hj1, hr⟩ := bindS hr
 refine q_join (fun a w => Fr a 24 [(4, (.bool t_6))] ∧ St [] w0 w m []) ?_ ?_
 ·refine q_region (q_x (v := (.pointer (some ⟨b3, 0, none⟩))) hF hS (ex_fieldAddr Tryz.underlying44 rfl sz3 rfl rfl) rfl rfl fun a hF => q_x (v := (.int .i64 p_a.Area)) hF hS (ex_load1 1 0 Tryz.underlying3 rfl rfl rfl rfl) rfl rfl fun a hF => q_x (v := (.pointer (some ⟨b4, 0, none⟩))) hF hS (ex_fieldAddr Tryz.underlying44 rfl sz3 rfl rfl) rfl rfl fun a hF => q_x (v := (.int .i64 p_b.Area)) hF hS (ex_load1 0 0 Tryz.underlying3 rfl rfl rfl rfl) rfl rfl fun a hF => q_x (v := (.bool (p_a.Area == p_b.Area))) hF hS (ex_ibin rfl rfl rfl) rfl rfl fun a hF => q_x (v := (.bool (p_a.Area == p_b.Area))) hF hS (ex_move rfl) rfl rfl fun a hF => ?_)
  rcases bcase (p_a.Area == p_b.Area) with hc2 | hc2
  ·have hj1 := cond_f hc2 hj1
   refine q_skip hF (wanted_f hF rfl rfl rfl hc2 rfl) rfl fun a hF => q_skip hF (wanted_f hF rfl rfl rfl hc2 rfl) rfl fun a hF => q_skip hF (wanted_f hF rfl rfl rfl hc2 rfl) rfl fun a hF => q_skip hF (wanted_f hF rfl rfl rfl hc2 rfl) rfl fun a hF => q_skip hF (wanted_f hF rfl rfl rfl hc2 rfl) rfl fun a hF => q_x (v := (.bool false)) hF hS (ex_pick_f rfl rfl hc2) rfl rfl fun a hF => q_x (v := (.bool false)) hF hS (ex_move rfl) rfl rfl fun a hF => q_skip hF (wanted_f hF rfl rfl rfl rfl rfl) rfl fun a hF => q_skip hF (wanted_f hF rfl rfl rfl rfl rfl) rfl fun a hF => q_skip hF (wanted_f hF rfl rfl rfl rfl rfl) rfl fun a hF => q_skip hF (wanted_f hF rfl rfl rfl rfl rfl) rfl fun a hF => q_skip hF (wanted_f hF rfl rfl rfl rfl rfl) rfl fun a hF => q_x (v := (.bool false)) hF hS (ex_pick_f rfl rfl rfl) rfl rfl fun a hF => q_x (v := (.bool false)) hF hS (ex_assign rfl) rfl rfl fun a hF => q_end (n_jn ?_)
   obtain rfl := someI hj1
   exact ⟨hF.sub ⟨rfl, trivial⟩, hS.mask [false, false]⟩
  ·have hj1 := cond_t hc2 hj1
   refine q_xg (v := (.pointer (some ⟨b3, 1, none⟩))) hF hS (ex_fieldAddr Tryz.underlying44 rfl sz3 rfl rfl) (wanted_t hF rfl rfl rfl hc2) rfl fun a hF => q_xg (v := (.int .i64 p_a.House)) hF hS (ex_load1 1 0 Tryz.underlying3 rfl rfl rfl rfl) (wanted_t hF rfl rfl rfl hc2) rfl fun a hF => q_xg (v := (.pointer (some ⟨b4, 1, none⟩))) hF hS (ex_fieldAddr Tryz.underlying44 rfl sz3 rfl rfl) (wanted_t hF rfl rfl rfl hc2) rfl fun a hF => q_xg (v := (.int .i64 p_b.House)) hF hS (ex_load1 0 0 Tryz.underlying3 rfl rfl rfl rfl) (wanted_t hF rfl rfl rfl hc2) rfl fun a hF => q_xg (v := (.bool (p_a.House == p_b.House))) hF hS (ex_ibin rfl rfl rfl) (wanted_t hF rfl rfl rfl hc2) rfl fun a hF => q_x (v := (.bool (p_a.House == p_b.House))) hF hS (ex_pick_t rfl rfl hc2) rfl rfl fun a hF => q_x (v := (.bool (p_a.House == p_b.House))) hF hS (ex_move rfl) rfl rfl fun a hF => ?_
   rcases bcase (p_a.House == p_b.House) with hc3 | hc3
   ·have hj1 := cond_f hc3 hj1
    refine q_skip hF (wanted_f hF rfl rfl rfl hc3 rfl) rfl fun a hF => q_skip hF (wanted_f hF rfl rfl rfl hc3 rfl) rfl fun a hF => q_skip hF (wanted_f hF rfl rfl rfl hc3 rfl) rfl fun a hF => q_skip hF (wanted_f hF rfl rfl rfl hc3 rfl) rfl fun a hF => q_skip hF (wanted_f hF rfl rfl rfl hc3 rfl) rfl fun a hF => q_x (v := (.bool false)) hF hS (ex_pick_f rfl rfl hc3) rfl rfl fun a hF => q_x (v := (.bool false)) hF hS (ex_assign rfl) rfl rfl fun a hF => q_end (n_jn ?_)
    obtain rfl := someI hj1
    exact ⟨hF.sub ⟨rfl, trivial⟩, hS.mask [false, false]⟩
   ·have hj1 := cond_t hc3 hj1
    refine q_xg (v := (.pointer (some ⟨b3, 2, none⟩))) hF hS (ex_fieldAddr Tryz.underlying44 rfl sz40 rfl rfl) (wanted_t hF rfl rfl rfl hc3) rfl fun a hF => q_xg (v := s1.v) hF hS (ex_load1 1 0 Tryz.underlying40 rfl rfl rfl rfl) (wanted_t hF rfl rfl rfl hc3) rfl fun a hF => q_xg (v := (.pointer (some ⟨b4, 2, none⟩))) hF hS (ex_fieldAddr Tryz.underlying44 rfl sz40 rfl rfl) (wanted_t hF rfl rfl rfl hc3) rfl fun a hF => q_xg (v := s2.v) hF hS (ex_load1 0 0 Tryz.underlying40 rfl rfl rfl rfl) (wanted_t hF rfl rfl rfl hc3) rfl fun a hF => ?_
    obtain ⟨t_5, ht_5, hj1⟩ := bindS hj1
    refine q_callg (vs := [s1.v, s2.v]) hF hS (wanted_t hF rfl rfl rfl hc3) Tryz.func61 (by kernel_rfl) rfl rfl rfl (c_laws_qInts p_a.Values p_b.Values t_5 ht_5 _ m hS.vis s1 h1 s2 h2) ?_
    rintro a w _ rfl hF hS
    refine q_x (v := (.bool t_5)) hF hS (ex_pick_t rfl rfl hc3) rfl rfl fun a hF => q_x (v := (.bool t_5)) hF hS (ex_assign rfl) rfl rfl fun a hF => q_end (n_jn ?_)
    obtain rfl := someI hj1
    exact ⟨hF.sub ⟨rfl, trivial⟩, hS.mask [false, false]⟩
 ·rintro a w ⟨hF, hS⟩
  refine n_sq (q_ret ?_)
  obtain rfl := someI hr
  exact ret_of hF hS rfl (.tmp rfl .nil) rfl

theorem c_laws_qData (p_a : List impl_Record) (p_b : List impl_Record) (r : Bool) (hr : laws_qData p_a p_b = some r) (w0 : World) (m : Mem) (hv : Vis m w0) (s1 : Sl) (h1 : Rd m s1 p_a) (s2 : Sl) (h2 : Rd m s2 p_b) :
  Ret Tryz.prog 10 [s1.v, s2.v] w0 (fun v _ => v = (.bool r)) := by
 unfold laws_qData at hr
 refine ret_start Tryz.func10 rfl 27 rfl rfl m hv fun a hF hS => q_seq (q_region (q_x (v := (.bool false)) hF hS (ex_assign rfl) rfl rfl fun a hF => q_end (n_sq (q_seq (q_seq (q_region (q_x (v := s1.v) hF hS (ex_move rfl) rfl rfl fun a hF => q_x (v := (.int .i64 (goLen p_a))) hF hS (ex_len Tryz.underlying24 rfl h1.len) rfl rfl fun a hF => q_x (v := s2.v) hF hS (ex_move rfl) rfl rfl fun a hF => q_x (v := (.int .i64 (goLen p_b))) hF hS (ex_len Tryz.underlying24 rfl h2.len) rfl rfl fun a hF => q_x (v := (.bool ((goLen p_a) != (goLen p_b)))) hF hS (ex_ibin rfl rfl rfl) rfl rfl fun a hF => q_end (n_sq ?_))))))))
 rcases bcase ((goLen p_a) != (goLen p_b)) with hc1 | hc1
 ·have hr := cond_f hc1 hr
  refine q_cond_f hF rfl hc1 (q_skipc (n_sq (q_seq (q_seq (q_region (q_x (v := s1.v) hF hS (ex_move rfl) rfl rfl fun a hF => q_x (v := (.int .i64 (goLen p_a))) hF hS (ex_len Tryz.underlying24 rfl h1.len) rfl rfl fun a hF => q_x (v := (.int .i64 0)) hF hS (ex_move rfl) rfl rfl fun a hF => q_end (n_sq (q_block ?_))))))))
  obtain ⟨o2, hl2, hr⟩ := bindS hr
  refine q_loop (fun (t_3 : Int) a w => Fr a 27 [(0, s1.v), (1, s2.v), (12, (.int .i64 (goLen p_a))), (13, (.int .i64 t_3))] ∧ St [] w0 w m []) (fun (o : (Unit) ⊕ (Bool)) e a w => o = .inl () ∧ e = .exit 0 ∧ Fr a 27 [] ∧ St [] w0 w m []) hl2 ⟨hF.sub ⟨rfl, rfl, rfl, rfl, trivial⟩, hS⟩ ?_ ?_
  ·clear hF hS
   rintro t_3 a w st ⟨hF, hS⟩ hb2
   unfold laws_qData_l1 at hb2
   refine q_seq (q_region (q_x (v := (.bool (decide (t_3 < (goLen p_a))))) hF hS (ex_ibin rfl rfl rfl) rfl rfl fun a hF => q_end (n_sq (q_seq ?_))))
   rcases bcase (decide (t_3 < (goLen p_a))) with hc3 | hc3
   ·have hb2 := cond_f hc3 hb2
    refine q_cond_f hF rfl hc3 (q_exit (x_sq ?_))
    obtain rfl := someI hb2
    exact ⟨nofun, .inl ⟨rfl, rfl, hF.sub trivial, hS⟩⟩
   ·have hb2 := cond_t hc3 hb2
    refine q_cond_t hF rfl hc3 (q_skipc (n_sq (q_seq (q_block (q_seq (q_region (q_x (v := (.int .i64 t_3)) hF hS (ex_move rfl) rfl rfl fun a hF => q_x (v := (.int .i64 t_3)) hF hS (ex_assign rfl) rfl rfl fun a hF => q_end (n_sq (q_seq (e_region ⟨[], []⟩ mixed fun w' hw' => ?_))))))))))
    have hS := hS.below hw'
    refine e_p (v := s1.v) 0 hF rfl (ex_move rfl) rfl rfl (by kernel_rfl) (by kernel_rfl) (by kernel_rfl) fun a hF => e_p (v := (.int .i64 t_3)) 1 hF rfl (ex_move rfl) rfl rfl (by kernel_rfl) (by kernel_rfl) (by kernel_rfl) fun a hF => ?_
    obtain ⟨e_4, he_4, hb2⟩ := bindS hb2
    obtain ⟨vs5, at5, d5⟩ := h1.at he_4 3 rfl
    obtain ⟨s6, rfl, h6⟩ : ∃ s6 : Sl, vs5 = [(.int .i64 e_4.Area), (.int .i64 e_4.House), s6.v] ∧ Rd m s6 e_4.Values := d5
    refine e_p (v := (elP s1 (t_3.toNat * 3))) 2 hF rfl (ex_indexAddr Tryz.underlying24 sz44 rfl rfl (h1.idx he_4)) rfl rfl (by kernel_rfl) (by kernel_rfl) (by kernel_rfl) fun a hF => e_x (v := (.agg #[(.int .i64 e_4.Area), (.int .i64 e_4.House), s6.v])) 3 hF hS rfl (ex_loadEA (us := [(.int .i64 e_4.Area), (.int .i64 e_4.House), s6.v]) 0 Tryz.underlying44 rfl sz44 rfl ((at5).at) rfl rfl rfl) rfl rfl (by kernel_rfl) (by kernel_rfl) (by kernel_rfl) (by kernel_rfl) fun a hF => e_p (v := s2.v) 4 hF rfl (ex_move rfl) rfl rfl (by kernel_rfl) (by kernel_rfl) (by kernel_rfl) fun a hF => e_p (v := (.int .i64 t_3)) 5 hF rfl (ex_move rfl) rfl rfl (by kernel_rfl) (by kernel_rfl) (by kernel_rfl) fun a hF => ?_
    obtain ⟨e_7, he_7, hb2⟩ := bindS hb2
    obtain ⟨vs8, at8, d8⟩ := h2.at he_7 3 rfl
    obtain ⟨s9, rfl, h9⟩ : ∃ s9 : Sl, vs8 = [(.int .i64 e_7.Area), (.int .i64 e_7.House), s9.v] ∧ Rd m s9 e_7.Values := d8
    refine e_p (v := (elP s2 (t_3.toNat * 3))) 6 hF rfl (ex_indexAddr Tryz.underlying24 sz44 rfl rfl (h2.idx he_7)) rfl rfl (by kernel_rfl) (by kernel_rfl) (by kernel_rfl) fun a hF => e_x (v := (.agg #[(.int .i64 e_7.Area), (.int .i64 e_7.House), s9.v])) 7 hF hS rfl (ex_loadEA (us := [(.int .i64 e_7.Area), (.int .i64 e_7.House), s9.v]) 0 Tryz.underlying44 rfl sz44 rfl ((at8).at) rfl rfl rfl) rfl rfl (by kernel_rfl) (by kernel_rfl) (by kernel_rfl) (by kernel_rfl) fun a hF => e_one 8 (by kernel_rfl) ?_
    obtain ⟨t_10, ht_10, hb2⟩ := bindS hb2
    refine e_call (vs := [(.agg #[(.int .i64 e_4.Area), (.int .i64 e_4.House), s6.v]), (.agg #[(.int .i64 e_7.Area), (.int .i64 e_7.House), s9.v])]) hF hS rfl Tryz.func32 (by kernel_rfl) rfl rfl rfl (c_laws_qRecord e_4 e_7 t_10 ht_10 _ m hS.vis s6 h6 s9 h9) ?_
    rintro a w _ rfl hF hS
    refine e_p (v := (.bool (!t_10))) 9 hF rfl (ex_not rfl) rfl rfl (by kernel_rfl) (by kernel_rfl) (by kernel_rfl) fun a hF => e_end (by kernel_rfl) (n_sq ?_) _
    rcases bcase (!t_10) with hc4 | hc4
    ·have hb2 := cond_f hc4 hb2
     refine q_cond_f hF rfl hc4 (q_skipc (n_ib (n_sq (q_region (q_x (v := (.int .i64 (w64 (t_3 + 1)))) hF hS (ex_ibin rfl rfl rfl) rfl rfl fun a hF => q_x (v := (.int .i64 (w64 (t_3 + 1)))) hF hS (ex_move rfl) rfl rfl fun a hF => q_end ?_)))))
     obtain rfl := someI hb2
     exact ⟨rfl, hF.sub ⟨rfl, rfl, rfl, rfl, trivial⟩, hS⟩
    ·have hb2 := cond_t hc4 hb2
     refine q_cond_t hF rfl hc4 (q_seq (q_region (q_x (v := (.bool false)) hF hS (ex_assign rfl) rfl rfl fun a hF => q_end (n_sq (q_ret (r_ib (r_sq ?_)))))))
     obtain rfl := someI hb2
     refine ⟨nofun, .inr fun ho => ?_⟩
     subst ho
     refine r_ib (r_sq ?_)
     obtain rfl := someI hr
     exact ret_of hF hS rfl (.tmp rfl .nil) rfl
  ·rintro e a w ⟨rfl, rfl, hF, hS⟩
   refine x_ib (n_sq ?_)
   refine q_seq (q_region (q_x (v := (.bool true)) hF hS (ex_assign rfl) rfl rfl fun a hF => q_end (n_sq (q_ret ?_))))
   obtain rfl := someI hr
   exact ret_of hF hS rfl (.tmp rfl .nil) rfl
 ·have hr := cond_t hc1 hr
  refine q_cond_t hF rfl hc1 (q_seq (q_region (q_x (v := (.bool false)) hF hS (ex_assign rfl) rfl rfl fun a hF => q_end (n_sq (q_ret (r_sq ?_))))))
  obtain rfl := someI hr
  exact ret_of hF hS rfl (.tmp rfl .nil) rfl

theorem c_impl_DataText (p_s : List impl_Variable) (p_l : List impl_Record) (r : (List UInt8) × Bool) (hr : impl_DataText p_s p_l = some r) (w0 : World) (m : Mem) (hv : Vis m w0) (ht : Tbl m) (s1 : Sl) (h1 : Rd m s1 p_s) (s2 : Sl) (h2 : Rd m s2 p_l) :
  Ret Tryz.prog 11 [s1.v, s2.v] w0 (fun v _ => v = (.tuple #[(strV r.1), (.bool r.2)])) := by
 unfold impl_DataText at hr
 refine ret_start Tryz.func11 rfl 51 rfl rfl m hv fun a hF hS => q_seq (q_region (q_x (v := (strV ([] : List UInt8))) hF hS (ex_assign rfl) rfl rfl fun a hF => q_x (v := (.bool false)) hF hS (ex_assign rfl) rfl rfl fun a hF => q_end (n_sq (q_seq (q_seq ?_)))))
 obtain ⟨t_5, hj1, hr⟩ := bindS hr
 refine q_join (fun a w => Fr a 51 [(1, s2.v), (19, (.bool t_5))] ∧ St [] w0 w m []) ?_ ?_
 ·refine q_region (q_x (v := s1.v) hF hS (ex_move rfl) rfl rfl fun a hF => ?_)
  obtain ⟨t_3, ht_3, hj1⟩ := bindS hj1
  refine q_call (vs := [s1.v]) hF hS Tryz.func16 (by kernel_rfl) rfl rfl rfl (c_impl_IsSchema p_s t_3 ht_3 _ m hS.vis s1 h1) ?_
  rintro a w _ rfl hF hS
  refine q_x (v := (.bool (!t_3))) hF hS (ex_not rfl) rfl rfl fun a hF => q_x (v := (.bool (!t_3))) hF hS (ex_move rfl) rfl rfl fun a hF => ?_
  rcases bcase (!t_3) with hc2 | hc2
  ·have hj1 := cond_f hc2 hj1
   refine q_xg (v := s1.v) hF hS (ex_move rfl) (wanted_t hF rfl rfl rfl hc2) rfl fun a hF => q_xg (v := s2.v) hF hS (ex_move rfl) (wanted_t hF rfl rfl rfl hc2) rfl fun a hF => ?_
   obtain ⟨t_4, ht_4, hj1⟩ := bindS hj1
   refine q_callg (vs := [s1.v, s2.v]) hF hS (wanted_t hF rfl rfl rfl hc2) Tryz.func17 (by kernel_rfl) rfl rfl rfl (c_impl_isData p_s p_l t_4 ht_4 _ m hS.vis s1 h1 s2 h2) ?_
   rintro a w _ rfl hF hS
   refine q_xg (v := (.bool (!t_4))) hF hS (ex_not rfl) (wanted_t hF rfl rfl rfl hc2) rfl fun a hF => q_x (v := (.bool (!t_4))) hF hS (ex_pick_f rfl rfl hc2) rfl rfl fun a hF => q_end (n_jn ?_)
   obtain rfl := someI hj1
   exact ⟨hF.sub ⟨rfl, rfl, trivial⟩, hS⟩
  ·have hj1 := cond_t hc2 hj1
   refine q_skip hF (wanted_f hF rfl rfl rfl hc2 rfl) rfl fun a hF => q_skip hF (wanted_f hF rfl rfl rfl hc2 rfl) rfl fun a hF => q_skip hF (wanted_f hF rfl rfl rfl hc2 rfl) rfl fun a hF => q_skip hF (wanted_f hF rfl rfl rfl hc2 rfl) rfl fun a hF => q_x (v := (.bool true)) hF hS (ex_pick_t rfl rfl hc2) rfl rfl fun a hF => q_end (n_jn ?_)
   obtain rfl := someI hj1
   exact ⟨hF.sub ⟨rfl, rfl, trivial⟩, hS⟩
 ·rintro a wb ⟨hF, hS⟩
  refine n_sq ?_
  rcases bcase (t_5) with hc3 | hc3
  ·have hr := cond_f hc3 hr
   refine q_cond_f hF rfl hc3 (q_skipc (n_sq (q_seq (q_region (q_bnewk hF hS rfl rfl rfl fun a w hF hB => ?_)))))
   have hSb := hS
   have hS := hB.st hSb
   refine q_end (n_sq (q_seq (q_seq (q_region (q_x (v := s2.v) hF hS (ex_move rfl) rfl rfl fun a hF => q_x (v := (.int .i64 (goLen p_l))) hF hS (ex_len Tryz.underlying24 rfl h2.len) rfl rfl fun a hF => q_x (v := (.int .i64 0)) hF hS (ex_move rfl) rfl rfl fun a hF => q_end (n_sq (q_block ?_)))))))
   obtain ⟨b_25, hl4, hr⟩ := bindS hr
   refine q_loop (fun (s : (List UInt8) × Int) a w => ∃ b_6, ∃ t_7, s = (b_6, t_7) ∧ Fr a 51 [(6, (.pointer (some ⟨wb.heap.size, 0, none⟩))), (20, s2.v), (21, (.int .i64 (goLen p_l))), (22, (.int .i64 t_7))] ∧ Bdk wb w b_6) (fun (b_25 : (List UInt8)) e a w => e = .exit 0 ∧ Fr a 51 [(6, (.pointer (some ⟨wb.heap.size, 0, none⟩)))] ∧ Bdk wb w b_25) hl4 ⟨_, _, rfl, hF.sub ⟨rfl, rfl, rfl, rfl, trivial⟩, hB⟩ ?_ ?_
   ·clear hF hS hB
    rintro s a w st ⟨b_6, t_7, rfl, hF, hB⟩ hb4
    have hS := hB.st hSb
    unfold impl_DataText_l1 at hb4
    refine q_seq (q_region (q_x (v := (.bool (decide (t_7 < (goLen p_l))))) hF hS (ex_ibin rfl rfl rfl) rfl rfl fun a hF => q_end (n_sq (q_seq ?_))))
    rcases bcase (decide (t_7 < (goLen p_l))) with hc5 | hc5
    ·have hb4 := cond_f hc5 hb4
     refine q_cond_f hF rfl hc5 (q_exit (x_sq ?_))
     obtain rfl := someI hb4
     exact ⟨nofun, .inl ⟨rfl, hF.sub ⟨rfl, trivial⟩, hB⟩⟩
    ·have hb4 := cond_t hc5 hb4
     refine q_cond_t hF rfl hc5 (q_skipc (n_sq (q_seq (q_block (q_seq (q_region ?_))))))
     obtain ⟨e_8, he_8, hb4⟩ := bindS hb4
     obtain ⟨vs9, at9, d9⟩ := h2.at he_8 3 rfl
     obtain ⟨s10, rfl, h10⟩ : ∃ s10 : Sl, vs9 = [(.int .i64 e_8.Area), (.int .i64 e_8.House), s10.v] ∧ Rd m s10 e_8.Values := d9
     have hS0 := hS
     have hS : St [] w w m [] := St.start w m hS.vis
     refine q_x (v := (elP s2 (t_7.toNat * 3))) hF hS (ex_indexAddr Tryz.underlying24 sz44 rfl rfl (h2.idx he_8)) rfl rfl fun a hF => q_x (v := (.agg #[(.int .i64 e_8.Area), (.int .i64 e_8.House), s10.v])) hF hS (ex_loadEA (us := [(.int .i64 e_8.Area), (.int .i64 e_8.House), s10.v]) 0 Tryz.underlying44 rfl sz44 rfl ((at9).at) rfl rfl rfl) rfl rfl fun a hF => q_alloc (cs := [(.int .i64 0), (.int .i64 0), nilS.v]) hF hS rfl rfl rfl fun a w b11 hF hS => q_store (vs := [(.int .i64 e_8.Area), (.int .i64 e_8.House), s10.v]) (cs' := [(.int .i64 e_8.Area), (.int .i64 e_8.House), s10.v]) 0 0 hF hS sz44 rfl rfl rfl rfl rfl rfl rfl rfl fun a w hF hS => q_end (n_sq (q_seq (q_region (q_x (v := (.pointer (some ⟨b11, 0, none⟩))) hF hS (ex_fieldAddr Tryz.underlying44 rfl sz3 rfl rfl) rfl rfl fun a hF => q_x (v := (.int .i64 e_8.Area)) hF hS (ex_load1 0 0 Tryz.underlying3 rfl rfl rfl rfl) rfl rfl fun a hF => ?_))))
     have hB := hB.keep hS.kept.toBelow
     have hS : St [] w0 w m [[⟨b11, [(.int .i64 e_8.Area), (.int .i64 e_8.House), s10.v], 44⟩]] := hS0.joinF hS
     obtain ⟨t_12, ht_12, hb4⟩ := bindS hb4
     refine q_do rfl fun _ hK => wp_call (vs := [(.int .i64 e_8.Area)]) hF hS Tryz.func34 (by kernel_rfl) rfl rfl rfl (c_strconv_Itoa e_8.Area t_12 ht_12 _ m hS.vis ht) fun a w _ hR hF hS hb => hK _ _ ?_
     obtain rfl := hR
     have hB := hB.keep hb
     obtain ⟨t_13, ht_13, hb4⟩ := bindS hb4
     have hB0 := hB
     refine q_do rfl fun _ hK => wp_callX (vs := [(.pointer (some ⟨wb.heap.size, 0, none⟩)), (strV t_12)]) hF Tryz.func33 (by kernel_rfl) rfl rfl rfl (k_bwrite hB ht_13) fun a w _ hR hF => hK _ _ ?_
     obtain ⟨hB, hk⟩ := hR
     have hS := keepB hS rfl rfl hSb hB0 hB hk
     refine q_end (n_sq (q_seq (q_region ?_)))
     obtain ⟨t_14, ht_14, hb4⟩ := bindS hb4
     have hB0 := hB
     refine q_do rfl fun _ hK => wp_callX (vs := [(.pointer (some ⟨wb.heap.size, 0, none⟩)), (.int .u8 32)]) hF Tryz.func35 (by kernel_rfl) rfl rfl rfl (k_bbyte (c := 32) hB rfl ht_14) fun a w _ hR hF => hK _ _ ?_
     obtain ⟨hB, hk⟩ := hR
     have hS := keepB hS rfl rfl hSb hB0 hB hk
     refine q_end (n_sq (q_seq (q_region (q_x (v := (.pointer (some ⟨b11, 1, none⟩))) hF hS (ex_fieldAddr Tryz.underlying44 rfl sz3 rfl rfl) rfl rfl fun a hF => q_x (v := (.int .i64 e_8.House)) hF hS (ex_load1 0 0 Tryz.underlying3 rfl rfl rfl rfl) rfl rfl fun a hF => ?_))))
     obtain ⟨t_15, ht_15, hb4⟩ := bindS hb4
     refine q_do rfl fun _ hK => wp_call (vs := [(.int .i64 e_8.House)]) hF hS Tryz.func34 (by kernel_rfl) rfl rfl rfl (c_strconv_Itoa e_8.House t_15 ht_15 _ m hS.vis ht) fun a w _ hR hF hS hb => hK _ _ ?_
     obtain rfl := hR
     have hB := hB.keep hb
     obtain ⟨t_16, ht_16, hb4⟩ := bindS hb4
     have hB0 := hB
     refine q_do rfl fun _ hK => wp_callX (vs := [(.pointer (some ⟨wb.heap.size, 0, none⟩)), (strV t_15)]) hF Tryz.func33 (by kernel_rfl) rfl rfl rfl (k_bwrite hB ht_16) fun a w _ hR hF => hK _ _ ?_
     obtain ⟨hB, hk⟩ := hR
     have hS := keepB hS rfl rfl hSb hB0 hB hk
     refine q_end (n_sq (q_seq (q_region ?_)))
     obtain ⟨t_17, ht_17, hb4⟩ := bindS hb4
     have hB0 := hB
     refine q_do rfl fun _ hK => wp_callX (vs := [(.pointer (some ⟨wb.heap.size, 0, none⟩)), (.int .u8 32)]) hF Tryz.func35 (by kernel_rfl) rfl rfl rfl (k_bbyte (c := 32) hB rfl ht_17) fun a w _ hR hF => hK _ _ ?_
     obtain ⟨hB, hk⟩ := hR
     have hS := keepB hS rfl rfl hSb hB0 hB hk
     refine q_end (n_sq (q_seq (q_seq (q_region (q_x (v := (.pointer (some ⟨b11, 2, none⟩))) hF hS (ex_fieldAddr Tryz.underlying44 rfl sz40 rfl rfl) rfl rfl fun a hF => q_x (v := s10.v) hF hS (ex_load1 0 0 Tryz.underlying40 rfl rfl rfl rfl) rfl rfl fun a hF => q_x (v := (.int .i64 (goLen e_8.Values))) hF hS (ex_len Tryz.underlying40 rfl h10.len) rfl rfl fun a hF => q_x (v := (.int .i64 0)) hF hS (ex_move rfl) rfl rfl fun a hF => q_end (n_sq (q_block ?_)))))))
     obtain ⟨b_23, hl6, hb4⟩ := bindS hb4
     refine q_loop (fun (s : (List UInt8) × Int) a w => ∃ b_18, ∃ t_19, s = (b_18, t_19) ∧ Fr a 51 [(6, (.pointer (some ⟨wb.heap.size, 0, none⟩))), (20, s2.v), (21, (.int .i64 (goLen p_l))), (22, (.int .i64 t_7)), (37, s10.v), (38, (.int .i64 (goLen e_8.Values))), (39, (.int .i64 t_19))] ∧ Bdk wb w b_18) (fun (b_23 : (List UInt8)) e a w => e = .exit 2 ∧ Fr a 51 [(6, (.pointer (some ⟨wb.heap.size, 0, none⟩))), (20, s2.v), (21, (.int .i64 (goLen p_l))), (22, (.int .i64 t_7))] ∧ Bdk wb w b_23) hl6 ⟨_, _, rfl, hF.sub ⟨rfl, rfl, rfl, rfl, rfl, rfl, rfl, trivial⟩, hB⟩ ?_ ?_
     ·clear hF hS hB hB0 hk
      rintro s a w st ⟨b_18, t_19, rfl, hF, hB⟩ hb6
      have hS := hB.st hSb
      unfold impl_DataText_l2 at hb6
      refine q_seq (q_region (q_x (v := (.bool (decide (t_19 < (goLen e_8.Values))))) hF hS (ex_ibin rfl rfl rfl) rfl rfl fun a hF => q_end (n_sq (q_seq ?_))))
      rcases bcase (decide (t_19 < (goLen e_8.Values))) with hc7 | hc7
      ·have hb6 := cond_f hc7 hb6
       refine q_cond_f hF rfl hc7 (q_exit (x_sq ?_))
       obtain rfl := someI hb6
       exact ⟨nofun, .inl ⟨rfl, hF.sub ⟨rfl, rfl, rfl, rfl, trivial⟩, hB⟩⟩
      ·have hb6 := cond_t hc7 hb6
       refine q_cond_t hF rfl hc7 (q_skipc (n_sq (q_seq (q_block (q_seq (q_region ?_))))))
       obtain ⟨e_20, he_20, hb6⟩ := bindS hb6
       obtain ⟨vs21, at21, d21⟩ := h10.at he_20 1 rfl
       obtain rfl : vs21 = [(.int .i64 e_20)] := d21
       refine q_x (v := (elP s10 (t_19.toNat * 1))) hF hS (ex_indexAddr Tryz.underlying40 sz3 rfl rfl (h10.idx he_20)) rfl rfl fun a hF => q_x (v := (.int .i64 e_20)) hF hS (ex_loadE1 0 Tryz.underlying3 rfl rfl ((at21).at) rfl rfl) rfl rfl fun a hF => q_x (v := (.int .i64 e_20)) hF hS (ex_assign rfl) rfl rfl fun a hF => q_end (n_sq (q_region (q_x (v := (.int .i64 e_20)) hF hS (ex_move rfl) rfl rfl fun a hF => q_x (v := (.int .i64 (w64 (48 + e_20)))) hF hS (ex_ibin rfl rfl rfl) rfl rfl fun a hF => q_x (v := (.int .u8 (IntKind.wrap .u8 (w64 (48 + e_20))))) hF hS (ex_conv Tryz.underlying3 Tryz.underlying5 rfl) rfl rfl fun a hF => ?_)))
       obtain ⟨t_22, ht_22, hb6⟩ := bindS hb6
       have hB0 := hB
       refine q_do rfl fun _ hK => wp_callX (vs := [(.pointer (some ⟨wb.heap.size, 0, none⟩)), (.int .u8 (IntKind.wrap .u8 (w64 (48 + e_20))))]) hF Tryz.func35 (by kernel_rfl) rfl rfl rfl (k_bbyte hB (wrap8 _) ht_22) fun a w _ hR hF => hK _ _ ?_
       obtain ⟨hB, hk⟩ := hR
       have hS := hB.st hSb
       refine q_end (n_ib (n_sq (q_region (q_x (v := (.int .i64 (w64 (t_19 + 1)))) hF hS (ex_ibin rfl rfl rfl) rfl rfl fun a hF => q_x (v := (.int .i64 (w64 (t_19 + 1)))) hF hS (ex_move rfl) rfl rfl fun a hF => q_end ?_))))
       obtain rfl := someI hb6
       exact ⟨rfl, _, _, rfl, hF.sub ⟨rfl, rfl, rfl, rfl, rfl, rfl, rfl, trivial⟩, hB⟩
     ·rintro e a w ⟨rfl, hF, hB⟩
      refine x_ib (n_sq ?_)
      refine q_region ?_
      obtain ⟨t_24, ht_24, hb4⟩ := bindS hb4
      have hB0 := hB
      refine q_do rfl fun _ hK => wp_callX (vs := [(.pointer (some ⟨wb.heap.size, 0, none⟩)), (.int .u8 10)]) hF Tryz.func35 (by kernel_rfl) rfl rfl rfl (k_bbyte (c := 10) hB rfl ht_24) fun a w _ hR hF => hK _ _ ?_
      obtain ⟨hB, hk⟩ := hR
      have hS := hB.st hSb
      refine q_end (n_ib (n_sq (q_region (q_x (v := (.int .i64 (w64 (t_7 + 1)))) hF hS (ex_ibin rfl rfl rfl) rfl rfl fun a hF => q_x (v := (.int .i64 (w64 (t_7 + 1)))) hF hS (ex_move rfl) rfl rfl fun a hF => q_end ?_))))
      obtain rfl := someI hb4
      exact ⟨rfl, _, _, rfl, hF.sub ⟨rfl, rfl, rfl, rfl, trivial⟩, hB⟩
   ·rintro e a w ⟨rfl, hF, hB⟩
    refine x_ib (n_sq ?_)
    refine q_seq (q_region (q_do rfl fun _ hK => wp_callX (vs := [(.pointer (some ⟨wb.heap.size, 0, none⟩))]) hF Tryz.func36 (by kernel_rfl) rfl rfl rfl (k_bstr hB) fun a w _ hR hF => hK _ _ ?_))
    obtain ⟨rfl, hb⟩ := hR
    have hS := hSb.below hb
    refine q_x (v := (strV b_25)) hF hS (ex_assign rfl) rfl rfl fun a hF => q_x (v := (.bool true)) hF hS (ex_assign rfl) rfl rfl fun a hF => q_end (n_sq (q_ret ?_))
    obtain rfl := someI hr
    exact ret_of hF hS rfl (.tmp rfl (.tmp rfl .nil)) rfl
  ·have hr := cond_t hc3 hr
   refine q_cond_t hF rfl hc3 (q_seq (q_region (q_x (v := (strV ([] : List UInt8))) hF hS (ex_assign rfl) rfl rfl fun a hF => q_x (v := (.bool false)) hF hS (ex_assign rfl) rfl rfl fun a hF => q_end (n_sq (q_ret (r_sq ?_))))))
   obtain rfl := someI hr
   exact ret_of hF hS rfl (.tmp rfl (.tmp rfl .nil)) rfl

theorem c_impl_SameData_1 (p_x : impl_Record) (p_y : impl_Record) (r : Bool) (hr : impl_SameData_1 p_x p_y = some r) (w0 : World) (m : Mem) (hv : Vis m w0) (s1 : Sl) (h1 : Rd m s1 p_x.Values) (s2 : Sl) (h2 : Rd m s2 p_y.Values) :
  Ret Tryz.prog 38 [(.agg #[(.int .i64 p_x.Area), (.int .i64 p_x.House), s1.v]), (.agg #[(.int .i64 p_y.Area), (.int .i64 p_y.House), s2.v])] w0 (fun v _ => v = (.bool r)) := by
 unfold impl_SameData_1 at hr
 refine ret_start Tryz.func38 rfl 9 rfl rfl m hv fun a hF hS => q_seq (q_region (q_box (cs := [(.int .i64 p_x.Area), (.int .i64 p_x.House), s1.v]) hF hS rfl rfl rfl fun a w b3 hF hS => q_box (cs := [(.int .i64 p_y.Area), (.int .i64 p_y.House), s2.v]) hF hS rfl rfl rfl fun a w b4 hF hS => q_x (v := (.bool false)) hF hS (ex_assign rfl) rfl rfl fun a hF => q_end (n_sq (q_seq (q_region (q_x (v := (.agg #[(.int .i64 p_x.Area), (.int .i64 p_x.House), s1.v])) hF hS (ex_loadA (vs := [(.int .i64 p_x.Area), (.int .i64 p_x.House), s1.v]) 1 0 Tryz.underlying44 rfl sz44 rfl rfl rfl rfl) rfl rfl fun a hF => q_x (v := (.agg #[(.int .i64 p_y.Area), (.int .i64 p_y.House), s2.v])) hF hS (ex_loadA (vs := [(.int .i64 p_y.Area), (.int .i64 p_y.House), s2.v]) 0 0 Tryz.underlying44 rfl sz44 rfl rfl rfl rfl) rfl rfl fun a hF => ?_))))))
 obtain ⟨t_5, ht_5, hr⟩ := bindS hr
 refine q_call (vs := [(.agg #[(.int .i64 p_x.Area), (.int .i64 p_x.House), s1.v]), (.agg #[(.int .i64 p_y.Area), (.int .i64 p_y.House), s2.v])]) hF hS Tryz.func14 (by kernel_rfl) rfl rfl rfl (c_impl_CompareRecords p_x p_y t_5 ht_5 _ m hS.vis s1 h1 s2 h2) ?_
 rintro a w _ rfl hF hS
 refine q_x (v := (.bool (t_5 == 0))) hF hS (ex_ibin rfl rfl rfl) rfl rfl fun a hF => q_x (v := (.bool (t_5 == 0))) hF hS (ex_assign rfl) rfl rfl fun a hF => q_end (n_sq (q_ret ?_))
 obtain rfl := someI hr
 exact ret_of hF hS rfl (.tmp rfl .nil) rfl

theorem c_slices_EqualFunc_impl_Record_impl_Record_impl_Record_impl_Record_of_impl_SameData_1 (p_s1 : List impl_Record) (p_s2 : List impl_Record) (r : Bool) (hr : slices_EqualFunc_impl_Record_impl_Record_impl_Record_impl_Record_of_impl_SameData_1 p_s1 p_s2 = some r) (w0 : World) (m : Mem) (hv : Vis m w0) (s1 : Sl) (h1 : Rd m s1 p_s1) (s2 : Sl) (h2 : Rd m s2 p_s2) :
  Ret Tryz.prog 37 [s1.v, s2.v, (.func (.func 38) #[] #[])] w0 (fun v _ => v = (.bool r)) := by
 unfold slices_EqualFunc_impl_Record_impl_Record_impl_Record_impl_Record_of_impl_SameData_1 at hr
 refine ret_start Tryz.func37 rfl 32 rfl rfl m hv fun a hF hS => q_seq (q_region (q_x (v := (.bool false)) hF hS (ex_assign rfl) rfl rfl fun a hF => q_end (n_sq (q_seq (q_seq (q_region (q_x (v := s1.v) hF hS (ex_move rfl) rfl rfl fun a hF => q_x (v := (.int .i64 (goLen p_s1))) hF hS (ex_len Tryz.underlying24 rfl h1.len) rfl rfl fun a hF => q_x (v := s2.v) hF hS (ex_move rfl) rfl rfl fun a hF => q_x (v := (.int .i64 (goLen p_s2))) hF hS (ex_len Tryz.underlying24 rfl h2.len) rfl rfl fun a hF => q_x (v := (.bool ((goLen p_s1) != (goLen p_s2)))) hF hS (ex_ibin rfl rfl rfl) rfl rfl fun a hF => q_end (n_sq ?_))))))))
 rcases bcase ((goLen p_s1) != (goLen p_s2)) with hc1 | hc1
 ·have hr := cond_f hc1 hr
  refine q_cond_f hF rfl hc1 (q_skipc (n_sq (q_seq (q_seq (q_region (q_x (v := s1.v) hF hS (ex_move rfl) rfl rfl fun a hF => q_x (v := (.int .i64 (goLen p_s1))) hF hS (ex_len Tryz.underlying24 rfl h1.len) rfl rfl fun a hF => q_x (v := (.int .i64 0)) hF hS (ex_move rfl) rfl rfl fun a hF => q_end (n_sq (q_block ?_))))))))
  obtain ⟨o2, hl2, hr⟩ := bindS hr
  refine q_loop (fun (t_3 : Int) a w => Fr a 32 [(1, s2.v), (2, (.func (.func 38) #[] #[])), (15, s1.v), (16, (.int .i64 (goLen p_s1))), (17, (.int .i64 t_3))] ∧ St [] w0 w m []) (fun (o : (Unit) ⊕ (Bool)) e a w => o = .inl () ∧ e = .exit 0 ∧ Fr a 32 [] ∧ St [] w0 w m []) hl2 ⟨hF.sub ⟨rfl, rfl, rfl, rfl, rfl, trivial⟩, hS⟩ ?_ ?_
  ·clear hF hS
   rintro t_3 a w st ⟨hF, hS⟩ hb2
   unfold slices_EqualFunc_impl_Record_impl_Record_impl_Record_impl_Record_of_impl_SameData_1_l1 at hb2
   refine q_seq (q_region (q_x (v := (.bool (decide (t_3 < (goLen p_s1))))) hF hS (ex_ibin rfl rfl rfl) rfl rfl fun a hF => q_end (n_sq (q_seq ?_))))
   rcases bcase (decide (t_3 < (goLen p_s1))) with hc3 | hc3
   ·have hb2 := cond_f hc3 hb2
    refine q_cond_f hF rfl hc3 (q_exit (x_sq ?_))
    obtain rfl := someI hb2
    exact ⟨nofun, .inl ⟨rfl, rfl, hF.sub trivial, hS⟩⟩
   ·have hb2 := cond_t hc3 hb2
    refine q_cond_t hF rfl hc3 (q_skipc (n_sq (q_seq (q_block (q_seq (q_region (q_x (v := (.int .i64 t_3)) hF hS (ex_move rfl) rfl rfl fun a hF => ?_)))))))
    obtain ⟨e_4, he_4, hb2⟩ := bindS hb2
    obtain ⟨vs5, at5, d5⟩ := h1.at he_4 3 rfl
    obtain ⟨s6, rfl, h6⟩ : ∃ s6 : Sl, vs5 = [(.int .i64 e_4.Area), (.int .i64 e_4.House), s6.v] ∧ Rd m s6 e_4.Values := d5
    refine q_x (v := (elP s1 (t_3.toNat * 3))) hF hS (ex_indexAddr Tryz.underlying24 sz44 rfl rfl (h1.idx he_4)) rfl rfl fun a hF => q_x (v := (.agg #[(.int .i64 e_4.Area), (.int .i64 e_4.House), s6.v])) hF hS (ex_loadEA (us := [(.int .i64 e_4.Area), (.int .i64 e_4.House), s6.v]) 0 Tryz.underlying44 rfl sz44 rfl ((at5).at) rfl rfl rfl) rfl rfl fun a hF => q_alloc (cs := [(.int .i64 0), (.int .i64 0), nilS.v]) hF hS rfl rfl rfl fun a w b7 hF hS => q_x (v := (.int .i64 t_3)) hF hS (ex_assign rfl) rfl rfl fun a hF => q_store (vs := [(.int .i64 e_4.Area), (.int .i64 e_4.House), s6.v]) (cs' := [(.int .i64 e_4.Area), (.int .i64 e_4.House), s6.v]) 0 0 hF hS sz44 rfl rfl rfl rfl rfl rfl rfl rfl fun a w hF hS => q_end (n_sq (q_seq (q_region (q_x (v := s2.v) hF hS (ex_move rfl) rfl rfl fun a hF => q_x (v := (.int .i64 t_3)) hF hS (ex_move rfl) rfl rfl fun a hF => ?_))))
    obtain ⟨e_8, he_8, hb2⟩ := bindS hb2
    obtain ⟨vs9, at9, d9⟩ := h2.at he_8 3 rfl
    obtain ⟨s10, rfl, h10⟩ : ∃ s10 : Sl, vs9 = [(.int .i64 e_8.Area), (.int .i64 e_8.House), s10.v] ∧ Rd m s10 e_8.Values := d9
    refine q_x (v := (elP s2 (t_3.toNat * 3))) hF hS (ex_indexAddr Tryz.underlying24 sz44 rfl rfl (h2.idx he_8)) rfl rfl fun a hF => q_x (v := (.agg #[(.int .i64 e_8.Area), (.int .i64 e_8.House), s10.v])) hF hS (ex_loadEA (us := [(.int .i64 e_8.Area), (.int .i64 e_8.House), s10.v]) 0 Tryz.underlying44 rfl sz44 rfl ((at9).at) rfl rfl rfl) rfl rfl fun a hF => q_alloc (cs := [(.int .i64 0), (.int .i64 0), nilS.v]) hF hS rfl rfl rfl fun a w b11 hF hS => q_store (vs := [(.int .i64 e_8.Area), (.int .i64 e_8.House), s10.v]) (cs' := [(.int .i64 e_8.Area), (.int .i64 e_8.House), s10.v]) 0 0 hF hS sz44 rfl rfl rfl rfl rfl rfl rfl rfl fun a w hF hS => q_end (n_sq (q_seq (q_region (q_x (v := (.func (.func 38) #[] #[])) hF hS (ex_move rfl) rfl rfl fun a hF => q_x (v := (.agg #[(.int .i64 e_4.Area), (.int .i64 e_4.House), s6.v])) hF hS (ex_loadA (vs := [(.int .i64 e_4.Area), (.int .i64 e_4.House), s6.v]) 1 0 Tryz.underlying44 rfl sz44 rfl rfl rfl rfl) rfl rfl fun a hF => q_x (v := (.agg #[(.int .i64 e_8.Area), (.int .i64 e_8.House), s10.v])) hF hS (ex_loadA (vs := [(.int .i64 e_8.Area), (.int .i64 e_8.House), s10.v]) 0 0 Tryz.underlying44 rfl sz44 rfl rfl rfl rfl) rfl rfl fun a hF => ?_))))
    obtain ⟨t_12, ht_12, hb2⟩ := bindS hb2
    refine q_callv (vs := [(.agg #[(.int .i64 e_4.Area), (.int .i64 e_4.House), s6.v]), (.agg #[(.int .i64 e_8.Area), (.int .i64 e_8.House), s10.v])]) (cap := []) hF hS rfl Tryz.func38 (by kernel_rfl) rfl rfl rfl (c_impl_SameData_1 e_4 e_8 t_12 ht_12 _ m hS.vis s6 h6 s10 h10) ?_
    rintro a w _ rfl hF hS
    refine q_x (v := (.bool (!t_12))) hF hS (ex_not rfl) rfl rfl fun a hF => q_end (n_sq ?_)
    rcases bcase (!t_12) with hc4 | hc4
    ·have hb2 := cond_f hc4 hb2
     refine q_cond_f hF rfl hc4 (q_skipc (n_ib (n_sq (q_region (q_x (v := (.int .i64 (w64 (t_3 + 1)))) hF hS (ex_ibin rfl rfl rfl) rfl rfl fun a hF => q_x (v := (.int .i64 (w64 (t_3 + 1)))) hF hS (ex_move rfl) rfl rfl fun a hF => q_end ?_)))))
     obtain rfl := someI hb2
     exact ⟨rfl, hF.sub ⟨rfl, rfl, rfl, rfl, rfl, trivial⟩, hS.mask [false, false]⟩
    ·have hb2 := cond_t hc4 hb2
     refine q_cond_t hF rfl hc4 (q_seq (q_region (q_x (v := (.bool false)) hF hS (ex_assign rfl) rfl rfl fun a hF => q_end (n_sq (q_ret (r_ib (r_sq ?_)))))))
     obtain rfl := someI hb2
     refine ⟨nofun, .inr fun ho => ?_⟩
     subst ho
     refine r_ib (r_sq ?_)
     obtain rfl := someI hr
     exact ret_of hF hS rfl (.tmp rfl .nil) rfl
  ·rintro e a w ⟨rfl, rfl, hF, hS⟩
   refine x_ib (n_sq ?_)
   refine q_seq (q_region (q_x (v := (.bool true)) hF hS (ex_assign rfl) rfl rfl fun a hF => q_end (n_sq (q_ret ?_))))
   obtain rfl := someI hr
   exact ret_of hF hS rfl (.tmp rfl .nil) rfl
 ·have hr := cond_t hc1 hr
  refine q_cond_t hF rfl hc1 (q_seq (q_region (q_x (v := (.bool false)) hF hS (ex_assign rfl) rfl rfl fun a hF => q_end (n_sq (q_ret (r_sq ?_))))))
  obtain rfl := someI hr
  exact ret_of hF hS rfl (.tmp rfl .nil) rfl

theorem c_impl_SameData (p_s : List impl_Variable) (p_a : List impl_Record) (p_b : List impl_Record) (r : Bool × Bool) (hr : impl_SameData p_s p_a p_b = some r) (w0 : World) (m : Mem) (hv : Vis m w0) (s1 : Sl) (h1 : Rd m s1 p_s) (s2 : Sl) (h2 : Rd m s2 p_a) (s3 : Sl) (h3 : Rd m s3 p_b) :
  Ret Tryz.prog 12 [s1.v, s2.v, s3.v] w0 (fun v _ => v = (.tuple #[(.bool r.1), (.bool r.2)])) := by
 unfold impl_SameData at hr
 refine ret_start Tryz.func12 rfl 30 rfl rfl m hv fun a hF hS => q_seq (q_region (q_x (v := (.bool false)) hF hS (ex_assign rfl) rfl rfl fun a hF => q_x (v := (.bool false)) hF hS (ex_assign rfl) rfl rfl fun a hF => q_end (n_sq (q_seq (q_seq ?_)))))
 obtain ⟨t_7, hj1, hr⟩ := bindS hr
 refine q_join (fun a w => Fr a 30 [(1, s2.v), (2, s3.v), (23, (.bool t_7))] ∧ St [] w0 w m []) ?_ ?_
 ·refine q_region (q_x (v := s1.v) hF hS (ex_move rfl) rfl rfl fun a hF => ?_)
  obtain ⟨t_4, ht_4, hj1⟩ := bindS hj1
  refine q_call (vs := [s1.v]) hF hS Tryz.func16 (by kernel_rfl) rfl rfl rfl (c_impl_IsSchema p_s t_4 ht_4 _ m hS.vis s1 h1) ?_
  rintro a w _ rfl hF hS
  refine q_x (v := (.bool (!t_4))) hF hS (ex_not rfl) rfl rfl fun a hF => q_x (v := (.bool (!t_4))) hF hS (ex_move rfl) rfl rfl fun a hF => ?_
  rcases bcase (!t_4) with hc2 | hc2
  ·have hj1 := cond_f hc2 hj1
   refine q_xg (v := s1.v) hF hS (ex_move rfl) (wanted_t hF rfl rfl rfl hc2) rfl fun a hF => q_xg (v := s2.v) hF hS (ex_move rfl) (wanted_t hF rfl rfl rfl hc2) rfl fun a hF => ?_
   obtain ⟨t_5, ht_5, hj1⟩ := bindS hj1
   refine q_callg (vs := [s1.v, s2.v]) hF hS (wanted_t hF rfl rfl rfl hc2) Tryz.func17 (by kernel_rfl) rfl rfl rfl (c_impl_isData p_s p_a t_5 ht_5 _ m hS.vis s1 h1 s2 h2) ?_
   rintro a w _ rfl hF hS
   refine q_xg (v := (.bool (!t_5))) hF hS (ex_not rfl) (wanted_t hF rfl rfl rfl hc2) rfl fun a hF => q_x (v := (.bool (!t_5))) hF hS (ex_pick_f rfl rfl hc2) rfl rfl fun a hF => q_x (v := (.bool (!t_5))) hF hS (ex_move rfl) rfl rfl fun a hF => ?_
   rcases bcase (!t_5) with hc3 | hc3
   ·have hj1 := cond_f hc3 hj1
    refine q_xg (v := s1.v) hF hS (ex_move rfl) (wanted_t hF rfl rfl rfl hc3) rfl fun a hF => q_xg (v := s3.v) hF hS (ex_move rfl) (wanted_t hF rfl rfl rfl hc3) rfl fun a hF => ?_
    obtain ⟨t_6, ht_6, hj1⟩ := bindS hj1
    refine q_callg (vs := [s1.v, s3.v]) hF hS (wanted_t hF rfl rfl rfl hc3) Tryz.func17 (by kernel_rfl) rfl rfl rfl (c_impl_isData p_s p_b t_6 ht_6 _ m hS.vis s1 h1 s3 h3) ?_
    rintro a w _ rfl hF hS
    refine q_xg (v := (.bool (!t_6))) hF hS (ex_not rfl) (wanted_t hF rfl rfl rfl hc3) rfl fun a hF => q_x (v := (.bool (!t_6))) hF hS (ex_pick_f rfl rfl hc3) rfl rfl fun a hF => q_end (n_jn ?_)
    obtain rfl := someI hj1
    exact ⟨hF.sub ⟨rfl, rfl, rfl, trivial⟩, hS⟩
   ·have hj1 := cond_t hc3 hj1
    refine q_skip hF (wanted_f hF rfl rfl rfl hc3 rfl) rfl fun a hF => q_skip hF (wanted_f hF rfl rfl rfl hc3 rfl) rfl fun a hF => q_skip hF (wanted_f hF rfl rfl rfl hc3 rfl) rfl fun a hF => q_skip hF (wanted_f hF rfl rfl rfl hc3 rfl) rfl fun a hF => q_x (v := (.bool true)) hF hS (ex_pick_t rfl rfl hc3) rfl rfl fun a hF => q_end (n_jn ?_)
    obtain rfl := someI hj1
    exact ⟨hF.sub ⟨rfl, rfl, rfl, trivial⟩, hS⟩
  ·have hj1 := cond_t hc2 hj1
   refine q_skip hF (wanted_f hF rfl rfl rfl hc2 rfl) rfl fun a hF => q_skip hF (wanted_f hF rfl rfl rfl hc2 rfl) rfl fun a hF => q_skip hF (wanted_f hF rfl rfl rfl hc2 rfl) rfl fun a hF => q_skip hF (wanted_f hF rfl rfl rfl hc2 rfl) rfl fun a hF => q_x (v := (.bool true)) hF hS (ex_pick_t rfl rfl hc2) rfl rfl fun a hF => q_x (v := (.bool true)) hF hS (ex_move rfl) rfl rfl fun a hF => q_skip hF (wanted_f hF rfl rfl rfl rfl rfl) rfl fun a hF => q_skip hF (wanted_f hF rfl rfl rfl rfl rfl) rfl fun a hF => q_skip hF (wanted_f hF rfl rfl rfl rfl rfl) rfl fun a hF => q_skip hF (wanted_f hF rfl rfl rfl rfl rfl) rfl fun a hF => q_x (v := (.bool true)) hF hS (ex_pick_t rfl rfl rfl) rfl rfl fun a hF => q_end (n_jn ?_)
   obtain rfl := someI hj1
   exact ⟨hF.sub ⟨rfl, rfl, rfl, trivial⟩, hS⟩
 ·rintro a w ⟨hF, hS⟩
  refine n_sq ?_
  rcases bcase (t_7) with hc4 | hc4
  ·have hr := cond_f hc4 hr
   refine q_cond_f hF rfl hc4 (q_skipc (n_sq (q_seq (q_region (q_x (v := s2.v) hF hS (ex_move rfl) rfl rfl fun a hF => ?_)))))
   obtain ⟨t_8, ht_8, hr⟩ := bindS hr
   refine q_call (vs := [s2.v]) hF hS Tryz.func18 (by kernel_rfl) rfl rfl rfl (c_impl_sortedRecords p_a t_8 ht_8 _ m hS.vis s2 h2) ?_
   have hT := hS
   rintro a w _ ⟨m9, q10, s10, rfl, hm9, hR9, h10⟩ hF hS2
   have hS : St _ _ _ _ [q10] := hS.join hR9 hm9
   have hm9 := MLe.weakX (O0 := []) hT hm9
   refine q_x (v := s3.v) hF hS (ex_move rfl) rfl rfl fun a hF => ?_
   obtain ⟨t_11, ht_11, hr⟩ := bindS hr
   refine q_call (vs := [s3.v]) hF hS Tryz.func18 (by kernel_rfl) rfl rfl rfl (c_impl_sortedRecords p_b t_11 ht_11 _ m9 hS.vis s3 (h3.mono hm9.le)) ?_
   have hT := hS
   rintro a w _ ⟨m12, q13, s13, rfl, hm12, hR12, h13⟩ hF hS2
   have hS : St _ _ _ _ [q13, q10] := hS.join hR12 hm12
   have hm12 := MLe.weakX (O0 := []) hT hm12
   obtain ⟨m15, hl15, hv15, hz15⟩ := hS.lend
   obtain ⟨t_14, ht_14, hr⟩ := bindS hr
   refine q_call (vs := [s10.v, s13.v, (.func (.func 38) #[] #[])]) hF hS Tryz.func37 (by kernel_rfl) rfl rfl rfl (c_slices_EqualFunc_impl_Record_impl_Record_impl_Record_impl_Record_of_impl_SameData_1 t_8 t_11 t_14 ht_14 _ m15 hv15 s10 ((h10.mono hm12.le).froz hl15 (hz15 1 _ rfl)) s13 (h13.froz hl15 (hz15 0 _ rfl))) ?_
   rintro a w _ rfl hF hS
   refine q_x (v := (.bool t_14)) hF hS (ex_assign rfl) rfl rfl fun a hF => q_end (n_sq (q_seq (q_region (q_x (v := (.bool t_14)) hF hS (ex_move rfl) rfl rfl fun a hF => q_x (v := (.bool t_14)) hF hS (ex_assign rfl) rfl rfl fun a hF => q_x (v := (.bool true)) hF hS (ex_assign rfl) rfl rfl fun a hF => q_end (n_sq (q_ret ?_))))))
   obtain rfl := someI hr
   exact ret_of hF hS rfl (.tmp rfl (.tmp rfl .nil)) rfl
  ·have hr := cond_t hc4 hr
   refine q_cond_t hF rfl hc4 (q_seq (q_region (q_x (v := (.bool false)) hF hS (ex_assign rfl) rfl rfl fun a hF => q_x (v := (.bool false)) hF hS (ex_assign rfl) rfl rfl fun a hF => q_end (n_sq (q_ret (r_sq ?_))))))
   obtain rfl := someI hr
   exact ret_of hF hS rfl (.tmp rfl (.tmp rfl .nil)) rfl

end Go.Proofs.YtebjhiflnemkhaaGreatDoor
