/- The walks of the functions: each returns what its plain function says. -/
import Derived.Test.YtkgmphgbmjbfhaaHDefs
import Derived.Test.YtkgmphgbmjbfhaaRows
namespace Go.Proofs.Ytkgmphgbmjbfhaa
open Go.Gx Go.Gx.F Go.RowKit
set_option linter.all false
set_option maxRecDepth 10000

theorem mixed : Try.prog.follows .mixedOrders = true := by kernel_rfl
theorem inf26 : inf Try.prog 26 = some (2, 16, [(.int .i64 0), (.int .i64 0)]) := by kernel_rfl
theorem inf51 : inf Try.prog 51 = some (1, 24, [nilS.v]) := by kernel_rfl
theorem sz3 : szOf Try.prog 3 = some 1 := by kernel_rfl
theorem sz23 : szOf Try.prog 23 = some 2 := by kernel_rfl
theorem sz26 : szOf Try.prog 26 = some 2 := by kernel_rfl
theorem sz51 : szOf Try.prog 51 = some 1 := by kernel_rfl
theorem sz61 : szOf Try.prog 61 = some 1 := by kernel_rfl
theorem sz63 : szOf Try.prog 63 = some 1 := by kernel_rfl
theorem sz66 : szOf Try.prog 66 = some 1 := by kernel_rfl
theorem sz68 : szOf Try.prog 68 = some 1 := by kernel_rfl
theorem sz127 : szOf Try.prog 127 = some 1 := by kernel_rfl

theorem c_laws_szFracS (p_a : List laws_Frac) (p_left : Int) (r : Int) (hr : laws_szFracS p_a p_left = some r) (w0 : World) (m : Mem) (hv : Vis m w0) (s1 : Sl) (h1 : Rd m s1 p_a) :
    Ret Try.prog 144 [s1.v, (.int .i64 p_left)] w0 (fun v _ => v = (.int .i64 r)) := by
  unfold laws_szFracS at hr
  refine ret_start Try.func144 rfl 12 rfl rfl m hv fun a hF hS => ?_
  refine q_seq ?_
  refine q_region ?_
  refine q_x (v := (.int .i64 0)) hF hS (ex_assign rfl) rfl rfl fun a hF => ?_
  refine q_end (n_sq ?_)
  refine q_seq ?_
  refine q_region ?_
  refine q_x (v := (.int .i64 p_left)) hF hS (ex_move rfl) rfl rfl fun a hF => ?_
  refine q_x (v := s1.v) hF hS (ex_move rfl) rfl rfl fun a hF => ?_
  refine q_x (v := (.int .i64 (goLen p_a))) hF hS (ex_len Try.underlying127 rfl h1.len) rfl rfl fun a hF => ?_
  refine q_x (v := (.int .i64 (w64 (p_left - (goLen p_a))))) hF hS (ex_ibin rfl rfl rfl) rfl rfl fun a hF => ?_
  refine q_x (v := (.int .i64 (w64 (p_left - (goLen p_a))))) hF hS (ex_assign rfl) rfl rfl fun a hF => ?_
  refine q_end (n_sq ?_)
  refine q_seq ?_
  refine q_seq ?_
  refine q_region ?_
  refine q_x (v := (.int .i64 (w64 (p_left - (goLen p_a))))) hF hS (ex_move rfl) rfl rfl fun a hF => ?_
  refine q_x (v := (.bool (decide ((w64 (p_left - (goLen p_a))) < 0)))) hF hS (ex_ibin rfl rfl rfl) rfl rfl fun a hF => ?_
  refine q_end (n_sq ?_)
  rcases hc1 : (decide ((w64 (p_left - (goLen p_a))) < 0)) with _ | _
  · have hr := cond_f hc1 hr
    refine q_cond_f hF rfl hc1 ?_
    refine q_skipc (n_sq ?_)
    refine q_seq ?_
    refine q_region ?_
    refine q_x (v := (.int .i64 (w64 (p_left - (goLen p_a))))) hF hS (ex_move rfl) rfl rfl fun a hF => ?_
    refine q_x (v := (.int .i64 (w64 (p_left - (goLen p_a))))) hF hS (ex_assign rfl) rfl rfl fun a hF => ?_
    refine q_end (n_sq (q_ret ?_))
    obtain rfl := someI hr
    exact ret_of hF hS rfl (.tmp rfl .nil) rfl
  · have hr := cond_t hc1 hr
    refine q_cond_t hF rfl hc1 ?_
    refine q_seq ?_
    refine q_region ?_
    refine q_x (v := (.int .i64 (-1))) hF hS (ex_assign rfl) rfl rfl fun a hF => ?_
    refine q_end (n_sq (q_ret (r_sq ?_)))
    obtain rfl := someI hr
    exact ret_of hF hS rfl (.tmp rfl .nil) rfl

theorem c_laws_szFracSS (p_a : List (List laws_Frac)) (p_left : Int) (r : Int) (hr : laws_szFracSS p_a p_left = some r) (w0 : World) (m : Mem) (hv : Vis m w0) (s1 : Sl) (h1 : Rd m s1 p_a) :
    Ret Try.prog 114 [s1.v, (.int .i64 p_left)] w0 (fun v _ => v = (.int .i64 r)) := by
  unfold laws_szFracSS at hr
  refine ret_start Try.func114 rfl 27 rfl rfl m hv fun a hF hS => ?_
  refine q_seq ?_
  refine q_region ?_
  refine q_x (v := (.int .i64 0)) hF hS (ex_assign rfl) rfl rfl fun a hF => ?_
  refine q_end (n_sq ?_)
  refine q_seq ?_
  refine q_region ?_
  refine q_x (v := (.int .i64 p_left)) hF hS (ex_move rfl) rfl rfl fun a hF => ?_
  refine q_x (v := s1.v) hF hS (ex_move rfl) rfl rfl fun a hF => ?_
  refine q_x (v := (.int .i64 (goLen p_a))) hF hS (ex_len Try.underlying61 rfl h1.len) rfl rfl fun a hF => ?_
  refine q_x (v := (.int .i64 (w64 (p_left - (goLen p_a))))) hF hS (ex_ibin rfl rfl rfl) rfl rfl fun a hF => ?_
  refine q_x (v := (.int .i64 (w64 (p_left - (goLen p_a))))) hF hS (ex_assign rfl) rfl rfl fun a hF => ?_
  refine q_end (n_sq ?_)
  refine q_seq ?_
  refine q_seq ?_
  refine q_region ?_
  refine q_x (v := (.int .i64 (w64 (p_left - (goLen p_a))))) hF hS (ex_move rfl) rfl rfl fun a hF => ?_
  refine q_x (v := (.bool (decide ((w64 (p_left - (goLen p_a))) < 0)))) hF hS (ex_ibin rfl rfl rfl) rfl rfl fun a hF => ?_
  refine q_end (n_sq ?_)
  rcases hc1 : (decide ((w64 (p_left - (goLen p_a))) < 0)) with _ | _
  · have hr := cond_f hc1 hr
    refine q_cond_f hF rfl hc1 ?_
    refine q_skipc (n_sq ?_)
    refine q_seq ?_
    refine q_seq ?_
    refine q_region ?_
    refine q_x (v := (.int .i64 0)) hF hS (ex_assign rfl) rfl rfl fun a hF => ?_
    refine q_end (n_sq ?_)
    refine q_block ?_
    obtain ⟨o2, hl2, hr⟩ := bindS hr
    refine q_loop (fun (s : Int × Int) a w => ∃ left_2, ∃ i_3, s = (left_2, i_3) ∧ Fr a 27 [(0, s1.v), (1, (.int .i64 left_2)), (5, (.int .i64 i_3))] ∧ St [] w0 w m []) (fun (o : (Int) ⊕ (Int)) e a w => ∃ left_8, o = .inl left_8 ∧ e = .exit 0 ∧ Fr a 27 [(1, (.int .i64 left_8))] ∧ St [] w0 w m []) hl2 ⟨_, _, rfl, hF.sub ⟨rfl, rfl, rfl, trivial⟩, hS⟩ ?_ ?_
    · clear hF hS
      rintro s a w st ⟨left_2, i_3, rfl, hF, hS⟩ hb2
      unfold laws_szFracSS_l1 at hb2
      refine q_seq ?_
      refine q_seq ?_
      refine q_region ?_
      refine q_x (v := (.int .i64 i_3)) hF hS (ex_move rfl) rfl rfl fun a hF => ?_
      refine q_x (v := s1.v) hF hS (ex_move rfl) rfl rfl fun a hF => ?_
      refine q_x (v := (.int .i64 (goLen p_a))) hF hS (ex_len Try.underlying61 rfl h1.len) rfl rfl fun a hF => ?_
      refine q_x (v := (.bool (decide (i_3 < (goLen p_a))))) hF hS (ex_ibin rfl rfl rfl) rfl rfl fun a hF => ?_
      refine q_end (n_sq ?_)
      rcases hc3 : (decide (i_3 < (goLen p_a))) with _ | _
      · have hb2 := cond_f hc3 hb2
        refine q_cond_f hF rfl hc3 ?_
        refine q_exit (x_sq ?_)
        obtain rfl := someI hb2
        exact ⟨nofun, .inl ⟨_, rfl, rfl, hF.sub ⟨rfl, trivial⟩, hS⟩⟩
      · have hb2 := cond_t hc3 hb2
        refine q_cond_t hF rfl hc3 ?_
        refine q_skipc (n_sq ?_)
        refine q_seq ?_
        refine q_block ?_
        refine q_seq ?_
        refine q_region ?_
        refine q_x (v := s1.v) hF hS (ex_move rfl) rfl rfl fun a hF => ?_
        refine q_x (v := (.int .i64 i_3)) hF hS (ex_move rfl) rfl rfl fun a hF => ?_
        obtain ⟨e_4, he_4, hb2⟩ := bindS hb2
        obtain ⟨vs5, at5, d5⟩ := h1.at he_4 1 rfl
        obtain ⟨s6, rfl, h6⟩ : ∃ s6 : Sl, vs5 = [s6.v] ∧ Rd m s6 e_4 := d5
        refine q_x (v := (elP s1 (i_3.toNat * 1))) hF hS (ex_indexAddr Try.underlying61 sz127 rfl rfl (h1.idx he_4)) rfl rfl fun a hF => ?_
        refine q_x (v := s6.v) hF hS (ex_loadE1 0 Try.underlying127 rfl rfl ((at5).at) rfl rfl) rfl rfl fun a hF => ?_
        refine q_x (v := (.int .i64 left_2)) hF hS (ex_move rfl) rfl rfl fun a hF => ?_
        obtain ⟨t_7, ht_7, hb2⟩ := bindS hb2
        refine q_call (vs := [s6.v, (.int .i64 left_2)]) hF hS Try.func144 (by kernel_rfl) rfl rfl rfl (c_laws_szFracS e_4 left_2 t_7 ht_7 _ m hS.vis s6 h6) ?_
        rintro a w _ rfl hF hS
        refine q_x (v := (.int .i64 t_7)) hF hS (ex_assign rfl) rfl rfl fun a hF => ?_
        refine q_end (n_sq ?_)
        refine q_seq ?_
        refine q_region ?_
        refine q_x (v := (.int .i64 t_7)) hF hS (ex_move rfl) rfl rfl fun a hF => ?_
        refine q_x (v := (.bool (decide (t_7 < 0)))) hF hS (ex_ibin rfl rfl rfl) rfl rfl fun a hF => ?_
        refine q_end (n_sq ?_)
        rcases hc4 : (decide (t_7 < 0)) with _ | _
        · have hb2 := cond_f hc4 hb2
          refine q_cond_f hF rfl hc4 ?_
          refine q_skipc (n_ib (n_sq ?_))
          refine q_region ?_
          refine q_x (v := (.int .i64 i_3)) hF hS (ex_move rfl) rfl rfl fun a hF => ?_
          refine q_x (v := (.int .i64 (w64 (i_3 + 1)))) hF hS (ex_ibin rfl rfl rfl) rfl rfl fun a hF => ?_
          refine q_x (v := (.int .i64 (w64 (i_3 + 1)))) hF hS (ex_assign rfl) rfl rfl fun a hF => ?_
          refine q_end ?_
          obtain rfl := someI hb2
          exact ⟨rfl, _, _, rfl, hF.sub ⟨rfl, rfl, rfl, trivial⟩, hS⟩
        · have hb2 := cond_t hc4 hb2
          refine q_cond_t hF rfl hc4 ?_
          refine q_seq ?_
          refine q_region ?_
          refine q_x (v := (.int .i64 (-1))) hF hS (ex_assign rfl) rfl rfl fun a hF => ?_
          refine q_end (n_sq (q_ret (r_ib (r_sq ?_))))
          obtain rfl := someI hb2
          refine ⟨nofun, .inr fun ho => ?_⟩
          subst ho
          refine r_ib (r_sq ?_)
          obtain rfl := someI hr
          exact ret_of hF hS rfl (.tmp rfl .nil) rfl
    · rintro e a w ⟨left_8, rfl, rfl, hF, hS⟩
      refine x_ib (n_sq ?_)
      refine q_seq ?_
      refine q_region ?_
      refine q_x (v := (.int .i64 left_8)) hF hS (ex_move rfl) rfl rfl fun a hF => ?_
      refine q_x (v := (.int .i64 left_8)) hF hS (ex_assign rfl) rfl rfl fun a hF => ?_
      refine q_end (n_sq (q_ret ?_))
      obtain rfl := someI hr
      exact ret_of hF hS rfl (.tmp rfl .nil) rfl
  · have hr := cond_t hc1 hr
    refine q_cond_t hF rfl hc1 ?_
    refine q_seq ?_
    refine q_region ?_
    refine q_x (v := (.int .i64 (-1))) hF hS (ex_assign rfl) rfl rfl fun a hF => ?_
    refine q_end (n_sq (q_ret (r_sq ?_)))
    obtain rfl := someI hr
    exact ret_of hF hS rfl (.tmp rfl .nil) rfl

theorem c_laws_szMechanism (p_a : laws_Mechanism) (p_left : Int) (r : Int) (hr : laws_szMechanism p_a p_left = some r) (w0 : World) (m : Mem) (hv : Vis m w0) (s1 : Sl) (h1 : Rd m s1 p_a.Rows) :
    Ret Try.prog 49 [(.agg #[s1.v]), (.int .i64 p_left)] w0 (fun v _ => v = (.int .i64 r)) := by
  unfold laws_szMechanism at hr
  refine ret_start Try.func49 rfl 12 rfl rfl m hv fun a hF hS => ?_
  refine q_seq ?_
  refine q_region ?_
  refine q_box (cs := [s1.v]) hF hS rfl rfl rfl fun a w b2 hF hS => ?_
  refine q_x (v := (.int .i64 0)) hF hS (ex_assign rfl) rfl rfl fun a hF => ?_
  refine q_end (n_sq ?_)
  refine q_seq ?_
  refine q_region ?_
  refine q_x (v := (.pointer (some ⟨b2, 0, none⟩))) hF hS (ex_fieldAddr Try.underlying63 rfl sz61 rfl rfl) rfl rfl fun a hF => ?_
  refine q_x (v := s1.v) hF hS (ex_load1 0 0 Try.underlying61 rfl rfl rfl rfl) rfl rfl fun a hF => ?_
  refine q_x (v := (.int .i64 p_left)) hF hS (ex_move rfl) rfl rfl fun a hF => ?_
  obtain ⟨t_3, ht_3, hr⟩ := bindS hr
  refine q_call (vs := [s1.v, (.int .i64 p_left)]) hF hS Try.func114 (by kernel_rfl) rfl rfl rfl (c_laws_szFracSS p_a.Rows p_left t_3 ht_3 _ m hS.vis s1 h1) ?_
  rintro a w _ rfl hF hS
  refine q_x (v := (.int .i64 t_3)) hF hS (ex_assign rfl) rfl rfl fun a hF => ?_
  refine q_end (n_sq ?_)
  refine q_seq ?_
  refine q_seq ?_
  refine q_region ?_
  refine q_x (v := (.int .i64 t_3)) hF hS (ex_move rfl) rfl rfl fun a hF => ?_
  refine q_x (v := (.bool (decide (t_3 < 0)))) hF hS (ex_ibin rfl rfl rfl) rfl rfl fun a hF => ?_
  refine q_end (n_sq ?_)
  rcases hc1 : (decide (t_3 < 0)) with _ | _
  · have hr := cond_f hc1 hr
    refine q_cond_f hF rfl hc1 ?_
    refine q_skipc (n_sq ?_)
    refine q_seq ?_
    refine q_region ?_
    refine q_x (v := (.int .i64 t_3)) hF hS (ex_move rfl) rfl rfl fun a hF => ?_
    refine q_x (v := (.int .i64 t_3)) hF hS (ex_assign rfl) rfl rfl fun a hF => ?_
    refine q_end (n_sq (q_ret ?_))
    obtain rfl := someI hr
    exact ret_of hF hS rfl (.tmp rfl .nil) rfl
  · have hr := cond_t hc1 hr
    refine q_cond_t hF rfl hc1 ?_
    refine q_seq ?_
    refine q_region ?_
    refine q_x (v := (.int .i64 (-1))) hF hS (ex_assign rfl) rfl rfl fun a hF => ?_
    refine q_end (n_sq (q_ret (r_sq ?_)))
    obtain rfl := someI hr
    exact ret_of hF hS rfl (.tmp rfl .nil) rfl

theorem c_laws_toFrac (p_a : laws_Frac) (r : impl_Frac) (hr : laws_toFrac p_a = some r) (w0 : World) (m : Mem) (hv : Vis m w0) :
    Ret Try.prog 30 [(.agg #[(.int .i64 p_a.Num), (.int .i64 p_a.Den)])] w0 (fun v _ => v = (.agg #[(.int .i64 r.Num), (.int .i64 r.Den)])) := by
  unfold laws_toFrac at hr
  refine ret_start Try.func30 rfl 11 rfl rfl m hv fun a hF hS => ?_
  refine q_seq ?_
  refine q_region ?_
  refine q_box (cs := [(.int .i64 p_a.Num), (.int .i64 p_a.Den)]) hF hS rfl rfl rfl fun a w b1 hF hS => ?_
  refine q_alloc (cs := [(.int .i64 0), (.int .i64 0)]) hF hS rfl rfl rfl fun a w b2 hF hS => ?_
  refine q_end (n_sq ?_)
  refine q_seq ?_
  refine q_region ?_
  refine q_alloc (cs := [(.int .i64 0), (.int .i64 0)]) hF hS rfl rfl rfl fun a w b3 hF hS => ?_
  refine q_end (n_sq ?_)
  refine q_seq ?_
  refine q_region ?_
  refine q_x (v := (.pointer (some ⟨b1, 0, none⟩))) hF hS (ex_fieldAddr Try.underlying23 rfl sz3 rfl rfl) rfl rfl fun a hF => ?_
  refine q_x (v := (.int .i64 p_a.Num)) hF hS (ex_load1 2 0 Try.underlying3 rfl rfl rfl rfl) rfl rfl fun a hF => ?_
  refine q_x (v := (.pointer (some ⟨b3, 0, none⟩))) hF hS (ex_fieldAddr Try.underlying26 rfl sz3 rfl rfl) rfl rfl fun a hF => ?_
  refine q_store (vs := [(.int .i64 p_a.Num)]) (cs' := [(.int .i64 p_a.Num), (.int .i64 0)]) 0 0 hF hS sz3 rfl rfl rfl rfl rfl rfl rfl rfl fun a w hF hS => ?_
  refine q_end (n_sq ?_)
  refine q_seq ?_
  refine q_region ?_
  refine q_x (v := (.pointer (some ⟨b1, 1, none⟩))) hF hS (ex_fieldAddr Try.underlying23 rfl sz3 rfl rfl) rfl rfl fun a hF => ?_
  refine q_x (v := (.int .i64 p_a.Den)) hF hS (ex_load1 2 0 Try.underlying3 rfl rfl rfl rfl) rfl rfl fun a hF => ?_
  refine q_x (v := (.pointer (some ⟨b3, 1, none⟩))) hF hS (ex_fieldAddr Try.underlying26 rfl sz3 rfl rfl) rfl rfl fun a hF => ?_
  refine q_store (vs := [(.int .i64 p_a.Den)]) (cs' := [(.int .i64 p_a.Num), (.int .i64 p_a.Den)]) 0 0 hF hS sz3 rfl rfl rfl rfl rfl rfl rfl rfl fun a w hF hS => ?_
  refine q_end (n_sq ?_)
  refine q_seq ?_
  refine q_region ?_
  refine q_x (v := (.agg #[(.int .i64 p_a.Num), (.int .i64 p_a.Den)])) hF hS (ex_loadA (vs := [(.int .i64 p_a.Num), (.int .i64 p_a.Den)]) 0 0 Try.underlying26 rfl sz26 rfl rfl rfl rfl) rfl rfl fun a hF => ?_
  refine q_store (vs := [(.int .i64 p_a.Num), (.int .i64 p_a.Den)]) (cs' := [(.int .i64 p_a.Num), (.int .i64 p_a.Den)]) 1 0 hF hS sz26 rfl rfl rfl rfl rfl rfl rfl rfl fun a w hF hS => ?_
  refine q_end (n_sq (q_ret ?_))
  obtain rfl := someI hr
  exact ret_of hF hS rfl (.cellA (us := [(.int .i64 p_a.Num), (.int .i64 p_a.Den)]) 1 0 Try.underlying26 rfl sz26 rfl rfl rfl rfl .nil) rfl

theorem c_laws_toFracS (p_a : List laws_Frac) (r : (List impl_Frac)) (hr : laws_toFracS p_a = some r) (w0 : World) (m : Mem) (hv : Vis m w0) (s1 : Sl) (h1 : Rd m s1 p_a) :
    Ret Try.prog 146 [s1.v] w0 (fun v w => ∃ (q0' : Piece) (s0' : Sl), v = s0'.v ∧ St [] w0 w m [q0'] ∧ OwnL m 26 q0' s0' r) := by
  unfold laws_toFracS at hr
  refine ret_start Try.func146 rfl 23 rfl rfl m hv fun a hF hS => ?_
  refine q_seq ?_
  refine q_region ?_
  refine q_x (v := nilS.v) hF hS (ex_assign rfl) rfl rfl fun a hF => ?_
  refine q_end (n_sq ?_)
  refine q_seq ?_
  refine q_region ?_
  refine q_x (v := s1.v) hF hS (ex_move rfl) rfl rfl fun a hF => ?_
  refine q_x (v := (.int .i64 (goLen p_a))) hF hS (ex_len Try.underlying127 rfl h1.len) rfl rfl fun a hF => ?_
  obtain ⟨l_2, hl_2, hr⟩ := bindS hr
  refine q_do rfl fun _ hK => wp_make (z := ((impl_Frac.mk 0 0) : impl_Frac)) hF hS Try.underlying51 inf26 rfl rfl rfl rfl rfl (by decide) hl_2 rfl fun a w q3 s3 hF hS h3 _ => hK _ _ ?_
  refine q_x (v := s3.v) hF hS (ex_assign rfl) rfl rfl fun a hF => ?_
  refine q_end (n_sq ?_)
  refine q_seq ?_
  refine q_seq ?_
  refine q_region ?_
  refine q_x (v := (.int .i64 0)) hF hS (ex_assign rfl) rfl rfl fun a hF => ?_
  refine q_end (n_sq ?_)
  refine q_block ?_
  obtain ⟨out_13, hl1, hr⟩ := bindS hr
  refine q_loop (fun (s : (List impl_Frac) × Int) a w => ∃ (q5 : Piece), ∃ out_4, ∃ i_6, s = (out_4, i_6) ∧ Fr a 23 [(0, s1.v), (3, s3.v), (4, (.int .i64 i_6))] ∧ St [] w0 w m [q5] ∧ OwnL m 26 q5 s3 out_4) (fun (out_13 : (List impl_Frac)) e a w => ∃ (q14 : Piece), e = .exit 0 ∧ Fr a 23 [(3, s3.v)] ∧ St [] w0 w m [q14] ∧ OwnL m 26 q14 s3 out_13) hl1 ⟨q3, _, _, rfl, hF.sub ⟨rfl, rfl, rfl, trivial⟩, hS, h3⟩ ?_ ?_
  · clear hF hS
    rintro s a w st ⟨q5, out_4, i_6, rfl, hF, hS, h5⟩ hb1
    unfold laws_toFracS_l1 at hb1
    refine q_seq ?_
    refine q_seq ?_
    refine q_region ?_
    refine q_x (v := (.int .i64 i_6)) hF hS (ex_move rfl) rfl rfl fun a hF => ?_
    refine q_x (v := s1.v) hF hS (ex_move rfl) rfl rfl fun a hF => ?_
    refine q_x (v := (.int .i64 (goLen p_a))) hF hS (ex_len Try.underlying127 rfl h1.len) rfl rfl fun a hF => ?_
    refine q_x (v := (.bool (decide (i_6 < (goLen p_a))))) hF hS (ex_ibin rfl rfl rfl) rfl rfl fun a hF => ?_
    refine q_end (n_sq ?_)
    rcases hc2 : (decide (i_6 < (goLen p_a))) with _ | _
    · have hb1 := cond_f hc2 hb1
      refine q_cond_f hF rfl hc2 ?_
      refine q_exit (x_sq ?_)
      obtain rfl := someI hb1
      exact ⟨nofun, .inl ⟨q5, rfl, hF.sub ⟨rfl, trivial⟩, hS, h5⟩⟩
    · have hb1 := cond_t hc2 hb1
      refine q_cond_t hF rfl hc2 ?_
      refine q_skipc (n_sq ?_)
      refine q_seq ?_
      refine q_block ?_
      refine q_region ?_
      refine q_x (v := s3.v) hF hS (ex_move rfl) rfl rfl fun a hF => ?_
      refine q_x (v := (.int .i64 i_6)) hF hS (ex_move rfl) rfl rfl fun a hF => ?_
      refine q_x (v := s1.v) hF hS (ex_move rfl) rfl rfl fun a hF => ?_
      refine q_x (v := (.int .i64 i_6)) hF hS (ex_move rfl) rfl rfl fun a hF => ?_
      obtain ⟨e_7, he_7, hb1⟩ := bindS hb1
      obtain ⟨vs8, at8, d8⟩ := h1.at he_7 2 rfl
      obtain rfl : vs8 = [(.int .i64 e_7.Num), (.int .i64 e_7.Den)] := d8
      refine q_x (v := (elP s1 (i_6.toNat * 2))) hF hS (ex_indexAddr Try.underlying127 sz23 rfl rfl (h1.idx he_7)) rfl rfl fun a hF => ?_
      refine q_x (v := (.agg #[(.int .i64 e_7.Num), (.int .i64 e_7.Den)])) hF hS (ex_loadEA (us := [(.int .i64 e_7.Num), (.int .i64 e_7.Den)]) 0 Try.underlying23 rfl sz23 rfl ((at8).at) rfl rfl rfl) rfl rfl fun a hF => ?_
      obtain ⟨t_9, ht_9, hb1⟩ := bindS hb1
      refine q_call (vs := [(.agg #[(.int .i64 e_7.Num), (.int .i64 e_7.Den)])]) hF hS Try.func30 (by kernel_rfl) rfl rfl rfl (c_laws_toFrac e_7 t_9 ht_9 _ m hS.vis) ?_
      rintro a w _ rfl hF hS
      obtain ⟨e_10, he_10, hb1⟩ := bindS hb1
      obtain ⟨vs11, at11, d11⟩ := h5.at he_10 2 rfl
      obtain rfl : vs11 = [(.int .i64 e_10.Num), (.int .i64 e_10.Den)] := d11
      refine q_x (v := (elP s3 (i_6.toNat * 2))) hF hS (ex_indexAddr Try.underlying51 sz26 rfl rfl (h5.idx he_10)) rfl rfl fun a hF => ?_
      refine q_do rfl fun _ hK => wp_storeE (e' := t_9) (us := [(.int .i64 t_9.Num), (.int .i64 t_9.Den)]) (vs := [(.int .i64 e_10.Num), (.int .i64 e_10.Den)]) 0 hF hS h5 sz26 rfl rfl rfl rfl rfl rfl rfl he_10 at11 rfl rfl rfl fun w q12 hS h12 => hK _ _ ?_
      refine q_end (n_ib (n_sq ?_))
      refine q_region ?_
      refine q_x (v := (.int .i64 i_6)) hF hS (ex_move rfl) rfl rfl fun a hF => ?_
      refine q_x (v := (.int .i64 (w64 (i_6 + 1)))) hF hS (ex_ibin rfl rfl rfl) rfl rfl fun a hF => ?_
      refine q_x (v := (.int .i64 (w64 (i_6 + 1)))) hF hS (ex_assign rfl) rfl rfl fun a hF => ?_
      refine q_end ?_
      obtain rfl := someI hb1
      exact ⟨rfl, q12, _, _, rfl, hF.sub ⟨rfl, rfl, rfl, trivial⟩, hS, h12⟩
  · rintro e a w ⟨q14, rfl, hF, hS, h14⟩
    refine x_ib (n_sq ?_)
    refine q_seq ?_
    refine q_region ?_
    refine q_x (v := s3.v) hF hS (ex_move rfl) rfl rfl fun a hF => ?_
    refine q_x (v := s3.v) hF hS (ex_assign rfl) rfl rfl fun a hF => ?_
    refine q_end (n_sq (q_ret ?_))
    obtain rfl := someI hr
    exact ret_of hF hS rfl (.tmp rfl .nil) ⟨q14, s3, rfl, hS.sel [0] (by decide), h14⟩

theorem c_laws_toFracSS (p_a : List (List laws_Frac)) (r : (List (List impl_Frac))) (hr : laws_toFracSS p_a = some r) (w0 : World) (m : Mem) (hv : Vis m w0) (s1 : Sl) (h1 : Rd m s1 p_a) :
    Ret Try.prog 116 [s1.v] w0 (fun v w => ∃ (m' : Mem) (q0' : Piece) (s0' : Sl), v = s0'.v ∧ MLe [] w0.heap.size m m' ∧ St [] w0 w m' [q0'] ∧ OwnL m' 51 q0' s0' r) := by
  unfold laws_toFracSS at hr
  refine ret_start Try.func116 rfl 23 rfl rfl m hv fun a hF hS => ?_
  refine q_seq ?_
  refine q_region ?_
  refine q_x (v := nilS.v) hF hS (ex_assign rfl) rfl rfl fun a hF => ?_
  refine q_end (n_sq ?_)
  refine q_seq ?_
  refine q_region ?_
  refine q_x (v := s1.v) hF hS (ex_move rfl) rfl rfl fun a hF => ?_
  refine q_x (v := (.int .i64 (goLen p_a))) hF hS (ex_len Try.underlying61 rfl h1.len) rfl rfl fun a hF => ?_
  obtain ⟨l_2, hl_2, hr⟩ := bindS hr
  refine q_do rfl fun _ hK => wp_make (z := (([] : List impl_Frac) : List impl_Frac)) hF hS Try.underlying66 inf51 rfl rfl rfl rfl ⟨nilS, rfl, (Rd.nil0 (α := impl_Frac) m)⟩ (by decide) hl_2 rfl fun a w q3 s3 hF hS h3 _ => hK _ _ ?_
  refine q_x (v := s3.v) hF hS (ex_assign rfl) rfl rfl fun a hF => ?_
  refine q_end (n_sq ?_)
  refine q_seq ?_
  refine q_seq ?_
  refine q_region ?_
  refine q_x (v := (.int .i64 0)) hF hS (ex_assign rfl) rfl rfl fun a hF => ?_
  refine q_end (n_sq ?_)
  refine q_block ?_
  obtain ⟨out_19, hl1, hr⟩ := bindS hr
  refine q_loop (fun (s : (List (List impl_Frac)) × Int) a w => ∃ (m7 : Mem), ∃ (q5 : Piece), ∃ out_4, ∃ i_6, s = (out_4, i_6) ∧ Fr a 23 [(0, s1.v), (3, s3.v), (4, (.int .i64 i_6))] ∧ St [] w0 w m7 [q5] ∧ MLe [] w0.heap.size m m7 ∧ OwnL m7 51 q5 s3 out_4) (fun (out_19 : (List (List impl_Frac))) e a w => ∃ (m21 : Mem), ∃ (q20 : Piece), e = .exit 0 ∧ Fr a 23 [(3, s3.v)] ∧ St [] w0 w m21 [q20] ∧ MLe [] w0.heap.size m m21 ∧ OwnL m21 51 q20 s3 out_19) hl1 ⟨m, q3, _, _, rfl, hF.sub ⟨rfl, rfl, rfl, trivial⟩, hS, (MLe.refl _ _), h3⟩ ?_ ?_
  · clear hF hS
    rintro s a w st ⟨m7, q5, out_4, i_6, rfl, hF, hS, hm7, h5⟩ hb1
    unfold laws_toFracSS_l1 at hb1
    refine q_seq ?_
    refine q_seq ?_
    refine q_region ?_
    refine q_x (v := (.int .i64 i_6)) hF hS (ex_move rfl) rfl rfl fun a hF => ?_
    refine q_x (v := s1.v) hF hS (ex_move rfl) rfl rfl fun a hF => ?_
    refine q_x (v := (.int .i64 (goLen p_a))) hF hS (ex_len Try.underlying61 rfl (h1.mono hm7.le).len) rfl rfl fun a hF => ?_
    refine q_x (v := (.bool (decide (i_6 < (goLen p_a))))) hF hS (ex_ibin rfl rfl rfl) rfl rfl fun a hF => ?_
    refine q_end (n_sq ?_)
    rcases hc2 : (decide (i_6 < (goLen p_a))) with _ | _
    · have hb1 := cond_f hc2 hb1
      refine q_cond_f hF rfl hc2 ?_
      refine q_exit (x_sq ?_)
      obtain rfl := someI hb1
      exact ⟨nofun, .inl ⟨m7, q5, rfl, hF.sub ⟨rfl, trivial⟩, hS, hm7, h5⟩⟩
    · have hb1 := cond_t hc2 hb1
      refine q_cond_t hF rfl hc2 ?_
      refine q_skipc (n_sq ?_)
      refine q_seq ?_
      refine q_block ?_
      refine q_region ?_
      refine q_x (v := s3.v) hF hS (ex_move rfl) rfl rfl fun a hF => ?_
      refine q_x (v := (.int .i64 i_6)) hF hS (ex_move rfl) rfl rfl fun a hF => ?_
      refine q_x (v := s1.v) hF hS (ex_move rfl) rfl rfl fun a hF => ?_
      refine q_x (v := (.int .i64 i_6)) hF hS (ex_move rfl) rfl rfl fun a hF => ?_
      obtain ⟨e_8, he_8, hb1⟩ := bindS hb1
      obtain ⟨vs9, at9, d9⟩ := (h1.mono hm7.le).at he_8 1 rfl
      obtain ⟨s10, rfl, h10⟩ : ∃ s10 : Sl, vs9 = [s10.v] ∧ Rd m7 s10 e_8 := d9
      refine q_x (v := (elP s1 (i_6.toNat * 1))) hF hS (ex_indexAddr Try.underlying61 sz127 rfl rfl ((h1.mono hm7.le).idx he_8)) rfl rfl fun a hF => ?_
      refine q_x (v := s10.v) hF hS (ex_loadE1 0 Try.underlying127 rfl rfl ((at9).at) rfl rfl) rfl rfl fun a hF => ?_
      obtain ⟨t_11, ht_11, hb1⟩ := bindS hb1
      refine q_call (vs := [s10.v]) hF hS Try.func146 (by kernel_rfl) rfl rfl rfl (c_laws_toFracS e_8 t_11 ht_11 _ m7 hS.vis s10 h10) ?_
      rintro a w _ ⟨q13, s13, rfl, hR12, h13⟩ hF hS2
      have hS : St _ _ _ _ [q13, q5] := hS.joinF hR12
      obtain ⟨e_14, he_14, hb1⟩ := bindS hb1
      obtain ⟨vs15, at15, d15⟩ := h5.at he_14 1 rfl
      obtain ⟨s16, rfl, h16⟩ : ∃ s16 : Sl, vs15 = [s16.v] ∧ Rd m7 s16 e_14 := d15
      refine q_x (v := (elP s3 (i_6.toNat * 1))) hF hS (ex_indexAddr Try.underlying66 sz51 rfl rfl (h5.idx he_14)) rfl rfl fun a hF => ?_
      obtain ⟨m17, hm17, hS, hz17⟩ := hS.freeze
      have h17 := h13.froz hm17.le hz17
      refine q_do rfl fun _ hK => wp_storeE (e' := t_11) (us := [s13.v]) (vs := [s16.v]) 0 hF hS (h5.mono hm17.le) sz51 rfl rfl rfl rfl rfl rfl rfl he_14 at15 rfl rfl ⟨s13, rfl, h17⟩ fun w q18 hS h18 => hK _ _ ?_
      refine q_end (n_ib (n_sq ?_))
      refine q_region ?_
      refine q_x (v := (.int .i64 i_6)) hF hS (ex_move rfl) rfl rfl fun a hF => ?_
      refine q_x (v := (.int .i64 (w64 (i_6 + 1)))) hF hS (ex_ibin rfl rfl rfl) rfl rfl fun a hF => ?_
      refine q_x (v := (.int .i64 (w64 (i_6 + 1)))) hF hS (ex_assign rfl) rfl rfl fun a hF => ?_
      refine q_end ?_
      obtain rfl := someI hb1
      exact ⟨rfl, m17, q18, _, _, rfl, hF.sub ⟨rfl, rfl, rfl, trivial⟩, hS, (hm7.trans hm17), h18⟩
  · rintro e a w ⟨m21, q20, rfl, hF, hS, hm21, h20⟩
    refine x_ib (n_sq ?_)
    refine q_seq ?_
    refine q_region ?_
    refine q_x (v := s3.v) hF hS (ex_move rfl) rfl rfl fun a hF => ?_
    refine q_x (v := s3.v) hF hS (ex_assign rfl) rfl rfl fun a hF => ?_
    refine q_end (n_sq (q_ret ?_))
    obtain rfl := someI hr
    exact ret_of hF hS rfl (.tmp rfl .nil) ⟨m21, q20, s3, rfl, hm21, hS.sel [0] (by decide), h20⟩

theorem c_laws_toMechanism (p_a : laws_Mechanism) (r : impl_Mechanism) (hr : laws_toMechanism p_a = some r) (w0 : World) (m : Mem) (hv : Vis m w0) (s1 : Sl) (h1 : Rd m s1 p_a.Rows) :
    Ret Try.prog 51 [(.agg #[s1.v])] w0 (fun v w => ∃ (m' : Mem) (q0' : Piece) (s0' : Sl), v = (.agg #[s0'.v]) ∧ MLe [] w0.heap.size m m' ∧ St [] w0 w m' [q0'] ∧ OwnL m' 51 q0' s0' r.Rows) := by
  unfold laws_toMechanism at hr
  refine ret_start Try.func51 rfl 9 rfl rfl m hv fun a hF hS => ?_
  refine q_seq ?_
  refine q_region ?_
  refine q_box (cs := [s1.v]) hF hS rfl rfl rfl fun a w b2 hF hS => ?_
  refine q_alloc (cs := [nilS.v]) hF hS rfl rfl rfl fun a w b3 hF hS => ?_
  refine q_end (n_sq ?_)
  refine q_seq ?_
  refine q_region ?_
  refine q_alloc (cs := [nilS.v]) hF hS rfl rfl rfl fun a w b4 hF hS => ?_
  refine q_end (n_sq ?_)
  refine q_seq ?_
  refine q_region ?_
  refine q_x (v := (.pointer (some ⟨b2, 0, none⟩))) hF hS (ex_fieldAddr Try.underlying63 rfl sz61 rfl rfl) rfl rfl fun a hF => ?_
  refine q_x (v := s1.v) hF hS (ex_load1 2 0 Try.underlying61 rfl rfl rfl rfl) rfl rfl fun a hF => ?_
  obtain ⟨t_5, ht_5, hr⟩ := bindS hr
  refine q_call (vs := [s1.v]) hF hS Try.func116 (by kernel_rfl) rfl rfl rfl (c_laws_toFracSS p_a.Rows t_5 ht_5 _ m hS.vis s1 h1) ?_
  have hT := hS
  rintro a w _ ⟨m6, q7, s7, rfl, hm6, hR6, h7⟩ hF hS2
  have hS : St _ _ _ _ [q7, [⟨b4, [nilS.v], 68⟩], [⟨b3, [nilS.v], 68⟩], [⟨b2, [s1.v], 63⟩]] := hS.join hR6 hm6
  have hm6 := MLe.weakX (O0 := []) hT hm6
  refine q_x (v := (.pointer (some ⟨b4, 0, none⟩))) hF hS (ex_fieldAddr Try.underlying68 rfl sz66 rfl rfl) rfl rfl fun a hF => ?_
  refine q_store (vs := [s7.v]) (cs' := [s7.v]) 1 0 hF hS sz66 rfl rfl rfl rfl rfl rfl rfl rfl fun a w hF hS => ?_
  refine q_end (n_sq ?_)
  refine q_seq ?_
  refine q_region ?_
  refine q_x (v := (.agg #[s7.v])) hF hS (ex_loadA (vs := [s7.v]) 1 0 Try.underlying68 rfl sz68 rfl rfl rfl rfl) rfl rfl fun a hF => ?_
  refine q_store (vs := [s7.v]) (cs' := [s7.v]) 2 0 hF hS sz68 rfl rfl rfl rfl rfl rfl rfl rfl fun a w hF hS => ?_
  refine q_end (n_sq (q_ret ?_))
  obtain rfl := someI hr
  exact ret_of hF hS rfl (.cellA (us := [s7.v]) 2 0 Try.underlying68 rfl sz68 rfl rfl rfl rfl .nil) ⟨m6, q7, s7, rfl, hm6, hS.sel [0] (by decide), h7⟩

theorem c_spec_l1In (p_n : Int) (p_lo : Int) (p_hi : Int) (r : Bool) (hr : spec_l1In p_n p_lo p_hi = some r) (w0 : World) (m : Mem) (hv : Vis m w0) :
    Ret Try.prog 86 [(.int .i64 p_n), (.int .i64 p_lo), (.int .i64 p_hi)] w0 (fun v _ => v = (.bool r)) := by
  unfold spec_l1In at hr
  refine ret_start Try.func86 rfl 15 rfl rfl m hv fun a hF hS => ?_
  refine q_seq ?_
  refine q_region ?_
  refine q_x (v := (.bool false)) hF hS (ex_assign rfl) rfl rfl fun a hF => ?_
  refine q_end (n_sq ?_)
  refine q_seq ?_
  obtain ⟨t_1, hj1, hr⟩ := bindS hr
  refine q_join (fun a w => Fr a 15 [(6, (.bool t_1))] ∧ St [] w0 w m []) ?_ ?_
  · refine q_region ?_
    refine q_x (v := (.int .i64 p_n)) hF hS (ex_move rfl) rfl rfl fun a hF => ?_
    refine q_x (v := (.int .i64 p_lo)) hF hS (ex_move rfl) rfl rfl fun a hF => ?_
    refine q_x (v := (.bool (decide (p_lo ≤ p_n)))) hF hS (ex_ibin rfl rfl rfl) rfl rfl fun a hF => ?_
    refine q_x (v := (.bool (decide (p_lo ≤ p_n)))) hF hS (ex_move rfl) rfl rfl fun a hF => ?_
    rcases hc2 : (decide (p_lo ≤ p_n)) with _ | _
    · have hj1 := cond_f hc2 hj1
      refine q_skip hF (wanted_f hF rfl rfl rfl hc2 rfl) rfl fun a hF => ?_
      refine q_skip hF (wanted_f hF rfl rfl rfl hc2 rfl) rfl fun a hF => ?_
      refine q_skip hF (wanted_f hF rfl rfl rfl hc2 rfl) rfl fun a hF => ?_
      refine q_x (v := (.bool false)) hF hS (ex_pick_f rfl rfl hc2) rfl rfl fun a hF => ?_
      refine q_x (v := (.bool false)) hF hS (ex_assign rfl) rfl rfl fun a hF => ?_
      refine q_end (n_jn ?_)
      obtain rfl := someI hj1
      exact ⟨hF.sub ⟨rfl, trivial⟩, hS⟩
    · have hj1 := cond_t hc2 hj1
      refine q_xg (v := (.int .i64 p_n)) hF hS (ex_move rfl) (wanted_t hF rfl rfl rfl hc2) rfl fun a hF => ?_
      refine q_xg (v := (.int .i64 p_hi)) hF hS (ex_move rfl) (wanted_t hF rfl rfl rfl hc2) rfl fun a hF => ?_
      refine q_xg (v := (.bool (decide (p_n ≤ p_hi)))) hF hS (ex_ibin rfl rfl rfl) (wanted_t hF rfl rfl rfl hc2) rfl fun a hF => ?_
      refine q_x (v := (.bool (decide (p_n ≤ p_hi)))) hF hS (ex_pick_t rfl rfl hc2) rfl rfl fun a hF => ?_
      refine q_x (v := (.bool (decide (p_n ≤ p_hi)))) hF hS (ex_assign rfl) rfl rfl fun a hF => ?_
      refine q_end (n_jn ?_)
      obtain rfl := someI hj1
      exact ⟨hF.sub ⟨rfl, trivial⟩, hS⟩
  · rintro a w ⟨hF, hS⟩
    refine n_sq (q_ret ?_)
    obtain rfl := someI hr
    exact ret_of hF hS rfl (.tmp rfl .nil) rfl

theorem c_spec_l1Most (p_a : Int) (p_b : Int) (r : Int) (hr : spec_l1Most p_a p_b = some r) (w0 : World) (m : Mem) (hv : Vis m w0) :
    Ret Try.prog 149 [(.int .i64 p_a), (.int .i64 p_b)] w0 (fun v _ => v = (.int .i64 r)) := by
  unfold spec_l1Most at hr
  refine ret_start Try.func149 rfl 10 rfl rfl m hv fun a hF hS => ?_
  refine q_seq ?_
  refine q_region ?_
  refine q_x (v := (.int .i64 0)) hF hS (ex_assign rfl) rfl rfl fun a hF => ?_
  refine q_end (n_sq ?_)
  refine q_seq ?_
  refine q_seq ?_
  refine q_region ?_
  refine q_x (v := (.int .i64 p_a)) hF hS (ex_move rfl) rfl rfl fun a hF => ?_
  refine q_x (v := (.int .i64 p_b)) hF hS (ex_move rfl) rfl rfl fun a hF => ?_
  refine q_x (v := (.bool (decide (p_b < p_a)))) hF hS (ex_ibin rfl rfl rfl) rfl rfl fun a hF => ?_
  refine q_end (n_sq ?_)
  rcases hc1 : (decide (p_b < p_a)) with _ | _
  · have hr := cond_f hc1 hr
    refine q_cond_f hF rfl hc1 ?_
    refine q_skipc (n_sq ?_)
    refine q_seq ?_
    refine q_region ?_
    refine q_x (v := (.int .i64 p_b)) hF hS (ex_move rfl) rfl rfl fun a hF => ?_
    refine q_x (v := (.int .i64 p_b)) hF hS (ex_assign rfl) rfl rfl fun a hF => ?_
    refine q_end (n_sq (q_ret ?_))
    obtain rfl := someI hr
    exact ret_of hF hS rfl (.tmp rfl .nil) rfl
  · have hr := cond_t hc1 hr
    refine q_cond_t hF rfl hc1 ?_
    refine q_seq ?_
    refine q_region ?_
    refine q_x (v := (.int .i64 p_a)) hF hS (ex_move rfl) rfl rfl fun a hF => ?_
    refine q_x (v := (.int .i64 p_a)) hF hS (ex_assign rfl) rfl rfl fun a hF => ?_
    refine q_end (n_sq (q_ret (r_sq ?_)))
    obtain rfl := someI hr
    exact ret_of hF hS rfl (.tmp rfl .nil) rfl

theorem c_spec_l1Abs (p_n : Int) (r : Int) (hr : spec_l1Abs p_n = some r) (w0 : World) (m : Mem) (hv : Vis m w0) :
    Ret Try.prog 135 [(.int .i64 p_n)] w0 (fun v _ => v = (.int .i64 r)) := by
  unfold spec_l1Abs at hr
  refine ret_start Try.func135 rfl 7 rfl rfl m hv fun a hF hS => ?_
  refine q_seq ?_
  refine q_region ?_
  refine q_x (v := (.int .i64 0)) hF hS (ex_assign rfl) rfl rfl fun a hF => ?_
  refine q_end (n_sq ?_)
  refine q_seq ?_
  refine q_region ?_
  refine q_x (v := (.int .i64 p_n)) hF hS (ex_move rfl) rfl rfl fun a hF => ?_
  refine q_x (v := (.int .i64 p_n)) hF hS (ex_move rfl) rfl rfl fun a hF => ?_
  refine q_x (v := (.int .i64 (w64 (-p_n)))) hF hS (ex_neg rfl) rfl rfl fun a hF => ?_
  obtain ⟨t_1, ht_1, hr⟩ := bindS hr
  refine q_call (vs := [(.int .i64 p_n), (.int .i64 (w64 (-p_n)))]) hF hS Try.func149 (by kernel_rfl) rfl rfl rfl (c_spec_l1Most p_n (w64 (-p_n)) t_1 ht_1 _ m hS.vis) ?_
  rintro a w _ rfl hF hS
  refine q_x (v := (.int .i64 t_1)) hF hS (ex_assign rfl) rfl rfl fun a hF => ?_
  refine q_end (n_sq (q_ret ?_))
  obtain rfl := someI hr
  exact ret_of hF hS rfl (.tmp rfl .nil) rfl

theorem c_spec_fGcd (p_a : Int) (p_b : Int) (r : Int) (hr : spec_fGcd p_a p_b = some r) (w0 : World) (m : Mem) (hv : Vis m w0) :
    Ret Try.prog 141 [(.int .i64 p_a), (.int .i64 p_b)] w0 (fun v _ => v = (.int .i64 r)) := by
  unfold spec_fGcd at hr
  refine ret_start Try.func141 rfl 15 rfl rfl m hv fun a hF hS => ?_
  refine q_seq ?_
  refine q_region ?_
  refine q_x (v := (.int .i64 0)) hF hS (ex_assign rfl) rfl rfl fun a hF => ?_
  refine q_end (n_sq ?_)
  refine q_seq ?_
  refine q_block ?_
  obtain ⟨a_4, hl1, hr⟩ := bindS hr
  refine q_loop (fun (s : Int × Int) a w => ∃ a_1, ∃ b_2, s = (a_1, b_2) ∧ Fr a 15 [(0, (.int .i64 a_1)), (1, (.int .i64 b_2))] ∧ St [] w0 w m []) (fun (a_4 : Int) e a w => e = .exit 0 ∧ Fr a 15 [(0, (.int .i64 a_4))] ∧ St [] w0 w m []) hl1 ⟨_, _, rfl, hF.sub ⟨rfl, rfl, trivial⟩, hS⟩ ?_ ?_
  · clear hF hS
    rintro s a w st ⟨a_1, b_2, rfl, hF, hS⟩ hb1
    unfold spec_fGcd_l1 at hb1
    refine q_seq ?_
    refine q_seq ?_
    refine q_region ?_
    refine q_x (v := (.int .i64 b_2)) hF hS (ex_move rfl) rfl rfl fun a hF => ?_
    refine q_x (v := (.bool (b_2 != 0))) hF hS (ex_ibin rfl rfl rfl) rfl rfl fun a hF => ?_
    refine q_end (n_sq ?_)
    rcases hc2 : (b_2 != 0) with _ | _
    · have hb1 := cond_f hc2 hb1
      refine q_cond_f hF rfl hc2 ?_
      refine q_exit (x_sq ?_)
      obtain rfl := someI hb1
      exact ⟨nofun, .inl ⟨rfl, hF.sub ⟨rfl, trivial⟩, hS⟩⟩
    · have hb1 := cond_t hc2 hb1
      refine q_cond_t hF rfl hc2 ?_
      refine q_skipc (n_sq ?_)
      refine q_block ?_
      refine q_seq ?_
      refine q_region ?_
      refine q_x (v := (.int .i64 a_1)) hF hS (ex_move rfl) rfl rfl fun a hF => ?_
      refine q_x (v := (.int .i64 b_2)) hF hS (ex_move rfl) rfl rfl fun a hF => ?_
      obtain ⟨t_3, ht_3, hb1⟩ := bindS hb1
      refine q_x (v := (.int .i64 t_3)) hF hS (ex_rem rfl rfl ht_3) rfl rfl fun a hF => ?_
      refine q_x (v := (.int .i64 t_3)) hF hS (ex_assign rfl) rfl rfl fun a hF => ?_
      refine q_end (n_sq ?_)
      refine q_seq ?_
      refine q_region ?_
      refine q_x (v := (.int .i64 b_2)) hF hS (ex_move rfl) rfl rfl fun a hF => ?_
      refine q_x (v := (.int .i64 b_2)) hF hS (ex_assign rfl) rfl rfl fun a hF => ?_
      refine q_end (n_sq ?_)
      refine q_region ?_
      refine q_x (v := (.int .i64 t_3)) hF hS (ex_move rfl) rfl rfl fun a hF => ?_
      refine q_x (v := (.int .i64 t_3)) hF hS (ex_assign rfl) rfl rfl fun a hF => ?_
      refine q_end (n_ib ?_)
      obtain rfl := someI hb1
      exact ⟨rfl, _, _, rfl, hF.sub ⟨rfl, rfl, trivial⟩, hS⟩
  · rintro e a w ⟨rfl, hF, hS⟩
    refine x_ib (n_sq ?_)
    refine q_seq ?_
    refine q_region ?_
    refine q_x (v := (.int .i64 a_4)) hF hS (ex_move rfl) rfl rfl fun a hF => ?_
    obtain ⟨t_5, ht_5, hr⟩ := bindS hr
    refine q_call (vs := [(.int .i64 a_4)]) hF hS Try.func135 (by kernel_rfl) rfl rfl rfl (c_spec_l1Abs a_4 t_5 ht_5 _ m hS.vis) ?_
    rintro a w _ rfl hF hS
    refine q_x (v := (.int .i64 t_5)) hF hS (ex_assign rfl) rfl rfl fun a hF => ?_
    refine q_end (n_sq (q_ret ?_))
    obtain rfl := someI hr
    exact ret_of hF hS rfl (.tmp rfl .nil) rfl

theorem c_spec_fGood (p_f : impl_Frac) (r : Bool) (hr : spec_fGood p_f = some r) (w0 : World) (m : Mem) (hv : Vis m w0) :
    Ret Try.prog 94 [(.agg #[(.int .i64 p_f.Num), (.int .i64 p_f.Den)])] w0 (fun v _ => v = (.bool r)) := by
  unfold spec_fGood at hr
  refine ret_start Try.func94 rfl 19 rfl rfl m hv fun a hF hS => ?_
  refine q_seq ?_
  refine q_region ?_
  refine q_box (cs := [(.int .i64 p_f.Num), (.int .i64 p_f.Den)]) hF hS rfl rfl rfl fun a w b1 hF hS => ?_
  refine q_x (v := (.bool false)) hF hS (ex_assign rfl) rfl rfl fun a hF => ?_
  refine q_end (n_sq ?_)
  refine q_seq ?_
  obtain ⟨t_5, hj1, hr⟩ := bindS hr
  refine q_join (fun a w => Fr a 19 [(2, (.bool t_5))] ∧ St [] w0 w m []) ?_ ?_
  · refine q_region ?_
    refine q_x (v := (.pointer (some ⟨b1, 1, none⟩))) hF hS (ex_fieldAddr Try.underlying26 rfl sz3 rfl rfl) rfl rfl fun a hF => ?_
    refine q_x (v := (.int .i64 p_f.Den)) hF hS (ex_load1 0 0 Try.underlying3 rfl rfl rfl rfl) rfl rfl fun a hF => ?_
    obtain ⟨t_2, ht_2, hj1⟩ := bindS hj1
    refine q_call (vs := [(.int .i64 p_f.Den), (.int .i64 1), (.int .i64 1000000000)]) hF hS Try.func86 (by kernel_rfl) rfl rfl rfl (c_spec_l1In p_f.Den 1 1000000000 t_2 ht_2 _ m hS.vis) ?_
    rintro a w _ rfl hF hS
    refine q_x (v := (.bool t_2)) hF hS (ex_move rfl) rfl rfl fun a hF => ?_
    rcases hc2 : (t_2) with _ | _
    · have hj1 := cond_f hc2 hj1
      refine q_skip hF (wanted_f hF rfl rfl rfl hc2 rfl) rfl fun a hF => ?_
      refine q_skip hF (wanted_f hF rfl rfl rfl hc2 rfl) rfl fun a hF => ?_
      refine q_skip hF (wanted_f hF rfl rfl rfl hc2 rfl) rfl fun a hF => ?_
      refine q_x (v := (.bool false)) hF hS (ex_pick_f rfl rfl hc2) rfl rfl fun a hF => ?_
      refine q_x (v := (.bool false)) hF hS (ex_move rfl) rfl rfl fun a hF => ?_
      refine q_skip hF (wanted_f hF rfl rfl rfl rfl rfl) rfl fun a hF => ?_
      refine q_skip hF (wanted_f hF rfl rfl rfl rfl rfl) rfl fun a hF => ?_
      refine q_skip hF (wanted_f hF rfl rfl rfl rfl rfl) rfl fun a hF => ?_
      refine q_skip hF (wanted_f hF rfl rfl rfl rfl rfl) rfl fun a hF => ?_
      refine q_skip hF (wanted_f hF rfl rfl rfl rfl rfl) rfl fun a hF => ?_
      refine q_skip hF (wanted_f hF rfl rfl rfl rfl rfl) rfl fun a hF => ?_
      refine q_x (v := (.bool false)) hF hS (ex_pick_f rfl rfl rfl) rfl rfl fun a hF => ?_
      refine q_x (v := (.bool false)) hF hS (ex_assign rfl) rfl rfl fun a hF => ?_
      refine q_end (n_jn ?_)
      obtain rfl := someI hj1
      exact ⟨hF.sub ⟨rfl, trivial⟩, hS.mask [false]⟩
    · have hj1 := cond_t hc2 hj1
      refine q_xg (v := (.pointer (some ⟨b1, 0, none⟩))) hF hS (ex_fieldAddr Try.underlying26 rfl sz3 rfl rfl) (wanted_t hF rfl rfl rfl hc2) rfl fun a hF => ?_
      refine q_xg (v := (.int .i64 p_f.Num)) hF hS (ex_load1 0 0 Try.underlying3 rfl rfl rfl rfl) (wanted_t hF rfl rfl rfl hc2) rfl fun a hF => ?_
      obtain ⟨t_3, ht_3, hj1⟩ := bindS hj1
      refine q_callg (vs := [(.int .i64 p_f.Num), (.int .i64 (-1000000000)), (.int .i64 1000000000)]) hF hS (wanted_t hF rfl rfl rfl hc2) Try.func86 (by kernel_rfl) rfl rfl rfl (c_spec_l1In p_f.Num (-1000000000) 1000000000 t_3 ht_3 _ m hS.vis) ?_
      rintro a w _ rfl hF hS
      refine q_x (v := (.bool t_3)) hF hS (ex_pick_t rfl rfl hc2) rfl rfl fun a hF => ?_
      refine q_x (v := (.bool t_3)) hF hS (ex_move rfl) rfl rfl fun a hF => ?_
      rcases hc3 : (t_3) with _ | _
      · have hj1 := cond_f hc3 hj1
        refine q_skip hF (wanted_f hF rfl rfl rfl hc3 rfl) rfl fun a hF => ?_
        refine q_skip hF (wanted_f hF rfl rfl rfl hc3 rfl) rfl fun a hF => ?_
        refine q_skip hF (wanted_f hF rfl rfl rfl hc3 rfl) rfl fun a hF => ?_
        refine q_skip hF (wanted_f hF rfl rfl rfl hc3 rfl) rfl fun a hF => ?_
        refine q_skip hF (wanted_f hF rfl rfl rfl hc3 rfl) rfl fun a hF => ?_
        refine q_skip hF (wanted_f hF rfl rfl rfl hc3 rfl) rfl fun a hF => ?_
        refine q_x (v := (.bool false)) hF hS (ex_pick_f rfl rfl hc3) rfl rfl fun a hF => ?_
        refine q_x (v := (.bool false)) hF hS (ex_assign rfl) rfl rfl fun a hF => ?_
        refine q_end (n_jn ?_)
        obtain rfl := someI hj1
        exact ⟨hF.sub ⟨rfl, trivial⟩, hS.mask [false]⟩
      · have hj1 := cond_t hc3 hj1
        refine q_xg (v := (.pointer (some ⟨b1, 0, none⟩))) hF hS (ex_fieldAddr Try.underlying26 rfl sz3 rfl rfl) (wanted_t hF rfl rfl rfl hc3) rfl fun a hF => ?_
        refine q_xg (v := (.int .i64 p_f.Num)) hF hS (ex_load1 0 0 Try.underlying3 rfl rfl rfl rfl) (wanted_t hF rfl rfl rfl hc3) rfl fun a hF => ?_
        refine q_xg (v := (.pointer (some ⟨b1, 1, none⟩))) hF hS (ex_fieldAddr Try.underlying26 rfl sz3 rfl rfl) (wanted_t hF rfl rfl rfl hc3) rfl fun a hF => ?_
        refine q_xg (v := (.int .i64 p_f.Den)) hF hS (ex_load1 0 0 Try.underlying3 rfl rfl rfl rfl) (wanted_t hF rfl rfl rfl hc3) rfl fun a hF => ?_
        obtain ⟨t_4, ht_4, hj1⟩ := bindS hj1
        refine q_callg (vs := [(.int .i64 p_f.Num), (.int .i64 p_f.Den)]) hF hS (wanted_t hF rfl rfl rfl hc3) Try.func141 (by kernel_rfl) rfl rfl rfl (c_spec_fGcd p_f.Num p_f.Den t_4 ht_4 _ m hS.vis) ?_
        rintro a w _ rfl hF hS
        refine q_xg (v := (.bool (t_4 == 1))) hF hS (ex_ibin rfl rfl rfl) (wanted_t hF rfl rfl rfl hc3) rfl fun a hF => ?_
        refine q_x (v := (.bool (t_4 == 1))) hF hS (ex_pick_t rfl rfl hc3) rfl rfl fun a hF => ?_
        refine q_x (v := (.bool (t_4 == 1))) hF hS (ex_assign rfl) rfl rfl fun a hF => ?_
        refine q_end (n_jn ?_)
        obtain rfl := someI hj1
        exact ⟨hF.sub ⟨rfl, trivial⟩, hS.mask [false]⟩
  · rintro a w ⟨hF, hS⟩
    refine n_sq (q_ret ?_)
    obtain rfl := someI hr
    exact ret_of hF hS rfl (.tmp rfl .nil) rfl

theorem c_spec_fInt (p_n : Int) (r : impl_Frac) (hr : spec_fInt p_n = some r) (w0 : World) (m : Mem) (hv : Vis m w0) :
    Ret Try.prog 97 [(.int .i64 p_n)] w0 (fun v _ => v = (.agg #[(.int .i64 r.Num), (.int .i64 r.Den)])) := by
  unfold spec_fInt at hr
  refine ret_start Try.func97 rfl 5 rfl rfl m hv fun a hF hS => ?_
  refine q_seq ?_
  refine q_region ?_
  refine q_alloc (cs := [(.int .i64 0), (.int .i64 0)]) hF hS rfl rfl rfl fun a w b1 hF hS => ?_
  refine q_end (n_sq ?_)
  refine q_seq ?_
  refine q_region ?_
  refine q_x (v := (.int .i64 p_n)) hF hS (ex_move rfl) rfl rfl fun a hF => ?_
  refine q_x (v := (.agg #[(.int .i64 p_n), (.int .i64 1)])) hF hS (ex_build (cells := [(.int .i64 p_n), (.int .i64 1)]) rfl (by kernel_rfl)) rfl rfl fun a hF => ?_
  refine q_store (vs := [(.int .i64 p_n), (.int .i64 1)]) (cs' := [(.int .i64 p_n), (.int .i64 1)]) 0 0 hF hS sz26 rfl rfl rfl rfl rfl rfl rfl rfl fun a w hF hS => ?_
  refine q_end (n_sq (q_ret ?_))
  obtain rfl := someI hr
  exact ret_of hF hS rfl (.cellA (us := [(.int .i64 p_n), (.int .i64 1)]) 0 0 Try.underlying26 rfl sz26 rfl rfl rfl rfl .nil) rfl

theorem c_spec_fMake (p_n : Int) (p_d : Int) (r : impl_Frac × Bool) (hr : spec_fMake p_n p_d = some r) (w0 : World) (m : Mem) (hv : Vis m w0) :
    Ret Try.prog 104 [(.int .i64 p_n), (.int .i64 p_d)] w0 (fun v _ => v = (.tuple #[(.agg #[(.int .i64 r.1.Num), (.int .i64 r.1.Den)]), (.bool r.2)])) := by
  unfold spec_fMake at hr
  refine ret_start Try.func104 rfl 30 rfl rfl m hv fun a hF hS => ?_
  refine q_seq ?_
  refine q_region ?_
  refine q_alloc (cs := [(.int .i64 0), (.int .i64 0)]) hF hS rfl rfl rfl fun a w b1 hF hS => ?_
  refine q_x (v := (.bool false)) hF hS (ex_assign rfl) rfl rfl fun a hF => ?_
  refine q_end (n_sq ?_)
  refine q_seq ?_
  refine q_seq ?_
  refine q_region ?_
  refine q_x (v := (.int .i64 p_d)) hF hS (ex_move rfl) rfl rfl fun a hF => ?_
  refine q_x (v := (.bool (p_d == 0))) hF hS (ex_ibin rfl rfl rfl) rfl rfl fun a hF => ?_
  refine q_end (n_sq ?_)
  rcases hc1 : (p_d == 0) with _ | _
  · have hr := cond_f hc1 hr
    refine q_cond_f hF rfl hc1 ?_
    refine q_skipc (n_sq ?_)
    refine q_seq ?_
    refine q_region ?_
    refine q_x (v := (.int .i64 p_n)) hF hS (ex_move rfl) rfl rfl fun a hF => ?_
    refine q_x (v := (.int .i64 p_d)) hF hS (ex_move rfl) rfl rfl fun a hF => ?_
    obtain ⟨t_2, ht_2, hr⟩ := bindS hr
    refine q_call (vs := [(.int .i64 p_n), (.int .i64 p_d)]) hF hS Try.func141 (by kernel_rfl) rfl rfl rfl (c_spec_fGcd p_n p_d t_2 ht_2 _ m hS.vis) ?_
    rintro a w _ rfl hF hS
    refine q_x (v := (.int .i64 t_2)) hF hS (ex_assign rfl) rfl rfl fun a hF => ?_
    refine q_end (n_sq ?_)
    refine q_seq ?_
    refine q_seq ?_
    refine q_region ?_
    refine q_x (v := (.int .i64 p_d)) hF hS (ex_move rfl) rfl rfl fun a hF => ?_
    refine q_x (v := (.bool (decide (p_d < 0)))) hF hS (ex_ibin rfl rfl rfl) rfl rfl fun a hF => ?_
    refine q_end (n_sq ?_)
    obtain ⟨g_3, hj2, hr⟩ := bindS hr
    refine q_join (fun a w => Fr a 30 [(0, (.int .i64 p_n)), (1, (.int .i64 p_d)), (4, (.pointer (some ⟨b1, 0, none⟩))), (6, (.int .i64 g_3))] ∧ St [] w0 w m [[⟨b1, [(.int .i64 0), (.int .i64 0)], 26⟩]]) ?_ ?_
    · rcases hc3 : (decide (p_d < 0)) with _ | _
      · have hj2 := cond_f hc3 hj2
        refine q_cond_f hF rfl hc3 ?_
        refine q_skipc (n_jn ?_)
        obtain rfl := someI hj2
        exact ⟨hF.sub ⟨rfl, rfl, rfl, rfl, trivial⟩, hS⟩
      · have hj2 := cond_t hc3 hj2
        refine q_cond_t hF rfl hc3 ?_
        refine q_region ?_
        refine q_x (v := (.int .i64 t_2)) hF hS (ex_move rfl) rfl rfl fun a hF => ?_
        refine q_x (v := (.int .i64 (w64 (-t_2)))) hF hS (ex_neg rfl) rfl rfl fun a hF => ?_
        refine q_x (v := (.int .i64 (w64 (-t_2)))) hF hS (ex_assign rfl) rfl rfl fun a hF => ?_
        refine q_end (n_jn ?_)
        obtain rfl := someI hj2
        exact ⟨hF.sub ⟨rfl, rfl, rfl, rfl, trivial⟩, hS⟩
    · rintro a w ⟨hF, hS⟩
      refine n_sq ?_
      refine q_seq ?_
      refine e_region [8] mixed fun w' hw' => ?_
      have hS := hS.below hw'
      refine e_p (v := (.int .i64 p_n)) 0 hF rfl (ex_move rfl) rfl rfl (by kernel_rfl) (by kernel_rfl) (by kernel_rfl) fun a hF => ?_
      refine e_p (v := (.int .i64 g_3)) 1 hF rfl (ex_move rfl) rfl rfl (by kernel_rfl) (by kernel_rfl) (by kernel_rfl) fun a hF => ?_
      obtain ⟨t_4, ht_4, hr⟩ := bindS hr
      refine e_p (v := (.int .i64 t_4)) 2 hF rfl (ex_quo rfl rfl ht_4) rfl rfl (by kernel_rfl) (by kernel_rfl) (by kernel_rfl) fun a hF => ?_
      refine e_p (v := (.int .i64 p_d)) 3 hF rfl (ex_move rfl) rfl rfl (by kernel_rfl) (by kernel_rfl) (by kernel_rfl) fun a hF => ?_
      refine e_p (v := (.int .i64 g_3)) 4 hF rfl (ex_move rfl) rfl rfl (by kernel_rfl) (by kernel_rfl) (by kernel_rfl) fun a hF => ?_
      obtain ⟨t_5, ht_5, hr⟩ := bindS hr
      refine e_p (v := (.int .i64 t_5)) 5 hF rfl (ex_quo rfl rfl ht_5) rfl rfl (by kernel_rfl) (by kernel_rfl) (by kernel_rfl) fun a hF => ?_
      refine e_p (v := (.agg #[(.int .i64 t_4), (.int .i64 t_5)])) 6 hF rfl (ex_build (cells := [(.int .i64 t_4), (.int .i64 t_5)]) rfl (by kernel_rfl)) rfl rfl (by kernel_rfl) (by kernel_rfl) (by kernel_rfl) fun a hF => ?_
      refine e_one 7 (by kernel_rfl) ?_
      refine e_alloc (cs := [(.int .i64 0), (.int .i64 0)]) hF hS rfl rfl rfl rfl fun a w b6 hF hS => ?_
      refine e_one 8 (by kernel_rfl) ?_
      refine e_store (vs := [(.int .i64 t_4), (.int .i64 t_5)]) (cs' := [(.int .i64 t_4), (.int .i64 t_5)]) 0 0 hF hS rfl rfl sz26 rfl rfl rfl rfl rfl rfl rfl rfl fun a w hF hS => ?_
      refine e_end (by kernel_rfl) (n_sq ?_) _
      refine q_seq ?_
      refine q_seq ?_
      refine q_region ?_
      refine q_x (v := (.agg #[(.int .i64 t_4), (.int .i64 t_5)])) hF hS (ex_loadA (vs := [(.int .i64 t_4), (.int .i64 t_5)]) 0 0 Try.underlying26 rfl sz26 rfl rfl rfl rfl) rfl rfl fun a hF => ?_
      obtain ⟨t_7, ht_7, hr⟩ := bindS hr
      refine q_call (vs := [(.agg #[(.int .i64 t_4), (.int .i64 t_5)])]) hF hS Try.func94 (by kernel_rfl) rfl rfl rfl (c_spec_fGood (impl_Frac.mk t_4 t_5) t_7 ht_7 _ m hS.vis) ?_
      rintro a w _ rfl hF hS
      refine q_x (v := (.bool (!t_7))) hF hS (ex_not rfl) rfl rfl fun a hF => ?_
      refine q_end (n_sq ?_)
      rcases hc4 : (!t_7) with _ | _
      · have hr := cond_f hc4 hr
        refine q_cond_f hF rfl hc4 ?_
        refine q_skipc (n_sq ?_)
        refine q_seq ?_
        refine q_region ?_
        refine q_x (v := (.agg #[(.int .i64 t_4), (.int .i64 t_5)])) hF hS (ex_loadA (vs := [(.int .i64 t_4), (.int .i64 t_5)]) 0 0 Try.underlying26 rfl sz26 rfl rfl rfl rfl) rfl rfl fun a hF => ?_
        refine q_store (vs := [(.int .i64 t_4), (.int .i64 t_5)]) (cs' := [(.int .i64 t_4), (.int .i64 t_5)]) 1 0 hF hS sz26 rfl rfl rfl rfl rfl rfl rfl rfl fun a w hF hS => ?_
        refine q_x (v := (.bool true)) hF hS (ex_assign rfl) rfl rfl fun a hF => ?_
        refine q_end (n_sq (q_ret ?_))
        obtain rfl := someI hr
        exact ret_of hF hS rfl (.cellA (us := [(.int .i64 t_4), (.int .i64 t_5)]) 1 0 Try.underlying26 rfl sz26 rfl rfl rfl rfl (.tmp rfl .nil)) rfl
      · have hr := cond_t hc4 hr
        refine q_cond_t hF rfl hc4 ?_
        refine q_seq ?_
        refine q_region ?_
        refine q_x (v := (.agg #[(.int .i64 0), (.int .i64 0)])) hF hS (ex_build (cells := [(.int .i64 0), (.int .i64 0)]) rfl (by kernel_rfl)) rfl rfl fun a hF => ?_
        refine q_store (vs := [(.int .i64 0), (.int .i64 0)]) (cs' := [(.int .i64 0), (.int .i64 0)]) 1 0 hF hS sz26 rfl rfl rfl rfl rfl rfl rfl rfl fun a w hF hS => ?_
        refine q_x (v := (.bool false)) hF hS (ex_assign rfl) rfl rfl fun a hF => ?_
        refine q_end (n_sq (q_ret (r_sq ?_)))
        obtain rfl := someI hr
        exact ret_of hF hS rfl (.cellA (us := [(.int .i64 0), (.int .i64 0)]) 1 0 Try.underlying26 rfl sz26 rfl rfl rfl rfl (.tmp rfl .nil)) rfl
  · have hr := cond_t hc1 hr
    refine q_cond_t hF rfl hc1 ?_
    refine q_seq ?_
    refine q_region ?_
    refine q_x (v := (.agg #[(.int .i64 0), (.int .i64 0)])) hF hS (ex_build (cells := [(.int .i64 0), (.int .i64 0)]) rfl (by kernel_rfl)) rfl rfl fun a hF => ?_
    refine q_store (vs := [(.int .i64 0), (.int .i64 0)]) (cs' := [(.int .i64 0), (.int .i64 0)]) 0 0 hF hS sz26 rfl rfl rfl rfl rfl rfl rfl rfl fun a w hF hS => ?_
    refine q_x (v := (.bool false)) hF hS (ex_assign rfl) rfl rfl fun a hF => ?_
    refine q_end (n_sq (q_ret (r_sq ?_)))
    obtain rfl := someI hr
    exact ret_of hF hS rfl (.cellA (us := [(.int .i64 0), (.int .i64 0)]) 0 0 Try.underlying26 rfl sz26 rfl rfl rfl rfl (.tmp rfl .nil)) rfl

theorem c_spec_fAdd (p_a : impl_Frac) (p_b : impl_Frac) (r : impl_Frac × Bool) (hr : spec_fAdd p_a p_b = some r) (w0 : World) (m : Mem) (hv : Vis m w0) :
    Ret Try.prog 120 [(.agg #[(.int .i64 p_a.Num), (.int .i64 p_a.Den)]), (.agg #[(.int .i64 p_b.Num), (.int .i64 p_b.Den)])] w0 (fun v _ => v = (.tuple #[(.agg #[(.int .i64 r.1.Num), (.int .i64 r.1.Den)]), (.bool r.2)])) := by
  unfold spec_fAdd at hr
  refine ret_start Try.func120 rfl 25 rfl rfl m hv fun a hF hS => ?_
  refine q_seq ?_
  refine q_region ?_
  refine q_box (cs := [(.int .i64 p_a.Num), (.int .i64 p_a.Den)]) hF hS rfl rfl rfl fun a w b1 hF hS => ?_
  refine q_box (cs := [(.int .i64 p_b.Num), (.int .i64 p_b.Den)]) hF hS rfl rfl rfl fun a w b2 hF hS => ?_
  refine q_alloc (cs := [(.int .i64 0), (.int .i64 0)]) hF hS rfl rfl rfl fun a w b3 hF hS => ?_
  refine q_x (v := (.bool false)) hF hS (ex_assign rfl) rfl rfl fun a hF => ?_
  refine q_end (n_sq ?_)
  refine q_seq ?_
  refine q_region ?_
  refine q_x (v := (.pointer (some ⟨b1, 0, none⟩))) hF hS (ex_fieldAddr Try.underlying26 rfl sz3 rfl rfl) rfl rfl fun a hF => ?_
  refine q_x (v := (.int .i64 p_a.Num)) hF hS (ex_load1 2 0 Try.underlying3 rfl rfl rfl rfl) rfl rfl fun a hF => ?_
  refine q_x (v := (.pointer (some ⟨b2, 1, none⟩))) hF hS (ex_fieldAddr Try.underlying26 rfl sz3 rfl rfl) rfl rfl fun a hF => ?_
  refine q_x (v := (.int .i64 p_b.Den)) hF hS (ex_load1 1 0 Try.underlying3 rfl rfl rfl rfl) rfl rfl fun a hF => ?_
  refine q_x (v := (.int .i64 (w64 (p_a.Num * p_b.Den)))) hF hS (ex_ibin rfl rfl rfl) rfl rfl fun a hF => ?_
  refine q_x (v := (.pointer (some ⟨b2, 0, none⟩))) hF hS (ex_fieldAddr Try.underlying26 rfl sz3 rfl rfl) rfl rfl fun a hF => ?_
  refine q_x (v := (.int .i64 p_b.Num)) hF hS (ex_load1 1 0 Try.underlying3 rfl rfl rfl rfl) rfl rfl fun a hF => ?_
  refine q_x (v := (.pointer (some ⟨b1, 1, none⟩))) hF hS (ex_fieldAddr Try.underlying26 rfl sz3 rfl rfl) rfl rfl fun a hF => ?_
  refine q_x (v := (.int .i64 p_a.Den)) hF hS (ex_load1 2 0 Try.underlying3 rfl rfl rfl rfl) rfl rfl fun a hF => ?_
  refine q_x (v := (.int .i64 (w64 (p_b.Num * p_a.Den)))) hF hS (ex_ibin rfl rfl rfl) rfl rfl fun a hF => ?_
  refine q_x (v := (.int .i64 (w64 ((w64 (p_a.Num * p_b.Den)) + (w64 (p_b.Num * p_a.Den)))))) hF hS (ex_ibin rfl rfl rfl) rfl rfl fun a hF => ?_
  refine q_x (v := (.pointer (some ⟨b1, 1, none⟩))) hF hS (ex_fieldAddr Try.underlying26 rfl sz3 rfl rfl) rfl rfl fun a hF => ?_
  refine q_x (v := (.int .i64 p_a.Den)) hF hS (ex_load1 2 0 Try.underlying3 rfl rfl rfl rfl) rfl rfl fun a hF => ?_
  refine q_x (v := (.pointer (some ⟨b2, 1, none⟩))) hF hS (ex_fieldAddr Try.underlying26 rfl sz3 rfl rfl) rfl rfl fun a hF => ?_
  refine q_x (v := (.int .i64 p_b.Den)) hF hS (ex_load1 1 0 Try.underlying3 rfl rfl rfl rfl) rfl rfl fun a hF => ?_
  refine q_x (v := (.int .i64 (w64 (p_a.Den * p_b.Den)))) hF hS (ex_ibin rfl rfl rfl) rfl rfl fun a hF => ?_
  obtain ⟨t_4, ht_4, hr⟩ := bindS hr
  refine q_call (vs := [(.int .i64 (w64 ((w64 (p_a.Num * p_b.Den)) + (w64 (p_b.Num * p_a.Den))))), (.int .i64 (w64 (p_a.Den * p_b.Den)))]) hF hS Try.func104 (by kernel_rfl) rfl rfl rfl (c_spec_fMake (w64 ((w64 (p_a.Num * p_b.Den)) + (w64 (p_b.Num * p_a.Den)))) (w64 (p_a.Den * p_b.Den)) t_4 ht_4 _ m hS.vis) ?_
  rintro a w _ rfl hF hS
  refine q_x (v := (.agg #[(.int .i64 t_4.1.Num), (.int .i64 t_4.1.Den)])) hF hS (ex_extract rfl rfl) rfl rfl fun a hF => ?_
  refine q_x (v := (.bool t_4.2)) hF hS (ex_extract rfl rfl) rfl rfl fun a hF => ?_
  refine q_store (vs := [(.int .i64 t_4.1.Num), (.int .i64 t_4.1.Den)]) (cs' := [(.int .i64 t_4.1.Num), (.int .i64 t_4.1.Den)]) 0 0 hF hS sz26 rfl rfl rfl rfl rfl rfl rfl rfl fun a w hF hS => ?_
  refine q_x (v := (.bool t_4.2)) hF hS (ex_assign rfl) rfl rfl fun a hF => ?_
  refine q_end (n_sq (q_ret ?_))
  obtain rfl := someI hr
  exact ret_of hF hS rfl (.cellA (us := [(.int .i64 t_4.1.Num), (.int .i64 t_4.1.Den)]) 0 0 Try.underlying26 rfl sz26 rfl rfl rfl rfl (.tmp rfl .nil)) rfl

theorem c_spec_fSum (p_l : List impl_Frac) (r : impl_Frac × Bool) (hr : spec_fSum p_l = some r) (w0 : World) (m : Mem) (hv : Vis m w0) (s1 : Sl) (h1 : Rd m s1 p_l) :
    Ret Try.prog 151 [s1.v] w0 (fun v _ => v = (.tuple #[(.agg #[(.int .i64 r.1.Num), (.int .i64 r.1.Den)]), (.bool r.2)])) := by
  unfold spec_fSum at hr
  refine ret_start Try.func151 rfl 28 rfl rfl m hv fun a hF hS => ?_
  refine q_seq ?_
  refine q_region ?_
  refine q_alloc (cs := [(.int .i64 0), (.int .i64 0)]) hF hS rfl rfl rfl fun a w b2 hF hS => ?_
  refine q_x (v := (.bool false)) hF hS (ex_assign rfl) rfl rfl fun a hF => ?_
  refine q_end (n_sq ?_)
  refine q_seq ?_
  refine q_region ?_
  obtain ⟨t_3, ht_3, hr⟩ := bindS hr
  refine q_call (vs := [(.int .i64 0)]) hF hS Try.func97 (by kernel_rfl) rfl rfl rfl (c_spec_fInt 0 t_3 ht_3 _ m hS.vis) ?_
  rintro a w _ rfl hF hS
  refine q_alloc (cs := [(.int .i64 0), (.int .i64 0)]) hF hS rfl rfl rfl fun a w b4 hF hS => ?_
  refine q_store (vs := [(.int .i64 t_3.Num), (.int .i64 t_3.Den)]) (cs' := [(.int .i64 t_3.Num), (.int .i64 t_3.Den)]) 0 0 hF hS sz26 rfl rfl rfl rfl rfl rfl rfl rfl fun a w hF hS => ?_
  refine q_end (n_sq ?_)
  refine q_seq ?_
  refine q_seq ?_
  refine q_region ?_
  refine q_x (v := s1.v) hF hS (ex_move rfl) rfl rfl fun a hF => ?_
  refine q_x (v := (.int .i64 (goLen p_l))) hF hS (ex_len Try.underlying51 rfl h1.len) rfl rfl fun a hF => ?_
  refine q_x (v := (.int .i64 0)) hF hS (ex_move rfl) rfl rfl fun a hF => ?_
  refine q_end (n_sq ?_)
  refine q_block ?_
  obtain ⟨o1, hl1, hr⟩ := bindS hr
  refine q_loop (fun (s : Int × impl_Frac) a w => ∃ t_5, ∃ out_6, s = (t_5, out_6) ∧ Fr a 28 [(2, (.pointer (some ⟨b2, 0, none⟩))), (4, (.pointer (some ⟨b4, 0, none⟩))), (10, s1.v), (11, (.int .i64 (goLen p_l))), (12, (.int .i64 t_5))] ∧ St [] w0 w m [[⟨b4, [(.int .i64 out_6.Num), (.int .i64 out_6.Den)], 26⟩], [⟨b2, [(.int .i64 0), (.int .i64 0)], 26⟩]]) (fun (o : (impl_Frac) ⊕ (impl_Frac × Bool)) e a w => ∃ out_12, o = .inl out_12 ∧ e = .exit 0 ∧ Fr a 28 [(2, (.pointer (some ⟨b2, 0, none⟩))), (4, (.pointer (some ⟨b4, 0, none⟩)))] ∧ St [] w0 w m [[⟨b4, [(.int .i64 out_12.Num), (.int .i64 out_12.Den)], 26⟩], [⟨b2, [(.int .i64 0), (.int .i64 0)], 26⟩]]) hl1 ⟨_, _, rfl, hF.sub ⟨rfl, rfl, rfl, rfl, rfl, trivial⟩, hS⟩ ?_ ?_
  · clear hF hS
    rintro s a w st ⟨t_5, out_6, rfl, hF, hS⟩ hb1
    unfold spec_fSum_l1 at hb1
    refine q_seq ?_
    refine q_region ?_
    refine q_x (v := (.bool (decide (t_5 < (goLen p_l))))) hF hS (ex_ibin rfl rfl rfl) rfl rfl fun a hF => ?_
    refine q_end (n_sq ?_)
    refine q_seq ?_
    rcases hc2 : (decide (t_5 < (goLen p_l))) with _ | _
    · have hb1 := cond_f hc2 hb1
      refine q_cond_f hF rfl hc2 ?_
      refine q_exit (x_sq ?_)
      obtain rfl := someI hb1
      exact ⟨nofun, .inl ⟨_, rfl, rfl, hF.sub ⟨rfl, rfl, trivial⟩, hS⟩⟩
    · have hb1 := cond_t hc2 hb1
      refine q_cond_t hF rfl hc2 ?_
      refine q_skipc (n_sq ?_)
      refine q_seq ?_
      refine q_block ?_
      refine q_seq ?_
      refine q_region ?_
      obtain ⟨e_7, he_7, hb1⟩ := bindS hb1
      obtain ⟨vs8, at8, d8⟩ := h1.at he_7 2 rfl
      obtain rfl : vs8 = [(.int .i64 e_7.Num), (.int .i64 e_7.Den)] := d8
      refine q_x (v := (elP s1 (t_5.toNat * 2))) hF hS (ex_indexAddr Try.underlying51 sz26 rfl rfl (h1.idx he_7)) rfl rfl fun a hF => ?_
      refine q_x (v := (.agg #[(.int .i64 e_7.Num), (.int .i64 e_7.Den)])) hF hS (ex_loadEA (us := [(.int .i64 e_7.Num), (.int .i64 e_7.Den)]) 0 Try.underlying26 rfl sz26 rfl ((at8).at) rfl rfl rfl) rfl rfl fun a hF => ?_
      refine q_alloc (cs := [(.int .i64 0), (.int .i64 0)]) hF hS rfl rfl rfl fun a w b9 hF hS => ?_
      refine q_store (vs := [(.int .i64 e_7.Num), (.int .i64 e_7.Den)]) (cs' := [(.int .i64 e_7.Num), (.int .i64 e_7.Den)]) 0 0 hF hS sz26 rfl rfl rfl rfl rfl rfl rfl rfl fun a w hF hS => ?_
      refine q_end (n_sq ?_)
      refine q_seq ?_
      refine q_region ?_
      refine q_x (v := (.agg #[(.int .i64 out_6.Num), (.int .i64 out_6.Den)])) hF hS (ex_loadA (vs := [(.int .i64 out_6.Num), (.int .i64 out_6.Den)]) 1 0 Try.underlying26 rfl sz26 rfl rfl rfl rfl) rfl rfl fun a hF => ?_
      refine q_x (v := (.agg #[(.int .i64 e_7.Num), (.int .i64 e_7.Den)])) hF hS (ex_loadA (vs := [(.int .i64 e_7.Num), (.int .i64 e_7.Den)]) 0 0 Try.underlying26 rfl sz26 rfl rfl rfl rfl) rfl rfl fun a hF => ?_
      obtain ⟨t_10, ht_10, hb1⟩ := bindS hb1
      refine q_call (vs := [(.agg #[(.int .i64 out_6.Num), (.int .i64 out_6.Den)]), (.agg #[(.int .i64 e_7.Num), (.int .i64 e_7.Den)])]) hF hS Try.func120 (by kernel_rfl) rfl rfl rfl (c_spec_fAdd out_6 e_7 t_10 ht_10 _ m hS.vis) ?_
      rintro a w _ rfl hF hS
      refine q_x (v := (.tuple #[(.agg #[(.int .i64 t_10.1.Num), (.int .i64 t_10.1.Den)]), (.bool t_10.2)])) hF hS (ex_move rfl) rfl rfl fun a hF => ?_
      refine q_x (v := (.agg #[(.int .i64 t_10.1.Num), (.int .i64 t_10.1.Den)])) hF hS (ex_extract rfl rfl) rfl rfl fun a hF => ?_
      refine q_x (v := (.bool t_10.2)) hF hS (ex_extract rfl rfl) rfl rfl fun a hF => ?_
      refine q_alloc (cs := [(.int .i64 0), (.int .i64 0)]) hF hS rfl rfl rfl fun a w b11 hF hS => ?_
      refine q_store (vs := [(.int .i64 t_10.1.Num), (.int .i64 t_10.1.Den)]) (cs' := [(.int .i64 t_10.1.Num), (.int .i64 t_10.1.Den)]) 0 0 hF hS sz26 rfl rfl rfl rfl rfl rfl rfl rfl fun a w hF hS => ?_
      refine q_x (v := (.bool t_10.2)) hF hS (ex_assign rfl) rfl rfl fun a hF => ?_
      refine q_end (n_sq ?_)
      refine q_seq ?_
      refine q_seq ?_
      refine q_region ?_
      refine q_x (v := (.bool t_10.2)) hF hS (ex_move rfl) rfl rfl fun a hF => ?_
      refine q_x (v := (.bool (!t_10.2))) hF hS (ex_not rfl) rfl rfl fun a hF => ?_
      refine q_end (n_sq ?_)
      rcases hc3 : (!t_10.2) with _ | _
      · have hb1 := cond_f hc3 hb1
        refine q_cond_f hF rfl hc3 ?_
        refine q_skipc (n_sq ?_)
        refine q_region ?_
        refine q_x (v := (.agg #[(.int .i64 t_10.1.Num), (.int .i64 t_10.1.Den)])) hF hS (ex_loadA (vs := [(.int .i64 t_10.1.Num), (.int .i64 t_10.1.Den)]) 0 0 Try.underlying26 rfl sz26 rfl rfl rfl rfl) rfl rfl fun a hF => ?_
        refine q_store (vs := [(.int .i64 t_10.1.Num), (.int .i64 t_10.1.Den)]) (cs' := [(.int .i64 t_10.1.Num), (.int .i64 t_10.1.Den)]) 2 0 hF hS sz26 rfl rfl rfl rfl rfl rfl rfl rfl fun a w hF hS => ?_
        refine q_end (n_ib (n_sq ?_))
        refine q_region ?_
        refine q_x (v := (.int .i64 (w64 (t_5 + 1)))) hF hS (ex_ibin rfl rfl rfl) rfl rfl fun a hF => ?_
        refine q_x (v := (.int .i64 (w64 (t_5 + 1)))) hF hS (ex_move rfl) rfl rfl fun a hF => ?_
        refine q_end ?_
        obtain rfl := someI hb1
        exact ⟨rfl, _, _, rfl, hF.sub ⟨rfl, rfl, rfl, rfl, rfl, trivial⟩, hS.mask [false, false, true, true]⟩
      · have hb1 := cond_t hc3 hb1
        refine q_cond_t hF rfl hc3 ?_
        refine q_seq ?_
        refine q_region ?_
        refine q_x (v := (.agg #[(.int .i64 0), (.int .i64 0)])) hF hS (ex_build (cells := [(.int .i64 0), (.int .i64 0)]) rfl (by kernel_rfl)) rfl rfl fun a hF => ?_
        refine q_store (vs := [(.int .i64 0), (.int .i64 0)]) (cs' := [(.int .i64 0), (.int .i64 0)]) 3 0 hF hS sz26 rfl rfl rfl rfl rfl rfl rfl rfl fun a w hF hS => ?_
        refine q_x (v := (.bool false)) hF hS (ex_assign rfl) rfl rfl fun a hF => ?_
        refine q_end (n_sq (q_ret (r_sq (r_ib (r_sq ?_)))))
        obtain rfl := someI hb1
        refine ⟨nofun, .inr fun ho => ?_⟩
        subst ho
        refine r_ib (r_sq ?_)
        obtain rfl := someI hr
        exact ret_of hF hS rfl (.cellA (us := [(.int .i64 0), (.int .i64 0)]) 3 0 Try.underlying26 rfl sz26 rfl rfl rfl rfl (.tmp rfl .nil)) rfl
  · rintro e a w ⟨out_12, rfl, rfl, hF, hS⟩
    refine x_ib (n_sq ?_)
    refine q_seq ?_
    refine q_region ?_
    refine q_x (v := (.agg #[(.int .i64 out_12.Num), (.int .i64 out_12.Den)])) hF hS (ex_loadA (vs := [(.int .i64 out_12.Num), (.int .i64 out_12.Den)]) 0 0 Try.underlying26 rfl sz26 rfl rfl rfl rfl) rfl rfl fun a hF => ?_
    refine q_store (vs := [(.int .i64 out_12.Num), (.int .i64 out_12.Den)]) (cs' := [(.int .i64 out_12.Num), (.int .i64 out_12.Den)]) 1 0 hF hS sz26 rfl rfl rfl rfl rfl rfl rfl rfl fun a w hF hS => ?_
    refine q_x (v := (.bool true)) hF hS (ex_assign rfl) rfl rfl fun a hF => ?_
    refine q_end (n_sq (q_ret ?_))
    obtain rfl := someI hr
    exact ret_of hF hS rfl (.cellA (us := [(.int .i64 out_12.Num), (.int .i64 out_12.Den)]) 1 0 Try.underlying26 rfl sz26 rfl rfl rfl rfl (.tmp rfl .nil)) rfl

theorem c_spec_mSum (p_l : List impl_Frac) (r : impl_Frac × Bool) (hr : spec_mSum p_l = some r) (w0 : World) (m : Mem) (hv : Vis m w0) (s1 : Sl) (h1 : Rd m s1 p_l) :
    Ret Try.prog 150 [s1.v] w0 (fun v _ => v = (.tuple #[(.agg #[(.int .i64 r.1.Num), (.int .i64 r.1.Den)]), (.bool r.2)])) := by
  unfold spec_mSum at hr
  refine ret_start Try.func150 rfl 8 rfl rfl m hv fun a hF hS => ?_
  refine q_seq ?_
  refine q_region ?_
  refine q_alloc (cs := [(.int .i64 0), (.int .i64 0)]) hF hS rfl rfl rfl fun a w b2 hF hS => ?_
  refine q_x (v := (.bool false)) hF hS (ex_assign rfl) rfl rfl fun a hF => ?_
  refine q_end (n_sq ?_)
  refine q_seq ?_
  refine q_region ?_
  refine q_x (v := s1.v) hF hS (ex_move rfl) rfl rfl fun a hF => ?_
  obtain ⟨t_3, ht_3, hr⟩ := bindS hr
  refine q_call (vs := [s1.v]) hF hS Try.func151 (by kernel_rfl) rfl rfl rfl (c_spec_fSum p_l t_3 ht_3 _ m hS.vis s1 h1) ?_
  rintro a w _ rfl hF hS
  refine q_x (v := (.agg #[(.int .i64 t_3.1.Num), (.int .i64 t_3.1.Den)])) hF hS (ex_extract rfl rfl) rfl rfl fun a hF => ?_
  refine q_x (v := (.bool t_3.2)) hF hS (ex_extract rfl rfl) rfl rfl fun a hF => ?_
  refine q_store (vs := [(.int .i64 t_3.1.Num), (.int .i64 t_3.1.Den)]) (cs' := [(.int .i64 t_3.1.Num), (.int .i64 t_3.1.Den)]) 0 0 hF hS sz26 rfl rfl rfl rfl rfl rfl rfl rfl fun a w hF hS => ?_
  refine q_x (v := (.bool t_3.2)) hF hS (ex_assign rfl) rfl rfl fun a hF => ?_
  refine q_end (n_sq (q_ret ?_))
  obtain rfl := someI hr
  exact ret_of hF hS rfl (.cellA (us := [(.int .i64 t_3.1.Num), (.int .i64 t_3.1.Den)]) 0 0 Try.underlying26 rfl sz26 rfl rfl rfl rfl (.tmp rfl .nil)) rfl

theorem c_spec_mRow (p_l : List impl_Frac) (r : Bool) (hr : spec_mRow p_l = some r) (w0 : World) (m : Mem) (hv : Vis m w0) (s1 : Sl) (h1 : Rd m s1 p_l) :
    Ret Try.prog 145 [s1.v] w0 (fun v _ => v = (.bool r)) := by
  unfold spec_mRow at hr
  refine ret_start Try.func145 rfl 33 rfl rfl m hv fun a hF hS => ?_
  refine q_seq ?_
  refine q_region ?_
  refine q_x (v := (.bool false)) hF hS (ex_assign rfl) rfl rfl fun a hF => ?_
  refine q_end (n_sq ?_)
  refine q_seq ?_
  refine q_seq ?_
  refine q_region ?_
  refine q_x (v := s1.v) hF hS (ex_move rfl) rfl rfl fun a hF => ?_
  refine q_x (v := (.int .i64 (goLen p_l))) hF hS (ex_len Try.underlying51 rfl h1.len) rfl rfl fun a hF => ?_
  refine q_x (v := (.int .i64 0)) hF hS (ex_move rfl) rfl rfl fun a hF => ?_
  refine q_end (n_sq ?_)
  refine q_block ?_
  obtain ⟨o1, hl1, hr⟩ := bindS hr
  refine q_loop (fun (t_2 : Int) a w => Fr a 33 [(0, s1.v), (7, s1.v), (8, (.int .i64 (goLen p_l))), (9, (.int .i64 t_2))] ∧ St [] w0 w m []) (fun (o : (Unit) ⊕ (Bool)) e a w => o = .inl () ∧ e = .exit 0 ∧ Fr a 33 [(0, s1.v)] ∧ St [] w0 w m []) hl1 ⟨hF.sub ⟨rfl, rfl, rfl, rfl, trivial⟩, hS⟩ ?_ ?_
  · clear hF hS
    rintro t_2 a w st ⟨hF, hS⟩ hb1
    unfold spec_mRow_l1 at hb1
    refine q_seq ?_
    refine q_region ?_
    refine q_x (v := (.bool (decide (t_2 < (goLen p_l))))) hF hS (ex_ibin rfl rfl rfl) rfl rfl fun a hF => ?_
    refine q_end (n_sq ?_)
    refine q_seq ?_
    rcases hc2 : (decide (t_2 < (goLen p_l))) with _ | _
    · have hb1 := cond_f hc2 hb1
      refine q_cond_f hF rfl hc2 ?_
      refine q_exit (x_sq ?_)
      obtain rfl := someI hb1
      exact ⟨nofun, .inl ⟨rfl, rfl, hF.sub ⟨rfl, trivial⟩, hS⟩⟩
    · have hb1 := cond_t hc2 hb1
      refine q_cond_t hF rfl hc2 ?_
      refine q_skipc (n_sq ?_)
      refine q_seq ?_
      refine q_block ?_
      refine q_seq ?_
      refine q_region ?_
      obtain ⟨e_3, he_3, hb1⟩ := bindS hb1
      obtain ⟨vs4, at4, d4⟩ := h1.at he_3 2 rfl
      obtain rfl : vs4 = [(.int .i64 e_3.Num), (.int .i64 e_3.Den)] := d4
      refine q_x (v := (elP s1 (t_2.toNat * 2))) hF hS (ex_indexAddr Try.underlying51 sz26 rfl rfl (h1.idx he_3)) rfl rfl fun a hF => ?_
      refine q_x (v := (.agg #[(.int .i64 e_3.Num), (.int .i64 e_3.Den)])) hF hS (ex_loadEA (us := [(.int .i64 e_3.Num), (.int .i64 e_3.Den)]) 0 Try.underlying26 rfl sz26 rfl ((at4).at) rfl rfl rfl) rfl rfl fun a hF => ?_
      refine q_alloc (cs := [(.int .i64 0), (.int .i64 0)]) hF hS rfl rfl rfl fun a w b5 hF hS => ?_
      refine q_store (vs := [(.int .i64 e_3.Num), (.int .i64 e_3.Den)]) (cs' := [(.int .i64 e_3.Num), (.int .i64 e_3.Den)]) 0 0 hF hS sz26 rfl rfl rfl rfl rfl rfl rfl rfl fun a w hF hS => ?_
      refine q_end (n_sq ?_)
      refine q_seq ?_
      obtain ⟨t_7, hj3, hb1⟩ := bindS hb1
      refine q_join (fun a w => Fr a 33 [(0, s1.v), (7, s1.v), (8, (.int .i64 (goLen p_l))), (9, (.int .i64 t_2)), (20, (.bool t_7))] ∧ St [] w0 w m []) ?_ ?_
      · refine q_region ?_
        refine q_x (v := (.agg #[(.int .i64 e_3.Num), (.int .i64 e_3.Den)])) hF hS (ex_loadA (vs := [(.int .i64 e_3.Num), (.int .i64 e_3.Den)]) 0 0 Try.underlying26 rfl sz26 rfl rfl rfl rfl) rfl rfl fun a hF => ?_
        obtain ⟨t_6, ht_6, hj3⟩ := bindS hj3
        refine q_call (vs := [(.agg #[(.int .i64 e_3.Num), (.int .i64 e_3.Den)])]) hF hS Try.func94 (by kernel_rfl) rfl rfl rfl (c_spec_fGood e_3 t_6 ht_6 _ m hS.vis) ?_
        rintro a w _ rfl hF hS
        refine q_x (v := (.bool (!t_6))) hF hS (ex_not rfl) rfl rfl fun a hF => ?_
        refine q_x (v := (.bool (!t_6))) hF hS (ex_move rfl) rfl rfl fun a hF => ?_
        rcases hc4 : (!t_6) with _ | _
        · have hj3 := cond_f hc4 hj3
          refine q_xg (v := (.pointer (some ⟨b5, 0, none⟩))) hF hS (ex_fieldAddr Try.underlying26 rfl sz3 rfl rfl) (wanted_t hF rfl rfl rfl hc4) rfl fun a hF => ?_
          refine q_xg (v := (.int .i64 e_3.Num)) hF hS (ex_load1 0 0 Try.underlying3 rfl rfl rfl rfl) (wanted_t hF rfl rfl rfl hc4) rfl fun a hF => ?_
          refine q_xg (v := (.bool (decide (e_3.Num < 0)))) hF hS (ex_ibin rfl rfl rfl) (wanted_t hF rfl rfl rfl hc4) rfl fun a hF => ?_
          refine q_x (v := (.bool (decide (e_3.Num < 0)))) hF hS (ex_pick_f rfl rfl hc4) rfl rfl fun a hF => ?_
          refine q_end (n_jn ?_)
          obtain rfl := someI hj3
          exact ⟨hF.sub ⟨rfl, rfl, rfl, rfl, rfl, trivial⟩, hS.mask [false]⟩
        · have hj3 := cond_t hc4 hj3
          refine q_skip hF (wanted_f hF rfl rfl rfl hc4 rfl) rfl fun a hF => ?_
          refine q_skip hF (wanted_f hF rfl rfl rfl hc4 rfl) rfl fun a hF => ?_
          refine q_skip hF (wanted_f hF rfl rfl rfl hc4 rfl) rfl fun a hF => ?_
          refine q_x (v := (.bool true)) hF hS (ex_pick_t rfl rfl hc4) rfl rfl fun a hF => ?_
          refine q_end (n_jn ?_)
          obtain rfl := someI hj3
          exact ⟨hF.sub ⟨rfl, rfl, rfl, rfl, rfl, trivial⟩, hS.mask [false]⟩
      · rintro a w ⟨hF, hS⟩
        refine n_sq ?_
        rcases hc5 : (t_7) with _ | _
        · have hb1 := cond_f hc5 hb1
          refine q_cond_f hF rfl hc5 ?_
          refine q_skipc (n_ib (n_sq ?_))
          refine q_region ?_
          refine q_x (v := (.int .i64 (w64 (t_2 + 1)))) hF hS (ex_ibin rfl rfl rfl) rfl rfl fun a hF => ?_
          refine q_x (v := (.int .i64 (w64 (t_2 + 1)))) hF hS (ex_move rfl) rfl rfl fun a hF => ?_
          refine q_end ?_
          obtain rfl := someI hb1
          exact ⟨rfl, hF.sub ⟨rfl, rfl, rfl, rfl, trivial⟩, hS⟩
        · have hb1 := cond_t hc5 hb1
          refine q_cond_t hF rfl hc5 ?_
          refine q_seq ?_
          refine q_region ?_
          refine q_x (v := (.bool false)) hF hS (ex_assign rfl) rfl rfl fun a hF => ?_
          refine q_end (n_sq (q_ret (r_ib (r_sq ?_))))
          obtain rfl := someI hb1
          refine ⟨nofun, .inr fun ho => ?_⟩
          subst ho
          refine r_ib (r_sq ?_)
          obtain rfl := someI hr
          exact ret_of hF hS rfl (.tmp rfl .nil) rfl
  · rintro e a w ⟨rfl, rfl, hF, hS⟩
    refine x_ib (n_sq ?_)
    refine q_seq ?_
    refine q_region ?_
    refine q_x (v := s1.v) hF hS (ex_move rfl) rfl rfl fun a hF => ?_
    obtain ⟨t_8, ht_8, hr⟩ := bindS hr
    refine q_call (vs := [s1.v]) hF hS Try.func150 (by kernel_rfl) rfl rfl rfl (c_spec_mSum p_l t_8 ht_8 _ m hS.vis s1 h1) ?_
    rintro a w _ rfl hF hS
    refine q_x (v := (.tuple #[(.agg #[(.int .i64 t_8.1.Num), (.int .i64 t_8.1.Den)]), (.bool t_8.2)])) hF hS (ex_move rfl) rfl rfl fun a hF => ?_
    refine q_x (v := (.agg #[(.int .i64 t_8.1.Num), (.int .i64 t_8.1.Den)])) hF hS (ex_extract rfl rfl) rfl rfl fun a hF => ?_
    refine q_x (v := (.bool t_8.2)) hF hS (ex_extract rfl rfl) rfl rfl fun a hF => ?_
    refine q_alloc (cs := [(.int .i64 0), (.int .i64 0)]) hF hS rfl rfl rfl fun a w b9 hF hS => ?_
    refine q_store (vs := [(.int .i64 t_8.1.Num), (.int .i64 t_8.1.Den)]) (cs' := [(.int .i64 t_8.1.Num), (.int .i64 t_8.1.Den)]) 0 0 hF hS sz26 rfl rfl rfl rfl rfl rfl rfl rfl fun a w hF hS => ?_
    refine q_x (v := (.bool t_8.2)) hF hS (ex_assign rfl) rfl rfl fun a hF => ?_
    refine q_end (n_sq ?_)
    refine q_seq ?_
    obtain ⟨t_11, hj6, hr⟩ := bindS hr
    refine q_join (fun a w => Fr a 33 [(2, (.bool t_11))] ∧ St [] w0 w m []) ?_ ?_
    · refine e_region [] mixed fun w' hw' => ?_
      have hS := hS.below hw'
      refine e_p (v := (.bool t_8.2)) 0 hF rfl (ex_move rfl) rfl rfl (by kernel_rfl) (by kernel_rfl) (by kernel_rfl) fun a hF => ?_
      refine e_p (v := (.bool t_8.2)) 1 hF rfl (ex_move rfl) rfl rfl (by kernel_rfl) (by kernel_rfl) (by kernel_rfl) fun a hF => ?_
      rcases hc7 : (t_8.2) with _ | _
      · have hj6 := cond_f hc7 hj6
        refine e_skipP 2 hF rfl (wanted_f hF rfl rfl rfl hc7 rfl) rfl (by kernel_rfl) (by kernel_rfl) (by kernel_rfl) fun a hF => ?_
        refine e_skipP 3 hF rfl (wanted_f hF rfl rfl rfl hc7 rfl) rfl (by kernel_rfl) (by kernel_rfl) (by kernel_rfl) fun a hF => ?_
        refine e_skipP 4 hF rfl (wanted_f hF rfl rfl rfl hc7 rfl) rfl (by kernel_rfl) (by kernel_rfl) (by kernel_rfl) fun a hF => ?_
        refine e_p (v := (.bool false)) 5 hF rfl (ex_pick_f rfl rfl hc7) rfl rfl (by kernel_rfl) (by kernel_rfl) (by kernel_rfl) fun a hF => ?_
        refine e_p (v := (.bool false)) 6 hF rfl (ex_assign rfl) rfl rfl (by kernel_rfl) (by kernel_rfl) (by kernel_rfl) fun a hF => ?_
        refine e_end (by kernel_rfl) (n_jn ?_) _
        obtain rfl := someI hj6
        exact ⟨hF.sub ⟨rfl, trivial⟩, hS.mask [false]⟩
      · have hj6 := cond_t hc7 hj6
        refine e_xg (v := (.agg #[(.int .i64 t_8.1.Num), (.int .i64 t_8.1.Den)])) 2 hF hS rfl (ex_loadA (vs := [(.int .i64 t_8.1.Num), (.int .i64 t_8.1.Den)]) 0 0 Try.underlying26 rfl sz26 rfl rfl rfl rfl) (wanted_t hF rfl rfl rfl hc7) rfl (by kernel_rfl) (by kernel_rfl) (by kernel_rfl) (by kernel_rfl) fun a hF => ?_
        refine e_one 3 (by kernel_rfl) ?_
        obtain ⟨t_10, ht_10, hj6⟩ := bindS hj6
        refine e_callg (vs := [(.int .i64 1)]) hF hS rfl (wanted_t hF rfl rfl rfl hc7) Try.func97 (by kernel_rfl) rfl rfl rfl (c_spec_fInt 1 t_10 ht_10 _ m hS.vis) ?_
        rintro a w _ rfl hF hS
        refine e_pg (v := (.bool ((t_8.1.Num == t_10.Num) && ((t_8.1.Den == t_10.Den) && true)))) 4 hF rfl (ex_eqA (xs := [(.int .i64 t_8.1.Num), (.int .i64 t_8.1.Den)]) (ys := [(.int .i64 t_10.Num), (.int .i64 t_10.Den)]) rfl rfl (by kernel_rfl) (eqv_struct (xs := [(.int .i64 t_8.1.Num), (.int .i64 t_8.1.Den)]) (ys := [(.int .i64 t_10.Num), (.int .i64 t_10.Den)]) Try.underlying26 (by kernel_rfl) (eqf_cons rfl (part_cell Try.underlying3 rfl rfl) (part_cell Try.underlying3 rfl rfl) (eqv_int Try.underlying3) (eqf_cons rfl (part_cell Try.underlying3 rfl rfl) (part_cell Try.underlying3 rfl rfl) (eqv_int Try.underlying3) (eqf_nil))))) (wanted_t hF rfl rfl rfl hc7) rfl (by kernel_rfl) (by kernel_rfl) (by kernel_rfl) fun a hF => ?_
        refine e_p (v := (.bool ((t_8.1.Num == t_10.Num) && ((t_8.1.Den == t_10.Den) && true)))) 5 hF rfl (ex_pick_t rfl rfl hc7) rfl rfl (by kernel_rfl) (by kernel_rfl) (by kernel_rfl) fun a hF => ?_
        refine e_p (v := (.bool ((t_8.1.Num == t_10.Num) && ((t_8.1.Den == t_10.Den) && true)))) 6 hF rfl (ex_assign rfl) rfl rfl (by kernel_rfl) (by kernel_rfl) (by kernel_rfl) fun a hF => ?_
        refine e_end (by kernel_rfl) (n_jn ?_) _
        obtain rfl := someI hj6
        exact ⟨hF.sub ⟨rfl, trivial⟩, hS.mask [false]⟩
    · rintro a w ⟨hF, hS⟩
      refine n_sq (q_ret ?_)
      obtain rfl := someI hr
      exact ret_of hF hS rfl (.tmp rfl .nil) rfl

theorem c_spec_mGood (p_m : impl_Mechanism) (r : Bool) (hr : spec_mGood p_m = some r) (w0 : World) (m : Mem) (hv : Vis m w0) (s1 : Sl) (h1 : Rd m s1 p_m.Rows) :
    Ret Try.prog 115 [(.agg #[s1.v])] w0 (fun v _ => v = (.bool r)) := by
  unfold spec_mGood at hr
  refine ret_start Try.func115 rfl 40 rfl rfl m hv fun a hF hS => ?_
  refine q_seq ?_
  refine q_region ?_
  refine q_box (cs := [s1.v]) hF hS rfl rfl rfl fun a w b2 hF hS => ?_
  refine q_x (v := (.bool false)) hF hS (ex_assign rfl) rfl rfl fun a hF => ?_
  refine q_end (n_sq ?_)
  refine q_seq ?_
  refine q_seq ?_
  obtain ⟨t_8, hj1, hr⟩ := bindS hr
  refine q_join (fun a w => Fr a 40 [(1, (.pointer (some ⟨b2, 0, none⟩))), (18, (.bool t_8))] ∧ St [] w0 w m [[⟨b2, [s1.v], 68⟩]]) ?_ ?_
  · refine q_region ?_
    refine q_x (v := (.pointer (some ⟨b2, 0, none⟩))) hF hS (ex_fieldAddr Try.underlying68 rfl sz66 rfl rfl) rfl rfl fun a hF => ?_
    refine q_x (v := s1.v) hF hS (ex_load1 0 0 Try.underlying66 rfl rfl rfl rfl) rfl rfl fun a hF => ?_
    refine q_x (v := (.int .i64 (goLen p_m.Rows))) hF hS (ex_len Try.underlying66 rfl h1.len) rfl rfl fun a hF => ?_
    obtain ⟨t_3, ht_3, hj1⟩ := bindS hj1
    refine q_call (vs := [(.int .i64 (goLen p_m.Rows)), (.int .i64 1), (.int .i64 8)]) hF hS Try.func86 (by kernel_rfl) rfl rfl rfl (c_spec_l1In (goLen p_m.Rows) 1 8 t_3 ht_3 _ m hS.vis) ?_
    rintro a w _ rfl hF hS
    refine q_x (v := (.bool (!t_3))) hF hS (ex_not rfl) rfl rfl fun a hF => ?_
    refine q_x (v := (.bool (!t_3))) hF hS (ex_move rfl) rfl rfl fun a hF => ?_
    rcases hc2 : (!t_3) with _ | _
    · have hj1 := cond_f hc2 hj1
      refine q_xg (v := (.pointer (some ⟨b2, 0, none⟩))) hF hS (ex_fieldAddr Try.underlying68 rfl sz66 rfl rfl) (wanted_t hF rfl rfl rfl hc2) rfl fun a hF => ?_
      refine q_xg (v := s1.v) hF hS (ex_load1 0 0 Try.underlying66 rfl rfl rfl rfl) (wanted_t hF rfl rfl rfl hc2) rfl fun a hF => ?_
      obtain ⟨e_4, he_4, hj1⟩ := bindS hj1
      obtain ⟨vs5, at5, d5⟩ := h1.at he_4 1 rfl
      obtain ⟨s6, rfl, h6⟩ : ∃ s6 : Sl, vs5 = [s6.v] ∧ Rd m s6 e_4 := d5
      refine q_xg (v := (elP s1 ((0 : Int).toNat * 1))) hF hS (ex_indexAddr Try.underlying66 sz51 rfl rfl (h1.idx he_4)) (wanted_t hF rfl rfl rfl hc2) rfl fun a hF => ?_
      refine q_xg (v := s6.v) hF hS (ex_loadE1 0 Try.underlying51 rfl rfl ((at5).at) rfl rfl) (wanted_t hF rfl rfl rfl hc2) rfl fun a hF => ?_
      refine q_xg (v := (.int .i64 (goLen e_4))) hF hS (ex_len Try.underlying51 rfl h6.len) (wanted_t hF rfl rfl rfl hc2) rfl fun a hF => ?_
      obtain ⟨t_7, ht_7, hj1⟩ := bindS hj1
      refine q_callg (vs := [(.int .i64 (goLen e_4)), (.int .i64 1), (.int .i64 24)]) hF hS (wanted_t hF rfl rfl rfl hc2) Try.func86 (by kernel_rfl) rfl rfl rfl (c_spec_l1In (goLen e_4) 1 24 t_7 ht_7 _ m hS.vis) ?_
      rintro a w _ rfl hF hS
      refine q_xg (v := (.bool (!t_7))) hF hS (ex_not rfl) (wanted_t hF rfl rfl rfl hc2) rfl fun a hF => ?_
      refine q_x (v := (.bool (!t_7))) hF hS (ex_pick_f rfl rfl hc2) rfl rfl fun a hF => ?_
      refine q_end (n_jn ?_)
      obtain rfl := someI hj1
      exact ⟨hF.sub ⟨rfl, rfl, trivial⟩, hS⟩
    · have hj1 := cond_t hc2 hj1
      refine q_skip hF (wanted_f hF rfl rfl rfl hc2 rfl) rfl fun a hF => ?_
      refine q_skip hF (wanted_f hF rfl rfl rfl hc2 rfl) rfl fun a hF => ?_
      refine q_skip hF (wanted_f hF rfl rfl rfl hc2 rfl) rfl fun a hF => ?_
      refine q_skip hF (wanted_f hF rfl rfl rfl hc2 rfl) rfl fun a hF => ?_
      refine q_skip hF (wanted_f hF rfl rfl rfl hc2 rfl) rfl fun a hF => ?_
      refine q_skip hF (wanted_f hF rfl rfl rfl hc2 rfl) rfl fun a hF => ?_
      refine q_skip hF (wanted_f hF rfl rfl rfl hc2 rfl) rfl fun a hF => ?_
      refine q_x (v := (.bool true)) hF hS (ex_pick_t rfl rfl hc2) rfl rfl fun a hF => ?_
      refine q_end (n_jn ?_)
      obtain rfl := someI hj1
      exact ⟨hF.sub ⟨rfl, rfl, trivial⟩, hS⟩
  · rintro a w ⟨hF, hS⟩
    refine n_sq ?_
    rcases hc3 : (t_8) with _ | _
    · have hr := cond_f hc3 hr
      refine q_cond_f hF rfl hc3 ?_
      refine q_skipc (n_sq ?_)
      refine q_seq ?_
      refine q_seq ?_
      refine q_region ?_
      refine q_x (v := (.pointer (some ⟨b2, 0, none⟩))) hF hS (ex_fieldAddr Try.underlying68 rfl sz66 rfl rfl) rfl rfl fun a hF => ?_
      refine q_x (v := s1.v) hF hS (ex_load1 0 0 Try.underlying66 rfl rfl rfl rfl) rfl rfl fun a hF => ?_
      refine q_x (v := (.int .i64 (goLen p_m.Rows))) hF hS (ex_len Try.underlying66 rfl h1.len) rfl rfl fun a hF => ?_
      refine q_x (v := (.int .i64 0)) hF hS (ex_move rfl) rfl rfl fun a hF => ?_
      refine q_end (n_sq ?_)
      refine q_block ?_
      obtain ⟨o4, hl4, hr⟩ := bindS hr
      refine q_loop (fun (t_9 : Int) a w => Fr a 40 [(1, (.pointer (some ⟨b2, 0, none⟩))), (20, s1.v), (21, (.int .i64 (goLen p_m.Rows))), (22, (.int .i64 t_9))] ∧ St [] w0 w m [[⟨b2, [s1.v], 68⟩]]) (fun (o : (Unit) ⊕ (Bool)) e a w => o = .inl () ∧ e = .exit 0 ∧ Fr a 40 [] ∧ St [] w0 w m []) hl4 ⟨hF.sub ⟨rfl, rfl, rfl, rfl, trivial⟩, hS⟩ ?_ ?_
      · clear hF hS
        rintro t_9 a w st ⟨hF, hS⟩ hb4
        unfold spec_mGood_l1 at hb4
        refine q_seq ?_
        refine q_region ?_
        refine q_x (v := (.bool (decide (t_9 < (goLen p_m.Rows))))) hF hS (ex_ibin rfl rfl rfl) rfl rfl fun a hF => ?_
        refine q_end (n_sq ?_)
        refine q_seq ?_
        rcases hc5 : (decide (t_9 < (goLen p_m.Rows))) with _ | _
        · have hb4 := cond_f hc5 hb4
          refine q_cond_f hF rfl hc5 ?_
          refine q_exit (x_sq ?_)
          obtain rfl := someI hb4
          exact ⟨nofun, .inl ⟨rfl, rfl, hF.sub trivial, hS.mask [false]⟩⟩
        · have hb4 := cond_t hc5 hb4
          refine q_cond_t hF rfl hc5 ?_
          refine q_skipc (n_sq ?_)
          refine q_seq ?_
          refine q_block ?_
          refine q_seq ?_
          refine q_region ?_
          obtain ⟨e_10, he_10, hb4⟩ := bindS hb4
          obtain ⟨vs11, at11, d11⟩ := h1.at he_10 1 rfl
          obtain ⟨s12, rfl, h12⟩ : ∃ s12 : Sl, vs11 = [s12.v] ∧ Rd m s12 e_10 := d11
          refine q_x (v := (elP s1 (t_9.toNat * 1))) hF hS (ex_indexAddr Try.underlying66 sz51 rfl rfl (h1.idx he_10)) rfl rfl fun a hF => ?_
          refine q_x (v := s12.v) hF hS (ex_loadE1 0 Try.underlying51 rfl rfl ((at11).at) rfl rfl) rfl rfl fun a hF => ?_
          refine q_x (v := s12.v) hF hS (ex_assign rfl) rfl rfl fun a hF => ?_
          refine q_end (n_sq ?_)
          refine q_seq ?_
          obtain ⟨t_17, hj6, hb4⟩ := bindS hb4
          refine q_join (fun a w => Fr a 40 [(1, (.pointer (some ⟨b2, 0, none⟩))), (20, s1.v), (21, (.int .i64 (goLen p_m.Rows))), (22, (.int .i64 t_9)), (38, (.bool t_17))] ∧ St [] w0 w m [[⟨b2, [s1.v], 68⟩]]) ?_ ?_
          · refine q_region ?_
            refine q_x (v := s12.v) hF hS (ex_move rfl) rfl rfl fun a hF => ?_
            refine q_x (v := (.int .i64 (goLen e_10))) hF hS (ex_len Try.underlying51 rfl h12.len) rfl rfl fun a hF => ?_
            refine q_x (v := (.pointer (some ⟨b2, 0, none⟩))) hF hS (ex_fieldAddr Try.underlying68 rfl sz66 rfl rfl) rfl rfl fun a hF => ?_
            refine q_x (v := s1.v) hF hS (ex_load1 0 0 Try.underlying66 rfl rfl rfl rfl) rfl rfl fun a hF => ?_
            obtain ⟨e_13, he_13, hj6⟩ := bindS hj6
            obtain ⟨vs14, at14, d14⟩ := h1.at he_13 1 rfl
            obtain ⟨s15, rfl, h15⟩ : ∃ s15 : Sl, vs14 = [s15.v] ∧ Rd m s15 e_13 := d14
            refine q_x (v := (elP s1 ((0 : Int).toNat * 1))) hF hS (ex_indexAddr Try.underlying66 sz51 rfl rfl (h1.idx he_13)) rfl rfl fun a hF => ?_
            refine q_x (v := s15.v) hF hS (ex_loadE1 0 Try.underlying51 rfl rfl ((at14).at) rfl rfl) rfl rfl fun a hF => ?_
            refine q_x (v := (.int .i64 (goLen e_13))) hF hS (ex_len Try.underlying51 rfl h15.len) rfl rfl fun a hF => ?_
            refine q_x (v := (.bool ((goLen e_10) != (goLen e_13)))) hF hS (ex_ibin rfl rfl rfl) rfl rfl fun a hF => ?_
            refine q_x (v := (.bool ((goLen e_10) != (goLen e_13)))) hF hS (ex_move rfl) rfl rfl fun a hF => ?_
            rcases hc7 : ((goLen e_10) != (goLen e_13)) with _ | _
            · have hj6 := cond_f hc7 hj6
              refine q_xg (v := s12.v) hF hS (ex_move rfl) (wanted_t hF rfl rfl rfl hc7) rfl fun a hF => ?_
              obtain ⟨t_16, ht_16, hj6⟩ := bindS hj6
              refine q_callg (vs := [s12.v]) hF hS (wanted_t hF rfl rfl rfl hc7) Try.func145 (by kernel_rfl) rfl rfl rfl (c_spec_mRow e_10 t_16 ht_16 _ m hS.vis s12 h12) ?_
              rintro a w _ rfl hF hS
              refine q_xg (v := (.bool (!t_16))) hF hS (ex_not rfl) (wanted_t hF rfl rfl rfl hc7) rfl fun a hF => ?_
              refine q_x (v := (.bool (!t_16))) hF hS (ex_pick_f rfl rfl hc7) rfl rfl fun a hF => ?_
              refine q_end (n_jn ?_)
              obtain rfl := someI hj6
              exact ⟨hF.sub ⟨rfl, rfl, rfl, rfl, rfl, trivial⟩, hS⟩
            · have hj6 := cond_t hc7 hj6
              refine q_skip hF (wanted_f hF rfl rfl rfl hc7 rfl) rfl fun a hF => ?_
              refine q_skip hF (wanted_f hF rfl rfl rfl hc7 rfl) rfl fun a hF => ?_
              refine q_skip hF (wanted_f hF rfl rfl rfl hc7 rfl) rfl fun a hF => ?_
              refine q_x (v := (.bool true)) hF hS (ex_pick_t rfl rfl hc7) rfl rfl fun a hF => ?_
              refine q_end (n_jn ?_)
              obtain rfl := someI hj6
              exact ⟨hF.sub ⟨rfl, rfl, rfl, rfl, rfl, trivial⟩, hS⟩
          · rintro a w ⟨hF, hS⟩
            refine n_sq ?_
            rcases hc8 : (t_17) with _ | _
            · have hb4 := cond_f hc8 hb4
              refine q_cond_f hF rfl hc8 ?_
              refine q_skipc (n_ib (n_sq ?_))
              refine q_region ?_
              refine q_x (v := (.int .i64 (w64 (t_9 + 1)))) hF hS (ex_ibin rfl rfl rfl) rfl rfl fun a hF => ?_
              refine q_x (v := (.int .i64 (w64 (t_9 + 1)))) hF hS (ex_move rfl) rfl rfl fun a hF => ?_
              refine q_end ?_
              obtain rfl := someI hb4
              exact ⟨rfl, hF.sub ⟨rfl, rfl, rfl, rfl, trivial⟩, hS⟩
            · have hb4 := cond_t hc8 hb4
              refine q_cond_t hF rfl hc8 ?_
              refine q_seq ?_
              refine q_region ?_
              refine q_x (v := (.bool false)) hF hS (ex_assign rfl) rfl rfl fun a hF => ?_
              refine q_end (n_sq (q_ret (r_ib (r_sq ?_))))
              obtain rfl := someI hb4
              refine ⟨nofun, .inr fun ho => ?_⟩
              subst ho
              refine r_ib (r_sq ?_)
              obtain rfl := someI hr
              exact ret_of hF hS rfl (.tmp rfl .nil) rfl
      · rintro e a w ⟨rfl, rfl, hF, hS⟩
        refine x_ib (n_sq ?_)
        refine q_seq ?_
        refine q_region ?_
        refine q_x (v := (.bool true)) hF hS (ex_assign rfl) rfl rfl fun a hF => ?_
        refine q_end (n_sq (q_ret ?_))
        obtain rfl := someI hr
        exact ret_of hF hS rfl (.tmp rfl .nil) rfl
    · have hr := cond_t hc3 hr
      refine q_cond_t hF rfl hc3 ?_
      refine q_seq ?_
      refine q_region ?_
      refine q_x (v := (.bool false)) hF hS (ex_assign rfl) rfl rfl fun a hF => ?_
      refine q_end (n_sq (q_ret (r_sq ?_)))
      obtain rfl := someI hr
      exact ret_of hF hS rfl (.tmp rfl .nil) rfl

theorem c_spec_IsMechanism (p_m : impl_Mechanism) (r : Bool) (hr : spec_IsMechanism p_m = some r) (w0 : World) (m : Mem) (hv : Vis m w0) (s1 : Sl) (h1 : Rd m s1 p_m.Rows) :
    Ret Try.prog 50 [(.agg #[s1.v])] w0 (fun v _ => v = (.bool r)) := by
  unfold spec_IsMechanism at hr
  refine ret_start Try.func50 rfl 5 rfl rfl m hv fun a hF hS => ?_
  refine q_seq ?_
  refine q_region ?_
  refine q_box (cs := [s1.v]) hF hS rfl rfl rfl fun a w b2 hF hS => ?_
  refine q_x (v := (.bool false)) hF hS (ex_assign rfl) rfl rfl fun a hF => ?_
  refine q_end (n_sq ?_)
  refine q_seq ?_
  refine q_region ?_
  refine q_x (v := (.agg #[s1.v])) hF hS (ex_loadA (vs := [s1.v]) 0 0 Try.underlying68 rfl sz68 rfl rfl rfl rfl) rfl rfl fun a hF => ?_
  obtain ⟨t_3, ht_3, hr⟩ := bindS hr
  refine q_call (vs := [(.agg #[s1.v])]) hF hS Try.func115 (by kernel_rfl) rfl rfl rfl (c_spec_mGood p_m t_3 ht_3 _ m hS.vis s1 h1) ?_
  rintro a w _ rfl hF hS
  refine q_x (v := (.bool t_3)) hF hS (ex_assign rfl) rfl rfl fun a hF => ?_
  refine q_end (n_sq (q_ret ?_))
  obtain rfl := someI hr
  exact ret_of hF hS rfl (.tmp rfl .nil) rfl

theorem c_impl_gcdOf (p_a : Int) (p_b : Int) (r : Int) (hr : impl_gcdOf p_a p_b = some r) (w0 : World) (m : Mem) (hv : Vis m w0) :
    Ret Try.prog 143 [(.int .i64 p_a), (.int .i64 p_b)] w0 (fun v _ => v = (.int .i64 r)) := by
  unfold impl_gcdOf at hr
  refine ret_start Try.func143 rfl 20 rfl rfl m hv fun a hF hS => ?_
  refine q_seq ?_
  refine q_region ?_
  refine q_x (v := (.int .i64 0)) hF hS (ex_assign rfl) rfl rfl fun a hF => ?_
  refine q_end (n_sq ?_)
  refine q_seq ?_
  refine q_seq ?_
  refine q_region ?_
  refine q_x (v := (.int .i64 p_a)) hF hS (ex_move rfl) rfl rfl fun a hF => ?_
  refine q_x (v := (.bool (decide (p_a < 0)))) hF hS (ex_ibin rfl rfl rfl) rfl rfl fun a hF => ?_
  refine q_end (n_sq ?_)
  obtain ⟨a_1, hj1, hr⟩ := bindS hr
  refine q_join (fun a w => Fr a 20 [(0, (.int .i64 a_1)), (1, (.int .i64 p_b))] ∧ St [] w0 w m []) ?_ ?_
  · rcases hc2 : (decide (p_a < 0)) with _ | _
    · have hj1 := cond_f hc2 hj1
      refine q_cond_f hF rfl hc2 ?_
      refine q_skipc (n_jn ?_)
      obtain rfl := someI hj1
      exact ⟨hF.sub ⟨rfl, rfl, trivial⟩, hS⟩
    · have hj1 := cond_t hc2 hj1
      refine q_cond_t hF rfl hc2 ?_
      refine q_region ?_
      refine q_x (v := (.int .i64 p_a)) hF hS (ex_move rfl) rfl rfl fun a hF => ?_
      refine q_x (v := (.int .i64 (w64 (-p_a)))) hF hS (ex_neg rfl) rfl rfl fun a hF => ?_
      refine q_x (v := (.int .i64 (w64 (-p_a)))) hF hS (ex_assign rfl) rfl rfl fun a hF => ?_
      refine q_end (n_jn ?_)
      obtain rfl := someI hj1
      exact ⟨hF.sub ⟨rfl, rfl, trivial⟩, hS⟩
  · rintro a w ⟨hF, hS⟩
    refine n_sq ?_
    refine q_seq ?_
    refine q_seq ?_
    refine q_region ?_
    refine q_x (v := (.int .i64 p_b)) hF hS (ex_move rfl) rfl rfl fun a hF => ?_
    refine q_x (v := (.bool (decide (p_b < 0)))) hF hS (ex_ibin rfl rfl rfl) rfl rfl fun a hF => ?_
    refine q_end (n_sq ?_)
    obtain ⟨b_2, hj3, hr⟩ := bindS hr
    refine q_join (fun a w => Fr a 20 [(0, (.int .i64 a_1)), (1, (.int .i64 b_2))] ∧ St [] w0 w m []) ?_ ?_
    · rcases hc4 : (decide (p_b < 0)) with _ | _
      · have hj3 := cond_f hc4 hj3
        refine q_cond_f hF rfl hc4 ?_
        refine q_skipc (n_jn ?_)
        obtain rfl := someI hj3
        exact ⟨hF.sub ⟨rfl, rfl, trivial⟩, hS⟩
      · have hj3 := cond_t hc4 hj3
        refine q_cond_t hF rfl hc4 ?_
        refine q_region ?_
        refine q_x (v := (.int .i64 p_b)) hF hS (ex_move rfl) rfl rfl fun a hF => ?_
        refine q_x (v := (.int .i64 (w64 (-p_b)))) hF hS (ex_neg rfl) rfl rfl fun a hF => ?_
        refine q_x (v := (.int .i64 (w64 (-p_b)))) hF hS (ex_assign rfl) rfl rfl fun a hF => ?_
        refine q_end (n_jn ?_)
        obtain rfl := someI hj3
        exact ⟨hF.sub ⟨rfl, rfl, trivial⟩, hS⟩
    · rintro a w ⟨hF, hS⟩
      refine n_sq ?_
      refine q_seq ?_
      refine q_block ?_
      obtain ⟨a_6, hl5, hr⟩ := bindS hr
      refine q_loop (fun (s : Int × Int) a w => ∃ a_3, ∃ b_4, s = (a_3, b_4) ∧ Fr a 20 [(0, (.int .i64 a_3)), (1, (.int .i64 b_4))] ∧ St [] w0 w m []) (fun (a_6 : Int) e a w => e = .exit 0 ∧ Fr a 20 [(0, (.int .i64 a_6))] ∧ St [] w0 w m []) hl5 ⟨_, _, rfl, hF.sub ⟨rfl, rfl, trivial⟩, hS⟩ ?_ ?_
      · clear hF hS
        rintro s a w st ⟨a_3, b_4, rfl, hF, hS⟩ hb5
        unfold impl_gcdOf_l1 at hb5
        refine q_seq ?_
        refine q_seq ?_
        refine q_region ?_
        refine q_x (v := (.int .i64 b_4)) hF hS (ex_move rfl) rfl rfl fun a hF => ?_
        refine q_x (v := (.bool (b_4 != 0))) hF hS (ex_ibin rfl rfl rfl) rfl rfl fun a hF => ?_
        refine q_end (n_sq ?_)
        rcases hc6 : (b_4 != 0) with _ | _
        · have hb5 := cond_f hc6 hb5
          refine q_cond_f hF rfl hc6 ?_
          refine q_exit (x_sq ?_)
          obtain rfl := someI hb5
          exact ⟨nofun, .inl ⟨rfl, hF.sub ⟨rfl, trivial⟩, hS⟩⟩
        · have hb5 := cond_t hc6 hb5
          refine q_cond_t hF rfl hc6 ?_
          refine q_skipc (n_sq ?_)
          refine q_block ?_
          refine e_region [] mixed fun w' hw' => ?_
          have hS := hS.below hw'
          refine e_p (v := (.int .i64 b_4)) 0 hF rfl (ex_move rfl) rfl rfl (by kernel_rfl) (by kernel_rfl) (by kernel_rfl) fun a hF => ?_
          refine e_p (v := (.int .i64 a_3)) 1 hF rfl (ex_move rfl) rfl rfl (by kernel_rfl) (by kernel_rfl) (by kernel_rfl) fun a hF => ?_
          refine e_p (v := (.int .i64 b_4)) 2 hF rfl (ex_move rfl) rfl rfl (by kernel_rfl) (by kernel_rfl) (by kernel_rfl) fun a hF => ?_
          obtain ⟨t_5, ht_5, hb5⟩ := bindS hb5
          refine e_p (v := (.int .i64 t_5)) 3 hF rfl (ex_rem rfl rfl ht_5) rfl rfl (by kernel_rfl) (by kernel_rfl) (by kernel_rfl) fun a hF => ?_
          refine e_p (v := (.int .i64 b_4)) 4 hF rfl (ex_assign rfl) rfl rfl (by kernel_rfl) (by kernel_rfl) (by kernel_rfl) fun a hF => ?_
          refine e_p (v := (.int .i64 t_5)) 5 hF rfl (ex_assign rfl) rfl rfl (by kernel_rfl) (by kernel_rfl) (by kernel_rfl) fun a hF => ?_
          refine e_end (by kernel_rfl) (n_ib ?_) _
          obtain rfl := someI hb5
          exact ⟨rfl, _, _, rfl, hF.sub ⟨rfl, rfl, trivial⟩, hS⟩
      · rintro e a w ⟨rfl, hF, hS⟩
        refine x_ib (n_sq ?_)
        refine q_seq ?_
        refine q_region ?_
        refine q_x (v := (.int .i64 a_6)) hF hS (ex_move rfl) rfl rfl fun a hF => ?_
        refine q_x (v := (.int .i64 a_6)) hF hS (ex_assign rfl) rfl rfl fun a hF => ?_
        refine q_end (n_sq (q_ret ?_))
        obtain rfl := someI hr
        exact ret_of hF hS rfl (.tmp rfl .nil) rfl

theorem c_impl_IsFrac (p_f : impl_Frac) (r : Bool) (hr : impl_IsFrac p_f = some r) (w0 : World) (m : Mem) (hv : Vis m w0) :
    Ret Try.prog 99 [(.agg #[(.int .i64 p_f.Num), (.int .i64 p_f.Den)])] w0 (fun v _ => v = (.bool r)) := by
  unfold impl_IsFrac at hr
  refine ret_start Try.func99 rfl 29 rfl rfl m hv fun a hF hS => ?_
  refine q_seq ?_
  refine q_region ?_
  refine q_box (cs := [(.int .i64 p_f.Num), (.int .i64 p_f.Den)]) hF hS rfl rfl rfl fun a w b1 hF hS => ?_
  refine q_x (v := (.bool false)) hF hS (ex_assign rfl) rfl rfl fun a hF => ?_
  refine q_end (n_sq ?_)
  refine q_seq ?_
  obtain ⟨t_3, hj1, hr⟩ := bindS hr
  refine q_join (fun a w => Fr a 29 [(2, (.bool t_3))] ∧ St [] w0 w m []) ?_ ?_
  · refine q_region ?_
    refine q_x (v := (.pointer (some ⟨b1, 1, none⟩))) hF hS (ex_fieldAddr Try.underlying26 rfl sz3 rfl rfl) rfl rfl fun a hF => ?_
    refine q_x (v := (.int .i64 p_f.Den)) hF hS (ex_load1 0 0 Try.underlying3 rfl rfl rfl rfl) rfl rfl fun a hF => ?_
    refine q_x (v := (.bool (decide (1 ≤ p_f.Den)))) hF hS (ex_ibin rfl rfl rfl) rfl rfl fun a hF => ?_
    refine q_x (v := (.bool (decide (1 ≤ p_f.Den)))) hF hS (ex_move rfl) rfl rfl fun a hF => ?_
    rcases hc2 : (decide (1 ≤ p_f.Den)) with _ | _
    · have hj1 := cond_f hc2 hj1
      refine q_skip hF (wanted_f hF rfl rfl rfl hc2 rfl) rfl fun a hF => ?_
      refine q_skip hF (wanted_f hF rfl rfl rfl hc2 rfl) rfl fun a hF => ?_
      refine q_skip hF (wanted_f hF rfl rfl rfl hc2 rfl) rfl fun a hF => ?_
      refine q_x (v := (.bool false)) hF hS (ex_pick_f rfl rfl hc2) rfl rfl fun a hF => ?_
      refine q_x (v := (.bool false)) hF hS (ex_move rfl) rfl rfl fun a hF => ?_
      refine q_skip hF (wanted_f hF rfl rfl rfl rfl rfl) rfl fun a hF => ?_
      refine q_skip hF (wanted_f hF rfl rfl rfl rfl rfl) rfl fun a hF => ?_
      refine q_skip hF (wanted_f hF rfl rfl rfl rfl rfl) rfl fun a hF => ?_
      refine q_x (v := (.bool false)) hF hS (ex_pick_f rfl rfl rfl) rfl rfl fun a hF => ?_
      refine q_x (v := (.bool false)) hF hS (ex_move rfl) rfl rfl fun a hF => ?_
      refine q_skip hF (wanted_f hF rfl rfl rfl rfl rfl) rfl fun a hF => ?_
      refine q_skip hF (wanted_f hF rfl rfl rfl rfl rfl) rfl fun a hF => ?_
      refine q_skip hF (wanted_f hF rfl rfl rfl rfl rfl) rfl fun a hF => ?_
      refine q_x (v := (.bool false)) hF hS (ex_pick_f rfl rfl rfl) rfl rfl fun a hF => ?_
      refine q_x (v := (.bool false)) hF hS (ex_move rfl) rfl rfl fun a hF => ?_
      refine q_skip hF (wanted_f hF rfl rfl rfl rfl rfl) rfl fun a hF => ?_
      refine q_skip hF (wanted_f hF rfl rfl rfl rfl rfl) rfl fun a hF => ?_
      refine q_skip hF (wanted_f hF rfl rfl rfl rfl rfl) rfl fun a hF => ?_
      refine q_skip hF (wanted_f hF rfl rfl rfl rfl rfl) rfl fun a hF => ?_
      refine q_skip hF (wanted_f hF rfl rfl rfl rfl rfl) rfl fun a hF => ?_
      refine q_skip hF (wanted_f hF rfl rfl rfl rfl rfl) rfl fun a hF => ?_
      refine q_x (v := (.bool false)) hF hS (ex_pick_f rfl rfl rfl) rfl rfl fun a hF => ?_
      refine q_x (v := (.bool false)) hF hS (ex_assign rfl) rfl rfl fun a hF => ?_
      refine q_end (n_jn ?_)
      obtain rfl := someI hj1
      exact ⟨hF.sub ⟨rfl, trivial⟩, hS.mask [false]⟩
    · have hj1 := cond_t hc2 hj1
      refine q_xg (v := (.pointer (some ⟨b1, 1, none⟩))) hF hS (ex_fieldAddr Try.underlying26 rfl sz3 rfl rfl) (wanted_t hF rfl rfl rfl hc2) rfl fun a hF => ?_
      refine q_xg (v := (.int .i64 p_f.Den)) hF hS (ex_load1 0 0 Try.underlying3 rfl rfl rfl rfl) (wanted_t hF rfl rfl rfl hc2) rfl fun a hF => ?_
      refine q_xg (v := (.bool (decide (p_f.Den ≤ 1000000000)))) hF hS (ex_ibin rfl rfl rfl) (wanted_t hF rfl rfl rfl hc2) rfl fun a hF => ?_
      refine q_x (v := (.bool (decide (p_f.Den ≤ 1000000000)))) hF hS (ex_pick_t rfl rfl hc2) rfl rfl fun a hF => ?_
      refine q_x (v := (.bool (decide (p_f.Den ≤ 1000000000)))) hF hS (ex_move rfl) rfl rfl fun a hF => ?_
      rcases hc3 : (decide (p_f.Den ≤ 1000000000)) with _ | _
      · have hj1 := cond_f hc3 hj1
        refine q_skip hF (wanted_f hF rfl rfl rfl hc3 rfl) rfl fun a hF => ?_
        refine q_skip hF (wanted_f hF rfl rfl rfl hc3 rfl) rfl fun a hF => ?_
        refine q_skip hF (wanted_f hF rfl rfl rfl hc3 rfl) rfl fun a hF => ?_
        refine q_x (v := (.bool false)) hF hS (ex_pick_f rfl rfl hc3) rfl rfl fun a hF => ?_
        refine q_x (v := (.bool false)) hF hS (ex_move rfl) rfl rfl fun a hF => ?_
        refine q_skip hF (wanted_f hF rfl rfl rfl rfl rfl) rfl fun a hF => ?_
        refine q_skip hF (wanted_f hF rfl rfl rfl rfl rfl) rfl fun a hF => ?_
        refine q_skip hF (wanted_f hF rfl rfl rfl rfl rfl) rfl fun a hF => ?_
        refine q_x (v := (.bool false)) hF hS (ex_pick_f rfl rfl rfl) rfl rfl fun a hF => ?_
        refine q_x (v := (.bool false)) hF hS (ex_move rfl) rfl rfl fun a hF => ?_
        refine q_skip hF (wanted_f hF rfl rfl rfl rfl rfl) rfl fun a hF => ?_
        refine q_skip hF (wanted_f hF rfl rfl rfl rfl rfl) rfl fun a hF => ?_
        refine q_skip hF (wanted_f hF rfl rfl rfl rfl rfl) rfl fun a hF => ?_
        refine q_skip hF (wanted_f hF rfl rfl rfl rfl rfl) rfl fun a hF => ?_
        refine q_skip hF (wanted_f hF rfl rfl rfl rfl rfl) rfl fun a hF => ?_
        refine q_skip hF (wanted_f hF rfl rfl rfl rfl rfl) rfl fun a hF => ?_
        refine q_x (v := (.bool false)) hF hS (ex_pick_f rfl rfl rfl) rfl rfl fun a hF => ?_
        refine q_x (v := (.bool false)) hF hS (ex_assign rfl) rfl rfl fun a hF => ?_
        refine q_end (n_jn ?_)
        obtain rfl := someI hj1
        exact ⟨hF.sub ⟨rfl, trivial⟩, hS.mask [false]⟩
      · have hj1 := cond_t hc3 hj1
        refine q_xg (v := (.pointer (some ⟨b1, 0, none⟩))) hF hS (ex_fieldAddr Try.underlying26 rfl sz3 rfl rfl) (wanted_t hF rfl rfl rfl hc3) rfl fun a hF => ?_
        refine q_xg (v := (.int .i64 p_f.Num)) hF hS (ex_load1 0 0 Try.underlying3 rfl rfl rfl rfl) (wanted_t hF rfl rfl rfl hc3) rfl fun a hF => ?_
        refine q_xg (v := (.bool (decide ((-1000000000) ≤ p_f.Num)))) hF hS (ex_ibin rfl rfl rfl) (wanted_t hF rfl rfl rfl hc3) rfl fun a hF => ?_
        refine q_x (v := (.bool (decide ((-1000000000) ≤ p_f.Num)))) hF hS (ex_pick_t rfl rfl hc3) rfl rfl fun a hF => ?_
        refine q_x (v := (.bool (decide ((-1000000000) ≤ p_f.Num)))) hF hS (ex_move rfl) rfl rfl fun a hF => ?_
        rcases hc4 : (decide ((-1000000000) ≤ p_f.Num)) with _ | _
        · have hj1 := cond_f hc4 hj1
          refine q_skip hF (wanted_f hF rfl rfl rfl hc4 rfl) rfl fun a hF => ?_
          refine q_skip hF (wanted_f hF rfl rfl rfl hc4 rfl) rfl fun a hF => ?_
          refine q_skip hF (wanted_f hF rfl rfl rfl hc4 rfl) rfl fun a hF => ?_
          refine q_x (v := (.bool false)) hF hS (ex_pick_f rfl rfl hc4) rfl rfl fun a hF => ?_
          refine q_x (v := (.bool false)) hF hS (ex_move rfl) rfl rfl fun a hF => ?_
          refine q_skip hF (wanted_f hF rfl rfl rfl rfl rfl) rfl fun a hF => ?_
          refine q_skip hF (wanted_f hF rfl rfl rfl rfl rfl) rfl fun a hF => ?_
          refine q_skip hF (wanted_f hF rfl rfl rfl rfl rfl) rfl fun a hF => ?_
          refine q_skip hF (wanted_f hF rfl rfl rfl rfl rfl) rfl fun a hF => ?_
          refine q_skip hF (wanted_f hF rfl rfl rfl rfl rfl) rfl fun a hF => ?_
          refine q_skip hF (wanted_f hF rfl rfl rfl rfl rfl) rfl fun a hF => ?_
          refine q_x (v := (.bool false)) hF hS (ex_pick_f rfl rfl rfl) rfl rfl fun a hF => ?_
          refine q_x (v := (.bool false)) hF hS (ex_assign rfl) rfl rfl fun a hF => ?_
          refine q_end (n_jn ?_)
          obtain rfl := someI hj1
          exact ⟨hF.sub ⟨rfl, trivial⟩, hS.mask [false]⟩
        · have hj1 := cond_t hc4 hj1
          refine q_xg (v := (.pointer (some ⟨b1, 0, none⟩))) hF hS (ex_fieldAddr Try.underlying26 rfl sz3 rfl rfl) (wanted_t hF rfl rfl rfl hc4) rfl fun a hF => ?_
          refine q_xg (v := (.int .i64 p_f.Num)) hF hS (ex_load1 0 0 Try.underlying3 rfl rfl rfl rfl) (wanted_t hF rfl rfl rfl hc4) rfl fun a hF => ?_
          refine q_xg (v := (.bool (decide (p_f.Num ≤ 1000000000)))) hF hS (ex_ibin rfl rfl rfl) (wanted_t hF rfl rfl rfl hc4) rfl fun a hF => ?_
          refine q_x (v := (.bool (decide (p_f.Num ≤ 1000000000)))) hF hS (ex_pick_t rfl rfl hc4) rfl rfl fun a hF => ?_
          refine q_x (v := (.bool (decide (p_f.Num ≤ 1000000000)))) hF hS (ex_move rfl) rfl rfl fun a hF => ?_
          rcases hc5 : (decide (p_f.Num ≤ 1000000000)) with _ | _
          · have hj1 := cond_f hc5 hj1
            refine q_skip hF (wanted_f hF rfl rfl rfl hc5 rfl) rfl fun a hF => ?_
            refine q_skip hF (wanted_f hF rfl rfl rfl hc5 rfl) rfl fun a hF => ?_
            refine q_skip hF (wanted_f hF rfl rfl rfl hc5 rfl) rfl fun a hF => ?_
            refine q_skip hF (wanted_f hF rfl rfl rfl hc5 rfl) rfl fun a hF => ?_
            refine q_skip hF (wanted_f hF rfl rfl rfl hc5 rfl) rfl fun a hF => ?_
            refine q_skip hF (wanted_f hF rfl rfl rfl hc5 rfl) rfl fun a hF => ?_
            refine q_x (v := (.bool false)) hF hS (ex_pick_f rfl rfl hc5) rfl rfl fun a hF => ?_
            refine q_x (v := (.bool false)) hF hS (ex_assign rfl) rfl rfl fun a hF => ?_
            refine q_end (n_jn ?_)
            obtain rfl := someI hj1
            exact ⟨hF.sub ⟨rfl, trivial⟩, hS.mask [false]⟩
          · have hj1 := cond_t hc5 hj1
            refine q_xg (v := (.pointer (some ⟨b1, 0, none⟩))) hF hS (ex_fieldAddr Try.underlying26 rfl sz3 rfl rfl) (wanted_t hF rfl rfl rfl hc5) rfl fun a hF => ?_
            refine q_xg (v := (.int .i64 p_f.Num)) hF hS (ex_load1 0 0 Try.underlying3 rfl rfl rfl rfl) (wanted_t hF rfl rfl rfl hc5) rfl fun a hF => ?_
            refine q_xg (v := (.pointer (some ⟨b1, 1, none⟩))) hF hS (ex_fieldAddr Try.underlying26 rfl sz3 rfl rfl) (wanted_t hF rfl rfl rfl hc5) rfl fun a hF => ?_
            refine q_xg (v := (.int .i64 p_f.Den)) hF hS (ex_load1 0 0 Try.underlying3 rfl rfl rfl rfl) (wanted_t hF rfl rfl rfl hc5) rfl fun a hF => ?_
            obtain ⟨t_2, ht_2, hj1⟩ := bindS hj1
            refine q_callg (vs := [(.int .i64 p_f.Num), (.int .i64 p_f.Den)]) hF hS (wanted_t hF rfl rfl rfl hc5) Try.func143 (by kernel_rfl) rfl rfl rfl (c_impl_gcdOf p_f.Num p_f.Den t_2 ht_2 _ m hS.vis) ?_
            rintro a w _ rfl hF hS
            refine q_xg (v := (.bool (t_2 == 1))) hF hS (ex_ibin rfl rfl rfl) (wanted_t hF rfl rfl rfl hc5) rfl fun a hF => ?_
            refine q_x (v := (.bool (t_2 == 1))) hF hS (ex_pick_t rfl rfl hc5) rfl rfl fun a hF => ?_
            refine q_x (v := (.bool (t_2 == 1))) hF hS (ex_assign rfl) rfl rfl fun a hF => ?_
            refine q_end (n_jn ?_)
            obtain rfl := someI hj1
            exact ⟨hF.sub ⟨rfl, trivial⟩, hS.mask [false]⟩
  · rintro a w ⟨hF, hS⟩
    refine n_sq (q_ret ?_)
    obtain rfl := someI hr
    exact ret_of hF hS rfl (.tmp rfl .nil) rfl

theorem c_impl_reduced (p_n : Int) (p_d : Int) (r : impl_Frac × Bool) (hr : impl_reduced p_n p_d = some r) (w0 : World) (m : Mem) (hv : Vis m w0) :
    Ret Try.prog 106 [(.int .i64 p_n), (.int .i64 p_d)] w0 (fun v _ => v = (.tuple #[(.agg #[(.int .i64 r.1.Num), (.int .i64 r.1.Den)]), (.bool r.2)])) := by
  unfold impl_reduced at hr
  refine ret_start Try.func106 rfl 36 rfl rfl m hv fun a hF hS => ?_
  refine q_seq ?_
  refine q_region ?_
  refine q_alloc (cs := [(.int .i64 0), (.int .i64 0)]) hF hS rfl rfl rfl fun a w b1 hF hS => ?_
  refine q_x (v := (.bool false)) hF hS (ex_assign rfl) rfl rfl fun a hF => ?_
  refine q_end (n_sq ?_)
  refine q_seq ?_
  refine q_region ?_
  refine q_x (v := (.int .i64 p_n)) hF hS (ex_move rfl) rfl rfl fun a hF => ?_
  refine q_x (v := (.int .i64 p_d)) hF hS (ex_move rfl) rfl rfl fun a hF => ?_
  obtain ⟨t_2, ht_2, hr⟩ := bindS hr
  refine q_call (vs := [(.int .i64 p_n), (.int .i64 p_d)]) hF hS Try.func143 (by kernel_rfl) rfl rfl rfl (c_impl_gcdOf p_n p_d t_2 ht_2 _ m hS.vis) ?_
  rintro a w _ rfl hF hS
  refine q_x (v := (.int .i64 t_2)) hF hS (ex_assign rfl) rfl rfl fun a hF => ?_
  refine q_end (n_sq ?_)
  refine q_seq ?_
  refine e_region [] mixed fun w' hw' => ?_
  have hS := hS.below hw'
  refine e_p (v := (.int .i64 p_n)) 0 hF rfl (ex_move rfl) rfl rfl (by kernel_rfl) (by kernel_rfl) (by kernel_rfl) fun a hF => ?_
  refine e_p (v := (.int .i64 t_2)) 1 hF rfl (ex_move rfl) rfl rfl (by kernel_rfl) (by kernel_rfl) (by kernel_rfl) fun a hF => ?_
  obtain ⟨t_3, ht_3, hr⟩ := bindS hr
  refine e_p (v := (.int .i64 t_3)) 2 hF rfl (ex_quo rfl rfl ht_3) rfl rfl (by kernel_rfl) (by kernel_rfl) (by kernel_rfl) fun a hF => ?_
  refine e_p (v := (.int .i64 p_d)) 3 hF rfl (ex_move rfl) rfl rfl (by kernel_rfl) (by kernel_rfl) (by kernel_rfl) fun a hF => ?_
  refine e_p (v := (.int .i64 t_2)) 4 hF rfl (ex_move rfl) rfl rfl (by kernel_rfl) (by kernel_rfl) (by kernel_rfl) fun a hF => ?_
  obtain ⟨t_4, ht_4, hr⟩ := bindS hr
  refine e_p (v := (.int .i64 t_4)) 5 hF rfl (ex_quo rfl rfl ht_4) rfl rfl (by kernel_rfl) (by kernel_rfl) (by kernel_rfl) fun a hF => ?_
  refine e_p (v := (.int .i64 t_3)) 6 hF rfl (ex_assign rfl) rfl rfl (by kernel_rfl) (by kernel_rfl) (by kernel_rfl) fun a hF => ?_
  refine e_p (v := (.int .i64 t_4)) 7 hF rfl (ex_assign rfl) rfl rfl (by kernel_rfl) (by kernel_rfl) (by kernel_rfl) fun a hF => ?_
  refine e_end (by kernel_rfl) (n_sq ?_) _
  refine q_seq ?_
  refine q_seq ?_
  refine q_region ?_
  refine q_x (v := (.int .i64 t_4)) hF hS (ex_move rfl) rfl rfl fun a hF => ?_
  refine q_x (v := (.bool (decide (t_4 < 0)))) hF hS (ex_ibin rfl rfl rfl) rfl rfl fun a hF => ?_
  refine q_end (n_sq ?_)
  obtain ⟨j1, hj1, hr⟩ := bindS hr
  refine q_join (fun a w => ∃ n_5, ∃ d_6, j1 = (n_5, d_6) ∧ Fr a 36 [(0, (.int .i64 n_5)), (1, (.int .i64 d_6)), (4, (.pointer (some ⟨b1, 0, none⟩)))] ∧ St [] w0 w m [[⟨b1, [(.int .i64 0), (.int .i64 0)], 26⟩]]) ?_ ?_
  · rcases hc2 : (decide (t_4 < 0)) with _ | _
    · have hj1 := cond_f hc2 hj1
      refine q_cond_f hF rfl hc2 ?_
      refine q_skipc (n_jn ?_)
      obtain rfl := someI hj1
      exact ⟨_, _, rfl, hF.sub ⟨rfl, rfl, rfl, trivial⟩, hS⟩
    · have hj1 := cond_t hc2 hj1
      refine q_cond_t hF rfl hc2 ?_
      refine q_region ?_
      refine q_x (v := (.int .i64 t_3)) hF hS (ex_move rfl) rfl rfl fun a hF => ?_
      refine q_x (v := (.int .i64 (w64 (-t_3)))) hF hS (ex_neg rfl) rfl rfl fun a hF => ?_
      refine q_x (v := (.int .i64 t_4)) hF hS (ex_move rfl) rfl rfl fun a hF => ?_
      refine q_x (v := (.int .i64 (w64 (-t_4)))) hF hS (ex_neg rfl) rfl rfl fun a hF => ?_
      refine q_x (v := (.int .i64 (w64 (-t_3)))) hF hS (ex_assign rfl) rfl rfl fun a hF => ?_
      refine q_x (v := (.int .i64 (w64 (-t_4)))) hF hS (ex_assign rfl) rfl rfl fun a hF => ?_
      refine q_end (n_jn ?_)
      obtain rfl := someI hj1
      exact ⟨_, _, rfl, hF.sub ⟨rfl, rfl, rfl, trivial⟩, hS⟩
  · rintro a w ⟨n_5, d_6, rfl, hF, hS⟩
    refine n_sq ?_
    refine q_seq ?_
    refine q_seq ?_
    obtain ⟨t_7, hj3, hr⟩ := bindS hr
    refine q_join (fun a w => Fr a 36 [(0, (.int .i64 n_5)), (1, (.int .i64 d_6)), (4, (.pointer (some ⟨b1, 0, none⟩))), (31, (.bool t_7))] ∧ St [] w0 w m [[⟨b1, [(.int .i64 0), (.int .i64 0)], 26⟩]]) ?_ ?_
    · refine q_region ?_
      refine q_x (v := (.int .i64 n_5)) hF hS (ex_move rfl) rfl rfl fun a hF => ?_
      refine q_x (v := (.bool (decide (1000000000 < n_5)))) hF hS (ex_ibin rfl rfl rfl) rfl rfl fun a hF => ?_
      refine q_x (v := (.bool (decide (1000000000 < n_5)))) hF hS (ex_move rfl) rfl rfl fun a hF => ?_
      rcases hc4 : (decide (1000000000 < n_5)) with _ | _
      · have hj3 := cond_f hc4 hj3
        refine q_xg (v := (.int .i64 n_5)) hF hS (ex_move rfl) (wanted_t hF rfl rfl rfl hc4) rfl fun a hF => ?_
        refine q_xg (v := (.bool (decide (n_5 < (-1000000000))))) hF hS (ex_ibin rfl rfl rfl) (wanted_t hF rfl rfl rfl hc4) rfl fun a hF => ?_
        refine q_x (v := (.bool (decide (n_5 < (-1000000000))))) hF hS (ex_pick_f rfl rfl hc4) rfl rfl fun a hF => ?_
        refine q_x (v := (.bool (decide (n_5 < (-1000000000))))) hF hS (ex_move rfl) rfl rfl fun a hF => ?_
        rcases hc5 : (decide (n_5 < (-1000000000))) with _ | _
        · have hj3 := cond_f hc5 hj3
          refine q_xg (v := (.int .i64 d_6)) hF hS (ex_move rfl) (wanted_t hF rfl rfl rfl hc5) rfl fun a hF => ?_
          refine q_xg (v := (.bool (decide (1000000000 < d_6)))) hF hS (ex_ibin rfl rfl rfl) (wanted_t hF rfl rfl rfl hc5) rfl fun a hF => ?_
          refine q_x (v := (.bool (decide (1000000000 < d_6)))) hF hS (ex_pick_f rfl rfl hc5) rfl rfl fun a hF => ?_
          refine q_end (n_jn ?_)
          obtain rfl := someI hj3
          exact ⟨hF.sub ⟨rfl, rfl, rfl, rfl, trivial⟩, hS⟩
        · have hj3 := cond_t hc5 hj3
          refine q_skip hF (wanted_f hF rfl rfl rfl hc5 rfl) rfl fun a hF => ?_
          refine q_skip hF (wanted_f hF rfl rfl rfl hc5 rfl) rfl fun a hF => ?_
          refine q_x (v := (.bool true)) hF hS (ex_pick_t rfl rfl hc5) rfl rfl fun a hF => ?_
          refine q_end (n_jn ?_)
          obtain rfl := someI hj3
          exact ⟨hF.sub ⟨rfl, rfl, rfl, rfl, trivial⟩, hS⟩
      · have hj3 := cond_t hc4 hj3
        refine q_skip hF (wanted_f hF rfl rfl rfl hc4 rfl) rfl fun a hF => ?_
        refine q_skip hF (wanted_f hF rfl rfl rfl hc4 rfl) rfl fun a hF => ?_
        refine q_x (v := (.bool true)) hF hS (ex_pick_t rfl rfl hc4) rfl rfl fun a hF => ?_
        refine q_x (v := (.bool true)) hF hS (ex_move rfl) rfl rfl fun a hF => ?_
        refine q_skip hF (wanted_f hF rfl rfl rfl rfl rfl) rfl fun a hF => ?_
        refine q_skip hF (wanted_f hF rfl rfl rfl rfl rfl) rfl fun a hF => ?_
        refine q_x (v := (.bool true)) hF hS (ex_pick_t rfl rfl rfl) rfl rfl fun a hF => ?_
        refine q_end (n_jn ?_)
        obtain rfl := someI hj3
        exact ⟨hF.sub ⟨rfl, rfl, rfl, rfl, trivial⟩, hS⟩
    · rintro a w ⟨hF, hS⟩
      refine n_sq ?_
      rcases hc6 : (t_7) with _ | _
      · have hr := cond_f hc6 hr
        refine q_cond_f hF rfl hc6 ?_
        refine q_skipc (n_sq ?_)
        refine q_seq ?_
        refine q_region ?_
        refine q_x (v := (.int .i64 n_5)) hF hS (ex_move rfl) rfl rfl fun a hF => ?_
        refine q_x (v := (.int .i64 d_6)) hF hS (ex_move rfl) rfl rfl fun a hF => ?_
        refine q_x (v := (.agg #[(.int .i64 n_5), (.int .i64 d_6)])) hF hS (ex_build (cells := [(.int .i64 n_5), (.int .i64 d_6)]) rfl (by kernel_rfl)) rfl rfl fun a hF => ?_
        refine q_store (vs := [(.int .i64 n_5), (.int .i64 d_6)]) (cs' := [(.int .i64 n_5), (.int .i64 d_6)]) 0 0 hF hS sz26 rfl rfl rfl rfl rfl rfl rfl rfl fun a w hF hS => ?_
        refine q_x (v := (.bool true)) hF hS (ex_assign rfl) rfl rfl fun a hF => ?_
        refine q_end (n_sq (q_ret ?_))
        obtain rfl := someI hr
        exact ret_of hF hS rfl (.cellA (us := [(.int .i64 n_5), (.int .i64 d_6)]) 0 0 Try.underlying26 rfl sz26 rfl rfl rfl rfl (.tmp rfl .nil)) rfl
      · have hr := cond_t hc6 hr
        refine q_cond_t hF rfl hc6 ?_
        refine q_seq ?_
        refine q_region ?_
        refine q_x (v := (.agg #[(.int .i64 0), (.int .i64 0)])) hF hS (ex_build (cells := [(.int .i64 0), (.int .i64 0)]) rfl (by kernel_rfl)) rfl rfl fun a hF => ?_
        refine q_store (vs := [(.int .i64 0), (.int .i64 0)]) (cs' := [(.int .i64 0), (.int .i64 0)]) 0 0 hF hS sz26 rfl rfl rfl rfl rfl rfl rfl rfl fun a w hF hS => ?_
        refine q_x (v := (.bool false)) hF hS (ex_assign rfl) rfl rfl fun a hF => ?_
        refine q_end (n_sq (q_ret (r_sq ?_)))
        obtain rfl := someI hr
        exact ret_of hF hS rfl (.cellA (us := [(.int .i64 0), (.int .i64 0)]) 0 0 Try.underlying26 rfl sz26 rfl rfl rfl rfl (.tmp rfl .nil)) rfl

theorem c_impl_AddFrac (p_a : impl_Frac) (p_b : impl_Frac) (r : impl_Frac × Bool) (hr : impl_AddFrac p_a p_b = some r) (w0 : World) (m : Mem) (hv : Vis m w0) :
    Ret Try.prog 122 [(.agg #[(.int .i64 p_a.Num), (.int .i64 p_a.Den)]), (.agg #[(.int .i64 p_b.Num), (.int .i64 p_b.Den)])] w0 (fun v _ => v = (.tuple #[(.agg #[(.int .i64 r.1.Num), (.int .i64 r.1.Den)]), (.bool r.2)])) := by
  unfold impl_AddFrac at hr
  refine ret_start Try.func122 rfl 34 rfl rfl m hv fun a hF hS => ?_
  refine q_seq ?_
  refine q_region ?_
  refine q_box (cs := [(.int .i64 p_a.Num), (.int .i64 p_a.Den)]) hF hS rfl rfl rfl fun a w b1 hF hS => ?_
  refine q_box (cs := [(.int .i64 p_b.Num), (.int .i64 p_b.Den)]) hF hS rfl rfl rfl fun a w b2 hF hS => ?_
  refine q_alloc (cs := [(.int .i64 0), (.int .i64 0)]) hF hS rfl rfl rfl fun a w b3 hF hS => ?_
  refine q_x (v := (.bool false)) hF hS (ex_assign rfl) rfl rfl fun a hF => ?_
  refine q_end (n_sq ?_)
  refine q_seq ?_
  refine q_seq ?_
  obtain ⟨t_6, hj1, hr⟩ := bindS hr
  refine q_join (fun a w => Fr a 34 [(2, (.pointer (some ⟨b1, 0, none⟩))), (3, (.pointer (some ⟨b2, 0, none⟩))), (4, (.pointer (some ⟨b3, 0, none⟩))), (13, (.bool t_6))] ∧ St [] w0 w m [[⟨b3, [(.int .i64 0), (.int .i64 0)], 26⟩], [⟨b2, [(.int .i64 p_b.Num), (.int .i64 p_b.Den)], 26⟩], [⟨b1, [(.int .i64 p_a.Num), (.int .i64 p_a.Den)], 26⟩]]) ?_ ?_
  · refine q_region ?_
    refine q_x (v := (.agg #[(.int .i64 p_a.Num), (.int .i64 p_a.Den)])) hF hS (ex_loadA (vs := [(.int .i64 p_a.Num), (.int .i64 p_a.Den)]) 2 0 Try.underlying26 rfl sz26 rfl rfl rfl rfl) rfl rfl fun a hF => ?_
    obtain ⟨t_4, ht_4, hj1⟩ := bindS hj1
    refine q_call (vs := [(.agg #[(.int .i64 p_a.Num), (.int .i64 p_a.Den)])]) hF hS Try.func99 (by kernel_rfl) rfl rfl rfl (c_impl_IsFrac p_a t_4 ht_4 _ m hS.vis) ?_
    rintro a w _ rfl hF hS
    refine q_x (v := (.bool (!t_4))) hF hS (ex_not rfl) rfl rfl fun a hF => ?_
    refine q_x (v := (.bool (!t_4))) hF hS (ex_move rfl) rfl rfl fun a hF => ?_
    rcases hc2 : (!t_4) with _ | _
    · have hj1 := cond_f hc2 hj1
      refine q_xg (v := (.agg #[(.int .i64 p_b.Num), (.int .i64 p_b.Den)])) hF hS (ex_loadA (vs := [(.int .i64 p_b.Num), (.int .i64 p_b.Den)]) 1 0 Try.underlying26 rfl sz26 rfl rfl rfl rfl) (wanted_t hF rfl rfl rfl hc2) rfl fun a hF => ?_
      obtain ⟨t_5, ht_5, hj1⟩ := bindS hj1
      refine q_callg (vs := [(.agg #[(.int .i64 p_b.Num), (.int .i64 p_b.Den)])]) hF hS (wanted_t hF rfl rfl rfl hc2) Try.func99 (by kernel_rfl) rfl rfl rfl (c_impl_IsFrac p_b t_5 ht_5 _ m hS.vis) ?_
      rintro a w _ rfl hF hS
      refine q_xg (v := (.bool (!t_5))) hF hS (ex_not rfl) (wanted_t hF rfl rfl rfl hc2) rfl fun a hF => ?_
      refine q_x (v := (.bool (!t_5))) hF hS (ex_pick_f rfl rfl hc2) rfl rfl fun a hF => ?_
      refine q_end (n_jn ?_)
      obtain rfl := someI hj1
      exact ⟨hF.sub ⟨rfl, rfl, rfl, rfl, trivial⟩, hS⟩
    · have hj1 := cond_t hc2 hj1
      refine q_skip hF (wanted_f hF rfl rfl rfl hc2 rfl) rfl fun a hF => ?_
      refine q_skip hF (wanted_f hF rfl rfl rfl hc2 rfl) rfl fun a hF => ?_
      refine q_skip hF (wanted_f hF rfl rfl rfl hc2 rfl) rfl fun a hF => ?_
      refine q_x (v := (.bool true)) hF hS (ex_pick_t rfl rfl hc2) rfl rfl fun a hF => ?_
      refine q_end (n_jn ?_)
      obtain rfl := someI hj1
      exact ⟨hF.sub ⟨rfl, rfl, rfl, rfl, trivial⟩, hS⟩
  · rintro a w ⟨hF, hS⟩
    refine n_sq ?_
    rcases hc3 : (t_6) with _ | _
    · have hr := cond_f hc3 hr
      refine q_cond_f hF rfl hc3 ?_
      refine q_skipc (n_sq ?_)
      refine q_seq ?_
      refine q_region ?_
      refine q_x (v := (.pointer (some ⟨b1, 0, none⟩))) hF hS (ex_fieldAddr Try.underlying26 rfl sz3 rfl rfl) rfl rfl fun a hF => ?_
      refine q_x (v := (.int .i64 p_a.Num)) hF hS (ex_load1 2 0 Try.underlying3 rfl rfl rfl rfl) rfl rfl fun a hF => ?_
      refine q_x (v := (.pointer (some ⟨b2, 1, none⟩))) hF hS (ex_fieldAddr Try.underlying26 rfl sz3 rfl rfl) rfl rfl fun a hF => ?_
      refine q_x (v := (.int .i64 p_b.Den)) hF hS (ex_load1 1 0 Try.underlying3 rfl rfl rfl rfl) rfl rfl fun a hF => ?_
      refine q_x (v := (.int .i64 (w64 (p_a.Num * p_b.Den)))) hF hS (ex_ibin rfl rfl rfl) rfl rfl fun a hF => ?_
      refine q_x (v := (.pointer (some ⟨b2, 0, none⟩))) hF hS (ex_fieldAddr Try.underlying26 rfl sz3 rfl rfl) rfl rfl fun a hF => ?_
      refine q_x (v := (.int .i64 p_b.Num)) hF hS (ex_load1 1 0 Try.underlying3 rfl rfl rfl rfl) rfl rfl fun a hF => ?_
      refine q_x (v := (.pointer (some ⟨b1, 1, none⟩))) hF hS (ex_fieldAddr Try.underlying26 rfl sz3 rfl rfl) rfl rfl fun a hF => ?_
      refine q_x (v := (.int .i64 p_a.Den)) hF hS (ex_load1 2 0 Try.underlying3 rfl rfl rfl rfl) rfl rfl fun a hF => ?_
      refine q_x (v := (.int .i64 (w64 (p_b.Num * p_a.Den)))) hF hS (ex_ibin rfl rfl rfl) rfl rfl fun a hF => ?_
      refine q_x (v := (.int .i64 (w64 ((w64 (p_a.Num * p_b.Den)) + (w64 (p_b.Num * p_a.Den)))))) hF hS (ex_ibin rfl rfl rfl) rfl rfl fun a hF => ?_
      refine q_x (v := (.pointer (some ⟨b1, 1, none⟩))) hF hS (ex_fieldAddr Try.underlying26 rfl sz3 rfl rfl) rfl rfl fun a hF => ?_
      refine q_x (v := (.int .i64 p_a.Den)) hF hS (ex_load1 2 0 Try.underlying3 rfl rfl rfl rfl) rfl rfl fun a hF => ?_
      refine q_x (v := (.pointer (some ⟨b2, 1, none⟩))) hF hS (ex_fieldAddr Try.underlying26 rfl sz3 rfl rfl) rfl rfl fun a hF => ?_
      refine q_x (v := (.int .i64 p_b.Den)) hF hS (ex_load1 1 0 Try.underlying3 rfl rfl rfl rfl) rfl rfl fun a hF => ?_
      refine q_x (v := (.int .i64 (w64 (p_a.Den * p_b.Den)))) hF hS (ex_ibin rfl rfl rfl) rfl rfl fun a hF => ?_
      obtain ⟨t_7, ht_7, hr⟩ := bindS hr
      refine q_call (vs := [(.int .i64 (w64 ((w64 (p_a.Num * p_b.Den)) + (w64 (p_b.Num * p_a.Den))))), (.int .i64 (w64 (p_a.Den * p_b.Den)))]) hF hS Try.func106 (by kernel_rfl) rfl rfl rfl (c_impl_reduced (w64 ((w64 (p_a.Num * p_b.Den)) + (w64 (p_b.Num * p_a.Den)))) (w64 (p_a.Den * p_b.Den)) t_7 ht_7 _ m hS.vis) ?_
      rintro a w _ rfl hF hS
      refine q_x (v := (.agg #[(.int .i64 t_7.1.Num), (.int .i64 t_7.1.Den)])) hF hS (ex_extract rfl rfl) rfl rfl fun a hF => ?_
      refine q_x (v := (.bool t_7.2)) hF hS (ex_extract rfl rfl) rfl rfl fun a hF => ?_
      refine q_store (vs := [(.int .i64 t_7.1.Num), (.int .i64 t_7.1.Den)]) (cs' := [(.int .i64 t_7.1.Num), (.int .i64 t_7.1.Den)]) 0 0 hF hS sz26 rfl rfl rfl rfl rfl rfl rfl rfl fun a w hF hS => ?_
      refine q_x (v := (.bool t_7.2)) hF hS (ex_assign rfl) rfl rfl fun a hF => ?_
      refine q_end (n_sq (q_ret ?_))
      obtain rfl := someI hr
      exact ret_of hF hS rfl (.cellA (us := [(.int .i64 t_7.1.Num), (.int .i64 t_7.1.Den)]) 0 0 Try.underlying26 rfl sz26 rfl rfl rfl rfl (.tmp rfl .nil)) rfl
    · have hr := cond_t hc3 hr
      refine q_cond_t hF rfl hc3 ?_
      refine q_seq ?_
      refine q_region ?_
      refine q_x (v := (.agg #[(.int .i64 0), (.int .i64 0)])) hF hS (ex_build (cells := [(.int .i64 0), (.int .i64 0)]) rfl (by kernel_rfl)) rfl rfl fun a hF => ?_
      refine q_store (vs := [(.int .i64 0), (.int .i64 0)]) (cs' := [(.int .i64 0), (.int .i64 0)]) 0 0 hF hS sz26 rfl rfl rfl rfl rfl rfl rfl rfl fun a w hF hS => ?_
      refine q_x (v := (.bool false)) hF hS (ex_assign rfl) rfl rfl fun a hF => ?_
      refine q_end (n_sq (q_ret (r_sq ?_)))
      obtain rfl := someI hr
      exact ret_of hF hS rfl (.cellA (us := [(.int .i64 0), (.int .i64 0)]) 0 0 Try.underlying26 rfl sz26 rfl rfl rfl rfl (.tmp rfl .nil)) rfl

theorem c_impl_isDistribution (p_l : List impl_Frac) (r : Bool) (hr : impl_isDistribution p_l = some r) (w0 : World) (m : Mem) (hv : Vis m w0) (s1 : Sl) (h1 : Rd m s1 p_l) :
    Ret Try.prog 117 [s1.v] w0 (fun v _ => v = (.bool r)) := by
  unfold impl_isDistribution at hr
  refine ret_start Try.func117 rfl 36 rfl rfl m hv fun a hF hS => ?_
  refine q_seq ?_
  refine q_region ?_
  refine q_x (v := (.bool false)) hF hS (ex_assign rfl) rfl rfl fun a hF => ?_
  refine q_end (n_sq ?_)
  refine q_seq ?_
  refine q_region ?_
  refine q_x (v := (.agg #[(.int .i64 0), (.int .i64 1)])) hF hS (ex_build (cells := [(.int .i64 0), (.int .i64 1)]) rfl (by kernel_rfl)) rfl rfl fun a hF => ?_
  refine q_alloc (cs := [(.int .i64 0), (.int .i64 0)]) hF hS rfl rfl rfl fun a w b2 hF hS => ?_
  refine q_store (vs := [(.int .i64 0), (.int .i64 1)]) (cs' := [(.int .i64 0), (.int .i64 1)]) 0 0 hF hS sz26 rfl rfl rfl rfl rfl rfl rfl rfl fun a w hF hS => ?_
  refine q_end (n_sq ?_)
  refine q_seq ?_
  refine q_seq ?_
  refine q_region ?_
  refine q_x (v := s1.v) hF hS (ex_move rfl) rfl rfl fun a hF => ?_
  refine q_x (v := (.int .i64 (goLen p_l))) hF hS (ex_len Try.underlying51 rfl h1.len) rfl rfl fun a hF => ?_
  refine q_x (v := (.int .i64 0)) hF hS (ex_move rfl) rfl rfl fun a hF => ?_
  refine q_end (n_sq ?_)
  refine q_block ?_
  obtain ⟨o1, hl1, hr⟩ := bindS hr
  refine q_loop (fun (s : Int × impl_Frac) a w => ∃ t_3, ∃ sum_4, s = (t_3, sum_4) ∧ Fr a 36 [(3, (.pointer (some ⟨b2, 0, none⟩))), (9, s1.v), (10, (.int .i64 (goLen p_l))), (11, (.int .i64 t_3))] ∧ St [] w0 w m [[⟨b2, [(.int .i64 sum_4.Num), (.int .i64 sum_4.Den)], 26⟩]]) (fun (o : (impl_Frac) ⊕ (Bool)) e a w => ∃ sum_12, o = .inl sum_12 ∧ e = .exit 0 ∧ Fr a 36 [(3, (.pointer (some ⟨b2, 0, none⟩)))] ∧ St [] w0 w m [[⟨b2, [(.int .i64 sum_12.Num), (.int .i64 sum_12.Den)], 26⟩]]) hl1 ⟨_, _, rfl, hF.sub ⟨rfl, rfl, rfl, rfl, trivial⟩, hS⟩ ?_ ?_
  · clear hF hS
    rintro s a w st ⟨t_3, sum_4, rfl, hF, hS⟩ hb1
    unfold impl_isDistribution_l1 at hb1
    refine q_seq ?_
    refine q_region ?_
    refine q_x (v := (.bool (decide (t_3 < (goLen p_l))))) hF hS (ex_ibin rfl rfl rfl) rfl rfl fun a hF => ?_
    refine q_end (n_sq ?_)
    refine q_seq ?_
    rcases hc2 : (decide (t_3 < (goLen p_l))) with _ | _
    · have hb1 := cond_f hc2 hb1
      refine q_cond_f hF rfl hc2 ?_
      refine q_exit (x_sq ?_)
      obtain rfl := someI hb1
      exact ⟨nofun, .inl ⟨_, rfl, rfl, hF.sub ⟨rfl, trivial⟩, hS⟩⟩
    · have hb1 := cond_t hc2 hb1
      refine q_cond_t hF rfl hc2 ?_
      refine q_skipc (n_sq ?_)
      refine q_seq ?_
      refine q_block ?_
      refine q_seq ?_
      refine q_region ?_
      obtain ⟨e_5, he_5, hb1⟩ := bindS hb1
      obtain ⟨vs6, at6, d6⟩ := h1.at he_5 2 rfl
      obtain rfl : vs6 = [(.int .i64 e_5.Num), (.int .i64 e_5.Den)] := d6
      refine q_x (v := (elP s1 (t_3.toNat * 2))) hF hS (ex_indexAddr Try.underlying51 sz26 rfl rfl (h1.idx he_5)) rfl rfl fun a hF => ?_
      refine q_x (v := (.agg #[(.int .i64 e_5.Num), (.int .i64 e_5.Den)])) hF hS (ex_loadEA (us := [(.int .i64 e_5.Num), (.int .i64 e_5.Den)]) 0 Try.underlying26 rfl sz26 rfl ((at6).at) rfl rfl rfl) rfl rfl fun a hF => ?_
      refine q_alloc (cs := [(.int .i64 0), (.int .i64 0)]) hF hS rfl rfl rfl fun a w b7 hF hS => ?_
      refine q_store (vs := [(.int .i64 e_5.Num), (.int .i64 e_5.Den)]) (cs' := [(.int .i64 e_5.Num), (.int .i64 e_5.Den)]) 0 0 hF hS sz26 rfl rfl rfl rfl rfl rfl rfl rfl fun a w hF hS => ?_
      refine q_end (n_sq ?_)
      refine q_seq ?_
      refine q_seq ?_
      obtain ⟨t_9, hj3, hb1⟩ := bindS hb1
      refine q_join (fun a w => Fr a 36 [(3, (.pointer (some ⟨b2, 0, none⟩))), (5, (.pointer (some ⟨b7, 0, none⟩))), (9, s1.v), (10, (.int .i64 (goLen p_l))), (11, (.int .i64 t_3)), (22, (.bool t_9))] ∧ St [] w0 w m [[⟨b7, [(.int .i64 e_5.Num), (.int .i64 e_5.Den)], 26⟩], [⟨b2, [(.int .i64 sum_4.Num), (.int .i64 sum_4.Den)], 26⟩]]) ?_ ?_
      · refine q_region ?_
        refine q_x (v := (.agg #[(.int .i64 e_5.Num), (.int .i64 e_5.Den)])) hF hS (ex_loadA (vs := [(.int .i64 e_5.Num), (.int .i64 e_5.Den)]) 0 0 Try.underlying26 rfl sz26 rfl rfl rfl rfl) rfl rfl fun a hF => ?_
        obtain ⟨t_8, ht_8, hj3⟩ := bindS hj3
        refine q_call (vs := [(.agg #[(.int .i64 e_5.Num), (.int .i64 e_5.Den)])]) hF hS Try.func99 (by kernel_rfl) rfl rfl rfl (c_impl_IsFrac e_5 t_8 ht_8 _ m hS.vis) ?_
        rintro a w _ rfl hF hS
        refine q_x (v := (.bool (!t_8))) hF hS (ex_not rfl) rfl rfl fun a hF => ?_
        refine q_x (v := (.bool (!t_8))) hF hS (ex_move rfl) rfl rfl fun a hF => ?_
        rcases hc4 : (!t_8) with _ | _
        · have hj3 := cond_f hc4 hj3
          refine q_xg (v := (.pointer (some ⟨b7, 0, none⟩))) hF hS (ex_fieldAddr Try.underlying26 rfl sz3 rfl rfl) (wanted_t hF rfl rfl rfl hc4) rfl fun a hF => ?_
          refine q_xg (v := (.int .i64 e_5.Num)) hF hS (ex_load1 0 0 Try.underlying3 rfl rfl rfl rfl) (wanted_t hF rfl rfl rfl hc4) rfl fun a hF => ?_
          refine q_xg (v := (.bool (decide (e_5.Num < 0)))) hF hS (ex_ibin rfl rfl rfl) (wanted_t hF rfl rfl rfl hc4) rfl fun a hF => ?_
          refine q_x (v := (.bool (decide (e_5.Num < 0)))) hF hS (ex_pick_f rfl rfl hc4) rfl rfl fun a hF => ?_
          refine q_end (n_jn ?_)
          obtain rfl := someI hj3
          exact ⟨hF.sub ⟨rfl, rfl, rfl, rfl, rfl, rfl, trivial⟩, hS⟩
        · have hj3 := cond_t hc4 hj3
          refine q_skip hF (wanted_f hF rfl rfl rfl hc4 rfl) rfl fun a hF => ?_
          refine q_skip hF (wanted_f hF rfl rfl rfl hc4 rfl) rfl fun a hF => ?_
          refine q_skip hF (wanted_f hF rfl rfl rfl hc4 rfl) rfl fun a hF => ?_
          refine q_x (v := (.bool true)) hF hS (ex_pick_t rfl rfl hc4) rfl rfl fun a hF => ?_
          refine q_end (n_jn ?_)
          obtain rfl := someI hj3
          exact ⟨hF.sub ⟨rfl, rfl, rfl, rfl, rfl, rfl, trivial⟩, hS⟩
      · rintro a w ⟨hF, hS⟩
        refine n_sq ?_
        rcases hc5 : (t_9) with _ | _
        · have hb1 := cond_f hc5 hb1
          refine q_cond_f hF rfl hc5 ?_
          refine q_skipc (n_sq ?_)
          refine q_seq ?_
          refine q_region ?_
          refine q_x (v := (.agg #[(.int .i64 sum_4.Num), (.int .i64 sum_4.Den)])) hF hS (ex_loadA (vs := [(.int .i64 sum_4.Num), (.int .i64 sum_4.Den)]) 1 0 Try.underlying26 rfl sz26 rfl rfl rfl rfl) rfl rfl fun a hF => ?_
          refine q_x (v := (.agg #[(.int .i64 e_5.Num), (.int .i64 e_5.Den)])) hF hS (ex_loadA (vs := [(.int .i64 e_5.Num), (.int .i64 e_5.Den)]) 0 0 Try.underlying26 rfl sz26 rfl rfl rfl rfl) rfl rfl fun a hF => ?_
          obtain ⟨t_10, ht_10, hb1⟩ := bindS hb1
          refine q_call (vs := [(.agg #[(.int .i64 sum_4.Num), (.int .i64 sum_4.Den)]), (.agg #[(.int .i64 e_5.Num), (.int .i64 e_5.Den)])]) hF hS Try.func122 (by kernel_rfl) rfl rfl rfl (c_impl_AddFrac sum_4 e_5 t_10 ht_10 _ m hS.vis) ?_
          rintro a w _ rfl hF hS
          refine q_x (v := (.tuple #[(.agg #[(.int .i64 t_10.1.Num), (.int .i64 t_10.1.Den)]), (.bool t_10.2)])) hF hS (ex_move rfl) rfl rfl fun a hF => ?_
          refine q_x (v := (.agg #[(.int .i64 t_10.1.Num), (.int .i64 t_10.1.Den)])) hF hS (ex_extract rfl rfl) rfl rfl fun a hF => ?_
          refine q_x (v := (.bool t_10.2)) hF hS (ex_extract rfl rfl) rfl rfl fun a hF => ?_
          refine q_alloc (cs := [(.int .i64 0), (.int .i64 0)]) hF hS rfl rfl rfl fun a w b11 hF hS => ?_
          refine q_store (vs := [(.int .i64 t_10.1.Num), (.int .i64 t_10.1.Den)]) (cs' := [(.int .i64 t_10.1.Num), (.int .i64 t_10.1.Den)]) 0 0 hF hS sz26 rfl rfl rfl rfl rfl rfl rfl rfl fun a w hF hS => ?_
          refine q_x (v := (.bool t_10.2)) hF hS (ex_assign rfl) rfl rfl fun a hF => ?_
          refine q_end (n_sq ?_)
          refine q_seq ?_
          refine q_seq ?_
          refine q_region ?_
          refine q_x (v := (.bool t_10.2)) hF hS (ex_move rfl) rfl rfl fun a hF => ?_
          refine q_x (v := (.bool (!t_10.2))) hF hS (ex_not rfl) rfl rfl fun a hF => ?_
          refine q_end (n_sq ?_)
          rcases hc6 : (!t_10.2) with _ | _
          · have hb1 := cond_f hc6 hb1
            refine q_cond_f hF rfl hc6 ?_
            refine q_skipc (n_sq ?_)
            refine q_region ?_
            refine q_x (v := (.agg #[(.int .i64 t_10.1.Num), (.int .i64 t_10.1.Den)])) hF hS (ex_loadA (vs := [(.int .i64 t_10.1.Num), (.int .i64 t_10.1.Den)]) 0 0 Try.underlying26 rfl sz26 rfl rfl rfl rfl) rfl rfl fun a hF => ?_
            refine q_store (vs := [(.int .i64 t_10.1.Num), (.int .i64 t_10.1.Den)]) (cs' := [(.int .i64 t_10.1.Num), (.int .i64 t_10.1.Den)]) 2 0 hF hS sz26 rfl rfl rfl rfl rfl rfl rfl rfl fun a w hF hS => ?_
            refine q_end (n_ib (n_sq ?_))
            refine q_region ?_
            refine q_x (v := (.int .i64 (w64 (t_3 + 1)))) hF hS (ex_ibin rfl rfl rfl) rfl rfl fun a hF => ?_
            refine q_x (v := (.int .i64 (w64 (t_3 + 1)))) hF hS (ex_move rfl) rfl rfl fun a hF => ?_
            refine q_end ?_
            obtain rfl := someI hb1
            exact ⟨rfl, _, _, rfl, hF.sub ⟨rfl, rfl, rfl, rfl, trivial⟩, hS.mask [false, false, true]⟩
          · have hb1 := cond_t hc6 hb1
            refine q_cond_t hF rfl hc6 ?_
            refine q_seq ?_
            refine q_region ?_
            refine q_x (v := (.bool false)) hF hS (ex_assign rfl) rfl rfl fun a hF => ?_
            refine q_end (n_sq (q_ret (r_sq (r_ib (r_sq ?_)))))
            obtain rfl := someI hb1
            refine ⟨nofun, .inr fun ho => ?_⟩
            subst ho
            refine r_ib (r_sq ?_)
            obtain rfl := someI hr
            exact ret_of hF hS rfl (.tmp rfl .nil) rfl
        · have hb1 := cond_t hc5 hb1
          refine q_cond_t hF rfl hc5 ?_
          refine q_seq ?_
          refine q_region ?_
          refine q_x (v := (.bool false)) hF hS (ex_assign rfl) rfl rfl fun a hF => ?_
          refine q_end (n_sq (q_ret (r_sq (r_ib (r_sq ?_)))))
          obtain rfl := someI hb1
          refine ⟨nofun, .inr fun ho => ?_⟩
          subst ho
          refine r_ib (r_sq ?_)
          obtain rfl := someI hr
          exact ret_of hF hS rfl (.tmp rfl .nil) rfl
  · rintro e a w ⟨sum_12, rfl, rfl, hF, hS⟩
    refine x_ib (n_sq ?_)
    refine q_seq ?_
    refine q_region ?_
    refine q_x (v := (.agg #[(.int .i64 sum_12.Num), (.int .i64 sum_12.Den)])) hF hS (ex_loadA (vs := [(.int .i64 sum_12.Num), (.int .i64 sum_12.Den)]) 0 0 Try.underlying26 rfl sz26 rfl rfl rfl rfl) rfl rfl fun a hF => ?_
    refine q_x (v := (.agg #[(.int .i64 1), (.int .i64 1)])) hF hS (ex_build (cells := [(.int .i64 1), (.int .i64 1)]) rfl (by kernel_rfl)) rfl rfl fun a hF => ?_
    refine q_x (v := (.bool ((sum_12.Num == 1) && ((sum_12.Den == 1) && true)))) hF hS (ex_eqA (xs := [(.int .i64 sum_12.Num), (.int .i64 sum_12.Den)]) (ys := [(.int .i64 1), (.int .i64 1)]) rfl rfl (by kernel_rfl) (eqv_struct (xs := [(.int .i64 sum_12.Num), (.int .i64 sum_12.Den)]) (ys := [(.int .i64 1), (.int .i64 1)]) Try.underlying26 (by kernel_rfl) (eqf_cons rfl (part_cell Try.underlying3 rfl rfl) (part_cell Try.underlying3 rfl rfl) (eqv_int Try.underlying3) (eqf_cons rfl (part_cell Try.underlying3 rfl rfl) (part_cell Try.underlying3 rfl rfl) (eqv_int Try.underlying3) (eqf_nil))))) rfl rfl fun a hF => ?_
    refine q_x (v := (.bool ((sum_12.Num == 1) && ((sum_12.Den == 1) && true)))) hF hS (ex_assign rfl) rfl rfl fun a hF => ?_
    refine q_end (n_sq (q_ret ?_))
    obtain rfl := someI hr
    exact ret_of hF hS rfl (.tmp rfl .nil) rfl

theorem c_impl_IsMechanism (p_m : impl_Mechanism) (r : Bool) (hr : impl_IsMechanism p_m = some r) (w0 : World) (m : Mem) (hv : Vis m w0) (s1 : Sl) (h1 : Rd m s1 p_m.Rows) :
    Ret Try.prog 52 [(.agg #[s1.v])] w0 (fun v _ => v = (.bool r)) := by
  unfold impl_IsMechanism at hr
  refine ret_start Try.func52 rfl 52 rfl rfl m hv fun a hF hS => ?_
  refine q_seq ?_
  refine q_region ?_
  refine q_box (cs := [s1.v]) hF hS rfl rfl rfl fun a w b2 hF hS => ?_
  refine q_x (v := (.bool false)) hF hS (ex_assign rfl) rfl rfl fun a hF => ?_
  refine q_end (n_sq ?_)
  refine q_seq ?_
  refine q_seq ?_
  obtain ⟨t_9, hj1, hr⟩ := bindS hr
  refine q_join (fun a w => Fr a 52 [(1, (.pointer (some ⟨b2, 0, none⟩))), (30, (.bool t_9))] ∧ St [] w0 w m [[⟨b2, [s1.v], 68⟩]]) ?_ ?_
  · refine q_region ?_
    refine q_x (v := (.pointer (some ⟨b2, 0, none⟩))) hF hS (ex_fieldAddr Try.underlying68 rfl sz66 rfl rfl) rfl rfl fun a hF => ?_
    refine q_x (v := s1.v) hF hS (ex_load1 0 0 Try.underlying66 rfl rfl rfl rfl) rfl rfl fun a hF => ?_
    refine q_x (v := (.int .i64 (goLen p_m.Rows))) hF hS (ex_len Try.underlying66 rfl h1.len) rfl rfl fun a hF => ?_
    refine q_x (v := (.bool (decide ((goLen p_m.Rows) < 1)))) hF hS (ex_ibin rfl rfl rfl) rfl rfl fun a hF => ?_
    refine q_x (v := (.bool (decide ((goLen p_m.Rows) < 1)))) hF hS (ex_move rfl) rfl rfl fun a hF => ?_
    rcases hc2 : (decide ((goLen p_m.Rows) < 1)) with _ | _
    · have hj1 := cond_f hc2 hj1
      refine q_xg (v := (.pointer (some ⟨b2, 0, none⟩))) hF hS (ex_fieldAddr Try.underlying68 rfl sz66 rfl rfl) (wanted_t hF rfl rfl rfl hc2) rfl fun a hF => ?_
      refine q_xg (v := s1.v) hF hS (ex_load1 0 0 Try.underlying66 rfl rfl rfl rfl) (wanted_t hF rfl rfl rfl hc2) rfl fun a hF => ?_
      refine q_xg (v := (.int .i64 (goLen p_m.Rows))) hF hS (ex_len Try.underlying66 rfl h1.len) (wanted_t hF rfl rfl rfl hc2) rfl fun a hF => ?_
      refine q_xg (v := (.bool (decide (8 < (goLen p_m.Rows))))) hF hS (ex_ibin rfl rfl rfl) (wanted_t hF rfl rfl rfl hc2) rfl fun a hF => ?_
      refine q_x (v := (.bool (decide (8 < (goLen p_m.Rows))))) hF hS (ex_pick_f rfl rfl hc2) rfl rfl fun a hF => ?_
      refine q_x (v := (.bool (decide (8 < (goLen p_m.Rows))))) hF hS (ex_move rfl) rfl rfl fun a hF => ?_
      rcases hc3 : (decide (8 < (goLen p_m.Rows))) with _ | _
      · have hj1 := cond_f hc3 hj1
        refine q_xg (v := (.pointer (some ⟨b2, 0, none⟩))) hF hS (ex_fieldAddr Try.underlying68 rfl sz66 rfl rfl) (wanted_t hF rfl rfl rfl hc3) rfl fun a hF => ?_
        refine q_xg (v := s1.v) hF hS (ex_load1 0 0 Try.underlying66 rfl rfl rfl rfl) (wanted_t hF rfl rfl rfl hc3) rfl fun a hF => ?_
        obtain ⟨e_3, he_3, hj1⟩ := bindS hj1
        obtain ⟨vs4, at4, d4⟩ := h1.at he_3 1 rfl
        obtain ⟨s5, rfl, h5⟩ : ∃ s5 : Sl, vs4 = [s5.v] ∧ Rd m s5 e_3 := d4
        refine q_xg (v := (elP s1 ((0 : Int).toNat * 1))) hF hS (ex_indexAddr Try.underlying66 sz51 rfl rfl (h1.idx he_3)) (wanted_t hF rfl rfl rfl hc3) rfl fun a hF => ?_
        refine q_xg (v := s5.v) hF hS (ex_loadE1 0 Try.underlying51 rfl rfl ((at4).at) rfl rfl) (wanted_t hF rfl rfl rfl hc3) rfl fun a hF => ?_
        refine q_xg (v := (.int .i64 (goLen e_3))) hF hS (ex_len Try.underlying51 rfl h5.len) (wanted_t hF rfl rfl rfl hc3) rfl fun a hF => ?_
        refine q_xg (v := (.bool (decide ((goLen e_3) < 1)))) hF hS (ex_ibin rfl rfl rfl) (wanted_t hF rfl rfl rfl hc3) rfl fun a hF => ?_
        refine q_x (v := (.bool (decide ((goLen e_3) < 1)))) hF hS (ex_pick_f rfl rfl hc3) rfl rfl fun a hF => ?_
        refine q_x (v := (.bool (decide ((goLen e_3) < 1)))) hF hS (ex_move rfl) rfl rfl fun a hF => ?_
        rcases hc4 : (decide ((goLen e_3) < 1)) with _ | _
        · have hj1 := cond_f hc4 hj1
          refine q_xg (v := (.pointer (some ⟨b2, 0, none⟩))) hF hS (ex_fieldAddr Try.underlying68 rfl sz66 rfl rfl) (wanted_t hF rfl rfl rfl hc4) rfl fun a hF => ?_
          refine q_xg (v := s1.v) hF hS (ex_load1 0 0 Try.underlying66 rfl rfl rfl rfl) (wanted_t hF rfl rfl rfl hc4) rfl fun a hF => ?_
          obtain ⟨e_6, he_6, hj1⟩ := bindS hj1
          obtain ⟨vs7, at7, d7⟩ := h1.at he_6 1 rfl
          obtain ⟨s8, rfl, h8⟩ : ∃ s8 : Sl, vs7 = [s8.v] ∧ Rd m s8 e_6 := d7
          refine q_xg (v := (elP s1 ((0 : Int).toNat * 1))) hF hS (ex_indexAddr Try.underlying66 sz51 rfl rfl (h1.idx he_6)) (wanted_t hF rfl rfl rfl hc4) rfl fun a hF => ?_
          refine q_xg (v := s8.v) hF hS (ex_loadE1 0 Try.underlying51 rfl rfl ((at7).at) rfl rfl) (wanted_t hF rfl rfl rfl hc4) rfl fun a hF => ?_
          refine q_xg (v := (.int .i64 (goLen e_6))) hF hS (ex_len Try.underlying51 rfl h8.len) (wanted_t hF rfl rfl rfl hc4) rfl fun a hF => ?_
          refine q_xg (v := (.bool (decide (24 < (goLen e_6))))) hF hS (ex_ibin rfl rfl rfl) (wanted_t hF rfl rfl rfl hc4) rfl fun a hF => ?_
          refine q_x (v := (.bool (decide (24 < (goLen e_6))))) hF hS (ex_pick_f rfl rfl hc4) rfl rfl fun a hF => ?_
          refine q_end (n_jn ?_)
          obtain rfl := someI hj1
          exact ⟨hF.sub ⟨rfl, rfl, trivial⟩, hS⟩
        · have hj1 := cond_t hc4 hj1
          refine q_skip hF (wanted_f hF rfl rfl rfl hc4 rfl) rfl fun a hF => ?_
          refine q_skip hF (wanted_f hF rfl rfl rfl hc4 rfl) rfl fun a hF => ?_
          refine q_skip hF (wanted_f hF rfl rfl rfl hc4 rfl) rfl fun a hF => ?_
          refine q_skip hF (wanted_f hF rfl rfl rfl hc4 rfl) rfl fun a hF => ?_
          refine q_skip hF (wanted_f hF rfl rfl rfl hc4 rfl) rfl fun a hF => ?_
          refine q_skip hF (wanted_f hF rfl rfl rfl hc4 rfl) rfl fun a hF => ?_
          refine q_x (v := (.bool true)) hF hS (ex_pick_t rfl rfl hc4) rfl rfl fun a hF => ?_
          refine q_end (n_jn ?_)
          obtain rfl := someI hj1
          exact ⟨hF.sub ⟨rfl, rfl, trivial⟩, hS⟩
      · have hj1 := cond_t hc3 hj1
        refine q_skip hF (wanted_f hF rfl rfl rfl hc3 rfl) rfl fun a hF => ?_
        refine q_skip hF (wanted_f hF rfl rfl rfl hc3 rfl) rfl fun a hF => ?_
        refine q_skip hF (wanted_f hF rfl rfl rfl hc3 rfl) rfl fun a hF => ?_
        refine q_skip hF (wanted_f hF rfl rfl rfl hc3 rfl) rfl fun a hF => ?_
        refine q_skip hF (wanted_f hF rfl rfl rfl hc3 rfl) rfl fun a hF => ?_
        refine q_skip hF (wanted_f hF rfl rfl rfl hc3 rfl) rfl fun a hF => ?_
        refine q_x (v := (.bool true)) hF hS (ex_pick_t rfl rfl hc3) rfl rfl fun a hF => ?_
        refine q_x (v := (.bool true)) hF hS (ex_move rfl) rfl rfl fun a hF => ?_
        refine q_skip hF (wanted_f hF rfl rfl rfl rfl rfl) rfl fun a hF => ?_
        refine q_skip hF (wanted_f hF rfl rfl rfl rfl rfl) rfl fun a hF => ?_
        refine q_skip hF (wanted_f hF rfl rfl rfl rfl rfl) rfl fun a hF => ?_
        refine q_skip hF (wanted_f hF rfl rfl rfl rfl rfl) rfl fun a hF => ?_
        refine q_skip hF (wanted_f hF rfl rfl rfl rfl rfl) rfl fun a hF => ?_
        refine q_skip hF (wanted_f hF rfl rfl rfl rfl rfl) rfl fun a hF => ?_
        refine q_x (v := (.bool true)) hF hS (ex_pick_t rfl rfl rfl) rfl rfl fun a hF => ?_
        refine q_end (n_jn ?_)
        obtain rfl := someI hj1
        exact ⟨hF.sub ⟨rfl, rfl, trivial⟩, hS⟩
    · have hj1 := cond_t hc2 hj1
      refine q_skip hF (wanted_f hF rfl rfl rfl hc2 rfl) rfl fun a hF => ?_
      refine q_skip hF (wanted_f hF rfl rfl rfl hc2 rfl) rfl fun a hF => ?_
      refine q_skip hF (wanted_f hF rfl rfl rfl hc2 rfl) rfl fun a hF => ?_
      refine q_skip hF (wanted_f hF rfl rfl rfl hc2 rfl) rfl fun a hF => ?_
      refine q_x (v := (.bool true)) hF hS (ex_pick_t rfl rfl hc2) rfl rfl fun a hF => ?_
      refine q_x (v := (.bool true)) hF hS (ex_move rfl) rfl rfl fun a hF => ?_
      refine q_skip hF (wanted_f hF rfl rfl rfl rfl rfl) rfl fun a hF => ?_
      refine q_skip hF (wanted_f hF rfl rfl rfl rfl rfl) rfl fun a hF => ?_
      refine q_skip hF (wanted_f hF rfl rfl rfl rfl rfl) rfl fun a hF => ?_
      refine q_skip hF (wanted_f hF rfl rfl rfl rfl rfl) rfl fun a hF => ?_
      refine q_skip hF (wanted_f hF rfl rfl rfl rfl rfl) rfl fun a hF => ?_
      refine q_skip hF (wanted_f hF rfl rfl rfl rfl rfl) rfl fun a hF => ?_
      refine q_x (v := (.bool true)) hF hS (ex_pick_t rfl rfl rfl) rfl rfl fun a hF => ?_
      refine q_x (v := (.bool true)) hF hS (ex_move rfl) rfl rfl fun a hF => ?_
      refine q_skip hF (wanted_f hF rfl rfl rfl rfl rfl) rfl fun a hF => ?_
      refine q_skip hF (wanted_f hF rfl rfl rfl rfl rfl) rfl fun a hF => ?_
      refine q_skip hF (wanted_f hF rfl rfl rfl rfl rfl) rfl fun a hF => ?_
      refine q_skip hF (wanted_f hF rfl rfl rfl rfl rfl) rfl fun a hF => ?_
      refine q_skip hF (wanted_f hF rfl rfl rfl rfl rfl) rfl fun a hF => ?_
      refine q_skip hF (wanted_f hF rfl rfl rfl rfl rfl) rfl fun a hF => ?_
      refine q_x (v := (.bool true)) hF hS (ex_pick_t rfl rfl rfl) rfl rfl fun a hF => ?_
      refine q_end (n_jn ?_)
      obtain rfl := someI hj1
      exact ⟨hF.sub ⟨rfl, rfl, trivial⟩, hS⟩
  · rintro a w ⟨hF, hS⟩
    refine n_sq ?_
    rcases hc5 : (t_9) with _ | _
    · have hr := cond_f hc5 hr
      refine q_cond_f hF rfl hc5 ?_
      refine q_skipc (n_sq ?_)
      refine q_seq ?_
      refine q_seq ?_
      refine q_region ?_
      refine q_x (v := (.pointer (some ⟨b2, 0, none⟩))) hF hS (ex_fieldAddr Try.underlying68 rfl sz66 rfl rfl) rfl rfl fun a hF => ?_
      refine q_x (v := s1.v) hF hS (ex_load1 0 0 Try.underlying66 rfl rfl rfl rfl) rfl rfl fun a hF => ?_
      refine q_x (v := (.int .i64 (goLen p_m.Rows))) hF hS (ex_len Try.underlying66 rfl h1.len) rfl rfl fun a hF => ?_
      refine q_x (v := (.int .i64 0)) hF hS (ex_move rfl) rfl rfl fun a hF => ?_
      refine q_end (n_sq ?_)
      refine q_block ?_
      obtain ⟨o6, hl6, hr⟩ := bindS hr
      refine q_loop (fun (t_10 : Int) a w => Fr a 52 [(1, (.pointer (some ⟨b2, 0, none⟩))), (32, s1.v), (33, (.int .i64 (goLen p_m.Rows))), (34, (.int .i64 t_10))] ∧ St [] w0 w m [[⟨b2, [s1.v], 68⟩]]) (fun (o : (Unit) ⊕ (Bool)) e a w => o = .inl () ∧ e = .exit 0 ∧ Fr a 52 [] ∧ St [] w0 w m []) hl6 ⟨hF.sub ⟨rfl, rfl, rfl, rfl, trivial⟩, hS⟩ ?_ ?_
      · clear hF hS
        rintro t_10 a w st ⟨hF, hS⟩ hb6
        unfold impl_IsMechanism_l1 at hb6
        refine q_seq ?_
        refine q_region ?_
        refine q_x (v := (.bool (decide (t_10 < (goLen p_m.Rows))))) hF hS (ex_ibin rfl rfl rfl) rfl rfl fun a hF => ?_
        refine q_end (n_sq ?_)
        refine q_seq ?_
        rcases hc7 : (decide (t_10 < (goLen p_m.Rows))) with _ | _
        · have hb6 := cond_f hc7 hb6
          refine q_cond_f hF rfl hc7 ?_
          refine q_exit (x_sq ?_)
          obtain rfl := someI hb6
          exact ⟨nofun, .inl ⟨rfl, rfl, hF.sub trivial, hS.mask [false]⟩⟩
        · have hb6 := cond_t hc7 hb6
          refine q_cond_t hF rfl hc7 ?_
          refine q_skipc (n_sq ?_)
          refine q_seq ?_
          refine q_block ?_
          refine q_seq ?_
          refine q_region ?_
          obtain ⟨e_11, he_11, hb6⟩ := bindS hb6
          obtain ⟨vs12, at12, d12⟩ := h1.at he_11 1 rfl
          obtain ⟨s13, rfl, h13⟩ : ∃ s13 : Sl, vs12 = [s13.v] ∧ Rd m s13 e_11 := d12
          refine q_x (v := (elP s1 (t_10.toNat * 1))) hF hS (ex_indexAddr Try.underlying66 sz51 rfl rfl (h1.idx he_11)) rfl rfl fun a hF => ?_
          refine q_x (v := s13.v) hF hS (ex_loadE1 0 Try.underlying51 rfl rfl ((at12).at) rfl rfl) rfl rfl fun a hF => ?_
          refine q_x (v := s13.v) hF hS (ex_assign rfl) rfl rfl fun a hF => ?_
          refine q_end (n_sq ?_)
          refine q_seq ?_
          obtain ⟨t_18, hj8, hb6⟩ := bindS hb6
          refine q_join (fun a w => Fr a 52 [(1, (.pointer (some ⟨b2, 0, none⟩))), (32, s1.v), (33, (.int .i64 (goLen p_m.Rows))), (34, (.int .i64 t_10)), (50, (.bool t_18))] ∧ St [] w0 w m [[⟨b2, [s1.v], 68⟩]]) ?_ ?_
          · refine q_region ?_
            refine q_x (v := s13.v) hF hS (ex_move rfl) rfl rfl fun a hF => ?_
            refine q_x (v := (.int .i64 (goLen e_11))) hF hS (ex_len Try.underlying51 rfl h13.len) rfl rfl fun a hF => ?_
            refine q_x (v := (.pointer (some ⟨b2, 0, none⟩))) hF hS (ex_fieldAddr Try.underlying68 rfl sz66 rfl rfl) rfl rfl fun a hF => ?_
            refine q_x (v := s1.v) hF hS (ex_load1 0 0 Try.underlying66 rfl rfl rfl rfl) rfl rfl fun a hF => ?_
            obtain ⟨e_14, he_14, hj8⟩ := bindS hj8
            obtain ⟨vs15, at15, d15⟩ := h1.at he_14 1 rfl
            obtain ⟨s16, rfl, h16⟩ : ∃ s16 : Sl, vs15 = [s16.v] ∧ Rd m s16 e_14 := d15
            refine q_x (v := (elP s1 ((0 : Int).toNat * 1))) hF hS (ex_indexAddr Try.underlying66 sz51 rfl rfl (h1.idx he_14)) rfl rfl fun a hF => ?_
            refine q_x (v := s16.v) hF hS (ex_loadE1 0 Try.underlying51 rfl rfl ((at15).at) rfl rfl) rfl rfl fun a hF => ?_
            refine q_x (v := (.int .i64 (goLen e_14))) hF hS (ex_len Try.underlying51 rfl h16.len) rfl rfl fun a hF => ?_
            refine q_x (v := (.bool ((goLen e_11) != (goLen e_14)))) hF hS (ex_ibin rfl rfl rfl) rfl rfl fun a hF => ?_
            refine q_x (v := (.bool ((goLen e_11) != (goLen e_14)))) hF hS (ex_move rfl) rfl rfl fun a hF => ?_
            rcases hc9 : ((goLen e_11) != (goLen e_14)) with _ | _
            · have hj8 := cond_f hc9 hj8
              refine q_xg (v := s13.v) hF hS (ex_move rfl) (wanted_t hF rfl rfl rfl hc9) rfl fun a hF => ?_
              obtain ⟨t_17, ht_17, hj8⟩ := bindS hj8
              refine q_callg (vs := [s13.v]) hF hS (wanted_t hF rfl rfl rfl hc9) Try.func117 (by kernel_rfl) rfl rfl rfl (c_impl_isDistribution e_11 t_17 ht_17 _ m hS.vis s13 h13) ?_
              rintro a w _ rfl hF hS
              refine q_xg (v := (.bool (!t_17))) hF hS (ex_not rfl) (wanted_t hF rfl rfl rfl hc9) rfl fun a hF => ?_
              refine q_x (v := (.bool (!t_17))) hF hS (ex_pick_f rfl rfl hc9) rfl rfl fun a hF => ?_
              refine q_end (n_jn ?_)
              obtain rfl := someI hj8
              exact ⟨hF.sub ⟨rfl, rfl, rfl, rfl, rfl, trivial⟩, hS⟩
            · have hj8 := cond_t hc9 hj8
              refine q_skip hF (wanted_f hF rfl rfl rfl hc9 rfl) rfl fun a hF => ?_
              refine q_skip hF (wanted_f hF rfl rfl rfl hc9 rfl) rfl fun a hF => ?_
              refine q_skip hF (wanted_f hF rfl rfl rfl hc9 rfl) rfl fun a hF => ?_
              refine q_x (v := (.bool true)) hF hS (ex_pick_t rfl rfl hc9) rfl rfl fun a hF => ?_
              refine q_end (n_jn ?_)
              obtain rfl := someI hj8
              exact ⟨hF.sub ⟨rfl, rfl, rfl, rfl, rfl, trivial⟩, hS⟩
          · rintro a w ⟨hF, hS⟩
            refine n_sq ?_
            rcases hc10 : (t_18) with _ | _
            · have hb6 := cond_f hc10 hb6
              refine q_cond_f hF rfl hc10 ?_
              refine q_skipc (n_ib (n_sq ?_))
              refine q_region ?_
              refine q_x (v := (.int .i64 (w64 (t_10 + 1)))) hF hS (ex_ibin rfl rfl rfl) rfl rfl fun a hF => ?_
              refine q_x (v := (.int .i64 (w64 (t_10 + 1)))) hF hS (ex_move rfl) rfl rfl fun a hF => ?_
              refine q_end ?_
              obtain rfl := someI hb6
              exact ⟨rfl, hF.sub ⟨rfl, rfl, rfl, rfl, trivial⟩, hS⟩
            · have hb6 := cond_t hc10 hb6
              refine q_cond_t hF rfl hc10 ?_
              refine q_seq ?_
              refine q_region ?_
              refine q_x (v := (.bool false)) hF hS (ex_assign rfl) rfl rfl fun a hF => ?_
              refine q_end (n_sq (q_ret (r_ib (r_sq ?_))))
              obtain rfl := someI hb6
              refine ⟨nofun, .inr fun ho => ?_⟩
              subst ho
              refine r_ib (r_sq ?_)
              obtain rfl := someI hr
              exact ret_of hF hS rfl (.tmp rfl .nil) rfl
      · rintro e a w ⟨rfl, rfl, hF, hS⟩
        refine x_ib (n_sq ?_)
        refine q_seq ?_
        refine q_region ?_
        refine q_x (v := (.bool true)) hF hS (ex_assign rfl) rfl rfl fun a hF => ?_
        refine q_end (n_sq (q_ret ?_))
        obtain rfl := someI hr
        exact ret_of hF hS rfl (.tmp rfl .nil) rfl
    · have hr := cond_t hc5 hr
      refine q_cond_t hF rfl hc5 ?_
      refine q_seq ?_
      refine q_region ?_
      refine q_x (v := (.bool false)) hF hS (ex_assign rfl) rfl rfl fun a hF => ?_
      refine q_end (n_sq (q_ret (r_sq ?_)))
      obtain rfl := someI hr
      exact ret_of hF hS rfl (.tmp rfl .nil) rfl

theorem c_laws_eqFrac (p_a : impl_Frac) (p_b : impl_Frac) (r : Bool) (hr : laws_eqFrac p_a p_b = some r) (w0 : World) (m : Mem) (hv : Vis m w0) :
    Ret Try.prog 32 [(.agg #[(.int .i64 p_a.Num), (.int .i64 p_a.Den)]), (.agg #[(.int .i64 p_b.Num), (.int .i64 p_b.Den)])] w0 (fun v _ => v = (.bool r)) := by
  unfold laws_eqFrac at hr
  refine ret_start Try.func32 rfl 15 rfl rfl m hv fun a hF hS => ?_
  refine q_seq ?_
  refine q_region ?_
  refine q_box (cs := [(.int .i64 p_a.Num), (.int .i64 p_a.Den)]) hF hS rfl rfl rfl fun a w b1 hF hS => ?_
  refine q_box (cs := [(.int .i64 p_b.Num), (.int .i64 p_b.Den)]) hF hS rfl rfl rfl fun a w b2 hF hS => ?_
  refine q_x (v := (.bool false)) hF hS (ex_assign rfl) rfl rfl fun a hF => ?_
  refine q_end (n_sq ?_)
  refine q_seq ?_
  refine q_seq ?_
  refine q_region ?_
  refine q_x (v := (.pointer (some ⟨b1, 0, none⟩))) hF hS (ex_fieldAddr Try.underlying26 rfl sz3 rfl rfl) rfl rfl fun a hF => ?_
  refine q_x (v := (.int .i64 p_a.Num)) hF hS (ex_load1 1 0 Try.underlying3 rfl rfl rfl rfl) rfl rfl fun a hF => ?_
  refine q_x (v := (.pointer (some ⟨b2, 0, none⟩))) hF hS (ex_fieldAddr Try.underlying26 rfl sz3 rfl rfl) rfl rfl fun a hF => ?_
  refine q_x (v := (.int .i64 p_b.Num)) hF hS (ex_load1 0 0 Try.underlying3 rfl rfl rfl rfl) rfl rfl fun a hF => ?_
  refine q_x (v := (.bool (p_a.Num != p_b.Num))) hF hS (ex_ibin rfl rfl rfl) rfl rfl fun a hF => ?_
  refine q_end (n_sq ?_)
  rcases hc1 : (p_a.Num != p_b.Num) with _ | _
  · have hr := cond_f hc1 hr
    refine q_cond_f hF rfl hc1 ?_
    refine q_skipc (n_sq ?_)
    refine q_seq ?_
    refine q_seq ?_
    refine q_region ?_
    refine q_x (v := (.pointer (some ⟨b1, 1, none⟩))) hF hS (ex_fieldAddr Try.underlying26 rfl sz3 rfl rfl) rfl rfl fun a hF => ?_
    refine q_x (v := (.int .i64 p_a.Den)) hF hS (ex_load1 1 0 Try.underlying3 rfl rfl rfl rfl) rfl rfl fun a hF => ?_
    refine q_x (v := (.pointer (some ⟨b2, 1, none⟩))) hF hS (ex_fieldAddr Try.underlying26 rfl sz3 rfl rfl) rfl rfl fun a hF => ?_
    refine q_x (v := (.int .i64 p_b.Den)) hF hS (ex_load1 0 0 Try.underlying3 rfl rfl rfl rfl) rfl rfl fun a hF => ?_
    refine q_x (v := (.bool (p_a.Den != p_b.Den))) hF hS (ex_ibin rfl rfl rfl) rfl rfl fun a hF => ?_
    refine q_end (n_sq ?_)
    rcases hc2 : (p_a.Den != p_b.Den) with _ | _
    · have hr := cond_f hc2 hr
      refine q_cond_f hF rfl hc2 ?_
      refine q_skipc (n_sq ?_)
      refine q_seq ?_
      refine q_region ?_
      refine q_x (v := (.bool true)) hF hS (ex_assign rfl) rfl rfl fun a hF => ?_
      refine q_end (n_sq (q_ret ?_))
      obtain rfl := someI hr
      exact ret_of hF hS rfl (.tmp rfl .nil) rfl
    · have hr := cond_t hc2 hr
      refine q_cond_t hF rfl hc2 ?_
      refine q_seq ?_
      refine q_region ?_
      refine q_x (v := (.bool false)) hF hS (ex_assign rfl) rfl rfl fun a hF => ?_
      refine q_end (n_sq (q_ret (r_sq ?_)))
      obtain rfl := someI hr
      exact ret_of hF hS rfl (.tmp rfl .nil) rfl
  · have hr := cond_t hc1 hr
    refine q_cond_t hF rfl hc1 ?_
    refine q_seq ?_
    refine q_region ?_
    refine q_x (v := (.bool false)) hF hS (ex_assign rfl) rfl rfl fun a hF => ?_
    refine q_end (n_sq (q_ret (r_sq ?_)))
    obtain rfl := someI hr
    exact ret_of hF hS rfl (.tmp rfl .nil) rfl

theorem c_laws_eqFracS (p_a : List impl_Frac) (p_b : List impl_Frac) (r : Bool) (hr : laws_eqFracS p_a p_b = some r) (w0 : World) (m : Mem) (hv : Vis m w0) (s1 : Sl) (h1 : Rd m s1 p_a) (s2 : Sl) (h2 : Rd m s2 p_b) :
    Ret Try.prog 40 [s1.v, s2.v] w0 (fun v _ => v = (.bool r)) := by
  unfold laws_eqFracS at hr
  refine ret_start Try.func40 rfl 27 rfl rfl m hv fun a hF hS => ?_
  refine q_seq ?_
  refine q_region ?_
  refine q_x (v := (.bool false)) hF hS (ex_assign rfl) rfl rfl fun a hF => ?_
  refine q_end (n_sq ?_)
  refine q_seq ?_
  refine q_seq ?_
  refine q_region ?_
  refine q_x (v := s1.v) hF hS (ex_move rfl) rfl rfl fun a hF => ?_
  refine q_x (v := (.int .i64 (goLen p_a))) hF hS (ex_len Try.underlying51 rfl h1.len) rfl rfl fun a hF => ?_
  refine q_x (v := s2.v) hF hS (ex_move rfl) rfl rfl fun a hF => ?_
  refine q_x (v := (.int .i64 (goLen p_b))) hF hS (ex_len Try.underlying51 rfl h2.len) rfl rfl fun a hF => ?_
  refine q_x (v := (.bool ((goLen p_a) != (goLen p_b)))) hF hS (ex_ibin rfl rfl rfl) rfl rfl fun a hF => ?_
  refine q_end (n_sq ?_)
  rcases hc1 : ((goLen p_a) != (goLen p_b)) with _ | _
  · have hr := cond_f hc1 hr
    refine q_cond_f hF rfl hc1 ?_
    refine q_skipc (n_sq ?_)
    refine q_seq ?_
    refine q_seq ?_
    refine q_region ?_
    refine q_x (v := (.int .i64 0)) hF hS (ex_assign rfl) rfl rfl fun a hF => ?_
    refine q_end (n_sq ?_)
    refine q_block ?_
    obtain ⟨o2, hl2, hr⟩ := bindS hr
    refine q_loop (fun (i_3 : Int) a w => Fr a 27 [(0, s1.v), (1, s2.v), (5, (.int .i64 i_3))] ∧ St [] w0 w m []) (fun (o : (Unit) ⊕ (Bool)) e a w => o = .inl () ∧ e = .exit 0 ∧ Fr a 27 [] ∧ St [] w0 w m []) hl2 ⟨hF.sub ⟨rfl, rfl, rfl, trivial⟩, hS⟩ ?_ ?_
    · clear hF hS
      rintro i_3 a w st ⟨hF, hS⟩ hb2
      unfold laws_eqFracS_l1 at hb2
      refine q_seq ?_
      refine q_seq ?_
      refine q_region ?_
      refine q_x (v := (.int .i64 i_3)) hF hS (ex_move rfl) rfl rfl fun a hF => ?_
      refine q_x (v := s1.v) hF hS (ex_move rfl) rfl rfl fun a hF => ?_
      refine q_x (v := (.int .i64 (goLen p_a))) hF hS (ex_len Try.underlying51 rfl h1.len) rfl rfl fun a hF => ?_
      refine q_x (v := (.bool (decide (i_3 < (goLen p_a))))) hF hS (ex_ibin rfl rfl rfl) rfl rfl fun a hF => ?_
      refine q_end (n_sq ?_)
      rcases hc3 : (decide (i_3 < (goLen p_a))) with _ | _
      · have hb2 := cond_f hc3 hb2
        refine q_cond_f hF rfl hc3 ?_
        refine q_exit (x_sq ?_)
        obtain rfl := someI hb2
        exact ⟨nofun, .inl ⟨rfl, rfl, hF.sub trivial, hS⟩⟩
      · have hb2 := cond_t hc3 hb2
        refine q_cond_t hF rfl hc3 ?_
        refine q_skipc (n_sq ?_)
        refine q_seq ?_
        refine q_block ?_
        refine q_seq ?_
        refine e_region [] mixed fun w' hw' => ?_
        have hS := hS.below hw'
        refine e_p (v := s1.v) 0 hF rfl (ex_move rfl) rfl rfl (by kernel_rfl) (by kernel_rfl) (by kernel_rfl) fun a hF => ?_
        refine e_p (v := (.int .i64 i_3)) 1 hF rfl (ex_move rfl) rfl rfl (by kernel_rfl) (by kernel_rfl) (by kernel_rfl) fun a hF => ?_
        obtain ⟨e_4, he_4, hb2⟩ := bindS hb2
        obtain ⟨vs5, at5, d5⟩ := h1.at he_4 2 rfl
        obtain rfl : vs5 = [(.int .i64 e_4.Num), (.int .i64 e_4.Den)] := d5
        refine e_p (v := (elP s1 (i_3.toNat * 2))) 2 hF rfl (ex_indexAddr Try.underlying51 sz26 rfl rfl (h1.idx he_4)) rfl rfl (by kernel_rfl) (by kernel_rfl) (by kernel_rfl) fun a hF => ?_
        refine e_x (v := (.agg #[(.int .i64 e_4.Num), (.int .i64 e_4.Den)])) 3 hF hS rfl (ex_loadEA (us := [(.int .i64 e_4.Num), (.int .i64 e_4.Den)]) 0 Try.underlying26 rfl sz26 rfl ((at5).at) rfl rfl rfl) rfl rfl (by kernel_rfl) (by kernel_rfl) (by kernel_rfl) (by kernel_rfl) fun a hF => ?_
        refine e_p (v := s2.v) 4 hF rfl (ex_move rfl) rfl rfl (by kernel_rfl) (by kernel_rfl) (by kernel_rfl) fun a hF => ?_
        refine e_p (v := (.int .i64 i_3)) 5 hF rfl (ex_move rfl) rfl rfl (by kernel_rfl) (by kernel_rfl) (by kernel_rfl) fun a hF => ?_
        obtain ⟨e_6, he_6, hb2⟩ := bindS hb2
        obtain ⟨vs7, at7, d7⟩ := h2.at he_6 2 rfl
        obtain rfl : vs7 = [(.int .i64 e_6.Num), (.int .i64 e_6.Den)] := d7
        refine e_p (v := (elP s2 (i_3.toNat * 2))) 6 hF rfl (ex_indexAddr Try.underlying51 sz26 rfl rfl (h2.idx he_6)) rfl rfl (by kernel_rfl) (by kernel_rfl) (by kernel_rfl) fun a hF => ?_
        refine e_x (v := (.agg #[(.int .i64 e_6.Num), (.int .i64 e_6.Den)])) 7 hF hS rfl (ex_loadEA (us := [(.int .i64 e_6.Num), (.int .i64 e_6.Den)]) 0 Try.underlying26 rfl sz26 rfl ((at7).at) rfl rfl rfl) rfl rfl (by kernel_rfl) (by kernel_rfl) (by kernel_rfl) (by kernel_rfl) fun a hF => ?_
        refine e_one 8 (by kernel_rfl) ?_
        obtain ⟨t_8, ht_8, hb2⟩ := bindS hb2
        refine e_call (vs := [(.agg #[(.int .i64 e_4.Num), (.int .i64 e_4.Den)]), (.agg #[(.int .i64 e_6.Num), (.int .i64 e_6.Den)])]) hF hS rfl Try.func32 (by kernel_rfl) rfl rfl rfl (c_laws_eqFrac e_4 e_6 t_8 ht_8 _ m hS.vis) ?_
        rintro a w _ rfl hF hS
        refine e_p (v := (.bool (!t_8))) 9 hF rfl (ex_not rfl) rfl rfl (by kernel_rfl) (by kernel_rfl) (by kernel_rfl) fun a hF => ?_
        refine e_end (by kernel_rfl) (n_sq ?_) _
        rcases hc4 : (!t_8) with _ | _
        · have hb2 := cond_f hc4 hb2
          refine q_cond_f hF rfl hc4 ?_
          refine q_skipc (n_ib (n_sq ?_))
          refine q_region ?_
          refine q_x (v := (.int .i64 i_3)) hF hS (ex_move rfl) rfl rfl fun a hF => ?_
          refine q_x (v := (.int .i64 (w64 (i_3 + 1)))) hF hS (ex_ibin rfl rfl rfl) rfl rfl fun a hF => ?_
          refine q_x (v := (.int .i64 (w64 (i_3 + 1)))) hF hS (ex_assign rfl) rfl rfl fun a hF => ?_
          refine q_end ?_
          obtain rfl := someI hb2
          exact ⟨rfl, hF.sub ⟨rfl, rfl, rfl, trivial⟩, hS⟩
        · have hb2 := cond_t hc4 hb2
          refine q_cond_t hF rfl hc4 ?_
          refine q_seq ?_
          refine q_region ?_
          refine q_x (v := (.bool false)) hF hS (ex_assign rfl) rfl rfl fun a hF => ?_
          refine q_end (n_sq (q_ret (r_ib (r_sq ?_))))
          obtain rfl := someI hb2
          refine ⟨nofun, .inr fun ho => ?_⟩
          subst ho
          refine r_ib (r_sq ?_)
          obtain rfl := someI hr
          exact ret_of hF hS rfl (.tmp rfl .nil) rfl
    · rintro e a w ⟨rfl, rfl, hF, hS⟩
      refine x_ib (n_sq ?_)
      refine q_seq ?_
      refine q_region ?_
      refine q_x (v := (.bool true)) hF hS (ex_assign rfl) rfl rfl fun a hF => ?_
      refine q_end (n_sq (q_ret ?_))
      obtain rfl := someI hr
      exact ret_of hF hS rfl (.tmp rfl .nil) rfl
  · have hr := cond_t hc1 hr
    refine q_cond_t hF rfl hc1 ?_
    refine q_seq ?_
    refine q_region ?_
    refine q_x (v := (.bool false)) hF hS (ex_assign rfl) rfl rfl fun a hF => ?_
    refine q_end (n_sq (q_ret (r_sq ?_)))
    obtain rfl := someI hr
    exact ret_of hF hS rfl (.tmp rfl .nil) rfl

theorem c_laws_eqFracSS (p_a : List (List impl_Frac)) (p_b : List (List impl_Frac)) (r : Bool) (hr : laws_eqFracSS p_a p_b = some r) (w0 : World) (m : Mem) (hv : Vis m w0) (s1 : Sl) (h1 : Rd m s1 p_a) (s2 : Sl) (h2 : Rd m s2 p_b) :
    Ret Try.prog 118 [s1.v, s2.v] w0 (fun v _ => v = (.bool r)) := by
  unfold laws_eqFracSS at hr
  refine ret_start Try.func118 rfl 27 rfl rfl m hv fun a hF hS => ?_
  refine q_seq ?_
  refine q_region ?_
  refine q_x (v := (.bool false)) hF hS (ex_assign rfl) rfl rfl fun a hF => ?_
  refine q_end (n_sq ?_)
  refine q_seq ?_
  refine q_seq ?_
  refine q_region ?_
  refine q_x (v := s1.v) hF hS (ex_move rfl) rfl rfl fun a hF => ?_
  refine q_x (v := (.int .i64 (goLen p_a))) hF hS (ex_len Try.underlying66 rfl h1.len) rfl rfl fun a hF => ?_
  refine q_x (v := s2.v) hF hS (ex_move rfl) rfl rfl fun a hF => ?_
  refine q_x (v := (.int .i64 (goLen p_b))) hF hS (ex_len Try.underlying66 rfl h2.len) rfl rfl fun a hF => ?_
  refine q_x (v := (.bool ((goLen p_a) != (goLen p_b)))) hF hS (ex_ibin rfl rfl rfl) rfl rfl fun a hF => ?_
  refine q_end (n_sq ?_)
  rcases hc1 : ((goLen p_a) != (goLen p_b)) with _ | _
  · have hr := cond_f hc1 hr
    refine q_cond_f hF rfl hc1 ?_
    refine q_skipc (n_sq ?_)
    refine q_seq ?_
    refine q_seq ?_
    refine q_region ?_
    refine q_x (v := (.int .i64 0)) hF hS (ex_assign rfl) rfl rfl fun a hF => ?_
    refine q_end (n_sq ?_)
    refine q_block ?_
    obtain ⟨o2, hl2, hr⟩ := bindS hr
    refine q_loop (fun (i_3 : Int) a w => Fr a 27 [(0, s1.v), (1, s2.v), (5, (.int .i64 i_3))] ∧ St [] w0 w m []) (fun (o : (Unit) ⊕ (Bool)) e a w => o = .inl () ∧ e = .exit 0 ∧ Fr a 27 [] ∧ St [] w0 w m []) hl2 ⟨hF.sub ⟨rfl, rfl, rfl, trivial⟩, hS⟩ ?_ ?_
    · clear hF hS
      rintro i_3 a w st ⟨hF, hS⟩ hb2
      unfold laws_eqFracSS_l1 at hb2
      refine q_seq ?_
      refine q_seq ?_
      refine q_region ?_
      refine q_x (v := (.int .i64 i_3)) hF hS (ex_move rfl) rfl rfl fun a hF => ?_
      refine q_x (v := s1.v) hF hS (ex_move rfl) rfl rfl fun a hF => ?_
      refine q_x (v := (.int .i64 (goLen p_a))) hF hS (ex_len Try.underlying66 rfl h1.len) rfl rfl fun a hF => ?_
      refine q_x (v := (.bool (decide (i_3 < (goLen p_a))))) hF hS (ex_ibin rfl rfl rfl) rfl rfl fun a hF => ?_
      refine q_end (n_sq ?_)
      rcases hc3 : (decide (i_3 < (goLen p_a))) with _ | _
      · have hb2 := cond_f hc3 hb2
        refine q_cond_f hF rfl hc3 ?_
        refine q_exit (x_sq ?_)
        obtain rfl := someI hb2
        exact ⟨nofun, .inl ⟨rfl, rfl, hF.sub trivial, hS⟩⟩
      · have hb2 := cond_t hc3 hb2
        refine q_cond_t hF rfl hc3 ?_
        refine q_skipc (n_sq ?_)
        refine q_seq ?_
        refine q_block ?_
        refine q_seq ?_
        refine e_region [] mixed fun w' hw' => ?_
        have hS := hS.below hw'
        refine e_p (v := s1.v) 0 hF rfl (ex_move rfl) rfl rfl (by kernel_rfl) (by kernel_rfl) (by kernel_rfl) fun a hF => ?_
        refine e_p (v := (.int .i64 i_3)) 1 hF rfl (ex_move rfl) rfl rfl (by kernel_rfl) (by kernel_rfl) (by kernel_rfl) fun a hF => ?_
        obtain ⟨e_4, he_4, hb2⟩ := bindS hb2
        obtain ⟨vs5, at5, d5⟩ := h1.at he_4 1 rfl
        obtain ⟨s6, rfl, h6⟩ : ∃ s6 : Sl, vs5 = [s6.v] ∧ Rd m s6 e_4 := d5
        refine e_p (v := (elP s1 (i_3.toNat * 1))) 2 hF rfl (ex_indexAddr Try.underlying66 sz51 rfl rfl (h1.idx he_4)) rfl rfl (by kernel_rfl) (by kernel_rfl) (by kernel_rfl) fun a hF => ?_
        refine e_x (v := s6.v) 3 hF hS rfl (ex_loadE1 0 Try.underlying51 rfl rfl ((at5).at) rfl rfl) rfl rfl (by kernel_rfl) (by kernel_rfl) (by kernel_rfl) (by kernel_rfl) fun a hF => ?_
        refine e_p (v := s2.v) 4 hF rfl (ex_move rfl) rfl rfl (by kernel_rfl) (by kernel_rfl) (by kernel_rfl) fun a hF => ?_
        refine e_p (v := (.int .i64 i_3)) 5 hF rfl (ex_move rfl) rfl rfl (by kernel_rfl) (by kernel_rfl) (by kernel_rfl) fun a hF => ?_
        obtain ⟨e_7, he_7, hb2⟩ := bindS hb2
        obtain ⟨vs8, at8, d8⟩ := h2.at he_7 1 rfl
        obtain ⟨s9, rfl, h9⟩ : ∃ s9 : Sl, vs8 = [s9.v] ∧ Rd m s9 e_7 := d8
        refine e_p (v := (elP s2 (i_3.toNat * 1))) 6 hF rfl (ex_indexAddr Try.underlying66 sz51 rfl rfl (h2.idx he_7)) rfl rfl (by kernel_rfl) (by kernel_rfl) (by kernel_rfl) fun a hF => ?_
        refine e_x (v := s9.v) 7 hF hS rfl (ex_loadE1 0 Try.underlying51 rfl rfl ((at8).at) rfl rfl) rfl rfl (by kernel_rfl) (by kernel_rfl) (by kernel_rfl) (by kernel_rfl) fun a hF => ?_
        refine e_one 8 (by kernel_rfl) ?_
        obtain ⟨t_10, ht_10, hb2⟩ := bindS hb2
        refine e_call (vs := [s6.v, s9.v]) hF hS rfl Try.func40 (by kernel_rfl) rfl rfl rfl (c_laws_eqFracS e_4 e_7 t_10 ht_10 _ m hS.vis s6 h6 s9 h9) ?_
        rintro a w _ rfl hF hS
        refine e_p (v := (.bool (!t_10))) 9 hF rfl (ex_not rfl) rfl rfl (by kernel_rfl) (by kernel_rfl) (by kernel_rfl) fun a hF => ?_
        refine e_end (by kernel_rfl) (n_sq ?_) _
        rcases hc4 : (!t_10) with _ | _
        · have hb2 := cond_f hc4 hb2
          refine q_cond_f hF rfl hc4 ?_
          refine q_skipc (n_ib (n_sq ?_))
          refine q_region ?_
          refine q_x (v := (.int .i64 i_3)) hF hS (ex_move rfl) rfl rfl fun a hF => ?_
          refine q_x (v := (.int .i64 (w64 (i_3 + 1)))) hF hS (ex_ibin rfl rfl rfl) rfl rfl fun a hF => ?_
          refine q_x (v := (.int .i64 (w64 (i_3 + 1)))) hF hS (ex_assign rfl) rfl rfl fun a hF => ?_
          refine q_end ?_
          obtain rfl := someI hb2
          exact ⟨rfl, hF.sub ⟨rfl, rfl, rfl, trivial⟩, hS⟩
        · have hb2 := cond_t hc4 hb2
          refine q_cond_t hF rfl hc4 ?_
          refine q_seq ?_
          refine q_region ?_
          refine q_x (v := (.bool false)) hF hS (ex_assign rfl) rfl rfl fun a hF => ?_
          refine q_end (n_sq (q_ret (r_ib (r_sq ?_))))
          obtain rfl := someI hb2
          refine ⟨nofun, .inr fun ho => ?_⟩
          subst ho
          refine r_ib (r_sq ?_)
          obtain rfl := someI hr
          exact ret_of hF hS rfl (.tmp rfl .nil) rfl
    · rintro e a w ⟨rfl, rfl, hF, hS⟩
      refine x_ib (n_sq ?_)
      refine q_seq ?_
      refine q_region ?_
      refine q_x (v := (.bool true)) hF hS (ex_assign rfl) rfl rfl fun a hF => ?_
      refine q_end (n_sq (q_ret ?_))
      obtain rfl := someI hr
      exact ret_of hF hS rfl (.tmp rfl .nil) rfl
  · have hr := cond_t hc1 hr
    refine q_cond_t hF rfl hc1 ?_
    refine q_seq ?_
    refine q_region ?_
    refine q_x (v := (.bool false)) hF hS (ex_assign rfl) rfl rfl fun a hF => ?_
    refine q_end (n_sq (q_ret (r_sq ?_)))
    obtain rfl := someI hr
    exact ret_of hF hS rfl (.tmp rfl .nil) rfl

theorem c_laws_eqMechanism (p_a : impl_Mechanism) (p_b : impl_Mechanism) (r : Bool) (hr : laws_eqMechanism p_a p_b = some r) (w0 : World) (m : Mem) (hv : Vis m w0) (s1 : Sl) (h1 : Rd m s1 p_a.Rows) (s2 : Sl) (h2 : Rd m s2 p_b.Rows) :
    Ret Try.prog 53 [(.agg #[s1.v]), (.agg #[s2.v])] w0 (fun v _ => v = (.bool r)) := by
  unfold laws_eqMechanism at hr
  refine ret_start Try.func53 rfl 11 rfl rfl m hv fun a hF hS => ?_
  refine q_seq ?_
  refine q_region ?_
  refine q_box (cs := [s1.v]) hF hS rfl rfl rfl fun a w b3 hF hS => ?_
  refine q_box (cs := [s2.v]) hF hS rfl rfl rfl fun a w b4 hF hS => ?_
  refine q_x (v := (.bool false)) hF hS (ex_assign rfl) rfl rfl fun a hF => ?_
  refine q_end (n_sq ?_)
  refine q_seq ?_
  refine q_seq ?_
  refine q_region ?_
  refine q_x (v := (.pointer (some ⟨b3, 0, none⟩))) hF hS (ex_fieldAddr Try.underlying68 rfl sz66 rfl rfl) rfl rfl fun a hF => ?_
  refine q_x (v := s1.v) hF hS (ex_load1 1 0 Try.underlying66 rfl rfl rfl rfl) rfl rfl fun a hF => ?_
  refine q_x (v := (.pointer (some ⟨b4, 0, none⟩))) hF hS (ex_fieldAddr Try.underlying68 rfl sz66 rfl rfl) rfl rfl fun a hF => ?_
  refine q_x (v := s2.v) hF hS (ex_load1 0 0 Try.underlying66 rfl rfl rfl rfl) rfl rfl fun a hF => ?_
  obtain ⟨t_5, ht_5, hr⟩ := bindS hr
  refine q_call (vs := [s1.v, s2.v]) hF hS Try.func118 (by kernel_rfl) rfl rfl rfl (c_laws_eqFracSS p_a.Rows p_b.Rows t_5 ht_5 _ m hS.vis s1 h1 s2 h2) ?_
  rintro a w _ rfl hF hS
  refine q_x (v := (.bool (!t_5))) hF hS (ex_not rfl) rfl rfl fun a hF => ?_
  refine q_end (n_sq ?_)
  rcases hc1 : (!t_5) with _ | _
  · have hr := cond_f hc1 hr
    refine q_cond_f hF rfl hc1 ?_
    refine q_skipc (n_sq ?_)
    refine q_seq ?_
    refine q_region ?_
    refine q_x (v := (.bool true)) hF hS (ex_assign rfl) rfl rfl fun a hF => ?_
    refine q_end (n_sq (q_ret ?_))
    obtain rfl := someI hr
    exact ret_of hF hS rfl (.tmp rfl .nil) rfl
  · have hr := cond_t hc1 hr
    refine q_cond_t hF rfl hc1 ?_
    refine q_seq ?_
    refine q_region ?_
    refine q_x (v := (.bool false)) hF hS (ex_assign rfl) rfl rfl fun a hF => ?_
    refine q_end (n_sq (q_ret (r_sq ?_)))
    obtain rfl := someI hr
    exact ret_of hF hS rfl (.tmp rfl .nil) rfl

theorem c_laws_FnExactIsMechanism (p_aM : laws_Mechanism) (r : Bool) (hr : laws_FnExactIsMechanism p_aM = some r) (w0 : World) (m : Mem) (hv : Vis m w0) (s1 : Sl) (h1 : Rd m s1 p_aM.Rows) :
    Ret Try.prog 12 [(.agg #[s1.v])] w0 (fun v _ => v = (.bool r)) := by
  unfold laws_FnExactIsMechanism at hr
  refine ret_start Try.func12 rfl 27 rfl rfl m hv fun a hF hS => ?_
  refine q_seq ?_
  refine q_region ?_
  refine q_box (cs := [s1.v]) hF hS rfl rfl rfl fun a w b2 hF hS => ?_
  refine q_x (v := (.bool false)) hF hS (ex_assign rfl) rfl rfl fun a hF => ?_
  refine q_end (n_sq ?_)
  refine q_seq ?_
  refine q_region ?_
  refine q_x (v := (.int .i64 1048576)) hF hS (ex_assign rfl) rfl rfl fun a hF => ?_
  refine q_end (n_sq ?_)
  refine q_seq ?_
  refine q_region ?_
  refine q_x (v := (.agg #[s1.v])) hF hS (ex_loadA (vs := [s1.v]) 0 0 Try.underlying63 rfl sz63 rfl rfl rfl rfl) rfl rfl fun a hF => ?_
  refine q_x (v := (.int .i64 1048576)) hF hS (ex_move rfl) rfl rfl fun a hF => ?_
  obtain ⟨t_3, ht_3, hr⟩ := bindS hr
  refine q_call (vs := [(.agg #[s1.v]), (.int .i64 1048576)]) hF hS Try.func49 (by kernel_rfl) rfl rfl rfl (c_laws_szMechanism p_aM 1048576 t_3 ht_3 _ m hS.vis s1 h1) ?_
  rintro a w _ rfl hF hS
  refine q_x (v := (.int .i64 t_3)) hF hS (ex_assign rfl) rfl rfl fun a hF => ?_
  refine q_end (n_sq ?_)
  refine q_seq ?_
  refine q_seq ?_
  refine q_region ?_
  refine q_x (v := (.int .i64 t_3)) hF hS (ex_move rfl) rfl rfl fun a hF => ?_
  refine q_x (v := (.bool (decide (t_3 < 0)))) hF hS (ex_ibin rfl rfl rfl) rfl rfl fun a hF => ?_
  refine q_end (n_sq ?_)
  rcases hc1 : (decide (t_3 < 0)) with _ | _
  · have hr := cond_f hc1 hr
    refine q_cond_f hF rfl hc1 ?_
    refine q_skipc (n_sq ?_)
    refine q_seq ?_
    refine q_region ?_
    refine q_x (v := (.agg #[s1.v])) hF hS (ex_loadA (vs := [s1.v]) 0 0 Try.underlying63 rfl sz63 rfl rfl rfl rfl) rfl rfl fun a hF => ?_
    obtain ⟨t_4, ht_4, hr⟩ := bindS hr
    refine q_call (vs := [(.agg #[s1.v])]) hF hS Try.func51 (by kernel_rfl) rfl rfl rfl (c_laws_toMechanism p_aM t_4 ht_4 _ m hS.vis s1 h1) ?_
    have hT := hS
    rintro a w _ ⟨m5, q6, s6, rfl, hm5, hR5, h6⟩ hF hS2
    have hS : St _ _ _ _ [q6, [⟨b2, [s1.v], 63⟩]] := hS.join hR5 hm5
    have hm5 := MLe.weakX (O0 := []) hT hm5
    obtain ⟨m8, hl8, hv8, hz8⟩ := hS.lend
    obtain ⟨t_7, ht_7, hr⟩ := bindS hr
    refine q_call (vs := [(.agg #[s6.v])]) hF hS Try.func50 (by kernel_rfl) rfl rfl rfl (c_spec_IsMechanism t_4 t_7 ht_7 _ m8 hv8 s6 (h6.froz hl8 (hz8 0 _ rfl))) ?_
    rintro a w _ rfl hF hS
    refine q_x (v := (.bool t_7)) hF hS (ex_assign rfl) rfl rfl fun a hF => ?_
    refine q_end (n_sq ?_)
    refine q_seq ?_
    refine q_region ?_
    refine q_x (v := (.agg #[s1.v])) hF hS (ex_loadA (vs := [s1.v]) 1 0 Try.underlying63 rfl sz63 rfl rfl rfl rfl) rfl rfl fun a hF => ?_
    obtain ⟨t_9, ht_9, hr⟩ := bindS hr
    refine q_call (vs := [(.agg #[s1.v])]) hF hS Try.func51 (by kernel_rfl) rfl rfl rfl (c_laws_toMechanism p_aM t_9 ht_9 _ m5 hS.vis s1 (h1.mono hm5.le)) ?_
    have hT := hS
    rintro a w _ ⟨m10, q11, s11, rfl, hm10, hR10, h11⟩ hF hS2
    have hS : St _ _ _ _ [q11, q6, [⟨b2, [s1.v], 63⟩]] := hS.join hR10 hm10
    have hm10 := MLe.weakX (O0 := []) hT hm10
    refine q_alloc (cs := [nilS.v]) hF hS rfl rfl rfl fun a w b12 hF hS => ?_
    refine q_store (vs := [s11.v]) (cs' := [s11.v]) 0 0 hF hS sz68 rfl rfl rfl rfl rfl rfl rfl rfl fun a w hF hS => ?_
    refine q_end (n_sq ?_)
    refine q_seq ?_
    refine q_region ?_
    refine q_x (v := (.agg #[s11.v])) hF hS (ex_loadA (vs := [s11.v]) 0 0 Try.underlying68 rfl sz68 rfl rfl rfl rfl) rfl rfl fun a hF => ?_
    obtain ⟨m14, hl14, hv14, hz14⟩ := hS.lend
    obtain ⟨t_13, ht_13, hr⟩ := bindS hr
    refine q_call (vs := [(.agg #[s11.v])]) hF hS Try.func52 (by kernel_rfl) rfl rfl rfl (c_impl_IsMechanism t_9 t_13 ht_13 _ m14 hv14 s11 (h11.froz hl14 (hz14 1 _ rfl))) ?_
    rintro a w _ rfl hF hS
    refine q_x (v := (.bool t_13)) hF hS (ex_assign rfl) rfl rfl fun a hF => ?_
    refine q_end (n_sq ?_)
    refine q_seq ?_
    refine q_seq ?_
    refine q_region ?_
    refine q_x (v := (.bool t_13)) hF hS (ex_move rfl) rfl rfl fun a hF => ?_
    refine q_x (v := (.bool t_7)) hF hS (ex_move rfl) rfl rfl fun a hF => ?_
    refine q_x (v := (.bool (t_13 != t_7))) hF hS (ex_bne Try.underlying4 rfl rfl) rfl rfl fun a hF => ?_
    refine q_end (n_sq ?_)
    rcases hc2 : (t_13 != t_7) with _ | _
    · have hr := cond_f hc2 hr
      refine q_cond_f hF rfl hc2 ?_
      refine q_skipc (n_sq ?_)
      refine q_seq ?_
      refine q_seq ?_
      refine e_region [] mixed fun w' hw' => ?_
      have hS := hS.below hw'
      refine e_x (v := (.agg #[s11.v])) 0 hF hS rfl (ex_loadA (vs := [s11.v]) 0 0 Try.underlying68 rfl sz68 rfl rfl rfl rfl) rfl rfl (by kernel_rfl) (by kernel_rfl) (by kernel_rfl) (by kernel_rfl) fun a hF => ?_
      refine e_x (v := (.agg #[s1.v])) 1 hF hS rfl (ex_loadA (vs := [s1.v]) 3 0 Try.underlying63 rfl sz63 rfl rfl rfl rfl) rfl rfl (by kernel_rfl) (by kernel_rfl) (by kernel_rfl) (by kernel_rfl) fun a hF => ?_
      refine e_one 2 (by kernel_rfl) ?_
      obtain ⟨t_15, ht_15, hr⟩ := bindS hr
      refine e_call (vs := [(.agg #[s1.v])]) hF hS rfl Try.func51 (by kernel_rfl) rfl rfl rfl (c_laws_toMechanism p_aM t_15 ht_15 _ m10 hS.vis s1 ((h1.mono hm5.le).mono hm10.le)) ?_
      have hT := hS
      rintro a w _ ⟨m16, q17, s17, rfl, hm16, hR16, h17⟩ hF hS2
      have hS : St _ _ _ _ [q17, [⟨b12, [s11.v], 68⟩], q11, q6, [⟨b2, [s1.v], 63⟩]] := hS.join hR16 hm16
      have hm16 := MLe.weakX (O0 := []) hT hm16
      refine e_one 3 (by kernel_rfl) ?_
      obtain ⟨m19, hl19, hv19, hz19⟩ := hS.lend
      obtain ⟨t_18, ht_18, hr⟩ := bindS hr
      refine e_call (vs := [(.agg #[s11.v]), (.agg #[s17.v])]) hF hS rfl Try.func53 (by kernel_rfl) rfl rfl rfl (c_laws_eqMechanism t_9 t_15 t_18 ht_18 _ m19 hv19 s11 ((h11.mono hm16.le).froz hl19 (hz19 2 _ rfl)) s17 (h17.froz hl19 (hz19 0 _ rfl))) ?_
      rintro a w _ rfl hF hS
      refine e_p (v := (.bool (!t_18))) 4 hF rfl (ex_not rfl) rfl rfl (by kernel_rfl) (by kernel_rfl) (by kernel_rfl) fun a hF => ?_
      refine e_end (by kernel_rfl) (n_sq ?_) _
      rcases hc3 : (!t_18) with _ | _
      · have hr := cond_f hc3 hr
        refine q_cond_f hF rfl hc3 ?_
        refine q_skipc (n_sq ?_)
        refine q_seq ?_
        refine q_region ?_
        refine q_x (v := (.bool true)) hF hS (ex_assign rfl) rfl rfl fun a hF => ?_
        refine q_end (n_sq (q_ret ?_))
        obtain rfl := someI hr
        exact ret_of hF hS rfl (.tmp rfl .nil) rfl
      · have hr := cond_t hc3 hr
        refine q_cond_t hF rfl hc3 ?_
        refine q_seq ?_
        refine q_region ?_
        refine q_x (v := (.bool false)) hF hS (ex_assign rfl) rfl rfl fun a hF => ?_
        refine q_end (n_sq (q_ret (r_sq ?_)))
        obtain rfl := someI hr
        exact ret_of hF hS rfl (.tmp rfl .nil) rfl
    · have hr := cond_t hc2 hr
      refine q_cond_t hF rfl hc2 ?_
      refine q_seq ?_
      refine q_region ?_
      refine q_x (v := (.bool false)) hF hS (ex_assign rfl) rfl rfl fun a hF => ?_
      refine q_end (n_sq (q_ret (r_sq ?_)))
      obtain rfl := someI hr
      exact ret_of hF hS rfl (.tmp rfl .nil) rfl
  · have hr := cond_t hc1 hr
    refine q_cond_t hF rfl hc1 ?_
    refine q_seq ?_
    refine q_region ?_
    refine q_x (v := (.bool true)) hF hS (ex_assign rfl) rfl rfl fun a hF => ?_
    refine q_end (n_sq (q_ret (r_sq ?_)))
    obtain rfl := someI hr
    exact ret_of hF hS rfl (.tmp rfl .nil) rfl

theorem c_spec_mInput (p_m : impl_Mechanism) (p_i : Int) (p_k : Int) (r : Bool) (hr : spec_mInput p_m p_i p_k = some r) (w0 : World) (m : Mem) (hv : Vis m w0) (s1 : Sl) (h1 : Rd m s1 p_m.Rows) :
    Ret Try.prog 119 [(.agg #[s1.v]), (.int .i64 p_i), (.int .i64 p_k)] w0 (fun v _ => v = (.bool r)) := by
  unfold spec_mInput at hr
  refine ret_start Try.func119 rfl 25 rfl rfl m hv fun a hF hS => ?_
  refine q_seq ?_
  refine q_region ?_
  refine q_box (cs := [s1.v]) hF hS rfl rfl rfl fun a w b2 hF hS => ?_
  refine q_x (v := (.bool false)) hF hS (ex_assign rfl) rfl rfl fun a hF => ?_
  refine q_end (n_sq ?_)
  refine q_seq ?_
  obtain ⟨t_6, hj1, hr⟩ := bindS hr
  refine q_join (fun a w => Fr a 25 [(6, (.bool t_6))] ∧ St [] w0 w m []) ?_ ?_
  · refine q_region ?_
    refine q_x (v := (.agg #[s1.v])) hF hS (ex_loadA (vs := [s1.v]) 0 0 Try.underlying68 rfl sz68 rfl rfl rfl rfl) rfl rfl fun a hF => ?_
    obtain ⟨t_3, ht_3, hj1⟩ := bindS hj1
    refine q_call (vs := [(.agg #[s1.v])]) hF hS Try.func115 (by kernel_rfl) rfl rfl rfl (c_spec_mGood p_m t_3 ht_3 _ m hS.vis s1 h1) ?_
    rintro a w _ rfl hF hS
    refine q_x (v := (.bool t_3)) hF hS (ex_move rfl) rfl rfl fun a hF => ?_
    rcases hc2 : (t_3) with _ | _
    · have hj1 := cond_f hc2 hj1
      refine q_skip hF (wanted_f hF rfl rfl rfl hc2 rfl) rfl fun a hF => ?_
      refine q_skip hF (wanted_f hF rfl rfl rfl hc2 rfl) rfl fun a hF => ?_
      refine q_skip hF (wanted_f hF rfl rfl rfl hc2 rfl) rfl fun a hF => ?_
      refine q_skip hF (wanted_f hF rfl rfl rfl hc2 rfl) rfl fun a hF => ?_
      refine q_skip hF (wanted_f hF rfl rfl rfl hc2 rfl) rfl fun a hF => ?_
      refine q_skip hF (wanted_f hF rfl rfl rfl hc2 rfl) rfl fun a hF => ?_
      refine q_x (v := (.bool false)) hF hS (ex_pick_f rfl rfl hc2) rfl rfl fun a hF => ?_
      refine q_x (v := (.bool false)) hF hS (ex_move rfl) rfl rfl fun a hF => ?_
      refine q_skip hF (wanted_f hF rfl rfl rfl rfl rfl) rfl fun a hF => ?_
      refine q_skip hF (wanted_f hF rfl rfl rfl rfl rfl) rfl fun a hF => ?_
      refine q_skip hF (wanted_f hF rfl rfl rfl rfl rfl) rfl fun a hF => ?_
      refine q_skip hF (wanted_f hF rfl rfl rfl rfl rfl) rfl fun a hF => ?_
      refine q_skip hF (wanted_f hF rfl rfl rfl rfl rfl) rfl fun a hF => ?_
      refine q_skip hF (wanted_f hF rfl rfl rfl rfl rfl) rfl fun a hF => ?_
      refine q_x (v := (.bool false)) hF hS (ex_pick_f rfl rfl rfl) rfl rfl fun a hF => ?_
      refine q_x (v := (.bool false)) hF hS (ex_assign rfl) rfl rfl fun a hF => ?_
      refine q_end (n_jn ?_)
      obtain rfl := someI hj1
      exact ⟨hF.sub ⟨rfl, trivial⟩, hS.mask [false]⟩
    · have hj1 := cond_t hc2 hj1
      refine q_xg (v := (.int .i64 p_i)) hF hS (ex_move rfl) (wanted_t hF rfl rfl rfl hc2) rfl fun a hF => ?_
      refine q_xg (v := (.pointer (some ⟨b2, 0, none⟩))) hF hS (ex_fieldAddr Try.underlying68 rfl sz66 rfl rfl) (wanted_t hF rfl rfl rfl hc2) rfl fun a hF => ?_
      refine q_xg (v := s1.v) hF hS (ex_load1 0 0 Try.underlying66 rfl rfl rfl rfl) (wanted_t hF rfl rfl rfl hc2) rfl fun a hF => ?_
      refine q_xg (v := (.int .i64 (goLen p_m.Rows))) hF hS (ex_len Try.underlying66 rfl h1.len) (wanted_t hF rfl rfl rfl hc2) rfl fun a hF => ?_
      refine q_xg (v := (.int .i64 (w64 ((goLen p_m.Rows) - 1)))) hF hS (ex_ibin rfl rfl rfl) (wanted_t hF rfl rfl rfl hc2) rfl fun a hF => ?_
      obtain ⟨t_4, ht_4, hj1⟩ := bindS hj1
      refine q_callg (vs := [(.int .i64 p_i), (.int .i64 0), (.int .i64 (w64 ((goLen p_m.Rows) - 1)))]) hF hS (wanted_t hF rfl rfl rfl hc2) Try.func86 (by kernel_rfl) rfl rfl rfl (c_spec_l1In p_i 0 (w64 ((goLen p_m.Rows) - 1)) t_4 ht_4 _ m hS.vis) ?_
      rintro a w _ rfl hF hS
      refine q_x (v := (.bool t_4)) hF hS (ex_pick_t rfl rfl hc2) rfl rfl fun a hF => ?_
      refine q_x (v := (.bool t_4)) hF hS (ex_move rfl) rfl rfl fun a hF => ?_
      rcases hc3 : (t_4) with _ | _
      · have hj1 := cond_f hc3 hj1
        refine q_skip hF (wanted_f hF rfl rfl rfl hc3 rfl) rfl fun a hF => ?_
        refine q_skip hF (wanted_f hF rfl rfl rfl hc3 rfl) rfl fun a hF => ?_
        refine q_skip hF (wanted_f hF rfl rfl rfl hc3 rfl) rfl fun a hF => ?_
        refine q_skip hF (wanted_f hF rfl rfl rfl hc3 rfl) rfl fun a hF => ?_
        refine q_skip hF (wanted_f hF rfl rfl rfl hc3 rfl) rfl fun a hF => ?_
        refine q_skip hF (wanted_f hF rfl rfl rfl hc3 rfl) rfl fun a hF => ?_
        refine q_x (v := (.bool false)) hF hS (ex_pick_f rfl rfl hc3) rfl rfl fun a hF => ?_
        refine q_x (v := (.bool false)) hF hS (ex_assign rfl) rfl rfl fun a hF => ?_
        refine q_end (n_jn ?_)
        obtain rfl := someI hj1
        exact ⟨hF.sub ⟨rfl, trivial⟩, hS.mask [false]⟩
      · have hj1 := cond_t hc3 hj1
        refine q_xg (v := (.int .i64 p_k)) hF hS (ex_move rfl) (wanted_t hF rfl rfl rfl hc3) rfl fun a hF => ?_
        refine q_xg (v := (.pointer (some ⟨b2, 0, none⟩))) hF hS (ex_fieldAddr Try.underlying68 rfl sz66 rfl rfl) (wanted_t hF rfl rfl rfl hc3) rfl fun a hF => ?_
        refine q_xg (v := s1.v) hF hS (ex_load1 0 0 Try.underlying66 rfl rfl rfl rfl) (wanted_t hF rfl rfl rfl hc3) rfl fun a hF => ?_
        refine q_xg (v := (.int .i64 (goLen p_m.Rows))) hF hS (ex_len Try.underlying66 rfl h1.len) (wanted_t hF rfl rfl rfl hc3) rfl fun a hF => ?_
        refine q_xg (v := (.int .i64 (w64 ((goLen p_m.Rows) - 1)))) hF hS (ex_ibin rfl rfl rfl) (wanted_t hF rfl rfl rfl hc3) rfl fun a hF => ?_
        obtain ⟨t_5, ht_5, hj1⟩ := bindS hj1
        refine q_callg (vs := [(.int .i64 p_k), (.int .i64 0), (.int .i64 (w64 ((goLen p_m.Rows) - 1)))]) hF hS (wanted_t hF rfl rfl rfl hc3) Try.func86 (by kernel_rfl) rfl rfl rfl (c_spec_l1In p_k 0 (w64 ((goLen p_m.Rows) - 1)) t_5 ht_5 _ m hS.vis) ?_
        rintro a w _ rfl hF hS
        refine q_x (v := (.bool t_5)) hF hS (ex_pick_t rfl rfl hc3) rfl rfl fun a hF => ?_
        refine q_x (v := (.bool t_5)) hF hS (ex_assign rfl) rfl rfl fun a hF => ?_
        refine q_end (n_jn ?_)
        obtain rfl := someI hj1
        exact ⟨hF.sub ⟨rfl, trivial⟩, hS.mask [false]⟩
  · rintro a w ⟨hF, hS⟩
    refine n_sq (q_ret ?_)
    obtain rfl := someI hr
    exact ret_of hF hS rfl (.tmp rfl .nil) rfl

theorem c_spec_fMul (p_a : impl_Frac) (p_b : impl_Frac) (r : impl_Frac × Bool) (hr : spec_fMul p_a p_b = some r) (w0 : World) (m : Mem) (hv : Vis m w0) :
    Ret Try.prog 96 [(.agg #[(.int .i64 p_a.Num), (.int .i64 p_a.Den)]), (.agg #[(.int .i64 p_b.Num), (.int .i64 p_b.Den)])] w0 (fun v _ => v = (.tuple #[(.agg #[(.int .i64 r.1.Num), (.int .i64 r.1.Den)]), (.bool r.2)])) := by
  unfold spec_fMul at hr
  refine ret_start Try.func96 rfl 19 rfl rfl m hv fun a hF hS => ?_
  refine q_seq ?_
  refine q_region ?_
  refine q_box (cs := [(.int .i64 p_a.Num), (.int .i64 p_a.Den)]) hF hS rfl rfl rfl fun a w b1 hF hS => ?_
  refine q_box (cs := [(.int .i64 p_b.Num), (.int .i64 p_b.Den)]) hF hS rfl rfl rfl fun a w b2 hF hS => ?_
  refine q_alloc (cs := [(.int .i64 0), (.int .i64 0)]) hF hS rfl rfl rfl fun a w b3 hF hS => ?_
  refine q_x (v := (.bool false)) hF hS (ex_assign rfl) rfl rfl fun a hF => ?_
  refine q_end (n_sq ?_)
  refine q_seq ?_
  refine q_region ?_
  refine q_x (v := (.pointer (some ⟨b1, 0, none⟩))) hF hS (ex_fieldAddr Try.underlying26 rfl sz3 rfl rfl) rfl rfl fun a hF => ?_
  refine q_x (v := (.int .i64 p_a.Num)) hF hS (ex_load1 2 0 Try.underlying3 rfl rfl rfl rfl) rfl rfl fun a hF => ?_
  refine q_x (v := (.pointer (some ⟨b2, 0, none⟩))) hF hS (ex_fieldAddr Try.underlying26 rfl sz3 rfl rfl) rfl rfl fun a hF => ?_
  refine q_x (v := (.int .i64 p_b.Num)) hF hS (ex_load1 1 0 Try.underlying3 rfl rfl rfl rfl) rfl rfl fun a hF => ?_
  refine q_x (v := (.int .i64 (w64 (p_a.Num * p_b.Num)))) hF hS (ex_ibin rfl rfl rfl) rfl rfl fun a hF => ?_
  refine q_x (v := (.pointer (some ⟨b1, 1, none⟩))) hF hS (ex_fieldAddr Try.underlying26 rfl sz3 rfl rfl) rfl rfl fun a hF => ?_
  refine q_x (v := (.int .i64 p_a.Den)) hF hS (ex_load1 2 0 Try.underlying3 rfl rfl rfl rfl) rfl rfl fun a hF => ?_
  refine q_x (v := (.pointer (some ⟨b2, 1, none⟩))) hF hS (ex_fieldAddr Try.underlying26 rfl sz3 rfl rfl) rfl rfl fun a hF => ?_
  refine q_x (v := (.int .i64 p_b.Den)) hF hS (ex_load1 1 0 Try.underlying3 rfl rfl rfl rfl) rfl rfl fun a hF => ?_
  refine q_x (v := (.int .i64 (w64 (p_a.Den * p_b.Den)))) hF hS (ex_ibin rfl rfl rfl) rfl rfl fun a hF => ?_
  obtain ⟨t_4, ht_4, hr⟩ := bindS hr
  refine q_call (vs := [(.int .i64 (w64 (p_a.Num * p_b.Num))), (.int .i64 (w64 (p_a.Den * p_b.Den)))]) hF hS Try.func104 (by kernel_rfl) rfl rfl rfl (c_spec_fMake (w64 (p_a.Num * p_b.Num)) (w64 (p_a.Den * p_b.Den)) t_4 ht_4 _ m hS.vis) ?_
  rintro a w _ rfl hF hS
  refine q_x (v := (.agg #[(.int .i64 t_4.1.Num), (.int .i64 t_4.1.Den)])) hF hS (ex_extract rfl rfl) rfl rfl fun a hF => ?_
  refine q_x (v := (.bool t_4.2)) hF hS (ex_extract rfl rfl) rfl rfl fun a hF => ?_
  refine q_store (vs := [(.int .i64 t_4.1.Num), (.int .i64 t_4.1.Den)]) (cs' := [(.int .i64 t_4.1.Num), (.int .i64 t_4.1.Den)]) 0 0 hF hS sz26 rfl rfl rfl rfl rfl rfl rfl rfl fun a w hF hS => ?_
  refine q_x (v := (.bool t_4.2)) hF hS (ex_assign rfl) rfl rfl fun a hF => ?_
  refine q_end (n_sq (q_ret ?_))
  obtain rfl := someI hr
  exact ret_of hF hS rfl (.cellA (us := [(.int .i64 t_4.1.Num), (.int .i64 t_4.1.Den)]) 0 0 Try.underlying26 rfl sz26 rfl rfl rfl rfl (.tmp rfl .nil)) rfl

theorem c_spec_ExpectedOutput (p_m : impl_Mechanism) (p_i : Int) (r : impl_Frac × Bool) (hr : spec_ExpectedOutput p_m p_i = some r) (w0 : World) (m : Mem) (hv : Vis m w0) (s1 : Sl) (h1 : Rd m s1 p_m.Rows) :
    Ret Try.prog 54 [(.agg #[s1.v]), (.int .i64 p_i)] w0 (fun v _ => v = (.tuple #[(.agg #[(.int .i64 r.1.Num), (.int .i64 r.1.Den)]), (.bool r.2)])) := by
  unfold spec_ExpectedOutput at hr
  refine ret_start Try.func54 rfl 53 rfl rfl m hv fun a hF hS => ?_
  refine q_seq ?_
  refine q_region ?_
  refine q_box (cs := [s1.v]) hF hS rfl rfl rfl fun a w b2 hF hS => ?_
  refine q_alloc (cs := [(.int .i64 0), (.int .i64 0)]) hF hS rfl rfl rfl fun a w b3 hF hS => ?_
  refine q_x (v := (.bool false)) hF hS (ex_assign rfl) rfl rfl fun a hF => ?_
  refine q_end (n_sq ?_)
  refine q_seq ?_
  refine q_seq ?_
  refine q_region ?_
  refine q_x (v := (.agg #[s1.v])) hF hS (ex_loadA (vs := [s1.v]) 1 0 Try.underlying68 rfl sz68 rfl rfl rfl rfl) rfl rfl fun a hF => ?_
  refine q_x (v := (.int .i64 p_i)) hF hS (ex_move rfl) rfl rfl fun a hF => ?_
  refine q_x (v := (.int .i64 p_i)) hF hS (ex_move rfl) rfl rfl fun a hF => ?_
  obtain ⟨t_4, ht_4, hr⟩ := bindS hr
  refine q_call (vs := [(.agg #[s1.v]), (.int .i64 p_i), (.int .i64 p_i)]) hF hS Try.func119 (by kernel_rfl) rfl rfl rfl (c_spec_mInput p_m p_i p_i t_4 ht_4 _ m hS.vis s1 h1) ?_
  rintro a w _ rfl hF hS
  refine q_x (v := (.bool (!t_4))) hF hS (ex_not rfl) rfl rfl fun a hF => ?_
  refine q_end (n_sq ?_)
  rcases hc1 : (!t_4) with _ | _
  · have hr := cond_f hc1 hr
    refine q_cond_f hF rfl hc1 ?_
    refine q_skipc (n_sq ?_)
    refine q_seq ?_
    refine q_region ?_
    obtain ⟨t_5, ht_5, hr⟩ := bindS hr
    refine q_call (vs := [(.int .i64 0)]) hF hS Try.func97 (by kernel_rfl) rfl rfl rfl (c_spec_fInt 0 t_5 ht_5 _ m hS.vis) ?_
    rintro a w _ rfl hF hS
    refine q_alloc (cs := [(.int .i64 0), (.int .i64 0)]) hF hS rfl rfl rfl fun a w b6 hF hS => ?_
    refine q_store (vs := [(.int .i64 t_5.Num), (.int .i64 t_5.Den)]) (cs' := [(.int .i64 t_5.Num), (.int .i64 t_5.Den)]) 0 0 hF hS sz26 rfl rfl rfl rfl rfl rfl rfl rfl fun a w hF hS => ?_
    refine q_end (n_sq ?_)
    refine q_seq ?_
    refine q_seq ?_
    refine q_region ?_
    refine q_x (v := (.pointer (some ⟨b2, 0, none⟩))) hF hS (ex_fieldAddr Try.underlying68 rfl sz66 rfl rfl) rfl rfl fun a hF => ?_
    refine q_x (v := s1.v) hF hS (ex_load1 2 0 Try.underlying66 rfl rfl rfl rfl) rfl rfl fun a hF => ?_
    refine q_x (v := (.int .i64 p_i)) hF hS (ex_move rfl) rfl rfl fun a hF => ?_
    obtain ⟨e_7, he_7, hr⟩ := bindS hr
    obtain ⟨vs8, at8, d8⟩ := h1.at he_7 1 rfl
    obtain ⟨s9, rfl, h9⟩ : ∃ s9 : Sl, vs8 = [s9.v] ∧ Rd m s9 e_7 := d8
    refine q_x (v := (elP s1 (p_i.toNat * 1))) hF hS (ex_indexAddr Try.underlying66 sz51 rfl rfl (h1.idx he_7)) rfl rfl fun a hF => ?_
    refine q_x (v := s9.v) hF hS (ex_loadE1 0 Try.underlying51 rfl rfl ((at8).at) rfl rfl) rfl rfl fun a hF => ?_
    refine q_x (v := (.int .i64 (goLen e_7))) hF hS (ex_len Try.underlying51 rfl h9.len) rfl rfl fun a hF => ?_
    refine q_x (v := (.int .i64 0)) hF hS (ex_move rfl) rfl rfl fun a hF => ?_
    refine q_end (n_sq ?_)
    refine q_block ?_
    obtain ⟨o2, hl2, hr⟩ := bindS hr
    refine q_loop (fun (s : Int × impl_Frac) a w => ∃ t_10, ∃ sum_11, s = (t_10, sum_11) ∧ Fr a 53 [(4, (.pointer (some ⟨b3, 0, none⟩))), (6, (.pointer (some ⟨b6, 0, none⟩))), (24, s9.v), (25, (.int .i64 (goLen e_7))), (26, (.int .i64 t_10))] ∧ St [] w0 w m [[⟨b6, [(.int .i64 sum_11.Num), (.int .i64 sum_11.Den)], 26⟩], [⟨b3, [(.int .i64 0), (.int .i64 0)], 26⟩]]) (fun (o : (impl_Frac) ⊕ (impl_Frac × Bool)) e a w => ∃ sum_23, o = .inl sum_23 ∧ e = .exit 0 ∧ Fr a 53 [(4, (.pointer (some ⟨b3, 0, none⟩))), (6, (.pointer (some ⟨b6, 0, none⟩)))] ∧ St [] w0 w m [[⟨b6, [(.int .i64 sum_23.Num), (.int .i64 sum_23.Den)], 26⟩], [⟨b3, [(.int .i64 0), (.int .i64 0)], 26⟩]]) hl2 ⟨_, _, rfl, hF.sub ⟨rfl, rfl, rfl, rfl, rfl, trivial⟩, hS.mask [true, true, false]⟩ ?_ ?_
    · clear hF hS
      rintro s a w st ⟨t_10, sum_11, rfl, hF, hS⟩ hb2
      unfold spec_ExpectedOutput_l1 at hb2
      refine q_seq ?_
      refine q_region ?_
      refine q_x (v := (.bool (decide (t_10 < (goLen e_7))))) hF hS (ex_ibin rfl rfl rfl) rfl rfl fun a hF => ?_
      refine q_end (n_sq ?_)
      refine q_seq ?_
      rcases hc3 : (decide (t_10 < (goLen e_7))) with _ | _
      · have hb2 := cond_f hc3 hb2
        refine q_cond_f hF rfl hc3 ?_
        refine q_exit (x_sq ?_)
        obtain rfl := someI hb2
        exact ⟨nofun, .inl ⟨_, rfl, rfl, hF.sub ⟨rfl, rfl, trivial⟩, hS⟩⟩
      · have hb2 := cond_t hc3 hb2
        refine q_cond_t hF rfl hc3 ?_
        refine q_skipc (n_sq ?_)
        refine q_seq ?_
        refine q_block ?_
        refine q_seq ?_
        refine q_region ?_
        refine q_x (v := (.int .i64 t_10)) hF hS (ex_move rfl) rfl rfl fun a hF => ?_
        obtain ⟨e_12, he_12, hb2⟩ := bindS hb2
        obtain ⟨vs13, at13, d13⟩ := h9.at he_12 2 rfl
        obtain rfl : vs13 = [(.int .i64 e_12.Num), (.int .i64 e_12.Den)] := d13
        refine q_x (v := (elP s9 (t_10.toNat * 2))) hF hS (ex_indexAddr Try.underlying51 sz26 rfl rfl (h9.idx he_12)) rfl rfl fun a hF => ?_
        refine q_x (v := (.agg #[(.int .i64 e_12.Num), (.int .i64 e_12.Den)])) hF hS (ex_loadEA (us := [(.int .i64 e_12.Num), (.int .i64 e_12.Den)]) 0 Try.underlying26 rfl sz26 rfl ((at13).at) rfl rfl rfl) rfl rfl fun a hF => ?_
        refine q_alloc (cs := [(.int .i64 0), (.int .i64 0)]) hF hS rfl rfl rfl fun a w b14 hF hS => ?_
        refine q_x (v := (.int .i64 t_10)) hF hS (ex_assign rfl) rfl rfl fun a hF => ?_
        refine q_store (vs := [(.int .i64 e_12.Num), (.int .i64 e_12.Den)]) (cs' := [(.int .i64 e_12.Num), (.int .i64 e_12.Den)]) 0 0 hF hS sz26 rfl rfl rfl rfl rfl rfl rfl rfl fun a w hF hS => ?_
        refine q_end (n_sq ?_)
        refine q_seq ?_
        obtain ⟨j4, hj4, hb2⟩ := bindS hb2
        refine q_join (fun a w => ∃ b18, ∃ one_19, ∃ x_20, j4 = (one_19, x_20) ∧ Fr a 53 [(4, (.pointer (some ⟨b3, 0, none⟩))), (6, (.pointer (some ⟨b6, 0, none⟩))), (9, (.pointer (some ⟨b18, 0, none⟩))), (10, (.bool one_19)), (24, s9.v), (25, (.int .i64 (goLen e_7))), (26, (.int .i64 t_10))] ∧ St [] w0 w m [[⟨b18, [(.int .i64 x_20.Num), (.int .i64 x_20.Den)], 26⟩], [⟨b6, [(.int .i64 sum_11.Num), (.int .i64 sum_11.Den)], 26⟩], [⟨b3, [(.int .i64 0), (.int .i64 0)], 26⟩]]) ?_ ?_
        · refine e_region [8] mixed fun w' hw' => ?_
          have hS := hS.below hw'
          refine e_x (v := (.agg #[(.int .i64 e_12.Num), (.int .i64 e_12.Den)])) 0 hF hS rfl (ex_loadA (vs := [(.int .i64 e_12.Num), (.int .i64 e_12.Den)]) 0 0 Try.underlying26 rfl sz26 rfl rfl rfl rfl) rfl rfl (by kernel_rfl) (by kernel_rfl) (by kernel_rfl) (by kernel_rfl) fun a hF => ?_
          refine e_p (v := (.int .i64 t_10)) 1 hF rfl (ex_move rfl) rfl rfl (by kernel_rfl) (by kernel_rfl) (by kernel_rfl) fun a hF => ?_
          obtain ⟨t_16, ht_16, hj4⟩ := bindS hj4
          obtain ⟨t_17, ht_17, hj4⟩ := bindS hj4
          refine e_all [2, 7] (by kernel_rfl) rfl ⟨?_, ?_, trivial⟩
          · refine e_call (vs := [(.int .i64 t_10)]) hF hS rfl Try.func97 (by kernel_rfl) rfl rfl rfl (c_spec_fInt t_10 t_16 ht_16 _ m hS.vis) ?_
            rintro a w _ rfl hF hS
            refine e_all [3, 7] (by kernel_rfl) rfl ⟨?_, ?_, trivial⟩
            · refine e_call (vs := [(.agg #[(.int .i64 e_12.Num), (.int .i64 e_12.Den)]), (.agg #[(.int .i64 t_16.Num), (.int .i64 t_16.Den)])]) hF hS rfl Try.func96 (by kernel_rfl) rfl rfl rfl (c_spec_fMul e_12 t_16 t_17 ht_17 _ m hS.vis) ?_
              rintro a w _ rfl hF hS
              refine e_p (v := (.tuple #[(.agg #[(.int .i64 t_17.1.Num), (.int .i64 t_17.1.Den)]), (.bool t_17.2)])) 4 hF rfl (ex_move rfl) rfl rfl (by kernel_rfl) (by kernel_rfl) (by kernel_rfl) fun a hF => ?_
              refine e_p (v := (.agg #[(.int .i64 t_17.1.Num), (.int .i64 t_17.1.Den)])) 5 hF rfl (ex_extract rfl rfl) rfl rfl (by kernel_rfl) (by kernel_rfl) (by kernel_rfl) fun a hF => ?_
              refine e_p (v := (.bool t_17.2)) 6 hF rfl (ex_extract rfl rfl) rfl rfl (by kernel_rfl) (by kernel_rfl) (by kernel_rfl) fun a hF => ?_
              refine e_one 7 (by kernel_rfl) ?_
              refine e_alloc (cs := [(.int .i64 0), (.int .i64 0)]) hF hS rfl rfl rfl rfl fun a w b18 hF hS => ?_
              refine e_one 8 (by kernel_rfl) ?_
              refine e_store (vs := [(.int .i64 t_17.1.Num), (.int .i64 t_17.1.Den)]) (cs' := [(.int .i64 t_17.1.Num), (.int .i64 t_17.1.Den)]) 0 0 hF hS rfl rfl sz26 rfl rfl rfl rfl rfl rfl rfl rfl fun a w hF hS => ?_
              refine e_p (v := (.bool t_17.2)) 9 hF rfl (ex_assign rfl) rfl rfl (by kernel_rfl) (by kernel_rfl) (by kernel_rfl) fun a hF => ?_
              refine e_end (by kernel_rfl) (n_jn ?_) _
              obtain rfl := someI hj4
              exact ⟨b18, _, _, rfl, hF.sub ⟨rfl, rfl, rfl, rfl, rfl, rfl, rfl, trivial⟩, hS.mask [true, false, true, true]⟩
            · refine e_alloc (cs := [(.int .i64 0), (.int .i64 0)]) hF hS rfl rfl rfl rfl fun a w b18 hF hS => ?_
              refine e_one 3 (by kernel_rfl) ?_
              refine e_call (vs := [(.agg #[(.int .i64 e_12.Num), (.int .i64 e_12.Den)]), (.agg #[(.int .i64 t_16.Num), (.int .i64 t_16.Den)])]) hF hS rfl Try.func96 (by kernel_rfl) rfl rfl rfl (c_spec_fMul e_12 t_16 t_17 ht_17 _ m hS.vis) ?_
              rintro a w _ rfl hF hS
              refine e_p (v := (.tuple #[(.agg #[(.int .i64 t_17.1.Num), (.int .i64 t_17.1.Den)]), (.bool t_17.2)])) 4 hF rfl (ex_move rfl) rfl rfl (by kernel_rfl) (by kernel_rfl) (by kernel_rfl) fun a hF => ?_
              refine e_p (v := (.agg #[(.int .i64 t_17.1.Num), (.int .i64 t_17.1.Den)])) 5 hF rfl (ex_extract rfl rfl) rfl rfl (by kernel_rfl) (by kernel_rfl) (by kernel_rfl) fun a hF => ?_
              refine e_p (v := (.bool t_17.2)) 6 hF rfl (ex_extract rfl rfl) rfl rfl (by kernel_rfl) (by kernel_rfl) (by kernel_rfl) fun a hF => ?_
              refine e_one 8 (by kernel_rfl) ?_
              refine e_store (vs := [(.int .i64 t_17.1.Num), (.int .i64 t_17.1.Den)]) (cs' := [(.int .i64 t_17.1.Num), (.int .i64 t_17.1.Den)]) 0 0 hF hS rfl rfl sz26 rfl rfl rfl rfl rfl rfl rfl rfl fun a w hF hS => ?_
              refine e_p (v := (.bool t_17.2)) 9 hF rfl (ex_assign rfl) rfl rfl (by kernel_rfl) (by kernel_rfl) (by kernel_rfl) fun a hF => ?_
              refine e_end (by kernel_rfl) (n_jn ?_) _
              obtain rfl := someI hj4
              exact ⟨b18, _, _, rfl, hF.sub ⟨rfl, rfl, rfl, rfl, rfl, rfl, rfl, trivial⟩, hS.mask [true, false, true, true]⟩
          · refine e_alloc (cs := [(.int .i64 0), (.int .i64 0)]) hF hS rfl rfl rfl rfl fun a w b18 hF hS => ?_
            refine e_one 2 (by kernel_rfl) ?_
            refine e_call (vs := [(.int .i64 t_10)]) hF hS rfl Try.func97 (by kernel_rfl) rfl rfl rfl (c_spec_fInt t_10 t_16 ht_16 _ m hS.vis) ?_
            rintro a w _ rfl hF hS
            refine e_one 3 (by kernel_rfl) ?_
            refine e_call (vs := [(.agg #[(.int .i64 e_12.Num), (.int .i64 e_12.Den)]), (.agg #[(.int .i64 t_16.Num), (.int .i64 t_16.Den)])]) hF hS rfl Try.func96 (by kernel_rfl) rfl rfl rfl (c_spec_fMul e_12 t_16 t_17 ht_17 _ m hS.vis) ?_
            rintro a w _ rfl hF hS
            refine e_p (v := (.tuple #[(.agg #[(.int .i64 t_17.1.Num), (.int .i64 t_17.1.Den)]), (.bool t_17.2)])) 4 hF rfl (ex_move rfl) rfl rfl (by kernel_rfl) (by kernel_rfl) (by kernel_rfl) fun a hF => ?_
            refine e_p (v := (.agg #[(.int .i64 t_17.1.Num), (.int .i64 t_17.1.Den)])) 5 hF rfl (ex_extract rfl rfl) rfl rfl (by kernel_rfl) (by kernel_rfl) (by kernel_rfl) fun a hF => ?_
            refine e_p (v := (.bool t_17.2)) 6 hF rfl (ex_extract rfl rfl) rfl rfl (by kernel_rfl) (by kernel_rfl) (by kernel_rfl) fun a hF => ?_
            refine e_one 8 (by kernel_rfl) ?_
            refine e_store (vs := [(.int .i64 t_17.1.Num), (.int .i64 t_17.1.Den)]) (cs' := [(.int .i64 t_17.1.Num), (.int .i64 t_17.1.Den)]) 0 0 hF hS rfl rfl sz26 rfl rfl rfl rfl rfl rfl rfl rfl fun a w hF hS => ?_
            refine e_p (v := (.bool t_17.2)) 9 hF rfl (ex_assign rfl) rfl rfl (by kernel_rfl) (by kernel_rfl) (by kernel_rfl) fun a hF => ?_
            refine e_end (by kernel_rfl) (n_jn ?_) _
            obtain rfl := someI hj4
            exact ⟨b18, _, _, rfl, hF.sub ⟨rfl, rfl, rfl, rfl, rfl, rfl, rfl, trivial⟩, hS.mask [true, false, true, true]⟩
        · rintro a w ⟨b18, one_19, x_20, rfl, hF, hS⟩
          refine n_sq ?_
          refine q_seq ?_
          refine q_seq ?_
          refine q_region ?_
          refine q_x (v := (.bool one_19)) hF hS (ex_move rfl) rfl rfl fun a hF => ?_
          refine q_x (v := (.bool (!one_19))) hF hS (ex_not rfl) rfl rfl fun a hF => ?_
          refine q_end (n_sq ?_)
          rcases hc5 : (!one_19) with _ | _
          · have hb2 := cond_f hc5 hb2
            refine q_cond_f hF rfl hc5 ?_
            refine q_skipc (n_sq ?_)
            refine q_seq ?_
            refine q_region ?_
            refine q_x (v := (.agg #[(.int .i64 sum_11.Num), (.int .i64 sum_11.Den)])) hF hS (ex_loadA (vs := [(.int .i64 sum_11.Num), (.int .i64 sum_11.Den)]) 1 0 Try.underlying26 rfl sz26 rfl rfl rfl rfl) rfl rfl fun a hF => ?_
            refine q_x (v := (.agg #[(.int .i64 x_20.Num), (.int .i64 x_20.Den)])) hF hS (ex_loadA (vs := [(.int .i64 x_20.Num), (.int .i64 x_20.Den)]) 0 0 Try.underlying26 rfl sz26 rfl rfl rfl rfl) rfl rfl fun a hF => ?_
            obtain ⟨t_21, ht_21, hb2⟩ := bindS hb2
            refine q_call (vs := [(.agg #[(.int .i64 sum_11.Num), (.int .i64 sum_11.Den)]), (.agg #[(.int .i64 x_20.Num), (.int .i64 x_20.Den)])]) hF hS Try.func120 (by kernel_rfl) rfl rfl rfl (c_spec_fAdd sum_11 x_20 t_21 ht_21 _ m hS.vis) ?_
            rintro a w _ rfl hF hS
            refine q_x (v := (.tuple #[(.agg #[(.int .i64 t_21.1.Num), (.int .i64 t_21.1.Den)]), (.bool t_21.2)])) hF hS (ex_move rfl) rfl rfl fun a hF => ?_
            refine q_x (v := (.agg #[(.int .i64 t_21.1.Num), (.int .i64 t_21.1.Den)])) hF hS (ex_extract rfl rfl) rfl rfl fun a hF => ?_
            refine q_x (v := (.bool t_21.2)) hF hS (ex_extract rfl rfl) rfl rfl fun a hF => ?_
            refine q_alloc (cs := [(.int .i64 0), (.int .i64 0)]) hF hS rfl rfl rfl fun a w b22 hF hS => ?_
            refine q_store (vs := [(.int .i64 t_21.1.Num), (.int .i64 t_21.1.Den)]) (cs' := [(.int .i64 t_21.1.Num), (.int .i64 t_21.1.Den)]) 0 0 hF hS sz26 rfl rfl rfl rfl rfl rfl rfl rfl fun a w hF hS => ?_
            refine q_x (v := (.bool t_21.2)) hF hS (ex_assign rfl) rfl rfl fun a hF => ?_
            refine q_end (n_sq ?_)
            refine q_seq ?_
            refine q_seq ?_
            refine q_region ?_
            refine q_x (v := (.bool t_21.2)) hF hS (ex_move rfl) rfl rfl fun a hF => ?_
            refine q_x (v := (.bool (!t_21.2))) hF hS (ex_not rfl) rfl rfl fun a hF => ?_
            refine q_end (n_sq ?_)
            rcases hc6 : (!t_21.2) with _ | _
            · have hb2 := cond_f hc6 hb2
              refine q_cond_f hF rfl hc6 ?_
              refine q_skipc (n_sq ?_)
              refine q_region ?_
              refine q_x (v := (.agg #[(.int .i64 t_21.1.Num), (.int .i64 t_21.1.Den)])) hF hS (ex_loadA (vs := [(.int .i64 t_21.1.Num), (.int .i64 t_21.1.Den)]) 0 0 Try.underlying26 rfl sz26 rfl rfl rfl rfl) rfl rfl fun a hF => ?_
              refine q_store (vs := [(.int .i64 t_21.1.Num), (.int .i64 t_21.1.Den)]) (cs' := [(.int .i64 t_21.1.Num), (.int .i64 t_21.1.Den)]) 2 0 hF hS sz26 rfl rfl rfl rfl rfl rfl rfl rfl fun a w hF hS => ?_
              refine q_end (n_ib (n_sq ?_))
              refine q_region ?_
              refine q_x (v := (.int .i64 (w64 (t_10 + 1)))) hF hS (ex_ibin rfl rfl rfl) rfl rfl fun a hF => ?_
              refine q_x (v := (.int .i64 (w64 (t_10 + 1)))) hF hS (ex_move rfl) rfl rfl fun a hF => ?_
              refine q_end ?_
              obtain rfl := someI hb2
              exact ⟨rfl, _, _, rfl, hF.sub ⟨rfl, rfl, rfl, rfl, rfl, trivial⟩, hS.mask [false, false, true, true]⟩
            · have hb2 := cond_t hc6 hb2
              refine q_cond_t hF rfl hc6 ?_
              refine q_seq ?_
              refine q_region ?_
              refine q_x (v := (.agg #[(.int .i64 0), (.int .i64 0)])) hF hS (ex_build (cells := [(.int .i64 0), (.int .i64 0)]) rfl (by kernel_rfl)) rfl rfl fun a hF => ?_
              refine q_store (vs := [(.int .i64 0), (.int .i64 0)]) (cs' := [(.int .i64 0), (.int .i64 0)]) 3 0 hF hS sz26 rfl rfl rfl rfl rfl rfl rfl rfl fun a w hF hS => ?_
              refine q_x (v := (.bool false)) hF hS (ex_assign rfl) rfl rfl fun a hF => ?_
              refine q_end (n_sq (q_ret (r_sq (r_ib (r_sq ?_)))))
              obtain rfl := someI hb2
              refine ⟨nofun, .inr fun ho => ?_⟩
              subst ho
              refine r_ib (r_sq ?_)
              obtain rfl := someI hr
              exact ret_of hF hS rfl (.cellA (us := [(.int .i64 0), (.int .i64 0)]) 3 0 Try.underlying26 rfl sz26 rfl rfl rfl rfl (.tmp rfl .nil)) rfl
          · have hb2 := cond_t hc5 hb2
            refine q_cond_t hF rfl hc5 ?_
            refine q_seq ?_
            refine q_region ?_
            refine q_x (v := (.agg #[(.int .i64 0), (.int .i64 0)])) hF hS (ex_build (cells := [(.int .i64 0), (.int .i64 0)]) rfl (by kernel_rfl)) rfl rfl fun a hF => ?_
            refine q_store (vs := [(.int .i64 0), (.int .i64 0)]) (cs' := [(.int .i64 0), (.int .i64 0)]) 2 0 hF hS sz26 rfl rfl rfl rfl rfl rfl rfl rfl fun a w hF hS => ?_
            refine q_x (v := (.bool false)) hF hS (ex_assign rfl) rfl rfl fun a hF => ?_
            refine q_end (n_sq (q_ret (r_sq (r_ib (r_sq ?_)))))
            obtain rfl := someI hb2
            refine ⟨nofun, .inr fun ho => ?_⟩
            subst ho
            refine r_ib (r_sq ?_)
            obtain rfl := someI hr
            exact ret_of hF hS rfl (.cellA (us := [(.int .i64 0), (.int .i64 0)]) 2 0 Try.underlying26 rfl sz26 rfl rfl rfl rfl (.tmp rfl .nil)) rfl
    · rintro e a w ⟨sum_23, rfl, rfl, hF, hS⟩
      refine x_ib (n_sq ?_)
      refine q_seq ?_
      refine q_region ?_
      refine q_x (v := (.agg #[(.int .i64 sum_23.Num), (.int .i64 sum_23.Den)])) hF hS (ex_loadA (vs := [(.int .i64 sum_23.Num), (.int .i64 sum_23.Den)]) 0 0 Try.underlying26 rfl sz26 rfl rfl rfl rfl) rfl rfl fun a hF => ?_
      refine q_store (vs := [(.int .i64 sum_23.Num), (.int .i64 sum_23.Den)]) (cs' := [(.int .i64 sum_23.Num), (.int .i64 sum_23.Den)]) 1 0 hF hS sz26 rfl rfl rfl rfl rfl rfl rfl rfl fun a w hF hS => ?_
      refine q_x (v := (.bool true)) hF hS (ex_assign rfl) rfl rfl fun a hF => ?_
      refine q_end (n_sq (q_ret ?_))
      obtain rfl := someI hr
      exact ret_of hF hS rfl (.cellA (us := [(.int .i64 sum_23.Num), (.int .i64 sum_23.Den)]) 1 0 Try.underlying26 rfl sz26 rfl rfl rfl rfl (.tmp rfl .nil)) rfl
  · have hr := cond_t hc1 hr
    refine q_cond_t hF rfl hc1 ?_
    refine q_seq ?_
    refine q_region ?_
    refine q_x (v := (.agg #[(.int .i64 0), (.int .i64 0)])) hF hS (ex_build (cells := [(.int .i64 0), (.int .i64 0)]) rfl (by kernel_rfl)) rfl rfl fun a hF => ?_
    refine q_store (vs := [(.int .i64 0), (.int .i64 0)]) (cs' := [(.int .i64 0), (.int .i64 0)]) 0 0 hF hS sz26 rfl rfl rfl rfl rfl rfl rfl rfl fun a w hF hS => ?_
    refine q_x (v := (.bool false)) hF hS (ex_assign rfl) rfl rfl fun a hF => ?_
    refine q_end (n_sq (q_ret (r_sq ?_)))
    obtain rfl := someI hr
    exact ret_of hF hS rfl (.cellA (us := [(.int .i64 0), (.int .i64 0)]) 0 0 Try.underlying26 rfl sz26 rfl rfl rfl rfl (.tmp rfl .nil)) rfl

theorem c_impl_isInput (p_m : impl_Mechanism) (p_i : Int) (r : Bool) (hr : impl_isInput p_m p_i = some r) (w0 : World) (m : Mem) (hv : Vis m w0) (s1 : Sl) (h1 : Rd m s1 p_m.Rows) :
    Ret Try.prog 121 [(.agg #[s1.v]), (.int .i64 p_i)] w0 (fun v _ => v = (.bool r)) := by
  unfold impl_isInput at hr
  refine ret_start Try.func121 rfl 14 rfl rfl m hv fun a hF hS => ?_
  refine q_seq ?_
  refine q_region ?_
  refine q_box (cs := [s1.v]) hF hS rfl rfl rfl fun a w b2 hF hS => ?_
  refine q_x (v := (.bool false)) hF hS (ex_assign rfl) rfl rfl fun a hF => ?_
  refine q_end (n_sq ?_)
  refine q_seq ?_
  obtain ⟨t_3, hj1, hr⟩ := bindS hr
  refine q_join (fun a w => Fr a 14 [(4, (.bool t_3))] ∧ St [] w0 w m []) ?_ ?_
  · refine q_region ?_
    refine q_x (v := (.int .i64 p_i)) hF hS (ex_move rfl) rfl rfl fun a hF => ?_
    refine q_x (v := (.bool (decide (0 ≤ p_i)))) hF hS (ex_ibin rfl rfl rfl) rfl rfl fun a hF => ?_
    refine q_x (v := (.bool (decide (0 ≤ p_i)))) hF hS (ex_move rfl) rfl rfl fun a hF => ?_
    rcases hc2 : (decide (0 ≤ p_i)) with _ | _
    · have hj1 := cond_f hc2 hj1
      refine q_skip hF (wanted_f hF rfl rfl rfl hc2 rfl) rfl fun a hF => ?_
      refine q_skip hF (wanted_f hF rfl rfl rfl hc2 rfl) rfl fun a hF => ?_
      refine q_skip hF (wanted_f hF rfl rfl rfl hc2 rfl) rfl fun a hF => ?_
      refine q_skip hF (wanted_f hF rfl rfl rfl hc2 rfl) rfl fun a hF => ?_
      refine q_skip hF (wanted_f hF rfl rfl rfl hc2 rfl) rfl fun a hF => ?_
      refine q_x (v := (.bool false)) hF hS (ex_pick_f rfl rfl hc2) rfl rfl fun a hF => ?_
      refine q_x (v := (.bool false)) hF hS (ex_assign rfl) rfl rfl fun a hF => ?_
      refine q_end (n_jn ?_)
      obtain rfl := someI hj1
      exact ⟨hF.sub ⟨rfl, trivial⟩, hS.mask [false]⟩
    · have hj1 := cond_t hc2 hj1
      refine q_xg (v := (.int .i64 p_i)) hF hS (ex_move rfl) (wanted_t hF rfl rfl rfl hc2) rfl fun a hF => ?_
      refine q_xg (v := (.pointer (some ⟨b2, 0, none⟩))) hF hS (ex_fieldAddr Try.underlying68 rfl sz66 rfl rfl) (wanted_t hF rfl rfl rfl hc2) rfl fun a hF => ?_
      refine q_xg (v := s1.v) hF hS (ex_load1 0 0 Try.underlying66 rfl rfl rfl rfl) (wanted_t hF rfl rfl rfl hc2) rfl fun a hF => ?_
      refine q_xg (v := (.int .i64 (goLen p_m.Rows))) hF hS (ex_len Try.underlying66 rfl h1.len) (wanted_t hF rfl rfl rfl hc2) rfl fun a hF => ?_
      refine q_xg (v := (.bool (decide (p_i < (goLen p_m.Rows))))) hF hS (ex_ibin rfl rfl rfl) (wanted_t hF rfl rfl rfl hc2) rfl fun a hF => ?_
      refine q_x (v := (.bool (decide (p_i < (goLen p_m.Rows))))) hF hS (ex_pick_t rfl rfl hc2) rfl rfl fun a hF => ?_
      refine q_x (v := (.bool (decide (p_i < (goLen p_m.Rows))))) hF hS (ex_assign rfl) rfl rfl fun a hF => ?_
      refine q_end (n_jn ?_)
      obtain rfl := someI hj1
      exact ⟨hF.sub ⟨rfl, trivial⟩, hS.mask [false]⟩
  · rintro a w ⟨hF, hS⟩
    refine n_sq (q_ret ?_)
    obtain rfl := someI hr
    exact ret_of hF hS rfl (.tmp rfl .nil) rfl

theorem c_impl_MulFrac (p_a : impl_Frac) (p_b : impl_Frac) (r : impl_Frac × Bool) (hr : impl_MulFrac p_a p_b = some r) (w0 : World) (m : Mem) (hv : Vis m w0) :
    Ret Try.prog 101 [(.agg #[(.int .i64 p_a.Num), (.int .i64 p_a.Den)]), (.agg #[(.int .i64 p_b.Num), (.int .i64 p_b.Den)])] w0 (fun v _ => v = (.tuple #[(.agg #[(.int .i64 r.1.Num), (.int .i64 r.1.Den)]), (.bool r.2)])) := by
  unfold impl_MulFrac at hr
  refine ret_start Try.func101 rfl 28 rfl rfl m hv fun a hF hS => ?_
  refine q_seq ?_
  refine q_region ?_
  refine q_box (cs := [(.int .i64 p_a.Num), (.int .i64 p_a.Den)]) hF hS rfl rfl rfl fun a w b1 hF hS => ?_
  refine q_box (cs := [(.int .i64 p_b.Num), (.int .i64 p_b.Den)]) hF hS rfl rfl rfl fun a w b2 hF hS => ?_
  refine q_alloc (cs := [(.int .i64 0), (.int .i64 0)]) hF hS rfl rfl rfl fun a w b3 hF hS => ?_
  refine q_x (v := (.bool false)) hF hS (ex_assign rfl) rfl rfl fun a hF => ?_
  refine q_end (n_sq ?_)
  refine q_seq ?_
  refine q_seq ?_
  obtain ⟨t_6, hj1, hr⟩ := bindS hr
  refine q_join (fun a w => Fr a 28 [(2, (.pointer (some ⟨b1, 0, none⟩))), (3, (.pointer (some ⟨b2, 0, none⟩))), (4, (.pointer (some ⟨b3, 0, none⟩))), (13, (.bool t_6))] ∧ St [] w0 w m [[⟨b3, [(.int .i64 0), (.int .i64 0)], 26⟩], [⟨b2, [(.int .i64 p_b.Num), (.int .i64 p_b.Den)], 26⟩], [⟨b1, [(.int .i64 p_a.Num), (.int .i64 p_a.Den)], 26⟩]]) ?_ ?_
  · refine q_region ?_
    refine q_x (v := (.agg #[(.int .i64 p_a.Num), (.int .i64 p_a.Den)])) hF hS (ex_loadA (vs := [(.int .i64 p_a.Num), (.int .i64 p_a.Den)]) 2 0 Try.underlying26 rfl sz26 rfl rfl rfl rfl) rfl rfl fun a hF => ?_
    obtain ⟨t_4, ht_4, hj1⟩ := bindS hj1
    refine q_call (vs := [(.agg #[(.int .i64 p_a.Num), (.int .i64 p_a.Den)])]) hF hS Try.func99 (by kernel_rfl) rfl rfl rfl (c_impl_IsFrac p_a t_4 ht_4 _ m hS.vis) ?_
    rintro a w _ rfl hF hS
    refine q_x (v := (.bool (!t_4))) hF hS (ex_not rfl) rfl rfl fun a hF => ?_
    refine q_x (v := (.bool (!t_4))) hF hS (ex_move rfl) rfl rfl fun a hF => ?_
    rcases hc2 : (!t_4) with _ | _
    · have hj1 := cond_f hc2 hj1
      refine q_xg (v := (.agg #[(.int .i64 p_b.Num), (.int .i64 p_b.Den)])) hF hS (ex_loadA (vs := [(.int .i64 p_b.Num), (.int .i64 p_b.Den)]) 1 0 Try.underlying26 rfl sz26 rfl rfl rfl rfl) (wanted_t hF rfl rfl rfl hc2) rfl fun a hF => ?_
      obtain ⟨t_5, ht_5, hj1⟩ := bindS hj1
      refine q_callg (vs := [(.agg #[(.int .i64 p_b.Num), (.int .i64 p_b.Den)])]) hF hS (wanted_t hF rfl rfl rfl hc2) Try.func99 (by kernel_rfl) rfl rfl rfl (c_impl_IsFrac p_b t_5 ht_5 _ m hS.vis) ?_
      rintro a w _ rfl hF hS
      refine q_xg (v := (.bool (!t_5))) hF hS (ex_not rfl) (wanted_t hF rfl rfl rfl hc2) rfl fun a hF => ?_
      refine q_x (v := (.bool (!t_5))) hF hS (ex_pick_f rfl rfl hc2) rfl rfl fun a hF => ?_
      refine q_end (n_jn ?_)
      obtain rfl := someI hj1
      exact ⟨hF.sub ⟨rfl, rfl, rfl, rfl, trivial⟩, hS⟩
    · have hj1 := cond_t hc2 hj1
      refine q_skip hF (wanted_f hF rfl rfl rfl hc2 rfl) rfl fun a hF => ?_
      refine q_skip hF (wanted_f hF rfl rfl rfl hc2 rfl) rfl fun a hF => ?_
      refine q_skip hF (wanted_f hF rfl rfl rfl hc2 rfl) rfl fun a hF => ?_
      refine q_x (v := (.bool true)) hF hS (ex_pick_t rfl rfl hc2) rfl rfl fun a hF => ?_
      refine q_end (n_jn ?_)
      obtain rfl := someI hj1
      exact ⟨hF.sub ⟨rfl, rfl, rfl, rfl, trivial⟩, hS⟩
  · rintro a w ⟨hF, hS⟩
    refine n_sq ?_
    rcases hc3 : (t_6) with _ | _
    · have hr := cond_f hc3 hr
      refine q_cond_f hF rfl hc3 ?_
      refine q_skipc (n_sq ?_)
      refine q_seq ?_
      refine q_region ?_
      refine q_x (v := (.pointer (some ⟨b1, 0, none⟩))) hF hS (ex_fieldAddr Try.underlying26 rfl sz3 rfl rfl) rfl rfl fun a hF => ?_
      refine q_x (v := (.int .i64 p_a.Num)) hF hS (ex_load1 2 0 Try.underlying3 rfl rfl rfl rfl) rfl rfl fun a hF => ?_
      refine q_x (v := (.pointer (some ⟨b2, 0, none⟩))) hF hS (ex_fieldAddr Try.underlying26 rfl sz3 rfl rfl) rfl rfl fun a hF => ?_
      refine q_x (v := (.int .i64 p_b.Num)) hF hS (ex_load1 1 0 Try.underlying3 rfl rfl rfl rfl) rfl rfl fun a hF => ?_
      refine q_x (v := (.int .i64 (w64 (p_a.Num * p_b.Num)))) hF hS (ex_ibin rfl rfl rfl) rfl rfl fun a hF => ?_
      refine q_x (v := (.pointer (some ⟨b1, 1, none⟩))) hF hS (ex_fieldAddr Try.underlying26 rfl sz3 rfl rfl) rfl rfl fun a hF => ?_
      refine q_x (v := (.int .i64 p_a.Den)) hF hS (ex_load1 2 0 Try.underlying3 rfl rfl rfl rfl) rfl rfl fun a hF => ?_
      refine q_x (v := (.pointer (some ⟨b2, 1, none⟩))) hF hS (ex_fieldAddr Try.underlying26 rfl sz3 rfl rfl) rfl rfl fun a hF => ?_
      refine q_x (v := (.int .i64 p_b.Den)) hF hS (ex_load1 1 0 Try.underlying3 rfl rfl rfl rfl) rfl rfl fun a hF => ?_
      refine q_x (v := (.int .i64 (w64 (p_a.Den * p_b.Den)))) hF hS (ex_ibin rfl rfl rfl) rfl rfl fun a hF => ?_
      obtain ⟨t_7, ht_7, hr⟩ := bindS hr
      refine q_call (vs := [(.int .i64 (w64 (p_a.Num * p_b.Num))), (.int .i64 (w64 (p_a.Den * p_b.Den)))]) hF hS Try.func106 (by kernel_rfl) rfl rfl rfl (c_impl_reduced (w64 (p_a.Num * p_b.Num)) (w64 (p_a.Den * p_b.Den)) t_7 ht_7 _ m hS.vis) ?_
      rintro a w _ rfl hF hS
      refine q_x (v := (.agg #[(.int .i64 t_7.1.Num), (.int .i64 t_7.1.Den)])) hF hS (ex_extract rfl rfl) rfl rfl fun a hF => ?_
      refine q_x (v := (.bool t_7.2)) hF hS (ex_extract rfl rfl) rfl rfl fun a hF => ?_
      refine q_store (vs := [(.int .i64 t_7.1.Num), (.int .i64 t_7.1.Den)]) (cs' := [(.int .i64 t_7.1.Num), (.int .i64 t_7.1.Den)]) 0 0 hF hS sz26 rfl rfl rfl rfl rfl rfl rfl rfl fun a w hF hS => ?_
      refine q_x (v := (.bool t_7.2)) hF hS (ex_assign rfl) rfl rfl fun a hF => ?_
      refine q_end (n_sq (q_ret ?_))
      obtain rfl := someI hr
      exact ret_of hF hS rfl (.cellA (us := [(.int .i64 t_7.1.Num), (.int .i64 t_7.1.Den)]) 0 0 Try.underlying26 rfl sz26 rfl rfl rfl rfl (.tmp rfl .nil)) rfl
    · have hr := cond_t hc3 hr
      refine q_cond_t hF rfl hc3 ?_
      refine q_seq ?_
      refine q_region ?_
      refine q_x (v := (.agg #[(.int .i64 0), (.int .i64 0)])) hF hS (ex_build (cells := [(.int .i64 0), (.int .i64 0)]) rfl (by kernel_rfl)) rfl rfl fun a hF => ?_
      refine q_store (vs := [(.int .i64 0), (.int .i64 0)]) (cs' := [(.int .i64 0), (.int .i64 0)]) 0 0 hF hS sz26 rfl rfl rfl rfl rfl rfl rfl rfl fun a w hF hS => ?_
      refine q_x (v := (.bool false)) hF hS (ex_assign rfl) rfl rfl fun a hF => ?_
      refine q_end (n_sq (q_ret (r_sq ?_)))
      obtain rfl := someI hr
      exact ret_of hF hS rfl (.cellA (us := [(.int .i64 0), (.int .i64 0)]) 0 0 Try.underlying26 rfl sz26 rfl rfl rfl rfl (.tmp rfl .nil)) rfl

theorem c_impl_ExpectedOutput (p_m : impl_Mechanism) (p_i : Int) (r : impl_Frac × Bool) (hr : impl_ExpectedOutput p_m p_i = some r) (w0 : World) (m : Mem) (hv : Vis m w0) (s1 : Sl) (h1 : Rd m s1 p_m.Rows) :
    Ret Try.prog 55 [(.agg #[s1.v]), (.int .i64 p_i)] w0 (fun v _ => v = (.tuple #[(.agg #[(.int .i64 r.1.Num), (.int .i64 r.1.Den)]), (.bool r.2)])) := by
  unfold impl_ExpectedOutput at hr
  refine ret_start Try.func55 rfl 54 rfl rfl m hv fun a hF hS => ?_
  refine q_seq ?_
  refine q_region ?_
  refine q_box (cs := [s1.v]) hF hS rfl rfl rfl fun a w b2 hF hS => ?_
  refine q_alloc (cs := [(.int .i64 0), (.int .i64 0)]) hF hS rfl rfl rfl fun a w b3 hF hS => ?_
  refine q_x (v := (.bool false)) hF hS (ex_assign rfl) rfl rfl fun a hF => ?_
  refine q_end (n_sq ?_)
  refine q_seq ?_
  refine q_seq ?_
  obtain ⟨t_6, hj1, hr⟩ := bindS hr
  refine q_join (fun a w => Fr a 54 [(1, (.int .i64 p_i)), (2, (.pointer (some ⟨b2, 0, none⟩))), (4, (.pointer (some ⟨b3, 0, none⟩))), (19, (.bool t_6))] ∧ St [] w0 w m [[⟨b3, [(.int .i64 0), (.int .i64 0)], 26⟩], [⟨b2, [s1.v], 68⟩]]) ?_ ?_
  · refine q_region ?_
    refine q_x (v := (.agg #[s1.v])) hF hS (ex_loadA (vs := [s1.v]) 1 0 Try.underlying68 rfl sz68 rfl rfl rfl rfl) rfl rfl fun a hF => ?_
    obtain ⟨t_4, ht_4, hj1⟩ := bindS hj1
    refine q_call (vs := [(.agg #[s1.v])]) hF hS Try.func52 (by kernel_rfl) rfl rfl rfl (c_impl_IsMechanism p_m t_4 ht_4 _ m hS.vis s1 h1) ?_
    rintro a w _ rfl hF hS
    refine q_x (v := (.bool (!t_4))) hF hS (ex_not rfl) rfl rfl fun a hF => ?_
    refine q_x (v := (.bool (!t_4))) hF hS (ex_move rfl) rfl rfl fun a hF => ?_
    rcases hc2 : (!t_4) with _ | _
    · have hj1 := cond_f hc2 hj1
      refine q_xg (v := (.agg #[s1.v])) hF hS (ex_loadA (vs := [s1.v]) 1 0 Try.underlying68 rfl sz68 rfl rfl rfl rfl) (wanted_t hF rfl rfl rfl hc2) rfl fun a hF => ?_
      refine q_xg (v := (.int .i64 p_i)) hF hS (ex_move rfl) (wanted_t hF rfl rfl rfl hc2) rfl fun a hF => ?_
      obtain ⟨t_5, ht_5, hj1⟩ := bindS hj1
      refine q_callg (vs := [(.agg #[s1.v]), (.int .i64 p_i)]) hF hS (wanted_t hF rfl rfl rfl hc2) Try.func121 (by kernel_rfl) rfl rfl rfl (c_impl_isInput p_m p_i t_5 ht_5 _ m hS.vis s1 h1) ?_
      rintro a w _ rfl hF hS
      refine q_xg (v := (.bool (!t_5))) hF hS (ex_not rfl) (wanted_t hF rfl rfl rfl hc2) rfl fun a hF => ?_
      refine q_x (v := (.bool (!t_5))) hF hS (ex_pick_f rfl rfl hc2) rfl rfl fun a hF => ?_
      refine q_end (n_jn ?_)
      obtain rfl := someI hj1
      exact ⟨hF.sub ⟨rfl, rfl, rfl, rfl, trivial⟩, hS⟩
    · have hj1 := cond_t hc2 hj1
      refine q_skip hF (wanted_f hF rfl rfl rfl hc2 rfl) rfl fun a hF => ?_
      refine q_skip hF (wanted_f hF rfl rfl rfl hc2 rfl) rfl fun a hF => ?_
      refine q_skip hF (wanted_f hF rfl rfl rfl hc2 rfl) rfl fun a hF => ?_
      refine q_skip hF (wanted_f hF rfl rfl rfl hc2 rfl) rfl fun a hF => ?_
      refine q_x (v := (.bool true)) hF hS (ex_pick_t rfl rfl hc2) rfl rfl fun a hF => ?_
      refine q_end (n_jn ?_)
      obtain rfl := someI hj1
      exact ⟨hF.sub ⟨rfl, rfl, rfl, rfl, trivial⟩, hS⟩
  · rintro a w ⟨hF, hS⟩
    refine n_sq ?_
    rcases hc3 : (t_6) with _ | _
    · have hr := cond_f hc3 hr
      refine q_cond_f hF rfl hc3 ?_
      refine q_skipc (n_sq ?_)
      refine q_seq ?_
      refine q_region ?_
      refine q_x (v := (.agg #[(.int .i64 0), (.int .i64 1)])) hF hS (ex_build (cells := [(.int .i64 0), (.int .i64 1)]) rfl (by kernel_rfl)) rfl rfl fun a hF => ?_
      refine q_alloc (cs := [(.int .i64 0), (.int .i64 0)]) hF hS rfl rfl rfl fun a w b7 hF hS => ?_
      refine q_store (vs := [(.int .i64 0), (.int .i64 1)]) (cs' := [(.int .i64 0), (.int .i64 1)]) 0 0 hF hS sz26 rfl rfl rfl rfl rfl rfl rfl rfl fun a w hF hS => ?_
      refine q_end (n_sq ?_)
      refine q_seq ?_
      refine q_seq ?_
      refine q_region ?_
      refine q_x (v := (.pointer (some ⟨b2, 0, none⟩))) hF hS (ex_fieldAddr Try.underlying68 rfl sz66 rfl rfl) rfl rfl fun a hF => ?_
      refine q_x (v := s1.v) hF hS (ex_load1 2 0 Try.underlying66 rfl rfl rfl rfl) rfl rfl fun a hF => ?_
      refine q_x (v := (.int .i64 p_i)) hF hS (ex_move rfl) rfl rfl fun a hF => ?_
      obtain ⟨e_8, he_8, hr⟩ := bindS hr
      obtain ⟨vs9, at9, d9⟩ := h1.at he_8 1 rfl
      obtain ⟨s10, rfl, h10⟩ : ∃ s10 : Sl, vs9 = [s10.v] ∧ Rd m s10 e_8 := d9
      refine q_x (v := (elP s1 (p_i.toNat * 1))) hF hS (ex_indexAddr Try.underlying66 sz51 rfl rfl (h1.idx he_8)) rfl rfl fun a hF => ?_
      refine q_x (v := s10.v) hF hS (ex_loadE1 0 Try.underlying51 rfl rfl ((at9).at) rfl rfl) rfl rfl fun a hF => ?_
      refine q_x (v := (.int .i64 (goLen e_8))) hF hS (ex_len Try.underlying51 rfl h10.len) rfl rfl fun a hF => ?_
      refine q_x (v := (.int .i64 0)) hF hS (ex_move rfl) rfl rfl fun a hF => ?_
      refine q_end (n_sq ?_)
      refine q_block ?_
      obtain ⟨o4, hl4, hr⟩ := bindS hr
      refine q_loop (fun (s : Int × impl_Frac) a w => ∃ t_11, ∃ sum_12, s = (t_11, sum_12) ∧ Fr a 54 [(4, (.pointer (some ⟨b3, 0, none⟩))), (6, (.pointer (some ⟨b7, 0, none⟩))), (26, s10.v), (27, (.int .i64 (goLen e_8))), (28, (.int .i64 t_11))] ∧ St [] w0 w m [[⟨b7, [(.int .i64 sum_12.Num), (.int .i64 sum_12.Den)], 26⟩], [⟨b3, [(.int .i64 0), (.int .i64 0)], 26⟩]]) (fun (o : (impl_Frac) ⊕ (impl_Frac × Bool)) e a w => ∃ sum_19, o = .inl sum_19 ∧ e = .exit 0 ∧ Fr a 54 [(4, (.pointer (some ⟨b3, 0, none⟩))), (6, (.pointer (some ⟨b7, 0, none⟩)))] ∧ St [] w0 w m [[⟨b7, [(.int .i64 sum_19.Num), (.int .i64 sum_19.Den)], 26⟩], [⟨b3, [(.int .i64 0), (.int .i64 0)], 26⟩]]) hl4 ⟨_, _, rfl, hF.sub ⟨rfl, rfl, rfl, rfl, rfl, trivial⟩, hS.mask [true, true, false]⟩ ?_ ?_
      · clear hF hS
        rintro s a w st ⟨t_11, sum_12, rfl, hF, hS⟩ hb4
        unfold impl_ExpectedOutput_l1 at hb4
        refine q_seq ?_
        refine q_region ?_
        refine q_x (v := (.bool (decide (t_11 < (goLen e_8))))) hF hS (ex_ibin rfl rfl rfl) rfl rfl fun a hF => ?_
        refine q_end (n_sq ?_)
        refine q_seq ?_
        rcases hc5 : (decide (t_11 < (goLen e_8))) with _ | _
        · have hb4 := cond_f hc5 hb4
          refine q_cond_f hF rfl hc5 ?_
          refine q_exit (x_sq ?_)
          obtain rfl := someI hb4
          exact ⟨nofun, .inl ⟨_, rfl, rfl, hF.sub ⟨rfl, rfl, trivial⟩, hS⟩⟩
        · have hb4 := cond_t hc5 hb4
          refine q_cond_t hF rfl hc5 ?_
          refine q_skipc (n_sq ?_)
          refine q_seq ?_
          refine q_block ?_
          refine q_seq ?_
          refine q_region ?_
          refine q_x (v := (.int .i64 t_11)) hF hS (ex_move rfl) rfl rfl fun a hF => ?_
          obtain ⟨e_13, he_13, hb4⟩ := bindS hb4
          obtain ⟨vs14, at14, d14⟩ := h10.at he_13 2 rfl
          obtain rfl : vs14 = [(.int .i64 e_13.Num), (.int .i64 e_13.Den)] := d14
          refine q_x (v := (elP s10 (t_11.toNat * 2))) hF hS (ex_indexAddr Try.underlying51 sz26 rfl rfl (h10.idx he_13)) rfl rfl fun a hF => ?_
          refine q_x (v := (.agg #[(.int .i64 e_13.Num), (.int .i64 e_13.Den)])) hF hS (ex_loadEA (us := [(.int .i64 e_13.Num), (.int .i64 e_13.Den)]) 0 Try.underlying26 rfl sz26 rfl ((at14).at) rfl rfl rfl) rfl rfl fun a hF => ?_
          refine q_alloc (cs := [(.int .i64 0), (.int .i64 0)]) hF hS rfl rfl rfl fun a w b15 hF hS => ?_
          refine q_x (v := (.int .i64 t_11)) hF hS (ex_assign rfl) rfl rfl fun a hF => ?_
          refine q_store (vs := [(.int .i64 e_13.Num), (.int .i64 e_13.Den)]) (cs' := [(.int .i64 e_13.Num), (.int .i64 e_13.Den)]) 0 0 hF hS sz26 rfl rfl rfl rfl rfl rfl rfl rfl fun a w hF hS => ?_
          refine q_end (n_sq ?_)
          refine q_seq ?_
          refine q_region ?_
          refine q_x (v := (.int .i64 t_11)) hF hS (ex_move rfl) rfl rfl fun a hF => ?_
          refine q_x (v := (.agg #[(.int .i64 t_11), (.int .i64 1)])) hF hS (ex_build (cells := [(.int .i64 t_11), (.int .i64 1)]) rfl (by kernel_rfl)) rfl rfl fun a hF => ?_
          refine q_x (v := (.agg #[(.int .i64 e_13.Num), (.int .i64 e_13.Den)])) hF hS (ex_loadA (vs := [(.int .i64 e_13.Num), (.int .i64 e_13.Den)]) 0 0 Try.underlying26 rfl sz26 rfl rfl rfl rfl) rfl rfl fun a hF => ?_
          obtain ⟨t_16, ht_16, hb4⟩ := bindS hb4
          refine q_call (vs := [(.agg #[(.int .i64 t_11), (.int .i64 1)]), (.agg #[(.int .i64 e_13.Num), (.int .i64 e_13.Den)])]) hF hS Try.func101 (by kernel_rfl) rfl rfl rfl (c_impl_MulFrac (impl_Frac.mk t_11 1) e_13 t_16 ht_16 _ m hS.vis) ?_
          rintro a w _ rfl hF hS
          refine q_x (v := (.tuple #[(.agg #[(.int .i64 t_16.1.Num), (.int .i64 t_16.1.Den)]), (.bool t_16.2)])) hF hS (ex_move rfl) rfl rfl fun a hF => ?_
          refine q_x (v := (.agg #[(.int .i64 t_16.1.Num), (.int .i64 t_16.1.Den)])) hF hS (ex_extract rfl rfl) rfl rfl fun a hF => ?_
          refine q_x (v := (.bool t_16.2)) hF hS (ex_extract rfl rfl) rfl rfl fun a hF => ?_
          refine q_alloc (cs := [(.int .i64 0), (.int .i64 0)]) hF hS rfl rfl rfl fun a w b17 hF hS => ?_
          refine q_store (vs := [(.int .i64 t_16.1.Num), (.int .i64 t_16.1.Den)]) (cs' := [(.int .i64 t_16.1.Num), (.int .i64 t_16.1.Den)]) 0 0 hF hS sz26 rfl rfl rfl rfl rfl rfl rfl rfl fun a w hF hS => ?_
          refine q_x (v := (.bool t_16.2)) hF hS (ex_assign rfl) rfl rfl fun a hF => ?_
          refine q_end (n_sq ?_)
          refine q_seq ?_
          refine q_seq ?_
          refine q_region ?_
          refine q_x (v := (.bool t_16.2)) hF hS (ex_move rfl) rfl rfl fun a hF => ?_
          refine q_x (v := (.bool (!t_16.2))) hF hS (ex_not rfl) rfl rfl fun a hF => ?_
          refine q_end (n_sq ?_)
          rcases hc6 : (!t_16.2) with _ | _
          · have hb4 := cond_f hc6 hb4
            refine q_cond_f hF rfl hc6 ?_
            refine q_skipc (n_sq ?_)
            refine q_seq ?_
            refine q_region ?_
            refine q_x (v := (.agg #[(.int .i64 sum_12.Num), (.int .i64 sum_12.Den)])) hF hS (ex_loadA (vs := [(.int .i64 sum_12.Num), (.int .i64 sum_12.Den)]) 2 0 Try.underlying26 rfl sz26 rfl rfl rfl rfl) rfl rfl fun a hF => ?_
            refine q_x (v := (.agg #[(.int .i64 t_16.1.Num), (.int .i64 t_16.1.Den)])) hF hS (ex_loadA (vs := [(.int .i64 t_16.1.Num), (.int .i64 t_16.1.Den)]) 0 0 Try.underlying26 rfl sz26 rfl rfl rfl rfl) rfl rfl fun a hF => ?_
            obtain ⟨t_18, ht_18, hb4⟩ := bindS hb4
            refine q_call (vs := [(.agg #[(.int .i64 sum_12.Num), (.int .i64 sum_12.Den)]), (.agg #[(.int .i64 t_16.1.Num), (.int .i64 t_16.1.Den)])]) hF hS Try.func122 (by kernel_rfl) rfl rfl rfl (c_impl_AddFrac sum_12 t_16.1 t_18 ht_18 _ m hS.vis) ?_
            rintro a w _ rfl hF hS
            refine q_x (v := (.tuple #[(.agg #[(.int .i64 t_18.1.Num), (.int .i64 t_18.1.Den)]), (.bool t_18.2)])) hF hS (ex_move rfl) rfl rfl fun a hF => ?_
            refine q_x (v := (.agg #[(.int .i64 t_18.1.Num), (.int .i64 t_18.1.Den)])) hF hS (ex_extract rfl rfl) rfl rfl fun a hF => ?_
            refine q_x (v := (.bool t_18.2)) hF hS (ex_extract rfl rfl) rfl rfl fun a hF => ?_
            refine q_store (vs := [(.int .i64 t_18.1.Num), (.int .i64 t_18.1.Den)]) (cs' := [(.int .i64 t_18.1.Num), (.int .i64 t_18.1.Den)]) 2 0 hF hS sz26 rfl rfl rfl rfl rfl rfl rfl rfl fun a w hF hS => ?_
            refine q_x (v := (.bool t_18.2)) hF hS (ex_assign rfl) rfl rfl fun a hF => ?_
            refine q_end (n_sq ?_)
            refine q_seq ?_
            refine q_region ?_
            refine q_x (v := (.bool t_18.2)) hF hS (ex_move rfl) rfl rfl fun a hF => ?_
            refine q_x (v := (.bool (!t_18.2))) hF hS (ex_not rfl) rfl rfl fun a hF => ?_
            refine q_end (n_sq ?_)
            rcases hc7 : (!t_18.2) with _ | _
            · have hb4 := cond_f hc7 hb4
              refine q_cond_f hF rfl hc7 ?_
              refine q_skipc (n_ib (n_sq ?_))
              refine q_region ?_
              refine q_x (v := (.int .i64 (w64 (t_11 + 1)))) hF hS (ex_ibin rfl rfl rfl) rfl rfl fun a hF => ?_
              refine q_x (v := (.int .i64 (w64 (t_11 + 1)))) hF hS (ex_move rfl) rfl rfl fun a hF => ?_
              refine q_end ?_
              obtain rfl := someI hb4
              exact ⟨rfl, _, _, rfl, hF.sub ⟨rfl, rfl, rfl, rfl, rfl, trivial⟩, hS.mask [false, false, true, true]⟩
            · have hb4 := cond_t hc7 hb4
              refine q_cond_t hF rfl hc7 ?_
              refine q_seq ?_
              refine q_region ?_
              refine q_x (v := (.agg #[(.int .i64 0), (.int .i64 0)])) hF hS (ex_build (cells := [(.int .i64 0), (.int .i64 0)]) rfl (by kernel_rfl)) rfl rfl fun a hF => ?_
              refine q_store (vs := [(.int .i64 0), (.int .i64 0)]) (cs' := [(.int .i64 0), (.int .i64 0)]) 3 0 hF hS sz26 rfl rfl rfl rfl rfl rfl rfl rfl fun a w hF hS => ?_
              refine q_x (v := (.bool false)) hF hS (ex_assign rfl) rfl rfl fun a hF => ?_
              refine q_end (n_sq (q_ret (r_ib (r_sq ?_))))
              obtain rfl := someI hb4
              refine ⟨nofun, .inr fun ho => ?_⟩
              subst ho
              refine r_ib (r_sq ?_)
              obtain rfl := someI hr
              exact ret_of hF hS rfl (.cellA (us := [(.int .i64 0), (.int .i64 0)]) 3 0 Try.underlying26 rfl sz26 rfl rfl rfl rfl (.tmp rfl .nil)) rfl
          · have hb4 := cond_t hc6 hb4
            refine q_cond_t hF rfl hc6 ?_
            refine q_seq ?_
            refine q_region ?_
            refine q_x (v := (.agg #[(.int .i64 0), (.int .i64 0)])) hF hS (ex_build (cells := [(.int .i64 0), (.int .i64 0)]) rfl (by kernel_rfl)) rfl rfl fun a hF => ?_
            refine q_store (vs := [(.int .i64 0), (.int .i64 0)]) (cs' := [(.int .i64 0), (.int .i64 0)]) 3 0 hF hS sz26 rfl rfl rfl rfl rfl rfl rfl rfl fun a w hF hS => ?_
            refine q_x (v := (.bool false)) hF hS (ex_assign rfl) rfl rfl fun a hF => ?_
            refine q_end (n_sq (q_ret (r_sq (r_ib (r_sq ?_)))))
            obtain rfl := someI hb4
            refine ⟨nofun, .inr fun ho => ?_⟩
            subst ho
            refine r_ib (r_sq ?_)
            obtain rfl := someI hr
            exact ret_of hF hS rfl (.cellA (us := [(.int .i64 0), (.int .i64 0)]) 3 0 Try.underlying26 rfl sz26 rfl rfl rfl rfl (.tmp rfl .nil)) rfl
      · rintro e a w ⟨sum_19, rfl, rfl, hF, hS⟩
        refine x_ib (n_sq ?_)
        refine q_seq ?_
        refine q_region ?_
        refine q_x (v := (.agg #[(.int .i64 sum_19.Num), (.int .i64 sum_19.Den)])) hF hS (ex_loadA (vs := [(.int .i64 sum_19.Num), (.int .i64 sum_19.Den)]) 0 0 Try.underlying26 rfl sz26 rfl rfl rfl rfl) rfl rfl fun a hF => ?_
        refine q_store (vs := [(.int .i64 sum_19.Num), (.int .i64 sum_19.Den)]) (cs' := [(.int .i64 sum_19.Num), (.int .i64 sum_19.Den)]) 1 0 hF hS sz26 rfl rfl rfl rfl rfl rfl rfl rfl fun a w hF hS => ?_
        refine q_x (v := (.bool true)) hF hS (ex_assign rfl) rfl rfl fun a hF => ?_
        refine q_end (n_sq (q_ret ?_))
        obtain rfl := someI hr
        exact ret_of hF hS rfl (.cellA (us := [(.int .i64 sum_19.Num), (.int .i64 sum_19.Den)]) 1 0 Try.underlying26 rfl sz26 rfl rfl rfl rfl (.tmp rfl .nil)) rfl
    · have hr := cond_t hc3 hr
      refine q_cond_t hF rfl hc3 ?_
      refine q_seq ?_
      refine q_region ?_
      refine q_x (v := (.agg #[(.int .i64 0), (.int .i64 0)])) hF hS (ex_build (cells := [(.int .i64 0), (.int .i64 0)]) rfl (by kernel_rfl)) rfl rfl fun a hF => ?_
      refine q_store (vs := [(.int .i64 0), (.int .i64 0)]) (cs' := [(.int .i64 0), (.int .i64 0)]) 0 0 hF hS sz26 rfl rfl rfl rfl rfl rfl rfl rfl fun a w hF hS => ?_
      refine q_x (v := (.bool false)) hF hS (ex_assign rfl) rfl rfl fun a hF => ?_
      refine q_end (n_sq (q_ret (r_sq ?_)))
      obtain rfl := someI hr
      exact ret_of hF hS rfl (.cellA (us := [(.int .i64 0), (.int .i64 0)]) 0 0 Try.underlying26 rfl sz26 rfl rfl rfl rfl (.tmp rfl .nil)) rfl

end Go.Proofs.Ytkgmphgbmjbfhaa
