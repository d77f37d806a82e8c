/- The walks of the functions: each returns what its plain function says. -/
import Derived.Test.YtkgmphgbmjbfhaaHWalks1
namespace Go.Proofs.Ytkgmphgbmjbfhaa
open Go.Gx Go.Gx.F Go.RowKit
set_option linter.all false
set_option maxRecDepth 10000


theorem c_laws_FnExactExpectedOutput (p_aM : laws_Mechanism) (p_aI : Int) (r : Bool) (hr : laws_FnExactExpectedOutput p_aM p_aI = some r) (w0 : World) (m : Mem) (hv : Vis m w0) (s1 : Sl) (h1 : Rd m s1 p_aM.Rows) :
    Ret Try.prog 13 [(.agg #[s1.v]), (.int .i64 p_aI)] w0 (fun v _ => v = (.bool r)) := by
  unfold laws_FnExactExpectedOutput at hr
  refine ret_start Try.func13 rfl 45 rfl rfl m hv fun a hF hS => ?_
  refine q_seq ?_
  refine q_region ?_
  refine q_box (cs := [s1.v]) hF hS rfl rfl rfl fun a w b2 hF hS => ?_
  refine q_x (v := (.bool false)) hF hS (ex_assign rfl) rfl rfl fun a hF => ?_
  refine q_end (n_sq ?_)
  refine q_seq ?_
  refine q_region ?_
  refine q_x (v := (.int .i64 1048576)) hF hS (ex_assign rfl) rfl rfl fun a hF => ?_
  refine q_end (n_sq ?_)
  refine q_seq ?_
  refine q_region ?_
  refine q_x (v := (.agg #[s1.v])) hF hS (ex_loadA (vs := [s1.v]) 0 0 Try.underlying63 rfl sz63 rfl rfl rfl rfl) rfl rfl fun a hF => ?_
  refine q_x (v := (.int .i64 1048576)) hF hS (ex_move rfl) rfl rfl fun a hF => ?_
  obtain ⟨t_3, ht_3, hr⟩ := bindS hr
  refine q_call (vs := [(.agg #[s1.v]), (.int .i64 1048576)]) hF hS Try.func49 (by kernel_rfl) rfl rfl rfl (c_laws_szMechanism p_aM 1048576 t_3 ht_3 _ m hS.vis s1 h1) ?_
  rintro a w _ rfl hF hS
  refine q_x (v := (.int .i64 t_3)) hF hS (ex_assign rfl) rfl rfl fun a hF => ?_
  refine q_end (n_sq ?_)
  refine q_seq ?_
  refine q_seq ?_
  refine q_region ?_
  refine q_x (v := (.int .i64 t_3)) hF hS (ex_move rfl) rfl rfl fun a hF => ?_
  refine q_x (v := (.bool (decide (t_3 < 0)))) hF hS (ex_ibin rfl rfl rfl) rfl rfl fun a hF => ?_
  refine q_end (n_sq ?_)
  rcases hc1 : (decide (t_3 < 0)) with _ | _
  · have hr := cond_f hc1 hr
    refine q_cond_f hF rfl hc1 ?_
    refine q_skipc (n_sq ?_)
    refine q_seq ?_
    refine q_region ?_
    refine q_x (v := (.agg #[s1.v])) hF hS (ex_loadA (vs := [s1.v]) 0 0 Try.underlying63 rfl sz63 rfl rfl rfl rfl) rfl rfl fun a hF => ?_
    obtain ⟨t_4, ht_4, hr⟩ := bindS hr
    refine q_call (vs := [(.agg #[s1.v])]) hF hS Try.func51 (by kernel_rfl) rfl rfl rfl (c_laws_toMechanism p_aM t_4 ht_4 _ m hS.vis s1 h1) ?_
    have hT := hS
    rintro a w _ ⟨m5, q6, s6, rfl, hm5, hR5, h6⟩ hF hS2
    have hS : St _ _ _ _ [q6, [⟨b2, [s1.v], 63⟩]] := hS.join hR5 hm5
    have hm5 := MLe.weakX (O0 := []) hT hm5
    refine q_x (v := (.int .i64 p_aI)) hF hS (ex_move rfl) rfl rfl fun a hF => ?_
    obtain ⟨m8, hl8, hv8, hz8⟩ := hS.lend
    obtain ⟨t_7, ht_7, hr⟩ := bindS hr
    refine q_call (vs := [(.agg #[s6.v]), (.int .i64 p_aI)]) hF hS Try.func54 (by kernel_rfl) rfl rfl rfl (c_spec_ExpectedOutput t_4 p_aI t_7 ht_7 _ m8 hv8 s6 (h6.froz hl8 (hz8 0 _ rfl))) ?_
    rintro a w _ rfl hF hS
    refine q_x (v := (.tuple #[(.agg #[(.int .i64 t_7.1.Num), (.int .i64 t_7.1.Den)]), (.bool t_7.2)])) hF hS (ex_move rfl) rfl rfl fun a hF => ?_
    refine q_x (v := (.agg #[(.int .i64 t_7.1.Num), (.int .i64 t_7.1.Den)])) hF hS (ex_extract rfl rfl) rfl rfl fun a hF => ?_
    refine q_x (v := (.bool t_7.2)) hF hS (ex_extract rfl rfl) rfl rfl fun a hF => ?_
    refine q_alloc (cs := [(.int .i64 0), (.int .i64 0)]) hF hS rfl rfl rfl fun a w b9 hF hS => ?_
    refine q_store (vs := [(.int .i64 t_7.1.Num), (.int .i64 t_7.1.Den)]) (cs' := [(.int .i64 t_7.1.Num), (.int .i64 t_7.1.Den)]) 0 0 hF hS sz26 rfl rfl rfl rfl rfl rfl rfl rfl fun a w hF hS => ?_
    refine q_x (v := (.bool t_7.2)) hF hS (ex_assign rfl) rfl rfl fun a hF => ?_
    refine q_end (n_sq ?_)
    refine q_seq ?_
    refine q_region ?_
    refine q_x (v := (.agg #[s1.v])) hF hS (ex_loadA (vs := [s1.v]) 2 0 Try.underlying63 rfl sz63 rfl rfl rfl rfl) rfl rfl fun a hF => ?_
    obtain ⟨t_10, ht_10, hr⟩ := bindS hr
    refine q_call (vs := [(.agg #[s1.v])]) hF hS Try.func51 (by kernel_rfl) rfl rfl rfl (c_laws_toMechanism p_aM t_10 ht_10 _ m5 hS.vis s1 (h1.mono hm5.le)) ?_
    have hT := hS
    rintro a w _ ⟨m11, q12, s12, rfl, hm11, hR11, h12⟩ hF hS2
    have hS : St _ _ _ _ [q12, [⟨b9, [(.int .i64 t_7.1.Num), (.int .i64 t_7.1.Den)], 26⟩], q6, [⟨b2, [s1.v], 63⟩]] := hS.join hR11 hm11
    have hm11 := MLe.weakX (O0 := []) hT hm11
    refine q_alloc (cs := [nilS.v]) hF hS rfl rfl rfl fun a w b13 hF hS => ?_
    refine q_store (vs := [s12.v]) (cs' := [s12.v]) 0 0 hF hS sz68 rfl rfl rfl rfl rfl rfl rfl rfl fun a w hF hS => ?_
    refine q_end (n_sq ?_)
    refine q_seq ?_
    refine q_region ?_
    refine q_x (v := (.agg #[s12.v])) hF hS (ex_loadA (vs := [s12.v]) 0 0 Try.underlying68 rfl sz68 rfl rfl rfl rfl) rfl rfl fun a hF => ?_
    refine q_x (v := (.int .i64 p_aI)) hF hS (ex_move rfl) rfl rfl fun a hF => ?_
    obtain ⟨m15, hl15, hv15, hz15⟩ := hS.lend
    obtain ⟨t_14, ht_14, hr⟩ := bindS hr
    refine q_call (vs := [(.agg #[s12.v]), (.int .i64 p_aI)]) hF hS Try.func55 (by kernel_rfl) rfl rfl rfl (c_impl_ExpectedOutput t_10 p_aI t_14 ht_14 _ m15 hv15 s12 (h12.froz hl15 (hz15 1 _ rfl))) ?_
    rintro a w _ rfl hF hS
    refine q_x (v := (.tuple #[(.agg #[(.int .i64 t_14.1.Num), (.int .i64 t_14.1.Den)]), (.bool t_14.2)])) hF hS (ex_move rfl) rfl rfl fun a hF => ?_
    refine q_x (v := (.agg #[(.int .i64 t_14.1.Num), (.int .i64 t_14.1.Den)])) hF hS (ex_extract rfl rfl) rfl rfl fun a hF => ?_
    refine q_x (v := (.bool t_14.2)) hF hS (ex_extract rfl rfl) rfl rfl fun a hF => ?_
    refine q_alloc (cs := [(.int .i64 0), (.int .i64 0)]) hF hS rfl rfl rfl fun a w b16 hF hS => ?_
    refine q_store (vs := [(.int .i64 t_14.1.Num), (.int .i64 t_14.1.Den)]) (cs' := [(.int .i64 t_14.1.Num), (.int .i64 t_14.1.Den)]) 0 0 hF hS sz26 rfl rfl rfl rfl rfl rfl rfl rfl fun a w hF hS => ?_
    refine q_x (v := (.bool t_14.2)) hF hS (ex_assign rfl) rfl rfl fun a hF => ?_
    refine q_end (n_sq ?_)
    refine q_seq ?_
    refine q_seq ?_
    obtain ⟨t_18, hj2, hr⟩ := bindS hr
    refine q_join (fun a w => Fr a 45 [(2, (.pointer (some ⟨b2, 0, none⟩))), (8, (.pointer (some ⟨b13, 0, none⟩))), (39, (.bool t_18))] ∧ St [] w0 w m11 [q12, [⟨b13, [s12.v], 68⟩], [⟨b2, [s1.v], 63⟩]]) ?_ ?_
    · refine q_region ?_
      refine q_x (v := (.agg #[(.int .i64 t_14.1.Num), (.int .i64 t_14.1.Den)])) hF hS (ex_loadA (vs := [(.int .i64 t_14.1.Num), (.int .i64 t_14.1.Den)]) 0 0 Try.underlying26 rfl sz26 rfl rfl rfl rfl) rfl rfl fun a hF => ?_
      refine q_x (v := (.agg #[(.int .i64 t_7.1.Num), (.int .i64 t_7.1.Den)])) hF hS (ex_loadA (vs := [(.int .i64 t_7.1.Num), (.int .i64 t_7.1.Den)]) 3 0 Try.underlying26 rfl sz26 rfl rfl rfl rfl) rfl rfl fun a hF => ?_
      obtain ⟨t_17, ht_17, hj2⟩ := bindS hj2
      refine q_call (vs := [(.agg #[(.int .i64 t_14.1.Num), (.int .i64 t_14.1.Den)]), (.agg #[(.int .i64 t_7.1.Num), (.int .i64 t_7.1.Den)])]) hF hS Try.func32 (by kernel_rfl) rfl rfl rfl (c_laws_eqFrac t_14.1 t_7.1 t_17 ht_17 _ m11 hS.vis) ?_
      rintro a w _ rfl hF hS
      refine q_x (v := (.bool (!t_17))) hF hS (ex_not rfl) rfl rfl fun a hF => ?_
      refine q_x (v := (.bool (!t_17))) hF hS (ex_move rfl) rfl rfl fun a hF => ?_
      rcases hc3 : (!t_17) with _ | _
      · have hj2 := cond_f hc3 hj2
        refine q_xg (v := (.bool t_14.2)) hF hS (ex_move rfl) (wanted_t hF rfl rfl rfl hc3) rfl fun a hF => ?_
        refine q_xg (v := (.bool t_7.2)) hF hS (ex_move rfl) (wanted_t hF rfl rfl rfl hc3) rfl fun a hF => ?_
        refine q_xg (v := (.bool (t_14.2 != t_7.2))) hF hS (ex_bne Try.underlying4 rfl rfl) (wanted_t hF rfl rfl rfl hc3) rfl fun a hF => ?_
        refine q_x (v := (.bool (t_14.2 != t_7.2))) hF hS (ex_pick_f rfl rfl hc3) rfl rfl fun a hF => ?_
        refine q_end (n_jn ?_)
        obtain rfl := someI hj2
        exact ⟨hF.sub ⟨rfl, rfl, rfl, trivial⟩, hS.sel [2, 1, 5] (by decide)⟩
      · have hj2 := cond_t hc3 hj2
        refine q_skip hF (wanted_f hF rfl rfl rfl hc3 rfl) rfl fun a hF => ?_
        refine q_skip hF (wanted_f hF rfl rfl rfl hc3 rfl) rfl fun a hF => ?_
        refine q_skip hF (wanted_f hF rfl rfl rfl hc3 rfl) rfl fun a hF => ?_
        refine q_x (v := (.bool true)) hF hS (ex_pick_t rfl rfl hc3) rfl rfl fun a hF => ?_
        refine q_end (n_jn ?_)
        obtain rfl := someI hj2
        exact ⟨hF.sub ⟨rfl, rfl, rfl, trivial⟩, hS.sel [2, 1, 5] (by decide)⟩
    · rintro a w ⟨hF, hS⟩
      refine n_sq ?_
      rcases hc4 : (t_18) with _ | _
      · have hr := cond_f hc4 hr
        refine q_cond_f hF rfl hc4 ?_
        refine q_skipc (n_sq ?_)
        refine q_seq ?_
        refine q_seq ?_
        refine e_region [] mixed fun w' hw' => ?_
        have hS := hS.below hw'
        refine e_x (v := (.agg #[s12.v])) 0 hF hS rfl (ex_loadA (vs := [s12.v]) 1 0 Try.underlying68 rfl sz68 rfl rfl rfl rfl) rfl rfl (by kernel_rfl) (by kernel_rfl) (by kernel_rfl) (by kernel_rfl) fun a hF => ?_
        refine e_x (v := (.agg #[s1.v])) 1 hF hS rfl (ex_loadA (vs := [s1.v]) 2 0 Try.underlying63 rfl sz63 rfl rfl rfl rfl) rfl rfl (by kernel_rfl) (by kernel_rfl) (by kernel_rfl) (by kernel_rfl) fun a hF => ?_
        refine e_one 2 (by kernel_rfl) ?_
        obtain ⟨t_19, ht_19, hr⟩ := bindS hr
        refine e_call (vs := [(.agg #[s1.v])]) hF hS rfl Try.func51 (by kernel_rfl) rfl rfl rfl (c_laws_toMechanism p_aM t_19 ht_19 _ m11 hS.vis s1 ((h1.mono hm5.le).mono hm11.le)) ?_
        have hT := hS
        rintro a w _ ⟨m20, q21, s21, rfl, hm20, hR20, h21⟩ hF hS2
        have hS : St _ _ _ _ [q21, q12, [⟨b13, [s12.v], 68⟩], [⟨b2, [s1.v], 63⟩]] := hS.join hR20 hm20
        have hm20 := MLe.weakX (O0 := []) hT hm20
        refine e_one 3 (by kernel_rfl) ?_
        obtain ⟨m23, hl23, hv23, hz23⟩ := hS.lend
        obtain ⟨t_22, ht_22, hr⟩ := bindS hr
        refine e_call (vs := [(.agg #[s12.v]), (.agg #[s21.v])]) hF hS rfl Try.func53 (by kernel_rfl) rfl rfl rfl (c_laws_eqMechanism t_10 t_19 t_22 ht_22 _ m23 hv23 s12 ((h12.mono hm20.le).froz hl23 (hz23 1 _ rfl)) s21 (h21.froz hl23 (hz23 0 _ rfl))) ?_
        rintro a w _ rfl hF hS
        refine e_p (v := (.bool (!t_22))) 4 hF rfl (ex_not rfl) rfl rfl (by kernel_rfl) (by kernel_rfl) (by kernel_rfl) fun a hF => ?_
        refine e_end (by kernel_rfl) (n_sq ?_) _
        rcases hc5 : (!t_22) with _ | _
        · have hr := cond_f hc5 hr
          refine q_cond_f hF rfl hc5 ?_
          refine q_skipc (n_sq ?_)
          refine q_seq ?_
          refine q_region ?_
          refine q_x (v := (.bool true)) hF hS (ex_assign rfl) rfl rfl fun a hF => ?_
          refine q_end (n_sq (q_ret ?_))
          obtain rfl := someI hr
          exact ret_of hF hS rfl (.tmp rfl .nil) rfl
        · have hr := cond_t hc5 hr
          refine q_cond_t hF rfl hc5 ?_
          refine q_seq ?_
          refine q_region ?_
          refine q_x (v := (.bool false)) hF hS (ex_assign rfl) rfl rfl fun a hF => ?_
          refine q_end (n_sq (q_ret (r_sq ?_)))
          obtain rfl := someI hr
          exact ret_of hF hS rfl (.tmp rfl .nil) rfl
      · have hr := cond_t hc4 hr
        refine q_cond_t hF rfl hc4 ?_
        refine q_seq ?_
        refine q_region ?_
        refine q_x (v := (.bool false)) hF hS (ex_assign rfl) rfl rfl fun a hF => ?_
        refine q_end (n_sq (q_ret (r_sq ?_)))
        obtain rfl := someI hr
        exact ret_of hF hS rfl (.tmp rfl .nil) rfl
  · have hr := cond_t hc1 hr
    refine q_cond_t hF rfl hc1 ?_
    refine q_seq ?_
    refine q_region ?_
    refine q_x (v := (.bool true)) hF hS (ex_assign rfl) rfl rfl fun a hF => ?_
    refine q_end (n_sq (q_ret (r_sq ?_)))
    obtain rfl := someI hr
    exact ret_of hF hS rfl (.tmp rfl .nil) rfl

end Go.Proofs.Ytkgmphgbmjbfhaa
