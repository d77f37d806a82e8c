/- The walks of the functions: each returns what its plain function says. -/
import Derived.Test.YtiikfhfnkppeeaaCWalks2
namespace Go.Proofs.Ytiikfhfnkppeeaa
open Go.Gx Go.Gx.F Go.RowKit
set_option linter.all false
set_option maxRecDepth 10000


theorem c_laws_FnCubes (p_code : List (K .u8)) (p_more : List (K .u8)) (r : Bool) (hr : laws_FnCubes p_code p_more = some r) (w0 : World) (m : Mem) (hv : Vis m w0) (s1 : Sl) (h1 : Rd m s1 p_code) (s2 : Sl) (h2 : Rd m s2 p_more) :
    Ret Try.prog 4 [s1.v, s2.v] w0 (fun v _ => v = (.bool r)) := by
  unfold laws_FnCubes at hr
  refine ret_start Try.func4 rfl 181 rfl rfl m hv fun a hF hS => ?_
  refine q_seq ?_
  refine q_region ?_
  refine q_x (v := (.bool false)) hF hS (ex_assign rfl) rfl rfl fun a hF => ?_
  refine q_end (n_sq ?_)
  refine q_seq ?_
  refine q_seq ?_
  refine q_region ?_
  refine q_x (v := s1.v) hF hS (ex_move rfl) rfl rfl fun a hF => ?_
  refine q_x (v := (.int .i64 (goLen p_code))) hF hS (ex_len Try.underlying22 rfl h1.len) rfl rfl fun a hF => ?_
  refine q_x (v := s2.v) hF hS (ex_move rfl) rfl rfl fun a hF => ?_
  refine q_x (v := (.int .i64 (goLen p_more))) hF hS (ex_len Try.underlying22 rfl h2.len) rfl rfl fun a hF => ?_
  refine q_x (v := (.int .i64 (w64 ((goLen p_code) + (goLen p_more))))) hF hS (ex_ibin rfl rfl rfl) rfl rfl fun a hF => ?_
  refine q_x (v := (.bool (decide (1048576 < (w64 ((goLen p_code) + (goLen p_more))))))) hF hS (ex_ibin rfl rfl rfl) rfl rfl fun a hF => ?_
  refine q_end (n_sq ?_)
  rcases bcase (decide (1048576 < (w64 ((goLen p_code) + (goLen p_more))))) with hc1 | hc1
  · have hr := cond_f hc1 hr
    refine q_cond_f hF rfl hc1 ?_
    refine q_skipc (n_sq ?_)
    refine q_seq ?_
    refine q_region ?_
    refine q_x (v := s1.v) hF hS (ex_move rfl) rfl rfl fun a hF => ?_
    obtain ⟨t_3, ht_3, hr⟩ := bindS hr
    refine q_call (vs := [s1.v]) hF hS Try.func20 (by kernel_rfl) rfl rfl rfl (c_spec_DrawCubeOf p_code t_3 ht_3 _ m hS.vis s1 h1) ?_
    have hT := hS
    rintro a w _ ⟨m4, q6, s5, s6, rfl, hm4, hR4, h5, h6⟩ hF hS2
    have hS : St _ _ _ _ [q6] := hS.join hR4 hm4
    have hm4 := MLe.weakX (O0 := []) hT hm4
    refine q_x (v := (.tuple #[s5.v, s6.v])) hF hS (ex_move rfl) rfl rfl fun a hF => ?_
    refine q_x (v := s5.v) hF hS (ex_extract rfl rfl) rfl rfl fun a hF => ?_
    refine q_x (v := s6.v) hF hS (ex_extract rfl rfl) rfl rfl fun a hF => ?_
    refine q_x (v := s5.v) hF hS (ex_assign rfl) rfl rfl fun a hF => ?_
    refine q_x (v := s6.v) hF hS (ex_assign rfl) rfl rfl fun a hF => ?_
    refine q_end (n_sq ?_)
    refine q_seq ?_
    refine q_region ?_
    refine q_x (v := s5.v) hF hS (ex_move rfl) rfl rfl fun a hF => ?_
    refine q_x (v := s6.v) hF hS (ex_move rfl) rfl rfl fun a hF => ?_
    obtain ⟨m7, hm7, hS, hz7⟩ := hS.freeze
    have h7 := h6.froz hm7.le hz7
    obtain ⟨t_8, ht_8, hr⟩ := bindS hr
    refine q_call (vs := [s5.v, s6.v]) hF hS Try.func21 (by kernel_rfl) rfl rfl rfl (c_impl_CubeOf t_3.1 t_3.2 t_8 ht_8 _ m7 hS.vis s5 (h5.mono hm7.le) s6 h7) ?_
    have hT := hS
    rintro a w _ ⟨m9, q10, q11, s10, s11, rfl, hm9, hR9, h10, h11⟩ hF hS2
    have hS : St _ _ _ _ [q10, q11] := hS.join hR9 hm9
    have hm9 := MLe.weakX (O0 := []) hT hm9
    refine q_x (v := (.tuple #[(.agg #[s10.v, s11.v]), (.bool t_8.2)])) hF hS (ex_move rfl) rfl rfl fun a hF => ?_
    refine q_x (v := (.agg #[s10.v, s11.v])) hF hS (ex_extract rfl rfl) rfl rfl fun a hF => ?_
    refine q_x (v := (.bool t_8.2)) hF hS (ex_extract rfl rfl) rfl rfl fun a hF => ?_
    refine q_alloc (cs := [nilS.v, nilS.v]) hF hS rfl rfl rfl fun a w b12 hF hS => ?_
    refine q_store (vs := [s10.v, s11.v]) (cs' := [s10.v, s11.v]) 0 0 hF hS sz46 rfl rfl rfl rfl rfl rfl rfl rfl fun a w hF hS => ?_
    refine q_x (v := (.bool t_8.2)) hF hS (ex_assign rfl) rfl rfl fun a hF => ?_
    refine q_end (n_sq ?_)
    refine q_seq ?_
    refine q_region ?_
    refine q_x (v := s5.v) hF hS (ex_move rfl) rfl rfl fun a hF => ?_
    refine q_x (v := s6.v) hF hS (ex_move rfl) rfl rfl fun a hF => ?_
    obtain ⟨t_13, ht_13, hr⟩ := bindS hr
    refine q_call (vs := [s5.v, s6.v]) hF hS Try.func22 (by kernel_rfl) rfl rfl rfl (c_spec_CubeOf t_3.1 t_3.2 t_13 ht_13 _ m9 hS.vis s5 ((h5.mono hm7.le).mono hm9.le) s6 (h7.mono hm9.le)) ?_
    have hT := hS
    rintro a w _ ⟨m14, s15, s16, rfl, hm14, hR14, h15, h16⟩ hF hS2
    have hS : St _ _ _ _ [[⟨b12, [s10.v, s11.v], 46⟩], q10, q11] := hS.join hR14 hm14
    have hm14 := MLe.weakX (O0 := []) hT hm14
    refine q_x (v := (.tuple #[(.agg #[s15.v, s16.v]), (.bool t_13.2)])) hF hS (ex_move rfl) rfl rfl fun a hF => ?_
    refine q_x (v := (.agg #[s15.v, s16.v])) hF hS (ex_extract rfl rfl) rfl rfl fun a hF => ?_
    refine q_x (v := (.bool t_13.2)) hF hS (ex_extract rfl rfl) rfl rfl fun a hF => ?_
    refine q_alloc (cs := [nilS.v, nilS.v]) hF hS rfl rfl rfl fun a w b17 hF hS => ?_
    refine q_store (vs := [s15.v, s16.v]) (cs' := [s15.v, s16.v]) 0 0 hF hS sz46 rfl rfl rfl rfl rfl rfl rfl rfl fun a w hF hS => ?_
    refine q_x (v := (.bool t_13.2)) hF hS (ex_assign rfl) rfl rfl fun a hF => ?_
    refine q_end (n_sq ?_)
    refine q_seq ?_
    refine q_region ?_
    refine q_x (v := s2.v) hF hS (ex_move rfl) rfl rfl fun a hF => ?_
    obtain ⟨t_18, ht_18, hr⟩ := bindS hr
    refine q_call (vs := [s2.v]) hF hS Try.func23 (by kernel_rfl) rfl rfl rfl (c_spec_DrawMarginOf p_more t_18 ht_18 _ m14 hS.vis s2 ((((h2.mono hm4.le).mono hm7.le).mono hm9.le).mono hm14.le)) ?_
    have hT := hS
    rintro a w _ ⟨m19, q21, q22, s20, s21, s22, rfl, hm19, hR19, h20, h21, h22⟩ hF hS2
    have hS : St _ _ _ _ [q21, q22, [⟨b17, [s15.v, s16.v], 46⟩], [⟨b12, [s10.v, s11.v], 46⟩], q10, q11] := hS.join hR19 hm19
    have hm19 := MLe.weakX (O0 := []) hT hm19
    refine q_x (v := (.tuple #[(.agg #[s20.v, s21.v]), s22.v])) hF hS (ex_move rfl) rfl rfl fun a hF => ?_
    refine q_x (v := (.agg #[s20.v, s21.v])) hF hS (ex_extract rfl rfl) rfl rfl fun a hF => ?_
    refine q_x (v := s22.v) hF hS (ex_extract rfl rfl) rfl rfl fun a hF => ?_
    refine q_alloc (cs := [nilS.v, nilS.v]) hF hS rfl rfl rfl fun a w b23 hF hS => ?_
    refine q_store (vs := [s20.v, s21.v]) (cs' := [s20.v, s21.v]) 0 0 hF hS sz46 rfl rfl rfl rfl rfl rfl rfl rfl fun a w hF hS => ?_
    refine q_x (v := s22.v) hF hS (ex_assign rfl) rfl rfl fun a hF => ?_
    refine q_end (n_sq ?_)
    refine q_seq ?_
    refine q_region ?_
    refine q_x (v := (.agg #[s20.v, s21.v])) hF hS (ex_loadA (vs := [s20.v, s21.v]) 0 0 Try.underlying46 rfl sz46 rfl rfl rfl rfl) rfl rfl fun a hF => ?_
    refine q_x (v := s22.v) hF hS (ex_move rfl) rfl rfl fun a hF => ?_
    obtain ⟨m25, hl25, hv25, hz25⟩ := hS.lend
    obtain ⟨t_24, ht_24, hr⟩ := bindS hr
    refine q_call (vs := [(.agg #[s20.v, s21.v]), s22.v]) hF hS Try.func24 (by kernel_rfl) rfl rfl rfl (c_impl_MarginOf t_18.1 t_18.2 t_24 ht_24 _ m25 hv25 s20 (h20.mono hl25) s21 (h21.froz hl25 (hz25 1 _ rfl)) s22 (h22.froz hl25 (hz25 2 _ rfl))) ?_
    rintro a w _ ⟨q27, q28, s27, s28, rfl, hR26, h27, h28⟩ hF hS2
    have hS : St _ _ _ _ [q27, q28, [⟨b23, [s20.v, s21.v], 46⟩], q21, q22, [⟨b17, [s15.v, s16.v], 46⟩], [⟨b12, [s10.v, s11.v], 46⟩], q10, q11] := hS.joinF hR26
    have h27 := h27.any m19
    have h28 := h28.any m19
    refine q_x (v := (.tuple #[(.agg #[s27.v, s28.v]), (.bool t_24.2)])) hF hS (ex_move rfl) rfl rfl fun a hF => ?_
    refine q_x (v := (.agg #[s27.v, s28.v])) hF hS (ex_extract rfl rfl) rfl rfl fun a hF => ?_
    refine q_x (v := (.bool t_24.2)) hF hS (ex_extract rfl rfl) rfl rfl fun a hF => ?_
    refine q_alloc (cs := [nilS.v, nilS.v]) hF hS rfl rfl rfl fun a w b29 hF hS => ?_
    refine q_store (vs := [s27.v, s28.v]) (cs' := [s27.v, s28.v]) 0 0 hF hS sz46 rfl rfl rfl rfl rfl rfl rfl rfl fun a w hF hS => ?_
    refine q_x (v := (.bool t_24.2)) hF hS (ex_assign rfl) rfl rfl fun a hF => ?_
    refine q_end (n_sq ?_)
    refine q_seq ?_
    refine q_region ?_
    refine q_x (v := (.agg #[s20.v, s21.v])) hF hS (ex_loadA (vs := [s20.v, s21.v]) 3 0 Try.underlying46 rfl sz46 rfl rfl rfl rfl) rfl rfl fun a hF => ?_
    refine q_x (v := s22.v) hF hS (ex_move rfl) rfl rfl fun a hF => ?_
    obtain ⟨m31, hl31, hv31, hz31⟩ := hS.lend
    obtain ⟨t_30, ht_30, hr⟩ := bindS hr
    refine q_call (vs := [(.agg #[s20.v, s21.v]), s22.v]) hF hS Try.func25 (by kernel_rfl) rfl rfl rfl (c_spec_MarginOf t_18.1 t_18.2 t_30 ht_30 _ m31 hv31 s20 (h20.mono hl31) s21 (h21.froz hl31 (hz31 4 _ rfl)) s22 (h22.froz hl31 (hz31 5 _ rfl))) ?_
    rintro a w _ ⟨q33, q34, s33, s34, rfl, hR32, h33, h34⟩ hF hS2
    have hS : St _ _ _ _ [q33, q34, [⟨b29, [s27.v, s28.v], 46⟩], q27, q28, [⟨b23, [s20.v, s21.v], 46⟩], q21, q22, [⟨b17, [s15.v, s16.v], 46⟩], [⟨b12, [s10.v, s11.v], 46⟩], q10, q11] := hS.joinF hR32
    have h33 := h33.any m19
    have h34 := h34.any m19
    refine q_x (v := (.tuple #[(.agg #[s33.v, s34.v]), (.bool t_30.2)])) hF hS (ex_move rfl) rfl rfl fun a hF => ?_
    refine q_x (v := (.agg #[s33.v, s34.v])) hF hS (ex_extract rfl rfl) rfl rfl fun a hF => ?_
    refine q_x (v := (.bool t_30.2)) hF hS (ex_extract rfl rfl) rfl rfl fun a hF => ?_
    refine q_alloc (cs := [nilS.v, nilS.v]) hF hS rfl rfl rfl fun a w b35 hF hS => ?_
    refine q_store (vs := [s33.v, s34.v]) (cs' := [s33.v, s34.v]) 0 0 hF hS sz46 rfl rfl rfl rfl rfl rfl rfl rfl fun a w hF hS => ?_
    refine q_x (v := (.bool t_30.2)) hF hS (ex_assign rfl) rfl rfl fun a hF => ?_
    refine q_end (n_sq ?_)
    refine q_seq ?_
    refine q_seq ?_
    obtain ⟨t_44, hj2, hr⟩ := bindS hr
    refine q_join (fun a w => Fr a 181 [(5, s5.v), (6, s6.v), (7, (.pointer (some ⟨b12, 0, none⟩))), (8, (.bool t_8.2)), (11, (.pointer (some ⟨b23, 0, none⟩))), (13, (.pointer (some ⟨b29, 0, none⟩))), (14, (.bool t_24.2)), (102, (.bool t_44))] ∧ St [] w0 w m19 [q27, q28, q21, q10, q11, [⟨b29, [s27.v, s28.v], 46⟩], [⟨b23, [s20.v, s21.v], 46⟩], [⟨b12, [s10.v, s11.v], 46⟩]]) ?_ ?_
    · refine q_region ?_
      refine q_x (v := (.bool t_8.2)) hF hS (ex_move rfl) rfl rfl fun a hF => ?_
      refine q_x (v := (.bool t_13.2)) hF hS (ex_move rfl) rfl rfl fun a hF => ?_
      refine q_x (v := (.bool (t_8.2 != t_13.2))) hF hS (ex_bne Try.underlying4 rfl rfl) rfl rfl fun a hF => ?_
      refine q_x (v := (.bool (t_8.2 != t_13.2))) hF hS (ex_move rfl) rfl rfl fun a hF => ?_
      rcases bcase (t_8.2 != t_13.2) with hc3 | hc3
      · have hj2 := cond_f hc3 hj2
        refine q_xg (v := (.pointer (some ⟨b12, 0, none⟩))) hF hS (ex_fieldAddr Try.underlying46 rfl sz33 rfl rfl) (wanted_t hF rfl rfl rfl hc3) rfl fun a hF => ?_
        refine q_xg (v := s10.v) hF hS (ex_load1 10 0 Try.underlying33 rfl rfl rfl rfl) (wanted_t hF rfl rfl rfl hc3) rfl fun a hF => ?_
        refine q_xg (v := (.pointer (some ⟨b17, 0, none⟩))) hF hS (ex_fieldAddr Try.underlying46 rfl sz33 rfl rfl) (wanted_t hF rfl rfl rfl hc3) rfl fun a hF => ?_
        refine q_xg (v := s15.v) hF hS (ex_load1 9 0 Try.underlying33 rfl rfl rfl rfl) (wanted_t hF rfl rfl rfl hc3) rfl fun a hF => ?_
        obtain ⟨m37, hl37, hv37, hz37⟩ := hS.lend
        obtain ⟨t_36, ht_36, hj2⟩ := bindS hj2
        refine q_callg (vs := [s10.v, s15.v]) hF hS (wanted_t hF rfl rfl rfl hc3) Try.func26 (by kernel_rfl) rfl rfl rfl (c_laws_qInts t_8.1.Sizes t_13.1.Sizes t_36 ht_36 _ m37 hv37 s10 (((h10.mono hm14.le).mono hm19.le).froz hl37 (hz37 11 _ rfl)) s15 ((h15.mono hm19.le).mono hl37)) ?_
        rintro a w _ rfl hF hS
        refine q_xg (v := (.bool (!t_36))) hF hS (ex_not rfl) (wanted_t hF rfl rfl rfl hc3) rfl fun a hF => ?_
        refine q_x (v := (.bool (!t_36))) hF hS (ex_pick_f rfl rfl hc3) rfl rfl fun a hF => ?_
        refine q_x (v := (.bool (!t_36))) hF hS (ex_move rfl) rfl rfl fun a hF => ?_
        rcases bcase (!t_36) with hc4 | hc4
        · have hj2 := cond_f hc4 hj2
          refine q_xg (v := (.pointer (some ⟨b12, 1, none⟩))) hF hS (ex_fieldAddr Try.underlying46 rfl sz33 rfl rfl) (wanted_t hF rfl rfl rfl hc4) rfl fun a hF => ?_
          refine q_xg (v := s11.v) hF hS (ex_load1 10 0 Try.underlying33 rfl rfl rfl rfl) (wanted_t hF rfl rfl rfl hc4) rfl fun a hF => ?_
          refine q_xg (v := (.pointer (some ⟨b17, 1, none⟩))) hF hS (ex_fieldAddr Try.underlying46 rfl sz33 rfl rfl) (wanted_t hF rfl rfl rfl hc4) rfl fun a hF => ?_
          refine q_xg (v := s16.v) hF hS (ex_load1 9 0 Try.underlying33 rfl rfl rfl rfl) (wanted_t hF rfl rfl rfl hc4) rfl fun a hF => ?_
          obtain ⟨m39, hl39, hv39, hz39⟩ := hS.lend
          obtain ⟨t_38, ht_38, hj2⟩ := bindS hj2
          refine q_callg (vs := [s11.v, s16.v]) hF hS (wanted_t hF rfl rfl rfl hc4) Try.func26 (by kernel_rfl) rfl rfl rfl (c_laws_qInts t_8.1.Cells t_13.1.Cells t_38 ht_38 _ m39 hv39 s11 (((h11.mono hm14.le).mono hm19.le).froz hl39 (hz39 12 _ rfl)) s16 ((h16.mono hm19.le).mono hl39)) ?_
          rintro a w _ rfl hF hS
          refine q_xg (v := (.bool (!t_38))) hF hS (ex_not rfl) (wanted_t hF rfl rfl rfl hc4) rfl fun a hF => ?_
          refine q_x (v := (.bool (!t_38))) hF hS (ex_pick_f rfl rfl hc4) rfl rfl fun a hF => ?_
          refine q_x (v := (.bool (!t_38))) hF hS (ex_move rfl) rfl rfl fun a hF => ?_
          rcases bcase (!t_38) with hc5 | hc5
          · have hj2 := cond_f hc5 hj2
            refine q_xg (v := (.bool t_24.2)) hF hS (ex_move rfl) (wanted_t hF rfl rfl rfl hc5) rfl fun a hF => ?_
            refine q_xg (v := (.bool t_30.2)) hF hS (ex_move rfl) (wanted_t hF rfl rfl rfl hc5) rfl fun a hF => ?_
            refine q_xg (v := (.bool (t_24.2 != t_30.2))) hF hS (ex_bne Try.underlying4 rfl rfl) (wanted_t hF rfl rfl rfl hc5) rfl fun a hF => ?_
            refine q_x (v := (.bool (t_24.2 != t_30.2))) hF hS (ex_pick_f rfl rfl hc5) rfl rfl fun a hF => ?_
            refine q_x (v := (.bool (t_24.2 != t_30.2))) hF hS (ex_move rfl) rfl rfl fun a hF => ?_
            rcases bcase (t_24.2 != t_30.2) with hc6 | hc6
            · have hj2 := cond_f hc6 hj2
              refine q_xg (v := (.pointer (some ⟨b29, 0, none⟩))) hF hS (ex_fieldAddr Try.underlying46 rfl sz33 rfl rfl) (wanted_t hF rfl rfl rfl hc6) rfl fun a hF => ?_
              refine q_xg (v := s27.v) hF hS (ex_load1 3 0 Try.underlying33 rfl rfl rfl rfl) (wanted_t hF rfl rfl rfl hc6) rfl fun a hF => ?_
              refine q_xg (v := (.pointer (some ⟨b35, 0, none⟩))) hF hS (ex_fieldAddr Try.underlying46 rfl sz33 rfl rfl) (wanted_t hF rfl rfl rfl hc6) rfl fun a hF => ?_
              refine q_xg (v := s33.v) hF hS (ex_load1 0 0 Try.underlying33 rfl rfl rfl rfl) (wanted_t hF rfl rfl rfl hc6) rfl fun a hF => ?_
              obtain ⟨m41, hl41, hv41, hz41⟩ := hS.lend
              obtain ⟨t_40, ht_40, hj2⟩ := bindS hj2
              refine q_callg (vs := [s27.v, s33.v]) hF hS (wanted_t hF rfl rfl rfl hc6) Try.func26 (by kernel_rfl) rfl rfl rfl (c_laws_qInts t_24.1.Sizes t_30.1.Sizes t_40 ht_40 _ m41 hv41 s27 (h27.froz hl41 (hz41 4 _ rfl)) s33 (h33.froz hl41 (hz41 1 _ rfl))) ?_
              rintro a w _ rfl hF hS
              refine q_xg (v := (.bool (!t_40))) hF hS (ex_not rfl) (wanted_t hF rfl rfl rfl hc6) rfl fun a hF => ?_
              refine q_x (v := (.bool (!t_40))) hF hS (ex_pick_f rfl rfl hc6) rfl rfl fun a hF => ?_
              refine q_x (v := (.bool (!t_40))) hF hS (ex_move rfl) rfl rfl fun a hF => ?_
              rcases bcase (!t_40) with hc7 | hc7
              · have hj2 := cond_f hc7 hj2
                refine q_xg (v := (.pointer (some ⟨b29, 1, none⟩))) hF hS (ex_fieldAddr Try.underlying46 rfl sz33 rfl rfl) (wanted_t hF rfl rfl rfl hc7) rfl fun a hF => ?_
                refine q_xg (v := s28.v) hF hS (ex_load1 3 0 Try.underlying33 rfl rfl rfl rfl) (wanted_t hF rfl rfl rfl hc7) rfl fun a hF => ?_
                refine q_xg (v := (.pointer (some ⟨b35, 1, none⟩))) hF hS (ex_fieldAddr Try.underlying46 rfl sz33 rfl rfl) (wanted_t hF rfl rfl rfl hc7) rfl fun a hF => ?_
                refine q_xg (v := s34.v) hF hS (ex_load1 0 0 Try.underlying33 rfl rfl rfl rfl) (wanted_t hF rfl rfl rfl hc7) rfl fun a hF => ?_
                obtain ⟨m43, hl43, hv43, hz43⟩ := hS.lend
                obtain ⟨t_42, ht_42, hj2⟩ := bindS hj2
                refine q_callg (vs := [s28.v, s34.v]) hF hS (wanted_t hF rfl rfl rfl hc7) Try.func26 (by kernel_rfl) rfl rfl rfl (c_laws_qInts t_24.1.Cells t_30.1.Cells t_42 ht_42 _ m43 hv43 s28 (h28.froz hl43 (hz43 5 _ rfl)) s34 (h34.froz hl43 (hz43 2 _ rfl))) ?_
                rintro a w _ rfl hF hS
                refine q_xg (v := (.bool (!t_42))) hF hS (ex_not rfl) (wanted_t hF rfl rfl rfl hc7) rfl fun a hF => ?_
                refine q_x (v := (.bool (!t_42))) hF hS (ex_pick_f rfl rfl hc7) rfl rfl fun a hF => ?_
                refine q_end (n_jn ?_)
                obtain rfl := someI hj2
                exact ⟨hF.sub ⟨rfl, rfl, rfl, rfl, rfl, rfl, rfl, rfl, trivial⟩, hS.sel [4, 5, 7, 11, 12, 3, 6, 10] (by decide)⟩
              · have hj2 := cond_t hc7 hj2
                refine q_skip hF (wanted_f hF rfl rfl rfl hc7 rfl) rfl fun a hF => ?_
                refine q_skip hF (wanted_f hF rfl rfl rfl hc7 rfl) rfl fun a hF => ?_
                refine q_skip hF (wanted_f hF rfl rfl rfl hc7 rfl) rfl fun a hF => ?_
                refine q_skip hF (wanted_f hF rfl rfl rfl hc7 rfl) rfl fun a hF => ?_
                refine q_skip hF (wanted_f hF rfl rfl rfl hc7 rfl) rfl fun a hF => ?_
                refine q_skip hF (wanted_f hF rfl rfl rfl hc7 rfl) rfl fun a hF => ?_
                refine q_x (v := (.bool true)) hF hS (ex_pick_t rfl rfl hc7) rfl rfl fun a hF => ?_
                refine q_end (n_jn ?_)
                obtain rfl := someI hj2
                exact ⟨hF.sub ⟨rfl, rfl, rfl, rfl, rfl, rfl, rfl, rfl, trivial⟩, hS.sel [4, 5, 7, 11, 12, 3, 6, 10] (by decide)⟩
            · have hj2 := cond_t hc6 hj2
              refine q_skip hF (wanted_f hF rfl rfl rfl hc6 rfl) rfl fun a hF => ?_
              refine q_skip hF (wanted_f hF rfl rfl rfl hc6 rfl) rfl fun a hF => ?_
              refine q_skip hF (wanted_f hF rfl rfl rfl hc6 rfl) rfl fun a hF => ?_
              refine q_skip hF (wanted_f hF rfl rfl rfl hc6 rfl) rfl fun a hF => ?_
              refine q_skip hF (wanted_f hF rfl rfl rfl hc6 rfl) rfl fun a hF => ?_
              refine q_skip hF (wanted_f hF rfl rfl rfl hc6 rfl) rfl fun a hF => ?_
              refine q_x (v := (.bool true)) hF hS (ex_pick_t rfl rfl hc6) rfl rfl fun a hF => ?_
              refine q_x (v := (.bool true)) hF hS (ex_move rfl) rfl rfl fun a hF => ?_
              refine q_skip hF (wanted_f hF rfl rfl rfl rfl rfl) rfl fun a hF => ?_
              refine q_skip hF (wanted_f hF rfl rfl rfl rfl rfl) rfl fun a hF => ?_
              refine q_skip hF (wanted_f hF rfl rfl rfl rfl rfl) rfl fun a hF => ?_
              refine q_skip hF (wanted_f hF rfl rfl rfl rfl rfl) rfl fun a hF => ?_
              refine q_skip hF (wanted_f hF rfl rfl rfl rfl rfl) rfl fun a hF => ?_
              refine q_skip hF (wanted_f hF rfl rfl rfl rfl rfl) rfl fun a hF => ?_
              refine q_x (v := (.bool true)) hF hS (ex_pick_t rfl rfl rfl) rfl rfl fun a hF => ?_
              refine q_end (n_jn ?_)
              obtain rfl := someI hj2
              exact ⟨hF.sub ⟨rfl, rfl, rfl, rfl, rfl, rfl, rfl, rfl, trivial⟩, hS.sel [4, 5, 7, 11, 12, 3, 6, 10] (by decide)⟩
          · have hj2 := cond_t hc5 hj2
            refine q_skip hF (wanted_f hF rfl rfl rfl hc5 rfl) rfl fun a hF => ?_
            refine q_skip hF (wanted_f hF rfl rfl rfl hc5 rfl) rfl fun a hF => ?_
            refine q_skip hF (wanted_f hF rfl rfl rfl hc5 rfl) rfl fun a hF => ?_
            refine q_x (v := (.bool true)) hF hS (ex_pick_t rfl rfl hc5) rfl rfl fun a hF => ?_
            refine q_x (v := (.bool true)) hF hS (ex_move rfl) rfl rfl fun a hF => ?_
            refine q_skip hF (wanted_f hF rfl rfl rfl rfl rfl) rfl fun a hF => ?_
            refine q_skip hF (wanted_f hF rfl rfl rfl rfl rfl) rfl fun a hF => ?_
            refine q_skip hF (wanted_f hF rfl rfl rfl rfl rfl) rfl fun a hF => ?_
            refine q_skip hF (wanted_f hF rfl rfl rfl rfl rfl) rfl fun a hF => ?_
            refine q_skip hF (wanted_f hF rfl rfl rfl rfl rfl) rfl fun a hF => ?_
            refine q_skip hF (wanted_f hF rfl rfl rfl rfl rfl) rfl fun a hF => ?_
            refine q_x (v := (.bool true)) hF hS (ex_pick_t rfl rfl rfl) rfl rfl fun a hF => ?_
            refine q_x (v := (.bool true)) hF hS (ex_move rfl) rfl rfl fun a hF => ?_
            refine q_skip hF (wanted_f hF rfl rfl rfl rfl rfl) rfl fun a hF => ?_
            refine q_skip hF (wanted_f hF rfl rfl rfl rfl rfl) rfl fun a hF => ?_
            refine q_skip hF (wanted_f hF rfl rfl rfl rfl rfl) rfl fun a hF => ?_
            refine q_skip hF (wanted_f hF rfl rfl rfl rfl rfl) rfl fun a hF => ?_
            refine q_skip hF (wanted_f hF rfl rfl rfl rfl rfl) rfl fun a hF => ?_
            refine q_skip hF (wanted_f hF rfl rfl rfl rfl rfl) rfl fun a hF => ?_
            refine q_x (v := (.bool true)) hF hS (ex_pick_t rfl rfl rfl) rfl rfl fun a hF => ?_
            refine q_end (n_jn ?_)
            obtain rfl := someI hj2
            exact ⟨hF.sub ⟨rfl, rfl, rfl, rfl, rfl, rfl, rfl, rfl, trivial⟩, hS.sel [4, 5, 7, 11, 12, 3, 6, 10] (by decide)⟩
        · have hj2 := cond_t hc4 hj2
          refine q_skip hF (wanted_f hF rfl rfl rfl hc4 rfl) rfl fun a hF => ?_
          refine q_skip hF (wanted_f hF rfl rfl rfl hc4 rfl) rfl fun a hF => ?_
          refine q_skip hF (wanted_f hF rfl rfl rfl hc4 rfl) rfl fun a hF => ?_
          refine q_skip hF (wanted_f hF rfl rfl rfl hc4 rfl) rfl fun a hF => ?_
          refine q_skip hF (wanted_f hF rfl rfl rfl hc4 rfl) rfl fun a hF => ?_
          refine q_skip hF (wanted_f hF rfl rfl rfl hc4 rfl) rfl fun a hF => ?_
          refine q_x (v := (.bool true)) hF hS (ex_pick_t rfl rfl hc4) rfl rfl fun a hF => ?_
          refine q_x (v := (.bool true)) hF hS (ex_move rfl) rfl rfl fun a hF => ?_
          refine q_skip hF (wanted_f hF rfl rfl rfl rfl rfl) rfl fun a hF => ?_
          refine q_skip hF (wanted_f hF rfl rfl rfl rfl rfl) rfl fun a hF => ?_
          refine q_skip hF (wanted_f hF rfl rfl rfl rfl rfl) rfl fun a hF => ?_
          refine q_x (v := (.bool true)) hF hS (ex_pick_t rfl rfl rfl) rfl rfl fun a hF => ?_
          refine q_x (v := (.bool true)) hF hS (ex_move rfl) rfl rfl fun a hF => ?_
          refine q_skip hF (wanted_f hF rfl rfl rfl rfl rfl) rfl fun a hF => ?_
          refine q_skip hF (wanted_f hF rfl rfl rfl rfl rfl) rfl fun a hF => ?_
          refine q_skip hF (wanted_f hF rfl rfl rfl rfl rfl) rfl fun a hF => ?_
          refine q_skip hF (wanted_f hF rfl rfl rfl rfl rfl) rfl fun a hF => ?_
          refine q_skip hF (wanted_f hF rfl rfl rfl rfl rfl) rfl fun a hF => ?_
          refine q_skip hF (wanted_f hF rfl rfl rfl rfl rfl) rfl fun a hF => ?_
          refine q_x (v := (.bool true)) hF hS (ex_pick_t rfl rfl rfl) rfl rfl fun a hF => ?_
          refine q_x (v := (.bool true)) hF hS (ex_move rfl) rfl rfl fun a hF => ?_
          refine q_skip hF (wanted_f hF rfl rfl rfl rfl rfl) rfl fun a hF => ?_
          refine q_skip hF (wanted_f hF rfl rfl rfl rfl rfl) rfl fun a hF => ?_
          refine q_skip hF (wanted_f hF rfl rfl rfl rfl rfl) rfl fun a hF => ?_
          refine q_skip hF (wanted_f hF rfl rfl rfl rfl rfl) rfl fun a hF => ?_
          refine q_skip hF (wanted_f hF rfl rfl rfl rfl rfl) rfl fun a hF => ?_
          refine q_skip hF (wanted_f hF rfl rfl rfl rfl rfl) rfl fun a hF => ?_
          refine q_x (v := (.bool true)) hF hS (ex_pick_t rfl rfl rfl) rfl rfl fun a hF => ?_
          refine q_end (n_jn ?_)
          obtain rfl := someI hj2
          exact ⟨hF.sub ⟨rfl, rfl, rfl, rfl, rfl, rfl, rfl, rfl, trivial⟩, hS.sel [4, 5, 7, 11, 12, 3, 6, 10] (by decide)⟩
      · have hj2 := cond_t hc3 hj2
        refine q_skip hF (wanted_f hF rfl rfl rfl hc3 rfl) rfl fun a hF => ?_
        refine q_skip hF (wanted_f hF rfl rfl rfl hc3 rfl) rfl fun a hF => ?_
        refine q_skip hF (wanted_f hF rfl rfl rfl hc3 rfl) rfl fun a hF => ?_
        refine q_skip hF (wanted_f hF rfl rfl rfl hc3 rfl) rfl fun a hF => ?_
        refine q_skip hF (wanted_f hF rfl rfl rfl hc3 rfl) rfl fun a hF => ?_
        refine q_skip hF (wanted_f hF rfl rfl rfl hc3 rfl) rfl fun a hF => ?_
        refine q_x (v := (.bool true)) hF hS (ex_pick_t rfl rfl hc3) rfl rfl fun a hF => ?_
        refine q_x (v := (.bool true)) hF hS (ex_move rfl) rfl rfl fun a hF => ?_
        refine q_skip hF (wanted_f hF rfl rfl rfl rfl rfl) rfl fun a hF => ?_
        refine q_skip hF (wanted_f hF rfl rfl rfl rfl rfl) rfl fun a hF => ?_
        refine q_skip hF (wanted_f hF rfl rfl rfl rfl rfl) rfl fun a hF => ?_
        refine q_skip hF (wanted_f hF rfl rfl rfl rfl rfl) rfl fun a hF => ?_
        refine q_skip hF (wanted_f hF rfl rfl rfl rfl rfl) rfl fun a hF => ?_
        refine q_skip hF (wanted_f hF rfl rfl rfl rfl rfl) rfl fun a hF => ?_
        refine q_x (v := (.bool true)) hF hS (ex_pick_t rfl rfl rfl) rfl rfl fun a hF => ?_
        refine q_x (v := (.bool true)) hF hS (ex_move rfl) rfl rfl fun a hF => ?_
        refine q_skip hF (wanted_f hF rfl rfl rfl rfl rfl) rfl fun a hF => ?_
        refine q_skip hF (wanted_f hF rfl rfl rfl rfl rfl) rfl fun a hF => ?_
        refine q_skip hF (wanted_f hF rfl rfl rfl rfl rfl) rfl fun a hF => ?_
        refine q_x (v := (.bool true)) hF hS (ex_pick_t rfl rfl rfl) rfl rfl fun a hF => ?_
        refine q_x (v := (.bool true)) hF hS (ex_move rfl) rfl rfl fun a hF => ?_
        refine q_skip hF (wanted_f hF rfl rfl rfl rfl rfl) rfl fun a hF => ?_
        refine q_skip hF (wanted_f hF rfl rfl rfl rfl rfl) rfl fun a hF => ?_
        refine q_skip hF (wanted_f hF rfl rfl rfl rfl rfl) rfl fun a hF => ?_
        refine q_skip hF (wanted_f hF rfl rfl rfl rfl rfl) rfl fun a hF => ?_
        refine q_skip hF (wanted_f hF rfl rfl rfl rfl rfl) rfl fun a hF => ?_
        refine q_skip hF (wanted_f hF rfl rfl rfl rfl rfl) rfl fun a hF => ?_
        refine q_x (v := (.bool true)) hF hS (ex_pick_t rfl rfl rfl) rfl rfl fun a hF => ?_
        refine q_x (v := (.bool true)) hF hS (ex_move rfl) rfl rfl fun a hF => ?_
        refine q_skip hF (wanted_f hF rfl rfl rfl rfl rfl) rfl fun a hF => ?_
        refine q_skip hF (wanted_f hF rfl rfl rfl rfl rfl) rfl fun a hF => ?_
        refine q_skip hF (wanted_f hF rfl rfl rfl rfl rfl) rfl fun a hF => ?_
        refine q_skip hF (wanted_f hF rfl rfl rfl rfl rfl) rfl fun a hF => ?_
        refine q_skip hF (wanted_f hF rfl rfl rfl rfl rfl) rfl fun a hF => ?_
        refine q_skip hF (wanted_f hF rfl rfl rfl rfl rfl) rfl fun a hF => ?_
        refine q_x (v := (.bool true)) hF hS (ex_pick_t rfl rfl rfl) rfl rfl fun a hF => ?_
        refine q_end (n_jn ?_)
        obtain rfl := someI hj2
        exact ⟨hF.sub ⟨rfl, rfl, rfl, rfl, rfl, rfl, rfl, rfl, trivial⟩, hS.sel [4, 5, 7, 11, 12, 3, 6, 10] (by decide)⟩
    · rintro a w ⟨hF, hS⟩
      refine n_sq ?_
      rcases bcase (t_44) with hc8 | hc8
      · have hr := cond_f hc8 hr
        refine q_cond_f hF rfl hc8 ?_
        refine q_skipc (n_sq ?_)
        refine q_seq ?_
        refine q_seq ?_
        obtain ⟨t_51, hj9, hr⟩ := bindS hr
        refine q_join (fun a w => Fr a 181 [(5, s5.v), (6, s6.v), (7, (.pointer (some ⟨b12, 0, none⟩))), (8, (.bool t_8.2)), (133, (.bool t_51))] ∧ St [] w0 w m19 [q10, q11, [⟨b12, [s10.v, s11.v], 46⟩]]) ?_ ?_
        · refine e_region [] mixed fun w' hw' => ?_
          have hS := hS.below hw'
          refine e_p (v := (.bool t_24.2)) 0 hF rfl (ex_move rfl) rfl rfl (by kernel_rfl) (by kernel_rfl) (by kernel_rfl) fun a hF => ?_
          refine e_p (v := (.bool t_24.2)) 1 hF rfl (ex_move rfl) rfl rfl (by kernel_rfl) (by kernel_rfl) (by kernel_rfl) fun a hF => ?_
          rcases bcase (t_24.2) with hc10 | hc10
          · have hj9 := cond_f hc10 hj9
            refine e_skipP 2 hF rfl (wanted_f hF rfl rfl rfl hc10 rfl) rfl (by kernel_rfl) (by kernel_rfl) (by kernel_rfl) fun a hF => ?_
            refine e_skipP 3 hF rfl (wanted_f hF rfl rfl rfl hc10 rfl) rfl (by kernel_rfl) (by kernel_rfl) (by kernel_rfl) fun a hF => ?_
            refine e_skipP 4 hF rfl (wanted_f hF rfl rfl rfl hc10 rfl) rfl (by kernel_rfl) (by kernel_rfl) (by kernel_rfl) fun a hF => ?_
            refine e_skipP 5 hF rfl (wanted_f hF rfl rfl rfl hc10 rfl) rfl (by kernel_rfl) (by kernel_rfl) (by kernel_rfl) fun a hF => ?_
            refine e_skipP 6 hF rfl (wanted_u hF rfl rfl rfl) rfl (by kernel_rfl) (by kernel_rfl) (by kernel_rfl) fun a hF => ?_
            refine e_skipP 7 hF rfl (wanted_u hF rfl rfl rfl) rfl (by kernel_rfl) (by kernel_rfl) (by kernel_rfl) fun a hF => ?_
            refine e_skipP 8 hF rfl (wanted_u hF rfl rfl rfl) rfl (by kernel_rfl) (by kernel_rfl) (by kernel_rfl) fun a hF => ?_
            refine e_skipP 9 hF rfl (wanted_u hF rfl rfl rfl) rfl (by kernel_rfl) (by kernel_rfl) (by kernel_rfl) fun a hF => ?_
            refine e_skipP 10 hF rfl (wanted_f hF rfl rfl rfl hc10 rfl) rfl (by kernel_rfl) (by kernel_rfl) (by kernel_rfl) fun a hF => ?_
            refine e_skipP 11 hF rfl (wanted_f hF rfl rfl rfl hc10 rfl) rfl (by kernel_rfl) (by kernel_rfl) (by kernel_rfl) fun a hF => ?_
            refine e_skipP 12 hF rfl (wanted_u hF rfl rfl rfl) rfl (by kernel_rfl) (by kernel_rfl) (by kernel_rfl) fun a hF => ?_
            refine e_skipP 13 hF rfl (wanted_u hF rfl rfl rfl) rfl (by kernel_rfl) (by kernel_rfl) (by kernel_rfl) fun a hF => ?_
            refine e_skipP 14 hF rfl (wanted_u hF rfl rfl rfl) rfl (by kernel_rfl) (by kernel_rfl) (by kernel_rfl) fun a hF => ?_
            refine e_skipP 15 hF rfl (wanted_u hF rfl rfl rfl) rfl (by kernel_rfl) (by kernel_rfl) (by kernel_rfl) fun a hF => ?_
            refine e_skipP 16 hF rfl (wanted_u hF rfl rfl rfl) rfl (by kernel_rfl) (by kernel_rfl) (by kernel_rfl) fun a hF => ?_
            refine e_skipP 17 hF rfl (wanted_u hF rfl rfl rfl) rfl (by kernel_rfl) (by kernel_rfl) (by kernel_rfl) fun a hF => ?_
            refine e_skipP 18 hF rfl (wanted_u hF rfl rfl rfl) rfl (by kernel_rfl) (by kernel_rfl) (by kernel_rfl) fun a hF => ?_
            refine e_skipP 19 hF rfl (wanted_u hF rfl rfl rfl) rfl (by kernel_rfl) (by kernel_rfl) (by kernel_rfl) fun a hF => ?_
            refine e_skipP 20 hF rfl (wanted_u hF rfl rfl rfl) rfl (by kernel_rfl) (by kernel_rfl) (by kernel_rfl) fun a hF => ?_
            refine e_skipP 21 hF rfl (wanted_u hF rfl rfl rfl) rfl (by kernel_rfl) (by kernel_rfl) (by kernel_rfl) fun a hF => ?_
            refine e_skipP 22 hF rfl (wanted_u hF rfl rfl rfl) rfl (by kernel_rfl) (by kernel_rfl) (by kernel_rfl) fun a hF => ?_
            refine e_skipP 23 hF rfl (wanted_u hF rfl rfl rfl) rfl (by kernel_rfl) (by kernel_rfl) (by kernel_rfl) fun a hF => ?_
            refine e_skipP 24 hF rfl (wanted_u hF rfl rfl rfl) rfl (by kernel_rfl) (by kernel_rfl) (by kernel_rfl) fun a hF => ?_
            refine e_skipP 25 hF rfl (wanted_u hF rfl rfl rfl) rfl (by kernel_rfl) (by kernel_rfl) (by kernel_rfl) fun a hF => ?_
            refine e_skipP 26 hF rfl (wanted_u hF rfl rfl rfl) rfl (by kernel_rfl) (by kernel_rfl) (by kernel_rfl) fun a hF => ?_
            refine e_skipP 27 hF rfl (wanted_u hF rfl rfl rfl) rfl (by kernel_rfl) (by kernel_rfl) (by kernel_rfl) fun a hF => ?_
            refine e_skipP 28 hF rfl (wanted_u hF rfl rfl rfl) rfl (by kernel_rfl) (by kernel_rfl) (by kernel_rfl) fun a hF => ?_
            refine e_skipP 29 hF rfl (wanted_f hF rfl rfl rfl hc10 rfl) rfl (by kernel_rfl) (by kernel_rfl) (by kernel_rfl) fun a hF => ?_
            refine e_p (v := (.bool false)) 30 hF rfl (ex_pick_f rfl rfl hc10) rfl rfl (by kernel_rfl) (by kernel_rfl) (by kernel_rfl) fun a hF => ?_
            refine e_end (by kernel_rfl) (n_jn ?_) _
            obtain rfl := someI hj9
            exact ⟨hF.sub ⟨rfl, rfl, rfl, rfl, rfl, trivial⟩, hS.mask [false, false, false, true, true, false, false, true]⟩
          · have hj9 := cond_t hc10 hj9
            refine e_xg (v := (.agg #[s27.v, s28.v])) 2 hF hS rfl (ex_loadA (vs := [s27.v, s28.v]) 5 0 Try.underlying46 rfl sz46 rfl rfl rfl rfl) (wanted_t hF rfl rfl rfl hc10) rfl (by kernel_rfl) (by kernel_rfl) (by kernel_rfl) (by kernel_rfl) fun a hF => ?_
            refine e_one 3 (by kernel_rfl) ?_
            obtain ⟨m46, hl46, hv46, hz46⟩ := hS.lend
            obtain ⟨t_45, ht_45, hj9⟩ := bindS hj9
            refine e_callg (vs := [(.agg #[s27.v, s28.v])]) hF hS rfl (wanted_t hF rfl rfl rfl hc10) Try.func27 (by kernel_rfl) rfl rfl rfl (c_impl_IsCube t_24.1 t_45 ht_45 _ m46 hv46 s27 (h27.froz hl46 (hz46 0 _ rfl)) s28 (h28.froz hl46 (hz46 1 _ rfl))) ?_
            rintro a w _ rfl hF hS
            refine e_pg (v := (.bool (!t_45))) 4 hF rfl (ex_not rfl) (wanted_t hF rfl rfl rfl hc10) rfl (by kernel_rfl) (by kernel_rfl) (by kernel_rfl) fun a hF => ?_
            refine e_pg (v := (.bool (!t_45))) 5 hF rfl (ex_move rfl) (wanted_t hF rfl rfl rfl hc10) rfl (by kernel_rfl) (by kernel_rfl) (by kernel_rfl) fun a hF => ?_
            rcases bcase (!t_45) with hc11 | hc11
            · have hj9 := cond_f hc11 hj9
              refine e_pg (v := (.pointer (some ⟨b29, 1, none⟩))) 6 hF rfl (ex_fieldAddr Try.underlying46 rfl sz33 rfl rfl) (wanted_t hF rfl rfl rfl hc11) rfl (by kernel_rfl) (by kernel_rfl) (by kernel_rfl) fun a hF => ?_
              refine e_xg (v := s28.v) 7 hF hS rfl (ex_load1 5 0 Try.underlying33 rfl rfl rfl rfl) (wanted_t hF rfl rfl rfl hc11) rfl (by kernel_rfl) (by kernel_rfl) (by kernel_rfl) (by kernel_rfl) fun a hF => ?_
              refine e_pg (v := (.int .i64 (goLen t_24.1.Cells))) 8 hF rfl (ex_len Try.underlying33 rfl h28.len) (wanted_t hF rfl rfl rfl hc11) rfl (by kernel_rfl) (by kernel_rfl) (by kernel_rfl) fun a hF => ?_
              refine e_pg (v := (.bool ((goLen t_24.1.Cells) == 0))) 9 hF rfl (ex_ibin rfl rfl rfl) (wanted_t hF rfl rfl rfl hc11) rfl (by kernel_rfl) (by kernel_rfl) (by kernel_rfl) fun a hF => ?_
              refine e_pg (v := (.bool ((goLen t_24.1.Cells) == 0))) 10 hF rfl (ex_pick_f rfl rfl hc11) (wanted_t hF rfl rfl rfl hc10) rfl (by kernel_rfl) (by kernel_rfl) (by kernel_rfl) fun a hF => ?_
              refine e_pg (v := (.bool ((goLen t_24.1.Cells) == 0))) 11 hF rfl (ex_move rfl) (wanted_t hF rfl rfl rfl hc10) rfl (by kernel_rfl) (by kernel_rfl) (by kernel_rfl) fun a hF => ?_
              rcases bcase ((goLen t_24.1.Cells) == 0) with hc12 | hc12
              · have hj9 := cond_f hc12 hj9
                refine e_pg (v := (.pointer (some ⟨b29, 1, none⟩))) 12 hF rfl (ex_fieldAddr Try.underlying46 rfl sz33 rfl rfl) (wanted_t hF rfl rfl rfl hc12) rfl (by kernel_rfl) (by kernel_rfl) (by kernel_rfl) fun a hF => ?_
                refine e_xg (v := s28.v) 13 hF hS rfl (ex_load1 5 0 Try.underlying33 rfl rfl rfl rfl) (wanted_t hF rfl rfl rfl hc12) rfl (by kernel_rfl) (by kernel_rfl) (by kernel_rfl) (by kernel_rfl) fun a hF => ?_
                refine e_pg (v := (.pointer (some ⟨b29, 1, none⟩))) 14 hF rfl (ex_fieldAddr Try.underlying46 rfl sz33 rfl rfl) (wanted_t hF rfl rfl rfl hc12) rfl (by kernel_rfl) (by kernel_rfl) (by kernel_rfl) fun a hF => ?_
                refine e_xg (v := s28.v) 15 hF hS rfl (ex_load1 5 0 Try.underlying33 rfl rfl rfl rfl) (wanted_t hF rfl rfl rfl hc12) rfl (by kernel_rfl) (by kernel_rfl) (by kernel_rfl) (by kernel_rfl) fun a hF => ?_
                refine e_pg (v := (.int .i64 (goLen t_24.1.Cells))) 16 hF rfl (ex_len Try.underlying33 rfl h28.len) (wanted_t hF rfl rfl rfl hc12) rfl (by kernel_rfl) (by kernel_rfl) (by kernel_rfl) fun a hF => ?_
                refine e_pg (v := (.int .i64 (w64 ((goLen t_24.1.Cells) - 1)))) 17 hF rfl (ex_ibin rfl rfl rfl) (wanted_t hF rfl rfl rfl hc12) rfl (by kernel_rfl) (by kernel_rfl) (by kernel_rfl) fun a hF => ?_
                obtain ⟨e_47, he_47, hj9⟩ := bindS hj9
                obtain ⟨vs48, at48, d48⟩ := h28.at he_47 1 rfl
                obtain rfl : vs48 = [(.int .i64 e_47)] := d48
                refine e_pg (v := (elP s28 ((w64 ((goLen t_24.1.Cells) - 1)).toNat * 1))) 18 hF rfl (ex_indexAddr Try.underlying33 sz3 rfl rfl (h28.idx he_47)) (wanted_t hF rfl rfl rfl hc12) rfl (by kernel_rfl) (by kernel_rfl) (by kernel_rfl) fun a hF => ?_
                refine e_xg (v := (.int .i64 e_47)) 19 hF hS rfl (ex_loadE1 0 Try.underlying3 rfl rfl (at48.at 1 rfl) rfl rfl) (wanted_t hF rfl rfl rfl hc12) rfl (by kernel_rfl) (by kernel_rfl) (by kernel_rfl) (by kernel_rfl) fun a hF => ?_
                refine e_pg (v := (.pointer (some ⟨b23, 1, none⟩))) 20 hF rfl (ex_fieldAddr Try.underlying46 rfl sz33 rfl rfl) (wanted_t hF rfl rfl rfl hc12) rfl (by kernel_rfl) (by kernel_rfl) (by kernel_rfl) fun a hF => ?_
                refine e_xg (v := s21.v) 21 hF hS rfl (ex_load1 6 0 Try.underlying33 rfl rfl rfl rfl) (wanted_t hF rfl rfl rfl hc12) rfl (by kernel_rfl) (by kernel_rfl) (by kernel_rfl) (by kernel_rfl) fun a hF => ?_
                refine e_pg (v := (.pointer (some ⟨b23, 1, none⟩))) 22 hF rfl (ex_fieldAddr Try.underlying46 rfl sz33 rfl rfl) (wanted_t hF rfl rfl rfl hc12) rfl (by kernel_rfl) (by kernel_rfl) (by kernel_rfl) fun a hF => ?_
                refine e_xg (v := s21.v) 23 hF hS rfl (ex_load1 6 0 Try.underlying33 rfl rfl rfl rfl) (wanted_t hF rfl rfl rfl hc12) rfl (by kernel_rfl) (by kernel_rfl) (by kernel_rfl) (by kernel_rfl) fun a hF => ?_
                refine e_pg (v := (.int .i64 (goLen t_18.1.Cells))) 24 hF rfl (ex_len Try.underlying33 rfl h21.len) (wanted_t hF rfl rfl rfl hc12) rfl (by kernel_rfl) (by kernel_rfl) (by kernel_rfl) fun a hF => ?_
                refine e_pg (v := (.int .i64 (w64 ((goLen t_18.1.Cells) - 1)))) 25 hF rfl (ex_ibin rfl rfl rfl) (wanted_t hF rfl rfl rfl hc12) rfl (by kernel_rfl) (by kernel_rfl) (by kernel_rfl) fun a hF => ?_
                obtain ⟨e_49, he_49, hj9⟩ := bindS hj9
                obtain ⟨vs50, at50, d50⟩ := h21.at he_49 1 rfl
                obtain rfl : vs50 = [(.int .i64 e_49)] := d50
                refine e_pg (v := (elP s21 ((w64 ((goLen t_18.1.Cells) - 1)).toNat * 1))) 26 hF rfl (ex_indexAddr Try.underlying33 sz3 rfl rfl (h21.idx he_49)) (wanted_t hF rfl rfl rfl hc12) rfl (by kernel_rfl) (by kernel_rfl) (by kernel_rfl) fun a hF => ?_
                refine e_xg (v := (.int .i64 e_49)) 27 hF hS rfl (ex_loadE1 0 Try.underlying3 rfl rfl (at50.at 2 rfl) rfl rfl) (wanted_t hF rfl rfl rfl hc12) rfl (by kernel_rfl) (by kernel_rfl) (by kernel_rfl) (by kernel_rfl) fun a hF => ?_
                refine e_pg (v := (.bool (e_47 != e_49))) 28 hF rfl (ex_ibin rfl rfl rfl) (wanted_t hF rfl rfl rfl hc12) rfl (by kernel_rfl) (by kernel_rfl) (by kernel_rfl) fun a hF => ?_
                refine e_pg (v := (.bool (e_47 != e_49))) 29 hF rfl (ex_pick_f rfl rfl hc12) (wanted_t hF rfl rfl rfl hc10) rfl (by kernel_rfl) (by kernel_rfl) (by kernel_rfl) fun a hF => ?_
                refine e_p (v := (.bool (e_47 != e_49))) 30 hF rfl (ex_pick_t rfl rfl hc10) rfl rfl (by kernel_rfl) (by kernel_rfl) (by kernel_rfl) fun a hF => ?_
                refine e_end (by kernel_rfl) (n_jn ?_) _
                obtain rfl := someI hj9
                exact ⟨hF.sub ⟨rfl, rfl, rfl, rfl, rfl, trivial⟩, hS.mask [false, false, false, true, true, false, false, true]⟩
              · have hj9 := cond_t hc12 hj9
                refine e_skipP 12 hF rfl (wanted_f hF rfl rfl rfl hc12 rfl) rfl (by kernel_rfl) (by kernel_rfl) (by kernel_rfl) fun a hF => ?_
                refine e_skipP 13 hF rfl (wanted_f hF rfl rfl rfl hc12 rfl) rfl (by kernel_rfl) (by kernel_rfl) (by kernel_rfl) fun a hF => ?_
                refine e_skipP 14 hF rfl (wanted_f hF rfl rfl rfl hc12 rfl) rfl (by kernel_rfl) (by kernel_rfl) (by kernel_rfl) fun a hF => ?_
                refine e_skipP 15 hF rfl (wanted_f hF rfl rfl rfl hc12 rfl) rfl (by kernel_rfl) (by kernel_rfl) (by kernel_rfl) fun a hF => ?_
                refine e_skipP 16 hF rfl (wanted_f hF rfl rfl rfl hc12 rfl) rfl (by kernel_rfl) (by kernel_rfl) (by kernel_rfl) fun a hF => ?_
                refine e_skipP 17 hF rfl (wanted_f hF rfl rfl rfl hc12 rfl) rfl (by kernel_rfl) (by kernel_rfl) (by kernel_rfl) fun a hF => ?_
                refine e_skipP 18 hF rfl (wanted_f hF rfl rfl rfl hc12 rfl) rfl (by kernel_rfl) (by kernel_rfl) (by kernel_rfl) fun a hF => ?_
                refine e_skipP 19 hF rfl (wanted_f hF rfl rfl rfl hc12 rfl) rfl (by kernel_rfl) (by kernel_rfl) (by kernel_rfl) fun a hF => ?_
                refine e_skipP 20 hF rfl (wanted_f hF rfl rfl rfl hc12 rfl) rfl (by kernel_rfl) (by kernel_rfl) (by kernel_rfl) fun a hF => ?_
                refine e_skipP 21 hF rfl (wanted_f hF rfl rfl rfl hc12 rfl) rfl (by kernel_rfl) (by kernel_rfl) (by kernel_rfl) fun a hF => ?_
                refine e_skipP 22 hF rfl (wanted_f hF rfl rfl rfl hc12 rfl) rfl (by kernel_rfl) (by kernel_rfl) (by kernel_rfl) fun a hF => ?_
                refine e_skipP 23 hF rfl (wanted_f hF rfl rfl rfl hc12 rfl) rfl (by kernel_rfl) (by kernel_rfl) (by kernel_rfl) fun a hF => ?_
                refine e_skipP 24 hF rfl (wanted_f hF rfl rfl rfl hc12 rfl) rfl (by kernel_rfl) (by kernel_rfl) (by kernel_rfl) fun a hF => ?_
                refine e_skipP 25 hF rfl (wanted_f hF rfl rfl rfl hc12 rfl) rfl (by kernel_rfl) (by kernel_rfl) (by kernel_rfl) fun a hF => ?_
                refine e_skipP 26 hF rfl (wanted_f hF rfl rfl rfl hc12 rfl) rfl (by kernel_rfl) (by kernel_rfl) (by kernel_rfl) fun a hF => ?_
                refine e_skipP 27 hF rfl (wanted_f hF rfl rfl rfl hc12 rfl) rfl (by kernel_rfl) (by kernel_rfl) (by kernel_rfl) fun a hF => ?_
                refine e_skipP 28 hF rfl (wanted_f hF rfl rfl rfl hc12 rfl) rfl (by kernel_rfl) (by kernel_rfl) (by kernel_rfl) fun a hF => ?_
                refine e_pg (v := (.bool true)) 29 hF rfl (ex_pick_t rfl rfl hc12) (wanted_t hF rfl rfl rfl hc10) rfl (by kernel_rfl) (by kernel_rfl) (by kernel_rfl) fun a hF => ?_
                refine e_p (v := (.bool true)) 30 hF rfl (ex_pick_t rfl rfl hc10) rfl rfl (by kernel_rfl) (by kernel_rfl) (by kernel_rfl) fun a hF => ?_
                refine e_end (by kernel_rfl) (n_jn ?_) _
                obtain rfl := someI hj9
                exact ⟨hF.sub ⟨rfl, rfl, rfl, rfl, rfl, trivial⟩, hS.mask [false, false, false, true, true, false, false, true]⟩
            · have hj9 := cond_t hc11 hj9
              refine e_skipP 6 hF rfl (wanted_f hF rfl rfl rfl hc11 rfl) rfl (by kernel_rfl) (by kernel_rfl) (by kernel_rfl) fun a hF => ?_
              refine e_skipP 7 hF rfl (wanted_f hF rfl rfl rfl hc11 rfl) rfl (by kernel_rfl) (by kernel_rfl) (by kernel_rfl) fun a hF => ?_
              refine e_skipP 8 hF rfl (wanted_f hF rfl rfl rfl hc11 rfl) rfl (by kernel_rfl) (by kernel_rfl) (by kernel_rfl) fun a hF => ?_
              refine e_skipP 9 hF rfl (wanted_f hF rfl rfl rfl hc11 rfl) rfl (by kernel_rfl) (by kernel_rfl) (by kernel_rfl) fun a hF => ?_
              refine e_pg (v := (.bool true)) 10 hF rfl (ex_pick_t rfl rfl hc11) (wanted_t hF rfl rfl rfl hc10) rfl (by kernel_rfl) (by kernel_rfl) (by kernel_rfl) fun a hF => ?_
              refine e_pg (v := (.bool true)) 11 hF rfl (ex_move rfl) (wanted_t hF rfl rfl rfl hc10) rfl (by kernel_rfl) (by kernel_rfl) (by kernel_rfl) fun a hF => ?_
              refine e_skipP 12 hF rfl (wanted_f hF rfl rfl rfl rfl rfl) rfl (by kernel_rfl) (by kernel_rfl) (by kernel_rfl) fun a hF => ?_
              refine e_skipP 13 hF rfl (wanted_f hF rfl rfl rfl rfl rfl) rfl (by kernel_rfl) (by kernel_rfl) (by kernel_rfl) fun a hF => ?_
              refine e_skipP 14 hF rfl (wanted_f hF rfl rfl rfl rfl rfl) rfl (by kernel_rfl) (by kernel_rfl) (by kernel_rfl) fun a hF => ?_
              refine e_skipP 15 hF rfl (wanted_f hF rfl rfl rfl rfl rfl) rfl (by kernel_rfl) (by kernel_rfl) (by kernel_rfl) fun a hF => ?_
              refine e_skipP 16 hF rfl (wanted_f hF rfl rfl rfl rfl rfl) rfl (by kernel_rfl) (by kernel_rfl) (by kernel_rfl) fun a hF => ?_
              refine e_skipP 17 hF rfl (wanted_f hF rfl rfl rfl rfl rfl) rfl (by kernel_rfl) (by kernel_rfl) (by kernel_rfl) fun a hF => ?_
              refine e_skipP 18 hF rfl (wanted_f hF rfl rfl rfl rfl rfl) rfl (by kernel_rfl) (by kernel_rfl) (by kernel_rfl) fun a hF => ?_
              refine e_skipP 19 hF rfl (wanted_f hF rfl rfl rfl rfl rfl) rfl (by kernel_rfl) (by kernel_rfl) (by kernel_rfl) fun a hF => ?_
              refine e_skipP 20 hF rfl (wanted_f hF rfl rfl rfl rfl rfl) rfl (by kernel_rfl) (by kernel_rfl) (by kernel_rfl) fun a hF => ?_
              refine e_skipP 21 hF rfl (wanted_f hF rfl rfl rfl rfl rfl) rfl (by kernel_rfl) (by kernel_rfl) (by kernel_rfl) fun a hF => ?_
              refine e_skipP 22 hF rfl (wanted_f hF rfl rfl rfl rfl rfl) rfl (by kernel_rfl) (by kernel_rfl) (by kernel_rfl) fun a hF => ?_
              refine e_skipP 23 hF rfl (wanted_f hF rfl rfl rfl rfl rfl) rfl (by kernel_rfl) (by kernel_rfl) (by kernel_rfl) fun a hF => ?_
              refine e_skipP 24 hF rfl (wanted_f hF rfl rfl rfl rfl rfl) rfl (by kernel_rfl) (by kernel_rfl) (by kernel_rfl) fun a hF => ?_
              refine e_skipP 25 hF rfl (wanted_f hF rfl rfl rfl rfl rfl) rfl (by kernel_rfl) (by kernel_rfl) (by kernel_rfl) fun a hF => ?_
              refine e_skipP 26 hF rfl (wanted_f hF rfl rfl rfl rfl rfl) rfl (by kernel_rfl) (by kernel_rfl) (by kernel_rfl) fun a hF => ?_
              refine e_skipP 27 hF rfl (wanted_f hF rfl rfl rfl rfl rfl) rfl (by kernel_rfl) (by kernel_rfl) (by kernel_rfl) fun a hF => ?_
              refine e_skipP 28 hF rfl (wanted_f hF rfl rfl rfl rfl rfl) rfl (by kernel_rfl) (by kernel_rfl) (by kernel_rfl) fun a hF => ?_
              refine e_pg (v := (.bool true)) 29 hF rfl (ex_pick_t rfl rfl rfl) (wanted_t hF rfl rfl rfl hc10) rfl (by kernel_rfl) (by kernel_rfl) (by kernel_rfl) fun a hF => ?_
              refine e_p (v := (.bool true)) 30 hF rfl (ex_pick_t rfl rfl hc10) rfl rfl (by kernel_rfl) (by kernel_rfl) (by kernel_rfl) fun a hF => ?_
              refine e_end (by kernel_rfl) (n_jn ?_) _
              obtain rfl := someI hj9
              exact ⟨hF.sub ⟨rfl, rfl, rfl, rfl, rfl, trivial⟩, hS.mask [false, false, false, true, true, false, false, true]⟩
        · rintro a w ⟨hF, hS⟩
          refine n_sq ?_
          rcases bcase (t_51) with hc13 | hc13
          · have hr := cond_f hc13 hr
            refine q_cond_f hF rfl hc13 ?_
            refine q_skipc (n_sq ?_)
            refine q_seq ?_
            refine q_seq ?_
            refine q_region ?_
            refine q_x (v := (.bool t_8.2)) hF hS (ex_move rfl) rfl rfl fun a hF => ?_
            refine q_x (v := (.bool (!t_8.2))) hF hS (ex_not rfl) rfl rfl fun a hF => ?_
            refine q_end (n_sq ?_)
            rcases bcase (!t_8.2) with hc14 | hc14
            · have hr := cond_f hc14 hr
              refine q_cond_f hF rfl hc14 ?_
              refine q_skipc (n_sq ?_)
              refine q_seq ?_
              refine q_region ?_
              refine q_x (v := (.agg #[s10.v, s11.v])) hF hS (ex_loadA (vs := [s10.v, s11.v]) 2 0 Try.underlying46 rfl sz46 rfl rfl rfl rfl) rfl rfl fun a hF => ?_
              obtain ⟨m53, hl53, hv53, hz53⟩ := hS.lend
              obtain ⟨t_52, ht_52, hr⟩ := bindS hr
              refine q_call (vs := [(.agg #[s10.v, s11.v])]) hF hS Try.func28 (by kernel_rfl) rfl rfl rfl (c_impl_BaseOf t_8.1 t_52 ht_52 _ m53 hv53 s10 (((h10.mono hm14.le).mono hm19.le).froz hl53 (hz53 0 _ rfl)) s11 (((h11.mono hm14.le).mono hm19.le).froz hl53 (hz53 1 _ rfl))) ?_
              rintro a w _ ⟨q55, s55, rfl, hR54, h55⟩ hF hS2
              have hS : St _ _ _ _ [q55, q10, q11, [⟨b12, [s10.v, s11.v], 46⟩]] := hS.joinF hR54
              have h55 := h55.any m19
              refine q_x (v := (.tuple #[s55.v, (.bool t_52.2)])) hF hS (ex_move rfl) rfl rfl fun a hF => ?_
              refine q_x (v := s55.v) hF hS (ex_extract rfl rfl) rfl rfl fun a hF => ?_
              refine q_x (v := (.bool t_52.2)) hF hS (ex_extract rfl rfl) rfl rfl fun a hF => ?_
              refine q_x (v := s55.v) hF hS (ex_assign rfl) rfl rfl fun a hF => ?_
              refine q_x (v := (.bool t_52.2)) hF hS (ex_assign rfl) rfl rfl fun a hF => ?_
              refine q_end (n_sq ?_)
              refine q_seq ?_
              refine q_region ?_
              refine q_x (v := (.agg #[s10.v, s11.v])) hF hS (ex_loadA (vs := [s10.v, s11.v]) 3 0 Try.underlying46 rfl sz46 rfl rfl rfl rfl) rfl rfl fun a hF => ?_
              obtain ⟨m57, hl57, hv57, hz57⟩ := hS.lend
              obtain ⟨t_56, ht_56, hr⟩ := bindS hr
              refine q_call (vs := [(.agg #[s10.v, s11.v])]) hF hS Try.func29 (by kernel_rfl) rfl rfl rfl (c_impl_FirstBreak t_8.1 t_56 ht_56 _ m57 hv57 s10 (((h10.mono hm14.le).mono hm19.le).froz hl57 (hz57 1 _ rfl)) s11 (((h11.mono hm14.le).mono hm19.le).froz hl57 (hz57 2 _ rfl))) ?_
              rintro a w _ rfl hF hS
              refine q_x (v := (.tuple #[(.int .i64 t_56.1), (.bool t_56.2)])) hF hS (ex_move rfl) rfl rfl fun a hF => ?_
              refine q_x (v := (.int .i64 t_56.1)) hF hS (ex_extract rfl rfl) rfl rfl fun a hF => ?_
              refine q_x (v := (.bool t_56.2)) hF hS (ex_extract rfl rfl) rfl rfl fun a hF => ?_
              refine q_x (v := (.int .i64 t_56.1)) hF hS (ex_assign rfl) rfl rfl fun a hF => ?_
              refine q_x (v := (.bool t_56.2)) hF hS (ex_assign rfl) rfl rfl fun a hF => ?_
              refine q_end (n_sq ?_)
              refine q_seq ?_
              refine q_region ?_
              refine q_x (v := (.agg #[s10.v, s11.v])) hF hS (ex_loadA (vs := [s10.v, s11.v]) 3 0 Try.underlying46 rfl sz46 rfl rfl rfl rfl) rfl rfl fun a hF => ?_
              refine q_x (v := s5.v) hF hS (ex_move rfl) rfl rfl fun a hF => ?_
              obtain ⟨m59, hl59, hv59, hz59⟩ := hS.lend
              obtain ⟨t_58, ht_58, hr⟩ := bindS hr
              refine q_call (vs := [(.agg #[s10.v, s11.v]), s5.v]) hF hS Try.func30 (by kernel_rfl) rfl rfl rfl (c_impl_CubeCell t_8.1 t_3.1 t_58 ht_58 _ m59 hv59 s10 (((h10.mono hm14.le).mono hm19.le).froz hl59 (hz59 1 _ rfl)) s11 (((h11.mono hm14.le).mono hm19.le).froz hl59 (hz59 2 _ rfl)) s5 (((((h5.mono hm7.le).mono hm9.le).mono hm14.le).mono hm19.le).mono hl59)) ?_
              rintro a w _ rfl hF hS
              refine q_x (v := (.tuple #[(.int .i64 t_58.1), (.bool t_58.2)])) hF hS (ex_move rfl) rfl rfl fun a hF => ?_
              refine q_x (v := (.int .i64 t_58.1)) hF hS (ex_extract rfl rfl) rfl rfl fun a hF => ?_
              refine q_x (v := (.bool t_58.2)) hF hS (ex_extract rfl rfl) rfl rfl fun a hF => ?_
              refine q_x (v := (.int .i64 t_58.1)) hF hS (ex_assign rfl) rfl rfl fun a hF => ?_
              refine q_x (v := (.bool t_58.2)) hF hS (ex_assign rfl) rfl rfl fun a hF => ?_
              refine q_end (n_sq ?_)
              refine q_seq ?_
              obtain ⟨t_65, hj15, hr⟩ := bindS hr
              refine q_join (fun a w => Fr a 181 [(4, (.bool t_65))] ∧ St [] w0 w m19 []) ?_ ?_
              · refine q_region ?_
                refine q_x (v := (.bool t_52.2)) hF hS (ex_move rfl) rfl rfl fun a hF => ?_
                refine q_x (v := (.bool t_52.2)) hF hS (ex_move rfl) rfl rfl fun a hF => ?_
                rcases bcase (t_52.2) with hc16 | hc16
                · have hj15 := cond_f hc16 hj15
                  refine q_skip hF (wanted_f hF rfl rfl rfl hc16 rfl) rfl fun a hF => ?_
                  refine q_x (v := (.bool false)) hF hS (ex_pick_f rfl rfl hc16) rfl rfl fun a hF => ?_
                  refine q_x (v := (.bool false)) hF hS (ex_move rfl) rfl rfl fun a hF => ?_
                  refine q_skip hF (wanted_f hF rfl rfl rfl rfl rfl) rfl fun a hF => ?_
                  refine q_x (v := (.bool false)) hF hS (ex_pick_f rfl rfl rfl) rfl rfl fun a hF => ?_
                  refine q_x (v := (.bool false)) hF hS (ex_move rfl) rfl rfl fun a hF => ?_
                  refine q_skip hF (wanted_f hF rfl rfl rfl rfl rfl) rfl fun a hF => ?_
                  refine q_skip hF (wanted_f hF rfl rfl rfl rfl rfl) rfl fun a hF => ?_
                  refine q_x (v := (.bool false)) hF hS (ex_pick_f rfl rfl rfl) rfl rfl fun a hF => ?_
                  refine q_x (v := (.bool false)) hF hS (ex_move rfl) rfl rfl fun a hF => ?_
                  refine q_skip hF (wanted_f hF rfl rfl rfl rfl rfl) rfl fun a hF => ?_
                  refine q_skip hF (wanted_f hF rfl rfl rfl rfl rfl) rfl fun a hF => ?_
                  refine q_skip hF (wanted_f hF rfl rfl rfl rfl rfl) rfl fun a hF => ?_
                  refine q_x (v := (.bool false)) hF hS (ex_pick_f rfl rfl rfl) rfl rfl fun a hF => ?_
                  refine q_x (v := (.bool false)) hF hS (ex_move rfl) rfl rfl fun a hF => ?_
                  refine q_skip hF (wanted_f hF rfl rfl rfl rfl rfl) rfl fun a hF => ?_
                  refine q_skip hF (wanted_f hF rfl rfl rfl rfl rfl) rfl fun a hF => ?_
                  refine q_skip hF (wanted_f hF rfl rfl rfl rfl rfl) rfl fun a hF => ?_
                  refine q_skip hF (wanted_f hF rfl rfl rfl rfl rfl) rfl fun a hF => ?_
                  refine q_skip hF (wanted_f hF rfl rfl rfl rfl rfl) rfl fun a hF => ?_
                  refine q_x (v := (.bool false)) hF hS (ex_pick_f rfl rfl rfl) rfl rfl fun a hF => ?_
                  refine q_x (v := (.bool false)) hF hS (ex_move rfl) rfl rfl fun a hF => ?_
                  refine q_skip hF (wanted_f hF rfl rfl rfl rfl rfl) rfl fun a hF => ?_
                  refine q_skip hF (wanted_f hF rfl rfl rfl rfl rfl) rfl fun a hF => ?_
                  refine q_skip hF (wanted_f hF rfl rfl rfl rfl rfl) rfl fun a hF => ?_
                  refine q_skip hF (wanted_f hF rfl rfl rfl rfl rfl) rfl fun a hF => ?_
                  refine q_x (v := (.bool false)) hF hS (ex_pick_f rfl rfl rfl) rfl rfl fun a hF => ?_
                  refine q_x (v := (.bool false)) hF hS (ex_assign rfl) rfl rfl fun a hF => ?_
                  refine q_end (n_jn ?_)
                  obtain rfl := someI hj15
                  exact ⟨hF.sub ⟨rfl, trivial⟩, hS.mask [false, false, false, false]⟩
                · have hj15 := cond_t hc16 hj15
                  refine q_xg (v := (.bool t_56.2)) hF hS (ex_move rfl) (wanted_t hF rfl rfl rfl hc16) rfl fun a hF => ?_
                  refine q_x (v := (.bool t_56.2)) hF hS (ex_pick_t rfl rfl hc16) rfl rfl fun a hF => ?_
                  refine q_x (v := (.bool t_56.2)) hF hS (ex_move rfl) rfl rfl fun a hF => ?_
                  rcases bcase (t_56.2) with hc17 | hc17
                  · have hj15 := cond_f hc17 hj15
                    refine q_skip hF (wanted_f hF rfl rfl rfl hc17 rfl) rfl fun a hF => ?_
                    refine q_x (v := (.bool false)) hF hS (ex_pick_f rfl rfl hc17) rfl rfl fun a hF => ?_
                    refine q_x (v := (.bool false)) hF hS (ex_move rfl) rfl rfl fun a hF => ?_
                    refine q_skip hF (wanted_f hF rfl rfl rfl rfl rfl) rfl fun a hF => ?_
                    refine q_skip hF (wanted_f hF rfl rfl rfl rfl rfl) rfl fun a hF => ?_
                    refine q_x (v := (.bool false)) hF hS (ex_pick_f rfl rfl rfl) rfl rfl fun a hF => ?_
                    refine q_x (v := (.bool false)) hF hS (ex_move rfl) rfl rfl fun a hF => ?_
                    refine q_skip hF (wanted_f hF rfl rfl rfl rfl rfl) rfl fun a hF => ?_
                    refine q_skip hF (wanted_f hF rfl rfl rfl rfl rfl) rfl fun a hF => ?_
                    refine q_skip hF (wanted_f hF rfl rfl rfl rfl rfl) rfl fun a hF => ?_
                    refine q_x (v := (.bool false)) hF hS (ex_pick_f rfl rfl rfl) rfl rfl fun a hF => ?_
                    refine q_x (v := (.bool false)) hF hS (ex_move rfl) rfl rfl fun a hF => ?_
                    refine q_skip hF (wanted_f hF rfl rfl rfl rfl rfl) rfl fun a hF => ?_
                    refine q_skip hF (wanted_f hF rfl rfl rfl rfl rfl) rfl fun a hF => ?_
                    refine q_skip hF (wanted_f hF rfl rfl rfl rfl rfl) rfl fun a hF => ?_
                    refine q_skip hF (wanted_f hF rfl rfl rfl rfl rfl) rfl fun a hF => ?_
                    refine q_skip hF (wanted_f hF rfl rfl rfl rfl rfl) rfl fun a hF => ?_
                    refine q_x (v := (.bool false)) hF hS (ex_pick_f rfl rfl rfl) rfl rfl fun a hF => ?_
                    refine q_x (v := (.bool false)) hF hS (ex_move rfl) rfl rfl fun a hF => ?_
                    refine q_skip hF (wanted_f hF rfl rfl rfl rfl rfl) rfl fun a hF => ?_
                    refine q_skip hF (wanted_f hF rfl rfl rfl rfl rfl) rfl fun a hF => ?_
                    refine q_skip hF (wanted_f hF rfl rfl rfl rfl rfl) rfl fun a hF => ?_
                    refine q_skip hF (wanted_f hF rfl rfl rfl rfl rfl) rfl fun a hF => ?_
                    refine q_x (v := (.bool false)) hF hS (ex_pick_f rfl rfl rfl) rfl rfl fun a hF => ?_
                    refine q_x (v := (.bool false)) hF hS (ex_assign rfl) rfl rfl fun a hF => ?_
                    refine q_end (n_jn ?_)
                    obtain rfl := someI hj15
                    exact ⟨hF.sub ⟨rfl, trivial⟩, hS.mask [false, false, false, false]⟩
                  · have hj15 := cond_t hc17 hj15
                    refine q_xg (v := (.bool t_58.2)) hF hS (ex_move rfl) (wanted_t hF rfl rfl rfl hc17) rfl fun a hF => ?_
                    refine q_x (v := (.bool t_58.2)) hF hS (ex_pick_t rfl rfl hc17) rfl rfl fun a hF => ?_
                    refine q_x (v := (.bool t_58.2)) hF hS (ex_move rfl) rfl rfl fun a hF => ?_
                    rcases bcase (t_58.2) with hc18 | hc18
                    · have hj15 := cond_f hc18 hj15
                      refine q_skip hF (wanted_f hF rfl rfl rfl hc18 rfl) rfl fun a hF => ?_
                      refine q_skip hF (wanted_f hF rfl rfl rfl hc18 rfl) rfl fun a hF => ?_
                      refine q_x (v := (.bool false)) hF hS (ex_pick_f rfl rfl hc18) rfl rfl fun a hF => ?_
                      refine q_x (v := (.bool false)) hF hS (ex_move rfl) rfl rfl fun a hF => ?_
                      refine q_skip hF (wanted_f hF rfl rfl rfl rfl rfl) rfl fun a hF => ?_
                      refine q_skip hF (wanted_f hF rfl rfl rfl rfl rfl) rfl fun a hF => ?_
                      refine q_skip hF (wanted_f hF rfl rfl rfl rfl rfl) rfl fun a hF => ?_
                      refine q_x (v := (.bool false)) hF hS (ex_pick_f rfl rfl rfl) rfl rfl fun a hF => ?_
                      refine q_x (v := (.bool false)) hF hS (ex_move rfl) rfl rfl fun a hF => ?_
                      refine q_skip hF (wanted_f hF rfl rfl rfl rfl rfl) rfl fun a hF => ?_
                      refine q_skip hF (wanted_f hF rfl rfl rfl rfl rfl) rfl fun a hF => ?_
                      refine q_skip hF (wanted_f hF rfl rfl rfl rfl rfl) rfl fun a hF => ?_
                      refine q_skip hF (wanted_f hF rfl rfl rfl rfl rfl) rfl fun a hF => ?_
                      refine q_skip hF (wanted_f hF rfl rfl rfl rfl rfl) rfl fun a hF => ?_
                      refine q_x (v := (.bool false)) hF hS (ex_pick_f rfl rfl rfl) rfl rfl fun a hF => ?_
                      refine q_x (v := (.bool false)) hF hS (ex_move rfl) rfl rfl fun a hF => ?_
                      refine q_skip hF (wanted_f hF rfl rfl rfl rfl rfl) rfl fun a hF => ?_
                      refine q_skip hF (wanted_f hF rfl rfl rfl rfl rfl) rfl fun a hF => ?_
                      refine q_skip hF (wanted_f hF rfl rfl rfl rfl rfl) rfl fun a hF => ?_
                      refine q_skip hF (wanted_f hF rfl rfl rfl rfl rfl) rfl fun a hF => ?_
                      refine q_x (v := (.bool false)) hF hS (ex_pick_f rfl rfl rfl) rfl rfl fun a hF => ?_
                      refine q_x (v := (.bool false)) hF hS (ex_assign rfl) rfl rfl fun a hF => ?_
                      refine q_end (n_jn ?_)
                      obtain rfl := someI hj15
                      exact ⟨hF.sub ⟨rfl, trivial⟩, hS.mask [false, false, false, false]⟩
                    · have hj15 := cond_t hc18 hj15
                      refine q_xg (v := (.agg #[s10.v, s11.v])) hF hS (ex_loadA (vs := [s10.v, s11.v]) 3 0 Try.underlying46 rfl sz46 rfl rfl rfl rfl) (wanted_t hF rfl rfl rfl hc18) rfl fun a hF => ?_
                      obtain ⟨m61, hl61, hv61, hz61⟩ := hS.lend
                      obtain ⟨t_60, ht_60, hj15⟩ := bindS hj15
                      refine q_callg (vs := [(.agg #[s10.v, s11.v])]) hF hS (wanted_t hF rfl rfl rfl hc18) Try.func27 (by kernel_rfl) rfl rfl rfl (c_impl_IsCube t_8.1 t_60 ht_60 _ m61 hv61 s10 (((h10.mono hm14.le).mono hm19.le).froz hl61 (hz61 1 _ rfl)) s11 (((h11.mono hm14.le).mono hm19.le).froz hl61 (hz61 2 _ rfl))) ?_
                      rintro a w _ rfl hF hS
                      refine q_x (v := (.bool t_60)) hF hS (ex_pick_t rfl rfl hc18) rfl rfl fun a hF => ?_
                      refine q_x (v := (.bool t_60)) hF hS (ex_move rfl) rfl rfl fun a hF => ?_
                      rcases bcase (t_60) with hc19 | hc19
                      · have hj15 := cond_f hc19 hj15
                        refine q_skip hF (wanted_f hF rfl rfl rfl hc19 rfl) rfl fun a hF => ?_
                        refine q_skip hF (wanted_f hF rfl rfl rfl hc19 rfl) rfl fun a hF => ?_
                        refine q_skip hF (wanted_f hF rfl rfl rfl hc19 rfl) rfl fun a hF => ?_
                        refine q_x (v := (.bool false)) hF hS (ex_pick_f rfl rfl hc19) rfl rfl fun a hF => ?_
                        refine q_x (v := (.bool false)) hF hS (ex_move rfl) rfl rfl fun a hF => ?_
                        refine q_skip hF (wanted_f hF rfl rfl rfl rfl rfl) rfl fun a hF => ?_
                        refine q_skip hF (wanted_f hF rfl rfl rfl rfl rfl) rfl fun a hF => ?_
                        refine q_skip hF (wanted_f hF rfl rfl rfl rfl rfl) rfl fun a hF => ?_
                        refine q_skip hF (wanted_f hF rfl rfl rfl rfl rfl) rfl fun a hF => ?_
                        refine q_skip hF (wanted_f hF rfl rfl rfl rfl rfl) rfl fun a hF => ?_
                        refine q_x (v := (.bool false)) hF hS (ex_pick_f rfl rfl rfl) rfl rfl fun a hF => ?_
                        refine q_x (v := (.bool false)) hF hS (ex_move rfl) rfl rfl fun a hF => ?_
                        refine q_skip hF (wanted_f hF rfl rfl rfl rfl rfl) rfl fun a hF => ?_
                        refine q_skip hF (wanted_f hF rfl rfl rfl rfl rfl) rfl fun a hF => ?_
                        refine q_skip hF (wanted_f hF rfl rfl rfl rfl rfl) rfl fun a hF => ?_
                        refine q_skip hF (wanted_f hF rfl rfl rfl rfl rfl) rfl fun a hF => ?_
                        refine q_x (v := (.bool false)) hF hS (ex_pick_f rfl rfl rfl) rfl rfl fun a hF => ?_
                        refine q_x (v := (.bool false)) hF hS (ex_assign rfl) rfl rfl fun a hF => ?_
                        refine q_end (n_jn ?_)
                        obtain rfl := someI hj15
                        exact ⟨hF.sub ⟨rfl, trivial⟩, hS.mask [false, false, false, false]⟩
                      · have hj15 := cond_t hc19 hj15
                        refine q_xg (v := s55.v) hF hS (ex_move rfl) (wanted_t hF rfl rfl rfl hc19) rfl fun a hF => ?_
                        refine q_xg (v := s6.v) hF hS (ex_move rfl) (wanted_t hF rfl rfl rfl hc19) rfl fun a hF => ?_
                        obtain ⟨m63, hl63, hv63, hz63⟩ := hS.lend
                        obtain ⟨t_62, ht_62, hj15⟩ := bindS hj15
                        refine q_callg (vs := [s55.v, s6.v]) hF hS (wanted_t hF rfl rfl rfl hc19) Try.func26 (by kernel_rfl) rfl rfl rfl (c_laws_qInts t_52.1 t_3.2 t_62 ht_62 _ m63 hv63 s55 (h55.froz hl63 (hz63 0 _ rfl)) s6 ((((h7.mono hm9.le).mono hm14.le).mono hm19.le).mono hl63)) ?_
                        rintro a w _ rfl hF hS
                        refine q_x (v := (.bool t_62)) hF hS (ex_pick_t rfl rfl hc19) rfl rfl fun a hF => ?_
                        refine q_x (v := (.bool t_62)) hF hS (ex_move rfl) rfl rfl fun a hF => ?_
                        rcases bcase (t_62) with hc20 | hc20
                        · have hj15 := cond_f hc20 hj15
                          refine q_skip hF (wanted_f hF rfl rfl rfl hc20 rfl) rfl fun a hF => ?_
                          refine q_skip hF (wanted_f hF rfl rfl rfl hc20 rfl) rfl fun a hF => ?_
                          refine q_skip hF (wanted_f hF rfl rfl rfl hc20 rfl) rfl fun a hF => ?_
                          refine q_skip hF (wanted_f hF rfl rfl rfl hc20 rfl) rfl fun a hF => ?_
                          refine q_skip hF (wanted_f hF rfl rfl rfl hc20 rfl) rfl fun a hF => ?_
                          refine q_x (v := (.bool false)) hF hS (ex_pick_f rfl rfl hc20) rfl rfl fun a hF => ?_
                          refine q_x (v := (.bool false)) hF hS (ex_move rfl) rfl rfl fun a hF => ?_
                          refine q_skip hF (wanted_f hF rfl rfl rfl rfl rfl) rfl fun a hF => ?_
                          refine q_skip hF (wanted_f hF rfl rfl rfl rfl rfl) rfl fun a hF => ?_
                          refine q_skip hF (wanted_f hF rfl rfl rfl rfl rfl) rfl fun a hF => ?_
                          refine q_skip hF (wanted_f hF rfl rfl rfl rfl rfl) rfl fun a hF => ?_
                          refine q_x (v := (.bool false)) hF hS (ex_pick_f rfl rfl rfl) rfl rfl fun a hF => ?_
                          refine q_x (v := (.bool false)) hF hS (ex_assign rfl) rfl rfl fun a hF => ?_
                          refine q_end (n_jn ?_)
                          obtain rfl := someI hj15
                          exact ⟨hF.sub ⟨rfl, trivial⟩, hS.mask [false, false, false, false]⟩
                        · have hj15 := cond_t hc20 hj15
                          refine q_xg (v := (.int .i64 t_56.1)) hF hS (ex_move rfl) (wanted_t hF rfl rfl rfl hc20) rfl fun a hF => ?_
                          refine q_xg (v := (.pointer (some ⟨b12, 1, none⟩))) hF hS (ex_fieldAddr Try.underlying46 rfl sz33 rfl rfl) (wanted_t hF rfl rfl rfl hc20) rfl fun a hF => ?_
                          refine q_xg (v := s11.v) hF hS (ex_load1 3 0 Try.underlying33 rfl rfl rfl rfl) (wanted_t hF rfl rfl rfl hc20) rfl fun a hF => ?_
                          refine q_xg (v := (.int .i64 (goLen t_8.1.Cells))) hF hS (ex_len Try.underlying33 rfl ((h11.mono hm14.le).mono hm19.le).len) (wanted_t hF rfl rfl rfl hc20) rfl fun a hF => ?_
                          refine q_xg (v := (.bool (t_56.1 == (goLen t_8.1.Cells)))) hF hS (ex_ibin rfl rfl rfl) (wanted_t hF rfl rfl rfl hc20) rfl fun a hF => ?_
                          refine q_x (v := (.bool (t_56.1 == (goLen t_8.1.Cells)))) hF hS (ex_pick_t rfl rfl hc20) rfl rfl fun a hF => ?_
                          refine q_x (v := (.bool (t_56.1 == (goLen t_8.1.Cells)))) hF hS (ex_move rfl) rfl rfl fun a hF => ?_
                          rcases bcase (t_56.1 == (goLen t_8.1.Cells)) with hc21 | hc21
                          · have hj15 := cond_f hc21 hj15
                            refine q_skip hF (wanted_f hF rfl rfl rfl hc21 rfl) rfl fun a hF => ?_
                            refine q_skip hF (wanted_f hF rfl rfl rfl hc21 rfl) rfl fun a hF => ?_
                            refine q_skip hF (wanted_f hF rfl rfl rfl hc21 rfl) rfl fun a hF => ?_
                            refine q_skip hF (wanted_f hF rfl rfl rfl hc21 rfl) rfl fun a hF => ?_
                            refine q_x (v := (.bool false)) hF hS (ex_pick_f rfl rfl hc21) rfl rfl fun a hF => ?_
                            refine q_x (v := (.bool false)) hF hS (ex_assign rfl) rfl rfl fun a hF => ?_
                            refine q_end (n_jn ?_)
                            obtain rfl := someI hj15
                            exact ⟨hF.sub ⟨rfl, trivial⟩, hS.mask [false, false, false, false]⟩
                          · have hj15 := cond_t hc21 hj15
                            refine q_xg (v := (.int .i64 t_58.1)) hF hS (ex_move rfl) (wanted_t hF rfl rfl rfl hc21) rfl fun a hF => ?_
                            refine q_xg (v := s6.v) hF hS (ex_move rfl) (wanted_t hF rfl rfl rfl hc21) rfl fun a hF => ?_
                            obtain ⟨t_64, ht_64, hj15⟩ := bindS hj15
                            refine q_callg (vs := [s6.v]) hF hS (wanted_t hF rfl rfl rfl hc21) Try.func31 (by kernel_rfl) rfl rfl rfl (c_laws_qSum t_3.2 t_64 ht_64 _ m19 hS.vis s6 (((h7.mono hm9.le).mono hm14.le).mono hm19.le)) ?_
                            rintro a w _ rfl hF hS
                            refine q_xg (v := (.bool (t_58.1 == t_64))) hF hS (ex_ibin rfl rfl rfl) (wanted_t hF rfl rfl rfl hc21) rfl fun a hF => ?_
                            refine q_x (v := (.bool (t_58.1 == t_64))) hF hS (ex_pick_t rfl rfl hc21) rfl rfl fun a hF => ?_
                            refine q_x (v := (.bool (t_58.1 == t_64))) hF hS (ex_assign rfl) rfl rfl fun a hF => ?_
                            refine q_end (n_jn ?_)
                            obtain rfl := someI hj15
                            exact ⟨hF.sub ⟨rfl, trivial⟩, hS.mask [false, false, false, false]⟩
              · rintro a w ⟨hF, hS⟩
                refine n_sq (q_ret ?_)
                obtain rfl := someI hr
                exact ret_of hF hS rfl (.tmp rfl .nil) rfl
            · have hr := cond_t hc14 hr
              refine q_cond_t hF rfl hc14 ?_
              refine q_seq ?_
              refine q_region ?_
              refine q_x (v := (.bool true)) hF hS (ex_assign rfl) rfl rfl fun a hF => ?_
              refine q_end (n_sq (q_ret (r_sq ?_)))
              obtain rfl := someI hr
              exact ret_of hF hS rfl (.tmp rfl .nil) rfl
          · have hr := cond_t hc13 hr
            refine q_cond_t hF rfl hc13 ?_
            refine q_seq ?_
            refine q_region ?_
            refine q_x (v := (.bool false)) hF hS (ex_assign rfl) rfl rfl fun a hF => ?_
            refine q_end (n_sq (q_ret (r_sq ?_)))
            obtain rfl := someI hr
            exact ret_of hF hS rfl (.tmp rfl .nil) rfl
      · have hr := cond_t hc8 hr
        refine q_cond_t hF rfl hc8 ?_
        refine q_seq ?_
        refine q_region ?_
        refine q_x (v := (.bool false)) hF hS (ex_assign rfl) rfl rfl fun a hF => ?_
        refine q_end (n_sq (q_ret (r_sq ?_)))
        obtain rfl := someI hr
        exact ret_of hF hS rfl (.tmp rfl .nil) rfl
  · have hr := cond_t hc1 hr
    refine q_cond_t hF rfl hc1 ?_
    refine q_seq ?_
    refine q_region ?_
    refine q_x (v := (.bool true)) hF hS (ex_assign rfl) rfl rfl fun a hF => ?_
    refine q_end (n_sq (q_ret (r_sq ?_)))
    obtain rfl := someI hr
    exact ret_of hF hS rfl (.tmp rfl .nil) rfl

end Go.Proofs.Ytiikfhfnkppeeaa
