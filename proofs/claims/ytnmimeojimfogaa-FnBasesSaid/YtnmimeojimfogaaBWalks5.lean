/- The walks of the functions: each returns what its plain function says. -/
import Derived.Test.YtnmimeojimfogaaBWalks4
namespace Go.Proofs.Ytnmimeojimfogaa
open Go.Gx Go.Gx.F Go.RowKit
set_option linter.all false
set_option maxRecDepth 10000


theorem c_laws_FnBases (p_code : List (K .u8)) (p_more : List (K .u8)) (r : Bool) (hr : laws_FnBases p_code p_more = some r) (w0 : World) (m : Mem) (hv : Vis m w0) (s1 : Sl) (h1 : Rd m s1 p_code) (s2 : Sl) (h2 : Rd m s2 p_more) :
  Ret Try.prog 4 [s1.v, s2.v] w0 (fun v _ => v = (.bool r)) := by
 unfold laws_FnBases at hr
 refine ret_start Try.func4 rfl 217 rfl rfl m hv fun a hF hS => q_seq (q_region (q_x (v := (.bool false)) hF hS (ex_assign rfl) rfl rfl fun a hF => q_end (n_sq (q_seq (q_seq (q_region (q_x (v := s1.v) hF hS (ex_move rfl) rfl rfl fun a hF => q_x (v := s2.v) hF hS (ex_move rfl) rfl rfl fun a hF => ?_)))))))
 obtain ⟨t_3, ht_3, hr⟩ := bindS hr
 refine q_call (vs := [s1.v, s2.v]) hF hS Try.func5 (by kernel_rfl) rfl rfl rfl (c_laws_big p_code p_more t_3 ht_3 _ m hS.vis s1 h1 s2 h2) ?_
 rintro a w _ rfl hF hS
 refine q_end (n_sq ?_)
 rcases bcase (t_3) with hc1 | hc1
 ·have hr := cond_f hc1 hr
  refine q_cond_f hF rfl hc1 (q_skipc (n_sq (q_seq (q_region (q_x (v := s1.v) hF hS (ex_move rfl) rfl rfl fun a hF => ?_)))))
  obtain ⟨t_4, ht_4, hr⟩ := bindS hr
  refine q_call (vs := [s1.v]) hF hS Try.func14 (by kernel_rfl) rfl rfl rfl (c_spec_DrawBaseTables p_code t_4 ht_4 _ m hS.vis s1 h1) ?_
  have hT := hS
  rintro a w _ ⟨m5, q8, s6, s7, s8, rfl, hm5, hR5, h6, h7, h8⟩ hF hS2
  have hS : St _ _ _ _ [q8] := hS.join hR5 hm5
  have hm5 := MLe.weakX (O0 := []) hT hm5
  refine q_x (v := (.tuple #[(.agg #[s6.v]), s7.v, s8.v])) hF hS (ex_move rfl) rfl rfl fun a hF => q_x (v := (.agg #[s6.v])) hF hS (ex_extract rfl rfl) rfl rfl fun a hF => q_x (v := s7.v) hF hS (ex_extract rfl rfl) rfl rfl fun a hF => q_x (v := s8.v) hF hS (ex_extract rfl rfl) rfl rfl fun a hF => q_alloc (cs := [nilS.v]) hF hS rfl rfl rfl fun a w b9 hF hS => q_store (vs := [s6.v]) (cs' := [s6.v]) 0 0 hF hS sz26 rfl rfl rfl rfl rfl rfl rfl rfl fun a w hF hS => q_x (v := s7.v) hF hS (ex_assign rfl) rfl rfl fun a hF => q_x (v := s8.v) hF hS (ex_assign rfl) rfl rfl fun a hF => q_end (n_sq (q_seq (q_region (q_x (v := (.agg #[s6.v])) hF hS (ex_loadA (vs := [s6.v]) 0 0 Try.underlying26 rfl sz26 rfl rfl rfl rfl) rfl rfl fun a hF => q_x (v := s7.v) hF hS (ex_move rfl) rfl rfl fun a hF => q_x (v := s8.v) hF hS (ex_move rfl) rfl rfl fun a hF => ?_))))
  obtain ⟨m11, hl11, hv11, hz11⟩ := hS.lend
  obtain ⟨t_10, ht_10, hr⟩ := bindS hr
  refine q_call (vs := [(.agg #[s6.v]), s7.v, s8.v]) hF hS Try.func15 (by kernel_rfl) rfl rfl rfl (c_impl_BaseTables t_4.1 t_4.2.1 t_4.2.2 t_10 ht_10 _ m11 hv11 s6 (h6.mono hl11) s7 (h7.mono hl11) s8 (h8.froz hl11 (hz11 1 _ rfl))) ?_
  rintro a w _ ⟨q13, s13, rfl, hR12, h13⟩ hF hS2
  have hS : St _ _ _ _ [q13, [⟨b9, [s6.v], 26⟩], q8] := hS.joinF hR12
  have h13 := h13.any m5
  refine q_x (v := (.tuple #[s13.v, (.bool t_10.2)])) hF hS (ex_move rfl) rfl rfl fun a hF => q_x (v := s13.v) hF hS (ex_extract rfl rfl) rfl rfl fun a hF => q_x (v := (.bool t_10.2)) hF hS (ex_extract rfl rfl) rfl rfl fun a hF => q_x (v := s13.v) hF hS (ex_assign rfl) rfl rfl fun a hF => q_x (v := (.bool t_10.2)) hF hS (ex_assign rfl) rfl rfl fun a hF => q_end (n_sq (q_seq (q_region (q_x (v := (.agg #[s6.v])) hF hS (ex_loadA (vs := [s6.v]) 1 0 Try.underlying26 rfl sz26 rfl rfl rfl rfl) rfl rfl fun a hF => q_x (v := s7.v) hF hS (ex_move rfl) rfl rfl fun a hF => q_x (v := s8.v) hF hS (ex_move rfl) rfl rfl fun a hF => ?_))))
  obtain ⟨m15, hl15, hv15, hz15⟩ := hS.lend
  obtain ⟨t_14, ht_14, hr⟩ := bindS hr
  refine q_call (vs := [(.agg #[s6.v]), s7.v, s8.v]) hF hS Try.func16 (by kernel_rfl) rfl rfl rfl (c_spec_BaseTables t_4.1 t_4.2.1 t_4.2.2 t_14 ht_14 _ m15 hv15 s6 (h6.mono hl15) s7 (h7.mono hl15) s8 (h8.froz hl15 (hz15 2 _ rfl))) ?_
  rintro a w _ ⟨q17, s17, rfl, hR16, h17⟩ hF hS2
  have hS : St _ _ _ _ [q17, q13, [⟨b9, [s6.v], 26⟩], q8] := hS.joinF hR16
  have h17 := h17.any m5
  refine q_x (v := (.tuple #[s17.v, (.bool t_14.2)])) hF hS (ex_move rfl) rfl rfl fun a hF => q_x (v := s17.v) hF hS (ex_extract rfl rfl) rfl rfl fun a hF => q_x (v := (.bool t_14.2)) hF hS (ex_extract rfl rfl) rfl rfl fun a hF => q_x (v := s17.v) hF hS (ex_assign rfl) rfl rfl fun a hF => q_x (v := (.bool t_14.2)) hF hS (ex_assign rfl) rfl rfl fun a hF => q_end (n_sq (q_seq (q_seq ?_)))
  obtain ⟨t_20, hj2, hr⟩ := bindS hr
  refine q_join (fun a w => Fr a 217 [(1, s2.v), (5, (.pointer (some ⟨b9, 0, none⟩))), (6, s7.v), (7, s8.v), (9, (.bool t_10.2)), (10, s17.v), (70, (.bool t_20))] ∧ St [] w0 w m5 [q8, q17, [⟨b9, [s6.v], 26⟩]]) ?_ ?_
  ·refine q_region (q_x (v := (.bool t_10.2)) hF hS (ex_move rfl) rfl rfl fun a hF => q_x (v := (.bool t_14.2)) hF hS (ex_move rfl) rfl rfl fun a hF => q_x (v := (.bool (t_10.2 != t_14.2))) hF hS (ex_bne Try.underlying4 rfl rfl) rfl rfl fun a hF => q_x (v := (.bool (t_10.2 != t_14.2))) hF hS (ex_move rfl) rfl rfl fun a hF => ?_)
   rcases bcase (t_10.2 != t_14.2) with hc3 | hc3
   ·have hj2 := cond_f hc3 hj2
    refine q_xg (v := s13.v) hF hS (ex_move rfl) (wanted_t hF rfl rfl rfl hc3) rfl fun a hF => q_xg (v := s17.v) hF hS (ex_move rfl) (wanted_t hF rfl rfl rfl hc3) rfl fun a hF => ?_
    obtain ⟨m19, hl19, hv19, hz19⟩ := hS.lend
    obtain ⟨t_18, ht_18, hj2⟩ := bindS hj2
    refine q_callg (vs := [s13.v, s17.v]) hF hS (wanted_t hF rfl rfl rfl hc3) Try.func17 (by kernel_rfl) rfl rfl rfl (c_laws_sameInts t_10.1 t_14.1 t_18 ht_18 _ m19 hv19 s13 (h13.froz hl19 (hz19 1 _ rfl)) s17 (h17.froz hl19 (hz19 0 _ rfl))) ?_
    rintro a w _ rfl hF hS
    refine q_xg (v := (.bool (!t_18))) hF hS (ex_not rfl) (wanted_t hF rfl rfl rfl hc3) rfl fun a hF => q_x (v := (.bool (!t_18))) hF hS (ex_pick_f rfl rfl hc3) rfl rfl fun a hF => q_end (n_jn ?_)
    obtain rfl := someI hj2
    exact ⟨hF.sub ⟨rfl, rfl, rfl, rfl, rfl, rfl, rfl, trivial⟩, hS.sel [3, 0, 2] (by decide)⟩
   ·have hj2 := cond_t hc3 hj2
    refine q_skip hF (wanted_f hF rfl rfl rfl hc3 rfl) rfl fun a hF => q_skip hF (wanted_f hF rfl rfl rfl hc3 rfl) rfl fun a hF => q_skip hF (wanted_f hF rfl rfl rfl hc3 rfl) rfl fun a hF => q_skip hF (wanted_f hF rfl rfl rfl hc3 rfl) rfl fun a hF => q_x (v := (.bool true)) hF hS (ex_pick_t rfl rfl hc3) rfl rfl fun a hF => q_end (n_jn ?_)
    obtain rfl := someI hj2
    exact ⟨hF.sub ⟨rfl, rfl, rfl, rfl, rfl, rfl, rfl, trivial⟩, hS.sel [3, 0, 2] (by decide)⟩
  ·rintro a w ⟨hF, hS⟩
   refine n_sq ?_
   rcases bcase (t_20) with hc4 | hc4
   ·have hr := cond_f hc4 hr
    refine q_cond_f hF rfl hc4 (q_skipc (n_sq (q_seq (q_seq (q_region (q_x (v := (.bool t_10.2)) hF hS (ex_move rfl) rfl rfl fun a hF => q_end (n_sq ?_)))))))
    obtain ⟨j5, hj5, hr⟩ := bindS hr
    refine q_join (fun a w => ∃ (m65 : Mem), j5 = .inl () ∧ Fr a 217 [(1, s2.v)] ∧ St [] w0 w m65 [] ∧ MLe [] w0.heap.size m5 m65) ?_ ?_
    ·rcases bcase (t_10.2) with hc6 | hc6
     ·have hj5 := cond_f hc6 hj5
      refine q_cond_f hF rfl hc6 (q_skipc (n_jn ?_))
      obtain rfl := someI hj5
      exact ⟨m5, rfl, hF.sub ⟨rfl, trivial⟩, hS.mask [false, false, false], (MLe.refl _ _)⟩
     ·have hj5 := cond_t hc6 hj5
      refine q_cond_t hF rfl hc6 (q_seq (q_region (q_x (v := nilS.v) hF hS (ex_assign rfl) rfl rfl fun a hF => q_end (n_sq (q_seq (q_seq (q_region (q_x (v := s17.v) hF hS (ex_move rfl) rfl rfl fun a hF => q_x (v := (.int .i64 (goLen t_14.1))) hF hS (ex_len Try.underlying24 rfl h17.len) rfl rfl fun a hF => q_x (v := (.int .i64 0)) hF hS (ex_move rfl) rfl rfl fun a hF => q_end (n_sq (q_block ?_))))))))))
      obtain ⟨base_33, hl7, hj5⟩ := bindS hj5
      refine q_loop (fun (s : (List impl_Table) × Int) a w => ∃ (q22 : Piece), ∃ (s22 : Sl), ∃ base_21, ∃ t_23, s = (base_21, t_23) ∧ Fr a 217 [(1, s2.v), (5, (.pointer (some ⟨b9, 0, none⟩))), (6, s7.v), (7, s8.v), (12, s22.v), (72, s17.v), (73, (.int .i64 (goLen t_14.1))), (74, (.int .i64 t_23))] ∧ St [] w0 w m5 [q22, q8, q17, [⟨b9, [s6.v], 26⟩]] ∧ OwnL m5 29 q22 s22 base_21) (fun (base_33 : (List impl_Table)) e a w => ∃ (q34 : Piece), ∃ (s34 : Sl), e = .exit 0 ∧ Fr a 217 [(1, s2.v), (5, (.pointer (some ⟨b9, 0, none⟩))), (6, s7.v), (7, s8.v), (12, s34.v)] ∧ St [] w0 w m5 [q8, q34, [⟨b9, [s6.v], 26⟩]] ∧ OwnL m5 29 q34 s34 base_33) hl7 ⟨[], nilS, _, _, rfl, hF.sub ⟨rfl, rfl, rfl, rfl, rfl, rfl, rfl, rfl, trivial⟩, hS.sel [3, 0, 1, 2] (by decide), (OwnL.nil (α := impl_Table) m5 29)⟩ ?_ ?_
      ·clear hF hS
       rintro s a w st ⟨q22, s22, base_21, t_23, rfl, hF, hS, h22⟩ hb7
       unfold laws_FnBases_l1 at hb7
       refine q_seq (q_region (q_x (v := (.bool (decide (t_23 < (goLen t_14.1))))) hF hS (ex_ibin rfl rfl rfl) rfl rfl fun a hF => q_end (n_sq (q_seq ?_))))
       rcases bcase (decide (t_23 < (goLen t_14.1))) with hc8 | hc8
       ·have hb7 := cond_f hc8 hb7
        refine q_cond_f hF rfl hc8 (q_exit (x_sq ?_))
        obtain rfl := someI hb7
        exact ⟨nofun, .inl ⟨q22, s22, rfl, hF.sub ⟨rfl, rfl, rfl, rfl, rfl, trivial⟩, hS.sel [1, 0, 3] (by decide), h22⟩⟩
       ·have hb7 := cond_t hc8 hb7
        refine q_cond_t hF rfl hc8 (q_skipc (n_sq (q_seq (q_block (q_seq (q_region ?_))))))
        obtain ⟨e_24, he_24, hb7⟩ := bindS hb7
        obtain ⟨vs25, at25, d25⟩ := h17.at he_24 1 rfl
        obtain rfl : vs25 = [(.int .i64 e_24)] := d25
        refine q_x (v := (elP s17 (t_23.toNat * 1))) hF hS (ex_indexAddr Try.underlying24 sz3 rfl rfl (h17.idx he_24)) rfl rfl fun a hF => q_x (v := (.int .i64 e_24)) hF hS (ex_loadE1 0 Try.underlying3 rfl rfl (at25.at 2 rfl) rfl rfl) rfl rfl fun a hF => q_x (v := (.int .i64 e_24)) hF hS (ex_assign rfl) rfl rfl fun a hF => q_end (n_sq (q_region (q_x (v := s22.v) hF hS (ex_move rfl) rfl rfl fun a hF => q_x (v := s8.v) hF hS (ex_move rfl) rfl rfl fun a hF => q_x (v := (.int .i64 e_24)) hF hS (ex_move rfl) rfl rfl fun a hF => ?_)))
        obtain ⟨e_26, he_26, hb7⟩ := bindS hb7
        obtain ⟨vs27, at27, d27⟩ := h8.at he_26 4 rfl
        obtain ⟨s28, s29, rfl, h28, h29⟩ : ∃ s28 s29 : Sl, vs27 = [(.int .i64 e_26.Level), s28.v, s29.v, (.int .i64 e_26.Sum)] ∧ Rd m5 s28 e_26.Vars ∧ Rd m5 s29 e_26.Where := d27
        refine q_x (v := (elP s8 (e_24.toNat * 4))) hF hS (ex_indexAddr Try.underlying37 sz29 rfl rfl (h8.idx he_26)) rfl rfl fun a hF => q_x (v := (.agg #[(.int .i64 e_26.Level), s28.v, s29.v, (.int .i64 e_26.Sum)])) hF hS (ex_loadEA (us := [(.int .i64 e_26.Level), s28.v, s29.v, (.int .i64 e_26.Sum)]) 0 Try.underlying29 rfl sz29 rfl (at27.at 1 rfl) rfl rfl rfl) rfl rfl fun a hF => q_do rfl fun _ hK => wp_buildSlice' (l := ([e_26] : List impl_Table)) (cells := [(.int .i64 e_26.Level), s28.v, s29.v, (.int .i64 e_26.Sum)]) hF hS Try.underlying37 inf29 rfl rfl (by kernel_rfl) rfl rfl rfl ⟨⟨s28, s29, rfl, h28, h29⟩, rfl⟩ rfl rfl fun a w q30 s30 hF hS h30 _ => hK _ _ ?_
        have hS : St _ _ _ _ [q22, q30, q8, q17, [⟨b9, [s6.v], 26⟩]] := hS.sel [1, 0, 2, 3, 4] (by decide)
        obtain ⟨l_31, hl_31, hb7⟩ := bindS hb7
        refine q_do rfl fun _ hK => wp_append hF hS h22 Try.underlying37 inf29 rfl rfl rfl rfl (h30.vw hS (j := 1) rfl) rfl (by decide) hl_31 rfl fun a w q32 s32 hF hS h32 => hK _ _ (q_x (v := s32.v) hF hS (ex_assign rfl) rfl rfl fun a hF => q_end (n_ib (n_sq (q_region (q_x (v := (.int .i64 (w64 (t_23 + 1)))) hF hS (ex_ibin rfl rfl rfl) rfl rfl fun a hF => q_x (v := (.int .i64 (w64 (t_23 + 1)))) hF hS (ex_move rfl) rfl rfl fun a hF => q_end ?_)))))
        obtain rfl := someI hb7
        exact ⟨rfl, q32, s32, _, _, rfl, hF.sub ⟨rfl, rfl, rfl, rfl, rfl, rfl, rfl, rfl, trivial⟩, hS.mask [true, false, true, true, true], h32⟩
      ·rintro e a w ⟨q34, s34, rfl, hF, hS, h34⟩
       refine x_ib (n_sq ?_)
       refine q_seq (q_region (q_x (v := (.agg #[s6.v])) hF hS (ex_loadA (vs := [s6.v]) 2 0 Try.underlying26 rfl sz26 rfl rfl rfl rfl) rfl rfl fun a hF => q_x (v := s7.v) hF hS (ex_move rfl) rfl rfl fun a hF => q_x (v := s34.v) hF hS (ex_move rfl) rfl rfl fun a hF => q_x (v := s8.v) hF hS (ex_move rfl) rfl rfl fun a hF => ?_))
       obtain ⟨m36, hl36, hv36, hz36⟩ := hS.lend
       obtain ⟨t_35, ht_35, hj5⟩ := bindS hj5
       refine q_call (vs := [(.agg #[s6.v]), s7.v, s34.v, s8.v]) hF hS Try.func12 (by kernel_rfl) rfl rfl rfl (c_impl_CoversPlan t_4.1 t_4.2.1 base_33 t_4.2.2 t_35 ht_35 _ m36 hv36 s6 (h6.mono hl36) s7 (h7.mono hl36) s34 (h34.froz hl36 (hz36 1 _ rfl)) s8 (h8.froz hl36 (hz36 0 _ rfl))) ?_
       rintro a w _ rfl hF hS
       refine q_x (v := (.tuple #[(.bool t_35.1), (.bool t_35.2)])) hF hS (ex_move rfl) rfl rfl fun a hF => q_x (v := (.bool t_35.1)) hF hS (ex_extract rfl rfl) rfl rfl fun a hF => q_x (v := (.bool t_35.2)) hF hS (ex_extract rfl rfl) rfl rfl fun a hF => q_x (v := (.bool t_35.1)) hF hS (ex_assign rfl) rfl rfl fun a hF => q_x (v := (.bool t_35.2)) hF hS (ex_assign rfl) rfl rfl fun a hF => q_end (n_sq (q_seq (q_region (q_x (v := (.agg #[s6.v])) hF hS (ex_loadA (vs := [s6.v]) 2 0 Try.underlying26 rfl sz26 rfl rfl rfl rfl) rfl rfl fun a hF => q_x (v := s7.v) hF hS (ex_move rfl) rfl rfl fun a hF => q_x (v := s8.v) hF hS (ex_move rfl) rfl rfl fun a hF => ?_))))
       obtain ⟨m38, hl38, hv38, hz38⟩ := hS.lend
       obtain ⟨t_37, ht_37, hj5⟩ := bindS hj5
       refine q_call (vs := [(.agg #[s6.v]), s7.v, s8.v]) hF hS Try.func18 (by kernel_rfl) rfl rfl rfl (c_impl_SourcesIn t_4.1 t_4.2.1 t_4.2.2 t_37 ht_37 _ m38 hv38 s6 (h6.mono hl38) s7 (h7.mono hl38) s8 (h8.froz hl38 (hz38 0 _ rfl))) ?_
       rintro a w _ ⟨q40, s40, rfl, hR39, h40⟩ hF hS2
       have hS : St _ _ _ _ [q40, q8, q34, [⟨b9, [s6.v], 26⟩]] := hS.joinF hR39
       have h40 := h40.any m5
       refine q_x (v := (.tuple #[s40.v, (.bool t_37.2)])) hF hS (ex_move rfl) rfl rfl fun a hF => q_x (v := s40.v) hF hS (ex_extract rfl rfl) rfl rfl fun a hF => q_x (v := (.bool t_37.2)) hF hS (ex_extract rfl rfl) rfl rfl fun a hF => q_x (v := s40.v) hF hS (ex_assign rfl) rfl rfl fun a hF => q_x (v := (.bool t_37.2)) hF hS (ex_assign rfl) rfl rfl fun a hF => q_end (n_sq (q_seq (q_region (q_x (v := (.agg #[s6.v])) hF hS (ex_loadA (vs := [s6.v]) 3 0 Try.underlying26 rfl sz26 rfl rfl rfl rfl) rfl rfl fun a hF => q_x (v := s7.v) hF hS (ex_move rfl) rfl rfl fun a hF => q_x (v := s8.v) hF hS (ex_move rfl) rfl rfl fun a hF => ?_))))
       have hS : St _ _ _ _ [q8, q40, q34, [⟨b9, [s6.v], 26⟩]] := hS.sel [1, 0, 2, 3] (by decide)
       obtain ⟨m41, hm41, hS, hz41⟩ := hS.freeze
       have h41 := h8.froz hm41.le hz41
       obtain ⟨t_42, ht_42, hj5⟩ := bindS hj5
       refine q_call (vs := [(.agg #[s6.v]), s7.v, s8.v]) hF hS Try.func19 (by kernel_rfl) rfl rfl rfl (c_spec_SourcesIn t_4.1 t_4.2.1 t_4.2.2 t_42 ht_42 _ m41 hS.vis s6 (h6.mono hm41.le) s7 (h7.mono hm41.le) s8 h41) ?_
       have hT := hS
       rintro a w _ ⟨m43, q44, s44, rfl, hm43, hR43, h44⟩ hF hS2
       have hS : St _ _ _ _ [q44, q40, q34, [⟨b9, [s6.v], 26⟩]] := hS.join hR43 hm43
       have hm43 := MLe.weakX (O0 := []) hT hm43
       refine q_x (v := (.tuple #[s44.v, (.bool t_42.2)])) hF hS (ex_move rfl) rfl rfl fun a hF => q_x (v := s44.v) hF hS (ex_extract rfl rfl) rfl rfl fun a hF => q_x (v := (.bool t_42.2)) hF hS (ex_extract rfl rfl) rfl rfl fun a hF => q_x (v := s44.v) hF hS (ex_assign rfl) rfl rfl fun a hF => q_x (v := (.bool t_42.2)) hF hS (ex_assign rfl) rfl rfl fun a hF => q_end (n_sq (q_seq (q_region (q_x (v := (.agg #[s6.v])) hF hS (ex_loadA (vs := [s6.v]) 3 0 Try.underlying26 rfl sz26 rfl rfl rfl rfl) rfl rfl fun a hF => q_x (v := s7.v) hF hS (ex_move rfl) rfl rfl fun a hF => q_x (v := s8.v) hF hS (ex_move rfl) rfl rfl fun a hF => ?_))))
       obtain ⟨t_45, ht_45, hj5⟩ := bindS hj5
       refine q_call (vs := [(.agg #[s6.v]), s7.v, s8.v]) hF hS Try.func20 (by kernel_rfl) rfl rfl rfl (c_impl_PlanSizes t_4.1 t_4.2.1 t_4.2.2 t_45 ht_45 _ m43 hS.vis s6 ((h6.mono hm41.le).mono hm43.le) s7 ((h7.mono hm41.le).mono hm43.le) s8 (h41.mono hm43.le)) ?_
       rintro a w _ ⟨q47, s47, rfl, hR46, h47⟩ hF hS2
       have hS : St _ _ _ _ [q47, q44, q40, q34, [⟨b9, [s6.v], 26⟩]] := hS.joinF hR46
       refine q_x (v := (.tuple #[s47.v, (.bool t_45.2)])) hF hS (ex_move rfl) rfl rfl fun a hF => q_x (v := s47.v) hF hS (ex_extract rfl rfl) rfl rfl fun a hF => q_x (v := (.bool t_45.2)) hF hS (ex_extract rfl rfl) rfl rfl fun a hF => q_x (v := s47.v) hF hS (ex_assign rfl) rfl rfl fun a hF => q_x (v := (.bool t_45.2)) hF hS (ex_assign rfl) rfl rfl fun a hF => q_end (n_sq (q_seq (q_region (q_x (v := (.agg #[s6.v])) hF hS (ex_loadA (vs := [s6.v]) 4 0 Try.underlying26 rfl sz26 rfl rfl rfl rfl) rfl rfl fun a hF => q_x (v := s7.v) hF hS (ex_move rfl) rfl rfl fun a hF => q_x (v := s8.v) hF hS (ex_move rfl) rfl rfl fun a hF => ?_))))
       obtain ⟨t_48, ht_48, hj5⟩ := bindS hj5
       refine q_call (vs := [(.agg #[s6.v]), s7.v, s8.v]) hF hS Try.func21 (by kernel_rfl) rfl rfl rfl (c_spec_PlanSizes t_4.1 t_4.2.1 t_4.2.2 t_48 ht_48 _ m43 hS.vis s6 ((h6.mono hm41.le).mono hm43.le) s7 ((h7.mono hm41.le).mono hm43.le) s8 (h41.mono hm43.le)) ?_
       rintro a w _ ⟨q50, s50, rfl, hR49, h50⟩ hF hS2
       have hS : St _ _ _ _ [q50, q47, q44, q40, q34, [⟨b9, [s6.v], 26⟩]] := hS.joinF hR49
       refine q_x (v := (.tuple #[s50.v, (.bool t_48.2)])) hF hS (ex_move rfl) rfl rfl fun a hF => q_x (v := s50.v) hF hS (ex_extract rfl rfl) rfl rfl fun a hF => q_x (v := (.bool t_48.2)) hF hS (ex_extract rfl rfl) rfl rfl fun a hF => q_x (v := s50.v) hF hS (ex_assign rfl) rfl rfl fun a hF => q_x (v := (.bool t_48.2)) hF hS (ex_assign rfl) rfl rfl fun a hF => q_end (n_sq (q_seq (q_seq ?_)))
       obtain ⟨t_55, hj9, hj5⟩ := bindS hj5
       refine q_join (fun a w => Fr a 217 [(1, s2.v), (5, (.pointer (some ⟨b9, 0, none⟩))), (6, s7.v), (7, s8.v), (147, (.bool t_55))] ∧ St [] w0 w m43 [[⟨b9, [s6.v], 26⟩]]) ?_ ?_
       ·refine q_region (q_x (v := (.bool t_35.2)) hF hS (ex_move rfl) rfl rfl fun a hF => q_x (v := (.bool (!t_35.2))) hF hS (ex_not rfl) rfl rfl fun a hF => q_x (v := (.bool (!t_35.2))) hF hS (ex_move rfl) rfl rfl fun a hF => ?_)
        rcases bcase (!t_35.2) with hc10 | hc10
        ·have hj9 := cond_f hc10 hj9
         refine q_xg (v := (.bool t_35.1)) hF hS (ex_move rfl) (wanted_t hF rfl rfl rfl hc10) rfl fun a hF => q_xg (v := (.bool (!t_35.1))) hF hS (ex_not rfl) (wanted_t hF rfl rfl rfl hc10) rfl fun a hF => q_x (v := (.bool (!t_35.1))) hF hS (ex_pick_f rfl rfl hc10) rfl rfl fun a hF => q_x (v := (.bool (!t_35.1))) hF hS (ex_move rfl) rfl rfl fun a hF => ?_
         rcases bcase (!t_35.1) with hc11 | hc11
         ·have hj9 := cond_f hc11 hj9
          refine q_xg (v := (.bool t_37.2)) hF hS (ex_move rfl) (wanted_t hF rfl rfl rfl hc11) rfl fun a hF => q_xg (v := (.bool (!t_37.2))) hF hS (ex_not rfl) (wanted_t hF rfl rfl rfl hc11) rfl fun a hF => q_x (v := (.bool (!t_37.2))) hF hS (ex_pick_f rfl rfl hc11) rfl rfl fun a hF => q_x (v := (.bool (!t_37.2))) hF hS (ex_move rfl) rfl rfl fun a hF => ?_
          rcases bcase (!t_37.2) with hc12 | hc12
          ·have hj9 := cond_f hc12 hj9
           refine q_xg (v := s40.v) hF hS (ex_move rfl) (wanted_t hF rfl rfl rfl hc12) rfl fun a hF => q_xg (v := s44.v) hF hS (ex_move rfl) (wanted_t hF rfl rfl rfl hc12) rfl fun a hF => ?_
           obtain ⟨m52, hl52, hv52, hz52⟩ := hS.lend
           obtain ⟨t_51, ht_51, hj9⟩ := bindS hj9
           refine q_callg (vs := [s40.v, s44.v]) hF hS (wanted_t hF rfl rfl rfl hc12) Try.func22 (by kernel_rfl) rfl rfl rfl (c_laws_sameLists t_37.1 t_42.1 t_51 ht_51 _ m52 hv52 s40 (((h40.mono hm41.le).mono hm43.le).froz hl52 (hz52 3 _ rfl)) s44 (h44.froz hl52 (hz52 2 _ rfl))) ?_
           rintro a w _ rfl hF hS
           refine q_xg (v := (.bool (!t_51))) hF hS (ex_not rfl) (wanted_t hF rfl rfl rfl hc12) rfl fun a hF => q_x (v := (.bool (!t_51))) hF hS (ex_pick_f rfl rfl hc12) rfl rfl fun a hF => q_x (v := (.bool (!t_51))) hF hS (ex_move rfl) rfl rfl fun a hF => ?_
           rcases bcase (!t_51) with hc13 | hc13
           ·have hj9 := cond_f hc13 hj9
            refine q_xg (v := (.bool t_45.2)) hF hS (ex_move rfl) (wanted_t hF rfl rfl rfl hc13) rfl fun a hF => q_xg (v := (.bool (!t_45.2))) hF hS (ex_not rfl) (wanted_t hF rfl rfl rfl hc13) rfl fun a hF => q_x (v := (.bool (!t_45.2))) hF hS (ex_pick_f rfl rfl hc13) rfl rfl fun a hF => q_x (v := (.bool (!t_45.2))) hF hS (ex_move rfl) rfl rfl fun a hF => ?_
            rcases bcase (!t_45.2) with hc14 | hc14
            ·have hj9 := cond_f hc14 hj9
             refine q_xg (v := s47.v) hF hS (ex_move rfl) (wanted_t hF rfl rfl rfl hc14) rfl fun a hF => q_xg (v := s50.v) hF hS (ex_move rfl) (wanted_t hF rfl rfl rfl hc14) rfl fun a hF => ?_
             obtain ⟨m54, hl54, hv54, hz54⟩ := hS.lend
             obtain ⟨t_53, ht_53, hj9⟩ := bindS hj9
             refine q_callg (vs := [s47.v, s50.v]) hF hS (wanted_t hF rfl rfl rfl hc14) Try.func17 (by kernel_rfl) rfl rfl rfl (c_laws_sameInts t_45.1 t_48.1 t_53 ht_53 _ m54 hv54 s47 (h47.froz hl54 (hz54 1 _ rfl)) s50 (h50.froz hl54 (hz54 0 _ rfl))) ?_
             rintro a w _ rfl hF hS
             refine q_xg (v := (.bool (!t_53))) hF hS (ex_not rfl) (wanted_t hF rfl rfl rfl hc14) rfl fun a hF => q_x (v := (.bool (!t_53))) hF hS (ex_pick_f rfl rfl hc14) rfl rfl fun a hF => q_end (n_jn ?_)
             obtain rfl := someI hj9
             exact ⟨hF.sub ⟨rfl, rfl, rfl, rfl, rfl, trivial⟩, hS.mask [false, false, false, false, false, true]⟩
            ·have hj9 := cond_t hc14 hj9
             refine q_skip hF (wanted_f hF rfl rfl rfl hc14 rfl) rfl fun a hF => q_skip hF (wanted_f hF rfl rfl rfl hc14 rfl) rfl fun a hF => q_skip hF (wanted_f hF rfl rfl rfl hc14 rfl) rfl fun a hF => q_skip hF (wanted_f hF rfl rfl rfl hc14 rfl) rfl fun a hF => q_x (v := (.bool true)) hF hS (ex_pick_t rfl rfl hc14) rfl rfl fun a hF => q_end (n_jn ?_)
             obtain rfl := someI hj9
             exact ⟨hF.sub ⟨rfl, rfl, rfl, rfl, rfl, trivial⟩, hS.mask [false, false, false, false, false, true]⟩
           ·have hj9 := cond_t hc13 hj9
            refine q_skip hF (wanted_f hF rfl rfl rfl hc13 rfl) rfl fun a hF => q_skip hF (wanted_f hF rfl rfl rfl hc13 rfl) rfl fun a hF => q_x (v := (.bool true)) hF hS (ex_pick_t rfl rfl hc13) rfl rfl fun a hF => q_x (v := (.bool true)) hF hS (ex_move rfl) rfl rfl fun a hF => q_skip hF (wanted_f hF rfl rfl rfl rfl rfl) rfl fun a hF => q_skip hF (wanted_f hF rfl rfl rfl rfl rfl) rfl fun a hF => q_skip hF (wanted_f hF rfl rfl rfl rfl rfl) rfl fun a hF => q_skip hF (wanted_f hF rfl rfl rfl rfl rfl) rfl fun a hF => q_x (v := (.bool true)) hF hS (ex_pick_t rfl rfl rfl) rfl rfl fun a hF => q_end (n_jn ?_)
            obtain rfl := someI hj9
            exact ⟨hF.sub ⟨rfl, rfl, rfl, rfl, rfl, trivial⟩, hS.mask [false, false, false, false, false, true]⟩
          ·have hj9 := cond_t hc12 hj9
           refine q_skip hF (wanted_f hF rfl rfl rfl hc12 rfl) rfl fun a hF => q_skip hF (wanted_f hF rfl rfl rfl hc12 rfl) rfl fun a hF => q_skip hF (wanted_f hF rfl rfl rfl hc12 rfl) rfl fun a hF => q_skip hF (wanted_f hF rfl rfl rfl hc12 rfl) rfl fun a hF => q_x (v := (.bool true)) hF hS (ex_pick_t rfl rfl hc12) rfl rfl fun a hF => q_x (v := (.bool true)) hF hS (ex_move rfl) rfl rfl fun a hF => q_skip hF (wanted_f hF rfl rfl rfl rfl rfl) rfl fun a hF => q_skip hF (wanted_f hF rfl rfl rfl rfl rfl) rfl fun a hF => q_x (v := (.bool true)) hF hS (ex_pick_t rfl rfl rfl) rfl rfl fun a hF => q_x (v := (.bool true)) hF hS (ex_move rfl) rfl rfl fun a hF => q_skip hF (wanted_f hF rfl rfl rfl rfl rfl) rfl fun a hF => q_skip hF (wanted_f hF rfl rfl rfl rfl rfl) rfl fun a hF => q_skip hF (wanted_f hF rfl rfl rfl rfl rfl) rfl fun a hF => q_skip hF (wanted_f hF rfl rfl rfl rfl rfl) rfl fun a hF => q_x (v := (.bool true)) hF hS (ex_pick_t rfl rfl rfl) rfl rfl fun a hF => q_end (n_jn ?_)
           obtain rfl := someI hj9
           exact ⟨hF.sub ⟨rfl, rfl, rfl, rfl, rfl, trivial⟩, hS.mask [false, false, false, false, false, true]⟩
         ·have hj9 := cond_t hc11 hj9
          refine q_skip hF (wanted_f hF rfl rfl rfl hc11 rfl) rfl fun a hF => q_skip hF (wanted_f hF rfl rfl rfl hc11 rfl) rfl fun a hF => q_x (v := (.bool true)) hF hS (ex_pick_t rfl rfl hc11) rfl rfl fun a hF => q_x (v := (.bool true)) hF hS (ex_move rfl) rfl rfl fun a hF => q_skip hF (wanted_f hF rfl rfl rfl rfl rfl) rfl fun a hF => q_skip hF (wanted_f hF rfl rfl rfl rfl rfl) rfl fun a hF => q_skip hF (wanted_f hF rfl rfl rfl rfl rfl) rfl fun a hF => q_skip hF (wanted_f hF rfl rfl rfl rfl rfl) rfl fun a hF => q_x (v := (.bool true)) hF hS (ex_pick_t rfl rfl rfl) rfl rfl fun a hF => q_x (v := (.bool true)) hF hS (ex_move rfl) rfl rfl fun a hF => q_skip hF (wanted_f hF rfl rfl rfl rfl rfl) rfl fun a hF => q_skip hF (wanted_f hF rfl rfl rfl rfl rfl) rfl fun a hF => q_x (v := (.bool true)) hF hS (ex_pick_t rfl rfl rfl) rfl rfl fun a hF => q_x (v := (.bool true)) hF hS (ex_move rfl) rfl rfl fun a hF => q_skip hF (wanted_f hF rfl rfl rfl rfl rfl) rfl fun a hF => q_skip hF (wanted_f hF rfl rfl rfl rfl rfl) rfl fun a hF => q_skip hF (wanted_f hF rfl rfl rfl rfl rfl) rfl fun a hF => q_skip hF (wanted_f hF rfl rfl rfl rfl rfl) rfl fun a hF => q_x (v := (.bool true)) hF hS (ex_pick_t rfl rfl rfl) rfl rfl fun a hF => q_end (n_jn ?_)
          obtain rfl := someI hj9
          exact ⟨hF.sub ⟨rfl, rfl, rfl, rfl, rfl, trivial⟩, hS.mask [false, false, false, false, false, true]⟩
        ·have hj9 := cond_t hc10 hj9
         refine q_skip hF (wanted_f hF rfl rfl rfl hc10 rfl) rfl fun a hF => q_skip hF (wanted_f hF rfl rfl rfl hc10 rfl) rfl fun a hF => q_x (v := (.bool true)) hF hS (ex_pick_t rfl rfl hc10) rfl rfl fun a hF => q_x (v := (.bool true)) hF hS (ex_move rfl) rfl rfl fun a hF => q_skip hF (wanted_f hF rfl rfl rfl rfl rfl) rfl fun a hF => q_skip hF (wanted_f hF rfl rfl rfl rfl rfl) rfl fun a hF => q_x (v := (.bool true)) hF hS (ex_pick_t rfl rfl rfl) rfl rfl fun a hF => q_x (v := (.bool true)) hF hS (ex_move rfl) rfl rfl fun a hF => q_skip hF (wanted_f hF rfl rfl rfl rfl rfl) rfl fun a hF => q_skip hF (wanted_f hF rfl rfl rfl rfl rfl) rfl fun a hF => q_skip hF (wanted_f hF rfl rfl rfl rfl rfl) rfl fun a hF => q_skip hF (wanted_f hF rfl rfl rfl rfl rfl) rfl fun a hF => q_x (v := (.bool true)) hF hS (ex_pick_t rfl rfl rfl) rfl rfl fun a hF => q_x (v := (.bool true)) hF hS (ex_move rfl) rfl rfl fun a hF => q_skip hF (wanted_f hF rfl rfl rfl rfl rfl) rfl fun a hF => q_skip hF (wanted_f hF rfl rfl rfl rfl rfl) rfl fun a hF => q_x (v := (.bool true)) hF hS (ex_pick_t rfl rfl rfl) rfl rfl fun a hF => q_x (v := (.bool true)) hF hS (ex_move rfl) rfl rfl fun a hF => q_skip hF (wanted_f hF rfl rfl rfl rfl rfl) rfl fun a hF => q_skip hF (wanted_f hF rfl rfl rfl rfl rfl) rfl fun a hF => q_skip hF (wanted_f hF rfl rfl rfl rfl rfl) rfl fun a hF => q_skip hF (wanted_f hF rfl rfl rfl rfl rfl) rfl fun a hF => q_x (v := (.bool true)) hF hS (ex_pick_t rfl rfl rfl) rfl rfl fun a hF => q_end (n_jn ?_)
         obtain rfl := someI hj9
         exact ⟨hF.sub ⟨rfl, rfl, rfl, rfl, rfl, trivial⟩, hS.mask [false, false, false, false, false, true]⟩
       ·rintro a w ⟨hF, hS⟩
        refine n_sq ?_
        rcases bcase (t_55) with hc15 | hc15
        ·have hj5 := cond_f hc15 hj5
         refine q_cond_f hF rfl hc15 (q_skipc (n_sq (q_seq (q_region (q_x (v := (.agg #[s6.v])) hF hS (ex_loadA (vs := [s6.v]) 0 0 Try.underlying26 rfl sz26 rfl rfl rfl rfl) rfl rfl fun a hF => q_x (v := s7.v) hF hS (ex_move rfl) rfl rfl fun a hF => q_x (v := s8.v) hF hS (ex_move rfl) rfl rfl fun a hF => ?_)))))
         obtain ⟨t_56, ht_56, hj5⟩ := bindS hj5
         refine q_call (vs := [(.agg #[s6.v]), s7.v, s8.v]) hF hS Try.func23 (by kernel_rfl) rfl rfl rfl (c_impl_LongestChain t_4.1 t_4.2.1 t_4.2.2 t_56 ht_56 _ m43 hS.vis s6 ((h6.mono hm41.le).mono hm43.le) s7 ((h7.mono hm41.le).mono hm43.le) s8 (h41.mono hm43.le)) ?_
         have hT := hS
         rintro a w _ ⟨m57, q58, s58, rfl, hm57, hR57, h58⟩ hF hS2
         have hS : St _ _ _ _ [q58, [⟨b9, [s6.v], 26⟩]] := hS.join hR57 hm57
         have hm57 := MLe.weakX (O0 := []) hT hm57
         refine q_x (v := (.tuple #[s58.v, (.bool t_56.2)])) hF hS (ex_move rfl) rfl rfl fun a hF => q_x (v := s58.v) hF hS (ex_extract rfl rfl) rfl rfl fun a hF => q_x (v := (.bool t_56.2)) hF hS (ex_extract rfl rfl) rfl rfl fun a hF => q_x (v := s58.v) hF hS (ex_assign rfl) rfl rfl fun a hF => q_x (v := (.bool t_56.2)) hF hS (ex_assign rfl) rfl rfl fun a hF => q_end (n_sq (q_seq (q_region (q_x (v := (.agg #[s6.v])) hF hS (ex_loadA (vs := [s6.v]) 1 0 Try.underlying26 rfl sz26 rfl rfl rfl rfl) rfl rfl fun a hF => q_x (v := s7.v) hF hS (ex_move rfl) rfl rfl fun a hF => q_x (v := s8.v) hF hS (ex_move rfl) rfl rfl fun a hF => ?_))))
         obtain ⟨t_59, ht_59, hj5⟩ := bindS hj5
         refine q_call (vs := [(.agg #[s6.v]), s7.v, s8.v]) hF hS Try.func24 (by kernel_rfl) rfl rfl rfl (c_spec_LongestChain t_4.1 t_4.2.1 t_4.2.2 t_59 ht_59 _ m57 hS.vis s6 (((h6.mono hm41.le).mono hm43.le).mono hm57.le) s7 (((h7.mono hm41.le).mono hm43.le).mono hm57.le) s8 ((h41.mono hm43.le).mono hm57.le)) ?_
         rintro a w _ ⟨q61, s61, rfl, hR60, h61⟩ hF hS2
         have hS : St _ _ _ _ [q61, q58, [⟨b9, [s6.v], 26⟩]] := hS.joinF hR60
         refine q_x (v := (.tuple #[s61.v, (.bool t_59.2)])) hF hS (ex_move rfl) rfl rfl fun a hF => q_x (v := s61.v) hF hS (ex_extract rfl rfl) rfl rfl fun a hF => q_x (v := (.bool t_59.2)) hF hS (ex_extract rfl rfl) rfl rfl fun a hF => q_x (v := s61.v) hF hS (ex_assign rfl) rfl rfl fun a hF => q_x (v := (.bool t_59.2)) hF hS (ex_assign rfl) rfl rfl fun a hF => q_end (n_sq (q_seq ?_))
         obtain ⟨t_64, hj16, hj5⟩ := bindS hj5
         refine q_join (fun a w => Fr a 217 [(1, s2.v), (169, (.bool t_64))] ∧ St [] w0 w m57 []) ?_ ?_
         ·refine q_region (q_x (v := (.bool t_56.2)) hF hS (ex_move rfl) rfl rfl fun a hF => q_x (v := (.bool (!t_56.2))) hF hS (ex_not rfl) rfl rfl fun a hF => q_x (v := (.bool (!t_56.2))) hF hS (ex_move rfl) rfl rfl fun a hF => ?_)
          rcases bcase (!t_56.2) with hc17 | hc17
          ·have hj16 := cond_f hc17 hj16
           refine q_xg (v := s58.v) hF hS (ex_move rfl) (wanted_t hF rfl rfl rfl hc17) rfl fun a hF => q_xg (v := s61.v) hF hS (ex_move rfl) (wanted_t hF rfl rfl rfl hc17) rfl fun a hF => ?_
           obtain ⟨m63, hl63, hv63, hz63⟩ := hS.lend
           obtain ⟨t_62, ht_62, hj16⟩ := bindS hj16
           refine q_callg (vs := [s58.v, s61.v]) hF hS (wanted_t hF rfl rfl rfl hc17) Try.func17 (by kernel_rfl) rfl rfl rfl (c_laws_sameInts t_56.1 t_59.1 t_62 ht_62 _ m63 hv63 s58 (h58.froz hl63 (hz63 1 _ rfl)) s61 (h61.froz hl63 (hz63 0 _ rfl))) ?_
           rintro a w _ rfl hF hS
           refine q_xg (v := (.bool (!t_62))) hF hS (ex_not rfl) (wanted_t hF rfl rfl rfl hc17) rfl fun a hF => q_x (v := (.bool (!t_62))) hF hS (ex_pick_f rfl rfl hc17) rfl rfl fun a hF => q_end (n_jn ?_)
           obtain rfl := someI hj16
           exact ⟨hF.sub ⟨rfl, rfl, trivial⟩, hS.mask [false, false, false]⟩
          ·have hj16 := cond_t hc17 hj16
           refine q_skip hF (wanted_f hF rfl rfl rfl hc17 rfl) rfl fun a hF => q_skip hF (wanted_f hF rfl rfl rfl hc17 rfl) rfl fun a hF => q_skip hF (wanted_f hF rfl rfl rfl hc17 rfl) rfl fun a hF => q_skip hF (wanted_f hF rfl rfl rfl hc17 rfl) rfl fun a hF => q_x (v := (.bool true)) hF hS (ex_pick_t rfl rfl hc17) rfl rfl fun a hF => q_end (n_jn ?_)
           obtain rfl := someI hj16
           exact ⟨hF.sub ⟨rfl, rfl, trivial⟩, hS.mask [false, false, false]⟩
         ·rintro a w ⟨hF, hS⟩
          refine n_sq ?_
          rcases bcase (t_64) with hc18 | hc18
          ·have hj5 := cond_f hc18 hj5
           refine q_cond_f hF rfl hc18 (q_skipc (n_jn ?_))
           obtain rfl := someI hj5
           exact ⟨m57, rfl, hF.sub ⟨rfl, trivial⟩, hS, ((hm41.trans hm43).trans hm57)⟩
          ·have hj5 := cond_t hc18 hj5
           refine q_cond_t hF rfl hc18 (q_seq (q_region (q_x (v := (.bool false)) hF hS (ex_assign rfl) rfl rfl fun a hF => q_end (n_sq (q_ret (r_jn ?_))))))
           obtain rfl := someI hj5
           refine r_sq ?_
           obtain rfl := someI hr
           exact ret_of hF hS rfl (.tmp rfl .nil) rfl
        ·have hj5 := cond_t hc15 hj5
         refine q_cond_t hF rfl hc15 (q_seq (q_region (q_x (v := (.bool false)) hF hS (ex_assign rfl) rfl rfl fun a hF => q_end (n_sq (q_ret (r_sq (r_jn ?_)))))))
         obtain rfl := someI hj5
         refine r_sq ?_
         obtain rfl := someI hr
         exact ret_of hF hS rfl (.tmp rfl .nil) rfl
    ·rintro a w ⟨m65, rfl, hF, hS, hm65⟩
     refine n_sq ?_
     refine q_seq (q_region (q_x (v := s2.v) hF hS (ex_move rfl) rfl rfl fun a hF => ?_))
     obtain ⟨t_66, ht_66, hr⟩ := bindS hr
     refine q_call (vs := [s2.v]) hF hS Try.func25 (by kernel_rfl) rfl rfl rfl (c_spec_DrawCheapestSource p_more t_66 ht_66 _ m65 hS.vis s2 ((h2.mono hm5.le).mono hm65.le)) ?_
     have hT := hS
     rintro a w _ ⟨m67, q70, q71, q72, s68, s69, s70, s71, s72, rfl, hm67, hR67, h68, h69, h70, h71, h72⟩ hF hS2
     have hS : St _ _ _ _ [q70, q71, q72] := hS.join hR67 hm67
     have hm67 := MLe.weakX (O0 := []) hT hm67
     refine q_x (v := (.tuple #[(.agg #[s68.v]), s69.v, s70.v, (.agg #[(.int .i64 t_66.2.2.2.Level), s71.v, s72.v, (.int .i64 t_66.2.2.2.Sum)])])) hF hS (ex_move rfl) rfl rfl fun a hF => q_x (v := (.agg #[s68.v])) hF hS (ex_extract rfl rfl) rfl rfl fun a hF => q_x (v := s69.v) hF hS (ex_extract rfl rfl) rfl rfl fun a hF => q_x (v := s70.v) hF hS (ex_extract rfl rfl) rfl rfl fun a hF => q_x (v := (.agg #[(.int .i64 t_66.2.2.2.Level), s71.v, s72.v, (.int .i64 t_66.2.2.2.Sum)])) hF hS (ex_extract rfl rfl) rfl rfl fun a hF => q_alloc (cs := [nilS.v]) hF hS rfl rfl rfl fun a w b73 hF hS => q_alloc (cs := [(.int .i64 0), nilS.v, nilS.v, (.int .i64 0)]) hF hS rfl rfl rfl fun a w b74 hF hS => q_store (vs := [s68.v]) (cs' := [s68.v]) 1 0 hF hS sz26 rfl rfl rfl rfl rfl rfl rfl rfl fun a w hF hS => q_x (v := s69.v) hF hS (ex_assign rfl) rfl rfl fun a hF => q_x (v := s70.v) hF hS (ex_assign rfl) rfl rfl fun a hF => q_store (vs := [(.int .i64 t_66.2.2.2.Level), s71.v, s72.v, (.int .i64 t_66.2.2.2.Sum)]) (cs' := [(.int .i64 t_66.2.2.2.Level), s71.v, s72.v, (.int .i64 t_66.2.2.2.Sum)]) 0 0 hF hS sz29 rfl rfl rfl rfl rfl rfl rfl rfl fun a w hF hS => q_end (n_sq (q_seq (q_region (q_x (v := (.agg #[s68.v])) hF hS (ex_loadA (vs := [s68.v]) 1 0 Try.underlying26 rfl sz26 rfl rfl rfl rfl) rfl rfl fun a hF => q_x (v := s69.v) hF hS (ex_move rfl) rfl rfl fun a hF => q_x (v := s70.v) hF hS (ex_move rfl) rfl rfl fun a hF => q_x (v := (.agg #[(.int .i64 t_66.2.2.2.Level), s71.v, s72.v, (.int .i64 t_66.2.2.2.Sum)])) hF hS (ex_loadA (vs := [(.int .i64 t_66.2.2.2.Level), s71.v, s72.v, (.int .i64 t_66.2.2.2.Sum)]) 0 0 Try.underlying29 rfl sz29 rfl rfl rfl rfl) rfl rfl fun a hF => ?_))))
     obtain ⟨m76, hl76, hv76, hz76⟩ := hS.lend
     obtain ⟨t_75, ht_75, hr⟩ := bindS hr
     refine q_call (vs := [(.agg #[s68.v]), s69.v, s70.v, (.agg #[(.int .i64 t_66.2.2.2.Level), s71.v, s72.v, (.int .i64 t_66.2.2.2.Sum)])]) hF hS Try.func26 (by kernel_rfl) rfl rfl rfl (c_impl_CheapestSource t_66.1 t_66.2.1 t_66.2.2.1 t_66.2.2.2 t_75 ht_75 _ m76 hv76 s68 (h68.mono hl76) s69 (h69.mono hl76) s70 (h70.froz hl76 (hz76 2 _ rfl)) s71 (h71.froz hl76 (hz76 3 _ rfl)) s72 (h72.froz hl76 (hz76 4 _ rfl))) ?_
     rintro a w _ rfl hF hS
     refine q_x (v := (.tuple #[(.int .i64 t_75.1), (.bool t_75.2)])) hF hS (ex_move rfl) rfl rfl fun a hF => q_x (v := (.int .i64 t_75.1)) hF hS (ex_extract rfl rfl) rfl rfl fun a hF => q_x (v := (.bool t_75.2)) hF hS (ex_extract rfl rfl) rfl rfl fun a hF => q_x (v := (.int .i64 t_75.1)) hF hS (ex_assign rfl) rfl rfl fun a hF => q_x (v := (.bool t_75.2)) hF hS (ex_assign rfl) rfl rfl fun a hF => q_end (n_sq (q_seq (q_region (q_x (v := (.agg #[s68.v])) hF hS (ex_loadA (vs := [s68.v]) 1 0 Try.underlying26 rfl sz26 rfl rfl rfl rfl) rfl rfl fun a hF => q_x (v := s69.v) hF hS (ex_move rfl) rfl rfl fun a hF => q_x (v := s70.v) hF hS (ex_move rfl) rfl rfl fun a hF => q_x (v := (.agg #[(.int .i64 t_66.2.2.2.Level), s71.v, s72.v, (.int .i64 t_66.2.2.2.Sum)])) hF hS (ex_loadA (vs := [(.int .i64 t_66.2.2.2.Level), s71.v, s72.v, (.int .i64 t_66.2.2.2.Sum)]) 0 0 Try.underlying29 rfl sz29 rfl rfl rfl rfl) rfl rfl fun a hF => ?_))))
     obtain ⟨m78, hl78, hv78, hz78⟩ := hS.lend
     obtain ⟨t_77, ht_77, hr⟩ := bindS hr
     refine q_call (vs := [(.agg #[s68.v]), s69.v, s70.v, (.agg #[(.int .i64 t_66.2.2.2.Level), s71.v, s72.v, (.int .i64 t_66.2.2.2.Sum)])]) hF hS Try.func27 (by kernel_rfl) rfl rfl rfl (c_spec_CheapestSource t_66.1 t_66.2.1 t_66.2.2.1 t_66.2.2.2 t_77 ht_77 _ m78 hv78 s68 (h68.mono hl78) s69 (h69.mono hl78) s70 (h70.froz hl78 (hz78 2 _ rfl)) s71 (h71.froz hl78 (hz78 3 _ rfl)) s72 (h72.froz hl78 (hz78 4 _ rfl))) ?_
     rintro a w _ rfl hF hS
     refine q_x (v := (.tuple #[(.int .i64 t_77.1), (.bool t_77.2)])) hF hS (ex_move rfl) rfl rfl fun a hF => q_x (v := (.int .i64 t_77.1)) hF hS (ex_extract rfl rfl) rfl rfl fun a hF => q_x (v := (.bool t_77.2)) hF hS (ex_extract rfl rfl) rfl rfl fun a hF => q_x (v := (.int .i64 t_77.1)) hF hS (ex_assign rfl) rfl rfl fun a hF => q_x (v := (.bool t_77.2)) hF hS (ex_assign rfl) rfl rfl fun a hF => q_end (n_sq (q_seq (q_seq ?_)))
     obtain ⟨t_79, hj19, hr⟩ := bindS hr
     refine q_join (fun a w => Fr a 217 [(29, (.pointer (some ⟨b73, 0, none⟩))), (30, s69.v), (31, s70.v), (32, (.pointer (some ⟨b74, 0, none⟩))), (34, (.bool t_75.2)), (35, (.int .i64 t_77.1)), (200, (.bool t_79))] ∧ St [] w0 w m67 [q70, q71, q72, [⟨b74, [(.int .i64 t_66.2.2.2.Level), s71.v, s72.v, (.int .i64 t_66.2.2.2.Sum)], 29⟩], [⟨b73, [s68.v], 26⟩]]) ?_ ?_
     ·refine q_region (q_x (v := (.bool t_75.2)) hF hS (ex_move rfl) rfl rfl fun a hF => q_x (v := (.bool t_77.2)) hF hS (ex_move rfl) rfl rfl fun a hF => q_x (v := (.bool (t_75.2 != t_77.2))) hF hS (ex_bne Try.underlying4 rfl rfl) rfl rfl fun a hF => q_x (v := (.bool (t_75.2 != t_77.2))) hF hS (ex_move rfl) rfl rfl fun a hF => ?_)
      rcases bcase (t_75.2 != t_77.2) with hc20 | hc20
      ·have hj19 := cond_f hc20 hj19
       refine q_xg (v := (.int .i64 t_75.1)) hF hS (ex_move rfl) (wanted_t hF rfl rfl rfl hc20) rfl fun a hF => q_xg (v := (.int .i64 t_77.1)) hF hS (ex_move rfl) (wanted_t hF rfl rfl rfl hc20) rfl fun a hF => q_xg (v := (.bool (t_75.1 != t_77.1))) hF hS (ex_ibin rfl rfl rfl) (wanted_t hF rfl rfl rfl hc20) rfl fun a hF => q_x (v := (.bool (t_75.1 != t_77.1))) hF hS (ex_pick_f rfl rfl hc20) rfl rfl fun a hF => q_end (n_jn ?_)
       obtain rfl := someI hj19
       exact ⟨hF.sub ⟨rfl, rfl, rfl, rfl, rfl, rfl, rfl, trivial⟩, hS.sel [2, 3, 4, 0, 1] (by decide)⟩
      ·have hj19 := cond_t hc20 hj19
       refine q_skip hF (wanted_f hF rfl rfl rfl hc20 rfl) rfl fun a hF => q_skip hF (wanted_f hF rfl rfl rfl hc20 rfl) rfl fun a hF => q_skip hF (wanted_f hF rfl rfl rfl hc20 rfl) rfl fun a hF => q_x (v := (.bool true)) hF hS (ex_pick_t rfl rfl hc20) rfl rfl fun a hF => q_end (n_jn ?_)
       obtain rfl := someI hj19
       exact ⟨hF.sub ⟨rfl, rfl, rfl, rfl, rfl, rfl, rfl, trivial⟩, hS.sel [2, 3, 4, 0, 1] (by decide)⟩
     ·rintro a w ⟨hF, hS⟩
      refine n_sq ?_
      rcases bcase (t_79) with hc21 | hc21
      ·have hr := cond_f hc21 hr
       refine q_cond_f hF rfl hc21 (q_skipc (n_sq (q_seq (q_seq (q_region (q_x (v := (.bool t_75.2)) hF hS (ex_move rfl) rfl rfl fun a hF => q_end (n_sq ?_)))))))
       rcases bcase (t_75.2) with hc22 | hc22
       ·have hr := cond_f hc22 hr
        refine q_cond_f hF rfl hc22 (q_skipc (n_sq (q_seq (q_region (q_x (v := (.bool true)) hF hS (ex_assign rfl) rfl rfl fun a hF => q_end (n_sq (q_ret ?_)))))))
        obtain rfl := someI hr
        exact ret_of hF hS rfl (.tmp rfl .nil) rfl
       ·have hr := cond_t hc22 hr
        refine q_cond_t hF rfl hc22 (q_seq (e_region ⟨[], []⟩ mixed fun w' hw' => ?_))
        have hS := hS.below hw'
        refine e_x (v := (.agg #[s68.v])) 0 hF hS rfl (ex_loadA (vs := [s68.v]) 4 0 Try.underlying26 rfl sz26 rfl rfl rfl rfl) rfl rfl (by kernel_rfl) (by kernel_rfl) (by kernel_rfl) (by kernel_rfl) fun a hF => e_p (v := s69.v) 1 hF rfl (ex_move rfl) rfl rfl (by kernel_rfl) (by kernel_rfl) (by kernel_rfl) fun a hF => e_x (v := (.agg #[(.int .i64 t_66.2.2.2.Level), s71.v, s72.v, (.int .i64 t_66.2.2.2.Sum)])) 2 hF hS rfl (ex_loadA (vs := [(.int .i64 t_66.2.2.2.Level), s71.v, s72.v, (.int .i64 t_66.2.2.2.Sum)]) 3 0 Try.underlying29 rfl sz29 rfl rfl rfl rfl) rfl rfl (by kernel_rfl) (by kernel_rfl) (by kernel_rfl) (by kernel_rfl) fun a hF => e_p (v := s70.v) 3 hF rfl (ex_move rfl) rfl rfl (by kernel_rfl) (by kernel_rfl) (by kernel_rfl) fun a hF => e_p (v := (.int .i64 t_77.1)) 4 hF rfl (ex_move rfl) rfl rfl (by kernel_rfl) (by kernel_rfl) (by kernel_rfl) fun a hF => ?_
        obtain ⟨e_80, he_80, hr⟩ := bindS hr
        obtain ⟨vs81, at81, d81⟩ := h70.at he_80 4 rfl
        obtain ⟨s82, s83, rfl, h82, h83⟩ : ∃ s82 s83 : Sl, vs81 = [(.int .i64 e_80.Level), s82.v, s83.v, (.int .i64 e_80.Sum)] ∧ Rd m67 s82 e_80.Vars ∧ Rd m67 s83 e_80.Where := d81
        refine e_p (v := (elP s70 (t_77.1.toNat * 4))) 5 hF rfl (ex_indexAddr Try.underlying37 sz29 rfl rfl (h70.idx he_80)) rfl rfl (by kernel_rfl) (by kernel_rfl) (by kernel_rfl) fun a hF => e_x (v := (.agg #[(.int .i64 e_80.Level), s82.v, s83.v, (.int .i64 e_80.Sum)])) 6 hF hS rfl (ex_loadEA (us := [(.int .i64 e_80.Level), s82.v, s83.v, (.int .i64 e_80.Sum)]) 0 Try.underlying29 rfl sz29 rfl (at81.at 0 rfl) rfl rfl rfl) rfl rfl (by kernel_rfl) (by kernel_rfl) (by kernel_rfl) (by kernel_rfl) fun a hF => e_one 7 (by kernel_rfl) ?_
        obtain ⟨m85, hl85, hv85, hz85⟩ := hS.lend
        obtain ⟨t_84, ht_84, hr⟩ := bindS hr
        refine e_call (vs := [(.agg #[s68.v]), s69.v, (.agg #[(.int .i64 t_66.2.2.2.Level), s71.v, s72.v, (.int .i64 t_66.2.2.2.Sum)]), (.agg #[(.int .i64 e_80.Level), s82.v, s83.v, (.int .i64 e_80.Sum)])]) hF hS rfl Try.func10 (by kernel_rfl) rfl rfl rfl (c_impl_FollowsFrom t_66.1 t_66.2.1 t_66.2.2.2 e_80 t_84 ht_84 _ m85 hv85 s68 (h68.mono hl85) s69 (h69.mono hl85) s71 (h71.froz hl85 (hz85 1 _ rfl)) s72 (h72.froz hl85 (hz85 2 _ rfl)) s82 (h82.mono hl85) s83 (h83.mono hl85)) ?_
        rintro a w _ rfl hF hS
        refine e_p (v := (.tuple #[(.bool t_84.1), (.bool t_84.2)])) 8 hF rfl (ex_move rfl) rfl rfl (by kernel_rfl) (by kernel_rfl) (by kernel_rfl) fun a hF => e_p (v := (.bool t_84.1)) 9 hF rfl (ex_extract rfl rfl) rfl rfl (by kernel_rfl) (by kernel_rfl) (by kernel_rfl) fun a hF => e_p (v := (.bool t_84.2)) 10 hF rfl (ex_extract rfl rfl) rfl rfl (by kernel_rfl) (by kernel_rfl) (by kernel_rfl) fun a hF => e_p (v := (.bool t_84.1)) 11 hF rfl (ex_assign rfl) rfl rfl (by kernel_rfl) (by kernel_rfl) (by kernel_rfl) fun a hF => e_p (v := (.bool t_84.2)) 12 hF rfl (ex_assign rfl) rfl rfl (by kernel_rfl) (by kernel_rfl) (by kernel_rfl) fun a hF => e_end (by kernel_rfl) (n_sq ?_) _
        refine q_seq ?_
        obtain ⟨t_86, hj23, hr⟩ := bindS hr
        refine q_join (fun a w => Fr a 217 [(4, (.bool t_86))] ∧ St [] w0 w m67 []) ?_ ?_
        ·refine q_region (q_x (v := (.bool t_84.2)) hF hS (ex_move rfl) rfl rfl fun a hF => q_x (v := (.bool t_84.2)) hF hS (ex_move rfl) rfl rfl fun a hF => ?_)
         rcases bcase (t_84.2) with hc24 | hc24
         ·have hj23 := cond_f hc24 hj23
          refine q_skip hF (wanted_f hF rfl rfl rfl hc24 rfl) rfl fun a hF => q_x (v := (.bool false)) hF hS (ex_pick_f rfl rfl hc24) rfl rfl fun a hF => q_x (v := (.bool false)) hF hS (ex_assign rfl) rfl rfl fun a hF => q_end (n_jn ?_)
          obtain rfl := someI hj23
          exact ⟨hF.sub ⟨rfl, trivial⟩, hS.mask [false, false, false, false, false]⟩
         ·have hj23 := cond_t hc24 hj23
          refine q_xg (v := (.bool t_84.1)) hF hS (ex_move rfl) (wanted_t hF rfl rfl rfl hc24) rfl fun a hF => q_x (v := (.bool t_84.1)) hF hS (ex_pick_t rfl rfl hc24) rfl rfl fun a hF => q_x (v := (.bool t_84.1)) hF hS (ex_assign rfl) rfl rfl fun a hF => q_end (n_jn ?_)
          obtain rfl := someI hj23
          exact ⟨hF.sub ⟨rfl, trivial⟩, hS.mask [false, false, false, false, false]⟩
        ·rintro a w ⟨hF, hS⟩
         refine n_sq (q_ret (r_sq ?_))
         obtain rfl := someI hr
         exact ret_of hF hS rfl (.tmp rfl .nil) rfl
      ·have hr := cond_t hc21 hr
       refine q_cond_t hF rfl hc21 (q_seq (q_region (q_x (v := (.bool false)) hF hS (ex_assign rfl) rfl rfl fun a hF => q_end (n_sq (q_ret (r_sq ?_))))))
       obtain rfl := someI hr
       exact ret_of hF hS rfl (.tmp rfl .nil) rfl
   ·have hr := cond_t hc4 hr
    refine q_cond_t hF rfl hc4 (q_seq (q_region (q_x (v := (.bool false)) hF hS (ex_assign rfl) rfl rfl fun a hF => q_end (n_sq (q_ret (r_sq ?_))))))
    obtain rfl := someI hr
    exact ret_of hF hS rfl (.tmp rfl .nil) rfl
 ·have hr := cond_t hc1 hr
  refine q_cond_t hF rfl hc1 (q_seq (q_region (q_x (v := (.bool true)) hF hS (ex_assign rfl) rfl rfl fun a hF => q_end (n_sq (q_ret (r_sq ?_))))))
  obtain rfl := someI hr
  exact ret_of hF hS rfl (.tmp rfl .nil) rfl

end Go.Proofs.Ytnmimeojimfogaa
