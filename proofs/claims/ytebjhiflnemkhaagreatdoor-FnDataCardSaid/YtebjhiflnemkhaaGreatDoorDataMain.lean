/- FnData: for every input the law returns true, and each argument reads afterwards as it read before. Conditions: those of the given statement alone. -/
import Derived.Test.YtebjhiflnemkhaaGreatDoorDWalks3
import Derived.Test.YtebjhiflnemkhaaGreatDoorDPData
import Derived.ProofKit
import Derived.OpenShut
import Derived.ShutString
import Derived.ChangeOld
import Derived.Carry
import Derived.LaidMore
import Derived.Lay
import Derived.Stop.Joined
import Derived.Stop.LaidErr
import Derived.HandedShaped
import Derived.Shelf.Vars
import Derived.SevenTiedAt
import Derived.Test.YtebjhiflnemkhaaGreatDoorCards
import Derived.Test.YtebjhiflnemkhaaGreatDoorTie
namespace Go.Proofs.YtebjhiflnemkhaaGreatDoor.fnData
open Go.ChangeShapes Go.WideShapes Go.ChangeAt Go.RowKit Go.Gx Go.Gx.F
open Go.ChangeMaps (open_string shut_string)
set_option linter.all false

theorem own : ownKnob Tryz.prog.godebug = none := by kernel_rfl
theorem laidOut : laidOutB Tryz.prog = true := by kernel_rfl

def io : List Char := ['h', 'a', 'r', 'n', 'e', 's', 's'] ++ ' ' :: (['f', '6', '1', '3', '2', '9', 'a', 'a', 'c', '4', '3', '4', '1', '6', '9', '9', '8', '6', 'b', 'f', 'a', 'c', 'f', 'a', '2', 'e', '0', '0', 'c', '4', '0', 'd', '4', '3', '8', 'a', 'b', '5', '9', '2', '0', 'b', 'f', '7', 'b', '5', '8', 'e', 'b', '8', '4', 'e', '4', 'b', 'f', '4', '4', '8', 'e', '4', 'c', '0', '8', '7'] ++ ' ' :: (['c', 'u', 't'] ++ ' ' :: (['a', 't'] ++ ' ' :: (['l', 'o', 'o', 'p', '.', 'e', 'x', 'a', 'm', 'p', 'l', 'e', '/', 'g', '0', '0', '9', '0', '8', '/', 'l', 'a', 'w', 's', '.', 'F', 'n', 'D', 'a', 't', 'a']))))
theorem ioEq : Tryz.prog.initOrder = String.ofList io := by kernel_rfl
theorem ioL : Tryz.prog.initOrder.toList = io := by rw [ioEq]; exact String.toList_ofList
theorem ioW : wordsSigns io = [['h', 'a', 'r', 'n', 'e', 's', 's'], ['f', '6', '1', '3', '2', '9', 'a', 'a', 'c', '4', '3', '4', '1', '6', '9', '9', '8', '6', 'b', 'f', 'a', 'c', 'f', 'a', '2', 'e', '0', '0', 'c', '4', '0', 'd', '4', '3', '8', 'a', 'b', '5', '9', '2', '0', 'b', 'f', '7', 'b', '5', '8', 'e', 'b', '8', '4', 'e', '4', 'b', 'f', '4', '4', '8', 'e', '4', 'c', '0', '8', '7'], ['c', 'u', 't'], ['a', 't'], ['l', 'o', 'o', 'p', '.', 'e', 'x', 'a', 'm', 'p', 'l', 'e', '/', 'g', '0', '0', '9', '0', '8', '/', 'l', 'a', 'w', 's', '.', 'F', 'n', 'D', 'a', 't', 'a']] := by
  unfold io
  rw [ws_word _ _ (by kernel_rfl), ws_word _ _ (by kernel_rfl), ws_word _ _ (by kernel_rfl), ws_word _ _ (by kernel_rfl), ws_last _ (by kernel_rfl)]
theorem enters : Tryz.prog.mayEnter = true := enter_cut (by rw [ioL, ioW]; rfl) (by kernel_rfl) (by kernel_rfl) (by kernel_rfl) (by kernel_rfl)
theorem lifts : Tryz.prog.liftsFinal = false := by
  unfold Program.liftsFinal Program.headLifts
  rw [ioL, ioW]
  kernel_rfl
theorem made : Tryz.prog.make = some Rows.fnDataRow.make := make_cut (by rw [ioL, ioW]; rfl) (by kernel_rfl)
theorem closed : joinedFacts Tryz.prog 3 Tryz.f3 Rows.fnDataSpec Rows.fnDataRow = true := by
  unfold joinedFacts
  rw [enters, lifts, made]
  kernel_rfl

theorem cells5 : Tryz.prog.cellsOf 5 = 1 := by kernel_rfl

theorem opn_sl_22 : @Opn Tryz.prog 22 (List (K .u8)) instRepList _ := opn_list Tryz.underlying22 (opn_K Tryz.underlying5) cells5.symm (by show 0 < 1; decide)

theorem walk (a0 : List (K .u8)) (a1 : List (K .u8)) (o0 : Rng.ok a0) (o1 : Rng.ok a1) (w : World) (ht : Tbl (memW w)) (s1 : Sl) (g1 : Rd (memW w) s1 a0) (s2 : Sl) (g2 : Rd (memW w) s2 a1) : Calls Tryz.prog 3 #[s1.v, s2.v] w fun e w' => e = .returned (.bool true) ∧ Below w.heap.size w w' :=
  (c_laws_FnData a0 a1 true (laws_FnData_true a0 a1 o0 o1) w (memW w) (Vis.memW w) ht s1 g1 s2 g2).mono fun e w' h => by obtain ⟨v, rfl, hb, rfl⟩ := h; exact ⟨rfl, hb⟩

def laidL : List (String × DataW Unit) := [("math/bits.deBruijn32tab", Rows.laid_math_bits_deBruijn32tab), ("math/bits.deBruijn64tab", Rows.laid_math_bits_deBruijn64tab), ("internal/strconv.uint64pow10", Rows.laid_internal_strconv_uint64pow10), ("unicode/utf8.acceptRanges", Rows.laid_unicode_utf8_acceptRanges), ("unicode/utf8.first", Rows.laid_unicode_utf8_first)]
theorem door_met (os : Os) (args : Array Value) : laidMetH Tryz.prog laidL ((World.laidAll Tryz.prog os laidL).forCall (fun _ _ => 0) ⟨#[], args, []⟩).memory := by
  rw [MakeChecks.laidMetH_plain _ _ _ (by kernel_rfl)]; exact laidMet_laidAll _ (by kernel_rfl) (by kernel_rfl)
theorem tabD : (Rows.laid_internal_strconv_uint64pow10 : DataW Unit) = Go.Lib.tabData .u64 Go.Lib.pow10Tab := by kernel_rfl
theorem tab_of {W : World} (h : laidMetH Tryz.prog laidL W) (hsh : W.ShapedOpen Tryz.prog) : Tbl (memW W) := by
  rw [MakeChecks.laidMetH_plain _ _ _ (by kernel_rfl)] at h
  unfold laidL at h
  rw [tabD] at h
  exact Tbl.of (Go.Lib.tabIs_of_head (t := 145) (e := 51) (n := 20) gTab (by kernel_rfl) (by kernel_rfl) (by kernel_rfl) (by kernel_rfl) (by kernel_rfl) (laidMet.tail (laidMet.tail h))) (Go.Proofs.cell_of_shapedOpen_int (P := Tryz.prog) (g := 0) (t := 3) (zero := #[.int .i64 0]) hsh (of_decide_eq_true (by kernel_rfl)) (by kernel_rfl) rfl (by kernel_rfl) (by kernel_rfl) Tryz.underlying3)
theorem change_shaped {H : Type} {enc : TypeId × Value → H} {a : Assume} {C : Checked} {os : Os} {f : FuncId} {fn : Func} {s : ChangeSpec} {conds : List PathCond} {apart fresh handsOn again : Bool} {X : World → Array Value → Prop}
    (hX : ∀ (w w' : World) (args : Array Value), w.heap = w'.heap → X w args → X w' args)
    (own : ownKnob C.prog.godebug = none) (started : os.Started) (noInit : C.prog.inits.idxOf? f = none) (hfn : C.prog.funcs[f]? = some fn)
    (witness : ∃ (w : World) (tape : Tape) (i : Input), w.os = os ∧ (w.forCall tape i).Shaped C.prog ∧ i.vars = [] ∧ Input.okWide C.prog (w.forCall tape i) .any w.heap.size f i ∧
      ((s.pre enc C.prog fn conds apart (w.forCall tape i).memory i.args ∧ X (w.forCall tape i).memory i.args) ∧ sizedMet enc C.prog fn (OpenSpec.ofChange s) apart (w.forCall tape i).memory i.args) ∧ a.holds C.prog (lone (Frame.enter C.prog f i.args .normal) [] (w.forCall tape i)))
    (contract : ∀ (W : World) (base : Nat) (args : Array Value) (ds gs : List (DataW H)) (before : List MemPlace),
      (∀ (j : Nat) t v, fn.params[j]? = some t → args[j]? = some v → Value.okWide C.prog W .any base t v) →
      DataW.Whole enc C.prog fn.params.toList s.vars apart W args.toList ds gs before →
      conds.all (PathCond.test C.prog ⟨fn.params.toList, ds, s.plain.varTypes C.prog, gs⟩) = true →
      (DataW.weightsEach C.prog (fn.params.toList ++ s.plain.varTypes C.prog) (ds ++ gs)).all (· ≤ reachBytes) = true → X W args → W.ShapedOpen C.prog →
      a.holds C.prog (lone (Frame.enter C.prog f args .normal) [] W) →
      Calls C.prog f args W fun e W' => ∃ v, e = .returned v ∧ s.post enc C.prog fn apart fresh handsOn again W args v W') :
    ReturnsInHanded a C os f .any (fun w args => (s.pre enc C.prog fn conds apart w args ∧ X w args) ∧ sizedMet enc C.prog fn (OpenSpec.ofChange s) apart w args) (s.post enc C.prog fn apart fresh handsOn again) := by
  refine returnsInHanded_of_calls own started noInit witness ?_
  intro w tape i _ hsh _ hok hpre hholds
  obtain ⟨_, _, _, fn2, hfn2, _, _, _, _, hval⟩ := hok
  obtain rfl : fn2 = fn := Option.some.inj (hfn2.symm.trans hfn)
  obtain ⟨⟨⟨ds, gs, before, hw, hc⟩, hx⟩, hz⟩ := hpre
  have hw2 := DataW.Whole.of_heap (w' := w.forCall tape i) (by rfl) hw
  refine (contract (w.forCall tape i) w.heap.size i.args ds gs before hval hw2 hc (hz.weights hw) (hX _ _ _ (by rfl) hx) hsh hholds).mono fun e W' ⟨v, he, hp⟩ => ?_
  subst he
  exact ChangeSpec.post_blind hp


set_option maxRecDepth 100000 in
theorem lifted (os : Os) (started : os.Started) (H : Type) (enc : TypeId × Value → H) :
    ReturnsInHanded {} Tryz.checked os 3 .any (fun w args => (Rows.fnDataSpec.pre enc Tryz.prog Tryz.f3 [] false w args ∧ laidMetH Tryz.prog laidL w) ∧ sizedMet enc Tryz.prog Tryz.f3 (OpenSpec.ofChange Rows.fnDataSpec) false w args)
      (Rows.fnDataSpec.post enc Tryz.prog Tryz.f3 false true false false) := by
  refine change_shaped (C := Tryz.checked) (X := fun w _ => laidMetH Tryz.prog laidL w) (fun _ _ _ hh h => h.of_heap hh) own started (by kernel_rfl) Tryz.func3
    (ChangeSpec.witness_shaped (enc := enc) (C := Tryz.checked) (os := os) (X := fun w _ => laidMetH Tryz.prog laidL w) false (World.laidAll Tryz.prog os laidL) #[.slice none 0 0, .slice none 0 0] 8 (World.laidAll_os _ _ _) (World.shaped_of_ZipB (by kernel_rfl) (by kernel_rfl)) (by kernel_rfl) (by kernel_rfl) (by kernel_rfl) (door_met os _)) ?_
  intro W base args ds gs before hval0 hW _ _ hL hsh _
  have hval : ∀ (j : Nat) t v, Tryz.f3.params[j]? = some t → args[j]? = some v → Value.okWide Tryz.prog W .any base t v := hval0
  have hW' := hW
  obtain ⟨p, q, hA0, hV, rfl, hfz, hnd⟩ := hW
  have hA : DataW.TrodAll enc Tryz.prog W 0 (fun _ => true) true Tryz.f3.params.toList args.toList ds p := hA0
  rw [Tryz.params3] at hA hval
  obtain ⟨v0, vs0, d0, ds0, p0, q0, hargs, rfl, rfl, h0, r0⟩ := trodAll_cons hA
  obtain ⟨v1, vs1, d1, ds1, p1, q1, rfl, rfl, rfl, h1, r1⟩ := trodAll_cons r0
  obtain ⟨rfl, rfl, rfl⟩ := trodAll_nil r1
  obtain rfl : args = #[v0, v1] := by cases args; simp_all
  obtain ⟨rfl, rfl⟩ := trodVars_none hV
  have k0 := h0
  have lt0 : ∀ x ∈ p0, x.block < W.heap.size := by obtain ⟨m, hm⟩ := k0; exact DataW.trod_lt m _ _ _ hm
  obtain ⟨ap0, al0, ac0, rfl⟩ := okWide_slice Tryz.underlying22 (hval 0 22 v0 rfl rfl)
  obtain ⟨n0, t0⟩ := h0
  obtain ⟨a0, rd0, o0⟩ := opn_sl_22 enc W n0 _ _ t0
  obtain ⟨s1, rd0, g1⟩ := rd0
  obtain ⟨pp, pl, pc⟩ := s1
  obtain ⟨rfl, rfl, rfl⟩ : ap0 = pp ∧ al0 = pl ∧ ac0 = pc := by
    have e : [Value.slice ap0 al0 ac0] = [Value.slice pp pl pc] := rd0
    simpa using e
  have k1 := h1
  have lt1 : ∀ x ∈ p1, x.block < W.heap.size := by obtain ⟨m, hm⟩ := k1; exact DataW.trod_lt m _ _ _ hm
  obtain ⟨ap1, al1, ac1, rfl⟩ := okWide_slice Tryz.underlying22 (hval 1 22 v1 rfl rfl)
  obtain ⟨n1, t1⟩ := h1
  obtain ⟨a1, rd1, o1⟩ := opn_sl_22 enc W n1 _ _ t1
  obtain ⟨s2, rd1, g2⟩ := rd1
  obtain ⟨pp, pl, pc⟩ := s2
  obtain ⟨rfl, rfl, rfl⟩ : ap1 = pp ∧ al1 = pl ∧ ac1 = pc := by
    have e : [Value.slice ap1 al1 ac1] = [Value.slice pp pl pc] := rd1
    simpa using e
  clear hA0 hval0
  refine (walk a0 a1 o0 o1 W (tab_of hL hsh) ⟨ap0, al0, ac0⟩ g1 ⟨ap1, al1, ac1⟩ g2).mono fun e W' ⟨he, bel⟩ => ?_
  subst he
  exact ⟨_, rfl, _, _, _, [], _, [], hW', trodAll_mk1 (shut_bool Tryz.underlying4 _), (trodAll_cons_mk (Below.trod laidOut (by kernel_rfl) (of_decide_eq_true (by kernel_rfl)) k0 bel lt0) (trodAll_cons_mk (Below.trod laidOut (by kernel_rfl) (of_decide_eq_true (by kernel_rfl)) k1 bel lt1) trodAll_mk0)), rfl, bel.frame _, fun h => by cases h⟩

theorem over : Rows.fnDataRow.holds Tryz.pinned (OpenSpec.ofChange Rows.fnDataSpec) :=
  OpenClaim.holds_of_wide 3 Tryz.f3 rfl rfl rfl rfl rfl rfl rfl ⟨rfl, rfl, rfl, rfl, rfl⟩ rfl rfl rfl rfl rfl (by kernel_rfl) Tryz.func3 closed
    (of_decide_eq_true (by kernel_rfl)) (by unfold Func.isWrapper; first | (rw [if_pos (by decide +kernel)]; kernel_rfl) | (rw [if_neg (by decide +kernel)]; exact ⟨rfl, rfl⟩))
    (fun os started H enc _ => lifted os started H enc)

theorem proved : Rows.FnDataCardSaid :=
  Claim7.holds_tied_plain_at .later [] [.data, .data, .data, .data, .pinned] true (true, "f61329aac434169986bfacfa2e00c40d438ab5920bf7b58eb84e4bf448e4c087") false
    over (fun _ h => by cases h) (by kernel_rfl) (fun _ h => by cases h) fnData_row_tie rfl ⟨rfl, rfl⟩ (by kernel_rfl) rfl
    (fun f fn hf hfn => by
      obtain rfl : f = 3 := Option.some.inj ((show Tryz.prog.funcNamed "loop.example/g00908/laws.FnData" = some 3 by kernel_rfl).symm.trans hf) |>.symm
      obtain rfl : fn = Tryz.f3 := (Option.some.inj (Tryz.func3.symm.trans hfn)).symm
      exact ⟨by kernel_rfl, fun j t ht => by
        rw [Tryz.params3] at ht
        have hm : t ∈ [22, 22] := by simpa using Array.mem_of_getElem? ht
        have hall : ([22, 22].all fun u => !Tryz.prog.wantsStandIn u) = true := by kernel_rfl
        exact (show Tryz.prog.wantsStandIn t = false by simpa using List.all_eq_true.1 hall t hm)⟩)
    (by kernel_rfl)
end Go.Proofs.YtebjhiflnemkhaaGreatDoor.fnData
