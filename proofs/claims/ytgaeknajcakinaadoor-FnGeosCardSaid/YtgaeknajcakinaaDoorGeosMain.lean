/- FnGeos: for every input the law returns true, and each argument reads afterwards as it read before. Conditions: those of the given statement alone. -/
import Derived.Test.YtgaeknajcakinaaDoorGWalks2
import Derived.Test.YtgaeknajcakinaaDoorGPGeos
import Derived.ProofKit
import Derived.OpenShut
import Derived.ShutString
import Derived.ChangeOld
import Derived.Carry
import Derived.LaidMore
import Derived.Lay
import Derived.Stop.Joined
import Derived.Stop.LaidErr
import Derived.HandedShaped
import Derived.Shelf.Vars
import Derived.SevenTiedAt
import Derived.Test.YtgaeknajcakinaaDoorCards
import Derived.Test.YtgaeknajcakinaaDoorTie
namespace Go.Proofs.YtgaeknajcakinaaDoor.fnGeos
open Go.ChangeShapes Go.WideShapes Go.ChangeAt Go.RowKit Go.Gx Go.Gx.F
open Go.ChangeMaps (open_string shut_string)
set_option linter.all false

theorem own : ownKnob Tryd.prog.godebug = none := by kernel_rfl
theorem laidOut : laidOutB Tryd.prog = true := by kernel_rfl

def io : List Char := ['h', 'a', 'r', 'n', 'e', 's', 's'] ++ ' ' :: (['d', 'c', '3', 'd', '8', '4', 'd', '7', '7', 'c', 'c', 'c', '5', 'b', '1', '6', 'c', '9', 'c', '8', '5', '8', '2', '2', '3', '1', '5', '3', '4', '0', '4', '3', '6', 'f', 'b', '9', '0', '8', '3', '0', 'a', '0', 'a', '5', '4', '8', '7', '5', '8', '4', 'c', 'f', '9', '4', '2', '7', 'b', '8', '3', '0', 'b', '3', '4', '3'] ++ ' ' :: (['c', 'u', 't'] ++ ' ' :: (['a', 't'] ++ ' ' :: (['l', 'o', 'o', 'p', '.', 'e', 'x', 'a', 'm', 'p', 'l', 'e', '/', 'g', '0', '0', '9', '0', '8', '/', 'l', 'a', 'w', 's', '.', 'F', 'n', 'R', 'o', 'u', 'n', 'd', 'i', 'n', 'g'] ++ ' ' :: (['l', 'o', 'o', 'p', '.', 'e', 'x', 'a', 'm', 'p', 'l', 'e', '/', 'g', '0', '0', '9', '0', '8', '/', 'l', 'a', 'w', 's', '.', 'F', 'n', 'S', 'c', 'h', 'e', 'm', 'a', 's'] ++ ' ' :: (['l', 'o', 'o', 'p', '.', 'e', 'x', 'a', 'm', 'p', 'l', 'e', '/', 'g', '0', '0', '9', '0', '8', '/', 'l', 'a', 'w', 's', '.', 'F', 'n', 'G', 'e', 'o', 's']))))))
theorem ioEq : Tryd.prog.initOrder = String.ofList io := by kernel_rfl
theorem ioL : Tryd.prog.initOrder.toList = io := by rw [ioEq]; exact String.toList_ofList
theorem ioW : wordsSigns io = [['h', 'a', 'r', 'n', 'e', 's', 's'], ['d', 'c', '3', 'd', '8', '4', 'd', '7', '7', 'c', 'c', 'c', '5', 'b', '1', '6', 'c', '9', 'c', '8', '5', '8', '2', '2', '3', '1', '5', '3', '4', '0', '4', '3', '6', 'f', 'b', '9', '0', '8', '3', '0', 'a', '0', 'a', '5', '4', '8', '7', '5', '8', '4', 'c', 'f', '9', '4', '2', '7', 'b', '8', '3', '0', 'b', '3', '4', '3'], ['c', 'u', 't'], ['a', 't'], ['l', 'o', 'o', 'p', '.', 'e', 'x', 'a', 'm', 'p', 'l', 'e', '/', 'g', '0', '0', '9', '0', '8', '/', 'l', 'a', 'w', 's', '.', 'F', 'n', 'R', 'o', 'u', 'n', 'd', 'i', 'n', 'g'], ['l', 'o', 'o', 'p', '.', 'e', 'x', 'a', 'm', 'p', 'l', 'e', '/', 'g', '0', '0', '9', '0', '8', '/', 'l', 'a', 'w', 's', '.', 'F', 'n', 'S', 'c', 'h', 'e', 'm', 'a', 's'], ['l', 'o', 'o', 'p', '.', 'e', 'x', 'a', 'm', 'p', 'l', 'e', '/', 'g', '0', '0', '9', '0', '8', '/', 'l', 'a', 'w', 's', '.', 'F', 'n', 'G', 'e', 'o', 's']] := by
  unfold io
  rw [ws_word _ _ (by kernel_rfl), ws_word _ _ (by kernel_rfl), ws_word _ _ (by kernel_rfl), ws_word _ _ (by kernel_rfl), ws_word _ _ (by kernel_rfl), ws_word _ _ (by kernel_rfl), ws_last _ (by kernel_rfl)]
theorem enters : Tryd.prog.mayEnter = true := enter_cut (by rw [ioL, ioW]; rfl) (by kernel_rfl) (by kernel_rfl) (by kernel_rfl) (by kernel_rfl)
theorem lifts : Tryd.prog.liftsFinal = false := by
  unfold Program.liftsFinal Program.headLifts
  rw [ioL, ioW]
  kernel_rfl
theorem made : Tryd.prog.make = some Rows.fnGeosRow.make := make_cut (by rw [ioL, ioW]; rfl) (by kernel_rfl)
theorem closed : joinedFacts Tryd.prog 5 Tryd.f5 Rows.fnGeosSpec Rows.fnGeosRow = true := by
  unfold joinedFacts
  rw [enters, lifts, made]
  kernel_rfl

theorem cells5 : Tryd.prog.cellsOf 5 = 1 := by kernel_rfl

theorem opn_sl_22 : @Opn Tryd.prog 22 (List (K .u8)) instRepList _ := opn_list Tryd.underlying22 (opn_K Tryd.underlying5) cells5.symm (by show 0 < 1; decide)

theorem walk (a0 : List (K .u8)) (a1 : List (K .u8)) (o0 : Rng.ok a0) (o1 : Rng.ok a1) (w : World) (ht : Tbl (memW w)) (s1 : Sl) (g1 : Rd (memW w) s1 a0) (s2 : Sl) (g2 : Rd (memW w) s2 a1) : Calls Tryd.prog 5 #[s1.v, s2.v] w fun e w' => e = .returned (.bool true) ∧ Below w.heap.size w w' :=
  (c_laws_FnGeos a0 a1 true (laws_FnGeos_true a0 a1 o0 o1) w (memW w) (Vis.memW w) ht s1 g1 s2 g2).mono fun e w' h => by obtain ⟨v, rfl, hb, rfl⟩ := h; exact ⟨rfl, hb⟩

def laidL : List (String × DataW Unit) := [("math/bits.deBruijn32tab", Rows.laid_math_bits_deBruijn32tab), ("math/bits.deBruijn64tab", Rows.laid_math_bits_deBruijn64tab), ("internal/strconv.uint64pow10", Rows.laid_internal_strconv_uint64pow10)]
theorem door_met (os : Os) (args : Array Value) : laidMetH Tryd.prog laidL ((World.doorLaid Tryd.prog 4000 os).forCall (fun _ _ => 0) ⟨#[], args, []⟩).memory :=
  laidMetH_of_parts3 (fuel := 8) (laidMet_of_run' 8 (by kernel_rfl) (by kernel_rfl)) (by kernel_rfl) (by kernel_rfl)
theorem tabD : (Rows.laid_internal_strconv_uint64pow10 : DataW Unit) = Go.Lib.tabData .u64 Go.Lib.pow10Tab := by kernel_rfl
theorem tab_of {W : World} (h : laidMetH Tryd.prog laidL W) : Tbl (memW W) := by
  rw [MakeChecks.laidMetH_plain _ _ _ (by kernel_rfl)] at h
  unfold laidL at h
  rw [tabD] at h
  exact Tbl.of (Go.Lib.tabIs_of_head (t := 150) (e := 74) (n := 20) gTab (by kernel_rfl) (by kernel_rfl) (by kernel_rfl) (by kernel_rfl) (by kernel_rfl) (laidMet.tail (laidMet.tail h)))

set_option maxRecDepth 100000 in
theorem lifted (os : Os) (started : os.Started) (H : Type) (enc : TypeId × Value → H) :
    ReturnsInHanded {} Tryd.checked os 5 .any (fun w args => (Rows.fnGeosSpec.pre enc Tryd.prog Tryd.f5 [] false w args ∧ laidMetH Tryd.prog laidL w) ∧ sizedMet enc Tryd.prog Tryd.f5 (OpenSpec.ofChange Rows.fnGeosSpec) false w args)
      (Rows.fnGeosSpec.post enc Tryd.prog Tryd.f5 false true false false) := by
  refine returnsInHanded_of_change_and (C := Tryd.checked) (X := fun w _ => laidMetH Tryd.prog laidL w) (fun _ _ _ hh h => h.of_heap hh) own started (by kernel_rfl) Tryd.func5
    (ChangeSpec.witness_shaped (enc := enc) (C := Tryd.checked) (os := os) (X := fun w _ => laidMetH Tryd.prog laidL w) false (World.doorLaid Tryd.prog 4000 os) #[.slice none 0 0, .slice none 0 0] 8 rfl (World.shaped_of_RefB (by kernel_rfl) (by kernel_rfl)) (by kernel_rfl) (by kernel_rfl) (by kernel_rfl) (door_met os _)) ?_
  intro W base args ds gs before hval0 hW _ _ hL _
  have hval : ∀ (j : Nat) t v, Tryd.f5.params[j]? = some t → args[j]? = some v → Value.okWide Tryd.prog W .any base t v := hval0
  have hW' := hW
  obtain ⟨p, q, hA0, hV, rfl, hfz, hnd⟩ := hW
  have hA : DataW.TrodAll enc Tryd.prog W 0 (fun _ => true) true Tryd.f5.params.toList args.toList ds p := hA0
  rw [Tryd.params5] at hA hval
  obtain ⟨v0, vs0, d0, ds0, p0, q0, hargs, rfl, rfl, h0, r0⟩ := trodAll_cons hA
  obtain ⟨v1, vs1, d1, ds1, p1, q1, rfl, rfl, rfl, h1, r1⟩ := trodAll_cons r0
  obtain ⟨rfl, rfl, rfl⟩ := trodAll_nil r1
  obtain rfl : args = #[v0, v1] := by cases args; simp_all
  obtain ⟨rfl, rfl⟩ := trodVars_none hV
  have k0 := h0
  have lt0 : ∀ x ∈ p0, x.block < W.heap.size := by obtain ⟨m, hm⟩ := k0; exact DataW.trod_lt m _ _ _ hm
  obtain ⟨ap0, al0, ac0, rfl⟩ := okWide_slice Tryd.underlying22 (hval 0 22 v0 rfl rfl)
  obtain ⟨n0, t0⟩ := h0
  obtain ⟨a0, rd0, o0⟩ := opn_sl_22 enc W n0 _ _ t0
  obtain ⟨s1, rd0, g1⟩ := rd0
  obtain ⟨pp, pl, pc⟩ := s1
  obtain ⟨rfl, rfl, rfl⟩ : ap0 = pp ∧ al0 = pl ∧ ac0 = pc := by
    have e : [Value.slice ap0 al0 ac0] = [Value.slice pp pl pc] := rd0
    simpa using e
  have k1 := h1
  have lt1 : ∀ x ∈ p1, x.block < W.heap.size := by obtain ⟨m, hm⟩ := k1; exact DataW.trod_lt m _ _ _ hm
  obtain ⟨ap1, al1, ac1, rfl⟩ := okWide_slice Tryd.underlying22 (hval 1 22 v1 rfl rfl)
  obtain ⟨n1, t1⟩ := h1
  obtain ⟨a1, rd1, o1⟩ := opn_sl_22 enc W n1 _ _ t1
  obtain ⟨s2, rd1, g2⟩ := rd1
  obtain ⟨pp, pl, pc⟩ := s2
  obtain ⟨rfl, rfl, rfl⟩ : ap1 = pp ∧ al1 = pl ∧ ac1 = pc := by
    have e : [Value.slice ap1 al1 ac1] = [Value.slice pp pl pc] := rd1
    simpa using e
  clear hA0 hval0
  refine (walk a0 a1 o0 o1 W (tab_of hL) ⟨ap0, al0, ac0⟩ g1 ⟨ap1, al1, ac1⟩ g2).mono fun e W' ⟨he, bel⟩ => ?_
  subst he
  exact ⟨_, rfl, _, _, _, [], _, [], hW', trodAll_mk1 (shut_bool Tryd.underlying4 _), (trodAll_cons_mk (Below.trod laidOut (by kernel_rfl) (of_decide_eq_true (by kernel_rfl)) k0 bel lt0) (trodAll_cons_mk (Below.trod laidOut (by kernel_rfl) (of_decide_eq_true (by kernel_rfl)) k1 bel lt1) trodAll_mk0)), rfl, bel.frame _, fun h => by cases h⟩

theorem over : Rows.fnGeosRow.holds Tryd.pinned (OpenSpec.ofChange Rows.fnGeosSpec) :=
  OpenClaim.holds_of_wide 5 Tryd.f5 rfl rfl rfl rfl rfl rfl rfl ⟨rfl, rfl, rfl, rfl, rfl⟩ rfl rfl rfl rfl rfl (by kernel_rfl) Tryd.func5 closed
    (of_decide_eq_true (by kernel_rfl)) (by unfold Func.isWrapper; first | (rw [if_pos (by decide +kernel)]; kernel_rfl) | (rw [if_neg (by decide +kernel)]; exact ⟨rfl, rfl⟩))
    (fun os started H enc _ => lifted os started H enc)

theorem proved : Rows.FnGeosCardSaid :=
  Claim7.holds_tied_plain_at .later [] [.data, .data, .data] true (true, "dc3d84d77ccc5b16c9c85822315340436fb90830a0a5487584cf9427b830b343") false
    over (fun _ h => by cases h) (by kernel_rfl) (fun _ h => by cases h) fnGeos_row_tie rfl ⟨rfl, rfl⟩ (by kernel_rfl) rfl
    (fun f fn hf hfn => by
      obtain rfl : f = 5 := Option.some.inj ((show Tryd.prog.funcNamed "loop.example/g00908/laws.FnGeos" = some 5 by kernel_rfl).symm.trans hf) |>.symm
      obtain rfl : fn = Tryd.f5 := (Option.some.inj (Tryd.func5.symm.trans hfn)).symm
      exact ⟨by kernel_rfl, fun j t ht => by
        rw [Tryd.params5] at ht
        have hm : t ∈ [22, 22] := by simpa using Array.mem_of_getElem? ht
        have hall : ([22, 22].all fun u => !Tryd.prog.wantsStandIn u) = true := by kernel_rfl
        exact (show Tryd.prog.wantsStandIn t = false by simpa using List.all_eq_true.1 hall t hm)⟩)
    (by kernel_rfl)
end Go.Proofs.YtgaeknajcakinaaDoor.fnGeos
