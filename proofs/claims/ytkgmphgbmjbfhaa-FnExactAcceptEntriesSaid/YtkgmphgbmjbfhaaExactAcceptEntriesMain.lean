/- FnExactAcceptEntries: for every input the law returns true, and each argument reads afterwards as it read before. Conditions: those of the given statement alone. -/
import Derived.Test.YtkgmphgbmjbfhaaJWalks2
import Derived.Test.YtkgmphgbmjbfhaaJPEnt
import Derived.ProofKit
import Derived.OpenShut
import Derived.ShutString
import Derived.ChangeOld
import Derived.Carry
namespace Go.Proofs.Ytkgmphgbmjbfhaa.fnExactAcceptEntries
open Go.ChangeShapes Go.WideShapes Go.ChangeAt Go.RowKit Go.Gx Go.Gx.F
open Go.ChangeMaps (open_string shut_string)
set_option linter.all false

theorem own : ownKnob Try.prog.godebug = none := by kernel_rfl
theorem laidOut : laidOutB Try.prog = true := by kernel_rfl

def io : List Char := ['h', 'a', 'r', 'n', 'e', 's', 's'] ++ ' ' :: (['c', '5', '0', '4', '7', '6', '6', '5', '2', '4', '7', 'a', '4', '7', 'a', '2', '3', 'e', 'a', 'f', '0', '6', 'a', '2', '2', '1', '6', 'c', 'd', '3', 'e', '3', '5', '5', 'e', '3', 'c', 'c', 'd', 'd', 'b', 'b', '0', '3', 'e', '0', 'd', '4', '4', '4', 'c', '2', '4', 'd', '8', '8', '5', '6', '9', 'f', 'a', 'f', '5', '7'] ++ ' ' :: (['c', 'u', 't'] ++ ' ' :: (['a', 't'] ++ ' ' :: (['l', 'o', 'o', 'p', '.', 'e', 'x', 'a', 'm', 'p', 'l', 'e', '/', 'g', '0', '0', '9', '0', '8', '/', 'l', 'a', 'w', 's', '.', 'F', 'n', 'E', 'x', 'a', 'c', 't', 'R', 'e', 'm', 'a', 'i', 'n', 'i', 'n', 'g', 'L', 'o', 's', 's'] ++ ' ' :: (['l', 'o', 'o', 'p', '.', 'e', 'x', 'a', 'm', 'p', 'l', 'e', '/', 'g', '0', '0', '9', '0', '8', '/', 'l', 'a', 'w', 's', '.', 'F', 'n', 'E', 'x', 'a', 'c', 't', 'C', 'o', 'u', 'n', 't', 'U', 's', 'e', 's'] ++ ' ' :: (['l', 'o', 'o', 'p', '.', 'e', 'x', 'a', 'm', 'p', 'l', 'e', '/', 'g', '0', '0', '9', '0', '8', '/', 'l', 'a', 'w', 's', '.', 'F', 'n', 'E', 'x', 'a', 'c', 't', 'P', 'a', 'r', 'a', 'l', 'l', 'e', 'l', 'L', 'o', 's', 's'] ++ ' ' :: (['l', 'o', 'o', 'p', '.', 'e', 'x', 'a', 'm', 'p', 'l', 'e', '/', 'g', '0', '0', '9', '0', '8', '/', 'l', 'a', 'w', 's', '.', 'F', 'n', 'E', 'x', 'a', 'c', 't', 'G', 'e', 'o', 'M', 'a', 's', 's'] ++ ' ' :: (['l', 'o', 'o', 'p', '.', 'e', 'x', 'a', 'm', 'p', 'l', 'e', '/', 'g', '0', '0', '9', '0', '8', '/', 'l', 'a', 'w', 's', '.', 'F', 'n', 'E', 'x', 'a', 'c', 't', 'A', 'c', 'c', 'e', 'p', 't', 'E', 'x', 'p', 'o', 'n', 'e', 'n', 't'] ++ ' ' :: (['l', 'o', 'o', 'p', '.', 'e', 'x', 'a', 'm', 'p', 'l', 'e', '/', 'g', '0', '0', '9', '0', '8', '/', 'l', 'a', 'w', 's', '.', 'F', 'n', 'E', 'x', 'a', 'c', 't', 'L', 'e', 'a', 's', 't', 'R', 'a', 'd', 'i', 'u', 's'] ++ ' ' :: (['l', 'o', 'o', 'p', '.', 'e', 'x', 'a', 'm', 'p', 'l', 'e', '/', 'g', '0', '0', '9', '0', '8', '/', 'l', 'a', 'w', 's', '.', 'F', 'n', 'E', 'x', 'a', 'c', 't', 'S', 'p', 'l', 'i', 't', 'R', 'h', 'o'] ++ ' ' :: (['l', 'o', 'o', 'p', '.', 'e', 'x', 'a', 'm', 'p', 'l', 'e', '/', 'g', '0', '0', '9', '0', '8', '/', 'l', 'a', 'w', 's', '.', 'F', 'n', 'E', 'x', 'a', 'c', 't', 'C', 'o', 'm', 'p', 'o', 's', 'e', 'L', 'o', 's', 's', 'e', 's'] ++ ' ' :: (['l', 'o', 'o', 'p', '.', 'e', 'x', 'a', 'm', 'p', 'l', 'e', '/', 'g', '0', '0', '9', '0', '8', '/', 'l', 'a', 'w', 's', '.', 'F', 'n', 'E', 'x', 'a', 'c', 't', 'C', 'o', 'i', 'n', 'C', 'h', 'a', 'n', 'c', 'e', 's'] ++ ' ' :: (['l', 'o', 'o', 'p', '.', 'e', 'x', 'a', 'm', 'p', 'l', 'e', '/', 'g', '0', '0', '9', '0', '8', '/', 'l', 'a', 'w', 's', '.', 'F', 'n', 'E', 'x', 'a', 'c', 't', 'I', 's', 'M', 'e', 'c', 'h', 'a', 'n', 'i', 's', 'm'] ++ ' ' :: (['l', 'o', 'o', 'p', '.', 'e', 'x', 'a', 'm', 'p', 'l', 'e', '/', 'g', '0', '0', '9', '0', '8', '/', 'l', 'a', 'w', 's', '.', 'F', 'n', 'E', 'x', 'a', 'c', 't', 'E', 'x', 'p', 'e', 'c', 't', 'e', 'd', 'O', 'u', 't', 'p', 'u', 't'] ++ ' ' :: (['l', 'o', 'o', 'p', '.', 'e', 'x', 'a', 'm', 'p', 'l', 'e', '/', 'g', '0', '0', '9', '0', '8', '/', 'l', 'a', 'w', 's', '.', 'F', 'n', 'E', 'x', 'a', 'c', 't', 'C', 'l', 'a', 'm', 'p', 'e', 'd', 'M', 'a', 's', 's', 'e', 's'] ++ ' ' :: (['l', 'o', 'o', 'p', '.', 'e', 'x', 'a', 'm', 'p', 'l', 'e', '/', 'g', '0', '0', '9', '0', '8', '/', 'l', 'a', 'w', 's', '.', 'F', 'n', 'E', 'x', 'a', 'c', 't', 'W', 'o', 'r', 's', 't', 'R', 'a', 't', 'i', 'o'] ++ ' ' :: (['l', 'o', 'o', 'p', '.', 'e', 'x', 'a', 'm', 'p', 'l', 'e', '/', 'g', '0', '0', '9', '0', '8', '/', 'l', 'a', 'w', 's', '.', 'F', 'n', 'E', 'x', 'a', 'c', 't', 'L', 'e', 'd', 'g', 'e', 'r', 'L', 'o', 's', 's'] ++ ' ' :: (['l', 'o', 'o', 'p', '.', 'e', 'x', 'a', 'm', 'p', 'l', 'e', '/', 'g', '0', '0', '9', '0', '8', '/', 'l', 'a', 'w', 's', '.', 'F', 'n', 'E', 'x', 'a', 'c', 't', 'A', 'c', 'c', 'e', 'p', 't', 'E', 'n', 't', 'r', 'i', 'e', 's']))))))))))))))))))
theorem ioEq : Try.prog.initOrder = String.ofList io := by kernel_rfl
theorem ioL : Try.prog.initOrder.toList = io := by rw [ioEq]; exact String.toList_ofList
theorem ioW : wordsSigns io = [['h', 'a', 'r', 'n', 'e', 's', 's'], ['c', '5', '0', '4', '7', '6', '6', '5', '2', '4', '7', 'a', '4', '7', 'a', '2', '3', 'e', 'a', 'f', '0', '6', 'a', '2', '2', '1', '6', 'c', 'd', '3', 'e', '3', '5', '5', 'e', '3', 'c', 'c', 'd', 'd', 'b', 'b', '0', '3', 'e', '0', 'd', '4', '4', '4', 'c', '2', '4', 'd', '8', '8', '5', '6', '9', 'f', 'a', 'f', '5', '7'], ['c', 'u', 't'], ['a', 't'], ['l', 'o', 'o', 'p', '.', 'e', 'x', 'a', 'm', 'p', 'l', 'e', '/', 'g', '0', '0', '9', '0', '8', '/', 'l', 'a', 'w', 's', '.', 'F', 'n', 'E', 'x', 'a', 'c', 't', 'R', 'e', 'm', 'a', 'i', 'n', 'i', 'n', 'g', 'L', 'o', 's', 's'], ['l', 'o', 'o', 'p', '.', 'e', 'x', 'a', 'm', 'p', 'l', 'e', '/', 'g', '0', '0', '9', '0', '8', '/', 'l', 'a', 'w', 's', '.', 'F', 'n', 'E', 'x', 'a', 'c', 't', 'C', 'o', 'u', 'n', 't', 'U', 's', 'e', 's'], ['l', 'o', 'o', 'p', '.', 'e', 'x', 'a', 'm', 'p', 'l', 'e', '/', 'g', '0', '0', '9', '0', '8', '/', 'l', 'a', 'w', 's', '.', 'F', 'n', 'E', 'x', 'a', 'c', 't', 'P', 'a', 'r', 'a', 'l', 'l', 'e', 'l', 'L', 'o', 's', 's'], ['l', 'o', 'o', 'p', '.', 'e', 'x', 'a', 'm', 'p', 'l', 'e', '/', 'g', '0', '0', '9', '0', '8', '/', 'l', 'a', 'w', 's', '.', 'F', 'n', 'E', 'x', 'a', 'c', 't', 'G', 'e', 'o', 'M', 'a', 's', 's'], ['l', 'o', 'o', 'p', '.', 'e', 'x', 'a', 'm', 'p', 'l', 'e', '/', 'g', '0', '0', '9', '0', '8', '/', 'l', 'a', 'w', 's', '.', 'F', 'n', 'E', 'x', 'a', 'c', 't', 'A', 'c', 'c', 'e', 'p', 't', 'E', 'x', 'p', 'o', 'n', 'e', 'n', 't'], ['l', 'o', 'o', 'p', '.', 'e', 'x', 'a', 'm', 'p', 'l', 'e', '/', 'g', '0', '0', '9', '0', '8', '/', 'l', 'a', 'w', 's', '.', 'F', 'n', 'E', 'x', 'a', 'c', 't', 'L', 'e', 'a', 's', 't', 'R', 'a', 'd', 'i', 'u', 's'], ['l', 'o', 'o', 'p', '.', 'e', 'x', 'a', 'm', 'p', 'l', 'e', '/', 'g', '0', '0', '9', '0', '8', '/', 'l', 'a', 'w', 's', '.', 'F', 'n', 'E', 'x', 'a', 'c', 't', 'S', 'p', 'l', 'i', 't', 'R', 'h', 'o'], ['l', 'o', 'o', 'p', '.', 'e', 'x', 'a', 'm', 'p', 'l', 'e', '/', 'g', '0', '0', '9', '0', '8', '/', 'l', 'a', 'w', 's', '.', 'F', 'n', 'E', 'x', 'a', 'c', 't', 'C', 'o', 'm', 'p', 'o', 's', 'e', 'L', 'o', 's', 's', 'e', 's'], ['l', 'o', 'o', 'p', '.', 'e', 'x', 'a', 'm', 'p', 'l', 'e', '/', 'g', '0', '0', '9', '0', '8', '/', 'l', 'a', 'w', 's', '.', 'F', 'n', 'E', 'x', 'a', 'c', 't', 'C', 'o', 'i', 'n', 'C', 'h', 'a', 'n', 'c', 'e', 's'], ['l', 'o', 'o', 'p', '.', 'e', 'x', 'a', 'm', 'p', 'l', 'e', '/', 'g', '0', '0', '9', '0', '8', '/', 'l', 'a', 'w', 's', '.', 'F', 'n', 'E', 'x', 'a', 'c', 't', 'I', 's', 'M', 'e', 'c', 'h', 'a', 'n', 'i', 's', 'm'], ['l', 'o', 'o', 'p', '.', 'e', 'x', 'a', 'm', 'p', 'l', 'e', '/', 'g', '0', '0', '9', '0', '8', '/', 'l', 'a', 'w', 's', '.', 'F', 'n', 'E', 'x', 'a', 'c', 't', 'E', 'x', 'p', 'e', 'c', 't', 'e', 'd', 'O', 'u', 't', 'p', 'u', 't'], ['l', 'o', 'o', 'p', '.', 'e', 'x', 'a', 'm', 'p', 'l', 'e', '/', 'g', '0', '0', '9', '0', '8', '/', 'l', 'a', 'w', 's', '.', 'F', 'n', 'E', 'x', 'a', 'c', 't', 'C', 'l', 'a', 'm', 'p', 'e', 'd', 'M', 'a', 's', 's', 'e', 's'], ['l', 'o', 'o', 'p', '.', 'e', 'x', 'a', 'm', 'p', 'l', 'e', '/', 'g', '0', '0', '9', '0', '8', '/', 'l', 'a', 'w', 's', '.', 'F', 'n', 'E', 'x', 'a', 'c', 't', 'W', 'o', 'r', 's', 't', 'R', 'a', 't', 'i', 'o'], ['l', 'o', 'o', 'p', '.', 'e', 'x', 'a', 'm', 'p', 'l', 'e', '/', 'g', '0', '0', '9', '0', '8', '/', 'l', 'a', 'w', 's', '.', 'F', 'n', 'E', 'x', 'a', 'c', 't', 'L', 'e', 'd', 'g', 'e', 'r', 'L', 'o', 's', 's'], ['l', 'o', 'o', 'p', '.', 'e', 'x', 'a', 'm', 'p', 'l', 'e', '/', 'g', '0', '0', '9', '0', '8', '/', 'l', 'a', 'w', 's', '.', 'F', 'n', 'E', 'x', 'a', 'c', 't', 'A', 'c', 'c', 'e', 'p', 't', 'E', 'n', 't', 'r', 'i', 'e', 's']] := by
  unfold io
  rw [ws_word _ _ (by kernel_rfl), ws_word _ _ (by kernel_rfl), ws_word _ _ (by kernel_rfl), ws_word _ _ (by kernel_rfl), ws_word _ _ (by kernel_rfl), ws_word _ _ (by kernel_rfl), ws_word _ _ (by kernel_rfl), ws_word _ _ (by kernel_rfl), ws_word _ _ (by kernel_rfl), ws_word _ _ (by kernel_rfl), ws_word _ _ (by kernel_rfl), ws_word _ _ (by kernel_rfl), ws_word _ _ (by kernel_rfl), ws_word _ _ (by kernel_rfl), ws_word _ _ (by kernel_rfl), ws_word _ _ (by kernel_rfl), ws_word _ _ (by kernel_rfl), ws_word _ _ (by kernel_rfl), ws_last _ (by kernel_rfl)]
theorem enters : Try.prog.mayEnter = true := enter_cut (by rw [ioL, ioW]; rfl) (by kernel_rfl) (by kernel_rfl) (by kernel_rfl) (by kernel_rfl)
theorem lifts : Try.prog.liftsFinal = false := by
  unfold Program.liftsFinal Program.headLifts
  rw [ioL, ioW]
  kernel_rfl
theorem made : Try.prog.make = some Rows.fnExactAcceptEntriesRow.make := make_cut (by rw [ioL, ioW]; rfl) (by kernel_rfl)
theorem closed : joinedFacts Try.prog 17 Try.f17 Rows.fnExactAcceptEntriesSpec Rows.fnExactAcceptEntriesRow = true := by
  unfold joinedFacts
  rw [enters, lifts, made]
  kernel_rfl

theorem cells3 : Try.prog.cellsOf 3 = 1 := by kernel_rfl
theorem cells23 : Try.prog.cellsOf 23 = 2 := by kernel_rfl
theorem cells25 : Try.prog.cellsOf 25 = 4 := by kernel_rfl
theorem cells119 : Try.prog.cellsOf 119 = 5 := by kernel_rfl

theorem opn_laws_Frac_23 : Opn Try.prog 23 laws_Frac := fun enc w n cs x hx => by
  obtain ⟨hl, k, hf⟩ := trod_fields Try.underlying23 hx
  rw [cells23] at hl
  obtain ⟨d0, h0, o0⟩ := opn_field (α := Int) (o := 0) (z := 1) 0 hf rfl (opn_int Try.underlying3) rfl cells3
  obtain ⟨d1, h1, o1⟩ := opn_field (α := Int) (o := 1) (z := 1) 1 hf rfl (opn_int Try.underlying3) rfl cells3
  have e := slabs_all [1, 1] hl
  refine ⟨⟨d0, d1⟩, ?_, o0, o1⟩
  show cs = _
  rw [e]
  simp only [slabsFrom, Nat.zero_add, Nat.reduceAdd]
  rw [show slab cs 0 1 = _ from h0]
  rw [show slab cs 1 1 = _ from h1]
  rfl

theorem opn_laws_Loss_25 : Opn Try.prog 25 laws_Loss := fun enc w n cs x hx => by
  obtain ⟨hl, k, hf⟩ := trod_fields Try.underlying25 hx
  rw [cells25] at hl
  obtain ⟨d0, h0, o0⟩ := opn_field (α := laws_Frac) (o := 0) (z := 2) 0 hf rfl (opn_laws_Frac_23) rfl cells23
  obtain ⟨d1, h1, o1⟩ := opn_field (α := laws_Frac) (o := 2) (z := 2) 1 hf rfl (opn_laws_Frac_23) rfl cells23
  have e := slabs_all [2, 2] hl
  refine ⟨⟨d0, d1⟩, ?_, o0, o1⟩
  show cs = _
  rw [e]
  simp only [slabsFrom, Nat.zero_add, Nat.reduceAdd]
  rw [show slab cs 0 2 = _ from h0]
  rw [show slab cs 2 2 = _ from h1]
  rfl

theorem opn_laws_Entry_119 : Opn Try.prog 119 laws_Entry := fun enc w n cs x hx => by
  obtain ⟨hl, k, hf⟩ := trod_fields Try.underlying119 hx
  rw [cells119] at hl
  obtain ⟨d0, h0, o0⟩ := opn_field (α := Int) (o := 0) (z := 1) 0 hf rfl (opn_int Try.underlying3) rfl cells3
  obtain ⟨d1, h1, o1⟩ := opn_field (α := laws_Loss) (o := 1) (z := 4) 1 hf rfl (opn_laws_Loss_25) rfl cells25
  have e := slabs_all [1, 4] hl
  refine ⟨⟨d0, d1⟩, ?_, o0, o1⟩
  show cs = _
  rw [e]
  simp only [slabsFrom, Nat.zero_add, Nat.reduceAdd]
  rw [show slab cs 0 1 = _ from h0]
  rw [show slab cs 1 4 = _ from h1]
  rfl

theorem opn_sl_78 : @Opn Try.prog 78 (List laws_Entry) instRepList _ := opn_list Try.underlying78 (opn_laws_Entry_119) cells119.symm (by show 0 < 5; decide)

theorem walk (a0 : laws_Loss) (a1 : List laws_Entry) (o0 : Rng.ok a0) (o1 : Rng.ok a1) (w : World) (s1 : Sl) (g1 : Rd (memW w) s1 a1) : Calls Try.prog 17 #[(.agg #[(.int .i64 a0.Ratio.Num), (.int .i64 a0.Ratio.Den), (.int .i64 a0.Rho.Num), (.int .i64 a0.Rho.Den)]), s1.v] w fun e w' => e = .returned (.bool true) ∧ Below w.heap.size w w' :=
  (c_laws_FnExactAcceptEntries a0 a1 true (laws_FnExactAcceptEntries_true a0 a1 o0 o1) w (memW w) (Vis.memW w) s1 g1).mono fun e w' h => by obtain ⟨v, rfl, hb, rfl⟩ := h; exact ⟨rfl, hb⟩

set_option maxRecDepth 100000 in
theorem lifted (os : Os) (started : os.Started) (H : Type) (enc : TypeId × Value → H) :
    ReturnsInHanded {} Try.checked os 17 .any (Rows.fnExactAcceptEntriesSpec.pre6 enc Try.prog Try.f17 Rows.fnExactAcceptEntriesRow.domain false) (Rows.fnExactAcceptEntriesSpec.post enc Try.prog Try.f17 false true false false) := by
  refine returnsInHanded_of_change (C := Try.checked) own started (by kernel_rfl) Try.func17
    (ChangeSpec.witness6 (enc := enc) (C := Try.checked) false ⟨#[], #[(.agg #[(.int .i64 0), (.int .i64 0), (.int .i64 0), (.int .i64 0)]), .slice none 0 0], []⟩ 8 (by kernel_rfl) (by kernel_rfl) (by kernel_rfl) (by kernel_rfl)) ?_
  intro W base args ds gs before hval0 hW hcnd _
  have hval : ∀ (j : Nat) t v, Try.f17.params[j]? = some t → args[j]? = some v → Value.okWide Try.prog W .any base t v := hval0
  have hW' := hW
  obtain ⟨p, q, hA0, hV, rfl, hfz, hnd⟩ := hW
  have hA : DataW.TrodAll enc Try.prog W 0 (fun _ => true) true Try.f17.params.toList args.toList ds p := hA0
  rw [Try.params17] at hA hval
  obtain ⟨v0, vs0, d0, ds0, p0, q0, hargs, rfl, rfl, h0, r0⟩ := trodAll_cons hA
  obtain ⟨v1, vs1, d1, ds1, p1, q1, rfl, rfl, rfl, h1, r1⟩ := trodAll_cons r0
  obtain ⟨rfl, rfl, rfl⟩ := trodAll_nil r1
  obtain rfl : args = #[v0, v1] := by cases args; simp_all
  obtain ⟨rfl, rfl⟩ := trodVars_none hV
  have k0 := h0
  have lt0 : ∀ x ∈ p0, x.block < W.heap.size := by obtain ⟨m, hm⟩ := k0; exact DataW.trod_lt m _ _ _ hm
  obtain ⟨cs0, rfl, z0⟩ := okWide_struct Try.underlying25 (hval 0 25 v0 rfl rfl)
  obtain ⟨n0, t0⟩ := h0
  obtain ⟨a0, rd0, o0⟩ := opn_laws_Loss_25 enc W n0 _ _ t0
  obtain rfl : cs0 = #[(.int .i64 a0.Ratio.Num), (.int .i64 a0.Ratio.Den), (.int .i64 a0.Rho.Num), (.int .i64 a0.Rho.Den)] := by
    have e : cs0.toList = [(.int .i64 a0.Ratio.Num), (.int .i64 a0.Ratio.Den), (.int .i64 a0.Rho.Num), (.int .i64 a0.Rho.Den)] := rd0
    rw [← Array.toArray_toList (xs := cs0), e]
  have k1 := h1
  have lt1 : ∀ x ∈ p1, x.block < W.heap.size := by obtain ⟨m, hm⟩ := k1; exact DataW.trod_lt m _ _ _ hm
  obtain ⟨ap1, al1, ac1, rfl⟩ := okWide_slice Try.underlying78 (hval 1 78 v1 rfl rfl)
  obtain ⟨n1, t1⟩ := h1
  obtain ⟨a1, rd1, o1⟩ := opn_sl_78 enc W n1 _ _ t1
  obtain ⟨s1, rd1, g1⟩ := rd1
  obtain ⟨pp, pl, pc⟩ := s1
  obtain ⟨rfl, rfl, rfl⟩ : ap1 = pp ∧ al1 = pl ∧ ac1 = pc := by
    have e : [Value.slice ap1 al1 ac1] = [Value.slice pp pl pc] := rd1
    simpa using e
  clear hA0 hval0
  refine (walk a0 a1 o0 o1 W ⟨ap1, al1, ac1⟩ g1).mono fun e W' ⟨he, bel⟩ => ?_
  subst he
  exact ⟨_, rfl, _, _, _, [], _, [], hW', trodAll_mk1 (shut_bool Try.underlying4 _), (trodAll_cons_mk (Below.trod laidOut (by kernel_rfl) (of_decide_eq_true (by kernel_rfl)) k0 bel lt0) (trodAll_cons_mk (Below.trod laidOut (by kernel_rfl) (of_decide_eq_true (by kernel_rfl)) k1 bel lt1) trodAll_mk0)), rfl, bel.frame _, fun h => by cases h⟩

theorem over : Rows.fnExactAcceptEntriesRow.holds Try.pinned (OpenSpec.ofChange Rows.fnExactAcceptEntriesSpec) :=
  OpenClaim.holds_of_wide 17 Try.f17 rfl rfl rfl rfl rfl rfl rfl ⟨rfl, rfl, rfl, rfl, rfl⟩ rfl rfl rfl rfl rfl (by kernel_rfl) Try.func17 closed
    (of_decide_eq_true (by kernel_rfl)) (by unfold Func.isWrapper; first | (rw [if_pos (by decide +kernel)]; kernel_rfl) | (rw [if_neg (by decide +kernel)]; exact ⟨rfl, rfl⟩))
    (fun os started H enc _ => lifted os started H enc)

theorem proved : Rows.FnExactAcceptEntriesSaid := over
end Go.Proofs.Ytkgmphgbmjbfhaa.fnExactAcceptEntries
