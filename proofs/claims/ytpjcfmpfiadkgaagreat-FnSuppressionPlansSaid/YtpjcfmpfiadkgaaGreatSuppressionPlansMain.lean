/- FnSuppressionPlans: for every input the law returns true, and each argument reads afterwards as it read before. Conditions: those of the given statement alone. -/
import Derived.Test.YtpjcfmpfiadkgaaGreatSWalks4
import Derived.Test.YtpjcfmpfiadkgaaGreatSPSup
import Derived.ProofKit
import Derived.OpenShut
import Derived.ShutString
import Derived.ChangeOld
import Derived.Carry
namespace Go.Proofs.YtpjcfmpfiadkgaaGreat.fnSuppressionPlans
open Go.ChangeShapes Go.WideShapes Go.ChangeAt Go.RowKit Go.Gx Go.Gx.F
open Go.ChangeMaps (open_string shut_string)
set_option linter.all false

theorem own : ownKnob Tryz.prog.godebug = none := by kernel_rfl
theorem laidOut : laidOutB Tryz.prog = true := by kernel_rfl

def io : List Char := ['h', 'a', 'r', 'n', 'e', 's', 's'] ++ ' ' :: (['5', '8', '1', '0', '4', '0', '3', '0', 'b', '8', '2', '5', '3', 'c', '5', 'a', '4', '3', '2', '9', 'b', '9', 'b', '0', '2', '6', '1', '1', 'f', 'b', 'c', 'f', '8', '0', '2', 'b', '3', '8', '2', 'a', '7', '1', '5', 'f', '8', '8', 'a', 'c', 'a', '2', '0', '0', 'e', '3', 'f', 'a', 'd', '8', 'b', '1', '8', '1', '8', 'c'] ++ ' ' :: (['c', 'u', 't'] ++ ' ' :: (['a', 't'] ++ ' ' :: (['l', 'o', 'o', 'p', '.', 'e', 'x', 'a', 'm', 'p', 'l', 'e', '/', 'g', '0', '0', '9', '0', '8', '/', 'l', 'a', 'w', 's', '.', 'F', 'n', 'S', 'u', 'p', 'p', 'r', 'e', 's', 's', 'i', 'o', 'n', 'P', 'l', 'a', 'n', 's']))))
theorem ioEq : Tryz.prog.initOrder = String.ofList io := by kernel_rfl
theorem ioL : Tryz.prog.initOrder.toList = io := by rw [ioEq]; exact String.toList_ofList
theorem ioW : wordsSigns io = [['h', 'a', 'r', 'n', 'e', 's', 's'], ['5', '8', '1', '0', '4', '0', '3', '0', 'b', '8', '2', '5', '3', 'c', '5', 'a', '4', '3', '2', '9', 'b', '9', 'b', '0', '2', '6', '1', '1', 'f', 'b', 'c', 'f', '8', '0', '2', 'b', '3', '8', '2', 'a', '7', '1', '5', 'f', '8', '8', 'a', 'c', 'a', '2', '0', '0', 'e', '3', 'f', 'a', 'd', '8', 'b', '1', '8', '1', '8', 'c'], ['c', 'u', 't'], ['a', 't'], ['l', 'o', 'o', 'p', '.', 'e', 'x', 'a', 'm', 'p', 'l', 'e', '/', 'g', '0', '0', '9', '0', '8', '/', 'l', 'a', 'w', 's', '.', 'F', 'n', 'S', 'u', 'p', 'p', 'r', 'e', 's', 's', 'i', 'o', 'n', 'P', 'l', 'a', 'n', 's']] := by
  unfold io
  rw [ws_word _ _ (by kernel_rfl), ws_word _ _ (by kernel_rfl), ws_word _ _ (by kernel_rfl), ws_word _ _ (by kernel_rfl), ws_last _ (by kernel_rfl)]
theorem enters : Tryz.prog.mayEnter = true := enter_cut (by rw [ioL, ioW]; rfl) (by kernel_rfl) (by kernel_rfl) (by kernel_rfl) (by kernel_rfl)
theorem lifts : Tryz.prog.liftsFinal = false := by
  unfold Program.liftsFinal Program.headLifts
  rw [ioL, ioW]
  kernel_rfl
theorem made : Tryz.prog.make = some Rows.fnSuppressionPlansRow.make := make_cut (by rw [ioL, ioW]; rfl) (by kernel_rfl)
theorem closed : joinedFacts Tryz.prog 3 Tryz.f3 Rows.fnSuppressionPlansSpec Rows.fnSuppressionPlansRow = true := by
  unfold joinedFacts
  rw [enters, lifts, made]
  kernel_rfl

theorem cells5 : Tryz.prog.cellsOf 5 = 1 := by kernel_rfl

theorem opn_sl_22 : @Opn Tryz.prog 22 (List (K .u8)) instRepList _ := opn_list Tryz.underlying22 (opn_K Tryz.underlying5) cells5.symm (by show 0 < 1; decide)

theorem walk (a0 : List (K .u8)) (a1 : List (K .u8)) (o0 : Rng.ok a0) (o1 : Rng.ok a1) (w : World) (s1 : Sl) (g1 : Rd (memW w) s1 a0) (s2 : Sl) (g2 : Rd (memW w) s2 a1) : Calls Tryz.prog 3 #[s1.v, s2.v] w fun e w' => e = .returned (.bool true) ∧ Below w.heap.size w w' :=
  (c_laws_FnSuppressionPlans a0 a1 true (laws_FnSuppressionPlans_true a0 a1 o0 o1) w (memW w) (Vis.memW w) s1 g1 s2 g2).mono fun e w' h => by obtain ⟨v, rfl, hb, rfl⟩ := h; exact ⟨rfl, hb⟩

set_option maxRecDepth 100000 in
theorem lifted (os : Os) (started : os.Started) (H : Type) (enc : TypeId × Value → H) :
    ReturnsInHanded {} Tryz.checked os 3 .any (Rows.fnSuppressionPlansSpec.pre6 enc Tryz.prog Tryz.f3 Rows.fnSuppressionPlansRow.domain false) (Rows.fnSuppressionPlansSpec.post enc Tryz.prog Tryz.f3 false true false false) := by
  refine returnsInHanded_of_change (C := Tryz.checked) own started (by kernel_rfl) Tryz.func3
    (ChangeSpec.witness6 (enc := enc) (C := Tryz.checked) false ⟨#[], #[.slice none 0 0, .slice none 0 0], []⟩ 8 (by kernel_rfl) (by kernel_rfl) (by kernel_rfl) (by kernel_rfl)) ?_
  intro W base args ds gs before hval0 hW hcnd _
  have hval : ∀ (j : Nat) t v, Tryz.f3.params[j]? = some t → args[j]? = some v → Value.okWide Tryz.prog W .any base t v := hval0
  have hW' := hW
  obtain ⟨p, q, hA0, hV, rfl, hfz, hnd⟩ := hW
  have hA : DataW.TrodAll enc Tryz.prog W 0 (fun _ => true) true Tryz.f3.params.toList args.toList ds p := hA0
  rw [Tryz.params3] at hA hval
  obtain ⟨v0, vs0, d0, ds0, p0, q0, hargs, rfl, rfl, h0, r0⟩ := trodAll_cons hA
  obtain ⟨v1, vs1, d1, ds1, p1, q1, rfl, rfl, rfl, h1, r1⟩ := trodAll_cons r0
  obtain ⟨rfl, rfl, rfl⟩ := trodAll_nil r1
  obtain rfl : args = #[v0, v1] := by cases args; simp_all
  obtain ⟨rfl, rfl⟩ := trodVars_none hV
  have k0 := h0
  have lt0 : ∀ x ∈ p0, x.block < W.heap.size := by obtain ⟨m, hm⟩ := k0; exact DataW.trod_lt m _ _ _ hm
  obtain ⟨ap0, al0, ac0, rfl⟩ := okWide_slice Tryz.underlying22 (hval 0 22 v0 rfl rfl)
  obtain ⟨n0, t0⟩ := h0
  obtain ⟨a0, rd0, o0⟩ := opn_sl_22 enc W n0 _ _ t0
  obtain ⟨s1, rd0, g1⟩ := rd0
  obtain ⟨pp, pl, pc⟩ := s1
  obtain ⟨rfl, rfl, rfl⟩ : ap0 = pp ∧ al0 = pl ∧ ac0 = pc := by
    have e : [Value.slice ap0 al0 ac0] = [Value.slice pp pl pc] := rd0
    simpa using e
  have k1 := h1
  have lt1 : ∀ x ∈ p1, x.block < W.heap.size := by obtain ⟨m, hm⟩ := k1; exact DataW.trod_lt m _ _ _ hm
  obtain ⟨ap1, al1, ac1, rfl⟩ := okWide_slice Tryz.underlying22 (hval 1 22 v1 rfl rfl)
  obtain ⟨n1, t1⟩ := h1
  obtain ⟨a1, rd1, o1⟩ := opn_sl_22 enc W n1 _ _ t1
  obtain ⟨s2, rd1, g2⟩ := rd1
  obtain ⟨pp, pl, pc⟩ := s2
  obtain ⟨rfl, rfl, rfl⟩ : ap1 = pp ∧ al1 = pl ∧ ac1 = pc := by
    have e : [Value.slice ap1 al1 ac1] = [Value.slice pp pl pc] := rd1
    simpa using e
  clear hA0 hval0
  refine (walk a0 a1 o0 o1 W ⟨ap0, al0, ac0⟩ g1 ⟨ap1, al1, ac1⟩ g2).mono fun e W' ⟨he, bel⟩ => ?_
  subst he
  exact ⟨_, rfl, _, _, _, [], _, [], hW', trodAll_mk1 (shut_bool Tryz.underlying4 _), (trodAll_cons_mk (Below.trod laidOut (by kernel_rfl) (of_decide_eq_true (by kernel_rfl)) k0 bel lt0) (trodAll_cons_mk (Below.trod laidOut (by kernel_rfl) (of_decide_eq_true (by kernel_rfl)) k1 bel lt1) trodAll_mk0)), rfl, bel.frame _, fun h => by cases h⟩

theorem over : Rows.fnSuppressionPlansRow.holds Tryz.pinned (OpenSpec.ofChange Rows.fnSuppressionPlansSpec) :=
  OpenClaim.holds_of_wide 3 Tryz.f3 rfl rfl rfl rfl rfl rfl rfl ⟨rfl, rfl, rfl, rfl, rfl⟩ rfl rfl rfl rfl rfl (by kernel_rfl) Tryz.func3 closed
    (of_decide_eq_true (by kernel_rfl)) (by unfold Func.isWrapper; first | (rw [if_pos (by decide +kernel)]; kernel_rfl) | (rw [if_neg (by decide +kernel)]; exact ⟨rfl, rfl⟩))
    (fun os started H enc _ => lifted os started H enc)

theorem proved : Rows.FnSuppressionPlansSaid := over
end Go.Proofs.YtpjcfmpfiadkgaaGreat.fnSuppressionPlans
