/-
  No cell of these rows narrows 'for every input' (looked for: loops, veiled, ifaces, maps, wideKeys, modest, calm, conditions, laid).
  DERIVED. THE GIVEN ROWS OF THIS SEAT. 6 by the template 'for every input the law returns true; each argument reads behind the call as it read before'; 0 by the template 'total and deterministic' (their statements: YtbmeacngcdekbaaTotals.lean).
  GIVEN WITH THE SEED: the statements are not yours to turn. If you find one false, say at which input.
  Laid BY PROGRAM, IN A SANDBOX (cutbox-rows.mjs): the forced cells as the released guide's own fill.sh prints them over the translation b258494dfe5d3fbc… (all of the seat's roots in one cut). By AI agents, Wed Nov 11 2026. No macro, syntax, notation, axiom, sorry.
-/
import Derived.Test.YtbmeacngcdekbaaChecked
import GoSem.Claim
import GoSem.ClaimJoined
import GoSem.ClaimMapViews
import Derived.JoinedTies
import Derived.KernelRfl
namespace Go.Proofs.Ytbmeacngcdekbaa
/- THE CELL 'sum', in the pinned program and in every row, IS THE sha256 OF THE DUMP (.gsa) THAT YtbmeacngcdekbaaProg.lean LOADS. Nothing in Lean hashes anything: it is a label: what it is worth is what the hold of that sum in a sandbox is worth. -/
noncomputable def Try.pinned : Pinned := { name := "ytbmeacngcdekbaa", sum := "b258494dfe5d3fbc91b14c217d36b6983fe7bd9b5a1347fe7de40b10ebd0ce37", checked := Try.checked }
namespace Rows
def none {H : Type} : Left H := { results := [], args := [] }

/-- 'laws.FnExactNoLoss': WHATEVER THE INPUT: true; the input reads as it did. -/
def fnExactNoLossSpec : ChangeSpec := { name := "fnExactNoLoss", fn := fun _ => fun
  | [] => { results := [.lit (.bool true)], args := [] }
  | _ => none }
def fnExactNoLossRow : OpenClaim := { program := "ytbmeacngcdekbaa", sum := "b258494dfe5d3fbc91b14c217d36b6983fe7bd9b5a1347fe7de40b10ebd0ce37", func := "loop.example/g00908/laws.FnExactNoLoss", spec := "fnExactNoLoss", apart := false }
def FnExactNoLossSaid : Prop := fnExactNoLossRow.holds Try.pinned (OpenSpec.ofChange fnExactNoLossSpec)

/-- ITS FALSE NEIGHBOUR: 'it returns false'. Refute it at one input. -/
def fnExactNoLossWrong : ChangeSpec := { name := "fnExactNoLoss", fn := fun _ => fun
  | [] => { results := [.lit (.bool false)], args := [] }
  | _ => none }
def FnExactNoLossWrongFalsely : Prop := fnExactNoLossRow.holds Try.pinned (OpenSpec.ofChange fnExactNoLossWrong)

/-- 'laws.FnExactIsLoss': WHATEVER THE INPUT: true; the input reads as it did. -/
def fnExactIsLossSpec : ChangeSpec := { name := "fnExactIsLoss", fn := fun _ => fun
  | [d] => { results := [.lit (.bool true)], args := [d] }
  | _ => none }
def fnExactIsLossRow : OpenClaim := { program := "ytbmeacngcdekbaa", sum := "b258494dfe5d3fbc91b14c217d36b6983fe7bd9b5a1347fe7de40b10ebd0ce37", func := "loop.example/g00908/laws.FnExactIsLoss", spec := "fnExactIsLoss", apart := false }
def FnExactIsLossSaid : Prop := fnExactIsLossRow.holds Try.pinned (OpenSpec.ofChange fnExactIsLossSpec)

/-- ITS FALSE NEIGHBOUR: 'it returns false'. Refute it at one input. -/
def fnExactIsLossWrong : ChangeSpec := { name := "fnExactIsLoss", fn := fun _ => fun
  | [d] => { results := [.lit (.bool false)], args := [d] }
  | _ => none }
def FnExactIsLossWrongFalsely : Prop := fnExactIsLossRow.holds Try.pinned (OpenSpec.ofChange fnExactIsLossWrong)

/-- 'laws.FnExactScaleFor': WHATEVER THE INPUT: true; the input reads as it did. -/
def fnExactScaleForSpec : ChangeSpec := { name := "fnExactScaleFor", fn := fun _ => fun
  | [d] => { results := [.lit (.bool true)], args := [d] }
  | _ => none }
def fnExactScaleForRow : OpenClaim := { program := "ytbmeacngcdekbaa", sum := "b258494dfe5d3fbc91b14c217d36b6983fe7bd9b5a1347fe7de40b10ebd0ce37", func := "loop.example/g00908/laws.FnExactScaleFor", spec := "fnExactScaleFor", apart := false }
def FnExactScaleForSaid : Prop := fnExactScaleForRow.holds Try.pinned (OpenSpec.ofChange fnExactScaleForSpec)

/-- ITS FALSE NEIGHBOUR: 'it returns false'. Refute it at one input. -/
def fnExactScaleForWrong : ChangeSpec := { name := "fnExactScaleFor", fn := fun _ => fun
  | [d] => { results := [.lit (.bool false)], args := [d] }
  | _ => none }
def FnExactScaleForWrongFalsely : Prop := fnExactScaleForRow.holds Try.pinned (OpenSpec.ofChange fnExactScaleForWrong)

/-- 'laws.FnExactIsWithin': WHATEVER THE INPUT: true; the input reads as it did. -/
def fnExactIsWithinSpec : ChangeSpec := { name := "fnExactIsWithin", fn := fun _ => fun
  | [d1, d2] => { results := [.lit (.bool true)], args := [d1, d2] }
  | _ => none }
def fnExactIsWithinRow : OpenClaim := { program := "ytbmeacngcdekbaa", sum := "b258494dfe5d3fbc91b14c217d36b6983fe7bd9b5a1347fe7de40b10ebd0ce37", func := "loop.example/g00908/laws.FnExactIsWithin", spec := "fnExactIsWithin", apart := false }
def FnExactIsWithinSaid : Prop := fnExactIsWithinRow.holds Try.pinned (OpenSpec.ofChange fnExactIsWithinSpec)

/-- ITS FALSE NEIGHBOUR: 'it returns false'. Refute it at one input. -/
def fnExactIsWithinWrong : ChangeSpec := { name := "fnExactIsWithin", fn := fun _ => fun
  | [d1, d2] => { results := [.lit (.bool false)], args := [d1, d2] }
  | _ => none }
def FnExactIsWithinWrongFalsely : Prop := fnExactIsWithinRow.holds Try.pinned (OpenSpec.ofChange fnExactIsWithinWrong)

/-- 'laws.FnExactSigmaFor': WHATEVER THE INPUT: true; the input reads as it did. -/
def fnExactSigmaForSpec : ChangeSpec := { name := "fnExactSigmaFor", fn := fun _ => fun
  | [d1, d2] => { results := [.lit (.bool true)], args := [d1, d2] }
  | _ => none }
def fnExactSigmaForRow : OpenClaim := { program := "ytbmeacngcdekbaa", sum := "b258494dfe5d3fbc91b14c217d36b6983fe7bd9b5a1347fe7de40b10ebd0ce37", func := "loop.example/g00908/laws.FnExactSigmaFor", spec := "fnExactSigmaFor", apart := false }
def FnExactSigmaForSaid : Prop := fnExactSigmaForRow.holds Try.pinned (OpenSpec.ofChange fnExactSigmaForSpec)

/-- ITS FALSE NEIGHBOUR: 'it returns false'. Refute it at one input. -/
def fnExactSigmaForWrong : ChangeSpec := { name := "fnExactSigmaFor", fn := fun _ => fun
  | [d1, d2] => { results := [.lit (.bool false)], args := [d1, d2] }
  | _ => none }
def FnExactSigmaForWrongFalsely : Prop := fnExactSigmaForRow.holds Try.pinned (OpenSpec.ofChange fnExactSigmaForWrong)

/-- 'laws.FnExactLogRatio': WHATEVER THE INPUT: true; the input reads as it did. -/
def fnExactLogRatioSpec : ChangeSpec := { name := "fnExactLogRatio", fn := fun _ => fun
  | [d1, d2, d3] => { results := [.lit (.bool true)], args := [d1, d2, d3] }
  | _ => none }
def fnExactLogRatioRow : OpenClaim := { program := "ytbmeacngcdekbaa", sum := "b258494dfe5d3fbc91b14c217d36b6983fe7bd9b5a1347fe7de40b10ebd0ce37", func := "loop.example/g00908/laws.FnExactLogRatio", spec := "fnExactLogRatio", apart := false }
def FnExactLogRatioSaid : Prop := fnExactLogRatioRow.holds Try.pinned (OpenSpec.ofChange fnExactLogRatioSpec)

/-- ITS FALSE NEIGHBOUR: 'it returns false'. Refute it at one input. -/
def fnExactLogRatioWrong : ChangeSpec := { name := "fnExactLogRatio", fn := fun _ => fun
  | [d1, d2, d3] => { results := [.lit (.bool false)], args := [d1, d2, d3] }
  | _ => none }
def FnExactLogRatioWrongFalsely : Prop := fnExactLogRatioRow.holds Try.pinned (OpenSpec.ofChange fnExactLogRatioWrong)

/- THE SECOND FORM. 'bulk': how many values and letters a reading holds, each counted each time it is reached (what is shared counts as often as it is met; a slice's spare places count too). A statement '..UptoSaid' is the law's where the arguments, and the package variables that the reading takes, are together of bulk at most 1048576: NARROWER than '..Said'. Prove '..Said' where nothing that the law and all that it calls make is longer than what came in: it says more and counts as full. Else prove '..UptoSaid'. A law counts once. -/
mutual
def uptoBulk {H : Type} : DataW H → Nat
  | .lit (.string bytes) => bytes.length + 1
  | .lit _ => 1
  | .nil => 1
  | .ptr d => uptoBulk d + 1
  | .slice elems spare => uptoBulkAll elems + uptoBulkAll spare + 1
  | .agg parts => uptoBulkAll parts + 1
  | .iface _ d => uptoBulk d + 1
  | .map entries => uptoBulkEntries entries + 1
  | .held _ => 1
def uptoBulkAll {H : Type} : List (DataW H) → Nat
  | [] => 0
  | d :: r => uptoBulk d + uptoBulkAll r
def uptoBulkEntries {H : Type} : List (Lit × DataW H) → Nat
  | [] => 0
  | x :: r => uptoBulkEntry x + uptoBulkEntries r
def uptoBulkEntry {H : Type} : Lit × DataW H → Nat
  | (.string bytes, d) => bytes.length + uptoBulk d + 1
  | (_, d) => uptoBulk d + 1
 end
def uptoSmall : (H : Type) → List (DataW H) → Bool := fun _ ds => decide (uptoBulkAll ds ≤ 1048576)
def OpenSpec.upto (s : _root_.Go.ChangeSpec) : _root_.Go.OpenSpec := { _root_.Go.OpenSpec.ofChange s with cond := some uptoSmall }

/-- 'laws.FnExactNoLoss', WHERE WHAT IT READS IS OF BULK AT MOST 1048576: true; the input reads as it did. -/
def fnExactNoLossUptoRow : OpenClaim := { program := "ytbmeacngcdekbaa", sum := "b258494dfe5d3fbc91b14c217d36b6983fe7bd9b5a1347fe7de40b10ebd0ce37", func := "loop.example/g00908/laws.FnExactNoLoss", spec := "fnExactNoLoss", apart := false, narrowed := true }
def FnExactNoLossUptoSaid : Prop := fnExactNoLossUptoRow.holds Try.pinned (OpenSpec.upto fnExactNoLossSpec)

/-- 'laws.FnExactIsLoss', WHERE WHAT IT READS IS OF BULK AT MOST 1048576: true; the input reads as it did. -/
def fnExactIsLossUptoRow : OpenClaim := { program := "ytbmeacngcdekbaa", sum := "b258494dfe5d3fbc91b14c217d36b6983fe7bd9b5a1347fe7de40b10ebd0ce37", func := "loop.example/g00908/laws.FnExactIsLoss", spec := "fnExactIsLoss", apart := false, narrowed := true }
def FnExactIsLossUptoSaid : Prop := fnExactIsLossUptoRow.holds Try.pinned (OpenSpec.upto fnExactIsLossSpec)

/-- 'laws.FnExactScaleFor', WHERE WHAT IT READS IS OF BULK AT MOST 1048576: true; the input reads as it did. -/
def fnExactScaleForUptoRow : OpenClaim := { program := "ytbmeacngcdekbaa", sum := "b258494dfe5d3fbc91b14c217d36b6983fe7bd9b5a1347fe7de40b10ebd0ce37", func := "loop.example/g00908/laws.FnExactScaleFor", spec := "fnExactScaleFor", apart := false, narrowed := true }
def FnExactScaleForUptoSaid : Prop := fnExactScaleForUptoRow.holds Try.pinned (OpenSpec.upto fnExactScaleForSpec)

/-- 'laws.FnExactIsWithin', WHERE WHAT IT READS IS OF BULK AT MOST 1048576: true; the input reads as it did. -/
def fnExactIsWithinUptoRow : OpenClaim := { program := "ytbmeacngcdekbaa", sum := "b258494dfe5d3fbc91b14c217d36b6983fe7bd9b5a1347fe7de40b10ebd0ce37", func := "loop.example/g00908/laws.FnExactIsWithin", spec := "fnExactIsWithin", apart := false, narrowed := true }
def FnExactIsWithinUptoSaid : Prop := fnExactIsWithinUptoRow.holds Try.pinned (OpenSpec.upto fnExactIsWithinSpec)

/-- 'laws.FnExactSigmaFor', WHERE WHAT IT READS IS OF BULK AT MOST 1048576: true; the input reads as it did. -/
def fnExactSigmaForUptoRow : OpenClaim := { program := "ytbmeacngcdekbaa", sum := "b258494dfe5d3fbc91b14c217d36b6983fe7bd9b5a1347fe7de40b10ebd0ce37", func := "loop.example/g00908/laws.FnExactSigmaFor", spec := "fnExactSigmaFor", apart := false, narrowed := true }
def FnExactSigmaForUptoSaid : Prop := fnExactSigmaForUptoRow.holds Try.pinned (OpenSpec.upto fnExactSigmaForSpec)

/-- 'laws.FnExactLogRatio', WHERE WHAT IT READS IS OF BULK AT MOST 1048576: true; the input reads as it did. -/
def fnExactLogRatioUptoRow : OpenClaim := { program := "ytbmeacngcdekbaa", sum := "b258494dfe5d3fbc91b14c217d36b6983fe7bd9b5a1347fe7de40b10ebd0ce37", func := "loop.example/g00908/laws.FnExactLogRatio", spec := "fnExactLogRatio", apart := false, narrowed := true }
def FnExactLogRatioUptoSaid : Prop := fnExactLogRatioUptoRow.holds Try.pinned (OpenSpec.upto fnExactLogRatioSpec)

end Rows
end Go.Proofs.Ytbmeacngcdekbaa
