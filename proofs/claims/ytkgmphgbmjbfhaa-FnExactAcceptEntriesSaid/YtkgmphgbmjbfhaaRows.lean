/-
  No cell of these rows narrows 'for every input' (looked for: loops, veiled, ifaces, maps, wideKeys, modest, calm, conditions, laid).
  DERIVED. THE GIVEN ROWS OF THIS SEAT. 15 by the template 'for every input the law returns true; each argument reads behind the call as it read before'; 0 by the template 'total and deterministic' (their statements: YtkgmphgbmjbfhaaTotals.lean).
  GIVEN WITH THE SEED: the statements are not yours to turn. If you find one false, say at which input.
  Laid BY PROGRAM, IN A SANDBOX (cutbox-rows.mjs): the forced cells as the released guide's own fill.sh prints them over the translation 126781773edaace7… (all of the seat's roots in one cut). By AI agents, Wed Nov 11 2026. No macro, syntax, notation, axiom, sorry.
-/
import Derived.Test.YtkgmphgbmjbfhaaChecked
import GoSem.Claim
import GoSem.ClaimJoined
import GoSem.ClaimMapViews
import Derived.JoinedTies
import Derived.KernelRfl
namespace Go.Proofs.Ytkgmphgbmjbfhaa
/- THE CELL 'sum', in the pinned program and in every row, IS THE sha256 OF THE DUMP (.gsa) THAT YtkgmphgbmjbfhaaProg.lean LOADS. Nothing in Lean hashes anything: it is a label: what it is worth is what the hold of that sum in a sandbox is worth. -/
noncomputable def Try.pinned : Pinned := { name := "ytkgmphgbmjbfhaa", sum := "126781773edaace7e6cba78609a56fa2e74446b90f3ed9ea151d6e2613eeee7b", checked := Try.checked }
namespace Rows
def none {H : Type} : Left H := { results := [], args := [] }

/-- 'laws.FnExactRemainingLoss': WHATEVER THE INPUT: true; the input reads as it did. -/
def fnExactRemainingLossSpec : ChangeSpec := { name := "fnExactRemainingLoss", fn := fun _ => fun
  | [d1, d2] => { results := [.lit (.bool true)], args := [d1, d2] }
  | _ => none }
def fnExactRemainingLossRow : OpenClaim := { program := "ytkgmphgbmjbfhaa", sum := "126781773edaace7e6cba78609a56fa2e74446b90f3ed9ea151d6e2613eeee7b", func := "loop.example/g00908/laws.FnExactRemainingLoss", spec := "fnExactRemainingLoss", apart := false }
def FnExactRemainingLossSaid : Prop := fnExactRemainingLossRow.holds Try.pinned (OpenSpec.ofChange fnExactRemainingLossSpec)

/-- ITS FALSE NEIGHBOUR: 'it returns false'. Refute it at one input. -/
def fnExactRemainingLossWrong : ChangeSpec := { name := "fnExactRemainingLoss", fn := fun _ => fun
  | [d1, d2] => { results := [.lit (.bool false)], args := [d1, d2] }
  | _ => none }
def FnExactRemainingLossWrongFalsely : Prop := fnExactRemainingLossRow.holds Try.pinned (OpenSpec.ofChange fnExactRemainingLossWrong)

/-- 'laws.FnExactCountUses': WHATEVER THE INPUT: true; the input reads as it did. -/
def fnExactCountUsesSpec : ChangeSpec := { name := "fnExactCountUses", fn := fun _ => fun
  | [d1, d2] => { results := [.lit (.bool true)], args := [d1, d2] }
  | _ => none }
def fnExactCountUsesRow : OpenClaim := { program := "ytkgmphgbmjbfhaa", sum := "126781773edaace7e6cba78609a56fa2e74446b90f3ed9ea151d6e2613eeee7b", func := "loop.example/g00908/laws.FnExactCountUses", spec := "fnExactCountUses", apart := false }
def FnExactCountUsesSaid : Prop := fnExactCountUsesRow.holds Try.pinned (OpenSpec.ofChange fnExactCountUsesSpec)

/-- ITS FALSE NEIGHBOUR: 'it returns false'. Refute it at one input. -/
def fnExactCountUsesWrong : ChangeSpec := { name := "fnExactCountUses", fn := fun _ => fun
  | [d1, d2] => { results := [.lit (.bool false)], args := [d1, d2] }
  | _ => none }
def FnExactCountUsesWrongFalsely : Prop := fnExactCountUsesRow.holds Try.pinned (OpenSpec.ofChange fnExactCountUsesWrong)

/-- 'laws.FnExactParallelLoss': WHATEVER THE INPUT: true; the input reads as it did. -/
def fnExactParallelLossSpec : ChangeSpec := { name := "fnExactParallelLoss", fn := fun _ => fun
  | [d] => { results := [.lit (.bool true)], args := [d] }
  | _ => none }
def fnExactParallelLossRow : OpenClaim := { program := "ytkgmphgbmjbfhaa", sum := "126781773edaace7e6cba78609a56fa2e74446b90f3ed9ea151d6e2613eeee7b", func := "loop.example/g00908/laws.FnExactParallelLoss", spec := "fnExactParallelLoss", apart := false }
def FnExactParallelLossSaid : Prop := fnExactParallelLossRow.holds Try.pinned (OpenSpec.ofChange fnExactParallelLossSpec)

/-- ITS FALSE NEIGHBOUR: 'it returns false'. Refute it at one input. -/
def fnExactParallelLossWrong : ChangeSpec := { name := "fnExactParallelLoss", fn := fun _ => fun
  | [d] => { results := [.lit (.bool false)], args := [d] }
  | _ => none }
def FnExactParallelLossWrongFalsely : Prop := fnExactParallelLossRow.holds Try.pinned (OpenSpec.ofChange fnExactParallelLossWrong)

/-- 'laws.FnExactGeoMass': WHATEVER THE INPUT: true; the input reads as it did. -/
def fnExactGeoMassSpec : ChangeSpec := { name := "fnExactGeoMass", fn := fun _ => fun
  | [d1, d2] => { results := [.lit (.bool true)], args := [d1, d2] }
  | _ => none }
def fnExactGeoMassRow : OpenClaim := { program := "ytkgmphgbmjbfhaa", sum := "126781773edaace7e6cba78609a56fa2e74446b90f3ed9ea151d6e2613eeee7b", func := "loop.example/g00908/laws.FnExactGeoMass", spec := "fnExactGeoMass", apart := false }
def FnExactGeoMassSaid : Prop := fnExactGeoMassRow.holds Try.pinned (OpenSpec.ofChange fnExactGeoMassSpec)

/-- ITS FALSE NEIGHBOUR: 'it returns false'. Refute it at one input. -/
def fnExactGeoMassWrong : ChangeSpec := { name := "fnExactGeoMass", fn := fun _ => fun
  | [d1, d2] => { results := [.lit (.bool false)], args := [d1, d2] }
  | _ => none }
def FnExactGeoMassWrongFalsely : Prop := fnExactGeoMassRow.holds Try.pinned (OpenSpec.ofChange fnExactGeoMassWrong)

/-- 'laws.FnExactAcceptExponent': WHATEVER THE INPUT: true; the input reads as it did. -/
def fnExactAcceptExponentSpec : ChangeSpec := { name := "fnExactAcceptExponent", fn := fun _ => fun
  | [d1, d2] => { results := [.lit (.bool true)], args := [d1, d2] }
  | _ => none }
def fnExactAcceptExponentRow : OpenClaim := { program := "ytkgmphgbmjbfhaa", sum := "126781773edaace7e6cba78609a56fa2e74446b90f3ed9ea151d6e2613eeee7b", func := "loop.example/g00908/laws.FnExactAcceptExponent", spec := "fnExactAcceptExponent", apart := false }
def FnExactAcceptExponentSaid : Prop := fnExactAcceptExponentRow.holds Try.pinned (OpenSpec.ofChange fnExactAcceptExponentSpec)

/-- ITS FALSE NEIGHBOUR: 'it returns false'. Refute it at one input. -/
def fnExactAcceptExponentWrong : ChangeSpec := { name := "fnExactAcceptExponent", fn := fun _ => fun
  | [d1, d2] => { results := [.lit (.bool false)], args := [d1, d2] }
  | _ => none }
def FnExactAcceptExponentWrongFalsely : Prop := fnExactAcceptExponentRow.holds Try.pinned (OpenSpec.ofChange fnExactAcceptExponentWrong)

/-- 'laws.FnExactLeastRadius': WHATEVER THE INPUT: true; the input reads as it did. -/
def fnExactLeastRadiusSpec : ChangeSpec := { name := "fnExactLeastRadius", fn := fun _ => fun
  | [d1, d2] => { results := [.lit (.bool true)], args := [d1, d2] }
  | _ => none }
def fnExactLeastRadiusRow : OpenClaim := { program := "ytkgmphgbmjbfhaa", sum := "126781773edaace7e6cba78609a56fa2e74446b90f3ed9ea151d6e2613eeee7b", func := "loop.example/g00908/laws.FnExactLeastRadius", spec := "fnExactLeastRadius", apart := false }
def FnExactLeastRadiusSaid : Prop := fnExactLeastRadiusRow.holds Try.pinned (OpenSpec.ofChange fnExactLeastRadiusSpec)

/-- ITS FALSE NEIGHBOUR: 'it returns false'. Refute it at one input. -/
def fnExactLeastRadiusWrong : ChangeSpec := { name := "fnExactLeastRadius", fn := fun _ => fun
  | [d1, d2] => { results := [.lit (.bool false)], args := [d1, d2] }
  | _ => none }
def FnExactLeastRadiusWrongFalsely : Prop := fnExactLeastRadiusRow.holds Try.pinned (OpenSpec.ofChange fnExactLeastRadiusWrong)

/-- 'laws.FnExactSplitRho': WHATEVER THE INPUT: true; the input reads as it did. -/
def fnExactSplitRhoSpec : ChangeSpec := { name := "fnExactSplitRho", fn := fun _ => fun
  | [d1, d2] => { results := [.lit (.bool true)], args := [d1, d2] }
  | _ => none }
def fnExactSplitRhoRow : OpenClaim := { program := "ytkgmphgbmjbfhaa", sum := "126781773edaace7e6cba78609a56fa2e74446b90f3ed9ea151d6e2613eeee7b", func := "loop.example/g00908/laws.FnExactSplitRho", spec := "fnExactSplitRho", apart := false }
def FnExactSplitRhoSaid : Prop := fnExactSplitRhoRow.holds Try.pinned (OpenSpec.ofChange fnExactSplitRhoSpec)

/-- ITS FALSE NEIGHBOUR: 'it returns false'. Refute it at one input. -/
def fnExactSplitRhoWrong : ChangeSpec := { name := "fnExactSplitRho", fn := fun _ => fun
  | [d1, d2] => { results := [.lit (.bool false)], args := [d1, d2] }
  | _ => none }
def FnExactSplitRhoWrongFalsely : Prop := fnExactSplitRhoRow.holds Try.pinned (OpenSpec.ofChange fnExactSplitRhoWrong)

/-- 'laws.FnExactComposeLosses': WHATEVER THE INPUT: true; the input reads as it did. -/
def fnExactComposeLossesSpec : ChangeSpec := { name := "fnExactComposeLosses", fn := fun _ => fun
  | [d] => { results := [.lit (.bool true)], args := [d] }
  | _ => none }
def fnExactComposeLossesRow : OpenClaim := { program := "ytkgmphgbmjbfhaa", sum := "126781773edaace7e6cba78609a56fa2e74446b90f3ed9ea151d6e2613eeee7b", func := "loop.example/g00908/laws.FnExactComposeLosses", spec := "fnExactComposeLosses", apart := false }
def FnExactComposeLossesSaid : Prop := fnExactComposeLossesRow.holds Try.pinned (OpenSpec.ofChange fnExactComposeLossesSpec)

/-- ITS FALSE NEIGHBOUR: 'it returns false'. Refute it at one input. -/
def fnExactComposeLossesWrong : ChangeSpec := { name := "fnExactComposeLosses", fn := fun _ => fun
  | [d] => { results := [.lit (.bool false)], args := [d] }
  | _ => none }
def FnExactComposeLossesWrongFalsely : Prop := fnExactComposeLossesRow.holds Try.pinned (OpenSpec.ofChange fnExactComposeLossesWrong)

/-- 'laws.FnExactCoinChances': WHATEVER THE INPUT: true; the input reads as it did. -/
def fnExactCoinChancesSpec : ChangeSpec := { name := "fnExactCoinChances", fn := fun _ => fun
  | [d1, d2] => { results := [.lit (.bool true)], args := [d1, d2] }
  | _ => none }
def fnExactCoinChancesRow : OpenClaim := { program := "ytkgmphgbmjbfhaa", sum := "126781773edaace7e6cba78609a56fa2e74446b90f3ed9ea151d6e2613eeee7b", func := "loop.example/g00908/laws.FnExactCoinChances", spec := "fnExactCoinChances", apart := false }
def FnExactCoinChancesSaid : Prop := fnExactCoinChancesRow.holds Try.pinned (OpenSpec.ofChange fnExactCoinChancesSpec)

/-- ITS FALSE NEIGHBOUR: 'it returns false'. Refute it at one input. -/
def fnExactCoinChancesWrong : ChangeSpec := { name := "fnExactCoinChances", fn := fun _ => fun
  | [d1, d2] => { results := [.lit (.bool false)], args := [d1, d2] }
  | _ => none }
def FnExactCoinChancesWrongFalsely : Prop := fnExactCoinChancesRow.holds Try.pinned (OpenSpec.ofChange fnExactCoinChancesWrong)

/-- 'laws.FnExactIsMechanism': WHATEVER THE INPUT: true; the input reads as it did. -/
def fnExactIsMechanismSpec : ChangeSpec := { name := "fnExactIsMechanism", fn := fun _ => fun
  | [d] => { results := [.lit (.bool true)], args := [d] }
  | _ => none }
def fnExactIsMechanismRow : OpenClaim := { program := "ytkgmphgbmjbfhaa", sum := "126781773edaace7e6cba78609a56fa2e74446b90f3ed9ea151d6e2613eeee7b", func := "loop.example/g00908/laws.FnExactIsMechanism", spec := "fnExactIsMechanism", apart := false }
def FnExactIsMechanismSaid : Prop := fnExactIsMechanismRow.holds Try.pinned (OpenSpec.ofChange fnExactIsMechanismSpec)

/-- ITS FALSE NEIGHBOUR: 'it returns false'. Refute it at one input. -/
def fnExactIsMechanismWrong : ChangeSpec := { name := "fnExactIsMechanism", fn := fun _ => fun
  | [d] => { results := [.lit (.bool false)], args := [d] }
  | _ => none }
def FnExactIsMechanismWrongFalsely : Prop := fnExactIsMechanismRow.holds Try.pinned (OpenSpec.ofChange fnExactIsMechanismWrong)

/-- 'laws.FnExactExpectedOutput': WHATEVER THE INPUT: true; the input reads as it did. -/
def fnExactExpectedOutputSpec : ChangeSpec := { name := "fnExactExpectedOutput", fn := fun _ => fun
  | [d1, d2] => { results := [.lit (.bool true)], args := [d1, d2] }
  | _ => none }
def fnExactExpectedOutputRow : OpenClaim := { program := "ytkgmphgbmjbfhaa", sum := "126781773edaace7e6cba78609a56fa2e74446b90f3ed9ea151d6e2613eeee7b", func := "loop.example/g00908/laws.FnExactExpectedOutput", spec := "fnExactExpectedOutput", apart := false }
def FnExactExpectedOutputSaid : Prop := fnExactExpectedOutputRow.holds Try.pinned (OpenSpec.ofChange fnExactExpectedOutputSpec)

/-- ITS FALSE NEIGHBOUR: 'it returns false'. Refute it at one input. -/
def fnExactExpectedOutputWrong : ChangeSpec := { name := "fnExactExpectedOutput", fn := fun _ => fun
  | [d1, d2] => { results := [.lit (.bool false)], args := [d1, d2] }
  | _ => none }
def FnExactExpectedOutputWrongFalsely : Prop := fnExactExpectedOutputRow.holds Try.pinned (OpenSpec.ofChange fnExactExpectedOutputWrong)

/-- 'laws.FnExactClampedMasses': WHATEVER THE INPUT: true; the input reads as it did. -/
def fnExactClampedMassesSpec : ChangeSpec := { name := "fnExactClampedMasses", fn := fun _ => fun
  | [d1, d2, d3, d4] => { results := [.lit (.bool true)], args := [d1, d2, d3, d4] }
  | _ => none }
def fnExactClampedMassesRow : OpenClaim := { program := "ytkgmphgbmjbfhaa", sum := "126781773edaace7e6cba78609a56fa2e74446b90f3ed9ea151d6e2613eeee7b", func := "loop.example/g00908/laws.FnExactClampedMasses", spec := "fnExactClampedMasses", apart := false }
def FnExactClampedMassesSaid : Prop := fnExactClampedMassesRow.holds Try.pinned (OpenSpec.ofChange fnExactClampedMassesSpec)

/-- ITS FALSE NEIGHBOUR: 'it returns false'. Refute it at one input. -/
def fnExactClampedMassesWrong : ChangeSpec := { name := "fnExactClampedMasses", fn := fun _ => fun
  | [d1, d2, d3, d4] => { results := [.lit (.bool false)], args := [d1, d2, d3, d4] }
  | _ => none }
def FnExactClampedMassesWrongFalsely : Prop := fnExactClampedMassesRow.holds Try.pinned (OpenSpec.ofChange fnExactClampedMassesWrong)

/-- 'laws.FnExactWorstRatio': WHATEVER THE INPUT: true; the input reads as it did. -/
def fnExactWorstRatioSpec : ChangeSpec := { name := "fnExactWorstRatio", fn := fun _ => fun
  | [d1, d2, d3] => { results := [.lit (.bool true)], args := [d1, d2, d3] }
  | _ => none }
def fnExactWorstRatioRow : OpenClaim := { program := "ytkgmphgbmjbfhaa", sum := "126781773edaace7e6cba78609a56fa2e74446b90f3ed9ea151d6e2613eeee7b", func := "loop.example/g00908/laws.FnExactWorstRatio", spec := "fnExactWorstRatio", apart := false }
def FnExactWorstRatioSaid : Prop := fnExactWorstRatioRow.holds Try.pinned (OpenSpec.ofChange fnExactWorstRatioSpec)

/-- ITS FALSE NEIGHBOUR: 'it returns false'. Refute it at one input. -/
def fnExactWorstRatioWrong : ChangeSpec := { name := "fnExactWorstRatio", fn := fun _ => fun
  | [d1, d2, d3] => { results := [.lit (.bool false)], args := [d1, d2, d3] }
  | _ => none }
def FnExactWorstRatioWrongFalsely : Prop := fnExactWorstRatioRow.holds Try.pinned (OpenSpec.ofChange fnExactWorstRatioWrong)

/-- 'laws.FnExactLedgerLoss': WHATEVER THE INPUT: true; the input reads as it did. -/
def fnExactLedgerLossSpec : ChangeSpec := { name := "fnExactLedgerLoss", fn := fun _ => fun
  | [d] => { results := [.lit (.bool true)], args := [d] }
  | _ => none }
def fnExactLedgerLossRow : OpenClaim := { program := "ytkgmphgbmjbfhaa", sum := "126781773edaace7e6cba78609a56fa2e74446b90f3ed9ea151d6e2613eeee7b", func := "loop.example/g00908/laws.FnExactLedgerLoss", spec := "fnExactLedgerLoss", apart := false }
def FnExactLedgerLossSaid : Prop := fnExactLedgerLossRow.holds Try.pinned (OpenSpec.ofChange fnExactLedgerLossSpec)

/-- ITS FALSE NEIGHBOUR: 'it returns false'. Refute it at one input. -/
def fnExactLedgerLossWrong : ChangeSpec := { name := "fnExactLedgerLoss", fn := fun _ => fun
  | [d] => { results := [.lit (.bool false)], args := [d] }
  | _ => none }
def FnExactLedgerLossWrongFalsely : Prop := fnExactLedgerLossRow.holds Try.pinned (OpenSpec.ofChange fnExactLedgerLossWrong)

/-- 'laws.FnExactAcceptEntries': WHATEVER THE INPUT: true; the input reads as it did. -/
def fnExactAcceptEntriesSpec : ChangeSpec := { name := "fnExactAcceptEntries", fn := fun _ => fun
  | [d1, d2] => { results := [.lit (.bool true)], args := [d1, d2] }
  | _ => none }
def fnExactAcceptEntriesRow : OpenClaim := { program := "ytkgmphgbmjbfhaa", sum := "126781773edaace7e6cba78609a56fa2e74446b90f3ed9ea151d6e2613eeee7b", func := "loop.example/g00908/laws.FnExactAcceptEntries", spec := "fnExactAcceptEntries", apart := false }
def FnExactAcceptEntriesSaid : Prop := fnExactAcceptEntriesRow.holds Try.pinned (OpenSpec.ofChange fnExactAcceptEntriesSpec)

/-- ITS FALSE NEIGHBOUR: 'it returns false'. Refute it at one input. -/
def fnExactAcceptEntriesWrong : ChangeSpec := { name := "fnExactAcceptEntries", fn := fun _ => fun
  | [d1, d2] => { results := [.lit (.bool false)], args := [d1, d2] }
  | _ => none }
def FnExactAcceptEntriesWrongFalsely : Prop := fnExactAcceptEntriesRow.holds Try.pinned (OpenSpec.ofChange fnExactAcceptEntriesWrong)

/- THE SECOND FORM. 'bulk': how many values and letters a reading holds, each counted each time it is reached (what is shared counts as often as it is met; a slice's spare places count too). A statement '..UptoSaid' is the law's where the arguments, and the package variables that the reading takes, are together of bulk at most 1048576: NARROWER than '..Said'. Prove '..Said' where nothing that the law and all that it calls make is longer than what came in: it says more and counts as full. Else prove '..UptoSaid'. A law counts once. -/
mutual
def uptoBulk {H : Type} : DataW H → Nat
  | .lit (.string bytes) => bytes.length + 1
  | .lit _ => 1
  | .nil => 1
  | .ptr d => uptoBulk d + 1
  | .slice elems spare => uptoBulkAll elems + uptoBulkAll spare + 1
  | .agg parts => uptoBulkAll parts + 1
  | .iface _ d => uptoBulk d + 1
  | .map entries => uptoBulkEntries entries + 1
  | .held _ => 1
def uptoBulkAll {H : Type} : List (DataW H) → Nat
  | [] => 0
  | d :: r => uptoBulk d + uptoBulkAll r
def uptoBulkEntries {H : Type} : List (Lit × DataW H) → Nat
  | [] => 0
  | x :: r => uptoBulkEntry x + uptoBulkEntries r
def uptoBulkEntry {H : Type} : Lit × DataW H → Nat
  | (.string bytes, d) => bytes.length + uptoBulk d + 1
  | (_, d) => uptoBulk d + 1
 end
def uptoSmall : (H : Type) → List (DataW H) → Bool := fun _ ds => decide (uptoBulkAll ds ≤ 1048576)
def OpenSpec.upto (s : _root_.Go.ChangeSpec) : _root_.Go.OpenSpec := { _root_.Go.OpenSpec.ofChange s with cond := some uptoSmall }

/-- 'laws.FnExactRemainingLoss', WHERE WHAT IT READS IS OF BULK AT MOST 1048576: true; the input reads as it did. -/
def fnExactRemainingLossUptoRow : OpenClaim := { program := "ytkgmphgbmjbfhaa", sum := "126781773edaace7e6cba78609a56fa2e74446b90f3ed9ea151d6e2613eeee7b", func := "loop.example/g00908/laws.FnExactRemainingLoss", spec := "fnExactRemainingLoss", apart := false, narrowed := true }
def FnExactRemainingLossUptoSaid : Prop := fnExactRemainingLossUptoRow.holds Try.pinned (OpenSpec.upto fnExactRemainingLossSpec)

/-- 'laws.FnExactCountUses', WHERE WHAT IT READS IS OF BULK AT MOST 1048576: true; the input reads as it did. -/
def fnExactCountUsesUptoRow : OpenClaim := { program := "ytkgmphgbmjbfhaa", sum := "126781773edaace7e6cba78609a56fa2e74446b90f3ed9ea151d6e2613eeee7b", func := "loop.example/g00908/laws.FnExactCountUses", spec := "fnExactCountUses", apart := false, narrowed := true }
def FnExactCountUsesUptoSaid : Prop := fnExactCountUsesUptoRow.holds Try.pinned (OpenSpec.upto fnExactCountUsesSpec)

/-- 'laws.FnExactParallelLoss', WHERE WHAT IT READS IS OF BULK AT MOST 1048576: true; the input reads as it did. -/
def fnExactParallelLossUptoRow : OpenClaim := { program := "ytkgmphgbmjbfhaa", sum := "126781773edaace7e6cba78609a56fa2e74446b90f3ed9ea151d6e2613eeee7b", func := "loop.example/g00908/laws.FnExactParallelLoss", spec := "fnExactParallelLoss", apart := false, narrowed := true }
def FnExactParallelLossUptoSaid : Prop := fnExactParallelLossUptoRow.holds Try.pinned (OpenSpec.upto fnExactParallelLossSpec)

/-- 'laws.FnExactGeoMass', WHERE WHAT IT READS IS OF BULK AT MOST 1048576: true; the input reads as it did. -/
def fnExactGeoMassUptoRow : OpenClaim := { program := "ytkgmphgbmjbfhaa", sum := "126781773edaace7e6cba78609a56fa2e74446b90f3ed9ea151d6e2613eeee7b", func := "loop.example/g00908/laws.FnExactGeoMass", spec := "fnExactGeoMass", apart := false, narrowed := true }
def FnExactGeoMassUptoSaid : Prop := fnExactGeoMassUptoRow.holds Try.pinned (OpenSpec.upto fnExactGeoMassSpec)

/-- 'laws.FnExactAcceptExponent', WHERE WHAT IT READS IS OF BULK AT MOST 1048576: true; the input reads as it did. -/
def fnExactAcceptExponentUptoRow : OpenClaim := { program := "ytkgmphgbmjbfhaa", sum := "126781773edaace7e6cba78609a56fa2e74446b90f3ed9ea151d6e2613eeee7b", func := "loop.example/g00908/laws.FnExactAcceptExponent", spec := "fnExactAcceptExponent", apart := false, narrowed := true }
def FnExactAcceptExponentUptoSaid : Prop := fnExactAcceptExponentUptoRow.holds Try.pinned (OpenSpec.upto fnExactAcceptExponentSpec)

/-- 'laws.FnExactLeastRadius', WHERE WHAT IT READS IS OF BULK AT MOST 1048576: true; the input reads as it did. -/
def fnExactLeastRadiusUptoRow : OpenClaim := { program := "ytkgmphgbmjbfhaa", sum := "126781773edaace7e6cba78609a56fa2e74446b90f3ed9ea151d6e2613eeee7b", func := "loop.example/g00908/laws.FnExactLeastRadius", spec := "fnExactLeastRadius", apart := false, narrowed := true }
def FnExactLeastRadiusUptoSaid : Prop := fnExactLeastRadiusUptoRow.holds Try.pinned (OpenSpec.upto fnExactLeastRadiusSpec)

/-- 'laws.FnExactSplitRho', WHERE WHAT IT READS IS OF BULK AT MOST 1048576: true; the input reads as it did. -/
def fnExactSplitRhoUptoRow : OpenClaim := { program := "ytkgmphgbmjbfhaa", sum := "126781773edaace7e6cba78609a56fa2e74446b90f3ed9ea151d6e2613eeee7b", func := "loop.example/g00908/laws.FnExactSplitRho", spec := "fnExactSplitRho", apart := false, narrowed := true }
def FnExactSplitRhoUptoSaid : Prop := fnExactSplitRhoUptoRow.holds Try.pinned (OpenSpec.upto fnExactSplitRhoSpec)

/-- 'laws.FnExactComposeLosses', WHERE WHAT IT READS IS OF BULK AT MOST 1048576: true; the input reads as it did. -/
def fnExactComposeLossesUptoRow : OpenClaim := { program := "ytkgmphgbmjbfhaa", sum := "126781773edaace7e6cba78609a56fa2e74446b90f3ed9ea151d6e2613eeee7b", func := "loop.example/g00908/laws.FnExactComposeLosses", spec := "fnExactComposeLosses", apart := false, narrowed := true }
def FnExactComposeLossesUptoSaid : Prop := fnExactComposeLossesUptoRow.holds Try.pinned (OpenSpec.upto fnExactComposeLossesSpec)

/-- 'laws.FnExactCoinChances', WHERE WHAT IT READS IS OF BULK AT MOST 1048576: true; the input reads as it did. -/
def fnExactCoinChancesUptoRow : OpenClaim := { program := "ytkgmphgbmjbfhaa", sum := "126781773edaace7e6cba78609a56fa2e74446b90f3ed9ea151d6e2613eeee7b", func := "loop.example/g00908/laws.FnExactCoinChances", spec := "fnExactCoinChances", apart := false, narrowed := true }
def FnExactCoinChancesUptoSaid : Prop := fnExactCoinChancesUptoRow.holds Try.pinned (OpenSpec.upto fnExactCoinChancesSpec)

/-- 'laws.FnExactIsMechanism', WHERE WHAT IT READS IS OF BULK AT MOST 1048576: true; the input reads as it did. -/
def fnExactIsMechanismUptoRow : OpenClaim := { program := "ytkgmphgbmjbfhaa", sum := "126781773edaace7e6cba78609a56fa2e74446b90f3ed9ea151d6e2613eeee7b", func := "loop.example/g00908/laws.FnExactIsMechanism", spec := "fnExactIsMechanism", apart := false, narrowed := true }
def FnExactIsMechanismUptoSaid : Prop := fnExactIsMechanismUptoRow.holds Try.pinned (OpenSpec.upto fnExactIsMechanismSpec)

/-- 'laws.FnExactExpectedOutput', WHERE WHAT IT READS IS OF BULK AT MOST 1048576: true; the input reads as it did. -/
def fnExactExpectedOutputUptoRow : OpenClaim := { program := "ytkgmphgbmjbfhaa", sum := "126781773edaace7e6cba78609a56fa2e74446b90f3ed9ea151d6e2613eeee7b", func := "loop.example/g00908/laws.FnExactExpectedOutput", spec := "fnExactExpectedOutput", apart := false, narrowed := true }
def FnExactExpectedOutputUptoSaid : Prop := fnExactExpectedOutputUptoRow.holds Try.pinned (OpenSpec.upto fnExactExpectedOutputSpec)

/-- 'laws.FnExactClampedMasses', WHERE WHAT IT READS IS OF BULK AT MOST 1048576: true; the input reads as it did. -/
def fnExactClampedMassesUptoRow : OpenClaim := { program := "ytkgmphgbmjbfhaa", sum := "126781773edaace7e6cba78609a56fa2e74446b90f3ed9ea151d6e2613eeee7b", func := "loop.example/g00908/laws.FnExactClampedMasses", spec := "fnExactClampedMasses", apart := false, narrowed := true }
def FnExactClampedMassesUptoSaid : Prop := fnExactClampedMassesUptoRow.holds Try.pinned (OpenSpec.upto fnExactClampedMassesSpec)

/-- 'laws.FnExactWorstRatio', WHERE WHAT IT READS IS OF BULK AT MOST 1048576: true; the input reads as it did. -/
def fnExactWorstRatioUptoRow : OpenClaim := { program := "ytkgmphgbmjbfhaa", sum := "126781773edaace7e6cba78609a56fa2e74446b90f3ed9ea151d6e2613eeee7b", func := "loop.example/g00908/laws.FnExactWorstRatio", spec := "fnExactWorstRatio", apart := false, narrowed := true }
def FnExactWorstRatioUptoSaid : Prop := fnExactWorstRatioUptoRow.holds Try.pinned (OpenSpec.upto fnExactWorstRatioSpec)

/-- 'laws.FnExactLedgerLoss', WHERE WHAT IT READS IS OF BULK AT MOST 1048576: true; the input reads as it did. -/
def fnExactLedgerLossUptoRow : OpenClaim := { program := "ytkgmphgbmjbfhaa", sum := "126781773edaace7e6cba78609a56fa2e74446b90f3ed9ea151d6e2613eeee7b", func := "loop.example/g00908/laws.FnExactLedgerLoss", spec := "fnExactLedgerLoss", apart := false, narrowed := true }
def FnExactLedgerLossUptoSaid : Prop := fnExactLedgerLossUptoRow.holds Try.pinned (OpenSpec.upto fnExactLedgerLossSpec)

/-- 'laws.FnExactAcceptEntries', WHERE WHAT IT READS IS OF BULK AT MOST 1048576: true; the input reads as it did. -/
def fnExactAcceptEntriesUptoRow : OpenClaim := { program := "ytkgmphgbmjbfhaa", sum := "126781773edaace7e6cba78609a56fa2e74446b90f3ed9ea151d6e2613eeee7b", func := "loop.example/g00908/laws.FnExactAcceptEntries", spec := "fnExactAcceptEntries", apart := false, narrowed := true }
def FnExactAcceptEntriesUptoSaid : Prop := fnExactAcceptEntriesUptoRow.holds Try.pinned (OpenSpec.upto fnExactAcceptEntriesSpec)

end Rows
end Go.Proofs.Ytkgmphgbmjbfhaa
