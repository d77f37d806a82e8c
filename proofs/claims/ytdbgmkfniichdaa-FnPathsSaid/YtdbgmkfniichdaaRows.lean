/-
  No cell of these rows narrows 'for every input' (looked for: loops, veiled, ifaces, maps, wideKeys, modest, calm, conditions, laid).
  DERIVED. THE GIVEN ROWS OF THIS SEAT. 6 by the template 'for every input the law returns true; each argument reads behind the call as it read before'; 0 by the template 'total and deterministic' (their statements: YtdbgmkfniichdaaTotals.lean).
  GIVEN WITH THE SEED: the statements are not yours to turn. If you find one false, say at which input.
  Laid BY PROGRAM, IN A SANDBOX (cutbox-rows.mjs): the forced cells as the released guide's own fill.sh prints them over the translation 12156fbedf34b996… (all of the seat's roots in one cut). By AI agents, Wed Nov 11 2026. No macro, syntax, notation, axiom, sorry.
-/
import Derived.Test.YtdbgmkfniichdaaChecked
import GoSem.Claim
import GoSem.ClaimJoined
import GoSem.ClaimMapViews
import Derived.JoinedTies
import Derived.KernelRfl
namespace Go.Proofs.Ytdbgmkfniichdaa
/- THE CELL 'sum', in the pinned program and in every row, IS THE sha256 OF THE DUMP (.gsa) THAT YtdbgmkfniichdaaProg.lean LOADS. Nothing in Lean hashes anything: it is a label: what it is worth is what the hold of that sum in a sandbox is worth. -/
noncomputable def Try.pinned : Pinned := { name := "ytdbgmkfniichdaa", sum := "12156fbedf34b99696cf4fbf65bbf3ae7510d5dd21c5472b2f414e6239906bbf", checked := Try.checked }
namespace Rows
def none {H : Type} : Left H := { results := [], args := [] }

/-- 'laws.FnLosses': WHATEVER THE INPUT: true; the input reads as it did. -/
def fnLossesSpec : ChangeSpec := { name := "fnLosses", fn := fun _ => fun
  | [d1, d2] => { results := [.lit (.bool true)], args := [d1, d2] }
  | _ => none }
def fnLossesRow : OpenClaim := { program := "ytdbgmkfniichdaa", sum := "12156fbedf34b99696cf4fbf65bbf3ae7510d5dd21c5472b2f414e6239906bbf", func := "loop.example/g00908/laws.FnLosses", spec := "fnLosses", apart := false }
def FnLossesSaid : Prop := fnLossesRow.holds Try.pinned (OpenSpec.ofChange fnLossesSpec)

/-- ITS FALSE NEIGHBOUR: 'it returns false'. Refute it at one input. -/
def fnLossesWrong : ChangeSpec := { name := "fnLosses", fn := fun _ => fun
  | [d1, d2] => { results := [.lit (.bool false)], args := [d1, d2] }
  | _ => none }
def FnLossesWrongFalsely : Prop := fnLossesRow.holds Try.pinned (OpenSpec.ofChange fnLossesWrong)

/-- 'laws.FnLedgers': WHATEVER THE INPUT: true; the input reads as it did. -/
def fnLedgersSpec : ChangeSpec := { name := "fnLedgers", fn := fun _ => fun
  | [d1, d2] => { results := [.lit (.bool true)], args := [d1, d2] }
  | _ => none }
def fnLedgersRow : OpenClaim := { program := "ytdbgmkfniichdaa", sum := "12156fbedf34b99696cf4fbf65bbf3ae7510d5dd21c5472b2f414e6239906bbf", func := "loop.example/g00908/laws.FnLedgers", spec := "fnLedgers", apart := false }
def FnLedgersSaid : Prop := fnLedgersRow.holds Try.pinned (OpenSpec.ofChange fnLedgersSpec)

/-- ITS FALSE NEIGHBOUR: 'it returns false'. Refute it at one input. -/
def fnLedgersWrong : ChangeSpec := { name := "fnLedgers", fn := fun _ => fun
  | [d1, d2] => { results := [.lit (.bool false)], args := [d1, d2] }
  | _ => none }
def FnLedgersWrongFalsely : Prop := fnLedgersRow.holds Try.pinned (OpenSpec.ofChange fnLedgersWrong)

/-- 'laws.FnLossGroups': WHATEVER THE INPUT: true; the input reads as it did. -/
def fnLossGroupsSpec : ChangeSpec := { name := "fnLossGroups", fn := fun _ => fun
  | [d1, d2] => { results := [.lit (.bool true)], args := [d1, d2] }
  | _ => none }
def fnLossGroupsRow : OpenClaim := { program := "ytdbgmkfniichdaa", sum := "12156fbedf34b99696cf4fbf65bbf3ae7510d5dd21c5472b2f414e6239906bbf", func := "loop.example/g00908/laws.FnLossGroups", spec := "fnLossGroups", apart := false }
def FnLossGroupsSaid : Prop := fnLossGroupsRow.holds Try.pinned (OpenSpec.ofChange fnLossGroupsSpec)

/-- ITS FALSE NEIGHBOUR: 'it returns false'. Refute it at one input. -/
def fnLossGroupsWrong : ChangeSpec := { name := "fnLossGroups", fn := fun _ => fun
  | [d1, d2] => { results := [.lit (.bool false)], args := [d1, d2] }
  | _ => none }
def FnLossGroupsWrongFalsely : Prop := fnLossGroupsRow.holds Try.pinned (OpenSpec.ofChange fnLossGroupsWrong)

/-- 'laws.FnGeometric': WHATEVER THE INPUT: true; the input reads as it did. -/
def fnGeometricSpec : ChangeSpec := { name := "fnGeometric", fn := fun _ => fun
  | [d1, d2] => { results := [.lit (.bool true)], args := [d1, d2] }
  | _ => none }
def fnGeometricRow : OpenClaim := { program := "ytdbgmkfniichdaa", sum := "12156fbedf34b99696cf4fbf65bbf3ae7510d5dd21c5472b2f414e6239906bbf", func := "loop.example/g00908/laws.FnGeometric", spec := "fnGeometric", apart := false }
def FnGeometricSaid : Prop := fnGeometricRow.holds Try.pinned (OpenSpec.ofChange fnGeometricSpec)

/-- ITS FALSE NEIGHBOUR: 'it returns false'. Refute it at one input. -/
def fnGeometricWrong : ChangeSpec := { name := "fnGeometric", fn := fun _ => fun
  | [d1, d2] => { results := [.lit (.bool false)], args := [d1, d2] }
  | _ => none }
def FnGeometricWrongFalsely : Prop := fnGeometricRow.holds Try.pinned (OpenSpec.ofChange fnGeometricWrong)

/-- 'laws.FnKeyedNoise': WHATEVER THE INPUT: true; the input reads as it did. -/
def fnKeyedNoiseSpec : ChangeSpec := { name := "fnKeyedNoise", fn := fun _ => fun
  | [d1, d2] => { results := [.lit (.bool true)], args := [d1, d2] }
  | _ => none }
def fnKeyedNoiseRow : OpenClaim := { program := "ytdbgmkfniichdaa", sum := "12156fbedf34b99696cf4fbf65bbf3ae7510d5dd21c5472b2f414e6239906bbf", func := "loop.example/g00908/laws.FnKeyedNoise", spec := "fnKeyedNoise", apart := false }
def FnKeyedNoiseSaid : Prop := fnKeyedNoiseRow.holds Try.pinned (OpenSpec.ofChange fnKeyedNoiseSpec)

/-- ITS FALSE NEIGHBOUR: 'it returns false'. Refute it at one input. -/
def fnKeyedNoiseWrong : ChangeSpec := { name := "fnKeyedNoise", fn := fun _ => fun
  | [d1, d2] => { results := [.lit (.bool false)], args := [d1, d2] }
  | _ => none }
def FnKeyedNoiseWrongFalsely : Prop := fnKeyedNoiseRow.holds Try.pinned (OpenSpec.ofChange fnKeyedNoiseWrong)

/-- 'laws.FnPaths': WHATEVER THE INPUT: true; the input reads as it did. -/
def fnPathsSpec : ChangeSpec := { name := "fnPaths", fn := fun _ => fun
  | [d1, d2] => { results := [.lit (.bool true)], args := [d1, d2] }
  | _ => none }
def fnPathsRow : OpenClaim := { program := "ytdbgmkfniichdaa", sum := "12156fbedf34b99696cf4fbf65bbf3ae7510d5dd21c5472b2f414e6239906bbf", func := "loop.example/g00908/laws.FnPaths", spec := "fnPaths", apart := false }
def FnPathsSaid : Prop := fnPathsRow.holds Try.pinned (OpenSpec.ofChange fnPathsSpec)

/-- ITS FALSE NEIGHBOUR: 'it returns false'. Refute it at one input. -/
def fnPathsWrong : ChangeSpec := { name := "fnPaths", fn := fun _ => fun
  | [d1, d2] => { results := [.lit (.bool false)], args := [d1, d2] }
  | _ => none }
def FnPathsWrongFalsely : Prop := fnPathsRow.holds Try.pinned (OpenSpec.ofChange fnPathsWrong)

/- THE SECOND FORM. 'bulk': how many values and letters a reading holds, each counted each time it is reached (what is shared counts as often as it is met; a slice's spare places count too). A statement '..UptoSaid' is the law's where the arguments, and the package variables that the reading takes, are together of bulk at most 1048576: NARROWER than '..Said'. Prove '..Said' where nothing that the law and all that it calls make is longer than what came in: it says more and counts as full. Else prove '..UptoSaid'. A law counts once. -/
mutual
def uptoBulk {H : Type} : DataW H → Nat
  | .lit (.string bytes) => bytes.length + 1
  | .lit _ => 1
  | .nil => 1
  | .ptr d => uptoBulk d + 1
  | .slice elems spare => uptoBulkAll elems + uptoBulkAll spare + 1
  | .agg parts => uptoBulkAll parts + 1
  | .iface _ d => uptoBulk d + 1
  | .map entries => uptoBulkEntries entries + 1
  | .held _ => 1
def uptoBulkAll {H : Type} : List (DataW H) → Nat
  | [] => 0
  | d :: r => uptoBulk d + uptoBulkAll r
def uptoBulkEntries {H : Type} : List (Lit × DataW H) → Nat
  | [] => 0
  | x :: r => uptoBulkEntry x + uptoBulkEntries r
def uptoBulkEntry {H : Type} : Lit × DataW H → Nat
  | (.string bytes, d) => bytes.length + uptoBulk d + 1
  | (_, d) => uptoBulk d + 1
 end
def uptoSmall : (H : Type) → List (DataW H) → Bool := fun _ ds => decide (uptoBulkAll ds ≤ 1048576)
def OpenSpec.upto (s : _root_.Go.ChangeSpec) : _root_.Go.OpenSpec := { _root_.Go.OpenSpec.ofChange s with cond := some uptoSmall }

/-- 'laws.FnLosses', WHERE WHAT IT READS IS OF BULK AT MOST 1048576: true; the input reads as it did. -/
def fnLossesUptoRow : OpenClaim := { program := "ytdbgmkfniichdaa", sum := "12156fbedf34b99696cf4fbf65bbf3ae7510d5dd21c5472b2f414e6239906bbf", func := "loop.example/g00908/laws.FnLosses", spec := "fnLosses", apart := false, narrowed := true }
def FnLossesUptoSaid : Prop := fnLossesUptoRow.holds Try.pinned (OpenSpec.upto fnLossesSpec)

/-- 'laws.FnLedgers', WHERE WHAT IT READS IS OF BULK AT MOST 1048576: true; the input reads as it did. -/
def fnLedgersUptoRow : OpenClaim := { program := "ytdbgmkfniichdaa", sum := "12156fbedf34b99696cf4fbf65bbf3ae7510d5dd21c5472b2f414e6239906bbf", func := "loop.example/g00908/laws.FnLedgers", spec := "fnLedgers", apart := false, narrowed := true }
def FnLedgersUptoSaid : Prop := fnLedgersUptoRow.holds Try.pinned (OpenSpec.upto fnLedgersSpec)

/-- 'laws.FnLossGroups', WHERE WHAT IT READS IS OF BULK AT MOST 1048576: true; the input reads as it did. -/
def fnLossGroupsUptoRow : OpenClaim := { program := "ytdbgmkfniichdaa", sum := "12156fbedf34b99696cf4fbf65bbf3ae7510d5dd21c5472b2f414e6239906bbf", func := "loop.example/g00908/laws.FnLossGroups", spec := "fnLossGroups", apart := false, narrowed := true }
def FnLossGroupsUptoSaid : Prop := fnLossGroupsUptoRow.holds Try.pinned (OpenSpec.upto fnLossGroupsSpec)

/-- 'laws.FnGeometric', WHERE WHAT IT READS IS OF BULK AT MOST 1048576: true; the input reads as it did. -/
def fnGeometricUptoRow : OpenClaim := { program := "ytdbgmkfniichdaa", sum := "12156fbedf34b99696cf4fbf65bbf3ae7510d5dd21c5472b2f414e6239906bbf", func := "loop.example/g00908/laws.FnGeometric", spec := "fnGeometric", apart := false, narrowed := true }
def FnGeometricUptoSaid : Prop := fnGeometricUptoRow.holds Try.pinned (OpenSpec.upto fnGeometricSpec)

/-- 'laws.FnKeyedNoise', WHERE WHAT IT READS IS OF BULK AT MOST 1048576: true; the input reads as it did. -/
def fnKeyedNoiseUptoRow : OpenClaim := { program := "ytdbgmkfniichdaa", sum := "12156fbedf34b99696cf4fbf65bbf3ae7510d5dd21c5472b2f414e6239906bbf", func := "loop.example/g00908/laws.FnKeyedNoise", spec := "fnKeyedNoise", apart := false, narrowed := true }
def FnKeyedNoiseUptoSaid : Prop := fnKeyedNoiseUptoRow.holds Try.pinned (OpenSpec.upto fnKeyedNoiseSpec)

/-- 'laws.FnPaths', WHERE WHAT IT READS IS OF BULK AT MOST 1048576: true; the input reads as it did. -/
def fnPathsUptoRow : OpenClaim := { program := "ytdbgmkfniichdaa", sum := "12156fbedf34b99696cf4fbf65bbf3ae7510d5dd21c5472b2f414e6239906bbf", func := "loop.example/g00908/laws.FnPaths", spec := "fnPaths", apart := false, narrowed := true }
def FnPathsUptoSaid : Prop := fnPathsUptoRow.holds Try.pinned (OpenSpec.upto fnPathsSpec)

end Rows
end Go.Proofs.Ytdbgmkfniichdaa
