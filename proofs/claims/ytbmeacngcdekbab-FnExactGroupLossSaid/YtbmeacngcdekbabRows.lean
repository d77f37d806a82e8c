/-
  No cell of these rows narrows 'for every input' (looked for: loops, veiled, ifaces, maps, wideKeys, modest, calm, conditions, laid).
  DERIVED. THE GIVEN ROWS OF THIS SEAT. 5 by the template 'for every input the law returns true; each argument reads behind the call as it read before'; 0 by the template 'total and deterministic' (their statements: YtbmeacngcdekbabTotals.lean).
  GIVEN WITH THE SEED: the statements are not yours to turn. If you find one false, say at which input.
  Laid BY PROGRAM, IN A SANDBOX (cutbox-rows.mjs): the forced cells as the released guide's own fill.sh prints them over the translation dfc96acb7b9f4544… (all of the seat's roots in one cut). By AI agents, Wed Nov 11 2026. No macro, syntax, notation, axiom, sorry.
-/
import Derived.Test.YtbmeacngcdekbabChecked
import GoSem.Claim
import GoSem.ClaimJoined
import GoSem.ClaimMapViews
import Derived.JoinedTies
import Derived.KernelRfl
namespace Go.Proofs.Ytbmeacngcdekbab
/- THE CELL 'sum', in the pinned program and in every row, IS THE sha256 OF THE DUMP (.gsa) THAT YtbmeacngcdekbabProg.lean LOADS. Nothing in Lean hashes anything: it is a label: what it is worth is what the hold of that sum in a sandbox is worth. -/
noncomputable def Try.pinned : Pinned := { name := "ytbmeacngcdekbab", sum := "dfc96acb7b9f45444bbfcd78b232c43de88ba3e50df4a6d5fb4c455d88853eec", checked := Try.checked }
namespace Rows
def none {H : Type} : Left H := { results := [], args := [] }

/-- 'laws.FnExactLossOf': WHATEVER THE INPUT: true; the input reads as it did. -/
def fnExactLossOfSpec : ChangeSpec := { name := "fnExactLossOf", fn := fun _ => fun
  | [d1, d2] => { results := [.lit (.bool true)], args := [d1, d2] }
  | _ => none }
def fnExactLossOfRow : OpenClaim := { program := "ytbmeacngcdekbab", sum := "dfc96acb7b9f45444bbfcd78b232c43de88ba3e50df4a6d5fb4c455d88853eec", func := "loop.example/g00908/laws.FnExactLossOf", spec := "fnExactLossOf", apart := false }
def FnExactLossOfSaid : Prop := fnExactLossOfRow.holds Try.pinned (OpenSpec.ofChange fnExactLossOfSpec)

/-- ITS FALSE NEIGHBOUR: 'it returns false'. Refute it at one input. -/
def fnExactLossOfWrong : ChangeSpec := { name := "fnExactLossOf", fn := fun _ => fun
  | [d1, d2] => { results := [.lit (.bool false)], args := [d1, d2] }
  | _ => none }
def FnExactLossOfWrongFalsely : Prop := fnExactLossOfRow.holds Try.pinned (OpenSpec.ofChange fnExactLossOfWrong)

/-- 'laws.FnExactGeoRatio': WHATEVER THE INPUT: true; the input reads as it did. -/
def fnExactGeoRatioSpec : ChangeSpec := { name := "fnExactGeoRatio", fn := fun _ => fun
  | [d1, d2] => { results := [.lit (.bool true)], args := [d1, d2] }
  | _ => none }
def fnExactGeoRatioRow : OpenClaim := { program := "ytbmeacngcdekbab", sum := "dfc96acb7b9f45444bbfcd78b232c43de88ba3e50df4a6d5fb4c455d88853eec", func := "loop.example/g00908/laws.FnExactGeoRatio", spec := "fnExactGeoRatio", apart := false }
def FnExactGeoRatioSaid : Prop := fnExactGeoRatioRow.holds Try.pinned (OpenSpec.ofChange fnExactGeoRatioSpec)

/-- ITS FALSE NEIGHBOUR: 'it returns false'. Refute it at one input. -/
def fnExactGeoRatioWrong : ChangeSpec := { name := "fnExactGeoRatio", fn := fun _ => fun
  | [d1, d2] => { results := [.lit (.bool false)], args := [d1, d2] }
  | _ => none }
def FnExactGeoRatioWrongFalsely : Prop := fnExactGeoRatioRow.holds Try.pinned (OpenSpec.ofChange fnExactGeoRatioWrong)

/-- 'laws.FnExactVarianceOf': WHATEVER THE INPUT: true; the input reads as it did. -/
def fnExactVarianceOfSpec : ChangeSpec := { name := "fnExactVarianceOf", fn := fun _ => fun
  | [d] => { results := [.lit (.bool true)], args := [d] }
  | _ => none }
def fnExactVarianceOfRow : OpenClaim := { program := "ytbmeacngcdekbab", sum := "dfc96acb7b9f45444bbfcd78b232c43de88ba3e50df4a6d5fb4c455d88853eec", func := "loop.example/g00908/laws.FnExactVarianceOf", spec := "fnExactVarianceOf", apart := false }
def FnExactVarianceOfSaid : Prop := fnExactVarianceOfRow.holds Try.pinned (OpenSpec.ofChange fnExactVarianceOfSpec)

/-- ITS FALSE NEIGHBOUR: 'it returns false'. Refute it at one input. -/
def fnExactVarianceOfWrong : ChangeSpec := { name := "fnExactVarianceOf", fn := fun _ => fun
  | [d] => { results := [.lit (.bool false)], args := [d] }
  | _ => none }
def FnExactVarianceOfWrongFalsely : Prop := fnExactVarianceOfRow.holds Try.pinned (OpenSpec.ofChange fnExactVarianceOfWrong)

/-- 'laws.FnExactGroupLoss': WHATEVER THE INPUT: true; the input reads as it did. -/
def fnExactGroupLossSpec : ChangeSpec := { name := "fnExactGroupLoss", fn := fun _ => fun
  | [d1, d2] => { results := [.lit (.bool true)], args := [d1, d2] }
  | _ => none }
def fnExactGroupLossRow : OpenClaim := { program := "ytbmeacngcdekbab", sum := "dfc96acb7b9f45444bbfcd78b232c43de88ba3e50df4a6d5fb4c455d88853eec", func := "loop.example/g00908/laws.FnExactGroupLoss", spec := "fnExactGroupLoss", apart := false }
def FnExactGroupLossSaid : Prop := fnExactGroupLossRow.holds Try.pinned (OpenSpec.ofChange fnExactGroupLossSpec)

/-- ITS FALSE NEIGHBOUR: 'it returns false'. Refute it at one input. -/
def fnExactGroupLossWrong : ChangeSpec := { name := "fnExactGroupLoss", fn := fun _ => fun
  | [d1, d2] => { results := [.lit (.bool false)], args := [d1, d2] }
  | _ => none }
def FnExactGroupLossWrongFalsely : Prop := fnExactGroupLossRow.holds Try.pinned (OpenSpec.ofChange fnExactGroupLossWrong)

/-- 'laws.FnExactGeoTail': WHATEVER THE INPUT: true; the input reads as it did. -/
def fnExactGeoTailSpec : ChangeSpec := { name := "fnExactGeoTail", fn := fun _ => fun
  | [d1, d2] => { results := [.lit (.bool true)], args := [d1, d2] }
  | _ => none }
def fnExactGeoTailRow : OpenClaim := { program := "ytbmeacngcdekbab", sum := "dfc96acb7b9f45444bbfcd78b232c43de88ba3e50df4a6d5fb4c455d88853eec", func := "loop.example/g00908/laws.FnExactGeoTail", spec := "fnExactGeoTail", apart := false }
def FnExactGeoTailSaid : Prop := fnExactGeoTailRow.holds Try.pinned (OpenSpec.ofChange fnExactGeoTailSpec)

/-- ITS FALSE NEIGHBOUR: 'it returns false'. Refute it at one input. -/
def fnExactGeoTailWrong : ChangeSpec := { name := "fnExactGeoTail", fn := fun _ => fun
  | [d1, d2] => { results := [.lit (.bool false)], args := [d1, d2] }
  | _ => none }
def FnExactGeoTailWrongFalsely : Prop := fnExactGeoTailRow.holds Try.pinned (OpenSpec.ofChange fnExactGeoTailWrong)

/- THE SECOND FORM. 'bulk': how many values and letters a reading holds, each counted each time it is reached (what is shared counts as often as it is met; a slice's spare places count too). A statement '..UptoSaid' is the law's where the arguments, and the package variables that the reading takes, are together of bulk at most 1048576: NARROWER than '..Said'. Prove '..Said' where nothing that the law and all that it calls make is longer than what came in: it says more and counts as full. Else prove '..UptoSaid'. A law counts once. -/
mutual
def uptoBulk {H : Type} : DataW H → Nat
  | .lit (.string bytes) => bytes.length + 1
  | .lit _ => 1
  | .nil => 1
  | .ptr d => uptoBulk d + 1
  | .slice elems spare => uptoBulkAll elems + uptoBulkAll spare + 1
  | .agg parts => uptoBulkAll parts + 1
  | .iface _ d => uptoBulk d + 1
  | .map entries => uptoBulkEntries entries + 1
  | .held _ => 1
def uptoBulkAll {H : Type} : List (DataW H) → Nat
  | [] => 0
  | d :: r => uptoBulk d + uptoBulkAll r
def uptoBulkEntries {H : Type} : List (Lit × DataW H) → Nat
  | [] => 0
  | x :: r => uptoBulkEntry x + uptoBulkEntries r
def uptoBulkEntry {H : Type} : Lit × DataW H → Nat
  | (.string bytes, d) => bytes.length + uptoBulk d + 1
  | (_, d) => uptoBulk d + 1
 end
def uptoSmall : (H : Type) → List (DataW H) → Bool := fun _ ds => decide (uptoBulkAll ds ≤ 1048576)
def OpenSpec.upto (s : _root_.Go.ChangeSpec) : _root_.Go.OpenSpec := { _root_.Go.OpenSpec.ofChange s with cond := some uptoSmall }

/-- 'laws.FnExactLossOf', WHERE WHAT IT READS IS OF BULK AT MOST 1048576: true; the input reads as it did. -/
def fnExactLossOfUptoRow : OpenClaim := { program := "ytbmeacngcdekbab", sum := "dfc96acb7b9f45444bbfcd78b232c43de88ba3e50df4a6d5fb4c455d88853eec", func := "loop.example/g00908/laws.FnExactLossOf", spec := "fnExactLossOf", apart := false, narrowed := true }
def FnExactLossOfUptoSaid : Prop := fnExactLossOfUptoRow.holds Try.pinned (OpenSpec.upto fnExactLossOfSpec)

/-- 'laws.FnExactGeoRatio', WHERE WHAT IT READS IS OF BULK AT MOST 1048576: true; the input reads as it did. -/
def fnExactGeoRatioUptoRow : OpenClaim := { program := "ytbmeacngcdekbab", sum := "dfc96acb7b9f45444bbfcd78b232c43de88ba3e50df4a6d5fb4c455d88853eec", func := "loop.example/g00908/laws.FnExactGeoRatio", spec := "fnExactGeoRatio", apart := false, narrowed := true }
def FnExactGeoRatioUptoSaid : Prop := fnExactGeoRatioUptoRow.holds Try.pinned (OpenSpec.upto fnExactGeoRatioSpec)

/-- 'laws.FnExactVarianceOf', WHERE WHAT IT READS IS OF BULK AT MOST 1048576: true; the input reads as it did. -/
def fnExactVarianceOfUptoRow : OpenClaim := { program := "ytbmeacngcdekbab", sum := "dfc96acb7b9f45444bbfcd78b232c43de88ba3e50df4a6d5fb4c455d88853eec", func := "loop.example/g00908/laws.FnExactVarianceOf", spec := "fnExactVarianceOf", apart := false, narrowed := true }
def FnExactVarianceOfUptoSaid : Prop := fnExactVarianceOfUptoRow.holds Try.pinned (OpenSpec.upto fnExactVarianceOfSpec)

/-- 'laws.FnExactGroupLoss', WHERE WHAT IT READS IS OF BULK AT MOST 1048576: true; the input reads as it did. -/
def fnExactGroupLossUptoRow : OpenClaim := { program := "ytbmeacngcdekbab", sum := "dfc96acb7b9f45444bbfcd78b232c43de88ba3e50df4a6d5fb4c455d88853eec", func := "loop.example/g00908/laws.FnExactGroupLoss", spec := "fnExactGroupLoss", apart := false, narrowed := true }
def FnExactGroupLossUptoSaid : Prop := fnExactGroupLossUptoRow.holds Try.pinned (OpenSpec.upto fnExactGroupLossSpec)

/-- 'laws.FnExactGeoTail', WHERE WHAT IT READS IS OF BULK AT MOST 1048576: true; the input reads as it did. -/
def fnExactGeoTailUptoRow : OpenClaim := { program := "ytbmeacngcdekbab", sum := "dfc96acb7b9f45444bbfcd78b232c43de88ba3e50df4a6d5fb4c455d88853eec", func := "loop.example/g00908/laws.FnExactGeoTail", spec := "fnExactGeoTail", apart := false, narrowed := true }
def FnExactGeoTailUptoSaid : Prop := fnExactGeoTailUptoRow.holds Try.pinned (OpenSpec.upto fnExactGeoTailSpec)

end Rows
end Go.Proofs.Ytbmeacngcdekbab
