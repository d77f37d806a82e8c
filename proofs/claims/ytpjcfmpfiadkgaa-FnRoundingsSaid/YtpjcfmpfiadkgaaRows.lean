/-
  No cell of these rows narrows 'for every input' (looked for: loops, veiled, ifaces, maps, wideKeys, modest, calm, conditions, laid).
  DERIVED. THE GIVEN ROWS OF THIS SEAT. 5 by the template 'for every input the law returns true; each argument reads behind the call as it read before'; 0 by the template 'total and deterministic' (their statements: YtpjcfmpfiadkgaaTotals.lean).
  GIVEN WITH THE SEED: the statements are not yours to turn. If you find one false, say at which input.
  Laid BY PROGRAM, IN A SANDBOX (cutbox-rows.mjs): the forced cells as the released guide's own fill.sh prints them over the translation 8a0e3b1da0e1a793… (all of the seat's roots in one cut). By AI agents, Wed Nov 11 2026. No macro, syntax, notation, axiom, sorry.
-/
import Derived.Test.YtpjcfmpfiadkgaaChecked
import GoSem.Claim
import GoSem.ClaimJoined
import GoSem.ClaimMapViews
import Derived.JoinedTies
import Derived.KernelRfl
namespace Go.Proofs.Ytpjcfmpfiadkgaa
/- THE CELL 'sum', in the pinned program and in every row, IS THE sha256 OF THE DUMP (.gsa) THAT YtpjcfmpfiadkgaaProg.lean LOADS. Nothing in Lean hashes anything: it is a label: what it is worth is what the hold of that sum in a sandbox is worth. -/
noncomputable def Try.pinned : Pinned := { name := "ytpjcfmpfiadkgaa", sum := "8a0e3b1da0e1a793a712f864bcce1909f2c11f928ca324cd3b57b8772abe87d5", checked := Try.checked }
namespace Rows
def none {H : Type} : Left H := { results := [], args := [] }

/-- 'laws.FnSensitive': WHATEVER THE INPUT: true; the input reads as it did. -/
def fnSensitiveSpec : ChangeSpec := { name := "fnSensitive", fn := fun _ => fun
  | [d1, d2] => { results := [.lit (.bool true)], args := [d1, d2] }
  | _ => none }
def fnSensitiveRow : OpenClaim := { program := "ytpjcfmpfiadkgaa", sum := "8a0e3b1da0e1a793a712f864bcce1909f2c11f928ca324cd3b57b8772abe87d5", func := "loop.example/g00908/laws.FnSensitive", spec := "fnSensitive", recurses := true, apart := false }
def FnSensitiveSaid : Prop := fnSensitiveRow.holds Try.pinned (OpenSpec.ofChange fnSensitiveSpec)

/-- ITS FALSE NEIGHBOUR: 'it returns false'. Refute it at one input. -/
def fnSensitiveWrong : ChangeSpec := { name := "fnSensitive", fn := fun _ => fun
  | [d1, d2] => { results := [.lit (.bool false)], args := [d1, d2] }
  | _ => none }
def FnSensitiveWrongFalsely : Prop := fnSensitiveRow.holds Try.pinned (OpenSpec.ofChange fnSensitiveWrong)

/-- 'laws.FnAudits': WHATEVER THE INPUT: true; the input reads as it did. -/
def fnAuditsSpec : ChangeSpec := { name := "fnAudits", fn := fun _ => fun
  | [d1, d2] => { results := [.lit (.bool true)], args := [d1, d2] }
  | _ => none }
def fnAuditsRow : OpenClaim := { program := "ytpjcfmpfiadkgaa", sum := "8a0e3b1da0e1a793a712f864bcce1909f2c11f928ca324cd3b57b8772abe87d5", func := "loop.example/g00908/laws.FnAudits", spec := "fnAudits", unfollowed := true, recurses := true, apart := false }
def FnAuditsSaid : Prop := fnAuditsRow.holds Try.pinned (OpenSpec.ofChange fnAuditsSpec)

/-- ITS FALSE NEIGHBOUR: 'it returns false'. Refute it at one input. -/
def fnAuditsWrong : ChangeSpec := { name := "fnAudits", fn := fun _ => fun
  | [d1, d2] => { results := [.lit (.bool false)], args := [d1, d2] }
  | _ => none }
def FnAuditsWrongFalsely : Prop := fnAuditsRow.holds Try.pinned (OpenSpec.ofChange fnAuditsWrong)

/-- 'laws.FnWitnesses': WHATEVER THE INPUT: true; the input reads as it did. -/
def fnWitnessesSpec : ChangeSpec := { name := "fnWitnesses", fn := fun _ => fun
  | [d1, d2] => { results := [.lit (.bool true)], args := [d1, d2] }
  | _ => none }
def fnWitnessesRow : OpenClaim := { program := "ytpjcfmpfiadkgaa", sum := "8a0e3b1da0e1a793a712f864bcce1909f2c11f928ca324cd3b57b8772abe87d5", func := "loop.example/g00908/laws.FnWitnesses", spec := "fnWitnesses", unfollowed := true, recurses := true, apart := false }
def FnWitnessesSaid : Prop := fnWitnessesRow.holds Try.pinned (OpenSpec.ofChange fnWitnessesSpec)

/-- ITS FALSE NEIGHBOUR: 'it returns false'. Refute it at one input. -/
def fnWitnessesWrong : ChangeSpec := { name := "fnWitnesses", fn := fun _ => fun
  | [d1, d2] => { results := [.lit (.bool false)], args := [d1, d2] }
  | _ => none }
def FnWitnessesWrongFalsely : Prop := fnWitnessesRow.holds Try.pinned (OpenSpec.ofChange fnWitnessesWrong)

/-- 'laws.FnFlows': WHATEVER THE INPUT: true; the input reads as it did. -/
def fnFlowsSpec : ChangeSpec := { name := "fnFlows", fn := fun _ => fun
  | [d1, d2] => { results := [.lit (.bool true)], args := [d1, d2] }
  | _ => none }
def fnFlowsRow : OpenClaim := { program := "ytpjcfmpfiadkgaa", sum := "8a0e3b1da0e1a793a712f864bcce1909f2c11f928ca324cd3b57b8772abe87d5", func := "loop.example/g00908/laws.FnFlows", spec := "fnFlows", apart := false }
def FnFlowsSaid : Prop := fnFlowsRow.holds Try.pinned (OpenSpec.ofChange fnFlowsSpec)

/-- ITS FALSE NEIGHBOUR: 'it returns false'. Refute it at one input. -/
def fnFlowsWrong : ChangeSpec := { name := "fnFlows", fn := fun _ => fun
  | [d1, d2] => { results := [.lit (.bool false)], args := [d1, d2] }
  | _ => none }
def FnFlowsWrongFalsely : Prop := fnFlowsRow.holds Try.pinned (OpenSpec.ofChange fnFlowsWrong)

/-- 'laws.FnRoundings': WHATEVER THE INPUT: true; the input reads as it did. -/
def fnRoundingsSpec : ChangeSpec := { name := "fnRoundings", fn := fun _ => fun
  | [d1, d2] => { results := [.lit (.bool true)], args := [d1, d2] }
  | _ => none }
def fnRoundingsRow : OpenClaim := { program := "ytpjcfmpfiadkgaa", sum := "8a0e3b1da0e1a793a712f864bcce1909f2c11f928ca324cd3b57b8772abe87d5", func := "loop.example/g00908/laws.FnRoundings", spec := "fnRoundings", unfollowed := true, recurses := true, apart := false }
def FnRoundingsSaid : Prop := fnRoundingsRow.holds Try.pinned (OpenSpec.ofChange fnRoundingsSpec)

/-- ITS FALSE NEIGHBOUR: 'it returns false'. Refute it at one input. -/
def fnRoundingsWrong : ChangeSpec := { name := "fnRoundings", fn := fun _ => fun
  | [d1, d2] => { results := [.lit (.bool false)], args := [d1, d2] }
  | _ => none }
def FnRoundingsWrongFalsely : Prop := fnRoundingsRow.holds Try.pinned (OpenSpec.ofChange fnRoundingsWrong)

/- THE SECOND FORM. 'bulk': how many values and letters a reading holds, each counted each time it is reached (what is shared counts as often as it is met; a slice's spare places count too). A statement '..UptoSaid' is the law's where the arguments, and the package variables that the reading takes, are together of bulk at most 1048576: NARROWER than '..Said'. Prove '..Said' where nothing that the law and all that it calls make is longer than what came in: it says more and counts as full. Else prove '..UptoSaid'. A law counts once. -/
mutual
def uptoBulk {H : Type} : DataW H → Nat
  | .lit (.string bytes) => bytes.length + 1
  | .lit _ => 1
  | .nil => 1
  | .ptr d => uptoBulk d + 1
  | .slice elems spare => uptoBulkAll elems + uptoBulkAll spare + 1
  | .agg parts => uptoBulkAll parts + 1
  | .iface _ d => uptoBulk d + 1
  | .map entries => uptoBulkEntries entries + 1
  | .held _ => 1
def uptoBulkAll {H : Type} : List (DataW H) → Nat
  | [] => 0
  | d :: r => uptoBulk d + uptoBulkAll r
def uptoBulkEntries {H : Type} : List (Lit × DataW H) → Nat
  | [] => 0
  | x :: r => uptoBulkEntry x + uptoBulkEntries r
def uptoBulkEntry {H : Type} : Lit × DataW H → Nat
  | (.string bytes, d) => bytes.length + uptoBulk d + 1
  | (_, d) => uptoBulk d + 1
 end
def uptoSmall : (H : Type) → List (DataW H) → Bool := fun _ ds => decide (uptoBulkAll ds ≤ 1048576)
def OpenSpec.upto (s : _root_.Go.ChangeSpec) : _root_.Go.OpenSpec := { _root_.Go.OpenSpec.ofChange s with cond := some uptoSmall }

/-- 'laws.FnSensitive', WHERE WHAT IT READS IS OF BULK AT MOST 1048576: true; the input reads as it did. -/
def fnSensitiveUptoRow : OpenClaim := { program := "ytpjcfmpfiadkgaa", sum := "8a0e3b1da0e1a793a712f864bcce1909f2c11f928ca324cd3b57b8772abe87d5", func := "loop.example/g00908/laws.FnSensitive", spec := "fnSensitive", recurses := true, apart := false, narrowed := true }
def FnSensitiveUptoSaid : Prop := fnSensitiveUptoRow.holds Try.pinned (OpenSpec.upto fnSensitiveSpec)

/-- 'laws.FnAudits', WHERE WHAT IT READS IS OF BULK AT MOST 1048576: true; the input reads as it did. -/
def fnAuditsUptoRow : OpenClaim := { program := "ytpjcfmpfiadkgaa", sum := "8a0e3b1da0e1a793a712f864bcce1909f2c11f928ca324cd3b57b8772abe87d5", func := "loop.example/g00908/laws.FnAudits", spec := "fnAudits", unfollowed := true, recurses := true, apart := false, narrowed := true }
def FnAuditsUptoSaid : Prop := fnAuditsUptoRow.holds Try.pinned (OpenSpec.upto fnAuditsSpec)

/-- 'laws.FnWitnesses', WHERE WHAT IT READS IS OF BULK AT MOST 1048576: true; the input reads as it did. -/
def fnWitnessesUptoRow : OpenClaim := { program := "ytpjcfmpfiadkgaa", sum := "8a0e3b1da0e1a793a712f864bcce1909f2c11f928ca324cd3b57b8772abe87d5", func := "loop.example/g00908/laws.FnWitnesses", spec := "fnWitnesses", unfollowed := true, recurses := true, apart := false, narrowed := true }
def FnWitnessesUptoSaid : Prop := fnWitnessesUptoRow.holds Try.pinned (OpenSpec.upto fnWitnessesSpec)

/-- 'laws.FnFlows', WHERE WHAT IT READS IS OF BULK AT MOST 1048576: true; the input reads as it did. -/
def fnFlowsUptoRow : OpenClaim := { program := "ytpjcfmpfiadkgaa", sum := "8a0e3b1da0e1a793a712f864bcce1909f2c11f928ca324cd3b57b8772abe87d5", func := "loop.example/g00908/laws.FnFlows", spec := "fnFlows", apart := false, narrowed := true }
def FnFlowsUptoSaid : Prop := fnFlowsUptoRow.holds Try.pinned (OpenSpec.upto fnFlowsSpec)

/-- 'laws.FnRoundings', WHERE WHAT IT READS IS OF BULK AT MOST 1048576: true; the input reads as it did. -/
def fnRoundingsUptoRow : OpenClaim := { program := "ytpjcfmpfiadkgaa", sum := "8a0e3b1da0e1a793a712f864bcce1909f2c11f928ca324cd3b57b8772abe87d5", func := "loop.example/g00908/laws.FnRoundings", spec := "fnRoundings", unfollowed := true, recurses := true, apart := false, narrowed := true }
def FnRoundingsUptoSaid : Prop := fnRoundingsUptoRow.holds Try.pinned (OpenSpec.upto fnRoundingsSpec)

end Rows
end Go.Proofs.Ytpjcfmpfiadkgaa
