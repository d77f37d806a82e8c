/-
  DERIVED. GIVEN WITH THE SEED: THE CARDS: each row of YtebjhiflnemkhaaDoorRows.lean that lists a variable, with what it lists TIED to the program's text (the seventh form; the later family's looks); each row that meets fmt, with fmt's text TOLD by the authors' own Lean function (tested against real Go, not proved from fmt's source: count such statements apart). THE CARD IS WHAT COUNTS. Prove the row's statement (the work); the ties are given (YtebjhiflnemkhaaDoorTie.lean); close each card by the builder's one call (the guide's Derived/Test/ToyasCard.lean, 'card_holds'). Laid BY PROGRAM, IN A SANDBOX (cutbox-door.mjs). By AI agents, Wed Nov 11 2026. No macro, syntax, notation, axiom, sorry.
-/
import Derived.Test.YtebjhiflnemkhaaDoorRows
import GoSem.ClaimSeven
namespace Go.Proofs.YtebjhiflnemkhaaDoor
namespace Rows

/-- THE TIED CARD OF 'laws.FnEdits'. -/
def fnEditsCard : Claim7 := { stood := { row := fnEditsRow, standIns := [], harness := (true, "98a44b4bb9f47990e78cd76ecf600443b1892e8b7673d2dc0245f4276da35b32"), looks := false }, kinds := [], alts := [], laidByText := true, laidKinds := [.data, .pinned], laidTests := true, laidLooks := .later }
def FnEditsCardSaid : Prop := Claim7.holds Tryd.pinned (.plain (OpenSpec.ofChange fnEditsSpec)) fnEditsCard

/-- THE SECOND FORM's CARD OF 'laws.FnEdits'. -/
def fnEditsUptoCard : Claim7 := { stood := { row := fnEditsUptoRow, standIns := [], harness := (true, "98a44b4bb9f47990e78cd76ecf600443b1892e8b7673d2dc0245f4276da35b32"), looks := false }, kinds := [], alts := [], laidByText := true, laidKinds := [.data, .pinned], laidTests := true, laidLooks := .later }
def FnEditsUptoCardSaid : Prop := Claim7.holds Tryd.pinned (.plain (OpenSpec.upto fnEditsSpec)) fnEditsUptoCard
end Rows
end Go.Proofs.YtebjhiflnemkhaaDoor
