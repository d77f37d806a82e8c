/-
  DERIVED. GIVEN WITH THE SEED: THE CARDS: each row of YtebjhiflnemkhaaGreatDoorRows.lean that lists a variable, with what it lists TIED to the program's text (the seventh form; the later family's looks); each row that meets fmt, with fmt's text TOLD by the authors' own Lean function (tested against real Go, not proved from fmt's source: count such statements apart). THE CARD IS WHAT COUNTS. Prove the row's statement (the work); the ties are given (YtebjhiflnemkhaaGreatDoorTie.lean); close each card by the builder's one call (the guide's Derived/Test/ToyasCard.lean, 'card_holds'). Laid BY PROGRAM, IN A SANDBOX (cutbox-door.mjs). By AI agents, Wed Nov 11 2026. No macro, syntax, notation, axiom, sorry.
-/
import Derived.Test.YtebjhiflnemkhaaGreatDoorRows
import GoSem.ClaimSeven
namespace Go.Proofs.YtebjhiflnemkhaaGreatDoor
namespace Rows

/-- THE TIED CARD OF 'laws.FnData'. -/
def fnDataCard : Claim7 := { stood := { row := fnDataRow, standIns := [], harness := (true, "f61329aac434169986bfacfa2e00c40d438ab5920bf7b58eb84e4bf448e4c087"), looks := false }, kinds := [], alts := [], laidByText := true, laidKinds := [.data, .data, .data, .data, .pinned], laidTests := true, laidLooks := .later }
def FnDataCardSaid : Prop := Claim7.holds Tryz.pinned (.plain (OpenSpec.ofChange fnDataSpec)) fnDataCard

/-- THE SECOND FORM's CARD OF 'laws.FnData'. -/
def fnDataUptoCard : Claim7 := { stood := { row := fnDataUptoRow, standIns := [], harness := (true, "f61329aac434169986bfacfa2e00c40d438ab5920bf7b58eb84e4bf448e4c087"), looks := false }, kinds := [], alts := [], laidByText := true, laidKinds := [.data, .data, .data, .data, .pinned], laidTests := true, laidLooks := .later }
def FnDataUptoCardSaid : Prop := Claim7.holds Tryz.pinned (.plain (OpenSpec.upto fnDataSpec)) fnDataUptoCard
end Rows
end Go.Proofs.YtebjhiflnemkhaaGreatDoor
