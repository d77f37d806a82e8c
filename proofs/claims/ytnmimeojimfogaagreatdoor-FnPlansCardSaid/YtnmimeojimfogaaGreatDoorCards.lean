/-
  DERIVED. GIVEN WITH THE SEED: THE CARDS: each row of YtnmimeojimfogaaGreatDoorRows.lean that lists a variable, with what it lists TIED to the program's text (the seventh form; the later family's looks); each row that meets fmt, with fmt's text TOLD by the authors' own Lean function (tested against real Go, not proved from fmt's source: count such statements apart). THE CARD IS WHAT COUNTS. Prove the row's statement (the work); the ties are given (YtnmimeojimfogaaGreatDoorTie.lean); close each card by the builder's one call (the guide's Derived/Test/ToyasCard.lean, 'card_holds'). Laid BY PROGRAM, IN A SANDBOX (cutbox-door.mjs). By AI agents, Wed Nov 11 2026. No macro, syntax, notation, axiom, sorry.
-/
import Derived.Test.YtnmimeojimfogaaGreatDoorRows
import GoSem.ClaimSeven
namespace Go.Proofs.YtnmimeojimfogaaGreatDoor
namespace Rows

/-- THE TIED CARD OF 'laws.FnTableTexts'. -/
def fnTableTextsCard : Claim7 := { stood := { row := fnTableTextsRow, standIns := [], harness := (true, "af63d3f3202dcf6bbf98c60601b96235b2b909e38c198d74f496a338acc55900"), looks := false }, kinds := [], alts := [], laidByText := true, laidKinds := [.data, .data, .data, .data, .pinned], laidTests := true, laidLooks := .later }
def FnTableTextsCardSaid : Prop := Claim7.holds Tryz.pinned (.plain (OpenSpec.ofChange fnTableTextsSpec)) fnTableTextsCard

/-- THE TIED CARD OF 'laws.FnPlans'. -/
def fnPlansCard : Claim7 := { stood := { row := fnPlansRow, standIns := [], harness := (true, "af63d3f3202dcf6bbf98c60601b96235b2b909e38c198d74f496a338acc55900"), looks := false }, kinds := [], alts := [], laidByText := true, laidKinds := [.data, .data, .data, .data, .pinned], laidTests := true, laidLooks := .later }
def FnPlansCardSaid : Prop := Claim7.holds Tryz.pinned (.plain (OpenSpec.ofChange fnPlansSpec)) fnPlansCard

/-- THE SECOND FORM's CARD OF 'laws.FnTableTexts'. -/
def fnTableTextsUptoCard : Claim7 := { stood := { row := fnTableTextsUptoRow, standIns := [], harness := (true, "af63d3f3202dcf6bbf98c60601b96235b2b909e38c198d74f496a338acc55900"), looks := false }, kinds := [], alts := [], laidByText := true, laidKinds := [.data, .data, .data, .data, .pinned], laidTests := true, laidLooks := .later }
def FnTableTextsUptoCardSaid : Prop := Claim7.holds Tryz.pinned (.plain (OpenSpec.upto fnTableTextsSpec)) fnTableTextsUptoCard

/-- THE SECOND FORM's CARD OF 'laws.FnPlans'. -/
def fnPlansUptoCard : Claim7 := { stood := { row := fnPlansUptoRow, standIns := [], harness := (true, "af63d3f3202dcf6bbf98c60601b96235b2b909e38c198d74f496a338acc55900"), looks := false }, kinds := [], alts := [], laidByText := true, laidKinds := [.data, .data, .data, .data, .pinned], laidTests := true, laidLooks := .later }
def FnPlansUptoCardSaid : Prop := Claim7.holds Tryz.pinned (.plain (OpenSpec.upto fnPlansSpec)) fnPlansUptoCard
end Rows
end Go.Proofs.YtnmimeojimfogaaGreatDoor
