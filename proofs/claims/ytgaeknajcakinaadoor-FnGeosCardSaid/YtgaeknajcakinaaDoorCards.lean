/-
  DERIVED. GIVEN WITH THE SEED: THE CARDS: each row of YtgaeknajcakinaaDoorRows.lean that lists a variable, with what it lists TIED to the program's text (the seventh form; the later family's looks); each row that meets fmt, with fmt's text TOLD by the authors' own Lean function (tested against real Go, not proved from fmt's source: count such statements apart). THE CARD IS WHAT COUNTS. Prove the row's statement (the work); the ties are given (YtgaeknajcakinaaDoorTie.lean); close each card by the builder's one call (the guide's Derived/Test/ToyasCard.lean, 'card_holds'). Laid BY PROGRAM, IN A SANDBOX (cutbox-door.mjs). By AI agents, Wed Nov 11 2026. No macro, syntax, notation, axiom, sorry.
-/
import Derived.Test.YtgaeknajcakinaaDoorRows
import GoSem.ClaimSeven
namespace Go.Proofs.YtgaeknajcakinaaDoor
namespace Rows

/-- THE TIED CARD OF 'laws.FnRounding'. -/
def fnRoundingCard : Claim7 := { stood := { row := fnRoundingRow, standIns := [], harness := (true, "dc3d84d77ccc5b16c9c85822315340436fb90830a0a5487584cf9427b830b343"), looks := false }, kinds := [], alts := [], laidByText := true, laidKinds := [.data, .data, .data], laidTests := true, laidLooks := .later }
def FnRoundingCardSaid : Prop := Claim7.holds Tryd.pinned (.plain (OpenSpec.ofChange fnRoundingSpec)) fnRoundingCard

/-- THE TIED CARD OF 'laws.FnSchemas'. -/
def fnSchemasCard : Claim7 := { stood := { row := fnSchemasRow, standIns := [], harness := (true, "dc3d84d77ccc5b16c9c85822315340436fb90830a0a5487584cf9427b830b343"), looks := false }, kinds := [], alts := [], laidByText := true, laidKinds := [.data, .data, .data], laidTests := true, laidLooks := .later }
def FnSchemasCardSaid : Prop := Claim7.holds Tryd.pinned (.plain (OpenSpec.ofChange fnSchemasSpec)) fnSchemasCard

/-- THE TIED CARD OF 'laws.FnGeos'. -/
def fnGeosCard : Claim7 := { stood := { row := fnGeosRow, standIns := [], harness := (true, "dc3d84d77ccc5b16c9c85822315340436fb90830a0a5487584cf9427b830b343"), looks := false }, kinds := [], alts := [], laidByText := true, laidKinds := [.data, .data, .data], laidTests := true, laidLooks := .later }
def FnGeosCardSaid : Prop := Claim7.holds Tryd.pinned (.plain (OpenSpec.ofChange fnGeosSpec)) fnGeosCard

/-- THE SECOND FORM's CARD OF 'laws.FnRounding'. -/
def fnRoundingUptoCard : Claim7 := { stood := { row := fnRoundingUptoRow, standIns := [], harness := (true, "dc3d84d77ccc5b16c9c85822315340436fb90830a0a5487584cf9427b830b343"), looks := false }, kinds := [], alts := [], laidByText := true, laidKinds := [.data, .data, .data], laidTests := true, laidLooks := .later }
def FnRoundingUptoCardSaid : Prop := Claim7.holds Tryd.pinned (.plain (OpenSpec.upto fnRoundingSpec)) fnRoundingUptoCard

/-- THE SECOND FORM's CARD OF 'laws.FnSchemas'. -/
def fnSchemasUptoCard : Claim7 := { stood := { row := fnSchemasUptoRow, standIns := [], harness := (true, "dc3d84d77ccc5b16c9c85822315340436fb90830a0a5487584cf9427b830b343"), looks := false }, kinds := [], alts := [], laidByText := true, laidKinds := [.data, .data, .data], laidTests := true, laidLooks := .later }
def FnSchemasUptoCardSaid : Prop := Claim7.holds Tryd.pinned (.plain (OpenSpec.upto fnSchemasSpec)) fnSchemasUptoCard

/-- THE SECOND FORM's CARD OF 'laws.FnGeos'. -/
def fnGeosUptoCard : Claim7 := { stood := { row := fnGeosUptoRow, standIns := [], harness := (true, "dc3d84d77ccc5b16c9c85822315340436fb90830a0a5487584cf9427b830b343"), looks := false }, kinds := [], alts := [], laidByText := true, laidKinds := [.data, .data, .data], laidTests := true, laidLooks := .later }
def FnGeosUptoCardSaid : Prop := Claim7.holds Tryd.pinned (.plain (OpenSpec.upto fnGeosSpec)) fnGeosUptoCard
end Rows
end Go.Proofs.YtgaeknajcakinaaDoor
