/-
  DERIVED. GIVEN WITH THE SEED: THE CARDS: each row of YtkgabahlbmonfaaDoorRows.lean that lists a variable, with what it lists TIED to the program's text (the seventh form; the later family's looks); each row that meets fmt, with fmt's text TOLD by the authors' own Lean function (tested against real Go, not proved from fmt's source: count such statements apart). THE CARD IS WHAT COUNTS. Prove the row's statement (the work); the ties are given (YtkgabahlbmonfaaDoorTie.lean); close each card by the builder's one call (the guide's Derived/Test/ToyasCard.lean, 'card_holds'). Laid BY PROGRAM, IN A SANDBOX (cutbox-door.mjs). By AI agents, Wed Nov 11 2026. No macro, syntax, notation, axiom, sorry.
-/
import Derived.Test.YtkgabahlbmonfaaDoorRows
import GoSem.ClaimSeven
namespace Go.Proofs.YtkgabahlbmonfaaDoor
namespace Rows

/-- THE TIED CARD OF 'laws.FnExactDatasOk'. -/
def fnExactDatasOkCard : Claim7 := { stood := { row := fnExactDatasOkRow, standIns := [], harness := (true, "74022c0e58c510f360ab0ed3f26498549ef6230dbf1180892d4c1b418e8e6d4f"), looks := true }, kinds := [], alts := [], laidByText := true, laidKinds := [.listed, .data], laidTests := true, laidLooks := .later }
def FnExactDatasOkCardSaid : Prop := Claim7.holds Tryd.pinned (.plain (OpenSpec.ofChange fnExactDatasOkSpec)) fnExactDatasOkCard

/-- THE TIED CARD OF 'laws.FnExactNodes'. -/
def fnExactNodesCard : Claim7 := { stood := { row := fnExactNodesRow, standIns := [], harness := (true, "74022c0e58c510f360ab0ed3f26498549ef6230dbf1180892d4c1b418e8e6d4f"), looks := true }, kinds := [], alts := [], laidByText := true, laidKinds := [.listed, .data], laidTests := true, laidLooks := .later }
def FnExactNodesCardSaid : Prop := Claim7.holds Tryd.pinned (.plain (OpenSpec.ofChange fnExactNodesSpec)) fnExactNodesCard

/-- THE TIED CARD OF 'laws.FnTypes'. -/
def fnTypesCard : Claim7 := { stood := { row := fnTypesRow, standIns := [], harness := (true, "74022c0e58c510f360ab0ed3f26498549ef6230dbf1180892d4c1b418e8e6d4f"), looks := true }, kinds := [], alts := [], laidByText := true, laidKinds := [.data, .data, .data], laidTests := true, laidLooks := .later }
def FnTypesCardSaid : Prop := Claim7.holds Tryd.pinned (.plain (OpenSpec.ofChange fnTypesSpec)) fnTypesCard

/-- THE TIED CARD OF 'laws.FnExactTySay'. -/
def fnExactTySayCard : Claim7 := { stood := { row := fnExactTySayRow, standIns := [], harness := (true, "74022c0e58c510f360ab0ed3f26498549ef6230dbf1180892d4c1b418e8e6d4f"), looks := true }, kinds := [], alts := [], laidByText := true, laidKinds := [.data, .data, .data], laidTests := true, laidLooks := .later }
def FnExactTySayCardSaid : Prop := Claim7.holds Tryd.pinned (.plain (OpenSpec.ofChange fnExactTySaySpec)) fnExactTySayCard

/-- THE TIED CARD OF 'laws.FnExactLex'. -/
def fnExactLexCard : Claim7 := { stood := { row := fnExactLexRow, standIns := [], harness := (true, "74022c0e58c510f360ab0ed3f26498549ef6230dbf1180892d4c1b418e8e6d4f"), looks := true }, kinds := [], alts := [], laidByText := true, laidKinds := [.data, .data, .data, .sentinel, .sentinel], laidTests := true, laidLooks := .later }
def FnExactLexCardSaid : Prop := Claim7.holds Tryd.pinned (.plain (OpenSpec.ofChange fnExactLexSpec)) fnExactLexCard

/-- THE SECOND FORM's CARD OF 'laws.FnExactDatasOk'. -/
def fnExactDatasOkUptoCard : Claim7 := { stood := { row := fnExactDatasOkUptoRow, standIns := [], harness := (true, "74022c0e58c510f360ab0ed3f26498549ef6230dbf1180892d4c1b418e8e6d4f"), looks := true }, kinds := [], alts := [], laidByText := true, laidKinds := [.listed, .data], laidTests := true, laidLooks := .later }
def FnExactDatasOkUptoCardSaid : Prop := Claim7.holds Tryd.pinned (.plain (OpenSpec.upto fnExactDatasOkSpec)) fnExactDatasOkUptoCard

/-- THE SECOND FORM's CARD OF 'laws.FnExactNodes'. -/
def fnExactNodesUptoCard : Claim7 := { stood := { row := fnExactNodesUptoRow, standIns := [], harness := (true, "74022c0e58c510f360ab0ed3f26498549ef6230dbf1180892d4c1b418e8e6d4f"), looks := true }, kinds := [], alts := [], laidByText := true, laidKinds := [.listed, .data], laidTests := true, laidLooks := .later }
def FnExactNodesUptoCardSaid : Prop := Claim7.holds Tryd.pinned (.plain (OpenSpec.upto fnExactNodesSpec)) fnExactNodesUptoCard

/-- THE SECOND FORM's CARD OF 'laws.FnTypes'. -/
def fnTypesUptoCard : Claim7 := { stood := { row := fnTypesUptoRow, standIns := [], harness := (true, "74022c0e58c510f360ab0ed3f26498549ef6230dbf1180892d4c1b418e8e6d4f"), looks := true }, kinds := [], alts := [], laidByText := true, laidKinds := [.data, .data, .data], laidTests := true, laidLooks := .later }
def FnTypesUptoCardSaid : Prop := Claim7.holds Tryd.pinned (.plain (OpenSpec.upto fnTypesSpec)) fnTypesUptoCard

/-- THE SECOND FORM's CARD OF 'laws.FnExactTySay'. -/
def fnExactTySayUptoCard : Claim7 := { stood := { row := fnExactTySayUptoRow, standIns := [], harness := (true, "74022c0e58c510f360ab0ed3f26498549ef6230dbf1180892d4c1b418e8e6d4f"), looks := true }, kinds := [], alts := [], laidByText := true, laidKinds := [.data, .data, .data], laidTests := true, laidLooks := .later }
def FnExactTySayUptoCardSaid : Prop := Claim7.holds Tryd.pinned (.plain (OpenSpec.upto fnExactTySaySpec)) fnExactTySayUptoCard

/-- THE SECOND FORM's CARD OF 'laws.FnExactLex'. -/
def fnExactLexUptoCard : Claim7 := { stood := { row := fnExactLexUptoRow, standIns := [], harness := (true, "74022c0e58c510f360ab0ed3f26498549ef6230dbf1180892d4c1b418e8e6d4f"), looks := true }, kinds := [], alts := [], laidByText := true, laidKinds := [.data, .data, .data, .sentinel, .sentinel], laidTests := true, laidLooks := .later }
def FnExactLexUptoCardSaid : Prop := Claim7.holds Tryd.pinned (.plain (OpenSpec.upto fnExactLexSpec)) fnExactLexUptoCard
end Rows
end Go.Proofs.YtkgabahlbmonfaaDoor
