/-
  DERIVED. GIVEN WITH THE SEED: THE CARDS: each row of YtndhglcdkegigaaDoorRows.lean that lists a variable, with what it lists TIED to the program's text (the seventh form; the later family's looks); each row that meets fmt, with fmt's text TOLD by the authors' own Lean function (tested against real Go, not proved from fmt's source: count such statements apart). THE CARD IS WHAT COUNTS. Prove the row's statement (the work); the ties are given (YtndhglcdkegigaaDoorTie.lean); close each card by the builder's one call (the guide's Derived/Test/ToyasCard.lean, 'card_holds'). Laid BY PROGRAM, IN A SANDBOX (cutbox-door.mjs). By AI agents, Wed Nov 11 2026. No macro, syntax, notation, axiom, sorry.
-/
import Derived.Test.YtndhglcdkegigaaDoorRows
import GoSem.ClaimSeven
namespace Go.Proofs.YtndhglcdkegigaaDoor
namespace Rows

/-- THE TIED CARD OF 'recompilelaw09.TypesParses'. -/
def typesParsesCard : Claim7 := { stood := { row := typesParsesRow, standIns := [], harness := (true, "1488c311d327aabc4a3092b85c7c34c778df0c3e821319c8ca8bcfc2c84c121f"), looks := true }, kinds := [], alts := [], laidByText := true, laidKinds := [.data, .data, .data, .sentinel, .sentinel], laidTests := true, laidLooks := .later }
def TypesParsesCardSaid : Prop := Claim7.holds Tryd.pinned (.plain (OpenSpec.ofChange typesParsesSpec)) typesParsesCard

/-- THE TIED CARD OF 'recompilelaw09.TypesRaw'. -/
def typesRawCard : Claim7 := { stood := { row := typesRawRow, standIns := [], harness := (true, "1488c311d327aabc4a3092b85c7c34c778df0c3e821319c8ca8bcfc2c84c121f"), looks := true }, kinds := [], alts := [], laidByText := true, laidKinds := [.data, .data, .data, .sentinel, .sentinel], laidTests := true, laidLooks := .later }
def TypesRawCardSaid : Prop := Claim7.holds Tryd.pinned (.plain (OpenSpec.ofChange typesRawSpec)) typesRawCard

/-- THE TIED CARD OF 'recompilelaw09.TypesAnyOrder'. -/
def typesAnyOrderCard : Claim7 := { stood := { row := typesAnyOrderRow, standIns := [], harness := (true, "1488c311d327aabc4a3092b85c7c34c778df0c3e821319c8ca8bcfc2c84c121f"), looks := true }, kinds := [], alts := [], laidByText := true, laidKinds := [.data, .data, .data, .sentinel, .sentinel], laidTests := true, laidLooks := .later }
def TypesAnyOrderCardSaid : Prop := Claim7.holds Tryd.pinned (.plain (OpenSpec.ofChange typesAnyOrderSpec)) typesAnyOrderCard

/-- THE TIED CARD OF 'recompilelaw09.TypesWide'. -/
def typesWideCard : Claim7 := { stood := { row := typesWideRow, standIns := [], harness := (true, "1488c311d327aabc4a3092b85c7c34c778df0c3e821319c8ca8bcfc2c84c121f"), looks := true }, kinds := [], alts := [], laidByText := true, laidKinds := [.data, .data, .data, .sentinel, .sentinel], laidTests := true, laidLooks := .later }
def TypesWideCardSaid : Prop := Claim7.holds Tryd.pinned (.plain (OpenSpec.ofChange typesWideSpec)) typesWideCard

/-- THE TIED CARD OF 'recompilelaw09.TypesAgree'. -/
def typesAgreeCard : Claim7 := { stood := { row := typesAgreeRow, standIns := [], harness := (true, "1488c311d327aabc4a3092b85c7c34c778df0c3e821319c8ca8bcfc2c84c121f"), looks := true }, kinds := [], alts := [], laidByText := true, laidKinds := [.data, .data, .data, .sentinel, .sentinel], laidTests := true, laidLooks := .later }
def TypesAgreeCardSaid : Prop := Claim7.holds Tryd.pinned (.plain (OpenSpec.ofChange typesAgreeSpec)) typesAgreeCard

/-- THE SECOND FORM's CARD OF 'recompilelaw09.TypesParses'. -/
def typesParsesUptoCard : Claim7 := { stood := { row := typesParsesUptoRow, standIns := [], harness := (true, "1488c311d327aabc4a3092b85c7c34c778df0c3e821319c8ca8bcfc2c84c121f"), looks := true }, kinds := [], alts := [], laidByText := true, laidKinds := [.data, .data, .data, .sentinel, .sentinel], laidTests := true, laidLooks := .later }
def TypesParsesUptoCardSaid : Prop := Claim7.holds Tryd.pinned (.plain (OpenSpec.upto typesParsesSpec)) typesParsesUptoCard

/-- THE SECOND FORM's CARD OF 'recompilelaw09.TypesRaw'. -/
def typesRawUptoCard : Claim7 := { stood := { row := typesRawUptoRow, standIns := [], harness := (true, "1488c311d327aabc4a3092b85c7c34c778df0c3e821319c8ca8bcfc2c84c121f"), looks := true }, kinds := [], alts := [], laidByText := true, laidKinds := [.data, .data, .data, .sentinel, .sentinel], laidTests := true, laidLooks := .later }
def TypesRawUptoCardSaid : Prop := Claim7.holds Tryd.pinned (.plain (OpenSpec.upto typesRawSpec)) typesRawUptoCard

/-- THE SECOND FORM's CARD OF 'recompilelaw09.TypesAnyOrder'. -/
def typesAnyOrderUptoCard : Claim7 := { stood := { row := typesAnyOrderUptoRow, standIns := [], harness := (true, "1488c311d327aabc4a3092b85c7c34c778df0c3e821319c8ca8bcfc2c84c121f"), looks := true }, kinds := [], alts := [], laidByText := true, laidKinds := [.data, .data, .data, .sentinel, .sentinel], laidTests := true, laidLooks := .later }
def TypesAnyOrderUptoCardSaid : Prop := Claim7.holds Tryd.pinned (.plain (OpenSpec.upto typesAnyOrderSpec)) typesAnyOrderUptoCard

/-- THE SECOND FORM's CARD OF 'recompilelaw09.TypesWide'. -/
def typesWideUptoCard : Claim7 := { stood := { row := typesWideUptoRow, standIns := [], harness := (true, "1488c311d327aabc4a3092b85c7c34c778df0c3e821319c8ca8bcfc2c84c121f"), looks := true }, kinds := [], alts := [], laidByText := true, laidKinds := [.data, .data, .data, .sentinel, .sentinel], laidTests := true, laidLooks := .later }
def TypesWideUptoCardSaid : Prop := Claim7.holds Tryd.pinned (.plain (OpenSpec.upto typesWideSpec)) typesWideUptoCard

/-- THE SECOND FORM's CARD OF 'recompilelaw09.TypesAgree'. -/
def typesAgreeUptoCard : Claim7 := { stood := { row := typesAgreeUptoRow, standIns := [], harness := (true, "1488c311d327aabc4a3092b85c7c34c778df0c3e821319c8ca8bcfc2c84c121f"), looks := true }, kinds := [], alts := [], laidByText := true, laidKinds := [.data, .data, .data, .sentinel, .sentinel], laidTests := true, laidLooks := .later }
def TypesAgreeUptoCardSaid : Prop := Claim7.holds Tryd.pinned (.plain (OpenSpec.upto typesAgreeSpec)) typesAgreeUptoCard
end Rows
end Go.Proofs.YtndhglcdkegigaaDoor
