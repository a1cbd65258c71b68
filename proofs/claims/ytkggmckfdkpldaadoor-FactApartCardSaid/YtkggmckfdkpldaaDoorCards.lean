/-
  DERIVED. GIVEN WITH THE SEED: THE CARDS: each row of YtkggmckfdkpldaaDoorRows.lean that lists a variable, with what it lists TIED to the program's text (the seventh form; the later family's looks); each row that meets fmt, with fmt's text TOLD by the authors' own Lean function (tested against real Go, not proved from fmt's source: count such statements apart). THE CARD IS WHAT COUNTS. Prove the row's statement (the work); the ties are given (YtkggmckfdkpldaaDoorTie.lean); close each card by the builder's one call (the guide's Derived/Test/ToyasCard.lean, 'card_holds'). Laid BY PROGRAM, IN A SANDBOX (cutbox-door.mjs). By AI agents, Wed Nov 11 2026. No macro, syntax, notation, axiom, sorry.
-/
import Derived.Test.YtkggmckfdkpldaaDoorRows
import GoSem.ClaimSeven
namespace Go.Proofs.YtkggmckfdkpldaaDoor
namespace Rows

/-- THE TIED CARD OF 'recompilelaw10.FactApart'. -/
def factApartCard : Claim7 := { stood := { row := factApartRow, standIns := [], harness := (true, "36aed1de7328b361e6d44a56c8a300152fe2eec37ab392af731927ebe40c717e"), looks := true }, kinds := [], alts := [], laidByText := true, laidKinds := [.data, .data, .data, .sentinel, .sentinel], laidTests := true, laidLooks := .later }
def FactApartCardSaid : Prop := Claim7.holds Tryd.pinned (.plain (OpenSpec.ofChange factApartSpec)) factApartCard

/-- THE TIED CARD OF 'recompilelaw10.FactCodes'. -/
def factCodesCard : Claim7 := { stood := { row := factCodesRow, standIns := [], harness := (true, "36aed1de7328b361e6d44a56c8a300152fe2eec37ab392af731927ebe40c717e"), looks := true }, kinds := [], alts := [], laidByText := true, laidKinds := [.data, .data, .data, .sentinel, .sentinel], laidTests := true, laidLooks := .later }
def FactCodesCardSaid : Prop := Claim7.holds Tryd.pinned (.plain (OpenSpec.ofChange factCodesSpec)) factCodesCard

/-- THE SECOND FORM's CARD OF 'recompilelaw10.FactApart'. -/
def factApartUptoCard : Claim7 := { stood := { row := factApartUptoRow, standIns := [], harness := (true, "36aed1de7328b361e6d44a56c8a300152fe2eec37ab392af731927ebe40c717e"), looks := true }, kinds := [], alts := [], laidByText := true, laidKinds := [.data, .data, .data, .sentinel, .sentinel], laidTests := true, laidLooks := .later }
def FactApartUptoCardSaid : Prop := Claim7.holds Tryd.pinned (.plain (OpenSpec.upto factApartSpec)) factApartUptoCard

/-- THE SECOND FORM's CARD OF 'recompilelaw10.FactCodes'. -/
def factCodesUptoCard : Claim7 := { stood := { row := factCodesUptoRow, standIns := [], harness := (true, "36aed1de7328b361e6d44a56c8a300152fe2eec37ab392af731927ebe40c717e"), looks := true }, kinds := [], alts := [], laidByText := true, laidKinds := [.data, .data, .data, .sentinel, .sentinel], laidTests := true, laidLooks := .later }
def FactCodesUptoCardSaid : Prop := Claim7.holds Tryd.pinned (.plain (OpenSpec.upto factCodesSpec)) factCodesUptoCard
end Rows
end Go.Proofs.YtkggmckfdkpldaaDoor
