/-
  DERIVED. GIVEN WITH THE SEED: THE CARDS: each row of YtbkobjbpilbhdaaDoorRows.lean that lists a variable, with what it lists TIED to the program's text (the seventh form; the later family's looks); each row that meets fmt, with fmt's text TOLD by the authors' own Lean function (tested against real Go, not proved from fmt's source: count such statements apart). THE CARD IS WHAT COUNTS. Prove the row's statement (the work); the ties are given (YtbkobjbpilbhdaaDoorTie.lean); close each card by the builder's one call (the guide's Derived/Test/ToyasCard.lean, 'card_holds'). Laid BY PROGRAM, IN A SANDBOX (cutbox-door.mjs). By AI agents, Wed Nov 11 2026. No macro, syntax, notation, axiom, sorry.
-/
import Derived.Test.YtbkobjbpilbhdaaDoorRows
import GoSem.ClaimSeven
namespace Go.Proofs.YtbkobjbpilbhdaaDoor
namespace Rows

/-- THE TIED CARD OF 'recompilelaw09.TypesMade'. -/
def typesMadeCard : Claim7 := { stood := { row := typesMadeRow, standIns := [], harness := (true, "248cc4af1d6e6f32dd3e9d95d2f01f66ba6007ed2e5ad54031431d3c34ea34e8"), looks := true }, kinds := [], alts := [], laidByText := true, laidKinds := [.data, .data, .data, .sentinel, .sentinel], laidTests := true, laidLooks := .later }
def TypesMadeCardSaid : Prop := Claim7.holds Tryd.pinned (.plain (OpenSpec.ofChange typesMadeSpec)) typesMadeCard

/-- THE SECOND FORM's CARD OF 'recompilelaw09.TypesMade'. -/
def typesMadeUptoCard : Claim7 := { stood := { row := typesMadeUptoRow, standIns := [], harness := (true, "248cc4af1d6e6f32dd3e9d95d2f01f66ba6007ed2e5ad54031431d3c34ea34e8"), looks := true }, kinds := [], alts := [], laidByText := true, laidKinds := [.data, .data, .data, .sentinel, .sentinel], laidTests := true, laidLooks := .later }
def TypesMadeUptoCardSaid : Prop := Claim7.holds Tryd.pinned (.plain (OpenSpec.upto typesMadeSpec)) typesMadeUptoCard
end Rows
end Go.Proofs.YtbkobjbpilbhdaaDoor
