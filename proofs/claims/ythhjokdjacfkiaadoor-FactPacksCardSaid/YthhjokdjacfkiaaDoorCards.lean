/-
  DERIVED. GIVEN WITH THE SEED: THE CARDS: each row of YthhjokdjacfkiaaDoorRows.lean that lists a variable, with what it lists TIED to the program's text (the seventh form; the later family's looks); each row that meets fmt, with fmt's text TOLD by the authors' own Lean function (tested against real Go, not proved from fmt's source: count such statements apart). THE CARD IS WHAT COUNTS. Prove the row's statement (the work); the ties are given (YthhjokdjacfkiaaDoorTie.lean); close each card by the builder's one call (the guide's Derived/Test/ToyasCard.lean, 'card_holds'). Laid BY PROGRAM, IN A SANDBOX (cutbox-door.mjs). By AI agents, Wed Nov 11 2026. No macro, syntax, notation, axiom, sorry.
-/
import Derived.Test.YthhjokdjacfkiaaDoorRows
import GoSem.ClaimSeven
namespace Go.Proofs.YthhjokdjacfkiaaDoor
namespace Rows

/-- THE TIED CARD OF 'recompilelaw10.FactPacks'. -/
def factPacksCard : Claim7 := { stood := { row := factPacksRow, standIns := [], harness := (true, "ae0a9e9c3a9f695bf7122736a2ac8e02540b2ff0b8d39c4cb043fd1fd7a2ead9"), looks := true }, kinds := [], alts := [], laidByText := true, laidKinds := [.data, .data, .data, .sentinel, .sentinel], laidTests := true, laidLooks := .later }
def FactPacksCardSaid : Prop := Claim7.holds Tryd.pinned (.plain (OpenSpec.ofChange factPacksSpec)) factPacksCard

/-- THE SECOND FORM's CARD OF 'recompilelaw10.FactPacks'. -/
def factPacksUptoCard : Claim7 := { stood := { row := factPacksUptoRow, standIns := [], harness := (true, "ae0a9e9c3a9f695bf7122736a2ac8e02540b2ff0b8d39c4cb043fd1fd7a2ead9"), looks := true }, kinds := [], alts := [], laidByText := true, laidKinds := [.data, .data, .data, .sentinel, .sentinel], laidTests := true, laidLooks := .later }
def FactPacksUptoCardSaid : Prop := Claim7.holds Tryd.pinned (.plain (OpenSpec.upto factPacksSpec)) factPacksUptoCard
end Rows
end Go.Proofs.YthhjokdjacfkiaaDoor
