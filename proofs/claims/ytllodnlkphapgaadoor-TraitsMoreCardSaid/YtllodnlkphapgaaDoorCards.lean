/-
  DERIVED. GIVEN WITH THE SEED: THE CARDS: each row of YtllodnlkphapgaaDoorRows.lean that lists a variable, with what it lists TIED to the program's text (the seventh form; the later family's looks); each row that meets fmt, with fmt's text TOLD by the authors' own Lean function (tested against real Go, not proved from fmt's source: count such statements apart). THE CARD IS WHAT COUNTS. Prove the row's statement (the work); the ties are given (YtllodnlkphapgaaDoorTie.lean); close each card by the builder's one call (the guide's Derived/Test/ToyasCard.lean, 'card_holds'). Laid BY PROGRAM, IN A SANDBOX (cutbox-door.mjs). By AI agents, Wed Nov 11 2026. No macro, syntax, notation, axiom, sorry.
-/
import Derived.Test.YtllodnlkphapgaaDoorRows
import GoSem.ClaimSeven
namespace Go.Proofs.YtllodnlkphapgaaDoor
namespace Rows

/-- THE TIED CARD OF 'recompilelaw12.TraitsTwo'. -/
def traitsTwoCard : Claim7 := { stood := { row := traitsTwoRow, standIns := [], harness := (true, "5dcd082dea19250ec58b763dd6c7903525ae0f0da9ee203ea49bc57d912ad6c3"), looks := true }, kinds := [], alts := [], laidByText := true, laidKinds := [.data, .data, .data, .sentinel, .sentinel], laidTests := true, laidLooks := .later }
def TraitsTwoCardSaid : Prop := Claim7.holds Tryd.pinned (.plain (OpenSpec.ofChange traitsTwoSpec)) traitsTwoCard

/-- THE TIED CARD OF 'recompilelaw12.TraitsMore'. -/
def traitsMoreCard : Claim7 := { stood := { row := traitsMoreRow, standIns := [], harness := (true, "5dcd082dea19250ec58b763dd6c7903525ae0f0da9ee203ea49bc57d912ad6c3"), looks := true }, kinds := [], alts := [], laidByText := true, laidKinds := [.data, .data, .data, .sentinel, .sentinel], laidTests := true, laidLooks := .later }
def TraitsMoreCardSaid : Prop := Claim7.holds Tryd.pinned (.plain (OpenSpec.ofChange traitsMoreSpec)) traitsMoreCard

/-- THE SECOND FORM's CARD OF 'recompilelaw12.TraitsTwo'. -/
def traitsTwoUptoCard : Claim7 := { stood := { row := traitsTwoUptoRow, standIns := [], harness := (true, "5dcd082dea19250ec58b763dd6c7903525ae0f0da9ee203ea49bc57d912ad6c3"), looks := true }, kinds := [], alts := [], laidByText := true, laidKinds := [.data, .data, .data, .sentinel, .sentinel], laidTests := true, laidLooks := .later }
def TraitsTwoUptoCardSaid : Prop := Claim7.holds Tryd.pinned (.plain (OpenSpec.upto traitsTwoSpec)) traitsTwoUptoCard

/-- THE SECOND FORM's CARD OF 'recompilelaw12.TraitsMore'. -/
def traitsMoreUptoCard : Claim7 := { stood := { row := traitsMoreUptoRow, standIns := [], harness := (true, "5dcd082dea19250ec58b763dd6c7903525ae0f0da9ee203ea49bc57d912ad6c3"), looks := true }, kinds := [], alts := [], laidByText := true, laidKinds := [.data, .data, .data, .sentinel, .sentinel], laidTests := true, laidLooks := .later }
def TraitsMoreUptoCardSaid : Prop := Claim7.holds Tryd.pinned (.plain (OpenSpec.upto traitsMoreSpec)) traitsMoreUptoCard
end Rows
end Go.Proofs.YtllodnlkphapgaaDoor
