/-
  DERIVED. GIVEN WITH THE SEED: THE CARDS: each row of YtmcoejknelhhcaaDoorRows.lean that lists a variable, with what it lists TIED to the program's text (the seventh form; the later family's looks); each row that meets fmt, with fmt's text TOLD by the authors' own Lean function (tested against real Go, not proved from fmt's source: count such statements apart). THE CARD IS WHAT COUNTS. Prove the row's statement (the work); the ties are given (YtmcoejknelhhcaaDoorTie.lean); close each card by the builder's one call (the guide's Derived/Test/ToyasCard.lean, 'card_holds'). Laid BY PROGRAM, IN A SANDBOX (cutbox-door.mjs). By AI agents, Wed Nov 11 2026. No macro, syntax, notation, axiom, sorry.
-/
import Derived.Test.YtmcoejknelhhcaaDoorRows
import GoSem.ClaimSeven
namespace Go.Proofs.YtmcoejknelhhcaaDoor
namespace Rows

/-- THE TIED CARD OF 'recompilelaw09.TypesMatches'. -/
def typesMatchesCard : Claim7 := { stood := { row := typesMatchesRow, standIns := [], harness := (true, "ebb4b431d26ddf2b67e9584f0408d77aee9bea8e2bff5420c826fb92091c9cf4"), looks := true }, kinds := [], alts := [], laidByText := true, laidKinds := [.data, .data, .data, .sentinel, .sentinel], laidTests := true, laidLooks := .later }
def TypesMatchesCardSaid : Prop := Claim7.holds Tryd.pinned (.plain (OpenSpec.ofChange typesMatchesSpec)) typesMatchesCard

/-- THE SECOND FORM's CARD OF 'recompilelaw09.TypesMatches'. -/
def typesMatchesUptoCard : Claim7 := { stood := { row := typesMatchesUptoRow, standIns := [], harness := (true, "ebb4b431d26ddf2b67e9584f0408d77aee9bea8e2bff5420c826fb92091c9cf4"), looks := true }, kinds := [], alts := [], laidByText := true, laidKinds := [.data, .data, .data, .sentinel, .sentinel], laidTests := true, laidLooks := .later }
def TypesMatchesUptoCardSaid : Prop := Claim7.holds Tryd.pinned (.plain (OpenSpec.upto typesMatchesSpec)) typesMatchesUptoCard
end Rows
end Go.Proofs.YtmcoejknelhhcaaDoor
