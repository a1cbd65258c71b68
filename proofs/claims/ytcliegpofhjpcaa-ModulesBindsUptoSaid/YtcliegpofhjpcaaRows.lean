/-
  No cell of these rows narrows 'for every input' (looked for: loops, veiled, ifaces, maps, wideKeys, modest, calm, conditions, laid).
  DERIVED. THE GIVEN ROWS OF THIS SEAT. 3 by the template 'for every input the law returns true; each argument reads behind the call as it read before'; 0 by the template 'total and deterministic' (their statements: YtcliegpofhjpcaaTotals.lean).
  GIVEN WITH THE SEED: the statements are not yours to turn. If you find one false, say at which input.
  Laid BY PROGRAM, IN A SANDBOX (cutbox-rows.mjs): the forced cells as the released guide's own fill.sh prints them over the translation 7175dcd450beb155… (all of the seat's roots in one cut). By AI agents, Wed Nov 11 2026. No macro, syntax, notation, axiom, sorry.
-/
import Derived.Test.YtcliegpofhjpcaaChecked
import GoSem.Claim
import GoSem.ClaimJoined
import GoSem.ClaimMapViews
import Derived.JoinedTies
import Derived.KernelRfl
namespace Go.Proofs.Ytcliegpofhjpcaa
/- THE CELL 'sum', in the pinned program and in every row, IS THE sha256 OF THE DUMP (.gsa) THAT YtcliegpofhjpcaaProg.lean LOADS. Nothing in Lean hashes anything: it is a label: what it is worth is what the hold of that sum in a sandbox is worth. -/
noncomputable def Try.pinned : Pinned := { name := "ytcliegpofhjpcaa", sum := "7175dcd450beb15539c9d1b4e085a8684abdcc6969b4b92495beb60f9eb32b32", checked := Try.checked }
namespace Rows
def none {H : Type} : Left H := { results := [], args := [] }

/-- 'recompilelaw06.ModulesBinds': WHATEVER THE INPUT: true; the input reads as it did. -/
def modulesBindsSpec : ChangeSpec := { name := "modulesBinds", fn := fun _ => fun
  | [d1, d2, d3] => { results := [.lit (.bool true)], args := [d1, d2, d3] }
  | _ => none }
def modulesBindsRow : OpenClaim := { program := "ytcliegpofhjpcaa", sum := "7175dcd450beb15539c9d1b4e085a8684abdcc6969b4b92495beb60f9eb32b32", func := "recompile/recompilelaw06.ModulesBinds", spec := "modulesBinds", unfollowed := true, recurses := true, plainKeys := false, apart := false }
def ModulesBindsSaid : Prop := modulesBindsRow.holds Try.pinned (OpenSpec.ofChange modulesBindsSpec)

/-- ITS FALSE NEIGHBOUR: 'it returns false'. Refute it at one input. -/
def modulesBindsWrong : ChangeSpec := { name := "modulesBinds", fn := fun _ => fun
  | [d1, d2, d3] => { results := [.lit (.bool false)], args := [d1, d2, d3] }
  | _ => none }
def ModulesBindsWrongFalsely : Prop := modulesBindsRow.holds Try.pinned (OpenSpec.ofChange modulesBindsWrong)

/-- 'recompilelaw06.ModulesLeast': WHATEVER THE INPUT: true; the input reads as it did. -/
def modulesLeastSpec : ChangeSpec := { name := "modulesLeast", fn := fun _ => fun
  | [d1, d2] => { results := [.lit (.bool true)], args := [d1, d2] }
  | _ => none }
def modulesLeastRow : OpenClaim := { program := "ytcliegpofhjpcaa", sum := "7175dcd450beb15539c9d1b4e085a8684abdcc6969b4b92495beb60f9eb32b32", func := "recompile/recompilelaw06.ModulesLeast", spec := "modulesLeast", unfollowed := true, recurses := true, plainKeys := false, apart := false }
def ModulesLeastSaid : Prop := modulesLeastRow.holds Try.pinned (OpenSpec.ofChange modulesLeastSpec)

/-- ITS FALSE NEIGHBOUR: 'it returns false'. Refute it at one input. -/
def modulesLeastWrong : ChangeSpec := { name := "modulesLeast", fn := fun _ => fun
  | [d1, d2] => { results := [.lit (.bool false)], args := [d1, d2] }
  | _ => none }
def ModulesLeastWrongFalsely : Prop := modulesLeastRow.holds Try.pinned (OpenSpec.ofChange modulesLeastWrong)

/-- 'recompilelaw06.ModulesGrow': WHATEVER THE INPUT: true; the input reads as it did. -/
def modulesGrowSpec : ChangeSpec := { name := "modulesGrow", fn := fun _ => fun
  | [d] => { results := [.lit (.bool true)], args := [d] }
  | _ => none }
def modulesGrowRow : OpenClaim := { program := "ytcliegpofhjpcaa", sum := "7175dcd450beb15539c9d1b4e085a8684abdcc6969b4b92495beb60f9eb32b32", func := "recompile/recompilelaw06.ModulesGrow", spec := "modulesGrow", unfollowed := true, recurses := true, plainKeys := false, apart := false }
def ModulesGrowSaid : Prop := modulesGrowRow.holds Try.pinned (OpenSpec.ofChange modulesGrowSpec)

/-- ITS FALSE NEIGHBOUR: 'it returns false'. Refute it at one input. -/
def modulesGrowWrong : ChangeSpec := { name := "modulesGrow", fn := fun _ => fun
  | [d] => { results := [.lit (.bool false)], args := [d] }
  | _ => none }
def ModulesGrowWrongFalsely : Prop := modulesGrowRow.holds Try.pinned (OpenSpec.ofChange modulesGrowWrong)

/- THE SECOND FORM. 'bulk': how many values and letters a reading holds, each counted each time it is reached (what is shared counts as often as it is met; a slice's spare places count too). A statement '..UptoSaid' is the law's where the arguments, and the package variables that the reading takes, are together of bulk at most 1048576: NARROWER than '..Said'. Prove '..Said' where nothing that the law and all that it calls make is longer than what came in: it says more and counts as full. Else prove '..UptoSaid'. A law counts once. -/
mutual
def uptoBulk {H : Type} : DataW H → Nat
  | .lit (.string bytes) => bytes.length + 1
  | .lit _ => 1
  | .nil => 1
  | .ptr d => uptoBulk d + 1
  | .slice elems spare => uptoBulkAll elems + uptoBulkAll spare + 1
  | .agg parts => uptoBulkAll parts + 1
  | .iface _ d => uptoBulk d + 1
  | .map entries => uptoBulkEntries entries + 1
  | .held _ => 1
def uptoBulkAll {H : Type} : List (DataW H) → Nat
  | [] => 0
  | d :: r => uptoBulk d + uptoBulkAll r
def uptoBulkEntries {H : Type} : List (Lit × DataW H) → Nat
  | [] => 0
  | x :: r => uptoBulkEntry x + uptoBulkEntries r
def uptoBulkEntry {H : Type} : Lit × DataW H → Nat
  | (.string bytes, d) => bytes.length + uptoBulk d + 1
  | (_, d) => uptoBulk d + 1
 end
def uptoSmall : (H : Type) → List (DataW H) → Bool := fun _ ds => decide (uptoBulkAll ds ≤ 1048576)
def OpenSpec.upto (s : _root_.Go.ChangeSpec) : _root_.Go.OpenSpec := { _root_.Go.OpenSpec.ofChange s with cond := some uptoSmall }

/-- 'recompilelaw06.ModulesBinds', WHERE WHAT IT READS IS OF BULK AT MOST 1048576: true; the input reads as it did. -/
def modulesBindsUptoRow : OpenClaim := { program := "ytcliegpofhjpcaa", sum := "7175dcd450beb15539c9d1b4e085a8684abdcc6969b4b92495beb60f9eb32b32", func := "recompile/recompilelaw06.ModulesBinds", spec := "modulesBinds", unfollowed := true, recurses := true, plainKeys := false, apart := false, narrowed := true }
def ModulesBindsUptoSaid : Prop := modulesBindsUptoRow.holds Try.pinned (OpenSpec.upto modulesBindsSpec)

/-- 'recompilelaw06.ModulesLeast', WHERE WHAT IT READS IS OF BULK AT MOST 1048576: true; the input reads as it did. -/
def modulesLeastUptoRow : OpenClaim := { program := "ytcliegpofhjpcaa", sum := "7175dcd450beb15539c9d1b4e085a8684abdcc6969b4b92495beb60f9eb32b32", func := "recompile/recompilelaw06.ModulesLeast", spec := "modulesLeast", unfollowed := true, recurses := true, plainKeys := false, apart := false, narrowed := true }
def ModulesLeastUptoSaid : Prop := modulesLeastUptoRow.holds Try.pinned (OpenSpec.upto modulesLeastSpec)

/-- 'recompilelaw06.ModulesGrow', WHERE WHAT IT READS IS OF BULK AT MOST 1048576: true; the input reads as it did. -/
def modulesGrowUptoRow : OpenClaim := { program := "ytcliegpofhjpcaa", sum := "7175dcd450beb15539c9d1b4e085a8684abdcc6969b4b92495beb60f9eb32b32", func := "recompile/recompilelaw06.ModulesGrow", spec := "modulesGrow", unfollowed := true, recurses := true, plainKeys := false, apart := false, narrowed := true }
def ModulesGrowUptoSaid : Prop := modulesGrowUptoRow.holds Try.pinned (OpenSpec.upto modulesGrowSpec)

end Rows
end Go.Proofs.Ytcliegpofhjpcaa
