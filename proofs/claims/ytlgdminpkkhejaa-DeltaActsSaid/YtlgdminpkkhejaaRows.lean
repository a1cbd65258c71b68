/-
  No cell of these rows narrows 'for every input' (looked for: loops, veiled, ifaces, maps, wideKeys, modest, calm, conditions, laid).
  DERIVED. THE GIVEN ROWS OF THIS SEAT. 4 by the template 'for every input the law returns true; each argument reads behind the call as it read before'; 0 by the template 'total and deterministic' (their statements: YtlgdminpkkhejaaTotals.lean).
  GIVEN WITH THE SEED: the statements are not yours to turn. If you find one false, say at which input.
  Laid BY PROGRAM, IN A SANDBOX (cutbox-rows.mjs): the forced cells as the released guide's own fill.sh prints them over the translation 2311a83ad539546c… (all of the seat's roots in one cut). By AI agents, Wed Nov 11 2026. No macro, syntax, notation, axiom, sorry.
-/
import Derived.Test.YtlgdminpkkhejaaChecked
import GoSem.Claim
import GoSem.ClaimJoined
import GoSem.ClaimMapViews
import Derived.JoinedTies
import Derived.KernelRfl
namespace Go.Proofs.Ytlgdminpkkhejaa
/- THE CELL 'sum', in the pinned program and in every row, IS THE sha256 OF THE DUMP (.gsa) THAT YtlgdminpkkhejaaProg.lean LOADS. Nothing in Lean hashes anything: it is a label: what it is worth is what the hold of that sum in a sandbox is worth. -/
noncomputable def Try.pinned : Pinned := { name := "ytlgdminpkkhejaa", sum := "2311a83ad539546c44936833b094204e78139fb1552acb6534982ab41bf485c3", checked := Try.checked }
namespace Rows
def none {H : Type} : Left H := { results := [], args := [] }

/-- 'recompilelaw40.DeltaActs': WHATEVER THE INPUT: true; the input reads as it did. -/
def deltaActsSpec : ChangeSpec := { name := "deltaActs", fn := fun _ => fun
  | [d1, d2, d3, d4, d5, d6] => { results := [.lit (.bool true)], args := [d1, d2, d3, d4, d5, d6] }
  | _ => none }
def deltaActsRow : OpenClaim := { program := "ytlgdminpkkhejaa", sum := "2311a83ad539546c44936833b094204e78139fb1552acb6534982ab41bf485c3", func := "recompile/recompilelaw40.DeltaActs", spec := "deltaActs", inPlace := ["internal/bytealg.abigen_runtime_cmpstring"], unfollowed := true, recurses := true, plainKeys := false, apart := false }
def DeltaActsSaid : Prop := deltaActsRow.holds Try.pinned (OpenSpec.ofChange deltaActsSpec)

/-- ITS FALSE NEIGHBOUR: 'it returns false'. Refute it at one input. -/
def deltaActsWrong : ChangeSpec := { name := "deltaActs", fn := fun _ => fun
  | [d1, d2, d3, d4, d5, d6] => { results := [.lit (.bool false)], args := [d1, d2, d3, d4, d5, d6] }
  | _ => none }
def DeltaActsWrongFalsely : Prop := deltaActsRow.holds Try.pinned (OpenSpec.ofChange deltaActsWrong)

/-- 'recompilelaw40.DeltaBack': WHATEVER THE INPUT: true; the input reads as it did. -/
def deltaBackSpec : ChangeSpec := { name := "deltaBack", fn := fun _ => fun
  | [d1, d2, d3, d4] => { results := [.lit (.bool true)], args := [d1, d2, d3, d4] }
  | _ => none }
def deltaBackRow : OpenClaim := { program := "ytlgdminpkkhejaa", sum := "2311a83ad539546c44936833b094204e78139fb1552acb6534982ab41bf485c3", func := "recompile/recompilelaw40.DeltaBack", spec := "deltaBack", inPlace := ["internal/bytealg.abigen_runtime_cmpstring"], unfollowed := true, recurses := true, plainKeys := false, apart := false }
def DeltaBackSaid : Prop := deltaBackRow.holds Try.pinned (OpenSpec.ofChange deltaBackSpec)

/-- ITS FALSE NEIGHBOUR: 'it returns false'. Refute it at one input. -/
def deltaBackWrong : ChangeSpec := { name := "deltaBack", fn := fun _ => fun
  | [d1, d2, d3, d4] => { results := [.lit (.bool false)], args := [d1, d2, d3, d4] }
  | _ => none }
def DeltaBackWrongFalsely : Prop := deltaBackRow.holds Try.pinned (OpenSpec.ofChange deltaBackWrong)

/-- 'recompilelaw40.DeltaLeast': WHATEVER THE INPUT: true; the input reads as it did. -/
def deltaLeastSpec : ChangeSpec := { name := "deltaLeast", fn := fun _ => fun
  | [d] => { results := [.lit (.bool true)], args := [d] }
  | _ => none }
def deltaLeastRow : OpenClaim := { program := "ytlgdminpkkhejaa", sum := "2311a83ad539546c44936833b094204e78139fb1552acb6534982ab41bf485c3", func := "recompile/recompilelaw40.DeltaLeast", spec := "deltaLeast", inPlace := ["internal/bytealg.abigen_runtime_cmpstring"], unfollowed := true, recurses := true, plainKeys := false, apart := false }
def DeltaLeastSaid : Prop := deltaLeastRow.holds Try.pinned (OpenSpec.ofChange deltaLeastSpec)

/-- ITS FALSE NEIGHBOUR: 'it returns false'. Refute it at one input. -/
def deltaLeastWrong : ChangeSpec := { name := "deltaLeast", fn := fun _ => fun
  | [d] => { results := [.lit (.bool false)], args := [d] }
  | _ => none }
def DeltaLeastWrongFalsely : Prop := deltaLeastRow.holds Try.pinned (OpenSpec.ofChange deltaLeastWrong)

/-- 'recompilelaw40.DeltaTurned': WHATEVER THE INPUT: true; the input reads as it did. -/
def deltaTurnedSpec : ChangeSpec := { name := "deltaTurned", fn := fun _ => fun
  | [d] => { results := [.lit (.bool true)], args := [d] }
  | _ => none }
def deltaTurnedRow : OpenClaim := { program := "ytlgdminpkkhejaa", sum := "2311a83ad539546c44936833b094204e78139fb1552acb6534982ab41bf485c3", func := "recompile/recompilelaw40.DeltaTurned", spec := "deltaTurned", inPlace := ["internal/bytealg.abigen_runtime_cmpstring"], unfollowed := true, recurses := true, plainKeys := false, apart := false }
def DeltaTurnedSaid : Prop := deltaTurnedRow.holds Try.pinned (OpenSpec.ofChange deltaTurnedSpec)

/-- ITS FALSE NEIGHBOUR: 'it returns false'. Refute it at one input. -/
def deltaTurnedWrong : ChangeSpec := { name := "deltaTurned", fn := fun _ => fun
  | [d] => { results := [.lit (.bool false)], args := [d] }
  | _ => none }
def DeltaTurnedWrongFalsely : Prop := deltaTurnedRow.holds Try.pinned (OpenSpec.ofChange deltaTurnedWrong)

/- THE SECOND FORM. 'bulk': how many values and letters a reading holds, each counted each time it is reached (what is shared counts as often as it is met; a slice's spare places count too). A statement '..UptoSaid' is the law's where the arguments, and the package variables that the reading takes, are together of bulk at most 1048576: NARROWER than '..Said'. Prove '..Said' where nothing that the law and all that it calls make is longer than what came in: it says more and counts as full. Else prove '..UptoSaid'. A law counts once. -/
mutual
def uptoBulk {H : Type} : DataW H → Nat
  | .lit (.string bytes) => bytes.length + 1
  | .lit _ => 1
  | .nil => 1
  | .ptr d => uptoBulk d + 1
  | .slice elems spare => uptoBulkAll elems + uptoBulkAll spare + 1
  | .agg parts => uptoBulkAll parts + 1
  | .iface _ d => uptoBulk d + 1
  | .map entries => uptoBulkEntries entries + 1
  | .held _ => 1
def uptoBulkAll {H : Type} : List (DataW H) → Nat
  | [] => 0
  | d :: r => uptoBulk d + uptoBulkAll r
def uptoBulkEntries {H : Type} : List (Lit × DataW H) → Nat
  | [] => 0
  | x :: r => uptoBulkEntry x + uptoBulkEntries r
def uptoBulkEntry {H : Type} : Lit × DataW H → Nat
  | (.string bytes, d) => bytes.length + uptoBulk d + 1
  | (_, d) => uptoBulk d + 1
 end
def uptoSmall : (H : Type) → List (DataW H) → Bool := fun _ ds => decide (uptoBulkAll ds ≤ 1048576)
def OpenSpec.upto (s : _root_.Go.ChangeSpec) : _root_.Go.OpenSpec := { _root_.Go.OpenSpec.ofChange s with cond := some uptoSmall }

/-- 'recompilelaw40.DeltaActs', WHERE WHAT IT READS IS OF BULK AT MOST 1048576: true; the input reads as it did. -/
def deltaActsUptoRow : OpenClaim := { program := "ytlgdminpkkhejaa", sum := "2311a83ad539546c44936833b094204e78139fb1552acb6534982ab41bf485c3", func := "recompile/recompilelaw40.DeltaActs", spec := "deltaActs", inPlace := ["internal/bytealg.abigen_runtime_cmpstring"], unfollowed := true, recurses := true, plainKeys := false, apart := false, narrowed := true }
def DeltaActsUptoSaid : Prop := deltaActsUptoRow.holds Try.pinned (OpenSpec.upto deltaActsSpec)

/-- 'recompilelaw40.DeltaBack', WHERE WHAT IT READS IS OF BULK AT MOST 1048576: true; the input reads as it did. -/
def deltaBackUptoRow : OpenClaim := { program := "ytlgdminpkkhejaa", sum := "2311a83ad539546c44936833b094204e78139fb1552acb6534982ab41bf485c3", func := "recompile/recompilelaw40.DeltaBack", spec := "deltaBack", inPlace := ["internal/bytealg.abigen_runtime_cmpstring"], unfollowed := true, recurses := true, plainKeys := false, apart := false, narrowed := true }
def DeltaBackUptoSaid : Prop := deltaBackUptoRow.holds Try.pinned (OpenSpec.upto deltaBackSpec)

/-- 'recompilelaw40.DeltaLeast', WHERE WHAT IT READS IS OF BULK AT MOST 1048576: true; the input reads as it did. -/
def deltaLeastUptoRow : OpenClaim := { program := "ytlgdminpkkhejaa", sum := "2311a83ad539546c44936833b094204e78139fb1552acb6534982ab41bf485c3", func := "recompile/recompilelaw40.DeltaLeast", spec := "deltaLeast", inPlace := ["internal/bytealg.abigen_runtime_cmpstring"], unfollowed := true, recurses := true, plainKeys := false, apart := false, narrowed := true }
def DeltaLeastUptoSaid : Prop := deltaLeastUptoRow.holds Try.pinned (OpenSpec.upto deltaLeastSpec)

/-- 'recompilelaw40.DeltaTurned', WHERE WHAT IT READS IS OF BULK AT MOST 1048576: true; the input reads as it did. -/
def deltaTurnedUptoRow : OpenClaim := { program := "ytlgdminpkkhejaa", sum := "2311a83ad539546c44936833b094204e78139fb1552acb6534982ab41bf485c3", func := "recompile/recompilelaw40.DeltaTurned", spec := "deltaTurned", inPlace := ["internal/bytealg.abigen_runtime_cmpstring"], unfollowed := true, recurses := true, plainKeys := false, apart := false, narrowed := true }
def DeltaTurnedUptoSaid : Prop := deltaTurnedUptoRow.holds Try.pinned (OpenSpec.upto deltaTurnedSpec)

end Rows
end Go.Proofs.Ytlgdminpkkhejaa
