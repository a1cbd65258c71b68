/-
  No cell of these rows narrows 'for every input' (looked for: loops, veiled, ifaces, maps, wideKeys, modest, calm, conditions, laid).
  DERIVED. THE GIVEN ROWS OF THIS SEAT. 3 by the template 'for every input the law returns true; each argument reads behind the call as it read before'; 0 by the template 'total and deterministic' (their statements: YtmnhgkhidepojaaTotals.lean).
  GIVEN WITH THE SEED: the statements are not yours to turn. If you find one false, say at which input.
  Laid BY PROGRAM, IN A SANDBOX (cutbox-rows.mjs): the forced cells as the released guide's own fill.sh prints them over the translation 5186bf5dae33ec81… (all of the seat's roots in one cut). By AI agents, Wed Nov 11 2026. No macro, syntax, notation, axiom, sorry.
-/
import Derived.Test.YtmnhgkhidepojaaChecked
import GoSem.Claim
import GoSem.ClaimJoined
import GoSem.ClaimMapViews
import Derived.JoinedTies
import Derived.KernelRfl
namespace Go.Proofs.Ytmnhgkhidepojaa
/- THE CELL 'sum', in the pinned program and in every row, IS THE sha256 OF THE DUMP (.gsa) THAT YtmnhgkhidepojaaProg.lean LOADS. Nothing in Lean hashes anything: it is a label: what it is worth is what the hold of that sum in a sandbox is worth. -/
noncomputable def Try.pinned : Pinned := { name := "ytmnhgkhidepojaa", sum := "5186bf5dae33ec8149c983ca171b2db50019689f572aef36e85e632fe155c573", checked := Try.checked }
namespace Rows
def none {H : Type} : Left H := { results := [], args := [] }

/-- 'recompilelaw05.IdentityMade': WHATEVER THE INPUT: true; the input reads as it did. -/
def identityMadeSpec : ChangeSpec := { name := "identityMade", fn := fun _ => fun
  | [d] => { results := [.lit (.bool true)], args := [d] }
  | _ => none }
def identityMadeRow : OpenClaim := { program := "ytmnhgkhidepojaa", sum := "5186bf5dae33ec8149c983ca171b2db50019689f572aef36e85e632fe155c573", func := "recompile/recompilelaw05.IdentityMade", spec := "identityMade", unfollowed := true, recurses := true, plainKeys := false, apart := false }
def IdentityMadeSaid : Prop := identityMadeRow.holds Try.pinned (OpenSpec.ofChange identityMadeSpec)

/-- ITS FALSE NEIGHBOUR: 'it returns false'. Refute it at one input. -/
def identityMadeWrong : ChangeSpec := { name := "identityMade", fn := fun _ => fun
  | [d] => { results := [.lit (.bool false)], args := [d] }
  | _ => none }
def IdentityMadeWrongFalsely : Prop := identityMadeRow.holds Try.pinned (OpenSpec.ofChange identityMadeWrong)

/-- 'recompilelaw05.IdentityStays': WHATEVER THE INPUT: true; the input reads as it did. -/
def identityStaysSpec : ChangeSpec := { name := "identityStays", fn := fun _ => fun
  | [d] => { results := [.lit (.bool true)], args := [d] }
  | _ => none }
def identityStaysRow : OpenClaim := { program := "ytmnhgkhidepojaa", sum := "5186bf5dae33ec8149c983ca171b2db50019689f572aef36e85e632fe155c573", func := "recompile/recompilelaw05.IdentityStays", spec := "identityStays", unfollowed := true, recurses := true, plainKeys := false, apart := false }
def IdentityStaysSaid : Prop := identityStaysRow.holds Try.pinned (OpenSpec.ofChange identityStaysSpec)

/-- ITS FALSE NEIGHBOUR: 'it returns false'. Refute it at one input. -/
def identityStaysWrong : ChangeSpec := { name := "identityStays", fn := fun _ => fun
  | [d] => { results := [.lit (.bool false)], args := [d] }
  | _ => none }
def IdentityStaysWrongFalsely : Prop := identityStaysRow.holds Try.pinned (OpenSpec.ofChange identityStaysWrong)

/-- 'recompilelaw05.IdentityMoves': WHATEVER THE INPUT: true; the input reads as it did. -/
def identityMovesSpec : ChangeSpec := { name := "identityMoves", fn := fun _ => fun
  | [d1, d2] => { results := [.lit (.bool true)], args := [d1, d2] }
  | _ => none }
def identityMovesRow : OpenClaim := { program := "ytmnhgkhidepojaa", sum := "5186bf5dae33ec8149c983ca171b2db50019689f572aef36e85e632fe155c573", func := "recompile/recompilelaw05.IdentityMoves", spec := "identityMoves", unfollowed := true, recurses := true, plainKeys := false, apart := false }
def IdentityMovesSaid : Prop := identityMovesRow.holds Try.pinned (OpenSpec.ofChange identityMovesSpec)

/-- ITS FALSE NEIGHBOUR: 'it returns false'. Refute it at one input. -/
def identityMovesWrong : ChangeSpec := { name := "identityMoves", fn := fun _ => fun
  | [d1, d2] => { results := [.lit (.bool false)], args := [d1, d2] }
  | _ => none }
def IdentityMovesWrongFalsely : Prop := identityMovesRow.holds Try.pinned (OpenSpec.ofChange identityMovesWrong)

/- THE SECOND FORM. 'bulk': how many values and letters a reading holds, each counted each time it is reached (what is shared counts as often as it is met; a slice's spare places count too). A statement '..UptoSaid' is the law's where the arguments, and the package variables that the reading takes, are together of bulk at most 1048576: NARROWER than '..Said'. Prove '..Said' where nothing that the law and all that it calls make is longer than what came in: it says more and counts as full. Else prove '..UptoSaid'. A law counts once. -/
mutual
def uptoBulk {H : Type} : DataW H → Nat
  | .lit (.string bytes) => bytes.length + 1
  | .lit _ => 1
  | .nil => 1
  | .ptr d => uptoBulk d + 1
  | .slice elems spare => uptoBulkAll elems + uptoBulkAll spare + 1
  | .agg parts => uptoBulkAll parts + 1
  | .iface _ d => uptoBulk d + 1
  | .map entries => uptoBulkEntries entries + 1
  | .held _ => 1
def uptoBulkAll {H : Type} : List (DataW H) → Nat
  | [] => 0
  | d :: r => uptoBulk d + uptoBulkAll r
def uptoBulkEntries {H : Type} : List (Lit × DataW H) → Nat
  | [] => 0
  | x :: r => uptoBulkEntry x + uptoBulkEntries r
def uptoBulkEntry {H : Type} : Lit × DataW H → Nat
  | (.string bytes, d) => bytes.length + uptoBulk d + 1
  | (_, d) => uptoBulk d + 1
 end
def uptoSmall : (H : Type) → List (DataW H) → Bool := fun _ ds => decide (uptoBulkAll ds ≤ 1048576)
def OpenSpec.upto (s : _root_.Go.ChangeSpec) : _root_.Go.OpenSpec := { _root_.Go.OpenSpec.ofChange s with cond := some uptoSmall }

/-- 'recompilelaw05.IdentityMade', WHERE WHAT IT READS IS OF BULK AT MOST 1048576: true; the input reads as it did. -/
def identityMadeUptoRow : OpenClaim := { program := "ytmnhgkhidepojaa", sum := "5186bf5dae33ec8149c983ca171b2db50019689f572aef36e85e632fe155c573", func := "recompile/recompilelaw05.IdentityMade", spec := "identityMade", unfollowed := true, recurses := true, plainKeys := false, apart := false, narrowed := true }
def IdentityMadeUptoSaid : Prop := identityMadeUptoRow.holds Try.pinned (OpenSpec.upto identityMadeSpec)

/-- 'recompilelaw05.IdentityStays', WHERE WHAT IT READS IS OF BULK AT MOST 1048576: true; the input reads as it did. -/
def identityStaysUptoRow : OpenClaim := { program := "ytmnhgkhidepojaa", sum := "5186bf5dae33ec8149c983ca171b2db50019689f572aef36e85e632fe155c573", func := "recompile/recompilelaw05.IdentityStays", spec := "identityStays", unfollowed := true, recurses := true, plainKeys := false, apart := false, narrowed := true }
def IdentityStaysUptoSaid : Prop := identityStaysUptoRow.holds Try.pinned (OpenSpec.upto identityStaysSpec)

/-- 'recompilelaw05.IdentityMoves', WHERE WHAT IT READS IS OF BULK AT MOST 1048576: true; the input reads as it did. -/
def identityMovesUptoRow : OpenClaim := { program := "ytmnhgkhidepojaa", sum := "5186bf5dae33ec8149c983ca171b2db50019689f572aef36e85e632fe155c573", func := "recompile/recompilelaw05.IdentityMoves", spec := "identityMoves", unfollowed := true, recurses := true, plainKeys := false, apart := false, narrowed := true }
def IdentityMovesUptoSaid : Prop := identityMovesUptoRow.holds Try.pinned (OpenSpec.upto identityMovesSpec)

end Rows
end Go.Proofs.Ytmnhgkhidepojaa
