/-
  TraitsMore at whatever numbers.
  Conditions: the numbers are ints.
-/
import Derived.Test.YtllodnlkphapgaaDoorMoL
namespace Go.Proofs.YtllodnlkphapgaaDoor
open Go.RowKit

set_option maxHeartbeats 4000000 in
set_option maxRecDepth 100000 in
theorem law_heavy (n : Nat) (turn : Int) (TA : Option Addr) (tc : Nat) (w : World) (hn : ¬ n ≤ 400) :
    Calls Tryd.prog 4 #[.slice TA n tc, .int .i64 turn] w fun e w' => e = .returned (.bool true) ∧ Below w.heap.size w w' := by
  have hli := light_any n TA tc w
  rw [show decide (n ≤ 400) = false by simpa using hn] at hli
  have HLI := Lib.hid hli
  clear hli
  go_enter Tryd.func4, Tryd.ntmps4
  go_wp2_with fail
  refine HLI.out.mono ?_
  rintro e w0 ⟨rfl, rfl⟩
  go_wp2_with fail
  refine (awake_any _).mono ?_
  rintro e w1 ⟨rfl, hb1⟩
  have HB1 := Lib.hid hb1
  clear hb1
  go_wp2
  go_ret
  exact ⟨rfl, HB1.out⟩

theorem law_all (xs : List Int) (TA : Option Addr) (tc : Nat) (turn : Int) (w : World) (hA : Row w (Lt w.heap.size) TA (xs.map (Value.int .i64))) (hf : ∀ x ∈ xs, -9223372036854775808 ≤ x ∧ x ≤ 9223372036854775807) (h0 : -9223372036854775808 ≤ turn) (h1 : turn ≤ 9223372036854775807) :
    Calls Tryd.prog 4 #[.slice TA xs.length tc, .int .i64 turn] w fun e w' => e = .returned (.bool true) ∧ Below w.heap.size w w' := by
  by_cases hn : xs.length ≤ 400
  · exact more_light xs turn TA tc w hA hn hf h0 h1
  · exact law_heavy _ turn TA tc w hn
end Go.Proofs.YtllodnlkphapgaaDoor
