/-
  TypesParses at whatever text and numbers.
  Conditions: the numbers are ints.
-/
import Derived.Test.YtndhglcdkegigaaDoorPsL
namespace Go.Proofs.YtndhglcdkegigaaDoor
open Go.RowKit

set_option maxHeartbeats 4000000 in
set_option maxRecDepth 100000 in
theorem law_heavy (s : List UInt8) (n : Nat) (TA : Option Addr) (tc : Nat) (at_ : Int) (w : World) (hs : s.length ≤ 140737488355328) (h : ¬ n ≤ 400 ∨ ¬ s.length ≤ 2000) :
    Calls Tryd.prog 3 #[sv s, .slice TA n tc, .int .i64 at_] w fun e w' => e = .returned (.bool true) ∧ Below w.heap.size w w' := by
  have hli := light_any n TA tc w
  have hss := bs_size s
  by_cases hn : n ≤ 400
  · have hs2 : 2000 < (bs s).size := by omega
    rw [show decide (n ≤ 400) = true by simpa using hn] at hli
    have HLI := Lib.hid hli
    clear hli hss
    go_enter Tryd.func3, Tryd.ntmps3
    go_wp2_with fail
    refine HLI.out.mono ?_
    rintro e w0 ⟨rfl, rfl⟩
    go_wp2_with fail
    refine (awake_any _).mono ?_
    rintro e w1 ⟨rfl, hb1⟩
    have HB1 := Lib.hid hb1
    clear hb1
    go_wp2
    go_ret
    exact ⟨rfl, HB1.out⟩
  · rw [show decide (n ≤ 400) = false by simpa using hn] at hli
    have HLI := Lib.hid hli
    clear hli hss
    go_enter Tryd.func3, Tryd.ntmps3
    go_wp2_with fail
    refine HLI.out.mono ?_
    rintro e w0 ⟨rfl, rfl⟩
    go_wp2_with fail
    refine (awake_any _).mono ?_
    rintro e w1 ⟨rfl, hb1⟩
    have HB1 := Lib.hid hb1
    clear hb1
    go_wp2
    go_ret
    exact ⟨rfl, HB1.out⟩

theorem law_all (s : List UInt8) (xs : List Int) (TA : Option Addr) (tc : Nat) (at_ : Int) (w : World) (hs : s.length ≤ 140737488355328) (hA : Row w (Lt w.heap.size) TA (xs.map (Value.int .i64))) (hf : ∀ x ∈ xs, -9223372036854775808 ≤ x ∧ x ≤ 9223372036854775807) (h0 : -9223372036854775808 ≤ at_) (h1 : at_ ≤ 9223372036854775807) :
    Calls Tryd.prog 3 #[sv s, .slice TA xs.length tc, .int .i64 at_] w fun e w' => e = .returned (.bool true) ∧ Below w.heap.size w w' := by
  by_cases hn : xs.length ≤ 400
  · by_cases hs2 : s.length ≤ 2000
    · exact parses_light s xs TA tc at_ w hA hn hf hs2 h0 h1
    · exact law_heavy s _ TA tc at_ w hs (.inr hs2)
  · exact law_heavy s _ TA tc at_ w hs (.inl hn)
end Go.Proofs.YtndhglcdkegigaaDoor
