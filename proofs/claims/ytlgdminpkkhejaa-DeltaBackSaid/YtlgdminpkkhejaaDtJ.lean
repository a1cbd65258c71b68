/-
  The walk of law40's DeltaBack, all cases.
  Conditions: the messages and the numbers lie in memory.
-/
import Derived.Test.YtlgdminpkkhejaaDtH
namespace Go.Proofs.Ytlgdminpkkhejaa
open Go.RowKit

set_option maxHeartbeats 1600000 in
set_option maxRecDepth 100000 in
theorem back_heavy (r q n : Nat) (RA MA A : Option Addr) (rc mc c : Nat) (turn : Int) (w : World) (h : ¬ (r ≤ 30 ∧ q ≤ 30 ∧ n ≤ 400)) :
    Calls Try.prog 4 #[.slice RA r rc, .slice MA q mc, .slice A n c, .int .i64 turn] w fun e w' => e = .returned (.bool true) ∧ Below w.heap.size w w' := by
  have HAW := Lib.hid (awake_any w)
  have HLI := Lib.hid (light_any n A c w)
  by_cases h1 : r ≤ 30
  · have hq1 : decide ((30 : Int) < (r : Int)) = false := by simp; omega
    have hq3 : ¬ 30 < r := by omega
    by_cases h2 : q ≤ 30
    · have hq2 : decide ((30 : Int) < (q : Int)) = false := by simp; omega
      have hq4 : ¬ 30 < q := by omega
      have hn : ¬ n ≤ 400 := fun h3 => h ⟨h1, h2, h3⟩
      rw [decide_eq_false hn] at HLI
      clear hn h
      go_enter Try.func4, Try.ntmps4
      go_wp2_with fail
      refine HLI.out.mono ?_
      rintro e w1 ⟨rfl, rfl⟩
      go_wp2_with fail
      refine HAW.out.mono ?_
      rintro e w2 ⟨rfl, hb⟩
      go_wp2
      go_ret
      exact ⟨rfl, hb⟩
    · have hq2 : decide ((30 : Int) < (q : Int)) = true := by simp; omega
      have hq4 : 30 < q := by omega
      clear h h2
      go_enter Try.func4, Try.ntmps4
      go_wp2_with fail
      refine HAW.out.mono ?_
      rintro e w2 ⟨rfl, hb⟩
      go_wp2
      go_ret
      exact ⟨rfl, hb⟩
  · have hq1 : decide ((30 : Int) < (r : Int)) = true := by simp; omega
    have hq3 : 30 < r := by omega
    clear h h1
    go_enter Try.func4, Try.ntmps4
    go_wp2_with fail
    refine HAW.out.mono ?_
    rintro e w2 ⟨rfl, hb⟩
    go_wp2
    go_ret
    exact ⟨rfl, hb⟩
theorem law_back (raw more : List Msg) (rv mv : Value) (xs : List Int) (A : Option Addr) (c : Nat) (turn : Int) (w : World) (hr : SlM w rv raw) (hm : SlM w mv more)
    (hA : Row w (Lt w.heap.size) A (xs.map (Value.int .i64))) (hf : ∀ x ∈ xs, -9223372036854775808 ≤ x ∧ x ≤ 9223372036854775807) (ht : -9223372036854775808 ≤ turn ∧ turn ≤ 9223372036854775807) :
    Calls Try.prog 4 #[rv, mv, .slice A xs.length c, .int .i64 turn] w fun e w' => e = .returned (.bool true) ∧ Below w.heap.size w w' := by
  by_cases h : raw.length ≤ 30 ∧ more.length ≤ 30 ∧ xs.length ≤ 400
  · exact back_light raw more rv mv xs A c turn w hr hm h.1 h.2.1 hA h.2.2 hf ht
  · obtain ⟨RA, rc, rfl, _⟩ := hr
    obtain ⟨MA, mc, rfl, _⟩ := hm
    exact back_heavy raw.length more.length xs.length RA MA A rc mc c turn w h
end Go.Proofs.Ytlgdminpkkhejaa
