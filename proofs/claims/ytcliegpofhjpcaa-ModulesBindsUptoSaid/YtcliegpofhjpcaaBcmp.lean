/-
  The walks of cmp.Compare over strings, cmp.Or over two numbers.
  Conditions: those of each theorem.
-/
import Derived.Test.YtcliegpofhjpcaaBkey
namespace Go.Proofs.Ytcliegpofhjpcaa
open Go.RowKit

set_option maxHeartbeats 1000000 in
set_option maxRecDepth 100000 in
theorem cmpS_any (a b : List UInt8) (w : World) : Calls Try.prog 34 #[sv a, sv b] w fun e w' => e = .returned (.int .i64 (cmpS a b)) ∧ w' = w := by
  have e1 := bs_toList a
  have e2 := bs_toList b
  unfold cmpS
  by_cases hab : a = b
  · subst hab
    have hl := bytesLess_irr a
    rw [if_pos rfl]
    go_enter Try.func34, Try.ntmps34
    go_wp2
    go_ret
    exact ⟨rfl, rfl⟩
  · rw [if_neg hab]
    have hq : (a == b) = false := by simpa using hab
    cases hl : Op.bytesLess a b
    · go_enter Try.func34, Try.ntmps34
      go_wp2
      go_ret
      exact ⟨rfl, rfl⟩
    · go_enter Try.func34, Try.ntmps34
      go_wp2
      go_ret
      exact ⟨rfl, rfl⟩


set_option maxHeartbeats 1000000 in
set_option maxRecDepth 100000 in
theorem or_any (ad : Addr) (a b : Int) (w : World) (h0 : w.cell? (ad.add 0) = some (.int .i64 a)) (h1 : w.cell? (ad.add 1) = some (.int .i64 b)) :
    Calls Try.prog 33 #[.slice (some ad) 2 2] w fun e w' => e = .returned (.int .i64 (orI a b)) ∧ w' = w := by
  have hwr : ∀ k, k < 2 → ∃ z, w.cell? (ad.add k) = some (.int .i64 z) ∧ (k = 0 → z = a) ∧ (k = 1 → z = b) := fun k hk => by
    have : k = 0 ∨ k = 1 := by omega
    rcases this with rfl | rfl
    · exact ⟨a, h0, fun _ => rfl, fun h => by cases h⟩
    · exact ⟨b, h1, (fun h => by cases h), fun _ => rfl⟩
  have HC := Lib.hid hwr
  clear hwr h0 h1
  go_enter Try.func33, Try.ntmps33
  go_wp2_with fail
  go_loopw [8] (fun i wr => ∃ k : Nat, k ≤ 2 ∧ i = .int .i64 k ∧ wr = w ∧ (1 ≤ k → a = 0) ∧ (2 ≤ k → b = 0)) (fun i _ => 2 - (intOf i).toNat)
  case atStart => exact ⟨0, by omega, rfl, rfl, (fun h => by omega), fun h => by omega⟩
  case round =>
    obtain ⟨k, hk, rfl, rfl, ha, hb⟩ := hrel
    have HA := Lib.hid ha
    have HB := Lib.hid hb
    clear ha hb
    by_cases hlt : k < 2
    · obtain ⟨z, hz, hz0, hz1⟩ := HC.out k hlt
      have HZ0 := Lib.hid hz0
      have HZ1 := Lib.hid hz1
      clear hz0 hz1
      by_cases h0 : z = 0
      · subst h0
        go_wp2_with fail
        go_roundw
        case rel =>
          refine ⟨k + 1, by omega, by go_num, by trivial, fun _ => ?_, fun _ => ?_⟩
          · rcases Nat.eq_zero_or_pos k with e | e
            · exact (HZ0.out e).symm
            · exact HA.out e
          · exact (HZ1.out (by omega)).symm
        case measure => simp [intOf]; omega
      · have hq : (z == 0) = false := by simpa using h0
        go_wp2
        go_ret
        refine ⟨ret_int ?_, rfl⟩
        unfold orI
        have : k = 0 ∨ k = 1 := by omega
        rcases this with rfl | rfl
        · rw [← HZ0.out rfl, if_neg h0]
        · rw [if_pos (HA.out (by omega)), HZ1.out rfl]
    · obtain rfl : k = 2 := by omega
      go_wp2
      go_ret
      refine ⟨ret_int ?_, rfl⟩
      unfold orI
      rw [if_pos (HA.out (by omega)), HB.out (by omega)]
end Go.Proofs.Ytcliegpofhjpcaa
