/-
  The walks of strings.HasPrefix at "impl ", ref06.Hidden.
  Conditions: the name's length fits.
-/
import Derived.Test.YtcliegpofhjpcaaMdP
namespace Go.Proofs.Ytcliegpofhjpcaa
open Go.RowKit

theorem bs_take (l : List UInt8) (k : Nat) : (bs l).extract 0 k = bs (l.take k) := by
  unfold bs
  apply ByteArray.ext
  simp
theorem hid_long {n : List UInt8} (h : (5 : Int) ≤ ((bs n).size : Int)) : (((bs n).extract 0 5).toList == [105, 109, 112, 108, 32]) = hidB n := by
  rw [bs_size] at h
  rw [bs_take, bs_toList]
  unfold hidB
  rw [decide_eq_true (p := 5 ≤ n.length) (by omega), Bool.true_and]
  cases hb : (n.take 5 == [105, 109, 112, 108, 32]) with
  | true => exact (decide_eq_true (by simpa using hb)).symm
  | false => exact (decide_eq_false (by simpa using hb)).symm
theorem hid_short {n : List UInt8} (h : ((bs n).size : Int) < 5) : hidB n = false := by
  rw [bs_size] at h
  unfold hidB
  rw [decide_eq_false (p := 5 ≤ n.length) (by omega), Bool.false_and]

set_option maxRecDepth 100000 in
set_option maxHeartbeats 1000000 in
theorem hidden_any (n : List UInt8) (w : World) : Calls Try.prog 26 #[sv n] w fun e w' => e = .returned (.bool (hidB n)) ∧ w' = w := by
  go_enter Try.func26, Try.ntmps26
  go_wp2
  · go_ret
    exact ⟨by rw [← hid_long (by assumption)]; rfl, rfl⟩
  · go_ret
    exact ⟨by rw [hid_short (by assumption)]; rfl, rfl⟩

set_option maxRecDepth 100000 in
set_option maxHeartbeats 1000000 in
theorem prefixL_any (n : List UInt8) (w : World) : Calls Try.prog 29 #[sv n, .string ⟨#[105, 109, 112, 108, 32]⟩] w fun e w' => e = .returned (.bool (hidB n)) ∧ w' = w := by
  go_enter Try.func29, Try.ntmps29
  go_wp2
  · go_ret
    exact ⟨by rw [← hid_long (by assumption)]; rfl, rfl⟩
  · go_ret
    exact ⟨by rw [hid_short (by assumption)]; rfl, rfl⟩
set_option maxRecDepth 100000 in
set_option maxHeartbeats 1000000 in
theorem prefix_any (n : List UInt8) (w : World) : Calls Try.prog 22 #[sv n, .string ⟨#[105, 109, 112, 108, 32]⟩] w fun e w' => e = .returned (.bool (hidB n)) ∧ w' = w := by
  have HP := Lib.hid (prefixL_any n w)
  go_enter Try.func22, Try.ntmps22
  go_wp2_with fail
  refine HP.out.mono ?_
  rintro e w' ⟨rfl, rfl⟩
  go_wp2
  go_ret
  exact ⟨rfl, rfl⟩
end Go.Proofs.Ytcliegpofhjpcaa
