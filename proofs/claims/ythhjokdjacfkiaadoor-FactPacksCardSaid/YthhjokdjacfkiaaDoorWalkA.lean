/-
  The walks of recompilemade.Mod and recompileref06.SameTexts: what each call returns, and that it leaves the world alone.
  Conditions: those of each theorem (the numbers are ints; the slices read as lists of strings).
-/
import Derived.Test.YthhjokdjacfkiaaDoorMem
import Derived.Deep.QuietTactic
import Derived.BigQuiet
namespace Go.Proofs.YthhjokdjacfkiaaDoor
open Go.RowKit

theorem tmod_lt {n m : Int} (h1 : 1 ≤ m) (h : n.tmod m < 0) : n.tmod m + m = n % m := by
  rw [Int.tmod_eq_emod] at h ⊢
  have h2 : 0 ≤ n % m := Int.emod_nonneg _ (by omega)
  split at h
  · omega
  · rename_i hc
    rw [if_neg hc]
    omega
theorem tmod_ge {n m : Int} (h1 : 1 ≤ m) (h : 0 ≤ n.tmod m) : n.tmod m = n % m := by
  rw [Int.tmod_eq_emod] at h ⊢
  have h2 : n % m < m := Int.emod_lt_of_pos _ (by omega)
  split at h
  · rename_i hc
    rw [if_pos hc]
    omega
  · omega
theorem ret_int {k : IntKind} {a b : Int} (h : a = b) : Ending.returned (.int k a) = .returned (.int k b) := by rw [h]

set_option maxHeartbeats 400000 in
theorem mod_any (n m : Int) (w : World) (hn0 : -9223372036854775808 ≤ n) (hn1 : n ≤ 9223372036854775807) (hm0 : 1 ≤ m) (hm1 : m ≤ 9223372036854775807) :
    Calls Tryd.prog 9 #[.int .i64 n, .int .i64 m] w fun e w' => e = .returned (.int .i64 (n % m)) ∧ w = w' := by
  by_cases h0 : 0 ≤ n
  · have h2 : 0 ≤ n % m := Int.emod_nonneg _ (by omega)
    go_enter Tryd.func9, Tryd.ntmps9
    go_wp2
    go_ret
    exact ⟨rfl, rfl⟩
  · go_enter Tryd.func9, Tryd.ntmps9
    go_wp2
    · have hlt : n.tmod m < 0 := by assumption
      have h2 := tmod_lt hm0 hlt
      have h3 : n % m < m := Int.emod_lt_of_pos _ (by omega)
      have h4 : 0 ≤ n % m := Int.emod_nonneg _ (by omega)
      go_ret
      exact ⟨ret_int (by rw [IntWalk.wrap64_in _ ⟨by omega, by omega⟩]; exact h2), rfl⟩
    · have hge : 0 ≤ n.tmod m := by assumption
      have h2 := tmod_ge hm0 hge
      go_ret
      exact ⟨ret_int h2, rfl⟩

set_option maxHeartbeats 400000 in
theorem sameTexts_yes (A A' : Option Addr) (n c n' c' B : Nat) (ls : List (List UInt8)) (w : World) (h : Strs w B A n ls) (h' : Strs w B A' n' ls) (hn : n ≤ 1000000) :
    Calls Tryd.prog 8 #[.slice A n c, .slice A' n' c'] w fun e w' => e = .returned (.bool true) ∧ ∃ q, w' = w.drewN q := by
  obtain rfl : n' = n := h'.len.symm.trans h.len
  go_enter Tryd.func8, Tryd.ntmps8
  go_wp2
  go_loopw [5] (fun i wr => (∃ k : Nat, k ≤ n' ∧ i = .int .i64 k) ∧ ∃ q, wr = w.drewN q) (fun i _ => n' - (intOf i).toNat)
  case atStart => exact ⟨⟨0, Nat.zero_le _, rfl⟩, 0, rfl⟩
  case round =>
    obtain ⟨⟨k, hk, rfl⟩, q, rfl⟩ := hrel
    by_cases hlt : k < n'
    · obtain ⟨ad, l, rfl, _, e1, hc⟩ := h.at_ hlt
      obtain ⟨ad', l', rfl, _, e2, hc'⟩ := h'.at_ hlt
      obtain rfl : l = l' := Option.some.inj (e1.symm.trans e2)
      clear e1 e2 h h'
      go_wp2
      go_quiet (fail)
      go_wp2
      go_roundw
      case rel => exact ⟨⟨k + 1, by omega, by go_num⟩, _, rfl⟩
      case measure => simp [intOf]; omega
    · go_wp2
      go_ret
      exact ⟨rfl, _, rfl⟩
end Go.Proofs.YthhjokdjacfkiaaDoor
