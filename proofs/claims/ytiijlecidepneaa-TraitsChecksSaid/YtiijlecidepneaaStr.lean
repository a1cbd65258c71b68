/-
  The walks of strings.CutPrefix at "$", types.parameter and slices.Index over strings.
  Conditions: those of each theorem.
-/
import Derived.Test.YtiijlecidepneaaMem
import Derived.Test.YtiijlecidepneaaShelf
import Derived.Deep.QuietTactic
import Derived.BigQuiet
namespace Go.Proofs.Ytiijlecidepneaa
open Go.RowKit

theorem ret_int {k : IntKind} {a b : Int} (h : a = b) : Ending.returned (.int k a) = .returned (.int k b) := by rw [h]

def cutD : List UInt8 → List UInt8 × Bool
  | [] => ([], false)
  | c :: r => if c = 36 then (r, true) else (c :: r, false)

theorem cutD_eq (l : List UInt8) : (Lib.trimPrefix l [36], Lib.hasPrefix l [36]) = cutD l := by
  cases l with
  | nil => rfl
  | cons c r =>
    unfold cutD
    by_cases h : c = 36
    · subst h; simp [Lib.trimPrefix, Lib.hasPrefix]
    · have h2 : ([36] : List UInt8).isPrefixOf (c :: r) = false := by
        have : (36 == c) = false := by simpa using fun e : 36 = c => h e.symm
        simp [List.isPrefixOf, this]
      simp [Lib.trimPrefix, Lib.hasPrefix, h, h2]

theorem cut_any (l : List UInt8) (w : World) : Calls Try.prog 43 #[sv l, .string ⟨#[36]⟩] w fun e w' => e = .returned (.tuple #[sv (cutD l).1, .bool (cutD l).2]) ∧ w = w' := by
  refine (Try.strings_CutPrefix (bs l) ⟨#[36]⟩ w).mono ?_
  rintro e w' ⟨rfl, rfl⟩
  rw [bs_data, show (⟨#[36]⟩ : ByteArray).data.toList = [36] from rfl, ← cutD_eq]
  exact ⟨rfl, rfl⟩

/-- A parameter's name, and whether it is one. -/
def parW (n : List UInt8) (k : Nat) : List UInt8 × Bool := if 0 < k then ([], false) else cutD n

set_option maxHeartbeats 400000 in
set_option maxRecDepth 100000 in
theorem parameter_any (n : List UInt8) (A : Option Addr) (k c : Nat) (w : World) (hk : k ≤ 3518437208883) :
    Calls Try.prog 47 #[.agg #[sv n, .slice A k c]] w fun e w' => e = .returned (.tuple #[sv (parW n k).1, .bool (parW n k).2]) ∧ Below w.heap.size w w' := by
  unfold parW
  by_cases h : 0 < k
  · rw [if_pos h]
    go_enter Try.func47, Try.ntmps47
    go_wp2
    go_ret2
    exact ⟨rfl, (Below.refl _ _).alloc (Nat.le_refl _) _⟩
  · rw [if_neg h]
    obtain rfl : k = 0 := by omega
    clear h
    go_enter Try.func47, Try.ntmps47
    go_wp2_with fail
    refine (cut_any n _).mono ?_
    rintro e w' ⟨rfl, rfl⟩
    go_wp2
    go_ret2
    exact ⟨rfl, (Below.refl _ _).alloc (Nat.le_refl _) _⟩

/-- Where a name stands first, or -1. -/
def idx : List (List UInt8) → List UInt8 → Nat → Int
  | [], _, _ => -1
  | a :: r, x, k => if a = x then (k : Int) else idx r x (k + 1)

theorem bytesNe {a b : List UInt8} (h : ¬ a = b) : ((bs a).toList == (bs b).toList) = false := by
  rw [Lib.toList_data, Lib.toList_data, bs_data, bs_data]
  simpa using h
theorem bytesEq {a b : List UInt8} (h : a = b) : ((bs a).toList == (bs b).toList) = true := by
  subst h
  simp

set_option maxHeartbeats 400000 in
set_option maxRecDepth 100000 in
theorem index_any (A : Option Addr) (c : Nat) (S : Nat → Prop) (ls : List (List UInt8)) (x : List UInt8) (w : World) (h : Row w S A (ls.map sv)) (hn : ls.length ≤ 3518437208883) :
    Calls Try.prog 42 #[.slice A ls.length c, sv x] w fun e w' => e = .returned (.int .i64 (idx ls x 0)) ∧ w = w' := by
  obtain ⟨n, hln⟩ : ∃ n, n = ls.length := ⟨_, rfl⟩
  have hn' : n ≤ 3518437208883 := by omega
  rw [← hln]
  have HL := Lib.hid hln
  clear hln hn
  go_enter Try.func42, Try.ntmps42
  go_wp2
  go_loop [8] (fun i => ∃ k : Nat, k ≤ n ∧ i = .int .i64 k ∧ idx (ls.drop k) x k = idx ls x 0) (fun i => n - (intOf i).toNat)
  case atStart => exact ⟨0, Nat.zero_le _, rfl, by simp⟩
  case round =>
    obtain ⟨k, hk, rfl, hx⟩ := hrel
    have HX := Lib.hid hx
    clear hx
    by_cases hlt : k < n
    · have hl : k < ls.length := by rw [← HL.out]; exact hlt
      obtain ⟨ad, rfl, _, hc⟩ := h.at_ (k := k) (u := sv ls[k]) (by simp [hl])
      have HD := Lib.hid (List.drop_eq_getElem_cons hl)
      by_cases he : ls[k] = x
      · have hb := bytesEq he.symm
        go_wp2
        go_ret
        refine ⟨ret_int ?_, rfl⟩
        rw [← HX.out, HD.out, idx, if_pos he]
      · have hb := bytesNe (fun e => he e.symm)
        go_wp2
        go_round
        case rel =>
          refine ⟨k + 1, by omega, by go_num, ?_⟩
          rw [← HX.out, HD.out, idx, if_neg he]
        case measure => simp [intOf]; omega
    · have : n = k := by omega
      have HN := Lib.hid this
      have hg : ¬ k < n := hlt
      clear this
      go_wp2
      go_ret
      refine ⟨ret_int ?_, rfl⟩
      rw [← HX.out, List.drop_eq_nil_of_le (by rw [← HL.out, HN.out]; exact Nat.le_refl _)]
      rfl
end Go.Proofs.Ytiijlecidepneaa
