/-
  The walk of unify.Variable.
  Conditions: the name is no variable's, or that of a variable below 100.
-/
import Derived.Test.YtndhglcdkegigaaDoorUni
import Derived.Test.YtndhglcdkegigaaDoorRMap
import Derived.Lib.AtoiErrMem
namespace Go.Proofs.YtndhglcdkegigaaDoor
open Go.RowKit

theorem dec_len {j : Nat} (h : j < 100) : (Lib.decDigits j).length ≤ 2 := by
  rw [Lib.decDigits]
  split
  · simp
  · rw [Lib.decDigits, dif_pos (by omega)]
    simp
def varV (n : List UInt8) (k : Nat) : Option Nat := if k = 0 then vnum n else none
theorem varOf_mk (n : List UInt8) (ks : List Ty) : varOf (.mk n ks) = varV n ks.length := by
  cases ks with
  | nil => rfl
  | cons a r => simp [varOf, varV]

theorem cutQ_no {n : List UInt8} (h : vnum n = none) : Lib.trimPrefix n [63] = n ∧ Lib.hasPrefix n [63] = false := by
  cases n with
  | nil => exact ⟨rfl, rfl⟩
  | cons c r =>
    have hc : c ≠ 63 := by
      intro e
      simp [vnum, e] at h
    have h2 : ([63] : List UInt8).isPrefixOf (c :: r) = false := by
      have : (63 == c) = false := by simpa using fun e : 63 = c => hc e.symm
      simp [List.isPrefixOf, this]
    simp [Lib.trimPrefix, Lib.hasPrefix, h2]
theorem cutQ_yes (j : Nat) : Lib.trimPrefix (vname j) [63] = Lib.decDigits j ∧ Lib.hasPrefix (vname j) [63] = true := by
  simp [vname, Lib.trimPrefix, Lib.hasPrefix]

def varI : Option Nat → Int
  | some k => (k : Int)
  | none => 0
def VarRes (r : Option Nat) (w : World) (e : Ending) (w' : World) : Prop := e = .returned (.tuple #[.int .i64 (varI r), .bool r.isSome]) ∧ Below w.heap.size w w'

set_option maxHeartbeats 4000000 in
set_option maxRecDepth 100000 in
theorem variable_any (p : Addr) (n : List UInt8) (A : Option Addr) (k c : Nat) (w : World) (c0 : w.cell? p = some (sv n)) (c1 : w.cell? ⟨p.block, p.off + 1, none⟩ = some (.slice A k c)) (hg : GoodN n) (hk : k ≤ 4000000) :
    Calls Tryd.prog 77 #[.pointer (some p)] w (VarRes (varV n k) w) := by
  rcases hg with hg | ⟨j, hj, rfl⟩
  · have hv : varV n k = none := by
      unfold varV
      split
      · exact hg
      · rfl
    rw [hv]
    have hcut := Tryd.strings_CutPrefix (bs n) ⟨#[63]⟩ w
    rw [bs_data, show (⟨#[63]⟩ : ByteArray).data.toList = [63] from rfl, (cutQ_no hg).1, (cutQ_no hg).2] at hcut
    have HCUT := Lib.hid hcut
    clear hcut hg hv
    go_enter Tryd.func77, Tryd.ntmps77
    go_wp2_with fail
    refine HCUT.out.mono ?_
    rintro e w1 ⟨rfl, rfl⟩
    go_wp2
    go_ret2
    exact ⟨rfl, Below.refl _ _⟩
  · have hcut := Tryd.strings_CutPrefix (bs (vname j)) ⟨#[63]⟩ w
    rw [bs_data, show (⟨#[63]⟩ : ByteArray).data.toList = [63] from rfl, (cutQ_yes j).1, (cutQ_yes j).2] at hcut
    have HCUT : Hid (Calls Tryd.prog 75 #[.string (bs (vname j)), .string ⟨#[63]⟩] w fun e w' => e = .returned (.tuple #[.string (bs (Lib.decDigits j)), .bool true]) ∧ w' = w) := Lib.hid hcut
    clear hcut
    by_cases hk0 : k = 0
    · subst hk0
      have hv : varV (vname j) 0 = some j := by simp [varV, vnum_name]
      rw [hv]
      have hsz : (bs (Lib.decDigits j)).size ≤ 7 := by rw [bs_size]; have := dec_len hj; omega
      have hat := Tryd.strconv_Atoi_ok (bs (Lib.decDigits j)) (by omega) (j : Int) (by rw [bs_data]; exact atoi_dec j (by omega)) w
      have HAT := Lib.hid hat
      have hb1 : decide ((j : Int) < 0) = false := by simp
      have hb2 : decide ((j : Int) > 4000000) = false := by simp; omega
      clear hat hv
      go_enter Tryd.func77, Tryd.ntmps77
      go_wp2_with fail
      refine HCUT.out.mono ?_
      rintro e w1 ⟨rfl, rfl⟩
      go_wp2_with fail
      refine HAT.out.mono ?_
      rintro e w2 ⟨rfl, hw2⟩
      have hb : Below w1.heap.size w1 w2 := by
        rcases hw2 with rfl | ⟨t, rfl⟩
        · exact Below.refl _ _
        · exact Lib.bytesWorld_below _ _ _
      clear hw2
      go_wp2_with fail
      refine (Tryd.strconv_Itoa_small j hj w2).mono ?_
      rintro e w3 ⟨rfl, rfl⟩
      have hbe : (Lib.decDigits j == (bs (Lib.decDigits j)).toList) = true := by rw [Lib.toList_data, bs_data]; simp
      have hbn : (Lib.decDigits j != (bs (Lib.decDigits j)).toList) = false := by rw [bne, hbe]; rfl
      go_wp2
      refine bodyPost_ret (v := .tuple #[.int .i64 (j : Int), .bool true]) (by simp [results, Tryd.results77, go_sem]) rfl ⟨rfl, hb⟩
    · have hv : varV (vname j) k = none := by simp [varV, hk0]
      rw [hv]
      have hkg : (k : Int) > 0 := by omega
      clear hv
      go_enter Tryd.func77, Tryd.ntmps77
      go_wp2_with fail
      refine HCUT.out.mono ?_
      rintro e w1 ⟨rfl, rfl⟩
      go_wp2
      go_ret2
      exact ⟨rfl, Below.refl _ _⟩
end Go.Proofs.YtndhglcdkegigaaDoor
