/-
  Numerals: of a number, and read back. No program is in sight.
  Conditions: those of each theorem.
-/
import Derived.Lib.AtoiAllCases
import Derived.Lib.ItoaMem
import Derived.Lib.ItoaLen
import Derived.Test.YtndhglcdkegigaaDoorRows
namespace Go.Proofs.YtndhglcdkegigaaDoor
open Go.Lib

def IsDig (b : UInt8) : Prop := 48 ≤ b.toNat ∧ b.toNat ≤ 57

theorem dec_digs (n : Nat) : ∀ b ∈ decDigits n, IsDig b := by
  induction n using Nat.strongRecOn with
  | _ n ih =>
    intro b hb
    rw [decDigits] at hb
    split at hb
    · rename_i h
      simp only [List.mem_singleton] at hb
      subst hb
      unfold IsDig
      rw [UInt8.toNat_ofNat']
      omega
    · rename_i h
      rcases List.mem_append.1 hb with hb | hb
      · exact ih _ (by omega) b hb
      · simp only [List.mem_singleton] at hb
        subst hb
        unfold IsDig
        rw [UInt8.toNat_ofNat']
        omega

theorem dec_ne (n : Nat) : decDigits n ≠ [] := by
  intro h
  have h1 := decDigits_length n
  have h2 := nDigits_pos n
  rw [h] at h1
  simp at h1
  omega

def valFrom (acc : Nat) (l : List UInt8) : Nat := l.foldl (fun a b => a * 10 + (b.toNat - 48)) acc

theorem valFrom_nil (acc : Nat) : valFrom acc [] = acc := by unfold valFrom; rw [List.foldl_nil]
theorem valFrom_cons (acc : Nat) (b : UInt8) (r : List UInt8) : valFrom acc (b :: r) = valFrom (acc * 10 + (b.toNat - 48)) r := by unfold valFrom; rw [List.foldl_cons]
theorem dig_val (n : Nat) (h : n < 10) : (UInt8.ofNat (48 + n)).toNat - 48 = n := by
  rw [UInt8.toNat_ofNat']
  omega

theorem valFrom_append (l m : List UInt8) (acc : Nat) : valFrom acc (l ++ m) = valFrom (valFrom acc l) m := by unfold valFrom; rw [List.foldl_append]

theorem valFrom_dec (n : Nat) : valFrom 0 (decDigits n) = n := by
  induction n using Nat.strongRecOn with
  | _ n ih =>
    rw [decDigits]
    split
    · rename_i h
      rw [valFrom_cons, valFrom_nil, dig_val n h]
      omega
    · rename_i h
      rw [valFrom_append, ih _ (by omega), valFrom_cons, valFrom_nil, dig_val _ (by omega)]
      omega

theorem valFrom_ge (l : List UInt8) : ∀ acc : Nat, acc ≤ valFrom acc l := by
  induction l with
  | nil => intro acc; rw [valFrom_nil]; exact Nat.le_refl _
  | cons b r ih =>
    intro acc
    rw [valFrom_cons]
    have := ih (acc * 10 + (b.toNat - 48))
    omega

theorem parse_step (acc d : Nat) (c : UInt8) (r : List UInt8) (hd : d = c.toNat - 48) (h0 : 48 ≤ c.toNat ∧ c.toNat ≤ 57) (h : acc * 10 + d < 18446744073709551616) :
    parseUint10 acc (c :: r) = parseUint10 (acc * 10 + d) r := by
  subst hd
  rw [parseUint10, if_pos h0, if_neg (by omega), if_neg (by omega)]

theorem parse_digs (l : List UInt8) : ∀ (acc : Nat), (∀ b ∈ l, IsDig b) → valFrom acc l < 18446744073709551616 → parseUint10 acc l = .ok (valFrom acc l) := by
  induction l with
  | nil => intro acc _ _; rw [valFrom_nil, parseUint10]
  | cons b r ih =>
    intro acc hd hv
    have hb : 48 ≤ b.toNat ∧ b.toNat ≤ 57 := hd b (by simp)
    have hg := valFrom_ge r (acc * 10 + (b.toNat - 48))
    rw [valFrom_cons] at hv ⊢
    rw [parse_step acc _ b r rfl hb (by omega)]
    exact ih _ (fun c hc => hd c (by simp [hc])) hv

theorem parseMag_dec (n : Nat) (h : n < 18446744073709551616) : parseMag (decDigits n) = .ok n := by
  unfold parseMag
  rw [if_neg (dec_ne n), parse_digs _ _ (dec_digs n) (by rw [valFrom_dec]; exact h), valFrom_dec]

theorem atoi_itoa (n : Int) (h0 : -9223372036854775808 ≤ n) (h1 : n ≤ 9223372036854775807) : atoiAll (itoa n) = .ok n := by
  by_cases hneg : n < 0
  · obtain ⟨u, rfl⟩ : ∃ u : Nat, n = -(u : Int) := ⟨n.natAbs, by omega⟩
    rw [itoa_neg u (by omega), atoiAll_minus, parseMag_dec u (by omega)]
    simp only [signed]
    rw [if_neg (by omega)]
  · obtain ⟨u, rfl⟩ : ∃ u : Nat, n = u := ⟨n.toNat, by omega⟩
    rw [itoa_nonneg]
    obtain ⟨c, r, hcr⟩ : ∃ c r, decDigits u = c :: r := by
      cases h : decDigits u with
      | nil => exact absurd h (dec_ne u)
      | cons c r => exact ⟨c, r, rfl⟩
    have hc : IsDig c := dec_digs u c (by rw [hcr]; simp)
    unfold IsDig at hc
    rw [hcr, atoiAll_plain c r (by omega) (by omega), ← hcr, parseMag_dec u (by omega)]
    simp only [signless]
    rw [if_neg (by omega)]

theorem dec_inj {a b : Nat} (h : decDigits a = decDigits b) : a = b := by
  have := valFrom_dec a
  rw [h, valFrom_dec] at this
  exact this.symm

theorem atoi_dec (n : Nat) (h : n < 9223372036854775808) : atoiAll (decDigits n) = .ok (n : Int) := by
  rw [← itoa_nonneg]
  exact atoi_itoa _ (by omega) (by omega)
end Go.Proofs.YtndhglcdkegigaaDoor
