/-
  The walk of fact.Pack: the pack of a list of strings, and that of what was there nothing has turned.
  Conditions: 'Env'; the pack is of at most 10^9 bytes.
-/
import Derived.Test.YtkggmckfdkpldaaDoorFcN
namespace Go.Proofs.YtkggmckfdkpldaaDoor
open Go.RowKit

theorem pack_take_succ {ls : List (List UInt8)} {k : Nat} {l : List UInt8} (h : ls[k]? = some l) : pack (ls.take (k + 1)) = pack (ls.take k) ++ pk l := by
  rw [List.take_add_one, h]
  exact pack_snoc _ _
theorem pack_take_le (ls : List (List UInt8)) (k : Nat) : (pack (ls.take k)).length ≤ (pack ls).length := by
  have := pack_append (ls.take k) (ls.drop k)
  rw [List.take_append_drop] at this
  rw [this, List.length_append]
  omega
theorem pack_elem {ls : List (List UInt8)} {k : Nat} {l : List UInt8} (h : ls[k]? = some l) : l.length ≤ (pack ls).length := by
  have h1 := pack_take_le ls (k + 1)
  rw [pack_take_succ h, List.length_append, pk_length] at h1
  omega

theorem grownOfB {a w : World} (h : Below a.heap.size a w) (row : Option Nat) : a.grownBy w row := ⟨h.os, h.tape, h.output, h.size, fun i hi _ => h.block i hi⟩
theorem builderAt_below {T e : TypeId} {B b : Nat} {p : Value} {xs : List Value} {w w' : World} (h : Lib.BuilderAt T e B b p xs w) (hb : Below w.heap.size w w') : Lib.BuilderAt T e B b p xs w' := by
  have hlt := h.lt
  obtain ⟨hB, v, hbk, hown, hne⟩ := h
  refine ⟨hB, v, (hb.block b hlt).trans hbk, hown.kept (grownOfB hb none) ?_, hne⟩
  rcases hv : v.ownBlock with _ | g
  · exact .inl rfl
  · exact .inr (by simp)
theorem isBuilder_below {T e : TypeId} {B b : Nat} {xs : List Value} {w w' : World} (h : Lib.IsBuilder T e B b xs w) (hb : Below w.heap.size w w') : Lib.IsBuilder T e B b xs w' := by
  rcases h with h | h
  · exact .inl (builderAt_below h hb)
  · exact .inr (builderAt_below h hb)
theorem pk_bytes (l : List UInt8) : (bs (Lib.itoa ↑(bs l).size) ++ { data := #[58] } ++ bs l : ByteArray).data.toList = pk l := by
  unfold pk
  rw [bs_size, Lib.itoa_nonneg]
  simp [bs]
theorem pk_size (l : List UInt8) : (bs (Lib.itoa ↑(bs l).size) ++ { data := #[58] } ++ bs l : ByteArray).size = (pk l).length := by
  rw [← pk_bytes, Array.length_toList]
  rfl
theorem pk_cells (m l : List UInt8) : Lib.byteCells m ++ Lib.strCells (bs (Lib.itoa ↑(bs l).size) ++ { data := #[58] } ++ bs l) = Lib.byteCells (m ++ pk l) := by
  rw [Lib.strCells_eq, pk_bytes, Lib.byteCells_append]

set_option maxHeartbeats 400000 in
theorem pack_any (A : Option Addr) (n c B0 : Nat) (ls : List (List UInt8)) (w : World) (he : Env w) (h : Strs w B0 A n ls) (hB0 : B0 ≤ w.heap.size) (hsz : (pack ls).length ≤ 1000000000) (hn : n ≤ 1000000000) :
    Calls Tryd.prog 21 #[.slice A n c] w fun e w' => e = .returned (.string (bs (pack ls))) ∧ Below w.heap.size w w' := by
  go_enter Tryd.func21, Tryd.ntmps21
  go_wp2_with fail
  go_loopw [8] (fun i wr => ∃ k : Nat, k ≤ n ∧ i = .int .i64 k ∧ Lib.IsBuilder 94 5 w.heap.size w.heap.size (Lib.byteCells (pack (ls.take k))) wr ∧ Below w.heap.size w wr) (fun i _ => n - (intOf i).toNat)
  case atStart => exact ⟨0, Nat.zero_le _, rfl, by simpa [pack, Lib.byteCells] using Lib.fresh_isBuilder _ _ w, (Below.refl _ _).alloc (Nat.le_refl _) _⟩
  case round =>
    obtain ⟨k, hk, rfl, hI, hb⟩ := hrel
    by_cases hlt : k < n
    · obtain ⟨ad, l, rfl, _, e1, hc⟩ := (h.below (hb.mono hB0)).at_ hlt
      have he1 := he.below hb
      have hl1 : l.length ≤ (pack ls).length := pack_elem e1
      have hl2 := bs_size l
      have hl3 : (bs l).size ≤ 1000000000 := by omega
      clear hl2
      have hpk := pack_take_succ e1
      have hple : (pack (ls.take (k + 1))).length ≤ (pack ls).length := pack_take_le ls (k + 1)
      have Hpk := Lib.hid hpk
      have hlen : (pack (ls.take k)).length + (pk l).length ≤ 1000000000 := by rw [hpk, List.length_append] at hple; omega
      clear hpk hple hl1 e1
      go_wp2_with fail
      refine (itoa_b _ _ (by omega) (by omega) he1).mono ?_
      rintro e w1 ⟨rfl, hb1⟩
      have hi21 : (bs (Lib.itoa ↑(bs l).size)).size ≤ 21 := by
        rw [bs_size]
        exact Lib.itoa_length_le _ (by omega) (by omega)
      have hI1 : Lib.IsBuilder 94 5 w.heap.size w.heap.size (Lib.byteCells (pack (ls.take k))) w1 := isBuilder_below hI hb1
      go_wp2_with fail
      refine (writeString_any _ _ _ _ _ hI1 ?_ ?_).mono ?_
      · rw [Lib.byteCells_length, pk_size]; omega
      · have := hb.size; have := hb1.size; omega
      rintro e w2 ⟨rfl, hI2, hb2⟩
      rw [pk_cells, ← Hpk.out] at hI2
      have hb3 : Below w.heap.size w w2 := (hb.trans (hb1.mono hb.size)).trans hb2
      clear hI1
      go_wp2
      go_roundw
      case rel => exact ⟨k + 1, by omega, by go_num, .inr hI2, hb3⟩
      case measure => simp [intOf]; omega
    · obtain rfl : k = n := by omega
      have hk2 : ls.take k = ls := List.take_of_length_le (by rw [h.len]; omega)
      rw [hk2] at hI
      go_wp2_with fail
      refine (Tryd.Builder_String_any _ _ (pack ls) _ hI hb.size).mono ?_
      rintro e w1 ⟨rfl, hb1⟩
      go_wp2
      go_ret
      exact ⟨rfl, hb.trans hb1⟩
end Go.Proofs.YtkggmckfdkpldaaDoor
