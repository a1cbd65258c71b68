/-
  Slices of strings over the base's words for memory. No condition beyond those of each theorem.
-/
import Derived.Test.YtkggmckfdkpldaaDoorBm
namespace Go.Proofs.YtkggmckfdkpldaaDoor
open Go.RowKit

/-- A slice of n strings. -/
structure Strs (w : World) (B : Nat) (A : Option Addr) (n : Nat) (ls : List (List UInt8)) : Prop where
  len : ls.length = n
  row : Row w (Lt B) A (ls.map sv)
theorem Strs.at_ {w : World} {B : Nat} {A : Option Addr} {n k : Nat} {ls : List (List UInt8)} (h : Strs w B A n ls) (hk : k < n) :
    ∃ ad l, A = some ad ∧ ad.block < B ∧ ls[k]? = some l ∧ w.cell? (ad.add k) = some (.string (bs l)) := by
  have hl : k < ls.length := by rw [h.len]; exact hk
  obtain ⟨ad, e, hb, hc⟩ := h.row.at_ (k := k) (u := .string (bs ls[k])) (by simp [hl])
  exact ⟨ad, ls[k], e, hb, List.getElem?_eq_getElem hl, hc⟩
theorem Strs.below {w w' : World} {B : Nat} {A : Option Addr} {n : Nat} {ls : List (List UInt8)} (h : Strs w B A n ls) (hb : Below B w w') : Strs w' B A n ls := ⟨h.len, h.row.keep (kept_below hb)⟩
theorem Strs.more {w : World} {B B' : Nat} {A : Option Addr} {n : Nat} {ls : List (List UInt8)} (h : Strs w B A n ls) (hB : B ≤ B') : Strs w B' A n ls := ⟨h.len, h.row.more fun _ hy => Nat.lt_of_lt_of_le hy hB⟩
theorem Strs.now {w w' : World} {A : Option Addr} {n : Nat} {ls : List (List UInt8)} (h : Strs w w.heap.size A n ls) (hb : Below w.heap.size w w') : Strs w' w'.heap.size A n ls := (h.below hb).more hb.size
theorem Strs.drewN {w : World} {B : Nat} {A : Option Addr} {n : Nat} {ls : List (List UInt8)} (h : Strs w B A n ls) (k : Nat) : Strs (w.drewN k) B A n ls := ⟨h.len, h.row⟩
theorem strsOfOwn {w : World} {base : Nat} {A : Option Addr} {n c : Nat} {ls : List (List UInt8)} (h : w.ownsRow base 9 1 (.slice A n c) n (ls.map sv)) : Strs w w.heap.size A n ls :=
  ⟨by have := h.1; simpa using this, Row.ofOwn h fun _ _ _ h2 => h2⟩
theorem strsNew (w : World) (T : TypeId) (ls : List (List UInt8)) : Strs (w.alloc (.cells (ls.map sv).toArray T)) (w.heap.size + 1) (some ⟨w.heap.size, 0, none⟩) ls.length ls :=
  ⟨rfl, row_heap (alloc1 _ _) (by simp) (Nat.lt_succ_self _)⟩
theorem infoS : (Tryd.prog.info? 9).map (fun i => (i.zero, i.size, i.bytes)) = some (some (.string ⟨#[]⟩), 1, 16) := by kernel_rfl
end Go.Proofs.YtkggmckfdkpldaaDoor
