/-
  Words for memory: a slice whose cells read as a list of values, a slice of strings, and what keeps them. No condition beyond those of each theorem.
-/
import Derived.Test.YthhjokdjacfkiaaDoorRows
import Derived.WalkKit
import Derived.WalkSpells
import Derived.WalkLawsBesides
import Derived.Lib.Hide
import Derived.Deep.AppendLies
import Derived.Deep.Draws
namespace Go.Proofs.YthhjokdjacfkiaaDoor
open Go.RowKit

theorem blkAdd (a : Addr) (n : Nat) : (a.add n).block = a.block := by
  unfold Addr.add
  split <;> rfl
theorem addAdd (a : Addr) (i j : Nat) : (a.add i).add j = a.add (i + j) := by
  unfold Addr.add
  by_cases hi : i = 0
  · subst hi; simp
  · by_cases hj : j = 0
    · subst hj; simp [hi]
    · simp [hi, hj, Nat.add_assoc]

/-- In w the cells from A on are xs, all in one block below B. -/
def Row (w : World) (B : Nat) (A : Option Addr) (xs : List Value) : Prop :=
  xs = [] ∨ ∃ ad, A = some ad ∧ ad.block < B ∧ ∀ j u, xs[j]? = some u → w.cell? (ad.add j) = some u

theorem Row.nil (w : World) (B : Nat) (A : Option Addr) : Row w B A [] := .inl rfl
theorem Row.at_ {w : World} {B : Nat} {A : Option Addr} {xs : List Value} {k : Nat} {u : Value} (h : Row w B A xs) (hk : xs[k]? = some u) :
    ∃ ad, A = some ad ∧ ad.block < B ∧ w.cell? (ad.add k) = some u := by
  rcases h with rfl | ⟨ad, e, hb, hc⟩
  · simp at hk
  · exact ⟨ad, e, hb, hc k u hk⟩
theorem Row.keep {w w' : World} {B : Nat} {A : Option Addr} {xs : List Value} (h : Row w B A xs) (hk : ∀ p : Addr, p.block < B → w'.cell? p = w.cell? p) : Row w' B A xs := by
  rcases h with rfl | ⟨ad, e, hb, hc⟩
  · exact .inl rfl
  · exact .inr ⟨ad, e, hb, fun j u hu => (hk _ (by rw [blkAdd]; exact hb)).trans (hc j u hu)⟩
theorem Row.more {w : World} {B B' : Nat} {A : Option Addr} {xs : List Value} (h : Row w B A xs) (hB : B ≤ B') : Row w B' A xs := by
  rcases h with rfl | ⟨ad, e, hb, hc⟩
  · exact .inl rfl
  · exact .inr ⟨ad, e, by omega, hc⟩
theorem Row.below {w w' : World} {B : Nat} {A : Option Addr} {xs : List Value} (h : Row w B A xs) (hb : Below B w w') : Row w' B A xs := h.keep fun _ hp => hb.cell hp
theorem Row.drewN {w : World} {B : Nat} {A : Option Addr} {xs : List Value} (h : Row w B A xs) (k : Nat) : Row (w.drewN k) B A xs := h
theorem Row.ofOwn {w : World} {base : Nat} {e : TypeId} {size n c : Nat} {A : Option Addr} {xs : List Value} (h : w.ownsRow base e size (.slice A n c) n xs) : Row w w.heap.size A xs := by
  rcases Nat.eq_zero_or_pos n with h0 | hn
  · left
    have := h.1
    rw [h0, Nat.zero_mul] at this
    exact List.eq_nil_of_length_eq_zero this
  · obtain ⟨g, cap, hv, _, hlt⟩ := h.form hn
    have hA : A = some ⟨g, 0, none⟩ := by injection hv
    subst hA
    exact .inr ⟨_, rfl, hlt, h.cells (g := g) rfl⟩
theorem Row.tail {w : World} {B : Nat} {A : Option Addr} {xs : List Value} {k : Nat} (h : Row w B A xs) (A' : Option Addr) (hA : ∀ ad, A = some ad → k < xs.length → A' = some (ad.add k)) : Row w B A' (xs.drop k) := by
  rcases h with rfl | ⟨ad, e, hb, hc⟩
  · left; simp
  · by_cases hk : k < xs.length
    · refine .inr ⟨ad.add k, hA ad e hk, by rw [blkAdd]; exact hb, fun j u hu => ?_⟩
      rw [addAdd]
      exact hc _ u (by rw [← hu, List.getElem?_drop])
    · left
      exact List.drop_eq_nil_of_le (by omega)

theorem belowDrewN {B : Nat} {a w : World} (h : Below B a w) (n : Nat) : Below B a (w.drewN n) := ⟨h.os, h.tape, h.output, h.size, h.block⟩
theorem belowCell {W w1 : World} (hb : Below W.heap.size W w1) : (∀ b o, b < W.heap.size → w1.cell? ⟨b, o, none⟩ = W.cell? ⟨b, o, none⟩) ∧ (∀ b o, b < W.heap.size → w1.frozen? ⟨b, o, none⟩ = W.frozen? ⟨b, o, none⟩) :=
  ⟨fun b o h => hb.cell (p := ⟨b, o, none⟩) h, fun b o h => hb.frozen (p := ⟨b, o, none⟩) h⟩

/-- The string of some bytes. -/
def bs (l : List UInt8) : ByteArray := ⟨l.toArray⟩
theorem bs_size (l : List UInt8) : (bs l).size = l.length := by unfold bs; rw [ByteArray.size]; simp
theorem bs_data (l : List UInt8) : (bs l).data.toList = l := by unfold bs; simp
theorem bs_of (s : ByteArray) : bs s.data.toList = s := by unfold bs; simp
/-- A slice of n strings. -/
structure Strs (w : World) (B : Nat) (A : Option Addr) (n : Nat) (ls : List (List UInt8)) : Prop where
  len : ls.length = n
  row : Row w B A (ls.map fun l => Value.string (bs l))

theorem Strs.at_ {w : World} {B : Nat} {A : Option Addr} {n k : Nat} {ls : List (List UInt8)} (h : Strs w B A n ls) (hk : k < n) :
    ∃ ad l, A = some ad ∧ ad.block < B ∧ ls[k]? = some l ∧ w.cell? (ad.add k) = some (.string (bs l)) := by
  have hl : k < ls.length := by rw [h.len]; exact hk
  obtain ⟨ad, e, hb, hc⟩ := h.row.at_ (k := k) (u := .string (bs ls[k])) (by simp [hl])
  exact ⟨ad, ls[k], e, hb, List.getElem?_eq_getElem hl, hc⟩
theorem Strs.below {w w' : World} {B : Nat} {A : Option Addr} {n : Nat} {ls : List (List UInt8)} (h : Strs w B A n ls) (hb : Below B w w') : Strs w' B A n ls := ⟨h.len, h.row.below hb⟩
theorem Strs.more {w : World} {B B' : Nat} {A : Option Addr} {n : Nat} {ls : List (List UInt8)} (h : Strs w B A n ls) (hB : B ≤ B') : Strs w B' A n ls := ⟨h.len, h.row.more hB⟩
theorem Strs.drewN {w : World} {B : Nat} {A : Option Addr} {n : Nat} {ls : List (List UInt8)} (h : Strs w B A n ls) (k : Nat) : Strs (w.drewN k) B A n ls := ⟨h.len, h.row.drewN k⟩
end Go.Proofs.YthhjokdjacfkiaaDoor
