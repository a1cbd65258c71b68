/-
  Words for types that are made of dice.
  Conditions: those of each theorem.
-/
import Derived.Test.YtllodnlkphapgaaDoorDice
import Derived.Test.YtllodnlkphapgaaDoorList
namespace Go.Proofs.YtllodnlkphapgaaDoor
open Go.RowKit

/-- A name that is no variable's. -/
abbrev PlName (n : List UInt8) : Prop := n ≠ [] ∧ n.head? ≠ some 63
/-- All names are no variables'. -/
inductive PlTy : Ty → Prop
  | mk (n : List UInt8) (ks : List Ty) (hn : PlName n) (h : ∀ a ∈ ks, PlTy a) : PlTy (.mk n ks)
theorem PlTy.out {n : List UInt8} {ks : List Ty} (h : PlTy (.mk n ks)) : PlName n ∧ ∀ a ∈ ks, PlTy a := by
  cases h with
  | mk _ _ h1 h2 => exact ⟨h1, h2⟩
/-- Types that plain makes. -/
def PlOk (d : Nat) (t : Ty) : Prop := t.size + 1 ≤ 2 ^ (d + 1) ∧ t.name ≠ [] ∧ PlTy t
theorem plOk_leaf (d : Nat) (n : List UInt8) (h : PlName n) : PlOk d (.mk n []) := by
  refine ⟨?_, h.1, .mk _ _ h fun a ha => (by cases ha)⟩
  have : 2 ^ 1 ≤ 2 ^ (d + 1) := Nat.pow_le_pow_right (by omega) (by omega)
  simp only [Ty.size, sizeL]
  omega
theorem plOk_one {d : Nat} {n : List UInt8} {t : Ty} (h : PlOk d t) (hn : PlName n) : PlOk (d + 1) (.mk n [t]) := by
  refine ⟨?_, hn.1, .mk _ _ hn fun a ha => by rw [List.mem_singleton.1 ha]; exact h.2.2⟩
  have h1 := h.1
  have : 2 ^ (d + 1 + 1) = 2 ^ (d + 1) * 2 := by rw [Nat.pow_succ]
  simp only [Ty.size, sizeL]
  omega
theorem plOk_two {d : Nat} {n : List UInt8} {t s : Ty} (h : PlOk d t) (h' : PlOk d s) (hn : PlName n) : PlOk (d + 1) (.mk n [t, s]) := by
  refine ⟨?_, hn.1, .mk _ _ hn fun a ha => ?_⟩
  · have h1 := h.1
    have h2 := h'.1
    have : 2 ^ (d + 1 + 1) = 2 ^ (d + 1) * 2 := by rw [Nat.pow_succ]
    simp only [Ty.size, sizeL]
    omega
  · simp only [List.mem_cons, List.not_mem_nil, or_false] at ha
    rcases ha with rfl | rfl
    · exact h.2.2
    · exact h'.2.2

def PlRes (d dd : Nat) (xs : List Int) (w : World) (e : Ending) (w' : World) : Prop :=
  ∃ (t : Ty) (u v : Value), e = .returned (.agg #[u, v]) ∧ PlOk d t ∧ TyIs w' (Fr w.heap.size w'.heap.size) t u v ∧ Thrown dd xs w w'
end Go.Proofs.YtllodnlkphapgaaDoor
