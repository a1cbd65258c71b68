/-
  A region that draws its order, walked by hand: one operation that can come, or two of them.
  Conditions: those of each theorem.
-/
import Derived.Test.YtkggmckfdkpldaaDoorBms
namespace Go.Proofs.YtkggmckfdkpldaaDoor
open Go Go.Sort Go.RowKit

section
variable {P : Program} {ops : Array Oper} {md : Region.Mode} {Q : Exit → Act → World → Prop}
theorem wpAny_end {listed : Array Bool} {a : Act} {w : World} (hr : Region.ready md ops listed = []) (h : Q .normal a w) : wpAny P md ops Q 0 listed a w := ⟨hr, h⟩
theorem wpAny_one {n k : Nat} {listed : Array Bool} {a : Act} {w : World} (hr : Region.ready md ops listed = [k]) (h : wpOp P ops Q k (fun a' w' => wpAny P md ops Q n (listed.setIfInBounds k true) a' w') a w) : wpAny P md ops Q (n + 1) listed a w :=
  ⟨fun e => (by rw [hr] at e; cases e), fun i hi => by
    rw [hr] at hi
    have hik : i = k := by simpa using hi
    subst hik
    exact h⟩
theorem wpAny_two {n k1 k2 : Nat} {listed : Array Bool} {a : Act} {w : World} (hr : Region.ready md ops listed = [k1, k2]) (h1 : wpOp P ops Q k1 (fun a' w' => wpAny P md ops Q n (listed.setIfInBounds k1 true) a' w') a w) (h2 : wpOp P ops Q k2 (fun a' w' => wpAny P md ops Q n (listed.setIfInBounds k2 true) a' w') a w) : wpAny P md ops Q (n + 1) listed a w :=
  ⟨fun e => (by rw [hr] at e; cases e), fun i hi => by
    rw [hr] at hi
    simp at hi
    rcases hi with rfl | rfl
    · exact h1
    · exact h2⟩
end
end Go.Proofs.YtkggmckfdkpldaaDoor
