/-
  Rows of one's own that are not alike, rows of zeros, literals, sub-slices. No condition beyond those of each theorem.
  A region that draws its order, walked by hand: one operation that can come, or two of them.
  Conditions: those of each theorem.
-/
import Derived.Test.YtiijlecidepneaaBrow
import Derived.Test.YtiijlecidepneaaBms
namespace Go.Proofs.Ytiijlecidepneaa
section
open Go.RowKit
theorem own_ne {w : World} {base : Nat} {e T : TypeId} {size n b : Nat} {v : Value} {xs : List Value} {cs : Array Value} {fr : Nat × Nat} (h : w.ownsRow base e size v n xs) (hb : w.heap[b]? = some (.cells cs T fr)) (hT : T ≠ e) : ∀ g, v.ownBlock = some g → g ≠ b := by
  intro g hg e'
  subst e'
  rcases h.2 with ⟨rfl, _⟩ | ⟨g', cap, cur, rfl, _, hgg, _⟩
  · cases hg
  · obtain rfl : g' = g := Option.some.inj hg
    rw [hgg] at hb
    exact hT (by injection hb with hb; injection hb with _ hb _; exact hb.symm)

theorem infoI : (Try.prog.info? 3).map (fun i => (i.zero, i.size, i.bytes)) = some (some (.int .i64 0), 1, 8) := by kernel_rfl
theorem madeZ (q : Nat) : (madeCells (Value.int .i64 0).cells (q * 1)).toList = (List.replicate q (0 : Int)).map (Value.int .i64) := by
  unfold madeCells
  apply List.ext_getElem?
  intro i
  by_cases h : i < q
  · simp [h, Value.cells, Nat.mod_one]
  · simp [h]
theorem rows_ne {w : World} {base base' : Nat} {e e' : TypeId} {size size' n n' : Nat} {v v' : Value} {xs xs' : List Value} (h : w.ownsRow base e size v n xs) (h' : w.ownsRow base' e' size' v' n' xs') (hT : e ≠ e') : ∀ g, v.ownBlock = some g → v'.ownBlock = some g → False := by
  intro g hg hg'
  rcases h.2 with ⟨rfl, _⟩ | ⟨g', cap, cur, rfl, _, hgg, _⟩
  · cases hg
  · obtain rfl : g' = g := Option.some.inj hg
    exact own_ne h' hgg hT _ hg' rfl


/-- The address of a row's rest from place j on. -/
def backOf (A : Option Addr) (s c j : Nat) : Option Addr := if c = j then A else A.map (·.add (j * s))
theorem back_row {α : Type} {f : α → List Value} {s : Nat} (hf : ∀ x, (f x).length = s) {w : World} {S : Nat → Prop} {OA : Option Addr} {ys : List α} {k oc : Nat} (h : Row w S OA (flt f ys)) (hl : ys.length = k) (hk : k ≤ oc) (j : Nat) : Row w S (backOf OA s oc j) (flt f (ys.drop j)) := by
  unfold backOf
  by_cases hc : oc = j
  · rw [List.drop_eq_nil_of_le (by omega)]
    exact Row.nil _ _ _
  · rw [if_neg hc, ← flt_drop hf]
    exact h.sub _ fun ad had _ => by rw [had]; rfl
theorem front_of (OA : Option Addr) (j oc s : Nat) : sliced OA 0 j oc s = .slice OA j oc := by
  unfold sliced
  cases OA <;> simp [Addr.add]
theorem own_lit (w : World) (cs : Array Value) (e : TypeId) (size n : Nat) (h : cs.size = n * size) (hn : n ≤ maxLen) : (w.alloc (.cells cs e)).ownsRow w.heap.size e size (.slice (some ⟨w.heap.size, 0, none⟩) n n) n cs.toList :=
  ⟨by simpa using h, .inr ⟨w.heap.size, n, cs, rfl, Nat.le_refl _, alloc1 _ _, Nat.le_refl _, hn, h, List.take_of_length_le (by simp; omega)⟩⟩
end

section
open Go Go.Sort Go.RowKit
section
variable {P : Program} {ops : Array Oper} {md : Region.Mode} {Q : Exit → Act → World → Prop}
theorem wpAny_end {listed : Array Bool} {a : Act} {w : World} (hr : Region.ready md ops listed = []) (h : Q .normal a w) : wpAny P md ops Q 0 listed a w := ⟨hr, h⟩
theorem wpAny_one {n k : Nat} {listed : Array Bool} {a : Act} {w : World} (hr : Region.ready md ops listed = [k]) (h : wpOp P ops Q k (fun a' w' => wpAny P md ops Q n (listed.setIfInBounds k true) a' w') a w) : wpAny P md ops Q (n + 1) listed a w :=
  ⟨fun e => (by rw [hr] at e; cases e), fun i hi => by
    rw [hr] at hi
    have hik : i = k := by simpa using hi
    subst hik
    exact h⟩
theorem wpAny_two {n k1 k2 : Nat} {listed : Array Bool} {a : Act} {w : World} (hr : Region.ready md ops listed = [k1, k2]) (h1 : wpOp P ops Q k1 (fun a' w' => wpAny P md ops Q n (listed.setIfInBounds k1 true) a' w') a w) (h2 : wpOp P ops Q k2 (fun a' w' => wpAny P md ops Q n (listed.setIfInBounds k2 true) a' w') a w) : wpAny P md ops Q (n + 1) listed a w :=
  ⟨fun e => (by rw [hr] at e; cases e), fun i hi => by
    rw [hr] at hi
    simp at hi
    rcases hi with rfl | rfl
    · exact h1
    · exact h2⟩
end
end
end Go.Proofs.Ytiijlecidepneaa
