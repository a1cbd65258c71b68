/-
  Rows of one's own that are not alike, rows of zeros, literals, sub-slices. No condition beyond those of each theorem.
-/
import Derived.Test.YtkggmckfdkpldaaDoorBrow
namespace Go.Proofs.YtkggmckfdkpldaaDoor
open Go.RowKit

theorem own_ne {w : World} {base : Nat} {e T : TypeId} {size n b : Nat} {v : Value} {xs : List Value} {cs : Array Value} {fr : Nat × Nat} (h : w.ownsRow base e size v n xs) (hb : w.heap[b]? = some (.cells cs T fr)) (hT : T ≠ e) : ∀ g, v.ownBlock = some g → g ≠ b := by
  intro g hg e'
  subst e'
  rcases h.2 with ⟨rfl, _⟩ | ⟨g', cap, cur, rfl, _, hgg, _⟩
  · cases hg
  · obtain rfl : g' = g := Option.some.inj hg
    rw [hgg] at hb
    exact hT (by injection hb with hb; injection hb with _ hb _; exact hb.symm)

theorem infoI : (Tryd.prog.info? 3).map (fun i => (i.zero, i.size, i.bytes)) = some (some (.int .i64 0), 1, 8) := by kernel_rfl
theorem madeZ (q : Nat) : (madeCells (Value.int .i64 0).cells (q * 1)).toList = (List.replicate q (0 : Int)).map (Value.int .i64) := by
  unfold madeCells
  apply List.ext_getElem?
  intro i
  by_cases h : i < q
  · simp [h, Value.cells, Nat.mod_one]
  · simp [h]
theorem rows_ne {w : World} {base base' : Nat} {e e' : TypeId} {size size' n n' : Nat} {v v' : Value} {xs xs' : List Value} (h : w.ownsRow base e size v n xs) (h' : w.ownsRow base' e' size' v' n' xs') (hT : e ≠ e') : ∀ g, v.ownBlock = some g → v'.ownBlock = some g → False := by
  intro g hg hg'
  rcases h.2 with ⟨rfl, _⟩ | ⟨g', cap, cur, rfl, _, hgg, _⟩
  · cases hg
  · obtain rfl : g' = g := Option.some.inj hg
    exact own_ne h' hgg hT _ hg' rfl


/-- The address of a row's rest from place j on. -/
def backOf (A : Option Addr) (s c j : Nat) : Option Addr := if c = j then A else A.map (·.add (j * s))
theorem back_row {α : Type} {f : α → List Value} {s : Nat} (hf : ∀ x, (f x).length = s) {w : World} {S : Nat → Prop} {OA : Option Addr} {ys : List α} {k oc : Nat} (h : Row w S OA (flt f ys)) (hl : ys.length = k) (hk : k ≤ oc) (j : Nat) : Row w S (backOf OA s oc j) (flt f (ys.drop j)) := by
  unfold backOf
  by_cases hc : oc = j
  · rw [List.drop_eq_nil_of_le (by omega)]
    exact Row.nil _ _ _
  · rw [if_neg hc, ← flt_drop hf]
    exact h.sub _ fun ad had _ => by rw [had]; rfl
theorem front_of (OA : Option Addr) (j oc s : Nat) : sliced OA 0 j oc s = .slice OA j oc := by
  unfold sliced
  cases OA <;> simp [Addr.add]
theorem own_lit (w : World) (cs : Array Value) (e : TypeId) (size n : Nat) (h : cs.size = n * size) (hn : n ≤ maxLen) : (w.alloc (.cells cs e)).ownsRow w.heap.size e size (.slice (some ⟨w.heap.size, 0, none⟩) n n) n cs.toList :=
  ⟨by simpa using h, .inr ⟨w.heap.size, n, cs, rfl, Nat.le_refl _, alloc1 _ _, Nat.le_refl _, hn, h, List.take_of_length_le (by simp; omega)⟩⟩
end Go.Proofs.YtkggmckfdkpldaaDoor
