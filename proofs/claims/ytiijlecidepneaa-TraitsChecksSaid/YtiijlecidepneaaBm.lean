/-
  Words for memory: rows of cells in blocks of a set, what a call may change, rows of structs. No condition beyond those of each theorem.
-/
import Derived.Test.YtiijlecidepneaaMem
import Derived.Test.YtiijlecidepneaaStr
import Derived.Test.YtiijlecidepneaaCop
import Derived.Test.YtiijlecidepneaaMSt
import Derived.WalkKit
import Derived.WalkSpells
import Derived.WalkLawsBesides
import Derived.Lib.Hide
import Derived.Deep.AppendLies
import Derived.Deep.Draws
import Derived.Lib.Walk
import Derived.Lib.Builder
import Derived.StillTail
import Derived.Deep.Quiet
import Derived.Lib.QuietBelow
import Derived.OrdersHeld
import Derived.Deep.RegionHeld3
import Derived.Deep.QuietTactic
import Derived.BigQuiet
import Derived.Tactics2
import Derived.Deep.LoopGhost
namespace Go.Proofs.Ytiijlecidepneaa
open Go.RowKit

theorem own_slice {w : World} {base : Nat} {e : TypeId} {size n : Nat} {v : Value} {xs : List Value} (h : w.ownsRow base e size v n xs) : ∃ (A : Option Addr) (c : Nat), v = .slice A n c ∧ (A = none → c = 0) := by
  rcases h.2 with ⟨hv, h0⟩ | ⟨g, cap, cur, hv, _⟩
  · exact ⟨none, 0, by rw [hv, h0], fun _ => rfl⟩
  · exact ⟨_, cap, hv, fun e => by cases e⟩

theorem own_le {w : World} {base : Nat} {e : TypeId} {size n c : Nat} {A : Option Addr} {xs : List Value} (h : w.ownsRow base e size (.slice A n c) n xs) : n ≤ c ∧ c ≤ maxLen := by
  rcases h.2 with ⟨hv, h0⟩ | ⟨g, cap, cur, hv, _, _, h1, h2, _⟩
  · obtain ⟨_, rfl, rfl⟩ := Value.slice.inj hv
    exact ⟨Nat.le_refl _, Nat.zero_le _⟩
  · obtain ⟨_, _, rfl⟩ := Value.slice.inj hv
    exact ⟨h1, h2⟩
theorem row_heap {w : World} {b : Nat} {cs : Array Value} {T : TypeId} {S : Nat → Prop} {xs : List Value} (h : w.heap[b]? = some (.cells cs T (0, 0))) (hx : cs.toList = xs) (hS : S b) : Row w S (some ⟨b, 0, none⟩) xs :=
  .inr ⟨_, rfl, hS, fun j u hu => World.news_of_block (cs := cs) h j u (by rw [hx]; exact hu)⟩

theorem row_lit (w : World) (cs : Array Value) (T : TypeId) (ls : List (List UInt8)) (h : cs.toList = ls.map sv) (dd : Nat) (hd : dd < w.heap.size) : Row (w.alloc (.cells cs T)) (fun y => y < (w.alloc (.cells cs T)).heap.size ∧ y ≠ dd) (some ⟨w.heap.size, 0, none⟩) (ls.map sv) :=
  row_heap (alloc1 _ _) h ⟨by simp, by omega⟩

theorem ownMono {w : World} {base base' : Nat} {e : TypeId} {size : Nat} {v : Value} {n : Nat} {xs : List Value} (h : w.ownsRow base e size v n xs) (hb : base' ≤ base) : w.ownsRow base' e size v n xs :=
  ⟨h.1, h.2.imp id fun ⟨g, cap, cur, h1, h2, h3⟩ => ⟨g, cap, cur, h1, Nat.le_trans hb h2, h3⟩⟩
/-! ### Rows of structs -/
section
variable {α : Type}
def flt (f : α → List Value) (xs : List α) : List Value := xs.flatMap f
theorem flt_nil (f : α → List Value) : flt f [] = [] := rfl
theorem flt_cons (f : α → List Value) (x : α) (xs : List α) : flt f (x :: xs) = f x ++ flt f xs := by simp [flt]
theorem flt_append (f : α → List Value) (a b : List α) : flt f (a ++ b) = flt f a ++ flt f b := by simp [flt]
theorem flt_one (f : α → List Value) (a : α) : flt f [a] = f a := by simp [flt]
theorem flt_length {f : α → List Value} {k : Nat} (hf : ∀ x, (f x).length = k) : ∀ xs : List α, (flt f xs).length = xs.length * k
  | [] => by simp [flt]
  | x :: r => by
    rw [flt_cons, List.length_append, hf, flt_length hf r, List.length_cons, Nat.add_mul]
    omega
theorem flt_at {f : α → List Value} {k : Nat} (hf : ∀ x, (f x).length = k) : ∀ {xs : List α} {i j : Nat} {x : α} {u : Value}, xs[i]? = some x → (f x)[j]? = some u → (flt f xs)[i * k + j]? = some u
  | [], i, j, x, u, h, _ => by simp at h
  | y :: r, 0, j, x, u, h, hu => by
    simp at h
    subst h
    have := (List.getElem?_eq_some_iff.1 hu).1
    rw [flt_cons, Nat.zero_mul, Nat.zero_add, List.getElem?_append_left this]
    exact hu
  | y :: r, i + 1, j, x, u, h, hu => by
    have ih := flt_at hf (xs := r) (i := i) (by simpa using h) hu
    have e : (i + 1) * k + j = k + (i * k + j) := by rw [Nat.add_mul]; omega
    rw [flt_cons, e, List.getElem?_append_right (by rw [hf]; omega), hf, Nat.add_sub_cancel_left]
    exact ih
theorem flt_take {f : α → List Value} {k : Nat} (hf : ∀ x, (f x).length = k) : ∀ (i : Nat) (xs : List α), (flt f xs).take (i * k) = flt f (xs.take i)
  | 0, xs => by simp [flt]
  | i + 1, [] => by simp [flt]
  | i + 1, x :: r => by
    have e : (i + 1) * k = (f x).length + i * k := by rw [hf, Nat.add_mul]; omega
    rw [flt_cons, List.take_succ_cons, flt_cons, e, List.take_length_add_append, flt_take hf i r]
theorem flt_drop {f : α → List Value} {k : Nat} (hf : ∀ x, (f x).length = k) : ∀ (i : Nat) (xs : List α), (flt f xs).drop (i * k) = flt f (xs.drop i)
  | 0, xs => by simp
  | i + 1, [] => by simp [flt]
  | i + 1, x :: r => by
    have e : (i + 1) * k = (f x).length + i * k := by rw [hf, Nat.add_mul]; omega
    rw [flt_cons, List.drop_succ_cons, e, List.drop_length_add_append, flt_drop hf i r]
theorem flt_one' {f : α → List Value} (h1 : ∀ x, ∀ v ∈ f x, v.oneCell' = true) (xs : List α) : ∀ v ∈ flt f xs, v.oneCell' = true := fun v hv => by
  obtain ⟨x, _, hx⟩ := List.mem_flatMap.1 hv
  exact h1 x v hx
end
/-- The cells of one struct of a row, by their places. -/
theorem Row.cell0 {w : World} {S : Nat → Prop} {A : Option Addr} {xs : List Value} {k : Nat} {u : Value} (h : Row w S A xs) (hk : xs[k]? = some u) : ∃ ad, A = some ad ∧ S ad.block ∧ w.cell? (ad.add k) = some u := h.at_ hk
theorem Row.addr {w : World} {S : Nat → Prop} {A : Option Addr} {xs : List Value} (h : Row w S A xs) (hx : 0 < xs.length) : ∃ ad, A = some ad ∧ S ad.block ∧ ∀ j u, xs[j]? = some u → w.cell? (ad.add j) = some u := by
  rcases h with rfl | h
  · simp at hx
  · exact h
theorem cellOff {w : World} {ad : Addr} {k j : Nat} {u : Value} (hj : 0 < j) (h : w.cell? (ad.add (k + j)) = some u) : w.cell? ⟨(ad.add k).block, (ad.add k).off + j, none⟩ = some u := by
  rw [← addAdd] at h
  obtain ⟨j, rfl⟩ : ∃ i, j = i + 1 := ⟨j - 1, by omega⟩
  exact h
end Go.Proofs.Ytiijlecidepneaa
