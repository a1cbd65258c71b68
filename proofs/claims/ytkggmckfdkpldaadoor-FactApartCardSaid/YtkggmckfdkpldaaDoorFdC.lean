/-
  Words for made's Dice.Code: the operation that is being made, and parts of a function's code.
  Conditions: those of each theorem.
-/
import Derived.Test.YtkggmckfdkpldaaDoorFeC
import Derived.Test.YtkggmckfdkpldaaDoorFcO
import Derived.Test.YtkggmckfdkpldaaDoorBtwk
import Derived.Test.YtkggmckfdkpldaaDoorBgh
import Derived.Test.YtkggmckfdkpldaaDoorBld
namespace Go.Proofs.YtkggmckfdkpldaaDoor
open Go.RowKit

structure OpOk (o : OpF) : Prop where
  fits : o.fits
  few : o.list.length ≤ 3
  sym : o.sym.length ≤ 1
structure CdOk (c : CdF) : Prop where
  params : 0 ≤ c.params ∧ c.params ≤ 100
  regs : 1 ≤ c.regs ∧ c.regs ≤ 200
  few : c.ops.length ≤ 15
  ops : ∀ o ∈ c.ops, OpOk o
/-- The operation that is being made, at block ob. -/
structure OpMk (dd ob : Nat) (xs : List Int) (wn w : World) : Prop where
  dice : DiceAt w dd xs
  kp : Kp (fun y => y = dd) wn w
  op : ∃ (o : OpF) (A : Option Addr) (n c : Nat), w.heap[ob]? = some (.cells #[iv o.kind, iv o.a, iv o.b, iv o.c, .slice A n c, sv o.sym] 60 (0, 0)) ∧ OpOk o ∧ n = o.list.length ∧ Row w (fun b => wn.heap.size ≤ b ∧ b < w.heap.size ∧ b ≠ ob) A (o.list.map iv)
/-- The operation's cells, while it is being made. -/
structure Om (dd ob : Nat) (xs : List Int) (wn w : World) (k a b c v s : Value) : Prop where
  dice : DiceAt w dd xs
  kp : Kp (fun y => y = dd) wn w
  heap : w.heap[ob]? = some (.cells #[k, a, b, c, v, s] 60 (0, 0))
theorem Om.thrown {dd ob : Nat} {xs : List Int} {wn w w' : World} {k a b c v s : Value} (h : Om dd ob xs wn w k a b c v s) (hd : DiceAt w' dd xs) (hk : Kp (fun y => y = dd) w w') (hne : ob ≠ dd) : Om dd ob xs wn w' k a b c v s :=
  ⟨hd, h.kp.one hk, hk.heap h.heap hne⟩
theorem Om.below {dd ob : Nat} {xs : List Int} {wn w w' : World} {k a b c v s : Value} (h : Om dd ob xs wn w k a b c v s) (hb : Below w.heap.size w w') : Om dd ob xs wn w' k a b c v s :=
  ⟨h.dice.below hb, h.kp.below hb, (hb.block _ (lt_of_heap h.heap)).trans h.heap⟩
theorem Om.set {dd ob o : Nat} {xs : List Int} {wn w : World} {k a b c v s k' a' b' c' v' s' x : Value} (h : Om dd ob xs wn w k a b c v s) (hd : dd < ob) (ho : wn.heap.size ≤ ob) (he : #[k, a, b, c, v, s].setIfInBounds o x = #[k', a', b', c', v', s']) : Om dd ob xs wn (w.setCell ⟨ob, o, none⟩ x) k' a' b' c' v' s' :=
  ⟨h.dice.keep (setKp ob o w x) (fun y e => by rw [e]; exact hd), h.kp.setCell (fun e => by omega) x, (setCell_heap h.heap).trans (by rw [← he])⟩
theorem Om.grown {dd ob : Nat} {xs : List Int} {wn w w' : World} {k a b c v s : Value} {row : Option Nat} (h : Om dd ob xs wn w k a b c v s) (hg : w.grownBy w' row) (hr : ∀ g, row = some g → ob < g) (hd : dd < ob) (ho : wn.heap.size ≤ ob) : Om dd ob xs wn w' k a b c v s :=
  ⟨h.dice.keep (Kp.grown (M := fun y => ob < y) (Kp.refl _ _) hg (fun g hg _ => hr g hg)) (fun y e => Nat.lt_trans hd e), h.kp.grown hg (fun g hg hlt => by have := hr g hg; omega), (hg.block _ (lt_of_heap h.heap) (fun e => by have := hr _ e.symm; omega)).trans h.heap⟩
theorem Om.z {dd ob : Nat} {xs : List Int} {wn w : World} {k a b c v s : Value} (h : Om dd ob xs wn w k a b c v s) : w.cell? ⟨ob, 0, none⟩ = some k ∧ w.cell? ⟨ob, 1, none⟩ = some a ∧ w.cell? ⟨ob, 2, none⟩ = some b ∧ w.cell? ⟨ob, 3, none⟩ = some c ∧ w.cell? ⟨ob, 4, none⟩ = some v ∧ w.cell? ⟨ob, 5, none⟩ = some s :=
  ⟨(Lib.cell_of_heap h.heap _).trans rfl, (Lib.cell_of_heap h.heap _).trans rfl, (Lib.cell_of_heap h.heap _).trans rfl, (Lib.cell_of_heap h.heap _).trans rfl, (Lib.cell_of_heap h.heap _).trans rfl, (Lib.cell_of_heap h.heap _).trans rfl⟩
theorem Om.f {dd ob : Nat} {xs : List Int} {wn w : World} {k a b c v s : Value} (h : Om dd ob xs wn w k a b c v s) (o : Nat) : w.frozen? ⟨ob, o, none⟩ = false := Lib.frozen_of_heap h.heap o
theorem Om.done {dd ob : Nat} {xs : List Int} {wn w : World} {k a b c : Int} {s : List UInt8} {l : List Int} {A : Option Addr} {n cc : Nat} (h : Om dd ob xs wn w (iv k) (iv a) (iv b) (iv c) (.slice A n cc) (sv s)) (hk : I64f k) (ha : I64f a) (hb : I64f b) (hc : I64f c) (hl : ∀ x ∈ l, I64f x) (hl3 : l.length ≤ 3) (hs : s.length ≤ 1) (hn : n = l.length) (hr : Row w (fun b => wn.heap.size ≤ b ∧ b < w.heap.size ∧ b ≠ ob) A (l.map iv)) : OpMk dd ob xs wn w :=
  ⟨h.dice, h.kp, ⟨k, a, b, c, l, s⟩, A, n, cc, h.heap, ⟨⟨hk, ha, hb, hc, hl⟩, hl3, hs⟩, hn, hr⟩
theorem Om.done0 {dd ob : Nat} {xs : List Int} {wn w : World} {k a b c : Int} {s : List UInt8} (h : Om dd ob xs wn w (iv k) (iv a) (iv b) (iv c) (.slice none 0 0) (sv s)) (hk : I64f k) (ha : I64f a) (hb : I64f b) (hc : I64f c) (hs : s.length ≤ 1) : OpMk dd ob xs wn w :=
  h.done hk ha hb hc (l := []) (by simp) (by simp) hs rfl (Row.nil _ _ _)
theorem cr_kp {dd cb o : Nat} {u : Value} {w w' : World} (h : w.cell? ⟨cb, o, none⟩ = some u) (hk : Kp (fun y => y = dd) w w') (hne : cb ≠ dd) : w'.cell? ⟨cb, o, none⟩ = some u :=
  (hk.kept (S := fun y => y = cb) (fun b hb => by subst hb; exact ⟨block_lt_of_cell h, hne⟩) ⟨cb, o, none⟩ rfl).trans h
theorem i64small {z : Int} (h : 0 ≤ z) (h' : z ≤ 1000) : I64f z := by unfold I64f; omega
theorem keptSet2 (w : World) (b o o' : Nat) (v v' : Value) : Kp (fun y => y = b) w ((w.setCell ⟨b, o, none⟩ v).setCell ⟨b, o', none⟩ v') :=
  Kp.setCell (M := fun y => y = b) (Kp.setCell (M := fun y => y = b) (Kp.refl _ _) (fun _ => rfl) v) (fun _ => rfl) v'
/-- The six numbers of a constant. -/
abbrev sixC : Array Value := #[.int .i64 0, .int .i64 1, .int .i64 (-1), .int .i64 5, .int .i64 9223372036854775807, .int .i64 (-9223372036854775808)]
theorem sixC_at (k : Nat) (hk : k < 6) : ∃ z, I64f z ∧ sixC[k]? = some (iv z) := by
  obtain rfl | rfl | rfl | rfl | rfl | rfl : k = 0 ∨ k = 1 ∨ k = 2 ∨ k = 3 ∨ k = 4 ∨ k = 5 := by omega
  · exact ⟨0, by unfold I64f; omega, rfl⟩
  · exact ⟨1, by unfold I64f; omega, rfl⟩
  · exact ⟨-1, by unfold I64f; omega, rfl⟩
  · exact ⟨5, by unfold I64f; omega, rfl⟩
  · exact ⟨9223372036854775807, by unfold I64f; omega, rfl⟩
  · exact ⟨-9223372036854775808, by unfold I64f; omega, rfl⟩
def c9Phi (dd ob cb r : Nat) : Nat → Value → World → Prop
  | 0, v, _ => v = .pointer (some ⟨dd, 0, none⟩)
  | 5, v, _ => v = .pointer (some ⟨dd, 0, none⟩)
  | 1, v, _ => v = .pointer (some ⟨cb, 1, none⟩)
  | 2, v, _ => v = iv r
  | 3, v, _ => ∃ k : Nat, k < r ∧ v = iv k
  | 4, v, w => ∃ b, v = .slice (some ⟨b, 0, none⟩) 6 6 ∧ b ≠ dd ∧ b ≠ ob ∧ w.heap[b]? = some (.cells sixC 3 (0, 0))
  | 6, v, _ => ∃ k : Nat, k < 6 ∧ v = iv k
  | 7, v, w => ∃ b k, v = .pointer (some ⟨b, k, none⟩) ∧ k < 6 ∧ b ≠ dd ∧ b ≠ ob ∧ w.heap[b]? = some (.cells sixC 3 (0, 0))
  | 8, v, _ => ∃ z, I64f z ∧ v = iv z
  | 9, v, _ => v = .pointer (some ⟨ob, 1, none⟩)
  | 11, v, _ => v = .pointer (some ⟨ob, 3, none⟩)
  | _, _, _ => True
theorem c9_go {dd ob cb r : Nat} : ∀ i v w w', c9Phi dd ob cb r i v w → Kp (fun y => y = dd ∨ y = ob) w w' → c9Phi dd ob cb r i v w' := by
  intro i v w w' h hk
  unfold c9Phi at h ⊢
  split at h <;> first | exact h | trivial | skip
  · obtain ⟨b, h1, h2, h3, h4⟩ := h
    exact ⟨b, h1, h2, h3, hk.heap h4 (by rintro (e | e) <;> contradiction)⟩
  · obtain ⟨b, k, h1, h0, h2, h3, h4⟩ := h
    exact ⟨b, k, h1, h0, h2, h3, hk.heap h4 (by rintro (e | e) <;> contradiction)⟩
theorem OpsAt.kp {B dd : Nat} {w w' : World} {v : Value} {vs : List OV} (h : OpsAt B w v vs) (hk : Kp (fun y => y = dd) w w') (hd : dd < B) : OpsAt B w' v vs := by
  refine ⟨hk.own h.own fun g hg e => ?_, fun u hu => ((h.each u hu).keep (hk.kept fun b hb => ⟨hb.2.1, fun e => ?_⟩)).more fun b hb => ⟨hb.1, Nat.lt_of_lt_of_le hb.2.1 hk.size, hb.2.2⟩⟩
  · have := (h.own.lt g hg).1
    omega
  · have := hb.1
    omega
def CodeMade (dd : Nat) (xs : List Int) (w : World) (e : Ending) (w' : World) : Prop :=
  ∃ c ov, e = .returned (cdV c ov) ∧ OpsV w' (Fr w.heap.size w'.heap.size) ov c.ops ∧ CdOk c ∧ Thrown dd xs w w'
/-- A part of a code. -/
def childC : Nat → Code → Code
  | 0, .seq x _ => x
  | _, .seq _ y => y
  | 0, .cond _ x _ => x
  | _, .cond _ _ y => y
  | _, .block _ x => x
  | _, .loop x => x
  | _, c => c
/-- The part that a path leads to. -/
def subC : List Nat → Code → Code
  | [], c => c
  | k :: r, c => subC r (childC k c)
end Go.Proofs.YtkggmckfdkpldaaDoor
