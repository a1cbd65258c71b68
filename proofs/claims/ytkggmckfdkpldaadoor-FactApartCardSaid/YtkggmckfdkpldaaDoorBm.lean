/-
  Words for memory: rows of cells in blocks of a set, what a call may change, rows of structs. No condition beyond those of each theorem.
-/
import Derived.Test.YtkggmckfdkpldaaDoorRows
import Derived.WalkKit
import Derived.WalkSpells
import Derived.WalkLawsBesides
import Derived.Lib.Hide
import Derived.Deep.AppendLies
import Derived.Deep.Draws
import Derived.Lib.Walk
import Derived.Lib.Builder
import Derived.StillTail
import Derived.Deep.Quiet
import Derived.Lib.QuietBelow
import Derived.OrdersHeld
import Derived.Deep.RegionHeld3
import Derived.Deep.QuietTactic
import Derived.BigQuiet
import Derived.Tactics2
import Derived.Deep.LoopGhost
namespace Go.Proofs.YtkggmckfdkpldaaDoor
open Go.RowKit

theorem blkAdd (a : Addr) (n : Nat) : (a.add n).block = a.block := by
  unfold Addr.add
  split <;> rfl
theorem addAdd (a : Addr) (i j : Nat) : (a.add i).add j = a.add (i + j) := by
  unfold Addr.add
  by_cases hi : i = 0
  · subst hi; simp
  · by_cases hj : j = 0
    · subst hj; simp [hi]
    · simp [hi, hj, Nat.add_assoc]

/-- Blocks of w that were not there at lo. -/
def Fr (lo hi : Nat) (b : Nat) : Prop := lo ≤ b ∧ b < hi
def Lt (n : Nat) (b : Nat) : Prop := b < n

/-- In w the cells from A on are xs, all in one block of S. -/
def Row (w : World) (S : Nat → Prop) (A : Option Addr) (xs : List Value) : Prop :=
  xs = [] ∨ ∃ ad, A = some ad ∧ S ad.block ∧ ∀ j u, xs[j]? = some u → w.cell? (ad.add j) = some u

/-- What lies in S is ks it was. -/
def Kept (S : Nat → Prop) (w w' : World) : Prop := ∀ p : Addr, S p.block → w'.cell? p = w.cell? p

theorem Row.nil (w : World) (S : Nat → Prop) (A : Option Addr) : Row w S A [] := .inl rfl
theorem Row.at_ {w : World} {S : Nat → Prop} {A : Option Addr} {xs : List Value} {k : Nat} {u : Value} (h : Row w S A xs) (hk : xs[k]? = some u) :
    ∃ ad, A = some ad ∧ S ad.block ∧ w.cell? (ad.add k) = some u := by
  rcases h with rfl | ⟨ad, e, hb, hc⟩
  · simp at hk
  · exact ⟨ad, e, hb, hc k u hk⟩
theorem Row.keep {w w' : World} {S : Nat → Prop} {A : Option Addr} {xs : List Value} (h : Row w S A xs) (hk : Kept S w w') : Row w' S A xs := by
  rcases h with rfl | ⟨ad, e, hb, hc⟩
  · exact .inl rfl
  · exact .inr ⟨ad, e, hb, fun j u hu => (hk _ (by rw [blkAdd]; exact hb)).trans (hc j u hu)⟩
theorem Row.more {w : World} {S S' : Nat → Prop} {A : Option Addr} {xs : List Value} (h : Row w S A xs) (hS : ∀ b, S b → S' b) : Row w S' A xs := by
  rcases h with rfl | ⟨ad, e, hb, hc⟩
  · exact .inl rfl
  · exact .inr ⟨ad, e, hS _ hb, hc⟩
theorem Row.ofOwn {w : World} {base : Nat} {e : TypeId} {size n c : Nat} {A : Option Addr} {xs : List Value} {S : Nat → Prop} (h : w.ownsRow base e size (.slice A n c) n xs) (hS : ∀ g, A = some ⟨g, 0, none⟩ → base ≤ g → g < w.heap.size → S g) : Row w S A xs := by
  rcases Nat.eq_zero_or_pos n with h0 | hn
  · left
    have := h.1
    rw [h0, Nat.zero_mul] at this
    exact List.eq_nil_of_length_eq_zero this
  · obtain ⟨g, cap, hv, hb, hlt⟩ := h.form hn
    have hA : A = some ⟨g, 0, none⟩ := by injection hv
    subst hA
    exact .inr ⟨_, rfl, hS g rfl hb hlt, h.cells (g := g) rfl⟩
theorem Row.sub {w : World} {S : Nat → Prop} {A : Option Addr} {xs : List Value} {k : Nat} (h : Row w S A xs) (A' : Option Addr) (hA : ∀ ad, A = some ad → k < xs.length → A' = some (ad.add k)) : Row w S A' (xs.drop k) := by
  rcases h with rfl | ⟨ad, e, hb, hc⟩
  · left; simp
  · by_cases hk : k < xs.length
    · refine .inr ⟨ad.add k, hA ad e hk, by rw [blkAdd]; exact hb, fun j u hu => ?_⟩
      rw [addAdd]
      exact hc _ u (by rw [← hu, List.getElem?_drop])
    · left
      exact List.drop_eq_nil_of_le (by omega)
theorem Row.front {w : World} {S : Nat → Prop} {A : Option Addr} {xs : List Value} (k : Nat) (h : Row w S A xs) : Row w S A (xs.take k) := by
  rcases h with rfl | ⟨ad, e, hb, hc⟩
  · left; simp
  · refine .inr ⟨ad, e, hb, fun j u hu => hc j u ?_⟩
    rw [List.getElem?_take] at hu
    split at hu
    · exact hu
    · cases hu

theorem kept_below {n : Nat} {w w' : World} (h : Below n w w') : Kept (Lt n) w w' := fun _ hp => h.cell hp
theorem Kept.sub {S S' : Nat → Prop} {w w' : World} (h : Kept S w w') (hS : ∀ b, S' b → S b) : Kept S' w w' := fun p hp => h p (hS _ hp)
theorem Kept.trans {S : Nat → Prop} {w w' w'' : World} (h : Kept S w w') (h' : Kept S w' w'') : Kept S w w'' := fun p hp => (h' p hp).trans (h p hp)

theorem belowDrewN {B : Nat} {a w : World} (h : Below B a w) (n : Nat) : Below B a (w.drewN n) := ⟨h.os, h.tape, h.output, h.size, h.block⟩
theorem belowCell {W w1 : World} (hb : Below W.heap.size W w1) : (∀ b o, b < W.heap.size → w1.cell? ⟨b, o, none⟩ = W.cell? ⟨b, o, none⟩) ∧ (∀ b o, b < W.heap.size → w1.frozen? ⟨b, o, none⟩ = W.frozen? ⟨b, o, none⟩) :=
  ⟨fun b o h => hb.cell (p := ⟨b, o, none⟩) h, fun b o h => hb.frozen (p := ⟨b, o, none⟩) h⟩

/-- The string of some bytes. -/
def bs (l : List UInt8) : ByteArray := ⟨l.toArray⟩
theorem bs_size (l : List UInt8) : (bs l).size = l.length := by unfold bs; rw [ByteArray.size]; simp
theorem bs_data (l : List UInt8) : (bs l).data.toList = l := by unfold bs; simp
theorem bs_of (s : ByteArray) : bs s.data.toList = s := by unfold bs; simp
abbrev sv (l : List UInt8) : Value := .string (bs l)
theorem sv_of (s : ByteArray) : sv s.data.toList = .string s := by rw [sv, bs_of]
theorem bs_inj {a b : List UInt8} (h : bs a = bs b) : a = b := by
  have := congrArg (fun s => s.data.toList) h
  simpa [bs_data] using this
theorem sv_one (l : List UInt8) : (sv l).oneCell' = true := rfl

theorem cellAlloc {w : World} {o : Obj} {b i : Nat} (h : b < w.heap.size) : (w.alloc o).cell? ⟨b, i, none⟩ = w.cell? ⟨b, i, none⟩ := World.cell?_of_block (heap_alloc_old w o h)
theorem alloc1 (w : World) (a : Obj) : (w.alloc a).heap[w.heap.size]? = some a := heap_alloc_new w a
theorem alloc2 (w : World) (a b : Obj) : ((w.alloc a).alloc b).heap[w.heap.size]? = some a ∧ ((w.alloc a).alloc b).heap[w.heap.size + 1]? = some b := by
  refine ⟨?_, ?_⟩
  · rw [heap_alloc_old]
    · exact alloc1 w a
    · simp
  · have := alloc1 (w.alloc a) b
    simpa using this
theorem alloc3 (w : World) (a b c : Obj) : (((w.alloc a).alloc b).alloc c).heap[w.heap.size]? = some a ∧ (((w.alloc a).alloc b).alloc c).heap[w.heap.size + 1]? = some b ∧ (((w.alloc a).alloc b).alloc c).heap[w.heap.size + 2]? = some c := by
  refine ⟨?_, ?_, ?_⟩
  · rw [heap_alloc_old]
    · exact (alloc2 w a b).1
    · simp; omega
  · rw [heap_alloc_old]
    · exact (alloc2 w a b).2
    · simp
  · have := alloc1 ((w.alloc a).alloc b) c
    simpa using this

theorem setCell_heap {w : World} {b o : Nat} {cs : Array Value} {T : TypeId} {fr : Nat × Nat} {v : Value} (h : w.heap[b]? = some (.cells cs T fr)) : (w.setCell ⟨b, o, none⟩ v).heap[b]? = some (.cells (cs.setIfInBounds o v) T fr) := by
  unfold World.setCell
  simp [Array.getElem?_modify, h]
theorem grownSet {w : World} {b o : Nat} {v : Value} : w.grownBy (w.setCell ⟨b, o, none⟩ v) (some b) := ⟨rfl, rfl, rfl, by simp [World.setCell], fun k _ hk => Below.heap_setCell w _ _ k (fun e => hk (by rw [e]))⟩
theorem grownOfBelow {a w : World} (h : Below a.heap.size a w) : a.grownBy w none := ⟨h.os, h.tape, h.output, h.size, fun i hi _ => h.block i hi⟩
theorem keptGrown {w w' : World} {row : Option Nat} {S : Nat → Prop} (h : w.grownBy w' row) (hS : ∀ b, S b → b < w.heap.size ∧ some b ≠ row) : Kept S w w' := fun _ hp => World.cell?_of_block (h.block _ (hS _ hp).1 (hS _ hp).2)
theorem ownNone (v : Value) : v.ownBlock = none ∨ v.ownBlock ≠ none := by cases v.ownBlock <;> simp
theorem sizeSet (w : World) (p : Addr) (v : Value) : (w.setCell p v).heap.size = w.heap.size := by simp [World.setCell]
theorem lt_of_heap {w : World} {b : Nat} {o : Obj} (h : w.heap[b]? = some o) : b < w.heap.size := (Array.getElem?_eq_some_iff.1 h).1


/-- What was there is as it was, but for the blocks of M. -/
structure Kp (M : Nat → Prop) (w w' : World) : Prop where
  os : w'.os = w.os
  tape : w'.tape = w.tape
  output : w'.output = w.output
  size : w.heap.size ≤ w'.heap.size
  block : ∀ x, x < w.heap.size → ¬ M x → w'.heap[x]? = w.heap[x]?

theorem Kp.refl (M : Nat → Prop) (w : World) : Kp M w w := ⟨rfl, rfl, rfl, Nat.le_refl _, fun _ _ _ => rfl⟩
theorem Kp.trans {M M1 : Nat → Prop} {w w1 w2 : World} (h : Kp M w w1) (h1 : Kp M1 w1 w2) (hM : ∀ x, x < w.heap.size → M1 x → M x) : Kp M w w2 :=
  ⟨h1.os.trans h.os, h1.tape.trans h.tape, h1.output.trans h.output, Nat.le_trans h.size h1.size, fun x hx hm => (h1.block x (Nat.lt_of_lt_of_le hx h.size) (fun e => hm (hM x hx e))).trans (h.block x hx hm)⟩
theorem Kp.ofBelow {M : Nat → Prop} {w w' : World} (h : Below w.heap.size w w') : Kp M w w' := ⟨h.os, h.tape, h.output, h.size, fun x hx _ => h.block x hx⟩
theorem Kp.more {M M' : Nat → Prop} {w w' : World} (h : Kp M w w') (hM : ∀ x, x < w.heap.size → M x → M' x) : Kp M' w w' := ⟨h.os, h.tape, h.output, h.size, fun x hx hm => h.block x hx (fun e => hm (hM x hx e))⟩
theorem Kp.kept {M S : Nat → Prop} {w w' : World} (h : Kp M w w') (hS : ∀ b, S b → b < w.heap.size ∧ ¬ M b) : Kept S w w' := fun _ hp => World.cell?_of_block (h.block _ (hS _ hp).1 (hS _ hp).2)
theorem Kp.below {M : Nat → Prop} {w w1 w2 : World} (h : Kp M w w1) (h1 : Below w1.heap.size w1 w2) : Kp M w w2 := h.trans (M1 := fun _ => False) (Kp.ofBelow h1) (fun _ _ e => e.elim)
theorem Kp.alloc {M : Nat → Prop} {w w1 : World} (h : Kp M w w1) (o : Obj) : Kp M w (w1.alloc o) := h.below ((Below.refl _ _).alloc (Nat.le_refl _) _)
theorem Kp.drew {M : Nat → Prop} {w w1 : World} (h : Kp M w w1) : Kp M w w1.drew := ⟨h.os, h.tape, h.output, h.size, h.block⟩
theorem Kp.grown {M : Nat → Prop} {w w1 w2 : World} {row : Option Nat} (h : Kp M w w1) (hg : w1.grownBy w2 row) (hr : ∀ r, row = some r → r < w.heap.size → M r) : Kp M w w2 :=
  ⟨hg.os.trans h.os, hg.tape.trans h.tape, hg.output.trans h.output, Nat.le_trans h.size hg.size, fun x hx hm => (hg.block x (Nat.lt_of_lt_of_le hx h.size) (fun e => hm (hr x e.symm hx))).trans (h.block x hx hm)⟩
theorem Kp.setCell {M : Nat → Prop} {w w1 : World} (h : Kp M w w1) {b o : Nat} (hb : b < w.heap.size → M b) (v : Value) : Kp M w (w1.setCell ⟨b, o, none⟩ v) :=
  h.grown grownSet (fun r hr hlt => by injection hr with hr; subst hr; exact hb hlt)
theorem Kp.heap {M : Nat → Prop} {w w' : World} (h : Kp M w w') {b : Nat} {o : Obj} (hb : w.heap[b]? = some o) (hm : ¬ M b) : w'.heap[b]? = some o := (h.block b (lt_of_heap hb) hm).trans hb
theorem Kp.own {M : Nat → Prop} {w w' : World} {base : Nat} {e : TypeId} {size n : Nat} {v : Value} {xs : List Value} (h : Kp M w w') (ho : w.ownsRow base e size v n xs) (hm : ∀ g, v.ownBlock = some g → ¬ M g) : w'.ownsRow base e size v n xs := by
  refine ⟨ho.1, ?_⟩
  rcases ho.2 with hn | ⟨g, cap, cur, rfl, hb, hgg, rest⟩
  · exact .inl hn
  · exact .inr ⟨g, cap, cur, rfl, hb, h.heap hgg (hm g rfl), rest⟩

theorem setCell_swap {w : World} {a b : Addr} {u v : Value} (h : a.block ≠ b.block) : (w.setCell a u).setCell b v = (w.setCell b v).setCell a u := by
  have hh : ((w.setCell a u).setCell b v).heap = ((w.setCell b v).setCell a u).heap := by
    apply Array.ext_getElem?
    intro i
    simp only [World.setCell, Array.getElem?_modify]
    by_cases h1 : a.block = i
    · have h2 : ¬ b.block = i := fun e => h (h1.trans e.symm)
      simp [h1, h2]
    · simp [h1]
  have e : ∀ w1 w2 : World, w1.heap = w2.heap → w1.os = w2.os → w1.tape = w2.tape → w1.output = w2.output → w1.drawn = w2.drawn → w1 = w2 := by
    intro w1 w2 a b c d e
    cases w1; cases w2
    simp_all
  exact e _ _ hh rfl rfl rfl rfl


theorem own_slice {w : World} {base : Nat} {e : TypeId} {size n : Nat} {v : Value} {xs : List Value} (h : w.ownsRow base e size v n xs) : ∃ (A : Option Addr) (c : Nat), v = .slice A n c ∧ (A = none → c = 0) := by
  rcases h.2 with ⟨hv, h0⟩ | ⟨g, cap, cur, hv, _⟩
  · exact ⟨none, 0, by rw [hv, h0], fun _ => rfl⟩
  · exact ⟨_, cap, hv, fun e => by cases e⟩

theorem own_le {w : World} {base : Nat} {e : TypeId} {size n c : Nat} {A : Option Addr} {xs : List Value} (h : w.ownsRow base e size (.slice A n c) n xs) : n ≤ c ∧ c ≤ maxLen := by
  rcases h.2 with ⟨hv, h0⟩ | ⟨g, cap, cur, hv, _, _, h1, h2, _⟩
  · obtain ⟨_, rfl, rfl⟩ := Value.slice.inj hv
    exact ⟨Nat.le_refl _, Nat.zero_le _⟩
  · obtain ⟨_, _, rfl⟩ := Value.slice.inj hv
    exact ⟨h1, h2⟩
theorem row_heap {w : World} {b : Nat} {cs : Array Value} {T : TypeId} {S : Nat → Prop} {xs : List Value} (h : w.heap[b]? = some (.cells cs T (0, 0))) (hx : cs.toList = xs) (hS : S b) : Row w S (some ⟨b, 0, none⟩) xs :=
  .inr ⟨_, rfl, hS, fun j u hu => World.news_of_block (cs := cs) h j u (by rw [hx]; exact hu)⟩

theorem row_lit (w : World) (cs : Array Value) (T : TypeId) (ls : List (List UInt8)) (h : cs.toList = ls.map sv) (dd : Nat) (hd : dd < w.heap.size) : Row (w.alloc (.cells cs T)) (fun y => y < (w.alloc (.cells cs T)).heap.size ∧ y ≠ dd) (some ⟨w.heap.size, 0, none⟩) (ls.map sv) :=
  row_heap (alloc1 _ _) h ⟨by simp, by omega⟩

theorem ret_int {k : IntKind} {a b : Int} (h : a = b) : Ending.returned (.int k a) = .returned (.int k b) := by rw [h]

theorem ownMono {w : World} {base base' : Nat} {e : TypeId} {size : Nat} {v : Value} {n : Nat} {xs : List Value} (h : w.ownsRow base e size v n xs) (hb : base' ≤ base) : w.ownsRow base' e size v n xs :=
  ⟨h.1, h.2.imp id fun ⟨g, cap, cur, h1, h2, h3⟩ => ⟨g, cap, cur, h1, Nat.le_trans hb h2, h3⟩⟩
/-- A Bool was returned that says whether P; what was there is as it was. -/
def Says (P : Prop) (w : World) (e : Ending) (w' : World) : Prop := ∃ r : Bool, e = .returned (.bool r) ∧ (r = true ↔ P) ∧ Below w.heap.size w w'

/-! ### Rows of structs -/
section
variable {α : Type}
def flt (f : α → List Value) (xs : List α) : List Value := xs.flatMap f
theorem flt_nil (f : α → List Value) : flt f [] = [] := rfl
theorem flt_cons (f : α → List Value) (x : α) (xs : List α) : flt f (x :: xs) = f x ++ flt f xs := by simp [flt]
theorem flt_append (f : α → List Value) (a b : List α) : flt f (a ++ b) = flt f a ++ flt f b := by simp [flt]
theorem flt_one (f : α → List Value) (a : α) : flt f [a] = f a := by simp [flt]
theorem flt_length {f : α → List Value} {k : Nat} (hf : ∀ x, (f x).length = k) : ∀ xs : List α, (flt f xs).length = xs.length * k
  | [] => by simp [flt]
  | x :: r => by
    rw [flt_cons, List.length_append, hf, flt_length hf r, List.length_cons, Nat.add_mul]
    omega
theorem flt_at {f : α → List Value} {k : Nat} (hf : ∀ x, (f x).length = k) : ∀ {xs : List α} {i j : Nat} {x : α} {u : Value}, xs[i]? = some x → (f x)[j]? = some u → (flt f xs)[i * k + j]? = some u
  | [], i, j, x, u, h, _ => by simp at h
  | y :: r, 0, j, x, u, h, hu => by
    simp at h
    subst h
    have := (List.getElem?_eq_some_iff.1 hu).1
    rw [flt_cons, Nat.zero_mul, Nat.zero_add, List.getElem?_append_left this]
    exact hu
  | y :: r, i + 1, j, x, u, h, hu => by
    have ih := flt_at hf (xs := r) (i := i) (by simpa using h) hu
    have e : (i + 1) * k + j = k + (i * k + j) := by rw [Nat.add_mul]; omega
    rw [flt_cons, e, List.getElem?_append_right (by rw [hf]; omega), hf, Nat.add_sub_cancel_left]
    exact ih
theorem flt_take {f : α → List Value} {k : Nat} (hf : ∀ x, (f x).length = k) : ∀ (i : Nat) (xs : List α), (flt f xs).take (i * k) = flt f (xs.take i)
  | 0, xs => by simp [flt]
  | i + 1, [] => by simp [flt]
  | i + 1, x :: r => by
    have e : (i + 1) * k = (f x).length + i * k := by rw [hf, Nat.add_mul]; omega
    rw [flt_cons, List.take_succ_cons, flt_cons, e, List.take_length_add_append, flt_take hf i r]
theorem flt_drop {f : α → List Value} {k : Nat} (hf : ∀ x, (f x).length = k) : ∀ (i : Nat) (xs : List α), (flt f xs).drop (i * k) = flt f (xs.drop i)
  | 0, xs => by simp
  | i + 1, [] => by simp [flt]
  | i + 1, x :: r => by
    have e : (i + 1) * k = (f x).length + i * k := by rw [hf, Nat.add_mul]; omega
    rw [flt_cons, List.drop_succ_cons, e, List.drop_length_add_append, flt_drop hf i r]
theorem flt_one' {f : α → List Value} (h1 : ∀ x, ∀ v ∈ f x, v.oneCell' = true) (xs : List α) : ∀ v ∈ flt f xs, v.oneCell' = true := fun v hv => by
  obtain ⟨x, _, hx⟩ := List.mem_flatMap.1 hv
  exact h1 x v hx
end
/-- The cells of one struct of a row, by their places. -/
theorem Row.cell0 {w : World} {S : Nat → Prop} {A : Option Addr} {xs : List Value} {k : Nat} {u : Value} (h : Row w S A xs) (hk : xs[k]? = some u) : ∃ ad, A = some ad ∧ S ad.block ∧ w.cell? (ad.add k) = some u := h.at_ hk
theorem Row.addr {w : World} {S : Nat → Prop} {A : Option Addr} {xs : List Value} (h : Row w S A xs) (hx : 0 < xs.length) : ∃ ad, A = some ad ∧ S ad.block ∧ ∀ j u, xs[j]? = some u → w.cell? (ad.add j) = some u := by
  rcases h with rfl | h
  · simp at hx
  · exact h
theorem cellOff {w : World} {ad : Addr} {k j : Nat} {u : Value} (hj : 0 < j) (h : w.cell? (ad.add (k + j)) = some u) : w.cell? ⟨(ad.add k).block, (ad.add k).off + j, none⟩ = some u := by
  rw [← addAdd] at h
  obtain ⟨j, rfl⟩ : ∃ i, j = i + 1 := ⟨j - 1, by omega⟩
  exact h
end Go.Proofs.YtkggmckfdkpldaaDoor
