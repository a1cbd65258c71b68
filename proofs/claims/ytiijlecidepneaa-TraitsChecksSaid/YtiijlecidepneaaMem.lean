/-
  Words for memory: rows of cells in blocks of a set, slices of strings, types as trees, goals, headers; what keeps them. No condition beyond those of each theorem.
-/
import Derived.Test.YtiijlecidepneaaRows
import Derived.WalkKit
import Derived.WalkSpells
import Derived.WalkLawsBesides
import Derived.Lib.Hide
import Derived.Deep.AppendLies
import Derived.Deep.Draws
namespace Go.Proofs.Ytiijlecidepneaa
open Go.RowKit

theorem blkAdd (a : Addr) (n : Nat) : (a.add n).block = a.block := by
  unfold Addr.add
  split <;> rfl
theorem addAdd (a : Addr) (i j : Nat) : (a.add i).add j = a.add (i + j) := by
  unfold Addr.add
  by_cases hi : i = 0
  · subst hi; simp
  · by_cases hj : j = 0
    · subst hj; simp [hi]
    · simp [hi, hj, Nat.add_assoc]

/-- Blocks of w that were not there at lo. -/
def Fr (lo hi : Nat) (b : Nat) : Prop := lo ≤ b ∧ b < hi
def Lt (n : Nat) (b : Nat) : Prop := b < n

/-- In w the cells from A on are xs, all in one block of S. -/
def Row (w : World) (S : Nat → Prop) (A : Option Addr) (xs : List Value) : Prop :=
  xs = [] ∨ ∃ ad, A = some ad ∧ S ad.block ∧ ∀ j u, xs[j]? = some u → w.cell? (ad.add j) = some u

/-- What lies in S is ks it was. -/
def Kept (S : Nat → Prop) (w w' : World) : Prop := ∀ p : Addr, S p.block → w'.cell? p = w.cell? p

theorem Row.nil (w : World) (S : Nat → Prop) (A : Option Addr) : Row w S A [] := .inl rfl
theorem Row.at_ {w : World} {S : Nat → Prop} {A : Option Addr} {xs : List Value} {k : Nat} {u : Value} (h : Row w S A xs) (hk : xs[k]? = some u) :
    ∃ ad, A = some ad ∧ S ad.block ∧ w.cell? (ad.add k) = some u := by
  rcases h with rfl | ⟨ad, e, hb, hc⟩
  · simp at hk
  · exact ⟨ad, e, hb, hc k u hk⟩
theorem Row.keep {w w' : World} {S : Nat → Prop} {A : Option Addr} {xs : List Value} (h : Row w S A xs) (hk : Kept S w w') : Row w' S A xs := by
  rcases h with rfl | ⟨ad, e, hb, hc⟩
  · exact .inl rfl
  · exact .inr ⟨ad, e, hb, fun j u hu => (hk _ (by rw [blkAdd]; exact hb)).trans (hc j u hu)⟩
theorem Row.more {w : World} {S S' : Nat → Prop} {A : Option Addr} {xs : List Value} (h : Row w S A xs) (hS : ∀ b, S b → S' b) : Row w S' A xs := by
  rcases h with rfl | ⟨ad, e, hb, hc⟩
  · exact .inl rfl
  · exact .inr ⟨ad, e, hS _ hb, hc⟩
theorem Row.ofOwn {w : World} {base : Nat} {e : TypeId} {size n c : Nat} {A : Option Addr} {xs : List Value} {S : Nat → Prop} (h : w.ownsRow base e size (.slice A n c) n xs) (hS : ∀ g, A = some ⟨g, 0, none⟩ → base ≤ g → g < w.heap.size → S g) : Row w S A xs := by
  rcases Nat.eq_zero_or_pos n with h0 | hn
  · left
    have := h.1
    rw [h0, Nat.zero_mul] at this
    exact List.eq_nil_of_length_eq_zero this
  · obtain ⟨g, cap, hv, hb, hlt⟩ := h.form hn
    have hA : A = some ⟨g, 0, none⟩ := by injection hv
    subst hA
    exact .inr ⟨_, rfl, hS g rfl hb hlt, h.cells (g := g) rfl⟩
theorem Row.sub {w : World} {S : Nat → Prop} {A : Option Addr} {xs : List Value} {k : Nat} (h : Row w S A xs) (A' : Option Addr) (hA : ∀ ad, A = some ad → k < xs.length → A' = some (ad.add k)) : Row w S A' (xs.drop k) := by
  rcases h with rfl | ⟨ad, e, hb, hc⟩
  · left; simp
  · by_cases hk : k < xs.length
    · refine .inr ⟨ad.add k, hA ad e hk, by rw [blkAdd]; exact hb, fun j u hu => ?_⟩
      rw [addAdd]
      exact hc _ u (by rw [← hu, List.getElem?_drop])
    · left
      exact List.drop_eq_nil_of_le (by omega)
theorem Row.front {w : World} {S : Nat → Prop} {A : Option Addr} {xs : List Value} (k : Nat) (h : Row w S A xs) : Row w S A (xs.take k) := by
  rcases h with rfl | ⟨ad, e, hb, hc⟩
  · left; simp
  · refine .inr ⟨ad, e, hb, fun j u hu => hc j u ?_⟩
    rw [List.getElem?_take] at hu
    split at hu
    · exact hu
    · cases hu

theorem kept_below {n : Nat} {w w' : World} (h : Below n w w') : Kept (Lt n) w w' := fun _ hp => h.cell hp
theorem Kept.sub {S S' : Nat → Prop} {w w' : World} (h : Kept S w w') (hS : ∀ b, S' b → S b) : Kept S' w w' := fun p hp => h p (hS _ hp)
theorem Kept.trans {S : Nat → Prop} {w w' w'' : World} (h : Kept S w w') (h' : Kept S w' w'') : Kept S w w'' := fun p hp => (h' p hp).trans (h p hp)

theorem belowDrewN {B : Nat} {a w : World} (h : Below B a w) (n : Nat) : Below B a (w.drewN n) := ⟨h.os, h.tape, h.output, h.size, h.block⟩
theorem belowCell {W w1 : World} (hb : Below W.heap.size W w1) : (∀ b o, b < W.heap.size → w1.cell? ⟨b, o, none⟩ = W.cell? ⟨b, o, none⟩) ∧ (∀ b o, b < W.heap.size → w1.frozen? ⟨b, o, none⟩ = W.frozen? ⟨b, o, none⟩) :=
  ⟨fun b o h => hb.cell (p := ⟨b, o, none⟩) h, fun b o h => hb.frozen (p := ⟨b, o, none⟩) h⟩

/-- The string of some bytes. -/
def bs (l : List UInt8) : ByteArray := ⟨l.toArray⟩
theorem bs_size (l : List UInt8) : (bs l).size = l.length := by unfold bs; rw [ByteArray.size]; simp
theorem bs_data (l : List UInt8) : (bs l).data.toList = l := by unfold bs; simp
theorem bs_of (s : ByteArray) : bs s.data.toList = s := by unfold bs; simp
abbrev sv (l : List UInt8) : Value := .string (bs l)
theorem sv_of (s : ByteArray) : sv s.data.toList = .string s := by rw [sv, bs_of]
theorem bs_inj {a b : List UInt8} (h : bs a = bs b) : a = b := by
  have := congrArg (fun s => s.data.toList) h
  simpa [bs_data] using this
theorem sv_one (l : List UInt8) : (sv l).oneCell' = true := rfl

theorem cellAlloc {w : World} {o : Obj} {b i : Nat} (h : b < w.heap.size) : (w.alloc o).cell? ⟨b, i, none⟩ = w.cell? ⟨b, i, none⟩ := World.cell?_of_block (heap_alloc_old w o h)
theorem alloc1 (w : World) (a : Obj) : (w.alloc a).heap[w.heap.size]? = some a := heap_alloc_new w a
theorem alloc2 (w : World) (a b : Obj) : ((w.alloc a).alloc b).heap[w.heap.size]? = some a ∧ ((w.alloc a).alloc b).heap[w.heap.size + 1]? = some b := by
  refine ⟨?_, ?_⟩
  · rw [heap_alloc_old]
    · exact alloc1 w a
    · simp
  · have := alloc1 (w.alloc a) b
    simpa using this
theorem alloc3 (w : World) (a b c : Obj) : (((w.alloc a).alloc b).alloc c).heap[w.heap.size]? = some a ∧ (((w.alloc a).alloc b).alloc c).heap[w.heap.size + 1]? = some b ∧ (((w.alloc a).alloc b).alloc c).heap[w.heap.size + 2]? = some c := by
  refine ⟨?_, ?_, ?_⟩
  · rw [heap_alloc_old]
    · exact (alloc2 w a b).1
    · simp; omega
  · rw [heap_alloc_old]
    · exact (alloc2 w a b).2
    · simp
  · have := alloc1 ((w.alloc a).alloc b) c
    simpa using this

/-! ### Trees of types -/

inductive Ty where
  | mk (name : List UInt8) (args : List Ty)

def Ty.name : Ty → List UInt8
  | .mk n _ => n
def Ty.args : Ty → List Ty
  | .mk _ ks => ks

theorem Ty.ind {P : Ty → Prop} (h : ∀ n ks, (∀ a ∈ ks, P a) → P (.mk n ks)) : ∀ t, P t
  | .mk n ks => h n ks fun a _ha => Ty.ind h a
  termination_by t => SizeOf.sizeOf t
  decreasing_by
    have := List.sizeOf_lt_of_mem _ha
    simp only [Ty.mk.sizeOf_spec]
    omega

def flat2 (vs : List (Value × Value)) : List Value := vs.flatMap fun p => [p.1, p.2]
theorem flat2_length (vs : List (Value × Value)) : (flat2 vs).length = vs.length * 2 := by
  induction vs with
  | nil => rfl
  | cons v r ih => simp only [flat2, List.flatMap_cons, List.length_append, List.length_cons, List.length_nil] at ih ⊢; omega
theorem flat2_at : ∀ (vs : List (Value × Value)) (i : Nat) (p : Value × Value), vs[i]? = some p → (flat2 vs)[i * 2]? = some p.1 ∧ (flat2 vs)[i * 2 + 1]? = some p.2
  | [], i, p, h => by simp at h
  | v :: r, 0, p, h => by
    simp at h
    subst h
    simp [flat2]
  | v :: r, i + 1, p, h => by
    have := flat2_at r i p (by simpa using h)
    have e : (i + 1) * 2 = i * 2 + 2 := by omega
    rw [e]
    simpa [flat2] using this
theorem flat2_append (a b : List (Value × Value)) : flat2 (a ++ b) = flat2 a ++ flat2 b := by simp [flat2]
theorem flat2_take : ∀ (k : Nat) (vs : List (Value × Value)), (flat2 vs).take (k * 2) = flat2 (vs.take k)
  | 0, vs => by simp [flat2]
  | k + 1, [] => by simp [flat2]
  | k + 1, v :: r => by
    have := flat2_take k r
    have e : (k + 1) * 2 = k * 2 + 2 := by omega
    rw [e]
    simpa [flat2] using this

/-- A type at two cells' values: its name, the slice of its arguments; all that it reaches lies in S. -/
inductive TyIs (w : World) (S : Nat → Prop) : Ty → Value → Value → Prop
  | mk (n : List UInt8) (ks : List Ty) (A : Option Addr) (c : Nat) (vs : List (Value × Value)) (hn : n.length ≤ 140737488355328) (hz : ks.length ≤ 3518437208883) (hc : ks.length ≤ c ∧ c ≤ maxLen) (hl : vs.length = ks.length) (row : Row w S A (flat2 vs))
      (h : ∀ (i : Nat) (t : Ty) (p : Value × Value), ks[i]? = some t → vs[i]? = some p → TyIs w S t p.1 p.2) : TyIs w S (.mk n ks) (sv n) (.slice A ks.length c)

theorem TyIs.keep {w w' : World} {S : Nat → Prop} {t : Ty} {u v : Value} (h : TyIs w S t u v) (hk : Kept S w w') : TyIs w' S t u v := by
  induction h with
  | mk n ks A c vs hn hz hc hl row _ ih => exact .mk n ks A c vs hn hz hc hl (row.keep hk) ih
theorem TyIs.more {w : World} {S S' : Nat → Prop} {t : Ty} {u v : Value} (h : TyIs w S t u v) (hS : ∀ b, S b → S' b) : TyIs w S' t u v := by
  induction h with
  | mk n ks A c vs hn hz hc hl row _ ih => exact .mk n ks A c vs hn hz hc hl (row.more hS) ih
theorem TyIs.lower {w w' : World} {n : Nat} {t : Ty} {u v : Value} (h : TyIs w (Lt n) t u v) (hb : Below n w w') : TyIs w' (Lt n) t u v := h.keep (kept_below hb)

theorem TyIs.now {w w' : World} {n : Nat} {t : Ty} {u v : Value} (h : TyIs w (Lt n) t u v) (hn : n ≤ w.heap.size) (hb : Below w.heap.size w w') : TyIs w' (Lt w'.heap.size) t u v :=
  (h.lower (hb.mono hn)).more fun _ h => Nat.lt_of_lt_of_le h (Nat.le_trans hn hb.size)

/-- A slice of types. -/
structure Tys (w : World) (S : Nat → Prop) (A : Option Addr) (ts : List Ty) (vs : List (Value × Value)) : Prop where
  len : vs.length = ts.length
  row : Row w S A (flat2 vs)
  each : ∀ (i : Nat) (t : Ty) (p : Value × Value), ts[i]? = some t → vs[i]? = some p → TyIs w S t p.1 p.2

theorem Tys.keep {w w' : World} {S : Nat → Prop} {A : Option Addr} {ts : List Ty} {vs : List (Value × Value)} (h : Tys w S A ts vs) (hk : Kept S w w') : Tys w' S A ts vs := ⟨h.len, h.row.keep hk, fun i t p ht hp => (h.each i t p ht hp).keep hk⟩
theorem Tys.more {w : World} {S S' : Nat → Prop} {A : Option Addr} {ts : List Ty} {vs : List (Value × Value)} (h : Tys w S A ts vs) (hS : ∀ b, S b → S' b) : Tys w S' A ts vs := ⟨h.len, h.row.more hS, fun i t p ht hp => (h.each i t p ht hp).more hS⟩
theorem Tys.at_ {w : World} {S : Nat → Prop} {A : Option Addr} {ts : List Ty} {vs : List (Value × Value)} {i : Nat} {t : Ty} (h : Tys w S A ts vs) (ht : ts[i]? = some t) :
    ∃ ad u v, A = some ad ∧ S ad.block ∧ w.cell? (ad.add (i * 2)) = some u ∧ w.cell? ⟨(ad.add (i * 2)).block, (ad.add (i * 2)).off + 1, none⟩ = some v ∧ TyIs w S t u v := by
  have hi := (List.getElem?_eq_some_iff.1 ht).1
  have hp : vs[i]? = some (vs[i]'(by rw [h.len]; exact hi)) := List.getElem?_eq_getElem _
  obtain ⟨e1, e2⟩ := flat2_at _ _ _ hp
  obtain ⟨ad, rfl, hS, hc⟩ := h.row.at_ e1
  obtain ⟨ad', h', _, hc'⟩ := h.row.at_ e2
  obtain rfl := Option.some.inj h'
  exact ⟨ad, _, _, rfl, hS, hc, by rw [← addAdd] at hc'; exact hc', h.each i t _ ht hp⟩
theorem TyIs.open_ {w : World} {S : Nat → Prop} {t : Ty} {u v : Value} (h : TyIs w S t u v) :
    ∃ (A : Option Addr) (c : Nat) (vs : List (Value × Value)), u = sv t.name ∧ v = .slice A t.args.length c ∧ t.name.length ≤ 140737488355328 ∧ t.args.length ≤ 3518437208883 ∧ t.args.length ≤ c ∧ c ≤ maxLen ∧ Tys w S A t.args vs := by
  cases h with
  | mk n ks A c vs hn hz hc hl row h => exact ⟨A, c, vs, rfl, rfl, hn, hz, hc.1, hc.2, hl, row, h⟩
theorem TyIs.shape {w : World} {S : Nat → Prop} {t : Ty} {u v : Value} (h : TyIs w S t u v) : ∃ (n : List UInt8) (a : Option Addr × Nat × Nat), u = sv n ∧ v = .slice a.1 a.2.1 a.2.2 := by
  cases h with
  | mk n ks A c vs hn hz hc hl row h => exact ⟨n, (A, ks.length, c), rfl, rfl⟩
theorem Tys.close {w : World} {S : Nat → Prop} {A : Option Addr} {c : Nat} {n : List UInt8} {ks : List Ty} {vs : List (Value × Value)} (h : Tys w S A ks vs) (hn : n.length ≤ 140737488355328) (hz : ks.length ≤ 3518437208883) (hc : ks.length ≤ c ∧ c ≤ maxLen) : TyIs w S (.mk n ks) (sv n) (.slice A ks.length c) :=
  .mk n ks A c vs hn hz hc h.len h.row h.each
theorem Tys.nil (w : World) (S : Nat → Prop) (A : Option Addr) : Tys w S A [] [] := ⟨rfl, Row.nil _ _ _, fun i t p h => by simp at h⟩
end Go.Proofs.Ytiijlecidepneaa
