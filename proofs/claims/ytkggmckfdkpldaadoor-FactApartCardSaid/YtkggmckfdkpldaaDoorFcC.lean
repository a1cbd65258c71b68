/-
  Codes in memory: rows of ints, rows of operations, a code. No condition beyond those of each theorem.
-/
import Derived.Test.YtkggmckfdkpldaaDoorFcX
import Derived.Test.YtkggmckfdkpldaaDoorFcM
import Derived.Test.YtkggmckfdkpldaaDoorBown
namespace Go.Proofs.YtkggmckfdkpldaaDoor
open Go.RowKit

abbrev iv (z : Int) : Value := .int .i64 z
/-- A slice value that reads as ints, in blocks of S. -/
def IntsV (w : World) (S : Nat → Prop) (v : Value) (l : List Int) : Prop := ∃ A c, v = .slice A l.length c ∧ Row w S A (l.map iv)
theorem IntsV.keep {w w' : World} {S : Nat → Prop} {v : Value} {l : List Int} (h : IntsV w S v l) (hk : Kept S w w') : IntsV w' S v l := by
  obtain ⟨A, c, e, hr⟩ := h
  exact ⟨A, c, e, hr.keep hk⟩
theorem IntsV.more {w : World} {S S' : Nat → Prop} {v : Value} {l : List Int} (h : IntsV w S v l) (hS : ∀ b, S b → S' b) : IntsV w S' v l := by
  obtain ⟨A, c, e, hr⟩ := h
  exact ⟨A, c, e, hr.more hS⟩
theorem IntsV.now {w w' : World} {v : Value} {l : List Int} (h : IntsV w (Lt w.heap.size) v l) (hb : Below w.heap.size w w') : IntsV w' (Lt w'.heap.size) v l := (h.keep (kept_below hb)).more fun _ hy => Nat.lt_of_lt_of_le hy hb.size
theorem IntsV.nil (w : World) (S : Nat → Prop) : IntsV w S (.slice none 0 0) [] := ⟨none, 0, rfl, Row.nil _ _ _⟩
theorem int_at {w : World} {S : Nat → Prop} {A : Option Addr} {l : List Int} {i : Nat} {x : Int} (h : Row w S A (l.map iv)) (hi : l[i]? = some x) : ∃ ad, A = some ad ∧ S ad.block ∧ w.cell? (ad.add i) = some (iv x) :=
  h.at_ (by simp [hi])

/-- An operation, and the slice of its list. -/
structure OV where
  o : OpF
  lv : Value
def ovC (x : OV) : List Value := [iv x.o.kind, iv x.o.a, iv x.o.b, iv x.o.c, x.lv, sv x.o.sym]
theorem ovC_len (x : OV) : (ovC x).length = 6 := rfl
abbrev opV (o : OpF) (lv : Value) : Value := .agg #[iv o.kind, iv o.a, iv o.b, iv o.c, lv, sv o.sym]
/-- The cells of an operation from a on. -/
structure OpAt (w : World) (a : Addr) (x : OV) : Prop where
  c0 : w.cell? a = some (iv x.o.kind)
  c1 : w.cell? ⟨a.block, a.off + 1, none⟩ = some (iv x.o.a)
  c2 : w.cell? ⟨a.block, a.off + 2, none⟩ = some (iv x.o.b)
  c3 : w.cell? ⟨a.block, a.off + 3, none⟩ = some (iv x.o.c)
  c4 : w.cell? ⟨a.block, a.off + 4, none⟩ = some x.lv
  c5 : w.cell? ⟨a.block, a.off + 5, none⟩ = some (sv x.o.sym)
theorem ov_at {w : World} {S : Nat → Prop} {A : Option Addr} {l : List OV} {i : Nat} {x : OV} (h : Row w S A (flt ovC l)) (hi : l[i]? = some x) :
    ∃ ad, A = some ad ∧ S ad.block ∧ OpAt w (ad.add (i * 6)) x := by
  have hlt := (List.getElem?_eq_some_iff.1 hi).1
  obtain ⟨ad, hA, hS, hc⟩ := h.addr (by rw [flt_length ovC_len]; omega)
  exact ⟨ad, hA, hS, hc _ _ (flt_at (j := 0) ovC_len hi rfl), cellOff (by decide) (hc _ _ (flt_at ovC_len hi rfl)), cellOff (by decide) (hc _ _ (flt_at ovC_len hi rfl)), cellOff (by decide) (hc _ _ (flt_at ovC_len hi rfl)), cellOff (by decide) (hc _ _ (flt_at ovC_len hi rfl)), cellOff (by decide) (hc _ _ (flt_at ovC_len hi rfl))⟩
/-- Operations in memory, in blocks of S. -/
structure Ops (w : World) (S : Nat → Prop) (A : Option Addr) (vs : List OV) : Prop where
  row : Row w S A (flt ovC vs)
  each : ∀ u ∈ vs, IntsV w S u.lv u.o.list
theorem Ops.keep {w w' : World} {S : Nat → Prop} {A : Option Addr} {vs : List OV} (h : Ops w S A vs) (hk : Kept S w w') : Ops w' S A vs := ⟨h.row.keep hk, fun u hu => (h.each u hu).keep hk⟩
theorem Ops.more {w : World} {S S' : Nat → Prop} {A : Option Addr} {vs : List OV} (h : Ops w S A vs) (hS : ∀ b, S b → S' b) : Ops w S' A vs := ⟨h.row.more hS, fun u hu => (h.each u hu).more hS⟩
theorem Ops.now {w w' : World} {A : Option Addr} {vs : List OV} (h : Ops w (Lt w.heap.size) A vs) (hb : Below w.heap.size w w') : Ops w' (Lt w'.heap.size) A vs := (h.keep (kept_below hb)).more fun _ hy => Nat.lt_of_lt_of_le hy hb.size
theorem Ops.nil (w : World) (S : Nat → Prop) : Ops w S none [] := ⟨Row.nil _ _ _, by simp⟩
/-- A slice value that reads as operations. -/
def OpsV (w : World) (S : Nat → Prop) (v : Value) (l : List OpF) : Prop := ∃ A c vs, v = .slice A vs.length c ∧ vs.map OV.o = l ∧ Ops w S A vs
theorem OpsV.keep {w w' : World} {S : Nat → Prop} {v : Value} {l : List OpF} (h : OpsV w S v l) (hk : Kept S w w') : OpsV w' S v l := by
  obtain ⟨A, c, vs, e, hl, hr⟩ := h
  exact ⟨A, c, vs, e, hl, hr.keep hk⟩
theorem OpsV.more {w : World} {S S' : Nat → Prop} {v : Value} {l : List OpF} (h : OpsV w S v l) (hS : ∀ b, S b → S' b) : OpsV w S' v l := by
  obtain ⟨A, c, vs, e, hl, hr⟩ := h
  exact ⟨A, c, vs, e, hl, hr.more hS⟩
theorem OpsV.now {w w' : World} {v : Value} {l : List OpF} (h : OpsV w (Lt w.heap.size) v l) (hb : Below w.heap.size w w') : OpsV w' (Lt w'.heap.size) v l := (h.keep (kept_below hb)).more fun _ hy => Nat.lt_of_lt_of_le hy hb.size
abbrev cdV (c : CdF) (ov : Value) : Value := .agg #[iv c.params, iv c.regs, ov]
/-- A value that reads as a code. -/
def CodeV (w : World) (S : Nat → Prop) (v : Value) (c : CdF) : Prop := ∃ ov, v = cdV c ov ∧ OpsV w S ov c.ops
theorem CodeV.now {w w' : World} {v : Value} {c : CdF} (h : CodeV w (Lt w.heap.size) v c) (hb : Below w.heap.size w w') : CodeV w' (Lt w'.heap.size) v c := by
  obtain ⟨ov, e, ho⟩ := h
  exact ⟨ov, e, ho.now hb⟩
theorem CodeV.zero (w : World) (S : Nat → Prop) : CodeV w S (.agg #[iv 0, iv 0, .slice none 0 0]) CdF.zero := ⟨_, rfl, none, 0, [], rfl, rfl, Ops.nil _ _⟩

/-- A row that is being filled from the left. -/
theorem fill_step {α : Type} {xs : List α} {n k : Nat} {v z : α} (hn : xs.length = n) (hk : k < n) (hv : xs[k]? = some v) : (xs.take k ++ List.replicate (n - k) z).set k v = xs.take (k + 1) ++ List.replicate (n - (k + 1)) z := by
  have hl : (xs.take k).length = k := by rw [List.length_take]; omega
  have e : n - k = (n - (k + 1)) + 1 := by omega
  rw [List.set_append_right _ _ (by omega), hl, Nat.sub_self, e, List.replicate_succ, List.set_cons_zero, List.take_add_one, hv, List.append_assoc]
  rfl
theorem madeS (q : Nat) : (madeCells (Value.string ⟨#[]⟩).cells (q * 1)).toList = List.replicate q (sv []) := by
  unfold madeCells
  apply List.ext_getElem?
  intro i
  by_cases h : i < q
  · simp [h, Value.cells, Nat.mod_one, sv, bs]
  · simp [h]
end Go.Proofs.YtkggmckfdkpldaaDoor
