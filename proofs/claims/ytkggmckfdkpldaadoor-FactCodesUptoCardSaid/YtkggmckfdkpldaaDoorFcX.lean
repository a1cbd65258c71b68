/-
  Plain facts on the strings of facts: which lists a pack holds, numbers, operations and code. No program is in sight.
  Conditions: ints lie in the range of an int64.
-/
import Derived.Test.YtkggmckfdkpldaaDoorFcP
namespace Go.Proofs.YtkggmckfdkpldaaDoor

open Classical in
/-- The strings of a pack. -/
noncomputable def unpk (s : List UInt8) : List (List UInt8) × Bool := if h : ∃ L, s = pack L then (h.choose, true) else ([], false)
theorem unpk_pack (L : List (List UInt8)) : unpk (pack L) = (L, true) := by
  unfold unpk
  have h : ∃ L', pack L = pack L' := ⟨L, rfl⟩
  rw [dif_pos h]
  exact Prod.ext (pack_inj _ _ h.choose_spec).symm rfl
theorem unpk_no {s : List UInt8} (h : ∀ L, s ≠ pack L) : unpk s = ([], false) := by
  unfold unpk
  rw [dif_neg fun ⟨L, e⟩ => h L e]
theorem unpk_cases (s : List UInt8) : (∃ L, s = pack L ∧ unpk s = (L, true)) ∨ ((∀ L, s ≠ pack L) ∧ unpk s = ([], false)) := by
  by_cases h : ∃ L, s = pack L
  · obtain ⟨L, rfl⟩ := h
    exact .inl ⟨L, rfl, unpk_pack L⟩
  · exact .inr ⟨fun L e => h ⟨L, e⟩, unpk_no fun L e => h ⟨L, e⟩⟩
/-- A list of things is read out of a pack. -/
noncomputable def rdList {α : Type} (f : List UInt8 → α × Bool) (s : List UInt8) : List α × Bool :=
  if (unpk s).2 = true ∧ ∀ x ∈ (unpk s).1, (f x).2 = true then ((unpk s).1.map fun x => (f x).1, true) else ([], false)
theorem rdList_yes {α : Type} {f : List UInt8 → α × Bool} {L : List (List UInt8)} (h : ∀ x ∈ L, (f x).2 = true) : rdList f (pack L) = (L.map fun x => (f x).1, true) := by
  unfold rdList
  rw [unpk_pack, if_pos ⟨rfl, h⟩]
theorem rdList_bad {α : Type} {f : List UInt8 → α × Bool} {s : List UInt8} (h : ∀ L, s ≠ pack L) : rdList f s = ([], false) := by
  unfold rdList
  rw [unpk_no h, if_neg (by simp)]
theorem rdList_no {α : Type} {f : List UInt8 → α × Bool} {L : List (List UInt8)} {x : List UInt8} (hx : x ∈ L) (h : (f x).2 = false) : rdList f (pack L) = ([], false) := by
  unfold rdList
  rw [unpk_pack, if_neg fun e => by have := e.2 x hx; rw [h] at this; cases this]
/-- What was written is read again. -/
theorem rdList_map {α : Type} {f : List UInt8 → α × Bool} {g : α → List UInt8} {l : List α} (h : ∀ x ∈ l, f (g x) = (x, true)) : rdList f (pack (l.map g)) = (l, true) := by
  rw [rdList_yes fun x hx => by obtain ⟨y, hy, rfl⟩ := List.mem_map.1 hx; rw [h y hy]]
  rw [List.map_map]
  congr 1
  exact (List.map_congr_left fun y hy => by simp [h y hy]).trans (List.map_id _)
def I64f (n : Int) : Prop := -9223372036854775808 ≤ n ∧ n ≤ 9223372036854775807

/-- An operation. -/
structure OpF where
  kind : Int
  a : Int
  b : Int
  c : Int
  list : List Int
  sym : List UInt8
def OpF.zero : OpF := ⟨0, 0, 0, 0, [], []⟩
def OpF.fits (o : OpF) : Prop := I64f o.kind ∧ I64f o.a ∧ I64f o.b ∧ I64f o.c ∧ ∀ x ∈ o.list, I64f x
/-- A code. -/
structure CdF where
  params : Int
  regs : Int
  ops : List OpF
def CdF.zero : CdF := ⟨0, 0, []⟩
def CdF.fits (c : CdF) : Prop := I64f c.params ∧ I64f c.regs ∧ ∀ o ∈ c.ops, o.fits
def numsS (l : List Int) : List UInt8 := pack (l.map Lib.itoa)
def opS (o : OpF) : List UInt8 := pack [Lib.itoa o.kind, Lib.itoa o.a, Lib.itoa o.b, Lib.itoa o.c, numsS o.list, o.sym]
def cdS (c : CdF) : List UInt8 := pack [Lib.itoa c.params, Lib.itoa c.regs, pack (c.ops.map opS)]
noncomputable def opR (s : List UInt8) : OpF × Bool :=
  match unpk s with
  | ([k, a, b, c, l, y], true) => if (numv k).2 = true ∧ (numv a).2 = true ∧ (numv b).2 = true ∧ (numv c).2 = true ∧ (rdList numv l).2 = true then (⟨(numv k).1, (numv a).1, (numv b).1, (numv c).1, (rdList numv l).1, y⟩, true) else (OpF.zero, false)
  | _ => (OpF.zero, false)
noncomputable def cdR (s : List UInt8) : CdF × Bool :=
  match unpk s with
  | ([p, r, o], true) => if (numv p).2 = true ∧ (numv r).2 = true ∧ (rdList opR o).2 = true then (⟨(numv p).1, (numv r).1, (rdList opR o).1⟩, true) else (CdF.zero, false)
  | _ => (CdF.zero, false)
theorem numv_fit {n : Int} (h : I64f n) : numv (Lib.itoa n) = (n, true) := numv_itoa n h.1 h.2
theorem nums_back {l : List Int} (h : ∀ x ∈ l, I64f x) : rdList numv (numsS l) = (l, true) := rdList_map fun x hx => numv_fit (h x hx)
theorem op_back {o : OpF} (h : o.fits) : opR (opS o) = (o, true) := by
  obtain ⟨h1, h2, h3, h4, h5⟩ := h
  unfold opR opS
  rw [unpk_pack]
  simp only [numv_fit h1, numv_fit h2, numv_fit h3, numv_fit h4, nums_back h5, and_self, if_true]
theorem cd_back {c : CdF} (h : c.fits) : cdR (cdS c) = (c, true) := by
  obtain ⟨h1, h2, h3⟩ := h
  unfold cdR cdS
  rw [unpk_pack]
  simp only [numv_fit h1, numv_fit h2, rdList_map fun o ho => op_back (h3 o ho), and_self, if_true]
theorem cd_inj {c d : CdF} (hc : c.fits) (hd : d.fits) (h : cdS c = cdS d) : c = d := by
  have h1 := cd_back hc
  rw [h, cd_back hd] at h1
  exact (Prod.mk.inj h1).1.symm
end Go.Proofs.YtkggmckfdkpldaaDoor
