/-
  Values that hold while dice are thrown: a type, types, a slice of two strings, a cell for a type.
  Conditions: those of each theorem.
-/
import Derived.Test.YtndhglcdkegigaaDoorDType
import Derived.Test.YtndhglcdkegigaaDoorRefPut
import Derived.Test.YtndhglcdkegigaaDoorPutN
import Derived.Test.YtndhglcdkegigaaDoorFree
namespace Go.Proofs.YtndhglcdkegigaaDoor
open Go.RowKit

/-- The blocks but for two: that of the dice, and that of a variable. -/
def Off (dd e : Nat) (w : World) (y : Nat) : Prop := y < w.heap.size ∧ y ≠ dd ∧ y ≠ e
def TyV (dd e : Nat) (t : Ty) (v : Value) (w : World) : Prop := ∃ (n : List UInt8) (s : Option Addr × Nat × Nat), v = .agg #[sv n, .slice s.1 s.2.1 s.2.2] ∧ TyIs w (Off dd e w) t (sv n) (.slice s.1 s.2.1 s.2.2)
def TysV (dd e : Nat) (ts : List Ty) (v : Value) (w : World) : Prop := ∃ b vs, v = .slice (some ⟨b, 0, none⟩) 2 2 ∧ Tys w (Off dd e w) (some ⟨b, 0, none⟩) ts vs
def StrV (dd e : Nat) (v : Value) (w : World) : Prop := ∃ b, v = .slice (some ⟨b, 0, none⟩) 2 2 ∧ b ≠ dd ∧ b ≠ e ∧ w.heap[b]? = some (.cells #[.string ⟨#[84]⟩, .string ⟨#[85]⟩] 9 (0, 0))
def CellV (B dd b : Nat) (w : World) : Prop := b ≠ dd ∧ B ≤ b ∧ w.heap[b]? = some (.cells #[.string ⟨#[]⟩, .slice none 0 0] 30 (0, 0))
theorem kept_off {dd e : Nat} {w w' : World} (hk : Kp (fun y => y = dd) w w') : Kept (Off dd e w) w w' := hk.kept fun _ hb => ⟨hb.1, hb.2.1⟩
theorem off_more {dd e : Nat} {w w' : World} (hk : Kp (fun y => y = dd) w w') : ∀ b, Off dd e w b → Off dd e w' b := fun _ hb => ⟨Nat.lt_of_lt_of_le hb.1 hk.size, hb.2⟩
theorem TyV.keep {dd e : Nat} {t : Ty} {v : Value} {w w' : World} (h : TyV dd e t v w) (hk : Kp (fun y => y = dd) w w') : TyV dd e t v w' := by
  obtain ⟨n, s, rfl, h⟩ := h
  exact ⟨n, s, rfl, (h.keep (kept_off hk)).more (off_more hk)⟩
theorem TysV.keep {dd e : Nat} {ts : List Ty} {v : Value} {w w' : World} (h : TysV dd e ts v w) (hk : Kp (fun y => y = dd) w w') : TysV dd e ts v w' := by
  obtain ⟨b, vs, rfl, h⟩ := h
  exact ⟨b, vs, rfl, (h.keep (kept_off hk)).more (off_more hk)⟩
theorem StrV.keep {dd e : Nat} {v : Value} {w w' : World} (h : StrV dd e v w) (hk : Kp (fun y => y = dd) w w') : StrV dd e v w' := by
  obtain ⟨b, rfl, hb, he, h⟩ := h
  exact ⟨b, rfl, hb, he, hk.heap h hb⟩
theorem CellV.keep {B dd b : Nat} {w w' : World} (h : CellV B dd b w) (hk : Kp (fun y => y = dd) w w') : CellV B dd b w' := ⟨h.1, h.2.1, hk.heap h.2.2 h.1⟩
theorem kp_alloc {dd : Nat} {w : World} (o : Obj) : Kp (fun y => y = dd) w (w.alloc o) := (Kp.refl _ w).alloc o
theorem off_cell {dd : Nat} {w : World} (o : Obj) : ∀ y, Off dd dd w y → Off dd w.heap.size (w.alloc o) y := fun y hy => ⟨by have := hy.1; simp; omega, hy.2.1, by have := hy.1; omega⟩
/-- A variable comes. -/
theorem TyV.cell {dd : Nat} {t : Ty} {v : Value} {w : World} (o : Obj) (h : TyV dd dd t v w) : TyV dd w.heap.size t v (w.alloc o) := by
  obtain ⟨n, s, rfl, h⟩ := h
  exact ⟨n, s, rfl, (h.keep (kept_off (kp_alloc o))).more (off_cell o)⟩
theorem TysV.cell {dd : Nat} {ts : List Ty} {v : Value} {w : World} (o : Obj) (h : TysV dd dd ts v w) : TysV dd w.heap.size ts v (w.alloc o) := by
  obtain ⟨b, vs, rfl, h⟩ := h
  exact ⟨b, vs, rfl, (h.keep (kept_off (kp_alloc o))).more (off_cell o)⟩
theorem StrV.cell {dd : Nat} {v : Value} {w : World} (o : Obj) (h : StrV dd dd v w) : StrV dd w.heap.size v (w.alloc o) := by
  obtain ⟨b, rfl, hb, he, h⟩ := h
  exact ⟨b, rfl, hb, by have := lt_of_heap h; omega, (kp_alloc o).heap h hb⟩
theorem TyV.made {dd e d : Nat} {xs : List Int} {w w' : World} {en : Ending} (hdd : dd < w.heap.size) (he : e < w.heap.size) (h : DTyRes d dd xs w en w') : ∃ t v, en = .returned v ∧ DTy d t ∧ TyV dd e t v w' ∧ DiceAt w' dd xs ∧ Kp (fun y => y = dd) w w' := by
  obtain ⟨t, u, v, rfl, hd, hT, hD, hK⟩ := h
  obtain ⟨u, v, rfl, rfl⟩ := hT.shape
  exact ⟨t, _, rfl, hd, ⟨u, v, rfl, hT.more fun y hy => ⟨hy.2, by have := hy.1; omega, by have := hy.1; omega⟩⟩, hD, hK⟩
theorem TysV.two {dd e : Nat} {t1 t2 : Ty} {n1 n2 : List UInt8} {s1 s2 : Option Addr × Nat × Nat} {w : World} (hdd : dd < w.heap.size) (he : e < w.heap.size) (h1 : TyIs w (Off dd e w) t1 (sv n1) (.slice s1.1 s1.2.1 s1.2.2)) (h2 : TyIs w (Off dd e w) t2 (sv n2) (.slice s2.1 s2.2.1 s2.2.2)) :
    TysV dd e [t1, t2] (.slice (some ⟨w.heap.size, 0, none⟩) 2 2) (w.alloc (.cells #[sv n1, .slice s1.1 s1.2.1 s1.2.2, sv n2, .slice s2.1 s2.2.1 s2.2.2] 30)) := by
  have hk : Kp (fun y => y = dd) w (w.alloc (.cells #[sv n1, .slice s1.1 s1.2.1 s1.2.2, sv n2, .slice s2.1 s2.2.1 s2.2.2] 30)) := kp_alloc _
  refine ⟨w.heap.size, [(sv n1, .slice s1.1 s1.2.1 s1.2.2), (sv n2, .slice s2.1 s2.2.1 s2.2.2)], rfl, rfl, row_cells (alloc1 w _) rfl ⟨by simp, by omega, by omega⟩, fun i t p ht hp => ?_⟩
  match i, ht, hp with
  | 0, ht, hp =>
    obtain rfl := Option.some.inj ht
    obtain rfl := Option.some.inj hp
    exact (h1.keep (kept_off hk)).more (off_more hk)
  | 1, ht, hp =>
    obtain rfl := Option.some.inj ht
    obtain rfl := Option.some.inj hp
    exact (h2.keep (kept_off hk)).more (off_more hk)
  | k + 2, ht, hp => simp at ht
end Go.Proofs.YtndhglcdkegigaaDoor
