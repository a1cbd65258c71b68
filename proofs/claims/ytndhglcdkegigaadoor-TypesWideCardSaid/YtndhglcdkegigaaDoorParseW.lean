/-
  The walk of types.Parse.
  Conditions: the text is at most 20000 bytes long.
-/
import Derived.Test.YtndhglcdkegigaaDoorRead
namespace Go.Proofs.YtndhglcdkegigaaDoor
open Go.RowKit

def ParsedYes (t : Ty) (w : World) (e : Ending) (w' : World) : Prop := ∃ u v, e = .returned (.tuple #[.agg #[u, v], .bool true]) ∧ TyIs w' (Fr w.heap.size w'.heap.size) t u v ∧ Below w.heap.size w w'
def ParsedNo (w : World) (e : Ending) (w' : World) : Prop := e = .returned (.tuple #[.agg #[sv [], .slice none 0 0], .bool false]) ∧ Below w.heap.size w w'
def ParsedRes (r : Option Ty) (w : World) (e : Ending) (w' : World) : Prop :=
  match r with
  | some t => ParsedYes t w e w'
  | none => ParsedNo w e w'

set_option maxHeartbeats 4000000 in
set_option maxRecDepth 100000 in
theorem parse_any (s : List UInt8) (w : World) (hs : s.length ≤ 20000) : Calls Tryd.prog 14 #[.string (bs s)] w (ParsedRes (parse s) w) := by
  have h2 := alloc2 w (.cells #[.string ⟨#[]⟩, .slice none 0 0] 30) (.cells #[sv s, .int .i64 20000] 61)
  have hR : RdAt (w.heap.size + 1) s 20000 ((w.alloc (.cells #[.string ⟨#[]⟩, .slice none 0 0] 30)).alloc (.cells #[sv s, .int .i64 20000] 61)) := h2.2
  have hb2 : Below w.heap.size w ((w.alloc (.cells #[.string ⟨#[]⟩, .slice none 0 0] 30)).alloc (.cells #[sv s, .int .i64 20000] 61)) := ((Below.refl _ _).alloc (Nat.le_refl _) _).alloc (by simp) _
  have hkd := kind_any (w.heap.size + 1) (2 * s.length + 1) s 20000 _ hR (by omega) (by omega) (by omega) (Nat.le_refl _)
  have HKD := Lib.hid hkd
  have HB2 := Lib.hid hb2
  have HZ2 := Lib.hid h2.1
  clear hR hb2 h2 hkd
  go_enter Tryd.func14, Tryd.ntmps14
  go_wp2_with fail
  refine HKD.out.mono ?_
  intro e w3 hk
  have hbel : ∀ w3, Kp (fun y => y = w.heap.size + 1) ((w.alloc (.cells #[.string ⟨#[]⟩, .slice none 0 0] 30)).alloc (.cells #[sv s, .int .i64 20000] 61)) w3 → Below w.heap.size w w3 := fun w3 hK => HB2.out.trans ⟨hK.os, hK.tape, hK.output, hK.size, fun x hx => hK.block x (by simp; omega) (by omega)⟩
  rcases hr : rd (2 * s.length + 1) s with _ | ⟨t, rest⟩
  · rw [hr] at hk
    obtain ⟨x, a, rfl, hK⟩ := hk
    have hres : parse s = none := by rw [parse, hr]
    have hZ3 := hK.heap HZ2.out (by omega)
    have hz3 := lt_of_heap hZ3
    have z0 : w3.cell? ⟨w.heap.size, 0, none⟩ = some (.string ⟨#[]⟩) := (Lib.cell_of_heap hZ3 _).trans rfl
    have z1 : w3.cell? ⟨w.heap.size, 1, none⟩ = some (.slice none 0 0) := (Lib.cell_of_heap hZ3 _).trans rfl
    have y0 : w3.frozen? ⟨w.heap.size, 0, none⟩ = false := Lib.frozen_of_heap hZ3 0
    have y1 : w3.frozen? ⟨w.heap.size, 1, none⟩ = false := Lib.frozen_of_heap hZ3 1
    have C0 : Hid (∀ x y : Value, ((w3.setCell ⟨w.heap.size, 0, none⟩ x).setCell ⟨w.heap.size, 1, none⟩ y).cell? ⟨w.heap.size, 0, none⟩ = some x) := Lib.hid fun x y => (Lib.cell_of_heap (setCell_heap (setCell_heap hZ3)) _).trans rfl
    have C1 : Hid (∀ x y : Value, ((w3.setCell ⟨w.heap.size, 0, none⟩ x).setCell ⟨w.heap.size, 1, none⟩ y).cell? ⟨w.heap.size, 1, none⟩ = some y) := Lib.hid fun x y => (Lib.cell_of_heap (setCell_heap (setCell_heap hZ3)) _).trans rfl
    have HRES := Lib.hid hres
    have HB3 := Lib.hid (hbel w3 hK)
    clear hres hr hbel hK hZ3
    go_wp2
    refine bodyPost_ret (v := .tuple #[.agg #[.string ⟨#[]⟩, .slice none 0 0], .bool false]) (by simp [results, Tryd.results14, go_sem, C0.out, C1.out, hz3]) rfl ?_
    rw [HRES.out]
    exact ⟨rfl, ((HB3.out.setCell (by simp) _).setCell (by simp) _).alloc (by simp; omega) _⟩
  · rw [hr] at hk
    obtain ⟨u, v, lf, rfl, hT, hR3, hlf, hlf2, hK⟩ := hk
    obtain ⟨un, va, rfl, rfl⟩ := hT.shape
    have hZ3 := hK.heap HZ2.out (by omega)
    have hz3 := lt_of_heap hZ3
    have hr3 := lt_of_heap hR3
    have z0 : w3.cell? ⟨w.heap.size, 0, none⟩ = some (.string ⟨#[]⟩) := (Lib.cell_of_heap hZ3 _).trans rfl
    have z1 : w3.cell? ⟨w.heap.size, 1, none⟩ = some (.slice none 0 0) := (Lib.cell_of_heap hZ3 _).trans rfl
    have y0 : w3.frozen? ⟨w.heap.size, 0, none⟩ = false := Lib.frozen_of_heap hZ3 0
    have y1 : w3.frozen? ⟨w.heap.size, 1, none⟩ = false := Lib.frozen_of_heap hZ3 1
    have r0 : w3.cell? ⟨w.heap.size + 1, 0, none⟩ = some (sv rest) := (Lib.cell_of_heap hR3 _).trans rfl
    have C0 : Hid (∀ x y : Value, ((w3.setCell ⟨w.heap.size, 0, none⟩ x).setCell ⟨w.heap.size, 1, none⟩ y).cell? ⟨w.heap.size, 0, none⟩ = some x) := Lib.hid fun x y => (Lib.cell_of_heap (setCell_heap (setCell_heap hZ3)) _).trans rfl
    have C1 : Hid (∀ x y : Value, ((w3.setCell ⟨w.heap.size, 0, none⟩ x).setCell ⟨w.heap.size, 1, none⟩ y).cell? ⟨w.heap.size, 1, none⟩ = some y) := Lib.hid fun x y => (Lib.cell_of_heap (setCell_heap (setCell_heap hZ3)) _).trans rfl
    have HB3 := Lib.hid (hbel w3 hK)
    have HT := Lib.hid hT
    cases rest with
    | nil =>
      have hres : parse s = some t := by rw [parse, hr]
      have he : (bs []).toList.isEmpty = true := by rw [Lib.toList_data, bs_data]; rfl
      have hne : ((bs []).toList != []) = false := by rw [Lib.toList_data, bs_data]; rfl
      have HRES := Lib.hid hres
      clear hres hr hbel hK hZ3 hT hR3
      go_wp2
      refine bodyPost_ret (v := .tuple #[.agg #[sv un, .slice va.1 va.2.1 va.2.2], .bool true]) (by simp [results, Tryd.results14, go_sem, C0.out, C1.out, hz3]) rfl ?_
      rw [HRES.out]
      refine ⟨_, _, rfl, ?_, ((HB3.out.setCell (by simp) _).setCell (by simp) _).alloc (by simp; omega) _⟩
      refine ((HT.out.keep ?_)).more fun x hx => ⟨by have := hx.1; simp at this; omega, by have := hx.2; simp; omega⟩
      exact Kept.trans (Kept.trans (keptGrown (row := some w.heap.size) grownSet fun x hx => ⟨hx.2, fun e => by injection e; have := hx.1; simp at this; omega⟩) (keptGrown (row := some w.heap.size) grownSet fun x hx => ⟨by rw [sizeSet]; exact hx.2, fun e => by injection e; have := hx.1; simp at this; omega⟩)) (keptGrown (World.grownBy_alloc _ _ none) fun x hx => ⟨by rw [sizeSet, sizeSet]; exact hx.2, by simp⟩)
    | cons c r =>
      have hres : parse s = none := by rw [parse, hr]
      have he := cons_full c r
      have hne : ((bs (c :: r)).toList != []) = true := by rw [Lib.toList_data, bs_data]; rfl
      have HRES := Lib.hid hres
      clear hres hr hbel hK hZ3 hT hR3
      go_wp2
      refine bodyPost_ret (v := .tuple #[.agg #[.string ⟨#[]⟩, .slice none 0 0], .bool false]) (by simp [results, Tryd.results14, go_sem, C0.out, C1.out, hz3]) rfl ?_
      rw [HRES.out]
      exact ⟨rfl, ((HB3.out.setCell (by simp) _).setCell (by simp) _).alloc (by simp; omega) _⟩
end Go.Proofs.YtndhglcdkegigaaDoor
