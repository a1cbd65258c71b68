/-
  The walk of law40's awake.
  Conditions: none.
-/
import Derived.Test.YtlgdminpkkhejaaDtA
import Derived.Test.YtlgdminpkkhejaaDtL
namespace Go.Proofs.Ytlgdminpkkhejaa
open Go.RowKit

def awA : Msg := (10, 3, [120])
def awB : Msg := (14, 3, [120])
theorem awOf : ofM [awA] [awB] = ⟨[], [], [(10, 14, awB)]⟩ := by rfl
theorem awAp : applyM [awA] ⟨[], [], [(10, 14, awB)]⟩ = some [awB] := by rfl
theorem DlV.below {w w' : World} {v : Value} {d : Dl} (h : DlV w (Lt w.heap.size) v d) (hb : Below w.heap.size w w') : DlV w' (Lt w'.heap.size) v d := by
  obtain ⟨A1, A2, A3, c1, c2, c3, e, h1, h2, h3, h4, h5, r1, r2, r3⟩ := h
  exact ⟨A1, A2, A3, c1, c2, c3, e, h1, h2, h3, h4, h5, r1.below hb, r2.below hb, r3.below hb⟩
theorem DlV.more {w : World} {S S' : Nat → Prop} {v : Value} {d : Dl} (h : DlV w S v d) (hS : ∀ y, S y → S' y) : DlV w S' v d := by
  obtain ⟨A1, A2, A3, c1, c2, c3, e, h1, h2, h3, h4, h5, r1, r2, r3⟩ := h
  exact ⟨A1, A2, A3, c1, c2, c3, e, h1, h2, h3, h4, h5, r1.more hS, r2.more hS, r3.more hS⟩
abbrev awBox (m : Msg) : Obj := .cells #[.int .i64 m.1, .int .i64 m.2.1, sv m.2.2] 40
set_option maxHeartbeats 1600000 in
set_option maxRecDepth 100000 in
theorem awake_any (w : World) : Calls Try.prog 8 #[] w fun e w' => e = .returned (.bool true) ∧ Below w.heap.size w w' := by
  obtain ⟨w4, hw4⟩ : ∃ w4, w4 = (((w.alloc (.cells #[.int .i64 10, .int .i64 3, .string ⟨#[120]⟩] 40)).alloc (.cells #[.int .i64 14, .int .i64 3, .string ⟨#[120]⟩] 40)).alloc (.cells #[.int .i64 10, .int .i64 3, .string ⟨#[120]⟩] 40)).alloc (.cells #[.int .i64 14, .int .i64 3, .string ⟨#[120]⟩] 40) := ⟨_, rfl⟩
  have hb4 : Below w.heap.size w w4 := by
    rw [hw4]
    exact ((((Below.refl _ _).alloc (Nat.le_refl _) _).alloc (by simp) _).alloc (by simp; omega) _).alloc (by simp; omega) _
  have hs4 : w4.heap.size = w.heap.size + 4 := by rw [hw4]; simp
  have h2 := alloc2 w (.cells #[.int .i64 10, .int .i64 3, .string ⟨#[120]⟩] 40) (.cells #[.int .i64 14, .int .i64 3, .string ⟨#[120]⟩] 40)
  have h4 := alloc2 ((w.alloc (.cells #[.int .i64 10, .int .i64 3, .string ⟨#[120]⟩] 40)).alloc (.cells #[.int .i64 14, .int .i64 3, .string ⟨#[120]⟩] 40)) (.cells #[.int .i64 10, .int .i64 3, .string ⟨#[120]⟩] 40) (.cells #[.int .i64 14, .int .i64 3, .string ⟨#[120]⟩] 40)
  have e0 : w4.heap[w.heap.size]? = some (.cells #[.int .i64 10, .int .i64 3, .string ⟨#[120]⟩] 40 (0, 0)) := by
    rw [hw4, heap_alloc_old _ _ (by simp <;> omega), heap_alloc_old _ _ (by simp <;> omega)]
    exact h2.1
  have e1 : w4.heap[w.heap.size + 1]? = some (.cells #[.int .i64 14, .int .i64 3, .string ⟨#[120]⟩] 40 (0, 0)) := by
    rw [hw4, heap_alloc_old _ _ (by simp <;> omega), heap_alloc_old _ _ (by simp)]
    exact h2.2
  rw [← hw4] at h4
  have e2 : w4.heap[w.heap.size + 1 + 1]? = some (.cells #[.int .i64 10, .int .i64 3, .string ⟨#[120]⟩] 40 (0, 0)) := by have := h4.1; simpa using this
  have e3 : w4.heap[w.heap.size + 1 + 1 + 1]? = some (.cells #[.int .i64 14, .int .i64 3, .string ⟨#[120]⟩] 40 (0, 0)) := by have := h4.2; simpa using this
  have HOF := Lib.hid (dof_any [awA] [awB] (some ⟨w.heap.size + 1 + 1, 0, none⟩) (some ⟨w.heap.size + 1 + 1 + 1, 0, none⟩) 1 1 w4 (by decide) (by decide) (fun h => by cases h) (fun h => by cases h) (row_heap e2 rfl (lt_of_heap e2)) (row_heap e3 rfl (lt_of_heap e3)))
  have HE0 := Lib.hid e0
  have HE1 := Lib.hid e1
  have HB4 := Lib.hid hb4
  have HW4 := Lib.hid hw4
  have HS4 := Lib.hid hs4
  clear hb4 hs4 h2 h4 e0 e1 e2 e3 hw4
  go_enter Try.func8, Try.ntmps8
  go_wp2_with fail
  rw [← HW4.out]
  refine HOF.out.mono ?_
  rintro e w5 ⟨v, rfl, hD, hb5⟩
  rw [awOf] at hD
  have hD5 := hD.more (S' := Lt w5.heap.size) fun y hy => hy.2
  obtain ⟨A1, A2, A3, c1, c2, c3, rfl, _⟩ := id hD5
  obtain ⟨w6, hw6⟩ : ∃ w6, w6 = w5.alloc (.cells #[.slice A1 0 c1, .slice A2 0 c2, .slice A3 1 c3] 25) := ⟨_, rfl⟩
  have hb6 : Below w5.heap.size w5 w6 := by rw [hw6]; exact (Below.refl _ _).alloc (Nat.le_refl _) _
  have hs6 : w6.heap.size = w5.heap.size + 1 := by rw [hw6]; simp
  have hx6 : w6.heap[w5.heap.size]? = some (.cells #[.slice A1 0 c1, .slice A2 0 c2, .slice A3 1 c3] 25 (0, 0)) := by rw [hw6]; exact alloc1 _ _
  obtain ⟨w7, hw7⟩ : ∃ w7, w7 = w6.alloc (.cells #[.int .i64 10, .int .i64 3, .string ⟨#[120]⟩] 40) := ⟨_, rfl⟩
  have hb7 : Below w6.heap.size w6 w7 := by rw [hw7]; exact (Below.refl _ _).alloc (Nat.le_refl _) _
  have hx7 : w7.heap[w6.heap.size]? = some (.cells #[.int .i64 10, .int .i64 3, .string ⟨#[120]⟩] 40 (0, 0)) := by rw [hw7]; exact alloc1 _ _
  have hb57 := hb6.trans (hb7.mono hb6.size)
  have HAP := Lib.hid (apply_any [awA] ⟨[], [], [(10, 14, awB)]⟩ _ (some ⟨w6.heap.size, 0, none⟩) 1 w7 (by decide) (fun h => by cases h) (row_heap hx7 rfl (lt_of_heap hx7)) (hD5.below hb57) (by decide))
  have he0 := (hb5.block _ (lt_of_heap HE0.out)).trans HE0.out
  have he1 := (hb5.block _ (lt_of_heap HE1.out)).trans HE1.out
  have hl0 := lt_of_heap he0
  have hl1 := lt_of_heap he1
  have p0 : w5.cell? ⟨w.heap.size, 0, none⟩ = some (.int .i64 10) := (Lib.cell_of_heap he0 _).trans rfl
  have p1 : w5.cell? ⟨w.heap.size, 1, none⟩ = some (.int .i64 3) := (Lib.cell_of_heap he0 _).trans rfl
  have p2 : w5.cell? ⟨w.heap.size, 2, none⟩ = some (.string ⟨#[120]⟩) := (Lib.cell_of_heap he0 _).trans rfl
  rw [awAp, hs6] at HAP
  have HW7 := Lib.hid (hw7.trans (by rw [hw6]))
  have HX7 := Lib.hid ((hb7.block _ (lt_of_heap hx6)).trans hx6)
  have HE1 := Lib.hid ((hb57.block _ hl1).trans he1)
  have HB7 := Lib.hid (HB4.out.trans ((hb5.trans (hb57.mono hb5.size)).mono HB4.out.size))
  have HD7 := Lib.hid (hD5.below hb57)
  have hs57 := hb57.size
  clear hw7 hw6 hx6 hx7 hb6 hb7 hb57 hb5 he0 he1 hD hD5 hs6 HOF HE0 HB4
  go_wp2_with fail
  rw [← HW7.out]
  clear p0 p1 p2
  refine HAP.out.mono ?_
  rintro e w8 hap
  obtain ⟨v8, l8, hl8, rfl, hown8, hb8⟩ | ⟨hno, _⟩ := hap
  rotate_left
  · cases hno
  obtain rfl : [awB] = l8 := Option.some.inj hl8
  obtain ⟨LA, lc, rfl, _⟩ := own_slice hown8
  have hx8 := (hb8.block _ (lt_of_heap HX7.out)).trans HX7.out
  have he8 := (hb8.block _ (lt_of_heap HE1.out)).trans HE1.out
  have d0 : w8.cell? ⟨w5.heap.size, 0, none⟩ = some (.slice A1 0 c1) := (Lib.cell_of_heap hx8 _).trans rfl
  have d1 : w8.cell? ⟨w5.heap.size, 1, none⟩ = some (.slice A2 0 c2) := (Lib.cell_of_heap hx8 _).trans rfl
  have d2 : w8.cell? ⟨w5.heap.size, 2, none⟩ = some (.slice A3 1 c3) := (Lib.cell_of_heap hx8 _).trans rfl
  have p0 : w8.cell? ⟨w.heap.size + 1, 0, none⟩ = some (.int .i64 14) := (Lib.cell_of_heap he8 _).trans rfl
  have p1 : w8.cell? ⟨w.heap.size + 1, 1, none⟩ = some (.int .i64 3) := (Lib.cell_of_heap he8 _).trans rfl
  have p2 : w8.cell? ⟨w.heap.size + 1, 2, none⟩ = some (.string ⟨#[120]⟩) := (Lib.cell_of_heap he8 _).trans rfl
  obtain ⟨w9, hw9⟩ : ∃ w9, w9 = w8.alloc (.cells #[.int .i64 14, .int .i64 3, .string ⟨#[120]⟩] 40) := ⟨_, rfl⟩
  have hb9 : Below w8.heap.size w8 w9 := by rw [hw9]; exact (Below.refl _ _).alloc (Nat.le_refl _) _
  have hx9 : w9.heap[w8.heap.size]? = some (.cells #[.int .i64 14, .int .i64 3, .string ⟨#[120]⟩] 40 (0, 0)) := by rw [hw9]; exact alloc1 _ _
  have hown9 := (Kp.ofBelow (M := fun _ => False) hb9).own hown8 fun _ _ e => e
  have HSL := Lib.hid (sameList_any [awB] [awB] LA (some ⟨w8.heap.size, 0, none⟩) lc 1 w9 (by decide) (Row.ofOwn hown9 fun _ _ _ h => h) (row_heap hx9 rfl (lt_of_heap hx9)))
  have HX9 := Lib.hid ((hb9.block _ (lt_of_heap hx8)).trans hx8)
  have HB9 := Lib.hid (HB7.out.trans ((hb8.trans (hb9.mono hb8.size)).mono HB7.out.size))
  have HD9 := Lib.hid ((HD7.out.below hb8).below hb9)
  have HW9 := Lib.hid hw9
  clear hw9 hb9 hx9 hown9 hown8 hb8 hx8 he8 hl8 HAP HX7 HE1 HB7 HD7 HW7 hs57 hl0 hl1
  go_wp2_with fail
  rw [← HW9.out]
  clear p0 p1 p2 d0 d1 d2
  refine HSL.out.mono ?_
  rintro e w10 ⟨r, rfl, hr, hb10⟩
  obtain rfl : r = true := by simpa using hr
  have hx10 := (hb10.block _ (lt_of_heap HX9.out)).trans HX9.out
  have d0 : w10.cell? ⟨w5.heap.size, 0, none⟩ = some (.slice A1 0 c1) := (Lib.cell_of_heap hx10 _).trans rfl
  have d1 : w10.cell? ⟨w5.heap.size, 1, none⟩ = some (.slice A2 0 c2) := (Lib.cell_of_heap hx10 _).trans rfl
  have d2 : w10.cell? ⟨w5.heap.size, 2, none⟩ = some (.slice A3 1 c3) := (Lib.cell_of_heap hx10 _).trans rfl
  have HEM := Lib.hid (empty_any _ _ _ w10 (HD9.out.below hb10) (by decide))
  have HB10 := Lib.hid (HB9.out.trans (hb10.mono HB9.out.size))
  clear hr hb10 hx10 HSL HX9 HB9 HD9 HW9
  go_wp2_with fail
  refine HEM.out.mono ?_
  rintro e w11 ⟨rfl, hb11⟩
  have HB11 := Lib.hid (HB10.out.trans (hb11.mono HB10.out.size))
  have hd : decide (([] : List Msg).length + ([] : List Msg).length + [((10 : Int), (14 : Int), awB)].length = 0) = false := by decide
  clear hb11
  go_wp2
  go_ret
  exact ⟨rfl, HB11.out⟩
end Go.Proofs.Ytlgdminpkkhejaa
