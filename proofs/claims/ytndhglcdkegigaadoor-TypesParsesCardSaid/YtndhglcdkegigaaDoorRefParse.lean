/-
  The walk of recompileref09.Parse.
  Conditions: the text is at most 20000 bytes long.
-/
import Derived.Test.YtndhglcdkegigaaDoorRefSize
import Derived.Test.YtndhglcdkegigaaDoorRefRead
import Derived.Test.YtndhglcdkegigaaDoorParseW
namespace Go.Proofs.YtndhglcdkegigaaDoor
open Go.RowKit

set_option maxHeartbeats 4000000 in
set_option maxRecDepth 100000 in
theorem refParse_any (s : List UInt8) (w : World) (hs : s.length ≤ 20000) : Calls Tryd.prog 15 #[.string (bs s)] w (ParsedRes (parse s) w) := by
  have hZ := alloc1 w (.cells #[.string ⟨#[]⟩, .slice none 0 0] 30)
  have hba : Below w.heap.size w (w.alloc (.cells #[.string ⟨#[]⟩, .slice none 0 0] 30)) := (Below.refl _ _).alloc (Nat.le_refl _) _
  have hrd := read_any s (by omega) (2 * s.length + 1) 0 0 (w.alloc (.cells #[.string ⟨#[]⟩, .slice none 0 0] 30)) rfl (Nat.zero_le _) (by omega)
  rw [List.drop_zero] at hrd
  have hss : (w.alloc (.cells #[.string ⟨#[]⟩, .slice none 0 0] 30)).heap.size = w.heap.size + 1 := by simp
  have HRD := Lib.hid hrd
  clear hrd
  rcases hr : rd (2 * s.length + 1) s with _ | ⟨t, rest⟩
  · have hres : parse s = none := by rw [parse, hr]
    have HRES := Lib.hid hres
    have HR := Lib.hid hr
    clear hres hr
    go_enter Tryd.func15, Tryd.ntmps15
    go_wp2_with fail
    refine HRD.out.mono ?_
    rw [HR.out]
    rintro e w3 ⟨x, a, rfl, hb⟩
    have hZ3 := (hb.block _ (by omega)).trans hZ
    have HB3 := Lib.hid (hba.trans (hb.mono (by omega)))
    have hz3 := lt_of_heap hZ3
    have y0 : w3.frozen? ⟨w.heap.size, 0, none⟩ = false := Lib.frozen_of_heap hZ3 0
    have z0 : w3.cell? ⟨w.heap.size, 0, none⟩ = some (.string ⟨#[]⟩) := (Lib.cell_of_heap hZ3 _).trans rfl
    have y1 : w3.frozen? ⟨w.heap.size, 1, none⟩ = false := Lib.frozen_of_heap hZ3 1
    have z1 : w3.cell? ⟨w.heap.size, 1, none⟩ = some (.slice none 0 0) := (Lib.cell_of_heap hZ3 _).trans rfl
    have C0 : Hid (∀ x y : Value, ((w3.setCell ⟨w.heap.size, 0, none⟩ x).setCell ⟨w.heap.size, 1, none⟩ y).cell? ⟨w.heap.size, 0, none⟩ = some x) := Lib.hid fun x y => (Lib.cell_of_heap (setCell_heap (setCell_heap hZ3)) _).trans rfl
    have C1 : Hid (∀ x y : Value, ((w3.setCell ⟨w.heap.size, 0, none⟩ x).setCell ⟨w.heap.size, 1, none⟩ y).cell? ⟨w.heap.size, 1, none⟩ = some y) := Lib.hid fun x y => (Lib.cell_of_heap (setCell_heap (setCell_heap hZ3)) _).trans rfl
    clear hb hba hZ hZ3 hss
    go_wp2
    refine bodyPost_ret (v := .tuple #[.agg #[sv [], .slice none 0 0], .bool false]) (by simp [results, Tryd.results15, go_sem, C0.out, C1.out, hz3]; rfl) rfl ?_
    rw [HRES.out]
    exact ⟨rfl, ((HB3.out.setCell (by simp) _).setCell (by simp) _).alloc (by simp; omega) _⟩
  · have hl := (rd_len _).1 _ _ _ hr
    go_enter Tryd.func15, Tryd.ntmps15
    go_wp2_with fail
    refine HRD.out.mono ?_
    rw [hr]
    rintro e w3 ⟨u, v, nx, rfl, hnx, hdr, hT, hb⟩
    obtain ⟨un, va, rfl, rfl⟩ := hT.shape
    have hbw := bs_size s
    have hZ3 := (hb.block _ (by omega)).trans hZ
    have HB3 := Lib.hid (hba.trans (hb.mono (by omega)))
    have HT := Lib.hid hT
    have hz3 := lt_of_heap hZ3
    have y0 : w3.frozen? ⟨w.heap.size, 0, none⟩ = false := Lib.frozen_of_heap hZ3 0
    have z0 : w3.cell? ⟨w.heap.size, 0, none⟩ = some (.string ⟨#[]⟩) := (Lib.cell_of_heap hZ3 _).trans rfl
    have y1 : w3.frozen? ⟨w.heap.size, 1, none⟩ = false := Lib.frozen_of_heap hZ3 1
    have z1 : w3.cell? ⟨w.heap.size, 1, none⟩ = some (.slice none 0 0) := (Lib.cell_of_heap hZ3 _).trans rfl
    have C0 : Hid (∀ x y : Value, ((w3.setCell ⟨w.heap.size, 0, none⟩ x).setCell ⟨w.heap.size, 1, none⟩ y).cell? ⟨w.heap.size, 0, none⟩ = some x) := Lib.hid fun x y => (Lib.cell_of_heap (setCell_heap (setCell_heap hZ3)) _).trans rfl
    have C1 : Hid (∀ x y : Value, ((w3.setCell ⟨w.heap.size, 0, none⟩ x).setCell ⟨w.heap.size, 1, none⟩ y).cell? ⟨w.heap.size, 1, none⟩ = some y) := Lib.hid fun x y => (Lib.cell_of_heap (setCell_heap (setCell_heap hZ3)) _).trans rfl
    cases rest with
    | cons c r' =>
      have hres : parse s = none := by rw [parse, hr]
      have hne : ((nx : Int) != ((bs s).size : Int)) = true := by
        have := congrArg List.length hdr
        simp only [List.length_drop, List.length_cons] at this
        rw [bs_size]
        simp
        omega
      have HRES := Lib.hid hres
      clear hres hr hb hba hZ hZ3 hss hbw hT hdr hnx hl
      go_wp2
      refine bodyPost_ret (v := .tuple #[.agg #[sv [], .slice none 0 0], .bool false]) (by simp [results, Tryd.results15, go_sem, C0.out, C1.out, hz3]; rfl) rfl ?_
      rw [HRES.out]
      exact ⟨rfl, ((HB3.out.setCell (by simp) _).setCell (by simp) _).alloc (by simp; omega) _⟩
    | nil =>
      have hres : parse s = some t := by rw [parse, hr]
      have hnx2 : nx = s.length := by
        have := congrArg List.length hdr
        simp only [List.length_drop, List.length_nil] at this
        omega
      have hne : ((nx : Int) != ((bs s).size : Int)) = false := by
        rw [bs_size, hnx2]
        simp
      have hsz : t.size ≤ 20000 := by simp at hl; omega
      have hgt : decide ((t.size : Int) > 20000) = false := by simp; omega
      have HRES := Lib.hid hres
      have HSZ := Lib.hid hsz
      have hs3 := hb.size
      clear hres hr hb hba hZ hbw hT hdr hnx hl hnx2 hsz
      go_wp2_with fail
      have hba3 : Below w3.heap.size w3 (w3.alloc (.cells #[sv un, .slice va.1 va.2.1 va.2.2] 30)) := (Below.refl _ _).alloc (Nat.le_refl _) _
      have hT3 := (HT.out.more (S' := Lt w3.heap.size) fun y hy => hy.2).now (Nat.le_refl _) hba3
      refine (refSize_any t _ _ _ hT3 (by have := HSZ.out; omega)).mono ?_
      rintro e w4 ⟨rfl, hb4⟩
      have hX4 := (hb4.block _ (by simp)).trans (alloc1 w3 (.cells #[sv un, .slice va.1 va.2.1 va.2.2] 30))
      have hb34 : Below w3.heap.size w3 w4 := hba3.trans (hb4.mono hba3.size)
      have hZ4 := (hb34.block _ hz3).trans hZ3
      have HB4 := Lib.hid hb34
      have HX4 := Lib.hid hX4
      clear y0 y1 z0 z1 C0 C1 hT3 hb4 hb34 hba3 hZ3
      have hZ3 := hZ4
      have x0 : w4.cell? ⟨w3.heap.size, 0, none⟩ = some (sv un) := (Lib.cell_of_heap HX4.out _).trans rfl
      have x1 : w4.cell? ⟨w3.heap.size, 1, none⟩ = some (.slice va.1 va.2.1 va.2.2) := (Lib.cell_of_heap HX4.out _).trans rfl
      have hx4 := lt_of_heap hX4
      clear hX4
      have hzz := hz3
      clear hz3
      have hz3 := lt_of_heap hZ3
      have y0 : w4.frozen? ⟨w.heap.size, 0, none⟩ = false := Lib.frozen_of_heap hZ3 0
      have z0 : w4.cell? ⟨w.heap.size, 0, none⟩ = some (.string ⟨#[]⟩) := (Lib.cell_of_heap hZ3 _).trans rfl
      have y1 : w4.frozen? ⟨w.heap.size, 1, none⟩ = false := Lib.frozen_of_heap hZ3 1
      have z1 : w4.cell? ⟨w.heap.size, 1, none⟩ = some (.slice none 0 0) := (Lib.cell_of_heap hZ3 _).trans rfl
      have C0 : Hid (∀ x y : Value, ((w4.setCell ⟨w.heap.size, 0, none⟩ x).setCell ⟨w.heap.size, 1, none⟩ y).cell? ⟨w.heap.size, 0, none⟩ = some x) := Lib.hid fun x y => (Lib.cell_of_heap (setCell_heap (setCell_heap hZ3)) _).trans rfl
      have C1 : Hid (∀ x y : Value, ((w4.setCell ⟨w.heap.size, 0, none⟩ x).setCell ⟨w.heap.size, 1, none⟩ y).cell? ⟨w.heap.size, 1, none⟩ = some y) := Lib.hid fun x y => (Lib.cell_of_heap (setCell_heap (setCell_heap hZ3)) _).trans rfl
      clear hZ3
      go_wp2
      refine bodyPost_ret (v := .tuple #[.agg #[sv un, .slice va.1 va.2.1 va.2.2], .bool true]) (by simp [results, Tryd.results15, go_sem, C0.out, C1.out]) rfl ?_
      rw [HRES.out]
      have hb := HB3.out.trans (HB4.out.mono (by omega))
      refine ⟨_, _, rfl, ?_, (hb.setCell (by simp) _).setCell (by simp) _⟩
      refine (((HT.out.keep ((kept_below HB4.out).sub fun y hy => hy.2)).keep ?_)).more fun x hx => ⟨by have := hx.1; simp at this; omega, by have := hx.2; have := HB4.out.size; simp; omega⟩
      exact Kept.trans (keptGrown (row := some w.heap.size) grownSet fun x hx => ⟨Nat.lt_of_lt_of_le hx.2 HB4.out.size, fun e => by injection e; have := hx.1; simp at this; omega⟩) (keptGrown (row := some w.heap.size) grownSet fun x hx => ⟨by rw [sizeSet]; exact Nat.lt_of_lt_of_le hx.2 HB4.out.size, fun e => by injection e; have := hx.1; simp at this; omega⟩)
end Go.Proofs.YtndhglcdkegigaaDoor
