/-
  The walk of recompilelaw05.awake.
  No condition.
-/
import Derived.Test.YtmnhgkhidepojaaIdI
namespace Go.Proofs.Ytmnhgkhidepojaa
open Go.RowKit

def aw1 : List It := [⟨[109], [97], [49]⟩, ⟨[109], [98], [50]⟩]
def aw2 : List It := [⟨[109], [97], [49]⟩, ⟨[110], [99], [50]⟩]
def ay1 : List Idn := [⟨1, ⟨[109], [97], [49]⟩⟩, ⟨2, ⟨[109], [98], [50]⟩⟩]
def ay2 : List Idn := [⟨1, ⟨[109], [97], [49]⟩⟩, ⟨2, ⟨[110], [99], [50]⟩⟩]
theorem aw_one : Upd 1 3 1 [] aw1 3 ay1 0 := by
  refine .inr (.inr ⟨⟨by decide, by decide, (fun y h => by cases h), .nil, .nil⟩, asc_of_pairs (by decide), by decide, by decide, ?_, by simp [ay1], rfl⟩)
  exact List.Perm.refl _
theorem chk_two : Chk 3 ay1 := by
  refine ⟨by decide, by decide, (fun y h => ?_), by simp [ay1], by simp [ay1, Idn.key, It.key]⟩
  simp only [ay1, List.mem_cons, List.not_mem_nil, or_false] at h
  rcases h with rfl | rfl <;> exact ⟨by decide, by decide⟩
theorem chk_three : Chk 3 ay2 := by
  refine ⟨by decide, by decide, (fun y h => ?_), by simp [ay2], by simp [ay2, Idn.key, It.key]⟩
  simp only [ay2, List.mem_cons, List.not_mem_nil, or_false] at h
  rcases h with rfl | rfl <;> exact ⟨by decide, by decide⟩
theorem aw_two : Upd 1 3 3 ay1 aw2 3 ay2 0 := by
  refine .inr (.inr ⟨chk_two, asc_of_pairs (by decide), by decide, by decide, ?_, by simp [ay2], rfl⟩)
  have : zipI (ids2 3 ay1 aw2) aw2 = ay2 := by rfl
  rw [this]
theorem aw_fnd : fnd ay2 ([110], [99]) = some 2 := by rfl
theorem aw_mvs : mvs ay1 ay2 = [⟨2, ⟨[110], [99], [50]⟩⟩] := by rfl

theorem row_of_block {w : World} {b j : Nat} {cs : Array Value} {T : TypeId} {fr : Nat × Nat} {u : Value} (h : w.heap[b]? = some (.cells cs T fr)) (hu : cs.toList[j]? = some u) : w.cell? (Addr.add ⟨b, 0, none⟩ j) = some u := by
  have e : Addr.add ⟨b, 0, none⟩ j = ⟨b, j, none⟩ := by unfold Addr.add; split <;> simp_all
  rw [e]
  have h1 := Lib.cell_of_heap h j
  rw [h1]
  simpa using hu

set_option maxHeartbeats 1600000 in
set_option maxRecDepth 100000 in
theorem awake_any (w : World) : Calls Try.prog 7 #[] w fun e w' => e = .returned (.bool true) ∧ Below w.heap.size w w' := by
  have hb1 : Below w.heap.size w (w.alloc (.cells #[sv [109], sv [97], sv [49], sv [109], sv [98], sv [50]] 37)) := (Below.refl _ _).alloc (Nat.le_refl _) _
  have ha1 := alloc1 w (.cells #[sv [109], sv [97], sv [49], sv [109], sv [98], sv [50]] 37)
  have HB1 := Lib.hid hb1
  have HA1 := Lib.hid ha1
  clear hb1 ha1
  go_enter Try.func7, Try.ntmps7
  go_wp2_with fail
  have hu1 := update_any 1 [] aw1 none (some ⟨w.heap.size, 0, none⟩) 0 2 (w.alloc (.cells #[sv [109], sv [97], sv [49], sv [109], sv [98], sv [50]] 37)) (fun _ => rfl) (by simp) (by decide) (Row.nil _ _ _)
    (.inr ⟨_, rfl, by unfold Lt; simp, fun j u hu => row_of_block HA1.out (by exact hu)⟩)
  refine hu1.mono ?_
  rintro e w2 ⟨m, ys, A1, c1, eno, rfl, hA1, hrow1, hup, hb2⟩
  obtain ⟨rfl, rfl, rfl⟩ := hup.unique aw_one
  clear hu1 hup
  have hbs := HB1.out.size
  obtain ⟨n1, hn1⟩ : ∃ n1, n1 = ay1.length := ⟨_, rfl⟩
  rw [← hn1]
  have hb2w := HB1.out.trans (hb2.mono hbs)
  have hs2 := hb2w.size
  have hb3 : Below w2.heap.size w2 ((w2.alloc (.cells #[.int .i64 3, .slice A1 n1 c1] 29)).alloc (.cells #[sv [109], sv [97], sv [49], sv [110], sv [99], sv [50]] 37)) := ((Below.refl _ _).alloc (Nat.le_refl _) _).alloc (by simp) _
  have ha3 := alloc2 w2 (.cells #[.int .i64 3, .slice A1 n1 c1] 29) (.cells #[sv [109], sv [97], sv [49], sv [110], sv [99], sv [50]] 37)
  have HA3 := Lib.hid ha3
  have HR1 := Lib.hid (hrow1.more (S' := Lt w2.heap.size) fun b hb => hb.2)
  have HN1 := Lib.hid hn1
  have HA1' := Lib.hid hA1
  have HB3 := Lib.hid hb3
  have HB2w := Lib.hid hb2w
  clear ha3 hrow1 hn1 hA1 hb3 hb2w hb2
  go_wp2_with fail
  obtain ⟨w3, hw3⟩ : ∃ w3, w3 = (w2.alloc (.cells #[.int .i64 3, .slice A1 n1 c1] 29)).alloc (.cells #[sv [109], sv [97], sv [49], sv [110], sv [99], sv [50]] 37) := ⟨_, rfl⟩
  rw [← hw3] at HA3 HB3
  have HS3 := Lib.hid (show w3.heap.size = w2.heap.size + 2 by rw [hw3]; simp)
  have HW3 := Lib.hid hw3
  clear hw3
  have hs3 := HS3.out
  have hu2 := update_any 3 ay1 aw2 A1 (some ⟨w2.heap.size + 1, 0, none⟩) c1 2 w3 HA1'.out (by decide) (by decide) ((HR1.out.keep (kept_below HB3.out)).more fun b hb => by unfold Lt at hb ⊢; omega)
    (.inr ⟨_, rfl, by unfold Lt; simp only; omega, fun j u hu => row_of_block HA3.out.2 (by exact hu)⟩)
  rw [← HN1.out] at hu2
  rw [show (w2.alloc (.cells #[.int .i64 3, .slice A1 n1 c1] 29)).alloc (.cells #[.string ⟨#[109]⟩, .string ⟨#[97]⟩, .string ⟨#[49]⟩, .string ⟨#[110]⟩, .string ⟨#[99]⟩, .string ⟨#[50]⟩] 37) = w3 from HW3.out.symm]
  refine hu2.mono ?_
  rintro e w4 ⟨m, ys, A2, c2, eno, rfl, hA2, hrow2, hup, hb4⟩
  obtain ⟨rfl, rfl, rfl⟩ := hup.unique aw_two
  clear hu2 hup
  obtain ⟨n2, hn2⟩ : ∃ n2, n2 = ay2.length := ⟨_, rfl⟩
  rw [← hn2]
  have hs4 := hb4.size
  have ha4 := (hb4.block w2.heap.size (by omega)).trans HA3.out.1
  have d0 : w4.cell? ⟨w2.heap.size, 0, none⟩ = some (.int .i64 3) := (Lib.cell_of_heap ha4 _).trans rfl
  have d1 : w4.cell? ⟨w2.heap.size, 1, none⟩ = some (.slice A1 n1 c1) := (Lib.cell_of_heap ha4 _).trans rfl
  have hl4 : w2.heap.size < w4.heap.size := by omega
  have hb4w : Below w.heap.size w w4 := HB2w.out.trans ((HB3.out.trans (hb4.mono (by omega))).mono (by omega))
  have HR1b := Lib.hid (HR1.out.keep (kept_below (HB3.out.trans (hb4.mono (by omega)))))
  have HR2 := Lib.hid (hrow2.more (S' := Lt w4.heap.size) fun b hb => hb.2)
  have HN2 := Lib.hid hn2
  have HB4w := Lib.hid hb4w
  clear hA2 hrow2 hn2 hb4 ha4 hb4w HR1 HA3 HB3 HW3
  go_wp2_with fail
  have hb5 : Below w4.heap.size w4 (w4.alloc (.cells #[.int .i64 3, .slice A2 n2 c2] 29)) := (Below.refl _ _).alloc (Nat.le_refl _) _
  have ha5 := alloc1 w4 (.cells #[.int .i64 3, .slice A2 n2 c2] 29)
  have d0a := (hb5.cell (block_lt_of_cell d0)).trans d0
  have d1a := (hb5.cell (block_lt_of_cell d1)).trans d1
  obtain ⟨w5, hw5⟩ : ∃ w5, w5 = w4.alloc (.cells #[.int .i64 3, .slice A2 n2 c2] 29) := ⟨_, rfl⟩
  rw [← hw5] at hb5 ha5 d0a d1a ⊢
  have hs5 : w5.heap.size = w4.heap.size + 1 := by rw [hw5]; simp
  have hf := find_any 3 ay2 A2 c2 [110] [99] w5 (by decide) ((HR2.out.keep (kept_below hb5)).more fun b hb => by unfold Lt at hb ⊢; omega)
  rw [← HN2.out] at hf
  refine hf.mono ?_
  rintro e w6 ⟨rfl, hb6⟩
  rw [aw_fnd]
  clear hf hw5 d0 d1
  have hb46 := hb5.trans (hb6.mono (by omega))
  have hs6 := hb6.size
  have ha6 := (hb6.block w4.heap.size (by omega)).trans ha5
  have e0 := (hb6.cell (block_lt_of_cell d0a)).trans d0a
  have e1 := (hb6.cell (block_lt_of_cell d1a)).trans d1a
  have f0 : w6.cell? ⟨w4.heap.size, 0, none⟩ = some (.int .i64 3) := (Lib.cell_of_heap ha6 _).trans rfl
  have f1 : w6.cell? ⟨w4.heap.size, 1, none⟩ = some (.slice A2 n2 c2) := (Lib.cell_of_heap ha6 _).trans rfl
  have hr1 := (HR1b.out.keep (kept_below (hb46.mono (by omega : w2.heap.size ≤ w4.heap.size)))).more (S' := Lt w6.heap.size) fun b hb => by unfold Lt at hb ⊢; omega
  have hr2 := (HR2.out.keep (kept_below hb46)).more (S' := Lt w6.heap.size) fun b hb => by unfold Lt at hb ⊢; omega
  have hmv := moves_any 3 3 ay1 ay2 A1 A2 c1 c2 w6 (by decide) (by decide) hr1 hr2
  rw [← HN1.out, ← HN2.out, aw_mvs] at hmv
  have HMV := Lib.hid hmv
  have HR2b := Lib.hid hr2
  have HA6 := Lib.hid ha6
  have HB6 : Hid (Below w.heap.size w w6) := Lib.hid (HB4w.out.trans (hb46.mono (by omega)))
  clear hmv hr1 hr2 ha6 hb46 hb6 hb5 ha5 d0a d1a
  go_wp2_with fail
  refine HMV.out.mono ?_
  rintro e w7 ⟨AM, cm, rfl, hAM, hown, hb7⟩
  have hs7 := hb7.size
  obtain ⟨g, rfl⟩ : ∃ g, AM = some ⟨g, 0, none⟩ := by
    obtain ⟨g, cap, hv, _⟩ := hown.form (by simp)
    exact ⟨g, by injection hv⟩
  have m2 : w7.cell? ⟨g, 2, none⟩ = some (.string ⟨#[99]⟩) := (hown.cellAt 2 (by simp)).trans rfl
  have ha7 := (hb7.block w4.heap.size (by omega)).trans HA6.out
  have g0 : w7.cell? ⟨w2.heap.size, 0, none⟩ = some (.int .i64 3) := (hb7.cell (block_lt_of_cell e0)).trans e0
  have f0' : w7.cell? ⟨w4.heap.size, 0, none⟩ = some (.int .i64 3) := (Lib.cell_of_heap ha7 _).trans rfl
  have f1' : w7.cell? ⟨w4.heap.size, 1, none⟩ = some (.slice A2 n2 c2) := (Lib.cell_of_heap ha7 _).trans rfl
  have hck := check_any 3 ay2 A2 c2 w7 (by decide) ((HR2b.out.keep (kept_below hb7)).more fun b hb => by unfold Lt at hb ⊢; omega)
  rw [← HN2.out] at hck
  have HCK := Lib.hid hck
  have HB7 : Hid (Below w.heap.size w w7) := Lib.hid (HB6.out.trans (hb7.mono (by have := HB6.out.size; omega)))
  simp only [List.length_cons, List.length_nil, Nat.zero_add]
  clear hck hown ha7 hb7 e0 e1 f0 f1 HMV hAM
  go_wp2_with fail
  refine HCK.out.mono ?_
  rintro e w8 ⟨r, rfl, hr, hb8⟩
  obtain rfl : r = true := hr.2 chk_three
  have HB8 := Lib.hid (HB7.out.trans (hb8.mono HB7.out.size))
  clear hr hb8 m2 g0 f0' f1' HCK
  go_wp2
  go_ret
  exact ⟨rfl, HB8.out⟩
end Go.Proofs.Ytmnhgkhidepojaa
