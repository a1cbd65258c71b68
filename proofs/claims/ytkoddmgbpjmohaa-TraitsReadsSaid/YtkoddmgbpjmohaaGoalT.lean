/-
  The walks of traits.Goal and traits.ReadGoal.
  Conditions: those of each theorem.
-/
import Derived.Test.YtkoddmgbpjmohaaPrint
import Derived.Test.YtkoddmgbpjmohaaParseW
import Derived.Test.YtkoddmgbpjmohaaGoal
import Derived.Test.YtkoddmgbpjmohaaCutP
namespace Go.Proofs.Ytkoddmgbpjmohaa
open Go.RowKit

theorem bs_append (a b : List UInt8) : bs a ++ bs b = bs (a ++ b) := by
  apply ByteArray.ext
  rw [ByteArray.data_append]
  simp [bs]

set_option maxHeartbeats 4000000 in
set_option maxRecDepth 100000 in
theorem goal_any (g : Goal) (q : GV) (w : World) (hg : GlIs w (Lt w.heap.size) g q) (h1 : g.1.length ≤ 1000000) (h2 : (prn g.2).length ≤ 1000000) :
    Calls Try.prog 8 #[.agg #[q.1, q.2.1, q.2.2]] w fun e w' => e = .returned (.string (bs (g.1 ++ 32 :: prn g.2))) ∧ Below w.heap.size w w' := by
  obtain ⟨tr, t⟩ := g
  obtain ⟨_, u, v⟩ := q
  obtain ⟨ht, hty⟩ := hg
  simp only at ht hty h1 h2 ⊢
  subst ht
  obtain ⟨u, v, rfl, rfl⟩ := hty.shape
  have hsz1 : ¬ 9223372036854775807 < (bs tr).size + 1 := by rw [bs_size]; omega
  have hsz2 : ¬ 9223372036854775807 < (bs (tr ++ [32])).size + (bs (prn t)).size := by rw [bs_size, bs_size, List.length_append, List.length_singleton]; omega
  have hb1 : Below w.heap.size w (w.alloc (.cells #[sv tr, sv u, .slice v.1 v.2.1 v.2.2] 28)).drew := ((Below.refl _ _).alloc (Nat.le_refl _) _).drew
  have hty' := hty.now (Nat.le_refl _) hb1
  have hcell : ∀ n, (w.alloc (.cells #[sv tr, sv u, .slice v.1 v.2.1 v.2.2] 28)).cell? ⟨w.heap.size, n, none⟩ = #[sv tr, sv u, .slice v.1 v.2.1 v.2.2][n]? := fun n => Lib.cell_of_heap (alloc1 w _) n
  go_enter Try.func8, Try.ntmps8
  go_wp2_with fail
  refine wp_region_held' (fun w' => w'.cell? ⟨w.heap.size, 0, none⟩ = some (sv tr) ∧ w'.cell? ⟨w.heap.size, 1, none⟩ = some (sv u) ∧ w'.cell? ⟨w.heap.size, 2, none⟩ = some (.slice v.1 v.2.1 v.2.2)) [] [0, 1, 2, 3, 4] [5] [6, 7] (by kernel_rfl) (by kernel_rfl) ?s0 ?h0
  case s0 =>
    have := alloc1 w (.cells #[sv tr, sv u, .slice v.1 v.2.1 v.2.2] 28)
    exact ⟨(Lib.cell_of_heap this _).trans rfl, (Lib.cell_of_heap this _).trans rfl, (Lib.cell_of_heap this _).trans rfl⟩
  case h0 =>
    simp only [opsAt, List.filterMap_cons, List.filterMap_nil, List.getElem?_toArray, List.getElem?_cons_succ, List.getElem?_cons_zero]
    refine wpFloat_nil ?_
    refine wpLoad_step ?v0 rfl (fun w' hS => ?y0) ?k0
    case y0 =>
      obtain ⟨h1, h2, h3⟩ := hS
      go_simp
      try rfl
    case k0 =>
    go_simp
    refine wpLoad_step ?v1 rfl (fun w' hS => ?y1) ?k1
    case y1 =>
      obtain ⟨h1, h2, h3⟩ := hS
      go_simp
      try rfl
    case k1 =>
    go_simp
    refine wpLoad_step (sv (tr ++ [32])) rfl (fun w' hS => ?y2) ?k2
    case y2 =>
      obtain ⟨h1, h2, h3⟩ := hS
      go_simp
      exact bs_append tr [32]
    case k2 =>
    go_simp
    refine wpLoad_step ?v3 rfl (fun w' hS => ?y3) ?k3
    case y3 =>
      obtain ⟨h1, h2, h3⟩ := hS
      go_simp
      try rfl
    case k3 =>
    go_simp
    refine wpLoad_step ?v4 rfl (fun w' hS => ?y4) ?k4
    case y4 =>
      obtain ⟨h1, h2, h3⟩ := hS
      go_simp
      try rfl
    case k4 =>
    go_simp
    refine wpLoad_nil ?_
    refine wpKeep_step rfl ?_
    go_simp
    refine (print_any t _ _ _ hty' h2).mono ?_
    rintro e w2 ⟨rfl, hb⟩
    have hba : ∀ n, w2.cell? ⟨w.heap.size, n, none⟩ = #[sv tr, sv u, .slice v.1 v.2.1 v.2.2][n]? := fun n => (hb.cell (by simp)).trans (hcell n)
    refine ⟨⟨hba 0, hba 1, hba 2⟩, ?_⟩
    refine wpKeep_nil ?_
    go_wp2
    refine NoPanic.normal ?_
    go_wp2
    refine bodyPost_ret (by simp [results, go_sem]; rfl) rfl ⟨?_, ?_⟩
    · rw [bs_append, List.append_assoc]
      rfl
    · exact hb1.trans (hb.mono hb1.size)

/-! ### ReadGoal -/

def GRes (r : Option Goal) (w : World) (e : Ending) (w' : World) : Prop :=
  match r with
  | some g => ∃ q : GV, e = .returned (.tuple #[.agg #[q.1, q.2.1, q.2.2], .bool true]) ∧ GlIs w' (Fr w.heap.size w'.heap.size) g q ∧ Below w.heap.size w w'
  | none => e = .returned (.tuple #[.agg #[sv [], sv [], .slice none 0 0], .bool false]) ∧ Below w.heap.size w w'

set_option maxHeartbeats 8000000 in
set_option maxRecDepth 100000 in
theorem readGoal_any (s : List UInt8) (m : Int) (w : World) (hs : s.length ≤ 20000) (hm : w.cell? ⟨0, 0, none⟩ = some (.int .i64 m)) (hw : 0 < w.heap.size) :
    Calls Try.prog 5 #[.string (bs s)] w (GRes (goalOf s) w) := by
  have hcut := Try.strings_Cut (bs s) ⟨#[32]⟩ m (w.alloc (.cells #[.string ⟨#[]⟩, .string ⟨#[]⟩, .slice none 0 0] 28)) (by rw [bs_size]; omega) ((cellAlloc hw).trans hm)
  rw [bs_data, show (⟨#[32]⟩ : ByteArray).data.toList = [32] from rfl, cut_at] at hcut
  have hbl := bkc_len 32 s
  have hfb := fr_bk 32 s
  have hZ := alloc1 w (.cells #[.string ⟨#[]⟩, .string ⟨#[]⟩, .slice none 0 0] 28)
  have hsZ : (w.alloc (.cells #[.string ⟨#[]⟩, .string ⟨#[]⟩, .slice none 0 0] 28)).heap.size = w.heap.size + 1 := by simp
  have hba : Below w.heap.size w (w.alloc (.cells #[.string ⟨#[]⟩, .string ⟨#[]⟩, .slice none 0 0] 28)) := (Below.refl _ _).alloc (Nat.le_refl _) _
  rcases hb : bkc 32 s with _ | ⟨x, r⟩
  · have hg : goalOf s = none := by rw [goalOf, hb]
    rw [hb] at hcut
    rw [hg]
    have HCUT : Hid (Calls Try.prog 12 #[.string (bs s), .string ⟨#[32]⟩] (w.alloc (.cells #[.string ⟨#[]⟩, .string ⟨#[]⟩, .slice none 0 0] 28)) fun e w' => e = .returned (.tuple #[sv s, sv [], .bool false]) ∧ ∃ n, w' = (w.alloc (.cells #[.string ⟨#[]⟩, .string ⟨#[]⟩, .slice none 0 0] 28)).drewN n) := Lib.hid hcut
    clear hcut hb hfb

    go_enter Try.func5, Try.ntmps5
    go_wp2_with fail
    refine HCUT.out.mono ?_
    rintro e w1 ⟨rfl, n, rfl⟩
    generalize hw1 : (w.alloc (.cells #[.string ⟨#[]⟩, .string ⟨#[]⟩, .slice none 0 0] 28)).drewN n = w1
    have hs1 : w1.heap.size = w.heap.size + 1 := by rw [← hw1]; exact hsZ
    have hZ1 : w1.heap[w.heap.size]? = some (.cells #[.string ⟨#[]⟩, .string ⟨#[]⟩, .slice none 0 0] 28 (0, 0)) := by rw [← hw1]; exact hZ
    have hb1 : Below w.heap.size w w1 := by rw [← hw1]; exact belowDrewN hba n
    clear hw1 hZ hba hsZ
    go_wp2_with fail
    refine (parse_any [] w1 (by simp)).mono ?_
    rintro e w2 ⟨rfl, hb2⟩
    have hZ2 := (hb2.block _ (by omega)).trans hZ1
    have hz2 := lt_of_heap hZ2
    have y0 : w2.frozen? ⟨w.heap.size, 0, none⟩ = false := Lib.frozen_of_heap hZ2 0
    have z0 : w2.cell? ⟨w.heap.size, 0, none⟩ = some (.string ⟨#[]⟩) := (Lib.cell_of_heap hZ2 _).trans rfl
    have y1 : w2.frozen? ⟨w.heap.size, 1, none⟩ = false := Lib.frozen_of_heap hZ2 1
    have z1 : w2.cell? ⟨w.heap.size, 1, none⟩ = some (.string ⟨#[]⟩) := (Lib.cell_of_heap hZ2 _).trans rfl
    have y2 : w2.frozen? ⟨w.heap.size, 2, none⟩ = false := Lib.frozen_of_heap hZ2 2
    have z2 : w2.cell? ⟨w.heap.size, 2, none⟩ = some (.slice none 0 0) := (Lib.cell_of_heap hZ2 _).trans rfl
    have C0 : Hid (∀ x y z : Value, (((w2.setCell ⟨w.heap.size, 0, none⟩ x).setCell ⟨w.heap.size, 1, none⟩ y).setCell ⟨w.heap.size, 2, none⟩ z).cell? ⟨w.heap.size, 0, none⟩ = some x) := Lib.hid fun x y z => (Lib.cell_of_heap (setCell_heap (setCell_heap (setCell_heap hZ2))) _).trans rfl
    have C1 : Hid (∀ x y z : Value, (((w2.setCell ⟨w.heap.size, 0, none⟩ x).setCell ⟨w.heap.size, 1, none⟩ y).setCell ⟨w.heap.size, 2, none⟩ z).cell? ⟨w.heap.size, 1, none⟩ = some y) := Lib.hid fun x y z => (Lib.cell_of_heap (setCell_heap (setCell_heap (setCell_heap hZ2))) _).trans rfl
    have C2 : Hid (∀ x y z : Value, (((w2.setCell ⟨w.heap.size, 0, none⟩ x).setCell ⟨w.heap.size, 1, none⟩ y).setCell ⟨w.heap.size, 2, none⟩ z).cell? ⟨w.heap.size, 2, none⟩ = some z) := Lib.hid fun x y z => (Lib.cell_of_heap (setCell_heap (setCell_heap (setCell_heap hZ2))) _).trans rfl
    have HB2 := Lib.hid (hb1.trans (hb2.mono (by omega)))
    clear hb1 hb2 hZ1 hZ2
    go_wp2
    refine bodyPost_ret (v := .tuple #[.agg #[sv [], sv [], .slice none 0 0], .bool false]) (by simp [results, Try.results5, go_sem, C0.out, C1.out, C2.out, hz2]; rfl) rfl ?_
    exact ⟨rfl, (((HB2.out.setCell (by simp) _).setCell (by simp) _).setCell (by simp) _).alloc (by simp; omega) _⟩
  · rw [hb] at hcut
    rw [hb] at hbl
    have HCUT : Hid (Calls Try.prog 12 #[.string (bs s), .string ⟨#[32]⟩] (w.alloc (.cells #[.string ⟨#[]⟩, .string ⟨#[]⟩, .slice none 0 0] 28)) fun e w' => e = .returned (.tuple #[sv (frc 32 s), sv r, .bool true]) ∧ ∃ n, w' = (w.alloc (.cells #[.string ⟨#[]⟩, .string ⟨#[]⟩, .slice none 0 0] 28)).drewN n) := Lib.hid hcut
    rcases hp : parse r with _ | t
    · have hg : goalOf s = none := by
        rw [goalOf, hb]
        simp only [hp]
      rw [hg]
      have HP := Lib.hid hp
      clear hcut hb hfb hp hg
      go_enter Try.func5, Try.ntmps5
      go_wp2_with fail
      refine HCUT.out.mono ?_
      rintro e w1 ⟨rfl, n, rfl⟩
      generalize hw1 : (w.alloc (.cells #[.string ⟨#[]⟩, .string ⟨#[]⟩, .slice none 0 0] 28)).drewN n = w1
      have hs1 : w1.heap.size = w.heap.size + 1 := by rw [← hw1]; exact hsZ
      have hZ1 : w1.heap[w.heap.size]? = some (.cells #[.string ⟨#[]⟩, .string ⟨#[]⟩, .slice none 0 0] 28 (0, 0)) := by rw [← hw1]; exact hZ
      have hb1 : Below w.heap.size w w1 := by rw [← hw1]; exact belowDrewN hba n
      clear hw1 hZ hba hsZ
      go_wp2_with fail
      refine (parse_any r w1 (by simp at hbl ⊢; omega)).mono ?_
      rw [HP.out]
      rintro e w2 ⟨rfl, hb2⟩
      have hZ2 := (hb2.block _ (by omega)).trans hZ1
      have hz2 := lt_of_heap hZ2
      have y0 : w2.frozen? ⟨w.heap.size, 0, none⟩ = false := Lib.frozen_of_heap hZ2 0
      have z0 : w2.cell? ⟨w.heap.size, 0, none⟩ = some (.string ⟨#[]⟩) := (Lib.cell_of_heap hZ2 _).trans rfl
      have y1 : w2.frozen? ⟨w.heap.size, 1, none⟩ = false := Lib.frozen_of_heap hZ2 1
      have z1 : w2.cell? ⟨w.heap.size, 1, none⟩ = some (.string ⟨#[]⟩) := (Lib.cell_of_heap hZ2 _).trans rfl
      have y2 : w2.frozen? ⟨w.heap.size, 2, none⟩ = false := Lib.frozen_of_heap hZ2 2
      have z2 : w2.cell? ⟨w.heap.size, 2, none⟩ = some (.slice none 0 0) := (Lib.cell_of_heap hZ2 _).trans rfl
      have C0 : Hid (∀ x y z : Value, (((w2.setCell ⟨w.heap.size, 0, none⟩ x).setCell ⟨w.heap.size, 1, none⟩ y).setCell ⟨w.heap.size, 2, none⟩ z).cell? ⟨w.heap.size, 0, none⟩ = some x) := Lib.hid fun x y z => (Lib.cell_of_heap (setCell_heap (setCell_heap (setCell_heap hZ2))) _).trans rfl
      have C1 : Hid (∀ x y z : Value, (((w2.setCell ⟨w.heap.size, 0, none⟩ x).setCell ⟨w.heap.size, 1, none⟩ y).setCell ⟨w.heap.size, 2, none⟩ z).cell? ⟨w.heap.size, 1, none⟩ = some y) := Lib.hid fun x y z => (Lib.cell_of_heap (setCell_heap (setCell_heap (setCell_heap hZ2))) _).trans rfl
      have C2 : Hid (∀ x y z : Value, (((w2.setCell ⟨w.heap.size, 0, none⟩ x).setCell ⟨w.heap.size, 1, none⟩ y).setCell ⟨w.heap.size, 2, none⟩ z).cell? ⟨w.heap.size, 2, none⟩ = some z) := Lib.hid fun x y z => (Lib.cell_of_heap (setCell_heap (setCell_heap (setCell_heap hZ2))) _).trans rfl
      have HB2 := Lib.hid (hb1.trans (hb2.mono (by omega)))
      clear hb1 hb2 hZ1 hZ2
      go_wp2
      refine bodyPost_ret (v := .tuple #[.agg #[sv [], sv [], .slice none 0 0], .bool false]) (by simp [results, Try.results5, go_sem, C0.out, C1.out, C2.out, hz2]; rfl) rfl ?_
      exact ⟨rfl, (((HB2.out.setCell (by simp) _).setCell (by simp) _).setCell (by simp) _).alloc (by simp; omega) _⟩
    · by_cases hf : frc 32 s = []
      · have hg : goalOf s = none := by
          rw [goalOf, hb]
          simp only [hp, hf, if_true]
        rw [hg]
        rw [hf] at HCUT
        have he : (bs []).toList.isEmpty = true := by rw [Lib.toList_data, bs_data]; rfl
        have hne : ((bs []).toList == []) = true := by rw [Lib.toList_data, bs_data]; rfl
        have HP := Lib.hid hp
        clear hcut hb hfb hp hg hf
        go_enter Try.func5, Try.ntmps5
        go_wp2_with fail
        refine HCUT.out.mono ?_
        rintro e w1 ⟨rfl, n, rfl⟩
        generalize hw1 : (w.alloc (.cells #[.string ⟨#[]⟩, .string ⟨#[]⟩, .slice none 0 0] 28)).drewN n = w1
        have hs1 : w1.heap.size = w.heap.size + 1 := by rw [← hw1]; exact hsZ
        have hZ1 : w1.heap[w.heap.size]? = some (.cells #[.string ⟨#[]⟩, .string ⟨#[]⟩, .slice none 0 0] 28 (0, 0)) := by rw [← hw1]; exact hZ
        have hb1 : Below w.heap.size w w1 := by rw [← hw1]; exact belowDrewN hba n
        clear hw1 hZ hba hsZ
        go_wp2_with fail
        refine (parse_any r w1 (by simp at hbl ⊢; omega)).mono ?_
        rw [HP.out]
        rintro e w2 ⟨u, v, rfl, hT, hb2⟩
        obtain ⟨un, va, rfl, rfl⟩ := hT.shape
        have HT := Lib.hid hT
        clear hT
        have hZ2 := (hb2.block _ (by omega)).trans hZ1
        have hz2 := lt_of_heap hZ2
        have y0 : w2.frozen? ⟨w.heap.size, 0, none⟩ = false := Lib.frozen_of_heap hZ2 0
        have z0 : w2.cell? ⟨w.heap.size, 0, none⟩ = some (.string ⟨#[]⟩) := (Lib.cell_of_heap hZ2 _).trans rfl
        have y1 : w2.frozen? ⟨w.heap.size, 1, none⟩ = false := Lib.frozen_of_heap hZ2 1
        have z1 : w2.cell? ⟨w.heap.size, 1, none⟩ = some (.string ⟨#[]⟩) := (Lib.cell_of_heap hZ2 _).trans rfl
        have y2 : w2.frozen? ⟨w.heap.size, 2, none⟩ = false := Lib.frozen_of_heap hZ2 2
        have z2 : w2.cell? ⟨w.heap.size, 2, none⟩ = some (.slice none 0 0) := (Lib.cell_of_heap hZ2 _).trans rfl
        have C0 : Hid (∀ x y z : Value, (((w2.setCell ⟨w.heap.size, 0, none⟩ x).setCell ⟨w.heap.size, 1, none⟩ y).setCell ⟨w.heap.size, 2, none⟩ z).cell? ⟨w.heap.size, 0, none⟩ = some x) := Lib.hid fun x y z => (Lib.cell_of_heap (setCell_heap (setCell_heap (setCell_heap hZ2))) _).trans rfl
        have C1 : Hid (∀ x y z : Value, (((w2.setCell ⟨w.heap.size, 0, none⟩ x).setCell ⟨w.heap.size, 1, none⟩ y).setCell ⟨w.heap.size, 2, none⟩ z).cell? ⟨w.heap.size, 1, none⟩ = some y) := Lib.hid fun x y z => (Lib.cell_of_heap (setCell_heap (setCell_heap (setCell_heap hZ2))) _).trans rfl
        have C2 : Hid (∀ x y z : Value, (((w2.setCell ⟨w.heap.size, 0, none⟩ x).setCell ⟨w.heap.size, 1, none⟩ y).setCell ⟨w.heap.size, 2, none⟩ z).cell? ⟨w.heap.size, 2, none⟩ = some z) := Lib.hid fun x y z => (Lib.cell_of_heap (setCell_heap (setCell_heap (setCell_heap hZ2))) _).trans rfl
        have HB2 := Lib.hid (hb1.trans (hb2.mono (by omega)))
        clear hb1 hb2 hZ1 hZ2
        go_wp2
        refine bodyPost_ret (v := .tuple #[.agg #[sv [], sv [], .slice none 0 0], .bool false]) (by simp [results, Try.results5, go_sem, C0.out, C1.out, C2.out, hz2]; rfl) rfl ?_
        exact ⟨rfl, (((HB2.out.setCell (by simp) _).setCell (by simp) _).setCell (by simp) _).alloc (by simp; omega) _⟩
      · have hg : goalOf s = some (frc 32 s, t) := by
          rw [goalOf, hb]
          simp only [hp, hf, if_false]
        rw [hg]
        have he : (bs (frc 32 s)).toList.isEmpty = false := by
          rw [Lib.toList_data, bs_data]
          cases h : frc 32 s with
          | nil => exact absurd h hf
          | cons _ _ => rfl
        have hne : ((bs (frc 32 s)).toList == []) = false := by
          rw [Lib.toList_data, bs_data]
          simp [hf]
        have HP := Lib.hid hp
        clear hcut hb hfb hp hg hf
        go_enter Try.func5, Try.ntmps5
        go_wp2_with fail
        refine HCUT.out.mono ?_
        rintro e w1 ⟨rfl, n, rfl⟩
        generalize hw1 : (w.alloc (.cells #[.string ⟨#[]⟩, .string ⟨#[]⟩, .slice none 0 0] 28)).drewN n = w1
        have hs1 : w1.heap.size = w.heap.size + 1 := by rw [← hw1]; exact hsZ
        have hZ1 : w1.heap[w.heap.size]? = some (.cells #[.string ⟨#[]⟩, .string ⟨#[]⟩, .slice none 0 0] 28 (0, 0)) := by rw [← hw1]; exact hZ
        have hb1 : Below w.heap.size w w1 := by rw [← hw1]; exact belowDrewN hba n
        clear hw1 hZ hba hsZ
        go_wp2_with fail
        refine (parse_any r w1 (by simp at hbl ⊢; omega)).mono ?_
        rw [HP.out]
        rintro e w2 ⟨u, v, rfl, hT, hb2⟩
        obtain ⟨un, va, rfl, rfl⟩ := hT.shape
        have HT := Lib.hid hT
        clear hT
        have hZ2 := (hb2.block _ (by omega)).trans hZ1
        have hz2 := lt_of_heap hZ2
        have y0 : w2.frozen? ⟨w.heap.size, 0, none⟩ = false := Lib.frozen_of_heap hZ2 0
        have z0 : w2.cell? ⟨w.heap.size, 0, none⟩ = some (.string ⟨#[]⟩) := (Lib.cell_of_heap hZ2 _).trans rfl
        have y1 : w2.frozen? ⟨w.heap.size, 1, none⟩ = false := Lib.frozen_of_heap hZ2 1
        have z1 : w2.cell? ⟨w.heap.size, 1, none⟩ = some (.string ⟨#[]⟩) := (Lib.cell_of_heap hZ2 _).trans rfl
        have y2 : w2.frozen? ⟨w.heap.size, 2, none⟩ = false := Lib.frozen_of_heap hZ2 2
        have z2 : w2.cell? ⟨w.heap.size, 2, none⟩ = some (.slice none 0 0) := (Lib.cell_of_heap hZ2 _).trans rfl
        have C0 : Hid (∀ x y z : Value, (((w2.setCell ⟨w.heap.size, 0, none⟩ x).setCell ⟨w.heap.size, 1, none⟩ y).setCell ⟨w.heap.size, 2, none⟩ z).cell? ⟨w.heap.size, 0, none⟩ = some x) := Lib.hid fun x y z => (Lib.cell_of_heap (setCell_heap (setCell_heap (setCell_heap hZ2))) _).trans rfl
        have C1 : Hid (∀ x y z : Value, (((w2.setCell ⟨w.heap.size, 0, none⟩ x).setCell ⟨w.heap.size, 1, none⟩ y).setCell ⟨w.heap.size, 2, none⟩ z).cell? ⟨w.heap.size, 1, none⟩ = some y) := Lib.hid fun x y z => (Lib.cell_of_heap (setCell_heap (setCell_heap (setCell_heap hZ2))) _).trans rfl
        have C2 : Hid (∀ x y z : Value, (((w2.setCell ⟨w.heap.size, 0, none⟩ x).setCell ⟨w.heap.size, 1, none⟩ y).setCell ⟨w.heap.size, 2, none⟩ z).cell? ⟨w.heap.size, 2, none⟩ = some z) := Lib.hid fun x y z => (Lib.cell_of_heap (setCell_heap (setCell_heap (setCell_heap hZ2))) _).trans rfl
        have HB2 := Lib.hid (hb1.trans (hb2.mono (by omega)))
        clear hb1 hb2 hZ1 hZ2
        go_wp2
        refine bodyPost_ret (v := .tuple #[.agg #[sv (frc 32 s), sv un, .slice va.1 va.2.1 va.2.2], .bool true]) (by simp [results, Try.results5, go_sem, C0.out, C1.out, C2.out, hz2]) rfl ?_
        refine ⟨(sv (frc 32 s), sv un, .slice va.1 va.2.1 va.2.2), rfl, ⟨rfl, ?_⟩, (((HB2.out.setCell (by simp) _).setCell (by simp) _).setCell (by simp) _).alloc (by simp; omega) _⟩
        refine (HT.out.keep ?_).more fun x hx => ⟨by have := hx.1; omega, by have := hx.2; simp; omega⟩
        have hks : ∀ (W : World) (i : Nat) (v : Value), W.heap.size = w2.heap.size → Kept (Fr w1.heap.size w2.heap.size) W (W.setCell ⟨w.heap.size, i, none⟩ v) := fun W i v hW => keptGrown (row := some w.heap.size) grownSet fun x hx => ⟨by rw [hW]; exact hx.2, fun e => by injection e; have := hx.1; omega⟩
        exact Kept.trans (Kept.trans (Kept.trans (hks _ _ _ rfl) (hks _ _ _ (sizeSet _ _ _))) (hks _ _ _ (by rw [sizeSet, sizeSet]))) (keptGrown (World.grownBy_alloc _ _ none) fun x hx => ⟨by rw [sizeSet, sizeSet, sizeSet]; exact hx.2, by simp⟩)
end Go.Proofs.Ytkoddmgbpjmohaa
