/-
  The walks of ref06.SameBinds, slices.Equal over binds.
  Conditions: the lists are at most 10^8 long.
-/
import Derived.Test.YtcliegpofhjpcaaMdM
import Derived.Test.YtcliegpofhjpcaaBsch
import Derived.Test.YtcliegpofhjpcaaBtwk
namespace Go.Proofs.Ytcliegpofhjpcaa
open Go.RowKit

theorem take_snoc {α : Type} {l : List α} {k : Nat} {x : α} (h : l[k]? = some x) : l.take (k + 1) = l.take k ++ [x] := by rw [List.take_add_one, h]; rfl
set_option maxHeartbeats 800000 in
set_option maxRecDepth 100000 in
theorem sameB_any (xs ys : List Key) (A B : Option Addr) (c d : Nat) (w : World) (hl : xs.length ≤ 100000000) (h : Row w (Lt w.heap.size) A (flt bdC xs)) (h2 : Row w (Lt w.heap.size) B (flt bdC ys)) :
    Calls Try.prog 12 #[.slice A xs.length c, .slice B ys.length d] w (Says (xs = ys) w) := by
  by_cases hll : xs.length = ys.length
  · obtain ⟨m, hm⟩ : ∃ m, m = xs.length := ⟨_, rfl⟩
    rw [← hll, ← hm]
    rw [← hm] at hl
    have HM := Lib.hid hm
    have HLL := Lib.hid hll
    have HR := Lib.hid h
    have HR2 := Lib.hid h2
    clear hm hll h h2
    go_enter Try.func12, Try.ntmps12
    go_wp2_with fail
    go_loopw [5] (fun i wr => ∃ k : Nat, k ≤ m ∧ i = .int .i64 k ∧ Below w.heap.size w wr ∧ xs.take k = ys.take k) (fun i _ => m - (intOf i).toNat)
    case atStart => exact ⟨0, by omega, rfl, Below.refl _ _, rfl⟩
    case round =>
      obtain ⟨k, hkm, rfl, hB, hP⟩ := hrel
      have HP := Lib.hid hP
      clear hP
      by_cases hlt : k < m
      · obtain ⟨x, hx⟩ : ∃ x, xs[k]? = some x := ⟨_, List.getElem?_eq_getElem (by rw [← HM.out]; exact hlt)⟩
        obtain ⟨y, hy⟩ : ∃ y, ys[k]? = some y := ⟨_, List.getElem?_eq_getElem (by rw [← HLL.out, ← HM.out]; exact hlt)⟩
        obtain ⟨ad, rfl, _, a0, a1⟩ := bd_at (HR.out.keep (kept_below hB)) hx
        obtain ⟨be, rfl, _, b0, b1⟩ := bd_at (HR2.out.keep (kept_below hB)) hy
        have hik : (0 : Int) ≤ (k : Int) ∧ (k : Int) < (m : Int) := ⟨by omega, by omega⟩
        have HX := Lib.hid hx
        have HY := Lib.hid hy
        have HB := Lib.hid hB
        clear hx hy hB
        go_wp2_with fail
        refine wp_region_held' (AtCells [(ad.add (k * 2), sv x.1), (⟨(ad.add (k * 2)).block, (ad.add (k * 2)).off + 1, none⟩, sv x.2), (be.add (k * 2), sv y.1), (⟨(be.add (k * 2)).block, (be.add (k * 2)).off + 1, none⟩, sv y.2)]) [] [0, 1, 2, 3, 4, 5, 6, 7, 8] [] [] (by kernel_rfl) (by kernel_rfl) ?sa ?ha
        case sa => exact ⟨a0, a1, b0, b1, trivial⟩
        case ha =>
        clear a0 a1 b0 b1
        simp only [opsAt, List.filterMap_cons, List.filterMap_nil, List.getElem?_toArray, List.getElem?_cons_succ, List.getElem?_cons_zero]
        refine wpFloat_nil ?_
        refine wpLoad_step ?va0 rfl (fun w' hS => ?ya0) ?ka0
        case ya0 =>
          obtain ⟨g0, g1, g2, g3, _⟩ := hS
          go_simp
          try rfl
        case ka0 =>
        go_simp
        refine wpLoad_step ?va1 rfl (fun w' hS => ?ya1) ?ka1
        case ya1 =>
          obtain ⟨g0, g1, g2, g3, _⟩ := hS
          go_simp
          try rfl
        case ka1 =>
        go_simp
        refine wpLoad_step ?va2 rfl (fun w' hS => ?ya2) ?ka2
        case ya2 =>
          obtain ⟨g0, g1, g2, g3, _⟩ := hS
          go_simp
          try rfl
        case ka2 =>
        go_simp
        refine wpLoad_step ?va3 rfl (fun w' hS => ?ya3) ?ka3
        case ya3 =>
          obtain ⟨g0, g1, g2, g3, _⟩ := hS
          go_simp
          try rfl
        case ka3 =>
        go_simp
        refine wpLoad_step ?va4 rfl (fun w' hS => ?ya4) ?ka4
        case ya4 =>
          obtain ⟨g0, g1, g2, g3, _⟩ := hS
          go_simp
          try rfl
        case ka4 =>
        go_simp
        refine wpLoad_step ?va5 rfl (fun w' hS => ?ya5) ?ka5
        case ya5 =>
          obtain ⟨g0, g1, g2, g3, _⟩ := hS
          go_simp
          try rfl
        case ka5 =>
        go_simp
        refine wpLoad_step ?va6 rfl (fun w' hS => ?ya6) ?ka6
        case ya6 =>
          obtain ⟨g0, g1, g2, g3, _⟩ := hS
          go_simp
          try rfl
        case ka6 =>
        go_simp
        refine wpLoad_step ?va7 rfl (fun w' hS => ?ya7) ?ka7
        case ya7 =>
          obtain ⟨g0, g1, g2, g3, _⟩ := hS
          go_simp
          try rfl
        case ka7 =>
        go_simp
        refine wpLoad_step (.bool (!decide (x = y))) rfl (fun w' hS => ?ya8) ?ka8
        case ya8 =>
          go_simp
          simp only [bs_toList]
          by_cases h1 : x.1 = y.1 <;> by_cases h2 : x.2 = y.2 <;> simp [h1, h2, Prod.ext_iff]
        case ka8 =>
        by_cases he : x = y
        · have hq : decide (x = y) = true := decide_eq_true he
          have HE := Lib.hid he
          rw [hq]
          clear hq he
          refine wpLoad_nil ?_
          refine wpKeep_nil ?_
          go_wp2
          refine NoPanic.normal ?_
          go_wp2
          go_roundw
          case rel => exact ⟨k + 1, by omega, by go_num, HB.out.drew, by rw [take_snoc HX.out, take_snoc HY.out, HP.out, HE.out]⟩
          case measure => simp [intOf]; omega
        · have hq : decide (x = y) = false := decide_eq_false he
          have HE := Lib.hid he
          rw [hq]
          clear hq he
          refine wpLoad_nil ?_
          refine wpKeep_nil ?_
          go_wp2
          refine NoPanic.normal ?_
          go_wp2
          go_ret
          refine ⟨_, rfl, ⟨(fun h => by cases h), fun h => ?_⟩, HB.out.drew⟩
          have e1 := HX.out
          rw [h, HY.out] at e1
          exact absurd (Option.some.inj e1).symm HE.out
      · have HB := Lib.hid hB
        clear hB
        go_wp2
        go_ret
        refine ⟨_, rfl, ⟨fun _ => ?_, fun _ => rfl⟩, HB.out⟩
        have hp := HP.out
        rwa [List.take_of_length_le (by rw [← HM.out]; omega), List.take_of_length_le (by rw [← HLL.out, ← HM.out]; omega)] at hp
  · have hne : xs ≠ ys := fun e => hll (by rw [e])
    obtain ⟨m, hm⟩ : ∃ m, m = xs.length := ⟨_, rfl⟩
    obtain ⟨m2, hm2⟩ : ∃ m2, m2 = ys.length := ⟨_, rfl⟩
    rw [← hm, ← hm2] at hll ⊢
    have HNE := Lib.hid hne
    have hq : ((m : Int) != (m2 : Int)) = true := by simp; omega
    have hq2 : ((m : Int) == (m2 : Int)) = false := by simp; omega
    clear hm hm2 h h2 hl hne
    go_enter Try.func12, Try.ntmps12
    go_wp2
    go_ret
    exact ⟨_, rfl, ⟨(fun h => by cases h), fun h => absurd h HNE.out⟩, Below.refl _ _⟩

set_option maxHeartbeats 800000 in
set_option maxRecDepth 100000 in
theorem equalB_any (xs ys : List Key) (A B : Option Addr) (c d : Nat) (w : World) (hl : xs.length ≤ 100000000) (h : Row w (Lt w.heap.size) A (flt bdC xs)) (h2 : Row w (Lt w.heap.size) B (flt bdC ys)) :
    Calls Try.prog 21 #[.slice A xs.length c, .slice B ys.length d] w (Says (xs = ys) w) := by
  by_cases hll : xs.length = ys.length
  · obtain ⟨m, hm⟩ : ∃ m, m = xs.length := ⟨_, rfl⟩
    rw [← hll, ← hm]
    rw [← hm] at hl
    have HM := Lib.hid hm
    have HLL := Lib.hid hll
    have HR := Lib.hid h
    have HR2 := Lib.hid h2
    clear hm hll h h2
    go_enter Try.func21, Try.ntmps21
    go_wp2_with fail
    go_loopw [13] (fun i wr => ∃ k : Nat, k ≤ m ∧ i = .int .i64 k ∧ Below w.heap.size w wr ∧ xs.take k = ys.take k) (fun i _ => m - (intOf i).toNat)
    case atStart => exact ⟨0, by omega, rfl, Below.refl _ _, rfl⟩
    case round =>
      obtain ⟨k, hkm, rfl, hB, hP⟩ := hrel
      have HP := Lib.hid hP
      clear hP
      by_cases hlt : k < m
      · obtain ⟨x, hx⟩ : ∃ x, xs[k]? = some x := ⟨_, List.getElem?_eq_getElem (by rw [← HM.out]; exact hlt)⟩
        obtain ⟨y, hy⟩ : ∃ y, ys[k]? = some y := ⟨_, List.getElem?_eq_getElem (by rw [← HLL.out, ← HM.out]; exact hlt)⟩
        obtain ⟨ad, rfl, _, a0, a1⟩ := bd_at (HR.out.keep (kept_below hB)) hx
        obtain ⟨be, rfl, _, b0, b1⟩ := bd_at (HR2.out.keep (kept_below hB)) hy
        have hik : (0 : Int) ≤ (k : Int) ∧ (k : Int) < (m : Int) := ⟨by omega, by omega⟩
        have HX := Lib.hid hx
        have HY := Lib.hid hy
        have HB := Lib.hid hB
        clear hx hy hB
        go_wp2_with fail
        refine wp_region_held' (AtCells [(ad.add (k * 2), sv x.1), (⟨(ad.add (k * 2)).block, (ad.add (k * 2)).off + 1, none⟩, sv x.2), (be.add (k * 2), sv y.1), (⟨(be.add (k * 2)).block, (be.add (k * 2)).off + 1, none⟩, sv y.2)]) [] [0, 1, 2, 3, 4, 5, 6, 7, 8] [] [] (by kernel_rfl) (by kernel_rfl) ?sa ?ha
        case sa => exact ⟨a0, a1, b0, b1, trivial⟩
        case ha =>
        clear a0 a1 b0 b1
        simp only [opsAt, List.filterMap_cons, List.filterMap_nil, List.getElem?_toArray, List.getElem?_cons_succ, List.getElem?_cons_zero]
        refine wpFloat_nil ?_
        refine wpLoad_step ?va0 rfl (fun w' hS => ?ya0) ?ka0
        case ya0 =>
          obtain ⟨g0, g1, g2, g3, _⟩ := hS
          go_simp
          try rfl
        case ka0 =>
        go_simp
        refine wpLoad_step ?va1 rfl (fun w' hS => ?ya1) ?ka1
        case ya1 =>
          obtain ⟨g0, g1, g2, g3, _⟩ := hS
          go_simp
          try rfl
        case ka1 =>
        go_simp
        refine wpLoad_step ?va2 rfl (fun w' hS => ?ya2) ?ka2
        case ya2 =>
          obtain ⟨g0, g1, g2, g3, _⟩ := hS
          go_simp
          try rfl
        case ka2 =>
        go_simp
        refine wpLoad_step ?va3 rfl (fun w' hS => ?ya3) ?ka3
        case ya3 =>
          obtain ⟨g0, g1, g2, g3, _⟩ := hS
          go_simp
          try rfl
        case ka3 =>
        go_simp
        refine wpLoad_step ?va4 rfl (fun w' hS => ?ya4) ?ka4
        case ya4 =>
          obtain ⟨g0, g1, g2, g3, _⟩ := hS
          go_simp
          try rfl
        case ka4 =>
        go_simp
        refine wpLoad_step ?va5 rfl (fun w' hS => ?ya5) ?ka5
        case ya5 =>
          obtain ⟨g0, g1, g2, g3, _⟩ := hS
          go_simp
          try rfl
        case ka5 =>
        go_simp
        refine wpLoad_step ?va6 rfl (fun w' hS => ?ya6) ?ka6
        case ya6 =>
          obtain ⟨g0, g1, g2, g3, _⟩ := hS
          go_simp
          try rfl
        case ka6 =>
        go_simp
        refine wpLoad_step ?va7 rfl (fun w' hS => ?ya7) ?ka7
        case ya7 =>
          obtain ⟨g0, g1, g2, g3, _⟩ := hS
          go_simp
          try rfl
        case ka7 =>
        go_simp
        refine wpLoad_step (.bool (!decide (x = y))) rfl (fun w' hS => ?ya8) ?ka8
        case ya8 =>
          go_simp
          simp only [bs_toList]
          by_cases h1 : x.1 = y.1 <;> by_cases h2 : x.2 = y.2 <;> simp [h1, h2, Prod.ext_iff]
        case ka8 =>
        by_cases he : x = y
        · have hq : decide (x = y) = true := decide_eq_true he
          have HE := Lib.hid he
          rw [hq]
          clear hq he
          refine wpLoad_nil ?_
          refine wpKeep_nil ?_
          go_wp2
          refine NoPanic.normal ?_
          go_wp2
          go_roundw
          case rel => exact ⟨k + 1, by omega, by go_num, HB.out.drew, by rw [take_snoc HX.out, take_snoc HY.out, HP.out, HE.out]⟩
          case measure => simp [intOf]; omega
        · have hq : decide (x = y) = false := decide_eq_false he
          have HE := Lib.hid he
          rw [hq]
          clear hq he
          refine wpLoad_nil ?_
          refine wpKeep_nil ?_
          go_wp2
          refine NoPanic.normal ?_
          go_wp2
          go_ret
          refine ⟨_, rfl, ⟨(fun h => by cases h), fun h => ?_⟩, HB.out.drew⟩
          have e1 := HX.out
          rw [h, HY.out] at e1
          exact absurd (Option.some.inj e1).symm HE.out
      · have HB := Lib.hid hB
        clear hB
        go_wp2
        go_ret
        refine ⟨_, rfl, ⟨fun _ => ?_, fun _ => rfl⟩, HB.out⟩
        have hp := HP.out
        rwa [List.take_of_length_le (by rw [← HM.out]; omega), List.take_of_length_le (by rw [← HLL.out, ← HM.out]; omega)] at hp
  · have hne : xs ≠ ys := fun e => hll (by rw [e])
    obtain ⟨m, hm⟩ : ∃ m, m = xs.length := ⟨_, rfl⟩
    obtain ⟨m2, hm2⟩ : ∃ m2, m2 = ys.length := ⟨_, rfl⟩
    rw [← hm, ← hm2] at hll ⊢
    have HNE := Lib.hid hne
    have hq : ((m : Int) != (m2 : Int)) = true := by simp; omega
    have hq2 : ((m : Int) == (m2 : Int)) = false := by simp; omega
    clear hm hm2 h h2 hl hne
    go_enter Try.func21, Try.ntmps21
    go_wp2
    go_ret
    exact ⟨_, rfl, ⟨(fun h => by cases h), fun h => absurd h HNE.out⟩, Below.refl _ _⟩
end Go.Proofs.Ytcliegpofhjpcaa
