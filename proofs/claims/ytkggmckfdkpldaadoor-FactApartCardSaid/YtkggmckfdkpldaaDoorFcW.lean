/-
  The walks of ref10.SameNumbers and SameCode.
  Conditions: the arguments read as ints and codes.
-/
import Derived.Test.YtkggmckfdkpldaaDoorFcC
import Derived.Test.YtkggmckfdkpldaaDoorBtwk
namespace Go.Proofs.YtkggmckfdkpldaaDoor
open Go.RowKit

theorem take_same {α : Type} {a b : List α} {n : Nat} (ha : a.length = n) (hb : b.length = n) (h : a.take n = b.take n) : a = b := by
  rw [List.take_of_length_le (by omega), List.take_of_length_le (by omega)] at h
  exact h
theorem take_next {α : Type} {a b : List α} {k : Nat} {x y : α} (h : a.take k = b.take k) (hx : a[k]? = some x) (hy : b[k]? = some y) (e : x = y) : a.take (k + 1) = b.take (k + 1) := by
  rw [List.take_add_one, List.take_add_one, h, hx, hy, e]
set_option maxHeartbeats 1600000 in
set_option maxRecDepth 100000 in
theorem sameNumbers_any (a b : List Int) (A B : Option Addr) (c d : Nat) (w : World) (ha : Row w (Lt w.heap.size) A (a.map iv)) (hb : Row w (Lt w.heap.size) B (b.map iv)) (hn : a.length ≤ 1000000000000) :
    Calls Tryd.prog 36 #[.slice A a.length c, .slice B b.length d] w (Says (a = b) w) := by
  obtain ⟨n, hn1⟩ : ∃ n, n = a.length := ⟨_, rfl⟩
  obtain ⟨m, hm1⟩ : ∃ m, m = b.length := ⟨_, rfl⟩
  rw [← hn1] at hn
  rw [← hn1, ← hm1]
  have HN := Lib.hid hn1
  have HM := Lib.hid hm1
  have HA := Lib.hid ha
  have HBR := Lib.hid hb
  clear hn1 hm1 ha hb
  by_cases hnm : n = m
  · subst hnm
    go_enter Tryd.func36, Tryd.ntmps36
    go_wp2_with fail
    go_loopw [5] (fun i wr => ∃ k : Nat, k ≤ n ∧ i = .int .i64 k ∧ a.take k = b.take k ∧ Below w.heap.size w wr) (fun i _ => n - (intOf i).toNat)
    case atStart => exact ⟨0, Nat.zero_le _, rfl, rfl, Below.refl _ _⟩
    case round =>
      obtain ⟨k, hk, rfl, heq, hb⟩ := hrel
      have HB := Lib.hid hb
      have HQ := Lib.hid heq
      clear heq
      by_cases hlt : k < n
      · obtain ⟨x, hx⟩ : ∃ x, a[k]? = some x := ⟨_, List.getElem?_eq_getElem (by rw [← HN.out]; exact hlt)⟩
        obtain ⟨y, hy⟩ : ∃ y, b[k]? = some y := ⟨_, List.getElem?_eq_getElem (by rw [← HM.out]; exact hlt)⟩
        obtain ⟨ad, hA, _, a0⟩ := int_at (HA.out.keep (kept_below hb)) hx
        obtain ⟨be, hBE, _, b0⟩ := int_at (HBR.out.keep (kept_below hb)) hy
        have HX := Lib.hid hx
        have HY := Lib.hid hy
        have HAD := Lib.hid hA
        have HBE := Lib.hid hBE
        have hik : (0 : Int) ≤ (k : Int) ∧ (k : Int) < (n : Int) := ⟨by omega, by omega⟩
        have HS0 : Hid (AtCells [(ad.add k, iv x), (be.add k, iv y)] wr.drew) := Lib.hid ⟨a0, b0, trivial⟩
        rw [hA, hBE]
        clear hA hBE hx hy hb a0 b0
        go_wp2_with fail
        refine wp_region_mix (AtCells [(ad.add k, iv x), (be.add k, iv y)]) [(true, 0), (true, 1), (true, 2), (true, 3), (true, 4), (true, 5), (true, 6), (true, 7), (true, 8)] [] (by kernel_rfl) (by kernel_rfl) HS0.out ?ha
        case ha =>
        simp only [mixAt, List.filterMap_cons, List.filterMap_nil, List.getElem?_toArray, List.getElem?_cons_succ, List.getElem?_cons_zero, Option.map_some]
        refine wpMix_load ?vaa0 rfl (fun w' hS => ?yaa0) ?kaa0
        case yaa0 =>
          obtain ⟨g0, g1, _⟩ := hS
          go_simp
          try rfl
        case kaa0 =>
        go_simp
        refine wpMix_load ?vaa1 rfl (fun w' hS => ?yaa1) ?kaa1
        case yaa1 =>
          obtain ⟨g0, g1, _⟩ := hS
          go_simp
          try rfl
        case kaa1 =>
        go_simp
        refine wpMix_load ?vaa2 rfl (fun w' hS => ?yaa2) ?kaa2
        case yaa2 =>
          obtain ⟨g0, g1, _⟩ := hS
          go_simp
          try rfl
        case kaa2 =>
        go_simp
        refine wpMix_load ?vaa3 rfl (fun w' hS => ?yaa3) ?kaa3
        case yaa3 =>
          obtain ⟨g0, g1, _⟩ := hS
          go_simp
          try rfl
        case kaa3 =>
        go_simp
        refine wpMix_load ?vaa4 rfl (fun w' hS => ?yaa4) ?kaa4
        case yaa4 =>
          obtain ⟨g0, g1, _⟩ := hS
          go_simp
          try rfl
        case kaa4 =>
        go_simp
        refine wpMix_load ?vaa5 rfl (fun w' hS => ?yaa5) ?kaa5
        case yaa5 =>
          obtain ⟨g0, g1, _⟩ := hS
          go_simp
          try rfl
        case kaa5 =>
        go_simp
        refine wpMix_load ?vaa6 rfl (fun w' hS => ?yaa6) ?kaa6
        case yaa6 =>
          obtain ⟨g0, g1, _⟩ := hS
          go_simp
          try rfl
        case kaa6 =>
        go_simp
        refine wpMix_load ?vaa7 rfl (fun w' hS => ?yaa7) ?kaa7
        case yaa7 =>
          obtain ⟨g0, g1, _⟩ := hS
          go_simp
          try rfl
        case kaa7 =>
        go_simp
        refine wpMix_load ?vaa8 rfl (fun w' hS => ?yaa8) ?kaa8
        case yaa8 =>
          obtain ⟨g0, g1, _⟩ := hS
          go_simp
          try rfl
        case kaa8 =>
        go_simp
        refine wpMix_nil ?_
        simp only [opsAt, List.filterMap_cons, List.filterMap_nil, List.getElem?_toArray, List.getElem?_cons_succ, List.getElem?_cons_zero]
        by_cases hxy : x = y
        · subst hxy
          go_wp2
          refine NoPanic.normal ?_
          go_wp2
          try rw [← HAD.out, ← HBE.out]
          go_roundw
          case rel => exact ⟨k + 1, by omega, by go_num, take_next HQ.out HX.out HY.out rfl, HB.out.drew⟩
          case measure => simp [intOf]; omega
        · have HRES : Hid (Says (a = b) w (.returned (.bool false)) wr.drew) := Lib.hid ⟨false, rfl, ⟨(fun e => by cases e), fun e => by
            have h1 := HX.out
            rw [e, HY.out] at h1
            exact absurd (Option.some.inj h1).symm hxy⟩, HB.out.drew⟩
          have hq : (x == y) = false := by simp [hxy]
          have hq2 : (x != y) = true := by simp [hxy]
          clear hxy
          go_wp2
          refine NoPanic.normal ?_
          go_wp2
          go_ret
          exact HRES.out
      · obtain rfl : k = n := by omega
        have HRES : Hid (Says (a = b) w (.returned (.bool true)) wr) := Lib.hid ⟨true, rfl, ⟨fun _ => take_same HN.out.symm HM.out.symm HQ.out, fun _ => rfl⟩, hb⟩
        clear hb
        go_wp2
        go_ret
        exact HRES.out
  · have HRES : Hid (Says (a = b) w (.returned (.bool false)) w) := Lib.hid ⟨false, rfl, ⟨(fun e => by cases e), fun e => absurd (by rw [HN.out, HM.out, e]) hnm⟩, Below.refl _ _⟩
    have hq : ¬ (n : Int) = (m : Int) := fun e => hnm (by omega)
    go_enter Tryd.func36, Tryd.ntmps36
    go_wp2
    go_ret
    exact HRES.out
end Go.Proofs.YtkggmckfdkpldaaDoor
