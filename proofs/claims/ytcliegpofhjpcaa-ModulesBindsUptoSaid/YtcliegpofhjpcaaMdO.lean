/-
  The walk of modules.order.
  Conditions: none.
-/
import Derived.Test.YtcliegpofhjpcaaMdM
import Derived.Test.YtcliegpofhjpcaaBcmp
import Derived.Test.YtcliegpofhjpcaaBsch
import Derived.Sort.Grow
namespace Go.Proofs.Ytcliegpofhjpcaa
open Go.RowKit Go.Sort

set_option maxHeartbeats 400000 in
set_option maxRecDepth 100000 in
theorem order_any (x y : Key) (w : World) : Calls Try.prog 25 #[bdV x, bdV y] w fun e w' => e = .returned (.int .i64 (ordK x y)) ∧ ∃ q os, w' = grow (w.drewN q) os := by
  have hc := alloc2 w (.cells #[sv x.1, sv x.2] 42) (.cells #[sv y.1, sv y.2] 42)
  have hb : Below w.heap.size w ((w.alloc (.cells #[sv x.1, sv x.2] 42)).alloc (.cells #[sv y.1, sv y.2] 42)) := ((Below.refl _ _).alloc (Nat.le_refl _) _).alloc (by simp) _
  have hs : ((w.alloc (.cells #[sv x.1, sv x.2] 42)).alloc (.cells #[sv y.1, sv y.2] 42)).heap.size = w.heap.size + 2 := by simp
  go_enter Try.func25, Try.ntmps25
  go_wp2_with fail
  obtain ⟨w1, hw1⟩ : ∃ w1, w1 = ((w.alloc (.cells #[sv x.1, sv x.2] 42)).alloc (.cells #[sv y.1, sv y.2] 42)) := ⟨_, rfl⟩
  rw [← hw1] at hb hc hs ⊢
  have HW := Lib.hid hw1
  clear hw1
  have p0 : w1.cell? ⟨w.heap.size, 0, none⟩ = some (sv x.1) := (Lib.cell_of_heap hc.1 _).trans rfl
  have p1 : w1.cell? ⟨w.heap.size, 1, none⟩ = some (sv x.2) := (Lib.cell_of_heap hc.1 _).trans rfl
  have q0 : w1.cell? ⟨w.heap.size + 1, 0, none⟩ = some (sv y.1) := (Lib.cell_of_heap hc.2 _).trans rfl
  have q1 : w1.cell? ⟨w.heap.size + 1, 1, none⟩ = some (sv y.2) := (Lib.cell_of_heap hc.2 _).trans rfl
  have HB := Lib.hid hb
  have HS := Lib.hid hs
  clear hb hc hs
  refine wp_region_held' (fun w' => w'.cell? ⟨w.heap.size, 0, none⟩ = some (sv x.1) ∧ w'.cell? ⟨w.heap.size, 1, none⟩ = some (sv x.2) ∧ w'.cell? ⟨w.heap.size + 1, 0, none⟩ = some (sv y.1) ∧ w'.cell? ⟨w.heap.size + 1, 1, none⟩ = some (sv y.2)) [] [0, 1, 2, 3, 5, 6, 7, 8] [4, 9] [10, 11, 12] (by kernel_rfl) (by kernel_rfl) ?s0 ?h0
  case s0 => exact ⟨p0, p1, q0, q1⟩
  case h0 =>
    simp only [opsAt, List.filterMap_cons, List.filterMap_nil, List.getElem?_toArray, List.getElem?_cons_succ, List.getElem?_cons_zero]
    refine wpFloat_nil ?_
    refine wpLoad_step ?va0 rfl (fun w' hS => ?ya0) ?ka0
    case ya0 =>
      obtain ⟨g0, g1, g2, g3⟩ := hS
      go_simp
      try rfl
    case ka0 =>
    go_simp
    refine wpLoad_step ?va1 rfl (fun w' hS => ?ya1) ?ka1
    case ya1 =>
      obtain ⟨g0, g1, g2, g3⟩ := hS
      go_simp
      try rfl
    case ka1 =>
    go_simp
    refine wpLoad_step ?va2 rfl (fun w' hS => ?ya2) ?ka2
    case ya2 =>
      obtain ⟨g0, g1, g2, g3⟩ := hS
      go_simp
      try rfl
    case ka2 =>
    go_simp
    refine wpLoad_step ?va3 rfl (fun w' hS => ?ya3) ?ka3
    case ya3 =>
      obtain ⟨g0, g1, g2, g3⟩ := hS
      go_simp
      try rfl
    case ka3 =>
    go_simp
    refine wpLoad_step ?va4 rfl (fun w' hS => ?ya4) ?ka4
    case ya4 =>
      obtain ⟨g0, g1, g2, g3⟩ := hS
      go_simp
      try rfl
    case ka4 =>
    go_simp
    refine wpLoad_step ?va5 rfl (fun w' hS => ?ya5) ?ka5
    case ya5 =>
      obtain ⟨g0, g1, g2, g3⟩ := hS
      go_simp
      try rfl
    case ka5 =>
    go_simp
    refine wpLoad_step ?va6 rfl (fun w' hS => ?ya6) ?ka6
    case ya6 =>
      obtain ⟨g0, g1, g2, g3⟩ := hS
      go_simp
      try rfl
    case ka6 =>
    go_simp
    refine wpLoad_step ?va7 rfl (fun w' hS => ?ya7) ?ka7
    case ya7 =>
      obtain ⟨g0, g1, g2, g3⟩ := hS
      go_simp
      try rfl
    case ka7 =>
    go_simp
    refine wpLoad_nil ?_
    refine wpKeep_step rfl ?_
    go_simp
    refine (cmpS_any _ _ _).mono ?_
    rintro e wa ⟨rfl, rfl⟩
    refine ⟨⟨p0, p1, q0, q1⟩, ?_⟩
    refine wpKeep_step rfl ?_
    go_simp
    refine (cmpS_any _ _ _).mono ?_
    rintro e wa ⟨rfl, rfl⟩
    refine ⟨⟨p0, p1, q0, q1⟩, ?_⟩
    refine wpKeep_nil ?_
    have hn := alloc1 w1 (.cells #[.int .i64 (cmpS x.1 y.1), .int .i64 (cmpS x.2 y.2)] 3)
    have k0 : (w1.alloc (.cells #[.int .i64 (cmpS x.1 y.1), .int .i64 (cmpS x.2 y.2)] 3)).drew.cell? (Addr.add ⟨w1.heap.size, 0, none⟩ 0) = some (.int .i64 (cmpS x.1 y.1)) := (Lib.cell_of_heap hn _).trans rfl
    have k1 : (w1.alloc (.cells #[.int .i64 (cmpS x.1 y.1), .int .i64 (cmpS x.2 y.2)] 3)).drew.cell? (Addr.add ⟨w1.heap.size, 0, none⟩ 1) = some (.int .i64 (cmpS x.2 y.2)) := (Lib.cell_of_heap hn _).trans rfl
    have HC := Lib.hid (or_any _ _ _ _ k0 k1)
    clear k0 k1 hn p0 p1 q0 q1
    go_wp2_with fail
    refine HC.out.mono ?_
    rintro e wc ⟨rfl, rfl⟩
    go_wp2
    refine NoPanic.normal ?_
    go_wp2
    go_ret
    refine ⟨rfl, 1, #[.cells #[sv x.1, sv x.2] 42, .cells #[sv y.1, sv y.2] 42, .cells #[.int .i64 (cmpS x.1 y.1), .int .i64 (cmpS x.2 y.2)] 3], ?_⟩
    rw [HW.out]
    simp only [alloc_eq_grow, grow_grow, drew_grow]
    rfl
end Go.Proofs.Ytcliegpofhjpcaa
