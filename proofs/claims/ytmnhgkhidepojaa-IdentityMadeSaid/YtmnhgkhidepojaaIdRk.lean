/-
  The walk of ref05.Check.
  Conditions: the argument reads as identities.
-/
import Derived.Test.YtmnhgkhidepojaaIdR
import Derived.Test.YtmnhgkhidepojaaIdC
namespace Go.Proofs.Ytmnhgkhidepojaa
open Go.RowKit

theorem lastId_take {xs : List Idn} {k : Nat} {p : Idn} (h : xs[k]? = some p) : lastId (xs.take (k + 1)) = p.id := by
  rw [List.take_add_one, h]
  exact lastId_snoc _ _

set_option maxHeartbeats 1600000 in
set_option maxRecDepth 100000 in
theorem rcheck_any (n : Int) (xs : List Idn) (A : Option Addr) (c : Nat) (w : World) (hl : xs.length ≤ 1000) (h : Row w (Lt w.heap.size) A (flt idC xs)) :
    Calls Try.prog 20 #[.agg #[.int .i64 n, .slice A xs.length c]] w (Says (Chk n xs) w) := by
  obtain ⟨m, hm⟩ : ∃ m, m = xs.length := ⟨_, rfl⟩
  rw [← hm] at hl ⊢
  have HM := Lib.hid hm
  have HR := Lib.hid h
  have hb : Below w.heap.size w (w.alloc (.cells #[.int .i64 n, .slice A m c] 29)) := (Below.refl _ _).alloc (Nat.le_refl _) _
  have hx0 := alloc1 w (.cells #[.int .i64 n, .slice A m c] 29)
  have HB := Lib.hid hb
  have HX0 := Lib.hid hx0
  clear hm h hb hx0
  by_cases h1 : n < 1
  · go_enter Try.func20, Try.ntmps20
    go_wp2
    go_ret
    exact ⟨_, rfl, ⟨(fun h => by cases h), fun h => by have := h.1; omega⟩, HB.out⟩
  by_cases h2 : top < n
  · have h3 : (1099511627776 : Int) < n := h2
    go_enter Try.func20, Try.ntmps20
    go_wp2
    go_ret
    exact ⟨_, rfl, ⟨(fun h => by cases h), fun h => by have := h.2.1; omega⟩, HB.out⟩
  have h3 : ¬ (1099511627776 : Int) < n := h2
  rw [Int.not_lt] at h1 h2 h3
  go_enter Try.func20, Try.ntmps20
  go_wp2_with fail
  obtain ⟨w0, hw0⟩ : ∃ w0, w0 = (w.alloc (.cells #[.int .i64 n, .slice A m c] 29)) := ⟨_, rfl⟩
  rw [← hw0] at HB HX0 ⊢
  clear hw0
  go_loopw [3] (fun i wr => ∃ k : Nat, k ≤ m ∧ i = .int .i64 k ∧ Below w.heap.size w wr ∧ wr.heap[w.heap.size]? = some (.cells #[.int .i64 n, .slice A m c] 29 (0, 0)) ∧ ChkP n (xs.take k)) (fun i _ => m - (intOf i).toNat)
  case atStart => exact ⟨0, by omega, rfl, HB.out, HX0.out, ⟨fun y hy => by simp at hy, by simp, by simp⟩⟩
  case round =>
    clear HB HX0
    obtain ⟨k, hkm, rfl, hB, hX, hP⟩ := hrel
    have hsz := hB.size
    have hlx := lt_of_heap hX
    have c0 : wr.cell? ⟨w.heap.size, 0, none⟩ = some (.int .i64 n) := (Lib.cell_of_heap hX _).trans rfl
    have c1 : wr.cell? ⟨w.heap.size, 1, none⟩ = some (.slice A m c) := (Lib.cell_of_heap hX _).trans rfl
    have HB := Lib.hid hB
    have HX := Lib.hid hX
    have HP := Lib.hid hP
    clear hB hX hP
    by_cases hlt : k < m
    · obtain ⟨y, hy⟩ : ∃ y, xs[k]? = some y := ⟨_, List.getElem?_eq_getElem (by rw [← HM.out]; exact hlt)⟩
      have htk : xs.take (k + 1) = xs.take k ++ [y] := by rw [List.take_add_one, hy]; rfl
      have HTK := Lib.hid htk
      have HY := Lib.hid hy
      obtain ⟨ad, rfl, hS, a0, a1, a2, a3⟩ := id_at (HR.out.keep (kept_below HB.out)) hy
      have hik : (0 : Int) ≤ (k : Int) ∧ (k : Int) < (m : Int) := ⟨by omega, by omega⟩
      clear htk hy
      go_wp2_with fail
      by_cases hA1 : y.id < 1
      · refine wp_region_held' (fun w' => w'.cell? ⟨w.heap.size, 0, none⟩ = some (.int .i64 n) ∧ w'.cell? ⟨w.heap.size, 1, none⟩ = some (.slice (some ad) m c) ∧ w'.cell? (ad.add (k * 4)) = some (.int .i64 y.id)) [] [0, 1, 2, 3, 4, 5, 6, 7, 8, 9, 10, 11, 12, 13, 14, 15, 16, 17, 18, 19, 20, 21, 22, 23, 24, 25, 26, 27, 28, 29, 30, 31, 32, 33, 34, 35, 36, 37] [] [] (by kernel_rfl) (by kernel_rfl) ?sa ?ha
        case sa => exact ⟨c0, c1, a0⟩
        case ha =>
        simp only [opsAt, List.filterMap_cons, List.filterMap_nil, List.getElem?_toArray, List.getElem?_cons_succ, List.getElem?_cons_zero]
        refine wpFloat_nil ?_
        refine wpLoad_step ?va0 rfl (fun w' hS => ?ya0) ?ka0
        case ya0 =>
          obtain ⟨g0, g1, g2⟩ := hS
          go_simp
          try rfl
        case ka0 =>
        go_simp
        refine wpLoad_step ?va1 rfl (fun w' hS => ?ya1) ?ka1
        case ya1 =>
          obtain ⟨g0, g1, g2⟩ := hS
          go_simp
          try rfl
        case ka1 =>
        go_simp
        refine wpLoad_step ?va2 rfl (fun w' hS => ?ya2) ?ka2
        case ya2 =>
          obtain ⟨g0, g1, g2⟩ := hS
          go_simp
          try rfl
        case ka2 =>
        go_simp
        refine wpLoad_step ?va3 rfl (fun w' hS => ?ya3) ?ka3
        case ya3 =>
          obtain ⟨g0, g1, g2⟩ := hS
          go_simp
          try rfl
        case ka3 =>
        go_simp
        refine wpLoad_step ?va4 rfl (fun w' hS => ?ya4) ?ka4
        case ya4 =>
          obtain ⟨g0, g1, g2⟩ := hS
          go_simp
          try rfl
        case ka4 =>
        go_simp
        refine wpLoad_step ?va5 rfl (fun w' hS => ?ya5) ?ka5
        case ya5 =>
          obtain ⟨g0, g1, g2⟩ := hS
          go_simp
          try rfl
        case ka5 =>
        go_simp
        refine wpLoad_step ?va6 rfl (fun w' hS => ?ya6) ?ka6
        case ya6 =>
          obtain ⟨g0, g1, g2⟩ := hS
          go_simp
          try rfl
        case ka6 =>
        go_simp
        refine wpLoad_step ?va7 rfl (fun w' hS => ?ya7) ?ka7
        case ya7 =>
          obtain ⟨g0, g1, g2⟩ := hS
          go_simp
          try rfl
        case ka7 =>
        go_simp
        refine wpLoad_skip rfl ?_
        go_simp
        refine wpLoad_skip rfl ?_
        go_simp
        refine wpLoad_skip rfl ?_
        go_simp
        refine wpLoad_skip rfl ?_
        go_simp
        refine wpLoad_skip rfl ?_
        go_simp
        refine wpLoad_skip rfl ?_
        go_simp
        refine wpLoad_skip rfl ?_
        go_simp
        refine wpLoad_skip rfl ?_
        go_simp
        refine wpLoad_skip rfl ?_
        go_simp
        refine wpLoad_step ?va17 rfl (fun w' hS => ?ya17) ?ka17
        case ya17 =>
          obtain ⟨g0, g1, g2⟩ := hS
          go_simp
          try rfl
        case ka17 =>
        go_simp
        refine wpLoad_step ?va18 rfl (fun w' hS => ?ya18) ?ka18
        case ya18 =>
          obtain ⟨g0, g1, g2⟩ := hS
          go_simp
          try rfl
        case ka18 =>
        go_simp
        refine wpLoad_skip rfl ?_
        go_simp
        refine wpLoad_skip rfl ?_
        go_simp
        refine wpLoad_skip rfl ?_
        go_simp
        refine wpLoad_skip rfl ?_
        go_simp
        refine wpLoad_skip rfl ?_
        go_simp
        refine wpLoad_skip rfl ?_
        go_simp
        refine wpLoad_skip rfl ?_
        go_simp
        refine wpLoad_skip rfl ?_
        go_simp
        refine wpLoad_skip rfl ?_
        go_simp
        refine wpLoad_skip rfl ?_
        go_simp
        refine wpLoad_skip rfl ?_
        go_simp
        refine wpLoad_skip rfl ?_
        go_simp
        refine wpLoad_skip rfl ?_
        go_simp
        refine wpLoad_skip rfl ?_
        go_simp
        refine wpLoad_skip rfl ?_
        go_simp
        refine wpLoad_skip rfl ?_
        go_simp
        refine wpLoad_skip rfl ?_
        go_simp
        refine wpLoad_skip rfl ?_
        go_simp
        refine wpLoad_step ?va37 rfl (fun w' hS => ?ya37) ?ka37
        case ya37 =>
          obtain ⟨g0, g1, g2⟩ := hS
          go_simp
          try rfl
        case ka37 =>
        go_simp
        refine wpLoad_nil ?_
        refine wpKeep_nil ?_
        go_wp2
        refine NoPanic.normal ?_
        go_wp2
        go_ret
        refine ⟨_, rfl, ⟨(fun h => by cases h), fun h => ?_⟩, HB.out.trans ((Below.refl _ wr).drew.mono hsz)⟩
        have h5 : ChkP n (xs.take (k + 1)) := chkP_take ⟨h.2.2.1, h.2.2.2⟩ _
        rw [HTK.out] at h5
        have := (h5.1 y (by simp)).1
        omega
      by_cases hA2 : n ≤ y.id
      · refine wp_region_held' (fun w' => w'.cell? ⟨w.heap.size, 0, none⟩ = some (.int .i64 n) ∧ w'.cell? ⟨w.heap.size, 1, none⟩ = some (.slice (some ad) m c) ∧ w'.cell? (ad.add (k * 4)) = some (.int .i64 y.id)) [] [0, 1, 2, 3, 4, 5, 6, 7, 8, 9, 10, 11, 12, 13, 14, 15, 16, 17, 18, 19, 20, 21, 22, 23, 24, 25, 26, 27, 28, 29, 30, 31, 32, 33, 34, 35, 36, 37] [] [] (by kernel_rfl) (by kernel_rfl) ?sb ?hb
        case sb => exact ⟨c0, c1, a0⟩
        case hb =>
        simp only [opsAt, List.filterMap_cons, List.filterMap_nil, List.getElem?_toArray, List.getElem?_cons_succ, List.getElem?_cons_zero]
        refine wpFloat_nil ?_
        refine wpLoad_step ?vb0 rfl (fun w' hS => ?yb0) ?kb0
        case yb0 =>
          obtain ⟨g0, g1, g2⟩ := hS
          go_simp
          try rfl
        case kb0 =>
        go_simp
        refine wpLoad_step ?vb1 rfl (fun w' hS => ?yb1) ?kb1
        case yb1 =>
          obtain ⟨g0, g1, g2⟩ := hS
          go_simp
          try rfl
        case kb1 =>
        go_simp
        refine wpLoad_step ?vb2 rfl (fun w' hS => ?yb2) ?kb2
        case yb2 =>
          obtain ⟨g0, g1, g2⟩ := hS
          go_simp
          try rfl
        case kb2 =>
        go_simp
        refine wpLoad_step ?vb3 rfl (fun w' hS => ?yb3) ?kb3
        case yb3 =>
          obtain ⟨g0, g1, g2⟩ := hS
          go_simp
          try rfl
        case kb3 =>
        go_simp
        refine wpLoad_step ?vb4 rfl (fun w' hS => ?yb4) ?kb4
        case yb4 =>
          obtain ⟨g0, g1, g2⟩ := hS
          go_simp
          try rfl
        case kb4 =>
        go_simp
        refine wpLoad_step ?vb5 rfl (fun w' hS => ?yb5) ?kb5
        case yb5 =>
          obtain ⟨g0, g1, g2⟩ := hS
          go_simp
          try rfl
        case kb5 =>
        go_simp
        refine wpLoad_step ?vb6 rfl (fun w' hS => ?yb6) ?kb6
        case yb6 =>
          obtain ⟨g0, g1, g2⟩ := hS
          go_simp
          try rfl
        case kb6 =>
        go_simp
        refine wpLoad_step ?vb7 rfl (fun w' hS => ?yb7) ?kb7
        case yb7 =>
          obtain ⟨g0, g1, g2⟩ := hS
          go_simp
          try rfl
        case kb7 =>
        go_simp
        refine wpLoad_step ?vb8 rfl (fun w' hS => ?yb8) ?kb8
        case yb8 =>
          obtain ⟨g0, g1, g2⟩ := hS
          go_simp
          try rfl
        case kb8 =>
        go_simp
        refine wpLoad_step ?vb9 rfl (fun w' hS => ?yb9) ?kb9
        case yb9 =>
          obtain ⟨g0, g1, g2⟩ := hS
          go_simp
          try rfl
        case kb9 =>
        go_simp
        refine wpLoad_step ?vb10 rfl (fun w' hS => ?yb10) ?kb10
        case yb10 =>
          obtain ⟨g0, g1, g2⟩ := hS
          go_simp
          try rfl
        case kb10 =>
        go_simp
        refine wpLoad_step ?vb11 rfl (fun w' hS => ?yb11) ?kb11
        case yb11 =>
          obtain ⟨g0, g1, g2⟩ := hS
          go_simp
          try rfl
        case kb11 =>
        go_simp
        refine wpLoad_step ?vb12 rfl (fun w' hS => ?yb12) ?kb12
        case yb12 =>
          obtain ⟨g0, g1, g2⟩ := hS
          go_simp
          try rfl
        case kb12 =>
        go_simp
        refine wpLoad_step ?vb13 rfl (fun w' hS => ?yb13) ?kb13
        case yb13 =>
          obtain ⟨g0, g1, g2⟩ := hS
          go_simp
          try rfl
        case kb13 =>
        go_simp
        refine wpLoad_step ?vb14 rfl (fun w' hS => ?yb14) ?kb14
        case yb14 =>
          obtain ⟨g0, g1, g2⟩ := hS
          go_simp
          try rfl
        case kb14 =>
        go_simp
        refine wpLoad_step ?vb15 rfl (fun w' hS => ?yb15) ?kb15
        case yb15 =>
          obtain ⟨g0, g1, g2⟩ := hS
          go_simp
          try rfl
        case kb15 =>
        go_simp
        refine wpLoad_step ?vb16 rfl (fun w' hS => ?yb16) ?kb16
        case yb16 =>
          obtain ⟨g0, g1, g2⟩ := hS
          go_simp
          try rfl
        case kb16 =>
        go_simp
        refine wpLoad_step ?vb17 rfl (fun w' hS => ?yb17) ?kb17
        case yb17 =>
          obtain ⟨g0, g1, g2⟩ := hS
          go_simp
          try rfl
        case kb17 =>
        go_simp
        refine wpLoad_step ?vb18 rfl (fun w' hS => ?yb18) ?kb18
        case yb18 =>
          obtain ⟨g0, g1, g2⟩ := hS
          go_simp
          try rfl
        case kb18 =>
        go_simp
        refine wpLoad_skip rfl ?_
        go_simp
        refine wpLoad_skip rfl ?_
        go_simp
        refine wpLoad_skip rfl ?_
        go_simp
        refine wpLoad_skip rfl ?_
        go_simp
        refine wpLoad_skip rfl ?_
        go_simp
        refine wpLoad_skip rfl ?_
        go_simp
        refine wpLoad_skip rfl ?_
        go_simp
        refine wpLoad_skip rfl ?_
        go_simp
        refine wpLoad_skip rfl ?_
        go_simp
        refine wpLoad_skip rfl ?_
        go_simp
        refine wpLoad_skip rfl ?_
        go_simp
        refine wpLoad_skip rfl ?_
        go_simp
        refine wpLoad_skip rfl ?_
        go_simp
        refine wpLoad_skip rfl ?_
        go_simp
        refine wpLoad_skip rfl ?_
        go_simp
        refine wpLoad_skip rfl ?_
        go_simp
        refine wpLoad_skip rfl ?_
        go_simp
        refine wpLoad_skip rfl ?_
        go_simp
        refine wpLoad_step ?vb37 rfl (fun w' hS => ?yb37) ?kb37
        case yb37 =>
          obtain ⟨g0, g1, g2⟩ := hS
          go_simp
          try rfl
        case kb37 =>
        go_simp
        refine wpLoad_nil ?_
        refine wpKeep_nil ?_
        go_wp2
        refine NoPanic.normal ?_
        go_wp2
        go_ret
        refine ⟨_, rfl, ⟨(fun h => by cases h), fun h => ?_⟩, HB.out.trans ((Below.refl _ wr).drew.mono hsz)⟩
        have h5 : ChkP n (xs.take (k + 1)) := chkP_take ⟨h.2.2.1, h.2.2.2⟩ _
        rw [HTK.out] at h5
        have := (h5.1 y (by simp)).2
        omega
      by_cases hk0 : k = 0
      · have HK0 := Lib.hid hk0
        have hkp : ¬ (0 : Int) < (k : Int) := by omega
        have hkp2 : decide ((k : Int) > 0) = false := by simp; omega
        have hkp3 : ¬ 0 < k := by omega
        clear hk0
        refine wp_region_held' (fun w' => w'.cell? ⟨w.heap.size, 0, none⟩ = some (.int .i64 n) ∧ w'.cell? ⟨w.heap.size, 1, none⟩ = some (.slice (some ad) m c) ∧ w'.cell? (ad.add (k * 4)) = some (.int .i64 y.id)) [] [0, 1, 2, 3, 4, 5, 6, 7, 8, 9, 10, 11, 12, 13, 14, 15, 16, 17, 18, 19, 20, 21, 22, 23, 24, 25, 26, 27, 28, 29, 30, 31, 32, 33, 34, 35, 36, 37] [] [] (by kernel_rfl) (by kernel_rfl) ?sc ?hc
        case sc => exact ⟨c0, c1, a0⟩
        case hc =>
        simp only [opsAt, List.filterMap_cons, List.filterMap_nil, List.getElem?_toArray, List.getElem?_cons_succ, List.getElem?_cons_zero]
        refine wpFloat_nil ?_
        refine wpLoad_step ?vc0 rfl (fun w' hS => ?yc0) ?kc0
        case yc0 =>
          obtain ⟨g0, g1, g2⟩ := hS
          go_simp
          try rfl
        case kc0 =>
        go_simp
        refine wpLoad_step ?vc1 rfl (fun w' hS => ?yc1) ?kc1
        case yc1 =>
          obtain ⟨g0, g1, g2⟩ := hS
          go_simp
          try rfl
        case kc1 =>
        go_simp
        refine wpLoad_step ?vc2 rfl (fun w' hS => ?yc2) ?kc2
        case yc2 =>
          obtain ⟨g0, g1, g2⟩ := hS
          go_simp
          try rfl
        case kc2 =>
        go_simp
        refine wpLoad_step ?vc3 rfl (fun w' hS => ?yc3) ?kc3
        case yc3 =>
          obtain ⟨g0, g1, g2⟩ := hS
          go_simp
          try rfl
        case kc3 =>
        go_simp
        refine wpLoad_step ?vc4 rfl (fun w' hS => ?yc4) ?kc4
        case yc4 =>
          obtain ⟨g0, g1, g2⟩ := hS
          go_simp
          try rfl
        case kc4 =>
        go_simp
        refine wpLoad_step ?vc5 rfl (fun w' hS => ?yc5) ?kc5
        case yc5 =>
          obtain ⟨g0, g1, g2⟩ := hS
          go_simp
          try rfl
        case kc5 =>
        go_simp
        refine wpLoad_step ?vc6 rfl (fun w' hS => ?yc6) ?kc6
        case yc6 =>
          obtain ⟨g0, g1, g2⟩ := hS
          go_simp
          try rfl
        case kc6 =>
        go_simp
        refine wpLoad_step ?vc7 rfl (fun w' hS => ?yc7) ?kc7
        case yc7 =>
          obtain ⟨g0, g1, g2⟩ := hS
          go_simp
          try rfl
        case kc7 =>
        go_simp
        refine wpLoad_step ?vc8 rfl (fun w' hS => ?yc8) ?kc8
        case yc8 =>
          obtain ⟨g0, g1, g2⟩ := hS
          go_simp
          try rfl
        case kc8 =>
        go_simp
        refine wpLoad_step ?vc9 rfl (fun w' hS => ?yc9) ?kc9
        case yc9 =>
          obtain ⟨g0, g1, g2⟩ := hS
          go_simp
          try rfl
        case kc9 =>
        go_simp
        refine wpLoad_step ?vc10 rfl (fun w' hS => ?yc10) ?kc10
        case yc10 =>
          obtain ⟨g0, g1, g2⟩ := hS
          go_simp
          try rfl
        case kc10 =>
        go_simp
        refine wpLoad_step ?vc11 rfl (fun w' hS => ?yc11) ?kc11
        case yc11 =>
          obtain ⟨g0, g1, g2⟩ := hS
          go_simp
          try rfl
        case kc11 =>
        go_simp
        refine wpLoad_step ?vc12 rfl (fun w' hS => ?yc12) ?kc12
        case yc12 =>
          obtain ⟨g0, g1, g2⟩ := hS
          go_simp
          try rfl
        case kc12 =>
        go_simp
        refine wpLoad_step ?vc13 rfl (fun w' hS => ?yc13) ?kc13
        case yc13 =>
          obtain ⟨g0, g1, g2⟩ := hS
          go_simp
          try rfl
        case kc13 =>
        go_simp
        refine wpLoad_step ?vc14 rfl (fun w' hS => ?yc14) ?kc14
        case yc14 =>
          obtain ⟨g0, g1, g2⟩ := hS
          go_simp
          try rfl
        case kc14 =>
        go_simp
        refine wpLoad_step ?vc15 rfl (fun w' hS => ?yc15) ?kc15
        case yc15 =>
          obtain ⟨g0, g1, g2⟩ := hS
          go_simp
          try rfl
        case kc15 =>
        go_simp
        refine wpLoad_step ?vc16 rfl (fun w' hS => ?yc16) ?kc16
        case yc16 =>
          obtain ⟨g0, g1, g2⟩ := hS
          go_simp
          try rfl
        case kc16 =>
        go_simp
        refine wpLoad_step ?vc17 rfl (fun w' hS => ?yc17) ?kc17
        case yc17 =>
          obtain ⟨g0, g1, g2⟩ := hS
          go_simp
          try rfl
        case kc17 =>
        go_simp
        refine wpLoad_step ?vc18 rfl (fun w' hS => ?yc18) ?kc18
        case yc18 =>
          obtain ⟨g0, g1, g2⟩ := hS
          go_simp
          try rfl
        case kc18 =>
        go_simp
        refine wpLoad_step ?vc19 rfl (fun w' hS => ?yc19) ?kc19
        case yc19 =>
          obtain ⟨g0, g1, g2⟩ := hS
          go_simp
          try rfl
        case kc19 =>
        go_simp
        refine wpLoad_step ?vc20 rfl (fun w' hS => ?yc20) ?kc20
        case yc20 =>
          obtain ⟨g0, g1, g2⟩ := hS
          go_simp
          try rfl
        case kc20 =>
        go_simp
        refine wpLoad_step ?vc21 rfl (fun w' hS => ?yc21) ?kc21
        case yc21 =>
          obtain ⟨g0, g1, g2⟩ := hS
          go_simp
          try rfl
        case kc21 =>
        go_simp
        refine wpLoad_skip rfl ?_
        go_simp
        refine wpLoad_skip rfl ?_
        go_simp
        refine wpLoad_skip rfl ?_
        go_simp
        refine wpLoad_skip rfl ?_
        go_simp
        refine wpLoad_skip rfl ?_
        go_simp
        refine wpLoad_skip rfl ?_
        go_simp
        refine wpLoad_skip rfl ?_
        go_simp
        refine wpLoad_skip rfl ?_
        go_simp
        refine wpLoad_skip rfl ?_
        go_simp
        refine wpLoad_skip rfl ?_
        go_simp
        refine wpLoad_skip rfl ?_
        go_simp
        refine wpLoad_skip rfl ?_
        go_simp
        refine wpLoad_skip rfl ?_
        go_simp
        refine wpLoad_skip rfl ?_
        go_simp
        refine wpLoad_step ?vc36 rfl (fun w' hS => ?yc36) ?kc36
        case yc36 =>
          obtain ⟨g0, g1, g2⟩ := hS
          go_simp
          try rfl
        case kc36 =>
        go_simp
        refine wpLoad_step ?vc37 rfl (fun w' hS => ?yc37) ?kc37
        case yc37 =>
          obtain ⟨g0, g1, g2⟩ := hS
          go_simp
          try rfl
        case kc37 =>
        go_simp
        refine wpLoad_nil ?_
        refine wpKeep_nil ?_
        have HLI2 := Lib.hid (show lastId (xs.take k) < y.id by rw [HK0.out]; simp [lastId]; omega)
        clear HK0 hkp hkp2 hkp3
        go_wp2
        refine NoPanic.normal ?_
        go_wp2_with fail
        go_loopw [4] (fun j wj => ∃ q : Nat, q ≤ k ∧ j = .int .i64 q ∧ Below w.heap.size w wj ∧ wj.heap[w.heap.size]? = some (.cells #[.int .i64 n, .slice (some ad) m c] 29 (0, 0)) ∧ ∀ z ∈ xs.take q, z.key ≠ y.key) (fun j _ => k - (intOf j).toNat)
        case atStart => exact ⟨0, by omega, rfl, HB.out.trans ((Below.refl _ wr).drew.mono hsz), HX.out, fun z hz => by simp at hz⟩
        case round =>
          obtain ⟨q, hqk, rfl, hBq, hXq, hNq⟩ := hrel
          have hsq := hBq.size
          have HBq := Lib.hid hBq
          have HXq := Lib.hid hXq
          have HNq := Lib.hid hNq
          have d1 : wr.cell? ⟨w.heap.size, 1, none⟩ = some (.slice (some ad) m c) := (Lib.cell_of_heap hXq _).trans rfl
          clear hBq hXq hNq c0 c1 a0 a1 a2 a3
          by_cases hql : q < k
          · obtain ⟨z, hz⟩ : ∃ z, xs[q]? = some z := ⟨_, List.getElem?_eq_getElem (by rw [← HM.out]; omega)⟩
            have hrq := HR.out.keep (kept_below HBq.out)
            obtain ⟨ad', e', _, _, b1, b2, _⟩ := id_at hrq HY.out
            obtain rfl := Option.some.inj e'
            obtain ⟨ad', e', _, _, z1, z2, _⟩ := id_at hrq hz
            obtain rfl := Option.some.inj e'
            have hiq : (0 : Int) ≤ (q : Int) ∧ (q : Int) < (m : Int) := ⟨by omega, by omega⟩
            have HSK : Hid (z.key ≠ y.key → ∀ u ∈ xs.take (q + 1), u.key ≠ y.key) := Lib.hid fun hne u hu => by
              rw [List.take_add_one, hz] at hu
              rcases List.mem_append.1 hu with hu | hu
              · exact HNq.out u hu
              · simp at hu
                subst hu
                exact hne
            have HZ := Lib.hid hz
            clear hz hrq e'
            go_wp2_with fail
            by_cases e1 : y.it.md = z.it.md
            · have e1' : (bs y.it.md).toList = (bs z.it.md).toList := by rw [e1]
              have E1 := Lib.hid e1
              clear e1
              by_cases e2 : y.it.nm = z.it.nm
              · have e2' : (bs y.it.nm).toList = (bs z.it.nm).toList := by rw [e2]
                have E2 := Lib.hid e2
                clear e2
                refine wp_region_held' (fun w' => w'.cell? ⟨w.heap.size, 1, none⟩ = some (.slice (some ad) m c) ∧ w'.cell? ⟨(ad.add (k * 4)).block, (ad.add (k * 4)).off + 1, none⟩ = some (sv y.it.md) ∧ w'.cell? ⟨(ad.add (k * 4)).block, (ad.add (k * 4)).off + 2, none⟩ = some (sv y.it.nm) ∧ w'.cell? ⟨(ad.add (q * 4)).block, (ad.add (q * 4)).off + 1, none⟩ = some (sv z.it.md) ∧ w'.cell? ⟨(ad.add (q * 4)).block, (ad.add (q * 4)).off + 2, none⟩ = some (sv z.it.nm)) [] [0, 1, 2, 3, 4, 5, 6, 7, 8, 9, 10, 11, 12, 13, 14, 15, 16, 17, 18, 19, 20, 21, 22, 23, 24, 25, 26, 27, 28, 29, 30, 31] [] [] (by kernel_rfl) (by kernel_rfl) ?sua ?hua
                case sua => exact ⟨d1, b1, b2, z1, z2⟩
                case hua =>
                simp only [opsAt, List.filterMap_cons, List.filterMap_nil, List.getElem?_toArray, List.getElem?_cons_succ, List.getElem?_cons_zero]
                refine wpFloat_nil ?_
                refine wpLoad_step ?vua0 rfl (fun w' hS => ?yua0) ?kua0
                case yua0 =>
                  obtain ⟨g0, g1, g2, g3, g4⟩ := hS
                  go_simp
                  try rfl
                case kua0 =>
                go_simp
                refine wpLoad_step ?vua1 rfl (fun w' hS => ?yua1) ?kua1
                case yua1 =>
                  obtain ⟨g0, g1, g2, g3, g4⟩ := hS
                  go_simp
                  try rfl
                case kua1 =>
                go_simp
                refine wpLoad_step ?vua2 rfl (fun w' hS => ?yua2) ?kua2
                case yua2 =>
                  obtain ⟨g0, g1, g2, g3, g4⟩ := hS
                  go_simp
                  try rfl
                case kua2 =>
                go_simp
                refine wpLoad_step ?vua3 rfl (fun w' hS => ?yua3) ?kua3
                case yua3 =>
                  obtain ⟨g0, g1, g2, g3, g4⟩ := hS
                  go_simp
                  try rfl
                case kua3 =>
                go_simp
                refine wpLoad_step ?vua4 rfl (fun w' hS => ?yua4) ?kua4
                case yua4 =>
                  obtain ⟨g0, g1, g2, g3, g4⟩ := hS
                  go_simp
                  try rfl
                case kua4 =>
                go_simp
                refine wpLoad_step ?vua5 rfl (fun w' hS => ?yua5) ?kua5
                case yua5 =>
                  obtain ⟨g0, g1, g2, g3, g4⟩ := hS
                  go_simp
                  try rfl
                case kua5 =>
                go_simp
                refine wpLoad_step ?vua6 rfl (fun w' hS => ?yua6) ?kua6
                case yua6 =>
                  obtain ⟨g0, g1, g2, g3, g4⟩ := hS
                  go_simp
                  try rfl
                case kua6 =>
                go_simp
                refine wpLoad_step ?vua7 rfl (fun w' hS => ?yua7) ?kua7
                case yua7 =>
                  obtain ⟨g0, g1, g2, g3, g4⟩ := hS
                  go_simp
                  try rfl
                case kua7 =>
                go_simp
                refine wpLoad_step ?vua8 rfl (fun w' hS => ?yua8) ?kua8
                case yua8 =>
                  obtain ⟨g0, g1, g2, g3, g4⟩ := hS
                  go_simp
                  try rfl
                case kua8 =>
                go_simp
                refine wpLoad_step ?vua9 rfl (fun w' hS => ?yua9) ?kua9
                case yua9 =>
                  obtain ⟨g0, g1, g2, g3, g4⟩ := hS
                  go_simp
                  try rfl
                case kua9 =>
                go_simp
                refine wpLoad_step ?vua10 rfl (fun w' hS => ?yua10) ?kua10
                case yua10 =>
                  obtain ⟨g0, g1, g2, g3, g4⟩ := hS
                  go_simp
                  try rfl
                case kua10 =>
                go_simp
                refine wpLoad_step ?vua11 rfl (fun w' hS => ?yua11) ?kua11
                case yua11 =>
                  obtain ⟨g0, g1, g2, g3, g4⟩ := hS
                  go_simp
                  try rfl
                case kua11 =>
                go_simp
                refine wpLoad_step ?vua12 rfl (fun w' hS => ?yua12) ?kua12
                case yua12 =>
                  obtain ⟨g0, g1, g2, g3, g4⟩ := hS
                  go_simp
                  try rfl
                case kua12 =>
                go_simp
                refine wpLoad_step ?vua13 rfl (fun w' hS => ?yua13) ?kua13
                case yua13 =>
                  obtain ⟨g0, g1, g2, g3, g4⟩ := hS
                  go_simp
                  try rfl
                case kua13 =>
                go_simp
                refine wpLoad_step ?vua14 rfl (fun w' hS => ?yua14) ?kua14
                case yua14 =>
                  obtain ⟨g0, g1, g2, g3, g4⟩ := hS
                  go_simp
                  try rfl
                case kua14 =>
                go_simp
                refine wpLoad_step ?vua15 rfl (fun w' hS => ?yua15) ?kua15
                case yua15 =>
                  obtain ⟨g0, g1, g2, g3, g4⟩ := hS
                  go_simp
                  try rfl
                case kua15 =>
                go_simp
                refine wpLoad_step ?vua16 rfl (fun w' hS => ?yua16) ?kua16
                case yua16 =>
                  obtain ⟨g0, g1, g2, g3, g4⟩ := hS
                  go_simp
                  try rfl
                case kua16 =>
                go_simp
                refine wpLoad_step ?vua17 rfl (fun w' hS => ?yua17) ?kua17
                case yua17 =>
                  obtain ⟨g0, g1, g2, g3, g4⟩ := hS
                  go_simp
                  try rfl
                case kua17 =>
                go_simp
                refine wpLoad_step ?vua18 rfl (fun w' hS => ?yua18) ?kua18
                case yua18 =>
                  obtain ⟨g0, g1, g2, g3, g4⟩ := hS
                  go_simp
                  try rfl
                case kua18 =>
                go_simp
                refine wpLoad_step ?vua19 rfl (fun w' hS => ?yua19) ?kua19
                case yua19 =>
                  obtain ⟨g0, g1, g2, g3, g4⟩ := hS
                  go_simp
                  try rfl
                case kua19 =>
                go_simp
                refine wpLoad_step ?vua20 rfl (fun w' hS => ?yua20) ?kua20
                case yua20 =>
                  obtain ⟨g0, g1, g2, g3, g4⟩ := hS
                  go_simp
                  try rfl
                case kua20 =>
                go_simp
                refine wpLoad_step ?vua21 rfl (fun w' hS => ?yua21) ?kua21
                case yua21 =>
                  obtain ⟨g0, g1, g2, g3, g4⟩ := hS
                  go_simp
                  try rfl
                case kua21 =>
                go_simp
                refine wpLoad_step ?vua22 rfl (fun w' hS => ?yua22) ?kua22
                case yua22 =>
                  obtain ⟨g0, g1, g2, g3, g4⟩ := hS
                  go_simp
                  try rfl
                case kua22 =>
                go_simp
                refine wpLoad_step ?vua23 rfl (fun w' hS => ?yua23) ?kua23
                case yua23 =>
                  obtain ⟨g0, g1, g2, g3, g4⟩ := hS
                  go_simp
                  try rfl
                case kua23 =>
                go_simp
                refine wpLoad_step ?vua24 rfl (fun w' hS => ?yua24) ?kua24
                case yua24 =>
                  obtain ⟨g0, g1, g2, g3, g4⟩ := hS
                  go_simp
                  try rfl
                case kua24 =>
                go_simp
                refine wpLoad_step ?vua25 rfl (fun w' hS => ?yua25) ?kua25
                case yua25 =>
                  obtain ⟨g0, g1, g2, g3, g4⟩ := hS
                  go_simp
                  try rfl
                case kua25 =>
                go_simp
                refine wpLoad_step ?vua26 rfl (fun w' hS => ?yua26) ?kua26
                case yua26 =>
                  obtain ⟨g0, g1, g2, g3, g4⟩ := hS
                  go_simp
                  try rfl
                case kua26 =>
                go_simp
                refine wpLoad_step ?vua27 rfl (fun w' hS => ?yua27) ?kua27
                case yua27 =>
                  obtain ⟨g0, g1, g2, g3, g4⟩ := hS
                  go_simp
                  try rfl
                case kua27 =>
                go_simp
                refine wpLoad_step ?vua28 rfl (fun w' hS => ?yua28) ?kua28
                case yua28 =>
                  obtain ⟨g0, g1, g2, g3, g4⟩ := hS
                  go_simp
                  try rfl
                case kua28 =>
                go_simp
                refine wpLoad_step ?vua29 rfl (fun w' hS => ?yua29) ?kua29
                case yua29 =>
                  obtain ⟨g0, g1, g2, g3, g4⟩ := hS
                  go_simp
                  try rfl
                case kua29 =>
                go_simp
                refine wpLoad_step ?vua30 rfl (fun w' hS => ?yua30) ?kua30
                case yua30 =>
                  obtain ⟨g0, g1, g2, g3, g4⟩ := hS
                  go_simp
                  try rfl
                case kua30 =>
                go_simp
                refine wpLoad_step ?vua31 rfl (fun w' hS => ?yua31) ?kua31
                case yua31 =>
                  obtain ⟨g0, g1, g2, g3, g4⟩ := hS
                  go_simp
                  try rfl
                case kua31 =>
                go_simp
                refine wpLoad_nil ?_
                refine wpKeep_nil ?_
                go_wp2
                refine NoPanic.normal ?_
                go_wp2
                go_ret
                refine ⟨_, rfl, ⟨(fun h => by cases h), fun h => ?_⟩, HBq.out.trans ((Below.refl _ wr).drew.mono hsq)⟩
                have h5 : ChkP n (xs.take (k + 1)) := chkP_take ⟨h.2.2.1, h.2.2.2⟩ _
                rw [HTK.out] at h5
                refine absurd (Prod.ext E1.out.symm E2.out.symm) ((chkP_snoc.1 h5).2.2.2 z (List.mem_of_getElem? (i := q) ?_))
                rw [List.getElem?_take_of_lt hql]
                exact HZ.out
              · have e2' : ¬ (bs y.it.nm).toList = (bs z.it.nm).toList := fun e => e2 (by rwa [bs_toList, bs_toList] at e)
                have e2'' : ((bs y.it.nm).toList == (bs z.it.nm).toList) = false := by simpa using e2'
                have hne : z.key ≠ y.key := fun e => e2 (congrArg Prod.snd e).symm
                clear e2
                refine wp_region_held' (fun w' => w'.cell? ⟨w.heap.size, 1, none⟩ = some (.slice (some ad) m c) ∧ w'.cell? ⟨(ad.add (k * 4)).block, (ad.add (k * 4)).off + 1, none⟩ = some (sv y.it.md) ∧ w'.cell? ⟨(ad.add (k * 4)).block, (ad.add (k * 4)).off + 2, none⟩ = some (sv y.it.nm) ∧ w'.cell? ⟨(ad.add (q * 4)).block, (ad.add (q * 4)).off + 1, none⟩ = some (sv z.it.md) ∧ w'.cell? ⟨(ad.add (q * 4)).block, (ad.add (q * 4)).off + 2, none⟩ = some (sv z.it.nm)) [] [0, 1, 2, 3, 4, 5, 6, 7, 8, 9, 10, 11, 12, 13, 14, 15, 16, 17, 18, 19, 20, 21, 22, 23, 24, 25, 26, 27, 28, 29, 30, 31] [] [] (by kernel_rfl) (by kernel_rfl) ?sub ?hub
                case sub => exact ⟨d1, b1, b2, z1, z2⟩
                case hub =>
                simp only [opsAt, List.filterMap_cons, List.filterMap_nil, List.getElem?_toArray, List.getElem?_cons_succ, List.getElem?_cons_zero]
                refine wpFloat_nil ?_
                refine wpLoad_step ?vub0 rfl (fun w' hS => ?yub0) ?kub0
                case yub0 =>
                  obtain ⟨g0, g1, g2, g3, g4⟩ := hS
                  go_simp
                  try rfl
                case kub0 =>
                go_simp
                refine wpLoad_step ?vub1 rfl (fun w' hS => ?yub1) ?kub1
                case yub1 =>
                  obtain ⟨g0, g1, g2, g3, g4⟩ := hS
                  go_simp
                  try rfl
                case kub1 =>
                go_simp
                refine wpLoad_step ?vub2 rfl (fun w' hS => ?yub2) ?kub2
                case yub2 =>
                  obtain ⟨g0, g1, g2, g3, g4⟩ := hS
                  go_simp
                  try rfl
                case kub2 =>
                go_simp
                refine wpLoad_step ?vub3 rfl (fun w' hS => ?yub3) ?kub3
                case yub3 =>
                  obtain ⟨g0, g1, g2, g3, g4⟩ := hS
                  go_simp
                  try rfl
                case kub3 =>
                go_simp
                refine wpLoad_step ?vub4 rfl (fun w' hS => ?yub4) ?kub4
                case yub4 =>
                  obtain ⟨g0, g1, g2, g3, g4⟩ := hS
                  go_simp
                  try rfl
                case kub4 =>
                go_simp
                refine wpLoad_step ?vub5 rfl (fun w' hS => ?yub5) ?kub5
                case yub5 =>
                  obtain ⟨g0, g1, g2, g3, g4⟩ := hS
                  go_simp
                  try rfl
                case kub5 =>
                go_simp
                refine wpLoad_step ?vub6 rfl (fun w' hS => ?yub6) ?kub6
                case yub6 =>
                  obtain ⟨g0, g1, g2, g3, g4⟩ := hS
                  go_simp
                  try rfl
                case kub6 =>
                go_simp
                refine wpLoad_step ?vub7 rfl (fun w' hS => ?yub7) ?kub7
                case yub7 =>
                  obtain ⟨g0, g1, g2, g3, g4⟩ := hS
                  go_simp
                  try rfl
                case kub7 =>
                go_simp
                refine wpLoad_step ?vub8 rfl (fun w' hS => ?yub8) ?kub8
                case yub8 =>
                  obtain ⟨g0, g1, g2, g3, g4⟩ := hS
                  go_simp
                  try rfl
                case kub8 =>
                go_simp
                refine wpLoad_step ?vub9 rfl (fun w' hS => ?yub9) ?kub9
                case yub9 =>
                  obtain ⟨g0, g1, g2, g3, g4⟩ := hS
                  go_simp
                  try rfl
                case kub9 =>
                go_simp
                refine wpLoad_step ?vub10 rfl (fun w' hS => ?yub10) ?kub10
                case yub10 =>
                  obtain ⟨g0, g1, g2, g3, g4⟩ := hS
                  go_simp
                  try rfl
                case kub10 =>
                go_simp
                refine wpLoad_step ?vub11 rfl (fun w' hS => ?yub11) ?kub11
                case yub11 =>
                  obtain ⟨g0, g1, g2, g3, g4⟩ := hS
                  go_simp
                  try rfl
                case kub11 =>
                go_simp
                refine wpLoad_step ?vub12 rfl (fun w' hS => ?yub12) ?kub12
                case yub12 =>
                  obtain ⟨g0, g1, g2, g3, g4⟩ := hS
                  go_simp
                  try rfl
                case kub12 =>
                go_simp
                refine wpLoad_step ?vub13 rfl (fun w' hS => ?yub13) ?kub13
                case yub13 =>
                  obtain ⟨g0, g1, g2, g3, g4⟩ := hS
                  go_simp
                  try rfl
                case kub13 =>
                go_simp
                refine wpLoad_step ?vub14 rfl (fun w' hS => ?yub14) ?kub14
                case yub14 =>
                  obtain ⟨g0, g1, g2, g3, g4⟩ := hS
                  go_simp
                  try rfl
                case kub14 =>
                go_simp
                refine wpLoad_step ?vub15 rfl (fun w' hS => ?yub15) ?kub15
                case yub15 =>
                  obtain ⟨g0, g1, g2, g3, g4⟩ := hS
                  go_simp
                  try rfl
                case kub15 =>
                go_simp
                refine wpLoad_step ?vub16 rfl (fun w' hS => ?yub16) ?kub16
                case yub16 =>
                  obtain ⟨g0, g1, g2, g3, g4⟩ := hS
                  go_simp
                  try rfl
                case kub16 =>
                go_simp
                refine wpLoad_step ?vub17 rfl (fun w' hS => ?yub17) ?kub17
                case yub17 =>
                  obtain ⟨g0, g1, g2, g3, g4⟩ := hS
                  go_simp
                  try rfl
                case kub17 =>
                go_simp
                refine wpLoad_step ?vub18 rfl (fun w' hS => ?yub18) ?kub18
                case yub18 =>
                  obtain ⟨g0, g1, g2, g3, g4⟩ := hS
                  go_simp
                  try rfl
                case kub18 =>
                go_simp
                refine wpLoad_step ?vub19 rfl (fun w' hS => ?yub19) ?kub19
                case yub19 =>
                  obtain ⟨g0, g1, g2, g3, g4⟩ := hS
                  go_simp
                  try rfl
                case kub19 =>
                go_simp
                refine wpLoad_step ?vub20 rfl (fun w' hS => ?yub20) ?kub20
                case yub20 =>
                  obtain ⟨g0, g1, g2, g3, g4⟩ := hS
                  go_simp
                  try rfl
                case kub20 =>
                go_simp
                refine wpLoad_step ?vub21 rfl (fun w' hS => ?yub21) ?kub21
                case yub21 =>
                  obtain ⟨g0, g1, g2, g3, g4⟩ := hS
                  go_simp
                  try rfl
                case kub21 =>
                go_simp
                refine wpLoad_step ?vub22 rfl (fun w' hS => ?yub22) ?kub22
                case yub22 =>
                  obtain ⟨g0, g1, g2, g3, g4⟩ := hS
                  go_simp
                  try rfl
                case kub22 =>
                go_simp
                refine wpLoad_step ?vub23 rfl (fun w' hS => ?yub23) ?kub23
                case yub23 =>
                  obtain ⟨g0, g1, g2, g3, g4⟩ := hS
                  go_simp
                  try rfl
                case kub23 =>
                go_simp
                refine wpLoad_step ?vub24 rfl (fun w' hS => ?yub24) ?kub24
                case yub24 =>
                  obtain ⟨g0, g1, g2, g3, g4⟩ := hS
                  go_simp
                  try rfl
                case kub24 =>
                go_simp
                refine wpLoad_step ?vub25 rfl (fun w' hS => ?yub25) ?kub25
                case yub25 =>
                  obtain ⟨g0, g1, g2, g3, g4⟩ := hS
                  go_simp
                  try rfl
                case kub25 =>
                go_simp
                refine wpLoad_step ?vub26 rfl (fun w' hS => ?yub26) ?kub26
                case yub26 =>
                  obtain ⟨g0, g1, g2, g3, g4⟩ := hS
                  go_simp
                  try rfl
                case kub26 =>
                go_simp
                refine wpLoad_step ?vub27 rfl (fun w' hS => ?yub27) ?kub27
                case yub27 =>
                  obtain ⟨g0, g1, g2, g3, g4⟩ := hS
                  go_simp
                  try rfl
                case kub27 =>
                go_simp
                refine wpLoad_step ?vub28 rfl (fun w' hS => ?yub28) ?kub28
                case yub28 =>
                  obtain ⟨g0, g1, g2, g3, g4⟩ := hS
                  go_simp
                  try rfl
                case kub28 =>
                go_simp
                refine wpLoad_step ?vub29 rfl (fun w' hS => ?yub29) ?kub29
                case yub29 =>
                  obtain ⟨g0, g1, g2, g3, g4⟩ := hS
                  go_simp
                  try rfl
                case kub29 =>
                go_simp
                refine wpLoad_step ?vub30 rfl (fun w' hS => ?yub30) ?kub30
                case yub30 =>
                  obtain ⟨g0, g1, g2, g3, g4⟩ := hS
                  go_simp
                  try rfl
                case kub30 =>
                go_simp
                refine wpLoad_step ?vub31 rfl (fun w' hS => ?yub31) ?kub31
                case yub31 =>
                  obtain ⟨g0, g1, g2, g3, g4⟩ := hS
                  go_simp
                  try rfl
                case kub31 =>
                go_simp
                refine wpLoad_nil ?_
                refine wpKeep_nil ?_
                go_wp2
                refine NoPanic.normal ?_
                go_wp2
                go_roundw
                case rel => exact ⟨q + 1, by omega, by go_num, HBq.out.trans ((Below.refl _ wr).drew.mono hsq), HXq.out, HSK.out hne⟩
                case measure => simp [intOf]; omega
            · have e1' : ¬ (bs y.it.md).toList = (bs z.it.md).toList := fun e => e1 (by rwa [bs_toList, bs_toList] at e)
              have e1'' : ((bs y.it.md).toList == (bs z.it.md).toList) = false := by simpa using e1'
              have hne : z.key ≠ y.key := fun e => e1 (congrArg Prod.fst e).symm
              clear e1
              refine wp_region_held' (fun w' => w'.cell? ⟨w.heap.size, 1, none⟩ = some (.slice (some ad) m c) ∧ w'.cell? ⟨(ad.add (k * 4)).block, (ad.add (k * 4)).off + 1, none⟩ = some (sv y.it.md) ∧ w'.cell? ⟨(ad.add (k * 4)).block, (ad.add (k * 4)).off + 2, none⟩ = some (sv y.it.nm) ∧ w'.cell? ⟨(ad.add (q * 4)).block, (ad.add (q * 4)).off + 1, none⟩ = some (sv z.it.md) ∧ w'.cell? ⟨(ad.add (q * 4)).block, (ad.add (q * 4)).off + 2, none⟩ = some (sv z.it.nm)) [] [0, 1, 2, 3, 4, 5, 6, 7, 8, 9, 10, 11, 12, 13, 14, 15, 16, 17, 18, 19, 20, 21, 22, 23, 24, 25, 26, 27, 28, 29, 30, 31] [] [] (by kernel_rfl) (by kernel_rfl) ?suc ?huc
              case suc => exact ⟨d1, b1, b2, z1, z2⟩
              case huc =>
              simp only [opsAt, List.filterMap_cons, List.filterMap_nil, List.getElem?_toArray, List.getElem?_cons_succ, List.getElem?_cons_zero]
              refine wpFloat_nil ?_
              refine wpLoad_step ?vuc0 rfl (fun w' hS => ?yuc0) ?kuc0
              case yuc0 =>
                obtain ⟨g0, g1, g2, g3, g4⟩ := hS
                go_simp
                try rfl
              case kuc0 =>
              go_simp
              refine wpLoad_step ?vuc1 rfl (fun w' hS => ?yuc1) ?kuc1
              case yuc1 =>
                obtain ⟨g0, g1, g2, g3, g4⟩ := hS
                go_simp
                try rfl
              case kuc1 =>
              go_simp
              refine wpLoad_step ?vuc2 rfl (fun w' hS => ?yuc2) ?kuc2
              case yuc2 =>
                obtain ⟨g0, g1, g2, g3, g4⟩ := hS
                go_simp
                try rfl
              case kuc2 =>
              go_simp
              refine wpLoad_step ?vuc3 rfl (fun w' hS => ?yuc3) ?kuc3
              case yuc3 =>
                obtain ⟨g0, g1, g2, g3, g4⟩ := hS
                go_simp
                try rfl
              case kuc3 =>
              go_simp
              refine wpLoad_step ?vuc4 rfl (fun w' hS => ?yuc4) ?kuc4
              case yuc4 =>
                obtain ⟨g0, g1, g2, g3, g4⟩ := hS
                go_simp
                try rfl
              case kuc4 =>
              go_simp
              refine wpLoad_step ?vuc5 rfl (fun w' hS => ?yuc5) ?kuc5
              case yuc5 =>
                obtain ⟨g0, g1, g2, g3, g4⟩ := hS
                go_simp
                try rfl
              case kuc5 =>
              go_simp
              refine wpLoad_step ?vuc6 rfl (fun w' hS => ?yuc6) ?kuc6
              case yuc6 =>
                obtain ⟨g0, g1, g2, g3, g4⟩ := hS
                go_simp
                try rfl
              case kuc6 =>
              go_simp
              refine wpLoad_step ?vuc7 rfl (fun w' hS => ?yuc7) ?kuc7
              case yuc7 =>
                obtain ⟨g0, g1, g2, g3, g4⟩ := hS
                go_simp
                try rfl
              case kuc7 =>
              go_simp
              refine wpLoad_step ?vuc8 rfl (fun w' hS => ?yuc8) ?kuc8
              case yuc8 =>
                obtain ⟨g0, g1, g2, g3, g4⟩ := hS
                go_simp
                try rfl
              case kuc8 =>
              go_simp
              refine wpLoad_step ?vuc9 rfl (fun w' hS => ?yuc9) ?kuc9
              case yuc9 =>
                obtain ⟨g0, g1, g2, g3, g4⟩ := hS
                go_simp
                try rfl
              case kuc9 =>
              go_simp
              refine wpLoad_step ?vuc10 rfl (fun w' hS => ?yuc10) ?kuc10
              case yuc10 =>
                obtain ⟨g0, g1, g2, g3, g4⟩ := hS
                go_simp
                try rfl
              case kuc10 =>
              go_simp
              refine wpLoad_step ?vuc11 rfl (fun w' hS => ?yuc11) ?kuc11
              case yuc11 =>
                obtain ⟨g0, g1, g2, g3, g4⟩ := hS
                go_simp
                try rfl
              case kuc11 =>
              go_simp
              refine wpLoad_step ?vuc12 rfl (fun w' hS => ?yuc12) ?kuc12
              case yuc12 =>
                obtain ⟨g0, g1, g2, g3, g4⟩ := hS
                go_simp
                try rfl
              case kuc12 =>
              go_simp
              refine wpLoad_step ?vuc13 rfl (fun w' hS => ?yuc13) ?kuc13
              case yuc13 =>
                obtain ⟨g0, g1, g2, g3, g4⟩ := hS
                go_simp
                try rfl
              case kuc13 =>
              go_simp
              refine wpLoad_step ?vuc14 rfl (fun w' hS => ?yuc14) ?kuc14
              case yuc14 =>
                obtain ⟨g0, g1, g2, g3, g4⟩ := hS
                go_simp
                try rfl
              case kuc14 =>
              go_simp
              refine wpLoad_step ?vuc15 rfl (fun w' hS => ?yuc15) ?kuc15
              case yuc15 =>
                obtain ⟨g0, g1, g2, g3, g4⟩ := hS
                go_simp
                try rfl
              case kuc15 =>
              go_simp
              refine wpLoad_skip rfl ?_
              go_simp
              refine wpLoad_skip rfl ?_
              go_simp
              refine wpLoad_skip rfl ?_
              go_simp
              refine wpLoad_skip rfl ?_
              go_simp
              refine wpLoad_skip rfl ?_
              go_simp
              refine wpLoad_skip rfl ?_
              go_simp
              refine wpLoad_skip rfl ?_
              go_simp
              refine wpLoad_skip rfl ?_
              go_simp
              refine wpLoad_skip rfl ?_
              go_simp
              refine wpLoad_skip rfl ?_
              go_simp
              refine wpLoad_skip rfl ?_
              go_simp
              refine wpLoad_skip rfl ?_
              go_simp
              refine wpLoad_skip rfl ?_
              go_simp
              refine wpLoad_skip rfl ?_
              go_simp
              refine wpLoad_skip rfl ?_
              go_simp
              refine wpLoad_step ?vuc31 rfl (fun w' hS => ?yuc31) ?kuc31
              case yuc31 =>
                obtain ⟨g0, g1, g2, g3, g4⟩ := hS
                go_simp
                try rfl
              case kuc31 =>
              go_simp
              refine wpLoad_nil ?_
              refine wpKeep_nil ?_
              go_wp2
              refine NoPanic.normal ?_
              go_wp2
              go_roundw
              case rel => exact ⟨q + 1, by omega, by go_num, HBq.out.trans ((Below.refl _ wr).drew.mono hsq), HXq.out, HSK.out hne⟩
              case measure => simp [intOf]; omega
          · have hqe : q = k := by omega
            subst hqe
            go_wp2
            go_roundw
            case rel =>
              refine ⟨q + 1, by omega, by go_num, HBq.out, HXq.out, ?_⟩
              rw [HTK.out]
              exact chkP_snoc.2 ⟨HP.out, HLI2.out, by omega, HNq.out⟩
            case measure => simp [intOf]; omega
      obtain ⟨k0, hk0'⟩ : ∃ k0, k0 = k - 1 := ⟨_, rfl⟩
      obtain ⟨p, hp⟩ : ∃ p, xs[k0]? = some p := ⟨_, List.getElem?_eq_getElem (by rw [← HM.out]; omega)⟩
      obtain ⟨ad', e', _, p0, _⟩ := id_at (HR.out.keep (kept_below HB.out)) hp
      obtain rfl := Option.some.inj e'
      have hwr : IntKind.i64.wrap ((k0 : Nat) : Int) = ((k0 : Nat) : Int) := by rw [IntKind.wrap_i64]; omega
      have hsub : ((k : Int) - 1) = ((k0 : Nat) : Int) := by omega
      have hkp : (0 : Int) < (k : Int) := by omega
      have hkp2 : decide ((k : Int) > 0) = true := by simp; omega
      have hkp3 : 0 < k := by omega
      have hik0 : (0 : Int) ≤ (k0 : Int) ∧ (k0 : Int) < (m : Int) := ⟨by omega, by omega⟩
      have HLI := Lib.hid (lastId_take hp)
      rw [show k0 + 1 = k by omega] at HLI
      clear hp hk0'
      by_cases hA3 : y.id ≤ p.id
      · refine wp_region_held' (fun w' => w'.cell? ⟨w.heap.size, 0, none⟩ = some (.int .i64 n) ∧ w'.cell? ⟨w.heap.size, 1, none⟩ = some (.slice (some ad) m c) ∧ w'.cell? (ad.add (k * 4)) = some (.int .i64 y.id) ∧ w'.cell? (ad.add (k0 * 4)) = some (.int .i64 p.id)) [] [0, 1, 2, 3, 4, 5, 6, 7, 8, 9, 10, 11, 12, 13, 14, 15, 16, 17, 18, 19, 20, 21, 22, 23, 24, 25, 26, 27, 28, 29, 30, 31, 32, 33, 34, 35, 36, 37] [] [] (by kernel_rfl) (by kernel_rfl) ?sd ?hd
        case sd => exact ⟨c0, c1, a0, p0⟩
        case hd =>
        simp only [opsAt, List.filterMap_cons, List.filterMap_nil, List.getElem?_toArray, List.getElem?_cons_succ, List.getElem?_cons_zero]
        refine wpFloat_nil ?_
        refine wpLoad_step ?vd0 rfl (fun w' hS => ?yd0) ?kd0
        case yd0 =>
          obtain ⟨g0, g1, g2, g3⟩ := hS
          go_simp
          try rfl
        case kd0 =>
        go_simp
        refine wpLoad_step ?vd1 rfl (fun w' hS => ?yd1) ?kd1
        case yd1 =>
          obtain ⟨g0, g1, g2, g3⟩ := hS
          go_simp
          try rfl
        case kd1 =>
        go_simp
        refine wpLoad_step ?vd2 rfl (fun w' hS => ?yd2) ?kd2
        case yd2 =>
          obtain ⟨g0, g1, g2, g3⟩ := hS
          go_simp
          try rfl
        case kd2 =>
        go_simp
        refine wpLoad_step ?vd3 rfl (fun w' hS => ?yd3) ?kd3
        case yd3 =>
          obtain ⟨g0, g1, g2, g3⟩ := hS
          go_simp
          try rfl
        case kd3 =>
        go_simp
        refine wpLoad_step ?vd4 rfl (fun w' hS => ?yd4) ?kd4
        case yd4 =>
          obtain ⟨g0, g1, g2, g3⟩ := hS
          go_simp
          try rfl
        case kd4 =>
        go_simp
        refine wpLoad_step ?vd5 rfl (fun w' hS => ?yd5) ?kd5
        case yd5 =>
          obtain ⟨g0, g1, g2, g3⟩ := hS
          go_simp
          try rfl
        case kd5 =>
        go_simp
        refine wpLoad_step ?vd6 rfl (fun w' hS => ?yd6) ?kd6
        case yd6 =>
          obtain ⟨g0, g1, g2, g3⟩ := hS
          go_simp
          try rfl
        case kd6 =>
        go_simp
        refine wpLoad_step ?vd7 rfl (fun w' hS => ?yd7) ?kd7
        case yd7 =>
          obtain ⟨g0, g1, g2, g3⟩ := hS
          go_simp
          try rfl
        case kd7 =>
        go_simp
        refine wpLoad_step ?vd8 rfl (fun w' hS => ?yd8) ?kd8
        case yd8 =>
          obtain ⟨g0, g1, g2, g3⟩ := hS
          go_simp
          try rfl
        case kd8 =>
        go_simp
        refine wpLoad_step ?vd9 rfl (fun w' hS => ?yd9) ?kd9
        case yd9 =>
          obtain ⟨g0, g1, g2, g3⟩ := hS
          go_simp
          try rfl
        case kd9 =>
        go_simp
        refine wpLoad_step ?vd10 rfl (fun w' hS => ?yd10) ?kd10
        case yd10 =>
          obtain ⟨g0, g1, g2, g3⟩ := hS
          go_simp
          try rfl
        case kd10 =>
        go_simp
        refine wpLoad_step ?vd11 rfl (fun w' hS => ?yd11) ?kd11
        case yd11 =>
          obtain ⟨g0, g1, g2, g3⟩ := hS
          go_simp
          try rfl
        case kd11 =>
        go_simp
        refine wpLoad_step ?vd12 rfl (fun w' hS => ?yd12) ?kd12
        case yd12 =>
          obtain ⟨g0, g1, g2, g3⟩ := hS
          go_simp
          try rfl
        case kd12 =>
        go_simp
        refine wpLoad_step ?vd13 rfl (fun w' hS => ?yd13) ?kd13
        case yd13 =>
          obtain ⟨g0, g1, g2, g3⟩ := hS
          go_simp
          try rfl
        case kd13 =>
        go_simp
        refine wpLoad_step ?vd14 rfl (fun w' hS => ?yd14) ?kd14
        case yd14 =>
          obtain ⟨g0, g1, g2, g3⟩ := hS
          go_simp
          try rfl
        case kd14 =>
        go_simp
        refine wpLoad_step ?vd15 rfl (fun w' hS => ?yd15) ?kd15
        case yd15 =>
          obtain ⟨g0, g1, g2, g3⟩ := hS
          go_simp
          try rfl
        case kd15 =>
        go_simp
        refine wpLoad_step ?vd16 rfl (fun w' hS => ?yd16) ?kd16
        case yd16 =>
          obtain ⟨g0, g1, g2, g3⟩ := hS
          go_simp
          try rfl
        case kd16 =>
        go_simp
        refine wpLoad_step ?vd17 rfl (fun w' hS => ?yd17) ?kd17
        case yd17 =>
          obtain ⟨g0, g1, g2, g3⟩ := hS
          go_simp
          try rfl
        case kd17 =>
        go_simp
        refine wpLoad_step ?vd18 rfl (fun w' hS => ?yd18) ?kd18
        case yd18 =>
          obtain ⟨g0, g1, g2, g3⟩ := hS
          go_simp
          try rfl
        case kd18 =>
        go_simp
        refine wpLoad_step ?vd19 rfl (fun w' hS => ?yd19) ?kd19
        case yd19 =>
          obtain ⟨g0, g1, g2, g3⟩ := hS
          go_simp
          try rfl
        case kd19 =>
        go_simp
        refine wpLoad_step ?vd20 rfl (fun w' hS => ?yd20) ?kd20
        case yd20 =>
          obtain ⟨g0, g1, g2, g3⟩ := hS
          go_simp
          try rfl
        case kd20 =>
        go_simp
        refine wpLoad_step ?vd21 rfl (fun w' hS => ?yd21) ?kd21
        case yd21 =>
          obtain ⟨g0, g1, g2, g3⟩ := hS
          go_simp
          try rfl
        case kd21 =>
        go_simp
        refine wpLoad_step ?vd22 rfl (fun w' hS => ?yd22) ?kd22
        case yd22 =>
          obtain ⟨g0, g1, g2, g3⟩ := hS
          go_simp
          try rfl
        case kd22 =>
        go_simp
        refine wpLoad_step ?vd23 rfl (fun w' hS => ?yd23) ?kd23
        case yd23 =>
          obtain ⟨g0, g1, g2, g3⟩ := hS
          go_simp
          try rfl
        case kd23 =>
        go_simp
        refine wpLoad_step ?vd24 rfl (fun w' hS => ?yd24) ?kd24
        case yd24 =>
          obtain ⟨g0, g1, g2, g3⟩ := hS
          go_simp
          try rfl
        case kd24 =>
        go_simp
        refine wpLoad_step ?vd25 rfl (fun w' hS => ?yd25) ?kd25
        case yd25 =>
          obtain ⟨g0, g1, g2, g3⟩ := hS
          go_simp
          try rfl
        case kd25 =>
        go_simp
        refine wpLoad_step ?vd26 rfl (fun w' hS => ?yd26) ?kd26
        case yd26 =>
          obtain ⟨g0, g1, g2, g3⟩ := hS
          go_simp
          try rfl
        case kd26 =>
        go_simp
        refine wpLoad_step ?vd27 rfl (fun w' hS => ?yd27) ?kd27
        case yd27 =>
          obtain ⟨g0, g1, g2, g3⟩ := hS
          go_simp
          try rfl
        case kd27 =>
        go_simp
        refine wpLoad_step ?vd28 rfl (fun w' hS => ?yd28) ?kd28
        case yd28 =>
          obtain ⟨g0, g1, g2, g3⟩ := hS
          go_simp
          try rfl
        case kd28 =>
        go_simp
        refine wpLoad_step ?vd29 rfl (fun w' hS => ?yd29) ?kd29
        case yd29 =>
          obtain ⟨g0, g1, g2, g3⟩ := hS
          go_simp
          try rfl
        case kd29 =>
        go_simp
        refine wpLoad_step ?vd30 rfl (fun w' hS => ?yd30) ?kd30
        case yd30 =>
          obtain ⟨g0, g1, g2, g3⟩ := hS
          go_simp
          try rfl
        case kd30 =>
        go_simp
        refine wpLoad_step ?vd31 rfl (fun w' hS => ?yd31) ?kd31
        case yd31 =>
          obtain ⟨g0, g1, g2, g3⟩ := hS
          go_simp
          try rfl
        case kd31 =>
        go_simp
        refine wpLoad_step ?vd32 rfl (fun w' hS => ?yd32) ?kd32
        case yd32 =>
          obtain ⟨g0, g1, g2, g3⟩ := hS
          go_simp
          try rfl
        case kd32 =>
        go_simp
        refine wpLoad_step ?vd33 rfl (fun w' hS => ?yd33) ?kd33
        case yd33 =>
          obtain ⟨g0, g1, g2, g3⟩ := hS
          go_simp
          try rfl
        case kd33 =>
        go_simp
        refine wpLoad_step ?vd34 rfl (fun w' hS => ?yd34) ?kd34
        case yd34 =>
          obtain ⟨g0, g1, g2, g3⟩ := hS
          go_simp
          try rfl
        case kd34 =>
        go_simp
        refine wpLoad_step ?vd35 rfl (fun w' hS => ?yd35) ?kd35
        case yd35 =>
          obtain ⟨g0, g1, g2, g3⟩ := hS
          go_simp
          try rfl
        case kd35 =>
        go_simp
        refine wpLoad_step ?vd36 rfl (fun w' hS => ?yd36) ?kd36
        case yd36 =>
          obtain ⟨g0, g1, g2, g3⟩ := hS
          go_simp
          try rfl
        case kd36 =>
        go_simp
        refine wpLoad_step ?vd37 rfl (fun w' hS => ?yd37) ?kd37
        case yd37 =>
          obtain ⟨g0, g1, g2, g3⟩ := hS
          go_simp
          try rfl
        case kd37 =>
        go_simp
        refine wpLoad_nil ?_
        refine wpKeep_nil ?_
        go_wp2
        refine NoPanic.normal ?_
        go_wp2
        go_ret
        refine ⟨_, rfl, ⟨(fun h => by cases h), fun h => ?_⟩, HB.out.trans ((Below.refl _ wr).drew.mono hsz)⟩
        have h5 : ChkP n (xs.take (k + 1)) := chkP_take ⟨h.2.2.1, h.2.2.2⟩ _
        rw [HTK.out] at h5
        have h6 := (chkP_snoc.1 h5).2.1
        rw [HLI.out] at h6
        omega
      · refine wp_region_held' (fun w' => w'.cell? ⟨w.heap.size, 0, none⟩ = some (.int .i64 n) ∧ w'.cell? ⟨w.heap.size, 1, none⟩ = some (.slice (some ad) m c) ∧ w'.cell? (ad.add (k * 4)) = some (.int .i64 y.id) ∧ w'.cell? (ad.add (k0 * 4)) = some (.int .i64 p.id)) [] [0, 1, 2, 3, 4, 5, 6, 7, 8, 9, 10, 11, 12, 13, 14, 15, 16, 17, 18, 19, 20, 21, 22, 23, 24, 25, 26, 27, 28, 29, 30, 31, 32, 33, 34, 35, 36, 37] [] [] (by kernel_rfl) (by kernel_rfl) ?se ?he
        case se => exact ⟨c0, c1, a0, p0⟩
        case he =>
        simp only [opsAt, List.filterMap_cons, List.filterMap_nil, List.getElem?_toArray, List.getElem?_cons_succ, List.getElem?_cons_zero]
        refine wpFloat_nil ?_
        refine wpLoad_step ?ve0 rfl (fun w' hS => ?ye0) ?ke0
        case ye0 =>
          obtain ⟨g0, g1, g2, g3⟩ := hS
          go_simp
          try rfl
        case ke0 =>
        go_simp
        refine wpLoad_step ?ve1 rfl (fun w' hS => ?ye1) ?ke1
        case ye1 =>
          obtain ⟨g0, g1, g2, g3⟩ := hS
          go_simp
          try rfl
        case ke1 =>
        go_simp
        refine wpLoad_step ?ve2 rfl (fun w' hS => ?ye2) ?ke2
        case ye2 =>
          obtain ⟨g0, g1, g2, g3⟩ := hS
          go_simp
          try rfl
        case ke2 =>
        go_simp
        refine wpLoad_step ?ve3 rfl (fun w' hS => ?ye3) ?ke3
        case ye3 =>
          obtain ⟨g0, g1, g2, g3⟩ := hS
          go_simp
          try rfl
        case ke3 =>
        go_simp
        refine wpLoad_step ?ve4 rfl (fun w' hS => ?ye4) ?ke4
        case ye4 =>
          obtain ⟨g0, g1, g2, g3⟩ := hS
          go_simp
          try rfl
        case ke4 =>
        go_simp
        refine wpLoad_step ?ve5 rfl (fun w' hS => ?ye5) ?ke5
        case ye5 =>
          obtain ⟨g0, g1, g2, g3⟩ := hS
          go_simp
          try rfl
        case ke5 =>
        go_simp
        refine wpLoad_step ?ve6 rfl (fun w' hS => ?ye6) ?ke6
        case ye6 =>
          obtain ⟨g0, g1, g2, g3⟩ := hS
          go_simp
          try rfl
        case ke6 =>
        go_simp
        refine wpLoad_step ?ve7 rfl (fun w' hS => ?ye7) ?ke7
        case ye7 =>
          obtain ⟨g0, g1, g2, g3⟩ := hS
          go_simp
          try rfl
        case ke7 =>
        go_simp
        refine wpLoad_step ?ve8 rfl (fun w' hS => ?ye8) ?ke8
        case ye8 =>
          obtain ⟨g0, g1, g2, g3⟩ := hS
          go_simp
          try rfl
        case ke8 =>
        go_simp
        refine wpLoad_step ?ve9 rfl (fun w' hS => ?ye9) ?ke9
        case ye9 =>
          obtain ⟨g0, g1, g2, g3⟩ := hS
          go_simp
          try rfl
        case ke9 =>
        go_simp
        refine wpLoad_step ?ve10 rfl (fun w' hS => ?ye10) ?ke10
        case ye10 =>
          obtain ⟨g0, g1, g2, g3⟩ := hS
          go_simp
          try rfl
        case ke10 =>
        go_simp
        refine wpLoad_step ?ve11 rfl (fun w' hS => ?ye11) ?ke11
        case ye11 =>
          obtain ⟨g0, g1, g2, g3⟩ := hS
          go_simp
          try rfl
        case ke11 =>
        go_simp
        refine wpLoad_step ?ve12 rfl (fun w' hS => ?ye12) ?ke12
        case ye12 =>
          obtain ⟨g0, g1, g2, g3⟩ := hS
          go_simp
          try rfl
        case ke12 =>
        go_simp
        refine wpLoad_step ?ve13 rfl (fun w' hS => ?ye13) ?ke13
        case ye13 =>
          obtain ⟨g0, g1, g2, g3⟩ := hS
          go_simp
          try rfl
        case ke13 =>
        go_simp
        refine wpLoad_step ?ve14 rfl (fun w' hS => ?ye14) ?ke14
        case ye14 =>
          obtain ⟨g0, g1, g2, g3⟩ := hS
          go_simp
          try rfl
        case ke14 =>
        go_simp
        refine wpLoad_step ?ve15 rfl (fun w' hS => ?ye15) ?ke15
        case ye15 =>
          obtain ⟨g0, g1, g2, g3⟩ := hS
          go_simp
          try rfl
        case ke15 =>
        go_simp
        refine wpLoad_step ?ve16 rfl (fun w' hS => ?ye16) ?ke16
        case ye16 =>
          obtain ⟨g0, g1, g2, g3⟩ := hS
          go_simp
          try rfl
        case ke16 =>
        go_simp
        refine wpLoad_step ?ve17 rfl (fun w' hS => ?ye17) ?ke17
        case ye17 =>
          obtain ⟨g0, g1, g2, g3⟩ := hS
          go_simp
          try rfl
        case ke17 =>
        go_simp
        refine wpLoad_step ?ve18 rfl (fun w' hS => ?ye18) ?ke18
        case ye18 =>
          obtain ⟨g0, g1, g2, g3⟩ := hS
          go_simp
          try rfl
        case ke18 =>
        go_simp
        refine wpLoad_step ?ve19 rfl (fun w' hS => ?ye19) ?ke19
        case ye19 =>
          obtain ⟨g0, g1, g2, g3⟩ := hS
          go_simp
          try rfl
        case ke19 =>
        go_simp
        refine wpLoad_step ?ve20 rfl (fun w' hS => ?ye20) ?ke20
        case ye20 =>
          obtain ⟨g0, g1, g2, g3⟩ := hS
          go_simp
          try rfl
        case ke20 =>
        go_simp
        refine wpLoad_step ?ve21 rfl (fun w' hS => ?ye21) ?ke21
        case ye21 =>
          obtain ⟨g0, g1, g2, g3⟩ := hS
          go_simp
          try rfl
        case ke21 =>
        go_simp
        refine wpLoad_step ?ve22 rfl (fun w' hS => ?ye22) ?ke22
        case ye22 =>
          obtain ⟨g0, g1, g2, g3⟩ := hS
          go_simp
          try rfl
        case ke22 =>
        go_simp
        refine wpLoad_step ?ve23 rfl (fun w' hS => ?ye23) ?ke23
        case ye23 =>
          obtain ⟨g0, g1, g2, g3⟩ := hS
          go_simp
          try rfl
        case ke23 =>
        go_simp
        refine wpLoad_step ?ve24 rfl (fun w' hS => ?ye24) ?ke24
        case ye24 =>
          obtain ⟨g0, g1, g2, g3⟩ := hS
          go_simp
          try rfl
        case ke24 =>
        go_simp
        refine wpLoad_step ?ve25 rfl (fun w' hS => ?ye25) ?ke25
        case ye25 =>
          obtain ⟨g0, g1, g2, g3⟩ := hS
          go_simp
          try rfl
        case ke25 =>
        go_simp
        refine wpLoad_step ?ve26 rfl (fun w' hS => ?ye26) ?ke26
        case ye26 =>
          obtain ⟨g0, g1, g2, g3⟩ := hS
          go_simp
          try rfl
        case ke26 =>
        go_simp
        refine wpLoad_step ?ve27 rfl (fun w' hS => ?ye27) ?ke27
        case ye27 =>
          obtain ⟨g0, g1, g2, g3⟩ := hS
          go_simp
          try rfl
        case ke27 =>
        go_simp
        refine wpLoad_step ?ve28 rfl (fun w' hS => ?ye28) ?ke28
        case ye28 =>
          obtain ⟨g0, g1, g2, g3⟩ := hS
          go_simp
          try rfl
        case ke28 =>
        go_simp
        refine wpLoad_step ?ve29 rfl (fun w' hS => ?ye29) ?ke29
        case ye29 =>
          obtain ⟨g0, g1, g2, g3⟩ := hS
          go_simp
          try rfl
        case ke29 =>
        go_simp
        refine wpLoad_step ?ve30 rfl (fun w' hS => ?ye30) ?ke30
        case ye30 =>
          obtain ⟨g0, g1, g2, g3⟩ := hS
          go_simp
          try rfl
        case ke30 =>
        go_simp
        refine wpLoad_step ?ve31 rfl (fun w' hS => ?ye31) ?ke31
        case ye31 =>
          obtain ⟨g0, g1, g2, g3⟩ := hS
          go_simp
          try rfl
        case ke31 =>
        go_simp
        refine wpLoad_step ?ve32 rfl (fun w' hS => ?ye32) ?ke32
        case ye32 =>
          obtain ⟨g0, g1, g2, g3⟩ := hS
          go_simp
          try rfl
        case ke32 =>
        go_simp
        refine wpLoad_step ?ve33 rfl (fun w' hS => ?ye33) ?ke33
        case ye33 =>
          obtain ⟨g0, g1, g2, g3⟩ := hS
          go_simp
          try rfl
        case ke33 =>
        go_simp
        refine wpLoad_step ?ve34 rfl (fun w' hS => ?ye34) ?ke34
        case ye34 =>
          obtain ⟨g0, g1, g2, g3⟩ := hS
          go_simp
          try rfl
        case ke34 =>
        go_simp
        refine wpLoad_step ?ve35 rfl (fun w' hS => ?ye35) ?ke35
        case ye35 =>
          obtain ⟨g0, g1, g2, g3⟩ := hS
          go_simp
          try rfl
        case ke35 =>
        go_simp
        refine wpLoad_step ?ve36 rfl (fun w' hS => ?ye36) ?ke36
        case ye36 =>
          obtain ⟨g0, g1, g2, g3⟩ := hS
          go_simp
          try rfl
        case ke36 =>
        go_simp
        refine wpLoad_step ?ve37 rfl (fun w' hS => ?ye37) ?ke37
        case ye37 =>
          obtain ⟨g0, g1, g2, g3⟩ := hS
          go_simp
          try rfl
        case ke37 =>
        go_simp
        refine wpLoad_nil ?_
        refine wpKeep_nil ?_
        have HLI2 := Lib.hid (show lastId (xs.take k) < y.id by rw [HLI.out]; omega)
        go_wp2
        refine NoPanic.normal ?_
        go_wp2_with fail
        go_loopw [4] (fun j wj => ∃ q : Nat, q ≤ k ∧ j = .int .i64 q ∧ Below w.heap.size w wj ∧ wj.heap[w.heap.size]? = some (.cells #[.int .i64 n, .slice (some ad) m c] 29 (0, 0)) ∧ ∀ z ∈ xs.take q, z.key ≠ y.key) (fun j _ => k - (intOf j).toNat)
        case atStart => exact ⟨0, by omega, rfl, HB.out.trans ((Below.refl _ wr).drew.mono hsz), HX.out, fun z hz => by simp at hz⟩
        case round =>
          obtain ⟨q, hqk, rfl, hBq, hXq, hNq⟩ := hrel
          have hsq := hBq.size
          have HBq := Lib.hid hBq
          have HXq := Lib.hid hXq
          have HNq := Lib.hid hNq
          have d1 : wr.cell? ⟨w.heap.size, 1, none⟩ = some (.slice (some ad) m c) := (Lib.cell_of_heap hXq _).trans rfl
          clear hBq hXq hNq c0 c1 a0 a1 a2 a3
          by_cases hql : q < k
          · obtain ⟨z, hz⟩ : ∃ z, xs[q]? = some z := ⟨_, List.getElem?_eq_getElem (by rw [← HM.out]; omega)⟩
            have hrq := HR.out.keep (kept_below HBq.out)
            obtain ⟨ad', e', _, _, b1, b2, _⟩ := id_at hrq HY.out
            obtain rfl := Option.some.inj e'
            obtain ⟨ad', e', _, _, z1, z2, _⟩ := id_at hrq hz
            obtain rfl := Option.some.inj e'
            have hiq : (0 : Int) ≤ (q : Int) ∧ (q : Int) < (m : Int) := ⟨by omega, by omega⟩
            have HSK : Hid (z.key ≠ y.key → ∀ u ∈ xs.take (q + 1), u.key ≠ y.key) := Lib.hid fun hne u hu => by
              rw [List.take_add_one, hz] at hu
              rcases List.mem_append.1 hu with hu | hu
              · exact HNq.out u hu
              · simp at hu
                subst hu
                exact hne
            have HZ := Lib.hid hz
            clear hz hrq e'
            go_wp2_with fail
            by_cases e1 : y.it.md = z.it.md
            · have e1' : (bs y.it.md).toList = (bs z.it.md).toList := by rw [e1]
              have E1 := Lib.hid e1
              clear e1
              by_cases e2 : y.it.nm = z.it.nm
              · have e2' : (bs y.it.nm).toList = (bs z.it.nm).toList := by rw [e2]
                have E2 := Lib.hid e2
                clear e2
                refine wp_region_held' (fun w' => w'.cell? ⟨w.heap.size, 1, none⟩ = some (.slice (some ad) m c) ∧ w'.cell? ⟨(ad.add (k * 4)).block, (ad.add (k * 4)).off + 1, none⟩ = some (sv y.it.md) ∧ w'.cell? ⟨(ad.add (k * 4)).block, (ad.add (k * 4)).off + 2, none⟩ = some (sv y.it.nm) ∧ w'.cell? ⟨(ad.add (q * 4)).block, (ad.add (q * 4)).off + 1, none⟩ = some (sv z.it.md) ∧ w'.cell? ⟨(ad.add (q * 4)).block, (ad.add (q * 4)).off + 2, none⟩ = some (sv z.it.nm)) [] [0, 1, 2, 3, 4, 5, 6, 7, 8, 9, 10, 11, 12, 13, 14, 15, 16, 17, 18, 19, 20, 21, 22, 23, 24, 25, 26, 27, 28, 29, 30, 31] [] [] (by kernel_rfl) (by kernel_rfl) ?sva ?hva
                case sva => exact ⟨d1, b1, b2, z1, z2⟩
                case hva =>
                simp only [opsAt, List.filterMap_cons, List.filterMap_nil, List.getElem?_toArray, List.getElem?_cons_succ, List.getElem?_cons_zero]
                refine wpFloat_nil ?_
                refine wpLoad_step ?vva0 rfl (fun w' hS => ?yva0) ?kva0
                case yva0 =>
                  obtain ⟨g0, g1, g2, g3, g4⟩ := hS
                  go_simp
                  try rfl
                case kva0 =>
                go_simp
                refine wpLoad_step ?vva1 rfl (fun w' hS => ?yva1) ?kva1
                case yva1 =>
                  obtain ⟨g0, g1, g2, g3, g4⟩ := hS
                  go_simp
                  try rfl
                case kva1 =>
                go_simp
                refine wpLoad_step ?vva2 rfl (fun w' hS => ?yva2) ?kva2
                case yva2 =>
                  obtain ⟨g0, g1, g2, g3, g4⟩ := hS
                  go_simp
                  try rfl
                case kva2 =>
                go_simp
                refine wpLoad_step ?vva3 rfl (fun w' hS => ?yva3) ?kva3
                case yva3 =>
                  obtain ⟨g0, g1, g2, g3, g4⟩ := hS
                  go_simp
                  try rfl
                case kva3 =>
                go_simp
                refine wpLoad_step ?vva4 rfl (fun w' hS => ?yva4) ?kva4
                case yva4 =>
                  obtain ⟨g0, g1, g2, g3, g4⟩ := hS
                  go_simp
                  try rfl
                case kva4 =>
                go_simp
                refine wpLoad_step ?vva5 rfl (fun w' hS => ?yva5) ?kva5
                case yva5 =>
                  obtain ⟨g0, g1, g2, g3, g4⟩ := hS
                  go_simp
                  try rfl
                case kva5 =>
                go_simp
                refine wpLoad_step ?vva6 rfl (fun w' hS => ?yva6) ?kva6
                case yva6 =>
                  obtain ⟨g0, g1, g2, g3, g4⟩ := hS
                  go_simp
                  try rfl
                case kva6 =>
                go_simp
                refine wpLoad_step ?vva7 rfl (fun w' hS => ?yva7) ?kva7
                case yva7 =>
                  obtain ⟨g0, g1, g2, g3, g4⟩ := hS
                  go_simp
                  try rfl
                case kva7 =>
                go_simp
                refine wpLoad_step ?vva8 rfl (fun w' hS => ?yva8) ?kva8
                case yva8 =>
                  obtain ⟨g0, g1, g2, g3, g4⟩ := hS
                  go_simp
                  try rfl
                case kva8 =>
                go_simp
                refine wpLoad_step ?vva9 rfl (fun w' hS => ?yva9) ?kva9
                case yva9 =>
                  obtain ⟨g0, g1, g2, g3, g4⟩ := hS
                  go_simp
                  try rfl
                case kva9 =>
                go_simp
                refine wpLoad_step ?vva10 rfl (fun w' hS => ?yva10) ?kva10
                case yva10 =>
                  obtain ⟨g0, g1, g2, g3, g4⟩ := hS
                  go_simp
                  try rfl
                case kva10 =>
                go_simp
                refine wpLoad_step ?vva11 rfl (fun w' hS => ?yva11) ?kva11
                case yva11 =>
                  obtain ⟨g0, g1, g2, g3, g4⟩ := hS
                  go_simp
                  try rfl
                case kva11 =>
                go_simp
                refine wpLoad_step ?vva12 rfl (fun w' hS => ?yva12) ?kva12
                case yva12 =>
                  obtain ⟨g0, g1, g2, g3, g4⟩ := hS
                  go_simp
                  try rfl
                case kva12 =>
                go_simp
                refine wpLoad_step ?vva13 rfl (fun w' hS => ?yva13) ?kva13
                case yva13 =>
                  obtain ⟨g0, g1, g2, g3, g4⟩ := hS
                  go_simp
                  try rfl
                case kva13 =>
                go_simp
                refine wpLoad_step ?vva14 rfl (fun w' hS => ?yva14) ?kva14
                case yva14 =>
                  obtain ⟨g0, g1, g2, g3, g4⟩ := hS
                  go_simp
                  try rfl
                case kva14 =>
                go_simp
                refine wpLoad_step ?vva15 rfl (fun w' hS => ?yva15) ?kva15
                case yva15 =>
                  obtain ⟨g0, g1, g2, g3, g4⟩ := hS
                  go_simp
                  try rfl
                case kva15 =>
                go_simp
                refine wpLoad_step ?vva16 rfl (fun w' hS => ?yva16) ?kva16
                case yva16 =>
                  obtain ⟨g0, g1, g2, g3, g4⟩ := hS
                  go_simp
                  try rfl
                case kva16 =>
                go_simp
                refine wpLoad_step ?vva17 rfl (fun w' hS => ?yva17) ?kva17
                case yva17 =>
                  obtain ⟨g0, g1, g2, g3, g4⟩ := hS
                  go_simp
                  try rfl
                case kva17 =>
                go_simp
                refine wpLoad_step ?vva18 rfl (fun w' hS => ?yva18) ?kva18
                case yva18 =>
                  obtain ⟨g0, g1, g2, g3, g4⟩ := hS
                  go_simp
                  try rfl
                case kva18 =>
                go_simp
                refine wpLoad_step ?vva19 rfl (fun w' hS => ?yva19) ?kva19
                case yva19 =>
                  obtain ⟨g0, g1, g2, g3, g4⟩ := hS
                  go_simp
                  try rfl
                case kva19 =>
                go_simp
                refine wpLoad_step ?vva20 rfl (fun w' hS => ?yva20) ?kva20
                case yva20 =>
                  obtain ⟨g0, g1, g2, g3, g4⟩ := hS
                  go_simp
                  try rfl
                case kva20 =>
                go_simp
                refine wpLoad_step ?vva21 rfl (fun w' hS => ?yva21) ?kva21
                case yva21 =>
                  obtain ⟨g0, g1, g2, g3, g4⟩ := hS
                  go_simp
                  try rfl
                case kva21 =>
                go_simp
                refine wpLoad_step ?vva22 rfl (fun w' hS => ?yva22) ?kva22
                case yva22 =>
                  obtain ⟨g0, g1, g2, g3, g4⟩ := hS
                  go_simp
                  try rfl
                case kva22 =>
                go_simp
                refine wpLoad_step ?vva23 rfl (fun w' hS => ?yva23) ?kva23
                case yva23 =>
                  obtain ⟨g0, g1, g2, g3, g4⟩ := hS
                  go_simp
                  try rfl
                case kva23 =>
                go_simp
                refine wpLoad_step ?vva24 rfl (fun w' hS => ?yva24) ?kva24
                case yva24 =>
                  obtain ⟨g0, g1, g2, g3, g4⟩ := hS
                  go_simp
                  try rfl
                case kva24 =>
                go_simp
                refine wpLoad_step ?vva25 rfl (fun w' hS => ?yva25) ?kva25
                case yva25 =>
                  obtain ⟨g0, g1, g2, g3, g4⟩ := hS
                  go_simp
                  try rfl
                case kva25 =>
                go_simp
                refine wpLoad_step ?vva26 rfl (fun w' hS => ?yva26) ?kva26
                case yva26 =>
                  obtain ⟨g0, g1, g2, g3, g4⟩ := hS
                  go_simp
                  try rfl
                case kva26 =>
                go_simp
                refine wpLoad_step ?vva27 rfl (fun w' hS => ?yva27) ?kva27
                case yva27 =>
                  obtain ⟨g0, g1, g2, g3, g4⟩ := hS
                  go_simp
                  try rfl
                case kva27 =>
                go_simp
                refine wpLoad_step ?vva28 rfl (fun w' hS => ?yva28) ?kva28
                case yva28 =>
                  obtain ⟨g0, g1, g2, g3, g4⟩ := hS
                  go_simp
                  try rfl
                case kva28 =>
                go_simp
                refine wpLoad_step ?vva29 rfl (fun w' hS => ?yva29) ?kva29
                case yva29 =>
                  obtain ⟨g0, g1, g2, g3, g4⟩ := hS
                  go_simp
                  try rfl
                case kva29 =>
                go_simp
                refine wpLoad_step ?vva30 rfl (fun w' hS => ?yva30) ?kva30
                case yva30 =>
                  obtain ⟨g0, g1, g2, g3, g4⟩ := hS
                  go_simp
                  try rfl
                case kva30 =>
                go_simp
                refine wpLoad_step ?vva31 rfl (fun w' hS => ?yva31) ?kva31
                case yva31 =>
                  obtain ⟨g0, g1, g2, g3, g4⟩ := hS
                  go_simp
                  try rfl
                case kva31 =>
                go_simp
                refine wpLoad_nil ?_
                refine wpKeep_nil ?_
                go_wp2
                refine NoPanic.normal ?_
                go_wp2
                go_ret
                refine ⟨_, rfl, ⟨(fun h => by cases h), fun h => ?_⟩, HBq.out.trans ((Below.refl _ wr).drew.mono hsq)⟩
                have h5 : ChkP n (xs.take (k + 1)) := chkP_take ⟨h.2.2.1, h.2.2.2⟩ _
                rw [HTK.out] at h5
                refine absurd (Prod.ext E1.out.symm E2.out.symm) ((chkP_snoc.1 h5).2.2.2 z (List.mem_of_getElem? (i := q) ?_))
                rw [List.getElem?_take_of_lt hql]
                exact HZ.out
              · have e2' : ¬ (bs y.it.nm).toList = (bs z.it.nm).toList := fun e => e2 (by rwa [bs_toList, bs_toList] at e)
                have e2'' : ((bs y.it.nm).toList == (bs z.it.nm).toList) = false := by simpa using e2'
                have hne : z.key ≠ y.key := fun e => e2 (congrArg Prod.snd e).symm
                clear e2
                refine wp_region_held' (fun w' => w'.cell? ⟨w.heap.size, 1, none⟩ = some (.slice (some ad) m c) ∧ w'.cell? ⟨(ad.add (k * 4)).block, (ad.add (k * 4)).off + 1, none⟩ = some (sv y.it.md) ∧ w'.cell? ⟨(ad.add (k * 4)).block, (ad.add (k * 4)).off + 2, none⟩ = some (sv y.it.nm) ∧ w'.cell? ⟨(ad.add (q * 4)).block, (ad.add (q * 4)).off + 1, none⟩ = some (sv z.it.md) ∧ w'.cell? ⟨(ad.add (q * 4)).block, (ad.add (q * 4)).off + 2, none⟩ = some (sv z.it.nm)) [] [0, 1, 2, 3, 4, 5, 6, 7, 8, 9, 10, 11, 12, 13, 14, 15, 16, 17, 18, 19, 20, 21, 22, 23, 24, 25, 26, 27, 28, 29, 30, 31] [] [] (by kernel_rfl) (by kernel_rfl) ?svb ?hvb
                case svb => exact ⟨d1, b1, b2, z1, z2⟩
                case hvb =>
                simp only [opsAt, List.filterMap_cons, List.filterMap_nil, List.getElem?_toArray, List.getElem?_cons_succ, List.getElem?_cons_zero]
                refine wpFloat_nil ?_
                refine wpLoad_step ?vvb0 rfl (fun w' hS => ?yvb0) ?kvb0
                case yvb0 =>
                  obtain ⟨g0, g1, g2, g3, g4⟩ := hS
                  go_simp
                  try rfl
                case kvb0 =>
                go_simp
                refine wpLoad_step ?vvb1 rfl (fun w' hS => ?yvb1) ?kvb1
                case yvb1 =>
                  obtain ⟨g0, g1, g2, g3, g4⟩ := hS
                  go_simp
                  try rfl
                case kvb1 =>
                go_simp
                refine wpLoad_step ?vvb2 rfl (fun w' hS => ?yvb2) ?kvb2
                case yvb2 =>
                  obtain ⟨g0, g1, g2, g3, g4⟩ := hS
                  go_simp
                  try rfl
                case kvb2 =>
                go_simp
                refine wpLoad_step ?vvb3 rfl (fun w' hS => ?yvb3) ?kvb3
                case yvb3 =>
                  obtain ⟨g0, g1, g2, g3, g4⟩ := hS
                  go_simp
                  try rfl
                case kvb3 =>
                go_simp
                refine wpLoad_step ?vvb4 rfl (fun w' hS => ?yvb4) ?kvb4
                case yvb4 =>
                  obtain ⟨g0, g1, g2, g3, g4⟩ := hS
                  go_simp
                  try rfl
                case kvb4 =>
                go_simp
                refine wpLoad_step ?vvb5 rfl (fun w' hS => ?yvb5) ?kvb5
                case yvb5 =>
                  obtain ⟨g0, g1, g2, g3, g4⟩ := hS
                  go_simp
                  try rfl
                case kvb5 =>
                go_simp
                refine wpLoad_step ?vvb6 rfl (fun w' hS => ?yvb6) ?kvb6
                case yvb6 =>
                  obtain ⟨g0, g1, g2, g3, g4⟩ := hS
                  go_simp
                  try rfl
                case kvb6 =>
                go_simp
                refine wpLoad_step ?vvb7 rfl (fun w' hS => ?yvb7) ?kvb7
                case yvb7 =>
                  obtain ⟨g0, g1, g2, g3, g4⟩ := hS
                  go_simp
                  try rfl
                case kvb7 =>
                go_simp
                refine wpLoad_step ?vvb8 rfl (fun w' hS => ?yvb8) ?kvb8
                case yvb8 =>
                  obtain ⟨g0, g1, g2, g3, g4⟩ := hS
                  go_simp
                  try rfl
                case kvb8 =>
                go_simp
                refine wpLoad_step ?vvb9 rfl (fun w' hS => ?yvb9) ?kvb9
                case yvb9 =>
                  obtain ⟨g0, g1, g2, g3, g4⟩ := hS
                  go_simp
                  try rfl
                case kvb9 =>
                go_simp
                refine wpLoad_step ?vvb10 rfl (fun w' hS => ?yvb10) ?kvb10
                case yvb10 =>
                  obtain ⟨g0, g1, g2, g3, g4⟩ := hS
                  go_simp
                  try rfl
                case kvb10 =>
                go_simp
                refine wpLoad_step ?vvb11 rfl (fun w' hS => ?yvb11) ?kvb11
                case yvb11 =>
                  obtain ⟨g0, g1, g2, g3, g4⟩ := hS
                  go_simp
                  try rfl
                case kvb11 =>
                go_simp
                refine wpLoad_step ?vvb12 rfl (fun w' hS => ?yvb12) ?kvb12
                case yvb12 =>
                  obtain ⟨g0, g1, g2, g3, g4⟩ := hS
                  go_simp
                  try rfl
                case kvb12 =>
                go_simp
                refine wpLoad_step ?vvb13 rfl (fun w' hS => ?yvb13) ?kvb13
                case yvb13 =>
                  obtain ⟨g0, g1, g2, g3, g4⟩ := hS
                  go_simp
                  try rfl
                case kvb13 =>
                go_simp
                refine wpLoad_step ?vvb14 rfl (fun w' hS => ?yvb14) ?kvb14
                case yvb14 =>
                  obtain ⟨g0, g1, g2, g3, g4⟩ := hS
                  go_simp
                  try rfl
                case kvb14 =>
                go_simp
                refine wpLoad_step ?vvb15 rfl (fun w' hS => ?yvb15) ?kvb15
                case yvb15 =>
                  obtain ⟨g0, g1, g2, g3, g4⟩ := hS
                  go_simp
                  try rfl
                case kvb15 =>
                go_simp
                refine wpLoad_step ?vvb16 rfl (fun w' hS => ?yvb16) ?kvb16
                case yvb16 =>
                  obtain ⟨g0, g1, g2, g3, g4⟩ := hS
                  go_simp
                  try rfl
                case kvb16 =>
                go_simp
                refine wpLoad_step ?vvb17 rfl (fun w' hS => ?yvb17) ?kvb17
                case yvb17 =>
                  obtain ⟨g0, g1, g2, g3, g4⟩ := hS
                  go_simp
                  try rfl
                case kvb17 =>
                go_simp
                refine wpLoad_step ?vvb18 rfl (fun w' hS => ?yvb18) ?kvb18
                case yvb18 =>
                  obtain ⟨g0, g1, g2, g3, g4⟩ := hS
                  go_simp
                  try rfl
                case kvb18 =>
                go_simp
                refine wpLoad_step ?vvb19 rfl (fun w' hS => ?yvb19) ?kvb19
                case yvb19 =>
                  obtain ⟨g0, g1, g2, g3, g4⟩ := hS
                  go_simp
                  try rfl
                case kvb19 =>
                go_simp
                refine wpLoad_step ?vvb20 rfl (fun w' hS => ?yvb20) ?kvb20
                case yvb20 =>
                  obtain ⟨g0, g1, g2, g3, g4⟩ := hS
                  go_simp
                  try rfl
                case kvb20 =>
                go_simp
                refine wpLoad_step ?vvb21 rfl (fun w' hS => ?yvb21) ?kvb21
                case yvb21 =>
                  obtain ⟨g0, g1, g2, g3, g4⟩ := hS
                  go_simp
                  try rfl
                case kvb21 =>
                go_simp
                refine wpLoad_step ?vvb22 rfl (fun w' hS => ?yvb22) ?kvb22
                case yvb22 =>
                  obtain ⟨g0, g1, g2, g3, g4⟩ := hS
                  go_simp
                  try rfl
                case kvb22 =>
                go_simp
                refine wpLoad_step ?vvb23 rfl (fun w' hS => ?yvb23) ?kvb23
                case yvb23 =>
                  obtain ⟨g0, g1, g2, g3, g4⟩ := hS
                  go_simp
                  try rfl
                case kvb23 =>
                go_simp
                refine wpLoad_step ?vvb24 rfl (fun w' hS => ?yvb24) ?kvb24
                case yvb24 =>
                  obtain ⟨g0, g1, g2, g3, g4⟩ := hS
                  go_simp
                  try rfl
                case kvb24 =>
                go_simp
                refine wpLoad_step ?vvb25 rfl (fun w' hS => ?yvb25) ?kvb25
                case yvb25 =>
                  obtain ⟨g0, g1, g2, g3, g4⟩ := hS
                  go_simp
                  try rfl
                case kvb25 =>
                go_simp
                refine wpLoad_step ?vvb26 rfl (fun w' hS => ?yvb26) ?kvb26
                case yvb26 =>
                  obtain ⟨g0, g1, g2, g3, g4⟩ := hS
                  go_simp
                  try rfl
                case kvb26 =>
                go_simp
                refine wpLoad_step ?vvb27 rfl (fun w' hS => ?yvb27) ?kvb27
                case yvb27 =>
                  obtain ⟨g0, g1, g2, g3, g4⟩ := hS
                  go_simp
                  try rfl
                case kvb27 =>
                go_simp
                refine wpLoad_step ?vvb28 rfl (fun w' hS => ?yvb28) ?kvb28
                case yvb28 =>
                  obtain ⟨g0, g1, g2, g3, g4⟩ := hS
                  go_simp
                  try rfl
                case kvb28 =>
                go_simp
                refine wpLoad_step ?vvb29 rfl (fun w' hS => ?yvb29) ?kvb29
                case yvb29 =>
                  obtain ⟨g0, g1, g2, g3, g4⟩ := hS
                  go_simp
                  try rfl
                case kvb29 =>
                go_simp
                refine wpLoad_step ?vvb30 rfl (fun w' hS => ?yvb30) ?kvb30
                case yvb30 =>
                  obtain ⟨g0, g1, g2, g3, g4⟩ := hS
                  go_simp
                  try rfl
                case kvb30 =>
                go_simp
                refine wpLoad_step ?vvb31 rfl (fun w' hS => ?yvb31) ?kvb31
                case yvb31 =>
                  obtain ⟨g0, g1, g2, g3, g4⟩ := hS
                  go_simp
                  try rfl
                case kvb31 =>
                go_simp
                refine wpLoad_nil ?_
                refine wpKeep_nil ?_
                go_wp2
                refine NoPanic.normal ?_
                go_wp2
                go_roundw
                case rel => exact ⟨q + 1, by omega, by go_num, HBq.out.trans ((Below.refl _ wr).drew.mono hsq), HXq.out, HSK.out hne⟩
                case measure => simp [intOf]; omega
            · have e1' : ¬ (bs y.it.md).toList = (bs z.it.md).toList := fun e => e1 (by rwa [bs_toList, bs_toList] at e)
              have e1'' : ((bs y.it.md).toList == (bs z.it.md).toList) = false := by simpa using e1'
              have hne : z.key ≠ y.key := fun e => e1 (congrArg Prod.fst e).symm
              clear e1
              refine wp_region_held' (fun w' => w'.cell? ⟨w.heap.size, 1, none⟩ = some (.slice (some ad) m c) ∧ w'.cell? ⟨(ad.add (k * 4)).block, (ad.add (k * 4)).off + 1, none⟩ = some (sv y.it.md) ∧ w'.cell? ⟨(ad.add (k * 4)).block, (ad.add (k * 4)).off + 2, none⟩ = some (sv y.it.nm) ∧ w'.cell? ⟨(ad.add (q * 4)).block, (ad.add (q * 4)).off + 1, none⟩ = some (sv z.it.md) ∧ w'.cell? ⟨(ad.add (q * 4)).block, (ad.add (q * 4)).off + 2, none⟩ = some (sv z.it.nm)) [] [0, 1, 2, 3, 4, 5, 6, 7, 8, 9, 10, 11, 12, 13, 14, 15, 16, 17, 18, 19, 20, 21, 22, 23, 24, 25, 26, 27, 28, 29, 30, 31] [] [] (by kernel_rfl) (by kernel_rfl) ?svc ?hvc
              case svc => exact ⟨d1, b1, b2, z1, z2⟩
              case hvc =>
              simp only [opsAt, List.filterMap_cons, List.filterMap_nil, List.getElem?_toArray, List.getElem?_cons_succ, List.getElem?_cons_zero]
              refine wpFloat_nil ?_
              refine wpLoad_step ?vvc0 rfl (fun w' hS => ?yvc0) ?kvc0
              case yvc0 =>
                obtain ⟨g0, g1, g2, g3, g4⟩ := hS
                go_simp
                try rfl
              case kvc0 =>
              go_simp
              refine wpLoad_step ?vvc1 rfl (fun w' hS => ?yvc1) ?kvc1
              case yvc1 =>
                obtain ⟨g0, g1, g2, g3, g4⟩ := hS
                go_simp
                try rfl
              case kvc1 =>
              go_simp
              refine wpLoad_step ?vvc2 rfl (fun w' hS => ?yvc2) ?kvc2
              case yvc2 =>
                obtain ⟨g0, g1, g2, g3, g4⟩ := hS
                go_simp
                try rfl
              case kvc2 =>
              go_simp
              refine wpLoad_step ?vvc3 rfl (fun w' hS => ?yvc3) ?kvc3
              case yvc3 =>
                obtain ⟨g0, g1, g2, g3, g4⟩ := hS
                go_simp
                try rfl
              case kvc3 =>
              go_simp
              refine wpLoad_step ?vvc4 rfl (fun w' hS => ?yvc4) ?kvc4
              case yvc4 =>
                obtain ⟨g0, g1, g2, g3, g4⟩ := hS
                go_simp
                try rfl
              case kvc4 =>
              go_simp
              refine wpLoad_step ?vvc5 rfl (fun w' hS => ?yvc5) ?kvc5
              case yvc5 =>
                obtain ⟨g0, g1, g2, g3, g4⟩ := hS
                go_simp
                try rfl
              case kvc5 =>
              go_simp
              refine wpLoad_step ?vvc6 rfl (fun w' hS => ?yvc6) ?kvc6
              case yvc6 =>
                obtain ⟨g0, g1, g2, g3, g4⟩ := hS
                go_simp
                try rfl
              case kvc6 =>
              go_simp
              refine wpLoad_step ?vvc7 rfl (fun w' hS => ?yvc7) ?kvc7
              case yvc7 =>
                obtain ⟨g0, g1, g2, g3, g4⟩ := hS
                go_simp
                try rfl
              case kvc7 =>
              go_simp
              refine wpLoad_step ?vvc8 rfl (fun w' hS => ?yvc8) ?kvc8
              case yvc8 =>
                obtain ⟨g0, g1, g2, g3, g4⟩ := hS
                go_simp
                try rfl
              case kvc8 =>
              go_simp
              refine wpLoad_step ?vvc9 rfl (fun w' hS => ?yvc9) ?kvc9
              case yvc9 =>
                obtain ⟨g0, g1, g2, g3, g4⟩ := hS
                go_simp
                try rfl
              case kvc9 =>
              go_simp
              refine wpLoad_step ?vvc10 rfl (fun w' hS => ?yvc10) ?kvc10
              case yvc10 =>
                obtain ⟨g0, g1, g2, g3, g4⟩ := hS
                go_simp
                try rfl
              case kvc10 =>
              go_simp
              refine wpLoad_step ?vvc11 rfl (fun w' hS => ?yvc11) ?kvc11
              case yvc11 =>
                obtain ⟨g0, g1, g2, g3, g4⟩ := hS
                go_simp
                try rfl
              case kvc11 =>
              go_simp
              refine wpLoad_step ?vvc12 rfl (fun w' hS => ?yvc12) ?kvc12
              case yvc12 =>
                obtain ⟨g0, g1, g2, g3, g4⟩ := hS
                go_simp
                try rfl
              case kvc12 =>
              go_simp
              refine wpLoad_step ?vvc13 rfl (fun w' hS => ?yvc13) ?kvc13
              case yvc13 =>
                obtain ⟨g0, g1, g2, g3, g4⟩ := hS
                go_simp
                try rfl
              case kvc13 =>
              go_simp
              refine wpLoad_step ?vvc14 rfl (fun w' hS => ?yvc14) ?kvc14
              case yvc14 =>
                obtain ⟨g0, g1, g2, g3, g4⟩ := hS
                go_simp
                try rfl
              case kvc14 =>
              go_simp
              refine wpLoad_step ?vvc15 rfl (fun w' hS => ?yvc15) ?kvc15
              case yvc15 =>
                obtain ⟨g0, g1, g2, g3, g4⟩ := hS
                go_simp
                try rfl
              case kvc15 =>
              go_simp
              refine wpLoad_skip rfl ?_
              go_simp
              refine wpLoad_skip rfl ?_
              go_simp
              refine wpLoad_skip rfl ?_
              go_simp
              refine wpLoad_skip rfl ?_
              go_simp
              refine wpLoad_skip rfl ?_
              go_simp
              refine wpLoad_skip rfl ?_
              go_simp
              refine wpLoad_skip rfl ?_
              go_simp
              refine wpLoad_skip rfl ?_
              go_simp
              refine wpLoad_skip rfl ?_
              go_simp
              refine wpLoad_skip rfl ?_
              go_simp
              refine wpLoad_skip rfl ?_
              go_simp
              refine wpLoad_skip rfl ?_
              go_simp
              refine wpLoad_skip rfl ?_
              go_simp
              refine wpLoad_skip rfl ?_
              go_simp
              refine wpLoad_skip rfl ?_
              go_simp
              refine wpLoad_step ?vvc31 rfl (fun w' hS => ?yvc31) ?kvc31
              case yvc31 =>
                obtain ⟨g0, g1, g2, g3, g4⟩ := hS
                go_simp
                try rfl
              case kvc31 =>
              go_simp
              refine wpLoad_nil ?_
              refine wpKeep_nil ?_
              go_wp2
              refine NoPanic.normal ?_
              go_wp2
              go_roundw
              case rel => exact ⟨q + 1, by omega, by go_num, HBq.out.trans ((Below.refl _ wr).drew.mono hsq), HXq.out, HSK.out hne⟩
              case measure => simp [intOf]; omega
          · have hqe : q = k := by omega
            subst hqe
            go_wp2
            go_roundw
            case rel =>
              refine ⟨q + 1, by omega, by go_num, HBq.out, HXq.out, ?_⟩
              rw [HTK.out]
              exact chkP_snoc.2 ⟨HP.out, HLI2.out, by omega, HNq.out⟩
            case measure => simp [intOf]; omega
    · go_wp2
      go_ret
      have hx : xs.take k = xs := List.take_of_length_le (by rw [← HM.out]; omega)
      have hp := HP.out
      rw [hx] at hp
      exact ⟨_, rfl, ⟨fun _ => ⟨h1, h2, hp⟩, fun _ => rfl⟩, HB.out⟩
end Go.Proofs.Ytmnhgkhidepojaa
