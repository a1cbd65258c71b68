/-
  The walk of ref40.SameList.
  Conditions: the messages lie in memory; there are at most 10^6.
-/
import Derived.Test.YtlgdminpkkhejaaDtO
namespace Go.Proofs.Ytlgdminpkkhejaa
open Go.RowKit

set_option maxHeartbeats 1600000 in
set_option maxRecDepth 100000 in
theorem sameList_any (xs ys : List Msg) (A B : Option Addr) (c d : Nat) (w : World) (hl : xs.length ≤ 1000000) (h : Row w (Lt w.heap.size) A (flt msC xs)) (h2 : Row w (Lt w.heap.size) B (flt msC ys)) :
    Calls Try.prog 11 #[.slice A xs.length c, .slice B ys.length d] w (Says (xs = ys) w) := by
  by_cases hll : xs.length = ys.length
  · obtain ⟨m, hm⟩ : ∃ m, m = xs.length := ⟨_, rfl⟩
    rw [← hll, ← hm]
    rw [← hm] at hl
    have HM := Lib.hid hm
    have HLL := Lib.hid hll
    have HR := Lib.hid h
    have HR2 := Lib.hid h2
    clear hm hll h h2
    go_enter Try.func11, Try.ntmps11
    go_wp2_with fail
    go_loopw [14] (fun i wr => ∃ k : Nat, k ≤ m ∧ i = .int .i64 k ∧ Below w.heap.size w wr ∧ xs.take k = ys.take k) (fun i _ => m - (intOf i).toNat)
    case atStart => exact ⟨0, by omega, rfl, Below.refl _ _, rfl⟩
    case round =>
      obtain ⟨k, hkm, rfl, hB, hP⟩ := hrel
      have HP := Lib.hid hP
      clear hP
      by_cases hlt : k < m
      · obtain ⟨x, hx⟩ : ∃ x, xs[k]? = some x := ⟨_, List.getElem?_eq_getElem (by rw [← HM.out]; exact hlt)⟩
        obtain ⟨y, hy⟩ : ∃ y, ys[k]? = some y := ⟨_, List.getElem?_eq_getElem (by rw [← HLL.out, ← HM.out]; exact hlt)⟩
        obtain ⟨ad, rfl, hsa, a0, a1, a2⟩ := ms_at (HR.out.keep (kept_below hB)) hx
        have hb1 : Below wr.heap.size wr (wr.alloc (.cells #[.int .i64 x.1, .int .i64 x.2.1, sv x.2.2] 40)) := (Below.refl _ _).alloc (Nat.le_refl _) _
        have ha1 := alloc1 wr (.cells #[.int .i64 x.1, .int .i64 x.2.1, sv x.2.2] 40)
        obtain ⟨w1, hw1⟩ : ∃ w1, w1 = wr.alloc (.cells #[.int .i64 x.1, .int .i64 x.2.1, sv x.2.2] 40) := ⟨_, rfl⟩
        rw [← hw1] at ha1 hb1
        obtain ⟨c0, c1, c2⟩ := ms_blk ha1 rfl
        obtain ⟨be, rfl, _, b0, b1, b2⟩ := ms_at ((HR2.out.keep (kept_below hB)).keep ((kept_below hb1).sub fun y hy => Nat.lt_of_lt_of_le hy hB.size)) hy
        have hik : (0 : Int) ≤ (k : Int) ∧ (k : Int) < (m : Int) := ⟨by omega, by omega⟩
        have HX := Lib.hid hx
        have HY := Lib.hid hy
        have HB := Lib.hid (hB.trans (hb1.mono hB.size))
        have HW1 := Lib.hid hw1
        have HCC : Hid (AtCells [(⟨wr.heap.size, 0, none⟩, .int .i64 x.1), (⟨wr.heap.size, 0 + 1, none⟩, .int .i64 x.2.1), (⟨wr.heap.size, 0 + 2, none⟩, sv x.2.2), (be.add (k * 3), .int .i64 y.1), (⟨(be.add (k * 3)).block, (be.add (k * 3)).off + 1, none⟩, .int .i64 y.2.1), (⟨(be.add (k * 3)).block, (be.add (k * 3)).off + 2, none⟩, sv y.2.2)] w1) := Lib.hid ⟨c0, c1, c2, b0, b1, b2, trivial⟩
        clear hx hy hB hsa c0 c1 c2 b0 b1 b2 ha1 hb1 hw1
        go_wp2_with fail
        rw [← HW1.out]
        clear HW1 a0 a1 a2
        refine wp_region_held' (AtCells [(⟨wr.heap.size, 0, none⟩, .int .i64 x.1), (⟨wr.heap.size, 0 + 1, none⟩, .int .i64 x.2.1), (⟨wr.heap.size, 0 + 2, none⟩, sv x.2.2), (be.add (k * 3), .int .i64 y.1), (⟨(be.add (k * 3)).block, (be.add (k * 3)).off + 1, none⟩, .int .i64 y.2.1), (⟨(be.add (k * 3)).block, (be.add (k * 3)).off + 2, none⟩, sv y.2.2)]) [] [0, 1, 2, 3, 4, 5] [] [] (by kernel_rfl) (by kernel_rfl) ?sa ?ha
        case sa => exact HCC.out.below (Below.refl _ w1).drew
        case ha =>
        clear HCC
        simp only [opsAt, List.filterMap_cons, List.filterMap_nil, List.getElem?_toArray, List.getElem?_cons_succ, List.getElem?_cons_zero]
        refine wpFloat_nil ?_
        refine wpLoad_step ?va0 rfl (fun w' hS => ?ya0) ?ka0
        case ya0 =>
          obtain ⟨g0, g1, g2, g3, g4, g5, _⟩ := hS
          go_simp
          try rfl
        case ka0 =>
        go_simp
        refine wpLoad_step ?va1 rfl (fun w' hS => ?ya1) ?ka1
        case ya1 =>
          obtain ⟨g0, g1, g2, g3, g4, g5, _⟩ := hS
          go_simp
          try rfl
        case ka1 =>
        go_simp
        refine wpLoad_step ?va2 rfl (fun w' hS => ?ya2) ?ka2
        case ya2 =>
          obtain ⟨g0, g1, g2, g3, g4, g5, _⟩ := hS
          go_simp
          try rfl
        case ka2 =>
        go_simp
        refine wpLoad_step ?va3 rfl (fun w' hS => ?ya3) ?ka3
        case ya3 =>
          obtain ⟨g0, g1, g2, g3, g4, g5, _⟩ := hS
          go_simp
          try rfl
        case ka3 =>
        go_simp
        refine wpLoad_step ?va4 rfl (fun w' hS => ?ya4) ?ka4
        case ya4 =>
          obtain ⟨g0, g1, g2, g3, g4, g5, _⟩ := hS
          go_simp
          try rfl
        case ka4 =>
        go_simp
        refine wpLoad_step (.bool (!decide (x = y))) rfl (fun w' hS => ?ya5) ?ka5
        case ya5 =>
          go_simp
          simp only [bs_toList]
          by_cases h1 : x.1 = y.1 <;> by_cases h2 : x.2.1 = y.2.1 <;> by_cases h3 : x.2.2 = y.2.2 <;> simp [h1, h2, h3, Prod.ext_iff, eq_comm]
        case ka5 =>
        by_cases he : x = y
        · have hq : decide (x = y) = true := decide_eq_true he
          have HE := Lib.hid he
          rw [hq]
          clear hq he
          refine wpLoad_nil ?_
          refine wpKeep_nil ?_
          go_wp2
          refine NoPanic.normal ?_
          go_wp2
          go_roundw
          case rel => exact ⟨k + 1, by omega, by go_num, HB.out.drew, by rw [take_snoc HX.out, take_snoc HY.out, HP.out, HE.out]⟩
          case measure => simp [intOf]; omega
        · have hq : decide (x = y) = false := decide_eq_false he
          have HE := Lib.hid he
          rw [hq]
          clear hq he
          refine wpLoad_nil ?_
          refine wpKeep_nil ?_
          go_wp2
          refine NoPanic.normal ?_
          go_wp2
          go_ret
          refine ⟨_, rfl, ⟨(fun h => by cases h), fun h => ?_⟩, HB.out.drew⟩
          have e1 := HX.out
          rw [h, HY.out] at e1
          exact absurd (Option.some.inj e1).symm HE.out
      · have HB := Lib.hid hB
        clear hB
        go_wp2
        go_ret
        refine ⟨_, rfl, ⟨fun _ => ?_, fun _ => rfl⟩, HB.out⟩
        have hp := HP.out
        rwa [List.take_of_length_le (by rw [← HM.out]; omega), List.take_of_length_le (by rw [← HLL.out, ← HM.out]; omega)] at hp
  · have hne : xs ≠ ys := fun e => hll (by rw [e])
    obtain ⟨m, hm⟩ : ∃ m, m = xs.length := ⟨_, rfl⟩
    obtain ⟨m2, hm2⟩ : ∃ m2, m2 = ys.length := ⟨_, rfl⟩
    rw [← hm, ← hm2] at hll ⊢
    have HNE := Lib.hid hne
    have hq : ((m : Int) != (m2 : Int)) = true := by simp; omega
    have hq2 : ((m : Int) == (m2 : Int)) = false := by simp; omega
    clear hm hm2 h h2 hl hne
    go_enter Try.func11, Try.ntmps11
    go_wp2
    go_ret
    exact ⟨_, rfl, ⟨(fun h => by cases h), fun h => absurd h HNE.out⟩, Below.refl _ _⟩
end Go.Proofs.Ytlgdminpkkhejaa
