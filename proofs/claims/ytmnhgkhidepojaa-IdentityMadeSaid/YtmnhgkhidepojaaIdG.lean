/-
  The walks of recompileref05.SameList, Same.
  Conditions: the arguments read as identities.
-/
import Derived.Test.YtmnhgkhidepojaaIdU
namespace Go.Proofs.Ytmnhgkhidepojaa
open Go.RowKit

def eqI (x y : Idn) : Bool := decide (x.id = y.id) && (decide (x.it.md = y.it.md) && (decide (x.it.nm = y.it.nm) && decide (x.it.sh = y.it.sh)))
theorem eqI_iff (x y : Idn) : eqI x y = true ↔ x = y := by
  obtain ⟨i, ⟨a, b, c⟩⟩ := x
  obtain ⟨j, ⟨d, e, f⟩⟩ := y
  simp [eqI]

set_option maxHeartbeats 1600000 in
set_option maxRecDepth 100000 in
theorem sameList_any (xs ys : List Idn) (A B : Option Addr) (c d : Nat) (w : World) (hl : xs.length ≤ 1000) (h : Row w (Lt w.heap.size) A (flt idC xs)) (h2 : Row w (Lt w.heap.size) B (flt idC ys)) :
    Calls Try.prog 24 #[.slice A xs.length c, .slice B ys.length d] w (Says (xs = ys) w) := by
  by_cases hll : xs.length = ys.length
  · obtain ⟨m, hm⟩ : ∃ m, m = xs.length := ⟨_, rfl⟩
    rw [← hll, ← hm]
    rw [← hm] at hl
    have HM := Lib.hid hm
    have HLL := Lib.hid hll
    have HR := Lib.hid h
    have HR2 := Lib.hid h2
    clear hm hll h h2
    go_enter Try.func24, Try.ntmps24
    go_wp2_with fail
    go_loopw [5] (fun i wr => ∃ k : Nat, k ≤ m ∧ i = .int .i64 k ∧ Below w.heap.size w wr ∧ xs.take k = ys.take k) (fun i _ => m - (intOf i).toNat)
    case atStart => exact ⟨0, by omega, rfl, Below.refl _ _, rfl⟩
    case round =>
      obtain ⟨k, hkm, rfl, hB, hP⟩ := hrel
      have HP := Lib.hid hP
      clear hP
      by_cases hlt : k < m
      · obtain ⟨x, hx⟩ : ∃ x, xs[k]? = some x := ⟨_, List.getElem?_eq_getElem (by rw [← HM.out]; exact hlt)⟩
        obtain ⟨y, hy⟩ : ∃ y, ys[k]? = some y := ⟨_, List.getElem?_eq_getElem (by rw [← HLL.out, ← HM.out]; exact hlt)⟩
        obtain ⟨ad, rfl, hS, a0, a1, a2, a3⟩ := id_at (HR.out.keep (kept_below hB)) hx
        obtain ⟨be, rfl, hS2, b0, b1, b2, b3⟩ := id_at (HR2.out.keep (kept_below hB)) hy
        have HX := Lib.hid hx
        have HY := Lib.hid hy
        have HB := Lib.hid hB
        clear hx hy hB
        go_wp2_with fail
        refine wp_region_held' (fun w' => (w'.cell? (ad.add (k * 4)) = some (.int .i64 x.id) ∧ w'.cell? ⟨(ad.add (k * 4)).block, (ad.add (k * 4)).off + 1, none⟩ = some (sv x.it.md) ∧ w'.cell? ⟨(ad.add (k * 4)).block, (ad.add (k * 4)).off + 2, none⟩ = some (sv x.it.nm) ∧ w'.cell? ⟨(ad.add (k * 4)).block, (ad.add (k * 4)).off + 3, none⟩ = some (sv x.it.sh)) ∧
          w'.cell? (be.add (k * 4)) = some (.int .i64 y.id) ∧ w'.cell? ⟨(be.add (k * 4)).block, (be.add (k * 4)).off + 1, none⟩ = some (sv y.it.md) ∧ w'.cell? ⟨(be.add (k * 4)).block, (be.add (k * 4)).off + 2, none⟩ = some (sv y.it.nm) ∧ w'.cell? ⟨(be.add (k * 4)).block, (be.add (k * 4)).off + 3, none⟩ = some (sv y.it.sh)) [] [0, 1, 2, 3, 4, 5, 6, 7, 8] [] [] (by kernel_rfl) (by kernel_rfl) ?sa ?ha
        case sa => exact ⟨⟨a0, a1, a2, a3⟩, b0, b1, b2, b3⟩
        case ha =>
          simp only [opsAt, List.filterMap_cons, List.filterMap_nil, List.getElem?_toArray, List.getElem?_cons_succ, List.getElem?_cons_zero]
          refine wpFloat_nil ?_
          refine wpLoad_step ?va0 rfl (fun w' hS => ?ya0) ?ka0
          case ya0 =>
            obtain ⟨⟨g0, g1, g2, g3⟩, g4, g5, g6, g7⟩ := hS
            go_simp
            try rfl
          case ka0 =>
          go_simp
          refine wpLoad_step ?va1 rfl (fun w' hS => ?ya1) ?ka1
          case ya1 =>
            obtain ⟨⟨g0, g1, g2, g3⟩, g4, g5, g6, g7⟩ := hS
            go_simp
            try rfl
          case ka1 =>
          go_simp
          refine wpLoad_step ?va2 rfl (fun w' hS => ?ya2) ?ka2
          case ya2 =>
            obtain ⟨⟨g0, g1, g2, g3⟩, g4, g5, g6, g7⟩ := hS
            go_simp
            try rfl
          case ka2 =>
          go_simp
          refine wpLoad_step ?va3 rfl (fun w' hS => ?ya3) ?ka3
          case ya3 =>
            obtain ⟨⟨g0, g1, g2, g3⟩, g4, g5, g6, g7⟩ := hS
            go_simp
            try rfl
          case ka3 =>
          go_simp
          refine wpLoad_step ?va4 rfl (fun w' hS => ?ya4) ?ka4
          case ya4 =>
            obtain ⟨⟨g0, g1, g2, g3⟩, g4, g5, g6, g7⟩ := hS
            go_simp
            try rfl
          case ka4 =>
          go_simp
          refine wpLoad_step ?va5 rfl (fun w' hS => ?ya5) ?ka5
          case ya5 =>
            obtain ⟨⟨g0, g1, g2, g3⟩, g4, g5, g6, g7⟩ := hS
            go_simp
            try rfl
          case ka5 =>
          go_simp
          refine wpLoad_step ?va6 rfl (fun w' hS => ?ya6) ?ka6
          case ya6 =>
            obtain ⟨⟨g0, g1, g2, g3⟩, g4, g5, g6, g7⟩ := hS
            go_simp
            try rfl
          case ka6 =>
          go_simp
          refine wpLoad_step ?va7 rfl (fun w' hS => ?ya7) ?ka7
          case ya7 =>
            obtain ⟨⟨g0, g1, g2, g3⟩, g4, g5, g6, g7⟩ := hS
            go_simp
            try rfl
          case ka7 =>
          go_simp
          refine wpLoad_step (.bool (!eqI x y)) rfl (fun w' hS => ?ya8) ?ka8
          case ya8 =>
            go_simp
            simp only [bs_toList]
            unfold eqI
            by_cases h1 : x.id = y.id <;> by_cases h2 : x.it.md = y.it.md <;> by_cases h3 : x.it.nm = y.it.nm <;> by_cases h4 : x.it.sh = y.it.sh <;> simp [h1, h2, h3, h4]
          case ka8 =>
          refine wpLoad_nil ?_
          refine wpKeep_nil ?_
          clear a0 a1 a2 a3 b0 b1 b2 b3
          by_cases he : x = y
          · have hq := (eqI_iff x y).2 he
            have HE := Lib.hid he
            clear he
            generalize hbb : eqI x y = bb at hq ⊢
            subst hq
            clear hbb
            go_wp2
            refine NoPanic.normal ?_
            go_wp2
            go_roundw
            case rel => exact ⟨k + 1, by omega, by go_num, HB.out.drew, by rw [take_snoc HX.out, take_snoc HY.out, HP.out, HE.out]⟩
            case measure => simp [intOf]; omega
          · have hq : eqI x y = false := by
              rw [Bool.eq_false_iff]
              exact fun e => he ((eqI_iff x y).1 e)
            generalize hbb : eqI x y = bb at hq ⊢
            subst hq
            clear hbb
            go_wp2
            refine NoPanic.normal ?_
            go_wp2
            go_ret
            refine ⟨_, rfl, ⟨(fun h => by cases h), fun h => ?_⟩, HB.out.drew⟩
            have e1 := HX.out
            rw [h, HY.out] at e1
            exact absurd (Option.some.inj e1).symm he
      · have HB := Lib.hid hB
        clear hB
        go_wp2
        go_ret
        refine ⟨_, rfl, ⟨fun _ => ?_, fun _ => rfl⟩, HB.out⟩
        have hp := HP.out
        rwa [List.take_of_length_le (by rw [← HM.out]; omega), List.take_of_length_le (by rw [← HLL.out, ← HM.out]; omega)] at hp
  · have hne : xs ≠ ys := fun e => hll (by rw [e])
    obtain ⟨m, hm⟩ : ∃ m, m = xs.length := ⟨_, rfl⟩
    obtain ⟨m2, hm2⟩ : ∃ m2, m2 = ys.length := ⟨_, rfl⟩
    rw [← hm, ← hm2] at hll ⊢
    have HNE := Lib.hid hne
    have hq : ((m : Int) != (m2 : Int)) = true := by simp; omega
    have hq2 : ((m : Int) == (m2 : Int)) = false := by simp; omega
    clear hm hm2 h h2 hl hne
    go_enter Try.func24, Try.ntmps24
    go_wp2
    go_ret
    exact ⟨_, rfl, ⟨(fun h => by cases h), fun h => absurd h HNE.out⟩, Below.refl _ _⟩

set_option maxHeartbeats 1600000 in
set_option maxRecDepth 100000 in
theorem same_any (n m : Int) (xs ys : List Idn) (A B : Option Addr) (c d : Nat) (w : World) (hl : xs.length ≤ 1000) (h : Row w (Lt w.heap.size) A (flt idC xs)) (h2 : Row w (Lt w.heap.size) B (flt idC ys)) :
    Calls Try.prog 16 #[.agg #[.int .i64 n, .slice A xs.length c], .agg #[.int .i64 m, .slice B ys.length d]] w (Says (n = m ∧ xs = ys) w) := by
  have hb : Below w.heap.size w ((w.alloc (.cells #[.int .i64 n, .slice A xs.length c] 29)).alloc (.cells #[.int .i64 m, .slice B ys.length d] 29)) := ((Below.refl _ _).alloc (Nat.le_refl _) _).alloc (by simp) _
  have hS := sameList_any xs ys A B c d ((w.alloc (.cells #[.int .i64 n, .slice A xs.length c] 29)).alloc (.cells #[.int .i64 m, .slice B ys.length d] 29)) hl ((h.keep (kept_below hb)).more fun b hb => by unfold Lt at hb ⊢; simp; omega) ((h2.keep (kept_below hb)).more fun b hb => by unfold Lt at hb ⊢; simp; omega)
  obtain ⟨p, hp⟩ : ∃ p, p = xs.length := ⟨_, rfl⟩
  obtain ⟨q, hq⟩ : ∃ q, q = ys.length := ⟨_, rfl⟩
  rw [← hp, ← hq] at hS hb ⊢
  have HS := Lib.hid hS
  have HB := Lib.hid hb
  clear hS hb h h2 hp hq hl
  by_cases he : n = m
  · subst he
    go_enter Try.func16, Try.ntmps16
    go_wp2_with fail
    refine HS.out.mono ?_
    rintro e w2 ⟨r, rfl, hr, hb2⟩
    have HR := Lib.hid hr
    have HB2 := Lib.hid hb2
    clear hr hb2
    go_wp2
    go_ret
    exact ⟨r, rfl, ⟨fun h => ⟨by trivial, HR.out.1 h⟩, fun h => HR.out.2 h.2⟩, HB.out.trans (HB2.out.mono HB.out.size)⟩
  · have hq : (n == m) = false := by simpa using he
    go_enter Try.func16, Try.ntmps16
    go_wp2
    go_ret
    exact ⟨_, rfl, ⟨(fun h => by cases h), fun h => absurd h.1 he⟩, HB.out⟩
end Go.Proofs.Ytmnhgkhidepojaa
