/-
  The walk of law's agree: the updates, finds, checks and moves of both texts give the same.
  Conditions: the arguments read as identities, items and strings; at most 1000 of them.
-/
import Derived.Test.YtmnhgkhidepojaaIdRu
import Derived.Test.YtmnhgkhidepojaaIdRm
import Derived.Test.YtmnhgkhidepojaaIdR
import Derived.Test.YtmnhgkhidepojaaIdG
import Derived.Test.YtmnhgkhidepojaaIdE
namespace Go.Proofs.Ytmnhgkhidepojaa
open Go.RowKit

theorem upd_few {n m e : Int} {xs ys : List Idn} {l : List It} (h : Upd 1 3 n xs l m ys e) (hx : xs.length ≤ 1000) (hl : l.length ≤ 1000) : ys.length ≤ 1000 := by
  rcases h with ⟨_, _, rfl, _⟩ | ⟨_, _, _, _, rfl, _⟩ | ⟨_, _, _, _, hp, _⟩
  · exact hx
  · exact hx
  · have := hp.length_eq
    rw [this, zipI_length (by rw [ids2_length])]
    exact hl
set_option maxHeartbeats 1600000 in
set_option maxRecDepth 100000 in
theorem agree_any (n n2 : Int) (xs os : List Idn) (l : List It) (A A2 B : Option Addr) (c c2 d : Nat) (ka kb : List UInt8) (w : World) (hA : A = none → c = 0) (hl : xs.length ≤ 1000) (hl2 : os.length ≤ 1000) (hl3 : l.length ≤ 1000) (h : Row w (Lt w.heap.size) A (flt idC xs)) (h2 : Row w (Lt w.heap.size) A2 (flt idC os)) (h3 : Row w (Lt w.heap.size) B (flt itC l)) :
    Calls Try.prog 12 #[.agg #[.int .i64 n, .slice A xs.length c], .agg #[.int .i64 n2, .slice A2 os.length c2], .slice B l.length d, sv ka, sv kb] w fun e w' => e = .returned (.bool true) ∧ Below w.heap.size w w' := by
  obtain ⟨m, hm⟩ : ∃ m, m = xs.length := ⟨_, rfl⟩
  obtain ⟨o, ho⟩ : ∃ o, o = os.length := ⟨_, rfl⟩
  obtain ⟨q, hq⟩ : ∃ q, q = l.length := ⟨_, rfl⟩
  have hx0 := alloc2 w (.cells #[.int .i64 n, .slice A m c] 29) (.cells #[.int .i64 n2, .slice A2 o c2] 29)
  have hb0 : Below w.heap.size w ((w.alloc (.cells #[.int .i64 n, .slice A m c] 29)).alloc (.cells #[.int .i64 n2, .slice A2 o c2] 29)) := ((Below.refl _ _).alloc (Nat.le_refl _) _).alloc (by simp) _
  have hs0 : ((w.alloc (.cells #[.int .i64 n, .slice A m c] 29)).alloc (.cells #[.int .i64 n2, .slice A2 o c2] 29)).heap.size = w.heap.size + 2 := by simp
  rw [← hm] at hl
  rw [← ho] at hl2
  rw [← hq] at hl3
  have HM := Lib.hid hm
  have HO := Lib.hid ho
  have HQL := Lib.hid hq
  have HR := Lib.hid h
  have HR2 := Lib.hid h2
  have HR3 := Lib.hid h3
  have HAC := Lib.hid hA
  rw [← hm, ← ho, ← hq]
  clear hm ho hq h h2 h3 hA
  go_enter Try.func12, Try.ntmps12
  go_wp2_with fail
  obtain ⟨w0, hw0⟩ : ∃ w0, w0 = ((w.alloc (.cells #[.int .i64 n, .slice A m c] 29)).alloc (.cells #[.int .i64 n2, .slice A2 o c2] 29)) := ⟨_, rfl⟩
  rw [← hw0] at hx0 hb0 hs0 ⊢
  clear hw0
  have c0 : w0.cell? ⟨w.heap.size, 0, none⟩ = some (.int .i64 n) := (Lib.cell_of_heap hx0.1 _).trans rfl
  have c1 : w0.cell? ⟨w.heap.size, 1, none⟩ = some (.slice A m c) := (Lib.cell_of_heap hx0.1 _).trans rfl
  have hr0 := (HR.out.keep (kept_below hb0)).more (S' := Lt w0.heap.size) fun b hb => by unfold Lt at hb ⊢; omega
  have hr02 := (HR2.out.keep (kept_below hb0)).more (S' := Lt w0.heap.size) fun b hb => by unfold Lt at hb ⊢; omega
  have hr03 := (HR3.out.keep (kept_below hb0)).more (S' := Lt w0.heap.size) fun b hb => by unfold Lt at hb ⊢; omega
  have HX0 := Lib.hid hx0
  have HB0 := Lib.hid hb0
  have HS0 := Lib.hid hs0
  have HR0 := Lib.hid hr0
  have HR02 := Lib.hid hr02
  have HR03 := Lib.hid hr03
  clear hx0 hb0 hs0 hr0 hr02 hr03 HR HR2 HR3
  go_wp2_with fail
  have hu := update_any n xs l A B c d w0 HAC.out (by rw [← HM.out]; omega) (by rw [← HQL.out]; omega) HR0.out HR03.out
  rw [← HM.out, ← HQL.out] at hu
  refine hu.mono ?_
  rintro e w1 ⟨mm, ys, YA, yc, eno, rfl, _, hYrow, hup, hb1⟩
  have hyf := upd_few hup (by rw [← HM.out]; omega) (by rw [← HQL.out]; omega)
  obtain ⟨y, hy⟩ : ∃ y, y = ys.length := ⟨_, rfl⟩
  rw [← hy] at hyf ⊢
  have hs1 := hb1.size
  have hb2 : Below w1.heap.size w1 (w1.alloc (.cells #[.int .i64 mm, .slice YA y yc] 29)) := (Below.refl _ _).alloc (Nat.le_refl _) _
  have ha2 := alloc1 w1 (.cells #[.int .i64 mm, .slice YA y yc] 29)
  obtain ⟨w2, hw2⟩ : ∃ w2, w2 = w1.alloc (.cells #[.int .i64 mm, .slice YA y yc] 29) := ⟨_, rfl⟩
  rw [← hw2] at hb2 ha2
  have hs2 : w2.heap.size = w1.heap.size + 1 := by rw [hw2]; simp
  have hs0 := HS0.out
  obtain ⟨p1, hp1⟩ : ∃ p1, p1 = w1.heap.size := ⟨_, rfl⟩
  rw [← hp1] at ha2
  have hb02 := hb1.trans (hb2.mono hs1)
  have hp1a : w.heap.size + 1 < p1 := by omega
  have hp1b : p1 < w2.heap.size := by omega
  have HB2 := Lib.hid (HB0.out.trans (hb02.mono (by omega)))
  have HX2 := Lib.hid ((hb02.block _ (by omega)).trans HX0.out.1)
  have HX22 := Lib.hid ((hb02.block _ (by omega)).trans HX0.out.2)
  have HR12 := Lib.hid ((HR0.out.keep (kept_below hb02)).more (S' := Lt w2.heap.size) fun b hb => by unfold Lt at hb ⊢; omega)
  have HR22 := Lib.hid ((HR02.out.keep (kept_below hb02)).more (S' := Lt w2.heap.size) fun b hb => by unfold Lt at hb ⊢; omega)
  have HR32 := Lib.hid ((HR03.out.keep (kept_below hb02)).more (S' := Lt w2.heap.size) fun b hb => by unfold Lt at hb ⊢; omega)
  have HRY2 := Lib.hid ((hYrow.keep ((kept_below hb2).sub fun b hb => hb.2)).more (S' := Lt w2.heap.size) fun b hb => by have := hb.2; unfold Lt; omega)
  have HA2 := Lib.hid ha2
  have HY := Lib.hid hy
  have HUP := Lib.hid hup
  have HW2 := Lib.hid hw2
  have HP1 := Lib.hid hp1
  have hx1 := (hb1.block _ (by omega)).trans HX0.out.1
  have hlw1 : w.heap.size < w1.heap.size := by omega
  have z0 : w1.cell? ⟨w.heap.size, 0, none⟩ = some (.int .i64 n) := (Lib.cell_of_heap hx1 _).trans rfl
  have z1 : w1.cell? ⟨w.heap.size, 1, none⟩ = some (.slice A m c) := (Lib.cell_of_heap hx1 _).trans rfl
  clear hx1 hYrow hup hb1 hy hb2 ha2 hw2 hp1 hb02 HX0 HB0 HR0 HR02 HR03 c0 c1 hs0 hs1 hs2
  go_wp2_with fail
  rw [← HW2.out, ← HP1.out]
  clear HW2 HP1 z0 z1 hlw1
  have hu2 := rupdate_any n xs l A B c d w2 (by rw [← HM.out]; omega) (by rw [← HQL.out]; omega) HR12.out HR32.out
  rw [← HM.out, ← HQL.out] at hu2
  refine hu2.mono ?_
  rintro e w3 ⟨mm', ys', ZA, zc, eno', rfl, _, hZown, hup', hb3⟩
  obtain ⟨rfl, rfl, rfl⟩ := HUP.out.unique hup'
  rw [← HY.out] at hZown ⊢
  have hs3 := hb3.size
  have hb4 : Below w3.heap.size w3 (w3.alloc (.cells #[.int .i64 mm, .slice ZA y zc] 29)) := (Below.refl _ _).alloc (Nat.le_refl _) _
  have ha4 := alloc1 w3 (.cells #[.int .i64 mm, .slice ZA y zc] 29)
  obtain ⟨w4, hw4⟩ : ∃ w4, w4 = w3.alloc (.cells #[.int .i64 mm, .slice ZA y zc] 29) := ⟨_, rfl⟩
  rw [← hw4] at hb4 ha4
  have hs4 : w4.heap.size = w3.heap.size + 1 := by rw [hw4]; simp
  obtain ⟨p2, hp2⟩ : ∃ p2, p2 = w3.heap.size := ⟨_, rfl⟩
  rw [← hp2] at ha4
  have hb24 := hb3.trans (hb4.mono hs3)
  have hp2a : p1 < p2 := by omega
  have hp2b : p2 < w4.heap.size := by omega
  have HB4 := Lib.hid (HB2.out.trans (hb24.mono HB2.out.size))
  have HX4 := Lib.hid ((hb24.block _ (by omega)).trans HX2.out)
  have HX42 := Lib.hid ((hb24.block _ (by omega)).trans HX22.out)
  have HA42 := Lib.hid ((hb24.block _ (by omega)).trans HA2.out)
  have HR14 := Lib.hid ((HR12.out.keep (kept_below hb24)).more (S' := Lt w4.heap.size) fun b hb => by unfold Lt at hb ⊢; omega)
  have HR24 := Lib.hid ((HR22.out.keep (kept_below hb24)).more (S' := Lt w4.heap.size) fun b hb => by unfold Lt at hb ⊢; omega)
  have HRY4 := Lib.hid ((HRY2.out.keep (kept_below hb24)).more (S' := Lt w4.heap.size) fun b hb => by unfold Lt at hb ⊢; omega)
  have HRZ4 := Lib.hid (((Row.ofOwn (S := Lt w3.heap.size) hZown fun g _ _ h4 => h4).keep (kept_below hb4)).more (S' := Lt w4.heap.size) fun b hb => by unfold Lt at hb ⊢; omega)
  have HA4 := Lib.hid ha4
  have HW4 := Lib.hid hw4
  have HP2 := Lib.hid hp2
  have hx3 := (hb3.block _ (by omega)).trans HX2.out
  have hlw3 : w.heap.size < w3.heap.size := by omega
  have z0 : w3.cell? ⟨w.heap.size, 0, none⟩ = some (.int .i64 n) := (Lib.cell_of_heap hx3 _).trans rfl
  have z1 : w3.cell? ⟨w.heap.size, 1, none⟩ = some (.slice A m c) := (Lib.cell_of_heap hx3 _).trans rfl
  clear hx3 hZown hup' hb3 hb4 ha4 hw4 hp2 hb24 HX2 HX22 HA2 HB2 HR12 HR22 HR32 HRY2 HUP hs3 hs4
  go_wp2_with fail
  rw [← HW4.out, ← HP2.out]
  clear HW4 HP2 z0 z1 hlw3
  have hf := find_any n xs A c ka kb w4 (by rw [← HM.out]; omega) HR14.out
  rw [← HM.out] at hf
  refine hf.mono ?_
  rintro e v1 ⟨rfl, hbv1⟩
  have hsv1 := hbv1.size
  have HRv1 := Lib.hid ((HR14.out.keep (kept_below hbv1)).more (S' := Lt v1.heap.size) fun b hb => by unfold Lt at hb ⊢; omega)
  have HBv1 := Lib.hid hbv1
  have z0 : v1.cell? ⟨w.heap.size, 0, none⟩ = some (.int .i64 n) := (hbv1.cell (p := ⟨w.heap.size, 0, none⟩) (show w.heap.size < w4.heap.size by omega)).trans ((Lib.cell_of_heap HX4.out _).trans rfl)
  have z1 : v1.cell? ⟨w.heap.size, 1, none⟩ = some (.slice A m c) := (hbv1.cell (p := ⟨w.heap.size, 1, none⟩) (show w.heap.size < w4.heap.size by omega)).trans ((Lib.cell_of_heap HX4.out _).trans rfl)
  obtain ⟨fi, hfi⟩ : ∃ fi, fi = (fnd xs (ka, kb)).getD 0 := ⟨_, rfl⟩
  obtain ⟨fb, hfb⟩ : ∃ fb, fb = (fnd xs (ka, kb)).isSome := ⟨_, rfl⟩
  rw [← hfi, ← hfb]
  have HFI := Lib.hid hfi
  have HFB := Lib.hid hfb
  clear hfi hfb hbv1 hf
  go_wp2_with fail
  have hf2 := rfind_any n xs A c ka kb v1 (by rw [← HM.out]; omega) HRv1.out
  rw [← HM.out] at hf2
  refine hf2.mono ?_
  rintro e w5 ⟨rfl, hbv2⟩
  rw [← HFI.out, ← HFB.out]
  have hb45 := HBv1.out.trans (hbv2.mono hsv1)
  have hs45 := hb45.size
  have HRX := Lib.hid ((HR14.out.keep (kept_below hb45)).more (S' := Lt w5.heap.size) fun b hb => by unfold Lt at hb ⊢; omega)
  have HRO := Lib.hid ((HR24.out.keep (kept_below hb45)).more (S' := Lt w5.heap.size) fun b hb => by unfold Lt at hb ⊢; omega)
  have HRY := Lib.hid ((HRY4.out.keep (kept_below hb45)).more (S' := Lt w5.heap.size) fun b hb => by unfold Lt at hb ⊢; omega)
  have HRZ := Lib.hid ((HRZ4.out.keep (kept_below hb45)).more (S' := Lt w5.heap.size) fun b hb => by unfold Lt at hb ⊢; omega)
  have HBF := Lib.hid (HB4.out.trans (hb45.mono HB4.out.size))
  have hX5 := (hb45.block _ (by omega)).trans HX4.out
  have hX52 := (hb45.block _ (by omega)).trans HX42.out
  have hA52 := (hb45.block _ (by omega)).trans HA42.out
  have hA5 := (hb45.block _ (by omega)).trans HA4.out
  have HC : Hid (AtCells [(⟨w.heap.size, 0, none⟩, .int .i64 n), (⟨w.heap.size, 1, none⟩, .slice A m c), (⟨w.heap.size + 1, 0, none⟩, .int .i64 n2), (⟨w.heap.size + 1, 1, none⟩, .slice A2 o c2), (⟨p1, 0, none⟩, .int .i64 mm), (⟨p1, 1, none⟩, .slice YA y yc), (⟨p2, 0, none⟩, .int .i64 mm), (⟨p2, 1, none⟩, .slice ZA y zc)] w5) :=
    Lib.hid ⟨(Lib.cell_of_heap hX5 _).trans rfl, (Lib.cell_of_heap hX5 _).trans rfl, (Lib.cell_of_heap hX52 _).trans rfl, (Lib.cell_of_heap hX52 _).trans rfl, (Lib.cell_of_heap hA52 _).trans rfl, (Lib.cell_of_heap hA52 _).trans rfl, (Lib.cell_of_heap hA5 _).trans rfl, (Lib.cell_of_heap hA5 _).trans rfl, trivial⟩
  clear hbv2 hb45 hX5 hX52 hA52 hA5 HR14 HR24 HRY4 HRZ4 HB4 HX4 HX42 HA42 HA4 HRv1 HBv1 HFI HFB z0 z1 hf2 hsv1 hs45
  go_wp2_with fail
  by_cases hc : Chk n xs
  · have hcv : ∀ r : Bool, (r = true ↔ Chk n xs) → r = true := fun r hr => hr.2 hc
    refine wp_region_mix (fun u => AtCells [(⟨w.heap.size, 0, none⟩, .int .i64 n), (⟨w.heap.size, 1, none⟩, .slice A m c), (⟨w.heap.size + 1, 0, none⟩, .int .i64 n2), (⟨w.heap.size + 1, 1, none⟩, .slice A2 o c2), (⟨p1, 0, none⟩, .int .i64 mm), (⟨p1, 1, none⟩, .slice YA y yc), (⟨p2, 0, none⟩, .int .i64 mm), (⟨p2, 1, none⟩, .slice ZA y zc)] u ∧ Below w5.heap.size w5 u) [(true, 0), (true, 2), (false, 1), (false, 3), (true, 4), (true, 5), (true, 6), (true, 7), (true, 8), (true, 9), (true, 10), (true, 11), (true, 12), (false, 13), (true, 14), (true, 15), (true, 16), (true, 17), (true, 18), (true, 19), (true, 20), (true, 21), (true, 22), (true, 23), (true, 24), (true, 25), (true, 26), (false, 27), (true, 28), (true, 29), (true, 30), (true, 31), (true, 33), (true, 34), (false, 32), (false, 35), (false, 36), (true, 37), (true, 38)] [39] (by kernel_rfl) (by kernel_rfl) ?sfalse ?hfalse
    case sfalse => exact ⟨HC.out.below (Below.refl _ w5).drew, (Below.refl _ w5).drew⟩
    case hfalse =>
    simp only [mixAt, List.filterMap_cons, List.filterMap_nil, List.getElem?_toArray, List.getElem?_cons_succ, List.getElem?_cons_zero, Option.map_some]
    refine wpMix_load ?vfalsea0 rfl (fun w' hS => ?yfalsea0) ?kfalsea0
    case yfalsea0 =>
      obtain ⟨⟨g0, g1, g2, g3, g4, g5, g6, g7, _⟩, _⟩ := hS
      go_simp
      try rfl
    case kfalsea0 =>
    go_simp
    refine wpMix_load ?vfalsea1 rfl (fun w' hS => ?yfalsea1) ?kfalsea1
    case yfalsea1 =>
      obtain ⟨⟨g0, g1, g2, g3, g4, g5, g6, g7, _⟩, _⟩ := hS
      go_simp
      try rfl
    case kfalsea1 =>
    go_simp
    refine wpMix_keep rfl ?_
    go_wp2_with fail
    have hb50 : Below w5.heap.size w5 w5.drew := (Below.refl _ w5).drew
    have hca := check_any n xs A c w5.drew (by rw [← HM.out]; omega) (HRX.out.keep (kept_below hb50))
    rw [← HM.out] at hca
    refine hca.mono ?_
    rintro e u1 ⟨r1, rfl, hr1, hbu1⟩
    have hb51 := hb50.trans hbu1
    refine ⟨⟨HC.out.below hb51, hb51⟩, ?_⟩
    obtain rfl : r1 = true := hcv r1 hr1
    clear hca hbu1 hr1
    refine wpMix_keep rfl ?_
    go_wp2_with fail
    have hcb := rcheck_any n xs A c u1 (by rw [← HM.out]; omega) ((HRX.out.keep (kept_below hb51)).more fun b hb => Nat.lt_of_lt_of_le hb hb51.size)
    rw [← HM.out] at hcb
    refine hcb.mono ?_
    rintro e u2 ⟨r2, rfl, hr2, hbu2⟩
    have hb52 := hb51.trans (hbu2.mono hb51.size)
    refine ⟨⟨HC.out.below hb52, hb52⟩, ?_⟩
    obtain rfl : r2 = true := hcv r2 hr2
    clear hcb hbu2 hr2 hb51
    refine wpMix_load ?vfalsec4 rfl (fun w' hS => ?yfalsec4) ?kfalsec4
    case yfalsec4 =>
      obtain ⟨⟨g0, g1, g2, g3, g4, g5, g6, g7, _⟩, _⟩ := hS
      go_simp
      try rfl
    case kfalsec4 =>
    go_simp
    refine wpMix_load ?vfalsec5 rfl (fun w' hS => ?yfalsec5) ?kfalsec5
    case yfalsec5 =>
      obtain ⟨⟨g0, g1, g2, g3, g4, g5, g6, g7, _⟩, _⟩ := hS
      go_simp
      try rfl
    case kfalsec5 =>
    go_simp
    refine wpMix_load ?vfalsec6 rfl (fun w' hS => ?yfalsec6) ?kfalsec6
    case yfalsec6 =>
      obtain ⟨⟨g0, g1, g2, g3, g4, g5, g6, g7, _⟩, _⟩ := hS
      go_simp
      try rfl
    case kfalsec6 =>
    go_simp
    refine wpMix_load ?vfalsec7 rfl (fun w' hS => ?yfalsec7) ?kfalsec7
    case yfalsec7 =>
      obtain ⟨⟨g0, g1, g2, g3, g4, g5, g6, g7, _⟩, _⟩ := hS
      go_simp
      try rfl
    case kfalsec7 =>
    go_simp
    refine wpMix_load ?vfalsec8 rfl (fun w' hS => ?yfalsec8) ?kfalsec8
    case yfalsec8 =>
      obtain ⟨⟨g0, g1, g2, g3, g4, g5, g6, g7, _⟩, _⟩ := hS
      go_simp
      try rfl
    case kfalsec8 =>
    go_simp
    refine wpMix_load ?vfalsec9 rfl (fun w' hS => ?yfalsec9) ?kfalsec9
    case yfalsec9 =>
      obtain ⟨⟨g0, g1, g2, g3, g4, g5, g6, g7, _⟩, _⟩ := hS
      go_simp
      try rfl
    case kfalsec9 =>
    go_simp
    refine wpMix_load ?vfalsec10 rfl (fun w' hS => ?yfalsec10) ?kfalsec10
    case yfalsec10 =>
      obtain ⟨⟨g0, g1, g2, g3, g4, g5, g6, g7, _⟩, _⟩ := hS
      go_simp
      try rfl
    case kfalsec10 =>
    go_simp
    refine wpMix_load ?vfalsec11 rfl (fun w' hS => ?yfalsec11) ?kfalsec11
    case yfalsec11 =>
      obtain ⟨⟨g0, g1, g2, g3, g4, g5, g6, g7, _⟩, _⟩ := hS
      go_simp
      try rfl
    case kfalsec11 =>
    go_simp
    refine wpMix_load ?vfalsec12 rfl (fun w' hS => ?yfalsec12) ?kfalsec12
    case yfalsec12 =>
      obtain ⟨⟨g0, g1, g2, g3, g4, g5, g6, g7, _⟩, _⟩ := hS
      go_simp
      try rfl
    case kfalsec12 =>
    go_simp
    refine wpMix_keep rfl ?_
    go_wp2_with fail
    have hsm := same_any mm mm ys ys YA ZA yc zc u2 (by rw [← HY.out]; omega) ((HRY.out.keep (kept_below hb52)).more fun b hb => Nat.lt_of_lt_of_le hb hb52.size) ((HRZ.out.keep (kept_below hb52)).more fun b hb => Nat.lt_of_lt_of_le hb hb52.size)
    rw [← HY.out] at hsm
    refine hsm.mono ?_
    rintro e u3 ⟨r3, rfl, hr3, hbu3⟩
    have hb53 := hb52.trans (hbu3.mono hb52.size)
    refine ⟨⟨HC.out.below hb53, hb53⟩, ?_⟩
    obtain rfl : r3 = true := hr3.2 ⟨rfl, rfl⟩
    clear hsm hbu3 hr3 hb52
    refine wpMix_load ?vfalsed14 rfl (fun w' hS => ?yfalsed14) ?kfalsed14
    case yfalsed14 =>
      obtain ⟨⟨g0, g1, g2, g3, g4, g5, g6, g7, _⟩, _⟩ := hS
      go_simp
      try rfl
    case kfalsed14 =>
    go_simp
    refine wpMix_load ?vfalsed15 rfl (fun w' hS => ?yfalsed15) ?kfalsed15
    case yfalsed15 =>
      obtain ⟨⟨g0, g1, g2, g3, g4, g5, g6, g7, _⟩, _⟩ := hS
      go_simp
      try rfl
    case kfalsed15 =>
    go_simp
    refine wpMix_load ?vfalsed16 rfl (fun w' hS => ?yfalsed16) ?kfalsed16
    case yfalsed16 =>
      obtain ⟨⟨g0, g1, g2, g3, g4, g5, g6, g7, _⟩, _⟩ := hS
      go_simp
      try rfl
    case kfalsed16 =>
    go_simp
    refine wpMix_load ?vfalsed17 rfl (fun w' hS => ?yfalsed17) ?kfalsed17
    case yfalsed17 =>
      obtain ⟨⟨g0, g1, g2, g3, g4, g5, g6, g7, _⟩, _⟩ := hS
      go_simp
      try rfl
    case kfalsed17 =>
    go_simp
    refine wpMix_load ?vfalsed18 rfl (fun w' hS => ?yfalsed18) ?kfalsed18
    case yfalsed18 =>
      obtain ⟨⟨g0, g1, g2, g3, g4, g5, g6, g7, _⟩, _⟩ := hS
      go_simp
      try rfl
    case kfalsed18 =>
    go_simp
    refine wpMix_load ?vfalsed19 rfl (fun w' hS => ?yfalsed19) ?kfalsed19
    case yfalsed19 =>
      obtain ⟨⟨g0, g1, g2, g3, g4, g5, g6, g7, _⟩, _⟩ := hS
      go_simp
      try rfl
    case kfalsed19 =>
    go_simp
    refine wpMix_load ?vfalsed20 rfl (fun w' hS => ?yfalsed20) ?kfalsed20
    case yfalsed20 =>
      obtain ⟨⟨g0, g1, g2, g3, g4, g5, g6, g7, _⟩, _⟩ := hS
      go_simp
      try rfl
    case kfalsed20 =>
    go_simp
    refine wpMix_load ?vfalsed21 rfl (fun w' hS => ?yfalsed21) ?kfalsed21
    case yfalsed21 =>
      obtain ⟨⟨g0, g1, g2, g3, g4, g5, g6, g7, _⟩, _⟩ := hS
      go_simp
      try rfl
    case kfalsed21 =>
    go_simp
    refine wpMix_load ?vfalsed22 rfl (fun w' hS => ?yfalsed22) ?kfalsed22
    case yfalsed22 =>
      obtain ⟨⟨g0, g1, g2, g3, g4, g5, g6, g7, _⟩, _⟩ := hS
      go_simp
      try rfl
    case kfalsed22 =>
    go_simp
    refine wpMix_load ?vfalsed23 rfl (fun w' hS => ?yfalsed23) ?kfalsed23
    case yfalsed23 =>
      obtain ⟨⟨g0, g1, g2, g3, g4, g5, g6, g7, _⟩, _⟩ := hS
      go_simp
      try rfl
    case kfalsed23 =>
    go_simp
    refine wpMix_load ?vfalsed24 rfl (fun w' hS => ?yfalsed24) ?kfalsed24
    case yfalsed24 =>
      obtain ⟨⟨g0, g1, g2, g3, g4, g5, g6, g7, _⟩, _⟩ := hS
      go_simp
      try rfl
    case kfalsed24 =>
    go_simp
    refine wpMix_load ?vfalsed25 rfl (fun w' hS => ?yfalsed25) ?kfalsed25
    case yfalsed25 =>
      obtain ⟨⟨g0, g1, g2, g3, g4, g5, g6, g7, _⟩, _⟩ := hS
      go_simp
      try rfl
    case kfalsed25 =>
    go_simp
    refine wpMix_load ?vfalsed26 rfl (fun w' hS => ?yfalsed26) ?kfalsed26
    case yfalsed26 =>
      obtain ⟨⟨g0, g1, g2, g3, g4, g5, g6, g7, _⟩, _⟩ := hS
      go_simp
      try rfl
    case kfalsed26 =>
    go_simp
    refine wpMix_keep rfl ?_
    go_wp2_with fail
    have hcc := rcheck_any n xs A c u3 (by rw [← HM.out]; omega) ((HRX.out.keep (kept_below hb53)).more fun b hb => Nat.lt_of_lt_of_le hb hb53.size)
    rw [← HM.out] at hcc
    refine hcc.mono ?_
    rintro e u4 ⟨r4, rfl, hr4, hbu4⟩
    have hb54 := hb53.trans (hbu4.mono hb53.size)
    refine ⟨⟨HC.out.below hb54, hb54⟩, ?_⟩
    obtain rfl : r4 = true := hcv r4 hr4
    clear hcc hbu4 hr4 hb53
    refine wpMix_load ?vfalsee28 rfl (fun w' hS => ?yfalsee28) ?kfalsee28
    case yfalsee28 =>
      obtain ⟨⟨g0, g1, g2, g3, g4, g5, g6, g7, _⟩, _⟩ := hS
      go_simp
      try rfl
    case kfalsee28 =>
    go_simp
    refine wpMix_load ?vfalsee29 rfl (fun w' hS => ?yfalsee29) ?kfalsee29
    case yfalsee29 =>
      obtain ⟨⟨g0, g1, g2, g3, g4, g5, g6, g7, _⟩, _⟩ := hS
      go_simp
      try rfl
    case kfalsee29 =>
    go_simp
    refine wpMix_load ?vf30 rfl (fun w' hS => ?yf30) ?kf30
    case yf30 =>
      obtain ⟨⟨g0, g1, g2, g3, g4, g5, g6, g7, _⟩, _⟩ := hS
      go_simp
      try rfl
    case kf30 =>
    go_simp
    refine wpMix_load ?vf31 rfl (fun w' hS => ?yf31) ?kf31
    case yf31 =>
      obtain ⟨⟨g0, g1, g2, g3, g4, g5, g6, g7, _⟩, _⟩ := hS
      go_simp
      try rfl
    case kf31 =>
    go_simp
    refine wpMix_load ?vf32 rfl (fun w' hS => ?yf32) ?kf32
    case yf32 =>
      obtain ⟨⟨g0, g1, g2, g3, g4, g5, g6, g7, _⟩, _⟩ := hS
      go_simp
      try rfl
    case kf32 =>
    go_simp
    refine wpMix_load ?vf33 rfl (fun w' hS => ?yf33) ?kf33
    case yf33 =>
      obtain ⟨⟨g0, g1, g2, g3, g4, g5, g6, g7, _⟩, _⟩ := hS
      go_simp
      try rfl
    case kf33 =>
    go_simp
    refine wpMix_keep rfl ?_
    go_wp2_with fail
    have hmv := moves_any n2 n os xs A2 A c2 c u4 (by rw [← HO.out]; omega) (by rw [← HM.out]; omega) ((HRO.out.keep (kept_below hb54)).more fun b hb => Nat.lt_of_lt_of_le hb hb54.size) ((HRX.out.keep (kept_below hb54)).more fun b hb => Nat.lt_of_lt_of_le hb hb54.size)
    rw [← HO.out, ← HM.out] at hmv
    refine hmv.mono ?_
    rintro e u5 ⟨MA, mc, rfl, _, hmo, hbu5⟩
    have hb55 := hb54.trans (hbu5.mono hb54.size)
    refine ⟨⟨HC.out.below hb55, hb55⟩, ?_⟩
    have hmrow : Row u5 (Lt u5.heap.size) MA (flt idC (mvs os xs)) := Row.ofOwn hmo fun g _ _ h4 => h4
    have hmlen : (mvs os xs).length ≤ m := by
      rw [HM.out]
      exact List.length_filter_le _ _
    obtain ⟨mv, hmvl⟩ : ∃ mv, mv = (mvs os xs).length := ⟨_, rfl⟩
    rw [← hmvl] at hmlen ⊢
    have HMV := Lib.hid hmvl
    clear hmv hmo hmvl
    refine wpMix_keep rfl ?_
    go_wp2_with fail
    have hmv := rmoves_any n2 n os xs A2 A c2 c u5 (by rw [← HO.out]; omega) (by rw [← HM.out]; omega) ((HRO.out.keep (kept_below hb55)).more fun b hb => Nat.lt_of_lt_of_le hb hb55.size) ((HRX.out.keep (kept_below hb55)).more fun b hb => Nat.lt_of_lt_of_le hb hb55.size)
    rw [← HO.out, ← HM.out] at hmv
    refine hmv.mono ?_
    rintro e u6 ⟨NA, nc, rfl, _, hno, hbu6⟩
    have hb56 := hb55.trans (hbu6.mono hb55.size)
    refine ⟨⟨HC.out.below hb56, hb56⟩, ?_⟩
    have hmrow6 : Row u6 (Lt u6.heap.size) MA (flt idC (mvs os xs)) := (hmrow.keep (kept_below hbu6)).more fun b hb => Nat.lt_of_lt_of_le hb hbu6.size
    have hnrow : Row u6 (Lt u6.heap.size) NA (flt idC (mvs os xs)) := Row.ofOwn hno fun g _ _ h4 => h4
    rw [← HMV.out]
    clear hmv hno hmrow hbu5
    refine wpMix_keep rfl ?_
    go_wp2_with fail
    have hsl := sameList_any (mvs os xs) (mvs os xs) MA NA mc nc u6 (by rw [← HMV.out]; omega) hmrow6 hnrow
    rw [← HMV.out] at hsl
    refine hsl.mono ?_
    rintro e u7 ⟨r7, rfl, hr7, hbu7⟩
    have hb57 := hb56.trans (hbu7.mono hb56.size)
    refine ⟨⟨HC.out.below hb57, hb57⟩, ?_⟩
    obtain rfl : r7 = true := hr7.2 rfl
    have HBE := Lib.hid hb57
    clear hsl hbu7 hr7 hb57 hb56 hb55 hb54 hbu6 hmrow6 hnrow
    refine wpMix_load ?vi37 rfl (fun w' hS => ?yi37) ?ki37
    case yi37 =>
      obtain ⟨⟨g0, g1, g2, g3, g4, g5, g6, g7, _⟩, _⟩ := hS
      go_simp
      try rfl
    case ki37 =>
    go_simp
    refine wpMix_load ?vi38 rfl (fun w' hS => ?yi38) ?ki38
    case yi38 =>
      obtain ⟨⟨g0, g1, g2, g3, g4, g5, g6, g7, _⟩, _⟩ := hS
      go_simp
      try rfl
    case ki38 =>
    go_simp
    refine wpMix_nil ?_
    simp only [opsAt, List.filterMap_cons, List.filterMap_nil, List.getElem?_toArray, List.getElem?_cons_succ, List.getElem?_cons_zero]
    go_wp2
    refine NoPanic.normal ?_
    go_wp2
    go_ret
    exact ⟨rfl, HBF.out.trans (HBE.out.mono HBF.out.size)⟩
  · have hcv : ∀ r : Bool, (r = true ↔ Chk n xs) → r = false := fun r hr => by cases r with
      | false => rfl
      | true => exact absurd (hr.1 rfl) hc
    refine wp_region_mix (fun u => AtCells [(⟨w.heap.size, 0, none⟩, .int .i64 n), (⟨w.heap.size, 1, none⟩, .slice A m c), (⟨w.heap.size + 1, 0, none⟩, .int .i64 n2), (⟨w.heap.size + 1, 1, none⟩, .slice A2 o c2), (⟨p1, 0, none⟩, .int .i64 mm), (⟨p1, 1, none⟩, .slice YA y yc), (⟨p2, 0, none⟩, .int .i64 mm), (⟨p2, 1, none⟩, .slice ZA y zc)] u ∧ Below w5.heap.size w5 u) [(true, 0), (true, 2), (false, 1), (false, 3), (true, 4), (true, 5), (true, 6), (true, 7), (true, 8), (true, 9), (true, 10), (true, 11), (true, 12), (false, 13), (true, 14), (true, 15), (true, 16), (true, 17), (true, 18), (true, 19), (true, 20), (true, 21), (true, 22), (true, 23), (true, 24), (true, 25), (true, 26), (false, 27), (true, 28), (true, 29), (true, 30), (true, 31), (true, 33), (true, 34), (true, 32), (true, 35), (true, 36), (true, 37), (true, 38)] [39] (by kernel_rfl) (by kernel_rfl) ?strue ?htrue
    case strue => exact ⟨HC.out.below (Below.refl _ w5).drew, (Below.refl _ w5).drew⟩
    case htrue =>
    simp only [mixAt, List.filterMap_cons, List.filterMap_nil, List.getElem?_toArray, List.getElem?_cons_succ, List.getElem?_cons_zero, Option.map_some]
    refine wpMix_load ?vtruea0 rfl (fun w' hS => ?ytruea0) ?ktruea0
    case ytruea0 =>
      obtain ⟨⟨g0, g1, g2, g3, g4, g5, g6, g7, _⟩, _⟩ := hS
      go_simp
      try rfl
    case ktruea0 =>
    go_simp
    refine wpMix_load ?vtruea1 rfl (fun w' hS => ?ytruea1) ?ktruea1
    case ytruea1 =>
      obtain ⟨⟨g0, g1, g2, g3, g4, g5, g6, g7, _⟩, _⟩ := hS
      go_simp
      try rfl
    case ktruea1 =>
    go_simp
    refine wpMix_keep rfl ?_
    go_wp2_with fail
    have hb50 : Below w5.heap.size w5 w5.drew := (Below.refl _ w5).drew
    have hca := check_any n xs A c w5.drew (by rw [← HM.out]; omega) (HRX.out.keep (kept_below hb50))
    rw [← HM.out] at hca
    refine hca.mono ?_
    rintro e u1 ⟨r1, rfl, hr1, hbu1⟩
    have hb51 := hb50.trans hbu1
    refine ⟨⟨HC.out.below hb51, hb51⟩, ?_⟩
    obtain rfl : r1 = false := hcv r1 hr1
    clear hca hbu1 hr1
    refine wpMix_keep rfl ?_
    go_wp2_with fail
    have hcb := rcheck_any n xs A c u1 (by rw [← HM.out]; omega) ((HRX.out.keep (kept_below hb51)).more fun b hb => Nat.lt_of_lt_of_le hb hb51.size)
    rw [← HM.out] at hcb
    refine hcb.mono ?_
    rintro e u2 ⟨r2, rfl, hr2, hbu2⟩
    have hb52 := hb51.trans (hbu2.mono hb51.size)
    refine ⟨⟨HC.out.below hb52, hb52⟩, ?_⟩
    obtain rfl : r2 = false := hcv r2 hr2
    clear hcb hbu2 hr2 hb51
    refine wpMix_load ?vtruec4 rfl (fun w' hS => ?ytruec4) ?ktruec4
    case ytruec4 =>
      obtain ⟨⟨g0, g1, g2, g3, g4, g5, g6, g7, _⟩, _⟩ := hS
      go_simp
      try rfl
    case ktruec4 =>
    go_simp
    refine wpMix_load ?vtruec5 rfl (fun w' hS => ?ytruec5) ?ktruec5
    case ytruec5 =>
      obtain ⟨⟨g0, g1, g2, g3, g4, g5, g6, g7, _⟩, _⟩ := hS
      go_simp
      try rfl
    case ktruec5 =>
    go_simp
    refine wpMix_load ?vtruec6 rfl (fun w' hS => ?ytruec6) ?ktruec6
    case ytruec6 =>
      obtain ⟨⟨g0, g1, g2, g3, g4, g5, g6, g7, _⟩, _⟩ := hS
      go_simp
      try rfl
    case ktruec6 =>
    go_simp
    refine wpMix_load ?vtruec7 rfl (fun w' hS => ?ytruec7) ?ktruec7
    case ytruec7 =>
      obtain ⟨⟨g0, g1, g2, g3, g4, g5, g6, g7, _⟩, _⟩ := hS
      go_simp
      try rfl
    case ktruec7 =>
    go_simp
    refine wpMix_load ?vtruec8 rfl (fun w' hS => ?ytruec8) ?ktruec8
    case ytruec8 =>
      obtain ⟨⟨g0, g1, g2, g3, g4, g5, g6, g7, _⟩, _⟩ := hS
      go_simp
      try rfl
    case ktruec8 =>
    go_simp
    refine wpMix_load ?vtruec9 rfl (fun w' hS => ?ytruec9) ?ktruec9
    case ytruec9 =>
      obtain ⟨⟨g0, g1, g2, g3, g4, g5, g6, g7, _⟩, _⟩ := hS
      go_simp
      try rfl
    case ktruec9 =>
    go_simp
    refine wpMix_load ?vtruec10 rfl (fun w' hS => ?ytruec10) ?ktruec10
    case ytruec10 =>
      obtain ⟨⟨g0, g1, g2, g3, g4, g5, g6, g7, _⟩, _⟩ := hS
      go_simp
      try rfl
    case ktruec10 =>
    go_simp
    refine wpMix_load ?vtruec11 rfl (fun w' hS => ?ytruec11) ?ktruec11
    case ytruec11 =>
      obtain ⟨⟨g0, g1, g2, g3, g4, g5, g6, g7, _⟩, _⟩ := hS
      go_simp
      try rfl
    case ktruec11 =>
    go_simp
    refine wpMix_load ?vtruec12 rfl (fun w' hS => ?ytruec12) ?ktruec12
    case ytruec12 =>
      obtain ⟨⟨g0, g1, g2, g3, g4, g5, g6, g7, _⟩, _⟩ := hS
      go_simp
      try rfl
    case ktruec12 =>
    go_simp
    refine wpMix_keep rfl ?_
    go_wp2_with fail
    have hsm := same_any mm mm ys ys YA ZA yc zc u2 (by rw [← HY.out]; omega) ((HRY.out.keep (kept_below hb52)).more fun b hb => Nat.lt_of_lt_of_le hb hb52.size) ((HRZ.out.keep (kept_below hb52)).more fun b hb => Nat.lt_of_lt_of_le hb hb52.size)
    rw [← HY.out] at hsm
    refine hsm.mono ?_
    rintro e u3 ⟨r3, rfl, hr3, hbu3⟩
    have hb53 := hb52.trans (hbu3.mono hb52.size)
    refine ⟨⟨HC.out.below hb53, hb53⟩, ?_⟩
    obtain rfl : r3 = true := hr3.2 ⟨rfl, rfl⟩
    clear hsm hbu3 hr3 hb52
    refine wpMix_load ?vtrued14 rfl (fun w' hS => ?ytrued14) ?ktrued14
    case ytrued14 =>
      obtain ⟨⟨g0, g1, g2, g3, g4, g5, g6, g7, _⟩, _⟩ := hS
      go_simp
      try rfl
    case ktrued14 =>
    go_simp
    refine wpMix_load ?vtrued15 rfl (fun w' hS => ?ytrued15) ?ktrued15
    case ytrued15 =>
      obtain ⟨⟨g0, g1, g2, g3, g4, g5, g6, g7, _⟩, _⟩ := hS
      go_simp
      try rfl
    case ktrued15 =>
    go_simp
    refine wpMix_load ?vtrued16 rfl (fun w' hS => ?ytrued16) ?ktrued16
    case ytrued16 =>
      obtain ⟨⟨g0, g1, g2, g3, g4, g5, g6, g7, _⟩, _⟩ := hS
      go_simp
      try rfl
    case ktrued16 =>
    go_simp
    refine wpMix_load ?vtrued17 rfl (fun w' hS => ?ytrued17) ?ktrued17
    case ytrued17 =>
      obtain ⟨⟨g0, g1, g2, g3, g4, g5, g6, g7, _⟩, _⟩ := hS
      go_simp
      try rfl
    case ktrued17 =>
    go_simp
    refine wpMix_load ?vtrued18 rfl (fun w' hS => ?ytrued18) ?ktrued18
    case ytrued18 =>
      obtain ⟨⟨g0, g1, g2, g3, g4, g5, g6, g7, _⟩, _⟩ := hS
      go_simp
      try rfl
    case ktrued18 =>
    go_simp
    refine wpMix_load ?vtrued19 rfl (fun w' hS => ?ytrued19) ?ktrued19
    case ytrued19 =>
      obtain ⟨⟨g0, g1, g2, g3, g4, g5, g6, g7, _⟩, _⟩ := hS
      go_simp
      try rfl
    case ktrued19 =>
    go_simp
    refine wpMix_load ?vtrued20 rfl (fun w' hS => ?ytrued20) ?ktrued20
    case ytrued20 =>
      obtain ⟨⟨g0, g1, g2, g3, g4, g5, g6, g7, _⟩, _⟩ := hS
      go_simp
      try rfl
    case ktrued20 =>
    go_simp
    refine wpMix_load ?vtrued21 rfl (fun w' hS => ?ytrued21) ?ktrued21
    case ytrued21 =>
      obtain ⟨⟨g0, g1, g2, g3, g4, g5, g6, g7, _⟩, _⟩ := hS
      go_simp
      try rfl
    case ktrued21 =>
    go_simp
    refine wpMix_load ?vtrued22 rfl (fun w' hS => ?ytrued22) ?ktrued22
    case ytrued22 =>
      obtain ⟨⟨g0, g1, g2, g3, g4, g5, g6, g7, _⟩, _⟩ := hS
      go_simp
      try rfl
    case ktrued22 =>
    go_simp
    refine wpMix_load ?vtrued23 rfl (fun w' hS => ?ytrued23) ?ktrued23
    case ytrued23 =>
      obtain ⟨⟨g0, g1, g2, g3, g4, g5, g6, g7, _⟩, _⟩ := hS
      go_simp
      try rfl
    case ktrued23 =>
    go_simp
    refine wpMix_load ?vtrued24 rfl (fun w' hS => ?ytrued24) ?ktrued24
    case ytrued24 =>
      obtain ⟨⟨g0, g1, g2, g3, g4, g5, g6, g7, _⟩, _⟩ := hS
      go_simp
      try rfl
    case ktrued24 =>
    go_simp
    refine wpMix_load ?vtrued25 rfl (fun w' hS => ?ytrued25) ?ktrued25
    case ytrued25 =>
      obtain ⟨⟨g0, g1, g2, g3, g4, g5, g6, g7, _⟩, _⟩ := hS
      go_simp
      try rfl
    case ktrued25 =>
    go_simp
    refine wpMix_load ?vtrued26 rfl (fun w' hS => ?ytrued26) ?ktrued26
    case ytrued26 =>
      obtain ⟨⟨g0, g1, g2, g3, g4, g5, g6, g7, _⟩, _⟩ := hS
      go_simp
      try rfl
    case ktrued26 =>
    go_simp
    refine wpMix_keep rfl ?_
    go_wp2_with fail
    have hcc := rcheck_any n xs A c u3 (by rw [← HM.out]; omega) ((HRX.out.keep (kept_below hb53)).more fun b hb => Nat.lt_of_lt_of_le hb hb53.size)
    rw [← HM.out] at hcc
    refine hcc.mono ?_
    rintro e u4 ⟨r4, rfl, hr4, hbu4⟩
    have hb54 := hb53.trans (hbu4.mono hb53.size)
    refine ⟨⟨HC.out.below hb54, hb54⟩, ?_⟩
    obtain rfl : r4 = false := hcv r4 hr4
    clear hcc hbu4 hr4 hb53
    refine wpMix_load ?vtruee28 rfl (fun w' hS => ?ytruee28) ?ktruee28
    case ytruee28 =>
      obtain ⟨⟨g0, g1, g2, g3, g4, g5, g6, g7, _⟩, _⟩ := hS
      go_simp
      try rfl
    case ktruee28 =>
    go_simp
    refine wpMix_load ?vtruee29 rfl (fun w' hS => ?ytruee29) ?ktruee29
    case ytruee29 =>
      obtain ⟨⟨g0, g1, g2, g3, g4, g5, g6, g7, _⟩, _⟩ := hS
      go_simp
      try rfl
    case ktruee29 =>
    go_simp
    have HBE := Lib.hid hb54
    clear hb54
    iterate 3
      refine wpMix_skip rfl ?_
      go_simp
    iterate 2
      refine wpMix_skip rfl ?_
      go_simp
    iterate 2
      refine wpMix_skip rfl ?_
      go_simp
    refine wpMix_load ?vj37 rfl (fun w' hS => ?yj37) ?kj37
    case yj37 =>
      obtain ⟨⟨g0, g1, g2, g3, g4, g5, g6, g7, _⟩, _⟩ := hS
      go_simp
      try rfl
    case kj37 =>
    go_simp
    refine wpMix_load ?vj38 rfl (fun w' hS => ?yj38) ?kj38
    case yj38 =>
      obtain ⟨⟨g0, g1, g2, g3, g4, g5, g6, g7, _⟩, _⟩ := hS
      go_simp
      try rfl
    case kj38 =>
    go_simp
    refine wpMix_nil ?_
    simp only [opsAt, List.filterMap_cons, List.filterMap_nil, List.getElem?_toArray, List.getElem?_cons_succ, List.getElem?_cons_zero]
    go_wp2
    refine NoPanic.normal ?_
    go_wp2
    go_ret
    exact ⟨rfl, HBF.out.trans (HBE.out.mono HBF.out.size)⟩
end Go.Proofs.Ytmnhgkhidepojaa
