/-
  The walk of law06's awake.
  Conditions: none.
-/
import Derived.Test.YtcliegpofhjpcaaMdY
import Derived.Test.YtcliegpofhjpcaaMdW
import Derived.Test.YtcliegpofhjpcaaBmix
namespace Go.Proofs.Ytcliegpofhjpcaa
open Go.RowKit

theorem alloc5 (w : World) (a b c d e : Obj) : (((((w.alloc a).alloc b).alloc c).alloc d).alloc e).heap[w.heap.size]? = some a ∧ (((((w.alloc a).alloc b).alloc c).alloc d).alloc e).heap[w.heap.size + 1]? = some b ∧ (((((w.alloc a).alloc b).alloc c).alloc d).alloc e).heap[w.heap.size + 2]? = some c ∧ (((((w.alloc a).alloc b).alloc c).alloc d).alloc e).heap[w.heap.size + 3]? = some d ∧ (((((w.alloc a).alloc b).alloc c).alloc d).alloc e).heap[w.heap.size + 4]? = some e := by
  have h := alloc3 w a b c
  have hs : (((w.alloc a).alloc b).alloc c).heap.size = w.heap.size + 3 := by simp
  have h4 := alloc2 (((w.alloc a).alloc b).alloc c) d e
  rw [hs] at h4
  have old : ∀ i o, (((w.alloc a).alloc b).alloc c).heap[i]? = some o → (((((w.alloc a).alloc b).alloc c).alloc d).alloc e).heap[i]? = some o := fun i o hi => by
    have hlt := lt_of_heap hi
    rw [heap_alloc_old _ _ (by simp; omega), heap_alloc_old _ _ hlt]
    exact hi
  exact ⟨old _ _ h.1, old _ _ h.2.1, old _ _ h.2.2, h4.1, h4.2⟩
def awL : List Face := [⟨[97], [[120]], [[98]]⟩, ⟨[98], [[121]], [[97]]⟩]
def awR : List (List Key) := [[([120], [97, 58, 58, 120]), ([121], [98, 58, 58, 121])], [([120], [97, 58, 58, 120]), ([121], [98, 58, 58, 121])]]
theorem awAll {R : List (List Key)} (h : AllIs awL R) : R = awR := h.unique ⟨2, by decide +kernel, by decide +kernel⟩
theorem awFit : Fit awL := ⟨by decide, by decide, by decide, by decide, by decide⟩
theorem str_at {w : World} {b n : Nat} {s : List UInt8} {S : Nat → Prop} (h : w.heap[b]? = some (.cells #[sv s] n (0, 0))) (hS : S b) : StrsV w S (.slice (some ⟨b, 0, none⟩) 1 1) [s] := ⟨_, _, rfl, row_heap h rfl hS⟩
set_option maxHeartbeats 1600000 in
set_option maxRecDepth 100000 in
theorem awake_any (w : World) : Calls Try.prog 7 #[] w fun e w' => e = .returned (.bool true) ∧ Below w.heap.size w w' := by
  obtain ⟨w5, hw5⟩ : ∃ w5, w5 = ((((w.alloc (.cells #[.string ⟨#[120]⟩] 9)).alloc (.cells #[.string ⟨#[98]⟩] 9)).alloc (.cells #[.string ⟨#[121]⟩] 9)).alloc (.cells #[.string ⟨#[97]⟩] 9)).alloc (.cells #[.string ⟨#[97]⟩, .slice (some ⟨w.heap.size, 0, none⟩) 1 1, .slice (some ⟨w.heap.size + 1, 0, none⟩) 1 1, .string ⟨#[98]⟩, .slice (some ⟨w.heap.size + 2, 0, none⟩) 1 1, .slice (some ⟨w.heap.size + 3, 0, none⟩) 1 1] 37) := ⟨_, rfl⟩
  have ha := alloc5 w (.cells #[.string ⟨#[120]⟩] 9) (.cells #[.string ⟨#[98]⟩] 9) (.cells #[.string ⟨#[121]⟩] 9) (.cells #[.string ⟨#[97]⟩] 9) (.cells #[.string ⟨#[97]⟩, .slice (some ⟨w.heap.size, 0, none⟩) 1 1, .slice (some ⟨w.heap.size + 1, 0, none⟩) 1 1, .string ⟨#[98]⟩, .slice (some ⟨w.heap.size + 2, 0, none⟩) 1 1, .slice (some ⟨w.heap.size + 3, 0, none⟩) 1 1] 37)
  have hb5 : Below w.heap.size w w5 := by
    rw [hw5]
    exact (((((Below.refl _ _).alloc (Nat.le_refl _) _).alloc (by simp) _).alloc (by simp; omega) _).alloc (by simp; omega) _).alloc (by simp; omega) _
  rw [← hw5] at ha
  obtain ⟨h0, h1, h2, h3, h4⟩ := ha
  have hlt := lt_of_heap h4
  have hF : FcsV w5 (Lt w5.heap.size) (.slice (some ⟨w.heap.size + 4, 0, none⟩) 2 2) awL := by
    refine ⟨_, _, [⟨[97], .slice (some ⟨w.heap.size, 0, none⟩) 1 1, .slice (some ⟨w.heap.size + 1, 0, none⟩) 1 1⟩, ⟨[98], .slice (some ⟨w.heap.size + 2, 0, none⟩) 1 1, .slice (some ⟨w.heap.size + 3, 0, none⟩) 1 1⟩], rfl, rfl, row_heap h4 rfl hlt, fun i u f hu hf => ?_⟩
    have hi : i = 0 ∨ i = 1 := by
      have := (List.getElem?_eq_some_iff.1 hu).1
      simp at this
      omega
    rcases hi with rfl | rfl
    · cases hu
      cases hf
      exact ⟨rfl, str_at (s := [120]) h0 (by unfold Lt; omega), str_at (s := [98]) h1 (by unfold Lt; omega)⟩
    · cases hu
      cases hf
      exact ⟨rfl, str_at (s := [121]) h2 (by unfold Lt; omega), str_at (s := [97]) h3 (by unfold Lt; omega)⟩
  have HALL := Lib.hid (all_any awL (.slice (some ⟨w.heap.size + 4, 0, none⟩) 2 2) w5 awFit hF)
  have HB5 := Lib.hid hb5
  have HW5 := Lib.hid hw5
  clear hF h0 h1 h2 h3 h4 hb5 hw5 hlt
  go_enter Try.func7, Try.ntmps7
  go_wp2_with fail
  rw [← HW5.out]
  refine HALL.out.mono ?_
  rintro e w6 ⟨R, g, rfl, hR, hO, hb6⟩
  have hRe := awAll hR
  subst hRe
  obtain ⟨v0, o0, _, A0, c0, rfl, hc0, hr0⟩ := hO.at_ (i := 0) rfl
  obtain ⟨v1, o1, _, A1, c1, rfl, hc1, hr1⟩ := hO.at_ (i := 1) rfl
  have hs6 := hb6.size
  have HB6 := Lib.hid (HB5.out.trans (hb6.mono HB5.out.size))
  obtain ⟨w7, hw7⟩ : ∃ w7, w7 = w6.alloc (.cells #[.string ⟨#[120]⟩, .string ⟨#[97, 58, 58, 120]⟩] 42) := ⟨_, rfl⟩
  have hb7 : Below w6.heap.size w6 w7 := by rw [hw7]; exact (Below.refl _ _).alloc (Nat.le_refl _) _
  have ha7 := alloc1 w6 (.cells #[.string ⟨#[120]⟩, .string ⟨#[97, 58, 58, 120]⟩] 42)
  rw [← hw7] at ha7
  have HLK := Lib.hid (mlook_any [([120], [97, 58, 58, 120])] [120] (some ⟨w6.heap.size, 0, none⟩) 1 w7 (by decide) (row_heap ha7 rfl (lt_of_heap ha7)))
  have HW7 := Lib.hid hw7
  have O0 := Lib.hid o0
  have O1 := Lib.hid o1
  have R0 := Lib.hid hr0
  have R1 := Lib.hid hr1
  have HB7 := Lib.hid hb7
  have hl2 : awR.length = 2 := rfl
  rw [hl2]
  clear hR hO o0 o1 hr0 hr1 hb6 hb7 ha7 hw7 hl2 HALL HW5 HB5
  go_wp2_with fail
  rw [← HW7.out]
  refine HLK.out.mono ?_
  rintro e w8 ⟨d, n, rfl, hlk, hb8⟩
  obtain ⟨rfl, rfl⟩ : d = [97, 58, 58, 120] ∧ n = 1 := hlk.unique ⟨[[97, 58, 58, 120]], by decide, fun x => by simp, rfl, fun _ => by simp, fun h => absurd rfl h⟩
  have hb68 := HB7.out.trans (hb8.mono HB7.out.size)
  have HB8 := Lib.hid (HB6.out.trans (hb68.mono HB6.out.size))
  have o0 := (hb68.cell (block_lt_of_cell O0.out)).trans O0.out
  have o1 := (hb68.cell (block_lt_of_cell O1.out)).trans O1.out
  have hr0 := (R0.out.keep ((kept_below hb68).sub fun b hb => hb.1.2)).more (S' := Lt w8.heap.size) fun b hb => Nat.lt_of_lt_of_le hb.1.2 hb68.size
  have hr1 := (R1.out.keep ((kept_below hb68).sub fun b hb => hb.1.2)).more (S' := Lt w8.heap.size) fun b hb => Nat.lt_of_lt_of_le hb.1.2 hb68.size
  obtain ⟨ad, rfl, _, b0, b1⟩ := bd_at hr0 (i := 1) rfl
  have HR0 := Lib.hid hr0
  have HR1 := Lib.hid hr1
  have HC : Hid (AtCells [(⟨g, 0, none⟩, .slice (some ad) 2 c0), (⟨g, 1, none⟩, .slice A1 2 c1), (ad.add (1 * 2), sv [121]), (⟨(ad.add (1 * 2)).block, (ad.add (1 * 2)).off + 1, none⟩, sv [98, 58, 58, 121])] w8) := Lib.hid ⟨o0, o1, b0, b1, trivial⟩
  clear hlk hb8 hb68 o0 o1 hr0 hr1 b0 b1 HLK O0 O1 R0 R1 HB7 HB6 HW7
  go_wp2_with fail
  refine wp_region_mix (AtCells [(⟨g, 0, none⟩, .slice (some ad) 2 c0), (⟨g, 1, none⟩, .slice A1 2 c1), (ad.add (1 * 2), sv [121]), (⟨(ad.add (1 * 2)).block, (ad.add (1 * 2)).off + 1, none⟩, sv [98, 58, 58, 121])]) [(true, 0), (true, 1), (true, 2), (true, 3), (true, 4), (true, 5), (true, 6), (true, 7), (true, 8), (true, 9), (true, 10), (true, 11), (true, 12), (true, 13), (true, 14), (true, 15), (true, 16), (true, 17), (true, 18), (true, 19), (true, 20), (true, 21), (true, 22), (true, 23), (true, 24), (true, 25), (false, 26), (true, 27), (true, 28), (true, 29), (true, 30), (true, 31), (true, 32), (true, 33), (true, 34), (true, 35)] [36] (by kernel_rfl) (by kernel_rfl) ?s ?h
  case s => exact HC.out.below (Below.refl _ w8).drew
  case h =>
  simp only [mixAt, List.filterMap_cons, List.filterMap_nil, List.getElem?_toArray, List.getElem?_cons_succ, List.getElem?_cons_zero, Option.map_some]
  refine wpMix_load ?va0 rfl (fun w' hS => ?ya0) ?ka0
  case ya0 =>
    obtain ⟨g0, g1, g2, g3, _⟩ := hS
    go_simp
    try rfl
  case ka0 =>
  go_simp
  refine wpMix_load ?va1 rfl (fun w' hS => ?ya1) ?ka1
  case ya1 =>
    obtain ⟨g0, g1, g2, g3, _⟩ := hS
    go_simp
    try rfl
  case ka1 =>
  go_simp
  refine wpMix_load ?va2 rfl (fun w' hS => ?ya2) ?ka2
  case ya2 =>
    obtain ⟨g0, g1, g2, g3, _⟩ := hS
    go_simp
    try rfl
  case ka2 =>
  go_simp
  refine wpMix_load ?va3 rfl (fun w' hS => ?ya3) ?ka3
  case ya3 =>
    obtain ⟨g0, g1, g2, g3, _⟩ := hS
    go_simp
    try rfl
  case ka3 =>
  go_simp
  refine wpMix_load ?va4 rfl (fun w' hS => ?ya4) ?ka4
  case ya4 =>
    obtain ⟨g0, g1, g2, g3, _⟩ := hS
    go_simp
    try rfl
  case ka4 =>
  go_simp
  refine wpMix_load ?va5 rfl (fun w' hS => ?ya5) ?ka5
  case ya5 =>
    obtain ⟨g0, g1, g2, g3, _⟩ := hS
    go_simp
    try rfl
  case ka5 =>
  go_simp
  refine wpMix_load ?va6 rfl (fun w' hS => ?ya6) ?ka6
  case ya6 =>
    obtain ⟨g0, g1, g2, g3, _⟩ := hS
    go_simp
    try rfl
  case ka6 =>
  go_simp
  refine wpMix_load ?va7 rfl (fun w' hS => ?ya7) ?ka7
  case ya7 =>
    obtain ⟨g0, g1, g2, g3, _⟩ := hS
    go_simp
    try rfl
  case ka7 =>
  go_simp
  refine wpMix_load ?va8 rfl (fun w' hS => ?ya8) ?ka8
  case ya8 =>
    obtain ⟨g0, g1, g2, g3, _⟩ := hS
    go_simp
    try rfl
  case ka8 =>
  go_simp
  refine wpMix_load ?va9 rfl (fun w' hS => ?ya9) ?ka9
  case ya9 =>
    obtain ⟨g0, g1, g2, g3, _⟩ := hS
    go_simp
    try rfl
  case ka9 =>
  go_simp
  refine wpMix_load ?va10 rfl (fun w' hS => ?ya10) ?ka10
  case ya10 =>
    obtain ⟨g0, g1, g2, g3, _⟩ := hS
    go_simp
    try rfl
  case ka10 =>
  go_simp
  refine wpMix_load ?va11 rfl (fun w' hS => ?ya11) ?ka11
  case ya11 =>
    obtain ⟨g0, g1, g2, g3, _⟩ := hS
    go_simp
    try rfl
  case ka11 =>
  go_simp
  refine wpMix_load ?va12 rfl (fun w' hS => ?ya12) ?ka12
  case ya12 =>
    obtain ⟨g0, g1, g2, g3, _⟩ := hS
    go_simp
    try rfl
  case ka12 =>
  go_simp
  refine wpMix_load ?va13 rfl (fun w' hS => ?ya13) ?ka13
  case ya13 =>
    obtain ⟨g0, g1, g2, g3, _⟩ := hS
    go_simp
    try rfl
  case ka13 =>
  go_simp
  refine wpMix_load ?va14 rfl (fun w' hS => ?ya14) ?ka14
  case ya14 =>
    obtain ⟨g0, g1, g2, g3, _⟩ := hS
    go_simp
    try rfl
  case ka14 =>
  go_simp
  refine wpMix_load ?va15 rfl (fun w' hS => ?ya15) ?ka15
  case ya15 =>
    obtain ⟨g0, g1, g2, g3, _⟩ := hS
    go_simp
    try rfl
  case ka15 =>
  go_simp
  refine wpMix_load ?va16 rfl (fun w' hS => ?ya16) ?ka16
  case ya16 =>
    obtain ⟨g0, g1, g2, g3, _⟩ := hS
    go_simp
    try rfl
  case ka16 =>
  go_simp
  refine wpMix_load (.bool true) rfl (fun w' hS => ?y17) ?k17
  case y17 =>
    obtain ⟨g0, g1, g2, g3, _⟩ := hS
    go_simp
    simp [bs_toList]
  case k17 =>
  go_simp
  refine wpMix_load ?vc18 rfl (fun w' hS => ?yc18) ?kc18
  case yc18 =>
    obtain ⟨g0, g1, g2, g3, _⟩ := hS
    go_simp
    try rfl
  case kc18 =>
  go_simp
  refine wpMix_load ?vc19 rfl (fun w' hS => ?yc19) ?kc19
  case yc19 =>
    obtain ⟨g0, g1, g2, g3, _⟩ := hS
    go_simp
    try rfl
  case kc19 =>
  go_simp
  refine wpMix_load ?vc20 rfl (fun w' hS => ?yc20) ?kc20
  case yc20 =>
    obtain ⟨g0, g1, g2, g3, _⟩ := hS
    go_simp
    try rfl
  case kc20 =>
  go_simp
  refine wpMix_load ?vc21 rfl (fun w' hS => ?yc21) ?kc21
  case yc21 =>
    obtain ⟨g0, g1, g2, g3, _⟩ := hS
    go_simp
    try rfl
  case kc21 =>
  go_simp
  refine wpMix_load ?vc22 rfl (fun w' hS => ?yc22) ?kc22
  case yc22 =>
    obtain ⟨g0, g1, g2, g3, _⟩ := hS
    go_simp
    try rfl
  case kc22 =>
  go_simp
  refine wpMix_load ?vc23 rfl (fun w' hS => ?yc23) ?kc23
  case yc23 =>
    obtain ⟨g0, g1, g2, g3, _⟩ := hS
    go_simp
    try rfl
  case kc23 =>
  go_simp
  refine wpMix_load ?vc24 rfl (fun w' hS => ?yc24) ?kc24
  case yc24 =>
    obtain ⟨g0, g1, g2, g3, _⟩ := hS
    go_simp
    try rfl
  case kc24 =>
  go_simp
  refine wpMix_load ?vc25 rfl (fun w' hS => ?yc25) ?kc25
  case yc25 =>
    obtain ⟨g0, g1, g2, g3, _⟩ := hS
    go_simp
    try rfl
  case kc25 =>
  go_simp
  refine wpMix_keep rfl ?_
  go_wp2_with fail
  have hsb := sameB_any [([120], [97, 58, 58, 120]), ([121], [98, 58, 58, 121])] [([120], [97, 58, 58, 120]), ([121], [98, 58, 58, 121])] (some ad) A1 c0 c1 w8.drew (by decide) HR0.out HR1.out
  refine hsb.mono ?_
  rintro e w9 ⟨r, rfl, hr, hb9⟩
  obtain rfl := hr.2 rfl
  have hb89 := (Below.refl _ w8).drew.trans hb9
  refine ⟨HC.out.below hb89, ?_⟩
  have HB9 := Lib.hid (HB8.out.trans (hb89.mono HB8.out.size))
  clear hsb hr hb9 hb89
  refine wpMix_load ?vb27 rfl (fun w' hS => ?yb27) ?kb27
  case yb27 =>
    obtain ⟨g0, g1, g2, g3, _⟩ := hS
    go_simp
    try rfl
  case kb27 =>
  go_simp
  refine wpMix_load ?vb28 rfl (fun w' hS => ?yb28) ?kb28
  case yb28 =>
    obtain ⟨g0, g1, g2, g3, _⟩ := hS
    go_simp
    try rfl
  case kb28 =>
  go_simp
  refine wpMix_load ?vb29 rfl (fun w' hS => ?yb29) ?kb29
  case yb29 =>
    obtain ⟨g0, g1, g2, g3, _⟩ := hS
    go_simp
    try rfl
  case kb29 =>
  go_simp
  refine wpMix_load (.bool true) rfl (fun w' hS => ?y30) ?k30
  case y30 =>
    obtain ⟨g0, g1, g2, g3, _⟩ := hS
    go_simp
    simp [bs_toList]
  case k30 =>
  go_simp
  refine wpMix_load ?vd31 rfl (fun w' hS => ?yd31) ?kd31
  case yd31 =>
    obtain ⟨g0, g1, g2, g3, _⟩ := hS
    go_simp
    try rfl
  case kd31 =>
  go_simp
  refine wpMix_load ?vd32 rfl (fun w' hS => ?yd32) ?kd32
  case yd32 =>
    obtain ⟨g0, g1, g2, g3, _⟩ := hS
    go_simp
    try rfl
  case kd32 =>
  go_simp
  refine wpMix_load ?vd33 rfl (fun w' hS => ?yd33) ?kd33
  case yd33 =>
    obtain ⟨g0, g1, g2, g3, _⟩ := hS
    go_simp
    try rfl
  case kd33 =>
  go_simp
  refine wpMix_load ?vd34 rfl (fun w' hS => ?yd34) ?kd34
  case yd34 =>
    obtain ⟨g0, g1, g2, g3, _⟩ := hS
    go_simp
    try rfl
  case kd34 =>
  go_simp
  refine wpMix_load ?vd35 rfl (fun w' hS => ?yd35) ?kd35
  case yd35 =>
    obtain ⟨g0, g1, g2, g3, _⟩ := hS
    go_simp
    try rfl
  case kd35 =>
  go_simp
  refine wpMix_nil ?_
  simp only [opsAt, List.filterMap_cons, List.filterMap_nil, List.getElem?_toArray, List.getElem?_cons_succ, List.getElem?_cons_zero]
  go_wp2
  refine NoPanic.normal ?_
  go_wp2
  go_ret
  exact ⟨rfl, HB9.out⟩
end Go.Proofs.Ytcliegpofhjpcaa
