/-
  The walk of ref10.Code.
  Conditions: ints of 64 bits; what is written is of at most 10^9 bytes.
-/
import Derived.Test.YtkggmckfdkpldaaDoorFcS
import Derived.Test.YtkggmckfdkpldaaDoorBmix
namespace Go.Proofs.YtkggmckfdkpldaaDoor
open Go.RowKit

set_option maxHeartbeats 3200000 in
set_option maxRecDepth 100000 in
theorem refCode_any (x : CdF) (v : Value) (w : World) (hT : CodeV w (Lt w.heap.size) v x) (hf : x.fits) (hsz : (cdS x).length ≤ 1000000000) :
    Calls Tryd.prog 19 #[v] w fun e w' => e = .returned (sv (cdS x)) ∧ Below w.heap.size w w' := by
  obtain ⟨i0, hi, hz0, hz1, hz2⟩ := info_parts infoS
  obtain ⟨ov, rfl, A, c, vs, rfl, hvs, hrow⟩ := hT
  obtain ⟨xp, xr, xo⟩ := x
  simp only at hvs
  subst hvs
  have HSZ := Lib.hid hsz
  have HR := Lib.hid hrow
  have hfp := hf.1
  have hfr := hf.2.1
  have HF : Hid (∀ u ∈ vs, u.o.fits) := Lib.hid fun u hu => hf.2.2 _ (List.mem_map.2 ⟨u, hu, rfl⟩)
  have HOL : Hid ((pack ((vs.map OV.o).map opS)).length ≤ 1000000000) := Lib.hid (Nat.le_trans (ops_le ⟨xp, xr, vs.map OV.o⟩) hsz)
  simp only at hfp hfr
  obtain ⟨n, hn⟩ : ∃ n, n = vs.length := ⟨_, rfl⟩
  have hn9 : n ≤ 1000000000 := by
    have := pack_count ((vs.map OV.o).map opS)
    rw [List.length_map, List.length_map] at this
    have := HOL.out
    omega
  rw [← hn]
  have HN := Lib.hid hn
  clear hsz hrow hf hn
  obtain ⟨wa, hwa⟩ : ∃ wa, wa = w.alloc (.cells #[iv xp, iv xr, .slice A n c] 37) := ⟨_, rfl⟩
  have hba : Below w.heap.size w wa := by rw [hwa]; exact (Below.refl _ _).alloc (Nat.le_refl _) _
  have hca : AtCells [(⟨w.heap.size, 0, none⟩, iv xp), (⟨w.heap.size, 1, none⟩, iv xr), (⟨w.heap.size, 2, none⟩, .slice A n c)] wa := by
    rw [hwa]
    have hh := alloc1 w (.cells #[iv xp, iv xr, .slice A n c] 37)
    refine ⟨?_, ?_, ?_, trivial⟩ <;> exact (Lib.cell_of_heap hh _).trans rfl
  have HBA := Lib.hid hba
  have HCA := Lib.hid hca
  clear hba hca
  go_enter Tryd.func19, Tryd.ntmps19
  go_wp2_with fail
  rw [← hwa]
  clear hwa
  go_loopw [4, 3] (fun i v wr => ∃ k : Nat, k ≤ n ∧ i = .int .i64 k ∧ wr.ownsRow wa.heap.size 9 1 v k ((((vs.take k).map OV.o).map opS).map sv) ∧ Below wa.heap.size wa wr) (fun i _ _ => n - (intOf i).toNat)
  case atStart => exact ⟨0, Nat.zero_le _, rfl, World.ownsRow_nil _ _ _ _, Below.refl _ _⟩
  case round =>
    obtain ⟨k, hk, rfl, hown, hb⟩ := hrel
    have HB := Lib.hid hb
    have HO := Lib.hid hown
    have HC := Lib.hid (HCA.out.below hb)
    obtain ⟨q0, q1, q2, _⟩ := HC.out
    simp only at q0 q1 q2
    by_cases hlt : k < n
    · obtain ⟨x, hx⟩ : ∃ x, vs[k]? = some x := ⟨_, List.getElem?_eq_getElem (by rw [← HN.out]; exact hlt)⟩
      have hbw : Below w.heap.size w wr := HBA.out.trans (hb.mono HBA.out.size)
      obtain ⟨ad, hA, hadl, a0, a1, a2, a3, a4, a5⟩ := ov_at (HR.out.row.keep (kept_below hbw)) hx
      have HX := Lib.hid hx
      have HXM := Lib.hid (List.mem_of_getElem? hx)
      have HAD := Lib.hid hA
      have hq2 := q2
      rw [hA] at q2
      have hxl : (opS x.o).length ≤ 1000000000 := Nat.le_trans (pack_elem (ls := (vs.map OV.o).map opS) (k := k) (by simp [hx])) HOL.out
      have HXL := Lib.hid hxl
      have hxv := ((HR.out.keep (kept_below hbw)).more (fun _ hy => Nat.lt_of_lt_of_le hy hbw.size : ∀ y, Lt w.heap.size y → Lt wr.heap.size y)).each x HXM.out
      have hxf := HF.out x HXM.out
      have hik : (0 : Int) ≤ (k : Int) ∧ (k : Int) < (n : Int) := ⟨by omega, by omega⟩
      obtain ⟨LA, lc, hxv, hlr⟩ := hxv
      obtain ⟨⟨xk, xa, xb, xc, xl, xs⟩, xv⟩ := x
      obtain ⟨m, hm⟩ : ∃ m, m = xl.length := ⟨_, rfl⟩
      simp only at a0 a1 a2 a3 a4 a5 hxv
      rw [← hm] at hxv
      subst hxv
      have HMX := Lib.hid hm
      have HLR := Lib.hid hlr
      have hf0 := hxf.1
      have hf1 := hxf.2.1
      have hf2 := hxf.2.2.1
      have hf3 := hxf.2.2.2.1
      have HF4 := Lib.hid hxf.2.2.2.2
      simp only at hf0 hf1 hf2 hf3
      obtain ⟨OA, oc, rfl, _⟩ := own_slice hown
      have hba2 : Below wr.heap.size wr (wr.alloc (.cells #[.int .i64 xk, .int .i64 xa, .int .i64 xb, .int .i64 xc, .slice LA m lc, .string (bs xs)] 60)).drew := ((Below.refl _ _).alloc (Nat.le_refl _) _).drew
      have hc0 : AtCells [(⟨wr.heap.size, 0, none⟩, iv xk), (⟨wr.heap.size, 1, none⟩, iv xa), (⟨wr.heap.size, 2, none⟩, iv xb), (⟨wr.heap.size, 3, none⟩, iv xc), (⟨wr.heap.size, 4, none⟩, .slice LA m lc), (⟨wr.heap.size, 5, none⟩, sv xs)] (wr.alloc (.cells #[.int .i64 xk, .int .i64 xa, .int .i64 xb, .int .i64 xc, .slice LA m lc, .string (bs xs)] 60)).drew := by
        have hh := alloc1 wr (.cells #[.int .i64 xk, .int .i64 xa, .int .i64 xb, .int .i64 xc, .slice LA m lc, .string (bs xs)] 60)
        refine ⟨?_, ?_, ?_, ?_, ?_, ?_, trivial⟩ <;> exact (Lib.cell_of_heap hh _).trans rfl
      have HS0 := Lib.hid hc0
      have HB0 := Lib.hid hba2
      clear hA hx hadl hb hown hxl hm hlr hxf hbw hba2 hc0
      go_wp2_with fail
      refine wp_region_mix (AtCells [(⟨wr.heap.size, 0, none⟩, iv xk), (⟨wr.heap.size, 1, none⟩, iv xa), (⟨wr.heap.size, 2, none⟩, iv xb), (⟨wr.heap.size, 3, none⟩, iv xc), (⟨wr.heap.size, 4, none⟩, .slice LA m lc), (⟨wr.heap.size, 5, none⟩, sv xs)]) [(true, 0), (true, 1), (true, 2), (true, 4), (true, 5), (true, 7), (true, 8), (true, 10), (true, 11), (true, 13), (true, 14), (true, 16), (true, 17), (false, 3), (false, 6), (false, 9), (false, 12), (false, 15), (false, 18), (false, 19), (false, 20)] [21, 22] (by kernel_rfl) (by kernel_rfl) HS0.out ?ha
      case ha =>
      simp only [mixAt, List.filterMap_cons, List.filterMap_nil, List.getElem?_toArray, List.getElem?_cons_succ, List.getElem?_cons_zero, Option.map_some]
      refine wpMix_load ?vaa0 rfl (fun w' hS => ?yaa0) ?kaa0
      case yaa0 =>
        obtain ⟨g0, g1, g2, g3, g4, g5, _⟩ := hS
        go_simp
        try rfl
      case kaa0 =>
      go_simp
      refine wpMix_load ?vaa1 rfl (fun w' hS => ?yaa1) ?kaa1
      case yaa1 =>
        obtain ⟨g0, g1, g2, g3, g4, g5, _⟩ := hS
        go_simp
        try rfl
      case kaa1 =>
      go_simp
      refine wpMix_load ?vaa2 rfl (fun w' hS => ?yaa2) ?kaa2
      case yaa2 =>
        obtain ⟨g0, g1, g2, g3, g4, g5, _⟩ := hS
        go_simp
        try rfl
      case kaa2 =>
      go_simp
      refine wpMix_load ?vaa3 rfl (fun w' hS => ?yaa3) ?kaa3
      case yaa3 =>
        obtain ⟨g0, g1, g2, g3, g4, g5, _⟩ := hS
        go_simp
        try rfl
      case kaa3 =>
      go_simp
      refine wpMix_load ?vaa4 rfl (fun w' hS => ?yaa4) ?kaa4
      case yaa4 =>
        obtain ⟨g0, g1, g2, g3, g4, g5, _⟩ := hS
        go_simp
        try rfl
      case kaa4 =>
      go_simp
      refine wpMix_load ?vaa5 rfl (fun w' hS => ?yaa5) ?kaa5
      case yaa5 =>
        obtain ⟨g0, g1, g2, g3, g4, g5, _⟩ := hS
        go_simp
        try rfl
      case kaa5 =>
      go_simp
      refine wpMix_load ?vaa6 rfl (fun w' hS => ?yaa6) ?kaa6
      case yaa6 =>
        obtain ⟨g0, g1, g2, g3, g4, g5, _⟩ := hS
        go_simp
        try rfl
      case kaa6 =>
      go_simp
      refine wpMix_load ?vaa7 rfl (fun w' hS => ?yaa7) ?kaa7
      case yaa7 =>
        obtain ⟨g0, g1, g2, g3, g4, g5, _⟩ := hS
        go_simp
        try rfl
      case kaa7 =>
      go_simp
      refine wpMix_load ?vaa8 rfl (fun w' hS => ?yaa8) ?kaa8
      case yaa8 =>
        obtain ⟨g0, g1, g2, g3, g4, g5, _⟩ := hS
        go_simp
        try rfl
      case kaa8 =>
      go_simp
      refine wpMix_load ?vaa9 rfl (fun w' hS => ?yaa9) ?kaa9
      case yaa9 =>
        obtain ⟨g0, g1, g2, g3, g4, g5, _⟩ := hS
        go_simp
        try rfl
      case kaa9 =>
      go_simp
      refine wpMix_load ?vaa10 rfl (fun w' hS => ?yaa10) ?kaa10
      case yaa10 =>
        obtain ⟨g0, g1, g2, g3, g4, g5, _⟩ := hS
        go_simp
        try rfl
      case kaa10 =>
      go_simp
      refine wpMix_load ?vaa11 rfl (fun w' hS => ?yaa11) ?kaa11
      case yaa11 =>
        obtain ⟨g0, g1, g2, g3, g4, g5, _⟩ := hS
        go_simp
        try rfl
      case kaa11 =>
      go_simp
      refine wpMix_load ?vaa12 rfl (fun w' hS => ?yaa12) ?kaa12
      case yaa12 =>
        obtain ⟨g0, g1, g2, g3, g4, g5, _⟩ := hS
        go_simp
        try rfl
      case kaa12 =>
      go_simp
      refine wpMix_keep rfl ?_
      go_wp2_with fail
      refine (digits_any xk _ (by exact hf0.1) (by exact hf0.2)).mono ?_
      rintro e w1 ⟨rfl, hb2⟩
      refine ⟨HS0.out.below hb2, ?_⟩
      have HS1 := Lib.hid (HS0.out.below hb2)
      have HB1 := Lib.hid (HB0.out.trans (hb2.mono HB0.out.size))
      clear hb2 HS0
      refine wpMix_keep rfl ?_
      go_wp2_with fail
      refine (digits_any xa _ (by exact hf1.1) (by exact hf1.2)).mono ?_
      rintro e w2 ⟨rfl, hb2⟩
      refine ⟨HS1.out.below hb2, ?_⟩
      have HS2 := Lib.hid (HS1.out.below hb2)
      have HB2 := Lib.hid (HB1.out.trans (hb2.mono HB1.out.size))
      clear hb2 HS1
      refine wpMix_keep rfl ?_
      go_wp2_with fail
      refine (digits_any xb _ (by exact hf2.1) (by exact hf2.2)).mono ?_
      rintro e w3 ⟨rfl, hb2⟩
      refine ⟨HS2.out.below hb2, ?_⟩
      have HS3 := Lib.hid (HS2.out.below hb2)
      have HB3 := Lib.hid (HB2.out.trans (hb2.mono HB2.out.size))
      clear hb2 HS2
      refine wpMix_keep rfl ?_
      go_wp2_with fail
      refine (digits_any xc _ (by exact hf3.1) (by exact hf3.2)).mono ?_
      rintro e w4 ⟨rfl, hb2⟩
      refine ⟨HS3.out.below hb2, ?_⟩
      have HS4 := Lib.hid (HS3.out.below hb2)
      have HB4 := Lib.hid (HB3.out.trans (hb2.mono HB3.out.size))
      clear hb2 HS3
      refine wpMix_keep rfl ?_
      go_wp2_with fail
      rw [HMX.out]
      refine (numbers_any xl LA lc w4 ((HLR.out.keep (kept_below HB4.out)).more fun _ hy => Nat.lt_of_lt_of_le hy HB4.out.size) HF4.out (Nat.le_trans (nums_le ⟨xk, xa, xb, xc, xl, xs⟩) HXL.out)).mono ?_
      rintro e w5 ⟨rfl, hb5⟩
      rw [← HMX.out]
      refine ⟨HS4.out.below hb5, ?_⟩
      have HS5 := Lib.hid (HS4.out.below hb5)
      have HB5 := Lib.hid (HB4.out.trans (hb5.mono HB4.out.size))
      clear hb5 HS4
      refine wpMix_keep rfl ?_
      go_wp2_with fail
      refine ⟨HS5.out.below ((Below.refl _ _).alloc (Nat.le_refl _) _), ?_⟩
      have HS6 := Lib.hid (HS5.out.below ((Below.refl _ w5).alloc (Nat.le_refl _) (.cells #[sv (Lib.itoa xk), sv (Lib.itoa xa), sv (Lib.itoa xb), sv (Lib.itoa xc), sv (numsS xl), sv xs] 9)))
      have HB6 := Lib.hid (HB5.out.alloc HB5.out.size (.cells #[sv (Lib.itoa xk), sv (Lib.itoa xa), sv (Lib.itoa xb), sv (Lib.itoa xc), sv (numsS xl), sv xs] 9))
      have hS : Strs (w5.alloc (.cells #[sv (Lib.itoa xk), sv (Lib.itoa xa), sv (Lib.itoa xb), sv (Lib.itoa xc), sv (numsS xl), sv xs] 9)) (w5.heap.size + 1) (some ⟨w5.heap.size, 0, none⟩) 6 [Lib.itoa xk, Lib.itoa xa, Lib.itoa xb, Lib.itoa xc, numsS xl, xs] := strsNew w5 9 [Lib.itoa xk, Lib.itoa xa, Lib.itoa xb, Lib.itoa xc, numsS xl, xs]
      refine wpMix_keep rfl ?_
      go_wp2_with fail
      refine (refPack_any _ 6 6 _ _ _ hS (by simp) HXL.out (by decide)).mono ?_
      rintro e w7 ⟨rfl, hb7⟩
      refine ⟨HS6.out.below hb7, ?_⟩
      have HS7 := Lib.hid (HS6.out.below hb7)
      have HB7 := Lib.hid (HB6.out.trans (hb7.mono HB6.out.size))
      clear hb7 hS HS6 HS5
      obtain ⟨os, hos⟩ : ∃ os, os = pack [Lib.itoa xk, Lib.itoa xa, Lib.itoa xb, Lib.itoa xc, numsS xl, xs] := ⟨_, rfl⟩
      rw [← hos]
      have HOS : Hid (os = opS ⟨xk, xa, xb, xc, xl, xs⟩) := Lib.hid hos
      clear hos
      refine wpMix_keep rfl ?_
      go_wp2_with fail
      refine ⟨HS7.out.below ((Below.refl _ _).alloc (Nat.le_refl _) _), ?_⟩
      have hown7 := (HO.out.kept (grownOfB HB7.out none) (ownNone _)).alloc (.cells #[sv os] 9)
      have hnew7 := World.news_of_block (cs := #[sv os]) (alloc1 w7 (.cells #[sv os] 9))
      have HBW7 : Hid (Below wa.heap.size wa (w7.alloc (.cells #[sv os] 9))) := Lib.hid ((HB.out.trans (HB7.out.mono HB.out.size)).alloc (Nat.le_trans HB.out.size HB7.out.size) _)
      have hsz7 := HBW7.out.size
      clear HS7 HO
      refine wpMix_nil ?_
      simp only [opsAt, List.filterMap_cons, List.filterMap_nil, List.getElem?_toArray, List.getElem?_cons_succ, List.getElem?_cons_zero]
      refine wpList_append_own _ rfl (.tmp 18) (.tmp 38) 28 rfl wa.heap.size 9 i0 (.string ⟨#[]⟩) 1 16 Tryd.underlying28 hi hz0 hz1 hz2 rfl (by decide) _ k _ rfl hown7 ⟨w7.heap.size, 0, none⟩ 1 1 [sv os] rfl rfl ?c1 ?c2 ?c3 ?c4 ?c5 ?_
      case c1 => exact hnew7
      case c2 =>
        intro u hu
        rw [List.mem_singleton.1 hu]
        rfl
      case c3 => unfold maxLen; omega
      case c4 => omega
      case c5 => exact hsz7
      intro v' w8 hown8 hgrow _
      have HB8 : Hid (Below wa.heap.size wa w8) := Lib.hid (HBW7.out.grown hgrow hsz7 (fun g hg => (hown7.lt g hg).1))
      have HO8 := Lib.hid hown8
      clear hown8 hgrow hown7 hnew7
      go_wp2
      refine NoPanic.normal ?_
      go_wp2
      try rw [← HAD.out]
      go_roundw
      case rel =>
        refine ⟨k + 1, by omega, by go_num, ?_, HB8.out⟩
        have h := HO8.out
        rw [List.take_add_one, HX.out]
        rw [HOS.out] at h
        simpa using h
      case measure => simp [intOf]; omega
    · obtain rfl : k = n := by omega
      obtain ⟨OA, oc, rfl, _⟩ := own_slice hown
      have hS : Strs wr wr.heap.size OA k ((vs.map OV.o).map opS) := by
        refine strsOfOwn (c := oc) (base := wa.heap.size) ?_
        have h := hown
        rw [List.take_of_length_le (Nat.le_of_eq HN.out.symm)] at h
        exact h
      have HPK := Lib.hid hS
      have HBD := Lib.hid hb.drew
      have HS0 := Lib.hid (HCA.out.below hb.drew)
      clear hS hown hb HO
      go_wp2_with fail
      refine wp_region_mix (AtCells [(⟨w.heap.size, 0, none⟩, iv xp), (⟨w.heap.size, 1, none⟩, iv xr), (⟨w.heap.size, 2, none⟩, .slice A k c)]) [(true, 0), (true, 1), (true, 3), (true, 4), (true, 6), (false, 2), (false, 5), (false, 7), (false, 8), (false, 9)] [10] (by kernel_rfl) (by kernel_rfl) HS0.out ?hb
      case hb =>
      simp only [mixAt, List.filterMap_cons, List.filterMap_nil, List.getElem?_toArray, List.getElem?_cons_succ, List.getElem?_cons_zero, Option.map_some]
      refine wpMix_load ?vbb0 rfl (fun w' hS => ?ybb0) ?kbb0
      case ybb0 =>
        obtain ⟨g0, g1, g2, _⟩ := hS
        go_simp
        try rfl
      case kbb0 =>
      go_simp
      refine wpMix_load ?vbb1 rfl (fun w' hS => ?ybb1) ?kbb1
      case ybb1 =>
        obtain ⟨g0, g1, g2, _⟩ := hS
        go_simp
        try rfl
      case kbb1 =>
      go_simp
      refine wpMix_load ?vbb2 rfl (fun w' hS => ?ybb2) ?kbb2
      case ybb2 =>
        obtain ⟨g0, g1, g2, _⟩ := hS
        go_simp
        try rfl
      case kbb2 =>
      go_simp
      refine wpMix_load ?vbb3 rfl (fun w' hS => ?ybb3) ?kbb3
      case ybb3 =>
        obtain ⟨g0, g1, g2, _⟩ := hS
        go_simp
        try rfl
      case kbb3 =>
      go_simp
      refine wpMix_load ?vbb4 rfl (fun w' hS => ?ybb4) ?kbb4
      case ybb4 =>
        obtain ⟨g0, g1, g2, _⟩ := hS
        go_simp
        try rfl
      case kbb4 =>
      go_simp
      have HB0 : Hid (Below wr.heap.size wr wr.drew) := Lib.hid (Below.refl _ _).drew
      refine wpMix_keep rfl ?_
      go_wp2_with fail
      refine (digits_any xp _ (by exact hfp.1) (by exact hfp.2)).mono ?_
      rintro e w1 ⟨rfl, hb2⟩
      refine ⟨HS0.out.below hb2, ?_⟩
      have HS1 := Lib.hid (HS0.out.below hb2)
      have HB1 := Lib.hid (HB0.out.trans (hb2.mono HB0.out.size))
      clear hb2 HS0
      refine wpMix_keep rfl ?_
      go_wp2_with fail
      refine (digits_any xr _ (by exact hfr.1) (by exact hfr.2)).mono ?_
      rintro e w2 ⟨rfl, hb2⟩
      refine ⟨HS1.out.below hb2, ?_⟩
      have HS2 := Lib.hid (HS1.out.below hb2)
      have HB2 := Lib.hid (HB1.out.trans (hb2.mono HB1.out.size))
      clear hb2 HS1
      refine wpMix_keep rfl ?_
      go_wp2_with fail
      refine (refPack_any OA k oc w2.heap.size _ w2 (HPK.out.now HB2.out) (Nat.le_refl _) HOL.out hn9).mono ?_
      rintro e w5 ⟨rfl, hb5⟩
      refine ⟨HS2.out.below hb5, ?_⟩
      have HS5 := Lib.hid (HS2.out.below hb5)
      have HB5 := Lib.hid (HB2.out.trans (hb5.mono HB2.out.size))
      clear hb5 HS2
      obtain ⟨os, hos⟩ : ∃ os, os = pack ((vs.map OV.o).map opS) := ⟨_, rfl⟩
      rw [← hos]
      have hSZ : (pack [Lib.itoa xp, Lib.itoa xr, os]).length ≤ 1000000000 := by rw [hos]; exact HSZ.out
      have HQ : Hid (cdS ⟨xp, xr, vs.map OV.o⟩ = pack [Lib.itoa xp, Lib.itoa xr, os]) := Lib.hid (by rw [hos]; rfl)
      clear hos
      refine wpMix_keep rfl ?_
      go_wp2_with fail
      refine ⟨HS5.out.below ((Below.refl _ _).alloc (Nat.le_refl _) _), ?_⟩
      have HS6 := Lib.hid (HS5.out.below ((Below.refl _ w5).alloc (Nat.le_refl _) (.cells #[sv (Lib.itoa xp), sv (Lib.itoa xr), sv os] 9)))
      have HB6 := Lib.hid (HB5.out.alloc HB5.out.size (.cells #[sv (Lib.itoa xp), sv (Lib.itoa xr), sv os] 9))
      have hS : Strs (w5.alloc (.cells #[sv (Lib.itoa xp), sv (Lib.itoa xr), sv os] 9)) (w5.heap.size + 1) (some ⟨w5.heap.size, 0, none⟩) 3 [Lib.itoa xp, Lib.itoa xr, os] := strsNew w5 9 [Lib.itoa xp, Lib.itoa xr, os]
      refine wpMix_keep rfl ?_
      go_wp2_with fail
      refine (refPack_any _ 3 3 _ _ _ hS (by simp) hSZ (by decide)).mono ?_
      rintro e w7 ⟨rfl, hb7⟩
      refine ⟨HS6.out.below hb7, ?_⟩
      have HB7 : Hid (Below w.heap.size w w7) := Lib.hid (HBA.out.trans (((HB.out.trans (HB6.out.mono HB.out.size)).trans (hb7.mono (Nat.le_trans HB.out.size HB6.out.size))).mono HBA.out.size))
      clear hb7 hS HS6 HS5
      refine wpMix_nil ?_
      simp only [opsAt, List.filterMap_cons, List.filterMap_nil, List.getElem?_toArray, List.getElem?_cons_succ, List.getElem?_cons_zero]
      go_wp2
      refine NoPanic.normal ?_
      go_wp2
      go_ret
      rw [HQ.out]
      exact ⟨rfl, HB7.out⟩
end Go.Proofs.YtkggmckfdkpldaaDoor
