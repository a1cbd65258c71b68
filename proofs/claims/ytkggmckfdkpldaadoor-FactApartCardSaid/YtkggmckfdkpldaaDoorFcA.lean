/-
  The walks of fact.Code and of what it calls: numbers, operations, the code.
  Conditions: 'Env'; ints of 64 bits; what is written is of at most 10^9 bytes.
-/
import Derived.Test.YtkggmckfdkpldaaDoorFcC
import Derived.Test.YtkggmckfdkpldaaDoorFcK
import Derived.Test.YtkggmckfdkpldaaDoorBtwk
namespace Go.Proofs.YtkggmckfdkpldaaDoor
open Go.RowKit

abbrev fnV (f : Nat) : Value := .func (.func f) #[] #[]
theorem pack_count : ∀ L : List (List UInt8), L.length ≤ (pack L).length
  | [] => Nat.zero_le _
  | a :: L => by
    have := pack_count L
    have h1 := pk_length a
    rw [pack_cons, List.length_append, List.length_cons]
    omega
set_option maxHeartbeats 1600000 in
set_option maxRecDepth 100000 in
theorem eachInt_any (l : List Int) (A : Option Addr) (c : Nat) (w : World) (he : Env w) (hT : Row w (Lt w.heap.size) A (l.map iv)) (hf : ∀ x ∈ l, I64f x) (hsz : (numsS l).length ≤ 1000000000) :
    Calls Tryd.prog 57 #[.slice A l.length c, fnV 26] w fun e w' => e = .returned (sv (numsS l)) ∧ Below w.heap.size w w' := by
  obtain ⟨i0, hi, hz0, hz1, hz2⟩ := info_parts infoS
  obtain ⟨n, hn⟩ : ∃ n, n = l.length := ⟨_, rfl⟩
  have hn9 : n ≤ 1000000000 := by
    have := pack_count (l.map Lib.itoa)
    rw [List.length_map] at this
    unfold numsS at hsz
    omega
  rw [← hn]
  obtain ⟨wc, hmk, hown, hgr⟩ := run_make_full (P := Tryd.prog) w w.heap.size 28 9 i0 _ 1 Tryd.underlying28 hi hz0 hz1 .i64 .i64 n (by rw [hz2]; omega) (by unfold maxLen; omega) (by omega)
  have hbc : Below w.heap.size w wc := ⟨hgr.os, hgr.tape, hgr.output, hgr.size, fun y hy => hgr.block y hy (by simp)⟩
  rw [madeS] at hown
  have HN := Lib.hid hn
  have HF := Lib.hid hf
  have HT := Lib.hid hT
  have HE := Lib.hid he
  have HSZ := Lib.hid hsz
  have HM : Hid ((l.map fun x => sv (Lib.itoa x)).length = n) := Lib.hid (by rw [List.length_map, hn])
  have HBC := Lib.hid hbc
  have HOW := Lib.hid hown
  clear hn hf hT he hsz hbc hgr hown
  go_enter Tryd.func57, Tryd.ntmps57
  go_wp2_with fail
  clear hmk
  go_loopw [13] (fun i wr => ∃ k : Nat, k ≤ n ∧ i = .int .i64 k ∧ wr.ownsRow w.heap.size 9 1 (.slice (some ⟨w.heap.size, 0, none⟩) n n) n ((l.map fun x => sv (Lib.itoa x)).take k ++ List.replicate (n - k) (sv [])) ∧ Below w.heap.size w wr) (fun i _ => n - (intOf i).toNat)
  case atStart => exact ⟨0, Nat.zero_le _, rfl, by simpa using HOW.out, HBC.out⟩
  case round =>
    obtain ⟨k, hk, rfl, hown, hb⟩ := hrel
    have HB := Lib.hid hb
    have HO := Lib.hid hown
    by_cases hlt : k < n
    · obtain ⟨x, hx⟩ : ∃ x, l[k]? = some x := ⟨_, List.getElem?_eq_getElem (by rw [← HN.out]; exact hlt)⟩
      obtain ⟨ad, hA, hadl, a0⟩ := int_at (HT.out.keep (kept_below hb)) hx
      have hxf := HF.out x (List.mem_of_getElem? hx)
      have HX := Lib.hid hx
      have HAD := Lib.hid hA
      rw [hA]
      have HCL := Lib.hid (itoa_b x wr hxf.1 hxf.2 (HE.out.below hb))
      have hik : (0 : Int) ≤ (k : Int) ∧ (k : Int) < (n : Int) := ⟨by omega, by omega⟩
      clear hA hx hxf hadl hb hown
      go_wp2_with fail
      refine HCL.out.mono ?_
      rintro e w1 ⟨rfl, hb1⟩
      have hown1 := HO.out.kept (grownOfB hb1 none) (ownNone _)
      have hc1 := hown1.cellAt k (by omega)
      have hf1 := hown1.frozenAt k
      have hlen1 := hown1.1
      obtain ⟨z, hz⟩ : ∃ z, w1.cell? ⟨w.heap.size, k, none⟩ = some z := ⟨_, hc1.trans (List.getElem?_eq_getElem (by rw [hlen1]; omega))⟩
      have HB1 := Lib.hid (HB.out.trans (hb1.mono HB.out.size))
      have HO1 := Lib.hid hown1
      clear hb1 hown1 hc1 hlen1 HCL a0
      go_wp2
      try rw [← HAD.out]
      go_roundw
      case rel =>
        refine ⟨k + 1, by omega, by go_num, ?_, HB1.out.setCell (p := ⟨w.heap.size, k, none⟩) (Nat.le_refl _) _⟩
        have := HO1.out.stored k (sv (Lib.itoa x))
        rw [fill_step HM.out hlt (by simp [HX.out])] at this
        exact this.1
      case measure => simp [intOf]; omega
    · obtain rfl : k = n := by omega
      have hS : Strs wr wr.heap.size (some ⟨w.heap.size, 0, none⟩) k (l.map Lib.itoa) := by
        refine strsOfOwn (c := k) (base := w.heap.size) ?_
        have h := HO.out
        rw [List.take_of_length_le (Nat.le_of_eq HM.out), Nat.sub_self, List.replicate_zero, List.append_nil] at h
        rw [List.map_map]
        exact h
      have HCL := Lib.hid (pack_any (some ⟨w.heap.size, 0, none⟩) k k wr.heap.size _ wr (HE.out.below hb) hS (Nat.le_refl _) HSZ.out hn9)
      clear hS hown hb
      go_wp2_with fail
      refine HCL.out.mono ?_
      rintro e w1 ⟨rfl, hb1⟩
      have HB1 := Lib.hid (HB.out.trans (hb1.mono HB.out.size))
      clear hb1
      go_wp2
      go_ret
      exact ⟨rfl, HB1.out⟩
theorem nums_le (o : OpF) : (numsS o.list).length ≤ (opS o).length := pack_elem (ls := [Lib.itoa o.kind, Lib.itoa o.a, Lib.itoa o.b, Lib.itoa o.c, numsS o.list, o.sym]) (k := 4) rfl
set_option maxHeartbeats 1600000 in
set_option maxRecDepth 100000 in
theorem op_any (o : OpF) (lv : Value) (w : World) (he : Env w) (hT : IntsV w (Lt w.heap.size) lv o.list) (hf : o.fits) (hsz : (opS o).length ≤ 1000000000) :
    Calls Tryd.prog 35 #[opV o lv] w fun e w' => e = .returned (sv (opS o)) ∧ Below w.heap.size w w' := by
  obtain ⟨LA, lc, rfl, hrow⟩ := hT
  have HE := Lib.hid he
  have HSZ := Lib.hid hsz
  have HR := Lib.hid hrow
  have HF0 := Lib.hid hf
  obtain ⟨ok, oa, ob, oc, ol, os⟩ := o
  simp only at hrow
  have hfk := hf.1
  have hfa := hf.2.1
  have hfb := hf.2.2.1
  have hfc := hf.2.2.2.1
  simp only at hfk hfa hfb hfc
  obtain ⟨n, hn⟩ : ∃ n, n = ol.length := ⟨_, rfl⟩
  clear he hsz hrow hf
  simp only
  rw [← hn]
  have HN := Lib.hid hn
  clear hn
  go_enter Tryd.func35, Tryd.ntmps35
  go_wp2_with fail
  have hc0 : AtCells [(⟨w.heap.size, 0, none⟩, iv ok), (⟨w.heap.size, 1, none⟩, iv oa), (⟨w.heap.size, 2, none⟩, iv ob), (⟨w.heap.size, 3, none⟩, iv oc), (⟨w.heap.size, 4, none⟩, .slice LA n lc), (⟨w.heap.size, 5, none⟩, sv os)] (w.alloc (.cells #[iv ok, iv oa, iv ob, iv oc, .slice LA n lc, sv os] 60)).drew := by
    have hh := alloc1 w (.cells #[iv ok, iv oa, iv ob, iv oc, .slice LA n lc, sv os] 60)
    refine ⟨?_, ?_, ?_, ?_, ?_, ?_, trivial⟩ <;> exact (Lib.cell_of_heap hh _).trans rfl
  have HS0 := Lib.hid hc0
  have HB0 : Hid (Below w.heap.size w (w.alloc (.cells #[iv ok, iv oa, iv ob, iv oc, .slice LA n lc, sv os] 60)).drew) := Lib.hid (((Below.refl _ _).alloc (Nat.le_refl _) _).drew)
  clear hc0
  refine wp_region_mix (AtCells [(⟨w.heap.size, 0, none⟩, iv ok), (⟨w.heap.size, 1, none⟩, iv oa), (⟨w.heap.size, 2, none⟩, iv ob), (⟨w.heap.size, 3, none⟩, iv oc), (⟨w.heap.size, 4, none⟩, .slice LA n lc), (⟨w.heap.size, 5, none⟩, sv os)]) [(true, 0), (true, 1), (true, 3), (true, 4), (true, 6), (true, 7), (true, 9), (true, 10), (true, 12), (true, 13), (true, 15), (true, 16), (false, 2), (false, 5), (false, 8), (false, 11), (false, 14), (false, 17), (false, 18)] [19] (by kernel_rfl) (by kernel_rfl) HS0.out ?ha
  case ha =>
  simp only [mixAt, List.filterMap_cons, List.filterMap_nil, List.getElem?_toArray, List.getElem?_cons_succ, List.getElem?_cons_zero, Option.map_some]
  refine wpMix_load ?vaa0 rfl (fun w' hS => ?yaa0) ?kaa0
  case yaa0 =>
    obtain ⟨g0, g1, g2, g3, g4, g5, _⟩ := hS
    go_simp
    try rfl
  case kaa0 =>
  go_simp
  refine wpMix_load ?vaa1 rfl (fun w' hS => ?yaa1) ?kaa1
  case yaa1 =>
    obtain ⟨g0, g1, g2, g3, g4, g5, _⟩ := hS
    go_simp
    try rfl
  case kaa1 =>
  go_simp
  refine wpMix_load ?vaa2 rfl (fun w' hS => ?yaa2) ?kaa2
  case yaa2 =>
    obtain ⟨g0, g1, g2, g3, g4, g5, _⟩ := hS
    go_simp
    try rfl
  case kaa2 =>
  go_simp
  refine wpMix_load ?vaa3 rfl (fun w' hS => ?yaa3) ?kaa3
  case yaa3 =>
    obtain ⟨g0, g1, g2, g3, g4, g5, _⟩ := hS
    go_simp
    try rfl
  case kaa3 =>
  go_simp
  refine wpMix_load ?vaa4 rfl (fun w' hS => ?yaa4) ?kaa4
  case yaa4 =>
    obtain ⟨g0, g1, g2, g3, g4, g5, _⟩ := hS
    go_simp
    try rfl
  case kaa4 =>
  go_simp
  refine wpMix_load ?vaa5 rfl (fun w' hS => ?yaa5) ?kaa5
  case yaa5 =>
    obtain ⟨g0, g1, g2, g3, g4, g5, _⟩ := hS
    go_simp
    try rfl
  case kaa5 =>
  go_simp
  refine wpMix_load ?vaa6 rfl (fun w' hS => ?yaa6) ?kaa6
  case yaa6 =>
    obtain ⟨g0, g1, g2, g3, g4, g5, _⟩ := hS
    go_simp
    try rfl
  case kaa6 =>
  go_simp
  refine wpMix_load ?vaa7 rfl (fun w' hS => ?yaa7) ?kaa7
  case yaa7 =>
    obtain ⟨g0, g1, g2, g3, g4, g5, _⟩ := hS
    go_simp
    try rfl
  case kaa7 =>
  go_simp
  refine wpMix_load ?vaa8 rfl (fun w' hS => ?yaa8) ?kaa8
  case yaa8 =>
    obtain ⟨g0, g1, g2, g3, g4, g5, _⟩ := hS
    go_simp
    try rfl
  case kaa8 =>
  go_simp
  refine wpMix_load ?vaa9 rfl (fun w' hS => ?yaa9) ?kaa9
  case yaa9 =>
    obtain ⟨g0, g1, g2, g3, g4, g5, _⟩ := hS
    go_simp
    try rfl
  case kaa9 =>
  go_simp
  refine wpMix_load ?vaa10 rfl (fun w' hS => ?yaa10) ?kaa10
  case yaa10 =>
    obtain ⟨g0, g1, g2, g3, g4, g5, _⟩ := hS
    go_simp
    try rfl
  case kaa10 =>
  go_simp
  refine wpMix_load ?vaa11 rfl (fun w' hS => ?yaa11) ?kaa11
  case yaa11 =>
    obtain ⟨g0, g1, g2, g3, g4, g5, _⟩ := hS
    go_simp
    try rfl
  case kaa11 =>
  go_simp
  refine wpMix_keep rfl ?_
  go_wp2_with fail
  refine (itoa_b ok _ (by exact hfk.1) (by exact hfk.2) (HE.out.below HB0.out)).mono ?_
  rintro e w1 ⟨rfl, hb2⟩
  refine ⟨HS0.out.below hb2, ?_⟩
  have HS1 := Lib.hid (HS0.out.below hb2)
  have HB1 := Lib.hid (HB0.out.trans (hb2.mono HB0.out.size))
  clear hb2 HS0
  refine wpMix_keep rfl ?_
  go_wp2_with fail
  refine (itoa_b oa _ (by exact hfa.1) (by exact hfa.2) (HE.out.below HB1.out)).mono ?_
  rintro e w2 ⟨rfl, hb2⟩
  refine ⟨HS1.out.below hb2, ?_⟩
  have HS2 := Lib.hid (HS1.out.below hb2)
  have HB2 := Lib.hid (HB1.out.trans (hb2.mono HB1.out.size))
  clear hb2 HS1
  refine wpMix_keep rfl ?_
  go_wp2_with fail
  refine (itoa_b ob _ (by exact hfb.1) (by exact hfb.2) (HE.out.below HB2.out)).mono ?_
  rintro e w3 ⟨rfl, hb2⟩
  refine ⟨HS2.out.below hb2, ?_⟩
  have HS3 := Lib.hid (HS2.out.below hb2)
  have HB3 := Lib.hid (HB2.out.trans (hb2.mono HB2.out.size))
  clear hb2 HS2
  refine wpMix_keep rfl ?_
  go_wp2_with fail
  refine (itoa_b oc _ (by exact hfc.1) (by exact hfc.2) (HE.out.below HB3.out)).mono ?_
  rintro e w4 ⟨rfl, hb2⟩
  refine ⟨HS3.out.below hb2, ?_⟩
  have HS4 := Lib.hid (HS3.out.below hb2)
  have HB4 := Lib.hid (HB3.out.trans (hb2.mono HB3.out.size))
  clear hb2 HS3
  refine wpMix_keep rfl ?_
  go_wp2_with fail
  rw [HN.out]
  refine (eachInt_any ol LA lc w4 (HE.out.below HB4.out) ((HR.out.keep (kept_below HB4.out)).more fun _ hy => Nat.lt_of_lt_of_le hy HB4.out.size) HF0.out.2.2.2.2 (Nat.le_trans (nums_le ⟨ok, oa, ob, oc, ol, os⟩) HSZ.out)).mono ?_
  rintro e w5 ⟨rfl, hb5⟩
  rw [← HN.out]
  refine ⟨HS4.out.below hb5, ?_⟩
  have HS5 := Lib.hid (HS4.out.below hb5)
  have HB5 := Lib.hid (HB4.out.trans (hb5.mono HB4.out.size))
  clear hb5 HS4
  refine wpMix_keep rfl ?_
  go_wp2_with fail
  refine ⟨HS5.out.below ((Below.refl _ _).alloc (Nat.le_refl _) _), ?_⟩
  have HS6 := Lib.hid (HS5.out.below ((Below.refl _ w5).alloc (Nat.le_refl _) (.cells #[sv (Lib.itoa ok), sv (Lib.itoa oa), sv (Lib.itoa ob), sv (Lib.itoa oc), sv (numsS ol), sv os] 9)))
  have HB6 := Lib.hid (HB5.out.alloc HB5.out.size (.cells #[sv (Lib.itoa ok), sv (Lib.itoa oa), sv (Lib.itoa ob), sv (Lib.itoa oc), sv (numsS ol), sv os] 9))
  have hS : Strs (w5.alloc (.cells #[sv (Lib.itoa ok), sv (Lib.itoa oa), sv (Lib.itoa ob), sv (Lib.itoa oc), sv (numsS ol), sv os] 9)) (w5.heap.size + 1) (some ⟨w5.heap.size, 0, none⟩) 6 [Lib.itoa ok, Lib.itoa oa, Lib.itoa ob, Lib.itoa oc, numsS ol, os] := strsNew w5 9 [Lib.itoa ok, Lib.itoa oa, Lib.itoa ob, Lib.itoa oc, numsS ol, os]
  refine wpMix_keep rfl ?_
  go_wp2_with fail
  refine (pack_any _ 6 6 _ _ _ (HE.out.below HB6.out) hS (by simp) HSZ.out (by decide)).mono ?_
  rintro e w7 ⟨rfl, hb7⟩
  refine ⟨HS6.out.below hb7, ?_⟩
  have HB7 := Lib.hid (HB6.out.trans (hb7.mono HB6.out.size))
  clear hb7 hS HS6 HS5
  refine wpMix_nil ?_
  simp only [opsAt, List.filterMap_cons, List.filterMap_nil, List.getElem?_toArray, List.getElem?_cons_succ, List.getElem?_cons_zero]
  go_wp2
  refine NoPanic.normal ?_
  go_wp2
  go_ret
  exact ⟨rfl, HB7.out⟩
set_option maxHeartbeats 1600000 in
set_option maxRecDepth 100000 in
theorem eachOp_any (vs : List OV) (A : Option Addr) (c : Nat) (w : World) (he : Env w) (hT : Ops w (Lt w.heap.size) A vs) (hf : ∀ x ∈ vs, x.o.fits) (hsz : (pack ((vs.map OV.o).map opS)).length ≤ 1000000000) :
    Calls Tryd.prog 34 #[.slice A vs.length c, fnV 35] w fun e w' => e = .returned (sv (pack ((vs.map OV.o).map opS))) ∧ Below w.heap.size w w' := by
  obtain ⟨i0, hi, hz0, hz1, hz2⟩ := info_parts infoS
  obtain ⟨n, hn⟩ : ∃ n, n = vs.length := ⟨_, rfl⟩
  have hn9 : n ≤ 1000000000 := by
    have := pack_count ((vs.map OV.o).map opS)
    rw [List.length_map, List.length_map] at this
    omega
  rw [← hn]
  obtain ⟨wc, hmk, hown, hgr⟩ := run_make_full (P := Tryd.prog) w w.heap.size 28 9 i0 _ 1 Tryd.underlying28 hi hz0 hz1 .i64 .i64 n (by rw [hz2]; omega) (by unfold maxLen; omega) (by omega)
  have hbc : Below w.heap.size w wc := ⟨hgr.os, hgr.tape, hgr.output, hgr.size, fun y hy => hgr.block y hy (by simp)⟩
  rw [madeS] at hown
  have HN := Lib.hid hn
  have HF := Lib.hid hf
  have HT := Lib.hid hT
  have HE := Lib.hid he
  have HSZ := Lib.hid hsz
  have HM : Hid ((vs.map fun x => sv (opS x.o)).length = n) := Lib.hid (by rw [List.length_map, hn])
  have HBC := Lib.hid hbc
  have HOW := Lib.hid hown
  clear hn hf hT he hsz hbc hgr hown
  go_enter Tryd.func34, Tryd.ntmps34
  go_wp2_with fail
  clear hmk
  go_loopw [13] (fun i wr => ∃ k : Nat, k ≤ n ∧ i = .int .i64 k ∧ wr.ownsRow w.heap.size 9 1 (.slice (some ⟨w.heap.size, 0, none⟩) n n) n ((vs.map fun x => sv (opS x.o)).take k ++ List.replicate (n - k) (sv [])) ∧ Below w.heap.size w wr) (fun i _ => n - (intOf i).toNat)
  case atStart => exact ⟨0, Nat.zero_le _, rfl, by simpa using HOW.out, HBC.out⟩
  case round =>
    obtain ⟨k, hk, rfl, hown, hb⟩ := hrel
    have HB := Lib.hid hb
    have HO := Lib.hid hown
    by_cases hlt : k < n
    · obtain ⟨x, hx⟩ : ∃ x, vs[k]? = some x := ⟨_, List.getElem?_eq_getElem (by rw [← HN.out]; exact hlt)⟩
      obtain ⟨ad, hA, hadl, a0, a1, a2, a3, a4, a5⟩ := ov_at (HT.out.row.keep (kept_below hb)) hx
      have HX := Lib.hid hx
      have HXM := Lib.hid (List.mem_of_getElem? hx)
      have HAD := Lib.hid hA
      rw [hA]
      have hxl : (opS x.o).length ≤ 1000000000 := Nat.le_trans (pack_elem (ls := (vs.map OV.o).map opS) (k := k) (by simp [hx])) HSZ.out
      have HXL := Lib.hid hxl
      have HXV := Lib.hid ((HT.out.keep (kept_below hb)).more (fun _ hy => Nat.lt_of_lt_of_le hy hb.size : ∀ y, Lt w.heap.size y → Lt wr.heap.size y))
      have hik : (0 : Int) ≤ (k : Int) ∧ (k : Int) < (n : Int) := ⟨by omega, by omega⟩
      obtain ⟨LA, lc, hxv, _⟩ := HXV.out.each x HXM.out
      obtain ⟨⟨xk, xa, xb, xc, xl, xs⟩, xv⟩ := x
      obtain ⟨m, hm⟩ : ∃ m, m = xl.length := ⟨_, rfl⟩
      simp only at a0 a1 a2 a3 a4 a5 hxv
      rw [← hm] at hxv
      subst hxv
      have HMX := Lib.hid hm
      clear hA hx hadl hb hown hxl hm
      go_wp2_with fail
      have hb1 : Below wr.heap.size wr (wr.alloc (.cells #[iv xk, iv xa, iv xb, iv xc, .slice LA m lc, sv xs] 60)) := (Below.refl _ _).alloc (Nat.le_refl _) _
      refine (op_any ⟨xk, xa, xb, xc, xl, xs⟩ (.slice LA m lc) _ (HE.out.below (HB.out.trans (hb1.mono HB.out.size))) (((HXV.out.each _ HXM.out).keep (kept_below hb1)).more fun _ hy => Nat.lt_of_lt_of_le hy hb1.size) (HF.out _ HXM.out) HXL.out).mono ?_
      rintro e w1 ⟨rfl, hb2⟩
      have hb3 : Below w.heap.size w w1 := (HB.out.trans (hb1.mono HB.out.size)).trans (hb2.mono (Nat.le_trans HB.out.size hb1.size))
      have hown1 := HO.out.kept (grownOfB (hb1.trans (hb2.mono hb1.size)) none) (ownNone _)
      have hc1 := hown1.cellAt k (by omega)
      have hf1 := hown1.frozenAt k
      have hlen1 := hown1.1
      obtain ⟨z, hz⟩ : ∃ z, w1.cell? ⟨w.heap.size, k, none⟩ = some z := ⟨_, hc1.trans (List.getElem?_eq_getElem (by rw [hlen1]; omega))⟩
      have HB1 := Lib.hid hb3
      have HO1 := Lib.hid hown1
      clear hb1 hb2 hb3 hown1 hc1 hlen1 a0 a1 a2 a3 a4 a5
      go_wp2
      try rw [← HAD.out]
      go_roundw
      case rel =>
        refine ⟨k + 1, by omega, by go_num, ?_, HB1.out.setCell (p := ⟨w.heap.size, k, none⟩) (Nat.le_refl _) _⟩
        have := HO1.out.stored k (sv (opS ⟨xk, xa, xb, xc, xl, xs⟩))
        rw [fill_step HM.out hlt (by simp [HX.out])] at this
        exact this.1
      case measure => simp [intOf]; omega
    · obtain rfl : k = n := by omega
      have hS : Strs wr wr.heap.size (some ⟨w.heap.size, 0, none⟩) k ((vs.map OV.o).map opS) := by
        refine strsOfOwn (c := k) (base := w.heap.size) ?_
        have h := HO.out
        rw [List.take_of_length_le (Nat.le_of_eq HM.out), Nat.sub_self, List.replicate_zero, List.append_nil] at h
        rw [List.map_map, List.map_map]
        exact h
      have HCL := Lib.hid (pack_any (some ⟨w.heap.size, 0, none⟩) k k wr.heap.size _ wr (HE.out.below hb) hS (Nat.le_refl _) HSZ.out hn9)
      clear hS hown hb
      go_wp2_with fail
      refine HCL.out.mono ?_
      rintro e w1 ⟨rfl, hb1⟩
      have HB1 := Lib.hid (HB.out.trans (hb1.mono HB.out.size))
      clear hb1
      go_wp2
      go_ret
      refine ⟨?_, HB1.out⟩
      rw [List.map_map]
      rfl
theorem ops_le (c : CdF) : (pack (c.ops.map opS)).length ≤ (cdS c).length := pack_elem (ls := [Lib.itoa c.params, Lib.itoa c.regs, pack (c.ops.map opS)]) (k := 2) rfl
set_option maxHeartbeats 1600000 in
set_option maxRecDepth 100000 in
theorem code_any (x : CdF) (v : Value) (w : World) (he : Env w) (hT : CodeV w (Lt w.heap.size) v x) (hf : x.fits) (hsz : (cdS x).length ≤ 1000000000) :
    Calls Tryd.prog 12 #[v] w fun e w' => e = .returned (sv (cdS x)) ∧ Below w.heap.size w w' := by
  obtain ⟨ov, rfl, A, c, vs, rfl, hvs, hrow⟩ := hT
  obtain ⟨xp, xr, xo⟩ := x
  simp only at hvs
  subst hvs
  have HE := Lib.hid he
  have HSZ := Lib.hid hsz
  have HR := Lib.hid hrow
  have hfp := hf.1
  have hfr := hf.2.1
  have HF : Hid (∀ u ∈ vs, u.o.fits) := Lib.hid fun u hu => hf.2.2 _ (List.mem_map.2 ⟨u, hu, rfl⟩)
  simp only at hfp hfr
  obtain ⟨n, hn⟩ : ∃ n, n = vs.length := ⟨_, rfl⟩
  rw [← hn]
  have HN := Lib.hid hn
  clear he hsz hrow hf hn
  go_enter Tryd.func12, Tryd.ntmps12
  go_wp2_with fail
  have hc0 : AtCells [(⟨w.heap.size, 0, none⟩, iv xp), (⟨w.heap.size, 1, none⟩, iv xr), (⟨w.heap.size, 2, none⟩, .slice A n c)] (w.alloc (.cells #[iv xp, iv xr, .slice A n c] 37)).drew := by
    have hh := alloc1 w (.cells #[iv xp, iv xr, .slice A n c] 37)
    refine ⟨?_, ?_, ?_, trivial⟩ <;> exact (Lib.cell_of_heap hh _).trans rfl
  have HS0 := Lib.hid hc0
  have HB0 : Hid (Below w.heap.size w (w.alloc (.cells #[iv xp, iv xr, .slice A n c] 37)).drew) := Lib.hid (((Below.refl _ _).alloc (Nat.le_refl _) _).drew)
  clear hc0
  refine wp_region_mix (AtCells [(⟨w.heap.size, 0, none⟩, iv xp), (⟨w.heap.size, 1, none⟩, iv xr), (⟨w.heap.size, 2, none⟩, .slice A n c)]) [(true, 0), (true, 1), (true, 3), (true, 4), (true, 6), (true, 7), (false, 2), (false, 5), (false, 8), (false, 9), (false, 10)] [11] (by kernel_rfl) (by kernel_rfl) HS0.out ?ha
  case ha =>
  simp only [mixAt, List.filterMap_cons, List.filterMap_nil, List.getElem?_toArray, List.getElem?_cons_succ, List.getElem?_cons_zero, Option.map_some]
  refine wpMix_load ?vaa0 rfl (fun w' hS => ?yaa0) ?kaa0
  case yaa0 =>
    obtain ⟨g0, g1, g2, _⟩ := hS
    go_simp
    try rfl
  case kaa0 =>
  go_simp
  refine wpMix_load ?vaa1 rfl (fun w' hS => ?yaa1) ?kaa1
  case yaa1 =>
    obtain ⟨g0, g1, g2, _⟩ := hS
    go_simp
    try rfl
  case kaa1 =>
  go_simp
  refine wpMix_load ?vaa2 rfl (fun w' hS => ?yaa2) ?kaa2
  case yaa2 =>
    obtain ⟨g0, g1, g2, _⟩ := hS
    go_simp
    try rfl
  case kaa2 =>
  go_simp
  refine wpMix_load ?vaa3 rfl (fun w' hS => ?yaa3) ?kaa3
  case yaa3 =>
    obtain ⟨g0, g1, g2, _⟩ := hS
    go_simp
    try rfl
  case kaa3 =>
  go_simp
  refine wpMix_load ?vaa4 rfl (fun w' hS => ?yaa4) ?kaa4
  case yaa4 =>
    obtain ⟨g0, g1, g2, _⟩ := hS
    go_simp
    try rfl
  case kaa4 =>
  go_simp
  refine wpMix_load ?vaa5 rfl (fun w' hS => ?yaa5) ?kaa5
  case yaa5 =>
    obtain ⟨g0, g1, g2, _⟩ := hS
    go_simp
    try rfl
  case kaa5 =>
  go_simp
  refine wpMix_keep rfl ?_
  go_wp2_with fail
  refine (itoa_b xp _ (by exact hfp.1) (by exact hfp.2) (HE.out.below HB0.out)).mono ?_
  rintro e w1 ⟨rfl, hb2⟩
  refine ⟨HS0.out.below hb2, ?_⟩
  have HS1 := Lib.hid (HS0.out.below hb2)
  have HB1 := Lib.hid (HB0.out.trans (hb2.mono HB0.out.size))
  clear hb2 HS0
  refine wpMix_keep rfl ?_
  go_wp2_with fail
  refine (itoa_b xr _ (by exact hfr.1) (by exact hfr.2) (HE.out.below HB1.out)).mono ?_
  rintro e w2 ⟨rfl, hb2⟩
  refine ⟨HS1.out.below hb2, ?_⟩
  have HS2 := Lib.hid (HS1.out.below hb2)
  have HB2 := Lib.hid (HB1.out.trans (hb2.mono HB1.out.size))
  clear hb2 HS1
  refine wpMix_keep rfl ?_
  go_wp2_with fail
  rw [HN.out]
  refine (eachOp_any vs A c w2 (HE.out.below HB2.out) ((HR.out.keep (kept_below HB2.out)).more fun _ hy => Nat.lt_of_lt_of_le hy HB2.out.size) HF.out (Nat.le_trans (ops_le ⟨xp, xr, vs.map OV.o⟩) HSZ.out)).mono ?_
  rintro e w5 ⟨rfl, hb5⟩
  rw [← HN.out]
  refine ⟨HS2.out.below hb5, ?_⟩
  have HS5 := Lib.hid (HS2.out.below hb5)
  have HB5 := Lib.hid (HB2.out.trans (hb5.mono HB2.out.size))
  clear hb5 HS2
  obtain ⟨os, hos⟩ : ∃ os, os = pack ((vs.map OV.o).map opS) := ⟨_, rfl⟩
  rw [← hos]
  have hSZ : (pack [Lib.itoa xp, Lib.itoa xr, os]).length ≤ 1000000000 := by rw [hos]; exact HSZ.out
  have HQ : Hid (cdS ⟨xp, xr, vs.map OV.o⟩ = pack [Lib.itoa xp, Lib.itoa xr, os]) := Lib.hid (by rw [hos]; rfl)
  clear hos
  refine wpMix_keep rfl ?_
  go_wp2_with fail
  refine ⟨HS5.out.below ((Below.refl _ _).alloc (Nat.le_refl _) _), ?_⟩
  have HS6 := Lib.hid (HS5.out.below ((Below.refl _ w5).alloc (Nat.le_refl _) (.cells #[sv (Lib.itoa xp), sv (Lib.itoa xr), sv os] 9)))
  have HB6 := Lib.hid (HB5.out.alloc HB5.out.size (.cells #[sv (Lib.itoa xp), sv (Lib.itoa xr), sv os] 9))
  have hS : Strs (w5.alloc (.cells #[sv (Lib.itoa xp), sv (Lib.itoa xr), sv os] 9)) (w5.heap.size + 1) (some ⟨w5.heap.size, 0, none⟩) 3 [Lib.itoa xp, Lib.itoa xr, os] := strsNew w5 9 [Lib.itoa xp, Lib.itoa xr, os]
  refine wpMix_keep rfl ?_
  go_wp2_with fail
  refine (pack_any _ 3 3 _ _ _ (HE.out.below HB6.out) hS (by simp) hSZ (by decide)).mono ?_
  rintro e w7 ⟨rfl, hb7⟩
  refine ⟨HS6.out.below hb7, ?_⟩
  have HB7 := Lib.hid (HB6.out.trans (hb7.mono HB6.out.size))
  clear hb7 hS HS6 HS5
  refine wpMix_nil ?_
  simp only [opsAt, List.filterMap_cons, List.filterMap_nil, List.getElem?_toArray, List.getElem?_cons_succ, List.getElem?_cons_zero]
  go_wp2
  refine NoPanic.normal ?_
  go_wp2
  go_ret
  rw [HQ.out]
  exact ⟨rfl, HB7.out⟩
end Go.Proofs.YtkggmckfdkpldaaDoor
