/-
  The walk of ref10.ReadCode.
  Conditions: texts of at most 10^9 bytes.
-/
import Derived.Test.YtkggmckfdkpldaaDoorFcZ
import Derived.Test.YtkggmckfdkpldaaDoorBld
import Derived.Test.YtkggmckfdkpldaaDoorBtwk
namespace Go.Proofs.YtkggmckfdkpldaaDoor
open Go.RowKit

theorem cdR_no {s : List UInt8} (h : ∀ L, s = pack L → L.length ≠ 3) : cdR s = (CdF.zero, false) := by
  rcases unpk_cases s with ⟨L, rfl, hu⟩ | ⟨_, hu⟩
  · have h3 := h L rfl
    unfold cdR
    rw [hu]
    split
    · rename_i e
      rw [(Prod.mk.inj e).1] at h3
      exact absurd rfl h3
    · rfl
  · unfold cdR
    rw [hu]
theorem cdR_pack (x0 x1 x2 : List UInt8) : cdR (pack [x0, x1, x2]) = if (numv x0).2 = true ∧ (numv x1).2 = true ∧ (rdList opR x2).2 = true then (⟨(numv x0).1, (numv x1).1, (rdList opR x2).1⟩, true) else (CdF.zero, false) := by
  unfold cdR
  rw [unpk_pack]
theorem opR_no {s : List UInt8} (h : ∀ L, s = pack L → L.length ≠ 6) : opR s = (OpF.zero, false) := by
  rcases unpk_cases s with ⟨L, rfl, hu⟩ | ⟨_, hu⟩
  · have h3 := h L rfl
    unfold opR
    rw [hu]
    split
    · rename_i e
      rw [(Prod.mk.inj e).1] at h3
      exact absurd rfl h3
    · rfl
  · unfold opR
    rw [hu]
theorem opR_pack (k a b c l y : List UInt8) : opR (pack [k, a, b, c, l, y]) = if (numv k).2 = true ∧ (numv a).2 = true ∧ (numv b).2 = true ∧ (numv c).2 = true ∧ (rdList numv l).2 = true then (⟨(numv k).1, (numv a).1, (numv b).1, (numv c).1, (rdList numv l).1, y⟩, true) else (OpF.zero, false) := by
  unfold opR
  rw [unpk_pack]
theorem OpsAt.set {B cb o : Nat} {w : World} {v x : Value} {vs : List OV} (h : OpsAt B w v vs) (hc : cb < B) : OpsAt B (w.setCell ⟨cb, o, none⟩ x) v vs := by
  have hk := setKp cb o w x
  refine ⟨hk.own h.own fun g hg e => ?_, fun u hu => ((h.each u hu).keep (hk.kept fun b hb => ⟨hb.2.1, fun e => ?_⟩)).more fun b hb => ⟨hb.1, Nat.lt_of_lt_of_le hb.2.1 hk.size, hb.2.2⟩⟩
  · have := h.own.lt g hg
    omega
  · have := hb.1
    omega
set_option maxHeartbeats 3200000 in
set_option maxRecDepth 100000 in
theorem refReadCode_any (s : List UInt8) (w : World) (hs : s.length ≤ 1000000000) :
    Calls Tryd.prog 18 #[sv s] w (ReadCodeRes s w) := by
  obtain ⟨i0, hi, hz0, hz1, hz2⟩ := info_parts infoOp
  obtain ⟨wa, hwa⟩ : ∃ wa, wa = w.alloc (.cells #[.int .i64 0, .int .i64 0, .slice none 0 0] 37) := ⟨_, rfl⟩
  have hba : Below w.heap.size w wa := by rw [hwa]; exact (Below.refl _ _).alloc (Nat.le_refl _) _
  have HA : Hid (wa.heap[w.heap.size]? = some (.cells #[.int .i64 0, .int .i64 0, .slice none 0 0] 37 (0, 0))) := Lib.hid (by rw [hwa]; exact alloc1 _ _)
  have HZA : Hid (wa.heap.size = w.heap.size + 1) := Lib.hid (by rw [hwa]; simp)
  have HBA := Lib.hid hba
  have HP := Lib.hid (parts_any s 3 wa hs (by decide))
  clear hba
  go_enter Tryd.func18, Tryd.ntmps18
  go_wp2_with fail
  rw [← hwa]
  refine HP.out.mono ?_
  rintro e w1 ⟨hend, hb⟩
  have HB1 := Lib.hid hb
  clear hwa hb HP
  rcases hend with ⟨L, A, c, hsp, hL, rfl, hrow⟩ | ⟨hno, lv, rfl⟩
  · obtain ⟨x0, x1, x2, rfl⟩ := three hL
    have hle : ∀ (k : Nat) (x : List UInt8), [x0, x1, x2][k]? = some x → x.length ≤ 1000000000 := fun k x hx => by
      have := pack_elem hx
      rw [hsp] at hs
      omega
    have HX0 := Lib.hid (hle 0 x0 rfl)
    have HX1 := Lib.hid (hle 1 x1 rfl)
    have HX2 := Lib.hid (hle 2 x2 rfl)
    have HSP := Lib.hid hsp
    obtain ⟨ad, rfl, hadS, hc⟩ := hrow.addr (by simp)
    have q0 : w1.cell? ad = some (sv x0) := hc 0 _ rfl
    have q1 : w1.cell? ⟨ad.block, ad.off + 1, none⟩ = some (sv x1) := hc 1 _ rfl
    have q2 : w1.cell? ⟨ad.block, ad.off + 2, none⟩ = some (sv x2) := hc 2 _ rfl
    have hc0 : AtCells [(ad, sv x0), (⟨ad.block, ad.off + 1, none⟩, sv x1), (⟨ad.block, ad.off + 2, none⟩, sv x2)] w1.drew := ⟨q0, q1, q2, trivial⟩
    have HS0 := Lib.hid hc0
    clear hsp hL hle hc hrow hs hc0 q0 q1 q2
    go_wp2_with fail
    refine wp_region_mix (AtCells [(ad, sv x0), (⟨ad.block, ad.off + 1, none⟩, sv x1), (⟨ad.block, ad.off + 2, none⟩, sv x2)]) [(true, 0), (true, 1), (true, 2), (true, 3), (true, 4), (true, 5), (false, 6), (false, 7), (true, 8), (true, 9), (true, 10), (true, 11)] [12] (by kernel_rfl) (by kernel_rfl) HS0.out ?ha
    case ha =>
    simp only [mixAt, List.filterMap_cons, List.filterMap_nil, List.getElem?_toArray, List.getElem?_cons_succ, List.getElem?_cons_zero, Option.map_some]
    refine wpMix_load ?vaa0 rfl (fun w' hS => ?yaa0) ?kaa0
    case yaa0 =>
      obtain ⟨g0, g1, g2, _⟩ := hS
      go_simp
      try rfl
    case kaa0 =>
    go_simp
    refine wpMix_load ?vaa1 rfl (fun w' hS => ?yaa1) ?kaa1
    case yaa1 =>
      obtain ⟨g0, g1, g2, _⟩ := hS
      go_simp
      try rfl
    case kaa1 =>
    go_simp
    refine wpMix_load ?vaa2 rfl (fun w' hS => ?yaa2) ?kaa2
    case yaa2 =>
      obtain ⟨g0, g1, g2, _⟩ := hS
      go_simp
      try rfl
    case kaa2 =>
    go_simp
    refine wpMix_load ?vaa3 rfl (fun w' hS => ?yaa3) ?kaa3
    case yaa3 =>
      obtain ⟨g0, g1, g2, _⟩ := hS
      go_simp
      try rfl
    case kaa3 =>
    go_simp
    refine wpMix_load ?vaa4 rfl (fun w' hS => ?yaa4) ?kaa4
    case yaa4 =>
      obtain ⟨g0, g1, g2, _⟩ := hS
      go_simp
      try rfl
    case kaa4 =>
    go_simp
    refine wpMix_load ?vaa5 rfl (fun w' hS => ?yaa5) ?kaa5
    case yaa5 =>
      obtain ⟨g0, g1, g2, _⟩ := hS
      go_simp
      try rfl
    case kaa5 =>
    go_simp
    refine wpMix_keep rfl ?_
    go_wp2_with fail
    refine ⟨HS0.out.below ((Below.refl _ _).alloc (Nat.le_refl _) _), ?_⟩
    have HS1 := Lib.hid (HS0.out.below ((Below.refl _ w1.drew).alloc (Nat.le_refl _) (.cells #[sv x0, sv x1] 9)))
    have HB2 := Lib.hid (HB1.out.drew.alloc HB1.out.drew.size (.cells #[sv x0, sv x1] 9))
    have hN : Row (w1.drew.alloc (.cells #[sv x0, sv x1] 9)) (Lt (w1.drew.alloc (.cells #[sv x0, sv x1] 9)).heap.size) (some ⟨w1.drew.heap.size, 0, none⟩) ([x0, x1].map sv) := row_heap (alloc1 _ _) rfl (by unfold Lt; simp)
    refine wpMix_keep rfl ?_
    go_wp2_with fail
    refine (some_any [x0, x1] _ 2 _ hN (by simpa using ⟨HX0.out, HX1.out⟩) (by simp)).mono ?_
    rintro e w2 ⟨nv, ga, rfl, hga, hI, hb2⟩
    refine ⟨HS1.out.below hb2, ?_⟩
    have HS2 := Lib.hid (HS1.out.below hb2)
    have HB3 := Lib.hid (HB2.out.trans (hb2.mono HB2.out.size))
    have HGA := Lib.hid hga
    have HIN := Lib.hid hI
    have HBI : Hid (wa.heap.size ≤ (w1.drew.alloc (.cells #[sv x0, sv x1] 9)).heap.size) := Lib.hid HB2.out.size
    clear hb2 hga hI hN HS1 HB2 HS0 HB1
    refine wpMix_load ?vab0 rfl (fun w' hS => ?yab0) ?kab0
    case yab0 =>
      obtain ⟨g0, g1, g2, _⟩ := hS
      go_simp
      try rfl
    case kab0 =>
    go_simp
    refine wpMix_load ?vab1 rfl (fun w' hS => ?yab1) ?kab1
    case yab1 =>
      obtain ⟨g0, g1, g2, _⟩ := hS
      go_simp
      try rfl
    case kab1 =>
    go_simp
    refine wpMix_load ?vab2 rfl (fun w' hS => ?yab2) ?kab2
    case yab2 =>
      obtain ⟨g0, g1, g2, _⟩ := hS
      go_simp
      try rfl
    case kab2 =>
    go_simp
    refine wpMix_load ?vab3 rfl (fun w' hS => ?yab3) ?kab3
    case yab3 =>
      obtain ⟨g0, g1, g2, _⟩ := hS
      go_simp
      try rfl
    case kab3 =>
    go_simp
    refine wpMix_nil ?_
    simp only [opsAt, List.filterMap_cons, List.filterMap_nil, List.getElem?_toArray, List.getElem?_cons_succ, List.getElem?_cons_zero]
    go_wp2_with fail
    refine NoPanic.normal ?_
    obtain ⟨q0, q1, q2, _⟩ := HS2.out
    simp only at q0 q1 q2
    go_wp2_with fail
    refine (refUnpack_any x2 w2 HX2.out).mono ?_
    rintro e w3 ⟨hend, hb3⟩
    have HBZ := Lib.hid (HB3.out.trans (hb3.mono HB3.out.size))
    have HB23 := Lib.hid hb3
    clear hb3 q0 q1 q2
    rcases hend with ⟨Lo, v, hxo, rfl, hown⟩ | ⟨hno, rfl⟩
    · have HXO := Lib.hid hxo
      have HLO : Hid (Lo.length ≤ 1000000000) := Lib.hid (by have := pack_count Lo; have := HX2.out; rw [hxo] at this; omega)
      obtain ⟨LA, lc, rfl, _⟩ := own_slice hown
      have hst : Row w3 (Lt w3.heap.size) LA (Lo.map sv) := Row.ofOwn hown fun _ _ _ h => h
      have HST := Lib.hid hst
      clear hxo hown hst
      cases ga with
      | false =>
        have HRZ : cdR s = (CdF.zero, false) := by
          rw [HSP.out, cdR_pack, if_neg]
          rintro ⟨h0, h1, _⟩
          have := HGA.out.2 (by simpa using ⟨h0, h1⟩)
          cases this
        obtain ⟨m, hm⟩ : ∃ m, m = Lo.length := ⟨_, rfl⟩
        rw [← hm]
        clear hm
        have hh := (HBZ.out.block w.heap.size (by rw [HZA.out]; omega)).trans HA.out
        have z0 : w3.cell? ⟨w.heap.size, 0, none⟩ = some (.int .i64 0) := (Lib.cell_of_heap hh _).trans rfl
        have f0 : w3.frozen? ⟨w.heap.size, 0, none⟩ = false := Lib.frozen_of_heap hh 0
        have z1 : w3.cell? ⟨w.heap.size, 1, none⟩ = some (.int .i64 0) := (Lib.cell_of_heap hh _).trans rfl
        have f1 : w3.frozen? ⟨w.heap.size, 1, none⟩ = false := Lib.frozen_of_heap hh 1
        have z2 : w3.cell? ⟨w.heap.size, 2, none⟩ = some (.slice none 0 0) := (Lib.cell_of_heap hh _).trans rfl
        have f2 : w3.frozen? ⟨w.heap.size, 2, none⟩ = false := Lib.frozen_of_heap hh 2
        clear hh
        go_wp2
        refine bodyPost_ret (v := .tuple #[cdZ, .bool false]) (by simp [results, Tryd.results18, go_sem, z0, z1, z2]; try rfl) rfl ?_
        have hk := keep3 w3 w.heap.size (.int .i64 0) (.int .i64 0) (.slice none 0 0)
        have hbf := kpBelow (HBA.out.trans (HBZ.out.mono HBA.out.size)) hk (fun y e => by rw [e]; exact Nat.le_refl _)
        unfold ReadCodeRes
        rw [HRZ]
        exact ⟨.slice none 0 0, rfl, OpsV.nil _ _, hbf⟩
      | true =>
        obtain ⟨NA, nc, hnv, hnr⟩ := HIN.out rfl
        simp only [List.map_cons, List.map_nil, List.length_cons, List.length_nil] at hnv hnr
        subst hnv
        obtain ⟨na, rfl, hnS, hnc⟩ := hnr.addr (by simp)
        have n0 : w2.cell? na = some (iv (numv x0).1) := hnc 0 _ rfl
        have n1 : w2.cell? ⟨na.block, na.off + 1, none⟩ = some (iv (numv x1).1) := hnc 1 _ rfl
        obtain ⟨h0, h1⟩ : (numv x0).2 = true ∧ (numv x1).2 = true := by simpa using HGA.out.1 rfl
        have HRO : Hid (cdR s = if (rdList opR x2).2 = true then (⟨(numv x0).1, (numv x1).1, (rdList opR x2).1⟩, true) else (CdF.zero, false)) := Lib.hid (by rw [HSP.out, cdR_pack]; simp only [h0, h1, true_and])
        obtain ⟨z0, hz0'⟩ : ∃ z, z = (numv x0).1 := ⟨_, rfl⟩
        obtain ⟨z1, hz1'⟩ : ∃ z, z = (numv x1).1 := ⟨_, rfl⟩
        rw [← hz0', ← hz1'] at HRO
        rw [← hz0'] at n0
        rw [← hz1'] at n1
        have hc3 : AtCells [(na, iv z0), (⟨na.block, na.off + 1, none⟩, iv z1)] w3.drew := ⟨(HB23.out.cell (p := na) hnS.2).trans n0, (HB23.out.cell (p := ⟨na.block, na.off + 1, none⟩) hnS.2).trans n1, trivial⟩
        have HS3 := Lib.hid hc3
        obtain ⟨m, hm⟩ : ∃ m, m = Lo.length := ⟨_, rfl⟩
        rw [← hm] at HLO ⊢
        have HM := Lib.hid hm
        have hm9 := HLO.out
        clear hnr hnc n0 n1 hz0' hz1' h0 h1 hm hc3 HIN HGA
        go_wp2_with fail
        refine wp_region_loads (AtCells [(na, iv z0), (⟨na.block, na.off + 1, none⟩, iv z1)]) [0, 1, 2, 3, 4, 5, 6] [8] 2 (by kernel_rfl) (by kernel_rfl) (by kernel_rfl) HS3.out ?hb
        case hb =>
        simp only [opsAt, List.filterMap_cons, List.filterMap_nil, List.getElem?_toArray, List.getElem?_cons_succ, List.getElem?_cons_zero]
        refine wpLoad_step ?vac0 rfl (fun w' hS => ?yac0) ?kac0
        case yac0 =>
          obtain ⟨g0, g1, _⟩ := hS
          go_simp
          try rfl
        case kac0 =>
        go_simp
        refine wpLoad_step ?vac1 rfl (fun w' hS => ?yac1) ?kac1
        case yac1 =>
          obtain ⟨g0, g1, _⟩ := hS
          go_simp
          try rfl
        case kac1 =>
        go_simp
        refine wpLoad_step ?vac2 rfl (fun w' hS => ?yac2) ?kac2
        case yac2 =>
          obtain ⟨g0, g1, _⟩ := hS
          go_simp
          try rfl
        case kac2 =>
        go_simp
        refine wpLoad_step ?vac3 rfl (fun w' hS => ?yac3) ?kac3
        case yac3 =>
          obtain ⟨g0, g1, _⟩ := hS
          go_simp
          try rfl
        case kac3 =>
        go_simp
        refine wpLoad_step ?vac4 rfl (fun w' hS => ?yac4) ?kac4
        case yac4 =>
          obtain ⟨g0, g1, _⟩ := hS
          go_simp
          try rfl
        case kac4 =>
        go_simp
        refine wpLoad_step ?vac5 rfl (fun w' hS => ?yac5) ?kac5
        case yac5 =>
          obtain ⟨g0, g1, _⟩ := hS
          go_simp
          try rfl
        case kac5 =>
        go_simp
        refine wpLoad_step ?vac6 rfl (fun w' hS => ?yac6) ?kac6
        case yac6 =>
          obtain ⟨g0, g1, _⟩ := hS
          go_simp
          try rfl
        case kac6 =>
        go_simp
        refine wpLoad_nil ?_
        refine wpSa_one (n := 1) (k := 7) (by kernel_rfl) ?_
        refine wpOp_go rfl rfl ?_
        go_simp
        refine ⟨HS3.out.below (w' := (w3.drew.alloc _)) ((Below.refl _ _).alloc (Nat.le_refl _) _), ?_⟩
        obtain ⟨wb, hwb⟩ : ∃ wb, wb = (w3.alloc (.cells #[.int .i64 0, .int .i64 0, .slice none 0 0] 37)).drew := ⟨_, rfl⟩
        have hbb : Below w3.heap.size w3 wb := by rw [hwb]; exact ((Below.refl _ _).alloc (Nat.le_refl _) _).drew
        have hhb : wb.heap[w3.heap.size]? = some (.cells #[.int .i64 0, .int .i64 0, .slice none 0 0] 37 (0, 0)) := by rw [hwb]; exact alloc1 _ _
        have c0 : wb.cell? ⟨w3.heap.size, 0, none⟩ = some (.int .i64 0) := (Lib.cell_of_heap hhb _).trans rfl
        have f0 : wb.frozen? ⟨w3.heap.size, 0, none⟩ = false := Lib.frozen_of_heap hhb 0
        have c1 : wb.cell? ⟨w3.heap.size, 1, none⟩ = some (.int .i64 0) := (Lib.cell_of_heap hhb _).trans rfl
        have f1 : wb.frozen? ⟨w3.heap.size, 1, none⟩ = false := Lib.frozen_of_heap hhb 1
        have c2 : wb.cell? ⟨w3.heap.size, 2, none⟩ = some (.slice none 0 0) := (Lib.cell_of_heap hhb _).trans rfl
        have f2 : wb.frozen? ⟨w3.heap.size, 2, none⟩ = false := Lib.frozen_of_heap hhb 2
        have HBB := Lib.hid hbb
        have HHB := Lib.hid hhb
        clear hbb hhb
        refine wpSa_one (n := 0) (k := 8) (by kernel_rfl) ?_
        refine wpOp_go rfl rfl ?_
        rw [← hwb]
        clear hwb
        go_simp
        refine wpSa_end (by kernel_rfl) ?_
        refine NoPanic.normal ?_
        have hkc := keep3 wb w3.heap.size (iv z0) (iv z1) (.slice none 0 0)
        have hhc := setCell_heap (b := w3.heap.size) (o := 2) (v := .slice none 0 0) (setCell_heap (b := w3.heap.size) (o := 1) (v := iv z1) (setCell_heap (b := w3.heap.size) (o := 0) (v := iv z0) HHB.out))
        obtain ⟨wc, hwc⟩ : ∃ wc, wc = ((wb.setCell ⟨w3.heap.size, 0, none⟩ (iv z0)).setCell ⟨w3.heap.size, 1, none⟩ (iv z1)).setCell ⟨w3.heap.size, 2, none⟩ (.slice none 0 0) := ⟨_, rfl⟩
        rw [← hwc] at hkc hhc ⊢
        have hhc2 : wc.heap[w3.heap.size]? = some (.cells #[iv z0, iv z1, .slice none 0 0] 37 (0, 0)) := hhc.trans (by simp)
        have HKC := Lib.hid hkc
        have HHC := Lib.hid hhc2
        have HLT : Hid (w3.heap.size < wc.heap.size) := Lib.hid (lt_of_heap hhc2)
        obtain ⟨cb, hcb⟩ : ∃ cb, cb = w3.heap.size := ⟨_, rfl⟩
        have HCB : Hid (w3.heap.size ≤ cb) := Lib.hid (Nat.le_of_eq hcb.symm)
        have HSTC : Hid (Row wc (fun b => b < wc.heap.size ∧ b ≠ cb) LA (Lo.map sv)) := Lib.hid (((HST.out.keep (kept_below HBB.out)).keep (hkc.kept fun b hb => ⟨Nat.lt_of_lt_of_le hb HBB.out.size, Nat.ne_of_lt hb⟩)).more fun b hb => ⟨Nat.lt_trans hb HLT.out, by rw [hcb]; exact Nat.ne_of_lt hb⟩)
        have HBC : Hid (Below wa.heap.size wa wc) := Lib.hid (kpBelow (HBZ.out.trans (HBB.out.mono HBZ.out.size)) hkc (fun y e => by rw [e]; exact HBZ.out.size))
        rw [← hcb] at HHC HKC HLT hwc ⊢
        clear hhc hhc2 hwc hkc c0 c1 c2 f0 f1 f2 hcb HST HKC HHB HBB HB23 HS2 HS3
        go_wp2_with fail
        go_loopw [11] (fun i wr => ∃ (k : Nat) (vs : List OV) (v : Value), k ≤ m ∧ i = .int .i64 k ∧ vs.length = k ∧ vs.map OV.o = (Lo.take k).map (fun x => (opR x).1) ∧ OpsAt wc.heap.size wr v vs ∧ (∀ x ∈ Lo.take k, (opR x).2 = true) ∧ wr.heap[cb]? = some (.cells #[iv z0, iv z1, v] 37 (0, 0)) ∧ Kp (fun y => y = cb) wc wr) (fun i _ => m - (intOf i).toNat)
        case atStart => exact ⟨0, [], .slice none 0 0, Nat.zero_le _, rfl, rfl, rfl, ⟨World.ownsRow_nil _ _ _ _, by simp⟩, (fun x h => by simp at h), HHC.out, Kp.refl _ _⟩
        case round =>
          obtain ⟨k, vs, v, hk, rfl, hvl, hvm, hown, hall, hhc, hkp⟩ := hrel
          have HKP := Lib.hid hkp
          have HHR := Lib.hid hhc
          have HO := Lib.hid hown
          have HAL := Lib.hid hall
          have HVM := Lib.hid hvm
          have HVL := Lib.hid hvl
          have HBW : Hid (Below wa.heap.size wa wr) := Lib.hid (kpBelow HBC.out hkp (fun y e => by rw [e]; exact Nat.le_trans HBZ.out.size HCB.out))
          obtain ⟨OA, oc, rfl, _⟩ := own_slice hown.own
          clear hall hvm hvl hown hkp
          by_cases hlt : k < m
          · obtain ⟨x, hx⟩ : ∃ x, Lo[k]? = some x := ⟨_, List.getElem?_eq_getElem (by rw [← HM.out]; exact hlt)⟩
            obtain ⟨la, hLA, hlaS, a0⟩ := (HSTC.out.keep (HKP.out.kept fun b hb => hb)).at_ (k := k) (u := sv x) (by simp [hx])
            have hxl : x.length ≤ 1000000000 := Nat.le_trans (by rw [HXO.out]; exact pack_elem hx) HX2.out
            have HX := Lib.hid hx
            have HXM := Lib.hid (List.mem_of_getElem? hx)
            have HLA := Lib.hid hLA
            have HXL := Lib.hid hxl
            rw [hLA]
            have HCL := Lib.hid (parts_any x 6 wr hxl (by decide))
            have hik : (0 : Int) ≤ (k : Int) ∧ (k : Int) < (m : Int) := ⟨by omega, by omega⟩
            clear hLA hx hxl hlaS hhc
            go_wp2_with fail
            refine HCL.out.mono ?_
            rintro e w4 ⟨hend, hb4⟩
            have HB4 := Lib.hid hb4
            have HBZ4 : Hid (Below wa.heap.size wa w4) := Lib.hid (HBW.out.trans (hb4.mono HBW.out.size))
            clear hb4 HCL a0
            rcases hend with ⟨Lq, QA, qc, hxq, hLq, rfl, hqr⟩ | ⟨hno, lv, rfl⟩
            · obtain ⟨y0, y1, y2, y3, y4, y5, rfl⟩ := six hLq
              have hle : ∀ (k : Nat) (y : List UInt8), [y0, y1, y2, y3, y4, y5][k]? = some y → y.length ≤ 1000000000 := fun k y hy => by
                have := pack_elem hy
                have := HXL.out
                rw [hxq] at this
                omega
              have HY4 := Lib.hid (hle 4 y4 rfl)
              have HY : Hid (∀ y ∈ [y0, y1, y2, y3], y.length ≤ 1000000000) := Lib.hid (by simpa using ⟨hle 0 y0 rfl, hle 1 y1 rfl, hle 2 y2 rfl, hle 3 y3 rfl⟩)
              have HXQ := Lib.hid hxq
              obtain ⟨qa, rfl, hqS, hqc⟩ := hqr.addr (by simp)
              have hc4 : AtCells [(qa, sv y0), (⟨qa.block, qa.off + 1, none⟩, sv y1), (⟨qa.block, qa.off + 2, none⟩, sv y2), (⟨qa.block, qa.off + 3, none⟩, sv y3), (⟨qa.block, qa.off + 4, none⟩, sv y4), (⟨qa.block, qa.off + 5, none⟩, sv y5)] w4.drew := ⟨hqc 0 _ rfl, hqc 1 _ rfl, hqc 2 _ rfl, hqc 3 _ rfl, hqc 4 _ rfl, hqc 5 _ rfl, trivial⟩
              have HS4 := Lib.hid hc4
              clear hc4 hqc hqr hle hxq hLq hqS
              go_wp2_with fail
              refine wp_region_mix (AtCells [(qa, sv y0), (⟨qa.block, qa.off + 1, none⟩, sv y1), (⟨qa.block, qa.off + 2, none⟩, sv y2), (⟨qa.block, qa.off + 3, none⟩, sv y3), (⟨qa.block, qa.off + 4, none⟩, sv y4), (⟨qa.block, qa.off + 5, none⟩, sv y5)]) [(true, 0), (true, 1), (true, 2), (true, 3), (true, 4), (true, 5), (true, 6), (true, 7), (true, 8), (true, 9), (true, 10), (true, 11), (false, 12), (false, 13), (true, 14), (true, 15), (true, 16), (true, 17)] [18] (by kernel_rfl) (by kernel_rfl) HS4.out ?hc
              case hc =>
              simp only [mixAt, List.filterMap_cons, List.filterMap_nil, List.getElem?_toArray, List.getElem?_cons_succ, List.getElem?_cons_zero, Option.map_some]
              refine wpMix_load ?vca0 rfl (fun w' hS => ?yca0) ?kca0
              case yca0 =>
                obtain ⟨g0, g1, g2, g3, g4, g5, _⟩ := hS
                go_simp
                try rfl
              case kca0 =>
              go_simp
              refine wpMix_load ?vca1 rfl (fun w' hS => ?yca1) ?kca1
              case yca1 =>
                obtain ⟨g0, g1, g2, g3, g4, g5, _⟩ := hS
                go_simp
                try rfl
              case kca1 =>
              go_simp
              refine wpMix_load ?vca2 rfl (fun w' hS => ?yca2) ?kca2
              case yca2 =>
                obtain ⟨g0, g1, g2, g3, g4, g5, _⟩ := hS
                go_simp
                try rfl
              case kca2 =>
              go_simp
              refine wpMix_load ?vca3 rfl (fun w' hS => ?yca3) ?kca3
              case yca3 =>
                obtain ⟨g0, g1, g2, g3, g4, g5, _⟩ := hS
                go_simp
                try rfl
              case kca3 =>
              go_simp
              refine wpMix_load ?vca4 rfl (fun w' hS => ?yca4) ?kca4
              case yca4 =>
                obtain ⟨g0, g1, g2, g3, g4, g5, _⟩ := hS
                go_simp
                try rfl
              case kca4 =>
              go_simp
              refine wpMix_load ?vca5 rfl (fun w' hS => ?yca5) ?kca5
              case yca5 =>
                obtain ⟨g0, g1, g2, g3, g4, g5, _⟩ := hS
                go_simp
                try rfl
              case kca5 =>
              go_simp
              refine wpMix_load ?vca6 rfl (fun w' hS => ?yca6) ?kca6
              case yca6 =>
                obtain ⟨g0, g1, g2, g3, g4, g5, _⟩ := hS
                go_simp
                try rfl
              case kca6 =>
              go_simp
              refine wpMix_load ?vca7 rfl (fun w' hS => ?yca7) ?kca7
              case yca7 =>
                obtain ⟨g0, g1, g2, g3, g4, g5, _⟩ := hS
                go_simp
                try rfl
              case kca7 =>
              go_simp
              refine wpMix_load ?vca8 rfl (fun w' hS => ?yca8) ?kca8
              case yca8 =>
                obtain ⟨g0, g1, g2, g3, g4, g5, _⟩ := hS
                go_simp
                try rfl
              case kca8 =>
              go_simp
              refine wpMix_load ?vca9 rfl (fun w' hS => ?yca9) ?kca9
              case yca9 =>
                obtain ⟨g0, g1, g2, g3, g4, g5, _⟩ := hS
                go_simp
                try rfl
              case kca9 =>
              go_simp
              refine wpMix_load ?vca10 rfl (fun w' hS => ?yca10) ?kca10
              case yca10 =>
                obtain ⟨g0, g1, g2, g3, g4, g5, _⟩ := hS
                go_simp
                try rfl
              case kca10 =>
              go_simp
              refine wpMix_load ?vca11 rfl (fun w' hS => ?yca11) ?kca11
              case yca11 =>
                obtain ⟨g0, g1, g2, g3, g4, g5, _⟩ := hS
                go_simp
                try rfl
              case kca11 =>
              go_simp
              refine wpMix_keep rfl ?_
              go_wp2_with fail
              refine ⟨HS4.out.below ((Below.refl _ _).alloc (Nat.le_refl _) _), ?_⟩
              have HS5 := Lib.hid (HS4.out.below ((Below.refl _ w4.drew).alloc (Nat.le_refl _) (.cells #[sv y0, sv y1, sv y2, sv y3] 9)))
              have HB5 := Lib.hid (HB4.out.drew.alloc HB4.out.drew.size (.cells #[sv y0, sv y1, sv y2, sv y3] 9))
              have hN : Row (w4.drew.alloc (.cells #[sv y0, sv y1, sv y2, sv y3] 9)) (Lt (w4.drew.alloc (.cells #[sv y0, sv y1, sv y2, sv y3] 9)).heap.size) (some ⟨w4.drew.heap.size, 0, none⟩) ([y0, y1, y2, y3].map sv) := row_heap (alloc1 _ _) rfl (by unfold Lt; simp)
              refine wpMix_keep rfl ?_
              go_wp2_with fail
              refine (some_any [y0, y1, y2, y3] _ 4 _ hN HY.out (by simp)).mono ?_
              rintro e w5 ⟨mv, ga, rfl, hga, hI, hb5⟩
              refine ⟨HS5.out.below hb5, ?_⟩
              have HS6 := Lib.hid (HS5.out.below hb5)
              have HB6 := Lib.hid (HB5.out.trans (hb5.mono HB5.out.size))
              have HGA := Lib.hid hga
              have HIM := Lib.hid hI
              clear hb5 hga hI hN HS5 HS4 HB4 HB5 HBZ4
              refine wpMix_load ?vcb0 rfl (fun w' hS => ?ycb0) ?kcb0
              case ycb0 =>
                obtain ⟨g0, g1, g2, g3, g4, g5, _⟩ := hS
                go_simp
                try rfl
              case kcb0 =>
              go_simp
              refine wpMix_load ?vcb1 rfl (fun w' hS => ?ycb1) ?kcb1
              case ycb1 =>
                obtain ⟨g0, g1, g2, g3, g4, g5, _⟩ := hS
                go_simp
                try rfl
              case kcb1 =>
              go_simp
              refine wpMix_load ?vcb2 rfl (fun w' hS => ?ycb2) ?kcb2
              case ycb2 =>
                obtain ⟨g0, g1, g2, g3, g4, g5, _⟩ := hS
                go_simp
                try rfl
              case kcb2 =>
              go_simp
              refine wpMix_load ?vcb3 rfl (fun w' hS => ?ycb3) ?kcb3
              case ycb3 =>
                obtain ⟨g0, g1, g2, g3, g4, g5, _⟩ := hS
                go_simp
                try rfl
              case kcb3 =>
              go_simp
              refine wpMix_nil ?_
              simp only [opsAt, List.filterMap_cons, List.filterMap_nil, List.getElem?_toArray, List.getElem?_cons_succ, List.getElem?_cons_zero]
              go_wp2_with fail
              refine NoPanic.normal ?_
              obtain ⟨q0, q1, q2, q3, q4, q5, _⟩ := HS6.out
              simp only at q0 q1 q2 q3 q4 q5
              go_wp2_with fail
              refine (refNumbers_any y4 w5 HY4.out).mono ?_
              rintro e w6 ⟨nv, rfl, hnI, hb6⟩
              have HB7 := Lib.hid (HB6.out.trans (hb6.mono HB6.out.size))
              have HB67 := Lib.hid hb6
              have HBZ6 : Hid (Below wa.heap.size wa w6) := Lib.hid (HBW.out.trans (HB7.out.mono HBW.out.size))
              have HNI := Lib.hid hnI
              clear hb6 q0 q1 q2 q3 q4 q5 hnI
              obtain ⟨gb, hgb⟩ : ∃ gb, gb = (rdList numv y4).2 := ⟨_, rfl⟩
              rw [← hgb]
              have HGB := Lib.hid hgb
              clear hgb
              cases ga with
              | false =>
                have HRZ : cdR s = (CdF.zero, false) := by
                  have e1 : (opR x).2 = false := by
                    rw [HXQ.out, opR_pack, if_neg]
                    rintro ⟨h0, h1, h2, h3, _⟩
                    have := HGA.out.2 (by simpa using ⟨h0, h1, h2, h3⟩)
                    cases this
                  rw [HRO.out, HXO.out, rdList_no HXM.out e1]
                  rfl
                have HBZ := HBZ6
                have hh := (HBZ.out.block w.heap.size (by rw [HZA.out]; omega)).trans HA.out
                have z0 : w6.cell? ⟨w.heap.size, 0, none⟩ = some (.int .i64 0) := (Lib.cell_of_heap hh _).trans rfl
                have f0 : w6.frozen? ⟨w.heap.size, 0, none⟩ = false := Lib.frozen_of_heap hh 0
                have z1 : w6.cell? ⟨w.heap.size, 1, none⟩ = some (.int .i64 0) := (Lib.cell_of_heap hh _).trans rfl
                have f1 : w6.frozen? ⟨w.heap.size, 1, none⟩ = false := Lib.frozen_of_heap hh 1
                have z2 : w6.cell? ⟨w.heap.size, 2, none⟩ = some (.slice none 0 0) := (Lib.cell_of_heap hh _).trans rfl
                have f2 : w6.frozen? ⟨w.heap.size, 2, none⟩ = false := Lib.frozen_of_heap hh 2
                clear hh
                go_wp2
                refine bodyPost_ret (v := .tuple #[cdZ, .bool false]) (by simp [results, Tryd.results18, go_sem, z0, z1, z2]; try rfl) rfl ?_
                have hk := keep3 w6 w.heap.size (.int .i64 0) (.int .i64 0) (.slice none 0 0)
                have hbf := kpBelow (HBA.out.trans (HBZ.out.mono HBA.out.size)) hk (fun y e => by rw [e]; exact Nat.le_refl _)
                unfold ReadCodeRes
                rw [HRZ]
                exact ⟨.slice none 0 0, rfl, OpsV.nil _ _, hbf⟩
              | true =>
                cases gb with
                | false =>
                  have HRZ : cdR s = (CdF.zero, false) := by
                    have e1 : (opR x).2 = false := by
                      rw [HXQ.out, opR_pack, if_neg]
                      rintro ⟨_, _, _, _, h4⟩
                      rw [← HGB.out] at h4
                      cases h4
                    rw [HRO.out, HXO.out, rdList_no HXM.out e1]
                    rfl
                  have HBZ := HBZ6
                  have hh := (HBZ.out.block w.heap.size (by rw [HZA.out]; omega)).trans HA.out
                  have z0 : w6.cell? ⟨w.heap.size, 0, none⟩ = some (.int .i64 0) := (Lib.cell_of_heap hh _).trans rfl
                  have f0 : w6.frozen? ⟨w.heap.size, 0, none⟩ = false := Lib.frozen_of_heap hh 0
                  have z1 : w6.cell? ⟨w.heap.size, 1, none⟩ = some (.int .i64 0) := (Lib.cell_of_heap hh _).trans rfl
                  have f1 : w6.frozen? ⟨w.heap.size, 1, none⟩ = false := Lib.frozen_of_heap hh 1
                  have z2 : w6.cell? ⟨w.heap.size, 2, none⟩ = some (.slice none 0 0) := (Lib.cell_of_heap hh _).trans rfl
                  have f2 : w6.frozen? ⟨w.heap.size, 2, none⟩ = false := Lib.frozen_of_heap hh 2
                  clear hh
                  go_wp2
                  refine bodyPost_ret (v := .tuple #[cdZ, .bool false]) (by simp [results, Tryd.results18, go_sem, z0, z1, z2]; try rfl) rfl ?_
                  have hk := keep3 w6 w.heap.size (.int .i64 0) (.int .i64 0) (.slice none 0 0)
                  have hbf := kpBelow (HBA.out.trans (HBZ.out.mono HBA.out.size)) hk (fun y e => by rw [e]; exact Nat.le_refl _)
                  unfold ReadCodeRes
                  rw [HRZ]
                  exact ⟨.slice none 0 0, rfl, OpsV.nil _ _, hbf⟩
                | true =>
                  obtain ⟨h0, h1, h2, h3⟩ : (numv y0).2 = true ∧ (numv y1).2 = true ∧ (numv y2).2 = true ∧ (numv y3).2 = true := by simpa using HGA.out.1 rfl
                  have hop : opR x = (⟨(numv y0).1, (numv y1).1, (numv y2).1, (numv y3).1, (rdList numv y4).1, y5⟩, true) := by
                    rw [HXQ.out, opR_pack, if_pos ⟨h0, h1, h2, h3, HGB.out.symm⟩]
                  obtain ⟨MA, mc, hmv, hmr⟩ := HIM.out rfl
                  simp only [List.map_cons, List.map_nil, List.length_cons, List.length_nil] at hmv hmr
                  subst hmv
                  obtain ⟨ma, rfl, hmS, hmc⟩ := hmr.addr (by simp)
                  have m0 : w5.cell? ma = some (iv (numv y0).1) := hmc 0 _ rfl
                  have m1 : w5.cell? ⟨ma.block, ma.off + 1, none⟩ = some (iv (numv y1).1) := hmc 1 _ rfl
                  have m2 : w5.cell? ⟨ma.block, ma.off + 2, none⟩ = some (iv (numv y2).1) := hmc 2 _ rfl
                  have m3 : w5.cell? ⟨ma.block, ma.off + 3, none⟩ = some (iv (numv y3).1) := hmc 3 _ rfl
                  obtain ⟨NL, nlc, hnv, hnlr⟩ := HNI.out
                  obtain ⟨o0, ho0⟩ : ∃ z, z = (numv y0).1 := ⟨_, rfl⟩
                  obtain ⟨o1, ho1⟩ : ∃ z, z = (numv y1).1 := ⟨_, rfl⟩
                  obtain ⟨o2, ho2⟩ : ∃ z, z = (numv y2).1 := ⟨_, rfl⟩
                  obtain ⟨o3, ho3⟩ : ∃ z, z = (numv y3).1 := ⟨_, rfl⟩
                  obtain ⟨ol, hol⟩ : ∃ l, l = (rdList numv y4).1 := ⟨_, rfl⟩
                  obtain ⟨p, hp⟩ : ∃ p, p = ol.length := ⟨_, rfl⟩
                  rw [← hol] at hnv hnlr hop
                  rw [← hp] at hnv
                  rw [← ho0] at hop m0
                  rw [← ho1] at hop m1
                  rw [← ho2] at hop m2
                  rw [← ho3] at hop m3
                  subst hnv
                  have HNL : Hid (IntsV w6 (Fr w5.heap.size w6.heap.size) (.slice NL p nlc) ol) := Lib.hid ⟨NL, nlc, by rw [hp], hnlr⟩
                  have HOP := Lib.hid hop
                  have hh6 : w6.heap[cb]? = some (.cells #[iv z0, iv z1, .slice OA vs.length oc] 37 (0, 0)) := (HB7.out.block cb (lt_of_heap HHR.out)).trans HHR.out
                  have hc6 : AtCells [(⟨cb, 2, none⟩, .slice OA vs.length oc), (ma, iv o0), (⟨ma.block, ma.off + 1, none⟩, iv o1), (⟨ma.block, ma.off + 2, none⟩, iv o2), (⟨ma.block, ma.off + 3, none⟩, iv o3), (⟨qa.block, qa.off + 5, none⟩, sv y5)] w6.drew :=
                    ⟨(Lib.cell_of_heap hh6 _).trans rfl, (HB67.out.cell (p := ma) hmS.2).trans m0, (HB67.out.cell (p := ⟨ma.block, ma.off + 1, none⟩) hmS.2).trans m1, (HB67.out.cell (p := ⟨ma.block, ma.off + 2, none⟩) hmS.2).trans m2, (HB67.out.cell (p := ⟨ma.block, ma.off + 3, none⟩) hmS.2).trans m3, (HS6.out.below HB67.out).2.2.2.2.2.1, trivial⟩
                  have HS7 := Lib.hid hc6
                  have HH6 := Lib.hid hh6
                  clear h0 h1 h2 h3 hmr hmc m0 m1 m2 m3 hnlr ho0 ho1 ho2 ho3 hol hp hh6 hc6 hop hmS HS6 HNI HIM HGA HGB HBZ6 HY4 HY
                  go_wp2_with fail
                  refine wp_region_mix (AtCells [(⟨cb, 2, none⟩, .slice OA vs.length oc), (ma, iv o0), (⟨ma.block, ma.off + 1, none⟩, iv o1), (⟨ma.block, ma.off + 2, none⟩, iv o2), (⟨ma.block, ma.off + 3, none⟩, iv o3), (⟨qa.block, qa.off + 5, none⟩, sv y5)]) [(true, 0), (true, 1), (true, 2), (true, 3), (true, 4), (true, 5), (true, 6), (true, 7), (true, 8), (true, 9), (true, 10), (true, 11), (true, 12), (true, 13), (true, 14), (true, 15), (true, 16), (true, 17), (true, 18), (false, 19)] [20, 21, 22] (by kernel_rfl) (by kernel_rfl) HS7.out ?hd
                  case hd =>
                  simp only [mixAt, List.filterMap_cons, List.filterMap_nil, List.getElem?_toArray, List.getElem?_cons_succ, List.getElem?_cons_zero, Option.map_some]
                  refine wpMix_load ?vda0 rfl (fun w' hS => ?yda0) ?kda0
                  case yda0 =>
                    obtain ⟨g0, g1, g2, g3, g4, g5, _⟩ := hS
                    go_simp
                    try rfl
                  case kda0 =>
                  go_simp
                  refine wpMix_load ?vda1 rfl (fun w' hS => ?yda1) ?kda1
                  case yda1 =>
                    obtain ⟨g0, g1, g2, g3, g4, g5, _⟩ := hS
                    go_simp
                    try rfl
                  case kda1 =>
                  go_simp
                  refine wpMix_load ?vda2 rfl (fun w' hS => ?yda2) ?kda2
                  case yda2 =>
                    obtain ⟨g0, g1, g2, g3, g4, g5, _⟩ := hS
                    go_simp
                    try rfl
                  case kda2 =>
                  go_simp
                  refine wpMix_load ?vda3 rfl (fun w' hS => ?yda3) ?kda3
                  case yda3 =>
                    obtain ⟨g0, g1, g2, g3, g4, g5, _⟩ := hS
                    go_simp
                    try rfl
                  case kda3 =>
                  go_simp
                  refine wpMix_load ?vda4 rfl (fun w' hS => ?yda4) ?kda4
                  case yda4 =>
                    obtain ⟨g0, g1, g2, g3, g4, g5, _⟩ := hS
                    go_simp
                    try rfl
                  case kda4 =>
                  go_simp
                  refine wpMix_load ?vda5 rfl (fun w' hS => ?yda5) ?kda5
                  case yda5 =>
                    obtain ⟨g0, g1, g2, g3, g4, g5, _⟩ := hS
                    go_simp
                    try rfl
                  case kda5 =>
                  go_simp
                  refine wpMix_load ?vda6 rfl (fun w' hS => ?yda6) ?kda6
                  case yda6 =>
                    obtain ⟨g0, g1, g2, g3, g4, g5, _⟩ := hS
                    go_simp
                    try rfl
                  case kda6 =>
                  go_simp
                  refine wpMix_load ?vda7 rfl (fun w' hS => ?yda7) ?kda7
                  case yda7 =>
                    obtain ⟨g0, g1, g2, g3, g4, g5, _⟩ := hS
                    go_simp
                    try rfl
                  case kda7 =>
                  go_simp
                  refine wpMix_load ?vda8 rfl (fun w' hS => ?yda8) ?kda8
                  case yda8 =>
                    obtain ⟨g0, g1, g2, g3, g4, g5, _⟩ := hS
                    go_simp
                    try rfl
                  case kda8 =>
                  go_simp
                  refine wpMix_load ?vda9 rfl (fun w' hS => ?yda9) ?kda9
                  case yda9 =>
                    obtain ⟨g0, g1, g2, g3, g4, g5, _⟩ := hS
                    go_simp
                    try rfl
                  case kda9 =>
                  go_simp
                  refine wpMix_load ?vda10 rfl (fun w' hS => ?yda10) ?kda10
                  case yda10 =>
                    obtain ⟨g0, g1, g2, g3, g4, g5, _⟩ := hS
                    go_simp
                    try rfl
                  case kda10 =>
                  go_simp
                  refine wpMix_load ?vda11 rfl (fun w' hS => ?yda11) ?kda11
                  case yda11 =>
                    obtain ⟨g0, g1, g2, g3, g4, g5, _⟩ := hS
                    go_simp
                    try rfl
                  case kda11 =>
                  go_simp
                  refine wpMix_load ?vda12 rfl (fun w' hS => ?yda12) ?kda12
                  case yda12 =>
                    obtain ⟨g0, g1, g2, g3, g4, g5, _⟩ := hS
                    go_simp
                    try rfl
                  case kda12 =>
                  go_simp
                  refine wpMix_load ?vda13 rfl (fun w' hS => ?yda13) ?kda13
                  case yda13 =>
                    obtain ⟨g0, g1, g2, g3, g4, g5, _⟩ := hS
                    go_simp
                    try rfl
                  case kda13 =>
                  go_simp
                  refine wpMix_load ?vda14 rfl (fun w' hS => ?yda14) ?kda14
                  case yda14 =>
                    obtain ⟨g0, g1, g2, g3, g4, g5, _⟩ := hS
                    go_simp
                    try rfl
                  case kda14 =>
                  go_simp
                  refine wpMix_load ?vda15 rfl (fun w' hS => ?yda15) ?kda15
                  case yda15 =>
                    obtain ⟨g0, g1, g2, g3, g4, g5, _⟩ := hS
                    go_simp
                    try rfl
                  case kda15 =>
                  go_simp
                  refine wpMix_load ?vda16 rfl (fun w' hS => ?yda16) ?kda16
                  case yda16 =>
                    obtain ⟨g0, g1, g2, g3, g4, g5, _⟩ := hS
                    go_simp
                    try rfl
                  case kda16 =>
                  go_simp
                  refine wpMix_load ?vda17 rfl (fun w' hS => ?yda17) ?kda17
                  case yda17 =>
                    obtain ⟨g0, g1, g2, g3, g4, g5, _⟩ := hS
                    go_simp
                    try rfl
                  case kda17 =>
                  go_simp
                  refine wpMix_load ?vda18 rfl (fun w' hS => ?yda18) ?kda18
                  case yda18 =>
                    obtain ⟨g0, g1, g2, g3, g4, g5, _⟩ := hS
                    go_simp
                    try rfl
                  case kda18 =>
                  go_simp
                  refine wpMix_keep rfl ?_
                  go_wp2_with fail
                  refine ⟨HS7.out.below ((Below.refl _ _).alloc (Nat.le_refl _) _), ?_⟩
                  refine wpMix_nil ?_
                  simp only [opsAt, List.filterMap_cons, List.filterMap_nil, List.getElem?_toArray, List.getElem?_cons_succ, List.getElem?_cons_zero]
                  obtain ⟨w7, hw7⟩ : ∃ w7, w7 = (w6.alloc (.cells #[iv o0, iv o1, iv o2, iv o3, .slice NL p nlc, sv y5] 60)).drew := ⟨_, rfl⟩
                  have hb67 : Below w6.heap.size w6 w7 := by rw [hw7]; exact ((Below.refl _ _).alloc (Nat.le_refl _) _).drew
                  have hnews : ∀ (j : Nat) (y : Value), (ovC ⟨⟨o0, o1, o2, o3, ol, y5⟩, .slice NL p nlc⟩)[j]? = some y → w7.cell? ((⟨w6.heap.size, 0, none⟩ : Addr).add j) = some y := by
                    rw [hw7]
                    exact World.news_of_block (cs := #[.int .i64 o0, .int .i64 o1, .int .i64 o2, .int .i64 o3, .slice NL p nlc, .string (bs y5)]) (alloc1 w6 _)
                  have hsz7 : w7.heap.size = w6.heap.size + 1 := by rw [hw7]; simp
                  have hbr7 : Below wr.heap.size wr w7 := HB7.out.trans (hb67.mono HB7.out.size)
                  have hOw7 := HO.out.below hbr7
                  have hwcr := HKP.out.size
                  have hr7 := hbr7.size
                  have HNEW := Lib.hid hnews
                  have HBR7 := Lib.hid hbr7
                  have HB677 := Lib.hid hb67
                  have HH7 : Hid (w7.heap[cb]? = some (.cells #[iv z0, iv z1, .slice OA vs.length oc] 37 (0, 0))) := Lib.hid ((hb67.block cb (lt_of_heap HH6.out)).trans HH6.out)
                  rw [← hw7]
                  clear hw7 hnews hb67 hbr7 HS7
                  refine wpList_append_lies _ rfl (.tmp 107) (.tmp 125) 35 rfl wc.heap.size 60 i0 (.agg #[.int .i64 0, .int .i64 0, .int .i64 0, .int .i64 0, .slice none 0 0, .string ⟨#[]⟩]) 6 72 Tryd.underlying35 hi hz0 hz1 hz2 rfl (by decide) (.slice OA vs.length oc) vs.length _ rfl hOw7.own ⟨w6.heap.size, 0, none⟩ 1 1 (ovC ⟨⟨o0, o1, o2, o3, ol, y5⟩, .slice NL p nlc⟩) rfl rfl HNEW.out ?c2 (by decide) ?c3 ?c4 ?c5 (w6.heap.size + 1) hsz7 ?_
                  case c2 =>
                    intro u hu
                    simp [ovC] at hu
                    rcases hu with rfl | rfl | rfl | rfl | rfl | rfl <;> rfl
                  case c3 => have := HVL.out; have := HLO.out; unfold maxLen; omega
                  case c4 => have := HVL.out; have := HLO.out; omega
                  case c5 => exact Nat.le_trans hwcr hr7
                  rintro g8 cap8 w8 hown8 hgrow hat hlt8
                  have hOp8 := hOw7.put (u := ⟨⟨o0, o1, o2, o3, ol, y5⟩, .slice NL p nlc⟩) ((HNL.out.keep fun p hp => HB677.out.cell hp.2).more fun b hb => ⟨Nat.le_trans hwcr (Nat.le_trans HB6.out.size hb.1), Nat.lt_of_lt_of_le hb.2 HB677.out.size, fun e => by
                    have := HO.out.own.lt b e.symm
                    have := hb.1
                    have := HB6.out.size
                    omega⟩) hown8 hgrow (hat.elim (fun e => .inl e.symm) fun e => .inr (by rw [e, hsz7]; rfl))
                  have hh8 : w8.heap[cb]? = some (.cells #[iv z0, iv z1, .slice OA vs.length oc] 37 (0, 0)) := (hgrow.block cb (lt_of_heap HH7.out) (fun e => by have := (hOw7.own.lt cb e.symm).1; have := HLT.out; omega)).trans HH7.out
                  have hkp8 : Kp (fun y => y = cb) wc w8 := (HKP.out.below HBR7.out).grown hgrow (fun r hr hlt => by have := (hOw7.own.lt r hr).1; omega)
                  have c2 : w8.cell? ⟨cb, 2, none⟩ = some (.slice OA vs.length oc) := (Lib.cell_of_heap hh8 _).trans rfl
                  have f2 : w8.frozen? ⟨cb, 2, none⟩ = false := Lib.frozen_of_heap hh8 2
                  have HH8 := Lib.hid hh8
                  have HKP8 := Lib.hid hkp8
                  have HO8 := Lib.hid hOp8
                  clear hgrow hown8 hat hOp8 hOw7 HNEW hh8 hkp8 hsz7 hr7 hwcr HO HNL
                  go_wp2
                  refine NoPanic.normal ?_
                  go_wp2
                  try rw [← HLA.out]
                  go_roundw
                  case rel =>
                    refine ⟨k + 1, vs ++ [⟨⟨o0, o1, o2, o3, ol, y5⟩, .slice NL p nlc⟩], _, by omega, by go_num, by simp [HVL.out], ?_, HO8.out.set HLT.out, fun y hy => ?_, (setCell_heap HH8.out).trans (by simp), HKP8.out.setCell (fun _ => rfl) _⟩
                    · rw [List.map_append, HVM.out, List.take_add_one, HX.out, List.map_append]
                      simp [HOP.out]
                    · rw [List.take_add_one, HX.out, List.mem_append] at hy
                      rcases hy with hy | hy
                      · exact HAL.out y hy
                      · obtain rfl : y = x := by simpa using hy
                        rw [HOP.out]
                  case measure => simp [intOf]; omega
            · have HRZ : cdR s = (CdF.zero, false) := by
                rw [HRO.out, HXO.out, rdList_no HXM.out (by rw [opR_no hno])]
                rfl
              have HBZ := HBZ4
              clear hno
              have hh := (HBZ.out.block w.heap.size (by rw [HZA.out]; omega)).trans HA.out
              have z0 : w4.cell? ⟨w.heap.size, 0, none⟩ = some (.int .i64 0) := (Lib.cell_of_heap hh _).trans rfl
              have f0 : w4.frozen? ⟨w.heap.size, 0, none⟩ = false := Lib.frozen_of_heap hh 0
              have z1 : w4.cell? ⟨w.heap.size, 1, none⟩ = some (.int .i64 0) := (Lib.cell_of_heap hh _).trans rfl
              have f1 : w4.frozen? ⟨w.heap.size, 1, none⟩ = false := Lib.frozen_of_heap hh 1
              have z2 : w4.cell? ⟨w.heap.size, 2, none⟩ = some (.slice none 0 0) := (Lib.cell_of_heap hh _).trans rfl
              have f2 : w4.frozen? ⟨w.heap.size, 2, none⟩ = false := Lib.frozen_of_heap hh 2
              clear hh
              go_wp2
              refine bodyPost_ret (v := .tuple #[cdZ, .bool false]) (by simp [results, Tryd.results18, go_sem, z0, z1, z2]; try rfl) rfl ?_
              have hk := keep3 w4 w.heap.size (.int .i64 0) (.int .i64 0) (.slice none 0 0)
              have hbf := kpBelow (HBA.out.trans (HBZ.out.mono HBA.out.size)) hk (fun y e => by rw [e]; exact Nat.le_refl _)
              unfold ReadCodeRes
              rw [HRZ]
              exact ⟨.slice none 0 0, rfl, OpsV.nil _ _, hbf⟩
          · obtain rfl : k = m := by omega
            have hh := (HBW.out.block w.heap.size (by rw [HZA.out]; omega)).trans HA.out
            have t0 : wr.cell? ⟨w.heap.size, 0, none⟩ = some (.int .i64 0) := (Lib.cell_of_heap hh _).trans rfl
            have u0 : wr.frozen? ⟨w.heap.size, 0, none⟩ = false := Lib.frozen_of_heap hh 0
            have t1 : wr.cell? ⟨w.heap.size, 1, none⟩ = some (.int .i64 0) := (Lib.cell_of_heap hh _).trans rfl
            have u1 : wr.frozen? ⟨w.heap.size, 1, none⟩ = false := Lib.frozen_of_heap hh 1
            have t2 : wr.cell? ⟨w.heap.size, 2, none⟩ = some (.slice none 0 0) := (Lib.cell_of_heap hh _).trans rfl
            have u2 : wr.frozen? ⟨w.heap.size, 2, none⟩ = false := Lib.frozen_of_heap hh 2
            have c0 : wr.cell? ⟨cb, 0, none⟩ = some (iv z0) := (Lib.cell_of_heap hhc _).trans rfl
            have c1 : wr.cell? ⟨cb, 1, none⟩ = some (iv z1) := (Lib.cell_of_heap hhc _).trans rfl
            have c2 : wr.cell? ⟨cb, 2, none⟩ = some (.slice OA vs.length oc) := (Lib.cell_of_heap hhc _).trans rfl
            have hk := keep3 wr w.heap.size (iv z0) (iv z1) (.slice OA vs.length oc)
            have hbf := kpBelow (HBA.out.trans (HBW.out.mono HBA.out.size)) hk (fun y e => by rw [e]; exact Nat.le_refl _)
            have HRES : Hid (ReadCodeRes s w (.returned (.tuple #[.agg #[iv z0, iv z1, .slice OA vs.length oc], .bool true])) (((wr.setCell ⟨w.heap.size, 0, none⟩ (iv z0)).setCell ⟨w.heap.size, 1, none⟩ (iv z1)).setCell ⟨w.heap.size, 2, none⟩ (.slice OA vs.length oc))) := Lib.hid (by
              have h1 := HAL.out
              rw [HM.out] at h1
              have e1 := HRO.out
              rw [HXO.out, rdList_take (f := opR) h1, if_pos rfl] at e1
              unfold ReadCodeRes
              rw [e1]
              refine ⟨_, rfl, ⟨OA, oc, vs, rfl, by rw [HVM.out, HM.out, List.take_length], ?_, fun u hu => ?_⟩, hbf⟩
              · exact ((Row.ofOwn HO.out.own fun g _ h3 h4 => (⟨h3, h4⟩ : wc.heap.size ≤ g ∧ g < wr.heap.size)).keep (hk.kept fun b hb => ⟨hb.2, fun e => by have := hb.1; have := HBC.out.size; have := HZA.out; omega⟩)).more fun b hb => ⟨by have := hb.1; have := HBC.out.size; have := HZA.out; omega, Nat.lt_of_lt_of_le hb.2 hk.size⟩
              · exact ((HO.out.each u hu).keep (hk.kept fun b hb => ⟨hb.2.1, fun e => by have := hb.1; have := HBC.out.size; have := HZA.out; omega⟩)).more fun b hb => ⟨by have := hb.1; have := HBC.out.size; have := HZA.out; omega, Nat.lt_of_lt_of_le hb.2.1 hk.size⟩)
            clear hh hhc hk hbf HO
            go_wp2
            refine bodyPost_ret (v := .tuple #[.agg #[iv z0, iv z1, .slice OA vs.length oc], .bool true]) (by simp [results, Tryd.results18, go_sem, t0, t1, t2]; try rfl) rfl ?_
            exact HRES.out
    · have HRZ : cdR s = (CdF.zero, false) := by
        rw [HSP.out, cdR_pack, rdList_bad hno, if_neg]
        rintro ⟨_, _, h⟩
        cases h
      clear hno
      cases ga with
      | false =>
        have hh := (HBZ.out.block w.heap.size (by rw [HZA.out]; omega)).trans HA.out
        have z0 : w3.cell? ⟨w.heap.size, 0, none⟩ = some (.int .i64 0) := (Lib.cell_of_heap hh _).trans rfl
        have f0 : w3.frozen? ⟨w.heap.size, 0, none⟩ = false := Lib.frozen_of_heap hh 0
        have z1 : w3.cell? ⟨w.heap.size, 1, none⟩ = some (.int .i64 0) := (Lib.cell_of_heap hh _).trans rfl
        have f1 : w3.frozen? ⟨w.heap.size, 1, none⟩ = false := Lib.frozen_of_heap hh 1
        have z2 : w3.cell? ⟨w.heap.size, 2, none⟩ = some (.slice none 0 0) := (Lib.cell_of_heap hh _).trans rfl
        have f2 : w3.frozen? ⟨w.heap.size, 2, none⟩ = false := Lib.frozen_of_heap hh 2
        clear hh
        go_wp2
        refine bodyPost_ret (v := .tuple #[cdZ, .bool false]) (by simp [results, Tryd.results18, go_sem, z0, z1, z2]; try rfl) rfl ?_
        have hk := keep3 w3 w.heap.size (.int .i64 0) (.int .i64 0) (.slice none 0 0)
        have hbf := kpBelow (HBA.out.trans (HBZ.out.mono HBA.out.size)) hk (fun y e => by rw [e]; exact Nat.le_refl _)
        unfold ReadCodeRes
        rw [HRZ]
        exact ⟨.slice none 0 0, rfl, OpsV.nil _ _, hbf⟩
      | true =>
        have hh := (HBZ.out.block w.heap.size (by rw [HZA.out]; omega)).trans HA.out
        have z0 : w3.cell? ⟨w.heap.size, 0, none⟩ = some (.int .i64 0) := (Lib.cell_of_heap hh _).trans rfl
        have f0 : w3.frozen? ⟨w.heap.size, 0, none⟩ = false := Lib.frozen_of_heap hh 0
        have z1 : w3.cell? ⟨w.heap.size, 1, none⟩ = some (.int .i64 0) := (Lib.cell_of_heap hh _).trans rfl
        have f1 : w3.frozen? ⟨w.heap.size, 1, none⟩ = false := Lib.frozen_of_heap hh 1
        have z2 : w3.cell? ⟨w.heap.size, 2, none⟩ = some (.slice none 0 0) := (Lib.cell_of_heap hh _).trans rfl
        have f2 : w3.frozen? ⟨w.heap.size, 2, none⟩ = false := Lib.frozen_of_heap hh 2
        clear hh
        go_wp2
        refine bodyPost_ret (v := .tuple #[cdZ, .bool false]) (by simp [results, Tryd.results18, go_sem, z0, z1, z2]; try rfl) rfl ?_
        have hk := keep3 w3 w.heap.size (.int .i64 0) (.int .i64 0) (.slice none 0 0)
        have hbf := kpBelow (HBA.out.trans (HBZ.out.mono HBA.out.size)) hk (fun y e => by rw [e]; exact Nat.le_refl _)
        unfold ReadCodeRes
        rw [HRZ]
        exact ⟨.slice none 0 0, rfl, OpsV.nil _ _, hbf⟩
  · have HRZ := cdR_no hno
    have HBZ := HB1
    clear hno
    have hh := (HBZ.out.block w.heap.size (by rw [HZA.out]; omega)).trans HA.out
    have z0 : w1.cell? ⟨w.heap.size, 0, none⟩ = some (.int .i64 0) := (Lib.cell_of_heap hh _).trans rfl
    have f0 : w1.frozen? ⟨w.heap.size, 0, none⟩ = false := Lib.frozen_of_heap hh 0
    have z1 : w1.cell? ⟨w.heap.size, 1, none⟩ = some (.int .i64 0) := (Lib.cell_of_heap hh _).trans rfl
    have f1 : w1.frozen? ⟨w.heap.size, 1, none⟩ = false := Lib.frozen_of_heap hh 1
    have z2 : w1.cell? ⟨w.heap.size, 2, none⟩ = some (.slice none 0 0) := (Lib.cell_of_heap hh _).trans rfl
    have f2 : w1.frozen? ⟨w.heap.size, 2, none⟩ = false := Lib.frozen_of_heap hh 2
    clear hh
    go_wp2
    refine bodyPost_ret (v := .tuple #[cdZ, .bool false]) (by simp [results, Tryd.results18, go_sem, z0, z1, z2]; try rfl) rfl ?_
    have hk := keep3 w1 w.heap.size (.int .i64 0) (.int .i64 0) (.slice none 0 0)
    have hbf := kpBelow (HBA.out.trans (HBZ.out.mono HBA.out.size)) hk (fun y e => by rw [e]; exact Nat.le_refl _)
    unfold ReadCodeRes
    rw [HRZ]
    exact ⟨.slice none 0 0, rfl, OpsV.nil _ _, hbf⟩
end Go.Proofs.YtkggmckfdkpldaaDoor
