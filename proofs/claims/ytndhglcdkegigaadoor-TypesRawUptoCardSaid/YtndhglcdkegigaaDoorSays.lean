/-
  The walk of recompilelaw09.agree (printed by genSays.py).
  Conditions: the arguments read as types, names and types; sizes and texts are at most 4000000.
-/
import Derived.Test.YtndhglcdkegigaaDoorRefTop
import Derived.Test.YtndhglcdkegigaaDoorTexts
import Derived.Test.YtndhglcdkegigaaDoorRefSize
import Derived.Test.YtndhglcdkegigaaDoorPutN
import Derived.Test.YtndhglcdkegigaaDoorRefPut
namespace Go.Proofs.YtndhglcdkegigaaDoor
open Go.RowKit

theorem two_says {P : Prop} {b c : Bool} (h : b = true ↔ P) (h' : c = true ↔ P) : b = c := by
  cases b <;> cases c <;> simp_all
theorem mk_now {t : Ty} {u v : Value} {w : World} {w0 : World} (h : TyIs w0 (Lt w0.heap.size) t u v) (hb : Below w0.heap.size w0 w) : TyIs w (Lt w.heap.size) t u v := (h.keep (kept_below hb)).more fun _ hy => Nat.lt_of_lt_of_le hy hb.size
theorem row_now {w0 w : World} {A : Option Addr} {xs : List Value} (h : Row w0 (Lt w0.heap.size) A xs) (hb : Below w0.heap.size w0 w) : Row w (Lt w.heap.size) A xs := (h.keep (kept_below hb)).more fun _ hy => Nat.lt_of_lt_of_le hy hb.size

set_option maxHeartbeats 16000000 in
set_option maxRecDepth 100000 in
theorem agrees_any (a b : Ty) (ns : List (List UInt8)) (ls : List Ty) (ua va ub vb : Value) (NA LA : Option Addr) (NC LC : Nat) (lvs : List (Value × Value)) (w : World) (ha : TyIs w (Lt w.heap.size) a ua va) (hb : TyIs w (Lt w.heap.size) b ub vb)
    (hns : Row w (Lt w.heap.size) NA (ns.map sv)) (hls : Tys w (Lt w.heap.size) LA ls lvs) (hsz : a.size ≤ 4000000) (hpr : (prn a).length ≤ 4000000) (hnl : ns.length ≤ 4000000) :
    Calls Tryd.prog 19 #[.agg #[ua, va], .agg #[ub, vb], .slice NA ns.length NC, .slice LA ls.length LC] w (fun e w' => e = .returned (.bool true) ∧ Below w.heap.size w w') := by
  obtain ⟨ua, va, rfl, rfl⟩ := ha.shape
  obtain ⟨ub, vb, rfl, rfl⟩ := hb.shape
  obtain ⟨nn, hnn⟩ : ∃ n, n = ns.length := ⟨_, rfl⟩
  obtain ⟨ln, hln⟩ : ∃ n, n = ls.length := ⟨_, rfl⟩
  rw [← hnn, ← hln]
  have HNN := Lib.hid hnn
  have HLN := Lib.hid hln
  have HNL := Lib.hid hnl
  have HSZ := Lib.hid hsz
  have HPR := Lib.hid hpr
  clear hnn hln hnl hsz hpr
  obtain ⟨f, hf⟩ : ∃ f, f = mres a b := ⟨_, rfl⟩
  have hfl := (mres_len (p := a) (t := b)).1
  have hfl2 := (mres_len (p := a) (t := b)).2
  rw [← hf] at hfl hfl2
  obtain ⟨fok, fn, fl⟩ := f
  dsimp only at hfl hfl2
  have HF := Lib.hid hf
  have HFL : Hid (fn.length ≤ 4000000 ∧ fl.length ≤ 4000000) := Lib.hid ⟨by have := HSZ.out; omega, by have := HSZ.out; omega⟩
  clear hf hfl hfl2
  have hB : Below w.heap.size w ((w.alloc (.cells #[sv ua, .slice va.1 va.2.1 va.2.2] 30)).alloc (.cells #[sv ub, .slice vb.1 vb.2.1 vb.2.2] 30)) := ((Below.refl _ _).alloc (Nat.le_refl _) _).alloc (by simp) _
  have h45 := alloc2 w (.cells #[sv ua, .slice va.1 va.2.1 va.2.2] 30) (.cells #[sv ub, .slice vb.1 vb.2.1 vb.2.2] 30)
  have HA0 := Lib.hid (mk_now ha hB)
  have HB0 := Lib.hid (mk_now hb hB)
  have HN0 := Lib.hid (row_now hns hB)
  have HL0 := Lib.hid (hls.now (Nat.le_refl _) hB)
  have HB := Lib.hid hB
  have H45 := Lib.hid h45
  clear ha hb hns hls hB h45
  go_enter Tryd.func19, Tryd.ntmps19
  go_wp2_with fail
  generalize hw0 : (w.alloc (.cells #[sv ua, .slice va.1 va.2.1 va.2.2] 30)).alloc (.cells #[sv ub, .slice vb.1 vb.2.1 vb.2.2] 30) = w0 at *
  clear hw0
  refine (match_mres a b _ _ _ _ w0 HA0.out HB0.out HSZ.out).mono ?_
  rw [← HF.out]
  rintro e w1 ⟨A1, A2, c1, c2, vs1, rfl, hp1, hx1, hb1, hc1, hc1'⟩
  obtain ⟨b4, hb4⟩ : ∃ n, n = w.heap.size := ⟨_, rfl⟩
  obtain ⟨b5, hb5⟩ : ∃ n, n = w.heap.size + 1 := ⟨_, rfl⟩
  rw [← hb5, ← hb4] at H45
  rw [← hb5, ← hb4]
  have hh4 := (hb1.block _ (lt_of_heap H45.out.1)).trans H45.out.1
  have hh5 := (hb1.block _ (lt_of_heap H45.out.2)).trans H45.out.2
  have HB01 := Lib.hid hb1
  have x40 : w1.cell? ⟨b4, 0, none⟩ = some (sv ua) := (Lib.cell_of_heap hh4 _).trans rfl
  have x41 : w1.cell? ⟨b4, 1, none⟩ = some (.slice va.1 va.2.1 va.2.2) := (Lib.cell_of_heap hh4 _).trans rfl
  have x50 : w1.cell? ⟨b5, 0, none⟩ = some (sv ub) := (Lib.cell_of_heap hh5 _).trans rfl
  have x51 : w1.cell? ⟨b5, 1, none⟩ = some (.slice vb.1 vb.2.1 vb.2.2) := (Lib.cell_of_heap hh5 _).trans rfl
  obtain ⟨m1, hm1⟩ : ∃ n, n = fn.length := ⟨_, rfl⟩
  obtain ⟨m2, hm2⟩ : ∃ n, n = fl.length := ⟨_, rfl⟩
  simp only [← hm1, ← hm2]
  have HM1 := Lib.hid hm1
  have HM2 := Lib.hid hm2
  have HP1 := Lib.hid hp1
  have HX1 := Lib.hid hx1
  have HH4 := Lib.hid hh4
  have HH5 := Lib.hid hh5
  have HC1 : Hid (fl.length ≤ c2 ∧ c2 ≤ maxLen) := Lib.hid ⟨hc1, hc1'⟩
  clear hm1 hm2 hp1 hx1 hh4 hh5 hc1 hc1' hb1 hb4 hb5
  go_wp2_with fail
  refine (ref_mres a b _ _ _ _ w1 (mk_now HA0.out HB01.out) (mk_now HB0.out HB01.out) HSZ.out).mono ?_
  rw [← HF.out]
  rintro e w2 ⟨B1, B2, d1, d2, vs2, rfl, hp2, hx2, hb2, hd1, hd1'⟩
  simp only [← HM1.out, ← HM2.out]
  have hb02 := HB01.out.trans (hb2.mono HB01.out.size)
  have HA2 := Lib.hid (mk_now HA0.out hb02)
  have HB2 := Lib.hid (mk_now HB0.out hb02)
  have HN2 := Lib.hid (row_now HN0.out hb02)
  have HL2 := Lib.hid (HL0.out.now (Nat.le_refl _) hb02)
  have HP12 := Lib.hid (row_now HP1.out hb2)
  have HX12 := Lib.hid (HX1.out.now (Nat.le_refl _) hb2)
  have HP2 := Lib.hid hp2
  have HX2 := Lib.hid hx2
  have HD1 : Hid (fl.length ≤ d2 ∧ d2 ≤ maxLen) := Lib.hid ⟨hd1, hd1'⟩
  have HBW := Lib.hid (HB.out.trans (hb02.mono HB.out.size))
  have hh4 := (hb2.block _ (lt_of_heap HH4.out)).trans HH4.out
  have hh5 := (hb2.block _ (lt_of_heap HH5.out)).trans HH5.out
  have hS : ∀ w', Below w2.heap.size w2 w' → w'.cell? ⟨b4, 0, none⟩ = some (sv ua) ∧ w'.cell? ⟨b4, 1, none⟩ = some (.slice va.1 va.2.1 va.2.2) ∧ w'.cell? ⟨b5, 0, none⟩ = some (sv ub) ∧ w'.cell? ⟨b5, 1, none⟩ = some (.slice vb.1 vb.2.1 vb.2.2) := fun w' hb => by
    have h4 := (hb.block _ (lt_of_heap hh4)).trans hh4
    have h5 := (hb.block _ (lt_of_heap hh5)).trans hh5
    exact ⟨(Lib.cell_of_heap h4 _).trans rfl, (Lib.cell_of_heap h4 _).trans rfl, (Lib.cell_of_heap h5 _).trans rfl, (Lib.cell_of_heap h5 _).trans rfl⟩
  have HS := Lib.hid hS
  have HDR : Hid (Below w2.heap.size w2 w2.drew) := Lib.hid ⟨rfl, rfl, rfl, Nat.le_refl _, fun _ _ => rfl⟩
  clear hp2 hx2 hb2 hd1 hd1' hb02 hh4 hh5 hS x40 x41 x50 x51 HA0 HB0 HN0 HL0 HP1 HX1 HH4 HH5 HB01 H45 HB
  go_wp2_with fail
  refine wp_region_mix (fun w' => Below w2.heap.size w2 w') [(true, 0), (true, 1), (true, 3), (true, 4), (false, 2), (false, 5), (true, 6), (true, 7), (true, 8), (true, 10), (false, 9), (false, 11), (true, 12), (true, 13), (true, 14), (true, 15), (true, 17), (false, 16), (false, 18), (true, 19), (true, 20), (true, 21), (true, 22), (true, 23), (true, 24), (true, 26), (true, 27), (true, 28), (false, 25), (false, 29), (false, 30), (true, 31), (true, 32), (true, 33), (true, 34), (true, 35), (true, 36), (true, 37), (true, 38), (true, 39), (false, 40), (true, 41), (true, 42), (true, 43), (true, 44), (false, 45), (true, 46)] [47] (by kernel_rfl) (by kernel_rfl) HDR.out ?h0
  simp only [mixAt, opsAt, List.filterMap_cons, List.filterMap_nil, List.getElem?_toArray, List.getElem?_cons_succ, List.getElem?_cons_zero, Option.map_some]
  obtain ⟨w3, hw3⟩ : ∃ w3, w3 = w2.drew := ⟨_, rfl⟩
  have HB3 : Hid (Below w2.heap.size w2 w3) := Lib.hid (by rw [hw3]; exact HDR.out)
  rw [← hw3]
  clear hw3 HDR
  refine wpMix_load ?v0 rfl (fun w' hS => ?y0) ?k0
  case y0 =>
    obtain ⟨h1, h2, h3, h4⟩ := HS.out w' hS
    go_simp
    try rfl
  case k0 =>
  go_simp
  refine wpMix_load ?v1 rfl (fun w' hS => ?y1) ?k1
  case y1 =>
    obtain ⟨h1, h2, h3, h4⟩ := HS.out w' hS
    go_simp
    try rfl
  case k1 =>
  go_simp
  refine wpMix_load ?v3 rfl (fun w' hS => ?y3) ?k3
  case y3 =>
    obtain ⟨h1, h2, h3, h4⟩ := HS.out w' hS
    go_simp
    try rfl
  case k3 =>
  go_simp
  refine wpMix_load ?v4 rfl (fun w' hS => ?y4) ?k4
  case y4 =>
    obtain ⟨h1, h2, h3, h4⟩ := HS.out w' hS
    go_simp
    try rfl
  case k4 =>
  go_simp
  refine wpMix_keep rfl ?_
  go_simp
  refine (same_any a b _ _ _ _ w3 (mk_now HA2.out HB3.out) (mk_now HB2.out HB3.out)).mono ?_
  rintro e w4 ⟨r1, rfl, hr1, hb⟩
  have HR1 := Lib.hid hr1
  clear hr1
  have HB4 := Lib.hid (HB3.out.trans (hb.mono HB3.out.size))
  clear hb
  refine ⟨HB4.out, ?_⟩
  refine wpMix_keep rfl ?_
  go_simp
  refine (refSame_any a b _ _ _ _ w4 (mk_now HA2.out HB4.out) (mk_now HB2.out HB4.out)).mono ?_
  rintro e w5 ⟨r2, rfl, hr2, hb⟩
  obtain rfl := two_says HR1.out hr2
  clear hr2 HR1
  have HB5 := Lib.hid (HB4.out.trans (hb.mono HB4.out.size))
  clear hb
  refine ⟨HB5.out, ?_⟩
  refine wpMix_load (.bool true) rfl (fun w' hS => ?y6) ?k6
  case y6 =>
    obtain ⟨h1, h2, h3, h4⟩ := HS.out w' hS
    go_simp
    try rfl
  case k6 =>
  go_simp
  refine wpMix_load ?v7 rfl (fun w' hS => ?y7) ?k7
  case y7 =>
    obtain ⟨h1, h2, h3, h4⟩ := HS.out w' hS
    go_simp
    try rfl
  case k7 =>
  go_simp
  refine wpMix_load ?v8 rfl (fun w' hS => ?y8) ?k8
  case y8 =>
    obtain ⟨h1, h2, h3, h4⟩ := HS.out w' hS
    go_simp
    try rfl
  case k8 =>
  go_simp
  refine wpMix_load ?v10 rfl (fun w' hS => ?y10) ?k10
  case y10 =>
    obtain ⟨h1, h2, h3, h4⟩ := HS.out w' hS
    go_simp
    try rfl
  case k10 =>
  go_simp
  refine wpMix_keep rfl ?_
  go_simp
  refine (size_any a _ _ w5 (mk_now HA2.out HB5.out) HSZ.out).mono ?_
  rintro e w6 ⟨rfl, hb⟩
  have HB6 := Lib.hid (HB5.out.trans (hb.mono HB5.out.size))
  clear hb
  refine ⟨HB6.out, ?_⟩
  refine wpMix_keep rfl ?_
  go_simp
  refine (refSize_any a _ _ w6 (mk_now HA2.out HB6.out) HSZ.out).mono ?_
  rintro e w7 ⟨rfl, hb⟩
  have HB7 := Lib.hid (HB6.out.trans (hb.mono HB6.out.size))
  clear hb
  refine ⟨HB7.out, ?_⟩
  refine wpMix_load (.bool true) rfl (fun w' hS => ?y12) ?k12
  case y12 =>
    obtain ⟨h1, h2, h3, h4⟩ := HS.out w' hS
    go_simp
    try rfl
  case k12 =>
  go_simp
  refine wpMix_load ?v13 rfl (fun w' hS => ?y13) ?k13
  case y13 =>
    obtain ⟨h1, h2, h3, h4⟩ := HS.out w' hS
    go_simp
    try rfl
  case k13 =>
  go_simp
  refine wpMix_load ?v14 rfl (fun w' hS => ?y14) ?k14
  case y14 =>
    obtain ⟨h1, h2, h3, h4⟩ := HS.out w' hS
    go_simp
    try rfl
  case k14 =>
  go_simp
  refine wpMix_load ?v15 rfl (fun w' hS => ?y15) ?k15
  case y15 =>
    obtain ⟨h1, h2, h3, h4⟩ := HS.out w' hS
    go_simp
    try rfl
  case k15 =>
  go_simp
  refine wpMix_load ?v17 rfl (fun w' hS => ?y17) ?k17
  case y17 =>
    obtain ⟨h1, h2, h3, h4⟩ := HS.out w' hS
    go_simp
    try rfl
  case k17 =>
  go_simp
  refine wpMix_keep rfl ?_
  go_simp
  refine (print_any a _ _ w7 (mk_now HA2.out HB7.out) HPR.out).mono ?_
  rintro e w8 ⟨rfl, hb⟩
  have HB8 := Lib.hid (HB7.out.trans (hb.mono HB7.out.size))
  clear hb
  refine ⟨HB8.out, ?_⟩
  refine wpMix_keep rfl ?_
  go_simp
  refine (refPrint_any a _ _ w8 (mk_now HA2.out HB8.out) HPR.out).mono ?_
  rintro e w9 ⟨rfl, hb⟩
  have HB9 := Lib.hid (HB8.out.trans (hb.mono HB8.out.size))
  clear hb
  refine ⟨HB9.out, ?_⟩
  refine wpMix_load (.bool true) rfl (fun w' hS => ?y19) ?k19
  case y19 =>
    obtain ⟨h1, h2, h3, h4⟩ := HS.out w' hS
    go_simp
    try rfl
  case k19 =>
  go_simp
  refine wpMix_load ?v20 rfl (fun w' hS => ?y20) ?k20
  case y20 =>
    obtain ⟨h1, h2, h3, h4⟩ := HS.out w' hS
    go_simp
    try rfl
  case k20 =>
  go_simp
  refine wpMix_load ?v21 rfl (fun w' hS => ?y21) ?k21
  case y21 =>
    obtain ⟨h1, h2, h3, h4⟩ := HS.out w' hS
    go_simp
    try rfl
  case k21 =>
  go_simp
  refine wpMix_load ?v22 rfl (fun w' hS => ?y22) ?k22
  case y22 =>
    obtain ⟨h1, h2, h3, h4⟩ := HS.out w' hS
    go_simp
    try rfl
  case k22 =>
  go_simp
  refine wpMix_load ?v23 rfl (fun w' hS => ?y23) ?k23
  case y23 =>
    obtain ⟨h1, h2, h3, h4⟩ := HS.out w' hS
    go_simp
    try rfl
  case k23 =>
  go_simp
  refine wpMix_load ?v24 rfl (fun w' hS => ?y24) ?k24
  case y24 =>
    obtain ⟨h1, h2, h3, h4⟩ := HS.out w' hS
    go_simp
    try rfl
  case k24 =>
  go_simp
  refine wpMix_load ?v26 rfl (fun w' hS => ?y26) ?k26
  case y26 =>
    obtain ⟨h1, h2, h3, h4⟩ := HS.out w' hS
    go_simp
    try rfl
  case k26 =>
  go_simp
  refine wpMix_load ?v27 rfl (fun w' hS => ?y27) ?k27
  case y27 =>
    obtain ⟨h1, h2, h3, h4⟩ := HS.out w' hS
    go_simp
    try rfl
  case k27 =>
  go_simp
  refine wpMix_load ?v28 rfl (fun w' hS => ?y28) ?k28
  case y28 =>
    obtain ⟨h1, h2, h3, h4⟩ := HS.out w' hS
    go_simp
    try rfl
  case k28 =>
  go_simp
  have HPA := Lib.hid (putN_any ns ls HNL.out a _ _ NA LA NC LC lvs w9 (mk_now HA2.out HB9.out) (row_now HN2.out HB9.out) (HL2.out.now (Nat.le_refl _) HB9.out))
  rw [← HNN.out, ← HLN.out] at HPA
  refine wpMix_keep rfl ?_
  go_simp
  refine (HPA.out).mono ?_
  rintro e w10 ⟨u5, v5, rfl, hu, hb⟩
  have HB10 := Lib.hid (HB9.out.trans (hb.mono HB9.out.size))
  obtain ⟨u5, v5, rfl, rfl⟩ := hu.shape
  have HU := Lib.hid (hu.more fun _ hy => hy.2 : TyIs w10 (Lt w10.heap.size) (putN ns ls a) _ _)
  clear hu HPA
  clear hb
  refine ⟨HB10.out, ?_⟩
  have HPB := Lib.hid (refPut_any (Lt w10.heap.size) ns ls HNL.out a _ _ NA LA NC LC lvs w10 (fun _ h => h) (mk_now HA2.out HB10.out) (row_now HN2.out HB10.out) (HL2.out.now (Nat.le_refl _) HB10.out))
  rw [← HNN.out, ← HLN.out] at HPB
  refine wpMix_keep rfl ?_
  go_simp
  refine (HPB.out).mono ?_
  rintro e w11 ⟨u6, v6, rfl, hu, hb⟩
  have HB11 := Lib.hid (HB10.out.trans (hb.mono HB10.out.size))
  obtain ⟨u6, v6, rfl, rfl⟩ := hu.shape
  have HU1 := Lib.hid (mk_now HU.out hb)
  have HU2 := Lib.hid (hu.more fun y hy => hy.elim (fun h => Nat.lt_of_lt_of_le h hb.size) (fun h => h.2) : TyIs w11 (Lt w11.heap.size) (putN ns ls a) _ _)
  clear hu HPB HU
  clear hb
  refine ⟨HB11.out, ?_⟩
  refine wpMix_keep rfl ?_
  go_simp
  refine (refSame_any (putN ns ls a) (putN ns ls a) _ _ _ _ w11 HU1.out HU2.out).mono ?_
  rintro e w12 ⟨r3, rfl, hr3, hb⟩
  obtain rfl : r3 = true := hr3.2 rfl
  clear hr3
  have HB12 := Lib.hid (HB11.out.trans (hb.mono HB11.out.size))
  clear hb
  refine ⟨HB12.out, ?_⟩
  refine wpMix_load ?v31 rfl (fun w' hS => ?y31) ?k31
  case y31 =>
    obtain ⟨h1, h2, h3, h4⟩ := HS.out w' hS
    go_simp
    try rfl
  case k31 =>
  go_simp
  refine wpMix_load ?v32 rfl (fun w' hS => ?y32) ?k32
  case y32 =>
    obtain ⟨h1, h2, h3, h4⟩ := HS.out w' hS
    go_simp
    try rfl
  case k32 =>
  go_simp
  refine wpMix_load ?v33 rfl (fun w' hS => ?y33) ?k33
  case y33 =>
    obtain ⟨h1, h2, h3, h4⟩ := HS.out w' hS
    go_simp
    try rfl
  case k33 =>
  go_simp
  refine wpMix_load ?v34 rfl (fun w' hS => ?y34) ?k34
  case y34 =>
    obtain ⟨h1, h2, h3, h4⟩ := HS.out w' hS
    go_simp
    try rfl
  case k34 =>
  go_simp
  refine wpMix_load (.bool true) rfl (fun w' hS => ?y35) ?k35
  case y35 =>
    obtain ⟨h1, h2, h3, h4⟩ := HS.out w' hS
    go_simp
    try rfl
  case k35 =>
  go_simp
  refine wpMix_load ?v36 rfl (fun w' hS => ?y36) ?k36
  case y36 =>
    obtain ⟨h1, h2, h3, h4⟩ := HS.out w' hS
    go_simp
    try rfl
  case k36 =>
  go_simp
  refine wpMix_load ?v37 rfl (fun w' hS => ?y37) ?k37
  case y37 =>
    obtain ⟨h1, h2, h3, h4⟩ := HS.out w' hS
    go_simp
    try rfl
  case k37 =>
  go_simp
  refine wpMix_load ?v38 rfl (fun w' hS => ?y38) ?k38
  case y38 =>
    obtain ⟨h1, h2, h3, h4⟩ := HS.out w' hS
    go_simp
    try rfl
  case k38 =>
  go_simp
  refine wpMix_load ?v39 rfl (fun w' hS => ?y39) ?k39
  case y39 =>
    obtain ⟨h1, h2, h3, h4⟩ := HS.out w' hS
    go_simp
    try rfl
  case k39 =>
  go_simp
  have HTX := Lib.hid (sameTexts_any fn fn A1 B1 c1 d1 w12 (row_now HP12.out HB12.out) (row_now HP2.out HB12.out) HFL.out.1)
  rw [← HM1.out] at HTX
  refine wpMix_keep rfl ?_
  go_simp
  refine (HTX.out).mono ?_
  rintro e w13 ⟨r4, rfl, hr4, hb⟩
  obtain rfl : r4 = true := hr4.2 rfl
  clear hr4
  have HB13 := Lib.hid (HB12.out.trans (hb.mono HB12.out.size))
  clear HTX
  clear hb
  refine ⟨HB13.out, ?_⟩
  refine wpMix_load ?v41 rfl (fun w' hS => ?y41) ?k41
  case y41 =>
    obtain ⟨h1, h2, h3, h4⟩ := HS.out w' hS
    go_simp
    try rfl
  case k41 =>
  go_simp
  refine wpMix_load ?v42 rfl (fun w' hS => ?y42) ?k42
  case y42 =>
    obtain ⟨h1, h2, h3, h4⟩ := HS.out w' hS
    go_simp
    try rfl
  case k42 =>
  go_simp
  refine wpMix_load ?v43 rfl (fun w' hS => ?y43) ?k43
  case y43 =>
    obtain ⟨h1, h2, h3, h4⟩ := HS.out w' hS
    go_simp
    try rfl
  case k43 =>
  go_simp
  refine wpMix_load ?v44 rfl (fun w' hS => ?y44) ?k44
  case y44 =>
    obtain ⟨h1, h2, h3, h4⟩ := HS.out w' hS
    go_simp
    try rfl
  case k44 =>
  go_simp
  have HTL := Lib.hid (sameList_any fl fl A2 B2 c2 d2 vs1 vs2 w13 (HX12.out.now (Nat.le_refl _) HB13.out) (HX2.out.now (Nat.le_refl _) HB13.out) HFL.out.2 HFL.out.2 HC1.out HD1.out)
  rw [← HM2.out] at HTL
  refine wpMix_keep rfl ?_
  go_simp
  refine (HTL.out).mono ?_
  rintro e w14 ⟨r5, rfl, hr5, hb⟩
  obtain rfl : r5 = true := hr5.2 rfl
  clear hr5
  have HB14 := Lib.hid (HB13.out.trans (hb.mono HB13.out.size))
  clear HTL
  clear hb
  refine ⟨HB14.out, ?_⟩
  refine wpMix_load ?v46 rfl (fun w' hS => ?y46) ?k46
  case y46 =>
    obtain ⟨h1, h2, h3, h4⟩ := HS.out w' hS
    go_simp
    try rfl
  case k46 =>
  go_simp
  refine wpMix_nil ?_
  go_wp2
  refine NoPanic.normal ?_
  go_wp2
  refine bodyPost_ret (by first | (simp [results, go_sem]; done) | (simp [results, go_sem]; rfl)) rfl ?_
  exact ⟨rfl, HBW.out.trans (HB14.out.mono HBW.out.size)⟩
end Go.Proofs.YtndhglcdkegigaaDoor
