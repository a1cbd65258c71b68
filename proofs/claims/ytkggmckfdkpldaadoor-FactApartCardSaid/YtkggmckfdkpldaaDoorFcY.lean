/-
  The walk of ref10.SameCode.
  Conditions: the arguments read as codes.
-/
import Derived.Test.YtkggmckfdkpldaaDoorFcW
import Derived.Test.YtkggmckfdkpldaaDoorBld
import Derived.Test.YtkggmckfdkpldaaDoorBsch
namespace Go.Proofs.YtkggmckfdkpldaaDoor
open Go.RowKit

set_option maxHeartbeats 3200000 in
set_option maxRecDepth 100000 in
theorem sameCode_any (x y : CdF) (u v : Value) (w : World) (hu : CodeV w (Lt w.heap.size) u x) (hv : CodeV w (Lt w.heap.size) v y) (hz : x.ops.length ≤ 1000000000000) (hl : ∀ o ∈ x.ops, o.list.length ≤ 1000000000000) :
    Calls Tryd.prog 13 #[u, v] w (Says (x = y) w) := by
  obtain ⟨ov, rfl, A, c, us, rfl, hus, hru⟩ := hu
  obtain ⟨ov, rfl, B, d, vs, rfl, hvs, hrv⟩ := hv
  obtain ⟨xp, xr, xo⟩ := x
  obtain ⟨yp, yr, yo⟩ := y
  simp only at hus hvs hz hl
  subst hus hvs
  obtain ⟨n, hn1⟩ : ∃ n, n = us.length := ⟨_, rfl⟩
  obtain ⟨m, hm1⟩ : ∃ m, m = vs.length := ⟨_, rfl⟩
  rw [List.length_map, ← hn1] at hz
  rw [← hn1, ← hm1]
  have HN := Lib.hid hn1
  have HM := Lib.hid hm1
  have HU := Lib.hid hru
  have HV := Lib.hid hrv
  have HL := Lib.hid hl
  clear hn1 hm1 hru hrv hl
  obtain ⟨wa, hwa⟩ : ∃ wa, wa = (w.alloc (.cells #[iv xp, iv xr, .slice A n c] 37)).alloc (.cells #[iv yp, iv yr, .slice B m d] 37) := ⟨_, rfl⟩
  have hba : Below w.heap.size w wa := by rw [hwa]; exact ((Below.refl _ _).alloc (Nat.le_refl _) _).alloc (by simp) _
  have hca : AtCells [(⟨w.heap.size, 0, none⟩, iv xp), (⟨w.heap.size, 1, none⟩, iv xr), (⟨w.heap.size, 2, none⟩, .slice A n c), (⟨w.heap.size + 1, 0, none⟩, iv yp), (⟨w.heap.size + 1, 1, none⟩, iv yr), (⟨w.heap.size + 1, 2, none⟩, .slice B m d)] wa := by
    rw [hwa]
    have hh := alloc2 w (.cells #[iv xp, iv xr, .slice A n c] 37) (.cells #[iv yp, iv yr, .slice B m d] 37)
    refine ⟨?_, ?_, ?_, ?_, ?_, ?_, trivial⟩ <;> first | exact (Lib.cell_of_heap hh.1 _).trans rfl | exact (Lib.cell_of_heap hh.2 _).trans rfl
  have HBA := Lib.hid hba
  have HCA := Lib.hid hca
  have no : ¬ (xp = yp ∧ xr = yr ∧ n = m) → Hid (∀ w', Below w.heap.size w w' → Says ((⟨xp, xr, us.map OV.o⟩ : CdF) = ⟨yp, yr, vs.map OV.o⟩) w (.returned (.bool false)) w') := fun hne => Lib.hid fun w' hb => ⟨false, rfl, ⟨(fun e => by cases e), fun e => absurd (by
    have e1 := congrArg CdF.params e
    have e2 := congrArg CdF.regs e
    have e3 := congrArg (fun c => c.ops.length) e
    simp only [List.length_map, ← HN.out, ← HM.out] at e1 e2 e3
    exact ⟨e1, e2, e3⟩) hne⟩, hb⟩
  by_cases h1 : xp = yp
  · by_cases h2 : xr = yr
    · by_cases h3 : n = m
      · subst h1 h2 h3
        clear no hba hca
        go_enter Tryd.func13, Tryd.ntmps13
        go_wp2_with fail
        rw [← hwa]
        clear hwa
        go_loopw [5] (fun i wr => ∃ k : Nat, k ≤ n ∧ i = .int .i64 k ∧ (us.map OV.o).take k = (vs.map OV.o).take k ∧ Below wa.heap.size wa wr) (fun i _ => n - (intOf i).toNat)
        case atStart => exact ⟨0, Nat.zero_le _, rfl, rfl, Below.refl _ _⟩
        case round =>
          obtain ⟨k, hk, rfl, heq, hb⟩ := hrel
          have HB := Lib.hid hb
          have HQ := Lib.hid heq
          have HC := Lib.hid (HCA.out.below hb)
          clear heq
          obtain ⟨q0, q1, q2, q3, q4, q5, _⟩ := HC.out
          simp only at q0 q1 q2 q3 q4 q5
          by_cases hlt : k < n
          · obtain ⟨x, hx⟩ : ∃ x, us[k]? = some x := ⟨_, List.getElem?_eq_getElem (by rw [← HN.out]; exact hlt)⟩
            obtain ⟨y, hy⟩ : ∃ y, vs[k]? = some y := ⟨_, List.getElem?_eq_getElem (by rw [← HM.out]; exact hlt)⟩
            have hbw : Below w.heap.size w wr := HBA.out.trans (hb.mono HBA.out.size)
            obtain ⟨ad, hA, _, a0, a1, a2, a3, a4, a5⟩ := ov_at (HU.out.row.keep (kept_below hbw)) hx
            obtain ⟨be, hBE, _, b0, b1, b2, b3, b4, b5⟩ := ov_at (HV.out.row.keep (kept_below hbw)) hy
            have hik : (0 : Int) ≤ (k : Int) ∧ (k : Int) < (n : Int) := ⟨by omega, by omega⟩
            obtain ⟨XA, xc, hxv, hxr⟩ := (HU.out.keep (kept_below hbw)).each x (List.mem_of_getElem? hx)
            obtain ⟨YA, yc, hyv, hyr⟩ := (HV.out.keep (kept_below hbw)).each y (List.mem_of_getElem? hy)
            obtain ⟨⟨xk, xa, xb, xd, xl, xs⟩, xv⟩ := x
            obtain ⟨⟨yk, ya, yb, yd, yl, ys⟩, yv⟩ := y
            obtain ⟨xm, hxm⟩ : ∃ xm, xm = xl.length := ⟨_, rfl⟩
            obtain ⟨ym, hym⟩ : ∃ ym, ym = yl.length := ⟨_, rfl⟩
            simp only at a0 a1 a2 a3 a4 a5 b0 b1 b2 b3 b4 b5 hxv hyv
            rw [← hxm] at hxv
            rw [← hym] at hyv
            subst hxv hyv
            have HAD := Lib.hid hA
            have HBE := Lib.hid hBE
            rw [hA] at q2
            rw [hBE] at q5
            have HS0 : Hid (AtCells [(⟨w.heap.size, 2, none⟩, .slice (some ad) n c), (⟨w.heap.size + 1, 2, none⟩, .slice (some be) n d), (ad.add (k * 6), iv xk), (⟨(ad.add (k * 6)).block, (ad.add (k * 6)).off + 1, none⟩, iv xa), (⟨(ad.add (k * 6)).block, (ad.add (k * 6)).off + 2, none⟩, iv xb), (⟨(ad.add (k * 6)).block, (ad.add (k * 6)).off + 3, none⟩, iv xd), (⟨(ad.add (k * 6)).block, (ad.add (k * 6)).off + 4, none⟩, .slice XA xm xc), (⟨(ad.add (k * 6)).block, (ad.add (k * 6)).off + 5, none⟩, sv xs), (be.add (k * 6), iv yk), (⟨(be.add (k * 6)).block, (be.add (k * 6)).off + 1, none⟩, iv ya), (⟨(be.add (k * 6)).block, (be.add (k * 6)).off + 2, none⟩, iv yb), (⟨(be.add (k * 6)).block, (be.add (k * 6)).off + 3, none⟩, iv yd), (⟨(be.add (k * 6)).block, (be.add (k * 6)).off + 4, none⟩, .slice YA ym yc), (⟨(be.add (k * 6)).block, (be.add (k * 6)).off + 5, none⟩, sv ys)] wr.drew) := Lib.hid ⟨q2, q5, a0, a1, a2, a3, a4, a5, b0, b1, b2, b3, b4, b5, trivial⟩
            have HX := Lib.hid hx
            have HY := Lib.hid hy
            have HXR := Lib.hid hxr
            have HYR := Lib.hid hyr
            have HXM := Lib.hid hxm
            have HNE : Hid ((⟨xk, xa, xb, xd, xl, xs⟩ : OpF) ≠ ⟨yk, ya, yb, yd, yl, ys⟩ → ∀ w', Below w.heap.size w w' → Hid (Says ((⟨xp, xr, us.map OV.o⟩ : CdF) = ⟨xp, xr, vs.map OV.o⟩) w (.returned (.bool false)) w')) := Lib.hid fun hne w' hb => Lib.hid ⟨false, rfl, ⟨(fun e => by cases e), fun e => absurd (by
              have e3 := congrArg (fun c : CdF => c.ops[k]?) e
              simp only [List.getElem?_map, hx, hy, Option.map_some] at e3
              exact Option.some.inj e3) hne⟩, hb⟩
            have HYM := Lib.hid hym
            clear hxr hyr hx hy hxm hym hA hBE hbw hb a0 a1 a2 a3 a4 a5 b0 b1 b2 b3 b4 b5
            go_wp2_with fail
            refine wp_region_loads (AtCells [(⟨w.heap.size, 2, none⟩, .slice (some ad) n c), (⟨w.heap.size + 1, 2, none⟩, .slice (some be) n d), (ad.add (k * 6), iv xk), (⟨(ad.add (k * 6)).block, (ad.add (k * 6)).off + 1, none⟩, iv xa), (⟨(ad.add (k * 6)).block, (ad.add (k * 6)).off + 2, none⟩, iv xb), (⟨(ad.add (k * 6)).block, (ad.add (k * 6)).off + 3, none⟩, iv xd), (⟨(ad.add (k * 6)).block, (ad.add (k * 6)).off + 4, none⟩, .slice XA xm xc), (⟨(ad.add (k * 6)).block, (ad.add (k * 6)).off + 5, none⟩, sv xs), (be.add (k * 6), iv yk), (⟨(be.add (k * 6)).block, (be.add (k * 6)).off + 1, none⟩, iv ya), (⟨(be.add (k * 6)).block, (be.add (k * 6)).off + 2, none⟩, iv yb), (⟨(be.add (k * 6)).block, (be.add (k * 6)).off + 3, none⟩, iv yd), (⟨(be.add (k * 6)).block, (be.add (k * 6)).off + 4, none⟩, .slice YA ym yc), (⟨(be.add (k * 6)).block, (be.add (k * 6)).off + 5, none⟩, sv ys)]) [0, 1, 2, 3, 4, 5, 6, 7, 8, 9] [13] 4 (by kernel_rfl) (by kernel_rfl) (by kernel_rfl) HS0.out ?ha
            case ha =>
            simp only [opsAt, List.filterMap_cons, List.filterMap_nil, List.getElem?_toArray, List.getElem?_cons_succ, List.getElem?_cons_zero]
            refine wpLoad_step ?vaa0 rfl (fun w' hS => ?yaa0) ?kaa0
            case yaa0 =>
              obtain ⟨g0, g1, g2, g3, g4, g5, g6, g7, g8, g9, g10, g11, g12, g13, _⟩ := hS
              go_simp
              try rfl
            case kaa0 =>
            go_simp
            refine wpLoad_step ?vaa1 rfl (fun w' hS => ?yaa1) ?kaa1
            case yaa1 =>
              obtain ⟨g0, g1, g2, g3, g4, g5, g6, g7, g8, g9, g10, g11, g12, g13, _⟩ := hS
              go_simp
              try rfl
            case kaa1 =>
            go_simp
            refine wpLoad_step ?vaa2 rfl (fun w' hS => ?yaa2) ?kaa2
            case yaa2 =>
              obtain ⟨g0, g1, g2, g3, g4, g5, g6, g7, g8, g9, g10, g11, g12, g13, _⟩ := hS
              go_simp
              try rfl
            case kaa2 =>
            go_simp
            refine wpLoad_step ?vaa3 rfl (fun w' hS => ?yaa3) ?kaa3
            case yaa3 =>
              obtain ⟨g0, g1, g2, g3, g4, g5, g6, g7, g8, g9, g10, g11, g12, g13, _⟩ := hS
              go_simp
              try rfl
            case kaa3 =>
            go_simp
            refine wpLoad_step ?vaa4 rfl (fun w' hS => ?yaa4) ?kaa4
            case yaa4 =>
              obtain ⟨g0, g1, g2, g3, g4, g5, g6, g7, g8, g9, g10, g11, g12, g13, _⟩ := hS
              go_simp
              try rfl
            case kaa4 =>
            go_simp
            refine wpLoad_step ?vaa5 rfl (fun w' hS => ?yaa5) ?kaa5
            case yaa5 =>
              obtain ⟨g0, g1, g2, g3, g4, g5, g6, g7, g8, g9, g10, g11, g12, g13, _⟩ := hS
              go_simp
              try rfl
            case kaa5 =>
            go_simp
            refine wpLoad_step ?vaa6 rfl (fun w' hS => ?yaa6) ?kaa6
            case yaa6 =>
              obtain ⟨g0, g1, g2, g3, g4, g5, g6, g7, g8, g9, g10, g11, g12, g13, _⟩ := hS
              go_simp
              try rfl
            case kaa6 =>
            go_simp
            refine wpLoad_step ?vaa7 rfl (fun w' hS => ?yaa7) ?kaa7
            case yaa7 =>
              obtain ⟨g0, g1, g2, g3, g4, g5, g6, g7, g8, g9, g10, g11, g12, g13, _⟩ := hS
              go_simp
              try rfl
            case kaa7 =>
            go_simp
            refine wpLoad_step ?vaa8 rfl (fun w' hS => ?yaa8) ?kaa8
            case yaa8 =>
              obtain ⟨g0, g1, g2, g3, g4, g5, g6, g7, g8, g9, g10, g11, g12, g13, _⟩ := hS
              go_simp
              try rfl
            case kaa8 =>
            go_simp
            refine wpLoad_step ?vaa9 rfl (fun w' hS => ?yaa9) ?kaa9
            case yaa9 =>
              obtain ⟨g0, g1, g2, g3, g4, g5, g6, g7, g8, g9, g10, g11, g12, g13, _⟩ := hS
              go_simp
              try rfl
            case kaa9 =>
            go_simp
            refine wpLoad_nil ?_
            refine wpSa_two (n := 3) (k1 := 10) (k2 := 11) (by kernel_rfl) ?o1 ?o2
            case o1 =>
              refine wpOp_go rfl rfl ?_
              go_simp
              refine ⟨HS0.out.below (w' := (wr.drew.alloc _)) ((Below.refl _ _).alloc (Nat.le_refl _) _), ?_⟩
              refine wpSa_one (n := 2) (k := 11) (by kernel_rfl) ?_
              refine wpOp_go rfl rfl ?_
              go_simp
              refine ⟨HS0.out.below (w' := ((wr.drew.alloc _).alloc _)) (((Below.refl _ _).alloc (Nat.le_refl _) _).alloc (by simp) _), ?_⟩
              refine wpSa_one (n := 1) (k := 12) (by kernel_rfl) ?_
              refine wpOp_go rfl rfl ?_
              go_simp
              refine ⟨HS0.out.below (w' := ((wr.drew.alloc _).alloc _)) (((Below.refl _ _).alloc (Nat.le_refl _) _).alloc (by simp) _), ?_⟩
              refine wpSa_one (n := 0) (k := 13) (by kernel_rfl) ?_
              refine wpOp_go rfl rfl ?_
              go_simp
              refine wpSa_end (by kernel_rfl) ?_
              refine NoPanic.normal ?_
              obtain ⟨wz, hwz⟩ : ∃ wz, wz = ((wr.alloc (.cells #[.int .i64 xk, .int .i64 xa, .int .i64 xb, .int .i64 xd, .slice XA xm xc, .string (bs xs)] 60)).alloc (.cells #[.int .i64 yk, .int .i64 ya, .int .i64 yb, .int .i64 yd, .slice YA ym yc, .string (bs ys)] 60)).drew := ⟨_, rfl⟩
              have hbz : Below wr.heap.size wr wz := by rw [hwz]; exact (((Below.refl _ _).alloc (Nat.le_refl _) _).alloc (by simp) _).drew
              have hh : wz.heap[wr.heap.size]? = some (.cells #[.int .i64 xk, .int .i64 xa, .int .i64 xb, .int .i64 xd, .slice XA xm xc, .string (bs xs)] 60 (0, 0)) ∧ wz.heap[wr.heap.size + 1]? = some (.cells #[.int .i64 yk, .int .i64 ya, .int .i64 yb, .int .i64 yd, .slice YA ym yc, .string (bs ys)] 60 (0, 0)) := by rw [hwz]; exact alloc2 wr _ _
              have hx' : wz.heap[wr.heap.size]? = some (.cells #[.int .i64 xk, .int .i64 xa, .int .i64 xb, .int .i64 xd, .slice XA xm xc, .string (bs xs)] 60 (0, 0)) := hh.1
              have hy' : wz.heap[(wr.heap.size + 1)]? = some (.cells #[.int .i64 yk, .int .i64 ya, .int .i64 yb, .int .i64 yd, .slice YA ym yc, .string (bs ys)] 60 (0, 0)) := hh.2
              rw [← hwz]
              clear hwz hh
              have z0 : wz.cell? ⟨wr.heap.size, 0, none⟩ = some (.int .i64 xk) := (Lib.cell_of_heap hx' _).trans rfl
              have z1 : wz.cell? ⟨wr.heap.size, 1, none⟩ = some (.int .i64 xa) := (Lib.cell_of_heap hx' _).trans rfl
              have z2 : wz.cell? ⟨wr.heap.size, 2, none⟩ = some (.int .i64 xb) := (Lib.cell_of_heap hx' _).trans rfl
              have z3 : wz.cell? ⟨wr.heap.size, 3, none⟩ = some (.int .i64 xd) := (Lib.cell_of_heap hx' _).trans rfl
              have z4 : wz.cell? ⟨wr.heap.size, 4, none⟩ = some (.slice XA xm xc) := (Lib.cell_of_heap hx' _).trans rfl
              have z5 : wz.cell? ⟨wr.heap.size, 5, none⟩ = some (.string (bs xs)) := (Lib.cell_of_heap hx' _).trans rfl
              have y0 : wz.cell? ⟨(wr.heap.size + 1), 0, none⟩ = some (.int .i64 yk) := (Lib.cell_of_heap hy' _).trans rfl
              have y1 : wz.cell? ⟨(wr.heap.size + 1), 1, none⟩ = some (.int .i64 ya) := (Lib.cell_of_heap hy' _).trans rfl
              have y2 : wz.cell? ⟨(wr.heap.size + 1), 2, none⟩ = some (.int .i64 yb) := (Lib.cell_of_heap hy' _).trans rfl
              have y3 : wz.cell? ⟨(wr.heap.size + 1), 3, none⟩ = some (.int .i64 yd) := (Lib.cell_of_heap hy' _).trans rfl
              have y4 : wz.cell? ⟨(wr.heap.size + 1), 4, none⟩ = some (.slice YA ym yc) := (Lib.cell_of_heap hy' _).trans rfl
              have y5 : wz.cell? ⟨(wr.heap.size + 1), 5, none⟩ = some (.string (bs ys)) := (Lib.cell_of_heap hy' _).trans rfl
              have HBW : Hid (Below w.heap.size w wz) := Lib.hid (HBA.out.trans ((HB.out.trans (hbz.mono HB.out.size)).mono HBA.out.size))
              have HBZ := Lib.hid hbz
              clear hbz hx' hy'
              by_cases e0 : xk = yk
              · subst e0
                by_cases e1 : xa = ya
                · subst e1
                  by_cases e2 : xb = yb
                  · subst e2
                    by_cases e3 : xd = yd
                    · subst e3
                      by_cases e5 : xs = ys
                      · subst e5
                        have hwr : w.heap.size ≤ wr.heap.size := Nat.le_trans HBA.out.size HB.out.size
                        have HCL := Lib.hid (sameNumbers_any xl yl XA YA xc yc wz ((HXR.out.keep fun p hp => HBZ.out.cell (Nat.lt_of_lt_of_le hp hwr)).more fun b hb => Nat.lt_of_lt_of_le (Nat.lt_of_lt_of_le hb hwr) HBZ.out.size) ((HYR.out.keep fun p hp => HBZ.out.cell (Nat.lt_of_lt_of_le hp hwr)).more fun b hb => Nat.lt_of_lt_of_le (Nat.lt_of_lt_of_le hb hwr) HBZ.out.size) (HL.out _ (List.mem_map.2 ⟨_, List.mem_of_getElem? HX.out, rfl⟩)))
                        rw [← HXM.out, ← HYM.out] at HCL
                        go_wp2_with fail
                        refine HCL.out.mono ?_
                        rintro e wq ⟨r, rfl, hr, hbq⟩
                        have HR := Lib.hid hr
                        have HBQ : Hid (Below w.heap.size w wq) := Lib.hid (HBW.out.trans (hbq.mono HBW.out.size))
                        have HBQA : Hid (Below wa.heap.size wa wq) := Lib.hid ((HB.out.trans (HBZ.out.mono HB.out.size)).trans (hbq.mono (Nat.le_trans HB.out.size HBZ.out.size)))
                        clear hr hbq HCL z0 z1 z2 z3 z4 z5 y0 y1 y2 y3 y4 y5
                        cases r with
                        | true =>
                          go_wp2
                          try rw [← HAD.out, ← HBE.out]
                          go_roundw
                          case rel => exact ⟨k + 1, by omega, by go_num, take_next (x := ⟨xk, xa, xb, xd, xl, xs⟩) (y := ⟨xk, xa, xb, xd, yl, xs⟩) HQ.out (by simp [HX.out]) (by simp [HY.out]) (by rw [HR.out.1 trivial]), HBQA.out⟩
                          case measure => simp [intOf]; omega
                        | false =>
                          have HRES := HNE.out (fun e => by have := HR.out.2 (congrArg OpF.list e); cases this) wq HBQ.out
                          go_wp2
                          go_ret
                          exact HRES.out
                      · have hq : ((bs xs).toList == (bs ys).toList) = false := by
                          rw [ByteArray.toList_eq, ByteArray.toList_eq, bs_data, bs_data]
                          simpa using e5
                        have HRES := HNE.out (fun e => e5 (congrArg OpF.sym e)) wz HBW.out
                        skip
                        go_wp2
                        go_ret
                        exact HRES.out
                    · have hq : (xd == yd) = false := by simp [e3]
                      have hq2 : (xd != yd) = true := by simp [e3]
                      have HRES := HNE.out (fun e => e3 (congrArg OpF.c e)) wz HBW.out
                      skip
                      go_wp2
                      go_ret
                      exact HRES.out
                  · have hq : (xb == yb) = false := by simp [e2]
                    have hq2 : (xb != yb) = true := by simp [e2]
                    have HRES := HNE.out (fun e => e2 (congrArg OpF.b e)) wz HBW.out
                    skip
                    go_wp2
                    go_ret
                    exact HRES.out
                · have hq : (xa == ya) = false := by simp [e1]
                  have hq2 : (xa != ya) = true := by simp [e1]
                  have HRES := HNE.out (fun e => e1 (congrArg OpF.a e)) wz HBW.out
                  skip
                  go_wp2
                  go_ret
                  exact HRES.out
              · have hq : (xk == yk) = false := by simp [e0]
                have hq2 : (xk != yk) = true := by simp [e0]
                have HRES := HNE.out (fun e => e0 (congrArg OpF.kind e)) wz HBW.out
                skip
                go_wp2
                go_ret
                exact HRES.out
            case o2 =>
              refine wpOp_go rfl rfl ?_
              go_simp
              refine ⟨HS0.out.below (w' := (wr.drew.alloc _)) ((Below.refl _ _).alloc (Nat.le_refl _) _), ?_⟩
              refine wpSa_one (n := 2) (k := 10) (by kernel_rfl) ?_
              refine wpOp_go rfl rfl ?_
              go_simp
              refine ⟨HS0.out.below (w' := ((wr.drew.alloc _).alloc _)) (((Below.refl _ _).alloc (Nat.le_refl _) _).alloc (by simp) _), ?_⟩
              refine wpSa_one (n := 1) (k := 12) (by kernel_rfl) ?_
              refine wpOp_go rfl rfl ?_
              go_simp
              refine ⟨HS0.out.below (w' := ((wr.drew.alloc _).alloc _)) (((Below.refl _ _).alloc (Nat.le_refl _) _).alloc (by simp) _), ?_⟩
              refine wpSa_one (n := 0) (k := 13) (by kernel_rfl) ?_
              refine wpOp_go rfl rfl ?_
              go_simp
              refine wpSa_end (by kernel_rfl) ?_
              refine NoPanic.normal ?_
              obtain ⟨wz, hwz⟩ : ∃ wz, wz = ((wr.alloc (.cells #[.int .i64 yk, .int .i64 ya, .int .i64 yb, .int .i64 yd, .slice YA ym yc, .string (bs ys)] 60)).alloc (.cells #[.int .i64 xk, .int .i64 xa, .int .i64 xb, .int .i64 xd, .slice XA xm xc, .string (bs xs)] 60)).drew := ⟨_, rfl⟩
              have hbz : Below wr.heap.size wr wz := by rw [hwz]; exact (((Below.refl _ _).alloc (Nat.le_refl _) _).alloc (by simp) _).drew
              have hh : wz.heap[wr.heap.size]? = some (.cells #[.int .i64 yk, .int .i64 ya, .int .i64 yb, .int .i64 yd, .slice YA ym yc, .string (bs ys)] 60 (0, 0)) ∧ wz.heap[wr.heap.size + 1]? = some (.cells #[.int .i64 xk, .int .i64 xa, .int .i64 xb, .int .i64 xd, .slice XA xm xc, .string (bs xs)] 60 (0, 0)) := by rw [hwz]; exact alloc2 wr _ _
              have hx' : wz.heap[(wr.heap.size + 1)]? = some (.cells #[.int .i64 xk, .int .i64 xa, .int .i64 xb, .int .i64 xd, .slice XA xm xc, .string (bs xs)] 60 (0, 0)) := hh.2
              have hy' : wz.heap[wr.heap.size]? = some (.cells #[.int .i64 yk, .int .i64 ya, .int .i64 yb, .int .i64 yd, .slice YA ym yc, .string (bs ys)] 60 (0, 0)) := hh.1
              rw [← hwz]
              clear hwz hh
              have z0 : wz.cell? ⟨(wr.heap.size + 1), 0, none⟩ = some (.int .i64 xk) := (Lib.cell_of_heap hx' _).trans rfl
              have z1 : wz.cell? ⟨(wr.heap.size + 1), 1, none⟩ = some (.int .i64 xa) := (Lib.cell_of_heap hx' _).trans rfl
              have z2 : wz.cell? ⟨(wr.heap.size + 1), 2, none⟩ = some (.int .i64 xb) := (Lib.cell_of_heap hx' _).trans rfl
              have z3 : wz.cell? ⟨(wr.heap.size + 1), 3, none⟩ = some (.int .i64 xd) := (Lib.cell_of_heap hx' _).trans rfl
              have z4 : wz.cell? ⟨(wr.heap.size + 1), 4, none⟩ = some (.slice XA xm xc) := (Lib.cell_of_heap hx' _).trans rfl
              have z5 : wz.cell? ⟨(wr.heap.size + 1), 5, none⟩ = some (.string (bs xs)) := (Lib.cell_of_heap hx' _).trans rfl
              have y0 : wz.cell? ⟨wr.heap.size, 0, none⟩ = some (.int .i64 yk) := (Lib.cell_of_heap hy' _).trans rfl
              have y1 : wz.cell? ⟨wr.heap.size, 1, none⟩ = some (.int .i64 ya) := (Lib.cell_of_heap hy' _).trans rfl
              have y2 : wz.cell? ⟨wr.heap.size, 2, none⟩ = some (.int .i64 yb) := (Lib.cell_of_heap hy' _).trans rfl
              have y3 : wz.cell? ⟨wr.heap.size, 3, none⟩ = some (.int .i64 yd) := (Lib.cell_of_heap hy' _).trans rfl
              have y4 : wz.cell? ⟨wr.heap.size, 4, none⟩ = some (.slice YA ym yc) := (Lib.cell_of_heap hy' _).trans rfl
              have y5 : wz.cell? ⟨wr.heap.size, 5, none⟩ = some (.string (bs ys)) := (Lib.cell_of_heap hy' _).trans rfl
              have HBW : Hid (Below w.heap.size w wz) := Lib.hid (HBA.out.trans ((HB.out.trans (hbz.mono HB.out.size)).mono HBA.out.size))
              have HBZ := Lib.hid hbz
              clear hbz hx' hy'
              by_cases e0 : xk = yk
              · subst e0
                by_cases e1 : xa = ya
                · subst e1
                  by_cases e2 : xb = yb
                  · subst e2
                    by_cases e3 : xd = yd
                    · subst e3
                      by_cases e5 : xs = ys
                      · subst e5
                        have hwr : w.heap.size ≤ wr.heap.size := Nat.le_trans HBA.out.size HB.out.size
                        have HCL := Lib.hid (sameNumbers_any xl yl XA YA xc yc wz ((HXR.out.keep fun p hp => HBZ.out.cell (Nat.lt_of_lt_of_le hp hwr)).more fun b hb => Nat.lt_of_lt_of_le (Nat.lt_of_lt_of_le hb hwr) HBZ.out.size) ((HYR.out.keep fun p hp => HBZ.out.cell (Nat.lt_of_lt_of_le hp hwr)).more fun b hb => Nat.lt_of_lt_of_le (Nat.lt_of_lt_of_le hb hwr) HBZ.out.size) (HL.out _ (List.mem_map.2 ⟨_, List.mem_of_getElem? HX.out, rfl⟩)))
                        rw [← HXM.out, ← HYM.out] at HCL
                        go_wp2_with fail
                        refine HCL.out.mono ?_
                        rintro e wq ⟨r, rfl, hr, hbq⟩
                        have HR := Lib.hid hr
                        have HBQ : Hid (Below w.heap.size w wq) := Lib.hid (HBW.out.trans (hbq.mono HBW.out.size))
                        have HBQA : Hid (Below wa.heap.size wa wq) := Lib.hid ((HB.out.trans (HBZ.out.mono HB.out.size)).trans (hbq.mono (Nat.le_trans HB.out.size HBZ.out.size)))
                        clear hr hbq HCL z0 z1 z2 z3 z4 z5 y0 y1 y2 y3 y4 y5
                        cases r with
                        | true =>
                          go_wp2
                          try rw [← HAD.out, ← HBE.out]
                          go_roundw
                          case rel => exact ⟨k + 1, by omega, by go_num, take_next (x := ⟨xk, xa, xb, xd, xl, xs⟩) (y := ⟨xk, xa, xb, xd, yl, xs⟩) HQ.out (by simp [HX.out]) (by simp [HY.out]) (by rw [HR.out.1 trivial]), HBQA.out⟩
                          case measure => simp [intOf]; omega
                        | false =>
                          have HRES := HNE.out (fun e => by have := HR.out.2 (congrArg OpF.list e); cases this) wq HBQ.out
                          go_wp2
                          go_ret
                          exact HRES.out
                      · have hq : ((bs xs).toList == (bs ys).toList) = false := by
                          rw [ByteArray.toList_eq, ByteArray.toList_eq, bs_data, bs_data]
                          simpa using e5
                        have HRES := HNE.out (fun e => e5 (congrArg OpF.sym e)) wz HBW.out
                        skip
                        go_wp2
                        go_ret
                        exact HRES.out
                    · have hq : (xd == yd) = false := by simp [e3]
                      have hq2 : (xd != yd) = true := by simp [e3]
                      have HRES := HNE.out (fun e => e3 (congrArg OpF.c e)) wz HBW.out
                      skip
                      go_wp2
                      go_ret
                      exact HRES.out
                  · have hq : (xb == yb) = false := by simp [e2]
                    have hq2 : (xb != yb) = true := by simp [e2]
                    have HRES := HNE.out (fun e => e2 (congrArg OpF.b e)) wz HBW.out
                    skip
                    go_wp2
                    go_ret
                    exact HRES.out
                · have hq : (xa == ya) = false := by simp [e1]
                  have hq2 : (xa != ya) = true := by simp [e1]
                  have HRES := HNE.out (fun e => e1 (congrArg OpF.a e)) wz HBW.out
                  skip
                  go_wp2
                  go_ret
                  exact HRES.out
              · have hq : (xk == yk) = false := by simp [e0]
                have hq2 : (xk != yk) = true := by simp [e0]
                have HRES := HNE.out (fun e => e0 (congrArg OpF.kind e)) wz HBW.out
                skip
                go_wp2
                go_ret
                exact HRES.out
          · obtain rfl : k = n := by omega
            have HRES : Hid (Says ((⟨xp, xr, us.map OV.o⟩ : CdF) = ⟨xp, xr, vs.map OV.o⟩) w (.returned (.bool true)) wr) := Lib.hid ⟨true, rfl, ⟨fun _ => by
              rw [take_same (n := k) (by rw [List.length_map, HN.out]) (by rw [List.length_map, HM.out]) HQ.out], fun _ => rfl⟩, HBA.out.trans (hb.mono HBA.out.size)⟩
            clear hb
            go_wp2
            go_ret
            exact HRES.out
      · have HNO := no fun e => h3 e.2.2
        have hq : ¬ (n : Int) = (m : Int) := fun e => h3 (by omega)
        subst h1 h2
        clear no h3 hba hca
        go_enter Tryd.func13, Tryd.ntmps13
        go_wp2_with fail
        rw [← hwa]
        go_ret
        exact HNO.out _ HBA.out
    · have HNO := no fun e => h2 e.2.1
      subst h1
      clear no hba hca
      go_enter Tryd.func13, Tryd.ntmps13
      go_wp2_with fail
      rw [← hwa]
      go_ret
      exact HNO.out _ HBA.out
  · have HNO := no fun e => h1 e.1
    clear no hba hca
    go_enter Tryd.func13, Tryd.ntmps13
    go_wp2_with fail
    rw [← hwa]
    go_ret
    exact HNO.out _ HBA.out
end Go.Proofs.YtkggmckfdkpldaaDoor
